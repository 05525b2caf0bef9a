/- ImOps2: slices, strings and literals. -/
import Derived.Test.YtlognommhffmcaaImOps1
import Derived.Laws.BytesString
import Derived.Laws.Append
import Derived.Laws.Strings2
set_option linter.unusedVariables false
set_option linter.unusedSimpArgs false
namespace Go.Im

section
variable {P : Program} {E : Env} {h : Hp} {w : World} {r : Regs} {a : Act} {o : Oper} {reg : Reg}

/-- Elements that lie in the world, one behind the other. -/
def ElemsAt (E : Env) (w : World) (b o size : Nat) (es : List AV) : Prop :=
  ∀ (i : Nat) e, es[i]? = some e → e.cells.length = size ∧ CellsAt E (fun o => w.cell? ⟨b, o, none⟩) (o + i * size) e

/-- A slice value of these elements. -/
def SliceAt (E : Env) (w : World) (u : Value) (size : Nat) (es : List AV) : Prop :=
  (u = .slice none 0 0 ∧ es = []) ∨ (∃ z, u = .slice (some z) 0 0 ∧ es = []) ∨ ∃ b o cap, u = .slice (some ⟨b, o, none⟩) es.length cap ∧ es.length ≤ cap ∧ ElemsAt E w b o size es

theorem take_drop_get {α : Type} {l : List α} {off n i : Nat} {x : α} (h : ((l.drop off).take n)[i]? = some x) : l[off + i]? = some x ∧ i < n := by
  simp only [List.getElem?_take, List.getElem?_drop] at h
  split at h
  · exact ⟨h, by assumption⟩
  · cases h

theorem row_of (hh : HRel E h w) {id s : Nat} {es : List AV} (he : h[id]? = some (.row s es)) : ∃ c T fr, w.heap[E.ob id]? = some (.cells c T fr) ∧ (∀ o, o < c.size → (fr.1 ≤ o && o < fr.2) = false) ∧ c.size = E.cp id * s ∧ es.length ≤ E.cp id ∧
    (∀ e ∈ es, e.cells.length = s) ∧ (∀ (i : Nat) e, es[i]? = some e → CellsAt E (fun o => c[o]?) (i * s) e) ∧ ∀ o, E.sg (E.ob id) o = none := hh.obj id _ he

theorem elems_spec (hh : HRel E h w) {v : AV} {u : Value} (hv : VRel E v u) {sz : Nat} {es : List AV} (he : elems h sz v = some es) : SliceAt E w u sz es := by
  cases hv <;> simp [elems] at he
  case nils => subst he; exact .inl ⟨rfl, rfl⟩
  case imz size a c hc => exact .inr (.inl ⟨_, rfl, by simpa using he.2⟩)
  case imm s es' c b off cap hcap hsz h1 hs hvr hc =>
    obtain ⟨rfl, rfl⟩ := he
    refine .inr <| .inr ⟨b, off, cap, rfl, hcap, fun i e hi => ⟨hsz e (List.mem_of_getElem? hi), fun k x hk => ?_⟩⟩
    have hlt := (List.getElem?_eq_some_iff.1 hi).1
    have hk' := (List.getElem?_eq_some_iff.1 hk).1
    rw [hsz e (List.mem_of_getElem? hi)] at hk'
    obtain ⟨u, hu⟩ := Option.isSome_iff_exists.1 (hs i k hlt hk')
    exact ⟨h1 e (List.mem_of_getElem? hi) x (List.mem_of_getElem? hk), u, hh.sg _ _ _ hu, hvr i e k x u hi hk hu⟩
  case row id s off n clip b o' cap hr =>
    split at he
    · rename_i s' es' hes
      split at he
      · rename_i hc
        obtain ⟨rfl, rfl, hle⟩ := hc
        cases he
        obtain ⟨q1, q2, q3, q4⟩ := hr
        have hl : ((es'.drop off).take n).length = n := by simp; omega
        obtain ⟨c, T, fr, p1, p2, p3, p4, p5, p6, p7⟩ := row_of hh hes
        refine .inr <| .inr ⟨b, o', cap, by rw [hl], by rw [hl]; exact q2, fun i e hi => ?_⟩
        obtain ⟨hi', hin⟩ := take_drop_get hi
        rcases q4 with ⟨rfl, rfl, _⟩ | ⟨q5, _⟩
        · refine ⟨p5 e (List.mem_of_getElem? hi'), ?_⟩
          have := (p6 (off + i) e hi').congr (c' := fun o => w.cell? ⟨E.ob id, o, none⟩) (fun k _ => cell_of p1 _)
          rwa [Nat.add_mul] at this
        · omega
      · cases he
    · cases he

/-- A part of an array, as elements of one cell. -/
theorem cells_elems {b o : Nat} {cs : List AV} (hc : CellsAt E (fun o => w.cell? ⟨b, o, none⟩) o (.agg cs)) {off n : Nat} : ElemsAt E w b (o + off) 1 ((cs.drop off).take n) := by
  intro i e hi
  obtain ⟨hi', hin⟩ := take_drop_get hi
  obtain ⟨h1, u, hu, hv⟩ := hc (off + i) e hi'
  refine ⟨by rw [AV.cells_of_one h1]; rfl, fun k x hk => ?_⟩
  rw [AV.cells_of_one h1] at hk
  cases k with
  | zero =>
    simp at hk; subst hk
    refine ⟨h1, u, ?_, hv⟩
    show w.cell? ⟨b, o + off + i * 1 + 0, none⟩ = some u
    rw [show o + off + i * 1 + 0 = o + (off + i) by omega]
    exact hu
  | succ k => simp at hk

theorem selems_spec (hf : FRel E h w r a.tmps) (hh : HRel E h w) {x : AX} {y : Operand} (hx : XRel E a x y) {sz : Nat} {es : List AV} (he : selems r h sz x = some es) : SliceAt E w (a.eval y) sz es := by
  cases x with
  | c v => exact elems_spec hh hx he
  | t n =>
    simp only [XRel] at hx
    subst hx
    have hr := hf.reg n
    simp only [selems] at he
    split at he
    · rename_i v hv
      rw [hv] at hr
      exact elems_spec hh hr he
    · rename_i t off m es' hv
      rw [hv] at hr
      split at he
      · rename_i cs hcs
        split at he
        · rename_i hc
          obtain ⟨rfl, rfl, hle⟩ := hc
          cases he
          obtain ⟨c, T, fr, p1, p2, p3, p4, p5, p6⟩ := var_at hf hcs
          obtain ⟨o', cap, q1, q2, q3⟩ := hr _ p1 ⟨_, hcs⟩
          have hl : ((cs.drop off).take m).length = m := by simp; omega
          refine .inr <| .inr ⟨_, o', cap, by rw [hl]; exact q1, by rw [hl]; exact q2, ?_⟩
          rcases q3 with rfl | rfl
          · have := cells_elems (w := w) (b := vb a.tmps t) (o := 0) (p5.congr (fun k _ => cell_of p2 _)) (off := o') (n := m)
            simpa using this
          · intro i e hi; simp at hi
        · cases he
      · cases he
    · rename_i id s i off m es' hv
      rw [hv] at hr
      split at he
      · rename_i s' vs hvs
        split at he
        · rename_i cs hcs
          split at he
          · rename_i hc
            obtain ⟨rfl, rfl, rfl, hle⟩ := hc
            cases he
            obtain ⟨q0, o', cap, q1, q2, q3⟩ := hr
            obtain ⟨c, T, fr, p1, p2, p3, p4, p5, p6, p7⟩ := row_of hh hvs
            have hl : ((cs.drop off).take m).length = m := by simp; omega
            refine .inr <| .inr ⟨_, o', cap, by rw [hl]; exact q1, by rw [hl]; exact q2, ?_⟩
            rcases q3 with rfl | rfl
            · exact cells_elems (w := w) (b := E.ob id) (o := i * s') ((p6 i _ hcs).congr (fun k _ => cell_of p1 _)) (off := off) (n := m)
            · intro i e hi; simp at hi
          · cases he
        · cases he
      · cases he
    · cases he

/-- The elements' cells, one behind the other. -/
def flat (es : List AV) : List AV := es.flatMap AV.cells

theorem flat_get {size : Nat} {es : List AV} (hs : ∀ e ∈ es, e.cells.length = size) : (flat es).length = es.length * size ∧ ∀ (j : Nat) x, (flat es)[j]? = some x → ∃ e, es[j / size]? = some e ∧ e.cells[j % size]? = some x := by
  induction es with
  | nil => simp [flat]
  | cons e es ih =>
    obtain ⟨i1, i2⟩ := ih fun x hx => hs x (by simp [hx])
    have he := hs e (by simp)
    simp only [flat, List.flatMap_cons] at *
    refine ⟨by rw [List.length_append, he, i1, List.length_cons, Nat.succ_mul, Nat.add_comm], fun j x hj => ?_⟩
    by_cases hlt : j < size
    · rw [List.getElem?_append_left (by omega)] at hj
      exact ⟨e, by rw [Nat.div_eq_of_lt hlt]; rfl, by rw [Nat.mod_eq_of_lt hlt]; exact hj⟩
    · rw [List.getElem?_append_right (by omega), he] at hj
      obtain ⟨e', h1, h2⟩ := i2 _ x hj
      have hpos : 0 < size := by
        rcases Nat.eq_zero_or_pos size with h0 | h0
        · subst h0
          have hl := (List.getElem?_eq_some_iff.1 hj).1
          rw [i1] at hl
          simp at hl
        · exact h0
      have hj' : j = (j - size) + size := by omega
      refine ⟨e', ?_, ?_⟩
      · rw [hj', Nat.add_div_right _ hpos]; exact h1
      · rw [hj', Nat.add_mod_right]; exact h2

/-- The cells of elements in the world, as a list of the model's values. -/
theorem ElemsAt.cells {b o size : Nat} {es : List AV} (he : ElemsAt E w b o size es) : ∃ us : List Value, us.length = es.length * size ∧ (∀ j u, us[j]? = some u → w.cell? ⟨b, o + j, none⟩ = some u) ∧
    (∀ (j : Nat) x u, (flat es)[j]? = some x → us[j]? = some u → x.one = true ∧ VRel E x u) := by
  have hs : ∀ e ∈ es, e.cells.length = size := fun e hm => by
    obtain ⟨i, hi, rfl⟩ := List.getElem_of_mem hm
    exact (he i _ (List.getElem?_eq_getElem hi)).1
  obtain ⟨hl, hg⟩ := flat_get hs
  have hcell : ∀ (j : Nat) x, (flat es)[j]? = some x → x.one = true ∧ ∃ u, w.cell? ⟨b, o + j, none⟩ = some u ∧ VRel E x u := fun j x hj => by
    obtain ⟨e, h1, h2⟩ := hg j x hj
    obtain ⟨p1, u, p2, p3⟩ := (he _ e h1).2 _ x h2
    refine ⟨p1, u, ?_, p3⟩
    rw [← p2]
    congr 2
    have := Nat.div_add_mod j size
    rw [Nat.mul_comm] at this
    omega
  let f : Nat → Value := fun j => (w.cell? ⟨b, o + j, none⟩).getD undef
  have hfj : ∀ (j : Nat) u, ((List.range (es.length * size)).map f)[j]? = some u → j < es.length * size ∧ u = f j := fun j u hj => by
    have hj1 := (List.getElem?_eq_some_iff.1 hj).1
    simp at hj1
    simp [hj1] at hj
    exact ⟨hj1, hj.symm⟩
  refine ⟨(List.range (es.length * size)).map f, by simp, fun j u hj => ?_, fun j x u hj hu => ?_⟩
  · obtain ⟨hj1, rfl⟩ := hfj j u hj
    obtain ⟨_, u, hu, _⟩ := hcell j _ (List.getElem?_eq_getElem (by omega : j < (flat es).length))
    simp [f, hu]
  · obtain ⟨p1, u', hu', p3⟩ := hcell j x hj
    obtain ⟨hj1, rfl⟩ := hfj j u hu
    have : f j = u' := by simp [f, hu']
    rw [this]
    exact ⟨p1, p3⟩

theorem toBytes_spec : ∀ {es : List AV} {s : List UInt8}, toBytes es = some s → ∃ ns : List Int, es = ns.map (.int .u8) ∧ s = ns.map fun n => UInt8.ofNat n.toNat
  | [], s, h => by simp [toBytes] at h; exact ⟨[], rfl, by simp [h]⟩
  | e :: es, s, h => by
    cases e with
    | int k n =>
      cases k <;> simp only [toBytes] at h <;> first
        | (obtain ⟨s', hs', rfl⟩ := map_some h
           obtain ⟨ns, rfl, rfl⟩ := toBytes_spec hs'
           exact ⟨n :: ns, rfl, rfl⟩)
        | cases h
    | _ => simp [toBytes] at h

theorem foldl_push (ns : List Int) (l : List UInt8) : ns.foldl (fun r n => r.push (UInt8.ofNat n.toNat)) (⟨l.toArray⟩ : ByteArray) = ⟨(l ++ ns.map fun n => UInt8.ofNat n.toNat).toArray⟩ := by
  induction ns generalizing l with
  | nil => simp
  | cons n ns ih =>
    simp only [List.foldl_cons]
    have : (⟨l.toArray⟩ : ByteArray).push (UInt8.ofNat n.toNat) = ⟨(l ++ [UInt8.ofNat n.toNat]).toArray⟩ := by
      show (⟨l.toArray.push _⟩ : ByteArray) = _
      simp
    rw [this, ih]
    simp

theorem flat_one {es : List AV} (h : ∀ e ∈ es, e.one = true) : flat es = es := by
  induction es with
  | nil => rfl
  | cons e es ih =>
    simp only [flat, List.flatMap_cons] at *
    rw [AV.cells_of_one (h e (by simp)), ih fun x hx => h x (by simp [hx])]
    rfl

theorem ev_bytesToStr (hf : FRel E h w r a.tmps) (hh : HRel E h w) {t t' e : TypeId} {y : Operand} {x : AX} (ho : o.op = .convert t t' y) (hx : XRel E a x y) (ht : P.underlying t = some (.slice e)) (ht' : P.underlying t' = some .string)
    (hu : P.underlying e = some (.int .u8)) (he : evalV r h (.bytesToStr x) = some reg) : Pure P E h w r a o reg := by
  simp only [evalV] at he
  split at he
  · rename_i es hes
    obtain ⟨s, hs, rfl⟩ := map_some he
    obtain ⟨ns, rfl, rfl⟩ := toBytes_spec hs
    rcases selems_spec hf hh hx hes with ⟨h1, h2⟩ | ⟨z, h1, h2⟩ | ⟨b, off, cap, h1, h2, h3⟩
    · have : ns = [] := by simpa using h2
      subst this
      refine .val (u := .string ⟨#[]⟩) ?_ (.str _)
      simp [execOp, ho, h1, convert, run_underlying ht, run_underlying ht', run_underlying hu, Conv.bytesToString]
      rfl
    · have : ns = [] := by simpa using h2
      subst this
      have hlc := run_loadCells_list (P := P) w z [] (fun j y hj => by simp at hj)
      simp only [List.length_nil] at hlc
      refine .val (u := .string ⟨#[]⟩) ?_ (.str _)
      simp [execOp, ho, h1, convert, run_underlying ht, run_underlying ht', run_underlying hu, Conv.bytesToString, hlc]
      rfl
    · obtain ⟨us, q1, q2, q3⟩ := h3.cells
      have hus : us = ns.map (Value.int .u8) := by
        apply List.ext_getElem?
        intro j
        by_cases hj : j < ns.length
        · have hj1 : j < us.length := by simp at q1; omega
          have := q3 j (.int .u8 ns[j]) us[j] (by rw [flat_one (by simp [AV.one])]; simp [hj]) (List.getElem?_eq_getElem hj1)
          rw [List.getElem?_eq_getElem hj1, int_inv this.2]
          simp [hj]
        · rw [List.getElem?_eq_none (by simp at q1; omega), List.getElem?_eq_none (by simp; omega)]
      subst hus
      have hl := run_loadCells_list (P := P) w ⟨b, off, none⟩ (ns.map (Value.int .u8)) (fun j u hj => by rw [addr_add]; exact q2 j u hj)
      have hrun := run_bytesToString w ⟨b, off, none⟩ (ns.map (AV.int .u8)).length cap ns (by simpa using hl)
      have e0 : (ByteArray.empty : ByteArray) = ⟨([] : List UInt8).toArray⟩ := rfl
      rw [e0, foldl_push] at hrun
      refine .val (u := .string ⟨(ns.map fun n => UInt8.ofNat n.toNat).toArray⟩) ?_ (.str _)
      simp at hrun
      simp [execOp, ho, h1, convert, run_underlying ht, run_underlying ht', run_underlying hu, hrun]
  · cases he

theorem ev_lenS (hf : FRel E h w r a.tmps) {t ty : TypeId} {y : Operand} {x : AX} {e : TypeId} (ho : o.op = .call { callee := .builtin .len, args := #[y], argTypes := #[t] }) (hx : XRel E a x y) (ht : P.underlying t = some (.slice e))
    (he : evalV r h (.lenS x) = some reg) : Pure P E h w r a o reg := by
  simp only [evalV] at he
  split at he
  · rename_i v hv
    obtain ⟨n, hn, rfl⟩ := map_some he
    have h1 := vl_spec hf hx hv
    have : ∃ b c, a.eval y = .slice b n c := by
      generalize a.eval y = u at h1
      cases h1 <;> simp [lenSl] at hn <;> subst hn <;> exact ⟨_, _, rfl⟩
    obtain ⟨b, c, hu⟩ := this
    exact .val (u := goInt n) (by simp [execOp, ho, resolve, invoke, builtin, hu, Builtin.len_, run_underlying ht]) (.int _ _)
  · cases he

theorem ev_lenStr (hf : FRel E h w r a.tmps) {t ty : TypeId} {y : Operand} {x : AX} (ho : o.op = .call { callee := .builtin .len, args := #[y], argTypes := #[t] }) (hx : XRel E a x y) (ht : P.underlying t = some .string)
    (he : evalV r h (.lenStr x) = some reg) : Pure P E h w r a o reg := by
  simp only [evalV] at he
  split at he
  · rename_i s hv
    cases he
    have h1 := str_inv (vl_spec hf hx hv)
    refine .val (u := goInt s.length) ?_ (.int _ _)
    simp [execOp, ho, resolve, invoke, builtin, h1, Builtin.len_, run_underlying ht, ba_size]
  · cases he

theorem run_getObj' {i : Nat} {ob : Obj} (hb : w.heap[i]? = some ob) (hn : ∀ c T fr, ob ≠ .cells c T fr) : (getObj i).run P w = .ok ob w := by
  unfold getObj
  simp only [Sem.run, hb]
  all_goals (cases ob <;> first | exact absurd rfl (hn _ _ _) | rfl)

theorem map_of (hh : HRel E h w) {v : AV} {u : Value} (hv : VRel E v u) {es : List (AV × AV × Nat)} (he : mapOf h v = some es) :
    (u = .map none ∧ es = []) ∨ ∃ b ents clock, u = .map (some b) ∧ w.heap[b]? = some (.map ents clock) ∧ es.length = ents.size ∧ ∀ (i : Nat) e m, es[i]? = some e → ents[i]? = some m → VRel E e.1 m.key ∧ VRel E e.2.1 m.val ∧ e.2.2 = m.born := by
  cases hv <;> simp [mapOf] at he
  case nilm => subst he; exact .inl ⟨rfl, rfl⟩
  case mp id hid =>
    split at he
    · rename_i es' clock hes
      cases he
      obtain ⟨ents, h1, h2, h3, _⟩ := hh.obj id _ hes
      exact .inr ⟨_, ents, clock, rfl, h1, h2, h3⟩
    · cases he

theorem ev_lenM (hf : FRel E h w r a.tmps) (hh : HRel E h w) {t ty : TypeId} {y : Operand} {x : AX} {k e : TypeId} (ho : o.op = .call { callee := .builtin .len, args := #[y], argTypes := #[t] }) (hx : XRel E a x y) (ht : P.underlying t = some (.map k e))
    (he : evalV r h (.lenM x) = some reg) : Pure P E h w r a o reg := by
  simp only [evalV] at he
  split at he
  · rename_i v hv
    obtain ⟨es, hes, rfl⟩ := map_some he
    rcases map_of hh (vl_spec hf hx hv) hes with ⟨h1, rfl⟩ | ⟨b, ents, clock, h1, h2, h3, _⟩
    · exact .val (u := goInt 0) (by simp [execOp, ho, resolve, invoke, builtin, h1, Builtin.len_, run_underlying ht]) (.int _ _)
    · have hg := run_getObj' (P := P) h2 (fun _ _ _ e => by cases e)
      refine .val (u := goInt ents.size) ?_ ?_
      · simp [execOp, ho, resolve, invoke, builtin, h1, Builtin.len_, run_underlying ht, hg]
      · rw [h3]; exact .int _ _
  · cases he

def nkD : NK → TypeDesc → Prop
  | .p, d => ∃ e, d = .pointer e
  | .s, d => ∃ e, d = .slice e
  | .m, d => ∃ k e, d = .map k e
  | .f, d => ∃ p q v, d = .func p q v

def nkV : NK → Value → Prop
  | .p, v => v = .pointer none
  | .s, v => ∃ n c, v = .slice none n c
  | .m, v => v = .map none
  | .f, v => v = .nilFunc

theorem isNil_spec {k : NK} {v : AV} {u z : Value} {b : Bool} (hv : VRel E v u) (hb : isNil k v = some b) {t : TypeId} {d : TypeDesc} (ht : P.underlying t = some d) (hd : nkD k d) (hz : nkV k z) (n : Nat) :
    (Op.equalIn (n + 1) t u z).run P w = .ok b w := by
  cases k <;> simp only [nkD, nkV] at hd hz
  · obtain ⟨e, rfl⟩ := hd; subst hz
    cases hv <;> simp [isNil] at hb <;> subst hb <;> simp [Op.equalIn, run_underlying ht]
  · obtain ⟨e, rfl⟩ := hd; obtain ⟨_, _, rfl⟩ := hz
    cases hv <;> simp [isNil] at hb <;> subst hb <;> simp [Op.equalIn, run_underlying ht]
  · obtain ⟨_, _, rfl⟩ := hd; subst hz
    cases hv <;> simp [isNil] at hb <;> subst hb <;> simp [Op.equalIn, run_underlying ht]
  · obtain ⟨_, _, _, rfl⟩ := hd; subst hz
    cases hv <;> simp [isNil] at hb <;> subst hb <;> simp [Op.equalIn, run_underlying ht]

theorem isNil_vals {k : NK} {v : AV} {u z : Value} {b : Bool} (hv : VRel E v u) (hb : isNil k v = some b) (hz : nkV k z) : (∀ cs, u ≠ .agg cs) ∧ u ≠ .nilIface := by
  cases k <;> cases hv <;> simp [isNil] at hb <;> exact ⟨(fun _ e => by cases e), (fun e => by cases e)⟩

theorem binOp_eql {k : NK} {v : AV} {u z : Value} {b : Bool} (hv : VRel E v u) (hb : isNil k v = some b) (hz : nkV k z) (t : TypeId) :
    binOp .eql t u z = (do pure (.bool (← Op.equal t u z))) ∧ binOp .neq t u z = (do pure (.bool (!(← Op.equal t u z)))) := by
  cases k <;> simp only [nkV] at hz
  · subst hz; cases hv <;> simp [isNil] at hb <;> exact ⟨rfl, rfl⟩
  · obtain ⟨_, _, rfl⟩ := hz; cases hv <;> simp [isNil] at hb <;> exact ⟨rfl, rfl⟩
  · subst hz; cases hv <;> simp [isNil] at hb <;> exact ⟨rfl, rfl⟩
  · subst hz; cases hv <;> simp [isNil] at hb <;> exact ⟨rfl, rfl⟩

theorem ev_eqNil (hf : FRel E h w r a.tmps) {op : BinOp} {t t' : TypeId} {y z : Operand} {x : AX} {d : TypeDesc} {neg : Bool} {k : NK} (hop : op = if neg then .neq else .eql) (ho : o.op = .binOp op t y z t') (hx : XRel E a x y)
    (ht : P.underlying t = some d) (hd : nkD k d) (hz : nkV k (a.eval z)) (he : evalV r h (.eqNil neg k x) = some reg) : Pure P E h w r a o reg := by
  simp only [evalV] at he
  split at he
  · rename_i v hv
    obtain ⟨b, hb, rfl⟩ := map_some he
    have h1 := vl_spec hf hx hv
    have h2 := isNil_spec (P := P) (w := w) h1 hb ht hd hz 9999
    obtain ⟨e1, e2⟩ := binOp_eql h1 hb hz t
    have hg := eqGuard_plain (P := P) (op := op) (t := t) (x := y) (y := z) (b := a.eval z) (fun _ => isNil_vals h1 hb hz) w
    refine .val (u := .bool (b != neg)) ?_ (.bool _)
    cases neg with
    | true => simp only [if_true] at hop; subst hop; simp at h2; simp [execOp, ho, hg, e2, Op.equal, Op.maxDepth, h2]
    | false => simp only [Bool.false_eq_true, if_false] at hop; subst hop; simp at h2; simp [execOp, ho, hg, e1, Op.equal, Op.maxDepth, h2]
  · cases he

theorem ba_extract (s : List UInt8) (i j : Nat) : (⟨s.toArray⟩ : ByteArray).extract i j = ⟨((s.take j).drop i).toArray⟩ := by
  rw [ByteArray.extract_mk, List.drop_take]

/-- The bounds of a slice expression. -/
structure Bounds (a : Act) (E : Env) (lo hi mx : Option Operand) (l : Int) (hh mm : Option Int) : Prop where
  lo : (∃ y k, lo = some y ∧ a.eval y = .int k l) ∨ (lo = none ∧ l = 0)
  hi : (∃ y k i, hi = some y ∧ a.eval y = .int k i ∧ hh = some i) ∨ (hi = none ∧ hh = none)
  mx : (∃ y k i, mx = some y ∧ a.eval y = .int k i ∧ mm = some i) ∨ (mx = none ∧ mm = none)

theorem run_bound (k : IntKind) (i : Int) (y : Nat) (code : BoundsCode) (h0 : 0 ≤ i) (h1 : i ≤ y) : (Instr.sliceBound (.int k i) y code).run P w = .ok i.toNat w := by
  simp [Instr.sliceBound, asIntOf, h0, h1]

theorem run_bounds {lo hi mx : Option Operand} {l : Int} {hh mm : Option Int} (hb : Bounds a E lo hi mx l hh mm) (sl : Bool) (len cap : Nat) (h0 : 0 ≤ l) (h1 : l ≤ hh.getD len) (h2 : (hh.getD len : Int) ≤ mm.getD cap) (h3 : (mm.getD cap : Int) ≤ cap) (hm : mm.isSome → hh.isSome) :
    (Instr.sliceBounds sl len cap (lo.map a.eval) (hi.map a.eval) (mx.map a.eval)).run P w = .ok (l.toNat, (hh.getD (len : Int)).toNat, (mm.getD (cap : Int)).toNat) w := by
  obtain ⟨b1, b2, b3⟩ := hb
  have hl0 : 0 ≤ hh.getD (len : Int) := by omega
  have hm0 : 0 ≤ mm.getD (cap : Int) := by omega
  rcases b3 with ⟨ym, km, im, rfl, e3, rfl⟩ | ⟨rfl, rfl⟩
  · rcases b2 with ⟨yh, kh, ih, rfl, e2, rfl⟩ | ⟨rfl, rfl⟩
    · simp only [Option.getD_some] at *
      rcases b1 with ⟨yl, kl, rfl, e1⟩ | ⟨rfl, rfl⟩
      · simp [Instr.sliceBounds, e1, e2, e3, run_bound km im cap _ hm0 h3, run_bound kh ih im.toNat _ hl0 (by omega), run_bound kl l ih.toNat _ h0 (by omega)]
      · simp [Instr.sliceBounds, e2, e3, run_bound km im cap _ hm0 h3, run_bound kh ih im.toNat _ hl0 (by omega)]
    · simp at hm
  · rcases b2 with ⟨yh, kh, ih, rfl, e2, rfl⟩ | ⟨rfl, rfl⟩
    · simp only [Option.getD_some, Option.getD_none] at *
      rcases b1 with ⟨yl, kl, rfl, e1⟩ | ⟨rfl, rfl⟩
      · simp [Instr.sliceBounds, e1, e2, run_bound kh ih cap _ hl0 (by omega), run_bound kl l ih.toNat _ h0 (by omega)]
      · simp [Instr.sliceBounds, e2, run_bound kh ih cap _ hl0 (by omega)]
    · simp only [Option.getD_none] at *
      rcases b1 with ⟨yl, kl, rfl, e1⟩ | ⟨rfl, rfl⟩
      · simp [Instr.sliceBounds, e1, run_bound kl l len _ h0 h1]
      · simp [Instr.sliceBounds]

theorem ofNat_toNat_le {i : Int} {n : Nat} (h0 : 0 ≤ i) (h : i ≤ n) : i.toNat ≤ n := by omega

/-- What slicing yields. -/
theorem slice_spec {v v' : AV} {u : Value} (hv : VRel E v u) {l : Int} {hh mm : Option Int} (he : sliceV v l hh mm = some v') {lo hi mx : Option Operand} (hb : Bounds a E lo hi mx l hh mm) (hm : mm.isSome → hh.isSome)
    {t : TypeId} (ht : (∃ s, v = .str s ∧ P.underlying t = some .string) ∨ ((∀ s, v ≠ .str s) ∧ ∃ e sz, P.underlying t = some (.slice e) ∧ Sz P e sz ∧ (∀ s es c, v = .imm s es c → s = sz) ∧ ∀ i s f n c, v = .row i s f n c → s = sz)) :
    ∃ u', (Instr.slice t u (lo.map a.eval) (hi.map a.eval) (mx.map a.eval)).run P w = .ok u' w ∧ VRel E v' u' := by
  unfold sliceV at he
  split at he
  · rename_i s
    rcases ht with ⟨_, _, ht⟩ | ⟨hn, _⟩
    · split at he
      · rename_i hc
        obtain ⟨rfl, c1, c2, c3⟩ := hc
        cases he
        obtain rfl := str_inv hv
        have := run_bounds (P := P) (w := w) hb false s.length s.length c1 c2 (by simpa using c3) (by simp) hm
        refine ⟨_, ?_, .str _⟩
        obtain ⟨b1, b2, b3⟩ := hb
        rcases b3 with ⟨_, _, _, _, _, hx⟩ | ⟨rfl, _⟩
        · cases hx
        · simp only [Option.map_none] at this
          simp [Instr.slice, run_underlying ht, ba_size, this, ba_extract]
      · cases he
    · exact absurd rfl (hn s)
  · rcases ht with ⟨_, h, _⟩ | ⟨_, e, sz, ht, hs, _⟩
    · cases h
    · split at he
      · rename_i hc
        obtain ⟨rfl, c1, c2⟩ := hc
        cases he
        cases hv
        have := run_bounds (P := P) (w := w) hb true 0 0 (by omega) (by simpa using Int.le_of_eq c1.symm) (by simpa [c1] using Int.le_of_eq c2.symm) (by simp [c2]) hm
        refine ⟨_, ?_, .nils⟩
        simp only [Int.ofNat_eq_natCast, Int.natCast_zero] at this
        simp [Instr.slice, run_underlying ht, hs.run, this, c1, c2]
      · cases he
  · rename_i size es c
    rcases ht with ⟨_, h, _⟩ | ⟨_, e, sz, ht, hs, hsz, _⟩
    · cases h
    · obtain rfl := hsz _ _ _ rfl
      split at he
      · rename_i hc
        obtain ⟨c1, c2, c3⟩ := hc
        cases hv with
        | imz _ za _ hcz =>
          have l0 : l = 0 := by simp at c2 c3; omega
          have h0 : hh.getD ((([] : List AV).length : Nat) : Int) = 0 := by simp at c2 c3 ⊢; omega
          subst l0
          split at he
          · cases he
            have := run_bounds (P := P) (w := w) hb true 0 0 (by omega) (by simpa using c2) (by simpa using c3) (by simp) hm
            simp only [Option.getD_none, Int.ofNat_eq_natCast, Int.natCast_zero] at this
            simp only [List.length_nil, Int.natCast_zero] at h0
            rw [show List.drop (Int.toNat 0) (List.take (hh.getD ((([] : List AV).length : Nat) : Int)).toNat ([] : List AV)) = [] by simp, if_pos (by simpa using h0)]
            refine ⟨_, ?_, .imz size za c hcz⟩
            simp [Instr.slice, run_underlying ht, hs.run, this, h0]
          · rename_i m
            split at he
            · rename_i hmh
              cases he
              subst hmh
              have := run_bounds (P := P) (w := w) hb true 0 0 (by omega) (by simpa using c2) (by simp) (by simpa using c3) hm
              simp only [Option.getD_some, Int.ofNat_eq_natCast, Int.natCast_zero] at this
              simp only [List.length_nil, Int.natCast_zero] at h0
              rw [show List.drop (Int.toNat 0) (List.take (hh.getD ((([] : List AV).length : Nat) : Int)).toNat ([] : List AV)) = [] by simp]
              refine ⟨_, ?_, .imz size za .full (.inr rfl)⟩
              simp [Instr.slice, run_underlying ht, hs.run, this, h0]
            · cases he
        | imm _ _ _ b off cap hcap hss h1 hs1 hvr hcp =>
        have hsub : ∀ (i : Nat) x, ((es.take (hh.getD es.length).toNat).drop l.toNat)[i]? = some x → es[l.toNat + i]? = some x := fun i x hi => by
          simp only [List.getElem?_drop, List.getElem?_take] at hi
          split at hi
          · exact hi
          · cases hi
        have hlen : ((es.take (hh.getD es.length).toNat).drop l.toNat).length = (hh.getD es.length).toNat - l.toNat := by
          rw [List.length_drop, List.length_take, Nat.min_eq_left (by omega)]
        have key : ∀ (m : Nat) (c' : Cap), (hh.getD es.length).toNat ≤ m → m ≤ cap → capOk E b (off + l.toNat * size) size ((hh.getD es.length).toNat - l.toNat) (m - l.toNat) c' → (m = l.toNat → capOk E b off size ((hh.getD es.length).toNat - l.toNat) (m - l.toNat) c') →
            VRel E (.imm size ((es.take (hh.getD es.length).toNat).drop l.toNat) c') (.slice (if m = l.toNat then some ⟨b, off, none⟩ else some ⟨b, off + l.toNat * size, none⟩) ((hh.getD es.length).toNat - l.toNat) (m - l.toNat)) := by
          intro m c' hm1 hm2 hc' hc''
          split
          · rename_i hml
            rw [← hlen]
            have hnil : (es.take (hh.getD es.length).toNat).drop l.toNat = [] := List.eq_nil_of_length_eq_zero (by omega)
            refine .imm _ _ _ _ _ _ (by omega) (by simp [hnil]) (by simp [hnil]) (by simp [hnil]) (by simp [hnil]) ?_
            rw [hlen]; exact hc'' hml
          · rw [← hlen]
            refine .imm _ _ _ _ _ _ (by omega) (fun x hx => hss x (List.mem_of_mem_take (List.mem_of_mem_drop hx))) (fun x hx => h1 x (List.mem_of_mem_take (List.mem_of_mem_drop hx))) (fun i k hi hk => ?_) (fun i x k y u hi hk hu => ?_) ?_
            · have := hs1 (l.toNat + i) k (by omega) hk
              rwa [Nat.add_mul, ← Nat.add_assoc] at this
            · refine hvr (l.toNat + i) x k y u (hsub i x hi) hk ?_
              rwa [Nat.add_mul, ← Nat.add_assoc]
            · rw [hlen]; exact hc'
        split at he
        · cases he
          have := run_bounds (P := P) (w := w) hb true es.length cap c1 c2 (by simp; omega) (by simp) hm
          simp only [Option.getD_none, Int.toNat_natCast] at this
          refine ⟨_, ?_, key cap _ (by omega) (Nat.le_refl _) ?_ ?_⟩
          · simp [Instr.slice, run_underlying ht, hs.run, this]
            split <;> simp [addr_add]
          · split
            · rename_i hfull
              cases c with
              | full => simp only [capOk] at *; omega
              | no => trivial
              | tok id e =>
                obtain ⟨q1, q2⟩ := hcp
                refine ⟨q1, ?_⟩
                rcases q2 with q2 | ⟨q2, q3, q4⟩
                · left; omega
                · right
                  refine ⟨q2, ?_, ?_⟩
                  · rw [← q3, hfull, Nat.add_assoc, ← Nat.add_mul]; congr 2; simp; omega
                  · refine Nat.le_trans (Nat.le_of_eq ?_) q4
                    rw [Nat.add_assoc, ← Nat.add_mul]; congr 2; omega
            · trivial
          · intro hcl
            split
            · rename_i hfull
              cases c with
              | full => simp only [capOk] at *; omega
              | no => trivial
              | tok id e => exact ⟨hcp.1, .inl (by omega)⟩
            · trivial
        · rename_i m
          split at he
          · rename_i hmh
            cases he
            subst hmh
            have := run_bounds (P := P) (w := w) hb true es.length cap c1 c2 (by simp) (by simp only [Option.getD_some]; omega) hm
            simp only [Option.getD_some] at this
            refine ⟨_, ?_, key _ .full (Nat.le_refl _) (by omega) rfl (fun _ => rfl)⟩
            simp [Instr.slice, run_underlying ht, hs.run, this]
            split <;> simp [addr_add]
          · cases he
      · cases he
  · rename_i id size off n clip
    rcases ht with ⟨_, h, _⟩ | ⟨_, e, sz, ht, hs, _, hsz⟩
    · cases h
    · obtain rfl := hsz _ _ _ _ _ rfl
      split at he
      · rename_i hc
        obtain ⟨c1, c2, c3⟩ := hc
        cases hv with
        | row _ _ _ _ _ b o' cap hr =>
        obtain ⟨r1, r2, r3, r4⟩ := hr
        have key : ∀ (m : Nat) (c' : Bool), (hh.getD n).toNat ≤ m → m ≤ cap → (c' = true → m = (hh.getD n).toNat) → (c' = false → clip = false ∧ m = cap) →
            VRel E (.row id size (off + l.toNat) ((hh.getD n).toNat - l.toNat) c') (.slice (if m = l.toNat then some ⟨b, o', none⟩ else some ⟨b, o' + l.toNat * size, none⟩) ((hh.getD n).toNat - l.toNat) (m - l.toNat)) := by
          intro m c' hm1 hm2 hc1 hc2
          split
          · rename_i hml
            refine .row _ _ _ _ _ _ _ _ ⟨r1, by omega, fun h => by omega, .inr ⟨by omega, by omega, fun h => ?_⟩⟩
            obtain ⟨h1, h2⟩ := hc2 h
            rcases r4 with ⟨_, _, r5⟩ | ⟨_, _, r7⟩
            · have := r5 h1; omega
            · have := r7 h1; omega
          · rename_i hml
            refine .row _ _ _ _ _ _ _ _ ⟨r1, by omega, fun h => by rw [hc1 h], ?_⟩
            rcases r4 with ⟨rfl, rfl, r5⟩ | ⟨r5, r6, r7⟩
            · left
              refine ⟨rfl, by rw [Nat.add_mul], fun h => ?_⟩
              obtain ⟨h1, h2⟩ := hc2 h
              have := r5 h1
              omega
            · omega
        split at he
        · split at he
          · cases he
          · rename_i hcl
            cases he
            have := run_bounds (P := P) (w := w) hb true n cap c1 c2 (by simp; omega) (by simp) hm
            simp only [Option.getD_none, Int.toNat_natCast] at this
            refine ⟨_, ?_, key cap clip (by omega) (Nat.le_refl _) (fun h => ?_) (fun h => ⟨h, rfl⟩)⟩
            · simp [Instr.slice, run_underlying ht, hs.run, this]
              split <;> simp [addr_add]
            · have := r3 h
              simp [h] at hcl
              omega
        · rename_i m
          split at he
          · rename_i hmh
            cases he
            subst hmh
            have := run_bounds (P := P) (w := w) hb true n cap c1 c2 (by simp) (by simp only [Option.getD_some]; omega) hm
            simp only [Option.getD_some] at this
            refine ⟨_, ?_, key _ true (Nat.le_refl _) (by omega) (fun _ => rfl) (fun h => by cases h)⟩
            simp [Instr.slice, run_underlying ht, hs.run, this]
            split <;> simp [addr_add]
          · cases he
      · cases he
  · cases he

end
end Go.Im

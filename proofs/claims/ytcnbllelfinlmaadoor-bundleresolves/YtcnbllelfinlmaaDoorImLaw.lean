/- ImLaw: a law's arguments, as they are read, are values of the idealised machine; what that machine answers is what the law answers. -/
import Derived.Test.YtcnbllelfinlmaaDoorImEntry
import Derived.WalkKit
import Derived.ProofKit
import Derived.OpenShut
import Derived.Deep.Slices
set_option linter.unusedVariables false
set_option linter.unusedSimpArgs false
namespace Go.Im
open Go.ChangeShapes Go.WideShapes Go.ChangeAt Go.RowKit

section
variable (P : Program)

def aggT (t : TypeId) : Bool := match P.underlying t with
  | some d => aggD d
  | none => false

def mkAV (agg : Bool) (cs : List AV) : AV := if agg then .agg cs else cs.headD .nilp

def supF (S : TypeId → Bool) : Nat → List Field → Nat → Bool
  | off, [], tot => off == tot
  | off, f :: fs, tot => f.offset == off && S f.type && supF S (off + P.cellsOf f.type) fs tot

def sup : Nat → TypeId → Bool
  | 0, _ => false
  | m + 1, t => match P.underlying t with
    | some .bool | some (.int _) | some .string => true
    | some (.slice e) => decide (0 < P.cellsOf e) && sup m e
    | some (.struct fs) => supF P (sup m) 0 fs.toList (P.cellsOf t)
    | some (.array n e) => n * P.cellsOf e == P.cellsOf t && sup m e
    | _ => false

def RdF (R : TypeId → List AV → Prop) : List Field → List AV → Prop
  | [], l => l = []
  | f :: fs, l => ∃ a b, l = a ++ b ∧ R f.type a ∧ RdF R fs b

def RdN (R : List AV → Prop) : Nat → List AV → Prop
  | 0, l => l = []
  | k + 1, l => ∃ a b, l = a ++ b ∧ R a ∧ RdN R k b

def Rd : Nat → TypeId → List AV → Prop
  | 0, _, _ => False
  | m + 1, t, l => match P.underlying t with
    | some .bool => ∃ b, l = [.bool b]
    | some (.int k) => ∃ n, l = [.int k n] ∧ (Lit.int k n).wf = true
    | some .string => ∃ s, l = [.str s] ∧ s.length ≤ maxLen
    | some (.slice e) => l = [.nils] ∨ ∃ es, l = [.imm (P.cellsOf e) es .no] ∧ es.length ≤ maxLen ∧ ∀ x ∈ es, ∃ cs, x = mkAV (aggT P e) cs ∧ Rd m e cs
    | some (.struct fs) => RdF (Rd m) fs.toList l
    | some (.array n e) => RdN (Rd m e) n l
    | _ => False

def RdT (m : Nat) (t : TypeId) (a : AV) : Prop := ∃ l, a = mkAV (aggT P t) l ∧ Rd P m t l

def RdAll (m : Nat) : List TypeId → List AV → Prop
  | [], l => l = []
  | t :: ts, l => ∃ a b, l = a :: b ∧ RdT P m t a ∧ RdAll m ts b
end

def Rl (E : Env) (l : List AV) (cs : List Value) : Prop := l.length = cs.length ∧ ∀ (i : Nat) a v, l[i]? = some a → cs[i]? = some v → a.one = true ∧ VRel E a v

theorem Rl.nil {E : Env} : Rl E [] [] := ⟨rfl, fun i a v h => by simp at h⟩
theorem Rl.one {E : Env} {a : AV} {v : Value} (h1 : a.one = true) (h : VRel E a v) : Rl E [a] [v] := ⟨rfl, fun i x y hx hy => by
  cases i with
  | zero => simp at hx hy; subst hx; subst hy; exact ⟨h1, h⟩
  | succ i => simp at hx⟩
theorem Rl.append {E : Env} {a b : List AV} {c d : List Value} (h : Rl E a c) (g : Rl E b d) : Rl E (a ++ b) (c ++ d) := ⟨by simp [h.1,g.1], fun i x y hx hy => by
  by_cases hi : i < a.length
  · rw [List.getElem?_append_left hi] at hx
    rw [List.getElem?_append_left (by rw [← h.1]; exact hi)] at hy
    exact h.2 i x y hx hy
  · rw [List.getElem?_append_right (by omega)] at hx
    rw [List.getElem?_append_right (by rw [← h.1]; omega), ← h.1] at hy
    exact g.2 _ x y hx hy⟩

section
variable {H : Type} {enc : TypeId × Value → H} {P : Program} {w : World} {base : Nat} {held : Bool} {cdv : Nat → AC → Code → Prop}

theorem mk_cells {agg : Bool} {l : List AV} (h1 : ∀ a ∈ l, a.one = true) (h : agg = false → l.length = 1) : (mkAV agg l).cells = l := by
  cases agg with
  | true => rfl
  | false =>
    have := h rfl
    match l, this with
    | [a], _ =>
      have := h1 a (by simp)
      show a.cells = [a]
      cases a <;> first | rfl | simp [AV.one] at this

theorem rd_single {m : Nat} {t : TypeId} {l : List AV} (h : Rd P m t l) (ha : aggT P t = false) : l.length = 1 := by
  cases m with
  | zero => exact h.elim
  | succ m =>
    simp only [Rd] at h
    simp only [aggT] at ha
    split at h
    · obtain ⟨b, rfl⟩ := h; rfl
    · obtain ⟨b, rfl, _⟩ := h; rfl
    · obtain ⟨b, rfl, _⟩ := h; rfl
    · rcases h with rfl | ⟨es, rfl, _⟩ <;> rfl
    · rename_i e; rw [e] at ha; simp [aggD] at ha
    · rename_i e; rw [e] at ha; simp [aggD] at ha
    · exact h.elim

theorem cell_spot {a : Addr} {v : Value} (h : w.cell? a = some v) : a.spot = none := by
  unfold World.cell? at h
  split at h
  · split at h
    · cases h
    · rename_i hs; simpa using hs
  · cases h

theorem Rl.all {E : Env} {l : List AV} {cs : List Value} (h : Rl E l cs) : ∀ a ∈ l, a.one = true := fun a ha => by
  obtain ⟨i, hi⟩ := List.getElem?_of_mem ha
  have hlt := (List.getElem?_eq_some_iff.1 hi).1
  exact (h.2 i a (cs[i]'(by rw [← h.1]; exact hlt)) hi (List.getElem?_eq_getElem _)).1

theorem trod_rd : ∀ (m : Nat) (n : Nat) (t : TypeId) (cs : List Value) (x : DataW H × List MemPlace), sup P m t = true → DataW.trod enc P w base (fun _ => true) held n t cs = some x → ∃ l, Rl (.of w cdv) l cs ∧ Rd P m t l
  | 0, n, t, cs, x, hs, h => by simp [sup] at hs
  | m + 1, n, t, cs, x, hs, h => by
    have ih := trod_rd m
    simp only [sup] at hs
    simp only [Rd]
    split at hs
    · rename_i e
      obtain ⟨b, rfl, _⟩ := DataW.trod_bool e h
      exact ⟨[.bool b], .one rfl (.bool b), b, rfl⟩
    · rename_i k e
      obtain ⟨z, rfl, _, hw⟩ := DataW.trod_int e h
      exact ⟨[.int k z], .one rfl (.int k z), z, rfl, hw⟩
    · rename_i e
      obtain ⟨s, rfl, _, hl⟩ := DataW.trod_string e h
      refine ⟨[.str s.data.toList], .one rfl ?_, s.data.toList, rfl, by simpa using hl⟩
      have := VRel.str (E := .of w cdv) s.data.toList
      simpa using this
    · rename_i e he
      simp only [Bool.and_eq_true,decide_eq_true_eq] at hs
      obtain ⟨hpos, hs⟩ := hs
      rcases Go.Deep.open_slice he h with ⟨rfl, _⟩ | ⟨a, len, cap, m', n', D, Pl, rfl, _, hle, hcm, hm', _, hel⟩
      · exact ⟨[.nils], .one rfl .nils, .inl rfl⟩
      · simp only [if_true] at hm'
        subst hm'
        by_cases hc0 : m' = 0
        · subst hc0
          have hl0 : len = 0 := by omega
          subst hl0
          exact ⟨[.imm (P.cellsOf e) [] .no], .one rfl (.imz _ _ _ (.inl rfl)), .inr ⟨[], rfl, by simp, fun x hx => by simp at hx⟩⟩
        · have hspot : a.spot = none := by
            obtain ⟨cs', h1, _⟩ := hel 0 (by omega)
            obtain ⟨_, hl, hcell⟩ := World.cells?_some h1
            have := hcell 0 hpos
            simp only [Nat.zero_mul] at this
            have hv := List.getElem?_eq_getElem (l := cs') (i := 0) (by omega)
            rw [hv] at this
            have := cell_spot this
            simpa [Addr.add] using this
          obtain ⟨b, o, sp⟩ := a
          simp only at hspot
          subst hspot
          obtain ⟨f, hf⟩ := Go.Deep.choose_lt (α := AV) (n := len) (p := fun i y => ∃ l cs', y = mkAV (aggT P e) l ∧ Rl (.of w cdv) l cs' ∧ Rd P m e l ∧ cs'.length = P.cellsOf e ∧ ∀ k, k < P.cellsOf e → w.cell? ⟨b, o + i * P.cellsOf e + k, none⟩ = cs'[k]?) (fun i hi => by
            obtain ⟨cs', h1, h2⟩ := hel i (by omega)
            obtain ⟨l, q1, q2⟩ := ih n' e cs' _ hs h2
            obtain ⟨_, hl, hcell⟩ := World.cells?_some h1
            refine ⟨_, l, cs', rfl, q1, q2, hl, fun k hk => ?_⟩
            have := hcell k hk
            rw [addr_add, addr_add] at this
            exact this)
          have hcl : ∀ i, i < len → ∃ l cs', f i = mkAV (aggT P e) l ∧ (f i).cells = l ∧ Rl (.of w cdv) l cs' ∧ Rd P m e l ∧ cs'.length = P.cellsOf e ∧ ∀ k, k < P.cellsOf e → w.cell? ⟨b, o + i * P.cellsOf e + k, none⟩ = cs'[k]? := fun i hi => by
            obtain ⟨l, cs', q1, q2, q3, q4, q5⟩ := hf i hi
            exact ⟨l, cs', q1, by rw [q1]; exact mk_cells q2.all fun ha => rd_single q3 ha, q2, q3, q4, q5⟩
          have hlen : ((List.range len).map f).length = len := by simp
          have hget : ∀ (i : Nat) y, ((List.range len).map f)[i]? = some y → i < len ∧ y = f i := fun i y hy => by
            simp only [List.getElem?_map,Option.map_eq_some_iff] at hy
            obtain ⟨j, hj, rfl⟩ := hy
            obtain ⟨h1, h2⟩ := List.getElem?_eq_some_iff.1 hj
            rw [List.getElem_range] at h2
            subst h2
            exact ⟨by simpa using h1, rfl⟩
          refine ⟨[.imm (P.cellsOf e) ((List.range len).map f) .no], .one rfl ?_, .inr ⟨_, rfl, by rw [hlen]; omega, fun x hx => ?_⟩⟩
          · have hv := VRel.imm (E := .of w cdv) (P.cellsOf e) ((List.range len).map f) .no b o m' (by rw [hlen]; exact hle) (fun y hy => ?_) (fun y hy z hz => ?_) (fun i k hi hk => ?_) (fun i y k z u hi hk hu => ?_) trivial
            · rw [hlen] at hv; exact hv
            · obtain ⟨i, hi⟩ := List.getElem?_of_mem hy
              obtain ⟨hlt, rfl⟩ := hget i y hi
              obtain ⟨l, cs', q1, q2, q3, q4, q5, q6⟩ := hcl i hlt
              rw [q2, q3.1, q5]
            · obtain ⟨i, hi⟩ := List.getElem?_of_mem hy
              obtain ⟨hlt, rfl⟩ := hget i y hi
              obtain ⟨l, cs', q1, q2, q3, q4, q5, q6⟩ := hcl i hlt
              rw [q2] at hz
              exact q3.all z hz
            · rw [hlen] at hi
              obtain ⟨l, cs', q1, q2, q3, q4, q5, q6⟩ := hcl i hi
              show (w.cell? _).isSome = true
              rw [q6 k hk, List.getElem?_eq_getElem (by omega)]; rfl
            · obtain ⟨hlt, rfl⟩ := hget i y hi
              obtain ⟨l, cs', q1, q2, q3, q4, q5, q6⟩ := hcl i hlt
              rw [q2] at hk
              have hkl := (List.getElem?_eq_some_iff.1 hk).1
              have hu : w.cell? ⟨b, o + i * P.cellsOf e + k, none⟩ = some u := hu
              rw [q6 k (by rw [← q5, ← q3.1]; exact hkl)] at hu
              exact (q3.2 k z u hk hu).2
          · obtain ⟨i, hi⟩ := List.getElem?_of_mem hx
            obtain ⟨hlt, rfl⟩ := hget i x hi
            obtain ⟨l, cs', q1, q2, q3, q4, q5, q6⟩ := hcl i hlt
            exact ⟨l, q1, q4⟩
    · rename_i fs he
      obtain ⟨xs, n', rfl, _, hl, hxl, hf⟩ := DataW.trod_struct he h
      have key : ∀ (gs : List Field) (off j : Nat), (∀ (i : Nat) (f : Field), gs[i]? = some f → ∃ y, DataW.trod enc P w base (fun _ => true) held n' f.type ((cs.drop f.offset).take (P.cellsOf f.type)) = some y) → supF P (sup P m) off gs (P.cellsOf t) = true →
          ∃ l, Rl (.of w cdv) l (cs.drop off) ∧ RdF (Rd P m) gs l := by
        intro gs
        induction gs with
        | nil =>
          intro off j _ hs
          simp only [supF,beq_iff_eq] at hs
          exact ⟨[], by rw [List.drop_of_length_le (by omega)]; exact .nil, rfl⟩
        | cons g gs ihg =>
          intro off j hg hs
          simp only [supF,Bool.and_eq_true,beq_iff_eq] at hs
          obtain ⟨⟨rfl, hs1⟩, hs2⟩ := hs
          obtain ⟨y, hy⟩ := hg 0 g rfl
          obtain ⟨l1, p1, p2⟩ := ih n' _ _ _ hs1 hy
          obtain ⟨l2, p3, p4⟩ := ihg _ (j + 1) (fun i f hi => hg (i + 1) f (by simpa using hi)) hs2
          refine ⟨l1 ++ l2, ?_, l1, l2, rfl, p2, p4⟩
          have := p1.append p3
          rwa [← List.drop_drop, List.take_append_drop] at this
      have := key fs.toList 0 0 (fun i f hi => by
        have hi' : fs[i]? = some f := by simpa using hi
        have hlt := (Array.getElem?_eq_some_iff.1 hi').1
        exact ⟨xs[i], by rw [hf i f hi', List.getElem?_eq_getElem (by omega)]⟩) hs
      simpa using this
    · rename_i k e he
      simp only [Bool.and_eq_true,beq_iff_eq] at hs
      obtain ⟨hsz, hs⟩ := hs
      obtain ⟨xs, n', rfl, _, hl, hxl, hf⟩ := DataW.trod_array he h
      have key : ∀ (r j : Nat), j + r = k → ∃ l, Rl (.of w cdv) l (cs.drop (j * P.cellsOf e)) ∧ RdN (Rd P m e) r l := by
        intro r
        induction r with
        | zero =>
          intro j hj
          exact ⟨[], by rw [List.drop_of_length_le (by rw [hl, ← hsz, ← hj]; exact Nat.le_refl _)]; exact .nil, rfl⟩
        | succ r ihr =>
          intro j hj
          obtain ⟨l1, p1, p2⟩ := ih n' e _ _ hs (by rw [hf j (by omega)]; exact List.getElem?_eq_getElem (by omega))
          obtain ⟨l2, p3, p4⟩ := ihr (j + 1) (by omega)
          refine ⟨l1 ++ l2, ?_, l1, l2, rfl, p2, p4⟩
          have := p1.append p3
          rwa [Nat.add_mul, Nat.one_mul, ← List.drop_drop, List.take_append_drop] at this
      have := key k 0 (by omega)
      simpa using this
    · cases hs

theorem top_rd {m : Nat} {t : TypeId} {v : Value} {d : DataW H} {ps : List MemPlace} {r : _root_.Go.Reach} {b0 : Nat} (hs : sup P m t = true) (hv : Value.okWide P w r b0 t v) (h : DataW.Trod enc P w base (fun _ => true) held t v d ps) : ∃ a, VRel (.of w cdv) a v ∧ RdT P m t a := by
  obtain ⟨n, hn⟩ := h
  obtain ⟨l, q1, q2⟩ := trod_rd m n t _ _ hs hn
  cases m with
  | zero => simp [sup] at hs
  | succ m =>
  by_cases hagg : aggT P t = true
  · have : ∃ cs, v = .agg cs := by
      unfold aggT at hagg
      unfold Value.okWide at hv
      split at hagg
      · rename_i d hd
        rw [hd] at hv
        cases d <;> simp [aggD] at hagg <;> (obtain ⟨cs, rfl, _⟩ := hv; exact ⟨cs, rfl⟩)
      · cases hagg
    obtain ⟨cs, rfl⟩ := this
    refine ⟨.agg l, .agg l cs (by have := q1.1; simpa [Value.cells] using this) q1.all (fun i a u hi hu => (q1.2 i a u hi (by simpa [Value.cells] using hu)).2), l, by simp [mkAV,hagg], q2⟩
  · have hag : aggT P t = false := by simpa using hagg
    have hl := rd_single q2 hag
    have hone : ∀ cs : Array Value, v ≠ .agg cs ∧ v ≠ .tuple cs := by
      intro cs
      simp only [sup] at hs
      constructor
      all_goals
        rintro rfl
        unfold aggT at hag
        unfold Value.okWide at hv
        split at hag
        · rename_i d hd
          rw [hd] at hv hs
          cases d <;> simp [aggD] at hag <;> simp_all [Cell.okWide, Cell.ok]
        · rename_i hd
          rw [hd] at hs
          cases hs
    have hc : v.cells = #[v] := by
      cases v <;> first | rfl | exact absurd rfl (hone _).1 | exact absurd rfl (hone _).2
    match l, hl with
    | [a], _ =>
      rw [hc] at q1
      exact ⟨a, (q1.2 0 a v rfl rfl).2, [a], by simp [mkAV,hag], q2⟩

theorem all_rd {m : Nat} {r : _root_.Go.Reach} {b0 : Nat} : ∀ {ts : List TypeId} {vs : List Value} {ds : List (DataW H)} {ps : List MemPlace}, (∀ t ∈ ts, sup P m t = true) → (∀ (j : Nat) t v, ts[j]? = some t → vs[j]? = some v → Value.okWide P w r b0 t v) →
    DataW.TrodAll enc P w base (fun _ => true) held ts vs ds ps → ∃ l : List AV, l.length = vs.length ∧ (∀ (i : Nat) x y, l[i]? = some x → vs[i]? = some y → VRel (.of w cdv) x y) ∧ RdAll P m ts l
  | [], vs, ds, ps, _, _, h => by
    obtain ⟨rfl, _, _⟩ := trodAll_nil h
    exact ⟨[], rfl, fun i x y hx => by simp at hx, rfl⟩
  | t :: ts, vs, ds, ps, hs, hv, h => by
    obtain ⟨v, vs', d, ds', p, q, rfl, rfl, rfl, h1, h2⟩ := trodAll_cons h
    obtain ⟨a, q1, q2⟩ := top_rd (hs t (by simp)) (hv 0 t v rfl rfl) h1
    obtain ⟨l, q3, q4, q5⟩ := all_rd (fun t' ht => hs t' (by simp [ht])) (fun j t' v' h3 h4 => hv (j + 1) t' v' (by simpa using h3) (by simpa using h4)) h2
    refine ⟨a :: l, by simp [q3], fun i x y hx hy => ?_, a, l, rfl, q2, q5⟩
    cases i with
    | zero => simp at hx hy; subst hx; subst hy; exact q1
    | succ i => exact q4 i x y (by simpa using hx) (by simpa using hy)

theorem stays_all {ts : List TypeId} (hl : laidOutB P = true) (hr : ∀ t ∈ ts, P.readableRec t = true ∧ t < P.types.size) {W W' : World} {sp' : Nat → Bool} : ∀ {us : List TypeId}, (∀ t ∈ us, t ∈ ts) → ∀ {vs : List Value} {ds : List (DataW H)} {ps : List MemPlace},
    DataW.TrodAll enc P W base (fun _ => true) true us vs ds ps → (∀ p ∈ ps, W.sameAt W' p) → (∀ p ∈ ps, sp' p.block = true) → DataW.TrodAll enc P W' base sp' true us vs ds ps
  | [], hu, vs, ds, ps, h, hsame, hsp => by
    obtain ⟨rfl, rfl, rfl⟩ := trodAll_nil h
    exact trodAll_mk0
  | t :: us, hu, vs, ds, ps, h, hsame, hsp => by
    obtain ⟨v, vs', d, ds', p, q, rfl, rfl, rfl, h1, h2⟩ := trodAll_cons h
    obtain ⟨r1, r2⟩ := hr t (hu t (by simp))
    exact trodAll_cons_mk (WideElems.Trod_stays hl r1 r2 h1 (fun x hx => hsame x (by simp [hx])) (fun x hx => hsp x (by simp [hx]))) (stays_all hl hr (fun t' ht => hu t' (by simp [ht])) h2 (fun x hx => hsame x (by simp [hx])) (fun x hx => hsp x (by simp [hx])))

theorem ds_length : ∀ {ts : List TypeId} {vs : List Value} {ds : List (DataW H)} {ps : List MemPlace} {sp : Nat → Bool}, DataW.TrodAll enc P w base sp held ts vs ds ps → ds.length = ts.length
  | [], vs, ds, ps, sp, h => by obtain ⟨_, rfl, _⟩ := trodAll_nil h; rfl
  | t :: ts, vs, ds, ps, sp, h => by
    obtain ⟨v, vs', d, ds', p, q, rfl, rfl, rfl, h1, h2⟩ := trodAll_cons h
    simp [ds_length h2]

theorem Only.kept {W W' : World} (h : Only W W') (may : MemPlace → Prop) : W.keptBut W' may := by
  refine ⟨h.os, h.out, fun i hi => ?_⟩
  rw [h.heap i hi]
  cases W.heap[i]? with
  | none => rfl
  | some o => cases o <;> first | rfl | exact ⟨rfl, rfl, rfl, fun _ _ => rfl⟩ | exact .inr ⟨rfl, rfl⟩

theorem Only.same {W W' : World} (h : Only W W') {p : MemPlace} (hp : p.block < W.heap.size) : W.sameAt W' p := by
  cases p with
  | cell b o =>
    have := h.heap b hp
    simp only [World.sameAt,World.cell?,this]
  | map b => exact h.heap b hp

theorem law_contractG {GT : Nat → Option AV} {F : Fns} {okD : Nat → Array Oper → List (List Nat) → List AOper → Bool} (TO : TableOk P GT F okD) {f : FuncId} {fn : Func} {s : ChangeSpec} {m : Nat} {tb : TypeId} (hf : okFn P f = true) (hvars : s.vars = [])
    (hspec : ∀ ds : List (DataW H), ds.length = fn.params.toList.length → s.fn H ds = { results := [.lit (.bool true)], args := ds })
    (hsup : fn.params.toList.all (sup P m) = true) (hlaid : laidOutB P = true) (hr : fn.params.toList.all (fun t => P.readableRec t && decide (t < P.types.size)) = true)
    (hres : fn.resultTypes = #[tb]) (hb : P.underlying tb = some .bool)
    (hlaw : ∀ avs, RdAll P m fn.params.toList avs → ∃ n, ∀ ω, ∃ h', call F n true ω f avs [] = some (.bool true, h'))
    (W : World) (hG : ∀ cd g v, GT g = some v → VRel (Env.of W cd).bare (.iptr v) (.pointer (some ⟨g, 0, none⟩))) (b0 : Nat) (args : Array Value) (ds gs : List (DataW H)) (before : List MemPlace)
    (hval : ∀ (j : Nat) t v, fn.params[j]? = some t → args[j]? = some v → Value.okWide P W .any b0 t v)
    (hW : DataW.Whole enc P fn.params.toList s.vars false W args.toList ds gs before) :
    Calls P f args W fun e W' => ∃ v, e = .returned v ∧ s.post enc P fn false true false false W args v W' := by
  have hW' := hW
  obtain ⟨p, q, hA, hV, rfl, hfz, hnd⟩ := hW
  rw [hvars] at hV
  obtain ⟨rfl, rfl⟩ := trodVars_none hV
  have hds := ds_length hA
  have hA0 : DataW.TrodAll enc P W 0 (fun _ => true) true fn.params.toList args.toList ds p := hA
  obtain ⟨avs, a1, a2, a3⟩ := all_rd (List.all_eq_true.1 hsup) (fun j t v h1 h2 => hval j t v (by simpa using h1) (by simpa using h2)) hA
  obtain ⟨n, hn⟩ := hlaw avs a3
  refine (entry (callsOk TO n) hf ⟨fun g v hv => hG _ g v hv, rfl⟩ ⟨by simpa using a1, fun i x y hx hy => a2 i x y hx (by simpa using hy)⟩ hn).mono fun e W' ⟨he, ho⟩ => ?_
  subst he
  refine ⟨_, rfl, ?_⟩
  have hlt : ∀ x ∈ p, x.block < W.heap.size := fun x hx => hW'.lt x (by simp [hx])
  have hsp : s.fn H (ds ++ []) = { results := [.lit (.bool true)], args := ds } := by rw [List.append_nil]; exact hspec ds hds
  have hr' : ∀ t ∈ fn.params.toList, P.readableRec t = true ∧ t < P.types.size := fun t ht => by
    have := List.all_eq_true.1 hr t ht
    simpa using this
  refine ⟨ds, [], p ++ [], [], p, [], hW', ?_, ?_, ?_, ho.kept _, fun h => by cases h⟩
  · rw [hsp, hres]
    exact trodAll_cons_mk (shut_bool hb _) trodAll_mk0
  · rw [hsp]
    exact stays_all hlaid hr' (fun t ht => ht) hA0 (fun x hx => ho.same (hlt x hx)) (fun x hx => by simpa using hlt x hx)
  · rw [hsp, hvars]; rfl
end
end Go.Im

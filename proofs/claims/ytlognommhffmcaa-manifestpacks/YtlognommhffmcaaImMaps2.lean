/- ImMaps2: operations on maps. -/
import Derived.Test.YtlognommhffmcaaImMaps
set_option linter.unusedVariables false
set_option linter.unusedSimpArgs false
namespace Go.Im
section
variable {P : Program} {E : Env} {h : Hp} {w : World} {r : Regs} {a : Act} {o : Oper} {reg : Reg}

/-- The world with another object in a block. -/
def setO (w : World) (b : Nat) (x : Obj) : World := { w with heap := w.heap.setIfInBounds b x }

theorem setO_other (w : World) {b b' : Nat} (x : Obj) (hb : b' ≠ b) : (setO w b x).heap[b']? = w.heap[b']? := by
  show (w.heap.setIfInBounds b x)[b']? = _
  exact Array.getElem?_setIfInBounds_ne (Ne.symm hb)
theorem setO_same (w : World) {b : Nat} (x : Obj) (hb : b < w.heap.size) : (setO w b x).heap[b]? = some x := by
  show (w.heap.setIfInBounds b x)[b]? = _
  simp [hb]
theorem setO_size (w : World) (b : Nat) (x : Obj) : (setO w b x).heap.size = w.heap.size := by
  show (w.heap.setIfInBounds b x).size = _
  simp

/-- An object of the heap turned. -/
theorem set_obj {tm : Array Value} (hf : FRel E h w r tm) (hh : HRel E h w) {id : Nat} {x y : AO} (hx : h[id]? = some x) (hd : x ≠ .dead) {ob : Obj} (hs : ∀ o, E.sg (E.ob id) o = none)
    (hy : ORel E (setO w (E.ob id) ob) (E.ob id) (E.cp id) y) :
    Keep E h (Vars r tm) w E (h.set id y) (Vars r tm) (setO w (E.ob id) ob) ∧ FRel E (h.set id y) (setO w (E.ob id) ob) r tm ∧ HRel E (h.set id y) (setO w (E.ob id) ob) := by
  have hown : Owned E h (E.ob id) := ⟨id, ⟨x, hx, hd⟩, rfl⟩
  refine ⟨⟨.refl E, by rw [setO_size]; exact Nat.le_refl _, rfl, rfl, fun b' _ ho _ => setO_other w ob fun e => ho (e ▸ hown), fun b' ho => .inl (Owned.set hx hd ho), fun _ h => .inl h, fun _ _ h => .inl h⟩, ?_, ?_⟩
  · exact hf.other (owned_no_var hf hown) (fun b' hb => setO_other w ob hb) fun b' ho => Owned.set hx hd ho
  · exact hh.set hx hd (setO_size _ _ _) (fun b' hb => setO_other w ob hb) hs hy

theorem map_at (hh : HRel E h w) {id : Nat} {es : List (AV × AV × Nat)} {clock : Nat} (he : h[id]? = some (.map es clock)) :
    ∃ ents, w.heap[E.ob id]? = some (.map ents clock) ∧ EntsR E es ents.toList ∧ ∀ o, E.sg (E.ob id) o = none := by
  obtain ⟨ents, h1, h2, h3, h4⟩ := hh.obj id _ he
  exact ⟨ents, h1, ⟨by simpa using h2, fun i e m hi hm => h3 i e m hi (by simpa using hm)⟩, h4⟩

theorem map_ORel {w' : World} {b cp : Nat} {es : List (AV × AV × Nat)} {ents : Array MapEntry} {clock : Nat} (hb : w'.heap[b]? = some (.map ents clock)) (hr : EntsR E es ents.toList) (hs : ∀ o, E.sg b o = none) : ORel E w' b cp (.map es clock) :=
  ⟨ents, hb, by simpa using hr.1, fun i e m hi hm => hr.2 i e m hi (by simpa using hm), hs⟩

theorem run_getMap {b : Nat} {ents : Array MapEntry} {clock : Nat} (hb : w.heap[b]? = some (.map ents clock)) : (getObj b).run P w = .ok (.map ents clock) w := by
  simp [getObj, Sem.run, hb]

theorem run_setObj {b : Nat} {x y : Obj} (hb : w.heap[b]? = some x) (hx : ∀ c e f, x ≠ .cells c e f) : (setObj b y).run P w = .ok () (setO w b y) := by
  simp only [setObj, Sem.run, hb]
  cases x <;> first
    | exact absurd rfl (hx _ _ _)
    | rfl

theorem map_inv {u : Value} {id : Nat} (hu : VRel E (.mp id) u) : u = .map (some (E.ob id)) ∧ id < E.n := by cases hu; exact ⟨rfl, by assumption⟩
theorem nilm_inv {u : Value} (hu : VRel E .nilm u) : u = .map none := by cases hu; rfl

theorem EntsR.modify {es : List (AV × AV × Nat)} {ms : List MapEntry} (hr : EntsR E es ms) (i : Nat) (f : AV × AV × Nat → AV × AV × Nat) (g : MapEntry → MapEntry) (hfg : ∀ e m, es[i]? = some e → ms[i]? = some m → EntR E e m → EntR E (f e) (g m)) : EntsR E (es.modify i f) (ms.modify i g) := by
  refine ⟨by simpa using hr.1, fun j e m he hm => ?_⟩
  rw [List.getElem?_modify] at he hm
  obtain ⟨e', he', rfl⟩ := Option.map_eq_some_iff.1 he
  obtain ⟨m', hm', rfl⟩ := Option.map_eq_some_iff.1 hm
  have := hr.2 j e' m' he' hm'
  by_cases hij : i = j
  · subst hij; simpa using hfg e' m' he' hm' this
  · simpa [hij] using this

theorem EntsR.push {es : List (AV × AV × Nat)} {ms : List MapEntry} (hr : EntsR E es ms) {e : AV × AV × Nat} {m : MapEntry} (hem : EntR E e m) : EntsR E (es ++ [e]) (ms ++ [m]) := by
  refine ⟨by simp [hr.1], fun j x y hx hy => ?_⟩
  by_cases hj : j < es.length
  · rw [List.getElem?_append_left hj] at hx
    rw [List.getElem?_append_left (by rw [← hr.1]; exact hj)] at hy
    exact hr.2 j x y hx hy
  · rw [List.getElem?_append_right (by omega)] at hx
    rw [List.getElem?_append_right (by rw [← hr.1]; omega), ← hr.1] at hy
    have : j - es.length = 0 := by
      have := (List.getElem?_eq_some_iff.1 hx).1
      simpa using this
    rw [this] at hx hy
    cases hx; cases hy
    exact hem

theorem EntsR.erase {es : List (AV × AV × Nat)} {ms : List MapEntry} (hr : EntsR E es ms) (i : Nat) : EntsR E (es.eraseIdx i) (ms.eraseIdx i) := by
  refine ⟨by rw [List.length_eraseIdx, List.length_eraseIdx, hr.1], fun j x y hx hy => ?_⟩
  rw [List.getElem?_eraseIdx] at hx hy
  split at hx
  · rename_i hlt; rw [if_pos hlt] at hy; exact hr.2 j x y hx hy
  · rename_i hlt; rw [if_neg hlt] at hy; exact hr.2 (j + 1) x y hx hy

theorem EntsR.mono {E' : Env} (hE : E.le E') {es : List (AV × AV × Nat)} {ms : List MapEntry} (hr : EntsR E es ms) : EntsR E' es ms :=
  ⟨hr.1, fun i e m he hm => let ⟨k1, k2, k3⟩ := hr.2 i e m he hm; ⟨k1.mono hE, k2.mono hE, k3⟩⟩

/-! ### the operations -/

theorem st_mkMap {K : Kont} (hf : FRel E h w r a.tmps) (hh : HRel E h w) {t : TypeId} (ho : o.op = .makeMap t none) {r' : Regs} {h' : Hp} (he : step K r h .mkMap = some (reg, r', h')) : Res P E h w r a o reg r' h' := by
  cases he
  have g := Grow.alloc w (.map #[] 0)
  have hlt : w.heap.size < (w.alloc (.map #[] 0)).heap.size := by show _ < (w.heap.push _).size; simp
  have ho2 : ORel (E.add w.heap.size 0) (w.alloc (.map #[] 0)) w.heap.size 0 (.map [] 0) := map_ORel (alloc_at _ _) ⟨rfl, fun i e m hi => by simp at hi⟩ fun o => hh.sg_new (Nat.le_refl _) o
  obtain ⟨k1, k2, k3⟩ := new_entry hf hh g (Nat.le_refl _) hlt ho2
  refine .of_val (.inl (by simp [execOp, ho, Instr.makeMap]; rfl)) k1 k2 k3 ?_
  have : E.n = h.length := hh.n
  have e1 : (E.add w.heap.size 0).ob h.length = w.heap.size := by simp [Env.add, this]
  have := VRel.mp (E := E.add w.heap.size 0) h.length (by simp [Env.add, this])
  rwa [e1] at this

/-- A map's value, and its entries. -/
def MapAt (w : World) (u : Value) (ents : Array MapEntry) : Prop := (u = .map none ∧ ents = #[]) ∨ ∃ b clock, u = .map (some b) ∧ w.heap[b]? = some (.map ents clock)

theorem mapOf_spec (hh : HRel E h w) {v : AV} {u : Value} (hv : VRel E v u) {es : List (AV × AV × Nat)} (he : mapOf h v = some es) : ∃ ents, MapAt w u ents ∧ EntsR E es ents.toList := by
  unfold mapOf at he
  split at he
  · cases he; exact ⟨#[], .inl ⟨nilm_inv hv, rfl⟩, rfl, fun i e m hi => by simp at hi⟩
  · split at he
    · rename_i id es' clock hid
      cases he
      obtain ⟨ents, h1, h2, h3⟩ := map_at hh hid
      exact ⟨ents, .inr ⟨_, clock, (map_inv hv).1, h1⟩, h2⟩
    · cases he
  · cases he

def foundOf (zv : Value) : Option (Nat × Value) → Value × Bool
  | some (_, v) => (v, true)
  | none => (zv, false)

theorem run_lookup {t kt et : TypeId} {u k : Value} {ents : Array MapEntry} {res : Option (Nat × Value)} {zv : Value} {ok : Bool} (ht : P.underlying t = some (.map kt et)) (hu : MapAt w u ents) (hc : (Instr.checkKey ents.isEmpty 10000 kt k).run P w = .ok () w)
    (hf : (Instr.findKey kt k ents.toList).run P w = .ok res w) (hz : (zeroValue et).run P w = .ok zv w) :
    (Instr.lookup t u k ok).run P w = .ok (if ok then .tuple #[(foundOf zv res).1, .bool (foundOf zv res).2] else (foundOf zv res).1) w := by
  rcases hu with ⟨rfl, rfl⟩ | ⟨b, clock, rfl, hb⟩
  · simp at hc hf
    cases res with
    | none => simp [Instr.lookup, run_underlying ht, hc, hf, hz, foundOf]
    | some p => simp [Instr.lookup, run_underlying ht, hc, hf, foundOf]
  · cases res with
    | none => simp [Instr.lookup, run_underlying ht, run_getMap hb, hc, hf, hz, foundOf]
    | some p => simp [Instr.lookup, run_underlying ht, run_getMap hb, hc, hf, foundOf]

theorem pair_rel {ok : Bool} {x : AV} {u : Value} {b : Bool} (hx : VRel E x u) : VRel E (if ok then .tup [x, .bool b] else x) (if ok then .tuple #[u, .bool b] else u) := by
  cases ok with
  | true =>
    refine .tup _ _ rfl fun i x y hx' hy => ?_
    match i with
    | 0 => simp at hx' hy; subst hx'; subst hy; exact hx
    | 1 => simp at hx' hy; subst hx'; subst hy; exact .bool _
    | i + 2 => simp at hx'
  | false => exact hx

theorem ev_lookup (hf : FRel E h w r a.tmps) (hh : HRel E h w) {t kt et : TypeId} {y yk : Operand} {x xk : AX} {d : TypeDesc} {ks : List CK} {zero : AV} {zv : Value} {ok : Bool} {i : TypeInfo} (ho : o.op = .lookup t y yk ok) (ht : P.underlying t = some (.map kt et)) (hd : P.underlying kt = some d) (hk : kinds P 10000 kt = some ks)
    (hi : P.info? et = some i) (hz : i.zero = some zv) (hzv : VRel E zero zv) (hx : XRel E a x y) (hxk : XRel E a xk yk)
    (he : evalV r h (.lookup (aggD d) ks zero ok x xk) = some reg) : Pure P E h w r a o reg := by
  simp only [evalV] at he
  split at he
  · rename_i m k hm hkv
    have hkr := vl_spec hf hxk hkv
    have hmr := vl_spec hf hx hm
    split at he
    · rename_i es hko hmo
      obtain ⟨ents, h1, h2⟩ := mapOf_spec hh hmr hmo
      obtain ⟨us, hl, hus⟩ := key_isV hd hkr hko
      have hc := checkKey_run (w := w) (em := ents.isEmpty) 10000 kt ks us _ hk hl hus
      have hzr : (zeroValue et).run P w = .ok zv w := by simp [zeroValue, typeInfo, hi, hz]
      split at he
      · rename_i j v hfk
        cases he
        obtain ⟨res', g1, g2⟩ := findKey_run hd hk hkr h2 hfk w
        have g3 := run_lookup (ok := ok) ht h1 hc g1 hzr
        match res', g2 with
        | some (j', u), ⟨_, g2⟩ => exact .val (by simp only [execOp, ho, Sem.run_bind, g3, Result.andThen_ok]; rfl) (pair_rel g2)
      · rename_i hfk
        cases he
        obtain ⟨res', g1, g2⟩ := findKey_run hd hk hkr h2 hfk w
        have g3 := run_lookup (ok := ok) ht h1 hc g1 hzr
        match res', g2 with
        | none, _ => exact .val (by simp only [execOp, ho, Sem.run_bind, g3, Result.andThen_ok]; rfl) (pair_rel hzv)
      · cases he
    · cases he
  · cases he

theorem getElem_of_len {α β : Type} {xs : List α} {ys : List β} (hl : xs.length = ys.length) {i : Nat} {x : α} (hx : xs[i]? = some x) : ∃ y, ys[i]? = some y :=
  ⟨ys[i]'(hl ▸ (List.getElem?_eq_some_iff.1 hx).1), List.getElem?_eq_getElem _⟩

theorem st_mapUpd {K : Kont} (hf : FRel E h w r a.tmps) (hh : HRel E h w) {t kt et : TypeId} {y yk yv : Operand} {x xk xv : AX} {d : TypeDesc} {ks : List CK} (ho : o.op = .mapUpdate t y yk yv ∨ o.op = .insert t y yk yv) (ht : P.underlying t = some (.map kt et)) (hd : P.underlying kt = some d) (hk : kinds P 10000 kt = some ks)
    (hx : XRel E a x y) (hxk : XRel E a xk yk) (hxv : XRel E a xv yv) {r' : Regs} {h' : Hp}
    (he : step K r h (.mapUpd (aggD d) ks x xk xv) = some (reg, r', h')) : Res P E h w r a o reg r' h' := by
  simp only [step] at he
  split at he
  · rename_i id k v hm hkv hvv
    have hkr := vl_spec hf hxk hkv
    have hvr := vl_spec hf hxv hvv
    obtain ⟨hu, hid⟩ := map_inv (vl_spec hf hx hm)
    split at he
    · rename_i es clock hes hko
      obtain ⟨ents, h1, h2, h3⟩ := map_at hh hes
      obtain ⟨us, hl, hus⟩ := key_isV hd hkr hko
      have hc := checkKey_run (w := w) (em := false) 10000 kt ks us _ hk hl hus
      have hlt : E.ob id < w.heap.size := hh.lt id ⟨_, hes, by simp⟩
      have fin : ∀ (ents' : Array MapEntry) (es' : List (AV × AV × Nat)) (clock' : Nat), EntsR E es' ents'.toList → (Instr.mapUpdate t (a.eval y) (a.eval yk) (a.eval yv)).run P w = .ok () (setO w (E.ob id) (.map ents' clock')) →
          Res P E h w r a o .un r (h.set id (.map es' clock')) := by
        intro ents' es' clock' hr hrun
        obtain ⟨k1, k2, k3⟩ := set_obj hf hh hes (by simp) h3 (map_ORel (w' := setO w (E.ob id) (.map ents' clock')) (cp := E.cp id) (setO_same w _ hlt) hr h3)
        refine ⟨undef, _, E, .inr ⟨?_, rfl⟩, k1, k2, k3, trivial, fun v e => by cases e⟩
        rcases ho with ho | ho <;> simp [execOp, ho, hrun]
      split at he
      · rename_i j v' hfk
        cases he
        obtain ⟨res', g1, g2⟩ := findKey_run hd hk hkr h2 hfk w
        obtain ⟨k', b, _, g4, g5⟩ := findK_at hfk
        obtain ⟨m, g6⟩ := getElem_of_len h2.1 g4
        obtain ⟨e1, e2, e3⟩ := h2.2 _ _ _ g4 g6
        simp only [Nat.sub_zero] at g4 g6
        have g7 : ents[j]? = some m := by simpa using g6
        match res', g2 with
        | some (j', u), ⟨hj, g2⟩ =>
          subst hj
          refine fin (ents.modify j fun e => { e with key := a.eval yk, val := a.eval yv }) _ clock ?_ ?_
          · rw [Array.toList_modify]
            exact h2.modify j _ _ fun e m he hm hem => ⟨hkr, hvr, hem.2.2⟩
          · have hst := keyStays_run (P := P) hkr e1 g5 w
            simp [Instr.mapUpdate, run_underlying ht, hu, run_getMap h1, hc, g1, g7, hst, run_setObj h1]
      · rename_i hfk
        cases he
        obtain ⟨res', g1, g2⟩ := findKey_run hd hk hkr h2 hfk w
        match res', g2 with
        | none, _ =>
          refine fin (ents.push { key := a.eval yk, val := a.eval yv, born := clock }) _ (clock + 1) ?_ ?_
          · rw [Array.toList_push]
            exact h2.push ⟨hkr, hvr, rfl⟩
          · simp [Instr.mapUpdate, run_underlying ht, hu, run_getMap h1, hc, g1, run_setObj h1]
      · cases he
    · cases he
  · cases he

theorem st_mapEnt {K : Kont} (hf : FRel E h w r a.tmps) (hh : HRel E h w) {t kt et : TypeId} {y yk : Operand} {x xk : AX} {d : TypeDesc} {ks : List CK} {zero : AV} {zv : Value} {i : TypeInfo} (ho : o.op = .mapEntry t y yk) (ht : P.underlying t = some (.map kt et)) (hd : P.underlying kt = some d) (hk : kinds P 10000 kt = some ks)
    (hi : P.info? et = some i) (hz : i.zero = some zv) (hzv : VRel E zero zv) (hx : XRel E a x y) (hxk : XRel E a xk yk) {r' : Regs} {h' : Hp}
    (he : step K r h (.mapEnt (aggD d) ks zero x xk) = some (reg, r', h')) : Res P E h w r a o reg r' h' := by
  simp only [step] at he
  split at he
  · rename_i id k hm hkv
    have hkr := vl_spec hf hxk hkv
    obtain ⟨hu, hid⟩ := map_inv (vl_spec hf hx hm)
    split at he
    · rename_i es clock hes hko
      obtain ⟨ents, h1, h2, h3⟩ := map_at hh hes
      obtain ⟨us, hl, hus⟩ := key_isV hd hkr hko
      have hc := checkKey_run (w := w) (em := false) 10000 kt ks us _ hk hl hus
      have hlt : E.ob id < w.heap.size := hh.lt id ⟨_, hes, by simp⟩
      have hzr : (zeroValue et).run P w = .ok zv w := by simp [zeroValue, typeInfo, hi, hz]
      have fin : ∀ (ents' : Array MapEntry) (es' : List (AV × AV × Nat)) (clock' : Nat) (xv : AV) (u : Value) (n : Int), EntsR E es' ents'.toList → (Instr.mapEntry t (a.eval y) (a.eval yk)).run P w = .ok (.tuple #[u, goInt n]) (setO w (E.ob id) (.map ents' clock')) → VRel E xv u →
          Res P E h w r a o (.val (.tup [xv, .int .i64 n])) r (h.set id (.map es' clock')) := by
        intro ents' es' clock' xv u n hr hrun hv
        obtain ⟨k1, k2, k3⟩ := set_obj hf hh hes (by simp) h3 (map_ORel (w' := setO w (E.ob id) (.map ents' clock')) (cp := E.cp id) (setO_same w _ hlt) hr h3)
        refine .of_val (.inl (by simp [execOp, ho, hrun]; rfl)) k1 k2 k3 (.tup _ _ rfl fun i x y hx hy => ?_)
        match i with
        | 0 => simp at hx hy; subst hx; subst hy; exact hv
        | 1 => simp at hx hy; subst hx; subst hy; exact .int _ _
        | i + 2 => simp at hx
      split at he
      · rename_i j v' hfk
        obtain ⟨res', g1, g2⟩ := findKey_run hd hk hkr h2 hfk w
        obtain ⟨k', b, _, g4, g5⟩ := findK_at hfk
        obtain ⟨m, g6⟩ := getElem_of_len h2.1 g4
        obtain ⟨e1, e2, e3⟩ := h2.2 _ _ _ g4 g6
        simp only [Nat.sub_zero] at g4 g6
        have g7 : ents[j]? = some m := by simpa using g6
        rw [g4] at he
        simp only at he
        cases he
        match res', g2 with
        | some (j', u), ⟨hj, g2⟩ =>
          subst hj
          refine fin (ents.modify j fun e => { e with key := a.eval yk }) _ clock v' u b ?_ ?_ g2
          · rw [Array.toList_modify]
            exact h2.modify j _ _ fun e m he hm hem => ⟨hkr, hem.2.1, hem.2.2⟩
          · have hst := keyStays_run (P := P) hkr e1 g5 w
            simp only at e3
            simp [Instr.mapEntry, run_underlying ht, hu, run_getMap h1, hc, g1, g7, hst, run_setObj h1, e3]
      · rename_i hfk
        cases he
        obtain ⟨res', g1, g2⟩ := findKey_run hd hk hkr h2 hfk w
        match res', g2 with
        | none, _ =>
          refine fin (ents.push { key := a.eval yk, val := zv, born := clock }) _ (clock + 1) zero zv clock ?_ ?_ hzv
          · rw [Array.toList_push]
            exact h2.push ⟨hkr, hzv, rfl⟩
          · simp [Instr.mapEntry, run_underlying ht, hu, run_getMap h1, hc, g1, run_setObj h1, hzr]
      · cases he
    · cases he
  · cases he
end
end Go.Im

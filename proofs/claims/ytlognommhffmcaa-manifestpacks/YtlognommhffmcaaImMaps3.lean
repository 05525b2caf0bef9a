/- ImMaps3: more operations on maps: stores into an entry, deletions, loops over a map. -/
import Derived.Test.YtlognommhffmcaaImMaps2
set_option linter.unusedVariables false
set_option linter.unusedSimpArgs false
namespace Go.Im
section
variable {P : Program} {E : Env} {h : Hp} {w : World} {r : Regs} {a : Act} {o : Oper} {reg : Reg}

theorem findIdx_rel {b : Int} : ∀ {es : List (AV × AV × Nat)} {ms : List MapEntry}, EntsR E es ms → es.findIdx? (fun e => (e.2.2 : Int) == b) = ms.findIdx? (fun e => (e.born : Int) == b)
  | [], [], _ => rfl
  | [], m :: ms, hr => by simp [EntsR] at hr
  | e :: es, [], hr => by simp [EntsR] at hr
  | e :: es, m :: ms, hr => by
    obtain ⟨_, _, r3⟩ := hr.2 0 e m rfl rfl
    simp only [List.findIdx?_cons, r3, findIdx_rel hr.tail]

theorem st_entSto {K : Kont} (hf : FRel E h w r a.tmps) (hh : HRel E h w) {t : TypeId} {y ys yv : Operand} {x xs xv : AX} (ho : o.op = .entryStore t y ys yv)
    (hx : XRel E a x y) (hxs : XRel E a xs ys) (hxv : XRel E a xv yv) {r' : Regs} {h' : Hp}
    (he : step K r h (.entSto x xs xv) = some (reg, r', h')) : Res P E h w r a o reg r' h' := by
  simp only [step] at he
  split at he
  · rename_i id b v hm hb hvv
    have hvr := vl_spec hf hxv hvv
    obtain ⟨hu, hid⟩ := map_inv (vl_spec hf hx hm)
    obtain ⟨kb, hkb⟩ := iv_spec hf hxs hb
    split at he
    · rename_i es clock hes
      obtain ⟨ents, h1, h2, h3⟩ := map_at hh hes
      have hlt : E.ob id < w.heap.size := hh.lt id ⟨_, hes, by simp⟩
      split at he
      · rename_i i hi
        cases he
        have hi' : ents.findIdx? (fun e => (e.born : Int) == b) = some i := by
          rw [findIdx_rel h2] at hi
          rwa [← List.findIdx?_toArray, Array.toArray_toList] at hi
        obtain ⟨k1, k2, k3⟩ := set_obj hf hh hes (by simp) h3 (map_ORel (w' := setO w (E.ob id) (.map (ents.modify i fun e => { e with val := a.eval yv }) clock)) (cp := E.cp id) (setO_same w _ hlt)
          (by rw [Array.toList_modify]; exact h2.modify i (fun e => (e.1, v, e.2.2)) _ fun e m he hm hem => ⟨hem.1, hvr, hem.2.2⟩) h3)
        refine ⟨undef, _, E, .inr ⟨?_, rfl⟩, k1, k2, k3, trivial, fun v e => by cases e⟩
        simp [execOp, ho, Instr.entryStore, hu, run_getMap h1, hkb, asInt, asIntOf, hi', run_setObj h1]
      · cases he
    · cases he
  · cases he

theorem st_del {K : Kont} (hf : FRel E h w r a.tmps) (hh : HRel E h w) {t t2 kt et : TypeId} {y yk : Operand} {x xk : AX} {d : TypeDesc} {ks : List CK} (ho : o.op = .call { callee := .builtin .delete, args := #[y, yk], argTypes := #[t, t2] }) (ht : P.underlying t = some (.map kt et)) (hd : P.underlying kt = some d) (hk : kinds P 10000 kt = some ks)
    (hx : XRel E a x y) (hxk : XRel E a xk yk) {r' : Regs} {h' : Hp}
    (he : step K r h (.del (aggD d) ks x xk) = some (reg, r', h')) : Res P E h w r a o reg r' h' := by
  simp only [step] at he
  split at he
  · rename_i k hm hkv
    have hkr := vl_spec hf hxk hkv
    have hu := nilm_inv (vl_spec hf hx hm)
    split at he
    · rename_i hko
      cases he
      obtain ⟨us, hl, hus⟩ := key_isV hd hkr hko
      have hc := checkKey_run (w := w) (em := true) 10000 kt ks us _ hk hl hus
      refine .of_val (u := .tuple #[]) (.inl ?_) (Keep.refl _ _ _ _) hf hh (.tup _ _ rfl fun i x y hi => by simp at hi)
      simp [execOp, ho, resolve, invoke, builtin, Builtin.delete_, run_underlying ht, hu, hc]
    · cases he
  · rename_i id k hm hkv
    have hkr := vl_spec hf hxk hkv
    obtain ⟨hu, hid⟩ := map_inv (vl_spec hf hx hm)
    split at he
    · rename_i es clock hes hko
      obtain ⟨ents, h1, h2, h3⟩ := map_at hh hes
      obtain ⟨us, hl, hus⟩ := key_isV hd hkr hko
      have hc := checkKey_run (w := w) (em := ents.isEmpty) 10000 kt ks us _ hk hl hus
      have hlt : E.ob id < w.heap.size := hh.lt id ⟨_, hes, by simp⟩
      split at he
      · rename_i j v' hfk
        cases he
        obtain ⟨res', g1, g2⟩ := findKey_run hd hk hkr h2 hfk w
        match res', g2 with
        | some (j', u), ⟨hj, g2⟩ =>
          subst hj
          obtain ⟨k1, k2, k3⟩ := set_obj hf hh hes (by simp) h3 (map_ORel (w' := setO w (E.ob id) (.map (ents.eraseIdxIfInBounds j) clock)) (cp := E.cp id) (setO_same w _ hlt)
            (by rw [Array.toList_eraseIdxIfInBounds]; exact h2.erase j) h3)
          refine .of_val (u := .tuple #[]) (.inl ?_) k1 k2 k3 (.tup _ _ rfl fun i x y hi => by simp at hi)
          simp [execOp, ho, resolve, invoke, builtin, Builtin.delete_, run_underlying ht, hu, run_getMap h1, hc, g1, run_setObj h1]
      · rename_i hfk
        cases he
        obtain ⟨res', g1, g2⟩ := findKey_run hd hk hkr h2 hfk w
        match res', g2 with
        | none, _ =>
          obtain ⟨k1, k2, k3⟩ := set_obj hf hh hes (by simp) h3 (map_ORel (w' := setO w (E.ob id) (.map ents clock)) (cp := E.cp id) (setO_same w _ hlt) h2 h3)
          have hse : h.set id (.map es clock) = h := by
            obtain ⟨hl, hg⟩ := List.getElem?_eq_some_iff.1 hes
            rw [← hg, List.set_getElem_self]
          rw [hse] at k1 k2 k3
          refine .of_val (u := .tuple #[]) (.inl ?_) k1 k2 k3 (.tup _ _ rfl fun i x y hi => by simp at hi)
          simp [execOp, ho, resolve, invoke, builtin, Builtin.delete_, run_underlying ht, hu, run_getMap h1, hc, g1, run_setObj h1]
      · cases he
    · cases he
  · cases he

theorem st_clearM {K : Kont} (hf : FRel E h w r a.tmps) (hh : HRel E h w) {t kt et : TypeId} {y : Operand} {x : AX} (ho : o.op = .call { callee := .builtin .clear, args := #[y], argTypes := #[t] }) (ht : P.underlying t = some (.map kt et)) (hx : XRel E a x y) {r' : Regs} {h' : Hp}
    (he : step K r h (.clearM x) = some (reg, r', h')) : Res P E h w r a o reg r' h' := by
  simp only [step] at he
  split at he
  · rename_i hm
    cases he
    refine .of_val (u := .tuple #[]) (.inl ?_) (Keep.refl _ _ _ _) hf hh (.tup _ _ rfl fun i x y hi => by simp at hi)
    simp [execOp, ho, resolve, invoke, builtin, Builtin.clear_, run_underlying ht, nilm_inv (vl_spec hf hx hm)]
  · rename_i id hm
    obtain ⟨hu, hid⟩ := map_inv (vl_spec hf hx hm)
    split at he
    · rename_i es clock hes
      cases he
      obtain ⟨ents, h1, h2, h3⟩ := map_at hh hes
      have hlt : E.ob id < w.heap.size := hh.lt id ⟨_, hes, by simp⟩
      obtain ⟨k1, k2, k3⟩ := set_obj hf hh hes (by simp) h3 (map_ORel (w' := setO w (E.ob id) (.map #[] clock)) (cp := E.cp id) (es := []) (setO_same w _ hlt) ⟨rfl, fun i e m hi => by simp at hi⟩ h3)
      refine .of_val (u := .tuple #[]) (.inl ?_) k1 k2 k3 (.tup _ _ rfl fun i x y hi => by simp at hi)
      simp [execOp, ho, resolve, invoke, builtin, Builtin.clear_, run_underlying ht, hu, run_getMap h1, run_setObj h1]
    · cases he
  · cases he

/-! ### loops over a map -/

theorem iter_val (hh : HRel E h w) : VRel (E.add w.heap.size 0) (.ptr h.length 0 0 0) (.pointer (some ⟨w.heap.size, 0, none⟩)) := by
  have : E.n = h.length := hh.n
  have e1 : (E.add w.heap.size 0).ob h.length = w.heap.size := by simp [Env.add, this]
  have := VRel.ptr (E := E.add w.heap.size 0) h.length 0 0 0 (by simp [Env.add, this])
  rwa [e1] at this

theorem st_range {K : Kont} (hf : FRel E h w r a.tmps) (hh : HRel E h w) {t kt et : TypeId} {y : Operand} {x : AX} (ho : o.op = .range t y) (ht : P.underlying t = some (.map kt et)) (hx : XRel E a x y) {r' : Regs} {h' : Hp}
    (he : step K r h (.range x) = some (reg, r', h')) : Res P E h w r a o reg r' h' := by
  have hlt : ∀ ob : Obj, w.heap.size < (w.alloc ob).heap.size := fun ob => by show _ < (w.heap.push _).size; simp
  simp only [step] at he
  split at he
  · rename_i hm
    cases he
    have g := Grow.alloc w (.mapIter none 0 #[] 0)
    have ho2 : ORel (E.add w.heap.size 0) (w.alloc (.mapIter none 0 #[] 0)) w.heap.size 0 (.iter none 0 [] 0) := ⟨none, alloc_at _ _, rfl, fun o => hh.sg_new (Nat.le_refl _) o⟩
    obtain ⟨k1, k2, k3⟩ := new_entry hf hh g (Nat.le_refl _) (hlt _) ho2
    refine .of_val (.inl ?_) k1 k2 k3 (iter_val hh)
    simp [execOp, ho, Instr.range, run_underlying ht, nilm_inv (vl_spec hf hx hm)]
  · rename_i id hm
    obtain ⟨hu, hid⟩ := map_inv (vl_spec hf hx hm)
    split at he
    · rename_i es clock hes
      cases he
      obtain ⟨ents, h1, h2, h3⟩ := map_at hh hes
      have g := Grow.alloc w (.mapIter (some (E.ob id)) clock #[] clock)
      have ho2 : ORel (E.add w.heap.size 0) (w.alloc (.mapIter (some (E.ob id)) clock #[] clock)) w.heap.size 0 (.iter (some id) clock [] clock) :=
        ⟨some (E.ob id), alloc_at _ _, ⟨Nat.lt_of_lt_of_le hid (E.add_le _ _).n, by rw [(E.add_le _ _).ob id hid]⟩, fun o => hh.sg_new (Nat.le_refl _) o⟩
      obtain ⟨k1, k2, k3⟩ := new_entry hf hh g (Nat.le_refl _) (hlt _) ho2
      refine .of_val (.inl ?_) k1 k2 k3 (iter_val hh)
      simp [execOp, ho, Instr.range, run_underlying ht, hu, run_getMap h1]
    · cases he
  · cases he

theorem ptr_inv {u : Value} {id : Nat} (hu : VRel E (.ptr id 0 0 0) u) : u = .pointer (some ⟨E.ob id, 0, none⟩) ∧ id < E.n := by
  cases hu; exact ⟨by simp, by assumption⟩

theorem iter_at (hh : HRel E h w) {id : Nat} {m : Option Nat} {since stepped : Nat} {seen : List Nat} (he : h[id]? = some (.iter m since seen stepped)) :
    ∃ m', w.heap[E.ob id]? = some (.mapIter m' since seen.toArray stepped) ∧ ((m = none → m' = none) ∧ ∀ j, m = some j → j < E.n ∧ m' = some (E.ob j)) ∧ ∀ o, E.sg (E.ob id) o = none := by
  obtain ⟨m', h1, h2, h3⟩ := hh.obj id _ he
  refine ⟨m', h1, ⟨fun e => ?_, fun j e => ?_⟩, h3⟩
  · subst e; exact h2
  · subst e; exact h2

theorem run_getIter {b : Nat} {m : Option Nat} {since stepped : Nat} {seen : Array Nat} (hb : w.heap[b]? = some (.mapIter m since seen stepped)) : (getObj b).run P w = .ok (.mapIter m since seen stepped) w := by
  simp [getObj, Sem.run, hb]

theorem find_rel {b : Nat} : ∀ {es : List (AV × AV × Nat)} {ms : List MapEntry}, EntsR E es ms → ∀ {e : AV × AV × Nat}, es.find? (fun e => e.2.2 == b) = some e → ∃ m, ms.find? (fun e => e.born == b) = some m ∧ EntR E e m
  | [], _, _, e, hf => by simp at hf
  | e :: es, [], hr, _, _ => by simp [EntsR] at hr
  | e :: es, m :: ms, hr, e', hf => by
    obtain ⟨r1, r2, r3⟩ := hr.2 0 e m rfl rfl
    rw [List.find?_cons] at hf
    rw [List.find?_cons, ← r3]
    split at hf
    · cases hf; exact ⟨m, rfl, r1, r2, r3⟩
    · exact find_rel hr.tail hf

theorem st_entry {K : Kont} (hf : FRel E h w r a.tmps) (hh : HRel E h w) {y : Operand} {x : AX} (ho : o.op = .entry y) (hx : XRel E a x y) {r' : Regs} {h' : Hp}
    (he : step K r h (.entry x) = some (reg, r', h')) : Res P E h w r a o reg r' h' := by
  simp only [step] at he
  split at he
  · rename_i id hm
    obtain ⟨hu, hid⟩ := ptr_inv (vl_spec hf hx hm)
    split at he
    · rename_i m since seen stepped hit
      obtain ⟨m', i1, ⟨_, i2⟩, i3⟩ := iter_at hh hit
      obtain ⟨i2, rfl⟩ := i2 m rfl
      split at he
      · rename_i es clock b hes hb
        split at he
        · rename_i hst
          subst hst
          obtain ⟨ents, h1, h2, h3⟩ := map_at hh hes
          split at he
          · rename_i e hfe
            cases he
            obtain ⟨me, q1, q2, q3, q4⟩ := find_rel h2 hfe
            have q1' : ents.find? (fun e => e.born == b) = some me := by simpa using q1
            refine .of_val (u := .tuple #[me.key, me.val]) (.inl ?_) (Keep.refl _ _ _ _) hf hh (.tup _ _ rfl fun i x y hx hy => ?_)
            · have hb' : seen.toArray.back? = some b := by simpa using hb
              simp [execOp, ho, Instr.entry, hu, run_getIter i1, hb', run_getMap h1, q1', hb]
            · match i with
              | 0 => simp at hx hy; subst hx; subst hy; exact q2
              | 1 => simp at hx hy; subst hx; subst hy; exact q3
              | i + 2 => simp at hx
          · cases he
        · cases he
      · cases he
    · cases he
  · cases he

theorem EntsR.nil : EntsR E [] [] := ⟨rfl, fun i e m hi => by simp at hi⟩
theorem EntsR.cons {e : AV × AV × Nat} {m : MapEntry} {es : List (AV × AV × Nat)} {ms : List MapEntry} (h0 : EntR E e m) (hr : EntsR E es ms) : EntsR E (e :: es) (m :: ms) := by
  refine ⟨by simp [hr.1], fun i x y hx hy => ?_⟩
  cases i with
  | zero => simp at hx hy; subst hx; subst hy; exact h0
  | succ i => exact hr.2 i x y (by simpa using hx) (by simpa using hy)

theorem EntsR.filter {p : AV × AV × Nat → Bool} {q : MapEntry → Bool} (hpq : ∀ e m, EntR E e m → p e = q m) : ∀ {es : List (AV × AV × Nat)} {ms : List MapEntry}, EntsR E es ms → EntsR E (es.filter p) (ms.filter q)
  | [], [], _ => .nil
  | [], m :: ms, hr => by simp [EntsR] at hr
  | e :: es, [], hr => by simp [EntsR] at hr
  | e :: es, m :: ms, hr => by
    have r0 := hr.2 0 e m rfl rfl
    have ih := EntsR.filter hpq hr.tail
    rw [List.filter_cons, List.filter_cons, hpq e m r0]
    split
    · exact .cons r0 ih
    · exact ih

theorem EntsR.append : ∀ {es fs : List (AV × AV × Nat)} {ms ns : List MapEntry}, EntsR E es ms → EntsR E fs ns → EntsR E (es ++ fs) (ms ++ ns)
  | [], fs, [], ns, _, h2 => h2
  | [], fs, m :: ms, ns, hr, _ => by simp [EntsR] at hr
  | e :: es, fs, [], ns, hr, _ => by simp [EntsR] at hr
  | e :: es, fs, m :: ms, ns, hr, h2 => .cons (hr.2 0 e m rfl rfl) (EntsR.append hr.tail h2)

theorem EntsR.all {p : AV × AV × Nat → Bool} {q : MapEntry → Bool} (hpq : ∀ e m, EntR E e m → p e = q m) : ∀ {es : List (AV × AV × Nat)} {ms : List MapEntry}, EntsR E es ms → es.all p = ms.all q
  | [], [], _ => rfl
  | [], m :: ms, hr => by simp [EntsR] at hr
  | e :: es, [], hr => by simp [EntsR] at hr
  | e :: es, m :: ms, hr => by
    rw [List.all_cons, List.all_cons, hpq e m (hr.2 0 e m rfl rfl), EntsR.all hpq hr.tail]

theorem EntsR.isEmpty {es : List (AV × AV × Nat)} {ms : List MapEntry} (hr : EntsR E es ms) : es.isEmpty = ms.isEmpty := by
  cases es <;> cases ms <;> simp [EntsR] at hr ⊢

/-- The model's candidates, as a list. -/
def candM (ms : List MapEntry) (since : Nat) (seen : List Nat) : List (Option MapEntry) :=
  (if ((ms.filter fun e => !seen.contains e.born).filter fun e => decide (e.born < since)).isEmpty then [none] else []) ++
  (((ms.filter fun e => !seen.contains e.born).filter fun e => decide (e.born < since)) ++ ((ms.filter fun e => !seen.contains e.born).filter fun e => decide (e.born ≥ since))).map some

def CandR (E : Env) : Option (AV × AV × Nat) → Option MapEntry → Prop
  | none, none => True
  | some e, some m => EntR E e m
  | _, _ => False

theorem cand_rel {es : List (AV × AV × Nat)} {ms : List MapEntry} (hr : EntsR E es ms) (since : Nat) (seen : List Nat) :
    (cands es since seen).length = (candM ms since seen).length ∧ ∀ (i : Nat) c, (cands es since seen)[i]? = some c → ∃ c', (candM ms since seen)[i]? = some c' ∧ CandR E c c' := by
  have f1 := hr.filter (p := fun e => !seen.contains e.2.2) (q := fun e => !seen.contains e.born) (fun e m h => by rw [h.2.2])
  have f2 := f1.filter (p := fun e => decide (e.2.2 < since)) (q := fun e => decide (e.born < since)) (fun e m h => by rw [h.2.2])
  have f3 := f1.filter (p := fun e => decide (e.2.2 ≥ since)) (q := fun e => decide (e.born ≥ since)) (fun e m h => by rw [h.2.2])
  have f4 := f2.append f3
  have main : ∀ (i : Nat) c, (((((es.filter fun e => !seen.contains e.2.2).filter fun e => decide (e.2.2 < since)) ++ ((es.filter fun e => !seen.contains e.2.2).filter fun e => decide (e.2.2 ≥ since))).map some)[i]? = some c) →
      ∃ c', ((((ms.filter fun e => !seen.contains e.born).filter fun e => decide (e.born < since)) ++ ((ms.filter fun e => !seen.contains e.born).filter fun e => decide (e.born ≥ since))).map some)[i]? = some c' ∧ CandR E c c' := by
    intro i c hc
    rw [List.getElem?_map] at hc
    obtain ⟨e, he, rfl⟩ := Option.map_eq_some_iff.1 hc
    obtain ⟨m, hm⟩ := getElem_of_len f4.1 he
    exact ⟨some m, by rw [List.getElem?_map, hm]; rfl, f4.2 i e m he hm⟩
  unfold cands candM
  rw [f2.isEmpty]
  have hlen := f4.1
  split
  · refine ⟨by simp only [List.length_append, List.length_map] at hlen ⊢; omega, fun i c hc => ?_⟩
    cases i with
    | zero => simp at hc; subst hc; exact ⟨none, by simp, trivial⟩
    | succ i =>
      simp only [List.singleton_append, List.getElem?_cons_succ] at hc ⊢
      exact main i c hc
  · refine ⟨by simp only [List.length_append, List.length_map] at hlen ⊢; omega, fun i c hc => ?_⟩
    simp only [List.nil_append] at hc ⊢
    exact main i c hc

/-- How many there are to choose from. -/
def askN (r : Regs) (h : Hp) (it : AX) : Nat :=
  match vl r it with
  | some (.ptr id 0 0 0) => match h[id]? with
    | some (.iter (some m) since seen _) => match h[m]? with
      | some (.map es _) => (cands es since seen).length
      | _ => 0
    | _ => 0
  | _ => 0

theorem alive_dead {id : Nat} (ha : alive (h ++ [.dead]) id) : alive h id := by
  rcases alive_push ha with ha | ⟨_, hd⟩
  · exact ha
  · exact absurd rfl hd

theorem Owned.addDead {b : Nat} (hh : HRel E h w) (ho : Owned (E.add 0 0) (h ++ [.dead]) b) : Owned E h b := by
  obtain ⟨id, ha, rfl⟩ := ho
  have ha := alive_dead ha
  refine ⟨id, ha, ?_⟩
  simp only [Env.add]; rw [if_neg]; have := alive_lt ha; rw [hh.n]; omega

theorem HRel.addDead (hh : HRel E h w) : HRel (E.add 0 0) (h ++ [.dead]) w := by
  have hob : ∀ id, id < h.length → (E.add 0 0).ob id = E.ob id := fun id hi => by simp only [Env.add]; rw [if_neg (by rw [hh.n]; omega)]
  have hcp : ∀ id, id < h.length → (E.add 0 0).cp id = E.cp id := fun id hi => by simp only [Env.add]; rw [if_neg (by rw [hh.n]; omega)]
  refine ⟨by simp [Env.add, hh.n], hh.sg, fun id ha => ?_, fun id x hx => ?_, fun i j hi hj he => ?_⟩
  · have ha := alive_dead ha
    rw [hob id (alive_lt ha)]; exact hh.lt id ha
  · by_cases hi : id < h.length
    · rw [List.getElem?_append_left hi] at hx
      rw [hob id hi, hcp id hi]
      exact ORel.mono (E.add_le 0 0) (fun _ => rfl) (hh.obj id x hx)
    · rw [List.getElem?_append_right (by omega)] at hx
      have : id - h.length = 0 := by
        have := (List.getElem?_eq_some_iff.1 hx).1
        simpa using this
      rw [this] at hx
      simp at hx
      subst hx
      trivial
  · have hi := alive_dead hi
    have hj := alive_dead hj
    rw [hob i (alive_lt hi), hob j (alive_lt hj)] at he
    exact hh.inj i j hi hj he

theorem FRel.addDead {tm : Array Value} (hf : FRel E h w r tm) (hh : HRel E h w) : FRel (E.add 0 0) (h ++ [.dead]) w r tm :=
  hf.mono (E.add_le 0 0) fun t ht => ⟨rfl, fun _ => rfl, fun ho => hf.own t ht (Owned.addDead hh ho)⟩

theorem Keep.addDead (hh : HRel E h w) (X : Nat → Prop) : Keep E h X w (E.add 0 0) (h ++ [.dead]) X w :=
  ⟨E.add_le 0 0, Nat.le_refl _, rfl, rfl, fun _ _ _ _ => rfl, fun b' ho => .inl (Owned.addDead hh ho), fun _ h => .inl h, fun _ _ h => .inl h⟩

theorem run_choose_next (n : Nat) (hn : n ≠ 0) (w : World) : ∃ w1, Grow w w1 ∧ (choose (.mapNext n)).run P w = .ok (w.tape w.drawn (.mapNext n) % n) w1 := by
  by_cases h1 : n ≤ 1
  · have : n = 1 := by omega
    subst this
    exact ⟨w, .refl w, by simp [run_choose, Question.forced, Nat.mod_one]⟩
  · refine ⟨w.drew, .drew w, ?_⟩
    have : (Question.mapNext n).forced = false := by simp [Question.forced]; omega
    rw [run_choose, this]
    rfl

theorem candM_ne (ms : List MapEntry) (since : Nat) (seen : List Nat) : candM ms since seen ≠ [] := by
  unfold candM
  split
  · simp
  · rename_i h
    intro e
    simp only [List.nil_append, List.map_eq_nil_iff, List.append_eq_nil_iff] at e
    rw [e.1] at h
    exact h rfl

theorem run_next {b mb : Nat} {l : List MapEntry} {clock since stepped : Nat} {seen : List Nat} {ty : TypeId} (hb : w.heap[b]? = some (.mapIter (some mb) since seen.toArray stepped)) (hmb : w.heap[mb]? = some (.map l.toArray clock))
    (hno : (!seen.isEmpty && !l.isEmpty && l.all fun e => decide (e.born ≥ stepped)) = false) :
    ∃ w1 c, Grow w w1 ∧ (candM l since seen)[w.tape w.drawn (.mapNext (candM l since seen).length) % (candM l since seen).length]? = some c ∧
      (Instr.next (.pointer (some ⟨b, 0, none⟩)) false ty).run P w = match c with
        | some m => .ok (.tuple #[.bool true, m.key, m.val]) (setO w1 b (.mapIter (some mb) since (seen ++ [m.born]).toArray clock))
        | none => .ok (.tuple #[.bool false]) w1 := by
  have hne : (candM l since seen).length ≠ 0 := fun e => candM_ne l since seen (List.eq_nil_of_length_eq_zero e)
  obtain ⟨w1, g, hch⟩ := run_choose_next (P := P) _ hne w
  have hlt := Nat.mod_lt (w.tape w.drawn (.mapNext (candM l since seen).length)) (Nat.pos_of_ne_zero hne)
  generalize w.tape w.drawn (.mapNext (candM l since seen).length) % (candM l since seen).length = k at *
  have hk := List.getElem?_eq_getElem hlt
  generalize (candM l since seen)[k] = c at *
  refine ⟨w1, c, g, hk, ?_⟩
  have hb1 : ∀ y, (setObj b y).run P w1 = .ok () (setO w1 b y) := fun y => run_setObj (x := .mapIter (some mb) since seen.toArray stepped) (by rw [g.heap b (Array.getElem?_eq_some_iff.1 hb).1]; exact hb) (fun c e f h => by cases h)
  have hcand : (if ((l.toArray.filter fun e : MapEntry => !seen.toArray.contains e.born).filter fun e : MapEntry => decide (e.born < since)).isEmpty = true then #[none] else #[]) ++ Array.map some (((l.toArray.filter fun e : MapEntry => !seen.toArray.contains e.born).filter fun e : MapEntry => decide (e.born < since)) ++ ((l.toArray.filter fun e : MapEntry => !seen.toArray.contains e.born).filter fun e : MapEntry => decide (e.born ≥ since))) = (candM l since seen).toArray := by
    unfold candM
    simp only [List.filter_toArray, List.isEmpty_toArray, List.append_toArray, List.map_toArray, List.contains_toArray]
    split <;> simp
  unfold Instr.next
  simp only [Sem.run_bind, run_getIter hb, Result.andThen_ok, run_getMap hmb, List.isEmpty_toArray, Array.all_toList, List.all_toArray]
  rw [if_neg (by rw [hno]; simp)]
  simp only [hcand]
  simp only [Sem.run_bind, List.size_toArray, hch, Result.andThen_ok, List.getElem?_toArray, hk]
  cases c with
  | none => rfl
  | some m => simp [hb1]

theorem st_next {K : Kont} (hf : FRel E h w r a.tmps) (hh : HRel E h w) {y : Operand} {x : AX} (ho : o.op = .next y false) (hx : XRel E a x y) (hp : ∀ t, K.pick h.length = some t → t = w.tape w.drawn (.mapNext (askN r h x))) {r' : Regs} {h' : Hp}
    (he : step K r h (.next x) = some (reg, r', h')) : Res P E h w r a o reg r' h' := by
  simp only [step] at he
  split at he
  · rename_i id hm
    obtain ⟨hu, hid⟩ := ptr_inv (vl_spec hf hx hm)
    split at he
    · rename_i since seen stepped hit
      cases he
      obtain ⟨m', i1, ⟨i2, _⟩, i3⟩ := iter_at hh hit
      obtain rfl := i2 rfl
      refine .of_val (u := .tuple #[.bool false]) (.inl ?_) (Keep.refl _ _ _ _) hf hh (.tup _ _ rfl fun i x y hx hy => ?_)
      · simp [execOp, ho, Instr.next, hu, run_getIter i1]
      · match i with
        | 0 => simp at hx hy; subst hx; subst hy; exact .bool _
        | i + 1 => simp at hx
    · rename_i m since seen stepped hit
      obtain ⟨m', i1, ⟨_, i2⟩, i3⟩ := iter_at hh hit
      obtain ⟨hm2, rfl⟩ := i2 m rfl
      split at he
      · rename_i es clock hes
        obtain ⟨ents, h1, h2, h3⟩ := map_at hh hes
        split at he
        · cases he
        · rename_i hno
          have hask : askN r h x = (cands es since seen).length := by simp [askN, hm, hit, hes]
          rw [hask] at hp
          cases hpk : K.pick h.length with
          | none => rw [hpk] at he; cases he
          | some t =>
          rw [hpk, hp t hpk] at he
          simp only [Option.bind_some] at he
          have hix : ∀ (m t : Nat), m ≠ 0 → (if m ≤ 1 then 0 else t % m) = t % m := fun m t hm => by
            split
            · have : m = 1 := by omega
              subst this; omega
            · rfl
          rw [hix _ _ (fun e => candM_ne ents.toList since seen (List.eq_nil_of_length_eq_zero (by rw [← (cand_rel h2 since seen).1]; exact e)))] at he
          obtain ⟨c1, c2⟩ := cand_rel h2 since seen
          rw [h2.isEmpty, h2.all (q := fun e => decide (e.born ≥ stepped)) (fun e m h => by rw [h.2.2])] at hno
          obtain ⟨w1, c, g, g1, g2⟩ := run_next (P := P) (ty := o.type) (l := ents.toList) i1 (by simpa using h1) (by simpa using hno)
          rw [← c1] at g1
          have hrel : ∀ c0, (cands es since seen)[w.tape w.drawn (.mapNext (cands es since seen).length) % (cands es since seen).length]? = some c0 → CandR E c0 c := fun c0 h0 => by
            obtain ⟨c', q1, q2⟩ := c2 _ _ h0
            rw [g1] at q1
            cases q1
            exact q2
          have hh1 := hh.grow g
          have hf1 := hf.grow g
          split at he
          · rename_i e hce
            cases he
            have hr := hrel _ hce
            cases c with
            | none => exact absurd hr (by simp [CandR])
            | some me =>
              obtain ⟨q1, q2, q3⟩ := hr
              have hlt : E.ob id < w1.heap.size := hh1.lt id ⟨_, hit, by simp⟩
              obtain ⟨k1, k2, k3⟩ := set_obj hf1 hh1 hit (by simp) i3 (y := .iter (some m) since (seen ++ [e.2.2]) clock) (ob := .mapIter (some (E.ob m)) since (seen ++ [me.born]).toArray clock)
                ⟨some (E.ob m), by rw [q3]; exact setO_same w1 _ hlt, ⟨hm2, rfl⟩, i3⟩
              have k1' := (Keep.grow E h (Vars r a.tmps) g).trans k1
              refine .of_val (u := .tuple #[.bool true, me.key, me.val]) (.inl ?_) (k1'.trans (Keep.addDead k3 _)) (k2.addDead k3) k3.addDead (.tup _ _ rfl fun i x y hx hy => ?_)
              · simp only [execOp, ho, Sem.run_bind, hu, g2, Result.andThen_ok]; rfl
              · have hle := E.add_le 0 0
                match i with
                | 0 => simp at hx hy; subst hx; subst hy; exact .bool _
                | 1 => simp at hx hy; subst hx; subst hy; exact q1.mono hle
                | 2 => simp at hx hy; subst hx; subst hy; exact q2.mono hle
                | i + 3 => simp at hx
          · rename_i hce
            cases he
            have hr := hrel _ hce
            cases c with
            | some me => exact absurd hr (by simp [CandR])
            | none =>
              refine .of_val (u := .tuple #[.bool false]) (.inl ?_) ((Keep.grow E h (Vars r a.tmps) g).trans (Keep.addDead hh1 _)) (hf1.addDead hh1) hh1.addDead (.tup _ _ rfl fun i x y hx hy => ?_)
              · simp only [execOp, ho, Sem.run_bind, hu, g2, Result.andThen_ok]; rfl
              · match i with
                | 0 => simp at hx hy; subst hx; subst hy; exact .bool _
                | i + 1 => simp at hx
          · cases he
      · cases he
    · cases he
  · cases he
end
end Go.Im

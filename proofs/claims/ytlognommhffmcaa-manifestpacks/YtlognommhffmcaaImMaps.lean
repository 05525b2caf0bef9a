/- ImMaps: maps. -/
import Derived.Test.YtlognommhffmcaaImEq
set_option linter.unusedVariables false
set_option linter.unusedSimpArgs false
namespace Go.Im
section
variable {P : Program} {E : Env} {h : Hp} {w : World} {r : Regs} {a : Act} {o : Oper} {reg : Reg}

theorem checkItems {d : Nat} {e : TypeId} {ks : List CK} {em : Bool} (hk : kinds P d e = some ks) (hs : (P.info? e).map (·.size) = some ks.length) (IH : ∀ (us : List Value) (u : Value) (w : World), us.length = ks.length → IsV P e us u → (Instr.checkKey em d e u).run P w = .ok () w) (xs : List Value) :
    ∀ (is : List Nat) (w : World), (∀ i ∈ is, i * ks.length + ks.length ≤ xs.length) → (forIn is PUnit.unit (fun i (_ : PUnit) => do Instr.checkKey em d e (← part e xs.toArray (i * (← sizeOf e))); pure (ForInStep.yield PUnit.unit)) : Sem PUnit).run P w = .ok PUnit.unit w
  | [], w, _ => by simp
  | i :: is, w, hi => by
    obtain ⟨hsz, hco, j, hj⟩ := cellsOf_of hs
    obtain ⟨u, hu1, hu2⟩ := part_isV (w := w) hk hs (xs := xs) (off := i * ks.length) (hi i (by simp))
    have hl : ((xs.drop (i * ks.length)).take ks.length).length = ks.length := by have := hi i (by simp); simp; omega
    have hq := IH _ u w hl hu2
    have := checkItems hk hs IH xs is w (fun j hj => hi j (by simp [hj]))
    simp only [List.forIn_cons, Sem.run_bind, hsz.run, Result.andThen_ok, hu1, hq, Sem.run_pure, this]

theorem checkFields {d : Nat} {em : Bool} (IH : ∀ (t : TypeId) (ks : List CK) (us : List Value) (u : Value) (w : World), kinds P d t = some ks → us.length = ks.length → IsV P t us u → (Instr.checkKey em d t u).run P w = .ok () w) (xs : List Value) :
    ∀ (fs : List Field) (off : Nat) (ks : List CK) (w : World), kindsF P (kinds P d) fs off = some ks → off + ks.length ≤ xs.length → (forIn fs PUnit.unit (fun (f : Field) (_ : PUnit) => (if f.name ≠ "_" then do Instr.checkKey em d f.type (← part f.type xs.toArray f.offset); pure (ForInStep.yield PUnit.unit) else pure (ForInStep.yield PUnit.unit))) : Sem PUnit).run P w = .ok PUnit.unit w
  | [], off, ks, w, _, _ => by simp
  | f :: fs, off, ks, w, hk, hle => by
    simp only [kindsF] at hk
    split at hk
    · rename_i ks1 hk1
      split at hk
      · rename_i hc
        obtain ⟨c1, c2, c3⟩ := hc
        split at hk
        · rename_i rest hrest
          cases hk
          rw [List.length_append] at hle
          obtain ⟨u, hu1, hu2⟩ := part_isV (w := w) hk1 c3 (xs := xs) (off := off) (by omega)
          have hl : ((xs.drop off).take ks1.length).length = ks1.length := by simp; omega
          have hq := IH _ _ _ u w hk1 hl hu2
          have := checkFields IH xs fs (off + ks1.length) rest w hrest (by omega)
          simp only [List.forIn_cons, Sem.run_bind, Sem.run_ite, ne_eq, c1, not_false_eq_true, if_true, c2, Result.andThen_ok, hu1, hq, Sem.run_pure]
          simpa using this
        · cases hk
      · cases hk
    · cases hk

theorem checkKey_run {em : Bool} : ∀ (d : Nat) (t : TypeId) (ks : List CK) (us : List Value) (u : Value) (w : World), kinds P d t = some ks → us.length = ks.length → IsV P t us u → (Instr.checkKey em d t u).run P w = .ok () w
  | 0, t, ks, us, u, w, hk, _, _ => by simp [kinds] at hk
  | d + 1, t, ks, us, u, w, hk, hl, ⟨dd, hu, hu2⟩ => by
    simp only [kinds, hu] at hk
    cases dd with
    | bool => simp only [Instr.checkKey, Sem.run_bind, run_underlying hu, Result.andThen_ok]; rfl
    | int k => simp only [Instr.checkKey, Sem.run_bind, run_underlying hu, Result.andThen_ok]; rfl
    | string => simp only [Instr.checkKey, Sem.run_bind, run_underlying hu, Result.andThen_ok]; rfl
    | array len e =>
      simp only [aggD, if_true] at hu2
      subst hu2
      simp only at hk
      split at hk
      · rename_i ks1 hk1
        split at hk
        · rename_i hs
          cases hk
          have hlen : (List.replicate len ks1).flatten.length = len * ks1.length := by simp
          have := checkItems (em := em) hk1 hs (fun us u w h1 h2 => checkKey_run d e ks1 us u w hk1 h1 h2) us (List.range' 0 len) w (fun i hi => by
            have hi' : i < len := by simp at hi; omega
            have : (i + 1) * ks1.length ≤ len * ks1.length := Nat.mul_le_mul_right _ hi'
            rw [Nat.succ_mul] at this
            omega)
          simp only [Instr.checkKey, Sem.run_bind, run_underlying hu, Result.andThen_ok, Std.Legacy.Range.forIn_eq_forIn_range', Std.Legacy.Range.size, Nat.sub_zero, Nat.add_one_sub_one, Nat.div_one]
          rw [this]
          rfl
        · cases hk
      · cases hk
    | struct fs =>
      simp only [aggD, if_true] at hu2
      subst hu2
      simp only at hk
      split at hk
      · cases hk
      · have := checkFields (em := em) (fun t ks us u w h0 h1 h2 => checkKey_run d t ks us u w h0 h1 h2) us fs.toList 0 ks w hk (by omega)
        simp only [Instr.checkKey, Sem.run_bind, run_underlying hu, Result.andThen_ok]
        rw [← Array.forIn_toList]
        rw [this]
        rfl
    | _ => simp at hk

/-! ### finding a key -/

def FindR (E : Env) : Option (Nat × AV) → Option (Nat × Value) → Prop
  | none, none => True
  | some (i, v), some (j, u) => i = j ∧ VRel E v u
  | _, _ => False

def EntR (E : Env) (e : AV × AV × Nat) (m : MapEntry) : Prop := VRel E e.1 m.key ∧ VRel E e.2.1 m.val ∧ e.2.2 = m.born
def EntsR (E : Env) (es : List (AV × AV × Nat)) (ms : List MapEntry) : Prop := es.length = ms.length ∧ ∀ (i : Nat) e m, es[i]? = some e → ms[i]? = some m → EntR E e m

theorem EntsR.tail {e : AV × AV × Nat} {m : MapEntry} {es : List (AV × AV × Nat)} {ms : List MapEntry} (hr : EntsR E (e :: es) (m :: ms)) : EntsR E es ms :=
  ⟨by have := hr.1; simpa using this, fun i x y hx hy => hr.2 (i + 1) x y (by simpa using hx) (by simpa using hy)⟩

theorem findAsking_run {t : TypeId} {d : TypeDesc} {ks : List CK} (hd : P.underlying t = some d) (hk : kinds P 10000 t = some ks) {k : AV} {u : Value} (hu : VRel E k u) :
    ∀ (es : List (AV × AV × Nat)) (ms : List MapEntry) (i : Nat) (res : Option (Nat × AV)), EntsR E es ms → findK (aggD d) ks k es i = some res →
      ∃ res', (Instr.findAsking t u ms i).run P w = .ok res' w ∧ FindR E res res'
  | [], [], i, res, _, he => by simp [findK] at he; subst he; exact ⟨none, by simp [Instr.findAsking], trivial⟩
  | [], m :: ms, i, res, hr, _ => by simp [EntsR] at hr
  | e :: es, [], i, res, hr, _ => by simp [EntsR] at hr
  | (k', v, b) :: es, m :: ms, i, res, hr, he => by
    obtain ⟨r1, r2, r3⟩ := hr.2 0 (k', v, b) m rfl rfl
    simp only [findK] at he
    split at he
    · rename_i heq
      cases he
      have := eqAV_run (P := P) (w := w) hd hk hu r1 heq
      exact ⟨some (i, m.val), by simp [Instr.findAsking, this], rfl, r2⟩
    · rename_i heq
      have := eqAV_run (P := P) (w := w) hd hk hu r1 heq
      obtain ⟨res', h1, h2⟩ := findAsking_run hd hk hu es ms (i + 1) res hr.tail he
      exact ⟨res', by simp [Instr.findAsking, this, h1], h2⟩
    · cases he

theorem ba_beq (s t : List UInt8) : ((⟨s.toArray⟩ : ByteArray) == ⟨t.toArray⟩) = (s == t) := by
  show (s.toArray == t.toArray) = (s == t)
  simp

theorem kinds_one {n : Nat} {t : TypeId} {d : TypeDesc} {ks : List CK} (hd : P.underlying t = some d) (hk : kinds P n t = some ks) (ha : aggD d = false) : (d = .bool ∧ ks = [.b]) ∨ ((∃ k, d = .int k) ∧ ks = [.i]) ∨ (d = .string ∧ ks = [.s]) := by
  cases n with
  | zero => simp [kinds] at hk
  | succ n =>
    simp only [kinds, hd] at hk
    cases d <;> simp at hk <;> simp_all [aggD]

theorem kinds_agg {n : Nat} {t : TypeId} {d : TypeDesc} {ks : List CK} (hd : P.underlying t = some d) (hk : kinds P n t = some ks) (ha : aggD d = true) : (∃ l e, d = .array l e) ∨ ∃ fs, d = .struct fs := by
  cases n with
  | zero => simp [kinds] at hk
  | succ n =>
    simp only [kinds, hd] at hk
    cases d <;> simp_all [aggD]

theorem sameNow_of {t : TypeId} {d : TypeDesc} {ks : List CK} (hd : P.underlying t = some d) (hk : kinds P 10000 t = some ks) (ha : aggD d = false) {x y : AV} {u v : Value} (hx : VRel E x u) (hy : VRel E y v) {b : Bool} (he : eqAV false ks x y = some b) : Instr.sameNow d u v = some b := by
  have hs : ∃ k, ks = [k] ∧ eqS k x y = some b := by
    rcases kinds_one hd hk ha with ⟨_, rfl⟩ | ⟨_, rfl⟩ | ⟨_, rfl⟩ <;>
    · unfold eqAV at he
      split at he
      · simp at he
      · exact ⟨_, rfl, by simpa using he⟩
  obtain ⟨k, rfl, hs⟩ := hs
  unfold eqS at hs
  split at hs
  · cases hs
    rw [bool_inv hx, bool_inv hy]
    rcases kinds_one hd hk ha with ⟨rfl, h⟩ | ⟨⟨_, rfl⟩, h⟩ | ⟨rfl, h⟩
    · rfl
    · cases h
    · cases h
  · split at hs
    · rename_i hkk
      subst hkk
      cases hs
      rw [int_inv hx, int_inv hy]
      rcases kinds_one hd hk ha with ⟨rfl, h⟩ | ⟨⟨_, rfl⟩, h⟩ | ⟨rfl, h⟩
      · cases h
      · simp [Instr.sameNow]
      · cases h
    · cases hs
  · cases hs
    rw [str_inv hx, str_inv hy]
    rcases kinds_one hd hk ha with ⟨rfl, h⟩ | ⟨⟨_, rfl⟩, h⟩ | ⟨rfl, h⟩
    · cases h
    · cases h
    · simp [Instr.sameNow, ba_beq]
  · cases hs

theorem findNow_run {t : TypeId} {d : TypeDesc} {ks : List CK} (hd : P.underlying t = some d) (hk : kinds P 10000 t = some ks) (ha : aggD d = false) {k : AV} {u : Value} (hu : VRel E k u) :
    ∀ (es : List (AV × AV × Nat)) (ms : List MapEntry) (i : Nat) (res : Option (Nat × AV)), EntsR E es ms → findK false ks k es i = some res →
      ∃ res', Instr.findNow d u ms i = some res' ∧ FindR E res res'
  | [], [], i, res, _, he => by simp [findK] at he; subst he; exact ⟨none, by simp [Instr.findNow], trivial⟩
  | [], m :: ms, i, res, hr, _ => by simp [EntsR] at hr
  | e :: es, [], i, res, hr, _ => by simp [EntsR] at hr
  | (k', v, b) :: es, m :: ms, i, res, hr, he => by
    obtain ⟨r1, r2, r3⟩ := hr.2 0 (k', v, b) m rfl rfl
    simp only [findK] at he
    split at he
    · rename_i heq
      cases he
      have := sameNow_of hd hk ha hu r1 heq
      exact ⟨some (i, m.val), by simp [Instr.findNow, this], rfl, r2⟩
    · rename_i heq
      have := sameNow_of hd hk ha hu r1 heq
      obtain ⟨res', h1, h2⟩ := findNow_run hd hk ha hu es ms (i + 1) res hr.tail he
      exact ⟨res', by simp [Instr.findNow, this, h1], h2⟩
    · cases he

theorem findNow_agg {d : TypeDesc} (hd : (∃ l e, d = .array l e) ∨ ∃ fs, d = .struct fs) (u : Value) (m : MapEntry) (ms : List MapEntry) (i : Nat) : Instr.findNow d u (m :: ms) i = none := by
  rcases hd with ⟨l, e, rfl⟩ | ⟨fs, rfl⟩ <;> simp [Instr.findNow, Instr.sameNow]

theorem findKey_run {t : TypeId} {d : TypeDesc} {ks : List CK} (hd : P.underlying t = some d) (hk : kinds P 10000 t = some ks) {k : AV} {u : Value} (hu : VRel E k u) {es : List (AV × AV × Nat)} {ms : List MapEntry} (hr : EntsR E es ms) {res : Option (Nat × AV)} (he : findK (aggD d) ks k es 0 = some res) (w : World) :
    ∃ res', (Instr.findKey t u ms).run P w = .ok res' w ∧ FindR E res res' := by
  cases ha : aggD d with
  | false =>
    rw [ha] at he
    obtain ⟨res', h1, h2⟩ := findNow_run hd hk ha hu es ms 0 res hr he
    exact ⟨res', by simp [Instr.findKey, run_underlying hd, h1], h2⟩
  | true =>
    cases ms with
    | nil =>
      have : es = [] := List.eq_nil_of_length_eq_zero hr.1
      subst this
      simp [findK] at he
      subst he
      exact ⟨none, by simp [Instr.findKey, run_underlying hd, Instr.findNow], trivial⟩
    | cons m ms =>
      obtain ⟨res', h1, h2⟩ := findAsking_run (w := w) hd hk hu es (m :: ms) 0 res hr he
      exact ⟨res', by simp [Instr.findKey, run_underlying hd, findNow_agg (kinds_agg hd hk ha), h1], h2⟩

theorem findK_at {agg : Bool} {ks : List CK} {k : AV} : ∀ {es : List (AV × AV × Nat)} {i j : Nat} {v : AV}, findK agg ks k es i = some (some (j, v)) → ∃ k' b, i ≤ j ∧ es[j - i]? = some (k', v, b) ∧ eqAV agg ks k k' = some true
  | [], i, j, v, he => by simp [findK] at he
  | (k', v', b) :: es, i, j, v, he => by
    simp only [findK] at he
    split at he
    · rename_i heq
      cases he
      exact ⟨k', b, Nat.le_refl _, by simp, heq⟩
    · obtain ⟨k2, b2, h1, h2, h3⟩ := findK_at he
      refine ⟨k2, b2, by omega, ?_, h3⟩
      rw [show j - i = (j - (i + 1)) + 1 by omega]
      simpa using h2
    · cases he

/-! ### which key stays -/

theorem sameBits_one {ck : CK} {x y : AV} {u v : Value} (hx : VRel E x u) (hy : VRel E y v) (he : eqS ck x y = some true) (n : Nat) : Instr.sameBits n v u = true := by
  unfold eqS at he
  split at he
  · rw [bool_inv hx, bool_inv hy]
    simp at he
    simp [Instr.sameBits, he]
  · split at he
    · rename_i hk; subst hk
      rw [int_inv hx, int_inv hy]
      simp at he
      simp [Instr.sameBits, he]
    · cases he
  · rw [str_inv hx, str_inv hy]
    simp at he
    subst he
    simp [Instr.sameBits, ba_beq]
  · cases he

theorem sameBits_cells {n : Nat} : ∀ {ks : List CK} {as bs : List AV} {us vs : List Value}, eqCells ks as bs = some true → us.length = as.length → vs.length = bs.length → (∀ (i : Nat) x y, as[i]? = some x → us[i]? = some y → VRel E x y) → (∀ (i : Nat) x y, bs[i]? = some x → vs[i]? = some y → VRel E x y) →
    vs.length = us.length ∧ (vs.zip us).all fun (x, y) => Instr.sameBits n x y
  | [], [], [], us, vs, he, h1, h2, _, _ => by
    have e1 : us = [] := List.eq_nil_of_length_eq_zero (by simpa using h1)
    have e2 : vs = [] := List.eq_nil_of_length_eq_zero (by simpa using h2)
    subst e1; subst e2
    simp
  | k :: ks, x :: as, y :: bs, [], vs, he, h1, h2, _, _ => by simp at h1
  | k :: ks, x :: as, y :: bs, u :: us, [], he, h1, h2, _, _ => by simp at h2
  | k :: ks, x :: as, y :: bs, u :: us, v :: vs, he, h1, h2, r1, r2 => by
    simp only [eqCells] at he
    split at he
    · rename_i p q hp hq
      have hpq : p = true ∧ q = true := by simpa using he
      obtain ⟨rfl, rfl⟩ := hpq
      have ih := sameBits_cells (n := n) hq (by simpa using h1) (by simpa using h2) (fun i x y hx hy => r1 (i + 1) x y (by simpa using hx) (by simpa using hy)) (fun i x y hx hy => r2 (i + 1) x y (by simpa using hx) (by simpa using hy))
      have := sameBits_one (r1 0 x u rfl rfl) (r2 0 y v rfl rfl) hp n
      refine ⟨by simp [ih.1], ?_⟩
      simp only [List.zip_cons_cons, List.all_cons, this, Bool.true_and]
      exact ih.2
    · cases he
  | [], [], b :: bs, _, _, he, _, _, _, _ => by simp [eqCells] at he
  | [], a :: as, _, _, _, he, _, _, _, _ => by simp [eqCells] at he
  | k :: ks, [], _, _, _, he, _, _, _, _ => by simp [eqCells] at he
  | k :: ks, a :: as, [], _, _, he, _, _, _, _ => by simp [eqCells] at he

theorem sameBits_of {agg : Bool} {ks : List CK} {x y : AV} {u v : Value} (hx : VRel E x u) (hy : VRel E y v) (he : eqAV agg ks x y = some true) (n : Nat) : Instr.sameBits (n + 1) v u = true := by
  unfold eqAV at he
  split at he
  · rename_i as bs
    split at he
    · cases hx with
      | agg _ us l1 _ r1 =>
      cases hy with
      | agg _ vs l2 _ r2 =>
      obtain ⟨h1, h2⟩ := sameBits_cells (n := n) (us := us.toList) (vs := vs.toList) he (by simp [l1]) (by simp [l2]) (fun i x y hx hy => r1 i x y hx (by simpa using hy)) (fun i x y hx hy => r2 i x y hx (by simpa using hy))
      simp only [Array.length_toList] at h1
      simp only [Instr.sameBits, h1, beq_self_eq_true, Bool.true_and]
      exact h2
    · cases he
  · split at he
    · cases he
    · split at he
      · exact sameBits_one hx hy he _
      · cases he

theorem keyStays_run {agg : Bool} {ks : List CK} {x y : AV} {u v : Value} (hx : VRel E x u) (hy : VRel E y v) (he : eqAV agg ks x y = some true) (w : World) : (Instr.keyThatStays v u).run P w = .ok u w := by
  simp [Instr.keyThatStays, sameBits_of hx hy he 9999]

/-! ### a key's form -/

theorem keyCells_len : ∀ {ks : List CK} {as : List AV}, keyCells ks as = true → as.length = ks.length
  | [], as, h => by cases as <;> simp [keyCells] at h ⊢
  | k :: ks, [], h => by cases k <;> simp [keyCells] at h
  | k :: ks, a :: as, h => by
    have : keyCells ks as = true := by
      cases k <;> cases a <;> simp [keyCells] at h <;> exact h
    simp [keyCells_len this]

theorem key_isV {t : TypeId} {d : TypeDesc} {ks : List CK} (hd : P.underlying t = some d) {k : AV} {u : Value} (hu : VRel E k u) (hk : keyOk (aggD d) ks k = true) : ∃ us : List Value, us.length = ks.length ∧ IsV P t us u := by
  unfold keyOk at hk
  split at hk
  · rename_i cs
    simp only [Bool.and_eq_true] at hk
    cases hu with
    | agg _ vs hl _ _ => exact ⟨vs.toList, by rw [← keyCells_len hk.2]; simp [hl], d, hd, by rw [if_pos hk.1]⟩
  · simp only [Bool.and_eq_true, Bool.not_eq_true'] at hk
    exact ⟨[u], by rw [← keyCells_len hk.2]; rfl, d, hd, by rw [hk.1]; rfl⟩
end
end Go.Im

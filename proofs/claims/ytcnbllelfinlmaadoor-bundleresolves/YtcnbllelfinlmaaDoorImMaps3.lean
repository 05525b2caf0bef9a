/- Joined: ImMaps, ImMaps2, ImMaps3. -/
import Derived.Test.YtcnbllelfinlmaaDoorImEq
/- ImMaps: maps. -/
set_option linter.unusedVariables false
set_option linter.unusedSimpArgs false
namespace Go.Im
section
variable {P : Program} {E : Env} {h : Hp} {w : World} {r : Regs} {a : Act} {o : Oper} {reg : Reg}

theorem checkItems {d : Nat} {e : TypeId} {ks : List CK} {em : Bool} (hk : kinds P d e = some ks) (hs : (P.info? e).map (·.size) = some ks.length) (IH : ∀ (us : List Value) (u : Value) (w : World), us.length = ks.length → IsV P e us u → (Instr.checkKey em d e u).run P w = .ok () w) (xs : List Value) :
    ∀ (is : List Nat) (w : World), (∀ i ∈ is, i * ks.length + ks.length ≤ xs.length) → (forIn is PUnit.unit (fun i (_ : PUnit) => do Instr.checkKey em d e (← part e xs.toArray (i * (← sizeOf e))); pure (ForInStep.yield PUnit.unit)) : Sem PUnit).run P w = .ok PUnit.unit w
  | [], w, _ => by simp
  | i :: is, w, hi => by
    obtain ⟨hsz, hco, j, hj⟩ := cellsOf_of hs
    obtain ⟨u, hu1, hu2⟩ := part_isV (w := w) hk hs (xs := xs) (off := i * ks.length) (hi i (by simp))
    have hl : ((xs.drop (i * ks.length)).take ks.length).length = ks.length := by have := hi i (by simp); simp; omega
    have hq := IH _ u w hl hu2
    have := checkItems hk hs IH xs is w (fun j hj => hi j (by simp [hj]))
    simp only [List.forIn_cons,Sem.run_bind,hsz.run,Result.andThen_ok,hu1,hq,Sem.run_pure,this]

theorem checkFields {d : Nat} {em : Bool} (IH : ∀ (t : TypeId) (ks : List CK) (us : List Value) (u : Value) (w : World), kinds P d t = some ks → us.length = ks.length → IsV P t us u → (Instr.checkKey em d t u).run P w = .ok () w) (xs : List Value) :
    ∀ (fs : List Field) (off : Nat) (ks : List CK) (w : World), kindsF P (kinds P d) fs off = some ks → off + ks.length ≤ xs.length → (forIn fs PUnit.unit (fun (f : Field) (_ : PUnit) => (if f.name ≠ "_" then do Instr.checkKey em d f.type (← part f.type xs.toArray f.offset); pure (ForInStep.yield PUnit.unit) else pure (ForInStep.yield PUnit.unit))) : Sem PUnit).run P w = .ok PUnit.unit w
  | [], off, ks, w, _, _ => by simp
  | f :: fs, off, ks, w, hk, hle => by
    simp only [kindsF] at hk
    split at hk
    · rename_i ks1 hk1
      split at hk
      · rename_i hc
        obtain ⟨c1, c2, c3⟩ := hc
        split at hk
        · rename_i rest hrest
          cases hk
          rw [List.length_append] at hle
          obtain ⟨u, hu1, hu2⟩ := part_isV (w := w) hk1 c3 (xs := xs) (off := off) (by omega)
          have hl : ((xs.drop off).take ks1.length).length = ks1.length := by simp; omega
          have hq := IH _ _ _ u w hk1 hl hu2
          have := checkFields IH xs fs (off + ks1.length) rest w hrest (by omega)
          simp only [List.forIn_cons,Sem.run_bind,Sem.run_ite,ne_eq,c1,not_false_eq_true,if_true,c2,Result.andThen_ok,hu1,hq,Sem.run_pure]
          simpa using this
        · cases hk
      · cases hk
    · cases hk

theorem checkKey_run {em : Bool} : ∀ (d : Nat) (t : TypeId) (ks : List CK) (us : List Value) (u : Value) (w : World), kinds P d t = some ks → us.length = ks.length → IsV P t us u → (Instr.checkKey em d t u).run P w = .ok () w
  | 0, t, ks, us, u, w, hk, _, _ => by simp [kinds] at hk
  | d + 1, t, ks, us, u, w, hk, hl, ⟨dd, hu, hu2⟩ => by
    simp only [kinds,hu] at hk
    cases dd with
    | bool => simp only [Instr.checkKey,Sem.run_bind,run_underlying hu,Result.andThen_ok]; rfl
    | int k => simp only [Instr.checkKey,Sem.run_bind,run_underlying hu,Result.andThen_ok]; rfl
    | string => simp only [Instr.checkKey,Sem.run_bind,run_underlying hu,Result.andThen_ok]; rfl
    | array len e =>
      simp only [aggD,if_true] at hu2
      subst hu2
      simp only at hk
      split at hk
      · rename_i ks1 hk1
        split at hk
        · rename_i hs
          cases hk
          have hlen : (List.replicate len ks1).flatten.length = len * ks1.length := by simp
          have := checkItems (em := em) hk1 hs (fun us u w h1 h2 => checkKey_run d e ks1 us u w hk1 h1 h2) us (List.range' 0 len) w (fun i hi => by
            have hi' : i < len := by simp at hi; omega
            have : (i + 1) * ks1.length ≤ len * ks1.length := Nat.mul_le_mul_right _ hi'
            rw [Nat.succ_mul] at this
            omega)
          simp only [Instr.checkKey,Sem.run_bind,run_underlying hu,Result.andThen_ok,Std.Legacy.Range.forIn_eq_forIn_range',Std.Legacy.Range.size,Nat.sub_zero,Nat.add_one_sub_one,Nat.div_one]
          rw [this]
          rfl
        · cases hk
      · cases hk
    | struct fs =>
      simp only [aggD,if_true] at hu2
      subst hu2
      simp only at hk
      split at hk
      · cases hk
      · have := checkFields (em := em) (fun t ks us u w h0 h1 h2 => checkKey_run d t ks us u w h0 h1 h2) us fs.toList 0 ks w hk (by omega)
        simp only [Instr.checkKey,Sem.run_bind,run_underlying hu,Result.andThen_ok]
        rw [← Array.forIn_toList]
        rw [this]
        rfl
    | _ => simp at hk

/-! ### finding a key -/

def FindR (E : Env) : Option (Nat × AV) → Option (Nat × Value) → Prop
  | none, none => True
  | some (i, v), some (j, u) => i = j ∧ VRel E v u
  | _, _ => False

def EntR (E : Env) (e : AV × AV × Nat) (m : MapEntry) : Prop := VRel E e.1 m.key ∧ VRel E e.2.1 m.val ∧ e.2.2 = m.born
def EntsR (E : Env) (es : List (AV × AV × Nat)) (ms : List MapEntry) : Prop := es.length = ms.length ∧ ∀ (i : Nat) e m, es[i]? = some e → ms[i]? = some m → EntR E e m

theorem EntsR.tail {e : AV × AV × Nat} {m : MapEntry} {es : List (AV × AV × Nat)} {ms : List MapEntry} (hr : EntsR E (e :: es) (m :: ms)) : EntsR E es ms :=
  ⟨by have := hr.1; simpa using this, fun i x y hx hy => hr.2 (i + 1) x y (by simpa using hx) (by simpa using hy)⟩

theorem findAsking_run {t : TypeId} {d : TypeDesc} {ks : List CK} (hd : P.underlying t = some d) (hk : kinds P 10000 t = some ks) {k : AV} {u : Value} (hu : VRel E k u) :
    ∀ (es : List (AV × AV × Nat)) (ms : List MapEntry) (i : Nat) (res : Option (Nat × AV)), EntsR E es ms → findK (aggD d) ks k es i = some res →
      ∃ res', (Instr.findAsking t u ms i).run P w = .ok res' w ∧ FindR E res res'
  | [], [], i, res, _, he => by simp [findK] at he; subst he; exact ⟨none, by simp [Instr.findAsking], trivial⟩
  | [], m :: ms, i, res, hr, _ => by simp [EntsR] at hr
  | e :: es, [], i, res, hr, _ => by simp [EntsR] at hr
  | (k', v, b) :: es, m :: ms, i, res, hr, he => by
    obtain ⟨r1, r2, r3⟩ := hr.2 0 (k', v, b) m rfl rfl
    simp only [findK] at he
    split at he
    · rename_i heq
      cases he
      have := eqAV_run (P := P) (w := w) hd hk hu r1 heq
      exact ⟨some (i, m.val), by simp [Instr.findAsking,this], rfl, r2⟩
    · rename_i heq
      have := eqAV_run (P := P) (w := w) hd hk hu r1 heq
      obtain ⟨res', h1, h2⟩ := findAsking_run hd hk hu es ms (i + 1) res hr.tail he
      exact ⟨res', by simp [Instr.findAsking,this,h1], h2⟩
    · cases he

theorem ba_beq (s t : List UInt8) : ((⟨s.toArray⟩ : ByteArray) == ⟨t.toArray⟩) = (s == t) := by
  show (s.toArray == t.toArray) = (s == t)
  simp

theorem kinds_one {n : Nat} {t : TypeId} {d : TypeDesc} {ks : List CK} (hd : P.underlying t = some d) (hk : kinds P n t = some ks) (ha : aggD d = false) : (d = .bool ∧ ks = [.b]) ∨ ((∃ k, d = .int k) ∧ ks = [.i]) ∨ (d = .string ∧ ks = [.s]) := by
  cases n with
  | zero => simp [kinds] at hk
  | succ n =>
    simp only [kinds,hd] at hk
    cases d <;> simp at hk <;> simp_all [aggD]

theorem kinds_agg {n : Nat} {t : TypeId} {d : TypeDesc} {ks : List CK} (hd : P.underlying t = some d) (hk : kinds P n t = some ks) (ha : aggD d = true) : (∃ l e, d = .array l e) ∨ ∃ fs, d = .struct fs := by
  cases n with
  | zero => simp [kinds] at hk
  | succ n =>
    simp only [kinds,hd] at hk
    cases d <;> simp_all [aggD]

theorem sameNow_of {t : TypeId} {d : TypeDesc} {ks : List CK} (hd : P.underlying t = some d) (hk : kinds P 10000 t = some ks) (ha : aggD d = false) {x y : AV} {u v : Value} (hx : VRel E x u) (hy : VRel E y v) {b : Bool} (he : eqAV false ks x y = some b) : Instr.sameNow d u v = some b := by
  have hs : ∃ k, ks = [k] ∧ eqS k x y = some b := by
    rcases kinds_one hd hk ha with ⟨_, rfl⟩ | ⟨_, rfl⟩ | ⟨_, rfl⟩ <;>
    · unfold eqAV at he
      split at he
      · simp at he
      · exact ⟨_, rfl, by simpa using he⟩
  obtain ⟨k, rfl, hs⟩ := hs
  unfold eqS at hs
  split at hs
  · cases hs
    rw [bool_inv hx, bool_inv hy]
    rcases kinds_one hd hk ha with ⟨rfl, h⟩ | ⟨⟨_, rfl⟩, h⟩ | ⟨rfl, h⟩
    · rfl
    · cases h
    · cases h
  · split at hs
    · rename_i hkk
      subst hkk
      cases hs
      rw [int_inv hx, int_inv hy]
      rcases kinds_one hd hk ha with ⟨rfl, h⟩ | ⟨⟨_, rfl⟩, h⟩ | ⟨rfl, h⟩
      · cases h
      · simp [Instr.sameNow]
      · cases h
    · cases hs
  · cases hs
    rw [str_inv hx, str_inv hy]
    rcases kinds_one hd hk ha with ⟨rfl, h⟩ | ⟨⟨_, rfl⟩, h⟩ | ⟨rfl, h⟩
    · cases h
    · cases h
    · simp [Instr.sameNow,ba_beq]
  · cases hs

theorem findNow_run {t : TypeId} {d : TypeDesc} {ks : List CK} (hd : P.underlying t = some d) (hk : kinds P 10000 t = some ks) (ha : aggD d = false) {k : AV} {u : Value} (hu : VRel E k u) :
    ∀ (es : List (AV × AV × Nat)) (ms : List MapEntry) (i : Nat) (res : Option (Nat × AV)), EntsR E es ms → findK false ks k es i = some res →
      ∃ res', Instr.findNow d u ms i = some res' ∧ FindR E res res'
  | [], [], i, res, _, he => by simp [findK] at he; subst he; exact ⟨none, by simp [Instr.findNow], trivial⟩
  | [], m :: ms, i, res, hr, _ => by simp [EntsR] at hr
  | e :: es, [], i, res, hr, _ => by simp [EntsR] at hr
  | (k', v, b) :: es, m :: ms, i, res, hr, he => by
    obtain ⟨r1, r2, r3⟩ := hr.2 0 (k', v, b) m rfl rfl
    simp only [findK] at he
    split at he
    · rename_i heq
      cases he
      have := sameNow_of hd hk ha hu r1 heq
      exact ⟨some (i, m.val), by simp [Instr.findNow,this], rfl, r2⟩
    · rename_i heq
      have := sameNow_of hd hk ha hu r1 heq
      obtain ⟨res', h1, h2⟩ := findNow_run hd hk ha hu es ms (i + 1) res hr.tail he
      exact ⟨res', by simp [Instr.findNow,this,h1], h2⟩
    · cases he

theorem findNow_agg {d : TypeDesc} (hd : (∃ l e, d = .array l e) ∨ ∃ fs, d = .struct fs) (u : Value) (m : MapEntry) (ms : List MapEntry) (i : Nat) : Instr.findNow d u (m :: ms) i = none := by
  rcases hd with ⟨l, e, rfl⟩ | ⟨fs, rfl⟩ <;> simp [Instr.findNow,Instr.sameNow]

theorem findKey_run {t : TypeId} {d : TypeDesc} {ks : List CK} (hd : P.underlying t = some d) (hk : kinds P 10000 t = some ks) {k : AV} {u : Value} (hu : VRel E k u) {es : List (AV × AV × Nat)} {ms : List MapEntry} (hr : EntsR E es ms) {res : Option (Nat × AV)} (he : findK (aggD d) ks k es 0 = some res) (w : World) :
    ∃ res', (Instr.findKey t u ms).run P w = .ok res' w ∧ FindR E res res' := by
  cases ha : aggD d with
  | false =>
    rw [ha] at he
    obtain ⟨res', h1, h2⟩ := findNow_run hd hk ha hu es ms 0 res hr he
    exact ⟨res', by simp [Instr.findKey,run_underlying hd,h1], h2⟩
  | true =>
    cases ms with
    | nil =>
      have : es = [] := List.eq_nil_of_length_eq_zero hr.1
      subst this
      simp [findK] at he
      subst he
      exact ⟨none, by simp [Instr.findKey,run_underlying hd,Instr.findNow], trivial⟩
    | cons m ms =>
      obtain ⟨res', h1, h2⟩ := findAsking_run (w := w) hd hk hu es (m :: ms) 0 res hr he
      exact ⟨res', by simp [Instr.findKey,run_underlying hd,findNow_agg (kinds_agg hd hk ha),h1], h2⟩

theorem findK_at {agg : Bool} {ks : List CK} {k : AV} : ∀ {es : List (AV × AV × Nat)} {i j : Nat} {v : AV}, findK agg ks k es i = some (some (j, v)) → ∃ k' b, i ≤ j ∧ es[j - i]? = some (k', v, b) ∧ eqAV agg ks k k' = some true
  | [], i, j, v, he => by simp [findK] at he
  | (k', v', b) :: es, i, j, v, he => by
    simp only [findK] at he
    split at he
    · rename_i heq
      cases he
      exact ⟨k', b, Nat.le_refl _, by simp, heq⟩
    · obtain ⟨k2, b2, h1, h2, h3⟩ := findK_at he
      refine ⟨k2, b2, by omega, ?_, h3⟩
      rw [show j - i = (j - (i + 1)) + 1 by omega]
      simpa using h2
    · cases he

/-! ### which key stays -/

theorem sameBits_one {ck : CK} {x y : AV} {u v : Value} (hx : VRel E x u) (hy : VRel E y v) (he : eqS ck x y = some true) (n : Nat) : Instr.sameBits n v u = true := by
  unfold eqS at he
  split at he
  · rw [bool_inv hx, bool_inv hy]
    simp at he
    simp [Instr.sameBits,he]
  · split at he
    · rename_i hk; subst hk
      rw [int_inv hx, int_inv hy]
      simp at he
      simp [Instr.sameBits,he]
    · cases he
  · rw [str_inv hx, str_inv hy]
    simp at he
    subst he
    simp [Instr.sameBits,ba_beq]
  · cases he

theorem sameBits_cells {n : Nat} : ∀ {ks : List CK} {as bs : List AV} {us vs : List Value}, eqCells ks as bs = some true → us.length = as.length → vs.length = bs.length → (∀ (i : Nat) x y, as[i]? = some x → us[i]? = some y → VRel E x y) → (∀ (i : Nat) x y, bs[i]? = some x → vs[i]? = some y → VRel E x y) →
    vs.length = us.length ∧ (vs.zip us).all fun (x, y) => Instr.sameBits n x y
  | [], [], [], us, vs, he, h1, h2, _, _ => by
    have e1 : us = [] := List.eq_nil_of_length_eq_zero (by simpa using h1)
    have e2 : vs = [] := List.eq_nil_of_length_eq_zero (by simpa using h2)
    subst e1; subst e2
    simp
  | k :: ks, x :: as, y :: bs, [], vs, he, h1, h2, _, _ => by simp at h1
  | k :: ks, x :: as, y :: bs, u :: us, [], he, h1, h2, _, _ => by simp at h2
  | k :: ks, x :: as, y :: bs, u :: us, v :: vs, he, h1, h2, r1, r2 => by
    simp only [eqCells] at he
    split at he
    · rename_i p q hp hq
      have hpq : p = true ∧ q = true := by simpa using he
      obtain ⟨rfl, rfl⟩ := hpq
      have ih := sameBits_cells (n := n) hq (by simpa using h1) (by simpa using h2) (fun i x y hx hy => r1 (i + 1) x y (by simpa using hx) (by simpa using hy)) (fun i x y hx hy => r2 (i + 1) x y (by simpa using hx) (by simpa using hy))
      have := sameBits_one (r1 0 x u rfl rfl) (r2 0 y v rfl rfl) hp n
      refine ⟨by simp [ih.1], ?_⟩
      simp only [List.zip_cons_cons,List.all_cons,this,Bool.true_and]
      exact ih.2
    · cases he
  | [], [], b :: bs, _, _, he, _, _, _, _ => by simp [eqCells] at he
  | [], a :: as, _, _, _, he, _, _, _, _ => by simp [eqCells] at he
  | k :: ks, [], _, _, _, he, _, _, _, _ => by simp [eqCells] at he
  | k :: ks, a :: as, [], _, _, he, _, _, _, _ => by simp [eqCells] at he

theorem sameBits_of {agg : Bool} {ks : List CK} {x y : AV} {u v : Value} (hx : VRel E x u) (hy : VRel E y v) (he : eqAV agg ks x y = some true) (n : Nat) : Instr.sameBits (n + 1) v u = true := by
  unfold eqAV at he
  split at he
  · rename_i as bs
    split at he
    · cases hx with
      | agg _ us l1 _ r1 =>
      cases hy with
      | agg _ vs l2 _ r2 =>
      obtain ⟨h1, h2⟩ := sameBits_cells (n := n) (us := us.toList) (vs := vs.toList) he (by simp [l1]) (by simp [l2]) (fun i x y hx hy => r1 i x y hx (by simpa using hy)) (fun i x y hx hy => r2 i x y hx (by simpa using hy))
      simp only [Array.length_toList] at h1
      simp only [Instr.sameBits,h1,beq_self_eq_true,Bool.true_and]
      exact h2
    · cases he
  · split at he
    · cases he
    · split at he
      · exact sameBits_one hx hy he _
      · cases he

theorem keyStays_run {agg : Bool} {ks : List CK} {x y : AV} {u v : Value} (hx : VRel E x u) (hy : VRel E y v) (he : eqAV agg ks x y = some true) (w : World) : (Instr.keyThatStays v u).run P w = .ok u w := by
  simp [Instr.keyThatStays,sameBits_of hx hy he 9999]

/-! ### a key's form -/

theorem keyCells_len : ∀ {ks : List CK} {as : List AV}, keyCells ks as = true → as.length = ks.length
  | [], as, h => by cases as <;> simp [keyCells] at h ⊢
  | k :: ks, [], h => by cases k <;> simp [keyCells] at h
  | k :: ks, a :: as, h => by
    have : keyCells ks as = true := by
      cases k <;> cases a <;> simp [keyCells] at h <;> exact h
    simp [keyCells_len this]

theorem key_isV {t : TypeId} {d : TypeDesc} {ks : List CK} (hd : P.underlying t = some d) {k : AV} {u : Value} (hu : VRel E k u) (hk : keyOk (aggD d) ks k = true) : ∃ us : List Value, us.length = ks.length ∧ IsV P t us u := by
  unfold keyOk at hk
  split at hk
  · rename_i cs
    simp only [Bool.and_eq_true] at hk
    cases hu with
    | agg _ vs hl _ _ => exact ⟨vs.toList, by rw [← keyCells_len hk.2]; simp [hl], d, hd, by rw [if_pos hk.1]⟩
  · simp only [Bool.and_eq_true,Bool.not_eq_true'] at hk
    exact ⟨[u], by rw [← keyCells_len hk.2]; rfl, d, hd, by rw [hk.1]; rfl⟩
end
end Go.Im

/- ImMaps2: operations on maps. -/
set_option linter.unusedVariables false
set_option linter.unusedSimpArgs false
namespace Go.Im
section
variable {P : Program} {E : Env} {h : Hp} {w : World} {r : Regs} {a : Act} {o : Oper} {reg : Reg}

def setO (w : World) (b : Nat) (x : Obj) : World := { w with heap := w.heap.setIfInBounds b x }

theorem setO_other (w : World) {b b' : Nat} (x : Obj) (hb : b' ≠ b) : (setO w b x).heap[b']? = w.heap[b']? := by
  show (w.heap.setIfInBounds b x)[b']? = _
  exact Array.getElem?_setIfInBounds_ne (Ne.symm hb)
theorem setO_same (w : World) {b : Nat} (x : Obj) (hb : b < w.heap.size) : (setO w b x).heap[b]? = some x := by
  show (w.heap.setIfInBounds b x)[b]? = _
  simp [hb]
theorem setO_size (w : World) (b : Nat) (x : Obj) : (setO w b x).heap.size = w.heap.size := by
  show (w.heap.setIfInBounds b x).size = _
  simp

theorem set_obj {tm : Array Value} (hf : FRel E h w r tm) (hh : HRel E h w) {id : Nat} {x y : AO} (hx : h[id]? = some x) (hd : x ≠ .dead) {ob : Obj} (hs : ∀ o, E.sg (E.ob id) o = none)
    (hy : ORel E (setO w (E.ob id) ob) (E.ob id) (E.cp id) y) :
    Keep E h (Vars r tm) w E (h.set id y) (Vars r tm) (setO w (E.ob id) ob) ∧ FRel E (h.set id y) (setO w (E.ob id) ob) r tm ∧ HRel E (h.set id y) (setO w (E.ob id) ob) := by
  have hown : Owned E h (E.ob id) := ⟨id, ⟨x, hx, hd⟩, rfl⟩
  refine ⟨⟨.refl E, by rw [setO_size]; exact Nat.le_refl _, rfl, rfl, fun b' _ ho _ => setO_other w ob fun e => ho (e ▸ hown), fun b' ho => .inl (Owned.set hx hd ho), fun _ h => .inl h, fun _ _ h => .inl h⟩, ?_, ?_⟩
  · exact hf.other (owned_no_var hf hown) (fun b' hb => setO_other w ob hb) fun b' ho => Owned.set hx hd ho
  · exact hh.set hx hd (setO_size _ _ _) (fun b' hb => setO_other w ob hb) hs hy

theorem map_at (hh : HRel E h w) {id : Nat} {es : List (AV × AV × Nat)} {clock : Nat} (he : h[id]? = some (.map es clock)) :
    ∃ ents, w.heap[E.ob id]? = some (.map ents clock) ∧ EntsR E es ents.toList ∧ ∀ o, E.sg (E.ob id) o = none := by
  obtain ⟨ents, h1, h2, h3, h4⟩ := hh.obj id _ he
  exact ⟨ents, h1, ⟨by simpa using h2, fun i e m hi hm => h3 i e m hi (by simpa using hm)⟩, h4⟩

theorem map_ORel {w' : World} {b cp : Nat} {es : List (AV × AV × Nat)} {ents : Array MapEntry} {clock : Nat} (hb : w'.heap[b]? = some (.map ents clock)) (hr : EntsR E es ents.toList) (hs : ∀ o, E.sg b o = none) : ORel E w' b cp (.map es clock) :=
  ⟨ents, hb, by simpa using hr.1, fun i e m hi hm => hr.2 i e m hi (by simpa using hm), hs⟩

theorem run_getMap {b : Nat} {ents : Array MapEntry} {clock : Nat} (hb : w.heap[b]? = some (.map ents clock)) : (getObj b).run P w = .ok (.map ents clock) w := by
  simp [getObj,Sem.run,hb]

theorem run_setObj {b : Nat} {x y : Obj} (hb : w.heap[b]? = some x) (hx : ∀ c e f, x ≠ .cells c e f) : (setObj b y).run P w = .ok () (setO w b y) := by
  simp only [setObj,Sem.run,hb]
  cases x <;> first
    | exact absurd rfl (hx _ _ _)
    | rfl

theorem map_inv {u : Value} {id : Nat} (hu : VRel E (.mp id) u) : u = .map (some (E.ob id)) ∧ id < E.n := by cases hu; exact ⟨rfl, by assumption⟩
theorem nilm_inv {u : Value} (hu : VRel E .nilm u) : u = .map none := by cases hu; rfl

theorem EntsR.modify {es : List (AV × AV × Nat)} {ms : List MapEntry} (hr : EntsR E es ms) (i : Nat) (f : AV × AV × Nat → AV × AV × Nat) (g : MapEntry → MapEntry) (hfg : ∀ e m, es[i]? = some e → ms[i]? = some m → EntR E e m → EntR E (f e) (g m)) : EntsR E (es.modify i f) (ms.modify i g) := by
  refine ⟨by simpa using hr.1, fun j e m he hm => ?_⟩
  rw [List.getElem?_modify] at he hm
  obtain ⟨e', he', rfl⟩ := Option.map_eq_some_iff.1 he
  obtain ⟨m', hm', rfl⟩ := Option.map_eq_some_iff.1 hm
  have := hr.2 j e' m' he' hm'
  by_cases hij : i = j
  · subst hij; simpa using hfg e' m' he' hm' this
  · simpa [hij] using this

theorem EntsR.push {es : List (AV × AV × Nat)} {ms : List MapEntry} (hr : EntsR E es ms) {e : AV × AV × Nat} {m : MapEntry} (hem : EntR E e m) : EntsR E (es ++ [e]) (ms ++ [m]) := by
  refine ⟨by simp [hr.1], fun j x y hx hy => ?_⟩
  by_cases hj : j < es.length
  · rw [List.getElem?_append_left hj] at hx
    rw [List.getElem?_append_left (by rw [← hr.1]; exact hj)] at hy
    exact hr.2 j x y hx hy
  · rw [List.getElem?_append_right (by omega)] at hx
    rw [List.getElem?_append_right (by rw [← hr.1]; omega), ← hr.1] at hy
    have : j - es.length = 0 := by
      have := (List.getElem?_eq_some_iff.1 hx).1
      simpa using this
    rw [this] at hx hy
    cases hx; cases hy
    exact hem

theorem EntsR.erase {es : List (AV × AV × Nat)} {ms : List MapEntry} (hr : EntsR E es ms) (i : Nat) : EntsR E (es.eraseIdx i) (ms.eraseIdx i) := by
  refine ⟨by rw [List.length_eraseIdx, List.length_eraseIdx, hr.1], fun j x y hx hy => ?_⟩
  rw [List.getElem?_eraseIdx] at hx hy
  split at hx
  · rename_i hlt; rw [if_pos hlt] at hy; exact hr.2 j x y hx hy
  · rename_i hlt; rw [if_neg hlt] at hy; exact hr.2 (j + 1) x y hx hy

theorem EntsR.mono {E' : Env} (hE : E.le E') {es : List (AV × AV × Nat)} {ms : List MapEntry} (hr : EntsR E es ms) : EntsR E' es ms :=
  ⟨hr.1, fun i e m he hm => let ⟨k1, k2, k3⟩ := hr.2 i e m he hm; ⟨k1.mono hE, k2.mono hE, k3⟩⟩

/-! ### the operations -/

theorem st_mkMap {K : Kont} (hf : FRel E h w r a.tmps) (hh : HRel E h w) {t : TypeId} (ho : o.op = .makeMap t none) {r' : Regs} {h' : Hp} (he : step K r h .mkMap = some (reg, r', h')) : Res P E h w r a o reg r' h' := by
  cases he
  have g := Grow.alloc w (.map #[] 0)
  have hlt : w.heap.size < (w.alloc (.map #[] 0)).heap.size := by show _ < (w.heap.push _).size; simp
  have ho2 : ORel (E.add w.heap.size 0) (w.alloc (.map #[] 0)) w.heap.size 0 (.map [] 0) := map_ORel (alloc_at _ _) ⟨rfl, fun i e m hi => by simp at hi⟩ fun o => hh.sg_new (Nat.le_refl _) o
  obtain ⟨k1, k2, k3⟩ := new_entry hf hh g (Nat.le_refl _) hlt ho2
  refine .of_val (.inl (by simp [execOp,ho,Instr.makeMap]; rfl)) k1 k2 k3 ?_
  have : E.n = h.length := hh.n
  have e1 : (E.add w.heap.size 0).ob h.length = w.heap.size := by simp [Env.add,this]
  have := VRel.mp (E := E.add w.heap.size 0) h.length (by simp [Env.add,this])
  rwa [e1] at this

def MapAt (w : World) (u : Value) (ents : Array MapEntry) : Prop := (u = .map none ∧ ents = #[]) ∨ ∃ b clock, u = .map (some b) ∧ w.heap[b]? = some (.map ents clock)

theorem mapOf_spec (hh : HRel E h w) {v : AV} {u : Value} (hv : VRel E v u) {es : List (AV × AV × Nat)} (he : mapOf h v = some es) : ∃ ents, MapAt w u ents ∧ EntsR E es ents.toList := by
  unfold mapOf at he
  split at he
  · cases he; exact ⟨#[], .inl ⟨nilm_inv hv, rfl⟩, rfl, fun i e m hi => by simp at hi⟩
  · split at he
    · rename_i id es' clock hid
      cases he
      obtain ⟨ents, h1, h2, h3⟩ := map_at hh hid
      exact ⟨ents, .inr ⟨_, clock, (map_inv hv).1, h1⟩, h2⟩
    · cases he
  · cases he

def foundOf (zv : Value) : Option (Nat × Value) → Value × Bool
  | some (_, v) => (v, true)
  | none => (zv, false)

theorem run_lookup {t kt et : TypeId} {u k : Value} {ents : Array MapEntry} {res : Option (Nat × Value)} {zv : Value} {ok : Bool} (ht : P.underlying t = some (.map kt et)) (hu : MapAt w u ents) (hc : (Instr.checkKey ents.isEmpty 10000 kt k).run P w = .ok () w)
    (hf : (Instr.findKey kt k ents.toList).run P w = .ok res w) (hz : (zeroValue et).run P w = .ok zv w) :
    (Instr.lookup t u k ok).run P w = .ok (if ok then .tuple #[(foundOf zv res).1, .bool (foundOf zv res).2] else (foundOf zv res).1) w := by
  rcases hu with ⟨rfl, rfl⟩ | ⟨b, clock, rfl, hb⟩
  · simp at hc hf
    cases res with
    | none => simp [Instr.lookup,run_underlying ht,hc,hf,hz,foundOf]
    | some p => simp [Instr.lookup,run_underlying ht,hc,hf,foundOf]
  · cases res with
    | none => simp [Instr.lookup,run_underlying ht,run_getMap hb,hc,hf,hz,foundOf]
    | some p => simp [Instr.lookup,run_underlying ht,run_getMap hb,hc,hf,foundOf]

theorem pair_rel {ok : Bool} {x : AV} {u : Value} {b : Bool} (hx : VRel E x u) : VRel E (if ok then .tup [x, .bool b] else x) (if ok then .tuple #[u, .bool b] else u) := by
  cases ok with
  | true =>
    refine .tup _ _ rfl fun i x y hx' hy => ?_
    match i with
    | 0 => simp at hx' hy; subst hx'; subst hy; exact hx
    | 1 => simp at hx' hy; subst hx'; subst hy; exact .bool _
    | i + 2 => simp at hx'
  | false => exact hx

theorem ev_lookup (hf : FRel E h w r a.tmps) (hh : HRel E h w) {t kt et : TypeId} {y yk : Operand} {x xk : AX} {d : TypeDesc} {ks : List CK} {zero : AV} {zv : Value} {ok : Bool} {i : TypeInfo} (ho : o.op = .lookup t y yk ok) (ht : P.underlying t = some (.map kt et)) (hd : P.underlying kt = some d) (hk : kinds P 10000 kt = some ks)
    (hi : P.info? et = some i) (hz : i.zero = some zv) (hzv : VRel E zero zv) (hx : XRel E a x y) (hxk : XRel E a xk yk)
    (he : evalV r h (.lookup (aggD d) ks zero ok x xk) = some reg) : Pure P E h w r a o reg := by
  simp only [evalV] at he
  split at he
  · rename_i m k hm hkv
    have hkr := vl_spec hf hxk hkv
    have hmr := vl_spec hf hx hm
    split at he
    · rename_i es hko hmo
      obtain ⟨ents, h1, h2⟩ := mapOf_spec hh hmr hmo
      obtain ⟨us, hl, hus⟩ := key_isV hd hkr hko
      have hc := checkKey_run (w := w) (em := ents.isEmpty) 10000 kt ks us _ hk hl hus
      have hzr : (zeroValue et).run P w = .ok zv w := by simp [zeroValue,typeInfo,hi,hz]
      split at he
      · rename_i j v hfk
        cases he
        obtain ⟨res', g1, g2⟩ := findKey_run hd hk hkr h2 hfk w
        have g3 := run_lookup (ok := ok) ht h1 hc g1 hzr
        match res', g2 with
        | some (j', u), ⟨_, g2⟩ => exact .val (by simp only [execOp,ho,Sem.run_bind,g3,Result.andThen_ok]; rfl) (pair_rel g2)
      · rename_i hfk
        cases he
        obtain ⟨res', g1, g2⟩ := findKey_run hd hk hkr h2 hfk w
        have g3 := run_lookup (ok := ok) ht h1 hc g1 hzr
        match res', g2 with
        | none, _ => exact .val (by simp only [execOp,ho,Sem.run_bind,g3,Result.andThen_ok]; rfl) (pair_rel hzv)
      · cases he
    · cases he
  · cases he

theorem getElem_of_len {α β : Type} {xs : List α} {ys : List β} (hl : xs.length = ys.length) {i : Nat} {x : α} (hx : xs[i]? = some x) : ∃ y, ys[i]? = some y :=
  ⟨ys[i]'(hl ▸ (List.getElem?_eq_some_iff.1 hx).1), List.getElem?_eq_getElem _⟩

theorem st_mapUpd {K : Kont} (hf : FRel E h w r a.tmps) (hh : HRel E h w) {t kt et : TypeId} {y yk yv : Operand} {x xk xv : AX} {d : TypeDesc} {ks : List CK} (ho : o.op = .mapUpdate t y yk yv ∨ o.op = .insert t y yk yv) (ht : P.underlying t = some (.map kt et)) (hd : P.underlying kt = some d) (hk : kinds P 10000 kt = some ks)
    (hx : XRel E a x y) (hxk : XRel E a xk yk) (hxv : XRel E a xv yv) {r' : Regs} {h' : Hp}
    (he : step K r h (.mapUpd (aggD d) ks x xk xv) = some (reg, r', h')) : Res P E h w r a o reg r' h' := by
  simp only [step] at he
  split at he
  · rename_i id k v hm hkv hvv
    have hkr := vl_spec hf hxk hkv
    have hvr := vl_spec hf hxv hvv
    obtain ⟨hu, hid⟩ := map_inv (vl_spec hf hx hm)
    split at he
    · rename_i es clock hes hko
      obtain ⟨ents, h1, h2, h3⟩ := map_at hh hes
      obtain ⟨us, hl, hus⟩ := key_isV hd hkr hko
      have hc := checkKey_run (w := w) (em := false) 10000 kt ks us _ hk hl hus
      have hlt : E.ob id < w.heap.size := hh.lt id ⟨_, hes, by simp⟩
      have fin : ∀ (ents' : Array MapEntry) (es' : List (AV × AV × Nat)) (clock' : Nat), EntsR E es' ents'.toList → (Instr.mapUpdate t (a.eval y) (a.eval yk) (a.eval yv)).run P w = .ok () (setO w (E.ob id) (.map ents' clock')) →
          Res P E h w r a o .un r (h.set id (.map es' clock')) := by
        intro ents' es' clock' hr hrun
        obtain ⟨k1, k2, k3⟩ := set_obj hf hh hes (by simp) h3 (map_ORel (w' := setO w (E.ob id) (.map ents' clock')) (cp := E.cp id) (setO_same w _ hlt) hr h3)
        refine ⟨undef, _, E, .inr ⟨?_, rfl⟩, k1, k2, k3, trivial, fun v e => by cases e⟩
        rcases ho with ho | ho <;> simp [execOp,ho,hrun]
      split at he
      · rename_i j v' hfk
        cases he
        obtain ⟨res', g1, g2⟩ := findKey_run hd hk hkr h2 hfk w
        obtain ⟨k', b, _, g4, g5⟩ := findK_at hfk
        obtain ⟨m, g6⟩ := getElem_of_len h2.1 g4
        obtain ⟨e1, e2, e3⟩ := h2.2 _ _ _ g4 g6
        simp only [Nat.sub_zero] at g4 g6
        have g7 : ents[j]? = some m := by simpa using g6
        match res', g2 with
        | some (j', u), ⟨hj, g2⟩ =>
          subst hj
          refine fin (ents.modify j fun e => { e with key := a.eval yk, val := a.eval yv }) _ clock ?_ ?_
          · rw [Array.toList_modify]
            exact h2.modify j _ _ fun e m he hm hem => ⟨hkr, hvr, hem.2.2⟩
          · have hst := keyStays_run (P := P) hkr e1 g5 w
            simp [Instr.mapUpdate,run_underlying ht,hu,run_getMap h1,hc,g1,g7,hst,run_setObj h1]
      · rename_i hfk
        cases he
        obtain ⟨res', g1, g2⟩ := findKey_run hd hk hkr h2 hfk w
        match res', g2 with
        | none, _ =>
          refine fin (ents.push { key := a.eval yk, val := a.eval yv, born := clock }) _ (clock + 1) ?_ ?_
          · rw [Array.toList_push]
            exact h2.push ⟨hkr, hvr, rfl⟩
          · simp [Instr.mapUpdate,run_underlying ht,hu,run_getMap h1,hc,g1,run_setObj h1]
      · cases he
    · cases he
  · cases he

theorem st_mapEnt {K : Kont} (hf : FRel E h w r a.tmps) (hh : HRel E h w) {t kt et : TypeId} {y yk : Operand} {x xk : AX} {d : TypeDesc} {ks : List CK} {zero : AV} {zv : Value} {i : TypeInfo} (ho : o.op = .mapEntry t y yk) (ht : P.underlying t = some (.map kt et)) (hd : P.underlying kt = some d) (hk : kinds P 10000 kt = some ks)
    (hi : P.info? et = some i) (hz : i.zero = some zv) (hzv : VRel E zero zv) (hx : XRel E a x y) (hxk : XRel E a xk yk) {r' : Regs} {h' : Hp}
    (he : step K r h (.mapEnt (aggD d) ks zero x xk) = some (reg, r', h')) : Res P E h w r a o reg r' h' := by
  simp only [step] at he
  split at he
  · rename_i id k hm hkv
    have hkr := vl_spec hf hxk hkv
    obtain ⟨hu, hid⟩ := map_inv (vl_spec hf hx hm)
    split at he
    · rename_i es clock hes hko
      obtain ⟨ents, h1, h2, h3⟩ := map_at hh hes
      obtain ⟨us, hl, hus⟩ := key_isV hd hkr hko
      have hc := checkKey_run (w := w) (em := false) 10000 kt ks us _ hk hl hus
      have hlt : E.ob id < w.heap.size := hh.lt id ⟨_, hes, by simp⟩
      have hzr : (zeroValue et).run P w = .ok zv w := by simp [zeroValue,typeInfo,hi,hz]
      have fin : ∀ (ents' : Array MapEntry) (es' : List (AV × AV × Nat)) (clock' : Nat) (xv : AV) (u : Value) (n : Int), EntsR E es' ents'.toList → (Instr.mapEntry t (a.eval y) (a.eval yk)).run P w = .ok (.tuple #[u, goInt n]) (setO w (E.ob id) (.map ents' clock')) → VRel E xv u →
          Res P E h w r a o (.val (.tup [xv, .int .i64 n])) r (h.set id (.map es' clock')) := by
        intro ents' es' clock' xv u n hr hrun hv
        obtain ⟨k1, k2, k3⟩ := set_obj hf hh hes (by simp) h3 (map_ORel (w' := setO w (E.ob id) (.map ents' clock')) (cp := E.cp id) (setO_same w _ hlt) hr h3)
        refine .of_val (.inl (by simp [execOp,ho,hrun]; rfl)) k1 k2 k3 (.tup _ _ rfl fun i x y hx hy => ?_)
        match i with
        | 0 => simp at hx hy; subst hx; subst hy; exact hv
        | 1 => simp at hx hy; subst hx; subst hy; exact .int _ _
        | i + 2 => simp at hx
      split at he
      · rename_i j v' hfk
        obtain ⟨res', g1, g2⟩ := findKey_run hd hk hkr h2 hfk w
        obtain ⟨k', b, _, g4, g5⟩ := findK_at hfk
        obtain ⟨m, g6⟩ := getElem_of_len h2.1 g4
        obtain ⟨e1, e2, e3⟩ := h2.2 _ _ _ g4 g6
        simp only [Nat.sub_zero] at g4 g6
        have g7 : ents[j]? = some m := by simpa using g6
        rw [g4] at he
        simp only at he
        cases he
        match res', g2 with
        | some (j', u), ⟨hj, g2⟩ =>
          subst hj
          refine fin (ents.modify j fun e => { e with key := a.eval yk }) _ clock v' u b ?_ ?_ g2
          · rw [Array.toList_modify]
            exact h2.modify j _ _ fun e m he hm hem => ⟨hkr, hem.2.1, hem.2.2⟩
          · have hst := keyStays_run (P := P) hkr e1 g5 w
            simp only at e3
            simp [Instr.mapEntry,run_underlying ht,hu,run_getMap h1,hc,g1,g7,hst,run_setObj h1,e3]
      · rename_i hfk
        cases he
        obtain ⟨res', g1, g2⟩ := findKey_run hd hk hkr h2 hfk w
        match res', g2 with
        | none, _ =>
          refine fin (ents.push { key := a.eval yk, val := zv, born := clock }) _ (clock + 1) zero zv clock ?_ ?_ hzv
          · rw [Array.toList_push]
            exact h2.push ⟨hkr, hzv, rfl⟩
          · simp [Instr.mapEntry,run_underlying ht,hu,run_getMap h1,hc,g1,run_setObj h1,hzr]
      · cases he
    · cases he
  · cases he
end
end Go.Im

/- ImMaps3: more operations on maps: stores into an entry, deletions, loops over a map. -/
set_option linter.unusedVariables false
set_option linter.unusedSimpArgs false
namespace Go.Im
section
variable {P : Program} {E : Env} {h : Hp} {w : World} {r : Regs} {a : Act} {o : Oper} {reg : Reg}

theorem findIdx_rel {b : Int} : ∀ {es : List (AV × AV × Nat)} {ms : List MapEntry}, EntsR E es ms → es.findIdx? (fun e => (e.2.2 : Int) == b) = ms.findIdx? (fun e => (e.born : Int) == b)
  | [], [], _ => rfl
  | [], m :: ms, hr => by simp [EntsR] at hr
  | e :: es, [], hr => by simp [EntsR] at hr
  | e :: es, m :: ms, hr => by
    obtain ⟨_, _, r3⟩ := hr.2 0 e m rfl rfl
    simp only [List.findIdx?_cons,r3,findIdx_rel hr.tail]

theorem st_entSto {K : Kont} (hf : FRel E h w r a.tmps) (hh : HRel E h w) {t : TypeId} {y ys yv : Operand} {x xs xv : AX} (ho : o.op = .entryStore t y ys yv)
    (hx : XRel E a x y) (hxs : XRel E a xs ys) (hxv : XRel E a xv yv) {r' : Regs} {h' : Hp}
    (he : step K r h (.entSto x xs xv) = some (reg, r', h')) : Res P E h w r a o reg r' h' := by
  simp only [step] at he
  split at he
  · rename_i id b v hm hb hvv
    have hvr := vl_spec hf hxv hvv
    obtain ⟨hu, hid⟩ := map_inv (vl_spec hf hx hm)
    obtain ⟨kb, hkb⟩ := iv_spec hf hxs hb
    split at he
    · rename_i es clock hes
      obtain ⟨ents, h1, h2, h3⟩ := map_at hh hes
      have hlt : E.ob id < w.heap.size := hh.lt id ⟨_, hes, by simp⟩
      split at he
      · rename_i i hi
        cases he
        have hi' : ents.findIdx? (fun e => (e.born : Int) == b) = some i := by
          rw [findIdx_rel h2] at hi
          rwa [← List.findIdx?_toArray, Array.toArray_toList] at hi
        obtain ⟨k1, k2, k3⟩ := set_obj hf hh hes (by simp) h3 (map_ORel (w' := setO w (E.ob id) (.map (ents.modify i fun e => { e with val := a.eval yv }) clock)) (cp := E.cp id) (setO_same w _ hlt)
          (by rw [Array.toList_modify]; exact h2.modify i (fun e => (e.1, v, e.2.2)) _ fun e m he hm hem => ⟨hem.1, hvr, hem.2.2⟩) h3)
        refine ⟨undef, _, E, .inr ⟨?_, rfl⟩, k1, k2, k3, trivial, fun v e => by cases e⟩
        simp [execOp,ho,Instr.entryStore,hu,run_getMap h1,hkb,asInt,asIntOf,hi',run_setObj h1]
      · cases he
    · cases he
  · cases he

theorem st_del {K : Kont} (hf : FRel E h w r a.tmps) (hh : HRel E h w) {t t2 kt et : TypeId} {y yk : Operand} {x xk : AX} {d : TypeDesc} {ks : List CK} (ho : o.op = .call { callee := .builtin .delete, args := #[y, yk], argTypes := #[t, t2] }) (ht : P.underlying t = some (.map kt et)) (hd : P.underlying kt = some d) (hk : kinds P 10000 kt = some ks)
    (hx : XRel E a x y) (hxk : XRel E a xk yk) {r' : Regs} {h' : Hp}
    (he : step K r h (.del (aggD d) ks x xk) = some (reg, r', h')) : Res P E h w r a o reg r' h' := by
  simp only [step] at he
  split at he
  · rename_i k hm hkv
    have hkr := vl_spec hf hxk hkv
    have hu := nilm_inv (vl_spec hf hx hm)
    split at he
    · rename_i hko
      cases he
      obtain ⟨us, hl, hus⟩ := key_isV hd hkr hko
      have hc := checkKey_run (w := w) (em := true) 10000 kt ks us _ hk hl hus
      refine .of_val (u := .tuple #[]) (.inl ?_) (Keep.refl _ _ _ _) hf hh (.tup _ _ rfl fun i x y hi => by simp at hi)
      simp [execOp,ho,resolve,invoke,builtin,Builtin.delete_,run_underlying ht,hu,hc]
    · cases he
  · rename_i id k hm hkv
    have hkr := vl_spec hf hxk hkv
    obtain ⟨hu, hid⟩ := map_inv (vl_spec hf hx hm)
    split at he
    · rename_i es clock hes hko
      obtain ⟨ents, h1, h2, h3⟩ := map_at hh hes
      obtain ⟨us, hl, hus⟩ := key_isV hd hkr hko
      have hc := checkKey_run (w := w) (em := ents.isEmpty) 10000 kt ks us _ hk hl hus
      have hlt : E.ob id < w.heap.size := hh.lt id ⟨_, hes, by simp⟩
      split at he
      · rename_i j v' hfk
        cases he
        obtain ⟨res', g1, g2⟩ := findKey_run hd hk hkr h2 hfk w
        match res', g2 with
        | some (j', u), ⟨hj, g2⟩ =>
          subst hj
          obtain ⟨k1, k2, k3⟩ := set_obj hf hh hes (by simp) h3 (map_ORel (w' := setO w (E.ob id) (.map (ents.eraseIdxIfInBounds j) clock)) (cp := E.cp id) (setO_same w _ hlt)
            (by rw [Array.toList_eraseIdxIfInBounds]; exact h2.erase j) h3)
          refine .of_val (u := .tuple #[]) (.inl ?_) k1 k2 k3 (.tup _ _ rfl fun i x y hi => by simp at hi)
          simp [execOp,ho,resolve,invoke,builtin,Builtin.delete_,run_underlying ht,hu,run_getMap h1,hc,g1,run_setObj h1]
      · rename_i hfk
        cases he
        obtain ⟨res', g1, g2⟩ := findKey_run hd hk hkr h2 hfk w
        match res', g2 with
        | none, _ =>
          obtain ⟨k1, k2, k3⟩ := set_obj hf hh hes (by simp) h3 (map_ORel (w' := setO w (E.ob id) (.map ents clock)) (cp := E.cp id) (setO_same w _ hlt) h2 h3)
          have hse : h.set id (.map es clock) = h := by
            obtain ⟨hl, hg⟩ := List.getElem?_eq_some_iff.1 hes
            rw [← hg, List.set_getElem_self]
          rw [hse] at k1 k2 k3
          refine .of_val (u := .tuple #[]) (.inl ?_) k1 k2 k3 (.tup _ _ rfl fun i x y hi => by simp at hi)
          simp [execOp,ho,resolve,invoke,builtin,Builtin.delete_,run_underlying ht,hu,run_getMap h1,hc,g1,run_setObj h1]
      · cases he
    · cases he
  · cases he

theorem st_clearM {K : Kont} (hf : FRel E h w r a.tmps) (hh : HRel E h w) {t kt et : TypeId} {y : Operand} {x : AX} (ho : o.op = .call { callee := .builtin .clear, args := #[y], argTypes := #[t] }) (ht : P.underlying t = some (.map kt et)) (hx : XRel E a x y) {r' : Regs} {h' : Hp}
    (he : step K r h (.clearM x) = some (reg, r', h')) : Res P E h w r a o reg r' h' := by
  simp only [step] at he
  split at he
  · rename_i hm
    cases he
    refine .of_val (u := .tuple #[]) (.inl ?_) (Keep.refl _ _ _ _) hf hh (.tup _ _ rfl fun i x y hi => by simp at hi)
    simp [execOp,ho,resolve,invoke,builtin,Builtin.clear_,run_underlying ht,nilm_inv (vl_spec hf hx hm)]
  · rename_i id hm
    obtain ⟨hu, hid⟩ := map_inv (vl_spec hf hx hm)
    split at he
    · rename_i es clock hes
      cases he
      obtain ⟨ents, h1, h2, h3⟩ := map_at hh hes
      have hlt : E.ob id < w.heap.size := hh.lt id ⟨_, hes, by simp⟩
      obtain ⟨k1, k2, k3⟩ := set_obj hf hh hes (by simp) h3 (map_ORel (w' := setO w (E.ob id) (.map #[] clock)) (cp := E.cp id) (es := []) (setO_same w _ hlt) ⟨rfl, fun i e m hi => by simp at hi⟩ h3)
      refine .of_val (u := .tuple #[]) (.inl ?_) k1 k2 k3 (.tup _ _ rfl fun i x y hi => by simp at hi)
      simp [execOp,ho,resolve,invoke,builtin,Builtin.clear_,run_underlying ht,hu,run_getMap h1,run_setObj h1]
    · cases he
  · cases he

/-! ### loops over a map -/

theorem iter_val (hh : HRel E h w) : VRel (E.add w.heap.size 0) (.ptr h.length 0 0 0) (.pointer (some ⟨w.heap.size, 0, none⟩)) := by
  have : E.n = h.length := hh.n
  have e1 : (E.add w.heap.size 0).ob h.length = w.heap.size := by simp [Env.add,this]
  have := VRel.ptr (E := E.add w.heap.size 0) h.length 0 0 0 (by simp [Env.add,this])
  rwa [e1] at this

theorem st_range {K : Kont} (hf : FRel E h w r a.tmps) (hh : HRel E h w) {t kt et : TypeId} {y : Operand} {x : AX} (ho : o.op = .range t y) (ht : P.underlying t = some (.map kt et)) (hx : XRel E a x y) {r' : Regs} {h' : Hp}
    (he : step K r h (.range x) = some (reg, r', h')) : Res P E h w r a o reg r' h' := by
  have hlt : ∀ ob : Obj, w.heap.size < (w.alloc ob).heap.size := fun ob => by show _ < (w.heap.push _).size; simp
  simp only [step] at he
  split at he
  · rename_i hm
    cases he
    have g := Grow.alloc w (.mapIter none 0 #[] 0)
    have ho2 : ORel (E.add w.heap.size 0) (w.alloc (.mapIter none 0 #[] 0)) w.heap.size 0 (.iter none 0 [] 0) := ⟨none, alloc_at _ _, rfl, fun o => hh.sg_new (Nat.le_refl _) o⟩
    obtain ⟨k1, k2, k3⟩ := new_entry hf hh g (Nat.le_refl _) (hlt _) ho2
    refine .of_val (.inl ?_) k1 k2 k3 (iter_val hh)
    simp [execOp,ho,Instr.range,run_underlying ht,nilm_inv (vl_spec hf hx hm)]
  · rename_i id hm
    obtain ⟨hu, hid⟩ := map_inv (vl_spec hf hx hm)
    split at he
    · rename_i es clock hes
      cases he
      obtain ⟨ents, h1, h2, h3⟩ := map_at hh hes
      have g := Grow.alloc w (.mapIter (some (E.ob id)) clock #[] clock)
      have ho2 : ORel (E.add w.heap.size 0) (w.alloc (.mapIter (some (E.ob id)) clock #[] clock)) w.heap.size 0 (.iter (some id) clock [] clock) :=
        ⟨some (E.ob id), alloc_at _ _, ⟨Nat.lt_of_lt_of_le hid (E.add_le _ _).n, by rw [(E.add_le _ _).ob id hid]⟩, fun o => hh.sg_new (Nat.le_refl _) o⟩
      obtain ⟨k1, k2, k3⟩ := new_entry hf hh g (Nat.le_refl _) (hlt _) ho2
      refine .of_val (.inl ?_) k1 k2 k3 (iter_val hh)
      simp [execOp,ho,Instr.range,run_underlying ht,hu,run_getMap h1]
    · cases he
  · cases he

theorem ptr_inv {u : Value} {id : Nat} (hu : VRel E (.ptr id 0 0 0) u) : u = .pointer (some ⟨E.ob id, 0, none⟩) ∧ id < E.n := by
  cases hu; exact ⟨by simp, by assumption⟩

theorem iter_at (hh : HRel E h w) {id : Nat} {m : Option Nat} {since stepped : Nat} {seen : List Nat} (he : h[id]? = some (.iter m since seen stepped)) :
    ∃ m', w.heap[E.ob id]? = some (.mapIter m' since seen.toArray stepped) ∧ ((m = none → m' = none) ∧ ∀ j, m = some j → j < E.n ∧ m' = some (E.ob j)) ∧ ∀ o, E.sg (E.ob id) o = none := by
  obtain ⟨m', h1, h2, h3⟩ := hh.obj id _ he
  refine ⟨m', h1, ⟨fun e => ?_, fun j e => ?_⟩, h3⟩
  · subst e; exact h2
  · subst e; exact h2

theorem run_getIter {b : Nat} {m : Option Nat} {since stepped : Nat} {seen : Array Nat} (hb : w.heap[b]? = some (.mapIter m since seen stepped)) : (getObj b).run P w = .ok (.mapIter m since seen stepped) w := by
  simp [getObj,Sem.run,hb]

theorem find_rel {b : Nat} : ∀ {es : List (AV × AV × Nat)} {ms : List MapEntry}, EntsR E es ms → ∀ {e : AV × AV × Nat}, es.find? (fun e => e.2.2 == b) = some e → ∃ m, ms.find? (fun e => e.born == b) = some m ∧ EntR E e m
  | [], _, _, e, hf => by simp at hf
  | e :: es, [], hr, _, _ => by simp [EntsR] at hr
  | e :: es, m :: ms, hr, e', hf => by
    obtain ⟨r1, r2, r3⟩ := hr.2 0 e m rfl rfl
    rw [List.find?_cons] at hf
    rw [List.find?_cons, ← r3]
    split at hf
    · cases hf; exact ⟨m, rfl, r1, r2, r3⟩
    · exact find_rel hr.tail hf

theorem st_entry {K : Kont} (hf : FRel E h w r a.tmps) (hh : HRel E h w) {y : Operand} {x : AX} (ho : o.op = .entry y) (hx : XRel E a x y) {r' : Regs} {h' : Hp}
    (he : step K r h (.entry x) = some (reg, r', h')) : Res P E h w r a o reg r' h' := by
  simp only [step] at he
  split at he
  · rename_i id hm
    obtain ⟨hu, hid⟩ := ptr_inv (vl_spec hf hx hm)
    split at he
    · rename_i m since seen stepped hit
      obtain ⟨m', i1, ⟨_, i2⟩, i3⟩ := iter_at hh hit
      obtain ⟨i2, rfl⟩ := i2 m rfl
      split at he
      · rename_i es clock b hes hb
        split at he
        · rename_i hst
          subst hst
          obtain ⟨ents, h1, h2, h3⟩ := map_at hh hes
          split at he
          · rename_i e hfe
            cases he
            obtain ⟨me, q1, q2, q3, q4⟩ := find_rel h2 hfe
            have q1' : ents.find? (fun e => e.born == b) = some me := by simpa using q1
            refine .of_val (u := .tuple #[me.key, me.val]) (.inl ?_) (Keep.refl _ _ _ _) hf hh (.tup _ _ rfl fun i x y hx hy => ?_)
            · have hb' : seen.toArray.back? = some b := by simpa using hb
              simp [execOp,ho,Instr.entry,hu,run_getIter i1,hb',run_getMap h1,q1',hb]
            · match i with
              | 0 => simp at hx hy; subst hx; subst hy; exact q2
              | 1 => simp at hx hy; subst hx; subst hy; exact q3
              | i + 2 => simp at hx
          · cases he
        · cases he
      · cases he
    · cases he
  · cases he

theorem EntsR.nil : EntsR E [] [] := ⟨rfl, fun i e m hi => by simp at hi⟩
theorem EntsR.cons {e : AV × AV × Nat} {m : MapEntry} {es : List (AV × AV × Nat)} {ms : List MapEntry} (h0 : EntR E e m) (hr : EntsR E es ms) : EntsR E (e :: es) (m :: ms) := by
  refine ⟨by simp [hr.1], fun i x y hx hy => ?_⟩
  cases i with
  | zero => simp at hx hy; subst hx; subst hy; exact h0
  | succ i => exact hr.2 i x y (by simpa using hx) (by simpa using hy)

theorem EntsR.filter {p : AV × AV × Nat → Bool} {q : MapEntry → Bool} (hpq : ∀ e m, EntR E e m → p e = q m) : ∀ {es : List (AV × AV × Nat)} {ms : List MapEntry}, EntsR E es ms → EntsR E (es.filter p) (ms.filter q)
  | [], [], _ => .nil
  | [], m :: ms, hr => by simp [EntsR] at hr
  | e :: es, [], hr => by simp [EntsR] at hr
  | e :: es, m :: ms, hr => by
    have r0 := hr.2 0 e m rfl rfl
    have ih := EntsR.filter hpq hr.tail
    rw [List.filter_cons, List.filter_cons, hpq e m r0]
    split
    · exact .cons r0 ih
    · exact ih

theorem EntsR.append : ∀ {es fs : List (AV × AV × Nat)} {ms ns : List MapEntry}, EntsR E es ms → EntsR E fs ns → EntsR E (es ++ fs) (ms ++ ns)
  | [], fs, [], ns, _, h2 => h2
  | [], fs, m :: ms, ns, hr, _ => by simp [EntsR] at hr
  | e :: es, fs, [], ns, hr, _ => by simp [EntsR] at hr
  | e :: es, fs, m :: ms, ns, hr, h2 => .cons (hr.2 0 e m rfl rfl) (EntsR.append hr.tail h2)

theorem EntsR.all {p : AV × AV × Nat → Bool} {q : MapEntry → Bool} (hpq : ∀ e m, EntR E e m → p e = q m) : ∀ {es : List (AV × AV × Nat)} {ms : List MapEntry}, EntsR E es ms → es.all p = ms.all q
  | [], [], _ => rfl
  | [], m :: ms, hr => by simp [EntsR] at hr
  | e :: es, [], hr => by simp [EntsR] at hr
  | e :: es, m :: ms, hr => by
    rw [List.all_cons, List.all_cons, hpq e m (hr.2 0 e m rfl rfl), EntsR.all hpq hr.tail]

theorem EntsR.isEmpty {es : List (AV × AV × Nat)} {ms : List MapEntry} (hr : EntsR E es ms) : es.isEmpty = ms.isEmpty := by
  cases es <;> cases ms <;> simp [EntsR] at hr ⊢

def candM (ms : List MapEntry) (since : Nat) (seen : List Nat) : List (Option MapEntry) :=
  (if ((ms.filter fun e => !seen.contains e.born).filter fun e => decide (e.born < since)).isEmpty then [none] else []) ++
  (((ms.filter fun e => !seen.contains e.born).filter fun e => decide (e.born < since)) ++ ((ms.filter fun e => !seen.contains e.born).filter fun e => decide (e.born ≥ since))).map some

def CandR (E : Env) : Option (AV × AV × Nat) → Option MapEntry → Prop
  | none, none => True
  | some e, some m => EntR E e m
  | _, _ => False

theorem cand_rel {es : List (AV × AV × Nat)} {ms : List MapEntry} (hr : EntsR E es ms) (since : Nat) (seen : List Nat) :
    (cands es since seen).length = (candM ms since seen).length ∧ ∀ (i : Nat) c, (cands es since seen)[i]? = some c → ∃ c', (candM ms since seen)[i]? = some c' ∧ CandR E c c' := by
  have f1 := hr.filter (p := fun e => !seen.contains e.2.2) (q := fun e => !seen.contains e.born) (fun e m h => by rw [h.2.2])
  have f2 := f1.filter (p := fun e => decide (e.2.2 < since)) (q := fun e => decide (e.born < since)) (fun e m h => by rw [h.2.2])
  have f3 := f1.filter (p := fun e => decide (e.2.2 ≥ since)) (q := fun e => decide (e.born ≥ since)) (fun e m h => by rw [h.2.2])
  have f4 := f2.append f3
  have main : ∀ (i : Nat) c, (((((es.filter fun e => !seen.contains e.2.2).filter fun e => decide (e.2.2 < since)) ++ ((es.filter fun e => !seen.contains e.2.2).filter fun e => decide (e.2.2 ≥ since))).map some)[i]? = some c) →
      ∃ c', ((((ms.filter fun e => !seen.contains e.born).filter fun e => decide (e.born < since)) ++ ((ms.filter fun e => !seen.contains e.born).filter fun e => decide (e.born ≥ since))).map some)[i]? = some c' ∧ CandR E c c' := by
    intro i c hc
    rw [List.getElem?_map] at hc
    obtain ⟨e, he, rfl⟩ := Option.map_eq_some_iff.1 hc
    obtain ⟨m, hm⟩ := getElem_of_len f4.1 he
    exact ⟨some m, by rw [List.getElem?_map, hm]; rfl, f4.2 i e m he hm⟩
  unfold cands candM
  rw [f2.isEmpty]
  have hlen := f4.1
  split
  · refine ⟨by simp only [List.length_append,List.length_map] at hlen ⊢; omega, fun i c hc => ?_⟩
    cases i with
    | zero => simp at hc; subst hc; exact ⟨none, by simp, trivial⟩
    | succ i =>
      simp only [List.singleton_append,List.getElem?_cons_succ] at hc ⊢
      exact main i c hc
  · refine ⟨by simp only [List.length_append,List.length_map] at hlen ⊢; omega, fun i c hc => ?_⟩
    simp only [List.nil_append] at hc ⊢
    exact main i c hc

def askN (r : Regs) (h : Hp) (it : AX) : Nat :=
  match vl r it with
  | some (.ptr id 0 0 0) => match h[id]? with
    | some (.iter (some m) since seen _) => match h[m]? with
      | some (.map es _) => (cands es since seen).length
      | _ => 0
    | _ => 0
  | _ => 0

theorem alive_dead {id : Nat} (ha : alive (h ++ [.dead]) id) : alive h id := by
  rcases alive_push ha with ha | ⟨_, hd⟩
  · exact ha
  · exact absurd rfl hd

theorem Owned.addDead {b : Nat} (hh : HRel E h w) (ho : Owned (E.add 0 0) (h ++ [.dead]) b) : Owned E h b := by
  obtain ⟨id, ha, rfl⟩ := ho
  have ha := alive_dead ha
  refine ⟨id, ha, ?_⟩
  simp only [Env.add]; rw [if_neg]; have := alive_lt ha; rw [hh.n]; omega

theorem HRel.addDead (hh : HRel E h w) : HRel (E.add 0 0) (h ++ [.dead]) w := by
  have hob : ∀ id, id < h.length → (E.add 0 0).ob id = E.ob id := fun id hi => by simp only [Env.add]; rw [if_neg (by rw [hh.n]; omega)]
  have hcp : ∀ id, id < h.length → (E.add 0 0).cp id = E.cp id := fun id hi => by simp only [Env.add]; rw [if_neg (by rw [hh.n]; omega)]
  refine ⟨by simp [Env.add,hh.n], hh.sg, fun id ha => ?_, fun id x hx => ?_, fun i j hi hj he => ?_⟩
  · have ha := alive_dead ha
    rw [hob id (alive_lt ha)]; exact hh.lt id ha
  · by_cases hi : id < h.length
    · rw [List.getElem?_append_left hi] at hx
      rw [hob id hi, hcp id hi]
      exact ORel.mono (E.add_le 0 0) (fun _ => rfl) (hh.obj id x hx)
    · rw [List.getElem?_append_right (by omega)] at hx
      have : id - h.length = 0 := by
        have := (List.getElem?_eq_some_iff.1 hx).1
        simpa using this
      rw [this] at hx
      simp at hx
      subst hx
      trivial
  · have hi := alive_dead hi
    have hj := alive_dead hj
    rw [hob i (alive_lt hi), hob j (alive_lt hj)] at he
    exact hh.inj i j hi hj he

theorem FRel.addDead {tm : Array Value} (hf : FRel E h w r tm) (hh : HRel E h w) : FRel (E.add 0 0) (h ++ [.dead]) w r tm :=
  hf.mono (E.add_le 0 0) fun t ht => ⟨rfl, fun _ => rfl, fun ho => hf.own t ht (Owned.addDead hh ho)⟩

theorem Keep.addDead (hh : HRel E h w) (X : Nat → Prop) : Keep E h X w (E.add 0 0) (h ++ [.dead]) X w :=
  ⟨E.add_le 0 0, Nat.le_refl _, rfl, rfl, fun _ _ _ _ => rfl, fun b' ho => .inl (Owned.addDead hh ho), fun _ h => .inl h, fun _ _ h => .inl h⟩

theorem run_choose_next (n : Nat) (hn : n ≠ 0) (w : World) : ∃ w1, Grow w w1 ∧ (choose (.mapNext n)).run P w = .ok (w.tape w.drawn (.mapNext n) % n) w1 := by
  by_cases h1 : n ≤ 1
  · have : n = 1 := by omega
    subst this
    exact ⟨w, .refl w, by simp [run_choose,Question.forced,Nat.mod_one]⟩
  · refine ⟨w.drew, .drew w, ?_⟩
    have : (Question.mapNext n).forced = false := by simp [Question.forced]; omega
    rw [run_choose, this]
    rfl

theorem candM_ne (ms : List MapEntry) (since : Nat) (seen : List Nat) : candM ms since seen ≠ [] := by
  unfold candM
  split
  · simp
  · rename_i h
    intro e
    simp only [List.nil_append,List.map_eq_nil_iff,List.append_eq_nil_iff] at e
    rw [e.1] at h
    exact h rfl

theorem run_next {b mb : Nat} {l : List MapEntry} {clock since stepped : Nat} {seen : List Nat} {ty : TypeId} (hb : w.heap[b]? = some (.mapIter (some mb) since seen.toArray stepped)) (hmb : w.heap[mb]? = some (.map l.toArray clock))
    (hno : (!seen.isEmpty && !l.isEmpty && l.all fun e => decide (e.born ≥ stepped)) = false) :
    ∃ w1 c, Grow w w1 ∧ (candM l since seen)[w.tape w.drawn (.mapNext (candM l since seen).length) % (candM l since seen).length]? = some c ∧
      (Instr.next (.pointer (some ⟨b, 0, none⟩)) false ty).run P w = match c with
        | some m => .ok (.tuple #[.bool true, m.key, m.val]) (setO w1 b (.mapIter (some mb) since (seen ++ [m.born]).toArray clock))
        | none => .ok (.tuple #[.bool false]) w1 := by
  have hne : (candM l since seen).length ≠ 0 := fun e => candM_ne l since seen (List.eq_nil_of_length_eq_zero e)
  obtain ⟨w1, g, hch⟩ := run_choose_next (P := P) _ hne w
  have hlt := Nat.mod_lt (w.tape w.drawn (.mapNext (candM l since seen).length)) (Nat.pos_of_ne_zero hne)
  generalize w.tape w.drawn (.mapNext (candM l since seen).length) % (candM l since seen).length = k at *
  have hk := List.getElem?_eq_getElem hlt
  generalize (candM l since seen)[k] = c at *
  refine ⟨w1, c, g, hk, ?_⟩
  have hb1 : ∀ y, (setObj b y).run P w1 = .ok () (setO w1 b y) := fun y => run_setObj (x := .mapIter (some mb) since seen.toArray stepped) (by rw [g.heap b (Array.getElem?_eq_some_iff.1 hb).1]; exact hb) (fun c e f h => by cases h)
  have hcand : (if ((l.toArray.filter fun e : MapEntry => !seen.toArray.contains e.born).filter fun e : MapEntry => decide (e.born < since)).isEmpty = true then #[none] else #[]) ++ Array.map some (((l.toArray.filter fun e : MapEntry => !seen.toArray.contains e.born).filter fun e : MapEntry => decide (e.born < since)) ++ ((l.toArray.filter fun e : MapEntry => !seen.toArray.contains e.born).filter fun e : MapEntry => decide (e.born ≥ since))) = (candM l since seen).toArray := by
    unfold candM
    simp only [List.filter_toArray,List.isEmpty_toArray,List.append_toArray,List.map_toArray,List.contains_toArray]
    split <;> simp
  unfold Instr.next
  simp only [Sem.run_bind,run_getIter hb,Result.andThen_ok,run_getMap hmb,List.isEmpty_toArray,Array.all_toList,List.all_toArray]
  rw [if_neg (by rw [hno]; simp)]
  simp only [hcand]
  simp only [Sem.run_bind,List.size_toArray,hch,Result.andThen_ok,List.getElem?_toArray,hk]
  cases c with
  | none => rfl
  | some m => simp [hb1]

theorem st_next {K : Kont} (hf : FRel E h w r a.tmps) (hh : HRel E h w) {y : Operand} {x : AX} (ho : o.op = .next y false) (hx : XRel E a x y) (hp : ∀ t, K.pick h.length = some t → t = w.tape w.drawn (.mapNext (askN r h x))) {r' : Regs} {h' : Hp}
    (he : step K r h (.next x) = some (reg, r', h')) : Res P E h w r a o reg r' h' := by
  simp only [step] at he
  split at he
  · rename_i id hm
    obtain ⟨hu, hid⟩ := ptr_inv (vl_spec hf hx hm)
    split at he
    · rename_i since seen stepped hit
      cases he
      obtain ⟨m', i1, ⟨i2, _⟩, i3⟩ := iter_at hh hit
      obtain rfl := i2 rfl
      refine .of_val (u := .tuple #[.bool false]) (.inl ?_) (Keep.refl _ _ _ _) hf hh (.tup _ _ rfl fun i x y hx hy => ?_)
      · simp [execOp,ho,Instr.next,hu,run_getIter i1]
      · match i with
        | 0 => simp at hx hy; subst hx; subst hy; exact .bool _
        | i + 1 => simp at hx
    · rename_i m since seen stepped hit
      obtain ⟨m', i1, ⟨_, i2⟩, i3⟩ := iter_at hh hit
      obtain ⟨hm2, rfl⟩ := i2 m rfl
      split at he
      · rename_i es clock hes
        obtain ⟨ents, h1, h2, h3⟩ := map_at hh hes
        split at he
        · cases he
        · rename_i hno
          have hask : askN r h x = (cands es since seen).length := by simp [askN,hm,hit,hes]
          rw [hask] at hp
          cases hpk : K.pick h.length with
          | none => rw [hpk] at he; cases he
          | some t =>
          rw [hpk, hp t hpk] at he
          simp only [Option.bind_some] at he
          have hix : ∀ (m t : Nat), m ≠ 0 → (if m ≤ 1 then 0 else t % m) = t % m := fun m t hm => by
            split
            · have : m = 1 := by omega
              subst this; omega
            · rfl
          rw [hix _ _ (fun e => candM_ne ents.toList since seen (List.eq_nil_of_length_eq_zero (by rw [← (cand_rel h2 since seen).1]; exact e)))] at he
          obtain ⟨c1, c2⟩ := cand_rel h2 since seen
          rw [h2.isEmpty, h2.all (q := fun e => decide (e.born ≥ stepped)) (fun e m h => by rw [h.2.2])] at hno
          obtain ⟨w1, c, g, g1, g2⟩ := run_next (P := P) (ty := o.type) (l := ents.toList) i1 (by simpa using h1) (by simpa using hno)
          rw [← c1] at g1
          have hrel : ∀ c0, (cands es since seen)[w.tape w.drawn (.mapNext (cands es since seen).length) % (cands es since seen).length]? = some c0 → CandR E c0 c := fun c0 h0 => by
            obtain ⟨c', q1, q2⟩ := c2 _ _ h0
            rw [g1] at q1
            cases q1
            exact q2
          have hh1 := hh.grow g
          have hf1 := hf.grow g
          split at he
          · rename_i e hce
            cases he
            have hr := hrel _ hce
            cases c with
            | none => exact absurd hr (by simp [CandR])
            | some me =>
              obtain ⟨q1, q2, q3⟩ := hr
              have hlt : E.ob id < w1.heap.size := hh1.lt id ⟨_, hit, by simp⟩
              obtain ⟨k1, k2, k3⟩ := set_obj hf1 hh1 hit (by simp) i3 (y := .iter (some m) since (seen ++ [e.2.2]) clock) (ob := .mapIter (some (E.ob m)) since (seen ++ [me.born]).toArray clock)
                ⟨some (E.ob m), by rw [q3]; exact setO_same w1 _ hlt, ⟨hm2, rfl⟩, i3⟩
              have k1' := (Keep.grow E h (Vars r a.tmps) g).trans k1
              refine .of_val (u := .tuple #[.bool true, me.key, me.val]) (.inl ?_) (k1'.trans (Keep.addDead k3 _)) (k2.addDead k3) k3.addDead (.tup _ _ rfl fun i x y hx hy => ?_)
              · simp only [execOp,ho,Sem.run_bind,hu,g2,Result.andThen_ok]; rfl
              · have hle := E.add_le 0 0
                match i with
                | 0 => simp at hx hy; subst hx; subst hy; exact .bool _
                | 1 => simp at hx hy; subst hx; subst hy; exact q1.mono hle
                | 2 => simp at hx hy; subst hx; subst hy; exact q2.mono hle
                | i + 3 => simp at hx
          · rename_i hce
            cases he
            have hr := hrel _ hce
            cases c with
            | some me => exact absurd hr (by simp [CandR])
            | none =>
              refine .of_val (u := .tuple #[.bool false]) (.inl ?_) ((Keep.grow E h (Vars r a.tmps) g).trans (Keep.addDead hh1 _)) (hf1.addDead hh1) hh1.addDead (.tup _ _ rfl fun i x y hx hy => ?_)
              · simp only [execOp,ho,Sem.run_bind,hu,g2,Result.andThen_ok]; rfl
              · match i with
                | 0 => simp at hx hy; subst hx; subst hy; exact .bool _
                | i + 1 => simp at hx
          · cases he
      · cases he
    · cases he
  · cases he
end
end Go.Im

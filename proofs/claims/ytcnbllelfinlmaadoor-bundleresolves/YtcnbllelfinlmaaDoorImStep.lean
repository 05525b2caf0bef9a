/- ImStep: an operation of the idealised machine that stands for one of the model's does what that does. -/
import Derived.Test.YtcnbllelfinlmaaDoorImOk
set_option linter.unusedVariables false
set_option linter.unusedSimpArgs false
namespace Go.Im
section
variable {P : Program} {E : Env} {h : Hp} {w : World} {r : Regs} {a : Act} {o : Oper} {reg : Reg} {GT : GTab}

theorem sames_eq : ∀ {as bs : List AV}, sames as bs = true → as = bs
  | [], [], _ => rfl
  | [], b :: bs, h => by simp [sames] at h
  | a :: as, [], h => by cases a <;> simp [sames] at h
  | a :: as, b :: bs, h => by
    cases a <;> cases b <;> simp [sames] at h
    · obtain ⟨⟨rfl, rfl⟩, h⟩ := h; rw [sames_eq h]
    · obtain ⟨rfl, h⟩ := h; rw [sames_eq h]

theorem same1_eq {a b : AV} (h : same1 a b = true) : a = b := by
  unfold same1 at h
  split at h <;> simp at h <;> first
    | rfl
    | (subst h; rfl)
    | (obtain ⟨rfl, h⟩ := h; rw [sames_eq h])
    | (obtain ⟨rfl, rfl⟩ := h; rfl)

theorem same1s_eq : ∀ {as bs : List AV}, same1s as bs = true → as = bs
  | [], [], _ => rfl
  | [], b :: bs, h => by simp [same1s] at h
  | a :: as, [], h => by simp [same1s] at h
  | a :: as, b :: bs, h => by
    simp only [same1s,Bool.and_eq_true] at h
    rw [same1_eq h.1, same1s_eq h.2]

theorem same2_eq {a b : AV} (h : same2 a b = true) : a = b := by
  unfold same2 at h
  split at h
  · rw [same1s_eq h]
  · exact same1_eq h

theorem one1_rel {v : AV} {u : Value} (h : one1 v u = true) : VRel E v u ∧ v.one = true := by
  unfold one1 at h
  split at h
  · simp at h; subst h; exact ⟨.bool _, rfl⟩
  · simp at h; obtain ⟨rfl, rfl⟩ := h; exact ⟨.int _ _, rfl⟩
  · rename_i s t
    simp at h
    subst h
    refine ⟨?_, rfl⟩
    have : t = ⟨t.data.toList.toArray⟩ := by cases t; simp
    rw [this]
    simp only [Array.toArray_toList]
    have := VRel.str (E := E) t.data.toList
    simpa using this
  · exact ⟨.nilp, rfl⟩
  · exact ⟨.nils, rfl⟩
  · exact ⟨.nilm, rfl⟩
  · exact ⟨.nilf, rfl⟩
  · exact ⟨.nili, rfl⟩
  · rename_i f g as cs
    simp only [Bool.and_eq_true,beq_iff_eq,Array.isEmpty_iff] at h
    obtain ⟨⟨rfl, rfl⟩, rfl⟩ := h
    exact ⟨.fn _ [] [] #[] #[] rfl rfl (fun i a v hi => by simp at hi) (fun i a v hi => by simp at hi), rfl⟩
  · cases h

theorem one1s_rel : ∀ {as : List AV} {bs : List Value}, one1s as bs = true → as.length = bs.length ∧ ∀ (i : Nat) x y, as[i]? = some x → bs[i]? = some y → VRel E x y ∧ x.one = true
  | [], [], _ => ⟨rfl, fun i x y hx => by simp at hx⟩
  | [], b :: bs, h => by simp [one1s] at h
  | a :: as, [], h => by simp [one1s] at h
  | a :: as, b :: bs, h => by
    simp only [one1s,Bool.and_eq_true] at h
    obtain ⟨h1, h2⟩ := one1s_rel h.2
    refine ⟨by simp [h1], fun i x y hx hy => ?_⟩
    cases i with
    | zero => simp at hx hy; subst hx; subst hy; exact one1_rel h.1
    | succ i => exact h2 i x y (by simpa using hx) (by simpa using hy)

theorem relC_rel {v : AV} {u : Value} (h : relC v u = true) : VRel E v u := by
  unfold relC at h
  split at h
  · rename_i as bs
    obtain ⟨h1, h2⟩ := one1s_rel (E := E) h
    refine .agg _ _ (by simpa using h1) (fun a ha => ?_) fun i x y hx hy => (h2 i x y hx (by simpa using hy)).1
    obtain ⟨i, hi, rfl⟩ := List.getElem_of_mem ha
    exact (h2 i _ _ (List.getElem?_eq_getElem hi) (List.getElem?_eq_getElem (h1 ▸ hi))).2
  · rename_i bs
    have : bs = #[] := by simpa using h
    subst this
    exact .tup _ _ rfl fun i x y hx => by simp at hx
  · exact (one1_rel h).1

def Env.bare (E : Env) : Env := { E with n := 0 }

theorem Env.bare_le (E : Env) : E.bare.le E := ⟨Nat.zero_le _, fun _ _ => rfl, fun _ _ => rfl, fun _ _ _ h => h, rfl⟩
theorem Env.le.bare {E E' : Env} (hE : E.le E') : E.bare.le E'.bare := ⟨Nat.le_refl _, fun id hi => absurd hi (Nat.not_lt_zero _), fun id hi => absurd hi (Nat.not_lt_zero _), hE.sg, hE.cd⟩

def GOk (E : Env) (GT : GTab) : Prop := (∀ g v, GT.g g = some v → VRel E.bare (.iptr v) (.pointer (some ⟨g, 0, none⟩))) ∧ E.cd = GT.cd

theorem GOk.mono {E' : Env} (hE : E.le E') (hG : GOk E GT) : GOk E' GT := ⟨fun g v hv => (hG.1 g v hv).mono hE.bare, hE.cd.trans hG.2⟩
theorem GOk.bare (hG : GOk E GT) : GOk E.bare GT := ⟨hG.1, hG.2⟩

theorem okX_rel (hG : GOk E GT) {x : AX} {y : Operand} (hk : okX GT x y = true) : XRel E a x y := by
  unfold okX at hk
  split at hk
  · simp at hk; subst hk; rfl
  · exact relC_rel hk
  · simp at hk; subst hk
    exact .fn _ [] [] #[] #[] rfl rfl (fun i a v hi => by simp at hi) (fun i a v hi => by simp at hi)
  · split at hk
    · rename_i v' hg
      rw [← same2_eq hk]
      exact (hG.1 _ _ hg).mono E.bare_le
    · cases hk
  · cases hk

theorem okO_rel (hG : GOk E GT) {x : Option AX} {y : Option Operand} (hk : okO GT x y = true) : XOpt E a x y := by
  unfold okO at hk
  split at hk
  · trivial
  · exact okX_rel hG hk
  · cases hk

theorem okXs_rel (hG : GOk E GT) : ∀ {xs : List AX} {ys : List Operand}, okXs GT xs ys = true → XRels E a xs ys
  | [], [], _ => ⟨rfl, fun i x y hx => by simp at hx⟩
  | [], b :: bs, h => by simp [okXs] at h
  | a :: as, [], h => by simp [okXs] at h
  | x :: xs, y :: ys, h => by
    simp only [okXs,Bool.and_eq_true] at h
    obtain ⟨h1, h2⟩ := okXs_rel hG h.2
    refine ⟨by simp [h1], fun i x y hx hy => ?_⟩
    cases i with
    | zero => simp at hx hy; subst hx; subst hy; exact okX_rel hG h.1
    | succ i => exact h2 i x y (by simpa using hx) (by simpa using hy)

theorem okSz_sz {t : TypeId} {n : Nat} (hk : okSz P t n = true) : Sz P t n := by
  unfold okSz at hk
  split at hk
  · rename_i i hi
    exact ⟨i, hi, by simpa using hk⟩
  · cases hk

theorem okTy_ty {t : TypeId} {agg : Bool} {n : Nat} (hk : okTy P t agg n = true) : Ty P t agg n := by
  unfold okTy at hk
  simp only [Bool.and_eq_true] at hk
  obtain ⟨h1, h2⟩ := hk
  split at h2
  · rename_i d hd
    have : aggD d = agg := by simpa using h2
    rw [← this]
    exact .of hd (okSz_sz h1)
  · cases h2

theorem okZ_zero (E : Env) {t : TypeId} {z : AV} {n : Nat} (hk : okZ P t z n = true) : ∃ i u, P.info? t = some i ∧ i.size = n ∧ i.zero = some u ∧ VRel E z u ∧ z.notTup = true ∧ z.cells.length = n := by
  unfold okZ at hk
  split at hk
  · rename_i i hi
    simp only [Bool.and_eq_true,beq_iff_eq] at hk
    obtain ⟨⟨⟨h1, h2⟩, h3⟩, h4⟩ := hk
    split at h4
    · rename_i u hu
      exact ⟨i, u, hi, h1, hu, relC_rel h4, h2, h3⟩
    · cases h4
  · cases hk

theorem okKs_ks {t : TypeId} {agg : Bool} {ks : List CK} (hk : okKs P t agg ks = true) : ∃ d, P.underlying t = some d ∧ aggD d = agg ∧ kinds P 10000 t = some ks := by
  unfold okKs at hk
  simp only [Bool.and_eq_true,beq_iff_eq] at hk
  obtain ⟨h1, h2⟩ := hk
  split at h1
  · rename_i d hd
    exact ⟨d, hd, by simpa using h1, h2⟩
  · cases h1

theorem isStr_of {t : TypeId} (hk : isStr P t = true) : P.underlying t = some .string := by
  unfold isStr at hk
  split at hk
  · assumption
  · cases hk

theorem isInt_of {t : TypeId} {k : IntKind} (hk : isInt P t k = true) : P.underlying t = some (.int k) := by
  unfold isInt at hk
  split at hk
  · rename_i j hj
    have : j = k := by simpa using hk
    rw [hj, this]
  · cases hk

theorem okParts_rel (hG : GOk E GT) {pl : Nat → Option (Nat × Nat)} : ∀ {xs : List (Nat × Nat × AX)} {ys : List (Nat × Operand)}, okParts GT pl xs ys = true → PartsOk E a pl xs ys
  | [], [], _ => ⟨rfl, fun i x y hx => by simp at hx⟩
  | [], b :: bs, h => by simp [okParts] at h
  | x :: xs, [], h => by simp [okParts] at h
  | (o, s, x) :: xs, (j, y) :: ys, h => by
    simp only [okParts,Bool.and_eq_true,beq_iff_eq] at h
    obtain ⟨h1, h2⟩ := okParts_rel hG h.2
    refine ⟨by simp [h1], fun i x y hx hy => ?_⟩
    cases i with
    | zero => simp at hx hy; subst hx; subst hy; exact ⟨h.1.1, okX_rel hG h.1.2⟩
    | succ i => exact h2 i x y (by simpa using hx) (by simpa using hy)

theorem okPartsE_rel (hG : GOk E GT) : ∀ {xs : List (Nat × AX)} {ys : List (Nat × Operand)}, okPartsE GT xs ys = true → PartsE E a xs ys
  | [], [], _ => ⟨rfl, fun i x y hx => by simp at hx⟩
  | [], b :: bs, h => by simp [okPartsE] at h
  | x :: xs, [], h => by simp [okPartsE] at h
  | (o, x) :: xs, (j, y) :: ys, h => by
    simp only [okPartsE,Bool.and_eq_true,beq_iff_eq] at h
    obtain ⟨h1, h2⟩ := okPartsE_rel hG h.2
    refine ⟨by simp [h1], fun i x y hx hy => ?_⟩
    cases i with
    | zero => simp at hx hy; subst hx; subst hy; exact ⟨h.1.1, okX_rel hG h.1.2⟩
    | succ i => exact h2 i x y (by simpa using hx) (by simpa using hy)

theorem okApp_app {t xt : TypeId} {size bytes : Nat} (hk : okApp P t xt size bytes = true) : ∃ e, AppT P t xt e size bytes := by
  unfold okApp at hk
  split at hk
  · rename_i e d h1 h2
    simp only [Bool.and_eq_true,decide_eq_true_eq] at hk
    obtain ⟨⟨⟨k1, k2⟩, k3⟩, k4⟩ := hk
    split at k4
    · rename_i i hi
      simp only [Bool.and_eq_true,beq_iff_eq] at k4
      obtain ⟨⟨k4, k5⟩, k6⟩ := k4
      split at k6
      · rename_i zv hz
        exact ⟨e, h1, ⟨d, h2, fun k e => by subst e; simp at k1⟩, ⟨i, zv, hi, k4, k5, hz, by simpa using k6⟩, k2, k3⟩
      · cases k6
    · cases k4
  · cases hk

theorem okNil_nk {k : NK} {d : TypeDesc} {z : Operand} (hk : okNil k d z = true) : nkD k d ∧ nkV k (a.eval z) := by
  unfold okNil at hk
  split at hk <;> first
    | exact ⟨⟨_, rfl⟩, rfl⟩
    | exact ⟨⟨_, rfl⟩, _, _, rfl⟩
    | exact ⟨⟨_, _, rfl⟩, rfl⟩
    | exact ⟨⟨_, _, _, rfl⟩, rfl⟩
    | cases hk
end
end Go.Im

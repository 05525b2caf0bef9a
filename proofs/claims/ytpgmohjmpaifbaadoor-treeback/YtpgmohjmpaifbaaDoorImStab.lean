/- ImStab: the plain law of merging in place: parts that change places, rotations, what is sorted behind them. -/
import Derived.Sort.LotA
set_option linter.unusedVariables false
set_option linter.unusedSectionVars false
namespace Go.Im
open Go.Sort
section
variable {α : Type} [Inhabited α] {lt : α → α → Bool} {a b m n i j : Nat} {d d' d2 dT : Array α}

structure SwR (a b n : Nat) (d d' : Array α) : Prop where
  size : d'.size = d.size
  get : ∀ k, d'[k]! = if a ≤ k ∧ k < a + n then d[k - a + b]! else if b ≤ k ∧ k < b + n then d[k - b + a]! else d[k]!
  perm : ∀ x y, x ≤ a → b + n ≤ y → y ≤ d.size → PermIn x y d d'

theorem SwR.zero : SwR a b 0 d d := by
  refine ⟨rfl, fun k => ?_, fun _ _ _ _ _ => permIn_refl _ _ _⟩
  rw [if_neg (by omega), if_neg (by omega)]

theorem SwR.succ (hs : SwR a b i d d') (hab : a + i + 1 ≤ b) (hb : b + i < d.size) : SwR a b (i + 1) d (swp d' (a + i) (b + i)) := by
  have hsz := hs.size
  refine ⟨by rw [swp_size, hsz], fun k => ?_, fun x y hx hy hz => ?_⟩
  · rw [swp_get d' (by omega) (by omega), hs.get, hs.get, hs.get]
    by_cases h1 : k = b + i
    · subst h1
      rw [if_pos rfl, if_neg (by omega), if_neg (by omega), if_neg (by omega), if_pos (by omega)]
      congr 1; omega
    · rw [if_neg h1]
      by_cases h2 : k = a + i
      · subst h2
        rw [if_pos rfl, if_neg (by omega), if_neg (by omega), if_pos (by omega)]
        congr 1; omega
      · rw [if_neg h2]
        by_cases h3 : a ≤ k ∧ k < a + i
        · rw [if_pos h3, if_pos (by omega)]
        · rw [if_neg h3, if_neg (show ¬ (a ≤ k ∧ k < a + (i + 1)) by omega)]
          by_cases h4 : b ≤ k ∧ k < b + i
          · rw [if_pos h4, if_pos (by omega)]
          · rw [if_neg h4, if_neg (by omega)]
  · exact permIn_trans _ _ _ _ _ (hs.perm x y hx (by omega) hz) (swp_permIn _ _ _ _ _ (by omega) (by omega) (by omega) (by omega) (by omega))

structure Rot (a m b : Nat) (d d' : Array α) : Prop where
  size : d'.size = d.size
  get : ∀ k, d'[k]! = if a ≤ k ∧ k < a + (b - m) then d[k - a + m]! else if a + (b - m) ≤ k ∧ k < b then d[k - (b - m)]! else d[k]!
  perm : PermIn a b d d'

theorem Rot.idl (hb : a ≤ b) : Rot a a b d d := by
  refine ⟨rfl, fun k => ?_, permIn_refl _ _ _⟩
  by_cases h : a ≤ k ∧ k < a + (b - a)
  · rw [if_pos h]; congr 1; omega
  · rw [if_neg h, if_neg (by omega)]
theorem Rot.idr (hb : a ≤ b) : Rot a b b d d := by
  refine ⟨rfl, fun k => ?_, permIn_refl _ _ _⟩
  rw [if_neg (by omega), Nat.sub_self, Nat.sub_zero, ite_self]

theorem Rot.eq (hs : SwR (m - i) m i d d') (hi : i ≤ m) (hb : m + i ≤ d.size) : Rot (m - i) m (m + i) d d' := by
  refine ⟨hs.size, fun k => ?_, hs.perm _ _ (by omega) (by omega) hb⟩
  rw [hs.get]
  by_cases h1 : m - i ≤ k ∧ k < m - i + i
  · rw [if_pos h1, if_pos (by omega)]
  · rw [if_neg h1]
    by_cases h2 : m ≤ k ∧ k < m + i
    · rw [if_pos h2, if_neg (by omega), if_pos (by omega)]; congr 1; omega
    · rw [if_neg h2, if_neg (by omega), if_neg (by omega)]

theorem Rot.gt (hs : SwR (m - i) m j d d2) (hr : Rot (m - (i - j)) m (m + j) d2 dT) (hij : j < i) (hi : i ≤ m) (hb : m + j ≤ d.size) : Rot (m - i) m (m + j) d dT := by
  refine ⟨by rw [hr.size, hs.size], fun k => ?_, permIn_trans _ _ _ _ _ (hs.perm _ _ (by omega) (by omega) hb) (permIn_mono _ _ _ _ _ _ (by omega) (by omega) (by rw [hs.size]; exact hb) hr.perm)⟩
  rw [hr.get]
  by_cases h1 : m - (i - j) ≤ k ∧ k < m - (i - j) + (m + j - m)
  · rw [if_pos h1, hs.get, if_neg (by omega), if_pos (by omega), if_neg (by omega), if_pos (by omega)]
    congr 1; omega
  · rw [if_neg h1]
    by_cases h2 : m - (i - j) + (m + j - m) ≤ k ∧ k < m + j
    · rw [if_pos h2, hs.get, if_neg (by omega), if_neg (by omega), if_neg (by omega), if_pos (by omega)]
    · rw [if_neg h2, hs.get]
      by_cases h3 : m - i ≤ k ∧ k < m - i + j
      · rw [if_pos h3, if_pos (by omega)]
      · rw [if_neg h3, if_neg (by omega), if_neg (by omega), if_neg (by omega)]

theorem Rot.small (hs : SwR (m - i) (m + j - i) i d d2) (hr : Rot (m - i) m (m + (j - i)) d2 dT) (hij : i < j) (hi : i ≤ m) (hb : m + j ≤ d.size) : Rot (m - i) m (m + j) d dT := by
  refine ⟨by rw [hr.size, hs.size], fun k => ?_, permIn_trans _ _ _ _ _ (hs.perm _ _ (by omega) (by omega) hb) (permIn_mono _ _ _ _ _ _ (by omega) (by omega) (by rw [hs.size]; exact hb) hr.perm)⟩
  rw [hr.get]
  by_cases h1 : m - i ≤ k ∧ k < m - i + (m + (j - i) - m)
  · rw [if_pos h1, hs.get, if_neg (by omega), if_neg (by omega), if_pos (by omega)]
  · rw [if_neg h1]
    by_cases h2 : m - i + (m + (j - i) - m) ≤ k ∧ k < m + (j - i)
    · rw [if_pos h2, hs.get, if_pos (by omega)]
      by_cases h3 : m - i ≤ k ∧ k < m - i + (m + j - m)
      · rw [if_pos h3]; congr 1; omega
      · omega
    · rw [if_neg h2, hs.get, if_neg (by omega)]
      by_cases h3 : m + j - i ≤ k ∧ k < m + j - i + i
      · rw [if_pos h3, if_neg (by omega), if_pos (by omega)]; congr 1; omega
      · rw [if_neg h3, if_neg (by omega), if_neg (by omega)]

theorem SortedIn.le (hS : SWO lt) (h : SortedIn lt a b d) (h1 : a ≤ i) (h2 : i ≤ j) (h3 : j < b) : lt d[j]! d[i]! = false := by
  by_cases e : i = j
  · subst e; exact hS.irrefl _
  · exact h i j h1 (by omega) h3

theorem SortedIn.join (hS : SWO lt) (h1 : SortedIn lt a m d) (h2 : SortedIn lt m b d) (hc : ∀ i j, a ≤ i → i < m → m ≤ j → j < b → lt d[j]! d[i]! = false) : SortedIn lt a b d := by
  intro i j hi hij hj
  by_cases h : j < m
  · exact h1 i j hi hij h
  · by_cases h' : i < m
    · exact hc i j hi h' (by omega) hj
    · exact h2 i j (by omega) hij hj

def Cross (lt : α → α → Bool) (a m b : Nat) (d : Array α) : Prop := ∀ i j, a ≤ i → i < m → m ≤ j → j < b → lt d[j]! d[i]! = false

theorem Cross.left (hc : Cross lt a m b d) (hp : PermIn a m d d') (hm : m ≤ b) (hb : b ≤ d.size) : Cross lt a m b d' := by
  have := permIn_all d d' a m (fun x => ∀ j, m ≤ j → j < b → lt d[j]! x = false) (by omega) hp fun i h1 h2 j h3 h4 => hc i j h1 h2 h3 h4
  intro i j h1 h2 h3 h4
  rw [hp.2.1 j (by omega)]
  exact this i h1 h2 j h3 h4
theorem Cross.right (hc : Cross lt a m b d) (hp : PermIn m b d d') (hm : m ≤ b) (hb : b ≤ d.size) : Cross lt a m b d' := by
  have := permIn_all d d' m b (fun x => ∀ i, a ≤ i → i < m → lt x d[i]! = false) (by omega) hp fun j h1 h2 i h3 h4 => hc i j h3 h4 h1 h2
  intro i j h1 h2 h3 h4
  rw [hp.2.1 i (by omega)]
  exact this j h3 h4 i h1 h2

theorem SortedIn.other {x y : Nat} (h : SortedIn lt a b d) (hp : PermIn x y d d') (ho : b ≤ x ∨ y ≤ a) : SortedIn lt a b d' := by
  intro i j h1 h2 h3
  rw [hp.2.1 i (by omega), hp.2.1 j (by omega)]
  exact h i j h1 h2 h3

structure Split (lt : α → α → Bool) (a s mid t b : Nat) (d : Array α) : Prop where
  p1 : SortedIn lt a s d
  p2 : SortedIn lt s mid d
  p3 : SortedIn lt mid t d
  p4 : SortedIn lt t b d
  cross : Cross lt a mid b d

theorem split_of (hS : SWO lt) {s lo r0 mid : Nat} (h1 : SortedIn lt a m d) (h2 : SortedIn lt m b d) (ham : a < m) (hmb : m < b)
    (hmid : mid = (a + b) / 2) (hlo : lo = if mid < m then mid + m - b else a) (hr0 : r0 = if mid < m then mid else m) (hls : lo ≤ s) (hsr : s ≤ r0)
    (hL : ∀ c, lo ≤ c → c < s → lt d[mid + m - 1 - c]! d[c]! = false) (hR : ∀ c, s ≤ c → c < r0 → lt d[mid + m - 1 - c]! d[c]! = true)
    (hr : Rot s m (mid + m - s) d d') : a ≤ s ∧ s ≤ m ∧ m ≤ mid + m - s ∧ mid + m - s ≤ b ∧ s ≤ mid ∧ mid ≤ mid + m - s ∧ Split lt a s mid (mid + m - s) b d' := by
  have hb : a ≤ s ∧ s ≤ m ∧ m ≤ mid + m - s ∧ mid + m - s ≤ b ∧ s ≤ mid ∧ mid ≤ mid + m - s := by
    split at hlo <;> split at hr0 <;> omega
  obtain ⟨b1, b2, b3, b4, b5, b6⟩ := hb
  refine ⟨b1, b2, b3, b4, b5, b6, ?_⟩
  have g1 : ∀ k, k < s → d'[k]! = d[k]! := fun k hk => by rw [hr.get, if_neg (by omega), if_neg (by omega)]
  have g2 : ∀ k, s ≤ k → k < mid → d'[k]! = d[k - s + m]! := fun k h3 h4 => by rw [hr.get, if_pos (by omega)]
  have g3 : ∀ k, mid ≤ k → k < mid + m - s → d'[k]! = d[k - (mid - s)]! := fun k h3 h4 => by
    rw [hr.get, if_neg (by omega), if_pos (by omega)]; congr 1; omega
  have g4 : ∀ k, mid + m - s ≤ k → d'[k]! = d[k]! := fun k hk => by rw [hr.get, if_neg (by omega), if_neg (by omega)]
  refine ⟨?_, ?_, ?_, ?_, ?_⟩
  · intro i j hi hij hj
    rw [g1 i (by omega), g1 j (by omega)]; exact h1 i j hi hij (by omega)
  · intro i j hi hij hj
    rw [g2 i (by omega) (by omega), g2 j (by omega) (by omega)]; exact h2 _ _ (by omega) (by omega) (by omega)
  · intro i j hi hij hj
    rw [g3 i (by omega) (by omega), g3 j (by omega) (by omega)]; exact h1 _ _ (by omega) (by omega) (by omega)
  · intro i j hi hij hj
    rw [g4 i (by omega), g4 j (by omega)]; exact h2 _ _ (by omega) (by omega) (by omega)
  · intro i j hi1 hi2 hj1 hj2
    by_cases hi : i < s
    · rw [g1 i hi]
      by_cases hj : j < mid + m - s
      · rw [g3 j hj1 hj]
        exact SortedIn.le hS h1 hi1 (by omega) (by omega)
      · rw [g4 j (by omega)]
        have hs : lo < s := by split at hlo <;> omega
        have e := hL (s - 1) (by omega) (by omega)
        have e1 : lt d[s - 1]! d[i]! = false := SortedIn.le hS h1 hi1 (by omega) (by omega)
        have e2 : lt d[j]! d[mid + m - 1 - (s - 1)]! = false := SortedIn.le hS h2 (by omega) (by omega) (by omega)
        exact hS.ntrans _ _ _ e2 (hS.ntrans _ _ _ e e1)
    · rw [g2 i (by omega) hi2]
      by_cases hj : j < mid + m - s
      · rw [g3 j hj1 hj]
        have hs : s < r0 := by split at hr0 <;> omega
        have e := hS.asymmA (hR s (Nat.le_refl _) hs)
        have e1 : lt d[mid + m - 1 - s]! d[i - s + m]! = false := SortedIn.le hS h2 (by omega) (by omega) (by omega)
        have e2 : lt d[j - (mid - s)]! d[s]! = false := SortedIn.le hS h1 (by omega) (by omega) (by omega)
        exact hS.ntrans _ _ _ e2 (hS.ntrans _ _ _ e e1)
      · rw [g4 j (by omega)]
        exact SortedIn.le hS h2 (by omega) (by omega) (by omega)

theorem search_f (hS : SWO lt) {p lo c : Nat} (h1 : SortedIn lt a m d) (h2 : SortedIn lt m b d) (hp : p ≤ b + lo - 1) (hlb : 0 < b + lo) (hal : a ≤ lo) (hcm : c < m) (hpc : m ≤ p - c) (ht : lt d[p - c]! d[c]! = false) : ∀ k, lo ≤ k → k ≤ c → lt d[p - k]! d[k]! = false := by
  intro k h3 h4
  have e1 : lt d[c]! d[k]! = false := SortedIn.le hS h1 (by omega) h4 hcm
  have e2 : lt d[p - k]! d[p - c]! = false := SortedIn.le hS h2 hpc (by omega) (by omega)
  exact hS.ntrans _ _ _ e2 (hS.ntrans _ _ _ ht e1)
theorem search_t (hS : SWO lt) {p r0 c : Nat} (h1 : SortedIn lt a m d) (h2 : SortedIn lt m b d) (hrm : r0 ≤ m) (hac : a ≤ c) (hpb : p - c < b) (hpr : ∀ k, k < r0 → m ≤ p - k) (ht : lt d[p - c]! d[c]! = true) : ∀ k, c ≤ k → k < r0 → lt d[p - k]! d[k]! = true := by
  intro k h3 h4
  cases hx : lt d[p - k]! d[k]! with
  | true => rfl
  | false =>
    have e1 : lt d[k]! d[c]! = false := SortedIn.le hS h1 hac h3 (by omega)
    have e2 : lt d[p - c]! d[p - k]! = false := SortedIn.le hS h2 (hpr k h4) (by omega) hpb
    have := hS.ntrans _ _ _ e2 (hS.ntrans _ _ _ hx e1)
    rw [ht] at this; cases this

structure Up (a i : Nat) (d d' : Array α) : Prop where
  size : d'.size = d.size
  get : ∀ k, d'[k]! = if k = i then d[a]! else if a ≤ k ∧ k < i then d[k + 1]! else d[k]!
  perm : PermIn a (i + 1) d d'
theorem Up.zero : Up a a d d := ⟨rfl, fun k => by
  by_cases h : k = a
  · subst h; rw [if_pos rfl]
  · rw [if_neg h, if_neg (by omega)], permIn_refl _ _ _⟩
theorem Up.succ (hu : Up a i d d') (hai : a ≤ i) (hi : i + 1 < d.size) : Up a (i + 1) d (swp d' i (i + 1)) := by
  have hsz := hu.size
  refine ⟨by rw [swp_size, hsz], fun k => ?_, permIn_trans _ _ _ _ _ (permIn_mono _ _ _ _ _ _ (by omega) (by omega) (by omega) hu.perm) (swp_permIn _ _ _ _ _ (by omega) (by omega) (by omega) (by omega) (by omega))⟩
  rw [swp_get d' (by omega) (by omega), hu.get, hu.get, hu.get]
  by_cases h1 : k = i + 1
  · rw [if_pos h1, if_pos h1, if_pos rfl]
  · rw [if_neg h1, if_neg h1]
    by_cases h2 : k = i
    · subst h2
      rw [if_pos rfl, if_neg (by omega), if_neg (by omega), if_pos (by omega)]
    · rw [if_neg h2, if_neg h2]
      by_cases h3 : a ≤ k ∧ k < i
      · rw [if_pos h3, if_pos (by omega)]
      · rw [if_neg h3, if_neg (by omega)]
theorem Up.sorted (hS : SWO lt) (hu : Up a i d d') (hai : a ≤ i) (hib : i < b) (h2 : SortedIn lt (a + 1) b d) (hl : ∀ k, a < k → k ≤ i → lt d[k]! d[a]! = true) (hr : ∀ k, i < k → k < b → lt d[k]! d[a]! = false) : SortedIn lt a b d' := by
  intro p q h3 h4 h5
  rw [hu.get, hu.get]
  by_cases e1 : q = i
  · subst e1
    rw [if_pos rfl, if_neg (by omega), if_pos (by omega)]
    exact hS.asymmA (hl _ (by omega) (by omega))
  · rw [if_neg e1]
    by_cases e2 : p = i
    · subst e2
      rw [if_pos rfl, if_neg (by omega)]
      exact hr q (by omega) h5
    · rw [if_neg e2]
      by_cases e3 : a ≤ q ∧ q < i
      · rw [if_pos e3, if_pos (by omega)]
        exact h2 _ _ (by omega) (by omega) (by omega)
      · rw [if_neg e3]
        by_cases e4 : a ≤ p ∧ p < i
        · rw [if_pos e4]; exact h2 _ _ (by omega) (by omega) (by omega)
        · rw [if_neg e4]; exact h2 _ _ (by omega) (by omega) (by omega)

structure Dn (i m : Nat) (d d' : Array α) : Prop where
  size : d'.size = d.size
  get : ∀ k, d'[k]! = if k = i then d[m]! else if i < k ∧ k ≤ m then d[k - 1]! else d[k]!
  perm : PermIn i (m + 1) d d'
theorem Dn.zero : Dn m m d d := ⟨rfl, fun k => by
  by_cases h : k = m
  · subst h; rw [if_pos rfl]
  · rw [if_neg h, if_neg (by omega)], permIn_refl _ _ _⟩
theorem Dn.succ (hu : Dn (i + 1) m d d') (hai : i + 1 ≤ m) (hi : m < d.size) : Dn i m d (swp d' (i + 1) i) := by
  have hsz := hu.size
  refine ⟨by rw [swp_size, hsz], fun k => ?_, permIn_trans _ _ _ _ _ (permIn_mono _ _ _ _ _ _ (by omega) (by omega) (by omega) hu.perm) (swp_permIn _ _ _ _ _ (by omega) (by omega) (by omega) (by omega) (by omega))⟩
  rw [swp_get d' (by omega) (by omega), hu.get, hu.get, hu.get]
  by_cases h1 : k = i
  · rw [if_pos h1, if_pos h1, if_pos rfl]
  · rw [if_neg h1, if_neg h1]
    by_cases h2 : k = i + 1
    · subst h2
      rw [if_pos rfl, if_neg (by omega), if_neg (by omega), if_pos (by omega)]
      congr 1
    · rw [if_neg h2, if_neg h2]
      by_cases h3 : i + 1 < k ∧ k ≤ m
      · rw [if_pos h3, if_pos (by omega)]
      · rw [if_neg h3, if_neg (by omega)]
theorem Dn.sorted (hS : SWO lt) (hu : Dn i m d d') (hai : a ≤ i) (him : i ≤ m) (h2 : SortedIn lt a m d) (hl : ∀ k, a ≤ k → k < i → lt d[m]! d[k]! = false) (hr : ∀ k, i ≤ k → k < m → lt d[m]! d[k]! = true) : SortedIn lt a (m + 1) d' := by
  intro p q h3 h4 h5
  rw [hu.get, hu.get]
  by_cases e1 : q = i
  · subst e1
    rw [if_pos rfl, if_neg (by omega), if_neg (by omega)]
    exact hl _ (by omega) (by omega)
  · rw [if_neg e1]
    by_cases e2 : p = i
    · subst e2
      rw [if_pos rfl, if_pos (by omega)]
      exact hS.asymmA (hr _ (by omega) (by omega))
    · rw [if_neg e2]
      by_cases e3 : i < q ∧ q ≤ m
      · rw [if_pos e3]
        by_cases e4 : i < p ∧ p ≤ m
        · rw [if_pos e4]; exact h2 _ _ (by omega) (by omega) (by omega)
        · rw [if_neg e4]; exact h2 _ _ (by omega) (by omega) (by omega)
      · rw [if_neg e3, if_neg (by omega)]; exact h2 _ _ (by omega) (by omega) (by omega)

def Blocks (lt : α → α → Bool) (s n : Nat) (d : Array α) : Prop := ∀ i, i * s < n → SortedIn lt (i * s) (min ((i + 1) * s) n) d
end
end Go.Im

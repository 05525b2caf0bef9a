/- ImStab: the plain law of merging in place: parts that change places, rotations, what is sorted behind them. -/
import Derived.Sort.LotA
set_option linter.unusedVariables false
set_option linter.unusedSectionVars false
namespace Go.Im
open Go.Sort
section
variable {α : Type} [Inhabited α] {lt : α → α → Bool} {a b m n i j : Nat} {d d' d2 dT : Array α}

structure SwR (a b n : Nat) (d d' : Array α) : Prop where
  size : d'.size = d.size
  get : ∀ k, d'[k]! = if a ≤ k ∧ k < a + n then d[k - a + b]! else if b ≤ k ∧ k < b + n then d[k - b + a]! else d[k]!
  perm : ∀ x y, x ≤ a → b + n ≤ y → y ≤ d.size → PermIn x y d d'

theorem SwR.zero : SwR a b 0 d d := by
  refine ⟨rfl, fun k => ?_, fun _ _ _ _ _ => permIn_refl _ _ _⟩
  rw [if_neg (by omega), if_neg (by omega)]

theorem SwR.succ (hs : SwR a b i d d') (hab : a + i + 1 ≤ b) (hb : b + i < d.size) : SwR a b (i + 1) d (swp d' (a + i) (b + i)) := by
  have hsz := hs.size
  refine ⟨by rw [swp_size, hsz], fun k => ?_, fun x y hx hy hz => ?_⟩
  · rw [swp_get d' (by omega) (by omega), hs.get, hs.get, hs.get]
    by_cases h1 : k = b + i
    · subst h1
      rw [if_pos rfl, if_neg (by omega), if_neg (by omega), if_neg (by omega), if_pos (by omega)]
      congr 1; omega
    · rw [if_neg h1]
      by_cases h2 : k = a + i
      · subst h2
        rw [if_pos rfl, if_neg (by omega), if_neg (by omega), if_pos (by omega)]
        congr 1; omega
      · rw [if_neg h2]
        by_cases h3 : a ≤ k ∧ k < a + i
        · rw [if_pos h3, if_pos (by omega)]
        · rw [if_neg h3, if_neg (show ¬ (a ≤ k ∧ k < a + (i + 1)) by omega)]
          by_cases h4 : b ≤ k ∧ k < b + i
          · rw [if_pos h4, if_pos (by omega)]
          · rw [if_neg h4, if_neg (by omega)]
  · exact permIn_trans _ _ _ _ _ (hs.perm x y hx (by omega) hz) (swp_permIn _ _ _ _ _ (by omega) (by omega) (by omega) (by omega) (by omega))

structure Rot (a m b : Nat) (d d' : Array α) : Prop where
  size : d'.size = d.size
  get : ∀ k, d'[k]! = if a ≤ k ∧ k < a + (b - m) then d[k - a + m]! else if a + (b - m) ≤ k ∧ k < b then d[k - (b - m)]! else d[k]!
  perm : PermIn a b d d'

theorem Rot.eq (hs : SwR (m - i) m i d d') (hi : i ≤ m) (hb : m + i ≤ d.size) : Rot (m - i) m (m + i) d d' := by
  refine ⟨hs.size, fun k => ?_, hs.perm _ _ (by omega) (by omega) hb⟩
  rw [hs.get]
  by_cases h1 : m - i ≤ k ∧ k < m - i + i
  · rw [if_pos h1, if_pos (by omega)]
  · rw [if_neg h1]
    by_cases h2 : m ≤ k ∧ k < m + i
    · rw [if_pos h2, if_neg (by omega), if_pos (by omega)]; congr 1; omega
    · rw [if_neg h2, if_neg (by omega), if_neg (by omega)]

theorem SortedIn.le (hS : SWO lt) (h : SortedIn lt a b d) (h1 : a ≤ i) (h2 : i ≤ j) (h3 : j < b) : lt d[j]! d[i]! = false := by
  by_cases e : i = j
  · subst e; exact hS.irrefl _
  · exact h i j h1 (by omega) h3

def Cross (lt : α → α → Bool) (a m b : Nat) (d : Array α) : Prop := ∀ i j, a ≤ i → i < m → m ≤ j → j < b → lt d[j]! d[i]! = false

theorem Cross.left (hc : Cross lt a m b d) (hp : PermIn a m d d') (hm : m ≤ b) (hb : b ≤ d.size) : Cross lt a m b d' := by
  have := permIn_all d d' a m (fun x => ∀ j, m ≤ j → j < b → lt d[j]! x = false) (by omega) hp fun i h1 h2 j h3 h4 => hc i j h1 h2 h3 h4
  intro i j h1 h2 h3 h4
  rw [hp.2.1 j (by omega)]
  exact this i h1 h2 j h3 h4
theorem Cross.right (hc : Cross lt a m b d) (hp : PermIn m b d d') (hm : m ≤ b) (hb : b ≤ d.size) : Cross lt a m b d' := by
  have := permIn_all d d' m b (fun x => ∀ i, a ≤ i → i < m → lt x d[i]! = false) (by omega) hp fun j h1 h2 i h3 h4 => hc i j h3 h4 h1 h2
  intro i j h1 h2 h3 h4
  rw [hp.2.1 i (by omega)]
  exact this j h3 h4 i h1 h2

theorem SortedIn.other {x y : Nat} (h : SortedIn lt a b d) (hp : PermIn x y d d') (ho : b ≤ x ∨ y ≤ a) : SortedIn lt a b d' := by
  intro i j h1 h2 h3
  rw [hp.2.1 i (by omega), hp.2.1 j (by omega)]
  exact h i j h1 h2 h3

structure Up (a i : Nat) (d d' : Array α) : Prop where
  size : d'.size = d.size
  get : ∀ k, d'[k]! = if k = i then d[a]! else if a ≤ k ∧ k < i then d[k + 1]! else d[k]!
  perm : PermIn a (i + 1) d d'
theorem Up.zero : Up a a d d := ⟨rfl, fun k => by
  by_cases h : k = a
  · subst h; rw [if_pos rfl]
  · rw [if_neg h, if_neg (by omega)], permIn_refl _ _ _⟩
theorem Up.succ (hu : Up a i d d') (hai : a ≤ i) (hi : i + 1 < d.size) : Up a (i + 1) d (swp d' i (i + 1)) := by
  have hsz := hu.size
  refine ⟨by rw [swp_size, hsz], fun k => ?_, permIn_trans _ _ _ _ _ (permIn_mono _ _ _ _ _ _ (by omega) (by omega) (by omega) hu.perm) (swp_permIn _ _ _ _ _ (by omega) (by omega) (by omega) (by omega) (by omega))⟩
  rw [swp_get d' (by omega) (by omega), hu.get, hu.get, hu.get]
  by_cases h1 : k = i + 1
  · rw [if_pos h1, if_pos h1, if_pos rfl]
  · rw [if_neg h1, if_neg h1]
    by_cases h2 : k = i
    · subst h2
      rw [if_pos rfl, if_neg (by omega), if_neg (by omega), if_pos (by omega)]
    · rw [if_neg h2, if_neg h2]
      by_cases h3 : a ≤ k ∧ k < i
      · rw [if_pos h3, if_pos (by omega)]
      · rw [if_neg h3, if_neg (by omega)]
structure Dn (i m : Nat) (d d' : Array α) : Prop where
  size : d'.size = d.size
  get : ∀ k, d'[k]! = if k = i then d[m]! else if i < k ∧ k ≤ m then d[k - 1]! else d[k]!
  perm : PermIn i (m + 1) d d'
theorem Dn.zero : Dn m m d d := ⟨rfl, fun k => by
  by_cases h : k = m
  · subst h; rw [if_pos rfl]
  · rw [if_neg h, if_neg (by omega)], permIn_refl _ _ _⟩
theorem Dn.succ (hu : Dn (i + 1) m d d') (hai : i + 1 ≤ m) (hi : m < d.size) : Dn i m d (swp d' (i + 1) i) := by
  have hsz := hu.size
  refine ⟨by rw [swp_size, hsz], fun k => ?_, permIn_trans _ _ _ _ _ (permIn_mono _ _ _ _ _ _ (by omega) (by omega) (by omega) hu.perm) (swp_permIn _ _ _ _ _ (by omega) (by omega) (by omega) (by omega) (by omega))⟩
  rw [swp_get d' (by omega) (by omega), hu.get, hu.get, hu.get]
  by_cases h1 : k = i
  · rw [if_pos h1, if_pos h1, if_pos rfl]
  · rw [if_neg h1, if_neg h1]
    by_cases h2 : k = i + 1
    · subst h2
      rw [if_pos rfl, if_neg (by omega), if_neg (by omega), if_pos (by omega)]
      congr 1
    · rw [if_neg h2, if_neg h2]
      by_cases h3 : i + 1 < k ∧ k ≤ m
      · rw [if_pos h3, if_pos (by omega)]
      · rw [if_neg h3, if_neg (by omega)]
end
end Go.Im

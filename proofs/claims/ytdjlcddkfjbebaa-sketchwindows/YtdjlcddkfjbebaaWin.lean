/- S18Win: bytes that are repeated have the windows of bytes that stand twice. -/
import Derived.Test.YtdjlcddkfjbebaaOf2
import Derived.Test.YtdjlcddkfjbebaaImApp
set_option linter.unusedVariables false
set_option linter.unusedSimpArgs false
open Go Go.Im
namespace Go.Proofs.Ytdjlcddkfjbebaa.Im

/-- m times. -/
def rep (d : List UInt8) : Nat → List UInt8
  | 0 => []
  | m + 1 => rep d m ++ d

theorem rep_len (d : List UInt8) : ∀ m, (rep d m).length = m * d.length
  | 0 => by simp [rep]
  | m + 1 => by simp [rep, rep_len d m, Nat.add_mul]
theorem rep_get (d : List UInt8) (hd : 0 < d.length) : ∀ (m i : Nat), i < m * d.length → (rep d m)[i]? = d[i % d.length]?
  | 0, i, h => by omega
  | m + 1, i, h => by
    simp only [rep]
    by_cases hi : i < m * d.length
    · rw [List.getElem?_append_left (by rw [rep_len]; exact hi), rep_get d hd m i hi]
    · rw [List.getElem?_append_right (by rw [rep_len]; omega), rep_len]
      rw [Nat.add_mul] at h
      congr 1
      rw [show i = (i - m * d.length) + m * d.length by omega, Nat.add_mul_mod_self_right, Nat.mod_eq_of_lt (by omega)]
      omega

theorem window_rep (d : List UInt8) (hd : 8 ≤ d.length) (m p : Nat) (hp : p + 8 ≤ m * d.length) : ((rep d m).drop p).take 8 = ((rep d 2).drop (p % d.length)).take 8 := by
  have hq : p % d.length < d.length := Nat.mod_lt _ (by omega)
  apply List.ext_getElem?
  intro t
  rw [List.getElem?_take, List.getElem?_take]
  by_cases ht : t < 8
  · rw [if_pos ht, if_pos ht, List.getElem?_drop, List.getElem?_drop, rep_get d (by omega) m _ (by omega), rep_get d (by omega) 2 _ (by omega)]
    congr 1
    rw [Nat.mod_add_mod]
  · rw [if_neg ht, if_neg ht]

theorem rowK_lo (bs : List UInt8) (n : Nat) (seed row : Int) : ∀ k, rowK bs n seed row k ≤ 4294967295 ∧ ∀ j, j < k → rowK bs n seed row k ≤ numS (sumS ((bs.drop j).take n)) seed row
  | 0 => ⟨Int.le_refl _, fun j hj => by omega⟩
  | k + 1 => by
    obtain ⟨h1, h2⟩ := rowK_lo bs n seed row k
    simp only [rowK]
    split
    · rename_i h
      refine ⟨by omega, fun j hj => ?_⟩
      by_cases hjk : j = k
      · subst hjk; exact Int.le_refl _
      · have := h2 j (by omega); omega
    · rename_i h
      refine ⟨h1, fun j hj => ?_⟩
      by_cases hjk : j = k
      · subst hjk; omega
      · exact h2 j (by omega)
theorem rowK_is (bs : List UInt8) (n : Nat) (seed row : Int) : ∀ k, rowK bs n seed row k = 4294967295 ∨ ∃ j, j < k ∧ rowK bs n seed row k = numS (sumS ((bs.drop j).take n)) seed row
  | 0 => .inl rfl
  | k + 1 => by
    simp only [rowK]
    split
    · exact .inr ⟨k, by omega, rfl⟩
    · rcases rowK_is bs n seed row k with h | ⟨j, h1, h2⟩
      · exact .inl h
      · exact .inr ⟨j, by omega, h2⟩
theorem rowK_le {as bs : List UInt8} {n : Nat} {seed row : Int} {k l : Nat} (h : ∀ j, j < k → ∃ i, i < l ∧ (as.drop j).take n = (bs.drop i).take n) : rowK bs n seed row l ≤ rowK as n seed row k := by
  rcases rowK_is as n seed row k with e | ⟨j, h1, e⟩
  · rw [e]; exact (rowK_lo bs n seed row l).1
  · obtain ⟨i, h2, h3⟩ := h j h1
    rw [e, h3]
    exact (rowK_lo bs n seed row l).2 i h2

theorem rows_rep (d : List UInt8) (hd : 8 ≤ d.length) (m : Nat) (hm : 2 ≤ m) (seed : Int) : rowsOf (rep d m) seed = rowsOf (rep d 2) seed := by
  funext r
  have l1 := rep_len d m
  have l2 := rep_len d 2
  have hmul : 2 * d.length ≤ m * d.length := Nat.mul_le_mul_right _ hm
  have w1 : wid (rep d m) = 8 := by unfold wid; rw [if_neg (by omega)]
  have w2 : wid (rep d 2) = 8 := by unfold wid; rw [if_neg (by omega)]
  unfold rowsOf many
  rw [if_neg (by omega), if_neg (by omega), w1, w2]
  apply Int.le_antisymm
  · refine rowK_le fun j hj => ⟨j, by omega, ?_⟩
    rw [window_rep d hd m j (by omega), window_rep d hd 2 j (by omega)]
  · refine rowK_le fun j hj => ⟨j % d.length, ?_, ?_⟩
    · have := Nat.mod_lt j (show d.length > 0 by omega)
      omega
    · rw [window_rep d hd m j (by omega)]

end Go.Proofs.Ytdjlcddkfjbebaa.Im

/- Joined: ImSort2, ImSort3, ImSort4, ImSort5, ImSort6, ImSort7, ImSort8, ImSort9. -/
import Derived.Test.YtabpndekmpjmhaaImSort1
import Derived.Sort.LotC
import Derived.Sort.LotA
import Derived.Sort.AssemblyPlain
/- ImSort2: slices.SortFunc at the idealised machine: insertion. -/
set_option linter.unusedVariables false
set_option linter.unusedSimpArgs false
set_option linter.unusedSectionVars false
namespace Go.Im
open Go.Sort

section
variable {α : Type} [Inhabited α] {F : Fns} {I : SortIds} {ag : Bool} {sz : Nat} {e : α → AV} {lt : α → α → Bool} {tot : Bool} {ω : Nat → Nat} {B : Nat} {g : FuncId} {fs caps : List AV} {h0 : Hp} {id : Nat} {pre post : List AV}

theorem insOuter_lt {a b i : Nat} {d : Array α} (h : i < b) : insOuter lt a b i d = insOuter lt a b (i + 1) (insInner lt a i d) := by rw [insOuter, if_pos h]
theorem insOuter_ge {a b i : Nat} {d : Array α} (h : ¬ i < b) : insOuter lt a b i d = d := by rw [insOuter, if_neg h]
theorem insInner_succ {a j : Nat} {d : Array α} : insInner lt a (j + 1) d = if decide (j + 1 > a) && lt d[j + 1]! d[j]! then insInner lt a j (swp d (j + 1) j) else d := rfl
theorem insInner_size (a : Nat) : ∀ (j : Nat) (d : Array α), (insInner lt a j d).size = d.size
  | 0, d => rfl
  | j + 1, d => by
    unfold insInner
    split
    · rw [insInner_size a j, swp_size]
    · rfl

theorem s_ins (C : Srt F I ag sz e lt tot ω B g fs caps h0 id pre post) (c : Bool) (d : Array α) (a b n : Nat) (h : Hp) (hd : d.size ≤ 1000000000) (ha : a ≤ b) (hb : b ≤ d.size)
    (hL : Lies h0 id sz (Full e pre post d) h) (hn : B + d.size + 5 < n) :
    ∃ h', call F n tot ω I.ins [.row id sz pre.length d.size c, .int .i64 a, .int .i64 b, .fn (.func g) fs caps] h = some (.tup [], h') ∧ Lies h0 id sz (Full e pre post (insertionSort lt d a b)) h' := by
  obtain ⟨n, rfl⟩ : ∃ m, n = m + 1 := ⟨n - 1, by omega⟩
  suffices hx : ∃ v h', call F (n + 1) tot ω I.ins [.row id sz pre.length d.size c, .int .i64 a, .int .i64 b, .fn (.func g) fs caps] h = some (v, h') ∧ v = .tup [] ∧ Lies h0 id sz (Full e pre post (insertionSort lt d a b)) h' by
    obtain ⟨v, h', e1, rfl, e2⟩ := hx
    exact ⟨h', e1, e2⟩
  refine call_of (fn := I.a_ins ag sz) C.fns.ins (P := fun v h' => v = .tup [] ∧ Lies h0 id sz (Full e pre post (insertionSort lt d a b)) h') ?_
  unfold SortIds.a_ins
  have hE := C.enc
  simp (maxSteps := 2000000) (discharger := omega) only [xz,xc,xo,xr,x0,x1,xd,Reg.isA,Reg.isV,Reg.stays,Reg.onto,↓reduceIte,reduceCtorEq,Nat.reduceEqDiff,Nat.reduceLT,Nat.reduceAdd,wrap_i64]
  refine wpi_loop (fun k r g' => ∃ (i : Nat) (d' : Array α), r = [(0, .val (.row id sz pre.length d.size c)), (1, .val (.int .i64 a)), (2, .val (.int .i64 b)), (3, .val (.fn (.func g) fs caps)), (8, .val (.int .i64 i))] ∧
    k = b - i ∧ a < i ∧ Lies h0 id sz (Full e pre post d') g' ∧ d'.size = d.size ∧ insOuter lt a b i d' = insertionSort lt d a b) (b - (a + 1)) (by omega) ⟨a + 1, d, rfl, rfl, by omega, hL, rfl, rfl⟩ ?_
  rintro k r g' ⟨i, d', rfl, rfl, hai, hL, hd', hf⟩
  by_cases hib : i < b
  · simp (maxSteps := 2000000) (discharger := omega) only [xz,xc,xo,xr,x0,x1,xd,Reg.isA,Reg.isV,Reg.stays,Reg.onto,↓reduceIte,reduceCtorEq,Nat.reduceEqDiff,Nat.reduceLT,int_lt_t]
    rw [insOuter_lt hib] at hf
    refine wpi_loop (fun k r g' => ∃ (j : Nat) (d2 : Array α), r = [(0, .val (.row id sz pre.length d.size c)), (1, .val (.int .i64 a)), (2, .val (.int .i64 b)), (3, .val (.fn (.func g) fs caps)), (8, .val (.int .i64 i)), (9, .val (.int .i64 j))] ∧
      k = j ∧ a ≤ j ∧ j < b ∧ Lies h0 id sz (Full e pre post d2) g' ∧ d2.size = d.size ∧ insInner lt a j d2 = insInner lt a i d') i (by omega) ⟨i, d', rfl, rfl, by omega, hib, hL, hd', rfl⟩ ?_
    rintro j r g' ⟨_, d2, rfl, rfl, haj, hjb, hL, hd2, hf2⟩
    by_cases hja : a < j
    · obtain ⟨rr, g2, hc1, hc2, hc3⟩ := C.cmp n (by omega) d2[j]! d2[j - 1]! d2 _ hL
      have hL2 := hL.more hc2
      have q1 := hL.row
      have q2 := hL2.row
      have q3 := hL2.idlt
      have hj4 : (((j : Nat) : Int) - 1).toNat = j - 1 := by omega
      obtain ⟨j, rfl⟩ : ∃ i, j = i + 1 := ⟨j - 1, by omega⟩
      simp only [Nat.add_sub_cancel] at hc1 hc3 hj4
      rw [insInner_succ] at hf2
      rw [← hc3] at hf2
      by_cases hr : rr < 0
      · simp (maxSteps := 2000000) (discharger := omega) only [xz,xc,xo,xr,x0,x1,x5,xd,kont_call,wr,Reg.isA,Reg.isV,Reg.stays,Reg.onto,↓reduceIte,reduceCtorEq,Nat.reduceEqDiff,Nat.reduceLT,beq_self_eq_true,wrap_i64,int_lt_t,int_le_t,full_get,full_get1,full_set,full_set1,get_set_self,List.set_set,q1,q2,hj4,hc1,hr,hE.sub,hE.upd,hE.nt,hE.len]
        refine ⟨j, by omega, j, swp d2 (j + 1) j, by rw [show ((j + 1 : Nat) : Int) - 1 = (j : Int) by omega], rfl, by omega, by omega, hL2.set, by rw [swp_size]; exact hd2, ?_⟩
        rw [← hf2, if_pos]
        simp [hr,hja]
      · simp (maxSteps := 2000000) (discharger := omega) only [xz,xc,xo,xr,x0,x1,xd,kont_call,Reg.isA,Reg.isV,Reg.stays,Reg.onto,↓reduceIte,reduceCtorEq,Nat.reduceEqDiff,Nat.reduceLT,beq_self_eq_true,wrap_i64,int_lt_t,int_le_t,full_get,q1,hj4,hc1,hr,hE.sub]
        refine ⟨b - (i + 1), by omega, i + 1, d2, rfl, rfl, by omega, hL2, hd2, ?_⟩
        rw [if_neg] at hf2
        · rw [hf2]; exact hf
        · simp [hr]
    · simp (maxSteps := 2000000) (discharger := omega) only [xz,xc,xo,xr,x0,x1,xd,xb,Reg.isA,Reg.isV,Reg.stays,Reg.onto,↓reduceIte,reduceCtorEq,Nat.reduceEqDiff,Nat.reduceLT,wrap_i64,int_lt_f]
      refine ⟨b - (i + 1), by omega, i + 1, d2, rfl, rfl, by omega, hL, hd2, ?_⟩
      have : insInner lt a j d2 = d2 := by
        cases j with
        | zero => rfl
        | succ j => unfold insInner; rw [if_neg]; simp; omega
      rw [this] at hf2
      rw [hf2]; exact hf
  · simp (maxSteps := 2000000) (discharger := omega) only [xz,xc,xo,xr,x0,x1,xd,Reg.isA,Reg.isV,Reg.stays,Reg.onto,↓reduceIte,reduceCtorEq,Nat.reduceEqDiff,Nat.reduceLT,exists_eq_left',int_lt_f]
    rw [insOuter_ge hib] at hf
    rw [← hf]; exact hL

theorem insertionSort_size (a b : Nat) (d : Array α) : (insertionSort lt d a b).size = d.size := by
  have : ∀ (k i : Nat) (d : Array α), b - i = k → (insOuter lt a b i d).size = d.size := by
    intro k
    induction k with
    | zero => intro i d h; rw [insOuter_ge (by omega)]
    | succ k ih => intro i d h; rw [insOuter_lt (by omega), ih _ _ (by omega), insInner_size]
  exact this _ _ _ rfl
end
end Go.Im

/- ImSort3: slices.SortFunc at the idealised machine: the heap, and turning a range about. -/
set_option linter.unusedVariables false
set_option linter.unusedSimpArgs false
set_option linter.unusedSectionVars false
namespace Go.Im
open Go.Sort

section
variable {α : Type} [Inhabited α] {F : Fns} {I : SortIds} {ag : Bool} {sz : Nat} {e : α → AV} {lt : α → α → Bool} {tot : Bool} {ω : Nat → Nat} {B : Nat} {g : FuncId} {fs caps : List AV} {h0 : Hp} {id : Nat} {pre post : List AV}

theorem siftDown_ge {hi first root : Nat} {d : Array α} (h : hi ≤ 2 * root + 1) : siftDown lt hi first root d = d := by
  rw [siftDown, dif_pos h]
theorem siftDown_two {hi first root : Nat} {d : Array α} (h : ¬ hi ≤ 2 * root + 1) (h2 : 2 * root + 2 < hi) (h3 : lt d[first + (2 * root + 1)]! d[first + (2 * root + 1) + 1]! = true) :
    siftDown lt hi first root d = if lt d[first + root]! d[first + (2 * root + 2)]! = true then siftDown lt hi first (2 * root + 2) (swp d (first + root) (first + (2 * root + 2))) else d := by
  rw [siftDown, dif_neg h, if_pos (by simp [h3]; omega)]
  cases lt d[first + root]! d[first + (2 * root + 2)]! <;> simp [h2]
theorem siftDown_one {hi first root : Nat} {d : Array α} (h : ¬ hi ≤ 2 * root + 1) (h3 : ¬ (2 * root + 2 < hi ∧ lt d[first + (2 * root + 1)]! d[first + (2 * root + 1) + 1]! = true)) :
    siftDown lt hi first root d = if lt d[first + root]! d[first + (2 * root + 1)]! = true then siftDown lt hi first (2 * root + 1) (swp d (first + root) (first + (2 * root + 1))) else d := by
  rw [siftDown, dif_neg h, if_neg (by simpa using h3)]
  cases lt d[first + root]! d[first + (2 * root + 1)]! <;> simp

theorem siftDown_size : ∀ (k hi first root : Nat) (d : Array α), hi - root = k → (siftDown lt hi first root d).size = d.size := by
  intro k
  induction k using Nat.strongRecOn with
  | ind k ih =>
    intro hi first root d hk
    by_cases h : hi ≤ 2 * root + 1
    · rw [siftDown_ge h]
    · by_cases h3 : 2 * root + 2 < hi ∧ lt d[first + (2 * root + 1)]! d[first + (2 * root + 1) + 1]! = true
      · rw [siftDown_two h h3.1 h3.2]
        split
        · rw [ih (hi - (2 * root + 2)) (by omega) _ _ _ _ rfl, swp_size]
        · rfl
      · rw [siftDown_one h h3]
        split
        · rw [ih (hi - (2 * root + 1)) (by omega) _ _ _ _ rfl, swp_size]
        · rfl

set_option maxRecDepth 100000 in
set_option maxHeartbeats 8000000 in
theorem s_sift (C : Srt F I ag sz e lt tot ω B g fs caps h0 id pre post) (c : Bool) (d : Array α) (lo hi first n : Nat) (h : Hp) (hd : d.size ≤ 1000000000) (ha : lo ≤ hi) (hb : first + hi ≤ d.size)
    (hL : Lies h0 id sz (Full e pre post d) h) (hn : B + d.size + 5 < n) :
    ∃ h', call F n tot ω I.sift [.row id sz pre.length d.size c, .int .i64 lo, .int .i64 hi, .int .i64 first, .fn (.func g) fs caps] h = some (.tup [], h') ∧ Lies h0 id sz (Full e pre post (siftDown lt hi first lo d)) h' := by
  obtain ⟨n, rfl⟩ : ∃ m, n = m + 1 := ⟨n - 1, by omega⟩
  suffices hx : ∃ v h', call F (n + 1) tot ω I.sift [.row id sz pre.length d.size c, .int .i64 lo, .int .i64 hi, .int .i64 first, .fn (.func g) fs caps] h = some (v, h') ∧ v = .tup [] ∧ Lies h0 id sz (Full e pre post (siftDown lt hi first lo d)) h' by
    obtain ⟨v, h', e1, rfl, e2⟩ := hx
    exact ⟨h', e1, e2⟩
  refine call_of (fn := I.a_sift ag sz) C.fns.sift (P := fun v h' => v = .tup [] ∧ Lies h0 id sz (Full e pre post (siftDown lt hi first lo d)) h') ?_
  unfold SortIds.a_sift
  have hE := C.enc
  simp (maxSteps := 2000000) (discharger := omega) only [xz,xc,xo,xr,x0,Reg.isA,Reg.isV,Reg.stays,Reg.onto,↓reduceIte,reduceCtorEq,Nat.reduceEqDiff,Nat.reduceLT,Nat.reduceAdd]
  refine wpi_loop (fun k r g' => ∃ (root : Nat) (d' : Array α), r = [(0, .val (.row id sz pre.length d.size c)), (2, .val (.int .i64 hi)), (3, .val (.int .i64 first)), (4, .val (.fn (.func g) fs caps)), (10, .val (.int .i64 root))] ∧
    k = hi - root ∧ root ≤ hi ∧ Lies h0 id sz (Full e pre post d') g' ∧ d'.size = d.size ∧ siftDown lt hi first root d' = siftDown lt hi first lo d) (hi - lo) (by omega) ⟨lo, d, rfl, rfl, by omega, hL, rfl, rfl⟩ ?_
  rintro k r g' ⟨root, d', rfl, rfl, hrt, hL, hd', hf⟩
  by_cases h1 : hi ≤ 2 * root + 1
  · rw [siftDown_ge h1] at hf
    simp (maxSteps := 2000000) (discharger := omega) only [xz,xc,xo,xr,x0,x1,xd,Reg.isA,Reg.isV,Reg.stays,Reg.onto,↓reduceIte,reduceCtorEq,Nat.reduceEqDiff,Nat.reduceLT,exists_eq_left',wrap_i64,int_le_t]
    rw [← hf]; exact hL
  · have f1 : ((first : Int) + (2 * (root : Int) + 1)).toNat = first + (2 * root + 1) := by omega
    have f2 : ((first : Int) + (2 * (root : Int) + 1) + 1).toNat = first + (2 * root + 1) + 1 := by omega
    have f3 : ((first : Int) + (root : Int)).toNat = first + root := by omega
    have f4 : ((first : Int) + (2 * (root : Int) + 1 + 1)).toNat = first + (2 * root + 2) := by omega
    have q1 := hL.row
    by_cases h2 : 2 * root + 2 < hi
    · obtain ⟨rr, g2, hc1, hc2, hc3⟩ := C.cmp n (by omega) d'[first + (2 * root + 1)]! d'[first + (2 * root + 1) + 1]! d' _ hL
      have hL2 := hL.more hc2
      have q2 := hL2.row
      have q3 := hL2.idlt
      by_cases hr : rr < 0
      · have h3 : lt d'[first + (2 * root + 1)]! d'[first + (2 * root + 1) + 1]! = true := by rw [← hc3]; simpa using hr
        rw [siftDown_two h1 h2 h3] at hf
        obtain ⟨r2, g3, hk1, hk2, hk3⟩ := C.cmp n (by omega) d'[first + root]! d'[first + (2 * root + 2)]! d' _ hL2
        have hL3 := hL2.more hk2
        have q4 := hL3.row
        have q5 := hL3.idlt
        by_cases hr2 : r2 < 0
        · rw [if_pos (by rw [← hk3]; simpa using hr2)] at hf
          simp (maxSteps := 2000000) (discharger := omega) only [xz,xc,xo,xr,x0,x1,x2,x5,xd,kont_call,wr,Reg.isA,Reg.isV,Reg.stays,Reg.onto,↓reduceIte,reduceCtorEq,Nat.reduceEqDiff,Nat.reduceLT,beq_self_eq_true,wrap_i64,int_lt_t,int_le_t,int_le_f,full_get,full_get1,full_set,full_set1,get_set_self,List.set_set,q1,q2,q4,f1,f2,f3,f4,hc1,hr,hk1,hr2,hE.sub,hE.upd,hE.nt,hE.len]
          exact ⟨hi - (2 * root + 2), by omega, 2 * root + 2, swp d' (first + root) (first + (2 * root + 2)), by rw [show ((2 * root + 2 : Nat) : Int) = 2 * (root : Int) + 1 + 1 by omega], rfl, by omega, hL3.set, by rw [swp_size]; exact hd', hf⟩
        · rw [if_neg (by rw [← hk3]; simpa using hr2)] at hf
          simp (maxSteps := 2000000) (discharger := omega) only [xz,xc,xo,xr,x0,x1,x2,xd,kont_call,Reg.isA,Reg.isV,Reg.stays,Reg.onto,↓reduceIte,reduceCtorEq,Nat.reduceEqDiff,Nat.reduceLT,beq_self_eq_true,exists_eq_left',wrap_i64,int_lt_t,int_le_t,int_le_f,full_get,q1,q2,f1,f2,f3,f4,hc1,hr,hk1,hr2,hE.sub]
          rw [← hf]; exact hL3
      · have h3 : ¬ (2 * root + 2 < hi ∧ lt d'[first + (2 * root + 1)]! d'[first + (2 * root + 1) + 1]! = true) := by rw [← hc3]; simp [hr]
        rw [siftDown_one h1 h3] at hf
        obtain ⟨r2, g3, hk1, hk2, hk3⟩ := C.cmp n (by omega) d'[first + root]! d'[first + (2 * root + 1)]! d' _ hL2
        have hL3 := hL2.more hk2
        have q4 := hL3.row
        have q5 := hL3.idlt
        by_cases hr2 : r2 < 0
        · rw [if_pos (by rw [← hk3]; simpa using hr2)] at hf
          simp (maxSteps := 2000000) (discharger := omega) only [xz,xc,xo,xr,x0,x1,x2,x5,xd,kont_call,wr,Reg.isA,Reg.isV,Reg.stays,Reg.onto,↓reduceIte,reduceCtorEq,Nat.reduceEqDiff,Nat.reduceLT,beq_self_eq_true,wrap_i64,int_lt_t,int_le_t,int_le_f,full_get,full_get1,full_set,full_set1,get_set_self,List.set_set,q1,q2,q4,f1,f2,f3,hc1,hr,hk1,hr2,hE.sub,hE.upd,hE.nt,hE.len]
          exact ⟨hi - (2 * root + 1), by omega, 2 * root + 1, swp d' (first + root) (first + (2 * root + 1)), by rw [show ((2 * root + 1 : Nat) : Int) = 2 * (root : Int) + 1 by omega], rfl, by omega, hL3.set, by rw [swp_size]; exact hd', hf⟩
        · rw [if_neg (by rw [← hk3]; simpa using hr2)] at hf
          simp (maxSteps := 2000000) (discharger := omega) only [xz,xc,xo,xr,x0,x1,x2,xd,kont_call,Reg.isA,Reg.isV,Reg.stays,Reg.onto,↓reduceIte,reduceCtorEq,Nat.reduceEqDiff,Nat.reduceLT,beq_self_eq_true,exists_eq_left',wrap_i64,int_lt_t,int_le_t,int_le_f,full_get,q1,q2,f1,f2,f3,hc1,hr,hk1,hr2,hE.sub]
          rw [← hf]; exact hL3
    · have h3 : ¬ (2 * root + 2 < hi ∧ lt d'[first + (2 * root + 1)]! d'[first + (2 * root + 1) + 1]! = true) := by simp [h2]
      rw [siftDown_one h1 h3] at hf
      obtain ⟨r2, g3, hk1, hk2, hk3⟩ := C.cmp n (by omega) d'[first + root]! d'[first + (2 * root + 1)]! d' _ hL
      have hL3 := hL.more hk2
      have q4 := hL3.row
      have q5 := hL3.idlt
      by_cases hr2 : r2 < 0
      · rw [if_pos (by rw [← hk3]; simpa using hr2)] at hf
        simp (maxSteps := 2000000) (discharger := omega) only [xz,xc,xo,xr,x0,x1,x2,x5,xd,xb,kont_call,wr,Reg.isA,Reg.isV,Reg.stays,Reg.onto,↓reduceIte,reduceCtorEq,Nat.reduceEqDiff,Nat.reduceLT,wrap_i64,int_lt_t,int_lt_f,int_le_t,int_le_f,full_get,full_get1,full_set,full_set1,get_set_self,List.set_set,q1,q4,f1,f3,hk1,hr2,hE.sub,hE.upd,hE.nt,hE.len]
        exact ⟨hi - (2 * root + 1), by omega, 2 * root + 1, swp d' (first + root) (first + (2 * root + 1)), by rw [show ((2 * root + 1 : Nat) : Int) = 2 * (root : Int) + 1 by omega], rfl, by omega, hL3.set, by rw [swp_size]; exact hd', hf⟩
      · rw [if_neg (by rw [← hk3]; simpa using hr2)] at hf
        simp (maxSteps := 2000000) (discharger := omega) only [xz,xc,xo,xr,x0,x1,x2,xd,xb,kont_call,Reg.isA,Reg.isV,Reg.stays,Reg.onto,↓reduceIte,reduceCtorEq,Nat.reduceEqDiff,Nat.reduceLT,exists_eq_left',wrap_i64,int_lt_t,int_lt_f,int_le_t,int_le_f,full_get,q1,f1,f3,hk1,hr2,hE.sub]
        rw [← hf]; exact hL3

theorem s_heap (C : Srt F I ag sz e lt tot ω B g fs caps h0 id pre post) (c : Bool) (d : Array α) (a b n : Nat) (h : Hp) (hd : d.size ≤ 1000000000) (ha : a < b) (hb : b ≤ d.size)
    (hL : Lies h0 id sz (Full e pre post d) h) (hn : B + d.size + 7 < n) :
    ∃ h', call F n tot ω I.heap [.row id sz pre.length d.size c, .int .i64 a, .int .i64 b, .fn (.func g) fs caps] h = some (.tup [], h') ∧ Lies h0 id sz (Full e pre post (heapSort lt d a b)) h' := by
  obtain ⟨n, rfl⟩ : ∃ m, n = m + 1 := ⟨n - 1, by omega⟩
  suffices hx : ∃ v h', call F (n + 1) tot ω I.heap [.row id sz pre.length d.size c, .int .i64 a, .int .i64 b, .fn (.func g) fs caps] h = some (v, h') ∧ v = .tup [] ∧ Lies h0 id sz (Full e pre post (heapSort lt d a b)) h' by
    obtain ⟨v, h', e1, rfl, e2⟩ := hx
    exact ⟨h', e1, e2⟩
  refine call_of (fn := I.a_heap ag sz) C.fns.heap (P := fun v h' => v = .tup [] ∧ Lies h0 id sz (Full e pre post (heapSort lt d a b)) h') ?_
  unfold SortIds.a_heap
  have hE := C.enc
  obtain ⟨m, hm⟩ : ∃ m, m = b - a := ⟨_, rfl⟩
  have f0 : ((b : Int) - (a : Int)) = ((m : Nat) : Int) := by omega
  have f1 : (((m : Nat) : Int) - 1).tdiv 2 = (((m - 1) / 2 : Nat) : Int) := by
    rw [show ((m : Nat) : Int) - 1 = ((m - 1 : Nat) : Int) by omega]; rfl
  simp (maxSteps := 2000000) (discharger := omega) only [xz,xc,xo,xr,x0,x1,xd,Reg.isA,Reg.isV,Reg.stays,Reg.onto,↓reduceIte,reduceCtorEq,Nat.reduceEqDiff,Nat.reduceLT,Nat.reduceAdd,Int.reduceEq,wrap_i64,f0,f1]
  refine wpi_loop (fun k r g' => ∃ (d' : Array α), r = [(0, .val (.row id sz pre.length d.size c)), (3, .val (.fn (.func g) fs caps)), (8, .val (.int .i64 a)), (9, .val (.int .i64 0)), (10, .val (.int .i64 m)), (11, .val (.int .i64 ((k : Int) - 1)))] ∧
    k ≤ m ∧ Lies h0 id sz (Full e pre post d') g' ∧ d'.size = d.size ∧ heapBuild lt m a k d' = heapBuild lt m a ((m - 1) / 2 + 1) d) ((m - 1) / 2 + 1) (by omega) ⟨d, by rw [show (((m - 1) / 2 + 1 : Nat) : Int) - 1 = (((m - 1) / 2 : Nat) : Int) by omega], by omega, hL, rfl, rfl⟩ ?_
  rintro k r g' ⟨d', rfl, hkm, hL, hd', hf⟩
  cases k with
  | succ k =>
    rw [show ((k + 1 : Nat) : Int) - 1 = (k : Int) by omega]
    obtain ⟨g2, hs1, hs2⟩ := s_sift C c d' k m a n g' (by omega) (by omega) (by omega) hL (by omega)
    rw [hd'] at hs1
    simp (maxSteps := 2000000) (discharger := omega) only [xz,xc,xo,xr,x0,x1,xd,kont_call,Reg.isA,Reg.isV,Reg.stays,Reg.onto,↓reduceIte,reduceCtorEq,Nat.reduceEqDiff,Nat.reduceLT,wrap_i64,int_le_t,hs1]
    exact ⟨k, by omega, siftDown lt m a k d', rfl, by omega, hs2, by rw [siftDown_size _ _ _ _ _ rfl]; exact hd', hf⟩
  | zero =>
    rw [show heapBuild lt m a 0 d' = d' from rfl] at hf
    simp (maxSteps := 2000000) (discharger := omega) only [xz,xc,xo,xr,x0,x1,xd,Reg.isA,Reg.isV,Reg.stays,Reg.onto,↓reduceIte,reduceCtorEq,Nat.reduceEqDiff,Nat.reduceLT,Int.cast_ofNat_Int,Int.reduceNeg,Int.reduceSub,wrap_i64,int_le_f]
    refine wpi_loop (fun k r g' => ∃ (d2 : Array α), r = [(0, .val (.row id sz pre.length d.size c)), (3, .val (.fn (.func g) fs caps)), (8, .val (.int .i64 a)), (9, .val (.int .i64 0)), (12, .val (.int .i64 ((k : Int) - 1)))] ∧
      k ≤ m ∧ Lies h0 id sz (Full e pre post d2) g' ∧ d2.size = d.size ∧ heapPop lt a k d2 = heapPop lt a m d') m (by omega) ⟨d', rfl, by omega, hL, hd', rfl⟩ ?_
    rintro k r g' ⟨d2, rfl, hkm, hL, hd2, hf2⟩
    cases k with
    | succ k =>
      rw [show ((k + 1 : Nat) : Int) - 1 = (k : Int) by omega]
      have q1 := hL.row
      have q3 := hL.idlt
      have f2 : ((a : Int) + (k : Int)).toNat = a + k := by omega
      obtain ⟨g2, hs1, hs2⟩ := s_sift C c (swp d2 a (a + k)) 0 k a n _ (by rw [swp_size]; omega) (by omega) (by rw [swp_size]; omega) hL.set (by rw [swp_size]; omega)
      rw [swp_size, hd2] at hs1
      simp only [swp,Int.cast_ofNat_Int] at hs1
      simp (maxSteps := 2000000) (discharger := omega) only [xz,xc,xo,xr,x0,x1,x5,xd,kont_call,wr,Reg.isA,Reg.isV,Reg.stays,Reg.onto,↓reduceIte,reduceCtorEq,Nat.reduceEqDiff,Nat.reduceLT,wrap_i64,int_lt_t,int_le_t,full_get,full_get1,full_set,full_set1,get_set_self,List.set_set,q1,f2,hE.sub,hE.upd,hE.nt,hE.len,hs1]
      exact ⟨k, by omega, siftDown lt k a 0 (swp d2 a (a + k)), rfl, by omega, hs2, by rw [siftDown_size _ _ _ _ _ rfl, swp_size]; exact hd2, hf2⟩
    | zero =>
      rw [show heapPop lt a 0 d2 = d2 from rfl] at hf2
      simp (maxSteps := 2000000) (discharger := omega) only [xz,xc,xo,xr,x0,x1,xd,Reg.isA,Reg.isV,Reg.stays,Reg.onto,↓reduceIte,reduceCtorEq,Nat.reduceEqDiff,Nat.reduceLT,Int.cast_ofNat_Int,exists_eq_left',Int.reduceNeg,Int.reduceSub,int_le_f]
      rw [show heapSort lt d a b = d2 from by rw [hf2, hf, hm]; rfl]
      exact hL

theorem reverseLoop_lt {i j : Nat} {d : Array α} (h : i < j) : reverseLoop i j d = reverseLoop (i + 1) (j - 1) (swp d i j) := by rw [reverseLoop, if_pos h]
theorem reverseLoop_ge {i j : Nat} {d : Array α} (h : ¬ i < j) : reverseLoop i j d = d := by rw [reverseLoop, if_neg h]

theorem s_rev (C : Srt F I ag sz e lt tot ω B g fs caps h0 id pre post) (c : Bool) (d : Array α) (a b n : Nat) (h : Hp) (hd : d.size ≤ 1000000000) (ha : a < b) (hb : b ≤ d.size)
    (hL : Lies h0 id sz (Full e pre post d) h) (hn : B + d.size + 7 < n) :
    ∃ h', call F n tot ω I.rev [.row id sz pre.length d.size c, .int .i64 a, .int .i64 b, .fn (.func g) fs caps] h = some (.tup [], h') ∧ Lies h0 id sz (Full e pre post (reverseRange d a b)) h' := by
  obtain ⟨n, rfl⟩ : ∃ m, n = m + 1 := ⟨n - 1, by omega⟩
  suffices hx : ∃ v h', call F (n + 1) tot ω I.rev [.row id sz pre.length d.size c, .int .i64 a, .int .i64 b, .fn (.func g) fs caps] h = some (v, h') ∧ v = .tup [] ∧ Lies h0 id sz (Full e pre post (reverseRange d a b)) h' by
    obtain ⟨v, h', e1, rfl, e2⟩ := hx
    exact ⟨h', e1, e2⟩
  refine call_of (fn := I.a_rev ag sz) C.fns.rev (P := fun v h' => v = .tup [] ∧ Lies h0 id sz (Full e pre post (reverseRange d a b)) h') ?_
  unfold SortIds.a_rev
  have hE := C.enc
  have f0 : ((b : Int) - 1) = ((b - 1 : Nat) : Int) := by omega
  simp (maxSteps := 2000000) (discharger := omega) only [xz,xc,xo,xr,x0,x1,xd,Reg.isA,Reg.isV,Reg.stays,Reg.onto,↓reduceIte,reduceCtorEq,Nat.reduceEqDiff,Nat.reduceLT,Nat.reduceAdd,wrap_i64,f0]
  refine wpi_loop (fun k r g' => ∃ (i j : Nat) (d' : Array α), r = [(0, .val (.row id sz pre.length d.size c)), (8, .val (.int .i64 i)), (9, .val (.int .i64 j))] ∧
    k = j - i ∧ j < b ∧ i ≤ j + 1 ∧ Lies h0 id sz (Full e pre post d') g' ∧ d'.size = d.size ∧ reverseLoop i j d' = reverseRange d a b) (b - 1 - a) (by omega) ⟨a, b - 1, d, rfl, rfl, by omega, by omega, hL, rfl, rfl⟩ ?_
  rintro k r g' ⟨i, j, d', rfl, rfl, hjb, hij, hL, hd', hf⟩
  have q1 := hL.row
  have q3 := hL.idlt
  by_cases hlt : i < j
  · rw [reverseLoop_lt hlt] at hf
    simp (maxSteps := 2000000) (discharger := omega) only [xz,xc,xo,xr,x0,x1,x5,xd,wr,Reg.isA,Reg.isV,Reg.stays,Reg.onto,↓reduceIte,reduceCtorEq,Nat.reduceEqDiff,Nat.reduceLT,wrap_i64,int_lt_t,int_le_t,full_get,full_get1,full_set,full_set1,get_set_self,List.set_set,q1,hE.sub,hE.upd,hE.nt,hE.len]
    exact ⟨j - 1 - (i + 1), by omega, i + 1, j - 1, swp d' i j, by rw [show ((j - 1 : Nat) : Int) = (j : Int) - 1 by omega]; rfl, rfl, by omega, by omega, hL.set, by rw [swp_size]; exact hd', hf⟩
  · rw [reverseLoop_ge hlt] at hf
    simp (maxSteps := 2000000) (discharger := omega) only [xz,xc,xo,xr,x0,x1,xd,Reg.isA,Reg.isV,Reg.stays,Reg.onto,↓reduceIte,reduceCtorEq,Nat.reduceEqDiff,Nat.reduceLT,exists_eq_left',int_lt_f]
    rw [← hf]; exact hL
end
end Go.Im

/- ImSort4: slices.SortFunc at the idealised machine: the pivot. -/
set_option linter.unusedVariables false
set_option linter.unusedSimpArgs false
set_option linter.unusedSectionVars false
namespace Go.Im
open Go.Sort

section
variable {α : Type} [Inhabited α] {F : Fns} {I : SortIds} {ag : Bool} {sz : Nat} {e : α → AV} {lt : α → α → Bool} {tot : Bool} {ω : Nat → Nat} {B : Nat} {g : FuncId} {fs caps : List AV} {h0 : Hp} {id : Nat} {pre post : List AV}

theorem upd_int (k k' : IntKind) (m m' : Int) : upd (.int k m) 0 (.int k' m') = some (.int k' m') := rfl

theorem order2_in {d : Array α} {a b s N : Nat} (ha : a < N) (hb : b < N) : (order2 lt d a b s).1 < N ∧ (order2 lt d a b s).2.1 < N ∧ (order2 lt d a b s).2.2 ≤ s + 1 := by
  unfold order2
  split <;> simp [ha,hb]

theorem s_ord (C : Srt F I ag sz e lt tot ω B g fs caps h0 id pre post) (c : Bool) (d : Array α) (a b s p n : Nat) (h : Hp) (hd : d.size ≤ 1000000000) (ha : a < d.size) (hb : b < d.size) (hs : s ≤ 1000)
    (hL : Lies h0 id sz (Full e pre post d) h) (hp : h0.length ≤ p) (hq : h[p]? = some (.row 1 [.int .i64 s])) (hn : B + 5 < n) :
    ∃ h', call F n tot ω I.ord [.row id sz pre.length d.size c, .int .i64 a, .int .i64 b, .ptr p 1 0 0, .fn (.func g) fs caps] h = some (.tup [.int .i64 (order2 lt d a b s).1, .int .i64 (order2 lt d a b s).2.1], h') ∧ Lies h0 id sz (Full e pre post d) h' ∧ h'[p]? = some (.row 1 [.int .i64 (order2 lt d a b s).2.2]) := by
  obtain ⟨n, rfl⟩ : ∃ m, n = m + 1 := ⟨n - 1, by omega⟩
  suffices hx : ∃ v h', call F (n + 1) tot ω I.ord [.row id sz pre.length d.size c, .int .i64 a, .int .i64 b, .ptr p 1 0 0, .fn (.func g) fs caps] h = some (v, h') ∧ v = .tup [.int .i64 (order2 lt d a b s).1, .int .i64 (order2 lt d a b s).2.1] ∧ Lies h0 id sz (Full e pre post d) h' ∧ h'[p]? = some (.row 1 [.int .i64 (order2 lt d a b s).2.2]) by
    obtain ⟨v, h', e1, rfl, e2⟩ := hx
    exact ⟨h', e1, e2⟩
  refine call_of (fn := I.a_ord ag sz) C.fns.ord (P := fun v h' => v = .tup [.int .i64 (order2 lt d a b s).1, .int .i64 (order2 lt d a b s).2.1] ∧ Lies h0 id sz (Full e pre post d) h' ∧ h'[p]? = some (.row 1 [.int .i64 (order2 lt d a b s).2.2])) ?_
  unfold SortIds.a_ord
  have hE := C.enc
  have q1 := hL.row
  obtain ⟨rr, g2, hc1, hc2, hc3⟩ := C.cmp n (by omega) d[b]! d[a]! d _ hL
  have hL2 := hL.more hc2
  have hq2 := hc2.get hq
  have hlt := (List.getElem?_eq_some_iff.1 hq2).1
  by_cases hr : rr < 0
  · have ho : order2 lt d a b s = (b, a, s + 1) := by unfold order2; rw [← hc3]; simp [hr]
    rw [ho]
    simp (maxSteps := 2000000) (discharger := omega) only [xz,xc,xo,xr,x0,x1,x3,x5,xd,kont_call,wr,Reg.isA,Reg.isV,Reg.stays,Reg.onto,↓reduceIte,reduceCtorEq,Nat.reduceEqDiff,Nat.reduceLT,Nat.reduceAdd,exists_eq_left',wrap_i64,int_lt_t,int_le_t,full_get,get_set_self,q1,hc1,hr,hE.sub,upd_int,hq2,List.set_cons_zero]
    exact ⟨hL2.aside hp, by simp []⟩
  · have ho : order2 lt d a b s = (a, b, s) := by unfold order2; rw [← hc3]; simp [hr]
    rw [ho]
    simp (maxSteps := 2000000) (discharger := omega) only [xz,xc,xo,xr,x0,x1,xd,kont_call,Reg.isA,Reg.isV,Reg.stays,Reg.onto,↓reduceIte,reduceCtorEq,Nat.reduceEqDiff,Nat.reduceLT,Nat.reduceAdd,exists_eq_left',int_lt_t,int_le_t,full_get,q1,hc1,hr,hE.sub,hq2]
    exact hL2

theorem median_in {d : Array α} {a b c s N : Nat} (ha : a < N) (hb : b < N) (hc : c < N) : (median lt d a b c s).1 < N ∧ (median lt d a b c s).2 ≤ s + 3 := by
  have h1 := order2_in (lt := lt) (d := d) (s := s) ha hb
  have h2 := order2_in (lt := lt) (d := d) (s := (order2 lt d a b s).2.2) h1.2.1 hc
  have h3 := order2_in (lt := lt) (d := d) (s := (order2 lt d (order2 lt d a b s).2.1 c (order2 lt d a b s).2.2).2.2) h1.1 h2.1
  simp only [median]
  exact ⟨h3.2.1, by omega⟩

theorem s_med (C : Srt F I ag sz e lt tot ω B g fs caps h0 id pre post) (cl : Bool) (d : Array α) (a b c s p n : Nat) (h : Hp) (hd : d.size ≤ 1000000000) (ha : a < d.size) (hb : b < d.size) (hc : c < d.size) (hs : s ≤ 100)
    (hL : Lies h0 id sz (Full e pre post d) h) (hp : h0.length ≤ p) (hq : h[p]? = some (.row 1 [.int .i64 s])) (hn : B + 6 < n) :
    ∃ h', call F n tot ω I.med [.row id sz pre.length d.size cl, .int .i64 a, .int .i64 b, .int .i64 c, .ptr p 1 0 0, .fn (.func g) fs caps] h = some (.int .i64 (median lt d a b c s).1, h') ∧ Lies h0 id sz (Full e pre post d) h' ∧ h'[p]? = some (.row 1 [.int .i64 (median lt d a b c s).2]) := by
  obtain ⟨n, rfl⟩ : ∃ m, n = m + 1 := ⟨n - 1, by omega⟩
  have i1 := order2_in (lt := lt) (d := d) (s := s) ha hb
  obtain ⟨g1, k1, l1, m1⟩ := s_ord C cl d a b s p n h hd ha hb (by omega) hL hp hq (by omega)
  have i2 := order2_in (lt := lt) (d := d) (s := (order2 lt d a b s).2.2) i1.2.1 hc
  obtain ⟨g2, k2, l2, m2⟩ := s_ord C cl d (order2 lt d a b s).2.1 c (order2 lt d a b s).2.2 p n g1 hd i1.2.1 hc (by omega) l1 hp m1 (by omega)
  obtain ⟨g3, k3, l3, m3⟩ := s_ord C cl d (order2 lt d a b s).1 (order2 lt d (order2 lt d a b s).2.1 c (order2 lt d a b s).2.2).1 (order2 lt d (order2 lt d a b s).2.1 c (order2 lt d a b s).2.2).2.2 p n g2 hd i1.1 i2.1 (by omega) l2 hp m2 (by omega)
  refine ⟨g3, ?_, l3, m3⟩
  refine call_eq (fn := I.a_med ag sz) C.fns.med ?_
  unfold SortIds.a_med
  generalize hm : median lt d a b c s = M
  simp only [median] at hm
  subst hm
  generalize order2 lt d a b s = r1 at *
  generalize order2 lt d r1.2.1 c r1.2.2 = r2 at *
  generalize order2 lt d r1.1 r2.1 r2.2.2 = r3 at *
  simp (maxSteps := 2000000) (discharger := omega) only [xz,xc,xo,xr,x0,x3,xd,kont_call,Reg.isA,Reg.isV,Reg.stays,Reg.onto,↓reduceIte,reduceCtorEq,Nat.reduceEqDiff,Nat.reduceLT,Nat.reduceAdd,exists_eq_left',k1,k2,k3]

theorem s_mda (C : Srt F I ag sz e lt tot ω B g fs caps h0 id pre post) (cl : Bool) (d : Array α) (a s p n : Nat) (h : Hp) (hd : d.size ≤ 1000000000) (h1 : 1 ≤ a) (ha : a + 1 < d.size) (hs : s ≤ 100)
    (hL : Lies h0 id sz (Full e pre post d) h) (hp : h0.length ≤ p) (hq : h[p]? = some (.row 1 [.int .i64 s])) (hn : B + 7 < n) :
    ∃ h', call F n tot ω I.mda [.row id sz pre.length d.size cl, .int .i64 a, .ptr p 1 0 0, .fn (.func g) fs caps] h = some (.int .i64 (medianAdjacent lt d a s).1, h') ∧ Lies h0 id sz (Full e pre post d) h' ∧ h'[p]? = some (.row 1 [.int .i64 (medianAdjacent lt d a s).2]) := by
  obtain ⟨n, rfl⟩ : ∃ m, n = m + 1 := ⟨n - 1, by omega⟩
  obtain ⟨g1, k1, l1, m1⟩ := s_med C cl d (a - 1) a (a + 1) s p n h hd (by omega) (by omega) ha hs hL hp hq (by omega)
  refine ⟨g1, ?_, l1, m1⟩
  refine call_eq (fn := I.a_mda ag sz) C.fns.mda ?_
  unfold SortIds.a_mda
  rw [show ((a - 1 : Nat) : Int) = (a : Int) - 1 by omega, show ((a + 1 : Nat) : Int) = (a : Int) + 1 by omega] at k1
  simp (maxSteps := 2000000) (discharger := omega) only [xz,xc,xo,xr,x0,x1,xd,kont_call,Reg.isA,Reg.isV,Reg.stays,Reg.onto,↓reduceIte,reduceCtorEq,Nat.reduceEqDiff,Nat.reduceLT,Nat.reduceAdd,exists_eq_left',wrap_i64,k1,medianAdjacent]

def hintN : Hint → Int
  | .unknown => 0 | .increasing => 1 | .decreasing => 2

theorem s_piv (C : Srt F I ag sz e lt tot ω B g fs caps h0 id pre post) (cl : Bool) (d : Array α) (a b n : Nat) (h : Hp) (hd : d.size ≤ 1000000000) (ha : a + 8 ≤ b) (hb : b ≤ d.size)
    (hL : Lies h0 id sz (Full e pre post d) h) (hn : B + 8 < n) :
    ∃ h', call F n tot ω I.piv [.row id sz pre.length d.size cl, .int .i64 a, .int .i64 b, .fn (.func g) fs caps] h = some (.tup [.int .i64 (choosePivot lt d a b).1, .int .i64 (hintN (choosePivot lt d a b).2)], h') ∧ Lies h0 id sz (Full e pre post d) h' := by
  obtain ⟨n, rfl⟩ : ∃ m, n = m + 1 := ⟨n - 1, by omega⟩
  suffices hx : ∃ v h', call F (n + 1) tot ω I.piv [.row id sz pre.length d.size cl, .int .i64 a, .int .i64 b, .fn (.func g) fs caps] h = some (v, h') ∧ v = .tup [.int .i64 (choosePivot lt d a b).1, .int .i64 (hintN (choosePivot lt d a b).2)] ∧ Lies h0 id sz (Full e pre post d) h' by
    obtain ⟨v, h', e1, rfl, e2⟩ := hx
    exact ⟨h', e1, e2⟩
  refine call_of (fn := I.a_piv ag sz) C.fns.piv (P := fun v h' => v = .tup [.int .i64 (choosePivot lt d a b).1, .int .i64 (hintN (choosePivot lt d a b).2)] ∧ Lies h0 id sz (Full e pre post d) h') ?_
  unfold SortIds.a_piv
  obtain ⟨l, hl⟩ : ∃ l, l = b - a := ⟨_, rfl⟩
  have f0 : ((b : Int) - (a : Int)) = ((l : Nat) : Int) := by omega
  have f1 : ((l : Nat) : Int).tdiv 4 = ((l / 4 : Nat) : Int) := rfl
  have fi : (a : Int) + ((l / 4 : Nat) : Int) * 1 = ((a + l / 4 * 1 : Nat) : Int) := by omega
  have fj : (a : Int) + ((l / 4 : Nat) : Int) * 2 = ((a + l / 4 * 2 : Nat) : Int) := by omega
  have fk : (a : Int) + ((l / 4 : Nat) : Int) * 3 = ((a + l / 4 * 3 : Nat) : Int) := by omega
  have hch : choosePivot lt d a b = (let i := a + l / 4 * 1; let j := a + l / 4 * 2; let k := a + l / 4 * 3
      let r : Nat × Nat := (if l ≥ 50 then (let ri := medianAdjacent lt d i 0; let rj := medianAdjacent lt d j ri.2; let rk := medianAdjacent lt d k rj.2; median lt d ri.1 rj.1 rk.1 rk.2) else median lt d i j k 0)
      (r.1, if r.2 = 0 then Hint.increasing else if r.2 = 12 then Hint.decreasing else Hint.unknown)) := by
    simp only [choosePivot,← hl]
    rw [if_pos (show l ≥ 8 by omega)]
  rw [hch]
  have hL1 := hL.app [.row 1 [.int .i64 0]]
  have hq : (h ++ [AO.row 1 [.int .i64 0]])[h.length]? = some (.row 1 [.int .i64 (0 : Nat)]) := by simp
  obtain ⟨i, hi⟩ : ∃ i, i = a + l / 4 * 1 := ⟨_, rfl⟩
  obtain ⟨j, hj⟩ : ∃ j, j = a + l / 4 * 2 := ⟨_, rfl⟩
  obtain ⟨k, hk⟩ : ∃ k, k = a + l / 4 * 3 := ⟨_, rfl⟩
  simp only [← hi,← hj,← hk] at fi fj fk ⊢
  by_cases h50 : l ≥ 50
  · rw [if_pos h50]
    have t1 := median_in (lt := lt) (d := d) (s := 0) (show i - 1 < d.size by omega) (show i < d.size by omega) (show i + 1 < d.size by omega)
    obtain ⟨g1, k1, l1, m1⟩ := s_mda C cl d i 0 h.length n _ hd (by omega) (by omega) (by omega) hL1 hL.le hq (by omega)
    have t2 := median_in (lt := lt) (d := d) (s := (medianAdjacent lt d i 0).2) (show j - 1 < d.size by omega) (show j < d.size by omega) (show j + 1 < d.size by omega)
    simp only [← medianAdjacent.eq_def] at t1 t2
    obtain ⟨g2, k2, l2, m2⟩ := s_mda C cl d j _ h.length n _ hd (by omega) (by omega) (by omega) l1 hL.le m1 (by omega)
    have t3 := median_in (lt := lt) (d := d) (s := (medianAdjacent lt d j (medianAdjacent lt d i 0).2).2) (show k - 1 < d.size by omega) (show k < d.size by omega) (show k + 1 < d.size by omega)
    simp only [← medianAdjacent.eq_def] at t3
    obtain ⟨g3, k3, l3, m3⟩ := s_mda C cl d k _ h.length n _ hd (by omega) (by omega) (by omega) l2 hL.le m2 (by omega)
    obtain ⟨g4, k4, l4, m4⟩ := s_med C cl d _ _ _ _ h.length n _ hd t1.1 t2.1 t3.1 (by omega) l3 hL.le m3 (by omega)
    generalize medianAdjacent lt d i 0 = ri at *
    generalize medianAdjacent lt d j ri.2 = rj at *
    generalize medianAdjacent lt d k rj.2 = rk at *
    generalize median lt d ri.1 rj.1 rk.1 rk.2 = rm at *
    by_cases e0 : rm.2 = 0
    · simp (maxSteps := 2000000) (discharger := omega) only [xz,xc,xo,xr,x0,x1,x5,xd,kont_call,Reg.isA,Reg.isV,Reg.stays,Reg.onto,↓reduceIte,reduceCtorEq,Nat.reduceEqDiff,Nat.reduceLT,Nat.reduceAdd,Int.cast_ofNat_Int,beq_self_eq_true,exists_eq_left',Int.reduceEq,wrap_i64,int_le_t,f0,f1,fi,fj,fk,k1,k2,k3,k4,m4,e0]
      exact ⟨rfl, l4⟩
    · by_cases e1 : rm.2 = 12
      · simp (maxSteps := 2000000) (discharger := omega) only [xz,xc,xo,xr,x0,x1,x5,xd,kont_call,Reg.isA,Reg.isV,Reg.stays,Reg.onto,↓reduceIte,reduceCtorEq,Nat.reduceEqDiff,Nat.reduceLT,Nat.reduceAdd,Int.cast_ofNat_Int,beq_self_eq_true,exists_eq_left',Int.reduceEq,wrap_i64,int_le_t,f0,f1,fi,fj,fk,k1,k2,k3,k4,m4,e1]
        exact ⟨rfl, l4⟩
      · have z0 : ((rm.2 : Nat) : Int) ≠ 0 := by omega
        have z1 : ((rm.2 : Nat) : Int) ≠ 12 := by omega
        simp (maxSteps := 2000000) (discharger := omega) only [xz,xc,xo,xr,x0,x1,x5,xd,kont_call,Reg.isA,Reg.isV,Reg.stays,Reg.onto,↓reduceIte,reduceCtorEq,Nat.reduceEqDiff,Nat.reduceLT,Nat.reduceAdd,exists_eq_left',Int.reduceEq,wrap_i64,int_le_t,f0,f1,fi,fj,fk,k1,k2,k3,k4,m4,e0,e1,beq_eq_false_iff_ne.2 z0,beq_eq_false_iff_ne.2 z1]
        exact ⟨rfl, l4⟩
  · rw [if_neg h50]
    obtain ⟨g4, k4, l4, m4⟩ := s_med C cl d i j k 0 h.length n _ hd (by omega) (by omega) (by omega) (by omega) hL1 hL.le hq (by omega)
    generalize median lt d i j k 0 = rm at *
    by_cases e0 : rm.2 = 0
    · simp (maxSteps := 2000000) (discharger := omega) only [xz,xc,xo,xr,x0,x1,x5,xd,kont_call,Reg.isA,Reg.isV,Reg.stays,Reg.onto,↓reduceIte,reduceCtorEq,Nat.reduceEqDiff,Nat.reduceLT,Nat.reduceAdd,Int.cast_ofNat_Int,beq_self_eq_true,exists_eq_left',Int.reduceEq,wrap_i64,int_le_t,int_le_f,f0,f1,fi,fj,fk,k4,m4,e0]
      exact ⟨rfl, l4⟩
    · by_cases e1 : rm.2 = 12
      · simp (maxSteps := 2000000) (discharger := omega) only [xz,xc,xo,xr,x0,x1,x5,xd,kont_call,Reg.isA,Reg.isV,Reg.stays,Reg.onto,↓reduceIte,reduceCtorEq,Nat.reduceEqDiff,Nat.reduceLT,Nat.reduceAdd,Int.cast_ofNat_Int,beq_self_eq_true,exists_eq_left',Int.reduceEq,wrap_i64,int_le_t,int_le_f,f0,f1,fi,fj,fk,k4,m4,e1]
        exact ⟨rfl, l4⟩
      · have z0 : ((rm.2 : Nat) : Int) ≠ 0 := by omega
        have z1 : ((rm.2 : Nat) : Int) ≠ 12 := by omega
        simp (maxSteps := 2000000) (discharger := omega) only [xz,xc,xo,xr,x0,x1,x5,xd,kont_call,Reg.isA,Reg.isV,Reg.stays,Reg.onto,↓reduceIte,reduceCtorEq,Nat.reduceEqDiff,Nat.reduceLT,Nat.reduceAdd,exists_eq_left',Int.reduceEq,wrap_i64,int_le_t,int_le_f,f0,f1,fi,fj,fk,k4,m4,e0,e1,beq_eq_false_iff_ne.2 z0,beq_eq_false_iff_ne.2 z1]
        exact ⟨rfl, l4⟩
end
end Go.Im

/- ImSort5: slices.SortFunc at the idealised machine: lengths of numbers, and the pattern that is broken. -/
set_option linter.unusedVariables false
set_option linter.unusedSimpArgs false
set_option linter.unusedSectionVars false
namespace Go.Im
open Go.Sort

theorem lenTab_get : ∀ x : Nat, x < 256 → lenTab[x]? = some (UInt8.ofNat (bitsLen x)) := by decide +kernel

theorem bitsLen_256 {n : Nat} (h : 256 ≤ n) : bitsLen n = 8 + bitsLen (n / 256) := by
  have h1 : n / 256 ≠ 0 := by omega
  unfold bitsLen
  rw [if_neg (by omega), if_neg h1]
  have : Nat.log2 n = Nat.log2 (n / 256) + 8 := by
    have e := (Nat.log2_eq_iff h1 (k := Nat.log2 (n / 256))).1 rfl
    rw [Nat.log2_eq_iff (by omega)]
    rw [show Nat.log2 (n / 256) + 8 + 1 = (Nat.log2 (n / 256) + 1) + 8 by omega, Nat.pow_add, Nat.pow_add]
    have e2 : (2 : Nat) ^ 8 = 256 := by decide
    rw [e2]
    omega
  omega
theorem bitsLen_lt {x : Nat} (h : x < 256) : bitsLen x ≤ 8 := by
  have : ∀ x : Nat, x < 256 → bitsLen x ≤ 8 := by decide +kernel
  exact this x h
theorem bitsLen_le {n : Nat} (h : n ≤ 1000000000) : bitsLen n ≤ 32 := by
  by_cases h1 : n < 256
  · have := bitsLen_lt h1; omega
  · rw [bitsLen_256 (by omega)]
    by_cases h2 : n / 256 < 256
    · have := bitsLen_lt h2; omega
    · rw [bitsLen_256 (by omega)]
      by_cases h3 : n / 256 / 256 < 256
      · have := bitsLen_lt h3; omega
      · rw [bitsLen_256 (by omega)]
        have := bitsLen_lt (show n / 256 / 256 / 256 < 256 by omega); omega
theorem pow_bitsLen {n : Nat} (h : 1 ≤ n) : 2 ^ bitsLen n ≤ 2 * n := by
  unfold bitsLen
  rw [if_neg (by omega), Nat.pow_succ]
  have := Nat.log2_self_le (n := n) (by omega)
  omega

section
variable {α : Type} [Inhabited α] {F : Fns} {I : SortIds} {ag : Bool} {sz : Nat} {e : α → AV} {lt : α → α → Bool} {tot : Bool} {ω : Nat → Nat} {B : Nat} {g : FuncId} {fs caps : List AV} {h0 : Hp} {id : Nat} {pre post : List AV}

theorem shr_u64 {x k : Nat} {z : Int} (hz : z = k) (hk : k ≤ 64) : ((x : Nat) : Int).fdiv (2 ^ min z.toNat IntKind.u64.bits) = ((x / 2 ^ k : Nat) : Int) := by
  have h1 : min z.toNat IntKind.u64.bits = k := by
    have : IntKind.u64.bits = 64 := rfl
    omega
  rw [h1, show (2 : Int) ^ k = ((2 ^ k : Nat) : Int) by simp]
  exact (Int.fdiv_eq_ediv_of_nonneg _ (Int.natCast_nonneg _)).trans rfl

theorem s_l64 (hI : I.In F ag sz) (x n : Nat) (h : Hp) (hx : x ≤ 1000000000) (hn : 2 < n) : call F n tot ω I.l64 [.int .u64 x] h = some (.int .i64 (bitsLen x), h) := by
  obtain ⟨n, rfl⟩ : ∃ m, n = m + 1 := ⟨n - 1, by omega⟩
  refine call_eq (fn := I.a_l64 ag sz) hI.l64 ?_
  unfold SortIds.a_l64
  have e16 : (2 : Nat) ^ 16 = 65536 := by decide
  have e8 : (2 : Nat) ^ 8 = 256 := by decide
  have s16 : ((x : Nat) : Int).fdiv (2 ^ min 16 IntKind.u64.bits) = ((x / 65536 : Nat) : Int) := by rw [← e16]; exact shr_u64 (x := x) (k := 16) (z := 16) rfl (by omega)
  have s8 : ((x : Nat) : Int).fdiv (2 ^ min 8 IntKind.u64.bits) = ((x / 256 : Nat) : Int) := by rw [← e8]; exact shr_u64 (x := x) (k := 8) (z := 8) rfl (by omega)
  have s24 : ((x / 65536 : Nat) : Int).fdiv (2 ^ min 8 IntKind.u64.bits) = ((x / 65536 / 256 : Nat) : Int) := by rw [← e8]; exact shr_u64 (x := x / 65536) (k := 8) (z := 8) rfl (by omega)
  by_cases h1 : x < 256
  · have w1 : IntKind.u8.wrap (x : Int) = (x : Int) := wrap_u8 (by omega) (by omega)
    have hb := bitsLen_lt h1
    have u1 : (UInt8.ofNat (bitsLen x)).toNat = bitsLen x := by simp; omega
    simp (maxSteps := 2000000) (discharger := omega) only [xz,xc,xo,xr,x0,x1,x2,xd,Reg.isA,Reg.isV,Reg.stays,Reg.onto,↓reduceIte,reduceCtorEq,Nat.reduceEqDiff,Nat.reduceLT,exists_eq_left',wrap_i64,int_le_t,int_le_f,w1,lenTab_get x h1,u1,Int.zero_add]
  · by_cases h2 : x < 65536
    · have w1 : IntKind.u8.wrap ((x / 256 : Nat) : Int) = ((x / 256 : Nat) : Int) := wrap_u8 (by omega) (by omega)
      have hb := bitsLen_lt (show x / 256 < 256 by omega)
      have u1 : (UInt8.ofNat (bitsLen (x / 256))).toNat = bitsLen (x / 256) := by simp; omega
      have u2 : ((bitsLen x : Nat) : Int) = 8 + (bitsLen (x / 256) : Nat) := by rw [bitsLen_256 (by omega)]; omega
      rw [u2]
      simp (maxSteps := 2000000) (discharger := omega) only [xz,xc,xo,xr,x0,x1,x2,xd,Reg.isA,Reg.isV,Reg.stays,Reg.onto,↓reduceIte,reduceCtorEq,Nat.reduceEqDiff,Nat.reduceLT,exists_eq_left',Int.reduceToNat,wrap_i64,int_lt_f,int_le_t,int_le_f,s8,w1,lenTab_get _ (show x / 256 < 256 by omega),u1,Int.zero_add]
    · by_cases h3 : x / 65536 < 256
      · have w1 : IntKind.u8.wrap ((x / 65536 : Nat) : Int) = ((x / 65536 : Nat) : Int) := wrap_u8 (by omega) (by omega)
        have hb := bitsLen_lt h3
        have u1 : (UInt8.ofNat (bitsLen (x / 65536))).toNat = bitsLen (x / 65536) := by simp; omega
        have u2 : ((bitsLen x : Nat) : Int) = 16 + (bitsLen (x / 65536) : Nat) := by
          rw [bitsLen_256 (by omega), bitsLen_256 (show 256 ≤ x / 256 by omega), Nat.div_div_eq_div_mul]; simp only [Nat.reduceMul]; omega
        rw [u2]
        simp (maxSteps := 2000000) (discharger := omega) only [xz,xc,xo,xr,x0,x1,x2,xd,Reg.isA,Reg.isV,Reg.stays,Reg.onto,↓reduceIte,reduceCtorEq,Nat.reduceEqDiff,Nat.reduceLT,exists_eq_left',Int.reduceToNat,wrap_i64,int_lt_f,int_le_t,int_le_f,s16,w1,lenTab_get _ h3,u1,Int.zero_add]
      · have w1 : IntKind.u8.wrap ((x / 65536 / 256 : Nat) : Int) = ((x / 65536 / 256 : Nat) : Int) := wrap_u8 (by omega) (by omega)
        have hb := bitsLen_lt (show x / 65536 / 256 < 256 by omega)
        have u1 : (UInt8.ofNat (bitsLen (x / 65536 / 256))).toNat = bitsLen (x / 65536 / 256) := by simp; omega
        have u2 : ((bitsLen x : Nat) : Int) = 16 + 8 + (bitsLen (x / 65536 / 256) : Nat) := by
          rw [bitsLen_256 (by omega), bitsLen_256 (show 256 ≤ x / 256 by omega), Nat.div_div_eq_div_mul, bitsLen_256 (show 256 ≤ x / (256 * 256) by omega)]; simp only [Nat.reduceMul]; omega
        rw [u2]
        simp (maxSteps := 2000000) (discharger := omega) only [xz,xc,xo,xr,x0,x1,x2,xd,Reg.isA,Reg.isV,Reg.stays,Reg.onto,↓reduceIte,reduceCtorEq,Nat.reduceEqDiff,Nat.reduceLT,exists_eq_left',Int.reduceToNat,Int.reduceAdd,wrap_i64,int_lt_f,int_le_t,int_le_f,s16,s24,w1,lenTab_get _ (show x / 65536 / 256 < 256 by omega),u1,Int.zero_add]

theorem s_len (hI : I.In F ag sz) (x n : Nat) (h : Hp) (hx : x ≤ 1000000000) (hn : 3 < n) : call F n tot ω I.len [.int .u64 x] h = some (.int .i64 (bitsLen x), h) := by
  obtain ⟨n, rfl⟩ : ∃ m, n = m + 1 := ⟨n - 1, by omega⟩
  refine call_eq (fn := I.a_len ag sz) hI.len ?_
  unfold SortIds.a_len
  have h1 := s_l64 (tot := tot) (ω := ω) hI x n h hx (by omega)
  simp (maxSteps := 2000000) (discharger := omega) only [xz,xc,xo,xr,x0,xd,kont_call,Reg.isA,Reg.isV,Reg.stays,Reg.onto,↓reduceIte,reduceCtorEq,Nat.reduceEqDiff,Nat.reduceLT,exists_eq_left',h1]

theorem s_npo (hI : I.In F ag sz) (x n : Nat) (h : Hp) (hx : x ≤ 1000000000) (hn : 4 < n) : call F n tot ω I.npo [.int .i64 x] h = some (.int .u64 ((2 ^ bitsLen x : Nat) : Int), h) := by
  obtain ⟨n, rfl⟩ : ∃ m, n = m + 1 := ⟨n - 1, by omega⟩
  refine call_eq (fn := I.a_npo ag sz) hI.npo ?_
  unfold SortIds.a_npo
  have h1 := s_len (tot := tot) (ω := ω) hI x n h hx (by omega)
  have hb := bitsLen_le hx
  have hp : 2 ^ bitsLen x ≤ 2 ^ 32 := Nat.pow_le_pow_right (by omega) hb
  have e32 : (2 : Nat) ^ 32 = 4294967296 := by decide
  have w1 : IntKind.u64.wrap (x : Int) = (x : Int) := wrap_u64 (by omega) (by omega)
  have hm : min ((bitsLen x : Nat) : Int).toNat IntKind.u64.bits = bitsLen x := by
    have : IntKind.u64.bits = 64 := rfl
    omega
  have w2 : IntKind.u64.wrap (1 * 2 ^ min (bitsLen x) IntKind.u64.bits) = ((2 ^ bitsLen x : Nat) : Int) := by
    rw [show min (bitsLen x) IntKind.u64.bits = bitsLen x from by simpa using hm]
    rw [show (1 : Int) * 2 ^ bitsLen x = ((2 ^ bitsLen x : Nat) : Int) by simp]
    generalize 2 ^ bitsLen x = M at *
    exact wrap_u64 (by omega) (by omega)
  simp (maxSteps := 2000000) (discharger := omega) only [xz,xc,xo,xr,x0,x1,x2,xd,kont_call,Reg.isA,Reg.isV,Reg.stays,Reg.onto,↓reduceIte,reduceCtorEq,Nat.reduceEqDiff,Nat.reduceLT,exists_eq_left',int_lt_f,w1,h1,w2]

theorem xr_shl13 (r : UInt64) : IntKind.u64.wrap ((r.toNat : Int) * 2 ^ min (13 : Nat) IntKind.u64.bits) = ((r <<< 13).toNat : Int) := by
  have e : min (13 : Nat) IntKind.u64.bits = 13 := rfl
  rw [e]
  have : (r <<< 13).toNat = r.toNat * 2 ^ 13 % 2 ^ 64 := by
    rw [UInt64.toNat_shiftLeft, Nat.shiftLeft_eq]; rfl
  rw [this]
  simp [IntKind.wrap,IntKind.signed,IntKind.bits]
theorem xr_shl17 (r : UInt64) : IntKind.u64.wrap ((r.toNat : Int) * 2 ^ min (17 : Nat) IntKind.u64.bits) = ((r <<< 17).toNat : Int) := by
  have e : min (17 : Nat) IntKind.u64.bits = 17 := rfl
  rw [e]
  have : (r <<< 17).toNat = r.toNat * 2 ^ 17 % 2 ^ 64 := by
    rw [UInt64.toNat_shiftLeft, Nat.shiftLeft_eq]; rfl
  rw [this]
  simp [IntKind.wrap,IntKind.signed,IntKind.bits]
theorem xr_shr7 (r : UInt64) : ((r.toNat : Nat) : Int).fdiv (2 ^ min (7 : Nat) IntKind.u64.bits) = ((r >>> 7).toNat : Int) := by
  have := shr_u64 (x := r.toNat) (k := 7) (z := 7) rfl (by omega)
  have h2 : (r >>> 7).toNat = r.toNat / 2 ^ 7 := by
    rw [UInt64.toNat_shiftRight, Nat.shiftRight_eq_div_pow]; rfl
  rw [h2]
  exact this
theorem bits_nat (op : BinOp) (f : Nat → Nat → Nat) (x y : Nat) (hf : (match op with
    | .and => BitVec.ofInt 64 x &&& BitVec.ofInt 64 y
    | .or => BitVec.ofInt 64 x ||| BitVec.ofInt 64 y
    | .xor => BitVec.ofInt 64 x ^^^ BitVec.ofInt 64 y
    | _ => BitVec.ofInt 64 x &&& ~~~BitVec.ofInt 64 y).toNat = f x y) : bitsI op .u64 x y = ((f x y : Nat) : Int) := by
  have h2 : f x y < 2 ^ 64 := by rw [← hf]; exact BitVec.isLt _
  have h3 : bitsI op .u64 x y = IntKind.u64.wrap ((f x y : Nat) : Int) := by rw [← hf]; rfl
  rw [h3]
  exact wrap_u64 (by omega) (by omega)
theorem xr_xor (r s : UInt64) : bitsI .xor .u64 (r.toNat : Int) (s.toNat : Int) = ((r ^^^ s).toNat : Int) := by
  refine bits_nat .xor (fun _ _ => (r ^^^ s).toNat) r.toNat s.toNat ?_
  simp only [BitVec.toNat_xor,UInt64.toNat_xor]
  congr 1 <;> simp
theorem xr_and (r : UInt64) (m : Nat) (hm : m < 2 ^ 64) : bitsI .and .u64 (r.toNat : Int) (m : Int) = ((r.toNat &&& m : Nat) : Int) := by
  refine bits_nat .and (fun _ _ => r.toNat &&& m) r.toNat m ?_
  simp only [BitVec.toNat_and]
  congr 1 <;> simp
  omega

theorem upd_int' (k k' : IntKind) (m m' : Int) : upd (.int k m) 0 (.int k' m') = some (.int k' m') := rfl

theorem s_nxt (hI : I.In F ag sz) (r : UInt64) (p n : Nat) (h : Hp) (hq : h[p]? = some (.row 1 [.int .u64 (r.toNat : Int)])) (hn : 2 < n) :
    call F n tot ω I.nxt [.ptr p 1 0 0] h = some (.int .u64 ((xorNext r).toNat : Int), h.set p (.row 1 [.int .u64 ((xorNext r).toNat : Int)])) := by
  obtain ⟨n, rfl⟩ : ∃ m, n = m + 1 := ⟨n - 1, by omega⟩
  refine call_eq (fn := I.a_nxt ag sz) hI.nxt ?_
  unfold SortIds.a_nxt
  have hlt := (List.getElem?_eq_some_iff.1 hq).1
  have hg : ∀ o, (h.set p o)[p]? = some o := fun o => by simp [hlt]
  simp (maxSteps := 2000000) (discharger := omega) only [xz,xc,xo,xr,x0,x1,x3,x5,xd,wr,Reg.isA,Reg.isV,Reg.stays,Reg.onto,↓reduceIte,reduceCtorEq,Nat.reduceEqDiff,Nat.reduceLT,exists_eq_left',Int.reduceToNat,int_lt_f,List.set_set,hq,hg,xr_shl13,xr_shl17,xr_shr7,xr_xor,upd_int',List.set_cons_zero]
  simp only [xorNext,and_self]

theorem breakStep_size (a l m i : Nat) (st : UInt64 × Array α) : (breakStep a l m st i).2.size = st.2.size := by
  simp only [breakStep]; exact swp_size _ _ _

set_option maxRecDepth 100000 in
set_option maxHeartbeats 8000000 in
theorem s_brk (C : Srt F I ag sz e lt tot ω B g fs caps h0 id pre post) (c : Bool) (d : Array α) (a b n : Nat) (h : Hp) (hd : d.size ≤ 1000000000) (ha : a + 8 ≤ b) (hb : b ≤ d.size)
    (hL : Lies h0 id sz (Full e pre post d) h) (hn : B + 12 < n) :
    ∃ h', call F n tot ω I.brk [.row id sz pre.length d.size c, .int .i64 a, .int .i64 b, .fn (.func g) fs caps] h = some (.tup [], h') ∧ Lies h0 id sz (Full e pre post (breakPatterns d a b)) h' := by
  obtain ⟨n, rfl⟩ : ∃ m, n = m + 1 := ⟨n - 1, by omega⟩
  suffices hx : ∃ v h', call F (n + 1) tot ω I.brk [.row id sz pre.length d.size c, .int .i64 a, .int .i64 b, .fn (.func g) fs caps] h = some (v, h') ∧ v = .tup [] ∧ Lies h0 id sz (Full e pre post (breakPatterns d a b)) h' by
    obtain ⟨v, h', e1, rfl, e2⟩ := hx
    exact ⟨h', e1, e2⟩
  refine call_of (fn := I.a_brk ag sz) C.fns.brk (P := fun v h' => v = .tup [] ∧ Lies h0 id sz (Full e pre post (breakPatterns d a b)) h') ?_
  unfold SortIds.a_brk
  have hE := C.enc
  obtain ⟨l, hl⟩ : ∃ l, l = b - a := ⟨_, rfl⟩
  obtain ⟨M, hM⟩ : ∃ M, M = 2 ^ bitsLen l := ⟨_, rfl⟩
  have hM2 : M ≤ 2 * l := by rw [hM]; exact pow_bitsLen (by omega)
  have hM1 : 0 < M := by rw [hM]; exact Nat.pow_pos (by omega)
  have f0 : ((b : Int) - (a : Int)) = ((l : Nat) : Int) := by omega
  have f1 : ((l : Nat) : Int).tdiv 4 = ((l / 4 : Nat) : Int) := rfl
  have w1 : IntKind.u64.wrap (l : Int) = (l : Int) := wrap_u64 (by omega) (by omega)
  have w2 : IntKind.u64.wrap ((M : Int) - 1) = ((M - 1 : Nat) : Int) := by rw [wrap_u64 (by omega) (by omega)]; omega
  obtain ⟨s, hs⟩ : ∃ s, s = a + l / 4 * 2 - 1 := ⟨_, rfl⟩
  have fs1 : (a : Int) + ((l / 4 : Nat) : Int) * 2 - 1 = (s : Int) := by omega
  have hnp := fun h => s_npo (tot := tot) (ω := ω) C.fns l n h (by omega) (by omega)
  rw [← hM] at hnp
  have hlt : h.length < (h ++ [AO.row 1 [AV.int IntKind.u64 0]]).length := by simp
  have hg0 : (h ++ [AO.row 1 [AV.int IntKind.u64 0]])[h.length]? = some (.row 1 [.int .u64 0]) := by simp
  have hset : (h ++ [AO.row 1 [AV.int IntKind.u64 0]]).set h.length (.row 1 [.int .u64 (l : Int)]) = h ++ [.row 1 [.int .u64 (l : Int)]] := by simp
  simp (maxSteps := 2000000) (discharger := omega) only [xz,xc,xo,xr,x0,x1,x2,x5,xd,kont_call,wr,Reg.isA,Reg.isV,Reg.stays,Reg.onto,↓reduceIte,reduceCtorEq,Nat.reduceEqDiff,Nat.reduceLT,Nat.reduceAdd,Int.reduceEq,wrap_i64,int_le_t,f0,f1,w1,hg0,upd_int',List.set_cons_zero,hset,hnp,fs1]
  have hbp : breakPatterns d a b = (breakStep a l M (breakStep a l M (breakStep a l M (UInt64.ofNat l, d) s) (s + 1)) (s + 2)).2 := by
    simp only [breakPatterns,← hl]
    rw [if_pos (show l ≥ 8 by omega), Nat.one_shiftLeft, ← hM, ← hs]
  have hur : (UInt64.ofNat l).toNat = l := by simp; omega
  have hle := hL.le
  refine wpi_loop (fun k r g' => ∃ (st : UInt64 × Array α), r = [(0, .val (.row id sz pre.length d.size c)), (1, .val (.int .i64 a)), (8, .val (.int .i64 l)), (9, .val (.ptr h.length 1 0 0)), (10, .val (.int .u64 M)), (11, .val (.int .i64 ((s : Int) + 3 - k)))] ∧
    k ≤ 3 ∧ Lies h0 id sz (Full e pre post st.2) g' ∧ st.2.size = d.size ∧ g'[h.length]? = some (.row 1 [.int .u64 (st.1.toNat : Int)]) ∧
    (k = 3 → breakPatterns d a b = (breakStep a l M (breakStep a l M (breakStep a l M st s) (s + 1)) (s + 2)).2) ∧
    (k = 2 → breakPatterns d a b = (breakStep a l M (breakStep a l M st (s + 1)) (s + 2)).2) ∧
    (k = 1 → breakPatterns d a b = (breakStep a l M st (s + 2)).2) ∧ (k = 0 → breakPatterns d a b = st.2)) 3 (by omega) ⟨(UInt64.ofNat l, d), by rw [show (s : Int) + 3 - ((3 : Nat) : Int) = (s : Int) by omega], by omega, hL.app _, rfl, by rw [hur]; simp, fun _ => hbp, by omega, by omega, by omega⟩ ?_
  rintro k r g' ⟨st, rfl, hk3, hL, hst, hq, i3, i2, i1, i0⟩
  cases k with
  | zero =>
    simp (maxSteps := 2000000) (discharger := omega) only [xz,xc,xo,xr,x0,x1,xd,Reg.isA,Reg.isV,Reg.stays,Reg.onto,↓reduceIte,reduceCtorEq,Nat.reduceEqDiff,Nat.reduceLT,Int.cast_ofNat_Int,exists_eq_left',Int.reduceEq,wrap_i64,int_le_f,f1]
    rw [i0 rfl]; exact hL
  | succ k =>
    obtain ⟨i, hi⟩ : ∃ i : Nat, i = s + 2 - k := ⟨_, rfl⟩
    rw [show (s : Int) + 3 - ((k + 1 : Nat) : Int) = (i : Int) by omega]
    have hnx := s_nxt (tot := tot) (ω := ω) C.fns st.1 h.length n g' hq (by omega)
    obtain ⟨x, hx⟩ : ∃ x, x = xorNext st.1 := ⟨_, rfl⟩
    rw [← hx] at hnx
    have ha1 := xr_and x (M - 1) (by omega)
    obtain ⟨o, ho⟩ : ∃ o, o = x.toNat &&& (M - 1) := ⟨_, rfl⟩
    have ho2 : o < M := by
      have : x.toNat &&& (M - 1) ≤ M - 1 := Nat.and_le_right
      omega
    rw [← ho] at ha1
    have q1 := hL.row
    have q3 := hL.idlt
    have hL2 : Lies h0 id sz (Full e pre post st.2) (g'.set h.length (.row 1 [.int .u64 (x.toNat : Int)])) := hL.aside hle
    have q4 := hL2.row
    have q5 := hL2.idlt
    have w3 : IntKind.i64.wrap (o : Int) = (o : Int) := wrap_i64 (by omega) (by omega)
    have hpl := (List.getElem?_eq_some_iff.1 hq).1
    have hne := hL.lt
    have hi' : i < d.size := by omega
    by_cases hol : o < l
    · have f5 : ((a : Int) + (o : Int)).toNat = a + o := by omega
      simp (maxSteps := 2000000) (discharger := omega) only [xz,xc,xo,xr,x0,x1,x2,x5,xd,kont_call,wr,Reg.isA,Reg.isV,Reg.stays,Reg.onto,↓reduceIte,reduceCtorEq,Nat.reduceEqDiff,Nat.reduceLT,Int.reduceEq,wrap_i64,int_lt_t,int_le_t,int_le_f,full_get,full_get1,full_set,full_set1,get_set_self,List.set_set,f1,hnx,w2,ha1,w3,hE.sub,hE.upd,hE.nt,hE.len,q4,f5]
      have hbs : breakStep a l M st i = (x, swp st.2 i (a + o)) := by
        simp only [breakStep,← hx,← ho]
        rw [if_neg (by omega)]
      refine ⟨k, by omega, breakStep a l M st i, by rw [show (i : Int) + 1 = (s : Int) + 3 - (k : Int) by omega], by omega, ?_, by rw [breakStep_size]; exact hst, ?_, ?_, ?_, ?_⟩
      · rw [hbs]; exact hL2.set
      · rw [hbs, get_set_ne (by omega)]; simp [hpl]
      · omega
      · intro hk; rw [i3 (by omega), show s = i by omega]
      · exact ⟨fun hk => by rw [i2 (by omega), show s + 1 = i by omega], fun hk => by rw [i1 (by omega), show s + 2 = i by omega]⟩
    · have f5 : ((a : Int) + ((o : Int) - (l : Int))).toNat = a + (o - l) := by omega
      simp (maxSteps := 2000000) (discharger := omega) only [xz,xc,xo,xr,x0,x1,x2,x5,xd,kont_call,wr,Reg.isA,Reg.isV,Reg.stays,Reg.onto,↓reduceIte,reduceCtorEq,Nat.reduceEqDiff,Nat.reduceLT,Int.reduceEq,wrap_i64,int_lt_t,int_le_t,full_get,full_get1,full_set,full_set1,get_set_self,List.set_set,f1,hnx,w2,ha1,w3,hE.sub,hE.upd,hE.nt,hE.len,q4,f5]
      have hbs : breakStep a l M st i = (x, swp st.2 i (a + (o - l))) := by
        simp only [breakStep,← hx,← ho]
        rw [if_pos (by omega)]
      refine ⟨k, by omega, breakStep a l M st i, by rw [show (i : Int) + 1 = (s : Int) + 3 - (k : Int) by omega], by omega, ?_, by rw [breakStep_size]; exact hst, ?_, ?_, ?_, ?_⟩
      · rw [hbs]; exact hL2.set
      · rw [hbs, get_set_ne (by omega)]; simp [hpl]
      · omega
      · intro hk; rw [i3 (by omega), show s = i by omega]
      · exact ⟨fun hk => by rw [i2 (by omega), show s + 1 = i by omega], fun hk => by rw [i1 (by omega), show s + 2 = i by omega]⟩
end
end Go.Im

/- ImSort6: slices.SortFunc at the idealised machine: the partitions. -/
set_option linter.unusedVariables false
set_option linter.unusedSimpArgs false
set_option linter.unusedSectionVars false
namespace Go.Im
open Go.Sort

theorem wpi_loop' {K : Kont} {n : Nat} {b : AC} {r : Regs} {h : Hp} {Q : AE → Regs → Hp → Prop} (I : Nat → Regs → Hp → Prop) (J : AE → Regs → Hp → Prop) (k : Nat) (hk : k < n) (h0 : I k r h)
    (hr : ∀ k r h, I k r h → Wp K n b r h (LoopP I k J)) (hq : ∀ e r h, J e r h → Q e r h) : Wp K n (.loop b) r h Q := Wp.mono (wpi_loop I k hk h0 hr) hq

theorem scanUp_go {α : Type} [Inhabited α] {p : α → Bool} {d : Array α} {j i : Nat} (h : i ≤ j) (hp : p d[i]! = true) : scanUp p d j i = scanUp p d j (i + 1) := by rw [scanUp, if_pos (by simp [h,hp])]
theorem scanUp_no {α : Type} [Inhabited α] {p : α → Bool} {d : Array α} {j i : Nat} (hp : p d[i]! = false) : scanUp p d j i = i := by rw [scanUp, if_neg (by simp [hp])]
theorem scanUp_end {α : Type} [Inhabited α] {p : α → Bool} {d : Array α} {j i : Nat} (h : ¬ i ≤ j) : scanUp p d j i = i := by rw [scanUp, if_neg (by simp; omega)]
theorem scanDown_go {α : Type} [Inhabited α] {p : α → Bool} {d : Array α} {j i : Nat} (h : i ≤ j) (hi : 0 < i) (hp : p d[j]! = true) : scanDown p d i j = scanDown p d i (j - 1) := by
  obtain ⟨j, rfl⟩ : ∃ k, j = k + 1 := ⟨j - 1, by omega⟩
  rw [scanDown, if_pos (by simp [h,hp])]; rfl
theorem scanDown_no {α : Type} [Inhabited α] {p : α → Bool} {d : Array α} {j i : Nat} (hp : p d[j]! = false) : scanDown p d i j = j := by
  cases j with
  | zero => rfl
  | succ j => rw [scanDown, if_neg (by simp [hp])]
theorem scanDown_end {α : Type} [Inhabited α] {p : α → Bool} {d : Array α} {j i : Nat} (h : ¬ i ≤ j) : scanDown p d i j = j := by
  cases j with
  | zero => rfl
  | succ j => rw [scanDown, if_neg (by simp; omega)]

section
variable {α : Type} [Inhabited α] {F : Fns} {I : SortIds} {ag : Bool} {sz : Nat} {e : α → AV} {lt : α → α → Bool} {tot : Bool} {ω : Nat → Nat} {B : Nat} {g : FuncId} {fs caps : List AV} {h0 : Hp} {id : Nat} {pre post : List AV}

set_option maxRecDepth 100000 in
set_option maxHeartbeats 8000000 in
theorem s_peq (C : Srt F I ag sz e lt tot ω B g fs caps h0 id pre post) (c : Bool) (d : Array α) (a b pv n : Nat) (h : Hp) (hd : d.size ≤ 1000000000) (ha : a ≤ pv) (hpv : pv < b) (hb : b ≤ d.size)
    (hL : Lies h0 id sz (Full e pre post d) h) (hn : B + d.size + 7 < n) :
    ∃ h', call F n tot ω I.peq [.row id sz pre.length d.size c, .int .i64 a, .int .i64 b, .int .i64 pv, .fn (.func g) fs caps] h = some (.int .i64 (partitionEqual lt d a b pv).1, h') ∧ Lies h0 id sz (Full e pre post (partitionEqual lt d a b pv).2) h' := by
  obtain ⟨n, rfl⟩ : ∃ m, n = m + 1 := ⟨n - 1, by omega⟩
  suffices hx : ∃ v h', call F (n + 1) tot ω I.peq [.row id sz pre.length d.size c, .int .i64 a, .int .i64 b, .int .i64 pv, .fn (.func g) fs caps] h = some (v, h') ∧ v = .int .i64 (partitionEqual lt d a b pv).1 ∧ Lies h0 id sz (Full e pre post (partitionEqual lt d a b pv).2) h' by
    obtain ⟨v, h', e1, rfl, e2⟩ := hx
    exact ⟨h', e1, e2⟩
  refine call_of (fn := I.a_peq ag sz) C.fns.peq (P := fun v h' => v = .int .i64 (partitionEqual lt d a b pv).1 ∧ Lies h0 id sz (Full e pre post (partitionEqual lt d a b pv).2) h') ?_
  unfold SortIds.a_peq
  have hE := C.enc
  have q1 := hL.row
  have q3 := hL.idlt
  have f0 : ((b : Int) - 1) = ((b - 1 : Nat) : Int) := by omega
  simp (maxSteps := 2000000) (discharger := omega) only [xz,xc,xo,xr,x0,x1,x5,xd,wr,Reg.isA,Reg.isV,Reg.stays,Reg.onto,↓reduceIte,reduceCtorEq,Nat.reduceEqDiff,Nat.reduceLT,Nat.reduceAdd,wrap_i64,int_lt_t,int_le_t,full_get,full_get1,full_set,full_set1,get_set_self,List.set_set,q1,f0,hE.sub,hE.upd,hE.nt,hE.len]
  refine wpi_loop (fun k r g' => ∃ (i j : Nat) (d' : Array α), r = [(0, .val (.row id sz pre.length d.size c)), (1, .val (.int .i64 a)), (4, .val (.fn (.func g) fs caps)), (11, .val (.int .i64 i)), (12, .val (.int .i64 j))] ∧
    k = j + 1 - i ∧ a < i ∧ i ≤ j + 1 ∧ j < b ∧ Lies h0 id sz (Full e pre post d') g' ∧ d'.size = d.size ∧ partEqLoop lt a i j d' = partitionEqual lt d a b pv) (b - 1 + 1 - (a + 1)) (by omega)
    ⟨a + 1, b - 1, swp d a pv, rfl, by omega, by omega, by omega, by omega, hL.set, swp_size _ _ _, rfl⟩ ?_
  rintro k r g' ⟨i, j, d', rfl, rfl, hai, hij, hjb, hL, hd', hf⟩
  rw [partEqLoop_eq] at hf
  simp (maxSteps := 2000000) only [xc]
  refine wpi_loop' (fun k r g' => ∃ (i' : Nat), r = [(0, .val (.row id sz pre.length d.size c)), (1, .val (.int .i64 a)), (4, .val (.fn (.func g) fs caps)), (11, .val (.int .i64 i')), (12, .val (.int .i64 j))] ∧
    k = j + 1 - i' ∧ a < i' ∧ i' ≤ j + 1 ∧ Lies h0 id sz (Full e pre post d') g' ∧ scanUp (fun x => !lt d'[a]! x) d' j i' = scanUp (fun x => !lt d'[a]! x) d' j i)
    (fun e' r g' => e' = .exit 2 ∧ r = [(0, .val (.row id sz pre.length d.size c)), (1, .val (.int .i64 a)), (4, .val (.fn (.func g) fs caps)), (11, .val (.int .i64 (scanUp (fun x => !lt d'[a]! x) d' j i))), (12, .val (.int .i64 j)), (47, .val (.bool false))] ∧ Lies h0 id sz (Full e pre post d') g') (j + 1 - i) (by omega)
    ⟨i, rfl, rfl, hai, hij, hL, rfl⟩ ?_ ?_
  · rintro k r g' ⟨i', rfl, rfl, hai', hij', hL, hs⟩
    by_cases hle : i' ≤ j
    · obtain ⟨rr, g2, hc1, hc2, hc3⟩ := C.cmp n (by omega) d'[a]! d'[i']! d' _ hL
      have hL2 := hL.more hc2
      have q1 := hL.row
      by_cases hr : rr < 0
      · rw [scanUp_no (by simp [← hc3,hr])] at hs
        simp (maxSteps := 2000000) (discharger := omega) only [xz,xc,xo,xr,x0,x1,x2,xd,kont_call,Reg.isA,Reg.isV,Reg.stays,Reg.onto,↓reduceIte,reduceCtorEq,Nat.reduceEqDiff,Nat.reduceLT,beq_self_eq_true,int_lt_t,int_le_t,full_get,q1,hc1,hr,hE.sub]
        rw [hs]; exact ⟨rfl, hL2⟩
      · rw [scanUp_go hle (by simp [← hc3,hr])] at hs
        simp (maxSteps := 2000000) (discharger := omega) only [xz,xc,xo,xr,x0,x1,x2,xd,kont_call,Reg.isA,Reg.isV,Reg.stays,Reg.onto,↓reduceIte,reduceCtorEq,Nat.reduceEqDiff,Nat.reduceLT,beq_self_eq_true,wrap_i64,int_lt_t,int_le_t,full_get,q1,hc1,hr,hE.sub]
        exact ⟨j + 1 - (i' + 1), by omega, i' + 1, rfl, rfl, by omega, by omega, hL2, hs⟩
    · rw [scanUp_end hle] at hs
      simp (maxSteps := 2000000) (discharger := omega) only [xz,xc,xo,xr,x0,x1,xd,xb,Reg.isA,Reg.isV,Reg.stays,Reg.onto,↓reduceIte,reduceCtorEq,Nat.reduceEqDiff,Nat.reduceLT,int_le_f]
      rw [hs]; exact ⟨rfl, hL⟩
  rintro e' r g' ⟨rfl, rfl, hL⟩
  obtain ⟨i2, hi2⟩ : ∃ i2, i2 = scanUp (fun x => !lt d'[a]! x) d' j i := ⟨_, rfl⟩
  have us := scanUp_spec (fun x => !lt d'[a]! x) d' j _ i rfl
  rw [← hi2] at hf us ⊢
  have u2 := us.2.1 hij
  simp (maxSteps := 2000000) only [xc,↓reduceIte]
  refine wpi_loop' (fun k r g' => ∃ (j' : Nat) (xr : Regs), r = (0, .val (.row id sz pre.length d.size c)) :: (1, .val (.int .i64 a)) :: (4, .val (.fn (.func g) fs caps)) :: (11, .val (.int .i64 i2)) :: (12, .val (.int .i64 j')) :: xr ∧ (xr = [] ∨ xr = [(47, .val (.bool false))]) ∧
    k = j' + 1 - i2 ∧ j' ≤ j ∧ i2 ≤ j' + 1 ∧ Lies h0 id sz (Full e pre post d') g' ∧ scanDown (fun x => lt d'[a]! x) d' i2 j' = scanDown (fun x => lt d'[a]! x) d' i2 j)
    (fun e' r g' => e' = .exit 4 ∧ r = [(0, .val (.row id sz pre.length d.size c)), (1, .val (.int .i64 a)), (4, .val (.fn (.func g) fs caps)), (11, .val (.int .i64 i2)), (12, .val (.int .i64 (scanDown (fun x => lt d'[a]! x) d' i2 j))), (65, .val (.bool false))] ∧ Lies h0 id sz (Full e pre post d') g') (j + 1 - i2) (by omega)
    ⟨j, _, rfl, .inr rfl, rfl, by omega, by omega, hL, rfl⟩ ?_ ?_
  · rintro k r g' ⟨j', e', rfl, he, rfl, hjj, hij', hL, hs⟩
    by_cases hle : i2 ≤ j'
    · obtain ⟨rr, g2, hc1, hc2, hc3⟩ := C.cmp n (by omega) d'[a]! d'[j']! d' _ hL
      have hL2 := hL.more hc2
      have q1 := hL.row
      by_cases hr : rr < 0
      · rw [scanDown_go hle (by omega) (by simp [← hc3,hr])] at hs
        rcases he with rfl | rfl <;> simp (maxSteps := 2000000) (discharger := omega) only [xz,xc,xo,xr,x0,x1,xd,kont_call,Reg.isA,Reg.isV,Reg.stays,Reg.onto,↓reduceIte,reduceCtorEq,Nat.reduceEqDiff,Nat.reduceLT,beq_self_eq_true,wrap_i64,int_lt_t,int_le_t,full_get,q1,hc1,hr,hE.sub] <;>
        exact ⟨j' - 1 + 1 - i2, by omega, j' - 1, [], by rw [show ((j' - 1 : Nat) : Int) = (j' : Int) - 1 by omega], .inl rfl, rfl, by omega, by omega, hL2, hs⟩
      · rw [scanDown_no (by simp [← hc3,hr])] at hs
        rcases he with rfl | rfl <;> simp (maxSteps := 2000000) (discharger := omega) only [xz,xc,xo,xr,x0,x1,xd,kont_call,Reg.isA,Reg.isV,Reg.stays,Reg.onto,↓reduceIte,reduceCtorEq,Nat.reduceEqDiff,Nat.reduceLT,beq_self_eq_true,int_lt_t,int_le_t,full_get,q1,hc1,hr,hE.sub] <;>
        (rw [hs]; exact ⟨rfl, hL2⟩)
    · rw [scanDown_end hle] at hs
      rcases he with rfl | rfl <;> simp (maxSteps := 2000000) (discharger := omega) only [xz,xc,xo,xr,x0,x1,xd,xb,Reg.isA,Reg.isV,Reg.stays,Reg.onto,↓reduceIte,reduceCtorEq,Nat.reduceEqDiff,Nat.reduceLT,int_le_f] <;>
      (rw [hs]; exact ⟨rfl, hL⟩)
  rintro e' r g' ⟨rfl, rfl, hL⟩
  obtain ⟨j2, hj2⟩ : ∃ j2, j2 = scanDown (fun x => lt d'[a]! x) d' i2 j := ⟨_, rfl⟩
  have ds := scanDown_spec (fun x => lt d'[a]! x) d' i2 j
  rw [← hj2] at hf ds ⊢
  have d1 := ds.1
  have d2 := ds.2.1 u2
  have u1 := us.1
  have q1 := hL.row
  have q3 := hL.idlt
  have hne : i2 ≤ j2 → i2 ≠ j2 := by
    rintro h1 rfl
    have h2 := us.2.2.2 (by omega)
    have h3 := ds.2.2.2 h1 (by omega)
    simp only [h3] at h2
    cases h2
  by_cases hgt : i2 > j2
  · rw [if_pos hgt] at hf
    simp (maxSteps := 2000000) (discharger := omega) only [xz,xc,xo,xr,x0,x1,xd,Reg.isA,Reg.isV,Reg.stays,Reg.onto,↓reduceIte,reduceCtorEq,Nat.reduceEqDiff,Nat.reduceLT,exists_eq_left',int_lt_t]
    rw [← hf]; exact ⟨rfl, hL⟩
  · rw [if_neg hgt] at hf
    simp (maxSteps := 2000000) (discharger := omega) only [xz,xc,xo,xr,x0,x1,x5,xd,wr,Reg.isA,Reg.isV,Reg.stays,Reg.onto,↓reduceIte,reduceCtorEq,Nat.reduceEqDiff,Nat.reduceLT,wrap_i64,int_lt_t,int_lt_f,int_le_t,full_get,full_get1,full_set,full_set1,get_set_self,List.set_set,q1,hE.sub,hE.upd,hE.nt,hE.len]
    have hne2 := hne (by omega)
    exact ⟨j2 - 1 + 1 - (i2 + 1), by omega, i2 + 1, j2 - 1, swp d' i2 j2, by rw [show ((j2 - 1 : Nat) : Int) = (j2 : Int) - 1 by omega]; rfl, rfl, by omega, by omega, by omega, hL.set, by rw [swp_size]; exact hd', hf⟩

theorem partition_eq (d : Array α) (a b pv : Nat) : partition lt d a b pv = (let d := swp d a pv
    let i := scanUp (fun x => lt x d[a]!) d (b - 1) (a + 1)
    let j := scanDown (fun x => !lt x d[a]!) d i (b - 1)
    if i > j then (j, true, swp d j a) else ((partLoop lt a (i + 1) (j - 1) (swp d i j)).1, false, swp (partLoop lt a (i + 1) (j - 1) (swp d i j)).2 (partLoop lt a (i + 1) (j - 1) (swp d i j)).1 a)) := rfl

set_option maxRecDepth 100000 in
set_option maxHeartbeats 8000000 in
theorem s_prt (C : Srt F I ag sz e lt tot ω B g fs caps h0 id pre post) (c : Bool) (d : Array α) (a b pv n : Nat) (h : Hp) (hd : d.size ≤ 1000000000) (ha : a ≤ pv) (hpv : pv < b) (hb : b ≤ d.size)
    (hL : Lies h0 id sz (Full e pre post d) h) (hn : B + d.size + 7 < n) :
    ∃ h', call F n tot ω I.prt [.row id sz pre.length d.size c, .int .i64 a, .int .i64 b, .int .i64 pv, .fn (.func g) fs caps] h = some (.tup [.int .i64 (partition lt d a b pv).1, .bool (partition lt d a b pv).2.1], h') ∧ Lies h0 id sz (Full e pre post (partition lt d a b pv).2.2) h' := by
  obtain ⟨n, rfl⟩ : ∃ m, n = m + 1 := ⟨n - 1, by omega⟩
  suffices hx : ∃ v h', call F (n + 1) tot ω I.prt [.row id sz pre.length d.size c, .int .i64 a, .int .i64 b, .int .i64 pv, .fn (.func g) fs caps] h = some (v, h') ∧ v = .tup [.int .i64 (partition lt d a b pv).1, .bool (partition lt d a b pv).2.1] ∧ Lies h0 id sz (Full e pre post (partition lt d a b pv).2.2) h' by
    obtain ⟨v, h', e1, rfl, e2⟩ := hx
    exact ⟨h', e1, e2⟩
  refine call_of (fn := I.a_prt ag sz) C.fns.prt (P := fun v h' => v = .tup [.int .i64 (partition lt d a b pv).1, .bool (partition lt d a b pv).2.1] ∧ Lies h0 id sz (Full e pre post (partition lt d a b pv).2.2) h') ?_
  obtain ⟨P, hP⟩ : ∃ P, P = partition lt d a b pv := ⟨_, rfl⟩
  rw [← hP]
  rw [partition_eq] at hP
  simp only [] at hP
  unfold SortIds.a_prt
  have hE := C.enc
  have q1 := hL.row
  have q3 := hL.idlt
  have f0 : ((b : Int) - 1) = ((b - 1 : Nat) : Int) := by omega
  simp (maxSteps := 2000000) (discharger := omega) only [xz,xc,xo,xr,x0,x1,x5,xd,wr,Reg.isA,Reg.isV,Reg.stays,Reg.onto,↓reduceIte,reduceCtorEq,Nat.reduceEqDiff,Nat.reduceLT,Nat.reduceAdd,wrap_i64,int_lt_t,int_le_t,full_get,full_get1,full_set,full_set1,get_set_self,List.set_set,q1,f0,hE.sub,hE.upd,hE.nt,hE.len]
  replace hL := hL.set (es' := Full e pre post (swp d a pv))
  rw [show h.set id (.row sz (Full e pre post ((d.setIfInBounds a d[pv]!).setIfInBounds pv d[a]!))) = h.set id (.row sz (Full e pre post (swp d a pv))) from rfl]
  obtain ⟨d', hd'⟩ : ∃ d', d' = swp d a pv := ⟨_, rfl⟩
  rw [← hd'] at hL hP ⊢
  have hds : d'.size = d.size := by rw [hd', swp_size]
  obtain ⟨i, hi⟩ : ∃ i, i = a + 1 := ⟨_, rfl⟩
  obtain ⟨j, hj⟩ : ∃ j, j = b - 1 := ⟨_, rfl⟩
  rw [show ((a : Int) + 1) = (i : Int) by omega, ← hj]
  rw [← hi, ← hj] at hP
  have hij : i ≤ j + 1 := by omega
  generalize h.set id (.row sz (Full e pre post d')) = gg at hL ⊢
  refine wpi_loop' (fun k r g' => ∃ (i' : Nat), r = [(0, .val (.row id sz pre.length d.size c)), (1, .val (.int .i64 a)), (4, .val (.fn (.func g) fs caps)), (12, .val (.int .i64 i')), (13, .val (.int .i64 j))] ∧
    k = j + 1 - i' ∧ a < i' ∧ i' ≤ j + 1 ∧ Lies h0 id sz (Full e pre post d') g' ∧ scanUp (fun x => lt x d'[a]!) d' j i' = scanUp (fun x => lt x d'[a]!) d' j i)
    (fun e' r g' => e' = .exit 0 ∧ r = [(0, .val (.row id sz pre.length d.size c)), (1, .val (.int .i64 a)), (4, .val (.fn (.func g) fs caps)), (12, .val (.int .i64 (scanUp (fun x => lt x d'[a]!) d' j i))), (13, .val (.int .i64 j)), (47, .val (.bool false))] ∧ Lies h0 id sz (Full e pre post d') g') (j + 1 - i) (by omega)
    ⟨i, rfl, rfl, by omega, hij, hL, rfl⟩ ?_ ?_
  · rintro k r g' ⟨i', rfl, rfl, hai', hij', hL, hs⟩
    by_cases hle : i' ≤ j
    · obtain ⟨rr, g2, hc1, hc2, hc3⟩ := C.cmp n (by omega) d'[i']! d'[a]! d' _ hL
      have hL2 := hL.more hc2
      have q1 := hL.row
      by_cases hr : rr < 0
      · rw [scanUp_go hle (by simp [← hc3,hr])] at hs
        simp (maxSteps := 2000000) (discharger := omega) only [xz,xc,xo,xr,x0,x1,xd,kont_call,Reg.isA,Reg.isV,Reg.stays,Reg.onto,↓reduceIte,reduceCtorEq,Nat.reduceEqDiff,Nat.reduceLT,beq_self_eq_true,wrap_i64,int_lt_t,int_le_t,full_get,q1,hc1,hr,hE.sub]
        exact ⟨j + 1 - (i' + 1), by omega, i' + 1, rfl, rfl, by omega, by omega, hL2, hs⟩
      · rw [scanUp_no (by simp [← hc3,hr])] at hs
        simp (maxSteps := 2000000) (discharger := omega) only [xz,xc,xo,xr,x0,x1,xd,kont_call,Reg.isA,Reg.isV,Reg.stays,Reg.onto,↓reduceIte,reduceCtorEq,Nat.reduceEqDiff,Nat.reduceLT,beq_self_eq_true,int_lt_t,int_le_t,full_get,q1,hc1,hr,hE.sub]
        rw [hs]; exact ⟨rfl, hL2⟩
    · rw [scanUp_end hle] at hs
      simp (maxSteps := 2000000) (discharger := omega) only [xz,xc,xo,xr,x0,x1,xd,xb,Reg.isA,Reg.isV,Reg.stays,Reg.onto,↓reduceIte,reduceCtorEq,Nat.reduceEqDiff,Nat.reduceLT,int_le_f]
      rw [hs]; exact ⟨rfl, hL⟩
  rintro e' r g' ⟨rfl, rfl, hL⟩
  obtain ⟨i2, hi2⟩ : ∃ i2, i2 = scanUp (fun x => lt x d'[a]!) d' j i := ⟨_, rfl⟩
  have us := scanUp_spec (fun x => lt x d'[a]!) d' j _ i rfl
  rw [← hi2] at hP us ⊢
  have u2 := us.2.1 hij
  have u1 := us.1
  simp (maxSteps := 2000000) only [xc,↓reduceIte]
  refine wpi_loop' (fun k r g' => ∃ (j' : Nat) (xr : Regs), r = (0, .val (.row id sz pre.length d.size c)) :: (1, .val (.int .i64 a)) :: (4, .val (.fn (.func g) fs caps)) :: (12, .val (.int .i64 i2)) :: (13, .val (.int .i64 j')) :: xr ∧ (xr = [] ∨ xr = [(47, .val (.bool false))]) ∧
    k = j' + 1 - i2 ∧ j' ≤ j ∧ i2 ≤ j' + 1 ∧ Lies h0 id sz (Full e pre post d') g' ∧ scanDown (fun x => !lt x d'[a]!) d' i2 j' = scanDown (fun x => !lt x d'[a]!) d' i2 j)
    (fun e' r g' => e' = .exit 2 ∧ r = [(0, .val (.row id sz pre.length d.size c)), (1, .val (.int .i64 a)), (4, .val (.fn (.func g) fs caps)), (12, .val (.int .i64 i2)), (13, .val (.int .i64 (scanDown (fun x => !lt x d'[a]!) d' i2 j))), (66, .val (.bool false))] ∧ Lies h0 id sz (Full e pre post d') g') (j + 1 - i2) (by omega)
    ⟨j, _, rfl, .inr rfl, rfl, by omega, by omega, hL, rfl⟩ ?_ ?_
  · rintro k r g' ⟨j', e', rfl, he, rfl, hjj, hij', hL, hs⟩
    by_cases hle : i2 ≤ j'
    · obtain ⟨rr, g2, hc1, hc2, hc3⟩ := C.cmp n (by omega) d'[j']! d'[a]! d' _ hL
      have hL2 := hL.more hc2
      have q1 := hL.row
      by_cases hr : rr < 0
      · rw [scanDown_no (by simp [← hc3,hr])] at hs
        rcases he with rfl | rfl <;> simp (maxSteps := 2000000) (discharger := omega) only [xz,xc,xo,xr,x0,x1,x2,xd,kont_call,Reg.isA,Reg.isV,Reg.stays,Reg.onto,↓reduceIte,reduceCtorEq,Nat.reduceEqDiff,Nat.reduceLT,beq_self_eq_true,int_lt_t,int_le_t,full_get,q1,hc1,hr,hE.sub] <;>
        (rw [hs]; exact ⟨rfl, hL2⟩)
      · rw [scanDown_go hle (by omega) (by simp [← hc3,hr])] at hs
        rcases he with rfl | rfl <;> simp (maxSteps := 2000000) (discharger := omega) only [xz,xc,xo,xr,x0,x1,x2,xd,kont_call,Reg.isA,Reg.isV,Reg.stays,Reg.onto,↓reduceIte,reduceCtorEq,Nat.reduceEqDiff,Nat.reduceLT,beq_self_eq_true,wrap_i64,int_lt_t,int_le_t,full_get,q1,hc1,hr,hE.sub] <;>
        exact ⟨j' - 1 + 1 - i2, by omega, j' - 1, [], by rw [show ((j' - 1 : Nat) : Int) = (j' : Int) - 1 by omega], .inl rfl, rfl, by omega, by omega, hL2, hs⟩
    · rw [scanDown_end hle] at hs
      rcases he with rfl | rfl <;> simp (maxSteps := 2000000) (discharger := omega) only [xz,xc,xo,xr,x0,x1,xd,xb,Reg.isA,Reg.isV,Reg.stays,Reg.onto,↓reduceIte,reduceCtorEq,Nat.reduceEqDiff,Nat.reduceLT,int_le_f] <;>
      (rw [hs]; exact ⟨rfl, hL⟩)
  rintro e' r g' ⟨rfl, rfl, hL⟩
  obtain ⟨j2, hj2⟩ : ∃ j2, j2 = scanDown (fun x => !lt x d'[a]!) d' i2 j := ⟨_, rfl⟩
  have ds := scanDown_spec (fun x => !lt x d'[a]!) d' i2 j
  rw [← hj2] at hP ds ⊢
  have d1 := ds.1
  have d2 := ds.2.1 u2
  have q1 := hL.row
  have q3 := hL.idlt
  have hne : i2 ≤ j2 → i2 ≠ j2 := by
    rintro h1 rfl
    have h2 := us.2.2.2 (by omega)
    have h3 := ds.2.2.2 h1 (by omega)
    simp only [h2] at h3
    cases h3
  by_cases hgt : i2 > j2
  · rw [if_pos hgt] at hP
    simp (maxSteps := 2000000) (discharger := omega) only [xz,xc,xo,xr,x0,x1,x5,xd,wr,Reg.isA,Reg.isV,Reg.stays,Reg.onto,↓reduceIte,reduceCtorEq,Nat.reduceEqDiff,Nat.reduceLT,exists_eq_left',int_lt_t,int_le_t,full_get,full_get1,full_set,full_set1,get_set_self,List.set_set,q1,hE.sub,hE.upd,hE.nt,hE.len]
    rw [hP]; exact ⟨rfl, hL.set⟩
  rw [if_neg hgt] at hP
  have hne2 := hne (by omega)
  simp (maxSteps := 2000000) (discharger := omega) only [xz,xc,xo,xr,x0,x1,x5,xd,wr,Reg.isA,Reg.isV,Reg.stays,Reg.onto,↓reduceIte,reduceCtorEq,Nat.reduceEqDiff,Nat.reduceLT,wrap_i64,int_lt_t,int_lt_f,int_le_t,full_get,full_get1,full_set,full_set1,get_set_self,List.set_set,q1,hE.sub,hE.upd,hE.nt,hE.len]
  refine wpi_loop' (fun k r g' => ∃ (i j : Nat) (d2 : Array α), r = [(0, .val (.row id sz pre.length d.size c)), (1, .val (.int .i64 a)), (4, .val (.fn (.func g) fs caps)), (12, .val (.int .i64 i)), (13, .val (.int .i64 j))] ∧
    k = j + 1 - i ∧ a < i ∧ i ≤ j + 1 ∧ j < b ∧ Lies h0 id sz (Full e pre post d2) g' ∧ d2.size = d.size ∧ partLoop lt a i j d2 = partLoop lt a (i2 + 1) (j2 - 1) (swp d' i2 j2))
    (fun e' r g' => e' = .exit 4 ∧ ∃ (i : Nat) (xr : Regs), r = (0, .val (.row id sz pre.length d.size c)) :: (1, .val (.int .i64 a)) :: (4, .val (.fn (.func g) fs caps)) :: (12, .val (.int .i64 i)) :: (13, .val (.int .i64 (partLoop lt a (i2 + 1) (j2 - 1) (swp d' i2 j2)).1)) :: xr ∧ xr = [(144, .val (.bool true))] ∧
      Lies h0 id sz (Full e pre post (partLoop lt a (i2 + 1) (j2 - 1) (swp d' i2 j2)).2) g' ∧ (partLoop lt a (i2 + 1) (j2 - 1) (swp d' i2 j2)).2.size = d.size ∧ (partLoop lt a (i2 + 1) (j2 - 1) (swp d' i2 j2)).1 < b) (j2 - 1 + 1 - (i2 + 1)) (by omega)
    ⟨i2 + 1, j2 - 1, swp d' i2 j2, by rw [show ((j2 - 1 : Nat) : Int) = (j2 : Int) - 1 by omega]; rfl, by omega, by omega, by omega, by omega, hL.set, by rw [swp_size]; exact hds, rfl⟩ ?_ ?_
  · rintro k r g' ⟨i, j, d', rfl, rfl, hai, hij, hjb, hL, hds, hf⟩
    rw [partLoop_eq] at hf
    simp (maxSteps := 2000000) only [xc]
    refine wpi_loop' (fun k r g' => ∃ (i' : Nat), r = [(0, .val (.row id sz pre.length d.size c)), (1, .val (.int .i64 a)), (4, .val (.fn (.func g) fs caps)), (12, .val (.int .i64 i')), (13, .val (.int .i64 j))] ∧
      k = j + 1 - i' ∧ a < i' ∧ i' ≤ j + 1 ∧ Lies h0 id sz (Full e pre post d') g' ∧ scanUp (fun x => lt x d'[a]!) d' j i' = scanUp (fun x => lt x d'[a]!) d' j i)
      (fun e' r g' => e' = .exit 6 ∧ r = [(0, .val (.row id sz pre.length d.size c)), (1, .val (.int .i64 a)), (4, .val (.fn (.func g) fs caps)), (12, .val (.int .i64 (scanUp (fun x => lt x d'[a]!) d' j i))), (13, .val (.int .i64 j)), (120, .val (.bool false))] ∧ Lies h0 id sz (Full e pre post d') g') (j + 1 - i) (by omega)
      ⟨i, rfl, rfl, hai, hij, hL, rfl⟩ ?_ ?_
    · rintro k r g' ⟨i', rfl, rfl, hai', hij', hL, hs⟩
      by_cases hle : i' ≤ j
      · obtain ⟨rr, g2, hc1, hc2, hc3⟩ := C.cmp n (by omega) d'[i']! d'[a]! d' _ hL
        have hL2 := hL.more hc2
        have q1 := hL.row
        by_cases hr : rr < 0
        · rw [scanUp_go hle (by simp [← hc3,hr])] at hs
          simp (maxSteps := 2000000) (discharger := omega) only [xz,xc,xo,xr,x0,x1,xd,kont_call,Reg.isA,Reg.isV,Reg.stays,Reg.onto,↓reduceIte,reduceCtorEq,Nat.reduceEqDiff,Nat.reduceLT,beq_self_eq_true,wrap_i64,int_lt_t,int_le_t,full_get,q1,hc1,hr,hE.sub]
          exact ⟨j + 1 - (i' + 1), by omega, i' + 1, rfl, rfl, by omega, by omega, hL2, hs⟩
        · rw [scanUp_no (by simp [← hc3,hr])] at hs
          simp (maxSteps := 2000000) (discharger := omega) only [xz,xc,xo,xr,x0,x1,xd,kont_call,Reg.isA,Reg.isV,Reg.stays,Reg.onto,↓reduceIte,reduceCtorEq,Nat.reduceEqDiff,Nat.reduceLT,beq_self_eq_true,int_lt_t,int_le_t,full_get,q1,hc1,hr,hE.sub]
          rw [hs]; exact ⟨rfl, hL2⟩
      · rw [scanUp_end hle] at hs
        simp (maxSteps := 2000000) (discharger := omega) only [xz,xc,xo,xr,x0,x1,xd,xb,Reg.isA,Reg.isV,Reg.stays,Reg.onto,↓reduceIte,reduceCtorEq,Nat.reduceEqDiff,Nat.reduceLT,int_le_f]
        rw [hs]; exact ⟨rfl, hL⟩
    rintro e' r g' ⟨rfl, rfl, hL⟩
    obtain ⟨i2, hi2⟩ : ∃ i2, i2 = scanUp (fun x => lt x d'[a]!) d' j i := ⟨_, rfl⟩
    have us := scanUp_spec (fun x => lt x d'[a]!) d' j _ i rfl
    rw [← hi2] at hf us ⊢
    have u2 := us.2.1 hij
    have u1 := us.1
    simp (maxSteps := 2000000) only [xc,↓reduceIte]
    refine wpi_loop' (fun k r g' => ∃ (j' : Nat) (xr : Regs), r = (0, .val (.row id sz pre.length d.size c)) :: (1, .val (.int .i64 a)) :: (4, .val (.fn (.func g) fs caps)) :: (12, .val (.int .i64 i2)) :: (13, .val (.int .i64 j')) :: xr ∧ (xr = [] ∨ xr = [(120, .val (.bool false))]) ∧
      k = j' + 1 - i2 ∧ j' ≤ j ∧ i2 ≤ j' + 1 ∧ Lies h0 id sz (Full e pre post d') g' ∧ scanDown (fun x => !lt x d'[a]!) d' i2 j' = scanDown (fun x => !lt x d'[a]!) d' i2 j)
      (fun e' r g' => e' = .exit 8 ∧ r = [(0, .val (.row id sz pre.length d.size c)), (1, .val (.int .i64 a)), (4, .val (.fn (.func g) fs caps)), (12, .val (.int .i64 i2)), (13, .val (.int .i64 (scanDown (fun x => !lt x d'[a]!) d' i2 j))), (139, .val (.bool false))] ∧ Lies h0 id sz (Full e pre post d') g') (j + 1 - i2) (by omega)
      ⟨j, _, rfl, .inr rfl, rfl, by omega, by omega, hL, rfl⟩ ?_ ?_
    · rintro k r g' ⟨j', e', rfl, he, rfl, hjj, hij', hL, hs⟩
      by_cases hle : i2 ≤ j'
      · obtain ⟨rr, g2, hc1, hc2, hc3⟩ := C.cmp n (by omega) d'[j']! d'[a]! d' _ hL
        have hL2 := hL.more hc2
        have q1 := hL.row
        by_cases hr : rr < 0
        · rw [scanDown_no (by simp [← hc3,hr])] at hs
          rcases he with rfl | rfl <;> simp (maxSteps := 2000000) (discharger := omega) only [xz,xc,xo,xr,x0,x1,x2,xd,kont_call,Reg.isA,Reg.isV,Reg.stays,Reg.onto,↓reduceIte,reduceCtorEq,Nat.reduceEqDiff,Nat.reduceLT,beq_self_eq_true,int_lt_t,int_le_t,full_get,q1,hc1,hr,hE.sub] <;>
          (rw [hs]; exact ⟨rfl, hL2⟩)
        · rw [scanDown_go hle (by omega) (by simp [← hc3,hr])] at hs
          rcases he with rfl | rfl <;> simp (maxSteps := 2000000) (discharger := omega) only [xz,xc,xo,xr,x0,x1,x2,xd,kont_call,Reg.isA,Reg.isV,Reg.stays,Reg.onto,↓reduceIte,reduceCtorEq,Nat.reduceEqDiff,Nat.reduceLT,beq_self_eq_true,wrap_i64,int_lt_t,int_le_t,full_get,q1,hc1,hr,hE.sub] <;>
          exact ⟨j' - 1 + 1 - i2, by omega, j' - 1, [], by rw [show ((j' - 1 : Nat) : Int) = (j' : Int) - 1 by omega], .inl rfl, rfl, by omega, by omega, hL2, hs⟩
      · rw [scanDown_end hle] at hs
        rcases he with rfl | rfl <;> simp (maxSteps := 2000000) (discharger := omega) only [xz,xc,xo,xr,x0,x1,xd,xb,Reg.isA,Reg.isV,Reg.stays,Reg.onto,↓reduceIte,reduceCtorEq,Nat.reduceEqDiff,Nat.reduceLT,int_le_f] <;>
        (rw [hs]; exact ⟨rfl, hL⟩)
    rintro e' r g' ⟨rfl, rfl, hL⟩
    obtain ⟨j2, hj2⟩ : ∃ j2, j2 = scanDown (fun x => !lt x d'[a]!) d' i2 j := ⟨_, rfl⟩
    have ds := scanDown_spec (fun x => !lt x d'[a]!) d' i2 j
    rw [← hj2] at hf ds ⊢
    have d1 := ds.1
    have d2 := ds.2.1 u2
    have q1 := hL.row
    have q3 := hL.idlt
    have hne : i2 ≤ j2 → i2 ≠ j2 := by
      rintro h1 rfl
      have h2 := us.2.2.2 (by omega)
      have h3 := ds.2.2.2 h1 (by omega)
      simp only [h2] at h3
      cases h3
    by_cases hgt : i2 > j2
    · rw [if_pos hgt] at hf
      simp (maxSteps := 2000000) (discharger := omega) only [xz,xc,xo,xr,x0,x1,xd,Reg.isA,Reg.isV,Reg.stays,Reg.onto,↓reduceIte,reduceCtorEq,Nat.reduceEqDiff,Nat.reduceLT,int_lt_t]
      rw [← hf]; exact ⟨i2, _, rfl, rfl, hL, hds, by omega⟩
    · rw [if_neg hgt] at hf
      simp (maxSteps := 2000000) (discharger := omega) only [xz,xc,xo,xr,x0,x1,x5,xd,wr,Reg.isA,Reg.isV,Reg.stays,Reg.onto,↓reduceIte,reduceCtorEq,Nat.reduceEqDiff,Nat.reduceLT,wrap_i64,int_lt_t,int_lt_f,int_le_t,full_get,full_get1,full_set,full_set1,get_set_self,List.set_set,q1,hE.sub,hE.upd,hE.nt,hE.len]
      have hne2 := hne (by omega)
      exact ⟨j2 - 1 + 1 - (i2 + 1), by omega, i2 + 1, j2 - 1, swp d' i2 j2, by rw [show ((j2 - 1 : Nat) : Int) = (j2 : Int) - 1 by omega]; rfl, rfl, by omega, by omega, by omega, hL.set, by rw [swp_size]; exact hds, hf⟩
  rintro e' r g' ⟨rfl, i, xr, rfl, rfl, hL, hps, hpb⟩
  obtain ⟨R, hR⟩ : ∃ R, R = partLoop lt a (i2 + 1) (j2 - 1) (swp d' i2 j2) := ⟨_, rfl⟩
  rw [← hR] at hL hps hpb hP ⊢
  have q1 := hL.row
  have q3 := hL.idlt
  simp (maxSteps := 2000000) (discharger := omega) only [xz,xc,xo,xr,x0,x1,x5,xd,wr,Reg.isA,Reg.isV,Reg.stays,Reg.onto,↓reduceIte,reduceCtorEq,Nat.reduceEqDiff,Nat.reduceLT,exists_eq_left',int_lt_t,int_le_t,full_get,full_get1,full_set,full_set1,get_set_self,List.set_set,q1,hE.sub,hE.upd,hE.nt,hE.len]
  rw [hP]; exact ⟨rfl, hL.set⟩
end
end Go.Im

/- ImSort7: slices.SortFunc at the idealised machine: the partial insertion. -/
set_option linter.unusedVariables false
set_option linter.unusedSimpArgs false
set_option linter.unusedSectionVars false
namespace Go.Im
open Go.Sort

theorem wpi_cut {K : Kont} {n : Nat} {c : AC} {r : Regs} {h : Hp} {Q : AE → Regs → Hp → Prop} (J : Regs → Hp → Prop) (h1 : Wp K n c r h fun e r h => e = .normal ∧ J r h) (h2 : ∀ r h, J r h → Q .normal r h) : Wp K n c r h Q :=
  Wp.mono h1 fun e r h ⟨he, hj⟩ => he ▸ h2 r h hj

section
variable {α : Type} [Inhabited α] {F : Fns} {I : SortIds} {ag : Bool} {sz : Nat} {e : α → AV} {lt : α → α → Bool} {tot : Bool} {ω : Nat → Nat} {B : Nat} {g : FuncId} {fs caps : List AV} {h0 : Hp} {id : Nat} {pre post : List AV}

theorem shiftDown_succ {j : Nat} {d : Array α} : shiftDown lt (j + 1) d = if !lt d[j + 1]! d[j]! then d else shiftDown lt j (swp d (j + 1) j) := rfl
theorem shiftUp_lt {b j : Nat} {d : Array α} (h : j < b) : shiftUp lt b j d = if !lt d[j]! d[j - 1]! then d else shiftUp lt b (j + 1) (swp d j (j - 1)) := by rw [shiftUp, if_pos h]
theorem shiftUp_ge {b j : Nat} {d : Array α} (h : ¬ j < b) : shiftUp lt b j d = d := by rw [shiftUp, if_neg h]
theorem scanSorted_go {b i : Nat} {d : Array α} (h : i < b) (hl : lt d[i]! d[i - 1]! = false) : scanSorted lt d b i = scanSorted lt d b (i + 1) := by rw [scanSorted, if_pos (by simp [h,hl])]
theorem scanSorted_no {b i : Nat} {d : Array α} (hl : lt d[i]! d[i - 1]! = true) : scanSorted lt d b i = i := by rw [scanSorted, if_neg (by simp [hl])]
theorem scanSorted_end {b i : Nat} {d : Array α} (h : ¬ i < b) : scanSorted lt d b i = i := by rw [scanSorted, if_neg (by simp; omega)]
theorem scanSorted_in (b : Nat) (d : Array α) : ∀ (k i : Nat), b - i = k → i ≤ b → i ≤ scanSorted lt d b i ∧ scanSorted lt d b i ≤ b := by
  intro k
  induction k with
  | zero => intro i h1 h2; rw [scanSorted_end (by omega)]; omega
  | succ k ih =>
    intro i h1 h2
    cases hl : lt d[i]! d[i - 1]! with
    | true => rw [scanSorted_no hl]; omega
    | false => rw [scanSorted_go (by omega) hl]; have := ih (i + 1) (by omega) (by omega); omega

set_option maxRecDepth 100000 in
set_option maxHeartbeats 8000000 in
theorem s_par3 (C : Srt F I ag sz e lt tot ω B g fs caps h0 id pre post) (c : Bool) (d : Array α) (a b i st n : Nat) (h : Hp) (hd : d.size ≤ 1000000000) (ha : a < i) (hi : i < b) (hb : b ≤ d.size) (hst : st ≤ 5)
    (hL : Lies h0 id sz (Full e pre post d) h) (hn : B + d.size + 5 < n) :
    Wp (kont F n tot ω) n (I.par3 ag sz) [(0, .val (.row id sz pre.length d.size c)), (1, .val (.int .i64 a)), (2, .val (.int .i64 b)), (3, .val (.fn (.func g) fs caps)), (9, .val (.int .i64 i)), (10, .val (.int .i64 st))] h
      fun e' r g' => e' = .normal ∧ ∃ ex, r = (0, .val (.row id sz pre.length d.size c)) :: (1, .val (.int .i64 a)) :: (2, .val (.int .i64 b)) :: (3, .val (.fn (.func g) fs caps)) :: (9, .val (.int .i64 i)) :: (10, .val (.int .i64 st)) :: ex ∧
        (ex = [(65, .val (.bool false))] ∨ (∃ j : Int, ex = [(11, .val (.int .i64 j)), (69, .val (.bool false))]) ∨ (∃ j : Int, ex = [(11, .val (.int .i64 j)), (84, .val (.bool true))])) ∧
        Lies h0 id sz (Full e pre post (fixDown lt a i d)) g' := by
  have hE := C.enc
  unfold SortIds.par3
  by_cases h2 : i - a ≥ 2
  · rw [show fixDown lt a i d = shiftDown lt (i - 1) d from if_pos h2]
    simp (maxSteps := 2000000) (discharger := omega) only [xz,xc,xo,xr,x0,x1,xd,Reg.isA,Reg.isV,Reg.stays,Reg.onto,↓reduceIte,reduceCtorEq,Nat.reduceEqDiff,Nat.reduceLT,wrap_i64,int_le_t,show ((i : Int) - 1) = ((i - 1 : Nat) : Int) by omega]
    refine wpi_loop (fun k r g' => ∃ (d' : Array α), r = [(0, .val (.row id sz pre.length d.size c)), (1, .val (.int .i64 a)), (2, .val (.int .i64 b)), (3, .val (.fn (.func g) fs caps)), (9, .val (.int .i64 i)), (10, .val (.int .i64 st)), (11, .val (.int .i64 k))] ∧ k < i ∧
      Lies h0 id sz (Full e pre post d') g' ∧ d'.size = d.size ∧ shiftDown lt k d' = shiftDown lt (i - 1) d) (i - 1) (by omega) ⟨d, rfl, by omega, hL, rfl, rfl⟩ ?_
    rintro j r g' ⟨d', rfl, hji, hL, hd', hf⟩
    cases j with
    | zero =>
      rw [show shiftDown lt 0 d' = d' from rfl] at hf
      simp (maxSteps := 2000000) (discharger := omega) only [xz,xc,xo,xr,x0,x1,xd,Reg.isA,Reg.isV,Reg.stays,Reg.onto,↓reduceIte,reduceCtorEq,Nat.reduceEqDiff,Nat.reduceLT,Int.cast_ofNat_Int,int_le_f]
      rw [← hf]; exact ⟨_, rfl, .inr (.inl ⟨_, rfl⟩), hL⟩
    | succ j =>
      rw [shiftDown_succ] at hf
      obtain ⟨rr, g2, hc1, hc2, hc3⟩ := C.cmp n (by omega) d'[j + 1]! d'[j]! d' _ hL
      have hL2 := hL.more hc2
      have q1 := hL.row
      have q2 := hL2.row
      have q3 := hL2.idlt
      have hj4 : (((j + 1 : Nat) : Int) - 1).toNat = j := by omega
      by_cases hr : rr < 0
      · rw [if_neg (by simp [← hc3,hr])] at hf
        simp (maxSteps := 2000000) (discharger := omega) only [xz,xc,xo,xr,x0,x1,x2,x5,xd,kont_call,wr,Reg.isA,Reg.isV,Reg.stays,Reg.onto,↓reduceIte,reduceCtorEq,Nat.reduceEqDiff,Nat.reduceLT,wrap_i64,int_lt_t,int_le_t,full_get,full_get1,full_set,full_set1,get_set_self,List.set_set,q1,q2,hj4,hc1,hr,hE.sub,hE.upd,hE.nt,hE.len]
        exact ⟨j, by omega, swp d' (j + 1) j, by rw [show ((j + 1 : Nat) : Int) - 1 = (j : Int) by omega], by omega, hL2.set, by rw [swp_size]; exact hd', hf⟩
      · rw [if_pos (by simp [← hc3,hr])] at hf
        simp (maxSteps := 2000000) (discharger := omega) only [xz,xc,xo,xr,x0,x1,x2,xd,kont_call,Reg.isA,Reg.isV,Reg.stays,Reg.onto,↓reduceIte,reduceCtorEq,Nat.reduceEqDiff,Nat.reduceLT,wrap_i64,int_lt_t,int_le_t,full_get,q1,hj4,hc1,hr,hE.sub]
        rw [← hf]; exact ⟨_, rfl, .inr (.inr ⟨_, rfl⟩), hL2⟩
  · rw [show fixDown lt a i d = d from if_neg h2]
    simp (maxSteps := 2000000) (discharger := omega) only [xz,xc,xo,xr,x0,x1,xd,Reg.isA,Reg.isV,Reg.stays,Reg.onto,↓reduceIte,reduceCtorEq,Nat.reduceEqDiff,Nat.reduceLT,wrap_i64,int_le_f]
    exact ⟨_, rfl, .inl rfl, hL⟩

set_option maxRecDepth 100000 in
set_option maxHeartbeats 8000000 in
theorem s_par4 (C : Srt F I ag sz e lt tot ω B g fs caps h0 id pre post) (c : Bool) (d : Array α) (a b i st n : Nat) (h : Hp) (ex : Regs) (hd : d.size ≤ 1000000000) (ha : a < i) (hi : i < b) (hb : b ≤ d.size) (hst : st ≤ 5)
    (hx : ex = [(65, .val (.bool false))] ∨ (∃ j : Int, ex = [(11, .val (.int .i64 j)), (69, .val (.bool false))]) ∨ (∃ j : Int, ex = [(11, .val (.int .i64 j)), (84, .val (.bool true))]))
    (hL : Lies h0 id sz (Full e pre post d) h) (hn : B + d.size + 5 < n) :
    Wp (kont F n tot ω) n (I.par4 ag sz) ((0, .val (.row id sz pre.length d.size c)) :: (1, .val (.int .i64 a)) :: (2, .val (.int .i64 b)) :: (3, .val (.fn (.func g) fs caps)) :: (9, .val (.int .i64 i)) :: (10, .val (.int .i64 st)) :: ex) h
      fun e' r g' => e' = .normal ∧ ∃ ex, r = (0, .val (.row id sz pre.length d.size c)) :: (1, .val (.int .i64 a)) :: (2, .val (.int .i64 b)) :: (3, .val (.fn (.func g) fs caps)) :: (9, .val (.int .i64 i)) :: (10, .val (.int .i64 st)) :: ex ∧
        (ex = [(104, .val (.bool false))] ∨ (∃ j : Int, ex = [(12, .val (.int .i64 j)), (109, .val (.bool false))]) ∨ (∃ j : Int, ex = [(12, .val (.int .i64 j)), (124, .val (.bool true))])) ∧
        Lies h0 id sz (Full e pre post (fixUp lt b i d)) g' := by
  have hE := C.enc
  unfold SortIds.par4
  refine wpi_seq (wpi_cut (fun r g' => r = [(0, .val (.row id sz pre.length d.size c)), (1, .val (.int .i64 a)), (2, .val (.int .i64 b)), (3, .val (.fn (.func g) fs caps)), (9, .val (.int .i64 i)), (10, .val (.int .i64 st)), (104, .val (.bool (decide (b - i ≥ 2))))] ∧ g' = h) ?_ ?_)
  · by_cases h2 : b - i ≥ 2
    · rcases hx with rfl | ⟨j, rfl⟩ | ⟨j, rfl⟩ <;> simp (maxSteps := 2000000) (discharger := omega) only [xz,xc,xo,xr,x0,x1,xd,Reg.isA,Reg.isV,Reg.stays,Reg.onto,↓reduceIte,reduceCtorEq,Nat.reduceEqDiff,Nat.reduceLT,wrap_i64,int_le_t,h2]
    · rcases hx with rfl | ⟨j, rfl⟩ | ⟨j, rfl⟩ <;> simp (maxSteps := 2000000) (discharger := omega) only [xz,xc,xo,xr,x0,x1,xd,Reg.isA,Reg.isV,Reg.stays,Reg.onto,↓reduceIte,reduceCtorEq,Nat.reduceEqDiff,Nat.reduceLT,wrap_i64,int_le_f,h2]
  rintro r g' ⟨rfl, rfl⟩
  by_cases h2 : b - i ≥ 2
  · rw [show fixUp lt b i d = shiftUp lt b (i + 1) d from if_pos h2]
    simp (maxSteps := 2000000) (discharger := omega) only [xz,xc,xo,xr,x0,x1,xd,Reg.isA,Reg.isV,Reg.stays,Reg.onto,↓reduceIte,reduceCtorEq,Nat.reduceEqDiff,Nat.reduceLT,wrap_i64,h2,show ((i : Int) + 1) = ((i + 1 : Nat) : Int) by omega]
    refine wpi_loop (fun k r g' => ∃ (j : Nat) (d' : Array α), r = [(0, .val (.row id sz pre.length d.size c)), (1, .val (.int .i64 a)), (2, .val (.int .i64 b)), (3, .val (.fn (.func g) fs caps)), (9, .val (.int .i64 i)), (10, .val (.int .i64 st)), (12, .val (.int .i64 j))] ∧ k = b - j ∧ i < j ∧ j ≤ b ∧
      Lies h0 id sz (Full e pre post d') g' ∧ d'.size = d.size ∧ shiftUp lt b j d' = shiftUp lt b (i + 1) d) (b - (i + 1)) (by omega) ⟨i + 1, d, rfl, rfl, by omega, by omega, hL, rfl, rfl⟩ ?_
    rintro k r g' ⟨j, d', rfl, rfl, hij, hjb, hL, hd', hf⟩
    by_cases hlt : j < b
    · rw [shiftUp_lt hlt] at hf
      obtain ⟨rr, g2, hc1, hc2, hc3⟩ := C.cmp n (by omega) d'[j]! d'[j - 1]! d' _ hL
      have hL2 := hL.more hc2
      have q1 := hL.row
      have q2 := hL2.row
      have q3 := hL2.idlt
      have hj4 : (((j : Nat) : Int) - 1).toNat = j - 1 := by omega
      by_cases hr : rr < 0
      · rw [if_neg (by simp [← hc3,hr])] at hf
        simp (maxSteps := 2000000) (discharger := omega) only [xz,xc,xo,xr,x0,x1,x2,x5,xd,kont_call,wr,Reg.isA,Reg.isV,Reg.stays,Reg.onto,↓reduceIte,reduceCtorEq,Nat.reduceEqDiff,Nat.reduceLT,wrap_i64,int_lt_t,int_le_t,full_get,full_get1,full_set,full_set1,get_set_self,List.set_set,q1,q2,hj4,hc1,hr,hE.sub,hE.upd,hE.nt,hE.len]
        exact ⟨b - (j + 1), by omega, j + 1, swp d' j (j - 1), rfl, rfl, by omega, by omega, hL2.set, by rw [swp_size]; exact hd', hf⟩
      · rw [if_pos (by simp [← hc3,hr])] at hf
        simp (maxSteps := 2000000) (discharger := omega) only [xz,xc,xo,xr,x0,x1,x2,xd,kont_call,Reg.isA,Reg.isV,Reg.stays,Reg.onto,↓reduceIte,reduceCtorEq,Nat.reduceEqDiff,Nat.reduceLT,wrap_i64,int_lt_t,int_le_t,full_get,q1,hj4,hc1,hr,hE.sub]
        rw [← hf]; exact ⟨_, rfl, .inr (.inr ⟨_, rfl⟩), hL2⟩
    · rw [shiftUp_ge hlt] at hf
      simp (maxSteps := 2000000) (discharger := omega) only [xz,xc,xo,xr,x0,x1,xd,Reg.isA,Reg.isV,Reg.stays,Reg.onto,↓reduceIte,reduceCtorEq,Nat.reduceEqDiff,Nat.reduceLT,int_lt_f]
      rw [← hf]; exact ⟨_, rfl, .inr (.inl ⟨_, rfl⟩), hL⟩
  · rw [show fixUp lt b i d = d from if_neg h2]
    simp (maxSteps := 2000000) (discharger := omega) only [xz,xc,xr,↓reduceIte,reduceCtorEq,Nat.reduceEqDiff,h2]
    exact ⟨_, rfl, .inl rfl, hL⟩

theorem shiftDown_size : ∀ (j : Nat) (d : Array α), (shiftDown lt j d).size = d.size
  | 0, d => rfl
  | j + 1, d => by
    rw [shiftDown_succ]
    split
    · rfl
    · rw [shiftDown_size j, swp_size]
theorem shiftUp_size (b : Nat) : ∀ (k j : Nat) (d : Array α), b - j = k → (shiftUp lt b j d).size = d.size := by
  intro k
  induction k with
  | zero => intro j d h; rw [shiftUp_ge (by omega)]
  | succ k ih =>
    intro j d h
    rw [shiftUp_lt (by omega)]
    split
    · rfl
    · rw [ih (j + 1) _ (by omega), swp_size]
theorem fixDown_size {a i : Nat} {d : Array α} : (fixDown lt a i d).size = d.size := by
  unfold fixDown; split
  · exact shiftDown_size _ _
  · rfl
theorem fixUp_size {b i : Nat} {d : Array α} : (fixUp lt b i d).size = d.size := by
  unfold fixUp; split
  · exact shiftUp_size _ _ _ _ rfl
  · rfl

set_option maxRecDepth 100000 in
set_option maxHeartbeats 8000000 in
theorem s_par (C : Srt F I ag sz e lt tot ω B g fs caps h0 id pre post) (c : Bool) (d : Array α) (a b n : Nat) (h : Hp) (hd : d.size ≤ 1000000000) (ha : a < b) (hb : b ≤ d.size)
    (hL : Lies h0 id sz (Full e pre post d) h) (hn : B + d.size + 7 < n) :
    ∃ h', call F n tot ω I.par [.row id sz pre.length d.size c, .int .i64 a, .int .i64 b, .fn (.func g) fs caps] h = some (.bool (partialInsertionSort lt d a b).2, h') ∧ Lies h0 id sz (Full e pre post (partialInsertionSort lt d a b).1) h' := by
  obtain ⟨n, rfl⟩ : ∃ m, n = m + 1 := ⟨n - 1, by omega⟩
  suffices hx : ∃ v h', call F (n + 1) tot ω I.par [.row id sz pre.length d.size c, .int .i64 a, .int .i64 b, .fn (.func g) fs caps] h = some (v, h') ∧ v = .bool (partialInsertionSort lt d a b).2 ∧ Lies h0 id sz (Full e pre post (partialInsertionSort lt d a b).1) h' by
    obtain ⟨v, h', e1, rfl, e2⟩ := hx
    exact ⟨h', e1, e2⟩
  refine call_of (fn := I.a_par ag sz) C.fns.par (P := fun v h' => v = .bool (partialInsertionSort lt d a b).2 ∧ Lies h0 id sz (Full e pre post (partialInsertionSort lt d a b).1) h') ?_
  unfold SortIds.a_par
  have hE := C.enc
  simp (maxSteps := 2000000) (discharger := omega) only [xz,xc,xo,xr,x0,x1,xd,Reg.isA,Reg.isV,Reg.stays,Reg.onto,↓reduceIte,reduceCtorEq,Nat.reduceEqDiff,Nat.reduceLT,Nat.reduceAdd,wrap_i64,show ((a : Int) + 1) = ((a + 1 : Nat) : Int) by omega]
  refine wpi_loop (fun k r g' => ∃ (i : Nat) (d' : Array α), r = [(0, .val (.row id sz pre.length d.size c)), (1, .val (.int .i64 a)), (2, .val (.int .i64 b)), (3, .val (.fn (.func g) fs caps)), (9, .val (.int .i64 i)), (10, .val (.int .i64 (5 - (k : Int))))] ∧
    k ≤ 5 ∧ a < i ∧ i ≤ b ∧ Lies h0 id sz (Full e pre post d') g' ∧ d'.size = d.size ∧ partialIns lt a b k i d' = partialInsertionSort lt d a b) 5 (by omega) ⟨a + 1, d, rfl, by omega, by omega, by omega, hL, rfl, rfl⟩ ?_
  rintro k r g' ⟨i, d', rfl, hk5, hai, hib, hL, hd', hf⟩
  cases k with
  | zero =>
    rw [show partialIns lt a b 0 i d' = (d', false) from rfl] at hf
    simp (maxSteps := 2000000) (discharger := omega) only [xz,xc,xo,xr,x0,x1,xd,Reg.isA,Reg.isV,Reg.stays,Reg.onto,↓reduceIte,reduceCtorEq,Nat.reduceEqDiff,Nat.reduceLT,Int.cast_ofNat_Int,exists_eq_left',Int.reduceSub,int_lt_f]
    rw [← hf]; exact ⟨rfl, hL⟩
  | succ k =>
    rw [partialIns_succ] at hf
    obtain ⟨st, hst⟩ : ∃ st : Nat, st = 4 - k := ⟨_, rfl⟩
    rw [show (5 - ((k + 1 : Nat) : Int)) = (st : Int) by omega]
    simp (maxSteps := 2000000) (discharger := omega) only [xz,xc,xo,xr,x0,x1,xd,Reg.isA,Reg.isV,Reg.stays,Reg.onto,↓reduceIte,reduceCtorEq,Nat.reduceEqDiff,Nat.reduceLT,int_lt_t]
    refine wpi_loop' (fun q r g' => ∃ (i' : Nat) (ex : Regs), r = (0, .val (.row id sz pre.length d.size c)) :: (1, .val (.int .i64 a)) :: (2, .val (.int .i64 b)) :: (3, .val (.fn (.func g) fs caps)) :: (9, .val (.int .i64 i')) :: (10, .val (.int .i64 st)) :: ex ∧ (ex = [] ∨ ex = [(16, .val (.bool true))]) ∧
      q = b - i' ∧ a < i' ∧ i' ≤ b ∧ Lies h0 id sz (Full e pre post d') g' ∧ scanSorted lt d' b i' = scanSorted lt d' b i)
      (fun e' r g' => e' = .exit 2 ∧ r = [(0, .val (.row id sz pre.length d.size c)), (1, .val (.int .i64 a)), (2, .val (.int .i64 b)), (3, .val (.fn (.func g) fs caps)), (9, .val (.int .i64 (scanSorted lt d' b i))), (10, .val (.int .i64 st)), (36, .val (.bool false))] ∧ Lies h0 id sz (Full e pre post d') g') (b - i) (by omega)
      ⟨i, _, rfl, .inr rfl, rfl, hai, hib, hL, rfl⟩ ?_ ?_
    · rintro q r g' ⟨i', ex, rfl, he, rfl, hai', hib', hL, hs⟩
      by_cases hlt : i' < b
      · obtain ⟨rr, g2, hc1, hc2, hc3⟩ := C.cmp n (by omega) d'[i']! d'[i' - 1]! d' _ hL
        have hL2 := hL.more hc2
        have q1 := hL.row
        have hj4 : (((i' : Nat) : Int) - 1).toNat = i' - 1 := by omega
        by_cases hr : rr < 0
        · rw [scanSorted_no (by simp [← hc3,hr])] at hs
          rcases he with rfl | rfl <;> simp (maxSteps := 2000000) (discharger := omega) only [xz,xc,xo,xr,x0,x1,x2,xd,kont_call,Reg.isA,Reg.isV,Reg.stays,Reg.onto,↓reduceIte,reduceCtorEq,Nat.reduceEqDiff,Nat.reduceLT,beq_self_eq_true,wrap_i64,int_lt_t,int_le_t,full_get,q1,hc1,hr,hE.sub,hj4] <;>
          (rw [hs]; exact ⟨rfl, hL2⟩)
        · rw [scanSorted_go hlt (by simp [← hc3,hr])] at hs
          rcases he with rfl | rfl <;> simp (maxSteps := 2000000) (discharger := omega) only [xz,xc,xo,xr,x0,x1,x2,xd,kont_call,Reg.isA,Reg.isV,Reg.stays,Reg.onto,↓reduceIte,reduceCtorEq,Nat.reduceEqDiff,Nat.reduceLT,beq_self_eq_true,wrap_i64,int_lt_t,int_le_t,full_get,q1,hc1,hr,hE.sub,hj4] <;>
          exact ⟨b - (i' + 1), by omega, i' + 1, [], rfl, .inl rfl, rfl, by omega, by omega, hL2, hs⟩
      · rw [scanSorted_end hlt] at hs
        rcases he with rfl | rfl <;> simp (maxSteps := 2000000) (discharger := omega) only [xz,xc,xo,xr,x0,x1,xd,xb,Reg.isA,Reg.isV,Reg.stays,Reg.onto,↓reduceIte,reduceCtorEq,Nat.reduceEqDiff,Nat.reduceLT,int_lt_f] <;>
        (rw [hs]; exact ⟨rfl, hL⟩)
    rintro e' r g' ⟨rfl, rfl, hL⟩
    obtain ⟨i2, hi2⟩ : ∃ i2, i2 = scanSorted lt d' b i := ⟨_, rfl⟩
    have hin := scanSorted_in (lt := lt) b d' _ i rfl hib
    rw [← hi2] at hf hin ⊢
    by_cases hib2 : i2 = b
    · rw [if_pos hib2] at hf
      simp (maxSteps := 2000000) (discharger := omega) only [xz,xc,xo,xr,x0,x1,xd,Reg.isA,Reg.isV,Reg.stays,Reg.onto,↓reduceIte,reduceCtorEq,Nat.reduceEqDiff,Nat.reduceLT,beq_self_eq_true,exists_eq_left',hib2,beq_self_eq_true]
      rw [← hf]; exact ⟨rfl, hL⟩
    rw [if_neg hib2] at hf
    have hbe : (((i2 : Nat) : Int) == (b : Int)) = false := beq_eq_false_iff_ne.2 (by omega)
    by_cases h50 : b - a < 50
    · rw [if_pos h50] at hf
      simp (maxSteps := 2000000) (discharger := omega) only [xz,xc,xo,xr,x0,x1,xd,Reg.isA,Reg.isV,Reg.stays,Reg.onto,↓reduceIte,reduceCtorEq,Nat.reduceEqDiff,Nat.reduceLT,exists_eq_left',wrap_i64,int_lt_t,hbe]
      rw [← hf]; exact ⟨rfl, hL⟩
    rw [if_neg h50] at hf
    have q1 := hL.row
    have q3 := hL.idlt
    have hj4 : (((i2 : Nat) : Int) - 1).toNat = i2 - 1 := by omega
    have hi1 : ¬ b < i2 := by omega
    simp (maxSteps := 2000000) (discharger := omega) only [xz,xc,xo,xr,x0,x1,x5,xd,wr,Reg.isA,Reg.isV,Reg.stays,Reg.onto,↓reduceIte,reduceCtorEq,Nat.reduceEqDiff,Nat.reduceLT,wrap_i64,int_lt_t,int_lt_f,int_le_t,full_get,full_get1,full_set,full_set1,get_set_self,List.set_set,hbe,q1,hE.sub,hE.upd,hE.nt,hE.len,hj4]
    have hL2 := hL.set (es' := Full e pre post (swp d' i2 (i2 - 1)))
    have hw : (swp d' i2 (i2 - 1)).size = d.size := by rw [swp_size]; exact hd'
    have hp3 := s_par3 C c (swp d' i2 (i2 - 1)) a b i2 st n _ (by omega) (by omega) (by omega) (by omega) (by omega) hL2 (by omega)
    rw [hw] at hp3
    refine wpi_cut _ hp3 ?_
    rintro r g2 ⟨ex, rfl, hx, hL3⟩
    have hp4 := s_par4 C c (fixDown lt a i2 (swp d' i2 (i2 - 1))) a b i2 st n _ ex (by rw [fixDown_size]; omega) (by omega) (by omega) (by rw [fixDown_size]; omega) (by omega) hx hL3 (by rw [fixDown_size]; omega)
    rw [fixDown_size, hw] at hp4
    rw [then_n]
    refine wpi_cut _ hp4 ?_
    rintro r g3 ⟨ex, rfl, hx, hL4⟩
    have hz : (5 : Int) - (k : Int) = (st : Int) + 1 := by omega
    rcases hx with rfl | ⟨j, rfl⟩ | ⟨j, rfl⟩ <;> simp (maxSteps := 2000000) (discharger := omega) only [xz,xc,xo,xr,x0,x1,xd,Reg.isA,Reg.isV,Reg.stays,Reg.onto,↓reduceIte,reduceCtorEq,Nat.reduceEqDiff,Nat.reduceLT,wrap_i64] <;>
    exact ⟨k, by omega, i2, _, by rw [hz], by omega, by omega, by omega, hL4, by rw [fixUp_size, fixDown_size]; exact hw, hf⟩
end
end Go.Im

/- ImSort8: slices.SortFunc at the idealised machine: the whole. -/
set_option linter.unusedVariables false
set_option linter.unusedSimpArgs false
set_option linter.unusedSectionVars false
namespace Go.Im
open Go.Sort

structure Rnd (α : Type) where
  d1 : Array α
  lim : Nat
  c : Nat × Hint
  d2 : Array α
  pivot : Nat
  hint : Hint
  pi : Array α × Bool

section
variable {α : Type} [Inhabited α] {F : Fns} {I : SortIds} {ag : Bool} {sz : Nat} {e : α → AV} {lt : α → α → Bool} {tot : Bool} {ω : Nat → Nat} {B : Nat} {g : FuncId} {fs caps : List AV} {h0 : Hp} {id : Nat} {pre post : List AV}

def rnd (lt : α → α → Bool) (d : Array α) (a b limit : Nat) (wb wp : Bool) : Rnd α :=
  let d1 := if !wb then breakPatterns d a b else d
  let c := choosePivot lt d1 a b
  let d2 := if c.2 = .decreasing then reverseRange d1 a b else d1
  let hint := if c.2 = .decreasing then Hint.increasing else c.2
  { d1 := d1, lim := if !wb then limit - 1 else limit, c := c, d2 := d2, pivot := if c.2 = .decreasing then (b - 1) - (c.1 - a) else c.1, hint := hint,
    pi := if wb && wp && hint = .increasing then partialInsertionSort lt d2 a b else (d2, false) }

theorem pdq_unf (lt : α → α → Bool) (d : Array α) (a b limit : Nat) (wb wp : Bool) : pdq lt d a b limit wb wp =
    if b - a ≤ 12 then insertionSort lt d a b else if limit = 0 then heapSort lt d a b else
    if (rnd lt d a b limit wb wp).pi.2 then (rnd lt d a b limit wb wp).pi.1 else
    if a > 0 && !lt (rnd lt d a b limit wb wp).pi.1[a - 1]! (rnd lt d a b limit wb wp).pi.1[(rnd lt d a b limit wb wp).pivot]! then
      match partitionEqual lt (rnd lt d a b limit wb wp).pi.1 a b (rnd lt d a b limit wb wp).pivot with
      | (mid, d4) => if _h : a < mid ∧ mid ≤ b then pdq lt d4 mid b (rnd lt d a b limit wb wp).lim wb wp else d4
    else
      match partition lt (rnd lt d a b limit wb wp).pi.1 a b (rnd lt d a b limit wb wp).pivot with
      | (mid, alreadyPartitioned, d4) =>
        if _h : a ≤ mid ∧ mid < b then
          if mid - a < b - mid then
            pdq lt (pdq lt d4 a mid (rnd lt d a b limit wb wp).lim true true) (mid + 1) b (rnd lt d a b limit wb wp).lim (decide (mid - a ≥ (b - a) / 8)) alreadyPartitioned
          else
            pdq lt (pdq lt d4 (mid + 1) b (rnd lt d a b limit wb wp).lim true true) a mid (rnd lt d a b limit wb wp).lim (decide (b - mid ≥ (b - a) / 8)) alreadyPartitioned
        else d4 := by
  rw [pdq]
  rfl

def bse (id sz : Nat) (pre : List AV) (N : Nat) (c : Bool) (a b lim : Nat) (g : FuncId) (fs caps : List AV) (wb wp : Bool) (l : Nat) (ex : Regs) : Regs :=
  (0, .val (.row id sz pre.length N c)) :: (1, .val (.int .i64 a)) :: (2, .val (.int .i64 b)) :: (3, .val (.int .i64 lim)) :: (4, .val (.fn (.func g) fs caps)) :: (10, .val (.bool wb)) :: (11, .val (.bool wp)) :: (12, .val (.int .i64 l)) :: ex

theorem breakPatterns_size {d : Array α} {a b : Nat} : (breakPatterns d a b).size = d.size := by
  unfold breakPatterns
  simp only []
  split
  · rw [breakStep_size, breakStep_size, breakStep_size]
  · rfl

set_option maxRecDepth 100000 in
set_option maxHeartbeats 8000000 in
theorem s_pdq1 (C : Srt F I ag sz e lt tot ω B g fs caps h0 id pre post) (c : Bool) (d : Array α) (a b lim n : Nat) (wb wp : Bool) (h : Hp) (hd : d.size ≤ 1000000000) (ha : a + 12 < b) (hb : b ≤ d.size) (hl : lim ≠ 0) (hlm : lim ≤ 100)
    (hL : Lies h0 id sz (Full e pre post d) h) (hn : B + d.size + 15 < n) :
    Wp (kont F n tot ω) n (I.pdq1 ag sz) (bse id sz pre d.size c a b lim g fs caps wb wp (b - a) [(32, .val (.bool false))]) h
      fun e' r g' => e' = .normal ∧ ∃ ex, r = bse id sz pre d.size c a b (if !wb then lim - 1 else lim) g fs caps wb wp (b - a) ex ∧ (ex = [] ∨ ex = [(39, .val (.bool false))]) ∧ Lies h0 id sz (Full e pre post (if !wb then breakPatterns d a b else d)) g' := by
  unfold SortIds.pdq1 bse
  cases wb with
  | true =>
    simp (maxSteps := 2000000) (discharger := omega) only [xz,xc,xo,xr,x0,x2,xd,Reg.isA,Reg.isV,Reg.stays,Reg.onto,↓reduceIte,reduceCtorEq,Nat.reduceEqDiff,Nat.reduceLT]
    exact ⟨_, rfl, .inr rfl, hL⟩
  | false =>
    obtain ⟨g1, k1, l1⟩ := s_brk C c d a b n h hd (by omega) hb hL (by omega)
    simp (maxSteps := 2000000) (discharger := omega) only [xz,xc,xo,xr,x0,x1,x2,xd,kont_call,Reg.isA,Reg.isV,Reg.stays,Reg.onto,↓reduceIte,reduceCtorEq,Nat.reduceEqDiff,Nat.reduceLT,wrap_i64,k1]
    exact ⟨[], by rw [show ((lim - 1 : Nat) : Int) = (lim : Int) - 1 by omega], .inl rfl, l1⟩

theorem reverse_size {d : Array α} {a b : Nat} (ha : a ≤ b) (hb : b ≤ d.size) : (reverseRange d a b).size = d.size := (reverseRange_holds d a b ha hb).1

set_option maxRecDepth 100000 in
set_option maxHeartbeats 8000000 in
theorem s_pdq3 (C : Srt F I ag sz e lt tot ω B g fs caps h0 id pre post) (c : Bool) (d : Array α) (a b lim n pv : Nat) (hint : Hint) (wb wp : Bool) (h : Hp) (hd : d.size ≤ 1000000000) (ha : a + 12 < b) (hb : b ≤ d.size) (h1 : a ≤ pv) (h2 : pv < b)
    (hL : Lies h0 id sz (Full e pre post d) h) (hn : B + d.size + 15 < n) :
    Wp (kont F n tot ω) n (I.pdq3 ag sz) (bse id sz pre d.size c a b lim g fs caps wb wp (b - a) [(13, .val (.int .i64 pv)), (14, .val (.int .i64 (hintN hint)))]) h
      fun e' r g' => e' = .normal ∧ ∃ ex, r = bse id sz pre d.size c a b lim g fs caps wb wp (b - a) ((13, .val (.int .i64 (if hint = .decreasing then (b - 1) - (pv - a) else pv : Nat))) :: (14, .val (.int .i64 (hintN (if hint = .decreasing then Hint.increasing else hint)))) :: ex) ∧ (ex = [] ∨ ex = [(56, .val (.bool false))]) ∧
        Lies h0 id sz (Full e pre post (if hint = .decreasing then reverseRange d a b else d)) g' := by
  unfold SortIds.pdq3 bse
  cases hint with
  | decreasing =>
    obtain ⟨g1, k1, l1⟩ := s_rev C c d a b n h hd (by omega) hb hL (by omega)
    simp (maxSteps := 2000000) (discharger := omega) only [xz,xc,xo,xr,x0,x1,xd,kont_call,Reg.isA,Reg.isV,Reg.stays,Reg.onto,↓reduceIte,reduceCtorEq,Nat.reduceEqDiff,Nat.reduceLT,beq_self_eq_true,wrap_i64,k1,hintN]
    exact ⟨[], by rw [show ((b - 1 - (pv - a) : Nat) : Int) = (b : Int) - 1 - ((pv : Int) - (a : Int)) by omega], .inl rfl, l1⟩
  | increasing =>
    simp (maxSteps := 2000000) (discharger := omega) only [xz,xc,xo,xr,x0,x1,xd,Reg.isA,Reg.isV,Reg.stays,Reg.onto,↓reduceIte,reduceCtorEq,Nat.reduceEqDiff,Nat.reduceLT,hintN,Int.reduceBEq]
    exact ⟨_, rfl, .inr rfl, hL⟩
  | unknown =>
    simp (maxSteps := 2000000) (discharger := omega) only [xz,xc,xo,xr,x0,x1,xd,Reg.isA,Reg.isV,Reg.stays,Reg.onto,↓reduceIte,reduceCtorEq,Nat.reduceEqDiff,Nat.reduceLT,hintN,Int.reduceBEq]
    exact ⟨_, rfl, .inr rfl, hL⟩

set_option maxRecDepth 100000 in
set_option maxHeartbeats 8000000 in
theorem s_pdq4 (C : Srt F I ag sz e lt tot ω B g fs caps h0 id pre post) (c : Bool) (d : Array α) (a b lim n pv : Nat) (hint : Hint) (wb wp : Bool) (h : Hp) (ex : Regs) (hd : d.size ≤ 1000000000) (ha : a + 12 < b) (hb : b ≤ d.size) (h1 : a ≤ pv) (h2 : pv < b)
    (hx : ex = [] ∨ ex = [(56, .val (.bool false))]) (hL : Lies h0 id sz (Full e pre post d) h) (hn : B + d.size + 15 < n) :
    Wp (kont F n tot ω) n (I.pdq4 ag sz) (bse id sz pre d.size c a b lim g fs caps wb wp (b - a) ((13, .val (.int .i64 pv)) :: (14, .val (.int .i64 (hintN hint))) :: ex)) h
      fun e' r g' => Lies h0 id sz (Full e pre post (if wb && wp && hint = .increasing then partialInsertionSort lt d a b else (d, false)).1) g' ∧
        ((e' = .ret ∧ (if wb && wp && hint = .increasing then partialInsertionSort lt d a b else (d, false)).2 = true) ∨ (e' = .normal ∧ (if wb && wp && hint = .increasing then partialInsertionSort lt d a b else (d, false)).2 = false ∧
          ∃ ex, r = bse id sz pre d.size c a b lim g fs caps wb wp (b - a) ((13, .val (.int .i64 pv)) :: ex) ∧ (ex = [(75, .val (.bool false))] ∨ ex = [(80, .val (.bool false))]))) := by
  unfold SortIds.pdq4 bse
  have no : (wb && wp && decide (hint = .increasing)) = false → Wp (kont F n tot ω) n (I.pdq4 ag sz) (bse id sz pre d.size c a b lim g fs caps wb wp (b - a) ((13, .val (.int .i64 pv)) :: (14, .val (.int .i64 (hintN hint))) :: ex)) h
      fun e' r g' => Lies h0 id sz (Full e pre post d) g' ∧ e' = .normal ∧ r = bse id sz pre d.size c a b lim g fs caps wb wp (b - a) ((13, .val (.int .i64 pv)) :: [(75, .val (.bool false))]) := by
    intro hw
    unfold SortIds.pdq4 bse
    cases wb with
    | false => rcases hx with rfl | rfl <;> simp (maxSteps := 2000000) (discharger := omega) only [xz,xc,xo,xr,x0,xb,Reg.isA,Reg.isV,Reg.stays,Reg.onto,↓reduceIte,reduceCtorEq,Nat.reduceEqDiff,Nat.reduceLT] <;> exact hL
    | true =>
      cases wp with
      | false => rcases hx with rfl | rfl <;> simp (maxSteps := 2000000) (discharger := omega) only [xz,xc,xo,xr,x0,xb,Reg.isA,Reg.isV,Reg.stays,Reg.onto,↓reduceIte,reduceCtorEq,Nat.reduceEqDiff,Nat.reduceLT,beq_self_eq_true] <;> exact hL
      | true =>
        cases hint with
        | increasing => simp at hw
        | decreasing => rcases hx with rfl | rfl <;> simp (maxSteps := 2000000) (discharger := omega) only [xz,xc,xo,xr,x0,x1,xd,Reg.isA,Reg.isV,Reg.stays,Reg.onto,↓reduceIte,reduceCtorEq,Nat.reduceEqDiff,Nat.reduceLT,beq_self_eq_true,hintN,Int.reduceBEq] <;> exact hL
        | unknown => rcases hx with rfl | rfl <;> simp (maxSteps := 2000000) (discharger := omega) only [xz,xc,xo,xr,x0,x1,xd,Reg.isA,Reg.isV,Reg.stays,Reg.onto,↓reduceIte,reduceCtorEq,Nat.reduceEqDiff,Nat.reduceLT,beq_self_eq_true,hintN,Int.reduceBEq] <;> exact hL
  cases hw : (wb && wp && decide (hint = .increasing)) with
  | false =>
    refine Wp.mono (no hw) ?_
    rintro e' r g' ⟨l1, rfl, rfl⟩
    exact ⟨l1, .inr ⟨rfl, rfl, _, rfl, .inl rfl⟩⟩
  | true =>
    simp only [Bool.and_eq_true,decide_eq_true_eq] at hw
    obtain ⟨⟨rfl, rfl⟩, rfl⟩ := hw
    obtain ⟨g1, k1, l1⟩ := s_par C c d a b n h hd (by omega) hb hL (by omega)
    simp only [if_true]
    cases hp : (partialInsertionSort lt d a b).2 with
    | true =>
      rw [hp] at k1
      rcases hx with rfl | rfl <;> simp (maxSteps := 2000000) (discharger := omega) only [xz,xc,xo,xr,x0,x1,xd,kont_call,Reg.isA,Reg.isV,Reg.stays,Reg.onto,↓reduceIte,reduceCtorEq,Nat.reduceEqDiff,Nat.reduceLT,or_false,beq_self_eq_true,hintN,k1] <;> exact l1
    | false =>
      rw [hp] at k1
      rcases hx with rfl | rfl <;> simp (maxSteps := 2000000) (discharger := omega) only [xz,xc,xo,xr,x0,x1,xd,kont_call,Reg.isA,Reg.isV,Reg.stays,Reg.onto,↓reduceIte,reduceCtorEq,Nat.reduceEqDiff,Nat.reduceLT,false_or,beq_self_eq_true,hintN,k1] <;> exact ⟨l1, _, rfl, .inr rfl⟩

set_option maxRecDepth 100000 in
set_option maxHeartbeats 8000000 in
theorem s_pdq5 (C : Srt F I ag sz e lt tot ω B g fs caps h0 id pre post) (c : Bool) (d : Array α) (a b lim n pv : Nat) (wb wp : Bool) (h : Hp) (ex : Regs) (hd : d.size ≤ 1000000000) (ha : a + 12 < b) (hb : b ≤ d.size) (h1 : a ≤ pv) (h2 : pv < b)
    (hx : ex = [(75, .val (.bool false))] ∨ ex = [(80, .val (.bool false))]) (hL : Lies h0 id sz (Full e pre post d) h) (hn : B + d.size + 15 < n) :
    Wp (kont F n tot ω) n (I.pdq5 ag sz) (bse id sz pre d.size c a b lim g fs caps wb wp (b - a) ((13, .val (.int .i64 pv)) :: ex)) h
      fun e' r g' => (e' = .normal ∧ (decide (a > 0) && !lt d[a - 1]! d[pv]!) = false ∧ r = bse id sz pre d.size c a b lim g fs caps wb wp (b - a) [(13, .val (.int .i64 pv)), (97, .val (.bool false))] ∧ Lies h0 id sz (Full e pre post d) g') ∨
        (e' = .exit 1 ∧ (decide (a > 0) && !lt d[a - 1]! d[pv]!) = true ∧ r = [(0, .val (.row id sz pre.length d.size c)), (1, .val (.int .i64 (partitionEqual lt d a b pv).1)), (2, .val (.int .i64 b)), (3, .val (.int .i64 lim)), (4, .val (.fn (.func g) fs caps)), (10, .val (.bool wb)), (11, .val (.bool wp))] ∧
          Lies h0 id sz (Full e pre post (partitionEqual lt d a b pv).2) g') := by
  have hE := C.enc
  unfold SortIds.pdq5 bse
  by_cases h0 : 0 < a
  · obtain ⟨rr, g2, hc1, hc2, hc3⟩ := C.cmp n (by omega) d[a - 1]! d[pv]! d _ hL
    have hL2 := hL.more hc2
    have q1 := hL.row
    have hj4 : (((a : Nat) : Int) - 1).toNat = a - 1 := by omega
    by_cases hr : rr < 0
    · have hl : lt d[a - 1]! d[pv]! = true := by simp [← hc3,hr]
      rcases hx with rfl | rfl <;> simp (maxSteps := 2000000) (discharger := omega) only [xz,xc,xo,xr,x0,x1,x2,xd,kont_call,Reg.isA,Reg.isV,Reg.stays,Reg.onto,↓reduceIte,reduceCtorEq,Nat.reduceEqDiff,Nat.reduceLT,or_false,beq_self_eq_true,wrap_i64,int_lt_t,int_le_t,full_get,q1,hj4,hc1,hr,hE.sub,hl] <;> exact hL2
    · have hl : lt d[a - 1]! d[pv]! = false := by simp [← hc3,hr]
      obtain ⟨g3, k3, l3⟩ := s_peq C c d a b pv n g2 hd h1 h2 hb hL2 (by omega)
      rcases hx with rfl | rfl <;> simp (maxSteps := 2000000) (discharger := omega) only [xz,xc,xo,xr,x0,x1,x2,xd,kont_call,Reg.isA,Reg.isV,Reg.stays,Reg.onto,↓reduceIte,reduceCtorEq,Nat.reduceEqDiff,Nat.reduceLT,false_or,beq_self_eq_true,wrap_i64,int_lt_t,int_le_t,full_get,q1,hj4,hc1,hr,hE.sub,hl,k3,show a > 0 from h0] <;> exact l3
  · obtain rfl : a = 0 := by omega
    rcases hx with rfl | rfl <;> simp (maxSteps := 2000000) (discharger := omega) only [xz,xc,xo,xr,x0,x1,xd,xb,Reg.isA,Reg.isV,Reg.stays,Reg.onto,↓reduceIte,reduceCtorEq,Nat.reduceEqDiff,Nat.reduceLT,Int.cast_ofNat_Int,or_false,Nat.reduceSub,int_lt_f] <;> exact hL
end
end Go.Im

/- ImSort9: slices.SortFunc at the idealised machine: the recursion, and what is sorted. -/
set_option linter.unusedVariables false
set_option linter.unusedSimpArgs false
set_option linter.unusedSectionVars false
namespace Go.Im
open Go.Sort

section
variable {α : Type} [Inhabited α] {F : Fns} {I : SortIds} {ag : Bool} {sz : Nat} {e : α → AV} {lt : α → α → Bool} {tot : Bool} {ω : Nat → Nat} {B : Nat} {g : FuncId} {fs caps : List AV} {h0 : Hp} {id : Nat} {pre post : List AV}

theorem peq_in {d : Array α} {a b pv : Nat} (hab : a < b) (hb : b ≤ d.size) : a < (partitionEqual lt d a b pv).1 ∧ (partitionEqual lt d a b pv).1 ≤ b ∧ (partitionEqual lt d a b pv).2.size = d.size := by
  obtain ⟨h1, h2, h3, _⟩ := partEqLoop_spec lt a b _ (a + 1) (b - 1) (swp d a pv) (Nat.le_refl _) (by omega) (by omega) (by omega) (by rw [swp_size]; exact hb) (fun t h1 h2 => by omega) (fun t h1 h2 => by omega)
  exact ⟨h1, h2, by rw [show (partitionEqual lt d a b pv).2.size = _ from h3.1, swp_size]⟩
theorem prt_in {d : Array α} {a b pv : Nat} (hab : a < b) (hb : b ≤ d.size) : a ≤ (partition lt d a b pv).1 ∧ (partition lt d a b pv).1 < b ∧ (partition lt d a b pv).2.2.size = d.size := by
  obtain ⟨h1, h2, h3, _⟩ := partLoop_spec lt a b _ (a + 1) (b - 1) (swp d a pv) (Nat.le_refl _) (by omega) (by omega) (by omega) (by rw [swp_size]; exact hb) (fun t h1 h2 => by omega) (fun t h1 h2 => by omega)
  rw [partition_fst, partition_arr, swp_size]
  exact ⟨h1, h2, by rw [h3.1, swp_size]⟩
theorem partialIns_size (a b : Nat) : ∀ (s i : Nat) (d : Array α), (partialIns lt a b s i d).1.size = d.size
  | 0, i, d => rfl
  | s + 1, i, d => by
    rw [partialIns_succ]
    split
    · rfl
    · split
      · rfl
      · rw [partialIns_size a b s, fixUp_size, fixDown_size, swp_size]
theorem rnd_size {d : Array α} {a b limit : Nat} {wb wp : Bool} (hab : a ≤ b) (hb : b ≤ d.size) : (rnd lt d a b limit wb wp).d1.size = d.size ∧ (rnd lt d a b limit wb wp).d2.size = d.size ∧ (rnd lt d a b limit wb wp).pi.1.size = d.size := by
  have h1 : (rnd lt d a b limit wb wp).d1.size = d.size := by
    show (if !wb then breakPatterns d a b else d).size = _
    split
    · exact breakPatterns_size
    · rfl
  have h2 : (rnd lt d a b limit wb wp).d2.size = d.size := by
    show (if (rnd lt d a b limit wb wp).c.2 = .decreasing then reverseRange (rnd lt d a b limit wb wp).d1 a b else (rnd lt d a b limit wb wp).d1).size = _
    split
    · rw [reverse_size hab (by omega), h1]
    · exact h1
  refine ⟨h1, h2, ?_⟩
  show (if wb && wp && (rnd lt d a b limit wb wp).hint = .increasing then partialInsertionSort lt (rnd lt d a b limit wb wp).d2 a b else ((rnd lt d a b limit wb wp).d2, false)).1.size = _
  split
  · rw [show (partialInsertionSort lt (rnd lt d a b limit wb wp).d2 a b).1.size = _ from partialIns_size _ _ _ _ _, h2]
  · exact h2
theorem rnd_pivot {d : Array α} {a b limit : Nat} {wb wp : Bool} (hab : a < b) : a ≤ (rnd lt d a b limit wb wp).pivot ∧ (rnd lt d a b limit wb wp).pivot < b := by
  have hc := choosePivot_holds lt (rnd lt d a b limit wb wp).d1 a b hab
  show a ≤ (if (rnd lt d a b limit wb wp).c.2 = .decreasing then (b - 1) - ((rnd lt d a b limit wb wp).c.1 - a) else (rnd lt d a b limit wb wp).c.1) ∧ (if (rnd lt d a b limit wb wp).c.2 = .decreasing then (b - 1) - ((rnd lt d a b limit wb wp).c.1 - a) else (rnd lt d a b limit wb wp).c.1) < b
  rw [show (rnd lt d a b limit wb wp).c = choosePivot lt (rnd lt d a b limit wb wp).d1 a b from rfl]
  split <;> omega
theorem heapSort_size {d : Array α} {a b : Nat} : (heapSort lt d a b).size = d.size := by
  have h1 : ∀ (m k : Nat) (d : Array α), (heapBuild lt m a k d).size = d.size := by
    intro m k
    induction k with
    | zero => intro d; rfl
    | succ k ih => intro d; rw [show heapBuild lt m a (k + 1) d = heapBuild lt m a k (siftDown lt m a k d) from rfl, ih, siftDown_size _ _ _ _ _ rfl]
  have h2 : ∀ (k : Nat) (d : Array α), (heapPop lt a k d).size = d.size := by
    intro k
    induction k with
    | zero => intro d; rfl
    | succ k ih => intro d; rw [show heapPop lt a (k + 1) d = heapPop lt a k (siftDown lt k a 0 (swp d a (a + k))) from rfl, ih, siftDown_size _ _ _ _ _ rfl, swp_size]
  unfold heapSort
  rw [h2, h1]

theorem pdq_size : ∀ (N : Nat) (d : Array α) (a b lim : Nat) (wb wp : Bool), b - a ≤ N → a ≤ b → b ≤ d.size → (pdq lt d a b lim wb wp).size = d.size := by
  intro N
  induction N using Nat.strongRecOn with
  | ind N ih =>
    intro d a b lim wb wp hN hab hb
    rw [pdq_unf]
    by_cases h12 : b - a ≤ 12
    · rw [if_pos h12, insertionSort_size]
    rw [if_neg h12]
    by_cases hl : lim = 0
    · rw [if_pos hl, heapSort_size]
    rw [if_neg hl]
    have hs := (rnd_size (lt := lt) (limit := lim) (wb := wb) (wp := wp) hab hb).2.2
    generalize rnd lt d a b lim wb wp = R at *
    split
    · exact hs
    split
    · have hp := peq_in (lt := lt) (pv := R.pivot) (show a < b by omega) (show b ≤ R.pi.1.size by omega)
      generalize partitionEqual lt R.pi.1 a b R.pivot = P at *
      obtain ⟨mid, d4⟩ := P
      simp only at hp ⊢
      rw [dif_pos ⟨hp.1, hp.2.1⟩, ih (b - mid) (by omega) _ _ _ _ _ _ (Nat.le_refl _) (by omega) (by omega)]
      omega
    · have hp := prt_in (lt := lt) (pv := R.pivot) (show a < b by omega) (show b ≤ R.pi.1.size by omega)
      generalize partition lt R.pi.1 a b R.pivot = P at *
      obtain ⟨mid, ap, d4⟩ := P
      simp only at hp ⊢
      rw [dif_pos ⟨hp.1, hp.2.1⟩]
      split
      · have h1 := ih (mid - a) (by omega) d4 a mid R.lim true true (Nat.le_refl _) (by omega) (by omega)
        rw [ih (b - (mid + 1)) (by omega) _ _ _ _ _ _ (Nat.le_refl _) (by omega) (by omega), h1]; omega
      · have h1 := ih (b - (mid + 1)) (by omega) d4 (mid + 1) b R.lim true true (Nat.le_refl _) (by omega) (by omega)
        rw [ih (mid - a) (by omega) _ _ _ _ _ _ (Nat.le_refl _) (by omega) (by omega), h1]; omega

set_option maxRecDepth 100000 in
set_option maxHeartbeats 8000000 in
theorem s_pdq (C : Srt F I ag sz e lt tot ω B g fs caps h0 id pre post) (c : Bool) : ∀ (N : Nat) (d : Array α) (a b lim n : Nat) (h : Hp), b - a ≤ N → d.size ≤ 1000000000 → a ≤ b → b ≤ d.size → lim ≤ 100 →
    Lies h0 id sz (Full e pre post d) h → B + N + d.size + 20 < n →
    ∃ h', call F n tot ω I.pdq [.row id sz pre.length d.size c, .int .i64 a, .int .i64 b, .int .i64 lim, .fn (.func g) fs caps] h = some (.tup [], h') ∧ Lies h0 id sz (Full e pre post (pdq lt d a b lim true true)) h' := by
  intro N
  induction N with
  | zero =>
    intro d a b lim n h hN hd hab hb hlm hL hn
    obtain ⟨n, rfl⟩ : ∃ m, n = m + 1 := ⟨n - 1, by omega⟩
    have hp : pdq lt d a b lim true true = insertionSort lt d a b := by rw [pdq_unf, if_pos (by omega)]
    rw [hp]
    obtain ⟨g1, k1, l1⟩ := s_ins C c d a b n h hd hab hb hL (by omega)
    refine ⟨g1, ?_, l1⟩
    refine call_eq (fn := I.a_pdq ag sz) C.fns.pdq ?_
    unfold SortIds.a_pdq
    simp (maxSteps := 2000000) only [xz,xc,xo,xr,x0,Reg.isA,Reg.isV,Reg.stays,Reg.onto,↓reduceIte,reduceCtorEq,Nat.reduceEqDiff,Nat.reduceLT,Nat.reduceAdd]
    refine wpi_loop (fun k r g' => r = [(0, .val (.row id sz pre.length d.size c)), (1, .val (.int .i64 a)), (2, .val (.int .i64 b)), (3, .val (.int .i64 lim)), (4, .val (.fn (.func g) fs caps)), (10, .val (.bool true)), (11, .val (.bool true))] ∧ g' = h) 0 (by omega) ⟨rfl, rfl⟩ ?_
    rintro k r g' ⟨rfl, rfl⟩
    simp (maxSteps := 2000000) (discharger := omega) only [xz,xc,xo,xr,x0,x1,xd,kont_call,Reg.isA,Reg.isV,Reg.stays,Reg.onto,↓reduceIte,reduceCtorEq,Nat.reduceEqDiff,Nat.reduceLT,exists_eq_left',wrap_i64,int_le_t,k1]
  | succ N ih =>
    intro d a b lim n h hN hd hab hb hlm hL hn
    obtain ⟨n, rfl⟩ : ∃ m, n = m + 1 := ⟨n - 1, by omega⟩
    suffices hx : ∃ v h', call F (n + 1) tot ω I.pdq [.row id sz pre.length d.size c, .int .i64 a, .int .i64 b, .int .i64 lim, .fn (.func g) fs caps] h = some (v, h') ∧ v = .tup [] ∧ Lies h0 id sz (Full e pre post (pdq lt d a b lim true true)) h' by
      obtain ⟨v, h', e1, rfl, e2⟩ := hx
      exact ⟨h', e1, e2⟩
    refine call_of (fn := I.a_pdq ag sz) C.fns.pdq (P := fun v h' => v = .tup [] ∧ Lies h0 id sz (Full e pre post (pdq lt d a b lim true true)) h') ?_
    unfold SortIds.a_pdq
    have hE := C.enc
    simp (maxSteps := 2000000) only [xz,xc,xo,xr,x0,Reg.isA,Reg.isV,Reg.stays,Reg.onto,↓reduceIte,reduceCtorEq,Nat.reduceEqDiff,Nat.reduceLT,Nat.reduceAdd]
    refine wpi_loop (fun k r g' => ∃ (d' : Array α) (a' b' lim' : Nat) (wb wp : Bool), r = [(0, .val (.row id sz pre.length d.size c)), (1, .val (.int .i64 a')), (2, .val (.int .i64 b')), (3, .val (.int .i64 lim')), (4, .val (.fn (.func g) fs caps)), (10, .val (.bool wb)), (11, .val (.bool wp))] ∧
      k = b' - a' ∧ a' ≤ b' ∧ b' ≤ d.size ∧ b' - a' ≤ N + 1 ∧ lim' ≤ 100 ∧ Lies h0 id sz (Full e pre post d') g' ∧ d'.size = d.size ∧ pdq lt d' a' b' lim' wb wp = pdq lt d a b lim true true) (b - a) (by omega) ⟨d, a, b, lim, true, true, rfl, rfl, hab, hb, hN, hlm, hL, rfl, rfl⟩ ?_
    clear hab hb hN hlm hL
    rintro k r g' ⟨d', a', b', lim', wb, wp, rfl, rfl, hab, hb, hN, hlm, hL, hd', hf⟩
    rw [pdq_unf] at hf
    have f0 : ((b' : Int) - (a' : Int)) = ((b' - a' : Nat) : Int) := by omega
    by_cases h12 : b' - a' ≤ 12
    · rw [if_pos h12] at hf
      obtain ⟨g1, k1, l1⟩ := s_ins C c d' a' b' n g' (by omega) hab (by omega) hL (by omega)
      rw [hd'] at k1
      simp (maxSteps := 2000000) (discharger := omega) only [xz,xc,xo,xr,x0,x1,xd,kont_call,Reg.isA,Reg.isV,Reg.stays,Reg.onto,↓reduceIte,reduceCtorEq,Nat.reduceEqDiff,Nat.reduceLT,exists_eq_left',wrap_i64,int_le_t,f0,k1]
      rw [← hf]; exact l1
    rw [if_neg h12] at hf
    by_cases hl0 : lim' = 0
    · rw [if_pos hl0] at hf
      obtain ⟨g1, k1, l1⟩ := s_heap C c d' a' b' n g' (by omega) (by omega) (by omega) hL (by omega)
      rw [hd'] at k1
      simp (maxSteps := 2000000) (discharger := omega) only [xz,xc,xo,xr,x0,x1,xd,kont_call,Reg.isA,Reg.isV,Reg.stays,Reg.onto,↓reduceIte,reduceCtorEq,Nat.reduceEqDiff,Nat.reduceLT,Int.cast_ofNat_Int,beq_self_eq_true,exists_eq_left',wrap_i64,int_le_f,f0,k1,hl0]
      rw [← hf]; exact l1
    rw [if_neg hl0] at hf
    have hlb : (((lim' : Nat) : Int) == 0) = false := beq_eq_false_iff_ne.2 (by omega)
    have hsz := rnd_size (lt := lt) (limit := lim') (wb := wb) (wp := wp) hab (show b' ≤ d'.size by omega)
    have hpv := rnd_pivot (lt := lt) (d := d') (limit := lim') (wb := wb) (wp := wp) (show a' < b' by omega)
    have hc1 := choosePivot_holds lt (rnd lt d' a' b' lim' wb wp).d1 a' b' (by omega)
    have hlim : (rnd lt d' a' b' lim' wb wp).lim ≤ 100 := by
      show (if !wb then lim' - 1 else lim') ≤ 100
      split <;> omega
    simp (maxSteps := 2000000) (discharger := omega) only [xz,xc,xo,xr,x0,x1,xd,Reg.isA,Reg.isV,Reg.stays,Reg.onto,↓reduceIte,reduceCtorEq,Nat.reduceEqDiff,Nat.reduceLT,wrap_i64,int_le_f,f0,hlb]
    have p1 := s_pdq1 C c d' a' b' lim' n wb wp g' (by omega) (by omega) (by omega) hl0 hlm hL (by omega)
    rw [hd'] at p1
    refine Wp.mono p1 ?_
    rintro e' r g2 ⟨rfl, ex, rfl, hx, l1⟩
    rw [then_n]
    obtain ⟨g3, k3, l3⟩ := s_piv C c (rnd lt d' a' b' lim' wb wp).d1 a' b' n g2 (by omega) (by omega) (by omega) l1 (by omega)
    rw [hsz.1, hd'] at k3
    refine wpi_seq (wpi_cut (fun r gx => r = bse id sz pre d.size c a' b' (if !wb then lim' - 1 else lim') g fs caps wb wp (b' - a') [(13, .val (.int .i64 (choosePivot lt (rnd lt d' a' b' lim' wb wp).d1 a' b').1)), (14, .val (.int .i64 (hintN (choosePivot lt (rnd lt d' a' b' lim' wb wp).d1 a' b').2)))] ∧ gx = g3) ?_ ?_)
    · unfold bse
      rcases hx with rfl | rfl <;> simp (maxSteps := 2000000) (discharger := omega) only [xz,xc,xo,xr,x0,x3,kont_call,Reg.isA,Reg.isV,Reg.stays,Reg.onto,↓reduceIte,reduceCtorEq,Nat.reduceEqDiff,Nat.reduceLT,k3]
    rintro r g2 ⟨rfl, rfl⟩
    rw [then_n]
    have p3 := s_pdq3 C c (rnd lt d' a' b' lim' wb wp).d1 a' b' (rnd lt d' a' b' lim' wb wp).lim n (rnd lt d' a' b' lim' wb wp).c.1 (rnd lt d' a' b' lim' wb wp).c.2 wb wp g2 (by omega) (by omega) (by omega) hc1.1 hc1.2 l3 (by omega)
    rw [hsz.1, hd'] at p3
    refine wpi_seq (Wp.mono p3 ?_)
    rintro e' r g3 ⟨rfl, ex, rfl, hx, l4⟩
    rw [then_n]
    have p4 := s_pdq4 C c (rnd lt d' a' b' lim' wb wp).d2 a' b' (rnd lt d' a' b' lim' wb wp).lim n (rnd lt d' a' b' lim' wb wp).pivot (rnd lt d' a' b' lim' wb wp).hint wb wp g3 ex (by omega) (by omega) (by omega) hpv.1 hpv.2 hx l4 (by omega)
    rw [hsz.2.1, hd'] at p4
    refine wpi_seq (Wp.mono p4 ?_)
    rintro e' r g4 ⟨l5, ⟨rfl, hpi⟩ | ⟨rfl, hpi, ex, rfl, hx⟩⟩
    · rw [if_pos (show (rnd lt d' a' b' lim' wb wp).pi.2 = true from hpi)] at hf
      simp (maxSteps := 2000000) only [xz,xc,xd,exists_eq_left']
      rw [← hf]; exact l5
    rw [if_neg (by rw [show (rnd lt d' a' b' lim' wb wp).pi.2 = false from hpi]; simp)] at hf
    rw [then_n]
    have p5 := s_pdq5 C c (rnd lt d' a' b' lim' wb wp).pi.1 a' b' (rnd lt d' a' b' lim' wb wp).lim n (rnd lt d' a' b' lim' wb wp).pivot wb wp g4 ex (by omega) (by omega) (by omega) hpv.1 hpv.2 hx l5 (by omega)
    rw [hsz.2.2, hd'] at p5
    refine wpi_seq (Wp.mono p5 ?_)
    generalize rnd lt d' a' b' lim' wb wp = R at *
    rintro e' r g5 (⟨rfl, hc, rfl, l6⟩ | ⟨rfl, hc, rfl, l6⟩)
    · rw [if_neg (by rw [hc]; simp)] at hf
      have hp := prt_in (lt := lt) (pv := R.pivot) (show a' < b' by omega) (show b' ≤ R.pi.1.size by omega)
      obtain ⟨g6, k6, l7⟩ := s_prt C c R.pi.1 a' b' R.pivot n g5 (by omega) hpv.1 hpv.2 (by omega) l6 (by omega)
      rw [hsz.2.2, hd'] at k6
      generalize partition lt R.pi.1 a' b' R.pivot = P at *
      obtain ⟨mid, ap, d4⟩ := P
      simp only at hf hp k6 l7
      rw [dif_pos ⟨hp.1, hp.2.1⟩] at hf
      have f8 : ((b' - a' : Nat) : Int).tdiv 8 = (((b' - a') / 8 : Nat) : Int) := rfl
      have f9 : ((mid : Int) - (a' : Int)) = ((mid - a' : Nat) : Int) := by omega
      have f10 : ((b' : Int) - (mid : Int)) = ((b' - mid : Nat) : Int) := by omega
      have f11 : ((mid : Int) + 1) = ((mid + 1 : Nat) : Int) := by omega
      unfold bse
      by_cases hlr : mid - a' < b' - mid
      · rw [if_pos hlr] at hf
        obtain ⟨g7, k7, l8⟩ := ih d4 a' mid R.lim n g6 (by omega) (by omega) hp.1 (by omega) hlim l7 (by omega)
        rw [hp.2.2, hsz.2.2, hd'] at k7
        have hz := pdq_size (lt := lt) _ d4 a' mid R.lim true true (Nat.le_refl _) hp.1 (by omega)
        by_cases hge : mid - a' ≥ (b' - a') / 8
        · rw [show decide (mid - a' ≥ (b' - a') / 8) = true from decide_eq_true hge] at hf
          simp (maxSteps := 2000000) (discharger := omega) only [xz,xc,xo,xr,x0,x1,x3,xd,kont_call,Reg.isA,Reg.isV,Reg.stays,Reg.onto,↓reduceIte,reduceCtorEq,Nat.reduceEqDiff,Nat.reduceLT,Int.reduceEq,wrap_i64,int_lt_t,int_le_t,k6,f8,f9,f10,f11,k7]
          exact ⟨b' - (mid + 1), by omega, _, mid + 1, b', R.lim, true, ap, rfl, rfl, by omega, by omega, by omega, hlim, l8, by omega, hf⟩
        · rw [show decide (mid - a' ≥ (b' - a') / 8) = false from decide_eq_false hge] at hf
          simp (maxSteps := 2000000) (discharger := omega) only [xz,xc,xo,xr,x0,x1,x3,xd,kont_call,Reg.isA,Reg.isV,Reg.stays,Reg.onto,↓reduceIte,reduceCtorEq,Nat.reduceEqDiff,Nat.reduceLT,Int.reduceEq,wrap_i64,int_lt_t,int_le_f,k6,f8,f9,f10,f11,k7]
          exact ⟨b' - (mid + 1), by omega, _, mid + 1, b', R.lim, false, ap, rfl, rfl, by omega, by omega, by omega, hlim, l8, by omega, hf⟩
      · rw [if_neg hlr] at hf
        obtain ⟨g7, k7, l8⟩ := ih d4 (mid + 1) b' R.lim n g6 (by omega) (by omega) (by omega) (by omega) hlim l7 (by omega)
        rw [hp.2.2, hsz.2.2, hd'] at k7
        have hz := pdq_size (lt := lt) _ d4 (mid + 1) b' R.lim true true (Nat.le_refl _) (by omega) (by omega)
        by_cases hge : b' - mid ≥ (b' - a') / 8
        · rw [show decide (b' - mid ≥ (b' - a') / 8) = true from decide_eq_true hge] at hf
          simp (maxSteps := 2000000) (discharger := omega) only [xz,xc,xo,xr,x0,x1,x3,xd,kont_call,Reg.isA,Reg.isV,Reg.stays,Reg.onto,↓reduceIte,reduceCtorEq,Nat.reduceEqDiff,Nat.reduceLT,Int.reduceEq,wrap_i64,int_lt_f,int_le_t,k6,f8,f9,f10,f11,k7]
          exact ⟨mid - a', by omega, _, a', mid, R.lim, true, ap, rfl, rfl, by omega, by omega, by omega, hlim, l8, by omega, hf⟩
        · rw [show decide (b' - mid ≥ (b' - a') / 8) = false from decide_eq_false hge] at hf
          simp (maxSteps := 2000000) (discharger := omega) only [xz,xc,xo,xr,x0,x1,x3,xd,kont_call,Reg.isA,Reg.isV,Reg.stays,Reg.onto,↓reduceIte,reduceCtorEq,Nat.reduceEqDiff,Nat.reduceLT,Int.reduceEq,wrap_i64,int_lt_f,int_le_f,k6,f8,f9,f10,f11,k7]
          exact ⟨mid - a', by omega, _, a', mid, R.lim, false, ap, rfl, rfl, by omega, by omega, by omega, hlim, l8, by omega, hf⟩
    · rw [if_pos hc] at hf
      have hp := peq_in (lt := lt) (pv := R.pivot) (show a' < b' by omega) (show b' ≤ R.pi.1.size by omega)
      generalize partitionEqual lt R.pi.1 a' b' R.pivot = P at *
      obtain ⟨mid, d4⟩ := P
      simp only at hf hp l6
      rw [dif_pos ⟨hp.1, hp.2.1⟩] at hf
      simp (maxSteps := 2000000) only [xc,↓reduceIte]
      exact ⟨b' - mid, by omega, d4, mid, b', R.lim, wb, wp, rfl, rfl, by omega, by omega, by omega, hlim, l6, by omega, hf⟩

theorem s_srt (C : Srt F I ag sz e lt tot ω B g fs caps h0 id pre post) (c : Bool) (d : Array α) (n : Nat) (h : Hp) (hd : d.size ≤ 1000000000) (hL : Lies h0 id sz (Full e pre post d) h) (hn : B + 2 * d.size + 25 < n) :
    ∃ h', call F n tot ω I.srt [.row id sz pre.length d.size c, .fn (.func g) fs caps] h = some (.tup [], h') ∧ Lies h0 id sz (Full e pre post (sort lt d)) h' := by
  obtain ⟨n, rfl⟩ : ∃ m, n = m + 1 := ⟨n - 1, by omega⟩
  have hl := s_len (tot := tot) (ω := ω) C.fns d.size n h hd (by omega)
  have hb := bitsLen_le hd
  obtain ⟨g1, k1, l1⟩ := s_pdq C c d.size d 0 d.size (bitsLen d.size) n h (by omega) hd (by omega) (by omega) (by omega) hL (by omega)
  refine ⟨g1, ?_, l1⟩
  refine call_eq (fn := I.a_srt ag sz) C.fns.srt ?_
  unfold SortIds.a_srt
  have w1 : IntKind.u64.wrap (d.size : Int) = (d.size : Int) := wrap_u64 (by omega) (by omega)
  simp only [Int.cast_ofNat_Int] at k1
  simp (maxSteps := 2000000) (discharger := omega) only [xz,xc,xo,xr,x0,x2,x4,xd,kont_call,Reg.isA,Reg.isV,Reg.stays,Reg.onto,↓reduceIte,reduceCtorEq,Nat.reduceEqDiff,Nat.reduceLT,Nat.reduceAdd,exists_eq_left',w1,hl,k1]

theorem sort_perm (hS : SWO lt) (d : Array α) : (sort lt d).toList.Perm d.toList := by
  have h := (sort_sorts lt hS d).1
  have h1 := h.2.2
  have e1 : (d.extract 0 d.size).toList = d.toList := by simp
  have e2 : ((sort lt d).extract 0 d.size).toList = (sort lt d).toList := by rw [← h.1]; simp
  rw [e1, e2] at h1
  exact h1
theorem sort_pair (hS : SWO lt) (d : Array α) : (sort lt d).toList.Pairwise fun x y => lt y x = false := by
  have h := sort_sorts lt hS d
  rw [List.pairwise_iff_getElem]
  intro i j hi hj hij
  have hs : (sort lt d).size = d.size := h.1.1
  have := h.2 i j (Nat.zero_le _) hij (by simp at hj; omega)
  simp at hi hj
  rw [getElem!_pos _ _ (by omega), getElem!_pos _ _ (by omega)] at this
  simpa using this
theorem sort_size (hS : SWO lt) (d : Array α) : (sort lt d).size = d.size := (sort_sorts lt hS d).1.1
end
end Go.Im

/- ImSort2: slices.SortFunc at the idealised machine: insertion. -/
import Derived.Test.YtpgmohjmpaifbaaDoorImSort1
set_option linter.unusedVariables false
set_option linter.unusedSimpArgs false
set_option linter.unusedSectionVars false
namespace Go.Im
open Go.Sort

section
variable {α : Type} [Inhabited α] {F : Fns} {I : SortIds} {ag : Bool} {sz : Nat} {e : α → AV} {lt : α → α → Bool} {tot : Bool} {ω : Nat → Nat} {B : Nat} {g : FuncId} {fs caps : List AV} {h0 : Hp} {id : Nat} {pre post : List AV}

theorem insOuter_lt {a b i : Nat} {d : Array α} (h : i < b) : insOuter lt a b i d = insOuter lt a b (i + 1) (insInner lt a i d) := by rw [insOuter, if_pos h]
theorem insOuter_ge {a b i : Nat} {d : Array α} (h : ¬ i < b) : insOuter lt a b i d = d := by rw [insOuter, if_neg h]
theorem insInner_succ {a j : Nat} {d : Array α} : insInner lt a (j + 1) d = if decide (j + 1 > a) && lt d[j + 1]! d[j]! then insInner lt a j (swp d (j + 1) j) else d := rfl
theorem s_ins (C : Srt F I ag sz e lt tot ω B g fs caps h0 id pre post) (c : Bool) (d : Array α) (a b n : Nat) (h : Hp) (hd : d.size ≤ 1000000000) (ha : a ≤ b) (hb : b ≤ d.size)
    (hL : Lies h0 id sz (Full e pre post d) h) (hn : B + d.size + 5 < n) :
    ∃ h', call F n tot ω I.ins [.row id sz pre.length d.size c, .int .i64 a, .int .i64 b, .fn (.func g) fs caps] h = some (.tup [], h') ∧ Lies h0 id sz (Full e pre post (insertionSort lt d a b)) h' := by
  obtain ⟨n, rfl⟩ : ∃ m, n = m + 1 := ⟨n - 1, by omega⟩
  suffices hx : ∃ v h', call F (n + 1) tot ω I.ins [.row id sz pre.length d.size c, .int .i64 a, .int .i64 b, .fn (.func g) fs caps] h = some (v, h') ∧ v = .tup [] ∧ Lies h0 id sz (Full e pre post (insertionSort lt d a b)) h' by
    obtain ⟨v, h', e1, rfl, e2⟩ := hx
    exact ⟨h', e1, e2⟩
  refine call_of (fn := I.a_ins ag sz) C.fns.ins (P := fun v h' => v = .tup [] ∧ Lies h0 id sz (Full e pre post (insertionSort lt d a b)) h') ?_
  unfold SortIds.a_ins
  have hE := C.enc
  simp (maxSteps := 2000000) (discharger := omega) only [xz,xc,xo,xr,x0,x1,xd,Reg.isA,Reg.isV,Reg.stays,Reg.onto,↓reduceIte,reduceCtorEq,Nat.reduceEqDiff,Nat.reduceLT,Nat.reduceAdd,wrap_i64]
  refine wpi_loop (fun k r g' => ∃ (i : Nat) (d' : Array α), r = [(0, .val (.row id sz pre.length d.size c)), (1, .val (.int .i64 a)), (2, .val (.int .i64 b)), (3, .val (.fn (.func g) fs caps)), (8, .val (.int .i64 i))] ∧
    k = b - i ∧ a < i ∧ Lies h0 id sz (Full e pre post d') g' ∧ d'.size = d.size ∧ insOuter lt a b i d' = insertionSort lt d a b) (b - (a + 1)) (by omega) ⟨a + 1, d, rfl, rfl, by omega, hL, rfl, rfl⟩ ?_
  rintro k r g' ⟨i, d', rfl, rfl, hai, hL, hd', hf⟩
  by_cases hib : i < b
  · simp (maxSteps := 2000000) (discharger := omega) only [xz,xc,xo,xr,x0,x1,xd,Reg.isA,Reg.isV,Reg.stays,Reg.onto,↓reduceIte,reduceCtorEq,Nat.reduceEqDiff,Nat.reduceLT,int_lt_t]
    rw [insOuter_lt hib] at hf
    refine wpi_loop (fun k r g' => ∃ (j : Nat) (d2 : Array α), r = [(0, .val (.row id sz pre.length d.size c)), (1, .val (.int .i64 a)), (2, .val (.int .i64 b)), (3, .val (.fn (.func g) fs caps)), (8, .val (.int .i64 i)), (9, .val (.int .i64 j))] ∧
      k = j ∧ a ≤ j ∧ j < b ∧ Lies h0 id sz (Full e pre post d2) g' ∧ d2.size = d.size ∧ insInner lt a j d2 = insInner lt a i d') i (by omega) ⟨i, d', rfl, rfl, by omega, hib, hL, hd', rfl⟩ ?_
    rintro j r g' ⟨_, d2, rfl, rfl, haj, hjb, hL, hd2, hf2⟩
    by_cases hja : a < j
    · obtain ⟨rr, g2, hc1, hc2, hc3⟩ := C.cmp n (by omega) d2[j]! d2[j - 1]! d2 _ hL
      have hL2 := hL.more hc2
      have q1 := hL.row
      have q2 := hL2.row
      have q3 := hL2.idlt
      have hj4 : (((j : Nat) : Int) - 1).toNat = j - 1 := by omega
      obtain ⟨j, rfl⟩ : ∃ i, j = i + 1 := ⟨j - 1, by omega⟩
      simp only [Nat.add_sub_cancel] at hc1 hc3 hj4
      rw [insInner_succ] at hf2
      rw [← hc3] at hf2
      by_cases hr : rr < 0
      · simp (maxSteps := 2000000) (discharger := omega) only [xz,xc,xo,xr,x0,x1,x5,xd,kont_call,wr,Reg.isA,Reg.isV,Reg.stays,Reg.onto,↓reduceIte,reduceCtorEq,Nat.reduceEqDiff,Nat.reduceLT,beq_self_eq_true,wrap_i64,int_lt_t,int_le_t,full_get,full_get1,full_set,full_set1,get_set_self,List.set_set,q1,q2,hj4,hc1,hr,hE.sub,hE.upd,hE.nt,hE.len]
        refine ⟨j, by omega, j, swp d2 (j + 1) j, by rw [show ((j + 1 : Nat) : Int) - 1 = (j : Int) by omega], rfl, by omega, by omega, hL2.set, by rw [swp_size]; exact hd2, ?_⟩
        rw [← hf2, if_pos]
        simp [hr,hja]
      · simp (maxSteps := 2000000) (discharger := omega) only [xz,xc,xo,xr,x0,x1,xd,kont_call,Reg.isA,Reg.isV,Reg.stays,Reg.onto,↓reduceIte,reduceCtorEq,Nat.reduceEqDiff,Nat.reduceLT,beq_self_eq_true,wrap_i64,int_lt_t,int_le_t,full_get,q1,hj4,hc1,hr,hE.sub]
        refine ⟨b - (i + 1), by omega, i + 1, d2, rfl, rfl, by omega, hL2, hd2, ?_⟩
        rw [if_neg] at hf2
        · rw [hf2]; exact hf
        · simp [hr]
    · simp (maxSteps := 2000000) (discharger := omega) only [xz,xc,xo,xr,x0,x1,xd,xb,Reg.isA,Reg.isV,Reg.stays,Reg.onto,↓reduceIte,reduceCtorEq,Nat.reduceEqDiff,Nat.reduceLT,wrap_i64,int_lt_f]
      refine ⟨b - (i + 1), by omega, i + 1, d2, rfl, rfl, by omega, hL, hd2, ?_⟩
      have : insInner lt a j d2 = d2 := by
        cases j with
        | zero => rfl
        | succ j => unfold insInner; rw [if_neg]; simp; omega
      rw [this] at hf2
      rw [hf2]; exact hf
  · simp (maxSteps := 2000000) (discharger := omega) only [xz,xc,xo,xr,x0,x1,xd,Reg.isA,Reg.isV,Reg.stays,Reg.onto,↓reduceIte,reduceCtorEq,Nat.reduceEqDiff,Nat.reduceLT,exists_eq_left',int_lt_f]
    rw [insOuter_ge hib] at hf
    rw [← hf]; exact hL

end
end Go.Im

/- Joined: S21Pa, S21Pe, S21Ck, S21Bv, S21Lb. -/
import Derived.Test.YtpgmohjmpaifbaaDoorEq
import Derived.Test.YtpgmohjmpaifbaaDoorImRng
import Derived.KernelRfl
import Derived.Test.YtpgmohjmpaifbaaDoorCa
import Derived.Test.YtpgmohjmpaifbaaDoorFi
/- S21Pa: tree.Path: which texts are paths. -/
set_option linter.unusedVariables false
set_option linter.unusedSimpArgs false
open Go Go.Im
namespace Go.Proofs.YtpgmohjmpaifbaaDoor.Im

theorem idx_none : ∀ (s : By) (pv : Bool), Go.Lib.indexByte s 47 = -1 → slashOk pv s = (if s = [] then !pv else true)
  | [], pv, _ => rfl
  | c :: cs, pv, h => by
    unfold Go.Lib.indexByte at h
    split at h
    · cases h
    · rename_i hc
      have hc' : c ≠ 47 := by simpa using hc
      split at h
      · rename_i hx
        have := idx_none cs false (by simpa using hx)
        simp only [slashOk,if_neg hc',this]
        by_cases e : cs = [] <;> simp [e]
      · have := Go.Lib.indexByte_ge cs 47
        rename_i hx
        simp only [beq_iff_eq] at hx
        omega
theorem idx_some : ∀ (s : By) (pv : Bool) (i : Nat), Go.Lib.indexByte s 47 = (i : Int) → i < s.length ∧ slashOk pv s = if i = 0 then !pv && slashOk true (s.drop 1) else slashOk true (s.drop (i + 1))
  | [], pv, i, h => by
    have : Go.Lib.indexByte [] 47 = -1 := rfl
    omega
  | c :: cs, pv, i, h => by
    unfold Go.Lib.indexByte at h
    split at h
    · rename_i hc
      have hc' : c = 47 := by simpa using hc
      obtain rfl : i = 0 := by omega
      simp [slashOk,hc']
    · rename_i hc
      have hc' : c ≠ 47 := by simpa using hc
      split at h
      · omega
      · rename_i hx
        simp only [beq_iff_eq] at hx
        have hge := Go.Lib.indexByte_ge cs 47
        obtain ⟨j, hj⟩ : ∃ j : Nat, Go.Lib.indexByte cs 47 = (j : Int) := ⟨(Go.Lib.indexByte cs 47).toNat, by omega⟩
        obtain rfl : i = j + 1 := by omega
        obtain ⟨h1, h2⟩ := idx_some cs false j hj
        refine ⟨by simpa using h1, ?_⟩
        simp only [slashOk,if_neg hc',h2,List.drop_succ_cons,Nat.add_one_ne_zero,if_false]
        by_cases e : j = 0 <;> simp [e]

/-! ### the place of a slash -/
section
variable {n : Nat} {tot : Bool} {ω : Nat → Nat} {h : Hp}
theorem f120 : F 120 = some (.inr idxG) := by kernel_rfl
theorem c120 (s : By) (c : UInt8) (hn : 0 < n) : call F n tot ω 120 [.str s, .int .u8 (c.toNat : Nat)] h = some (.int .i64 (Go.Lib.indexByte s c), h) := by
  obtain ⟨n, rfl⟩ : ∃ m, n = m + 1 := ⟨n - 1, by omega⟩
  rw [call_inr f120]
  simp [idxG]
theorem c115 (s : By) (c : UInt8) (hn : 1 < n) : call F n tot ω 115 [.str s, .int .u8 (c.toNat : Nat)] h = some (.int .i64 (Go.Lib.indexByte s c), h) := by
  obtain ⟨n, rfl⟩ : ∃ m, n = m + 1 := ⟨n - 1, by omega⟩
  refine call_eq (fn := a115) f115 ?_
  unfold a115
  have k := fun h => c120 (n := n) (tot := tot) (ω := ω) (h := h) s c (by omega)
  simp (maxSteps := 2000000) (discharger := omega) only [xz,xc,xo,xr,x0,xd,kont_call,Reg.isA,Reg.isV,Reg.stays,Reg.onto,↓reduceIte,reduceCtorEq,Nat.reduceEqDiff,Nat.reduceLT,Nat.reduceAdd,exists_eq_left',k]
theorem c110 (s : By) (c : UInt8) (hn : 2 < n) : call F n tot ω 110 [.str s, .str [c]] h = some (.int .i64 (Go.Lib.indexByte s c), h) := by
  obtain ⟨n, rfl⟩ : ∃ m, n = m + 1 := ⟨n - 1, by omega⟩
  refine call_eq (fn := a110) f110 ?_
  unfold a110
  have k := fun h => c115 (n := n) (tot := tot) (ω := ω) (h := h) s c (by omega)
  simp (maxSteps := 2000000) (discharger := omega) only [xz,xc,xo,xr,x0,x1,x4,xd,kont_call,Reg.isA,Reg.isV,Reg.stays,Reg.onto,↓reduceIte,reduceCtorEq,Nat.reduceEqDiff,Nat.reduceLT,Nat.reduceAdd,Int.cast_ofNat_Int,beq_self_eq_true,exists_eq_left',Int.reduceToNat,int_le_t,int_beq_f,k]
  split
  · rename_i hq
    have hq : [c] = s := by simpa using hq
    subst hq
    simp [Go.Lib.indexByte]
  · trivial
theorem c101 (s : By) (c : UInt8) (hn : 3 < n) : call F n tot ω 101 [.str s, .str [c]] h = some (.int .i64 (Go.Lib.indexByte s c), h) := by
  obtain ⟨n, rfl⟩ : ∃ m, n = m + 1 := ⟨n - 1, by omega⟩
  refine call_eq (fn := a101) f101 ?_
  unfold a101
  have k := fun h => c110 (n := n) (tot := tot) (ω := ω) (h := h) s c (by omega)
  simp (maxSteps := 2000000) (discharger := omega) only [xz,xc,xo,xr,x0,xd,kont_call,Reg.isA,Reg.isV,Reg.stays,Reg.onto,↓reduceIte,reduceCtorEq,Nat.reduceEqDiff,Nat.reduceLT,Nat.reduceAdd,exists_eq_left',k]

/-! ### the split -/
def hdP : AC := .region [] [⟨some 3, .mov (.t 11), none⟩] [2, 3]
def bdP : AC := .block 1 w12b
def RP (s : By) (L : Nat) : Regs := [(0, .val (.str s)), (2, .val (.ptr L 1 0 0)), (10, .val (.fn (.func 99) [] [.ptr (L + 2) 1 0 0, .ptr (L + 1) 1 0 0, .ptr (L + 3) 1 0 0]))]
def HP (h : Hp) (s q : By) (st : Nat) (pd : Option AE) : Hp := h ++ [.row 1 [.bool false], .row 1 [.str q], .row 1 [.str [47]], .row 1 [.int .i64 0], .loop (RP s h.length) [11] hdP bdP st pd]

theorem rd_yes (s q p : By) (hp : p ≠ []) (hn : 1 < n) : round F n tot ω (h.length + 4) [.str p] (HP h s q 0 none) = some (.bool true, HP h s q 0 none) := by
  obtain ⟨n, rfl⟩ : ∃ m, n = m + 1 := ⟨n - 1, by omega⟩
  refine round_eq (r := RP s h.length) (ps := [11]) (hd := hdP) (bd := bdP) (st := 0) (pd := none) (by unfold HP; rw [hgk]; rfl) rfl ?_
  have hb : (p == []) = false := by cases p <;> simp_all
  have e : putArgs (RP s h.length) [11] [.str p] = [(0, .val (.str s)), (2, .val (.ptr h.length 1 0 0)), (10, .val (.fn (.func 99) [] [.ptr (h.length + 2) 1 0 0, .ptr (h.length + 1) 1 0 0, .ptr (h.length + 3) 1 0 0])), (11, .val (.str p))] := rfl
  rw [e]
  unfold hdP
  simp (maxSteps := 2000000) (discharger := omega) only [xz,xc,xo,xr,x0,Reg.isA,Reg.isV,Reg.stays,Reg.onto,↓reduceIte,reduceCtorEq,Nat.reduceEqDiff,Nat.reduceLT]
  refine ⟨rfl, RP s h.length, [11], hdP, bdP, none, by unfold HP; rw [hgk]; rfl, ?_⟩
  unfold bdP w12b HP
  simp (maxSteps := 2000000) (discharger := omega) only [xz,xc,xo,xr,x0,x1,xd,Reg.isA,Reg.isV,Reg.stays,Reg.onto,↓reduceIte,Nat.reduceEqDiff,Nat.reduceLT,List.set_cons_zero,List.set_cons_succ,hsk,hb]
  exact ⟨_, _, _, _, _, _, by rw [hgk]; rfl, rfl, by rw [hsk]; rfl⟩

theorem rd_no (s q : By) (hn : 1 < n) : round F n tot ω (h.length + 4) [.str []] (HP h s q 0 none) = some (.bool false, HP h s q 2 (some .ret)) := by
  obtain ⟨n, rfl⟩ : ∃ m, n = m + 1 := ⟨n - 1, by omega⟩
  refine round_eq (r := RP s h.length) (ps := [11]) (hd := hdP) (bd := bdP) (st := 0) (pd := none) (by unfold HP; rw [hgk]; rfl) rfl ?_
  have e : putArgs (RP s h.length) [11] [.str []] = [(0, .val (.str s)), (2, .val (.ptr h.length 1 0 0)), (10, .val (.fn (.func 99) [] [.ptr (h.length + 2) 1 0 0, .ptr (h.length + 1) 1 0 0, .ptr (h.length + 3) 1 0 0])), (11, .val (.str []))] := rfl
  rw [e]
  unfold hdP
  simp (maxSteps := 2000000) (discharger := omega) only [xz,xc,xo,xr,x0,Reg.isA,Reg.isV,Reg.stays,Reg.onto,↓reduceIte,reduceCtorEq,Nat.reduceEqDiff,Nat.reduceLT]
  refine ⟨rfl, RP s h.length, [11], hdP, bdP, none, by unfold HP; rw [hgk]; rfl, ?_⟩
  unfold bdP w12b HP
  simp (maxSteps := 2000000) (discharger := omega) only [xz,xc,xo,xr,x0,x1,x5,xd,wr,Reg.isA,Reg.isV,Reg.stays,Reg.onto,↓reduceIte,Nat.reduceEqDiff,Nat.reduceLT,beq_self_eq_true,xu,List.set_cons_zero,List.set_cons_succ,hsk,hg0,hs0]
  exact ⟨_, _, _, _, _, _, by rw [hgk]; rfl, rfl, by rw [hsk]; rfl⟩

theorem c74 (s p : By) (hn : 0 < n) : call F n tot ω 74 [.str s, .str p, .int .i64 0] h = some (.fn (.func 99) [] [.ptr (h.length + 1) 1 0 0, .ptr h.length 1 0 0, .ptr (h.length + 2) 1 0 0], h ++ [.row 1 [.str s], .row 1 [.str p], .row 1 [.int .i64 0]]) := by
  obtain ⟨n, rfl⟩ : ∃ m, n = m + 1 := ⟨n - 1, by omega⟩
  refine call_eq (fn := a74) f74 ?_
  unfold a74
  simp (maxSteps := 2000000) (discharger := omega) only [xz,xc,xo,xr,x0,x3,x5,xd,Reg.isA,Reg.isV,Reg.stays,Reg.onto,↓reduceIte,reduceCtorEq,Nat.reduceEqDiff,Nat.reduceLT,Nat.reduceAdd,exists_eq_left',List.length_append,List.append_assoc]
theorem c43 (s p : By) (hn : 1 < n) : call F n tot ω 43 [.str s, .str p] h = some (.fn (.func 99) [] [.ptr (h.length + 1) 1 0 0, .ptr h.length 1 0 0, .ptr (h.length + 2) 1 0 0], h ++ [.row 1 [.str s], .row 1 [.str p], .row 1 [.int .i64 0]]) := by
  obtain ⟨n, rfl⟩ : ∃ m, n = m + 1 := ⟨n - 1, by omega⟩
  refine call_eq (fn := a43) f43 ?_
  unfold a43
  have k := c74 (n := n) (tot := tot) (ω := ω) (h := h) s p (by omega)
  simp (maxSteps := 2000000) (discharger := omega) only [xz,xc,xo,xr,x0,xd,kont_call,Reg.isA,Reg.isV,Reg.stays,Reg.onto,↓reduceIte,reduceCtorEq,Nat.reduceEqDiff,Nat.reduceLT,Nat.reduceAdd,exists_eq_left',k]

theorem c99 (s : By) (hs : s.length ≤ 64) (hn : 80 < n) : ∃ q, call F n tot ω 99 [.yld (h.length + 4), .ptr (h.length + 2) 1 0 0, .ptr (h.length + 1) 1 0 0, .ptr (h.length + 3) 1 0 0] (HP h s s 0 none) = some (.tup [], if slashOk true s = true then HP h s q 0 none else HP h s q 2 (some .ret)) := by
  obtain ⟨n, rfl⟩ : ∃ m, n = m + 1 := ⟨n - 1, by omega⟩
  suffices hx : ∃ v h', call F (n + 1) tot ω 99 [.yld (h.length + 4), .ptr (h.length + 2) 1 0 0, .ptr (h.length + 1) 1 0 0, .ptr (h.length + 3) 1 0 0] (HP h s s 0 none) = some (v, h') ∧ v = .tup [] ∧ ∃ q, h' = if slashOk true s = true then HP h s q 0 none else HP h s q 2 (some .ret) by
    obtain ⟨v, h', e1, rfl, q, rfl⟩ := hx
    exact ⟨q, e1⟩
  refine call_of (fn := a99) f99 (P := fun v h' => v = .tup [] ∧ ∃ q, h' = if slashOk true s = true then HP h s q 0 none else HP h s q 2 (some .ret)) ?_
  unfold a99
  have g1 : ∀ q st pd, (HP h s q st pd)[h.length + 1]? = some (.row 1 [.str q]) := fun q st pd => by unfold HP; rw [hgk]; rfl
  have g2 : ∀ q st pd, (HP h s q st pd)[h.length + 2]? = some (.row 1 [.str [47]]) := fun q st pd => by unfold HP; rw [hgk]; rfl
  have g3 : ∀ q st pd, (HP h s q st pd)[h.length + 3]? = some (.row 1 [.int .i64 0]) := fun q st pd => by unfold HP; rw [hgk]; rfl
  have u1 : ∀ q q' st pd, (HP h s q st pd).set (h.length + 1) (.row 1 [.str q']) = HP h s q' st pd := fun q q' st pd => by unfold HP; rw [hsk]; rfl
  simp (maxSteps := 2000000) (discharger := omega) only [xz,xc,xo,xr,x0,x1,x4,xd,Reg.isA,Reg.isV,Reg.stays,Reg.onto,↓reduceIte,reduceCtorEq,Nat.reduceEqDiff,Nat.reduceLT,Nat.reduceAdd,Int.cast_ofNat_Int,int_beq_f,g2]
  refine wpi_loop (fun x r g' => ∃ q : By, (r = [(0, .val (.yld (h.length + 4))), (1, .val (.ptr (h.length + 2) 1 0 0)), (2, .val (.ptr (h.length + 1) 1 0 0)), (3, .val (.ptr (h.length + 3) 1 0 0))] ∨ r = [(0, .val (.yld (h.length + 4))), (1, .val (.ptr (h.length + 2) 1 0 0)), (2, .val (.ptr (h.length + 1) 1 0 0)), (3, .val (.ptr (h.length + 3) 1 0 0)), (11, .val (.bool false))]) ∧ x = q.length ∧ q.length ≤ s.length ∧ g' = HP h s q 0 none ∧ slashOk true q = slashOk true s) s.length (by omega)
    ⟨s, .inr rfl, rfl, Nat.le_refl _, rfl, rfl⟩ ?_
  rintro x r g' ⟨q, hr, rfl, hq, rfl, hsl⟩
  have k := fun h => c101 (n := n) (tot := tot) (ω := ω) (h := h) q 47 (by omega)
  have hge := Go.Lib.indexByte_ge q 47
  by_cases hi : Go.Lib.indexByte q 47 = -1
  · have h1 := idx_none q true hi
    by_cases hq0 : q = []
    · subst hq0
      have r1 := rd_no (n := n) (tot := tot) (ω := ω) (h := h) s [] (by omega)
      have : ∃ q, HP h s [] 2 (some .ret) = if slashOk true s = true then HP h s q 0 none else HP h s q 2 (some .ret) := by
        refine ⟨[], ?_⟩
        rw [if_neg]
        rw [← hsl]; simp [slashOk]
      rcases hr with rfl | rfl <;> simp (maxSteps := 2000000) (discharger := omega) only [xz,xc,xo,xr,x0,x1,xd,kont_call,kont_round,Reg.isA,Reg.isV,Reg.stays,Reg.onto,↓reduceIte,reduceCtorEq,Nat.reduceEqDiff,Nat.reduceLT,exists_eq_left',Int.reduceNeg,int_lt_t,g1,g2,k,hi,r1] <;> exact this
    · have r1 := rd_yes (n := n) (tot := tot) (ω := ω) (h := h) s q q hq0 (by omega)
      have : ∃ q', HP h s q 0 none = if slashOk true s = true then HP h s q' 0 none else HP h s q' 2 (some .ret) := by
        refine ⟨q, ?_⟩
        rw [if_pos]
        rw [← hsl, h1, if_neg hq0]
      rcases hr with rfl | rfl <;> simp (maxSteps := 2000000) (discharger := omega) only [xz,xc,xo,xr,x0,x1,xd,kont_call,kont_round,Reg.isA,Reg.isV,Reg.stays,Reg.onto,↓reduceIte,reduceCtorEq,Nat.reduceEqDiff,Nat.reduceLT,exists_eq_left',Int.reduceNeg,int_lt_t,g1,g2,k,hi,r1] <;> exact this
  · obtain ⟨i, hi⟩ : ∃ i : Nat, Go.Lib.indexByte q 47 = (i : Int) := ⟨(Go.Lib.indexByte q 47).toNat, by omega⟩
    obtain ⟨hl, h2⟩ := idx_some q true i hi
    have e0 : (i : Int) + 0 = (i : Int) := by omega
    have e1 : ((i : Int) + 1).toNat = i + 1 := by omega
    by_cases hi0 : i = 0
    · subst hi0
      have r1 := rd_no (n := n) (tot := tot) (ω := ω) (h := h) s q (by omega)
      have : ∃ q', HP h s q 2 (some .ret) = if slashOk true s = true then HP h s q' 0 none else HP h s q' 2 (some .ret) := by
        refine ⟨q, ?_⟩
        rw [if_neg]
        rw [← hsl, h2]; simp
      rcases hr with rfl | rfl <;> simp (maxSteps := 2000000) (discharger := omega) only [xz,xc,xo,xr,x0,x1,x2,x3,xd,kont_call,kont_round,slOk,sliceV,Reg.isA,Reg.isV,Reg.stays,Reg.onto,↓reduceIte,reduceCtorEq,Nat.reduceEqDiff,Nat.reduceLT,Option.getD_some,Int.cast_ofNat_Int,exists_eq_left',Int.reduceToNat,wrap_i64,int_lt_f,int_le_t,g1,g2,g3,k,hi,r1,Int.add_zero] <;> exact this
    · have hne : q.take i ≠ [] := by
        intro e
        have : (q.take i).length = 0 := by rw [e]; rfl
        rw [List.length_take] at this
        omega
      have r1 := rd_yes (n := n) (tot := tot) (ω := ω) (h := h) s q (q.take i) hne (by omega)
      rcases hr with rfl | rfl <;> simp (maxSteps := 2000000) (discharger := omega) only [xz,xc,xo,xr,x0,x1,x2,x3,x4,x5,xd,kont_call,kont_round,slOk,sliceV,wr,Reg.isA,Reg.isV,Reg.stays,Reg.onto,↓reduceIte,reduceCtorEq,Nat.reduceEqDiff,Nat.reduceLT,Option.getD_some,Option.getD_none,Int.cast_ofNat_Int,true_or,Int.reduceToNat,xu,List.set_cons_zero,wrap_i64,int_lt_f,int_le_t,g1,g2,g3,k,hi,r1,e0,e1,u1,List.take_length]
      · exact ⟨(q.drop (i + 1)).length, by simp; omega, q.drop (i + 1), rfl, by simp; omega, rfl, by rw [← hsl, h2, if_neg hi0]⟩
      · exact ⟨(q.drop (i + 1)).length, by simp; omega, q.drop (i + 1), rfl, by simp; omega, rfl, by rw [← hsl, h2, if_neg hi0]⟩

theorem c12 (s : By) (hs : s.length ≤ 9223372036854775807) (hn : 100 < n) : ∃ m, call F n tot ω 12 [.str s] h = some (.bool (pathB s), h ++ m) := by
  obtain ⟨n, rfl⟩ : ∃ m, n = m + 1 := ⟨n - 1, by omega⟩
  suffices hx : ∃ v h', call F (n + 1) tot ω 12 [.str s] h = some (v, h') ∧ v = .bool (pathB s) ∧ ∃ m, h' = h ++ m by
    obtain ⟨v, h', e1, rfl, m, rfl⟩ := hx
    exact ⟨m, e1⟩
  refine call_of (fn := a12) f12 (P := fun v h' => v = .bool (pathB s) ∧ ∃ m, h' = h ++ m) ?_
  unfold a12
  by_cases hl : s.length ≤ 64
  · obtain ⟨q, k⟩ := c99 (n := n) (tot := tot) (ω := ω) (h := h) s hl (by omega)
    have k43 := c43 (n := n) (tot := tot) (ω := ω) (h := h ++ [.row 1 [.bool false]]) s [47] (by omega)
    simp only [List.length_append,List.length_cons,List.length_nil,Nat.zero_add,List.append_assoc,List.cons_append,List.nil_append,Nat.add_assoc,Nat.reduceAdd] at k43
    simp (maxSteps := 2000000) (discharger := omega) only [xz,xc,xo,xr,x0,x1,x4,x5,xd,kont_call,Reg.isA,Reg.isV,Reg.stays,Reg.onto,↓reduceIte,reduceCtorEq,Nat.reduceEqDiff,Nat.reduceLT,int_lt_f,k43]
    refine wpi_rangeF (h2 := if slashOk true s = true then HP h s q 0 none else HP h s q 2 (some .ret)) (f := 99) (first := []) (captured := [.ptr (h.length + 2) 1 0 0, .ptr (h.length + 1) 1 0 0, .ptr (h.length + 3) 1 0 0]) (v := .tup []) (r1 := RP s h.length) (ps1 := [11]) (hd1 := hdP) (bd1 := bdP) (st := if slashOk true s = true then 0 else 2) (pd := if slashOk true s = true then none else some .ret) rfl (kont_code f99) ?_ ?_ ?_ ?_
    · have e : (h ++ [AO.row 1 [.bool false], .row 1 [.str s], .row 1 [.str [47]], .row 1 [.int .i64 0]]).length = h.length + 4 := by simp
      rw [e, List.append_assoc]
      exact k
    · have e : (h ++ [AO.row 1 [.bool false], .row 1 [.str s], .row 1 [.str [47]], .row 1 [.int .i64 0]]).length = h.length + 4 := by simp
      rw [e]
      by_cases hk : slashOk true s = true
      · rw [if_pos hk, if_pos hk, if_pos hk]; unfold HP; rw [hgk]; rfl
      · rw [if_neg hk, if_neg hk, if_neg hk]; unfold HP; rw [hgk]; rfl
    · split <;> omega
    · have e : (h ++ [AO.row 1 [.bool false], .row 1 [.str s], .row 1 [.str [47]], .row 1 [.int .i64 0]]).length = h.length + 4 := by simp
      rw [e]
      by_cases hk : slashOk true s = true
      · rw [if_pos hk, if_pos hk]
        unfold HP
        rw [hsk]
        simp (maxSteps := 2000000) (discharger := omega) only [xc,Option.getD_none,List.set_cons_zero,List.set_cons_succ]
        unfold w12c
        simp (maxSteps := 2000000) (discharger := omega) only [xz,xc,xo,xr,x0,x2,x3,x4,xd,xe,Reg.isA,Reg.isV,Reg.stays,Reg.onto,↓reduceIte,reduceCtorEq,Nat.reduceEqDiff,Nat.reduceLT]
        refine wpi_loop (fun x r g' => ∃ i : Nat, r = [(2, .val (.ptr h.length 1 0 0)), (15, .val (.imm 1 (bytesOf s) .no)), (16, .val (.int .i64 s.length)), (17, .val (.int .i64 i))] ∧ x = s.length - i ∧ i ≤ s.length ∧ g' = h ++ [.row 1 [.bool false], .row 1 [.str q], .row 1 [.str [47]], .row 1 [.int .i64 0], .dead] ∧ (s.take i).all goodC = true) s.length (by omega)
          ⟨0, rfl, rfl, Nat.zero_le _, rfl, rfl⟩ ?_
        rintro x r g' ⟨i, rfl, rfl, hi, rfl, hg⟩
        by_cases hlt : i < s.length
        · have qb := bytesOf_get hlt
          by_cases h1 : ((s[i].toNat : Nat) : Int) ≤ 32
          · have hp : pathB s = false := by
              unfold pathB
              rw [hk, show s.all goodC = false from all_bad hlt (by simp [goodC]; omega)]; simp
            simp (maxSteps := 2000000) (discharger := omega) only [xz,xc,xo,xr,x0,x1,x5,xd,xb,wr,Reg.isA,Reg.isV,Reg.stays,Reg.onto,↓reduceIte,Nat.reduceEqDiff,Nat.reduceLT,exists_eq_left',xu,List.set_cons_zero,int_lt_t,int_le_t,qb,hp,hg0,hs0]
            exact ⟨_, rfl⟩
          · by_cases h2 : ((s[i].toNat : Nat) : Int) > 126
            · have hp : pathB s = false := by
                unfold pathB
                rw [hk, show s.all goodC = false from all_bad hlt (by simp [goodC]; omega)]; simp
              simp (maxSteps := 2000000) (discharger := omega) only [xz,xc,xo,xr,x0,x1,x5,xd,wr,Reg.isA,Reg.isV,Reg.stays,Reg.onto,↓reduceIte,Nat.reduceEqDiff,Nat.reduceLT,beq_self_eq_true,exists_eq_left',xu,List.set_cons_zero,int_lt_t,int_le_t,int_le_f,qb,hp,hg0,hs0]
              exact ⟨_, rfl⟩
            · simp (maxSteps := 2000000) (discharger := omega) only [xz,xc,xo,xr,x0,x1,xd,Reg.isA,Reg.isV,Reg.stays,Reg.onto,↓reduceIte,Nat.reduceEqDiff,Nat.reduceLT,beq_self_eq_true,wrap_i64,int_lt_t,int_lt_f,int_le_t,int_le_f,qb]
              refine ⟨s.length - (i + 1), by omega, i + 1, by rw [show ((i : Nat) : Int) + 1 = ((i + 1 : Nat) : Int) by omega], rfl, by omega, ?_⟩
              rw [List.take_succ_eq_append_getElem hlt, List.all_append, hg]
              simp [goodC]; omega
        · obtain rfl : i = s.length := by omega
          rw [List.take_length] at hg
          have hp : pathB s = true := by unfold pathB; rw [hk, hg]; simp [hl]
          simp (maxSteps := 2000000) (discharger := omega) only [xz,xc,xo,xr,x1,x5,xd,wr,Reg.isA,Reg.isV,Reg.stays,Reg.onto,↓reduceIte,Nat.reduceEqDiff,Nat.reduceLT,exists_eq_left',xu,List.set_cons_zero,int_lt_f,Nat.sub_self,hp,hg0,hs0]
          exact ⟨_, rfl⟩
      · rw [if_neg hk, if_neg hk]
        have hp : pathB s = false := by unfold pathB; simp [hk]
        unfold HP
        rw [hsk]
        simp (maxSteps := 2000000) (discharger := omega) only [xz,xc,xr,xd,↓reduceIte,reduceCtorEq,Option.getD_some,exists_eq_left',List.set_cons_zero,List.set_cons_succ,hp,hg0]
        exact ⟨_, rfl⟩
  · have hp : pathB s = false := by unfold pathB; simp [hl]
    simp (maxSteps := 2000000) (discharger := omega) only [xz,xc,xo,xr,x0,x1,x4,x5,xd,wr,Reg.isA,Reg.isV,Reg.stays,Reg.onto,↓reduceIte,reduceCtorEq,Nat.reduceEqDiff,Nat.reduceLT,exists_eq_left',xu,List.set_cons_zero,int_lt_t,hp,hg0,hs0]
    exact ⟨_, rfl⟩
end
end Go.Proofs.YtpgmohjmpaifbaaDoor.Im

/- S21Pe: tree.paths. -/
set_option linter.unusedVariables false
set_option linter.unusedSimpArgs false
open Go Go.Im
namespace Go.Proofs.YtpgmohjmpaifbaaDoor.Im
section
variable {n : Nat} {tot : Bool} {ω : Nat → Nat} {h : Hp}

theorem c45 (l : List By) (v : AV) (hv : IsRd 1 (l.map AV.str) v) (hb : ∀ p ∈ l, p.length ≤ 9223372036854775807) (hl : l.length ≤ 1000000) (hn : l.length + 110 < n) :
    ∃ b m, call F n tot ω 45 [v] h = some (.bool b, h ++ m) ∧ (b = true ↔ Rising l) := by
  obtain ⟨n, rfl⟩ : ∃ m, n = m + 1 := ⟨n - 1, by omega⟩
  suffices hx : ∃ v2 h', call F (n + 1) tot ω 45 [v] h = some (v2, h') ∧ ∃ b m, v2 = .bool b ∧ h' = h ++ m ∧ (b = true ↔ Rising l) by
    obtain ⟨v2, h', e1, b, m, rfl, rfl, e2⟩ := hx
    exact ⟨b, m, e1, e2⟩
  refine call_of (fn := a45) f45 (P := fun v2 h' => ∃ b m, v2 = .bool b ∧ h' = h ++ m ∧ (b = true ↔ Rising l)) ?_
  unfold a45
  have hlen := hv.len
  rw [List.length_map] at hlen
  have no : ¬ Rising l → ∀ (h' : Hp), (∃ m, h' = h ++ m) → ∃ b m, AV.bool false = .bool b ∧ h' = h ++ m ∧ (b = true ↔ Rising l) := fun hr h' ⟨m, e⟩ => ⟨false, m, rfl, e, by simp [hr]⟩
  simp (maxSteps := 2000000) (discharger := omega) only [xz,xc,xo,xr,x0,x4,x5,Reg.isA,Reg.isV,Reg.stays,Reg.onto,↓reduceIte,reduceCtorEq,Nat.reduceEqDiff,Nat.reduceLT,hlen]
  refine wpi_loop (fun x r g' => ∃ (i : Nat) (T : List (By × Bool × Nat)) (c : Nat), r = [(0, .val v), (3, .val (.mp h.length)), (11, .val v), (12, .val (.int .i64 l.length)), (13, .val (.int .i64 i))] ∧ x = l.length - i ∧ i ≤ l.length ∧
    (∃ m, g' = h ++ m) ∧ g'[h.length]? = some (.map (encE AV.str AV.bool T) c) ∧ (∀ k, tget T k = if k ∈ l.take i then some true else none) ∧ (∀ p ∈ l.take i, pathB p = true) ∧
    (∀ j k (hj : j < l.length) (hk : k < l.length), j < k → k < i → Op.bytesLess l[j] l[k] = true)) l.length (by omega)
    ⟨0, [], 0, rfl, rfl, Nat.zero_le _, ⟨_, rfl⟩, by simp [encE], fun k => by simp [tget], by simp, fun j k hj hk h1 h2 => by omega⟩ ?_
  rintro x r g' ⟨i, T, c, rfl, rfl, hi, ⟨m, rfl⟩, hm, hT, hp, hr⟩
  by_cases hlt : i < l.length
  · obtain ⟨cv, rfl⟩ := hv.imm (i := i) (by simpa using hlt)
    have q1 : (l.map AV.str)[i]? = some (.str l[i]) := by simp [hlt]
    obtain ⟨m2, k12⟩ := c12 (n := n) (tot := tot) (ω := ω) (h := h ++ m) l[i] (hb _ (List.getElem_mem hlt)) (by omega)
    by_cases hpi : pathB l[i] = true
    · rw [hpi] at k12
      have hm2 : (h ++ m ++ m2)[h.length]? = some (.map (encE AV.str AV.bool T) c) := by
        rw [List.getElem?_append_left (List.getElem?_eq_some_iff.1 hm).1]; exact hm
      have hlt2 := (List.getElem?_eq_some_iff.1 hm2).1
      -- what is put
      have put : (∀ j (hj : j < i), Op.bytesLess l[j] l[i] = true) → tget T l[i] = none ∧ ∀ k, tget (T ++ [(l[i], true, c)]) k = if k ∈ l.take (i + 1) then some true else none := fun hless => by
        have hn : tget T l[i] = none := by
          rw [hT, if_neg]
          intro hmem
          obtain ⟨j, hj, e⟩ := List.getElem_of_mem hmem
          rw [List.length_take] at hj
          rw [List.getElem_take] at e
          have := hless j (by omega)
          rw [e, bl_irrefl] at this
          cases this
        refine ⟨hn, fun k => ?_⟩
        rw [← tput_new hn, tget_put, hT, List.take_succ_eq_append_getElem hlt]
        by_cases e : l[i] = k
        · rw [if_pos e, if_pos (by simp [e])]
        · rw [if_neg e]
          by_cases e2 : k ∈ l.take i
          · rw [if_pos e2, if_pos (List.mem_append.2 (.inl e2))]
          · rw [if_neg e2, if_neg]
            simp only [List.mem_append,List.mem_singleton,not_or]
            exact ⟨e2, fun x => e x.symm⟩
      have hp' : ∀ p ∈ l.take (i + 1), pathB p = true := fun p hmem => by
        rw [List.take_succ_eq_append_getElem hlt] at hmem
        rcases List.mem_append.1 hmem with hmem | hmem
        · exact hp p hmem
        · rw [List.mem_singleton] at hmem; rw [hmem]; exact hpi
      by_cases h0 : i = 0
      · subst h0
        obtain ⟨hn0, hT'⟩ := put fun j hj => by omega
        have hf := findK_no (ev := AV.bool) key_str 0 hn0
        simp (maxSteps := 2000000) (discharger := omega) only [xz,xc,xo,xr,x0,x1,x2,x5,xd,xb,kont_call,keyOk,keyCells,Reg.isA,Reg.isV,Reg.stays,Reg.onto,↓reduceIte,reduceCtorEq,Nat.reduceEqDiff,Nat.reduceLT,Int.cast_ofNat_Int,beq_self_eq_true,Int.reduceToNat,Int.reduceAdd,wrap_i64,int_lt_t,int_lt_f,int_le_t,Nat.sub_zero,q1,k12,hm2,hf]
        refine ⟨l.length - (0 + 1), by omega, 0 + 1, T ++ [(l[0], true, c)], c + 1, rfl, rfl, by omega, ⟨(m ++ m2).set 0 _, by rw [List.append_assoc, hs0]⟩, ?_, hT', hp', fun j k hj hk h1 h2 => by omega⟩
        rw [get_set_self hlt2]; simp [encE]
      · have e1 : ((i : Int) - 1).toNat = i - 1 := by omega
        have q2 : (l.map AV.str)[i - 1]? = some (.str (l[i - 1]'(by omega))) := by simp [show i - 1 < l.length by omega]
        cases hless : Op.bytesLess (l[i - 1]'(by omega)) l[i] with
        | false =>
          simp (maxSteps := 2000000) (discharger := omega) only [xz,xc,xo,xr,x0,x1,x2,xd,kont_call,Reg.isA,Reg.isV,Reg.stays,Reg.onto,↓reduceIte,reduceCtorEq,Nat.reduceEqDiff,Nat.reduceLT,beq_self_eq_true,exists_eq_left',wrap_i64,int_lt_t,int_le_t,q1,q2,k12,e1,hless]
          refine no (fun hR => ?_) _ ⟨m ++ m2, by rw [List.append_assoc]⟩
          have := hR.rise (i - 1) i (by omega) hlt (by omega)
          rw [hless] at this; cases this
        | true =>
          have hall : ∀ j (hj : j < i), Op.bytesLess (l[j]'(by omega)) l[i] = true := fun j hj => by
            by_cases e : j = i - 1
            · subst e; exact hless
            · exact bl_trans _ _ _ (hr j (i - 1) (by omega) (by omega) (by omega) (by omega)) hless
          obtain ⟨hn0, hT'⟩ := put hall
          have hf := findK_no (ev := AV.bool) key_str 0 hn0
          simp (maxSteps := 2000000) (discharger := omega) only [xz,xc,xo,xr,x0,x1,x2,x5,xd,kont_call,keyOk,keyCells,Reg.isA,Reg.isV,Reg.stays,Reg.onto,↓reduceIte,reduceCtorEq,Nat.reduceEqDiff,Nat.reduceLT,beq_self_eq_true,wrap_i64,int_lt_t,int_le_t,q1,q2,k12,e1,hless,hm2,hf]
          refine ⟨l.length - (i + 1), by omega, i + 1, T ++ [(l[i], true, c)], c + 1, by rw [show ((i : Nat) : Int) + 1 = ((i + 1 : Nat) : Int) by omega], rfl, by omega, ⟨(m ++ m2).set 0 _, by rw [List.append_assoc, hs0]⟩, ?_, hT', hp', fun j k hj hk h1 h2 => ?_⟩
          · rw [get_set_self hlt2]; simp [encE]
          · by_cases e : k = i
            · subst e; exact hall j h1
            · exact hr j k hj hk h1 (by omega)
    · have hpi' : pathB l[i] = false := by simpa using hpi
      rw [hpi'] at k12
      simp (maxSteps := 2000000) (discharger := omega) only [xz,xc,xo,xr,x0,x1,x2,xd,xb,kont_call,Reg.isA,Reg.isV,Reg.stays,Reg.onto,↓reduceIte,reduceCtorEq,Nat.reduceEqDiff,Nat.reduceLT,exists_eq_left',int_lt_t,int_le_t,q1,k12]
      exact no (fun hR => hpi (hR.path _ (List.getElem_mem hlt))) _ ⟨m ++ m2, by rw [List.append_assoc]⟩
  · obtain rfl : i = l.length := by omega
    rw [List.take_length] at hT hp
    simp (maxSteps := 2000000) (discharger := omega) only [xz,xc,xo,xr,x0,x1,x4,xd,Reg.isA,Reg.isV,Reg.stays,Reg.onto,↓reduceIte,reduceCtorEq,Nat.reduceEqDiff,Nat.reduceLT,int_lt_f,Nat.sub_self,hlen]
    refine wpi_loop (fun x r g' => ∃ (i : Nat), r = [(0, .val v), (3, .val (.mp h.length)), (37, .val v), (38, .val (.int .i64 l.length)), (39, .val (.int .i64 i))] ∧ x = l.length - i ∧ i ≤ l.length ∧ g' = h ++ m ∧
      ∀ j (hj : j < l.length), j < i → ∀ q ∈ l, ¬ Under l[j] q) l.length (by omega)
      ⟨0, rfl, rfl, Nat.zero_le _, rfl, fun j hj h1 => by omega⟩ ?_
    rintro x r g' ⟨i, rfl, rfl, hi, rfl, hu⟩
    by_cases hlt : i < l.length
    · obtain ⟨cv, rfl⟩ := hv.imm (i := i) (by simpa using hlt)
      have q1 : (l.map AV.str)[i]? = some (.str l[i]) := by simp [hlt]
      have hp64 := path_len (hp _ (List.getElem_mem hlt))
      simp (maxSteps := 2000000) (discharger := omega) only [xz,xc,xo,xr,x0,x1,x2,x3,x4,xd,xe,Reg.isA,Reg.isV,Reg.stays,Reg.onto,↓reduceIte,reduceCtorEq,Nat.reduceEqDiff,Nat.reduceLT,int_lt_t,int_le_t,q1]
      refine wpi_loop (fun x r g' => ∃ (a : Nat), r = [(0, .val (.imm 1 (l.map AV.str) cv)), (3, .val (.mp h.length)), (7, .val (.str l[i])), (37, .val (.imm 1 (l.map AV.str) cv)), (38, .val (.int .i64 l.length)), (39, .val (.int .i64 i)), (44, .val (.imm 1 (bytesOf l[i]) .no)), (45, .val (.int .i64 l[i].length)), (46, .val (.int .i64 a))] ∧ x = l[i].length - a ∧ a ≤ l[i].length ∧ g' = h ++ m ∧
        ∀ q ∈ l, q.length < a → ¬ Under l[i] q) l[i].length (by omega)
        ⟨0, rfl, rfl, Nat.zero_le _, rfl, fun q hq h1 => by omega⟩ ?_
      rintro x r g' ⟨a, rfl, rfl, ha, rfl, hq⟩
      by_cases hla : a < l[i].length
      · have qb := bytesOf_get hla
        by_cases h47 : ((l[i][a].toNat : Nat) : Int) = 47
        · have h47' : l[i][a] = 47 := by rwa [u8_47] at h47
          cases htg : tget T (l[i].take a) with
          | none =>
            have hf := findK_no (ev := AV.bool) key_str 0 htg
            simp (maxSteps := 2000000) (discharger := omega) only [xz,xc,xo,xr,x0,x1,x3,x4,x5,xd,slOk,sliceV,mapOf,keyOk,keyCells,Reg.isA,Reg.isV,Reg.stays,Reg.onto,↓reduceIte,reduceCtorEq,Nat.reduceEqDiff,Nat.reduceLT,Option.getD_some,beq_self_eq_true,Int.reduceToNat,wrap_i64,int_lt_t,int_le_t,int_beq_t,qb,hm,hf]
            refine ⟨l[i].length - (a + 1), by omega, a + 1, by rw [show ((a : Nat) : Int) + 1 = ((a + 1 : Nat) : Int) by omega], rfl, by omega, fun q hql hqa hU => ?_⟩
            obtain ⟨w1, w2, w3⟩ := under_iff.1 hU
            by_cases e : q.length = a
            · rw [e] at w3
              have := hT (l[i].take a)
              rw [htg, if_pos (by rw [w3]; exact hql)] at this
              cases this
            · exact hq q hql (by omega) hU
          | some b =>
            obtain ⟨j, hf, _⟩ := findK_yes (ev := AV.bool) key_str 0 htg
            have hmem : l[i].take a ∈ l := by
              rw [hT] at htg
              by_cases e : l[i].take a ∈ l
              · exact e
              · rw [if_neg e] at htg; cases htg
            have hbt : b = true := by rw [hT, if_pos hmem] at htg; cases htg; rfl
            subst hbt
            simp (maxSteps := 2000000) (discharger := omega) only [xz,xc,xo,xr,x0,x1,x3,x4,x5,xd,slOk,sliceV,mapOf,keyOk,keyCells,Reg.isA,Reg.isV,Reg.stays,Reg.onto,↓reduceIte,reduceCtorEq,Nat.reduceEqDiff,Nat.reduceLT,Option.getD_some,beq_self_eq_true,exists_eq_left',Int.reduceToNat,int_lt_t,int_le_t,int_beq_t,qb,hm,hf]
            refine no (fun hR => ?_) _ ⟨m, rfl⟩
            refine hR.apart _ (List.getElem_mem hlt) _ hmem (under_iff.2 ⟨by rw [List.length_take]; omega, ?_, ?_⟩)
            · simp [Nat.min_eq_left (Nat.le_of_lt hla),h47']
            · rw [List.length_take, Nat.min_eq_left (Nat.le_of_lt hla)]
        · have h47' : ¬ l[i][a] = 47 := by rwa [u8_47] at h47
          simp (maxSteps := 2000000) (discharger := omega) only [xz,xc,xo,xr,x0,x1,xd,xb,Reg.isA,Reg.isV,Reg.stays,Reg.onto,↓reduceIte,reduceCtorEq,Nat.reduceEqDiff,Nat.reduceLT,wrap_i64,int_lt_t,int_le_t,int_beq_f,qb]
          refine ⟨l[i].length - (a + 1), by omega, a + 1, by rw [show ((a : Nat) : Int) + 1 = ((a + 1 : Nat) : Int) by omega], rfl, by omega, fun q hql hqa hU => ?_⟩
          obtain ⟨w1, w2, w3⟩ := under_iff.1 hU
          by_cases e : q.length = a
          · subst e; exact h47' w2
          · exact hq q hql (by omega) hU
      · obtain rfl : a = l[i].length := by omega
        simp (maxSteps := 2000000) (discharger := omega) only [xz,xc,xo,xr,x0,x1,xd,Reg.isA,Reg.isV,Reg.stays,Reg.onto,↓reduceIte,reduceCtorEq,Nat.reduceEqDiff,Nat.reduceLT,wrap_i64,int_lt_f,Nat.sub_self]
        refine ⟨l.length - (i + 1), by omega, i + 1, by rw [show ((i : Nat) : Int) + 1 = ((i + 1 : Nat) : Int) by omega], rfl, by omega, fun j hj hji q hql hU => ?_⟩
        by_cases e : j = i
        · subst e; exact hq q hql hU.1 hU
        · exact hu j hj (by omega) q hql hU
    · obtain rfl : i = l.length := by omega
      by_cases h64 : l.length ≤ 64
      · have hR : Rising l := by
          refine ⟨h64, hp, fun j k hj hk hjk => hr j k hj hk hjk hk, fun p hpl q hql => ?_⟩
          obtain ⟨j, hj, rfl⟩ := List.getElem_of_mem hpl
          exact hu j hj hj q hql
        simp (maxSteps := 2000000) (discharger := omega) only [xz,xc,xo,xr,x0,x1,x4,xd,Reg.isA,Reg.isV,Reg.stays,Reg.onto,↓reduceIte,reduceCtorEq,Nat.reduceEqDiff,Nat.reduceLT,exists_eq_left',int_lt_f,int_le_t,Nat.sub_self,hlen]
        exact ⟨true, m, by simp [hR]⟩
      · simp (maxSteps := 2000000) (discharger := omega) only [xz,xc,xo,xr,x0,x1,x4,xd,Reg.isA,Reg.isV,Reg.stays,Reg.onto,↓reduceIte,reduceCtorEq,Nat.reduceEqDiff,Nat.reduceLT,exists_eq_left',int_lt_f,int_le_f,Nat.sub_self,hlen]
        exact no (fun hR => h64 hR.few) _ ⟨m, rfl⟩
end
end Go.Proofs.YtpgmohjmpaifbaaDoor.Im

/- S21Ck: tree.Check. -/
set_option linter.unusedVariables false
set_option linter.unusedSimpArgs false
open Go Go.Im Go.Sort
namespace Go.Proofs.YtpgmohjmpaifbaaDoor.Im
section
variable {n : Nat} {tot : Bool} {ω : Nat → Nat} {h : Hp}

theorem c14 (a : AV) (fs : List Fl) (ha : IsRd 2 (fs.map Fl.av) a) (hok : ∀ f ∈ fs, f.ok) (hf : Few fs) (hn : 400 < n) :
    ∃ h', call F n tot ω 14 [a] h = some (.int .i64 (chk fs), h') := by
  obtain ⟨n, rfl⟩ : ∃ m, n = m + 1 := ⟨n - 1, by omega⟩
  suffices hx : ∃ v2 h', call F (n + 1) tot ω 14 [a] h = some (v2, h') ∧ v2 = .int .i64 (chk fs) by
    obtain ⟨v2, h', e1, rfl⟩ := hx
    exact ⟨h', e1⟩
  refine call_of (fn := a14) f14 (P := fun v2 h' => v2 = .int .i64 (chk fs)) ?_
  unfold a14
  have hnum := hf.num
  obtain ⟨v, m, gs, q1, q2, q3, q4⟩ := c44 (n := n) (tot := tot) (ω := ω) (h := h) a fs ha (by omega) (by omega)
  have hfg := hf.perm q3
  have hokg : ∀ f ∈ gs, f.ok := fun f hm => hok f (q3.mem_iff.1 hm)
  have hlg : gs.length = fs.length := q3.length_eq
  have hlen := q2.len
  rw [List.length_map] at hlen
  simp (maxSteps := 2000000) (discharger := omega) only [xz,xc,xo,xr,x0,x4,kont_call,Reg.isA,Reg.isV,Reg.stays,Reg.onto,↓reduceIte,reduceCtorEq,Nat.reduceEqDiff,Nat.reduceLT,q1,hlen]
  refine wpi_loop (fun x r g' => ∃ (i : Nat) (lv : AV), r = [(3, .val lv), (4, .val (.int .i64 (szOf (gs.take i) : Nat))), (8, .val v), (9, .val (.int .i64 gs.length)), (10, .val (.int .i64 i))] ∧ x = gs.length - i ∧ i ≤ gs.length ∧
    RowAt g' 2 h.length (gs.map Fl.av) v ∧ IsApp 1 ((psOf (gs.take i)).map AV.str) g' lv) gs.length (by omega)
    ⟨0, .nils, rfl, rfl, Nat.zero_le _, q2, .nils _ _⟩ ?_
  rintro x r g' ⟨i, lv, rfl, rfl, hi, hr, hA⟩
  by_cases hlt : i < gs.length
  · rcases hr with ⟨rfl, e⟩ | ⟨id, post, rfl, hid, hlo⟩
    · have := congrArg List.length e
      simp at this
      subst this
      simp at hlt
    · have q5 : ((gs.map Fl.av) ++ post)[i]? = some (.agg [.str gs[i].p, gs[i].v]) := by
        rw [List.getElem?_append_left (by simpa using hlt)]; exact fl_get hlt
      have hg := hokg _ (List.getElem_mem hlt)
      have q6 := Fl.len hg
      have q7 := fl_sub hg 1
      have q8 := fl_nt hg
      have q9 := fl_cells hg
      obtain ⟨lv', h2, w1, w2, w3, w4, _⟩ := app_ok (bytes := 16) (xs := [.str gs[i].p]) hA (by simp) (by simp [psOf]; omega)
      have hsz := hfg.take (i + 1)
      rw [szOf_take gs i hlt] at hsz
      simp (maxSteps := 2000000) (discharger := omega) only [xz,xc,xo,xr,x0,x1,x3,x4,x5,xd,xb,selems,srcElems,wr,partEs,placeEs,Reg.isA,Reg.isV,Reg.stays,Reg.onto,↓reduceIte,Nat.reduceEqDiff,Nat.reduceLT,Nat.reduceAdd,Nat.zero_lt_succ,Nat.reduceBEq,xu,List.set_cons_zero,wrap_i64,int_lt_t,int_le_t,nat_le_t,hid,q5,q6,w1,hA.isRow,List.length_map,List.replicate]
      refine ⟨gs.length - (i + 1), by omega, i + 1, lv', ?_, rfl, by omega, ?_, ?_⟩
      · rw [show ((i : Nat) : Int) + 1 = ((i + 1 : Nat) : Int) by omega, szOf_take gs i hlt]; rfl
      · exact .inr ⟨id, post, by rw [List.length_map], w3 id _ hid rfl, hlo⟩
      · unfold psOf at w2 ⊢
        rw [List.take_succ_eq_append_getElem hlt, List.map_append, List.map_append]
        exact w2
  · obtain rfl : i = gs.length := by omega
    rw [List.take_length] at hA
    obtain ⟨b, m2, k45, hb⟩ := c45 (n := n) (tot := tot) (ω := ω) (h := g') (psOf gs) lv (isRd_app hA) (fun p hp => by
      obtain ⟨f, hfm, rfl⟩ := List.mem_map.1 hp
      have := hfg.path f hfm
      omega) (by rw [psOf_len]; omega) (by rw [psOf_len]; omega)
    have hT : b = true ↔ Tog (psOf fs) := by
      rw [hb]
      refine rising_iff (q3.map _) fun j k hj hk hjk => ?_
      have hj' : j < gs.length := by rw [psOf_len] at hj; exact hj
      have hk' : k < gs.length := by rw [psOf_len] at hk; exact hk
      have := q4 j k hj' hk' hjk
      simpa [psOf, flLt] using this
    have hsz := hfg.take gs.length
    rw [List.take_length] at hsz ⊢
    have hss : szOf gs = szOf fs := szOf_perm q3
    cases b with
    | false =>
      have hc : chk fs = 1 := by unfold chk; rw [if_neg (fun h => by have := hT.2 h; cases this)]
      simp (maxSteps := 2000000) (discharger := omega) only [xz,xc,xo,xr,x0,x1,x2,xd,kont_call,Reg.isA,Reg.isV,Reg.stays,Reg.onto,↓reduceIte,Nat.reduceEqDiff,Nat.reduceLT,exists_eq_left',int_lt_f,Nat.sub_self,k45,hc]
    | true =>
      have hTg := hT.1 rfl
      by_cases h16 : ((szOf gs : Nat) : Int) > 16384
      · have hc : chk fs = 6 := by unfold chk; rw [if_pos hTg, if_pos (by omega)]
        simp (maxSteps := 2000000) (discharger := omega) only [xz,xc,xo,xr,x0,x1,x2,xd,kont_call,Reg.isA,Reg.isV,Reg.stays,Reg.onto,↓reduceIte,Nat.reduceEqDiff,Nat.reduceLT,exists_eq_left',int_lt_t,int_lt_f,Nat.sub_self,k45,hc]
      · have hc : chk fs = 0 := by unfold chk; rw [if_pos hTg, if_neg (by omega)]
        simp (maxSteps := 2000000) (discharger := omega) only [xz,xc,xo,xr,x0,x1,x2,xd,kont_call,Reg.isA,Reg.isV,Reg.stays,Reg.onto,↓reduceIte,Nat.reduceEqDiff,Nat.reduceLT,exists_eq_left',int_lt_f,Nat.sub_self,k45,hc]

end
end Go.Proofs.YtpgmohjmpaifbaaDoor.Im

/- S21Bv: tree.Build. -/
set_option linter.unusedVariables false
set_option linter.unusedSimpArgs false
open Go Go.Im
namespace Go.Proofs.YtpgmohjmpaifbaaDoor.Im

def pcsOf (l m M : Int) (gs : List Fl) : List By := gs.flatMap fun f => pcs (cutR l m M f.d) f.d
theorem pcsOf_snoc (l m M : Int) (gs : List Fl) (i : Nat) (hi : i < gs.length) : pcsOf l m M (gs.take (i + 1)) = pcsOf l m M (gs.take i) ++ pcs (cutR l m M gs[i].d) gs[i].d := by
  unfold pcsOf; rw [List.take_succ_eq_append_getElem hi, List.flatMap_append]; simp
theorem pcsOf_len (l m M : Int) : ∀ (gs : List Fl), (pcsOf l m M gs).length ≤ szOf gs
  | [] => by simp [pcsOf,szOf]
  | f :: fs => by
    have := pcsOf_len l m M fs
    have h2 := (cutR_sum l m M f.d).2.2
    have h3 := pcs_len (cutR l m M f.d) f.d
    simp only [pcsOf,List.flatMap_cons,List.length_append,szOf,List.map_cons,List.sum_cons] at this ⊢
    omega

section
variable {n : Nat} {tot : Bool} {ω : Nat → Nat} {h : Hp}

theorem c18n (c : AV) (l m M : Int) (a : AV) (hc : Cf c l m M) (hok : ¬ okConf l m M) (hn : 10 < n) : call F n tot ω 18 [c, a] h = some (.tup [.nils, .nils, .int .i64 1], h) := by
  obtain ⟨n, rfl⟩ : ∃ m, n = m + 1 := ⟨n - 1, by omega⟩
  have k47 := fun h => c47n (n := n) (tot := tot) (ω := ω) (h := h) c l m M hc hok (by omega)
  obtain ⟨cs, rfl, hl, h8, h9, h10⟩ := hc.agg
  have t12 : List.take 12 cs = cs := List.take_of_length_le (by omega)
  refine call_eq (fn := a18) f18 ?_
  unfold a18
  simp (maxSteps := 2000000) (discharger := omega) only [xz,xc,xo,xr,x0,x1,xd,kont_call,Reg.isA,Reg.isV,Reg.stays,Reg.onto,↓reduceIte,reduceCtorEq,Nat.reduceEqDiff,Nat.reduceLT,Nat.reduceAdd,exists_eq_left',int_beq_f,int_bne_t,nat_le_t,hl,t12,k47]

theorem upd1 (p : By) {u : AV} (hu : u.one = true) : upd (.agg [.str p, .nils]) 1 u = some (.agg [.str p, u]) := by
  cases u <;> first | rfl | cases hu

structure BuiltE (l m M : Int) (fs : List Fl) (av pv : AV) : Prop where
  ex : ∃ (gs : List Fl) (ls : List Lf) (pes : List AV), gs.Perm fs ∧ SrtF gs ∧ IsRd 2 (ls.map Lf.av) av ∧ ls.map Lf.pp = gs.map (Fl.pp l m M) ∧ (∀ x ∈ ls, x.ok) ∧ CE (uniq [] (pcsOf l m M gs)) pes ∧ IsRd 33 pes pv

set_option maxHeartbeats 1000000 in
set_option maxRecDepth 100000 in
theorem c18y (c : AV) (l m M : Int) (a : AV) (fs : List Fl) (hc : Cf c l m M) (hok : okConf l m M) (ha : IsRd 2 (fs.map Fl.av) a) (hfo : ∀ f ∈ fs, f.ok) (hf : Few fs) (hn : 2000000 < n) :
    ∃ av pv h', call F n tot ω 18 [c, a] h = some (.tup [av, pv, .int .i64 (chk fs)], h') ∧ (chk fs = 0 → BuiltE l m M fs av pv) ∧ (chk fs ≠ 0 → av = .nils ∧ pv = .nils) := by
  obtain ⟨n, rfl⟩ : ∃ m, n = m + 1 := ⟨n - 1, by omega⟩
  suffices hx : ∃ v h', call F (n + 1) tot ω 18 [c, a] h = some (v, h') ∧ ∃ av pv, v = .tup [av, pv, .int .i64 (chk fs)] ∧ (chk fs = 0 → BuiltE l m M fs av pv) ∧ (chk fs ≠ 0 → av = .nils ∧ pv = .nils) by
    obtain ⟨v, h', e1, av, pv, rfl, e2⟩ := hx
    exact ⟨av, pv, h', e1, e2⟩
  refine call_of (fn := a18) f18 (P := fun v h' => ∃ av pv, v = .tup [av, pv, .int .i64 (chk fs)] ∧ (chk fs = 0 → BuiltE l m M fs av pv) ∧ (chk fs ≠ 0 → av = .nils ∧ pv = .nils)) ?_
  have k47 := fun h => c47y (n := n) (tot := tot) (ω := ω) (h := h) c l m M hc hok (by omega)
  obtain ⟨h1, k14⟩ := c14 (n := n) (tot := tot) (ω := ω) (h := h) a fs ha hfo hf (by omega)
  obtain ⟨cs, hcs, hl, h8, h9, h10⟩ := hc.agg
  subst hcs
  have t12 : List.take 12 cs = cs := List.take_of_length_le (by omega)
  have hnum := hf.num
  obtain ⟨ck, hck⟩ : ∃ ck, chk fs = ck := ⟨_, rfl⟩
  rw [hck] at k14 ⊢
  by_cases h0 : ck = 0
  · subst h0
    obtain ⟨v, m1, gs, k44, hR, hP, hS⟩ := c44 (n := n) (tot := tot) (ω := ω) (h := h1 ++ [AO.map [] 0]) a fs ha (by omega) (by omega)
    have hgl : gs.length = fs.length := hP.length_eq
    have hfg := hf.perm hP
    have hlen := hR.len
    rw [List.length_map] at hlen
    unfold a18
    simp (maxSteps := 2000000) (discharger := omega) only [xz,xc,xo,xr,x0,x1,x4,x5,xd,kont_call,Reg.isA,Reg.isV,Reg.stays,Reg.onto,↓reduceIte,reduceCtorEq,Nat.reduceEqDiff,Nat.reduceLT,Nat.reduceAdd,true_implies,beq_self_eq_true,int_bne_f,nat_le_t,hl,t12,k47,k14,k44,hlen]
    refine wpi_loop (fun x r g => ∃ (i : Nat) (lv pv : AV) (ls : List Lf) (pes : List AV) (T : List (Ky × Bool × Nat)) (cl : Nat) (t1 t2 : Option Nat),
      r = [(2, .var (.agg cs)), (8, .val lv), (9, .val pv), (10, .val (.mp h1.length)), (25, .val v), (26, .val (.int .i64 gs.length)), (27, .val (.int .i64 i))] ∧ x = gs.length - i ∧ i ≤ gs.length ∧
      RowAt g 2 (h1.length + 1) (gs.map Fl.av) v ∧ TokAt 2 (ls.map Lf.av) g lv t1 ∧ CE (uniq [] (pcsOf l m M (gs.take i))) pes ∧ TokAt 33 pes g pv t2 ∧
      g[h1.length]? = some (.map (encE kA AV.bool T) cl) ∧ (∀ q, tget T q = if q ∈ (uniq [] (pcsOf l m M (gs.take i))).map keyOf then some true else none) ∧
      ls.map Lf.pp = (gs.take i).map (Fl.pp l m M) ∧ (∀ x ∈ ls, x.ok) ∧ (∀ x, t1 = some x → x < g.length ∧ x ≠ h1.length ∧ (∀ k, v ≠ .row x 2 0 k false) ∧ t2 ≠ some x) ∧ (∀ x, t2 = some x → x < g.length ∧ x ≠ h1.length ∧ ∀ k, v ≠ .row x 2 0 k false)) gs.length (by omega)
      ⟨0, .nils, .nils, [], [], [], 0, none, none, rfl, rfl, Nat.zero_le _, by simpa using hR, tok_nils _ _ _, trivial, tok_nils _ _ _, by rw [List.append_assoc, hg0]; rfl, fun q => by simp [tget,uniq,pcsOf], rfl, by simp, by simp, by simp⟩ ?_
    rintro x r g ⟨i, lv, pv, ls, pes, T, cl, t1, t2, rfl, rfl, hi, hRg, hA1, hCE, hA2, hm, htg, hpp, hlo, b1, b2⟩
    have hll : ls.length = i := by
      have := congrArg List.length hpp
      simpa [Nat.min_eq_left hi] using this
    by_cases hlt : i < gs.length
    · rcases hRg with ⟨rfl, e⟩ | ⟨id, post, rfl, hid, hlo2⟩
      · have := congrArg List.length e
        simp at this
        subst this
        simp at hlt
      · have q5 : ((gs.map Fl.av) ++ post)[i]? = some (.agg [.str gs[i].p, gs[i].v]) := by
          rw [List.getElem?_append_left (by simpa using hlt)]; exact fl_get hlt
        have hgm : gs[i] ∈ fs := hP.mem_iff.1 (List.getElem_mem hlt)
        have hg := hfo _ hgm
        have hgd := hf.data _ hgm
        have q7 := fl_sub hg 1
        have hsz := hfg.take i
        have hpl := pcsOf_len l m M (gs.take i)
        have hul := uniq_len (pcsOf l m M (gs.take i)) []
        rw [List.length_nil] at hul
        have hsn := pcsOf_snoc l m M gs i hlt
        have htk : gs.take (i + 1) = gs.take i ++ [gs[i]] := List.take_succ_eq_append_getElem hlt
        obtain ⟨av, pv', g2, k48, hE⟩ := c48 (n := n) (tot := tot) (ω := ω) (h := g) cs l m M gs[i].d gs[i].v pv h1.length t2 (uniq [] (pcsOf l m M (gs.take i))) pes T cl hl h8 h9 h10 hok hg (by omega) (by omega) hCE hA2 hm htg (fun x hx => ⟨(b2 x hx).2.1, (b2 x hx).1⟩) (by omega)
        obtain ⟨pes', T', cl', t2', e1, e2, e3, e4, e5⟩ := hE.ex
        have hkp : ∀ j, j < g.length → j ≠ h1.length → t2 ≠ some j → g2[j]? = g[j]? := hE.fr
        have hA1' : TokAt 2 (ls.map Lf.av) g2 lv t1 := hA1.keep fun j o hj ho => by
          obtain ⟨y1, y2, _, y3⟩ := b1 j hj
          rw [hkp j y1 y2 y3]; exact ho
        have hidl := (List.getElem?_eq_some_iff.1 hid).1
        have hid2 : g2[id]? = some (.row 2 ((gs.map Fl.av) ++ post)) := by
          rw [hkp id hidl (by omega) (fun e => (b2 id e).2.2 _ rfl)]
          exact hid
        have s1 := rd_sub hE.parts 1
        have s2 := rd_nt hE.parts
        have s3 := rd_cells hE.parts
        obtain ⟨lv', g3, w1, w2, w3, w4, cw, w5⟩ := tok_app (bytes := 40) (xs := [.agg [.str gs[i].p, av]]) hA1' (by simp) (by simp; omega)
        have s4 := upd1 gs[i].p (rd_one hE.parts)
        simp (maxSteps := 2000000) (discharger := omega) only [xz,xc,xo,xr,x0,x1,x3,x5,xd,xb,kont_call,selems,srcElems,wr,place,partVals,partEs,placeEs,Reg.isA,Reg.isV,Reg.stays,Reg.onto,↓reduceIte,Nat.reduceEqDiff,Nat.reduceLT,Nat.reduceAdd,Nat.zero_lt_succ,Nat.reduceBEq,xu,List.set_cons_zero,wrap_i64,int_lt_t,int_le_t,nat_le_t,hid,q5,s4,hl,t12,k48,s2,s3,List.replicate,List.length_map,w1,hA1.1.isRow]
        have hlen2 := hE.low
        have hm2l := (List.getElem?_eq_some_iff.1 e3).1
        have hmne : t1 ≠ some h1.length := fun e => (b1 _ e).2.1 rfl
        refine ⟨gs.length - (i + 1), by omega, i + 1, lv', pv', ls ++ [⟨gs[i].p, partsR l m M gs[i].d, av⟩], pes', T', cl', some g2.length, t2', by rw [show ((i : Nat) : Int) + 1 = ((i + 1 : Nat) : Int) by omega], rfl, by omega, ?_, ?_, ?_, ?_, ?_, ?_, ?_, ?_, ?_, ?_⟩
        · exact .inr ⟨id, post, by rw [List.length_map], w4 id _ hid2 (fun e => (b1 id e).2.2.1 _ rfl), hlo2⟩
        · rw [List.map_append]; exact w2
        · rw [hsn, uniq_app]; exact e1
        · exact e2.keep fun j o hj ho => w4 j o ho (fun e => by
            rcases (e5 j hj).1 with ⟨y1, y2⟩ | y1
            · exact (b1 j e).2.2.2 (y1 ▸ hj)
            · have := (b1 j e).1; omega)
        · exact w4 _ _ e3 hmne
        · intro q; rw [hsn, uniq_app]; exact e4 q
        · rw [htk, List.map_append, List.map_append, hpp]; rfl
        · intro x hx
          rcases List.mem_append.1 hx with hx | hx
          · exact hlo x hx
          · rw [List.mem_singleton] at hx
            subst hx
            exact ⟨hE.parts, partsL_ok _ _ _⟩
        · intro x hx
          cases hx
          exact ⟨w3, by omega, fun k e => by cases e; omega, fun e => by have := (e5 _ e).2; omega⟩
        · intro x hx
          obtain ⟨y1, y2⟩ := e5 x hx
          refine ⟨by omega, ?_, fun k e => ?_⟩
          · rcases y1 with ⟨_, y⟩ | y
            · exact y
            · omega
          · cases e
            rcases y1 with ⟨y, _⟩ | y
            · exact (b2 _ (y ▸ hx)).2.2 _ rfl
            · omega
    · obtain rfl : i = gs.length := by omega
      rw [List.take_length] at hpp hCE
      simp (maxSteps := 2000000) (discharger := omega) only [xz,xc,xo,xr,x0,x1,xd,Reg.isA,Reg.isV,Reg.stays,Reg.onto,↓reduceIte,Nat.reduceEqDiff,Nat.reduceLT,exists_eq_left',int_lt_f,Nat.sub_self]
      exact ⟨_, _, rfl, ⟨⟨gs, ls, pes, hP, hS, isRd_app hA1.1, hpp, hlo, hCE, isRd_app hA2.1⟩⟩, fun e => absurd rfl e⟩
  · unfold a18
    simp (maxSteps := 2000000) (discharger := omega) only [xz,xc,xo,xr,x0,x1,xd,kont_call,Reg.isA,Reg.isV,Reg.stays,Reg.onto,↓reduceIte,reduceCtorEq,Nat.reduceEqDiff,Nat.reduceLT,Nat.reduceAdd,beq_self_eq_true,exists_eq_left',int_bne_t,nat_le_t,hl,t12,k47,k14,h0]
    exact ⟨_, _, rfl, fun e => e.elim, fun _ => ⟨rfl, rfl⟩⟩
end
end Go.Proofs.YtpgmohjmpaifbaaDoor.Im

/- S21Lb: the law TreeBuilds. -/
set_option linter.unusedVariables false
set_option linter.unusedSimpArgs false
open Go Go.Im
namespace Go.Proofs.YtpgmohjmpaifbaaDoor.Im
def Z33 : List AV := List.replicate 32 (.int .u8 0) ++ [.int .i64 0]
theorem z33_eq : (AV.agg [AV.int .u8 0, AV.int .u8 0, AV.int .u8 0, AV.int .u8 0, AV.int .u8 0, AV.int .u8 0, AV.int .u8 0, AV.int .u8 0, AV.int .u8 0, AV.int .u8 0, AV.int .u8 0, AV.int .u8 0, AV.int .u8 0, AV.int .u8 0, AV.int .u8 0, AV.int .u8 0, AV.int .u8 0, AV.int .u8 0, AV.int .u8 0, AV.int .u8 0, AV.int .u8 0, AV.int .u8 0, AV.int .u8 0, AV.int .u8 0, AV.int .u8 0, AV.int .u8 0, AV.int .u8 0, AV.int .u8 0, AV.int .u8 0, AV.int .u8 0, AV.int .u8 0, AV.int .u8 0, AV.int .i64 0]) = .agg Z33 := rfl
theorem updZ (q : By) : upd (.agg Z33) 0 (.agg (intsOf .u8 (shaR q) ++ [.int .i64 (q.length : Nat)])) = some (.agg (intsOf .u8 (shaR q) ++ [.int .i64 (q.length : Nat)])) := by
  have h1 : (intsOf .u8 (shaR q) ++ [AV.int .i64 (q.length : Nat)]).length = 33 := by simp [io_len',shaR_len]
  have h2 : Z33.length = 33 := rfl
  have h3 : Z33.drop 33 = [] := rfl
  simp only [upd,h1,h2,Nat.zero_add,Nat.le_refl,if_true,List.take_zero,List.nil_append,h3,List.append_nil]
theorem pre_get {U P : List By} (hU : U <+: P) {j : Nat} (hj : j < U.length) (hj2 : j < P.length) : P[j] = U[j] := by
  obtain ⟨t, rfl⟩ := hU
  rw [List.getElem_append_left hj]

section
variable {n : Nat} {tot : Bool} {ω : Nat → Nat} {h : Hp}

set_option maxRecDepth 100000 in
theorem w_u4e (P U : List By) (pes : List AV) (q : By) (lv pv : AV) (ls : List Lf) (i k : Nat) (hCE : CE P pes) (hp : IsRd 33 pes pv) (hU : U <+: P) (hq : keyOf q ∉ U.map keyOf → U ++ [q] <+: P) (rl : IsRd 2 (ls.map Lf.av) lv) (hi : i < ls.length) (hk : k < ls[i].ps.length) (hpk : ls[i].ps[k] = ptB q) (ok : ls[i].ok)
    (hP : P.length ≤ 10000000) (hql : q.length ≤ 1000000) (hn : 20000000 < n) (hki : k ≤ 1000000) (hii : i ≤ 1000000) :
    Wp (kont F n tot ω) n u4e [(8, .val lv), (9, .val pv), (13, .val (.int .i64 (U.length : Nat))), (14, .val (.int .i64 (i : Nat))), (15, .val (.int .i64 (k : Nat))), (116, .val (.bool true))] h fun e r' h' =>
      (e = .exit 5 ∧ keyOf q ∈ U.map keyOf ∧ ∃ v16, r' = [(8, .val lv), (9, .val pv), (13, .val (.int .i64 (U.length : Nat))), (14, .val (.int .i64 (i : Nat))), (15, .val (.int .i64 (k : Nat))), (16, .var v16), (143, .val (.bool true))]) ∨
      (e = .normal ∧ keyOf q ∉ U.map keyOf ∧ r' = [(8, .val lv), (9, .val pv), (13, .val (.int .i64 (U.length + 1 : Nat))), (14, .val (.int .i64 (i : Nat))), (15, .val (.int .i64 (k : Nat)))]) := by
  have hUl : U.length ≤ P.length := hU.length_le
  obtain ⟨cl, rfl⟩ := lfs_el rl hi
  have q1 := lf_get hi
  have s1 := rd_sub ok.1 1
  obtain ⟨cp, hcp⟩ := ok.1.imm (i := k) (by rw [List.length_map]; exact hk)
  have q2 := pt_get hk
  rw [hpk] at q2
  have q2 : (ls[i].ps.map Pt.av)[k]? = some (.agg (intsOf .u8 (shaR q) ++ [.int .i64 (q.length : Nat)])) := q2
  rw [hcp] at q1 s1
  have x33 : ∀ q z, List.length (intsOf .u8 (shaR q) ++ [z]) = 33 := fun q z => by simp [io_len',shaR_len]
  have g32 : ∀ q z, (intsOf .u8 (shaR q) ++ [z])[32]? = some z := fun q z => by
    rw [List.getElem?_append_right (by rw [io_len', shaR_len]; exact Nat.le_refl _), io_len', shaR_len]; rfl
  have t33 : ∀ q z, List.take 33 (intsOf .u8 (shaR q) ++ [z]) = intsOf .u8 (shaR q) ++ [z] := fun q z => List.take_of_length_le (by rw [x33]; exact Nat.le_refl _)
  have hz := updZ q
  have lp := hp.len
  rw [hCE.len] at lp
  unfold u4e
  simp (maxSteps := 2000000) (discharger := omega) only [xz,xc,xo,xr,x0,x1,x5,xd,wr,Reg.isA,Reg.isV,Reg.stays,Reg.onto,↓reduceIte,Nat.reduceEqDiff,Nat.reduceLT,int_le_t,nat_le_t,q1,q2,s1,z33_eq,hz,t33,x33]
  refine wpi_loop (fun x r g => ∃ (j : Nat), r = [(8, .val (.imm 2 (ls.map Lf.av) cl)), (9, .val pv), (13, .val (.int .i64 (U.length : Nat))), (14, .val (.int .i64 (i : Nat))), (15, .val (.int .i64 (k : Nat))), (16, .var (.agg (intsOf .u8 (shaR q) ++ [.int .i64 (q.length : Nat)]))), (17, .val (.bool (decide (keyOf q ∈ (U.take j).map keyOf)))), (18, .val (.int .i64 j))] ∧ x = U.length - j ∧ j ≤ U.length) U.length (by omega)
    ⟨0, by simp, rfl, Nat.zero_le _⟩ ?_
  rintro x r g ⟨j, rfl, rfl, hj⟩
  by_cases hlt : j < U.length
  · have htk : U.take (j + 1) = U.take j ++ [U[j]] := List.take_succ_eq_append_getElem hlt
    have hjP : j < P.length := by omega
    obtain ⟨cj, qj⟩ := hCE.get hjP
    obtain ⟨cv, rfl⟩ := hp.imm (i := j) (by rw [hCE.len]; exact hjP)
    have hPU := pre_get hU hlt hjP
    rw [hPU] at qj
    by_cases hs : keyOf q ∈ (U.take j).map keyOf
    · have hs' : keyOf q ∈ (U.take (j + 1)).map keyOf := by rw [htk, List.map_append]; exact List.mem_append.2 (.inl hs)
      simp (maxSteps := 2000000) (discharger := omega) only [xz,xc,xo,xr,x0,x1,xd,xb,Reg.isA,Reg.isV,Reg.stays,Reg.onto,↓reduceIte,Nat.reduceEqDiff,Nat.reduceLT,wrap_i64,int_lt_t,hs]
      exact ⟨U.length - (j + 1), by omega, j + 1, by rw [decide_eq_true hs', show ((j : Nat) : Int) + 1 = ((j + 1 : Nat) : Int) by omega], rfl, by omega⟩
    · by_cases he : keyOf U[j] = keyOf q
      · have hs' : keyOf q ∈ (U.take (j + 1)).map keyOf := by rw [htk, List.map_append]; exact List.mem_append.2 (.inr (by simp [he]))
        simp (maxSteps := 2000000) (discharger := omega) only [xz,xc,xo,xr,x0,x1,x2,xd,xe,eqAV,Bool.bne_false,Reg.isA,Reg.isV,Reg.stays,Reg.onto,↓reduceIte,Nat.reduceEqDiff,Nat.reduceLT,beq_self_eq_true,Nat.reduceBEq,wrap_i64,int_lt_t,int_le_t,nat_le_t,hs,qj,tk32,tk32',shaR_len,eqk,x33,he]
        exact ⟨U.length - (j + 1), by omega, j + 1, by rw [decide_eq_true hs', show ((j : Nat) : Int) + 1 = ((j + 1 : Nat) : Int) by omega], rfl, by omega⟩
      · have hs' : ¬ keyOf q ∈ (U.take (j + 1)).map keyOf := by
          rw [htk, List.map_append]
          intro h
          rcases List.mem_append.1 h with h | h
          · exact hs h
          · simp at h; exact he h.symm
        simp (maxSteps := 2000000) (discharger := omega) only [xz,xc,xo,xr,x0,x1,x2,xd,xe,eqAV,Bool.bne_false,Reg.isA,Reg.isV,Reg.stays,Reg.onto,↓reduceIte,Nat.reduceEqDiff,Nat.reduceLT,beq_self_eq_true,Nat.reduceBEq,wrap_i64,int_lt_t,int_le_t,nat_le_t,hs,qj,tk32,tk32',shaR_len,eqk,x33,he]
        exact ⟨U.length - (j + 1), by omega, j + 1, by rw [decide_eq_false hs', show ((j : Nat) : Int) + 1 = ((j + 1 : Nat) : Int) by omega], rfl, by omega⟩
  · obtain rfl : j = U.length := by omega
    rw [List.take_length]
    by_cases hs : keyOf q ∈ U.map keyOf
    · simp (maxSteps := 2000000) (discharger := omega) only [xz,xc,xo,xr,x0,x1,xd,Reg.isA,Reg.isV,Reg.stays,Reg.onto,↓reduceIte,Nat.reduceEqDiff,Nat.reduceLT,or_false,int_lt_f,Nat.sub_self,not_true_eq_false,hs]
      exact ⟨_, rfl⟩
    · have hpre := hq hs
      have hUP : U.length < P.length := by have := hpre.length_le; simp at this; omega
      obtain ⟨cj, qj⟩ := hCE.get hUP
      obtain ⟨cv, rfl⟩ := hp.imm (i := U.length) (by rw [hCE.len]; exact hUP)
      have hPU : P[U.length] = q := by
        rw [pre_get hpre (j := U.length) (by simp) hUP]; simp
      rw [hPU] at qj
      have tb : toBytes (bytesOf q) = some q := toBytes_bytesOf q
      obtain ⟨h3, k22, hB3⟩ := c22 (n := n) (tot := tot) (ω := ω) (h := g) q .full (by omega) (by omega)
      simp (maxSteps := 2000000) (discharger := omega) only [xz,xc,xo,xr,x0,x1,x2,x3,x4,xd,xe,xb,kont_call,selems,eqAV,partEs,placeEs,Bool.bne_true,Reg.isA,Reg.isV,Reg.stays,Reg.onto,↓reduceIte,Nat.reduceEqDiff,Nat.reduceLT,Nat.zero_lt_succ,false_or,beq_self_eq_true,Nat.reduceBEq,List.set_cons_zero,wrap_i64,int_lt_f,int_le_t,int_beq_f,nat_le_t,Nat.sub_self,not_false_eq_true,hs,lp,qj,tk32,tk32',shaR_len,eqk,x33,g32,tb,k22,List.replicate,bne_self_eq_false]
      rw [show ((U.length : Nat) : Int) + 1 = ((U.length + 1 : Nat) : Int) by omega]

theorem pcsOf_split (l m M : Int) (gs : List Fl) (i k : Nat) (hi : i < gs.length) (hk : k < (pcs (cutR l m M gs[i].d) gs[i].d).length) :
    ∃ post, pcsOf l m M gs = (pcsOf l m M (gs.take i) ++ (pcs (cutR l m M gs[i].d) gs[i].d).take k) ++ (pcs (cutR l m M gs[i].d) gs[i].d)[k] :: post := by
  refine ⟨(pcs (cutR l m M gs[i].d) gs[i].d).drop (k + 1) ++ pcsOf l m M (gs.drop (i + 1)), ?_⟩
  have e1 : gs = gs.take i ++ gs[i] :: gs.drop (i + 1) := by rw [← List.drop_eq_getElem_cons hi, List.take_append_drop]
  have e2 := List.take_append_drop k (pcs (cutR l m M gs[i].d) gs[i].d)
  rw [List.drop_eq_getElem_cons hk] at e2
  have e3 : pcsOf l m M gs = pcsOf l m M (gs.take i) ++ (pcs (cutR l m M gs[i].d) gs[i].d ++ pcsOf l m M (gs.drop (i + 1))) := by
    conv => lhs; rw [e1]
    unfold pcsOf
    rw [List.flatMap_append, List.flatMap_cons]
  rw [e3]
  generalize hX : (pcs (cutR l m M gs[i].d) gs[i].d)[k] = x at *
  conv => lhs; rw [← e2]
  simp [List.append_assoc]

theorem pp_len {l m M : Int} {gs : List Fl} {ls : List Lf} (hpp : ls.map Lf.pp = gs.map (Fl.pp l m M)) : ls.length = gs.length := by
  have := congrArg List.length hpp
  simpa using this
theorem pp_at {l m M : Int} {gs : List Fl} {ls : List Lf} (hpp : ls.map Lf.pp = gs.map (Fl.pp l m M)) (i : Nat) (hi : i < ls.length) (hi2 : i < gs.length) : ls[i].p = gs[i].p ∧ ls[i].ps = (pcs (cutR l m M gs[i].d) gs[i].d).map ptB := by
  have e := congrArg (·[i]?) hpp
  simp only [List.getElem?_map,List.getElem?_eq_getElem hi,List.getElem?_eq_getElem hi2,Option.map_some,Option.some.injEq,Lf.pp,Fl.pp,Prod.mk.injEq] at e
  rw [← partsR_pcs]
  exact e

theorem w_u4c (l m M : Int) (gs : List Fl) (ls : List Lf) (pes : List AV) (lv pv : AV) (hpp : ls.map Lf.pp = gs.map (Fl.pp l m M)) (hlo : ∀ x ∈ ls, x.ok) (hCE : CE (uniq [] (pcsOf l m M gs)) pes) (hp : IsRd 33 pes pv) (rl : IsRd 2 (ls.map Lf.av) lv) (hf : Few gs) (hn : 50000000 < n) :
    Wp (kont F n tot ω) n u4c [(8, .val lv), (9, .val pv), (102, .val (.bool false))] h (Ret [ARes.t 6] fun v h' => v = .bool true) := by
  have hle := pp_len hpp
  have hnum := hf.num
  have ll := rl.len
  have lp := hp.len
  rw [hCE.len] at lp
  rw [List.length_map] at ll
  have hsz := hf.take gs.length
  rw [List.take_length] at hsz
  have hpl := pcsOf_len l m M gs
  have hul := uniq_len (pcsOf l m M gs) []
  rw [List.length_nil] at hul
  unfold u4c
  simp (maxSteps := 2000000) (discharger := omega) only [xz,xc,xo,xr,x0,Reg.isA,Reg.isV,Reg.stays,Reg.onto,↓reduceIte,Nat.reduceEqDiff,Nat.reduceLT]
  refine wpi_loop (fun x r g => ∃ (i : Nat), r = [(8, .val lv), (9, .val pv), (13, .val (.int .i64 ((uniq [] (pcsOf l m M (gs.take i))).length : Nat))), (14, .val (.int .i64 i))] ∧ x = ls.length - i ∧ i ≤ ls.length) ls.length (by omega)
    ⟨0, rfl, rfl, Nat.zero_le _⟩ ?_
  rintro x r g ⟨i, rfl, rfl, hi⟩
  by_cases hlt : i < ls.length
  · have hlt2 : i < gs.length := by omega
    obtain ⟨cl, rfl⟩ := lfs_el rl hlt
    have q1 := lf_get hlt
    have ok := hlo _ (List.getElem_mem hlt)
    have s1 := rd_sub ok.1 1
    obtain ⟨e1, e2⟩ := pp_at hpp i hlt hlt2
    have hpl2 := ok.1.len
    rw [List.length_map, e2, List.length_map] at hpl2
    have hsn := pcsOf_snoc l m M gs i hlt2
    have hgd := hf.data _ (List.getElem_mem hlt2)
    obtain ⟨r1, r2, r3⟩ := cutR_sum l m M gs[i].d
    have hcl := pcs_len (cutR l m M gs[i].d) gs[i].d
    simp (maxSteps := 2000000) (discharger := omega) only [xz,xc,xo,xr,x0,x1,x4,xd,Reg.isA,Reg.isV,Reg.stays,Reg.onto,↓reduceIte,Nat.reduceEqDiff,Nat.reduceLT,int_lt_t,ll]
    refine wpi_loop (fun x r g => ∃ (k : Nat), r = [(8, .val (.imm 2 (ls.map Lf.av) cl)), (9, .val pv), (13, .val (.int .i64 ((uniq [] (pcsOf l m M (gs.take i) ++ (pcs (cutR l m M gs[i].d) gs[i].d).take k)).length : Nat))), (14, .val (.int .i64 i)), (15, .val (.int .i64 k))] ∧ x = (pcs (cutR l m M gs[i].d) gs[i].d).length - k ∧ k ≤ (pcs (cutR l m M gs[i].d) gs[i].d).length) (pcs (cutR l m M gs[i].d) gs[i].d).length (by omega)
      ⟨0, by rw [List.take_zero, List.append_nil]; rfl, rfl, Nat.zero_le _⟩ ?_
    rintro x r g2 ⟨k, rfl, rfl, hk⟩
    by_cases hlk : k < (pcs (cutR l m M gs[i].d) gs[i].d).length
    · obtain ⟨post, hpost⟩ := pcsOf_split l m M gs i k hlt2 hlk
      have htk : (pcs (cutR l m M gs[i].d) gs[i].d).take (k + 1) = (pcs (cutR l m M gs[i].d) gs[i].d).take k ++ [(pcs (cutR l m M gs[i].d) gs[i].d)[k]] := List.take_succ_eq_append_getElem hlk
      have hpos := pcs_pos (cutR l m M gs[i].d) gs[i].d k hlk (by omega)
      have hql : ((pcs (cutR l m M gs[i].d) gs[i].d)[k]).length ≤ 30000 := by
        have hk2 : k < (cutR l m M gs[i].d).length := by omega
        have hgd2 : (cutR l m M gs[i].d).getD k 0 = (cutR l m M gs[i].d)[k] := by simp [List.getD,hk2]
        have := le_sum _ _ hk2
        omega
      have hkl : k < ls[i].ps.length := by rw [e2, List.length_map]; exact hlk
      have hpk : ls[i].ps[k] = ptB (pcs (cutR l m M gs[i].d) gs[i].d)[k] := by simp [e2]
      have we := w_u4e (n := n) (tot := tot) (ω := ω) (h := g2) (uniq [] (pcsOf l m M gs)) (uniq [] (pcsOf l m M (gs.take i) ++ (pcs (cutR l m M gs[i].d) gs[i].d).take k)) pes (pcs (cutR l m M gs[i].d) gs[i].d)[k] (.imm 2 (ls.map Lf.av) cl) pv ls i k hCE hp
        (by rw [hpost, uniq_app [] (_ ++ _)]; exact uniq_pre _ _) (fun hno => by
          rw [hpost, uniq_app [] (_ ++ _)]
          show _ <+: uniq (addU _ _) post
          unfold addU
          rw [if_neg hno]
          exact uniq_pre _ _) rl hlt hkl hpk ok (by omega) (by omega) (by omega) (by omega) (by omega)
      have hnx : uniq [] (pcsOf l m M (gs.take i) ++ (pcs (cutR l m M gs[i].d) gs[i].d).take (k + 1)) = addU (uniq [] (pcsOf l m M (gs.take i) ++ (pcs (cutR l m M gs[i].d) gs[i].d).take k)) (pcs (cutR l m M gs[i].d) gs[i].d)[k] := by
        rw [htk, ← List.append_assoc, uniq_snoc]
      have hup : (uniq [] (pcsOf l m M (gs.take i) ++ (pcs (cutR l m M gs[i].d) gs[i].d).take k)).length ≤ 10000000 := by
        have := (show uniq [] (pcsOf l m M (gs.take i) ++ (pcs (cutR l m M gs[i].d) gs[i].d).take k) <+: uniq [] (pcsOf l m M gs) by rw [hpost, uniq_app [] (_ ++ _)]; exact uniq_pre _ _).length_le
        omega
      generalize (pcs (cutR l m M gs[i].d) gs[i].d)[k] = q at *
      generalize uniq [] (pcsOf l m M (gs.take i) ++ (pcs (cutR l m M gs[i].d) gs[i].d).take k) = U at *
      simp (maxSteps := 2000000) (discharger := omega) only [xz,xc,xo,xr,x0,x1,x4,xd,Reg.isA,Reg.isV,Reg.stays,Reg.onto,↓reduceIte,Nat.reduceEqDiff,Nat.reduceLT,int_lt_t,int_le_t,q1,s1,hpl2]
      refine we.mono ?_
      rintro e r' h' (⟨rfl, hin, v16, rfl⟩ | ⟨rfl, hno, rfl⟩)
      · have : addU U q = U := by unfold addU; rw [if_pos hin]
        simp (maxSteps := 2000000) (discharger := omega) only [xz,xc,xo,xr,x0,x1,xd,Reg.isA,Reg.isV,Reg.stays,Reg.onto,↓reduceIte,Nat.reduceEqDiff,Nat.reduceLT,wrap_i64]
        exact ⟨(pcs (cutR l m M gs[i].d) gs[i].d).length - (k + 1), by omega, k + 1, by rw [hnx, this, show ((k : Nat) : Int) + 1 = ((k + 1 : Nat) : Int) by omega], rfl, by omega⟩
      · have : (addU U q).length = U.length + 1 := by unfold addU; rw [if_neg hno]; simp
        simp (maxSteps := 2000000) (discharger := omega) only [xz,xc,xo,xr,x0,x1,xd,Reg.isA,Reg.isV,Reg.stays,Reg.onto,↓reduceIte,Nat.reduceEqDiff,Nat.reduceLT,wrap_i64]
        exact ⟨(pcs (cutR l m M gs[i].d) gs[i].d).length - (k + 1), by omega, k + 1, by rw [hnx, this, show ((k : Nat) : Int) + 1 = ((k + 1 : Nat) : Int) by omega], rfl, by omega⟩
    · obtain rfl : k = (pcs (cutR l m M gs[i].d) gs[i].d).length := by omega
      simp (maxSteps := 2000000) (discharger := omega) only [xz,xc,xo,xr,x0,x1,x4,xd,Reg.isA,Reg.isV,Reg.stays,Reg.onto,↓reduceIte,Nat.reduceEqDiff,Nat.reduceLT,wrap_i64,int_lt_f,int_le_t,Nat.sub_self,q1,s1,hpl2]
      exact ⟨ls.length - (i + 1), by omega, i + 1, by rw [List.take_length, ← hsn, show ((i : Nat) : Int) + 1 = ((i + 1 : Nat) : Int) by omega], rfl, by omega⟩
  · obtain rfl : i = ls.length := by omega
    rw [show gs.take ls.length = gs by rw [hle, List.take_length]]
    simp (maxSteps := 2000000) (discharger := omega) only [xz,xc,xo,xr,x0,x1,x4,xd,Reg.isA,Reg.isV,Reg.stays,Reg.onto,↓reduceIte,Nat.reduceEqDiff,Nat.reduceLT,beq_self_eq_true,exists_eq_left',int_lt_f,Nat.sub_self,ll,lp]

theorem w_u4b (l m M : Int) (cs : List AV) (fs fs' : List Fl) (a lv pv : AV) (hc : Cf (.agg cs) l m M) (hok : okConf l m M) (ha : IsRd 2 (fs.map Fl.av) a) (hfo : ∀ f ∈ fs, f.ok) (hf : Few fs) (hfp : fs'.map Fl.pd = fs.map Fl.pd) (hB : BuiltE l m M fs' lv pv) (hck : chk fs = 0) (hn : 50000000 < n) :
    Wp (kont F n tot ω) n u4b [(1, .val a), (3, .var (.agg cs)), (8, .val lv), (9, .val pv), (88, .val (.bool false))] h (Ret [ARes.t 6] fun v h' => v = .bool true) := by
  obtain ⟨gs, ls, pes, b1, b2, b3, b4, b5, b6, b7⟩ := hB.ex
  have hc' := hc
  obtain ⟨cs', hcs, hl, h8, h9, h10⟩ := hc.agg
  cases hcs
  have t12 : List.take 12 cs = cs := List.take_of_length_le (by omega)
  have hnum := hf.num
  have hl' : fs'.length = fs.length := by have := congrArg List.length hfp; simpa using this
  have hgd : ∀ f ∈ gs, f.d.length ≤ 30000 ∧ f.p.length ≤ 30000 := fun f hm => by
    have hm' : f.pd ∈ fs.map Fl.pd := by rw [← hfp]; exact List.mem_map_of_mem (b1.mem_iff.1 hm)
    obtain ⟨f2, hf2, he⟩ := List.mem_map.1 hm'
    unfold Fl.pd at he
    simp only [Prod.mk.injEq] at he
    rw [← he.1, ← he.2]
    exact ⟨hf.data _ hf2, hf.path _ hf2⟩
  have hfg : Few gs := ⟨by rw [b1.length_eq, hl']; exact hnum, fun f hm => (hgd f hm).1, fun f hm => (hgd f hm).2⟩
  obtain ⟨kv, h2, ks, k21, rk, _, lk, ⟨g2, p2, s2, m2⟩, okk⟩ := c21e (n := n) (tot := tot) (ω := ω) (h := h) (.agg cs) l m M a fs hc' hok.2.1 (by have := hok.2.2.1; omega) ha hfo (fun f hf' => by have := hf.data f hf'; omega) (by omega) (by omega)
  have hT := chk_zero hck
  have heq : gs.map (Fl.pp l m M) = g2.map (Fl.pp l m M) := by
    have e := srt_eq (fs := fs) (fs' := fs') (by rw [hfp]) p2 b1 s2 b2 hT
    have e2 : ∀ x : List Fl, x.map (Fl.pp l m M) = (x.map Fl.pd).map fun y => (y.1, partsR l m M y.2) := fun x => by simp [Fl.pp,Fl.pd,Function.comp_def]
    rw [e2, e2, e]
  have hps : ∀ x ∈ ls, x.ok ∧ x.ps.length ≤ 1000000 := fun x hx => by
    obtain ⟨i, hi, rfl⟩ := List.getElem_of_mem hx
    have hle := pp_len b4
    obtain ⟨e1, e2⟩ := pp_at b4 i hi (by omega)
    have := (hgd gs[i] (List.getElem_mem (by omega))).1
    have r3 := (cutR_sum l m M gs[i].d).2.2
    exact ⟨b5 _ hx, by rw [e2, List.length_map, pcs_len]; omega⟩
  have hps2 : ∀ x ∈ ks, x.ok ∧ x.ps.length ≤ 1000000 := fun x hx => by
    obtain ⟨o1, f, hf1, e1, e2⟩ := okk x hx
    have q1 := hf.data f hf1
    have q3 := partsR_len l m M f.d
    exact ⟨o1, by rw [e2]; omega⟩
  have k20 := c20 (n := n) (tot := tot) (ω := ω) (h := h2) ls ks lv kv b3 rk hps hps2 (by rw [b4, m2, heq]) (by rw [pp_len b4]; have := hfg.num; omega) (by omega)
  unfold u4b
  simp (maxSteps := 2000000) (discharger := omega) only [xz,xc,xo,xr,x0,x2,xd,kont_call,Reg.isA,Reg.isV,Reg.stays,Reg.onto,↓reduceIte,Nat.reduceEqDiff,Nat.reduceLT,nat_le_t,hl,t12,k21,k20]
  exact w_u4c (n := n) (tot := tot) (ω := ω) (h := h2) l m M gs ls pes lv pv b4 b5 b6 b7 b3 hfg hn

theorem w_u4d (l m M : Int) (cs : List AV) (fs fs' : List Fl) (a ov lv pv : AV) (ck : Int) (hc : Cf (.agg cs) l m M) (ha : IsRd 2 (fs.map Fl.av) a) (hfo : ∀ f ∈ fs, f.ok) (hf : Few fs) (ho : IsRd 2 (fs'.map Fl.av) ov) (hfo' : ∀ f ∈ fs', f.ok) (hfp : fs'.map Fl.pd = fs.map Fl.pd)
    (hy : ck = 0 → okConf l m M ∧ chk fs = 0 ∧ BuiltE l m M fs' lv pv) (hno : ck ≠ 0 → lv = .nils ∧ pv = .nils) (hn : 50000000 < n) :
    Wp (kont F n tot ω) n u4d [(1, .val a), (3, .var (.agg cs)), (7, .val ov), (8, .val lv), (9, .val pv), (10, .val (.int .i64 ck)), (54, .val (.bool false))] h (Ret [ARes.t 6] fun v h' => v = .bool true) := by
  have la := ha.len
  have lo := ho.len
  have hl' : fs'.length = fs.length := by have := congrArg List.length hfp; simpa using this
  have hnum := hf.num
  rw [List.length_map] at la lo
  unfold u4d
  simp (maxSteps := 2000000) (discharger := omega) only [xz,xc,xo,xr,x0,Reg.isA,Reg.isV,Reg.stays,Reg.onto,↓reduceIte,Nat.reduceEqDiff,Nat.reduceLT]
  refine wpi_loop (fun x r g => ∃ (i : Nat), r = [(1, .val a), (3, .var (.agg cs)), (7, .val ov), (8, .val lv), (9, .val pv), (10, .val (.int .i64 ck)), (12, .val (.int .i64 i))] ∧ x = fs.length - i ∧ i ≤ fs.length) fs.length (by omega)
    ⟨0, rfl, rfl, Nat.zero_le _⟩ ?_
  rintro x r g ⟨i, rfl, rfl, hi⟩
  by_cases hlt : i < fs.length
  · obtain ⟨ca, rfl⟩ := ha.imm (i := i) (by simpa using hlt)
    obtain ⟨co, rfl⟩ := ho.imm (i := i) (by rw [List.length_map]; omega)
    have hlt2 : i < fs'.length := by omega
    have q1 := fl_get hlt
    have q2 := fl_get hlt2
    have o1 := hfo _ (List.getElem_mem hlt)
    have o2 := hfo' _ (List.getElem_mem hlt2)
    have s1 := fl_sub o1 1
    have s2 := fl_sub o2 1
    have e := congrArg (·[i]?) hfp
    simp only [List.getElem?_map,List.getElem?_eq_getElem hlt,List.getElem?_eq_getElem hlt2,Option.map_some,Option.some.injEq,Fl.pd,Prod.mk.injEq] at e
    obtain ⟨e1, e2⟩ := e
    have r1 := fun g => rd_el o1 g
    have r2 := fun g => rd_el o2 g
    rw [e1] at q2
    rw [e2] at r2
    have tb : toBytes (bytesOf fs[i].d) = some fs[i].d := toBytes_bytesOf _
    simp (maxSteps := 2000000) (discharger := omega) only [xz,xc,xo,xr,x0,x1,x2,x4,xd,selems,Reg.isA,Reg.isV,Reg.stays,Reg.onto,↓reduceIte,Nat.reduceEqDiff,Nat.reduceLT,beq_self_eq_true,wrap_i64,int_lt_t,int_le_t,lo,q1,q2,s1,s2,r1,r2,tb]
    exact ⟨fs.length - (i + 1), by omega, i + 1, by rw [show ((i : Nat) : Int) + 1 = ((i + 1 : Nat) : Int) by omega], rfl, by omega⟩
  · obtain rfl : i = fs.length := by omega
    by_cases h0 : ck = 0
    · subst h0
      obtain ⟨y1, y2, y3⟩ := hy rfl
      simp (maxSteps := 2000000) (discharger := omega) only [xz,xc,xo,xr,x0,x1,x4,xd,Reg.isA,Reg.isV,Reg.stays,Reg.onto,↓reduceIte,Nat.reduceEqDiff,Nat.reduceLT,int_lt_f,int_bne_f,Nat.sub_self,lo]
      exact w_u4b (n := n) (tot := tot) (ω := ω) (h := g) l m M cs fs fs' a lv pv hc y1 ha hfo hf hfp y3 y2 hn
    · obtain ⟨rfl, rfl⟩ := hno h0
      simp (maxSteps := 2000000) (discharger := omega) only [xz,xc,xo,xr,x0,x1,x4,xd,Reg.isA,Reg.isV,Reg.stays,Reg.onto,↓reduceIte,Nat.reduceEqDiff,Nat.reduceLT,Int.cast_ofNat_Int,beq_self_eq_true,exists_eq_left',int_lt_f,int_bne_t,Nat.sub_self,lo]

theorem w_u4a (l m M : Int) (cs : List AV) (fs : List Fl) (a : AV) (hc : Cf (.agg cs) l m M) (ha : IsRd 2 (fs.map Fl.av) a) (hfo : ∀ f ∈ fs, f.ok) (hf : Few fs) (hn : 50000000 < n) (r : Regs) (hr : r = [(1, .val a), (3, .var (.agg cs))] ∨ r = [(1, .val a), (3, .var (.agg cs)), (28, .val (.bool false))]) :
    Wp (kont F n tot ω) n u4a r h (Ret [ARes.t 6] fun v h' => v = .bool true) := by
  have hc' := hc
  obtain ⟨cs', hcs, hl, h8, h9, h10⟩ := hc.agg
  cases hcs
  have t12 : List.take 12 cs = cs := List.take_of_length_le (by omega)
  have la := ha.len
  rw [List.length_map] at la
  obtain ⟨ov, h1, fs', k17, ro, oo, hfp⟩ := c17 (n := n) (tot := tot) (ω := ω) (h := h) a fs ha hfo hf (by omega)
  have lo := ro.len
  have hl' : fs'.length = fs.length := by have := congrArg List.length hfp; simpa using this
  rw [List.length_map, hl'] at lo
  have hnum := hf.num
  have hf' : Few fs' := ⟨by omega, fun f hm => by
    have hm' : f.pd ∈ fs.map Fl.pd := by rw [← hfp]; exact List.mem_map_of_mem hm
    obtain ⟨f2, hf2, he⟩ := List.mem_map.1 hm'
    simp only [Fl.pd,Prod.mk.injEq] at he
    rw [← he.2]; exact hf.data _ hf2, fun f hm => by
    have hm' : f.pd ∈ fs.map Fl.pd := by rw [← hfp]; exact List.mem_map_of_mem hm
    obtain ⟨f2, hf2, he⟩ := List.mem_map.1 hm'
    simp only [Fl.pd,Prod.mk.injEq] at he
    rw [← he.1]; exact hf.path _ hf2⟩
  have k19 := fun h => c19 (n := n) (tot := tot) (ω := ω) (h := h) (.agg cs) l m M hc' (by omega)
  have hce : chk fs' = chk fs := chk_perm (by rw [hfp])
  by_cases hok : okConf l m M
  · obtain ⟨lv, pv, h2, k18, b1, b2⟩ := c18y (n := n) (tot := tot) (ω := ω) (h := h1) (.agg cs) l m M ov fs' hc' hok ro oo hf' (by omega)
    obtain ⟨h3, k15⟩ := c15 (n := n) (tot := tot) (ω := ω) (h := h2) a fs ha hfo hf (by omega)
    rw [decide_eq_true hok] at k19
    rw [hce] at k18 b1 b2
    have wd := fun (ck : Int) (hck : chk fs = ck) => w_u4d (n := n) (tot := tot) (ω := ω) (h := h3) l m M cs fs fs' a ov lv pv ck hc' ha hfo hf ro oo hfp (fun e => ⟨hok, by rw [hck]; exact e, b1 (by rw [hck]; exact e)⟩) (fun e => b2 (by rw [hck]; exact e)) hn
    have wd := wd _ rfl
    generalize chk fs = ck at *
    unfold u4a
    rcases hr with rfl | rfl
    all_goals
      simp (maxSteps := 2000000) (discharger := omega) only [xz,xc,xo,xr,x0,x1,x2,x3,x4,xd,kont_call,Reg.isA,Reg.isV,Reg.stays,Reg.onto,↓reduceIte,Nat.reduceEqDiff,Nat.reduceLT,beq_self_eq_true,nat_le_t,hl,t12,k17,k18,k15,k19,la,lo,bne_self_eq_false]
      exact wd
  · have k18 := c18n (n := n) (tot := tot) (ω := ω) (h := h1) (.agg cs) l m M ov hc' hok (by omega)
    obtain ⟨h3, k15⟩ := c15 (n := n) (tot := tot) (ω := ω) (h := h1) a fs ha hfo hf (by omega)
    rw [decide_eq_false hok] at k19
    have wd := w_u4d (n := n) (tot := tot) (ω := ω) (h := h3) l m M cs fs fs' a ov .nils .nils 1 hc' ha hfo hf ro oo hfp (fun e => by cases e) (fun e => ⟨rfl, rfl⟩) hn
    unfold u4a
    rcases hr with rfl | rfl
    all_goals
      simp (maxSteps := 2000000) (discharger := omega) only [xz,xc,xo,xr,x0,x1,x2,x3,x4,xd,kont_call,Reg.isA,Reg.isV,Reg.stays,Reg.onto,↓reduceIte,Nat.reduceEqDiff,Nat.reduceLT,beq_self_eq_true,nat_le_t,hl,t12,k17,k18,k15,k19,la,lo,bne_self_eq_false]
      exact wd

end

theorem law_builds (y0 y1 y2 y3 y4 y5 y6 y7 y11 : AV) (l m M : Int) (hy : y0.notTup = true) (a : AV) (fs : List Fl) (raw : Bool) (ω : Nat → Nat) (ha : IsRd 2 (fs.map Fl.av) a) (hfo : ∀ f ∈ fs, f.ok) :
    ∃ h', call F 50000002 true ω 4 [.agg [y0, y1, y2, y3, y4, y5, y6, y7, .int .i64 l, .int .i64 m, .int .i64 M, y11], a, .bool raw] [] = some (.bool true, h') := by
  suffices hx : ∃ v2 h', call F 50000002 true ω 4 [.agg [y0, y1, y2, y3, y4, y5, y6, y7, .int .i64 l, .int .i64 m, .int .i64 M, y11], a, .bool raw] [] = some (v2, h') ∧ v2 = .bool true by
    obtain ⟨v2, h', e1, rfl⟩ := hx
    exact ⟨h', e1⟩
  refine call_of (fn := a4) f4 (P := fun v2 h' => v2 = .bool true) ?_
  obtain ⟨n, hN⟩ : ∃ n, n = 50000001 := ⟨_, rfl⟩
  rw [← hN]
  have k10 := fun h => c10 (n := n) (tot := true) (ω := ω) (h := h) (by omega)
  obtain ⟨b1, k11, hb1⟩ := c11 (n := n) (tot := true) (ω := ω) (h := []) a fs ha hfo (by omega)
  unfold a4
  cases b1 with
  | false => simp (maxSteps := 2000000) (discharger := omega) only [xz,xc,xo,xr,x0,x2,xd,kont_call,Reg.isA,Reg.isV,Reg.stays,Reg.onto,↓reduceIte,reduceCtorEq,Nat.reduceEqDiff,Nat.reduceLT,Nat.reduceAdd,beq_self_eq_true,exists_eq_left',k10,k11]
  | true =>
    have hf := hb1 rfl
    cases raw with
    | true =>
      simp (maxSteps := 2000000) (discharger := omega) only [xz,xc,xo,xr,x0,x2,xd,kont_call,Reg.isA,Reg.isV,Reg.stays,Reg.onto,↓reduceIte,reduceCtorEq,Nat.reduceEqDiff,Nat.reduceLT,Nat.reduceAdd,beq_self_eq_true,k10,k11]
      exact w_u4a (n := n) (tot := true) (ω := ω) (h := []) l m M _ fs a (cf_of _ _ _ _ _ _ _ _ _ _ _ _) ha hfo hf (by omega) _ (.inr rfl)
    | false =>
      obtain ⟨y, l', m', M', k16, hok⟩ := c16e (n := n) (tot := true) (ω := ω) (h := []) y0 y1 y2 y3 y4 y5 y6 y7 y11 l m M hy (by omega)
      simp (maxSteps := 2000000) (discharger := omega) only [xz,xc,xo,xr,x0,x2,x5,xd,kont_call,wr,Reg.isA,Reg.isV,Reg.stays,Reg.onto,↓reduceIte,reduceCtorEq,Nat.reduceEqDiff,Nat.reduceLT,Nat.reduceAdd,beq_self_eq_true,xu,nat_le_t,k10,k11,k16]
      exact w_u4a (n := n) (tot := true) (ω := ω) (h := []) l' m' M' _ fs a (cf_of _ _ _ _ _ _ _ _ _ _ _ _) ha hfo hf (by omega) _ (.inl rfl)
end Go.Proofs.YtpgmohjmpaifbaaDoor.Im

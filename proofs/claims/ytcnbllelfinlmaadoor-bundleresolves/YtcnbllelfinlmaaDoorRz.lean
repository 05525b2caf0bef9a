/- Joined: S20Nl, S20Fi, S20Md, S20Rz. -/
import Derived.Test.YtcnbllelfinlmaaDoorAp
import Derived.Test.YtcnbllelfinlmaaDoorRu
import Derived.Test.YtcnbllelfinlmaaDoorSh
/- S20Nl: the law BundleNil. -/
set_option linter.unusedVariables false
set_option linter.unusedSimpArgs false
open Go Go.Im
namespace Go.Proofs.YtcnbllelfinlmaaDoor.Im
section
variable {n : Nat} {tot : Bool} {ω : Nat → Nat} {h : Hp}

def Z66 : List AV := List.replicate 64 (.int .u8 0) ++ [.bool false, .str []]
end

end Go.Proofs.YtcnbllelfinlmaaDoor.Im

/- S20Fi: records, and the chain of them. -/
set_option linter.unusedVariables false
set_option linter.unusedSimpArgs false
open Go Go.Im
namespace Go.Proofs.YtcnbllelfinlmaaDoor.Im

structure Rc where
  key : List Int
  base : List Int
  patch : Bool
  body : By
def Rc.cells (r : Rc) : List AV := intsOf .u8 r.key ++ (intsOf .u8 r.base ++ [.bool r.patch, .str r.body])
def Rc.av (r : Rc) : AV := .agg r.cells
def Rc.ok (r : Rc) : Prop := r.key.length = 32 ∧ r.base.length = 32 ∧ r.body.length ≤ 100000
theorem io_lenF (k : IntKind) (l : List Int) : (intsOf k l).length = l.length := by simp [intsOf]
theorem Rc.len {r : Rc} (h : r.ok) : r.cells.length = 66 := by simp [Rc.cells,io_lenF,h.1,h.2.1]
theorem Rc.t66 {r : Rc} (h : r.ok) : List.take 66 r.cells = r.cells := List.take_of_length_le (by rw [Rc.len h]; exact Nat.le_refl _)
theorem Rc.d66 {r : Rc} (h : r.ok) : List.drop 66 r.cells = [] := List.drop_of_length_le (by rw [Rc.len h]; exact Nat.le_refl _)
theorem Rc.t32 {r : Rc} (h : r.ok) : List.take 32 r.cells = intsOf .u8 r.key := by
  unfold Rc.cells
  rw [List.take_append_of_le_length (by rw [io_lenF, h.1]; exact Nat.le_refl _), List.take_of_length_le (by rw [io_lenF, h.1]; exact Nat.le_refl _)]
theorem Rc.d32 {r : Rc} (h : r.ok) : List.drop 32 r.cells = intsOf .u8 r.base ++ [.bool r.patch, .str r.body] := by
  unfold Rc.cells
  rw [List.drop_append_of_le_length (by rw [io_lenF, h.1]; exact Nat.le_refl _), List.drop_of_length_le (by rw [io_lenF, h.1]; exact Nat.le_refl _)]
  rfl
theorem Rc.t32' {r : Rc} (h : r.ok) : List.take 32 (List.drop 32 r.cells) = intsOf .u8 r.base := by
  rw [Rc.d32 h, List.take_append_of_le_length (by rw [io_lenF, h.2.1]; exact Nat.le_refl _), List.take_of_length_le (by rw [io_lenF, h.2.1]; exact Nat.le_refl _)]
theorem Rc.d64 {r : Rc} (h : r.ok) : List.drop 64 r.cells = [.bool r.patch, .str r.body] := by
  rw [show (64 : Nat) = 32 + 32 from rfl, ← List.drop_drop, Rc.d32 h, List.drop_append_of_le_length (by rw [io_lenF, h.2.1]; exact Nat.le_refl _), List.drop_of_length_le (by rw [io_lenF, h.2.1]; exact Nat.le_refl _)]
  rfl
theorem Rc.g64 {r : Rc} (h : r.ok) : r.cells[64]? = some (.bool r.patch) := by
  have := congrArg (fun l => l[0]?) (Rc.d64 h)
  simpa using this
theorem Rc.g65 {r : Rc} (h : r.ok) : r.cells[65]? = some (.str r.body) := by
  have := congrArg (fun l => l[1]?) (Rc.d64 h)
  simpa using this
theorem eqCells_k : ∀ (a b : List Int), a.length = b.length → eqCells (List.replicate a.length .i) (intsOf .u8 a) (intsOf .u8 b) = some (decide (a = b))
  | [], [], _ => rfl
  | x :: a, y :: b, h => by
    have ih := eqCells_k a b (by simpa using h)
    simp only [intsOf,List.map_cons,List.length_cons,List.replicate_succ,eqCells,eqS,if_true] at ih ⊢
    rw [ih]
    by_cases e1 : x = y <;> by_cases e2 : a = b <;> simp [e1,e2]
  | [], _ :: _, h => by simp at h
  | _ :: _, [], h => by simp at h
theorem eqk {a b : List Int} (ha : a.length = 32) (hb : b.length = 32) : eqCells [CK.i, CK.i, CK.i, CK.i, CK.i, CK.i, CK.i, CK.i, CK.i, CK.i, CK.i, CK.i, CK.i, CK.i, CK.i, CK.i, CK.i, CK.i, CK.i, CK.i, CK.i, CK.i, CK.i, CK.i, CK.i, CK.i, CK.i, CK.i, CK.i, CK.i, CK.i, CK.i] (intsOf .u8 a) (intsOf .u8 b) = some (decide (a = b)) := by
  have := eqCells_k a b (by rw [ha, hb])
  rw [ha] at this
  exact this
theorem tki {a : List Int} (ha : a.length = 32) : List.take 32 (intsOf .u8 a) = intsOf .u8 a := List.take_of_length_le (by rw [io_lenF, ha]; exact Nat.le_refl _)

theorem z66E : AV.agg [AV.int .u8 0, AV.int .u8 0, AV.int .u8 0, AV.int .u8 0, AV.int .u8 0, AV.int .u8 0, AV.int .u8 0, AV.int .u8 0, AV.int .u8 0, AV.int .u8 0, AV.int .u8 0, AV.int .u8 0, AV.int .u8 0, AV.int .u8 0, AV.int .u8 0, AV.int .u8 0, AV.int .u8 0, AV.int .u8 0, AV.int .u8 0, AV.int .u8 0, AV.int .u8 0, AV.int .u8 0, AV.int .u8 0, AV.int .u8 0, AV.int .u8 0, AV.int .u8 0, AV.int .u8 0, AV.int .u8 0, AV.int .u8 0, AV.int .u8 0, AV.int .u8 0, AV.int .u8 0, AV.int .u8 0, AV.int .u8 0, AV.int .u8 0, AV.int .u8 0, AV.int .u8 0, AV.int .u8 0, AV.int .u8 0, AV.int .u8 0, AV.int .u8 0, AV.int .u8 0, AV.int .u8 0, AV.int .u8 0, AV.int .u8 0, AV.int .u8 0, AV.int .u8 0, AV.int .u8 0, AV.int .u8 0, AV.int .u8 0, AV.int .u8 0, AV.int .u8 0, AV.int .u8 0, AV.int .u8 0, AV.int .u8 0, AV.int .u8 0, AV.int .u8 0, AV.int .u8 0, AV.int .u8 0, AV.int .u8 0, AV.int .u8 0, AV.int .u8 0, AV.int .u8 0, AV.int .u8 0, AV.bool false, AV.str []] = AV.agg Z66 := rfl
theorem z66L : Z66.length = 66 := rfl
theorem z66T : Z66.take 66 = Z66 := rfl
theorem z66D : Z66.drop 66 = [] := rfl
def findR (rs : List Rc) (k : List Int) : Option Rc := rs.find? fun r => decide (r.key = k)
def fdAV : Option Rc → AV
  | some r => .tup [r.av, .int .i64 0]
  | none => .tup [.agg Z66, .int .i64 9]
section
variable {n : Nat} {tot : Bool} {ω : Nat → Nat}
set_option maxRecDepth 100000 in
set_option maxHeartbeats 2000000 in
theorem c83 (rs : List Rc) (v : AV) (k : List Int) (h : Hp) (hv : IsRd 66 (rs.map Rc.av) v) (hok : ∀ r ∈ rs, r.ok) (hk : k.length = 32) (hl : rs.length ≤ 1000) (hn : rs.length + 2 < n) :
    call F n tot ω 83 [v, .agg (intsOf .u8 k)] h = some (fdAV (findR rs k), h) := by
  obtain ⟨n, rfl⟩ : ∃ m, n = m + 1 := ⟨n - 1, by omega⟩
  refine call_eq (fn := a83) f83 ?_
  unfold a83
  have t32 := tki hk
  generalize hR : findR rs k = R
  simp (maxSteps := 2000000) (discharger := omega) only [xc,xo,xr,x0,xd,xe,Reg.isA,Reg.isV,Reg.stays,Reg.onto,Bool.or_false,Bool.and_false,Bool.or_true,↓reduceIte,reduceCtorEq,Nat.reduceEqDiff,Nat.reduceLT,Nat.reduceAdd,Nat.zero_add,Nat.not_lt_zero,Nat.zero_ne_one,Nat.one_ne_zero,Bool.false_eq_true,Option.map_some,and_self,List.any_nil,List.any_cons,hk,z66E]
  refine wpi_loop (fun m r g => ∃ (i : Nat), r = [(0, .val v), (3, .var (.agg (intsOf .u8 k))), (4, .var (.agg Z66)), (6, .val (.int .i64 i))] ∧ i + m = rs.length ∧ findR (rs.drop i) k = R ∧ g = h) rs.length (by omega) ⟨0, rfl, by omega, hR, rfl⟩ ?_
  clear hR
  rintro m r g ⟨i, rfl, him, hd, rfl⟩
  have hvl := hv.len
  rw [List.length_map] at hvl
  by_cases hlt : i < rs.length
  · have hlt' : ((i : Nat) : Int) < (rs.length : Int) := by omega
    have hi0 : (0 : Int) ≤ (i : Int) := by omega
    have hge : (rs.map Rc.av)[i]? = some (.agg rs[i].cells) := by rw [List.getElem?_map, List.getElem?_eq_getElem hlt]; rfl
    have hr := hok rs[i] (List.getElem_mem hlt)
    rw [List.drop_eq_getElem_cons hlt] at hd
    generalize rs[i] = q at *
    rcases hv with ⟨_, e0⟩ | ⟨c, rfl⟩
    · rw [e0] at hge; cases hge
    unfold findR at hd
    rw [List.find?_cons] at hd
    have ek := eqk hr.1 hk
    by_cases hq : q.key = k
    · rw [decide_eq_true hq] at hd ek
      dsimp only at hd
      subst hd
      simp (maxSteps := 2000000) (discharger := omega) only [xc,xo,xr,x0,x1,x2,x4,x5,xd,xe,eqAV,wr,Bool.bne_false,List.drop_zero,List.nil_append,List.append_nil,List.take_zero,Reg.isA,Reg.isV,Reg.stays,Reg.onto,Bool.or_false,Bool.and_false,↓reduceIte,reduceCtorEq,Nat.reduceEqDiff,Nat.reduceLT,Nat.zero_add,Nat.not_lt_zero,Nat.lt_irrefl,Bool.false_eq_true,Option.map_some,and_self,and_true,List.any_nil,List.any_cons,Int.toNat_natCast,Option.some.injEq,exists_eq_left',decide_true,xu,int_le_t,nat_le_t,hk,t32,hvl,hlt',hge,Rc.len hr,Rc.t66 hr,Rc.t32 hr,hr.1,tki hr.1,ek,z66L,z66D,fdAV,Rc.av]
      done
    · rw [decide_eq_false hq] at hd ek
      dsimp only at hd
      simp (maxSteps := 2000000) (discharger := omega) only [xc,xo,xr,x0,x1,x2,x4,xd,xe,eqAV,Bool.bne_false,List.drop_zero,Reg.isA,Reg.isV,Reg.stays,Reg.onto,Bool.or_false,Bool.and_false,↓reduceIte,reduceCtorEq,Nat.reduceEqDiff,Nat.reduceLT,Nat.zero_add,Nat.not_lt_zero,Nat.lt_irrefl,Bool.false_eq_true,Option.map_some,and_self,and_true,List.any_nil,List.any_cons,Int.toNat_natCast,decide_true,wrap_i64,int_le_t,nat_le_t,hk,t32,hvl,hlt',hge,Rc.len hr,Rc.t32 hr,hr.1,tki hr.1,ek,fdAV,Rc.av]
      exact ⟨m - 1, by omega, i + 1, rfl, by omega, hd⟩
  · have hlt' : ¬ ((i : Nat) : Int) < (rs.length : Int) := by omega
    rw [List.drop_of_length_le (by omega)] at hd
    subst hd
    simp (maxSteps := 2000000) (discharger := omega) only [xc,xo,xr,x0,x1,x3,x4,x5,xd,wr,place,partVals,List.drop_zero,List.nil_append,List.append_nil,List.take_zero,Reg.isA,Reg.isV,Reg.stays,Reg.onto,Bool.or_false,Bool.and_false,↓reduceIte,reduceCtorEq,Nat.reduceEqDiff,Nat.reduceLT,Nat.zero_add,Nat.not_lt_zero,Nat.lt_irrefl,Bool.false_eq_true,Option.map_some,and_self,and_true,List.any_nil,List.any_cons,Option.some.injEq,exists_eq_left',decide_false,xu,nat_le_t,hvl,hlt',z66E,z66L,z66D,z66T,fdAV,findR,List.find?_nil]
end
end Go.Proofs.YtcnbllelfinlmaaDoor.Im

/- S20Md: what a chain of records makes: the reference. -/
set_option linter.unusedVariables false
set_option linter.unusedSimpArgs false
open Go Go.Im
namespace Go.Proofs.YtcnbllelfinlmaaDoor.Im

theorem goA_ne (base : By) (size : Nat) : ∀ (m : Nat) (out s : By) {e : Int}, goA base size m out s = .inl e → (e != 0) = true
  | 0, out, s, e, h => by unfold goA at h; cases h
  | m + 1, out, s, e, h => by
    unfold goA at h
    split at h
    · cases h
    · cases hp : piece base (size - out.length) s with
      | err e => rw [hp] at h; cases h; exact piece_ne hp
      | ok t k => rw [hp] at h; exact goA_ne base size m _ _ h
theorem goA_len (base : By) (size : Nat) : ∀ (m : Nat) (out s : By) {o r : By}, out.length ≤ size → goA base size m out s = .inr (o, r) → o.length ≤ size
  | 0, out, s, o, r, ho, h => by unfold goA at h; cases h; exact ho
  | m + 1, out, s, o, r, ho, h => by
    unfold goA at h
    split at h
    · cases h; exact ho
    · cases hp : piece base (size - out.length) s with
      | err e => rw [hp] at h; cases h
      | ok t k => rw [hp] at h; exact goA_len base size m _ _ (by have := piece_len hp; simp; omega) h
theorem apply_ne {base p : By} {e : Int} (h : apply base p = .inl e) : (e != 0) = true := by
  unfold apply at h
  cases hc : rdC p with
  | err e => rw [hc] at h; cases h; exact err_ne hc
  | ok size k =>
    rw [hc] at h
    dsimp only at h
    split at h
    · cases h; rfl
    · cases hg : goA base size size [] (p.drop k) with
      | inl e => rw [hg] at h; cases h; exact goA_ne _ _ _ _ _ hg
      | inr q =>
        obtain ⟨o, r⟩ := q
        rw [hg] at h
        unfold finA at h
        dsimp only at h
        split at h
        · cases h
        · cases h; rfl
theorem apply_len {base p o : By} (h : apply base p = .inr o) : o.length ≤ 4096 := by
  unfold apply at h
  cases hc : rdC p with
  | err e => rw [hc] at h; cases h
  | ok size k =>
    rw [hc] at h
    dsimp only at h
    split at h
    · cases h
    · cases hg : goA base size size [] (p.drop k) with
      | inl e => rw [hg] at h; cases h
      | inr q =>
        obtain ⟨o', r⟩ := q
        rw [hg] at h
        unfold finA at h
        dsimp only at h
        have := goA_len _ _ _ _ _ (by simp) hg
        split at h
        · cases h; omega
        · cases h

def made (rs : List Rc) : Nat → List Int → Int ⊕ (By × Nat)
  | 0, k => match findR rs k with
    | none => .inl 9
    | some r => if r.patch then .inl 14 else .inr (r.body, 0)
  | m + 1, k => match findR rs k with
    | none => .inl 9
    | some r => if r.patch then (match made rs m r.base with
      | .inl e => .inl e
      | .inr (b, d) => match apply b r.body with
        | .inl _ => .inl 12
        | .inr o => .inr (o, d + 1)) else .inr (r.body, 0)
def mdAV : Int ⊕ (By × Nat) → AV
  | .inl e => .tup [.str [], .int .i64 0, .int .i64 e]
  | .inr (b, d) => .tup [.str b, .int .i64 d, .int .i64 0]
theorem find_ok {rs : List Rc} {k : List Int} {r : Rc} (hok : ∀ r ∈ rs, r.ok) (h : findR rs k = some r) : r.ok ∧ r.key = k := by
  unfold findR at h
  exact ⟨hok r (List.mem_of_find?_eq_some h), by simpa using List.find?_some h⟩
theorem made_err {rs : List Rc} : ∀ {m : Nat} {k : List Int} {e : Int}, made rs m k = .inl e → e = 9 ∨ e = 12 ∨ e = 14
  | 0, k, e, h => by
    unfold made at h
    split at h
    · cases h; simp
    · split at h
      · cases h; simp
      · cases h
  | m + 1, k, e, h => by
    unfold made at h
    split at h
    · cases h; simp
    · split at h
      · split at h
        · rename_i h2; cases h; exact made_err h2
        · split at h
          · cases h; simp
          · cases h
      · cases h
theorem made_len {rs : List Rc} (hok : ∀ r ∈ rs, r.ok) : ∀ {m : Nat} {k : List Int} {b : By} {d : Nat}, made rs m k = .inr (b, d) → b.length ≤ 100000 ∧ d ≤ m
  | 0, k, b, d, h => by
    unfold made at h
    cases hf : findR rs k with
    | none => rw [hf] at h; cases h
    | some r =>
      rw [hf] at h
      dsimp only at h
      split at h
      · cases h
      · cases h; exact ⟨(find_ok hok hf).1.2.2, by omega⟩
  | m + 1, k, b, d, h => by
    unfold made at h
    cases hf : findR rs k with
    | none => rw [hf] at h; cases h
    | some r =>
      rw [hf] at h
      dsimp only at h
      split at h
      · cases hm : made rs m r.base with
        | inl e => rw [hm] at h; cases h
        | inr q =>
          obtain ⟨b2, d2⟩ := q
          rw [hm] at h
          dsimp only at h
          have ih := made_len hok hm
          cases ha : apply b2 r.body with
          | inl e => rw [ha] at h; cases h
          | inr o => rw [ha] at h; cases h; have := apply_len ha; exact ⟨by omega, by omega⟩
      · cases h; exact ⟨(find_ok hok hf).1.2.2, by omega⟩

section
variable {tot : Bool} {ω : Nat → Nat}
set_option maxRecDepth 100000 in
set_option maxHeartbeats 4000000 in
theorem c48 (rs : List Rc) (v : AV) (hv : IsRd 66 (rs.map Rc.av) v) (hok : ∀ r ∈ rs, r.ok) (hl : rs.length ≤ 1000) (h : Hp) : ∀ (left n : Nat) (k : List Int) (hk : k.length = 32) (hle : left ≤ 1000) (hn : left + 200000 < n),
    call F n tot ω 48 [v, .agg (intsOf .u8 k), .int .i64 left] h = some (mdAV (made rs left k), h) := by
  intro left
  induction left with
  | zero =>
    intro n k hk hle hn
    obtain ⟨n, rfl⟩ : ∃ m, n = m + 1 := ⟨n - 1, by omega⟩
    refine call_eq (fn := a48) f48 ?_
    have r1 := c83 (tot := tot) (ω := ω) (n := n) rs v k h hv hok hk hl (by omega)
    have vnt := rd_nt hv
    have vc := rd_cells hv
    have v1 := rd_one hv
    unfold a48 made
    have t32 := tki hk
    cases hf : findR rs k with
    | none =>
      rw [hf] at r1
      unfold fdAV at r1
      simp (maxSteps := 2000000) (discharger := omega) only [xc,xo,xr,x0,x1,x3,x5,xd,xe,kont_call,wr,List.drop_zero,List.nil_append,List.append_nil,List.take_zero,Reg.isA,Reg.isV,Reg.stays,Reg.onto,Bool.or_false,Bool.and_false,Bool.or_true,↓reduceIte,reduceCtorEq,Nat.reduceEqDiff,Nat.reduceLT,Nat.reduceAdd,Nat.zero_add,Nat.not_lt_zero,Nat.zero_ne_one,Nat.one_ne_zero,Nat.lt_irrefl,Bool.false_eq_true,Option.map_some,and_self,and_true,List.any_nil,List.any_cons,Int.cast_ofNat_Int,Option.some.injEq,exists_eq_left',List.getElem?_cons_zero,List.getElem?_cons_succ,xu,int_bne_t,nat_le_t,hk,t32,z66E,r1,z66L,z66D,mdAV]
    | some r =>
      rw [hf] at r1
      unfold fdAV Rc.av at r1
      have hr := (find_ok hok hf).1
      cases hp : r.patch with
      | true =>
        simp (maxSteps := 2000000) (discharger := omega) only [xc,xo,xr,x0,x1,x2,x3,x5,xd,xe,kont_call,wr,List.drop_zero,List.nil_append,List.append_nil,List.take_zero,Reg.isA,Reg.isV,Reg.stays,Reg.onto,Bool.or_false,Bool.and_false,Bool.or_true,↓reduceIte,reduceCtorEq,Nat.reduceEqDiff,Nat.reduceLT,Nat.reduceAdd,Nat.zero_add,Nat.not_lt_zero,Nat.zero_ne_one,Nat.one_ne_zero,Nat.lt_irrefl,Bool.false_eq_true,Bool.not_true,Option.map_some,and_self,and_true,List.any_nil,List.any_cons,Int.cast_ofNat_Int,beq_self_eq_true,Option.some.injEq,exists_eq_left',List.getElem?_cons_zero,List.getElem?_cons_succ,Nat.reduceBEq,xu,int_bne_f,nat_le_t,hk,t32,z66E,r1,z66L,z66D,Rc.len hr,Rc.g64 hr,hp,mdAV]
      | false =>
        simp (maxSteps := 2000000) (discharger := omega) only [xc,xo,xr,x0,x1,x2,x3,x5,xd,xe,kont_call,wr,List.drop_zero,List.nil_append,List.append_nil,List.take_zero,Reg.isA,Reg.isV,Reg.stays,Reg.onto,Bool.or_false,Bool.and_false,Bool.or_true,↓reduceIte,reduceCtorEq,Nat.reduceEqDiff,Nat.reduceLT,Nat.reduceAdd,Nat.zero_add,Nat.not_lt_zero,Nat.zero_ne_one,Nat.one_ne_zero,Nat.lt_irrefl,Bool.false_eq_true,Bool.not_false,Option.map_some,and_self,and_true,List.any_nil,List.any_cons,Int.cast_ofNat_Int,Option.some.injEq,exists_eq_left',List.getElem?_cons_zero,List.getElem?_cons_succ,Nat.reduceBEq,xu,int_bne_f,nat_le_t,hk,t32,z66E,r1,z66L,z66D,Rc.len hr,Rc.g64 hr,Rc.g65 hr,hp,mdAV]
  | succ left ih =>
    intro n k hk hle hn
    obtain ⟨n, rfl⟩ : ∃ m, n = m + 1 := ⟨n - 1, by omega⟩
    refine call_eq (fn := a48) f48 ?_
    have r1 := c83 (tot := tot) (ω := ω) (n := n) rs v k h hv hok hk hl (by omega)
    have vnt := rd_nt hv
    have vc := rd_cells hv
    have v1 := rd_one hv
    unfold a48 made
    have t32 := tki hk
    cases hf : findR rs k with
    | none =>
      rw [hf] at r1
      unfold fdAV at r1
      simp (maxSteps := 2000000) (discharger := omega) only [xc,xo,xr,x0,x1,x3,x5,xd,xe,kont_call,wr,List.drop_zero,List.nil_append,List.append_nil,List.take_zero,Reg.isA,Reg.isV,Reg.stays,Reg.onto,Bool.or_false,Bool.and_false,Bool.or_true,↓reduceIte,reduceCtorEq,Nat.reduceEqDiff,Nat.reduceLT,Nat.reduceAdd,Nat.zero_add,Nat.not_lt_zero,Nat.zero_ne_one,Nat.one_ne_zero,Nat.lt_irrefl,Bool.false_eq_true,Option.map_some,and_self,and_true,List.any_nil,List.any_cons,Option.some.injEq,exists_eq_left',List.getElem?_cons_zero,List.getElem?_cons_succ,xu,int_bne_t,nat_le_t,hk,t32,z66E,r1,z66L,z66D,mdAV]
    | some r =>
      rw [hf] at r1
      unfold fdAV Rc.av at r1
      have hr := (find_ok hok hf).1
      cases hp : r.patch with
      | false =>
        simp (maxSteps := 2000000) (discharger := omega) only [xc,xo,xr,x0,x1,x2,x3,x5,xd,xe,kont_call,wr,List.drop_zero,List.nil_append,List.append_nil,List.take_zero,Reg.isA,Reg.isV,Reg.stays,Reg.onto,Bool.or_false,Bool.and_false,Bool.or_true,↓reduceIte,reduceCtorEq,Nat.reduceEqDiff,Nat.reduceLT,Nat.reduceAdd,Nat.zero_add,Nat.not_lt_zero,Nat.zero_ne_one,Nat.one_ne_zero,Nat.lt_irrefl,Bool.false_eq_true,Bool.not_false,Option.map_some,and_self,and_true,List.any_nil,List.any_cons,Int.cast_ofNat_Int,Option.some.injEq,exists_eq_left',List.getElem?_cons_zero,List.getElem?_cons_succ,Nat.reduceBEq,xu,int_bne_f,nat_le_t,hk,t32,z66E,r1,z66L,z66D,Rc.len hr,Rc.g64 hr,Rc.g65 hr,hp,mdAV]
      | true =>
        have r2 := ih n r.base hr.2.1 (by omega) (by omega)
        have e0 : ((left : Int) + 1 == 0) = false := by simp; omega
        have e0' : (((left + 1 : Nat) : Int) == 0) = false := by simp; omega
        have e1 : ((left + 1 : Nat) : Int) - 1 = (left : Int) := by omega
        cases hm : made rs left r.base with
        | inl e =>
          rw [hm] at r2
          unfold mdAV at r2
          have he : (e != 0) = true := by rcases made_err hm with rfl | rfl | rfl <;> rfl
          simp (maxSteps := 2000000) (discharger := omega) only [xc,xo,xr,x0,x1,x2,x3,x5,xd,xe,kont_call,wr,List.drop_zero,List.nil_append,List.append_nil,List.take_zero,Reg.isA,Reg.isV,Reg.stays,Reg.onto,Bool.or_false,Bool.and_false,Bool.or_true,↓reduceIte,reduceCtorEq,Nat.reduceEqDiff,Nat.reduceLT,Nat.reduceAdd,Nat.zero_add,Nat.not_lt_zero,Nat.zero_ne_one,Nat.one_ne_zero,Nat.lt_irrefl,Bool.false_eq_true,Bool.not_true,Option.map_some,and_self,and_true,List.any_nil,List.any_cons,Option.some.injEq,exists_eq_left',List.getElem?_cons_zero,List.getElem?_cons_succ,Nat.reduceBEq,xu,wrap_i64,int_bne_f,nat_le_t,hk,t32,z66E,r1,z66L,z66D,Rc.len hr,Rc.g64 hr,Rc.t32' hr,hp,e0',e1,r2,he,hm,mdAV]
        | inr q =>
          obtain ⟨b, d⟩ := q
          rw [hm] at r2
          unfold mdAV at r2
          have hml := made_len hok hm
          have r3 := c84 (tot := tot) (ω := ω) (n := n) b r.body h (by omega) (by have := hr.2.2; omega) (by have := hr.2.2; omega)
          dsimp only
          cases ha : apply b r.body with
          | inl e =>
            rw [ha] at r3
            unfold apAV at r3
            have he := apply_ne ha
            simp (maxSteps := 2000000) (discharger := omega) only [xc,xo,xr,x0,x1,x2,x3,x5,xd,xe,kont_call,wr,List.drop_zero,List.nil_append,List.append_nil,List.take_zero,Reg.isA,Reg.isV,Reg.stays,Reg.onto,Bool.or_false,Bool.and_false,Bool.or_true,↓reduceIte,reduceCtorEq,Nat.reduceEqDiff,Nat.reduceLT,Nat.reduceAdd,Nat.zero_add,Nat.not_lt_zero,Nat.zero_ne_one,Nat.one_ne_zero,Nat.lt_irrefl,Bool.false_eq_true,Bool.not_true,Option.map_some,and_self,and_true,List.any_nil,List.any_cons,Option.some.injEq,exists_eq_left',List.getElem?_cons_zero,List.getElem?_cons_succ,Nat.reduceBEq,xu,wrap_i64,int_bne_f,nat_le_t,hk,t32,z66E,r1,z66L,z66D,Rc.len hr,Rc.g64 hr,Rc.g65 hr,Rc.t32' hr,hp,e0',e1,r2,r3,he,hm,ha,mdAV]
          | inr o =>
            rw [ha] at r3
            unfold apAV at r3
            simp (maxSteps := 2000000) (discharger := omega) only [xc,xo,xr,x0,x1,x2,x3,x5,xd,xe,kont_call,wr,List.drop_zero,List.nil_append,List.append_nil,List.take_zero,Reg.isA,Reg.isV,Reg.stays,Reg.onto,Bool.or_false,Bool.and_false,Bool.or_true,↓reduceIte,reduceCtorEq,Nat.reduceEqDiff,Nat.reduceLT,Nat.reduceAdd,Nat.zero_add,Nat.not_lt_zero,Nat.zero_ne_one,Nat.one_ne_zero,Nat.lt_irrefl,Bool.false_eq_true,Bool.not_true,Option.map_some,and_self,and_true,List.any_nil,List.any_cons,Option.some.injEq,exists_eq_left',List.getElem?_cons_zero,List.getElem?_cons_succ,Nat.reduceBEq,xu,wrap_i64,int_bne_f,nat_le_t,hk,t32,z66E,r1,z66L,z66D,Rc.len hr,Rc.g64 hr,Rc.g65 hr,Rc.t32' hr,hp,e0',e1,r2,r3,hm,ha,mdAV]
            rfl
end
end Go.Proofs.YtcnbllelfinlmaaDoor.Im

/- S20Rz: the reference's Resolve; the sources. -/
set_option linter.unusedVariables false
set_option linter.unusedSimpArgs false
open Go Go.Im
namespace Go.Proofs.YtcnbllelfinlmaaDoor.Im

theorem shaR_len (s : By) : (shaR s).length = 32 := keyI_len _
def resR (rs : List Rc) (k : List Int) : Int ⊕ (By × Nat) := match made rs 8 k with
  | .inl e => .inl e
  | .inr (b, d) => if shaR b = k then .inr (b, d) else .inl 12
theorem pl_step {pre mid post : List AV} {v : AV} {ps : List (Nat × Nat × AV)} {off sz : Nat} (h0 : off = pre.length) (h1 : sz = mid.length) (h2 : v.notTup = true) (h3 : v.cells.length = sz) : place (pre ++ (mid ++ post)) ((off, sz, v) :: ps) = place (pre ++ (v.cells ++ post)) ps := by
  simp only [place]
  rw [if_pos ⟨h2, h3, by simp; omega⟩]
  subst h0
  rw [List.take_left, h1, ← List.drop_drop, List.drop_left, List.drop_left]
theorem pl_rc {r : Rc} (hr : r.ok) : place [AV.int .u8 0, AV.int .u8 0, AV.int .u8 0, AV.int .u8 0, AV.int .u8 0, AV.int .u8 0, AV.int .u8 0, AV.int .u8 0, AV.int .u8 0, AV.int .u8 0, AV.int .u8 0, AV.int .u8 0, AV.int .u8 0, AV.int .u8 0, AV.int .u8 0, AV.int .u8 0, AV.int .u8 0, AV.int .u8 0, AV.int .u8 0, AV.int .u8 0, AV.int .u8 0, AV.int .u8 0, AV.int .u8 0, AV.int .u8 0, AV.int .u8 0, AV.int .u8 0, AV.int .u8 0, AV.int .u8 0, AV.int .u8 0, AV.int .u8 0, AV.int .u8 0, AV.int .u8 0, AV.int .u8 0, AV.int .u8 0, AV.int .u8 0, AV.int .u8 0, AV.int .u8 0, AV.int .u8 0, AV.int .u8 0, AV.int .u8 0, AV.int .u8 0, AV.int .u8 0, AV.int .u8 0, AV.int .u8 0, AV.int .u8 0, AV.int .u8 0, AV.int .u8 0, AV.int .u8 0, AV.int .u8 0, AV.int .u8 0, AV.int .u8 0, AV.int .u8 0, AV.int .u8 0, AV.int .u8 0, AV.int .u8 0, AV.int .u8 0, AV.int .u8 0, AV.int .u8 0, AV.int .u8 0, AV.int .u8 0, AV.int .u8 0, AV.int .u8 0, AV.int .u8 0, AV.int .u8 0, AV.bool false, AV.str []] [(0, 32, .agg (intsOf .u8 r.key)), (32, 32, .agg (intsOf .u8 r.base)), (64, 1, .bool r.patch), (65, 1, .str r.body)] = some r.cells := by
  show place ([] ++ (List.replicate 32 (AV.int .u8 0) ++ (List.replicate 32 (AV.int .u8 0) ++ ([.bool false] ++ [.str []])))) _ = _
  have k1 : (intsOf .u8 r.key).length = 32 := by rw [io_lenF, hr.1]
  have k2 : (intsOf .u8 r.base).length = 32 := by rw [io_lenF, hr.2.1]
  refine (pl_step (pre := []) (mid := List.replicate 32 (AV.int .u8 0)) (v := .agg (intsOf .u8 r.key)) (sz := 32) rfl rfl rfl k1).trans ?_
  show place ((intsOf .u8 r.key) ++ (List.replicate 32 (AV.int .u8 0) ++ ([.bool false] ++ [.str []]))) _ = _
  refine (pl_step (mid := List.replicate 32 (AV.int .u8 0)) (v := .agg (intsOf .u8 r.base)) (sz := 32) k1.symm rfl rfl k2).trans ?_
  show place ((intsOf .u8 r.key) ++ (intsOf .u8 r.base ++ ([.bool false] ++ [.str []]))) _ = _
  rw [← List.append_assoc]
  refine (pl_step (mid := [.bool false]) (v := .bool r.patch) (sz := 1) (by rw [List.length_append, k1, k2]) rfl rfl rfl).trans ?_
  show place ((intsOf .u8 r.key ++ intsOf .u8 r.base) ++ ([.bool r.patch] ++ [.str []])) _ = _
  rw [show (intsOf .u8 r.key ++ intsOf .u8 r.base) ++ ([AV.bool r.patch] ++ [AV.str []]) = ((intsOf .u8 r.key ++ intsOf .u8 r.base) ++ [AV.bool r.patch]) ++ ([AV.str []] ++ []) by simp]
  refine (pl_step (mid := [AV.str []]) (v := .str r.body) (sz := 1) (by simp [k1,k2]) rfl rfl rfl).trans ?_
  simp [place,Rc.cells,AV.cells]
theorem pl_k {k : List Int} (hk : k.length = 32) : place [AV.int .u8 0, AV.int .u8 0, AV.int .u8 0, AV.int .u8 0, AV.int .u8 0, AV.int .u8 0, AV.int .u8 0, AV.int .u8 0, AV.int .u8 0, AV.int .u8 0, AV.int .u8 0, AV.int .u8 0, AV.int .u8 0, AV.int .u8 0, AV.int .u8 0, AV.int .u8 0, AV.int .u8 0, AV.int .u8 0, AV.int .u8 0, AV.int .u8 0, AV.int .u8 0, AV.int .u8 0, AV.int .u8 0, AV.int .u8 0, AV.int .u8 0, AV.int .u8 0, AV.int .u8 0, AV.int .u8 0, AV.int .u8 0, AV.int .u8 0, AV.int .u8 0, AV.int .u8 0, AV.int .u8 0, AV.int .u8 0, AV.int .u8 0, AV.int .u8 0, AV.int .u8 0, AV.int .u8 0, AV.int .u8 0, AV.int .u8 0, AV.int .u8 0, AV.int .u8 0, AV.int .u8 0, AV.int .u8 0, AV.int .u8 0, AV.int .u8 0, AV.int .u8 0, AV.int .u8 0, AV.int .u8 0, AV.int .u8 0, AV.int .u8 0, AV.int .u8 0, AV.int .u8 0, AV.int .u8 0, AV.int .u8 0, AV.int .u8 0, AV.int .u8 0, AV.int .u8 0, AV.int .u8 0, AV.int .u8 0, AV.int .u8 0, AV.int .u8 0, AV.int .u8 0, AV.int .u8 0, AV.bool false, AV.str []] [(0, 32, .agg (intsOf .u8 k))] = some (Rc.cells ⟨k, List.replicate 32 0, false, []⟩) := by
  show place ([] ++ (List.replicate 32 (AV.int .u8 0) ++ (List.replicate 32 (AV.int .u8 0) ++ ([.bool false] ++ [.str []])))) _ = _
  exact pl_step (pre := []) (mid := List.replicate 32 (AV.int .u8 0)) (post := List.replicate 32 (AV.int .u8 0) ++ ([.bool false] ++ [.str []])) (v := .agg (intsOf .u8 k)) (sz := 32) rfl rfl rfl (by show (intsOf .u8 k).length = 32; rw [io_lenF, hk])
def RG (r : Rc) (e : Int) : AV := .tup [r.av, .int .i64 e]
section
variable {n : Nat} {tot : Bool} {ω : Nat → Nat}
set_option maxRecDepth 100000 in
set_option maxHeartbeats 4000000 in
theorem c18 (rs : List Rc) (v : AV) (hv : IsRd 66 (rs.map Rc.av) v) (hok : ∀ r ∈ rs, r.ok) (hl : rs.length ≤ 1000) (h : Hp) (k : List Int) (hk : k.length = 32) (hn : 300000 < n) :
    ∃ h', call F n tot ω 18 [v, .agg (intsOf .u8 k)] h = some (mdAV (resR rs k), h') ∧ Below h.length h h' := by
  suffices hx : ∃ x h', call F n tot ω 18 [v, .agg (intsOf .u8 k)] h = some (x, h') ∧ x = mdAV (resR rs k) ∧ Below h.length h h' by
    obtain ⟨x, h', e, rfl, hb⟩ := hx
    exact ⟨h', e, hb⟩
  obtain ⟨n, rfl⟩ : ∃ m, n = m + 1 := ⟨n - 1, by omega⟩
  refine call_of (fn := a18) f18 (P := fun x h' => x = mdAV (resR rs k) ∧ Below h.length h h') ?_
  have r1 := c48 (tot := tot) (ω := ω) rs v hv hok hl h 8 n k hk (by omega) (by omega)
  rw [show ((8 : Nat) : Int) = 8 from rfl] at r1
  have vnt := rd_nt hv
  have t32 := tki hk
  unfold a18 resR
  cases hm : made rs 8 k with
  | inl e =>
    rw [hm] at r1
    unfold mdAV at r1
    have he : (e != 0) = true := by rcases made_err hm with rfl | rfl | rfl <;> rfl
    simp (maxSteps := 2000000) (discharger := omega) only [xc,xo,xr,x0,x1,x3,xd,xe,kont_call,List.drop_zero,Reg.isA,Reg.isV,Reg.stays,Reg.onto,Bool.or_false,Bool.and_false,Bool.or_true,↓reduceIte,reduceCtorEq,Nat.reduceEqDiff,Nat.reduceLT,Nat.reduceAdd,Nat.zero_add,Nat.not_lt_zero,Nat.zero_ne_one,Nat.one_ne_zero,Bool.false_eq_true,Option.map_some,and_self,true_and,List.any_nil,List.any_cons,Option.some.injEq,exists_eq_left',List.getElem?_cons_zero,List.getElem?_cons_succ,nat_le_t,hk,t32,r1,he,mdAV]
    exact Below.refl _ _
  | inr q =>
    obtain ⟨b, d⟩ := q
    rw [hm] at r1
    unfold mdAV at r1
    have hml := made_len hok hm
    obtain ⟨h1, r2, hb⟩ := c49 (tot := tot) (ω := ω) (n := n) (h := h) b (by omega) (by omega)
    have ek := eqk (shaR_len b) hk
    have ts := tki (shaR_len b)
    dsimp only
    by_cases hq : shaR b = k
    · rw [decide_eq_true hq] at ek
      rw [if_pos hq]
      simp (maxSteps := 2000000) (discharger := omega) only [xc,xo,xr,x0,x1,x2,x3,xd,xe,kont_call,eqAV,Bool.bne_true,List.drop_zero,Reg.isA,Reg.isV,Reg.stays,Reg.onto,Bool.or_false,Bool.and_false,Bool.or_true,↓reduceIte,reduceCtorEq,Nat.reduceEqDiff,Nat.reduceLT,Nat.reduceAdd,Nat.zero_add,Nat.not_lt_zero,Nat.zero_ne_one,Nat.one_ne_zero,Bool.false_eq_true,Bool.not_true,Option.map_some,and_self,true_and,List.any_nil,List.any_cons,Option.some.injEq,exists_eq_left',List.getElem?_cons_zero,List.getElem?_cons_succ,int_bne_f,nat_le_t,hk,t32,r1,r2,ek,mdAV]
      exact hb
    · rw [decide_eq_false hq] at ek
      rw [if_neg hq]
      simp (maxSteps := 2000000) (discharger := omega) only [xc,xo,xr,x0,x1,x2,x3,xd,xe,kont_call,eqAV,Bool.bne_true,List.drop_zero,Reg.isA,Reg.isV,Reg.stays,Reg.onto,Bool.or_false,Bool.and_false,Bool.or_true,↓reduceIte,reduceCtorEq,Nat.reduceEqDiff,Nat.reduceLT,Nat.reduceAdd,Nat.zero_add,Nat.not_lt_zero,Nat.zero_ne_one,Nat.one_ne_zero,Bool.false_eq_true,Bool.not_false,Option.map_some,and_self,true_and,List.any_nil,List.any_cons,Option.some.injEq,exists_eq_left',List.getElem?_cons_zero,List.getElem?_cons_succ,int_bne_f,nat_le_t,hk,t32,r1,r2,ek,mdAV]
      exact hb
set_option maxRecDepth 100000 in
set_option maxHeartbeats 4000000 in
theorem c16 (r : Rc) (h : Hp) (hr : r.ok) (hn : 0 < n) : call F n tot ω 16 [r.av] h = some (r.av, h) := by
  obtain ⟨n, rfl⟩ : ∃ m, n = m + 1 := ⟨n - 1, by omega⟩
  refine call_eq (fn := a16) f16 ?_
  unfold a16 Rc.av
  have e1 : intsOf .u8 r.key ++ (intsOf .u8 r.base ++ [.bool r.patch, .str r.body]) = r.cells := rfl
  simp (maxSteps := 2000000) (discharger := omega) only [xc,xo,xr,x0,x1,x3,x5,xd,wr,partVals,List.drop_zero,List.nil_append,List.append_nil,List.take_zero,Reg.isA,Reg.isV,Reg.stays,Reg.onto,Bool.or_false,Bool.and_false,Bool.or_true,↓reduceIte,reduceCtorEq,Nat.reduceEqDiff,Nat.reduceLT,Nat.reduceAdd,Nat.add_zero,Nat.zero_add,Nat.not_lt_zero,Nat.zero_ne_one,Nat.one_ne_zero,Nat.lt_irrefl,Bool.false_eq_true,Option.map_some,and_self,and_true,List.any_nil,List.any_cons,Option.some.injEq,exists_eq_left',Nat.reduceBEq,xu,nat_le_t,Rc.len hr,Rc.t66 hr,Rc.t32 hr,Rc.t32' hr,Rc.g64 hr,Rc.g65 hr,z66E,z66L,z66D,pl_rc hr]
set_option maxRecDepth 100000 in
set_option maxHeartbeats 4000000 in
theorem c46 (v : AV) (h : Hp) (hc : v.cells = [v]) (hnt : v.notTup = true) (hn : 0 < n) : call F n tot ω 46 [v] h = some (.fn (.func 78) [] [.ptr h.length 1 0 0], h ++ [.row 1 [v]]) := by
  obtain ⟨n, rfl⟩ : ∃ m, n = m + 1 := ⟨n - 1, by omega⟩
  refine call_eq (fn := a46) f46 ?_
  unfold a46
  simp (maxSteps := 2000000) (discharger := omega) only [xc,xo,xr,x0,x3,x5,xd,Reg.isA,Reg.isV,Reg.stays,Reg.onto,Bool.or_false,Bool.and_false,↓reduceIte,reduceCtorEq,Nat.reduceEqDiff,Nat.reduceLT,Nat.zero_add,Nat.not_lt_zero,Nat.zero_ne_one,Nat.one_ne_zero,Bool.false_eq_true,Option.map_some,and_self,and_true,List.length_cons,List.length_nil,List.any_nil,List.any_cons,Option.some.injEq,exists_eq_left',hc,hnt]
set_option maxRecDepth 100000 in
set_option maxHeartbeats 4000000 in
theorem c15 (rs : List Rc) (v : AV) (L : Nat) (hv : IsRd 66 (rs.map Rc.av) v) (hok : ∀ r ∈ rs, r.ok) (hl : rs.length ≤ 1000) (h : Hp) (hL : h[L]? = some (.row 1 [v])) (k : List Int) (hk : k.length = 32) (hn : rs.length + 10 < n) :
    call F n tot ω 15 [.agg (intsOf .u8 k), .ptr L 1 0 0] h = some (fdAV (findR rs k), h) := by
  obtain ⟨n, rfl⟩ : ∃ m, n = m + 1 := ⟨n - 1, by omega⟩
  refine call_eq (fn := a15) f15 ?_
  unfold a15
  have t32 := tki hk
  have vnt := rd_nt hv
  have vs := rd_sub hv 1
  generalize hR : findR rs k = R
  simp (maxSteps := 2000000) (discharger := omega) only [xc,xo,xr,x0,xd,xe,Reg.isA,Reg.isV,Reg.stays,Reg.onto,Bool.or_false,Bool.and_false,Bool.or_true,↓reduceIte,reduceCtorEq,Nat.reduceEqDiff,Nat.reduceLT,Nat.reduceAdd,Nat.zero_add,Nat.not_lt_zero,Nat.zero_ne_one,Bool.false_eq_true,Option.map_some,and_self,List.any_nil,List.any_cons,hk,z66E]
  refine wpi_loop (fun m r g => ∃ (i : Nat), r = [(1, .val (.ptr L 1 0 0)), (2, .var (.agg (intsOf .u8 k))), (3, .var (.agg Z66)), (5, .val (.int .i64 i))] ∧ i + m = rs.length ∧ findR (rs.drop i) k = R ∧ g = h) rs.length (by omega) ⟨0, rfl, by omega, hR, rfl⟩ ?_
  clear hR
  rintro m r g ⟨i, rfl, him, hd, rfl⟩
  have hvl := hv.len
  rw [List.length_map] at hvl
  by_cases hlt : i < rs.length
  · have hlt' : ((i : Nat) : Int) < (rs.length : Int) := by omega
    have hi0 : (0 : Int) ≤ (i : Int) := by omega
    have hge : (rs.map Rc.av)[i]? = some (.agg rs[i].cells) := by rw [List.getElem?_map, List.getElem?_eq_getElem hlt]; rfl
    have hr := hok rs[i] (List.getElem_mem hlt)
    rw [List.drop_eq_getElem_cons hlt] at hd
    generalize rs[i] = q at *
    have k16 := c16 (n := n) (tot := tot) (ω := ω) q g hr (by omega)
    unfold Rc.av at k16
    rcases hv with ⟨_, e0⟩ | ⟨c, rfl⟩
    · rw [e0] at hge; cases hge
    unfold findR at hd
    rw [List.find?_cons] at hd
    have ek := eqk hr.1 hk
    by_cases hq : q.key = k
    · rw [decide_eq_true hq] at hd ek
      dsimp only at hd
      subst hd
      simp (maxSteps := 2000000) (discharger := omega) only [xc,xo,xr,x0,x1,x2,x4,x5,xd,xe,kont_call,eqAV,wr,Bool.bne_false,List.drop_zero,List.nil_append,List.append_nil,List.take_zero,Reg.isA,Reg.isV,Reg.stays,Reg.onto,Bool.or_false,Bool.and_false,↓reduceIte,Nat.reduceEqDiff,Nat.reduceLT,Nat.zero_add,Nat.lt_irrefl,Bool.false_eq_true,Option.map_some,and_self,and_true,List.any_nil,List.any_cons,Int.toNat_natCast,Option.some.injEq,exists_eq_left',decide_true,List.getElem?_cons_zero,xu,int_le_t,nat_le_t,hL,vs,hk,t32,hvl,hlt',hge,Rc.len hr,Rc.t66 hr,Rc.t32 hr,hr.1,tki hr.1,ek,z66L,z66D,k16,fdAV,Rc.av]
    · rw [decide_eq_false hq] at hd ek
      dsimp only at hd
      simp (maxSteps := 2000000) (discharger := omega) only [xc,xo,xr,x0,x1,x2,x4,xd,xe,eqAV,Bool.bne_false,List.drop_zero,Reg.isA,Reg.isV,Reg.stays,Reg.onto,Bool.or_false,Bool.and_false,↓reduceIte,Nat.reduceEqDiff,Nat.reduceLT,Nat.zero_add,Nat.lt_irrefl,Bool.false_eq_true,Option.map_some,and_self,and_true,List.any_nil,List.any_cons,Int.toNat_natCast,decide_true,List.getElem?_cons_zero,wrap_i64,int_le_t,nat_le_t,hL,vs,hk,t32,hvl,hlt',hge,Rc.len hr,Rc.t32 hr,hr.1,tki hr.1,ek,fdAV,Rc.av]
      exact ⟨m - 1, by omega, i + 1, rfl, by omega, hd⟩
  · have hlt' : ¬ ((i : Nat) : Int) < (rs.length : Int) := by omega
    rw [List.drop_of_length_le (by omega)] at hd
    subst hd
    simp (maxSteps := 2000000) (discharger := omega) only [xc,xo,xr,x0,x1,x3,x4,x5,xd,wr,place,partVals,List.drop_zero,List.nil_append,List.append_nil,List.take_zero,Reg.isA,Reg.isV,Reg.stays,Reg.onto,Bool.or_false,Bool.and_false,↓reduceIte,Nat.reduceEqDiff,Nat.reduceLT,Nat.zero_add,Nat.lt_irrefl,Bool.false_eq_true,Option.map_some,and_self,and_true,List.any_nil,List.any_cons,Option.some.injEq,exists_eq_left',decide_false,List.getElem?_cons_zero,xu,nat_le_t,hL,vs,hvl,hlt',z66E,z66L,z66D,z66T,fdAV,findR,List.find?_nil]
def bump (k : List Int) : List Int := match k with | [] => [] | x :: xs => IntKind.u8.wrap (x + 1) :: xs
set_option maxRecDepth 100000 in
set_option maxHeartbeats 4000000 in
theorem c20 (h : Hp) (k : List Int) (hk : k.length = 32) (hn : 0 < n) : call F n tot ω 20 [.agg (intsOf .u8 k)] h = some (RG ⟨bump k, List.replicate 32 0, false, []⟩ 0, h) := by
  obtain ⟨n, rfl⟩ : ∃ m, n = m + 1 := ⟨n - 1, by omega⟩
  refine call_eq (fn := a20) f20 ?_
  unfold a20
  have t32 := tki hk
  have hb : (bump k).length = 32 := by cases k with | nil => cases hk | cons x xs => exact hk
  have t32b := tki hb
  have pk := pl_k hb
  have hq := Rc.len (r := ⟨bump k, List.replicate 32 0, false, []⟩) ⟨hb, rfl, Nat.zero_le _⟩
  have hq2 := Rc.t66 (r := ⟨bump k, List.replicate 32 0, false, []⟩) ⟨hb, rfl, Nat.zero_le _⟩
  have hq3 := Rc.d66 (r := ⟨bump k, List.replicate 32 0, false, []⟩) ⟨hb, rfl, Nat.zero_le _⟩
  have hx : ∃ x, (intsOf .u8 k)[0]? = some (.int .u8 x) ∧ (intsOf .u8 k).set 0 (.int .u8 (IntKind.u8.wrap (x + 1))) = intsOf .u8 (bump k) := by
    cases k with
    | nil => cases hk
    | cons x xs => exact ⟨x, rfl, rfl⟩
  obtain ⟨x, hx0, hx1⟩ := hx
  simp (maxSteps := 2000000) (discharger := omega) only [xc,xo,xr,x0,x1,x3,x5,xd,xe,wr,partVals,List.drop_zero,List.nil_append,List.append_nil,List.take_zero,Reg.isA,Reg.isV,Reg.stays,Reg.onto,Bool.or_false,Bool.and_false,Bool.or_true,↓reduceIte,reduceCtorEq,Nat.reduceEqDiff,Nat.reduceLT,Nat.reduceMul,Nat.add_zero,Nat.zero_add,Nat.not_lt_zero,Nat.zero_ne_one,Nat.one_ne_zero,Nat.lt_irrefl,Nat.zero_lt_succ,Bool.false_eq_true,Option.map_some,and_self,and_true,List.length_cons,List.length_nil,List.any_nil,List.any_cons,Int.cast_ofNat_Int,Option.some.injEq,exists_eq_left',Int.reduceToNat,Nat.reduceBEq,xu,int_lt_t,int_le_t,nat_le_t,hk,hb,t32b,z66E,z66L,z66D,hx0,hx1,pk,hq,hq2,RG,Rc.av]
end
end Go.Proofs.YtcnbllelfinlmaaDoor.Im

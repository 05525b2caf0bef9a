/- Joined: S20Rdr, S20Rrd, S20Ba, S20Ap. -/
import Derived.Test.YtcnbllelfinlmaaDoorDec
import Derived.Test.YtcnbllelfinlmaaDoorImRow
import Derived.Test.YtcnbllelfinlmaaDoorImSl
import Derived.Test.YtcnbllelfinlmaaDoorImApp
import Derived.KernelRfl
/- S20Rdr: the reader's methods. -/
set_option linter.unusedVariables false
set_option linter.unusedSimpArgs false
open Go Go.Im
namespace Go.Proofs.YtcnbllelfinlmaaDoor.Im

inductive PR (α : Type) where
  | err (e : Int) | ok (v : α) (k : Nat)

def rdW (s : List UInt8) : PR Int := match dec 0 0 s with
  | .err e => .err e
  | .ok x b k => .ok (if b then -(x : Int) - 1 else x) k
def rdC (s : List UInt8) : PR Nat := match dec 0 0 s with
  | .err e => .err e
  | .ok x b k => if b then .err 3 else .ok x k
theorem dec_err {e : Int} : ∀ {s : List UInt8} {x i : Nat}, dec x i s = .err e → e = 2 ∨ e = 3
  | [], x, i, h => by unfold dec at h; cases h; exact .inl rfl
  | c :: s, x, i, h => by
    unfold dec at h
    split at h
    · cases h; exact .inr rfl
    · split at h
      · cases h
      · exact dec_err h

theorem dec_ok {v k : Nat} {b : Bool} : ∀ {s : List UInt8} {x i : Nat}, dec x i s = .ok v b k → v ≤ 9223372036854775807 ∧ i < k ∧ k ≤ i + s.length
  | [], x, i, h => by unfold dec at h; cases h
  | c :: s, x, i, h => by
    unfold dec at h
    split at h
    · cases h
    · split at h
      · simp only [NR.ok.injEq] at h
        obtain ⟨rfl, _, rfl⟩ := h
        simp
        omega
      · have := dec_ok h
        simp; omega

theorem rdC_ok {s : List UInt8} {v k : Nat} (h : rdC s = .ok v k) : dec 0 0 s = .ok v false k := by
  unfold rdC at h
  split at h
  · cases h
  · rename_i x b k' h1
    cases b with
    | true => cases h
    | false => cases h; exact h1
theorem rdC_err {s : List UInt8} {e : Int} (h : rdC s = .err e) : (dec 0 0 s = .err e ∧ (e = 2 ∨ e = 3)) ∨ (e = 3 ∧ ∃ x k, dec 0 0 s = .ok x true k) := by
  unfold rdC at h
  split at h
  · rename_i h1; cases h; exact .inl ⟨h1, dec_err h1⟩
  · rename_i x b k' h1
    cases b with
    | true => cases h; exact .inr ⟨rfl, x, k', h1⟩
    | false => cases h

def Rr (s : List UInt8) : AO := .row 1 [.agg [.str s]]

theorem c80e {tot : Bool} {ω : Nat → Nat} {n : Nat} (id : Nat) (s : List UInt8) (h : Hp) (hid : h[id]? = some (Rr s)) (hs : s.length ≤ 1000000000000) (hn : s.length + 3 < n) {e : Int} (hr : rdC s = .err e) :
    call F n tot ω 80 [.ptr id 1 0 0] h = some (.tup [.int .i64 0, .int .i64 e], h) := by
  obtain ⟨n, rfl⟩ : ∃ m, n = m + 1 := ⟨n - 1, by omega⟩
  refine call_eq (fn := a80) f80 ?_
  unfold a80
  have r1 := c107 (tot := tot) (ω := ω) (n := n) id s h hid hs (by omega)
  rcases rdC_err hr with ⟨hd, h23⟩ | ⟨rfl, x, k, hd⟩
  · rw [hd] at r1
    unfold numAV at r1
    have he : (e != 0) = true := by rcases h23 with rfl | rfl <;> rfl
    have he2 : (e == 0) = false := by rcases h23 with rfl | rfl <;> rfl
    simp (maxSteps := 2000000) (discharger := omega) only [xc,xo,xr,x0,x1,x3,xd,xb,kont_call,Reg.isA,Reg.isV,Reg.stays,Reg.onto,Bool.or_false,Bool.and_false,↓reduceIte,reduceCtorEq,Nat.reduceEqDiff,Nat.reduceLT,Nat.zero_add,Nat.not_lt_zero,Bool.false_eq_true,Option.map_some,and_true,List.any_nil,List.any_cons,Option.some.injEq,exists_eq_left',List.getElem?_cons_zero,List.getElem?_cons_succ,r1,he,he2]
  · rw [hd] at r1
    unfold numAV at r1
    have he : ((3 : Int) != 0) = true := rfl
    simp (maxSteps := 2000000) (discharger := omega) only [xc,xo,xr,x0,x1,x3,xd,kont_call,Reg.isA,Reg.isV,Reg.stays,Reg.onto,Bool.or_false,Bool.and_false,↓reduceIte,reduceCtorEq,Nat.reduceEqDiff,Nat.reduceLT,Nat.zero_add,Nat.not_lt_zero,Nat.lt_irrefl,Bool.false_eq_true,Option.map_some,and_true,List.any_nil,List.any_cons,beq_self_eq_true,Option.some.injEq,exists_eq_left',List.getElem?_cons_zero,List.getElem?_cons_succ,r1,he]

theorem c80o {tot : Bool} {ω : Nat → Nat} {n : Nat} (id : Nat) (s : List UInt8) (h : Hp) (hid : h[id]? = some (Rr s)) (hs : s.length ≤ 1000000000000) (hn : s.length + 3 < n) {v : Nat} {k : Nat} (hr : rdC s = .ok v k) :
    call F n tot ω 80 [.ptr id 1 0 0] h = some (.tup [.int .i64 v, .int .i64 0], h.set id (Rr (s.drop k))) := by
  obtain ⟨n, rfl⟩ : ∃ m, n = m + 1 := ⟨n - 1, by omega⟩
  refine call_eq (fn := a80) f80 ?_
  unfold a80
  have r1 := c107 (tot := tot) (ω := ω) (n := n) id s h hid hs (by omega)
  have hd := rdC_ok hr
  have hb := dec_ok hd
  rw [hd] at r1
  unfold numAV at r1
  unfold Rr at hid
  have he : ((0 : Int) != 0) = false := rfl
  have hkl : ((k : Nat) : Int) ≤ (s.length : Int) := by omega
  have ht : List.take s.length s = s := List.take_length
  simp (maxSteps := 2000000) (discharger := omega) only [xc,xo,xr,x0,x1,x3,x5,xd,kont_call,slOk,sliceV,upd,wr,Reg.isA,Reg.isV,Reg.stays,Reg.onto,Bool.or_false,Bool.and_false,↓reduceIte,reduceCtorEq,Nat.reduceEqDiff,Nat.reduceLT,Nat.add_zero,Nat.zero_add,Nat.not_lt_zero,Nat.zero_lt_succ,Bool.false_eq_true,Option.map_some,Option.getD_none,and_self,and_true,List.length_cons,List.length_nil,List.any_nil,List.any_cons,Int.toNat_natCast,Int.natCast_nonneg,beq_self_eq_true,Option.some.injEq,exists_eq_left',List.getElem?_cons_zero,List.getElem?_cons_succ,r1,he,hid,hkl,ht,Int.le_refl,Rr,List.set_cons_zero]

theorem c108e {tot : Bool} {ω : Nat → Nat} {n : Nat} (id m : Nat) (s : List UInt8) (h : Hp) (hid : h[id]? = some (Rr s)) (hn : 2 < n) (hm : s.length < m) :
    call F n tot ω 108 [.ptr id 1 0 0, .int .i64 m] h = some (.tup [.str [], .int .i64 2], h) := by
  obtain ⟨n, rfl⟩ : ∃ m, n = m + 1 := ⟨n - 1, by omega⟩
  refine call_eq (fn := a108) f108 ?_
  unfold a108
  unfold Rr at hid
  have h0 : ¬ ((m : Nat) : Int) < 0 := by omega
  have h1 : ((m : Nat) : Int) > (s.length : Int) := by omega
  simp (maxSteps := 2000000) (discharger := omega) only [xc,xo,xr,x0,x1,x2,x3,x4,xd,isNil,Bool.bne_false,Reg.isA,Reg.isV,Reg.stays,Reg.onto,Bool.or_false,Bool.and_false,↓reduceIte,reduceCtorEq,Nat.reduceEqDiff,Nat.reduceLT,Nat.reduceAdd,Nat.add_zero,Nat.zero_add,Nat.not_lt_zero,Nat.zero_ne_one,Nat.one_ne_zero,Bool.false_eq_true,Option.map_some,and_true,List.any_nil,List.any_cons,beq_self_eq_true,Option.some.injEq,exists_eq_left',decide_true,decide_false,List.getElem?_cons_zero,hid,h0,h1]

theorem c108o {tot : Bool} {ω : Nat → Nat} {n : Nat} (id m : Nat) (s : List UInt8) (h : Hp) (hid : h[id]? = some (Rr s)) (hn : 2 < n) (hm : m ≤ s.length) :
    call F n tot ω 108 [.ptr id 1 0 0, .int .i64 m] h = some (.tup [.str (s.take m), .int .i64 0], h.set id (Rr (s.drop m))) := by
  obtain ⟨n, rfl⟩ : ∃ m, n = m + 1 := ⟨n - 1, by omega⟩
  refine call_eq (fn := a108) f108 ?_
  unfold a108
  unfold Rr at hid
  have h0 : ¬ ((m : Nat) : Int) < 0 := by omega
  have h1 : ¬ ((m : Nat) : Int) > (s.length : Int) := by omega
  have h2 : (0 : Int) ≤ (m : Int) := by omega
  have h3 : (m : Int) ≤ (s.length : Int) := by omega
  have ht : List.take s.length s = s := List.take_length
  have hz : (0 : Int).toNat = 0 := rfl
  simp (maxSteps := 2000000) (discharger := omega) only [xc,xo,xr,x0,x1,x2,x3,x4,x5,xd,isNil,slOk,sliceV,upd,wr,Bool.bne_false,List.drop_zero,Reg.isA,Reg.isV,Reg.stays,Reg.onto,Bool.or_false,Bool.and_false,↓reduceIte,reduceCtorEq,Nat.reduceEqDiff,Nat.reduceLT,Nat.reduceAdd,Nat.add_zero,Nat.zero_add,Nat.not_lt_zero,Nat.zero_ne_one,Nat.one_ne_zero,Nat.zero_lt_succ,Bool.false_eq_true,Option.map_some,Option.getD_some,Option.getD_none,and_self,and_true,List.length_cons,List.length_nil,List.any_nil,List.any_cons,Int.toNat_natCast,beq_self_eq_true,Option.some.injEq,exists_eq_left',decide_false,List.getElem?_cons_zero,hid,h0,h1,h2,h3,ht,hz,Int.le_refl,Rr,List.set_cons_zero]

theorem set_get {h : Hp} {id : Nat} {o : AO} (hid : h[id]? = some o) (o' : AO) : (h.set id o')[id]? = some o' := by
  have := (List.getElem?_eq_some_iff.1 hid).1
  simp [this]
theorem c82 {tot : Bool} {ω : Nat → Nat} {n : Nat} (id : Nat) (s : List UInt8) (h : Hp) (hid : h[id]? = some (Rr s)) (hn : 2 < n) :
    call F n tot ω 82 [.ptr id 1 0 0] h = some (.int .i64 (if s = [] then 0 else 5), h) := by
  obtain ⟨n, rfl⟩ : ∃ m, n = m + 1 := ⟨n - 1, by omega⟩
  refine call_eq (fn := a82) f82 ?_
  unfold a82
  unfold Rr at hid
  by_cases hs : s = []
  · subst hs
    have hq : (([] : List UInt8) == []) = true := rfl
    simp (maxSteps := 2000000) (discharger := omega) only [xc,xo,xr,x0,x1,x2,x3,xd,isNil,Bool.bne_false,Reg.isA,Reg.isV,Reg.stays,Reg.onto,Bool.or_false,Bool.and_false,↓reduceIte,reduceCtorEq,Nat.reduceEqDiff,Nat.reduceLT,Nat.add_zero,Nat.zero_add,Nat.not_lt_zero,Bool.false_eq_true,Bool.not_true,Option.map_some,and_true,List.any_nil,List.any_cons,beq_self_eq_true,Option.some.injEq,exists_eq_left',List.getElem?_cons_zero,hid]
  · have hq : (s == []) = false := by simp [hs]
    simp (maxSteps := 2000000) (discharger := omega) only [xc,xo,xr,x0,x1,x2,x3,xd,isNil,Bool.bne_false,Reg.isA,Reg.isV,Reg.stays,Reg.onto,Bool.or_false,Bool.and_false,↓reduceIte,reduceCtorEq,Nat.reduceEqDiff,Nat.reduceLT,Nat.add_zero,Nat.zero_add,Nat.not_lt_zero,Bool.false_eq_true,Bool.not_false,Option.map_some,and_true,List.any_nil,List.any_cons,Option.some.injEq,exists_eq_left',List.getElem?_cons_zero,hid,hq,hs]

end Go.Proofs.YtcnbllelfinlmaaDoor.Im

/- S20Rrd: the reference's readers. -/
set_option linter.unusedVariables false
set_option linter.unusedSimpArgs false
open Go Go.Im
namespace Go.Proofs.YtcnbllelfinlmaaDoor.Im

def rdWAV : PR Int → AV
  | .err e => .tup [.int .i64 0, .int .i64 0, .int .i64 e]
  | .ok v k => .tup [.int .i64 v, .int .i64 k, .int .i64 0]
def rdCAV : PR Nat → AV
  | .err e => .tup [.int .i64 0, .int .i64 0, .int .i64 e]
  | .ok v k => .tup [.int .i64 v, .int .i64 k, .int .i64 0]
def toW : NR → PR Int
  | .err e => .err e
  | .ok x b k => .ok (if b then -(x : Int) - 1 else x) k
theorem rdW_toW (s : List UInt8) : rdW s = toW (dec 0 0 s) := by
  unfold rdW toW; cases dec 0 0 s <;> rfl

theorem c93 {tot : Bool} {ω : Nat → Nat} {n : Nat} (s : List UInt8) (h : Hp) (hs : s.length ≤ 1000000000000) (hn : s.length + 2 < n) :
    call F n tot ω 93 [.str s] h = some (rdWAV (rdW s), h) := by
  obtain ⟨n, rfl⟩ : ∃ m, n = m + 1 := ⟨n - 1, by omega⟩
  refine call_eq (fn := a93) f93 ?_
  rw [rdW_toW]
  generalize hR : dec 0 0 s = R
  unfold a93
  simp (maxSteps := 2000000) (discharger := omega) only [xc,xo,xr,x0,Reg.isA,Reg.isV,Reg.stays,Reg.onto,Bool.or_false,Bool.and_false,↓reduceIte,reduceCtorEq,Nat.reduceEqDiff,Nat.reduceLT,Nat.zero_add,Nat.not_lt_zero,Bool.false_eq_true,Option.map_some,List.any_nil,List.any_cons,Int.reduceNeg]
  refine wpi_loop (fun k r g => ∃ (x i : Nat), r = [(0, .val (.str s)), (5, .val (.int .u64 x)), (6, .val (.int .i64 i))] ∧ i + k = s.length ∧ x ≤ 9223372036854775807 ∧ dec x i (s.drop i) = R ∧ g = h) s.length (by omega) ⟨0, 0, rfl, by omega, by omega, hR, rfl⟩ ?_
  clear hR
  rintro k r g ⟨x, i, rfl, hik, hx, hd, rfl⟩
  by_cases hlt : i < s.length
  · have hlt' : ((i : Nat) : Int) < (s.length : Int) := by omega
    have hge : s[i]? = some s[i] := List.getElem?_eq_getElem hlt
    have hi0 : (0 : Int) ≤ (i : Int) := by omega
    rw [List.drop_eq_getElem_cons hlt] at hd
    have hc := s[i].toNat_lt
    generalize s[i] = c at *
    unfold dec at hd
    have ht := tm64 c.toNat
    by_cases A : 191 < c.toNat
    · rw [if_pos (.inl A)] at hd
      subst hd
      have A' : ((c.toNat : Nat) : Int) ≥ 192 := by omega
      simp (maxSteps := 2000000) (discharger := omega) only [xc,xo,xr,x0,x1,x2,x4,xd,xb,Reg.isA,Reg.isV,Reg.stays,Reg.onto,Bool.or_false,Bool.and_false,↓reduceIte,reduceCtorEq,Nat.reduceEqDiff,Nat.reduceLT,Nat.not_lt_zero,Bool.false_eq_true,Option.map_some,and_true,List.any_nil,List.any_cons,Int.toNat_natCast,Int.natCast_nonneg,Option.some.injEq,exists_eq_left',Int.reduceNeg,decide_true,wrap_i64,hlt',hge,A',rdWAV,toW]
    · have A' : ¬ ((c.toNat : Nat) : Int) ≥ 192 := by omega
      by_cases C : i = 0 ∧ c.toNat = 0
      · rw [if_pos (.inr (.inr C))] at hd
        subst hd
        have C' : (((i : Nat) : Int) == 0) = true := by simp [C.1]
        have D' : (((c.toNat : Nat) : Int) == 0) = true := by rw [C.2]; rfl
        simp (maxSteps := 2000000) (discharger := omega) only [xc,xo,xr,x0,x1,x2,x4,xd,xb,Reg.isA,Reg.isV,Reg.stays,Reg.onto,Bool.or_false,Bool.and_false,↓reduceIte,reduceCtorEq,Nat.reduceEqDiff,Nat.reduceLT,Nat.not_lt_zero,Bool.false_eq_true,Option.map_some,and_true,List.any_nil,List.any_cons,Int.toNat_natCast,Int.natCast_nonneg,beq_self_eq_true,Option.some.injEq,exists_eq_left',Int.reduceNeg,decide_true,decide_false,wrap_i64,hlt',hge,A',C',D',rdWAV,toW]
      · have hCD : (((c.toNat : Nat) : Int) == 0) = false ∨ ((((c.toNat : Nat) : Int) == 0) = true ∧ (((i : Nat) : Int) == 0) = false) := by
          by_cases hi : c.toNat = 0
          · right; exact ⟨by simp [hi], by simp; omega⟩
          · left; simp; omega
        by_cases B : 144115188075855871 < x
        · rw [if_pos (.inr (.inl B))] at hd
          subst hd
          have B' : ((x : Nat) : Int) > 144115188075855871 := by omega
          rcases hCD with C' | ⟨C', D'⟩
          · simp (maxSteps := 2000000) (discharger := omega) only [xc,xo,xr,x0,x1,x2,x4,xd,xb,Reg.isA,Reg.isV,Reg.stays,Reg.onto,Bool.or_false,Bool.and_false,↓reduceIte,reduceCtorEq,Nat.reduceEqDiff,Nat.reduceLT,Nat.not_lt_zero,Bool.false_eq_true,Option.map_some,and_true,List.any_nil,List.any_cons,Int.toNat_natCast,Int.natCast_nonneg,beq_self_eq_true,Option.some.injEq,exists_eq_left',Int.reduceNeg,decide_true,decide_false,wrap_i64,hlt',hge,A',B',C',rdWAV,toW]
          · simp (maxSteps := 2000000) (discharger := omega) only [xc,xo,xr,x0,x1,x2,x4,xd,Reg.isA,Reg.isV,Reg.stays,Reg.onto,Bool.or_false,Bool.and_false,↓reduceIte,reduceCtorEq,Nat.reduceEqDiff,Nat.reduceLT,Nat.not_lt_zero,Bool.false_eq_true,Option.map_some,and_true,List.any_nil,List.any_cons,Int.toNat_natCast,Int.natCast_nonneg,beq_self_eq_true,Option.some.injEq,exists_eq_left',Int.reduceNeg,decide_true,decide_false,wrap_i64,hlt',hge,A',B',C',D',rdWAV,toW]
        · have B' : ¬ ((x : Nat) : Int) > 144115188075855871 := by omega
          rw [if_neg (by omega)] at hd
          have w3 : (64 : Int) * (x : Int) + ((c.toNat % 64 : Nat) : Int) = ((64 * x + c.toNat % 64 : Nat) : Int) := by omega
          by_cases E : 63 < c.toNat
          · rw [if_pos E] at hd
            subst hd
            have E' : ((c.toNat : Nat) : Int) ≥ 64 := by omega
            by_cases G : 127 < c.toNat
            · have G' : ((c.toNat : Nat) : Int) ≥ 128 := by omega
              have G2 : decide (127 < c.toNat) = true := by simp [G]
              have hz : (-1 : Int) - ((64 * x + c.toNat % 64 : Nat) : Int) = -((64 * x + c.toNat % 64 : Nat) : Int) - 1 := by omega
              rw [G2]
              rcases hCD with C' | ⟨C', D'⟩
              · simp (maxSteps := 2000000) (discharger := omega) only [xc,xo,xr,x0,x1,x2,x4,xd,xb,Reg.isA,Reg.isV,Reg.stays,Reg.onto,Bool.or_false,Bool.and_false,↓reduceIte,reduceCtorEq,Nat.reduceEqDiff,Nat.reduceLT,Nat.not_lt_zero,Nat.lt_irrefl,Bool.false_eq_true,Option.map_some,and_true,List.any_nil,List.any_cons,Int.toNat_natCast,Int.natCast_nonneg,beq_self_eq_true,Option.some.injEq,exists_eq_left',Int.reduceEq,Int.reduceNeg,decide_true,decide_false,wrap_i64,hlt',hge,A',B',C',G',ht,w3,wrap_u64,hz,rdWAV,toW]
                rfl
              · simp (maxSteps := 2000000) (discharger := omega) only [xc,xo,xr,x0,x1,x2,x4,xd,Reg.isA,Reg.isV,Reg.stays,Reg.onto,Bool.or_false,Bool.and_false,↓reduceIte,reduceCtorEq,Nat.reduceEqDiff,Nat.reduceLT,Nat.not_lt_zero,Nat.lt_irrefl,Bool.false_eq_true,Option.map_some,and_true,List.any_nil,List.any_cons,Int.toNat_natCast,Int.natCast_nonneg,beq_self_eq_true,Option.some.injEq,exists_eq_left',Int.reduceEq,Int.reduceNeg,decide_true,decide_false,wrap_i64,hlt',hge,A',B',C',D',G',ht,w3,wrap_u64,hz,rdWAV,toW]
                rfl
            · have G' : ¬ ((c.toNat : Nat) : Int) ≥ 128 := by omega
              have G2 : decide (127 < c.toNat) = false := by simp [G]
              rw [G2]
              rcases hCD with C' | ⟨C', D'⟩
              · simp (maxSteps := 2000000) (discharger := omega) only [xc,xo,xr,x0,x1,x2,x4,xd,xb,Reg.isA,Reg.isV,Reg.stays,Reg.onto,Bool.or_false,Bool.and_false,↓reduceIte,reduceCtorEq,Nat.reduceEqDiff,Nat.reduceLT,Nat.not_lt_zero,Nat.lt_irrefl,Bool.false_eq_true,Option.map_some,and_true,List.any_nil,List.any_cons,Int.toNat_natCast,Int.natCast_nonneg,beq_self_eq_true,Option.some.injEq,exists_eq_left',Int.reduceEq,Int.reduceNeg,decide_true,decide_false,wrap_i64,hlt',hge,A',B',C',E',G',ht,w3,wrap_u64,rdWAV,toW]
                rfl
              · simp (maxSteps := 2000000) (discharger := omega) only [xc,xo,xr,x0,x1,x2,x4,xd,Reg.isA,Reg.isV,Reg.stays,Reg.onto,Bool.or_false,Bool.and_false,↓reduceIte,reduceCtorEq,Nat.reduceEqDiff,Nat.reduceLT,Nat.not_lt_zero,Nat.lt_irrefl,Bool.false_eq_true,Option.map_some,and_true,List.any_nil,List.any_cons,Int.toNat_natCast,Int.natCast_nonneg,beq_self_eq_true,Option.some.injEq,exists_eq_left',Int.reduceEq,Int.reduceNeg,decide_true,decide_false,wrap_i64,hlt',hge,A',B',C',D',E',G',ht,w3,wrap_u64,rdWAV,toW]
                rfl
          · rw [if_neg E] at hd
            have E' : ¬ ((c.toNat : Nat) : Int) ≥ 64 := by omega
            have G' : ¬ ((c.toNat : Nat) : Int) ≥ 128 := by omega
            rcases hCD with C' | ⟨C', D'⟩
            · simp (maxSteps := 2000000) (discharger := omega) only [xc,xo,xr,x0,x1,x2,x4,xd,xb,Reg.isA,Reg.isV,Reg.stays,Reg.onto,Bool.or_false,Bool.and_false,↓reduceIte,reduceCtorEq,Nat.reduceEqDiff,Nat.reduceLT,Nat.not_lt_zero,Nat.lt_irrefl,Bool.false_eq_true,Option.map_some,and_true,List.any_nil,List.any_cons,Int.toNat_natCast,Int.natCast_nonneg,beq_self_eq_true,Int.reduceEq,Int.reduceNeg,decide_true,decide_false,wrap_i64,hlt',hge,A',B',C',E',G',ht,w3,wrap_u64]
              exact ⟨k - 1, by omega, _, i + 1, rfl, by omega, by omega, hd⟩
            · simp (maxSteps := 2000000) (discharger := omega) only [xc,xo,xr,x0,x1,x2,x4,xd,Reg.isA,Reg.isV,Reg.stays,Reg.onto,Bool.or_false,Bool.and_false,↓reduceIte,reduceCtorEq,Nat.reduceEqDiff,Nat.reduceLT,Nat.not_lt_zero,Nat.lt_irrefl,Bool.false_eq_true,Option.map_some,and_true,List.any_nil,List.any_cons,Int.toNat_natCast,Int.natCast_nonneg,beq_self_eq_true,Int.reduceEq,Int.reduceNeg,decide_true,decide_false,wrap_i64,hlt',hge,A',B',C',D',E',G',ht,w3,wrap_u64]
              exact ⟨k - 1, by omega, _, i + 1, rfl, by omega, by omega, hd⟩
  · have hlt' : ¬ ((i : Nat) : Int) < (s.length : Int) := by omega
    rw [List.drop_of_length_le (by omega)] at hd
    unfold dec at hd
    subst hd
    simp (maxSteps := 2000000) (discharger := omega) only [xc,xo,xr,x0,x1,x4,xd,Reg.isA,Reg.isV,Reg.stays,Reg.onto,Bool.or_false,Bool.and_false,↓reduceIte,reduceCtorEq,Nat.reduceEqDiff,Nat.reduceLT,Nat.not_lt_zero,Bool.false_eq_true,Option.map_some,and_true,List.any_nil,List.any_cons,Option.some.injEq,exists_eq_left',Int.reduceNeg,decide_false,hlt',rdWAV,toW]

theorem c61 {tot : Bool} {ω : Nat → Nat} {n : Nat} (s : List UInt8) (h : Hp) (hs : s.length ≤ 1000000000000) (hn : s.length + 3 < n) :
    call F n tot ω 61 [.str s] h = some (rdCAV (rdC s), h) := by
  obtain ⟨n, rfl⟩ : ∃ m, n = m + 1 := ⟨n - 1, by omega⟩
  refine call_eq (fn := a61) f61 ?_
  unfold a61
  have r1 := c93 (tot := tot) (ω := ω) (n := n) s h hs (by omega)
  rw [rdW_toW] at r1
  unfold rdC
  have hb := @dec_ok
  cases hd : dec 0 0 s with
  | err e =>
    rw [hd] at r1
    unfold toW rdWAV at r1
    have he2 : (e == 0) = false := by rcases dec_err hd with rfl | rfl <;> rfl
    simp (maxSteps := 2000000) (discharger := omega) only [xc,xo,xr,x0,x1,x3,xd,xb,kont_call,Reg.isA,Reg.isV,Reg.stays,Reg.onto,Bool.or_false,Bool.and_false,↓reduceIte,reduceCtorEq,Nat.reduceEqDiff,Nat.reduceLT,Nat.zero_add,Nat.not_lt_zero,Bool.false_eq_true,Option.map_some,and_true,List.any_nil,List.any_cons,Option.some.injEq,exists_eq_left',List.getElem?_cons_zero,List.getElem?_cons_succ,r1,he2,rdCAV]
  | ok x b k =>
    rw [hd] at r1
    unfold toW rdWAV at r1
    have hb := dec_ok hd
    have he : ((0 : Int) == 0) = true := rfl
    cases b with
    | true =>
      have hneg : -(x : Int) - 1 < 0 := by omega
      simp only [if_true] at r1
      simp (maxSteps := 2000000) (discharger := omega) only [xc,xo,xr,x0,x1,x3,xd,kont_call,Reg.isA,Reg.isV,Reg.stays,Reg.onto,Bool.or_false,Bool.and_false,↓reduceIte,reduceCtorEq,Nat.reduceEqDiff,Nat.reduceLT,Nat.zero_add,Nat.not_lt_zero,Bool.false_eq_true,Option.map_some,and_true,List.any_nil,List.any_cons,beq_self_eq_true,Option.some.injEq,exists_eq_left',decide_true,List.getElem?_cons_zero,List.getElem?_cons_succ,r1,hneg,rdCAV]
    | false =>
      have hneg : ¬ (x : Int) < 0 := by omega
      simp only [Bool.false_eq_true,if_false] at r1
      simp (maxSteps := 2000000) (discharger := omega) only [xc,xo,xr,x0,x1,x3,xd,kont_call,Reg.isA,Reg.isV,Reg.stays,Reg.onto,Bool.or_false,Bool.and_false,↓reduceIte,reduceCtorEq,Nat.reduceEqDiff,Nat.reduceLT,Nat.zero_add,Nat.not_lt_zero,Bool.false_eq_true,Option.map_some,and_true,List.any_nil,List.any_cons,beq_self_eq_true,Option.some.injEq,exists_eq_left',decide_false,List.getElem?_cons_zero,List.getElem?_cons_succ,r1,hneg,rdCAV]

end Go.Proofs.YtcnbllelfinlmaaDoor.Im

/- S20Ba: what every text here needs. -/
set_option linter.unusedVariables false
set_option linter.unusedSimpArgs false
open Go Go.Im
namespace Go.Proofs.YtcnbllelfinlmaaDoor.Im

def IsRd (sz : Nat) (es : List AV) (v : AV) : Prop := (v = .nils ∧ es = []) ∨ ∃ c, v = .imm sz es c
theorem IsRd.len {sz : Nat} {es : List AV} {v : AV} (h : IsRd sz es v) : lenSl v = some es.length := by
  rcases h with ⟨rfl, rfl⟩ | ⟨c, rfl⟩ <;> rfl
theorem IsRd.imm {sz : Nat} {es : List AV} {v : AV} {i : Nat} (h : IsRd sz es v) (hi : i < es.length) : ∃ c, v = .imm sz es c := by
  rcases h with ⟨rfl, rfl⟩ | ⟨c, rfl⟩
  · exact absurd hi (Nat.not_lt_zero _)
  · exact ⟨c, rfl⟩
theorem isRd_app {sz : Nat} {es : List AV} {h : Hp} {v : AV} (hv : IsApp sz es h v) : IsRd sz es v := by
  rcases hv with h | h | ⟨id, h, _⟩
  · exact .inl h
  · exact .inr ⟨_, h⟩
  · exact .inr ⟨_, h⟩
abbrev By := List UInt8
theorem hg0 (h l : Hp) : (h ++ l)[h.length]? = l[0]? := by
  rw [List.getElem?_append_right (Nat.le_refl _), Nat.sub_self]
theorem hgk (h l : Hp) (k : Nat) : (h ++ l)[h.length + k]? = l[k]? := by
  rw [List.getElem?_append_right (by omega)]; congr 1; omega
theorem hs0 (h l : Hp) (o : AO) : (h ++ l).set h.length o = h ++ l.set 0 o := by
  rw [List.set_append_right _ _ (Nat.le_refl _), Nat.sub_self]
theorem hsk (h l : Hp) (k : Nat) (o : AO) : (h ++ l).set (h.length + k) o = h ++ l.set k o := by
  rw [List.set_append_right _ _ (by omega)]; congr 2; omega
def Below (lo : Nat) (h h' : Hp) : Prop := h.length ≤ h'.length ∧ ∀ i, i < lo → h'[i]? = h[i]?
theorem Below.refl (lo : Nat) (h : Hp) : Below lo h h := ⟨Nat.le_refl _, fun _ _ => rfl⟩
theorem Below.trans {lo : Nat} {a b c : Hp} (x : Below lo a b) (y : Below lo b c) : Below lo a c := ⟨Nat.le_trans x.1 y.1, fun i hi => (y.2 i hi).trans (x.2 i hi)⟩
theorem Below.low {lo lo' : Nat} {a b : Hp} (x : Below lo a b) (hl : lo' ≤ lo) : Below lo' a b := ⟨x.1, fun i hi => x.2 i (by omega)⟩
theorem Below.app (lo : Nat) (h m : Hp) (hl : lo ≤ h.length) : Below lo h (h ++ m) := ⟨by simp, fun i hi => List.getElem?_append_left (by omega)⟩
def LateApp (lo sz : Nat) (es : List AV) (h : Hp) (v : AV) : Prop := IsApp sz es h v ∧ ∀ id c, v = .imm sz es (.tok id c) → lo ≤ id
theorem late_app {lo sz bytes : Nat} {es xs : List AV} {h : Hp} {v : AV} (hv : LateApp lo sz es h v) (hlo : lo ≤ h.length) (hx : xs ≠ []) (hb : (es.length + xs.length) * bytes ≤ 140737488355328) :
    ∃ v' h', appendV false sz bytes v xs h = some (v', h') ∧ LateApp lo sz (es ++ xs) h' v' ∧ Below lo h h' := by
  obtain ⟨v', h', w1, w2, w3, w4, w5, c, w6⟩ := app_ok (bytes := bytes) hv.1 hx hb
  refine ⟨v', h', w1, ⟨w2, fun id c' e => ?_⟩, w4, fun i hi => ?_⟩
  · rw [w6] at e; cases e; exact hlo
  · have hlt : i < h.length := by omega
    have e : h[i]? = some h[i] := List.getElem?_eq_getElem hlt
    by_cases ht : ∃ c, v = .imm sz es (.tok i c)
    · obtain ⟨c', hc⟩ := ht
      have := hv.2 i c' hc
      omega
    · rw [e]; exact w5 i _ e fun c' hc => ht ⟨c', hc⟩
theorem late_nils (lo sz : Nat) (h : Hp) : LateApp lo sz [] h .nils := ⟨.nils _ _, fun _ _ e => by cases e⟩
theorem LateApp.keep {lo sz : Nat} {es : List AV} {h h' : Hp} {v : AV} (hv : LateApp lo sz es h v) (hk : ∀ (i : Nat) (o : AO), h[i]? = some o → h'[i]? = some o) : LateApp lo sz es h' v := by
  refine ⟨?_, hv.2⟩
  rcases hv.1 with h | h | ⟨id, h, e⟩
  · exact .inl h
  · exact .inr (.inl h)
  · exact .inr (.inr ⟨id, h, hk _ _ e⟩)
theorem rd_sub {sz : Nat} {es : List AV} {v : AV} (h : IsRd sz es v) (n : Nat) : sub v 0 n false = some v := by
  rcases h with ⟨e, _⟩ | ⟨c, e⟩ <;> rw [e] <;> rfl
theorem rd_nt {sz : Nat} {es : List AV} {v : AV} (h : IsRd sz es v) : v.notTup = true := by
  rcases h with ⟨e, _⟩ | ⟨c, e⟩ <;> rw [e] <;> rfl
theorem rd_cells {sz : Nat} {es : List AV} {v : AV} (h : IsRd sz es v) : v.cells = [v] := by
  rcases h with ⟨e, _⟩ | ⟨c, e⟩ <;> rw [e] <;> rfl
theorem rd_one {sz : Nat} {es : List AV} {v : AV} (h : IsRd sz es v) : v.one = true := by
  rcases h with ⟨e, _⟩ | ⟨c, e⟩ <;> rw [e] <;> rfl
theorem rd_el {sz : Nat} {es : List AV} {v : AV} (h : IsRd sz es v) (g : Hp) : elems g sz v = some es := by
  rcases h with ⟨e, e2⟩ | ⟨c, e⟩
  · rw [e, e2]; rfl
  · rw [e]; simp [elems]
def TokAt (sz : Nat) (es : List AV) (h : Hp) (v : AV) (tk : Option Nat) : Prop := IsApp sz es h v ∧ ∀ id c, v = .imm sz es (.tok id c) → tk = some id
theorem TokAt.keep {sz : Nat} {es : List AV} {h h' : Hp} {v : AV} {tk : Option Nat} (hv : TokAt sz es h v tk) (hk : ∀ (i : Nat) (o : AO), tk = some i → h[i]? = some o → h'[i]? = some o) : TokAt sz es h' v tk := by
  refine ⟨?_, hv.2⟩
  rcases hv.1 with h | h | ⟨id, h, e⟩
  · exact .inl h
  · exact .inr (.inl h)
  · exact .inr (.inr ⟨id, h, hk _ _ (hv.2 _ _ h) e⟩)
theorem f9 : F 9 = some (.inr yesG) := by kernel_rfl
theorem c9 {n : Nat} {tot : Bool} {ω : Nat → Nat} {h : Hp} (hn : 0 < n) : call F n tot ω 9 [] h = some (.bool true, h) := by
  obtain ⟨n, rfl⟩ : ∃ m, n = m + 1 := ⟨n - 1, by omega⟩
  rw [call_inr f9]; rfl
end Go.Proofs.YtcnbllelfinlmaaDoor.Im

/- S20Ap: a patch laid on a text: the reference. -/
set_option linter.unusedVariables false
set_option linter.unusedSimpArgs false
open Go Go.Im
namespace Go.Proofs.YtcnbllelfinlmaaDoor.Im

def piece (base : By) (most : Nat) (s : By) : PR By := match rdC s with
  | .err e => .err e
  | .ok n k => if n < 2 ∨ most < n / 2 then .err 3 else
    if n % 2 = 0 then (if (s.drop k).length < n / 2 then .err 2 else .ok ((s.drop k).take (n / 2)) (k + n / 2)) else
    match rdC (s.drop k) with
    | .err e => .err e
    | .ok a k2 => if base.length < a ∨ base.length - a < n / 2 then .err 3 else .ok ((base.drop a).take (n / 2)) (k + k2)
def goA (base : By) (size : Nat) : Nat → By → By → Int ⊕ (By × By)
  | 0, out, s => .inr (out, s)
  | m + 1, out, s => if size ≤ out.length then .inr (out, s) else
    match piece base (size - out.length) s with
    | .err e => .inl e
    | .ok t k => goA base size m (out ++ t) (s.drop k)
def finA : Int ⊕ (By × By) → Int ⊕ By
  | .inl e => .inl e
  | .inr (out, rest) => if rest = [] then .inr out else .inl 5
def apply (base patch : By) : Int ⊕ By := match rdC patch with
  | .err e => .inl e
  | .ok size k => if 4096 < size then .inl 6 else finA (goA base size size [] (patch.drop k))
def apAV : Int ⊕ By → AV
  | .inl e => .tup [.str [], .int .i64 e]
  | .inr b => .tup [.str b, .int .i64 0]
theorem piece_len {base s t : By} {most k : Nat} (h : piece base most s = .ok t k) : 0 < t.length ∧ t.length ≤ most ∧ k ≤ s.length := by
  unfold piece at h
  cases hc : rdC s with
  | err e => rw [hc] at h; cases h
  | ok n k1 =>
    rw [hc] at h
    have hb := dec_ok (rdC_ok hc)
    dsimp only at h
    split at h
    · cases h
    split at h
    · split at h
      · cases h
      · injection h with h1 h2
        subst h1 h2
        simp at *
        omega
    · cases hc2 : rdC (s.drop k1) with
      | err e => rw [hc2] at h; cases h
      | ok a k2 =>
        rw [hc2] at h
        have hb2 := dec_ok (rdC_ok hc2)
        dsimp only at h
        split at h
        · cases h
        · injection h with h1 h2
          subst h1 h2
          simp at *
          omega
theorem td2 (x : Nat) : ((x : Nat) : Int).tdiv 2 = ((x / 2 : Nat) : Int) := rfl
theorem tm2 (x : Nat) : ((x : Nat) : Int).tmod 2 = ((x % 2 : Nat) : Int) := rfl

section
variable {n : Nat} {tot : Bool} {ω : Nat → Nat}
set_option maxRecDepth 100000 in
set_option maxHeartbeats 2000000 in
theorem c84 (base patch : By) (h : Hp) (hb : base.length ≤ 1000000) (hp : patch.length ≤ 1000000) (hn : patch.length + 5000 < n) : call F n tot ω 84 [.str base, .str patch] h = some (apAV (apply base patch), h) := by
  obtain ⟨n, rfl⟩ : ∃ m, n = m + 1 := ⟨n - 1, by omega⟩
  refine call_eq (fn := a84) f84 ?_
  unfold a84 apply
  have r1 := c61 (tot := tot) (ω := ω) (n := n) patch h (by omega) (by omega)
  cases hc : rdC patch with
  | err e =>
    rw [hc] at r1
    unfold rdCAV at r1
    have he : (e != 0) = true := by
      rcases rdC_err hc with ⟨_, rfl | rfl⟩ | ⟨rfl, _⟩ <;> rfl
    simp (maxSteps := 2000000) (discharger := omega) only [xc,xo,xr,x0,x1,x3,xd,kont_call,Reg.isA,Reg.isV,Reg.stays,Reg.onto,Bool.or_false,Bool.and_false,↓reduceIte,reduceCtorEq,Nat.reduceEqDiff,Nat.reduceLT,Nat.reduceAdd,Nat.zero_add,Nat.not_lt_zero,Nat.zero_ne_one,Nat.one_ne_zero,Bool.false_eq_true,Option.map_some,and_true,List.any_nil,List.any_cons,Option.some.injEq,exists_eq_left',List.getElem?_cons_zero,List.getElem?_cons_succ,r1,he,apAV]
  | ok size k =>
    rw [hc] at r1
    unfold rdCAV at r1
    have hb1 := dec_ok (rdC_ok hc)
    have he : ((0 : Int) != 0) = false := rfl
    by_cases h40 : 4096 < size
    · have h4 : ((size : Nat) : Int) > 4096 := by omega
      simp (maxSteps := 2000000) (discharger := omega) only [xc,xo,xr,x0,x1,x3,xd,kont_call,Reg.isA,Reg.isV,Reg.stays,Reg.onto,Bool.or_false,Bool.and_false,↓reduceIte,reduceCtorEq,Nat.reduceEqDiff,Nat.reduceLT,Nat.reduceAdd,Nat.zero_add,Nat.not_lt_zero,Nat.zero_ne_one,Nat.one_ne_zero,Bool.false_eq_true,Option.map_some,and_true,List.any_nil,List.any_cons,Option.some.injEq,exists_eq_left',decide_true,List.getElem?_cons_zero,List.getElem?_cons_succ,r1,he,h4,h40,apAV]
    · have h4 : ¬ ((size : Nat) : Int) > 4096 := by omega
      dsimp only
      rw [if_neg h40]
      generalize hR : finA (goA base size size [] (patch.drop k)) = R
      simp (maxSteps := 2000000) (discharger := omega) only [xc,xo,xr,x0,x1,x3,xd,kont_call,Reg.isA,Reg.isV,Reg.stays,Reg.onto,Bool.or_false,Bool.and_false,↓reduceIte,reduceCtorEq,Nat.reduceEqDiff,Nat.reduceLT,Nat.reduceAdd,Nat.zero_add,Nat.not_lt_zero,Nat.zero_ne_one,Nat.one_ne_zero,Bool.false_eq_true,Option.map_some,List.any_nil,List.any_cons,decide_false,List.getElem?_cons_zero,List.getElem?_cons_succ,r1,he,h4]
      refine wpi_loop (fun m r g => ∃ (i : Nat) (out : By), r = [(0, .val (.str base)), (1, .val (.str patch)), (6, .val (.int .i64 size)), (7, .val (.int .i64 i)), (9, .val (.str out))] ∧ i ≤ patch.length ∧ size ≤ out.length + m ∧ out.length ≤ size ∧ finA (goA base size m out (patch.drop i)) = R ∧ g = h) size (by omega) ⟨k, [], rfl, by omega, by simp, by simp, hR, rfl⟩ ?_
      clear hR
      rintro m r g ⟨i, out, rfl, hi, hm, ho, hd, rfl⟩
      by_cases hlt : out.length < size
      · obtain ⟨m, rfl⟩ : ∃ m', m = m' + 1 := ⟨m - 1, by omega⟩
        have hlt' : ((out.length : Nat) : Int) < (size : Int) := by omega
        have hi' : ((i : Nat) : Int) ≤ (patch.length : Int) := by omega
        have ht : List.take patch.length patch = patch := List.take_length
        have r2 := c61 (tot := tot) (ω := ω) (n := n) (patch.drop i) g (by simp; omega) (by simp; omega)
        unfold goA at hd
        rw [if_neg (by omega)] at hd
        have hpl : ∀ t k, _ → _ := fun t k => @piece_len base (patch.drop i) t (size - out.length) k
        unfold piece at hd hpl
        cases hc2 : rdC (patch.drop i) with
        | err e =>
          rw [hc2] at r2 hd
          unfold rdCAV at r2
          have he2 : (e != 0) = true := by
            rcases rdC_err hc2 with ⟨_, rfl | rfl⟩ | ⟨rfl, _⟩ <;> rfl
          dsimp only at hd
          subst hd
          simp (maxSteps := 2000000) (discharger := omega) only [xc,xo,xr,x0,x1,x3,x4,xd,kont_call,slOk,sliceV,Reg.isA,Reg.isV,Reg.stays,Reg.onto,Bool.or_false,Bool.and_false,↓reduceIte,reduceCtorEq,Nat.reduceEqDiff,Nat.reduceLT,Nat.not_lt_zero,Nat.zero_ne_one,Nat.one_ne_zero,Bool.false_eq_true,Option.map_some,Option.getD_none,and_self,and_true,List.any_nil,List.any_cons,Int.toNat_natCast,Int.natCast_nonneg,Option.some.injEq,exists_eq_left',decide_true,List.getElem?_cons_zero,List.getElem?_cons_succ,hlt',hi',ht,Int.le_refl,r2,he2,apAV,finA]
        | ok x k2 =>
          rw [hc2] at r2 hd
          rw [hc2] at hpl
          unfold rdCAV at r2
          have hb2 := dec_ok (rdC_ok hc2)
          dsimp only at hd hpl
          have hdl : (patch.drop i).length = patch.length - i := by simp
          have q2 := td2 x
          have m2 := tm2 x
          have he : ((0 : Int) != 0) = false := rfl
          by_cases A : x < 2 ∨ size - out.length < x / 2
          · rw [if_pos A] at hd
            dsimp only at hd
            subst hd
            by_cases A0 : x = 0
            · subst A0
              have a0 : ((((0 : Nat) : Int)) == 0) = true := rfl
              simp (maxSteps := 2000000) (discharger := omega) only [xc,xo,xr,x0,x1,x3,x4,xd,xb,kont_call,slOk,sliceV,Reg.isA,Reg.isV,Reg.stays,Reg.onto,Bool.or_false,Bool.and_false,↓reduceIte,reduceCtorEq,Nat.reduceEqDiff,Nat.reduceLT,Nat.not_lt_zero,Nat.zero_ne_one,Nat.one_ne_zero,Nat.lt_irrefl,Bool.false_eq_true,Option.map_some,Option.getD_none,and_self,and_true,List.any_nil,List.any_cons,Int.toNat_natCast,Int.cast_ofNat_Int,Int.natCast_nonneg,beq_self_eq_true,Option.some.injEq,exists_eq_left',decide_true,List.getElem?_cons_zero,List.getElem?_cons_succ,wrap_i64,hlt',hi',ht,Int.le_refl,r2,he,apAV,finA]
            · have a0 : (((x : Nat) : Int) == 0) = false := by simp; omega
              by_cases A1 : x = 1
              · have a1 : (((x : Nat) : Int) == 1) = true := by simp; omega
                simp (maxSteps := 2000000) (discharger := omega) only [xc,xo,xr,x0,x1,x3,x4,xd,xb,kont_call,slOk,sliceV,Reg.isA,Reg.isV,Reg.stays,Reg.onto,Bool.or_false,Bool.and_false,↓reduceIte,reduceCtorEq,Nat.reduceEqDiff,Nat.reduceLT,Nat.not_lt_zero,Nat.zero_ne_one,Nat.one_ne_zero,Nat.lt_irrefl,Bool.false_eq_true,Option.map_some,Option.getD_none,and_self,and_true,List.any_nil,List.any_cons,Int.toNat_natCast,Int.natCast_nonneg,beq_self_eq_true,Option.some.injEq,exists_eq_left',decide_true,List.getElem?_cons_zero,List.getElem?_cons_succ,wrap_i64,hlt',hi',ht,Int.le_refl,r2,he,a0,a1,apAV,finA]
              · have a1 : (((x : Nat) : Int) == 1) = false := by simp; omega
                have a2 : ((x / 2 : Nat) : Int) > (size : Int) - (out.length : Int) := by omega
                simp (maxSteps := 2000000) (discharger := omega) only [xc,xo,xr,x0,x1,x3,x4,xd,kont_call,slOk,sliceV,Reg.isA,Reg.isV,Reg.stays,Reg.onto,Bool.or_false,Bool.and_false,↓reduceIte,reduceCtorEq,Nat.reduceEqDiff,Nat.reduceLT,Nat.not_lt_zero,Nat.zero_ne_one,Nat.one_ne_zero,Nat.lt_irrefl,Bool.false_eq_true,Option.map_some,Option.getD_none,and_self,and_true,List.any_nil,List.any_cons,Int.toNat_natCast,Int.natCast_nonneg,beq_self_eq_true,Option.some.injEq,exists_eq_left',Int.reduceEq,decide_true,List.getElem?_cons_zero,List.getElem?_cons_succ,wrap_i64,hlt',hi',ht,Int.le_refl,r2,he,a0,a1,q2,a2,apAV,finA]
          · rw [if_neg A] at hd hpl
            have a0 : (((x : Nat) : Int) == 0) = false := by simp; omega
            have a1 : (((x : Nat) : Int) == 1) = false := by simp; omega
            have a2 : ¬ ((x / 2 : Nat) : Int) > (size : Int) - (out.length : Int) := by omega
            have hik : ((i + k2 : Nat) : Int) ≤ (patch.length : Int) := by omega
            have hdk : (patch.drop i).drop k2 = patch.drop (i + k2) := by rw [List.drop_drop]
            have ad : (i : Int) + (k2 : Int) = ((i + k2 : Nat) : Int) := by omega
            by_cases B : x % 2 = 0
            · rw [if_pos B] at hd hpl
              have b1 : (((x % 2 : Nat) : Int) == 0) = true := by rw [B]; rfl
              by_cases C : ((patch.drop i).drop k2).length < x / 2
              · rw [if_pos C] at hd
                dsimp only at hd
                subst hd
                rw [hdk] at C
                have c1 : (patch.length : Int) - ((i + k2 : Nat) : Int) < ((x / 2 : Nat) : Int) := by simp at C; omega
                simp (maxSteps := 2000000) (discharger := omega) only [xc,xo,xr,x0,x1,x3,x4,xd,kont_call,slOk,sliceV,Reg.isA,Reg.isV,Reg.stays,Reg.onto,Bool.or_false,Bool.and_false,↓reduceIte,reduceCtorEq,Nat.reduceEqDiff,Nat.reduceLT,Nat.not_lt_zero,Nat.zero_ne_one,Nat.one_ne_zero,Nat.lt_irrefl,Bool.false_eq_true,Option.map_some,Option.getD_none,and_self,and_true,List.any_nil,List.any_cons,Int.toNat_natCast,Int.natCast_nonneg,beq_self_eq_true,Option.some.injEq,exists_eq_left',Int.reduceEq,decide_true,decide_false,List.getElem?_cons_zero,List.getElem?_cons_succ,wrap_i64,hlt',hi',ht,Int.le_refl,r2,he,a0,a1,q2,a2,ad,b1,m2,c1,apAV,finA]
              · rw [if_neg C] at hd hpl
                have hpl := hpl _ _ rfl
                dsimp only at hd
                rw [hdk] at C hd
                have c1 : ¬ (patch.length : Int) - ((i + k2 : Nat) : Int) < ((x / 2 : Nat) : Int) := by simp at C; omega
                have c2 : ((x / 2 : Nat) : Int) ≤ (((patch.drop (i + k2)).length : Nat) : Int) := by omega
                have c3 : ((i + k2 : Nat) : Int) + ((x / 2 : Nat) : Int) = ((i + k2 + x / 2 : Nat) : Int) := by omega
                have lo : out.length + (List.take (x / 2) (List.drop (i + k2) patch)).length ≤ 9223372036854775807 := by rw [hdk] at hpl; omega
                simp (maxSteps := 2000000) (discharger := omega) only [xc,xo,xr,x0,x1,x3,x4,xd,kont_call,slOk,sliceV,List.drop_zero,Reg.isA,Reg.isV,Reg.stays,Reg.onto,Bool.or_false,Bool.and_false,↓reduceIte,reduceCtorEq,Nat.reduceEqDiff,Nat.reduceLT,Nat.not_lt_zero,Nat.zero_ne_one,Nat.one_ne_zero,Nat.lt_irrefl,Bool.false_eq_true,Option.map_some,Option.getD_some,Option.getD_none,and_self,and_true,List.any_nil,List.any_cons,Int.toNat_natCast,Int.natCast_nonneg,beq_self_eq_true,Int.reduceEq,Int.reduceToNat,decide_true,decide_false,List.getElem?_cons_zero,List.getElem?_cons_succ,wrap_i64,hlt',hi',ht,Int.le_refl,r2,he,a0,a1,q2,a2,ad,b1,m2,c1,hik,c2,c3,lo]
                rw [hdk] at hpl
                have hpl1 := List.length_append (as := out) (bs := List.take (x / 2) (List.drop (i + k2) patch))
                exact ⟨m, by omega, i + k2 + x / 2, _, rfl, by simp at C; omega, by omega, by omega, by rw [List.drop_drop] at hd; rw [Nat.add_assoc]; exact hd⟩
            · rw [if_neg B] at hd hpl
              have b1 : (((x % 2 : Nat) : Int) == 0) = false := by simp; omega
              have r3 := c61 (tot := tot) (ω := ω) (n := n) (patch.drop (i + k2)) g (by simp; omega) (by simp; omega)
              rw [hdk] at hd hpl
              cases hc3 : rdC (patch.drop (i + k2)) with
              | err e =>
                rw [hc3] at r3 hd
                unfold rdCAV at r3
                have he2 : (e != 0) = true := by
                  rcases rdC_err hc3 with ⟨_, rfl | rfl⟩ | ⟨rfl, _⟩ <;> rfl
                dsimp only at hd
                subst hd
                simp (maxSteps := 2000000) (discharger := omega) only [xc,xo,xr,x0,x1,x3,x4,xd,kont_call,slOk,sliceV,Reg.isA,Reg.isV,Reg.stays,Reg.onto,Bool.or_false,Bool.and_false,↓reduceIte,reduceCtorEq,Nat.reduceEqDiff,Nat.reduceLT,Nat.not_lt_zero,Nat.zero_ne_one,Nat.one_ne_zero,Nat.lt_irrefl,Bool.false_eq_true,Option.map_some,Option.getD_none,and_self,and_true,List.any_nil,List.any_cons,Int.toNat_natCast,Int.natCast_nonneg,beq_self_eq_true,Option.some.injEq,exists_eq_left',Int.reduceEq,decide_true,decide_false,List.getElem?_cons_zero,List.getElem?_cons_succ,wrap_i64,hlt',hi',ht,Int.le_refl,r2,he,a0,a1,q2,a2,ad,b1,m2,hik,r3,he2,apAV,finA]
              | ok a k3 =>
                rw [hc3] at r3 hd
                rw [hc3] at hpl
                unfold rdCAV at r3
                have hb3 := dec_ok (rdC_ok hc3)
                have hdl3 : (patch.drop (i + k2)).length = patch.length - (i + k2) := by simp
                dsimp only at hd hpl
                have ad3 : ((i + k2 : Nat) : Int) + (k3 : Int) = ((i + k2 + k3 : Nat) : Int) := by omega
                by_cases D : base.length < a ∨ base.length - a < x / 2
                · rw [if_pos D] at hd
                  dsimp only at hd
                  subst hd
                  by_cases D1 : base.length < a
                  · have d1 : ((a : Nat) : Int) > (base.length : Int) := by omega
                    simp (maxSteps := 2000000) (discharger := omega) only [xc,xo,xr,x0,x1,x3,x4,xd,xb,kont_call,slOk,sliceV,Reg.isA,Reg.isV,Reg.stays,Reg.onto,Bool.or_false,Bool.and_false,↓reduceIte,reduceCtorEq,Nat.reduceEqDiff,Nat.reduceLT,Nat.not_lt_zero,Nat.zero_ne_one,Nat.one_ne_zero,Nat.lt_irrefl,Bool.false_eq_true,Option.map_some,Option.getD_none,and_self,and_true,List.any_nil,List.any_cons,Int.toNat_natCast,Int.natCast_nonneg,beq_self_eq_true,Option.some.injEq,exists_eq_left',Int.reduceEq,decide_true,decide_false,List.getElem?_cons_zero,List.getElem?_cons_succ,wrap_i64,hlt',hi',ht,Int.le_refl,r2,he,a0,a1,q2,a2,ad,b1,m2,hik,r3,ad3,d1,apAV,finA]
                  · have d1 : ¬ ((a : Nat) : Int) > (base.length : Int) := by omega
                    have d2 : (base.length : Int) - (a : Int) < ((x / 2 : Nat) : Int) := by omega
                    simp (maxSteps := 2000000) (discharger := omega) only [xc,xo,xr,x0,x1,x3,x4,xd,kont_call,slOk,sliceV,Reg.isA,Reg.isV,Reg.stays,Reg.onto,Bool.or_false,Bool.and_false,↓reduceIte,reduceCtorEq,Nat.reduceEqDiff,Nat.reduceLT,Nat.not_lt_zero,Nat.zero_ne_one,Nat.one_ne_zero,Nat.lt_irrefl,Bool.false_eq_true,Option.map_some,Option.getD_none,and_self,and_true,List.any_nil,List.any_cons,Int.toNat_natCast,Int.natCast_nonneg,beq_self_eq_true,Option.some.injEq,exists_eq_left',Int.reduceEq,decide_true,decide_false,List.getElem?_cons_zero,List.getElem?_cons_succ,wrap_i64,hlt',hi',ht,Int.le_refl,r2,he,a0,a1,q2,a2,ad,b1,m2,hik,r3,ad3,d1,d2,apAV,finA]
                · rw [if_neg D] at hd hpl
                  have hpl := hpl _ _ rfl
                  dsimp only at hd
                  have d1 : ¬ ((a : Nat) : Int) > (base.length : Int) := by omega
                  have d2 : ¬ (base.length : Int) - (a : Int) < ((x / 2 : Nat) : Int) := by omega
                  have d3 : ((a : Nat) : Int) ≤ (base.length : Int) := by omega
                  have d4 : ((x / 2 : Nat) : Int) ≤ (((base.drop a).length : Nat) : Int) := by simp; omega
                  have htb : List.take base.length base = base := List.take_length
                  have lo : out.length + (List.take (x / 2) (List.drop a base)).length ≤ 9223372036854775807 := by omega
                  simp (maxSteps := 2000000) (discharger := omega) only [xc,xo,xr,x0,x1,x3,x4,xd,kont_call,slOk,sliceV,List.drop_zero,Reg.isA,Reg.isV,Reg.stays,Reg.onto,Bool.or_false,Bool.and_false,↓reduceIte,reduceCtorEq,Nat.reduceEqDiff,Nat.reduceLT,Nat.not_lt_zero,Nat.zero_ne_one,Nat.one_ne_zero,Nat.lt_irrefl,Bool.false_eq_true,Option.map_some,Option.getD_some,Option.getD_none,and_self,and_true,List.any_nil,List.any_cons,Int.toNat_natCast,Int.natCast_nonneg,beq_self_eq_true,Int.reduceEq,Int.reduceToNat,decide_true,decide_false,List.getElem?_cons_zero,List.getElem?_cons_succ,wrap_i64,hlt',hi',ht,htb,Int.le_refl,r2,he,a0,a1,q2,a2,ad,b1,m2,hik,r3,ad3,d1,d2,d3,d4,lo]
                  have hpl1 := List.length_append (as := out) (bs := List.take (x / 2) (List.drop a base))
                  exact ⟨m, by omega, i + k2 + k3, _, rfl, by omega, by omega, by omega, by rw [List.drop_drop] at hd; rw [Nat.add_assoc]; exact hd⟩
      · have hlt' : ¬ ((out.length : Nat) : Int) < (size : Int) := by omega
        have hd2 : finA (.inr (out, patch.drop i)) = R := by
          cases m with
          | zero => exact hd
          | succ m => unfold goA at hd; rw [if_pos (by omega)] at hd; exact hd
        unfold finA at hd2
        by_cases hr : i < patch.length
        · have hr' : ((i : Nat) : Int) < (patch.length : Int) := by omega
          have : patch.drop i ≠ [] := by simp; omega
          dsimp only at hd2
          rw [if_neg this] at hd2
          subst hd2
          simp (maxSteps := 2000000) (discharger := omega) only [xc,xo,xr,x0,x1,x4,xd,Reg.isA,Reg.isV,Reg.stays,Reg.onto,Bool.or_false,Bool.and_false,↓reduceIte,reduceCtorEq,Nat.reduceEqDiff,Nat.reduceLT,Nat.not_lt_zero,Nat.zero_ne_one,Nat.one_ne_zero,Bool.false_eq_true,Option.map_some,and_true,List.any_nil,List.any_cons,Option.some.injEq,exists_eq_left',decide_true,decide_false,hlt',hr',apAV]
        · have hr' : ¬ ((i : Nat) : Int) < (patch.length : Int) := by omega
          have : patch.drop i = [] := by simp; omega
          dsimp only at hd2
          rw [if_pos this] at hd2
          subst hd2
          simp (maxSteps := 2000000) (discharger := omega) only [xc,xo,xr,x0,x1,x4,xd,Reg.isA,Reg.isV,Reg.stays,Reg.onto,Bool.or_false,Bool.and_false,↓reduceIte,reduceCtorEq,Nat.reduceEqDiff,Nat.reduceLT,Nat.not_lt_zero,Nat.zero_ne_one,Nat.one_ne_zero,Bool.false_eq_true,Option.map_some,and_true,List.any_nil,List.any_cons,Option.some.injEq,exists_eq_left',decide_false,hlt',hr',apAV]
end
end Go.Proofs.YtcnbllelfinlmaaDoor.Im

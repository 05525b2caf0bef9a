/- Joined: S21Ru, S21Rv, S21Le, S21Cd, S21Eq. -/
import Derived.Test.YtpgmohjmpaifbaaDoorRs
import Derived.Test.YtpgmohjmpaifbaaDoorImRng
/- S21Ru: the reference's digest. -/
set_option linter.unusedVariables false
set_option linter.unusedSimpArgs false
open Go Go.Im
namespace Go.Proofs.YtpgmohjmpaifbaaDoor.Im

def byt (p : By) (j : Nat) : Int := ((p.getD j 0).toNat : Nat)
def wordR (p : By) (at' i : Nat) : Nat → Int
  | 0 => 0
  | k + 1 => add32 (IntKind.u32.wrap (wordR p at' i k * 256)) (byt p (at' + 4 * i + k))
def div32 (x : Int) (k : Int) : Int := IntKind.u32.wrap (x.tdiv k)
def wRNext (p : By) (at' : Nat) (w : List Int) (i : Nat) : Int :=
  if i < 16 then wordR p at' i 4 else
    add32 (add32 (add32 (w.getD (i - 16) 0) (xor32 (xor32 (turnI (w.getD (i - 15) 0) 7) (turnI (w.getD (i - 15) 0) 18)) (div32 (w.getD (i - 15) 0) 8))) (w.getD (i - 7) 0))
      (xor32 (xor32 (turnI (w.getD (i - 2) 0) 17) (turnI (w.getD (i - 2) 0) 19)) (div32 (w.getD (i - 2) 0) 1024))
def wRList (p : By) (at' : Nat) : Nat → List Int
  | 0 => []
  | i + 1 => wRList p at' i ++ [wRNext p at' (wRList p at' i) i]
def oneR (s : S8) (k x : Int) : Int :=
  add32 (add32 (add32 (add32 s.h (xor32 (xor32 (turnI s.e 6) (turnI s.e 11)) (turnI s.e 25))) (xor32 (and32 s.e s.f) (and32 (IntKind.u32.wrap (4294967295 - s.e)) s.g))) k) x
def twoR (s : S8) : Int :=
  add32 (xor32 (xor32 (turnI s.a 2) (turnI s.a 13)) (turnI s.a 22)) (xor32 (xor32 (and32 s.a s.b) (and32 s.a s.c)) (and32 s.b s.c))
def rndR (s : S8) (k x : Int) : S8 := ⟨add32 (oneR s k x) (twoR s), s.a, s.b, s.c, add32 s.d (oneR s k x), s.e, s.f, s.g⟩
def rndsR (w : List Int) (s : S8) : Nat → S8
  | 0 => s
  | i + 1 => rndR (rndsR w s i) (roundsZ.getD i 0) (w.getD i 0)
def blkR (s : S8) (p : By) (at' : Nat) : S8 := addS s (rndsR (wRList p at' 64) s 64)
def s0 : S8 := ⟨1779033703, 3144134277, 1013904242, 2773480762, 1359893119, 2600822924, 528734635, 1541459225⟩
def blksR (p : By) : Nat → S8
  | 0 => s0
  | m + 1 => blkR (blksR p m) p (64 * m)

theorem wRList_len (p : By) (a : Nat) : ∀ i, (wRList p a i).length = i
  | 0 => rfl
  | i + 1 => by simp [wRList,wRList_len p a i]

theorem io_get' {k : IntKind} {l : List Int} {j : Nat} (hj : j < l.length) : (intsOf k l)[j]? = some (.int k (l.getD j 0)) := by
  simp [intsOf,hj,List.getD]
theorem io_set' (k : IntKind) (l : List Int) (j : Nat) (v : Int) : (intsOf k l).set j (.int k v) = intsOf k (l.set j v) := by simp [intsOf,List.map_set]
theorem io_len' (k : IntKind) (l : List Int) : (intsOf k l).length = l.length := by simp [intsOf]
theorem nat_lt_t' {a b : Nat} (h : a < b) : (a < b) = True := eq_true h
theorem set_getD' (l : List Int) (i j : Nat) (v : Int) (hi : i < l.length) : (l.set i v).getD j 0 = if j = i then v else l.getD j 0 := by
  by_cases e : j = i
  · subst e; simp [List.getD,hi]
  · rw [if_neg e]; simp [List.getD,List.getElem?_set_ne (Ne.symm e)]

section
variable {n : Nat} {tot : Bool} {ω : Nat → Nat} {h : Hp}

theorem c83 : call F (n + 1) tot ω 83 [] h = some (.imm 1 (intsOf .u32 roundsZ) .full, h) := by kernel_rfl

theorem w_r53a (p : By) (a i : Nat) (V2 v3 v4 v7 : AV) (hp : a + 4 * i + 4 ≤ p.length) (hpl : p.length ≤ 2000000000) (hn : 5 < n) :
    Wp (kont F n tot ω) n r53a [(2, .var V2), (3, .val v3), (4, .val v4), (5, .val (.str p)), (6, .val (.int .i64 a)), (7, .val v7), (8, .val (.int .i64 i)), (9, .val (.int .u32 0))] h fun e r' h' => e = .normal ∧ h' = h ∧
      r' = [(2, .var V2), (3, .val v3), (4, .val v4), (5, .val (.str p)), (6, .val (.int .i64 a)), (7, .val v7), (8, .val (.int .i64 i)), (9, .val (.int .u32 (wordR p a i 4))), (10, .val (.int .i64 4)), (47, .val (.bool false))] := by
  unfold r53a
  simp (maxSteps := 2000000) (discharger := omega) only [xz,xc,xo,xr,x0,Reg.isA,Reg.isV,Reg.stays,Reg.onto,↓reduceIte,Nat.reduceEqDiff,Nat.reduceLT]
  refine wpi_loop (fun x r g => ∃ (k : Nat), r = [(2, .var V2), (3, .val v3), (4, .val v4), (5, .val (.str p)), (6, .val (.int .i64 a)), (7, .val v7), (8, .val (.int .i64 i)), (9, .val (.int .u32 (wordR p a i k))), (10, .val (.int .i64 k))] ∧ x = 4 - k ∧ k ≤ 4 ∧ g = h) 4 (by omega)
    ⟨0, rfl, rfl, by omega, rfl⟩ ?_
  rintro x r g ⟨k, rfl, rfl, hk, rfl⟩
  by_cases hk4 : k < 4
  · have e1 : ((a : Int) + 4 * (i : Int) + (k : Int)).toNat = a + 4 * i + k := by omega
    have hlt : a + 4 * i + k < p.length := by omega
    have q1 : p[a + 4 * i + k]? = some p[a + 4 * i + k] := List.getElem?_eq_getElem hlt
    have hb : p[a + 4 * i + k].toNat < 256 := p[a + 4 * i + k].toNat_lt
    have e2 : byt p (a + 4 * i + k) = ((p[a + 4 * i + k].toNat : Nat) : Int) := by unfold byt; simp [List.getD,hlt]
    simp (maxSteps := 2000000) (discharger := omega) only [xz,xc,xo,xr,x0,x1,x2,xd,Reg.isA,Reg.isV,Reg.stays,Reg.onto,↓reduceIte,Nat.reduceEqDiff,Nat.reduceLT,wrap_i64,int_lt_t,int_le_t,e1,q1,wrap_u32]
    refine ⟨4 - (k + 1), by omega, k + 1, ?_, rfl, by omega⟩
    rw [show ((k : Nat) : Int) + 1 = ((k + 1 : Nat) : Int) by omega, ← e2]; rfl
  · obtain rfl : k = 4 := by omega
    simp (maxSteps := 2000000) (discharger := omega) only [xz,xc,xo,xr,x0,x1,xd,Reg.isA,Reg.isV,Reg.stays,Reg.onto,↓reduceIte,Nat.reduceEqDiff,Nat.reduceLT,Int.cast_ofNat_Int,int_lt_f,Nat.sub_self]

theorem w_r53b (p : By) (a i lo id : Nat) (W : List Int) (V2 v3 v4 : AV) (hW : W.length = i) (hi : 16 ≤ i) (hi2 : i < 64) (hid : h[id]? = some (.row 1 (intsOf .u32 W))) (hlo : lo ≤ id) (hn : 50 < n) :
    Wp (kont F n tot ω) n r53b [(2, .var V2), (3, .val v3), (4, .val v4), (5, .val (.str p)), (6, .val (.int .i64 a)), (7, .val (.row id 1 0 i false)), (8, .val (.int .i64 i)), (45, .val (.bool false))] h fun e r' h' => e = .normal ∧
      ∃ v', r' = [(2, .var V2), (3, .val v3), (4, .val v4), (5, .val (.str p)), (6, .val (.int .i64 a)), (7, .val v'), (8, .val (.int .i64 i))] ∧ RowEx h' 1 lo (intsOf .u32 (W ++ [wRNext p a W i])) v' ∧ KeepR lo 1 h h' := by
  have hlt := (List.getElem?_eq_some_iff.1 hid).1
  obtain ⟨x, hx⟩ : ∃ x, x = wRNext p a W i := ⟨_, rfl⟩
  have hr : RowEx (h ++ [.row 1 [.int .u32 x]]) 1 lo (intsOf .u32 W) (.row id 1 0 i false) := .inr ⟨id, by rw [io_len', hW], by rw [List.getElem?_append_left hlt]; exact hid, hlo⟩
  obtain ⟨v', h2, w1, w2, w3⟩ := row_appx (bytes := 4) (xs := [.int .u32 x]) hr (by rw [io_len']; simp; omega) (by simp; omega)
  have e2 : ((i : Int) - 2).toNat = i - 2 := by omega
  have e7 : ((i : Int) - 7).toNat = i - 7 := by omega
  have e15 : ((i : Int) - 15).toNat = i - 15 := by omega
  have e16 : ((i : Int) - 16).toNat = i - 16 := by omega
  have k1 := fun x => c85 (n := n) (tot := false) (ω := fun _ => 0) (h := []) x 7 (by omega) (by omega)
  have k2 := fun x => c85 (n := n) (tot := false) (ω := fun _ => 0) (h := []) x 18 (by omega) (by omega)
  have k3 := fun x => c85 (n := n) (tot := false) (ω := fun _ => 0) (h := []) x 17 (by omega) (by omega)
  have k4 := fun x => c85 (n := n) (tot := false) (ω := fun _ => 0) (h := []) x 19 (by omega) (by omega)
  simp only [Int.cast_ofNat_Int] at k1 k2 k3 k4
  have hx' := hx
  unfold wRNext at hx'
  rw [if_neg (by omega)] at hx'
  simp only [add32,xor32,div32] at hx'
  unfold r53b
  simp (maxSteps := 2000000) (discharger := omega) only [xz,xc,xo,xr,x0,x1,x5,xd,xe,xb,kont_pure,selems,srcElems,partEs,placeEs,Reg.isA,Reg.isV,Reg.stays,Reg.onto,↓reduceIte,Nat.reduceEqDiff,Nat.reduceLT,Nat.zero_lt_succ,List.set_cons_zero,wrap_i64,int_lt_t,int_le_t,int_eq_f,nat_le_t,e2,e7,e15,e16,k1,k2,k3,k4,hid,io_get',← hx',hg0,w1,List.replicate,List.set_cons_zero]
  refine ⟨v', rfl, ?_, (KeepR.app _).trans w3⟩
  rw [← hx]
  simpa [intsOf] using w2

def R8 (s : S8) : Regs := [(13, .val (.int .u32 s.a)), (14, .val (.int .u32 s.b)), (15, .val (.int .u32 s.c)), (16, .val (.int .u32 s.d)), (17, .val (.int .u32 s.e)), (18, .val (.int .u32 s.f)), (19, .val (.int .u32 s.g)), (20, .val (.int .u32 s.h))]

set_option maxRecDepth 100000 in
set_option maxHeartbeats 1000000 in
theorem w_r53c (p : By) (a id : Nat) (W : List Int) (s : S8) (V2 v3 : AV) (c4 : Cap) (hW : W.length = 64) (hid : h[id]? = some (.row 1 (intsOf .u32 W))) (hn : 70 < n) :
    Wp (kont F n tot ω) n r53c ([(2, .var V2), (3, .val v3), (4, .val (.imm 1 (intsOf .u32 roundsZ) c4)), (5, .val (.str p)), (6, .val (.int .i64 a)), (7, .val (.row id 1 0 64 false))] ++ R8 s) h fun e r' h' => e = .normal ∧ h' = h ∧
      r' = [(2, .var V2), (3, .val v3), (4, .val (.imm 1 (intsOf .u32 roundsZ) c4)), (5, .val (.str p)), (6, .val (.int .i64 a)), (7, .val (.row id 1 0 64 false))] ++ (R8 (rndsR W s 64) ++ [(21, .val (.int .i64 64)), (149, .val (.bool false))]) := by
  have hR : roundsZ.length = 64 := rfl
  have k1 := fun x => c85 (n := n) (tot := false) (ω := fun _ => 0) (h := []) x 6 (by omega) (by omega)
  have k2 := fun x => c85 (n := n) (tot := false) (ω := fun _ => 0) (h := []) x 11 (by omega) (by omega)
  have k3 := fun x => c85 (n := n) (tot := false) (ω := fun _ => 0) (h := []) x 25 (by omega) (by omega)
  have k4 := fun x => c85 (n := n) (tot := false) (ω := fun _ => 0) (h := []) x 2 (by omega) (by omega)
  have k5 := fun x => c85 (n := n) (tot := false) (ω := fun _ => 0) (h := []) x 13 (by omega) (by omega)
  have k6 := fun x => c85 (n := n) (tot := false) (ω := fun _ => 0) (h := []) x 22 (by omega) (by omega)
  simp only [Int.cast_ofNat_Int] at k1 k2 k3 k4 k5 k6
  unfold r53c R8
  simp (maxSteps := 2000000) (discharger := omega) only [xz,xc,xo,xr,x0,Reg.isA,Reg.isV,Reg.stays,Reg.onto,↓reduceIte,Nat.reduceEqDiff,Nat.reduceLT]
  refine wpi_loop (fun x r g => ∃ (i : Nat) (t : S8), r = [(2, .var V2), (3, .val v3), (4, .val (.imm 1 (intsOf .u32 roundsZ) c4)), (5, .val (.str p)), (6, .val (.int .i64 a)), (7, .val (.row id 1 0 64 false))] ++ (R8 t ++ [(21, .val (.int .i64 i))]) ∧ x = 64 - i ∧ i ≤ 64 ∧ g = h ∧ t = rndsR W s i) 64 (by omega)
    ⟨0, s, rfl, rfl, by omega, rfl, rfl⟩ ?_
  rintro x r g ⟨i, t, rfl, rfl, hi, rfl, ht⟩
  unfold R8
  by_cases hi2 : i < 64
  · simp (maxSteps := 2000000) (discharger := omega) only [xz,xc,xo,xr,x0,x1,xd,xe,kont_pure,Reg.isA,Reg.isV,Reg.stays,Reg.onto,↓reduceIte,Nat.reduceEqDiff,Nat.reduceLT,Int.cast_ofNat_Int,wrap_i64,int_lt_t,int_le_t,k1,k2,k3,k4,k5,k6,hid,io_get']
    refine ⟨64 - (i + 1), by omega, i + 1, rndR t (roundsZ.getD i 0) (W.getD i 0), by rw [show ((i : Nat) : Int) + 1 = ((i + 1 : Nat) : Int) by omega]; rfl, rfl, by omega, by rw [ht]; rfl⟩
  · obtain rfl : i = 64 := by omega
    subst ht
    simp (maxSteps := 2000000) (discharger := omega) only [xz,xc,xo,xr,x0,x1,xd,Reg.isA,Reg.isV,Reg.stays,Reg.onto,↓reduceIte,Nat.reduceEqDiff,Nat.reduceLT,Int.cast_ofNat_Int,int_lt_f,Nat.sub_self]

set_option maxHeartbeats 1000000 in
theorem w_r53d (p : By) (a id sid lo : Nat) (s t : S8) (V2 v4 v7 : AV) (hsid : h[sid]? = some (.row 1 (intsOf .u32 s.list))) (hlo : lo ≤ sid) (hn : 20 < n) :
    Wp (kont F n tot ω) n r53d ([(2, .var V2), (3, .val (.row sid 1 0 8 false)), (4, .val v4), (5, .val (.str p)), (6, .val (.int .i64 a)), (7, .val v7)] ++ (R8 t ++ [(21, .val (.int .i64 64)), (149, .val (.bool false))])) h fun e r' h' => e = .normal ∧
      (∃ u v, r' = [(2, .var V2), (3, .val (.row sid 1 0 8 false)), (4, .val v4), (5, .val (.str p)), (6, .val (.int .i64 a)), (24, .val u), (25, .val v), (223, .val (.bool false))]) ∧ h'[sid]? = some (.row 1 (intsOf .u32 (addS s t).list)) ∧ KeepR lo 1 h h' := by
  have hl8 : ∀ t : S8, t.list.length = 8 := fun t => rfl
  have q8 : s.list.length = 8 := rfl
  have q8' : t.list.length = 8 := rfl
  have hlt := (List.getElem?_eq_some_iff.1 hsid).1
  have hT : [AV.int .u32 t.a, AV.int .u32 t.b, AV.int .u32 t.c, AV.int .u32 t.d, AV.int .u32 t.e, AV.int .u32 t.f, AV.int .u32 t.g, AV.int .u32 t.h] = intsOf .u32 t.list := rfl
  unfold r53d R8
  simp (maxSteps := 2000000) (discharger := omega) only [xz,xc,xo,xr,x0,x5,xd,partEs,placeEs,Reg.isA,Reg.isV,Reg.stays,Reg.onto,↓reduceIte,Nat.reduceEqDiff,Nat.reduceLT,Nat.reduceAdd,Nat.zero_lt_succ,List.set_cons_zero,List.set_cons_succ,List.replicate,List.set_cons_zero,List.set_cons_succ]
  rw [hT]
  refine wpi_loop (fun x r g => ∃ (i : Nat) (L : List Int), r = [(2, .var V2), (3, .val (.row sid 1 0 8 false)), (4, .val v4), (5, .val (.str p)), (6, .val (.int .i64 a)), (24, .val (.row h.length 1 0 8 false)), (25, .val (.int .i64 i))] ∧ x = 8 - i ∧ i ≤ 8 ∧ L.length = 8 ∧
    (∀ j, L.getD j 0 = if j < i then (addS s t).list.getD j 0 else s.list.getD j 0) ∧ g[sid]? = some (.row 1 (intsOf .u32 L)) ∧ g[h.length]? = some (.row 1 (intsOf .u32 t.list)) ∧ KeepR lo 1 h g) 8 (by omega)
    ⟨0, s.list, rfl, rfl, by omega, rfl, fun j => by rw [if_neg (by omega)], by rw [List.getElem?_append_left hlt]; exact hsid, by simp, .app _⟩ ?_
  rintro x r g ⟨i, L, rfl, rfl, hi, hL, hg, g1, g2, g3⟩
  by_cases hi2 : i < 8
  · have hs1 := (List.getElem?_eq_some_iff.1 g1).1
    have hne : sid ≠ h.length := by omega
    simp (maxSteps := 2000000) (discharger := omega) only [xz,xc,xo,xr,x0,x1,x5,xd,wr,Reg.isA,Reg.isV,Reg.stays,Reg.onto,↓reduceIte,Nat.reduceEqDiff,Nat.reduceLT,Int.cast_ofNat_Int,xu,wrap_i64,int_lt_t,int_le_t,g1,g2,io_get',io_set']
    refine ⟨8 - (i + 1), by omega, i + 1, L.set i (add32 (L.getD i 0) (t.list.getD i 0)), by rw [show ((i : Nat) : Int) + 1 = ((i + 1 : Nat) : Int) by omega], rfl, by omega, by simpa using hL, fun j => ?_, by rw [get_set_self hs1]; rfl, by rw [get_set_ne hne]; exact g2, g3.trans (.set g1 hlo)⟩
    rw [set_getD' _ _ _ _ (by omega)]
    have h1 := hg i
    rw [if_neg (by omega)] at h1
    by_cases e : j = i
    · rw [if_pos e, if_pos (by omega), e, h1]
      match i, hi2 with
      | 0, _ => rfl
      | 1, _ => rfl
      | 2, _ => rfl
      | 3, _ => rfl
      | 4, _ => rfl
      | 5, _ => rfl
      | 6, _ => rfl
      | 7, _ => rfl
    · rw [if_neg e, hg j]
      by_cases e2 : j < i
      · rw [if_pos e2, if_pos (by omega)]
      · rw [if_neg e2, if_neg (by omega)]
  · obtain rfl : i = 8 := by omega
    have : L = (addS s t).list := by
      apply List.ext_getElem (by rw [hL]; rfl)
      intro j h1 h2
      have := hg j
      rw [if_pos (by omega)] at this
      simpa [List.getD, h1, h2] using this
    subst this
    simp (maxSteps := 2000000) (discharger := omega) only [xz,xc,xo,xr,x0,x1,xd,Reg.isA,Reg.isV,Reg.stays,Reg.onto,↓reduceIte,Nat.reduceEqDiff,Nat.reduceLT,Int.cast_ofNat_Int,int_lt_f,Nat.sub_self]
    exact ⟨⟨_, _, rfl⟩, g1, g3⟩

def divI (x : Int) : Nat → Int
  | 0 => x
  | k + 1 => div32 (divI x k) 256
def byteI (x : Int) (k : Nat) : Int := IntKind.u8.wrap ((divI x k).tmod 256)
def keyI (L : List Int) : List Int := (List.range 32).map fun t => byteI (L.getD (t / 4) 0) (3 - t % 4)
def Z32R : List Int := List.replicate 32 0

theorem keyI_get (L : List Int) (t : Nat) (ht : t < 32) : (keyI L).getD t 0 = byteI (L.getD (t / 4) 0) (3 - t % 4) := by
  simp [keyI,List.getD,ht]
theorem keyI_len (L : List Int) : (keyI L).length = 32 := by simp [keyI]

set_option maxRecDepth 100000 in
theorem w_r53e (sid : Nat) (L : List Int) (hL : L.length = 8) (hsid : h[sid]? = some (.row 1 (intsOf .u32 L))) (Vz : AV) (hVz : Vz = .agg (intsOf .u8 Z32R)) (v4 v5 v6 v37 : AV) (hn : 40 < n) :
    Wp (kont F n tot ω) n r53e [(2, .var Vz), (3, .val (.row sid 1 0 8 false)), (4, .val v4), (5, .val v5), (6, .val v6), (37, .val v37)] h (Ret [ARes.cell 2 true 32] fun v h2 => v = .agg (intsOf .u8 (keyI L)) ∧ h2 = h) := by
  have z32 : (AV.agg [AV.int .u8 0, AV.int .u8 0, AV.int .u8 0, AV.int .u8 0, AV.int .u8 0, AV.int .u8 0, AV.int .u8 0, AV.int .u8 0, AV.int .u8 0, AV.int .u8 0, AV.int .u8 0, AV.int .u8 0, AV.int .u8 0, AV.int .u8 0, AV.int .u8 0, AV.int .u8 0, AV.int .u8 0, AV.int .u8 0, AV.int .u8 0, AV.int .u8 0, AV.int .u8 0, AV.int .u8 0, AV.int .u8 0, AV.int .u8 0, AV.int .u8 0, AV.int .u8 0, AV.int .u8 0, AV.int .u8 0, AV.int .u8 0, AV.int .u8 0, AV.int .u8 0, AV.int .u8 0] : AV) = .agg (intsOf .u8 Z32R) := rfl
  have hz : Z32R.length = 32 := rfl
  subst hVz
  unfold r53e
  rw [z32]
  simp (maxSteps := 2000000) (discharger := omega) only [xz,xc,xo,xr,x0,Reg.isA,Reg.isV,Reg.stays,Reg.onto,↓reduceIte,Nat.reduceEqDiff,Nat.reduceLT]
  refine wpi_loop (fun x r g => ∃ (i : Nat) (K : List Int), r = [(2, .var (.agg (intsOf .u8 Z32R))), (3, .val (.row sid 1 0 8 false)), (26, .var (.agg (intsOf .u8 K))), (27, .val (.int .i64 i))] ∧ x = 8 - i ∧ i ≤ 8 ∧ g = h ∧ K.length = 32 ∧ ∀ t, t < 4 * i → K.getD t 0 = (keyI L).getD t 0) 8 (by omega)
    ⟨0, Z32R, rfl, rfl, by omega, rfl, rfl, fun t ht => by omega⟩ ?_
  rintro x r g ⟨i, K, rfl, rfl, hi, rfl, hK, hg⟩
  by_cases hi2 : i < 8
  · simp (maxSteps := 2000000) (discharger := omega) only [xz,xc,xo,xr,x0,x1,xd,Reg.isA,Reg.isV,Reg.stays,Reg.onto,↓reduceIte,Nat.reduceEqDiff,Nat.reduceLT,Int.cast_ofNat_Int,int_lt_t,int_le_t,hsid,io_get']
    refine wpi_loop (fun x r g2 => ∃ (q : Nat) (K2 : List Int), r = [(2, .var (.agg (intsOf .u8 Z32R))), (3, .val (.row sid 1 0 8 false)), (26, .var (.agg (intsOf .u8 K2))), (27, .val (.int .i64 i)), (28, .val (.int .u32 (divI (L.getD i 0) q))), (29, .val (.int .i64 (3 - (q : Int))))] ∧ x = 4 - q ∧ q ≤ 4 ∧ g2 = g ∧ K2.length = 32 ∧
      (∀ t, t < 4 * i → K2.getD t 0 = (keyI L).getD t 0) ∧ ∀ t, 4 * i + 4 - q ≤ t → t < 4 * i + 4 → K2.getD t 0 = (keyI L).getD t 0) 4 (by omega)
      ⟨0, K, rfl, rfl, by omega, rfl, hK, hg, fun t h1 h2 => by omega⟩ ?_
    rintro x r g2 ⟨q, K2, rfl, rfl, hq, rfl, hK2, hg2, hg3⟩
    by_cases hq4 : q < 4
    · have e1 : (4 * (i : Int) + (3 - (q : Int))).toNat = 4 * i + 3 - q := by omega
      simp (maxSteps := 2000000) (discharger := omega) only [xz,xc,xo,xr,x0,x1,x2,x5,xd,xe,wr,Reg.isA,Reg.isV,Reg.stays,Reg.onto,↓reduceIte,Nat.reduceEqDiff,Nat.reduceLT,Int.cast_ofNat_Int,xu,wrap_i64,int_lt_t,int_le_t,int_eq_f,e1,io_set',hK2,nat_lt_t',Nat.mul_one]
      refine ⟨4 - (q + 1), by omega, q + 1, K2.set (4 * i + 3 - q) (byteI (L.getD i 0) q), ?_, rfl, by omega, by simpa using hK2, fun t ht => ?_, fun t h1 h2 => ?_⟩
      · rw [show 3 - ((q : Nat) : Int) - 1 = 3 - ((q + 1 : Nat) : Int) by omega]; rfl
      · rw [set_getD' _ _ _ _ (by omega), if_neg (by omega)]; exact hg2 t ht
      · rw [set_getD' _ _ _ _ (by omega)]
        by_cases e : t = 4 * i + 3 - q
        · rw [if_pos e, keyI_get _ _ (by omega)]
          rw [show t / 4 = i by omega, show 3 - t % 4 = q by omega]
        · rw [if_neg e]; exact hg3 t (by omega) h2
    · obtain rfl : q = 4 := by omega
      simp (maxSteps := 2000000) (discharger := omega) only [xz,xc,xo,xr,x0,x1,xd,Reg.isA,Reg.isV,Reg.stays,Reg.onto,↓reduceIte,Nat.reduceEqDiff,Nat.reduceLT,Int.cast_ofNat_Int,Int.reduceNeg,Int.reduceSub,wrap_i64,int_le_f,Nat.sub_self]
      refine ⟨8 - (i + 1), by omega, i + 1, K2, by rw [show ((i : Nat) : Int) + 1 = ((i + 1 : Nat) : Int) by omega], rfl, by omega, hK2, fun t ht => ?_⟩
      by_cases e : t < 4 * i
      · exact hg2 t e
      · exact hg3 t (by omega) (by omega)
  · obtain rfl : i = 8 := by omega
    have : K = keyI L := by
      apply List.ext_getElem (by rw [hK, keyI_len])
      intro j h1 h2
      have := hg j (by omega)
      simpa [List.getD, h1, h2] using this
    subst this
    have ht : (intsOf .u8 (keyI L)).take 32 = intsOf .u8 (keyI L) := List.take_of_length_le (by rw [io_len', keyI_len]; exact Nat.le_refl _)
    have hd : List.drop 32 (intsOf .u8 Z32R) = [] := rfl
    simp (maxSteps := 2000000) (discharger := omega) only [xz,xc,xo,xr,x0,x1,x5,xd,xe,wr,Reg.isA,Reg.isV,Reg.stays,Reg.onto,↓reduceIte,Nat.reduceEqDiff,Nat.reduceLT,Int.cast_ofNat_Int,exists_eq_left',xu,int_lt_f,nat_le_t,Nat.sub_self,keyI_len,ht,hd,hz]
end
end Go.Proofs.YtpgmohjmpaifbaaDoor.Im

/- S21Rv: the reference's digest, whole. -/
set_option linter.unusedVariables false
set_option linter.unusedSimpArgs false
open Go Go.Im
namespace Go.Proofs.YtpgmohjmpaifbaaDoor.Im

def shaR (s : By) : List Int := keyI (blksR (padR s) ((padR s).length / 64)).list

section
variable {n : Nat} {tot : Bool} {ω : Nat → Nat} {h : Hp}

theorem keepR_below {lo lo' : Nat} {h h' : Hp} (k : KeepR lo 1 h h') (hl : lo' ≤ lo) (hl2 : lo' ≤ h.length) : Below lo' h h' := ⟨k.1, fun i hi => by
  have e : h[i]? = some h[i] := List.getElem?_eq_getElem (by omega)
  rw [e]; exact k.2 i _ e (.inl (by omega))⟩
theorem keepR_get {lo i : Nat} {h h' : Hp} {o : AO} (k : KeepR lo 1 h h') (hi : i < lo) (e : h[i]? = some o) : h'[i]? = some o := k.2 i o e (.inl hi)

set_option maxRecDepth 100000 in
set_option maxHeartbeats 2000000 in
theorem c53 (s : By) (hs : s.length ≤ 1000000000) (hn : s.length + 200 < n) : ∃ h', call F n tot ω 53 [.str s] h = some (.agg (intsOf .u8 (shaR s)), h') ∧ Below h.length h h' := by
  obtain ⟨n, rfl⟩ : ∃ m, n = m + 1 := ⟨n - 1, by omega⟩
  suffices hx : ∃ v2 h', call F (n + 1) tot ω 53 [.str s] h = some (v2, h') ∧ v2 = .agg (intsOf .u8 (shaR s)) ∧ Below h.length h h' by
    obtain ⟨v2, h', e1, rfl, e2⟩ := hx
    exact ⟨h', e1, e2⟩
  refine call_of (fn := a53) f53 (P := fun v2 h' => v2 = .agg (intsOf .u8 (shaR s)) ∧ Below h.length h h') ?_
  have z32 : (AV.agg [AV.int .u8 0, AV.int .u8 0, AV.int .u8 0, AV.int .u8 0, AV.int .u8 0, AV.int .u8 0, AV.int .u8 0, AV.int .u8 0, AV.int .u8 0, AV.int .u8 0, AV.int .u8 0, AV.int .u8 0, AV.int .u8 0, AV.int .u8 0, AV.int .u8 0, AV.int .u8 0, AV.int .u8 0, AV.int .u8 0, AV.int .u8 0, AV.int .u8 0, AV.int .u8 0, AV.int .u8 0, AV.int .u8 0, AV.int .u8 0, AV.int .u8 0, AV.int .u8 0, AV.int .u8 0, AV.int .u8 0, AV.int .u8 0, AV.int .u8 0, AV.int .u8 0, AV.int .u8 0] : AV) = .agg (intsOf .u8 Z32R) := rfl
  have hs0 : [AV.int .u32 1779033703, AV.int .u32 3144134277, AV.int .u32 1013904242, AV.int .u32 2773480762, AV.int .u32 1359893119, AV.int .u32 2600822924, AV.int .u32 528734635, AV.int .u32 1541459225] = intsOf .u32 s0.list := rfl
  obtain ⟨h1, k84, hB1⟩ := c84 (n := n) (tot := tot) (ω := ω) (h := h ++ [.row 1 (intsOf .u32 s0.list)]) s hs (by omega)
  have k83 : ∀ h, call F n tot ω 83 [] h = some (.imm 1 (intsOf .u32 roundsZ) .full, h) := fun h => by
    obtain ⟨n', rfl⟩ : ∃ m, n = m + 1 := ⟨n - 1, by omega⟩
    exact c83
  obtain ⟨p1, p2⟩ := padR_len s
  have hZ := padZ_lt s
  obtain ⟨M, hM⟩ : ∃ M, (padR s).length = 64 * M := ⟨(padR s).length / 64, by omega⟩
  have hs1 : h1[h.length]? = some (.row 1 (intsOf .u32 s0.list)) := by
    rw [hB1.2 h.length (by simp)]; simp
  have hB2 : Below h.length h h1 := (Below.app h.length h _ (Nat.le_refl _)).trans (hB1.low (by simp))
  have hshaR : shaR s = keyI (blksR (padR s) M).list := by unfold shaR; rw [hM, Nat.mul_div_cancel_left _ (by decide)]
  rw [hshaR]
  generalize padR s = p at *
  unfold a53
  rw [z32]
  simp (maxSteps := 2000000) (discharger := omega) only [xz,xc,xo,xr,x0,x5,xd,kont_call,partEs,placeEs,Reg.isA,Reg.isV,Reg.stays,Reg.onto,↓reduceIte,reduceCtorEq,Nat.reduceEqDiff,Nat.reduceLT,Nat.reduceAdd,Nat.zero_lt_succ,List.set_cons_zero,List.set_cons_succ,k83,List.replicate,List.set_cons_zero,List.set_cons_succ]
  rw [hs0]
  simp (maxSteps := 2000000) (discharger := omega) only [xz,xc,xo,xr,x0,Reg.isA,Reg.isV,Reg.stays,Reg.onto,↓reduceIte,reduceCtorEq,Nat.reduceEqDiff,Nat.reduceLT,k84]
  generalize hVz : AV.agg (intsOf .u8 Z32R) = Vz
  refine wpi_loop (fun x r g => ∃ m : Nat, r = [(2, .var Vz), (3, .val (.row h.length 1 0 8 false)), (4, .val (.imm 1 (intsOf .u32 roundsZ) .full)), (5, .val (.str p)), (6, .val (.int .i64 (64 * m : Nat)))] ∧ x = M - m ∧ m ≤ M ∧
    g[h.length]? = some (.row 1 (intsOf .u32 (blksR p m).list)) ∧ Below h.length h g) M (by omega)
    ⟨0, rfl, rfl, Nat.zero_le _, hs1, hB2⟩ ?_
  rintro x r g ⟨m, rfl, rfl, hm, hg1, hg2⟩
  have hgl : h.length < g.length := (List.getElem?_eq_some_iff.1 hg1).1
  by_cases hlt : m < M
  · simp (maxSteps := 2000000) (discharger := omega) only [xz,xc,xo,xr,x0,x1,x4,xd,Reg.isA,Reg.isV,Reg.stays,Reg.onto,↓reduceIte,Nat.reduceEqDiff,Nat.reduceLT,int_lt_t,hM]
    refine wpi_loop (fun x r g' => ∃ (i : Nat) (v7 : AV), r = [(2, .var Vz), (3, .val (.row h.length 1 0 8 false)), (4, .val (.imm 1 (intsOf .u32 roundsZ) .full)), (5, .val (.str p)), (6, .val (.int .i64 (64 * m : Nat))), (7, .val v7), (8, .val (.int .i64 i))] ∧ x = 64 - i ∧ i ≤ 64 ∧
      RowEx g' 1 g.length (intsOf .u32 (wRList p (64 * m) i)) v7 ∧ KeepR g.length 1 g g') 64 (by omega)
      ⟨0, .nils, rfl, rfl, by omega, .inl ⟨rfl, rfl⟩, .refl⟩ ?_
    rintro x r g' ⟨i, v7, rfl, rfl, hi, hR, hK⟩
    have hwl := wRList_len p (64 * m) i
    by_cases hi64 : i < 64
    · by_cases h16 : i < 16
      · have ra := w_r53a (n := n) (tot := tot) (ω := ω) (h := g') p (64 * m) i Vz (.row h.length 1 0 8 false) (.imm 1 (intsOf .u32 roundsZ) .full) v7 (by omega) (by omega) (by omega)
        simp (maxSteps := 2000000) (discharger := omega) only [xz,xc,xo,xr,x0,x1,xd,Reg.isA,Reg.isV,Reg.stays,Reg.onto,↓reduceIte,Nat.reduceEqDiff,Nat.reduceLT,int_lt_t]
        refine ra.mono ?_
        rintro e r' h' ⟨rfl, rfl, rfl⟩
        have hR2 : RowEx (h' ++ [.row 1 [.int .u32 (wordR p (64 * m) i 4)]]) 1 g.length (intsOf .u32 (wRList p (64 * m) i)) v7 := hR.more
        obtain ⟨v', h2, w1, w2, w3⟩ := row_appx (bytes := 4) (xs := [.int .u32 (wordR p (64 * m) i 4)]) hR2 (by rw [io_len', hwl]; simp; omega) (by have := hK.1; simp; omega)
        simp (maxSteps := 2000000) (discharger := omega) only [xz,xc,xo,xr,x0,x1,x5,xd,xb,selems,srcElems,partEs,placeEs,Reg.isA,Reg.isV,Reg.stays,Reg.onto,↓reduceIte,Nat.reduceEqDiff,Nat.reduceLT,Nat.zero_lt_succ,List.set_cons_zero,wrap_i64,nat_le_t,hg0,w1,List.replicate,List.set_cons_zero]
        refine ⟨64 - (i + 1), by omega, i + 1, v', by rw [show ((i : Nat) : Int) + 1 = ((i + 1 : Nat) : Int) by omega], rfl, by omega, ?_, hK.trans ((KeepR.app _).trans w3)⟩
        have e : wRList p (64 * m) (i + 1) = wRList p (64 * m) i ++ [wordR p (64 * m) i 4] := by
          show wRList p (64 * m) i ++ [wRNext p (64 * m) (wRList p (64 * m) i) i] = _
          unfold wRNext; rw [if_pos h16]
        rw [e]
        simpa [intsOf] using w2
      · rcases hR with ⟨rfl, e0⟩ | ⟨id, rfl, hid, hlo⟩
        · have := congrArg List.length e0
          rw [io_len', hwl] at this
          simp at this
          omega
        · rw [io_len', hwl]
          have rb := w_r53b (n := n) (tot := tot) (ω := ω) (h := g') p (64 * m) i g.length id (wRList p (64 * m) i) Vz (.row h.length 1 0 8 false) (.imm 1 (intsOf .u32 roundsZ) .full) hwl (by omega) hi64 hid hlo (by omega)
          simp (maxSteps := 2000000) (discharger := omega) only [xz,xc,xo,xr,x0,x1,xd,Reg.isA,Reg.isV,Reg.stays,Reg.onto,↓reduceIte,Nat.reduceEqDiff,Nat.reduceLT,int_lt_t,int_lt_f]
          refine rb.mono ?_
          rintro e r' h' ⟨rfl, v', rfl, w2, w3⟩
          simp (maxSteps := 2000000) (discharger := omega) only [xz,xc,xo,xr,x0,x1,xd,Reg.isA,Reg.isV,Reg.stays,Reg.onto,↓reduceIte,Nat.reduceEqDiff,Nat.reduceLT,wrap_i64]
          exact ⟨64 - (i + 1), by omega, i + 1, v', by rw [show ((i : Nat) : Int) + 1 = ((i + 1 : Nat) : Int) by omega], rfl, by omega, w2, hK.trans w3⟩
    · obtain rfl : i = 64 := by omega
      rcases hR with ⟨rfl, e0⟩ | ⟨id, rfl, hid, hlo⟩
      · have := congrArg List.length e0
        rw [io_len', hwl] at this
        simp at this
      · rw [io_len', hwl]
        have hst := keepR_get hK hgl hg1
        have hst' : g'[h.length]? = some (.row 1 [.int .u32 (blksR p m).a, .int .u32 (blksR p m).b, .int .u32 (blksR p m).c, .int .u32 (blksR p m).d, .int .u32 (blksR p m).e, .int .u32 (blksR p m).f, .int .u32 (blksR p m).g, .int .u32 (blksR p m).h]) := hst
        have rc := w_r53c (n := n) (tot := tot) (ω := ω) (h := g') p (64 * m) id (wRList p (64 * m) 64) (blksR p m) Vz (.row h.length 1 0 8 false) .full hwl hid (by omega)
        simp (maxSteps := 2000000) (discharger := omega) only [xz,xc,xo,xr,x0,x1,xd,Reg.isA,Reg.isV,Reg.stays,Reg.onto,↓reduceIte,Nat.reduceEqDiff,Nat.reduceLT,Int.cast_ofNat_Int,Int.reduceToNat,int_lt_t,int_lt_f,int_le_t,Nat.sub_self,hst']
        refine rc.mono ?_
        rintro e r' h' ⟨rfl, rfl, rfl⟩
        have rd := w_r53d (n := n) (tot := tot) (ω := ω) (h := h') p (64 * m) id h.length h.length (blksR p m) (rndsR (wRList p (64 * m) 64) (blksR p m) 64) Vz (.imm 1 (intsOf .u32 roundsZ) .full) (.row id 1 0 64 false) hst (Nat.le_refl _) (by omega)
        rw [then_n]
        refine rd.mono ?_
        rintro e r' h2 ⟨rfl, ⟨u, v, rfl⟩, d1, d2⟩
        simp (maxSteps := 2000000) (discharger := omega) only [xz,xc,xo,xr,x0,x1,xd,Reg.isA,Reg.isV,Reg.stays,Reg.onto,↓reduceIte,Nat.reduceEqDiff,Nat.reduceLT,wrap_i64]
        refine ⟨M - (m + 1), by omega, m + 1, by rw [show ((64 * m : Nat) : Int) + 64 = ((64 * (m + 1) : Nat) : Int) by omega], rfl, by omega, d1, ?_⟩
        exact hg2.trans ((keepR_below hK (by omega) (by omega)).trans (keepR_below d2 (Nat.le_refl _) (by have := hK.1; omega)))
  · obtain rfl : m = M := by omega
    have re := w_r53e (n := n) (tot := tot) (ω := ω) (h := g) h.length (blksR p m).list rfl hg1 Vz hVz.symm (.imm 1 (intsOf .u32 roundsZ) .full) (.str p) (.int .i64 (64 * m : Nat)) (.bool false) (by omega)
    simp (maxSteps := 2000000) (discharger := omega) only [xz,xc,xo,xr,x0,x1,x4,xd,Reg.isA,Reg.isV,Reg.stays,Reg.onto,↓reduceIte,Nat.reduceEqDiff,Nat.reduceLT,int_lt_f,Nat.sub_self,hM]
    refine re.mono ?_
    intro e r' h' hq
    cases e with
    | exit i => exact hq.elim
    | normal => obtain ⟨v, h1, rfl, rfl⟩ := hq; exact ⟨_, h1, rfl, hg2⟩
    | ret => obtain ⟨v, h1, rfl, rfl⟩ := hq; exact ⟨_, h1, rfl, hg2⟩
end
end Go.Proofs.YtpgmohjmpaifbaaDoor.Im

/- S21Le: parts and leaves: held against one another, found, listed. -/
set_option linter.unusedVariables false
set_option linter.unusedSimpArgs false
open Go Go.Im
namespace Go.Proofs.YtpgmohjmpaifbaaDoor.Im

theorem w_regionA2 {K : Kont} {n : Nat} {r : Regs} {h : Hp} {Q : AE → Regs → Hp → Prop} (o1 o2 : List Nat) (ops : List AOper) (ks : List Nat) :
    Wp K n (.regionA [o1, o2] ops ks) r h Q = Wo K (inOrd ops o1) r h (fun r' h' => Wo K (inOrd ops o2) r h (Is r' h') ∧ Settle ks Q r' h') := by
  apply propext
  constructor
  · rintro ⟨e, r', h', h1, h2⟩
    simp only [exec,execA] at h1
    split at h1
    · rename_i r2 h3 e1
      split at e1
      · rename_i a1 b1 a2 b2 e2 e3
        split at e1
        · rename_i e4
          simp only [Bool.and_eq_true] at e4
          obtain ⟨e5, e6⟩ := e4
          obtain rfl := (eqRegs_iff _ _).1 e5
          obtain rfl := (eqHp_iff _ _).1 e6
          cases e1
          cases h1
          exact ⟨_, _, e2, ⟨_, _, e3, rfl, rfl⟩, h2⟩
        · cases e1
      · cases e1
    · cases h1
  · rintro ⟨r', h', h1, h2, h3⟩
    exact wpi_regionA2 h1 (execs_is h2) h3

structure Pt where
  k : List Int
  n : Int
  deriving DecidableEq
def Pt.cs (x : Pt) : List AV := intsOf .u8 x.k ++ [.int .i64 x.n]
def Pt.av (x : Pt) : AV := .agg x.cs
def Pt.ok (x : Pt) : Prop := x.k.length = 32
structure Lf where
  p : By
  ps : List Pt
  v : AV
def Lf.av (x : Lf) : AV := .agg [.str x.p, x.v]
structure Lf.ok (x : Lf) : Prop where
  rd : IsRd 33 (x.ps.map Pt.av) x.v
  all : ∀ q ∈ x.ps, q.ok

theorem rd_sub {sz : Nat} {es : List AV} {v : AV} (h : IsRd sz es v) (n : Nat) : sub v 0 n false = some v := by
  rcases h with ⟨e, _⟩ | ⟨c, e⟩ <;> rw [e] <;> rfl
theorem rd_nt {sz : Nat} {es : List AV} {v : AV} (h : IsRd sz es v) : v.notTup = true := by
  rcases h with ⟨e, _⟩ | ⟨c, e⟩ <;> rw [e] <;> rfl
theorem rd_cells {sz : Nat} {es : List AV} {v : AV} (h : IsRd sz es v) : v.cells = [v] := by
  rcases h with ⟨e, _⟩ | ⟨c, e⟩ <;> rw [e] <;> rfl
theorem rd_one {sz : Nat} {es : List AV} {v : AV} (h : IsRd sz es v) : v.one = true := by
  rcases h with ⟨e, _⟩ | ⟨c, e⟩ <;> rw [e] <;> rfl
theorem rd_el {sz : Nat} {es : List AV} {v : AV} (h : IsRd sz es v) (g : Hp) : elems g sz v = some es := by
  rcases h with ⟨e, e2⟩ | ⟨c, e⟩
  · rw [e, e2]; rfl
  · rw [e]; simp [elems]

theorem pt_len {x : Pt} (h : x.ok) : x.cs.length = 33 := by simp [Pt.cs,io_len']; exact h
theorem pt_take {x : Pt} (h : x.ok) : List.take 33 x.cs = x.cs := List.take_of_length_le (by rw [pt_len h]; exact Nat.le_refl _)
theorem eqCells_ints : ∀ (a b : List Int) (m n : Int), a.length = b.length → eqCells (List.replicate (a.length + 1) .i) (intsOf .u8 a ++ [.int .i64 m]) (intsOf .u8 b ++ [.int .i64 n]) = some (decide (a = b ∧ m = n))
  | [], [], m, n, _ => by
    by_cases e : m = n <;> simp [intsOf,eqCells,eqS,List.replicate,e]
  | x :: a, y :: b, m, n, h => by
    have ih := eqCells_ints a b m n (by simpa using h)
    simp only [List.length_cons,List.replicate_succ (n := a.length + 1),intsOf,List.map_cons,List.cons_append,eqCells,eqS,if_true] at ih ⊢
    rw [ih]
    by_cases e : x = y <;> simp [e]
  | [], _ :: _, _, _, h => by simp at h
  | _ :: _, [], _, _, h => by simp at h
theorem pt_eq {x y : Pt} {ks : List CK} (hk : ks = List.replicate 33 .i) (hx : x.ok) (hy : y.ok) : eqCells ks x.cs y.cs = some (decide (x = y)) := by
  have := eqCells_ints x.k y.k x.n y.n (by rw [hx, hy])
  rw [hx] at this
  subst hk
  unfold Pt.cs
  rw [this]
  obtain ⟨a, m⟩ := x
  obtain ⟨b, n⟩ := y
  simp

theorem pt_get {ps : List Pt} {i : Nat} (hi : i < ps.length) : (ps.map Pt.av)[i]? = some (.agg ps[i].cs) := by simp [hi,Pt.av]
theorem take_eq_next {α : Type} {l m : List α} {i : Nat} (hl : i < l.length) (hm : i < m.length) (h : l.take i = m.take i) (e : l[i] = m[i]) : l.take (i + 1) = m.take (i + 1) := by
  rw [List.take_succ_eq_append_getElem hl, List.take_succ_eq_append_getElem hm, h, e]
section
variable {n : Nat} {tot : Bool} {ω : Nat → Nat} {h : Hp}

theorem c24 (ps qs : List Pt) (v w : AV) (hv : IsRd 33 (ps.map Pt.av) v) (hw : IsRd 33 (qs.map Pt.av) w) (hp : ∀ x ∈ ps, x.ok) (hq : ∀ x ∈ qs, x.ok) (hl : ps.length ≤ 9223372036854775807) (hl2 : qs.length ≤ 9223372036854775807) (hn : ps.length + 10 < n) :
    call F n tot ω 24 [v, w] h = some (.bool (decide (ps = qs)), h) := by
  obtain ⟨n, rfl⟩ : ∃ m, n = m + 1 := ⟨n - 1, by omega⟩
  refine call_eq (fn := a24) f24 ?_
  unfold a24
  have l1 := hv.len
  have l2 := hw.len
  rw [List.length_map] at l1 l2
  by_cases hle : ps.length = qs.length
  · simp (maxSteps := 2000000) (discharger := omega) only [xz,xc,xo,xr,x0,x1,x4,xd,Reg.isA,Reg.isV,Reg.stays,Reg.onto,↓reduceIte,reduceCtorEq,Nat.reduceEqDiff,Nat.reduceLT,Nat.reduceAdd,int_bne_f,l1,l2]
    refine wpi_loop (fun x r g => ∃ (i : Nat), r = [(0, .val v), (1, .val w), (5, .val (.int .i64 i))] ∧ x = ps.length - i ∧ i ≤ ps.length ∧ g = h ∧ ps.take i = qs.take i) ps.length (by omega)
      ⟨0, rfl, rfl, Nat.zero_le _, rfl, rfl⟩ ?_
    rintro x r g ⟨i, rfl, rfl, hi, rfl, ht⟩
    by_cases hlt : i < ps.length
    · obtain ⟨cv, rfl⟩ := hv.imm (i := i) (by simpa using hlt)
      obtain ⟨cw, rfl⟩ := hw.imm (i := i) (by simpa [← hle] using hlt)
      have hlt2 : i < qs.length := by omega
      have q1 := pt_get hlt
      have q2 := pt_get hlt2
      have o1 := hp _ (List.getElem_mem hlt)
      have o2 := hq _ (List.getElem_mem hlt2)
      have s1 := pt_len o1
      have s2 := pt_len o2
      have s3 := pt_take o1
      have s4 := pt_take o2
      have e3 := pt_eq (ks := [CK.i, CK.i, CK.i, CK.i, CK.i, CK.i, CK.i, CK.i, CK.i, CK.i, CK.i, CK.i, CK.i, CK.i, CK.i, CK.i, CK.i, CK.i, CK.i, CK.i, CK.i, CK.i, CK.i, CK.i, CK.i, CK.i, CK.i, CK.i, CK.i, CK.i, CK.i, CK.i, CK.i]) rfl o1 o2
      by_cases he : ps[i] = qs[i]
      · have e4 : eqCells [CK.i, CK.i, CK.i, CK.i, CK.i, CK.i, CK.i, CK.i, CK.i, CK.i, CK.i, CK.i, CK.i, CK.i, CK.i, CK.i, CK.i, CK.i, CK.i, CK.i, CK.i, CK.i, CK.i, CK.i, CK.i, CK.i, CK.i, CK.i, CK.i, CK.i, CK.i, CK.i, CK.i] ps[i].cs qs[i].cs = some true := by rw [e3]; simp [he]
        simp (maxSteps := 2000000) (discharger := omega) only [xz,xc,xo,xr,x0,x1,x2,x4,xd,eqAV,Bool.bne_true,Reg.isA,Reg.isV,Reg.stays,Reg.onto,↓reduceIte,reduceCtorEq,Nat.reduceEqDiff,Nat.reduceLT,wrap_i64,int_lt_t,int_le_t,nat_le_t,l1,q1,q2,s1,s2,s3,s4,e4]
        exact ⟨ps.length - (i + 1), by omega, i + 1, by rw [show ((i : Nat) : Int) + 1 = ((i + 1 : Nat) : Int) by omega], rfl, by omega, take_eq_next hlt hlt2 ht he⟩
      · have hne : ¬ ps = qs := fun e => he (by subst e; rfl)
        have e4 : eqCells [CK.i, CK.i, CK.i, CK.i, CK.i, CK.i, CK.i, CK.i, CK.i, CK.i, CK.i, CK.i, CK.i, CK.i, CK.i, CK.i, CK.i, CK.i, CK.i, CK.i, CK.i, CK.i, CK.i, CK.i, CK.i, CK.i, CK.i, CK.i, CK.i, CK.i, CK.i, CK.i, CK.i] ps[i].cs qs[i].cs = some false := by rw [e3]; simp [he]
        simp (maxSteps := 2000000) (discharger := omega) only [xz,xc,xo,xr,x0,x1,x2,x4,xd,eqAV,Bool.bne_true,Reg.isA,Reg.isV,Reg.stays,Reg.onto,↓reduceIte,reduceCtorEq,Nat.reduceEqDiff,Nat.reduceLT,exists_eq_left',int_lt_t,int_le_t,nat_le_t,l1,q1,q2,s1,s2,s3,s4,e4,hne]
    · obtain rfl : i = ps.length := by omega
      have he : ps = qs := by rw [List.take_length, hle, List.take_length] at ht; exact ht
      simp (maxSteps := 2000000) (discharger := omega) only [xz,xc,xo,xr,x0,x1,x4,xd,Reg.isA,Reg.isV,Reg.stays,Reg.onto,↓reduceIte,reduceCtorEq,Nat.reduceEqDiff,Nat.reduceLT,exists_eq_left',int_lt_f,Nat.sub_self,l1]
      simp [he]
  · have hne : ¬ ps = qs := fun e => hle (by rw [e])
    simp (maxSteps := 2000000) (discharger := omega) only [xz,xc,xo,xr,x0,x1,x4,xd,Reg.isA,Reg.isV,Reg.stays,Reg.onto,↓reduceIte,reduceCtorEq,Nat.reduceEqDiff,Nat.reduceLT,Nat.reduceAdd,exists_eq_left',int_bne_t,l1,l2,hne]

def fnd (ls : List Lf) (p : By) : Option Lf := ls.find? fun x => x.p == p
end
end Go.Proofs.YtpgmohjmpaifbaaDoor.Im

/- S21Cd: chunk.Parts. -/
set_option linter.unusedVariables false
set_option linter.unusedSimpArgs false
open Go Go.Im
namespace Go.Proofs.YtpgmohjmpaifbaaDoor.Im

theorem pcs_cut (l m M : Int) (s : By) : (0 < (cutSt l m M s s.length).1 → cutR l m M s = (cutSt l m M s s.length).2 ++ [(cutSt l m M s s.length).1] ∧ pcs (cutR l m M s) s = pcs (cutSt l m M s s.length).2 s ++ [opn l m M s s.length]) ∧
    ((cutSt l m M s s.length).1 = 0 → cutR l m M s = (cutSt l m M s s.length).2) := by
  have hs := (cutSt_sum l m M s s.length).1
  refine ⟨fun h => ?_, fun h => ?_⟩
  · have e : cutR l m M s = (cutSt l m M s s.length).2 ++ [(cutSt l m M s s.length).1] := by unfold cutR; rw [if_pos h]
    refine ⟨e, ?_⟩
    rw [e, pcs_snoc, hs]; rfl
  · unfold cutR; rw [if_neg (by omega)]

theorem pcs_pos : ∀ (l : List Nat) (s : By) (i : Nat) (hi : i < (pcs l s).length), l.sum ≤ s.length → (pcs l s)[i].length = l.getD i 0
  | n :: l, s, 0, _, h => by
    simp only [List.sum_cons] at h
    simp [pcs]; omega
  | n :: l, s, i + 1, hi, h => by
    simp only [List.sum_cons] at h
    have := pcs_pos l (s.drop n) i (by simpa [pcs] using hi) (by simp; omega)
    simpa [pcs] using this
  | [], s, i, hi, _ => by simp [pcs] at hi

section
variable {n : Nat} {tot : Bool} {ω : Nat → Nat} {h : Hp}

theorem c79 (cs : List AV) (dv : AV) (hl : cs.length = 12) (hd : dv.one = true) (hn : 0 < n) : call F n tot ω 79 [.agg cs, dv] h = some (.fn (.func 104) [] [.ptr h.length 12 0 0, .ptr (h.length + 1) 1 0 0], h ++ [.row 12 [.agg cs], .row 1 [dv]]) := by
  obtain ⟨n, rfl⟩ : ∃ m, n = m + 1 := ⟨n - 1, by omega⟩
  refine call_eq (fn := a79) f79 ?_
  unfold a79
  have h1 : dv.notTup = true := by cases dv <;> simp_all [AV.one, AV.notTup]
  have h2 : dv.cells = [dv] := by cases dv <;> simp_all [AV.one, AV.cells]
  simp (maxSteps := 2000000) (discharger := omega) only [xz,xc,xo,xr,x0,x3,x5,xd,Reg.isA,Reg.isV,Reg.stays,Reg.onto,↓reduceIte,reduceCtorEq,Nat.reduceEqDiff,Nat.reduceLT,Nat.reduceAdd,exists_eq_left',hl,h1,h2,List.length_append,List.append_assoc]

set_option maxRecDepth 100000 in
theorem c104 (cs : List AV) (l m M : Int) (s : By) (dv : AV) (A B L : Nat) (J : Nat → Hp → Prop) (hl : cs.length = 12) (h8 : cs[8]? = some (.int .i64 l)) (h9 : cs[9]? = some (.int .i64 m)) (h10 : cs[10]? = some (.int .i64 M)) (hok : okConf l m M)
    (hdv : IsRd 1 (bytesOf s) dv) (hs : s.length ≤ 1000000) (hA : h[A]? = some (.row 12 [.agg cs])) (hB : h[B]? = some (.row 1 [dv])) (hn : s.length + 40 < n)
    (hJ0 : ∀ g, Below h.length h g → J 0 g)
    (hJ : ∀ k (hk : k < (pcs (cutR l m M s) s).length) g c, J k g → ∃ g', round F n tot ω L [.int .i64 (((cutR l m M s).take k).sum : Nat), .imm 1 (bytesOf (pcs (cutR l m M s) s)[k]) c] g = some (.bool true, g') ∧ J (k + 1) g') :
    ∃ g', call F (n + 1) tot ω 104 [.yld L, .ptr A 12 0 0, .ptr B 1 0 0] h = some (.tup [], g') ∧ J (cutR l m M s).length g' := by
  suffices hx : ∃ v g', call F (n + 1) tot ω 104 [.yld L, .ptr A 12 0 0, .ptr B 1 0 0] h = some (v, g') ∧ v = .tup [] ∧ J (cutR l m M s).length g' by
    obtain ⟨v, g', e1, rfl, e2⟩ := hx
    exact ⟨g', e1, e2⟩
  refine call_of (fn := a104) f104 (P := fun v g' => v = .tup [] ∧ J (cutR l m M s).length g') ?_
  have t12 : List.take 12 cs = cs := List.take_of_length_le (by omega)
  have k105 := c105 (n := n) (tot := tot) (ω := ω) (h := h) cs l m M hl h8 h9 h10 hok (by omega)
  have hBl := (List.getElem?_eq_some_iff.1 hB).1
  obtain ⟨ov, h2, k106, ⟨R, kv, hR, hc, es, tk, to, p1, p2, p3, p4, p5, p6⟩, hlow, hbel⟩ := c106 (n := n) (tot := tot) (ω := ω) (h := h ++ [CutV cs z16 (.int .i64 0) (.int .u32 0) (.int .u32 (topZ : Nat)) .nils]) cs l m M s dv h.length hl h8 h9 h10 hok hdv hs (by rw [hg0]; rfl) (by omega)
  have hB1 : (h ++ [CutV cs z16 (.int .i64 0) (.int .u32 0) (.int .u32 (topZ : Nat)) .nils])[B]? = some (.row 1 [dv]) := by rw [List.getElem?_append_left hBl]; exact hB
  have hkrd : IsRd 1 (bytesOf (opn l m M s s.length)) kv := isRd_app p2.1
  have hkone := rd_one hkrd
  have hRl : (intsOf .u8 R).length = 16 := by simp [intsOf,hR.len]
  have k107 := c107 (n := n) (tot := tot) (ω := ω) (h := h2) cs (intsOf .u8 R) h.length _ _ _ kv hl hRl hc (by omega) hkone
  have hol := opn_len l m M s s.length (Nat.le_refl _)
  have hpl := pcs_len (cutSt l m M s s.length).2 s
  have hel := p1.len
  obtain ⟨b1, b2, b3⟩ := cutSt_sum l m M s s.length
  generalize hh3 : h2.set h.length (CutV cs (intsOf .u8 R) (.int .i64 0) (.int .u32 0) (.int .u32 (topZ : Nat)) .nils) = h3 at *
  have p3' : TokAt 1 es h3 ov to := p3.keep fun j o hj ho => by
    have := p5 j hj
    rw [← hh3, List.getElem?_set_ne (by omega)]; exact ho
  obtain ⟨ov', h4, y1, y2, y3, y4, cy, rfl⟩ := tok_app (bytes := 24) (xs := [kv]) p3' (by simp) (by simp; omega)
  have hh3l : h3.length = h2.length := by rw [← hh3]; simp
  have hB4 : Below h.length h h4 := by
    refine ⟨by simp at hlow; omega, fun j hj => ?_⟩
    have e1 : h[j]? = some h[j] := List.getElem?_eq_getElem hj
    have e2 : h3[j]? = some h[j] := by
      rw [← hh3, List.getElem?_set_ne (by omega), hbel j hj, List.getElem?_append_left hj]; exact e1
    rw [e1, y4 j _ e2 (fun ee => by have := p5 _ ee; omega)]
  have hkn := rd_nt hkrd
  have hkc := rd_cells hkrd
  have hks := rd_sub hkrd 1
  have hkl := IsRd.len hkrd
  rw [bytesOf_len, hol] at hkl
  have hll : (es ++ [kv]).length = (cutSt l m M s s.length).2.length + 1 := by simp; omega
  obtain ⟨q1, q2⟩ := pcs_cut l m M s
  obtain ⟨r1, r2, r3⟩ := cutR_sum l m M s
  have hcl := pcs_len (cutR l m M s) s
  -- what stands at a place
  have hat : ∀ i (hi : i < (cutR l m M s).length), ∃ c, (es ++ [kv])[i]? = some (.imm 1 (bytesOf ((pcs (cutR l m M s) s)[i]'(by omega))) c) := fun i hi => by
    by_cases h0 : 0 < (cutSt l m M s s.length).1
    · obtain ⟨e1, e2⟩ := q1 h0
      have hne : bytesOf (opn l m M s s.length) ≠ [] := fun e => by
        have := congrArg List.length e
        rw [bytesOf_len, hol] at this
        simp at this; omega
      obtain ⟨c, rfl⟩ := p2.1.imm hne
      have hpe := p1.app (p := opn l m M s s.length) ⟨c, rfl⟩
      rw [← e2] at hpe
      exact hpe.get (by omega)
    · have e1 := q2 (by omega)
      simp only [e1] at hi ⊢
      obtain ⟨c, e⟩ := p1.get (i := i) (by omega)
      exact ⟨c, by rw [List.getElem?_append_left (by omega)]; exact e⟩
  have hK : (cutR l m M s).length = (cutSt l m M s s.length).2.length + (if 0 < (cutSt l m M s s.length).1 then 1 else 0) := by
    by_cases h0 : 0 < (cutSt l m M s s.length).1
    · rw [if_pos h0, (q1 h0).1]; simp
    · rw [if_neg h0, q2 (by omega)]; simp
  have hds := rd_sub hdv 1
  have hsum : ∀ i, ((cutR l m M s).take i).sum ≤ s.length := fun i => by
    rw [← r1]
    conv => rhs; rw [← List.take_append_drop i (cutR l m M s)]
    rw [List.sum_append]; omega
  unfold a104
  simp (maxSteps := 2000000) (discharger := omega) only [xz,xc,xo,xr,x0,x1,x3,x4,x5,xd,xb,kont_call,selems,srcElems,partEs,placeEs,Reg.isA,Reg.isV,Reg.stays,Reg.onto,↓reduceIte,reduceCtorEq,Nat.reduceEqDiff,Nat.reduceLT,Nat.reduceAdd,Nat.zero_lt_succ,List.set_cons_zero,int_bne_f,nat_le_t,hA,hB1,hds,t12,hl,k105,k106,k107,y1,List.replicate,hkn,hkc,p3'.1.isRow,hll]
  refine wpi_loop (fun x r g => ∃ i : Nat, r = [(0, .val (.yld L)), (6, .val (.int .i64 (((cutR l m M s).take i).sum : Nat))), (22, .val (.imm 1 (es ++ [kv]) cy)), (23, .val (.int .i64 ((cutSt l m M s s.length).2.length + 1 : Nat))), (24, .val (.int .i64 i))] ∧ x = (cutSt l m M s s.length).2.length + 1 - i ∧ i ≤ (cutSt l m M s s.length).2.length + 1 ∧ J (min i (cutR l m M s).length) g) ((cutSt l m M s s.length).2.length + 1) (by omega)
    ⟨0, rfl, rfl, by omega, by rw [Nat.zero_min]; exact hJ0 _ hB4⟩ ?_
  rintro x r g ⟨i, rfl, rfl, hi, hJi⟩
  by_cases hlt : i < (cutSt l m M s s.length).2.length + 1
  · by_cases hiK : i < (cutR l m M s).length
    · obtain ⟨c, hci⟩ := hat i hiK
      rw [Nat.min_eq_left (by omega)] at hJi
      obtain ⟨g', k1, k2⟩ := hJ i (by omega) g c hJi
      have hln := pcs_pos (cutR l m M s) s i (by omega) (by omega)
      have hgd : (cutR l m M s).getD i 0 = (cutR l m M s)[i] := by simp [List.getD,hiK]
      have hge : 1 ≤ (cutR l m M s)[i] := r2 _ (List.getElem_mem hiK)
      have hsm : ((cutR l m M s).take (i + 1)).sum = ((cutR l m M s).take i).sum + (cutR l m M s)[i] := by
        rw [List.take_succ_eq_append_getElem hiK, List.sum_append]; simp
      have hb1 := hsum (i + 1)
      rw [hgd] at hln
      generalize (pcs (cutR l m M s) s)[i]'(by omega) = pc at *
      simp (maxSteps := 2000000) (discharger := omega) only [xz,xc,xo,xr,x0,x1,x2,x4,xd,xe,kont_round,Reg.isA,Reg.isV,Reg.stays,Reg.onto,↓reduceIte,reduceCtorEq,Nat.reduceEqDiff,Nat.reduceLT,beq_self_eq_true,wrap_i64,int_lt_t,int_le_t,hci,hln,k1]
      exact ⟨(cutSt l m M s s.length).2.length + 1 - (i + 1), by omega, i + 1, by rw [hsm, show ((i : Nat) : Int) + 1 = ((i + 1 : Nat) : Int) by omega]; simp only [Int.natCast_add], rfl, by omega, by rw [Nat.min_eq_left (by omega)]; exact k2⟩
    · have h0 : ¬ 0 < (cutSt l m M s s.length).1 := fun h0 => by rw [if_pos h0] at hK; omega
      rw [if_neg h0] at hK
      obtain rfl : i = (cutSt l m M s s.length).2.length := by omega
      have hci : (es ++ [kv])[(cutSt l m M s s.length).2.length]? = some kv := by rw [List.getElem?_append_right (by omega), hel, hpl, Nat.sub_self]; rfl
      have hkl0 : lenSl kv = some 0 := by rw [hkl]; congr 1; omega
      rw [Nat.min_eq_right (by omega)] at hJi
      have hb1 := hsum (cutSt l m M s s.length).2.length
      have ht : ∀ j, (cutR l m M s).length ≤ j → ((cutR l m M s).take j).sum = s.length := fun j hj => by rw [List.take_of_length_le hj]; exact r1
      simp (maxSteps := 2000000) (discharger := omega) only [xz,xc,xo,xr,x0,x1,x4,xd,xb,Reg.isA,Reg.isV,Reg.stays,Reg.onto,↓reduceIte,reduceCtorEq,Nat.reduceEqDiff,Nat.reduceLT,Int.cast_ofNat_Int,wrap_i64,int_lt_t,int_lt_f,int_le_t,hci,hks,hkl0]
      exact ⟨0, by omega, (cutSt l m M s s.length).2.length + 1, by rw [Int.add_zero, ht _ (by omega), ht _ (by omega), show (((cutSt l m M s s.length).2.length : Nat) : Int) + 1 = (((cutSt l m M s s.length).2.length + 1 : Nat) : Int) by omega], by omega, by omega, by rw [Nat.min_eq_right (by omega)]; exact hJi⟩
  · obtain rfl : i = (cutSt l m M s s.length).2.length + 1 := by omega
    rw [Nat.min_eq_right (by rw [hK]; split <;> omega)] at hJi
    simp (maxSteps := 2000000) (discharger := omega) only [xz,xc,xo,xr,x1,xd,Reg.isA,Reg.isV,Reg.stays,Reg.onto,↓reduceIte,reduceCtorEq,Nat.reduceEqDiff,Nat.reduceLT,exists_eq_left',int_lt_f,Nat.sub_self]
    exact hJi
end
end Go.Proofs.YtpgmohjmpaifbaaDoor.Im

/- S21Eq: the two digests' steps are the same. -/
set_option linter.unusedVariables false
set_option linter.unusedSimpArgs false
open Go Go.Im
namespace Go.Proofs.YtpgmohjmpaifbaaDoor.Im

theorem wrapN (n : Nat) (h : n < 4294967296) : IntKind.u32.wrap (n : Int) = (n : Int) := by rw [wrap_u32_mod]; omega
theorem wrapN_mod (n : Nat) : IntKind.u32.wrap (n : Int) = ((n % 4294967296 : Nat) : Int) := by rw [wrap_u32_mod]; omega

theorem bvN (a : Nat) (h : a < 4294967296) : (BitVec.ofInt 32 (a : Int)).toNat = a := by
  simp only [BitVec.ofInt_natCast,BitVec.toNat_ofNat]
  exact Nat.mod_eq_of_lt h
theorem or_N (a b : Nat) (ha : a < 4294967296) (hb : b < 4294967296) : bitsI .or .u32 (a : Int) (b : Int) = ((a ||| b : Nat) : Int) := by
  have hl : a ||| b < 4294967296 := Nat.or_lt_two_pow (n := 32) ha hb
  show IntKind.u32.wrap (((BitVec.ofInt 32 (a : Int) ||| BitVec.ofInt 32 (b : Int)).toNat : Nat) : Int) = _
  rw [BitVec.toNat_or, bvN a ha, bvN b hb, wrapN _ hl]
theorem not_N (x : Nat) (hx : x < 4294967296) : not32 (x : Int) = ((4294967295 - x : Nat) : Int) := by
  have hl : 4294967295 - x < 4294967296 := by omega
  show IntKind.u32.wrap (((BitVec.ofInt 32 4294967295 ^^^ BitVec.ofInt 32 (x : Int)).toNat : Nat) : Int) = _
  have e : BitVec.ofInt 32 4294967295 = BitVec.allOnes 32 := by decide
  rw [e, BitVec.allOnes_xor, BitVec.toNat_not, bvN x hx]
  exact wrapN _ hl

def R32 (x : Int) : Prop := 0 ≤ x ∧ x < 4294967296
theorem R32.nat {x : Int} (h : R32 x) : ∃ n : Nat, x = (n : Int) ∧ n < 4294967296 := ⟨x.toNat, by have := h.1; omega, by have := h.1; have := h.2; omega⟩
theorem R32.of (n : Nat) (h : n < 4294967296) : R32 (n : Int) := ⟨by omega, by omega⟩
theorem R32.wrap (x : Int) : R32 (IntKind.u32.wrap x) := by rw [wrap_u32_mod]; exact ⟨by omega, by omega⟩
theorem R32.bits (op : BinOp) (x y : Int) : R32 (bitsI op .u32 x y) := R32.wrap _

theorem not_eq {x : Int} (h : R32 x) : not32 x = IntKind.u32.wrap (4294967295 - x) := by
  obtain ⟨n, rfl, hn⟩ := h.nat
  rw [not_N n hn, show (4294967295 : Int) - (n : Int) = ((4294967295 - n : Nat) : Int) by omega, wrapN _ (by omega)]

theorem turn_N (x : Nat) (hx : x < 4294967296) : ∀ k, k ≤ 32 → turnI (x : Int) k = ((x / 2 ^ k + x % 2 ^ k * 2 ^ (32 - k) : Nat) : Int)
  | 0, _ => by simp [turnI,Nat.mod_one]
  | k + 1, hk => by
    have ih := turn_N x hx k (by omega)
    have hp : (2 : Nat) ^ (32 - k) = 2 * 2 ^ (31 - k) := by rw [show 32 - k = (31 - k) + 1 by omega, Nat.pow_succ, Nat.mul_comm]
    have hq : (2 : Nat) ^ (k + 1) = 2 * 2 ^ k := by rw [Nat.pow_succ, Nat.mul_comm]
    have hm : x % 2 ^ (k + 1) = x % 2 ^ k + 2 ^ k * (x / 2 ^ k % 2) := by rw [Nat.pow_succ, Nat.mod_mul]
    have hd : x / 2 ^ (k + 1) = x / 2 ^ k / 2 := by rw [Nat.pow_succ, Nat.div_div_eq_div_mul]
    have h31 : (2 : Nat) ^ k * 2 ^ (31 - k) = 2147483648 := by rw [← Nat.pow_add, show k + (31 - k) = 31 by omega]
    have hlt : x % 2 ^ k < 2 ^ k := Nat.mod_lt _ (Nat.two_pow_pos k)
    have hr : x % 2 ^ k * 2 ^ (31 - k) < 2147483648 := by
      rw [← h31]; exact Nat.mul_lt_mul_of_pos_right hlt (Nat.two_pow_pos _)
    have hle : x / 2 ^ k ≤ x := Nat.div_le_self _ _
    have hsum : x / 2 ^ k / 2 + x % 2 ^ k * 2 ^ (31 - k) < 2147483648 := by
      have a1 : x / 2 ^ k / 2 < 2 ^ (31 - k) := by
        rw [Nat.div_div_eq_div_mul, Nat.div_lt_iff_lt_mul (by have := Nat.two_pow_pos k; omega)]
        have : 2 ^ (31 - k) * (2 ^ k * 2) = 4294967296 := by rw [← Nat.mul_assoc, Nat.mul_comm (2 ^ (31 - k)), h31]
        omega
      have a2 : (x % 2 ^ k + 1) * 2 ^ (31 - k) ≤ 2 ^ k * 2 ^ (31 - k) := Nat.mul_le_mul_right _ hlt
      rw [h31, Nat.add_mul, Nat.one_mul] at a2
      omega
    have e32 : 32 - (k + 1) = 31 - k := by omega
    show IntKind.u32.wrap (IntKind.u32.wrap ((turnI x k).tdiv 2) + IntKind.u32.wrap ((turnI x k).tmod 2 * 2147483648)) = _
    rw [ih, hp, hm, hd, e32]
    have hdist : (x % 2 ^ k + 2 ^ k * (x / 2 ^ k % 2)) * 2 ^ (31 - k) = x % 2 ^ k * 2 ^ (31 - k) + 2147483648 * (x / 2 ^ k % 2) := by
      rw [Nat.add_mul, Nat.mul_right_comm, h31]
    rw [hdist]
    have ht : x % 2 ^ k * (2 * 2 ^ (31 - k)) = 2 * (x % 2 ^ k * 2 ^ (31 - k)) := by rw [Nat.mul_left_comm]
    rw [ht]
    generalize x % 2 ^ k * 2 ^ (31 - k) = r at *
    generalize x / 2 ^ k = q at *
    rw [tdiv_pos (by omega), tmod_pos (by omega), show (((q + 2 * r : Nat) : Int) / 2) = ((q / 2 + r : Nat) : Int) by omega, show (((q + 2 * r : Nat) : Int) % 2 * 2147483648) = ((q % 2 * 2147483648 : Nat) : Int) by omega]
    have hq2 : q % 2 < 2 := Nat.mod_lt _ (by decide)
    have hb : q / 2 + r < 4294967296 := by omega
    rw [wrapN _ hb, wrapN _ (by omega), show (((q / 2 + r : Nat) : Int) + ((q % 2 * 2147483648 : Nat) : Int)) = ((q / 2 + r + q % 2 * 2147483648 : Nat) : Int) by omega, wrapN]
    · congr 1; omega
    · omega

theorem rl_N (x : Nat) (hx : x < 4294967296) (s : Nat) (h1 : 1 ≤ s) (h2 : s ≤ 31) : rl (x : Int) s = ((x / 2 ^ (32 - s) + x % 2 ^ (32 - s) * 2 ^ s : Nat) : Int) := by
  have hp : (2 : Nat) ^ (32 - s) * 2 ^ s = 4294967296 := by rw [← Nat.pow_add, show 32 - s + s = 32 by omega]
  have hps := Nat.two_pow_pos s
  have hpq := Nat.two_pow_pos (32 - s)
  have hd : x / 2 ^ (32 - s) < 2 ^ s := by rw [Nat.div_lt_iff_lt_mul hpq, Nat.mul_comm, hp]; exact hx
  have hm : x * 2 ^ s % 4294967296 = x % 2 ^ (32 - s) * 2 ^ s := by rw [← hp, Nat.mul_mod_mul_right]
  have hml : x % 2 ^ (32 - s) * 2 ^ s < 4294967296 := by rw [← hp]; exact Nat.mul_lt_mul_of_pos_right (Nat.mod_lt _ hpq) hps
  have e1 : (x : Int) * 2 ^ s = ((x * 2 ^ s : Nat) : Int) := by simp
  have e2 : (x : Int).fdiv (2 ^ (32 - s)) = ((x / 2 ^ (32 - s) : Nat) : Int) := by
    rw [show ((2 : Int) ^ (32 - s)) = ((2 ^ (32 - s) : Nat) : Int) by simp, Int.fdiv_eq_ediv_of_nonneg _ (by omega)]; simp
  unfold rl
  rw [e1, wrapN_mod, hm, e2, or_N _ _ hml (Nat.lt_of_le_of_lt (Nat.div_le_self _ _) hx)]
  congr 1
  rw [Nat.mul_comm (x % 2 ^ (32 - s)), ← Nat.two_pow_add_eq_or_of_lt hd, Nat.add_comm]

theorem turn_rl {x : Int} (h : R32 x) (k : Nat) (h1 : 1 ≤ k) (h2 : k ≤ 31) : turnI x k = rl x (32 - k) := by
  obtain ⟨n, rfl, hn⟩ := h.nat
  rw [turn_N n hn k (by omega), rl_N n hn (32 - k) (by omega) (by omega), show 32 - (32 - k) = k by omega]

theorem or8 (x : Nat) (hx : x < 4294967296) (b : Nat) (hb : b < 256) : bitsI .or .u32 (IntKind.u32.wrap ((x : Int) * 256)) (b : Int) = add32 (IntKind.u32.wrap ((x : Int) * 256)) (b : Int) := by
  have e1 : (x : Int) * 256 = ((x * 256 : Nat) : Int) := by omega
  rw [e1, wrapN_mod]
  have hm : x * 256 % 4294967296 = 2 ^ 8 * (x % 16777216) := by omega
  rw [hm, or_N _ _ (by omega) (by omega), ← Nat.two_pow_add_eq_or_of_lt (i := 8) (by omega)]
  unfold add32
  rw [show (((2 ^ 8 * (x % 16777216) : Nat) : Int) + (b : Int)) = ((2 ^ 8 * (x % 16777216) + b : Nat) : Int) by omega, wrapN _ (by omega)]
theorem fdiv_eq {x : Int} (h : R32 x) (k : Int) (hk : 0 < k) : x.fdiv k = div32 x k := by
  have h0 := h.1
  have h1 := h.2
  unfold div32
  rw [tdiv_pos h0, Int.fdiv_eq_ediv_of_nonneg _ (by omega)]
  have a1 : 0 ≤ x / k := Int.ediv_nonneg h0 (by omega)
  have a2 : x / k ≤ x := Int.ediv_le_self _ h0
  rw [wrap_u32 a1 (by omega)]

theorem add32_R (x y : Int) : R32 (add32 x y) := R32.wrap _
def blkB (p : By) (a : Nat) : List Int := (List.range 64).map fun j => byt p (a + j)
theorem blkB_get (p : By) (a j : Nat) (hj : j < 64) : (blkB p a).getD j 0 = byt p (a + j) := by simp [blkB,List.getD,hj]
theorem byt_R (p : By) (j : Nat) : ∃ b : Nat, byt p j = (b : Int) ∧ b < 256 := ⟨_, rfl, (p.getD j 0).toNat_lt⟩

theorem word_eq (p : By) (a i : Nat) (hi : i < 16) : ∀ k, k ≤ 4 → word4 (blkB p a) i k = wordR p a i k ∧ R32 (wordR p a i k)
  | 0, _ => ⟨rfl, by show R32 0; exact ⟨by decide, by decide⟩⟩
  | k + 1, hk => by
    obtain ⟨h1, h2⟩ := word_eq p a i hi k (by omega)
    obtain ⟨b, hb, hb2⟩ := byt_R p (a + (4 * i + k))
    obtain ⟨n, hn, hn2⟩ := h2.nat
    refine ⟨?_, R32.wrap _⟩
    show bitsI .or .u32 (IntKind.u32.wrap (word4 (blkB p a) i k * 256)) ((blkB p a).getD (4 * i + k) 0) = add32 (IntKind.u32.wrap (wordR p a i k * 256)) (byt p (a + 4 * i + k))
    rw [h1, blkB_get _ _ _ (by omega), show a + 4 * i + k = a + (4 * i + k) by omega, hb, hn]
    exact or8 n hn2 b hb2

theorem getD_R {w : List Int} (h : ∀ x ∈ w, R32 x) (j : Nat) : R32 (w.getD j 0) := by
  by_cases hj : j < w.length
  · have : w.getD j 0 = w[j] := by simp [List.getD,hj]
    rw [this]; exact h _ (List.getElem_mem hj)
  · have : w.getD j 0 = 0 := by simp [List.getD,hj]
    rw [this]; exact ⟨by decide, by decide⟩

theorem next_eq (p : By) (a : Nat) (w : List Int) (i : Nat) (hw : ∀ x ∈ w, R32 x) : wNext (blkB p a) w i = wRNext p a w i ∧ R32 (wRNext p a w i) := by
  unfold wNext wRNext
  by_cases hi : i < 16
  · rw [if_pos hi, if_pos hi]; exact word_eq p a i hi 4 (Nat.le_refl _)
  · rw [if_neg hi, if_neg hi]
    have r1 := getD_R hw (i - 15)
    have r2 := getD_R hw (i - 2)
    rw [turn_rl r1 7 (by decide) (by decide), turn_rl r1 18 (by decide) (by decide), turn_rl r2 17 (by decide) (by decide), turn_rl r2 19 (by decide) (by decide), fdiv_eq r1 8 (by decide), fdiv_eq r2 1024 (by decide)]
    exact ⟨rfl, add32_R _ _⟩

theorem list_eq (p : By) (a : Nat) : ∀ i, wList (blkB p a) i = wRList p a i ∧ ∀ x ∈ wRList p a i, R32 x
  | 0 => ⟨rfl, by simp [wRList]⟩
  | i + 1 => by
    obtain ⟨h1, h2⟩ := list_eq p a i
    obtain ⟨h3, h4⟩ := next_eq p a (wRList p a i) i h2
    refine ⟨?_, fun x hx => ?_⟩
    · show wList (blkB p a) i ++ [wNext (blkB p a) (wList (blkB p a) i) i] = wRList p a i ++ [wRNext p a (wRList p a i) i]
      rw [h1, h3]
    · rcases List.mem_append.1 (show x ∈ wRList p a i ++ [wRNext p a (wRList p a i) i] from hx) with hx | hx
      · exact h2 x hx
      · rw [List.mem_singleton] at hx; rw [hx]; exact h4

structure S8.R (s : S8) : Prop where
  (a : R32 s.a) (b : R32 s.b) (c : R32 s.c) (d : R32 s.d) (e : R32 s.e) (f : R32 s.f) (g : R32 s.g) (h : R32 s.h)

theorem rnd_eq (s : S8) (k x : Int) (h : s.R) : rnd s k x = rndR s k x ∧ (rndR s k x).R := by
  have e1 : one s k x = oneR s k x := by
    unfold one oneR
    rw [turn_rl h.e 6 (by decide) (by decide), turn_rl h.e 11 (by decide) (by decide), turn_rl h.e 25 (by decide) (by decide), not_eq h.e]
  have e2 : two s = twoR s := by
    unfold two twoR
    rw [turn_rl h.a 2 (by decide) (by decide), turn_rl h.a 13 (by decide) (by decide), turn_rl h.a 22 (by decide) (by decide)]
  refine ⟨by unfold rnd rndR; rw [e1, e2], ⟨add32_R _ _, h.a, h.b, h.c, add32_R _ _, h.e, h.f, h.g⟩⟩
theorem rnds_eq (w : List Int) (s : S8) (h : s.R) : ∀ i, rnds w s i = rndsR w s i ∧ (rndsR w s i).R
  | 0 => ⟨rfl, h⟩
  | i + 1 => by
    obtain ⟨h1, h2⟩ := rnds_eq w s h i
    obtain ⟨h3, h4⟩ := rnd_eq (rndsR w s i) (roundsZ.getD i 0) (w.getD i 0) h2
    exact ⟨by show rnd (rnds w s i) _ _ = _; rw [h1, h3]; rfl, h4⟩
theorem mix_eq (s : S8) (p : By) (a : Nat) (h : s.R) : mixS s (blkB p a) = blkR s p a ∧ (blkR s p a).R := by
  obtain ⟨h1, h2⟩ := rnds_eq (wRList p a 64) s h 64
  refine ⟨?_, ⟨add32_R _ _, add32_R _ _, add32_R _ _, add32_R _ _, add32_R _ _, add32_R _ _, add32_R _ _, add32_R _ _⟩⟩
  unfold mixS blkR
  rw [(list_eq p a 64).1, h1]
theorem s0_R : s0.R := ⟨⟨by decide, by decide⟩, ⟨by decide, by decide⟩, ⟨by decide, by decide⟩, ⟨by decide, by decide⟩, ⟨by decide, by decide⟩, ⟨by decide, by decide⟩, ⟨by decide, by decide⟩, ⟨by decide, by decide⟩⟩
theorem blks_R (p : By) : ∀ m, (blksR p m).R
  | 0 => s0_R
  | m + 1 => (mix_eq _ p (64 * m) (blks_R p m)).2
theorem blks_next (p : By) (m : Nat) : mixS (blksR p m) (blkB p (64 * m)) = blksR p (m + 1) := (mix_eq _ p (64 * m) (blks_R p m)).1
end Go.Proofs.YtpgmohjmpaifbaaDoor.Im

/- Joined: S21Rs, S21Ru, S21Rv, S21Le, S21Cd, S21Eq, S21Sh, S21Di, S21Pd, S21Fm. -/
import Derived.Test.YtpgmohjmpaifbaaDoorCc
import Derived.Test.YtpgmohjmpaifbaaDoorImRng
/- S21Rs: the reference's digest: turns, the padded text. -/
set_option linter.unusedVariables false
set_option linter.unusedSimpArgs false
open Go Go.Im
namespace Go.Proofs.YtpgmohjmpaifbaaDoor.Im

def turnI (x : Int) : Nat → Int
  | 0 => x
  | k + 1 => IntKind.u32.wrap (IntKind.u32.wrap ((turnI x k).tdiv 2) + IntKind.u32.wrap ((turnI x k).tmod 2 * 2147483648))

section
variable {n : Nat} {tot : Bool} {ω : Nat → Nat} {h : Hp}

theorem c85 (x : Int) (k : Nat) (hk : k ≤ 32) (hn : 40 < n) : call F n tot ω 85 [.int .u32 x, .int .i64 k] h = some (.int .u32 (turnI x k), h) := by
  obtain ⟨n, rfl⟩ : ∃ m, n = m + 1 := ⟨n - 1, by omega⟩
  refine call_eq (fn := a85) f85 ?_
  unfold a85
  simp (maxSteps := 2000000) (discharger := omega) only [xz,xc,xo,xr,x0,Reg.isA,Reg.isV,Reg.stays,Reg.onto,↓reduceIte,reduceCtorEq,Nat.reduceEqDiff,Nat.reduceLT,Nat.reduceAdd]
  refine wpi_loop (fun y r g' => ∃ (i : Nat), r = [(0, .val (.int .u32 (turnI x i))), (1, .val (.int .i64 k)), (5, .val (.int .i64 i))] ∧ y = k - i ∧ i ≤ k ∧ g' = h) k (by omega)
    ⟨0, rfl, rfl, Nat.zero_le _, rfl⟩ ?_
  rintro y r g' ⟨i, rfl, rfl, hi, rfl⟩
  by_cases hlt : i < k
  · simp (maxSteps := 2000000) (discharger := omega) only [xz,xc,xo,xr,x0,x1,xd,Reg.isA,Reg.isV,Reg.stays,Reg.onto,↓reduceIte,reduceCtorEq,Nat.reduceEqDiff,Nat.reduceLT,wrap_i64,int_lt_t,int_eq_f]
    exact ⟨k - (i + 1), by omega, i + 1, by rw [show ((i : Nat) : Int) + 1 = ((i + 1 : Nat) : Int) by omega]; rfl, rfl, by omega⟩
  · obtain rfl : i = k := by omega
    simp (maxSteps := 2000000) (discharger := omega) only [xz,xc,xo,xr,x0,x1,xd,Reg.isA,Reg.isV,Reg.stays,Reg.onto,↓reduceIte,reduceCtorEq,Nat.reduceEqDiff,Nat.reduceLT,exists_eq_left',int_lt_f,Nat.sub_self]

theorem late_app0 {lo sz bytes : Nat} {es xs : List AV} {h : Hp} {v : AV} (hv : LateApp lo sz es h v) (hlo : lo ≤ h.length) (hb : (es.length + xs.length) * bytes ≤ 140737488355328) :
    ∃ v' h', appendV false sz bytes v xs h = some (v', h') ∧ LateApp lo sz (es ++ xs) h' v' ∧ Below lo h h' := by
  by_cases hx : xs = []
  · subst hx
    exact ⟨v, h, app_nil hv.1, by rw [List.append_nil]; exact hv, .refl _ _⟩
  · exact late_app hv hlo hx hb

def lenB (s : By) : Nat → By
  | 0 => []
  | k + 1 => lenB s k ++ [UInt8.ofNat (s.length * 8 / 256 ^ (7 - k) % 256)]
def padZ (s : By) : Nat := (119 - s.length % 64) % 64
def padR (s : By) : By := s ++ [128] ++ List.replicate (padZ s) 0 ++ lenB s 8

theorem lenB_len (s : By) : ∀ k, (lenB s k).length = k
  | 0 => rfl
  | k + 1 => by simp [lenB,lenB_len s k]
theorem padR_len (s : By) : (padR s).length % 64 = 0 ∧ (padR s).length = s.length + 9 + padZ s := by
  have : (padR s).length = s.length + 9 + padZ s := by simp [padR,lenB_len]; omega
  refine ⟨?_, this⟩
  rw [this]; unfold padZ; omega
theorem padZ_lt (s : By) : padZ s < 64 := Nat.mod_lt _ (by decide)

theorem u8_nat (x : Nat) (hx : x < 256) : (((UInt8.ofNat x).toNat : Nat) : Int) = (x : Int) := by
  have : (UInt8.ofNat x).toNat = x := by rw [UInt8.toNat_ofNat']; exact Nat.mod_eq_of_lt hx
  rw [this]

theorem c84 (s : By) (hs : s.length ≤ 1000000000) (hn : 80 < n) : ∃ h', call F n tot ω 84 [.str s] h = some (.str (padR s), h') ∧ Below h.length h h' := by
  obtain ⟨n, rfl⟩ : ∃ m, n = m + 1 := ⟨n - 1, by omega⟩
  suffices hx : ∃ v2 h', call F (n + 1) tot ω 84 [.str s] h = some (v2, h') ∧ v2 = .str (padR s) ∧ Below h.length h h' by
    obtain ⟨v2, h', e1, rfl, e2⟩ := hx
    exact ⟨h', e1, e2⟩
  refine call_of (fn := a84) f84 (P := fun v2 h' => v2 = .str (padR s) ∧ Below h.length h h') ?_
  unfold a84
  obtain ⟨v1, h1, w1, w2, w3⟩ := late_app0 (lo := h.length) (sz := 1) (bytes := 1) (xs := bytesOf s) (late_nils h.length 1 h) (Nat.le_refl _) (by simp [bytesOf]; omega)
  rw [List.nil_append] at w2
  obtain ⟨v2, h2, z1, z2, z3⟩ := late_app (bytes := 1) (xs := [.int .u8 128]) w2 w3.1 (by simp) (by simp [bytesOf]; omega)
  simp (maxSteps := 2000000) (discharger := omega) only [xz,xc,xo,xr,x0,x3,x5,xd,xb,selems,srcElems,partEs,placeEs,Reg.isA,Reg.isV,Reg.stays,Reg.onto,↓reduceIte,reduceCtorEq,Nat.reduceEqDiff,Nat.reduceLT,Nat.zero_lt_succ,List.set_cons_zero,w1,z1,w2.1.isRow,List.replicate]
  have hB2 := w3.trans z3
  have hZ := padZ_lt s
  have e128 : ∀ j, bytesOf (s ++ [128] ++ List.replicate j 0) ++ [.int .u8 0] = bytesOf (s ++ [128] ++ List.replicate (j + 1) 0) := fun j => by
    rw [List.replicate_succ', ← List.append_assoc]; simp [bytesOf]
  refine wpi_loop (fun y r g' => ∃ (j : Nat) (bv : AV), r = [(0, .val (.str s)), (3, .val bv)] ∧ y = padZ s - j ∧ j ≤ padZ s ∧ LateApp h.length 1 (bytesOf (s ++ [128] ++ List.replicate j 0)) g' bv ∧ Below h.length h g') (padZ s) (by omega)
    ⟨0, v2, rfl, rfl, Nat.zero_le _, by simpa [bytesOf] using z2, hB2⟩ ?_
  rintro y r g' ⟨j, bv, rfl, rfl, hj, hA, hB⟩
  have hlen := hA.1.len
  have hll : (bytesOf (s ++ [128] ++ List.replicate j 0)).length = s.length + 1 + j := by simp [bytesOf]; omega
  rw [hll] at hlen
  by_cases hlt : j < padZ s
  · obtain ⟨v3, h3, y1, y2, y3⟩ := late_app (bytes := 1) (xs := [.int .u8 0]) hA hB.1 (by simp) (by rw [hll]; simp; omega)
    have hne : ¬ ((s.length + 1 + j : Nat) : Int) % 64 = 56 := by unfold padZ at hlt; omega
    simp (maxSteps := 2000000) (discharger := omega) only [xz,xc,xo,xr,x0,x1,x3,x4,x5,xd,xb,selems,srcElems,partEs,placeEs,Reg.isA,Reg.isV,Reg.stays,Reg.onto,↓reduceIte,reduceCtorEq,Nat.reduceEqDiff,Nat.reduceLT,Nat.zero_lt_succ,List.set_cons_zero,int_eq_f,int_bne_t,hlen,tmod_pos,y1,hA.1.isRow,List.replicate]
    exact ⟨padZ s - (j + 1), by omega, j + 1, v3, rfl, rfl, by omega, by rw [← e128]; exact y2, hB.trans y3⟩
  · obtain rfl : j = padZ s := by omega
    have heq : ((s.length + 1 + padZ s : Nat) : Int) % 64 = 56 := by unfold padZ; omega
    have e8 : IntKind.u64.wrap ((s.length : Nat) : Int) = ((s.length : Nat) : Int) := wrap_u64 (by omega) (by omega)
    have e9 : IntKind.u64.wrap (((s.length : Nat) : Int) * 8) = ((s.length * 8 : Nat) : Int) := by rw [wrap_u64 (by omega) (by omega)]; omega
    simp (maxSteps := 2000000) (discharger := omega) only [xz,xc,xo,xr,x0,x1,x2,x4,xd,Reg.isA,Reg.isV,Reg.stays,Reg.onto,↓reduceIte,reduceCtorEq,Nat.reduceEqDiff,Nat.reduceLT,int_eq_f,int_bne_f,Nat.sub_self,hlen,tmod_pos,e8,e9]
    refine wpi_loop (fun y r g => ∃ (k : Nat) (bv : AV), r = [(3, .val bv), (4, .val (.int .u64 (s.length * 8 : Nat))), (5, .val (.int .i64 (7 - (k : Int))))] ∧ y = 8 - k ∧ k ≤ 8 ∧ LateApp h.length 1 (bytesOf (s ++ [128] ++ List.replicate (padZ s) 0 ++ lenB s k)) g bv ∧ Below h.length h g) 8 (by omega)
      ⟨0, bv, rfl, rfl, by omega, by simpa [lenB] using hA, hB⟩ ?_
    rintro y r g ⟨k, bv', rfl, rfl, hk, hA', hB'⟩
    by_cases hk8 : k < 8
    · simp (maxSteps := 2000000) (discharger := omega) only [xz,xc,xo,xr,x0,x1,xd,Reg.isA,Reg.isV,Reg.stays,Reg.onto,↓reduceIte,Nat.reduceEqDiff,Nat.reduceLT,int_le_t]
      refine wpi_loop (fun y r g2 => ∃ (q : Nat), r = [(3, .val bv'), (4, .val (.int .u64 (s.length * 8 : Nat))), (5, .val (.int .i64 (7 - (k : Int)))), (6, .val (.int .u64 (s.length * 8 / 256 ^ q : Nat))), (7, .val (.int .i64 q))] ∧ y = 7 - k - q ∧ q ≤ 7 - k ∧ g2 = g) (7 - k) (by omega)
        ⟨0, by simp, rfl, Nat.zero_le _, rfl⟩ ?_
      rintro y r g2 ⟨q, rfl, rfl, hq, rfl⟩
      have hle : s.length * 8 / 256 ^ q ≤ s.length * 8 := Nat.div_le_self _ _
      by_cases hqk : q < 7 - k
      · have e1 : s.length * 8 / 256 ^ (q + 1) = s.length * 8 / 256 ^ q / 256 := by rw [Nat.pow_succ, Nat.div_div_eq_div_mul]
        generalize s.length * 8 / 256 ^ q = x at *
        simp (maxSteps := 2000000) (discharger := omega) only [xz,xc,xo,xr,x0,x1,xd,Reg.isA,Reg.isV,Reg.stays,Reg.onto,↓reduceIte,Nat.reduceEqDiff,Nat.reduceLT,wrap_i64,int_lt_t,int_eq_f,tdiv_pos,wrap_u64]
        exact ⟨7 - k - (q + 1), by omega, q + 1, by rw [e1, show ((q : Nat) : Int) + 1 = ((q + 1 : Nat) : Int) by omega, show ((x : Nat) : Int) / 256 = ((x / 256 : Nat) : Int) by omega], rfl, by omega⟩
      · obtain rfl : q = 7 - k := by omega
        have e1 : lenB s (k + 1) = lenB s k ++ [UInt8.ofNat (s.length * 8 / 256 ^ (7 - k) % 256)] := rfl
        have e2 := u8_nat (s.length * 8 / 256 ^ (7 - k) % 256) (Nat.mod_lt _ (by decide))
        have hlk := lenB_len s k
        generalize s.length * 8 / 256 ^ (7 - k) = x at *
        have e3 : ((x : Nat) : Int) % 256 = (((UInt8.ofNat (x % 256)).toNat : Nat) : Int) := by rw [e2]; omega
        have e4 : (((UInt8.ofNat (x % 256)).toNat : Nat) : Int) ≤ 255 := by rw [e2]; omega
        obtain ⟨v3, h3, y1, y2, y3⟩ := late_app (bytes := 1) (xs := [.int .u8 ((UInt8.ofNat (x % 256)).toNat : Nat)]) hA' hB'.1 (by simp) (by simp [bytesOf,hlk]; omega)
        simp (maxSteps := 2000000) (discharger := omega) only [xz,xc,xo,xr,x0,x1,x2,x3,x5,xd,xb,selems,srcElems,partEs,placeEs,Reg.isA,Reg.isV,Reg.stays,Reg.onto,↓reduceIte,Nat.reduceEqDiff,Nat.reduceLT,Nat.zero_lt_succ,List.set_cons_zero,wrap_i64,int_lt_f,int_eq_f,Nat.sub_self,tmod_pos,e3,wrap_u8,y1,hA'.1.isRow,List.replicate]
        refine ⟨8 - (k + 1), by omega, k + 1, v3, by rw [show 7 - ((k : Nat) : Int) - 1 = 7 - ((k + 1 : Nat) : Int) by omega], rfl, by omega, ?_, hB'.trans y3⟩
        rw [e1, ← List.append_assoc]
        simpa [bytesOf] using y2
    · obtain rfl : k = 8 := by omega
      obtain ⟨cc, hcc⟩ := hA'.1.imm (by simp [bytesOf])
      subst hcc
      simp (maxSteps := 2000000) (discharger := omega) only [xz,xc,xo,xr,x0,x1,x2,xd,xe,xb,selems,Reg.isA,Reg.isV,Reg.stays,Reg.onto,↓reduceIte,Nat.reduceEqDiff,Nat.reduceLT,Int.cast_ofNat_Int,exists_eq_left',Int.reduceNeg,Int.reduceSub,int_le_f,Nat.sub_self]
      exact ⟨rfl, hB'⟩
end
end Go.Proofs.YtpgmohjmpaifbaaDoor.Im

/- S21Ru: the reference's digest. -/
set_option linter.unusedVariables false
set_option linter.unusedSimpArgs false
open Go Go.Im
namespace Go.Proofs.YtpgmohjmpaifbaaDoor.Im

def byt (p : By) (j : Nat) : Int := ((p.getD j 0).toNat : Nat)
def wordR (p : By) (at' i : Nat) : Nat → Int
  | 0 => 0
  | k + 1 => add32 (IntKind.u32.wrap (wordR p at' i k * 256)) (byt p (at' + 4 * i + k))
def div32 (x : Int) (k : Int) : Int := IntKind.u32.wrap (x.tdiv k)
def wRNext (p : By) (at' : Nat) (w : List Int) (i : Nat) : Int :=
  if i < 16 then wordR p at' i 4 else
    add32 (add32 (add32 (w.getD (i - 16) 0) (xor32 (xor32 (turnI (w.getD (i - 15) 0) 7) (turnI (w.getD (i - 15) 0) 18)) (div32 (w.getD (i - 15) 0) 8))) (w.getD (i - 7) 0))
      (xor32 (xor32 (turnI (w.getD (i - 2) 0) 17) (turnI (w.getD (i - 2) 0) 19)) (div32 (w.getD (i - 2) 0) 1024))
def wRList (p : By) (at' : Nat) : Nat → List Int
  | 0 => []
  | i + 1 => wRList p at' i ++ [wRNext p at' (wRList p at' i) i]
def oneR (s : S8) (k x : Int) : Int :=
  add32 (add32 (add32 (add32 s.h (xor32 (xor32 (turnI s.e 6) (turnI s.e 11)) (turnI s.e 25))) (xor32 (and32 s.e s.f) (and32 (IntKind.u32.wrap (4294967295 - s.e)) s.g))) k) x
def twoR (s : S8) : Int :=
  add32 (xor32 (xor32 (turnI s.a 2) (turnI s.a 13)) (turnI s.a 22)) (xor32 (xor32 (and32 s.a s.b) (and32 s.a s.c)) (and32 s.b s.c))
def rndR (s : S8) (k x : Int) : S8 := ⟨add32 (oneR s k x) (twoR s), s.a, s.b, s.c, add32 s.d (oneR s k x), s.e, s.f, s.g⟩
def rndsR (w : List Int) (s : S8) : Nat → S8
  | 0 => s
  | i + 1 => rndR (rndsR w s i) (roundsZ.getD i 0) (w.getD i 0)
def blkR (s : S8) (p : By) (at' : Nat) : S8 := addS s (rndsR (wRList p at' 64) s 64)
def s0 : S8 := ⟨1779033703, 3144134277, 1013904242, 2773480762, 1359893119, 2600822924, 528734635, 1541459225⟩
def blksR (p : By) : Nat → S8
  | 0 => s0
  | m + 1 => blkR (blksR p m) p (64 * m)

theorem wRList_len (p : By) (a : Nat) : ∀ i, (wRList p a i).length = i
  | 0 => rfl
  | i + 1 => by simp [wRList,wRList_len p a i]

theorem io_get' {k : IntKind} {l : List Int} {j : Nat} (hj : j < l.length) : (intsOf k l)[j]? = some (.int k (l.getD j 0)) := by
  simp [intsOf,hj,List.getD]
theorem io_set' (k : IntKind) (l : List Int) (j : Nat) (v : Int) : (intsOf k l).set j (.int k v) = intsOf k (l.set j v) := by simp [intsOf,List.map_set]
theorem io_len' (k : IntKind) (l : List Int) : (intsOf k l).length = l.length := by simp [intsOf]
theorem nat_lt_t' {a b : Nat} (h : a < b) : (a < b) = True := eq_true h
theorem set_getD' (l : List Int) (i j : Nat) (v : Int) (hi : i < l.length) : (l.set i v).getD j 0 = if j = i then v else l.getD j 0 := by
  by_cases e : j = i
  · subst e; simp [List.getD,hi]
  · rw [if_neg e]; simp [List.getD,List.getElem?_set_ne (Ne.symm e)]

section
variable {n : Nat} {tot : Bool} {ω : Nat → Nat} {h : Hp}

theorem c83 : call F (n + 1) tot ω 83 [] h = some (.imm 1 (intsOf .u32 roundsZ) .full, h) := by kernel_rfl

theorem w_r53a (p : By) (a i : Nat) (V2 v3 v4 v7 : AV) (hp : a + 4 * i + 4 ≤ p.length) (hpl : p.length ≤ 2000000000) (hn : 5 < n) :
    Wp (kont F n tot ω) n r53a [(2, .var V2), (3, .val v3), (4, .val v4), (5, .val (.str p)), (6, .val (.int .i64 a)), (7, .val v7), (8, .val (.int .i64 i)), (9, .val (.int .u32 0))] h fun e r' h' => e = .normal ∧ h' = h ∧
      r' = [(2, .var V2), (3, .val v3), (4, .val v4), (5, .val (.str p)), (6, .val (.int .i64 a)), (7, .val v7), (8, .val (.int .i64 i)), (9, .val (.int .u32 (wordR p a i 4))), (10, .val (.int .i64 4)), (47, .val (.bool false))] := by
  unfold r53a
  simp (maxSteps := 2000000) (discharger := omega) only [xz,xc,xo,xr,x0,Reg.isA,Reg.isV,Reg.stays,Reg.onto,↓reduceIte,Nat.reduceEqDiff,Nat.reduceLT]
  refine wpi_loop (fun x r g => ∃ (k : Nat), r = [(2, .var V2), (3, .val v3), (4, .val v4), (5, .val (.str p)), (6, .val (.int .i64 a)), (7, .val v7), (8, .val (.int .i64 i)), (9, .val (.int .u32 (wordR p a i k))), (10, .val (.int .i64 k))] ∧ x = 4 - k ∧ k ≤ 4 ∧ g = h) 4 (by omega)
    ⟨0, rfl, rfl, by omega, rfl⟩ ?_
  rintro x r g ⟨k, rfl, rfl, hk, rfl⟩
  by_cases hk4 : k < 4
  · have e1 : ((a : Int) + 4 * (i : Int) + (k : Int)).toNat = a + 4 * i + k := by omega
    have hlt : a + 4 * i + k < p.length := by omega
    have q1 : p[a + 4 * i + k]? = some p[a + 4 * i + k] := List.getElem?_eq_getElem hlt
    have hb : p[a + 4 * i + k].toNat < 256 := p[a + 4 * i + k].toNat_lt
    have e2 : byt p (a + 4 * i + k) = ((p[a + 4 * i + k].toNat : Nat) : Int) := by unfold byt; simp [List.getD,hlt]
    simp (maxSteps := 2000000) (discharger := omega) only [xz,xc,xo,xr,x0,x1,x2,xd,Reg.isA,Reg.isV,Reg.stays,Reg.onto,↓reduceIte,Nat.reduceEqDiff,Nat.reduceLT,wrap_i64,int_lt_t,int_le_t,e1,q1,wrap_u32]
    refine ⟨4 - (k + 1), by omega, k + 1, ?_, rfl, by omega⟩
    rw [show ((k : Nat) : Int) + 1 = ((k + 1 : Nat) : Int) by omega, ← e2]; rfl
  · obtain rfl : k = 4 := by omega
    simp (maxSteps := 2000000) (discharger := omega) only [xz,xc,xo,xr,x0,x1,xd,Reg.isA,Reg.isV,Reg.stays,Reg.onto,↓reduceIte,Nat.reduceEqDiff,Nat.reduceLT,Int.cast_ofNat_Int,int_lt_f,Nat.sub_self]

theorem w_r53b (p : By) (a i lo id : Nat) (W : List Int) (V2 v3 v4 : AV) (hW : W.length = i) (hi : 16 ≤ i) (hi2 : i < 64) (hid : h[id]? = some (.row 1 (intsOf .u32 W))) (hlo : lo ≤ id) (hn : 50 < n) :
    Wp (kont F n tot ω) n r53b [(2, .var V2), (3, .val v3), (4, .val v4), (5, .val (.str p)), (6, .val (.int .i64 a)), (7, .val (.row id 1 0 i false)), (8, .val (.int .i64 i)), (45, .val (.bool false))] h fun e r' h' => e = .normal ∧
      ∃ v', r' = [(2, .var V2), (3, .val v3), (4, .val v4), (5, .val (.str p)), (6, .val (.int .i64 a)), (7, .val v'), (8, .val (.int .i64 i))] ∧ RowEx h' 1 lo (intsOf .u32 (W ++ [wRNext p a W i])) v' ∧ KeepR lo 1 h h' := by
  have hlt := (List.getElem?_eq_some_iff.1 hid).1
  obtain ⟨x, hx⟩ : ∃ x, x = wRNext p a W i := ⟨_, rfl⟩
  have hr : RowEx (h ++ [.row 1 [.int .u32 x]]) 1 lo (intsOf .u32 W) (.row id 1 0 i false) := .inr ⟨id, by rw [io_len', hW], by rw [List.getElem?_append_left hlt]; exact hid, hlo⟩
  obtain ⟨v', h2, w1, w2, w3⟩ := row_appx (bytes := 4) (xs := [.int .u32 x]) hr (by rw [io_len']; simp; omega) (by simp; omega)
  have e2 : ((i : Int) - 2).toNat = i - 2 := by omega
  have e7 : ((i : Int) - 7).toNat = i - 7 := by omega
  have e15 : ((i : Int) - 15).toNat = i - 15 := by omega
  have e16 : ((i : Int) - 16).toNat = i - 16 := by omega
  have k1 := fun x => c85 (n := n) (tot := false) (ω := fun _ => 0) (h := []) x 7 (by omega) (by omega)
  have k2 := fun x => c85 (n := n) (tot := false) (ω := fun _ => 0) (h := []) x 18 (by omega) (by omega)
  have k3 := fun x => c85 (n := n) (tot := false) (ω := fun _ => 0) (h := []) x 17 (by omega) (by omega)
  have k4 := fun x => c85 (n := n) (tot := false) (ω := fun _ => 0) (h := []) x 19 (by omega) (by omega)
  simp only [Int.cast_ofNat_Int] at k1 k2 k3 k4
  have hx' := hx
  unfold wRNext at hx'
  rw [if_neg (by omega)] at hx'
  simp only [add32,xor32,div32] at hx'
  unfold r53b
  simp (maxSteps := 2000000) (discharger := omega) only [xz,xc,xo,xr,x0,x1,x5,xd,xe,xb,kont_pure,selems,srcElems,partEs,placeEs,Reg.isA,Reg.isV,Reg.stays,Reg.onto,↓reduceIte,Nat.reduceEqDiff,Nat.reduceLT,Nat.zero_lt_succ,List.set_cons_zero,wrap_i64,int_lt_t,int_le_t,int_eq_f,nat_le_t,e2,e7,e15,e16,k1,k2,k3,k4,hid,io_get',← hx',hg0,w1,List.replicate,List.set_cons_zero]
  refine ⟨v', rfl, ?_, (KeepR.app _).trans w3⟩
  rw [← hx]
  simpa [intsOf] using w2

def R8 (s : S8) : Regs := [(13, .val (.int .u32 s.a)), (14, .val (.int .u32 s.b)), (15, .val (.int .u32 s.c)), (16, .val (.int .u32 s.d)), (17, .val (.int .u32 s.e)), (18, .val (.int .u32 s.f)), (19, .val (.int .u32 s.g)), (20, .val (.int .u32 s.h))]

set_option maxRecDepth 100000 in
set_option maxHeartbeats 1000000 in
theorem w_r53c (p : By) (a id : Nat) (W : List Int) (s : S8) (V2 v3 : AV) (c4 : Cap) (hW : W.length = 64) (hid : h[id]? = some (.row 1 (intsOf .u32 W))) (hn : 70 < n) :
    Wp (kont F n tot ω) n r53c ([(2, .var V2), (3, .val v3), (4, .val (.imm 1 (intsOf .u32 roundsZ) c4)), (5, .val (.str p)), (6, .val (.int .i64 a)), (7, .val (.row id 1 0 64 false))] ++ R8 s) h fun e r' h' => e = .normal ∧ h' = h ∧
      r' = [(2, .var V2), (3, .val v3), (4, .val (.imm 1 (intsOf .u32 roundsZ) c4)), (5, .val (.str p)), (6, .val (.int .i64 a)), (7, .val (.row id 1 0 64 false))] ++ (R8 (rndsR W s 64) ++ [(21, .val (.int .i64 64)), (149, .val (.bool false))]) := by
  have hR : roundsZ.length = 64 := rfl
  have k1 := fun x => c85 (n := n) (tot := false) (ω := fun _ => 0) (h := []) x 6 (by omega) (by omega)
  have k2 := fun x => c85 (n := n) (tot := false) (ω := fun _ => 0) (h := []) x 11 (by omega) (by omega)
  have k3 := fun x => c85 (n := n) (tot := false) (ω := fun _ => 0) (h := []) x 25 (by omega) (by omega)
  have k4 := fun x => c85 (n := n) (tot := false) (ω := fun _ => 0) (h := []) x 2 (by omega) (by omega)
  have k5 := fun x => c85 (n := n) (tot := false) (ω := fun _ => 0) (h := []) x 13 (by omega) (by omega)
  have k6 := fun x => c85 (n := n) (tot := false) (ω := fun _ => 0) (h := []) x 22 (by omega) (by omega)
  simp only [Int.cast_ofNat_Int] at k1 k2 k3 k4 k5 k6
  unfold r53c R8
  simp (maxSteps := 2000000) (discharger := omega) only [xz,xc,xo,xr,x0,Reg.isA,Reg.isV,Reg.stays,Reg.onto,↓reduceIte,Nat.reduceEqDiff,Nat.reduceLT]
  refine wpi_loop (fun x r g => ∃ (i : Nat) (t : S8), r = [(2, .var V2), (3, .val v3), (4, .val (.imm 1 (intsOf .u32 roundsZ) c4)), (5, .val (.str p)), (6, .val (.int .i64 a)), (7, .val (.row id 1 0 64 false))] ++ (R8 t ++ [(21, .val (.int .i64 i))]) ∧ x = 64 - i ∧ i ≤ 64 ∧ g = h ∧ t = rndsR W s i) 64 (by omega)
    ⟨0, s, rfl, rfl, by omega, rfl, rfl⟩ ?_
  rintro x r g ⟨i, t, rfl, rfl, hi, rfl, ht⟩
  unfold R8
  by_cases hi2 : i < 64
  · simp (maxSteps := 2000000) (discharger := omega) only [xz,xc,xo,xr,x0,x1,xd,xe,kont_pure,Reg.isA,Reg.isV,Reg.stays,Reg.onto,↓reduceIte,Nat.reduceEqDiff,Nat.reduceLT,Int.cast_ofNat_Int,wrap_i64,int_lt_t,int_le_t,k1,k2,k3,k4,k5,k6,hid,io_get']
    refine ⟨64 - (i + 1), by omega, i + 1, rndR t (roundsZ.getD i 0) (W.getD i 0), by rw [show ((i : Nat) : Int) + 1 = ((i + 1 : Nat) : Int) by omega]; rfl, rfl, by omega, by rw [ht]; rfl⟩
  · obtain rfl : i = 64 := by omega
    subst ht
    simp (maxSteps := 2000000) (discharger := omega) only [xz,xc,xo,xr,x0,x1,xd,Reg.isA,Reg.isV,Reg.stays,Reg.onto,↓reduceIte,Nat.reduceEqDiff,Nat.reduceLT,Int.cast_ofNat_Int,int_lt_f,Nat.sub_self]

set_option maxHeartbeats 1000000 in
theorem w_r53d (p : By) (a id sid lo : Nat) (s t : S8) (V2 v4 v7 : AV) (hsid : h[sid]? = some (.row 1 (intsOf .u32 s.list))) (hlo : lo ≤ sid) (hn : 20 < n) :
    Wp (kont F n tot ω) n r53d ([(2, .var V2), (3, .val (.row sid 1 0 8 false)), (4, .val v4), (5, .val (.str p)), (6, .val (.int .i64 a)), (7, .val v7)] ++ (R8 t ++ [(21, .val (.int .i64 64)), (149, .val (.bool false))])) h fun e r' h' => e = .normal ∧
      (∃ u v, r' = [(2, .var V2), (3, .val (.row sid 1 0 8 false)), (4, .val v4), (5, .val (.str p)), (6, .val (.int .i64 a)), (24, .val u), (25, .val v), (223, .val (.bool false))]) ∧ h'[sid]? = some (.row 1 (intsOf .u32 (addS s t).list)) ∧ KeepR lo 1 h h' := by
  have hl8 : ∀ t : S8, t.list.length = 8 := fun t => rfl
  have q8 : s.list.length = 8 := rfl
  have q8' : t.list.length = 8 := rfl
  have hlt := (List.getElem?_eq_some_iff.1 hsid).1
  have hT : [AV.int .u32 t.a, AV.int .u32 t.b, AV.int .u32 t.c, AV.int .u32 t.d, AV.int .u32 t.e, AV.int .u32 t.f, AV.int .u32 t.g, AV.int .u32 t.h] = intsOf .u32 t.list := rfl
  unfold r53d R8
  simp (maxSteps := 2000000) (discharger := omega) only [xz,xc,xo,xr,x0,x5,xd,partEs,placeEs,Reg.isA,Reg.isV,Reg.stays,Reg.onto,↓reduceIte,Nat.reduceEqDiff,Nat.reduceLT,Nat.reduceAdd,Nat.zero_lt_succ,List.set_cons_zero,List.set_cons_succ,List.replicate,List.set_cons_zero,List.set_cons_succ]
  rw [hT]
  refine wpi_loop (fun x r g => ∃ (i : Nat) (L : List Int), r = [(2, .var V2), (3, .val (.row sid 1 0 8 false)), (4, .val v4), (5, .val (.str p)), (6, .val (.int .i64 a)), (24, .val (.row h.length 1 0 8 false)), (25, .val (.int .i64 i))] ∧ x = 8 - i ∧ i ≤ 8 ∧ L.length = 8 ∧
    (∀ j, L.getD j 0 = if j < i then (addS s t).list.getD j 0 else s.list.getD j 0) ∧ g[sid]? = some (.row 1 (intsOf .u32 L)) ∧ g[h.length]? = some (.row 1 (intsOf .u32 t.list)) ∧ KeepR lo 1 h g) 8 (by omega)
    ⟨0, s.list, rfl, rfl, by omega, rfl, fun j => by rw [if_neg (by omega)], by rw [List.getElem?_append_left hlt]; exact hsid, by simp, .app _⟩ ?_
  rintro x r g ⟨i, L, rfl, rfl, hi, hL, hg, g1, g2, g3⟩
  by_cases hi2 : i < 8
  · have hs1 := (List.getElem?_eq_some_iff.1 g1).1
    have hne : sid ≠ h.length := by omega
    simp (maxSteps := 2000000) (discharger := omega) only [xz,xc,xo,xr,x0,x1,x5,xd,wr,Reg.isA,Reg.isV,Reg.stays,Reg.onto,↓reduceIte,Nat.reduceEqDiff,Nat.reduceLT,Int.cast_ofNat_Int,xu,wrap_i64,int_lt_t,int_le_t,g1,g2,io_get',io_set']
    refine ⟨8 - (i + 1), by omega, i + 1, L.set i (add32 (L.getD i 0) (t.list.getD i 0)), by rw [show ((i : Nat) : Int) + 1 = ((i + 1 : Nat) : Int) by omega], rfl, by omega, by simpa using hL, fun j => ?_, by rw [get_set_self hs1]; rfl, by rw [get_set_ne hne]; exact g2, g3.trans (.set g1 hlo)⟩
    rw [set_getD' _ _ _ _ (by omega)]
    have h1 := hg i
    rw [if_neg (by omega)] at h1
    by_cases e : j = i
    · rw [if_pos e, if_pos (by omega), e, h1]
      match i, hi2 with
      | 0, _ => rfl
      | 1, _ => rfl
      | 2, _ => rfl
      | 3, _ => rfl
      | 4, _ => rfl
      | 5, _ => rfl
      | 6, _ => rfl
      | 7, _ => rfl
    · rw [if_neg e, hg j]
      by_cases e2 : j < i
      · rw [if_pos e2, if_pos (by omega)]
      · rw [if_neg e2, if_neg (by omega)]
  · obtain rfl : i = 8 := by omega
    have : L = (addS s t).list := by
      apply List.ext_getElem (by rw [hL]; rfl)
      intro j h1 h2
      have := hg j
      rw [if_pos (by omega)] at this
      simpa [List.getD, h1, h2] using this
    subst this
    simp (maxSteps := 2000000) (discharger := omega) only [xz,xc,xo,xr,x0,x1,xd,Reg.isA,Reg.isV,Reg.stays,Reg.onto,↓reduceIte,Nat.reduceEqDiff,Nat.reduceLT,Int.cast_ofNat_Int,int_lt_f,Nat.sub_self]
    exact ⟨⟨_, _, rfl⟩, g1, g3⟩

def divI (x : Int) : Nat → Int
  | 0 => x
  | k + 1 => div32 (divI x k) 256
def byteI (x : Int) (k : Nat) : Int := IntKind.u8.wrap ((divI x k).tmod 256)
def keyI (L : List Int) : List Int := (List.range 32).map fun t => byteI (L.getD (t / 4) 0) (3 - t % 4)
def Z32R : List Int := List.replicate 32 0

theorem keyI_get (L : List Int) (t : Nat) (ht : t < 32) : (keyI L).getD t 0 = byteI (L.getD (t / 4) 0) (3 - t % 4) := by
  simp [keyI,List.getD,ht]
theorem keyI_len (L : List Int) : (keyI L).length = 32 := by simp [keyI]

set_option maxRecDepth 100000 in
theorem w_r53e (sid : Nat) (L : List Int) (hL : L.length = 8) (hsid : h[sid]? = some (.row 1 (intsOf .u32 L))) (Vz : AV) (hVz : Vz = .agg (intsOf .u8 Z32R)) (v4 v5 v6 v37 : AV) (hn : 40 < n) :
    Wp (kont F n tot ω) n r53e [(2, .var Vz), (3, .val (.row sid 1 0 8 false)), (4, .val v4), (5, .val v5), (6, .val v6), (37, .val v37)] h (Ret [ARes.cell 2 true 32] fun v h2 => v = .agg (intsOf .u8 (keyI L)) ∧ h2 = h) := by
  have z32 : (AV.agg [AV.int .u8 0, AV.int .u8 0, AV.int .u8 0, AV.int .u8 0, AV.int .u8 0, AV.int .u8 0, AV.int .u8 0, AV.int .u8 0, AV.int .u8 0, AV.int .u8 0, AV.int .u8 0, AV.int .u8 0, AV.int .u8 0, AV.int .u8 0, AV.int .u8 0, AV.int .u8 0, AV.int .u8 0, AV.int .u8 0, AV.int .u8 0, AV.int .u8 0, AV.int .u8 0, AV.int .u8 0, AV.int .u8 0, AV.int .u8 0, AV.int .u8 0, AV.int .u8 0, AV.int .u8 0, AV.int .u8 0, AV.int .u8 0, AV.int .u8 0, AV.int .u8 0, AV.int .u8 0] : AV) = .agg (intsOf .u8 Z32R) := rfl
  have hz : Z32R.length = 32 := rfl
  subst hVz
  unfold r53e
  rw [z32]
  simp (maxSteps := 2000000) (discharger := omega) only [xz,xc,xo,xr,x0,Reg.isA,Reg.isV,Reg.stays,Reg.onto,↓reduceIte,Nat.reduceEqDiff,Nat.reduceLT]
  refine wpi_loop (fun x r g => ∃ (i : Nat) (K : List Int), r = [(2, .var (.agg (intsOf .u8 Z32R))), (3, .val (.row sid 1 0 8 false)), (26, .var (.agg (intsOf .u8 K))), (27, .val (.int .i64 i))] ∧ x = 8 - i ∧ i ≤ 8 ∧ g = h ∧ K.length = 32 ∧ ∀ t, t < 4 * i → K.getD t 0 = (keyI L).getD t 0) 8 (by omega)
    ⟨0, Z32R, rfl, rfl, by omega, rfl, rfl, fun t ht => by omega⟩ ?_
  rintro x r g ⟨i, K, rfl, rfl, hi, rfl, hK, hg⟩
  by_cases hi2 : i < 8
  · simp (maxSteps := 2000000) (discharger := omega) only [xz,xc,xo,xr,x0,x1,xd,Reg.isA,Reg.isV,Reg.stays,Reg.onto,↓reduceIte,Nat.reduceEqDiff,Nat.reduceLT,Int.cast_ofNat_Int,int_lt_t,int_le_t,hsid,io_get']
    refine wpi_loop (fun x r g2 => ∃ (q : Nat) (K2 : List Int), r = [(2, .var (.agg (intsOf .u8 Z32R))), (3, .val (.row sid 1 0 8 false)), (26, .var (.agg (intsOf .u8 K2))), (27, .val (.int .i64 i)), (28, .val (.int .u32 (divI (L.getD i 0) q))), (29, .val (.int .i64 (3 - (q : Int))))] ∧ x = 4 - q ∧ q ≤ 4 ∧ g2 = g ∧ K2.length = 32 ∧
      (∀ t, t < 4 * i → K2.getD t 0 = (keyI L).getD t 0) ∧ ∀ t, 4 * i + 4 - q ≤ t → t < 4 * i + 4 → K2.getD t 0 = (keyI L).getD t 0) 4 (by omega)
      ⟨0, K, rfl, rfl, by omega, rfl, hK, hg, fun t h1 h2 => by omega⟩ ?_
    rintro x r g2 ⟨q, K2, rfl, rfl, hq, rfl, hK2, hg2, hg3⟩
    by_cases hq4 : q < 4
    · have e1 : (4 * (i : Int) + (3 - (q : Int))).toNat = 4 * i + 3 - q := by omega
      simp (maxSteps := 2000000) (discharger := omega) only [xz,xc,xo,xr,x0,x1,x2,x5,xd,xe,wr,Reg.isA,Reg.isV,Reg.stays,Reg.onto,↓reduceIte,Nat.reduceEqDiff,Nat.reduceLT,Int.cast_ofNat_Int,xu,wrap_i64,int_lt_t,int_le_t,int_eq_f,e1,io_set',hK2,nat_lt_t',Nat.mul_one]
      refine ⟨4 - (q + 1), by omega, q + 1, K2.set (4 * i + 3 - q) (byteI (L.getD i 0) q), ?_, rfl, by omega, by simpa using hK2, fun t ht => ?_, fun t h1 h2 => ?_⟩
      · rw [show 3 - ((q : Nat) : Int) - 1 = 3 - ((q + 1 : Nat) : Int) by omega]; rfl
      · rw [set_getD' _ _ _ _ (by omega), if_neg (by omega)]; exact hg2 t ht
      · rw [set_getD' _ _ _ _ (by omega)]
        by_cases e : t = 4 * i + 3 - q
        · rw [if_pos e, keyI_get _ _ (by omega)]
          rw [show t / 4 = i by omega, show 3 - t % 4 = q by omega]
        · rw [if_neg e]; exact hg3 t (by omega) h2
    · obtain rfl : q = 4 := by omega
      simp (maxSteps := 2000000) (discharger := omega) only [xz,xc,xo,xr,x0,x1,xd,Reg.isA,Reg.isV,Reg.stays,Reg.onto,↓reduceIte,Nat.reduceEqDiff,Nat.reduceLT,Int.cast_ofNat_Int,Int.reduceNeg,Int.reduceSub,wrap_i64,int_le_f,Nat.sub_self]
      refine ⟨8 - (i + 1), by omega, i + 1, K2, by rw [show ((i : Nat) : Int) + 1 = ((i + 1 : Nat) : Int) by omega], rfl, by omega, hK2, fun t ht => ?_⟩
      by_cases e : t < 4 * i
      · exact hg2 t e
      · exact hg3 t (by omega) (by omega)
  · obtain rfl : i = 8 := by omega
    have : K = keyI L := by
      apply List.ext_getElem (by rw [hK, keyI_len])
      intro j h1 h2
      have := hg j (by omega)
      simpa [List.getD, h1, h2] using this
    subst this
    have ht : (intsOf .u8 (keyI L)).take 32 = intsOf .u8 (keyI L) := List.take_of_length_le (by rw [io_len', keyI_len]; exact Nat.le_refl _)
    have hd : List.drop 32 (intsOf .u8 Z32R) = [] := rfl
    simp (maxSteps := 2000000) (discharger := omega) only [xz,xc,xo,xr,x0,x1,x5,xd,xe,wr,Reg.isA,Reg.isV,Reg.stays,Reg.onto,↓reduceIte,Nat.reduceEqDiff,Nat.reduceLT,Int.cast_ofNat_Int,exists_eq_left',xu,int_lt_f,nat_le_t,Nat.sub_self,keyI_len,ht,hd,hz]
end
end Go.Proofs.YtpgmohjmpaifbaaDoor.Im

/- S21Rv: the reference's digest, whole. -/
set_option linter.unusedVariables false
set_option linter.unusedSimpArgs false
open Go Go.Im
namespace Go.Proofs.YtpgmohjmpaifbaaDoor.Im

def shaR (s : By) : List Int := keyI (blksR (padR s) ((padR s).length / 64)).list

section
variable {n : Nat} {tot : Bool} {ω : Nat → Nat} {h : Hp}

theorem keepR_below {lo lo' : Nat} {h h' : Hp} (k : KeepR lo 1 h h') (hl : lo' ≤ lo) (hl2 : lo' ≤ h.length) : Below lo' h h' := ⟨k.1, fun i hi => by
  have e : h[i]? = some h[i] := List.getElem?_eq_getElem (by omega)
  rw [e]; exact k.2 i _ e (.inl (by omega))⟩
theorem keepR_get {lo i : Nat} {h h' : Hp} {o : AO} (k : KeepR lo 1 h h') (hi : i < lo) (e : h[i]? = some o) : h'[i]? = some o := k.2 i o e (.inl hi)

set_option maxRecDepth 100000 in
set_option maxHeartbeats 2000000 in
theorem c53 (s : By) (hs : s.length ≤ 1000000000) (hn : s.length + 200 < n) : ∃ h', call F n tot ω 53 [.str s] h = some (.agg (intsOf .u8 (shaR s)), h') ∧ Below h.length h h' := by
  obtain ⟨n, rfl⟩ : ∃ m, n = m + 1 := ⟨n - 1, by omega⟩
  suffices hx : ∃ v2 h', call F (n + 1) tot ω 53 [.str s] h = some (v2, h') ∧ v2 = .agg (intsOf .u8 (shaR s)) ∧ Below h.length h h' by
    obtain ⟨v2, h', e1, rfl, e2⟩ := hx
    exact ⟨h', e1, e2⟩
  refine call_of (fn := a53) f53 (P := fun v2 h' => v2 = .agg (intsOf .u8 (shaR s)) ∧ Below h.length h h') ?_
  have z32 : (AV.agg [AV.int .u8 0, AV.int .u8 0, AV.int .u8 0, AV.int .u8 0, AV.int .u8 0, AV.int .u8 0, AV.int .u8 0, AV.int .u8 0, AV.int .u8 0, AV.int .u8 0, AV.int .u8 0, AV.int .u8 0, AV.int .u8 0, AV.int .u8 0, AV.int .u8 0, AV.int .u8 0, AV.int .u8 0, AV.int .u8 0, AV.int .u8 0, AV.int .u8 0, AV.int .u8 0, AV.int .u8 0, AV.int .u8 0, AV.int .u8 0, AV.int .u8 0, AV.int .u8 0, AV.int .u8 0, AV.int .u8 0, AV.int .u8 0, AV.int .u8 0, AV.int .u8 0, AV.int .u8 0] : AV) = .agg (intsOf .u8 Z32R) := rfl
  have hs0 : [AV.int .u32 1779033703, AV.int .u32 3144134277, AV.int .u32 1013904242, AV.int .u32 2773480762, AV.int .u32 1359893119, AV.int .u32 2600822924, AV.int .u32 528734635, AV.int .u32 1541459225] = intsOf .u32 s0.list := rfl
  obtain ⟨h1, k84, hB1⟩ := c84 (n := n) (tot := tot) (ω := ω) (h := h ++ [.row 1 (intsOf .u32 s0.list)]) s hs (by omega)
  have k83 : ∀ h, call F n tot ω 83 [] h = some (.imm 1 (intsOf .u32 roundsZ) .full, h) := fun h => by
    obtain ⟨n', rfl⟩ : ∃ m, n = m + 1 := ⟨n - 1, by omega⟩
    exact c83
  obtain ⟨p1, p2⟩ := padR_len s
  have hZ := padZ_lt s
  obtain ⟨M, hM⟩ : ∃ M, (padR s).length = 64 * M := ⟨(padR s).length / 64, by omega⟩
  have hs1 : h1[h.length]? = some (.row 1 (intsOf .u32 s0.list)) := by
    rw [hB1.2 h.length (by simp)]; simp
  have hB2 : Below h.length h h1 := (Below.app h.length h _ (Nat.le_refl _)).trans (hB1.low (by simp))
  have hshaR : shaR s = keyI (blksR (padR s) M).list := by unfold shaR; rw [hM, Nat.mul_div_cancel_left _ (by decide)]
  rw [hshaR]
  generalize padR s = p at *
  unfold a53
  rw [z32]
  simp (maxSteps := 2000000) (discharger := omega) only [xz,xc,xo,xr,x0,x5,xd,kont_call,partEs,placeEs,Reg.isA,Reg.isV,Reg.stays,Reg.onto,↓reduceIte,reduceCtorEq,Nat.reduceEqDiff,Nat.reduceLT,Nat.reduceAdd,Nat.zero_lt_succ,List.set_cons_zero,List.set_cons_succ,k83,List.replicate,List.set_cons_zero,List.set_cons_succ]
  rw [hs0]
  simp (maxSteps := 2000000) (discharger := omega) only [xz,xc,xo,xr,x0,Reg.isA,Reg.isV,Reg.stays,Reg.onto,↓reduceIte,reduceCtorEq,Nat.reduceEqDiff,Nat.reduceLT,k84]
  generalize hVz : AV.agg (intsOf .u8 Z32R) = Vz
  refine wpi_loop (fun x r g => ∃ m : Nat, r = [(2, .var Vz), (3, .val (.row h.length 1 0 8 false)), (4, .val (.imm 1 (intsOf .u32 roundsZ) .full)), (5, .val (.str p)), (6, .val (.int .i64 (64 * m : Nat)))] ∧ x = M - m ∧ m ≤ M ∧
    g[h.length]? = some (.row 1 (intsOf .u32 (blksR p m).list)) ∧ Below h.length h g) M (by omega)
    ⟨0, rfl, rfl, Nat.zero_le _, hs1, hB2⟩ ?_
  rintro x r g ⟨m, rfl, rfl, hm, hg1, hg2⟩
  have hgl : h.length < g.length := (List.getElem?_eq_some_iff.1 hg1).1
  by_cases hlt : m < M
  · simp (maxSteps := 2000000) (discharger := omega) only [xz,xc,xo,xr,x0,x1,x4,xd,Reg.isA,Reg.isV,Reg.stays,Reg.onto,↓reduceIte,Nat.reduceEqDiff,Nat.reduceLT,int_lt_t,hM]
    refine wpi_loop (fun x r g' => ∃ (i : Nat) (v7 : AV), r = [(2, .var Vz), (3, .val (.row h.length 1 0 8 false)), (4, .val (.imm 1 (intsOf .u32 roundsZ) .full)), (5, .val (.str p)), (6, .val (.int .i64 (64 * m : Nat))), (7, .val v7), (8, .val (.int .i64 i))] ∧ x = 64 - i ∧ i ≤ 64 ∧
      RowEx g' 1 g.length (intsOf .u32 (wRList p (64 * m) i)) v7 ∧ KeepR g.length 1 g g') 64 (by omega)
      ⟨0, .nils, rfl, rfl, by omega, .inl ⟨rfl, rfl⟩, .refl⟩ ?_
    rintro x r g' ⟨i, v7, rfl, rfl, hi, hR, hK⟩
    have hwl := wRList_len p (64 * m) i
    by_cases hi64 : i < 64
    · by_cases h16 : i < 16
      · have ra := w_r53a (n := n) (tot := tot) (ω := ω) (h := g') p (64 * m) i Vz (.row h.length 1 0 8 false) (.imm 1 (intsOf .u32 roundsZ) .full) v7 (by omega) (by omega) (by omega)
        simp (maxSteps := 2000000) (discharger := omega) only [xz,xc,xo,xr,x0,x1,xd,Reg.isA,Reg.isV,Reg.stays,Reg.onto,↓reduceIte,Nat.reduceEqDiff,Nat.reduceLT,int_lt_t]
        refine ra.mono ?_
        rintro e r' h' ⟨rfl, rfl, rfl⟩
        have hR2 : RowEx (h' ++ [.row 1 [.int .u32 (wordR p (64 * m) i 4)]]) 1 g.length (intsOf .u32 (wRList p (64 * m) i)) v7 := hR.more
        obtain ⟨v', h2, w1, w2, w3⟩ := row_appx (bytes := 4) (xs := [.int .u32 (wordR p (64 * m) i 4)]) hR2 (by rw [io_len', hwl]; simp; omega) (by have := hK.1; simp; omega)
        simp (maxSteps := 2000000) (discharger := omega) only [xz,xc,xo,xr,x0,x1,x5,xd,xb,selems,srcElems,partEs,placeEs,Reg.isA,Reg.isV,Reg.stays,Reg.onto,↓reduceIte,Nat.reduceEqDiff,Nat.reduceLT,Nat.zero_lt_succ,List.set_cons_zero,wrap_i64,nat_le_t,hg0,w1,List.replicate,List.set_cons_zero]
        refine ⟨64 - (i + 1), by omega, i + 1, v', by rw [show ((i : Nat) : Int) + 1 = ((i + 1 : Nat) : Int) by omega], rfl, by omega, ?_, hK.trans ((KeepR.app _).trans w3)⟩
        have e : wRList p (64 * m) (i + 1) = wRList p (64 * m) i ++ [wordR p (64 * m) i 4] := by
          show wRList p (64 * m) i ++ [wRNext p (64 * m) (wRList p (64 * m) i) i] = _
          unfold wRNext; rw [if_pos h16]
        rw [e]
        simpa [intsOf] using w2
      · rcases hR with ⟨rfl, e0⟩ | ⟨id, rfl, hid, hlo⟩
        · have := congrArg List.length e0
          rw [io_len', hwl] at this
          simp at this
          omega
        · rw [io_len', hwl]
          have rb := w_r53b (n := n) (tot := tot) (ω := ω) (h := g') p (64 * m) i g.length id (wRList p (64 * m) i) Vz (.row h.length 1 0 8 false) (.imm 1 (intsOf .u32 roundsZ) .full) hwl (by omega) hi64 hid hlo (by omega)
          simp (maxSteps := 2000000) (discharger := omega) only [xz,xc,xo,xr,x0,x1,xd,Reg.isA,Reg.isV,Reg.stays,Reg.onto,↓reduceIte,Nat.reduceEqDiff,Nat.reduceLT,int_lt_t,int_lt_f]
          refine rb.mono ?_
          rintro e r' h' ⟨rfl, v', rfl, w2, w3⟩
          simp (maxSteps := 2000000) (discharger := omega) only [xz,xc,xo,xr,x0,x1,xd,Reg.isA,Reg.isV,Reg.stays,Reg.onto,↓reduceIte,Nat.reduceEqDiff,Nat.reduceLT,wrap_i64]
          exact ⟨64 - (i + 1), by omega, i + 1, v', by rw [show ((i : Nat) : Int) + 1 = ((i + 1 : Nat) : Int) by omega], rfl, by omega, w2, hK.trans w3⟩
    · obtain rfl : i = 64 := by omega
      rcases hR with ⟨rfl, e0⟩ | ⟨id, rfl, hid, hlo⟩
      · have := congrArg List.length e0
        rw [io_len', hwl] at this
        simp at this
      · rw [io_len', hwl]
        have hst := keepR_get hK hgl hg1
        have hst' : g'[h.length]? = some (.row 1 [.int .u32 (blksR p m).a, .int .u32 (blksR p m).b, .int .u32 (blksR p m).c, .int .u32 (blksR p m).d, .int .u32 (blksR p m).e, .int .u32 (blksR p m).f, .int .u32 (blksR p m).g, .int .u32 (blksR p m).h]) := hst
        have rc := w_r53c (n := n) (tot := tot) (ω := ω) (h := g') p (64 * m) id (wRList p (64 * m) 64) (blksR p m) Vz (.row h.length 1 0 8 false) .full hwl hid (by omega)
        simp (maxSteps := 2000000) (discharger := omega) only [xz,xc,xo,xr,x0,x1,xd,Reg.isA,Reg.isV,Reg.stays,Reg.onto,↓reduceIte,Nat.reduceEqDiff,Nat.reduceLT,Int.cast_ofNat_Int,Int.reduceToNat,int_lt_t,int_lt_f,int_le_t,Nat.sub_self,hst']
        refine rc.mono ?_
        rintro e r' h' ⟨rfl, rfl, rfl⟩
        have rd := w_r53d (n := n) (tot := tot) (ω := ω) (h := h') p (64 * m) id h.length h.length (blksR p m) (rndsR (wRList p (64 * m) 64) (blksR p m) 64) Vz (.imm 1 (intsOf .u32 roundsZ) .full) (.row id 1 0 64 false) hst (Nat.le_refl _) (by omega)
        rw [then_n]
        refine rd.mono ?_
        rintro e r' h2 ⟨rfl, ⟨u, v, rfl⟩, d1, d2⟩
        simp (maxSteps := 2000000) (discharger := omega) only [xz,xc,xo,xr,x0,x1,xd,Reg.isA,Reg.isV,Reg.stays,Reg.onto,↓reduceIte,Nat.reduceEqDiff,Nat.reduceLT,wrap_i64]
        refine ⟨M - (m + 1), by omega, m + 1, by rw [show ((64 * m : Nat) : Int) + 64 = ((64 * (m + 1) : Nat) : Int) by omega], rfl, by omega, d1, ?_⟩
        exact hg2.trans ((keepR_below hK (by omega) (by omega)).trans (keepR_below d2 (Nat.le_refl _) (by have := hK.1; omega)))
  · obtain rfl : m = M := by omega
    have re := w_r53e (n := n) (tot := tot) (ω := ω) (h := g) h.length (blksR p m).list rfl hg1 Vz hVz.symm (.imm 1 (intsOf .u32 roundsZ) .full) (.str p) (.int .i64 (64 * m : Nat)) (.bool false) (by omega)
    simp (maxSteps := 2000000) (discharger := omega) only [xz,xc,xo,xr,x0,x1,x4,xd,Reg.isA,Reg.isV,Reg.stays,Reg.onto,↓reduceIte,Nat.reduceEqDiff,Nat.reduceLT,int_lt_f,Nat.sub_self,hM]
    refine re.mono ?_
    intro e r' h' hq
    cases e with
    | exit i => exact hq.elim
    | normal => obtain ⟨v, h1, rfl, rfl⟩ := hq; exact ⟨_, h1, rfl, hg2⟩
    | ret => obtain ⟨v, h1, rfl, rfl⟩ := hq; exact ⟨_, h1, rfl, hg2⟩
end
end Go.Proofs.YtpgmohjmpaifbaaDoor.Im

/- S21Le: parts and leaves: held against one another, found, listed. -/
set_option linter.unusedVariables false
set_option linter.unusedSimpArgs false
open Go Go.Im
namespace Go.Proofs.YtpgmohjmpaifbaaDoor.Im

theorem w_regionA2 {K : Kont} {n : Nat} {r : Regs} {h : Hp} {Q : AE → Regs → Hp → Prop} (o1 o2 : List Nat) (ops : List AOper) (ks : List Nat) :
    Wp K n (.regionA [o1, o2] ops ks) r h Q = Wo K (inOrd ops o1) r h (fun r' h' => Wo K (inOrd ops o2) r h (Is r' h') ∧ Settle ks Q r' h') := by
  apply propext
  constructor
  · rintro ⟨e, r', h', h1, h2⟩
    simp only [exec,execA] at h1
    split at h1
    · rename_i r2 h3 e1
      split at e1
      · rename_i a1 b1 a2 b2 e2 e3
        split at e1
        · rename_i e4
          simp only [Bool.and_eq_true] at e4
          obtain ⟨e5, e6⟩ := e4
          obtain rfl := (eqRegs_iff _ _).1 e5
          obtain rfl := (eqHp_iff _ _).1 e6
          cases e1
          cases h1
          exact ⟨_, _, e2, ⟨_, _, e3, rfl, rfl⟩, h2⟩
        · cases e1
      · cases e1
    · cases h1
  · rintro ⟨r', h', h1, h2, h3⟩
    exact wpi_regionA2 h1 (execs_is h2) h3

structure Pt where
  k : List Int
  n : Int
  deriving DecidableEq
def Pt.cs (x : Pt) : List AV := intsOf .u8 x.k ++ [.int .i64 x.n]
def Pt.av (x : Pt) : AV := .agg x.cs
def Pt.ok (x : Pt) : Prop := x.k.length = 32
structure Lf where
  p : By
  ps : List Pt
  v : AV
def Lf.av (x : Lf) : AV := .agg [.str x.p, x.v]
structure Lf.ok (x : Lf) : Prop where
  rd : IsRd 33 (x.ps.map Pt.av) x.v
  all : ∀ q ∈ x.ps, q.ok

theorem rd_sub {sz : Nat} {es : List AV} {v : AV} (h : IsRd sz es v) (n : Nat) : sub v 0 n false = some v := by
  rcases h with ⟨e, _⟩ | ⟨c, e⟩ <;> rw [e] <;> rfl
theorem rd_nt {sz : Nat} {es : List AV} {v : AV} (h : IsRd sz es v) : v.notTup = true := by
  rcases h with ⟨e, _⟩ | ⟨c, e⟩ <;> rw [e] <;> rfl
theorem rd_cells {sz : Nat} {es : List AV} {v : AV} (h : IsRd sz es v) : v.cells = [v] := by
  rcases h with ⟨e, _⟩ | ⟨c, e⟩ <;> rw [e] <;> rfl
theorem rd_one {sz : Nat} {es : List AV} {v : AV} (h : IsRd sz es v) : v.one = true := by
  rcases h with ⟨e, _⟩ | ⟨c, e⟩ <;> rw [e] <;> rfl
theorem rd_el {sz : Nat} {es : List AV} {v : AV} (h : IsRd sz es v) (g : Hp) : elems g sz v = some es := by
  rcases h with ⟨e, e2⟩ | ⟨c, e⟩
  · rw [e, e2]; rfl
  · rw [e]; simp [elems]

theorem pt_len {x : Pt} (h : x.ok) : x.cs.length = 33 := by simp [Pt.cs,io_len']; exact h
theorem pt_take {x : Pt} (h : x.ok) : List.take 33 x.cs = x.cs := List.take_of_length_le (by rw [pt_len h]; exact Nat.le_refl _)
theorem eqCells_ints : ∀ (a b : List Int) (m n : Int), a.length = b.length → eqCells (List.replicate (a.length + 1) .i) (intsOf .u8 a ++ [.int .i64 m]) (intsOf .u8 b ++ [.int .i64 n]) = some (decide (a = b ∧ m = n))
  | [], [], m, n, _ => by
    by_cases e : m = n <;> simp [intsOf,eqCells,eqS,List.replicate,e]
  | x :: a, y :: b, m, n, h => by
    have ih := eqCells_ints a b m n (by simpa using h)
    simp only [List.length_cons,List.replicate_succ (n := a.length + 1),intsOf,List.map_cons,List.cons_append,eqCells,eqS,if_true] at ih ⊢
    rw [ih]
    by_cases e : x = y <;> simp [e]
  | [], _ :: _, _, _, h => by simp at h
  | _ :: _, [], _, _, h => by simp at h
theorem pt_eq {x y : Pt} {ks : List CK} (hk : ks = List.replicate 33 .i) (hx : x.ok) (hy : y.ok) : eqCells ks x.cs y.cs = some (decide (x = y)) := by
  have := eqCells_ints x.k y.k x.n y.n (by rw [hx, hy])
  rw [hx] at this
  subst hk
  unfold Pt.cs
  rw [this]
  obtain ⟨a, m⟩ := x
  obtain ⟨b, n⟩ := y
  simp

theorem pt_get {ps : List Pt} {i : Nat} (hi : i < ps.length) : (ps.map Pt.av)[i]? = some (.agg ps[i].cs) := by simp [hi,Pt.av]
theorem lf_get {ls : List Lf} {i : Nat} (hi : i < ls.length) : (ls.map Lf.av)[i]? = some (.agg [.str ls[i].p, ls[i].v]) := by simp [hi,Lf.av]
theorem take_eq_next {α : Type} {l m : List α} {i : Nat} (hl : i < l.length) (hm : i < m.length) (h : l.take i = m.take i) (e : l[i] = m[i]) : l.take (i + 1) = m.take (i + 1) := by
  rw [List.take_succ_eq_append_getElem hl, List.take_succ_eq_append_getElem hm, h, e]
theorem lfs_el {ls : List Lf} {a : AV} {i : Nat} (ha : IsRd 2 (ls.map Lf.av) a) (hi : i < ls.length) : ∃ c, a = .imm 2 (ls.map Lf.av) c := ha.imm (i := i) (by simpa using hi)

section
variable {n : Nat} {tot : Bool} {ω : Nat → Nat} {h : Hp}

theorem c24 (ps qs : List Pt) (v w : AV) (hv : IsRd 33 (ps.map Pt.av) v) (hw : IsRd 33 (qs.map Pt.av) w) (hp : ∀ x ∈ ps, x.ok) (hq : ∀ x ∈ qs, x.ok) (hl : ps.length ≤ 9223372036854775807) (hl2 : qs.length ≤ 9223372036854775807) (hn : ps.length + 10 < n) :
    call F n tot ω 24 [v, w] h = some (.bool (decide (ps = qs)), h) := by
  obtain ⟨n, rfl⟩ : ∃ m, n = m + 1 := ⟨n - 1, by omega⟩
  refine call_eq (fn := a24) f24 ?_
  unfold a24
  have l1 := hv.len
  have l2 := hw.len
  rw [List.length_map] at l1 l2
  by_cases hle : ps.length = qs.length
  · simp (maxSteps := 2000000) (discharger := omega) only [xz,xc,xo,xr,x0,x1,x4,xd,Reg.isA,Reg.isV,Reg.stays,Reg.onto,↓reduceIte,reduceCtorEq,Nat.reduceEqDiff,Nat.reduceLT,Nat.reduceAdd,int_bne_f,l1,l2]
    refine wpi_loop (fun x r g => ∃ (i : Nat), r = [(0, .val v), (1, .val w), (5, .val (.int .i64 i))] ∧ x = ps.length - i ∧ i ≤ ps.length ∧ g = h ∧ ps.take i = qs.take i) ps.length (by omega)
      ⟨0, rfl, rfl, Nat.zero_le _, rfl, rfl⟩ ?_
    rintro x r g ⟨i, rfl, rfl, hi, rfl, ht⟩
    by_cases hlt : i < ps.length
    · obtain ⟨cv, rfl⟩ := hv.imm (i := i) (by simpa using hlt)
      obtain ⟨cw, rfl⟩ := hw.imm (i := i) (by simpa [← hle] using hlt)
      have hlt2 : i < qs.length := by omega
      have q1 := pt_get hlt
      have q2 := pt_get hlt2
      have o1 := hp _ (List.getElem_mem hlt)
      have o2 := hq _ (List.getElem_mem hlt2)
      have s1 := pt_len o1
      have s2 := pt_len o2
      have s3 := pt_take o1
      have s4 := pt_take o2
      have e3 := pt_eq (ks := [CK.i, CK.i, CK.i, CK.i, CK.i, CK.i, CK.i, CK.i, CK.i, CK.i, CK.i, CK.i, CK.i, CK.i, CK.i, CK.i, CK.i, CK.i, CK.i, CK.i, CK.i, CK.i, CK.i, CK.i, CK.i, CK.i, CK.i, CK.i, CK.i, CK.i, CK.i, CK.i, CK.i]) rfl o1 o2
      by_cases he : ps[i] = qs[i]
      · have e4 : eqCells [CK.i, CK.i, CK.i, CK.i, CK.i, CK.i, CK.i, CK.i, CK.i, CK.i, CK.i, CK.i, CK.i, CK.i, CK.i, CK.i, CK.i, CK.i, CK.i, CK.i, CK.i, CK.i, CK.i, CK.i, CK.i, CK.i, CK.i, CK.i, CK.i, CK.i, CK.i, CK.i, CK.i] ps[i].cs qs[i].cs = some true := by rw [e3]; simp [he]
        simp (maxSteps := 2000000) (discharger := omega) only [xz,xc,xo,xr,x0,x1,x2,x4,xd,eqAV,Bool.bne_true,Reg.isA,Reg.isV,Reg.stays,Reg.onto,↓reduceIte,reduceCtorEq,Nat.reduceEqDiff,Nat.reduceLT,wrap_i64,int_lt_t,int_le_t,nat_le_t,l1,q1,q2,s1,s2,s3,s4,e4]
        exact ⟨ps.length - (i + 1), by omega, i + 1, by rw [show ((i : Nat) : Int) + 1 = ((i + 1 : Nat) : Int) by omega], rfl, by omega, take_eq_next hlt hlt2 ht he⟩
      · have hne : ¬ ps = qs := fun e => he (by subst e; rfl)
        have e4 : eqCells [CK.i, CK.i, CK.i, CK.i, CK.i, CK.i, CK.i, CK.i, CK.i, CK.i, CK.i, CK.i, CK.i, CK.i, CK.i, CK.i, CK.i, CK.i, CK.i, CK.i, CK.i, CK.i, CK.i, CK.i, CK.i, CK.i, CK.i, CK.i, CK.i, CK.i, CK.i, CK.i, CK.i] ps[i].cs qs[i].cs = some false := by rw [e3]; simp [he]
        simp (maxSteps := 2000000) (discharger := omega) only [xz,xc,xo,xr,x0,x1,x2,x4,xd,eqAV,Bool.bne_true,Reg.isA,Reg.isV,Reg.stays,Reg.onto,↓reduceIte,reduceCtorEq,Nat.reduceEqDiff,Nat.reduceLT,exists_eq_left',int_lt_t,int_le_t,nat_le_t,l1,q1,q2,s1,s2,s3,s4,e4,hne]
    · obtain rfl : i = ps.length := by omega
      have he : ps = qs := by rw [List.take_length, hle, List.take_length] at ht; exact ht
      simp (maxSteps := 2000000) (discharger := omega) only [xz,xc,xo,xr,x0,x1,x4,xd,Reg.isA,Reg.isV,Reg.stays,Reg.onto,↓reduceIte,reduceCtorEq,Nat.reduceEqDiff,Nat.reduceLT,exists_eq_left',int_lt_f,Nat.sub_self,l1]
      simp [he]
  · have hne : ¬ ps = qs := fun e => hle (by rw [e])
    simp (maxSteps := 2000000) (discharger := omega) only [xz,xc,xo,xr,x0,x1,x4,xd,Reg.isA,Reg.isV,Reg.stays,Reg.onto,↓reduceIte,reduceCtorEq,Nat.reduceEqDiff,Nat.reduceLT,Nat.reduceAdd,exists_eq_left',int_bne_t,l1,l2,hne]

def fnd (ls : List Lf) (p : By) : Option Lf := ls.find? fun x => x.p == p
end
end Go.Proofs.YtpgmohjmpaifbaaDoor.Im

/- S21Cd: chunk.Parts. -/
set_option linter.unusedVariables false
set_option linter.unusedSimpArgs false
open Go Go.Im
namespace Go.Proofs.YtpgmohjmpaifbaaDoor.Im

theorem pcs_pos : ∀ (l : List Nat) (s : By) (i : Nat) (hi : i < (pcs l s).length), l.sum ≤ s.length → (pcs l s)[i].length = l.getD i 0
  | n :: l, s, 0, _, h => by
    simp only [List.sum_cons] at h
    simp [pcs]; omega
  | n :: l, s, i + 1, hi, h => by
    simp only [List.sum_cons] at h
    have := pcs_pos l (s.drop n) i (by simpa [pcs] using hi) (by simp; omega)
    simpa [pcs] using this
  | [], s, i, hi, _ => by simp [pcs] at hi

section
variable {n : Nat} {tot : Bool} {ω : Nat → Nat} {h : Hp}

end
end Go.Proofs.YtpgmohjmpaifbaaDoor.Im

/- S21Eq: the two digests' steps are the same. -/
set_option linter.unusedVariables false
set_option linter.unusedSimpArgs false
open Go Go.Im
namespace Go.Proofs.YtpgmohjmpaifbaaDoor.Im

def R32 (x : Int) : Prop := 0 ≤ x ∧ x < 4294967296
theorem R32.of (n : Nat) (h : n < 4294967296) : R32 (n : Int) := ⟨by omega, by omega⟩
theorem R32.wrap (x : Int) : R32 (IntKind.u32.wrap x) := by rw [wrap_u32_mod]; exact ⟨by omega, by omega⟩
theorem R32.bits (op : BinOp) (x y : Int) : R32 (bitsI op .u32 x y) := R32.wrap _

structure S8.R (s : S8) : Prop where
  (a : R32 s.a) (b : R32 s.b) (c : R32 s.c) (d : R32 s.d) (e : R32 s.e) (f : R32 s.f) (g : R32 s.g) (h : R32 s.h)

end Go.Proofs.YtpgmohjmpaifbaaDoor.Im

/- S21Sh: sha.Sum answers the reference's digest. -/
set_option linter.unusedVariables false
set_option linter.unusedSimpArgs false
open Go Go.Im
namespace Go.Proofs.YtpgmohjmpaifbaaDoor.Im

section
variable {n : Nat} {tot : Bool} {ω : Nat → Nat} {h : Hp}

end
end Go.Proofs.YtpgmohjmpaifbaaDoor.Im

/- S21Di: paths that begin so; where two trees differ. -/
set_option linter.unusedVariables false
set_option linter.unusedSimpArgs false
open Go Go.Im
namespace Go.Proofs.YtpgmohjmpaifbaaDoor.Im

structure Ch where
  p : By
  w : Bool
  i : Bool
def Ch.av (x : Ch) : AV := .agg [.str x.p, .bool x.w, .bool x.i]

section
variable {n : Nat} {tot : Bool} {ω : Nat → Nat} {h : Hp}

theorem tk (l : List Lf) (c : Cap) : AV.imm 2 (List.take l.length (l.map Lf.av)) c = .imm 2 (l.map Lf.av) c := by rw [List.take_of_length_le (by simp)]

end
end Go.Proofs.YtpgmohjmpaifbaaDoor.Im

/- S21Pd: the reference's view of paths in one snapshot; both agree. -/
set_option linter.unusedVariables false
set_option linter.unusedSimpArgs false
open Go Go.Im
namespace Go.Proofs.YtpgmohjmpaifbaaDoor.Im

structure Tog (l : List By) : Prop where
  few : l.length ≤ 64
  path : ∀ p ∈ l, pathB p = true
  pair : ∀ j k (hj : j < l.length) (hk : k < l.length), j ≠ k → l[j] ≠ l[k] ∧ ¬ Under l[k] l[j]

theorem tog_iff {l : List By} : Tog l ↔ l.length ≤ 64 ∧ (∀ p ∈ l, pathB p = true) ∧ l.Nodup ∧ ∀ p ∈ l, ∀ q ∈ l, ¬ Under p q := by
  constructor
  · intro h
    refine ⟨h.few, h.path, List.pairwise_iff_getElem.2 fun j k hj hk hjk => (h.pair j k hj hk (by omega)).1, fun p hp q hq hU => ?_⟩
    obtain ⟨k, hk, rfl⟩ := List.getElem_of_mem hp
    obtain ⟨j, hj, rfl⟩ := List.getElem_of_mem hq
    by_cases e : j = k
    · subst e; exact Nat.lt_irrefl _ hU.1
    · exact (h.pair j k hj hk e).2 hU
  · rintro ⟨h1, h2, h3, h4⟩
    refine ⟨h1, h2, fun j k hj hk hjk => ⟨fun e => ?_, h4 _ (List.getElem_mem hk) _ (List.getElem_mem hj)⟩⟩
    rw [List.nodup_iff_pairwise_ne, List.pairwise_iff_getElem] at h3
    rcases Nat.lt_or_gt_of_ne hjk with h | h
    · exact h3 j k hj hk h e
    · exact h3 k j hk hj h e.symm

theorem rising_iff {l l' : List By} (hp : l'.Perm l) (hs : ∀ j k (hj : j < l'.length) (hk : k < l'.length), j < k → Op.bytesLess l'[k] l'[j] = false) : Rising l' ↔ Tog l := by
  rw [tog_iff]
  constructor
  · intro h
    refine ⟨by rw [← hp.length_eq]; exact h.few, fun p hx => h.path p (hp.mem_iff.2 hx), hp.nodup_iff.1 ?_, fun p hx q hq => h.apart p (hp.mem_iff.2 hx) q (hp.mem_iff.2 hq)⟩
    rw [List.nodup_iff_pairwise_ne, List.pairwise_iff_getElem]
    intro j k hj hk hjk e
    have := h.rise j k hj hk hjk
    rw [e, bl_irrefl] at this
    cases this
  · rintro ⟨h1, h2, h3, h4⟩
    refine ⟨by rw [hp.length_eq]; exact h1, fun p hx => h2 p (hp.mem_iff.1 hx), fun j k hj hk hjk => ?_, fun p hx q hq => h4 p (hp.mem_iff.1 hx) q (hp.mem_iff.1 hq)⟩
    cases hb : Op.bytesLess l'[j] l'[k] with
    | true => rfl
    | false =>
      have h3' := hp.nodup_iff.2 h3
      rw [List.nodup_iff_pairwise_ne, List.pairwise_iff_getElem] at h3'
      exact absurd (bl_tri _ _ hb (hs j k hj hk hjk)) (h3' j k hj hk hjk)

section
variable {n : Nat} {tot : Bool} {ω : Nat → Nat} {h : Hp}

def Pair (a b : By) : Prop := a ≠ b ∧ ¬ Under b a

set_option maxRecDepth 100000 in
set_option maxHeartbeats 1000000 in
theorem w_w46 (l : List By) (cv : Cap) (i k : Nat) (hi : i < l.length) (hk : k < l.length) (hl : l.length ≤ 64) (hpl : l[i].length ≤ 64) :
    Wp (kont F n tot ω) n w46 [(0, .val (.imm 1 (l.map AV.str) cv)), (3, .val (.int .i64 i)), (4, .val (.int .i64 k)), (28, .val (.bool false))] h fun e r' h' => h' = h ∧
      ((Pair l[i] l[k] ∧ e = .normal ∧ r' = [(0, .val (.imm 1 (l.map AV.str) cv)), (3, .val (.int .i64 i)), (4, .val (.int .i64 k)), (69, .val (.bool false))]) ∨
        (¬ Pair l[i] l[k] ∧ e = .ret ∧ r' = [(2, .val (.bool false))])) := by
  unfold w46
  have q1 : (l.map AV.str)[i]? = some (.str l[i]) := by simp [hi]
  have q2 : (l.map AV.str)[k]? = some (.str l[k]) := by simp [hk]
  cases heq : (l[i] == l[k]) with
  | true =>
    simp (maxSteps := 2000000) (discharger := omega) only [xz,xc,xo,xr,x0,x1,xd,xb,Reg.isA,Reg.isV,Reg.stays,Reg.onto,↓reduceIte,reduceCtorEq,Nat.reduceEqDiff,Nat.reduceLT,false_or,int_le_t,q1,q2,heq]
    exact fun hP => hP.1 (by simpa using heq)
  | false =>
    have heq' : l[i] ≠ l[k] := by simpa using heq
    by_cases hgt : l[k].length > l[i].length
    · have e1 : ((l[i].length : Nat) : Int) + 1 = ((l[i].length + 1 : Nat) : Int) := by omega
      cases hsl : (List.take (l[i].length + 1) l[k] == l[i] ++ [47]) with
      | true =>
        simp (maxSteps := 2000000) (discharger := omega) only [xz,xc,xo,xr,x0,x1,x3,x4,xd,slOk,sliceV,Reg.isA,Reg.isV,Reg.stays,Reg.onto,↓reduceIte,reduceCtorEq,Nat.reduceEqDiff,Nat.reduceLT,Option.getD_some,false_or,beq_self_eq_true,Int.reduceToNat,wrap_i64,int_lt_t,int_le_t,nat_le_t,q1,q2,heq,e1,hsl]
        exact fun hP => hP.2 ⟨hgt, by simpa using hsl⟩
      | false =>
        have hsl' : ¬ List.take (l[i].length + 1) l[k] = l[i] ++ [47] := by simpa using hsl
        simp (maxSteps := 2000000) (discharger := omega) only [xz,xc,xo,xr,x0,x1,x3,x4,xd,slOk,sliceV,Reg.isA,Reg.isV,Reg.stays,Reg.onto,↓reduceIte,reduceCtorEq,Nat.reduceEqDiff,Nat.reduceLT,Option.getD_some,or_false,beq_self_eq_true,Int.reduceToNat,wrap_i64,int_lt_t,int_le_t,nat_le_t,q1,q2,heq,e1,hsl]
        exact ⟨heq', fun hU => hsl' hU.2⟩
    · simp (maxSteps := 2000000) (discharger := omega) only [xz,xc,xo,xr,x0,x1,x4,xd,xb,Reg.isA,Reg.isV,Reg.stays,Reg.onto,↓reduceIte,reduceCtorEq,Nat.reduceEqDiff,Nat.reduceLT,or_false,beq_self_eq_true,int_lt_f,int_le_t,q1,q2,heq]
      exact ⟨heq', fun hU => hgt hU.1⟩

theorem c46 (l : List By) (v : AV) (hv : IsRd 1 (l.map AV.str) v) (hb : ∀ p ∈ l, p.length ≤ 9223372036854775807) (hl : l.length ≤ 1000000) (hn : l.length + 110 < n) :
    ∃ b, call F n tot ω 46 [v] h = some (.bool b, h) ∧ (b = true ↔ Tog l) := by
  obtain ⟨n, rfl⟩ : ∃ m, n = m + 1 := ⟨n - 1, by omega⟩
  suffices hx : ∃ v2 h', call F (n + 1) tot ω 46 [v] h = some (v2, h') ∧ ∃ b, v2 = .bool b ∧ h' = h ∧ (b = true ↔ Tog l) by
    obtain ⟨v2, h', e1, b, rfl, rfl, e2⟩ := hx
    exact ⟨b, e1, e2⟩
  refine call_of (fn := a46) f46 (P := fun v2 h' => ∃ b, v2 = .bool b ∧ h' = h ∧ (b = true ↔ Tog l)) ?_
  unfold a46
  have hlen := hv.len
  rw [List.length_map] at hlen
  have no : ¬ Tog l → ∃ b, AV.bool false = .bool b ∧ h = h ∧ (b = true ↔ Tog l) := fun hr => ⟨false, rfl, rfl, by simp [hr]⟩
  have no2 : ¬ Tog l → ∃ b, AV.bool false = .bool b ∧ (b = true ↔ Tog l) := fun hr => ⟨false, rfl, by simp [hr]⟩
  by_cases h64 : l.length ≤ 64
  · simp (maxSteps := 2000000) (discharger := omega) only [xz,xc,xo,xr,x0,x1,x4,xd,Reg.isA,Reg.isV,Reg.stays,Reg.onto,↓reduceIte,reduceCtorEq,Nat.reduceEqDiff,Nat.reduceLT,int_lt_f,hlen]
    refine wpi_loop (fun x r g' => ∃ (i : Nat), r = [(0, .val v), (3, .val (.int .i64 i))] ∧ x = l.length - i ∧ i ≤ l.length ∧ g' = h ∧
      (∀ j (hj : j < l.length), j < i → pathB l[j] = true ∧ ∀ k (hk : k < l.length), k ≠ j → l[j] ≠ l[k] ∧ ¬ Under l[k] l[j])) l.length (by omega)
      ⟨0, rfl, rfl, Nat.zero_le _, rfl, fun j hj h1 => by omega⟩ ?_
    rintro x r g' ⟨i, rfl, rfl, hi, rfl, hd⟩
    by_cases hlt : i < l.length
    · obtain ⟨cv, rfl⟩ := hv.imm (i := i) (by simpa using hlt)
      have q1 : (l.map AV.str)[i]? = some (.str l[i]) := by simp [hlt]
      have k13 := c13 (n := n) (tot := tot) (ω := ω) (h := g') l[i] (hb _ (List.getElem_mem hlt)) (by omega)
      cases hpi : pathB l[i] with
      | false =>
        rw [hpi] at k13
        simp (maxSteps := 2000000) (discharger := omega) only [xz,xc,xo,xr,x0,x1,x2,x4,xd,kont_call,Reg.isA,Reg.isV,Reg.stays,Reg.onto,↓reduceIte,reduceCtorEq,Nat.reduceEqDiff,Nat.reduceLT,exists_eq_left',int_lt_t,int_le_t,q1,k13,List.length_map]
        exact no2 fun hT => by have := hT.path _ (List.getElem_mem hlt); rw [hpi] at this; cases this
      | true =>
        rw [hpi] at k13
        have hpl := path_len hpi
        simp (maxSteps := 2000000) (discharger := omega) only [xz,xc,xo,xr,x0,x1,x2,x4,xd,kont_call,Reg.isA,Reg.isV,Reg.stays,Reg.onto,↓reduceIte,reduceCtorEq,Nat.reduceEqDiff,Nat.reduceLT,int_lt_t,int_le_t,q1,k13,List.length_map]
        refine wpi_loop (fun x r g => ∃ (k : Nat), r = [(0, .val (.imm 1 (l.map AV.str) cv)), (3, .val (.int .i64 i)), (4, .val (.int .i64 k))] ∧ x = l.length - k ∧ k ≤ l.length ∧ g = g' ∧
          (∀ j (hj : j < l.length), j < k → j ≠ i → l[i] ≠ l[j] ∧ ¬ Under l[j] l[i])) l.length (by omega)
          ⟨0, rfl, rfl, Nat.zero_le _, rfl, fun j hj h1 => by omega⟩ ?_
        rintro x r g ⟨k, rfl, rfl, hk, rfl, hq⟩
        by_cases hlk : k < l.length
        · have q2 : (l.map AV.str)[k]? = some (.str l[k]) := by simp [hlk]
          by_cases hik : (i : Int) = (k : Int)
          · obtain rfl : i = k := by omega
            simp (maxSteps := 2000000) (discharger := omega) only [xz,xc,xo,xr,x0,x1,x4,xd,Reg.isA,Reg.isV,Reg.stays,Reg.onto,↓reduceIte,reduceCtorEq,Nat.reduceEqDiff,Nat.reduceLT,beq_self_eq_true,wrap_i64,int_lt_t,List.length_map]
            refine ⟨l.length - (i + 1), by omega, i + 1, by rw [show ((i : Nat) : Int) + 1 = ((i + 1 : Nat) : Int) by omega], rfl, by omega, fun j hj h1 h2 => ?_⟩
            exact hq j hj (by omega) h2
          · have hne : ¬ i = k := by omega
            simp (maxSteps := 2000000) (discharger := omega) only [xz,xc,xo,xr,x0,x1,x4,xd,Reg.isA,Reg.isV,Reg.stays,Reg.onto,↓reduceIte,reduceCtorEq,Nat.reduceEqDiff,Nat.reduceLT,int_lt_t,int_beq_f,List.length_map]
            refine (w_w46 l cv i k hlt hlk h64 hpl).mono ?_
            rintro e r' h' ⟨rfl, ⟨hP, rfl, rfl⟩ | ⟨hP, rfl, rfl⟩⟩
            · simp (maxSteps := 2000000) (discharger := omega) only [xz,xc,xo,xr,x0,x1,xd,Reg.isA,Reg.isV,Reg.stays,Reg.onto,↓reduceIte,reduceCtorEq,Nat.reduceEqDiff,Nat.reduceLT,wrap_i64]
              refine ⟨l.length - (k + 1), by omega, k + 1, by rw [show ((k : Nat) : Int) + 1 = ((k + 1 : Nat) : Int) by omega], rfl, by omega, fun j hj h1 h2 => ?_⟩
              by_cases e : j = k
              · subst e; exact hP
              · exact hq j hj (by omega) h2
            · simp (maxSteps := 2000000) (discharger := omega) only [xz,xc,xr,xd,↓reduceIte,exists_eq_left']
              exact no2 fun hT => hP (hT.pair i k hlt hlk hne)
        · obtain rfl : k = l.length := by omega
          simp (maxSteps := 2000000) (discharger := omega) only [xz,xc,xo,xr,x0,x1,x4,xd,Reg.isA,Reg.isV,Reg.stays,Reg.onto,↓reduceIte,reduceCtorEq,Nat.reduceEqDiff,Nat.reduceLT,wrap_i64,int_lt_f,Nat.sub_self,List.length_map]
          refine ⟨l.length - (i + 1), by omega, i + 1, by rw [show ((i : Nat) : Int) + 1 = ((i + 1 : Nat) : Int) by omega], rfl, by omega, fun j hj h1 => ?_⟩
          by_cases e : j = i
          · subst e; exact ⟨hpi, fun k hk h2 => hq k hk hk h2⟩
          · exact hd j hj (by omega)
    · obtain rfl : i = l.length := by omega
      have hT : Tog l := ⟨h64, fun p hp => by
        obtain ⟨j, hj, rfl⟩ := List.getElem_of_mem hp
        exact (hd j hj hj).1, fun j k hj hk hjk => (hd j hj hj).2 k hk (Ne.symm hjk)⟩
      simp (maxSteps := 2000000) (discharger := omega) only [xz,xc,xo,xr,x0,x1,x4,xd,Reg.isA,Reg.isV,Reg.stays,Reg.onto,↓reduceIte,reduceCtorEq,Nat.reduceEqDiff,Nat.reduceLT,exists_eq_left',int_lt_f,Nat.sub_self,hlen]
      exact ⟨true, by simp [hT]⟩
  · simp (maxSteps := 2000000) (discharger := omega) only [xz,xc,xo,xr,x0,x1,x4,xd,Reg.isA,Reg.isV,Reg.stays,Reg.onto,↓reduceIte,reduceCtorEq,Nat.reduceEqDiff,Nat.reduceLT,exists_eq_left',int_lt_t,hlen]
    exact no2 fun hT => h64 hT.few
end
end Go.Proofs.YtpgmohjmpaifbaaDoor.Im

/- S21Fm: files. -/
set_option linter.unusedVariables false
set_option linter.unusedSimpArgs false
open Go Go.Im
namespace Go.Proofs.YtpgmohjmpaifbaaDoor.Im

structure Fl where
  (p d : By) (v : AV)
instance : Inhabited Fl := ⟨⟨[], [], .nils⟩⟩
def Fl.av (f : Fl) : AV := .agg [.str f.p, f.v]
def Fl.ok (f : Fl) : Prop := IsRd 1 (bytesOf f.d) f.v
def flLt (x y : Fl) : Bool := Op.bytesLess x.p y.p

theorem Fl.len {f : Fl} (h : f.ok) : lenSl f.v = some f.d.length := by
  have := IsRd.len h
  rwa [bytesOf_len] at this

end Go.Proofs.YtpgmohjmpaifbaaDoor.Im

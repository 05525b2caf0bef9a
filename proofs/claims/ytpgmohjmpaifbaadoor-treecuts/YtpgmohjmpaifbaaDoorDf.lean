/- Joined: S21Cx, S21Dp, S21Fd, S21Df. -/
import Derived.Test.YtpgmohjmpaifbaaDoorCa
/- S21Cx: tree.Cut; are there unlike chunks of one key?; are parts these bytes? -/
set_option linter.unusedVariables false
set_option linter.unusedSimpArgs false
open Go Go.Im
namespace Go.Proofs.YtpgmohjmpaifbaaDoor.Im

section
variable {n : Nat} {tot : Bool} {ω : Nat → Nat} {h : Hp}

theorem c19 (c : AV) (l m M : Int) (hc : Cf c l m M) (hn : 0 < n) : call F n tot ω 19 [c] h = some (.bool (decide (okConf l m M)), h) := by
  obtain ⟨n, rfl⟩ : ∃ m, n = m + 1 := ⟨n - 1, by omega⟩
  obtain ⟨cs, rfl, hl, h8, h9, h10⟩ := hc.agg
  refine call_eq (fn := a19) f19 ?_
  by_cases hok : okConf l m M
  · rw [decide_eq_true hok]
    obtain ⟨k1, k2, k3, k4, k5⟩ := hok
    unfold a19
    simp (maxSteps := 2000000) (discharger := omega) only [xz,xc,xo,xr,x0,x1,xd,Reg.isA,Reg.isV,Reg.stays,Reg.onto,↓reduceIte,reduceCtorEq,Nat.reduceEqDiff,Nat.reduceLT,beq_self_eq_true,exists_eq_left',Nat.reduceBEq,int_le_t,hl,h8,h9,h10]
  · rw [decide_eq_false hok]
    unfold okConf at hok
    unfold a19
    by_cases e1 : l < 1
    · simp (maxSteps := 2000000) (discharger := omega) only [xz,xc,xo,xr,x0,x1,xd,xb,Reg.isA,Reg.isV,Reg.stays,Reg.onto,↓reduceIte,reduceCtorEq,Nat.reduceEqDiff,Nat.reduceLT,exists_eq_left',Nat.reduceBEq,int_le_f,hl,h8]
    · by_cases e2 : m < 1
      · simp (maxSteps := 2000000) (discharger := omega) only [xz,xc,xo,xr,x0,x1,xd,xb,Reg.isA,Reg.isV,Reg.stays,Reg.onto,↓reduceIte,reduceCtorEq,Nat.reduceEqDiff,Nat.reduceLT,beq_self_eq_true,exists_eq_left',Nat.reduceBEq,int_le_t,int_le_f,hl,h8,h9]
      · by_cases e3 : m > 65536
        · simp (maxSteps := 2000000) (discharger := omega) only [xz,xc,xo,xr,x0,x1,xd,xb,Reg.isA,Reg.isV,Reg.stays,Reg.onto,↓reduceIte,reduceCtorEq,Nat.reduceEqDiff,Nat.reduceLT,beq_self_eq_true,exists_eq_left',Nat.reduceBEq,int_le_t,int_le_f,hl,h8,h9]
        · by_cases e4 : M < l
          · simp (maxSteps := 2000000) (discharger := omega) only [xz,xc,xo,xr,x0,x1,xd,xb,Reg.isA,Reg.isV,Reg.stays,Reg.onto,↓reduceIte,reduceCtorEq,Nat.reduceEqDiff,Nat.reduceLT,beq_self_eq_true,exists_eq_left',Nat.reduceBEq,int_le_t,int_le_f,hl,h8,h9,h10]
          · have e5 : M > 4096 := by omega
            simp (maxSteps := 2000000) (discharger := omega) only [xz,xc,xo,xr,x0,x1,xd,Reg.isA,Reg.isV,Reg.stays,Reg.onto,↓reduceIte,reduceCtorEq,Nat.reduceEqDiff,Nat.reduceLT,beq_self_eq_true,exists_eq_left',Nat.reduceBEq,int_le_t,int_le_f,hl,h8,h9,h10]

theorem c23n (c : AV) (l m M : Int) (dv : AV) (hc : Cf c l m M) (hok : ¬ okConf l m M) (hn : 10 < n) : call F n tot ω 23 [c, dv] h = some (.tup [.nils, .nils, .int .i64 1], h) := by
  obtain ⟨n, rfl⟩ : ∃ m, n = m + 1 := ⟨n - 1, by omega⟩
  have k47 := fun h => c47n (n := n) (tot := tot) (ω := ω) (h := h) c l m M hc hok (by omega)
  obtain ⟨cs, rfl, hl, h8, h9, h10⟩ := hc.agg
  have t12 : List.take 12 cs = cs := List.take_of_length_le (by omega)
  refine call_eq (fn := a23) f23 ?_
  unfold a23
  simp (maxSteps := 2000000) (discharger := omega) only [xz,xc,xo,xr,x0,x1,xd,kont_call,Reg.isA,Reg.isV,Reg.stays,Reg.onto,↓reduceIte,reduceCtorEq,Nat.reduceEqDiff,Nat.reduceLT,Nat.reduceAdd,exists_eq_left',int_bne_t,nat_le_t,hl,t12,k47]
theorem c23y (c : AV) (l m M : Int) (s : By) (dv : AV) (hc : Cf c l m M) (hok : okConf l m M) (hdv : IsRd 1 (bytesOf s) dv) (hs : s.length ≤ 1000000) (hn : s.length + 700 < n) :
    ∃ av pv pes g, call F n tot ω 23 [c, dv] h = some (.tup [av, pv, .int .i64 0], g) ∧ IsRd 33 ((partsR l m M s).map Pt.av) av ∧ CE (uniq [] (pcs (cutR l m M s) s)) pes ∧ IsRd 33 pes pv := by
  obtain ⟨n, rfl⟩ : ∃ m, n = m + 1 := ⟨n - 1, by omega⟩
  have k47 := fun h => c47y (n := n) (tot := tot) (ω := ω) (h := h) c l m M hc hok (by omega)
  obtain ⟨cs, rfl, hl, h8, h9, h10⟩ := hc.agg
  have t12 : List.take 12 cs = cs := List.take_of_length_le (by omega)
  obtain ⟨av, pv, g, k48, hE⟩ := c48 (n := n) (tot := tot) (ω := ω) (h := h ++ [AO.map [] 0]) cs l m M s dv .nils h.length none [] [] [] 0 hl h8 h9 h10 hok hdv hs (by simp) trivial (tok_nils _ _ _) (by rw [hg0]; rfl) (fun q => by simp [tget]) (by simp) (by omega)
  obtain ⟨pes, T, cl, t2, e1, e2, _⟩ := hE.ex
  refine ⟨av, pv, pes, g, ?_, hE.parts, e1, isRd_app e2.1⟩
  refine call_eq (fn := a23) f23 ?_
  unfold a23
  simp (maxSteps := 2000000) (discharger := omega) only [xz,xc,xo,xr,x0,x1,x3,x5,xd,kont_call,Reg.isA,Reg.isV,Reg.stays,Reg.onto,↓reduceIte,reduceCtorEq,Nat.reduceEqDiff,Nat.reduceLT,Nat.reduceAdd,exists_eq_left',int_bne_f,nat_le_t,hl,t12,k47,k48]
end

/-! ### keys that are told apart -/
theorem tk32 (q : By) (z : List AV) : List.take 32 (intsOf .u8 (shaR q) ++ z) = intsOf .u8 (shaR q) := by
  have : (intsOf .u8 (shaR q)).length = 32 := by rw [io_len', shaR_len]
  rw [List.take_append_of_le_length (by omega), List.take_of_length_le (by omega)]
theorem tk32' (q : By) : List.take 32 (intsOf .u8 (shaR q)) = intsOf .u8 (shaR q) := List.take_of_length_le (by rw [io_len', shaR_len]; exact Nat.le_refl _)
theorem eqk (p q : By) : eqCells [CK.i, CK.i, CK.i, CK.i, CK.i, CK.i, CK.i, CK.i, CK.i, CK.i, CK.i, CK.i, CK.i, CK.i, CK.i, CK.i, CK.i, CK.i, CK.i, CK.i, CK.i, CK.i, CK.i, CK.i, CK.i, CK.i, CK.i, CK.i, CK.i, CK.i, CK.i, CK.i] (intsOf .u8 (shaR p)) (intsOf .u8 (shaR q)) = some (decide (keyOf p = keyOf q)) := by
  have := (kaEnc (ks := List.replicate 32 .i) rfl).eq (keyOf p) (keyOf q)
  simp only [eqAV,kA,if_true,List.replicate] at this
  exact this
theorem pcs_get : ∀ (l : List Nat) (s : By) (k : Nat) (hk : k < (pcs l s).length), (pcs l s)[k] = (s.take ((l.take k).sum + l.getD k 0)).drop (l.take k).sum
  | n :: l, s, 0, _ => by simp [pcs]
  | n :: l, s, k + 1, hk => by
    have := pcs_get l (s.drop n) k (by simpa [pcs] using hk)
    simp only [pcs,List.getElem_cons_succ,this,List.take_succ_cons,List.sum_cons,List.getD_cons_succ]
    rw [List.take_drop, List.drop_drop]
    congr 2
    omega
  | [], s, k, hk => by simp [pcs] at hk
theorem sum_take_le (l : List Nat) (i : Nat) : (l.take i).sum ≤ l.sum := by
  conv => rhs; rw [← List.take_append_drop i l]
  rw [List.sum_append]; omega
theorem sum_take_succ (l : List Nat) (i : Nat) (hi : i < l.length) : (l.take (i + 1)).sum = (l.take i).sum + l[i] := by
  rw [List.take_succ_eq_append_getElem hi, List.sum_append]; simp

section
variable {n : Nat} {tot : Bool} {ω : Nat → Nat} {h : Hp}

set_option maxRecDepth 100000 in
theorem c27 (ks : List Nat) (d : By) (P : List By) (pes : List AV) (av pv dv : AV) (hav : IsRd 33 ((pcs ks d).map fun p => (ptB p).av) av) (hpe : CE P pes) (hpv : IsRd 33 pes pv) (hdv : IsRd 1 (bytesOf d) dv) (hks : ks.sum = d.length) (hk1 : ∀ x ∈ ks, 1 ≤ x) (hkl : ks.length ≤ 1000000) (hd : d.length ≤ 1000000) (hP : P.length ≤ 1000000)
    (h1 : ∀ p ∈ pcs ks d, keyOf p ∈ P.map keyOf) (h2 : ∀ p ∈ pcs ks d, ∀ q ∈ P, keyOf q = keyOf p → q = p) (hn : ks.length + P.length + 10 < n) :
    call F n tot ω 27 [av, pv, dv] h = some (.bool true, h) := by
  obtain ⟨n, rfl⟩ : ∃ m, n = m + 1 := ⟨n - 1, by omega⟩
  refine call_eq (fn := a27) f27 ?_
  have la := IsRd.len hav
  have lp := IsRd.len hpv
  have ld := IsRd.len hdv
  have hcl := pcs_len ks d
  rw [List.length_map, hcl] at la
  rw [hpe.len] at lp
  rw [bytesOf_len] at ld
  unfold a27
  simp (maxSteps := 2000000) (discharger := omega) only [xz,xc,xo,xr,x0,Reg.isA,Reg.isV,Reg.stays,Reg.onto,↓reduceIte,reduceCtorEq,Nat.reduceEqDiff,Nat.reduceLT,Nat.reduceAdd]
  refine wpi_loop (fun x r g => ∃ k : Nat, r = [(0, .val av), (1, .val pv), (2, .val dv), (7, .val (.int .i64 ((ks.take k).sum : Nat))), (8, .val (.int .i64 k))] ∧ x = ks.length - k ∧ k ≤ ks.length ∧ g = h) ks.length (by omega)
    ⟨0, rfl, rfl, Nat.zero_le _, rfl⟩ ?_
  rintro x r g ⟨k, rfl, rfl, hk, rfl⟩
  by_cases hlt : k < ks.length
  · have hmem : (pcs ks d)[k]'(by omega) ∈ pcs ks d := List.getElem_mem _
    have hg := pcs_get ks d k (by omega)
    have hpl := pcs_pos ks d k (by omega) (by omega)
    have hgd : ks.getD k 0 = ks[k] := by simp [List.getD,hlt]
    have hst := sum_take_succ ks k hlt
    have hsl := sum_take_le ks (k + 1)
    rw [hgd] at hg hpl
    obtain ⟨ca, rfl⟩ := hav.imm (i := k) (by rw [List.length_map]; omega)
    have qa : ((pcs ks d).map fun p => (ptB p).av)[k]? = some (ptB ((pcs ks d)[k]'(by omega))).av := by
      rw [List.getElem?_map, List.getElem?_eq_getElem (by omega)]; rfl
    rw [ptB_av] at qa
    have h1' := h1 _ hmem
    have h2' := h2 _ hmem
    generalize hp : (pcs ks d)[k]'(by omega) = p at *
    simp (maxSteps := 2000000) (discharger := omega) only [xz,xc,xo,xr,x0,x1,x4,xd,Reg.isA,Reg.isV,Reg.stays,Reg.onto,↓reduceIte,reduceCtorEq,Nat.reduceEqDiff,Nat.reduceLT,int_lt_t,la]
    refine wpi_loop (fun x r g' => ∃ (j : Nat) (fd : Bool), r = [(0, .val (.imm 33 ((pcs ks d).map fun p => (ptB p).av) ca)), (1, .val pv), (2, .val dv), (7, .val (.int .i64 (if fd then ((ks.take (k + 1)).sum : Nat) else ((ks.take k).sum : Nat)))), (8, .val (.int .i64 k)), (9, .val (.bool fd)), (10, .val (.int .i64 j))] ∧ x = P.length - j ∧ j ≤ P.length ∧ g' = g ∧ (fd = false → ∀ i (hi : i < P.length), i < j → keyOf P[i] ≠ keyOf p)) P.length (by omega)
      ⟨0, false, rfl, rfl, Nat.zero_le _, rfl, fun _ i _ hi => by omega⟩ ?_
    rintro x r g' ⟨j, fd, rfl, rfl, hj, rfl, hno⟩
    cases fd with
    | true =>
      have fin : ∃ j, j < ks.length - k ∧ ∃ k_1 : Nat, [(0, Reg.val (AV.imm 33 ((pcs ks d).map fun p => (ptB p).av) ca)), (1, .val pv), (2, .val dv), (7, .val (.int .i64 ((ks.take (k + 1)).sum : Nat))), (8, .val (.int .i64 ((k : Int) + 1)))] = [(0, .val (.imm 33 ((pcs ks d).map fun p => (ptB p).av) ca)), (1, .val pv), (2, .val dv), (7, .val (.int .i64 ((ks.take k_1).sum : Nat))), (8, .val (.int .i64 k_1))] ∧ j = ks.length - k_1 ∧ k_1 ≤ ks.length :=
        ⟨ks.length - (k + 1), by omega, k + 1, by rw [show ((k : Nat) : Int) + 1 = ((k + 1 : Nat) : Int) by omega], rfl, by omega⟩
      by_cases hjl : j < P.length
      · simp (maxSteps := 2000000) (discharger := omega) only [xz,xc,xo,xr,x0,x1,x2,x4,xd,Reg.isA,Reg.isV,Reg.stays,Reg.onto,↓reduceIte,reduceCtorEq,Nat.reduceEqDiff,Nat.reduceLT,beq_self_eq_true,wrap_i64,int_lt_t,lp]
        exact fin
      · simp (maxSteps := 2000000) (discharger := omega) only [xz,xc,xo,xr,x0,x1,x2,x4,xd,xb,Reg.isA,Reg.isV,Reg.stays,Reg.onto,↓reduceIte,reduceCtorEq,Nat.reduceEqDiff,Nat.reduceLT,wrap_i64,int_lt_f,lp]
        exact fin
    | false =>
      by_cases hjl : j < P.length
      · obtain ⟨cq, hq⟩ := hpe.get hjl
        obtain ⟨cp, rfl⟩ := hpv.imm (i := j) (by rw [hpe.len]; exact hjl)
        have hgl : (bytesOf P[j]).length = P[j].length := bytesOf_len _
        have x32 : ∀ q z, List.length (intsOf .u8 (shaR q) ++ [z]) = 33 := fun q z => by simp [io_len',shaR_len]
        have g32 : ∀ q z, (intsOf .u8 (shaR q) ++ [z])[32]? = some z := fun q z => by
          rw [List.getElem?_append_right (by rw [io_len', shaR_len]; exact Nat.le_refl _), io_len', shaR_len]; rfl
        by_cases he : keyOf P[j] = keyOf p
        · have hpj := h2' _ (List.getElem_mem hjl) he
          rw [hpj] at hq hgl
          have hge : 1 ≤ ks[k] := hk1 _ (List.getElem_mem hlt)
          obtain ⟨cd, rfl⟩ := hdv.imm (i := (ks.take k).sum) (by rw [bytesOf_len]; omega)
          simp (maxSteps := 2000000) (discharger := omega) only [xz,xc,xo,xr,x0,x1,x2,x3,x4,xd,xe,xb,slOk,sliceV,selems,eqAV,Bool.bne_false,Reg.isA,Reg.isV,Reg.stays,Reg.onto,↓reduceIte,reduceCtorEq,Nat.reduceEqDiff,Nat.reduceLT,Option.getD_some,beq_self_eq_true,exists_eq_left',wrap_i64,int_lt_t,int_lt_f,int_le_t,nat_le_t,lp,qa,hq,tk32,tk32',shaR_len,eqk,x32,g32,hgl,ld]
          have e1 : (((ks.take k).sum : Nat) + (p.length : Nat) : Int).toNat = (ks.take k).sum + ks[k] := by omega
          have e2 : ((ks.take k).sum : Int) + (p.length : Int) = (((ks.take (k + 1)).sum : Nat) : Int) := by omega
          rw [e1, ← hg, e2, if_neg (by simp)]
          exact ⟨P.length - (j + 1), by omega, j + 1, true, by rw [show ((j : Nat) : Int) + 1 = ((j + 1 : Nat) : Int) by omega]; rfl, rfl, by omega, fun h => by cases h⟩
        · simp (maxSteps := 2000000) (discharger := omega) only [xz,xc,xo,xr,x0,x1,x2,x4,xd,xe,eqAV,Bool.bne_false,Reg.isA,Reg.isV,Reg.stays,Reg.onto,↓reduceIte,reduceCtorEq,Nat.reduceEqDiff,Nat.reduceLT,beq_self_eq_true,wrap_i64,int_lt_t,int_le_t,nat_le_t,lp,qa,hq,tk32,tk32',shaR_len,eqk,x32,he]
          exact ⟨P.length - (j + 1), by omega, j + 1, false, by rw [show ((j : Nat) : Int) + 1 = ((j + 1 : Nat) : Int) by omega]; rfl, rfl, by omega, fun _ i hi hij => by
            by_cases e : i = j
            · subst e; exact he
            · exact hno rfl i hi (by omega)⟩
      · exfalso
        obtain ⟨q, hq1, hq2⟩ := List.mem_map.1 h1'
        obtain ⟨i, hi, rfl⟩ := List.getElem_of_mem hq1
        exact hno rfl i hi (by omega) hq2
  · obtain rfl : k = ks.length := by omega
    rw [List.take_length, hks]
    simp (maxSteps := 2000000) (discharger := omega) only [xz,xc,xo,xr,x0,x1,x4,xd,Reg.isA,Reg.isV,Reg.stays,Reg.onto,↓reduceIte,reduceCtorEq,Nat.reduceEqDiff,Nat.reduceLT,beq_self_eq_true,exists_eq_left',int_lt_f,Nat.sub_self,la,ld]

def Nc (l : List By) : Prop := ∀ p ∈ l, ∀ q ∈ l, keyOf p = keyOf q → p = q
def allP (l m M : Int) (fs : List Fl) : List By := fs.flatMap fun f => pcs (cutR l m M f.d) f.d
theorem Nc.snoc {l : List By} {p : By} (h : Nc l) (hp : ∀ q ∈ l, keyOf q = keyOf p → q = p) : Nc (l ++ [p]) := fun x hx y hy e => by
  rcases List.mem_append.1 hx with hx | hx <;> rcases List.mem_append.1 hy with hy | hy
  · exact h x hx y hy e
  · rw [List.mem_singleton] at hy; rw [hy] at e ⊢; exact hp x hx e
  · rw [List.mem_singleton] at hx; rw [hx] at e ⊢; exact (hp y hy e.symm).symm
  · rw [List.mem_singleton] at hx hy; rw [hx, hy]
theorem allP_len (l m M : Int) : ∀ (fs : List Fl), (allP l m M fs).length ≤ szOf fs
  | [] => by simp [allP,szOf]
  | f :: fs => by
    have := allP_len l m M fs
    have h2 := (cutR_sum l m M f.d).2.2
    have h3 := pcs_len (cutR l m M f.d) f.d
    simp only [allP,List.flatMap_cons,List.length_append,szOf,List.map_cons,List.sum_cons] at this ⊢
    omega

structure Seen (l : List By) (g : Hp) (kv tv : AV) : Prop where
  ex : ∃ a b, TokAt 32 (l.map fun p => kA (keyOf p)) g kv a ∧ TokAt 1 (l.map AV.str) g tv b ∧ (∀ x, a = some x → x < g.length ∧ b ≠ some x) ∧ (∀ x, b = some x → x < g.length)
theorem Seen.below {l : List By} {g g' : Hp} {kv tv : AV} (s : Seen l g kv tv) (hB : Below g.length g g') : Seen l g' kv tv := by
  obtain ⟨a, b, h1, h2, h3, h4⟩ := s.ex
  have := hB.1
  exact ⟨a, b, h1.keep fun i o hi ho => by rw [hB.2 i (h3 i hi).1]; exact ho, h2.keep fun i o hi ho => by rw [hB.2 i (h4 i hi)]; exact ho, fun x hx => ⟨by have := (h3 x hx).1; omega, (h3 x hx).2⟩, fun x hx => by have := h4 x hx; omega⟩

theorem Seen.push {l : List By} {g : Hp} {kv tv : AV} (s : Seen l g kv tv) (p : By) (hl : l.length ≤ 1000000000) :
    ∃ kv' g1 tv' g2, appendV false 32 32 kv [.agg (intsOf .u8 (shaR p))] g = some (kv', g1) ∧ appendV false 1 16 tv [.str p] g1 = some (tv', g2) ∧ Seen (l ++ [p]) g2 kv' tv' ∧ kv.isRow = false ∧ tv.isRow = false := by
  obtain ⟨a, b, h1, h2, h3, h4⟩ := s.ex
  obtain ⟨kv', g1, w1, w2, w3, w4, cw, w5⟩ := tok_app (bytes := 32) (xs := [.agg (intsOf .u8 (shaR p))]) h1 (by simp) (by simp; omega)
  have h2' : TokAt 1 (l.map AV.str) g1 tv b := h2.keep fun i o hi ho => w4 i o ho fun e => (h3 i e).2 hi
  obtain ⟨tv', g2, y1, y2, y3, y4, cy, y5⟩ := tok_app (bytes := 16) (xs := [.str p]) h2' (by simp) (by simp; omega)
  refine ⟨kv', g1, tv', g2, w1, y1, ⟨some g.length, some g1.length, ?_, ?_, fun x hx => ?_, fun x hx => ?_⟩, h1.1.isRow, h2.1.isRow⟩
  · rw [List.map_append]
    exact w2.keep fun i o hi ho => by cases hi; exact y4 _ o ho fun e => by have := h4 _ e; omega
  · rw [List.map_append]; exact y2
  · cases hx; exact ⟨by omega, fun e => by have := Option.some.inj e; omega⟩
  · cases hx; exact y3

set_option maxRecDepth 100000 in
theorem c26 (c : AV) (l m M : Int) (fs : List Fl) (a : AV) (hc : Cf c l m M) (hok : okConf l m M) (ha : IsRd 2 (fs.map Fl.av) a) (hfs : ∀ f ∈ fs, f.ok) (hf : Few fs) (hn : 40000000 < n) :
    ∃ b h', call F n tot ω 26 [c, a] h = some (.bool b, h') ∧ (b = false → Nc (allP l m M fs)) := by
  obtain ⟨n, rfl⟩ : ∃ m, n = m + 1 := ⟨n - 1, by omega⟩
  suffices hx : ∃ v h', call F (n + 1) tot ω 26 [c, a] h = some (v, h') ∧ ∃ b, v = .bool b ∧ (b = false → Nc (allP l m M fs)) by
    obtain ⟨v, h', e1, b, rfl, e2⟩ := hx
    exact ⟨b, h', e1, e2⟩
  refine call_of (fn := a26) f26 (P := fun v h' => ∃ b, v = .bool b ∧ (b = false → Nc (allP l m M fs))) ?_
  obtain ⟨cs, hcs, hl, h8, h9, h10⟩ := hc.agg
  subst hcs
  have t12 : List.take 12 cs = cs := List.take_of_length_le (by omega)
  have hnum := hf.num
  have hlen := IsRd.len ha
  rw [List.length_map] at hlen
  unfold a26
  simp (maxSteps := 2000000) (discharger := omega) only [xz,xc,xo,xr,x0,xd,Reg.isA,Reg.isV,Reg.stays,Reg.onto,↓reduceIte,reduceCtorEq,Nat.reduceEqDiff,Nat.reduceLT,Nat.reduceAdd,hl]
  refine wpi_loop (fun x r g => ∃ (i : Nat) (kv tv : AV), r = [(1, .val a), (2, .var (.agg cs)), (5, .val kv), (6, .val tv), (7, .val (.int .i64 i))] ∧ x = fs.length - i ∧ i ≤ fs.length ∧ Seen (allP l m M (fs.take i)) g kv tv ∧ Nc (allP l m M (fs.take i))) fs.length (by omega)
    ⟨0, .nils, .nils, rfl, rfl, Nat.zero_le _, ⟨none, none, tok_nils _ _ _, tok_nils _ _ _, by simp, by simp⟩, fun p hp => by simp [allP] at hp⟩ ?_
  rintro x r g ⟨i, kv, tv, rfl, rfl, hi, hS, hN⟩
  by_cases hlt : i < fs.length
  · obtain ⟨ca, rfl⟩ := ha.imm (i := i) (by simpa using hlt)
    have qf := fl_get hlt
    have hfo := hfs _ (List.getElem_mem hlt)
    have hfd := hf.data _ (List.getElem_mem hlt)
    have hal := allP_len l m M (fs.take i)
    have hsz := hf.take i
    have hall : allP l m M (fs.take (i + 1)) = allP l m M (fs.take i) ++ pcs (cutR l m M fs[i].d) fs[i].d := by
      unfold allP; rw [List.take_succ_eq_append_getElem hlt, List.flatMap_append]; simp
    generalize hA : allP l m M (fs.take i) = A at *
    have hfl := Fl.len hfo
    have hfs1 := fl_sub hfo 1
    have hel := rd_el hfo
    obtain ⟨lv, h1, k52, hlv, hB1⟩ := c52 (n := n) (tot := tot) (ω := ω) (h := g) (.agg cs) l m M fs[i].d ⟨cs, rfl, hl, h8, h9, h10⟩ hok.2.1 (by have := hok.2.2.1; omega) (by omega) (by omega)
    have hS1 := hS.below hB1
    obtain ⟨r1, r2, r3⟩ := cutR_sum l m M fs[i].d
    have hpl := pcs_len (cutR l m M fs[i].d) fs[i].d
    have tb : toBytes (bytesOf fs[i].d) = some fs[i].d := toBytes_bytesOf _
    have hfok : IsRd 1 (bytesOf fs[i].d) fs[i].v := hfo
    generalize fs[i].d = d at *
    generalize fs[i].v = dv at *
    generalize cutR l m M d = ks at *
    have hll := hlv.len
    rw [show (nsOf ks).length = ks.length by simp [nsOf]] at hll
    simp (maxSteps := 2000000) (discharger := omega) only [xz,xc,xo,xr,x0,x1,x2,x4,xd,kont_call,selems,Reg.isA,Reg.isV,Reg.stays,Reg.onto,↓reduceIte,Nat.reduceEqDiff,Nat.reduceLT,int_lt_t,int_le_t,nat_le_t,hlen,qf,hfs1,hel,tb,t12,hl,k52]
    refine wpi_loop (fun x r g => ∃ (k : Nat) (kv tv : AV), r = [(1, .val (.imm 2 (fs.map Fl.av) ca)), (2, .var (.agg cs)), (5, .val kv), (6, .val tv), (7, .val (.int .i64 i)), (8, .val lv), (9, .val (.int .i64 ((ks.take k).sum : Nat))), (10, .val (.int .i64 k))] ∧ x = ks.length - k ∧ k ≤ ks.length ∧ Seen (A ++ (pcs ks d).take k) g kv tv ∧ Nc (A ++ (pcs ks d).take k)) ks.length (by omega)
      ⟨0, kv, tv, rfl, rfl, Nat.zero_le _, by simpa using hS1, by simpa using hN⟩ ?_
    rintro x r g2 ⟨k, kv, tv, rfl, rfl, hk, hS2, hN2⟩
    by_cases hklt : k < ks.length
    · have hge := r2 _ (List.getElem_mem hklt)
      have hst := sum_take_succ ks k hklt
      have hsl := sum_take_le ks (k + 1)
      have hg := pcs_get ks d k (by omega)
      have hgd : ks.getD k 0 = ks[k] := by simp [List.getD,hklt]
      have hln := pcs_pos ks d k (by omega) (by omega)
      rw [hgd] at hg hln
      obtain ⟨cd, rfl⟩ := hfok.imm (i := 0) (by rw [bytesOf_len]; omega)
      obtain ⟨cl, rfl⟩ := hlv.imm (i := k) (by simpa [nsOf] using hklt)
      have q1 : (nsOf ks)[k]? = some (.int .i64 (ks[k] : Nat)) := by simp [nsOf,hklt]
      have htk : (pcs ks d).take (k + 1) = (pcs ks d).take k ++ [(pcs ks d)[k]'(by omega)] := List.take_succ_eq_append_getElem (by omega)
      generalize hp : (pcs ks d)[k]'(by omega) = p at *
      obtain ⟨h3, k22, hB3⟩ := c22 (n := n) (tot := tot) (ω := ω) (h := g2) p .full (by omega) (by omega)
      have hS3 := hS2.below hB3
      have hBl : (A ++ (pcs ks d).take k).length ≤ 4000000 := by rw [List.length_append, List.length_take]; omega
      generalize hBd : A ++ (pcs ks d).take k = B at *
      obtain ⟨kv', g4, tv', g5, y1, y2, y3, y4, y5⟩ := hS3.push p (by omega)
      have e1 : (((ks.take k).sum : Nat) : Int) + ((ks[k] : Nat) : Int) = (((ks.take k).sum + ks[k] : Nat) : Int) := by omega
      have z32 : (AV.agg [AV.int .u8 0, AV.int .u8 0, AV.int .u8 0, AV.int .u8 0, AV.int .u8 0, AV.int .u8 0, AV.int .u8 0, AV.int .u8 0, AV.int .u8 0, AV.int .u8 0, AV.int .u8 0, AV.int .u8 0, AV.int .u8 0, AV.int .u8 0, AV.int .u8 0, AV.int .u8 0, AV.int .u8 0, AV.int .u8 0, AV.int .u8 0, AV.int .u8 0, AV.int .u8 0, AV.int .u8 0, AV.int .u8 0, AV.int .u8 0, AV.int .u8 0, AV.int .u8 0, AV.int .u8 0, AV.int .u8 0, AV.int .u8 0, AV.int .u8 0, AV.int .u8 0, AV.int .u8 0] : AV) = .agg (intsOf .u8 Z32R) := rfl
      have hz : Z32R.length = 32 := rfl
      have hd32 : List.drop 32 (intsOf .u8 Z32R) = [] := rfl
      obtain ⟨ka, kb, t1, t2, t3, t4⟩ := hS3.ex
      have hkl := t1.1.len
      have htl := t2.1.len
      rw [List.length_map] at hkl htl
      simp (maxSteps := 2000000) (discharger := omega) only [xz,xc,xo,xr,x0,x1,x2,x3,x4,x5,xd,xe,xb,kont_call,slOk,sliceV,selems,wr,partEs,placeEs,Reg.isA,Reg.isV,Reg.stays,Reg.onto,↓reduceIte,Nat.reduceEqDiff,Nat.reduceLT,Nat.zero_lt_succ,Option.getD_some,beq_self_eq_true,xu,List.set_cons_zero,wrap_i64,int_lt_t,int_le_t,nat_le_t,hll,qf,q1,e1,← hg,z32,k22,List.replicate,hz,shaR_len,hd32]
      refine wpi_loop (fun x r g => ∃ (j : Nat), r = [(1, .val (.imm 2 (fs.map Fl.av) ca)), (2, .var (.agg cs)), (5, .val kv), (6, .val tv), (7, .val (.int .i64 i)), (8, .val (.imm 1 (nsOf ks) cl)), (9, .val (.int .i64 ((ks.take k).sum : Nat))), (10, .val (.int .i64 k)), (11, .val (.str p)), (12, .var (.agg (intsOf .u8 (shaR p)))), (13, .val (.int .i64 j))] ∧ x = B.length - j ∧ j ≤ B.length ∧ g = h3 ∧ ∀ i (hi : i < B.length), i < j → keyOf B[i] = keyOf p → B[i] = p) B.length (by omega)
        ⟨0, rfl, rfl, Nat.zero_le _, rfl, fun i _ hi => by omega⟩ ?_
      rintro x r g6 ⟨j, rfl, rfl, hj, rfl, hno⟩
      by_cases hjl : j < B.length
      · obtain ⟨ck, rfl⟩ := t1.1.imm (by intro e; have := congrArg List.length e; simp at this; subst this; simp at hjl)
        obtain ⟨ct, rfl⟩ := t2.1.imm (by intro e; have := congrArg List.length e; simp at this; subst this; simp at hjl)
        have u1 : (B.map fun p => kA (keyOf p))[j]? = some (.agg (intsOf .u8 (shaR B[j]))) := by rw [List.getElem?_map, List.getElem?_eq_getElem hjl]; rfl
        have u2 : (B.map AV.str)[j]? = some (.str B[j]) := by simp [hjl]
        by_cases he : keyOf B[j] = keyOf p
        · by_cases heq : B[j] = p
          · simp (maxSteps := 2000000) (discharger := omega) only [xz,xc,xo,xr,x0,x1,x2,x4,xd,xe,eqAV,Bool.bne_false,Reg.isA,Reg.isV,Reg.stays,Reg.onto,↓reduceIte,Nat.reduceEqDiff,Nat.reduceLT,beq_self_eq_true,wrap_i64,int_lt_t,int_le_t,nat_le_t,List.length_map,u1,u2,shaR_len,tk32',eqk,heq]
            exact ⟨B.length - (j + 1), by omega, j + 1, by rw [show ((j : Nat) : Int) + 1 = ((j + 1 : Nat) : Int) by omega], rfl, by omega, fun i hi hij => by
              by_cases e : i = j
              · subst e; exact fun _ => heq
              · exact hno i hi (by omega)⟩
          · have hbe : (B[j] == p) = false := by simpa using heq
            simp (maxSteps := 2000000) (discharger := omega) only [xz,xc,xo,xr,x0,x1,x2,x4,xd,xe,eqAV,Bool.bne_false,Reg.isA,Reg.isV,Reg.stays,Reg.onto,↓reduceIte,Nat.reduceEqDiff,Nat.reduceLT,beq_self_eq_true,exists_eq_left',int_lt_t,int_le_t,nat_le_t,List.length_map,u1,u2,shaR_len,tk32',eqk,he,hbe]
            exact ⟨true, rfl, fun h => by cases h⟩
        · simp (maxSteps := 2000000) (discharger := omega) only [xz,xc,xo,xr,x0,x1,x2,x4,xd,xe,xb,eqAV,Bool.bne_false,Reg.isA,Reg.isV,Reg.stays,Reg.onto,↓reduceIte,Nat.reduceEqDiff,Nat.reduceLT,wrap_i64,int_lt_t,int_le_t,nat_le_t,List.length_map,u1,shaR_len,tk32',eqk,he]
          exact ⟨B.length - (j + 1), by omega, j + 1, by rw [show ((j : Nat) : Int) + 1 = ((j + 1 : Nat) : Int) by omega], rfl, by omega, fun i hi hij => by
            by_cases e : i = j
            · subst e; exact fun h => absurd h he
            · exact hno i hi (by omega)⟩
      · have hNp : Nc (B ++ [p]) := hN2.snoc fun q hq e => by
          obtain ⟨i, hi, rfl⟩ := List.getElem_of_mem hq
          exact hno i hi (by omega) e
        simp (maxSteps := 2000000) (discharger := omega) only [xz,xc,xo,xr,x0,x1,x3,x4,x5,xd,xe,xb,selems,srcElems,partEs,placeEs,Reg.isA,Reg.isV,Reg.stays,Reg.onto,↓reduceIte,Nat.reduceEqDiff,Nat.reduceLT,Nat.zero_lt_succ,List.set_cons_zero,wrap_i64,int_lt_f,int_le_t,nat_le_t,hkl,List.replicate,shaR_len,tk32',y1,y2,y4,y5,q1,e1]
        refine ⟨ks.length - (k + 1), by omega, k + 1, kv', tv', by rw [hst, show ((k : Nat) : Int) + 1 = ((k + 1 : Nat) : Int) by omega], rfl, by omega, ?_, ?_⟩
        · rw [htk, ← List.append_assoc, hBd]; exact y3
        · rw [htk, ← List.append_assoc, hBd]; exact hNp
    · obtain rfl : k = ks.length := by omega
      rw [List.take_of_length_le (by omega)] at hS2 hN2
      simp (maxSteps := 2000000) (discharger := omega) only [xz,xc,xo,xr,x0,x1,x4,xd,Reg.isA,Reg.isV,Reg.stays,Reg.onto,↓reduceIte,Nat.reduceEqDiff,Nat.reduceLT,wrap_i64,int_lt_f,Nat.sub_self,hll]
      exact ⟨fs.length - (i + 1), by omega, i + 1, kv, tv, by rw [show ((i : Nat) : Int) + 1 = ((i + 1 : Nat) : Int) by omega], rfl, by omega, by rw [hall]; exact hS2, by rw [hall]; exact hN2⟩
  · obtain rfl : i = fs.length := by omega
    rw [List.take_length] at hN
    simp (maxSteps := 2000000) (discharger := omega) only [xz,xc,xo,xr,x0,x1,x4,xd,Reg.isA,Reg.isV,Reg.stays,Reg.onto,↓reduceIte,Nat.reduceEqDiff,Nat.reduceLT,exists_eq_left',int_lt_f,Nat.sub_self,hlen]
    exact ⟨false, rfl, fun _ => hN⟩
end
end Go.Proofs.YtpgmohjmpaifbaaDoor.Im

/- S21Dp: the plain law of where two trees differ. -/
set_option linter.unusedVariables false
set_option linter.unusedSimpArgs false
open Go Go.Im
namespace Go.Proofs.YtpgmohjmpaifbaaDoor.Im

def Rise (L : List Lf) : Prop := L.Pairwise fun x y => Op.bytesLess x.p y.p = true
def same (B : List Lf) (x : Lf) : Bool := match fnd B x.p with
  | some y => decide (x.ps = y.ps)
  | none => false
def cnt (A B : List Lf) : Nat := (A.filter (same B)).length
def both (D : List Ch) : Nat := (D.filter fun c => c.w && c.i).length

structure DiffOk (A B : List Lf) (D : List Ch) : Prop where
  from' : ∀ c ∈ D, (∃ x ∈ A, x.p = c.p) ∨ ∃ y ∈ B, y.p = c.p
  rise : D.Pairwise fun x y => Op.bytesLess x.p y.p = true
  was : ∀ c ∈ D, (fnd A c.p).isSome = c.w
  is' : ∀ c ∈ D, (fnd B c.p).isSome = c.i
  ne : ∀ c ∈ D, ∀ x y, fnd A c.p = some x → fnd B c.p = some y → ¬ x.ps = y.ps
  num : A.length + B.length = 2 * cnt A B + D.length + both D

end Go.Proofs.YtpgmohjmpaifbaaDoor.Im

/- S21Fd: the law TreeFinds. -/
set_option linter.unusedVariables false
set_option linter.unusedSimpArgs false
open Go Go.Im
namespace Go.Proofs.YtpgmohjmpaifbaaDoor.Im
section
variable {n : Nat} {tot : Bool} {ω : Nat → Nat} {h : Hp}
theorem f10 : F 10 = some (.inr yesG) := by kernel_rfl
theorem c10 (hn : 0 < n) : call F n tot ω 10 [] h = some (.bool true, h) := by
  obtain ⟨n, rfl⟩ : ∃ m, n = m + 1 := ⟨n - 1, by omega⟩
  rw [call_inr f10]; rfl

end

end Go.Proofs.YtpgmohjmpaifbaaDoor.Im

/- S21Df: the law TreeDiffs. -/
set_option linter.unusedVariables false
set_option linter.unusedSimpArgs false
open Go Go.Im
namespace Go.Proofs.YtpgmohjmpaifbaaDoor.Im

def mir (c : Ch) : Ch := ⟨c.p, c.i, c.w⟩
section
variable {n : Nat} {tot : Bool} {ω : Nat → Nat} {h : Hp}

end

end Go.Proofs.YtpgmohjmpaifbaaDoor.Im

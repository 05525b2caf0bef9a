/- Joined: S21Bd, S21Ct, S21Ca, S21Cx, S21Dp, S21Fd, S21Df, S21Bo. -/
import Derived.Test.YtpgmohjmpaifbaaDoorFm
import Derived.Sort.LotA
import Derived.Test.YtpgmohjmpaifbaaDoorImMapT
/- S21Bd: the reference's tree of files. -/
set_option linter.unusedVariables false
set_option linter.unusedSimpArgs false
open Go Go.Im Go.Sort
namespace Go.Proofs.YtpgmohjmpaifbaaDoor.Im

theorem fl_get' {fs : List Fl} {i : Nat} (hi : i < fs.length) : (fs.map Fl.av)[i]? = some (.agg [.str fs[i].p, fs[i].v]) := by simp [hi,Fl.av]
theorem wrap64_tmod (x m : Int) (hm : 0 < m) : 0 ≤ (IntKind.u64.wrap x).tmod m ∧ (IntKind.u64.wrap x).tmod m < m := by
  have h : 0 ≤ IntKind.u64.wrap x := by
    have : IntKind.u64.wrap x = x % 18446744073709551616 := by simp [IntKind.wrap,IntKind.signed,IntKind.bits]
    rw [this]; omega
  rw [tmod_pos h]
  exact ⟨Int.emod_nonneg _ (by omega), Int.emod_lt_of_pos _ hm⟩

section
variable {n : Nat} {tot : Bool} {ω : Nat → Nat} {h : Hp}

theorem keepR_below2 {lo : Nat} {h h' : Hp} (k : KeepR lo 2 h h') (hl : lo ≤ h.length) : Below lo h h' := ⟨k.1, fun i hi => by
  have e : h[i]? = some h[i] := List.getElem?_eq_getElem (by omega)
  rw [e]; exact k.2 i _ e (.inl hi)⟩

theorem flLt_swo' : SWO flLt := ⟨fun x => bl_irrefl _, fun x y z h1 h2 => bl_trans _ _ _ h1 h2, fun x y z h1 h2 => bl_ntrans _ _ _ h1 h2⟩
def SrtF (gs : List Fl) : Prop := ∀ j k (hj : j < gs.length) (hk : k < gs.length), j < k → flLt gs[k] gs[j] = false

theorem c49 (a : AV) (fs : List Fl) (ha : IsRd 2 (fs.map Fl.av) a) (hok : ∀ f ∈ fs, f.ok) (hl : fs.length ≤ 1000000) (hn : fs.length + 10 < n) :
    ∃ (v : AV) (m : Hp) (gs : List Fl), call F n tot ω 49 [a] h = some (v, h ++ m) ∧ RowEx (h ++ m) 2 h.length (gs.map Fl.av) v ∧ gs.Perm fs ∧ SrtF gs := by
  obtain ⟨n, rfl⟩ : ∃ m, n = m + 1 := ⟨n - 1, by omega⟩
  suffices hx : ∃ u h', call F (n + 1) tot ω 49 [a] h = some (u, h') ∧ ∃ (gs : List Fl), Below h.length h h' ∧ RowEx h' 2 h.length (gs.map Fl.av) u ∧ gs.Perm fs ∧ SrtF gs by
    obtain ⟨u, h', e1, gs, b1, b2, b3⟩ := hx
    have e : h' = h ++ h'.drop h.length := by
      have : h'.take h.length = h := by
        apply List.ext_getElem?
        intro i
        rw [List.getElem?_take]
        by_cases hi : i < h.length
        · rw [if_pos hi]; exact b1.2 i hi
        · rw [if_neg hi, List.getElem?_eq_none (by omega)]
      conv => lhs; rw [← List.take_append_drop h.length h', this]
    rw [e] at e1 b2
    exact ⟨u, _, gs, e1, b2, b3⟩
  refine call_of (fn := a49) f49 (P := fun u h' => ∃ (gs : List Fl), Below h.length h h' ∧ RowEx h' 2 h.length (gs.map Fl.av) u ∧ gs.Perm fs ∧ SrtF gs) ?_
  unfold a49
  have hlen := ha.len
  rw [List.length_map] at hlen
  simp (maxSteps := 2000000) (discharger := omega) only [xz,xc,xo,xr,x0,Reg.isA,Reg.isV,Reg.stays,Reg.onto,↓reduceIte,reduceCtorEq,Nat.reduceEqDiff,Nat.reduceLT]
  refine wpi_loop (fun x r g => ∃ (i : Nat) (lv : AV) (gs : List Fl), r = [(0, .val a), (3, .val lv), (4, .val (.int .i64 i))] ∧ x = fs.length - i ∧ i ≤ fs.length ∧ Below h.length h g ∧ RowEx g 2 h.length (gs.map Fl.av) lv ∧ gs.Perm (fs.take i) ∧ SrtF gs) fs.length (by omega)
    ⟨0, .nils, [], rfl, rfl, Nat.zero_le _, .refl _ _, .inl ⟨rfl, rfl⟩, .refl _, fun j k hj => by simp at hj⟩ ?_
  rintro x r g ⟨i, lv, gs, rfl, rfl, hi, hB, hR, hP, hSr⟩
  have hgl : gs.length = i := by rw [hP.length_eq, List.length_take]; omega
  by_cases hlt : i < fs.length
  · obtain ⟨cv, rfl⟩ := ha.imm (i := i) (by simpa using hlt)
    have q1 := fl_get' hlt
    have hf := hok _ (List.getElem_mem hlt)
    have hR2 : RowEx (g ++ [.row 2 [.agg [.str fs[i].p, fs[i].v]]]) 2 h.length (gs.map Fl.av) lv := hR.more
    obtain ⟨v', h2, w1, w2, w3⟩ := row_appx (bytes := 40) (xs := [.agg [.str fs[i].p, fs[i].v]]) hR2 (by simp [hgl]; omega) (by have := hB.1; simp; omega)
    have hB2 : Below h.length h h2 := hB.trans ((Below.app _ _ _ hB.1).trans (keepR_below2 w3 (by have := hB.1; simp; omega)))
    have hP2 : (gs ++ [fs[i]]).Perm (fs.take (i + 1)) := by rw [List.take_succ_eq_append_getElem hlt]; exact hP.append_right _
    have w2' : RowEx h2 2 h.length ((gs ++ [fs[i]]).map Fl.av) v' := by rw [List.map_append]; exact w2
    rcases w2' with ⟨_, e0⟩ | ⟨id, rfl, hid, hlo⟩
    · have := congrArg List.length e0
      simp at this
    · have hidf : h2[id]? = some (.row 2 (Full Fl.av [] [] (gs ++ [fs[i]]).toArray)) := by rw [hid]; simp [Full]
      have hsz : (gs ++ [fs[i]]).toArray.size = i + 1 := by simp [hgl]
      have hP3 : (gs ++ [fs[i]]).toArray.toList.Perm (fs.take (i + 1)) := by simpa using hP2
      have hIns : Ins flLt 0 i i (gs ++ [fs[i]]).toArray := ⟨fun p q _ hpq hqi _ hq => by
        have hq' : q < gs.length := by omega
        have hp' : p < gs.length := by omega
        have := hSr p q hp' hq' hpq
        simpa [getElem!_pos, hp', hq', Nat.lt_succ_of_lt, List.getElem_append_left] using this, fun q h1 h2 => by omega⟩
      generalize (gs ++ [fs[i]]).toArray = d at hidf hsz hP3 hIns
      have e1 : ((i + 1 : Nat) : Int) - 1 = ((i : Nat) : Int) := by omega
      rw [List.length_map, List.length_append, hgl] at w1
      simp (maxSteps := 2000000) (discharger := omega) only [xz,xc,xo,xr,x0,x1,x4,x5,xd,xb,selems,srcElems,partEs,placeEs,Reg.isA,Reg.isV,Reg.stays,Reg.onto,↓reduceIte,reduceCtorEq,Nat.reduceEqDiff,Nat.reduceLT,Nat.reduceAdd,Nat.zero_lt_succ,List.set_cons_zero,wrap_i64,int_lt_t,int_le_t,nat_le_t,hlen,q1,hg0,w1,List.replicate,List.set_cons_zero,e1]
      refine wpi_loop (fun x r g2 => ∃ (j : Nat) (d : Array Fl), r = [(0, .val (.imm 2 (fs.map Fl.av) cv)), (3, .val (.row id 2 0 (i + 1) false)), (4, .val (.int .i64 i)), (5, .val (.int .i64 j))] ∧ j = x ∧ j ≤ i ∧ d.size = i + 1 ∧ g2[id]? = some (.row 2 (Full Fl.av [] [] d)) ∧ d.toList.Perm (fs.take (i + 1)) ∧ Ins flLt 0 j i d ∧ Below h.length h g2) i (by omega)
        ⟨i, d, rfl, rfl, Nat.le_refl _, hsz, hidf, hP3, hIns, hB2⟩ ?_
      rintro x r g2 ⟨j, d, rfl, rfl, hj, hsz, hidf, hP3, hIns, hB2⟩
      have fin : (j ≤ 0 ∨ flLt d[j]! d[j - 1]! = false) → ∃ (gs : List Fl), Below h.length h g2 ∧ RowEx g2 2 h.length (gs.map Fl.av) (.row id 2 0 (i + 1) false) ∧ gs.Perm (fs.take (i + 1)) ∧ SrtF gs := fun hst => ⟨d.toList, hB2, .inr ⟨id, by simp [hsz], by rw [hidf]; simp [Full], hlo⟩, hP3, fun p q hp hq hpq => by
        have hp' : p < d.size := by simpa using hp
        have hq' : q < d.size := by simpa using hq
        have := hIns.stop flLt_swo' hst p q (Nat.zero_le _) hpq (by omega)
        simpa [getElem!_pos, hp', hq'] using this⟩
      have hid2 := (List.getElem?_eq_some_iff.1 hidf).1
      by_cases hj0 : 0 < j
      · obtain ⟨j, rfl⟩ : ∃ j', j = j' + 1 := ⟨j - 1, by omega⟩
        have e2 : (((j + 1 : Nat) : Int) - 1) = ((j : Nat) : Int) := by omega
        have r1 : (Full Fl.av [] [] d)[j + 1]? = some (.agg [.str d[j + 1]!.p, d[j + 1]!.v]) := full0_get (by omega)
        have r2 : (Full Fl.av [] [] d)[j]? = some (.agg [.str d[j]!.p, d[j]!.v]) := full0_get (by omega)
        cases hbl : Op.bytesLess d[j + 1]!.p d[j]!.p with
        | false =>
          simp (maxSteps := 2000000) (discharger := omega) only [xz,xc,xo,xr,x0,x1,xd,Reg.isA,Reg.isV,Reg.stays,Reg.onto,↓reduceIte,reduceCtorEq,Nat.reduceEqDiff,Nat.reduceLT,beq_self_eq_true,wrap_i64,int_lt_t,int_le_t,hidf,r1,r2,hbl,e2]
          obtain ⟨gs', f1, f2, f3⟩ := fin (.inr hbl)
          exact ⟨fs.length - (i + 1), by omega, i + 1, _, gs', by rw [show ((i : Nat) : Int) + 1 = ((i + 1 : Nat) : Int) by omega], rfl, by omega, f1, f2, f3⟩
        | true =>
          have u1 : (Full Fl.av [] [] d).set (j + 1) (.agg [.str d[j]!.p, d[j]!.v]) = Full Fl.av [] [] (d.setIfInBounds (j + 1) d[j]!) := full0_set (by omega)
          have u2 : (Full Fl.av [] [] (d.setIfInBounds (j + 1) d[j]!)).set j (.agg [.str d[j + 1]!.p, d[j + 1]!.v]) = Full Fl.av [] [] (swp d (j + 1) j) := full0_set (by simp; omega)
          obtain ⟨z, hz⟩ : ∃ z, (Full Fl.av [] [] (d.setIfInBounds (j + 1) d[j]!))[j]? = some (.agg z) ∧ z.length = 2 := ⟨_, full0_get (by simp; omega), rfl⟩
          obtain ⟨hz1, hz2⟩ := hz
          have hdz : List.drop 2 z = [] := List.drop_of_length_le (by omega)
          have pm := swp_permIn d 0 (i + 1) (j + 1) j (by omega) (by omega) (by omega) (by omega) (by omega)
          have hpm : (swp d (j + 1) j).toList.Perm (fs.take (i + 1)) := by
            have := pm.2.2
            have hs2 : (swp d (j + 1) j).size = i + 1 := by rw [pm.1, hsz]
            rw [show (swp d (j + 1) j).extract 0 (i + 1) = swp d (j + 1) j by rw [← hs2]; simp, show d.extract 0 (i + 1) = d by rw [← hsz]; simp] at this
            exact this.trans hP3
          simp (maxSteps := 2000000) (discharger := omega) only [xz,xc,xo,xr,x0,x1,x5,xd,wr,Reg.isA,Reg.isV,Reg.stays,Reg.onto,↓reduceIte,reduceCtorEq,Nat.reduceEqDiff,Nat.reduceLT,Nat.reduceAdd,beq_self_eq_true,xu,wrap_i64,int_lt_t,int_le_t,nat_le_t,hidf,r1,r2,hbl,e2,u1,get_set_self,hz1,hz2,hdz,List.set_set,u2]
          refine ⟨j, by omega, j, swp d (j + 1) j, rfl, rfl, by omega, by rw [pm.1, hsz], rfl, hpm, hIns.step hbl (Nat.zero_le _) (by omega), hB2.trans ⟨by simp, fun q hq => ?_⟩⟩
          rw [get_set_ne (by omega)]
      · obtain rfl : j = 0 := by omega
        simp (maxSteps := 2000000) (discharger := omega) only [xz,xc,xo,xr,x0,x1,xd,xb,Reg.isA,Reg.isV,Reg.stays,Reg.onto,↓reduceIte,reduceCtorEq,Nat.reduceEqDiff,Nat.reduceLT,Int.cast_ofNat_Int,wrap_i64,int_lt_f]
        obtain ⟨gs', f1, f2, f3⟩ := fin (.inl (Nat.le_refl _))
        exact ⟨fs.length - (i + 1), by omega, i + 1, _, gs', by rw [show ((i : Nat) : Int) + 1 = ((i + 1 : Nat) : Int) by omega], rfl, by omega, f1, f2, f3⟩
  · obtain rfl : i = fs.length := by omega
    rw [List.take_length] at hP
    simp (maxSteps := 2000000) (discharger := omega) only [xz,xc,xo,xr,x0,x1,x4,xd,Reg.isA,Reg.isV,Reg.stays,Reg.onto,↓reduceIte,reduceCtorEq,Nat.reduceEqDiff,Nat.reduceLT,exists_eq_left',int_lt_f,Nat.sub_self,hlen]
    exact ⟨gs, hB, hR, hP, hSr⟩

def partsL (d : By) : Nat → List Nat → List Pt
  | _, [] => []
  | at', k :: ks => ⟨shaR ((d.take (at' + k)).drop at'), (k : Nat)⟩ :: partsL d (at' + k) ks
def partsR (l m M : Int) (d : By) : List Pt := partsL d 0 (cutR l m M d)
theorem partsL_snoc (d : By) (k : Nat) : ∀ (ks : List Nat) (a : Nat), partsL d a (ks ++ [k]) = partsL d a ks ++ [⟨shaR ((d.take (a + ks.sum + k)).drop (a + ks.sum)), (k : Nat)⟩]
  | [], a => by simp [partsL]
  | x :: ks, a => by
    have := partsL_snoc d k ks (a + x)
    simp only [List.cons_append,partsL,this,List.sum_cons,Nat.add_assoc]
theorem partsL_len (d : By) : ∀ (ks : List Nat) (a : Nat), (partsL d a ks).length = ks.length
  | [], a => rfl
  | x :: ks, a => by simp [partsL,partsL_len d ks]
theorem shaR_len (s : By) : (shaR s).length = 32 := keyI_len _
theorem partsL_ok (d : By) : ∀ (ks : List Nat) (a : Nat), ∀ x ∈ partsL d a ks, x.ok
  | [], a, x, h => by cases h
  | k :: ks, a, x, h => by
    rcases List.mem_cons.1 h with rfl | h
    · exact shaR_len _
    · exact partsL_ok d ks _ x h

set_option maxHeartbeats 1000000 in
set_option maxRecDepth 100000 in
theorem c25 (c : AV) (l m M : Int) (d : By) (v : AV) (hc : Cf c l m M) (hm : 1 ≤ m) (hm2 : m ≤ 1000000000) (hd : IsRd 1 (bytesOf d) v) (hl : d.length ≤ 1000000) (hn : d.length + 300 < n) :
    ∃ v' h', call F n tot ω 25 [c, v] h = some (v', h') ∧ IsRd 33 ((partsR l m M d).map Pt.av) v' ∧ Below h.length h h' := by
  obtain ⟨n, rfl⟩ : ∃ m, n = m + 1 := ⟨n - 1, by omega⟩
  refine call_of (fn := a25) f25 (P := fun v' h' => IsRd 33 ((partsR l m M d).map Pt.av) v' ∧ Below h.length h h') ?_
  obtain ⟨cs, hcs, hcl, h8, h9, h10⟩ := hc.agg
  subst hcs
  have htk : List.take 12 cs = cs := List.take_of_length_le (by omega)
  obtain ⟨lv, h1, k52, hlv, hB1⟩ := c52 (n := n) (tot := tot) (ω := ω) (h := h) (.agg cs) l m M d hc hm hm2 (by omega) (by omega)
  obtain ⟨s1, s2, s3⟩ := cutR_sum l m M d
  unfold partsR
  have hel := rd_el hd
  have hsel : ∀ g, (match (some (AV.imm 1 (bytesOf d) .no) : Option AV) with | some v => elems g 1 v | none => none) = some (bytesOf d) := fun g => by simp [elems]
  generalize cutR l m M d = ks at *
  have hll := hlv.len
  rw [show (nsOf ks).length = ks.length by simp [nsOf]] at hll
  unfold a25
  simp (maxSteps := 2000000) (discharger := omega) only [xz,xc,xo,xr,x0,x2,xd,xe,kont_call,selems,Reg.isA,Reg.isV,Reg.stays,Reg.onto,↓reduceIte,reduceCtorEq,Nat.reduceEqDiff,Nat.reduceLT,Nat.reduceAdd,nat_le_t,hcl,htk,hel,k52]
  refine wpi_loop (fun x r g => ∃ (i : Nat) (ov : AV), r = [(1, .val v), (5, .val ov), (6, .val lv), (7, .val (.int .i64 ((ks.take i).sum : Nat))), (8, .val (.int .i64 i))] ∧ x = ks.length - i ∧ i ≤ ks.length ∧ LateApp h.length 33 ((partsL d 0 (ks.take i)).map Pt.av) g ov ∧ Below h.length h g) ks.length (by omega)
    ⟨0, .nils, rfl, rfl, Nat.zero_le _, late_nils _ _ _, hB1⟩ ?_
  rintro x r g ⟨i, ov, rfl, rfl, hi, hA, hB⟩
  by_cases hlt : i < ks.length
  · have hk1 := s2 _ (List.getElem_mem hlt)
    have hsum : (ks.take i).sum + ks[i] ≤ d.length := by
      have e : (ks.take (i + 1)).sum + (ks.drop (i + 1)).sum = ks.sum := by rw [← List.sum_append_nat, List.take_append_drop]
      rw [List.take_succ_eq_append_getElem hlt, List.sum_append_nat] at e
      simp at e; omega
    obtain ⟨cl, rfl⟩ := hlv.imm (i := i) (by simpa [nsOf] using hlt)
    obtain ⟨cv, rfl⟩ := hd.imm (i := 0) (by rw [bytesOf_len]; omega)
    have q1 : (nsOf ks)[i]? = some (.int .i64 (ks[i] : Nat)) := by simp [nsOf,hlt]
    have hsn := partsL_snoc d ks[i] (ks.take i) 0
    rw [Nat.zero_add, ← List.take_succ_eq_append_getElem hlt] at hsn
    have htl : (ks.take (i + 1)).sum = (ks.take i).sum + ks[i] := by rw [List.take_succ_eq_append_getElem hlt, List.sum_append_nat]; simp
    have hpl := partsL_len d (ks.take i) 0
    rw [List.length_take] at hpl
    generalize (ks.take i).sum = a at *
    generalize ks[i] = k at *
    have e1 : ((a : Nat) : Int) + ((k : Nat) : Int) = ((a + k : Nat) : Int) := by omega
    obtain ⟨h2, k53, hB2⟩ := c53 (n := n) (tot := tot) (ω := ω) (h := g) ((d.take (a + k)).drop a) (by simp; omega) (by simp; omega)
    have sl := shaR_len ((d.take (a + k)).drop a)
    generalize hX : shaR ((d.take (a + k)).drop a) = X at *
    have x1' : (intsOf .u8 X).length = 32 := by rw [io_len', sl]
    have x2' : ∀ z, List.take 32 (intsOf .u8 X ++ [z]) = intsOf .u8 X := fun z => by rw [List.take_append_of_le_length (by omega), List.take_of_length_le (by omega)]
    have x3' : ∀ z, List.drop 33 (intsOf .u8 X ++ [z]) = [] := fun z => List.drop_of_length_le (by simp [x1'])
    obtain ⟨v', h3, w1, w2, w3⟩ := late_app (bytes := 40) (xs := [.agg (intsOf .u8 X ++ [.int .i64 (k : Nat)])]) (hA.belw (lo' := 0) hB2) (by have := hB.1; have := hB2.1; omega) (by simp) (by simp [hpl]; omega)
    simp (maxSteps := 2000000) (discharger := omega) only [xz,xc,xo,xr,x0,x1,x2,x3,x4,x5,xd,xe,xb,kont_call,slOk,sliceV,selems,srcElems,place,partVals,partEs,placeEs,Reg.isA,Reg.isV,Reg.stays,Reg.onto,↓reduceIte,Nat.reduceEqDiff,Nat.reduceLT,Nat.reduceAdd,Nat.zero_lt_succ,Option.getD_some,beq_self_eq_true,List.set_cons_zero,wrap_i64,int_lt_t,int_le_t,nat_le_t,hll,q1,e1,w_regionA2,inOrd,List.filterMap_cons,List.filterMap_nil,Is,k53,x1',x2',x3',List.length_append,w1,hA.1.isRow,List.replicate]
    exact ⟨ks.length - (i + 1), by omega, i + 1, v', by rw [htl, show ((i : Nat) : Int) + 1 = ((i + 1 : Nat) : Int) by omega], rfl, by omega, by rw [hsn, List.map_append]; exact w2, hB.trans ((hB2.low hB.1).trans w3)⟩
  · obtain rfl : i = ks.length := by omega
    rw [List.take_length] at hA
    simp (maxSteps := 2000000) (discharger := omega) only [xz,xc,xo,xr,x0,x1,x4,xd,Reg.isA,Reg.isV,Reg.stays,Reg.onto,↓reduceIte,Nat.reduceEqDiff,Nat.reduceLT,exists_eq_left',int_lt_f,Nat.sub_self,hll]
    exact ⟨isRd_app hA.1, hB⟩

theorem late_app2 {lo sz bytes : Nat} {es xs : List AV} {h : Hp} {v : AV} (hv : LateApp lo sz es h v) (hlo : lo ≤ h.length) (hx : xs ≠ []) (hb : (es.length + xs.length) * bytes ≤ 140737488355328) :
    ∃ v' h', appendV false sz bytes v xs h = some (v', h') ∧ LateApp lo sz (es ++ xs) h' v' ∧ Below lo h h' ∧ ∀ (id : Nat) o, h[id]? = some o → o.solid = true → h'[id]? = some o := by
  obtain ⟨v', h', w1, w2, w3⟩ := late_app (bytes := bytes) hv hlo hx hb
  obtain ⟨v2, h2, z1, _, z3, _⟩ := app_ok (bytes := bytes) hv.1 hx hb
  rw [w1] at z1
  cases z1
  exact ⟨v', h', w1, w2, w3, z3⟩
theorem partsR_len (l m M : Int) (d : By) : (partsR l m M d).length ≤ d.length := by
  unfold partsR
  rw [partsL_len]; exact (cutR_sum l m M d).2.2

end
end Go.Proofs.YtpgmohjmpaifbaaDoor.Im

/- S21Ct: tree.cut. -/
set_option linter.unusedVariables false
set_option linter.unusedSimpArgs false
open Go Go.Im
namespace Go.Proofs.YtpgmohjmpaifbaaDoor.Im

/-! ### keys -/
abbrev Ky := {k : List Int // k.length = 32}
def kA (k : Ky) : AV := .agg (intsOf .u8 k.1)
def keyOf (p : By) : Ky := ⟨shaR p, shaR_len p⟩
def ptB (p : By) : Pt := ⟨shaR p, (p.length : Nat)⟩
def CE : List By → List AV → Prop
  | [], [] => True
  | p :: ps, v :: vs => (∃ c, v = .agg (intsOf .u8 (shaR p) ++ [.imm 1 (bytesOf p) c])) ∧ CE ps vs
  | _, _ => False
theorem CE.app : ∀ {ps : List By} {vs : List AV} {p : By} {v : AV}, CE ps vs → (∃ c, v = .agg (intsOf .u8 (shaR p) ++ [.imm 1 (bytesOf p) c])) → CE (ps ++ [p]) (vs ++ [v])
  | [], [], _, _, _, h => ⟨h, trivial⟩
  | _ :: _, _ :: _, _, _, h, h2 => ⟨h.1, CE.app h.2 h2⟩
  | [], _ :: _, _, _, h, _ => h.elim
  | _ :: _, [], _, _, h, _ => h.elim
theorem CE.len : ∀ {ps : List By} {vs : List AV}, CE ps vs → vs.length = ps.length
  | [], [], _ => rfl
  | _ :: _, _ :: _, h => by simp [CE.len h.2]
  | [], _ :: _, h => h.elim
  | _ :: _, [], h => h.elim
theorem CE.get : ∀ {ps : List By} {vs : List AV} {i : Nat} (hi : i < ps.length), CE ps vs → ∃ c, vs[i]? = some (.agg (intsOf .u8 (shaR ps[i]) ++ [.imm 1 (bytesOf ps[i]) c]))
  | _ :: _, v :: _, 0, _, h => by obtain ⟨c, rfl⟩ := h.1; exact ⟨c, rfl⟩
  | _ :: ps, _ :: _, i + 1, hi, h => by obtain ⟨c, e⟩ := CE.get (i := i) (by simpa using hi) h.2; exact ⟨c, by simpa using e⟩
  | [], [], _, hi, _ => by simp at hi
  | [], _ :: _, _, hi, _ => by simp at hi
  | _ :: _, [], _, _, h => h.elim

section
variable {n : Nat} {tot : Bool} {ω : Nat → Nat} {h : Hp}

theorem upd_imm {v : AV} (hv : v.one = true) (sz : Nat) (es : List AV) (c : Cap) : upd v 0 (.imm sz es c) = some (.imm sz es c) := by
  cases v <;> first | rfl | cases hv

theorem partsL_pcs (d : By) : ∀ (l : List Nat) (a : Nat), a + l.sum ≤ d.length → partsL d a l = (pcs l (d.drop a)).map ptB
  | [], a, _ => rfl
  | k :: l, a, h => by
    simp only [List.sum_cons] at h
    simp only [partsL,pcs,List.map_cons]
    rw [partsL_pcs d l (a + k) (by omega), List.drop_drop]
    congr 1
    unfold ptB
    have e : (d.take (a + k)).drop a = (d.drop a).take k := by rw [List.take_drop]
    rw [e]
    congr 1
    simp; omega
theorem partsR_pcs (l m M : Int) (d : By) : partsR l m M d = (pcs (cutR l m M d) d).map ptB := by
  have := partsL_pcs d (cutR l m M d) 0 (by rw [(cutR_sum l m M d).1]; omega)
  rw [List.drop_zero] at this
  exact this

end
end Go.Proofs.YtpgmohjmpaifbaaDoor.Im

/- S21Ca: which files are a snapshot: the reference's Check, few. -/
set_option linter.unusedVariables false
set_option linter.unusedSimpArgs false
open Go Go.Im
namespace Go.Proofs.YtpgmohjmpaifbaaDoor.Im

def psOf (fs : List Fl) : List By := fs.map (·.p)
def szOf (fs : List Fl) : Nat := (fs.map (·.d.length)).sum
theorem psOf_len (fs : List Fl) : (psOf fs).length = fs.length := by simp [psOf]

open Classical in
noncomputable def chk (fs : List Fl) : Int := if Tog (psOf fs) then (if szOf fs > 16384 then 6 else 0) else 1

structure Few (fs : List Fl) : Prop where
  num : fs.length ≤ 101
  data : ∀ f ∈ fs, f.d.length ≤ 30000
  path : ∀ f ∈ fs, f.p.length ≤ 30000

theorem szOf_take (fs : List Fl) (i : Nat) (hi : i < fs.length) : szOf (fs.take (i + 1)) = szOf (fs.take i) + fs[i].d.length := by
  unfold szOf
  rw [List.take_succ_eq_append_getElem hi]
  simp only [List.map_append,List.sum_append,List.map_cons,List.map_nil,List.sum_cons,List.sum_nil,Nat.add_zero]
theorem szOf_le {fs : List Fl} (hd : ∀ f ∈ fs, f.d.length ≤ 30000) : szOf fs ≤ 30000 * fs.length := by
  unfold szOf
  induction fs with
  | nil => simp
  | cons f fs ih =>
    have h1 := hd f (by simp)
    have h2 := ih fun g hg => hd g (by simp [hg])
    simp only [List.map_cons,List.sum_cons,List.length_cons]
    omega
theorem szOf_perm {fs gs : List Fl} (hp : fs.Perm gs) : szOf fs = szOf gs := (hp.map _).sum_nat
theorem Few.take {fs : List Fl} (hf : Few fs) (i : Nat) : szOf (fs.take i) ≤ 3030000 := by
  have h1 := szOf_le (fs := fs.take i) fun f hm => hf.data f (List.mem_of_mem_take hm)
  have h2 := hf.num
  have h3 : (fs.take i).length ≤ 101 := by rw [List.length_take]; omega
  omega
theorem Few.perm {fs gs : List Fl} (hf : Few fs) (hp : gs.Perm fs) : Few gs := ⟨by rw [hp.length_eq]; exact hf.num, fun f h => hf.data f (hp.mem_iff.1 h), fun f h => hf.path f (hp.mem_iff.1 h)⟩

theorem fl_get {fs : List Fl} {i : Nat} (hi : i < fs.length) : (fs.map Fl.av)[i]? = some (.agg [.str fs[i].p, fs[i].v]) := by simp [hi,Fl.av]
theorem fl_sub {f : Fl} (h : f.ok) (n : Nat) : sub f.v 0 n false = some f.v := by
  rcases h with ⟨e, _⟩ | ⟨c, e⟩ <;> rw [e] <;> rfl
section
variable {n : Nat} {tot : Bool} {ω : Nat → Nat} {h : Hp}

theorem c11 (a : AV) (fs : List Fl) (ha : IsRd 2 (fs.map Fl.av) a) (hok : ∀ f ∈ fs, f.ok) (hn : 200 < n) :
    ∃ b, call F n tot ω 11 [a] h = some (.bool b, h) ∧ (b = true → Few fs) := by
  obtain ⟨n, rfl⟩ : ∃ m, n = m + 1 := ⟨n - 1, by omega⟩
  suffices hx : ∃ v2 h', call F (n + 1) tot ω 11 [a] h = some (v2, h') ∧ ∃ b, v2 = .bool b ∧ h' = h ∧ (b = true → Few fs) by
    obtain ⟨v2, h', e1, b, rfl, rfl, e2⟩ := hx
    exact ⟨b, e1, e2⟩
  refine call_of (fn := a11) f11 (P := fun v2 h' => ∃ b, v2 = .bool b ∧ h' = h ∧ (b = true → Few fs)) ?_
  unfold a11
  have hlen := ha.len
  rw [List.length_map] at hlen
  have no : ∃ b, AV.bool false = .bool b ∧ (b = true → Few fs) := ⟨false, rfl, fun e => by cases e⟩
  simp (maxSteps := 2000000) (discharger := omega) only [xz,xc,xo,xr,x0,Reg.isA,Reg.isV,Reg.stays,Reg.onto,↓reduceIte,reduceCtorEq,Nat.reduceEqDiff,Nat.reduceLT]
  refine wpi_loop (fun x r g' => ∃ (i k : Nat), r = [(0, .val a), (3, .val (.int .i64 k)), (4, .val (.int .i64 i))] ∧ x = 110 - i ∧ i ≤ 101 ∧ k ≤ 90000 ∧ i ≤ fs.length ∧ g' = h ∧
    (∀ f ∈ fs.take i, f.d.length ≤ 30000 ∧ f.p.length ≤ 30000)) 110 (by omega)
    ⟨0, 0, rfl, rfl, by omega, by omega, by omega, rfl, by simp⟩ ?_
  rintro x r g' ⟨i, k, rfl, rfl, hi, hk, hil, rfl, hf⟩
  by_cases hlt : i < fs.length
  · obtain ⟨cv, rfl⟩ := ha.imm (i := i) (by simpa using hlt)
    have q1 := fl_get hlt
    have q2 := Fl.len (hok _ (List.getElem_mem hlt))
    have q7 := fl_sub (hok _ (List.getElem_mem hlt)) 1
    by_cases h100 : (i : Int) > 100
    · simp (maxSteps := 2000000) (discharger := omega) only [xz,xc,xo,xr,x0,x1,x4,xd,xb,Reg.isA,Reg.isV,Reg.stays,Reg.onto,↓reduceIte,reduceCtorEq,Nat.reduceEqDiff,Nat.reduceLT,exists_eq_left',int_lt_t,hlen]
      exact no
    · by_cases hd : ((fs[i].d.length : Nat) : Int) > 30000
      · simp (maxSteps := 2000000) (discharger := omega) only [xz,xc,xo,xr,x0,x1,x4,xd,xb,Reg.isA,Reg.isV,Reg.stays,Reg.onto,↓reduceIte,reduceCtorEq,Nat.reduceEqDiff,Nat.reduceLT,beq_self_eq_true,exists_eq_left',int_lt_t,int_lt_f,int_le_t,hlen,q1,q2,q7]
        exact no
      · by_cases hp : ((fs[i].p.length : Nat) : Int) > 30000
        · simp (maxSteps := 2000000) (discharger := omega) only [xz,xc,xo,xr,x0,x1,x4,xd,xb,Reg.isA,Reg.isV,Reg.stays,Reg.onto,↓reduceIte,reduceCtorEq,Nat.reduceEqDiff,Nat.reduceLT,beq_self_eq_true,exists_eq_left',int_lt_t,int_lt_f,int_le_t,hlen,q1,q2,q7]
          exact no
        · by_cases hkk : (k : Int) > 30000
          · simp (maxSteps := 2000000) (discharger := omega) only [xz,xc,xo,xr,x0,x1,x4,xd,Reg.isA,Reg.isV,Reg.stays,Reg.onto,↓reduceIte,reduceCtorEq,Nat.reduceEqDiff,Nat.reduceLT,beq_self_eq_true,exists_eq_left',int_lt_t,int_lt_f,int_le_t,hlen,q1,q2,q7]
            exact no
          · simp (maxSteps := 2000000) (discharger := omega) only [xz,xc,xo,xr,x0,x1,x4,xd,Reg.isA,Reg.isV,Reg.stays,Reg.onto,↓reduceIte,reduceCtorEq,Nat.reduceEqDiff,Nat.reduceLT,beq_self_eq_true,wrap_i64,int_lt_t,int_lt_f,int_le_t,hlen,q1,q2,q7]
            refine ⟨110 - (i + 1), by omega, i + 1, k + fs[i].d.length + fs[i].p.length, ?_, rfl, by omega, by omega, by omega, fun f hm => ?_⟩
            · rw [show ((i : Nat) : Int) + 1 = ((i + 1 : Nat) : Int) by omega, show ((k : Nat) : Int) + (fs[i].d.length : Nat) + (fs[i].p.length : Nat) = ((k + fs[i].d.length + fs[i].p.length : Nat) : Int) by omega]
            · rw [List.take_succ_eq_append_getElem hlt] at hm
              rcases List.mem_append.1 hm with hm | hm
              · exact hf f hm
              · rw [List.mem_singleton] at hm
                subst hm
                exact ⟨by omega, by omega⟩
  · obtain rfl : i = fs.length := by omega
    rw [List.take_length] at hf
    simp (maxSteps := 2000000) (discharger := omega) only [xz,xc,xo,xr,x0,x1,x4,xd,Reg.isA,Reg.isV,Reg.stays,Reg.onto,↓reduceIte,reduceCtorEq,Nat.reduceEqDiff,Nat.reduceLT,exists_eq_left',int_lt_f,hlen]
    exact ⟨true, rfl, fun _ => ⟨hi, fun f hm => (hf f hm).1, fun f hm => (hf f hm).2⟩⟩

theorem c15 (a : AV) (fs : List Fl) (ha : IsRd 2 (fs.map Fl.av) a) (hok : ∀ f ∈ fs, f.ok) (hf : Few fs) (hn : 400 < n) :
    ∃ h', call F n tot ω 15 [a] h = some (.int .i64 (chk fs), h') := by
  obtain ⟨n, rfl⟩ : ∃ m, n = m + 1 := ⟨n - 1, by omega⟩
  suffices hx : ∃ v2 h', call F (n + 1) tot ω 15 [a] h = some (v2, h') ∧ v2 = .int .i64 (chk fs) by
    obtain ⟨v2, h', e1, rfl⟩ := hx
    exact ⟨h', e1⟩
  refine call_of (fn := a15) f15 (P := fun v2 h' => v2 = .int .i64 (chk fs)) ?_
  unfold a15
  have hnum := hf.num
  have hlen := ha.len
  rw [List.length_map] at hlen
  simp (maxSteps := 2000000) (discharger := omega) only [xz,xc,xo,xr,x0,Reg.isA,Reg.isV,Reg.stays,Reg.onto,↓reduceIte,reduceCtorEq,Nat.reduceEqDiff,Nat.reduceLT]
  refine wpi_loop (fun x r g' => ∃ (i : Nat) (lv : AV), r = [(0, .val a), (3, .val lv), (4, .val (.int .i64 (szOf (fs.take i) : Nat))), (5, .val (.int .i64 i))] ∧ x = fs.length - i ∧ i ≤ fs.length ∧ i ≤ 65 ∧
    IsApp 1 ((psOf (fs.take i)).map AV.str) g' lv) fs.length (by omega)
    ⟨0, .nils, rfl, rfl, Nat.zero_le _, by omega, .nils _ _⟩ ?_
  rintro x r g' ⟨i, lv, rfl, rfl, hi, hi65, hA⟩
  by_cases hlt : i < fs.length
  · obtain ⟨cv, rfl⟩ := ha.imm (i := i) (by simpa using hlt)
    by_cases h64 : (i : Int) > 64
    · have hc : chk fs = 1 := by
        unfold chk
        rw [if_neg fun h => by have := h.few; rw [psOf_len] at this; omega]
      simp (maxSteps := 2000000) (discharger := omega) only [xz,xc,xo,xr,x0,x1,x4,xd,Reg.isA,Reg.isV,Reg.stays,Reg.onto,↓reduceIte,reduceCtorEq,Nat.reduceEqDiff,Nat.reduceLT,exists_eq_left',int_lt_t,hlen,hc]
    · have q5 := fl_get hlt
      have q6 := Fl.len (hok _ (List.getElem_mem hlt))
      have q7 := fl_sub (hok _ (List.getElem_mem hlt)) 1
      obtain ⟨lv', h2, w1, w2, w3, w4, _⟩ := app_ok (bytes := 16) (xs := [.str fs[i].p]) hA (by simp) (by simp [psOf]; omega)
      have hsz := hf.take (i + 1)
      rw [szOf_take fs i hlt] at hsz
      simp (maxSteps := 2000000) (discharger := omega) only [xz,xc,xo,xr,x0,x1,x3,x4,x5,xd,xb,selems,srcElems,partEs,placeEs,Reg.isA,Reg.isV,Reg.stays,Reg.onto,↓reduceIte,reduceCtorEq,Nat.reduceEqDiff,Nat.reduceLT,Nat.zero_lt_succ,List.set_cons_zero,wrap_i64,int_lt_t,int_lt_f,int_le_t,hlen,q5,q6,q7,w1,hA.isRow,List.replicate]
      refine ⟨fs.length - (i + 1), by omega, i + 1, lv', ?_, rfl, by omega, by omega, ?_⟩
      · rw [show ((i : Nat) : Int) + 1 = ((i + 1 : Nat) : Int) by omega, szOf_take fs i hlt]; rfl
      · unfold psOf at w2 ⊢
        rw [List.take_succ_eq_append_getElem hlt, List.map_append, List.map_append]
        exact w2
  · obtain rfl : i = fs.length := by omega
    rw [List.take_length] at hA
    obtain ⟨b, k46, hb⟩ := c46 (n := n) (tot := tot) (ω := ω) (h := g') (psOf fs) lv (isRd_app hA) (fun p hp => by
      obtain ⟨f, hfm, rfl⟩ := List.mem_map.1 hp
      have := hf.path f hfm
      omega) (by rw [psOf_len]; omega) (by rw [psOf_len]; omega)
    have hsz := hf.take fs.length
    rw [List.take_length] at hsz ⊢
    cases b with
    | false =>
      have hc : chk fs = 1 := by unfold chk; rw [if_neg (fun h => by have := hb.2 h; cases this)]
      simp (maxSteps := 2000000) (discharger := omega) only [xz,xc,xo,xr,x0,x1,x2,x4,xd,kont_call,Reg.isA,Reg.isV,Reg.stays,Reg.onto,↓reduceIte,reduceCtorEq,Nat.reduceEqDiff,Nat.reduceLT,exists_eq_left',int_lt_f,Nat.sub_self,hlen,k46,hc]
    | true =>
      have hTg := hb.1 rfl
      by_cases h16 : ((szOf fs : Nat) : Int) > 16384
      · have hc : chk fs = 6 := by unfold chk; rw [if_pos hTg, if_pos (by omega)]
        simp (maxSteps := 2000000) (discharger := omega) only [xz,xc,xo,xr,x0,x1,x2,x4,xd,kont_call,Reg.isA,Reg.isV,Reg.stays,Reg.onto,↓reduceIte,reduceCtorEq,Nat.reduceEqDiff,Nat.reduceLT,exists_eq_left',int_lt_t,int_lt_f,Nat.sub_self,hlen,k46,hc]
      · have hc : chk fs = 0 := by unfold chk; rw [if_pos hTg, if_neg (by omega)]
        simp (maxSteps := 2000000) (discharger := omega) only [xz,xc,xo,xr,x0,x1,x2,x4,xd,kont_call,Reg.isA,Reg.isV,Reg.stays,Reg.onto,↓reduceIte,reduceCtorEq,Nat.reduceEqDiff,Nat.reduceLT,exists_eq_left',int_lt_f,Nat.sub_self,hlen,k46,hc]
end

end Go.Proofs.YtpgmohjmpaifbaaDoor.Im

/- S21Cx: tree.Cut; are there unlike chunks of one key?; are parts these bytes? -/
set_option linter.unusedVariables false
set_option linter.unusedSimpArgs false
open Go Go.Im
namespace Go.Proofs.YtpgmohjmpaifbaaDoor.Im

section
variable {n : Nat} {tot : Bool} {ω : Nat → Nat} {h : Hp}

end

/-! ### keys that are told apart -/
section
variable {n : Nat} {tot : Bool} {ω : Nat → Nat} {h : Hp}

def Nc (l : List By) : Prop := ∀ p ∈ l, ∀ q ∈ l, keyOf p = keyOf q → p = q
theorem Nc.snoc {l : List By} {p : By} (h : Nc l) (hp : ∀ q ∈ l, keyOf q = keyOf p → q = p) : Nc (l ++ [p]) := fun x hx y hy e => by
  rcases List.mem_append.1 hx with hx | hx <;> rcases List.mem_append.1 hy with hy | hy
  · exact h x hx y hy e
  · rw [List.mem_singleton] at hy; rw [hy] at e ⊢; exact hp x hx e
  · rw [List.mem_singleton] at hx; rw [hx] at e ⊢; exact (hp y hy e.symm).symm
  · rw [List.mem_singleton] at hx hy; rw [hx, hy]
structure Seen (l : List By) (g : Hp) (kv tv : AV) : Prop where
  ex : ∃ a b, TokAt 32 (l.map fun p => kA (keyOf p)) g kv a ∧ TokAt 1 (l.map AV.str) g tv b ∧ (∀ x, a = some x → x < g.length ∧ b ≠ some x) ∧ (∀ x, b = some x → x < g.length)
theorem Seen.below {l : List By} {g g' : Hp} {kv tv : AV} (s : Seen l g kv tv) (hB : Below g.length g g') : Seen l g' kv tv := by
  obtain ⟨a, b, h1, h2, h3, h4⟩ := s.ex
  have := hB.1
  exact ⟨a, b, h1.keep fun i o hi ho => by rw [hB.2 i (h3 i hi).1]; exact ho, h2.keep fun i o hi ho => by rw [hB.2 i (h4 i hi)]; exact ho, fun x hx => ⟨by have := (h3 x hx).1; omega, (h3 x hx).2⟩, fun x hx => by have := h4 x hx; omega⟩

theorem Seen.push {l : List By} {g : Hp} {kv tv : AV} (s : Seen l g kv tv) (p : By) (hl : l.length ≤ 1000000000) :
    ∃ kv' g1 tv' g2, appendV false 32 32 kv [.agg (intsOf .u8 (shaR p))] g = some (kv', g1) ∧ appendV false 1 16 tv [.str p] g1 = some (tv', g2) ∧ Seen (l ++ [p]) g2 kv' tv' ∧ kv.isRow = false ∧ tv.isRow = false := by
  obtain ⟨a, b, h1, h2, h3, h4⟩ := s.ex
  obtain ⟨kv', g1, w1, w2, w3, w4, cw, w5⟩ := tok_app (bytes := 32) (xs := [.agg (intsOf .u8 (shaR p))]) h1 (by simp) (by simp; omega)
  have h2' : TokAt 1 (l.map AV.str) g1 tv b := h2.keep fun i o hi ho => w4 i o ho fun e => (h3 i e).2 hi
  obtain ⟨tv', g2, y1, y2, y3, y4, cy, y5⟩ := tok_app (bytes := 16) (xs := [.str p]) h2' (by simp) (by simp; omega)
  refine ⟨kv', g1, tv', g2, w1, y1, ⟨some g.length, some g1.length, ?_, ?_, fun x hx => ?_, fun x hx => ?_⟩, h1.1.isRow, h2.1.isRow⟩
  · rw [List.map_append]
    exact w2.keep fun i o hi ho => by cases hi; exact y4 _ o ho fun e => by have := h4 _ e; omega
  · rw [List.map_append]; exact y2
  · cases hx; exact ⟨by omega, fun e => by have := Option.some.inj e; omega⟩
  · cases hx; exact y3

end
end Go.Proofs.YtpgmohjmpaifbaaDoor.Im

/- S21Dp: the plain law of where two trees differ. -/
set_option linter.unusedVariables false
set_option linter.unusedSimpArgs false
open Go Go.Im
namespace Go.Proofs.YtpgmohjmpaifbaaDoor.Im

def same (B : List Lf) (x : Lf) : Bool := match fnd B x.p with
  | some y => decide (x.ps = y.ps)
  | none => false
theorem bl_asymm {a b : By} (h : Op.bytesLess a b = true) : Op.bytesLess b a = false := by
  cases h2 : Op.bytesLess b a with
  | false => rfl
  | true => have := bl_trans _ _ _ h h2; rw [bl_irrefl] at this; cases this

end Go.Proofs.YtpgmohjmpaifbaaDoor.Im

/- S21Fd: the law TreeFinds. -/
set_option linter.unusedVariables false
set_option linter.unusedSimpArgs false
open Go Go.Im
namespace Go.Proofs.YtpgmohjmpaifbaaDoor.Im
section
variable {n : Nat} {tot : Bool} {ω : Nat → Nat} {h : Hp}
theorem f10 : F 10 = some (.inr yesG) := by kernel_rfl
theorem c10 (hn : 0 < n) : call F n tot ω 10 [] h = some (.bool true, h) := by
  obtain ⟨n, rfl⟩ : ∃ m, n = m + 1 := ⟨n - 1, by omega⟩
  rw [call_inr f10]; rfl

theorem chk_zero {fs : List Fl} (h : chk fs = 0) : Tog (psOf fs) := by
  unfold chk at h
  by_cases hT : Tog (psOf fs)
  · exact hT
  · rw [if_neg hT] at h; cases h

end

end Go.Proofs.YtpgmohjmpaifbaaDoor.Im

/- S21Df: the law TreeDiffs. -/
set_option linter.unusedVariables false
set_option linter.unusedSimpArgs false
open Go Go.Im
namespace Go.Proofs.YtpgmohjmpaifbaaDoor.Im

section
variable {n : Nat} {tot : Bool} {ω : Nat → Nat} {h : Hp}

end

end Go.Proofs.YtpgmohjmpaifbaaDoor.Im

/- S21Bo: plain facts: chunks each once; files in their order. -/
set_option linter.unusedVariables false
set_option linter.unusedSimpArgs false
open Go Go.Im
namespace Go.Proofs.YtpgmohjmpaifbaaDoor.Im

def Fl.pd (f : Fl) : By × By := (f.p, f.d)
end Go.Proofs.YtpgmohjmpaifbaaDoor.Im

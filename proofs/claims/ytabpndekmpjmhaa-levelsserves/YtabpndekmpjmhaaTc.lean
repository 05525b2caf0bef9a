/- Joined: S14Tb, S14Tc. -/
import Derived.Test.YtabpndekmpjmhaaTa
import Derived.Test.YtabpndekmpjmhaaAwake
/- S14Tb: the law, step by step: a turn. -/
set_option linter.unusedVariables false
set_option linter.unusedSimpArgs false
open Go Go.Im
namespace Go.Proofs.Ytabpndekmpjmhaa.Im

theorem Inv.mono {tb : List Tb} {hv : Hv} {last : By → Option Int} {m m' : Int} {old old' : By → Prop} (I : Inv tb hv last m old) (h : m ≤ m') (ho : ∀ k, old k → old' k) : Inv tb hv last m' old' :=
  ⟨I.srt, fun t ht => by have := I.files t ht; omega, I.nd, I.lv, I.le, I.dis, I.rng, fun t ht k hk => ho k (I.old t ht k hk), I.val, I.non⟩

section
variable {HT : HTt} {IN : Nat → LTt} {E : LTt} {me cH : Nat} {i : Nat}

theorem hv_old (hf : ∀ t ∈ HT, t.1 ≤ (i : Int)) (hme : ∀ t ∈ HT, t.2.1 ≠ me) (f : Int) (k : By) (h : f ≤ i) : hvF (HT ++ [((i : Int) + 1, me, cH)]) (fun id => if id = me then E else IN id) f k = hvF HT IN f k := by
  have hno : tget HT ((i : Int) + 1) = none := tget_none.2 fun t ht e => by have := hf t ht; omega
  unfold hvF
  rw [← tput_new hno, tget_put, if_neg (by omega)]
  cases hH : tget HT f with
  | none => rfl
  | some id =>
    obtain ⟨b, hb⟩ := tget_mem hH
    have := hme _ hb
    simp only at this
    simp [this]
theorem hv_new (hf : ∀ t ∈ HT, t.1 ≤ (i : Int)) (k : By) : hvF (HT ++ [((i : Int) + 1, me, cH)]) (fun id => if id = me then E else IN id) ((i : Int) + 1) k = tget E k := by
  have hno : tget HT ((i : Int) + 1) = none := tget_none.2 fun t ht e => by have := hf t ht; omega
  unfold hvF
  rw [← tput_new hno, tget_put, if_pos rfl]
  simp
end

section
variable {g g0 : Hp} {u : AV} {mh ml me cH cL : Nat} {s : Ste} {HT : HTt} {LT LT' E : LTt} {IN : Nat → LTt} {i : Nat} {tns : List Tn}

theorem Lv.ok (L : Lv g u mh ml s HT cH LT cL IN i tns) (hi : i ≤ 100) : s.ok ∧ s.sz ≤ 100 := by
  refine ⟨⟨fun t ht => ?_, by rw [L.sr]; simp⟩, ?_⟩
  · have h1 := L.inv.lv t ht
    have h2 := L.inv.files t ht
    exact ⟨h1.1, h1.2, h2.1, by omega⟩
  · have := L.len
    simp only [Ste.sz,L.sr,L.lg,List.length_nil]
    omega

theorem good_lay (L : Lv g u mh ml s HT cH LT cL IN i tns) (hi : i < tns.length) (hme : ∀ t ∈ HT, t.2.1 ≠ me) (lo hi' : By) (pL : putS LT tns[i].keys i LT') (pE : putS [] tns[i].keys i E) (hle : sLe lo hi' = true) (hall : ∀ k ∈ tns[i].keys, sLe lo k = true ∧ sLe k hi' = true) :
    (∀ c e, 1 ≤ c → ¬ RunErr s (([] : List Int).map drp ++ [⟨1, (i : Int) + 1, 0, c, lo, hi'⟩]) e) ∧
    ∀ c s', 1 ≤ c → RunsTo s (([] : List Int).map drp ++ [⟨1, (i : Int) + 1, 0, c, lo, hi'⟩]) s' → Inv s'.tb (hvF (HT ++ [((i : Int) + 1, me, cH)]) (fun id => if id = me then E else IN id)) (tget LT') ((i + 1 : Nat) : Int) (fun k => k ∈ keysOf (tns.take (i + 1))) ∧ s'.sr = [] ∧ s'.lg = [] ∧ s'.tb.length ≤ i + 1 := by
  have I := L.inv
  have hrun : ∀ c : Int, 1 ≤ c → _ := fun c hc => run_ok s [] ⟨1, (i : Int) + 1, 0, c, lo, hi'⟩ (by simp) (by simp) I.nd L.sr L.lg rfl (by simp only; omega) (by simp) hc hle (fun t ht => by have := I.files t ht; simp only; omega) (fun t ht _ h h0 => by simp only at h0; omega)
  refine ⟨fun c e hc => (hrun c hc).1 e, fun c s' hc hr => ?_⟩
  obtain ⟨p1, p2, p3, p4⟩ := (hrun c hc).2 s' hr
  have hfl : (s.tb.filter fun t => decide (t.f ∉ ([] : List Int))) = s.tb := List.filter_eq_self.2 fun t _ => by simp
  rw [hfl] at p1
  refine ⟨?_, p3, p4, ?_⟩
  · have hc1 : ((i + 1 : Nat) : Int) = (i : Int) + 1 := by omega
    rw [hc1]
    have := I.lay (tb' := s'.tb) (hv' := hvF (HT ++ [((i : Int) + 1, me, cH)]) (fun id => if id = me then E else IN id)) (last' := tget LT') (edT ⟨1, (i : Int) + 1, 0, c, lo, hi'⟩) (fun k => k ∈ tns[i].keys) i p1 p2 rfl (by omega) rfl hle (fun f k h => hv_old L.hf hme f k h) (fun k hk => ?_) (fun k hk => ?_)
    · refine this.mono (Int.le_refl _) fun k hk => ?_
      rw [keysOf_take hi]
      exact List.mem_append.2 hk
    · have e1 := pE k
      have e2 := pL k
      rw [if_pos hk] at e1 e2
      exact ⟨(hv_new L.hf k).trans e1, e2, hall k hk⟩
    · have e1 := pE k
      have e2 := pL k
      rw [if_neg hk] at e1 e2
      exact ⟨(hv_new L.hf k).trans (e1.trans rfl), e2⟩
  · have := p1.length_eq
    simp at this
    have := L.len
    omega

theorem good_merge (L : Lv g u mh ml s HT cH LT cL IN i tns) (hi : i < tns.length) (hk0 : tns[i].keys = []) (hme : ∀ t ∈ HT, t.2.1 ≠ me) {p : Pn} (P : PickR s.tb p) (fv : fstV (p.full.map (·.f)) (hvF HT IN) (keysOf (tns.take i)) E) :
    (∀ c e, 1 ≤ c → ¬ RunErr s ((p.full.map (·.f)).map drp ++ [⟨1, (i : Int) + 1, p.lv + 1, c, p.lo, p.hi⟩]) e) ∧
    ∀ c s', 1 ≤ c → RunsTo s ((p.full.map (·.f)).map drp ++ [⟨1, (i : Int) + 1, p.lv + 1, c, p.lo, p.hi⟩]) s' → Inv s'.tb (hvF (HT ++ [((i : Int) + 1, me, cH)]) (fun id => if id = me then E else IN id)) (tget LT) ((i + 1 : Nat) : Int) (fun k => k ∈ keysOf (tns.take (i + 1))) ∧ s'.sr = [] ∧ s'.lg = [] ∧ s'.tb.length ≤ i + 1 := by
  have I := L.inv
  have M := I.facts P
  have hlv := M.lv
  have hrun : ∀ c : Int, 1 ≤ c → _ := fun c hc => run_ok s (p.full.map (·.f)) ⟨1, (i : Int) + 1, p.lv + 1, c, p.lo, p.hi⟩ M.nd (fun f hf => by
    obtain ⟨t, ht, rfl⟩ := List.mem_map.1 hf
    exact List.mem_map_of_mem (M.sub t ht)) I.nd L.sr L.lg rfl (by simp only; omega) (by simp only; omega) hc M.le (fun t ht => by have := I.files t ht; simp only; omega) (fun t ht hn h h0 => M.far t ht (fun hm => hn (List.mem_map_of_mem hm)) h)
  refine ⟨fun c e hc => (hrun c hc).1 e, fun c s' hc hr => ?_⟩
  obtain ⟨p1, p2, p3, p4⟩ := (hrun c hc).2 s' hr
  refine ⟨?_, p3, p4, ?_⟩
  · have hc1 : ((i + 1 : Nat) : Int) = (i : Int) + 1 := by omega
    rw [hc1]
    have := I.merge (tb' := s'.tb) (hv' := hvF (HT ++ [((i : Int) + 1, me, cH)]) (fun id => if id = me then E else IN id)) M (edT ⟨1, (i : Int) + 1, p.lv + 1, c, p.lo, p.hi⟩) p1 p2 rfl (by omega) rfl rfl rfl (fun f k h => hv_old L.hf hme f k h) (fun k => ?_)
    · refine this.mono (Int.le_refl _) fun k hk => ?_
      rw [keysOf_take hi]
      exact List.mem_append.2 (.inl hk)
    · refine (hv_new L.hf k).trans ?_
      rw [fv k, List.filterMap_map]
      split
      · rfl
      · rename_i hk
        symm
        refine none_head fun t ht => ?_
        cases e : hvF HT IN t.f k with
        | none => rfl
        | some v => exact absurd (I.old t (M.sub t ht) k (by rw [e]; simp)) hk
  · have h1 := p1.length_eq
    have h2 := List.length_filter_le (fun t : Tb => decide (t.f ∉ p.full.map (·.f))) s.tb
    have h3 := L.len
    simp only [List.length_append,List.length_singleton] at h1
    omega
end
end Go.Proofs.Ytabpndekmpjmhaa.Im

/- S14Tc: the law, over the idealised machine. -/
set_option linter.unusedVariables false
set_option linter.unusedSimpArgs false
open Go Go.Im
namespace Go.Proofs.Ytabpndekmpjmhaa.Im

set_option maxHeartbeats 4000000 in
theorem law_serves (tns : List Tn) (tv av : AV) (fan : Nat) (asks : List By) (ω : Nat → Nat) (ht : IsRd 1 (tnsOf tns) tv) (hok : ∀ t ∈ tns, t.ok) (hfan : fan ≤ 255) (hask : IsRd 1 (ksOf asks) av) : ∃ h', call F 6302 true ω 3 [tv, .int .u8 fan, av] [] = some (.bool true, h') := by
  obtain ⟨u, h', e, hu⟩ := call_of (F := F) (n := 6301) (tot := true) (ω := ω) (f := 3) (fn := a3) f3 (h := []) (args := [tv, .int .u8 fan, av]) (P := fun u _ => u = .bool true) (by
    unfold a3
    have hw1 : call F 6301 true ω 4 [] [] = some (.bool true, H1) := awake1 6101 ω
    have hw2 : call F 6301 true ω 4 [] H1 = some (.bool true, H2) := awake2 6101 ω
    have hl : lenSl tv = some tns.length := by rw [ht.len]; simp [tnsOf]
    have la := ks_len hask
    by_cases hlong : 100 < tns.length
    · simp (maxSteps := 2000000) (discharger := omega) only [xz,xc,xo,xr,x0,x1,x2,x3,x4,x5,x6,xd,xe,xb,kont_call,kont_pure,kont_round,isNil,slOk,sliceV,selems,srcElems,copyTo,dlen,eqAV,eqCells,eqS,wr,place,partVals,partEs,placeEs,mapOf,keyOk,keyCells,findK,Bool.bne_false,Bool.bne_true,Reg.isA,Reg.isV,Reg.stays,Reg.onto,↓reduceIte,reduceCtorEq,Nat.reduceEqDiff,Nat.reduceLT,Nat.reduceAdd,Nat.reduceMul,Nat.reduceLeDiff,Nat.zero_lt_succ,Option.bind_some,Option.getD_some,Option.getD_none,Int.cast_ofNat_Int,Int.natCast_zero,Int.natCast_nonneg,true_implies,or_true,true_or,false_or,or_false,beq_self_eq_true,exists_eq_left',Int.reduceEq,Int.reduceLT,Int.reduceLE,Int.reduceGT,Int.reduceGE,Nat.reduceGT,Int.reduceNeg,Int.reduceToNat,Int.reduceAdd,Int.reduceMul,Int.reduceSub,Int.reducePow,decide_eq_true_eq,Nat.reduceBEq,Nat.reduceSub,exists_false,xu,List.set_cons_zero,List.set_cons_succ,wrap_i64,int_lt_t,int_lt_f,int_le_t,int_le_f,int_gt_t,int_gt_f,int_ge_t,int_ge_f,int_eq_t,int_eq_f,int_beq_t,int_beq_f,int_bne_t,int_bne_f,nat_le_t,nat_le_f,Nat.sub_zero,Nat.sub_self,not_false_eq_true,not_true_eq_false,hw1,hw2,hl,la]
    by_cases hlong2 : 50 < asks.length
    · simp (maxSteps := 2000000) (discharger := omega) only [xz,xc,xo,xr,x0,x1,x2,x3,x4,x5,x6,xd,xe,xb,kont_call,kont_pure,kont_round,isNil,slOk,sliceV,selems,srcElems,copyTo,dlen,eqAV,eqCells,eqS,wr,place,partVals,partEs,placeEs,mapOf,keyOk,keyCells,findK,Bool.bne_false,Bool.bne_true,Reg.isA,Reg.isV,Reg.stays,Reg.onto,↓reduceIte,reduceCtorEq,Nat.reduceEqDiff,Nat.reduceLT,Nat.reduceAdd,Nat.reduceMul,Nat.reduceLeDiff,Nat.zero_lt_succ,Option.bind_some,Option.getD_some,Option.getD_none,Int.cast_ofNat_Int,Int.natCast_zero,Int.natCast_nonneg,true_implies,or_true,true_or,false_or,or_false,beq_self_eq_true,exists_eq_left',Int.reduceEq,Int.reduceLT,Int.reduceLE,Int.reduceGT,Int.reduceGE,Nat.reduceGT,Int.reduceNeg,Int.reduceToNat,Int.reduceAdd,Int.reduceMul,Int.reduceSub,Int.reducePow,decide_eq_true_eq,Nat.reduceBEq,Nat.reduceSub,exists_false,xu,List.set_cons_zero,List.set_cons_succ,wrap_i64,int_lt_t,int_lt_f,int_le_t,int_le_f,int_gt_t,int_gt_f,int_ge_t,int_ge_f,int_eq_t,int_eq_f,int_beq_t,int_beq_f,int_bne_t,int_bne_f,nat_le_t,nat_le_f,Nat.sub_zero,Nat.sub_self,not_false_eq_true,not_true_eq_false,hw1,hw2,hl,la]
    have hm1 : (H1 ++ [AO.map [] 0]).length = H1.length + 1 := by simp
    obtain ⟨mh, hmh⟩ : ∃ mh, mh = H1.length := ⟨_, rfl⟩
    obtain ⟨g0, hg0⟩ : ∃ g0, g0 = H1 ++ [AO.map [] 0] ++ [AO.map [] 0] := ⟨_, rfl⟩
    have M0 : Mp g0 mh (mh + 1) [] 0 [] 0 (fun _ => []) := by
      rw [hg0, hmh]
      exact ⟨⟨by simp [encE], by simp, by simp, by simp⟩, ⟨by simp [encE], by simp, by simp, by simp⟩, by omega, by simp⟩
    have L0 : Lv g0 (.agg [.nils, .nils, .nils, .int .i64 0]) mh (mh + 1) ⟨[], [], [], 0⟩ [] 0 [] 0 (fun _ => []) 0 tns :=
      ⟨⟨.nils, .nils, .nils, rfl, .nils, .nils, .nils⟩, rfl, rfl, M0, ⟨by simp, by simp, by simp, by simp, by simp, by simp, by simp, by simp, by simp [tget], by simp⟩, by simp, by simp⟩
    simp (maxSteps := 2000000) (discharger := omega) only [xz,xc,xo,xr,x0,x1,x2,x3,x4,x5,x6,xd,xe,xb,kont_call,kont_pure,kont_round,isNil,slOk,sliceV,selems,srcElems,copyTo,dlen,eqAV,eqCells,eqS,wr,place,partVals,partEs,placeEs,mapOf,keyOk,keyCells,findK,Bool.bne_false,Bool.bne_true,Reg.isA,Reg.isV,Reg.stays,Reg.onto,↓reduceIte,reduceCtorEq,Nat.reduceEqDiff,Nat.reduceLT,Nat.reduceAdd,Nat.reduceMul,Nat.reduceLeDiff,Nat.zero_lt_succ,Option.bind_some,Option.getD_some,Option.getD_none,Int.cast_ofNat_Int,Int.natCast_zero,Int.natCast_nonneg,true_implies,or_true,true_or,false_or,or_false,beq_self_eq_true,exists_eq_left',Int.reduceEq,Int.reduceLT,Int.reduceLE,Int.reduceGT,Int.reduceGE,Nat.reduceGT,Int.reduceNeg,Int.reduceToNat,Int.reduceAdd,Int.reduceMul,Int.reduceSub,Int.reducePow,decide_eq_true_eq,Nat.reduceBEq,Nat.reduceSub,exists_false,xu,List.set_cons_zero,List.set_cons_succ,wrap_i64,int_lt_t,int_lt_f,int_le_t,int_le_f,int_gt_t,int_gt_f,int_ge_t,int_ge_f,int_eq_t,int_eq_f,int_beq_t,int_beq_f,int_bne_t,int_bne_f,nat_le_t,nat_le_f,Nat.sub_zero,Nat.sub_self,not_false_eq_true,not_true_eq_false,hw1,hl,la,hm1,← hmh,← hg0]
    refine wpi_loop (fun k r g => ∃ (i : Nat) (u : AV) (s : Ste) (HT : HTt) (cH : Nat) (LT : LTt) (cL : Nat) (IN : Nat → LTt), r = [(0, .val tv), (1, .val (.int .u8 fan)), (2, .val av), (7, .var u), (8, .val (.mp mh)), (9, .val (.mp (mh + 1))), (10, .val (.int .i64 i))] ∧ i ≤ tns.length ∧ k = tns.length - i ∧ Lv g u mh (mh + 1) s HT cH LT cL IN i tns ∧ ∀ t ∈ tns.take i, t.keys.length ≤ 30) tns.length (by omega) ⟨0, _, _, _, _, _, _, _, rfl, by omega, by omega, L0, by simp⟩ ?_
    rintro k r g ⟨i, u, s, HT, cH, LT, cL, IN, rfl, hi, rfl, L, h30⟩
    by_cases hlt : i < tns.length
    · obtain ⟨ct, rfl, t1⟩ := tns_at ht hlt
      have htok := hok _ (List.getElem_mem hlt)
      have tl := ks_len htok
      have hsub := isRd_sub htok
      by_cases hdl : 30 < tns[i].keys.length
      · simp (maxSteps := 2000000) (discharger := omega) only [xz,xc,xo,xr,x0,x1,x2,x3,x4,x5,x6,xd,xe,xb,kont_call,kont_pure,kont_round,isNil,slOk,sliceV,selems,srcElems,copyTo,dlen,eqAV,eqCells,eqS,wr,place,partVals,partEs,placeEs,mapOf,keyOk,keyCells,findK,Bool.bne_false,Bool.bne_true,Reg.isA,Reg.isV,Reg.stays,Reg.onto,↓reduceIte,reduceCtorEq,Nat.reduceEqDiff,Nat.reduceLT,Nat.reduceAdd,Nat.reduceMul,Nat.reduceLeDiff,Nat.zero_lt_succ,Option.bind_some,Option.getD_some,Option.getD_none,Int.cast_ofNat_Int,Int.natCast_zero,Int.natCast_nonneg,true_implies,or_true,true_or,false_or,or_false,beq_self_eq_true,exists_eq_left',Int.reduceEq,Int.reduceLT,Int.reduceLE,Int.reduceGT,Int.reduceGE,Nat.reduceGT,Int.reduceNeg,Int.reduceToNat,Int.reduceAdd,Int.reduceMul,Int.reduceSub,Int.reducePow,decide_eq_true_eq,Nat.reduceBEq,Nat.reduceSub,exists_false,xu,List.set_cons_zero,List.set_cons_succ,wrap_i64,int_lt_t,int_lt_f,int_le_t,int_le_f,int_gt_t,int_gt_f,int_ge_t,int_ge_f,int_eq_t,int_eq_f,int_beq_t,int_beq_f,int_bne_t,int_bne_f,nat_le_t,nat_le_f,Nat.sub_zero,Nat.sub_self,not_false_eq_true,not_true_eq_false,hl,t1,tl,hsub]
      have h30' : ∀ t ∈ tns.take (i + 1), t.keys.length ≤ 30 := fun t h => by
        rw [List.take_succ_eq_append_getElem hlt] at h
        rcases List.mem_append.1 h with h | h
        · exact h30 t h
        · have : t = tns[i] := by simpa using h
          subst this; omega
      have hlt1 := L.mp.hh.lt
      have hlt2 := L.mp.hl.lt
      have hme : g.length ≠ mh ∧ g.length ≠ mh + 1 ∧ ∀ t ∈ HT, t.2.1 ≠ g.length := ⟨by omega, by omega, fun t ht => by
        obtain ⟨_, _, c, d⟩ := L.mp.inn t ht
        have := d.lt
        omega⟩
      obtain ⟨hsok, hsz⟩ := L.ok (by omega)
      obtain ⟨me, hmee⟩ : ∃ me, me = g.length := ⟨_, rfl⟩
      rw [← hmee] at hme
      obtain ⟨g1, hg1⟩ : ∃ g1, g1 = g ++ [AO.map [] 0] := ⟨_, rfl⟩
      have kp1 : KeepLo g.length g g1 := by rw [hg1]; exact .app _
      have E1 : MapH g1 me eS iv [] 0 := by rw [hg1, hmee]; exact ⟨by simp [encE], by simp, by simp, by simp⟩
      have hx0 : AV.agg [.int .i64 1, .int .i64 ((i : Int) + 1), .int .i64 0, .int .i64 0, .str [], .str []] = edOf ⟨1, (i : Int) + 1, 0, 0, [], []⟩ := rfl
      by_cases hk0 : 0 < tns[i].keys.length
      · simp (maxSteps := 2000000) (discharger := omega) only [xz,xc,xo,xr,x0,x1,x2,x3,x4,x5,x6,xd,xe,xb,kont_call,kont_pure,kont_round,isNil,slOk,sliceV,selems,srcElems,copyTo,dlen,eqAV,eqCells,eqS,wr,place,partVals,partEs,placeEs,mapOf,keyOk,keyCells,findK,Bool.bne_false,Bool.bne_true,Reg.isA,Reg.isV,Reg.stays,Reg.onto,↓reduceIte,reduceCtorEq,Nat.reduceEqDiff,Nat.reduceLT,Nat.reduceAdd,Nat.reduceMul,Nat.reduceLeDiff,Nat.zero_lt_succ,Option.bind_some,Option.getD_some,Option.getD_none,Int.cast_ofNat_Int,Int.natCast_zero,Int.natCast_nonneg,true_implies,or_true,true_or,false_or,or_false,beq_self_eq_true,exists_eq_left',Int.reduceEq,Int.reduceLT,Int.reduceLE,Int.reduceGT,Int.reduceGE,Nat.reduceGT,Int.reduceNeg,Int.reduceToNat,Int.reduceAdd,Int.reduceMul,Int.reduceSub,Int.reducePow,decide_eq_true_eq,Nat.reduceBEq,Nat.reduceSub,exists_false,xu,List.set_cons_zero,List.set_cons_succ,wrap_i64,int_lt_t,int_lt_f,int_le_t,int_le_f,int_gt_t,int_gt_f,int_ge_t,int_ge_f,int_eq_t,int_eq_f,int_beq_t,int_beq_f,int_bne_t,int_bne_f,nat_le_t,nat_le_f,Nat.sub_zero,Nat.sub_self,not_false_eq_true,not_true_eq_false,hl,t1,tl,hsub,← hmee,← hg1]
        have kx1 : KS g g1 := .of kp1
        have wa := w_a (ω := ω) (n := 6301) (av := av) (u := u) (fan := fan) (mh := mh) ht hok hlt hk0 (by omega) (by omega) (by omega) (mapH_ks L.mp.hl kx1) E1 hme.2.1
        refine wa.mono ?_
        rintro e r g2 ⟨rfl, kx, lo, hi', z1, z2, LT', cL', E', cE', rfl, hL2, hE2, pL, pE, hle, hall⟩
        have M1 := mp_ks L.mp kx1
        have S1 := stAt_ks L.st kx1
        have M2 : Mp g2 mh (mh + 1) HT cH LT' cL' IN := ⟨mapH_kx M1.hh kx (by have := hme.1; simp; omega), hL2, M1.ne, fun t ht => by
          obtain ⟨b1, b2, c, b3⟩ := M1.inn t ht
          have := hme.2.2 t ht
          exact ⟨b1, b2, c, mapH_kx b3 kx (by simp; omega)⟩⟩
        have S2 : StAt g2 0 s u := stAt_keep S1 kx (fun j hj sz es e => by
          rcases List.mem_cons.1 hj with h | h
          · rw [h, M1.hl.hp] at e; cases e
          · have : j = me := by simpa using h
            rw [this, E1.hp] at e; cases e)
        obtain ⟨hbad, hgood⟩ := good_lay (me := me) L hlt hme.2.2 lo hi' pL pE hle hall
        simp (maxSteps := 2000000) (discharger := omega) only [xz,xc,xo,xr,x0,x1,x2,x3,x4,x5,x6,xd,xe,xb,kont_call,kont_pure,kont_round,isNil,slOk,sliceV,selems,srcElems,copyTo,dlen,eqAV,eqCells,eqS,wr,place,partVals,partEs,placeEs,mapOf,keyOk,keyCells,findK,Bool.bne_false,Bool.bne_true,Reg.isA,Reg.isV,Reg.stays,Reg.onto,↓reduceIte,reduceCtorEq,Nat.reduceEqDiff,Nat.reduceLT,Nat.reduceAdd,Nat.reduceMul,Nat.reduceLeDiff,Nat.zero_lt_succ,Option.bind_some,Option.getD_some,Option.getD_none,Int.cast_ofNat_Int,Int.natCast_zero,Int.natCast_nonneg,true_implies,or_true,true_or,false_or,or_false,beq_self_eq_true,exists_eq_left',Int.reduceEq,Int.reduceLT,Int.reduceLE,Int.reduceGT,Int.reduceGE,Nat.reduceGT,Int.reduceNeg,Int.reduceToNat,Int.reduceAdd,Int.reduceMul,Int.reduceSub,Int.reducePow,decide_eq_true_eq,Nat.reduceBEq,Nat.reduceSub,exists_false,xu,List.set_cons_zero,List.set_cons_succ,wrap_i64,int_lt_t,int_lt_f,int_le_t,int_le_f,int_gt_t,int_gt_f,int_ge_t,int_ge_f,int_eq_t,int_eq_f,int_beq_t,int_beq_f,int_bne_t,int_bne_f,nat_le_t,nat_le_f,Nat.sub_zero,Nat.sub_self,not_false_eq_true,not_true_eq_false]
        have wc := w_c (ω := ω) (n := 6301) (tv := .imm 1 (tnsOf tns) ct) (fan := fan) hask (by omega) (by omega) (by omega) M2 hE2 hme L.hf S2 hsok hsz (fs := []) (ed := .nils) (by simpa [edsOf] using IsApp.nils 6 g2) (by simp) (by simp) [(14, z1), (97, z2)] (.inr ⟨z1, z2, rfl⟩) hbad hgood
        refine wc.mono ?_
        rintro e r g3 ⟨rfl, u', s', HT', cH', IN', y1, y2, rfl, L'⟩
        simp (maxSteps := 2000000) (discharger := omega) only [xz,xc,xo,xr,x0,x1,x2,x3,x4,x5,x6,xd,xe,xb,kont_call,kont_pure,kont_round,isNil,slOk,sliceV,selems,srcElems,copyTo,dlen,eqAV,eqCells,eqS,wr,place,partVals,partEs,placeEs,mapOf,keyOk,keyCells,findK,Bool.bne_false,Bool.bne_true,Reg.isA,Reg.isV,Reg.stays,Reg.onto,↓reduceIte,reduceCtorEq,Nat.reduceEqDiff,Nat.reduceLT,Nat.reduceAdd,Nat.reduceMul,Nat.reduceLeDiff,Nat.zero_lt_succ,Option.bind_some,Option.getD_some,Option.getD_none,Int.cast_ofNat_Int,Int.natCast_zero,Int.natCast_nonneg,true_implies,or_true,true_or,false_or,or_false,beq_self_eq_true,exists_eq_left',Int.reduceEq,Int.reduceLT,Int.reduceLE,Int.reduceGT,Int.reduceGE,Nat.reduceGT,Int.reduceNeg,Int.reduceToNat,Int.reduceAdd,Int.reduceMul,Int.reduceSub,Int.reducePow,decide_eq_true_eq,Nat.reduceBEq,Nat.reduceSub,exists_false,xu,List.set_cons_zero,List.set_cons_succ,wrap_i64,int_lt_t,int_lt_f,int_le_t,int_le_f,int_gt_t,int_gt_f,int_ge_t,int_ge_f,int_eq_t,int_eq_f,int_beq_t,int_beq_f,int_bne_t,int_bne_f,nat_le_t,nat_le_f,Nat.sub_zero,Nat.sub_self,not_false_eq_true,not_true_eq_false]
        exact ⟨tns.length - (i + 1), by omega, i + 1, u', s', HT', cH', LT', cL', IN', rfl, by omega, rfl, L', h30'⟩
      · simp (maxSteps := 2000000) (discharger := omega) only [xz,xc,xo,xr,x0,x1,x2,x3,x4,x5,x6,xd,xe,xb,kont_call,kont_pure,kont_round,isNil,slOk,sliceV,selems,srcElems,copyTo,dlen,eqAV,eqCells,eqS,wr,place,partVals,partEs,placeEs,mapOf,keyOk,keyCells,findK,Bool.bne_false,Bool.bne_true,Reg.isA,Reg.isV,Reg.stays,Reg.onto,↓reduceIte,reduceCtorEq,Nat.reduceEqDiff,Nat.reduceLT,Nat.reduceAdd,Nat.reduceMul,Nat.reduceLeDiff,Nat.zero_lt_succ,Option.bind_some,Option.getD_some,Option.getD_none,Int.cast_ofNat_Int,Int.natCast_zero,Int.natCast_nonneg,true_implies,or_true,true_or,false_or,or_false,beq_self_eq_true,exists_eq_left',Int.reduceEq,Int.reduceLT,Int.reduceLE,Int.reduceGT,Int.reduceGE,Nat.reduceGT,Int.reduceNeg,Int.reduceToNat,Int.reduceAdd,Int.reduceMul,Int.reduceSub,Int.reducePow,decide_eq_true_eq,Nat.reduceBEq,Nat.reduceSub,exists_false,xu,List.set_cons_zero,List.set_cons_succ,wrap_i64,int_lt_t,int_lt_f,int_le_t,int_le_f,int_gt_t,int_gt_f,int_ge_t,int_ge_f,int_eq_t,int_eq_f,int_beq_t,int_beq_f,int_bne_t,int_bne_f,nat_le_t,nat_le_f,Nat.sub_zero,Nat.sub_self,not_false_eq_true,not_true_eq_false,hl,t1,tl,hsub,← hmee,← hg1]
        have hnil : tns[i].keys = [] := List.eq_nil_of_length_eq_zero (by omega)
        have hkk : ∀ k, k ∈ keysOf (tns.take i) → k ∈ keysOf (tns.take (i + 1)) := fun k hk => by rw [keysOf_take hlt]; exact List.mem_append.2 (.inl hk)
        have wb := w_b (ω := ω) (n := 6301) (av := av) (fan := fan) ht hok (by omega) h30 (by omega) (by omega) L.mp (by omega) kp1 E1 L.st (by have := L.len; omega) hfan
        refine wb.mono ?_
        rintro e r g2 ⟨kp2, ⟨rfl, z1, z2, z3, z4, rfl⟩ | ⟨rfl, ed, p, E', cE', rfl, hp, ie, le, hE2, fv⟩⟩
        · simp (maxSteps := 2000000) (discharger := omega) only [xz,xc,xo,xr,x0,x1,x2,x3,x4,x5,x6,xd,xe,xb,kont_call,kont_pure,kont_round,isNil,slOk,sliceV,selems,srcElems,copyTo,dlen,eqAV,eqCells,eqS,wr,place,partVals,partEs,placeEs,mapOf,keyOk,keyCells,findK,Bool.bne_false,Bool.bne_true,Reg.isA,Reg.isV,Reg.stays,Reg.onto,↓reduceIte,reduceCtorEq,Nat.reduceEqDiff,Nat.reduceLT,Nat.reduceAdd,Nat.reduceMul,Nat.reduceLeDiff,Nat.zero_lt_succ,Option.bind_some,Option.getD_some,Option.getD_none,Int.cast_ofNat_Int,Int.natCast_zero,Int.natCast_nonneg,true_implies,or_true,true_or,false_or,or_false,beq_self_eq_true,exists_eq_left',Int.reduceEq,Int.reduceLT,Int.reduceLE,Int.reduceGT,Int.reduceGE,Nat.reduceGT,Int.reduceNeg,Int.reduceToNat,Int.reduceAdd,Int.reduceMul,Int.reduceSub,Int.reducePow,decide_eq_true_eq,Nat.reduceBEq,Nat.reduceSub,exists_false,xu,List.set_cons_zero,List.set_cons_succ,wrap_i64,int_lt_t,int_lt_f,int_le_t,int_le_f,int_gt_t,int_gt_f,int_ge_t,int_ge_f,int_eq_t,int_eq_f,int_beq_t,int_beq_f,int_bne_t,int_bne_f,nat_le_t,nat_le_f,Nat.sub_zero,Nat.sub_self,not_false_eq_true,not_true_eq_false]
          exact ⟨tns.length - (i + 1), by omega, i + 1, u, s, HT, cH, LT, cL, IN, rfl, by omega, rfl, ⟨stAt_ks L.st (.of kp2), L.sr, L.lg, mp_keep L.mp kp2, L.inv.mono (by omega) hkk, fun t ht => by have := L.hf t ht; omega, by have := L.len; omega⟩, h30'⟩
        · obtain ⟨hbad, hgood⟩ := good_merge (me := me) L hlt hnil hme.2.2 hp fv
          have hfl := pick_len hp
          have hlen := L.len
          simp (maxSteps := 2000000) (discharger := omega) only [xz,xc,xo,xr,x0,x1,x2,x3,x4,x5,x6,xd,xe,xb,kont_call,kont_pure,kont_round,isNil,slOk,sliceV,selems,srcElems,copyTo,dlen,eqAV,eqCells,eqS,wr,place,partVals,partEs,placeEs,mapOf,keyOk,keyCells,findK,Bool.bne_false,Bool.bne_true,Reg.isA,Reg.isV,Reg.stays,Reg.onto,↓reduceIte,reduceCtorEq,Nat.reduceEqDiff,Nat.reduceLT,Nat.reduceAdd,Nat.reduceMul,Nat.reduceLeDiff,Nat.zero_lt_succ,Option.bind_some,Option.getD_some,Option.getD_none,Int.cast_ofNat_Int,Int.natCast_zero,Int.natCast_nonneg,true_implies,or_true,true_or,false_or,or_false,beq_self_eq_true,exists_eq_left',Int.reduceEq,Int.reduceLT,Int.reduceLE,Int.reduceGT,Int.reduceGE,Nat.reduceGT,Int.reduceNeg,Int.reduceToNat,Int.reduceAdd,Int.reduceMul,Int.reduceSub,Int.reducePow,decide_eq_true_eq,Nat.reduceBEq,Nat.reduceSub,exists_false,xu,List.set_cons_zero,List.set_cons_succ,wrap_i64,int_lt_t,int_lt_f,int_le_t,int_le_f,int_gt_t,int_gt_f,int_ge_t,int_ge_f,int_eq_t,int_eq_f,int_beq_t,int_beq_f,int_bne_t,int_bne_f,nat_le_t,nat_le_f,Nat.sub_zero,Nat.sub_self,not_false_eq_true,not_true_eq_false]
          have wc := w_c (ω := ω) (n := 6301) (tv := .imm 1 (tnsOf tns) ct) (fan := fan) hask (by omega) (by omega) (by omega) (mp_keep L.mp kp2) hE2 hme L.hf (stAt_ks L.st (.of kp2)) hsok hsz ie (by rw [List.length_map]; omega) (fun f hf => by
            obtain ⟨t, ht, rfl⟩ := List.mem_map.1 hf
            have := L.inv.files t ((L.inv.facts hp).sub t ht)
            omega) [] (.inl rfl) hbad hgood
          refine wc.mono ?_
          rintro e r g3 ⟨rfl, u', s', HT', cH', IN', y1, y2, rfl, L'⟩
          simp (maxSteps := 2000000) (discharger := omega) only [xz,xc,xo,xr,x0,x1,x2,x3,x4,x5,x6,xd,xe,xb,kont_call,kont_pure,kont_round,isNil,slOk,sliceV,selems,srcElems,copyTo,dlen,eqAV,eqCells,eqS,wr,place,partVals,partEs,placeEs,mapOf,keyOk,keyCells,findK,Bool.bne_false,Bool.bne_true,Reg.isA,Reg.isV,Reg.stays,Reg.onto,↓reduceIte,reduceCtorEq,Nat.reduceEqDiff,Nat.reduceLT,Nat.reduceAdd,Nat.reduceMul,Nat.reduceLeDiff,Nat.zero_lt_succ,Option.bind_some,Option.getD_some,Option.getD_none,Int.cast_ofNat_Int,Int.natCast_zero,Int.natCast_nonneg,true_implies,or_true,true_or,false_or,or_false,beq_self_eq_true,exists_eq_left',Int.reduceEq,Int.reduceLT,Int.reduceLE,Int.reduceGT,Int.reduceGE,Nat.reduceGT,Int.reduceNeg,Int.reduceToNat,Int.reduceAdd,Int.reduceMul,Int.reduceSub,Int.reducePow,decide_eq_true_eq,Nat.reduceBEq,Nat.reduceSub,exists_false,xu,List.set_cons_zero,List.set_cons_succ,wrap_i64,int_lt_t,int_lt_f,int_le_t,int_le_f,int_gt_t,int_gt_f,int_ge_t,int_ge_f,int_eq_t,int_eq_f,int_beq_t,int_beq_f,int_bne_t,int_bne_f,nat_le_t,nat_le_f,Nat.sub_zero,Nat.sub_self,not_false_eq_true,not_true_eq_false]
          exact ⟨tns.length - (i + 1), by omega, i + 1, u', s', HT', cH', LT, cL, IN', rfl, by omega, rfl, L', h30'⟩
    · obtain rfl : i = tns.length := by omega
      simp (maxSteps := 2000000) (discharger := omega) only [xz,xc,xo,xr,x0,x1,x2,x3,x4,x5,x6,xd,xe,xb,kont_call,kont_pure,kont_round,isNil,slOk,sliceV,selems,srcElems,copyTo,dlen,eqAV,eqCells,eqS,wr,place,partVals,partEs,placeEs,mapOf,keyOk,keyCells,findK,Bool.bne_false,Bool.bne_true,Reg.isA,Reg.isV,Reg.stays,Reg.onto,↓reduceIte,reduceCtorEq,Nat.reduceEqDiff,Nat.reduceLT,Nat.reduceAdd,Nat.reduceMul,Nat.reduceLeDiff,Nat.zero_lt_succ,Option.bind_some,Option.getD_some,Option.getD_none,Int.cast_ofNat_Int,Int.natCast_zero,Int.natCast_nonneg,true_implies,or_true,true_or,false_or,or_false,beq_self_eq_true,exists_eq_left',Int.reduceEq,Int.reduceLT,Int.reduceLE,Int.reduceGT,Int.reduceGE,Nat.reduceGT,Int.reduceNeg,Int.reduceToNat,Int.reduceAdd,Int.reduceMul,Int.reduceSub,Int.reducePow,decide_eq_true_eq,Nat.reduceBEq,Nat.reduceSub,exists_false,xu,List.set_cons_zero,List.set_cons_succ,wrap_i64,int_lt_t,int_lt_f,int_le_t,int_le_f,int_gt_t,int_gt_f,int_ge_t,int_ge_f,int_eq_t,int_eq_f,int_beq_t,int_beq_f,int_bne_t,int_bne_f,nat_le_t,nat_le_f,Nat.sub_zero,Nat.sub_self,not_false_eq_true,not_true_eq_false,hl])
  exact ⟨h', by rw [e, hu]⟩
end Go.Proofs.Ytabpndekmpjmhaa.Im

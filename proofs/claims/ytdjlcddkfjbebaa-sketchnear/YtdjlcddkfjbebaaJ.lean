/- Joined: S18G, S18H, S18J. -/
import Derived.Test.YtdjlcddkfjbebaaF
/- S18G: what is found in a book. -/
set_option linter.unusedVariables false
set_option linter.unusedSimpArgs false
open Go Go.Im
namespace Go.Proofs.Ytdjlcddkfjbebaa.Im

abbrev Rows := List (Int × Int × Nat)
structure RI (R : Rows) (l : List Ch) (least : Int) (f : Ch → Int) : Prop where
  val : ∀ c ∈ l, cnt R c.1 = f c
  sub : ∀ t ∈ R, ∃ c ∈ l, c.1 = t.1
  all : least < 1 → ∀ c ∈ l, tget R c.1 ≠ none

structure NI (h g : Hp) (pr mr : Nat) (R : Rows) (cR : Nat) : Prop where
  kp : keeps h g
  kt : KT h g
  pt : g[pr]? = some (.row 1 [.mp mr])
  mp : MapH g mr kk iv64 R cR
  lo : h.length ≤ pr ∧ h.length ≤ mr

theorem cnt_put (R : Rows) (k n : Int) (c : Nat) (x : Int) : cnt (tput R k n c) x = if k = x then n else cnt R x := by
  unfold cnt
  rw [tget_put]
  split <;> rfl

theorem getLast_snoc (l : List Nat) (b : Nat) : (l ++ [b]).getLast? = some b := by simp

theorem NI.keepR {h g g' : Hp} {pr mr cR : Nat} {R : Rows} (N : NI h g pr mr R cR) (k : KeepR h.length 32 g g') (kt : KT g g') : NI h g' pr mr R cR :=
  ⟨fun id o ho hs => k.2 id o (N.kp id o ho hs) (.inl (List.getElem?_eq_some_iff.1 ho).1), N.kt.trans kt, k.2 _ _ N.pt (.inr fun es e => by cases e), ⟨k.2 _ _ N.mp.hp (.inr fun es e => by cases e), N.mp.keys, N.mp.born, N.mp.once⟩, N.lo⟩
theorem NI.app {h g : Hp} {pr mr cR : Nat} {R : Rows} (N : NI h g pr mr R cR) (m : Hp) : NI h (g ++ m) pr mr R cR := N.keepR (.app m) (.app _ _)

theorem NI.set {h g : Hp} {pr mr cR i : Nat} {R : Rows} {o : AO} (N : NI h g pr mr R cR) (hi : h.length ≤ i) (h1 : i ≠ pr) (h2 : i ≠ mr) (hn : ∀ z e, g[i]? ≠ some (.tail z e)) : NI h (g.set i o) pr mr R cR := by
  have k : ∀ j, j ≠ i → (g.set i o)[j]? = g[j]? := fun j hj => by rw [List.getElem?_set, if_neg (Ne.symm hj)]
  refine ⟨fun id q ho hs => ?_, fun j z e q => ?_, (k _ (Ne.symm h1)).trans N.pt, N.mp.keep (k _ (Ne.symm h2)), N.lo⟩
  · rw [k _ fun e => by have := (List.getElem?_eq_some_iff.1 ho).1; omega]
    exact N.kp id q ho hs
  · have := N.kt j z e q
    rw [k _ fun e2 => by rw [e2] at this; exact hn _ _ this]
    exact this
theorem NI.upd {h g : Hp} {pr mr cR cR' : Nat} {R R' : Rows} (N : NI h g pr mr R cR) (M : MapH (g.set mr (.map (encE kk iv64 R') cR')) mr kk iv64 R' cR') : NI h (g.set mr (.map (encE kk iv64 R') cR')) pr mr R' cR' := by
  have k : ∀ j, j ≠ mr → (g.set mr (AO.map (encE kk iv64 R') cR'))[j]? = g[j]? := fun j hj => by rw [List.getElem?_set, if_neg (Ne.symm hj)]
  refine ⟨fun id q ho hs => ?_, fun j z e q => ?_, (k _ fun e => by have := N.pt; rw [e, N.mp.hp] at this; cases this).trans N.pt, M, N.lo⟩
  · rw [k _ fun e => by have := (List.getElem?_eq_some_iff.1 ho).1; have := N.lo; omega]
    exact N.kp id q ho hs
  · have := N.kt j z e q
    rw [k _ fun e2 => by rw [e2, N.mp.hp] at this; cases this]
    exact this
theorem encE_snoc (R : Rows) (k n : Int) (c : Nat) : encE kk iv64 R ++ [(kk k, iv64 n, c)] = encE kk iv64 (R ++ [(k, n, c)]) := by simp [encE]

theorem nodup_inj {α β : Type} {f : α → β} {l : List α} {a b : α} (hn : (l.map f).Nodup) (ha : a ∈ l) (hb : b ∈ l) (e : f a = f b) : a = b := by
  induction l with
  | nil => cases ha
  | cons x l ih =>
    simp only [List.map_cons,List.nodup_cons] at hn
    rcases List.mem_cons.1 ha with e1 | ha <;> rcases List.mem_cons.1 hb with e2 | hb
    · rw [e1, e2]
    · exact absurd (by rw [← e1, e]; exact List.mem_map_of_mem hb) hn.1
    · exact absurd (by rw [← e2, ← e]; exact List.mem_map_of_mem ha) hn.1
    · exact ih hn.2 ha hb

theorem w_a {ω : Nat → Nat} {n : Nat} {p mo ma cT cA pr mr : Nat} {T : List (Int × List Int × Nat)} {A : Spots} {l : List Ch} (s : List Int) (least : Int) (h g : Hp) (B : Bk h p mo ma T cT A cA (fun _ => l)) (hT : T.map (fun t => (t.1, t.2.1)) = l) (hl : l.length ≤ 500) (hn : 1100 ≤ n) (hby : ∀ c ∈ l, 0 ≤ c.1 ∧ c.1 ≤ 255) (N : NI h g pr mr [] 0) :
    Wp (kont F n true ω) n w18a [(0, .val (.ptr p 2 0 0)), (2, .val (.int .i64 least)), (4, .var (.agg (intsOf .u32 s))), (7, .val (.ptr pr 1 0 0)), (20, .val (.bool true))] g
      (fun e r g' => e = .normal ∧ (∃ z1 z2, r = [(0, .val (.ptr p 2 0 0)), (2, .val (.int .i64 least)), (4, .var (.agg (intsOf .u32 s))), (7, .val (.ptr pr 1 0 0)), (25, z1), (27, z2)]) ∧ ∃ R cR, NI h g' pr mr R cR ∧ RI R l least (fun _ => 0)) := by
  unfold w18a
  have b1 := N.kp _ _ B.ptr rfl
  have b2 := N.kp _ _ B.of.hp rfl
  simp (maxSteps := 2000000) (discharger := omega) only [xc,xo,xr,x0,x1,x2,x3,x4,x5,x6,xd,xe,xb,kont_call,kont_pure,kont_round,isNil,slOk,sliceV,selems,srcElems,copyTo,dlen,eqAV,eqCells,eqS,wr,place,partVals,partEs,placeEs,mapOf,keyOk,keyCells,findK,Bool.bne_false,Bool.bne_true,List.drop_zero,List.nil_append,List.append_nil,List.take_zero,List.cons_append,List.take_succ_cons,List.drop_succ_cons,List.take_nil,List.drop_nil,Reg.isA,Reg.isV,Reg.stays,Reg.onto,Bool.false_or,Bool.or_false,Bool.false_and,Bool.and_false,Bool.true_and,Bool.and_true,Bool.or_true,Bool.true_or,↓reduceIte,reduceCtorEq,Nat.reduceEqDiff,Nat.reduceLT,Nat.reduceAdd,Nat.reduceMul,Nat.add_zero,Nat.zero_add,Nat.not_lt_zero,Nat.zero_ne_one,Nat.one_ne_zero,Nat.reduceLeDiff,Nat.lt_irrefl,Nat.zero_lt_succ,Bool.false_eq_true,Bool.not_true,Bool.not_false,Option.map_some,Option.map_none,Option.bind_some,Option.getD_some,Option.getD_none,and_self,and_true,true_and,List.length_cons,List.length_nil,List.any_nil,List.any_cons,Int.toNat_natCast,Int.cast_ofNat_Int,Int.natCast_zero,Int.natCast_nonneg,true_implies,or_true,true_or,false_or,or_false,beq_self_eq_true,Option.some.injEq,exists_eq_left',Int.reduceEq,Int.reduceLT,Int.reduceLE,Int.reduceGT,Int.reduceGE,Nat.reduceGT,Int.reduceNeg,Int.reduceToNat,Int.reduceAdd,Int.reduceMul,Int.reduceSub,Int.reducePow,decide_true,decide_false,decide_eq_true_eq,List.getElem?_cons_zero,List.getElem?_cons_succ,Nat.reduceBEq,Nat.reduceSub,exists_false,and_false,false_and,xu,List.set_cons_zero,List.set_cons_succ,wrap_i64,int_lt_t,int_lt_f,int_le_t,int_le_f,int_gt_t,int_gt_f,int_ge_t,int_ge_f,int_eq_t,int_eq_f,int_beq_t,int_beq_f,int_bne_t,int_bne_f,nat_le_t,nat_le_f,Nat.sub_zero,Nat.sub_self,not_false_eq_true,not_true_eq_false,b1,b2]
  refine wpi_loop (fun m r g' => ∃ (seen : List Nat) (R : Rows) (cR : Nat), r = [(0, .val (.ptr p 2 0 0)), (2, .val (.int .i64 least)), (4, .var (.agg (intsOf .u32 s))), (7, .val (.ptr pr 1 0 0)), (25, .val (.ptr g.length 0 0 0))] ∧ g'[g.length]? = some (.iter (some mo) cT seen cT) ∧ NI h g' pr mr R cR ∧ (∀ z, cnt R z = 0) ∧ (∀ t ∈ R, ∃ c ∈ l, c.1 = t.1) ∧
    (∀ t ∈ T, t.2.2 ∈ seen → tget R t.1 ≠ none) ∧ (∀ t ∈ T, t.2.2 ∉ seen → tget R t.1 = none) ∧ m = (left T seen).length) T.length (by rw [← hT, List.length_map] at hl; omega) ⟨[], [], 0, rfl, by simp, N.app _, by simp [cnt,tget], by simp, by simp, by simp [tget], by rw [left_nil]⟩ ?_
  rintro m r g' ⟨seen, R, cR, rfl, i1, N1, r1, r2, r3, r4, rfl⟩
  have b3 := N1.kp _ _ B.of.hp rfl
  rcases step_next (K := kont F n true ω) (r := [(0, .val (.ptr p 2 0 0)), (2, .val (.int .i64 least)), (4, .var (.agg (intsOf .u32 s))), (7, .val (.ptr pr 1 0 0)), (25, .val (.ptr g.length 0 0 0))]) (it := .t 25) b3 i1 B.of.born (Nat.le_refl _) (fun j => rfl) rfl with ⟨e1, e2⟩ | ⟨t, ht, e2⟩
  · rw [w_seq, w_region, wo_heap e2, wr_some]
    simp (maxSteps := 2000000) (discharger := omega) only [xc,xo,xr,x0,x1,x2,x3,x4,x5,x6,xd,xe,xb,kont_call,kont_pure,kont_round,isNil,slOk,sliceV,selems,srcElems,copyTo,dlen,eqAV,eqCells,eqS,wr,place,partVals,partEs,placeEs,mapOf,keyOk,keyCells,findK,Bool.bne_false,Bool.bne_true,List.drop_zero,List.nil_append,List.append_nil,List.take_zero,List.cons_append,List.take_succ_cons,List.drop_succ_cons,List.take_nil,List.drop_nil,Reg.isA,Reg.isV,Reg.stays,Reg.onto,Bool.false_or,Bool.or_false,Bool.false_and,Bool.and_false,Bool.true_and,Bool.and_true,Bool.or_true,Bool.true_or,↓reduceIte,reduceCtorEq,Nat.reduceEqDiff,Nat.reduceLT,Nat.reduceAdd,Nat.reduceMul,Nat.add_zero,Nat.zero_add,Nat.not_lt_zero,Nat.zero_ne_one,Nat.one_ne_zero,Nat.reduceLeDiff,Nat.lt_irrefl,Nat.zero_lt_succ,Bool.false_eq_true,Bool.not_true,Bool.not_false,Option.map_some,Option.map_none,Option.bind_some,Option.getD_some,Option.getD_none,and_self,and_true,true_and,List.length_cons,List.length_nil,List.any_nil,List.any_cons,Int.toNat_natCast,Int.cast_ofNat_Int,Int.natCast_zero,Int.natCast_nonneg,true_implies,or_true,true_or,false_or,or_false,beq_self_eq_true,Option.some.injEq,exists_eq_left',Int.reduceEq,Int.reduceLT,Int.reduceLE,Int.reduceGT,Int.reduceGE,Nat.reduceGT,Int.reduceNeg,Int.reduceToNat,Int.reduceAdd,Int.reduceMul,Int.reduceSub,Int.reducePow,decide_true,decide_false,decide_eq_true_eq,List.getElem?_cons_zero,List.getElem?_cons_succ,Nat.reduceBEq,Nat.reduceSub,exists_false,and_false,false_and,xu,List.set_cons_zero,List.set_cons_succ,wrap_i64,int_lt_t,int_lt_f,int_le_t,int_le_f,int_gt_t,int_gt_f,int_ge_t,int_ge_f,int_eq_t,int_eq_f,int_beq_t,int_beq_f,int_bne_t,int_bne_f,nat_le_t,nat_le_f,Nat.sub_zero,Nat.sub_self,not_false_eq_true,not_true_eq_false]
    refine ⟨⟨_, _, rfl⟩, R, cR, N1.app _, fun c _ => r1 _, r2, fun _ c hc => ?_⟩
    rw [← hT] at hc
    obtain ⟨t, ht, rfl⟩ := List.mem_map.1 hc
    refine r3 t ht ?_
    have := List.filter_eq_nil_iff.1 e1 t ht
    simpa using this
  · rw [w_seq, w_region, wo_heap e2, wr_some]
    have ht' := List.mem_filter.1 ht
    obtain ⟨g1, hg1⟩ : ∃ g1, g1 = g'.set g.length (.iter (some mo) cT (seen ++ [t.2.2]) cT) ++ [AO.dead] := ⟨_, rfl⟩
    rw [← hg1]
    have hgl : g.length < g'.length := (List.getElem?_eq_some_iff.1 i1).1
    have hmg : mo ≠ g.length := fun e => by rw [e, i1] at b3; cases b3
    have hhg : h.length ≤ g.length := by have := (List.getElem?_eq_some_iff.1 N.pt).1; have := N.lo; omega
    have N2 : NI h g1 pr mr R cR := by
      rw [hg1]
      refine (N1.set hhg (fun e => ?_) (fun e => ?_) fun z e2 e3 => ?_).app _
      · rw [e, N1.pt] at i1; cases i1
      · rw [e, N1.mp.hp] at i1; cases i1
      · rw [i1] at e3; cases e3
    have i2 : g1[g.length]? = some (.iter (some mo) cT (seen ++ [t.2.2]) cT) := by rw [hg1, List.getElem?_append_left (by simpa using hgl)]; simp [hgl]
    have b4 : g1[mo]? = some (.map (encE kk sk T) cT) := N2.kp _ _ B.of.hp rfl
    have b5 := B.of.find ht'.1
    have gl := getLast_snoc seen t.2.2
    have p2 := N2.pt
    have m2 := N2.mp.hp
    have hun : t.2.2 ∉ seen := by simpa using ht'.2
    have tn := r4 _ ht'.1 hun
    have f1 := findK_no (ev := iv64) kEnc 0 tn
    have ad := N2.mp.add tn 0
    rw [encE_snoc] at ad
    have N3 := N2.upd ad
    obtain ⟨g2, hg2⟩ : ∃ g2, g2 = g1.set mr (.map (encE kk iv64 (R ++ [(t.1, 0, cR)])) (cR + 1)) := ⟨_, rfl⟩
    rw [← hg2] at N3
    have enc := encE_snoc R t.1 0 cR
    simp (maxSteps := 2000000) (discharger := omega) only [xc,xo,xr,x0,x1,x2,x3,x4,x5,x6,xd,xe,xb,kont_call,kont_pure,kont_round,isNil,slOk,sliceV,selems,srcElems,copyTo,dlen,eqAV,eqCells,eqS,wr,place,partVals,partEs,placeEs,mapOf,keyOk,keyCells,findK,Bool.bne_false,Bool.bne_true,List.drop_zero,List.nil_append,List.append_nil,List.take_zero,List.cons_append,List.take_succ_cons,List.drop_succ_cons,List.take_nil,List.drop_nil,Reg.isA,Reg.isV,Reg.stays,Reg.onto,Bool.false_or,Bool.or_false,Bool.false_and,Bool.and_false,Bool.true_and,Bool.and_true,Bool.or_true,Bool.true_or,↓reduceIte,reduceCtorEq,Nat.reduceEqDiff,Nat.reduceLT,Nat.reduceAdd,Nat.reduceMul,Nat.add_zero,Nat.zero_add,Nat.not_lt_zero,Nat.zero_ne_one,Nat.one_ne_zero,Nat.reduceLeDiff,Nat.lt_irrefl,Nat.zero_lt_succ,Bool.false_eq_true,Bool.not_true,Bool.not_false,Option.map_some,Option.map_none,Option.bind_some,Option.getD_some,Option.getD_none,and_self,and_true,true_and,List.length_cons,List.length_nil,List.any_nil,List.any_cons,Int.toNat_natCast,Int.cast_ofNat_Int,Int.natCast_zero,Int.natCast_nonneg,true_implies,or_true,true_or,false_or,or_false,beq_self_eq_true,Option.some.injEq,exists_eq_left',Int.reduceEq,Int.reduceLT,Int.reduceLE,Int.reduceGT,Int.reduceGE,Nat.reduceGT,Int.reduceNeg,Int.reduceToNat,Int.reduceAdd,Int.reduceMul,Int.reduceSub,Int.reducePow,decide_true,decide_false,decide_eq_true_eq,List.getElem?_cons_zero,List.getElem?_cons_succ,Nat.reduceBEq,Nat.reduceSub,exists_false,and_false,false_and,xu,List.set_cons_zero,List.set_cons_succ,wrap_i64,int_lt_t,int_lt_f,int_le_t,int_le_f,int_gt_t,int_gt_f,int_ge_t,int_ge_f,int_eq_t,int_eq_f,int_beq_t,int_beq_f,int_bne_t,int_bne_f,nat_le_t,nat_le_f,Nat.sub_zero,Nat.sub_self,not_false_eq_true,not_true_eq_false,i2,b4,gl,b5,kCs_len,kCs_take,kCs_drop,kCs_key,p2,m2,f1,enc,← hg2]
    have hgm : g.length ≠ mr := fun e => by rw [e, m2] at i2; cases i2
    have tp := tput_new (v := (0 : Int)) (c := cR) tn
    rw [← tp] at N3
    refine ⟨(left T (seen ++ [t.2.2])).length, ?_, seen ++ [t.2.2], tput R t.1 0 cR, cR + 1, ?_, N3, fun z => ?_, fun u hu => ?_, fun u hu hs => ?_, fun u hu hs => ?_, rfl⟩
    · have := (left_next B.of.once ht).length_eq
      rw [this]; simp
    · rw [hg2, List.getElem?_set, if_neg (Ne.symm hgm)]; exact i2
    · rw [cnt_put, r1]; split <;> rfl
    · rcases tput_mem hu with e | hu
      · exact ⟨(t.1, t.2.1), by rw [← hT]; exact List.mem_map.2 ⟨t, ht'.1, rfl⟩, e.symm⟩
      · exact r2 u hu
    · rw [tget_put]
      split
      · simp
      · rename_i hne
        rcases List.mem_append.1 hs with hs | hs
        · exact r3 u hu hs
        · exact absurd (by rw [nodup_inj B.of.once hu ht'.1 (by simpa using hs)]) hne
    · rw [tget_put, if_neg]
      · exact r4 u hu fun h => hs (by simp [h])
      · intro e
        rw [nodup_inj B.of.keys hu ht'.1 e.symm] at hs
        simp at hs

end Go.Proofs.Ytdjlcddkfjbebaa.Im

/- S18H: what is found in a book is counted. -/
set_option linter.unusedVariables false
set_option linter.unusedSimpArgs false
open Go Go.Im
namespace Go.Proofs.Ytdjlcddkfjbebaa.Im

def secC : AC → AC
  | .seq _ c => c
  | c => c

theorem al_step (a s : List Int) (i : Nat) : al a s (i + 1) = al a s i + if a.getD i 0 = s.getD i 0 then 1 else 0 := rfl

theorem ka_mem {L : Nat → List Ch} {x : Nat × Int} {b : Int} : b ∈ ka L x ↔ ∃ c ∈ L x.1, c.1 = b ∧ c.2.getD x.1 0 = x.2 := by
  unfold ka
  constructor
  · intro h
    obtain ⟨c, hc, rfl⟩ := List.mem_map.1 h
    obtain ⟨h1, h2⟩ := List.mem_filter.1 hc
    exact ⟨c, h1, rfl, by simpa using h2⟩
  · rintro ⟨c, h1, rfl, h2⟩
    exact List.mem_map.2 ⟨c, List.mem_filter.2 ⟨h1, by simpa using h2⟩, rfl⟩

theorem RI.inc {R : Rows} {l : List Ch} {least : Int} {F0 : Ch → Int} {ks : List Int} {j x : Nat} (hj : j < ks.length) (I : RI R l least (fun c => F0 c + if c.1 ∈ ks.take j then 1 else 0)) (hk : ks.Nodup) (hb : ∃ c ∈ l, c.1 = ks[j]) :
    RI (tput R ks[j] (cnt R ks[j] + 1) x) l least (fun c => F0 c + if c.1 ∈ ks.take (j + 1) then 1 else 0) := by
  refine ⟨fun c hc => ?_, fun t ht => ?_, fun h c hc => ?_⟩
  · rw [cnt_put, List.take_succ_eq_append_getElem hj]
    have hv : cnt R c.1 = F0 c + if c.1 ∈ ks.take j then 1 else 0 := I.val c hc
    have hn : ks[j] ∉ ks.take j := fun h => by
      obtain ⟨i, h1, h2⟩ := List.getElem_of_mem h
      rw [List.getElem_take] at h2
      simp at h1
      have := (List.getElem_inj hk).1 h2
      omega
    by_cases e : ks[j] = c.1
    · rw [if_pos e, e, hv, ← e, if_neg hn, if_pos (List.mem_append.2 (.inr (List.mem_singleton.2 rfl)))]; omega
    · rw [if_neg e, hv]
      congr 1
      have : (c.1 ∈ ks.take j ++ [ks[j]]) ↔ c.1 ∈ ks.take j := ⟨fun h => (List.mem_append.1 h).resolve_right fun h => e (List.mem_singleton.1 h).symm, fun h => List.mem_append.2 (.inl h)⟩
      simp only [this]
  · rcases tput_mem ht with h | h
    · obtain ⟨c, h1, h2⟩ := hb
      exact ⟨c, h1, by rw [h2, h]⟩
    · exact I.sub t h
  · rw [tget_put]
    split
    · simp
    · exact I.all h c hc

theorem w_b {ω : Nat → Nat} {n : Nat} {p mo ma cT cA pr mr : Nat} {T : List (Int × List Int × Nat)} {A : Spots} {l : List Ch} {R : Rows} {cR : Nat} (s : List Int) (least : Int) (h g : Hp) (B : Bk h p mo ma T cT A cA (fun _ => l)) (hl : l.length ≤ 500) (hn : 1100 ≤ n) (hs8 : s.length = 8)
    (hnd : (l.map (·.1)).Nodup) (N : NI h g pr mr R cR) (I : RI R l least (fun _ => 0)) (ex : Regs) (hex : (∃ z, ex = [(20, z)]) ∨ ∃ z1 z2, ex = [(25, z1), (27, z2)]) :
    Wp (kont F n true ω) n w18b ([(0, .val (.ptr p 2 0 0)), (2, .val (.int .i64 least)), (4, .var (.agg (intsOf .u32 s))), (7, .val (.ptr pr 1 0 0))] ++ ex) g
      (fun e r g' => e = .normal ∧ (∃ z1 z2 z3, r = [(0, .val (.ptr p 2 0 0)), (2, .val (.int .i64 least)), (7, .val (.ptr pr 1 0 0)), (32, z1), (33, z2), (34, z3)]) ∧ ∃ R cR, NI h g' pr mr R cR ∧ RI R l least (fun c => al c.2 s 8)) := by
  have hi8 : (intsOf .u32 s).length = 8 := by simp [intsOf,hs8]
  have ht8 : (intsOf .u32 s).take 8 = intsOf .u32 s := List.take_of_length_le (by omega)
  have hd8 : (intsOf .u32 s).drop 8 = [] := List.drop_of_length_le (by omega)
  unfold w18b
  have fin : Wp (kont F n true ω) n (secC w18b) [(0, .val (.ptr p 2 0 0)), (2, .val (.int .i64 least)), (7, .val (.ptr pr 1 0 0)), (32, .val (.agg (intsOf .u32 s))), (33, .val (.int .i64 0))] g
      (fun e r g' => e = .normal ∧ (∃ z1 z2 z3, r = [(0, .val (.ptr p 2 0 0)), (2, .val (.int .i64 least)), (7, .val (.ptr pr 1 0 0)), (32, z1), (33, z2), (34, z3)]) ∧ ∃ R cR, NI h g' pr mr R cR ∧ RI R l least (fun c => al c.2 s 8)) := by
    simp only [secC,w18b]
    simp (maxSteps := 2000000) (discharger := omega) only [xc,xo,xr,x0,x1,x2,x3,x4,x5,x6,xd,xe,xb,kont_call,kont_pure,kont_round,isNil,slOk,sliceV,selems,srcElems,copyTo,dlen,eqAV,eqCells,eqS,wr,place,partVals,partEs,placeEs,mapOf,keyOk,keyCells,findK,Bool.bne_false,Bool.bne_true,List.drop_zero,List.nil_append,List.append_nil,List.take_zero,List.cons_append,List.take_succ_cons,List.drop_succ_cons,List.take_nil,List.drop_nil,Reg.isA,Reg.isV,Reg.stays,Reg.onto,Bool.false_or,Bool.or_false,Bool.false_and,Bool.and_false,Bool.true_and,Bool.and_true,Bool.or_true,Bool.true_or,↓reduceIte,reduceCtorEq,Nat.reduceEqDiff,Nat.reduceLT,Nat.reduceAdd,Nat.reduceMul,Nat.add_zero,Nat.zero_add,Nat.not_lt_zero,Nat.zero_ne_one,Nat.one_ne_zero,Nat.reduceLeDiff,Nat.lt_irrefl,Nat.zero_lt_succ,Bool.false_eq_true,Bool.not_true,Bool.not_false,Option.map_some,Option.map_none,Option.bind_some,Option.getD_some,Option.getD_none,and_self,and_true,true_and,List.length_cons,List.length_nil,List.any_nil,List.any_cons,Int.toNat_natCast,Int.cast_ofNat_Int,Int.natCast_zero,Int.natCast_nonneg,true_implies,or_true,true_or,false_or,or_false,beq_self_eq_true,Option.some.injEq,exists_eq_left',Int.reduceEq,Int.reduceLT,Int.reduceLE,Int.reduceGT,Int.reduceGE,Nat.reduceGT,Int.reduceNeg,Int.reduceToNat,Int.reduceAdd,Int.reduceMul,Int.reduceSub,Int.reducePow,decide_true,decide_false,decide_eq_true_eq,List.getElem?_cons_zero,List.getElem?_cons_succ,Nat.reduceBEq,Nat.reduceSub,exists_false,and_false,false_and,xu,List.set_cons_zero,List.set_cons_succ,wrap_i64,int_lt_t,int_lt_f,int_le_t,int_le_f,int_gt_t,int_gt_f,int_ge_t,int_ge_f,int_eq_t,int_eq_f,int_beq_t,int_beq_f,int_bne_t,int_bne_f,nat_le_t,nat_le_f,Nat.sub_zero,Nat.sub_self,not_false_eq_true,not_true_eq_false]
    refine wpi_loop (fun k r g' => ∃ (i : Nat) (R : Rows) (cR : Nat), r = [(0, .val (.ptr p 2 0 0)), (2, .val (.int .i64 least)), (7, .val (.ptr pr 1 0 0)), (32, .val (.agg (intsOf .u32 s))), (33, .val (.int .i64 i))] ∧ i ≤ 8 ∧ k = 8 - i ∧ NI h g' pr mr R cR ∧ RI R l least (fun c => al c.2 s i)) 8 (by omega) ⟨0, R, cR, rfl, by omega, by omega, N, I⟩ ?_
    rintro k r g' ⟨i, R, cR, rfl, hi, rfl, N1, I1⟩
    by_cases hlt : i < 8
    · have q1 := intsOf_getD (k := .u32) (s := s) (i := i) (by omega)
      obtain ⟨v, hv⟩ : ∃ v, v = s.getD i 0 := ⟨_, rfl⟩
      rw [← hv] at q1
      have B1 := B.keep N1.kp
      obtain ⟨ks, hks⟩ : ∃ ks, ks = ka (fun _ => l) (i, v) := ⟨_, rfl⟩
      have hksl : ks.length ≤ 500 := by rw [hks]; exact Nat.le_trans (ka_len l _ _ rfl) hl
      have hksn : ks.Nodup := by rw [hks]; exact (List.filter_sublist.map _).nodup hnd
      have stp : ∀ c ∈ l, ((al c.2 s (i + 1) : Nat) : Int) = (al c.2 s i : Nat) + if c.1 ∈ ks then 1 else 0 := fun c hc => by
        rw [al_step, ← hv]
        by_cases e : c.2.getD i 0 = v
        · have : c.1 ∈ ks := by rw [hks]; exact ka_mem.2 ⟨c, hc, rfl, e⟩
          rw [if_pos e, if_pos this]; rfl
        · have : c.1 ∉ ks := by
            rw [hks]; intro h2
            obtain ⟨d, h3, h4, h5⟩ := ka_mem.1 h2
            rw [nodup_inj hnd h3 hc h4] at h5
            exact e h5
          rw [if_neg e, if_neg this]; rfl
      have p0 := B1.ptr
      have m0 := B1.spots.hp
      rcases B1.sp.at (x := (i, v)) hlt with ⟨e1, e2⟩ | ⟨_, id, post, e2, e3, _⟩
      · rw [← hks] at e1
        have u1 := findK_no (ev := vid) sEnc 0 e2
        simp (maxSteps := 2000000) (discharger := omega) only [xc,xo,xr,x0,x1,x2,x3,x4,x5,x6,xd,xe,xb,kont_call,kont_pure,kont_round,isNil,slOk,sliceV,selems,srcElems,copyTo,dlen,eqAV,eqCells,eqS,wr,place,partVals,partEs,placeEs,mapOf,keyOk,keyCells,findK,Bool.bne_false,Bool.bne_true,List.drop_zero,List.nil_append,List.append_nil,List.take_zero,List.cons_append,List.take_succ_cons,List.drop_succ_cons,List.take_nil,List.drop_nil,Reg.isA,Reg.isV,Reg.stays,Reg.onto,Bool.false_or,Bool.or_false,Bool.false_and,Bool.and_false,Bool.true_and,Bool.and_true,Bool.or_true,Bool.true_or,↓reduceIte,reduceCtorEq,Nat.reduceEqDiff,Nat.reduceLT,Nat.reduceAdd,Nat.reduceMul,Nat.add_zero,Nat.zero_add,Nat.not_lt_zero,Nat.zero_ne_one,Nat.one_ne_zero,Nat.reduceLeDiff,Nat.lt_irrefl,Nat.zero_lt_succ,Bool.false_eq_true,Bool.not_true,Bool.not_false,Option.map_some,Option.map_none,Option.bind_some,Option.getD_some,Option.getD_none,and_self,and_true,true_and,List.length_cons,List.length_nil,List.any_nil,List.any_cons,Int.toNat_natCast,Int.cast_ofNat_Int,Int.natCast_zero,Int.natCast_nonneg,true_implies,or_true,true_or,false_or,or_false,beq_self_eq_true,Option.some.injEq,exists_eq_left',Int.reduceEq,Int.reduceLT,Int.reduceLE,Int.reduceGT,Int.reduceGE,Nat.reduceGT,Int.reduceNeg,Int.reduceToNat,Int.reduceAdd,Int.reduceMul,Int.reduceSub,Int.reducePow,decide_true,decide_false,decide_eq_true_eq,List.getElem?_cons_zero,List.getElem?_cons_succ,Nat.reduceBEq,Nat.reduceSub,exists_false,and_false,false_and,xu,List.set_cons_zero,List.set_cons_succ,wrap_i64,int_lt_t,int_lt_f,int_le_t,int_le_f,int_gt_t,int_gt_f,int_ge_t,int_ge_f,int_eq_t,int_eq_f,int_beq_t,int_beq_f,int_bne_t,int_bne_f,nat_le_t,nat_le_f,Nat.sub_zero,Nat.sub_self,not_false_eq_true,not_true_eq_false,hi8,q1,Nat.mul_one,p0,m0,u1,show lenSl .nils = some 0 from rfl]
        refine wpi_loop (fun k r g2 => r = [(0, .val (.ptr p 2 0 0)), (2, .val (.int .i64 least)), (7, .val (.ptr pr 1 0 0)), (32, .val (.agg (intsOf .u32 s))), (33, .val (.int .i64 i)), (44, .val .nils), (45, .val (.int .i64 0)), (46, .val (.int .i64 0))] ∧ g2 = g') 0 (by omega) ⟨rfl, rfl⟩ ?_
        rintro k r g2 ⟨rfl, rfl⟩
        simp (maxSteps := 2000000) (discharger := omega) only [xc,xo,xr,x0,x1,x2,x3,x4,x5,x6,xd,xe,xb,kont_call,kont_pure,kont_round,isNil,slOk,sliceV,selems,srcElems,copyTo,dlen,eqAV,eqCells,eqS,wr,place,partVals,partEs,placeEs,mapOf,keyOk,keyCells,findK,Bool.bne_false,Bool.bne_true,List.drop_zero,List.nil_append,List.append_nil,List.take_zero,List.cons_append,List.take_succ_cons,List.drop_succ_cons,List.take_nil,List.drop_nil,Reg.isA,Reg.isV,Reg.stays,Reg.onto,Bool.false_or,Bool.or_false,Bool.false_and,Bool.and_false,Bool.true_and,Bool.and_true,Bool.or_true,Bool.true_or,↓reduceIte,reduceCtorEq,Nat.reduceEqDiff,Nat.reduceLT,Nat.reduceAdd,Nat.reduceMul,Nat.add_zero,Nat.zero_add,Nat.not_lt_zero,Nat.zero_ne_one,Nat.one_ne_zero,Nat.reduceLeDiff,Nat.lt_irrefl,Nat.zero_lt_succ,Bool.false_eq_true,Bool.not_true,Bool.not_false,Option.map_some,Option.map_none,Option.bind_some,Option.getD_some,Option.getD_none,and_self,and_true,true_and,List.length_cons,List.length_nil,List.any_nil,List.any_cons,Int.toNat_natCast,Int.cast_ofNat_Int,Int.natCast_zero,Int.natCast_nonneg,true_implies,or_true,true_or,false_or,or_false,beq_self_eq_true,Option.some.injEq,exists_eq_left',Int.reduceEq,Int.reduceLT,Int.reduceLE,Int.reduceGT,Int.reduceGE,Nat.reduceGT,Int.reduceNeg,Int.reduceToNat,Int.reduceAdd,Int.reduceMul,Int.reduceSub,Int.reducePow,decide_true,decide_false,decide_eq_true_eq,List.getElem?_cons_zero,List.getElem?_cons_succ,Nat.reduceBEq,Nat.reduceSub,exists_false,and_false,false_and,xu,List.set_cons_zero,List.set_cons_succ,wrap_i64,int_lt_t,int_lt_f,int_le_t,int_le_f,int_gt_t,int_gt_f,int_ge_t,int_ge_f,int_eq_t,int_eq_f,int_beq_t,int_beq_f,int_bne_t,int_bne_f,nat_le_t,nat_le_f,Nat.sub_zero,Nat.sub_self,not_false_eq_true,not_true_eq_false]
        refine ⟨8 - (i + 1), by omega, i + 1, R, cR, rfl, by omega, rfl, N1, ⟨fun c hc => ?_, I1.sub, I1.all⟩⟩
        rw [I1.val c hc, stp c hc, e1]
        simp
      · rw [← hks] at e2 e3
        obtain ⟨j1, u1, _⟩ := findK_yes (ev := vid) sEnc 0 e2
        rw [Nat.zero_add] at u1
        have vv : vid (AV.row id 32 0 ks.length false) = .row id 32 0 ks.length false := rfl
        simp (maxSteps := 2000000) (discharger := omega) only [xc,xo,xr,x0,x1,x2,x3,x4,x5,x6,xd,xe,xb,kont_call,kont_pure,kont_round,isNil,slOk,sliceV,selems,srcElems,copyTo,dlen,eqAV,eqCells,eqS,wr,place,partVals,partEs,placeEs,mapOf,keyOk,keyCells,findK,Bool.bne_false,Bool.bne_true,List.drop_zero,List.nil_append,List.append_nil,List.take_zero,List.cons_append,List.take_succ_cons,List.drop_succ_cons,List.take_nil,List.drop_nil,Reg.isA,Reg.isV,Reg.stays,Reg.onto,Bool.false_or,Bool.or_false,Bool.false_and,Bool.and_false,Bool.true_and,Bool.and_true,Bool.or_true,Bool.true_or,↓reduceIte,reduceCtorEq,Nat.reduceEqDiff,Nat.reduceLT,Nat.reduceAdd,Nat.reduceMul,Nat.add_zero,Nat.zero_add,Nat.not_lt_zero,Nat.zero_ne_one,Nat.one_ne_zero,Nat.reduceLeDiff,Nat.lt_irrefl,Nat.zero_lt_succ,Bool.false_eq_true,Bool.not_true,Bool.not_false,Option.map_some,Option.map_none,Option.bind_some,Option.getD_some,Option.getD_none,and_self,and_true,true_and,List.length_cons,List.length_nil,List.any_nil,List.any_cons,Int.toNat_natCast,Int.cast_ofNat_Int,Int.natCast_zero,Int.natCast_nonneg,true_implies,or_true,true_or,false_or,or_false,beq_self_eq_true,Option.some.injEq,exists_eq_left',Int.reduceEq,Int.reduceLT,Int.reduceLE,Int.reduceGT,Int.reduceGE,Nat.reduceGT,Int.reduceNeg,Int.reduceToNat,Int.reduceAdd,Int.reduceMul,Int.reduceSub,Int.reducePow,decide_true,decide_false,decide_eq_true_eq,List.getElem?_cons_zero,List.getElem?_cons_succ,Nat.reduceBEq,Nat.reduceSub,exists_false,and_false,false_and,xu,List.set_cons_zero,List.set_cons_succ,wrap_i64,int_lt_t,int_lt_f,int_le_t,int_le_f,int_gt_t,int_gt_f,int_ge_t,int_ge_f,int_eq_t,int_eq_f,int_beq_t,int_beq_f,int_bne_t,int_bne_f,nat_le_t,nat_le_f,Nat.sub_zero,Nat.sub_self,not_false_eq_true,not_true_eq_false,hi8,q1,Nat.mul_one,p0,m0,u1,vv,show ∀ m,lenSl (.row id 32 0 m false) = some m from fun m => rfl]
        refine wpi_loop (fun k r g2 => ∃ (j : Nat) (R : Rows) (cR : Nat), r = [(0, .val (.ptr p 2 0 0)), (2, .val (.int .i64 least)), (7, .val (.ptr pr 1 0 0)), (32, .val (.agg (intsOf .u32 s))), (33, .val (.int .i64 i)), (44, .val (.row id 32 0 ks.length false)), (45, .val (.int .i64 ks.length)), (46, .val (.int .i64 j))] ∧ j ≤ ks.length ∧ k = ks.length - j ∧ NI h g2 pr mr R cR ∧
          g2[id]? = some (.row 32 (kAs ks ++ post)) ∧ RI R l least (fun c => al c.2 s i + if c.1 ∈ ks.take j then 1 else 0)) ks.length (by omega) ⟨0, R, cR, rfl, by omega, by omega, N1, e3, ⟨fun c hc => by rw [I1.val c hc]; simp, I1.sub, I1.all⟩⟩ ?_
        rintro k r g2 ⟨j, R2, cR2, rfl, hj, rfl, N2, r2, I2⟩
        by_cases hlj : j < ks.length
        · obtain ⟨b, hb⟩ : ∃ b, b = ks[j] := ⟨_, rfl⟩
          have q2 : (kAs ks ++ post)[j]? = some (.agg (kCs b)) := by rw [List.getElem?_append_left (by rw [kAs_len]; exact hlj), hb]; exact kAs_get hlj
          have hbm : b ∈ ks := by rw [hb]; exact List.getElem_mem hlj
          have hbl : ∃ c ∈ l, c.1 = b := by
            rw [hks] at hbm
            obtain ⟨c, h1, h2, _⟩ := ka_mem.1 hbm
            exact ⟨c, h1, h2⟩
          have hcb : 0 ≤ cnt R2 b ∧ cnt R2 b ≤ 9 := by
            obtain ⟨c, h1, rfl⟩ := hbl
            rw [I2.val c h1]
            have := al_le c.2 s i
            split <;> omega
          have p2 := N2.pt
          have m2 := N2.mp.hp
          obtain ⟨R3, hR3⟩ : ∃ R3, R3 = tput R2 b (cnt R2 b + 1) cR2 := ⟨_, rfl⟩
          have I3 : RI R3 l least (fun c => al c.2 s i + if c.1 ∈ ks.take (j + 1) then 1 else 0) := by rw [hR3, hb]; exact I2.inc hlj hksn (by rw [← hb]; exact hbl)
          have hpm : pr ≠ mr := fun e => by rw [e, m2] at p2; cases p2
          have him : id ≠ mr := fun e => by rw [e, m2] at r2; cases r2
          have hml : mr < g2.length := N2.mp.lt
          suffices hx : ∀ (cR3 : Nat) (g3 : Hp), g3 = g2.set mr (.map (encE kk iv64 R3) cR3) → MapH g3 mr kk iv64 R3 cR3 → ∃ j_1, j_1 < ks.length - j ∧ ∃ (j' : Nat) (R : Rows) (cR : Nat), [(0, Reg.val (.ptr p 2 0 0)), (2, .val (.int .i64 least)), (7, .val (.ptr pr 1 0 0)), (32, .val (.agg (intsOf .u32 s))), (33, .val (.int .i64 i)), (44, .val (.row id 32 0 ks.length false)), (45, .val (.int .i64 ks.length)), (46, .val (.int .i64 ((j : Nat) + 1 : Int)))] = [(0, Reg.val (.ptr p 2 0 0)), (2, .val (.int .i64 least)), (7, .val (.ptr pr 1 0 0)), (32, .val (.agg (intsOf .u32 s))), (33, .val (.int .i64 i)), (44, .val (.row id 32 0 ks.length false)), (45, .val (.int .i64 ks.length)), (46, .val (.int .i64 j'))] ∧ j' ≤ ks.length ∧ j_1 = ks.length - j' ∧ NI h g3 pr mr R cR ∧
              g3[id]? = some (.row 32 (kAs ks ++ post)) ∧ RI R l least (fun c => al c.2 s i + if c.1 ∈ ks.take j' then 1 else 0) by
            cases hg : tget R2 b with
            | none =>
              have hc0 : cnt R2 b = 0 := by simp [cnt,hg]
              have f1 := findK_no (ev := iv64) kEnc 0 hg
              obtain ⟨Rz, hRz⟩ : ∃ Rz, Rz = tput R2 b 0 cR2 := ⟨_, rfl⟩
              have hg0 : tget Rz b = some 0 := by rw [hRz, tget_put, if_pos rfl]
              obtain ⟨jz, f2, _⟩ := findK_yes (ev := iv64) kEnc 0 hg0
              have en := encE_snoc R2 b 0 cR2
              rw [← tput_new hg, ← hRz] at en
              obtain ⟨y1, y2⟩ := N2.mp.entNo (ek := kk) (ev := iv64) (k := b) (iv64 0)
              have y2 := y2 1
              rw [en] at y1 y2
              rw [encE_snoc R2 b 1 cR2, ← tput_new hg] at y2
              rw [hc0, Int.zero_add] at hR3
              rw [← hR3] at y2
              obtain ⟨gz, hgz⟩ : ∃ gz, gz = g2.set mr (.map (encE kk iv64 Rz) (cR2 + 1)) := ⟨_, rfl⟩
              have mz : gz[mr]? = some (.map (encE kk iv64 Rz) (cR2 + 1)) := by rw [hgz]; simp [hml]
              obtain ⟨g3, hg3⟩ : ∃ g3, g3 = gz.set mr (.map (encE kk iv64 R3) (cR2 + 1)) := ⟨_, rfl⟩
              have ad := N2.mp.add hg 1
              rw [encE_snoc, ← tput_new hg, ← hR3] at ad
              have hg3' : g3 = g2.set mr (.map (encE kk iv64 R3) (cR2 + 1)) := by rw [hg3, hgz, List.set_set]
              rw [← hg3'] at ad
              have hx := hx (cR2 + 1) g3 hg3' ad
              simp (maxSteps := 2000000) (discharger := omega) only [xc,xo,xr,x0,x1,x2,x3,x4,x5,x6,xd,xe,xb,kont_call,kont_pure,kont_round,isNil,slOk,sliceV,selems,srcElems,copyTo,dlen,eqAV,eqCells,eqS,wr,place,partVals,partEs,placeEs,mapOf,keyOk,keyCells,findK,Bool.bne_false,Bool.bne_true,List.drop_zero,List.nil_append,List.append_nil,List.take_zero,List.cons_append,List.take_succ_cons,List.drop_succ_cons,List.take_nil,List.drop_nil,Reg.isA,Reg.isV,Reg.stays,Reg.onto,Bool.false_or,Bool.or_false,Bool.false_and,Bool.and_false,Bool.true_and,Bool.and_true,Bool.or_true,Bool.true_or,↓reduceIte,reduceCtorEq,Nat.reduceEqDiff,Nat.reduceLT,Nat.reduceAdd,Nat.reduceMul,Nat.add_zero,Nat.zero_add,Nat.not_lt_zero,Nat.zero_ne_one,Nat.one_ne_zero,Nat.reduceLeDiff,Nat.lt_irrefl,Nat.zero_lt_succ,Bool.false_eq_true,Bool.not_true,Bool.not_false,Option.map_some,Option.map_none,Option.bind_some,Option.getD_some,Option.getD_none,and_self,and_true,true_and,List.length_cons,List.length_nil,List.any_nil,List.any_cons,Int.toNat_natCast,Int.cast_ofNat_Int,Int.natCast_zero,Int.natCast_nonneg,true_implies,or_true,true_or,false_or,or_false,beq_self_eq_true,Option.some.injEq,exists_eq_left',Int.reduceEq,Int.reduceLT,Int.reduceLE,Int.reduceGT,Int.reduceGE,Nat.reduceGT,Int.reduceNeg,Int.reduceToNat,Int.reduceAdd,Int.reduceMul,Int.reduceSub,Int.reducePow,decide_true,decide_false,decide_eq_true_eq,List.getElem?_cons_zero,List.getElem?_cons_succ,Nat.reduceBEq,Nat.reduceSub,exists_false,and_false,false_and,xu,List.set_cons_zero,List.set_cons_succ,wrap_i64,int_lt_t,int_lt_f,int_le_t,int_le_f,int_gt_t,int_gt_f,int_ge_t,int_ge_f,int_eq_t,int_eq_f,int_beq_t,int_beq_f,int_bne_t,int_bne_f,nat_le_t,nat_le_f,Nat.sub_zero,Nat.sub_self,not_false_eq_true,not_true_eq_false,hi8,Nat.mul_one,r2,q2,kCs_len,kCs_take,kCs_drop,kCs_key,p2,m2,f1,f2,en,← hgz,mz,y1,y2,← hg3,w_regionA2,inOrd,List.filterMap_cons,List.filterMap_nil,Is]
              exact hx
            | some a =>
              have hc0 : cnt R2 b = a := by simp [cnt,hg]
              rw [hc0] at hR3 hcb
              obtain ⟨jz, bz, f1, y0, ym, y1, y2, _⟩ := N2.mp.entYes kEnc hg
              have y2 := y2 (a + 1) cR2
              rw [← hR3] at y2
              have hsame : g2.set mr (.map (encE kk iv64 R2) cR2) = g2 := by
                apply List.ext_getElem?
                intro q
                rw [List.getElem?_set]
                split
                · rename_i e; subst e; rw [m2]
                · rfl
              obtain ⟨g3, hg3⟩ : ∃ g3, g3 = g2.set mr (.map (encE kk iv64 R3) cR2) := ⟨_, rfl⟩
              have ad := N2.mp.put (k := b) (by rw [hg]; simp) (a + 1)
              rw [← hR3, ← hg3] at ad
              have hx := hx cR2 g3 hg3 ad
              simp (maxSteps := 2000000) (discharger := omega) only [xc,xo,xr,x0,x1,x2,x3,x4,x5,x6,xd,xe,xb,kont_call,kont_pure,kont_round,isNil,slOk,sliceV,selems,srcElems,copyTo,dlen,eqAV,eqCells,eqS,wr,place,partVals,partEs,placeEs,mapOf,keyOk,keyCells,findK,Bool.bne_false,Bool.bne_true,List.drop_zero,List.nil_append,List.append_nil,List.take_zero,List.cons_append,List.take_succ_cons,List.drop_succ_cons,List.take_nil,List.drop_nil,Reg.isA,Reg.isV,Reg.stays,Reg.onto,Bool.false_or,Bool.or_false,Bool.false_and,Bool.and_false,Bool.true_and,Bool.and_true,Bool.or_true,Bool.true_or,↓reduceIte,reduceCtorEq,Nat.reduceEqDiff,Nat.reduceLT,Nat.reduceAdd,Nat.reduceMul,Nat.add_zero,Nat.zero_add,Nat.not_lt_zero,Nat.zero_ne_one,Nat.one_ne_zero,Nat.reduceLeDiff,Nat.lt_irrefl,Nat.zero_lt_succ,Bool.false_eq_true,Bool.not_true,Bool.not_false,Option.map_some,Option.map_none,Option.bind_some,Option.getD_some,Option.getD_none,and_self,and_true,true_and,List.length_cons,List.length_nil,List.any_nil,List.any_cons,Int.toNat_natCast,Int.cast_ofNat_Int,Int.natCast_zero,Int.natCast_nonneg,true_implies,or_true,true_or,false_or,or_false,beq_self_eq_true,Option.some.injEq,exists_eq_left',Int.reduceEq,Int.reduceLT,Int.reduceLE,Int.reduceGT,Int.reduceGE,Nat.reduceGT,Int.reduceNeg,Int.reduceToNat,Int.reduceAdd,Int.reduceMul,Int.reduceSub,Int.reducePow,decide_true,decide_false,decide_eq_true_eq,List.getElem?_cons_zero,List.getElem?_cons_succ,Nat.reduceBEq,Nat.reduceSub,exists_false,and_false,false_and,xu,List.set_cons_zero,List.set_cons_succ,wrap_i64,int_lt_t,int_lt_f,int_le_t,int_le_f,int_gt_t,int_gt_f,int_ge_t,int_ge_f,int_eq_t,int_eq_f,int_beq_t,int_beq_f,int_bne_t,int_bne_f,nat_le_t,nat_le_f,Nat.sub_zero,Nat.sub_self,not_false_eq_true,not_true_eq_false,hi8,Nat.mul_one,r2,q2,kCs_len,kCs_take,kCs_drop,kCs_key,p2,m2,f1,y0,ym,hsame,y1,y2,← hg3,w_regionA2,inOrd,List.filterMap_cons,List.filterMap_nil,Is]
              exact hx
          intro cR3 g3 hg3 M3
          refine ⟨ks.length - (j + 1), by omega, j + 1, R3, cR3, rfl, by omega, rfl, ?_, ?_, I3⟩
          · rw [hg3] at M3 ⊢
            exact N2.upd M3
          · rw [hg3, List.getElem?_set, if_neg (Ne.symm him)]; exact r2
        · obtain rfl : j = ks.length := by omega
          simp (maxSteps := 2000000) (discharger := omega) only [xc,xo,xr,x0,x1,x2,x3,x4,x5,x6,xd,xe,xb,kont_call,kont_pure,kont_round,isNil,slOk,sliceV,selems,srcElems,copyTo,dlen,eqAV,eqCells,eqS,wr,place,partVals,partEs,placeEs,mapOf,keyOk,keyCells,findK,Bool.bne_false,Bool.bne_true,List.drop_zero,List.nil_append,List.append_nil,List.take_zero,List.cons_append,List.take_succ_cons,List.drop_succ_cons,List.take_nil,List.drop_nil,Reg.isA,Reg.isV,Reg.stays,Reg.onto,Bool.false_or,Bool.or_false,Bool.false_and,Bool.and_false,Bool.true_and,Bool.and_true,Bool.or_true,Bool.true_or,↓reduceIte,reduceCtorEq,Nat.reduceEqDiff,Nat.reduceLT,Nat.reduceAdd,Nat.reduceMul,Nat.add_zero,Nat.zero_add,Nat.not_lt_zero,Nat.zero_ne_one,Nat.one_ne_zero,Nat.reduceLeDiff,Nat.lt_irrefl,Nat.zero_lt_succ,Bool.false_eq_true,Bool.not_true,Bool.not_false,Option.map_some,Option.map_none,Option.bind_some,Option.getD_some,Option.getD_none,and_self,and_true,true_and,List.length_cons,List.length_nil,List.any_nil,List.any_cons,Int.toNat_natCast,Int.cast_ofNat_Int,Int.natCast_zero,Int.natCast_nonneg,true_implies,or_true,true_or,false_or,or_false,beq_self_eq_true,Option.some.injEq,exists_eq_left',Int.reduceEq,Int.reduceLT,Int.reduceLE,Int.reduceGT,Int.reduceGE,Nat.reduceGT,Int.reduceNeg,Int.reduceToNat,Int.reduceAdd,Int.reduceMul,Int.reduceSub,Int.reducePow,decide_true,decide_false,decide_eq_true_eq,List.getElem?_cons_zero,List.getElem?_cons_succ,Nat.reduceBEq,Nat.reduceSub,exists_false,and_false,false_and,xu,List.set_cons_zero,List.set_cons_succ,wrap_i64,int_lt_t,int_lt_f,int_le_t,int_le_f,int_gt_t,int_gt_f,int_ge_t,int_ge_f,int_eq_t,int_eq_f,int_beq_t,int_beq_f,int_bne_t,int_bne_f,nat_le_t,nat_le_f,Nat.sub_zero,Nat.sub_self,not_false_eq_true,not_true_eq_false]
          refine ⟨8 - (i + 1), by omega, i + 1, R2, cR2, rfl, by omega, rfl, N2, ⟨fun c hc => ?_, I2.sub, I2.all⟩⟩
          rw [I2.val c hc, stp c hc, List.take_length]
    · obtain rfl : i = 8 := by omega
      simp (maxSteps := 2000000) (discharger := omega) only [xc,xo,xr,x0,x1,x2,x3,x4,x5,x6,xd,xe,xb,kont_call,kont_pure,kont_round,isNil,slOk,sliceV,selems,srcElems,copyTo,dlen,eqAV,eqCells,eqS,wr,place,partVals,partEs,placeEs,mapOf,keyOk,keyCells,findK,Bool.bne_false,Bool.bne_true,List.drop_zero,List.nil_append,List.append_nil,List.take_zero,List.cons_append,List.take_succ_cons,List.drop_succ_cons,List.take_nil,List.drop_nil,Reg.isA,Reg.isV,Reg.stays,Reg.onto,Bool.false_or,Bool.or_false,Bool.false_and,Bool.and_false,Bool.true_and,Bool.and_true,Bool.or_true,Bool.true_or,↓reduceIte,reduceCtorEq,Nat.reduceEqDiff,Nat.reduceLT,Nat.reduceAdd,Nat.reduceMul,Nat.add_zero,Nat.zero_add,Nat.not_lt_zero,Nat.zero_ne_one,Nat.one_ne_zero,Nat.reduceLeDiff,Nat.lt_irrefl,Nat.zero_lt_succ,Bool.false_eq_true,Bool.not_true,Bool.not_false,Option.map_some,Option.map_none,Option.bind_some,Option.getD_some,Option.getD_none,and_self,and_true,true_and,List.length_cons,List.length_nil,List.any_nil,List.any_cons,Int.toNat_natCast,Int.cast_ofNat_Int,Int.natCast_zero,Int.natCast_nonneg,true_implies,or_true,true_or,false_or,or_false,beq_self_eq_true,Option.some.injEq,exists_eq_left',Int.reduceEq,Int.reduceLT,Int.reduceLE,Int.reduceGT,Int.reduceGE,Nat.reduceGT,Int.reduceNeg,Int.reduceToNat,Int.reduceAdd,Int.reduceMul,Int.reduceSub,Int.reducePow,decide_true,decide_false,decide_eq_true_eq,List.getElem?_cons_zero,List.getElem?_cons_succ,Nat.reduceBEq,Nat.reduceSub,exists_false,and_false,false_and,xu,List.set_cons_zero,List.set_cons_succ,wrap_i64,int_lt_t,int_lt_f,int_le_t,int_le_f,int_gt_t,int_gt_f,int_ge_t,int_ge_f,int_eq_t,int_eq_f,int_beq_t,int_beq_f,int_bne_t,int_bne_f,nat_le_t,nat_le_f,Nat.sub_zero,Nat.sub_self,not_false_eq_true,not_true_eq_false]
      exact ⟨⟨_, _, _, rfl⟩, R, cR, N1, I1⟩
  rcases hex with ⟨z, rfl⟩ | ⟨z1, z2, rfl⟩
  · simp (maxSteps := 2000000) (discharger := omega) only [xc,xo,xr,x0,x1,x2,x3,x4,x5,x6,xd,xe,xb,kont_call,kont_pure,kont_round,isNil,slOk,sliceV,selems,srcElems,copyTo,dlen,eqAV,eqCells,eqS,wr,place,partVals,partEs,placeEs,mapOf,keyOk,keyCells,findK,Bool.bne_false,Bool.bne_true,List.drop_zero,List.nil_append,List.append_nil,List.take_zero,List.cons_append,List.take_succ_cons,List.drop_succ_cons,List.take_nil,List.drop_nil,Reg.isA,Reg.isV,Reg.stays,Reg.onto,Bool.false_or,Bool.or_false,Bool.false_and,Bool.and_false,Bool.true_and,Bool.and_true,Bool.or_true,Bool.true_or,↓reduceIte,reduceCtorEq,Nat.reduceEqDiff,Nat.reduceLT,Nat.reduceAdd,Nat.reduceMul,Nat.add_zero,Nat.zero_add,Nat.not_lt_zero,Nat.zero_ne_one,Nat.one_ne_zero,Nat.reduceLeDiff,Nat.lt_irrefl,Nat.zero_lt_succ,Bool.false_eq_true,Bool.not_true,Bool.not_false,Option.map_some,Option.map_none,Option.bind_some,Option.getD_some,Option.getD_none,and_self,and_true,true_and,List.length_cons,List.length_nil,List.any_nil,List.any_cons,Int.toNat_natCast,Int.cast_ofNat_Int,Int.natCast_zero,Int.natCast_nonneg,true_implies,or_true,true_or,false_or,or_false,beq_self_eq_true,Option.some.injEq,exists_eq_left',Int.reduceEq,Int.reduceLT,Int.reduceLE,Int.reduceGT,Int.reduceGE,Nat.reduceGT,Int.reduceNeg,Int.reduceToNat,Int.reduceAdd,Int.reduceMul,Int.reduceSub,Int.reducePow,decide_true,decide_false,decide_eq_true_eq,List.getElem?_cons_zero,List.getElem?_cons_succ,Nat.reduceBEq,Nat.reduceSub,exists_false,and_false,false_and,xu,List.set_cons_zero,List.set_cons_succ,wrap_i64,int_lt_t,int_lt_f,int_le_t,int_le_f,int_gt_t,int_gt_f,int_ge_t,int_ge_f,int_eq_t,int_eq_f,int_beq_t,int_beq_f,int_bne_t,int_bne_f,nat_le_t,nat_le_f,Nat.sub_zero,Nat.sub_self,not_false_eq_true,not_true_eq_false,hi8,ht8,hd8]
    simp only [secC,w18b] at fin
    simp (maxSteps := 2000000) (discharger := omega) only [xc,xo,xr,x0,x1,x2,x3,x4,x5,x6,xd,xe,xb,kont_call,kont_pure,kont_round,isNil,slOk,sliceV,selems,srcElems,copyTo,dlen,eqAV,eqCells,eqS,wr,place,partVals,partEs,placeEs,mapOf,keyOk,keyCells,findK,Bool.bne_false,Bool.bne_true,List.drop_zero,List.nil_append,List.append_nil,List.take_zero,List.cons_append,List.take_succ_cons,List.drop_succ_cons,List.take_nil,List.drop_nil,Reg.isA,Reg.isV,Reg.stays,Reg.onto,Bool.false_or,Bool.or_false,Bool.false_and,Bool.and_false,Bool.true_and,Bool.and_true,Bool.or_true,Bool.true_or,↓reduceIte,reduceCtorEq,Nat.reduceEqDiff,Nat.reduceLT,Nat.reduceAdd,Nat.reduceMul,Nat.add_zero,Nat.zero_add,Nat.not_lt_zero,Nat.zero_ne_one,Nat.one_ne_zero,Nat.reduceLeDiff,Nat.lt_irrefl,Nat.zero_lt_succ,Bool.false_eq_true,Bool.not_true,Bool.not_false,Option.map_some,Option.map_none,Option.bind_some,Option.getD_some,Option.getD_none,and_self,and_true,true_and,List.length_cons,List.length_nil,List.any_nil,List.any_cons,Int.toNat_natCast,Int.cast_ofNat_Int,Int.natCast_zero,Int.natCast_nonneg,true_implies,or_true,true_or,false_or,or_false,beq_self_eq_true,Option.some.injEq,exists_eq_left',Int.reduceEq,Int.reduceLT,Int.reduceLE,Int.reduceGT,Int.reduceGE,Nat.reduceGT,Int.reduceNeg,Int.reduceToNat,Int.reduceAdd,Int.reduceMul,Int.reduceSub,Int.reducePow,decide_true,decide_false,decide_eq_true_eq,List.getElem?_cons_zero,List.getElem?_cons_succ,Nat.reduceBEq,Nat.reduceSub,exists_false,and_false,false_and,xu,List.set_cons_zero,List.set_cons_succ,wrap_i64,int_lt_t,int_lt_f,int_le_t,int_le_f,int_gt_t,int_gt_f,int_ge_t,int_ge_f,int_eq_t,int_eq_f,int_beq_t,int_beq_f,int_bne_t,int_bne_f,nat_le_t,nat_le_f,Nat.sub_zero,Nat.sub_self,not_false_eq_true,not_true_eq_false] at fin
    exact fin
  · simp (maxSteps := 2000000) (discharger := omega) only [xc,xo,xr,x0,x1,x2,x3,x4,x5,x6,xd,xe,xb,kont_call,kont_pure,kont_round,isNil,slOk,sliceV,selems,srcElems,copyTo,dlen,eqAV,eqCells,eqS,wr,place,partVals,partEs,placeEs,mapOf,keyOk,keyCells,findK,Bool.bne_false,Bool.bne_true,List.drop_zero,List.nil_append,List.append_nil,List.take_zero,List.cons_append,List.take_succ_cons,List.drop_succ_cons,List.take_nil,List.drop_nil,Reg.isA,Reg.isV,Reg.stays,Reg.onto,Bool.false_or,Bool.or_false,Bool.false_and,Bool.and_false,Bool.true_and,Bool.and_true,Bool.or_true,Bool.true_or,↓reduceIte,reduceCtorEq,Nat.reduceEqDiff,Nat.reduceLT,Nat.reduceAdd,Nat.reduceMul,Nat.add_zero,Nat.zero_add,Nat.not_lt_zero,Nat.zero_ne_one,Nat.one_ne_zero,Nat.reduceLeDiff,Nat.lt_irrefl,Nat.zero_lt_succ,Bool.false_eq_true,Bool.not_true,Bool.not_false,Option.map_some,Option.map_none,Option.bind_some,Option.getD_some,Option.getD_none,and_self,and_true,true_and,List.length_cons,List.length_nil,List.any_nil,List.any_cons,Int.toNat_natCast,Int.cast_ofNat_Int,Int.natCast_zero,Int.natCast_nonneg,true_implies,or_true,true_or,false_or,or_false,beq_self_eq_true,Option.some.injEq,exists_eq_left',Int.reduceEq,Int.reduceLT,Int.reduceLE,Int.reduceGT,Int.reduceGE,Nat.reduceGT,Int.reduceNeg,Int.reduceToNat,Int.reduceAdd,Int.reduceMul,Int.reduceSub,Int.reducePow,decide_true,decide_false,decide_eq_true_eq,List.getElem?_cons_zero,List.getElem?_cons_succ,Nat.reduceBEq,Nat.reduceSub,exists_false,and_false,false_and,xu,List.set_cons_zero,List.set_cons_succ,wrap_i64,int_lt_t,int_lt_f,int_le_t,int_le_f,int_gt_t,int_gt_f,int_ge_t,int_ge_f,int_eq_t,int_eq_f,int_beq_t,int_beq_f,int_bne_t,int_bne_f,nat_le_t,nat_le_f,Nat.sub_zero,Nat.sub_self,not_false_eq_true,not_true_eq_false,hi8,ht8,hd8]
    simp only [secC,w18b] at fin
    simp (maxSteps := 2000000) (discharger := omega) only [xc,xo,xr,x0,x1,x2,x3,x4,x5,x6,xd,xe,xb,kont_call,kont_pure,kont_round,isNil,slOk,sliceV,selems,srcElems,copyTo,dlen,eqAV,eqCells,eqS,wr,place,partVals,partEs,placeEs,mapOf,keyOk,keyCells,findK,Bool.bne_false,Bool.bne_true,List.drop_zero,List.nil_append,List.append_nil,List.take_zero,List.cons_append,List.take_succ_cons,List.drop_succ_cons,List.take_nil,List.drop_nil,Reg.isA,Reg.isV,Reg.stays,Reg.onto,Bool.false_or,Bool.or_false,Bool.false_and,Bool.and_false,Bool.true_and,Bool.and_true,Bool.or_true,Bool.true_or,↓reduceIte,reduceCtorEq,Nat.reduceEqDiff,Nat.reduceLT,Nat.reduceAdd,Nat.reduceMul,Nat.add_zero,Nat.zero_add,Nat.not_lt_zero,Nat.zero_ne_one,Nat.one_ne_zero,Nat.reduceLeDiff,Nat.lt_irrefl,Nat.zero_lt_succ,Bool.false_eq_true,Bool.not_true,Bool.not_false,Option.map_some,Option.map_none,Option.bind_some,Option.getD_some,Option.getD_none,and_self,and_true,true_and,List.length_cons,List.length_nil,List.any_nil,List.any_cons,Int.toNat_natCast,Int.cast_ofNat_Int,Int.natCast_zero,Int.natCast_nonneg,true_implies,or_true,true_or,false_or,or_false,beq_self_eq_true,Option.some.injEq,exists_eq_left',Int.reduceEq,Int.reduceLT,Int.reduceLE,Int.reduceGT,Int.reduceGE,Nat.reduceGT,Int.reduceNeg,Int.reduceToNat,Int.reduceAdd,Int.reduceMul,Int.reduceSub,Int.reducePow,decide_true,decide_false,decide_eq_true_eq,List.getElem?_cons_zero,List.getElem?_cons_succ,Nat.reduceBEq,Nat.reduceSub,exists_false,and_false,false_and,xu,List.set_cons_zero,List.set_cons_succ,wrap_i64,int_lt_t,int_lt_f,int_le_t,int_le_f,int_gt_t,int_gt_f,int_ge_t,int_ge_f,int_eq_t,int_eq_f,int_beq_t,int_beq_f,int_bne_t,int_bne_f,nat_le_t,nat_le_f,Nat.sub_zero,Nat.sub_self,not_false_eq_true,not_true_eq_false] at fin
    exact fin
end Go.Proofs.Ytdjlcddkfjbebaa.Im

/- S18J: what is found in a book is gathered. -/
set_option linter.unusedVariables false
set_option linter.unusedSimpArgs false
open Go Go.Im
namespace Go.Proofs.Ytdjlcddkfjbebaa.Im

theorem nodup_len {α : Type} [DecidableEq α] : ∀ {a b : List α}, a.Nodup → (∀ x ∈ a, x ∈ b) → a.length ≤ b.length
  | [], b, _, _ => Nat.zero_le _
  | x :: a, b, hn, hs => by
    simp only [List.nodup_cons] at hn
    have hx := hs x (by simp)
    have := nodup_len (a := a) (b := b.erase x) hn.2 fun y hy => (List.mem_erase_of_ne (fun e => hn.1 (by rw [← e]; exact hy))).2 (hs y (by simp [hy]))
    rw [List.length_erase_of_mem hx] at this
    have := List.length_pos_of_mem hx
    simp only [List.length_cons]
    omega

theorem keepR_kt {lo sz : Nat} {g g' : Hp} (k : KeepR lo sz g g') : KT g g' := fun i z e h => k.2 i _ h (.inr fun es h => by cases h)

def RC (r : Regs) (least : Int) (pr : Nat) (v : AV) (i : Nat) : Prop := r = [(2, .val (.int .i64 least)), (7, .val (.ptr pr 1 0 0)), (13, .val v), (59, .val (.ptr i 0 0 0))] ∨ ∃ z z2, r = [(2, .val (.int .i64 least)), (7, .val (.ptr pr 1 0 0)), (13, .val v), (14, z), (59, .val (.ptr i 0 0 0)), (67, z2)]

theorem rc_next {K : Kont} {n i pr : Nat} {v : AV} {r : Regs} {least : Int} {g g1 : Hp} {b : Bool} {more : List AV} {Q : AE → Regs → Hp → Prop} (R : RC r least pr v i) (e : Im.step K r g (.next (.t 59)) = some (Reg.val (.tup (.bool b :: more)), r, g1)) (q : Q .normal [(2, .val (.int .i64 least)), (7, .val (.ptr pr 1 0 0)), (13, .val v), (59, .val (.ptr i 0 0 0)), (61, .val (.bool b))] g1) :
    Wp K n (.region [] [⟨some 60, .next (.t 59), none⟩, ⟨some 61, .extract (.t 60) 0, none⟩] [2, 7, 13, 59, 61]) r g Q := by
  rcases R with rfl | ⟨z, z2, rfl⟩
  all_goals
    rw [w_region, wo_heap e, wr_some]
    simp (maxSteps := 2000000) (discharger := omega) only [xc,xo,xr,x0,x1,x2,x3,x4,x5,x6,xd,xe,xb,kont_call,kont_pure,kont_round,isNil,slOk,sliceV,selems,srcElems,copyTo,dlen,eqAV,eqCells,eqS,wr,place,partVals,partEs,placeEs,mapOf,keyOk,keyCells,findK,Bool.bne_false,Bool.bne_true,List.drop_zero,List.nil_append,List.append_nil,List.take_zero,List.cons_append,List.take_succ_cons,List.drop_succ_cons,List.take_nil,List.drop_nil,Reg.isA,Reg.isV,Reg.stays,Reg.onto,Bool.false_or,Bool.or_false,Bool.false_and,Bool.and_false,Bool.true_and,Bool.and_true,Bool.or_true,Bool.true_or,↓reduceIte,reduceCtorEq,Nat.reduceEqDiff,Nat.reduceLT,Nat.reduceAdd,Nat.reduceMul,Nat.add_zero,Nat.zero_add,Nat.not_lt_zero,Nat.zero_ne_one,Nat.one_ne_zero,Nat.reduceLeDiff,Nat.lt_irrefl,Nat.zero_lt_succ,Bool.false_eq_true,Bool.not_true,Bool.not_false,Option.map_some,Option.map_none,Option.bind_some,Option.getD_some,Option.getD_none,and_self,and_true,true_and,List.length_cons,List.length_nil,List.any_nil,List.any_cons,Int.toNat_natCast,Int.cast_ofNat_Int,Int.natCast_zero,Int.natCast_nonneg,true_implies,or_true,true_or,false_or,or_false,beq_self_eq_true,Option.some.injEq,exists_eq_left',Int.reduceEq,Int.reduceLT,Int.reduceLE,Int.reduceGT,Int.reduceGE,Nat.reduceGT,Int.reduceNeg,Int.reduceToNat,Int.reduceAdd,Int.reduceMul,Int.reduceSub,Int.reducePow,decide_true,decide_false,decide_eq_true_eq,List.getElem?_cons_zero,List.getElem?_cons_succ,Nat.reduceBEq,Nat.reduceSub,exists_false,and_false,false_and,xu,List.set_cons_zero,List.set_cons_succ,wrap_i64,int_lt_t,int_lt_f,int_le_t,int_le_f,int_gt_t,int_gt_f,int_ge_t,int_ge_f,int_eq_t,int_eq_f,int_beq_t,int_beq_f,int_bne_t,int_bne_f,nat_le_t,nat_le_f,Nat.sub_zero,Nat.sub_self,not_false_eq_true,not_true_eq_false]
    exact q
theorem RC.vl {i pr : Nat} {v : AV} {r : Regs} {least : Int} (R : RC r least pr v i) : vl r (.t 59) = some (.ptr i 0 0 0) := by
  rcases R with rfl | ⟨z, z2, rfl⟩ <;> rfl

theorem w_c {ω : Nat → Nat} {n : Nat} {pr mr : Nat} {R : Rows} {cR : Nat} (least : Int) (h g : Hp) (hR : R.length ≤ 500) (hn : 1100 ≤ n) (N : NI h g pr mr R cR) :
    Wp (kont F n true ω) n w18c [(2, .val (.int .i64 least)), (7, .val (.ptr pr 1 0 0)), (13, .val .nils)] g
      (fun e r g' => e = .normal ∧ ∃ v o z1 z2, r = [(2, .val (.int .i64 least)), (7, .val (.ptr pr 1 0 0)), (13, .val v), (59, z1), (61, z2)] ∧ NI h g' pr mr R cR ∧ RowAt g' 32 h.length (kAs o) v ∧ o.Perm ((R.filter fun t => decide (least ≤ t.2.1)).map (·.1))) := by
  unfold w18c
  have p1 := N.pt
  have m1 := N.mp.hp
  simp (maxSteps := 2000000) (discharger := omega) only [xc,xo,xr,x0,x1,x2,x3,x4,x5,x6,xd,xe,xb,kont_call,kont_pure,kont_round,isNil,slOk,sliceV,selems,srcElems,copyTo,dlen,eqAV,eqCells,eqS,wr,place,partVals,partEs,placeEs,mapOf,keyOk,keyCells,findK,Bool.bne_false,Bool.bne_true,List.drop_zero,List.nil_append,List.append_nil,List.take_zero,List.cons_append,List.take_succ_cons,List.drop_succ_cons,List.take_nil,List.drop_nil,Reg.isA,Reg.isV,Reg.stays,Reg.onto,Bool.false_or,Bool.or_false,Bool.false_and,Bool.and_false,Bool.true_and,Bool.and_true,Bool.or_true,Bool.true_or,↓reduceIte,reduceCtorEq,Nat.reduceEqDiff,Nat.reduceLT,Nat.reduceAdd,Nat.reduceMul,Nat.add_zero,Nat.zero_add,Nat.not_lt_zero,Nat.zero_ne_one,Nat.one_ne_zero,Nat.reduceLeDiff,Nat.lt_irrefl,Nat.zero_lt_succ,Bool.false_eq_true,Bool.not_true,Bool.not_false,Option.map_some,Option.map_none,Option.bind_some,Option.getD_some,Option.getD_none,and_self,and_true,true_and,List.length_cons,List.length_nil,List.any_nil,List.any_cons,Int.toNat_natCast,Int.cast_ofNat_Int,Int.natCast_zero,Int.natCast_nonneg,true_implies,or_true,true_or,false_or,or_false,beq_self_eq_true,Option.some.injEq,exists_eq_left',Int.reduceEq,Int.reduceLT,Int.reduceLE,Int.reduceGT,Int.reduceGE,Nat.reduceGT,Int.reduceNeg,Int.reduceToNat,Int.reduceAdd,Int.reduceMul,Int.reduceSub,Int.reducePow,decide_true,decide_false,decide_eq_true_eq,List.getElem?_cons_zero,List.getElem?_cons_succ,Nat.reduceBEq,Nat.reduceSub,exists_false,and_false,false_and,xu,List.set_cons_zero,List.set_cons_succ,wrap_i64,int_lt_t,int_lt_f,int_le_t,int_le_f,int_gt_t,int_gt_f,int_ge_t,int_ge_f,int_eq_t,int_eq_f,int_beq_t,int_beq_f,int_bne_t,int_bne_f,nat_le_t,nat_le_f,Nat.sub_zero,Nat.sub_self,not_false_eq_true,not_true_eq_false,p1,m1]
  refine wpi_loop (fun m r g' => ∃ (seen : List Nat) (v : AV) (o : List Int), RC r least pr v g.length ∧ g'[g.length]? = some (.iter (some mr) cR seen cR) ∧ NI h g' pr mr R cR ∧ RowAt g' 32 h.length (kAs o) v ∧
    (o ++ ((left R seen).filter fun t => decide (least ≤ t.2.1)).map (·.1)).Perm ((R.filter fun t => decide (least ≤ t.2.1)).map (·.1)) ∧ m = (left R seen).length) R.length (by omega) ⟨[], .nils, [], .inl rfl, by simp, N.app _, .nils, by rw [left_nil]; exact .refl _, by rw [left_nil]⟩ ?_
  rintro m r g' ⟨seen, v, o, hrc, i1, N1, ro, pm, rfl⟩
  have m2 := N1.mp.hp
  rcases step_next (K := kont F n true ω) (r := r) (it := .t 59) m2 i1 N1.mp.born (Nat.le_refl _) (fun j => rfl) hrc.vl with ⟨e1, e2⟩ | ⟨t, ht, e2⟩
  · rw [w_seq]
    refine rc_next hrc e2 ?_
    simp (maxSteps := 2000000) (discharger := omega) only [xc,xo,xr,x0,x1,x2,x3,x4,x5,x6,xd,xe,xb,kont_call,kont_pure,kont_round,isNil,slOk,sliceV,selems,srcElems,copyTo,dlen,eqAV,eqCells,eqS,wr,place,partVals,partEs,placeEs,mapOf,keyOk,keyCells,findK,Bool.bne_false,Bool.bne_true,List.drop_zero,List.nil_append,List.append_nil,List.take_zero,List.cons_append,List.take_succ_cons,List.drop_succ_cons,List.take_nil,List.drop_nil,Reg.isA,Reg.isV,Reg.stays,Reg.onto,Bool.false_or,Bool.or_false,Bool.false_and,Bool.and_false,Bool.true_and,Bool.and_true,Bool.or_true,Bool.true_or,↓reduceIte,reduceCtorEq,Nat.reduceEqDiff,Nat.reduceLT,Nat.reduceAdd,Nat.reduceMul,Nat.add_zero,Nat.zero_add,Nat.not_lt_zero,Nat.zero_ne_one,Nat.one_ne_zero,Nat.reduceLeDiff,Nat.lt_irrefl,Nat.zero_lt_succ,Bool.false_eq_true,Bool.not_true,Bool.not_false,Option.map_some,Option.map_none,Option.bind_some,Option.getD_some,Option.getD_none,and_self,and_true,true_and,List.length_cons,List.length_nil,List.any_nil,List.any_cons,Int.toNat_natCast,Int.cast_ofNat_Int,Int.natCast_zero,Int.natCast_nonneg,true_implies,or_true,true_or,false_or,or_false,beq_self_eq_true,Option.some.injEq,exists_eq_left',Int.reduceEq,Int.reduceLT,Int.reduceLE,Int.reduceGT,Int.reduceGE,Nat.reduceGT,Int.reduceNeg,Int.reduceToNat,Int.reduceAdd,Int.reduceMul,Int.reduceSub,Int.reducePow,decide_true,decide_false,decide_eq_true_eq,List.getElem?_cons_zero,List.getElem?_cons_succ,Nat.reduceBEq,Nat.reduceSub,exists_false,and_false,false_and,xu,List.set_cons_zero,List.set_cons_succ,wrap_i64,int_lt_t,int_lt_f,int_le_t,int_le_f,int_gt_t,int_gt_f,int_ge_t,int_ge_f,int_eq_t,int_eq_f,int_beq_t,int_beq_f,int_bne_t,int_bne_f,nat_le_t,nat_le_f,Nat.sub_zero,Nat.sub_self,not_false_eq_true,not_true_eq_false]
    refine ⟨_, o, _, _, rfl, N1.app _, ro.more, ?_⟩
    rw [e1] at pm
    simpa using pm
  · rw [w_seq]
    refine rc_next hrc e2 ?_
    have ht' := List.mem_filter.1 ht
    obtain ⟨g1, hg1⟩ : ∃ g1, g1 = g'.set g.length (.iter (some mr) cR (seen ++ [t.2.2]) cR) ++ [AO.dead] := ⟨_, rfl⟩
    rw [← hg1]
    have hgl : g.length < g'.length := (List.getElem?_eq_some_iff.1 i1).1
    have hhg : h.length ≤ g.length := by have := (List.getElem?_eq_some_iff.1 N.pt).1; have := N.lo; omega
    have hgp : g.length ≠ pr := fun e => by rw [e, N1.pt] at i1; cases i1
    have hgm : g.length ≠ mr := fun e => by rw [e, N1.mp.hp] at i1; cases i1
    have N2 : NI h g1 pr mr R cR := by
      rw [hg1]
      refine (N1.set hhg hgp hgm fun z e2 e3 => ?_).app _
      rw [i1] at e3; cases e3
    have ro2 : RowAt g1 32 h.length (kAs o) v := by
      rw [hg1]
      refine RowAt.more ?_
      rcases ro with ro | ⟨id, post, q1, q2, q3⟩
      · exact .inl ro
      · refine .inr ⟨id, post, q1, ?_, q3⟩
        rw [List.getElem?_set, if_neg (fun e => by rw [e] at i1; rw [i1] at q2; cases q2)]
        exact q2
    have i2 : g1[g.length]? = some (.iter (some mr) cR (seen ++ [t.2.2]) cR) := by rw [hg1, List.getElem?_append_left (by simpa using hgl)]; simp [hgl]
    have m3 := N2.mp.hp
    have b5 := N2.mp.find ht'.1
    have gl := getLast_snoc seen t.2.2
    have hpm := (left_next N1.mp.once ht)
    have hlen : (left R (seen ++ [t.2.2])).length < (left R seen).length := by rw [hpm.length_eq]; simp
    have hfl := hpm.filter fun t => decide (least ≤ t.2.1)
    have hol : o.length ≤ 500 := by
      have := pm.length_eq
      simp only [List.length_append,List.length_map] at this
      have h2 := List.length_filter_le (fun t : Int × Int × Nat => decide (least ≤ t.2.1)) R
      omega
    by_cases hle : least ≤ t.2.1
    · obtain ⟨gA, hgA⟩ : ∃ gA, gA = g1 ++ [AO.row 32 [.agg (kCs t.1)]] := ⟨_, rfl⟩
      have rA : gA[g1.length]? = some (.row 32 [.agg (kCs t.1)]) := by rw [hgA]; simp
      have NA : NI h gA pr mr R cR := by rw [hgA]; exact N2.app _
      have iA : gA[g.length]? = some (.iter (some mr) cR (seen ++ [t.2.2]) cR) := by rw [hgA, List.getElem?_append_left (List.getElem?_eq_some_iff.1 i2).1]; exact i2
      obtain ⟨v', g2, q1, q2, q3⟩ := row_app (bytes := 32) (x := kk t.1) (h := gA) (by rw [hgA]; exact ro2.more) (by rw [kAs_len]; omega) (by rw [hgA, List.length_append]; have := (List.getElem?_eq_some_iff.1 i2).1; omega)
      have hk : kAs (o ++ [t.1]) = kAs o ++ [kk t.1] := by simp [kAs]
      have nt := ro2.notTup
      have nt' := q2.notTup
      simp (maxSteps := 2000000) (discharger := omega) only [xc,xo,xr,x0,x1,x2,x3,x4,x5,x6,xd,xe,xb,kont_call,kont_pure,kont_round,isNil,slOk,sliceV,selems,srcElems,copyTo,dlen,eqAV,eqCells,eqS,wr,place,partVals,partEs,placeEs,mapOf,keyOk,keyCells,findK,Bool.bne_false,Bool.bne_true,List.drop_zero,List.nil_append,List.append_nil,List.take_zero,List.cons_append,List.take_succ_cons,List.drop_succ_cons,List.take_nil,List.drop_nil,Reg.isA,Reg.isV,Reg.stays,Reg.onto,Bool.false_or,Bool.or_false,Bool.false_and,Bool.and_false,Bool.true_and,Bool.and_true,Bool.or_true,Bool.true_or,↓reduceIte,reduceCtorEq,Nat.reduceEqDiff,Nat.reduceLT,Nat.reduceAdd,Nat.reduceMul,Nat.add_zero,Nat.zero_add,Nat.not_lt_zero,Nat.zero_ne_one,Nat.one_ne_zero,Nat.reduceLeDiff,Nat.lt_irrefl,Nat.zero_lt_succ,Bool.false_eq_true,Bool.not_true,Bool.not_false,Option.map_some,Option.map_none,Option.bind_some,Option.getD_some,Option.getD_none,and_self,and_true,true_and,List.length_cons,List.length_nil,List.any_nil,List.any_cons,Int.toNat_natCast,Int.cast_ofNat_Int,Int.natCast_zero,Int.natCast_nonneg,true_implies,or_true,true_or,false_or,or_false,beq_self_eq_true,Option.some.injEq,exists_eq_left',Int.reduceEq,Int.reduceLT,Int.reduceLE,Int.reduceGT,Int.reduceGE,Nat.reduceGT,Int.reduceNeg,Int.reduceToNat,Int.reduceAdd,Int.reduceMul,Int.reduceSub,Int.reducePow,decide_true,decide_false,decide_eq_true_eq,List.getElem?_cons_zero,List.getElem?_cons_succ,Nat.reduceBEq,Nat.reduceSub,exists_false,and_false,false_and,xu,List.set_cons_zero,List.set_cons_succ,wrap_i64,int_lt_t,int_lt_f,int_le_t,int_le_f,int_gt_t,int_gt_f,int_ge_t,int_ge_f,int_eq_t,int_eq_f,int_beq_t,int_beq_f,int_bne_t,int_bne_f,nat_le_t,nat_le_f,Nat.sub_zero,Nat.sub_self,not_false_eq_true,not_true_eq_false,i2,m3,gl,b5,kCs_len,kCs_take,kCs_drop,← hgA,rA,q1,List.replicate_succ,List.replicate_zero]
      refine ⟨(left R (seen ++ [t.2.2])).length, hlen, seen ++ [t.2.2], v', o ++ [t.1], .inl rfl, q3.2 _ _ iA (.inr fun es e => by cases e), NA.keepR q3 (keepR_kt q3), by rw [hk]; exact q2, ?_, rfl⟩
      rw [List.filter_cons_of_pos (by simpa using hle)] at hfl
      have h3 := hfl.map (·.1)
      simp only [List.map_cons] at h3
      refine List.Perm.trans ?_ pm
      rw [List.append_assoc]
      exact (h3.symm.append_left o)
    · simp (maxSteps := 2000000) (discharger := omega) only [xc,xo,xr,x0,x1,x2,x3,x4,x5,x6,xd,xe,xb,kont_call,kont_pure,kont_round,isNil,slOk,sliceV,selems,srcElems,copyTo,dlen,eqAV,eqCells,eqS,wr,place,partVals,partEs,placeEs,mapOf,keyOk,keyCells,findK,Bool.bne_false,Bool.bne_true,List.drop_zero,List.nil_append,List.append_nil,List.take_zero,List.cons_append,List.take_succ_cons,List.drop_succ_cons,List.take_nil,List.drop_nil,Reg.isA,Reg.isV,Reg.stays,Reg.onto,Bool.false_or,Bool.or_false,Bool.false_and,Bool.and_false,Bool.true_and,Bool.and_true,Bool.or_true,Bool.true_or,↓reduceIte,reduceCtorEq,Nat.reduceEqDiff,Nat.reduceLT,Nat.reduceAdd,Nat.reduceMul,Nat.add_zero,Nat.zero_add,Nat.not_lt_zero,Nat.zero_ne_one,Nat.one_ne_zero,Nat.reduceLeDiff,Nat.lt_irrefl,Nat.zero_lt_succ,Bool.false_eq_true,Bool.not_true,Bool.not_false,Option.map_some,Option.map_none,Option.bind_some,Option.getD_some,Option.getD_none,and_self,and_true,true_and,List.length_cons,List.length_nil,List.any_nil,List.any_cons,Int.toNat_natCast,Int.cast_ofNat_Int,Int.natCast_zero,Int.natCast_nonneg,true_implies,or_true,true_or,false_or,or_false,beq_self_eq_true,Option.some.injEq,exists_eq_left',Int.reduceEq,Int.reduceLT,Int.reduceLE,Int.reduceGT,Int.reduceGE,Nat.reduceGT,Int.reduceNeg,Int.reduceToNat,Int.reduceAdd,Int.reduceMul,Int.reduceSub,Int.reducePow,decide_true,decide_false,decide_eq_true_eq,List.getElem?_cons_zero,List.getElem?_cons_succ,Nat.reduceBEq,Nat.reduceSub,exists_false,and_false,false_and,xu,List.set_cons_zero,List.set_cons_succ,wrap_i64,int_lt_t,int_lt_f,int_le_t,int_le_f,int_gt_t,int_gt_f,int_ge_t,int_ge_f,int_eq_t,int_eq_f,int_beq_t,int_beq_f,int_bne_t,int_bne_f,nat_le_t,nat_le_f,Nat.sub_zero,Nat.sub_self,not_false_eq_true,not_true_eq_false,i2,m3,gl,b5,kCs_len,kCs_take,kCs_drop]
      refine ⟨(left R (seen ++ [t.2.2])).length, hlen, seen ++ [t.2.2], v, o, .inr ⟨_, _, rfl⟩, rfl, N2, ro2, ?_, rfl⟩
      rw [List.filter_cons_of_neg (by simpa using hle)] at hfl
      exact ((hfl.map (·.1)).symm.append_left o).trans pm

theorem tget_of_mem {R : Rows} {t : Int × Int × Nat} (hn : (R.map (·.1)).Nodup) (ht : t ∈ R) : tget R t.1 = some t.2.1 := by
  cases e : tget R t.1 with
  | none => exact absurd rfl (tget_none.1 e t ht)
  | some v =>
    obtain ⟨b, hb⟩ := tget_mem e
    rw [nodup_inj hn ht hb rfl]

theorem found_perm {R : Rows} {l : List Ch} {least : Int} {f : Ch → Int} (hn : (R.map (·.1)).Nodup) (hl : (l.map (·.1)).Nodup) (I : RI R l least f) :
    ((R.filter fun t => decide (least ≤ t.2.1)).map (·.1)).Perm ((l.filter fun c => decide (least ≤ f c)).map (·.1)) := by
  rw [List.perm_ext_iff_of_nodup ((List.filter_sublist.map _).nodup hn) ((List.filter_sublist.map _).nodup hl)]
  intro x
  simp only [List.mem_map,List.mem_filter,decide_eq_true_eq]
  constructor
  · rintro ⟨t, ⟨h1, h2⟩, rfl⟩
    obtain ⟨c, h3, h4⟩ := I.sub t h1
    refine ⟨c, ⟨h3, ?_⟩, h4⟩
    rw [← I.val c h3, h4, cnt, tget_of_mem hn h1]
    exact h2
  · rintro ⟨c, ⟨h1, h2⟩, rfl⟩
    have hv := I.val c h1
    cases e : tget R c.1 with
    | none =>
      by_cases h : least < 1
      · exact absurd e (I.all h c h1)
      · rw [cnt, e] at hv
        simp only [Option.getD_none] at hv
        omega
    | some v =>
      obtain ⟨b, hb⟩ := tget_mem e
      refine ⟨_, ⟨hb, ?_⟩, rfl⟩
      rw [cnt, e] at hv
      simp only [Option.getD_some] at hv
      simp only [hv]; exact h2
theorem c18 {tot : Bool} {ω : Nat → Nat} {n : Nat} {p mo ma cT cA : Nat} {T : List (Int × List Int × Nat)} {A : Spots} {l : List Ch} (s : List Int) (least : Int) (h : Hp) (B : Bk h p mo ma T cT A cA (fun _ => l)) (hT : T.map (fun t => (t.1, t.2.1)) = l) (hl : l.length ≤ 500) (h8 : ∀ c ∈ l, c.2.length = 8) (hs8 : s.length = 8)
    (hby : ∀ c ∈ l, 0 ≤ c.1 ∧ c.1 ≤ 255) (hn : 1100 < n) (htot : tot = true) :
    ∃ h' v res R, call F n tot ω 18 [.ptr p 2 0 0, .agg (intsOf .u32 s), .int .i64 least] h = some (v, h') ∧ RowAt h' 32 h.length (kAs res) v ∧ keeps h h' ∧ KT h h' ∧ res.Perm ((l.filter fun c => decide (least ≤ (al c.2 s 8 : Int))).map (·.1)) ∧
      (∀ c ∈ l, cnt R c.1 = al c.2 s 8) ∧ res.Pairwise (fun x y => ltR R y x = false) := by
  subst htot
  obtain ⟨n, rfl⟩ : ∃ m, n = m + 1 := ⟨n - 1, by omega⟩
  suffices hx : ∃ v h', call F (n + 1) true ω 18 [.ptr p 2 0 0, .agg (intsOf .u32 s), .int .i64 least] h = some (v, h') ∧ ∃ res R, RowAt h' 32 h.length (kAs res) v ∧ keeps h h' ∧ KT h h' ∧ res.Perm ((l.filter fun c => decide (least ≤ (al c.2 s 8 : Int))).map (·.1)) ∧
      (∀ c ∈ l, cnt R c.1 = al c.2 s 8) ∧ res.Pairwise (fun x y => ltR R y x = false) by
    obtain ⟨v, h', e1, res, R, e2⟩ := hx
    exact ⟨h', v, res, R, e1, e2⟩
  refine call_of (fn := a18) f18 (P := fun v h' => ∃ res R, RowAt h' 32 h.length (kAs res) v ∧ keeps h h' ∧ KT h h' ∧ res.Perm ((l.filter fun c => decide (least ≤ (al c.2 s 8 : Int))).map (·.1)) ∧
      (∀ c ∈ l, cnt R c.1 = al c.2 s 8) ∧ res.Pairwise (fun x y => ltR R y x = false)) ?_
  unfold a18
  have hi8 : (intsOf .u32 s).length = 8 := by simp [intsOf,hs8]
  have ht8 : (intsOf .u32 s).take 8 = intsOf .u32 s := List.take_of_length_le (by omega)
  have hd8 : (intsOf .u32 s).drop 8 = [] := List.drop_of_length_le (by omega)
  have hnd : (l.map (·.1)).Nodup := by
    rw [← hT, List.map_map]
    exact B.of.keys
  have hA : (h ++ [AO.map [] 0] ++ [AO.row 1 [AV.nilm]])[h.length + 1]? = some (.row 1 [.nilm]) := by simp
  obtain ⟨g0, hg0⟩ : ∃ g0, g0 = (h ++ [AO.map [] 0] ++ [AO.row 1 [AV.nilm]]).set (h.length + 1) (.row 1 [.mp h.length]) := ⟨_, rfl⟩
  have hg0' : g0 = h ++ [AO.map [] 0, .row 1 [.mp h.length]] := by
    rw [hg0, List.append_assoc, List.set_append_right _ _ (by omega)]
    simp
  have N0 : NI h g0 (h.length + 1) h.length [] 0 := by
    rw [hg0']
    exact ⟨keeps_app _ _, KT.app _ _, by simp, ⟨by simp [encE], by simp, by simp, by simp⟩, by omega⟩
  have fin : ∀ (ex : Regs) (g1 : Hp) (R : Rows) (cR : Nat), ((∃ z, ex = [(20, z)]) ∨ ∃ z1 z2, ex = [(25, z1), (27, z2)]) → NI h g1 (h.length + 1) h.length R cR → RI R l least (fun _ => 0) →
      Wp (kont F n true ω) n (secC (secC (secC (secC a18.2)))) ([(0, .val (.ptr p 2 0 0)), (2, .val (.int .i64 least)), (4, .var (.agg (intsOf .u32 s))), (7, .val (.ptr (h.length + 1) 1 0 0))] ++ ex) g1
      (Ret [ARes.t 6] fun v h' => ∃ res R, RowAt h' 32 h.length (kAs res) v ∧ keeps h h' ∧ KT h h' ∧ res.Perm ((l.filter fun c => decide (least ≤ (al c.2 s 8 : Int))).map (·.1)) ∧
      (∀ c ∈ l, cnt R c.1 = al c.2 s 8) ∧ res.Pairwise (fun x y => ltR R y x = false)) := by
    intro ex g1 R cR hex N1 I1
    simp only [a18,secC]
    rw [w_seq]
    refine (w_b s least h g1 B hl (by omega) hs8 hnd N1 I1 ex hex).mono ?_
    rintro e r g2 ⟨rfl, ⟨z1, z2, z3, rfl⟩, R2, cR2, N2, I2⟩
    simp (maxSteps := 2000000) (discharger := omega) only [xc,xo,xr,x0,x1,x2,x3,x4,x5,x6,xd,xe,xb,kont_call,kont_pure,kont_round,isNil,slOk,sliceV,selems,srcElems,copyTo,dlen,eqAV,eqCells,eqS,wr,place,partVals,partEs,placeEs,mapOf,keyOk,keyCells,findK,Bool.bne_false,Bool.bne_true,List.drop_zero,List.nil_append,List.append_nil,List.take_zero,List.cons_append,List.take_succ_cons,List.drop_succ_cons,List.take_nil,List.drop_nil,Reg.isA,Reg.isV,Reg.stays,Reg.onto,Bool.false_or,Bool.or_false,Bool.false_and,Bool.and_false,Bool.true_and,Bool.and_true,Bool.or_true,Bool.true_or,↓reduceIte,reduceCtorEq,Nat.reduceEqDiff,Nat.reduceLT,Nat.reduceAdd,Nat.reduceMul,Nat.add_zero,Nat.zero_add,Nat.not_lt_zero,Nat.zero_ne_one,Nat.one_ne_zero,Nat.reduceLeDiff,Nat.lt_irrefl,Nat.zero_lt_succ,Bool.false_eq_true,Bool.not_true,Bool.not_false,Option.map_some,Option.map_none,Option.bind_some,Option.getD_some,Option.getD_none,and_self,and_true,true_and,List.length_cons,List.length_nil,List.any_nil,List.any_cons,Int.toNat_natCast,Int.cast_ofNat_Int,Int.natCast_zero,Int.natCast_nonneg,true_implies,or_true,true_or,false_or,or_false,beq_self_eq_true,Option.some.injEq,exists_eq_left',Int.reduceEq,Int.reduceLT,Int.reduceLE,Int.reduceGT,Int.reduceGE,Nat.reduceGT,Int.reduceNeg,Int.reduceToNat,Int.reduceAdd,Int.reduceMul,Int.reduceSub,Int.reducePow,decide_true,decide_false,decide_eq_true_eq,List.getElem?_cons_zero,List.getElem?_cons_succ,Nat.reduceBEq,Nat.reduceSub,exists_false,and_false,false_and,xu,List.set_cons_zero,List.set_cons_succ,wrap_i64,int_lt_t,int_lt_f,int_le_t,int_le_f,int_gt_t,int_gt_f,int_ge_t,int_ge_f,int_eq_t,int_eq_f,int_beq_t,int_beq_f,int_bne_t,int_bne_f,nat_le_t,nat_le_f,Nat.sub_zero,Nat.sub_self,not_false_eq_true,not_true_eq_false]
    have hRl : R2.length ≤ l.length := by
      have := nodup_len (a := R2.map (·.1)) (b := l.map (·.1)) N2.mp.keys fun k hk => by
        obtain ⟨t, h1, rfl⟩ := List.mem_map.1 hk
        obtain ⟨c, h2, h3⟩ := I2.sub t h1
        exact List.mem_map.2 ⟨c, h2, h3⟩
      simpa using this
    refine (w_c least h g2 (by omega) (by omega) N2).mono ?_
    rintro e r g3 ⟨rfl, v, o, z1, z2, rfl, N3, ro, po⟩
    have hol : o.length ≤ 500 := by
      have := po.length_eq
      simp only [List.length_map] at this
      have h2 := List.length_filter_le (fun t : Int × Int × Nat => decide (least ≤ t.2.1)) R2
      omega
    have hob : ∀ t ∈ o, 0 ≤ t ∧ t ≤ 255 := fun t ht => by
      obtain ⟨u, h1, rfl⟩ := List.mem_map.1 (po.mem_iff.1 ht)
      obtain ⟨c, h2, h3⟩ := I2.sub u (List.mem_filter.1 h1).1
      rw [← h3]; exact hby c h2
    have hcb : ∀ z, 0 ≤ cnt R2 z ∧ cnt R2 z ≤ 8 := fun z => by
      cases e : tget R2 z with
      | none => simp [cnt,e]
      | some a =>
        obtain ⟨b, hb⟩ := tget_mem e
        obtain ⟨c, h2, h3⟩ := I2.sub _ hb
        simp only at h3
        rw [← h3, I2.val c h2]
        have := al_le c.2 s 8
        omega
    obtain ⟨g4, res, k1, k2, k3, k4, k5⟩ := c27 (tot := true) (ω := ω) (n := n) R2 cR2 v o h.length (h.length + 1) h.length g3 N3.pt N3.mp.hp hcb ro hob (by omega) (by omega)
    have nt := ro.notTup
    have nt2 := ro.one
    simp (maxSteps := 2000000) (discharger := omega) only [xc,xo,xr,x0,x1,x2,x3,x4,x5,x6,xd,xe,xb,kont_call,kont_pure,kont_round,isNil,slOk,sliceV,selems,srcElems,copyTo,dlen,eqAV,eqCells,eqS,wr,place,partVals,partEs,placeEs,mapOf,keyOk,keyCells,findK,Bool.bne_false,Bool.bne_true,List.drop_zero,List.nil_append,List.append_nil,List.take_zero,List.cons_append,List.take_succ_cons,List.drop_succ_cons,List.take_nil,List.drop_nil,Reg.isA,Reg.isV,Reg.stays,Reg.onto,Bool.false_or,Bool.or_false,Bool.false_and,Bool.and_false,Bool.true_and,Bool.and_true,Bool.or_true,Bool.true_or,↓reduceIte,reduceCtorEq,Nat.reduceEqDiff,Nat.reduceLT,Nat.reduceAdd,Nat.reduceMul,Nat.add_zero,Nat.zero_add,Nat.not_lt_zero,Nat.zero_ne_one,Nat.one_ne_zero,Nat.reduceLeDiff,Nat.lt_irrefl,Nat.zero_lt_succ,Bool.false_eq_true,Bool.not_true,Bool.not_false,Option.map_some,Option.map_none,Option.bind_some,Option.getD_some,Option.getD_none,and_self,and_true,true_and,List.length_cons,List.length_nil,List.any_nil,List.any_cons,Int.toNat_natCast,Int.cast_ofNat_Int,Int.natCast_zero,Int.natCast_nonneg,true_implies,or_true,true_or,false_or,or_false,beq_self_eq_true,Option.some.injEq,exists_eq_left',Int.reduceEq,Int.reduceLT,Int.reduceLE,Int.reduceGT,Int.reduceGE,Nat.reduceGT,Int.reduceNeg,Int.reduceToNat,Int.reduceAdd,Int.reduceMul,Int.reduceSub,Int.reducePow,decide_true,decide_false,decide_eq_true_eq,List.getElem?_cons_zero,List.getElem?_cons_succ,Nat.reduceBEq,Nat.reduceSub,exists_false,and_false,false_and,xu,List.set_cons_zero,List.set_cons_succ,wrap_i64,int_lt_t,int_lt_f,int_le_t,int_le_f,int_gt_t,int_gt_f,int_ge_t,int_ge_f,int_eq_t,int_eq_f,int_beq_t,int_beq_f,int_bne_t,int_bne_f,nat_le_t,nat_le_f,Nat.sub_zero,Nat.sub_self,not_false_eq_true,not_true_eq_false,k1]
    exact ⟨res, R2, k2, (N3.keepR k3 (keepR_kt k3)).kp, (N3.keepR k3 (keepR_kt k3)).kt, (k4.trans po).trans (found_perm N2.mp.keys hnd I2), I2.val, k5⟩
  simp only [a18,secC,w_seq] at fin
  by_cases hle : least < 1
  · simp (maxSteps := 2000000) (discharger := omega) only [xc,xo,xr,x0,x1,x2,x3,x4,x5,x6,xd,xe,xb,kont_call,kont_pure,kont_round,isNil,slOk,sliceV,selems,srcElems,copyTo,dlen,eqAV,eqCells,eqS,wr,place,partVals,partEs,placeEs,mapOf,keyOk,keyCells,findK,Bool.bne_false,Bool.bne_true,List.drop_zero,List.nil_append,List.append_nil,List.take_zero,List.cons_append,List.take_succ_cons,List.drop_succ_cons,List.take_nil,List.drop_nil,Reg.isA,Reg.isV,Reg.stays,Reg.onto,Bool.false_or,Bool.or_false,Bool.false_and,Bool.and_false,Bool.true_and,Bool.and_true,Bool.or_true,Bool.true_or,↓reduceIte,reduceCtorEq,Nat.reduceEqDiff,Nat.reduceLT,Nat.reduceAdd,Nat.reduceMul,Nat.add_zero,Nat.zero_add,Nat.not_lt_zero,Nat.zero_ne_one,Nat.one_ne_zero,Nat.reduceLeDiff,Nat.lt_irrefl,Nat.zero_lt_succ,Bool.false_eq_true,Bool.not_true,Bool.not_false,Option.map_some,Option.map_none,Option.bind_some,Option.getD_some,Option.getD_none,and_self,and_true,true_and,List.length_cons,List.length_nil,List.any_nil,List.any_cons,Int.toNat_natCast,Int.cast_ofNat_Int,Int.natCast_zero,Int.natCast_nonneg,true_implies,or_true,true_or,false_or,or_false,beq_self_eq_true,Option.some.injEq,exists_eq_left',Int.reduceEq,Int.reduceLT,Int.reduceLE,Int.reduceGT,Int.reduceGE,Nat.reduceGT,Int.reduceNeg,Int.reduceToNat,Int.reduceAdd,Int.reduceMul,Int.reduceSub,Int.reducePow,decide_true,decide_false,decide_eq_true_eq,List.getElem?_cons_zero,List.getElem?_cons_succ,Nat.reduceBEq,Nat.reduceSub,exists_false,and_false,false_and,xu,List.set_cons_zero,List.set_cons_succ,wrap_i64,int_lt_t,int_lt_f,int_le_t,int_le_f,int_gt_t,int_gt_f,int_ge_t,int_ge_f,int_eq_t,int_eq_f,int_beq_t,int_beq_f,int_bne_t,int_bne_f,nat_le_t,nat_le_f,Nat.sub_zero,Nat.sub_self,not_false_eq_true,not_true_eq_false,hi8,ht8,hd8,List.length_append,hA,show upd AV.nilm 0 (AV.mp h.length) = some (.mp h.length) from rfl,← hg0]
    refine (w_a (n := n) s least h g0 B hT hl (by omega) hby N0).mono ?_
    rintro e r g1 ⟨rfl, ⟨z1, z2, rfl⟩, R, cR, N1, I1⟩
    have f := fin _ g1 R cR (.inr ⟨z1, z2, rfl⟩) N1 I1
    simp (maxSteps := 2000000) (discharger := omega) only [xc,xo,xr,x0,x1,x2,x3,x4,x5,x6,xd,xe,xb,kont_call,kont_pure,kont_round,isNil,slOk,sliceV,selems,srcElems,copyTo,dlen,eqAV,eqCells,eqS,wr,place,partVals,partEs,placeEs,mapOf,keyOk,keyCells,findK,Bool.bne_false,Bool.bne_true,List.drop_zero,List.nil_append,List.append_nil,List.take_zero,List.cons_append,List.take_succ_cons,List.drop_succ_cons,List.take_nil,List.drop_nil,Reg.isA,Reg.isV,Reg.stays,Reg.onto,Bool.false_or,Bool.or_false,Bool.false_and,Bool.and_false,Bool.true_and,Bool.and_true,Bool.or_true,Bool.true_or,↓reduceIte,reduceCtorEq,Nat.reduceEqDiff,Nat.reduceLT,Nat.reduceAdd,Nat.reduceMul,Nat.add_zero,Nat.zero_add,Nat.not_lt_zero,Nat.zero_ne_one,Nat.one_ne_zero,Nat.reduceLeDiff,Nat.lt_irrefl,Nat.zero_lt_succ,Bool.false_eq_true,Bool.not_true,Bool.not_false,Option.map_some,Option.map_none,Option.bind_some,Option.getD_some,Option.getD_none,and_self,and_true,true_and,List.length_cons,List.length_nil,List.any_nil,List.any_cons,Int.toNat_natCast,Int.cast_ofNat_Int,Int.natCast_zero,Int.natCast_nonneg,true_implies,or_true,true_or,false_or,or_false,beq_self_eq_true,Option.some.injEq,exists_eq_left',Int.reduceEq,Int.reduceLT,Int.reduceLE,Int.reduceGT,Int.reduceGE,Nat.reduceGT,Int.reduceNeg,Int.reduceToNat,Int.reduceAdd,Int.reduceMul,Int.reduceSub,Int.reducePow,decide_true,decide_false,decide_eq_true_eq,List.getElem?_cons_zero,List.getElem?_cons_succ,Nat.reduceBEq,Nat.reduceSub,exists_false,and_false,false_and,xu,List.set_cons_zero,List.set_cons_succ,wrap_i64,int_lt_t,int_lt_f,int_le_t,int_le_f,int_gt_t,int_gt_f,int_ge_t,int_ge_f,int_eq_t,int_eq_f,int_beq_t,int_beq_f,int_bne_t,int_bne_f,nat_le_t,nat_le_f,Nat.sub_zero,Nat.sub_self,not_false_eq_true,not_true_eq_false] at f ⊢
    exact f
  · have I0 : RI [] l least (fun _ => 0) := ⟨fun c _ => rfl, by simp, fun e => absurd e hle⟩
    have f := fin _ g0 [] 0 (.inl ⟨.val (.bool false), rfl⟩) N0 I0
    simp (maxSteps := 2000000) (discharger := omega) only [xc,xo,xr,x0,x1,x2,x3,x4,x5,x6,xd,xe,xb,kont_call,kont_pure,kont_round,isNil,slOk,sliceV,selems,srcElems,copyTo,dlen,eqAV,eqCells,eqS,wr,place,partVals,partEs,placeEs,mapOf,keyOk,keyCells,findK,Bool.bne_false,Bool.bne_true,List.drop_zero,List.nil_append,List.append_nil,List.take_zero,List.cons_append,List.take_succ_cons,List.drop_succ_cons,List.take_nil,List.drop_nil,Reg.isA,Reg.isV,Reg.stays,Reg.onto,Bool.false_or,Bool.or_false,Bool.false_and,Bool.and_false,Bool.true_and,Bool.and_true,Bool.or_true,Bool.true_or,↓reduceIte,reduceCtorEq,Nat.reduceEqDiff,Nat.reduceLT,Nat.reduceAdd,Nat.reduceMul,Nat.add_zero,Nat.zero_add,Nat.not_lt_zero,Nat.zero_ne_one,Nat.one_ne_zero,Nat.reduceLeDiff,Nat.lt_irrefl,Nat.zero_lt_succ,Bool.false_eq_true,Bool.not_true,Bool.not_false,Option.map_some,Option.map_none,Option.bind_some,Option.getD_some,Option.getD_none,and_self,and_true,true_and,List.length_cons,List.length_nil,List.any_nil,List.any_cons,Int.toNat_natCast,Int.cast_ofNat_Int,Int.natCast_zero,Int.natCast_nonneg,true_implies,or_true,true_or,false_or,or_false,beq_self_eq_true,Option.some.injEq,exists_eq_left',Int.reduceEq,Int.reduceLT,Int.reduceLE,Int.reduceGT,Int.reduceGE,Nat.reduceGT,Int.reduceNeg,Int.reduceToNat,Int.reduceAdd,Int.reduceMul,Int.reduceSub,Int.reducePow,decide_true,decide_false,decide_eq_true_eq,List.getElem?_cons_zero,List.getElem?_cons_succ,Nat.reduceBEq,Nat.reduceSub,exists_false,and_false,false_and,xu,List.set_cons_zero,List.set_cons_succ,wrap_i64,int_lt_t,int_lt_f,int_le_t,int_le_f,int_gt_t,int_gt_f,int_ge_t,int_ge_f,int_eq_t,int_eq_f,int_beq_t,int_beq_f,int_bne_t,int_bne_f,nat_le_t,nat_le_f,Nat.sub_zero,Nat.sub_self,not_false_eq_true,not_true_eq_false,hi8,ht8,hd8,List.length_append,hA,show upd AV.nilm 0 (AV.mp h.length) = some (.mp h.length) from rfl,← hg0]
    simp (maxSteps := 2000000) (discharger := omega) only [xc,xo,xr,x0,x1,x2,x3,x4,x5,x6,xd,xe,xb,kont_call,kont_pure,kont_round,isNil,slOk,sliceV,selems,srcElems,copyTo,dlen,eqAV,eqCells,eqS,wr,place,partVals,partEs,placeEs,mapOf,keyOk,keyCells,findK,Bool.bne_false,Bool.bne_true,List.drop_zero,List.nil_append,List.append_nil,List.take_zero,List.cons_append,List.take_succ_cons,List.drop_succ_cons,List.take_nil,List.drop_nil,Reg.isA,Reg.isV,Reg.stays,Reg.onto,Bool.false_or,Bool.or_false,Bool.false_and,Bool.and_false,Bool.true_and,Bool.and_true,Bool.or_true,Bool.true_or,↓reduceIte,reduceCtorEq,Nat.reduceEqDiff,Nat.reduceLT,Nat.reduceAdd,Nat.reduceMul,Nat.add_zero,Nat.zero_add,Nat.not_lt_zero,Nat.zero_ne_one,Nat.one_ne_zero,Nat.reduceLeDiff,Nat.lt_irrefl,Nat.zero_lt_succ,Bool.false_eq_true,Bool.not_true,Bool.not_false,Option.map_some,Option.map_none,Option.bind_some,Option.getD_some,Option.getD_none,and_self,and_true,true_and,List.length_cons,List.length_nil,List.any_nil,List.any_cons,Int.toNat_natCast,Int.cast_ofNat_Int,Int.natCast_zero,Int.natCast_nonneg,true_implies,or_true,true_or,false_or,or_false,beq_self_eq_true,Option.some.injEq,exists_eq_left',Int.reduceEq,Int.reduceLT,Int.reduceLE,Int.reduceGT,Int.reduceGE,Nat.reduceGT,Int.reduceNeg,Int.reduceToNat,Int.reduceAdd,Int.reduceMul,Int.reduceSub,Int.reducePow,decide_true,decide_false,decide_eq_true_eq,List.getElem?_cons_zero,List.getElem?_cons_succ,Nat.reduceBEq,Nat.reduceSub,exists_false,and_false,false_and,xu,List.set_cons_zero,List.set_cons_succ,wrap_i64,int_lt_t,int_lt_f,int_le_t,int_le_f,int_gt_t,int_gt_f,int_ge_t,int_ge_f,int_eq_t,int_eq_f,int_beq_t,int_beq_f,int_bne_t,int_bne_f,nat_le_t,nat_le_f,Nat.sub_zero,Nat.sub_self,not_false_eq_true,not_true_eq_false] at f
    exact f
end Go.Proofs.Ytdjlcddkfjbebaa.Im

/- Joined: S18P, S18Q. -/
import Derived.Test.YtdjlcddkfjbebaaN
import Derived.Test.YtdjlcddkfjbebaaNAwake
/- S18P: a script's step: what both texts answer is the same. -/
set_option linter.unusedVariables false
set_option linter.unusedSimpArgs false
open Go Go.Im
namespace Go.Proofs.Ytdjlcddkfjbebaa.Im

theorem same_found {R : Rows} {s : List Int} {l srt : List Ch} {res : List Int} {least : Int} (hR : ∀ c ∈ l, cnt R c.1 = al c.2 s 8) (pr : res.Perm ((l.filter fun c => decide (least ≤ (al c.2 s 8 : Int))).map (·.1))) (wr : res.Pairwise fun x y => ltR R y x = false)
    (ps : srt.Perm (l.filter fun c => decide (least ≤ (al c.2 s 8 : Int)))) (ws : srt.Pairwise fun x y => ltC s y x = false) : res = srt.map (·.1) := by
  refine List.Perm.eq_of_pairwise (le := fun x y => ltR R y x = false) (fun a b _ _ h1 h2 => ?_) wr ?_ (pr.trans (ps.map _).symm)
  · simp [ltR] at h1 h2
    omega
  · rw [List.pairwise_map]
    refine (List.Pairwise.imp_of_mem ?_ ws)
    intro x y hx hy h
    have h1 := hR x (List.mem_filter.1 (ps.mem_iff.1 hx)).1
    have h2 := hR y (List.mem_filter.1 (ps.mem_iff.1 hy)).1
    simp [ltR,ltC,h1,h2] at h ⊢
    omega

def sL (bs : List UInt8) (seed : Int) : List Int := (List.range 8).map (rowsOf bs seed)
theorem sL_len (bs : List UInt8) (seed : Int) : (sL bs seed).length = 8 := by simp [sL]
theorem arr8_sL (bs : List UInt8) (seed : Int) : arr8 (rowsOf bs seed) = intsOf .u32 (sL bs seed) := by simp [arr8,sL,intsOf]

theorem isApp_keepT {sz : Nat} {es : List AV} {h h' : Hp} {v : AV} (a : IsApp sz es h v) (k : KT h h') : IsApp sz es h' v := by
  rcases a with a | a | ⟨id, a, e⟩
  · exact .inl a
  · exact .inr (.inl a)
  · exact .inr (.inr ⟨id, a, k _ _ _ e⟩)

theorem kCs_eqn (x : Int) : [AV.int .u8 x, .int .u8 1, .int .u8 0, .int .u8 0, .int .u8 0, .int .u8 0, .int .u8 0, .int .u8 0, .int .u8 0, .int .u8 0, .int .u8 0, .int .u8 0, .int .u8 0, .int .u8 0, .int .u8 0, .int .u8 0, .int .u8 0, .int .u8 0, .int .u8 0, .int .u8 0, .int .u8 0, .int .u8 0, .int .u8 0, .int .u8 0, .int .u8 0, .int .u8 0, .int .u8 0, .int .u8 0, .int .u8 0, .int .u8 0, .int .u8 0, .int .u8 0] = kCs x := rfl

abbrev ZL32 : List AV := [.int .u8 0, .int .u8 0, .int .u8 0, .int .u8 0, .int .u8 0, .int .u8 0, .int .u8 0, .int .u8 0, .int .u8 0, .int .u8 0, .int .u8 0, .int .u8 0, .int .u8 0, .int .u8 0, .int .u8 0, .int .u8 0, .int .u8 0, .int .u8 0, .int .u8 0, .int .u8 0, .int .u8 0, .int .u8 0, .int .u8 0, .int .u8 0, .int .u8 0, .int .u8 0, .int .u8 0, .int .u8 0, .int .u8 0, .int .u8 0, .int .u8 0, .int .u8 0]

theorem u8_range (x : Int) : 0 ≤ IntKind.u8.wrap x ∧ IntKind.u8.wrap x ≤ 255 := by
  have : IntKind.u8.wrap x = x % 256 := rfl
  omega

structure Ln where
  kind : Int
  num : Int
  data : List UInt8
  val : AV
def Ln.av (o : Ln) : AV := .agg [.int .i64 o.kind, .int .i64 o.num, o.val]
def Ln.ok (o : Ln) : Prop := IsB o.data o.val

structure St (g : Hp) (p : Nat) (rv : AV) (m : Nat) where
  mo : Nat
  ma : Nat
  T : List (Int × List Int × Nat)
  cT : Nat
  A : Spots
  cA : Nat
  l : List Ch
  bk : Bk g p mo ma T cT A cA (fun _ => l)
  hT : T.map (fun t => (t.1, t.2.1)) = l
  len : l.length ≤ m
  h8 : ∀ c ∈ l, c.2.length = 8
  by8 : ∀ c ∈ l, 0 ≤ c.1 ∧ c.1 ≤ 255
  ref : IsApp 40 (cAs l) g rv

theorem St.keep {g g' : Hp} {p m m' : Nat} {rv : AV} (S : St g p rv m) (k : keeps g g') (t : KT g g') (hm : m ≤ m') : Nonempty (St g' p rv m') :=
  ⟨⟨S.mo, S.ma, S.T, S.cT, S.A, S.cA, S.l, S.bk.keep k, S.hT, Nat.le_trans S.len hm, S.h8, S.by8, isApp_keepT S.ref t⟩⟩

theorem dropC_sub {k : Int} {l : List Ch} {c : Ch} (h : c ∈ dropC k l) : c ∈ l := (List.mem_filter.1 h).1

theorem st_add {tot : Bool} {ω : Nat → Nat} {n : Nat} {g : Hp} {p m : Nat} {rv : AV} (S : St g p rv m) (k : Int) (s : List Int) (hs : s.length = 8) (hk : 0 ≤ k ∧ k ≤ 255) (hm : m ≤ 400) (hn : 1030 < n) :
    ∃ g1 g2 rv', call F n tot ω 14 [.ptr p 2 0 0, .agg (kCs k), .agg (intsOf .u32 s)] g = some (.tup [], g1) ∧ call F n tot ω 15 [rv, .agg (kCs k), .agg (intsOf .u32 s)] g1 = some (rv', g2) ∧ Nonempty (St g2 p rv' (m + 1)) := by
  have hl := S.len
  obtain ⟨g1, T', cT', A', cA', e1, e2, e3, e4⟩ := c14 (tot := tot) (ω := ω) (n := n) k s g S.bk S.hT (by omega) S.h8 hs hn
  obtain ⟨rv', g2, q1, q2, q3, q4⟩ := c15 (tot := tot) (ω := ω) (n := n) rv k s S.l g1 (IsApp.kind (isApp_keepT S.ref e4)) S.h8 hs (by omega) (by omega)
  have hd := List.length_filter_le (fun c : Ch => decide (c.1 ≠ k)) S.l
  refine ⟨g1, g2, rv', e1, q1, ⟨⟨S.mo, S.ma, T', cT', A', cA', addC k s S.l, e2.keep q3, e3, ?_, fun c hc => ?_, fun c hc => ?_, q2⟩⟩⟩
  · simp only [addC,dropC,List.length_append,List.length_singleton]; omega
  · rcases List.mem_append.1 hc with h | h
    · exact S.h8 c (dropC_sub h)
    · simp at h; subst h; exact hs
  · rcases List.mem_append.1 hc with h | h
    · exact S.by8 c (dropC_sub h)
    · simp at h; subst h; exact hk

theorem st_drop {tot : Bool} {ω : Nat → Nat} {n : Nat} {g : Hp} {p m : Nat} {rv : AV} (S : St g p rv m) (k : Int) (hm : m ≤ 400) (hn : 1030 < n) :
    ∃ g1 g2 rv', call F n tot ω 16 [.ptr p 2 0 0, .agg (kCs k)] g = some (.tup [], g1) ∧ call F n tot ω 17 [rv, .agg (kCs k)] g1 = some (rv', g2) ∧ Nonempty (St g2 p rv' (m + 1)) := by
  have hl := S.len
  obtain ⟨g1, T', A', e1, e2, e3, e4⟩ := c16 (tot := tot) (ω := ω) (n := n) k g S.bk S.hT (by omega) S.h8 (by omega)
  obtain ⟨rv', g2, q1, q2, _, q3, q4, _⟩ := c17 (tot := tot) (ω := ω) (n := n) rv k S.l g1 (IsApp.kind (isApp_keepT S.ref e4)) S.h8 (by omega) (by omega)
  have hd := List.length_filter_le (fun c : Ch => decide (c.1 ≠ k)) S.l
  refine ⟨g1, g2, rv', e1, q1, ⟨⟨S.mo, S.ma, T', S.cT, A', S.cA, dropC k S.l, e2.keep q3, e3, ?_, fun c hc => S.h8 c (dropC_sub hc), fun c hc => S.by8 c (dropC_sub hc), q2⟩⟩⟩
  simp only [dropC]; omega

theorem st_near {ω : Nat → Nat} {n : Nat} {g : Hp} {p m : Nat} {rv : AV} (S : St g p rv m) (s : List Int) (least : Int) (hs : s.length = 8) (hm : m ≤ 400) (hn : 1110 < n) :
    ∃ v g1 w g2 l0, call F n true ω 18 [.ptr p 2 0 0, .agg (intsOf .u32 s), .int .i64 least] g = some (v, g1) ∧ call F n true ω 19 [.ptr p 2 0 0] g1 = some (.int .i64 S.l.length, g1) ∧ lenSl rv = some S.l.length ∧
      call F n true ω 21 [rv, .agg (intsOf .u32 s), .int .i64 least] g1 = some (w, g2) ∧ call F n true ω 20 [v, w] g2 = some (.bool true, g2) ∧ RowAt g2 32 g.length (kAs l0) v ∧ l0.length ≤ m ∧ keeps g g2 ∧ KT g g2 := by
  have hl := S.len
  obtain ⟨g1, v, res, R, e1, e2, e3, e4, e5, e6, e7⟩ := c18 (tot := true) (ω := ω) (n := n) s least g S.bk S.hT (by omega) S.h8 hs S.by8 (by omega) rfl
  obtain ⟨w, g2, srt, q1, q2, q3, q4, q5, q6⟩ := c21 (tot := true) (ω := ω) (n := n) rv s least S.l g1 (IsApp.kind (isApp_keepT S.ref e4)) S.h8 hs (by omega) (by omega)
  have hres := same_found e6 e5 e7 q5 q6
  have hrl : res.length ≤ m := by
    have := e5.length_eq
    simp only [List.length_map] at this
    have h2 := List.length_filter_le (fun c : Ch => decide (least ≤ (al c.2 s 8 : Int))) S.l
    omega
  have hTl : S.T.length = S.l.length := by rw [← S.hT]; simp
  have e2' : RowAt g2 32 g.length (kAs res) v := by
    rcases e2 with h | ⟨id, post, h1, h2, h3⟩
    · exact .inl h
    · exact .inr ⟨id, post, h1, q3 _ _ h2 rfl, h3⟩
  have c19' := c19 (tot := true) (ω := ω) (n := n) g1 (S.bk.keep e3) (by omega)
  rw [hTl] at c19'
  have hlr := S.ref.len
  rw [cAs_len] at hlr
  refine ⟨v, g1, w, g2, res, e1, c19', hlr, q1, c20 v w res g2 e2' ?_ (by omega) (by omega), e2', hrl, keeps_trans e3 q3, e4.trans q4⟩
  rcases q2 with ⟨h1, h2⟩ | ⟨c, h1⟩
  · exact .inl ⟨h1, by rw [hres, h2]; rfl⟩
  · exact .inr ⟨c, by rw [hres]; exact h1⟩
end Go.Proofs.Ytdjlcddkfjbebaa.Im

/- S18Q: the law, over the idealised machine. -/
set_option linter.unusedVariables false
set_option linter.unusedSimpArgs false
open Go Go.Im
namespace Go.Proofs.Ytdjlcddkfjbebaa.Im

theorem plain_bytes : ∀ l : List UInt8, plains (bytesOf l) = some (bytesOf l)
  | [] => rfl
  | a :: l => by
    have ih := plain_bytes l
    simp only [bytesOf,List.map_cons,plains,plain] at ih ⊢
    rw [ih]

set_option maxRecDepth 20000 in
set_option maxHeartbeats 4000000 in
theorem law_near (os : List Ln) (v : AV) (seed : Int) (ω : Nat → Nat) (hv : v = .nils ∧ os = [] ∨ ∃ cc, v = .imm 3 (os.map Ln.av) cc) (hok : ∀ o ∈ os, o.ok) : ∃ h', call F 6302 true ω 6 [v, .int .i64 seed] [] = some (.bool true, h') := by
  obtain ⟨u, h', e, hu⟩ := call_of (F := F) (n := 6301) (tot := true) (ω := ω) (f := 6) (fn := a6) f6 (h := []) (args := [v, .int .i64 seed]) (P := fun u _ => u = .bool true) (by
    unfold a6
    have hw1 : call F 6301 true ω 8 [] [] = some (.bool true, H1) := awake1 6101 ω
    have hw2 : call F 6301 true ω 8 [] H1 = some (.bool true, H2) := awake2 6101 ω
    have hl : lenSl v = some os.length := by
      rcases hv with ⟨rfl, rfl⟩ | ⟨cc, rfl⟩
      · rfl
      · simp [lenSl]
    by_cases hlong : 100 < os.length
    · simp (maxSteps := 2000000) (discharger := omega) only [xc,xo,xr,x0,x1,x2,x3,x4,x5,x6,xd,xe,xb,kont_call,kont_pure,kont_round,isNil,slOk,sliceV,selems,srcElems,copyTo,dlen,eqAV,eqCells,eqS,wr,place,partVals,partEs,placeEs,mapOf,keyOk,keyCells,findK,Bool.bne_false,Bool.bne_true,List.drop_zero,List.nil_append,List.append_nil,List.take_zero,List.cons_append,List.take_succ_cons,List.drop_succ_cons,List.take_nil,List.drop_nil,Reg.isA,Reg.isV,Reg.stays,Reg.onto,Bool.false_or,Bool.or_false,Bool.false_and,Bool.and_false,Bool.true_and,Bool.and_true,Bool.or_true,Bool.true_or,↓reduceIte,reduceCtorEq,Nat.reduceEqDiff,Nat.reduceLT,Nat.reduceAdd,Nat.reduceMul,Nat.add_zero,Nat.zero_add,Nat.not_lt_zero,Nat.zero_ne_one,Nat.one_ne_zero,Nat.reduceLeDiff,Nat.lt_irrefl,Nat.zero_lt_succ,Bool.false_eq_true,Bool.not_true,Bool.not_false,Option.map_some,Option.map_none,Option.bind_some,Option.getD_some,Option.getD_none,and_self,and_true,true_and,List.length_cons,List.length_nil,List.any_nil,List.any_cons,Int.toNat_natCast,Int.cast_ofNat_Int,Int.natCast_zero,Int.natCast_nonneg,true_implies,or_true,true_or,false_or,or_false,beq_self_eq_true,Option.some.injEq,exists_eq_left',Int.reduceEq,Int.reduceLT,Int.reduceLE,Int.reduceGT,Int.reduceGE,Nat.reduceGT,Int.reduceNeg,Int.reduceToNat,Int.reduceAdd,Int.reduceMul,Int.reduceSub,Int.reducePow,decide_true,decide_false,decide_eq_true_eq,List.getElem?_cons_zero,List.getElem?_cons_succ,Nat.reduceBEq,Nat.reduceSub,exists_false,and_false,false_and,xu,List.set_cons_zero,List.set_cons_succ,wrap_i64,int_lt_t,int_lt_f,int_le_t,int_le_f,int_gt_t,int_gt_f,int_ge_t,int_ge_f,int_eq_t,int_eq_f,int_beq_t,int_beq_f,int_bne_t,int_bne_f,nat_le_t,nat_le_f,Nat.sub_zero,Nat.sub_self,not_false_eq_true,not_true_eq_false,hw1,hw2,hl]
    obtain ⟨g0, k1, k2, k3, k4⟩ := c13 (tot := true) (ω := ω) (n := 6301) H1 (by omega)
    obtain ⟨p, hp⟩ : ∃ p, p = H1.length + 2 := ⟨_, rfl⟩
    rw [← hp] at k1 k2
    have S0 : St g0 p .nils 0 := ⟨_, _, [], 0, [], 0, [], k2, rfl, Nat.le_refl _, by simp, by simp, .inl ⟨rfl, rfl⟩⟩
    simp (maxSteps := 2000000) (discharger := omega) only [xc,xo,xr,x0,x1,x2,x3,x4,x5,x6,xd,xe,xb,kont_call,kont_pure,kont_round,isNil,slOk,sliceV,selems,srcElems,copyTo,dlen,eqAV,eqCells,eqS,wr,place,partVals,partEs,placeEs,mapOf,keyOk,keyCells,findK,Bool.bne_false,Bool.bne_true,List.drop_zero,List.nil_append,List.append_nil,List.take_zero,List.cons_append,List.take_succ_cons,List.drop_succ_cons,List.take_nil,List.drop_nil,Reg.isA,Reg.isV,Reg.stays,Reg.onto,Bool.false_or,Bool.or_false,Bool.false_and,Bool.and_false,Bool.true_and,Bool.and_true,Bool.or_true,Bool.true_or,↓reduceIte,reduceCtorEq,Nat.reduceEqDiff,Nat.reduceLT,Nat.reduceAdd,Nat.reduceMul,Nat.add_zero,Nat.zero_add,Nat.not_lt_zero,Nat.zero_ne_one,Nat.one_ne_zero,Nat.reduceLeDiff,Nat.lt_irrefl,Nat.zero_lt_succ,Bool.false_eq_true,Bool.not_true,Bool.not_false,Option.map_some,Option.map_none,Option.bind_some,Option.getD_some,Option.getD_none,and_self,and_true,true_and,List.length_cons,List.length_nil,List.any_nil,List.any_cons,Int.toNat_natCast,Int.cast_ofNat_Int,Int.natCast_zero,Int.natCast_nonneg,true_implies,or_true,true_or,false_or,or_false,beq_self_eq_true,Option.some.injEq,exists_eq_left',Int.reduceEq,Int.reduceLT,Int.reduceLE,Int.reduceGT,Int.reduceGE,Nat.reduceGT,Int.reduceNeg,Int.reduceToNat,Int.reduceAdd,Int.reduceMul,Int.reduceSub,Int.reducePow,decide_true,decide_false,decide_eq_true_eq,List.getElem?_cons_zero,List.getElem?_cons_succ,Nat.reduceBEq,Nat.reduceSub,exists_false,and_false,false_and,xu,List.set_cons_zero,List.set_cons_succ,wrap_i64,int_lt_t,int_lt_f,int_le_t,int_le_f,int_gt_t,int_gt_f,int_ge_t,int_ge_f,int_eq_t,int_eq_f,int_beq_t,int_beq_f,int_bne_t,int_bne_f,nat_le_t,nat_le_f,Nat.sub_zero,Nat.sub_self,not_false_eq_true,not_true_eq_false,hw1,hl,k1]
    refine wpi_loop (fun k r g => ∃ (i : Nat) (rv : AV), r = [(0, .val v), (1, .val (.int .i64 seed)), (5, .val (.ptr p 2 0 0)), (6, .val rv), (7, .val (.int .i64 i))] ∧ i ≤ os.length ∧ k = os.length - i ∧ Nonempty (St g p rv i)) os.length (by omega) ⟨0, .nils, rfl, by omega, by omega, ⟨S0⟩⟩ ?_
    rintro k r g ⟨i, rv, rfl, hi, rfl, ⟨S⟩⟩
    by_cases hlt : i < os.length
    · obtain ⟨cc, rfl⟩ : ∃ cc, v = .imm 3 (os.map Ln.av) cc := by
        rcases hv with ⟨_, rfl⟩ | h
        · simp at hlt
        · exact h
      have q1 : (os.map Ln.av)[i]? = some (os[i].av) := by simp [hlt]
      have ho := hok _ (List.getElem_mem hlt)
      obtain ⟨o, hoe⟩ : ∃ o, o = os[i] := ⟨_, rfl⟩
      rw [← hoe] at q1 ho
      have q1 : (os.map Ln.av)[i]? = some (.agg [.int .i64 o.kind, .int .i64 o.num, o.val]) := q1
      have lo := ho.len
      have pv : plain o.val = some o.val := by
        rcases ho with ⟨h, _⟩ | h
        · rw [h]; rfl
        · rw [h]
          have hb : plains (bytesOf o.data) = some (bytesOf o.data) := plain_bytes _
          simp only [plain,hb,Option.map_some]
      by_cases hdl : 300 < o.data.length
      · simp (maxSteps := 2000000) (discharger := omega) only [xc,xo,xr,x0,x1,x2,x3,x4,x5,x6,xd,xe,xb,kont_call,kont_pure,kont_round,isNil,slOk,sliceV,selems,srcElems,copyTo,dlen,eqAV,eqCells,eqS,wr,place,partVals,partEs,placeEs,mapOf,keyOk,keyCells,findK,Bool.bne_false,Bool.bne_true,List.drop_zero,List.nil_append,List.append_nil,List.take_zero,List.cons_append,List.take_succ_cons,List.drop_succ_cons,List.take_nil,List.drop_nil,Reg.isA,Reg.isV,Reg.stays,Reg.onto,Bool.false_or,Bool.or_false,Bool.false_and,Bool.and_false,Bool.true_and,Bool.and_true,Bool.or_true,Bool.true_or,↓reduceIte,reduceCtorEq,Nat.reduceEqDiff,Nat.reduceLT,Nat.reduceAdd,Nat.reduceMul,Nat.add_zero,Nat.zero_add,Nat.not_lt_zero,Nat.zero_ne_one,Nat.one_ne_zero,Nat.reduceLeDiff,Nat.lt_irrefl,Nat.zero_lt_succ,Bool.false_eq_true,Bool.not_true,Bool.not_false,Option.map_some,Option.map_none,Option.bind_some,Option.getD_some,Option.getD_none,and_self,and_true,true_and,List.length_cons,List.length_nil,List.any_nil,List.any_cons,Int.toNat_natCast,Int.cast_ofNat_Int,Int.natCast_zero,Int.natCast_nonneg,true_implies,or_true,true_or,false_or,or_false,beq_self_eq_true,Option.some.injEq,exists_eq_left',Int.reduceEq,Int.reduceLT,Int.reduceLE,Int.reduceGT,Int.reduceGE,Nat.reduceGT,Int.reduceNeg,Int.reduceToNat,Int.reduceAdd,Int.reduceMul,Int.reduceSub,Int.reducePow,decide_true,decide_false,decide_eq_true_eq,List.getElem?_cons_zero,List.getElem?_cons_succ,Nat.reduceBEq,Nat.reduceSub,exists_false,and_false,false_and,xu,List.set_cons_zero,List.set_cons_succ,wrap_i64,int_lt_t,int_lt_f,int_le_t,int_le_f,int_gt_t,int_gt_f,int_ge_t,int_ge_f,int_eq_t,int_eq_f,int_beq_t,int_beq_f,int_bne_t,int_bne_f,nat_le_t,nat_le_f,Nat.sub_zero,Nat.sub_self,not_false_eq_true,not_true_eq_false,hl,q1,lo]
      have e10 := c10 (tot := false) (ω := fun _ => 0) (n := 6301) o.data o.val seed [] ho (by omega) (by omega)
      rw [arr8_sL] at e10
      have pls := ints_plain .u32 (sL o.data seed)
      have s8 := sL_len o.data seed
      have hi8 : (intsOf .u32 (sL o.data seed)).length = 8 := by simp [intsOf,s8]
      have ht8 : (intsOf .u32 (sL o.data seed)).take 8 = intsOf .u32 (sL o.data seed) := List.take_of_length_le (by omega)
      have hd8 : (intsOf .u32 (sL o.data seed)).drop 8 = [] := List.drop_of_length_le (by omega)
      obtain ⟨b, hb⟩ : ∃ b, b = IntKind.u8.wrap o.num := ⟨_, rfl⟩
      have hbr := u8_range o.num
      rw [← hb] at hbr
      by_cases hk1 : o.kind = 1
      · obtain ⟨g1, g2, rv2, a1, a2, S2⟩ := st_add (tot := true) (ω := ω) (n := 6301) S b (sL o.data seed) s8 hbr (by omega) (by omega)
        obtain ⟨S2⟩ := S2
        obtain ⟨v1, g3, w, g4, l0, n1, n2, n3, n4, n5, n6, n7, n8, n9⟩ := st_near (ω := ω) (n := 6301) S2 (sL o.data seed) o.num (sL_len _ _) (by omega) (by omega)
        have nl := n6.len
        rw [kAs_len] at nl
        simp (maxSteps := 2000000) (discharger := omega) only [xc,xo,xr,x0,x1,x2,x3,x4,x5,x6,xd,xe,xb,kont_call,kont_pure,kont_round,isNil,slOk,sliceV,selems,srcElems,copyTo,dlen,eqAV,eqCells,eqS,wr,place,partVals,partEs,placeEs,mapOf,keyOk,keyCells,findK,Bool.bne_false,Bool.bne_true,List.drop_zero,List.nil_append,List.append_nil,List.take_zero,List.cons_append,List.take_succ_cons,List.drop_succ_cons,List.take_nil,List.drop_nil,Reg.isA,Reg.isV,Reg.stays,Reg.onto,Bool.false_or,Bool.or_false,Bool.false_and,Bool.and_false,Bool.true_and,Bool.and_true,Bool.or_true,Bool.true_or,↓reduceIte,reduceCtorEq,Nat.reduceEqDiff,Nat.reduceLT,Nat.reduceAdd,Nat.reduceMul,Nat.add_zero,Nat.zero_add,Nat.not_lt_zero,Nat.zero_ne_one,Nat.one_ne_zero,Nat.reduceLeDiff,Nat.lt_irrefl,Nat.zero_lt_succ,Bool.false_eq_true,Bool.not_true,Bool.not_false,Option.map_some,Option.map_none,Option.bind_some,Option.getD_some,Option.getD_none,and_self,and_true,true_and,List.length_cons,List.length_nil,List.any_nil,List.any_cons,Int.toNat_natCast,Int.cast_ofNat_Int,Int.natCast_zero,Int.natCast_nonneg,true_implies,or_true,true_or,false_or,or_false,beq_self_eq_true,Option.some.injEq,exists_eq_left',Int.reduceEq,Int.reduceLT,Int.reduceLE,Int.reduceGT,Int.reduceGE,Nat.reduceGT,Int.reduceNeg,Int.reduceToNat,Int.reduceAdd,Int.reduceMul,Int.reduceSub,Int.reducePow,decide_true,decide_false,decide_eq_true_eq,List.getElem?_cons_zero,List.getElem?_cons_succ,Nat.reduceBEq,Nat.reduceSub,exists_false,and_false,false_and,xu,List.set_cons_zero,List.set_cons_succ,wrap_i64,int_lt_t,int_lt_f,int_le_t,int_le_f,int_gt_t,int_gt_f,int_ge_t,int_ge_f,int_eq_t,int_eq_f,int_beq_t,int_beq_f,int_bne_t,int_bne_f,nat_le_t,nat_le_f,Nat.sub_zero,Nat.sub_self,not_false_eq_true,not_true_eq_false,hl,q1,lo,e10,pv,pls,plains,plain,hi8,ht8,hd8,← hb,kCs_eqn,kCs_len,kCs_take,kCs_drop,hk1,a1,a2,n1,n2,n3,n4,n5]
        refine wpi_loop (fun k r g5 => ∃ (j : Nat) (es : List AV), r = [(0, .val (.imm 3 (os.map Ln.av) cc)), (1, .val (.int .i64 seed)), (5, .val (.ptr p 2 0 0)), (6, .val rv2), (7, .val (.int .i64 i)), (11, .val v1), (12, .val (.int .i64 j))] ∧ j ≤ l0.length ∧ k = l0.length - j ∧ RowAt g5 32 g2.length es v1 ∧ es.length = l0.length ∧ (∀ x ∈ es, ∃ cs, x = .agg cs ∧ cs.length = 32) ∧ KeepR g2.length 32 g4 g5) l0.length (by omega) ⟨0, kAs l0, rfl, by omega, by omega, n6, kAs_len _, fun x hx => by
          obtain ⟨b, _, rfl⟩ := List.mem_map.1 hx
          exact ⟨_, rfl, kCs_len b⟩, .refl⟩ ?_
        rintro k r g5 ⟨j, es, rfl, hj, rfl, rw5, hes, hcs, kr⟩
        by_cases hjl : j < l0.length
        · obtain ⟨id, post, rfl, b1, b2⟩ := rw5.row (i := j) (by omega)
          have hje : j < es.length := by omega
          obtain ⟨cs, hc1, hc2⟩ := hcs _ (List.getElem_mem hje)
          have u1 : (es ++ post)[j]? = some (.agg cs) := by rw [List.getElem?_append_left hje, List.getElem?_eq_getElem hje, hc1]
          have u2 : cs.drop 32 = [] := List.drop_of_length_le (by omega)
          have u3 : ∀ z, (es ++ post).set j z = es.set j z ++ post := fun z => by rw [List.set_append_left _ _ hje]
          have u4 : j < (es ++ post).length := by rw [List.length_append]; omega
          simp (maxSteps := 2000000) (discharger := omega) only [xc,xo,xr,x0,x1,x2,x3,x4,x5,x6,xd,xe,xb,kont_call,kont_pure,kont_round,isNil,slOk,sliceV,selems,srcElems,copyTo,dlen,eqAV,eqCells,eqS,wr,place,partVals,partEs,placeEs,mapOf,keyOk,keyCells,findK,Bool.bne_false,Bool.bne_true,List.drop_zero,List.nil_append,List.append_nil,List.take_zero,List.cons_append,List.take_succ_cons,List.drop_succ_cons,List.take_nil,List.drop_nil,Reg.isA,Reg.isV,Reg.stays,Reg.onto,Bool.false_or,Bool.or_false,Bool.false_and,Bool.and_false,Bool.true_and,Bool.and_true,Bool.or_true,Bool.true_or,↓reduceIte,reduceCtorEq,Nat.reduceEqDiff,Nat.reduceLT,Nat.reduceAdd,Nat.reduceMul,Nat.add_zero,Nat.zero_add,Nat.not_lt_zero,Nat.zero_ne_one,Nat.one_ne_zero,Nat.reduceLeDiff,Nat.lt_irrefl,Nat.zero_lt_succ,Bool.false_eq_true,Bool.not_true,Bool.not_false,Option.map_some,Option.map_none,Option.bind_some,Option.getD_some,Option.getD_none,and_self,and_true,true_and,List.length_cons,List.length_nil,List.any_nil,List.any_cons,Int.toNat_natCast,Int.cast_ofNat_Int,Int.natCast_zero,Int.natCast_nonneg,true_implies,or_true,true_or,false_or,or_false,beq_self_eq_true,Option.some.injEq,exists_eq_left',Int.reduceEq,Int.reduceLT,Int.reduceLE,Int.reduceGT,Int.reduceGE,Nat.reduceGT,Int.reduceNeg,Int.reduceToNat,Int.reduceAdd,Int.reduceMul,Int.reduceSub,Int.reducePow,decide_true,decide_false,decide_eq_true_eq,List.getElem?_cons_zero,List.getElem?_cons_succ,Nat.reduceBEq,Nat.reduceSub,exists_false,and_false,false_and,xu,List.set_cons_zero,List.set_cons_succ,wrap_i64,int_lt_t,int_lt_f,int_le_t,int_le_f,int_gt_t,int_gt_f,int_ge_t,int_ge_f,int_eq_t,int_eq_f,int_beq_t,int_beq_f,int_bne_t,int_bne_f,nat_le_t,nat_le_f,Nat.sub_zero,Nat.sub_self,not_false_eq_true,not_true_eq_false,nl,b1,u1,u2,hc2,u3]
          refine ⟨l0.length - (j + 1), by omega, j + 1, es.set j (.agg ZL32), rfl, by omega, rfl, .inr ⟨id, post, by simp, ?_, b2⟩, by simp [hes], fun x hx => ?_, kr.trans (.set b1 b2)⟩
          · have := (List.getElem?_eq_some_iff.1 b1).1
            simp [this]
          · rcases List.mem_or_eq_of_mem_set hx with h | h
            · exact hcs x h
            · exact ⟨_, h, rfl⟩
        · obtain rfl : j = l0.length := by omega
          simp (maxSteps := 2000000) (discharger := omega) only [xc,xo,xr,x0,x1,x2,x3,x4,x5,x6,xd,xe,xb,kont_call,kont_pure,kont_round,isNil,slOk,sliceV,selems,srcElems,copyTo,dlen,eqAV,eqCells,eqS,wr,place,partVals,partEs,placeEs,mapOf,keyOk,keyCells,findK,Bool.bne_false,Bool.bne_true,List.drop_zero,List.nil_append,List.append_nil,List.take_zero,List.cons_append,List.take_succ_cons,List.drop_succ_cons,List.take_nil,List.drop_nil,Reg.isA,Reg.isV,Reg.stays,Reg.onto,Bool.false_or,Bool.or_false,Bool.false_and,Bool.and_false,Bool.true_and,Bool.and_true,Bool.or_true,Bool.true_or,↓reduceIte,reduceCtorEq,Nat.reduceEqDiff,Nat.reduceLT,Nat.reduceAdd,Nat.reduceMul,Nat.add_zero,Nat.zero_add,Nat.not_lt_zero,Nat.zero_ne_one,Nat.one_ne_zero,Nat.reduceLeDiff,Nat.lt_irrefl,Nat.zero_lt_succ,Bool.false_eq_true,Bool.not_true,Bool.not_false,Option.map_some,Option.map_none,Option.bind_some,Option.getD_some,Option.getD_none,and_self,and_true,true_and,List.length_cons,List.length_nil,List.any_nil,List.any_cons,Int.toNat_natCast,Int.cast_ofNat_Int,Int.natCast_zero,Int.natCast_nonneg,true_implies,or_true,true_or,false_or,or_false,beq_self_eq_true,Option.some.injEq,exists_eq_left',Int.reduceEq,Int.reduceLT,Int.reduceLE,Int.reduceGT,Int.reduceGE,Nat.reduceGT,Int.reduceNeg,Int.reduceToNat,Int.reduceAdd,Int.reduceMul,Int.reduceSub,Int.reducePow,decide_true,decide_false,decide_eq_true_eq,List.getElem?_cons_zero,List.getElem?_cons_succ,Nat.reduceBEq,Nat.reduceSub,exists_false,and_false,false_and,xu,List.set_cons_zero,List.set_cons_succ,wrap_i64,int_lt_t,int_lt_f,int_le_t,int_le_f,int_gt_t,int_gt_f,int_ge_t,int_ge_f,int_eq_t,int_eq_f,int_beq_t,int_beq_f,int_bne_t,int_bne_f,nat_le_t,nat_le_f,Nat.sub_zero,Nat.sub_self,not_false_eq_true,not_true_eq_false,nl]
          refine ⟨os.length - (i + 1), by omega, i + 1, rv2, rfl, by omega, rfl, ?_⟩
          exact S2.keep (fun id o ho hs => kr.2 id o (n8 id o ho hs) (.inl (List.getElem?_eq_some_iff.1 ho).1)) (n9.trans (keepR_kt kr)) (Nat.le_refl _)
      · by_cases hk2 : o.kind = 2
        · obtain ⟨g1, g2, rv2, a1, a2, S2⟩ := st_drop (tot := true) (ω := ω) (n := 6301) S b (by omega) (by omega)
          obtain ⟨S2⟩ := S2
          obtain ⟨v1, g3, w, g4, l0, n1, n2, n3, n4, n5, n6, n7, n8, n9⟩ := st_near (ω := ω) (n := 6301) S2 (sL o.data seed) o.num (sL_len _ _) (by omega) (by omega)
          have nl := n6.len
          rw [kAs_len] at nl
          simp (maxSteps := 2000000) (discharger := omega) only [xc,xo,xr,x0,x1,x2,x3,x4,x5,x6,xd,xe,xb,kont_call,kont_pure,kont_round,isNil,slOk,sliceV,selems,srcElems,copyTo,dlen,eqAV,eqCells,eqS,wr,place,partVals,partEs,placeEs,mapOf,keyOk,keyCells,findK,Bool.bne_false,Bool.bne_true,List.drop_zero,List.nil_append,List.append_nil,List.take_zero,List.cons_append,List.take_succ_cons,List.drop_succ_cons,List.take_nil,List.drop_nil,Reg.isA,Reg.isV,Reg.stays,Reg.onto,Bool.false_or,Bool.or_false,Bool.false_and,Bool.and_false,Bool.true_and,Bool.and_true,Bool.or_true,Bool.true_or,↓reduceIte,reduceCtorEq,Nat.reduceEqDiff,Nat.reduceLT,Nat.reduceAdd,Nat.reduceMul,Nat.add_zero,Nat.zero_add,Nat.not_lt_zero,Nat.zero_ne_one,Nat.one_ne_zero,Nat.reduceLeDiff,Nat.lt_irrefl,Nat.zero_lt_succ,Bool.false_eq_true,Bool.not_true,Bool.not_false,Option.map_some,Option.map_none,Option.bind_some,Option.getD_some,Option.getD_none,and_self,and_true,true_and,List.length_cons,List.length_nil,List.any_nil,List.any_cons,Int.toNat_natCast,Int.cast_ofNat_Int,Int.natCast_zero,Int.natCast_nonneg,true_implies,or_true,true_or,false_or,or_false,beq_self_eq_true,Option.some.injEq,exists_eq_left',Int.reduceEq,Int.reduceLT,Int.reduceLE,Int.reduceGT,Int.reduceGE,Nat.reduceGT,Int.reduceNeg,Int.reduceToNat,Int.reduceAdd,Int.reduceMul,Int.reduceSub,Int.reducePow,decide_true,decide_false,decide_eq_true_eq,List.getElem?_cons_zero,List.getElem?_cons_succ,Nat.reduceBEq,Nat.reduceSub,exists_false,and_false,false_and,xu,List.set_cons_zero,List.set_cons_succ,wrap_i64,int_lt_t,int_lt_f,int_le_t,int_le_f,int_gt_t,int_gt_f,int_ge_t,int_ge_f,int_eq_t,int_eq_f,int_beq_t,int_beq_f,int_bne_t,int_bne_f,nat_le_t,nat_le_f,Nat.sub_zero,Nat.sub_self,not_false_eq_true,not_true_eq_false,hl,q1,lo,e10,pv,pls,plains,plain,hi8,ht8,hd8,← hb,kCs_eqn,kCs_len,kCs_take,kCs_drop,hk1,hk2,a1,a2,n1,n2,n3,n4,n5]
          refine wpi_loop (fun k r g5 => ∃ (j : Nat) (es : List AV), r = [(0, .val (.imm 3 (os.map Ln.av) cc)), (1, .val (.int .i64 seed)), (5, .val (.ptr p 2 0 0)), (6, .val rv2), (7, .val (.int .i64 i)), (11, .val v1), (12, .val (.int .i64 j))] ∧ j ≤ l0.length ∧ k = l0.length - j ∧ RowAt g5 32 g2.length es v1 ∧ es.length = l0.length ∧ (∀ x ∈ es, ∃ cs, x = .agg cs ∧ cs.length = 32) ∧ KeepR g2.length 32 g4 g5) l0.length (by omega) ⟨0, kAs l0, rfl, by omega, by omega, n6, kAs_len _, fun x hx => by
            obtain ⟨b, _, rfl⟩ := List.mem_map.1 hx
            exact ⟨_, rfl, kCs_len b⟩, .refl⟩ ?_
          rintro k r g5 ⟨j, es, rfl, hj, rfl, rw5, hes, hcs, kr⟩
          by_cases hjl : j < l0.length
          · obtain ⟨id, post, rfl, b1, b2⟩ := rw5.row (i := j) (by omega)
            have hje : j < es.length := by omega
            obtain ⟨cs, hc1, hc2⟩ := hcs _ (List.getElem_mem hje)
            have u1 : (es ++ post)[j]? = some (.agg cs) := by rw [List.getElem?_append_left hje, List.getElem?_eq_getElem hje, hc1]
            have u2 : cs.drop 32 = [] := List.drop_of_length_le (by omega)
            have u3 : ∀ z, (es ++ post).set j z = es.set j z ++ post := fun z => by rw [List.set_append_left _ _ hje]
            have u4 : j < (es ++ post).length := by rw [List.length_append]; omega
            simp (maxSteps := 2000000) (discharger := omega) only [xc,xo,xr,x0,x1,x2,x3,x4,x5,x6,xd,xe,xb,kont_call,kont_pure,kont_round,isNil,slOk,sliceV,selems,srcElems,copyTo,dlen,eqAV,eqCells,eqS,wr,place,partVals,partEs,placeEs,mapOf,keyOk,keyCells,findK,Bool.bne_false,Bool.bne_true,List.drop_zero,List.nil_append,List.append_nil,List.take_zero,List.cons_append,List.take_succ_cons,List.drop_succ_cons,List.take_nil,List.drop_nil,Reg.isA,Reg.isV,Reg.stays,Reg.onto,Bool.false_or,Bool.or_false,Bool.false_and,Bool.and_false,Bool.true_and,Bool.and_true,Bool.or_true,Bool.true_or,↓reduceIte,reduceCtorEq,Nat.reduceEqDiff,Nat.reduceLT,Nat.reduceAdd,Nat.reduceMul,Nat.add_zero,Nat.zero_add,Nat.not_lt_zero,Nat.zero_ne_one,Nat.one_ne_zero,Nat.reduceLeDiff,Nat.lt_irrefl,Nat.zero_lt_succ,Bool.false_eq_true,Bool.not_true,Bool.not_false,Option.map_some,Option.map_none,Option.bind_some,Option.getD_some,Option.getD_none,and_self,and_true,true_and,List.length_cons,List.length_nil,List.any_nil,List.any_cons,Int.toNat_natCast,Int.cast_ofNat_Int,Int.natCast_zero,Int.natCast_nonneg,true_implies,or_true,true_or,false_or,or_false,beq_self_eq_true,Option.some.injEq,exists_eq_left',Int.reduceEq,Int.reduceLT,Int.reduceLE,Int.reduceGT,Int.reduceGE,Nat.reduceGT,Int.reduceNeg,Int.reduceToNat,Int.reduceAdd,Int.reduceMul,Int.reduceSub,Int.reducePow,decide_true,decide_false,decide_eq_true_eq,List.getElem?_cons_zero,List.getElem?_cons_succ,Nat.reduceBEq,Nat.reduceSub,exists_false,and_false,false_and,xu,List.set_cons_zero,List.set_cons_succ,wrap_i64,int_lt_t,int_lt_f,int_le_t,int_le_f,int_gt_t,int_gt_f,int_ge_t,int_ge_f,int_eq_t,int_eq_f,int_beq_t,int_beq_f,int_bne_t,int_bne_f,nat_le_t,nat_le_f,Nat.sub_zero,Nat.sub_self,not_false_eq_true,not_true_eq_false,nl,b1,u1,u2,hc2,u3]
            refine ⟨l0.length - (j + 1), by omega, j + 1, es.set j (.agg ZL32), rfl, by omega, rfl, .inr ⟨id, post, by simp, ?_, b2⟩, by simp [hes], fun x hx => ?_, kr.trans (.set b1 b2)⟩
            · have := (List.getElem?_eq_some_iff.1 b1).1
              simp [this]
            · rcases List.mem_or_eq_of_mem_set hx with h | h
              · exact hcs x h
              · exact ⟨_, h, rfl⟩
          · obtain rfl : j = l0.length := by omega
            simp (maxSteps := 2000000) (discharger := omega) only [xc,xo,xr,x0,x1,x2,x3,x4,x5,x6,xd,xe,xb,kont_call,kont_pure,kont_round,isNil,slOk,sliceV,selems,srcElems,copyTo,dlen,eqAV,eqCells,eqS,wr,place,partVals,partEs,placeEs,mapOf,keyOk,keyCells,findK,Bool.bne_false,Bool.bne_true,List.drop_zero,List.nil_append,List.append_nil,List.take_zero,List.cons_append,List.take_succ_cons,List.drop_succ_cons,List.take_nil,List.drop_nil,Reg.isA,Reg.isV,Reg.stays,Reg.onto,Bool.false_or,Bool.or_false,Bool.false_and,Bool.and_false,Bool.true_and,Bool.and_true,Bool.or_true,Bool.true_or,↓reduceIte,reduceCtorEq,Nat.reduceEqDiff,Nat.reduceLT,Nat.reduceAdd,Nat.reduceMul,Nat.add_zero,Nat.zero_add,Nat.not_lt_zero,Nat.zero_ne_one,Nat.one_ne_zero,Nat.reduceLeDiff,Nat.lt_irrefl,Nat.zero_lt_succ,Bool.false_eq_true,Bool.not_true,Bool.not_false,Option.map_some,Option.map_none,Option.bind_some,Option.getD_some,Option.getD_none,and_self,and_true,true_and,List.length_cons,List.length_nil,List.any_nil,List.any_cons,Int.toNat_natCast,Int.cast_ofNat_Int,Int.natCast_zero,Int.natCast_nonneg,true_implies,or_true,true_or,false_or,or_false,beq_self_eq_true,Option.some.injEq,exists_eq_left',Int.reduceEq,Int.reduceLT,Int.reduceLE,Int.reduceGT,Int.reduceGE,Nat.reduceGT,Int.reduceNeg,Int.reduceToNat,Int.reduceAdd,Int.reduceMul,Int.reduceSub,Int.reducePow,decide_true,decide_false,decide_eq_true_eq,List.getElem?_cons_zero,List.getElem?_cons_succ,Nat.reduceBEq,Nat.reduceSub,exists_false,and_false,false_and,xu,List.set_cons_zero,List.set_cons_succ,wrap_i64,int_lt_t,int_lt_f,int_le_t,int_le_f,int_gt_t,int_gt_f,int_ge_t,int_ge_f,int_eq_t,int_eq_f,int_beq_t,int_beq_f,int_bne_t,int_bne_f,nat_le_t,nat_le_f,Nat.sub_zero,Nat.sub_self,not_false_eq_true,not_true_eq_false,nl]
            refine ⟨os.length - (i + 1), by omega, i + 1, rv2, rfl, by omega, rfl, ?_⟩
            exact S2.keep (fun id o ho hs => kr.2 id o (n8 id o ho hs) (.inl (List.getElem?_eq_some_iff.1 ho).1)) (n9.trans (keepR_kt kr)) (Nat.le_refl _)
        · have S2 := S.keep (keeps_refl g) (KT.refl g) (Nat.le_succ i)
          obtain ⟨S2⟩ := S2
          obtain ⟨v1, g3, w, g4, l0, n1, n2, n3, n4, n5, n6, n7, n8, n9⟩ := st_near (ω := ω) (n := 6301) S2 (sL o.data seed) o.num (sL_len _ _) (by omega) (by omega)
          have nl := n6.len
          rw [kAs_len] at nl
          simp (maxSteps := 2000000) (discharger := omega) only [xc,xo,xr,x0,x1,x2,x3,x4,x5,x6,xd,xe,xb,kont_call,kont_pure,kont_round,isNil,slOk,sliceV,selems,srcElems,copyTo,dlen,eqAV,eqCells,eqS,wr,place,partVals,partEs,placeEs,mapOf,keyOk,keyCells,findK,Bool.bne_false,Bool.bne_true,List.drop_zero,List.nil_append,List.append_nil,List.take_zero,List.cons_append,List.take_succ_cons,List.drop_succ_cons,List.take_nil,List.drop_nil,Reg.isA,Reg.isV,Reg.stays,Reg.onto,Bool.false_or,Bool.or_false,Bool.false_and,Bool.and_false,Bool.true_and,Bool.and_true,Bool.or_true,Bool.true_or,↓reduceIte,reduceCtorEq,Nat.reduceEqDiff,Nat.reduceLT,Nat.reduceAdd,Nat.reduceMul,Nat.add_zero,Nat.zero_add,Nat.not_lt_zero,Nat.zero_ne_one,Nat.one_ne_zero,Nat.reduceLeDiff,Nat.lt_irrefl,Nat.zero_lt_succ,Bool.false_eq_true,Bool.not_true,Bool.not_false,Option.map_some,Option.map_none,Option.bind_some,Option.getD_some,Option.getD_none,and_self,and_true,true_and,List.length_cons,List.length_nil,List.any_nil,List.any_cons,Int.toNat_natCast,Int.cast_ofNat_Int,Int.natCast_zero,Int.natCast_nonneg,true_implies,or_true,true_or,false_or,or_false,beq_self_eq_true,Option.some.injEq,exists_eq_left',Int.reduceEq,Int.reduceLT,Int.reduceLE,Int.reduceGT,Int.reduceGE,Nat.reduceGT,Int.reduceNeg,Int.reduceToNat,Int.reduceAdd,Int.reduceMul,Int.reduceSub,Int.reducePow,decide_true,decide_false,decide_eq_true_eq,List.getElem?_cons_zero,List.getElem?_cons_succ,Nat.reduceBEq,Nat.reduceSub,exists_false,and_false,false_and,xu,List.set_cons_zero,List.set_cons_succ,wrap_i64,int_lt_t,int_lt_f,int_le_t,int_le_f,int_gt_t,int_gt_f,int_ge_t,int_ge_f,int_eq_t,int_eq_f,int_beq_t,int_beq_f,int_bne_t,int_bne_f,nat_le_t,nat_le_f,Nat.sub_zero,Nat.sub_self,not_false_eq_true,not_true_eq_false,hl,q1,lo,e10,pv,pls,plains,plain,hi8,ht8,hd8,← hb,kCs_eqn,kCs_len,kCs_take,kCs_drop,hk1,hk2,n1,n2,n3,n4,n5]
          refine wpi_loop (fun k r g5 => ∃ (j : Nat) (es : List AV), r = [(0, .val (.imm 3 (os.map Ln.av) cc)), (1, .val (.int .i64 seed)), (5, .val (.ptr p 2 0 0)), (6, .val rv), (7, .val (.int .i64 i)), (11, .val v1), (12, .val (.int .i64 j))] ∧ j ≤ l0.length ∧ k = l0.length - j ∧ RowAt g5 32 g.length es v1 ∧ es.length = l0.length ∧ (∀ x ∈ es, ∃ cs, x = .agg cs ∧ cs.length = 32) ∧ KeepR g.length 32 g4 g5) l0.length (by omega) ⟨0, kAs l0, rfl, by omega, by omega, n6, kAs_len _, fun x hx => by
            obtain ⟨b, _, rfl⟩ := List.mem_map.1 hx
            exact ⟨_, rfl, kCs_len b⟩, .refl⟩ ?_
          rintro k r g5 ⟨j, es, rfl, hj, rfl, rw5, hes, hcs, kr⟩
          by_cases hjl : j < l0.length
          · obtain ⟨id, post, rfl, b1, b2⟩ := rw5.row (i := j) (by omega)
            have hje : j < es.length := by omega
            obtain ⟨cs, hc1, hc2⟩ := hcs _ (List.getElem_mem hje)
            have u1 : (es ++ post)[j]? = some (.agg cs) := by rw [List.getElem?_append_left hje, List.getElem?_eq_getElem hje, hc1]
            have u2 : cs.drop 32 = [] := List.drop_of_length_le (by omega)
            have u3 : ∀ z, (es ++ post).set j z = es.set j z ++ post := fun z => by rw [List.set_append_left _ _ hje]
            have u4 : j < (es ++ post).length := by rw [List.length_append]; omega
            simp (maxSteps := 2000000) (discharger := omega) only [xc,xo,xr,x0,x1,x2,x3,x4,x5,x6,xd,xe,xb,kont_call,kont_pure,kont_round,isNil,slOk,sliceV,selems,srcElems,copyTo,dlen,eqAV,eqCells,eqS,wr,place,partVals,partEs,placeEs,mapOf,keyOk,keyCells,findK,Bool.bne_false,Bool.bne_true,List.drop_zero,List.nil_append,List.append_nil,List.take_zero,List.cons_append,List.take_succ_cons,List.drop_succ_cons,List.take_nil,List.drop_nil,Reg.isA,Reg.isV,Reg.stays,Reg.onto,Bool.false_or,Bool.or_false,Bool.false_and,Bool.and_false,Bool.true_and,Bool.and_true,Bool.or_true,Bool.true_or,↓reduceIte,reduceCtorEq,Nat.reduceEqDiff,Nat.reduceLT,Nat.reduceAdd,Nat.reduceMul,Nat.add_zero,Nat.zero_add,Nat.not_lt_zero,Nat.zero_ne_one,Nat.one_ne_zero,Nat.reduceLeDiff,Nat.lt_irrefl,Nat.zero_lt_succ,Bool.false_eq_true,Bool.not_true,Bool.not_false,Option.map_some,Option.map_none,Option.bind_some,Option.getD_some,Option.getD_none,and_self,and_true,true_and,List.length_cons,List.length_nil,List.any_nil,List.any_cons,Int.toNat_natCast,Int.cast_ofNat_Int,Int.natCast_zero,Int.natCast_nonneg,true_implies,or_true,true_or,false_or,or_false,beq_self_eq_true,Option.some.injEq,exists_eq_left',Int.reduceEq,Int.reduceLT,Int.reduceLE,Int.reduceGT,Int.reduceGE,Nat.reduceGT,Int.reduceNeg,Int.reduceToNat,Int.reduceAdd,Int.reduceMul,Int.reduceSub,Int.reducePow,decide_true,decide_false,decide_eq_true_eq,List.getElem?_cons_zero,List.getElem?_cons_succ,Nat.reduceBEq,Nat.reduceSub,exists_false,and_false,false_and,xu,List.set_cons_zero,List.set_cons_succ,wrap_i64,int_lt_t,int_lt_f,int_le_t,int_le_f,int_gt_t,int_gt_f,int_ge_t,int_ge_f,int_eq_t,int_eq_f,int_beq_t,int_beq_f,int_bne_t,int_bne_f,nat_le_t,nat_le_f,Nat.sub_zero,Nat.sub_self,not_false_eq_true,not_true_eq_false,nl,b1,u1,u2,hc2,u3]
            refine ⟨l0.length - (j + 1), by omega, j + 1, es.set j (.agg ZL32), rfl, by omega, rfl, .inr ⟨id, post, by simp, ?_, b2⟩, by simp [hes], fun x hx => ?_, kr.trans (.set b1 b2)⟩
            · have := (List.getElem?_eq_some_iff.1 b1).1
              simp [this]
            · rcases List.mem_or_eq_of_mem_set hx with h | h
              · exact hcs x h
              · exact ⟨_, h, rfl⟩
          · obtain rfl : j = l0.length := by omega
            simp (maxSteps := 2000000) (discharger := omega) only [xc,xo,xr,x0,x1,x2,x3,x4,x5,x6,xd,xe,xb,kont_call,kont_pure,kont_round,isNil,slOk,sliceV,selems,srcElems,copyTo,dlen,eqAV,eqCells,eqS,wr,place,partVals,partEs,placeEs,mapOf,keyOk,keyCells,findK,Bool.bne_false,Bool.bne_true,List.drop_zero,List.nil_append,List.append_nil,List.take_zero,List.cons_append,List.take_succ_cons,List.drop_succ_cons,List.take_nil,List.drop_nil,Reg.isA,Reg.isV,Reg.stays,Reg.onto,Bool.false_or,Bool.or_false,Bool.false_and,Bool.and_false,Bool.true_and,Bool.and_true,Bool.or_true,Bool.true_or,↓reduceIte,reduceCtorEq,Nat.reduceEqDiff,Nat.reduceLT,Nat.reduceAdd,Nat.reduceMul,Nat.add_zero,Nat.zero_add,Nat.not_lt_zero,Nat.zero_ne_one,Nat.one_ne_zero,Nat.reduceLeDiff,Nat.lt_irrefl,Nat.zero_lt_succ,Bool.false_eq_true,Bool.not_true,Bool.not_false,Option.map_some,Option.map_none,Option.bind_some,Option.getD_some,Option.getD_none,and_self,and_true,true_and,List.length_cons,List.length_nil,List.any_nil,List.any_cons,Int.toNat_natCast,Int.cast_ofNat_Int,Int.natCast_zero,Int.natCast_nonneg,true_implies,or_true,true_or,false_or,or_false,beq_self_eq_true,Option.some.injEq,exists_eq_left',Int.reduceEq,Int.reduceLT,Int.reduceLE,Int.reduceGT,Int.reduceGE,Nat.reduceGT,Int.reduceNeg,Int.reduceToNat,Int.reduceAdd,Int.reduceMul,Int.reduceSub,Int.reducePow,decide_true,decide_false,decide_eq_true_eq,List.getElem?_cons_zero,List.getElem?_cons_succ,Nat.reduceBEq,Nat.reduceSub,exists_false,and_false,false_and,xu,List.set_cons_zero,List.set_cons_succ,wrap_i64,int_lt_t,int_lt_f,int_le_t,int_le_f,int_gt_t,int_gt_f,int_ge_t,int_ge_f,int_eq_t,int_eq_f,int_beq_t,int_beq_f,int_bne_t,int_bne_f,nat_le_t,nat_le_f,Nat.sub_zero,Nat.sub_self,not_false_eq_true,not_true_eq_false,nl]
            refine ⟨os.length - (i + 1), by omega, i + 1, rv, rfl, by omega, rfl, ?_⟩
            exact S2.keep (fun id o ho hs => kr.2 id o (n8 id o ho hs) (.inl (List.getElem?_eq_some_iff.1 ho).1)) (n9.trans (keepR_kt kr)) (Nat.le_refl _)
    · obtain rfl : i = os.length := by omega
      simp (maxSteps := 2000000) (discharger := omega) only [xc,xo,xr,x0,x1,x2,x3,x4,x5,x6,xd,xe,xb,kont_call,kont_pure,kont_round,isNil,slOk,sliceV,selems,srcElems,copyTo,dlen,eqAV,eqCells,eqS,wr,place,partVals,partEs,placeEs,mapOf,keyOk,keyCells,findK,Bool.bne_false,Bool.bne_true,List.drop_zero,List.nil_append,List.append_nil,List.take_zero,List.cons_append,List.take_succ_cons,List.drop_succ_cons,List.take_nil,List.drop_nil,Reg.isA,Reg.isV,Reg.stays,Reg.onto,Bool.false_or,Bool.or_false,Bool.false_and,Bool.and_false,Bool.true_and,Bool.and_true,Bool.or_true,Bool.true_or,↓reduceIte,reduceCtorEq,Nat.reduceEqDiff,Nat.reduceLT,Nat.reduceAdd,Nat.reduceMul,Nat.add_zero,Nat.zero_add,Nat.not_lt_zero,Nat.zero_ne_one,Nat.one_ne_zero,Nat.reduceLeDiff,Nat.lt_irrefl,Nat.zero_lt_succ,Bool.false_eq_true,Bool.not_true,Bool.not_false,Option.map_some,Option.map_none,Option.bind_some,Option.getD_some,Option.getD_none,and_self,and_true,true_and,List.length_cons,List.length_nil,List.any_nil,List.any_cons,Int.toNat_natCast,Int.cast_ofNat_Int,Int.natCast_zero,Int.natCast_nonneg,true_implies,or_true,true_or,false_or,or_false,beq_self_eq_true,Option.some.injEq,exists_eq_left',Int.reduceEq,Int.reduceLT,Int.reduceLE,Int.reduceGT,Int.reduceGE,Nat.reduceGT,Int.reduceNeg,Int.reduceToNat,Int.reduceAdd,Int.reduceMul,Int.reduceSub,Int.reducePow,decide_true,decide_false,decide_eq_true_eq,List.getElem?_cons_zero,List.getElem?_cons_succ,Nat.reduceBEq,Nat.reduceSub,exists_false,and_false,false_and,xu,List.set_cons_zero,List.set_cons_succ,wrap_i64,int_lt_t,int_lt_f,int_le_t,int_le_f,int_gt_t,int_gt_f,int_ge_t,int_ge_f,int_eq_t,int_eq_f,int_beq_t,int_beq_f,int_bne_t,int_bne_f,nat_le_t,nat_le_f,Nat.sub_zero,Nat.sub_self,not_false_eq_true,not_true_eq_false,hl])
  exact ⟨h', by rw [e, hu]⟩
end Go.Proofs.Ytdjlcddkfjbebaa.Im

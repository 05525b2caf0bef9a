/- S14So: the orders, and what is sorted. -/
import Derived.Test.YtabpndekmpjmhaaLi
import Derived.Test.YtabpndekmpjmhaaImSort9
import Derived.KernelRfl
set_option linter.unusedVariables false
set_option linter.unusedSimpArgs false
open Go Go.Im
namespace Go.Proofs.Ytabpndekmpjmhaa.Im

/-! ### texts -/
theorem bl_irrefl : ∀ (a : List UInt8), Op.bytesLess a a = false
  | [] => rfl
  | a :: l => by simp [Op.bytesLess,bl_irrefl l]
theorem bl_trans : ∀ (a b c : List UInt8), Op.bytesLess a b = true → Op.bytesLess b c = true → Op.bytesLess a c = true
  | a, b, [], _, h => by cases b <;> simp [Op.bytesLess] at h
  | a, [], c :: cs, h, _ => by cases a <;> simp [Op.bytesLess] at h
  | [], b :: bs, c :: cs, _, _ => rfl
  | a :: aq, b :: bs, c :: cs, h1, h2 => by
    simp only [Op.bytesLess,Bool.or_eq_true,Bool.and_eq_true,decide_eq_true_eq,beq_iff_eq] at *
    rcases h1 with h1 | ⟨rfl, h1⟩
    · rcases h2 with h2 | ⟨rfl, h2⟩
      · left; exact UInt8.lt_trans h1 h2
      · left; exact h1
    · rcases h2 with h2 | ⟨rfl, h2⟩
      · left; exact h2
      · right; exact ⟨rfl, bl_trans aq bs cs h1 h2⟩
theorem bl_tri : ∀ (a b : List UInt8), Op.bytesLess a b = false → Op.bytesLess b a = false → a = b
  | [], [], _, _ => rfl
  | [], b :: bs, h, _ => by simp [Op.bytesLess] at h
  | a :: aq, [], _, h => by simp [Op.bytesLess] at h
  | a :: aq, b :: bs, h1, h2 => by
    simp only [Op.bytesLess,Bool.or_eq_false_iff,decide_eq_false_iff_not,Bool.and_eq_false_imp,beq_iff_eq] at h1 h2
    have hab : a = b := by
      have k1 := h1.1; have k2 := h2.1
      rw [UInt8.lt_iff_toNat_lt] at k1 k2
      exact UInt8.toNat_inj.1 (by omega)
    subst hab
    rw [bl_tri aq bs (h1.2 rfl) (h2.2 rfl)]
theorem bl_ntrans (a b c : List UInt8) (h1 : Op.bytesLess a b = false) (h2 : Op.bytesLess b c = false) : Op.bytesLess a c = false := by
  cases h : Op.bytesLess a c with
  | false => rfl
  | true =>
    cases h3 : Op.bytesLess b a with
    | true => rw [bl_trans b a c h3 h] at h2; cases h2
    | false => rw [bl_tri a b h1 h3] at h; rw [h] at h2; cases h2
theorem cmp_lt : ∀ (a b : List UInt8), decide (Go.Lib.compareBytes a b < 0) = Op.bytesLess a b
  | [], [] => rfl
  | [], _ :: _ => rfl
  | _ :: _, [] => rfl
  | a :: aq, b :: bs => by
    have ih := cmp_lt aq bs
    simp only [Go.Lib.compareBytes,Op.bytesLess]
    by_cases h1 : a < b
    · simp [h1]
    · by_cases h2 : b < a
      · have : (a == b) = false := by
          simp only [beq_eq_false_iff_ne]
          rintro rfl
          exact h1 h2
        simp [h1,h2,this]
      · have : a = b := by
          rw [UInt8.lt_iff_toNat_lt] at h1 h2
          exact UInt8.toNat_inj.1 (by omega)
        subst this
        simp [h1,ih]

theorem f62 : F 62 = some (.inr cmpG) := by kernel_rfl
theorem c62 {tot : Bool} {ω : Nat → Nat} {n : Nat} (a b : List UInt8) (h : Hp) (hn : 0 < n) : call F n tot ω 62 [.str a, .str b] h = some (.int .i64 (Go.Lib.compareBytes a b), h) := by
  obtain ⟨n, rfl⟩ : ∃ m, n = m + 1 := ⟨n - 1, by omega⟩
  simp only [call,f62]
  rfl
theorem c48 {tot : Bool} {ω : Nat → Nat} {n : Nat} (a b : List UInt8) (h : Hp) (hn : 1 < n) : call F n tot ω 48 [.str a, .str b] h = some (.int .i64 (Go.Lib.compareBytes a b), h) := by
  obtain ⟨n, rfl⟩ : ∃ m, n = m + 1 := ⟨n - 1, by omega⟩
  refine call_eq (fn := a48) f48 ?_
  unfold a48
  have e1 := c62 (tot := tot) (ω := ω) a b h (n := n) (by omega)
  simp (maxSteps := 2000000) (discharger := omega) only [xz,xc,xo,xr,x0,x1,x2,x3,x4,x5,x6,xd,xe,xb,kont_call,kont_pure,kont_round,isNil,slOk,sliceV,selems,srcElems,copyTo,dlen,eqAV,eqCells,eqS,upd,wr,place,partVals,partEs,placeEs,mapOf,keyOk,keyCells,findK,Bool.bne_false,Bool.bne_true,Reg.isA,Reg.isV,Reg.stays,Reg.onto,↓reduceIte,reduceCtorEq,Nat.reduceEqDiff,Nat.reduceLT,Nat.reduceAdd,Nat.reduceMul,Nat.reduceLeDiff,Nat.zero_lt_succ,Option.bind_some,Option.getD_some,Option.getD_none,Int.cast_ofNat_Int,Int.natCast_zero,Int.natCast_nonneg,true_implies,or_true,true_or,false_or,or_false,beq_self_eq_true,exists_eq_left',Int.reduceEq,Int.reduceLT,Int.reduceLE,Int.reduceGT,Int.reduceGE,Nat.reduceGT,Int.reduceNeg,Int.reduceToNat,Int.reduceAdd,Int.reduceMul,Int.reduceSub,Int.reducePow,decide_eq_true_eq,Nat.reduceBEq,Nat.reduceSub,exists_false,wrap_i64,int_lt_t,int_lt_f,int_le_t,int_le_f,int_gt_t,int_gt_f,int_ge_t,int_ge_f,int_eq_t,int_eq_f,int_beq_t,int_beq_f,int_bne_t,int_bne_f,nat_le_t,nat_le_f,Nat.sub_zero,Nat.sub_self,not_false_eq_true,not_true_eq_false,e1]
theorem c31 {tot : Bool} {ω : Nat → Nat} {n : Nat} (a b : List UInt8) (h : Hp) (hn : 2 < n) : call F n tot ω 31 [.str a, .str b] h = some (.int .i64 (Go.Lib.compareBytes a b), h) := by
  obtain ⟨n, rfl⟩ : ∃ m, n = m + 1 := ⟨n - 1, by omega⟩
  refine call_eq (fn := a31) f31 ?_
  unfold a31
  have e1 := c48 (tot := tot) (ω := ω) a b h (n := n) (by omega)
  simp (maxSteps := 2000000) (discharger := omega) only [xz,xc,xo,xr,x0,x1,x2,x3,x4,x5,x6,xd,xe,xb,kont_call,kont_pure,kont_round,isNil,slOk,sliceV,selems,srcElems,copyTo,dlen,eqAV,eqCells,eqS,upd,wr,place,partVals,partEs,placeEs,mapOf,keyOk,keyCells,findK,Bool.bne_false,Bool.bne_true,Reg.isA,Reg.isV,Reg.stays,Reg.onto,↓reduceIte,reduceCtorEq,Nat.reduceEqDiff,Nat.reduceLT,Nat.reduceAdd,Nat.reduceMul,Nat.reduceLeDiff,Nat.zero_lt_succ,Option.bind_some,Option.getD_some,Option.getD_none,Int.cast_ofNat_Int,Int.natCast_zero,Int.natCast_nonneg,true_implies,or_true,true_or,false_or,or_false,beq_self_eq_true,exists_eq_left',Int.reduceEq,Int.reduceLT,Int.reduceLE,Int.reduceGT,Int.reduceGE,Nat.reduceGT,Int.reduceNeg,Int.reduceToNat,Int.reduceAdd,Int.reduceMul,Int.reduceSub,Int.reducePow,decide_eq_true_eq,Nat.reduceBEq,Nat.reduceSub,exists_false,wrap_i64,int_lt_t,int_lt_f,int_le_t,int_le_f,int_gt_t,int_gt_f,int_ge_t,int_ge_f,int_eq_t,int_eq_f,int_beq_t,int_beq_f,int_bne_t,int_bne_f,nat_le_t,nat_le_f,Nat.sub_zero,Nat.sub_self,not_false_eq_true,not_true_eq_false,e1]

/-! ### tables -/
def Tb.ok (t : Tb) : Prop := 0 ≤ t.l ∧ t.l ≤ 5 ∧ 1 ≤ t.f ∧ t.f ≤ 9223372036854775807
def ltT (a b : Tb) : Bool := if a.l = b.l then (if a.l = 0 then decide (b.f < a.f) else Op.bytesLess a.lo b.lo) else decide (a.l < b.l)

theorem swoT : Sort.SWO (α := Tb) ltT where
  irrefl x := by simp only [ltT,if_true]; split <;> simp [bl_irrefl]
  trans x y z h1 h2 := by
    simp only [ltT] at *
    by_cases e1 : x.l = y.l
    · by_cases e2 : y.l = z.l
      · rw [if_pos e1] at h1
        rw [if_pos e2] at h2
        rw [if_pos (e1.trans e2)]
        by_cases e3 : x.l = 0
        · rw [if_pos e3] at h1 ⊢
          rw [if_pos (e1 ▸ e3)] at h2
          simp at *; omega
        · rw [if_neg e3] at h1 ⊢
          rw [if_neg (e1 ▸ e3)] at h2
          exact bl_trans _ _ _ h1 h2
      · rw [if_neg e2] at h2
        rw [if_neg (by rw [e1]; exact e2)]
        rw [e1]; exact h2
    · rw [if_neg e1] at h1
      by_cases e2 : y.l = z.l
      · rw [if_neg (by rw [← e2]; exact e1), ← e2]; exact h1
      · rw [if_neg e2] at h2
        simp at h1 h2
        rw [if_neg (by omega)]
        simp; omega
  ntrans x y z h1 h2 := by
    simp only [ltT] at *
    by_cases e1 : x.l = y.l
    · by_cases e2 : y.l = z.l
      · rw [if_pos e1] at h1
        rw [if_pos e2] at h2
        rw [if_pos (e1.trans e2)]
        by_cases e3 : x.l = 0
        · rw [if_pos e3] at h1 ⊢
          rw [if_pos (e1 ▸ e3)] at h2
          simp at *; omega
        · rw [if_neg e3] at h1 ⊢
          rw [if_neg (e1 ▸ e3)] at h2
          exact bl_ntrans _ _ _ h1 h2
      · rw [if_neg e2] at h2
        rw [if_neg (by rw [e1]; exact e2)]
        rw [e1]; exact h2
    · rw [if_neg e1] at h1
      by_cases e2 : y.l = z.l
      · rw [if_neg (by rw [← e2]; exact e1), ← e2]; exact h1
      · rw [if_neg e2] at h2
        simp at h1 h2
        rw [if_neg (by omega)]
        simp; omega

theorem c17 {tot : Bool} {ω : Nat → Nat} {n : Nat} (t u : Tb) (h : Hp) (ht : t.ok) (hu : u.ok) (hn : 3 < n) : ∃ r, call F n tot ω 17 [tbOf t, tbOf u] h = some (.int .i64 r, h) ∧ decide (r < 0) = ltT t u := by
  obtain ⟨n, rfl⟩ : ∃ m, n = m + 1 := ⟨n - 1, by omega⟩
  suffices hx : ∃ v h', call F (n + 1) tot ω 17 [tbOf t, tbOf u] h = some (v, h') ∧ ∃ r, v = .int .i64 r ∧ h' = h ∧ decide (r < 0) = ltT t u by
    obtain ⟨v, h', e1, r, rfl, rfl, e2⟩ := hx
    exact ⟨r, e1, e2⟩
  refine call_of (fn := a17) f17 (P := fun v h' => ∃ r, v = .int .i64 r ∧ h' = h ∧ decide (r < 0) = ltT t u) ?_
  obtain ⟨t1, t2, t3, t4⟩ := ht
  obtain ⟨u1, u2, u3, u4⟩ := hu
  unfold a17 tbOf
  by_cases e1 : t.l = u.l
  · by_cases e2 : t.l = 0
    · simp (maxSteps := 2000000) (discharger := omega) only [xz,xc,xo,xr,x0,x1,x2,x3,x4,x5,x6,xd,xe,xb,kont_call,kont_pure,kont_round,isNil,slOk,sliceV,selems,srcElems,copyTo,dlen,eqAV,eqCells,eqS,upd,wr,place,partVals,partEs,placeEs,mapOf,keyOk,keyCells,findK,Bool.bne_false,Bool.bne_true,Reg.isA,Reg.isV,Reg.stays,Reg.onto,↓reduceIte,reduceCtorEq,Nat.reduceEqDiff,Nat.reduceLT,Nat.reduceAdd,Nat.reduceMul,Nat.reduceLeDiff,Nat.zero_lt_succ,Option.bind_some,Option.getD_some,Option.getD_none,Int.cast_ofNat_Int,Int.natCast_zero,Int.natCast_nonneg,true_implies,or_true,true_or,false_or,or_false,beq_self_eq_true,exists_eq_left',Int.reduceEq,Int.reduceLT,Int.reduceLE,Int.reduceGT,Int.reduceGE,Nat.reduceGT,Int.reduceNeg,Int.reduceToNat,Int.reduceAdd,Int.reduceMul,Int.reduceSub,Int.reducePow,decide_eq_true_eq,Nat.reduceBEq,Nat.reduceSub,exists_false,wrap_i64,int_lt_t,int_lt_f,int_le_t,int_le_f,int_gt_t,int_gt_f,int_ge_t,int_ge_f,int_eq_t,int_eq_f,int_beq_t,int_beq_f,int_bne_t,int_bne_f,nat_le_t,nat_le_f,Nat.sub_zero,Nat.sub_self,not_false_eq_true,not_true_eq_false,e1]
      refine ⟨_, rfl, ?_⟩
      simp only [ltT,if_pos e1,if_pos e2]
      rw [decide_eq_decide]; omega
    · have e3 := c31 (tot := tot) (ω := ω) t.lo u.lo h (n := n) (by omega)
      simp (maxSteps := 2000000) (discharger := omega) only [xz,xc,xo,xr,x0,x1,x2,x3,x4,x5,x6,xd,xe,xb,kont_call,kont_pure,kont_round,isNil,slOk,sliceV,selems,srcElems,copyTo,dlen,eqAV,eqCells,eqS,upd,wr,place,partVals,partEs,placeEs,mapOf,keyOk,keyCells,findK,Bool.bne_false,Bool.bne_true,Reg.isA,Reg.isV,Reg.stays,Reg.onto,↓reduceIte,reduceCtorEq,Nat.reduceEqDiff,Nat.reduceLT,Nat.reduceAdd,Nat.reduceMul,Nat.reduceLeDiff,Nat.zero_lt_succ,Option.bind_some,Option.getD_some,Option.getD_none,Int.cast_ofNat_Int,Int.natCast_zero,Int.natCast_nonneg,true_implies,or_true,true_or,false_or,or_false,beq_self_eq_true,exists_eq_left',Int.reduceEq,Int.reduceLT,Int.reduceLE,Int.reduceGT,Int.reduceGE,Nat.reduceGT,Int.reduceNeg,Int.reduceToNat,Int.reduceAdd,Int.reduceMul,Int.reduceSub,Int.reducePow,decide_eq_true_eq,Nat.reduceBEq,Nat.reduceSub,exists_false,wrap_i64,int_lt_t,int_lt_f,int_le_t,int_le_f,int_gt_t,int_gt_f,int_ge_t,int_ge_f,int_eq_t,int_eq_f,int_beq_t,int_beq_f,int_bne_t,int_bne_f,nat_le_t,nat_le_f,Nat.sub_zero,Nat.sub_self,not_false_eq_true,not_true_eq_false,e3]
      refine ⟨_, rfl, ?_⟩
      simp only [ltT,if_pos e1,if_neg e2]
      exact cmp_lt _ _
  · simp (maxSteps := 2000000) (discharger := omega) only [xz,xc,xo,xr,x0,x1,x2,x3,x4,x5,x6,xd,xe,xb,kont_call,kont_pure,kont_round,isNil,slOk,sliceV,selems,srcElems,copyTo,dlen,eqAV,eqCells,eqS,upd,wr,place,partVals,partEs,placeEs,mapOf,keyOk,keyCells,findK,Bool.bne_false,Bool.bne_true,Reg.isA,Reg.isV,Reg.stays,Reg.onto,↓reduceIte,reduceCtorEq,Nat.reduceEqDiff,Nat.reduceLT,Nat.reduceAdd,Nat.reduceMul,Nat.reduceLeDiff,Nat.zero_lt_succ,Option.bind_some,Option.getD_some,Option.getD_none,Int.cast_ofNat_Int,Int.natCast_zero,Int.natCast_nonneg,true_implies,or_true,true_or,false_or,or_false,beq_self_eq_true,exists_eq_left',Int.reduceEq,Int.reduceLT,Int.reduceLE,Int.reduceGT,Int.reduceGE,Nat.reduceGT,Int.reduceNeg,Int.reduceToNat,Int.reduceAdd,Int.reduceMul,Int.reduceSub,Int.reducePow,decide_eq_true_eq,Nat.reduceBEq,Nat.reduceSub,exists_false,wrap_i64,int_lt_t,int_lt_f,int_le_t,int_le_f,int_gt_t,int_gt_f,int_ge_t,int_ge_f,int_eq_t,int_eq_f,int_beq_t,int_beq_f,int_bne_t,int_bne_f,nat_le_t,nat_le_f,Nat.sub_zero,Nat.sub_self,not_false_eq_true,not_true_eq_false]
    refine ⟨_, rfl, ?_⟩
    simp only [ltT,if_neg e1]
    rw [decide_eq_decide]; omega

def IT : SortIds := ⟨16, 29, 30, 46, 47, 38, 39, 40, 41, 42, 43, 44, 45, 57, 58, 59, 60, 61, 66⟩
theorem ITin : IT.In F true 5 := ⟨by kernel_rfl, by kernel_rfl, by kernel_rfl, by kernel_rfl, by kernel_rfl, by kernel_rfl, by kernel_rfl, by kernel_rfl, by kernel_rfl, by kernel_rfl, by kernel_rfl, by kernel_rfl, by kernel_rfl, by kernel_rfl, by kernel_rfl, by kernel_rfl, by kernel_rfl, by kernel_rfl, by kernel_rfl⟩

def TbO := {t : Tb // t.ok}
instance : Inhabited TbO := ⟨⟨⟨1, 0, 0, [], []⟩, by simp [Tb.ok]⟩⟩
theorem encTb : EncOk true 5 (fun x : TbO => tbOf x.1) := ⟨fun _ => rfl, fun _ _ => rfl, fun _ => rfl, fun _ => rfl⟩
theorem swoTO : Sort.SWO (α := TbO) fun a b => ltT a.1 b.1 := ⟨fun x => swoT.irrefl _, fun x y z => swoT.trans _ _ _, fun x y z => swoT.ntrans _ _ _⟩

theorem sub_list {α : Type} {p : α → Prop} : ∀ (l : List α), (∀ x ∈ l, p x) → ∃ l' : List {x // p x}, l'.map (·.1) = l
  | [], _ => ⟨[], rfl⟩
  | a :: l, h => by
    obtain ⟨l', e⟩ := sub_list l fun x hx => h x (by simp [hx])
    exact ⟨⟨a, h a (by simp)⟩ :: l', by simp [e]⟩

theorem lies_keep {h h' : Hp} {id sz lo : Nat} {es es' : List AV} (L : Lies h id sz es' h') (e : h[id]? = some (.row sz es)) (g : lo ≤ id) : KeepR lo sz h h' :=
  ⟨L.le, fun i o h1 h2 => by
    have hlt := (List.getElem?_eq_some_iff.1 h1).1
    by_cases hi : i = id
    · subst hi
      rw [e] at h1
      cases h1
      rcases h2 with h2 | h2
      · omega
      · exact absurd rfl (h2 _)
    · rw [L.other i hlt hi]; exact h1⟩

theorem c16 {tot : Bool} {ω : Nat → Nat} {n : Nat} (v : AV) (l : List Tb) (lo : Nat) (h : Hp) (hr : RowAt h 5 lo (l.map tbOf) v) (hne : l ≠ []) (hok : ∀ t ∈ l, t.ok) (hl : l.length ≤ 1000000) (hn : 2 * l.length + 30 < n) :
    ∃ (h' : Hp) (l' : List Tb), call F n tot ω 16 [v, .fn (.func 17) [] []] h = some (.tup [], h') ∧ RowAt h' 5 lo (l'.map tbOf) v ∧ KeepR lo 5 h h' ∧ l'.Perm l ∧ l'.Pairwise fun x y => ltT y x = false := by
  obtain ⟨id, post, rfl, e, g⟩ := hr.row (i := 0) (by rw [List.length_map]; exact List.length_pos_iff.2 hne)
  obtain ⟨lo', hlo⟩ : ∃ lo' : List TbO, lo'.map (fun x => x.1) = l := sub_list (p := Tb.ok) l hok
  have hF : Full (fun x : TbO => tbOf x.1) [] post (lo'.toArray : Array TbO) = l.map tbOf ++ post := by
    simp only [Full,List.nil_append]
    rw [← hlo, List.map_map]; rfl
  have hsz : (lo'.toArray : Array TbO).size = l.length := by rw [← hlo]; simp
  have C : Srt F IT true 5 (fun x : TbO => tbOf x.1) (fun a b => ltT a.1 b.1) tot ω 3 17 [] [] h id [] post := ⟨ITin, encTb, fun n hn x y d h1 L => by
    obtain ⟨r, e1, e2⟩ := c17 (tot := tot) (ω := ω) x.1 y.1 h1 x.2 y.2 hn
    exact ⟨r, h1, e1, .refl _, e2⟩⟩
  have L0 : Lies h id 5 (Full (fun x : TbO => tbOf x.1) [] post (lo'.toArray : Array TbO)) h := by rw [hF]; exact .start e
  obtain ⟨h', k1, L⟩ := s_srt C false lo'.toArray n h (by rw [hsz]; omega) L0 (by rw [hsz]; omega)
  refine ⟨h', (Sort.sort (fun a b : TbO => ltT a.1 b.1) lo'.toArray).toList.map (·.1), ?_, ?_, lies_keep L e g, ?_, ?_⟩
  · rw [hsz] at k1
    rw [List.length_map]; exact k1
  · have hz := sort_size swoTO (lo'.toArray : Array TbO)
    have hr := L.row
    rw [show ((l.map tbOf).length) = (((Sort.sort (fun a b : TbO => ltT a.1 b.1) lo'.toArray).toList.map (·.1)).map tbOf).length by simp only [List.length_map,Array.length_toList]; omega]
    refine .inr ⟨id, post, rfl, ?_, g⟩
    rw [hr]
    simp [Full]
  · have := (sort_perm swoTO (lo'.toArray : Array TbO)).map (·.1)
    simp only at this
    rw [← hlo]
    exact this
  · rw [List.pairwise_map]
    exact sort_pair swoTO _

/-! ### stores -/
def Sr.ok (t : Sr) : Prop := 1 ≤ t.f ∧ t.f ≤ 9223372036854775807
def ltS (a b : Sr) : Bool := decide (a.f < b.f)
theorem swoS : Sort.SWO (α := Sr) ltS := ⟨fun x => by simp [ltS], fun x y z h1 h2 => by simp [ltS] at *; omega, fun x y z h1 h2 => by simp [ltS] at *; omega⟩
theorem c20 {tot : Bool} {ω : Nat → Nat} {n : Nat} (t u : Sr) (h : Hp) (ht : t.ok) (hu : u.ok) (hn : 1 < n) : ∃ r, call F n tot ω 20 [srOf t, srOf u] h = some (.int .i64 r, h) ∧ decide (r < 0) = ltS t u := by
  obtain ⟨n, rfl⟩ : ∃ m, n = m + 1 := ⟨n - 1, by omega⟩
  obtain ⟨t3, t4⟩ := ht
  obtain ⟨u3, u4⟩ := hu
  refine ⟨t.f - u.f, ?_, by simp only [ltS]; rw [decide_eq_decide]; omega⟩
  refine call_eq (fn := a20) f20 ?_
  unfold a20 srOf
  simp (maxSteps := 2000000) (discharger := omega) only [xz,xc,xo,xr,x0,x1,x2,x3,x4,x5,x6,xd,xe,xb,kont_call,kont_pure,kont_round,isNil,slOk,sliceV,selems,srcElems,copyTo,dlen,eqAV,eqCells,eqS,upd,wr,place,partVals,partEs,placeEs,mapOf,keyOk,keyCells,findK,Bool.bne_false,Bool.bne_true,Reg.isA,Reg.isV,Reg.stays,Reg.onto,↓reduceIte,reduceCtorEq,Nat.reduceEqDiff,Nat.reduceLT,Nat.reduceAdd,Nat.reduceMul,Nat.reduceLeDiff,Nat.zero_lt_succ,Option.bind_some,Option.getD_some,Option.getD_none,Int.cast_ofNat_Int,Int.natCast_zero,Int.natCast_nonneg,true_implies,or_true,true_or,false_or,or_false,beq_self_eq_true,exists_eq_left',Int.reduceEq,Int.reduceLT,Int.reduceLE,Int.reduceGT,Int.reduceGE,Nat.reduceGT,Int.reduceNeg,Int.reduceToNat,Int.reduceAdd,Int.reduceMul,Int.reduceSub,Int.reducePow,decide_eq_true_eq,Nat.reduceBEq,Nat.reduceSub,exists_false,wrap_i64,int_lt_t,int_lt_f,int_le_t,int_le_f,int_gt_t,int_gt_f,int_ge_t,int_ge_f,int_eq_t,int_eq_f,int_beq_t,int_beq_f,int_bne_t,int_bne_f,nat_le_t,nat_le_f,Nat.sub_zero,Nat.sub_self,not_false_eq_true,not_true_eq_false]

def IS : SortIds := ⟨19, 37, 30, 46, 47, 49, 50, 51, 52, 53, 54, 55, 56, 63, 58, 59, 64, 65, 67⟩
theorem ISin : IS.In F true 2 := ⟨by kernel_rfl, by kernel_rfl, by kernel_rfl, by kernel_rfl, by kernel_rfl, by kernel_rfl, by kernel_rfl, by kernel_rfl, by kernel_rfl, by kernel_rfl, by kernel_rfl, by kernel_rfl, by kernel_rfl, by kernel_rfl, by kernel_rfl, by kernel_rfl, by kernel_rfl, by kernel_rfl, by kernel_rfl⟩
def SrO := {t : Sr // t.ok}
instance : Inhabited SrO := ⟨⟨⟨1, 0⟩, by simp [Sr.ok]⟩⟩
theorem encSr : EncOk true 2 (fun x : SrO => srOf x.1) := ⟨fun _ => rfl, fun _ _ => rfl, fun _ => rfl, fun _ => rfl⟩
theorem swoSO : Sort.SWO (α := SrO) fun a b => ltS a.1 b.1 := ⟨fun x => swoS.irrefl _, fun x y z => swoS.trans _ _ _, fun x y z => swoS.ntrans _ _ _⟩

theorem c19 {tot : Bool} {ω : Nat → Nat} {n : Nat} (v : AV) (l : List Sr) (lo : Nat) (h : Hp) (hr : RowAt h 2 lo (l.map srOf) v) (hne : l ≠ []) (hok : ∀ t ∈ l, t.ok) (hl : l.length ≤ 1000000) (hn : 2 * l.length + 30 < n) :
    ∃ (h' : Hp) (l' : List Sr), call F n tot ω 19 [v, .fn (.func 20) [] []] h = some (.tup [], h') ∧ RowAt h' 2 lo (l'.map srOf) v ∧ KeepR lo 2 h h' ∧ l'.Perm l ∧ l'.Pairwise fun x y => ltS y x = false := by
  obtain ⟨id, post, rfl, e, g⟩ := hr.row (i := 0) (by rw [List.length_map]; exact List.length_pos_iff.2 hne)
  obtain ⟨lo', hlo⟩ : ∃ lo' : List SrO, lo'.map (fun x => x.1) = l := sub_list (p := Sr.ok) l hok
  have hF : Full (fun x : SrO => srOf x.1) [] post (lo'.toArray : Array SrO) = l.map srOf ++ post := by
    simp only [Full,List.nil_append]
    rw [← hlo, List.map_map]; rfl
  have hsz : (lo'.toArray : Array SrO).size = l.length := by rw [← hlo]; simp
  have C : Srt F IS true 2 (fun x : SrO => srOf x.1) (fun a b => ltS a.1 b.1) tot ω 3 20 [] [] h id [] post := ⟨ISin, encSr, fun n hn x y d h1 L => by
    obtain ⟨r, e1, e2⟩ := c20 (tot := tot) (ω := ω) x.1 y.1 h1 x.2 y.2 (show 1 < n by omega)
    exact ⟨r, h1, e1, .refl _, e2⟩⟩
  have L0 : Lies h id 2 (Full (fun x : SrO => srOf x.1) [] post (lo'.toArray : Array SrO)) h := by rw [hF]; exact .start e
  obtain ⟨h', k1, L⟩ := s_srt C false lo'.toArray n h (by rw [hsz]; omega) L0 (by rw [hsz]; omega)
  refine ⟨h', (Sort.sort (fun a b : SrO => ltS a.1 b.1) lo'.toArray).toList.map (·.1), ?_, ?_, lies_keep L e g, ?_, ?_⟩
  · rw [hsz] at k1
    rw [List.length_map]; exact k1
  · have hz := sort_size swoSO (lo'.toArray : Array SrO)
    have hr := L.row
    rw [show ((l.map srOf).length) = (((Sort.sort (fun a b : SrO => ltS a.1 b.1) lo'.toArray).toList.map (·.1)).map srOf).length by simp only [List.length_map,Array.length_toList]; omega]
    refine .inr ⟨id, post, rfl, ?_, g⟩
    rw [hr]
    simp [Full]
  · have := (sort_perm swoSO (lo'.toArray : Array SrO)).map (·.1)
    simp only at this
    rw [← hlo]
    exact this
  · rw [List.pairwise_map]
    exact sort_pair swoSO _

end Go.Proofs.Ytabpndekmpjmhaa.Im

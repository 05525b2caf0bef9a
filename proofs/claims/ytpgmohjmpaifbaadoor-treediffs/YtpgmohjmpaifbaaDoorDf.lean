/- Joined: S21Dp, S21Df. -/
import Derived.Test.YtpgmohjmpaifbaaDoorDi
import Derived.Test.YtpgmohjmpaifbaaDoorFd
/- S21Dp: the plain law of where two trees differ. -/
set_option linter.unusedVariables false
set_option linter.unusedSimpArgs false
open Go Go.Im
namespace Go.Proofs.YtpgmohjmpaifbaaDoor.Im

def Rise (L : List Lf) : Prop := L.Pairwise fun x y => Op.bytesLess x.p y.p = true
def same (B : List Lf) (x : Lf) : Bool := match fnd B x.p with
  | some y => decide (x.ps = y.ps)
  | none => false
def cnt (A B : List Lf) : Nat := (A.filter (same B)).length
def both (D : List Ch) : Nat := (D.filter fun c => c.w && c.i).length

theorem bl_ne {a b : By} (h : Op.bytesLess a b = true) : ¬ a = b := fun e => by rw [e, bl_irrefl] at h; cases h
theorem bl_asymm {a b : By} (h : Op.bytesLess a b = true) : Op.bytesLess b a = false := by
  cases h2 : Op.bytesLess b a with
  | false => rfl
  | true => have := bl_trans _ _ _ h h2; rw [bl_irrefl] at this; cases this

theorem fnd_nil (p : By) : fnd [] p = none := rfl
theorem fnd_hd (x : Lf) (A : List Lf) : fnd (x :: A) x.p = some x := by unfold fnd; rw [List.find?_cons_of_pos (by simp)]
theorem fnd_tl {x : Lf} {A : List Lf} {p : By} (h : ¬ x.p = p) : fnd (x :: A) p = fnd A p := by unfold fnd; rw [List.find?_cons_of_neg (by simpa using h)]
theorem fnd_out {A : List Lf} {p : By} (h : ∀ x ∈ A, ¬ x.p = p) : fnd A p = none := by
  unfold fnd
  rw [List.find?_eq_none]
  intro x hx
  simpa using h x hx

theorem diff_mirror : ∀ (n : Nat) (A B : List Lf), A.length + B.length = n → diffL B A = (diffL A B).map fun c => ⟨c.p, c.i, c.w⟩ := by
  intro n
  induction n using Nat.strongRecOn with
  | _ n ih =>
    intro A B hn
    match A, B with
    | [], [] => simp [diffL]
    | a :: A, [] =>
      simp only [List.length_cons,List.length_nil] at hn
      rw [diffL, diffL, ih (A.length + 0) (by omega) A [] rfl]; rfl
    | [], b :: B =>
      simp only [List.length_cons,List.length_nil] at hn
      rw [diffL, diffL, ih (0 + B.length) (by omega) [] B rfl]; rfl
    | a :: A, b :: B =>
      simp only [List.length_cons] at hn
      have h1 := ih (A.length + (B.length + 1)) (by omega) A (b :: B) rfl
      have h2 := ih (A.length + 1 + B.length) (by omega) (a :: A) B rfl
      have h3 := ih (A.length + B.length) (by omega) A B rfl
      rw [diffL, diffL]
      cases k1 : Op.bytesLess a.p b.p with
      | true =>
        rw [bl_asymm k1]
        simp only [if_true,Bool.false_eq_true,if_false,List.map_cons]
        rw [h1]
      | false =>
        cases k2 : Op.bytesLess b.p a.p with
        | true =>
          simp only [if_true,Bool.false_eq_true,if_false,List.map_cons]
          rw [h2]
        | false =>
          have hp := bl_tri _ _ k1 k2
          simp only [Bool.false_eq_true,if_false]
          by_cases e : a.ps = b.ps
          · rw [if_pos e, if_pos e.symm, h3]
          · rw [if_neg e, if_neg (fun x => e x.symm), h3, hp]; rfl

structure DiffOk (A B : List Lf) (D : List Ch) : Prop where
  from' : ∀ c ∈ D, (∃ x ∈ A, x.p = c.p) ∨ ∃ y ∈ B, y.p = c.p
  rise : D.Pairwise fun x y => Op.bytesLess x.p y.p = true
  was : ∀ c ∈ D, (fnd A c.p).isSome = c.w
  is' : ∀ c ∈ D, (fnd B c.p).isSome = c.i
  ne : ∀ c ∈ D, ∀ x y, fnd A c.p = some x → fnd B c.p = some y → ¬ x.ps = y.ps
  num : A.length + B.length = 2 * cnt A B + D.length + both D

theorem filter_congr' {α : Type} {p q : α → Bool} : ∀ {l : List α}, (∀ x ∈ l, p x = q x) → l.filter p = l.filter q
  | [], _ => rfl
  | x :: l, h => by
    rw [List.filter_cons, List.filter_cons, h x (by simp), filter_congr' fun y hy => h y (by simp [hy])]

theorem diff_ok : ∀ (n : Nat) (A B : List Lf), A.length + B.length = n → Rise A → Rise B → DiffOk A B (diffL A B) := by
  intro n
  induction n using Nat.strongRecOn with
  | _ n ih =>
    intro A B hn hA hB
    match A, B with
    | [], [] =>
      rw [show diffL [] [] = [] by simp [diffL]]
      exact ⟨by simp, .nil, by simp, by simp, by simp, rfl⟩
    | a :: A, [] =>
      simp only [List.length_cons,List.length_nil] at hn
      obtain ⟨hA1, hA2⟩ := List.pairwise_cons.1 hA
      have h := ih (A.length + 0) (by omega) A [] rfl hA2 hB
      rw [diffL]
      have far : ∀ c ∈ diffL A [], Op.bytesLess a.p c.p = true := fun c hc => by
        rcases h.from' c hc with ⟨x, hx, e⟩ | ⟨y, hy, e⟩
        · rw [← e]; exact hA1 x hx
        · cases hy
      refine ⟨fun c hc => ?_, List.pairwise_cons.2 ⟨fun c hc => far c hc, h.rise⟩, fun c hc => ?_, fun c hc => ?_, fun c hc x y h1 h2 => ?_, ?_⟩
      · rcases List.mem_cons.1 hc with rfl | hc
        · exact .inl ⟨a, by simp, rfl⟩
        · rcases h.from' c hc with ⟨x, hx, e⟩ | ⟨y, hy, e⟩
          · exact .inl ⟨x, by simp [hx], e⟩
          · exact .inr ⟨y, hy, e⟩
      · rcases List.mem_cons.1 hc with rfl | hc
        · rw [fnd_hd]; rfl
        · rw [fnd_tl (bl_ne (far c hc))]; exact h.was c hc
      · rcases List.mem_cons.1 hc with rfl | hc
        · rfl
        · exact h.is' c hc
      · rw [fnd_nil] at h2; cases h2
      · have e1 : cnt (a :: A) [] = cnt A [] := by unfold cnt; rw [List.filter_cons]; simp [same,fnd_nil]
        have e2 : ∀ D : List Ch, both (⟨a.p, true, false⟩ :: D) = both D := fun D => by unfold both; rw [List.filter_cons]; simp
        have := h.num
        rw [e1, e2]; simp only [List.length_cons,List.length_nil] at this ⊢; omega
    | [], b :: B =>
      simp only [List.length_cons,List.length_nil] at hn
      obtain ⟨hB1, hB2⟩ := List.pairwise_cons.1 hB
      have h := ih (0 + B.length) (by omega) [] B rfl hA hB2
      rw [diffL]
      have far : ∀ c ∈ diffL [] B, Op.bytesLess b.p c.p = true := fun c hc => by
        rcases h.from' c hc with ⟨x, hx, e⟩ | ⟨y, hy, e⟩
        · cases hx
        · rw [← e]; exact hB1 y hy
      refine ⟨fun c hc => ?_, List.pairwise_cons.2 ⟨fun c hc => far c hc, h.rise⟩, fun c hc => ?_, fun c hc => ?_, fun c hc x y h1 h2 => ?_, ?_⟩
      · rcases List.mem_cons.1 hc with rfl | hc
        · exact .inr ⟨b, by simp, rfl⟩
        · rcases h.from' c hc with ⟨x, hx, e⟩ | ⟨y, hy, e⟩
          · cases hx
          · exact .inr ⟨y, by simp [hy], e⟩
      · rcases List.mem_cons.1 hc with rfl | hc
        · rfl
        · exact h.was c hc
      · rcases List.mem_cons.1 hc with rfl | hc
        · rw [fnd_hd]; rfl
        · rw [fnd_tl (bl_ne (far c hc))]; exact h.is' c hc
      · rw [fnd_nil] at h1; cases h1
      · have e1 : cnt [] (b :: B) = cnt [] B := rfl
        have e2 : ∀ D : List Ch, both (⟨b.p, false, true⟩ :: D) = both D := fun D => by unfold both; rw [List.filter_cons]; simp
        have := h.num
        rw [e1, e2]; simp only [List.length_cons,List.length_nil] at this ⊢; omega
    | a :: A, b :: B =>
      simp only [List.length_cons] at hn
      obtain ⟨hA1, hA2⟩ := List.pairwise_cons.1 hA
      obtain ⟨hB1, hB2⟩ := List.pairwise_cons.1 hB
      rw [diffL]
      cases k1 : Op.bytesLess a.p b.p with
      | true =>
        simp only [if_true]
        have h := ih (A.length + (B.length + 1)) (by omega) A (b :: B) rfl hA2 hB
        have gtB : ∀ y ∈ b :: B, Op.bytesLess a.p y.p = true := fun y hy => by
          rcases List.mem_cons.1 hy with rfl | hy
          · exact k1
          · exact bl_trans _ _ _ k1 (hB1 y hy)
        have far : ∀ c ∈ diffL A (b :: B), Op.bytesLess a.p c.p = true := fun c hc => by
          rcases h.from' c hc with ⟨x, hx, e⟩ | ⟨y, hy, e⟩
          · rw [← e]; exact hA1 x hx
          · rw [← e]; exact gtB y hy
        have fb : fnd (b :: B) a.p = none := fnd_out fun y hy e => bl_ne (gtB y hy) e.symm
        refine ⟨fun c hc => ?_, List.pairwise_cons.2 ⟨fun c hc => far c hc, h.rise⟩, fun c hc => ?_, fun c hc => ?_, fun c hc x y h1 h2 => ?_, ?_⟩
        · rcases List.mem_cons.1 hc with rfl | hc
          · exact .inl ⟨a, by simp, rfl⟩
          · rcases h.from' c hc with ⟨x, hx, e⟩ | ⟨y, hy, e⟩
            · exact .inl ⟨x, by simp [hx], e⟩
            · exact .inr ⟨y, hy, e⟩
        · rcases List.mem_cons.1 hc with rfl | hc
          · rw [fnd_hd]; rfl
          · rw [fnd_tl (bl_ne (far c hc))]; exact h.was c hc
        · rcases List.mem_cons.1 hc with rfl | hc
          · show (fnd (b :: B) a.p).isSome = false
            rw [fb]; rfl
          · exact h.is' c hc
        · rcases List.mem_cons.1 hc with rfl | hc
          · have h2 : fnd (b :: B) a.p = some y := h2
            rw [fb] at h2; cases h2
          · rw [fnd_tl (bl_ne (far c hc))] at h1
            exact h.ne c hc x y h1 h2
        · have e1 : cnt (a :: A) (b :: B) = cnt A (b :: B) := by unfold cnt; rw [List.filter_cons]; simp [same,fb]
          have e2 : ∀ D : List Ch, both (⟨a.p, true, false⟩ :: D) = both D := fun D => by unfold both; rw [List.filter_cons]; simp
          have := h.num
          rw [e1, e2]; simp only [List.length_cons] at this ⊢; omega
      | false =>
        cases k2 : Op.bytesLess b.p a.p with
        | true =>
          simp only [if_true,Bool.false_eq_true,if_false]
          have h := ih (A.length + 1 + B.length) (by omega) (a :: A) B rfl hA hB2
          have gtA : ∀ x ∈ a :: A, Op.bytesLess b.p x.p = true := fun x hx => by
            rcases List.mem_cons.1 hx with rfl | hx
            · exact k2
            · exact bl_trans _ _ _ k2 (hA1 x hx)
          have far : ∀ c ∈ diffL (a :: A) B, Op.bytesLess b.p c.p = true := fun c hc => by
            rcases h.from' c hc with ⟨x, hx, e⟩ | ⟨y, hy, e⟩
            · rw [← e]; exact gtA x hx
            · rw [← e]; exact hB1 y hy
          have fa : fnd (a :: A) b.p = none := fnd_out fun x hx e => bl_ne (gtA x hx) e.symm
          refine ⟨fun c hc => ?_, List.pairwise_cons.2 ⟨fun c hc => far c hc, h.rise⟩, fun c hc => ?_, fun c hc => ?_, fun c hc x y h1 h2 => ?_, ?_⟩
          · rcases List.mem_cons.1 hc with rfl | hc
            · exact .inr ⟨b, by simp, rfl⟩
            · rcases h.from' c hc with ⟨x, hx, e⟩ | ⟨y, hy, e⟩
              · exact .inl ⟨x, hx, e⟩
              · exact .inr ⟨y, by simp [hy], e⟩
          · rcases List.mem_cons.1 hc with rfl | hc
            · show (fnd (a :: A) b.p).isSome = false
              rw [fa]; rfl
            · exact h.was c hc
          · rcases List.mem_cons.1 hc with rfl | hc
            · rw [fnd_hd]; rfl
            · rw [fnd_tl (bl_ne (far c hc))]; exact h.is' c hc
          · rcases List.mem_cons.1 hc with rfl | hc
            · have h1 : fnd (a :: A) b.p = some x := h1
              rw [fa] at h1; cases h1
            · rw [fnd_tl (bl_ne (far c hc))] at h2
              exact h.ne c hc x y h1 h2
          · have e1 : cnt (a :: A) (b :: B) = cnt (a :: A) B := by
              have es : ∀ x ∈ a :: A, same (b :: B) x = same B x := fun x hx => by unfold same; rw [fnd_tl (bl_ne (gtA x hx))]
              unfold cnt
              rw [filter_congr' es]
            have e2 : ∀ D : List Ch, both (⟨b.p, false, true⟩ :: D) = both D := fun D => by unfold both; rw [List.filter_cons]; simp
            have := h.num
            rw [e1, e2]; simp only [List.length_cons] at this ⊢; omega
        | false =>
          have hp := bl_tri _ _ k1 k2
          have h := ih (A.length + B.length) (by omega) A B rfl hA2 hB2
          have gtB : ∀ y ∈ B, Op.bytesLess a.p y.p = true := fun y hy => by rw [hp]; exact hB1 y hy
          have far : ∀ c ∈ diffL A B, Op.bytesLess a.p c.p = true := fun c hc => by
            rcases h.from' c hc with ⟨x, hx, e⟩ | ⟨y, hy, e⟩
            · rw [← e]; exact hA1 x hx
            · rw [← e]; exact gtB y hy
          have farb : ∀ c ∈ diffL A B, ¬ b.p = c.p := fun c hc => by rw [← hp]; exact bl_ne (far c hc)
          have fb : fnd (b :: B) a.p = some b := by rw [hp]; exact fnd_hd b B
          have ec : ∀ x ∈ A, same (b :: B) x = same B x := fun x hx => by
            unfold same; rw [fnd_tl (by rw [← hp]; exact bl_ne (hA1 x hx))]
          have from2 : ∀ c ∈ diffL A B, (∃ x ∈ a :: A, x.p = c.p) ∨ ∃ y ∈ b :: B, y.p = c.p := fun c hc => by
            rcases h.from' c hc with ⟨x, hx, e⟩ | ⟨y, hy, e⟩
            · exact .inl ⟨x, by simp [hx], e⟩
            · exact .inr ⟨y, by simp [hy], e⟩
          simp only [Bool.false_eq_true,if_false]
          by_cases e : a.ps = b.ps
          · rw [if_pos e]
            refine ⟨from2, h.rise, fun c hc => ?_, fun c hc => ?_, fun c hc x y h1 h2 => ?_, ?_⟩
            · rw [fnd_tl (bl_ne (far c hc))]; exact h.was c hc
            · rw [fnd_tl (farb c hc)]; exact h.is' c hc
            · rw [fnd_tl (bl_ne (far c hc))] at h1
              rw [fnd_tl (farb c hc)] at h2
              exact h.ne c hc x y h1 h2
            · have e1 : cnt (a :: A) (b :: B) = cnt A B + 1 := by
                unfold cnt
                rw [List.filter_cons, show same (b :: B) a = true by simp [same,fb,e], if_pos rfl, filter_congr' ec]; rfl
              have := h.num
              rw [e1]; simp only [List.length_cons] at this ⊢; omega
          · rw [if_neg e]
            refine ⟨fun c hc => ?_, List.pairwise_cons.2 ⟨fun c hc => far c hc, h.rise⟩, fun c hc => ?_, fun c hc => ?_, fun c hc x y h1 h2 => ?_, ?_⟩
            · rcases List.mem_cons.1 hc with rfl | hc
              · exact .inl ⟨a, by simp, rfl⟩
              · exact from2 c hc
            · rcases List.mem_cons.1 hc with rfl | hc
              · rw [fnd_hd]; rfl
              · rw [fnd_tl (bl_ne (far c hc))]; exact h.was c hc
            · rcases List.mem_cons.1 hc with rfl | hc
              · show (fnd (b :: B) a.p).isSome = true
                rw [fb]; rfl
              · rw [fnd_tl (farb c hc)]; exact h.is' c hc
            · rcases List.mem_cons.1 hc with rfl | hc
              · have h1 : fnd (a :: A) a.p = some x := h1
                have h2 : fnd (b :: B) a.p = some y := h2
                rw [fnd_hd] at h1
                rw [fb] at h2
                cases h1; cases h2; exact e
              · rw [fnd_tl (bl_ne (far c hc))] at h1
                rw [fnd_tl (farb c hc)] at h2
                exact h.ne c hc x y h1 h2
            · have e1 : cnt (a :: A) (b :: B) = cnt A B := by
                unfold cnt
                rw [List.filter_cons, show same (b :: B) a = false by simp [same,fb,e], if_neg (by decide), filter_congr' ec]
              have e2 : ∀ D : List Ch, both (⟨a.p, true, true⟩ :: D) = both D + 1 := fun D => by unfold both; rw [List.filter_cons]; simp
              have := h.num
              rw [e1, e2]; simp only [List.length_cons] at this ⊢; omega
end Go.Proofs.YtpgmohjmpaifbaaDoor.Im

/- S21Df: the law TreeDiffs. -/
set_option linter.unusedVariables false
set_option linter.unusedSimpArgs false
open Go Go.Im
namespace Go.Proofs.YtpgmohjmpaifbaaDoor.Im

def mir (c : Ch) : Ch := ⟨c.p, c.i, c.w⟩
theorem ch_get {D : List Ch} {i : Nat} (hi : i < D.length) : (D.map Ch.av)[i]? = some (.agg [.str D[i].p, .bool D[i].w, .bool D[i].i]) := by simp [hi,Ch.av]
theorem ch_get2 {D : List Ch} {i : Nat} (hi : i < D.length) : ((D.map mir).map Ch.av)[i]? = some (.agg [.str D[i].p, .bool D[i].i, .bool D[i].w]) := by simp [hi,Ch.av,mir]
theorem flt_take {α : Type} (p : α → Bool) (l : List α) (i : Nat) (hi : i < l.length) : ((l.take (i + 1)).filter p).length = ((l.take i).filter p).length + if p l[i] then 1 else 0 := by
  rw [List.take_succ_eq_append_getElem hi, List.filter_append, List.length_append, List.filter_cons, List.filter_nil]
  split <;> rfl
theorem fnd_mem {A : List Lf} {p : By} {x : Lf} (h : fnd A p = some x) : x ∈ A := List.mem_of_find?_eq_some h

section
variable {n : Nat} {tot : Bool} {ω : Nat → Nat} {h : Hp}

set_option maxHeartbeats 2000000 in
set_option maxRecDepth 100000 in
theorem w_d7a (D : List Ch) (v9 v10 : AV) (cd cb : Cap) (i : Nat) (hi : i < D.length) (hl : D.length ≤ 1000000) (hr : D.Pairwise fun x y => Op.bytesLess x.p y.p = true) :
    Wp (kont F n tot ω) n d7a [(9, .val v9), (10, .val v10), (11, .val (.imm 3 (D.map Ch.av) cd)), (12, .val (.imm 3 ((D.map mir).map Ch.av) cb)), (13, .val (.int .i64 i)), (77, .val (.bool true))] h
      fun e r' h' => e = .normal ∧ h' = h ∧ r' = [(9, .val v9), (10, .val v10), (11, .val (.imm 3 (D.map Ch.av) cd)), (12, .val (.imm 3 ((D.map mir).map Ch.av) cb)), (13, .val (.int .i64 i)), (134, .val (.bool false))] := by
  have q1 := ch_get hi
  have q2 := ch_get2 hi
  unfold d7a
  by_cases h0 : 0 < i
  · have q3 := ch_get (show i - 1 < D.length by omega)
    have hb : Op.bytesLess D[i - 1].p D[i].p = true := List.pairwise_iff_getElem.1 hr (i - 1) i (by omega) hi (by omega)
    have e1 : ((i : Int) - 1).toNat = i - 1 := by omega
    simp (maxSteps := 2000000) (discharger := omega) only [xc,xo,xr,x0,x1,x2,x3,x4,x5,x6,xd,xe,xb,kont_call,kont_pure,kont_round,isNil,slOk,sliceV,selems,srcElems,copyTo,dlen,eqAV,eqCells,eqS,wr,place,partVals,partEs,placeEs,mapOf,keyOk,keyCells,findK,Bool.bne_false,Bool.bne_true,List.drop_zero,List.nil_append,List.append_nil,List.take_zero,List.cons_append,List.take_succ_cons,List.drop_succ_cons,List.take_nil,List.drop_nil,Reg.isA,Reg.isV,Reg.stays,Reg.onto,Bool.false_or,Bool.or_false,Bool.false_and,Bool.and_false,Bool.true_and,Bool.and_true,Bool.or_true,Bool.true_or,↓reduceIte,reduceCtorEq,Nat.reduceEqDiff,Nat.reduceLT,Nat.reduceAdd,Nat.reduceMul,Nat.add_zero,Nat.zero_add,Nat.not_lt_zero,Nat.zero_ne_one,Nat.one_ne_zero,Nat.reduceLeDiff,Nat.lt_irrefl,Nat.zero_lt_succ,Bool.false_eq_true,Bool.not_true,Bool.not_false,Option.map_some,Option.map_none,Option.bind_some,Option.getD_some,Option.getD_none,and_self,and_true,true_and,List.length_cons,List.length_nil,List.any_nil,List.any_cons,Int.toNat_natCast,Int.cast_ofNat_Int,Int.natCast_zero,Int.natCast_nonneg,true_implies,or_true,true_or,false_or,or_false,beq_self_eq_true,Option.some.injEq,exists_eq_left',Int.reduceEq,Int.reduceLT,Int.reduceLE,Int.reduceGT,Int.reduceGE,Nat.reduceGT,Int.reduceNeg,Int.reduceToNat,Int.reduceAdd,Int.reduceMul,Int.reduceSub,Int.reducePow,decide_true,decide_false,decide_eq_true_eq,List.getElem?_cons_zero,List.getElem?_cons_succ,Nat.reduceBEq,Nat.reduceSub,exists_false,and_false,false_and,xu,List.set_cons_zero,List.set_cons_succ,wrap_i64,int_lt_t,int_lt_f,int_le_t,int_le_f,int_gt_t,int_gt_f,int_ge_t,int_ge_f,int_eq_t,int_eq_f,int_beq_t,int_beq_f,int_bne_t,int_bne_f,nat_le_t,nat_le_f,Nat.sub_zero,Nat.sub_self,not_false_eq_true,not_true_eq_false,q1,q2,q3,e1,hb,List.length_map]
  · obtain rfl : i = 0 := by omega
    have e0 : ((0 : Nat) : Int).toNat = 0 := rfl
    simp (maxSteps := 2000000) (discharger := omega) only [xc,xo,xr,x0,x1,x2,x3,x4,x5,x6,xd,xe,xb,kont_call,kont_pure,kont_round,isNil,slOk,sliceV,selems,srcElems,copyTo,dlen,eqAV,eqCells,eqS,wr,place,partVals,partEs,placeEs,mapOf,keyOk,keyCells,findK,Bool.bne_false,Bool.bne_true,List.drop_zero,List.nil_append,List.append_nil,List.take_zero,List.cons_append,List.take_succ_cons,List.drop_succ_cons,List.take_nil,List.drop_nil,Reg.isA,Reg.isV,Reg.stays,Reg.onto,Bool.false_or,Bool.or_false,Bool.false_and,Bool.and_false,Bool.true_and,Bool.and_true,Bool.or_true,Bool.true_or,↓reduceIte,reduceCtorEq,Nat.reduceEqDiff,Nat.reduceLT,Nat.reduceAdd,Nat.reduceMul,Nat.add_zero,Nat.zero_add,Nat.not_lt_zero,Nat.zero_ne_one,Nat.one_ne_zero,Nat.reduceLeDiff,Nat.lt_irrefl,Nat.zero_lt_succ,Bool.false_eq_true,Bool.not_true,Bool.not_false,Option.map_some,Option.map_none,Option.bind_some,Option.getD_some,Option.getD_none,and_self,and_true,true_and,List.length_cons,List.length_nil,List.any_nil,List.any_cons,Int.toNat_natCast,Int.cast_ofNat_Int,Int.natCast_zero,Int.natCast_nonneg,true_implies,or_true,true_or,false_or,or_false,beq_self_eq_true,Option.some.injEq,exists_eq_left',Int.reduceEq,Int.reduceLT,Int.reduceLE,Int.reduceGT,Int.reduceGE,Nat.reduceGT,Int.reduceNeg,Int.reduceToNat,Int.reduceAdd,Int.reduceMul,Int.reduceSub,Int.reducePow,decide_true,decide_false,decide_eq_true_eq,List.getElem?_cons_zero,List.getElem?_cons_succ,Nat.reduceBEq,Nat.reduceSub,exists_false,and_false,false_and,xu,List.set_cons_zero,List.set_cons_succ,wrap_i64,int_lt_t,int_lt_f,int_le_t,int_le_f,int_gt_t,int_gt_f,int_ge_t,int_ge_f,int_eq_t,int_eq_f,int_beq_t,int_beq_f,int_bne_t,int_bne_f,nat_le_t,nat_le_f,Nat.sub_zero,Nat.sub_self,not_false_eq_true,not_true_eq_false,q1,q2,List.length_map]

set_option maxHeartbeats 2000000 in
set_option maxRecDepth 100000 in
theorem w_d7b (ks ls : List Lf) (D : List Ch) (kv lv v12 : AV) (cd : Cap) (i : Nat) (x13 : AV) (hi : i < D.length) (hl : D.length ≤ 1000000) (rk : IsRd 2 (ks.map Lf.av) kv) (rl : IsRd 2 (ls.map Lf.av) lv)
    (ok : ∀ x ∈ ks, x.ok ∧ x.ps.length ≤ 1000000 ∧ x.p.length ≤ 1000000) (ol : ∀ x ∈ ls, x.ok ∧ x.ps.length ≤ 1000000 ∧ x.p.length ≤ 1000000) (hkl : ks.length ≤ 1000) (hll : ls.length ≤ 1000) (hD : DiffOk ks ls D) (hn : 1010000 < n) :
    Wp (kont F n tot ω) n d7b [(9, .val kv), (10, .val lv), (11, .val (.imm 3 (D.map Ch.av) cd)), (12, .val v12), (13, .val (.int .i64 i)), (134, .val (.bool false))] h
      fun e r' h' => e = .normal ∧ h' = h ∧ r' = [(9, .val kv), (10, .val lv), (11, .val (.imm 3 (D.map Ch.av) cd)), (12, .val v12), (13, .val (.int .i64 i)), (181, .val (.bool false))] := by
  have q1 := ch_get hi
  have hm := List.getElem_mem hi
  have hw := hD.was _ hm
  have his := hD.is' _ hm
  have hne := hD.ne _ hm
  obtain ⟨v1, b1, k1, r1⟩ := c30 (n := n) (tot := tot) (ω := ω) (h := h) ks kv D[i].p rk (fun x hx => (ok x hx).1) (by omega) (by omega)
  obtain ⟨v2, b2, k2, r2⟩ := c30 (n := n) (tot := tot) (ω := ω) (h := h) ls lv D[i].p rl (fun x hx => (ol x hx).1) (by omega) (by omega)
  unfold d7b
  rcases r1 with ⟨x, f1, rfl, rfl⟩ | ⟨f1, rfl, rfl⟩
  · rw [f1] at hw
    rcases r2 with ⟨y, f2, rfl, rfl⟩ | ⟨f2, rfl, rfl⟩
    · rw [f2] at his
      have ox := ok x (fnd_mem f1)
      have oy := ol y (fnd_mem f2)
      have k3 := fun h => c24 (n := n) (tot := tot) (ω := ω) (h := h) x.ps y.ps x.v y.v ox.1.rd oy.1.rd ox.1.all oy.1.all (by have := ox.2.1; omega) (by have := oy.2.1; omega) (by have := ox.2.1; omega)
      have e : decide (x.ps = y.ps) = false := by simp [hne x y f1 f2]
      rw [e] at k3
      have w1 : D[i].w = true := by rw [← hw]; rfl
      have w2 : D[i].i = true := by rw [← his]; rfl
      simp (maxSteps := 2000000) (discharger := omega) only [xc,xo,xr,x0,x1,x2,x3,x4,x5,x6,xd,xe,xb,kont_call,kont_pure,kont_round,isNil,slOk,sliceV,selems,srcElems,copyTo,dlen,eqAV,eqCells,eqS,wr,place,partVals,partEs,placeEs,mapOf,keyOk,keyCells,findK,Bool.bne_false,Bool.bne_true,List.drop_zero,List.nil_append,List.append_nil,List.take_zero,List.cons_append,List.take_succ_cons,List.drop_succ_cons,List.take_nil,List.drop_nil,Reg.isA,Reg.isV,Reg.stays,Reg.onto,Bool.false_or,Bool.or_false,Bool.false_and,Bool.and_false,Bool.true_and,Bool.and_true,Bool.or_true,Bool.true_or,↓reduceIte,reduceCtorEq,Nat.reduceEqDiff,Nat.reduceLT,Nat.reduceAdd,Nat.reduceMul,Nat.add_zero,Nat.zero_add,Nat.not_lt_zero,Nat.zero_ne_one,Nat.one_ne_zero,Nat.reduceLeDiff,Nat.lt_irrefl,Nat.zero_lt_succ,Bool.false_eq_true,Bool.not_true,Bool.not_false,Option.map_some,Option.map_none,Option.bind_some,Option.getD_some,Option.getD_none,and_self,and_true,true_and,List.length_cons,List.length_nil,List.any_nil,List.any_cons,Int.toNat_natCast,Int.cast_ofNat_Int,Int.natCast_zero,Int.natCast_nonneg,true_implies,or_true,true_or,false_or,or_false,beq_self_eq_true,Option.some.injEq,exists_eq_left',Int.reduceEq,Int.reduceLT,Int.reduceLE,Int.reduceGT,Int.reduceGE,Nat.reduceGT,Int.reduceNeg,Int.reduceToNat,Int.reduceAdd,Int.reduceMul,Int.reduceSub,Int.reducePow,decide_true,decide_false,decide_eq_true_eq,List.getElem?_cons_zero,List.getElem?_cons_succ,Nat.reduceBEq,Nat.reduceSub,exists_false,and_false,false_and,xu,List.set_cons_zero,List.set_cons_succ,wrap_i64,int_lt_t,int_lt_f,int_le_t,int_le_f,int_gt_t,int_gt_f,int_ge_t,int_ge_f,int_eq_t,int_eq_f,int_beq_t,int_beq_f,int_bne_t,int_bne_f,nat_le_t,nat_le_f,Nat.sub_zero,Nat.sub_self,not_false_eq_true,not_true_eq_false,q1,k1,k2,k3,w1,w2,List.length_map]
    · rw [f2] at his
      have w1 : D[i].w = true := by rw [← hw]; rfl
      have w2 : D[i].i = false := by rw [← his]; rfl
      simp (maxSteps := 2000000) (discharger := omega) only [xc,xo,xr,x0,x1,x2,x3,x4,x5,x6,xd,xe,xb,kont_call,kont_pure,kont_round,isNil,slOk,sliceV,selems,srcElems,copyTo,dlen,eqAV,eqCells,eqS,wr,place,partVals,partEs,placeEs,mapOf,keyOk,keyCells,findK,Bool.bne_false,Bool.bne_true,List.drop_zero,List.nil_append,List.append_nil,List.take_zero,List.cons_append,List.take_succ_cons,List.drop_succ_cons,List.take_nil,List.drop_nil,Reg.isA,Reg.isV,Reg.stays,Reg.onto,Bool.false_or,Bool.or_false,Bool.false_and,Bool.and_false,Bool.true_and,Bool.and_true,Bool.or_true,Bool.true_or,↓reduceIte,reduceCtorEq,Nat.reduceEqDiff,Nat.reduceLT,Nat.reduceAdd,Nat.reduceMul,Nat.add_zero,Nat.zero_add,Nat.not_lt_zero,Nat.zero_ne_one,Nat.one_ne_zero,Nat.reduceLeDiff,Nat.lt_irrefl,Nat.zero_lt_succ,Bool.false_eq_true,Bool.not_true,Bool.not_false,Option.map_some,Option.map_none,Option.bind_some,Option.getD_some,Option.getD_none,and_self,and_true,true_and,List.length_cons,List.length_nil,List.any_nil,List.any_cons,Int.toNat_natCast,Int.cast_ofNat_Int,Int.natCast_zero,Int.natCast_nonneg,true_implies,or_true,true_or,false_or,or_false,beq_self_eq_true,Option.some.injEq,exists_eq_left',Int.reduceEq,Int.reduceLT,Int.reduceLE,Int.reduceGT,Int.reduceGE,Nat.reduceGT,Int.reduceNeg,Int.reduceToNat,Int.reduceAdd,Int.reduceMul,Int.reduceSub,Int.reducePow,decide_true,decide_false,decide_eq_true_eq,List.getElem?_cons_zero,List.getElem?_cons_succ,Nat.reduceBEq,Nat.reduceSub,exists_false,and_false,false_and,xu,List.set_cons_zero,List.set_cons_succ,wrap_i64,int_lt_t,int_lt_f,int_le_t,int_le_f,int_gt_t,int_gt_f,int_ge_t,int_ge_f,int_eq_t,int_eq_f,int_beq_t,int_beq_f,int_bne_t,int_bne_f,nat_le_t,nat_le_f,Nat.sub_zero,Nat.sub_self,not_false_eq_true,not_true_eq_false,q1,k1,k2,w1,w2,List.length_map]
  · rw [f1] at hw
    rcases r2 with ⟨y, f2, rfl, rfl⟩ | ⟨f2, rfl, rfl⟩
    · rw [f2] at his
      have w1 : D[i].w = false := by rw [← hw]; rfl
      have w2 : D[i].i = true := by rw [← his]; rfl
      simp (maxSteps := 2000000) (discharger := omega) only [xc,xo,xr,x0,x1,x2,x3,x4,x5,x6,xd,xe,xb,kont_call,kont_pure,kont_round,isNil,slOk,sliceV,selems,srcElems,copyTo,dlen,eqAV,eqCells,eqS,wr,place,partVals,partEs,placeEs,mapOf,keyOk,keyCells,findK,Bool.bne_false,Bool.bne_true,List.drop_zero,List.nil_append,List.append_nil,List.take_zero,List.cons_append,List.take_succ_cons,List.drop_succ_cons,List.take_nil,List.drop_nil,Reg.isA,Reg.isV,Reg.stays,Reg.onto,Bool.false_or,Bool.or_false,Bool.false_and,Bool.and_false,Bool.true_and,Bool.and_true,Bool.or_true,Bool.true_or,↓reduceIte,reduceCtorEq,Nat.reduceEqDiff,Nat.reduceLT,Nat.reduceAdd,Nat.reduceMul,Nat.add_zero,Nat.zero_add,Nat.not_lt_zero,Nat.zero_ne_one,Nat.one_ne_zero,Nat.reduceLeDiff,Nat.lt_irrefl,Nat.zero_lt_succ,Bool.false_eq_true,Bool.not_true,Bool.not_false,Option.map_some,Option.map_none,Option.bind_some,Option.getD_some,Option.getD_none,and_self,and_true,true_and,List.length_cons,List.length_nil,List.any_nil,List.any_cons,Int.toNat_natCast,Int.cast_ofNat_Int,Int.natCast_zero,Int.natCast_nonneg,true_implies,or_true,true_or,false_or,or_false,beq_self_eq_true,Option.some.injEq,exists_eq_left',Int.reduceEq,Int.reduceLT,Int.reduceLE,Int.reduceGT,Int.reduceGE,Nat.reduceGT,Int.reduceNeg,Int.reduceToNat,Int.reduceAdd,Int.reduceMul,Int.reduceSub,Int.reducePow,decide_true,decide_false,decide_eq_true_eq,List.getElem?_cons_zero,List.getElem?_cons_succ,Nat.reduceBEq,Nat.reduceSub,exists_false,and_false,false_and,xu,List.set_cons_zero,List.set_cons_succ,wrap_i64,int_lt_t,int_lt_f,int_le_t,int_le_f,int_gt_t,int_gt_f,int_ge_t,int_ge_f,int_eq_t,int_eq_f,int_beq_t,int_beq_f,int_bne_t,int_bne_f,nat_le_t,nat_le_f,Nat.sub_zero,Nat.sub_self,not_false_eq_true,not_true_eq_false,q1,k1,k2,w1,w2,List.length_map]
    · rw [f2] at his
      have w1 : D[i].w = false := by rw [← hw]; rfl
      have w2 : D[i].i = false := by rw [← his]; rfl
      simp (maxSteps := 2000000) (discharger := omega) only [xc,xo,xr,x0,x1,x2,x3,x4,x5,x6,xd,xe,xb,kont_call,kont_pure,kont_round,isNil,slOk,sliceV,selems,srcElems,copyTo,dlen,eqAV,eqCells,eqS,wr,place,partVals,partEs,placeEs,mapOf,keyOk,keyCells,findK,Bool.bne_false,Bool.bne_true,List.drop_zero,List.nil_append,List.append_nil,List.take_zero,List.cons_append,List.take_succ_cons,List.drop_succ_cons,List.take_nil,List.drop_nil,Reg.isA,Reg.isV,Reg.stays,Reg.onto,Bool.false_or,Bool.or_false,Bool.false_and,Bool.and_false,Bool.true_and,Bool.and_true,Bool.or_true,Bool.true_or,↓reduceIte,reduceCtorEq,Nat.reduceEqDiff,Nat.reduceLT,Nat.reduceAdd,Nat.reduceMul,Nat.add_zero,Nat.zero_add,Nat.not_lt_zero,Nat.zero_ne_one,Nat.one_ne_zero,Nat.reduceLeDiff,Nat.lt_irrefl,Nat.zero_lt_succ,Bool.false_eq_true,Bool.not_true,Bool.not_false,Option.map_some,Option.map_none,Option.bind_some,Option.getD_some,Option.getD_none,and_self,and_true,true_and,List.length_cons,List.length_nil,List.any_nil,List.any_cons,Int.toNat_natCast,Int.cast_ofNat_Int,Int.natCast_zero,Int.natCast_nonneg,true_implies,or_true,true_or,false_or,or_false,beq_self_eq_true,Option.some.injEq,exists_eq_left',Int.reduceEq,Int.reduceLT,Int.reduceLE,Int.reduceGT,Int.reduceGE,Nat.reduceGT,Int.reduceNeg,Int.reduceToNat,Int.reduceAdd,Int.reduceMul,Int.reduceSub,Int.reducePow,decide_true,decide_false,decide_eq_true_eq,List.getElem?_cons_zero,List.getElem?_cons_succ,Nat.reduceBEq,Nat.reduceSub,exists_false,and_false,false_and,xu,List.set_cons_zero,List.set_cons_succ,wrap_i64,int_lt_t,int_lt_f,int_le_t,int_le_f,int_gt_t,int_gt_f,int_ge_t,int_ge_f,int_eq_t,int_eq_f,int_beq_t,int_beq_f,int_bne_t,int_bne_f,nat_le_t,nat_le_f,Nat.sub_zero,Nat.sub_self,not_false_eq_true,not_true_eq_false,q1,k1,k2,w1,w2,List.length_map]

theorem w_d7c (ks ls : List Lf) (ck : Cap) (lv v11 : AV) (i m : Nat) (hi : i < ks.length) (rl : IsRd 2 (ls.map Lf.av) lv) (rk : IsRd 2 (ks.map Lf.av) (.imm 2 (ks.map Lf.av) ck))
    (ok : ∀ x ∈ ks, x.ok ∧ x.ps.length ≤ 1000000 ∧ x.p.length ≤ 1000000) (ol : ∀ x ∈ ls, x.ok ∧ x.ps.length ≤ 1000000 ∧ x.p.length ≤ 1000000) (hkl : ks.length ≤ 1000) (hll : ls.length ≤ 1000) (hm : m ≤ 1000) (hn : 1010000 < n) :
    Wp (kont F n tot ω) n d7c [(9, .val (.imm 2 (ks.map Lf.av) ck)), (10, .val lv), (11, .val v11), (18, .val (.int .i64 m)), (19, .val (.int .i64 i)), (185, .val (.bool true))] h
      fun e r' h' => e = .normal ∧ h' = h ∧ (r' = [(9, .val (.imm 2 (ks.map Lf.av) ck)), (10, .val lv), (11, .val v11), (18, .val (.int .i64 (m + (if same ls ks[i] then 1 else 0) : Nat))), (19, .val (.int .i64 i))] ∨
        r' = [(9, .val (.imm 2 (ks.map Lf.av) ck)), (10, .val lv), (11, .val v11), (18, .val (.int .i64 (m + (if same ls ks[i] then 1 else 0) : Nat))), (19, .val (.int .i64 i)), (207, .val (.bool false))]) := by
  have q1 := lf_get hi
  obtain ⟨v2, b2, k2, r2⟩ := c30 (n := n) (tot := tot) (ω := ω) (h := h) ls lv ks[i].p rl (fun x hx => (ol x hx).1) (by omega) (by omega)
  have ox := ok _ (List.getElem_mem hi)
  have t1 := rd_sub ox.1.rd 1
  unfold d7c
  rcases r2 with ⟨y, f2, rfl, rfl⟩ | ⟨f2, rfl, rfl⟩
  · have oy := ol y (fnd_mem f2)
    have k3 := fun h => c24 (n := n) (tot := tot) (ω := ω) (h := h) ks[i].ps y.ps ks[i].v y.v ox.1.rd oy.1.rd ox.1.all oy.1.all (by have := ox.2.1; omega) (by have := oy.2.1; omega) (by have := ox.2.1; omega)
    by_cases e : ks[i].ps = y.ps
    · have es : same ls ks[i] = true := by unfold same; rw [f2]; simp [e]
      have e' : decide (ks[i].ps = y.ps) = true := by simp [e]
      rw [e'] at k3
      simp (maxSteps := 2000000) (discharger := omega) only [xc,xo,xr,x0,x1,x2,x3,x4,x5,x6,xd,xe,xb,kont_call,kont_pure,kont_round,isNil,slOk,sliceV,selems,srcElems,copyTo,dlen,eqAV,eqCells,eqS,wr,place,partVals,partEs,placeEs,mapOf,keyOk,keyCells,findK,Bool.bne_false,Bool.bne_true,List.drop_zero,List.nil_append,List.append_nil,List.take_zero,List.cons_append,List.take_succ_cons,List.drop_succ_cons,List.take_nil,List.drop_nil,Reg.isA,Reg.isV,Reg.stays,Reg.onto,Bool.false_or,Bool.or_false,Bool.false_and,Bool.and_false,Bool.true_and,Bool.and_true,Bool.or_true,Bool.true_or,↓reduceIte,reduceCtorEq,Nat.reduceEqDiff,Nat.reduceLT,Nat.reduceAdd,Nat.reduceMul,Nat.add_zero,Nat.zero_add,Nat.not_lt_zero,Nat.zero_ne_one,Nat.one_ne_zero,Nat.reduceLeDiff,Nat.lt_irrefl,Nat.zero_lt_succ,Bool.false_eq_true,Bool.not_true,Bool.not_false,Option.map_some,Option.map_none,Option.bind_some,Option.getD_some,Option.getD_none,and_self,and_true,true_and,List.length_cons,List.length_nil,List.any_nil,List.any_cons,Int.toNat_natCast,Int.cast_ofNat_Int,Int.natCast_zero,Int.natCast_nonneg,true_implies,or_true,true_or,false_or,or_false,beq_self_eq_true,Option.some.injEq,exists_eq_left',Int.reduceEq,Int.reduceLT,Int.reduceLE,Int.reduceGT,Int.reduceGE,Nat.reduceGT,Int.reduceNeg,Int.reduceToNat,Int.reduceAdd,Int.reduceMul,Int.reduceSub,Int.reducePow,decide_true,decide_false,decide_eq_true_eq,List.getElem?_cons_zero,List.getElem?_cons_succ,Nat.reduceBEq,Nat.reduceSub,exists_false,and_false,false_and,xu,List.set_cons_zero,List.set_cons_succ,wrap_i64,int_lt_t,int_lt_f,int_le_t,int_le_f,int_gt_t,int_gt_f,int_ge_t,int_ge_f,int_eq_t,int_eq_f,int_beq_t,int_beq_f,int_bne_t,int_bne_f,nat_le_t,nat_le_f,Nat.sub_zero,Nat.sub_self,not_false_eq_true,not_true_eq_false,q1,k2,k3,t1,es,List.length_map]
      exact .inl (by rw [show ((m : Nat) : Int) + 1 = ((m + 1 : Nat) : Int) by omega])
    · have es : same ls ks[i] = false := by unfold same; rw [f2]; simp [e]
      have e' : decide (ks[i].ps = y.ps) = false := by simp [e]
      rw [e'] at k3
      simp (maxSteps := 2000000) (discharger := omega) only [xc,xo,xr,x0,x1,x2,x3,x4,x5,x6,xd,xe,xb,kont_call,kont_pure,kont_round,isNil,slOk,sliceV,selems,srcElems,copyTo,dlen,eqAV,eqCells,eqS,wr,place,partVals,partEs,placeEs,mapOf,keyOk,keyCells,findK,Bool.bne_false,Bool.bne_true,List.drop_zero,List.nil_append,List.append_nil,List.take_zero,List.cons_append,List.take_succ_cons,List.drop_succ_cons,List.take_nil,List.drop_nil,Reg.isA,Reg.isV,Reg.stays,Reg.onto,Bool.false_or,Bool.or_false,Bool.false_and,Bool.and_false,Bool.true_and,Bool.and_true,Bool.or_true,Bool.true_or,↓reduceIte,reduceCtorEq,Nat.reduceEqDiff,Nat.reduceLT,Nat.reduceAdd,Nat.reduceMul,Nat.add_zero,Nat.zero_add,Nat.not_lt_zero,Nat.zero_ne_one,Nat.one_ne_zero,Nat.reduceLeDiff,Nat.lt_irrefl,Nat.zero_lt_succ,Bool.false_eq_true,Bool.not_true,Bool.not_false,Option.map_some,Option.map_none,Option.bind_some,Option.getD_some,Option.getD_none,and_self,and_true,true_and,List.length_cons,List.length_nil,List.any_nil,List.any_cons,Int.toNat_natCast,Int.cast_ofNat_Int,Int.natCast_zero,Int.natCast_nonneg,true_implies,or_true,true_or,false_or,or_false,beq_self_eq_true,Option.some.injEq,exists_eq_left',Int.reduceEq,Int.reduceLT,Int.reduceLE,Int.reduceGT,Int.reduceGE,Nat.reduceGT,Int.reduceNeg,Int.reduceToNat,Int.reduceAdd,Int.reduceMul,Int.reduceSub,Int.reducePow,decide_true,decide_false,decide_eq_true_eq,List.getElem?_cons_zero,List.getElem?_cons_succ,Nat.reduceBEq,Nat.reduceSub,exists_false,and_false,false_and,xu,List.set_cons_zero,List.set_cons_succ,wrap_i64,int_lt_t,int_lt_f,int_le_t,int_le_f,int_gt_t,int_gt_f,int_ge_t,int_ge_f,int_eq_t,int_eq_f,int_beq_t,int_beq_f,int_bne_t,int_bne_f,nat_le_t,nat_le_f,Nat.sub_zero,Nat.sub_self,not_false_eq_true,not_true_eq_false,q1,k2,k3,t1,es,List.length_map]
  · have es : same ls ks[i] = false := by unfold same; rw [f2]
    simp (maxSteps := 2000000) (discharger := omega) only [xc,xo,xr,x0,x1,x2,x3,x4,x5,x6,xd,xe,xb,kont_call,kont_pure,kont_round,isNil,slOk,sliceV,selems,srcElems,copyTo,dlen,eqAV,eqCells,eqS,wr,place,partVals,partEs,placeEs,mapOf,keyOk,keyCells,findK,Bool.bne_false,Bool.bne_true,List.drop_zero,List.nil_append,List.append_nil,List.take_zero,List.cons_append,List.take_succ_cons,List.drop_succ_cons,List.take_nil,List.drop_nil,Reg.isA,Reg.isV,Reg.stays,Reg.onto,Bool.false_or,Bool.or_false,Bool.false_and,Bool.and_false,Bool.true_and,Bool.and_true,Bool.or_true,Bool.true_or,↓reduceIte,reduceCtorEq,Nat.reduceEqDiff,Nat.reduceLT,Nat.reduceAdd,Nat.reduceMul,Nat.add_zero,Nat.zero_add,Nat.not_lt_zero,Nat.zero_ne_one,Nat.one_ne_zero,Nat.reduceLeDiff,Nat.lt_irrefl,Nat.zero_lt_succ,Bool.false_eq_true,Bool.not_true,Bool.not_false,Option.map_some,Option.map_none,Option.bind_some,Option.getD_some,Option.getD_none,and_self,and_true,true_and,List.length_cons,List.length_nil,List.any_nil,List.any_cons,Int.toNat_natCast,Int.cast_ofNat_Int,Int.natCast_zero,Int.natCast_nonneg,true_implies,or_true,true_or,false_or,or_false,beq_self_eq_true,Option.some.injEq,exists_eq_left',Int.reduceEq,Int.reduceLT,Int.reduceLE,Int.reduceGT,Int.reduceGE,Nat.reduceGT,Int.reduceNeg,Int.reduceToNat,Int.reduceAdd,Int.reduceMul,Int.reduceSub,Int.reducePow,decide_true,decide_false,decide_eq_true_eq,List.getElem?_cons_zero,List.getElem?_cons_succ,Nat.reduceBEq,Nat.reduceSub,exists_false,and_false,false_and,xu,List.set_cons_zero,List.set_cons_succ,wrap_i64,int_lt_t,int_lt_f,int_le_t,int_le_f,int_gt_t,int_gt_f,int_ge_t,int_ge_f,int_eq_t,int_eq_f,int_beq_t,int_beq_f,int_bne_t,int_bne_f,nat_le_t,nat_le_f,Nat.sub_zero,Nat.sub_self,not_false_eq_true,not_true_eq_false,q1,k2,t1,es,List.length_map]

theorem w_d7d (D : List Ch) (cd : Cap) (v9 v10 v18 : AV) (i m : Nat) (hi : i < D.length) (hl : D.length ≤ 1000000) (hm : m ≤ 1000000) :
    Wp (kont F n tot ω) n d7d [(9, .val v9), (10, .val v10), (11, .val (.imm 3 (D.map Ch.av) cd)), (18, .val v18), (22, .val (.int .i64 m)), (23, .val (.int .i64 i)), (213, .val (.bool true))] h
      fun e r' h' => e = .normal ∧ h' = h ∧ (r' = [(9, .val v9), (10, .val v10), (11, .val (.imm 3 (D.map Ch.av) cd)), (18, .val v18), (22, .val (.int .i64 (m + (if D[i].w && D[i].i then 1 else 0) : Nat))), (23, .val (.int .i64 i))] ∨
        r' = [(9, .val v9), (10, .val v10), (11, .val (.imm 3 (D.map Ch.av) cd)), (18, .val v18), (22, .val (.int .i64 (m + (if D[i].w && D[i].i then 1 else 0) : Nat))), (23, .val (.int .i64 i)), (227, .val (.bool false))]) := by
  have q1 := ch_get hi
  unfold d7d
  cases hw : D[i].w with
  | true =>
    cases hw2 : D[i].i with
    | true =>
      simp (maxSteps := 2000000) (discharger := omega) only [xc,xo,xr,x0,x1,x2,x3,x4,x5,x6,xd,xe,xb,kont_call,kont_pure,kont_round,isNil,slOk,sliceV,selems,srcElems,copyTo,dlen,eqAV,eqCells,eqS,wr,place,partVals,partEs,placeEs,mapOf,keyOk,keyCells,findK,Bool.bne_false,Bool.bne_true,List.drop_zero,List.nil_append,List.append_nil,List.take_zero,List.cons_append,List.take_succ_cons,List.drop_succ_cons,List.take_nil,List.drop_nil,Reg.isA,Reg.isV,Reg.stays,Reg.onto,Bool.false_or,Bool.or_false,Bool.false_and,Bool.and_false,Bool.true_and,Bool.and_true,Bool.or_true,Bool.true_or,↓reduceIte,reduceCtorEq,Nat.reduceEqDiff,Nat.reduceLT,Nat.reduceAdd,Nat.reduceMul,Nat.add_zero,Nat.zero_add,Nat.not_lt_zero,Nat.zero_ne_one,Nat.one_ne_zero,Nat.reduceLeDiff,Nat.lt_irrefl,Nat.zero_lt_succ,Bool.false_eq_true,Bool.not_true,Bool.not_false,Option.map_some,Option.map_none,Option.bind_some,Option.getD_some,Option.getD_none,and_self,and_true,true_and,List.length_cons,List.length_nil,List.any_nil,List.any_cons,Int.toNat_natCast,Int.cast_ofNat_Int,Int.natCast_zero,Int.natCast_nonneg,true_implies,or_true,true_or,false_or,or_false,beq_self_eq_true,Option.some.injEq,exists_eq_left',Int.reduceEq,Int.reduceLT,Int.reduceLE,Int.reduceGT,Int.reduceGE,Nat.reduceGT,Int.reduceNeg,Int.reduceToNat,Int.reduceAdd,Int.reduceMul,Int.reduceSub,Int.reducePow,decide_true,decide_false,decide_eq_true_eq,List.getElem?_cons_zero,List.getElem?_cons_succ,Nat.reduceBEq,Nat.reduceSub,exists_false,and_false,false_and,xu,List.set_cons_zero,List.set_cons_succ,wrap_i64,int_lt_t,int_lt_f,int_le_t,int_le_f,int_gt_t,int_gt_f,int_ge_t,int_ge_f,int_eq_t,int_eq_f,int_beq_t,int_beq_f,int_bne_t,int_bne_f,nat_le_t,nat_le_f,Nat.sub_zero,Nat.sub_self,not_false_eq_true,not_true_eq_false,q1,hw,hw2,List.length_map]
      exact .inl (by rw [show ((m : Nat) : Int) + 1 = ((m + 1 : Nat) : Int) by omega])
    | false => simp (maxSteps := 2000000) (discharger := omega) only [xc,xo,xr,x0,x1,x2,x3,x4,x5,x6,xd,xe,xb,kont_call,kont_pure,kont_round,isNil,slOk,sliceV,selems,srcElems,copyTo,dlen,eqAV,eqCells,eqS,wr,place,partVals,partEs,placeEs,mapOf,keyOk,keyCells,findK,Bool.bne_false,Bool.bne_true,List.drop_zero,List.nil_append,List.append_nil,List.take_zero,List.cons_append,List.take_succ_cons,List.drop_succ_cons,List.take_nil,List.drop_nil,Reg.isA,Reg.isV,Reg.stays,Reg.onto,Bool.false_or,Bool.or_false,Bool.false_and,Bool.and_false,Bool.true_and,Bool.and_true,Bool.or_true,Bool.true_or,↓reduceIte,reduceCtorEq,Nat.reduceEqDiff,Nat.reduceLT,Nat.reduceAdd,Nat.reduceMul,Nat.add_zero,Nat.zero_add,Nat.not_lt_zero,Nat.zero_ne_one,Nat.one_ne_zero,Nat.reduceLeDiff,Nat.lt_irrefl,Nat.zero_lt_succ,Bool.false_eq_true,Bool.not_true,Bool.not_false,Option.map_some,Option.map_none,Option.bind_some,Option.getD_some,Option.getD_none,and_self,and_true,true_and,List.length_cons,List.length_nil,List.any_nil,List.any_cons,Int.toNat_natCast,Int.cast_ofNat_Int,Int.natCast_zero,Int.natCast_nonneg,true_implies,or_true,true_or,false_or,or_false,beq_self_eq_true,Option.some.injEq,exists_eq_left',Int.reduceEq,Int.reduceLT,Int.reduceLE,Int.reduceGT,Int.reduceGE,Nat.reduceGT,Int.reduceNeg,Int.reduceToNat,Int.reduceAdd,Int.reduceMul,Int.reduceSub,Int.reducePow,decide_true,decide_false,decide_eq_true_eq,List.getElem?_cons_zero,List.getElem?_cons_succ,Nat.reduceBEq,Nat.reduceSub,exists_false,and_false,false_and,xu,List.set_cons_zero,List.set_cons_succ,wrap_i64,int_lt_t,int_lt_f,int_le_t,int_le_f,int_gt_t,int_gt_f,int_ge_t,int_ge_f,int_eq_t,int_eq_f,int_beq_t,int_beq_f,int_bne_t,int_bne_f,nat_le_t,nat_le_f,Nat.sub_zero,Nat.sub_self,not_false_eq_true,not_true_eq_false,q1,hw,hw2,List.length_map]
  | false => simp (maxSteps := 2000000) (discharger := omega) only [xc,xo,xr,x0,x1,x2,x3,x4,x5,x6,xd,xe,xb,kont_call,kont_pure,kont_round,isNil,slOk,sliceV,selems,srcElems,copyTo,dlen,eqAV,eqCells,eqS,wr,place,partVals,partEs,placeEs,mapOf,keyOk,keyCells,findK,Bool.bne_false,Bool.bne_true,List.drop_zero,List.nil_append,List.append_nil,List.take_zero,List.cons_append,List.take_succ_cons,List.drop_succ_cons,List.take_nil,List.drop_nil,Reg.isA,Reg.isV,Reg.stays,Reg.onto,Bool.false_or,Bool.or_false,Bool.false_and,Bool.and_false,Bool.true_and,Bool.and_true,Bool.or_true,Bool.true_or,↓reduceIte,reduceCtorEq,Nat.reduceEqDiff,Nat.reduceLT,Nat.reduceAdd,Nat.reduceMul,Nat.add_zero,Nat.zero_add,Nat.not_lt_zero,Nat.zero_ne_one,Nat.one_ne_zero,Nat.reduceLeDiff,Nat.lt_irrefl,Nat.zero_lt_succ,Bool.false_eq_true,Bool.not_true,Bool.not_false,Option.map_some,Option.map_none,Option.bind_some,Option.getD_some,Option.getD_none,and_self,and_true,true_and,List.length_cons,List.length_nil,List.any_nil,List.any_cons,Int.toNat_natCast,Int.cast_ofNat_Int,Int.natCast_zero,Int.natCast_nonneg,true_implies,or_true,true_or,false_or,or_false,beq_self_eq_true,Option.some.injEq,exists_eq_left',Int.reduceEq,Int.reduceLT,Int.reduceLE,Int.reduceGT,Int.reduceGE,Nat.reduceGT,Int.reduceNeg,Int.reduceToNat,Int.reduceAdd,Int.reduceMul,Int.reduceSub,Int.reducePow,decide_true,decide_false,decide_eq_true_eq,List.getElem?_cons_zero,List.getElem?_cons_succ,Nat.reduceBEq,Nat.reduceSub,exists_false,and_false,false_and,xu,List.set_cons_zero,List.set_cons_succ,wrap_i64,int_lt_t,int_lt_f,int_le_t,int_le_f,int_gt_t,int_gt_f,int_ge_t,int_ge_f,int_eq_t,int_eq_f,int_beq_t,int_beq_f,int_bne_t,int_bne_f,nat_le_t,nat_le_f,Nat.sub_zero,Nat.sub_self,not_false_eq_true,not_true_eq_false,q1,hw,List.length_map]

theorem w_d7f (ks ls : List Lf) (D : List Ch) (kv lv vd x19 x185 : AV) (rk : IsRd 2 (ks.map Lf.av) kv) (rl : IsRd 2 (ls.map Lf.av) lv) (rd : IsRd 3 (D.map Ch.av) vd) (hkl : ks.length ≤ 1000) (hll : ls.length ≤ 1000) (hl : D.length ≤ 1000000) (hD : DiffOk ks ls D) (hn : 1010000 < n) :
    Wp (kont F n tot ω) n d7f [(9, .val kv), (10, .val lv), (11, .val vd), (18, .val (.int .i64 (cnt ks ls : Nat))), (19, .val x19), (185, .val x185)] h (Ret [ARes.t 8] fun v h' => v = .bool true) := by
  have l1 := rk.len
  have l2 := rl.len
  have l3 := rd.len
  rw [List.length_map] at l1 l2 l3
  have hnum := hD.num
  unfold d7f
  simp (maxSteps := 2000000) (discharger := omega) only [xc,xo,xr,x0,x1,x2,x3,x4,x5,x6,xd,xe,xb,kont_call,kont_pure,kont_round,isNil,slOk,sliceV,selems,srcElems,copyTo,dlen,eqAV,eqCells,eqS,wr,place,partVals,partEs,placeEs,mapOf,keyOk,keyCells,findK,Bool.bne_false,Bool.bne_true,List.drop_zero,List.nil_append,List.append_nil,List.take_zero,List.cons_append,List.take_succ_cons,List.drop_succ_cons,List.take_nil,List.drop_nil,Reg.isA,Reg.isV,Reg.stays,Reg.onto,Bool.false_or,Bool.or_false,Bool.false_and,Bool.and_false,Bool.true_and,Bool.and_true,Bool.or_true,Bool.true_or,↓reduceIte,reduceCtorEq,Nat.reduceEqDiff,Nat.reduceLT,Nat.reduceAdd,Nat.reduceMul,Nat.add_zero,Nat.zero_add,Nat.not_lt_zero,Nat.zero_ne_one,Nat.one_ne_zero,Nat.reduceLeDiff,Nat.lt_irrefl,Nat.zero_lt_succ,Bool.false_eq_true,Bool.not_true,Bool.not_false,Option.map_some,Option.map_none,Option.bind_some,Option.getD_some,Option.getD_none,and_self,and_true,true_and,List.length_cons,List.length_nil,List.any_nil,List.any_cons,Int.toNat_natCast,Int.cast_ofNat_Int,Int.natCast_zero,Int.natCast_nonneg,true_implies,or_true,true_or,false_or,or_false,beq_self_eq_true,Option.some.injEq,exists_eq_left',Int.reduceEq,Int.reduceLT,Int.reduceLE,Int.reduceGT,Int.reduceGE,Nat.reduceGT,Int.reduceNeg,Int.reduceToNat,Int.reduceAdd,Int.reduceMul,Int.reduceSub,Int.reducePow,decide_true,decide_false,decide_eq_true_eq,List.getElem?_cons_zero,List.getElem?_cons_succ,Nat.reduceBEq,Nat.reduceSub,exists_false,and_false,false_and,xu,List.set_cons_zero,List.set_cons_succ,wrap_i64,int_lt_t,int_lt_f,int_le_t,int_le_f,int_gt_t,int_gt_f,int_ge_t,int_ge_f,int_eq_t,int_eq_f,int_beq_t,int_beq_f,int_bne_t,int_bne_f,nat_le_t,nat_le_f,Nat.sub_zero,Nat.sub_self,not_false_eq_true,not_true_eq_false]
  refine wpi_loop (fun x r g => ∃ (i : Nat), r = [(9, .val kv), (10, .val lv), (11, .val vd), (18, .val (.int .i64 (cnt ks ls : Nat))), (22, .val (.int .i64 (both (D.take i) : Nat))), (23, .val (.int .i64 i))] ∧ x = D.length - i ∧ i ≤ D.length) D.length (by omega)
    ⟨0, rfl, rfl, Nat.zero_le _⟩ ?_
  rintro x r g ⟨i, rfl, rfl, hi⟩
  by_cases hlt : i < D.length
  · obtain ⟨cd, rfl⟩ := rd.imm (i := i) (by simpa using hlt)
    have hb : both (D.take i) ≤ 1000000 := by
      unfold both
      have := List.length_filter_le (fun c : Ch => c.w && c.i) (D.take i)
      rw [List.length_take] at this
      omega
    have hs : both (D.take (i + 1)) = both (D.take i) + if D[i].w && D[i].i then 1 else 0 := flt_take _ D i hlt
    have wd := w_d7d (n := n) (tot := tot) (ω := ω) (h := g) D cd kv lv (.int .i64 (cnt ks ls : Nat)) i (both (D.take i)) hlt hl hb
    simp (maxSteps := 2000000) (discharger := omega) only [xc,xo,xr,x0,x1,x2,x3,x4,x5,x6,xd,xe,xb,kont_call,kont_pure,kont_round,isNil,slOk,sliceV,selems,srcElems,copyTo,dlen,eqAV,eqCells,eqS,wr,place,partVals,partEs,placeEs,mapOf,keyOk,keyCells,findK,Bool.bne_false,Bool.bne_true,List.drop_zero,List.nil_append,List.append_nil,List.take_zero,List.cons_append,List.take_succ_cons,List.drop_succ_cons,List.take_nil,List.drop_nil,Reg.isA,Reg.isV,Reg.stays,Reg.onto,Bool.false_or,Bool.or_false,Bool.false_and,Bool.and_false,Bool.true_and,Bool.and_true,Bool.or_true,Bool.true_or,↓reduceIte,reduceCtorEq,Nat.reduceEqDiff,Nat.reduceLT,Nat.reduceAdd,Nat.reduceMul,Nat.add_zero,Nat.zero_add,Nat.not_lt_zero,Nat.zero_ne_one,Nat.one_ne_zero,Nat.reduceLeDiff,Nat.lt_irrefl,Nat.zero_lt_succ,Bool.false_eq_true,Bool.not_true,Bool.not_false,Option.map_some,Option.map_none,Option.bind_some,Option.getD_some,Option.getD_none,and_self,and_true,true_and,List.length_cons,List.length_nil,List.any_nil,List.any_cons,Int.toNat_natCast,Int.cast_ofNat_Int,Int.natCast_zero,Int.natCast_nonneg,true_implies,or_true,true_or,false_or,or_false,beq_self_eq_true,Option.some.injEq,exists_eq_left',Int.reduceEq,Int.reduceLT,Int.reduceLE,Int.reduceGT,Int.reduceGE,Nat.reduceGT,Int.reduceNeg,Int.reduceToNat,Int.reduceAdd,Int.reduceMul,Int.reduceSub,Int.reducePow,decide_true,decide_false,decide_eq_true_eq,List.getElem?_cons_zero,List.getElem?_cons_succ,Nat.reduceBEq,Nat.reduceSub,exists_false,and_false,false_and,xu,List.set_cons_zero,List.set_cons_succ,wrap_i64,int_lt_t,int_lt_f,int_le_t,int_le_f,int_gt_t,int_gt_f,int_ge_t,int_ge_f,int_eq_t,int_eq_f,int_beq_t,int_beq_f,int_bne_t,int_bne_f,nat_le_t,nat_le_f,Nat.sub_zero,Nat.sub_self,not_false_eq_true,not_true_eq_false,l3]
    refine wd.mono ?_
    rintro e r' h' ⟨rfl, rfl, rfl | rfl⟩
    · simp (maxSteps := 2000000) (discharger := omega) only [xc,xo,xr,x0,x1,x2,x3,x4,x5,x6,xd,xe,xb,kont_call,kont_pure,kont_round,isNil,slOk,sliceV,selems,srcElems,copyTo,dlen,eqAV,eqCells,eqS,wr,place,partVals,partEs,placeEs,mapOf,keyOk,keyCells,findK,Bool.bne_false,Bool.bne_true,List.drop_zero,List.nil_append,List.append_nil,List.take_zero,List.cons_append,List.take_succ_cons,List.drop_succ_cons,List.take_nil,List.drop_nil,Reg.isA,Reg.isV,Reg.stays,Reg.onto,Bool.false_or,Bool.or_false,Bool.false_and,Bool.and_false,Bool.true_and,Bool.and_true,Bool.or_true,Bool.true_or,↓reduceIte,reduceCtorEq,Nat.reduceEqDiff,Nat.reduceLT,Nat.reduceAdd,Nat.reduceMul,Nat.add_zero,Nat.zero_add,Nat.not_lt_zero,Nat.zero_ne_one,Nat.one_ne_zero,Nat.reduceLeDiff,Nat.lt_irrefl,Nat.zero_lt_succ,Bool.false_eq_true,Bool.not_true,Bool.not_false,Option.map_some,Option.map_none,Option.bind_some,Option.getD_some,Option.getD_none,and_self,and_true,true_and,List.length_cons,List.length_nil,List.any_nil,List.any_cons,Int.toNat_natCast,Int.cast_ofNat_Int,Int.natCast_zero,Int.natCast_nonneg,true_implies,or_true,true_or,false_or,or_false,beq_self_eq_true,Option.some.injEq,exists_eq_left',Int.reduceEq,Int.reduceLT,Int.reduceLE,Int.reduceGT,Int.reduceGE,Nat.reduceGT,Int.reduceNeg,Int.reduceToNat,Int.reduceAdd,Int.reduceMul,Int.reduceSub,Int.reducePow,decide_true,decide_false,decide_eq_true_eq,List.getElem?_cons_zero,List.getElem?_cons_succ,Nat.reduceBEq,Nat.reduceSub,exists_false,and_false,false_and,xu,List.set_cons_zero,List.set_cons_succ,wrap_i64,int_lt_t,int_lt_f,int_le_t,int_le_f,int_gt_t,int_gt_f,int_ge_t,int_ge_f,int_eq_t,int_eq_f,int_beq_t,int_beq_f,int_bne_t,int_bne_f,nat_le_t,nat_le_f,Nat.sub_zero,Nat.sub_self,not_false_eq_true,not_true_eq_false]
      exact ⟨D.length - (i + 1), by omega, i + 1, by rw [hs, show ((i : Nat) : Int) + 1 = ((i + 1 : Nat) : Int) by omega], rfl, by omega⟩
    · simp (maxSteps := 2000000) (discharger := omega) only [xc,xo,xr,x0,x1,x2,x3,x4,x5,x6,xd,xe,xb,kont_call,kont_pure,kont_round,isNil,slOk,sliceV,selems,srcElems,copyTo,dlen,eqAV,eqCells,eqS,wr,place,partVals,partEs,placeEs,mapOf,keyOk,keyCells,findK,Bool.bne_false,Bool.bne_true,List.drop_zero,List.nil_append,List.append_nil,List.take_zero,List.cons_append,List.take_succ_cons,List.drop_succ_cons,List.take_nil,List.drop_nil,Reg.isA,Reg.isV,Reg.stays,Reg.onto,Bool.false_or,Bool.or_false,Bool.false_and,Bool.and_false,Bool.true_and,Bool.and_true,Bool.or_true,Bool.true_or,↓reduceIte,reduceCtorEq,Nat.reduceEqDiff,Nat.reduceLT,Nat.reduceAdd,Nat.reduceMul,Nat.add_zero,Nat.zero_add,Nat.not_lt_zero,Nat.zero_ne_one,Nat.one_ne_zero,Nat.reduceLeDiff,Nat.lt_irrefl,Nat.zero_lt_succ,Bool.false_eq_true,Bool.not_true,Bool.not_false,Option.map_some,Option.map_none,Option.bind_some,Option.getD_some,Option.getD_none,and_self,and_true,true_and,List.length_cons,List.length_nil,List.any_nil,List.any_cons,Int.toNat_natCast,Int.cast_ofNat_Int,Int.natCast_zero,Int.natCast_nonneg,true_implies,or_true,true_or,false_or,or_false,beq_self_eq_true,Option.some.injEq,exists_eq_left',Int.reduceEq,Int.reduceLT,Int.reduceLE,Int.reduceGT,Int.reduceGE,Nat.reduceGT,Int.reduceNeg,Int.reduceToNat,Int.reduceAdd,Int.reduceMul,Int.reduceSub,Int.reducePow,decide_true,decide_false,decide_eq_true_eq,List.getElem?_cons_zero,List.getElem?_cons_succ,Nat.reduceBEq,Nat.reduceSub,exists_false,and_false,false_and,xu,List.set_cons_zero,List.set_cons_succ,wrap_i64,int_lt_t,int_lt_f,int_le_t,int_le_f,int_gt_t,int_gt_f,int_ge_t,int_ge_f,int_eq_t,int_eq_f,int_beq_t,int_beq_f,int_bne_t,int_bne_f,nat_le_t,nat_le_f,Nat.sub_zero,Nat.sub_self,not_false_eq_true,not_true_eq_false]
      exact ⟨D.length - (i + 1), by omega, i + 1, by rw [hs, show ((i : Nat) : Int) + 1 = ((i + 1 : Nat) : Int) by omega], rfl, by omega⟩
  · obtain rfl : i = D.length := by omega
    rw [List.take_length]
    generalize both D = bt at *
    generalize cnt ks ls = cn at *
    simp (maxSteps := 2000000) (discharger := omega) only [xc,xo,xr,x0,x1,x2,x3,x4,x5,x6,xd,xe,xb,kont_call,kont_pure,kont_round,isNil,slOk,sliceV,selems,srcElems,copyTo,dlen,eqAV,eqCells,eqS,wr,place,partVals,partEs,placeEs,mapOf,keyOk,keyCells,findK,Bool.bne_false,Bool.bne_true,List.drop_zero,List.nil_append,List.append_nil,List.take_zero,List.cons_append,List.take_succ_cons,List.drop_succ_cons,List.take_nil,List.drop_nil,Reg.isA,Reg.isV,Reg.stays,Reg.onto,Bool.false_or,Bool.or_false,Bool.false_and,Bool.and_false,Bool.true_and,Bool.and_true,Bool.or_true,Bool.true_or,↓reduceIte,reduceCtorEq,Nat.reduceEqDiff,Nat.reduceLT,Nat.reduceAdd,Nat.reduceMul,Nat.add_zero,Nat.zero_add,Nat.not_lt_zero,Nat.zero_ne_one,Nat.one_ne_zero,Nat.reduceLeDiff,Nat.lt_irrefl,Nat.zero_lt_succ,Bool.false_eq_true,Bool.not_true,Bool.not_false,Option.map_some,Option.map_none,Option.bind_some,Option.getD_some,Option.getD_none,and_self,and_true,true_and,List.length_cons,List.length_nil,List.any_nil,List.any_cons,Int.toNat_natCast,Int.cast_ofNat_Int,Int.natCast_zero,Int.natCast_nonneg,true_implies,or_true,true_or,false_or,or_false,beq_self_eq_true,Option.some.injEq,exists_eq_left',Int.reduceEq,Int.reduceLT,Int.reduceLE,Int.reduceGT,Int.reduceGE,Nat.reduceGT,Int.reduceNeg,Int.reduceToNat,Int.reduceAdd,Int.reduceMul,Int.reduceSub,Int.reducePow,decide_true,decide_false,decide_eq_true_eq,List.getElem?_cons_zero,List.getElem?_cons_succ,Nat.reduceBEq,Nat.reduceSub,exists_false,and_false,false_and,xu,List.set_cons_zero,List.set_cons_succ,wrap_i64,int_lt_t,int_lt_f,int_le_t,int_le_f,int_gt_t,int_gt_f,int_ge_t,int_ge_f,int_eq_t,int_eq_f,int_beq_t,int_beq_f,int_bne_t,int_bne_f,nat_le_t,nat_le_f,Nat.sub_zero,Nat.sub_self,not_false_eq_true,not_true_eq_false,l1,l2,l3]

theorem w_d7e (ks ls : List Lf) (D : List Ch) (kv lv vd v12 x13 x77 : AV) (rk : IsRd 2 (ks.map Lf.av) kv) (rl : IsRd 2 (ls.map Lf.av) lv) (rd : IsRd 3 (D.map Ch.av) vd) (hkl : ks.length ≤ 1000) (hll : ls.length ≤ 1000) (hl : D.length ≤ 1000000) (hD : DiffOk ks ls D)
    (ok : ∀ x ∈ ks, x.ok ∧ x.ps.length ≤ 1000000 ∧ x.p.length ≤ 1000000) (ol : ∀ x ∈ ls, x.ok ∧ x.ps.length ≤ 1000000 ∧ x.p.length ≤ 1000000) (hn : 1010000 < n) :
    Wp (kont F n tot ω) n d7e [(9, .val kv), (10, .val lv), (11, .val vd), (12, .val v12), (13, .val x13), (77, .val x77)] h (Ret [ARes.t 8] fun v h' => v = .bool true) := by
  have l1 := rk.len
  rw [List.length_map] at l1
  unfold d7e
  simp (maxSteps := 2000000) (discharger := omega) only [xc,xo,xr,x0,x1,x2,x3,x4,x5,x6,xd,xe,xb,kont_call,kont_pure,kont_round,isNil,slOk,sliceV,selems,srcElems,copyTo,dlen,eqAV,eqCells,eqS,wr,place,partVals,partEs,placeEs,mapOf,keyOk,keyCells,findK,Bool.bne_false,Bool.bne_true,List.drop_zero,List.nil_append,List.append_nil,List.take_zero,List.cons_append,List.take_succ_cons,List.drop_succ_cons,List.take_nil,List.drop_nil,Reg.isA,Reg.isV,Reg.stays,Reg.onto,Bool.false_or,Bool.or_false,Bool.false_and,Bool.and_false,Bool.true_and,Bool.and_true,Bool.or_true,Bool.true_or,↓reduceIte,reduceCtorEq,Nat.reduceEqDiff,Nat.reduceLT,Nat.reduceAdd,Nat.reduceMul,Nat.add_zero,Nat.zero_add,Nat.not_lt_zero,Nat.zero_ne_one,Nat.one_ne_zero,Nat.reduceLeDiff,Nat.lt_irrefl,Nat.zero_lt_succ,Bool.false_eq_true,Bool.not_true,Bool.not_false,Option.map_some,Option.map_none,Option.bind_some,Option.getD_some,Option.getD_none,and_self,and_true,true_and,List.length_cons,List.length_nil,List.any_nil,List.any_cons,Int.toNat_natCast,Int.cast_ofNat_Int,Int.natCast_zero,Int.natCast_nonneg,true_implies,or_true,true_or,false_or,or_false,beq_self_eq_true,Option.some.injEq,exists_eq_left',Int.reduceEq,Int.reduceLT,Int.reduceLE,Int.reduceGT,Int.reduceGE,Nat.reduceGT,Int.reduceNeg,Int.reduceToNat,Int.reduceAdd,Int.reduceMul,Int.reduceSub,Int.reducePow,decide_true,decide_false,decide_eq_true_eq,List.getElem?_cons_zero,List.getElem?_cons_succ,Nat.reduceBEq,Nat.reduceSub,exists_false,and_false,false_and,xu,List.set_cons_zero,List.set_cons_succ,wrap_i64,int_lt_t,int_lt_f,int_le_t,int_le_f,int_gt_t,int_gt_f,int_ge_t,int_ge_f,int_eq_t,int_eq_f,int_beq_t,int_beq_f,int_bne_t,int_bne_f,nat_le_t,nat_le_f,Nat.sub_zero,Nat.sub_self,not_false_eq_true,not_true_eq_false]
  refine wpi_loop (fun x r g => ∃ (i : Nat), r = [(9, .val kv), (10, .val lv), (11, .val vd), (18, .val (.int .i64 (cnt (ks.take i) ls : Nat))), (19, .val (.int .i64 i))] ∧ x = ks.length - i ∧ i ≤ ks.length) ks.length (by omega)
    ⟨0, rfl, rfl, Nat.zero_le _⟩ ?_
  rintro x r g ⟨i, rfl, rfl, hi⟩
  by_cases hlt : i < ks.length
  · obtain ⟨ck, rfl⟩ := lfs_el rk hlt
    have hb : cnt (ks.take i) ls ≤ 1000 := by
      unfold cnt
      have := List.length_filter_le (same ls) (ks.take i)
      rw [List.length_take] at this
      omega
    have hs : cnt (ks.take (i + 1)) ls = cnt (ks.take i) ls + if same ls ks[i] then 1 else 0 := flt_take _ ks i hlt
    have wc := w_d7c (n := n) (tot := tot) (ω := ω) (h := g) ks ls ck lv vd i (cnt (ks.take i) ls) hlt rl rk ok ol hkl hll hb hn
    simp (maxSteps := 2000000) (discharger := omega) only [xc,xo,xr,x0,x1,x2,x3,x4,x5,x6,xd,xe,xb,kont_call,kont_pure,kont_round,isNil,slOk,sliceV,selems,srcElems,copyTo,dlen,eqAV,eqCells,eqS,wr,place,partVals,partEs,placeEs,mapOf,keyOk,keyCells,findK,Bool.bne_false,Bool.bne_true,List.drop_zero,List.nil_append,List.append_nil,List.take_zero,List.cons_append,List.take_succ_cons,List.drop_succ_cons,List.take_nil,List.drop_nil,Reg.isA,Reg.isV,Reg.stays,Reg.onto,Bool.false_or,Bool.or_false,Bool.false_and,Bool.and_false,Bool.true_and,Bool.and_true,Bool.or_true,Bool.true_or,↓reduceIte,reduceCtorEq,Nat.reduceEqDiff,Nat.reduceLT,Nat.reduceAdd,Nat.reduceMul,Nat.add_zero,Nat.zero_add,Nat.not_lt_zero,Nat.zero_ne_one,Nat.one_ne_zero,Nat.reduceLeDiff,Nat.lt_irrefl,Nat.zero_lt_succ,Bool.false_eq_true,Bool.not_true,Bool.not_false,Option.map_some,Option.map_none,Option.bind_some,Option.getD_some,Option.getD_none,and_self,and_true,true_and,List.length_cons,List.length_nil,List.any_nil,List.any_cons,Int.toNat_natCast,Int.cast_ofNat_Int,Int.natCast_zero,Int.natCast_nonneg,true_implies,or_true,true_or,false_or,or_false,beq_self_eq_true,Option.some.injEq,exists_eq_left',Int.reduceEq,Int.reduceLT,Int.reduceLE,Int.reduceGT,Int.reduceGE,Nat.reduceGT,Int.reduceNeg,Int.reduceToNat,Int.reduceAdd,Int.reduceMul,Int.reduceSub,Int.reducePow,decide_true,decide_false,decide_eq_true_eq,List.getElem?_cons_zero,List.getElem?_cons_succ,Nat.reduceBEq,Nat.reduceSub,exists_false,and_false,false_and,xu,List.set_cons_zero,List.set_cons_succ,wrap_i64,int_lt_t,int_lt_f,int_le_t,int_le_f,int_gt_t,int_gt_f,int_ge_t,int_ge_f,int_eq_t,int_eq_f,int_beq_t,int_beq_f,int_bne_t,int_bne_f,nat_le_t,nat_le_f,Nat.sub_zero,Nat.sub_self,not_false_eq_true,not_true_eq_false,l1]
    refine wc.mono ?_
    rintro e r' h' ⟨rfl, rfl, rfl | rfl⟩
    · simp (maxSteps := 2000000) (discharger := omega) only [xc,xo,xr,x0,x1,x2,x3,x4,x5,x6,xd,xe,xb,kont_call,kont_pure,kont_round,isNil,slOk,sliceV,selems,srcElems,copyTo,dlen,eqAV,eqCells,eqS,wr,place,partVals,partEs,placeEs,mapOf,keyOk,keyCells,findK,Bool.bne_false,Bool.bne_true,List.drop_zero,List.nil_append,List.append_nil,List.take_zero,List.cons_append,List.take_succ_cons,List.drop_succ_cons,List.take_nil,List.drop_nil,Reg.isA,Reg.isV,Reg.stays,Reg.onto,Bool.false_or,Bool.or_false,Bool.false_and,Bool.and_false,Bool.true_and,Bool.and_true,Bool.or_true,Bool.true_or,↓reduceIte,reduceCtorEq,Nat.reduceEqDiff,Nat.reduceLT,Nat.reduceAdd,Nat.reduceMul,Nat.add_zero,Nat.zero_add,Nat.not_lt_zero,Nat.zero_ne_one,Nat.one_ne_zero,Nat.reduceLeDiff,Nat.lt_irrefl,Nat.zero_lt_succ,Bool.false_eq_true,Bool.not_true,Bool.not_false,Option.map_some,Option.map_none,Option.bind_some,Option.getD_some,Option.getD_none,and_self,and_true,true_and,List.length_cons,List.length_nil,List.any_nil,List.any_cons,Int.toNat_natCast,Int.cast_ofNat_Int,Int.natCast_zero,Int.natCast_nonneg,true_implies,or_true,true_or,false_or,or_false,beq_self_eq_true,Option.some.injEq,exists_eq_left',Int.reduceEq,Int.reduceLT,Int.reduceLE,Int.reduceGT,Int.reduceGE,Nat.reduceGT,Int.reduceNeg,Int.reduceToNat,Int.reduceAdd,Int.reduceMul,Int.reduceSub,Int.reducePow,decide_true,decide_false,decide_eq_true_eq,List.getElem?_cons_zero,List.getElem?_cons_succ,Nat.reduceBEq,Nat.reduceSub,exists_false,and_false,false_and,xu,List.set_cons_zero,List.set_cons_succ,wrap_i64,int_lt_t,int_lt_f,int_le_t,int_le_f,int_gt_t,int_gt_f,int_ge_t,int_ge_f,int_eq_t,int_eq_f,int_beq_t,int_beq_f,int_bne_t,int_bne_f,nat_le_t,nat_le_f,Nat.sub_zero,Nat.sub_self,not_false_eq_true,not_true_eq_false]
      exact ⟨ks.length - (i + 1), by omega, i + 1, by rw [hs, show ((i : Nat) : Int) + 1 = ((i + 1 : Nat) : Int) by omega], rfl, by omega⟩
    · simp (maxSteps := 2000000) (discharger := omega) only [xc,xo,xr,x0,x1,x2,x3,x4,x5,x6,xd,xe,xb,kont_call,kont_pure,kont_round,isNil,slOk,sliceV,selems,srcElems,copyTo,dlen,eqAV,eqCells,eqS,wr,place,partVals,partEs,placeEs,mapOf,keyOk,keyCells,findK,Bool.bne_false,Bool.bne_true,List.drop_zero,List.nil_append,List.append_nil,List.take_zero,List.cons_append,List.take_succ_cons,List.drop_succ_cons,List.take_nil,List.drop_nil,Reg.isA,Reg.isV,Reg.stays,Reg.onto,Bool.false_or,Bool.or_false,Bool.false_and,Bool.and_false,Bool.true_and,Bool.and_true,Bool.or_true,Bool.true_or,↓reduceIte,reduceCtorEq,Nat.reduceEqDiff,Nat.reduceLT,Nat.reduceAdd,Nat.reduceMul,Nat.add_zero,Nat.zero_add,Nat.not_lt_zero,Nat.zero_ne_one,Nat.one_ne_zero,Nat.reduceLeDiff,Nat.lt_irrefl,Nat.zero_lt_succ,Bool.false_eq_true,Bool.not_true,Bool.not_false,Option.map_some,Option.map_none,Option.bind_some,Option.getD_some,Option.getD_none,and_self,and_true,true_and,List.length_cons,List.length_nil,List.any_nil,List.any_cons,Int.toNat_natCast,Int.cast_ofNat_Int,Int.natCast_zero,Int.natCast_nonneg,true_implies,or_true,true_or,false_or,or_false,beq_self_eq_true,Option.some.injEq,exists_eq_left',Int.reduceEq,Int.reduceLT,Int.reduceLE,Int.reduceGT,Int.reduceGE,Nat.reduceGT,Int.reduceNeg,Int.reduceToNat,Int.reduceAdd,Int.reduceMul,Int.reduceSub,Int.reducePow,decide_true,decide_false,decide_eq_true_eq,List.getElem?_cons_zero,List.getElem?_cons_succ,Nat.reduceBEq,Nat.reduceSub,exists_false,and_false,false_and,xu,List.set_cons_zero,List.set_cons_succ,wrap_i64,int_lt_t,int_lt_f,int_le_t,int_le_f,int_gt_t,int_gt_f,int_ge_t,int_ge_f,int_eq_t,int_eq_f,int_beq_t,int_beq_f,int_bne_t,int_bne_f,nat_le_t,nat_le_f,Nat.sub_zero,Nat.sub_self,not_false_eq_true,not_true_eq_false]
      exact ⟨ks.length - (i + 1), by omega, i + 1, by rw [hs, show ((i : Nat) : Int) + 1 = ((i + 1 : Nat) : Int) by omega], rfl, by omega⟩
  · obtain rfl : i = ks.length := by omega
    rw [List.take_length]
    simp (maxSteps := 2000000) (discharger := omega) only [xc,xo,xr,x0,x1,x2,x3,x4,x5,x6,xd,xe,xb,kont_call,kont_pure,kont_round,isNil,slOk,sliceV,selems,srcElems,copyTo,dlen,eqAV,eqCells,eqS,wr,place,partVals,partEs,placeEs,mapOf,keyOk,keyCells,findK,Bool.bne_false,Bool.bne_true,List.drop_zero,List.nil_append,List.append_nil,List.take_zero,List.cons_append,List.take_succ_cons,List.drop_succ_cons,List.take_nil,List.drop_nil,Reg.isA,Reg.isV,Reg.stays,Reg.onto,Bool.false_or,Bool.or_false,Bool.false_and,Bool.and_false,Bool.true_and,Bool.and_true,Bool.or_true,Bool.true_or,↓reduceIte,reduceCtorEq,Nat.reduceEqDiff,Nat.reduceLT,Nat.reduceAdd,Nat.reduceMul,Nat.add_zero,Nat.zero_add,Nat.not_lt_zero,Nat.zero_ne_one,Nat.one_ne_zero,Nat.reduceLeDiff,Nat.lt_irrefl,Nat.zero_lt_succ,Bool.false_eq_true,Bool.not_true,Bool.not_false,Option.map_some,Option.map_none,Option.bind_some,Option.getD_some,Option.getD_none,and_self,and_true,true_and,List.length_cons,List.length_nil,List.any_nil,List.any_cons,Int.toNat_natCast,Int.cast_ofNat_Int,Int.natCast_zero,Int.natCast_nonneg,true_implies,or_true,true_or,false_or,or_false,beq_self_eq_true,Option.some.injEq,exists_eq_left',Int.reduceEq,Int.reduceLT,Int.reduceLE,Int.reduceGT,Int.reduceGE,Nat.reduceGT,Int.reduceNeg,Int.reduceToNat,Int.reduceAdd,Int.reduceMul,Int.reduceSub,Int.reducePow,decide_true,decide_false,decide_eq_true_eq,List.getElem?_cons_zero,List.getElem?_cons_succ,Nat.reduceBEq,Nat.reduceSub,exists_false,and_false,false_and,xu,List.set_cons_zero,List.set_cons_succ,wrap_i64,int_lt_t,int_lt_f,int_le_t,int_le_f,int_gt_t,int_gt_f,int_ge_t,int_ge_f,int_eq_t,int_eq_f,int_beq_t,int_beq_f,int_bne_t,int_bne_f,nat_le_t,nat_le_f,Nat.sub_zero,Nat.sub_self,not_false_eq_true,not_true_eq_false,l1]
    exact w_d7f (n := n) (tot := tot) (ω := ω) (h := g) ks ls D kv lv vd _ _ rk rl rd hkl hll hl hD hn
end

theorem rise_of {fs gs : List Fl} {ks : List Lf} (hp : gs.Perm fs) (hs : SrtF gs) (ht : Tog (psOf fs)) (hm : ks.map (·.p) = gs.map (·.p)) : Rise ks := by
  have hR : Rising (psOf gs) := (rising_iff (hp.map _) fun j k hj hk hjk => by
    have hj' : j < gs.length := by simpa using hj
    have hk' : k < gs.length := by simpa using hk
    have := hs j k hj' hk' hjk
    simpa [psOf, flLt] using this).2 ht
  have hl : ks.length = gs.length := by have := congrArg List.length hm; simpa using this
  refine List.pairwise_iff_getElem.2 fun j k hj hk hjk => ?_
  have hj' : j < gs.length := by omega
  have hk' : k < gs.length := by omega
  have e : ∀ q (hq : q < ks.length) (hq' : q < gs.length), ks[q].p = gs[q].p := fun q hq hq' => by
    have := congrArg (·[q]?) hm
    simpa [hq, hq'] using this
  rw [e j hj hj', e k hk hk']
  have := hR.rise j k (by rw [psOf_len]; exact hj') (by rw [psOf_len]; exact hk') hjk
  simpa [psOf] using this

set_option maxHeartbeats 2000000 in
set_option maxRecDepth 100000 in
theorem law_diffs (y0 y1 y2 y3 y4 y5 y6 y7 y11 : AV) (l m M : Int) (hy : y0.notTup = true) (a b vo : AV) (fs gs : List Fl) (os : List Lf) (ω : Nat → Nat) (ha : IsRd 2 (fs.map Fl.av) a) (hb : IsRd 2 (gs.map Fl.av) b) (hfo : ∀ f ∈ fs, f.ok) (hgo : ∀ f ∈ gs, f.ok)
    (ho : IsRd 2 (os.map Lf.av) vo) (hoo : ∀ x ∈ os, x.ok ∧ x.ps.length ≤ 9223372036854775807) (hol : os.length ≤ 9223372036854775807) :
    ∃ h', call F 9223372036856775808 true ω 7 [.agg [y0, y1, y2, y3, y4, y5, y6, y7, .int .i64 l, .int .i64 m, .int .i64 M, y11], a, b, vo] [] = some (.bool true, h') := by
  suffices hx : ∃ v2 h', call F 9223372036856775808 true ω 7 [.agg [y0, y1, y2, y3, y4, y5, y6, y7, .int .i64 l, .int .i64 m, .int .i64 M, y11], a, b, vo] [] = some (v2, h') ∧ v2 = .bool true by
    obtain ⟨v2, h', e1, rfl⟩ := hx
    exact ⟨h', e1⟩
  refine call_of (fn := a7) f7 (P := fun v2 h' => v2 = .bool true) ?_
  obtain ⟨n, hN⟩ : ∃ n, n = 9223372036856775807 := ⟨_, rfl⟩
  rw [← hN]
  unfold a7
  have k10 := fun h => c10 (n := n) (tot := true) (ω := ω) (h := h) (by omega)
  obtain ⟨b1, k11, hb1⟩ := c11 (n := n) (tot := true) (ω := ω) (h := []) a fs ha hfo (by omega)
  obtain ⟨b2, k11b, hb2⟩ := c11 (n := n) (tot := true) (ω := ω) (h := []) b gs hb hgo (by omega)
  have lo := ho.len
  rw [List.length_map] at lo
  cases b1 with
  | false => simp (maxSteps := 2000000) (discharger := omega) only [xc,xo,xr,x0,x1,x2,x3,x4,x5,x6,xd,xe,xb,kont_call,kont_pure,kont_round,isNil,slOk,sliceV,selems,srcElems,copyTo,dlen,eqAV,eqCells,eqS,wr,place,partVals,partEs,placeEs,mapOf,keyOk,keyCells,findK,Bool.bne_false,Bool.bne_true,List.drop_zero,List.nil_append,List.append_nil,List.take_zero,List.cons_append,List.take_succ_cons,List.drop_succ_cons,List.take_nil,List.drop_nil,Reg.isA,Reg.isV,Reg.stays,Reg.onto,Bool.false_or,Bool.or_false,Bool.false_and,Bool.and_false,Bool.true_and,Bool.and_true,Bool.or_true,Bool.true_or,↓reduceIte,reduceCtorEq,Nat.reduceEqDiff,Nat.reduceLT,Nat.reduceAdd,Nat.reduceMul,Nat.add_zero,Nat.zero_add,Nat.not_lt_zero,Nat.zero_ne_one,Nat.one_ne_zero,Nat.reduceLeDiff,Nat.lt_irrefl,Nat.zero_lt_succ,Bool.false_eq_true,Bool.not_true,Bool.not_false,Option.map_some,Option.map_none,Option.bind_some,Option.getD_some,Option.getD_none,and_self,and_true,true_and,List.length_cons,List.length_nil,List.any_nil,List.any_cons,Int.toNat_natCast,Int.cast_ofNat_Int,Int.natCast_zero,Int.natCast_nonneg,true_implies,or_true,true_or,false_or,or_false,beq_self_eq_true,Option.some.injEq,exists_eq_left',Int.reduceEq,Int.reduceLT,Int.reduceLE,Int.reduceGT,Int.reduceGE,Nat.reduceGT,Int.reduceNeg,Int.reduceToNat,Int.reduceAdd,Int.reduceMul,Int.reduceSub,Int.reducePow,decide_true,decide_false,decide_eq_true_eq,List.getElem?_cons_zero,List.getElem?_cons_succ,Nat.reduceBEq,Nat.reduceSub,exists_false,and_false,false_and,xu,List.set_cons_zero,List.set_cons_succ,wrap_i64,int_lt_t,int_lt_f,int_le_t,int_le_f,int_gt_t,int_gt_f,int_ge_t,int_ge_f,int_eq_t,int_eq_f,int_beq_t,int_beq_f,int_bne_t,int_bne_f,nat_le_t,nat_le_f,Nat.sub_zero,Nat.sub_self,not_false_eq_true,not_true_eq_false,k10,k11]
  | true =>
    cases b2 with
    | false => simp (maxSteps := 2000000) (discharger := omega) only [xc,xo,xr,x0,x1,x2,x3,x4,x5,x6,xd,xe,xb,kont_call,kont_pure,kont_round,isNil,slOk,sliceV,selems,srcElems,copyTo,dlen,eqAV,eqCells,eqS,wr,place,partVals,partEs,placeEs,mapOf,keyOk,keyCells,findK,Bool.bne_false,Bool.bne_true,List.drop_zero,List.nil_append,List.append_nil,List.take_zero,List.cons_append,List.take_succ_cons,List.drop_succ_cons,List.take_nil,List.drop_nil,Reg.isA,Reg.isV,Reg.stays,Reg.onto,Bool.false_or,Bool.or_false,Bool.false_and,Bool.and_false,Bool.true_and,Bool.and_true,Bool.or_true,Bool.true_or,↓reduceIte,reduceCtorEq,Nat.reduceEqDiff,Nat.reduceLT,Nat.reduceAdd,Nat.reduceMul,Nat.add_zero,Nat.zero_add,Nat.not_lt_zero,Nat.zero_ne_one,Nat.one_ne_zero,Nat.reduceLeDiff,Nat.lt_irrefl,Nat.zero_lt_succ,Bool.false_eq_true,Bool.not_true,Bool.not_false,Option.map_some,Option.map_none,Option.bind_some,Option.getD_some,Option.getD_none,and_self,and_true,true_and,List.length_cons,List.length_nil,List.any_nil,List.any_cons,Int.toNat_natCast,Int.cast_ofNat_Int,Int.natCast_zero,Int.natCast_nonneg,true_implies,or_true,true_or,false_or,or_false,beq_self_eq_true,Option.some.injEq,exists_eq_left',Int.reduceEq,Int.reduceLT,Int.reduceLE,Int.reduceGT,Int.reduceGE,Nat.reduceGT,Int.reduceNeg,Int.reduceToNat,Int.reduceAdd,Int.reduceMul,Int.reduceSub,Int.reducePow,decide_true,decide_false,decide_eq_true_eq,List.getElem?_cons_zero,List.getElem?_cons_succ,Nat.reduceBEq,Nat.reduceSub,exists_false,and_false,false_and,xu,List.set_cons_zero,List.set_cons_succ,wrap_i64,int_lt_t,int_lt_f,int_le_t,int_le_f,int_gt_t,int_gt_f,int_ge_t,int_ge_f,int_eq_t,int_eq_f,int_beq_t,int_beq_f,int_bne_t,int_bne_f,nat_le_t,nat_le_f,Nat.sub_zero,Nat.sub_self,not_false_eq_true,not_true_eq_false,k10,k11,k11b]
    | true =>
      have fa := hb1 rfl
      have fb := hb2 rfl
      by_cases h300 : ((os.length : Nat) : Int) > 300
      · simp (maxSteps := 2000000) (discharger := omega) only [xc,xo,xr,x0,x1,x2,x3,x4,x5,x6,xd,xe,xb,kont_call,kont_pure,kont_round,isNil,slOk,sliceV,selems,srcElems,copyTo,dlen,eqAV,eqCells,eqS,wr,place,partVals,partEs,placeEs,mapOf,keyOk,keyCells,findK,Bool.bne_false,Bool.bne_true,List.drop_zero,List.nil_append,List.append_nil,List.take_zero,List.cons_append,List.take_succ_cons,List.drop_succ_cons,List.take_nil,List.drop_nil,Reg.isA,Reg.isV,Reg.stays,Reg.onto,Bool.false_or,Bool.or_false,Bool.false_and,Bool.and_false,Bool.true_and,Bool.and_true,Bool.or_true,Bool.true_or,↓reduceIte,reduceCtorEq,Nat.reduceEqDiff,Nat.reduceLT,Nat.reduceAdd,Nat.reduceMul,Nat.add_zero,Nat.zero_add,Nat.not_lt_zero,Nat.zero_ne_one,Nat.one_ne_zero,Nat.reduceLeDiff,Nat.lt_irrefl,Nat.zero_lt_succ,Bool.false_eq_true,Bool.not_true,Bool.not_false,Option.map_some,Option.map_none,Option.bind_some,Option.getD_some,Option.getD_none,and_self,and_true,true_and,List.length_cons,List.length_nil,List.any_nil,List.any_cons,Int.toNat_natCast,Int.cast_ofNat_Int,Int.natCast_zero,Int.natCast_nonneg,true_implies,or_true,true_or,false_or,or_false,beq_self_eq_true,Option.some.injEq,exists_eq_left',Int.reduceEq,Int.reduceLT,Int.reduceLE,Int.reduceGT,Int.reduceGE,Nat.reduceGT,Int.reduceNeg,Int.reduceToNat,Int.reduceAdd,Int.reduceMul,Int.reduceSub,Int.reducePow,decide_true,decide_false,decide_eq_true_eq,List.getElem?_cons_zero,List.getElem?_cons_succ,Nat.reduceBEq,Nat.reduceSub,exists_false,and_false,false_and,xu,List.set_cons_zero,List.set_cons_succ,wrap_i64,int_lt_t,int_lt_f,int_le_t,int_le_f,int_gt_t,int_gt_f,int_ge_t,int_ge_f,int_eq_t,int_eq_f,int_beq_t,int_beq_f,int_bne_t,int_bne_f,nat_le_t,nat_le_f,Nat.sub_zero,Nat.sub_self,not_false_eq_true,not_true_eq_false,k10,k11,k11b,lo]
      obtain ⟨h1, k15⟩ := c15 (n := n) (tot := true) (ω := ω) (h := []) a fs ha hfo fa (by omega)
      obtain ⟨h2, k15b⟩ := c15 (n := n) (tot := true) (ω := ω) (h := h1) b gs hb hgo fb (by omega)
      by_cases ca : chk fs = 0
      · by_cases cb : chk gs = 0
        · have ta := chk_zero ca
          have tb := chk_zero cb
          rw [ca] at k15
          rw [cb] at k15b
          have na := fa.num
          have nb := fb.num
          obtain ⟨ov, h0, k29o, _⟩ := c29 (n := n) (tot := true) (ω := ω) (h := h2) 9223372036854775807 (Nat.le_refl _) os os vo vo ho ho hoo hoo (by omega) (by omega)
          obtain ⟨c', l', m', M', k16, hcf, hm1, hm2, hnt⟩ := c16 (n := n) (tot := true) (ω := ω) (h := h0) y0 y1 y2 y3 y4 y5 y6 y7 y11 l m M hy (by omega)
          obtain ⟨kv, h3, ks, k21, rk, _, lk, ⟨g1, gp1, gs1, gm1⟩, ok⟩ := c21 (n := n) (tot := true) (ω := ω) (h := h0) c' l' m' M' a fs hcf hm1 (by omega) ha hfo (fun f hf => by have := fa.data f hf; omega) (by omega) (by omega)
          obtain ⟨c2, l2, m2, M2, k16b, hcf2, hm3, hm4, hnt2⟩ := c16 (n := n) (tot := true) (ω := ω) (h := h3) y0 y1 y2 y3 y4 y5 y6 y7 y11 l m M hy (by omega)
          obtain ⟨lv, h4, ls, k21b, rl, _, ll, ⟨g2, gp2, gs2, gm2⟩, ol⟩ := c21 (n := n) (tot := true) (ω := ω) (h := h3) c2 l2 m2 M2 b gs hcf2 hm3 (by omega) hb hgo (fun f hf => by have := fb.data f hf; omega) (by omega) (by omega)
          have oks : ∀ x ∈ ks, x.ok ∧ x.ps.length ≤ 1000000 ∧ x.p.length ≤ 1000000 := fun x hx => by
            obtain ⟨o1, f, hf, e1, e2⟩ := ok x hx
            have q1 := fa.data f hf
            have q2 := fa.path f hf
            have q3 := partsR_len l' m' M' f.d
            exact ⟨o1, by rw [e2]; omega, by rw [e1]; omega⟩
          have ols : ∀ x ∈ ls, x.ok ∧ x.ps.length ≤ 1000000 ∧ x.p.length ≤ 1000000 := fun x hx => by
            obtain ⟨o1, f, hf, e1, e2⟩ := ol x hx
            have q1 := fb.data f hf
            have q2 := fb.path f hf
            have q3 := partsR_len l2 m2 M2 f.d
            exact ⟨o1, by rw [e2]; omega, by rw [e1]; omega⟩
          have hD := diff_ok _ ks ls rfl (rise_of gp1 gs1 ta gm1) (rise_of gp2 gs2 tb gm2)
          obtain ⟨vd, h5, k29, rd⟩ := c29 (n := n) (tot := true) (ω := ω) (h := h4) 1000000 (by omega) ks ls kv lv rk rl (fun x hx => ⟨(oks x hx).1, (oks x hx).2.1⟩) (fun x hx => ⟨(ols x hx).1, (ols x hx).2.1⟩) (by omega) (by omega)
          obtain ⟨vb, h6, k29b, rb⟩ := c29 (n := n) (tot := true) (ω := ω) (h := h5) 1000000 (by omega) ls ks lv kv rl rk (fun x hx => ⟨(ols x hx).1, (ols x hx).2.1⟩) (fun x hx => ⟨(oks x hx).1, (oks x hx).2.1⟩) (by omega) (by omega)
          rw [diff_mirror _ ks ls rfl] at rb
          have rb : IsRd 3 (((diffL ks ls).map mir).map Ch.av) vb := rb
          have hdl := diffL_len _ ks ls rfl
          generalize diffL ks ls = D at *
          have ld := rd.len
          have lb := rb.len
          rw [List.length_map] at ld
          rw [List.length_map, List.length_map] at lb
          simp (maxSteps := 2000000) (discharger := omega) only [xc,xo,xr,x0,x1,x2,x3,x4,x5,x6,xd,xe,xb,kont_call,kont_pure,kont_round,isNil,slOk,sliceV,selems,srcElems,copyTo,dlen,eqAV,eqCells,eqS,wr,place,partVals,partEs,placeEs,mapOf,keyOk,keyCells,findK,Bool.bne_false,Bool.bne_true,List.drop_zero,List.nil_append,List.append_nil,List.take_zero,List.cons_append,List.take_succ_cons,List.drop_succ_cons,List.take_nil,List.drop_nil,Reg.isA,Reg.isV,Reg.stays,Reg.onto,Bool.false_or,Bool.or_false,Bool.false_and,Bool.and_false,Bool.true_and,Bool.and_true,Bool.or_true,Bool.true_or,↓reduceIte,reduceCtorEq,Nat.reduceEqDiff,Nat.reduceLT,Nat.reduceAdd,Nat.reduceMul,Nat.add_zero,Nat.zero_add,Nat.not_lt_zero,Nat.zero_ne_one,Nat.one_ne_zero,Nat.reduceLeDiff,Nat.lt_irrefl,Nat.zero_lt_succ,Bool.false_eq_true,Bool.not_true,Bool.not_false,Option.map_some,Option.map_none,Option.bind_some,Option.getD_some,Option.getD_none,and_self,and_true,true_and,List.length_cons,List.length_nil,List.any_nil,List.any_cons,Int.toNat_natCast,Int.cast_ofNat_Int,Int.natCast_zero,Int.natCast_nonneg,true_implies,or_true,true_or,false_or,or_false,beq_self_eq_true,Option.some.injEq,exists_eq_left',Int.reduceEq,Int.reduceLT,Int.reduceLE,Int.reduceGT,Int.reduceGE,Nat.reduceGT,Int.reduceNeg,Int.reduceToNat,Int.reduceAdd,Int.reduceMul,Int.reduceSub,Int.reducePow,decide_true,decide_false,decide_eq_true_eq,List.getElem?_cons_zero,List.getElem?_cons_succ,Nat.reduceBEq,Nat.reduceSub,exists_false,and_false,false_and,xu,List.set_cons_zero,List.set_cons_succ,wrap_i64,int_lt_t,int_lt_f,int_le_t,int_le_f,int_gt_t,int_gt_f,int_ge_t,int_ge_f,int_eq_t,int_eq_f,int_beq_t,int_beq_f,int_bne_t,int_bne_f,nat_le_t,nat_le_f,Nat.sub_zero,Nat.sub_self,not_false_eq_true,not_true_eq_false,k10,k11,k11b,lo,k15,k15b,k29o,k16,k21,k16b,k21b,k29,k29b,ld,lb]
          refine wpi_loop (fun x r g => ∃ (i : Nat), r = [(9, .val kv), (10, .val lv), (11, .val vd), (12, .val vb), (13, .val (.int .i64 i))] ∧ x = D.length - i ∧ i ≤ D.length) D.length (by omega)
            ⟨0, rfl, rfl, Nat.zero_le _⟩ ?_
          rintro x r g ⟨i, rfl, rfl, hi⟩
          by_cases hlt : i < D.length
          · obtain ⟨cd, rfl⟩ := rd.imm (i := i) (by simpa using hlt)
            obtain ⟨cb', rfl⟩ := rb.imm (i := i) (by simpa using hlt)
            have wa := w_d7a (n := n) (tot := true) (ω := ω) (h := g) D kv lv cd cb' i hlt (by omega) hD.rise
            simp (maxSteps := 2000000) (discharger := omega) only [xc,xo,xr,x0,x1,x2,x3,x4,x5,x6,xd,xe,xb,kont_call,kont_pure,kont_round,isNil,slOk,sliceV,selems,srcElems,copyTo,dlen,eqAV,eqCells,eqS,wr,place,partVals,partEs,placeEs,mapOf,keyOk,keyCells,findK,Bool.bne_false,Bool.bne_true,List.drop_zero,List.nil_append,List.append_nil,List.take_zero,List.cons_append,List.take_succ_cons,List.drop_succ_cons,List.take_nil,List.drop_nil,Reg.isA,Reg.isV,Reg.stays,Reg.onto,Bool.false_or,Bool.or_false,Bool.false_and,Bool.and_false,Bool.true_and,Bool.and_true,Bool.or_true,Bool.true_or,↓reduceIte,reduceCtorEq,Nat.reduceEqDiff,Nat.reduceLT,Nat.reduceAdd,Nat.reduceMul,Nat.add_zero,Nat.zero_add,Nat.not_lt_zero,Nat.zero_ne_one,Nat.one_ne_zero,Nat.reduceLeDiff,Nat.lt_irrefl,Nat.zero_lt_succ,Bool.false_eq_true,Bool.not_true,Bool.not_false,Option.map_some,Option.map_none,Option.bind_some,Option.getD_some,Option.getD_none,and_self,and_true,true_and,List.length_cons,List.length_nil,List.any_nil,List.any_cons,Int.toNat_natCast,Int.cast_ofNat_Int,Int.natCast_zero,Int.natCast_nonneg,true_implies,or_true,true_or,false_or,or_false,beq_self_eq_true,Option.some.injEq,exists_eq_left',Int.reduceEq,Int.reduceLT,Int.reduceLE,Int.reduceGT,Int.reduceGE,Nat.reduceGT,Int.reduceNeg,Int.reduceToNat,Int.reduceAdd,Int.reduceMul,Int.reduceSub,Int.reducePow,decide_true,decide_false,decide_eq_true_eq,List.getElem?_cons_zero,List.getElem?_cons_succ,Nat.reduceBEq,Nat.reduceSub,exists_false,and_false,false_and,xu,List.set_cons_zero,List.set_cons_succ,wrap_i64,int_lt_t,int_lt_f,int_le_t,int_le_f,int_gt_t,int_gt_f,int_ge_t,int_ge_f,int_eq_t,int_eq_f,int_beq_t,int_beq_f,int_bne_t,int_bne_f,nat_le_t,nat_le_f,Nat.sub_zero,Nat.sub_self,not_false_eq_true,not_true_eq_false,ld]
            refine wa.mono ?_
            rintro e r' h' ⟨rfl, rfl, rfl⟩
            have wb := w_d7b (n := n) (tot := true) (ω := ω) (h := h') ks ls D kv lv (.imm 3 ((D.map mir).map Ch.av) cb') cd i (.int .i64 i) hlt (by omega) rk rl oks ols (by omega) (by omega) hD (by omega)
            simp (maxSteps := 2000000) (discharger := omega) only [xc,xo,xr,x0,x1,x2,x3,x4,x5,x6,xd,xe,xb,kont_call,kont_pure,kont_round,isNil,slOk,sliceV,selems,srcElems,copyTo,dlen,eqAV,eqCells,eqS,wr,place,partVals,partEs,placeEs,mapOf,keyOk,keyCells,findK,Bool.bne_false,Bool.bne_true,List.drop_zero,List.nil_append,List.append_nil,List.take_zero,List.cons_append,List.take_succ_cons,List.drop_succ_cons,List.take_nil,List.drop_nil,Reg.isA,Reg.isV,Reg.stays,Reg.onto,Bool.false_or,Bool.or_false,Bool.false_and,Bool.and_false,Bool.true_and,Bool.and_true,Bool.or_true,Bool.true_or,↓reduceIte,reduceCtorEq,Nat.reduceEqDiff,Nat.reduceLT,Nat.reduceAdd,Nat.reduceMul,Nat.add_zero,Nat.zero_add,Nat.not_lt_zero,Nat.zero_ne_one,Nat.one_ne_zero,Nat.reduceLeDiff,Nat.lt_irrefl,Nat.zero_lt_succ,Bool.false_eq_true,Bool.not_true,Bool.not_false,Option.map_some,Option.map_none,Option.bind_some,Option.getD_some,Option.getD_none,and_self,and_true,true_and,List.length_cons,List.length_nil,List.any_nil,List.any_cons,Int.toNat_natCast,Int.cast_ofNat_Int,Int.natCast_zero,Int.natCast_nonneg,true_implies,or_true,true_or,false_or,or_false,beq_self_eq_true,Option.some.injEq,exists_eq_left',Int.reduceEq,Int.reduceLT,Int.reduceLE,Int.reduceGT,Int.reduceGE,Nat.reduceGT,Int.reduceNeg,Int.reduceToNat,Int.reduceAdd,Int.reduceMul,Int.reduceSub,Int.reducePow,decide_true,decide_false,decide_eq_true_eq,List.getElem?_cons_zero,List.getElem?_cons_succ,Nat.reduceBEq,Nat.reduceSub,exists_false,and_false,false_and,xu,List.set_cons_zero,List.set_cons_succ,wrap_i64,int_lt_t,int_lt_f,int_le_t,int_le_f,int_gt_t,int_gt_f,int_ge_t,int_ge_f,int_eq_t,int_eq_f,int_beq_t,int_beq_f,int_bne_t,int_bne_f,nat_le_t,nat_le_f,Nat.sub_zero,Nat.sub_self,not_false_eq_true,not_true_eq_false]
            refine wb.mono ?_
            rintro e r' h' ⟨rfl, rfl, rfl⟩
            simp (maxSteps := 2000000) (discharger := omega) only [xc,xo,xr,x0,x1,x2,x3,x4,x5,x6,xd,xe,xb,kont_call,kont_pure,kont_round,isNil,slOk,sliceV,selems,srcElems,copyTo,dlen,eqAV,eqCells,eqS,wr,place,partVals,partEs,placeEs,mapOf,keyOk,keyCells,findK,Bool.bne_false,Bool.bne_true,List.drop_zero,List.nil_append,List.append_nil,List.take_zero,List.cons_append,List.take_succ_cons,List.drop_succ_cons,List.take_nil,List.drop_nil,Reg.isA,Reg.isV,Reg.stays,Reg.onto,Bool.false_or,Bool.or_false,Bool.false_and,Bool.and_false,Bool.true_and,Bool.and_true,Bool.or_true,Bool.true_or,↓reduceIte,reduceCtorEq,Nat.reduceEqDiff,Nat.reduceLT,Nat.reduceAdd,Nat.reduceMul,Nat.add_zero,Nat.zero_add,Nat.not_lt_zero,Nat.zero_ne_one,Nat.one_ne_zero,Nat.reduceLeDiff,Nat.lt_irrefl,Nat.zero_lt_succ,Bool.false_eq_true,Bool.not_true,Bool.not_false,Option.map_some,Option.map_none,Option.bind_some,Option.getD_some,Option.getD_none,and_self,and_true,true_and,List.length_cons,List.length_nil,List.any_nil,List.any_cons,Int.toNat_natCast,Int.cast_ofNat_Int,Int.natCast_zero,Int.natCast_nonneg,true_implies,or_true,true_or,false_or,or_false,beq_self_eq_true,Option.some.injEq,exists_eq_left',Int.reduceEq,Int.reduceLT,Int.reduceLE,Int.reduceGT,Int.reduceGE,Nat.reduceGT,Int.reduceNeg,Int.reduceToNat,Int.reduceAdd,Int.reduceMul,Int.reduceSub,Int.reducePow,decide_true,decide_false,decide_eq_true_eq,List.getElem?_cons_zero,List.getElem?_cons_succ,Nat.reduceBEq,Nat.reduceSub,exists_false,and_false,false_and,xu,List.set_cons_zero,List.set_cons_succ,wrap_i64,int_lt_t,int_lt_f,int_le_t,int_le_f,int_gt_t,int_gt_f,int_ge_t,int_ge_f,int_eq_t,int_eq_f,int_beq_t,int_beq_f,int_bne_t,int_bne_f,nat_le_t,nat_le_f,Nat.sub_zero,Nat.sub_self,not_false_eq_true,not_true_eq_false]
            exact ⟨D.length - (i + 1), by omega, i + 1, by rw [show ((i : Nat) : Int) + 1 = ((i + 1 : Nat) : Int) by omega], rfl, by omega⟩
          · obtain rfl : i = D.length := by omega
            simp (maxSteps := 2000000) (discharger := omega) only [xc,xo,xr,x0,x1,x2,x3,x4,x5,x6,xd,xe,xb,kont_call,kont_pure,kont_round,isNil,slOk,sliceV,selems,srcElems,copyTo,dlen,eqAV,eqCells,eqS,wr,place,partVals,partEs,placeEs,mapOf,keyOk,keyCells,findK,Bool.bne_false,Bool.bne_true,List.drop_zero,List.nil_append,List.append_nil,List.take_zero,List.cons_append,List.take_succ_cons,List.drop_succ_cons,List.take_nil,List.drop_nil,Reg.isA,Reg.isV,Reg.stays,Reg.onto,Bool.false_or,Bool.or_false,Bool.false_and,Bool.and_false,Bool.true_and,Bool.and_true,Bool.or_true,Bool.true_or,↓reduceIte,reduceCtorEq,Nat.reduceEqDiff,Nat.reduceLT,Nat.reduceAdd,Nat.reduceMul,Nat.add_zero,Nat.zero_add,Nat.not_lt_zero,Nat.zero_ne_one,Nat.one_ne_zero,Nat.reduceLeDiff,Nat.lt_irrefl,Nat.zero_lt_succ,Bool.false_eq_true,Bool.not_true,Bool.not_false,Option.map_some,Option.map_none,Option.bind_some,Option.getD_some,Option.getD_none,and_self,and_true,true_and,List.length_cons,List.length_nil,List.any_nil,List.any_cons,Int.toNat_natCast,Int.cast_ofNat_Int,Int.natCast_zero,Int.natCast_nonneg,true_implies,or_true,true_or,false_or,or_false,beq_self_eq_true,Option.some.injEq,exists_eq_left',Int.reduceEq,Int.reduceLT,Int.reduceLE,Int.reduceGT,Int.reduceGE,Nat.reduceGT,Int.reduceNeg,Int.reduceToNat,Int.reduceAdd,Int.reduceMul,Int.reduceSub,Int.reducePow,decide_true,decide_false,decide_eq_true_eq,List.getElem?_cons_zero,List.getElem?_cons_succ,Nat.reduceBEq,Nat.reduceSub,exists_false,and_false,false_and,xu,List.set_cons_zero,List.set_cons_succ,wrap_i64,int_lt_t,int_lt_f,int_le_t,int_le_f,int_gt_t,int_gt_f,int_ge_t,int_ge_f,int_eq_t,int_eq_f,int_beq_t,int_beq_f,int_bne_t,int_bne_f,nat_le_t,nat_le_f,Nat.sub_zero,Nat.sub_self,not_false_eq_true,not_true_eq_false,ld]
            exact w_d7e (n := n) (tot := true) (ω := ω) (h := g) ks ls D kv lv vd vb _ _ rk rl rd (by omega) (by omega) (by omega) hD oks ols (by omega)
        · rw [ca] at k15
          simp (maxSteps := 2000000) (discharger := omega) only [xc,xo,xr,x0,x1,x2,x3,x4,x5,x6,xd,xe,xb,kont_call,kont_pure,kont_round,isNil,slOk,sliceV,selems,srcElems,copyTo,dlen,eqAV,eqCells,eqS,wr,place,partVals,partEs,placeEs,mapOf,keyOk,keyCells,findK,Bool.bne_false,Bool.bne_true,List.drop_zero,List.nil_append,List.append_nil,List.take_zero,List.cons_append,List.take_succ_cons,List.drop_succ_cons,List.take_nil,List.drop_nil,Reg.isA,Reg.isV,Reg.stays,Reg.onto,Bool.false_or,Bool.or_false,Bool.false_and,Bool.and_false,Bool.true_and,Bool.and_true,Bool.or_true,Bool.true_or,↓reduceIte,reduceCtorEq,Nat.reduceEqDiff,Nat.reduceLT,Nat.reduceAdd,Nat.reduceMul,Nat.add_zero,Nat.zero_add,Nat.not_lt_zero,Nat.zero_ne_one,Nat.one_ne_zero,Nat.reduceLeDiff,Nat.lt_irrefl,Nat.zero_lt_succ,Bool.false_eq_true,Bool.not_true,Bool.not_false,Option.map_some,Option.map_none,Option.bind_some,Option.getD_some,Option.getD_none,and_self,and_true,true_and,List.length_cons,List.length_nil,List.any_nil,List.any_cons,Int.toNat_natCast,Int.cast_ofNat_Int,Int.natCast_zero,Int.natCast_nonneg,true_implies,or_true,true_or,false_or,or_false,beq_self_eq_true,Option.some.injEq,exists_eq_left',Int.reduceEq,Int.reduceLT,Int.reduceLE,Int.reduceGT,Int.reduceGE,Nat.reduceGT,Int.reduceNeg,Int.reduceToNat,Int.reduceAdd,Int.reduceMul,Int.reduceSub,Int.reducePow,decide_true,decide_false,decide_eq_true_eq,List.getElem?_cons_zero,List.getElem?_cons_succ,Nat.reduceBEq,Nat.reduceSub,exists_false,and_false,false_and,xu,List.set_cons_zero,List.set_cons_succ,wrap_i64,int_lt_t,int_lt_f,int_le_t,int_le_f,int_gt_t,int_gt_f,int_ge_t,int_ge_f,int_eq_t,int_eq_f,int_beq_t,int_beq_f,int_bne_t,int_bne_f,nat_le_t,nat_le_f,Nat.sub_zero,Nat.sub_self,not_false_eq_true,not_true_eq_false,k10,k11,k11b,lo,k15,k15b,int_bne_t cb]
      · simp (maxSteps := 2000000) (discharger := omega) only [xc,xo,xr,x0,x1,x2,x3,x4,x5,x6,xd,xe,xb,kont_call,kont_pure,kont_round,isNil,slOk,sliceV,selems,srcElems,copyTo,dlen,eqAV,eqCells,eqS,wr,place,partVals,partEs,placeEs,mapOf,keyOk,keyCells,findK,Bool.bne_false,Bool.bne_true,List.drop_zero,List.nil_append,List.append_nil,List.take_zero,List.cons_append,List.take_succ_cons,List.drop_succ_cons,List.take_nil,List.drop_nil,Reg.isA,Reg.isV,Reg.stays,Reg.onto,Bool.false_or,Bool.or_false,Bool.false_and,Bool.and_false,Bool.true_and,Bool.and_true,Bool.or_true,Bool.true_or,↓reduceIte,reduceCtorEq,Nat.reduceEqDiff,Nat.reduceLT,Nat.reduceAdd,Nat.reduceMul,Nat.add_zero,Nat.zero_add,Nat.not_lt_zero,Nat.zero_ne_one,Nat.one_ne_zero,Nat.reduceLeDiff,Nat.lt_irrefl,Nat.zero_lt_succ,Bool.false_eq_true,Bool.not_true,Bool.not_false,Option.map_some,Option.map_none,Option.bind_some,Option.getD_some,Option.getD_none,and_self,and_true,true_and,List.length_cons,List.length_nil,List.any_nil,List.any_cons,Int.toNat_natCast,Int.cast_ofNat_Int,Int.natCast_zero,Int.natCast_nonneg,true_implies,or_true,true_or,false_or,or_false,beq_self_eq_true,Option.some.injEq,exists_eq_left',Int.reduceEq,Int.reduceLT,Int.reduceLE,Int.reduceGT,Int.reduceGE,Nat.reduceGT,Int.reduceNeg,Int.reduceToNat,Int.reduceAdd,Int.reduceMul,Int.reduceSub,Int.reducePow,decide_true,decide_false,decide_eq_true_eq,List.getElem?_cons_zero,List.getElem?_cons_succ,Nat.reduceBEq,Nat.reduceSub,exists_false,and_false,false_and,xu,List.set_cons_zero,List.set_cons_succ,wrap_i64,int_lt_t,int_lt_f,int_le_t,int_le_f,int_gt_t,int_gt_f,int_ge_t,int_ge_f,int_eq_t,int_eq_f,int_beq_t,int_beq_f,int_bne_t,int_bne_f,nat_le_t,nat_le_f,Nat.sub_zero,Nat.sub_self,not_false_eq_true,not_true_eq_false,k10,k11,k11b,lo,k15,int_bne_t ca]
end Go.Proofs.YtpgmohjmpaifbaaDoor.Im

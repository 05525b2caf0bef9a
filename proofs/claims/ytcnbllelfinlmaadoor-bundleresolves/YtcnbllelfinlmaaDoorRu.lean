/- Joined: S20An, S20Rs, S20Ru. -/
import Derived.Test.YtcnbllelfinlmaaDoorAp
import Derived.Test.YtcnbllelfinlmaaDoorBm
/- S20An: a patch laid on a text: the code. -/
set_option linter.unusedVariables false
set_option linter.unusedSimpArgs false
open Go Go.Im
namespace Go.Proofs.YtcnbllelfinlmaaDoor.Im

def piAV : PR By → AV
  | .err e => .tup [.str [], .int .i64 e]
  | .ok t _ => .tup [.str t, .int .i64 0]
theorem err_ne {s : By} {e : Int} (h : rdC s = .err e) : (e != 0) = true := by
  rcases rdC_err h with ⟨_, rfl | rfl⟩ | ⟨rfl, _⟩ <;> rfl
section
variable {n : Nat} {tot : Bool} {ω : Nat → Nat}
set_option maxRecDepth 100000 in
set_option maxHeartbeats 2000000 in
theorem c81 (id most : Nat) (base s : By) (v : AV) (h : Hp) (hid : h[id]? = some (Rr s)) (hv : IsRd 1 (bytesOf base) v) (hb : base.length ≤ 1000000) (hs : s.length ≤ 1000000) (hm : most ≤ 1000000) (hn : s.length + 10 < n) :
    ∃ s', call F n tot ω 81 [.ptr id 1 0 0, v, .int .i64 most] h = some (piAV (piece base most s), h.set id (Rr s')) ∧ ∀ t k, piece base most s = .ok t k → s' = s.drop k := by
  suffices hx : ∃ x y, call F n tot ω 81 [.ptr id 1 0 0, v, .int .i64 most] h = some (x, y) ∧ ∃ s', x = piAV (piece base most s) ∧ y = h.set id (Rr s') ∧ ∀ t k, piece base most s = .ok t k → s' = s.drop k by
    obtain ⟨x, y, e1, s', rfl, rfl, e2⟩ := hx
    exact ⟨s', e1, e2⟩
  have hself : h.set id (Rr s) = h := by
    obtain ⟨h1, h2⟩ := List.getElem?_eq_some_iff.1 hid
    rw [← h2]; exact List.set_getElem_self h1
  obtain ⟨n, rfl⟩ : ∃ m, n = m + 1 := ⟨n - 1, by omega⟩
  refine call_of (fn := a81) f81 (P := fun x y => ∃ s', x = piAV (piece base most s) ∧ y = h.set id (Rr s') ∧ ∀ t k, piece base most s = .ok t k → s' = s.drop k) ?_
  unfold a81
  have hl := hv.len
  rw [bytesOf_len] at hl
  unfold piece
  cases hc : rdC s with
  | err e =>
    have r1 := c80e (tot := tot) (ω := ω) (n := n) id s h hid (by omega) (by omega) hc
    have he := err_ne hc
    simp (maxSteps := 2000000) (discharger := omega) only [xc,xo,xr,x0,x1,x3,xd,kont_call,Reg.isA,Reg.isV,Reg.stays,Reg.onto,Bool.or_false,Bool.and_false,↓reduceIte,reduceCtorEq,Nat.reduceEqDiff,Nat.reduceLT,Nat.reduceAdd,Nat.zero_add,Nat.not_lt_zero,Nat.one_ne_zero,Bool.false_eq_true,Option.map_some,List.any_nil,List.any_cons,Option.some.injEq,exists_eq_left',List.getElem?_cons_zero,List.getElem?_cons_succ,r1,he]
    exact ⟨s, rfl, hself.symm, fun _ _ h => by cases h⟩
  | ok x k =>
    have r1 := c80o (tot := tot) (ω := ω) (n := n) id s h hid (by omega) (by omega) hc
    have hb1 := dec_ok (rdC_ok hc)
    have g1 := set_get hid (Rr (s.drop k))
    have he : ((0 : Int) != 0) = false := rfl
    have q2 := td2 x
    have m2 := tm2 x
    dsimp only
    have hdl : (s.drop k).length = s.length - k := by simp
    by_cases A : x < 2 ∨ most < x / 2
    · rw [if_pos A]
      by_cases A0 : x < 2
      · have a0 : ((x : Nat) : Int) < 2 := by omega
        simp (maxSteps := 2000000) (discharger := omega) only [xc,xo,xr,x0,x1,x3,xd,xb,kont_call,Reg.isA,Reg.isV,Reg.stays,Reg.onto,Bool.or_false,Bool.and_false,↓reduceIte,reduceCtorEq,Nat.reduceEqDiff,Nat.reduceLT,Nat.reduceAdd,Nat.zero_add,Nat.not_lt_zero,Nat.one_ne_zero,Bool.false_eq_true,Option.map_some,List.any_nil,List.any_cons,Option.some.injEq,exists_eq_left',decide_true,List.getElem?_cons_zero,List.getElem?_cons_succ,r1,he,a0]
        exact ⟨s.drop k, rfl, rfl, fun _ _ h => by cases h⟩
      · have a0 : ¬ ((x : Nat) : Int) < 2 := by omega
        have a2 : ((x / 2 : Nat) : Int) > (most : Int) := by omega
        simp (maxSteps := 2000000) (discharger := omega) only [xc,xo,xr,x0,x1,x3,xd,kont_call,Reg.isA,Reg.isV,Reg.stays,Reg.onto,Bool.or_false,Bool.and_false,↓reduceIte,reduceCtorEq,Nat.reduceEqDiff,Nat.reduceLT,Nat.reduceAdd,Nat.zero_add,Nat.not_lt_zero,Nat.one_ne_zero,Bool.false_eq_true,Option.map_some,List.any_nil,List.any_cons,beq_self_eq_true,Option.some.injEq,exists_eq_left',Int.reduceEq,decide_true,decide_false,List.getElem?_cons_zero,List.getElem?_cons_succ,wrap_i64,r1,he,a0,q2,a2]
        exact ⟨s.drop k, rfl, rfl, fun _ _ h => by cases h⟩
    · rw [if_neg A]
      have a0 : ¬ ((x : Nat) : Int) < 2 := by omega
      have a2 : ¬ ((x / 2 : Nat) : Int) > (most : Int) := by omega
      by_cases B : x % 2 = 0
      · rw [if_pos B]
        have b1 : (((x % 2 : Nat) : Int) == 0) = true := by rw [B]; rfl
        by_cases C : (s.drop k).length < x / 2
        · rw [if_pos C]
          have r2 := c108e (tot := tot) (ω := ω) (n := n) id (x / 2) _ _ g1 (by omega) C
          simp (maxSteps := 2000000) (discharger := omega) only [xc,xo,xr,x0,x1,x3,xd,kont_call,Reg.isA,Reg.isV,Reg.stays,Reg.onto,Bool.or_false,Bool.and_false,↓reduceIte,reduceCtorEq,Nat.reduceEqDiff,Nat.reduceLT,Nat.reduceAdd,Nat.zero_add,Nat.not_lt_zero,Nat.one_ne_zero,Bool.false_eq_true,Option.map_some,List.any_nil,List.any_cons,beq_self_eq_true,Option.some.injEq,exists_eq_left',Int.reduceEq,decide_false,List.getElem?_cons_zero,List.getElem?_cons_succ,wrap_i64,r1,he,a0,q2,a2,m2,b1,r2]
          exact ⟨s.drop k, rfl, rfl, fun _ _ h => by cases h⟩
        · rw [if_neg C]
          have r2 := c108o (tot := tot) (ω := ω) (n := n) id (x / 2) _ _ g1 (by omega) (by omega)
          rw [List.set_set, List.drop_drop] at r2
          simp (maxSteps := 2000000) (discharger := omega) only [xc,xo,xr,x0,x1,x3,xd,kont_call,Reg.isA,Reg.isV,Reg.stays,Reg.onto,Bool.or_false,Bool.and_false,↓reduceIte,reduceCtorEq,Nat.reduceEqDiff,Nat.reduceLT,Nat.reduceAdd,Nat.zero_add,Nat.not_lt_zero,Nat.one_ne_zero,Bool.false_eq_true,Option.map_some,List.any_nil,List.any_cons,beq_self_eq_true,Option.some.injEq,exists_eq_left',Int.reduceEq,decide_false,List.getElem?_cons_zero,List.getElem?_cons_succ,wrap_i64,r1,he,a0,q2,a2,m2,b1,r2]
          exact ⟨s.drop (k + x / 2), rfl, rfl, fun _ _ h => by injection h with h1 h2; rw [← h2]⟩
      · rw [if_neg B]
        have b1 : (((x % 2 : Nat) : Int) == 0) = false := by simp; omega
        cases hc2 : rdC (s.drop k) with
        | err e =>
          have r2 := c80e (tot := tot) (ω := ω) (n := n) id _ _ g1 (by omega) (by omega) hc2
          have he2 := err_ne hc2
          simp (maxSteps := 2000000) (discharger := omega) only [xc,xo,xr,x0,x1,x3,xd,kont_call,Reg.isA,Reg.isV,Reg.stays,Reg.onto,Bool.or_false,Bool.and_false,↓reduceIte,reduceCtorEq,Nat.reduceEqDiff,Nat.reduceLT,Nat.reduceAdd,Nat.zero_add,Nat.not_lt_zero,Nat.zero_ne_one,Nat.one_ne_zero,Nat.lt_irrefl,Bool.false_eq_true,Option.map_some,List.any_nil,List.any_cons,beq_self_eq_true,Option.some.injEq,exists_eq_left',Int.reduceEq,decide_false,List.getElem?_cons_zero,List.getElem?_cons_succ,wrap_i64,r1,he,a0,q2,a2,m2,b1,r2,he2]
          exact ⟨s.drop k, rfl, rfl, fun _ _ h => by cases h⟩
        | ok a k2 =>
          have r2 := c80o (tot := tot) (ω := ω) (n := n) id _ _ g1 (by omega) (by omega) hc2
          rw [List.set_set, List.drop_drop] at r2
          have hb2 := dec_ok (rdC_ok hc2)
          dsimp only
          by_cases D : base.length < a ∨ base.length - a < x / 2
          · rw [if_pos D]
            by_cases D1 : base.length < a
            · have d1 : ((a : Nat) : Int) > (base.length : Int) := by omega
              simp (maxSteps := 2000000) (discharger := omega) only [xc,xo,xr,x0,x1,x3,x4,xd,xb,kont_call,Reg.isA,Reg.isV,Reg.stays,Reg.onto,Bool.or_false,Bool.and_false,↓reduceIte,reduceCtorEq,Nat.reduceEqDiff,Nat.reduceLT,Nat.reduceAdd,Nat.zero_add,Nat.not_lt_zero,Nat.zero_ne_one,Nat.one_ne_zero,Nat.lt_irrefl,Bool.false_eq_true,Option.map_some,List.any_nil,List.any_cons,beq_self_eq_true,Option.some.injEq,exists_eq_left',Int.reduceEq,decide_true,decide_false,List.getElem?_cons_zero,List.getElem?_cons_succ,wrap_i64,r1,he,a0,q2,a2,m2,b1,r2,hl,d1]
              exact ⟨s.drop (k + k2), rfl, rfl, fun _ _ h => by cases h⟩
            · have d1 : ¬ ((a : Nat) : Int) > (base.length : Int) := by omega
              have d2 : ((x / 2 : Nat) : Int) > (base.length : Int) - (a : Int) := by omega
              simp (maxSteps := 2000000) (discharger := omega) only [xc,xo,xr,x0,x1,x3,x4,xd,kont_call,Reg.isA,Reg.isV,Reg.stays,Reg.onto,Bool.or_false,Bool.and_false,↓reduceIte,reduceCtorEq,Nat.reduceEqDiff,Nat.reduceLT,Nat.reduceAdd,Nat.zero_add,Nat.not_lt_zero,Nat.zero_ne_one,Nat.one_ne_zero,Nat.lt_irrefl,Bool.false_eq_true,Option.map_some,List.any_nil,List.any_cons,beq_self_eq_true,Option.some.injEq,exists_eq_left',Int.reduceEq,decide_true,decide_false,List.getElem?_cons_zero,List.getElem?_cons_succ,wrap_i64,r1,he,a0,q2,a2,m2,b1,r2,hl,d1,d2]
              exact ⟨s.drop (k + k2), rfl, rfl, fun _ _ h => by cases h⟩
          · rw [if_neg D]
            have d1 : ¬ ((a : Nat) : Int) > (base.length : Int) := by omega
            have d2 : ¬ ((x / 2 : Nat) : Int) > (base.length : Int) - (a : Int) := by omega
            rcases hv with ⟨_, e0⟩ | ⟨c, rfl⟩
            · have := bytesOf_len base
              rw [e0] at this
              simp at this
              omega
            have ad : (a : Int) + ((x / 2 : Nat) : Int) = ((a + x / 2 : Nat) : Int) := by omega
            have d3 : ((a : Nat) : Int) ≤ ((a + x / 2 : Nat) : Int) := by omega
            have d4 : ((a + x / 2 : Nat) : Int) ≤ (base.length : Int) := by omega
            have tb : toBytes (List.drop a (List.take (a + x / 2) (bytesOf base))) = some (List.take (x / 2) (List.drop a base)) := by
              have : List.drop a (List.take (a + x / 2) (bytesOf base)) = bytesOf (List.take (x / 2) (List.drop a base)) := by
                rw [List.drop_take, show a + x / 2 - a = x / 2 by omega]
                simp [bytesOf]
              rw [this, toBytes_bytesOf]
            simp (maxSteps := 2000000) (discharger := omega) only [xc,xo,xr,x0,x1,x2,x3,x4,xd,xe,xb,kont_call,slOk,sliceV,selems,Reg.isA,Reg.isV,Reg.stays,Reg.onto,Bool.or_false,Bool.and_false,↓reduceIte,reduceCtorEq,Nat.reduceEqDiff,Nat.reduceLT,Nat.reduceAdd,Nat.zero_add,Nat.not_lt_zero,Nat.zero_ne_one,Nat.one_ne_zero,Nat.lt_irrefl,Bool.false_eq_true,Option.map_some,Option.getD_some,and_self,List.any_nil,List.any_cons,Int.toNat_natCast,Int.natCast_nonneg,beq_self_eq_true,Option.some.injEq,exists_eq_left',Int.reduceEq,decide_false,List.getElem?_cons_zero,List.getElem?_cons_succ,wrap_i64,r1,he,a0,q2,a2,m2,b1,r2,hl,d1,d2,ad,d3,d4]
            exact ⟨s.drop (k + k2), by rw [List.drop_take, show a + x / 2 - a = x / 2 by omega]; rfl, rfl, fun _ _ h => by injection h with h1 h2; rw [← h2]⟩
theorem piece_ne {base s : By} {most : Nat} {e : Int} (h : piece base most s = .err e) : (e != 0) = true := by
  unfold piece at h
  cases hc : rdC s with
  | err e => rw [hc] at h; cases h; exact err_ne hc
  | ok x k =>
    rw [hc] at h
    dsimp only at h
    split at h
    · cases h; rfl
    split at h
    · split at h
      · cases h; rfl
      · cases h
    · cases hc2 : rdC (s.drop k) with
      | err e => rw [hc2] at h; cases h; exact err_ne hc2
      | ok a k2 =>
        rw [hc2] at h
        dsimp only at h
        split at h
        · cases h; rfl
        · cases h
def ApR : Int ⊕ By → AV → Prop
  | .inl e, x => x = .tup [.nils, .int .i64 e] ∧ (e != 0) = true
  | .inr b, x => ∃ c, x = .tup [.imm 1 (bytesOf b) c, .int .i64 0]
set_option maxRecDepth 100000 in
set_option maxHeartbeats 2000000 in
theorem c47 (base patch : By) (v : AV) (h : Hp) (hv : IsRd 1 (bytesOf base) v) (hb : base.length ≤ 1000000) (hp : patch.length ≤ 1000000) (hn : patch.length + 5000 < n) :
    ∃ x h', call F n tot ω 47 [v, .str patch] h = some (x, h') ∧ ApR (apply base patch) x ∧ Below h.length h h' := by
  obtain ⟨n, rfl⟩ : ∃ m, n = m + 1 := ⟨n - 1, by omega⟩
  refine call_of (fn := a47) f47 (P := fun x h' => ApR (apply base patch) x ∧ Below h.length h h') ?_
  unfold a47 apply
  have r0 := c79 (tot := tot) (ω := ω) (n := n) patch h (by omega)
  have g0 : (h ++ [Rr patch])[h.length]? = some (Rr patch) := by rw [hg0]; rfl
  have he : ((0 : Int) != 0) = false := rfl
  have ub : ∀ s, AO.row 1 [.agg [.str s]] = Rr s := fun _ => rfl
  rw [ub] at r0
  have vnt := rd_nt hv
  cases hc : rdC patch with
  | err e =>
    have r1 := c80e (tot := tot) (ω := ω) (n := n) h.length patch _ g0 (by omega) (by omega) hc
    have he2 := err_ne hc
    simp (maxSteps := 2000000) (discharger := omega) only [xc,xo,xr,x0,x1,x3,xd,kont_call,Reg.isA,Reg.isV,Reg.stays,Reg.onto,Bool.or_false,Bool.and_false,↓reduceIte,reduceCtorEq,Nat.reduceEqDiff,Nat.reduceLT,Nat.reduceAdd,Nat.zero_add,Nat.not_lt_zero,Nat.zero_ne_one,Nat.one_ne_zero,Bool.false_eq_true,Option.map_some,List.any_nil,List.any_cons,Option.some.injEq,exists_eq_left',List.getElem?_cons_zero,List.getElem?_cons_succ,r0,r1,he2]
    exact ⟨⟨rfl, he2⟩, Below.app _ _ _ (Nat.le_refl _)⟩
  | ok size k =>
    have r1 := c80o (tot := tot) (ω := ω) (n := n) h.length patch _ g0 (by omega) (by omega) hc
    rw [hs0, List.set_cons_zero] at r1
    have hb1 := dec_ok (rdC_ok hc)
    dsimp only
    by_cases h40 : 4096 < size
    · have h4 : ((size : Nat) : Int) > 4096 := by omega
      rw [if_pos h40]
      simp (maxSteps := 2000000) (discharger := omega) only [xc,xo,xr,x0,x1,x3,xd,kont_call,Reg.isA,Reg.isV,Reg.stays,Reg.onto,Bool.or_false,Bool.and_false,↓reduceIte,reduceCtorEq,Nat.reduceEqDiff,Nat.reduceLT,Nat.reduceAdd,Nat.zero_add,Nat.not_lt_zero,Nat.zero_ne_one,Nat.one_ne_zero,Bool.false_eq_true,Option.map_some,List.any_nil,List.any_cons,Option.some.injEq,exists_eq_left',decide_true,List.getElem?_cons_zero,List.getElem?_cons_succ,r0,r1,he,h4]
      exact ⟨⟨rfl, rfl⟩, Below.app _ _ _ (Nat.le_refl _)⟩
    · have h4 : ¬ ((size : Nat) : Int) > 4096 := by omega
      have h5 : (0 : Int) ≤ (size : Int) := by omega
      have h6 : (1 : Int) * (size : Int) ≤ 281474976710656 := by omega
      have h7 : (size : Int) ≤ 9223372036854775807 := by omega
      rw [if_neg h40]
      generalize hR : finA (goA base size size [] (patch.drop k)) = R
      simp (maxSteps := 2000000) (discharger := omega) only [xc,xo,xr,x0,x1,x3,x5,xd,kont_call,Reg.isA,Reg.isV,Reg.stays,Reg.onto,Bool.or_false,Bool.and_false,↓reduceIte,reduceCtorEq,Nat.reduceEqDiff,Nat.reduceLT,Nat.reduceAdd,Nat.zero_add,Nat.not_lt_zero,Nat.zero_ne_one,Nat.one_ne_zero,Bool.false_eq_true,Option.map_some,and_self,List.length_nil,List.any_nil,List.any_cons,Int.cast_ofNat_Int,Int.reduceLE,Int.reduceToNat,decide_false,List.getElem?_cons_zero,List.getElem?_cons_succ,r0,r1,he,h4,h5,h6,h7,Im.newRow,Bool.false_eq_true,List.replicate_zero,List.length_nil]
      refine wpi_loop (fun m r g => ∃ (s out : By) (c : Cap), r = [(0, .val v), (6, .val (.ptr h.length 1 0 0)), (7, .val (.int .i64 size)), (9, .val (.imm 1 (bytesOf out) c))] ∧ g[h.length]? = some (Rr s) ∧ s.length ≤ patch.length ∧ size ≤ out.length + m ∧ out.length ≤ size ∧ finA (goA base size m out s) = R ∧ Below h.length h g ∧ LateApp (h.length + 1) 1 (bytesOf out) g (.imm 1 (bytesOf out) c)) size (by omega) ⟨patch.drop k, [], _, rfl, by rw [List.append_assoc, hg0]; rfl, by simp, by simp, by simp, hR, by rw [List.append_assoc]; exact Below.app _ _ _ (Nat.le_refl _), ⟨.inr (.inr ⟨_, rfl, by simp [bytesOf]⟩), fun id c e => by cases e; simp⟩⟩ ?_
      clear hR
      rintro m r g ⟨s, out, c, rfl, hg, hs, hm, ho, hd, hbl, hla⟩
      by_cases hlt : out.length < size
      · obtain ⟨m, rfl⟩ : ∃ m', m = m' + 1 := ⟨m - 1, by omega⟩
        have hlt' : ((out.length : Nat) : Int) < (size : Int) := by omega
        have hsub : (size : Int) - (out.length : Int) = ((size - out.length : Nat) : Int) := by omega
        obtain ⟨s', r2, hk⟩ := c81 (tot := tot) (ω := ω) (n := n) h.length (size - out.length) base s v g hg hv hb (by omega) (by omega) (by omega)
        have g1 := set_get hg (Rr s')
        have hbs : Below h.length h (g.set h.length (Rr s')) := hbl.trans ⟨by simp, fun i hi => by rw [List.getElem?_set_ne (by omega)]⟩
        unfold goA at hd
        rw [if_neg (by omega)] at hd
        cases hc2 : piece base (size - out.length) s with
        | err e =>
          rw [hc2] at r2 hd
          have he2 := piece_ne hc2
          dsimp only at hd
          subst hd
          unfold piAV at r2
          simp (maxSteps := 2000000) (discharger := omega) only [xc,xo,xr,x0,x1,x3,x4,xd,xe,kont_call,Reg.isA,Reg.isV,Reg.stays,Reg.onto,Bool.or_false,Bool.and_false,↓reduceIte,reduceCtorEq,Nat.reduceEqDiff,Nat.reduceLT,Nat.not_lt_zero,Bool.false_eq_true,Option.map_some,List.any_nil,List.any_cons,Option.some.injEq,exists_eq_left',decide_true,List.getElem?_cons_zero,List.getElem?_cons_succ,wrap_i64,hlt',hsub,r2,he2]
          exact ⟨⟨rfl, he2⟩, hbs⟩
        | ok t k2 =>
          rw [hc2] at r2 hd
          have hpl := piece_len hc2
          obtain rfl := hk _ _ hc2
          dsimp only at hd
          unfold piAV at r2
          have hla1 : LateApp (h.length + 1) 1 (bytesOf out) (g.set h.length (Rr (s.drop k2))) (.imm 1 (bytesOf out) c) := ⟨isApp_setS hla.1 hg rfl, hla.2⟩
          have hgl := (List.getElem?_eq_some_iff.1 hg).1
          obtain ⟨w', g', e1, e2, e3⟩ := late_app (bytes := 1) (xs := bytesOf t) hla1 (by simp; omega) (by intro h0; have := bytesOf_len t; rw [h0] at this; simp at this; omega) (by rw [bytesOf_len, bytesOf_len]; omega)
          rw [← bytesOf_app] at e2
          obtain ⟨c', rfl⟩ := e2.1.imm (by intro h0; have := bytesOf_len (out ++ t); rw [h0] at this; simp at this; omega)
          simp (maxSteps := 2000000) (discharger := omega) only [xc,xo,xr,x0,x1,x3,x4,x5,xd,xe,xb,kont_call,srcElems,Reg.isA,Reg.isV,Reg.stays,Reg.onto,Bool.or_false,Bool.and_false,↓reduceIte,reduceCtorEq,Nat.reduceEqDiff,Nat.reduceLT,Nat.not_lt_zero,Nat.lt_irrefl,Bool.false_eq_true,Option.map_some,List.any_nil,List.any_cons,decide_true,List.getElem?_cons_zero,List.getElem?_cons_succ,wrap_i64,hlt',hsub,r2,he,e1]
          exact ⟨m, by omega, s.drop k2, out ++ t, c', rfl, by rw [e3.2 _ (by omega)]; exact g1, by simp; omega, by simp; omega, by simp; omega, hd, hbs.trans (e3.low (by omega)), e2⟩
      · have hlt' : ¬ ((out.length : Nat) : Int) < (size : Int) := by omega
        have hd2 : finA (.inr (out, s)) = R := by
          cases m with
          | zero => exact hd
          | succ m => unfold goA at hd; rw [if_pos (by omega)] at hd; exact hd
        have r3 := c82 (tot := tot) (ω := ω) (n := n) h.length s g hg (by omega)
        unfold finA at hd2
        dsimp only at hd2
        by_cases hr : s = []
        · rw [if_pos hr] at hd2 r3
          subst hd2
          simp (maxSteps := 2000000) (discharger := omega) only [xc,xo,xr,x0,x1,x4,xd,xe,kont_call,Reg.isA,Reg.isV,Reg.stays,Reg.onto,Bool.or_false,Bool.and_false,↓reduceIte,reduceCtorEq,Nat.reduceEqDiff,Nat.reduceLT,Nat.not_lt_zero,Bool.false_eq_true,Option.map_some,List.any_nil,List.any_cons,Option.some.injEq,exists_eq_left',decide_false,hlt',r3,he]
          exact ⟨⟨_, rfl⟩, hbl⟩
        · rw [if_neg hr] at hd2 r3
          subst hd2
          have he5 : ((5 : Int) != 0) = true := rfl
          simp (maxSteps := 2000000) (discharger := omega) only [xc,xo,xr,x0,x1,x4,xd,xe,kont_call,Reg.isA,Reg.isV,Reg.stays,Reg.onto,Bool.or_false,Bool.and_false,↓reduceIte,reduceCtorEq,Nat.reduceEqDiff,Nat.reduceLT,Nat.not_lt_zero,Bool.false_eq_true,Option.map_some,List.any_nil,List.any_cons,Option.some.injEq,exists_eq_left',decide_false,hlt',r3,he5]
          exact ⟨⟨rfl, rfl⟩, hbl⟩
end
end Go.Proofs.YtcnbllelfinlmaaDoor.Im

/- S20Rs: the reference's digest: turns, the padded text. -/
set_option linter.unusedVariables false
set_option linter.unusedSimpArgs false
open Go Go.Im
namespace Go.Proofs.YtcnbllelfinlmaaDoor.Im

def turnI (x : Int) : Nat → Int
  | 0 => x
  | k + 1 => IntKind.u32.wrap (IntKind.u32.wrap ((turnI x k).tdiv 2) + IntKind.u32.wrap ((turnI x k).tmod 2 * 2147483648))

section
variable {n : Nat} {tot : Bool} {ω : Nat → Nat} {h : Hp}

theorem c87 (x : Int) (k : Nat) (hk : k ≤ 32) (hn : 40 < n) : call F n tot ω 87 [.int .u32 x, .int .i64 k] h = some (.int .u32 (turnI x k), h) := by
  obtain ⟨n, rfl⟩ : ∃ m, n = m + 1 := ⟨n - 1, by omega⟩
  refine call_eq (fn := a87) f87 ?_
  unfold a87
  simp (maxSteps := 2000000) (discharger := omega) only [xc,xo,xr,x0,Reg.isA,Reg.isV,Reg.stays,Reg.onto,Bool.or_false,Bool.and_false,↓reduceIte,reduceCtorEq,Nat.reduceEqDiff,Nat.reduceLT,Nat.reduceAdd,Nat.zero_add,Nat.not_lt_zero,Nat.one_ne_zero,Bool.false_eq_true,Option.map_some,List.any_nil,List.any_cons]
  refine wpi_loop (fun y r g' => ∃ (i : Nat), r = [(0, .val (.int .u32 (turnI x i))), (1, .val (.int .i64 k)), (5, .val (.int .i64 i))] ∧ y = k - i ∧ i ≤ k ∧ g' = h) k (by omega)
    ⟨0, rfl, rfl, Nat.zero_le _, rfl⟩ ?_
  rintro y r g' ⟨i, rfl, rfl, hi, rfl⟩
  by_cases hlt : i < k
  · simp (maxSteps := 2000000) (discharger := omega) only [xc,xo,xr,x0,x1,xd,Reg.isA,Reg.isV,Reg.stays,Reg.onto,Bool.or_false,Bool.and_false,↓reduceIte,reduceCtorEq,Nat.reduceEqDiff,Nat.reduceLT,Nat.not_lt_zero,Nat.zero_ne_one,Nat.one_ne_zero,Nat.lt_irrefl,Bool.false_eq_true,Option.map_some,and_true,List.any_nil,List.any_cons,decide_true,wrap_i64,int_lt_t,int_eq_f]
    exact ⟨k - (i + 1), by omega, i + 1, by rw [show ((i : Nat) : Int) + 1 = ((i + 1 : Nat) : Int) by omega]; rfl, rfl, by omega⟩
  · obtain rfl : i = k := by omega
    simp (maxSteps := 2000000) (discharger := omega) only [xc,xo,xr,x0,x1,xd,Reg.isA,Reg.isV,Reg.stays,Reg.onto,Bool.or_false,Bool.and_false,↓reduceIte,reduceCtorEq,Nat.reduceEqDiff,Nat.reduceLT,Nat.not_lt_zero,Nat.zero_ne_one,Nat.one_ne_zero,Bool.false_eq_true,Option.map_some,and_true,List.any_nil,List.any_cons,Option.some.injEq,exists_eq_left',decide_false,int_lt_f,Nat.sub_self]

theorem late_app0 {lo sz bytes : Nat} {es xs : List AV} {h : Hp} {v : AV} (hv : LateApp lo sz es h v) (hlo : lo ≤ h.length) (hb : (es.length + xs.length) * bytes ≤ 140737488355328) :
    ∃ v' h', appendV false sz bytes v xs h = some (v', h') ∧ LateApp lo sz (es ++ xs) h' v' ∧ Below lo h h' := by
  by_cases hx : xs = []
  · subst hx
    exact ⟨v, h, app_nil hv.1, by rw [List.append_nil]; exact hv, .refl _ _⟩
  · exact late_app hv hlo hx hb

def lenB (s : By) : Nat → By
  | 0 => []
  | k + 1 => lenB s k ++ [UInt8.ofNat (s.length * 8 / 256 ^ (7 - k) % 256)]
def padZ (s : By) : Nat := (119 - s.length % 64) % 64
def padR (s : By) : By := s ++ [128] ++ List.replicate (padZ s) 0 ++ lenB s 8

theorem lenB_len (s : By) : ∀ k, (lenB s k).length = k
  | 0 => rfl
  | k + 1 => by simp [lenB,lenB_len s k]
theorem padR_len (s : By) : (padR s).length % 64 = 0 ∧ (padR s).length = s.length + 9 + padZ s := by
  have : (padR s).length = s.length + 9 + padZ s := by simp [padR,lenB_len]; omega
  refine ⟨?_, this⟩
  rw [this]; unfold padZ; omega
theorem padZ_lt (s : By) : padZ s < 64 := Nat.mod_lt _ (by decide)

theorem u8_nat (x : Nat) (hx : x < 256) : (((UInt8.ofNat x).toNat : Nat) : Int) = (x : Int) := by
  have : (UInt8.ofNat x).toNat = x := by rw [UInt8.toNat_ofNat']; exact Nat.mod_eq_of_lt hx
  rw [this]

theorem c86 (s : By) (hs : s.length ≤ 1000000000) (hn : 80 < n) : ∃ h', call F n tot ω 86 [.str s] h = some (.str (padR s), h') ∧ Below h.length h h' := by
  obtain ⟨n, rfl⟩ : ∃ m, n = m + 1 := ⟨n - 1, by omega⟩
  suffices hx : ∃ v2 h', call F (n + 1) tot ω 86 [.str s] h = some (v2, h') ∧ v2 = .str (padR s) ∧ Below h.length h h' by
    obtain ⟨v2, h', e1, rfl, e2⟩ := hx
    exact ⟨h', e1, e2⟩
  refine call_of (fn := a86) f86 (P := fun v2 h' => v2 = .str (padR s) ∧ Below h.length h h') ?_
  unfold a86
  obtain ⟨v1, h1, w1, w2, w3⟩ := late_app0 (lo := h.length) (sz := 1) (bytes := 1) (xs := bytesOf s) (late_nils h.length 1 h) (Nat.le_refl _) (by simp [bytesOf]; omega)
  rw [List.nil_append] at w2
  obtain ⟨v2, h2, z1, z2, z3⟩ := late_app (bytes := 1) (xs := [.int .u8 128]) w2 w3.1 (by simp) (by simp [bytesOf]; omega)
  simp (maxSteps := 2000000) (discharger := omega) only [xc,xo,xr,x0,x3,x5,xd,xb,selems,srcElems,partEs,placeEs,Reg.isA,Reg.isV,Reg.stays,Reg.onto,Bool.or_false,Bool.and_false,↓reduceIte,reduceCtorEq,Nat.reduceEqDiff,Nat.reduceLT,Nat.zero_add,Nat.not_lt_zero,Nat.lt_irrefl,Nat.zero_lt_succ,Bool.false_eq_true,Option.map_some,and_self,List.length_cons,List.length_nil,List.any_nil,List.any_cons,List.set_cons_zero,w1,z1,w2.1.isRow,List.replicate]
  have hB2 := w3.trans z3
  have hZ := padZ_lt s
  have e128 : ∀ j, bytesOf (s ++ [128] ++ List.replicate j 0) ++ [.int .u8 0] = bytesOf (s ++ [128] ++ List.replicate (j + 1) 0) := fun j => by
    rw [List.replicate_succ', ← List.append_assoc]; simp [bytesOf]
  refine wpi_loop (fun y r g' => ∃ (j : Nat) (bv : AV), r = [(0, .val (.str s)), (3, .val bv)] ∧ y = padZ s - j ∧ j ≤ padZ s ∧ LateApp h.length 1 (bytesOf (s ++ [128] ++ List.replicate j 0)) g' bv ∧ Below h.length h g') (padZ s) (by omega)
    ⟨0, v2, rfl, rfl, Nat.zero_le _, by simpa [bytesOf] using z2, hB2⟩ ?_
  rintro y r g' ⟨j, bv, rfl, rfl, hj, hA, hB⟩
  have hlen := hA.1.len
  have hll : (bytesOf (s ++ [128] ++ List.replicate j 0)).length = s.length + 1 + j := by simp [bytesOf]; omega
  rw [hll] at hlen
  by_cases hlt : j < padZ s
  · obtain ⟨v3, h3, y1, y2, y3⟩ := late_app (bytes := 1) (xs := [.int .u8 0]) hA hB.1 (by simp) (by rw [hll]; simp; omega)
    have hne : ¬ ((s.length + 1 + j : Nat) : Int) % 64 = 56 := by unfold padZ at hlt; omega
    simp (maxSteps := 2000000) (discharger := omega) only [xc,xo,xr,x0,x1,x3,x4,x5,xd,xb,selems,srcElems,partEs,placeEs,Reg.isA,Reg.isV,Reg.stays,Reg.onto,Bool.or_false,Bool.and_false,↓reduceIte,reduceCtorEq,Nat.reduceEqDiff,Nat.reduceLT,Nat.zero_add,Nat.not_lt_zero,Nat.lt_irrefl,Nat.zero_lt_succ,Bool.false_eq_true,Option.map_some,and_self,List.length_cons,List.length_nil,List.any_nil,List.any_cons,List.set_cons_zero,int_eq_f,int_bne_t,hlen,tmod_pos,y1,hA.1.isRow,List.replicate]
    exact ⟨padZ s - (j + 1), by omega, j + 1, v3, rfl, rfl, by omega, by rw [← e128]; exact y2, hB.trans y3⟩
  · obtain rfl : j = padZ s := by omega
    have heq : ((s.length + 1 + padZ s : Nat) : Int) % 64 = 56 := by unfold padZ; omega
    have e8 : IntKind.u64.wrap ((s.length : Nat) : Int) = ((s.length : Nat) : Int) := wrap_u64 (by omega) (by omega)
    have e9 : IntKind.u64.wrap (((s.length : Nat) : Int) * 8) = ((s.length * 8 : Nat) : Int) := by rw [wrap_u64 (by omega) (by omega)]; omega
    simp (maxSteps := 2000000) (discharger := omega) only [xc,xo,xr,x0,x1,x2,x4,xd,Reg.isA,Reg.isV,Reg.stays,Reg.onto,Bool.or_false,Bool.and_false,↓reduceIte,reduceCtorEq,Nat.reduceEqDiff,Nat.reduceLT,Nat.not_lt_zero,Bool.false_eq_true,Option.map_some,List.any_nil,List.any_cons,int_eq_f,int_bne_f,Nat.sub_self,hlen,tmod_pos,e8,e9]
    refine wpi_loop (fun y r g => ∃ (k : Nat) (bv : AV), r = [(3, .val bv), (4, .val (.int .u64 (s.length * 8 : Nat))), (5, .val (.int .i64 (7 - (k : Int))))] ∧ y = 8 - k ∧ k ≤ 8 ∧ LateApp h.length 1 (bytesOf (s ++ [128] ++ List.replicate (padZ s) 0 ++ lenB s k)) g bv ∧ Below h.length h g) 8 (by omega)
      ⟨0, bv, rfl, rfl, by omega, by simpa [lenB] using hA, hB⟩ ?_
    rintro y r g ⟨k, bv', rfl, rfl, hk, hA', hB'⟩
    by_cases hk8 : k < 8
    · simp (maxSteps := 2000000) (discharger := omega) only [xc,xo,xr,x0,x1,xd,Reg.isA,Reg.isV,Reg.stays,Reg.onto,Bool.or_false,Bool.and_false,↓reduceIte,Nat.reduceEqDiff,Nat.reduceLT,Bool.false_eq_true,Option.map_some,List.any_nil,List.any_cons,decide_true,int_le_t]
      refine wpi_loop (fun y r g2 => ∃ (q : Nat), r = [(3, .val bv'), (4, .val (.int .u64 (s.length * 8 : Nat))), (5, .val (.int .i64 (7 - (k : Int)))), (6, .val (.int .u64 (s.length * 8 / 256 ^ q : Nat))), (7, .val (.int .i64 q))] ∧ y = 7 - k - q ∧ q ≤ 7 - k ∧ g2 = g) (7 - k) (by omega)
        ⟨0, by simp, rfl, Nat.zero_le _, rfl⟩ ?_
      rintro y r g2 ⟨q, rfl, rfl, hq, rfl⟩
      have hle : s.length * 8 / 256 ^ q ≤ s.length * 8 := Nat.div_le_self _ _
      by_cases hqk : q < 7 - k
      · have e1 : s.length * 8 / 256 ^ (q + 1) = s.length * 8 / 256 ^ q / 256 := by rw [Nat.pow_succ, Nat.div_div_eq_div_mul]
        generalize s.length * 8 / 256 ^ q = x at *
        simp (maxSteps := 2000000) (discharger := omega) only [xc,xo,xr,x0,x1,xd,Reg.isA,Reg.isV,Reg.stays,Reg.onto,Bool.or_false,Bool.and_false,↓reduceIte,Nat.reduceEqDiff,Nat.reduceLT,Nat.lt_irrefl,Bool.false_eq_true,Option.map_some,and_true,List.any_nil,List.any_cons,decide_true,wrap_i64,int_lt_t,int_eq_f,tdiv_pos,wrap_u64]
        exact ⟨7 - k - (q + 1), by omega, q + 1, by rw [e1, show ((q : Nat) : Int) + 1 = ((q + 1 : Nat) : Int) by omega, show ((x : Nat) : Int) / 256 = ((x / 256 : Nat) : Int) by omega], rfl, by omega⟩
      · obtain rfl : q = 7 - k := by omega
        have e1 : lenB s (k + 1) = lenB s k ++ [UInt8.ofNat (s.length * 8 / 256 ^ (7 - k) % 256)] := rfl
        have e2 := u8_nat (s.length * 8 / 256 ^ (7 - k) % 256) (Nat.mod_lt _ (by decide))
        have hlk := lenB_len s k
        generalize s.length * 8 / 256 ^ (7 - k) = x at *
        have e3 : ((x : Nat) : Int) % 256 = (((UInt8.ofNat (x % 256)).toNat : Nat) : Int) := by rw [e2]; omega
        have e4 : (((UInt8.ofNat (x % 256)).toNat : Nat) : Int) ≤ 255 := by rw [e2]; omega
        obtain ⟨v3, h3, y1, y2, y3⟩ := late_app (bytes := 1) (xs := [.int .u8 ((UInt8.ofNat (x % 256)).toNat : Nat)]) hA' hB'.1 (by simp) (by simp [bytesOf,hlk]; omega)
        simp (maxSteps := 2000000) (discharger := omega) only [xc,xo,xr,x0,x1,x2,x3,x5,xd,xb,selems,srcElems,partEs,placeEs,Reg.isA,Reg.isV,Reg.stays,Reg.onto,Bool.or_false,Bool.and_false,↓reduceIte,Nat.reduceEqDiff,Nat.reduceLT,Nat.zero_add,Nat.lt_irrefl,Nat.zero_lt_succ,Bool.false_eq_true,Option.map_some,and_self,List.length_cons,List.length_nil,List.any_nil,List.any_cons,decide_false,List.set_cons_zero,wrap_i64,int_lt_f,int_eq_f,Nat.sub_self,tmod_pos,e3,wrap_u8,y1,hA'.1.isRow,List.replicate]
        refine ⟨8 - (k + 1), by omega, k + 1, v3, by rw [show 7 - ((k : Nat) : Int) - 1 = 7 - ((k + 1 : Nat) : Int) by omega], rfl, by omega, ?_, hB'.trans y3⟩
        rw [e1, ← List.append_assoc]
        simpa [bytesOf] using y2
    · obtain rfl : k = 8 := by omega
      obtain ⟨cc, hcc⟩ := hA'.1.imm (by simp [bytesOf])
      subst hcc
      simp (maxSteps := 2000000) (discharger := omega) only [xc,xo,xr,x0,x1,x2,xd,xe,xb,selems,Reg.isA,Reg.isV,Reg.stays,Reg.onto,Bool.or_false,Bool.and_false,↓reduceIte,Nat.reduceEqDiff,Nat.reduceLT,Bool.false_eq_true,Option.map_some,List.any_nil,List.any_cons,Int.cast_ofNat_Int,Option.some.injEq,exists_eq_left',Int.reduceNeg,Int.reduceSub,decide_false,int_le_f,Nat.sub_self]
      exact ⟨rfl, hB'⟩
end
end Go.Proofs.YtcnbllelfinlmaaDoor.Im

/- S20Ru: the reference's digest. -/
set_option linter.unusedVariables false
set_option linter.unusedSimpArgs false
open Go Go.Im
namespace Go.Proofs.YtcnbllelfinlmaaDoor.Im

def byt (p : By) (j : Nat) : Int := ((p.getD j 0).toNat : Nat)
def wordR (p : By) (at' i : Nat) : Nat → Int
  | 0 => 0
  | k + 1 => add32 (IntKind.u32.wrap (wordR p at' i k * 256)) (byt p (at' + 4 * i + k))
def div32 (x : Int) (k : Int) : Int := IntKind.u32.wrap (x.tdiv k)
def wRNext (p : By) (at' : Nat) (w : List Int) (i : Nat) : Int :=
  if i < 16 then wordR p at' i 4 else
    add32 (add32 (add32 (w.getD (i - 16) 0) (xor32 (xor32 (turnI (w.getD (i - 15) 0) 7) (turnI (w.getD (i - 15) 0) 18)) (div32 (w.getD (i - 15) 0) 8))) (w.getD (i - 7) 0))
      (xor32 (xor32 (turnI (w.getD (i - 2) 0) 17) (turnI (w.getD (i - 2) 0) 19)) (div32 (w.getD (i - 2) 0) 1024))
def wRList (p : By) (at' : Nat) : Nat → List Int
  | 0 => []
  | i + 1 => wRList p at' i ++ [wRNext p at' (wRList p at' i) i]
def oneR (s : S8) (k x : Int) : Int :=
  add32 (add32 (add32 (add32 s.h (xor32 (xor32 (turnI s.e 6) (turnI s.e 11)) (turnI s.e 25))) (xor32 (and32 s.e s.f) (and32 (IntKind.u32.wrap (4294967295 - s.e)) s.g))) k) x
def twoR (s : S8) : Int :=
  add32 (xor32 (xor32 (turnI s.a 2) (turnI s.a 13)) (turnI s.a 22)) (xor32 (xor32 (and32 s.a s.b) (and32 s.a s.c)) (and32 s.b s.c))
def rndR (s : S8) (k x : Int) : S8 := ⟨add32 (oneR s k x) (twoR s), s.a, s.b, s.c, add32 s.d (oneR s k x), s.e, s.f, s.g⟩
def rndsR (w : List Int) (s : S8) : Nat → S8
  | 0 => s
  | i + 1 => rndR (rndsR w s i) (roundsZ.getD i 0) (w.getD i 0)
def blkR (s : S8) (p : By) (at' : Nat) : S8 := addS s (rndsR (wRList p at' 64) s 64)
def s0 : S8 := ⟨1779033703, 3144134277, 1013904242, 2773480762, 1359893119, 2600822924, 528734635, 1541459225⟩
def blksR (p : By) : Nat → S8
  | 0 => s0
  | m + 1 => blkR (blksR p m) p (64 * m)

theorem wRList_len (p : By) (a : Nat) : ∀ i, (wRList p a i).length = i
  | 0 => rfl
  | i + 1 => by simp [wRList,wRList_len p a i]

theorem io_get' {k : IntKind} {l : List Int} {j : Nat} (hj : j < l.length) : (intsOf k l)[j]? = some (.int k (l.getD j 0)) := by
  simp [intsOf,hj,List.getD]
theorem io_set' (k : IntKind) (l : List Int) (j : Nat) (v : Int) : (intsOf k l).set j (.int k v) = intsOf k (l.set j v) := by simp [intsOf,List.map_set]
theorem io_len' (k : IntKind) (l : List Int) : (intsOf k l).length = l.length := by simp [intsOf]
theorem nat_lt_t' {a b : Nat} (h : a < b) : (a < b) = True := eq_true h
theorem set_getD' (l : List Int) (i j : Nat) (v : Int) (hi : i < l.length) : (l.set i v).getD j 0 = if j = i then v else l.getD j 0 := by
  by_cases e : j = i
  · subst e; simp [List.getD,hi]
  · rw [if_neg e]; simp [List.getD,List.getElem?_set_ne (Ne.symm e)]

section
variable {n : Nat} {tot : Bool} {ω : Nat → Nat} {h : Hp}

theorem c85 : call F (n + 1) tot ω 85 [] h = some (.imm 1 (intsOf .u32 roundsZ) .full, h) := by kernel_rfl

theorem w_r53a (p : By) (a i : Nat) (V2 v3 v4 v7 : AV) (hp : a + 4 * i + 4 ≤ p.length) (hpl : p.length ≤ 2000000000) (hn : 5 < n) :
    Wp (kont F n tot ω) n r53a [(2, .var V2), (3, .val v3), (4, .val v4), (5, .val (.str p)), (6, .val (.int .i64 a)), (7, .val v7), (8, .val (.int .i64 i)), (9, .val (.int .u32 0))] h fun e r' h' => e = .normal ∧ h' = h ∧
      r' = [(2, .var V2), (3, .val v3), (4, .val v4), (5, .val (.str p)), (6, .val (.int .i64 a)), (7, .val v7), (8, .val (.int .i64 i)), (9, .val (.int .u32 (wordR p a i 4))), (10, .val (.int .i64 4)), (47, .val (.bool false))] := by
  unfold r53a
  simp (maxSteps := 2000000) (discharger := omega) only [xc,xo,xr,x0,Reg.isA,Reg.isV,Reg.stays,Reg.onto,Bool.or_false,Bool.and_false,↓reduceIte,Nat.reduceEqDiff,Nat.reduceLT,Bool.false_eq_true,Option.map_some,List.any_nil,List.any_cons]
  refine wpi_loop (fun x r g => ∃ (k : Nat), r = [(2, .var V2), (3, .val v3), (4, .val v4), (5, .val (.str p)), (6, .val (.int .i64 a)), (7, .val v7), (8, .val (.int .i64 i)), (9, .val (.int .u32 (wordR p a i k))), (10, .val (.int .i64 k))] ∧ x = 4 - k ∧ k ≤ 4 ∧ g = h) 4 (by omega)
    ⟨0, rfl, rfl, by omega, rfl⟩ ?_
  rintro x r g ⟨k, rfl, rfl, hk, rfl⟩
  by_cases hk4 : k < 4
  · have e1 : ((a : Int) + 4 * (i : Int) + (k : Int)).toNat = a + 4 * i + k := by omega
    have hlt : a + 4 * i + k < p.length := by omega
    have q1 : p[a + 4 * i + k]? = some p[a + 4 * i + k] := List.getElem?_eq_getElem hlt
    have hb : p[a + 4 * i + k].toNat < 256 := p[a + 4 * i + k].toNat_lt
    have e2 : byt p (a + 4 * i + k) = ((p[a + 4 * i + k].toNat : Nat) : Int) := by unfold byt; simp [List.getD,hlt]
    simp (maxSteps := 2000000) (discharger := omega) only [xc,xo,xr,x0,x1,x2,xd,Reg.isA,Reg.isV,Reg.stays,Reg.onto,Bool.or_false,Bool.and_false,↓reduceIte,Nat.reduceEqDiff,Nat.reduceLT,Nat.lt_irrefl,Bool.false_eq_true,Option.map_some,and_true,List.any_nil,List.any_cons,decide_true,wrap_i64,int_lt_t,int_le_t,e1,q1,wrap_u32]
    refine ⟨4 - (k + 1), by omega, k + 1, ?_, rfl, by omega⟩
    rw [show ((k : Nat) : Int) + 1 = ((k + 1 : Nat) : Int) by omega, ← e2]; rfl
  · obtain rfl : k = 4 := by omega
    simp (maxSteps := 2000000) (discharger := omega) only [xc,xo,xr,x0,x1,xd,Reg.isA,Reg.isV,Reg.stays,Reg.onto,Bool.or_false,Bool.and_false,↓reduceIte,Nat.reduceEqDiff,Nat.reduceLT,Bool.false_eq_true,Option.map_some,and_self,List.any_nil,List.any_cons,Int.cast_ofNat_Int,decide_false,int_lt_f,Nat.sub_self]

theorem w_r53b (p : By) (a i lo id : Nat) (W : List Int) (V2 v3 v4 : AV) (hW : W.length = i) (hi : 16 ≤ i) (hi2 : i < 64) (hid : h[id]? = some (.row 1 (intsOf .u32 W))) (hlo : lo ≤ id) (hn : 50 < n) :
    Wp (kont F n tot ω) n r53b [(2, .var V2), (3, .val v3), (4, .val v4), (5, .val (.str p)), (6, .val (.int .i64 a)), (7, .val (.row id 1 0 i false)), (8, .val (.int .i64 i)), (45, .val (.bool false))] h fun e r' h' => e = .normal ∧
      ∃ v', r' = [(2, .var V2), (3, .val v3), (4, .val v4), (5, .val (.str p)), (6, .val (.int .i64 a)), (7, .val v'), (8, .val (.int .i64 i))] ∧ RowEx h' 1 lo (intsOf .u32 (W ++ [wRNext p a W i])) v' ∧ KeepR lo 1 h h' := by
  have hlt := (List.getElem?_eq_some_iff.1 hid).1
  obtain ⟨x, hx⟩ : ∃ x, x = wRNext p a W i := ⟨_, rfl⟩
  have hr : RowEx (h ++ [.row 1 [.int .u32 x]]) 1 lo (intsOf .u32 W) (.row id 1 0 i false) := .inr ⟨id, by rw [io_len', hW], by rw [List.getElem?_append_left hlt]; exact hid, hlo⟩
  obtain ⟨v', h2, w1, w2, w3⟩ := row_appx (bytes := 4) (xs := [.int .u32 x]) hr (by rw [io_len']; simp; omega) (by simp; omega)
  have e2 : ((i : Int) - 2).toNat = i - 2 := by omega
  have e7 : ((i : Int) - 7).toNat = i - 7 := by omega
  have e15 : ((i : Int) - 15).toNat = i - 15 := by omega
  have e16 : ((i : Int) - 16).toNat = i - 16 := by omega
  have k1 := fun x => c87 (n := n) (tot := false) (ω := fun _ => 0) (h := []) x 7 (by omega) (by omega)
  have k2 := fun x => c87 (n := n) (tot := false) (ω := fun _ => 0) (h := []) x 18 (by omega) (by omega)
  have k3 := fun x => c87 (n := n) (tot := false) (ω := fun _ => 0) (h := []) x 17 (by omega) (by omega)
  have k4 := fun x => c87 (n := n) (tot := false) (ω := fun _ => 0) (h := []) x 19 (by omega) (by omega)
  simp only [Int.cast_ofNat_Int] at k1 k2 k3 k4
  have hx' := hx
  unfold wRNext at hx'
  rw [if_neg (by omega)] at hx'
  simp only [add32,xor32,div32] at hx'
  unfold r53b
  simp (maxSteps := 2000000) (discharger := omega) only [xc,xo,xr,x0,x1,x5,xd,xe,xb,kont_pure,selems,srcElems,partEs,placeEs,List.drop_zero,List.take_succ_cons,List.take_nil,Reg.isA,Reg.isV,Reg.stays,Reg.onto,Bool.or_false,Bool.and_false,Bool.and_true,↓reduceIte,Nat.reduceEqDiff,Nat.reduceLT,Nat.zero_add,Nat.lt_irrefl,Nat.zero_lt_succ,Bool.false_eq_true,Option.map_some,and_self,true_and,List.length_cons,List.length_nil,List.any_nil,List.any_cons,List.getElem?_cons_zero,List.set_cons_zero,wrap_i64,int_lt_t,int_le_t,int_eq_f,nat_le_t,e2,e7,e15,e16,k1,k2,k3,k4,hid,io_get',← hx',hg0,w1,List.replicate,List.set_cons_zero]
  refine ⟨v', rfl, ?_, (KeepR.app _).trans w3⟩
  rw [← hx]
  simpa [intsOf] using w2

def R8 (s : S8) : Regs := [(13, .val (.int .u32 s.a)), (14, .val (.int .u32 s.b)), (15, .val (.int .u32 s.c)), (16, .val (.int .u32 s.d)), (17, .val (.int .u32 s.e)), (18, .val (.int .u32 s.f)), (19, .val (.int .u32 s.g)), (20, .val (.int .u32 s.h))]

set_option maxRecDepth 100000 in
set_option maxHeartbeats 1000000 in
theorem w_r53c (p : By) (a id : Nat) (W : List Int) (s : S8) (V2 v3 : AV) (c4 : Cap) (hW : W.length = 64) (hid : h[id]? = some (.row 1 (intsOf .u32 W))) (hn : 70 < n) :
    Wp (kont F n tot ω) n r53c ([(2, .var V2), (3, .val v3), (4, .val (.imm 1 (intsOf .u32 roundsZ) c4)), (5, .val (.str p)), (6, .val (.int .i64 a)), (7, .val (.row id 1 0 64 false))] ++ R8 s) h fun e r' h' => e = .normal ∧ h' = h ∧
      r' = [(2, .var V2), (3, .val v3), (4, .val (.imm 1 (intsOf .u32 roundsZ) c4)), (5, .val (.str p)), (6, .val (.int .i64 a)), (7, .val (.row id 1 0 64 false))] ++ (R8 (rndsR W s 64) ++ [(21, .val (.int .i64 64)), (149, .val (.bool false))]) := by
  have hR : roundsZ.length = 64 := rfl
  have k1 := fun x => c87 (n := n) (tot := false) (ω := fun _ => 0) (h := []) x 6 (by omega) (by omega)
  have k2 := fun x => c87 (n := n) (tot := false) (ω := fun _ => 0) (h := []) x 11 (by omega) (by omega)
  have k3 := fun x => c87 (n := n) (tot := false) (ω := fun _ => 0) (h := []) x 25 (by omega) (by omega)
  have k4 := fun x => c87 (n := n) (tot := false) (ω := fun _ => 0) (h := []) x 2 (by omega) (by omega)
  have k5 := fun x => c87 (n := n) (tot := false) (ω := fun _ => 0) (h := []) x 13 (by omega) (by omega)
  have k6 := fun x => c87 (n := n) (tot := false) (ω := fun _ => 0) (h := []) x 22 (by omega) (by omega)
  simp only [Int.cast_ofNat_Int] at k1 k2 k3 k4 k5 k6
  unfold r53c R8
  simp (maxSteps := 2000000) (discharger := omega) only [xc,xo,xr,x0,List.nil_append,List.cons_append,Reg.isA,Reg.isV,Reg.stays,Reg.onto,Bool.or_false,Bool.and_false,↓reduceIte,Nat.reduceEqDiff,Nat.reduceLT,Bool.false_eq_true,Option.map_some,List.any_nil,List.any_cons]
  refine wpi_loop (fun x r g => ∃ (i : Nat) (t : S8), r = [(2, .var V2), (3, .val v3), (4, .val (.imm 1 (intsOf .u32 roundsZ) c4)), (5, .val (.str p)), (6, .val (.int .i64 a)), (7, .val (.row id 1 0 64 false))] ++ (R8 t ++ [(21, .val (.int .i64 i))]) ∧ x = 64 - i ∧ i ≤ 64 ∧ g = h ∧ t = rndsR W s i) 64 (by omega)
    ⟨0, s, rfl, rfl, by omega, rfl, rfl⟩ ?_
  rintro x r g ⟨i, t, rfl, rfl, hi, rfl, ht⟩
  unfold R8
  by_cases hi2 : i < 64
  · simp (maxSteps := 2000000) (discharger := omega) only [xc,xo,xr,x0,x1,xd,xe,kont_pure,List.nil_append,List.cons_append,Reg.isA,Reg.isV,Reg.stays,Reg.onto,Bool.or_false,Bool.and_false,↓reduceIte,Nat.reduceEqDiff,Nat.reduceLT,Nat.zero_add,Nat.lt_irrefl,Bool.false_eq_true,Option.map_some,and_self,true_and,List.any_nil,List.any_cons,Int.toNat_natCast,Int.cast_ofNat_Int,decide_true,wrap_i64,int_lt_t,int_le_t,k1,k2,k3,k4,k5,k6,hid,io_get']
    refine ⟨64 - (i + 1), by omega, i + 1, rndR t (roundsZ.getD i 0) (W.getD i 0), by rw [show ((i : Nat) : Int) + 1 = ((i + 1 : Nat) : Int) by omega]; rfl, rfl, by omega, by rw [ht]; rfl⟩
  · obtain rfl : i = 64 := by omega
    subst ht
    simp (maxSteps := 2000000) (discharger := omega) only [xc,xo,xr,x0,x1,xd,List.nil_append,List.cons_append,Reg.isA,Reg.isV,Reg.stays,Reg.onto,Bool.or_false,Bool.and_false,↓reduceIte,Nat.reduceEqDiff,Nat.reduceLT,Bool.false_eq_true,Option.map_some,and_self,List.any_nil,List.any_cons,Int.cast_ofNat_Int,decide_false,int_lt_f,Nat.sub_self]

set_option maxHeartbeats 1000000 in
theorem w_r53d (p : By) (a id sid lo : Nat) (s t : S8) (V2 v4 v7 : AV) (hsid : h[sid]? = some (.row 1 (intsOf .u32 s.list))) (hlo : lo ≤ sid) (hn : 20 < n) :
    Wp (kont F n tot ω) n r53d ([(2, .var V2), (3, .val (.row sid 1 0 8 false)), (4, .val v4), (5, .val (.str p)), (6, .val (.int .i64 a)), (7, .val v7)] ++ (R8 t ++ [(21, .val (.int .i64 64)), (149, .val (.bool false))])) h fun e r' h' => e = .normal ∧
      (∃ u v, r' = [(2, .var V2), (3, .val (.row sid 1 0 8 false)), (4, .val v4), (5, .val (.str p)), (6, .val (.int .i64 a)), (24, .val u), (25, .val v), (223, .val (.bool false))]) ∧ h'[sid]? = some (.row 1 (intsOf .u32 (addS s t).list)) ∧ KeepR lo 1 h h' := by
  have hl8 : ∀ t : S8, t.list.length = 8 := fun t => rfl
  have q8 : s.list.length = 8 := rfl
  have q8' : t.list.length = 8 := rfl
  have hlt := (List.getElem?_eq_some_iff.1 hsid).1
  have hT : [AV.int .u32 t.a, AV.int .u32 t.b, AV.int .u32 t.c, AV.int .u32 t.d, AV.int .u32 t.e, AV.int .u32 t.f, AV.int .u32 t.g, AV.int .u32 t.h] = intsOf .u32 t.list := rfl
  unfold r53d R8
  simp (maxSteps := 2000000) (discharger := omega) only [xc,xo,xr,x0,x5,xd,partEs,placeEs,List.nil_append,List.cons_append,Reg.isA,Reg.isV,Reg.stays,Reg.onto,Bool.or_false,Bool.and_false,↓reduceIte,Nat.reduceEqDiff,Nat.reduceLT,Nat.reduceAdd,Nat.zero_add,Nat.zero_lt_succ,Bool.false_eq_true,Option.map_some,and_self,List.length_cons,List.length_nil,List.any_nil,List.any_cons,List.set_cons_zero,List.set_cons_succ,List.replicate,List.set_cons_zero,List.set_cons_succ]
  rw [hT]
  refine wpi_loop (fun x r g => ∃ (i : Nat) (L : List Int), r = [(2, .var V2), (3, .val (.row sid 1 0 8 false)), (4, .val v4), (5, .val (.str p)), (6, .val (.int .i64 a)), (24, .val (.row h.length 1 0 8 false)), (25, .val (.int .i64 i))] ∧ x = 8 - i ∧ i ≤ 8 ∧ L.length = 8 ∧
    (∀ j, L.getD j 0 = if j < i then (addS s t).list.getD j 0 else s.list.getD j 0) ∧ g[sid]? = some (.row 1 (intsOf .u32 L)) ∧ g[h.length]? = some (.row 1 (intsOf .u32 t.list)) ∧ KeepR lo 1 h g) 8 (by omega)
    ⟨0, s.list, rfl, rfl, by omega, rfl, fun j => by rw [if_neg (by omega)], by rw [List.getElem?_append_left hlt]; exact hsid, by simp, .app _⟩ ?_
  rintro x r g ⟨i, L, rfl, rfl, hi, hL, hg, g1, g2, g3⟩
  by_cases hi2 : i < 8
  · have hs1 := (List.getElem?_eq_some_iff.1 g1).1
    have hne : sid ≠ h.length := by omega
    simp (maxSteps := 2000000) (discharger := omega) only [xc,xo,xr,x0,x1,x5,xd,wr,Reg.isA,Reg.isV,Reg.stays,Reg.onto,Bool.or_false,Bool.and_false,↓reduceIte,Nat.reduceEqDiff,Nat.reduceLT,Nat.zero_add,Nat.lt_irrefl,Bool.false_eq_true,Option.map_some,and_self,List.length_cons,List.length_nil,List.any_nil,List.any_cons,Int.toNat_natCast,Int.cast_ofNat_Int,decide_true,xu,wrap_i64,int_lt_t,int_le_t,g1,g2,io_get',io_set']
    refine ⟨8 - (i + 1), by omega, i + 1, L.set i (add32 (L.getD i 0) (t.list.getD i 0)), by rw [show ((i : Nat) : Int) + 1 = ((i + 1 : Nat) : Int) by omega], rfl, by omega, by simpa using hL, fun j => ?_, by rw [get_set_self hs1]; rfl, by rw [get_set_ne hne]; exact g2, g3.trans (.set g1 hlo)⟩
    rw [set_getD' _ _ _ _ (by omega)]
    have h1 := hg i
    rw [if_neg (by omega)] at h1
    by_cases e : j = i
    · rw [if_pos e, if_pos (by omega), e, h1]
      match i, hi2 with
      | 0, _ => rfl
      | 1, _ => rfl
      | 2, _ => rfl
      | 3, _ => rfl
      | 4, _ => rfl
      | 5, _ => rfl
      | 6, _ => rfl
      | 7, _ => rfl
    · rw [if_neg e, hg j]
      by_cases e2 : j < i
      · rw [if_pos e2, if_pos (by omega)]
      · rw [if_neg e2, if_neg (by omega)]
  · obtain rfl : i = 8 := by omega
    have : L = (addS s t).list := by
      apply List.ext_getElem (by rw [hL]; rfl)
      intro j h1 h2
      have := hg j
      rw [if_pos (by omega)] at this
      simpa [List.getD, h1, h2] using this
    subst this
    simp (maxSteps := 2000000) (discharger := omega) only [xc,xo,xr,x0,x1,xd,Reg.isA,Reg.isV,Reg.stays,Reg.onto,Bool.or_false,Bool.and_false,↓reduceIte,Nat.reduceEqDiff,Nat.reduceLT,Bool.false_eq_true,Option.map_some,true_and,List.any_nil,List.any_cons,Int.cast_ofNat_Int,decide_false,int_lt_f,Nat.sub_self]
    exact ⟨⟨_, _, rfl⟩, g1, g3⟩

def divI (x : Int) : Nat → Int
  | 0 => x
  | k + 1 => div32 (divI x k) 256
def byteI (x : Int) (k : Nat) : Int := IntKind.u8.wrap ((divI x k).tmod 256)
def keyI (L : List Int) : List Int := (List.range 32).map fun t => byteI (L.getD (t / 4) 0) (3 - t % 4)
def Z32R : List Int := List.replicate 32 0

theorem keyI_get (L : List Int) (t : Nat) (ht : t < 32) : (keyI L).getD t 0 = byteI (L.getD (t / 4) 0) (3 - t % 4) := by
  simp [keyI,List.getD,ht]
theorem keyI_len (L : List Int) : (keyI L).length = 32 := by simp [keyI]

set_option maxRecDepth 100000 in
theorem w_r53e (sid : Nat) (L : List Int) (hL : L.length = 8) (hsid : h[sid]? = some (.row 1 (intsOf .u32 L))) (Vz : AV) (hVz : Vz = .agg (intsOf .u8 Z32R)) (v4 v5 v6 v37 : AV) (hn : 40 < n) :
    Wp (kont F n tot ω) n r53e [(2, .var Vz), (3, .val (.row sid 1 0 8 false)), (4, .val v4), (5, .val v5), (6, .val v6), (37, .val v37)] h (Ret [ARes.cell 2 true 32] fun v h2 => v = .agg (intsOf .u8 (keyI L)) ∧ h2 = h) := by
  have z32 : (AV.agg [AV.int .u8 0, AV.int .u8 0, AV.int .u8 0, AV.int .u8 0, AV.int .u8 0, AV.int .u8 0, AV.int .u8 0, AV.int .u8 0, AV.int .u8 0, AV.int .u8 0, AV.int .u8 0, AV.int .u8 0, AV.int .u8 0, AV.int .u8 0, AV.int .u8 0, AV.int .u8 0, AV.int .u8 0, AV.int .u8 0, AV.int .u8 0, AV.int .u8 0, AV.int .u8 0, AV.int .u8 0, AV.int .u8 0, AV.int .u8 0, AV.int .u8 0, AV.int .u8 0, AV.int .u8 0, AV.int .u8 0, AV.int .u8 0, AV.int .u8 0, AV.int .u8 0, AV.int .u8 0] : AV) = .agg (intsOf .u8 Z32R) := rfl
  have hz : Z32R.length = 32 := rfl
  subst hVz
  unfold r53e
  rw [z32]
  simp (maxSteps := 2000000) (discharger := omega) only [xc,xo,xr,x0,Reg.isA,Reg.isV,Reg.stays,Reg.onto,Bool.or_false,Bool.and_false,Bool.or_true,↓reduceIte,Nat.reduceEqDiff,Nat.reduceLT,Bool.false_eq_true,Option.map_some,List.any_nil,List.any_cons]
  refine wpi_loop (fun x r g => ∃ (i : Nat) (K : List Int), r = [(2, .var (.agg (intsOf .u8 Z32R))), (3, .val (.row sid 1 0 8 false)), (26, .var (.agg (intsOf .u8 K))), (27, .val (.int .i64 i))] ∧ x = 8 - i ∧ i ≤ 8 ∧ g = h ∧ K.length = 32 ∧ ∀ t, t < 4 * i → K.getD t 0 = (keyI L).getD t 0) 8 (by omega)
    ⟨0, Z32R, rfl, rfl, by omega, rfl, rfl, fun t ht => by omega⟩ ?_
  rintro x r g ⟨i, K, rfl, rfl, hi, rfl, hK, hg⟩
  by_cases hi2 : i < 8
  · simp (maxSteps := 2000000) (discharger := omega) only [xc,xo,xr,x0,x1,xd,Reg.isA,Reg.isV,Reg.stays,Reg.onto,Bool.or_false,Bool.and_false,↓reduceIte,Nat.reduceEqDiff,Nat.reduceLT,Nat.zero_add,Bool.false_eq_true,Option.map_some,and_self,List.any_nil,List.any_cons,Int.toNat_natCast,Int.cast_ofNat_Int,decide_true,int_lt_t,int_le_t,hsid,io_get']
    refine wpi_loop (fun x r g2 => ∃ (q : Nat) (K2 : List Int), r = [(2, .var (.agg (intsOf .u8 Z32R))), (3, .val (.row sid 1 0 8 false)), (26, .var (.agg (intsOf .u8 K2))), (27, .val (.int .i64 i)), (28, .val (.int .u32 (divI (L.getD i 0) q))), (29, .val (.int .i64 (3 - (q : Int))))] ∧ x = 4 - q ∧ q ≤ 4 ∧ g2 = g ∧ K2.length = 32 ∧
      (∀ t, t < 4 * i → K2.getD t 0 = (keyI L).getD t 0) ∧ ∀ t, 4 * i + 4 - q ≤ t → t < 4 * i + 4 → K2.getD t 0 = (keyI L).getD t 0) 4 (by omega)
      ⟨0, K, rfl, rfl, by omega, rfl, hK, hg, fun t h1 h2 => by omega⟩ ?_
    rintro x r g2 ⟨q, K2, rfl, rfl, hq, rfl, hK2, hg2, hg3⟩
    by_cases hq4 : q < 4
    · have e1 : (4 * (i : Int) + (3 - (q : Int))).toNat = 4 * i + 3 - q := by omega
      simp (maxSteps := 2000000) (discharger := omega) only [xc,xo,xr,x0,x1,x2,x5,xd,xe,wr,Reg.isA,Reg.isV,Reg.stays,Reg.onto,Bool.or_false,Bool.and_false,↓reduceIte,Nat.reduceEqDiff,Nat.reduceLT,Nat.zero_add,Nat.lt_irrefl,Bool.false_eq_true,Option.map_some,and_self,true_and,List.length_cons,List.length_nil,List.any_nil,List.any_cons,Int.cast_ofNat_Int,decide_true,xu,wrap_i64,int_lt_t,int_le_t,int_eq_f,e1,io_set',hK2,nat_lt_t',Nat.mul_one]
      refine ⟨4 - (q + 1), by omega, q + 1, K2.set (4 * i + 3 - q) (byteI (L.getD i 0) q), ?_, rfl, by omega, by simpa using hK2, fun t ht => ?_, fun t h1 h2 => ?_⟩
      · rw [show 3 - ((q : Nat) : Int) - 1 = 3 - ((q + 1 : Nat) : Int) by omega]; rfl
      · rw [set_getD' _ _ _ _ (by omega), if_neg (by omega)]; exact hg2 t ht
      · rw [set_getD' _ _ _ _ (by omega)]
        by_cases e : t = 4 * i + 3 - q
        · rw [if_pos e, keyI_get _ _ (by omega)]
          rw [show t / 4 = i by omega, show 3 - t % 4 = q by omega]
        · rw [if_neg e]; exact hg3 t (by omega) h2
    · obtain rfl : q = 4 := by omega
      simp (maxSteps := 2000000) (discharger := omega) only [xc,xo,xr,x0,x1,xd,Reg.isA,Reg.isV,Reg.stays,Reg.onto,Bool.or_false,Bool.and_false,↓reduceIte,Nat.reduceEqDiff,Nat.reduceLT,Nat.lt_irrefl,Bool.false_eq_true,Option.map_some,true_and,List.any_nil,List.any_cons,Int.cast_ofNat_Int,Int.reduceNeg,Int.reduceSub,decide_false,wrap_i64,int_le_f,Nat.sub_self]
      refine ⟨8 - (i + 1), by omega, i + 1, K2, by rw [show ((i : Nat) : Int) + 1 = ((i + 1 : Nat) : Int) by omega], rfl, by omega, hK2, fun t ht => ?_⟩
      by_cases e : t < 4 * i
      · exact hg2 t e
      · exact hg3 t (by omega) (by omega)
  · obtain rfl : i = 8 := by omega
    have : K = keyI L := by
      apply List.ext_getElem (by rw [hK, keyI_len])
      intro j h1 h2
      have := hg j (by omega)
      simpa [List.getD, h1, h2] using this
    subst this
    have ht : (intsOf .u8 (keyI L)).take 32 = intsOf .u8 (keyI L) := List.take_of_length_le (by rw [io_len', keyI_len]; exact Nat.le_refl _)
    have hd : List.drop 32 (intsOf .u8 Z32R) = [] := rfl
    simp (maxSteps := 2000000) (discharger := omega) only [xc,xo,xr,x0,x1,x5,xd,xe,wr,List.drop_zero,List.nil_append,List.append_nil,List.take_zero,Reg.isA,Reg.isV,Reg.stays,Reg.onto,Bool.or_false,Bool.and_false,↓reduceIte,Nat.reduceEqDiff,Nat.reduceLT,Nat.zero_add,Nat.lt_irrefl,Bool.false_eq_true,Option.map_some,and_self,and_true,List.any_nil,List.any_cons,Int.cast_ofNat_Int,Option.some.injEq,exists_eq_left',decide_false,xu,int_lt_f,nat_le_t,Nat.sub_self,keyI_len,ht,hd,hz]
end
end Go.Proofs.YtcnbllelfinlmaaDoor.Im

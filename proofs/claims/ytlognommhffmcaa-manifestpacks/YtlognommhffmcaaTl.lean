/- Joined: S13Ue, S13Tl. -/
import Derived.Test.YtlognommhffmcaaRrd
/- S13Ue: one edit read. -/
set_option linter.unusedVariables false
set_option linter.unusedSimpArgs false
open Go Go.Im
namespace Go.Proofs.Ytlognommhffmcaa.Im

theorem w_regionA2 {K : Kont} {n : Nat} {r : Regs} {h : Hp} {Q : AE → Regs → Hp → Prop} (o1 o2 : List Nat) (ops : List AOper) (ks : List Nat) :
    Wp K n (.regionA [o1, o2] ops ks) r h Q = Wo K (inOrd ops o1) r h (fun r' h' => Wo K (inOrd ops o2) r h (Is r' h') ∧ Settle ks Q r' h') := by
  apply propext
  constructor
  · rintro ⟨e, r', h', h1, h2⟩
    simp only [exec, execA] at h1
    split at h1
    · rename_i r2 h3 e1
      split at e1
      · rename_i a1 b1 a2 b2 e2 e3
        split at e1
        · rename_i e4
          simp only [Bool.and_eq_true] at e4
          have e5 := (eqRegs_iff _ _).1 e4.1
          have e6 := (eqHp_iff _ _).1 e4.2
          subst e5 e6
          cases e1; cases h1
          exact ⟨_, _, e2, ⟨_, _, e3, rfl, rfl⟩, h2⟩
        · cases e1
      · cases e1
    · cases h1
  · rintro ⟨r', h', h1, ⟨_, _, h2, rfl, rfl⟩, h3⟩
    exact wpi_regionA2 h1 h2 h3

/-- What is read, and what is left. -/
inductive QR (α : Type) where
  | err (e : Int) | ok (v : α) (rest : List UInt8)

/-- An edit whose numbers are read: the texts. -/
def finE (k f l c : Int) (s : List UInt8) : QR Ed :=
  if k = 1 then (match rdT s with
    | .err e => .err e
    | .ok lo m => match rdT (s.drop m) with
      | .err e => .err e
      | .ok hi m' => .ok ⟨k, f, l, c, lo, hi⟩ ((s.drop m).drop m'))
  else .ok ⟨k, f, l, c, [], []⟩ s
def go3 (k f l c : Int) (s : List UInt8) : QR Ed := if k = 1 then (match rdW s with
  | .err e => .err e
  | .ok v m => finE k f l v (s.drop m)) else finE k f l c s
def go2 (k f l c : Int) (s : List UInt8) : QR Ed := if k = 1 ∨ k = 3 then (match rdW s with
  | .err e => .err e
  | .ok v m => go3 k f v c (s.drop m)) else finE k f l c s
def go1 (k f l c : Int) (s : List UInt8) : QR Ed := match rdW s with
  | .err e => .err e
  | .ok v m => go2 k v l c (s.drop m)
def go0 (k f l c : Int) (s : List UInt8) : QR Ed := match rdW s with
  | .err e => .err e
  | .ok v m => go1 v f l c (s.drop m)
def goE : Nat → Int → Int → Int → Int → List UInt8 → QR Ed
  | 0 => go0 | 1 => go1 | 2 => go2 | 3 => go3 | _ => finE
def rdE (s : List UInt8) : QR Ed := go0 0 0 0 0 s

theorem rdW_e23 {s : List UInt8} {e : Int} (h : rdW s = .err e) : e = 2 ∨ e = 3 := dec_err (rdW_err h)
theorem rdT_e23 {s : List UInt8} {e : Int} (h : rdT s = .err e) : e = 2 ∨ e = 3 := by
  unfold rdT at h
  split at h
  · rename_i hc; cases h
    rcases rdC_err hc with ⟨_, h⟩ | ⟨h, _⟩
    · exact h
    · exact .inr h
  · split at h
    · cases h; exact .inl rfl
    · cases h

/-- All that was there stays, but the entry id. -/
def same (id : Nat) (h h' : Hp) : Prop := h.length ≤ h'.length ∧ ∀ j, j < h.length → j ≠ id → h'[j]? = h[j]?

/-- Where the numbers of an edit are laid, at its number i. -/
def pts (x i : Nat) (k : Int) : List AV :=
  if i < 2 then [.ptr x 6 0 0, .ptr x 6 0 1] else if k = 1 then [.ptr x 6 0 0, .ptr x 6 0 1, .ptr x 6 0 2, .ptr x 6 0 3] else if k = 3 then [.ptr x 6 0 0, .ptr x 6 0 1, .ptr x 6 0 2] else [.ptr x 6 0 0, .ptr x 6 0 1]

def zeroE : Ed := ⟨0, 0, 0, 0, [], []⟩

/-- What it comes to. -/
def UeP (id : Nat) (h : Hp) (q : QR Ed) (v : AV) (h' : Hp) : Prop := match q with
  | .err e => v = .tup [edOf zeroE, .int .i64 e] ∧ same id h h' ∧ ∃ s, h'[id]? = some (Rr s)
  | .ok x rest => v = .tup [edOf x, .int .i64 0] ∧ same id h h' ∧ h'[id]? = some (Rr rest)

theorem ue_next {id x : Nat} {h g : Hp} {t t' : List UInt8} {o o' : AO} (h1 : g[id]? = some (Rr t)) (h2 : g[x]? = some o) (hne : x ≠ id) (h4 : same id h g) (hx : h.length ≤ x) :
    ((g.set id (Rr t')).set x o')[id]? = some (Rr t') ∧ ((g.set id (Rr t')).set x o')[x]? = some o' ∧ same id h ((g.set id (Rr t')).set x o') ∧ (g.set id (Rr t'))[x]? = some o := by
  have l1 := (List.getElem?_eq_some_iff.1 h1).1
  have l2 := (List.getElem?_eq_some_iff.1 h2).1
  refine ⟨by rw [List.getElem?_set_ne hne]; simp [l1], by simp [l2], ⟨by simpa using h4.1, fun j hj hji => ?_⟩, by rw [List.getElem?_set_ne (Ne.symm hne)]; exact h2⟩
  rw [List.getElem?_set_ne (by omega), List.getElem?_set_ne (Ne.symm hji)]
  exact h4.2 j hj hji

theorem ue_err {id x : Nat} {h g : Hp} {t : List UInt8} {o' : AO} (h1 : g[id]? = some (Rr t)) (hne : x ≠ id) (h4 : same id h g) (hx : h.length ≤ x) :
    same id h (g.set x o') ∧ ∃ s, (g.set x o')[id]? = some (Rr s) := by
  refine ⟨⟨by simpa using h4.1, fun j hj hji => ?_⟩, t, by rw [List.getElem?_set_ne hne]; exact h1⟩
  rw [List.getElem?_set_ne (by omega)]
  exact h4.2 j hj hji

/-- The heap has grown. -/
def Kp (g g' : Hp) : Prop := g.length ≤ g'.length ∧ ∀ j, j < g.length → g'[j]? = g[j]?
theorem kp_app (g l : Hp) : Kp g (g ++ l) := ⟨by simp, fun j hj => by rw [List.getElem?_append_left hj]⟩
theorem kp_app2 (g : Hp) (a b c : AO) : Kp g ((g ++ [a]).set g.length b ++ [c]) := ⟨by simp, fun j hj => by
  rw [List.getElem?_append_left (by simp; omega), List.getElem?_set_ne (by omega), List.getElem?_append_left hj]⟩
theorem Kp.get {g g' : Hp} (hk : Kp g g') {j : Nat} {o : AO} (h : g[j]? = some o) : g'[j]? = some o := by
  rw [hk.2 j (List.getElem?_eq_some_iff.1 h).1]; exact h
theorem Kp.same {id : Nat} {h g g' : Hp} (hk : Kp g g') (hs : same id h g) : same id h g' := ⟨Nat.le_trans hs.1 hk.1, fun j hj hi => by
  rw [hk.2 j (Nat.lt_of_lt_of_le hj hs.1)]; exact hs.2 j hj hi⟩

set_option maxHeartbeats 4000000 in
theorem c29 {tot : Bool} {ω : Nat → Nat} {n : Nat} (id : Nat) (s : List UInt8) (h : Hp) (hid : h[id]? = some (Rr s)) (hs : s.length ≤ 1000000000000) (hn : s.length + 12 < n) :
    ∃ v h', call F n tot ω 29 [.ptr id 1 0 0] h = some (v, h') ∧ UeP id h (rdE s) v h' := by
  obtain ⟨n, rfl⟩ : ∃ m, n = m + 1 := ⟨n - 1, by omega⟩
  refine call_of (fn := a29) f29 (P := UeP id h (rdE s)) ?_
  unfold a29
  have hlt := (List.getElem?_eq_some_iff.1 hid).1
  simp (maxSteps := 2000000) (discharger := omega) only [xc, xo, xr, x0, x1, x2, x3, x4, x5, x6, xd, xe, xb, kont_call, kont_pure, isNil, slOk, sliceV, selems, srcElems, copyTo, dlen, eqAV, eqCells, eqS, upd, wr, place, partVals, partEs, placeEs, mapOf, keyOk, keyCells, findK, Bool.bne_false, Bool.bne_true, List.drop_zero, List.nil_append, List.append_nil, List.take_zero, List.cons_append, List.take_succ_cons, List.drop_succ_cons, List.take_nil, List.drop_nil, Reg.isA, Reg.isV, Reg.stays, Reg.onto, Bool.false_or, Bool.or_false, Bool.false_and, Bool.and_false, Bool.true_and, Bool.and_true, Bool.or_true, Bool.true_or, ↓reduceIte, reduceCtorEq, Nat.reduceEqDiff, Nat.reduceLT, Nat.reduceAdd, Nat.reduceMul, Nat.add_zero, Nat.zero_add, Nat.not_lt_zero, Nat.zero_ne_one, Nat.one_ne_zero, Nat.reduceLeDiff, Nat.lt_irrefl, Nat.zero_lt_succ, Bool.false_eq_true, Bool.not_true, Bool.not_false, Option.map_some, Option.map_none, Option.bind_some, Option.getD_some, Option.getD_none, and_self, and_true, true_and, List.length_cons, List.length_nil, List.any_nil, List.any_cons, Int.toNat_natCast, Int.cast_ofNat_Int, Int.natCast_zero, Int.natCast_nonneg, true_implies, or_true, true_or, false_or, or_false, beq_self_eq_true, Option.some.injEq, exists_eq_left', Int.reduceEq, Int.reduceLT, Int.reduceLE, Int.reduceGT, Int.reduceGE, Nat.reduceGT, Int.reduceNeg, Int.reduceToNat, Int.reduceAdd, Int.reduceMul, Int.reduceSub, Int.reducePow, decide_true, decide_false, decide_eq_true_eq, List.getElem?_cons_zero, List.getElem?_cons_succ, Nat.reduceBEq, Nat.reduceSub, exists_false, and_false, false_and, wrap_i64, List.replicate_succ, List.replicate_zero, List.set_cons_zero, List.set_cons_succ]
  have hrd : rdE s = goE 0 0 0 0 0 s := rfl
  rw [hrd]
  generalize hE : goE 0 0 0 0 0 s = R
  refine wpi_loop (fun j r g => ∃ (i : Nat) (nv : AV) (kd f l c : Int) (t : List UInt8), r = [(0, .val (.ptr id 1 0 0)), (2, .var (edOf zeroE)), (4, .val (.ptr h.length 6 0 0)), (5, .val nv), (7, .val (.int .i64 i))] ∧ i + j = 4 ∧
    g[id]? = some (Rr t) ∧ g[h.length]? = some (.row 6 [edOf ⟨kd, f, l, c, [], []⟩]) ∧ (∃ c0, nv = .imm 1 (pts h.length i kd) c0 ∧ (i < 2 → c0 = .full)) ∧ same id h g ∧ t.length ≤ s.length ∧ goE i kd f l c t = R) 4 (by omega) ⟨0, _, 0, 0, 0, 0, s, rfl, rfl, ?_, ?_, ?_, ?_, by omega, ?_⟩ ?_
  · rw [List.getElem?_append_left hlt]; exact hid
  · simp; rfl
  · exact ⟨_, rfl, fun _ => rfl⟩
  · refine ⟨by simp, fun j hj _ => by rw [List.getElem?_append_left hj]⟩
  · exact hE
  clear hE
  rintro j r g ⟨i, nv, kd, f, l, c, t, rfl, hij, h1, h2, ⟨c0, rfl, hc0⟩, h4, h5, h6⟩
  have hne : h.length ≠ id := by omega
  match i, hij with
  | 0, hij =>
    obtain rfl := hc0 (by omega)
    have hp : pts h.length 0 kd = [.ptr h.length 6 0 0, .ptr h.length 6 0 1] := rfl
    rw [hp]
    cases hr : rdW t with
    | err e =>
      have r1 := c30e (tot := tot) (ω := ω) (n := n) id t g h1 (by omega) (by omega) hr
      have he : (e != 0) = true := by rcases rdW_e23 hr with rfl | rfl <;> rfl
      have h6' : R = .err e := by rw [← h6]; simp only [goE, go0, hr]
      unfold edOf at h2
      have hu := ue_err (o' := .row 6 [.agg [.int .i64 0, .int .i64 f, .int .i64 l, .int .i64 c, .str [], .str []]]) h1 hne h4 (Nat.le_refl _)
      simp (maxSteps := 2000000) (discharger := omega) only [xc, xo, xr, x0, x1, x2, x3, x4, x5, x6, xd, xe, xb, kont_call, kont_pure, isNil, slOk, sliceV, selems, srcElems, copyTo, dlen, eqAV, eqCells, eqS, upd, wr, place, partVals, partEs, placeEs, mapOf, keyOk, keyCells, findK, Bool.bne_false, Bool.bne_true, List.drop_zero, List.nil_append, List.append_nil, List.take_zero, List.cons_append, List.take_succ_cons, List.drop_succ_cons, List.take_nil, List.drop_nil, Reg.isA, Reg.isV, Reg.stays, Reg.onto, Bool.false_or, Bool.or_false, Bool.false_and, Bool.and_false, Bool.true_and, Bool.and_true, Bool.or_true, Bool.true_or, ↓reduceIte, reduceCtorEq, Nat.reduceEqDiff, Nat.reduceLT, Nat.reduceAdd, Nat.reduceMul, Nat.add_zero, Nat.zero_add, Nat.not_lt_zero, Nat.zero_ne_one, Nat.one_ne_zero, Nat.reduceLeDiff, Nat.lt_irrefl, Nat.zero_lt_succ, Bool.false_eq_true, Bool.not_true, Bool.not_false, Option.map_some, Option.map_none, Option.bind_some, Option.getD_some, Option.getD_none, and_self, and_true, true_and, List.length_cons, List.length_nil, List.any_nil, List.any_cons, Int.toNat_natCast, Int.cast_ofNat_Int, Int.natCast_zero, Int.natCast_nonneg, true_implies, or_true, true_or, false_or, or_false, beq_self_eq_true, Option.some.injEq, exists_eq_left', Int.reduceEq, Int.reduceLT, Int.reduceLE, Int.reduceGT, Int.reduceGE, Nat.reduceGT, Int.reduceNeg, Int.reduceToNat, Int.reduceAdd, Int.reduceMul, Int.reduceSub, Int.reducePow, decide_true, decide_false, decide_eq_true_eq, List.getElem?_cons_zero, List.getElem?_cons_succ, Nat.reduceBEq, Nat.reduceSub, exists_false, and_false, false_and, wrap_i64, lenSl, edOf, zeroE, w_regionA2, inOrd, List.filterMap_cons, List.filterMap_nil, r1, h2, List.set_cons_zero, List.set_cons_succ, Is, he]
      rw [h6']
      exact ⟨rfl, hu⟩
    | ok v m =>
      have r1 := c30o (tot := tot) (ω := ω) (n := n) id t g h1 (by omega) (by omega) hr
      have he : ((0 : Int) != 0) = false := rfl
      have h6' : go1 v f l c (t.drop m) = R := by rw [← h6]; simp only [goE, go0, hr]
      obtain ⟨u1, u2, u3, u4⟩ := ue_next (t' := t.drop m) (o' := .row 6 [edOf ⟨v, f, l, c, [], []⟩]) h1 h2 hne h4 (Nat.le_refl _)
      unfold edOf at h2 u4
      simp (maxSteps := 2000000) (discharger := omega) only [xc, xo, xr, x0, x1, x2, x3, x4, x5, x6, xd, xe, xb, kont_call, kont_pure, isNil, slOk, sliceV, selems, srcElems, copyTo, dlen, eqAV, eqCells, eqS, upd, wr, place, partVals, partEs, placeEs, mapOf, keyOk, keyCells, findK, Bool.bne_false, Bool.bne_true, List.drop_zero, List.nil_append, List.append_nil, List.take_zero, List.cons_append, List.take_succ_cons, List.drop_succ_cons, List.take_nil, List.drop_nil, Reg.isA, Reg.isV, Reg.stays, Reg.onto, Bool.false_or, Bool.or_false, Bool.false_and, Bool.and_false, Bool.true_and, Bool.and_true, Bool.or_true, Bool.true_or, ↓reduceIte, reduceCtorEq, Nat.reduceEqDiff, Nat.reduceLT, Nat.reduceAdd, Nat.reduceMul, Nat.add_zero, Nat.zero_add, Nat.not_lt_zero, Nat.zero_ne_one, Nat.one_ne_zero, Nat.reduceLeDiff, Nat.lt_irrefl, Nat.zero_lt_succ, Bool.false_eq_true, Bool.not_true, Bool.not_false, Option.map_some, Option.map_none, Option.bind_some, Option.getD_some, Option.getD_none, and_self, and_true, true_and, List.length_cons, List.length_nil, List.any_nil, List.any_cons, Int.toNat_natCast, Int.cast_ofNat_Int, Int.natCast_zero, Int.natCast_nonneg, true_implies, or_true, true_or, false_or, or_false, beq_self_eq_true, Option.some.injEq, exists_eq_left', Int.reduceEq, Int.reduceLT, Int.reduceLE, Int.reduceGT, Int.reduceGE, Nat.reduceGT, Int.reduceNeg, Int.reduceToNat, Int.reduceAdd, Int.reduceMul, Int.reduceSub, Int.reducePow, decide_true, decide_false, decide_eq_true_eq, List.getElem?_cons_zero, List.getElem?_cons_succ, Nat.reduceBEq, Nat.reduceSub, exists_false, and_false, false_and, wrap_i64, lenSl, edOf, zeroE, w_regionA2, inOrd, List.filterMap_cons, List.filterMap_nil, r1, h2, u4, List.set_cons_zero, List.set_cons_succ, Is, he, show ((0 : Int) == 1) = false from rfl]
      exact ⟨j - 1, by omega, 1, _, v, f, l, c, t.drop m, rfl, by omega, u1, u2, ⟨_, rfl, fun _ => rfl⟩, u3, by simp; omega, h6'⟩
  | 1, hij =>
    obtain rfl := hc0 (by omega)
    have hp : pts h.length 1 kd = [.ptr h.length 6 0 0, .ptr h.length 6 0 1] := rfl
    rw [hp]
    cases hr : rdW t with
    | err e =>
      have r1 := c30e (tot := tot) (ω := ω) (n := n) id t g h1 (by omega) (by omega) hr
      have he : (e != 0) = true := by rcases rdW_e23 hr with rfl | rfl <;> rfl
      have h6' : R = .err e := by rw [← h6]; simp only [goE, go1, hr]
      unfold edOf at h2
      have hu := ue_err (o' := .row 6 [.agg [.int .i64 kd, .int .i64 0, .int .i64 l, .int .i64 c, .str [], .str []]]) h1 hne h4 (Nat.le_refl _)
      simp (maxSteps := 2000000) (discharger := omega) only [xc, xo, xr, x0, x1, x2, x3, x4, x5, x6, xd, xe, xb, kont_call, kont_pure, isNil, slOk, sliceV, selems, srcElems, copyTo, dlen, eqAV, eqCells, eqS, upd, wr, place, partVals, partEs, placeEs, mapOf, keyOk, keyCells, findK, Bool.bne_false, Bool.bne_true, List.drop_zero, List.nil_append, List.append_nil, List.take_zero, List.cons_append, List.take_succ_cons, List.drop_succ_cons, List.take_nil, List.drop_nil, Reg.isA, Reg.isV, Reg.stays, Reg.onto, Bool.false_or, Bool.or_false, Bool.false_and, Bool.and_false, Bool.true_and, Bool.and_true, Bool.or_true, Bool.true_or, ↓reduceIte, reduceCtorEq, Nat.reduceEqDiff, Nat.reduceLT, Nat.reduceAdd, Nat.reduceMul, Nat.add_zero, Nat.zero_add, Nat.not_lt_zero, Nat.zero_ne_one, Nat.one_ne_zero, Nat.reduceLeDiff, Nat.lt_irrefl, Nat.zero_lt_succ, Bool.false_eq_true, Bool.not_true, Bool.not_false, Option.map_some, Option.map_none, Option.bind_some, Option.getD_some, Option.getD_none, and_self, and_true, true_and, List.length_cons, List.length_nil, List.any_nil, List.any_cons, Int.toNat_natCast, Int.cast_ofNat_Int, Int.natCast_zero, Int.natCast_nonneg, true_implies, or_true, true_or, false_or, or_false, beq_self_eq_true, Option.some.injEq, exists_eq_left', Int.reduceEq, Int.reduceLT, Int.reduceLE, Int.reduceGT, Int.reduceGE, Nat.reduceGT, Int.reduceNeg, Int.reduceToNat, Int.reduceAdd, Int.reduceMul, Int.reduceSub, Int.reducePow, decide_true, decide_false, decide_eq_true_eq, List.getElem?_cons_zero, List.getElem?_cons_succ, Nat.reduceBEq, Nat.reduceSub, exists_false, and_false, false_and, wrap_i64, lenSl, edOf, zeroE, w_regionA2, inOrd, List.filterMap_cons, List.filterMap_nil, r1, h2, List.set_cons_zero, List.set_cons_succ, Is, he]
      rw [h6']
      exact ⟨rfl, hu⟩
    | ok v m =>
      have r1 := c30o (tot := tot) (ω := ω) (n := n) id t g h1 (by omega) (by omega) hr
      have he : ((0 : Int) != 0) = false := rfl
      have h6' : go2 kd v l c (t.drop m) = R := by rw [← h6]; simp only [goE, go1, hr]
      obtain ⟨u1, u2, u3, u4⟩ := ue_next (t' := t.drop m) (o' := .row 6 [edOf ⟨kd, v, l, c, [], []⟩]) h1 h2 hne h4 (Nat.le_refl _)
      have u5 := u2
      unfold edOf at h2 u4 u5
      by_cases k1 : kd = 1
      · subst k1
        have q1 : ((1 : Int) == 1) = true := rfl
        dsimp only at u5
        have u6 := (kp_app _ [AO.tail 1 3]).get u5
        simp (maxSteps := 2000000) (discharger := omega) only [xc, xo, xr, x0, x1, x2, x3, x4, x5, x6, xd, xe, xb, kont_call, kont_pure, isNil, slOk, sliceV, selems, srcElems, copyTo, dlen, eqAV, eqCells, eqS, upd, wr, place, partVals, partEs, placeEs, mapOf, keyOk, keyCells, findK, Bool.bne_false, Bool.bne_true, List.drop_zero, List.nil_append, List.append_nil, List.take_zero, List.cons_append, List.take_succ_cons, List.drop_succ_cons, List.take_nil, List.drop_nil, Reg.isA, Reg.isV, Reg.stays, Reg.onto, Bool.false_or, Bool.or_false, Bool.false_and, Bool.and_false, Bool.true_and, Bool.and_true, Bool.or_true, Bool.true_or, ↓reduceIte, reduceCtorEq, Nat.reduceEqDiff, Nat.reduceLT, Nat.reduceAdd, Nat.reduceMul, Nat.add_zero, Nat.zero_add, Nat.not_lt_zero, Nat.zero_ne_one, Nat.one_ne_zero, Nat.reduceLeDiff, Nat.lt_irrefl, Nat.zero_lt_succ, Bool.false_eq_true, Bool.not_true, Bool.not_false, Option.map_some, Option.map_none, Option.bind_some, Option.getD_some, Option.getD_none, and_self, and_true, true_and, List.length_cons, List.length_nil, List.any_nil, List.any_cons, Int.toNat_natCast, Int.cast_ofNat_Int, Int.natCast_zero, Int.natCast_nonneg, true_implies, or_true, true_or, false_or, or_false, beq_self_eq_true, Option.some.injEq, exists_eq_left', Int.reduceEq, Int.reduceLT, Int.reduceLE, Int.reduceGT, Int.reduceGE, Nat.reduceGT, Int.reduceNeg, Int.reduceToNat, Int.reduceAdd, Int.reduceMul, Int.reduceSub, Int.reducePow, decide_true, decide_false, decide_eq_true_eq, List.getElem?_cons_zero, List.getElem?_cons_succ, Nat.reduceBEq, Nat.reduceSub, exists_false, and_false, false_and, wrap_i64, lenSl, edOf, zeroE, w_regionA2, inOrd, List.filterMap_cons, List.filterMap_nil, r1, h2, u4, u5, List.set_cons_zero, List.set_cons_succ, Is, he, q1, List.replicate_succ, List.replicate_zero, appendV, Im.newRow, ↓reduceCtorEq, u6, List.getElem?_concat_length]
        exact ⟨j - 1, by omega, 2, _, 1, v, l, c, t.drop m, rfl, by omega, (kp_app2 _ _ _ _).get u1, (kp_app2 _ _ _ _).get u2, ⟨_, rfl, fun h => absurd h (by omega)⟩, (kp_app2 _ _ _ _).same u3, by simp; omega, h6'⟩
      · have q1 : (kd == 1) = false := by simp [k1]
        by_cases k3 : kd = 3
        · subst k3
          have q3 : ((3 : Int) == 3) = true := rfl
          dsimp only at u5
          have u6 := (kp_app _ [AO.tail 1 3]).get u5
          simp (maxSteps := 2000000) (discharger := omega) only [xc, xo, xr, x0, x1, x2, x3, x4, x5, x6, xd, xe, xb, kont_call, kont_pure, isNil, slOk, sliceV, selems, srcElems, copyTo, dlen, eqAV, eqCells, eqS, upd, wr, place, partVals, partEs, placeEs, mapOf, keyOk, keyCells, findK, Bool.bne_false, Bool.bne_true, List.drop_zero, List.nil_append, List.append_nil, List.take_zero, List.cons_append, List.take_succ_cons, List.drop_succ_cons, List.take_nil, List.drop_nil, Reg.isA, Reg.isV, Reg.stays, Reg.onto, Bool.false_or, Bool.or_false, Bool.false_and, Bool.and_false, Bool.true_and, Bool.and_true, Bool.or_true, Bool.true_or, ↓reduceIte, reduceCtorEq, Nat.reduceEqDiff, Nat.reduceLT, Nat.reduceAdd, Nat.reduceMul, Nat.add_zero, Nat.zero_add, Nat.not_lt_zero, Nat.zero_ne_one, Nat.one_ne_zero, Nat.reduceLeDiff, Nat.lt_irrefl, Nat.zero_lt_succ, Bool.false_eq_true, Bool.not_true, Bool.not_false, Option.map_some, Option.map_none, Option.bind_some, Option.getD_some, Option.getD_none, and_self, and_true, true_and, List.length_cons, List.length_nil, List.any_nil, List.any_cons, Int.toNat_natCast, Int.cast_ofNat_Int, Int.natCast_zero, Int.natCast_nonneg, true_implies, or_true, true_or, false_or, or_false, beq_self_eq_true, Option.some.injEq, exists_eq_left', Int.reduceEq, Int.reduceLT, Int.reduceLE, Int.reduceGT, Int.reduceGE, Nat.reduceGT, Int.reduceNeg, Int.reduceToNat, Int.reduceAdd, Int.reduceMul, Int.reduceSub, Int.reducePow, decide_true, decide_false, decide_eq_true_eq, List.getElem?_cons_zero, List.getElem?_cons_succ, Nat.reduceBEq, Nat.reduceSub, exists_false, and_false, false_and, wrap_i64, lenSl, edOf, zeroE, w_regionA2, inOrd, List.filterMap_cons, List.filterMap_nil, r1, h2, u4, u5, List.set_cons_zero, List.set_cons_succ, Is, he, q1, q3, List.replicate_succ, List.replicate_zero, appendV, Im.newRow, ↓reduceCtorEq, u6, List.getElem?_concat_length, show ((1 : Int) == 1) = true from rfl]
          exact ⟨j - 1, by omega, 2, _, 3, v, l, c, t.drop m, rfl, by omega, (kp_app _ _).get u1, rfl, ⟨_, rfl, fun h => absurd h (by omega)⟩, (kp_app _ _).same u3, by simp; omega, h6'⟩
        · have q3 : (kd == 3) = false := by simp [k3]
          simp (maxSteps := 2000000) (discharger := omega) only [xc, xo, xr, x0, x1, x2, x3, x4, x5, x6, xd, xe, xb, kont_call, kont_pure, isNil, slOk, sliceV, selems, srcElems, copyTo, dlen, eqAV, eqCells, eqS, upd, wr, place, partVals, partEs, placeEs, mapOf, keyOk, keyCells, findK, Bool.bne_false, Bool.bne_true, List.drop_zero, List.nil_append, List.append_nil, List.take_zero, List.cons_append, List.take_succ_cons, List.drop_succ_cons, List.take_nil, List.drop_nil, Reg.isA, Reg.isV, Reg.stays, Reg.onto, Bool.false_or, Bool.or_false, Bool.false_and, Bool.and_false, Bool.true_and, Bool.and_true, Bool.or_true, Bool.true_or, ↓reduceIte, reduceCtorEq, Nat.reduceEqDiff, Nat.reduceLT, Nat.reduceAdd, Nat.reduceMul, Nat.add_zero, Nat.zero_add, Nat.not_lt_zero, Nat.zero_ne_one, Nat.one_ne_zero, Nat.reduceLeDiff, Nat.lt_irrefl, Nat.zero_lt_succ, Bool.false_eq_true, Bool.not_true, Bool.not_false, Option.map_some, Option.map_none, Option.bind_some, Option.getD_some, Option.getD_none, and_self, and_true, true_and, List.length_cons, List.length_nil, List.any_nil, List.any_cons, Int.toNat_natCast, Int.cast_ofNat_Int, Int.natCast_zero, Int.natCast_nonneg, true_implies, or_true, true_or, false_or, or_false, beq_self_eq_true, Option.some.injEq, exists_eq_left', Int.reduceEq, Int.reduceLT, Int.reduceLE, Int.reduceGT, Int.reduceGE, Nat.reduceGT, Int.reduceNeg, Int.reduceToNat, Int.reduceAdd, Int.reduceMul, Int.reduceSub, Int.reducePow, decide_true, decide_false, decide_eq_true_eq, List.getElem?_cons_zero, List.getElem?_cons_succ, Nat.reduceBEq, Nat.reduceSub, exists_false, and_false, false_and, wrap_i64, lenSl, edOf, zeroE, w_regionA2, inOrd, List.filterMap_cons, List.filterMap_nil, r1, h2, u4, u5, List.set_cons_zero, List.set_cons_succ, Is, he, q1, q3, show ((1 : Int) == 1) = true from rfl]
          exact ⟨j - 1, by omega, 2, _, kd, v, l, c, t.drop m, rfl, by omega, u1, rfl, ⟨.full, by simp [pts, k1, k3], fun h => absurd h (by omega)⟩, u3, by simp; omega, h6'⟩
  | 2, hij =>
    clear hc0
    by_cases k1 : kd = 1
    · subst k1
      have hp : pts h.length 2 1 = [.ptr h.length 6 0 0, .ptr h.length 6 0 1, .ptr h.length 6 0 2, .ptr h.length 6 0 3] := rfl
      rw [hp]
      cases hr : rdW t with
      | err e =>
        have r1 := c30e (tot := tot) (ω := ω) (n := n) id t g h1 (by omega) (by omega) hr
        have he : (e != 0) = true := by rcases rdW_e23 hr with rfl | rfl <;> rfl
        have h6' : R = .err e := by rw [← h6]; simp [goE, go2, hr]
        unfold edOf at h2
        have hu := ue_err (o' := .row 6 [.agg [.int .i64 1, .int .i64 f, .int .i64 0, .int .i64 c, .str [], .str []]]) h1 hne h4 (Nat.le_refl _)
        simp (maxSteps := 2000000) (discharger := omega) only [xc, xo, xr, x0, x1, x2, x3, x4, x5, x6, xd, xe, xb, kont_call, kont_pure, isNil, slOk, sliceV, selems, srcElems, copyTo, dlen, eqAV, eqCells, eqS, upd, wr, place, partVals, partEs, placeEs, mapOf, keyOk, keyCells, findK, Bool.bne_false, Bool.bne_true, List.drop_zero, List.nil_append, List.append_nil, List.take_zero, List.cons_append, List.take_succ_cons, List.drop_succ_cons, List.take_nil, List.drop_nil, Reg.isA, Reg.isV, Reg.stays, Reg.onto, Bool.false_or, Bool.or_false, Bool.false_and, Bool.and_false, Bool.true_and, Bool.and_true, Bool.or_true, Bool.true_or, ↓reduceIte, reduceCtorEq, Nat.reduceEqDiff, Nat.reduceLT, Nat.reduceAdd, Nat.reduceMul, Nat.add_zero, Nat.zero_add, Nat.not_lt_zero, Nat.zero_ne_one, Nat.one_ne_zero, Nat.reduceLeDiff, Nat.lt_irrefl, Nat.zero_lt_succ, Bool.false_eq_true, Bool.not_true, Bool.not_false, Option.map_some, Option.map_none, Option.bind_some, Option.getD_some, Option.getD_none, and_self, and_true, true_and, List.length_cons, List.length_nil, List.any_nil, List.any_cons, Int.toNat_natCast, Int.cast_ofNat_Int, Int.natCast_zero, Int.natCast_nonneg, true_implies, or_true, true_or, false_or, or_false, beq_self_eq_true, Option.some.injEq, exists_eq_left', Int.reduceEq, Int.reduceLT, Int.reduceLE, Int.reduceGT, Int.reduceGE, Nat.reduceGT, Int.reduceNeg, Int.reduceToNat, Int.reduceAdd, Int.reduceMul, Int.reduceSub, Int.reducePow, decide_true, decide_false, decide_eq_true_eq, List.getElem?_cons_zero, List.getElem?_cons_succ, Nat.reduceBEq, Nat.reduceSub, exists_false, and_false, false_and, wrap_i64, lenSl, edOf, zeroE, w_regionA2, inOrd, List.filterMap_cons, List.filterMap_nil, r1, h2, List.set_cons_zero, List.set_cons_succ, Is, he]
        rw [h6']
        exact ⟨rfl, hu⟩
      | ok v m =>
        have r1 := c30o (tot := tot) (ω := ω) (n := n) id t g h1 (by omega) (by omega) hr
        have he : ((0 : Int) != 0) = false := rfl
        have h6' : goE 3 1 f v c (t.drop m) = R := by rw [← h6]; simp [goE, go2, hr]
        obtain ⟨u1, u2, u3, u4⟩ := ue_next (t' := t.drop m) (o' := .row 6 [edOf ⟨1, f, v, c, [], []⟩]) h1 h2 hne h4 (Nat.le_refl _)
        have u5 := u2
        unfold edOf at h2 u4 u5
        simp (maxSteps := 2000000) (discharger := omega) only [xc, xo, xr, x0, x1, x2, x3, x4, x5, x6, xd, xe, xb, kont_call, kont_pure, isNil, slOk, sliceV, selems, srcElems, copyTo, dlen, eqAV, eqCells, eqS, upd, wr, place, partVals, partEs, placeEs, mapOf, keyOk, keyCells, findK, Bool.bne_false, Bool.bne_true, List.drop_zero, List.nil_append, List.append_nil, List.take_zero, List.cons_append, List.take_succ_cons, List.drop_succ_cons, List.take_nil, List.drop_nil, Reg.isA, Reg.isV, Reg.stays, Reg.onto, Bool.false_or, Bool.or_false, Bool.false_and, Bool.and_false, Bool.true_and, Bool.and_true, Bool.or_true, Bool.true_or, ↓reduceIte, reduceCtorEq, Nat.reduceEqDiff, Nat.reduceLT, Nat.reduceAdd, Nat.reduceMul, Nat.add_zero, Nat.zero_add, Nat.not_lt_zero, Nat.zero_ne_one, Nat.one_ne_zero, Nat.reduceLeDiff, Nat.lt_irrefl, Nat.zero_lt_succ, Bool.false_eq_true, Bool.not_true, Bool.not_false, Option.map_some, Option.map_none, Option.bind_some, Option.getD_some, Option.getD_none, and_self, and_true, true_and, List.length_cons, List.length_nil, List.any_nil, List.any_cons, Int.toNat_natCast, Int.cast_ofNat_Int, Int.natCast_zero, Int.natCast_nonneg, true_implies, or_true, true_or, false_or, or_false, beq_self_eq_true, Option.some.injEq, exists_eq_left', Int.reduceEq, Int.reduceLT, Int.reduceLE, Int.reduceGT, Int.reduceGE, Nat.reduceGT, Int.reduceNeg, Int.reduceToNat, Int.reduceAdd, Int.reduceMul, Int.reduceSub, Int.reducePow, decide_true, decide_false, decide_eq_true_eq, List.getElem?_cons_zero, List.getElem?_cons_succ, Nat.reduceBEq, Nat.reduceSub, exists_false, and_false, false_and, wrap_i64, lenSl, edOf, zeroE, w_regionA2, inOrd, List.filterMap_cons, List.filterMap_nil, r1, h2, u4, List.set_cons_zero, List.set_cons_succ, Is, he, show ((2 : Int) == 1) = false from rfl]
        exact ⟨j - 1, by omega, 3, _, 1, f, v, c, t.drop m, rfl, by omega, u1, u2, ⟨_, rfl, fun h => absurd h (by omega)⟩, u3, by simp; omega, h6'⟩
    by_cases k3 : kd = 3
    · subst k3
      have hp : pts h.length 2 3 = [.ptr h.length 6 0 0, .ptr h.length 6 0 1, .ptr h.length 6 0 2] := rfl
      rw [hp]
      cases hr : rdW t with
      | err e =>
        have r1 := c30e (tot := tot) (ω := ω) (n := n) id t g h1 (by omega) (by omega) hr
        have he : (e != 0) = true := by rcases rdW_e23 hr with rfl | rfl <;> rfl
        have h6' : R = .err e := by rw [← h6]; simp [goE, go2, hr]
        unfold edOf at h2
        have hu := ue_err (o' := .row 6 [.agg [.int .i64 3, .int .i64 f, .int .i64 0, .int .i64 c, .str [], .str []]]) h1 hne h4 (Nat.le_refl _)
        simp (maxSteps := 2000000) (discharger := omega) only [xc, xo, xr, x0, x1, x2, x3, x4, x5, x6, xd, xe, xb, kont_call, kont_pure, isNil, slOk, sliceV, selems, srcElems, copyTo, dlen, eqAV, eqCells, eqS, upd, wr, place, partVals, partEs, placeEs, mapOf, keyOk, keyCells, findK, Bool.bne_false, Bool.bne_true, List.drop_zero, List.nil_append, List.append_nil, List.take_zero, List.cons_append, List.take_succ_cons, List.drop_succ_cons, List.take_nil, List.drop_nil, Reg.isA, Reg.isV, Reg.stays, Reg.onto, Bool.false_or, Bool.or_false, Bool.false_and, Bool.and_false, Bool.true_and, Bool.and_true, Bool.or_true, Bool.true_or, ↓reduceIte, reduceCtorEq, Nat.reduceEqDiff, Nat.reduceLT, Nat.reduceAdd, Nat.reduceMul, Nat.add_zero, Nat.zero_add, Nat.not_lt_zero, Nat.zero_ne_one, Nat.one_ne_zero, Nat.reduceLeDiff, Nat.lt_irrefl, Nat.zero_lt_succ, Bool.false_eq_true, Bool.not_true, Bool.not_false, Option.map_some, Option.map_none, Option.bind_some, Option.getD_some, Option.getD_none, and_self, and_true, true_and, List.length_cons, List.length_nil, List.any_nil, List.any_cons, Int.toNat_natCast, Int.cast_ofNat_Int, Int.natCast_zero, Int.natCast_nonneg, true_implies, or_true, true_or, false_or, or_false, beq_self_eq_true, Option.some.injEq, exists_eq_left', Int.reduceEq, Int.reduceLT, Int.reduceLE, Int.reduceGT, Int.reduceGE, Nat.reduceGT, Int.reduceNeg, Int.reduceToNat, Int.reduceAdd, Int.reduceMul, Int.reduceSub, Int.reducePow, decide_true, decide_false, decide_eq_true_eq, List.getElem?_cons_zero, List.getElem?_cons_succ, Nat.reduceBEq, Nat.reduceSub, exists_false, and_false, false_and, wrap_i64, lenSl, edOf, zeroE, w_regionA2, inOrd, List.filterMap_cons, List.filterMap_nil, r1, h2, List.set_cons_zero, List.set_cons_succ, Is, he]
        rw [h6']
        exact ⟨rfl, hu⟩
      | ok v m =>
        have r1 := c30o (tot := tot) (ω := ω) (n := n) id t g h1 (by omega) (by omega) hr
        have he : ((0 : Int) != 0) = false := rfl
        have h6' : goE 3 3 f v c (t.drop m) = R := by rw [← h6]; simp [goE, go2, hr]
        obtain ⟨u1, u2, u3, u4⟩ := ue_next (t' := t.drop m) (o' := .row 6 [edOf ⟨3, f, v, c, [], []⟩]) h1 h2 hne h4 (Nat.le_refl _)
        have u5 := u2
        unfold edOf at h2 u4 u5
        simp (maxSteps := 2000000) (discharger := omega) only [xc, xo, xr, x0, x1, x2, x3, x4, x5, x6, xd, xe, xb, kont_call, kont_pure, isNil, slOk, sliceV, selems, srcElems, copyTo, dlen, eqAV, eqCells, eqS, upd, wr, place, partVals, partEs, placeEs, mapOf, keyOk, keyCells, findK, Bool.bne_false, Bool.bne_true, List.drop_zero, List.nil_append, List.append_nil, List.take_zero, List.cons_append, List.take_succ_cons, List.drop_succ_cons, List.take_nil, List.drop_nil, Reg.isA, Reg.isV, Reg.stays, Reg.onto, Bool.false_or, Bool.or_false, Bool.false_and, Bool.and_false, Bool.true_and, Bool.and_true, Bool.or_true, Bool.true_or, ↓reduceIte, reduceCtorEq, Nat.reduceEqDiff, Nat.reduceLT, Nat.reduceAdd, Nat.reduceMul, Nat.add_zero, Nat.zero_add, Nat.not_lt_zero, Nat.zero_ne_one, Nat.one_ne_zero, Nat.reduceLeDiff, Nat.lt_irrefl, Nat.zero_lt_succ, Bool.false_eq_true, Bool.not_true, Bool.not_false, Option.map_some, Option.map_none, Option.bind_some, Option.getD_some, Option.getD_none, and_self, and_true, true_and, List.length_cons, List.length_nil, List.any_nil, List.any_cons, Int.toNat_natCast, Int.cast_ofNat_Int, Int.natCast_zero, Int.natCast_nonneg, true_implies, or_true, true_or, false_or, or_false, beq_self_eq_true, Option.some.injEq, exists_eq_left', Int.reduceEq, Int.reduceLT, Int.reduceLE, Int.reduceGT, Int.reduceGE, Nat.reduceGT, Int.reduceNeg, Int.reduceToNat, Int.reduceAdd, Int.reduceMul, Int.reduceSub, Int.reducePow, decide_true, decide_false, decide_eq_true_eq, List.getElem?_cons_zero, List.getElem?_cons_succ, Nat.reduceBEq, Nat.reduceSub, exists_false, and_false, false_and, wrap_i64, lenSl, edOf, zeroE, w_regionA2, inOrd, List.filterMap_cons, List.filterMap_nil, r1, h2, u4, List.set_cons_zero, List.set_cons_succ, Is, he, show ((2 : Int) == 1) = false from rfl]
        exact ⟨j - 1, by omega, 3, _, 3, f, v, c, t.drop m, rfl, by omega, u1, u2, ⟨_, rfl, fun h => absurd h (by omega)⟩, u3, by simp; omega, h6'⟩
    have hR : R = .ok ⟨kd, f, l, c, [], []⟩ t := by rw [← h6]; simp [goE, go2, finE, k1, k3]
    have q1 : (kd != 1) = true := by simp [k1]
    unfold edOf at h2
    have hp : pts h.length 2 kd = [.ptr h.length 6 0 0, .ptr h.length 6 0 1] := by simp [pts, k1, k3]
    rw [hp]
    simp (maxSteps := 2000000) (discharger := omega) only [xc, xo, xr, x0, x1, x2, x3, x4, x5, x6, xd, xe, xb, kont_call, kont_pure, isNil, slOk, sliceV, selems, srcElems, copyTo, dlen, eqAV, eqCells, eqS, upd, wr, place, partVals, partEs, placeEs, mapOf, keyOk, keyCells, findK, Bool.bne_false, Bool.bne_true, List.drop_zero, List.nil_append, List.append_nil, List.take_zero, List.cons_append, List.take_succ_cons, List.drop_succ_cons, List.take_nil, List.drop_nil, Reg.isA, Reg.isV, Reg.stays, Reg.onto, Bool.false_or, Bool.or_false, Bool.false_and, Bool.and_false, Bool.true_and, Bool.and_true, Bool.or_true, Bool.true_or, ↓reduceIte, reduceCtorEq, Nat.reduceEqDiff, Nat.reduceLT, Nat.reduceAdd, Nat.reduceMul, Nat.add_zero, Nat.zero_add, Nat.not_lt_zero, Nat.zero_ne_one, Nat.one_ne_zero, Nat.reduceLeDiff, Nat.lt_irrefl, Nat.zero_lt_succ, Bool.false_eq_true, Bool.not_true, Bool.not_false, Option.map_some, Option.map_none, Option.bind_some, Option.getD_some, Option.getD_none, and_self, and_true, true_and, List.length_cons, List.length_nil, List.any_nil, List.any_cons, Int.toNat_natCast, Int.cast_ofNat_Int, Int.natCast_zero, Int.natCast_nonneg, true_implies, or_true, true_or, false_or, or_false, beq_self_eq_true, Option.some.injEq, exists_eq_left', Int.reduceEq, Int.reduceLT, Int.reduceLE, Int.reduceGT, Int.reduceGE, Nat.reduceGT, Int.reduceNeg, Int.reduceToNat, Int.reduceAdd, Int.reduceMul, Int.reduceSub, Int.reducePow, decide_true, decide_false, decide_eq_true_eq, List.getElem?_cons_zero, List.getElem?_cons_succ, Nat.reduceBEq, Nat.reduceSub, exists_false, and_false, false_and, wrap_i64, lenSl, edOf, zeroE, h2, List.set_cons_zero, List.set_cons_succ, q1]
    rw [hR]
    exact ⟨rfl, h4, h1⟩
  | 3, hij =>
    clear hc0
    by_cases k1 : kd = 1
    · subst k1
      have hp : pts h.length 3 1 = [.ptr h.length 6 0 0, .ptr h.length 6 0 1, .ptr h.length 6 0 2, .ptr h.length 6 0 3] := rfl
      rw [hp]
      cases hr : rdW t with
      | err e =>
        have r1 := c30e (tot := tot) (ω := ω) (n := n) id t g h1 (by omega) (by omega) hr
        have he : (e != 0) = true := by rcases rdW_e23 hr with rfl | rfl <;> rfl
        have h6' : R = .err e := by rw [← h6]; simp [goE, go3, hr]
        unfold edOf at h2
        have hu := ue_err (o' := .row 6 [.agg [.int .i64 1, .int .i64 f, .int .i64 l, .int .i64 0, .str [], .str []]]) h1 hne h4 (Nat.le_refl _)
        simp (maxSteps := 2000000) (discharger := omega) only [xc, xo, xr, x0, x1, x2, x3, x4, x5, x6, xd, xe, xb, kont_call, kont_pure, isNil, slOk, sliceV, selems, srcElems, copyTo, dlen, eqAV, eqCells, eqS, upd, wr, place, partVals, partEs, placeEs, mapOf, keyOk, keyCells, findK, Bool.bne_false, Bool.bne_true, List.drop_zero, List.nil_append, List.append_nil, List.take_zero, List.cons_append, List.take_succ_cons, List.drop_succ_cons, List.take_nil, List.drop_nil, Reg.isA, Reg.isV, Reg.stays, Reg.onto, Bool.false_or, Bool.or_false, Bool.false_and, Bool.and_false, Bool.true_and, Bool.and_true, Bool.or_true, Bool.true_or, ↓reduceIte, reduceCtorEq, Nat.reduceEqDiff, Nat.reduceLT, Nat.reduceAdd, Nat.reduceMul, Nat.add_zero, Nat.zero_add, Nat.not_lt_zero, Nat.zero_ne_one, Nat.one_ne_zero, Nat.reduceLeDiff, Nat.lt_irrefl, Nat.zero_lt_succ, Bool.false_eq_true, Bool.not_true, Bool.not_false, Option.map_some, Option.map_none, Option.bind_some, Option.getD_some, Option.getD_none, and_self, and_true, true_and, List.length_cons, List.length_nil, List.any_nil, List.any_cons, Int.toNat_natCast, Int.cast_ofNat_Int, Int.natCast_zero, Int.natCast_nonneg, true_implies, or_true, true_or, false_or, or_false, beq_self_eq_true, Option.some.injEq, exists_eq_left', Int.reduceEq, Int.reduceLT, Int.reduceLE, Int.reduceGT, Int.reduceGE, Nat.reduceGT, Int.reduceNeg, Int.reduceToNat, Int.reduceAdd, Int.reduceMul, Int.reduceSub, Int.reducePow, decide_true, decide_false, decide_eq_true_eq, List.getElem?_cons_zero, List.getElem?_cons_succ, Nat.reduceBEq, Nat.reduceSub, exists_false, and_false, false_and, wrap_i64, lenSl, edOf, zeroE, w_regionA2, inOrd, List.filterMap_cons, List.filterMap_nil, r1, h2, List.set_cons_zero, List.set_cons_succ, Is, he]
        rw [h6']
        exact ⟨rfl, hu⟩
      | ok v m =>
        have r1 := c30o (tot := tot) (ω := ω) (n := n) id t g h1 (by omega) (by omega) hr
        have he : ((0 : Int) != 0) = false := rfl
        have h6' : goE 4 1 f l v (t.drop m) = R := by rw [← h6]; simp [goE, go3, hr]
        obtain ⟨u1, u2, u3, u4⟩ := ue_next (t' := t.drop m) (o' := .row 6 [edOf ⟨1, f, l, v, [], []⟩]) h1 h2 hne h4 (Nat.le_refl _)
        have u5 := u2
        unfold edOf at h2 u4 u5
        simp (maxSteps := 2000000) (discharger := omega) only [xc, xo, xr, x0, x1, x2, x3, x4, x5, x6, xd, xe, xb, kont_call, kont_pure, isNil, slOk, sliceV, selems, srcElems, copyTo, dlen, eqAV, eqCells, eqS, upd, wr, place, partVals, partEs, placeEs, mapOf, keyOk, keyCells, findK, Bool.bne_false, Bool.bne_true, List.drop_zero, List.nil_append, List.append_nil, List.take_zero, List.cons_append, List.take_succ_cons, List.drop_succ_cons, List.take_nil, List.drop_nil, Reg.isA, Reg.isV, Reg.stays, Reg.onto, Bool.false_or, Bool.or_false, Bool.false_and, Bool.and_false, Bool.true_and, Bool.and_true, Bool.or_true, Bool.true_or, ↓reduceIte, reduceCtorEq, Nat.reduceEqDiff, Nat.reduceLT, Nat.reduceAdd, Nat.reduceMul, Nat.add_zero, Nat.zero_add, Nat.not_lt_zero, Nat.zero_ne_one, Nat.one_ne_zero, Nat.reduceLeDiff, Nat.lt_irrefl, Nat.zero_lt_succ, Bool.false_eq_true, Bool.not_true, Bool.not_false, Option.map_some, Option.map_none, Option.bind_some, Option.getD_some, Option.getD_none, and_self, and_true, true_and, List.length_cons, List.length_nil, List.any_nil, List.any_cons, Int.toNat_natCast, Int.cast_ofNat_Int, Int.natCast_zero, Int.natCast_nonneg, true_implies, or_true, true_or, false_or, or_false, beq_self_eq_true, Option.some.injEq, exists_eq_left', Int.reduceEq, Int.reduceLT, Int.reduceLE, Int.reduceGT, Int.reduceGE, Nat.reduceGT, Int.reduceNeg, Int.reduceToNat, Int.reduceAdd, Int.reduceMul, Int.reduceSub, Int.reducePow, decide_true, decide_false, decide_eq_true_eq, List.getElem?_cons_zero, List.getElem?_cons_succ, Nat.reduceBEq, Nat.reduceSub, exists_false, and_false, false_and, wrap_i64, lenSl, edOf, zeroE, w_regionA2, inOrd, List.filterMap_cons, List.filterMap_nil, r1, h2, u4, List.set_cons_zero, List.set_cons_succ, Is, he, show ((3 : Int) == 1) = false from rfl]
        exact ⟨j - 1, by omega, 4, _, 1, f, l, v, t.drop m, rfl, by omega, u1, u2, ⟨_, rfl, fun h => absurd h (by omega)⟩, u3, by simp; omega, h6'⟩
    have hR : R = .ok ⟨kd, f, l, c, [], []⟩ t := by rw [← h6]; simp [goE, go3, finE, k1]
    have q1 : (kd != 1) = true := by simp [k1]
    unfold edOf at h2
    by_cases k3 : kd = 3
    · have hp : pts h.length 3 kd = [.ptr h.length 6 0 0, .ptr h.length 6 0 1, .ptr h.length 6 0 2] := by simp [pts, k3]
      rw [hp]
      simp (maxSteps := 2000000) (discharger := omega) only [xc, xo, xr, x0, x1, x2, x3, x4, x5, x6, xd, xe, xb, kont_call, kont_pure, isNil, slOk, sliceV, selems, srcElems, copyTo, dlen, eqAV, eqCells, eqS, upd, wr, place, partVals, partEs, placeEs, mapOf, keyOk, keyCells, findK, Bool.bne_false, Bool.bne_true, List.drop_zero, List.nil_append, List.append_nil, List.take_zero, List.cons_append, List.take_succ_cons, List.drop_succ_cons, List.take_nil, List.drop_nil, Reg.isA, Reg.isV, Reg.stays, Reg.onto, Bool.false_or, Bool.or_false, Bool.false_and, Bool.and_false, Bool.true_and, Bool.and_true, Bool.or_true, Bool.true_or, ↓reduceIte, reduceCtorEq, Nat.reduceEqDiff, Nat.reduceLT, Nat.reduceAdd, Nat.reduceMul, Nat.add_zero, Nat.zero_add, Nat.not_lt_zero, Nat.zero_ne_one, Nat.one_ne_zero, Nat.reduceLeDiff, Nat.lt_irrefl, Nat.zero_lt_succ, Bool.false_eq_true, Bool.not_true, Bool.not_false, Option.map_some, Option.map_none, Option.bind_some, Option.getD_some, Option.getD_none, and_self, and_true, true_and, List.length_cons, List.length_nil, List.any_nil, List.any_cons, Int.toNat_natCast, Int.cast_ofNat_Int, Int.natCast_zero, Int.natCast_nonneg, true_implies, or_true, true_or, false_or, or_false, beq_self_eq_true, Option.some.injEq, exists_eq_left', Int.reduceEq, Int.reduceLT, Int.reduceLE, Int.reduceGT, Int.reduceGE, Nat.reduceGT, Int.reduceNeg, Int.reduceToNat, Int.reduceAdd, Int.reduceMul, Int.reduceSub, Int.reducePow, decide_true, decide_false, decide_eq_true_eq, List.getElem?_cons_zero, List.getElem?_cons_succ, Nat.reduceBEq, Nat.reduceSub, exists_false, and_false, false_and, wrap_i64, lenSl, edOf, zeroE, h2, List.set_cons_zero, List.set_cons_succ, q1]
      rw [hR]
      exact ⟨rfl, h4, h1⟩
    · have hp : pts h.length 3 kd = [.ptr h.length 6 0 0, .ptr h.length 6 0 1] := by simp [pts, k1, k3]
      rw [hp]
      simp (maxSteps := 2000000) (discharger := omega) only [xc, xo, xr, x0, x1, x2, x3, x4, x5, x6, xd, xe, xb, kont_call, kont_pure, isNil, slOk, sliceV, selems, srcElems, copyTo, dlen, eqAV, eqCells, eqS, upd, wr, place, partVals, partEs, placeEs, mapOf, keyOk, keyCells, findK, Bool.bne_false, Bool.bne_true, List.drop_zero, List.nil_append, List.append_nil, List.take_zero, List.cons_append, List.take_succ_cons, List.drop_succ_cons, List.take_nil, List.drop_nil, Reg.isA, Reg.isV, Reg.stays, Reg.onto, Bool.false_or, Bool.or_false, Bool.false_and, Bool.and_false, Bool.true_and, Bool.and_true, Bool.or_true, Bool.true_or, ↓reduceIte, reduceCtorEq, Nat.reduceEqDiff, Nat.reduceLT, Nat.reduceAdd, Nat.reduceMul, Nat.add_zero, Nat.zero_add, Nat.not_lt_zero, Nat.zero_ne_one, Nat.one_ne_zero, Nat.reduceLeDiff, Nat.lt_irrefl, Nat.zero_lt_succ, Bool.false_eq_true, Bool.not_true, Bool.not_false, Option.map_some, Option.map_none, Option.bind_some, Option.getD_some, Option.getD_none, and_self, and_true, true_and, List.length_cons, List.length_nil, List.any_nil, List.any_cons, Int.toNat_natCast, Int.cast_ofNat_Int, Int.natCast_zero, Int.natCast_nonneg, true_implies, or_true, true_or, false_or, or_false, beq_self_eq_true, Option.some.injEq, exists_eq_left', Int.reduceEq, Int.reduceLT, Int.reduceLE, Int.reduceGT, Int.reduceGE, Nat.reduceGT, Int.reduceNeg, Int.reduceToNat, Int.reduceAdd, Int.reduceMul, Int.reduceSub, Int.reducePow, decide_true, decide_false, decide_eq_true_eq, List.getElem?_cons_zero, List.getElem?_cons_succ, Nat.reduceBEq, Nat.reduceSub, exists_false, and_false, false_and, wrap_i64, lenSl, edOf, zeroE, h2, List.set_cons_zero, List.set_cons_succ, q1]
      rw [hR]
      exact ⟨rfl, h4, h1⟩
  | 4, hij =>
    clear hc0
    by_cases k1 : kd = 1
    · subst k1
      have hp : pts h.length 4 1 = [.ptr h.length 6 0 0, .ptr h.length 6 0 1, .ptr h.length 6 0 2, .ptr h.length 6 0 3] := rfl
      rw [hp]
      have q1 : ((1 : Int) != 1) = false := rfl
      have h6f : finE 1 f l c t = R := h6
      cases hr : rdT t with
      | err e =>
        have r1 := c31e (tot := tot) (ω := ω) (n := n) id t g h1 (by omega) (by omega) hr
        have he : (e != 0) = true := by rcases rdT_e23 hr with rfl | rfl <;> rfl
        have h6' : R = .err e := by rw [← h6f]; simp [finE, hr]
        unfold edOf at h2
        have hu := ue_err (o' := .row 6 [.agg [.int .i64 1, .int .i64 f, .int .i64 l, .int .i64 c, .str [], .str []]]) h1 hne h4 (Nat.le_refl _)
        simp (maxSteps := 2000000) (discharger := omega) only [xc, xo, xr, x0, x1, x2, x3, x4, x5, x6, xd, xe, xb, kont_call, kont_pure, isNil, slOk, sliceV, selems, srcElems, copyTo, dlen, eqAV, eqCells, eqS, upd, wr, place, partVals, partEs, placeEs, mapOf, keyOk, keyCells, findK, Bool.bne_false, Bool.bne_true, List.drop_zero, List.nil_append, List.append_nil, List.take_zero, List.cons_append, List.take_succ_cons, List.drop_succ_cons, List.take_nil, List.drop_nil, Reg.isA, Reg.isV, Reg.stays, Reg.onto, Bool.false_or, Bool.or_false, Bool.false_and, Bool.and_false, Bool.true_and, Bool.and_true, Bool.or_true, Bool.true_or, ↓reduceIte, reduceCtorEq, Nat.reduceEqDiff, Nat.reduceLT, Nat.reduceAdd, Nat.reduceMul, Nat.add_zero, Nat.zero_add, Nat.not_lt_zero, Nat.zero_ne_one, Nat.one_ne_zero, Nat.reduceLeDiff, Nat.lt_irrefl, Nat.zero_lt_succ, Bool.false_eq_true, Bool.not_true, Bool.not_false, Option.map_some, Option.map_none, Option.bind_some, Option.getD_some, Option.getD_none, and_self, and_true, true_and, List.length_cons, List.length_nil, List.any_nil, List.any_cons, Int.toNat_natCast, Int.cast_ofNat_Int, Int.natCast_zero, Int.natCast_nonneg, true_implies, or_true, true_or, false_or, or_false, beq_self_eq_true, Option.some.injEq, exists_eq_left', Int.reduceEq, Int.reduceLT, Int.reduceLE, Int.reduceGT, Int.reduceGE, Nat.reduceGT, Int.reduceNeg, Int.reduceToNat, Int.reduceAdd, Int.reduceMul, Int.reduceSub, Int.reducePow, decide_true, decide_false, decide_eq_true_eq, List.getElem?_cons_zero, List.getElem?_cons_succ, Nat.reduceBEq, Nat.reduceSub, exists_false, and_false, false_and, wrap_i64, lenSl, edOf, zeroE, r1, h2, List.set_cons_zero, List.set_cons_succ, he, q1]
        rw [h6']
        exact ⟨rfl, hu⟩
      | ok lo m =>
        have r1 := c31o (tot := tot) (ω := ω) (n := n) id t g h1 (by omega) (by omega) hr
        have he : ((0 : Int) != 0) = false := rfl
        obtain ⟨u1, u2, u3, u4⟩ := ue_next (t' := t.drop m) (o' := .row 6 [edOf ⟨1, f, l, c, lo, []⟩]) h1 h2 hne h4 (Nat.le_refl _)
        have u5 := u2
        cases hr2 : rdT (t.drop m) with
        | err e =>
          have r2 := c31e (tot := tot) (ω := ω) (n := n) id (t.drop m) _ u1 (by simp; omega) (by simp; omega) hr2
          have he2 : (e != 0) = true := by rcases rdT_e23 hr2 with rfl | rfl <;> rfl
          have h6' : R = .err e := by rw [← h6f]; simp [finE, hr, hr2]
          have hu := ue_err (o' := .row 6 [.agg [.int .i64 1, .int .i64 f, .int .i64 l, .int .i64 c, .str lo, .str []]]) u1 hne u3 (Nat.le_refl _)
          unfold edOf at h2 u4 u5 r2 hu
          dsimp only at h2 u4 u5 r2 hu
          simp (maxSteps := 2000000) (discharger := omega) only [xc, xo, xr, x0, x1, x2, x3, x4, x5, x6, xd, xe, xb, kont_call, kont_pure, isNil, slOk, sliceV, selems, srcElems, copyTo, dlen, eqAV, eqCells, eqS, upd, wr, place, partVals, partEs, placeEs, mapOf, keyOk, keyCells, findK, Bool.bne_false, Bool.bne_true, List.drop_zero, List.nil_append, List.append_nil, List.take_zero, List.cons_append, List.take_succ_cons, List.drop_succ_cons, List.take_nil, List.drop_nil, Reg.isA, Reg.isV, Reg.stays, Reg.onto, Bool.false_or, Bool.or_false, Bool.false_and, Bool.and_false, Bool.true_and, Bool.and_true, Bool.or_true, Bool.true_or, ↓reduceIte, reduceCtorEq, Nat.reduceEqDiff, Nat.reduceLT, Nat.reduceAdd, Nat.reduceMul, Nat.add_zero, Nat.zero_add, Nat.not_lt_zero, Nat.zero_ne_one, Nat.one_ne_zero, Nat.reduceLeDiff, Nat.lt_irrefl, Nat.zero_lt_succ, Bool.false_eq_true, Bool.not_true, Bool.not_false, Option.map_some, Option.map_none, Option.bind_some, Option.getD_some, Option.getD_none, and_self, and_true, true_and, List.length_cons, List.length_nil, List.any_nil, List.any_cons, Int.toNat_natCast, Int.cast_ofNat_Int, Int.natCast_zero, Int.natCast_nonneg, true_implies, or_true, true_or, false_or, or_false, beq_self_eq_true, Option.some.injEq, exists_eq_left', Int.reduceEq, Int.reduceLT, Int.reduceLE, Int.reduceGT, Int.reduceGE, Nat.reduceGT, Int.reduceNeg, Int.reduceToNat, Int.reduceAdd, Int.reduceMul, Int.reduceSub, Int.reducePow, decide_true, decide_false, decide_eq_true_eq, List.getElem?_cons_zero, List.getElem?_cons_succ, Nat.reduceBEq, Nat.reduceSub, exists_false, and_false, false_and, wrap_i64, lenSl, edOf, zeroE, r1, r2, h2, u4, u5, List.set_cons_zero, List.set_cons_succ, he, he2, q1]
          rw [h6']
          exact ⟨rfl, hu⟩
        | ok hh m2 =>
          have r2 := c31o (tot := tot) (ω := ω) (n := n) id (t.drop m) _ u1 (by simp; omega) (by simp; omega) hr2
          obtain ⟨w1, w2, w3, w4⟩ := ue_next (t' := (t.drop m).drop m2) (o' := .row 6 [edOf ⟨1, f, l, c, lo, hh⟩]) u1 u2 hne u3 (Nat.le_refl _)
          have w5 := w2
          have h6' : R = .ok ⟨1, f, l, c, lo, hh⟩ ((t.drop m).drop m2) := by rw [← h6f]; simp [finE, hr, hr2]
          unfold edOf at h2 u4 u5 r2 w4 w5
          dsimp only at h2 u4 u5 r2 w4 w5
          simp (maxSteps := 2000000) (discharger := omega) only [xc, xo, xr, x0, x1, x2, x3, x4, x5, x6, xd, xe, xb, kont_call, kont_pure, isNil, slOk, sliceV, selems, srcElems, copyTo, dlen, eqAV, eqCells, eqS, upd, wr, place, partVals, partEs, placeEs, mapOf, keyOk, keyCells, findK, Bool.bne_false, Bool.bne_true, List.drop_zero, List.nil_append, List.append_nil, List.take_zero, List.cons_append, List.take_succ_cons, List.drop_succ_cons, List.take_nil, List.drop_nil, Reg.isA, Reg.isV, Reg.stays, Reg.onto, Bool.false_or, Bool.or_false, Bool.false_and, Bool.and_false, Bool.true_and, Bool.and_true, Bool.or_true, Bool.true_or, ↓reduceIte, reduceCtorEq, Nat.reduceEqDiff, Nat.reduceLT, Nat.reduceAdd, Nat.reduceMul, Nat.add_zero, Nat.zero_add, Nat.not_lt_zero, Nat.zero_ne_one, Nat.one_ne_zero, Nat.reduceLeDiff, Nat.lt_irrefl, Nat.zero_lt_succ, Bool.false_eq_true, Bool.not_true, Bool.not_false, Option.map_some, Option.map_none, Option.bind_some, Option.getD_some, Option.getD_none, and_self, and_true, true_and, List.length_cons, List.length_nil, List.any_nil, List.any_cons, Int.toNat_natCast, Int.cast_ofNat_Int, Int.natCast_zero, Int.natCast_nonneg, true_implies, or_true, true_or, false_or, or_false, beq_self_eq_true, Option.some.injEq, exists_eq_left', Int.reduceEq, Int.reduceLT, Int.reduceLE, Int.reduceGT, Int.reduceGE, Nat.reduceGT, Int.reduceNeg, Int.reduceToNat, Int.reduceAdd, Int.reduceMul, Int.reduceSub, Int.reducePow, decide_true, decide_false, decide_eq_true_eq, List.getElem?_cons_zero, List.getElem?_cons_succ, Nat.reduceBEq, Nat.reduceSub, exists_false, and_false, false_and, wrap_i64, lenSl, edOf, zeroE, r1, r2, h2, u4, u5, w4, w5, List.set_cons_zero, List.set_cons_succ, he, q1]
          rw [h6']
          exact ⟨rfl, w3, w1⟩
    · have hR : R = .ok ⟨kd, f, l, c, [], []⟩ t := by rw [← h6]; simp [goE, finE, k1]
      have q1 : (kd != 1) = true := by simp [k1]
      unfold edOf at h2
      by_cases k3 : kd = 3
      · have hp : pts h.length 4 kd = [.ptr h.length 6 0 0, .ptr h.length 6 0 1, .ptr h.length 6 0 2] := by simp [pts, k3]
        rw [hp]
        simp (maxSteps := 2000000) (discharger := omega) only [xc, xo, xr, x0, x1, x2, x3, x4, x5, x6, xd, xe, xb, kont_call, kont_pure, isNil, slOk, sliceV, selems, srcElems, copyTo, dlen, eqAV, eqCells, eqS, upd, wr, place, partVals, partEs, placeEs, mapOf, keyOk, keyCells, findK, Bool.bne_false, Bool.bne_true, List.drop_zero, List.nil_append, List.append_nil, List.take_zero, List.cons_append, List.take_succ_cons, List.drop_succ_cons, List.take_nil, List.drop_nil, Reg.isA, Reg.isV, Reg.stays, Reg.onto, Bool.false_or, Bool.or_false, Bool.false_and, Bool.and_false, Bool.true_and, Bool.and_true, Bool.or_true, Bool.true_or, ↓reduceIte, reduceCtorEq, Nat.reduceEqDiff, Nat.reduceLT, Nat.reduceAdd, Nat.reduceMul, Nat.add_zero, Nat.zero_add, Nat.not_lt_zero, Nat.zero_ne_one, Nat.one_ne_zero, Nat.reduceLeDiff, Nat.lt_irrefl, Nat.zero_lt_succ, Bool.false_eq_true, Bool.not_true, Bool.not_false, Option.map_some, Option.map_none, Option.bind_some, Option.getD_some, Option.getD_none, and_self, and_true, true_and, List.length_cons, List.length_nil, List.any_nil, List.any_cons, Int.toNat_natCast, Int.cast_ofNat_Int, Int.natCast_zero, Int.natCast_nonneg, true_implies, or_true, true_or, false_or, or_false, beq_self_eq_true, Option.some.injEq, exists_eq_left', Int.reduceEq, Int.reduceLT, Int.reduceLE, Int.reduceGT, Int.reduceGE, Nat.reduceGT, Int.reduceNeg, Int.reduceToNat, Int.reduceAdd, Int.reduceMul, Int.reduceSub, Int.reducePow, decide_true, decide_false, decide_eq_true_eq, List.getElem?_cons_zero, List.getElem?_cons_succ, Nat.reduceBEq, Nat.reduceSub, exists_false, and_false, false_and, wrap_i64, lenSl, edOf, zeroE, h2, List.set_cons_zero, List.set_cons_succ, q1]
        rw [hR]
        exact ⟨rfl, h4, h1⟩
      · have hp : pts h.length 4 kd = [.ptr h.length 6 0 0, .ptr h.length 6 0 1] := by simp [pts, k1, k3]
        rw [hp]
        simp (maxSteps := 2000000) (discharger := omega) only [xc, xo, xr, x0, x1, x2, x3, x4, x5, x6, xd, xe, xb, kont_call, kont_pure, isNil, slOk, sliceV, selems, srcElems, copyTo, dlen, eqAV, eqCells, eqS, upd, wr, place, partVals, partEs, placeEs, mapOf, keyOk, keyCells, findK, Bool.bne_false, Bool.bne_true, List.drop_zero, List.nil_append, List.append_nil, List.take_zero, List.cons_append, List.take_succ_cons, List.drop_succ_cons, List.take_nil, List.drop_nil, Reg.isA, Reg.isV, Reg.stays, Reg.onto, Bool.false_or, Bool.or_false, Bool.false_and, Bool.and_false, Bool.true_and, Bool.and_true, Bool.or_true, Bool.true_or, ↓reduceIte, reduceCtorEq, Nat.reduceEqDiff, Nat.reduceLT, Nat.reduceAdd, Nat.reduceMul, Nat.add_zero, Nat.zero_add, Nat.not_lt_zero, Nat.zero_ne_one, Nat.one_ne_zero, Nat.reduceLeDiff, Nat.lt_irrefl, Nat.zero_lt_succ, Bool.false_eq_true, Bool.not_true, Bool.not_false, Option.map_some, Option.map_none, Option.bind_some, Option.getD_some, Option.getD_none, and_self, and_true, true_and, List.length_cons, List.length_nil, List.any_nil, List.any_cons, Int.toNat_natCast, Int.cast_ofNat_Int, Int.natCast_zero, Int.natCast_nonneg, true_implies, or_true, true_or, false_or, or_false, beq_self_eq_true, Option.some.injEq, exists_eq_left', Int.reduceEq, Int.reduceLT, Int.reduceLE, Int.reduceGT, Int.reduceGE, Nat.reduceGT, Int.reduceNeg, Int.reduceToNat, Int.reduceAdd, Int.reduceMul, Int.reduceSub, Int.reducePow, decide_true, decide_false, decide_eq_true_eq, List.getElem?_cons_zero, List.getElem?_cons_succ, Nat.reduceBEq, Nat.reduceSub, exists_false, and_false, false_and, wrap_i64, lenSl, edOf, zeroE, h2, List.set_cons_zero, List.set_cons_succ, q1]
        rw [hR]
        exact ⟨rfl, h4, h1⟩
  | i + 5, hij => omega

end Go.Proofs.Ytlognommhffmcaa.Im

/- S13Tl: lists of edits read. -/
set_option linter.unusedVariables false
set_option linter.unusedSimpArgs false
open Go Go.Im
namespace Go.Proofs.Ytlognommhffmcaa.Im

def goL (acc : List Ed) : Nat → List UInt8 → QR (List Ed)
  | 0, s => .ok acc s
  | n + 1, s => if s = [] then .err 2 else match rdE s with
    | .err e => .err e
    | .ok x rest => goL (acc ++ [x]) n rest
def rdL (s : List UInt8) : QR (List Ed) := match rdC s with
  | .err e => .err e
  | .ok n k => goL [] n (s.drop k)

theorem rdW_pos {s : List UInt8} {v : Int} {k : Nat} (h : rdW s = .ok v k) : 0 < k ∧ k ≤ s.length := by
  obtain ⟨x, b, h1, _⟩ := rdW_ok h
  have := dec_ok h1
  omega

theorem finE_le {k f l c : Int} {s rest : List UInt8} {x : Ed} (h : finE k f l c s = .ok x rest) : rest.length ≤ s.length := by
  unfold finE at h
  split at h
  · split at h
    · cases h
    · split at h
      · cases h
      · cases h; rw [List.length_drop, List.length_drop]; omega
  · cases h; exact Nat.le_refl _
theorem go3_le {k f l c : Int} {s rest : List UInt8} {x : Ed} (h : go3 k f l c s = .ok x rest) : rest.length ≤ s.length := by
  unfold go3 at h
  split at h
  · split at h
    · cases h
    · have := finE_le h; simp at this; omega
  · exact finE_le h
theorem go2_le {k f l c : Int} {s rest : List UInt8} {x : Ed} (h : go2 k f l c s = .ok x rest) : rest.length ≤ s.length := by
  unfold go2 at h
  split at h
  · split at h
    · cases h
    · have := go3_le h; simp at this; omega
  · exact finE_le h
theorem rdE_lt {s rest : List UInt8} {x : Ed} (h : rdE s = .ok x rest) : rest.length < s.length := by
  unfold rdE go0 at h
  split at h
  · cases h
  · rename_i v m h1
    have p1 := rdW_pos h1
    unfold go1 at h
    split at h
    · cases h
    · have := go2_le h; simp at this; omega

theorem finE_e {k f l c : Int} {s : List UInt8} {e : Int} (h : finE k f l c s = .err e) : e = 2 ∨ e = 3 := by
  unfold finE at h
  split at h
  · split at h
    · rename_i h1; cases h; exact rdT_e23 h1
    · split at h
      · rename_i h1; cases h; exact rdT_e23 h1
      · cases h
  · cases h
theorem go3_e {k f l c : Int} {s : List UInt8} {e : Int} (h : go3 k f l c s = .err e) : e = 2 ∨ e = 3 := by
  unfold go3 at h
  split at h
  · split at h
    · rename_i h1; cases h; exact rdW_e23 h1
    · exact finE_e h
  · exact finE_e h
theorem go2_e {k f l c : Int} {s : List UInt8} {e : Int} (h : go2 k f l c s = .err e) : e = 2 ∨ e = 3 := by
  unfold go2 at h
  split at h
  · split at h
    · rename_i h1; cases h; exact rdW_e23 h1
    · exact go3_e h
  · exact finE_e h
theorem rdE_e {s : List UInt8} {e : Int} (h : rdE s = .err e) : e = 2 ∨ e = 3 := by
  unfold rdE go0 at h
  split at h
  · rename_i h1; cases h; exact rdW_e23 h1
  · unfold go1 at h
    split at h
    · rename_i h1; cases h; exact rdW_e23 h1
    · exact go2_e h

/-- A slice that is appended to, all of whose entries came behind the first 'base' ones. -/
def AppFrom (base sz : Nat) (es : List AV) (g : Hp) (v : AV) : Prop := (v = .nils ∧ es = []) ∨ ∃ i, base ≤ i ∧ v = .imm sz es (.tok i es.length) ∧ g[i]? = some (.tail sz es.length)

theorem app_from {base sz bytes : Nat} {es xs : List AV} {g : Hp} {v : AV} (hv : AppFrom base sz es g v) (hx : xs ≠ []) (hb : (es.length + xs.length) * bytes ≤ 140737488355328) (hg : base ≤ g.length) :
    ∃ v' g', appendV false sz bytes v xs g = some (v', g') ∧ AppFrom base sz (es ++ xs) g' v' ∧ g.length ≤ g'.length ∧ ∀ (j : Nat) o, g[j]? = some o → (j < base ∨ o.solid = true) → g'[j]? = some o := by
  have hv2 : IsApp sz es g v := by
    rcases hv with h | ⟨i, _, h1, h2⟩
    · exact .inl h
    · exact .inr (.inr ⟨i, h1, h2⟩)
  obtain ⟨v', g', a, b, c, d, e, f, hf⟩ := app_ok hv2 hx hb
  refine ⟨v', g', a, ?_, d, fun j o ho hj => ?_⟩
  · rcases b with ⟨h1, _⟩ | h1 | ⟨i, h1, h2⟩
    · rw [hf] at h1; cases h1
    · rw [hf] at h1; cases h1
    · rw [hf] at h1
      simp only [AV.imm.injEq, Cap.tok.injEq, true_and] at h1
      refine .inr ⟨g.length, hg, ?_, by rw [h1.1]; exact h2⟩
      rw [hf, h1.2]
  · rcases hj with hj | hj
    · refine e j o ho fun c hc => ?_
      rcases hv with ⟨h1, _⟩ | ⟨i, h0, h1, _⟩
      · rw [h1] at hc; cases hc
      · rw [h1] at hc
        simp only [AV.imm.injEq, Cap.tok.injEq, true_and] at hc
        omega
    · exact c j o ho hj

theorem AppFrom.rd {base sz : Nat} {es : List AV} {g : Hp} {v : AV} (hv : AppFrom base sz es g v) : IsRd sz es v := by
  rcases hv with h | ⟨i, _, h, _⟩
  · exact .inl h
  · exact .inr ⟨_, h⟩
theorem AppFrom.same {base sz id : Nat} {es : List AV} {g g' : Hp} {v : AV} {x : AO} (hv : AppFrom base sz es g v) (hid : g[id]? = some x) (hs : x.solid = true) (h : same id g g') : AppFrom base sz es g' v := by
  rcases hv with h1 | ⟨i, h0, h1, h2⟩
  · exact .inl h1
  · refine .inr ⟨i, h0, h1, ?_⟩
    rw [h.2 i (List.getElem?_eq_some_iff.1 h2).1 (fun e => by subst e; rw [hid] at h2; cases h2; cases hs)]
    exact h2
theorem AppFrom.isRow {base sz : Nat} {es : List AV} {g : Hp} {v : AV} (hv : AppFrom base sz es g v) : v.isRow = false := by
  rcases hv with ⟨rfl, _⟩ | ⟨i, _, rfl, _⟩ <;> rfl
theorem same_trans {id : Nat} {a b c : Hp} (h1 : same id a b) (h2 : same id b c) : same id a c := ⟨Nat.le_trans h1.1 h2.1, fun j hj hi => by
  rw [h2.2 j (Nat.lt_of_lt_of_le hj h1.1) hi]; exact h1.2 j hj hi⟩

/-- What a list comes to. -/
def TlP (id : Nat) (h : Hp) (q : QR (List Ed)) (v : AV) (h' : Hp) : Prop := match q with
  | .err e => v = .tup [.nils, .int .i64 e] ∧ same id h h' ∧ (e = 2 ∨ e = 3)
  | .ok l rest => ∃ lv, v = .tup [lv, .int .i64 0] ∧ IsRd 6 (edsOf l) lv ∧ same id h h' ∧ h'[id]? = some (Rr rest)

set_option maxHeartbeats 4000000 in
theorem c28 {tot : Bool} {ω : Nat → Nat} {n : Nat} (id : Nat) (s : List UInt8) (h : Hp) (hid : h[id]? = some (Rr s)) (hs : s.length ≤ 1000000000) (hn : s.length + 14 < n) :
    ∃ v h', call F n tot ω 28 [.ptr id 1 0 0, .fn (.func 29) [] []] h = some (v, h') ∧ TlP id h (rdL s) v h' := by
  obtain ⟨n, rfl⟩ : ∃ m, n = m + 1 := ⟨n - 1, by omega⟩
  refine call_of (fn := a28) f28 (P := TlP id h (rdL s)) ?_
  unfold a28
  have hid2 := hid
  unfold Rr at hid2
  unfold rdL
  cases hc : rdC s with
  | err e =>
    have r1 := c46e (tot := tot) (ω := ω) (n := n) id s h hid (by omega) (by omega) hc
    have h23 : e = 2 ∨ e = 3 := by rcases rdC_err hc with ⟨_, h⟩ | ⟨h, _⟩; exact h; exact .inr h
    have he : (e != 0) = true := by rcases h23 with rfl | rfl <;> rfl
    have he2 : (e == 0) = false := by rcases h23 with rfl | rfl <;> rfl
    have hb : h.set id (.row 1 [.agg [.str s]]) = h := by
      obtain ⟨q1, q2⟩ := List.getElem?_eq_some_iff.1 hid2
      rw [← q2]; exact List.set_getElem_self q1
    simp (maxSteps := 2000000) (discharger := omega) only [xc, xo, xr, x0, x1, x2, x3, x4, x5, x6, xd, xe, xb, kont_call, kont_pure, isNil, slOk, sliceV, selems, srcElems, copyTo, dlen, eqAV, eqCells, eqS, upd, wr, place, partVals, partEs, placeEs, mapOf, keyOk, keyCells, findK, Bool.bne_false, Bool.bne_true, List.drop_zero, List.nil_append, List.append_nil, List.take_zero, List.cons_append, List.take_succ_cons, List.drop_succ_cons, List.take_nil, List.drop_nil, Reg.isA, Reg.isV, Reg.stays, Reg.onto, Bool.false_or, Bool.or_false, Bool.false_and, Bool.and_false, Bool.true_and, Bool.and_true, Bool.or_true, Bool.true_or, ↓reduceIte, reduceCtorEq, Nat.reduceEqDiff, Nat.reduceLT, Nat.reduceAdd, Nat.reduceMul, Nat.add_zero, Nat.zero_add, Nat.not_lt_zero, Nat.zero_ne_one, Nat.one_ne_zero, Nat.reduceLeDiff, Nat.lt_irrefl, Nat.zero_lt_succ, Bool.false_eq_true, Bool.not_true, Bool.not_false, Option.map_some, Option.map_none, Option.bind_some, Option.getD_some, Option.getD_none, and_self, and_true, true_and, List.length_cons, List.length_nil, List.any_nil, List.any_cons, Int.toNat_natCast, Int.cast_ofNat_Int, Int.natCast_zero, Int.natCast_nonneg, true_implies, or_true, true_or, false_or, or_false, beq_self_eq_true, Option.some.injEq, exists_eq_left', Int.reduceEq, Int.reduceLT, Int.reduceLE, Int.reduceGT, Int.reduceGE, Nat.reduceGT, Int.reduceNeg, Int.reduceToNat, Int.reduceAdd, Int.reduceMul, Int.reduceSub, Int.reducePow, decide_true, decide_false, decide_eq_true_eq, List.getElem?_cons_zero, List.getElem?_cons_succ, Nat.reduceBEq, Nat.reduceSub, exists_false, and_false, false_and, wrap_i64, hid2, r1]
    refine wpi_loop (fun k r g => k = 0 ∧ g = h ∧ r = [(0, .val (.ptr id 1 0 0)), (1, .val (.fn (.func 29) [] [])), (6, .val (.str s)), (7, .val (.int .i64 0)), (8, .val (.int .i64 e)), (9, .val .nils), (10, .val (.int .i64 0))]) 0 (by omega) ⟨rfl, rfl, rfl⟩ ?_
    rintro k r g ⟨rfl, rfl, rfl⟩
    simp (maxSteps := 2000000) (discharger := omega) only [xc, xo, xr, x0, x1, x2, x3, x4, x5, x6, xd, xe, xb, kont_call, kont_pure, isNil, slOk, sliceV, selems, srcElems, copyTo, dlen, eqAV, eqCells, eqS, upd, wr, place, partVals, partEs, placeEs, mapOf, keyOk, keyCells, findK, Bool.bne_false, Bool.bne_true, List.drop_zero, List.nil_append, List.append_nil, List.take_zero, List.cons_append, List.take_succ_cons, List.drop_succ_cons, List.take_nil, List.drop_nil, Reg.isA, Reg.isV, Reg.stays, Reg.onto, Bool.false_or, Bool.or_false, Bool.false_and, Bool.and_false, Bool.true_and, Bool.and_true, Bool.or_true, Bool.true_or, ↓reduceIte, reduceCtorEq, Nat.reduceEqDiff, Nat.reduceLT, Nat.reduceAdd, Nat.reduceMul, Nat.add_zero, Nat.zero_add, Nat.not_lt_zero, Nat.zero_ne_one, Nat.one_ne_zero, Nat.reduceLeDiff, Nat.lt_irrefl, Nat.zero_lt_succ, Bool.false_eq_true, Bool.not_true, Bool.not_false, Option.map_some, Option.map_none, Option.bind_some, Option.getD_some, Option.getD_none, and_self, and_true, true_and, List.length_cons, List.length_nil, List.any_nil, List.any_cons, Int.toNat_natCast, Int.cast_ofNat_Int, Int.natCast_zero, Int.natCast_nonneg, true_implies, or_true, true_or, false_or, or_false, beq_self_eq_true, Option.some.injEq, exists_eq_left', Int.reduceEq, Int.reduceLT, Int.reduceLE, Int.reduceGT, Int.reduceGE, Nat.reduceGT, Int.reduceNeg, Int.reduceToNat, Int.reduceAdd, Int.reduceMul, Int.reduceSub, Int.reducePow, decide_true, decide_false, decide_eq_true_eq, List.getElem?_cons_zero, List.getElem?_cons_succ, Nat.reduceBEq, Nat.reduceSub, exists_false, and_false, false_and, wrap_i64, he, he2, hid2, List.set_cons_zero, hb]
    exact ⟨rfl, ⟨Nat.le_refl _, fun _ _ _ => rfl⟩, h23⟩
  | ok m k =>
    have r1 := c46o (tot := tot) (ω := ω) (n := n) id s h hid (by omega) (by omega) hc
    have hb := dec_ok (rdC_ok hc)
    have hid3 := set_get hid (Rr (s.drop k))
    have hsm : same id h (h.set id (Rr (s.drop k))) := ⟨by simp, fun j hj hi => by rw [List.getElem?_set_ne (Ne.symm hi)]⟩
    show Wp _ _ _ _ _ (Ret _ (TlP id h (goL [] m (s.drop k))))
    generalize hR : goL [] m (s.drop k) = R
    simp (maxSteps := 2000000) (discharger := omega) only [xc, xo, xr, x0, x1, x2, x3, x4, x5, x6, xd, xe, xb, kont_call, kont_pure, isNil, slOk, sliceV, selems, srcElems, copyTo, dlen, eqAV, eqCells, eqS, upd, wr, place, partVals, partEs, placeEs, mapOf, keyOk, keyCells, findK, Bool.bne_false, Bool.bne_true, List.drop_zero, List.nil_append, List.append_nil, List.take_zero, List.cons_append, List.take_succ_cons, List.drop_succ_cons, List.take_nil, List.drop_nil, Reg.isA, Reg.isV, Reg.stays, Reg.onto, Bool.false_or, Bool.or_false, Bool.false_and, Bool.and_false, Bool.true_and, Bool.and_true, Bool.or_true, Bool.true_or, ↓reduceIte, reduceCtorEq, Nat.reduceEqDiff, Nat.reduceLT, Nat.reduceAdd, Nat.reduceMul, Nat.add_zero, Nat.zero_add, Nat.not_lt_zero, Nat.zero_ne_one, Nat.one_ne_zero, Nat.reduceLeDiff, Nat.lt_irrefl, Nat.zero_lt_succ, Bool.false_eq_true, Bool.not_true, Bool.not_false, Option.map_some, Option.map_none, Option.bind_some, Option.getD_some, Option.getD_none, and_self, and_true, true_and, List.length_cons, List.length_nil, List.any_nil, List.any_cons, Int.toNat_natCast, Int.cast_ofNat_Int, Int.natCast_zero, Int.natCast_nonneg, true_implies, or_true, true_or, false_or, or_false, beq_self_eq_true, Option.some.injEq, exists_eq_left', Int.reduceEq, Int.reduceLT, Int.reduceLE, Int.reduceGT, Int.reduceGE, Nat.reduceGT, Int.reduceNeg, Int.reduceToNat, Int.reduceAdd, Int.reduceMul, Int.reduceSub, Int.reducePow, decide_true, decide_false, decide_eq_true_eq, List.getElem?_cons_zero, List.getElem?_cons_succ, Nat.reduceBEq, Nat.reduceSub, exists_false, and_false, false_and, wrap_i64, hid2, r1]
    refine wpi_loop (fun q r g => ∃ (e : Int) (lv : AV) (i : Nat), r = [(0, .val (.ptr id 1 0 0)), (1, .val (.fn (.func 29) [] [])), (6, .val (.str s)), (7, .val (.int .i64 m)), (8, .val (.int .i64 e)), (9, .val lv), (10, .val (.int .i64 i))] ∧
      ((e = 0 ∧ ∃ acc t, g[id]? = some (Rr t) ∧ AppFrom h.length 6 (edsOf acc) g lv ∧ same id h g ∧ acc.length = i ∧ i ≤ m ∧ i + t.length ≤ s.length ∧ goL acc (m - i) t = R ∧ q = t.length + 1) ∨
       ((e = 2 ∨ e = 3) ∧ q = 0 ∧ R = .err e ∧ same id h g ∧ ∃ t, g[id]? = some (Rr t)))) ((s.drop k).length + 1) (by simp; omega)
      ⟨0, .nils, 0, rfl, .inl ⟨rfl, [], s.drop k, hid3, .inl ⟨rfl, rfl⟩, hsm, rfl, by omega, by simp, hR, rfl⟩⟩ ?_
    clear hR
    rintro q r g ⟨e, lv, i, rfl, (⟨rfl, acc, t, h1, h2, h3, rfl, h5, h6, h7, rfl⟩ | ⟨h23, rfl, rfl, h3, t, h1⟩)⟩
    · have he : ((0 : Int) == 0) = true := rfl
      have he2 : ((0 : Int) != 0) = false := rfl
      have g1 := h1
      unfold Rr at g1
      by_cases hlt : acc.length < m
      · have hlt' : ((acc.length : Nat) : Int) < (m : Int) := by omega
        obtain ⟨m', hm'⟩ : ∃ m', m - acc.length = m' + 1 := ⟨m - acc.length - 1, by omega⟩
        rw [hm'] at h7
        by_cases ht : t = []
        · subst ht
          have hq : (([] : List UInt8) == []) = true := rfl
          have h7' : R = .err 2 := by rw [← h7]; simp [goL]
          simp (maxSteps := 2000000) (discharger := omega) only [xc, xo, xr, x0, x1, x2, x3, x4, x5, x6, xd, xe, xb, kont_call, kont_pure, isNil, slOk, sliceV, selems, srcElems, copyTo, dlen, eqAV, eqCells, eqS, upd, wr, place, partVals, partEs, placeEs, mapOf, keyOk, keyCells, findK, Bool.bne_false, Bool.bne_true, List.drop_zero, List.nil_append, List.append_nil, List.take_zero, List.cons_append, List.take_succ_cons, List.drop_succ_cons, List.take_nil, List.drop_nil, Reg.isA, Reg.isV, Reg.stays, Reg.onto, Bool.false_or, Bool.or_false, Bool.false_and, Bool.and_false, Bool.true_and, Bool.and_true, Bool.or_true, Bool.true_or, ↓reduceIte, reduceCtorEq, Nat.reduceEqDiff, Nat.reduceLT, Nat.reduceAdd, Nat.reduceMul, Nat.add_zero, Nat.zero_add, Nat.not_lt_zero, Nat.zero_ne_one, Nat.one_ne_zero, Nat.reduceLeDiff, Nat.lt_irrefl, Nat.zero_lt_succ, Bool.false_eq_true, Bool.not_true, Bool.not_false, Option.map_some, Option.map_none, Option.bind_some, Option.getD_some, Option.getD_none, and_self, and_true, true_and, List.length_cons, List.length_nil, List.any_nil, List.any_cons, Int.toNat_natCast, Int.cast_ofNat_Int, Int.natCast_zero, Int.natCast_nonneg, true_implies, or_true, true_or, false_or, or_false, beq_self_eq_true, Option.some.injEq, exists_eq_left', Int.reduceEq, Int.reduceLT, Int.reduceLE, Int.reduceGT, Int.reduceGE, Nat.reduceGT, Int.reduceNeg, Int.reduceToNat, Int.reduceAdd, Int.reduceMul, Int.reduceSub, Int.reducePow, decide_true, decide_false, decide_eq_true_eq, List.getElem?_cons_zero, List.getElem?_cons_succ, Nat.reduceBEq, Nat.reduceSub, exists_false, and_false, false_and, wrap_i64, he, hlt', g1, hq]
          exact ⟨0, by omega, 2, lv, acc.length + 1, rfl, .inr ⟨.inl rfl, rfl, h7', h3, _, rfl⟩⟩
        · have hq : (t == []) = false := by simp [ht]
          obtain ⟨v, g', r2, p2⟩ := c29 (tot := tot) (ω := ω) (n := n) id t g h1 (by omega) (by omega)
          cases hE : rdE t with
          | err e =>
            rw [hE] at p2
            obtain ⟨rfl, p3, t', p4⟩ := p2
            have h23 := rdE_e hE
            have q1 : (e == 0) = false := by rcases h23 with rfl | rfl <;> rfl
            have h7' : R = .err e := by rw [← h7]; simp [goL, ht, hE]
            unfold edOf zeroE at r2
            simp (maxSteps := 2000000) (discharger := omega) only [xc, xo, xr, x0, x1, x2, x3, x4, x5, x6, xd, xe, xb, kont_call, kont_pure, isNil, slOk, sliceV, selems, srcElems, copyTo, dlen, eqAV, eqCells, eqS, upd, wr, place, partVals, partEs, placeEs, mapOf, keyOk, keyCells, findK, Bool.bne_false, Bool.bne_true, List.drop_zero, List.nil_append, List.append_nil, List.take_zero, List.cons_append, List.take_succ_cons, List.drop_succ_cons, List.take_nil, List.drop_nil, Reg.isA, Reg.isV, Reg.stays, Reg.onto, Bool.false_or, Bool.or_false, Bool.false_and, Bool.and_false, Bool.true_and, Bool.and_true, Bool.or_true, Bool.true_or, ↓reduceIte, reduceCtorEq, Nat.reduceEqDiff, Nat.reduceLT, Nat.reduceAdd, Nat.reduceMul, Nat.add_zero, Nat.zero_add, Nat.not_lt_zero, Nat.zero_ne_one, Nat.one_ne_zero, Nat.reduceLeDiff, Nat.lt_irrefl, Nat.zero_lt_succ, Bool.false_eq_true, Bool.not_true, Bool.not_false, Option.map_some, Option.map_none, Option.bind_some, Option.getD_some, Option.getD_none, and_self, and_true, true_and, List.length_cons, List.length_nil, List.any_nil, List.any_cons, Int.toNat_natCast, Int.cast_ofNat_Int, Int.natCast_zero, Int.natCast_nonneg, true_implies, or_true, true_or, false_or, or_false, beq_self_eq_true, Option.some.injEq, exists_eq_left', Int.reduceEq, Int.reduceLT, Int.reduceLE, Int.reduceGT, Int.reduceGE, Nat.reduceGT, Int.reduceNeg, Int.reduceToNat, Int.reduceAdd, Int.reduceMul, Int.reduceSub, Int.reducePow, decide_true, decide_false, decide_eq_true_eq, List.getElem?_cons_zero, List.getElem?_cons_succ, Nat.reduceBEq, Nat.reduceSub, exists_false, and_false, false_and, wrap_i64, he, hlt', g1, hq, r2, q1, List.set_cons_zero]
            exact ⟨0, by omega, e, lv, acc.length + 1, rfl, .inr ⟨h23, rfl, h7', same_trans h3 p3, _, p4⟩⟩
          | ok x rest =>
            rw [hE] at p2
            obtain ⟨rfl, p3, p4⟩ := p2
            have hlr := rdE_lt hE
            have h7' : goL (acc ++ [x]) m' rest = R := by rw [← h7]; simp [goL, ht, hE]
            have a1 := h2.same h1 rfl p3
            obtain ⟨lv', g2, a2, a3, a4, a5⟩ := app_from (bytes := 64) (xs := [edOf x]) a1 (by simp) (by rw [edsOf_len]; simp; omega) (Nat.le_trans h3.1 p3.1)
            have ar := a1.isRow
            have h2r : same id h g2 := ⟨Nat.le_trans h3.1 (Nat.le_trans p3.1 a4), fun j hj hi => by
              have e1 := (same_trans h3 p3).2 j hj hi
              have e2 : h[j]? = some h[j] := List.getElem?_eq_getElem hj
              rw [e2] at e1
              rw [a5 j _ e1 (.inl hj), e2]⟩
            have h1r := a5 id _ p4 (.inr rfl)
            have hed : edsOf acc ++ [edOf x] = edsOf (acc ++ [x]) := by simp [edsOf]
            rw [hed] at a3
            unfold edOf at r2 a2
            simp (maxSteps := 2000000) (discharger := omega) only [xc, xo, xr, x0, x1, x2, x3, x4, x5, x6, xd, xe, xb, kont_call, kont_pure, isNil, slOk, sliceV, selems, srcElems, copyTo, dlen, eqAV, eqCells, eqS, upd, wr, place, partVals, partEs, placeEs, mapOf, keyOk, keyCells, findK, Bool.bne_false, Bool.bne_true, List.drop_zero, List.nil_append, List.append_nil, List.take_zero, List.cons_append, List.take_succ_cons, List.drop_succ_cons, List.take_nil, List.drop_nil, Reg.isA, Reg.isV, Reg.stays, Reg.onto, Bool.false_or, Bool.or_false, Bool.false_and, Bool.and_false, Bool.true_and, Bool.and_true, Bool.or_true, Bool.true_or, ↓reduceIte, reduceCtorEq, Nat.reduceEqDiff, Nat.reduceLT, Nat.reduceAdd, Nat.reduceMul, Nat.add_zero, Nat.zero_add, Nat.not_lt_zero, Nat.zero_ne_one, Nat.one_ne_zero, Nat.reduceLeDiff, Nat.lt_irrefl, Nat.zero_lt_succ, Bool.false_eq_true, Bool.not_true, Bool.not_false, Option.map_some, Option.map_none, Option.bind_some, Option.getD_some, Option.getD_none, and_self, and_true, true_and, List.length_cons, List.length_nil, List.any_nil, List.any_cons, Int.toNat_natCast, Int.cast_ofNat_Int, Int.natCast_zero, Int.natCast_nonneg, true_implies, or_true, true_or, false_or, or_false, beq_self_eq_true, Option.some.injEq, exists_eq_left', Int.reduceEq, Int.reduceLT, Int.reduceLE, Int.reduceGT, Int.reduceGE, Nat.reduceGT, Int.reduceNeg, Int.reduceToNat, Int.reduceAdd, Int.reduceMul, Int.reduceSub, Int.reducePow, decide_true, decide_false, decide_eq_true_eq, List.getElem?_cons_zero, List.getElem?_cons_succ, Nat.reduceBEq, Nat.reduceSub, exists_false, and_false, false_and, wrap_i64, he, hlt', g1, hq, r2, List.set_cons_zero, List.replicate_succ, List.replicate_zero, ar, a2]
            exact ⟨rest.length + 1, by omega, 0, lv', acc.length + 1, rfl, .inl ⟨rfl, acc ++ [x], rest, h1r, a3, h2r, by simp, by omega, by omega, by rw [show m - (acc.length + 1) = m' by omega]; exact h7', rfl⟩⟩
      · have hlt' : ¬ ((acc.length : Nat) : Int) < (m : Int) := by omega
        have h7' : R = .ok acc t := by rw [← h7, show m - acc.length = 0 by omega]; rfl
        simp (maxSteps := 2000000) (discharger := omega) only [xc, xo, xr, x0, x1, x2, x3, x4, x5, x6, xd, xe, xb, kont_call, kont_pure, isNil, slOk, sliceV, selems, srcElems, copyTo, dlen, eqAV, eqCells, eqS, upd, wr, place, partVals, partEs, placeEs, mapOf, keyOk, keyCells, findK, Bool.bne_false, Bool.bne_true, List.drop_zero, List.nil_append, List.append_nil, List.take_zero, List.cons_append, List.take_succ_cons, List.drop_succ_cons, List.take_nil, List.drop_nil, Reg.isA, Reg.isV, Reg.stays, Reg.onto, Bool.false_or, Bool.or_false, Bool.false_and, Bool.and_false, Bool.true_and, Bool.and_true, Bool.or_true, Bool.true_or, ↓reduceIte, reduceCtorEq, Nat.reduceEqDiff, Nat.reduceLT, Nat.reduceAdd, Nat.reduceMul, Nat.add_zero, Nat.zero_add, Nat.not_lt_zero, Nat.zero_ne_one, Nat.one_ne_zero, Nat.reduceLeDiff, Nat.lt_irrefl, Nat.zero_lt_succ, Bool.false_eq_true, Bool.not_true, Bool.not_false, Option.map_some, Option.map_none, Option.bind_some, Option.getD_some, Option.getD_none, and_self, and_true, true_and, List.length_cons, List.length_nil, List.any_nil, List.any_cons, Int.toNat_natCast, Int.cast_ofNat_Int, Int.natCast_zero, Int.natCast_nonneg, true_implies, or_true, true_or, false_or, or_false, beq_self_eq_true, Option.some.injEq, exists_eq_left', Int.reduceEq, Int.reduceLT, Int.reduceLE, Int.reduceGT, Int.reduceGE, Nat.reduceGT, Int.reduceNeg, Int.reduceToNat, Int.reduceAdd, Int.reduceMul, Int.reduceSub, Int.reducePow, decide_true, decide_false, decide_eq_true_eq, List.getElem?_cons_zero, List.getElem?_cons_succ, Nat.reduceBEq, Nat.reduceSub, exists_false, and_false, false_and, wrap_i64, he, he2, hlt', g1]
        rw [h7']
        exact ⟨lv, rfl, h2.rd, h3, h1⟩
    · have he : (e == 0) = false := by rcases h23 with rfl | rfl <;> rfl
      have he2 : (e != 0) = true := by rcases h23 with rfl | rfl <;> rfl
      have g1 := h1
      unfold Rr at g1
      simp (maxSteps := 2000000) (discharger := omega) only [xc, xo, xr, x0, x1, x2, x3, x4, x5, x6, xd, xe, xb, kont_call, kont_pure, isNil, slOk, sliceV, selems, srcElems, copyTo, dlen, eqAV, eqCells, eqS, upd, wr, place, partVals, partEs, placeEs, mapOf, keyOk, keyCells, findK, Bool.bne_false, Bool.bne_true, List.drop_zero, List.nil_append, List.append_nil, List.take_zero, List.cons_append, List.take_succ_cons, List.drop_succ_cons, List.take_nil, List.drop_nil, Reg.isA, Reg.isV, Reg.stays, Reg.onto, Bool.false_or, Bool.or_false, Bool.false_and, Bool.and_false, Bool.true_and, Bool.and_true, Bool.or_true, Bool.true_or, ↓reduceIte, reduceCtorEq, Nat.reduceEqDiff, Nat.reduceLT, Nat.reduceAdd, Nat.reduceMul, Nat.add_zero, Nat.zero_add, Nat.not_lt_zero, Nat.zero_ne_one, Nat.one_ne_zero, Nat.reduceLeDiff, Nat.lt_irrefl, Nat.zero_lt_succ, Bool.false_eq_true, Bool.not_true, Bool.not_false, Option.map_some, Option.map_none, Option.bind_some, Option.getD_some, Option.getD_none, and_self, and_true, true_and, List.length_cons, List.length_nil, List.any_nil, List.any_cons, Int.toNat_natCast, Int.cast_ofNat_Int, Int.natCast_zero, Int.natCast_nonneg, true_implies, or_true, true_or, false_or, or_false, beq_self_eq_true, Option.some.injEq, exists_eq_left', Int.reduceEq, Int.reduceLT, Int.reduceLE, Int.reduceGT, Int.reduceGE, Nat.reduceGT, Int.reduceNeg, Int.reduceToNat, Int.reduceAdd, Int.reduceMul, Int.reduceSub, Int.reducePow, decide_true, decide_false, decide_eq_true_eq, List.getElem?_cons_zero, List.getElem?_cons_succ, Nat.reduceBEq, Nat.reduceSub, exists_false, and_false, false_and, wrap_i64, he, he2, g1, List.set_cons_zero]
      exact ⟨rfl, ⟨by simpa using h3.1, fun j hj hi => by rw [List.getElem?_set_ne (Ne.symm hi)]; exact h3.2 j hj hi⟩, h23⟩

/-- Bytes as edits: an error, or edits. -/
def rdU (s : List UInt8) : Int ⊕ List Ed := match rdL s with
  | .err e => .inl e
  | .ok l rest => if rest = [] then .inr l else .inl 5

def UnP (q : Int ⊕ List Ed) (v : AV) : Prop := match q with
  | .inl e => v = .tup [.nils, .int .i64 e] ∧ (e = 2 ∨ e = 3 ∨ e = 5)
  | .inr l => ∃ lv, v = .tup [lv, .int .i64 0] ∧ IsRd 6 (edsOf l) lv

theorem c9 {tot : Bool} {ω : Nat → Nat} {n : Nat} (s : List UInt8) (h : Hp) (hs : s.length ≤ 1000000000) (hn : s.length + 15 < n) :
    ∃ v h', call F n tot ω 9 [.str s] h = some (v, h') ∧ UnP (rdU s) v := by
  obtain ⟨n, rfl⟩ : ∃ m, n = m + 1 := ⟨n - 1, by omega⟩
  refine call_of (fn := a9) f9 (P := fun v _ => UnP (rdU s) v) ?_
  unfold a9
  have r1 := c27 (tot := tot) (ω := ω) (n := n) s h (by omega)
  obtain ⟨v, h2, r2, p2⟩ := c28 (tot := tot) (ω := ω) (n := n) h.length s (h ++ [.row 1 [.agg [.str s]]]) (by simp [Rr]) hs (by omega)
  unfold rdU
  cases hL : rdL s with
  | err e =>
    rw [hL] at p2
    obtain ⟨rfl, p3, h23⟩ := p2
    have he : (e != 0) = true := by rcases h23 with rfl | rfl <;> rfl
    simp (maxSteps := 2000000) (discharger := omega) only [xc, xo, xr, x0, x1, x2, x3, x4, x5, x6, xd, xe, xb, kont_call, kont_pure, isNil, slOk, sliceV, selems, srcElems, copyTo, dlen, eqAV, eqCells, eqS, upd, wr, place, partVals, partEs, placeEs, mapOf, keyOk, keyCells, findK, Bool.bne_false, Bool.bne_true, List.drop_zero, List.nil_append, List.append_nil, List.take_zero, List.cons_append, List.take_succ_cons, List.drop_succ_cons, List.take_nil, List.drop_nil, Reg.isA, Reg.isV, Reg.stays, Reg.onto, Bool.false_or, Bool.or_false, Bool.false_and, Bool.and_false, Bool.true_and, Bool.and_true, Bool.or_true, Bool.true_or, ↓reduceIte, reduceCtorEq, Nat.reduceEqDiff, Nat.reduceLT, Nat.reduceAdd, Nat.reduceMul, Nat.add_zero, Nat.zero_add, Nat.not_lt_zero, Nat.zero_ne_one, Nat.one_ne_zero, Nat.reduceLeDiff, Nat.lt_irrefl, Nat.zero_lt_succ, Bool.false_eq_true, Bool.not_true, Bool.not_false, Option.map_some, Option.map_none, Option.bind_some, Option.getD_some, Option.getD_none, and_self, and_true, true_and, List.length_cons, List.length_nil, List.any_nil, List.any_cons, Int.toNat_natCast, Int.cast_ofNat_Int, Int.natCast_zero, Int.natCast_nonneg, true_implies, or_true, true_or, false_or, or_false, beq_self_eq_true, Option.some.injEq, exists_eq_left', Int.reduceEq, Int.reduceLT, Int.reduceLE, Int.reduceGT, Int.reduceGE, Nat.reduceGT, Int.reduceNeg, Int.reduceToNat, Int.reduceAdd, Int.reduceMul, Int.reduceSub, Int.reducePow, decide_true, decide_false, decide_eq_true_eq, List.getElem?_cons_zero, List.getElem?_cons_succ, Nat.reduceBEq, Nat.reduceSub, exists_false, and_false, false_and, wrap_i64, r1, r2, he]
    exact ⟨rfl, by omega⟩
  | ok l rest =>
    rw [hL] at p2
    obtain ⟨lv, rfl, p3, p4, p5⟩ := p2
    have r3 := c32 (tot := tot) (ω := ω) (n := n) h.length rest h2 p5 (by omega)
    have he : ((0 : Int) != 0) = false := rfl
    by_cases hr : rest = []
    · rw [if_pos hr] at r3
      simp (maxSteps := 2000000) (discharger := omega) only [xc, xo, xr, x0, x1, x2, x3, x4, x5, x6, xd, xe, xb, kont_call, kont_pure, isNil, slOk, sliceV, selems, srcElems, copyTo, dlen, eqAV, eqCells, eqS, upd, wr, place, partVals, partEs, placeEs, mapOf, keyOk, keyCells, findK, Bool.bne_false, Bool.bne_true, List.drop_zero, List.nil_append, List.append_nil, List.take_zero, List.cons_append, List.take_succ_cons, List.drop_succ_cons, List.take_nil, List.drop_nil, Reg.isA, Reg.isV, Reg.stays, Reg.onto, Bool.false_or, Bool.or_false, Bool.false_and, Bool.and_false, Bool.true_and, Bool.and_true, Bool.or_true, Bool.true_or, ↓reduceIte, reduceCtorEq, Nat.reduceEqDiff, Nat.reduceLT, Nat.reduceAdd, Nat.reduceMul, Nat.add_zero, Nat.zero_add, Nat.not_lt_zero, Nat.zero_ne_one, Nat.one_ne_zero, Nat.reduceLeDiff, Nat.lt_irrefl, Nat.zero_lt_succ, Bool.false_eq_true, Bool.not_true, Bool.not_false, Option.map_some, Option.map_none, Option.bind_some, Option.getD_some, Option.getD_none, and_self, and_true, true_and, List.length_cons, List.length_nil, List.any_nil, List.any_cons, Int.toNat_natCast, Int.cast_ofNat_Int, Int.natCast_zero, Int.natCast_nonneg, true_implies, or_true, true_or, false_or, or_false, beq_self_eq_true, Option.some.injEq, exists_eq_left', Int.reduceEq, Int.reduceLT, Int.reduceLE, Int.reduceGT, Int.reduceGE, Nat.reduceGT, Int.reduceNeg, Int.reduceToNat, Int.reduceAdd, Int.reduceMul, Int.reduceSub, Int.reducePow, decide_true, decide_false, decide_eq_true_eq, List.getElem?_cons_zero, List.getElem?_cons_succ, Nat.reduceBEq, Nat.reduceSub, exists_false, and_false, false_and, wrap_i64, r1, r2, r3, he, hr]
      exact ⟨lv, rfl, p3⟩
    · rw [if_neg hr] at r3
      have he2 : ((5 : Int) != 0) = true := rfl
      simp (maxSteps := 2000000) (discharger := omega) only [xc, xo, xr, x0, x1, x2, x3, x4, x5, x6, xd, xe, xb, kont_call, kont_pure, isNil, slOk, sliceV, selems, srcElems, copyTo, dlen, eqAV, eqCells, eqS, upd, wr, place, partVals, partEs, placeEs, mapOf, keyOk, keyCells, findK, Bool.bne_false, Bool.bne_true, List.drop_zero, List.nil_append, List.append_nil, List.take_zero, List.cons_append, List.take_succ_cons, List.drop_succ_cons, List.take_nil, List.drop_nil, Reg.isA, Reg.isV, Reg.stays, Reg.onto, Bool.false_or, Bool.or_false, Bool.false_and, Bool.and_false, Bool.true_and, Bool.and_true, Bool.or_true, Bool.true_or, ↓reduceIte, reduceCtorEq, Nat.reduceEqDiff, Nat.reduceLT, Nat.reduceAdd, Nat.reduceMul, Nat.add_zero, Nat.zero_add, Nat.not_lt_zero, Nat.zero_ne_one, Nat.one_ne_zero, Nat.reduceLeDiff, Nat.lt_irrefl, Nat.zero_lt_succ, Bool.false_eq_true, Bool.not_true, Bool.not_false, Option.map_some, Option.map_none, Option.bind_some, Option.getD_some, Option.getD_none, and_self, and_true, true_and, List.length_cons, List.length_nil, List.any_nil, List.any_cons, Int.toNat_natCast, Int.cast_ofNat_Int, Int.natCast_zero, Int.natCast_nonneg, true_implies, or_true, true_or, false_or, or_false, beq_self_eq_true, Option.some.injEq, exists_eq_left', Int.reduceEq, Int.reduceLT, Int.reduceLE, Int.reduceGT, Int.reduceGE, Nat.reduceGT, Int.reduceNeg, Int.reduceToNat, Int.reduceAdd, Int.reduceMul, Int.reduceSub, Int.reducePow, decide_true, decide_false, decide_eq_true_eq, List.getElem?_cons_zero, List.getElem?_cons_succ, Nat.reduceBEq, Nat.reduceSub, exists_false, and_false, false_and, wrap_i64, r1, r2, r3, he, he2, hr]
      exact ⟨rfl, by omega⟩

end Go.Proofs.Ytlognommhffmcaa.Im

/- Joined: S13XFi, S13XAwake, S13XLw. -/
import Derived.Test.YtlognommhffmcaaRe
import Derived.Test.YtlognommhffmcaaTabs
import Derived.KernelRfl
import Derived.Test.YtlognommhffmcaaRs
import Derived.Test.YtlognommhffmcaaSm
/- S13XFi: the program's files. -/
set_option linter.unusedVariables false
set_option linter.unusedSimpArgs false
open Go Go.Im
namespace Go.Proofs.Ytlognommhffmcaa.Im
theorem keepLo_keepR {lo : Nat} {h h' : Hp} (k : KeepLo lo h h') {sz l2 : Nat} {es : List AV} {v : AV} (r : RowAt h sz l2 es v) (hid : ∀ id post, v = .row id sz 0 es.length false → h[id]? = some (.row sz (es ++ post)) → id < lo) : RowAt h' sz l2 es v := by
  rcases r with ⟨rfl, rfl⟩ | ⟨id, post, rfl, e, g⟩
  · exact .inl ⟨rfl, rfl⟩
  · exact .inr ⟨id, post, rfl, k.2 id _ (hid id post rfl e) e, g⟩
theorem rowAt_keepLo {h h' : Hp} (k : KeepLo h.length h h') {sz l2 : Nat} {es : List AV} {v : AV} (r : RowAt h sz l2 es v) : RowAt h' sz l2 es v :=
  keepLo_keepR k r fun id post _ e => (List.getElem?_eq_some_iff.1 e).1
section
variable {tot : Bool} {ω : Nat → Nat} {n : Nat} (s : Ste) (v : AV) (h : Hp) (lo : Nat)

set_option maxRecDepth 100000 in
set_option maxHeartbeats 8000000 in
theorem c18 (hv : StAt h lo s v) (hz : s.sz ≤ 100000) (hn : 2 * s.sz + 50 < n) :
    ∃ v' h' l', call F n tot ω 18 [v] h = some (v', h') ∧ RowAt h' 1 h.length (List.map inOf l') v' ∧ KeepLo h.length h h' ∧ l'.Perm s.files ∧ l'.Pairwise fun x y => x ≤ y := by
  obtain ⟨n, rfl⟩ : ∃ m, n = m + 1 := ⟨n - 1, by omega⟩
  have hszd : s.sz = s.tb.length + s.sr.length + s.lg.length := rfl
  suffices hx : ∃ v' h', call F (n + 1) tot ω 18 [v] h = some (v', h') ∧ ∃ l', RowAt h' 1 h.length (List.map inOf l') v' ∧ KeepLo h.length h h' ∧ l'.Perm s.files ∧ l'.Pairwise fun x y => x ≤ y by
    obtain ⟨v', h', e1, l', e2⟩ := hx
    exact ⟨v', h', l', e1, e2⟩
  refine call_of (fn := a18) f18 (P := fun v' h' => ∃ l', RowAt h' 1 h.length (List.map inOf l') v' ∧ KeepLo h.length h h' ∧ l'.Perm s.files ∧ l'.Pairwise fun x y => x ≤ y) ?_
  obtain ⟨tv, sv, lv, rfl, r1, r2, r3⟩ := hv
  have n1 := r1.len
  have n2 := r2.len
  rw [List.length_map] at n1 n2
  have b1 := r1.subv 1
  have b2 := r2.subv 1
  have b3 := r3.subv 1
  obtain ⟨lv', m, k0, k1⟩ := c40 (tot := tot) (ω := ω) (n := n) lv _ lo h r3 (by rw [List.length_map]; omega) (by omega)
  have hk1 : KeepLo h.length h (h ++ m) := .app _
  unfold a18
  simp (maxSteps := 2000000) (discharger := omega) only [xz,xc,xo,xr,x0,x1,x4,xd,kont_call,Reg.isA,Reg.isV,Reg.stays,Reg.onto,↓reduceIte,reduceCtorEq,Nat.reduceEqDiff,Nat.reduceLT,Nat.reduceAdd,Nat.reduceBEq,n1,k0]
  have kp : ∀ g, KeepLo h.length h g → RowAt g 5 lo (List.map tbOf s.tb) tv ∧ RowAt g 2 lo (List.map srOf s.sr) sv := fun g hg => ⟨rowAt_keepLo hg r1, rowAt_keepLo hg r2⟩
  refine wpi_loop' (fun k r g => ∃ (i : Nat) (u : AV), r = [(1, .var (.agg [tv, sv, lv, .int .i64 s.nx])), (3, .val u), (12, .val tv), (13, .val (.int .i64 s.tb.length)), (14, .val (.int .i64 i))] ∧ i ≤ s.tb.length ∧ k = s.tb.length - i ∧ RowAt g 1 h.length ((s.lg ++ (s.tb.take i).map (·.f)).map inOf) u ∧ KeepLo h.length h g)
    (fun e r g => e = .exit 0 ∧ ∃ u xr, r = [(1, .var (.agg [tv, sv, lv, .int .i64 s.nx])), (3, .val u)] ++ xr ∧ (∃ i : Int, xr = [(12, .val tv), (13, .val (.int .i64 s.tb.length)), (14, .val (.int .i64 i)), (15, .val (.bool false))]) ∧ RowAt g 1 h.length ((s.lg ++ s.tb.map (·.f)).map inOf) u ∧ KeepLo h.length h g) s.tb.length (by omega)
    ⟨0, lv', rfl, by omega, by omega, by simpa using k1, hk1⟩ ?_ ?_
  · rintro k r g ⟨i, u, rfl, hi, rfl, hu, hk⟩
    by_cases hlt : i < s.tb.length
    · obtain ⟨id, post, rfl, e0, _⟩ := (kp g hk).1.row (i := i) (by rw [List.length_map]; exact hlt)
      have e1 := map_get (f := tbOf) hlt
      have ht : s.tb.take (i + 1) = s.tb.take i ++ [s.tb[i]] := by simp
      generalize s.tb[i] = t at e1 ht
      have e2 : (List.map tbOf s.tb ++ post)[i]? = some (.agg [.int .i64 t.f, .int .i64 t.l, .int .i64 t.c, .str t.lo, .str t.hi]) := by rw [List.getElem?_append_left (by simpa using hlt)]; exact e1
      have e3 : (g ++ [AO.row 1 [AV.int .i64 t.f]])[g.length]? = some (.row 1 [.int .i64 t.f]) := by simp
      obtain ⟨u', g', a1, a2, a3⟩ := row_app (bytes := 8) (x := inOf t.f) (hu.more (m := [AO.row 1 [AV.int .i64 t.f]])) (by simp; omega) (by have := hk.1; simp; omega)
      have a1' : appendV true 1 8 u [.int .i64 t.f] (g ++ [AO.row 1 [AV.int .i64 t.f]]) = some (u', g') := a1
      simp (maxSteps := 2000000) (discharger := omega) only [xz,xc,xo,xr,x0,x1,x5,xd,xb,selems,srcElems,wr,partEs,placeEs,Reg.isA,Reg.isV,Reg.stays,Reg.onto,↓reduceIte,Nat.reduceEqDiff,Nat.reduceLT,Nat.reduceAdd,Nat.zero_lt_succ,Nat.reduceBEq,xu,List.set_cons_zero,wrap_i64,int_lt_t,int_le_t,nat_le_t,e0,e2,e3,a1',List.length_map,List.replicate_succ,List.replicate_zero]
      refine ⟨s.tb.length - (i + 1), by omega, i + 1, u', rfl, by omega, rfl, ?_, hk.trans ((KeepLo.app _).trans (KeepR.lo a3))⟩
      rw [ht]; simpa using a2
    · simp (maxSteps := 2000000) (discharger := omega) only [xz,xc,xo,xr,x1,xd,Reg.isA,Reg.isV,Reg.stays,Reg.onto,↓reduceIte,Nat.reduceEqDiff,Nat.reduceLT,int_lt_f]
      obtain rfl : i = s.tb.length := by omega
      rw [List.take_length] at hu
      exact ⟨u, _, rfl, ⟨_, rfl⟩, hu, hk⟩
  rintro e r g ⟨rfl, u, xr, rfl, ⟨i0, rfl⟩, hu, hk⟩
  simp (maxSteps := 2000000) (discharger := omega) only [xz,xc,xo,xr,x0,x1,x4,xd,Reg.isA,Reg.isV,Reg.stays,Reg.onto,↓reduceIte,Nat.reduceEqDiff,Nat.reduceLT,Nat.reduceBEq,n2]
  refine wpi_loop' (fun k r g => ∃ (i : Nat) (u : AV), r = [(3, .val u), (25, .val sv), (26, .val (.int .i64 s.sr.length)), (27, .val (.int .i64 i))] ∧ i ≤ s.sr.length ∧ k = s.sr.length - i ∧ RowAt g 1 h.length ((s.lg ++ s.tb.map (·.f) ++ (s.sr.take i).map (·.f)).map inOf) u ∧ KeepLo h.length h g)
    (fun e r g => e = .exit 2 ∧ ∃ u xr, r = [(3, .val u)] ++ xr ∧ (∃ i : Int, xr = [(25, .val sv), (26, .val (.int .i64 s.sr.length)), (27, .val (.int .i64 i)), (28, .val (.bool false))]) ∧ RowAt g 1 h.length ((s.lg ++ s.tb.map (·.f) ++ s.sr.map (·.f)).map inOf) u ∧ KeepLo h.length h g) s.sr.length (by omega)
    ⟨0, u, rfl, by omega, by omega, by simpa using hu, hk⟩ ?_ ?_
  · rintro k r g ⟨i, u, rfl, hi, rfl, hu, hk⟩
    by_cases hlt : i < s.sr.length
    · obtain ⟨id, post, rfl, e0, _⟩ := (kp g hk).2.row (i := i) (by rw [List.length_map]; exact hlt)
      have e1 := map_get (f := srOf) hlt
      have ht : s.sr.take (i + 1) = s.sr.take i ++ [s.sr[i]] := by simp
      generalize s.sr[i] = t at e1 ht
      have e2 : (List.map srOf s.sr ++ post)[i]? = some (.agg [.int .i64 t.f, .int .i64 t.t]) := by rw [List.getElem?_append_left (by simpa using hlt)]; exact e1
      have e3 : (g ++ [AO.row 1 [AV.int .i64 t.f]])[g.length]? = some (.row 1 [.int .i64 t.f]) := by simp
      obtain ⟨u', g', a1, a2, a3⟩ := row_app (bytes := 8) (x := inOf t.f) (hu.more (m := [AO.row 1 [AV.int .i64 t.f]])) (by simp; omega) (by have := hk.1; simp; omega)
      have a1' : appendV true 1 8 u [.int .i64 t.f] (g ++ [AO.row 1 [AV.int .i64 t.f]]) = some (u', g') := a1
      simp (maxSteps := 2000000) (discharger := omega) only [xz,xc,xo,xr,x0,x1,x5,xd,xb,selems,srcElems,wr,partEs,placeEs,Reg.isA,Reg.isV,Reg.stays,Reg.onto,↓reduceIte,Nat.reduceEqDiff,Nat.reduceLT,Nat.reduceAdd,Nat.zero_lt_succ,Nat.reduceBEq,xu,List.set_cons_zero,wrap_i64,int_lt_t,int_le_t,nat_le_t,e0,e2,e3,a1',List.length_map,List.replicate_succ,List.replicate_zero]
      refine ⟨s.sr.length - (i + 1), by omega, i + 1, u', rfl, by omega, rfl, ?_, hk.trans ((KeepLo.app _).trans (KeepR.lo a3))⟩
      rw [ht]; simpa using a2
    · simp (maxSteps := 2000000) (discharger := omega) only [xz,xc,xo,xr,x1,xd,Reg.isA,Reg.isV,Reg.stays,Reg.onto,↓reduceIte,Nat.reduceEqDiff,Nat.reduceLT,int_lt_f]
      obtain rfl : i = s.sr.length := by omega
      rw [List.take_length] at hu
      exact ⟨u, _, rfl, ⟨_, rfl⟩, hu, hk⟩
  rintro e r g ⟨rfl, u, xr, rfl, ⟨i0, rfl⟩, hu, hk⟩
  obtain ⟨g2, l', w1, w2, w3, w4, w5⟩ := c43 (tot := tot) (ω := ω) (n := n) u (s.lg ++ s.tb.map (·.f) ++ s.sr.map (·.f)) h.length g hu (by simp; omega) (by simp; omega)
  simp (maxSteps := 2000000) (discharger := omega) only [xz,xc,xo,xr,x0,xd,kont_call,Reg.isA,Reg.isV,Reg.stays,Reg.onto,↓reduceIte,Nat.reduceEqDiff,Nat.reduceLT,exists_eq_left',w1]
  refine ⟨l', w2, hk.trans (KeepR.lo w3), w4.trans ?_, w5⟩
  unfold Ste.files
  rw [List.append_assoc, ← List.append_assoc (s.tb.map _)]
  exact List.perm_append_comm
end
end Go.Proofs.Ytlognommhffmcaa.Im

/- S13XAwake: the laws' first look, run. -/
open Go Go.Im
namespace Go.Proofs.Ytlognommhffmcaa.Im

def H1 : Hp := ((call F 200 true (fun _ => 0) 6 [] []).getD (.bool false, [])).2

def H2 : Hp := ((call F 200 true (fun _ => 0) 6 [] H1).getD (.bool false, [])).2

theorem awake1 (m : Nat) (ω : Nat → Nat) : call F (m + 200) true ω 6 [] [] = some (.bool true, H1) := by kernel_rfl
theorem awake2 (m : Nat) (ω : Nat → Nat) : call F (m + 200) true ω 6 [] H1 = some (.bool true, H2) := by kernel_rfl

end Go.Proofs.Ytlognommhffmcaa.Im

/- S13XLw: the program's Apply and the document's agree: the law's walk. -/
set_option linter.unusedVariables false
set_option linter.unusedSimpArgs false
open Go Go.Im
namespace Go.Proofs.Ytlognommhffmcaa.Im

theorem w_regionA2 {K : Kont} {n : Nat} {r : Regs} {h : Hp} {Q : AE → Regs → Hp → Prop} (o1 o2 : List Nat) (ops : List AOper) (ks : List Nat) :
    Wp K n (.regionA [o1, o2] ops ks) r h Q = Wo K (inOrd ops o1) r h (fun r' h' => Wo K (inOrd ops o2) r h (Is r' h') ∧ Settle ks Q r' h') := by
  apply propext
  constructor
  · rintro ⟨e, r', h', h1, h2⟩
    simp only [exec,execA] at h1
    split at h1
    · rename_i r2 h3 e1
      split at e1
      · rename_i a1 b1 a2 b2 e2 e3
        split at e1
        · rename_i e4
          simp only [Bool.and_eq_true] at e4
          have e5 := (eqRegs_iff _ _).1 e4.1
          have e6 := (eqHp_iff _ _).1 e4.2
          subst e5 e6
          cases e1; cases h1
          exact ⟨_, _, e2, ⟨_, _, e3, rfl, rfl⟩, h2⟩
        · cases e1
      · cases e1
    · cases h1
  · rintro ⟨r', h', h1, ⟨_, _, h2, rfl, rfl⟩, h3⟩
    exact wpi_regionA2 h1 h2 h3

theorem run_eq : ∀ (xs : List Ed) {s : Ste} (hI : Inv s) (hx : ∀ x ∈ xs, x.f ≤ 9223372036854775807),
    (∀ s', RunsTo s xs s' → runF s xs = (0, s') ∧ Inv s') ∧ (∀ e, RunErr s xs e → (runF s xs).1 = e ∧ e ≠ 0)
  | [], s, hI, hx => ⟨fun s' h => by cases h; exact ⟨rfl, hI⟩, fun e h => h.elim⟩
  | x :: xs, s, hI, hx => by
    obtain ⟨h1, h2, h3⟩ := step_eq hI (hx x (by simp))
    have ih := fun (hJ : Inv (oneF s x).2) => run_eq xs hJ fun y hy => hx y (by simp [hy])
    constructor
    · rintro s' ⟨he, s1, hr, h⟩
      obtain ⟨j, h4⟩ := h2 he
      obtain rfl := h4 s1 hr
      rw [← h1] at he
      simp only [runF,if_pos he]
      exact (ih j).1 s' h
    · rintro e (⟨he, rfl⟩ | ⟨he, s1, hr, h⟩)
      · have : ¬ (oneF s x).1 = 0 := by rw [h1]; exact he
        simp only [runF,if_neg this]
        exact ⟨h1, he⟩
      · obtain ⟨j, h4⟩ := h2 he
        obtain rfl := h4 s1 hr
        rw [← h1] at he
        simp only [runF,if_pos he]
        exact (ih j).2 e h
theorem runF_sz : ∀ (xs : List Ed) (s : Ste), (runF s xs).2.sz ≤ s.sz + xs.length
  | [], s => by simp [runF]
  | x :: xs, s => by
    simp only [runF]
    split
    · have := runF_sz xs (oneF s x).2
      have := oneF_sz s x
      simp; omega
    · simp

theorem rowAt_ks {h h' : Hp} (k : KS h h') {sz lo : Nat} {es : List AV} {v : AV} (r : RowAt h sz lo es v) : RowAt h' sz lo es v := by
  rcases r with ⟨rfl, rfl⟩ | ⟨id, post, rfl, e, g⟩
  · exact .inl ⟨rfl, rfl⟩
  · exact .inr ⟨id, post, rfl, k.2 id _ e rfl, g⟩
theorem StAt.ks {h h' : Hp} (k : KS h h') {lo : Nat} {s : Ste} {v : AV} (r : StAt h lo s v) : StAt h' lo s v := by
  obtain ⟨tv, sv, lv, e, r1, r2, r3⟩ := r
  exact ⟨tv, sv, lv, e, rowAt_ks k r1, rowAt_ks k r2, rowAt_ks k r3⟩
theorem StAt.low {h : Hp} {lo : Nat} {s : Ste} {v : AV} (r : StAt h lo s v) : StAt h 0 s v := by
  obtain ⟨tv, sv, lv, e, r1, r2, r3⟩ := r
  exact ⟨tv, sv, lv, e, r1.low (Nat.zero_le _), r2.low (Nat.zero_le _), r3.low (Nat.zero_le _)⟩
theorem StAt.t1 {h : Hp} {lo : Nat} {s : Ste} {v : AV} (r : StAt h lo s v) : v.notTup = true ∧ v.cells.length = 4 ∧ sub v 0 4 true = some v ∧ upd z4 0 v = some v := by
  obtain ⟨tv, sv, lv, rfl, r1, r2, r3⟩ := r
  rcases r1 with ⟨rfl, _⟩ | ⟨_, _, rfl, _⟩ <;> rcases r2 with ⟨rfl, _⟩ | ⟨_, _, rfl, _⟩ <;> rcases r3 with ⟨rfl, _⟩ | ⟨_, _, rfl, _⟩ <;> exact ⟨rfl, rfl, rfl, rfl⟩
theorem StAt.t2 {h h' : Hp} {lo lo' : Nat} {s s' : Ste} {u v : AV} (r : StAt h lo s u) (r' : StAt h' lo' s' v) : upd u 0 v = some v := by
  obtain ⟨tv, sv, lv, rfl, _⟩ := r
  obtain ⟨tv', sv', lv', rfl, r1, r2, r3⟩ := r'
  rcases r1 with ⟨rfl, _⟩ | ⟨_, _, rfl, _⟩ <;> rcases r2 with ⟨rfl, _⟩ | ⟨_, _, rfl, _⟩ <;> rcases r3 with ⟨rfl, _⟩ | ⟨_, _, rfl, _⟩ <;> rfl

def s0 : Ste := ⟨[], [], [], 0⟩
theorem s0_st (h : Hp) : StAt h 0 s0 z4 := ⟨.nils, .nils, .nils, rfl, .inl ⟨rfl, rfl⟩, .inl ⟨rfl, rfl⟩, .inl ⟨rfl, rfl⟩⟩
theorem s0_rf : RfAt s0 z4 := ⟨.nils, .nils, .nils, rfl, .inl ⟨rfl, rfl⟩, .inl ⟨rfl, rfl⟩, .inl ⟨rfl, rfl⟩⟩
theorem s0_inv : Inv s0 := ⟨by simp [Ste.files,s0], by simp [s0], by simp [s0], by simp [s0], by simp [s0]⟩

theorem same_sorted {l1 l2 l : List Int} (h1 : l1.Perm l) (h2 : l2.Perm l) (p1 : l1.Pairwise fun x y => x ≤ y) (p2 : l2.Pairwise fun x y => x ≤ y) : l1 = l2 :=
  List.Perm.eq_of_pairwise (fun a b _ _ h g => by omega) p1 p2 (h1.trans h2.symm)

end Go.Proofs.Ytlognommhffmcaa.Im

/- Joined: S13XWo, S13XWp, S13XLv. -/
import Derived.Test.YtlognommhffmcaaLw
/- S13XWo: a state, as edits. -/
set_option linter.unusedVariables false
set_option linter.unusedSimpArgs false
open Go Go.Im
namespace Go.Proofs.Ytlognommhffmcaa.Im

def e7 (f : Int) : Ed := ⟨7, f, 0, 0, [], []⟩
def e5 (f : Int) : Ed := ⟨5, f, 0, 0, [], []⟩
def e3 (t : Sr) : Ed := ⟨3, t.f, t.t, 0, [], []⟩
def e1 (t : Tb) : Ed := ⟨1, t.f, t.l, t.c, t.lo, t.hi⟩
def w7 (s : Ste) : List Ed := if s.nx > 0 then [e7 s.nx] else []
def wholeEds (s : Ste) : List Ed := w7 s ++ s.lg.map e5 ++ s.sr.map e3 ++ s.tb.map e1

section
variable {tot : Bool} {ω : Nat → Nat} {n : Nat} (s : Ste) (v : AV) (h : Hp) (lo : Nat)

set_option maxRecDepth 100000 in
set_option maxHeartbeats 8000000 in
theorem c20 (hv : StAt h lo s v) (hz : s.sz ≤ 100000) (hn : 2 * s.sz + 50 < n) :
    ∃ v' h', call F n tot ω 20 [v] h = some (v', h') ∧ IsRd 6 (edsOf (wholeEds s)) v' ∧ KS h h' := by
  obtain ⟨n, rfl⟩ : ∃ m, n = m + 1 := ⟨n - 1, by omega⟩
  have hszd : s.sz = s.tb.length + s.sr.length + s.lg.length := rfl
  refine call_of (fn := a20) f20 (P := fun v' h' => IsRd 6 (edsOf (wholeEds s)) v' ∧ KS h h') ?_
  obtain ⟨tv, sv, lv, rfl, r1, r2, r3⟩ := hv
  have n1 := r1.len
  have n2 := r2.len
  have n3 := r3.len
  rw [List.length_map] at n1 n2 n3
  have b1 := r1.subv 1
  have b2 := r2.subv 1
  have b3 := r3.subv 1
  have kp : ∀ g, KS h g → RowAt g 5 lo (List.map tbOf s.tb) tv ∧ RowAt g 2 lo (List.map srOf s.sr) sv ∧ RowAt g 1 lo (List.map inOf s.lg) lv := fun g hg => ⟨rowAt_ks hg r1, rowAt_ks hg r2, rowAt_ks hg r3⟩
  have hw7 : (w7 s).length ≤ 1 := by unfold w7; split <;> simp
  unfold a20
  have app1 : ∀ (l : List Ed) (x : Ed) (u : AV) (g : Hp), IsApp 6 (edsOf l) g u → l.length ≤ 200000 → ∃ u' g', appendV false 6 64 u [edOf x] g = some (u', g') ∧ IsApp 6 (edsOf (l ++ [x])) g' u' ∧ KS g g' ∧ u.isRow = false := by
    intro l x u g hu hl
    obtain ⟨u', g', q1, q2, q3, _⟩ := app_k (bytes := 64) (xs := [edOf x]) hu (by simp) (by rw [edsOf_len]; simp; omega)
    exact ⟨u', g', q1, by simpa [edsOf] using q2, q3, hu.isRow⟩
  refine wpi_seq (wpi_cut (fun r g => r = [(1, .var (.agg [tv, sv, lv, .int .i64 s.nx]))] ∧ g = h) ?_ ?_)
  · simp (maxSteps := 2000000) (discharger := omega) only [xz,xc,xo,xr,x0,xd,Reg.isA,Reg.isV,Reg.stays,Reg.onto,↓reduceIte,reduceCtorEq,Nat.reduceEqDiff,Nat.reduceLT,Nat.reduceAdd]
  rintro r g ⟨rfl, rfl⟩
  rw [then_n]
  refine wpi_seq (wpi_cut (fun r g' => r = [(1, .var (.agg [tv, sv, lv, .int .i64 s.nx])), (3, .val .nils)] ∧ g' = g) ?_ ?_)
  · simp (maxSteps := 2000000) (discharger := omega) only [xz,xc,xo,xr,x0,Reg.isA,Reg.isV,Reg.stays,Reg.onto,↓reduceIte,Nat.reduceEqDiff,Nat.reduceLT]
  rintro r h ⟨rfl, rfl⟩
  rw [then_n]
  refine wpi_seq (wpi_cut (fun r g' => ∃ u xr, r = [(1, .var (.agg [tv, sv, lv, .int .i64 s.nx])), (3, .val u)] ++ xr ∧ (xr = [] ∨ xr = [(12, .val (.bool false))]) ∧ IsApp 6 (edsOf (w7 s)) g' u ∧ KS h g') ?_ ?_)
  · by_cases hnx : s.nx > 0
    · have hw : w7 s = [e7 s.nx] := by unfold w7; rw [if_pos hnx]
      obtain ⟨u, g1, a1, a2, a3, a4⟩ := app1 [] (e7 s.nx) .nils h (.inl ⟨rfl, rfl⟩) (by simp)
      have a1' : appendV false 6 64 .nils [.agg [.int .i64 7, .int .i64 s.nx, .int .i64 0, .int .i64 0, .str [], .str []]] h = some (u, g1) := a1
      rw [List.nil_append, ← hw] at a2
      simp (maxSteps := 2000000) (discharger := omega) only [xz,xc,xo,xr,x0,x1,x3,x5,xd,xb,selems,srcElems,place,partVals,partEs,placeEs,Reg.isA,Reg.isV,Reg.stays,Reg.onto,↓reduceIte,Nat.reduceEqDiff,Nat.reduceLT,Nat.reduceAdd,Nat.zero_lt_succ,Nat.reduceBEq,List.set_cons_zero,nat_le_t,hnx,a1',List.replicate_succ,List.replicate_zero]
      exact ⟨u, [], rfl, .inl rfl, a2, a3⟩
    · have hw : w7 s = [] := by unfold w7; rw [if_neg hnx]
      have a2 : IsApp 6 (edsOf (w7 s)) h .nils := by rw [hw]; exact .inl ⟨rfl, rfl⟩
      simp (maxSteps := 2000000) (discharger := omega) only [xz,xc,xo,xr,x0,x1,xd,Reg.isA,Reg.isV,Reg.stays,Reg.onto,↓reduceIte,Nat.reduceEqDiff,Nat.reduceLT,Nat.reduceBEq,hnx]
      exact ⟨.nils, _, rfl, .inr rfl, a2, .refl _⟩
  rintro r g ⟨u, xr, rfl, hxr, hu, hk⟩
  rw [then_n]
  rcases hxr with rfl | rfl
  all_goals
    simp (maxSteps := 2000000) (discharger := omega) only [xz,xc,xo,xr,x0,x1,x4,xd,Reg.isA,Reg.isV,Reg.stays,Reg.onto,↓reduceIte,Nat.reduceEqDiff,Nat.reduceLT,Nat.reduceBEq,n3]
    refine wpi_loop' (fun k r g => ∃ (i : Nat) (u : AV), r = [(1, .var (.agg [tv, sv, lv, .int .i64 s.nx])), (3, .val u), (20, .val lv), (21, .val (.int .i64 s.lg.length)), (22, .val (.int .i64 i))] ∧ i ≤ s.lg.length ∧ k = s.lg.length - i ∧ IsApp 6 (edsOf (w7 s ++ (s.lg.take i).map e5)) g u ∧ KS h g)
      (fun e r g => e = .exit 0 ∧ ∃ u xr, r = [(1, .var (.agg [tv, sv, lv, .int .i64 s.nx])), (3, .val u)] ++ xr ∧ (∃ i : Int, xr = [(20, .val lv), (21, .val (.int .i64 s.lg.length)), (22, .val (.int .i64 i)), (23, .val (.bool false))]) ∧ IsApp 6 (edsOf (w7 s ++ s.lg.map e5)) g u ∧ KS h g) s.lg.length (by omega)
      ⟨0, u, rfl, by omega, by omega, by simpa using hu, hk⟩ ?_ ?_
    · rintro k r g ⟨i, u, rfl, hi, rfl, hu, hk⟩
      by_cases hlt : i < s.lg.length
      · obtain ⟨id, post, rfl, e0, _⟩ := (kp g hk).2.2.row (i := i) (by rw [List.length_map]; exact hlt)
        have q1 := map_get (f := inOf) hlt
        have ht : s.lg.take (i + 1) = s.lg.take i ++ [s.lg[i]] := by simp
        generalize s.lg[i] = t at q1 ht
        have e2 : (List.map inOf s.lg ++ post)[i]? = some (.int .i64 t) := by rw [List.getElem?_append_left (by simpa using hlt)]; exact q1
        obtain ⟨u', g', a1, a2, a3, a4⟩ := app1 _ (e5 t) u g hu (by simp; omega)
        have a1' : appendV false 6 64 u [.agg [.int .i64 5, .int .i64 t, .int .i64 0, .int .i64 0, .str [], .str []]] g = some (u', g') := a1
        simp (maxSteps := 2000000) (discharger := omega) only [xz,xc,xo,xr,x0,x1,x3,x5,xd,xb,selems,srcElems,place,partVals,partEs,placeEs,Reg.isA,Reg.isV,Reg.stays,Reg.onto,↓reduceIte,Nat.reduceEqDiff,Nat.reduceLT,Nat.reduceAdd,Nat.zero_lt_succ,List.set_cons_zero,wrap_i64,int_lt_t,int_le_t,nat_le_t,e0,e2,a1',a4,List.length_map,List.replicate_succ,List.replicate_zero]
        refine ⟨s.lg.length - (i + 1), by omega, i + 1, u', rfl, by omega, rfl, ?_, hk.trans a3⟩
        rw [ht, List.map_append, ← List.append_assoc]; exact a2
      · simp (maxSteps := 2000000) (discharger := omega) only [xz,xc,xo,xr,x1,xd,Reg.isA,Reg.isV,Reg.stays,Reg.onto,↓reduceIte,Nat.reduceEqDiff,Nat.reduceLT,int_lt_f]
        obtain rfl : i = s.lg.length := by omega
        rw [List.take_length] at hu
        exact ⟨u, _, rfl, ⟨_, rfl⟩, hu, hk⟩
    rintro e r g ⟨rfl, u, xr, rfl, ⟨i0, rfl⟩, hu, hk⟩
    simp (maxSteps := 2000000) (discharger := omega) only [xz,xc,xo,xr,x0,x1,x4,xd,Reg.isA,Reg.isV,Reg.stays,Reg.onto,↓reduceIte,Nat.reduceEqDiff,Nat.reduceLT,Nat.reduceBEq,n2]
    refine wpi_loop' (fun k r g => ∃ (i : Nat) (u : AV), r = [(1, .var (.agg [tv, sv, lv, .int .i64 s.nx])), (3, .val u), (33, .val sv), (34, .val (.int .i64 s.sr.length)), (35, .val (.int .i64 i))] ∧ i ≤ s.sr.length ∧ k = s.sr.length - i ∧ IsApp 6 (edsOf (w7 s ++ s.lg.map e5 ++ (s.sr.take i).map e3)) g u ∧ KS h g)
      (fun e r g => e = .exit 2 ∧ ∃ u xr, r = [(1, .var (.agg [tv, sv, lv, .int .i64 s.nx])), (3, .val u)] ++ xr ∧ (∃ i : Int, xr = [(33, .val sv), (34, .val (.int .i64 s.sr.length)), (35, .val (.int .i64 i)), (36, .val (.bool false))]) ∧ IsApp 6 (edsOf (w7 s ++ s.lg.map e5 ++ s.sr.map e3)) g u ∧ KS h g) s.sr.length (by omega)
      ⟨0, u, rfl, by omega, by omega, by simpa using hu, hk⟩ ?_ ?_
    · rintro k r g ⟨i, u, rfl, hi, rfl, hu, hk⟩
      by_cases hlt : i < s.sr.length
      · obtain ⟨id, post, rfl, e0, _⟩ := (kp g hk).2.1.row (i := i) (by rw [List.length_map]; exact hlt)
        have q1 := map_get (f := srOf) hlt
        have ht : s.sr.take (i + 1) = s.sr.take i ++ [s.sr[i]] := by simp
        generalize s.sr[i] = t at q1 ht
        have e2 : (List.map srOf s.sr ++ post)[i]? = some (.agg [.int .i64 t.f, .int .i64 t.t]) := by rw [List.getElem?_append_left (by simpa using hlt)]; exact q1
        obtain ⟨u', g', a1, a2, a3, a4⟩ := app1 _ (e3 t) u g hu (by simp; omega)
        have a1' : appendV false 6 64 u [.agg [.int .i64 3, .int .i64 t.f, .int .i64 t.t, .int .i64 0, .str [], .str []]] g = some (u', g') := a1
        simp (maxSteps := 2000000) (discharger := omega) only [xz,xc,xo,xr,x0,x1,x3,x5,xd,xb,selems,srcElems,wr,place,partVals,partEs,placeEs,Reg.isA,Reg.isV,Reg.stays,Reg.onto,↓reduceIte,Nat.reduceEqDiff,Nat.reduceLT,Nat.reduceAdd,Nat.zero_lt_succ,Nat.reduceBEq,xu,List.set_cons_zero,wrap_i64,int_lt_t,int_le_t,nat_le_t,e0,e2,a1',a4,List.length_map,List.replicate_succ,List.replicate_zero]
        refine ⟨s.sr.length - (i + 1), by omega, i + 1, u', rfl, by omega, rfl, ?_, hk.trans a3⟩
        rw [ht, List.map_append, ← List.append_assoc]; exact a2
      · simp (maxSteps := 2000000) (discharger := omega) only [xz,xc,xo,xr,x1,xd,Reg.isA,Reg.isV,Reg.stays,Reg.onto,↓reduceIte,Nat.reduceEqDiff,Nat.reduceLT,int_lt_f]
        obtain rfl : i = s.sr.length := by omega
        rw [List.take_length] at hu
        exact ⟨u, _, rfl, ⟨_, rfl⟩, hu, hk⟩
    rintro e r g ⟨rfl, u, xr, rfl, ⟨i0, rfl⟩, hu, hk⟩
    simp (maxSteps := 2000000) (discharger := omega) only [xz,xc,xo,xr,x0,x1,x4,xd,Reg.isA,Reg.isV,Reg.stays,Reg.onto,↓reduceIte,Nat.reduceEqDiff,Nat.reduceLT,Nat.reduceBEq,n1]
    refine wpi_loop' (fun k r g => ∃ (i : Nat) (u : AV), r = [(3, .val u), (49, .val tv), (50, .val (.int .i64 s.tb.length)), (51, .val (.int .i64 i))] ∧ i ≤ s.tb.length ∧ k = s.tb.length - i ∧ IsApp 6 (edsOf (w7 s ++ s.lg.map e5 ++ s.sr.map e3 ++ (s.tb.take i).map e1)) g u ∧ KS h g)
      (fun e r g => e = .exit 4 ∧ ∃ u xr, r = [(3, .val u)] ++ xr ∧ (∃ i : Int, xr = [(49, .val tv), (50, .val (.int .i64 s.tb.length)), (51, .val (.int .i64 i)), (52, .val (.bool false))]) ∧ IsApp 6 (edsOf (w7 s ++ s.lg.map e5 ++ s.sr.map e3 ++ s.tb.map e1)) g u ∧ KS h g) s.tb.length (by omega)
      ⟨0, u, rfl, by omega, by omega, by simpa using hu, hk⟩ ?_ ?_
    · rintro k r g ⟨i, u, rfl, hi, rfl, hu, hk⟩
      by_cases hlt : i < s.tb.length
      · obtain ⟨id, post, rfl, e0, _⟩ := (kp g hk).1.row (i := i) (by rw [List.length_map]; exact hlt)
        have q1 := map_get (f := tbOf) hlt
        have ht : s.tb.take (i + 1) = s.tb.take i ++ [s.tb[i]] := by simp
        generalize s.tb[i] = t at q1 ht
        have e2 : (List.map tbOf s.tb ++ post)[i]? = some (.agg [.int .i64 t.f, .int .i64 t.l, .int .i64 t.c, .str t.lo, .str t.hi]) := by rw [List.getElem?_append_left (by simpa using hlt)]; exact q1
        obtain ⟨u', g', a1, a2, a3, a4⟩ := app1 _ (e1 t) u g hu (by simp; omega)
        have a1' : appendV false 6 64 u [.agg [.int .i64 1, .int .i64 t.f, .int .i64 t.l, .int .i64 t.c, .str t.lo, .str t.hi]] g = some (u', g') := a1
        simp (maxSteps := 2000000) (discharger := omega) only [xz,xc,xo,xr,x0,x1,x3,x5,xd,xb,selems,srcElems,wr,place,partVals,partEs,placeEs,Reg.isA,Reg.isV,Reg.stays,Reg.onto,↓reduceIte,Nat.reduceEqDiff,Nat.reduceLT,Nat.reduceAdd,Nat.zero_lt_succ,Nat.reduceBEq,xu,List.set_cons_zero,wrap_i64,int_lt_t,int_le_t,nat_le_t,e0,e2,a1',a4,List.length_map,List.replicate_succ,List.replicate_zero]
        refine ⟨s.tb.length - (i + 1), by omega, i + 1, u', rfl, by omega, rfl, ?_, hk.trans a3⟩
        rw [ht, List.map_append, ← List.append_assoc]; exact a2
      · simp (maxSteps := 2000000) (discharger := omega) only [xz,xc,xo,xr,x1,xd,Reg.isA,Reg.isV,Reg.stays,Reg.onto,↓reduceIte,Nat.reduceEqDiff,Nat.reduceLT,int_lt_f]
        obtain rfl : i = s.tb.length := by omega
        rw [List.take_length] at hu
        exact ⟨u, _, rfl, ⟨_, rfl⟩, hu, hk⟩
    rintro e r g ⟨rfl, u, xr, rfl, ⟨i0, rfl⟩, hu, hk⟩
    simp (maxSteps := 2000000) (discharger := omega) only [xz,xc,xo,xr,x0,xd,Reg.isA,Reg.isV,Reg.stays,Reg.onto,↓reduceIte,Nat.reduceEqDiff,Nat.reduceLT,exists_eq_left']
    exact ⟨isRd_app hu, hk⟩
end
end Go.Proofs.Ytlognommhffmcaa.Im

/- S13XWp: a state's own edits make it anew: the plain law. -/
set_option linter.unusedVariables false
set_option linter.unusedSimpArgs false
open Go Go.Im
namespace Go.Proofs.Ytlognommhffmcaa.Im

structure Inv2 (s : Ste) : Prop where
  i : Inv s
  nx : 0 ≤ s.nx ∧ s.nx ≤ 9223372036854775807
  t : ∀ t ∈ s.sr, t.t = 0 ∨ t.t = 1
  g : ∀ f ∈ s.lg, 1 ≤ f ∧ f ≤ 9223372036854775807
  c : ∀ t ∈ s.tb, 1 ≤ t.c

theorem inv2_step {s s' : Ste} {x : Ed} (h : Inv2 s) (hxf : x.f ≤ 9223372036854775807) (he : errF s x = 0) (hr : stepR s x s') : Inv2 s' := by
  have hI : Inv s' := by
    obtain ⟨_, h2, _⟩ := step_eq h.i hxf
    obtain ⟨j, h4⟩ := h2 he
    rw [h4 s' hr]; exact j
  have mem_e : ∀ {α : Type} {l : List α} {i : Nat} {a : α}, a ∈ l.eraseIdx i → a ∈ l := fun h => List.mem_of_mem_eraseIdx h
  refine ⟨hI, ?_, ?_, ?_, ?_⟩ <;> unfold stepR at hr <;> split at hr
  · rw [hr.2.2.2.2]; exact h.nx
  · rename_i k1
    split at hr
    · rw [hr.2.2.2.2]; exact h.nx
    split at hr
    · subst hr; exact h.nx
    split at hr
    · rename_i k7
      subst hr
      simp [errF,k7] at he
      simp; omega
    split at hr
    · subst hr; exact h.nx
    split at hr <;> (subst hr; exact h.nx)
  · rw [hr.2.2.1]; exact h.t
  · rename_i k1
    split at hr
    · rename_i k3
      intro t ht
      have := hr.1.mem_iff.1 ht
      rw [List.mem_append] at this
      rcases this with h1 | h1
      · exact h.t t h1
      · simp at h1; subst h1
        simp [errF,k3] at he
        split at he
        · cases he
        · split at he
          · cases he
          · rename_i hq
            simp only
            omega
    split at hr
    · subst hr; exact h.t
    split at hr
    · subst hr; exact h.t
    split at hr
    · subst hr; exact h.t
    split at hr
    · subst hr; exact fun t ht => h.t t (mem_e ht)
    · subst hr; exact h.t
  · rw [hr.2.2.2.1]; exact h.g
  · rename_i k1
    split at hr
    · rw [hr.2.2.2.1]; exact h.g
    split at hr
    · rename_i k5
      subst hr
      simp [errF,k5] at he
      intro f hf
      simp at hf
      rcases hf with hf | rfl
      · exact h.g f hf
      · omega
    split at hr
    · subst hr; exact h.g
    split at hr
    · subst hr; exact h.g
    split at hr
    · subst hr; exact h.g
    · subst hr; exact fun t ht => h.g t (mem_e ht)
  · rename_i k1
    rw [errF, if_pos k1] at he
    split at he
    · cases he
    have hb := tableF_ok he
    simp [badT] at hb
    intro t ht
    have := hr.1.mem_iff.1 ht
    rw [List.mem_append] at this
    rcases this with h1 | h1
    · exact h.c t h1
    · simp at h1; subst h1
      simp only [edT]; omega
  · rename_i k1
    split at hr
    · rw [hr.2.2.1]; exact h.c
    split at hr
    · subst hr; exact h.c
    split at hr
    · subst hr; exact h.c
    split at hr
    · subst hr; exact fun t ht => h.c t (mem_e ht)
    split at hr
    · subst hr; exact h.c
    · subst hr; exact h.c

theorem inv2_run : ∀ (xs : List Ed) {s s' : Ste} (h : Inv2 s) (hx : ∀ x ∈ xs, x.f ≤ 9223372036854775807) (hr : RunsTo s xs s'), Inv2 s'
  | [], s, s', h, hx, hr => by cases hr; exact h
  | x :: xs, s, s', h, hx, hr => by
    obtain ⟨he, s1, h1, h2⟩ := hr
    exact inv2_run xs (inv2_step h (hx x (by simp)) he h1) (fun y hy => hx y (by simp [hy])) h2

def Goes (s : Ste) (xs : List Ed) (s1 : Ste) (ys : List Ed) : Prop := (∀ s', RunsTo s xs s' → RunsTo s1 ys s') ∧ ∀ e, RunErr s xs e → RunErr s1 ys e
theorem Goes.trans {a b c : Ste} {x y z : List Ed} (h : Goes a x b y) (g : Goes b y c z) : Goes a x c z := ⟨fun s h1 => g.1 s (h.1 s h1), fun e h1 => g.2 e (h.2 e h1)⟩
theorem Goes.step {s s1 : Ste} {x : Ed} {xs : List Ed} (he : errF s x = 0) (hr : ∀ s', stepR s x s' → s' = s1) : Goes s (x :: xs) s1 xs := by
  refine ⟨fun s' h => ?_, fun e h => ?_⟩
  · obtain ⟨_, s2, h1, h2⟩ := h
    rw [← hr s2 h1]; exact h2
  · rcases h with ⟨h1, _⟩ | ⟨_, s2, h1, h2⟩
    · exact absurd he h1
    · rw [← hr s2 h1]; exact h2

theorem hasF_no {s : Ste} {f : Int} (h : f ∉ s.files) : hasF s f = false := by
  rw [← hasF_files, List.any_eq_false]
  intro y hy e
  simp at e
  subst e
  exact h hy

theorem goes5 (nx : Int) (ys : List Ed) : ∀ (l acc : List Int), (acc ++ l).Nodup → (∀ f ∈ l, 1 ≤ f) → Goes ⟨[], [], acc, nx⟩ (l.map e5 ++ ys) ⟨[], [], acc ++ l, nx⟩ ys
  | [], acc, _, _ => by simp only [List.map_nil,List.nil_append,List.append_nil]; exact ⟨fun _ h => h, fun _ h => h⟩
  | f :: l, acc, h1, h2 => by
    have hf : f ∉ acc := by
      rw [List.nodup_append] at h1
      intro hm
      exact h1.2.2 f hm f (by simp) rfl
    have hn : hasF ⟨[], [], acc, nx⟩ f = false := hasF_no (by simpa [Ste.files] using hf)
    have h3 := h2 f (by simp)
    have := goes5 nx ys l (acc ++ [f]) (by simpa using h1) fun g hg => h2 g (by simp [hg])
    rw [List.append_assoc] at this
    refine Goes.trans (Goes.step (s1 := ⟨[], [], acc ++ [f], nx⟩) ?_ ?_) this
    · simp [errF,e5,hn]; omega
    · intro s' hs
      simpa [stepR, e5] using hs

theorem goes3 (lg : List Int) (nx : Int) (ys : List Ed) : ∀ (l acc : List Sr), (acc ++ l).Pairwise RS → ((acc ++ l).map (·.f) ++ lg).Nodup → (∀ t ∈ l, 1 ≤ t.f ∧ (t.t = 0 ∨ t.t = 1)) → Goes ⟨[], acc, lg, nx⟩ (l.map e3 ++ ys) ⟨[], acc ++ l, lg, nx⟩ ys
  | [], acc, _, _, _ => by simp only [List.map_nil,List.nil_append,List.append_nil]; exact ⟨fun _ h => h, fun _ h => h⟩
  | t :: l, acc, h1, h2, h3 => by
    have hn : hasF ⟨[], acc, lg, nx⟩ t.f = false := hasF_no (by
      simp only [Ste.files,List.map_nil,List.nil_append]
      rw [List.map_append, List.append_assoc, List.nodup_append] at h2
      rw [List.mem_append]
      rintro (hm | hm)
      · exact h2.2.2 t.f hm t.f (by simp) rfl
      · have := h2.2.1
        rw [List.nodup_append] at this
        exact this.2.2 t.f (by simp) t.f hm rfl)
    obtain ⟨h4, h5⟩ := h3 t (by simp)
    have := goes3 lg nx ys l (acc ++ [t]) (by simpa using h1) (by simpa using h2) fun g hg => h3 g (by simp [hg])
    rw [List.append_assoc] at this
    refine Goes.trans (Goes.step (s1 := ⟨[], acc ++ [t], lg, nx⟩) ?_ ?_) this
    · simp [errF,e3,hn]; omega
    · intro s' hs
      simp [stepR,e3] at hs
      obtain ⟨q1, q2, q3, q4, q5⟩ := hs
      have hp : (acc ++ [t]).Pairwise RS := by
        refine h1.sublist ?_
        simp
      have : acc ++ [t] = s'.sr := uniq RS_lt _ _ q1.symm hp q2
      cases s'
      simp only at this q3 q4 q5 ⊢
      subst this q3 q4 q5
      rfl

theorem not_overl {t u : Tb} (h : RT u t) : overl (e1 t) u = false := by
  rw [overl_eq]
  unfold overlR
  by_cases hl : u.l = t.l
  · by_cases h0 : t.l > 0
    · have := h.2 hl (by omega)
      simp [e1,this,hl]
    · simp [e1,hl]; omega
  · simp [e1,hl]

theorem goes1 (sr : List Sr) (lg : List Int) (nx : Int) (ys : List Ed) : ∀ (l acc : List Tb), (acc ++ l).Pairwise RT → ((acc ++ l).map (·.f) ++ (sr.map (·.f) ++ lg)).Nodup → (∀ t ∈ l, t.ok ∧ sLe t.lo t.hi = true ∧ 1 ≤ t.c) → Goes ⟨acc, sr, lg, nx⟩ (l.map e1 ++ ys) ⟨acc ++ l, sr, lg, nx⟩ ys
  | [], acc, _, _, _ => by simp only [List.map_nil,List.nil_append,List.append_nil]; exact ⟨fun _ h => h, fun _ h => h⟩
  | t :: l, acc, h1, h2, h3 => by
    have hn : hasF ⟨acc, sr, lg, nx⟩ t.f = false := hasF_no (by
      simp only [Ste.files]
      rw [List.map_append, List.append_assoc, List.nodup_append] at h2
      rw [List.mem_append]
      rintro (hm | hm)
      · exact h2.2.2 t.f hm t.f (by simp) rfl
      · have := h2.2.1
        rw [List.nodup_append] at this
        exact this.2.2 t.f (by simp) t.f hm rfl)
    obtain ⟨h4, h5, h6⟩ := h3 t (by simp)
    have hp : (acc ++ [t]).Pairwise RT := by
      refine h1.sublist ?_
      simp
    have hov : acc.any (overl (e1 t)) = false := by
      rw [List.any_eq_false]
      intro u hu
      rw [List.pairwise_append] at hp
      rw [not_overl (hp.2.2 u hu t (by simp))]
      simp
    have := goes1 sr lg nx ys l (acc ++ [t]) (by simpa using h1) (by simpa using h2) fun g hg => h3 g (by simp [hg])
    rw [List.append_assoc] at this
    refine Goes.trans (Goes.step (s1 := ⟨acc ++ [t], sr, lg, nx⟩) ?_ ?_) this
    · obtain ⟨o1, o2, o3, o4⟩ := h4
      have hb : badT (e1 t) = false := by
        have q1 : ¬ t.l < 0 := by omega
        have q2 : ¬ t.l ≥ 6 := by omega
        have q3 : ¬ t.c < 1 := by omega
        rw [← Bool.not_eq_true]
        intro hb
        simp [badT,e1,h5] at hb
        rcases hb with hb | hb | hb
        · exact q1 (of_decide_eq_true hb)
        · exact q2 hb
        · exact q3 (of_decide_eq_true hb)
      have hn' : hasF ⟨acc, sr, lg, nx⟩ (e1 t).f = false := hn
      have hk : (e1 t).k = 1 := rfl
      have hf : ¬ (e1 t).f < 1 := by simp only [e1]; omega
      rw [errF, if_pos hk, if_neg hf, tableF, hb, hn', hov]
      simp
    · intro s' hs
      have hk : (e1 t).k = 1 := rfl
      have hed : edT (e1 t) = t := rfl
      rw [stepR, if_pos hk, hed] at hs
      obtain ⟨q1, q2, q3, q4, q5⟩ := hs
      have : acc ++ [t] = s'.tb := uniq RT_lt _ _ q1.symm hp q2
      cases s'
      simp only at this q3 q4 q5 ⊢
      subst this q3 q4 q5
      rfl

theorem goes7 {s : Ste} (h : 0 ≤ s.nx) (ys : List Ed) : Goes s0 (w7 s ++ ys) ⟨[], [], [], s.nx⟩ ys := by
  unfold w7
  by_cases hx : s.nx > 0
  · rw [if_pos hx]
    refine Goes.step ?_ ?_
    · simp [errF,e7,s0]; omega
    · intro s' hs
      simpa [stepR, e7, s0] using hs
  · rw [if_neg hx]
    have : s.nx = 0 := by omega
    rw [this]
    exact ⟨fun _ h => h, fun _ h => h⟩

theorem whole_run {s : Ste} (h : Inv2 s) : (∀ s', RunsTo s0 (wholeEds s) s' → s' = s) ∧ ∀ e, ¬ RunErr s0 (wholeEds s) e := by
  have hnd := h.i.nd
  unfold Ste.files at hnd
  have hnd2 := hnd
  rw [List.nodup_append] at hnd2
  have hnd3 := hnd2.2.1
  rw [List.nodup_append] at hnd3
  have g1 := goes7 h.nx.1 (s.lg.map e5 ++ (s.sr.map e3 ++ (s.tb.map e1 ++ [])))
  have g2 := goes5 s.nx (s.sr.map e3 ++ (s.tb.map e1 ++ [])) s.lg [] (by simpa using hnd3.2.1) fun f hf => (h.g f hf).1
  have g3 := goes3 s.lg s.nx (s.tb.map e1 ++ []) s.sr [] (by simpa using h.i.sr) (by simpa using hnd2.2.1) fun t ht => ⟨(h.i.ok2 t ht).1, h.t t ht⟩
  have g4 := goes1 s.sr s.lg s.nx [] s.tb [] (by simpa using h.i.tb) (by simpa using hnd) fun t ht => ⟨(h.i.ok1 t ht).1, (h.i.ok1 t ht).2, h.c t ht⟩
  have g := ((g1.trans g2).trans g3).trans g4
  have hw : wholeEds s = w7 s ++ (s.lg.map e5 ++ (s.sr.map e3 ++ (s.tb.map e1 ++ []))) := by simp [wholeEds]
  rw [← hw] at g
  exact ⟨fun s' h1 => g.1 s' h1, fun e h1 => g.2 e h1⟩

end Go.Proofs.Ytlognommhffmcaa.Im

/- S13XLv: a state's own edits: the law's walk. -/
set_option linter.unusedVariables false
set_option linter.unusedSimpArgs false
open Go Go.Im
namespace Go.Proofs.Ytlognommhffmcaa.Im

theorem s0_inv2 : Inv2 s0 := ⟨s0_inv, by simp [s0], by simp [s0], by simp [s0], by simp [s0]⟩
theorem whole_f {s : Ste} (h : Inv2 s) : ∀ x ∈ wholeEds s, x.f ≤ 9223372036854775807 := by
  intro x hx
  simp only [wholeEds,List.mem_append,List.mem_map] at hx
  rcases hx with ((hx | ⟨f, hf, rfl⟩) | ⟨t, ht, rfl⟩) | ⟨t, ht, rfl⟩
  · unfold w7 at hx
    split at hx
    · simp at hx; subst hx; exact h.nx.2
    · simp at hx
  · exact (h.g f hf).2
  · exact (h.i.ok2 t ht).2
  · exact (h.i.ok1 t ht).1.2.2.2
theorem whole_len (s : Ste) : (wholeEds s).length ≤ s.sz + 1 := by
  unfold wholeEds w7 Ste.sz
  split <;> simp <;> omega
theorem pair_at {α : Type} {R : α → α → Prop} {l : List α} (h : l.Pairwise R) {i : Nat} (hi : i + 1 < l.length) : R l[i] l[i + 1] := List.pairwise_iff_getElem.1 h i (i + 1) (by omega) hi (by omega)
theorem strict {l : List Int} (h1 : l.Pairwise fun x y => x ≤ y) (h2 : l.Nodup) : l.Pairwise fun x y => x < y :=
  (h1.and h2).imp fun h => by omega

theorem wpi_regionA3 {K : Kont} {n : Nat} {r : Regs} {h : Hp} {Q : AE → Regs → Hp → Prop} {o1 o2 o3 : List Nat} {ops : List AOper} {ks : List Nat}
    (hw : Wo K (inOrd ops o1) r h (fun r' h' => Wo K (inOrd ops o2) r h (Is r' h') ∧ Wo K (inOrd ops o3) r h (Is r' h') ∧ Settle ks Q r' h')) : Wp K n (.regionA [o1, o2, o3] ops ks) r h Q := by
  obtain ⟨r', h', h1, h2, h3, h4⟩ := hw
  refine wpi_regionAs (r' := r') (h' := h') (by simp) ?_ h4
  intro o ho
  simp only [List.mem_cons,List.not_mem_nil,or_false] at ho
  rcases ho with rfl | rfl | rfl
  · exact h1
  · exact execs_is h2
  · exact execs_is h3

set_option maxRecDepth 100000 in
set_option maxHeartbeats 8000000 in
theorem law_whole (n : Nat) (ω : Nat → Nat) (v : AV) (gs : List AV) (L : List (List Ed)) (hv : IsRd 1 gs v) (hg : Grps L gs) (hl : L.length ≤ 9223372036854775807) (hf : ∀ l ∈ L, ∀ x ∈ l, x.f ≤ 9223372036854775807) (hn : L.length + 100000 < n) :
    ∃ h', call F n true ω 5 [v] [] = some (.bool true, h') := by
  obtain ⟨n, rfl⟩ : ∃ m, n = m + 1 := ⟨n - 1, by omega⟩
  suffices hh : ∃ v' h', call F (n + 1) true ω 5 [v] [] = some (v', h') ∧ v' = .bool true by
    obtain ⟨v', h', q1, rfl⟩ := hh
    exact ⟨h', q1⟩
  refine call_of (fn := a5) f5 (P := fun v' _ => v' = .bool true) ?_
  unfold a5
  obtain ⟨q, hq⟩ : ∃ q, n = q + 200 := ⟨n - 200, by omega⟩
  have w1 : call F n true ω 6 [] [] = some (.bool true, H1) := by rw [hq]; exact awake1 q ω
  have w2 : call F n true ω 6 [] H1 = some (.bool true, H2) := by rw [hq]; exact awake2 q ω
  clear hq
  have hlen := hv.len
  rw [hg.1] at hlen
  obtain ⟨b, r7, hb⟩ := c7 (tot := true) (ω := ω) (n := n) v gs L H1 hv hg hl (by omega)
  cases b with
  | false => simp (maxSteps := 2000000) (discharger := omega) only [xz,xc,xo,xr,x0,x2,xd,kont_call,Reg.isA,Reg.isV,Reg.stays,Reg.onto,↓reduceIte,reduceCtorEq,Nat.reduceEqDiff,Nat.reduceLT,beq_self_eq_true,exists_eq_left',w1,w2,r7]
  | true =>
    obtain ⟨hl2, htot⟩ := hb rfl
    have hz4 : AV.agg [.nils, .nils, .nils, .int .i64 0] = z4 := rfl
    have z5 : upd z4 0 z4 = some z4 := rfl
    have z6 : z4.notTup = true := rfl
    have z7 : z4.cells.length = 4 := rfl
    have z8 : sub z4 0 4 true = some z4 := rfl
    simp (maxSteps := 2000000) (discharger := omega) only [xz,xc,xo,xr,x0,x2,xd,kont_call,Reg.isA,Reg.isV,Reg.stays,Reg.onto,↓reduceIte,reduceCtorEq,Nat.reduceEqDiff,Nat.reduceLT,beq_self_eq_true,w1,r7,hz4]
    refine wpi_loop (fun k r g => ∃ (i : Nat) (s : Ste) (p : AV), r = [(0, .val v), (3, .var p), (4, .val (.int .i64 i))] ∧ i ≤ L.length ∧ k = L.length - i ∧ StAt g 0 s p ∧ Inv2 s ∧ s.sz ≤ total (L.take i))
      L.length (by omega) ⟨0, s0, z4, rfl, by omega, by omega, s0_st _, s0_inv2, by simp [s0,Ste.sz]⟩ ?_
    rintro k r g ⟨i, s, p, rfl, hi, rfl, hp, hI, hsz⟩
    by_cases hlt : i < L.length
    · obtain ⟨w, hw, hwr⟩ := hg.2 i hlt
      obtain ⟨cc, rfl⟩ := hv.imm (i := i) (by rw [hg.1]; exact hlt)
      have htt := total_take hlt
      have hle : total (L.take (i + 1)) ≤ 200 := by
        have : total L = total (L.take (i + 1)) + total (L.drop (i + 1)) := by
          unfold total
          rw [← List.sum_append, ← List.map_append, List.take_append_drop]
        omega
      have hfl := hf L[i] (List.getElem_mem _)
      generalize L[i] = xs at hwr htt hfl
      have hws := hwr.sub1 1
      obtain ⟨v2, g2, e2, k2, p2, er, rfl, hr2⟩ := c14 (tot := true) (ω := ω) (n := n) s p w xs 0 g hp hwr hI.i.ok (by omega) hfl (by omega)
      obtain ⟨t9, ta, tb, tc⟩ := hp.t1
      have hp3 := hp.ks k2.ks
      rcases hr2 with ⟨rfl, s', hs', hrun⟩ | ⟨hne, rfl, herr⟩
      · have hI' := inv2_run xs hI hfl hrun
        have hrs := runF_sz xs s
        rw [((run_eq xs hI.i hfl).1 s' hrun).1] at hrs
        have hrs : s'.sz ≤ s.sz + xs.length := hrs
        obtain ⟨t1, t2, t3, t4⟩ := hs'.t1
        have th := hp.t2 hs'
        simp (maxSteps := 2000000) (discharger := omega) only [xz,xc,xo,xr,x0,x1,x3,x4,x5,xd,kont_call,wr,Reg.isA,Reg.isV,Reg.stays,Reg.onto,↓reduceIte,reduceCtorEq,Nat.reduceEqDiff,Nat.reduceLT,beq_self_eq_true,wrap_i64,int_lt_t,int_le_t,hlen,hw,hws,e2,t1,t2,t3,t4,tb,th]
        exact ⟨L.length - (i + 1), by omega, i + 1, s', p2, rfl, by omega, rfl, hs'.low, hI', by omega⟩
      · simp (maxSteps := 2000000) (discharger := omega) only [xz,xc,xo,xr,x0,x1,x3,x4,x5,xd,kont_call,wr,Reg.isA,Reg.isV,Reg.stays,Reg.onto,↓reduceIte,reduceCtorEq,Nat.reduceEqDiff,Nat.reduceLT,wrap_i64,int_lt_t,int_le_t,int_beq_f,hlen,hw,hws,e2,tb,z5,z6,z7]
        exact ⟨L.length - (i + 1), by omega, i + 1, s, p, rfl, by omega, rfl, hp3, hI, by omega⟩
    · obtain rfl : i = L.length := by omega
      rw [List.take_length] at hsz
      obtain ⟨ve, g1, d1, d2, d3⟩ := c20 (tot := true) (ω := ω) (n := n) s p g 0 hp (by omega) (by omega)
      have hwl := whole_len s
      obtain ⟨v2, g2, e2, k2, p2, er, rfl, hr2⟩ := c14 (tot := true) (ω := ω) (n := n) s0 z4 ve (wholeEds s) 0 g1 (s0_st _) d2 s0_inv.ok (by simp only [s0,Ste.sz,List.length_nil]; omega) (whole_f hI) (by simp only [s0,Ste.sz,List.length_nil]; omega)
      obtain ⟨wr1, wr2⟩ := whole_run hI
      rcases hr2 with ⟨rfl, s', hs', hrun⟩ | ⟨hne, rfl, herr⟩
      · obtain rfl := wr1 s' hrun
        have hp2 := (hp.ks d3).ks k2.ks
        have a2 := c16 (tot := true) (ω := ω) (n := n) s' s' p p2 g2 hp2.rd hs'.rd (by omega) (by omega) (by omega)
        simp only [decide_true] at a2
        obtain ⟨fv, g4, l1, b1, b2, b3, b4, b5⟩ := c18 (tot := true) (ω := ω) (n := n) s' p g2 0 hp2 (by omega) (by omega)
        have hp4 := hp2.ks b3.ks
        have hst := strict b5 (b4.nodup_iff.2 hI.i.nd)
        have hfs : l1.length ≤ 200 := by rw [b4.length_eq]; simp only [Ste.files,List.length_append,List.length_map]; have : s'.sz = s'.tb.length + s'.sr.length + s'.lg.length := rfl; omega
        have hfl := b2.len
        rw [List.length_map] at hfl
        obtain ⟨t9, ta, tb, tc⟩ := hp.t1
        obtain ⟨t1, t2, t3, t4⟩ := hs'.t1
        simp (maxSteps := 2000000) (discharger := omega) only [xz,xc,xo,xr,x0,x1,x2,x3,x4,x5,xd,kont_call,wr,place,partVals,Reg.isA,Reg.isV,Reg.stays,Reg.onto,↓reduceIte,reduceCtorEq,Nat.reduceEqDiff,Nat.reduceLT,beq_self_eq_true,int_lt_f,int_bne_f,Nat.sub_self,hlen,hz4,d1,e2,t1,t2,t3,t4,tb,a2,b1]
        refine wpi_loop' (fun k r g => ∃ j : Nat, r = [(3, .var p), (9, .val fv), (10, .val (.int .i64 ((j : Int) + 1)))] ∧ j ≤ l1.length ∧ k = l1.length - j ∧ g = g4)
          (fun e r g => e = .exit 2 ∧ g = g4 ∧ ∃ i : Int, r = [(3, .var p), (9, .val fv), (10, .val (.int .i64 i)), (60, .val (.bool false))]) l1.length (by omega)
          ⟨0, by simp, by omega, by omega, rfl⟩ ?_ ?_
        · rintro k r g ⟨j, rfl, hj, rfl, rfl⟩
          by_cases hlt2 : j + 1 < l1.length
          · obtain ⟨id, post, rfl, e0, _⟩ := b2.row (i := j) (by rw [List.length_map]; omega)
            have q1 := map_get (f := inOf) hlt2
            have q2 := map_get (f := inOf) (i := j) (l := l1) (by omega)
            have q3 := pair_at hst hlt2
            generalize l1[j + 1] = y at q1 q3
            generalize l1[j] = x at q2 q3
            have e1 : (List.map inOf l1 ++ post)[j + 1]? = some (.int .i64 y) := by rw [List.getElem?_append_left (by simpa using hlt2)]; exact q1
            have e3 : (List.map inOf l1 ++ post)[j]? = some (.int .i64 x) := by rw [List.getElem?_append_left (by simp; omega)]; exact q2
            have ht1 : ((j : Int) + 1).toNat = j + 1 := by omega
            have ht2 : (j : Int) + 1 - 1 = j := by omega
            simp (maxSteps := 2000000) (discharger := omega) only [xz,xc,xo,xr,x0,x1,x4,xd,Reg.isA,Reg.isV,Reg.stays,Reg.onto,↓reduceIte,Nat.reduceEqDiff,Nat.reduceLT,wrap_i64,int_lt_t,int_le_t,int_le_f,e0,e1,e3,ht1,ht2,List.length_map]
            exact ⟨l1.length - (j + 1), by omega, j + 1, rfl, by omega, rfl⟩
          · simp (maxSteps := 2000000) (discharger := omega) only [xz,xc,xo,xr,x0,x1,x4,xd,Reg.isA,Reg.isV,Reg.stays,Reg.onto,↓reduceIte,Nat.reduceEqDiff,Nat.reduceLT,int_lt_f,hfl]
            exact ⟨_, rfl⟩
        rintro e r g ⟨rfl, rfl, i0, rfl⟩
        obtain ⟨tv, sv, lv, rfl, r1, r2, r3⟩ := hp4
        have n1 := r1.len
        rw [List.length_map] at n1
        have b1' := r1.subv 1
        have hts : s'.tb.length ≤ 200 := by have : s'.sz = s'.tb.length + s'.sr.length + s'.lg.length := rfl; omega
        simp (maxSteps := 2000000) (discharger := omega) only [xz,xc,xo,xr,x0,Reg.isA,Reg.isV,Reg.stays,Reg.onto,↓reduceIte,Nat.reduceEqDiff,Nat.reduceLT]
        refine wpi_loop (fun k r g' => ∃ j : Nat, r = [(3, .var (.agg [tv, sv, lv, .int .i64 s'.nx])), (11, .val (.int .i64 ((j : Int) + 1)))] ∧ j ≤ s'.tb.length ∧ k = s'.tb.length - j ∧ g' = g) s'.tb.length (by omega)
          ⟨0, by simp, by omega, by omega, rfl⟩ ?_
        rintro k r g' ⟨j, rfl, hj, rfl, rfl⟩
        by_cases hlt2 : j + 1 < s'.tb.length
        · obtain ⟨id, post, rfl, e0, _⟩ := r1.row (i := j) (by rw [List.length_map]; omega)
          have q1 := map_get (f := tbOf) hlt2
          have q2 := map_get (f := tbOf) (i := j) (l := s'.tb) (by omega)
          have q3 := pair_at hI.i.tb hlt2
          have qx := (hI.i.ok1 s'.tb[j] (List.getElem_mem _)).1.1
          generalize s'.tb[j + 1] = y at q1 q3
          generalize s'.tb[j] = x at q2 q3 qx
          have e1 : (List.map tbOf s'.tb ++ post)[j + 1]? = some (.agg [.int .i64 y.f, .int .i64 y.l, .int .i64 y.c, .str y.lo, .str y.hi]) := by rw [List.getElem?_append_left (by simpa using hlt2)]; exact q1
          have e3 : (List.map tbOf s'.tb ++ post)[j]? = some (.agg [.int .i64 x.f, .int .i64 x.l, .int .i64 x.c, .str x.lo, .str x.hi]) := by rw [List.getElem?_append_left (by simp; omega)]; exact q2
          have ht1 : ((j : Int) + 1).toNat = j + 1 := by omega
          have ht2 : (j : Int) + 1 - 1 = j := by omega
          simp (maxSteps := 2000000) (discharger := omega) only [xz,xc,xo,xr,x0,x1,x4,xd,Reg.isA,Reg.isV,Reg.stays,Reg.onto,↓reduceIte,Nat.reduceEqDiff,Nat.reduceLT,Nat.reduceBEq,int_lt_t,List.length_map]
          refine wpi_regionA3 ?_
          obtain ⟨q4, q5⟩ := q3
          simp only [ltT] at q4
          by_cases hl1 : x.l = y.l
          · rw [if_pos hl1] at q4
            by_cases hl3 : x.l = 0
            · rw [if_pos hl3] at q4
              have q4 : y.f < x.f := of_decide_eq_true q4
              simp (maxSteps := 2000000) (discharger := omega) only [xz,xc,xo,xr,x0,x1,x5,xd,xb,wr,Reg.isA,Reg.isV,Reg.stays,Reg.onto,↓reduceIte,Nat.reduceEqDiff,Nat.reduceLT,Nat.reduceAdd,beq_self_eq_true,Nat.reduceBEq,xu,wrap_i64,int_lt_t,int_lt_f,int_le_t,int_le_f,int_beq_t,nat_le_t,e0,e1,e3,ht1,ht2,inOrd,List.filterMap_cons,List.filterMap_nil,Is,hl1]
              exact ⟨s'.tb.length - (j + 1), by omega, j + 1, rfl, by omega, rfl⟩
            · have hlp : x.l > 0 := by omega
              have q5 := q5 hl1 hlp
              simp (maxSteps := 2000000) (discharger := omega) only [xz,xc,xo,xr,x0,x1,x5,xd,xb,wr,Reg.isA,Reg.isV,Reg.stays,Reg.onto,↓reduceIte,Nat.reduceEqDiff,Nat.reduceLT,Nat.reduceAdd,beq_self_eq_true,Nat.reduceBEq,xu,wrap_i64,int_lt_t,int_lt_f,int_le_t,int_beq_f,nat_le_t,e0,e1,e3,ht1,ht2,inOrd,List.filterMap_cons,List.filterMap_nil,Is,hl1,q5]
              exact ⟨s'.tb.length - (j + 1), by omega, j + 1, rfl, by omega, rfl⟩
          · rw [if_neg hl1] at q4
            have q4 : x.l < y.l := of_decide_eq_true q4
            simp (maxSteps := 2000000) (discharger := omega) only [xz,xc,xo,xr,x0,x1,x5,xd,xb,wr,Reg.isA,Reg.isV,Reg.stays,Reg.onto,↓reduceIte,Nat.reduceEqDiff,Nat.reduceLT,Nat.reduceAdd,beq_self_eq_true,Nat.reduceBEq,xu,wrap_i64,int_lt_t,int_lt_f,int_le_t,int_beq_f,nat_le_t,e0,e1,e3,ht1,ht2,inOrd,List.filterMap_cons,List.filterMap_nil,Is]
            exact ⟨s'.tb.length - (j + 1), by omega, j + 1, rfl, by omega, rfl⟩
        · simp (maxSteps := 2000000) (discharger := omega) only [xz,xc,xo,xr,x0,x1,x4,xd,Reg.isA,Reg.isV,Reg.stays,Reg.onto,↓reduceIte,Nat.reduceEqDiff,Nat.reduceLT,exists_eq_left',Nat.reduceBEq,int_lt_f,n1]
      · exact absurd herr (wr2 er)

end Go.Proofs.Ytlognommhffmcaa.Im

/- Joined: S13XFe, S13XSm. -/
import Derived.Test.YtlognommhffmcaaLi
import Derived.Test.YtlognommhffmcaaRr
/- S13XFe: how much is looked at; are edits alike? -/
set_option linter.unusedVariables false
set_option linter.unusedSimpArgs false
open Go Go.Im
namespace Go.Proofs.Ytlognommhffmcaa.Im

def Grps (L : List (List Ed)) (gs : List AV) : Prop := gs.length = L.length ∧ ∀ i (h : i < L.length), ∃ w, gs[i]? = some w ∧ IsRd 6 (edsOf L[i]) w
def total (L : List (List Ed)) : Nat := (L.map List.length).sum
theorem total_take {L : List (List Ed)} {i : Nat} (h : i < L.length) : total (L.take (i + 1)) = total (L.take i) + L[i].length := by
  unfold total
  have : L.take (i + 1) = L.take i ++ [L[i]] := by simp
  rw [this, List.map_append, List.sum_append]; simp
theorem IsRd.sub1 {sz : Nat} {es : List AV} {v : AV} (h : IsRd sz es v) (n : Nat) : sub v 0 n false = some v := by
  rcases h with ⟨rfl, rfl⟩ | ⟨c, rfl⟩ <;> rfl

set_option maxRecDepth 100000 in
set_option maxHeartbeats 8000000 in
theorem c7 {tot : Bool} {ω : Nat → Nat} {n : Nat} (v : AV) (gs : List AV) (L : List (List Ed)) (h : Hp) (hv : IsRd 1 gs v) (hg : Grps L gs) (hl : L.length ≤ 9223372036854775807) (hn : L.length + 210 < n) :
    ∃ b, call F n tot ω 7 [v] h = some (.bool b, h) ∧ (b = true → L.length ≤ 200 ∧ total L ≤ 200) := by
  obtain ⟨n, rfl⟩ : ∃ m, n = m + 1 := ⟨n - 1, by omega⟩
  suffices hh : ∃ v' h', call F (n + 1) tot ω 7 [v] h = some (v', h') ∧ h' = h ∧ ∃ b, v' = .bool b ∧ (b = true → L.length ≤ 200 ∧ total L ≤ 200) by
    obtain ⟨v', h', e1, rfl, b, rfl, e2⟩ := hh
    exact ⟨b, e1, e2⟩
  refine call_of (fn := a7) f7 (P := fun v' h' => h' = h ∧ ∃ b, v' = .bool b ∧ (b = true → L.length ≤ 200 ∧ total L ≤ 200)) ?_
  unfold a7
  have hlen := hv.len
  rw [hg.1] at hlen
  simp (maxSteps := 2000000) (discharger := omega) only [xz,xc,xo,xr,x0,Reg.isA,Reg.isV,Reg.stays,Reg.onto,↓reduceIte,reduceCtorEq,Nat.reduceEqDiff,Nat.reduceLT]
  refine wpi_loop (fun k r g => g = h ∧ ∃ (i : Nat) (b : Int), r = [(0, .val v), (3, .val (.int .i64 (total (L.take i) : Nat))), (4, .val (.int .i64 b)), (5, .val (.int .i64 i))] ∧ i ≤ L.length ∧ k = L.length - i ∧ 0 ≤ b ∧ b ≤ 60000 ∧ total (L.take i) ≤ 200)
    L.length (by omega) ⟨rfl, 0, 0, rfl, by omega, by omega, by omega, by omega, by simp [total]⟩ ?_
  rintro k r g ⟨rfl, i, b, rfl, hi, rfl, hb0, hb, ht⟩
  by_cases hlt : i < L.length
  · obtain ⟨w, hw, hwr⟩ := hg.2 i hlt
    obtain ⟨cc, rfl⟩ := hv.imm (i := i) (by rw [hg.1]; exact hlt)
    have htt := total_take hlt
    have hwl := hwr.len
    rw [edsOf_len] at hwl
    have hws := hwr.sub1 1
    generalize L[i] = l at hwr htt hwl
    generalize htk : total (L.take i) = t0 at htt ht
    simp (maxSteps := 2000000) (discharger := omega) only [xz,xc,xo,xr,x0,x1,x4,xd,Reg.isA,Reg.isV,Reg.stays,Reg.onto,↓reduceIte,reduceCtorEq,Nat.reduceEqDiff,Nat.reduceLT,int_lt_t,hlen]
    refine wpi_loop (fun k r h' => ∃ (j : Nat) (b : Int), r = [(0, .val (.imm 1 gs cc)), (3, .val (.int .i64 ((t0 + j : Nat)))), (4, .val (.int .i64 b)), (5, .val (.int .i64 i)), (6, .val (.int .i64 j))] ∧ t0 + j + k = 200 ∧ j ≤ l.length ∧ 0 ≤ b ∧ b ≤ 60000 ∧ h' = g) (200 - t0) (by omega) ⟨0, b, rfl, by omega, by omega, by omega, by omega, rfl⟩ ?_
    rintro k r h' ⟨j, b, rfl, hjk, hjl, hb0, hb, rfl⟩
    by_cases hlj : j < l.length
    · have hge := edsOf_get hlj
      obtain ⟨c, rfl⟩ := hwr.imm (i := j) (by rw [edsOf_len]; omega)
      generalize l[j] = x at hge
      unfold edOf at hge
      by_cases q1 : ((t0 + j : Nat) : Int) + 1 > 200
      · simp (maxSteps := 2000000) (discharger := omega) only [xz,xc,xo,xr,x0,x1,x4,x5,xd,xb,wr,Reg.isA,Reg.isV,Reg.stays,Reg.onto,↓reduceIte,reduceCtorEq,Nat.reduceEqDiff,Nat.reduceLT,Nat.reduceAdd,exists_eq_left',xu,wrap_i64,int_lt_t,int_le_t,nat_le_t,hge,hw,hws,hwl,q1]
        exact ⟨false, rfl, fun h => by cases h⟩
      · by_cases q2 : ((x.lo.length : Nat) : Int) > 20000
        · simp (maxSteps := 2000000) (discharger := omega) only [xz,xc,xo,xr,x0,x1,x4,x5,xd,xb,wr,Reg.isA,Reg.isV,Reg.stays,Reg.onto,↓reduceIte,reduceCtorEq,Nat.reduceEqDiff,Nat.reduceLT,Nat.reduceAdd,beq_self_eq_true,exists_eq_left',Nat.reduceBEq,xu,wrap_i64,int_lt_t,int_le_t,nat_le_t,hge,hw,hws,hwl,q1,q2]
          exact ⟨false, rfl, fun h => by cases h⟩
        · by_cases q3 : ((x.hi.length : Nat) : Int) > 20000
          · simp (maxSteps := 2000000) (discharger := omega) only [xz,xc,xo,xr,x0,x1,x4,x5,xd,xb,wr,Reg.isA,Reg.isV,Reg.stays,Reg.onto,↓reduceIte,reduceCtorEq,Nat.reduceEqDiff,Nat.reduceLT,Nat.reduceAdd,beq_self_eq_true,exists_eq_left',Nat.reduceBEq,xu,wrap_i64,int_lt_t,int_le_t,nat_le_t,hge,hw,hws,hwl,q1,q2,q3]
            exact ⟨false, rfl, fun h => by cases h⟩
          · by_cases q4 : b > 20000
            · simp (maxSteps := 2000000) (discharger := omega) only [xz,xc,xo,xr,x0,x1,x4,x5,xd,wr,Reg.isA,Reg.isV,Reg.stays,Reg.onto,↓reduceIte,reduceCtorEq,Nat.reduceEqDiff,Nat.reduceLT,Nat.reduceAdd,beq_self_eq_true,exists_eq_left',Nat.reduceBEq,xu,wrap_i64,int_lt_t,int_le_t,nat_le_t,hge,hw,hws,hwl,q1,q2,q3,q4]
              exact ⟨false, rfl, fun h => by cases h⟩
            · simp (maxSteps := 2000000) (discharger := omega) only [xz,xc,xo,xr,x0,x1,x4,x5,xd,wr,Reg.isA,Reg.isV,Reg.stays,Reg.onto,↓reduceIte,reduceCtorEq,Nat.reduceEqDiff,Nat.reduceLT,Nat.reduceAdd,beq_self_eq_true,Nat.reduceBEq,xu,wrap_i64,int_lt_t,int_le_t,nat_le_t,hge,hw,hws,hwl,q1,q2,q3,q4]
              exact ⟨k - 1, by omega, j + 1, _, rfl, by omega, by omega, by omega, by omega⟩
    · obtain rfl : j = l.length := by omega
      simp (maxSteps := 2000000) (discharger := omega) only [xz,xc,xo,xr,x0,x1,x4,xd,Reg.isA,Reg.isV,Reg.stays,Reg.onto,↓reduceIte,reduceCtorEq,Nat.reduceEqDiff,Nat.reduceLT,wrap_i64,int_lt_f,int_le_t,hw,hws,hwl]
      refine ⟨L.length - (i + 1), by omega, i + 1, b, ?_, by omega, rfl, hb0, hb, by omega⟩
      rw [htt]; rfl
  · obtain rfl : i = L.length := by omega
    rw [List.take_length] at ht
    by_cases q : L.length ≤ 200
    · by_cases q2 : b ≤ 20000
      · simp (maxSteps := 2000000) (discharger := omega) only [xz,xc,xo,xr,x0,x1,x4,xd,Reg.isA,Reg.isV,Reg.stays,Reg.onto,↓reduceIte,reduceCtorEq,Nat.reduceEqDiff,Nat.reduceLT,beq_self_eq_true,exists_eq_left',int_lt_f,int_le_t,nat_le_t,Nat.sub_self,hlen,q,q2]
        exact ⟨true, rfl, fun _ => trivial⟩
      · simp (maxSteps := 2000000) (discharger := omega) only [xz,xc,xo,xr,x0,x1,x4,xd,Reg.isA,Reg.isV,Reg.stays,Reg.onto,↓reduceIte,reduceCtorEq,Nat.reduceEqDiff,Nat.reduceLT,beq_self_eq_true,exists_eq_left',int_lt_f,int_le_t,nat_le_t,Nat.sub_self,hlen,q,q2]
        exact ⟨false, rfl, fun h => by cases h⟩
    · simp (maxSteps := 2000000) (discharger := omega) only [xz,xc,xo,xr,x0,x1,x4,xd,xb,Reg.isA,Reg.isV,Reg.stays,Reg.onto,↓reduceIte,reduceCtorEq,Nat.reduceEqDiff,Nat.reduceLT,exists_eq_left',int_lt_f,int_le_f,nat_le_t,Nat.sub_self,hlen,q]
      exact ⟨false, rfl, fun h => by cases h⟩

theorem edOf_inj {a b : Ed} (h : edOf a = edOf b) : a = b := by
  cases a; cases b
  simp only [edOf,AV.agg.injEq,List.cons.injEq,AV.int.injEq,AV.str.injEq,and_true,true_and] at h
  simp [h]
theorem eq_eds (a b : Ed) : (a.k == b.k && (a.f == b.f && (a.l == b.l && (a.c == b.c && (a.lo == b.lo && a.hi == b.hi))))) = decide (a = b) := by
  have : (a = b) ↔ (a.k = b.k ∧ a.f = b.f ∧ a.l = b.l ∧ a.c = b.c ∧ a.lo = b.lo ∧ a.hi = b.hi) := by
    cases a; cases b; simp
  rw [Bool.eq_iff_iff]
  simp [this]

end Go.Proofs.Ytlognommhffmcaa.Im

/- S13XSm: are states alike? -/
set_option linter.unusedVariables false
set_option linter.unusedSimpArgs false
open Go Go.Im
namespace Go.Proofs.Ytlognommhffmcaa.Im

def Rdb (h : Hp) (sz : Nat) (es : List AV) (v : AV) : Prop := IsRd sz es v ∨ ∃ lo, RowAt h sz lo es v
theorem Rdb.len {h : Hp} {sz : Nat} {es : List AV} {v : AV} (r : Rdb h sz es v) : lenSl v = some es.length := by
  rcases r with r | ⟨lo, r⟩
  · exact r.len
  · exact r.len
theorem Rdb.subv {h : Hp} {sz : Nat} {es : List AV} {v : AV} (r : Rdb h sz es v) (n : Nat) : sub v 0 n false = some v := by
  rcases r with r | ⟨lo, r⟩
  · exact r.subv n
  · exact r.subv n
theorem Rdb.get {h : Hp} {sz : Nat} {es : List AV} {v : AV} (r : Rdb h sz es v) {i : Nat} (hi : i < es.length) :
    (∃ c, v = .imm sz es c) ∨ ∃ id R, v = .row id sz 0 es.length false ∧ h[id]? = some (.row sz R) ∧ R[i]? = es[i]? := by
  rcases r with r | ⟨lo, r⟩
  · exact .inl (r.imm hi)
  · obtain ⟨id, post, e1, e2, _⟩ := r.row hi
    exact .inr ⟨id, _, e1, e2, by rw [List.getElem?_append_left hi]⟩

set_option maxRecDepth 100000 in
set_option maxHeartbeats 8000000 in
theorem c17 {tot : Bool} {ω : Nat → Nat} {n : Nat} (a b : List Int) (v1 v2 : AV) (h : Hp) (h1 : Rdb h 1 (a.map inOf) v1) (h2 : Rdb h 1 (b.map inOf) v2) (hl : a.length ≤ 1000000) (hl2 : b.length ≤ 1000000) (hn : a.length + 2 < n) :
    call F n tot ω 17 [v1, v2] h = some (.bool (decide (a = b)), h) := by
  obtain ⟨n, rfl⟩ : ∃ m, n = m + 1 := ⟨n - 1, by omega⟩
  refine call_eq (fn := a17) f17 ?_
  unfold a17
  have l1 := h1.len
  have l2 := h2.len
  rw [List.length_map] at l1 l2
  by_cases hq : a.length = b.length
  · simp (maxSteps := 2000000) (discharger := omega) only [xz,xc,xo,xr,x0,x1,x4,xd,Reg.isA,Reg.isV,Reg.stays,Reg.onto,↓reduceIte,reduceCtorEq,Nat.reduceEqDiff,Nat.reduceLT,Nat.reduceAdd,int_bne_f,l1,l2]
    refine wpi_loop (fun k r h' => ∃ i : Nat, r = [(0, .val v1), (1, .val v2), (5, .val (.int .i64 i))] ∧ i ≤ a.length ∧ k = a.length - i ∧ a.take i = b.take i ∧ h' = h) a.length (by omega) ⟨0, rfl, by omega, by omega, rfl, rfl⟩ ?_
    rintro k r h' ⟨i, rfl, hi, rfl, ht, rfl⟩
    by_cases hlt : i < a.length
    · have hlb : i < b.length := by omega
      have e1 := map_get (f := inOf) hlt
      have e2 := map_get (f := inOf) hlb
      have hnx := take_next hlt hlb ht
      have hna := ne_at hlt hlb
      generalize a[i] = p at *
      generalize b[i] = q at *
      have e1' : (List.map inOf a)[i]? = some (.int .i64 p) := e1
      have e2' : (List.map inOf b)[i]? = some (.int .i64 q) := e2
      by_cases hab : p = q
      · rcases h1.get (i := i) (by simpa using hlt) with ⟨c1, rfl⟩ | ⟨id1, R1, rfl, g1, g2⟩ <;> rcases h2.get (i := i) (by simpa using hlb) with ⟨c2, rfl⟩ | ⟨id2, R2, rfl, k1, k2⟩ <;>
        (try rw [e1'] at g2) <;> (try rw [e2'] at k2) <;>
        (first
          | (simp (maxSteps := 2000000) (discharger := omega) only [xz,xc,xo,xr,x0,x1,x4,xd,Reg.isA,Reg.isV,Reg.stays,Reg.onto,↓reduceIte,reduceCtorEq,Nat.reduceEqDiff,Nat.reduceLT,wrap_i64,int_lt_t,int_le_t,int_bne_f,g1,g2,k1,k2,List.length_map])
          | (simp (maxSteps := 2000000) (discharger := omega) only [xz,xc,xo,xr,x0,x1,x4,xd,Reg.isA,Reg.isV,Reg.stays,Reg.onto,↓reduceIte,reduceCtorEq,Nat.reduceEqDiff,Nat.reduceLT,wrap_i64,int_lt_t,int_le_t,int_bne_f,e2',g1,g2,List.length_map])
          | (simp (maxSteps := 2000000) (discharger := omega) only [xz,xc,xo,xr,x0,x1,x4,xd,Reg.isA,Reg.isV,Reg.stays,Reg.onto,↓reduceIte,reduceCtorEq,Nat.reduceEqDiff,Nat.reduceLT,wrap_i64,int_lt_t,int_le_t,int_bne_f,l1,e1',k1,k2,List.length_map])
          | (simp (maxSteps := 2000000) (discharger := omega) only [xz,xc,xo,xr,x0,x1,x4,xd,Reg.isA,Reg.isV,Reg.stays,Reg.onto,↓reduceIte,reduceCtorEq,Nat.reduceEqDiff,Nat.reduceLT,wrap_i64,int_lt_t,int_le_t,int_bne_f,l1,e1',e2'])) <;> exact ⟨a.length - (i + 1), by omega, i + 1, rfl, by omega, rfl, hnx hab⟩
      · have hab' : decide (a = b) = false := by simp only [decide_eq_false_iff_not]; exact hna hab
        rcases h1.get (i := i) (by simpa using hlt) with ⟨c1, rfl⟩ | ⟨id1, R1, rfl, g1, g2⟩ <;> rcases h2.get (i := i) (by simpa using hlb) with ⟨c2, rfl⟩ | ⟨id2, R2, rfl, k1, k2⟩ <;>
        (try rw [e1'] at g2) <;> (try rw [e2'] at k2) <;>
        (first
          | (simp (maxSteps := 2000000) (discharger := omega) only [xz,xc,xo,xr,x0,x1,x4,xd,Reg.isA,Reg.isV,Reg.stays,Reg.onto,↓reduceIte,reduceCtorEq,Nat.reduceEqDiff,Nat.reduceLT,exists_eq_left',int_lt_t,int_le_t,int_bne_t,hab',g1,g2,k1,k2,List.length_map])
          | (simp (maxSteps := 2000000) (discharger := omega) only [xz,xc,xo,xr,x0,x1,x4,xd,Reg.isA,Reg.isV,Reg.stays,Reg.onto,↓reduceIte,reduceCtorEq,Nat.reduceEqDiff,Nat.reduceLT,exists_eq_left',int_lt_t,int_le_t,int_bne_t,e2',hab',g1,g2,List.length_map])
          | (simp (maxSteps := 2000000) (discharger := omega) only [xz,xc,xo,xr,x0,x1,x4,xd,Reg.isA,Reg.isV,Reg.stays,Reg.onto,↓reduceIte,reduceCtorEq,Nat.reduceEqDiff,Nat.reduceLT,exists_eq_left',int_lt_t,int_le_t,int_bne_t,l1,e1',hab',k1,k2,List.length_map])
          | (simp (maxSteps := 2000000) (discharger := omega) only [xz,xc,xo,xr,x0,x1,x4,xd,Reg.isA,Reg.isV,Reg.stays,Reg.onto,↓reduceIte,reduceCtorEq,Nat.reduceEqDiff,Nat.reduceLT,exists_eq_left',int_lt_t,int_le_t,int_bne_t,l1,e1',e2',hab']))
    · have hab : decide (a = b) = true := by simp only [decide_eq_true_eq]; exact eq_all (by omega) hq ht
      simp (maxSteps := 2000000) (discharger := omega) only [xz,xc,xo,xr,x0,x1,x4,xd,Reg.isA,Reg.isV,Reg.stays,Reg.onto,↓reduceIte,reduceCtorEq,Nat.reduceEqDiff,Nat.reduceLT,exists_eq_left',int_lt_f,l1,hab]
  · have hab : decide (a = b) = false := by
      simp only [decide_eq_false_iff_not]
      rintro rfl; exact hq rfl
    simp (maxSteps := 2000000) (discharger := omega) only [xz,xc,xo,xr,x0,x1,x4,xd,Reg.isA,Reg.isV,Reg.stays,Reg.onto,↓reduceIte,reduceCtorEq,Nat.reduceEqDiff,Nat.reduceLT,Nat.reduceAdd,exists_eq_left',int_bne_t,l1,l2,hab]

def SRd (h : Hp) (s : Ste) (v : AV) : Prop := ∃ tv sv lv, v = .agg [tv, sv, lv, .int .i64 s.nx] ∧ Rdb h 5 (s.tb.map tbOf) tv ∧ Rdb h 2 (s.sr.map srOf) sv ∧ Rdb h 1 (s.lg.map inOf) lv
theorem StAt.rd {h : Hp} {lo : Nat} {s : Ste} {v : AV} (r : StAt h lo s v) : SRd h s v := by
  obtain ⟨tv, sv, lv, e, r1, r2, r3⟩ := r
  exact ⟨tv, sv, lv, e, .inr ⟨lo, r1⟩, .inr ⟨lo, r2⟩, .inr ⟨lo, r3⟩⟩
theorem RfAt.rd {h : Hp} {s : Ste} {v : AV} (r : RfAt s v) : SRd h s v := by
  obtain ⟨tv, sv, lv, e, r1, r2, r3⟩ := r
  exact ⟨tv, sv, lv, e, .inl r1, .inl r2, .inl r3⟩

theorem eq_tb (a b : Tb) : (a.f == b.f && (a.l == b.l && (a.c == b.c && (a.lo == b.lo && a.hi == b.hi)))) = decide (a = b) := by
  have : (a = b) ↔ (a.f = b.f ∧ a.l = b.l ∧ a.c = b.c ∧ a.lo = b.lo ∧ a.hi = b.hi) := by
    cases a; cases b; simp
  rw [Bool.eq_iff_iff]
  simp [this]
theorem eq_sr (a b : Sr) : (a.f == b.f && a.t == b.t) = decide (a = b) := by
  have : (a = b) ↔ (a.f = b.f ∧ a.t = b.t) := by
    cases a; cases b; simp
  rw [Bool.eq_iff_iff]
  simp [this]

set_option maxRecDepth 100000 in
set_option maxHeartbeats 8000000 in
theorem c16 {tot : Bool} {ω : Nat → Nat} {n : Nat} (s t : Ste) (v1 v2 : AV) (h : Hp) (h1 : SRd h s v1) (h2 : SRd h t v2) (hz1 : s.sz ≤ 90000) (hz2 : t.sz ≤ 90000) (hn : s.sz + 20 < n) :
    call F n tot ω 16 [v1, v2] h = some (.bool (decide (s = t)), h) := by
  obtain ⟨n, rfl⟩ : ∃ m, n = m + 1 := ⟨n - 1, by omega⟩
  have d1 : s.sz = s.tb.length + s.sr.length + s.lg.length := rfl
  have d2 : t.sz = t.tb.length + t.sr.length + t.lg.length := rfl
  obtain ⟨a1, a2, a3, rfl, r1, r2, r3⟩ := h1
  obtain ⟨b1, b2, b3, rfl, q1, q2, q3⟩ := h2
  have hc := c17 (tot := tot) (ω := ω) (n := n) s.lg t.lg a3 b3 h r3 q3 (by omega) (by omega) (by omega)
  refine call_eq (fn := a16) f16 ?_
  unfold a16
  have l1 := r1.len
  have l2 := r2.len
  have m1 := q1.len
  have m2 := q2.len
  rw [List.length_map] at l1 l2 m1 m2
  have u1 := r1.subv 1
  have u2 := r2.subv 1
  have u3 := r3.subv 1
  have w1 := q1.subv 1
  have w2 := q2.subv 1
  have w3 := q3.subv 1
  by_cases c1 : s.tb.length = t.tb.length
  · by_cases c2 : s.sr.length = t.sr.length
    · by_cases c3 : s.lg = t.lg
      · by_cases c4 : s.nx = t.nx
        · have hc3 : decide (s.lg = t.lg) = true := by simp [c3]
          rw [hc3] at hc
          simp (maxSteps := 2000000) (discharger := omega) only [xz,xc,xo,xr,x0,x1,x2,x4,xd,kont_call,Reg.isA,Reg.isV,Reg.stays,Reg.onto,↓reduceIte,reduceCtorEq,Nat.reduceEqDiff,Nat.reduceLT,Nat.reduceAdd,beq_self_eq_true,Nat.reduceBEq,int_bne_f,l1,l2,m1,m2,hc]
          refine wpi_loop' (fun k r h' => ∃ i : Nat, r = [(2, .var (.agg [a1, a2, a3, .int .i64 s.nx])), (3, .var (.agg [b1, b2, b3, .int .i64 t.nx])), (5, .val (.int .i64 i))] ∧ i ≤ s.tb.length ∧ k = s.tb.length - i ∧ s.tb.take i = t.tb.take i ∧ h' = h)
            (fun e r h' => h' = h ∧ ((e = .ret ∧ s.tb ≠ t.tb ∧ r = [(4, .val (.bool false))]) ∨ (e = .exit 0 ∧ s.tb = t.tb ∧ ∃ i : Int, r = [(2, .var (.agg [a1, a2, a3, .int .i64 s.nx])), (3, .var (.agg [b1, b2, b3, .int .i64 t.nx])), (5, .val (.int .i64 i)), (42, .val (.bool false))]))) s.tb.length (by omega)
            ⟨0, rfl, by omega, by omega, rfl, rfl⟩ ?_ ?_
          · rintro k r h' ⟨i, rfl, hi, rfl, ht, rfl⟩
            by_cases hlt : i < s.tb.length
            · have hlb : i < t.tb.length := by omega
              have e1 := map_get (f := tbOf) hlt
              have e2 := map_get (f := tbOf) hlb
              have hnx := take_next hlt hlb ht
              have hna := ne_at hlt hlb
              generalize s.tb[i] = p at *
              generalize t.tb[i] = q at *
              have hpq := eq_tb p q
              have e1' : (List.map tbOf s.tb)[i]? = some (.agg [.int .i64 p.f, .int .i64 p.l, .int .i64 p.c, .str p.lo, .str p.hi]) := e1
              have e2' : (List.map tbOf t.tb)[i]? = some (.agg [.int .i64 q.f, .int .i64 q.l, .int .i64 q.c, .str q.lo, .str q.hi]) := e2
              by_cases hab : p = q
              · have hd : decide (p = q) = true := by simp [hab]
                rw [hd] at hpq
                rcases r1.get (i := i) (by simpa using hlt) with ⟨c1, rfl⟩ | ⟨id1, R1, rfl, g1, g2⟩ <;> rcases q1.get (i := i) (by simpa using hlb) with ⟨c2, rfl⟩ | ⟨id2, R2, rfl, k1, k2⟩ <;>
                (try rw [e1'] at g2) <;> (try rw [e2'] at k2) <;>
                (first
                  | (simp (maxSteps := 2000000) (discharger := omega) only [xz,xc,xo,xr,x0,x1,x2,x4,xd,eqAV,eqCells,eqS,Bool.bne_true,Reg.isA,Reg.isV,Reg.stays,Reg.onto,↓reduceIte,Nat.reduceEqDiff,Nat.reduceLT,Nat.reduceAdd,Nat.reduceBEq,wrap_i64,int_lt_t,int_le_t,nat_le_t,hpq,g1,g2,k1,k2,List.length_map])
                  | (simp (maxSteps := 2000000) (discharger := omega) only [xz,xc,xo,xr,x0,x1,x2,x4,xd,eqAV,eqCells,eqS,Bool.bne_true,Reg.isA,Reg.isV,Reg.stays,Reg.onto,↓reduceIte,Nat.reduceEqDiff,Nat.reduceLT,Nat.reduceAdd,Nat.reduceBEq,wrap_i64,int_lt_t,int_le_t,nat_le_t,e2',hpq,g1,g2,List.length_map])
                  | (simp (maxSteps := 2000000) (discharger := omega) only [xz,xc,xo,xr,x0,x1,x2,x4,xd,eqAV,eqCells,eqS,Bool.bne_true,Reg.isA,Reg.isV,Reg.stays,Reg.onto,↓reduceIte,Nat.reduceEqDiff,Nat.reduceLT,Nat.reduceAdd,Nat.reduceBEq,wrap_i64,int_lt_t,int_le_t,nat_le_t,l1,e1',hpq,k1,k2,List.length_map])
                  | (simp (maxSteps := 2000000) (discharger := omega) only [xz,xc,xo,xr,x0,x1,x2,x4,xd,eqAV,eqCells,eqS,Bool.bne_true,Reg.isA,Reg.isV,Reg.stays,Reg.onto,↓reduceIte,Nat.reduceEqDiff,Nat.reduceLT,Nat.reduceAdd,Nat.reduceBEq,wrap_i64,int_lt_t,int_le_t,nat_le_t,l1,e1',e2',hpq])) <;> exact ⟨s.tb.length - (i + 1), by omega, i + 1, rfl, by omega, rfl, hnx hab⟩
              · have hd : decide (p = q) = false := by simp [hab]
                rw [hd] at hpq
                have hna' := hna hab
                rcases r1.get (i := i) (by simpa using hlt) with ⟨c1, rfl⟩ | ⟨id1, R1, rfl, g1, g2⟩ <;> rcases q1.get (i := i) (by simpa using hlb) with ⟨c2, rfl⟩ | ⟨id2, R2, rfl, k1, k2⟩ <;>
                (try rw [e1'] at g2) <;> (try rw [e2'] at k2) <;>
                (first
                  | (simp (maxSteps := 2000000) (discharger := omega) only [xz,xc,xo,xr,x0,x1,x2,x4,xd,eqAV,eqCells,eqS,Bool.bne_true,Reg.isA,Reg.isV,Reg.stays,Reg.onto,↓reduceIte,reduceCtorEq,Nat.reduceEqDiff,Nat.reduceLT,Nat.reduceAdd,or_false,Nat.reduceBEq,int_lt_t,int_le_t,nat_le_t,hpq,g1,g2,k1,k2,List.length_map])
                  | (simp (maxSteps := 2000000) (discharger := omega) only [xz,xc,xo,xr,x0,x1,x2,x4,xd,eqAV,eqCells,eqS,Bool.bne_true,Reg.isA,Reg.isV,Reg.stays,Reg.onto,↓reduceIte,reduceCtorEq,Nat.reduceEqDiff,Nat.reduceLT,Nat.reduceAdd,or_false,Nat.reduceBEq,int_lt_t,int_le_t,nat_le_t,e2',hpq,g1,g2,List.length_map])
                  | (simp (maxSteps := 2000000) (discharger := omega) only [xz,xc,xo,xr,x0,x1,x2,x4,xd,eqAV,eqCells,eqS,Bool.bne_true,Reg.isA,Reg.isV,Reg.stays,Reg.onto,↓reduceIte,reduceCtorEq,Nat.reduceEqDiff,Nat.reduceLT,Nat.reduceAdd,or_false,Nat.reduceBEq,int_lt_t,int_le_t,nat_le_t,l1,e1',hpq,k1,k2,List.length_map])
                  | (simp (maxSteps := 2000000) (discharger := omega) only [xz,xc,xo,xr,x0,x1,x2,x4,xd,eqAV,eqCells,eqS,Bool.bne_true,Reg.isA,Reg.isV,Reg.stays,Reg.onto,↓reduceIte,reduceCtorEq,Nat.reduceEqDiff,Nat.reduceLT,Nat.reduceAdd,or_false,Nat.reduceBEq,int_lt_t,int_le_t,nat_le_t,l1,e1',e2',hpq])) <;> exact hna'
            · have hab := eq_all (by omega) c1 ht
              simp (maxSteps := 2000000) (discharger := omega) only [xz,xc,xo,xr,x0,x1,x4,xd,Reg.isA,Reg.isV,Reg.stays,Reg.onto,↓reduceIte,reduceCtorEq,Nat.reduceEqDiff,Nat.reduceLT,false_or,Nat.reduceBEq,int_lt_f,l1]
              exact ⟨hab, i, rfl⟩
          rintro e r h' ⟨rfl, (⟨rfl, hne, rfl⟩ | ⟨rfl, heq, i, rfl⟩)⟩
          · have hab : decide (s = t) = false := by simp only [decide_eq_false_iff_not]; rintro rfl; exact hne rfl
            simp (maxSteps := 2000000) (discharger := omega) only [xz,xc,xr,xd,↓reduceIte,exists_eq_left',hab]
          simp (maxSteps := 2000000) (discharger := omega) only [xz,xc,xo,xr,x0,Reg.isA,Reg.isV,Reg.stays,Reg.onto,↓reduceIte,Nat.reduceEqDiff,Nat.reduceLT]
          refine wpi_loop (fun k r g => ∃ i : Nat, r = [(2, .var (.agg [a1, a2, a3, .int .i64 s.nx])), (3, .var (.agg [b1, b2, b3, .int .i64 t.nx])), (6, .val (.int .i64 i))] ∧ i ≤ s.sr.length ∧ k = s.sr.length - i ∧ s.sr.take i = t.sr.take i ∧ g = h') s.sr.length (by omega)
            ⟨0, rfl, by omega, by omega, rfl, rfl⟩ ?_
          rintro k r g ⟨i, rfl, hi, rfl, ht, rfl⟩
          by_cases hlt : i < s.sr.length
          · have hlb : i < t.sr.length := by omega
            have e1 := map_get (f := srOf) hlt
            have e2 := map_get (f := srOf) hlb
            have hnx := take_next hlt hlb ht
            have hna := ne_at hlt hlb
            generalize s.sr[i] = p at *
            generalize t.sr[i] = q at *
            have hpq := eq_sr p q
            have e1' : (List.map srOf s.sr)[i]? = some (.agg [.int .i64 p.f, .int .i64 p.t]) := e1
            have e2' : (List.map srOf t.sr)[i]? = some (.agg [.int .i64 q.f, .int .i64 q.t]) := e2
            by_cases hab : p = q
            · have hd : decide (p = q) = true := by simp [hab]
              rw [hd] at hpq
              rcases r2.get (i := i) (by simpa using hlt) with ⟨c1, rfl⟩ | ⟨id1, R1, rfl, g1, g2⟩ <;> rcases q2.get (i := i) (by simpa using hlb) with ⟨c2, rfl⟩ | ⟨id2, R2, rfl, k1, k2⟩ <;>
              (try rw [e1'] at g2) <;> (try rw [e2'] at k2) <;>
              (first
                  | (simp (maxSteps := 2000000) (discharger := omega) only [xz,xc,xo,xr,x0,x1,x2,x4,xd,eqAV,eqCells,eqS,Bool.bne_true,Reg.isA,Reg.isV,Reg.stays,Reg.onto,↓reduceIte,Nat.reduceEqDiff,Nat.reduceLT,Nat.reduceAdd,Nat.reduceBEq,wrap_i64,int_lt_t,int_le_t,nat_le_t,hpq,g1,g2,k1,k2,List.length_map])
                  | (simp (maxSteps := 2000000) (discharger := omega) only [xz,xc,xo,xr,x0,x1,x2,x4,xd,eqAV,eqCells,eqS,Bool.bne_true,Reg.isA,Reg.isV,Reg.stays,Reg.onto,↓reduceIte,Nat.reduceEqDiff,Nat.reduceLT,Nat.reduceAdd,Nat.reduceBEq,wrap_i64,int_lt_t,int_le_t,nat_le_t,e2',hpq,g1,g2,List.length_map])
                  | (simp (maxSteps := 2000000) (discharger := omega) only [xz,xc,xo,xr,x0,x1,x2,x4,xd,eqAV,eqCells,eqS,Bool.bne_true,Reg.isA,Reg.isV,Reg.stays,Reg.onto,↓reduceIte,Nat.reduceEqDiff,Nat.reduceLT,Nat.reduceAdd,Nat.reduceBEq,wrap_i64,int_lt_t,int_le_t,nat_le_t,l2,e1',hpq,k1,k2,List.length_map])
                  | (simp (maxSteps := 2000000) (discharger := omega) only [xz,xc,xo,xr,x0,x1,x2,x4,xd,eqAV,eqCells,eqS,Bool.bne_true,Reg.isA,Reg.isV,Reg.stays,Reg.onto,↓reduceIte,Nat.reduceEqDiff,Nat.reduceLT,Nat.reduceAdd,Nat.reduceBEq,wrap_i64,int_lt_t,int_le_t,nat_le_t,l2,e1',e2',hpq])) <;> exact ⟨s.sr.length - (i + 1), by omega, i + 1, rfl, by omega, rfl, hnx hab⟩
            · have hd : decide (p = q) = false := by simp [hab]
              rw [hd] at hpq
              have hna' := hna hab
              have hst : decide (s = t) = false := by simp only [decide_eq_false_iff_not]; rintro rfl; exact hna' rfl
              rcases r2.get (i := i) (by simpa using hlt) with ⟨c1, rfl⟩ | ⟨id1, R1, rfl, g1, g2⟩ <;> rcases q2.get (i := i) (by simpa using hlb) with ⟨c2, rfl⟩ | ⟨id2, R2, rfl, k1, k2⟩ <;>
              (try rw [e1'] at g2) <;> (try rw [e2'] at k2) <;>
              (first
                  | (simp (maxSteps := 2000000) (discharger := omega) only [xz,xc,xo,xr,x0,x1,x2,x4,xd,eqAV,eqCells,eqS,Bool.bne_true,Reg.isA,Reg.isV,Reg.stays,Reg.onto,↓reduceIte,Nat.reduceEqDiff,Nat.reduceLT,Nat.reduceAdd,exists_eq_left',Nat.reduceBEq,int_lt_t,int_le_t,nat_le_t,hpq,hst,g1,g2,k1,k2,List.length_map])
                  | (simp (maxSteps := 2000000) (discharger := omega) only [xz,xc,xo,xr,x0,x1,x2,x4,xd,eqAV,eqCells,eqS,Bool.bne_true,Reg.isA,Reg.isV,Reg.stays,Reg.onto,↓reduceIte,Nat.reduceEqDiff,Nat.reduceLT,Nat.reduceAdd,exists_eq_left',Nat.reduceBEq,int_lt_t,int_le_t,nat_le_t,e2',hpq,hst,g1,g2,List.length_map])
                  | (simp (maxSteps := 2000000) (discharger := omega) only [xz,xc,xo,xr,x0,x1,x2,x4,xd,eqAV,eqCells,eqS,Bool.bne_true,Reg.isA,Reg.isV,Reg.stays,Reg.onto,↓reduceIte,Nat.reduceEqDiff,Nat.reduceLT,Nat.reduceAdd,exists_eq_left',Nat.reduceBEq,int_lt_t,int_le_t,nat_le_t,l2,e1',hpq,hst,k1,k2,List.length_map])
                  | (simp (maxSteps := 2000000) (discharger := omega) only [xz,xc,xo,xr,x0,x1,x2,x4,xd,eqAV,eqCells,eqS,Bool.bne_true,Reg.isA,Reg.isV,Reg.stays,Reg.onto,↓reduceIte,Nat.reduceEqDiff,Nat.reduceLT,Nat.reduceAdd,exists_eq_left',Nat.reduceBEq,int_lt_t,int_le_t,nat_le_t,l2,e1',e2',hpq,hst]))
          · have hab := eq_all (by omega) c2 ht
            have hst : decide (s = t) = true := by
              simp only [decide_eq_true_eq]
              cases s; cases t
              simp only at heq hab c3 c4
              simp [heq,hab,c3,c4]
            simp (maxSteps := 2000000) (discharger := omega) only [xz,xc,xo,xr,x0,x1,x4,xd,Reg.isA,Reg.isV,Reg.stays,Reg.onto,↓reduceIte,Nat.reduceEqDiff,Nat.reduceLT,exists_eq_left',Nat.reduceBEq,int_lt_f,l2,hst]
        · have hab : decide (s = t) = false := by simp only [decide_eq_false_iff_not]; rintro rfl; exact c4 rfl
          have hc3 : decide (s.lg = t.lg) = true := by simp [c3]
          rw [hc3] at hc
          simp (maxSteps := 2000000) (discharger := omega) only [xz,xc,xo,xr,x0,x1,x2,x4,xd,kont_call,Reg.isA,Reg.isV,Reg.stays,Reg.onto,↓reduceIte,reduceCtorEq,Nat.reduceEqDiff,Nat.reduceLT,Nat.reduceAdd,beq_self_eq_true,exists_eq_left',Nat.reduceBEq,int_bne_t,int_bne_f,l1,l2,m1,m2,hc,hab]
      · have hab : decide (s = t) = false := by simp only [decide_eq_false_iff_not]; rintro rfl; exact c3 rfl
        have hc3 : decide (s.lg = t.lg) = false := by simp [c3]
        rw [hc3] at hc
        simp (maxSteps := 2000000) (discharger := omega) only [xz,xc,xo,xr,x0,x1,x2,x4,xd,xb,kont_call,Reg.isA,Reg.isV,Reg.stays,Reg.onto,↓reduceIte,reduceCtorEq,Nat.reduceEqDiff,Nat.reduceLT,Nat.reduceAdd,beq_self_eq_true,exists_eq_left',Nat.reduceBEq,int_bne_f,l1,l2,m1,m2,hc,hab]
    · have hab : decide (s = t) = false := by simp only [decide_eq_false_iff_not]; rintro rfl; exact c2 rfl
      simp (maxSteps := 2000000) (discharger := omega) only [xz,xc,xo,xr,x0,x1,x4,xd,xb,Reg.isA,Reg.isV,Reg.stays,Reg.onto,↓reduceIte,reduceCtorEq,Nat.reduceEqDiff,Nat.reduceLT,Nat.reduceAdd,beq_self_eq_true,exists_eq_left',Nat.reduceBEq,int_bne_t,int_bne_f,l1,l2,m1,m2,hab]
  · have hab : decide (s = t) = false := by simp only [decide_eq_false_iff_not]; rintro rfl; exact c1 rfl
    simp (maxSteps := 2000000) (discharger := omega) only [xz,xc,xo,xr,x0,x1,x4,xd,xb,Reg.isA,Reg.isV,Reg.stays,Reg.onto,↓reduceIte,reduceCtorEq,Nat.reduceEqDiff,Nat.reduceLT,Nat.reduceAdd,exists_eq_left',Nat.reduceBEq,int_bne_t,l1,m1,hab]

end Go.Proofs.Ytlognommhffmcaa.Im

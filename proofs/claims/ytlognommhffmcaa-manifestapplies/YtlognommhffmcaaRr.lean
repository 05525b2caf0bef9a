/- Joined: S13XRo, S13XRp, S13XRq, S13XRr. -/
import Derived.Test.YtlognommhffmcaaRe
/- S13XRo: the document's: is a file there; a state behind an edit: its tables. -/
set_option linter.unusedVariables false
set_option linter.unusedSimpArgs false
open Go Go.Im
namespace Go.Proofs.Ytlognommhffmcaa.Im

theorem hasF_files (s : Ste) (f : Int) : (s.files.any fun y => y == f) = hasF s f := by
  have e : (fun y : Int => y == f) = (fun y : Int => f == y) := by
    funext y
    rw [Bool.eq_iff_iff]
    simp only [beq_iff_eq]
    exact ⟨Eq.symm, Eq.symm⟩
  have h1 : (s.tb.map (·.f)).any (fun y => y == f) = s.tb.any fun t => t.f == f := by rw [List.any_map]; rfl
  have h2 : (s.sr.map (·.f)).any (fun y => y == f) = s.sr.any fun t => t.f == f := by rw [List.any_map]; rfl
  simp only [Ste.files,hasF,List.any_append,h1,h2,Bool.or_assoc]
  rw [e]

theorem any_perm {α : Type} {p : α → Bool} {a b : List α} (h : a.Perm b) : a.any p = b.any p := by
  rw [Bool.eq_iff_iff, List.any_eq_true, List.any_eq_true]
  exact ⟨fun ⟨x, h1, h2⟩ => ⟨x, h.mem_iff.1 h1, h2⟩, fun ⟨x, h1, h2⟩ => ⟨x, h.mem_iff.2 h1, h2⟩⟩

theorem c65 {tot : Bool} {ω : Nat → Nat} {n : Nat} (s : Ste) (v : AV) (f : Int) (h : Hp) (hv : RfAt s v) (hz : s.sz ≤ 100000) (hn : s.sz + 12 < n) :
    ∃ h', call F n tot ω 65 [v, .int .i64 f] h = some (.bool (hasF s f), h') ∧ KeepLo h.length h h' := by
  obtain ⟨n, rfl⟩ : ∃ m, n = m + 1 := ⟨n - 1, by omega⟩
  obtain ⟨u, h1, l', e1, e2, e3, e4, _⟩ := c19 (tot := tot) (ω := ω) (n := n) s v h hv hz (by omega)
  have hll : l'.length = s.sz := by rw [e4.length_eq]; simp [Ste.files,Ste.sz]; omega
  suffices hx : ∃ v' h', call F (n + 1) tot ω 65 [v, .int .i64 f] h = some (v', h') ∧ v' = .bool (hasF s f) ∧ h' = h1 by
    obtain ⟨v', h', a, rfl, rfl⟩ := hx
    exact ⟨_, a, e3⟩
  refine call_of (fn := a65) f65 (P := fun v' h' => v' = .bool (hasF s f) ∧ h' = h1) ?_
  have hlen := e2.len
  rw [List.length_map] at hlen
  obtain ⟨tv, sv, lv, rfl, r1, r2, r3⟩ := hv
  rw [← hasF_files, ← any_perm e4]
  unfold a65
  simp (maxSteps := 2000000) (discharger := omega) only [xz,xc,xo,xr,x0,xd,kont_call,Reg.isA,Reg.isV,Reg.stays,Reg.onto,↓reduceIte,reduceCtorEq,Nat.reduceEqDiff,Nat.reduceLT,Nat.reduceAdd,nat_le_t,e1]
  refine wpi_loop (fun k r g => ∃ i : Nat, r = [(1, .val (.int .i64 f)), (5, .val u), (6, .val (.int .i64 i))] ∧ i ≤ l'.length ∧ k = l'.length - i ∧ (∀ j (hj : j < l'.length), j < i → (l'[j] == f) = false) ∧ g = h1) l'.length (by omega) ⟨0, rfl, by omega, by omega, by omega, rfl⟩ ?_
  rintro k r g ⟨i, rfl, hi, rfl, hp, rfl⟩
  by_cases hlt : i < l'.length
  · obtain ⟨id, post, rfl, e, _⟩ := e2.row (i := i) (by simpa using hlt)
    have ea := at_map (f := inOf) hlt post
    have hm := List.getElem_mem hlt
    have hnx : (l'[i] == f) = false → ∀ j (hj : j < l'.length), j < i + 1 → (l'[j] == f) = false := fun hq j hj hji => by
      by_cases hjj : j = i
      · subst hjj; exact hq
      · exact hp j hj (by omega)
    generalize l'[i] = y at ea hm hnx
    have ea' : (List.map inOf l' ++ post)[i]? = some (.int .i64 y) := ea
    by_cases hq : y = f
    · have : (l'.any fun y => y == f) = true := List.any_eq_true.2 ⟨y, hm, by simp [hq]⟩
      rw [this]
      simp (maxSteps := 2000000) (discharger := omega) only [xz,xc,xo,xr,x0,x1,x4,xd,Reg.isA,Reg.isV,Reg.stays,Reg.onto,↓reduceIte,Nat.reduceEqDiff,Nat.reduceLT,beq_self_eq_true,exists_eq_left',int_lt_t,int_le_t,e,ea',hq,List.length_map]
    · simp (maxSteps := 2000000) (discharger := omega) only [xz,xc,xo,xr,x0,x1,x4,xd,Reg.isA,Reg.isV,Reg.stays,Reg.onto,↓reduceIte,Nat.reduceEqDiff,Nat.reduceLT,wrap_i64,int_lt_t,int_le_t,int_beq_f,e,ea',List.length_map]
      exact ⟨l'.length - (i + 1), by omega, i + 1, rfl, by omega, rfl, hnx (by simp [hq])⟩
  · have : (l'.any fun y => y == f) = false := by
      rw [List.any_eq_false]
      intro y hy
      obtain ⟨j, hj, rfl⟩ := List.getElem_of_mem hy
      simp [hp j hj (by omega)]
    rw [this]
    simp (maxSteps := 2000000) (discharger := omega) only [xz,xc,xo,xr,x0,x1,x4,xd,Reg.isA,Reg.isV,Reg.stays,Reg.onto,↓reduceIte,Nat.reduceEqDiff,Nat.reduceLT,exists_eq_left',int_lt_f,hlen]

def KS (h h' : Hp) : Prop := h.length ≤ h'.length ∧ keeps h h'
theorem KS.refl (h : Hp) : KS h h := ⟨Nat.le_refl _, keeps.refl h⟩
theorem KS.trans {a b c : Hp} (x : KS a b) (y : KS b c) : KS a c := ⟨Nat.le_trans x.1 y.1, x.2.trans y.2⟩
theorem KeepLo.ks {h h' : Hp} (k : KeepLo h.length h h') : KS h h' := ⟨k.1, fun i o h1 _ => k.2 i o (List.getElem?_eq_some_iff.1 h1).1 h1⟩

theorem app_k {sz bytes : Nat} {es xs : List AV} {h : Hp} {v : AV} (hv : IsApp sz es h v) (hx : xs ≠ []) (hb : (es.length + xs.length) * bytes ≤ 140737488355328) :
    ∃ v' h', appendV false sz bytes v xs h = some (v', h') ∧ IsApp sz (es ++ xs) h' v' ∧ KS h h' ∧ (∀ (id : Nat) o, h[id]? = some o → (∀ k, o ≠ .tail sz k) → h'[id]? = some o) ∧ (∃ c, v' = .imm sz (es ++ xs) (.tok h.length c)) := by
  obtain ⟨v', h', a1, a2, a3, a4, a5, a6⟩ := app_ok (bytes := bytes) hv hx hb
  refine ⟨v', h', a1, a2, ⟨a4, a3⟩, fun id o h1 h2 => a5 id o h1 fun c hc => ?_, a6⟩
  rcases hv with ⟨rfl, _⟩ | rfl | ⟨id', rfl, hid⟩
  · cases hc
  · cases hc
  · cases hc
    rw [hid] at h1
    cases h1
    exact h2 _ rfl
theorem IsApp.keepT {sz : Nat} {es : List AV} {h h' : Hp} {v : AV} (hv : IsApp sz es h v) (hk : ∀ (id : Nat) o, h[id]? = some o → (∃ k, o = .tail sz k) → h'[id]? = some o) : IsApp sz es h' v := by
  rcases hv with h | h | ⟨id, h, e⟩
  · exact .inl h
  · exact .inr (.inl h)
  · exact .inr (.inr ⟨id, h, hk id _ e ⟨_, rfl⟩⟩)
theorem IsApp.subv {sz : Nat} {es : List AV} {h : Hp} {v : AV} (ho : IsApp sz es h v) (n : Nat) : sub v 0 n false = some v := by
  rcases ho with ⟨rfl, _⟩ | rfl | ⟨id, rfl, _⟩ <;> rfl
theorem IsApp.notTup {sz : Nat} {es : List AV} {h : Hp} {v : AV} (ho : IsApp sz es h v) : v.notTup = true := by
  rcases ho with ⟨rfl, _⟩ | rfl | ⟨id, rfl, _⟩ <;> rfl
theorem IsApp.cells {sz : Nat} {es : List AV} {h : Hp} {v : AV} (ho : IsApp sz es h v) : v.cells = [v] := by
  rcases ho with ⟨rfl, _⟩ | rfl | ⟨id, rfl, _⟩ <;> rfl
theorem IsApp.updA {sz : Nat} {es : List AV} {h : Hp} {v : AV} (ho : IsApp sz es h v) (cs : List AV) (off : Nat) : upd (.agg cs) off v = if off < cs.length then some (.agg (cs.set off v)) else none := by
  rcases ho with ⟨rfl, _⟩ | rfl | ⟨id, rfl, _⟩ <;> rfl
theorem IsApp.rd {sz : Nat} {es : List AV} {h : Hp} {v : AV} (ho : IsApp sz es h v) : IsRd sz es v := isRd_app ho

def overlR (x : Ed) (u : Tb) : Bool := u.l == x.l && (decide (u.l > 0) && !(Op.bytesLess u.hi x.lo || !sLe u.lo x.hi))

def goT (x : Ed) : List Tb → Bool → Bool → List Tb → Option (Bool × Bool × List Tb)
  | [], put, fd, out => some (put, fd, out)
  | u :: us, put, fd, out => if x.k = 1 ∧ overlR x u = true then none else if x.k = 2 ∧ u.f = x.f then goT x us put true out else if put = false ∧ ltT (edT x) u = true then goT x us true fd (out ++ [edT x, u]) else goT x us put fd (out ++ [u])

def oB (mv : AV) (x : Ed) (ot s2 l2 : AV) (nx : Int) (fd put : Bool) (i : Nat) (ex : Regs) : Regs :=
  (2, .var mv) :: (3, .var (edOf x)) :: (4, .var z4) :: (6, .var (.agg [ot, s2, l2, .int .i64 nx])) :: (8, .val (.bool fd)) :: (9, .var (tbOf (edT x))) :: (10, .val (.bool put)) :: (11, .val (.int .i64 i)) :: ex

section
variable {tot : Bool} {ω : Nat → Nat} {n : Nat} (tv sv lv ot s2 l2 : AV) (nx nx0 : Int) (x : Ed) (u : Tb) (fd put : Bool) (i : Nat) (g : Hp)

set_option maxRecDepth 100000 in
set_option maxHeartbeats 8000000 in
theorem w_o42a : Wp (kont F n tot ω) n o42a (oB (.agg [tv, sv, lv, .int .i64 nx0]) x ot s2 l2 nx fd put i [(12, .var (tbOf u))]) g fun e r g' => g' = g ∧
    ((e = .ret ∧ (x.k = 1 ∧ overlR x u = true) ∧ r = [(4, .var (.agg [tv, sv, lv, .int .i64 nx0])), (5, .val (.int .i64 11))]) ∨ (e = .normal ∧ ¬ (x.k = 1 ∧ overlR x u = true) ∧ r = oB (.agg [tv, sv, lv, .int .i64 nx0]) x ot s2 l2 nx fd put i [(12, .var (tbOf u)), (176, .val (.bool false))])) := by
  unfold o42a oB edOf tbOf z4
  have l2 : (Op.bytesLess u.lo x.hi || u.lo == x.hi) = sLe u.lo x.hi := rfl
  have hov : overlR x u = (u.l == x.l && (decide (u.l > 0) && !(Op.bytesLess u.hi x.lo || !sLe u.lo x.hi))) := rfl
  by_cases hk : x.k = 1
  · by_cases q1 : u.l = x.l
    · by_cases q2 : u.l > 0
      · cases q3 : Op.bytesLess u.hi x.lo with
        | true =>
          have : overlR x u = false := by simp [hov,q3]
          simp (maxSteps := 2000000) (discharger := omega) only [xz,xc,xo,xr,x0,x1,x2,xd,xb,Reg.isA,Reg.isV,Reg.stays,Reg.onto,↓reduceIte,Nat.reduceEqDiff,Nat.reduceLT,false_or,beq_self_eq_true,Nat.reduceBEq,int_lt_t,int_eq_t,int_beq_t,not_false_eq_true,q3,this]
        | false =>
          cases q4 : sLe u.lo x.hi with
          | true =>
            have : overlR x u = true := by simp [hov,q3,q4,q1]; omega
            simp (maxSteps := 2000000) (discharger := omega) only [xz,xc,xo,xr,x0,x1,x2,x5,xd,wr,Reg.isA,Reg.isV,Reg.stays,Reg.onto,↓reduceIte,Nat.reduceEqDiff,Nat.reduceLT,Nat.reduceAdd,or_false,beq_self_eq_true,Nat.reduceBEq,xu,int_lt_t,int_eq_t,int_beq_t,nat_le_t,not_true_eq_false,l2,q3,q4,this]
          | false =>
            have : overlR x u = false := by simp [hov,q4]
            simp (maxSteps := 2000000) (discharger := omega) only [xz,xc,xo,xr,x0,x1,x2,xd,Reg.isA,Reg.isV,Reg.stays,Reg.onto,↓reduceIte,Nat.reduceEqDiff,Nat.reduceLT,false_or,beq_self_eq_true,Nat.reduceBEq,int_lt_t,int_eq_t,int_beq_t,not_false_eq_true,l2,q3,q4,this]
      · have : overlR x u = false := by simp [hov]; omega
        simp (maxSteps := 2000000) (discharger := omega) only [xz,xc,xo,xr,x0,x1,xd,xb,Reg.isA,Reg.isV,Reg.stays,Reg.onto,↓reduceIte,Nat.reduceEqDiff,Nat.reduceLT,false_or,beq_self_eq_true,Nat.reduceBEq,int_lt_f,int_eq_t,int_beq_t,not_false_eq_true,this]
    · have : overlR x u = false := by simp [hov,q1]
      simp (maxSteps := 2000000) (discharger := omega) only [xz,xc,xo,xr,x0,x1,xd,xb,Reg.isA,Reg.isV,Reg.stays,Reg.onto,↓reduceIte,Nat.reduceEqDiff,Nat.reduceLT,false_or,beq_self_eq_true,Nat.reduceBEq,int_eq_t,int_beq_t,int_beq_f,not_false_eq_true,this]
  · simp (maxSteps := 2000000) (discharger := omega) only [xz,xc,xo,xr,x0,x1,xd,xb,Reg.isA,Reg.isV,Reg.stays,Reg.onto,↓reduceIte,Nat.reduceEqDiff,Nat.reduceLT,false_or,Nat.reduceBEq,int_eq_f,int_beq_f,not_false_eq_true]

set_option maxRecDepth 100000 in
set_option maxHeartbeats 8000000 in
theorem w_o42b : Wp (kont F n tot ω) n o42b (oB (.agg [tv, sv, lv, .int .i64 nx0]) x ot s2 l2 nx fd put i [(12, .var (tbOf u)), (176, .val (.bool false))]) g fun e r g' => g' = g ∧
    ((e = .exit 1 ∧ (x.k = 2 ∧ u.f = x.f) ∧ r = oB (.agg [tv, sv, lv, .int .i64 nx0]) x ot s2 l2 nx true put i []) ∨ (e = .normal ∧ ¬ (x.k = 2 ∧ u.f = x.f) ∧ r = oB (.agg [tv, sv, lv, .int .i64 nx0]) x ot s2 l2 nx fd put i [(12, .var (tbOf u)), (187, .val (.bool false))])) := by
  unfold o42b oB edOf tbOf z4
  by_cases hk : x.k = 2
  · by_cases q1 : u.f = x.f
    · simp (maxSteps := 2000000) (discharger := omega) only [xz,xc,xo,xr,x0,x1,xd,Reg.isA,Reg.isV,Reg.stays,Reg.onto,↓reduceIte,Nat.reduceEqDiff,Nat.reduceLT,or_false,beq_self_eq_true,Nat.reduceBEq,int_eq_t,int_beq_t,not_true_eq_false]
    · simp (maxSteps := 2000000) (discharger := omega) only [xz,xc,xo,xr,x0,x1,xd,Reg.isA,Reg.isV,Reg.stays,Reg.onto,↓reduceIte,Nat.reduceEqDiff,Nat.reduceLT,false_or,beq_self_eq_true,Nat.reduceBEq,int_eq_t,int_eq_f,int_beq_t,int_beq_f,not_false_eq_true]
  · simp (maxSteps := 2000000) (discharger := omega) only [xz,xc,xo,xr,x0,x1,xd,xb,Reg.isA,Reg.isV,Reg.stays,Reg.onto,↓reduceIte,Nat.reduceEqDiff,Nat.reduceLT,false_or,Nat.reduceBEq,int_eq_f,int_beq_f,not_false_eq_true]

set_option maxRecDepth 100000 in
set_option maxHeartbeats 8000000 in
theorem w_o42c (out : List Tb) (ho : IsApp 5 (out.map tbOf) g ot) (hl : out.length ≤ 200000) (hn : 2 < n) : Wp (kont F n tot ω) n o42c (oB (.agg [tv, sv, lv, .int .i64 nx0]) x ot s2 l2 nx fd put i [(12, .var (tbOf u)), (187, .val (.bool false))]) g fun e r g' => e = .normal ∧
    ((¬ (put = false ∧ ltT (edT x) u = true) ∧ g' = g ∧ r = oB (.agg [tv, sv, lv, .int .i64 nx0]) x ot s2 l2 nx fd put i [(12, .var (tbOf u)), (194, .val (.bool false))]) ∨
     ((put = false ∧ ltT (edT x) u = true) ∧ ∃ ot' , r = oB (.agg [tv, sv, lv, .int .i64 nx0]) x ot' s2 l2 nx fd true i [(12, .var (tbOf u))] ∧ IsApp 5 ((out ++ [edT x]).map tbOf) g' ot' ∧ KS g g' ∧
       (∀ (id : Nat) o, g[id]? = some o → (∀ k, o ≠ .tail 5 k) → g'[id]? = some o))) := by
  unfold o42c oB
  have hto : ∀ t, sub (tbOf t) 0 5 true = some (tbOf t) := fun _ => rfl
  cases put with
  | true => simp (maxSteps := 2000000) (discharger := omega) only [xz,xc,xo,xr,x0,x2,xd,xb,Reg.isA,Reg.isV,Reg.stays,Reg.onto,↓reduceIte,reduceCtorEq,Nat.reduceEqDiff,Nat.reduceLT,or_false,not_false_eq_true]
  | false =>
    have hb := c66 (tot := tot) (ω := ω) (n := n) (edT x) u g (by omega)
    cases hlt : ltT (edT x) u with
    | false =>
      rw [hlt] at hb
      simp (maxSteps := 2000000) (discharger := omega) only [xz,xc,xo,xr,x0,x2,xd,kont_call,Reg.isA,Reg.isV,Reg.stays,Reg.onto,↓reduceIte,Nat.reduceEqDiff,Nat.reduceLT,or_false,beq_self_eq_true,not_false_eq_true,hto,hb]
    | true =>
      rw [hlt] at hb
      have h1 := ho.isRow
      obtain ⟨ot', g', a1, a2, a3, a4, a6⟩ := app_k (bytes := 56) (xs := [tbOf (edT x)]) ho (by simp) (by simp; omega)
      have hu := IsApp.updA a2
      have hn1 := IsApp.notTup a2
      have hn2 := IsApp.cells a2
      have hs1 := IsApp.subv ho 1
      have hs2 := IsApp.notTup ho
      have t3 : (tbOf (edT x)).notTup = true := rfl
      have t4 : (tbOf (edT x)).cells.length = 5 := rfl
      simp (maxSteps := 2000000) (discharger := omega) only [xz,xc,xo,xr,x0,x1,x2,x3,x5,xd,xb,kont_call,selems,srcElems,wr,partEs,placeEs,Reg.isA,Reg.isV,Reg.stays,Reg.onto,↓reduceIte,Nat.reduceEqDiff,Nat.reduceLT,Nat.reduceAdd,Nat.zero_lt_succ,false_or,beq_self_eq_true,Nat.reduceBEq,List.set_cons_zero,not_true_eq_false,hto,hb,h1,a1,hu,hn1,hn2,t3,t4,List.replicate_succ,List.replicate_zero]
      exact ⟨ot', rfl, by rw [List.map_append]; exact a2, a3, a4⟩

def KT (sz : Nat) (h h' : Hp) : Prop := KS h h' ∧ ∀ (id : Nat) o, h[id]? = some o → (∀ k, o ≠ .tail sz k) → h'[id]? = some o
theorem KT.refl (sz : Nat) (h : Hp) : KT sz h h := ⟨.refl h, fun _ _ h _ => h⟩
theorem KT.trans {sz : Nat} {a b c : Hp} (x : KT sz a b) (y : KT sz b c) : KT sz a c := ⟨x.1.trans y.1, fun i o h1 h2 => y.2 i o (x.2 i o h1 h2) h2⟩

set_option maxRecDepth 100000 in
set_option maxHeartbeats 8000000 in
theorem w_o42t (tb : List Tb) (hr : IsRd 5 (tb.map tbOf) tv) (hl : tb.length ≤ 100000) (hn : tb.length + 5 < n) : Wp (kont F n tot ω) n o42t
    [(2, .var (.agg [tv, sv, lv, .int .i64 nx0])), (3, .var (edOf x)), (4, .var z4), (6, .var (.agg [.nils, s2, l2, .int .i64 nx])), (8, .val (.bool fd)), (9, .var (tbOf (edT x))), (10, .val (.bool put))] g fun e r g' =>
    (e = .ret ∧ g.length ≤ g'.length ∧ KS g g' ∧ goT x tb put fd [] = none ∧ r = [(4, .var (.agg [tv, sv, lv, .int .i64 nx0])), (5, .val (.int .i64 11))]) ∨
    (e = .normal ∧ ∃ put' fd' out ot, goT x tb put fd [] = some (put', fd', out) ∧ r = oB (.agg [tv, sv, lv, .int .i64 nx0]) x ot s2 l2 nx fd' put' tb.length [(139, .val (.bool false))] ∧ IsApp 5 (out.map tbOf) g' ot ∧ KT 5 g g' ∧ out.length ≤ 2 * tb.length) := by
  unfold o42t
  have hlen := hr.len
  rw [List.length_map] at hlen
  have hs0 := hr.subv 1
  simp (maxSteps := 2000000) (discharger := omega) only [xz,xc,xo,xr,x0,Reg.isA,Reg.isV,Reg.stays,Reg.onto,↓reduceIte,Nat.reduceEqDiff,Nat.reduceLT]
  refine wpi_loop' (fun k r g' => ∃ (i : Nat) (put' fd' : Bool) (out : List Tb) (ot : AV), r = oB (.agg [tv, sv, lv, .int .i64 nx0]) x ot s2 l2 nx fd' put' i [] ∧ i ≤ tb.length ∧ k = tb.length - i ∧ goT x (tb.drop i) put' fd' out = goT x tb put fd [] ∧ IsApp 5 (out.map tbOf) g' ot ∧ KT 5 g g' ∧ out.length ≤ 2 * i)
    (fun e r g' => (e = .ret ∧ g.length ≤ g'.length ∧ KS g g' ∧ goT x tb put fd [] = none ∧ r = [(4, .var (.agg [tv, sv, lv, .int .i64 nx0])), (5, .val (.int .i64 11))]) ∨
    (e = .exit 0 ∧ ∃ put' fd' out ot, goT x tb put fd [] = some (put', fd', out) ∧ r = oB (.agg [tv, sv, lv, .int .i64 nx0]) x ot s2 l2 nx fd' put' tb.length [(139, .val (.bool false))] ∧ IsApp 5 (out.map tbOf) g' ot ∧ KT 5 g g' ∧ out.length ≤ 2 * tb.length)) tb.length (by omega)
    ⟨0, put, fd, [], .nils, rfl, by omega, by omega, rfl, .nils _ _, .refl _ _, by simp⟩ ?_ ?_
  · rintro k r g1 ⟨i, put', fd', out, ot, rfl, hi, rfl, hf, ho, hk, hol⟩
    by_cases hlt : i < tb.length
    · obtain ⟨cc, rfl⟩ := hr.imm (i := i) (by rw [List.length_map]; exact hlt)
      have e1 := map_get (f := tbOf) hlt
      rw [List.drop_eq_getElem_cons hlt] at hf
      generalize tb[i] = u at e1 hf
      have t1 : sub (tbOf u) 0 5 true = some (tbOf u) := rfl
      have t2 : upd (.agg [.int .i64 0, .int .i64 0, .int .i64 0, .str [], .str []]) 0 (tbOf u) = some (tbOf u) := rfl
      have t3 : (tbOf u).notTup = true := rfl
      have t4 : (tbOf u).cells.length = 5 := rfl
      rw [goT] at hf
      unfold oB
      simp (maxSteps := 2000000) (discharger := omega) only [xz,xc,xo,xr,x0,x1,x4,x5,xd,wr,Reg.isA,Reg.isV,Reg.stays,Reg.onto,↓reduceIte,Nat.reduceEqDiff,Nat.reduceLT,Nat.reduceBEq,int_lt_t,int_le_t,hlen,e1,t1,t2,t3,t4]
      refine Wp.mono (w_o42a (.imm 5 (List.map tbOf tb) cc) sv lv ot s2 l2 nx nx0 x u fd' put' i g1) ?_
      rintro e r g2 ⟨rfl, (⟨rfl, hc, rfl⟩ | ⟨rfl, hc, rfl⟩)⟩
      · rw [if_pos hc] at hf
        simp (maxSteps := 2000000) only [xz,xc,reduceCtorEq,or_false]
        first | exact .inl ⟨hk.1.1, hk.1, hf.symm, rfl⟩ | exact ⟨hk.1.1, hk.1, hf.symm⟩
      rw [if_neg hc] at hf
      rw [then_n]
      refine wpi_seq (Wp.mono (w_o42b (.imm 5 (List.map tbOf tb) cc) sv lv ot s2 l2 nx nx0 x u fd' put' i g2) ?_)
      rintro e r g3 ⟨rfl, (⟨rfl, hc, rfl⟩ | ⟨rfl, hc, rfl⟩)⟩
      · rw [if_pos hc] at hf
        unfold oB
        simp (maxSteps := 2000000) (discharger := omega) only [xz,xc,xo,xr,x0,x1,xd,Reg.isA,Reg.isV,Reg.stays,Reg.onto,↓reduceIte,Nat.reduceEqDiff,Nat.reduceLT,wrap_i64]
        exact ⟨tb.length - (i + 1), by omega, i + 1, put', true, out, ot, rfl, by omega, rfl, hf, ho, hk, by omega⟩
      rw [if_neg hc] at hf
      rw [then_n]
      refine wpi_seq (Wp.mono (w_o42c (.imm 5 (List.map tbOf tb) cc) sv lv ot s2 l2 nx nx0 x u fd' put' i g3 out ho (by omega) (by omega)) ?_)
      have last : ∀ (put2 : Bool) (ot2 : AV) (out2 : List Tb) (g4 : Hp) (ex : Regs), (ex = [(12, .var (tbOf u))] ∨ ex = [(12, .var (tbOf u)), (194, .val (.bool false))]) → IsApp 5 (out2.map tbOf) g4 ot2 → KT 5 g g4 → out2.length ≤ 2 * i + 1 → goT x (tb.drop (i + 1)) put2 fd' (out2 ++ [u]) = goT x tb put fd [] → True := fun _ _ _ _ _ _ _ _ _ _ => trivial
      rintro e r g4 ⟨rfl, (⟨hc, rfl, rfl⟩ | ⟨hc, ot2, rfl, ho2, hks, hkt⟩)⟩
      · rw [if_neg hc] at hf
        obtain ⟨ot3, g5, a1, a2, a3, a4, a6⟩ := app_k (bytes := 56) (xs := [tbOf u]) ho (by simp) (by simp; omega)
        have h1 := ho.isRow
        have hu := IsApp.updA a2
        have hn1 := IsApp.notTup a2
        have hn2 := IsApp.cells a2
        have hs1 := IsApp.subv ho 1
        unfold oB
        simp (maxSteps := 2000000) (discharger := omega) only [xz,xc,xo,xr,x0,x1,x3,x5,xd,xb,selems,srcElems,wr,partEs,placeEs,Reg.isA,Reg.isV,Reg.stays,Reg.onto,↓reduceIte,Nat.reduceEqDiff,Nat.reduceLT,Nat.reduceAdd,Nat.zero_lt_succ,Nat.reduceBEq,List.set_cons_zero,wrap_i64,t1,t3,t4,h1,a1,hu,hn1,hn2,List.replicate_succ,List.replicate_zero]
        exact ⟨tb.length - (i + 1), by omega, i + 1, put', fd', out ++ [u], ot3, rfl, by omega, rfl, hf, by rw [List.map_append]; exact a2, hk.trans ⟨a3, a4⟩, by simp; omega⟩
      · rw [if_pos hc] at hf
        obtain ⟨ot3, g5, a1, a2, a3, a4, a6⟩ := app_k (bytes := 56) (xs := [tbOf u]) ho2 (by simp) (by simp; omega)
        have h1 := ho2.isRow
        have hu := IsApp.updA a2
        have hn1 := IsApp.notTup a2
        have hn2 := IsApp.cells a2
        have hs1 := IsApp.subv ho2 1
        unfold oB
        simp (maxSteps := 2000000) (discharger := omega) only [xz,xc,xo,xr,x0,x1,x3,x5,xd,xb,selems,srcElems,wr,partEs,placeEs,Reg.isA,Reg.isV,Reg.stays,Reg.onto,↓reduceIte,Nat.reduceEqDiff,Nat.reduceLT,Nat.reduceAdd,Nat.zero_lt_succ,Nat.reduceBEq,List.set_cons_zero,wrap_i64,t1,t3,t4,h1,a1,hu,hn1,hn2,List.replicate_succ,List.replicate_zero]
        exact ⟨tb.length - (i + 1), by omega, i + 1, true, fd', out ++ [edT x, u], ot3, rfl, by omega, rfl, hf, by simpa using a2, (hk.trans ⟨hks, hkt⟩).trans ⟨a3, a4⟩, by simp; omega⟩
    · have hi2 : i = tb.length := by omega
      subst hi2
      rw [List.drop_length] at hf
      unfold oB
      simp (maxSteps := 2000000) (discharger := omega) only [xz,xc,xo,xr,x0,x1,x4,xd,Reg.isA,Reg.isV,Reg.stays,Reg.onto,↓reduceIte,reduceCtorEq,Nat.reduceEqDiff,Nat.reduceLT,false_or,Nat.reduceBEq,int_lt_f,Nat.sub_self,hlen]
      first
        | exact .inr ⟨put', fd', out, ot, hf.symm, rfl, ho, hk, hol⟩
        | exact ⟨put', fd', out, ot, hf.symm, rfl, ho, hk, hol⟩
  · rintro e r g1 (⟨rfl, hh⟩ | ⟨rfl, hh⟩)
    · simp (maxSteps := 2000000) only [xz,xc,reduceCtorEq,or_false]
      first | exact .inl hh | exact hh
    · simp (maxSteps := 2000000) only [xz,xc,↓reduceIte,reduceCtorEq,false_or]
      first | exact .inr hh | exact hh
end
end Go.Proofs.Ytlognommhffmcaa.Im

/- S13XRp: the document's: a state behind an edit: its stores and its logs. -/
set_option linter.unusedVariables false
set_option linter.unusedSimpArgs false
open Go Go.Im
namespace Go.Proofs.Ytlognommhffmcaa.Im

def edS (x : Ed) : Sr := ⟨x.f, x.l⟩
def goS (x : Ed) : List Sr → Bool → Bool → List Sr → Bool × Bool × List Sr
  | [], put, fd, out => (put, fd, out)
  | u :: us, put, fd, out => if x.k = 4 ∧ u.f = x.f then goS x us put true out else if put = false ∧ u.f > x.f then goS x us true fd (out ++ [edS x, u]) else goS x us put fd (out ++ [u])
def goL (x : Ed) : List Int → Bool → List Int → Bool × List Int
  | [], fd, out => (fd, out)
  | u :: us, fd, out => if x.k = 6 ∧ u = x.f then goL x us true out else goL x us fd (out ++ [u])

def oS (mv : AV) (x : Ed) (ot s2 l2 : AV) (nx : Int) (fd put : Bool) (i : Nat) (ex : Regs) : Regs :=
  (2, .var mv) :: (3, .var (edOf x)) :: (4, .var z4) :: (6, .var (.agg [ot, s2, l2, .int .i64 nx])) :: (8, .val (.bool fd)) :: (10, .val (.bool put)) :: (13, .val (.int .i64 i)) :: ex
def oL (mv : AV) (x : Ed) (ot s2 l2 : AV) (nx : Int) (fd : Bool) (i : Nat) (ex : Regs) : Regs :=
  (2, .var mv) :: (3, .var (edOf x)) :: (4, .var z4) :: (6, .var (.agg [ot, s2, l2, .int .i64 nx])) :: (8, .val (.bool fd)) :: (15, .val (.int .i64 i)) :: ex

section
variable {tot : Bool} {ω : Nat → Nat} {n : Nat} (tv sv lv ot s2 l2 : AV) (nx nx0 : Int) (x : Ed) (u : Sr) (fd put : Bool) (i : Nat) (g : Hp)

set_option maxRecDepth 100000 in
set_option maxHeartbeats 8000000 in
theorem w_o42e : Wp (kont F n tot ω) n o42e (oS (.agg [tv, sv, lv, .int .i64 nx0]) x ot s2 l2 nx fd put i [(14, .var (srOf u))]) g fun e r g' => g' = g ∧
    ((e = .exit 3 ∧ (x.k = 4 ∧ u.f = x.f) ∧ r = oS (.agg [tv, sv, lv, .int .i64 nx0]) x ot s2 l2 nx true put i []) ∨ (e = .normal ∧ ¬ (x.k = 4 ∧ u.f = x.f) ∧ r = oS (.agg [tv, sv, lv, .int .i64 nx0]) x ot s2 l2 nx fd put i [(14, .var (srOf u)), (239, .val (.bool false))])) := by
  unfold o42e oS edOf srOf z4
  by_cases hk : x.k = 4
  · by_cases q1 : u.f = x.f
    · simp (maxSteps := 2000000) (discharger := omega) only [xz,xc,xo,xr,x0,x1,xd,Reg.isA,Reg.isV,Reg.stays,Reg.onto,↓reduceIte,Nat.reduceEqDiff,Nat.reduceLT,or_false,beq_self_eq_true,Nat.reduceBEq,int_eq_t,int_beq_t,not_true_eq_false]
    · simp (maxSteps := 2000000) (discharger := omega) only [xz,xc,xo,xr,x0,x1,xd,Reg.isA,Reg.isV,Reg.stays,Reg.onto,↓reduceIte,Nat.reduceEqDiff,Nat.reduceLT,false_or,beq_self_eq_true,Nat.reduceBEq,int_eq_t,int_eq_f,int_beq_t,int_beq_f,not_false_eq_true]
  · simp (maxSteps := 2000000) (discharger := omega) only [xz,xc,xo,xr,x0,x1,xd,xb,Reg.isA,Reg.isV,Reg.stays,Reg.onto,↓reduceIte,Nat.reduceEqDiff,Nat.reduceLT,false_or,Nat.reduceBEq,int_eq_f,int_beq_f,not_false_eq_true]

set_option maxRecDepth 100000 in
set_option maxHeartbeats 8000000 in
theorem w_o42f (out : List Sr) (ho : IsApp 2 (out.map srOf) g s2) (hl : out.length ≤ 200000) : Wp (kont F n tot ω) n o42f (oS (.agg [tv, sv, lv, .int .i64 nx0]) x ot s2 l2 nx fd put i [(14, .var (srOf u)), (239, .val (.bool false))]) g fun e r g' => e = .normal ∧
    ((¬ (put = false ∧ u.f > x.f) ∧ g' = g ∧ r = oS (.agg [tv, sv, lv, .int .i64 nx0]) x ot s2 l2 nx fd put i [(14, .var (srOf u)), (248, .val (.bool false))]) ∨
     ((put = false ∧ u.f > x.f) ∧ ∃ s3, r = oS (.agg [tv, sv, lv, .int .i64 nx0]) x ot s3 l2 nx fd true i [(14, .var (srOf u))] ∧ IsApp 2 ((out ++ [edS x]).map srOf) g' s3 ∧ KT 2 g g')) := by
  unfold o42f oS
  cases put with
  | true =>
    unfold edOf srOf
    simp (maxSteps := 2000000) (discharger := omega) only [xz,xc,xo,xr,x0,x2,xd,xb,Reg.isA,Reg.isV,Reg.stays,Reg.onto,↓reduceIte,reduceCtorEq,Nat.reduceEqDiff,Nat.reduceLT,or_false,not_false_eq_true]
  | false =>
    by_cases hlt : u.f > x.f
    · have h1 := ho.isRow
      obtain ⟨s3, g', a1, a2, a3, a4, a6⟩ := app_k (bytes := 16) (xs := [srOf (edS x)]) ho (by simp) (by simp; omega)
      have a1' : appendV false 2 16 s2 [.agg [.int .i64 x.f, .int .i64 x.l]] g = some (s3, g') := a1
      have hu := IsApp.updA a2
      have hn1 := IsApp.notTup a2
      have hn2 := IsApp.cells a2
      have hs1 := IsApp.subv ho 1
      unfold edOf srOf
      simp (maxSteps := 2000000) (discharger := omega) only [xz,xc,xo,xr,x0,x1,x2,x3,x5,xd,xb,selems,srcElems,wr,place,partVals,partEs,placeEs,Reg.isA,Reg.isV,Reg.stays,Reg.onto,↓reduceIte,Nat.reduceEqDiff,Nat.reduceLT,Nat.reduceAdd,Nat.zero_lt_succ,false_or,beq_self_eq_true,Nat.reduceBEq,List.set_cons_zero,List.set_cons_succ,int_lt_t,nat_le_t,not_true_eq_false,h1,a1',hu,hn1,hn2,List.replicate_succ,List.replicate_zero]
      exact ⟨s3, rfl, by rw [List.map_append]; exact a2, a3, a4⟩
    · unfold edOf srOf
      simp (maxSteps := 2000000) (discharger := omega) only [xz,xc,xo,xr,x0,x1,x2,xd,Reg.isA,Reg.isV,Reg.stays,Reg.onto,↓reduceIte,Nat.reduceEqDiff,Nat.reduceLT,or_false,beq_self_eq_true,Nat.reduceBEq,int_lt_f,not_false_eq_true]

set_option maxRecDepth 100000 in
set_option maxHeartbeats 8000000 in
theorem w_o42s (sr : List Sr) (hr : IsRd 2 (sr.map srOf) sv) (hl : sr.length ≤ 100000) (hn : sr.length + 5 < n) : Wp (kont F n tot ω) n o42s
    [(2, .var (.agg [tv, sv, lv, .int .i64 nx0])), (3, .var (edOf x)), (4, .var z4), (6, .var (.agg [ot, .nils, l2, .int .i64 nx])), (8, .val (.bool fd)), (10, .val (.bool put))] g fun e r g' =>
    e = .normal ∧ ∃ s3, r = oS (.agg [tv, sv, lv, .int .i64 nx0]) x ot s3 l2 nx (goS x sr put fd []).2.1 (goS x sr put fd []).1 sr.length [(222, .val (.bool false))] ∧ IsApp 2 ((goS x sr put fd []).2.2.map srOf) g' s3 ∧ KT 2 g g' ∧ (goS x sr put fd []).2.2.length ≤ 2 * sr.length := by
  unfold o42s
  have hlen := hr.len
  rw [List.length_map] at hlen
  have hs0 := hr.subv 1
  simp (maxSteps := 2000000) (discharger := omega) only [xz,xc,xo,xr,x0,Reg.isA,Reg.isV,Reg.stays,Reg.onto,↓reduceIte,Nat.reduceEqDiff,Nat.reduceLT]
  refine wpi_loop' (fun k r g' => ∃ (i : Nat) (put' fd' : Bool) (out : List Sr) (s3 : AV), r = oS (.agg [tv, sv, lv, .int .i64 nx0]) x ot s3 l2 nx fd' put' i [] ∧ i ≤ sr.length ∧ k = sr.length - i ∧ goS x (sr.drop i) put' fd' out = goS x sr put fd [] ∧ IsApp 2 (out.map srOf) g' s3 ∧ KT 2 g g' ∧ out.length ≤ 2 * i)
    (fun e r g' => e = .exit 2 ∧ ∃ s3, r = oS (.agg [tv, sv, lv, .int .i64 nx0]) x ot s3 l2 nx (goS x sr put fd []).2.1 (goS x sr put fd []).1 sr.length [(222, .val (.bool false))] ∧ IsApp 2 ((goS x sr put fd []).2.2.map srOf) g' s3 ∧ KT 2 g g' ∧ (goS x sr put fd []).2.2.length ≤ 2 * sr.length) sr.length (by omega)
    ⟨0, put, fd, [], .nils, rfl, by omega, by omega, rfl, .nils _ _, .refl _ _, by simp⟩ ?_ ?_
  · rintro k r g1 ⟨i, put', fd', out, s3, rfl, hi, rfl, hf, ho, hk, hol⟩
    by_cases hlt : i < sr.length
    · obtain ⟨cc, rfl⟩ := hr.imm (i := i) (by rw [List.length_map]; exact hlt)
      have e1 := map_get (f := srOf) hlt
      rw [List.drop_eq_getElem_cons hlt] at hf
      generalize sr[i] = u at e1 hf
      have t1 : sub (srOf u) 0 2 true = some (srOf u) := rfl
      have t2 : upd (.agg [.int .i64 0, .int .i64 0]) 0 (srOf u) = some (srOf u) := rfl
      have t3 : (srOf u).notTup = true := rfl
      have t4 : (srOf u).cells.length = 2 := rfl
      rw [goS] at hf
      unfold oS
      simp (maxSteps := 2000000) (discharger := omega) only [xz,xc,xo,xr,x0,x1,x4,x5,xd,wr,Reg.isA,Reg.isV,Reg.stays,Reg.onto,↓reduceIte,Nat.reduceEqDiff,Nat.reduceLT,Nat.reduceBEq,int_lt_t,int_le_t,hlen,e1,t1,t2,t3,t4]
      refine Wp.mono (w_o42e tv (.imm 2 (List.map srOf sr) cc) lv ot s3 l2 nx nx0 x u fd' put' i g1) ?_
      rintro e r g3 ⟨rfl, (⟨rfl, hc, rfl⟩ | ⟨rfl, hc, rfl⟩)⟩
      · rw [if_pos hc] at hf
        unfold oS
        simp (maxSteps := 2000000) (discharger := omega) only [xz,xc,xo,xr,x0,x1,xd,Reg.isA,Reg.isV,Reg.stays,Reg.onto,↓reduceIte,Nat.reduceEqDiff,Nat.reduceLT,wrap_i64]
        exact ⟨sr.length - (i + 1), by omega, i + 1, put', true, out, s3, rfl, by omega, rfl, hf, ho, hk, by omega⟩
      rw [if_neg hc] at hf
      rw [then_n]
      refine wpi_seq (Wp.mono (w_o42f tv (.imm 2 (List.map srOf sr) cc) lv ot s3 l2 nx nx0 x u fd' put' i g3 out ho (by omega)) ?_)
      rintro e r g4 ⟨rfl, (⟨hc, rfl, rfl⟩ | ⟨hc, ot2, rfl, ho2, hks⟩)⟩
      · rw [if_neg hc] at hf
        obtain ⟨ot3, g5, a1, a2, a3, a4, a6⟩ := app_k (bytes := 16) (xs := [srOf u]) ho (by simp) (by simp; omega)
        have h1 := ho.isRow
        have hu := IsApp.updA a2
        have hn1 := IsApp.notTup a2
        have hn2 := IsApp.cells a2
        have hs1 := IsApp.subv ho 1
        unfold oS
        simp (maxSteps := 2000000) (discharger := omega) only [xz,xc,xo,xr,x0,x1,x3,x5,xd,xb,selems,srcElems,wr,partEs,placeEs,Reg.isA,Reg.isV,Reg.stays,Reg.onto,↓reduceIte,Nat.reduceEqDiff,Nat.reduceLT,Nat.reduceAdd,Nat.zero_lt_succ,Nat.reduceBEq,List.set_cons_zero,List.set_cons_succ,wrap_i64,t1,t3,t4,h1,a1,hu,hn1,hn2,List.replicate_succ,List.replicate_zero]
        exact ⟨sr.length - (i + 1), by omega, i + 1, put', fd', out ++ [u], ot3, rfl, by omega, rfl, hf, by rw [List.map_append]; exact a2, hk.trans ⟨a3, a4⟩, by simp; omega⟩
      · rw [if_pos hc] at hf
        obtain ⟨ot3, g5, a1, a2, a3, a4, a6⟩ := app_k (bytes := 16) (xs := [srOf u]) ho2 (by simp) (by simp; omega)
        have h1 := ho2.isRow
        have hu := IsApp.updA a2
        have hn1 := IsApp.notTup a2
        have hn2 := IsApp.cells a2
        have hs1 := IsApp.subv ho2 1
        unfold oS
        simp (maxSteps := 2000000) (discharger := omega) only [xz,xc,xo,xr,x0,x1,x3,x5,xd,xb,selems,srcElems,wr,partEs,placeEs,Reg.isA,Reg.isV,Reg.stays,Reg.onto,↓reduceIte,Nat.reduceEqDiff,Nat.reduceLT,Nat.reduceAdd,Nat.zero_lt_succ,Nat.reduceBEq,List.set_cons_zero,List.set_cons_succ,wrap_i64,t1,t3,t4,h1,a1,hu,hn1,hn2,List.replicate_succ,List.replicate_zero]
        exact ⟨sr.length - (i + 1), by omega, i + 1, true, fd', out ++ [edS x, u], ot3, rfl, by omega, rfl, hf, by simpa using a2, (hk.trans hks).trans ⟨a3, a4⟩, by simp; omega⟩
    · have hi2 : i = sr.length := by omega
      subst hi2
      rw [List.drop_length] at hf
      rw [← hf]
      unfold oS
      simp (maxSteps := 2000000) (discharger := omega) only [xz,xc,xo,xr,x0,x1,x4,xd,Reg.isA,Reg.isV,Reg.stays,Reg.onto,↓reduceIte,Nat.reduceEqDiff,Nat.reduceLT,Nat.reduceBEq,int_lt_f,Nat.sub_self,hlen]
      exact ⟨s3, rfl, ho, hk, hol⟩
  · rintro e r g1 ⟨rfl, hh⟩
    simp (maxSteps := 2000000) only [xz,xc,↓reduceIte]
    exact hh

set_option maxRecDepth 100000 in
set_option maxHeartbeats 8000000 in
theorem w_o42g (y : Int) (lg : List Int) (cc : Cap) (he : (lg.map inOf)[i]? = some (.int .i64 y)) (hi : i < lg.length) : Wp (kont F n tot ω) n o42g (oL (.agg [tv, sv, .imm 1 (lg.map inOf) cc, .int .i64 nx0]) x ot s2 l2 nx fd i [(281, .val (.bool true))]) g fun e r g' => g' = g ∧
    ((e = .exit 5 ∧ (x.k = 6 ∧ y = x.f) ∧ r = oL (.agg [tv, sv, .imm 1 (lg.map inOf) cc, .int .i64 nx0]) x ot s2 l2 nx true i []) ∨ (e = .normal ∧ ¬ (x.k = 6 ∧ y = x.f) ∧ r = oL (.agg [tv, sv, .imm 1 (lg.map inOf) cc, .int .i64 nx0]) x ot s2 l2 nx fd i [(296, .val (.bool false))])) := by
  unfold o42g oL edOf z4
  by_cases hk : x.k = 6
  · by_cases q1 : y = x.f
    · simp (maxSteps := 2000000) (discharger := omega) only [xz,xc,xo,xr,x0,x1,xd,Reg.isA,Reg.isV,Reg.stays,Reg.onto,↓reduceIte,Nat.reduceEqDiff,Nat.reduceLT,or_false,beq_self_eq_true,Nat.reduceBEq,int_le_t,int_eq_t,int_beq_t,not_true_eq_false,he]
    · simp (maxSteps := 2000000) (discharger := omega) only [xz,xc,xo,xr,x0,x1,xd,Reg.isA,Reg.isV,Reg.stays,Reg.onto,↓reduceIte,Nat.reduceEqDiff,Nat.reduceLT,false_or,beq_self_eq_true,Nat.reduceBEq,int_le_t,int_eq_t,int_eq_f,int_beq_t,int_beq_f,not_false_eq_true,he]
  · simp (maxSteps := 2000000) (discharger := omega) only [xz,xc,xo,xr,x0,x1,xd,xb,Reg.isA,Reg.isV,Reg.stays,Reg.onto,↓reduceIte,Nat.reduceEqDiff,Nat.reduceLT,false_or,Nat.reduceBEq,int_eq_f,int_beq_f,not_false_eq_true]

set_option maxRecDepth 100000 in
set_option maxHeartbeats 8000000 in
theorem w_o42l (lg : List Int) (hr : IsRd 1 (lg.map inOf) lv) (hl : lg.length ≤ 100000) (hn : lg.length + 5 < n) (ex : Regs) (hex : ex = [] ∨ ex = [(266, .val (.bool false))]) : Wp (kont F n tot ω) n o42l
    ((2, .var (.agg [tv, sv, lv, .int .i64 nx0])) :: (3, .var (edOf x)) :: (4, .var z4) :: (6, .var (.agg [ot, s2, .nils, .int .i64 nx])) :: (8, .val (.bool fd)) :: ex) g fun e r g' =>
    e = .normal ∧ ∃ l3, r = oL (.agg [tv, sv, lv, .int .i64 nx0]) x ot s2 l3 nx (goL x lg fd []).1 lg.length [(281, .val (.bool false))] ∧ IsApp 1 ((goL x lg fd []).2.map inOf) g' l3 ∧ KT 1 g g' ∧ (goL x lg fd []).2.length ≤ lg.length := by
  unfold o42l
  have hlen := hr.len
  rw [List.length_map] at hlen
  have hs0 := hr.subv 1
  refine wpi_seq (wpi_cut (fun r g' => r = oL (.agg [tv, sv, lv, .int .i64 nx0]) x ot s2 .nils nx fd 0 [] ∧ g' = g) ?_ ?_)
  · unfold oL
    rcases hex with rfl | rfl <;> simp (maxSteps := 2000000) (discharger := omega) only [xz,xc,xo,xr,x0,Reg.isA,Reg.isV,Reg.stays,Reg.onto,↓reduceIte,Nat.reduceEqDiff,Nat.reduceLT,Int.cast_ofNat_Int]
  rintro r g' ⟨rfl, rfl⟩
  rw [then_n]
  simp (maxSteps := 2000000) only [xc]
  refine wpi_loop' (fun k r g1 => ∃ (i : Nat) (fd' : Bool) (out : List Int) (s3 : AV), r = oL (.agg [tv, sv, lv, .int .i64 nx0]) x ot s2 s3 nx fd' i [] ∧ i ≤ lg.length ∧ k = lg.length - i ∧ goL x (lg.drop i) fd' out = goL x lg fd [] ∧ IsApp 1 (out.map inOf) g1 s3 ∧ KT 1 g' g1 ∧ out.length ≤ i)
    (fun e r g1 => e = .exit 4 ∧ ∃ l3, r = oL (.agg [tv, sv, lv, .int .i64 nx0]) x ot s2 l3 nx (goL x lg fd []).1 lg.length [(281, .val (.bool false))] ∧ IsApp 1 ((goL x lg fd []).2.map inOf) g1 l3 ∧ KT 1 g' g1 ∧ (goL x lg fd []).2.length ≤ lg.length) lg.length (by omega)
    ⟨0, fd, [], .nils, rfl, by omega, by omega, rfl, .nils _ _, .refl _ _, by simp⟩ ?_ ?_
  · rintro k r g1 ⟨i, fd', out, s3, rfl, hi, rfl, hf, ho, hk, hol⟩
    by_cases hlt : i < lg.length
    · obtain ⟨cc, rfl⟩ := hr.imm (i := i) (by rw [List.length_map]; exact hlt)
      have e1 := map_get (f := inOf) hlt
      rw [List.drop_eq_getElem_cons hlt] at hf
      generalize lg[i] = y at e1 hf
      have e1' : (lg.map inOf)[i]? = some (.int .i64 y) := e1
      rw [goL] at hf
      have hg := w_o42g (tot := tot) (ω := ω) (n := n) tv sv ot s2 s3 nx nx0 x fd' i g1 y lg cc e1' hlt
      unfold oL at hg ⊢
      simp (maxSteps := 2000000) (discharger := omega) only [xz,xc,xo,xr,x0,x1,x4,xd,Reg.isA,Reg.isV,Reg.stays,Reg.onto,↓reduceIte,Nat.reduceEqDiff,Nat.reduceLT,Nat.reduceBEq,int_lt_t,hlen]
      refine Wp.mono hg ?_
      rintro e r g3 ⟨rfl, (⟨rfl, hc, rfl⟩ | ⟨rfl, hc, rfl⟩)⟩
      · rw [if_pos hc] at hf
        simp (maxSteps := 2000000) (discharger := omega) only [xz,xc,xo,xr,x0,x1,xd,Reg.isA,Reg.isV,Reg.stays,Reg.onto,↓reduceIte,Nat.reduceEqDiff,Nat.reduceLT,wrap_i64]
        exact ⟨lg.length - (i + 1), by omega, i + 1, true, out, s3, rfl, by omega, rfl, hf, ho, hk, by omega⟩
      rw [if_neg hc] at hf
      rw [then_n]
      obtain ⟨ot3, g5, a1, a2, a3, a4, a6⟩ := app_k (bytes := 8) (xs := [inOf y]) ho (by simp) (by simp; omega)
      have a1' : appendV false 1 8 s3 [.int .i64 y] g3 = some (ot3, g5) := a1
      have h1 := ho.isRow
      have hu := IsApp.updA a2
      have hn1 := IsApp.notTup a2
      have hn2 := IsApp.cells a2
      have hs1 := IsApp.subv ho 1
      simp (maxSteps := 2000000) (discharger := omega) only [xz,xc,xo,xr,x0,x1,x3,x5,xd,xb,selems,srcElems,wr,partEs,placeEs,Reg.isA,Reg.isV,Reg.stays,Reg.onto,↓reduceIte,Nat.reduceEqDiff,Nat.reduceLT,Nat.reduceAdd,Nat.zero_lt_succ,Nat.reduceBEq,List.set_cons_zero,List.set_cons_succ,wrap_i64,int_le_t,e1',h1,a1',hu,hn1,hn2,List.replicate_succ,List.replicate_zero]
      exact ⟨lg.length - (i + 1), by omega, i + 1, fd', out ++ [y], ot3, rfl, by omega, rfl, hf, by rw [List.map_append]; exact a2, hk.trans ⟨a3, a4⟩, by simp; omega⟩
    · have hi2 : i = lg.length := by omega
      subst hi2
      rw [List.drop_length] at hf
      rw [← hf]
      unfold oL
      simp (maxSteps := 2000000) (discharger := omega) only [xz,xc,xo,xr,x0,x1,x4,xd,Reg.isA,Reg.isV,Reg.stays,Reg.onto,↓reduceIte,Nat.reduceEqDiff,Nat.reduceLT,Nat.reduceBEq,int_lt_f,Nat.sub_self,hlen]
      exact ⟨s3, rfl, ho, hk, hol⟩
  · rintro e r g1 ⟨rfl, hh⟩
    simp (maxSteps := 2000000) only [xz,xc,↓reduceIte]
    exact hh
end
end Go.Proofs.Ytlognommhffmcaa.Im

/- S13XRq: the document's: a state behind an edit. -/
set_option linter.unusedVariables false
set_option linter.unusedSimpArgs false
open Go Go.Im
namespace Go.Proofs.Ytlognommhffmcaa.Im

def addsB (x : Ed) : Bool := x.k == 1 || (x.k == 3 || x.k == 5)
def e1P (x : Ed) : Prop := x.k < 1 ∨ x.k > 7 ∨ ((addsB x = true ∨ x.k = 7) ∧ x.f < 1)
def e2P (s : Ste) (x : Ed) : Prop := (x.k = 1 ∧ badT x = true) ∨ (x.k = 3 ∧ x.l ≠ 0 ∧ x.l ≠ 1) ∨ (x.k = 7 ∧ x.f < s.nx)
instance (x : Ed) : Decidable (e1P x) := by unfold e1P; exact inferInstance
instance (s : Ste) (x : Ed) : Decidable (e2P s x) := by unfold e2P; exact inferInstance

def oneT (s : Ste) (x : Ed) : Bool × Bool × List Tb → Int × Ste := fun t =>
  let a := goS x s.sr (x.k != 3) t.2.1 []
  let b := goL x s.lg a.2.1 []
  if b.1 then (0, ⟨if t.1 then t.2.2 else t.2.2 ++ [edT x], if a.1 then a.2.2 else a.2.2 ++ [edS x], if x.k = 5 then b.2 ++ [x.f] else b.2, if x.k = 7 then x.f else s.nx⟩) else (9, s)

def oneF (s : Ste) (x : Ed) : Int × Ste :=
  if e1P x then (1, s) else if e2P s x then (1, s) else if addsB x = true ∧ hasF s x.f = true then (10, s) else
  match goT x s.tb (x.k != 1) (addsB x || x.k == 7) [] with
  | none => (11, s)
  | some t => oneT s x t

section
variable {tot : Bool} {ω : Nat → Nat} {n : Nat} (mv : AV) (tv sv lv : AV) (s : Ste) (x : Ed) (g : Hp)

def oP (mv : AV) (x : Ed) (nx : Int) (ex : Regs) : Regs := (2, .var mv) :: (3, .var (edOf x)) :: (4, .var z4) :: (6, .var (.agg [.nils, .nils, .nils, .int .i64 nx])) :: (7, .val (.bool (addsB x))) :: ex

set_option maxRecDepth 100000 in
set_option maxHeartbeats 8000000 in
theorem w_o42p : Wp (kont F n tot ω) n o42p (oP (.agg [tv, sv, lv, .int .i64 s.nx]) x s.nx []) g fun e r g' => g' = g ∧
    ((e = .ret ∧ e1P x ∧ r = [(4, .var (.agg [tv, sv, lv, .int .i64 s.nx])), (5, .val (.int .i64 1))]) ∨ (e = .normal ∧ ¬ e1P x ∧ r = oP (.agg [tv, sv, lv, .int .i64 s.nx]) x s.nx [(52, .val (.bool false))])) := by
  unfold o42p oP
  by_cases k1 : x.k < 1
  · have h : e1P x := .inl k1
    unfold edOf z4
    simp (maxSteps := 2000000) (discharger := omega) only [xz,xc,xo,xr,x0,x1,x5,xd,xb,wr,Reg.isA,Reg.isV,Reg.stays,Reg.onto,↓reduceIte,Nat.reduceEqDiff,Nat.reduceLT,Nat.reduceAdd,or_false,Nat.reduceBEq,xu,int_lt_t,nat_le_t,not_true_eq_false,h]
  by_cases k2 : x.k > 7
  · have h : e1P x := .inr (.inl k2)
    unfold edOf z4
    simp (maxSteps := 2000000) (discharger := omega) only [xz,xc,xo,xr,x0,x1,x5,xd,xb,wr,Reg.isA,Reg.isV,Reg.stays,Reg.onto,↓reduceIte,Nat.reduceEqDiff,Nat.reduceLT,Nat.reduceAdd,or_false,beq_self_eq_true,Nat.reduceBEq,xu,int_lt_t,int_lt_f,nat_le_t,not_true_eq_false,h]
  cases ha : addsB x with
  | true =>
    by_cases k3 : x.f < 1
    · have h : e1P x := .inr (.inr ⟨.inl ha, k3⟩)
      unfold edOf z4
      simp (maxSteps := 2000000) (discharger := omega) only [xz,xc,xo,xr,x0,x1,x5,xd,xb,wr,Reg.isA,Reg.isV,Reg.stays,Reg.onto,↓reduceIte,Nat.reduceEqDiff,Nat.reduceLT,Nat.reduceAdd,or_false,beq_self_eq_true,Nat.reduceBEq,xu,int_lt_t,int_lt_f,nat_le_t,not_true_eq_false,h]
    · have h : ¬ e1P x := by unfold e1P; omega
      unfold edOf z4
      simp (maxSteps := 2000000) (discharger := omega) only [xz,xc,xo,xr,x0,x1,xd,xb,Reg.isA,Reg.isV,Reg.stays,Reg.onto,↓reduceIte,Nat.reduceEqDiff,Nat.reduceLT,false_or,beq_self_eq_true,Nat.reduceBEq,int_lt_f,not_false_eq_true,h]
  | false =>
    by_cases k7 : x.k = 7
    · by_cases k3 : x.f < 1
      · have h : e1P x := .inr (.inr ⟨.inr k7, k3⟩)
        unfold edOf z4
        simp (maxSteps := 2000000) (discharger := omega) only [xz,xc,xo,xr,x0,x1,x5,xd,wr,Reg.isA,Reg.isV,Reg.stays,Reg.onto,↓reduceIte,Nat.reduceEqDiff,Nat.reduceLT,Nat.reduceAdd,or_false,beq_self_eq_true,Nat.reduceBEq,xu,int_lt_t,int_lt_f,int_beq_t,nat_le_t,not_true_eq_false,h]
      · have h : ¬ e1P x := by unfold e1P; omega
        unfold edOf z4
        simp (maxSteps := 2000000) (discharger := omega) only [xz,xc,xo,xr,x0,x1,xd,Reg.isA,Reg.isV,Reg.stays,Reg.onto,↓reduceIte,Nat.reduceEqDiff,Nat.reduceLT,false_or,beq_self_eq_true,Nat.reduceBEq,int_lt_f,int_beq_t,not_false_eq_true,h]
    · have h : ¬ e1P x := by
        unfold e1P
        rw [ha]
        simp
        omega
      unfold edOf z4
      simp (maxSteps := 2000000) (discharger := omega) only [xz,xc,xo,xr,x0,x1,xd,xb,Reg.isA,Reg.isV,Reg.stays,Reg.onto,↓reduceIte,Nat.reduceEqDiff,Nat.reduceLT,false_or,beq_self_eq_true,Nat.reduceBEq,int_lt_f,int_beq_f,not_false_eq_true,h]

set_option maxRecDepth 100000 in
set_option maxHeartbeats 8000000 in
theorem w_o42q : Wp (kont F n tot ω) n o42q (oP (.agg [tv, sv, lv, .int .i64 s.nx]) x s.nx [(52, .val (.bool false))]) g fun e r g' => g' = g ∧
    ((e = .ret ∧ e2P s x ∧ r = [(4, .var (.agg [tv, sv, lv, .int .i64 s.nx])), (5, .val (.int .i64 1))]) ∨ (e = .normal ∧ ¬ e2P s x ∧ r = oP (.agg [tv, sv, lv, .int .i64 s.nx]) x s.nx [(105, .val (.bool false))])) := by
  unfold o42q oP
  have hgt : (!(Op.bytesLess x.lo x.hi || x.lo == x.hi)) = !sLe x.lo x.hi := rfl
  by_cases k1 : x.k = 1
  · by_cases b1 : x.l < 0
    · have h : e2P s x := .inl ⟨k1, by simp [badT,b1]⟩
      unfold edOf z4
      simp (maxSteps := 2000000) (discharger := omega) only [xz,xc,xo,xr,x0,x1,x5,xd,xb,wr,Reg.isA,Reg.isV,Reg.stays,Reg.onto,↓reduceIte,Nat.reduceEqDiff,Nat.reduceLT,Nat.reduceAdd,or_false,beq_self_eq_true,Nat.reduceBEq,xu,int_lt_t,int_beq_t,nat_le_t,not_true_eq_false,h]
    by_cases b2 : x.l > 5
    · have h : e2P s x := .inl ⟨k1, by simp [badT]; omega⟩
      unfold edOf z4
      simp (maxSteps := 2000000) (discharger := omega) only [xz,xc,xo,xr,x0,x1,x5,xd,xb,wr,Reg.isA,Reg.isV,Reg.stays,Reg.onto,↓reduceIte,Nat.reduceEqDiff,Nat.reduceLT,Nat.reduceAdd,or_false,beq_self_eq_true,Nat.reduceBEq,xu,int_lt_t,int_lt_f,int_beq_t,nat_le_t,not_true_eq_false,h]
    by_cases b3 : x.c < 1
    · have h : e2P s x := .inl ⟨k1, by simp [badT]; omega⟩
      unfold edOf z4
      simp (maxSteps := 2000000) (discharger := omega) only [xz,xc,xo,xr,x0,x1,x5,xd,xb,wr,Reg.isA,Reg.isV,Reg.stays,Reg.onto,↓reduceIte,Nat.reduceEqDiff,Nat.reduceLT,Nat.reduceAdd,or_false,beq_self_eq_true,Nat.reduceBEq,xu,int_lt_t,int_lt_f,int_beq_t,nat_le_t,not_true_eq_false,h]
    cases b4 : sLe x.lo x.hi with
    | false =>
      have h : e2P s x := .inl ⟨k1, by simp [badT,b4]⟩
      unfold edOf z4
      simp (maxSteps := 2000000) (discharger := omega) only [xz,xc,xo,xr,x0,x1,x5,xd,xb,wr,Reg.isA,Reg.isV,Reg.stays,Reg.onto,↓reduceIte,Nat.reduceEqDiff,Nat.reduceLT,Nat.reduceAdd,or_false,beq_self_eq_true,Nat.reduceBEq,xu,int_lt_f,int_beq_t,nat_le_t,not_true_eq_false,hgt,b4,h]
    | true =>
      have hb : badT x = false := by simp [badT,b4]; omega
      have h : ¬ e2P s x := by
        unfold e2P
        rw [hb]
        simp
        omega
      unfold edOf z4
      simp (maxSteps := 2000000) (discharger := omega) only [xz,xc,xo,xr,x0,x1,xd,xb,Reg.isA,Reg.isV,Reg.stays,Reg.onto,↓reduceIte,Nat.reduceEqDiff,Nat.reduceLT,false_or,beq_self_eq_true,Nat.reduceBEq,int_lt_f,int_beq_t,int_beq_f,not_false_eq_true,hgt,b4,h]
  by_cases k3 : x.k = 3
  · by_cases b1 : x.l ≠ 0
    · by_cases b2 : x.l ≠ 1
      · have h : e2P s x := .inr (.inl ⟨k3, b1, b2⟩)
        unfold edOf z4
        simp (maxSteps := 2000000) (discharger := omega) only [xz,xc,xo,xr,x0,x1,x5,xd,xb,wr,Reg.isA,Reg.isV,Reg.stays,Reg.onto,↓reduceIte,Nat.reduceEqDiff,Nat.reduceLT,Nat.reduceAdd,or_false,beq_self_eq_true,Nat.reduceBEq,xu,int_beq_t,int_beq_f,int_bne_t,nat_le_t,not_true_eq_false,h]
      · have h : ¬ e2P s x := by unfold e2P; omega
        unfold edOf z4
        simp (maxSteps := 2000000) (discharger := omega) only [xz,xc,xo,xr,x0,x1,xd,xb,Reg.isA,Reg.isV,Reg.stays,Reg.onto,↓reduceIte,Nat.reduceEqDiff,Nat.reduceLT,false_or,beq_self_eq_true,Nat.reduceBEq,int_beq_t,int_beq_f,int_bne_t,int_bne_f,not_false_eq_true,h]
    · have h : ¬ e2P s x := by unfold e2P; omega
      unfold edOf z4
      simp (maxSteps := 2000000) (discharger := omega) only [xz,xc,xo,xr,x0,x1,xd,xb,Reg.isA,Reg.isV,Reg.stays,Reg.onto,↓reduceIte,Nat.reduceEqDiff,Nat.reduceLT,false_or,beq_self_eq_true,Nat.reduceBEq,int_beq_t,int_beq_f,int_bne_f,not_false_eq_true,h]
  by_cases k7 : x.k = 7
  · by_cases b1 : x.f < s.nx
    · have h : e2P s x := .inr (.inr ⟨k7, b1⟩)
      unfold edOf z4
      simp (maxSteps := 2000000) (discharger := omega) only [xz,xc,xo,xr,x0,x1,x5,xd,xb,wr,Reg.isA,Reg.isV,Reg.stays,Reg.onto,↓reduceIte,Nat.reduceEqDiff,Nat.reduceLT,Nat.reduceAdd,or_false,beq_self_eq_true,Nat.reduceBEq,xu,int_lt_t,int_beq_t,int_beq_f,nat_le_t,not_true_eq_false,h]
    · have h : ¬ e2P s x := by unfold e2P; omega
      unfold edOf z4
      simp (maxSteps := 2000000) (discharger := omega) only [xz,xc,xo,xr,x0,x1,xd,xb,Reg.isA,Reg.isV,Reg.stays,Reg.onto,↓reduceIte,Nat.reduceEqDiff,Nat.reduceLT,false_or,beq_self_eq_true,Nat.reduceBEq,int_lt_f,int_beq_t,int_beq_f,not_false_eq_true,h]
  have h : ¬ e2P s x := by unfold e2P; omega
  unfold edOf z4
  simp (maxSteps := 2000000) (discharger := omega) only [xz,xc,xo,xr,x0,x1,xd,xb,Reg.isA,Reg.isV,Reg.stays,Reg.onto,↓reduceIte,Nat.reduceEqDiff,Nat.reduceLT,false_or,beq_self_eq_true,Nat.reduceBEq,int_beq_f,not_false_eq_true,h]

def OnePost (s : Ste) (x : Ed) (g : Hp) (v' : AV) (g' : Hp) : Prop := KS g g' ∧ ∃ u, v' = .tup [u, .int .i64 (oneF s x).1] ∧ RfAt (oneF s x).2 u

end
end Go.Proofs.Ytlognommhffmcaa.Im

/- S13XRr: the document's: a state behind an edit, whole. -/
set_option linter.unusedVariables false
set_option linter.unusedSimpArgs false
open Go Go.Im
namespace Go.Proofs.Ytlognommhffmcaa.Im
section
variable {tot : Bool} {ω : Nat → Nat} {n : Nat} (mv : AV) (s : Ste) (x : Ed) (g : Hp)

set_option maxRecDepth 100000 in
set_option maxHeartbeats 8000000 in
theorem c42 (hs : RfAt s mv) (hz : s.sz ≤ 90000) (hn : s.sz + 30 < n) : ∃ v' g', call F n tot ω 42 [mv, edOf x] g = some (v', g') ∧ OnePost s x g v' g' := by
  obtain ⟨n, rfl⟩ : ∃ m, n = m + 1 := ⟨n - 1, by omega⟩
  have hth := c65 (tot := tot) (ω := ω) (n := n) s mv x.f g hs (by omega) (by omega)
  have hszd : s.sz = s.tb.length + s.sr.length + s.lg.length := rfl
  have hs0 := hs
  obtain ⟨tv, sv, lv, rfl, r1, r2, r3⟩ := hs
  refine call_of (fn := a42) f42 (P := OnePost s x g) ?_
  have err : ∀ (e : Int) (g' : Hp), KS g g' → oneF s x = (e, s) → ∀ r, r = [(4, Reg.var (.agg [tv, sv, lv, .int .i64 s.nx])), (5, .val (.int .i64 e))] → Ret a42.results (OnePost s x g) .ret r g' := by
    rintro e g' hk ho r rfl
    refine ⟨.tup [.agg [tv, sv, lv, .int .i64 s.nx], .int .i64 e], rfl, hk, .agg [tv, sv, lv, .int .i64 s.nx], ?_, ?_⟩
    · rw [ho]
    · rw [ho]; exact ⟨tv, sv, lv, rfl, r1, r2, r3⟩
  unfold a42
  refine wpi_seq (wpi_cut (fun r g' => r = [(2, .var (.agg [tv, sv, lv, .int .i64 s.nx])), (3, .var (edOf x)), (4, .var z4)] ∧ g = g') ?_ ?_)
  · have t3 : (edOf x).notTup = true := rfl
    have t4 : (edOf x).cells.length = 6 := rfl
    simp (maxSteps := 2000000) (discharger := omega) only [xz,xc,xo,xr,x0,xd,Reg.isA,Reg.isV,Reg.stays,Reg.onto,↓reduceIte,reduceCtorEq,Nat.reduceEqDiff,Nat.reduceLT,Nat.reduceAdd,t3,t4,z4]
  rintro r g' ⟨rfl, rfl⟩
  rw [then_n]
  refine wpi_seq (wpi_cut (fun r g' => r = [(2, .var (.agg [tv, sv, lv, .int .i64 s.nx])), (3, .var (edOf x)), (4, .var z4), (6, .var (.agg [.nils, .nils, .nils, .int .i64 s.nx]))] ∧ g = g') ?_ ?_)
  · unfold edOf z4
    simp (maxSteps := 2000000) (discharger := omega) only [xz,xc,xo,xr,x0,x1,x3,x5,xd,wr,place,partVals,Reg.isA,Reg.isV,Reg.stays,Reg.onto,↓reduceIte,Nat.reduceEqDiff,Nat.reduceLT,Nat.reduceAdd,Nat.reduceBEq,xu,nat_le_t]
  rintro r g' ⟨rfl, rfl⟩
  rw [then_n]
  refine wpi_seq (wpi_cut (fun r g' => r = oP (.agg [tv, sv, lv, .int .i64 s.nx]) x s.nx [] ∧ g = g') ?_ ?_)
  · unfold oP
    by_cases k1 : x.k = 1
    · have : addsB x = true := by simp [addsB,k1]
      rw [this]
      unfold edOf z4
      simp (maxSteps := 2000000) (discharger := omega) only [xz,xc,xo,xr,x0,x1,xd,xb,Reg.isA,Reg.isV,Reg.stays,Reg.onto,↓reduceIte,Nat.reduceEqDiff,Nat.reduceLT,Nat.reduceBEq,int_beq_t]
    · by_cases k3 : x.k = 3
      · have : addsB x = true := by simp [addsB,k3]
        rw [this]
        unfold edOf z4
        simp (maxSteps := 2000000) (discharger := omega) only [xz,xc,xo,xr,x0,x1,xd,xb,Reg.isA,Reg.isV,Reg.stays,Reg.onto,↓reduceIte,Nat.reduceEqDiff,Nat.reduceLT,beq_self_eq_true,Nat.reduceBEq,int_beq_t,int_beq_f]
      · by_cases k5 : x.k = 5
        · have : addsB x = true := by simp [addsB,k5]
          rw [this]
          unfold edOf z4
          simp (maxSteps := 2000000) (discharger := omega) only [xz,xc,xo,xr,x0,x1,xd,Reg.isA,Reg.isV,Reg.stays,Reg.onto,↓reduceIte,Nat.reduceEqDiff,Nat.reduceLT,beq_self_eq_true,Nat.reduceBEq,int_beq_t,int_beq_f]
        · have : addsB x = false := by simp [addsB,k1,k3,k5]
          rw [this]
          unfold edOf z4
          simp (maxSteps := 2000000) (discharger := omega) only [xz,xc,xo,xr,x0,x1,xd,Reg.isA,Reg.isV,Reg.stays,Reg.onto,↓reduceIte,Nat.reduceEqDiff,Nat.reduceLT,beq_self_eq_true,Nat.reduceBEq,int_beq_f]
  rintro r g' ⟨rfl, rfl⟩
  rw [then_n]
  refine wpi_seq (Wp.mono (w_o42p tv sv lv s x g) ?_)
  rintro e r g1 ⟨hgg, (⟨rfl, hc1, rfl⟩ | ⟨rfl, hc1, rfl⟩)⟩ <;> rw [hgg] <;> clear hgg g1
  · exact err 1 g (.refl _) (by simp only [oneF,if_pos hc1]) _ rfl
  rw [then_n]
  refine wpi_seq (Wp.mono (w_o42q tv sv lv s x g) ?_)
  rintro e r g1 ⟨hgg, (⟨rfl, hc2, rfl⟩ | ⟨rfl, hc2, rfl⟩)⟩ <;> rw [hgg] <;> clear hgg g1
  · exact err 1 g (.refl _) (by simp only [oneF,if_neg hc1,if_pos hc2]) _ rfl
  rw [then_n]
  refine wpi_seq (Wp.mono (Q := fun e r g' => KS g g' ∧ ((e = .ret ∧ (addsB x = true ∧ hasF s x.f = true) ∧ r = [(4, .var (.agg [tv, sv, lv, .int .i64 s.nx])), (5, .val (.int .i64 10))]) ∨ (e = .normal ∧ ¬ (addsB x = true ∧ hasF s x.f = true) ∧ r = oP (.agg [tv, sv, lv, .int .i64 s.nx]) x s.nx [(113, .val (.bool false))]))) ?_ ?_)
  · obtain ⟨g3, e65, k65⟩ := hth
    unfold oP
    cases ha : addsB x with
    | false =>
      unfold edOf z4
      simp (maxSteps := 2000000) (discharger := omega) only [xz,xc,xo,xr,x0,xb,Reg.isA,Reg.isV,Reg.stays,Reg.onto,↓reduceIte,Nat.reduceEqDiff,Nat.reduceLT,false_or,not_false_eq_true]
      exact .refl _
    | true =>
      cases hh : hasF s x.f with
      | false =>
        rw [hh] at e65
        unfold edOf z4
        simp (maxSteps := 2000000) (discharger := omega) only [xz,xc,xo,xr,x0,x1,xd,kont_call,Reg.isA,Reg.isV,Reg.stays,Reg.onto,↓reduceIte,Nat.reduceEqDiff,Nat.reduceLT,Nat.reduceAdd,false_or,beq_self_eq_true,Nat.reduceBEq,nat_le_t,not_false_eq_true,e65]
        exact KeepLo.ks k65
      | true =>
        rw [hh] at e65
        unfold edOf z4
        simp (maxSteps := 2000000) (discharger := omega) only [xz,xc,xo,xr,x0,x1,x5,xd,kont_call,wr,Reg.isA,Reg.isV,Reg.stays,Reg.onto,↓reduceIte,Nat.reduceEqDiff,Nat.reduceLT,Nat.reduceAdd,or_false,beq_self_eq_true,Nat.reduceBEq,xu,nat_le_t,not_true_eq_false,e65]
        exact KeepLo.ks k65
  rintro e r g3 ⟨hks, (⟨rfl, hc3, rfl⟩ | ⟨rfl, hc3, rfl⟩)⟩
  · exact err 10 g3 hks (by simp only [oneF,if_neg hc1,if_neg hc2,if_pos hc3]) _ rfl
  rw [then_n]
  refine wpi_seq (wpi_cut (fun r g' => r = [(2, .var (.agg [tv, sv, lv, .int .i64 s.nx])), (3, .var (edOf x)), (4, .var z4), (6, .var (.agg [.nils, .nils, .nils, .int .i64 s.nx])), (8, .val (.bool (addsB x || x.k == 7)))] ∧ g3 = g') ?_ ?_)
  · unfold oP
    cases ha : addsB x with
    | true =>
      unfold edOf z4
      simp (maxSteps := 2000000) (discharger := omega) only [xz,xc,xo,xr,x0,xb,Reg.isA,Reg.isV,Reg.stays,Reg.onto,↓reduceIte,Nat.reduceEqDiff,Nat.reduceLT]
    | false =>
      unfold edOf z4
      simp (maxSteps := 2000000) (discharger := omega) only [xz,xc,xo,xr,x0,x1,xd,Reg.isA,Reg.isV,Reg.stays,Reg.onto,↓reduceIte,Nat.reduceEqDiff,Nat.reduceLT,beq_self_eq_true,Nat.reduceBEq]
  rintro r g' ⟨rfl, rfl⟩
  rw [then_n]
  refine wpi_seq (wpi_cut (fun r g' => r = [(2, .var (.agg [tv, sv, lv, .int .i64 s.nx])), (3, .var (edOf x)), (4, .var z4), (6, .var (.agg [.nils, .nils, .nils, .int .i64 s.nx])), (8, .val (.bool (addsB x || x.k == 7))), (9, .var (tbOf (edT x)))] ∧ g3 = g') ?_ ?_)
  · unfold edOf z4 tbOf edT
    simp (maxSteps := 2000000) (discharger := omega) only [xz,xc,xo,xr,x0,x1,x3,x5,xd,wr,place,partVals,Reg.isA,Reg.isV,Reg.stays,Reg.onto,↓reduceIte,Nat.reduceEqDiff,Nat.reduceLT,Nat.reduceAdd,Nat.reduceBEq,xu,nat_le_t]
  rintro r g' ⟨rfl, rfl⟩
  rw [then_n]
  refine wpi_seq (wpi_cut (fun r g' => r = [(2, .var (.agg [tv, sv, lv, .int .i64 s.nx])), (3, .var (edOf x)), (4, .var z4), (6, .var (.agg [.nils, .nils, .nils, .int .i64 s.nx])), (8, .val (.bool (addsB x || x.k == 7))), (9, .var (tbOf (edT x))), (10, .val (.bool (x.k != 1)))] ∧ g3 = g') ?_ ?_)
  · unfold edOf z4
    simp (maxSteps := 2000000) (discharger := omega) only [xz,xc,xo,xr,x0,x1,xd,Reg.isA,Reg.isV,Reg.stays,Reg.onto,↓reduceIte,Nat.reduceEqDiff,Nat.reduceLT,Nat.reduceBEq]
  rintro r g' ⟨rfl, rfl⟩
  rw [then_n]
  have hone : oneF s x = match goT x s.tb (x.k != 1) (addsB x || x.k == 7) [] with
    | none => (11, s)
    | some t => oneT s x t := by simp only [oneF,if_neg hc1,if_neg hc2,if_neg hc3] <;> rfl
  generalize (addsB x || x.k == 7) = fd at hone ⊢
  refine wpi_seq (Wp.mono (w_o42t tv sv lv .nils .nils s.nx s.nx x fd (x.k != 1) g3 s.tb r1 (by omega) (by omega)) ?_)
  rintro e r g4 (⟨rfl, _, hk4, hgo, rfl⟩ | ⟨rfl, put, fd1, out, ot, hgo, rfl, ho, hk4, hol⟩)
  · rw [hgo] at hone
    exact err 11 g4 (hks.trans hk4) hone _ rfl
  rw [hgo] at hone
  simp only [oneT] at hone
  rw [then_n]
  generalize hq : (if put = true then out else out ++ [edT x]) = out' at hone
  refine wpi_seq (wpi_cut (fun r g' => ∃ ot' ex, r = (2, .var (.agg [tv, sv, lv, .int .i64 s.nx])) :: (3, .var (edOf x)) :: (4, .var z4) :: (6, .var (.agg [ot', .nils, .nils, .int .i64 s.nx])) :: (8, .val (.bool fd1)) :: ex ∧ (ex = [] ∨ ex = [(9, .var (tbOf (edT x))), (208, .val (.bool false))]) ∧ IsApp 5 (out'.map tbOf) g' ot' ∧ KS g g') ?_ ?_)
  · unfold oB
    cases put with
    | true =>
      simp only [if_true] at hq
      subst hq
      simp (maxSteps := 2000000) (discharger := omega) only [xz,xc,xo,xr,x0,x2,xd,Reg.isA,Reg.isV,Reg.stays,Reg.onto,↓reduceIte,Nat.reduceEqDiff,Nat.reduceLT]
      exact ⟨ot, _, rfl, .inr rfl, ho, hks.trans hk4.1⟩
    | false =>
      simp only [Bool.false_eq_true,if_false] at hq
      subst hq
      obtain ⟨ot', g5, a1, a2, a3, a4, a6⟩ := app_k (bytes := 56) (xs := [tbOf (edT x)]) ho (by simp) (by simp; omega)
      have h1 := ho.isRow
      have hu := IsApp.updA a2
      have hn1 := IsApp.notTup a2
      have hn2 := IsApp.cells a2
      have hs1 := IsApp.subv ho 1
      have t1 : sub (tbOf (edT x)) 0 5 true = some (tbOf (edT x)) := rfl
      have t3 : (tbOf (edT x)).notTup = true := rfl
      have t4 : (tbOf (edT x)).cells.length = 5 := rfl
      simp (maxSteps := 2000000) (discharger := omega) only [xz,xc,xo,xr,x0,x1,x2,x3,x5,xd,xb,selems,srcElems,wr,partEs,placeEs,Reg.isA,Reg.isV,Reg.stays,Reg.onto,↓reduceIte,Nat.reduceEqDiff,Nat.reduceLT,Nat.reduceAdd,Nat.zero_lt_succ,Nat.reduceBEq,List.set_cons_zero,t1,t3,t4,h1,a1,hu,hn1,hn2,List.replicate_succ,List.replicate_zero]
      exact ⟨ot', [], rfl, .inl rfl, by rw [List.map_append]; exact a2, (hks.trans hk4.1).trans a3⟩
  clear hq hgo ho hk4 hol
  rintro r g5 ⟨ot', ex, rfl, hex, ho, hk5⟩
  rw [then_n]
  refine wpi_seq (wpi_cut (fun r g' => r = [(2, .var (.agg [tv, sv, lv, .int .i64 s.nx])), (3, .var (edOf x)), (4, .var z4), (6, .var (.agg [ot', .nils, .nils, .int .i64 s.nx])), (8, .val (.bool fd1)), (10, .val (.bool (x.k != 3)))] ∧ g5 = g') ?_ ?_)
  · unfold edOf z4
    rcases hex with rfl | rfl <;> simp (maxSteps := 2000000) (discharger := omega) only [xz,xc,xo,xr,x0,x1,xd,Reg.isA,Reg.isV,Reg.stays,Reg.onto,↓reduceIte,Nat.reduceEqDiff,Nat.reduceLT,Nat.reduceBEq]
  rintro r g' ⟨rfl, rfl⟩
  rw [then_n]
  refine wpi_seq (Wp.mono (w_o42s tv sv lv ot' .nils s.nx s.nx x fd1 (x.k != 3) g5 s.sr r2 (by omega) (by omega)) ?_)
  rintro e r g6 ⟨rfl, s3, rfl, ho2, hk6, hol2⟩
  rw [then_n]
  have ho6 := IsApp.keepT ho (h' := g6) fun id o h1 ⟨k, h2⟩ => hk6.2 id o h1 fun j hj => by rw [h2] at hj; cases hj
  generalize goS x s.sr (x.k != 3) fd1 [] = A at hone ho2 hol2 ⊢
  obtain ⟨put2, fd2, out2⟩ := A
  simp only at hone ho2 hol2 ⊢
  generalize hq : (if put2 = true then out2 else out2 ++ [edS x]) = out2' at hone
  refine wpi_seq (wpi_cut (fun r g' => ∃ s4 ex, r = (2, .var (.agg [tv, sv, lv, .int .i64 s.nx])) :: (3, .var (edOf x)) :: (4, .var z4) :: (6, .var (.agg [ot', s4, .nils, .int .i64 s.nx])) :: (8, .val (.bool fd2)) :: ex ∧ (ex = [] ∨ ex = [(266, .val (.bool false))]) ∧ IsApp 5 (out'.map tbOf) g' ot' ∧ IsApp 2 (out2'.map srOf) g' s4 ∧ KS g g') ?_ ?_)
  · unfold oS
    cases put2 with
    | true =>
      simp only [if_true] at hq
      subst hq
      simp (maxSteps := 2000000) (discharger := omega) only [xz,xc,xo,xr,x0,x2,xd,Reg.isA,Reg.isV,Reg.stays,Reg.onto,↓reduceIte,Nat.reduceEqDiff,Nat.reduceLT]
      exact ⟨s3, _, rfl, .inr rfl, ho6, ho2, hk5.trans hk6.1⟩
    | false =>
      simp only [Bool.false_eq_true,if_false] at hq
      subst hq
      obtain ⟨s4, g7, a1, a2, a3, a4, a6⟩ := app_k (bytes := 16) (xs := [srOf (edS x)]) ho2 (by simp) (by simp; omega)
      have a1' : appendV false 2 16 s3 [.agg [.int .i64 x.f, .int .i64 x.l]] g6 = some (s4, g7) := a1
      have ho7 := IsApp.keepT ho6 (h' := g7) fun id o h1 ⟨k, h2⟩ => a4 id o h1 fun j hj => by rw [h2] at hj; cases hj
      have h1 := ho2.isRow
      have hu := IsApp.updA a2
      have hn1 := IsApp.notTup a2
      have hn2 := IsApp.cells a2
      have hs1 := IsApp.subv ho2 1
      unfold edOf z4
      simp (maxSteps := 2000000) (discharger := omega) only [xz,xc,xo,xr,x0,x1,x2,x3,x5,xd,xb,selems,srcElems,wr,place,partVals,partEs,placeEs,Reg.isA,Reg.isV,Reg.stays,Reg.onto,↓reduceIte,Nat.reduceEqDiff,Nat.reduceLT,Nat.reduceAdd,Nat.zero_lt_succ,Nat.reduceBEq,List.set_cons_zero,List.set_cons_succ,nat_le_t,h1,a1',hu,hn1,hn2,List.replicate_succ,List.replicate_zero]
      exact ⟨s4, [], rfl, .inl rfl, ho7, by rw [List.map_append]; exact a2, (hk5.trans hk6.1).trans a3⟩
  clear hq ho2 hk6 hol2 ho6 ho
  rintro r g7 ⟨s4, ex, rfl, hex2, ho, ho2, hk7⟩
  rw [then_n]
  refine wpi_seq (Wp.mono (w_o42l tv sv lv ot' s4 s.nx s.nx x fd2 g7 s.lg r3 (by omega) (by omega) ex hex2) ?_)
  rintro e r g8 ⟨rfl, l3, rfl, ho3, hk8, hol3⟩
  rw [then_n]
  have hoa := IsApp.keepT ho (h' := g8) fun id o h1 ⟨k, h2⟩ => hk8.2 id o h1 fun j hj => by rw [h2] at hj; cases hj
  have hob := IsApp.keepT ho2 (h' := g8) fun id o h1 ⟨k, h2⟩ => hk8.2 id o h1 fun j hj => by rw [h2] at hj; cases hj
  generalize goL x s.lg fd2 [] = A at hone ho3 hol3 ⊢
  obtain ⟨fd3, out3⟩ := A
  simp only at hone ho3 hol3 ⊢
  generalize hq : (if x.k = 5 then out3 ++ [x.f] else out3) = out3' at hone
  refine wpi_seq (wpi_cut (fun r g' => ∃ l4 ex, r = (2, .var (.agg [tv, sv, lv, .int .i64 s.nx])) :: (3, .var (edOf x)) :: (4, .var z4) :: (6, .var (.agg [ot', s4, l4, .int .i64 s.nx])) :: (8, .val (.bool fd3)) :: ex ∧ (ex = [] ∨ ex = [(309, .val (.bool false))]) ∧ IsApp 5 (out'.map tbOf) g' ot' ∧ IsApp 2 (out2'.map srOf) g' s4 ∧ IsApp 1 (out3'.map inOf) g' l4 ∧ KS g g') ?_ ?_)
  · unfold oL
    by_cases k5 : x.k = 5
    · rw [if_pos k5] at hq
      subst hq
      obtain ⟨l4, g9, a1, a2, a3, a4, a6⟩ := app_k (bytes := 8) (xs := [inOf x.f]) ho3 (by simp) (by simp; omega)
      have a1' : appendV false 1 8 l3 [.int .i64 x.f] g8 = some (l4, g9) := a1
      have ho7 := IsApp.keepT hoa (h' := g9) fun id o h1 ⟨k, h2⟩ => a4 id o h1 fun j hj => by rw [h2] at hj; cases hj
      have ho8 := IsApp.keepT hob (h' := g9) fun id o h1 ⟨k, h2⟩ => a4 id o h1 fun j hj => by rw [h2] at hj; cases hj
      have h1 := ho3.isRow
      have hu := IsApp.updA a2
      have hn1 := IsApp.notTup a2
      have hn2 := IsApp.cells a2
      have hs1 := IsApp.subv ho3 1
      unfold edOf z4
      simp (maxSteps := 2000000) (discharger := omega) only [xz,xc,xo,xr,x0,x1,x3,x5,xd,xb,selems,srcElems,wr,partEs,placeEs,Reg.isA,Reg.isV,Reg.stays,Reg.onto,↓reduceIte,Nat.reduceEqDiff,Nat.reduceLT,Nat.reduceAdd,Nat.zero_lt_succ,Nat.reduceBEq,List.set_cons_zero,List.set_cons_succ,int_beq_t,h1,a1',hu,hn1,hn2,List.replicate_succ,List.replicate_zero]
      exact ⟨l4, [], rfl, .inl rfl, ho7, ho8, by rw [List.map_append]; exact a2, (hk7.trans hk8.1).trans a3⟩
    · rw [if_neg k5] at hq
      subst hq
      unfold edOf z4
      simp (maxSteps := 2000000) (discharger := omega) only [xz,xc,xo,xr,x0,x1,xd,Reg.isA,Reg.isV,Reg.stays,Reg.onto,↓reduceIte,Nat.reduceEqDiff,Nat.reduceLT,Nat.reduceBEq,int_beq_f]
      exact ⟨l3, _, rfl, .inr rfl, hoa, hob, ho3, hk7.trans hk8.1⟩
  clear hq ho3 hk8 hol3 ho ho2 hoa hob
  rintro r g9 ⟨l4, ex, rfl, hex3, ho, ho2, ho3, hk9⟩
  rw [then_n]
  refine wpi_seq (wpi_cut (fun r g' => ∃ xs, r = (2, .var (.agg [tv, sv, lv, .int .i64 s.nx])) :: xs ∧ (xs = [(4, .var z4), (6, .var (.agg [ot', s4, l4, .int .i64 (if x.k = 7 then x.f else s.nx)])), (8, .val (.bool fd3))] ∨ xs = [(3, .var (edOf x)), (4, .var z4), (6, .var (.agg [ot', s4, l4, .int .i64 (if x.k = 7 then x.f else s.nx)])), (8, .val (.bool fd3)), (319, .val (.bool false))]) ∧ g9 = g') ?_ ?_)
  · by_cases k7 : x.k = 7
    · rw [if_pos k7]
      unfold edOf z4
      rcases hex3 with rfl | rfl <;> simp (maxSteps := 2000000) (discharger := omega) only [xz,xc,xo,xr,x0,x1,x5,xd,wr,Reg.isA,Reg.isV,Reg.stays,Reg.onto,↓reduceIte,Nat.reduceEqDiff,Nat.reduceLT,Nat.reduceAdd,Nat.reduceBEq,xu,List.set_cons_zero,List.set_cons_succ,int_beq_t] <;> exact ⟨_, rfl, .inl rfl⟩
    · rw [if_neg k7]
      unfold edOf z4
      rcases hex3 with rfl | rfl <;> simp (maxSteps := 2000000) (discharger := omega) only [xz,xc,xo,xr,x0,x1,xd,Reg.isA,Reg.isV,Reg.stays,Reg.onto,↓reduceIte,Nat.reduceEqDiff,Nat.reduceLT,Nat.reduceBEq,int_beq_f] <;> exact ⟨_, rfl, .inr rfl⟩
  rintro r g' ⟨xs, rfl, hxs, rfl⟩
  rw [then_n]
  cases fd3 with
  | false =>
    simp only [Bool.false_eq_true,if_false] at hone
    have fin : OnePost s x g (.tup [.agg [tv, sv, lv, .int .i64 s.nx], .int .i64 9]) g9 := ⟨hk9, _, by rw [hone], by rw [hone]; exact hs0⟩
    rcases hxs with rfl | rfl <;> unfold z4 <;> simp (maxSteps := 2000000) (discharger := omega) only [xz,xc,xo,xr,x0,x2,x5,xd,wr,Reg.isA,Reg.isV,Reg.stays,Reg.onto,↓reduceIte,Nat.reduceEqDiff,Nat.reduceLT,Nat.reduceAdd,exists_eq_left',xu,nat_le_t] <;> exact fin
  | true =>
    simp only [if_true] at hone
    have fin : OnePost s x g (.tup [.agg [ot', s4, l4, .int .i64 (if x.k = 7 then x.f else s.nx)], .int .i64 0]) g9 := ⟨hk9, _, by rw [hone], by rw [hone]; exact ⟨ot', s4, l4, rfl, isRd_app ho, isRd_app ho2, isRd_app ho3⟩⟩
    generalize (if x.k = 7 then x.f else s.nx) = nn at fin hxs
    rcases hxs with rfl | rfl <;> unfold z4 <;> simp (maxSteps := 2000000) (discharger := omega) only [xz,xc,xo,xr,x0,x2,x5,xd,wr,Reg.isA,Reg.isV,Reg.stays,Reg.onto,↓reduceIte,Nat.reduceEqDiff,Nat.reduceLT,Nat.reduceAdd,exists_eq_left',xu,nat_le_t] <;> exact fin
end
end Go.Proofs.Ytlognommhffmcaa.Im

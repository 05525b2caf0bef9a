/- Joined: S21Fd, S21Df, S21Bo, S21Be, S21Bu, S21St. -/
import Derived.Test.YtpgmohjmpaifbaaDoorBd
import Derived.Test.YtpgmohjmpaifbaaDoorDp
import Derived.Test.YtpgmohjmpaifbaaDoorEq
import Derived.Test.YtpgmohjmpaifbaaDoorImSort2
import Derived.Test.YtpgmohjmpaifbaaDoorImRow
import Derived.Test.YtpgmohjmpaifbaaDoorImStab
/- S21Fd: the law TreeFinds. -/
set_option linter.unusedVariables false
set_option linter.unusedSimpArgs false
open Go Go.Im
namespace Go.Proofs.YtpgmohjmpaifbaaDoor.Im
section
variable {n : Nat} {tot : Bool} {ω : Nat → Nat} {h : Hp}
theorem f10 : F 10 = some (.inr yesG) := by kernel_rfl
theorem c10 (hn : 0 < n) : call F n tot ω 10 [] h = some (.bool true, h) := by
  obtain ⟨n, rfl⟩ : ∃ m, n = m + 1 := ⟨n - 1, by omega⟩
  rw [call_inr f10]; rfl

theorem chk_zero {fs : List Fl} (h : chk fs = 0) : Tog (psOf fs) := by
  unfold chk at h
  by_cases hT : Tog (psOf fs)
  · exact hT
  · rw [if_neg hT] at h; cases h

end

end Go.Proofs.YtpgmohjmpaifbaaDoor.Im

/- S21Df: the law TreeDiffs. -/
set_option linter.unusedVariables false
set_option linter.unusedSimpArgs false
open Go Go.Im
namespace Go.Proofs.YtpgmohjmpaifbaaDoor.Im

def mir (c : Ch) : Ch := ⟨c.p, c.i, c.w⟩
section
variable {n : Nat} {tot : Bool} {ω : Nat → Nat} {h : Hp}

end

end Go.Proofs.YtpgmohjmpaifbaaDoor.Im

/- S21Bo: plain facts: chunks each once; files in their order. -/
set_option linter.unusedVariables false
set_option linter.unusedSimpArgs false
open Go Go.Im
namespace Go.Proofs.YtpgmohjmpaifbaaDoor.Im

theorem uniq_app (P l1 l2 : List By) : uniq P (l1 ++ l2) = uniq (uniq P l1) l2 := by simp [uniq,List.foldl_append]
theorem addU_key (q : Ky) (P : List By) (p : By) : q ∈ (addU P p).map keyOf ↔ q ∈ P.map keyOf ∨ q = keyOf p := by
  unfold addU
  split
  · rename_i h
    constructor
    · exact fun h1 => .inl h1
    · rintro (h1 | h1)
      · exact h1
      · rw [h1]; exact h
  · rw [List.map_append, List.mem_append]
    simp
theorem uniq_key (q : Ky) : ∀ (l P : List By), q ∈ (uniq P l).map keyOf ↔ q ∈ P.map keyOf ∨ q ∈ l.map keyOf
  | [], P => by simp [uniq]
  | p :: l, P => by
    show q ∈ (uniq (addU P p) l).map keyOf ↔ _
    rw [uniq_key q l, addU_key, List.map_cons, List.mem_cons]
    constructor
    · rintro ((h | h) | h)
      · exact .inl h
      · exact .inr (.inl h)
      · exact .inr (.inr h)
    · rintro (h | h | h)
      · exact .inl (.inl h)
      · exact .inl (.inr h)
      · exact .inr h
theorem uniq_mem (q : By) : ∀ (l P : List By), q ∈ uniq P l → q ∈ P ∨ q ∈ l
  | [], P, h => .inl h
  | p :: l, P, h => by
    have h : q ∈ uniq (addU P p) l := h
    rcases uniq_mem q l _ h with h | h
    · unfold addU at h
      split at h
      · exact .inl h
      · rcases List.mem_append.1 h with h | h
        · exact .inl h
        · rw [List.mem_singleton] at h; exact .inr (by simp [h])
    · exact .inr (by simp [h])
def Fl.pd (f : Fl) : By × By := (f.p, f.d)
theorem rise_fl {fs gs : List Fl} (hp : gs.Perm fs) (hs : SrtF gs) (ht : Tog (psOf fs)) : (gs.map Fl.pd).Pairwise fun x y => Op.bytesLess x.1 y.1 = true := by
  have hR : Rising (psOf gs) := (rising_iff (hp.map _) fun j k hj hk hjk => by
    have hj' : j < gs.length := by simpa using hj
    have hk' : k < gs.length := by simpa using hk
    have := hs j k hj' hk' hjk
    simpa [psOf, flLt] using this).2 ht
  refine List.pairwise_iff_getElem.2 fun j k hj hk hjk => ?_
  have hj' : j < gs.length := by simpa using hj
  have hk' : k < gs.length := by simpa using hk
  have := hR.rise j k (by rw [psOf_len]; exact hj') (by rw [psOf_len]; exact hk') hjk
  simpa [psOf, Fl.pd] using this
theorem psOf_pd (fs : List Fl) : psOf fs = (fs.map Fl.pd).map Prod.fst := by simp [psOf,Fl.pd,Function.comp_def]
theorem tog_perm {l l' : List By} (hp : l'.Perm l) (h : Tog l) : Tog l' := by
  rw [tog_iff] at h ⊢
  obtain ⟨h1, h2, h3, h4⟩ := h
  exact ⟨by rw [hp.length_eq]; exact h1, fun p hm => h2 p (hp.mem_iff.1 hm), hp.nodup_iff.2 h3, fun p hm q hq => h4 p (hp.mem_iff.1 hm) q (hp.mem_iff.1 hq)⟩
theorem srt_eq {fs fs' gs gs' : List Fl} (h0 : (fs'.map Fl.pd).Perm (fs.map Fl.pd)) (hp : gs.Perm fs) (hp' : gs'.Perm fs') (hs : SrtF gs) (hs' : SrtF gs') (ht : Tog (psOf fs)) : gs'.map Fl.pd = gs.map Fl.pd := by
  have ht' : Tog (psOf fs') := tog_perm (by rw [psOf_pd, psOf_pd]; exact h0.map _) ht
  refine List.Perm.eq_of_pairwise (le := fun x y => Op.bytesLess x.1 y.1 = true) (fun a b _ _ h1 h2 => ?_) (rise_fl hp' hs' ht') (rise_fl hp hs ht) (((hp'.map _).trans h0).trans (hp.map _).symm)
  rw [bl_asymm h1] at h2
  cases h2
open Classical in
theorem chk_perm {fs fs' : List Fl} (h0 : (fs'.map Fl.pd).Perm (fs.map Fl.pd)) : chk fs' = chk fs := by
  have h1 : Tog (psOf fs') ↔ Tog (psOf fs) := by
    have : (psOf fs').Perm (psOf fs) := by rw [psOf_pd, psOf_pd]; exact h0.map _
    exact ⟨tog_perm this.symm, tog_perm this⟩
  have h2 : szOf fs' = szOf fs := by
    have e : ∀ l : List Fl, szOf l = ((l.map Fl.pd).map fun x => x.2.length).sum := fun l => by simp [szOf,Fl.pd,Function.comp_def]
    rw [e, e]
    exact (h0.map _).sum_nat
  unfold chk
  rw [h2]
  by_cases h : Tog (psOf fs)
  · rw [if_pos h, if_pos (h1.2 h)]
  · rw [if_neg h, if_neg fun x => h (h1.1 x)]
end Go.Proofs.YtpgmohjmpaifbaaDoor.Im

/- S21Be: the reference's tree of files, told in full. -/
set_option linter.unusedVariables false
set_option linter.unusedSimpArgs false
open Go Go.Im
namespace Go.Proofs.YtpgmohjmpaifbaaDoor.Im
def Lf.pp (x : Lf) : By × List Pt := (x.p, x.ps)
def Fl.pp (l m M : Int) (f : Fl) : By × List Pt := (f.p, partsR l m M f.d)
section
variable {n : Nat} {tot : Bool} {ω : Nat → Nat} {h : Hp}

end
end Go.Proofs.YtpgmohjmpaifbaaDoor.Im

/- S21Bu: conf, copied, the reference's Same. -/
set_option linter.unusedVariables false
set_option linter.unusedSimpArgs false
open Go Go.Im
namespace Go.Proofs.YtpgmohjmpaifbaaDoor.Im
section
variable {n : Nat} {tot : Bool} {ω : Nat → Nat} {h : Hp}

theorem cf_of (y0 y1 y2 y3 y4 y5 y6 y7 y11 : AV) (l m M : Int) : Cf (.agg [y0, y1, y2, y3, y4, y5, y6, y7, .int .i64 l, .int .i64 m, .int .i64 M, y11]) l m M := ⟨_, rfl, rfl, rfl, rfl, rfl⟩
theorem c16e (y0 y1 y2 y3 y4 y5 y6 y7 y11 : AV) (l m M : Int) (hy : y0.notTup = true) (hn : 0 < n) :
    ∃ y l' m' M', call F n tot ω 16 [.agg [y0, y1, y2, y3, y4, y5, y6, y7, .int .i64 l, .int .i64 m, .int .i64 M, y11]] h = some (.agg [y0, y1, y2, y3, y4, y5, y6, y7, .int .i64 l', .int .i64 m', .int .i64 M', y], h) ∧ okConf l' m' M' := by
  obtain ⟨n, rfl⟩ : ∃ m, n = m + 1 := ⟨n - 1, by omega⟩
  obtain ⟨a1, a2⟩ := wrap64_tmod l 64 (by decide)
  obtain ⟨b1, b2⟩ := wrap64_tmod m 256 (by decide)
  obtain ⟨d1, d2⟩ := wrap64_tmod M 512 (by decide)
  obtain ⟨tl, htl⟩ : ∃ tl, (IntKind.u64.wrap l).tmod 64 = tl := ⟨_, rfl⟩
  obtain ⟨tm, htm⟩ : ∃ tm, (IntKind.u64.wrap m).tmod 256 = tm := ⟨_, rfl⟩
  obtain ⟨tM, htM⟩ : ∃ tM, (IntKind.u64.wrap M).tmod 512 = tM := ⟨_, rfl⟩
  rw [htl] at a1 a2
  rw [htm] at b1 b2
  rw [htM] at d1 d2
  suffices hx : ∃ u h', call F (n + 1) tot ω 16 [.agg [y0, y1, y2, y3, y4, y5, y6, y7, .int .i64 l, .int .i64 m, .int .i64 M, y11]] h = some (u, h') ∧ h' = h ∧ u = .agg [y0, y1, y2, y3, y4, y5, y6, y7, .int .i64 (1 + tl), .int .i64 (1 + tm), .int .i64 (1 + tl + tM), y11] by
    obtain ⟨u, h', e1, rfl, rfl⟩ := hx
    exact ⟨_, _, _, _, e1, by unfold okConf; omega⟩
  refine call_of (fn := a16) f16 (P := fun u h' => h' = h ∧ u = .agg [y0, y1, y2, y3, y4, y5, y6, y7, .int .i64 (1 + tl), .int .i64 (1 + tm), .int .i64 (1 + tl + tM), y11]) ?_
  unfold a16
  simp (maxSteps := 2000000) (discharger := omega) only [xz,xc,xo,xr,x0,x1,x2,x5,xd,wr,Reg.isA,Reg.isV,Reg.stays,Reg.onto,↓reduceIte,reduceCtorEq,Nat.reduceEqDiff,Nat.reduceLT,Nat.reduceAdd,exists_eq_left',Nat.reduceBEq,xu,List.set_cons_zero,List.set_cons_succ,wrap_i64,int_eq_f,nat_le_t,htl,htm,htM]

theorem copy_ok (d : By) (v : AV) (hv : IsRd 1 (bytesOf d) v) (hd : d.length ≤ 1000000) (g : Hp) :
    ∃ v' g', appendV false 1 1 (.imm 1 [] .full) (bytesOf d) g = some (v', g') ∧ IsRd 1 (bytesOf d) v' ∧ (∃ m, g' = g ++ m) ∧ v'.isRow = false := by
  by_cases h0 : bytesOf d = []
  · rw [h0]; exact ⟨.imm 1 [] .full, g, by simp [appendV], .inr ⟨_, rfl⟩, ⟨[], by simp⟩, rfl⟩
  · refine ⟨.imm 1 (bytesOf d) (.tok g.length (bytesOf d).length), g ++ [.tail 1 (bytesOf d).length], ?_, .inr ⟨_, rfl⟩, ⟨_, rfl⟩, rfl⟩
    simp only [appendV,if_neg h0,Im.newRow,Bool.false_eq_true,if_false,List.nil_append,List.length_nil,Nat.zero_add,Nat.mul_one,bytesOf_len]
    rw [if_pos ⟨trivial, by omega⟩]

theorem c17 (a : AV) (fs : List Fl) (ha : IsRd 2 (fs.map Fl.av) a) (hok : ∀ f ∈ fs, f.ok) (hf : Few fs) (hn : 400 < n) :
    ∃ (v : AV) (h' : Hp) (fs' : List Fl), call F n tot ω 17 [a] h = some (v, h') ∧ IsRd 2 (fs'.map Fl.av) v ∧ (∀ f ∈ fs', f.ok) ∧ fs'.map Fl.pd = fs.map Fl.pd := by
  obtain ⟨n, rfl⟩ : ∃ m, n = m + 1 := ⟨n - 1, by omega⟩
  suffices hx : ∃ v h', call F (n + 1) tot ω 17 [a] h = some (v, h') ∧ ∃ fs' : List Fl, IsRd 2 (fs'.map Fl.av) v ∧ (∀ f ∈ fs', f.ok) ∧ fs'.map Fl.pd = fs.map Fl.pd by
    obtain ⟨v, h', e1, fs', e2⟩ := hx
    exact ⟨v, h', fs', e1, e2⟩
  refine call_of (fn := a17) f17 (P := fun v h' => ∃ fs' : List Fl, IsRd 2 (fs'.map Fl.av) v ∧ (∀ f ∈ fs', f.ok) ∧ fs'.map Fl.pd = fs.map Fl.pd) ?_
  have hnum := hf.num
  have hlen := ha.len
  rw [List.length_map] at hlen
  unfold a17
  simp (maxSteps := 2000000) (discharger := omega) only [xz,xc,xo,xr,x0,Reg.isA,Reg.isV,Reg.stays,Reg.onto,↓reduceIte,reduceCtorEq,Nat.reduceEqDiff,Nat.reduceLT]
  refine wpi_loop (fun x r g => ∃ (i : Nat) (lv : AV) (fs' : List Fl), r = [(0, .val a), (3, .val lv), (4, .val (.int .i64 i))] ∧ x = fs.length - i ∧ i ≤ fs.length ∧
    IsApp 2 (fs'.map Fl.av) g lv ∧ (∀ f ∈ fs', f.ok) ∧ fs'.map Fl.pd = (fs.take i).map Fl.pd) fs.length (by omega)
    ⟨0, .nils, [], rfl, rfl, Nat.zero_le _, .nils _ _, by simp, rfl⟩ ?_
  rintro x r g ⟨i, lv, fs', rfl, rfl, hi, hA, hk, hm⟩
  have hl' : fs'.length = i := by
    have := congrArg List.length hm
    simpa [Nat.min_eq_left hi] using this
  by_cases hlt : i < fs.length
  · obtain ⟨cv, rfl⟩ := ha.imm (i := i) (by simpa using hlt)
    have q5 := fl_get hlt
    have hfo := hok _ (List.getElem_mem hlt)
    have hfd := hf.data _ (List.getElem_mem hlt)
    have q7 := fl_sub hfo 1
    have hel := fun g => rd_el hfo g
    have htk : fs.take (i + 1) = fs.take i ++ [fs[i]] := List.take_succ_eq_append_getElem hlt
    generalize fs[i] = f at *
    obtain ⟨v', g1, w1, w2, ⟨mm, w3⟩, w4⟩ := copy_ok f.d f.v hfo (by omega) g
    have w5 := rd_nt w2
    have w6 := rd_cells w2
    have hA1 : IsApp 2 (fs'.map Fl.av) g1 lv := by
      subst w3
      rcases hA with e | e | ⟨id, e, e2⟩
      · exact .inl e
      · exact .inr (.inl e)
      · exact .inr (.inr ⟨id, e, by rw [List.getElem?_append_left (List.getElem?_eq_some_iff.1 e2).1]; exact e2⟩)
    obtain ⟨lv', h2, z1, z2, z3, z4, _⟩ := app_ok (bytes := 40) (xs := [.agg [.str f.p, v']]) hA1 (by simp) (by simp; omega)
    have hv : f.v = .nils ∨ ∃ c, f.v = .imm 1 (bytesOf f.d) c := by
      rcases hfo with ⟨e, _⟩ | ⟨c, e⟩
      · exact .inl e
      · exact .inr ⟨c, e⟩
    rcases hv with hv | ⟨c, hv⟩ <;> rw [hv] at q5 q7 hel
    all_goals
      simp (maxSteps := 2000000) (discharger := omega) only [xz,xc,xo,xr,x0,x1,x3,x4,x5,xd,xb,selems,srcElems,place,partVals,partEs,placeEs,Reg.isA,Reg.isV,Reg.stays,Reg.onto,↓reduceIte,reduceCtorEq,Nat.reduceEqDiff,Nat.reduceLT,Nat.reduceAdd,Nat.zero_lt_succ,List.set_cons_zero,wrap_i64,int_lt_t,int_le_t,nat_le_t,hlen,q5,q7,List.replicate,hel,w1,w5,w6,z1,hA.isRow]
      refine ⟨fs.length - (i + 1), by omega, i + 1, lv', fs' ++ [⟨f.p, f.d, v'⟩], by rw [show ((i : Nat) : Int) + 1 = ((i + 1 : Nat) : Int) by omega], rfl, by omega, by rw [List.map_append]; exact z2, fun x hx => ?_, by rw [htk, List.map_append, List.map_append, hm]; rfl⟩
      rcases List.mem_append.1 hx with hx | hx
      · exact hk x hx
      · rw [List.mem_singleton] at hx
        subst hx
        exact w2
  · obtain rfl : i = fs.length := by omega
    rw [List.take_length] at hm
    simp (maxSteps := 2000000) (discharger := omega) only [xz,xc,xo,xr,x0,x1,x4,xd,Reg.isA,Reg.isV,Reg.stays,Reg.onto,↓reduceIte,reduceCtorEq,Nat.reduceEqDiff,Nat.reduceLT,exists_eq_left',int_lt_f,Nat.sub_self,hlen]
    exact ⟨fs', isRd_app hA, hk, hm⟩

theorem c20 (ks ls : List Lf) (a b : AV) (ha : IsRd 2 (ks.map Lf.av) a) (hb : IsRd 2 (ls.map Lf.av) b) (hk : ∀ x ∈ ks, x.ok ∧ x.ps.length ≤ 1000000) (hl : ∀ x ∈ ls, x.ok ∧ x.ps.length ≤ 1000000) (he : ks.map Lf.pp = ls.map Lf.pp) (hll : ks.length ≤ 1000000) (hn : 2000000 < n) :
    call F n tot ω 20 [a, b] h = some (.bool true, h) := by
  obtain ⟨n, rfl⟩ : ∃ m, n = m + 1 := ⟨n - 1, by omega⟩
  refine call_eq (fn := a20) f20 ?_
  have la := ha.len
  have lb := hb.len
  have hle : ks.length = ls.length := by have := congrArg List.length he; simpa using this
  rw [List.length_map] at la
  rw [List.length_map, ← hle] at lb
  unfold a20
  simp (maxSteps := 2000000) (discharger := omega) only [xz,xc,xo,xr,x0,x1,x4,xd,Reg.isA,Reg.isV,Reg.stays,Reg.onto,↓reduceIte,reduceCtorEq,Nat.reduceEqDiff,Nat.reduceLT,Nat.reduceAdd,int_bne_f,la,lb]
  refine wpi_loop (fun x r g => ∃ (i : Nat), r = [(0, .val a), (1, .val b), (5, .val (.int .i64 i))] ∧ x = ks.length - i ∧ i ≤ ks.length ∧ g = h) ks.length (by omega)
    ⟨0, rfl, rfl, Nat.zero_le _, rfl⟩ ?_
  rintro x r g ⟨i, rfl, rfl, hi, rfl⟩
  by_cases hlt : i < ks.length
  · obtain ⟨ca, rfl⟩ := lfs_el ha hlt
    obtain ⟨cb, rfl⟩ := lfs_el hb (i := i) (by omega)
    have q1 := lf_get hlt
    have q2 := lf_get (ls := ls) (i := i) (by omega)
    obtain ⟨k1, k2⟩ := hk _ (List.getElem_mem hlt)
    obtain ⟨l1, l2⟩ := hl _ (List.getElem_mem (show i < ls.length by omega))
    have e := congrArg (·[i]?) he
    have hlt2 : i < ls.length := by omega
    simp only [List.getElem?_map,List.getElem?_eq_getElem hlt,List.getElem?_eq_getElem hlt2,Option.map_some,Option.some.injEq,Lf.pp,Prod.mk.injEq] at e
    obtain ⟨e1, e2⟩ := e
    have s1 := rd_sub k1.1 1
    have s2 := rd_sub l1.1 1
    have k24 := c24 (n := n) (tot := tot) (ω := ω) (h := g) ks[i].ps ls[i].ps ks[i].v ls[i].v k1.1 l1.1 k1.2 l1.2 (by omega) (by omega) (by omega)
    rw [decide_eq_true e2] at k24
    rw [← e1] at q2
    simp (maxSteps := 2000000) (discharger := omega) only [xz,xc,xo,xr,x0,x1,x2,x4,xd,kont_call,Reg.isA,Reg.isV,Reg.stays,Reg.onto,↓reduceIte,reduceCtorEq,Nat.reduceEqDiff,Nat.reduceLT,beq_self_eq_true,wrap_i64,int_lt_t,int_le_t,la,q1,q2,s1,s2,k24]
    exact ⟨ks.length - (i + 1), by omega, i + 1, by rw [show ((i : Nat) : Int) + 1 = ((i + 1 : Nat) : Int) by omega], rfl, by omega⟩
  · obtain rfl : i = ks.length := by omega
    simp (maxSteps := 2000000) (discharger := omega) only [xz,xc,xo,xr,x0,x1,x4,xd,Reg.isA,Reg.isV,Reg.stays,Reg.onto,↓reduceIte,reduceCtorEq,Nat.reduceEqDiff,Nat.reduceLT,exists_eq_left',int_lt_f,Nat.sub_self,la]
end
end Go.Proofs.YtpgmohjmpaifbaaDoor.Im

/- S21St: slices.SortStableFunc: parts that change places, rotations. -/
set_option linter.unusedVariables false
set_option linter.unusedSimpArgs false
set_option linter.unusedSectionVars false
open Go Go.Im Go.Sort
namespace Go.Proofs.YtpgmohjmpaifbaaDoor.Im

structure Cm {α : Type} [Inhabited α] (e : α → AV) (lt : α → α → Bool) (tot : Bool) (ω : Nat → Nat) (B : Nat) (g : FuncId) (fs caps : List AV) (h0 : Hp) (id : Nat) (pre post : List AV) : Prop where
  enc : EncOk true 2 e
  cmp : ∀ n, B < n → ∀ (x y : α) (d : Array α) (h : Hp), Lies h0 id 2 (Full e pre post d) h →
    ∃ (r : Int) (h' : Hp), call F n tot ω g (fs ++ [e x, e y] ++ caps) h = some (.int .i64 r, h') ∧ More h h' ∧ decide (r < 0) = lt x y

theorem toNat_add (a b : Nat) : ((a : Int) + (b : Int)).toNat = a + b := by omega
theorem half_nat (x y : Nat) : ((x : Int) + (y : Int)).fdiv (2 ^ (min 1 (IntKind.bits .u64))) = (((x + y) / 2 : Nat) : Int) := by
  have : (2 : Int) ^ (min 1 (IntKind.bits .u64)) = 2 := by decide
  rw [this, Int.fdiv_eq_ediv_of_nonneg _ (by omega)]; omega

section
variable {α : Type} [Inhabited α] {e : α → AV} {lt : α → α → Bool} {tot : Bool} {ω : Nat → Nat} {B : Nat} {g : FuncId} {fs caps : List AV} {h0 : Hp} {id : Nat} {pre post : List AV}

theorem s_swr (C : Cm e lt tot ω B g fs caps h0 id pre post) (c : Bool) (d : Array α) (a b k n : Nat) (h : Hp) (hd : d.size ≤ 1000000000) (hab : a + k ≤ b) (hb : b + k ≤ d.size)
    (hL : Lies h0 id 2 (Full e pre post d) h) (hn : k + 2 < n) :
    ∃ h' d', call F n tot ω 122 [.row id 2 pre.length d.size c, .int .i64 a, .int .i64 b, .int .i64 k, .fn (.func g) fs caps] h = some (.tup [], h') ∧ Lies h0 id 2 (Full e pre post d') h' ∧ SwR a b k d d' := by
  obtain ⟨n, rfl⟩ : ∃ m, n = m + 1 := ⟨n - 1, by omega⟩
  suffices hx : ∃ v h', call F (n + 1) tot ω 122 [.row id 2 pre.length d.size c, .int .i64 a, .int .i64 b, .int .i64 k, .fn (.func g) fs caps] h = some (v, h') ∧ v = .tup [] ∧ ∃ d', Lies h0 id 2 (Full e pre post d') h' ∧ SwR a b k d d' by
    obtain ⟨v, h', e1, rfl, d', e2⟩ := hx
    exact ⟨h', d', e1, e2⟩
  refine call_of (fn := a122) f122 (P := fun v h' => v = .tup [] ∧ ∃ d', Lies h0 id 2 (Full e pre post d') h' ∧ SwR a b k d d') ?_
  unfold a122
  have hE := C.enc
  simp (maxSteps := 2000000) (discharger := omega) only [xz,xc,xo,xr,x0,Reg.isA,Reg.isV,Reg.stays,Reg.onto,↓reduceIte,reduceCtorEq,Nat.reduceEqDiff,Nat.reduceLT,Nat.reduceAdd]
  refine wpi_loop (fun x r g' => ∃ (i : Nat) (d' : Array α), r = [(0, .val (.row id 2 pre.length d.size c)), (1, .val (.int .i64 a)), (2, .val (.int .i64 b)), (3, .val (.int .i64 k)), (10, .val (.int .i64 i))] ∧
    x = k - i ∧ i ≤ k ∧ Lies h0 id 2 (Full e pre post d') g' ∧ SwR a b i d d') k (by omega) ⟨0, d, rfl, rfl, by omega, hL, .zero⟩ ?_
  rintro x r g' ⟨i, d', rfl, rfl, hik, hL, hS⟩
  have hd' := hS.size
  by_cases hi : i < k
  · have q1 := hL.row
    have q3 := hL.idlt
    simp (maxSteps := 2000000) (discharger := omega) only [xz,xc,xo,xr,x0,x1,x5,xd,wr,Reg.isA,Reg.isV,Reg.stays,Reg.onto,↓reduceIte,reduceCtorEq,Nat.reduceEqDiff,Nat.reduceLT,wrap_i64,int_lt_t,int_le_t,full_get,full_get1,full_set,full_set1,get_set_self,List.set_set,q1,toNat_add,hE.sub,hE.upd,hE.nt,hE.len]
    refine ⟨k - (i + 1), by omega, i + 1, swp d' (a + i) (b + i), by rw [show ((i : Nat) : Int) + 1 = ((i + 1 : Nat) : Int) by omega], rfl, by omega, hL.set, hS.succ (by omega) (by omega)⟩
  · obtain rfl : i = k := by omega
    simp (maxSteps := 2000000) (discharger := omega) only [xz,xc,xo,xr,x0,x1,xd,Reg.isA,Reg.isV,Reg.stays,Reg.onto,↓reduceIte,reduceCtorEq,Nat.reduceEqDiff,Nat.reduceLT,exists_eq_left',int_lt_f]
    exact ⟨d', hL, hS⟩

theorem s_rot (C : Cm e lt tot ω B g fs caps h0 id pre post) (c : Bool) (d : Array α) (a m b n : Nat) (h : Hp) (hd : d.size ≤ 1000000000) (ham : a < m) (hmb : m < b) (hb : b ≤ d.size)
    (hL : Lies h0 id 2 (Full e pre post d) h) (hn : d.size + 5 < n) :
    ∃ h' d', call F n tot ω 119 [.row id 2 pre.length d.size c, .int .i64 a, .int .i64 m, .int .i64 b, .fn (.func g) fs caps] h = some (.tup [], h') ∧ Lies h0 id 2 (Full e pre post d') h' ∧ Rot a m b d d' := by
  obtain ⟨n, rfl⟩ : ∃ m, n = m + 1 := ⟨n - 1, by omega⟩
  suffices hx : ∃ v h', call F (n + 1) tot ω 119 [.row id 2 pre.length d.size c, .int .i64 a, .int .i64 m, .int .i64 b, .fn (.func g) fs caps] h = some (v, h') ∧ v = .tup [] ∧ ∃ d', Lies h0 id 2 (Full e pre post d') h' ∧ Rot a m b d d' by
    obtain ⟨v, h', e1, rfl, d', e2⟩ := hx
    exact ⟨h', d', e1, e2⟩
  refine call_of (fn := a119) f119 (P := fun v h' => v = .tup [] ∧ ∃ d', Lies h0 id 2 (Full e pre post d') h' ∧ Rot a m b d d') ?_
  unfold a119
  have hE := C.enc
  have e1 : (m : Int) - (a : Int) = ((m - a : Nat) : Int) := by omega
  have e2 : (b : Int) - (m : Int) = ((b - m : Nat) : Int) := by omega
  simp (maxSteps := 2000000) (discharger := omega) only [xz,xc,xo,xr,x0,x1,xd,Reg.isA,Reg.isV,Reg.stays,Reg.onto,↓reduceIte,reduceCtorEq,Nat.reduceEqDiff,Nat.reduceLT,Nat.reduceAdd,wrap_i64,e1,e2]
  refine wpi_loop (fun x r g' => ∃ (i j : Nat) (d' : Array α), r = [(0, .val (.row id 2 pre.length d.size c)), (2, .val (.int .i64 m)), (4, .val (.fn (.func g) fs caps)), (10, .val (.int .i64 i)), (11, .val (.int .i64 j))] ∧
    x = i + j ∧ 0 < i ∧ 0 < j ∧ i ≤ m ∧ m + j ≤ d.size ∧ d'.size = d.size ∧ Lies h0 id 2 (Full e pre post d') g' ∧ ∀ dT, Rot (m - i) m (m + j) d' dT → Rot a m b d dT) (m - a + (b - m)) (by omega)
    ⟨m - a, b - m, d, rfl, rfl, by omega, by omega, by omega, by omega, rfl, hL, fun dT hr => by rwa [show m - (m - a) = a by omega, show m + (b - m) = b by omega] at hr⟩ ?_
  rintro x r g' ⟨i, j, d', rfl, rfl, hi0, hj0, him, hmj, hd', hL, hT⟩
  have e3 : (m : Int) - (i : Int) = ((m - i : Nat) : Int) := by omega
  by_cases hij : i = j
  · subst hij
    obtain ⟨h2, d2, hc, hL2, hs⟩ := s_swr C c d' (m - i) m i n g' (by omega) (by omega) (by omega) hL (by omega)
    rw [hd'] at hc
    simp (maxSteps := 2000000) (discharger := omega) only [xz,xc,xo,xr,x0,x1,xd,kont_call,Reg.isA,Reg.isV,Reg.stays,Reg.onto,↓reduceIte,reduceCtorEq,Nat.reduceEqDiff,Nat.reduceLT,exists_eq_left',wrap_i64,int_bne_f,e3,hc]
    exact ⟨d2, hL2, hT d2 (.eq hs him (by omega))⟩
  · by_cases hlt : j < i
    · obtain ⟨h2, d2, hc, hL2, hs⟩ := s_swr C c d' (m - i) m j n g' (by omega) (by omega) (by omega) hL (by omega)
      rw [hd'] at hc
      have e4 : (i : Int) - (j : Int) = ((i - j : Nat) : Int) := by omega
      have hne : ¬ (i : Int) = (j : Int) := by omega
      simp (maxSteps := 2000000) (discharger := omega) only [xz,xc,xo,xr,x0,x1,xd,kont_call,Reg.isA,Reg.isV,Reg.stays,Reg.onto,↓reduceIte,reduceCtorEq,Nat.reduceEqDiff,Nat.reduceLT,wrap_i64,int_lt_t,int_bne_t,e3,e4,hc]
      refine ⟨i - j + j, by omega, i - j, j, d2, rfl, rfl, by omega, by omega, by omega, hmj, by rw [hs.size, hd'], hL2, fun dT hr => hT dT (.gt hs hr hlt him (by omega))⟩
    · obtain ⟨h2, d2, hc, hL2, hs⟩ := s_swr C c d' (m - i) (m + j - i) i n g' (by omega) (by omega) (by omega) hL (by omega)
      rw [hd'] at hc
      have e4 : (j : Int) - (i : Int) = ((j - i : Nat) : Int) := by omega
      have e5 : (m : Int) + (j : Int) - (i : Int) = ((m + j - i : Nat) : Int) := by omega
      have hne : ¬ (i : Int) = (j : Int) := by omega
      simp (maxSteps := 2000000) (discharger := omega) only [xz,xc,xo,xr,x0,x1,xd,kont_call,Reg.isA,Reg.isV,Reg.stays,Reg.onto,↓reduceIte,reduceCtorEq,Nat.reduceEqDiff,Nat.reduceLT,wrap_i64,int_lt_f,int_bne_t,e3,e4,e5,hc]
      refine ⟨i + (j - i), by omega, i, j - i, d2, rfl, rfl, by omega, by omega, by omega, by omega, by rw [hs.size, hd'], hL2, fun dT hr => hT dT (.small hs hr (by omega) him (by omega))⟩

theorem s_ins (C : Cm e lt tot ω B g fs caps h0 id pre post) (c : Bool) (d : Array α) (a b n : Nat) (h : Hp) (hd : d.size ≤ 1000000000) (ha : a ≤ b) (hb : b ≤ d.size)
    (hL : Lies h0 id 2 (Full e pre post d) h) (hn : B + d.size + 5 < n) :
    ∃ h', call F n tot ω 111 [.row id 2 pre.length d.size c, .int .i64 a, .int .i64 b, .fn (.func g) fs caps] h = some (.tup [], h') ∧ Lies h0 id 2 (Full e pre post (insertionSort lt d a b)) h' := by
  obtain ⟨n, rfl⟩ : ∃ m, n = m + 1 := ⟨n - 1, by omega⟩
  suffices hx : ∃ v h', call F (n + 1) tot ω 111 [.row id 2 pre.length d.size c, .int .i64 a, .int .i64 b, .fn (.func g) fs caps] h = some (v, h') ∧ v = .tup [] ∧ Lies h0 id 2 (Full e pre post (insertionSort lt d a b)) h' by
    obtain ⟨v, h', e1, rfl, e2⟩ := hx
    exact ⟨h', e1, e2⟩
  refine call_of (fn := a111) f111 (P := fun v h' => v = .tup [] ∧ Lies h0 id 2 (Full e pre post (insertionSort lt d a b)) h') ?_
  unfold a111
  have hE := C.enc
  simp (maxSteps := 2000000) (discharger := omega) only [xz,xc,xo,xr,x0,x1,xd,Reg.isA,Reg.isV,Reg.stays,Reg.onto,↓reduceIte,reduceCtorEq,Nat.reduceEqDiff,Nat.reduceLT,Nat.reduceAdd,wrap_i64]
  refine wpi_loop (fun k r g' => ∃ (i : Nat) (d' : Array α), r = [(0, .val (.row id 2 pre.length d.size c)), (1, .val (.int .i64 a)), (2, .val (.int .i64 b)), (3, .val (.fn (.func g) fs caps)), (8, .val (.int .i64 i))] ∧
    k = b - i ∧ a < i ∧ Lies h0 id 2 (Full e pre post d') g' ∧ d'.size = d.size ∧ insOuter lt a b i d' = insertionSort lt d a b) (b - (a + 1)) (by omega) ⟨a + 1, d, rfl, rfl, by omega, hL, rfl, rfl⟩ ?_
  rintro k r g' ⟨i, d', rfl, rfl, hai, hL, hd', hf⟩
  by_cases hib : i < b
  · simp (maxSteps := 2000000) (discharger := omega) only [xz,xc,xo,xr,x0,x1,xd,Reg.isA,Reg.isV,Reg.stays,Reg.onto,↓reduceIte,reduceCtorEq,Nat.reduceEqDiff,Nat.reduceLT,int_lt_t]
    rw [insOuter_lt hib] at hf
    refine wpi_loop (fun k r g' => ∃ (j : Nat) (d2 : Array α), r = [(0, .val (.row id 2 pre.length d.size c)), (1, .val (.int .i64 a)), (2, .val (.int .i64 b)), (3, .val (.fn (.func g) fs caps)), (8, .val (.int .i64 i)), (9, .val (.int .i64 j))] ∧
      k = j ∧ a ≤ j ∧ j < b ∧ Lies h0 id 2 (Full e pre post d2) g' ∧ d2.size = d.size ∧ insInner lt a j d2 = insInner lt a i d') i (by omega) ⟨i, d', rfl, rfl, by omega, hib, hL, hd', rfl⟩ ?_
    rintro j r g' ⟨_, d2, rfl, rfl, haj, hjb, hL, hd2, hf2⟩
    by_cases hja : a < j
    · obtain ⟨rr, g2, hc1, hc2, hc3⟩ := C.cmp n (by omega) d2[j]! d2[j - 1]! d2 _ hL
      have hL2 := hL.more hc2
      have q1 := hL.row
      have q2 := hL2.row
      have q3 := hL2.idlt
      have hj4 : (((j : Nat) : Int) - 1).toNat = j - 1 := by omega
      obtain ⟨j, rfl⟩ : ∃ i, j = i + 1 := ⟨j - 1, by omega⟩
      simp only [Nat.add_sub_cancel] at hc1 hc3 hj4
      rw [insInner_succ] at hf2
      rw [← hc3] at hf2
      by_cases hr : rr < 0
      · simp (maxSteps := 2000000) (discharger := omega) only [xz,xc,xo,xr,x0,x1,x5,xd,kont_call,wr,Reg.isA,Reg.isV,Reg.stays,Reg.onto,↓reduceIte,reduceCtorEq,Nat.reduceEqDiff,Nat.reduceLT,beq_self_eq_true,wrap_i64,int_lt_t,int_le_t,full_get,full_get1,full_set,full_set1,get_set_self,List.set_set,q1,q2,hj4,hc1,hr,hE.sub,hE.upd,hE.nt,hE.len]
        refine ⟨j, by omega, j, swp d2 (j + 1) j, by rw [show ((j + 1 : Nat) : Int) - 1 = (j : Int) by omega], rfl, by omega, by omega, hL2.set, by rw [Im.swp_size]; exact hd2, ?_⟩
        rw [← hf2, if_pos]
        simp [hr,hja]
      · simp (maxSteps := 2000000) (discharger := omega) only [xz,xc,xo,xr,x0,x1,xd,kont_call,Reg.isA,Reg.isV,Reg.stays,Reg.onto,↓reduceIte,reduceCtorEq,Nat.reduceEqDiff,Nat.reduceLT,beq_self_eq_true,wrap_i64,int_lt_t,int_le_t,full_get,q1,hj4,hc1,hr,hE.sub]
        refine ⟨b - (i + 1), by omega, i + 1, d2, rfl, rfl, by omega, hL2, hd2, ?_⟩
        rw [if_neg] at hf2
        · rw [hf2]; exact hf
        · simp [hr]
    · simp (maxSteps := 2000000) (discharger := omega) only [xz,xc,xo,xr,x0,x1,xd,xb,Reg.isA,Reg.isV,Reg.stays,Reg.onto,↓reduceIte,reduceCtorEq,Nat.reduceEqDiff,Nat.reduceLT,wrap_i64,int_lt_f]
      refine ⟨b - (i + 1), by omega, i + 1, d2, rfl, rfl, by omega, hL, hd2, ?_⟩
      have : insInner lt a j d2 = d2 := by
        cases j with
        | zero => rfl
        | succ j => unfold insInner; rw [if_neg]; simp; omega
      rw [this] at hf2
      rw [hf2]; exact hf
  · simp (maxSteps := 2000000) (discharger := omega) only [xz,xc,xo,xr,x0,x1,xd,Reg.isA,Reg.isV,Reg.stays,Reg.onto,↓reduceIte,reduceCtorEq,Nat.reduceEqDiff,Nat.reduceLT,exists_eq_left',int_lt_f]
    rw [insOuter_ge hib] at hf
    rw [← hf]; exact hL
end
end Go.Proofs.YtpgmohjmpaifbaaDoor.Im

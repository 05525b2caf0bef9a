/- Joined: S21Bo, S21Be, S21Bu, S21St, S21Sm, S21Ss, S21Fi. -/
import Derived.Test.YtpgmohjmpaifbaaDoorDf
import Derived.Test.YtpgmohjmpaifbaaDoorEq
import Derived.Test.YtpgmohjmpaifbaaDoorImSort2
import Derived.Test.YtpgmohjmpaifbaaDoorImRow
import Derived.Test.YtpgmohjmpaifbaaDoorImStab
import Derived.Test.YtpgmohjmpaifbaaDoorCa
/- S21Bo: plain facts: chunks each once; files in their order. -/
set_option linter.unusedVariables false
set_option linter.unusedSimpArgs false
open Go Go.Im
namespace Go.Proofs.YtpgmohjmpaifbaaDoor.Im

theorem uniq_app (P l1 l2 : List By) : uniq P (l1 ++ l2) = uniq (uniq P l1) l2 := by simp [uniq,List.foldl_append]
theorem uniq_snoc (P l : List By) (p : By) : uniq P (l ++ [p]) = addU (uniq P l) p := by simp [uniq]
theorem uniq_pre : ∀ (l P : List By), P <+: uniq P l
  | [], P => List.prefix_refl _
  | p :: l, P => by
    refine List.IsPrefix.trans ?_ (uniq_pre l (addU P p))
    unfold addU
    split
    · exact List.prefix_refl _
    · exact List.prefix_append _ _
def Fl.pd (f : Fl) : By × By := (f.p, f.d)
theorem rise_fl {fs gs : List Fl} (hp : gs.Perm fs) (hs : SrtF gs) (ht : Tog (psOf fs)) : (gs.map Fl.pd).Pairwise fun x y => Op.bytesLess x.1 y.1 = true := by
  have hR : Rising (psOf gs) := (rising_iff (hp.map _) fun j k hj hk hjk => by
    have hj' : j < gs.length := by simpa using hj
    have hk' : k < gs.length := by simpa using hk
    have := hs j k hj' hk' hjk
    simpa [psOf, flLt] using this).2 ht
  refine List.pairwise_iff_getElem.2 fun j k hj hk hjk => ?_
  have hj' : j < gs.length := by simpa using hj
  have hk' : k < gs.length := by simpa using hk
  have := hR.rise j k (by rw [psOf_len]; exact hj') (by rw [psOf_len]; exact hk') hjk
  simpa [psOf, Fl.pd] using this
theorem psOf_pd (fs : List Fl) : psOf fs = (fs.map Fl.pd).map Prod.fst := by simp [psOf,Fl.pd,Function.comp_def]
theorem tog_perm {l l' : List By} (hp : l'.Perm l) (h : Tog l) : Tog l' := by
  rw [tog_iff] at h ⊢
  obtain ⟨h1, h2, h3, h4⟩ := h
  exact ⟨by rw [hp.length_eq]; exact h1, fun p hm => h2 p (hp.mem_iff.1 hm), hp.nodup_iff.2 h3, fun p hm q hq => h4 p (hp.mem_iff.1 hm) q (hp.mem_iff.1 hq)⟩
theorem srt_eq {fs fs' gs gs' : List Fl} (h0 : (fs'.map Fl.pd).Perm (fs.map Fl.pd)) (hp : gs.Perm fs) (hp' : gs'.Perm fs') (hs : SrtF gs) (hs' : SrtF gs') (ht : Tog (psOf fs)) : gs'.map Fl.pd = gs.map Fl.pd := by
  have ht' : Tog (psOf fs') := tog_perm (by rw [psOf_pd, psOf_pd]; exact h0.map _) ht
  refine List.Perm.eq_of_pairwise (le := fun x y => Op.bytesLess x.1 y.1 = true) (fun a b _ _ h1 h2 => ?_) (rise_fl hp' hs' ht') (rise_fl hp hs ht) (((hp'.map _).trans h0).trans (hp.map _).symm)
  rw [bl_asymm h1] at h2
  cases h2
open Classical in
theorem chk_perm {fs fs' : List Fl} (h0 : (fs'.map Fl.pd).Perm (fs.map Fl.pd)) : chk fs' = chk fs := by
  have h1 : Tog (psOf fs') ↔ Tog (psOf fs) := by
    have : (psOf fs').Perm (psOf fs) := by rw [psOf_pd, psOf_pd]; exact h0.map _
    exact ⟨tog_perm this.symm, tog_perm this⟩
  have h2 : szOf fs' = szOf fs := by
    have e : ∀ l : List Fl, szOf l = ((l.map Fl.pd).map fun x => x.2.length).sum := fun l => by simp [szOf,Fl.pd,Function.comp_def]
    rw [e, e]
    exact (h0.map _).sum_nat
  unfold chk
  rw [h2]
  by_cases h : Tog (psOf fs)
  · rw [if_pos h, if_pos (h1.2 h)]
  · rw [if_neg h, if_neg fun x => h (h1.1 x)]
end Go.Proofs.YtpgmohjmpaifbaaDoor.Im

/- S21Be: the reference's tree of files, told in full. -/
set_option linter.unusedVariables false
set_option linter.unusedSimpArgs false
open Go Go.Im
namespace Go.Proofs.YtpgmohjmpaifbaaDoor.Im
def Lf.pp (x : Lf) : By × List Pt := (x.p, x.ps)
def Fl.pp (l m M : Int) (f : Fl) : By × List Pt := (f.p, partsR l m M f.d)
section
variable {n : Nat} {tot : Bool} {ω : Nat → Nat} {h : Hp}

set_option maxHeartbeats 1000000 in
set_option maxRecDepth 100000 in
theorem c21e (c : AV) (l m M : Int) (a : AV) (fs : List Fl) (hc : Cf c l m M) (hm : 1 ≤ m) (hm2 : m ≤ 1000000000) (ha : IsRd 2 (fs.map Fl.av) a) (hok : ∀ f ∈ fs, f.ok) (hd : ∀ f ∈ fs, f.d.length ≤ 1000000) (hl : fs.length ≤ 1000000) (hn : fs.length + 1000400 < n) :
    ∃ (v' : AV) (h' : Hp) (ls : List Lf), call F n tot ω 21 [c, a] h = some (v', h') ∧ IsRd 2 (ls.map Lf.av) v' ∧ Below h.length h h' ∧ ls.length = fs.length ∧ (∃ gs : List Fl, gs.Perm fs ∧ SrtF gs ∧ ls.map Lf.pp = gs.map (Fl.pp l m M)) ∧ ∀ x ∈ ls, x.ok ∧ ∃ f ∈ fs, x.p = f.p ∧ x.ps = partsR l m M f.d := by
  obtain ⟨n, rfl⟩ : ∃ m, n = m + 1 := ⟨n - 1, by omega⟩
  suffices hx : ∃ v' h', call F (n + 1) tot ω 21 [c, a] h = some (v', h') ∧ ∃ ls : List Lf, IsRd 2 (ls.map Lf.av) v' ∧ Below h.length h h' ∧ ls.length = fs.length ∧ (∃ gs : List Fl, gs.Perm fs ∧ SrtF gs ∧ ls.map Lf.pp = gs.map (Fl.pp l m M)) ∧ ∀ x ∈ ls, x.ok ∧ ∃ f ∈ fs, x.p = f.p ∧ x.ps = partsR l m M f.d by
    obtain ⟨v', h', e1, ls, e2⟩ := hx
    exact ⟨v', h', ls, e1, e2⟩
  refine call_of (fn := a21) f21 (P := fun v' h' => ∃ ls : List Lf, IsRd 2 (ls.map Lf.av) v' ∧ Below h.length h h' ∧ ls.length = fs.length ∧ (∃ gs : List Fl, gs.Perm fs ∧ SrtF gs ∧ ls.map Lf.pp = gs.map (Fl.pp l m M)) ∧ ∀ x ∈ ls, x.ok ∧ ∃ f ∈ fs, x.p = f.p ∧ x.ps = partsR l m M f.d) ?_
  obtain ⟨cs, hcs, hcl, h8, h9, h10⟩ := hc.agg
  subst hcs
  have htk : List.take 12 cs = cs := List.take_of_length_le (by omega)
  obtain ⟨gv, m1, gs, k49, hg, hP, hSr⟩ := c49 (n := n) (tot := tot) (ω := ω) (h := h) a fs ha hok hl (by omega)
  have hgl : gs.length = fs.length := hP.length_eq
  have hglen := hg.at.len
  rw [List.length_map] at hglen
  unfold a21
  simp (maxSteps := 2000000) (discharger := omega) only [xz,xc,xo,xr,x0,xd,kont_call,Reg.isA,Reg.isV,Reg.stays,Reg.onto,↓reduceIte,reduceCtorEq,Nat.reduceEqDiff,Nat.reduceLT,Nat.reduceAdd,hcl,k49]
  refine wpi_loop (fun x r g => ∃ (i : Nat) (ov : AV) (ls : List Lf), r = [(2, .var (.agg cs)), (5, .val ov), (6, .val gv), (7, .val (.int .i64 i))] ∧ x = gs.length - i ∧ i ≤ gs.length ∧ LateApp h.length 2 (ls.map Lf.av) g ov ∧ Below h.length h g ∧ RowEx g 2 h.length (gs.map Fl.av) gv ∧ ls.length = i ∧ ls.map Lf.pp = (gs.take i).map (Fl.pp l m M) ∧ ∀ x ∈ ls, x.ok ∧ ∃ f ∈ fs, x.p = f.p ∧ x.ps = partsR l m M f.d) gs.length (by omega)
    ⟨0, .nils, [], rfl, rfl, Nat.zero_le _, late_nils _ _ _, .app _ _ _ (Nat.le_refl _), hg, rfl, rfl, fun x hx => by cases hx⟩ ?_
  rintro x r g ⟨i, ov, ls, rfl, rfl, hi, hA, hB, hR, hli, hlp, hls⟩
  by_cases hlt : i < gs.length
  · rcases hR with ⟨rfl, e0⟩ | ⟨id, rfl, hid, hlo⟩
    · have := congrArg List.length e0
      simp at this
      subst this
      simp at hlt
    · have q1 := fl_get' hlt
      have hmem : gs[i] ∈ fs := hP.mem_iff.1 (List.getElem_mem hlt)
      have of := hok _ hmem
      have t1 := rd_sub of 1
      have hidl := (List.getElem?_eq_some_iff.1 hid).1
      obtain ⟨pv, h2, k25, hpv, hB2⟩ := c25 (n := n) (tot := tot) (ω := ω) (h := g) (.agg cs) l m M gs[i].d gs[i].v hc hm hm2 of (hd _ hmem) (by have := hd _ hmem; omega)
      have t4 := rd_nt hpv
      have t5 := rd_cells hpv
      have hid2 : h2[id]? = some (.row 2 (gs.map Fl.av)) := by rw [hB2.2 id hidl]; exact hid
      obtain ⟨v', h3, w1, w2, w3, w4⟩ := late_app2 (bytes := 40) (xs := [.agg [.str gs[i].p, pv]]) (hA.belw (lo' := 0) hB2) (by have := hB.1; have := hB2.1; omega) (by simp) (by simp; omega)
      have hid3 : RowEx h3 2 h.length (gs.map Fl.av) (.row id 2 0 gs.length false) := .inr ⟨id, by simp, w4 _ _ hid2 rfl, hlo⟩
      simp (maxSteps := 2000000) (discharger := omega) only [xz,xc,xo,xr,x0,x1,x3,x4,x5,xd,xb,kont_call,selems,srcElems,place,partVals,partEs,placeEs,Reg.isA,Reg.isV,Reg.stays,Reg.onto,↓reduceIte,Nat.reduceEqDiff,Nat.reduceLT,Nat.reduceAdd,Nat.zero_lt_succ,List.set_cons_zero,wrap_i64,int_lt_t,int_le_t,nat_le_t,hid,hid2,q1,t4,t5,htk,hcl,w_regionA2,inOrd,List.filterMap_cons,List.filterMap_nil,Is,k25,w1,hA.1.isRow,List.replicate,List.length_map]
      refine ⟨gs.length - (i + 1), by omega, i + 1, v', ls ++ [⟨gs[i].p, partsR l m M gs[i].d, pv⟩], by rw [show ((i : Nat) : Int) + 1 = ((i + 1 : Nat) : Int) by omega], rfl, by omega, by rw [List.map_append]; exact w2, hB.trans ((hB2.low hB.1).trans w3), hid3, by simp [hli], by rw [List.take_succ_eq_append_getElem hlt, List.map_append, List.map_append, hlp]; rfl, fun x hx => ?_⟩
      rcases List.mem_append.1 hx with hx | hx
      · exact hls x hx
      · rw [List.mem_singleton] at hx
        subst hx
        exact ⟨⟨hpv, partsL_ok _ _ _⟩, gs[i], hmem, rfl, rfl⟩
  · obtain rfl : i = gs.length := by omega
    simp (maxSteps := 2000000) (discharger := omega) only [xz,xc,xo,xr,x0,x1,x4,xd,Reg.isA,Reg.isV,Reg.stays,Reg.onto,↓reduceIte,Nat.reduceEqDiff,Nat.reduceLT,exists_eq_left',int_lt_f,Nat.sub_self,hglen]
    rw [List.take_length] at hlp
    exact ⟨ls, isRd_app hA.1, hB, by omega, ⟨gs, hP, hSr, hlp⟩, hls⟩
end
end Go.Proofs.YtpgmohjmpaifbaaDoor.Im

/- S21Bu: conf, copied, the reference's Same. -/
set_option linter.unusedVariables false
set_option linter.unusedSimpArgs false
open Go Go.Im
namespace Go.Proofs.YtpgmohjmpaifbaaDoor.Im
section
variable {n : Nat} {tot : Bool} {ω : Nat → Nat} {h : Hp}

theorem cf_of (y0 y1 y2 y3 y4 y5 y6 y7 y11 : AV) (l m M : Int) : Cf (.agg [y0, y1, y2, y3, y4, y5, y6, y7, .int .i64 l, .int .i64 m, .int .i64 M, y11]) l m M := ⟨_, rfl, rfl, rfl, rfl, rfl⟩
theorem c16e (y0 y1 y2 y3 y4 y5 y6 y7 y11 : AV) (l m M : Int) (hy : y0.notTup = true) (hn : 0 < n) :
    ∃ y l' m' M', call F n tot ω 16 [.agg [y0, y1, y2, y3, y4, y5, y6, y7, .int .i64 l, .int .i64 m, .int .i64 M, y11]] h = some (.agg [y0, y1, y2, y3, y4, y5, y6, y7, .int .i64 l', .int .i64 m', .int .i64 M', y], h) ∧ okConf l' m' M' := by
  obtain ⟨n, rfl⟩ : ∃ m, n = m + 1 := ⟨n - 1, by omega⟩
  obtain ⟨a1, a2⟩ := wrap64_tmod l 64 (by decide)
  obtain ⟨b1, b2⟩ := wrap64_tmod m 256 (by decide)
  obtain ⟨d1, d2⟩ := wrap64_tmod M 512 (by decide)
  obtain ⟨tl, htl⟩ : ∃ tl, (IntKind.u64.wrap l).tmod 64 = tl := ⟨_, rfl⟩
  obtain ⟨tm, htm⟩ : ∃ tm, (IntKind.u64.wrap m).tmod 256 = tm := ⟨_, rfl⟩
  obtain ⟨tM, htM⟩ : ∃ tM, (IntKind.u64.wrap M).tmod 512 = tM := ⟨_, rfl⟩
  rw [htl] at a1 a2
  rw [htm] at b1 b2
  rw [htM] at d1 d2
  suffices hx : ∃ u h', call F (n + 1) tot ω 16 [.agg [y0, y1, y2, y3, y4, y5, y6, y7, .int .i64 l, .int .i64 m, .int .i64 M, y11]] h = some (u, h') ∧ h' = h ∧ u = .agg [y0, y1, y2, y3, y4, y5, y6, y7, .int .i64 (1 + tl), .int .i64 (1 + tm), .int .i64 (1 + tl + tM), y11] by
    obtain ⟨u, h', e1, rfl, rfl⟩ := hx
    exact ⟨_, _, _, _, e1, by unfold okConf; omega⟩
  refine call_of (fn := a16) f16 (P := fun u h' => h' = h ∧ u = .agg [y0, y1, y2, y3, y4, y5, y6, y7, .int .i64 (1 + tl), .int .i64 (1 + tm), .int .i64 (1 + tl + tM), y11]) ?_
  unfold a16
  simp (maxSteps := 2000000) (discharger := omega) only [xz,xc,xo,xr,x0,x1,x2,x5,xd,wr,Reg.isA,Reg.isV,Reg.stays,Reg.onto,↓reduceIte,reduceCtorEq,Nat.reduceEqDiff,Nat.reduceLT,Nat.reduceAdd,exists_eq_left',Nat.reduceBEq,xu,List.set_cons_zero,List.set_cons_succ,wrap_i64,int_eq_f,nat_le_t,htl,htm,htM]

theorem copy_ok (d : By) (v : AV) (hv : IsRd 1 (bytesOf d) v) (hd : d.length ≤ 1000000) (g : Hp) :
    ∃ v' g', appendV false 1 1 (.imm 1 [] .full) (bytesOf d) g = some (v', g') ∧ IsRd 1 (bytesOf d) v' ∧ (∃ m, g' = g ++ m) ∧ v'.isRow = false := by
  by_cases h0 : bytesOf d = []
  · rw [h0]; exact ⟨.imm 1 [] .full, g, by simp [appendV], .inr ⟨_, rfl⟩, ⟨[], by simp⟩, rfl⟩
  · refine ⟨.imm 1 (bytesOf d) (.tok g.length (bytesOf d).length), g ++ [.tail 1 (bytesOf d).length], ?_, .inr ⟨_, rfl⟩, ⟨_, rfl⟩, rfl⟩
    simp only [appendV,if_neg h0,Im.newRow,Bool.false_eq_true,if_false,List.nil_append,List.length_nil,Nat.zero_add,Nat.mul_one,bytesOf_len]
    rw [if_pos ⟨trivial, by omega⟩]

theorem c17 (a : AV) (fs : List Fl) (ha : IsRd 2 (fs.map Fl.av) a) (hok : ∀ f ∈ fs, f.ok) (hf : Few fs) (hn : 400 < n) :
    ∃ (v : AV) (h' : Hp) (fs' : List Fl), call F n tot ω 17 [a] h = some (v, h') ∧ IsRd 2 (fs'.map Fl.av) v ∧ (∀ f ∈ fs', f.ok) ∧ fs'.map Fl.pd = fs.map Fl.pd := by
  obtain ⟨n, rfl⟩ : ∃ m, n = m + 1 := ⟨n - 1, by omega⟩
  suffices hx : ∃ v h', call F (n + 1) tot ω 17 [a] h = some (v, h') ∧ ∃ fs' : List Fl, IsRd 2 (fs'.map Fl.av) v ∧ (∀ f ∈ fs', f.ok) ∧ fs'.map Fl.pd = fs.map Fl.pd by
    obtain ⟨v, h', e1, fs', e2⟩ := hx
    exact ⟨v, h', fs', e1, e2⟩
  refine call_of (fn := a17) f17 (P := fun v h' => ∃ fs' : List Fl, IsRd 2 (fs'.map Fl.av) v ∧ (∀ f ∈ fs', f.ok) ∧ fs'.map Fl.pd = fs.map Fl.pd) ?_
  have hnum := hf.num
  have hlen := ha.len
  rw [List.length_map] at hlen
  unfold a17
  simp (maxSteps := 2000000) (discharger := omega) only [xz,xc,xo,xr,x0,Reg.isA,Reg.isV,Reg.stays,Reg.onto,↓reduceIte,reduceCtorEq,Nat.reduceEqDiff,Nat.reduceLT]
  refine wpi_loop (fun x r g => ∃ (i : Nat) (lv : AV) (fs' : List Fl), r = [(0, .val a), (3, .val lv), (4, .val (.int .i64 i))] ∧ x = fs.length - i ∧ i ≤ fs.length ∧
    IsApp 2 (fs'.map Fl.av) g lv ∧ (∀ f ∈ fs', f.ok) ∧ fs'.map Fl.pd = (fs.take i).map Fl.pd) fs.length (by omega)
    ⟨0, .nils, [], rfl, rfl, Nat.zero_le _, .nils _ _, by simp, rfl⟩ ?_
  rintro x r g ⟨i, lv, fs', rfl, rfl, hi, hA, hk, hm⟩
  have hl' : fs'.length = i := by
    have := congrArg List.length hm
    simpa [Nat.min_eq_left hi] using this
  by_cases hlt : i < fs.length
  · obtain ⟨cv, rfl⟩ := ha.imm (i := i) (by simpa using hlt)
    have q5 := fl_get hlt
    have hfo := hok _ (List.getElem_mem hlt)
    have hfd := hf.data _ (List.getElem_mem hlt)
    have q7 := fl_sub hfo 1
    have hel := fun g => rd_el hfo g
    have htk : fs.take (i + 1) = fs.take i ++ [fs[i]] := List.take_succ_eq_append_getElem hlt
    generalize fs[i] = f at *
    obtain ⟨v', g1, w1, w2, ⟨mm, w3⟩, w4⟩ := copy_ok f.d f.v hfo (by omega) g
    have w5 := rd_nt w2
    have w6 := rd_cells w2
    have hA1 : IsApp 2 (fs'.map Fl.av) g1 lv := by
      subst w3
      rcases hA with e | e | ⟨id, e, e2⟩
      · exact .inl e
      · exact .inr (.inl e)
      · exact .inr (.inr ⟨id, e, by rw [List.getElem?_append_left (List.getElem?_eq_some_iff.1 e2).1]; exact e2⟩)
    obtain ⟨lv', h2, z1, z2, z3, z4, _⟩ := app_ok (bytes := 40) (xs := [.agg [.str f.p, v']]) hA1 (by simp) (by simp; omega)
    have hv : f.v = .nils ∨ ∃ c, f.v = .imm 1 (bytesOf f.d) c := by
      rcases hfo with ⟨e, _⟩ | ⟨c, e⟩
      · exact .inl e
      · exact .inr ⟨c, e⟩
    rcases hv with hv | ⟨c, hv⟩ <;> rw [hv] at q5 q7 hel
    all_goals
      simp (maxSteps := 2000000) (discharger := omega) only [xz,xc,xo,xr,x0,x1,x3,x4,x5,xd,xb,selems,srcElems,place,partVals,partEs,placeEs,Reg.isA,Reg.isV,Reg.stays,Reg.onto,↓reduceIte,reduceCtorEq,Nat.reduceEqDiff,Nat.reduceLT,Nat.reduceAdd,Nat.zero_lt_succ,List.set_cons_zero,wrap_i64,int_lt_t,int_le_t,nat_le_t,hlen,q5,q7,List.replicate,hel,w1,w5,w6,z1,hA.isRow]
      refine ⟨fs.length - (i + 1), by omega, i + 1, lv', fs' ++ [⟨f.p, f.d, v'⟩], by rw [show ((i : Nat) : Int) + 1 = ((i + 1 : Nat) : Int) by omega], rfl, by omega, by rw [List.map_append]; exact z2, fun x hx => ?_, by rw [htk, List.map_append, List.map_append, hm]; rfl⟩
      rcases List.mem_append.1 hx with hx | hx
      · exact hk x hx
      · rw [List.mem_singleton] at hx
        subst hx
        exact w2
  · obtain rfl : i = fs.length := by omega
    rw [List.take_length] at hm
    simp (maxSteps := 2000000) (discharger := omega) only [xz,xc,xo,xr,x0,x1,x4,xd,Reg.isA,Reg.isV,Reg.stays,Reg.onto,↓reduceIte,reduceCtorEq,Nat.reduceEqDiff,Nat.reduceLT,exists_eq_left',int_lt_f,Nat.sub_self,hlen]
    exact ⟨fs', isRd_app hA, hk, hm⟩

theorem c20 (ks ls : List Lf) (a b : AV) (ha : IsRd 2 (ks.map Lf.av) a) (hb : IsRd 2 (ls.map Lf.av) b) (hk : ∀ x ∈ ks, x.ok ∧ x.ps.length ≤ 1000000) (hl : ∀ x ∈ ls, x.ok ∧ x.ps.length ≤ 1000000) (he : ks.map Lf.pp = ls.map Lf.pp) (hll : ks.length ≤ 1000000) (hn : 2000000 < n) :
    call F n tot ω 20 [a, b] h = some (.bool true, h) := by
  obtain ⟨n, rfl⟩ : ∃ m, n = m + 1 := ⟨n - 1, by omega⟩
  refine call_eq (fn := a20) f20 ?_
  have la := ha.len
  have lb := hb.len
  have hle : ks.length = ls.length := by have := congrArg List.length he; simpa using this
  rw [List.length_map] at la
  rw [List.length_map, ← hle] at lb
  unfold a20
  simp (maxSteps := 2000000) (discharger := omega) only [xz,xc,xo,xr,x0,x1,x4,xd,Reg.isA,Reg.isV,Reg.stays,Reg.onto,↓reduceIte,reduceCtorEq,Nat.reduceEqDiff,Nat.reduceLT,Nat.reduceAdd,int_bne_f,la,lb]
  refine wpi_loop (fun x r g => ∃ (i : Nat), r = [(0, .val a), (1, .val b), (5, .val (.int .i64 i))] ∧ x = ks.length - i ∧ i ≤ ks.length ∧ g = h) ks.length (by omega)
    ⟨0, rfl, rfl, Nat.zero_le _, rfl⟩ ?_
  rintro x r g ⟨i, rfl, rfl, hi, rfl⟩
  by_cases hlt : i < ks.length
  · obtain ⟨ca, rfl⟩ := lfs_el ha hlt
    obtain ⟨cb, rfl⟩ := lfs_el hb (i := i) (by omega)
    have q1 := lf_get hlt
    have q2 := lf_get (ls := ls) (i := i) (by omega)
    obtain ⟨k1, k2⟩ := hk _ (List.getElem_mem hlt)
    obtain ⟨l1, l2⟩ := hl _ (List.getElem_mem (show i < ls.length by omega))
    have e := congrArg (·[i]?) he
    have hlt2 : i < ls.length := by omega
    simp only [List.getElem?_map,List.getElem?_eq_getElem hlt,List.getElem?_eq_getElem hlt2,Option.map_some,Option.some.injEq,Lf.pp,Prod.mk.injEq] at e
    obtain ⟨e1, e2⟩ := e
    have s1 := rd_sub k1.1 1
    have s2 := rd_sub l1.1 1
    have k24 := c24 (n := n) (tot := tot) (ω := ω) (h := g) ks[i].ps ls[i].ps ks[i].v ls[i].v k1.1 l1.1 k1.2 l1.2 (by omega) (by omega) (by omega)
    rw [decide_eq_true e2] at k24
    rw [← e1] at q2
    simp (maxSteps := 2000000) (discharger := omega) only [xz,xc,xo,xr,x0,x1,x2,x4,xd,kont_call,Reg.isA,Reg.isV,Reg.stays,Reg.onto,↓reduceIte,reduceCtorEq,Nat.reduceEqDiff,Nat.reduceLT,beq_self_eq_true,wrap_i64,int_lt_t,int_le_t,la,q1,q2,s1,s2,k24]
    exact ⟨ks.length - (i + 1), by omega, i + 1, by rw [show ((i : Nat) : Int) + 1 = ((i + 1 : Nat) : Int) by omega], rfl, by omega⟩
  · obtain rfl : i = ks.length := by omega
    simp (maxSteps := 2000000) (discharger := omega) only [xz,xc,xo,xr,x0,x1,x4,xd,Reg.isA,Reg.isV,Reg.stays,Reg.onto,↓reduceIte,reduceCtorEq,Nat.reduceEqDiff,Nat.reduceLT,exists_eq_left',int_lt_f,Nat.sub_self,la]
end
end Go.Proofs.YtpgmohjmpaifbaaDoor.Im

/- S21St: slices.SortStableFunc: parts that change places, rotations. -/
set_option linter.unusedVariables false
set_option linter.unusedSimpArgs false
set_option linter.unusedSectionVars false
open Go Go.Im Go.Sort
namespace Go.Proofs.YtpgmohjmpaifbaaDoor.Im

structure Cm {α : Type} [Inhabited α] (e : α → AV) (lt : α → α → Bool) (tot : Bool) (ω : Nat → Nat) (B : Nat) (g : FuncId) (fs caps : List AV) (h0 : Hp) (id : Nat) (pre post : List AV) : Prop where
  enc : EncOk true 2 e
  cmp : ∀ n, B < n → ∀ (x y : α) (d : Array α) (h : Hp), Lies h0 id 2 (Full e pre post d) h →
    ∃ (r : Int) (h' : Hp), call F n tot ω g (fs ++ [e x, e y] ++ caps) h = some (.int .i64 r, h') ∧ More h h' ∧ decide (r < 0) = lt x y

theorem toNat_add (a b : Nat) : ((a : Int) + (b : Int)).toNat = a + b := by omega
theorem half_nat (x y : Nat) : ((x : Int) + (y : Int)).fdiv (2 ^ (min 1 (IntKind.bits .u64))) = (((x + y) / 2 : Nat) : Int) := by
  have : (2 : Int) ^ (min 1 (IntKind.bits .u64)) = 2 := by decide
  rw [this, Int.fdiv_eq_ediv_of_nonneg _ (by omega)]; omega

section
variable {α : Type} [Inhabited α] {e : α → AV} {lt : α → α → Bool} {tot : Bool} {ω : Nat → Nat} {B : Nat} {g : FuncId} {fs caps : List AV} {h0 : Hp} {id : Nat} {pre post : List AV}

theorem s_swr (C : Cm e lt tot ω B g fs caps h0 id pre post) (c : Bool) (d : Array α) (a b k n : Nat) (h : Hp) (hd : d.size ≤ 1000000000) (hab : a + k ≤ b) (hb : b + k ≤ d.size)
    (hL : Lies h0 id 2 (Full e pre post d) h) (hn : k + 2 < n) :
    ∃ h' d', call F n tot ω 122 [.row id 2 pre.length d.size c, .int .i64 a, .int .i64 b, .int .i64 k, .fn (.func g) fs caps] h = some (.tup [], h') ∧ Lies h0 id 2 (Full e pre post d') h' ∧ SwR a b k d d' := by
  obtain ⟨n, rfl⟩ : ∃ m, n = m + 1 := ⟨n - 1, by omega⟩
  suffices hx : ∃ v h', call F (n + 1) tot ω 122 [.row id 2 pre.length d.size c, .int .i64 a, .int .i64 b, .int .i64 k, .fn (.func g) fs caps] h = some (v, h') ∧ v = .tup [] ∧ ∃ d', Lies h0 id 2 (Full e pre post d') h' ∧ SwR a b k d d' by
    obtain ⟨v, h', e1, rfl, d', e2⟩ := hx
    exact ⟨h', d', e1, e2⟩
  refine call_of (fn := a122) f122 (P := fun v h' => v = .tup [] ∧ ∃ d', Lies h0 id 2 (Full e pre post d') h' ∧ SwR a b k d d') ?_
  unfold a122
  have hE := C.enc
  simp (maxSteps := 2000000) (discharger := omega) only [xz,xc,xo,xr,x0,Reg.isA,Reg.isV,Reg.stays,Reg.onto,↓reduceIte,reduceCtorEq,Nat.reduceEqDiff,Nat.reduceLT,Nat.reduceAdd]
  refine wpi_loop (fun x r g' => ∃ (i : Nat) (d' : Array α), r = [(0, .val (.row id 2 pre.length d.size c)), (1, .val (.int .i64 a)), (2, .val (.int .i64 b)), (3, .val (.int .i64 k)), (10, .val (.int .i64 i))] ∧
    x = k - i ∧ i ≤ k ∧ Lies h0 id 2 (Full e pre post d') g' ∧ SwR a b i d d') k (by omega) ⟨0, d, rfl, rfl, by omega, hL, .zero⟩ ?_
  rintro x r g' ⟨i, d', rfl, rfl, hik, hL, hS⟩
  have hd' := hS.size
  by_cases hi : i < k
  · have q1 := hL.row
    have q3 := hL.idlt
    simp (maxSteps := 2000000) (discharger := omega) only [xz,xc,xo,xr,x0,x1,x5,xd,wr,Reg.isA,Reg.isV,Reg.stays,Reg.onto,↓reduceIte,reduceCtorEq,Nat.reduceEqDiff,Nat.reduceLT,wrap_i64,int_lt_t,int_le_t,full_get,full_get1,full_set,full_set1,get_set_self,List.set_set,q1,toNat_add,hE.sub,hE.upd,hE.nt,hE.len]
    refine ⟨k - (i + 1), by omega, i + 1, swp d' (a + i) (b + i), by rw [show ((i : Nat) : Int) + 1 = ((i + 1 : Nat) : Int) by omega], rfl, by omega, hL.set, hS.succ (by omega) (by omega)⟩
  · obtain rfl : i = k := by omega
    simp (maxSteps := 2000000) (discharger := omega) only [xz,xc,xo,xr,x0,x1,xd,Reg.isA,Reg.isV,Reg.stays,Reg.onto,↓reduceIte,reduceCtorEq,Nat.reduceEqDiff,Nat.reduceLT,exists_eq_left',int_lt_f]
    exact ⟨d', hL, hS⟩

theorem s_rot (C : Cm e lt tot ω B g fs caps h0 id pre post) (c : Bool) (d : Array α) (a m b n : Nat) (h : Hp) (hd : d.size ≤ 1000000000) (ham : a < m) (hmb : m < b) (hb : b ≤ d.size)
    (hL : Lies h0 id 2 (Full e pre post d) h) (hn : d.size + 5 < n) :
    ∃ h' d', call F n tot ω 119 [.row id 2 pre.length d.size c, .int .i64 a, .int .i64 m, .int .i64 b, .fn (.func g) fs caps] h = some (.tup [], h') ∧ Lies h0 id 2 (Full e pre post d') h' ∧ Rot a m b d d' := by
  obtain ⟨n, rfl⟩ : ∃ m, n = m + 1 := ⟨n - 1, by omega⟩
  suffices hx : ∃ v h', call F (n + 1) tot ω 119 [.row id 2 pre.length d.size c, .int .i64 a, .int .i64 m, .int .i64 b, .fn (.func g) fs caps] h = some (v, h') ∧ v = .tup [] ∧ ∃ d', Lies h0 id 2 (Full e pre post d') h' ∧ Rot a m b d d' by
    obtain ⟨v, h', e1, rfl, d', e2⟩ := hx
    exact ⟨h', d', e1, e2⟩
  refine call_of (fn := a119) f119 (P := fun v h' => v = .tup [] ∧ ∃ d', Lies h0 id 2 (Full e pre post d') h' ∧ Rot a m b d d') ?_
  unfold a119
  have hE := C.enc
  have e1 : (m : Int) - (a : Int) = ((m - a : Nat) : Int) := by omega
  have e2 : (b : Int) - (m : Int) = ((b - m : Nat) : Int) := by omega
  simp (maxSteps := 2000000) (discharger := omega) only [xz,xc,xo,xr,x0,x1,xd,Reg.isA,Reg.isV,Reg.stays,Reg.onto,↓reduceIte,reduceCtorEq,Nat.reduceEqDiff,Nat.reduceLT,Nat.reduceAdd,wrap_i64,e1,e2]
  refine wpi_loop (fun x r g' => ∃ (i j : Nat) (d' : Array α), r = [(0, .val (.row id 2 pre.length d.size c)), (2, .val (.int .i64 m)), (4, .val (.fn (.func g) fs caps)), (10, .val (.int .i64 i)), (11, .val (.int .i64 j))] ∧
    x = i + j ∧ 0 < i ∧ 0 < j ∧ i ≤ m ∧ m + j ≤ d.size ∧ d'.size = d.size ∧ Lies h0 id 2 (Full e pre post d') g' ∧ ∀ dT, Rot (m - i) m (m + j) d' dT → Rot a m b d dT) (m - a + (b - m)) (by omega)
    ⟨m - a, b - m, d, rfl, rfl, by omega, by omega, by omega, by omega, rfl, hL, fun dT hr => by rwa [show m - (m - a) = a by omega, show m + (b - m) = b by omega] at hr⟩ ?_
  rintro x r g' ⟨i, j, d', rfl, rfl, hi0, hj0, him, hmj, hd', hL, hT⟩
  have e3 : (m : Int) - (i : Int) = ((m - i : Nat) : Int) := by omega
  by_cases hij : i = j
  · subst hij
    obtain ⟨h2, d2, hc, hL2, hs⟩ := s_swr C c d' (m - i) m i n g' (by omega) (by omega) (by omega) hL (by omega)
    rw [hd'] at hc
    simp (maxSteps := 2000000) (discharger := omega) only [xz,xc,xo,xr,x0,x1,xd,kont_call,Reg.isA,Reg.isV,Reg.stays,Reg.onto,↓reduceIte,reduceCtorEq,Nat.reduceEqDiff,Nat.reduceLT,exists_eq_left',wrap_i64,int_bne_f,e3,hc]
    exact ⟨d2, hL2, hT d2 (.eq hs him (by omega))⟩
  · by_cases hlt : j < i
    · obtain ⟨h2, d2, hc, hL2, hs⟩ := s_swr C c d' (m - i) m j n g' (by omega) (by omega) (by omega) hL (by omega)
      rw [hd'] at hc
      have e4 : (i : Int) - (j : Int) = ((i - j : Nat) : Int) := by omega
      have hne : ¬ (i : Int) = (j : Int) := by omega
      simp (maxSteps := 2000000) (discharger := omega) only [xz,xc,xo,xr,x0,x1,xd,kont_call,Reg.isA,Reg.isV,Reg.stays,Reg.onto,↓reduceIte,reduceCtorEq,Nat.reduceEqDiff,Nat.reduceLT,wrap_i64,int_lt_t,int_bne_t,e3,e4,hc]
      refine ⟨i - j + j, by omega, i - j, j, d2, rfl, rfl, by omega, by omega, by omega, hmj, by rw [hs.size, hd'], hL2, fun dT hr => hT dT (.gt hs hr hlt him (by omega))⟩
    · obtain ⟨h2, d2, hc, hL2, hs⟩ := s_swr C c d' (m - i) (m + j - i) i n g' (by omega) (by omega) (by omega) hL (by omega)
      rw [hd'] at hc
      have e4 : (j : Int) - (i : Int) = ((j - i : Nat) : Int) := by omega
      have e5 : (m : Int) + (j : Int) - (i : Int) = ((m + j - i : Nat) : Int) := by omega
      have hne : ¬ (i : Int) = (j : Int) := by omega
      simp (maxSteps := 2000000) (discharger := omega) only [xz,xc,xo,xr,x0,x1,xd,kont_call,Reg.isA,Reg.isV,Reg.stays,Reg.onto,↓reduceIte,reduceCtorEq,Nat.reduceEqDiff,Nat.reduceLT,wrap_i64,int_lt_f,int_bne_t,e3,e4,e5,hc]
      refine ⟨i + (j - i), by omega, i, j - i, d2, rfl, rfl, by omega, by omega, by omega, by omega, by rw [hs.size, hd'], hL2, fun dT hr => hT dT (.small hs hr (by omega) him (by omega))⟩

theorem s_ins (C : Cm e lt tot ω B g fs caps h0 id pre post) (c : Bool) (d : Array α) (a b n : Nat) (h : Hp) (hd : d.size ≤ 1000000000) (ha : a ≤ b) (hb : b ≤ d.size)
    (hL : Lies h0 id 2 (Full e pre post d) h) (hn : B + d.size + 5 < n) :
    ∃ h', call F n tot ω 111 [.row id 2 pre.length d.size c, .int .i64 a, .int .i64 b, .fn (.func g) fs caps] h = some (.tup [], h') ∧ Lies h0 id 2 (Full e pre post (insertionSort lt d a b)) h' := by
  obtain ⟨n, rfl⟩ : ∃ m, n = m + 1 := ⟨n - 1, by omega⟩
  suffices hx : ∃ v h', call F (n + 1) tot ω 111 [.row id 2 pre.length d.size c, .int .i64 a, .int .i64 b, .fn (.func g) fs caps] h = some (v, h') ∧ v = .tup [] ∧ Lies h0 id 2 (Full e pre post (insertionSort lt d a b)) h' by
    obtain ⟨v, h', e1, rfl, e2⟩ := hx
    exact ⟨h', e1, e2⟩
  refine call_of (fn := a111) f111 (P := fun v h' => v = .tup [] ∧ Lies h0 id 2 (Full e pre post (insertionSort lt d a b)) h') ?_
  unfold a111
  have hE := C.enc
  simp (maxSteps := 2000000) (discharger := omega) only [xz,xc,xo,xr,x0,x1,xd,Reg.isA,Reg.isV,Reg.stays,Reg.onto,↓reduceIte,reduceCtorEq,Nat.reduceEqDiff,Nat.reduceLT,Nat.reduceAdd,wrap_i64]
  refine wpi_loop (fun k r g' => ∃ (i : Nat) (d' : Array α), r = [(0, .val (.row id 2 pre.length d.size c)), (1, .val (.int .i64 a)), (2, .val (.int .i64 b)), (3, .val (.fn (.func g) fs caps)), (8, .val (.int .i64 i))] ∧
    k = b - i ∧ a < i ∧ Lies h0 id 2 (Full e pre post d') g' ∧ d'.size = d.size ∧ insOuter lt a b i d' = insertionSort lt d a b) (b - (a + 1)) (by omega) ⟨a + 1, d, rfl, rfl, by omega, hL, rfl, rfl⟩ ?_
  rintro k r g' ⟨i, d', rfl, rfl, hai, hL, hd', hf⟩
  by_cases hib : i < b
  · simp (maxSteps := 2000000) (discharger := omega) only [xz,xc,xo,xr,x0,x1,xd,Reg.isA,Reg.isV,Reg.stays,Reg.onto,↓reduceIte,reduceCtorEq,Nat.reduceEqDiff,Nat.reduceLT,int_lt_t]
    rw [insOuter_lt hib] at hf
    refine wpi_loop (fun k r g' => ∃ (j : Nat) (d2 : Array α), r = [(0, .val (.row id 2 pre.length d.size c)), (1, .val (.int .i64 a)), (2, .val (.int .i64 b)), (3, .val (.fn (.func g) fs caps)), (8, .val (.int .i64 i)), (9, .val (.int .i64 j))] ∧
      k = j ∧ a ≤ j ∧ j < b ∧ Lies h0 id 2 (Full e pre post d2) g' ∧ d2.size = d.size ∧ insInner lt a j d2 = insInner lt a i d') i (by omega) ⟨i, d', rfl, rfl, by omega, hib, hL, hd', rfl⟩ ?_
    rintro j r g' ⟨_, d2, rfl, rfl, haj, hjb, hL, hd2, hf2⟩
    by_cases hja : a < j
    · obtain ⟨rr, g2, hc1, hc2, hc3⟩ := C.cmp n (by omega) d2[j]! d2[j - 1]! d2 _ hL
      have hL2 := hL.more hc2
      have q1 := hL.row
      have q2 := hL2.row
      have q3 := hL2.idlt
      have hj4 : (((j : Nat) : Int) - 1).toNat = j - 1 := by omega
      obtain ⟨j, rfl⟩ : ∃ i, j = i + 1 := ⟨j - 1, by omega⟩
      simp only [Nat.add_sub_cancel] at hc1 hc3 hj4
      rw [insInner_succ] at hf2
      rw [← hc3] at hf2
      by_cases hr : rr < 0
      · simp (maxSteps := 2000000) (discharger := omega) only [xz,xc,xo,xr,x0,x1,x5,xd,kont_call,wr,Reg.isA,Reg.isV,Reg.stays,Reg.onto,↓reduceIte,reduceCtorEq,Nat.reduceEqDiff,Nat.reduceLT,beq_self_eq_true,wrap_i64,int_lt_t,int_le_t,full_get,full_get1,full_set,full_set1,get_set_self,List.set_set,q1,q2,hj4,hc1,hr,hE.sub,hE.upd,hE.nt,hE.len]
        refine ⟨j, by omega, j, swp d2 (j + 1) j, by rw [show ((j + 1 : Nat) : Int) - 1 = (j : Int) by omega], rfl, by omega, by omega, hL2.set, by rw [Im.swp_size]; exact hd2, ?_⟩
        rw [← hf2, if_pos]
        simp [hr,hja]
      · simp (maxSteps := 2000000) (discharger := omega) only [xz,xc,xo,xr,x0,x1,xd,kont_call,Reg.isA,Reg.isV,Reg.stays,Reg.onto,↓reduceIte,reduceCtorEq,Nat.reduceEqDiff,Nat.reduceLT,beq_self_eq_true,wrap_i64,int_lt_t,int_le_t,full_get,q1,hj4,hc1,hr,hE.sub]
        refine ⟨b - (i + 1), by omega, i + 1, d2, rfl, rfl, by omega, hL2, hd2, ?_⟩
        rw [if_neg] at hf2
        · rw [hf2]; exact hf
        · simp [hr]
    · simp (maxSteps := 2000000) (discharger := omega) only [xz,xc,xo,xr,x0,x1,xd,xb,Reg.isA,Reg.isV,Reg.stays,Reg.onto,↓reduceIte,reduceCtorEq,Nat.reduceEqDiff,Nat.reduceLT,wrap_i64,int_lt_f]
      refine ⟨b - (i + 1), by omega, i + 1, d2, rfl, rfl, by omega, hL, hd2, ?_⟩
      have : insInner lt a j d2 = d2 := by
        cases j with
        | zero => rfl
        | succ j => unfold insInner; rw [if_neg]; simp; omega
      rw [this] at hf2
      rw [hf2]; exact hf
  · simp (maxSteps := 2000000) (discharger := omega) only [xz,xc,xo,xr,x0,x1,xd,Reg.isA,Reg.isV,Reg.stays,Reg.onto,↓reduceIte,reduceCtorEq,Nat.reduceEqDiff,Nat.reduceLT,exists_eq_left',int_lt_f]
    rw [insOuter_ge hib] at hf
    rw [← hf]; exact hL
end
end Go.Proofs.YtpgmohjmpaifbaaDoor.Im

/- S21Sm: slices.SortStableFunc: merging in place. -/
set_option linter.unusedVariables false
set_option linter.unusedSimpArgs false
set_option linter.unusedSectionVars false
open Go Go.Im Go.Sort
namespace Go.Proofs.YtpgmohjmpaifbaaDoor.Im
section
variable {α : Type} [Inhabited α] {e : α → AV} {lt : α → α → Bool} {tot : Bool} {ω : Nat → Nat} {B : Nat} {g : FuncId} {fs caps : List AV} {h0 : Hp} {id : Nat} {pre post : List AV}

def Mgd (e : α → AV) (lt : α → α → Bool) (h0 : Hp) (id : Nat) (pre post : List AV) (a b : Nat) (d : Array α) (h' : Hp) : Prop :=
  ∃ d', Lies h0 id 2 (Full e pre post d') h' ∧ PermIn a b d d' ∧ SortedIn lt a b d'

theorem lt_of_le {lt : α → α → Bool} (hS : SWO lt) {x y z : α} (h1 : lt y x = false) (h2 : lt y z = true) : lt x z = true := by
  cases hx : lt x z with
  | true => rfl
  | false => rw [hS.ntrans _ _ _ h1 hx] at h2; cases h2
theorem lt_of_le' {lt : α → α → Bool} (hS : SWO lt) {x y z : α} (h1 : lt z y = false) (h2 : lt x y = true) : lt x z = true := by
  cases hx : lt x z with
  | true => rfl
  | false => rw [hS.ntrans _ _ _ hx h1] at h2; cases h2

theorem w_y1 (hS : SWO lt) (C : Cm e lt tot ω B g fs caps h0 id pre post) (c : Bool) (d : Array α) (a m b n : Nat) (h : Hp) (hd : d.size ≤ 1000000000) (ham : m = a + 1) (hmb : m < b) (hb : b ≤ d.size)
    (hL : Lies h0 id 2 (Full e pre post d) h) (hn : B + d.size + 5 < n) (h2 : SortedIn lt m b d) :
    Wp (kont F n tot ω) n y1 [(0, .val (.row id 2 pre.length d.size c)), (1, .val (.int .i64 a)), (2, .val (.int .i64 m)), (3, .val (.int .i64 b)), (4, .val (.fn (.func g) fs caps)), (28, .val (.bool true))] h
      fun e1 r' h' => e1 = .ret ∧ Mgd e lt h0 id pre post a b d h' := by
  unfold y1
  have hE := C.enc
  simp (maxSteps := 2000000) (discharger := omega) only [xz,xc,xo,xr,x0,Reg.isA,Reg.isV,Reg.stays,Reg.onto,↓reduceIte,reduceCtorEq,Nat.reduceEqDiff,Nat.reduceLT]
  refine wpi_loop (fun x r g' => ∃ (i j : Nat), r = [(0, .val (.row id 2 pre.length d.size c)), (1, .val (.int .i64 a)), (4, .val (.fn (.func g) fs caps)), (10, .val (.int .i64 i)), (11, .val (.int .i64 j))] ∧
    x = j - i ∧ m ≤ i ∧ i ≤ j ∧ j ≤ b ∧ Lies h0 id 2 (Full e pre post d) g' ∧ (∀ k, m ≤ k → k < i → lt d[k]! d[a]! = true) ∧ ∀ k, j ≤ k → k < b → lt d[k]! d[a]! = false) (b - m) (by omega)
    ⟨m, b, rfl, rfl, by omega, by omega, by omega, hL, fun k h3 h4 => by omega, fun k h3 h4 => by omega⟩ ?_
  rintro x r g' ⟨i, j, rfl, rfl, hmi, hij, hjb, hL, hl, hr⟩
  by_cases hlt : i < j
  · obtain ⟨q, hq⟩ : ∃ q, (i + j) / 2 = q := ⟨_, rfl⟩
    have hq1 : i ≤ q := by omega
    have hq2 : q < j := by omega
    have hqf := half_nat i j
    rw [hq] at hqf
    obtain ⟨rr, g2, hc1, hc2, hc3⟩ := C.cmp n (by omega) d[q]! d[a]! d _ hL
    have hL2 := hL.more hc2
    have q1 := hL.row
    by_cases hr0 : rr < 0
    · simp (maxSteps := 2000000) (discharger := omega) only [xz,xc,xo,xr,x0,x1,x2,xd,kont_call,Reg.isA,Reg.isV,Reg.stays,Reg.onto,↓reduceIte,reduceCtorEq,Nat.reduceEqDiff,Nat.reduceLT,Int.reduceToNat,wrap_i64,int_lt_t,int_lt_f,int_le_t,full_get,wrap_u64,hqf,q1,hc1,hr0,hE.sub]
      refine ⟨j - (q + 1), by omega, q + 1, j, by rw [show ((q : Nat) : Int) + 1 = ((q + 1 : Nat) : Int) by omega], rfl, by omega, by omega, hjb, hL2, fun k h3 h4 => ?_, hr⟩
      refine lt_of_le hS (SortedIn.le hS h2 h3 (show k ≤ q by omega) (by omega)) ?_
      rw [← hc3]; simp [hr0]
    · simp (maxSteps := 2000000) (discharger := omega) only [xz,xc,xo,xr,x0,x1,x2,xd,kont_call,Reg.isA,Reg.isV,Reg.stays,Reg.onto,↓reduceIte,reduceCtorEq,Nat.reduceEqDiff,Nat.reduceLT,Int.reduceToNat,wrap_i64,int_lt_t,int_lt_f,int_le_t,full_get,wrap_u64,hqf,q1,hc1,hr0,hE.sub]
      refine ⟨q - i, by omega, i, q, rfl, rfl, hmi, hq1, by omega, hL2, hl, fun k h3 h4 => ?_⟩
      refine hS.ntrans _ d[q]! _ (SortedIn.le hS h2 (by omega) h3 h4) ?_
      rw [← hc3]; simp [hr0]
  · obtain rfl : i = j := by omega
    simp (maxSteps := 2000000) (discharger := omega) only [xz,xc,xo,xr,x0,x1,xd,Reg.isA,Reg.isV,Reg.stays,Reg.onto,↓reduceIte,reduceCtorEq,Nat.reduceEqDiff,Nat.reduceLT,int_lt_f]
    unfold y1b
    simp (maxSteps := 2000000) (discharger := omega) only [xz,xc,xo,xr,x0,Reg.isA,Reg.isV,Reg.stays,Reg.onto,↓reduceIte,reduceCtorEq,Nat.reduceEqDiff,Nat.reduceLT]
    refine wpi_loop (fun x r g' => ∃ (k : Nat) (d' : Array α), r = [(0, .val (.row id 2 pre.length d.size c)), (10, .val (.int .i64 i)), (13, .val (.int .i64 k))] ∧
      x = i - 1 - k ∧ a ≤ k ∧ k ≤ i - 1 ∧ Lies h0 id 2 (Full e pre post d') g' ∧ Up a k d d') (i - 1 - a) (by omega)
      ⟨a, d, rfl, rfl, by omega, by omega, hL, .zero⟩ ?_
    rintro x r g'' ⟨k, d', rfl, rfl, hak, hki, hL, hU⟩
    have hd' := hU.size
    by_cases hk : k < i - 1
    · have q1 := hL.row
      have q3 := hL.idlt
      have e1 : ((k : Int) + 1).toNat = k + 1 := by omega
      simp (maxSteps := 2000000) (discharger := omega) only [xz,xc,xo,xr,x0,x1,x5,xd,wr,Reg.isA,Reg.isV,Reg.stays,Reg.onto,↓reduceIte,reduceCtorEq,Nat.reduceEqDiff,Nat.reduceLT,wrap_i64,int_lt_t,int_le_t,full_get,full_get1,full_set,full_set1,get_set_self,List.set_set,q1,e1,hE.sub,hE.upd,hE.nt,hE.len]
      refine ⟨i - 1 - (k + 1), by omega, k + 1, swp d' k (k + 1), by rw [show ((k : Nat) : Int) + 1 = ((k + 1 : Nat) : Int) by omega], rfl, by omega, by omega, hL.set, hU.succ hak (by omega)⟩
    · obtain rfl : k = i - 1 := by omega
      simp (maxSteps := 2000000) (discharger := omega) only [xz,xc,xo,xr,x0,x1,xd,Reg.isA,Reg.isV,Reg.stays,Reg.onto,↓reduceIte,reduceCtorEq,Nat.reduceEqDiff,Nat.reduceLT,wrap_i64,int_lt_f]
      refine ⟨d', hL, permIn_mono _ _ _ _ _ _ (Nat.le_refl _) (by omega) hb hU.perm, hU.sorted hS hak (by omega) (by rw [← ham]; exact h2) (fun k h3 h4 => hl k (by omega) (by omega)) fun k h3 h4 => hr k (by omega) h4⟩

theorem w_y2 (hS : SWO lt) (C : Cm e lt tot ω B g fs caps h0 id pre post) (c : Bool) (d : Array α) (a m b n : Nat) (h : Hp) (hd : d.size ≤ 1000000000) (ham : a < m) (hmb : b = m + 1) (hb : b ≤ d.size)
    (hL : Lies h0 id 2 (Full e pre post d) h) (hn : B + d.size + 5 < n) (h2 : SortedIn lt a m d) :
    Wp (kont F n tot ω) n y2 [(0, .val (.row id 2 pre.length d.size c)), (1, .val (.int .i64 a)), (2, .val (.int .i64 m)), (3, .val (.int .i64 b)), (4, .val (.fn (.func g) fs caps)), (80, .val (.bool true))] h
      fun e1 r' h' => e1 = .ret ∧ Mgd e lt h0 id pre post a b d h' := by
  unfold y2
  have hE := C.enc
  simp (maxSteps := 2000000) (discharger := omega) only [xz,xc,xo,xr,x0,Reg.isA,Reg.isV,Reg.stays,Reg.onto,↓reduceIte,reduceCtorEq,Nat.reduceEqDiff,Nat.reduceLT]
  refine wpi_loop (fun x r g' => ∃ (i j : Nat), r = [(0, .val (.row id 2 pre.length d.size c)), (2, .val (.int .i64 m)), (4, .val (.fn (.func g) fs caps)), (14, .val (.int .i64 i)), (15, .val (.int .i64 j))] ∧
    x = j - i ∧ a ≤ i ∧ i ≤ j ∧ j ≤ m ∧ Lies h0 id 2 (Full e pre post d) g' ∧ (∀ k, a ≤ k → k < i → lt d[m]! d[k]! = false) ∧ ∀ k, j ≤ k → k < m → lt d[m]! d[k]! = true) (m - a) (by omega)
    ⟨a, m, rfl, rfl, by omega, by omega, by omega, hL, fun k h3 h4 => by omega, fun k h3 h4 => by omega⟩ ?_
  rintro x r g' ⟨i, j, rfl, rfl, hmi, hij, hjb, hL, hl, hr⟩
  by_cases hlt : i < j
  · obtain ⟨q, hq⟩ : ∃ q, (i + j) / 2 = q := ⟨_, rfl⟩
    have hq1 : i ≤ q := by omega
    have hq2 : q < j := by omega
    have hqf := half_nat i j
    rw [hq] at hqf
    obtain ⟨rr, g2, hc1, hc2, hc3⟩ := C.cmp n (by omega) d[m]! d[q]! d _ hL
    have hL2 := hL.more hc2
    have q1 := hL.row
    by_cases hr0 : rr < 0
    · simp (maxSteps := 2000000) (discharger := omega) only [xz,xc,xo,xr,x0,x1,x2,xd,kont_call,Reg.isA,Reg.isV,Reg.stays,Reg.onto,↓reduceIte,reduceCtorEq,Nat.reduceEqDiff,Nat.reduceLT,Int.reduceToNat,wrap_i64,int_lt_t,int_lt_f,int_le_t,full_get,wrap_u64,hqf,q1,hc1,hr0,hE.sub]
      refine ⟨q - i, by omega, i, q, rfl, rfl, hmi, hq1, by omega, hL2, hl, fun k h3 h4 => ?_⟩
      refine lt_of_le' hS (SortedIn.le hS h2 (by omega) h3 h4) ?_
      rw [← hc3]; simp [hr0]
    · simp (maxSteps := 2000000) (discharger := omega) only [xz,xc,xo,xr,x0,x1,x2,xd,kont_call,Reg.isA,Reg.isV,Reg.stays,Reg.onto,↓reduceIte,reduceCtorEq,Nat.reduceEqDiff,Nat.reduceLT,Int.reduceToNat,wrap_i64,int_lt_t,int_lt_f,int_le_t,full_get,wrap_u64,hqf,q1,hc1,hr0,hE.sub]
      refine ⟨j - (q + 1), by omega, q + 1, j, by rw [show ((q : Nat) : Int) + 1 = ((q + 1 : Nat) : Int) by omega], rfl, by omega, by omega, hjb, hL2, fun k h3 h4 => ?_, hr⟩
      refine hS.ntrans _ d[q]! _ ?_ (SortedIn.le hS h2 h3 (show k ≤ q by omega) (by omega))
      rw [← hc3]; simp [hr0]
  · obtain rfl : i = j := by omega
    simp (maxSteps := 2000000) (discharger := omega) only [xz,xc,xo,xr,x0,x1,xd,Reg.isA,Reg.isV,Reg.stays,Reg.onto,↓reduceIte,reduceCtorEq,Nat.reduceEqDiff,Nat.reduceLT,int_lt_f]
    unfold y2b
    simp (maxSteps := 2000000) (discharger := omega) only [xz,xc,xo,xr,x0,Reg.isA,Reg.isV,Reg.stays,Reg.onto,↓reduceIte,reduceCtorEq,Nat.reduceEqDiff,Nat.reduceLT]
    refine wpi_loop (fun x r g' => ∃ (k : Nat) (d' : Array α), r = [(0, .val (.row id 2 pre.length d.size c)), (14, .val (.int .i64 i)), (17, .val (.int .i64 k))] ∧
      x = k - i ∧ i ≤ k ∧ k ≤ m ∧ Lies h0 id 2 (Full e pre post d') g' ∧ Dn k m d d') (m - i) (by omega)
      ⟨m, d, rfl, rfl, by omega, by omega, hL, .zero⟩ ?_
    rintro x r g'' ⟨k, d', rfl, rfl, hak, hki, hL, hU⟩
    have hd' := hU.size
    by_cases hk : i < k
    · obtain ⟨k, rfl⟩ : ∃ k', k = k' + 1 := ⟨k - 1, by omega⟩
      have q1 := hL.row
      have q3 := hL.idlt
      have e1 : (((k + 1 : Nat) : Int) - 1).toNat = k := by omega
      simp (maxSteps := 2000000) (discharger := omega) only [xz,xc,xo,xr,x0,x1,x5,xd,wr,Reg.isA,Reg.isV,Reg.stays,Reg.onto,↓reduceIte,reduceCtorEq,Nat.reduceEqDiff,Nat.reduceLT,wrap_i64,int_lt_t,int_le_t,full_get,full_get1,full_set,full_set1,get_set_self,List.set_set,q1,e1,hE.sub,hE.upd,hE.nt,hE.len]
      refine ⟨k - i, by omega, k, swp d' (k + 1) k, by rw [show ((k + 1 : Nat) : Int) - 1 = ((k : Nat) : Int) by omega], rfl, by omega, by omega, hL.set, hU.succ (by omega) (by omega)⟩
    · obtain rfl : k = i := by omega
      simp (maxSteps := 2000000) (discharger := omega) only [xz,xc,xo,xr,x0,x1,xd,Reg.isA,Reg.isV,Reg.stays,Reg.onto,↓reduceIte,reduceCtorEq,Nat.reduceEqDiff,Nat.reduceLT,int_lt_f]
      subst hmb
      exact ⟨d', hL, permIn_mono _ _ _ _ _ _ hmi (Nat.le_refl _) hb hU.perm, hU.sorted hS hmi hjb h2 hl hr⟩

def Ih (e : α → AV) (lt : α → α → Bool) (tot : Bool) (ω : Nat → Nat) (g : FuncId) (fs caps : List AV) (h0 : Hp) (id : Nat) (pre post : List AV) (c : Bool) (N n L : Nat) : Prop :=
  ∀ (a m b : Nat) (d : Array α) (h : Hp), b - a < L → a < m → m < b → b ≤ d.size → d.size = N → Lies h0 id 2 (Full e pre post d) h → SortedIn lt a m d → SortedIn lt m b d →
    ∃ h' d', call F n tot ω 112 [.row id 2 pre.length N c, .int .i64 a, .int .i64 m, .int .i64 b, .fn (.func g) fs caps] h = some (.tup [], h') ∧ Lies h0 id 2 (Full e pre post d') h' ∧ PermIn a b d d' ∧ SortedIn lt a b d'

theorem w_y6 (hS : SWO lt) (c : Bool) (N : Nat) (d : Array α) (a mid t b n : Nat) (h : Hp) (r : Regs) (hN : d.size = N) (hd : N ≤ 1000000000) (h1 : a ≤ mid) (h2 : mid ≤ t) (h3 : t ≤ b) (hb : b ≤ N) (ham : a < mid)
    (hr : r = [(0, .val (.row id 2 pre.length N c)), (3, .val (.int .i64 b)), (4, .val (.fn (.func g) fs caps)), (18, .val (.int .i64 mid)), (24, .val (.int .i64 t))] ∨
      ∃ s x, r = [(0, .val (.row id 2 pre.length N c)), (1, .val (.int .i64 a)), (3, .val (.int .i64 b)), (4, .val (.fn (.func g) fs caps)), (18, .val (.int .i64 mid)), (20, .val s), (24, .val (.int .i64 t)), (199, .val x)])
    (ih : Ih e lt tot ω g fs caps h0 id pre post c N n (b - a)) (hL : Lies h0 id 2 (Full e pre post d) h) (hl : SortedIn lt a mid d) (p3 : SortedIn lt mid t d) (p4 : SortedIn lt t b d) (hc : Cross lt a mid b d) :
    Wp (kont F n tot ω) n y6 r h fun e1 r' h' => e1 = .normal ∧ Mgd e lt h0 id pre post a b d h' := by
  have fin : ∀ (d' : Array α) (h' : Hp), Lies h0 id 2 (Full e pre post d') h' → PermIn mid b d d' → SortedIn lt mid b d' → Mgd e lt h0 id pre post a b d h' := fun d' h' q1 q2 q3 =>
    ⟨d', q1, permIn_mono _ _ _ _ _ _ h1 (Nat.le_refl _) (by omega) q2, SortedIn.join hS (SortedIn.other hl q2 (.inl (Nat.le_refl _))) q3 (hc.right q2 (by omega) (by omega))⟩
  by_cases k1 : mid < t
  · by_cases k2 : t < b
    · obtain ⟨h', d', q1, q2, q3, q4⟩ := ih mid t b d h (by omega) k1 k2 (by omega) hN hL p3 p4
      rcases hr with rfl | ⟨s, x, rfl⟩ <;> unfold y6 <;> simp (maxSteps := 2000000) (discharger := omega) only [xz,xc,xo,xr,x0,x1,xd,kont_call,Reg.isA,Reg.isV,Reg.stays,Reg.onto,↓reduceIte,reduceCtorEq,Nat.reduceEqDiff,Nat.reduceLT,beq_self_eq_true,int_lt_t,q1]
      · exact fin d' h' q2 q3 q4
      · exact fin d' h' q2 q3 q4
    · obtain rfl : t = b := by omega
      have := fin d h hL (permIn_refl _ _ _) p3
      rcases hr with rfl | ⟨s, x, rfl⟩ <;> unfold y6 <;> simp (maxSteps := 2000000) (discharger := omega) only [xz,xc,xo,xr,x0,x1,xd,Reg.isA,Reg.isV,Reg.stays,Reg.onto,↓reduceIte,reduceCtorEq,Nat.reduceEqDiff,Nat.reduceLT,beq_self_eq_true,int_lt_t,int_lt_f] <;> exact this
  · obtain rfl : mid = t := by omega
    have := fin d h hL (permIn_refl _ _ _) p4
    rcases hr with rfl | ⟨s, x, rfl⟩ <;> unfold y6 <;> simp (maxSteps := 2000000) (discharger := omega) only [xz,xc,xo,xr,x0,x1,xd,xb,Reg.isA,Reg.isV,Reg.stays,Reg.onto,↓reduceIte,reduceCtorEq,Nat.reduceEqDiff,Nat.reduceLT,int_lt_f] <;> exact this

theorem w_y5 (c : Bool) (N : Nat) (d : Array α) (a s mid t b n : Nat) (h : Hp) (r : Regs) (hN : d.size = N) (hd : N ≤ 1000000000) (h1 : a ≤ s) (h2 : s ≤ mid) (h3 : mid ≤ t) (h4 : t ≤ b) (hb : b ≤ N) (ham : a < mid) (hmb : mid < b)
    (hr : r = [(0, .val (.row id 2 pre.length N c)), (1, .val (.int .i64 a)), (3, .val (.int .i64 b)), (4, .val (.fn (.func g) fs caps)), (18, .val (.int .i64 mid)), (20, .val (.int .i64 s)), (24, .val (.int .i64 t))] ∨
      ∃ y x, r = [(0, .val (.row id 2 pre.length N c)), (1, .val (.int .i64 a)), (2, .val y), (3, .val (.int .i64 b)), (4, .val (.fn (.func g) fs caps)), (18, .val (.int .i64 mid)), (20, .val (.int .i64 s)), (24, .val (.int .i64 t)), (185, .val x)])
    (ih : Ih e lt tot ω g fs caps h0 id pre post c N n (b - a)) (hL : Lies h0 id 2 (Full e pre post d) h) (sp : Split lt a s mid t b d) :
    Wp (kont F n tot ω) n y5 r h fun e1 r h' => e1 = .normal ∧ (r = [(0, .val (.row id 2 pre.length N c)), (3, .val (.int .i64 b)), (4, .val (.fn (.func g) fs caps)), (18, .val (.int .i64 mid)), (24, .val (.int .i64 t))] ∨
      ∃ s x, r = [(0, .val (.row id 2 pre.length N c)), (1, .val (.int .i64 a)), (3, .val (.int .i64 b)), (4, .val (.fn (.func g) fs caps)), (18, .val (.int .i64 mid)), (20, .val s), (24, .val (.int .i64 t)), (199, .val x)]) ∧
      ∃ d', Lies h0 id 2 (Full e pre post d') h' ∧ PermIn a mid d d' ∧ SortedIn lt a mid d' := by
  by_cases k1 : a < s
  · by_cases k2 : s < mid
    · obtain ⟨h', d', q1, q2, q3, q4⟩ := ih a s mid d h (by omega) k1 k2 (by omega) hN hL sp.p1 sp.p2
      rcases hr with rfl | ⟨y, x, rfl⟩ <;> unfold y5 <;> simp (maxSteps := 2000000) (discharger := omega) only [xz,xc,xo,xr,x0,x1,xd,kont_call,Reg.isA,Reg.isV,Reg.stays,Reg.onto,↓reduceIte,reduceCtorEq,Nat.reduceEqDiff,Nat.reduceLT,true_or,beq_self_eq_true,int_lt_t,q1] <;> exact ⟨d', q2, q3, q4⟩
    · obtain rfl : s = mid := by omega
      rcases hr with rfl | ⟨y, x, rfl⟩ <;> unfold y5 <;> simp (maxSteps := 2000000) (discharger := omega) only [xz,xc,xo,xr,x0,x1,xd,Reg.isA,Reg.isV,Reg.stays,Reg.onto,↓reduceIte,reduceCtorEq,Nat.reduceEqDiff,Nat.reduceLT,beq_self_eq_true,int_lt_t,int_lt_f] <;> exact ⟨.inr ⟨_, _, rfl⟩, d, hL, permIn_refl _ _ _, sp.p1⟩
  · obtain rfl : a = s := by omega
    rcases hr with rfl | ⟨y, x, rfl⟩ <;> unfold y5 <;> simp (maxSteps := 2000000) (discharger := omega) only [xz,xc,xo,xr,x0,x1,xd,xb,Reg.isA,Reg.isV,Reg.stays,Reg.onto,↓reduceIte,reduceCtorEq,Nat.reduceEqDiff,Nat.reduceLT,int_lt_f] <;> exact ⟨.inr ⟨_, _, rfl⟩, d, hL, permIn_refl _ _ _, sp.p2⟩

theorem w_y4 (hS : SWO lt) (C : Cm e lt tot ω B g fs caps h0 id pre post) (c : Bool) (N : Nat) (d : Array α) (a s m b lo r0 mid n : Nat) (h : Hp) (rr pp : AV) (x : Bool) (hN : d.size = N) (hd : N ≤ 1000000000) (ham : a + 1 < m) (hmb : m + 1 < b) (hb : b ≤ N) (hn : N + 10 < n)
    (hmid : mid = (a + b) / 2) (hlo : lo = if mid < m then mid + m - b else a) (hr0 : r0 = if mid < m then mid else m) (hls : lo ≤ s) (hsr : s ≤ r0)
    (hl1 : SortedIn lt a m d) (hl2 : SortedIn lt m b d)
    (hl : ∀ c, lo ≤ c → c < s → lt d[mid + m - 1 - c]! d[c]! = false) (hrr : ∀ c, s ≤ c → c < r0 → lt d[mid + m - 1 - c]! d[c]! = true)
    (ih : Ih e lt tot ω g fs caps h0 id pre post c N n (b - a)) (hL : Lies h0 id 2 (Full e pre post d) h) :
    Wp (kont F n tot ω) n y4 [(0, .val (.row id 2 pre.length N c)), (1, .val (.int .i64 a)), (2, .val (.int .i64 m)), (3, .val (.int .i64 b)), (4, .val (.fn (.func g) fs caps)), (18, .val (.int .i64 mid)), (19, .val (.int .i64 (mid + m : Nat))), (20, .val (.int .i64 s)), (21, .val rr), (22, .val pp), (151, .val (.bool x))] h
      fun e1 r' h' => e1 = .normal ∧ Mgd e lt h0 id pre post a b d h' := by
  have bnd : a ≤ s ∧ s ≤ m ∧ m ≤ mid + m - s ∧ mid + m - s ≤ b ∧ s ≤ mid ∧ mid ≤ mid + m - s := by
    split at hlo <;> split at hr0 <;> omega
  obtain ⟨b1, b2, b3, b4, b5, b6⟩ := bnd
  have e1 : ((mid + m : Nat) : Int) - (s : Int) = ((mid + m - s : Nat) : Int) := by omega
  -- behind the rotation
  have fin : ∀ (d1 : Array α) (h1 : Hp) (r : Regs), (r = [(0, .val (.row id 2 pre.length N c)), (1, .val (.int .i64 a)), (3, .val (.int .i64 b)), (4, .val (.fn (.func g) fs caps)), (18, .val (.int .i64 mid)), (20, .val (.int .i64 s)), (24, .val (.int .i64 (mid + m - s : Nat)))] ∨
      ∃ y x, r = [(0, .val (.row id 2 pre.length N c)), (1, .val (.int .i64 a)), (2, .val y), (3, .val (.int .i64 b)), (4, .val (.fn (.func g) fs caps)), (18, .val (.int .i64 mid)), (20, .val (.int .i64 s)), (24, .val (.int .i64 (mid + m - s : Nat))), (185, .val x)]) → Lies h0 id 2 (Full e pre post d1) h1 → Rot s m (mid + m - s) d d1 →
      Wp (kont F n tot ω) n y5 r h1 (Then (kont F n tot ω) n y6 fun e1 r' h' => e1 = .normal ∧ Mgd e lt h0 id pre post a b d h') := fun d1 h1 r k0 q1 q2 => by
    obtain ⟨_, _, _, _, _, _, sp⟩ := split_of hS hl1 hl2 (by omega) (by omega) hmid hlo hr0 hls hsr hl hrr q2
    have hN1 : d1.size = N := by rw [q2.size, hN]
    refine (w_y5 c N d1 a s mid (mid + m - s) b n h1 r hN1 hd b1 b5 b6 b4 hb (by omega) (by omega) k0 ih q1 sp).mono ?_
    rintro e1 r2 h2 ⟨rfl, k2, d2, w1, w2, w3⟩
    refine (w_y6 hS c N d2 a mid (mid + m - s) b n h2 r2 (by rw [w2.1, hN1]) hd (by omega) b6 b4 hb (by omega) k2 ih w1 w3 (SortedIn.other sp.p3 w2 (.inr (Nat.le_refl _))) (SortedIn.other sp.p4 w2 (.inr b6)) (sp.cross.left w2 (by omega) (by omega))).mono ?_
    rintro e1 r' h3 ⟨e2, d3, v1, v2, v3⟩
    exact ⟨e2, d3, v1, permIn_trans _ _ _ _ _ (permIn_mono _ _ _ _ _ _ b1 b4 (by omega) q2.perm) (permIn_trans _ _ _ _ _ (permIn_mono _ _ _ _ _ _ (Nat.le_refl _) (by omega) (by omega) w2) v2), v3⟩
  unfold y4
  by_cases k1 : s < m
  · by_cases k2 : m < mid + m - s
    · obtain ⟨h1, d1, q1, q2, q3⟩ := s_rot C c d s m (mid + m - s) n h (by omega) k1 k2 (by omega) hL (by omega)
      rw [hN] at q1
      simp (maxSteps := 2000000) (discharger := omega) only [xz,xc,xo,xr,x0,x1,xd,kont_call,Reg.isA,Reg.isV,Reg.stays,Reg.onto,↓reduceIte,reduceCtorEq,Nat.reduceEqDiff,Nat.reduceLT,beq_self_eq_true,wrap_i64,int_lt_t,e1,q1]
      exact fin d1 h1 _ (.inl rfl) q2 q3
    · have e2 : mid + m - s = m := by omega
      simp (maxSteps := 2000000) (discharger := omega) only [xz,xc,xo,xr,x0,x1,xd,Reg.isA,Reg.isV,Reg.stays,Reg.onto,↓reduceIte,reduceCtorEq,Nat.reduceEqDiff,Nat.reduceLT,beq_self_eq_true,wrap_i64,int_lt_t,int_lt_f,e1]
      refine fin d h _ (.inr ⟨_, _, rfl⟩) hL ?_
      rw [e2]; exact .idr (by omega)
  · obtain rfl : s = m := by omega
    simp (maxSteps := 2000000) (discharger := omega) only [xz,xc,xo,xr,x0,x1,xd,xb,Reg.isA,Reg.isV,Reg.stays,Reg.onto,↓reduceIte,reduceCtorEq,Nat.reduceEqDiff,Nat.reduceLT,wrap_i64,int_lt_f,e1]
    exact fin d h _ (.inr ⟨_, _, rfl⟩) hL (.idl (by omega))

theorem w_y3s (hS : SWO lt) (C : Cm e lt tot ω B g fs caps h0 id pre post) (c : Bool) (N : Nat) (d : Array α) (a m b lo r0 mid n : Nat) (h : Hp) (hN : d.size = N) (hd : N ≤ 1000000000) (ham : a + 1 < m) (hmb : m + 1 < b) (hb : b ≤ N) (hn : B + N + 10 < n)
    (hmid : mid = (a + b) / 2) (hlo : lo = if mid < m then mid + m - b else a) (hr0 : r0 = if mid < m then mid else m)
    (hl1 : SortedIn lt a m d) (hl2 : SortedIn lt m b d)
    (ih : Ih e lt tot ω g fs caps h0 id pre post c N n (b - a)) (hL : Lies h0 id 2 (Full e pre post d) h) :
    Wp (kont F n tot ω) n y3s [(0, .val (.row id 2 pre.length N c)), (1, .val (.int .i64 a)), (2, .val (.int .i64 m)), (3, .val (.int .i64 b)), (4, .val (.fn (.func g) fs caps)), (18, .val (.int .i64 mid)), (19, .val (.int .i64 (mid + m : Nat))), (20, .val (.int .i64 lo)), (21, .val (.int .i64 r0))] h
      fun e1 r' h' => e1 = .normal ∧ Mgd e lt h0 id pre post a b d h' := by
  have hE := C.enc
  have bnd : a ≤ lo ∧ lo ≤ r0 ∧ r0 ≤ m ∧ r0 ≤ mid ∧ mid + m - 1 ≤ b + lo - 1 := by
    split at hlo <;> split at hr0 <;> omega
  obtain ⟨b1, b2, b3, b4, b5⟩ := bnd
  have e1 : ((mid + m : Nat) : Int) - 1 = ((mid + m - 1 : Nat) : Int) := by omega
  unfold y3s
  simp (maxSteps := 2000000) (discharger := omega) only [xz,xc,xo,xr,x0,x1,xd,Reg.isA,Reg.isV,Reg.stays,Reg.onto,↓reduceIte,reduceCtorEq,Nat.reduceEqDiff,Nat.reduceLT,wrap_i64,e1]
  refine wpi_loop (fun x r g' => ∃ (i j : Nat), r = [(0, .val (.row id 2 pre.length N c)), (1, .val (.int .i64 a)), (2, .val (.int .i64 m)), (3, .val (.int .i64 b)), (4, .val (.fn (.func g) fs caps)), (18, .val (.int .i64 mid)), (19, .val (.int .i64 (mid + m : Nat))), (20, .val (.int .i64 i)), (21, .val (.int .i64 j)), (22, .val (.int .i64 (mid + m - 1 : Nat)))] ∧
    x = j - i ∧ lo ≤ i ∧ i ≤ j ∧ j ≤ r0 ∧ Lies h0 id 2 (Full e pre post d) g' ∧ (∀ c, lo ≤ c → c < i → lt d[mid + m - 1 - c]! d[c]! = false) ∧ ∀ c, j ≤ c → c < r0 → lt d[mid + m - 1 - c]! d[c]! = true) (r0 - lo) (by omega)
    ⟨lo, r0, rfl, rfl, by omega, by omega, by omega, hL, fun k h3 h4 => by omega, fun k h3 h4 => by omega⟩ ?_
  rintro x r g' ⟨i, j, rfl, rfl, hmi, hij, hjb, hL, hl, hr⟩
  by_cases hlt : i < j
  · obtain ⟨q, hq⟩ : ∃ q, (i + j) / 2 = q := ⟨_, rfl⟩
    have hq1 : i ≤ q := by omega
    have hq2 : q < j := by omega
    have hqf := half_nat i j
    rw [hq] at hqf
    obtain ⟨rr, g2, hc1, hc2, hc3⟩ := C.cmp n (by omega) d[mid + m - 1 - q]! d[q]! d _ hL
    have hL2 := hL.more hc2
    have q1 := hL.row
    have e2 : ((mid + m - 1 : Nat) : Int) - (q : Int) = ((mid + m - 1 - q : Nat) : Int) := by omega
    have hpc : m ≤ mid + m - 1 - q := by omega
    have hpc2 : mid + m - 1 - q < b := by omega
    by_cases hr0' : rr < 0
    · simp (maxSteps := 2000000) (discharger := omega) only [xz,xc,xo,xr,x0,x1,x2,xd,kont_call,Reg.isA,Reg.isV,Reg.stays,Reg.onto,↓reduceIte,reduceCtorEq,Nat.reduceEqDiff,Nat.reduceLT,Int.reduceToNat,wrap_i64,int_lt_t,int_lt_f,int_le_t,full_get,wrap_u64,hqf,q1,hc1,hr0',e2,hE.sub]
      refine ⟨q - i, by omega, i, q, rfl, rfl, hmi, hq1, by omega, hL2, hl, ?_⟩
      exact search_t hS hl1 hl2 b3 (by omega) hpc2 (fun k hk => by omega) (by rw [← hc3]; simp [hr0'])
    · simp (maxSteps := 2000000) (discharger := omega) only [xz,xc,xo,xr,x0,x1,x2,xd,kont_call,Reg.isA,Reg.isV,Reg.stays,Reg.onto,↓reduceIte,reduceCtorEq,Nat.reduceEqDiff,Nat.reduceLT,Int.reduceToNat,wrap_i64,int_lt_t,int_lt_f,int_le_t,full_get,wrap_u64,hqf,q1,hc1,hr0',e2,hE.sub]
      refine ⟨j - (q + 1), by omega, q + 1, j, by rw [show ((q : Nat) : Int) + 1 = ((q + 1 : Nat) : Int) by omega], rfl, by omega, by omega, hjb, hL2, fun k h3 h4 => ?_, hr⟩
      exact search_f hS hl1 hl2 b5 (by omega) b1 (by omega) hpc (by rw [← hc3]; simp [hr0']) k h3 (by omega)
  · obtain rfl : i = j := by omega
    simp (maxSteps := 2000000) (discharger := omega) only [xz,xc,xo,xr,x0,x1,xd,Reg.isA,Reg.isV,Reg.stays,Reg.onto,↓reduceIte,reduceCtorEq,Nat.reduceEqDiff,Nat.reduceLT,int_lt_f]
    exact w_y4 hS C c N d a i m b lo r0 mid n g' _ _ _ hN hd ham hmb hb (by omega) hmid hlo hr0 hmi hjb hl1 hl2 hl hr ih hL

theorem s_sym (hS : SWO lt) (C : Cm e lt tot ω B g fs caps h0 id pre post) (c : Bool) (N : Nat) (hd : N ≤ 1000000000) : ∀ (k n a m b : Nat) (d : Array α) (h : Hp), b - a < k → B + N + 10 + k < n → a < m → m < b → b ≤ d.size → d.size = N → Lies h0 id 2 (Full e pre post d) h → SortedIn lt a m d → SortedIn lt m b d →
    ∃ h' d', call F n tot ω 112 [.row id 2 pre.length N c, .int .i64 a, .int .i64 m, .int .i64 b, .fn (.func g) fs caps] h = some (.tup [], h') ∧ Lies h0 id 2 (Full e pre post d') h' ∧ PermIn a b d d' ∧ SortedIn lt a b d' := by
  intro k
  induction k with
  | zero => intro n a m b d h hk; omega
  | succ k IH =>
    intro n a m b d h hk hn ham hmb hb hN hL hl1 hl2
    obtain ⟨n, rfl⟩ : ∃ m, n = m + 1 := ⟨n - 1, by omega⟩
    suffices hx : ∃ v h', call F (n + 1) tot ω 112 [.row id 2 pre.length N c, .int .i64 a, .int .i64 m, .int .i64 b, .fn (.func g) fs caps] h = some (v, h') ∧ v = .tup [] ∧ Mgd e lt h0 id pre post a b d h' by
      obtain ⟨v, h', e1, rfl, d', e2⟩ := hx
      exact ⟨h', d', e1, e2⟩
    have ih : Ih e lt tot ω g fs caps h0 id pre post c N n (b - a) := fun a' m' b' d' h' q1 q2 q3 q4 q5 q6 q7 q8 => IH n a' m' b' d' h' (by omega) (by omega) q2 q3 q4 q5 q6 q7 q8
    refine call_of (fn := a112) f112 (P := fun v h' => v = .tup [] ∧ Mgd e lt h0 id pre post a b d h') ?_
    unfold a112
    have e1 : (m : Int) - (a : Int) = ((m - a : Nat) : Int) := by omega
    have e2 : (b : Int) - (m : Int) = ((b - m : Nat) : Int) := by omega
    by_cases h1 : m = a + 1
    · simp (maxSteps := 2000000) (discharger := omega) only [xz,xc,xo,xr,x0,x1,xd,Reg.isA,Reg.isV,Reg.stays,Reg.onto,↓reduceIte,reduceCtorEq,Nat.reduceEqDiff,Nat.reduceLT,Nat.reduceAdd,wrap_i64,int_beq_t,e1]
      have := w_y1 (n := n) hS C c d a m b h (by omega) h1 hmb hb hL (by omega) hl2
      rw [hN] at this
      refine this.mono ?_
      rintro e3 r' h' ⟨rfl, hm⟩
      simp (maxSteps := 2000000) (discharger := omega) only [xz,xc,xd,exists_eq_left']
      exact hm
    · by_cases h2 : b = m + 1
      · simp (maxSteps := 2000000) (discharger := omega) only [xz,xc,xo,xr,x0,x1,xd,Reg.isA,Reg.isV,Reg.stays,Reg.onto,↓reduceIte,reduceCtorEq,Nat.reduceEqDiff,Nat.reduceLT,Nat.reduceAdd,wrap_i64,int_beq_t,int_beq_f,e1,e2]
        have := w_y2 (n := n) hS C c d a m b h (by omega) ham h2 hb hL (by omega) hl1
        rw [hN] at this
        refine this.mono ?_
        rintro e3 r' h' ⟨rfl, hm⟩
        simp (maxSteps := 2000000) (discharger := omega) only [xz,xc,xd,exists_eq_left']
        exact hm
      · obtain ⟨q, hq⟩ : ∃ q, (a + b) / 2 = q := ⟨_, rfl⟩
        have hqf := half_nat a b
        rw [hq] at hqf
        have e3 : (q : Int) + (m : Int) = ((q + m : Nat) : Int) := by omega
        by_cases hmq : q < m
        · have e4 : ((q + m : Nat) : Int) - (b : Int) = ((q + m - b : Nat) : Int) := by omega
          simp (maxSteps := 2000000) (discharger := omega) only [xz,xc,xo,xr,x0,x1,xd,Reg.isA,Reg.isV,Reg.stays,Reg.onto,↓reduceIte,reduceCtorEq,Nat.reduceEqDiff,Nat.reduceLT,Nat.reduceAdd,wrap_i64,int_beq_f,e1,e2]
          unfold y3
          simp (maxSteps := 2000000) (discharger := omega) only [xz,xc,xo,xr,x0,x1,x2,xd,Reg.isA,Reg.isV,Reg.stays,Reg.onto,↓reduceIte,reduceCtorEq,Nat.reduceEqDiff,Nat.reduceLT,Int.reduceToNat,wrap_i64,int_lt_t,int_lt_f,wrap_u64,hqf,e3,e4]
          have := w_y3s (n := n) hS C c N d a m b (q + m - b) q q h hN hd (by omega) (by omega) (by omega) (by omega) hq.symm (by rw [if_pos hmq]) (by rw [if_pos hmq]) hl1 hl2 ih hL
          refine this.mono ?_
          rintro e3 r' h' ⟨rfl, hm⟩
          simp (maxSteps := 2000000) (discharger := omega) only [xz,xc,xd,exists_eq_left']
          exact hm
        · simp (maxSteps := 2000000) (discharger := omega) only [xz,xc,xo,xr,x0,x1,xd,Reg.isA,Reg.isV,Reg.stays,Reg.onto,↓reduceIte,reduceCtorEq,Nat.reduceEqDiff,Nat.reduceLT,Nat.reduceAdd,wrap_i64,int_beq_f,e1,e2]
          unfold y3
          simp (maxSteps := 2000000) (discharger := omega) only [xz,xc,xo,xr,x0,x1,x2,xd,Reg.isA,Reg.isV,Reg.stays,Reg.onto,↓reduceIte,reduceCtorEq,Nat.reduceEqDiff,Nat.reduceLT,Int.reduceToNat,wrap_i64,int_lt_f,wrap_u64,hqf,e3]
          have := w_y3s (n := n) hS C c N d a m b a m q h hN hd (by omega) (by omega) (by omega) (by omega) hq.symm (by rw [if_neg hmq]) (by rw [if_neg hmq]) hl1 hl2 ih hL
          refine this.mono ?_
          rintro e3 r' h' ⟨rfl, hm⟩
          simp (maxSteps := 2000000) (discharger := omega) only [xz,xc,xd,exists_eq_left']
          exact hm
end
end Go.Proofs.YtpgmohjmpaifbaaDoor.Im

/- S21Ss: slices.SortStableFunc: a row is sorted. -/
set_option linter.unusedVariables false
set_option linter.unusedSimpArgs false
set_option linter.unusedSectionVars false
open Go Go.Im Go.Sort
namespace Go.Proofs.YtpgmohjmpaifbaaDoor.Im
section
variable {α : Type} [Inhabited α] {e : α → AV} {lt : α → α → Bool} {tot : Bool} {ω : Nat → Nat} {B : Nat} {g : FuncId} {fs caps : List AV} {h0 : Hp} {id : Nat} {pre post : List AV}

def Blk (lt : α → α → Bool) (s N : Nat) (d : Array α) : Prop := ∀ i, SortedIn lt (i * s) (min (i * s + s) N) d

theorem w_z1 (hS : SWO lt) (C : Cm e lt tot ω B g fs caps h0 id pre post) (c : Bool) (N : Nat) (d : Array α) (s n : Nat) (h : Hp) (hN : d.size = N) (hd : N ≤ 1000000000) (hs0 : 0 < s) (hsN : s < N) (hn : B + 2 * N + 20 < n)
    (hL : Lies h0 id 2 (Full e pre post d) h) (hB : Blk lt s N d) :
    Wp (kont F n tot ω) n z1 [(0, .val (.row id 2 pre.length N c)), (1, .val (.int .i64 N)), (2, .val (.fn (.func g) fs caps)), (6, .val (.int .i64 s)), (30, .val (.bool true))] h
      fun e1 r' h' => e1 = .normal ∧ r' = [(0, .val (.row id 2 pre.length N c)), (1, .val (.int .i64 N)), (2, .val (.fn (.func g) fs caps)), (6, .val (.int .i64 (2 * s : Nat)))] ∧
        ∃ d', Lies h0 id 2 (Full e pre post d') h' ∧ PermIn 0 N d d' ∧ Blk lt (2 * s) N d' := by
  unfold z1
  have e0 : 2 * (s : Int) = ((2 * s : Nat) : Int) := by omega
  have e0' : (s : Int) * 2 = ((2 * s : Nat) : Int) := by omega
  simp (maxSteps := 2000000) (discharger := omega) only [xz,xc,xo,xr,x0,x1,xd,Reg.isA,Reg.isV,Reg.stays,Reg.onto,↓reduceIte,reduceCtorEq,Nat.reduceEqDiff,Nat.reduceLT,wrap_i64,e0]
  refine wpi_loop (fun x r g' => ∃ (i A : Nat) (d' : Array α), r = [(0, .val (.row id 2 pre.length N c)), (1, .val (.int .i64 N)), (2, .val (.fn (.func g) fs caps)), (6, .val (.int .i64 s)), (7, .val (.int .i64 A)), (8, .val (.int .i64 (A + 2 * s : Nat)))] ∧
    x = N - A ∧ A = i * (2 * s) ∧ A ≤ N ∧ Lies h0 id 2 (Full e pre post d') g' ∧ PermIn 0 N d d' ∧ (∀ k, k < i → SortedIn lt (k * (2 * s)) (min (k * (2 * s) + 2 * s) N) d') ∧ ∀ k, 2 * i ≤ k → SortedIn lt (k * s) (min (k * s + s) N) d') N (by omega)
    ⟨0, 0, d, by simp, by omega, by omega, by omega, hL, permIn_refl _ _ _, fun k hk => by omega, fun k _ => hB k⟩ ?_
  rintro x r g' ⟨i, A, d', rfl, rfl, hA, hAN, hL, hP, hdn, htd⟩
  have hd' : d'.size = N := by rw [hP.1, hN]
  have m1 : 2 * i * s = A := by rw [hA, Nat.mul_comm 2 i, Nat.mul_assoc]
  have m2 : (2 * i + 1) * s = A + s := by rw [Nat.succ_mul, m1]
  have m3 : (i + 1) * (2 * s) = A + 2 * s := by rw [Nat.succ_mul, ← hA]
  have t1 := htd (2 * i) (Nat.le_refl _)
  have t2 := htd (2 * i + 1) (by omega)
  rw [m1] at t1
  rw [m2] at t2
  have e1 : (A : Int) + (s : Int) = ((A + s : Nat) : Int) := by omega
  by_cases hlt : A + 2 * s ≤ N
  · rw [show min (A + s) N = A + s by omega] at t1
    rw [show min (A + s + s) N = A + 2 * s by omega] at t2
    obtain ⟨h2, d2, q1, q2, q3, q4⟩ := s_sym hS C c N hd (N + 1) n A (A + s) (A + 2 * s) d' g' (by omega) (by omega) (by omega) (by omega) (by omega) hd' hL t1 t2
    have e2 : ((A + 2 * s : Nat) : Int) + ((2 * s : Nat) : Int) = ((A + 2 * s + 2 * s : Nat) : Int) := by omega
    simp (maxSteps := 2000000) (discharger := omega) only [xz,xc,xo,xr,x0,x1,xd,kont_call,Reg.isA,Reg.isV,Reg.stays,Reg.onto,↓reduceIte,reduceCtorEq,Nat.reduceEqDiff,Nat.reduceLT,wrap_i64,int_le_t,e0,e1,e2,q1]
    refine ⟨N - (A + 2 * s), by omega, i + 1, A + 2 * s, d2, by simp, rfl, m3.symm, hlt, q2, permIn_trans _ _ _ _ _ hP (permIn_mono _ _ _ _ _ _ (by omega) hlt (by omega) q3), fun k hk => ?_, fun k hk => ?_⟩
    · by_cases hki : k = i
      · subst hki
        rw [← hA, show min (A + 2 * s) N = A + 2 * s by omega]; exact q4
      · have : (k + 1) * (2 * s) ≤ i * (2 * s) := Nat.mul_le_mul_right _ (by omega)
        rw [Nat.succ_mul, ← hA] at this
        exact SortedIn.other (hdn k (by omega)) q3 (.inl (by omega))
    · have : (2 * i + 2) * s ≤ k * s := Nat.mul_le_mul_right _ (by omega)
      rw [Nat.add_mul, m1] at this
      exact SortedIn.other (htd k (by omega)) q3 (.inr (by omega))
  · have hfin : ∀ (d2 : Array α) (h2 : Hp), Lies h0 id 2 (Full e pre post d2) h2 → PermIn A N d' d2 → SortedIn lt A N d2 → ∃ d3, Lies h0 id 2 (Full e pre post d3) h2 ∧ PermIn 0 N d d3 ∧ Blk lt (2 * s) N d3 := fun d2 h2 q2 q3 q4 => by
      refine ⟨d2, q2, permIn_trans _ _ _ _ _ hP (permIn_mono _ _ _ _ _ _ (by omega) (by omega) (by omega) q3), fun k => ?_⟩
      by_cases hki : k = i
      · subst hki
        rw [← hA, show min (A + 2 * s) N = N by omega]; exact q4
      · by_cases hk2 : k < i
        · have : (k + 1) * (2 * s) ≤ i * (2 * s) := Nat.mul_le_mul_right _ (by omega)
          rw [Nat.succ_mul, ← hA] at this
          exact SortedIn.other (hdn k (by omega)) q3 (.inl (by omega))
        · have : (i + 1) * (2 * s) ≤ k * (2 * s) := Nat.mul_le_mul_right _ (by omega)
          rw [m3] at this
          intro p q h1 h2 h3
          omega
    by_cases hm : A + s < N
    · rw [show min (A + s) N = A + s by omega] at t1
      rw [show min (A + s + s) N = N by omega] at t2
      obtain ⟨h2, d2, q1, q2, q3, q4⟩ := s_sym hS C c N hd (N + 1) n A (A + s) N d' g' (by omega) (by omega) (by omega) (by omega) (by omega) hd' hL t1 t2
      simp (maxSteps := 2000000) (discharger := omega) only [xz,xc,xo,xr,x0,x1,xd,kont_call,Reg.isA,Reg.isV,Reg.stays,Reg.onto,↓reduceIte,reduceCtorEq,Nat.reduceEqDiff,Nat.reduceLT,wrap_i64,int_lt_t,int_le_f,e0',e1,q1]
      exact hfin d2 h2 q2 q3 q4
    · rw [show min (A + s) N = N by omega] at t1
      simp (maxSteps := 2000000) (discharger := omega) only [xz,xc,xo,xr,x0,x1,xd,Reg.isA,Reg.isV,Reg.stays,Reg.onto,↓reduceIte,reduceCtorEq,Nat.reduceEqDiff,Nat.reduceLT,wrap_i64,int_lt_f,int_le_f,e0',e1]
      exact hfin d' g' hL (permIn_refl _ _ _) t1

theorem s_stb (hS : SWO lt) (C : Cm e lt tot ω B g fs caps h0 id pre post) (c : Bool) (N : Nat) (d : Array α) (n : Nat) (h : Hp) (hN : d.size = N) (hd : N ≤ 1000000000) (hn : B + 2 * N + 30 < n) (hL : Lies h0 id 2 (Full e pre post d) h) :
    ∃ h' d', call F n tot ω 102 [.row id 2 pre.length N c, .int .i64 N, .fn (.func g) fs caps] h = some (.tup [], h') ∧ Lies h0 id 2 (Full e pre post d') h' ∧ PermIn 0 N d d' ∧ SortedIn lt 0 N d' := by
  obtain ⟨n, rfl⟩ : ∃ m, n = m + 1 := ⟨n - 1, by omega⟩
  suffices hx : ∃ v h', call F (n + 1) tot ω 102 [.row id 2 pre.length N c, .int .i64 N, .fn (.func g) fs caps] h = some (v, h') ∧ v = .tup [] ∧ ∃ d', Lies h0 id 2 (Full e pre post d') h' ∧ PermIn 0 N d d' ∧ SortedIn lt 0 N d' by
    obtain ⟨v, h', e1, rfl, d', e2⟩ := hx
    exact ⟨h', d', e1, e2⟩
  refine call_of (fn := a102) f102 (P := fun v h' => v = .tup [] ∧ ∃ d', Lies h0 id 2 (Full e pre post d') h' ∧ PermIn 0 N d d' ∧ SortedIn lt 0 N d') ?_
  unfold a102
  simp (maxSteps := 2000000) (discharger := omega) only [xz,xc,xo,xr,x0,Reg.isA,Reg.isV,Reg.stays,Reg.onto,↓reduceIte,reduceCtorEq,Nat.reduceEqDiff,Nat.reduceLT,Nat.reduceAdd]
  refine wpi_loop (fun x r g' => ∃ (i : Nat) (d' : Array α), r = [(0, .val (.row id 2 pre.length N c)), (1, .val (.int .i64 N)), (2, .val (.fn (.func g) fs caps)), (6, .val (.int .i64 20)), (7, .val (.int .i64 (20 * i : Nat))), (8, .val (.int .i64 (20 * i + 20 : Nat)))] ∧
    x = N - 20 * i ∧ 20 * i ≤ N ∧ Lies h0 id 2 (Full e pre post d') g' ∧ PermIn 0 N d d' ∧ ∀ k, k < i → SortedIn lt (20 * k) (20 * k + 20) d') N (by omega)
    ⟨0, d, rfl, by omega, by omega, hL, permIn_refl _ _ _, fun k hk => by omega⟩ ?_
  rintro x r g' ⟨i, d', rfl, rfl, hi, hL, hP, hdn⟩
  have hd' : d'.size = N := by rw [hP.1, hN]
  by_cases hlt : 20 * i + 20 ≤ N
  · obtain ⟨h2, q1, q2⟩ := s_ins C c d' (20 * i) (20 * i + 20) n g' (by omega) (by omega) (by omega) hL (by omega)
    obtain ⟨q3, q4⟩ := insertionSort_holds (lt := lt) hS d' (20 * i) (20 * i + 20) (by omega) (by omega)
    rw [hd'] at q1
    have e2 : ((20 * i + 20 : Nat) : Int) + 20 = ((20 * (i + 1) + 20 : Nat) : Int) := by omega
    simp (maxSteps := 2000000) (discharger := omega) only [xz,xc,xo,xr,x0,x1,xd,kont_call,Reg.isA,Reg.isV,Reg.stays,Reg.onto,↓reduceIte,reduceCtorEq,Nat.reduceEqDiff,Nat.reduceLT,wrap_i64,int_le_t,e2,q1]
    refine ⟨N - 20 * (i + 1), by omega, i + 1, _, rfl, rfl, by omega, q2, permIn_trans _ _ _ _ _ hP (permIn_mono _ _ _ _ _ _ (by omega) hlt (by omega) q3), fun k hk => ?_⟩
    by_cases hki : k = i
    · subst hki; exact q4
    · exact SortedIn.other (hdn k (by omega)) q3 (.inl (by omega))
  · obtain ⟨h2, q1, q2⟩ := s_ins C c d' (20 * i) N n g' (by omega) (by omega) (by omega) hL (by omega)
    obtain ⟨q3, q4⟩ := insertionSort_holds (lt := lt) hS d' (20 * i) N (by omega) (by omega)
    rw [hd'] at q1
    have hB : Blk lt 20 N (insertionSort lt d' (20 * i) N) := fun k => by
      rw [Nat.mul_comm k 20]
      by_cases hki : k = i
      · subst hki; rw [show min (20 * k + 20) N = N by omega]; exact q4
      · by_cases hk : k < i
        · rw [show min (20 * k + 20) N = 20 * k + 20 by omega]
          exact SortedIn.other (hdn k hk) q3 (.inl (by omega))
        · intro p q h1 h2 h3; omega
    have hP2 := permIn_trans _ _ _ _ _ hP (permIn_mono _ _ _ _ _ _ (Nat.zero_le _) (Nat.le_refl N) (by omega) q3)
    generalize insertionSort lt d' (20 * i) N = d2 at q1 q2 hB hP2
    simp (maxSteps := 2000000) (discharger := omega) only [xz,xc,xo,xr,x0,x1,xd,kont_call,Reg.isA,Reg.isV,Reg.stays,Reg.onto,↓reduceIte,reduceCtorEq,Nat.reduceEqDiff,Nat.reduceLT,int_le_f,q1]
    refine wpi_loop (fun x r g' => ∃ (s : Nat) (d' : Array α), r = [(0, .val (.row id 2 pre.length N c)), (1, .val (.int .i64 N)), (2, .val (.fn (.func g) fs caps)), (6, .val (.int .i64 s))] ∧
      x = N - s ∧ 0 < s ∧ s ≤ 2 * N + 20 ∧ Lies h0 id 2 (Full e pre post d') g' ∧ PermIn 0 N d d' ∧ Blk lt s N d') (N - 20) (by omega)
      ⟨20, d2, rfl, by omega, by omega, by omega, q2, hP2, hB⟩ ?_
    rintro x r g'' ⟨s, d3, rfl, rfl, hs0, hs1, hL3, hP3, hB3⟩
    have hd3 : d3.size = N := by rw [hP3.1, hN]
    by_cases hs : s < N
    · simp (maxSteps := 2000000) (discharger := omega) only [xz,xc,xo,xr,x0,x1,xd,Reg.isA,Reg.isV,Reg.stays,Reg.onto,↓reduceIte,reduceCtorEq,Nat.reduceEqDiff,Nat.reduceLT,int_lt_t]
      refine (w_z1 hS C c N d3 s n g'' hd3 hd hs0 hs (by omega) hL3 hB3).mono ?_
      rintro e1 r' h' ⟨rfl, rfl, d4, v1, v2, v3⟩
      simp (maxSteps := 2000000) (discharger := omega) only [xc]
      exact ⟨N - 2 * s, by omega, 2 * s, d4, rfl, rfl, by omega, by omega, v1, permIn_trans _ _ _ _ _ hP3 v2, v3⟩
    · simp (maxSteps := 2000000) (discharger := omega) only [xz,xc,xo,xr,x0,x1,xd,Reg.isA,Reg.isV,Reg.stays,Reg.onto,↓reduceIte,reduceCtorEq,Nat.reduceEqDiff,Nat.reduceLT,exists_eq_left',int_lt_f]
      refine ⟨d3, hL3, hP3, ?_⟩
      have := hB3 0
      rwa [Nat.zero_mul, show min (0 + s) N = N by omega] at this
end
end Go.Proofs.YtpgmohjmpaifbaaDoor.Im

/- S21Fi: files; files by their paths. -/
set_option linter.unusedVariables false
set_option linter.unusedSimpArgs false
open Go Go.Im Go.Sort
namespace Go.Proofs.YtpgmohjmpaifbaaDoor.Im

theorem flLt_swo : SWO flLt := ⟨fun x => bl_irrefl _, fun x y z h1 h2 => bl_trans _ _ _ h1 h2, fun x y z h1 h2 => bl_ntrans _ _ _ h1 h2⟩

theorem encFl : EncOk true 2 Fl.av := ⟨fun x => rfl, fun x y => rfl, fun x => rfl, fun x => rfl⟩

section
variable {n : Nat} {tot : Bool} {ω : Nat → Nat} {h : Hp}
theorem f113 : F 113 = some (.inr cmpG) := by kernel_rfl
theorem c113 (a b : By) (hn : 0 < n) : call F n tot ω 113 [.str a, .str b] h = some (.int .i64 (Go.Lib.compareBytes a b), h) := by
  obtain ⟨n, rfl⟩ : ∃ m, n = m + 1 := ⟨n - 1, by omega⟩
  rw [call_inr f113]; rfl
theorem c103 (a b : By) (hn : 1 < n) : call F n tot ω 103 [.str a, .str b] h = some (.int .i64 (Go.Lib.compareBytes a b), h) := by
  obtain ⟨n, rfl⟩ : ∃ m, n = m + 1 := ⟨n - 1, by omega⟩
  refine call_eq (fn := a103) f103 ?_
  unfold a103
  have k := fun h => c113 (n := n) (tot := tot) (ω := ω) (h := h) a b (by omega)
  simp (maxSteps := 2000000) (discharger := omega) only [xz,xc,xo,xr,x0,xd,kont_call,Reg.isA,Reg.isV,Reg.stays,Reg.onto,↓reduceIte,reduceCtorEq,Nat.reduceEqDiff,Nat.reduceLT,Nat.reduceAdd,exists_eq_left',k]
theorem c78 (a b : By) (hn : 2 < n) : call F n tot ω 78 [.str a, .str b] h = some (.int .i64 (Go.Lib.compareBytes a b), h) := by
  obtain ⟨n, rfl⟩ : ∃ m, n = m + 1 := ⟨n - 1, by omega⟩
  refine call_eq (fn := a78) f78 ?_
  unfold a78
  have k := fun h => c103 (n := n) (tot := tot) (ω := ω) (h := h) a b (by omega)
  simp (maxSteps := 2000000) (discharger := omega) only [xz,xc,xo,xr,x0,xd,kont_call,Reg.isA,Reg.isV,Reg.stays,Reg.onto,↓reduceIte,reduceCtorEq,Nat.reduceEqDiff,Nat.reduceLT,Nat.reduceAdd,exists_eq_left',k]
theorem c77 (x y : Fl) (hn : 3 < n) : call F n tot ω 77 [x.av, y.av] h = some (.int .i64 (Go.Lib.compareBytes x.p y.p), h) := by
  obtain ⟨n, rfl⟩ : ∃ m, n = m + 1 := ⟨n - 1, by omega⟩
  refine call_eq (fn := a77) f77 ?_
  unfold a77 Fl.av
  have k := fun h => c78 (n := n) (tot := tot) (ω := ω) (h := h) x.p y.p (by omega)
  simp (maxSteps := 2000000) (discharger := omega) only [xz,xc,xo,xr,x0,x1,xd,kont_call,Reg.isA,Reg.isV,Reg.stays,Reg.onto,↓reduceIte,reduceCtorEq,Nat.reduceEqDiff,Nat.reduceLT,Nat.reduceAdd,exists_eq_left',Nat.reduceBEq,k]

theorem cmFl (tot : Bool) (ω : Nat → Nat) (h0 : Hp) (id : Nat) (pre post : List AV) : Cm Fl.av flLt tot ω 3 77 [] [] h0 id pre post :=
  ⟨encFl, fun n hn x y d h _ => ⟨_, h, c77 x y hn, .refl _, cmp_lt _ _⟩⟩

theorem c111n (hn : 3 < n) : call F n tot ω 111 [.nils, .int .i64 0, .int .i64 0, .fn (.func 77) [] []] h = some (.tup [], h) := by
  obtain ⟨n, rfl⟩ : ∃ m, n = m + 1 := ⟨n - 1, by omega⟩
  refine call_eq (fn := a111) f111 ?_
  unfold a111
  simp (maxSteps := 2000000) (discharger := omega) only [xz,xc,xo,xr,x0,x1,xd,Reg.isA,Reg.isV,Reg.stays,Reg.onto,↓reduceIte,reduceCtorEq,Nat.reduceEqDiff,Nat.reduceLT,Nat.reduceAdd,Int.reduceAdd,wrap_i64]
  refine wpi_loop (fun k r g' => r = [(0, .val .nils), (1, .val (.int .i64 0)), (2, .val (.int .i64 0)), (3, .val (.fn (.func 77) [] [])), (8, .val (.int .i64 1))] ∧ k = 0 ∧ g' = h) 0 (by omega) ⟨rfl, rfl, rfl⟩ ?_
  rintro k r g' ⟨rfl, rfl, rfl⟩
  simp (maxSteps := 2000000) (discharger := omega) only [xz,xc,xo,xr,x0,x1,xd,Reg.isA,Reg.isV,Reg.stays,Reg.onto,↓reduceIte,reduceCtorEq,Nat.reduceEqDiff,Nat.reduceLT,exists_eq_left',int_lt_f]
theorem c102n (hn : 5 < n) : call F n tot ω 102 [.nils, .int .i64 0, .fn (.func 77) [] []] h = some (.tup [], h) := by
  obtain ⟨n, rfl⟩ : ∃ m, n = m + 1 := ⟨n - 1, by omega⟩
  refine call_eq (fn := a102) f102 ?_
  unfold a102
  simp (maxSteps := 2000000) (discharger := omega) only [xz,xc,xo,xr,x0,Reg.isA,Reg.isV,Reg.stays,Reg.onto,↓reduceIte,reduceCtorEq,Nat.reduceEqDiff,Nat.reduceLT,Nat.reduceAdd]
  refine wpi_loop (fun k r g' => r = [(0, .val .nils), (1, .val (.int .i64 0)), (2, .val (.fn (.func 77) [] [])), (6, .val (.int .i64 20)), (7, .val (.int .i64 0)), (8, .val (.int .i64 20))] ∧ k = 0 ∧ g' = h) 0 (by omega) ⟨rfl, rfl, rfl⟩ ?_
  rintro k r g' ⟨rfl, rfl, rfl⟩
  have k1 := c111n (n := n) (tot := tot) (ω := ω) (h := g') (by omega)
  simp (maxSteps := 2000000) (discharger := omega) only [xz,xc,xo,xr,x0,x1,xd,kont_call,Reg.isA,Reg.isV,Reg.stays,Reg.onto,↓reduceIte,reduceCtorEq,Nat.reduceEqDiff,Nat.reduceLT,int_le_f,k1]
  refine wpi_loop (fun k r g => r = [(0, .val .nils), (1, .val (.int .i64 0)), (2, .val (.fn (.func 77) [] [])), (6, .val (.int .i64 20))] ∧ k = 0 ∧ g = g') 0 (by omega) ⟨rfl, rfl, rfl⟩ ?_
  rintro k r g ⟨rfl, rfl, rfl⟩
  simp (maxSteps := 2000000) (discharger := omega) only [xz,xc,xo,xr,x0,x1,xd,Reg.isA,Reg.isV,Reg.stays,Reg.onto,↓reduceIte,reduceCtorEq,Nat.reduceEqDiff,Nat.reduceLT,exists_eq_left',int_lt_f]

theorem c76 (v : AV) (fs : List Fl) (lo : Nat) (hr : RowAt h 2 lo (fs.map Fl.av) v) (hlo : lo ≤ h.length) (hl : fs.length ≤ 1000000000) (hn : 2 * fs.length + 50 < n) :
    ∃ (m : Hp) (fs' : List Fl), call F n tot ω 76 [v, .fn (.func 77) [] []] h = some (.tup [], h.take lo ++ m) ∧ RowAt (h.take lo ++ m) 2 lo (fs'.map Fl.av) v ∧ fs'.Perm fs ∧ ∀ j k (hj : j < fs'.length) (hk : k < fs'.length), j < k → flLt fs'[k] fs'[j] = false := by
  obtain ⟨n, rfl⟩ : ∃ m, n = m + 1 := ⟨n - 1, by omega⟩
  rcases hr with ⟨rfl, e⟩ | ⟨id, post, rfl, hid, hlo2⟩
  · have : fs = [] := by simpa using e
    subst this
    refine ⟨h.drop lo, [], ?_, .inl ⟨rfl, rfl⟩, .refl _, fun j k hj => by simp at hj⟩
    rw [List.take_append_drop]
    refine call_eq (fn := a76) f76 ?_
    unfold a76
    have k1 := c102n (n := n) (tot := tot) (ω := ω) (h := h) (by omega)
    simp (maxSteps := 2000000) (discharger := omega) only [xz,xc,xo,xr,x0,x4,xd,kont_call,Reg.isA,Reg.isV,Reg.onto,↓reduceIte,reduceCtorEq,Nat.reduceEqDiff,Nat.reduceLT,Nat.reduceAdd,Int.cast_ofNat_Int,exists_eq_left',k1]
  · have hL : Lies h id 2 (Full Fl.av [] post fs.toArray) h := .start (by rw [hid]; simp [Full])
    obtain ⟨h2, d2, q1, q2, q3, q4⟩ := s_stb (tot := tot) (ω := ω) flLt_swo (cmFl tot ω h id [] post) false fs.length fs.toArray n h (by simp) hl (by omega) hL
    have hfin := q2.fin
    obtain ⟨m, hm⟩ := hfin
    have hidl := (List.getElem?_eq_some_iff.1 hid).1
    have e1 : h2 = h.take lo ++ ((h.set id (.row 2 (Full Fl.av [] post d2))).drop lo ++ m) := by
      rw [hm, ← List.append_assoc]
      congr 1
      rw [show h.take lo = (h.set id (.row 2 (Full Fl.av [] post d2))).take lo by rw [List.take_set_of_le hlo2], List.take_append_drop]
    refine ⟨(h.set id (.row 2 (Full Fl.av [] post d2))).drop lo ++ m, d2.toList, ?_, .inr ⟨id, post, ?_, ?_, hlo2⟩, ?_, fun j k hj hk hjk => ?_⟩
    · rw [← e1]
      refine call_eq (fn := a76) f76 ?_
      unfold a76
      rw [List.length_map]
      simp only [List.length_nil] at q1
      simp (maxSteps := 2000000) (discharger := omega) only [xz,xc,xo,xr,x0,x4,xd,kont_call,Reg.isA,Reg.isV,Reg.onto,↓reduceIte,reduceCtorEq,Nat.reduceEqDiff,Nat.reduceLT,Nat.reduceAdd,exists_eq_left',q1]
    · have : d2.size = fs.length := by rw [q3.1]; simp
      simp [this]
    · rw [← e1, q2.row]; simp [Full]
    · have := q3.2.2
      have hs : d2.size = fs.length := by rw [q3.1]; simp
      rw [show d2.extract 0 fs.length = d2 by rw [← hs]; simp, show fs.toArray.extract 0 fs.length = fs.toArray by simp] at this
      simpa using this
    · have hs : d2.size = fs.length := by rw [q3.1]; simp
      have hj' : j < d2.size := by simpa using hj
      have hk' : k < d2.size := by simpa using hk
      have := q4 j k (Nat.zero_le _) hjk (by omega)
      simpa [hj', hk'] using this

theorem c75 (a : AV) (fs : List Fl) (ha : IsRd 2 (fs.map Fl.av) a) (hl : fs.length ≤ 1000000) (hn : 2 < n) :
    ∃ v m, call F n tot ω 75 [a] h = some (v, h ++ m) ∧ RowAt (h ++ m) 2 h.length (fs.map Fl.av) v := by
  obtain ⟨n, rfl⟩ : ∃ m, n = m + 1 := ⟨n - 1, by omega⟩
  rcases ha with ⟨rfl, e⟩ | ⟨c, rfl⟩
  · rw [e]
    refine ⟨.nils, [], ?_, .inl ⟨rfl, rfl⟩⟩
    rw [List.append_nil]
    refine call_eq (fn := a75) f75 ?_
    unfold a75
    simp (maxSteps := 2000000) (discharger := omega) only [xz,xc,xo,xr,x0,x2,xd,isNil,Bool.bne_false,Reg.isA,Reg.isV,Reg.stays,Reg.onto,↓reduceIte,reduceCtorEq,Nat.reduceEqDiff,Nat.reduceLT,exists_eq_left']
  · obtain ⟨v, m, q1, q2⟩ := row_all (h := h) (sz := 2) (es := fs.map Fl.av) (bytes := 40) (by rw [List.length_map]; omega)
    refine ⟨v, m, ?_, q2⟩
    refine call_eq (fn := a75) f75 ?_
    unfold a75
    simp (maxSteps := 2000000) (discharger := omega) only [xz,xc,xo,xr,x0,x2,x5,xd,xb,isNil,selems,srcElems,partEs,placeEs,Bool.bne_false,Reg.isA,Reg.isV,Reg.stays,Reg.onto,↓reduceIte,reduceCtorEq,Nat.reduceEqDiff,Nat.reduceLT,exists_eq_left',q1,List.replicate]

theorem c44 (a : AV) (fs : List Fl) (ha : IsRd 2 (fs.map Fl.av) a) (hl : fs.length ≤ 1000000) (hn : 2 * fs.length + 60 < n) :
    ∃ (v : AV) (m : Hp) (fs' : List Fl), call F n tot ω 44 [a] h = some (v, h ++ m) ∧ RowAt (h ++ m) 2 h.length (fs'.map Fl.av) v ∧ fs'.Perm fs ∧ ∀ j k (hj : j < fs'.length) (hk : k < fs'.length), j < k → flLt fs'[k] fs'[j] = false := by
  obtain ⟨n, rfl⟩ : ∃ m, n = m + 1 := ⟨n - 1, by omega⟩
  obtain ⟨v, m, q1, q2⟩ := c75 (n := n) (tot := tot) (ω := ω) (h := h) a fs ha hl (by omega)
  obtain ⟨m2, fs', q3, q4, q5, q6⟩ := c76 (n := n) (tot := tot) (ω := ω) (h := h ++ m) v fs h.length q2 (by simp) (by omega) (by omega)
  rw [List.take_left] at q3 q4
  refine ⟨v, m2, fs', ?_, q4, q5, q6⟩
  refine call_eq (fn := a44) f44 ?_
  unfold a44
  simp (maxSteps := 2000000) (discharger := omega) only [xz,xc,xo,xr,x0,xd,kont_call,Reg.isA,Reg.isV,Reg.stays,Reg.onto,↓reduceIte,reduceCtorEq,Nat.reduceEqDiff,Nat.reduceLT,exists_eq_left',q1,q3]
end
end Go.Proofs.YtpgmohjmpaifbaaDoor.Im

/- Joined: S21Be, S21Bu, S21Po, S21Tk, S21Tp, S21Pa, S21Pe, S21To, S21Tq, S21Tr, S21Rf, S21Tw. -/
import Derived.Test.YtpgmohjmpaifbaaDoorBo
import Derived.Test.YtpgmohjmpaifbaaDoorCc
import Derived.Test.YtpgmohjmpaifbaaDoorImRng
import Derived.KernelRfl
/- S21Be: the reference's tree of files, told in full. -/
set_option linter.unusedVariables false
set_option linter.unusedSimpArgs false
open Go Go.Im
namespace Go.Proofs.YtpgmohjmpaifbaaDoor.Im
def Lf.pp (x : Lf) : By × List Pt := (x.p, x.ps)
def Fl.pp (l m M : Int) (f : Fl) : By × List Pt := (f.p, partsR l m M f.d)
section
variable {n : Nat} {tot : Bool} {ω : Nat → Nat} {h : Hp}

set_option maxHeartbeats 1000000 in
set_option maxRecDepth 100000 in
theorem c21e (c : AV) (l m M : Int) (a : AV) (fs : List Fl) (hc : Cf c l m M) (hm : 1 ≤ m) (hm2 : m ≤ 1000000000) (ha : IsRd 2 (fs.map Fl.av) a) (hok : ∀ f ∈ fs, f.ok) (hd : ∀ f ∈ fs, f.d.length ≤ 1000000) (hl : fs.length ≤ 1000000) (hn : fs.length + 1000400 < n) :
    ∃ (v' : AV) (h' : Hp) (ls : List Lf), call F n tot ω 21 [c, a] h = some (v', h') ∧ IsRd 2 (ls.map Lf.av) v' ∧ Below h.length h h' ∧ ls.length = fs.length ∧ (∃ gs : List Fl, gs.Perm fs ∧ SrtF gs ∧ ls.map Lf.pp = gs.map (Fl.pp l m M)) ∧ ∀ x ∈ ls, x.ok ∧ ∃ f ∈ fs, x.p = f.p ∧ x.ps = partsR l m M f.d := by
  obtain ⟨n, rfl⟩ : ∃ m, n = m + 1 := ⟨n - 1, by omega⟩
  suffices hx : ∃ v' h', call F (n + 1) tot ω 21 [c, a] h = some (v', h') ∧ ∃ ls : List Lf, IsRd 2 (ls.map Lf.av) v' ∧ Below h.length h h' ∧ ls.length = fs.length ∧ (∃ gs : List Fl, gs.Perm fs ∧ SrtF gs ∧ ls.map Lf.pp = gs.map (Fl.pp l m M)) ∧ ∀ x ∈ ls, x.ok ∧ ∃ f ∈ fs, x.p = f.p ∧ x.ps = partsR l m M f.d by
    obtain ⟨v', h', e1, ls, e2⟩ := hx
    exact ⟨v', h', ls, e1, e2⟩
  refine call_of (fn := a21) f21 (P := fun v' h' => ∃ ls : List Lf, IsRd 2 (ls.map Lf.av) v' ∧ Below h.length h h' ∧ ls.length = fs.length ∧ (∃ gs : List Fl, gs.Perm fs ∧ SrtF gs ∧ ls.map Lf.pp = gs.map (Fl.pp l m M)) ∧ ∀ x ∈ ls, x.ok ∧ ∃ f ∈ fs, x.p = f.p ∧ x.ps = partsR l m M f.d) ?_
  obtain ⟨cs, hcs, hcl, h8, h9, h10⟩ := hc.agg
  subst hcs
  have htk : List.take 12 cs = cs := List.take_of_length_le (by omega)
  obtain ⟨gv, m1, gs, k49, hg, hP, hSr⟩ := c49 (n := n) (tot := tot) (ω := ω) (h := h) a fs ha hok hl (by omega)
  have hgl : gs.length = fs.length := hP.length_eq
  have hglen := hg.at.len
  rw [List.length_map] at hglen
  unfold a21
  simp (maxSteps := 2000000) (discharger := omega) only [xz,xc,xo,xr,x0,xd,kont_call,Reg.isA,Reg.isV,Reg.stays,Reg.onto,↓reduceIte,reduceCtorEq,Nat.reduceEqDiff,Nat.reduceLT,Nat.reduceAdd,hcl,k49]
  refine wpi_loop (fun x r g => ∃ (i : Nat) (ov : AV) (ls : List Lf), r = [(2, .var (.agg cs)), (5, .val ov), (6, .val gv), (7, .val (.int .i64 i))] ∧ x = gs.length - i ∧ i ≤ gs.length ∧ LateApp h.length 2 (ls.map Lf.av) g ov ∧ Below h.length h g ∧ RowEx g 2 h.length (gs.map Fl.av) gv ∧ ls.length = i ∧ ls.map Lf.pp = (gs.take i).map (Fl.pp l m M) ∧ ∀ x ∈ ls, x.ok ∧ ∃ f ∈ fs, x.p = f.p ∧ x.ps = partsR l m M f.d) gs.length (by omega)
    ⟨0, .nils, [], rfl, rfl, Nat.zero_le _, late_nils _ _ _, .app _ _ _ (Nat.le_refl _), hg, rfl, rfl, fun x hx => by cases hx⟩ ?_
  rintro x r g ⟨i, ov, ls, rfl, rfl, hi, hA, hB, hR, hli, hlp, hls⟩
  by_cases hlt : i < gs.length
  · rcases hR with ⟨rfl, e0⟩ | ⟨id, rfl, hid, hlo⟩
    · have := congrArg List.length e0
      simp at this
      subst this
      simp at hlt
    · have q1 := fl_get' hlt
      have hmem : gs[i] ∈ fs := hP.mem_iff.1 (List.getElem_mem hlt)
      have of := hok _ hmem
      have t1 := rd_sub of 1
      have hidl := (List.getElem?_eq_some_iff.1 hid).1
      obtain ⟨pv, h2, k25, hpv, hB2⟩ := c25 (n := n) (tot := tot) (ω := ω) (h := g) (.agg cs) l m M gs[i].d gs[i].v hc hm hm2 of (hd _ hmem) (by have := hd _ hmem; omega)
      have t4 := rd_nt hpv
      have t5 := rd_cells hpv
      have hid2 : h2[id]? = some (.row 2 (gs.map Fl.av)) := by rw [hB2.2 id hidl]; exact hid
      obtain ⟨v', h3, w1, w2, w3, w4⟩ := late_app2 (bytes := 40) (xs := [.agg [.str gs[i].p, pv]]) (hA.belw (lo' := 0) hB2) (by have := hB.1; have := hB2.1; omega) (by simp) (by simp; omega)
      have hid3 : RowEx h3 2 h.length (gs.map Fl.av) (.row id 2 0 gs.length false) := .inr ⟨id, by simp, w4 _ _ hid2 rfl, hlo⟩
      simp (maxSteps := 2000000) (discharger := omega) only [xz,xc,xo,xr,x0,x1,x3,x4,x5,xd,xb,kont_call,selems,srcElems,place,partVals,partEs,placeEs,Reg.isA,Reg.isV,Reg.stays,Reg.onto,↓reduceIte,Nat.reduceEqDiff,Nat.reduceLT,Nat.reduceAdd,Nat.zero_lt_succ,List.set_cons_zero,wrap_i64,int_lt_t,int_le_t,nat_le_t,hid,hid2,q1,t4,t5,htk,hcl,w_regionA2,inOrd,List.filterMap_cons,List.filterMap_nil,Is,k25,w1,hA.1.isRow,List.replicate,List.length_map]
      refine ⟨gs.length - (i + 1), by omega, i + 1, v', ls ++ [⟨gs[i].p, partsR l m M gs[i].d, pv⟩], by rw [show ((i : Nat) : Int) + 1 = ((i + 1 : Nat) : Int) by omega], rfl, by omega, by rw [List.map_append]; exact w2, hB.trans ((hB2.low hB.1).trans w3), hid3, by simp [hli], by rw [List.take_succ_eq_append_getElem hlt, List.map_append, List.map_append, hlp]; rfl, fun x hx => ?_⟩
      rcases List.mem_append.1 hx with hx | hx
      · exact hls x hx
      · rw [List.mem_singleton] at hx
        subst hx
        exact ⟨⟨hpv, partsL_ok _ _ _⟩, gs[i], hmem, rfl, rfl⟩
  · obtain rfl : i = gs.length := by omega
    simp (maxSteps := 2000000) (discharger := omega) only [xz,xc,xo,xr,x0,x1,x4,xd,Reg.isA,Reg.isV,Reg.stays,Reg.onto,↓reduceIte,Nat.reduceEqDiff,Nat.reduceLT,exists_eq_left',int_lt_f,Nat.sub_self,hglen]
    rw [List.take_length] at hlp
    exact ⟨ls, isRd_app hA.1, hB, by omega, ⟨gs, hP, hSr, hlp⟩, hls⟩
end
end Go.Proofs.YtpgmohjmpaifbaaDoor.Im

/- S21Bu: conf, copied, the reference's Same. -/
set_option linter.unusedVariables false
set_option linter.unusedSimpArgs false
open Go Go.Im
namespace Go.Proofs.YtpgmohjmpaifbaaDoor.Im
section
variable {n : Nat} {tot : Bool} {ω : Nat → Nat} {h : Hp}

theorem cf_of (y0 y1 y2 y3 y4 y5 y6 y7 y11 : AV) (l m M : Int) : Cf (.agg [y0, y1, y2, y3, y4, y5, y6, y7, .int .i64 l, .int .i64 m, .int .i64 M, y11]) l m M := ⟨_, rfl, rfl, rfl, rfl, rfl⟩
theorem c16e (y0 y1 y2 y3 y4 y5 y6 y7 y11 : AV) (l m M : Int) (hy : y0.notTup = true) (hn : 0 < n) :
    ∃ y l' m' M', call F n tot ω 16 [.agg [y0, y1, y2, y3, y4, y5, y6, y7, .int .i64 l, .int .i64 m, .int .i64 M, y11]] h = some (.agg [y0, y1, y2, y3, y4, y5, y6, y7, .int .i64 l', .int .i64 m', .int .i64 M', y], h) ∧ okConf l' m' M' := by
  obtain ⟨n, rfl⟩ : ∃ m, n = m + 1 := ⟨n - 1, by omega⟩
  obtain ⟨a1, a2⟩ := wrap64_tmod l 64 (by decide)
  obtain ⟨b1, b2⟩ := wrap64_tmod m 256 (by decide)
  obtain ⟨d1, d2⟩ := wrap64_tmod M 512 (by decide)
  obtain ⟨tl, htl⟩ : ∃ tl, (IntKind.u64.wrap l).tmod 64 = tl := ⟨_, rfl⟩
  obtain ⟨tm, htm⟩ : ∃ tm, (IntKind.u64.wrap m).tmod 256 = tm := ⟨_, rfl⟩
  obtain ⟨tM, htM⟩ : ∃ tM, (IntKind.u64.wrap M).tmod 512 = tM := ⟨_, rfl⟩
  rw [htl] at a1 a2
  rw [htm] at b1 b2
  rw [htM] at d1 d2
  suffices hx : ∃ u h', call F (n + 1) tot ω 16 [.agg [y0, y1, y2, y3, y4, y5, y6, y7, .int .i64 l, .int .i64 m, .int .i64 M, y11]] h = some (u, h') ∧ h' = h ∧ u = .agg [y0, y1, y2, y3, y4, y5, y6, y7, .int .i64 (1 + tl), .int .i64 (1 + tm), .int .i64 (1 + tl + tM), y11] by
    obtain ⟨u, h', e1, rfl, rfl⟩ := hx
    exact ⟨_, _, _, _, e1, by unfold okConf; omega⟩
  refine call_of (fn := a16) f16 (P := fun u h' => h' = h ∧ u = .agg [y0, y1, y2, y3, y4, y5, y6, y7, .int .i64 (1 + tl), .int .i64 (1 + tm), .int .i64 (1 + tl + tM), y11]) ?_
  unfold a16
  simp (maxSteps := 2000000) (discharger := omega) only [xz,xc,xo,xr,x0,x1,x2,x5,xd,wr,Reg.isA,Reg.isV,Reg.stays,Reg.onto,↓reduceIte,reduceCtorEq,Nat.reduceEqDiff,Nat.reduceLT,Nat.reduceAdd,exists_eq_left',Nat.reduceBEq,xu,List.set_cons_zero,List.set_cons_succ,wrap_i64,int_eq_f,nat_le_t,htl,htm,htM]

theorem c20 (ks ls : List Lf) (a b : AV) (ha : IsRd 2 (ks.map Lf.av) a) (hb : IsRd 2 (ls.map Lf.av) b) (hk : ∀ x ∈ ks, x.ok ∧ x.ps.length ≤ 1000000) (hl : ∀ x ∈ ls, x.ok ∧ x.ps.length ≤ 1000000) (he : ks.map Lf.pp = ls.map Lf.pp) (hll : ks.length ≤ 1000000) (hn : 2000000 < n) :
    call F n tot ω 20 [a, b] h = some (.bool true, h) := by
  obtain ⟨n, rfl⟩ : ∃ m, n = m + 1 := ⟨n - 1, by omega⟩
  refine call_eq (fn := a20) f20 ?_
  have la := ha.len
  have lb := hb.len
  have hle : ks.length = ls.length := by have := congrArg List.length he; simpa using this
  rw [List.length_map] at la
  rw [List.length_map, ← hle] at lb
  unfold a20
  simp (maxSteps := 2000000) (discharger := omega) only [xz,xc,xo,xr,x0,x1,x4,xd,Reg.isA,Reg.isV,Reg.stays,Reg.onto,↓reduceIte,reduceCtorEq,Nat.reduceEqDiff,Nat.reduceLT,Nat.reduceAdd,int_bne_f,la,lb]
  refine wpi_loop (fun x r g => ∃ (i : Nat), r = [(0, .val a), (1, .val b), (5, .val (.int .i64 i))] ∧ x = ks.length - i ∧ i ≤ ks.length ∧ g = h) ks.length (by omega)
    ⟨0, rfl, rfl, Nat.zero_le _, rfl⟩ ?_
  rintro x r g ⟨i, rfl, rfl, hi, rfl⟩
  by_cases hlt : i < ks.length
  · obtain ⟨ca, rfl⟩ := lfs_el ha hlt
    obtain ⟨cb, rfl⟩ := lfs_el hb (i := i) (by omega)
    have q1 := lf_get hlt
    have q2 := lf_get (ls := ls) (i := i) (by omega)
    obtain ⟨k1, k2⟩ := hk _ (List.getElem_mem hlt)
    obtain ⟨l1, l2⟩ := hl _ (List.getElem_mem (show i < ls.length by omega))
    have e := congrArg (·[i]?) he
    have hlt2 : i < ls.length := by omega
    simp only [List.getElem?_map,List.getElem?_eq_getElem hlt,List.getElem?_eq_getElem hlt2,Option.map_some,Option.some.injEq,Lf.pp,Prod.mk.injEq] at e
    obtain ⟨e1, e2⟩ := e
    have s1 := rd_sub k1.1 1
    have s2 := rd_sub l1.1 1
    have k24 := c24 (n := n) (tot := tot) (ω := ω) (h := g) ks[i].ps ls[i].ps ks[i].v ls[i].v k1.1 l1.1 k1.2 l1.2 (by omega) (by omega) (by omega)
    rw [decide_eq_true e2] at k24
    rw [← e1] at q2
    simp (maxSteps := 2000000) (discharger := omega) only [xz,xc,xo,xr,x0,x1,x2,x4,xd,kont_call,Reg.isA,Reg.isV,Reg.stays,Reg.onto,↓reduceIte,reduceCtorEq,Nat.reduceEqDiff,Nat.reduceLT,beq_self_eq_true,wrap_i64,int_lt_t,int_le_t,la,q1,q2,s1,s2,k24]
    exact ⟨ks.length - (i + 1), by omega, i + 1, by rw [show ((i : Nat) : Int) + 1 = ((i + 1 : Nat) : Int) by omega], rfl, by omega⟩
  · obtain rfl : i = ks.length := by omega
    simp (maxSteps := 2000000) (discharger := omega) only [xz,xc,xo,xr,x0,x1,x4,xd,Reg.isA,Reg.isV,Reg.stays,Reg.onto,↓reduceIte,reduceCtorEq,Nat.reduceEqDiff,Nat.reduceLT,exists_eq_left',int_lt_f,Nat.sub_self,la]
end
end Go.Proofs.YtpgmohjmpaifbaaDoor.Im

/- S21Po: parts and leaves as bytes: plain readers, and their inverse. -/
set_option linter.unusedVariables false
set_option linter.unusedSimpArgs false
open Go Go.Im
namespace Go.Proofs.YtpgmohjmpaifbaaDoor.Im

inductive QR (α : Type) where
  | err (e : Int) | ok (v : α) (rest : By)

def kB (b : By) : List Int := b.map fun x => (x.toNat : Int)
def bK (k : List Int) : By := k.map fun z => UInt8.ofNat z.toNat
structure Pt.good (x : Pt) : Prop where
  len : x.k.length = 32
  rng : ∀ z ∈ x.k, 0 ≤ z ∧ z ≤ 255
  n1 : 1 ≤ x.n
  n2 : x.n ≤ 4096
theorem kB_len (b : By) : (kB b).length = b.length := by simp [kB]
theorem bK_len (k : List Int) : (bK k).length = k.length := by simp [bK]
theorem bK_kB (b : By) : bK (kB b) = b := by
  unfold bK kB
  rw [List.map_map]
  conv => rhs; rw [← List.map_id b]
  apply List.map_congr_left
  intro x _
  simp
theorem kB_bK : ∀ (k : List Int), (∀ z ∈ k, 0 ≤ z ∧ z ≤ 255) → kB (bK k) = k
  | [], _ => rfl
  | z :: k, h => by
    have h1 := h z (by simp)
    have h2 := kB_bK k fun y hy => h y (by simp [hy])
    unfold kB bK at h2 ⊢
    simp only [List.map_cons,List.cons.injEq]
    refine ⟨?_, h2⟩
    rw [toNat_of (by omega)]; omega
theorem kB_rng (b : By) : ∀ z ∈ kB b, 0 ≤ z ∧ z ≤ 255 := fun z hz => by
  obtain ⟨x, _, rfl⟩ := List.mem_map.1 hz
  have := x.toNat_lt
  omega
theorem toBytes_ints (k : List Int) : toBytes (intsOf .u8 k) = some (bK k) := by
  induction k with
  | nil => rfl
  | cons z k ih => simp only [intsOf,List.map_cons] at ih ⊢; simp only [toBytes,ih,Option.map_some]; rfl

/-! ### readers -/
def rdP (s : By) : QR Pt := if s.length < 32 then .err 2 else match rdC (s.drop 32) with
  | .err e => .err e
  | .ok v k => if v < 1 ∨ v > 4096 then .err 3 else .ok ⟨kB (s.take 32), (v : Nat)⟩ (s.drop (32 + k))
section
variable {α : Type}
def goG (p : By → QR α) (acc : List α) : Nat → By → QR (List α)
  | 0, s => .ok acc s
  | n + 1, s => match p s with
    | .err e => .err e
    | .ok x r => goG p (acc ++ [x]) n r
def rdG (p : By → QR α) (s : By) : QR (List α) := match rdC s with
  | .err e => .err e
  | .ok n k => goG p [] n (s.drop k)
end
abbrev LP := By × List Pt
def rdLf (s : By) : QR LP := match rdT s with
  | .err e => .err e
  | .ok t k => match rdG rdP (s.drop k) with
    | .err e => .err e
    | .ok ps r => .ok (t, ps) r

structure Rd1 {α : Type} (p : By → QR α) : Prop where
  lt : ∀ {s x r}, p s = .ok x r → r.length < s.length
  err : ∀ {s e}, p s = .err e → e = 2 ∨ e = 3
  nil : p [] = .err 2
theorem rdC_e23 {s : By} {e : Int} (h : rdC s = .err e) : e = 2 ∨ e = 3 := by
  rcases rdC_err h with ⟨_, h⟩ | ⟨h, _⟩
  · exact h
  · exact .inr h
theorem rdT_e23 {s : By} {e : Int} (h : rdT s = .err e) : e = 2 ∨ e = 3 := by
  unfold rdT at h
  split at h
  · rename_i hc; cases h; exact rdC_e23 hc
  · split at h
    · cases h; exact .inl rfl
    · cases h
theorem rdC_k {s : By} {v k : Nat} (h : rdC s = .ok v k) : 0 < k ∧ k ≤ s.length := by
  have := dec_ok (rdC_ok h)
  omega
theorem rdT_k {s v : By} {k : Nat} (h : rdT s = .ok v k) : 0 < k ∧ k ≤ s.length := by
  unfold rdT at h
  split at h
  · cases h
  · rename_i n k' hc
    have := rdC_k hc
    split at h
    · cases h
    · rename_i hlt
      cases h
      rw [List.length_drop] at hlt
      omega
theorem rdP1 : Rd1 rdP := by
  refine ⟨fun {s x r} h => ?_, fun {s e} h => ?_, rfl⟩
  · unfold rdP at h
    split at h
    · cases h
    · split at h
      · cases h
      · rename_i v k hc
        split at h
        · cases h
        · cases h
          have := rdC_k hc
          rw [List.length_drop] at this ⊢
          omega
  · unfold rdP at h
    split at h
    · cases h; exact .inl rfl
    · split at h
      · rename_i hc; cases h; exact rdC_e23 hc
      · split at h
        · cases h; exact .inr rfl
        · cases h
theorem goG_le {α : Type} {p : By → QR α} (hp : Rd1 p) : ∀ {n : Nat} {acc : List α} {s l r}, goG p acc n s = .ok l r → r.length ≤ s.length
  | 0, acc, s, l, r, h => by cases h; exact Nat.le_refl _
  | n + 1, acc, s, l, r, h => by
    unfold goG at h
    split at h
    · cases h
    · rename_i x r' hx
      have := hp.lt hx
      have := goG_le hp h
      omega
theorem goG_e {α : Type} {p : By → QR α} (hp : Rd1 p) : ∀ {n : Nat} {acc : List α} {s e}, goG p acc n s = .err e → e = 2 ∨ e = 3
  | 0, acc, s, e, h => by cases h
  | n + 1, acc, s, e, h => by
    unfold goG at h
    split at h
    · rename_i hx; cases h; exact hp.err hx
    · exact goG_e hp h
theorem rdG_e {α : Type} {p : By → QR α} (hp : Rd1 p) {s : By} {e : Int} (h : rdG p s = .err e) : e = 2 ∨ e = 3 := by
  unfold rdG at h
  split at h
  · rename_i hc; cases h; exact rdC_e23 hc
  · exact goG_e hp h
theorem rdG_le {α : Type} {p : By → QR α} (hp : Rd1 p) {s : By} {l : List α} {r : By} (h : rdG p s = .ok l r) : r.length ≤ s.length := by
  unfold rdG at h
  split at h
  · cases h
  · rename_i hc
    have := goG_le hp h
    rw [List.length_drop] at this
    omega
theorem rdLf1 : Rd1 rdLf := by
  refine ⟨fun {s x r} h => ?_, fun {s e} h => ?_, rfl⟩
  · unfold rdLf at h
    split at h
    · cases h
    · rename_i t k ht
      split at h
      · cases h
      · rename_i ps r' hg
        cases h
        have := rdT_k ht
        have := rdG_le rdP1 hg
        rw [List.length_drop] at this
        omega
  · unfold rdLf at h
    split at h
    · rename_i ht; cases h; exact rdT_e23 ht
    · split at h
      · rename_i hg; cases h; exact rdG_e rdP1 hg
      · cases h

/-! ### writers -/
def encP (x : Pt) : By := bK x.k ++ enc x.n.toNat 64
def packG {α : Type} (f : α → By) (l : List α) : By := enc l.length 64 ++ l.flatMap f
def packPs (l : List Pt) : By := packG encP l
def encL (x : LP) : By := encT x.1 ++ packPs x.2
def packLs (l : List LP) : By := packG encL l

structure Inv1 {α : Type} (p : By → QR α) (f : α → By) (G : α → Prop) : Prop where
  rd : ∀ x, G x → ∀ r, p (f x ++ r) = .ok x r
  wr : ∀ {s x r}, s.length ≤ 9223372036854775807 → p s = .ok x r → s = f x ++ r ∧ G x
theorem invP : Inv1 rdP encP Pt.good := by
  refine ⟨fun x hx r => ?_, fun {s x r} hs h => ?_⟩
  · unfold rdP encP
    have hl : (bK x.k).length = 32 := by rw [bK_len]; exact hx.len
    have e1 : (bK x.k ++ enc x.n.toNat 64 ++ r).drop 32 = enc x.n.toNat 64 ++ r := by
      rw [List.append_assoc, ← hl]; exact drop_app _ _
    have e2 : (bK x.k ++ enc x.n.toNat 64 ++ r).take 32 = bK x.k := by
      rw [List.append_assoc, List.take_append_of_le_length (by omega), List.take_of_length_le (by omega)]
    have h1 := hx.n1
    have h2 := hx.n2
    rw [if_neg (by simp [hl]), e1, rdC_enc (by omega)]
    simp only
    rw [if_neg (by omega), e2, kB_bK _ hx.rng]
    congr 1
    · cases x with | mk k n => simp only [Pt.mk.injEq,true_and]; simp only at h1; omega
    · rw [← List.drop_drop, e1]; exact drop_app _ _
  · unfold rdP at h
    split at h
    · cases h
    · rename_i hl
      split at h
      · cases h
      · rename_i v k hc
        split at h
        · cases h
        · rename_i hv
          cases h
          have h1 := rdC_inv hc
          have hk := rdC_k hc
          refine ⟨?_, ⟨by rw [kB_len, List.length_take]; omega, kB_rng _, by show (1 : Int) ≤ (v : Nat); omega, by show ((v : Nat) : Int) ≤ 4096; omega⟩⟩
          unfold encP
          simp only [bK_kB,Int.toNat_natCast]
          rw [← List.drop_drop, List.append_assoc, ← h1, List.take_append_drop]
theorem goG_pack {α : Type} {p : By → QR α} {f : α → By} {G : α → Prop} (hi : Inv1 p f G) : ∀ (l acc : List α) (r : By), (∀ x ∈ l, G x) → goG p acc l.length (l.flatMap f ++ r) = .ok (acc ++ l) r
  | [], acc, r, _ => by simp [goG]
  | x :: l, acc, r, h => by
    simp only [List.length_cons,List.flatMap_cons,List.append_assoc,goG]
    rw [hi.rd x (h x (by simp))]
    simp only
    rw [goG_pack hi l _ r fun y hy => h y (by simp [hy])]
    simp
theorem goG_inv {α : Type} {p : By → QR α} {f : α → By} {G : α → Prop} (hp : Rd1 p) (hi : Inv1 p f G) : ∀ {n : Nat} {acc l : List α} {s r : By}, s.length ≤ 9223372036854775807 → goG p acc n s = .ok l r → ∃ l', l = acc ++ l' ∧ l'.length = n ∧ s = l'.flatMap f ++ r ∧ ∀ x ∈ l', G x
  | 0, acc, l, s, r, hs, h => by cases h; exact ⟨[], by simp, rfl, by simp, by simp⟩
  | n + 1, acc, l, s, r, hs, h => by
    unfold goG at h
    split at h
    · cases h
    · rename_i x r' hx
      obtain ⟨e1, e2⟩ := hi.wr hs hx
      have hlt := hp.lt hx
      obtain ⟨l', q1, q2, q3, q4⟩ := goG_inv hp hi (by omega) h
      refine ⟨x :: l', by rw [q1]; simp, by simp [q2], by rw [e1, q3]; simp, fun y hy => ?_⟩
      rcases List.mem_cons.1 hy with rfl | hy
      · exact e2
      · exact q4 y hy
theorem flat_len {α : Type} {f : α → By} (hf : ∀ x, f x ≠ []) : ∀ l : List α, l.length ≤ (l.flatMap f).length
  | [] => by simp
  | x :: l => by
    have := flat_len hf l
    have h1 : 0 < (f x).length := List.length_pos_iff.2 (hf x)
    simp only [List.flatMap_cons,List.length_append,List.length_cons]; omega
theorem encP_ne (x : Pt) : encP x ≠ [] := by unfold encP; simp [enc_ne]
theorem encT_ne (s : By) : encT s ≠ [] := by unfold encT; simp [enc_ne]
theorem encL_ne (x : LP) : encL x ≠ [] := by unfold encL; simp [encT_ne]
theorem invG {α : Type} {p : By → QR α} {f : α → By} {G : α → Prop} (hp : Rd1 p) (hi : Inv1 p f G) (hf : ∀ x, f x ≠ []) : Inv1 (rdG p) (packG f) fun l => l.length ≤ 9223372036854775807 ∧ ∀ x ∈ l, G x := by
  refine ⟨fun l hl r => ?_, fun {s l r} hs h => ?_⟩
  · unfold rdG packG
    rw [List.append_assoc, rdC_enc hl.1]
    simp only
    rw [drop_app, goG_pack hi _ _ _ hl.2]
    simp
  · unfold rdG at h
    split at h
    · cases h
    · rename_i n k hc
      have hk := rdC_k hc
      obtain ⟨l', q1, q2, q3, q4⟩ := goG_inv hp hi (by rw [List.length_drop]; omega) h
      rw [List.nil_append] at q1
      subst q1
      have h1 := rdC_inv hc
      have h2 := flat_len hf l
      have h3 := congrArg List.length q3
      rw [List.length_drop, List.length_append] at h3
      refine ⟨?_, by omega, q4⟩
      unfold packG
      rw [q2, List.append_assoc, ← q3]; exact h1
theorem invPs : Inv1 (rdG rdP) packPs fun l => l.length ≤ 9223372036854775807 ∧ ∀ x ∈ l, x.good := invG rdP1 invP encP_ne
def LP.good (x : LP) : Prop := x.1.length ≤ 9223372036854775807 ∧ x.2.length ≤ 9223372036854775807 ∧ ∀ q ∈ x.2, q.good
theorem invL : Inv1 rdLf encL LP.good := by
  refine ⟨fun x hx r => ?_, fun {s x r} hs h => ?_⟩
  · unfold rdLf encL
    rw [List.append_assoc, rdT_enc hx.1]
    simp only
    rw [drop_app, invPs.rd _ hx.2]
  · unfold rdLf at h
    split at h
    · cases h
    · rename_i t k ht
      split at h
      · cases h
      · rename_i ps r' hg
        cases h
        obtain ⟨h1, h2⟩ := rdT_inv ht
        obtain ⟨h3, h4⟩ := invPs.wr (by rw [List.length_drop]; omega) hg
        refine ⟨?_, by show t.length ≤ _; omega, h4⟩
        unfold encL
        rw [List.append_assoc]
        show s = encT t ++ (packPs ps ++ r)
        rw [← h3]; exact h1
theorem invLs : Inv1 (rdG rdLf) packLs fun l => l.length ≤ 9223372036854775807 ∧ ∀ x ∈ l, x.good := invG rdLf1 invL encL_ne

/-! ### whole texts -/
def openP (s : By) : Int ⊕ List Pt := match rdG rdP s with
  | .err e => .inl e
  | .ok l r => if r = [] then .inr l else .inl 5
open Classical in
noncomputable def openL (s : By) : Int ⊕ List LP := match rdG rdLf s with
  | .err e => .inl e
  | .ok l r => if r = [] then (if Rising (l.map Prod.fst) then .inr l else .inl 3) else .inl 5
theorem openP_pack {l : List Pt} (h : l.length ≤ 9223372036854775807 ∧ ∀ x ∈ l, x.good) : openP (packPs l) = .inr l := by
  have := invPs.rd l h []
  rw [List.append_nil] at this
  unfold openP; rw [this]; simp
theorem openL_pack {l : List LP} (h : l.length ≤ 9223372036854775807 ∧ ∀ x ∈ l, x.good) (hr : Rising (l.map Prod.fst)) : openL (packLs l) = .inr l := by
  have := invLs.rd l h []
  rw [List.append_nil] at this
  unfold openL; rw [this]; simp [hr]
theorem openP_inv {s : By} {l : List Pt} (hs : s.length ≤ 9223372036854775807) (h : openP s = .inr l) : packPs l = s ∧ ∀ x ∈ l, x.good := by
  unfold openP at h
  split at h
  · cases h
  · rename_i l' r hg
    split at h
    · rename_i hr
      cases h
      obtain ⟨h1, h2⟩ := invPs.wr hs hg
      rw [hr, List.append_nil] at h1
      exact ⟨h1.symm, h2.2⟩
    · cases h
theorem openL_inv {s : By} {l : List LP} (hs : s.length ≤ 9223372036854775807) (h : openL s = .inr l) : packLs l = s ∧ ∀ x ∈ l, x.good := by
  unfold openL at h
  split at h
  · cases h
  · rename_i l' r hg
    split at h
    · rename_i hr
      split at h
      · cases h
        obtain ⟨h1, h2⟩ := invLs.wr hs hg
        rw [hr, List.append_nil] at h1
        exact ⟨h1.symm, h2.2⟩
      · cases h
    · cases h
end Go.Proofs.YtpgmohjmpaifbaaDoor.Im

/- S21Tk: six.TakeList, of any elements. -/
set_option linter.unusedVariables false
set_option linter.unusedSimpArgs false
open Go Go.Im
namespace Go.Proofs.YtpgmohjmpaifbaaDoor.Im

def tlAF (sz bytes : Nat) (z : AV) : AF := ⟨[ARes.t 4,ARes.t 5],
  (.seq
  (.region [] [⟨some 4, AOp.mov (AX.c (AV.nils)), none⟩,
    ⟨some 5, AOp.mov (AX.c (AV.int (IntKind.i64) 0)), none⟩] [0, 1])
  (.seq
  (.seq
  (.region [] [⟨some 12, AOp.mov (AX.t 0), none⟩,
    ⟨some 13, AOp.eqNil false (NK.p) (AX.t 12), none⟩,
    ⟨some 14, AOp.mov (AX.t 13), none⟩,
    ⟨some 15, AOp.mov (AX.t 1), some (14, false)⟩,
    ⟨some 16, AOp.eqNil false (NK.f) (AX.t 15), some (14, false)⟩,
    ⟨some 17, AOp.pick (AX.t 14) (AX.c (AV.bool true)) (AX.t 16), none⟩] [0, 1, 17])
  (.cond (AX.t 17)
    (.seq
    (.region [] [⟨some 4, AOp.mov (AX.c (AV.nils)), none⟩,
      ⟨some 5, AOp.mov (AX.c (AV.int (IntKind.i64) 1)), none⟩] [4, 5])
    AC.ret)
    AC.skip))
  (.seq
  (.region [] [⟨some 18, AOp.mov (AX.t 0), none⟩,
    ⟨some 19, AOp.nilCheck (AX.t 18), none⟩,
    ⟨some 20, AOp.fieldA 0 1 false (AX.t 19), none⟩,
    ⟨some 21, AOp.load false 1 (AX.t 20), none⟩,
    ⟨some 6, AOp.mov (AX.t 21), none⟩] [0, 1, 6])
  (.seq
  (.region [] [⟨some 23, AOp.mov (AX.t 0), none⟩,
    ⟨some 24, AOp.call 87 [AX.t 23], none⟩,
    ⟨some 22, AOp.mov (AX.t 24), none⟩,
    ⟨some 25, AOp.extract (AX.t 22) 0, none⟩,
    ⟨some 26, AOp.extract (AX.t 22) 1, none⟩,
    ⟨some 7, AOp.mov (AX.t 25), none⟩,
    ⟨some 8, AOp.mov (AX.t 26), none⟩] [0, 1, 6, 7, 8])
  (.seq
  (.region [] [⟨some 9, AOp.mov (AX.c (AV.nils)), none⟩] [0, 1, 6, 7, 8, 9])
  (.seq
  (.seq
  (.region [] [⟨some 10, AOp.mov (AX.c (AV.int (IntKind.i64) 0)), none⟩] [0, 1, 6, 7, 8, 9, 10])
  (.block 0
    (.loop
      (.seq
      (.seq
      (.region [] [⟨some 27, AOp.mov (AX.t 8), none⟩,
        ⟨some 28, AOp.bin (BinOp.eql) (AX.t 27) (AX.c (AV.int (IntKind.i64) 0)), none⟩,
        ⟨some 29, AOp.mov (AX.t 28), none⟩,
        ⟨some 30, AOp.mov (AX.t 10), some (29, true)⟩,
        ⟨some 31, AOp.mov (AX.t 7), some (29, true)⟩,
        ⟨some 32, AOp.bin (BinOp.lss) (AX.t 30) (AX.t 31), some (29, true)⟩,
        ⟨some 33, AOp.pick (AX.t 29) (AX.t 32) (AX.c (AV.bool false)), none⟩] [0, 1, 6, 7, 8, 9, 10, 33])
      (.cond (AX.t 33)
        AC.skip
        (.exit 0)))
      (.seq
      (.block 1
        (.seq
        (.region [] [⟨some 11, AOp.allocL z, none⟩] [0, 1, 6, 7, 9, 10, 11])
        (.seq
        (.region [] [⟨some 36, AOp.mov (AX.t 0), none⟩,
          ⟨some 37, AOp.nilCheck (AX.t 36), none⟩,
          ⟨some 38, AOp.fieldA 0 1 false (AX.t 37), none⟩,
          ⟨some 39, AOp.load false 1 (AX.t 38), none⟩,
          ⟨some 40, AOp.bin (BinOp.eql) (AX.t 39) (AX.c (AV.str [])), none⟩] [0, 1, 6, 7, 9, 10, 11, 40])
        (.cond (AX.t 40)
          (.region [] [⟨some 8, AOp.mov (AX.c (AV.int (IntKind.i64) 2)), none⟩] [0, 1, 6, 7, 8, 9, 10])
          (.seq
          (.region [] [⟨some 42, AOp.mov (AX.t 1), none⟩,
            ⟨some 43, AOp.mov (AX.t 0), none⟩,
            ⟨some 44, AOp.callV (AX.t 42) [AX.t 43], none⟩,
            ⟨some 41, AOp.mov (AX.t 44), none⟩,
            ⟨some 45, AOp.extract (AX.t 41) 0, none⟩,
            ⟨some 46, AOp.extract (AX.t 41) 1, none⟩,
            ⟨none, AOp.store sz (AX.t 11) (AX.t 45), none⟩,
            ⟨some 8, AOp.mov (AX.t 46), none⟩] [0, 1, 6, 7, 8, 9, 10, 11])
          (.seq
          (.region [] [⟨some 47, AOp.mov (AX.t 8), none⟩,
            ⟨some 48, AOp.bin (BinOp.eql) (AX.t 47) (AX.c (AV.int (IntKind.i64) 0)), none⟩] [0, 1, 6, 7, 8, 9, 10, 11, 48])
          (.cond (AX.t 48)
            (.region [] [⟨some 49, AOp.mov (AX.t 9), none⟩,
              ⟨some 50, AOp.loadL true sz (AX.t 11), none⟩,
              ⟨some 51, AOp.litS false sz z 1 [(0, AX.t 50)], none⟩,
              ⟨some 52, AOp.append true false sz bytes (AX.t 49) (AX.t 51), none⟩,
              ⟨some 9, AOp.mov (AX.t 52), none⟩] [0, 1, 6, 7, 8, 9, 10])
            AC.skip)))))))
      (.region [] [⟨some 34, AOp.mov (AX.t 10), none⟩,
        ⟨some 35, AOp.bin (BinOp.add) (AX.t 34) (AX.c (AV.int (IntKind.i64) 1)), none⟩,
        ⟨some 10, AOp.mov (AX.t 35), none⟩] [0, 1, 6, 7, 8, 9, 10]))))))
  (.seq
  (.seq
  (.region [] [⟨some 53, AOp.mov (AX.t 8), none⟩,
    ⟨some 54, AOp.bin (BinOp.neq) (AX.t 53) (AX.c (AV.int (IntKind.i64) 0)), none⟩] [0, 6, 8, 9, 54])
  (.cond (AX.t 54)
    (.seq
    (.region [] [⟨some 55, AOp.mov (AX.t 0), none⟩,
      ⟨some 56, AOp.mov (AX.t 6), none⟩,
      ⟨some 57, AOp.nilCheck (AX.t 55), none⟩,
      ⟨some 58, AOp.fieldA 0 1 false (AX.t 57), none⟩,
      ⟨none, AOp.store 1 (AX.t 58) (AX.t 56), none⟩] [8])
    (.seq
    (.region [] [⟨some 59, AOp.mov (AX.t 8), none⟩,
      ⟨some 4, AOp.mov (AX.c (AV.nils)), none⟩,
      ⟨some 5, AOp.mov (AX.t 59), none⟩] [4, 5])
    AC.ret))
    AC.skip))
  (.seq
  (.region [] [⟨some 60, AOp.mov (AX.t 9), none⟩,
    ⟨some 4, AOp.mov (AX.t 60), none⟩,
    ⟨some 5, AOp.mov (AX.c (AV.int (IntKind.i64) 0)), none⟩] [4, 5])
  AC.ret))))))))⟩
def Y33 : List AV := List.replicate 32 (.int .u8 0) ++ [.int .i64 0]
theorem a58_tl : a58 = tlAF 2 40 (.agg [.str [], .nils]) := rfl
theorem a89_tl : a89 = tlAF 33 40 (.agg Y33) := rfl

def AppFrom (base sz : Nat) (es : List AV) (g : Hp) (v : AV) : Prop := (v = .nils ∧ es = []) ∨ ∃ i, base ≤ i ∧ v = .imm sz es (.tok i es.length) ∧ g[i]? = some (.tail sz es.length)

theorem app_from {base sz bytes : Nat} {es xs : List AV} {g : Hp} {v : AV} (hv : AppFrom base sz es g v) (hx : xs ≠ []) (hb : (es.length + xs.length) * bytes ≤ 140737488355328) (hg : base ≤ g.length) :
    ∃ v' g', appendV false sz bytes v xs g = some (v', g') ∧ AppFrom base sz (es ++ xs) g' v' ∧ g.length ≤ g'.length ∧ ∀ (j : Nat) o, g[j]? = some o → (j < base ∨ o.solid = true) → g'[j]? = some o := by
  have hv2 : IsApp sz es g v := by
    rcases hv with h | ⟨i, _, h1, h2⟩
    · exact .inl h
    · exact .inr (.inr ⟨i, h1, h2⟩)
  obtain ⟨v', g', a, b, c, d, e, f, hf⟩ := app_ok hv2 hx hb
  refine ⟨v', g', a, ?_, d, fun j o ho hj => ?_⟩
  · rcases b with ⟨h1, _⟩ | h1 | ⟨i, h1, h2⟩
    · rw [hf] at h1; cases h1
    · rw [hf] at h1; cases h1
    · rw [hf] at h1
      simp only [AV.imm.injEq,Cap.tok.injEq,true_and] at h1
      refine .inr ⟨g.length, hg, ?_, by rw [h1.1]; exact h2⟩
      rw [hf, h1.2]
  · rcases hj with hj | hj
    · refine e j o ho fun c hc => ?_
      rcases hv with ⟨h1, _⟩ | ⟨i, h0, h1, _⟩
      · rw [h1] at hc; cases hc
      · rw [h1] at hc
        simp only [AV.imm.injEq,Cap.tok.injEq,true_and] at hc
        omega
    · exact c j o ho hj

theorem AppFrom.rd {base sz : Nat} {es : List AV} {g : Hp} {v : AV} (hv : AppFrom base sz es g v) : IsRd sz es v := by
  rcases hv with h | ⟨i, _, h, _⟩
  · exact .inl h
  · exact .inr ⟨_, h⟩
theorem AppFrom.isRow {base sz : Nat} {es : List AV} {g : Hp} {v : AV} (hv : AppFrom base sz es g v) : v.isRow = false := by
  rcases hv with ⟨rfl, _⟩ | ⟨i, _, rfl, _⟩ <;> rfl

def Ek (id : Nat) (L : Option Nat) (g g' : Hp) : Prop := g.length ≤ g'.length ∧ ∀ (j : Nat) o, g[j]? = some o → j ≠ id → (∀ l, L = some l → j ≠ l ∧ ∀ e, o ≠ .tail 1 e) → g'[j]? = some o
theorem Ek.refl (id : Nat) (L : Option Nat) (g : Hp) : Ek id L g g := ⟨Nat.le_refl _, fun _ _ h _ _ => h⟩
theorem Ek.trans {id : Nat} {L : Option Nat} {a b c : Hp} (h1 : Ek id L a b) (h2 : Ek id L b c) : Ek id L a c := ⟨Nat.le_trans h1.1 h2.1, fun j o ho hj hl => h2.2 j o (h1.2 j o ho hj hl) hj hl⟩
theorem Ek.set {id : Nat} {L : Option Nat} {g : Hp} (o : AO) : Ek id L g (g.set id o) := ⟨by simp, fun j x hx hj _ => by rw [List.getElem?_set_ne (Ne.symm hj)]; exact hx⟩
def Jp {α : Type} (pf : α → By) (L : Option Nat) (acc : List α) (g : Hp) : Prop := ∀ l, L = some l → ∃ pv, g[l]? = some (.row 1 [pv]) ∧ IsApp 1 ((acc.map pf).map AV.str) g pv

def A2 {α : Type} (R : α → List AV → Prop) : List α → List (List AV) → Prop
  | [], [] => True
  | x :: l, c :: cs => R x c ∧ A2 R l cs
  | _, _ => False
theorem A2.snoc {α : Type} {R : α → List AV → Prop} {x : α} {c : List AV} : ∀ {l : List α} {cs : List (List AV)}, A2 R l cs → R x c → A2 R (l ++ [x]) (cs ++ [c])
  | [], [], _, h => ⟨h, trivial⟩
  | _ :: _, _ :: _, h, h2 => ⟨h.1, A2.snoc h.2 h2⟩
  | [], _ :: _, h, _ => h.elim
  | _ :: _, [], h, _ => h.elim
theorem A2.len {α : Type} {R : α → List AV → Prop} : ∀ {l : List α} {cs : List (List AV)}, A2 R l cs → cs.length = l.length
  | [], [], _ => rfl
  | _ :: _, _ :: _, h => by simp [A2.len h.2]
  | [], _ :: _, h => h.elim
  | _ :: _, [], h => h.elim

section
variable {α : Type} {n : Nat} {tot : Bool} {ω : Nat → Nat}

def ElP (id : Nat) (L : Option Nat) (sz : Nat) (ec : α → List AV → Prop) (pf : α → By) (acc : List α) (q : QR α) (v : AV) (g' : Hp) : Prop := match q with
  | .err e => (∃ cs, cs.length = sz ∧ v = .tup [.agg cs, .int .i64 e]) ∧ ∃ t', g'[id]? = some (Rr t')
  | .ok x r => (∃ cs, ec x cs ∧ v = .tup [.agg cs, .int .i64 0]) ∧ g'[id]? = some (Rr r) ∧ Jp pf L (acc ++ [x]) g'
structure Elem (tot : Bool) (ω : Nat → Nat) (f : FuncId) (cap : List AV) (id : Nat) (L : Option Nat) (sz N0 : Nat) (ec : α → List AV → Prop) (pf : α → By) (p : By → QR α) : Prop where
  run : ∀ (n : Nat) (g : Hp) (t : By) (acc : List α), g[id]? = some (Rr t) → Jp pf L acc g → acc.length + t.length ≤ 1000000 → t.length + N0 < n →
    ∃ v g', call F n tot ω f (.ptr id 1 0 0 :: cap) g = some (v, g') ∧ Ek id L g g' ∧ ElP id L sz ec pf acc (p t) v g'

def TlP (id : Nat) (L : Option Nat) (sz : Nat) (ec : α → List AV → Prop) (pf : α → By) (h : Hp) (q : QR (List α)) (v : AV) (h' : Hp) : Prop := Ek id L h h' ∧ match q with
  | .err e => v = .tup [.nils, .int .i64 e] ∧ ∃ t, h'[id]? = some (Rr t)
  | .ok l rest => ∃ lv css, v = .tup [lv, .int .i64 0] ∧ A2 ec l css ∧ IsRd sz (css.map AV.agg) lv ∧ h'[id]? = some (Rr rest) ∧ Jp pf L l h'

theorem upd_full {zs cs : List AV} (h : cs.length = zs.length) : upd (.agg zs) 0 (.agg cs) = some (.agg cs) := by
  simp only [upd,Nat.zero_add,h,Nat.le_refl,if_true,List.take_zero,List.nil_append]
  rw [List.drop_of_length_le (by omega), List.append_nil]
theorem sub_full {cs : List AV} {sz : Nat} (h : cs.length = sz) : sub (.agg cs) 0 sz true = some (.agg cs) := by
  simp only [sub,if_true,Nat.zero_add,List.drop_zero]
  rw [if_pos (by omega), List.take_of_length_le (by omega)]

set_option maxHeartbeats 4000000 in
theorem take_list (sz : Nat) (zs : List AV) (hzs : zs.length = sz) (hsz : sz ≠ 1) (f fid : FuncId) (hF : F f = some (.inl (tlAF sz 40 (.agg zs)))) (cap : List AV) (id : Nat) (L : Option Nat) (N0 : Nat) (hN0 : 3 ≤ N0) (ec : α → List AV → Prop) (hec : ∀ x cs, ec x cs → cs.length = sz) (pf : α → By) (p : By → QR α) (hp : Rd1 p)
    (hE : Elem tot ω fid cap id L sz N0 ec pf p) (s : By) (h : Hp) (hid : h[id]? = some (Rr s)) (hL : ∀ l, L = some l → l ≠ id) (hJ : Jp pf L [] h) (hs : s.length ≤ 1000000) (hn : s.length + N0 + 2 < n) :
    ∃ v h', call F n tot ω f [.ptr id 1 0 0, .fn (.func fid) [] cap] h = some (v, h') ∧ TlP id L sz ec pf h (rdG p s) v h' := by
  obtain ⟨n, rfl⟩ : ∃ m, n = m + 1 := ⟨n - 1, by omega⟩
  refine call_of (fn := tlAF sz 40 (.agg zs)) hF (P := TlP id L sz ec pf h (rdG p s)) ?_
  unfold tlAF
  have hid2 := hid
  unfold Rr at hid2
  unfold rdG
  cases hc : rdC s with
  | err e =>
    have r1 := c87e (tot := tot) (ω := ω) (n := n) id s h hid (by omega) (by omega) hc
    have h23 := rdC_e23 hc
    have he : (e != 0) = true := by rcases h23 with rfl | rfl <;> rfl
    have he2 : (e == 0) = false := by rcases h23 with rfl | rfl <;> rfl
    have hb : h.set id (.row 1 [.agg [.str s]]) = h := by
      obtain ⟨q1, q2⟩ := List.getElem?_eq_some_iff.1 hid2
      rw [← q2]; exact List.set_getElem_self q1
    simp (maxSteps := 2000000) (discharger := omega) only [xz,xc,xo,xr,x0,x1,x2,x3,xd,kont_call,isNil,Bool.bne_false,Reg.isA,Reg.isV,Reg.stays,Reg.onto,↓reduceIte,reduceCtorEq,Nat.reduceEqDiff,Nat.reduceLT,Nat.reduceAdd,beq_self_eq_true,hid2,r1]
    refine wpi_loop (fun k r g => k = 0 ∧ g = h ∧ r = [(0, .val (.ptr id 1 0 0)), (1, .val (.fn (.func fid) [] cap)), (6, .val (.str s)), (7, .val (.int .i64 0)), (8, .val (.int .i64 e)), (9, .val .nils), (10, .val (.int .i64 0))]) 0 (by omega) ⟨rfl, rfl, rfl⟩ ?_
    rintro k r g ⟨rfl, rfl, rfl⟩
    simp (maxSteps := 2000000) (discharger := omega) only [xz,xc,xo,xr,x0,x1,x3,x5,xd,xb,upd,wr,Reg.isA,Reg.isV,Reg.stays,Reg.onto,↓reduceIte,reduceCtorEq,Nat.reduceEqDiff,Nat.reduceLT,Nat.zero_lt_succ,exists_eq_left',he,he2,hid2,List.set_cons_zero,hb]
    exact ⟨.refl _ _ _, rfl, _, hid⟩
  | ok m k =>
    have r1 := c87o (tot := tot) (ω := ω) (n := n) id s h hid (by omega) (by omega) hc
    have hb := rdC_k hc
    have hid3 := set_get hid (Rr (s.drop k))
    have hsm : Ek id L h (h.set id (Rr (s.drop k))) := .set _
    have hJ0 : Jp pf L [] (h.set id (Rr (s.drop k))) := fun l hl => by
      obtain ⟨pv, q1, q2⟩ := hJ l hl
      refine ⟨pv, by rw [List.getElem?_set_ne (Ne.symm (hL l hl))]; exact q1, ?_⟩
      exact isApp_setS q2 hid rfl
    show Wp _ _ _ _ _ (Ret _ (TlP id L sz ec pf h (goG p [] m (s.drop k))))
    generalize hR : goG p [] m (s.drop k) = R
    simp (maxSteps := 2000000) (discharger := omega) only [xz,xc,xo,xr,x0,x1,x2,x3,xd,kont_call,isNil,Bool.bne_false,Reg.isA,Reg.isV,Reg.stays,Reg.onto,↓reduceIte,reduceCtorEq,Nat.reduceEqDiff,Nat.reduceLT,Nat.reduceAdd,beq_self_eq_true,hid2,r1]
    refine wpi_loop (fun q r g => ∃ (e : Int) (lv : AV) (i : Nat), r = [(0, .val (.ptr id 1 0 0)), (1, .val (.fn (.func fid) [] cap)), (6, .val (.str s)), (7, .val (.int .i64 m)), (8, .val (.int .i64 e)), (9, .val lv), (10, .val (.int .i64 i))] ∧
      ((e = 0 ∧ ∃ acc css t, A2 ec acc css ∧ g[id]? = some (Rr t) ∧ AppFrom h.length sz (css.map AV.agg) g lv ∧ Ek id L h g ∧ Jp pf L acc g ∧ acc.length = i ∧ i ≤ m ∧ i + t.length ≤ s.length ∧ goG p acc (m - i) t = R ∧ q = t.length + 1) ∨
       ((e = 2 ∨ e = 3) ∧ q = 0 ∧ R = .err e ∧ Ek id L h g ∧ ∃ t, g[id]? = some (Rr t)))) ((s.drop k).length + 1) (by simp; omega)
      ⟨0, .nils, 0, rfl, .inl ⟨rfl, [], [], s.drop k, trivial, hid3, .inl ⟨rfl, rfl⟩, hsm, hJ0, rfl, by omega, by simp, hR, rfl⟩⟩ ?_
    clear hR
    rintro q r g ⟨e, lv, i, rfl, (⟨rfl, acc, css, t, hA2, h1, h2, h3, hJ3, rfl, h5, h6, h7, rfl⟩ | ⟨h23, rfl, rfl, h3, t, h1⟩)⟩
    · have he : ((0 : Int) == 0) = true := rfl
      have he2 : ((0 : Int) != 0) = false := rfl
      have g1 := h1
      unfold Rr at g1
      by_cases hlt : acc.length < m
      · have hlt' : ((acc.length : Nat) : Int) < (m : Int) := by omega
        obtain ⟨m', hm'⟩ : ∃ m', m - acc.length = m' + 1 := ⟨m - acc.length - 1, by omega⟩
        rw [hm'] at h7
        by_cases ht : t = []
        · subst ht
          have hq : (([] : List UInt8) == []) = true := rfl
          have h7' : R = .err 2 := by rw [← h7]; simp [goG,hp.nil]
          simp (maxSteps := 2000000) (discharger := omega) only [xz,xc,xo,xr,x0,x1,x3,xd,Reg.isA,Reg.isV,Reg.stays,Reg.onto,↓reduceIte,reduceCtorEq,Nat.reduceEqDiff,Nat.reduceLT,beq_self_eq_true,wrap_i64,hlt',g1]
          exact ⟨0, by omega, 2, lv, acc.length + 1, rfl, .inr ⟨.inl rfl, rfl, h7', h3, _, rfl⟩⟩
        · have hq : (t == []) = false := by simp [ht]
          obtain ⟨v, g', r2, p1, p2⟩ := hE.run n g t acc h1 hJ3 (by omega) (by omega)
          have hc1 : [AV.ptr id 1 0 0] ++ cap = AV.ptr id 1 0 0 :: cap := rfl
          cases hx : p t with
          | err e =>
            rw [hx] at p2
            obtain ⟨⟨cs, hcs, rfl⟩, t', p4⟩ := p2
            have h23 := hp.err hx
            have q1 : (e == 0) = false := by rcases h23 with rfl | rfl <;> rfl
            have h7' : R = .err e := by rw [← h7]; simp [goG,hx]
            have u1 := upd_full (zs := zs) (cs := cs) (by omega)
            simp (maxSteps := 2000000) (discharger := omega) only [xz,xc,xo,xr,x0,x1,x3,x5,xd,kont_call,wr,Reg.isA,Reg.isV,Reg.stays,Reg.onto,↓reduceIte,reduceCtorEq,Nat.reduceEqDiff,Nat.reduceLT,beq_self_eq_true,wrap_i64,hlt',g1,hq,hc1,r2,q1,u1,hcs]
            exact ⟨0, by omega, e, lv, acc.length + 1, rfl, .inr ⟨h23, rfl, h7', h3.trans p1, _, p4⟩⟩
          | ok x rest =>
            rw [hx] at p2
            obtain ⟨⟨cs, hcs, rfl⟩, p4, p5⟩ := p2
            have hcl := hA2.len
            have hlr := hp.lt hx
            have h7' : goG p (acc ++ [x]) m' rest = R := by rw [← h7]; simp [goG,hx]
            have hecx := hec x cs hcs
            have u1 := upd_full (zs := zs) (cs := cs) (by omega)
            have u2 := sub_full hecx
            -- the list's own slice
            have a1 : AppFrom h.length sz (css.map AV.agg) g' lv := by
              rcases h2 with ⟨rfl, e0⟩ | ⟨i, q0, q1, q2⟩
              · exact .inl ⟨rfl, e0⟩
              · refine .inr ⟨i, q0, q1, p1.2 i _ q2 (fun e => by subst e; rw [h1] at q2; cases q2) fun l hl => ⟨fun e => ?_, fun e e2 => ?_⟩⟩
                · subst e
                  obtain ⟨pv, w1, _⟩ := hJ3 _ hl
                  rw [w1] at q2; cases q2
                · cases e2; exact hsz rfl
            have a0 : IsApp sz (css.map AV.agg) g' lv := by
              rcases a1 with w | ⟨i, _, w1, w2⟩
              · exact .inl w
              · exact .inr (.inr ⟨i, w1, w2⟩)
            have hlg : h.length ≤ g'.length := Nat.le_trans h3.1 p1.1
            have hbd : ((css.map AV.agg).length + ([AV.agg cs] : List AV).length) * 40 ≤ 140737488355328 := by simp; omega
            obtain ⟨lv', g2, a2, a3, a4, a5⟩ := app_from (bytes := 40) (xs := [.agg cs]) a1 (by simp) hbd hlg
            obtain ⟨lv2, g3, b1, _, _, _, b5, _⟩ := app_ok (bytes := 40) (xs := [.agg cs]) a0 (by simp) hbd
            rw [a2] at b1
            cases b1
            have ar := a1.isRow
            have h1r := a5 id _ p4 (.inr rfl)
            have hEk : Ek id L h g2 := ⟨Nat.le_trans hlg a4, fun j o ho hj hl => a5 j o ((h3.trans p1).2 j o ho hj hl) (.inl (List.getElem?_eq_some_iff.1 ho).1)⟩
            have hJr : Jp pf L (acc ++ [x]) g2 := fun l hl => by
              obtain ⟨pv, w1, w2⟩ := p5 l hl
              refine ⟨pv, a5 l _ w1 (.inr rfl), ?_⟩
              rcases w2 with w | w | ⟨j, w3, w4⟩
              · exact .inl w
              · exact .inr (.inl w)
              · refine .inr (.inr ⟨j, w3, b5 j _ w4 fun c e => ?_⟩)
                rcases a1 with ⟨e1, _⟩ | ⟨i, _, e1, e2⟩
                · rw [e1] at e; cases e
                · rw [e1] at e
                  cases e
                  rw [e2] at w4
                  have w5 := Option.some.inj w4
                  injection w5 with w6
                  exact hsz w6
            rw [show css.map AV.agg ++ [AV.agg cs] = (css ++ [cs]).map AV.agg by simp] at a3
            simp (maxSteps := 2000000) (discharger := omega) only [xz,xc,xo,xr,x0,x1,x3,x5,xd,xb,kont_call,selems,srcElems,wr,partEs,placeEs,Reg.isA,Reg.isV,Reg.stays,Reg.onto,↓reduceIte,reduceCtorEq,Nat.reduceEqDiff,Nat.reduceLT,Nat.zero_lt_succ,beq_self_eq_true,List.set_cons_zero,wrap_i64,hlt',g1,hq,hc1,r2,u1,u2,hecx,List.set_cons_zero,List.replicate,ar,a2]
            exact ⟨rest.length + 1, by omega, 0, lv', acc.length + 1, rfl, .inl ⟨rfl, acc ++ [x], css ++ [cs], rest, hA2.snoc hcs, h1r, a3, hEk, hJr, by simp, by omega, by omega, by rw [show m - (acc.length + 1) = m' by omega]; exact h7', rfl⟩⟩
      · have hlt' : ¬ ((acc.length : Nat) : Int) < (m : Int) := by omega
        have h7' : R = .ok acc t := by rw [← h7, show m - acc.length = 0 by omega]; rfl
        simp (maxSteps := 2000000) (discharger := omega) only [xz,xc,xo,xr,x0,x1,xd,Reg.isA,Reg.isV,Reg.stays,Reg.onto,↓reduceIte,reduceCtorEq,Nat.reduceEqDiff,Nat.reduceLT,beq_self_eq_true,exists_eq_left',he2,hlt']
        rw [h7']
        exact ⟨h3, lv, css, rfl, hA2, h2.rd, h1, hJ3⟩
    · have he : (e == 0) = false := by rcases h23 with rfl | rfl <;> rfl
      have he2 : (e != 0) = true := by rcases h23 with rfl | rfl <;> rfl
      have g1 := h1
      unfold Rr at g1
      simp (maxSteps := 2000000) (discharger := omega) only [xz,xc,xo,xr,x0,x1,x3,x5,xd,xb,upd,wr,Reg.isA,Reg.isV,Reg.stays,Reg.onto,↓reduceIte,reduceCtorEq,Nat.reduceEqDiff,Nat.reduceLT,Nat.zero_lt_succ,exists_eq_left',he,he2,g1,List.set_cons_zero]
      exact ⟨h3.trans (.set _), rfl, _, set_get h1 _⟩
end
end Go.Proofs.YtpgmohjmpaifbaaDoor.Im

/- S21Tp: parts read: takeParts, OpenParts. -/
set_option linter.unusedVariables false
set_option linter.unusedSimpArgs false
open Go Go.Im
namespace Go.Proofs.YtpgmohjmpaifbaaDoor.Im

theorem y33_eq : (AV.agg [AV.int .u8 0, AV.int .u8 0, AV.int .u8 0, AV.int .u8 0, AV.int .u8 0, AV.int .u8 0, AV.int .u8 0, AV.int .u8 0, AV.int .u8 0, AV.int .u8 0, AV.int .u8 0, AV.int .u8 0, AV.int .u8 0, AV.int .u8 0, AV.int .u8 0, AV.int .u8 0, AV.int .u8 0, AV.int .u8 0, AV.int .u8 0, AV.int .u8 0, AV.int .u8 0, AV.int .u8 0, AV.int .u8 0, AV.int .u8 0, AV.int .u8 0, AV.int .u8 0, AV.int .u8 0, AV.int .u8 0, AV.int .u8 0, AV.int .u8 0, AV.int .u8 0, AV.int .u8 0, AV.int .i64 0]) = .agg Y33 := rfl
theorem y33_len : Y33.length = 33 := rfl
theorem y33_take : Y33.take 33 = Y33 := rfl
theorem y33_drop : Y33.drop 32 = [.int .i64 0] := rfl
theorem all_one (b : By) : (bytesOf b).all AV.one = true := by
  rw [List.all_eq_true]
  intro x hx
  obtain ⟨y, _, rfl⟩ := List.mem_map.1 hx
  rfl
theorem bytesOf_kB (b : By) : bytesOf b = intsOf .u8 (kB b) := by simp [bytesOf,intsOf,kB,Function.comp_def]

def rP (x : Pt) (cs : List AV) : Prop := cs = x.cs ∧ x.ok
theorem rP_all : ∀ {l : List Pt} {css : List (List AV)}, A2 rP l css → css.map AV.agg = l.map Pt.av
  | [], [], _ => rfl
  | x :: l, c :: cs, h => by
    have h1 := h.1.1
    simp only [List.map_cons,rP_all h.2,h1]; rfl
  | [], _ :: _, h => h.elim
  | _ :: _, [], h => h.elim

section
variable {tot : Bool} {ω : Nat → Nat}
set_option maxHeartbeats 2000000 in
set_option maxRecDepth 100000 in
theorem c90 (id : Nat) : Elem tot ω 90 [] id none 33 10 rP (fun _ => []) rdP := by
  refine ⟨fun n g t acc hid hJ ht hn => ?_⟩
  obtain ⟨n, rfl⟩ : ∃ m, n = m + 1 := ⟨n - 1, by omega⟩
  have hk : ∀ {acc : List Pt} {g' : Hp}, Jp (fun _ : Pt => ([] : By)) none acc g' := fun l hl => by cases hl
  refine call_of (fn := a90) f90 (P := fun v g' => Ek id none g g' ∧ ElP id none 33 rP (fun _ => []) acc (rdP t) v g') ?_
  unfold rdP
  have hup := upd_full (zs := Y33) (cs := Y33) rfl
  unfold a90
  by_cases hl : t.length < 32
  · have r1 := c88e (tot := tot) (ω := ω) (n := n) id 32 t g hid (by omega) hl
    rw [show ((32 : Nat) : Int) = 32 from rfl] at r1
    rw [if_pos hl]
    simp (maxSteps := 2000000) (discharger := omega) only [xz,xc,xo,xr,x0,x1,x3,x5,xd,kont_call,wr,place,partVals,Reg.isA,Reg.isV,Reg.stays,Reg.onto,↓reduceIte,reduceCtorEq,Nat.reduceEqDiff,Nat.reduceLT,exists_eq_left',int_bne_t,nat_le_t,y33_eq,y33_len,y33_take,hup,r1]
    exact ⟨.refl _ _ _, ⟨Y33, rfl, rfl⟩, _, hid⟩
  · have r1 := c88o (tot := tot) (ω := ω) (n := n) id 32 t g hid (by omega) (by omega)
    rw [show ((32 : Nat) : Int) = 32 from rfl] at r1
    rw [if_neg hl]
    have hid2 := set_get hid (Rr (t.drop 32))
    have hBl : (t.take 32).length = 32 := by rw [List.length_take]; omega
    generalize t.take 32 = B at *
    have hBt : B.take 32 = B := List.take_of_length_le (by omega)
    have hbl : (bytesOf B).length = 32 := by rw [bytesOf_len]; exact hBl
    have hao := all_one B
    have hkb := bytesOf_kB B
    have hx33 : ∀ z : AV, (bytesOf B ++ [z]).length = 33 := fun z => by simp [hbl]
    have hset : ∀ z : AV, (bytesOf B ++ [AV.int .i64 0]).set 32 z = bytesOf B ++ [z] := fun z => by
      rw [List.set_append_right _ _ (by omega), hbl]; rfl
    have hget : ∀ z : AV, (bytesOf B ++ [z])[32]? = some z := fun z => by
      rw [List.getElem?_append_right (by omega), hbl]; rfl
    have htk : ∀ z : AV, (bytesOf B ++ [z]).take 33 = bytesOf B ++ [z] := fun z => List.take_of_length_le (by rw [hx33]; exact Nat.le_refl _)
    cases hc : rdC (t.drop 32) with
    | err e =>
      have r2 := c87e (tot := tot) (ω := ω) (n := n) id (t.drop 32) (g.set id (Rr (t.drop 32))) hid2 (by rw [List.length_drop]; omega) (by rw [List.length_drop]; omega) hc
      have h23 := rdC_e23 hc
      have he : ¬ e = 0 := by rcases h23 with rfl | rfl <;> decide
      simp (maxSteps := 2000000) (discharger := omega) only [xz,xc,xo,xr,x0,x1,x3,x4,x5,xd,xe,xb,kont_call,srcElems,copyTo,dlen,wr,place,partVals,Reg.isA,Reg.isV,Reg.stays,Reg.onto,↓reduceIte,reduceCtorEq,Nat.reduceEqDiff,Nat.reduceLT,Nat.reduceMul,Int.cast_ofNat_Int,exists_eq_left',Int.reduceToNat,Nat.reduceBEq,xu,int_le_t,int_beq_f,int_bne_t,int_bne_f,nat_le_t,Nat.sub_zero,y33_eq,y33_len,y33_take,y33_drop,hup,r1,hBt,hbl,hao,r2,hx33,hset]
      exact ⟨.set _, ⟨Y33, rfl, rfl⟩, _, hid2⟩
    | ok v k =>
      have r2 := c87o (tot := tot) (ω := ω) (n := n) id (t.drop 32) (g.set id (Rr (t.drop 32))) hid2 (by rw [List.length_drop]; omega) (by rw [List.length_drop]; omega) hc
      have hid3 := set_get hid2 (Rr ((t.drop 32).drop k))
      have hEk : Ek id none g ((g.set id (Rr (t.drop 32))).set id (Rr ((t.drop 32).drop k))) := (Ek.set _).trans (Ek.set _)
      have hup2 := fun z => upd_full (zs := Y33) (cs := bytesOf B ++ [z]) (hx33 z)
      rw [List.drop_drop] at hEk hid3 r2
      show Wp _ _ _ _ _ (Ret _ fun v' g' => Ek id none g g' ∧ ElP id none 33 rP (fun _ => []) acc (if v < 1 ∨ v > 4096 then QR.err 3 else .ok ⟨kB B, (v : Nat)⟩ (t.drop (32 + k))) v' g')
      by_cases h1 : ((v : Nat) : Int) < 1
      · rw [if_pos (by omega)]
        simp (maxSteps := 2000000) (discharger := omega) only [xz,xc,xo,xr,x0,x1,x3,x4,x5,xd,xe,xb,kont_call,srcElems,copyTo,dlen,wr,place,partVals,Reg.isA,Reg.isV,Reg.stays,Reg.onto,↓reduceIte,reduceCtorEq,Nat.reduceEqDiff,Nat.reduceLT,Nat.reduceMul,Int.cast_ofNat_Int,beq_self_eq_true,exists_eq_left',Int.reduceToNat,Nat.reduceBEq,xu,int_lt_t,int_le_t,int_bne_t,int_bne_f,nat_le_t,Nat.sub_zero,y33_eq,y33_len,y33_take,y33_drop,hup,r1,hBt,hbl,hao,r2,hx33,hset,hget]
        exact ⟨hEk, ⟨Y33, rfl, rfl⟩, _, hid3⟩
      · by_cases h2 : ((v : Nat) : Int) > 4096
        · rw [if_pos (by omega)]
          simp (maxSteps := 2000000) (discharger := omega) only [xz,xc,xo,xr,x0,x1,x3,x4,x5,xd,xe,kont_call,srcElems,copyTo,dlen,wr,place,partVals,Reg.isA,Reg.isV,Reg.stays,Reg.onto,↓reduceIte,reduceCtorEq,Nat.reduceEqDiff,Nat.reduceLT,Nat.reduceMul,Int.cast_ofNat_Int,beq_self_eq_true,exists_eq_left',Int.reduceToNat,Nat.reduceBEq,xu,int_lt_t,int_lt_f,int_le_t,int_bne_t,int_bne_f,nat_le_t,Nat.sub_zero,y33_eq,y33_len,y33_take,y33_drop,hup,r1,hBt,hbl,hao,r2,hx33,hset,hget]
          exact ⟨hEk, ⟨Y33, rfl, rfl⟩, _, hid3⟩
        · rw [if_neg (by omega)]
          simp (maxSteps := 2000000) (discharger := omega) only [xz,xc,xo,xr,x0,x1,x3,x4,x5,xd,xe,kont_call,srcElems,copyTo,dlen,wr,Reg.isA,Reg.isV,Reg.stays,Reg.onto,↓reduceIte,reduceCtorEq,Nat.reduceEqDiff,Nat.reduceLT,Nat.reduceMul,Int.cast_ofNat_Int,beq_self_eq_true,exists_eq_left',Int.reduceToNat,Nat.reduceBEq,xu,int_lt_f,int_le_t,int_bne_f,nat_le_t,Nat.sub_zero,y33_eq,y33_len,y33_drop,r1,hBt,hbl,hao,r2,hx33,hset,htk,hget,hup2]
          exact ⟨hEk, ⟨_, ⟨by unfold Pt.cs; rw [hkb], by show (kB B).length = 32; rw [kB_len]; exact hBl⟩, rfl⟩, hid3, hk⟩

theorem c61 {n : Nat} (id : Nat) (s : By) (h : Hp) (hid : h[id]? = some (Rr s)) (hs : s.length ≤ 1000000) (hn : s.length + 20 < n) :
    ∃ v h', call F n tot ω 61 [.ptr id 1 0 0] h = some (v, h') ∧ TlP id none 33 rP (fun _ => []) h (rdG rdP s) v h' := by
  obtain ⟨n, rfl⟩ : ∃ m, n = m + 1 := ⟨n - 1, by omega⟩
  have hF : F 89 = some (.inl (tlAF 33 40 (.agg Y33))) := by rw [f89, a89_tl]
  obtain ⟨v, h2, r1, p0, p1⟩ := take_list (tot := tot) (ω := ω) (n := n) 33 Y33 rfl (by decide) 89 90 hF [] id none 10 (by decide) rP (fun x cs hcs => by rw [hcs.1]; exact pt_len hcs.2) (fun _ => []) rdP rdP1 (c90 id) s h hid (fun l hl => by cases hl) (fun l hl => by cases hl) hs (by omega)
  refine call_of (fn := a61) f61 (P := fun v h' => TlP id none 33 rP (fun _ => []) h (rdG rdP s) v h') ?_
  unfold a61
  cases hg : rdG rdP s with
  | err e =>
    rw [hg] at p1
    obtain ⟨rfl, p2⟩ := p1
    simp (maxSteps := 2000000) (discharger := omega) only [xz,xc,xo,xr,x0,x3,xd,kont_call,Reg.isA,Reg.isV,Reg.stays,Reg.onto,↓reduceIte,reduceCtorEq,Nat.reduceEqDiff,Nat.reduceLT,exists_eq_left',r1]
    exact ⟨p0, rfl, p2⟩
  | ok l r =>
    rw [hg] at p1
    obtain ⟨lv, css, rfl, p2, p3, p4⟩ := p1
    simp (maxSteps := 2000000) (discharger := omega) only [xz,xc,xo,xr,x0,x3,xd,kont_call,Reg.isA,Reg.isV,Reg.stays,Reg.onto,↓reduceIte,reduceCtorEq,Nat.reduceEqDiff,Nat.reduceLT,exists_eq_left',r1]
    exact ⟨p0, lv, css, rfl, p2, p3, p4⟩

def OpP (q : Int ⊕ List Pt) (v : AV) : Prop := match q with
  | .inl e => v = .tup [.nils, .int .i64 e] ∧ e ≠ 0
  | .inr l => ∃ lv, v = .tup [lv, .int .i64 0] ∧ IsRd 33 (l.map Pt.av) lv
theorem c37 {n : Nat} (s : By) (h : Hp) (hs : s.length ≤ 1000000) (hn : s.length + 30 < n) : ∃ v h', call F n tot ω 37 [.str s] h = some (v, h') ∧ OpP (openP s) v := by
  obtain ⟨n, rfl⟩ : ∃ m, n = m + 1 := ⟨n - 1, by omega⟩
  refine call_of (fn := a37) f37 (P := fun v _ => OpP (openP s) v) ?_
  have r1 := c57 (tot := tot) (ω := ω) (n := n) s h (by omega)
  obtain ⟨v, h2, r2, p0, p1⟩ := c61 (tot := tot) (ω := ω) (n := n) h.length s (h ++ [.row 1 [.agg [.str s]]]) (by simp [Rr]) hs (by omega)
  unfold openP a37
  cases hg : rdG rdP s with
  | err e =>
    rw [hg] at p1
    obtain ⟨rfl, p2⟩ := p1
    have h23 := rdG_e rdP1 hg
    have he : ¬ e = 0 := by omega
    simp (maxSteps := 2000000) (discharger := omega) only [xz,xc,xo,xr,x0,x1,x3,xd,kont_call,Reg.isA,Reg.isV,Reg.stays,Reg.onto,↓reduceIte,reduceCtorEq,Nat.reduceEqDiff,Nat.reduceLT,exists_eq_left',int_beq_f,int_bne_t,r1,r2]
    exact ⟨rfl, he⟩
  | ok l r =>
    rw [hg] at p1
    obtain ⟨lv, css, rfl, p2, p3, p4, _⟩ := p1
    have r3 := c62 (tot := tot) (ω := ω) (n := n) h.length r h2 p4 (by omega)
    rw [rP_all p2] at p3
    by_cases hr : r = []
    · rw [if_pos hr] at r3
      simp (maxSteps := 2000000) (discharger := omega) only [xz,xc,xo,xr,x0,x1,x3,xd,kont_call,Reg.isA,Reg.isV,Reg.stays,Reg.onto,↓reduceIte,reduceCtorEq,Nat.reduceEqDiff,Nat.reduceLT,beq_self_eq_true,exists_eq_left',int_bne_f,r1,r2,r3,hr]
      exact ⟨lv, rfl, p3⟩
    · rw [if_neg hr] at r3
      simp (maxSteps := 2000000) (discharger := omega) only [xz,xc,xo,xr,x0,x1,x3,xd,kont_call,Reg.isA,Reg.isV,Reg.stays,Reg.onto,↓reduceIte,reduceCtorEq,Nat.reduceEqDiff,Nat.reduceLT,beq_self_eq_true,exists_eq_left',int_bne_t,r1,r2,r3,hr]
      exact ⟨rfl, by decide⟩
end
end Go.Proofs.YtpgmohjmpaifbaaDoor.Im

/- S21Pa: tree.Path: which texts are paths. -/
set_option linter.unusedVariables false
set_option linter.unusedSimpArgs false
open Go Go.Im
namespace Go.Proofs.YtpgmohjmpaifbaaDoor.Im

theorem idx_none : ∀ (s : By) (pv : Bool), Go.Lib.indexByte s 47 = -1 → slashOk pv s = (if s = [] then !pv else true)
  | [], pv, _ => rfl
  | c :: cs, pv, h => by
    unfold Go.Lib.indexByte at h
    split at h
    · cases h
    · rename_i hc
      have hc' : c ≠ 47 := by simpa using hc
      split at h
      · rename_i hx
        have := idx_none cs false (by simpa using hx)
        simp only [slashOk,if_neg hc',this]
        by_cases e : cs = [] <;> simp [e]
      · have := Go.Lib.indexByte_ge cs 47
        rename_i hx
        simp only [beq_iff_eq] at hx
        omega
theorem idx_some : ∀ (s : By) (pv : Bool) (i : Nat), Go.Lib.indexByte s 47 = (i : Int) → i < s.length ∧ slashOk pv s = if i = 0 then !pv && slashOk true (s.drop 1) else slashOk true (s.drop (i + 1))
  | [], pv, i, h => by
    have : Go.Lib.indexByte [] 47 = -1 := rfl
    omega
  | c :: cs, pv, i, h => by
    unfold Go.Lib.indexByte at h
    split at h
    · rename_i hc
      have hc' : c = 47 := by simpa using hc
      obtain rfl : i = 0 := by omega
      simp [slashOk,hc']
    · rename_i hc
      have hc' : c ≠ 47 := by simpa using hc
      split at h
      · omega
      · rename_i hx
        simp only [beq_iff_eq] at hx
        have hge := Go.Lib.indexByte_ge cs 47
        obtain ⟨j, hj⟩ : ∃ j : Nat, Go.Lib.indexByte cs 47 = (j : Int) := ⟨(Go.Lib.indexByte cs 47).toNat, by omega⟩
        obtain rfl : i = j + 1 := by omega
        obtain ⟨h1, h2⟩ := idx_some cs false j hj
        refine ⟨by simpa using h1, ?_⟩
        simp only [slashOk,if_neg hc',h2,List.drop_succ_cons,Nat.add_one_ne_zero,if_false]
        by_cases e : j = 0 <;> simp [e]

/-! ### the place of a slash -/
section
variable {n : Nat} {tot : Bool} {ω : Nat → Nat} {h : Hp}
theorem f120 : F 120 = some (.inr idxG) := by kernel_rfl
theorem c120 (s : By) (c : UInt8) (hn : 0 < n) : call F n tot ω 120 [.str s, .int .u8 (c.toNat : Nat)] h = some (.int .i64 (Go.Lib.indexByte s c), h) := by
  obtain ⟨n, rfl⟩ : ∃ m, n = m + 1 := ⟨n - 1, by omega⟩
  rw [call_inr f120]
  simp [idxG]
theorem c115 (s : By) (c : UInt8) (hn : 1 < n) : call F n tot ω 115 [.str s, .int .u8 (c.toNat : Nat)] h = some (.int .i64 (Go.Lib.indexByte s c), h) := by
  obtain ⟨n, rfl⟩ : ∃ m, n = m + 1 := ⟨n - 1, by omega⟩
  refine call_eq (fn := a115) f115 ?_
  unfold a115
  have k := fun h => c120 (n := n) (tot := tot) (ω := ω) (h := h) s c (by omega)
  simp (maxSteps := 2000000) (discharger := omega) only [xz,xc,xo,xr,x0,xd,kont_call,Reg.isA,Reg.isV,Reg.stays,Reg.onto,↓reduceIte,reduceCtorEq,Nat.reduceEqDiff,Nat.reduceLT,Nat.reduceAdd,exists_eq_left',k]
theorem c110 (s : By) (c : UInt8) (hn : 2 < n) : call F n tot ω 110 [.str s, .str [c]] h = some (.int .i64 (Go.Lib.indexByte s c), h) := by
  obtain ⟨n, rfl⟩ : ∃ m, n = m + 1 := ⟨n - 1, by omega⟩
  refine call_eq (fn := a110) f110 ?_
  unfold a110
  have k := fun h => c115 (n := n) (tot := tot) (ω := ω) (h := h) s c (by omega)
  simp (maxSteps := 2000000) (discharger := omega) only [xz,xc,xo,xr,x0,x1,x4,xd,kont_call,Reg.isA,Reg.isV,Reg.stays,Reg.onto,↓reduceIte,reduceCtorEq,Nat.reduceEqDiff,Nat.reduceLT,Nat.reduceAdd,Int.cast_ofNat_Int,beq_self_eq_true,exists_eq_left',Int.reduceToNat,int_le_t,int_beq_f,k]
  split
  · rename_i hq
    have hq : [c] = s := by simpa using hq
    subst hq
    simp [Go.Lib.indexByte]
  · trivial
theorem c101 (s : By) (c : UInt8) (hn : 3 < n) : call F n tot ω 101 [.str s, .str [c]] h = some (.int .i64 (Go.Lib.indexByte s c), h) := by
  obtain ⟨n, rfl⟩ : ∃ m, n = m + 1 := ⟨n - 1, by omega⟩
  refine call_eq (fn := a101) f101 ?_
  unfold a101
  have k := fun h => c110 (n := n) (tot := tot) (ω := ω) (h := h) s c (by omega)
  simp (maxSteps := 2000000) (discharger := omega) only [xz,xc,xo,xr,x0,xd,kont_call,Reg.isA,Reg.isV,Reg.stays,Reg.onto,↓reduceIte,reduceCtorEq,Nat.reduceEqDiff,Nat.reduceLT,Nat.reduceAdd,exists_eq_left',k]

/-! ### the split -/
def hdP : AC := .region [] [⟨some 3,.mov (.t 11),none⟩] [2,3]
def bdP : AC := .block 1 w12b
def RP (s : By) (L : Nat) : Regs := [(0, .val (.str s)), (2, .val (.ptr L 1 0 0)), (10, .val (.fn (.func 99) [] [.ptr (L + 2) 1 0 0, .ptr (L + 1) 1 0 0, .ptr (L + 3) 1 0 0]))]
def HP (h : Hp) (s q : By) (st : Nat) (pd : Option AE) : Hp := h ++ [.row 1 [.bool false], .row 1 [.str q], .row 1 [.str [47]], .row 1 [.int .i64 0], .loop (RP s h.length) [11] hdP bdP st pd]

theorem rd_yes (s q p : By) (hp : p ≠ []) (hn : 1 < n) : round F n tot ω (h.length + 4) [.str p] (HP h s q 0 none) = some (.bool true, HP h s q 0 none) := by
  obtain ⟨n, rfl⟩ : ∃ m, n = m + 1 := ⟨n - 1, by omega⟩
  refine round_eq (r := RP s h.length) (ps := [11]) (hd := hdP) (bd := bdP) (st := 0) (pd := none) (by unfold HP; rw [hgk]; rfl) rfl ?_
  have hb : (p == []) = false := by cases p <;> simp_all
  have e : putArgs (RP s h.length) [11] [.str p] = [(0, .val (.str s)), (2, .val (.ptr h.length 1 0 0)), (10, .val (.fn (.func 99) [] [.ptr (h.length + 2) 1 0 0, .ptr (h.length + 1) 1 0 0, .ptr (h.length + 3) 1 0 0])), (11, .val (.str p))] := rfl
  rw [e]
  unfold hdP
  simp (maxSteps := 2000000) (discharger := omega) only [xz,xc,xo,xr,x0,Reg.isA,Reg.isV,Reg.stays,Reg.onto,↓reduceIte,reduceCtorEq,Nat.reduceEqDiff,Nat.reduceLT]
  refine ⟨rfl, RP s h.length, [11], hdP, bdP, none, by unfold HP; rw [hgk]; rfl, ?_⟩
  unfold bdP w12b HP
  simp (maxSteps := 2000000) (discharger := omega) only [xz,xc,xo,xr,x0,x1,xd,Reg.isA,Reg.isV,Reg.stays,Reg.onto,↓reduceIte,Nat.reduceEqDiff,Nat.reduceLT,List.set_cons_zero,List.set_cons_succ,hsk,hb]
  exact ⟨_, _, _, _, _, _, by rw [hgk]; rfl, rfl, by rw [hsk]; rfl⟩

theorem rd_no (s q : By) (hn : 1 < n) : round F n tot ω (h.length + 4) [.str []] (HP h s q 0 none) = some (.bool false, HP h s q 2 (some .ret)) := by
  obtain ⟨n, rfl⟩ : ∃ m, n = m + 1 := ⟨n - 1, by omega⟩
  refine round_eq (r := RP s h.length) (ps := [11]) (hd := hdP) (bd := bdP) (st := 0) (pd := none) (by unfold HP; rw [hgk]; rfl) rfl ?_
  have e : putArgs (RP s h.length) [11] [.str []] = [(0, .val (.str s)), (2, .val (.ptr h.length 1 0 0)), (10, .val (.fn (.func 99) [] [.ptr (h.length + 2) 1 0 0, .ptr (h.length + 1) 1 0 0, .ptr (h.length + 3) 1 0 0])), (11, .val (.str []))] := rfl
  rw [e]
  unfold hdP
  simp (maxSteps := 2000000) (discharger := omega) only [xz,xc,xo,xr,x0,Reg.isA,Reg.isV,Reg.stays,Reg.onto,↓reduceIte,reduceCtorEq,Nat.reduceEqDiff,Nat.reduceLT]
  refine ⟨rfl, RP s h.length, [11], hdP, bdP, none, by unfold HP; rw [hgk]; rfl, ?_⟩
  unfold bdP w12b HP
  simp (maxSteps := 2000000) (discharger := omega) only [xz,xc,xo,xr,x0,x1,x5,xd,wr,Reg.isA,Reg.isV,Reg.stays,Reg.onto,↓reduceIte,Nat.reduceEqDiff,Nat.reduceLT,beq_self_eq_true,xu,List.set_cons_zero,List.set_cons_succ,hsk,hg0,hs0]
  exact ⟨_, _, _, _, _, _, by rw [hgk]; rfl, rfl, by rw [hsk]; rfl⟩

theorem c74 (s p : By) (hn : 0 < n) : call F n tot ω 74 [.str s, .str p, .int .i64 0] h = some (.fn (.func 99) [] [.ptr (h.length + 1) 1 0 0, .ptr h.length 1 0 0, .ptr (h.length + 2) 1 0 0], h ++ [.row 1 [.str s], .row 1 [.str p], .row 1 [.int .i64 0]]) := by
  obtain ⟨n, rfl⟩ : ∃ m, n = m + 1 := ⟨n - 1, by omega⟩
  refine call_eq (fn := a74) f74 ?_
  unfold a74
  simp (maxSteps := 2000000) (discharger := omega) only [xz,xc,xo,xr,x0,x3,x5,xd,Reg.isA,Reg.isV,Reg.stays,Reg.onto,↓reduceIte,reduceCtorEq,Nat.reduceEqDiff,Nat.reduceLT,Nat.reduceAdd,exists_eq_left',List.length_append,List.append_assoc]
theorem c43 (s p : By) (hn : 1 < n) : call F n tot ω 43 [.str s, .str p] h = some (.fn (.func 99) [] [.ptr (h.length + 1) 1 0 0, .ptr h.length 1 0 0, .ptr (h.length + 2) 1 0 0], h ++ [.row 1 [.str s], .row 1 [.str p], .row 1 [.int .i64 0]]) := by
  obtain ⟨n, rfl⟩ : ∃ m, n = m + 1 := ⟨n - 1, by omega⟩
  refine call_eq (fn := a43) f43 ?_
  unfold a43
  have k := c74 (n := n) (tot := tot) (ω := ω) (h := h) s p (by omega)
  simp (maxSteps := 2000000) (discharger := omega) only [xz,xc,xo,xr,x0,xd,kont_call,Reg.isA,Reg.isV,Reg.stays,Reg.onto,↓reduceIte,reduceCtorEq,Nat.reduceEqDiff,Nat.reduceLT,Nat.reduceAdd,exists_eq_left',k]

theorem c99 (s : By) (hs : s.length ≤ 64) (hn : 80 < n) : ∃ q, call F n tot ω 99 [.yld (h.length + 4), .ptr (h.length + 2) 1 0 0, .ptr (h.length + 1) 1 0 0, .ptr (h.length + 3) 1 0 0] (HP h s s 0 none) = some (.tup [], if slashOk true s = true then HP h s q 0 none else HP h s q 2 (some .ret)) := by
  obtain ⟨n, rfl⟩ : ∃ m, n = m + 1 := ⟨n - 1, by omega⟩
  suffices hx : ∃ v h', call F (n + 1) tot ω 99 [.yld (h.length + 4), .ptr (h.length + 2) 1 0 0, .ptr (h.length + 1) 1 0 0, .ptr (h.length + 3) 1 0 0] (HP h s s 0 none) = some (v, h') ∧ v = .tup [] ∧ ∃ q, h' = if slashOk true s = true then HP h s q 0 none else HP h s q 2 (some .ret) by
    obtain ⟨v, h', e1, rfl, q, rfl⟩ := hx
    exact ⟨q, e1⟩
  refine call_of (fn := a99) f99 (P := fun v h' => v = .tup [] ∧ ∃ q, h' = if slashOk true s = true then HP h s q 0 none else HP h s q 2 (some .ret)) ?_
  unfold a99
  have g1 : ∀ q st pd, (HP h s q st pd)[h.length + 1]? = some (.row 1 [.str q]) := fun q st pd => by unfold HP; rw [hgk]; rfl
  have g2 : ∀ q st pd, (HP h s q st pd)[h.length + 2]? = some (.row 1 [.str [47]]) := fun q st pd => by unfold HP; rw [hgk]; rfl
  have g3 : ∀ q st pd, (HP h s q st pd)[h.length + 3]? = some (.row 1 [.int .i64 0]) := fun q st pd => by unfold HP; rw [hgk]; rfl
  have u1 : ∀ q q' st pd, (HP h s q st pd).set (h.length + 1) (.row 1 [.str q']) = HP h s q' st pd := fun q q' st pd => by unfold HP; rw [hsk]; rfl
  simp (maxSteps := 2000000) (discharger := omega) only [xz,xc,xo,xr,x0,x1,x4,xd,Reg.isA,Reg.isV,Reg.stays,Reg.onto,↓reduceIte,reduceCtorEq,Nat.reduceEqDiff,Nat.reduceLT,Nat.reduceAdd,Int.cast_ofNat_Int,int_beq_f,g2]
  refine wpi_loop (fun x r g' => ∃ q : By, (r = [(0, .val (.yld (h.length + 4))), (1, .val (.ptr (h.length + 2) 1 0 0)), (2, .val (.ptr (h.length + 1) 1 0 0)), (3, .val (.ptr (h.length + 3) 1 0 0))] ∨ r = [(0, .val (.yld (h.length + 4))), (1, .val (.ptr (h.length + 2) 1 0 0)), (2, .val (.ptr (h.length + 1) 1 0 0)), (3, .val (.ptr (h.length + 3) 1 0 0)), (11, .val (.bool false))]) ∧ x = q.length ∧ q.length ≤ s.length ∧ g' = HP h s q 0 none ∧ slashOk true q = slashOk true s) s.length (by omega)
    ⟨s, .inr rfl, rfl, Nat.le_refl _, rfl, rfl⟩ ?_
  rintro x r g' ⟨q, hr, rfl, hq, rfl, hsl⟩
  have k := fun h => c101 (n := n) (tot := tot) (ω := ω) (h := h) q 47 (by omega)
  have hge := Go.Lib.indexByte_ge q 47
  by_cases hi : Go.Lib.indexByte q 47 = -1
  · have h1 := idx_none q true hi
    by_cases hq0 : q = []
    · subst hq0
      have r1 := rd_no (n := n) (tot := tot) (ω := ω) (h := h) s [] (by omega)
      have : ∃ q, HP h s [] 2 (some .ret) = if slashOk true s = true then HP h s q 0 none else HP h s q 2 (some .ret) := by
        refine ⟨[], ?_⟩
        rw [if_neg]
        rw [← hsl]; simp [slashOk]
      rcases hr with rfl | rfl <;> simp (maxSteps := 2000000) (discharger := omega) only [xz,xc,xo,xr,x0,x1,xd,kont_call,kont_round,Reg.isA,Reg.isV,Reg.stays,Reg.onto,↓reduceIte,reduceCtorEq,Nat.reduceEqDiff,Nat.reduceLT,exists_eq_left',Int.reduceNeg,int_lt_t,g1,g2,k,hi,r1] <;> exact this
    · have r1 := rd_yes (n := n) (tot := tot) (ω := ω) (h := h) s q q hq0 (by omega)
      have : ∃ q', HP h s q 0 none = if slashOk true s = true then HP h s q' 0 none else HP h s q' 2 (some .ret) := by
        refine ⟨q, ?_⟩
        rw [if_pos]
        rw [← hsl, h1, if_neg hq0]
      rcases hr with rfl | rfl <;> simp (maxSteps := 2000000) (discharger := omega) only [xz,xc,xo,xr,x0,x1,xd,kont_call,kont_round,Reg.isA,Reg.isV,Reg.stays,Reg.onto,↓reduceIte,reduceCtorEq,Nat.reduceEqDiff,Nat.reduceLT,exists_eq_left',Int.reduceNeg,int_lt_t,g1,g2,k,hi,r1] <;> exact this
  · obtain ⟨i, hi⟩ : ∃ i : Nat, Go.Lib.indexByte q 47 = (i : Int) := ⟨(Go.Lib.indexByte q 47).toNat, by omega⟩
    obtain ⟨hl, h2⟩ := idx_some q true i hi
    have e0 : (i : Int) + 0 = (i : Int) := by omega
    have e1 : ((i : Int) + 1).toNat = i + 1 := by omega
    by_cases hi0 : i = 0
    · subst hi0
      have r1 := rd_no (n := n) (tot := tot) (ω := ω) (h := h) s q (by omega)
      have : ∃ q', HP h s q 2 (some .ret) = if slashOk true s = true then HP h s q' 0 none else HP h s q' 2 (some .ret) := by
        refine ⟨q, ?_⟩
        rw [if_neg]
        rw [← hsl, h2]; simp
      rcases hr with rfl | rfl <;> simp (maxSteps := 2000000) (discharger := omega) only [xz,xc,xo,xr,x0,x1,x2,x3,xd,kont_call,kont_round,slOk,sliceV,Reg.isA,Reg.isV,Reg.stays,Reg.onto,↓reduceIte,reduceCtorEq,Nat.reduceEqDiff,Nat.reduceLT,Option.getD_some,Int.cast_ofNat_Int,exists_eq_left',Int.reduceToNat,wrap_i64,int_lt_f,int_le_t,g1,g2,g3,k,hi,r1,Int.add_zero] <;> exact this
    · have hne : q.take i ≠ [] := by
        intro e
        have : (q.take i).length = 0 := by rw [e]; rfl
        rw [List.length_take] at this
        omega
      have r1 := rd_yes (n := n) (tot := tot) (ω := ω) (h := h) s q (q.take i) hne (by omega)
      rcases hr with rfl | rfl <;> simp (maxSteps := 2000000) (discharger := omega) only [xz,xc,xo,xr,x0,x1,x2,x3,x4,x5,xd,kont_call,kont_round,slOk,sliceV,wr,Reg.isA,Reg.isV,Reg.stays,Reg.onto,↓reduceIte,reduceCtorEq,Nat.reduceEqDiff,Nat.reduceLT,Option.getD_some,Option.getD_none,Int.cast_ofNat_Int,true_or,Int.reduceToNat,xu,List.set_cons_zero,wrap_i64,int_lt_f,int_le_t,g1,g2,g3,k,hi,r1,e0,e1,u1,List.take_length]
      · exact ⟨(q.drop (i + 1)).length, by simp; omega, q.drop (i + 1), rfl, by simp; omega, rfl, by rw [← hsl, h2, if_neg hi0]⟩
      · exact ⟨(q.drop (i + 1)).length, by simp; omega, q.drop (i + 1), rfl, by simp; omega, rfl, by rw [← hsl, h2, if_neg hi0]⟩

theorem c12 (s : By) (hs : s.length ≤ 9223372036854775807) (hn : 100 < n) : ∃ m, call F n tot ω 12 [.str s] h = some (.bool (pathB s), h ++ m) := by
  obtain ⟨n, rfl⟩ : ∃ m, n = m + 1 := ⟨n - 1, by omega⟩
  suffices hx : ∃ v h', call F (n + 1) tot ω 12 [.str s] h = some (v, h') ∧ v = .bool (pathB s) ∧ ∃ m, h' = h ++ m by
    obtain ⟨v, h', e1, rfl, m, rfl⟩ := hx
    exact ⟨m, e1⟩
  refine call_of (fn := a12) f12 (P := fun v h' => v = .bool (pathB s) ∧ ∃ m, h' = h ++ m) ?_
  unfold a12
  by_cases hl : s.length ≤ 64
  · obtain ⟨q, k⟩ := c99 (n := n) (tot := tot) (ω := ω) (h := h) s hl (by omega)
    have k43 := c43 (n := n) (tot := tot) (ω := ω) (h := h ++ [.row 1 [.bool false]]) s [47] (by omega)
    simp only [List.length_append,List.length_cons,List.length_nil,Nat.zero_add,List.append_assoc,List.cons_append,List.nil_append,Nat.add_assoc,Nat.reduceAdd] at k43
    simp (maxSteps := 2000000) (discharger := omega) only [xz,xc,xo,xr,x0,x1,x4,x5,xd,kont_call,Reg.isA,Reg.isV,Reg.stays,Reg.onto,↓reduceIte,reduceCtorEq,Nat.reduceEqDiff,Nat.reduceLT,int_lt_f,k43]
    refine wpi_rangeF (h2 := if slashOk true s = true then HP h s q 0 none else HP h s q 2 (some .ret)) (f := 99) (first := []) (captured := [.ptr (h.length + 2) 1 0 0, .ptr (h.length + 1) 1 0 0, .ptr (h.length + 3) 1 0 0]) (v := .tup []) (r1 := RP s h.length) (ps1 := [11]) (hd1 := hdP) (bd1 := bdP) (st := if slashOk true s = true then 0 else 2) (pd := if slashOk true s = true then none else some .ret) rfl (kont_code f99) ?_ ?_ ?_ ?_
    · have e : (h ++ [AO.row 1 [.bool false], .row 1 [.str s], .row 1 [.str [47]], .row 1 [.int .i64 0]]).length = h.length + 4 := by simp
      rw [e, List.append_assoc]
      exact k
    · have e : (h ++ [AO.row 1 [.bool false], .row 1 [.str s], .row 1 [.str [47]], .row 1 [.int .i64 0]]).length = h.length + 4 := by simp
      rw [e]
      by_cases hk : slashOk true s = true
      · rw [if_pos hk, if_pos hk, if_pos hk]; unfold HP; rw [hgk]; rfl
      · rw [if_neg hk, if_neg hk, if_neg hk]; unfold HP; rw [hgk]; rfl
    · split <;> omega
    · have e : (h ++ [AO.row 1 [.bool false], .row 1 [.str s], .row 1 [.str [47]], .row 1 [.int .i64 0]]).length = h.length + 4 := by simp
      rw [e]
      by_cases hk : slashOk true s = true
      · rw [if_pos hk, if_pos hk]
        unfold HP
        rw [hsk]
        simp (maxSteps := 2000000) (discharger := omega) only [xc,Option.getD_none,List.set_cons_zero,List.set_cons_succ]
        unfold w12c
        simp (maxSteps := 2000000) (discharger := omega) only [xz,xc,xo,xr,x0,x2,x3,x4,xd,xe,Reg.isA,Reg.isV,Reg.stays,Reg.onto,↓reduceIte,reduceCtorEq,Nat.reduceEqDiff,Nat.reduceLT]
        refine wpi_loop (fun x r g' => ∃ i : Nat, r = [(2, .val (.ptr h.length 1 0 0)), (15, .val (.imm 1 (bytesOf s) .no)), (16, .val (.int .i64 s.length)), (17, .val (.int .i64 i))] ∧ x = s.length - i ∧ i ≤ s.length ∧ g' = h ++ [.row 1 [.bool false], .row 1 [.str q], .row 1 [.str [47]], .row 1 [.int .i64 0], .dead] ∧ (s.take i).all goodC = true) s.length (by omega)
          ⟨0, rfl, rfl, Nat.zero_le _, rfl, rfl⟩ ?_
        rintro x r g' ⟨i, rfl, rfl, hi, rfl, hg⟩
        by_cases hlt : i < s.length
        · have qb := bytesOf_get hlt
          by_cases h1 : ((s[i].toNat : Nat) : Int) ≤ 32
          · have hp : pathB s = false := by
              unfold pathB
              rw [hk, show s.all goodC = false from all_bad hlt (by simp [goodC]; omega)]; simp
            simp (maxSteps := 2000000) (discharger := omega) only [xz,xc,xo,xr,x0,x1,x5,xd,xb,wr,Reg.isA,Reg.isV,Reg.stays,Reg.onto,↓reduceIte,Nat.reduceEqDiff,Nat.reduceLT,exists_eq_left',xu,List.set_cons_zero,int_lt_t,int_le_t,qb,hp,hg0,hs0]
            exact ⟨_, rfl⟩
          · by_cases h2 : ((s[i].toNat : Nat) : Int) > 126
            · have hp : pathB s = false := by
                unfold pathB
                rw [hk, show s.all goodC = false from all_bad hlt (by simp [goodC]; omega)]; simp
              simp (maxSteps := 2000000) (discharger := omega) only [xz,xc,xo,xr,x0,x1,x5,xd,wr,Reg.isA,Reg.isV,Reg.stays,Reg.onto,↓reduceIte,Nat.reduceEqDiff,Nat.reduceLT,beq_self_eq_true,exists_eq_left',xu,List.set_cons_zero,int_lt_t,int_le_t,int_le_f,qb,hp,hg0,hs0]
              exact ⟨_, rfl⟩
            · simp (maxSteps := 2000000) (discharger := omega) only [xz,xc,xo,xr,x0,x1,xd,Reg.isA,Reg.isV,Reg.stays,Reg.onto,↓reduceIte,Nat.reduceEqDiff,Nat.reduceLT,beq_self_eq_true,wrap_i64,int_lt_t,int_lt_f,int_le_t,int_le_f,qb]
              refine ⟨s.length - (i + 1), by omega, i + 1, by rw [show ((i : Nat) : Int) + 1 = ((i + 1 : Nat) : Int) by omega], rfl, by omega, ?_⟩
              rw [List.take_succ_eq_append_getElem hlt, List.all_append, hg]
              simp [goodC]; omega
        · obtain rfl : i = s.length := by omega
          rw [List.take_length] at hg
          have hp : pathB s = true := by unfold pathB; rw [hk, hg]; simp [hl]
          simp (maxSteps := 2000000) (discharger := omega) only [xz,xc,xo,xr,x1,x5,xd,wr,Reg.isA,Reg.isV,Reg.stays,Reg.onto,↓reduceIte,Nat.reduceEqDiff,Nat.reduceLT,exists_eq_left',xu,List.set_cons_zero,int_lt_f,Nat.sub_self,hp,hg0,hs0]
          exact ⟨_, rfl⟩
      · rw [if_neg hk, if_neg hk]
        have hp : pathB s = false := by unfold pathB; simp [hk]
        unfold HP
        rw [hsk]
        simp (maxSteps := 2000000) (discharger := omega) only [xz,xc,xr,xd,↓reduceIte,reduceCtorEq,Option.getD_some,exists_eq_left',List.set_cons_zero,List.set_cons_succ,hp,hg0]
        exact ⟨_, rfl⟩
  · have hp : pathB s = false := by unfold pathB; simp [hl]
    simp (maxSteps := 2000000) (discharger := omega) only [xz,xc,xo,xr,x0,x1,x4,x5,xd,wr,Reg.isA,Reg.isV,Reg.stays,Reg.onto,↓reduceIte,reduceCtorEq,Nat.reduceEqDiff,Nat.reduceLT,exists_eq_left',xu,List.set_cons_zero,int_lt_t,hp,hg0,hs0]
    exact ⟨_, rfl⟩
end
end Go.Proofs.YtpgmohjmpaifbaaDoor.Im

/- S21Pe: tree.paths. -/
set_option linter.unusedVariables false
set_option linter.unusedSimpArgs false
open Go Go.Im
namespace Go.Proofs.YtpgmohjmpaifbaaDoor.Im
section
variable {n : Nat} {tot : Bool} {ω : Nat → Nat} {h : Hp}

theorem c45 (l : List By) (v : AV) (hv : IsRd 1 (l.map AV.str) v) (hb : ∀ p ∈ l, p.length ≤ 9223372036854775807) (hl : l.length ≤ 1000000) (hn : l.length + 110 < n) :
    ∃ b m, call F n tot ω 45 [v] h = some (.bool b, h ++ m) ∧ (b = true ↔ Rising l) := by
  obtain ⟨n, rfl⟩ : ∃ m, n = m + 1 := ⟨n - 1, by omega⟩
  suffices hx : ∃ v2 h', call F (n + 1) tot ω 45 [v] h = some (v2, h') ∧ ∃ b m, v2 = .bool b ∧ h' = h ++ m ∧ (b = true ↔ Rising l) by
    obtain ⟨v2, h', e1, b, m, rfl, rfl, e2⟩ := hx
    exact ⟨b, m, e1, e2⟩
  refine call_of (fn := a45) f45 (P := fun v2 h' => ∃ b m, v2 = .bool b ∧ h' = h ++ m ∧ (b = true ↔ Rising l)) ?_
  unfold a45
  have hlen := hv.len
  rw [List.length_map] at hlen
  have no : ¬ Rising l → ∀ (h' : Hp), (∃ m, h' = h ++ m) → ∃ b m, AV.bool false = .bool b ∧ h' = h ++ m ∧ (b = true ↔ Rising l) := fun hr h' ⟨m, e⟩ => ⟨false, m, rfl, e, by simp [hr]⟩
  simp (maxSteps := 2000000) (discharger := omega) only [xz,xc,xo,xr,x0,x4,x5,Reg.isA,Reg.isV,Reg.stays,Reg.onto,↓reduceIte,reduceCtorEq,Nat.reduceEqDiff,Nat.reduceLT,hlen]
  refine wpi_loop (fun x r g' => ∃ (i : Nat) (T : List (By × Bool × Nat)) (c : Nat), r = [(0, .val v), (3, .val (.mp h.length)), (11, .val v), (12, .val (.int .i64 l.length)), (13, .val (.int .i64 i))] ∧ x = l.length - i ∧ i ≤ l.length ∧
    (∃ m, g' = h ++ m) ∧ g'[h.length]? = some (.map (encE AV.str AV.bool T) c) ∧ (∀ k, tget T k = if k ∈ l.take i then some true else none) ∧ (∀ p ∈ l.take i, pathB p = true) ∧
    (∀ j k (hj : j < l.length) (hk : k < l.length), j < k → k < i → Op.bytesLess l[j] l[k] = true)) l.length (by omega)
    ⟨0, [], 0, rfl, rfl, Nat.zero_le _, ⟨_, rfl⟩, by simp [encE], fun k => by simp [tget], by simp, fun j k hj hk h1 h2 => by omega⟩ ?_
  rintro x r g' ⟨i, T, c, rfl, rfl, hi, ⟨m, rfl⟩, hm, hT, hp, hr⟩
  by_cases hlt : i < l.length
  · obtain ⟨cv, rfl⟩ := hv.imm (i := i) (by simpa using hlt)
    have q1 : (l.map AV.str)[i]? = some (.str l[i]) := by simp [hlt]
    obtain ⟨m2, k12⟩ := c12 (n := n) (tot := tot) (ω := ω) (h := h ++ m) l[i] (hb _ (List.getElem_mem hlt)) (by omega)
    by_cases hpi : pathB l[i] = true
    · rw [hpi] at k12
      have hm2 : (h ++ m ++ m2)[h.length]? = some (.map (encE AV.str AV.bool T) c) := by
        rw [List.getElem?_append_left (List.getElem?_eq_some_iff.1 hm).1]; exact hm
      have hlt2 := (List.getElem?_eq_some_iff.1 hm2).1
      -- what is put
      have put : (∀ j (hj : j < i), Op.bytesLess l[j] l[i] = true) → tget T l[i] = none ∧ ∀ k, tget (T ++ [(l[i], true, c)]) k = if k ∈ l.take (i + 1) then some true else none := fun hless => by
        have hn : tget T l[i] = none := by
          rw [hT, if_neg]
          intro hmem
          obtain ⟨j, hj, e⟩ := List.getElem_of_mem hmem
          rw [List.length_take] at hj
          rw [List.getElem_take] at e
          have := hless j (by omega)
          rw [e, bl_irrefl] at this
          cases this
        refine ⟨hn, fun k => ?_⟩
        rw [← tput_new hn, tget_put, hT, List.take_succ_eq_append_getElem hlt]
        by_cases e : l[i] = k
        · rw [if_pos e, if_pos (by simp [e])]
        · rw [if_neg e]
          by_cases e2 : k ∈ l.take i
          · rw [if_pos e2, if_pos (List.mem_append.2 (.inl e2))]
          · rw [if_neg e2, if_neg]
            simp only [List.mem_append,List.mem_singleton,not_or]
            exact ⟨e2, fun x => e x.symm⟩
      have hp' : ∀ p ∈ l.take (i + 1), pathB p = true := fun p hmem => by
        rw [List.take_succ_eq_append_getElem hlt] at hmem
        rcases List.mem_append.1 hmem with hmem | hmem
        · exact hp p hmem
        · rw [List.mem_singleton] at hmem; rw [hmem]; exact hpi
      by_cases h0 : i = 0
      · subst h0
        obtain ⟨hn0, hT'⟩ := put fun j hj => by omega
        have hf := findK_no (ev := AV.bool) key_str 0 hn0
        simp (maxSteps := 2000000) (discharger := omega) only [xz,xc,xo,xr,x0,x1,x2,x5,xd,xb,kont_call,keyOk,keyCells,Reg.isA,Reg.isV,Reg.stays,Reg.onto,↓reduceIte,reduceCtorEq,Nat.reduceEqDiff,Nat.reduceLT,Int.cast_ofNat_Int,beq_self_eq_true,Int.reduceToNat,Int.reduceAdd,wrap_i64,int_lt_t,int_lt_f,int_le_t,Nat.sub_zero,q1,k12,hm2,hf]
        refine ⟨l.length - (0 + 1), by omega, 0 + 1, T ++ [(l[0], true, c)], c + 1, rfl, rfl, by omega, ⟨(m ++ m2).set 0 _, by rw [List.append_assoc, hs0]⟩, ?_, hT', hp', fun j k hj hk h1 h2 => by omega⟩
        rw [get_set_self hlt2]; simp [encE]
      · have e1 : ((i : Int) - 1).toNat = i - 1 := by omega
        have q2 : (l.map AV.str)[i - 1]? = some (.str (l[i - 1]'(by omega))) := by simp [show i - 1 < l.length by omega]
        cases hless : Op.bytesLess (l[i - 1]'(by omega)) l[i] with
        | false =>
          simp (maxSteps := 2000000) (discharger := omega) only [xz,xc,xo,xr,x0,x1,x2,xd,kont_call,Reg.isA,Reg.isV,Reg.stays,Reg.onto,↓reduceIte,reduceCtorEq,Nat.reduceEqDiff,Nat.reduceLT,beq_self_eq_true,exists_eq_left',wrap_i64,int_lt_t,int_le_t,q1,q2,k12,e1,hless]
          refine no (fun hR => ?_) _ ⟨m ++ m2, by rw [List.append_assoc]⟩
          have := hR.rise (i - 1) i (by omega) hlt (by omega)
          rw [hless] at this; cases this
        | true =>
          have hall : ∀ j (hj : j < i), Op.bytesLess (l[j]'(by omega)) l[i] = true := fun j hj => by
            by_cases e : j = i - 1
            · subst e; exact hless
            · exact bl_trans _ _ _ (hr j (i - 1) (by omega) (by omega) (by omega) (by omega)) hless
          obtain ⟨hn0, hT'⟩ := put hall
          have hf := findK_no (ev := AV.bool) key_str 0 hn0
          simp (maxSteps := 2000000) (discharger := omega) only [xz,xc,xo,xr,x0,x1,x2,x5,xd,kont_call,keyOk,keyCells,Reg.isA,Reg.isV,Reg.stays,Reg.onto,↓reduceIte,reduceCtorEq,Nat.reduceEqDiff,Nat.reduceLT,beq_self_eq_true,wrap_i64,int_lt_t,int_le_t,q1,q2,k12,e1,hless,hm2,hf]
          refine ⟨l.length - (i + 1), by omega, i + 1, T ++ [(l[i], true, c)], c + 1, by rw [show ((i : Nat) : Int) + 1 = ((i + 1 : Nat) : Int) by omega], rfl, by omega, ⟨(m ++ m2).set 0 _, by rw [List.append_assoc, hs0]⟩, ?_, hT', hp', fun j k hj hk h1 h2 => ?_⟩
          · rw [get_set_self hlt2]; simp [encE]
          · by_cases e : k = i
            · subst e; exact hall j h1
            · exact hr j k hj hk h1 (by omega)
    · have hpi' : pathB l[i] = false := by simpa using hpi
      rw [hpi'] at k12
      simp (maxSteps := 2000000) (discharger := omega) only [xz,xc,xo,xr,x0,x1,x2,xd,xb,kont_call,Reg.isA,Reg.isV,Reg.stays,Reg.onto,↓reduceIte,reduceCtorEq,Nat.reduceEqDiff,Nat.reduceLT,exists_eq_left',int_lt_t,int_le_t,q1,k12]
      exact no (fun hR => hpi (hR.path _ (List.getElem_mem hlt))) _ ⟨m ++ m2, by rw [List.append_assoc]⟩
  · obtain rfl : i = l.length := by omega
    rw [List.take_length] at hT hp
    simp (maxSteps := 2000000) (discharger := omega) only [xz,xc,xo,xr,x0,x1,x4,xd,Reg.isA,Reg.isV,Reg.stays,Reg.onto,↓reduceIte,reduceCtorEq,Nat.reduceEqDiff,Nat.reduceLT,int_lt_f,Nat.sub_self,hlen]
    refine wpi_loop (fun x r g' => ∃ (i : Nat), r = [(0, .val v), (3, .val (.mp h.length)), (37, .val v), (38, .val (.int .i64 l.length)), (39, .val (.int .i64 i))] ∧ x = l.length - i ∧ i ≤ l.length ∧ g' = h ++ m ∧
      ∀ j (hj : j < l.length), j < i → ∀ q ∈ l, ¬ Under l[j] q) l.length (by omega)
      ⟨0, rfl, rfl, Nat.zero_le _, rfl, fun j hj h1 => by omega⟩ ?_
    rintro x r g' ⟨i, rfl, rfl, hi, rfl, hu⟩
    by_cases hlt : i < l.length
    · obtain ⟨cv, rfl⟩ := hv.imm (i := i) (by simpa using hlt)
      have q1 : (l.map AV.str)[i]? = some (.str l[i]) := by simp [hlt]
      have hp64 := path_len (hp _ (List.getElem_mem hlt))
      simp (maxSteps := 2000000) (discharger := omega) only [xz,xc,xo,xr,x0,x1,x2,x3,x4,xd,xe,Reg.isA,Reg.isV,Reg.stays,Reg.onto,↓reduceIte,reduceCtorEq,Nat.reduceEqDiff,Nat.reduceLT,int_lt_t,int_le_t,q1]
      refine wpi_loop (fun x r g' => ∃ (a : Nat), r = [(0, .val (.imm 1 (l.map AV.str) cv)), (3, .val (.mp h.length)), (7, .val (.str l[i])), (37, .val (.imm 1 (l.map AV.str) cv)), (38, .val (.int .i64 l.length)), (39, .val (.int .i64 i)), (44, .val (.imm 1 (bytesOf l[i]) .no)), (45, .val (.int .i64 l[i].length)), (46, .val (.int .i64 a))] ∧ x = l[i].length - a ∧ a ≤ l[i].length ∧ g' = h ++ m ∧
        ∀ q ∈ l, q.length < a → ¬ Under l[i] q) l[i].length (by omega)
        ⟨0, rfl, rfl, Nat.zero_le _, rfl, fun q hq h1 => by omega⟩ ?_
      rintro x r g' ⟨a, rfl, rfl, ha, rfl, hq⟩
      by_cases hla : a < l[i].length
      · have qb := bytesOf_get hla
        by_cases h47 : ((l[i][a].toNat : Nat) : Int) = 47
        · have h47' : l[i][a] = 47 := by rwa [u8_47] at h47
          cases htg : tget T (l[i].take a) with
          | none =>
            have hf := findK_no (ev := AV.bool) key_str 0 htg
            simp (maxSteps := 2000000) (discharger := omega) only [xz,xc,xo,xr,x0,x1,x3,x4,x5,xd,slOk,sliceV,mapOf,keyOk,keyCells,Reg.isA,Reg.isV,Reg.stays,Reg.onto,↓reduceIte,reduceCtorEq,Nat.reduceEqDiff,Nat.reduceLT,Option.getD_some,beq_self_eq_true,Int.reduceToNat,wrap_i64,int_lt_t,int_le_t,int_beq_t,qb,hm,hf]
            refine ⟨l[i].length - (a + 1), by omega, a + 1, by rw [show ((a : Nat) : Int) + 1 = ((a + 1 : Nat) : Int) by omega], rfl, by omega, fun q hql hqa hU => ?_⟩
            obtain ⟨w1, w2, w3⟩ := under_iff.1 hU
            by_cases e : q.length = a
            · rw [e] at w3
              have := hT (l[i].take a)
              rw [htg, if_pos (by rw [w3]; exact hql)] at this
              cases this
            · exact hq q hql (by omega) hU
          | some b =>
            obtain ⟨j, hf, _⟩ := findK_yes (ev := AV.bool) key_str 0 htg
            have hmem : l[i].take a ∈ l := by
              rw [hT] at htg
              by_cases e : l[i].take a ∈ l
              · exact e
              · rw [if_neg e] at htg; cases htg
            have hbt : b = true := by rw [hT, if_pos hmem] at htg; cases htg; rfl
            subst hbt
            simp (maxSteps := 2000000) (discharger := omega) only [xz,xc,xo,xr,x0,x1,x3,x4,x5,xd,slOk,sliceV,mapOf,keyOk,keyCells,Reg.isA,Reg.isV,Reg.stays,Reg.onto,↓reduceIte,reduceCtorEq,Nat.reduceEqDiff,Nat.reduceLT,Option.getD_some,beq_self_eq_true,exists_eq_left',Int.reduceToNat,int_lt_t,int_le_t,int_beq_t,qb,hm,hf]
            refine no (fun hR => ?_) _ ⟨m, rfl⟩
            refine hR.apart _ (List.getElem_mem hlt) _ hmem (under_iff.2 ⟨by rw [List.length_take]; omega, ?_, ?_⟩)
            · simp [Nat.min_eq_left (Nat.le_of_lt hla),h47']
            · rw [List.length_take, Nat.min_eq_left (Nat.le_of_lt hla)]
        · have h47' : ¬ l[i][a] = 47 := by rwa [u8_47] at h47
          simp (maxSteps := 2000000) (discharger := omega) only [xz,xc,xo,xr,x0,x1,xd,xb,Reg.isA,Reg.isV,Reg.stays,Reg.onto,↓reduceIte,reduceCtorEq,Nat.reduceEqDiff,Nat.reduceLT,wrap_i64,int_lt_t,int_le_t,int_beq_f,qb]
          refine ⟨l[i].length - (a + 1), by omega, a + 1, by rw [show ((a : Nat) : Int) + 1 = ((a + 1 : Nat) : Int) by omega], rfl, by omega, fun q hql hqa hU => ?_⟩
          obtain ⟨w1, w2, w3⟩ := under_iff.1 hU
          by_cases e : q.length = a
          · subst e; exact h47' w2
          · exact hq q hql (by omega) hU
      · obtain rfl : a = l[i].length := by omega
        simp (maxSteps := 2000000) (discharger := omega) only [xz,xc,xo,xr,x0,x1,xd,Reg.isA,Reg.isV,Reg.stays,Reg.onto,↓reduceIte,reduceCtorEq,Nat.reduceEqDiff,Nat.reduceLT,wrap_i64,int_lt_f,Nat.sub_self]
        refine ⟨l.length - (i + 1), by omega, i + 1, by rw [show ((i : Nat) : Int) + 1 = ((i + 1 : Nat) : Int) by omega], rfl, by omega, fun j hj hji q hql hU => ?_⟩
        by_cases e : j = i
        · subst e; exact hq q hql hU.1 hU
        · exact hu j hj (by omega) q hql hU
    · obtain rfl : i = l.length := by omega
      by_cases h64 : l.length ≤ 64
      · have hR : Rising l := by
          refine ⟨h64, hp, fun j k hj hk hjk => hr j k hj hk hjk hk, fun p hpl q hql => ?_⟩
          obtain ⟨j, hj, rfl⟩ := List.getElem_of_mem hpl
          exact hu j hj hj q hql
        simp (maxSteps := 2000000) (discharger := omega) only [xz,xc,xo,xr,x0,x1,x4,xd,Reg.isA,Reg.isV,Reg.stays,Reg.onto,↓reduceIte,reduceCtorEq,Nat.reduceEqDiff,Nat.reduceLT,exists_eq_left',int_lt_f,int_le_t,Nat.sub_self,hlen]
        exact ⟨true, m, by simp [hR]⟩
      · simp (maxSteps := 2000000) (discharger := omega) only [xz,xc,xo,xr,x0,x1,x4,xd,Reg.isA,Reg.isV,Reg.stays,Reg.onto,↓reduceIte,reduceCtorEq,Nat.reduceEqDiff,Nat.reduceLT,exists_eq_left',int_lt_f,int_le_f,Nat.sub_self,hlen]
        exact no (fun hR => h64 hR.few) _ ⟨m, rfl⟩
end
end Go.Proofs.YtpgmohjmpaifbaaDoor.Im

/- S21To: leaves read: Open. -/
set_option linter.unusedVariables false
set_option linter.unusedSimpArgs false
open Go Go.Im
namespace Go.Proofs.YtpgmohjmpaifbaaDoor.Im

def rL (x : LP) (cs : List AV) : Prop := ∃ pv, cs = [.str x.1, pv] ∧ IsRd 33 (x.2.map Pt.av) pv ∧ ∀ q ∈ x.2, q.ok
theorem rP_ok : ∀ {l : List Pt} {css : List (List AV)}, A2 rP l css → ∀ q ∈ l, q.ok
  | [], [], _, q, h => by cases h
  | x :: l, c :: cs, h, q, hq => by
    rcases List.mem_cons.1 hq with rfl | hq
    · exact h.1.2
    · exact rP_ok h.2 q hq
  | [], _ :: _, h, _, _ => h.elim
  | _ :: _, [], h, _, _ => h.elim
theorem rL_all : ∀ {l : List LP} {css : List (List AV)}, A2 rL l css → ∃ ls : List Lf, css.map AV.agg = ls.map Lf.av ∧ ls.map Lf.pp = l ∧ ∀ x ∈ ls, x.ok
  | [], [], _ => ⟨[], rfl, rfl, by simp⟩
  | x :: l, c :: cs, h => by
    obtain ⟨pv, rfl, h1, h2⟩ := h.1
    obtain ⟨ls, q1, q2, q3⟩ := rL_all h.2
    refine ⟨⟨x.1, x.2, pv⟩ :: ls, by simp only [List.map_cons,q1]; rfl, by simp only [List.map_cons,q2]; rfl, fun y hy => ?_⟩
    rcases List.mem_cons.1 hy with rfl | hy
    · exact ⟨h1, h2⟩
    · exact q3 y hy
  | [], _ :: _, h => h.elim
  | _ :: _, [], h => h.elim

section
variable {tot : Bool} {ω : Nat → Nat}
set_option maxHeartbeats 2000000 in
theorem c59 (id L : Nat) (hne : L ≠ id) : Elem tot ω 59 [.ptr L 1 0 0] id (some L) 2 40 rL Prod.fst rdLf := by
  refine ⟨fun n g t acc hid hJ ht hn => ?_⟩
  obtain ⟨n, rfl⟩ : ∃ m, n = m + 1 := ⟨n - 1, by omega⟩
  refine call_of (fn := a59) f59 (P := fun v g' => Ek id (some L) g g' ∧ ElP id (some L) 2 rL Prod.fst acc (rdLf t) v g') ?_
  unfold rdLf a59
  cases hT : rdT t with
  | err e =>
    have r1 := c60e (tot := tot) (ω := ω) (n := n) id t g hid (by omega) (by omega) hT
    have h23 := rdT_e23 hT
    have he : ¬ e = 0 := by omega
    simp (maxSteps := 2000000) (discharger := omega) only [xz,xc,xo,xr,x0,x1,x3,x5,xd,kont_call,wr,place,partVals,Reg.isA,Reg.isV,Reg.stays,Reg.onto,↓reduceIte,reduceCtorEq,Nat.reduceEqDiff,Nat.reduceLT,Nat.reduceAdd,exists_eq_left',xu,int_bne_t,nat_le_t,r1]
    exact ⟨.refl _ _ _, ⟨_, rfl, rfl⟩, _, hid⟩
  | ok p k =>
    have r1 := c60o (tot := tot) (ω := ω) (n := n) id t g hid (by omega) (by omega) hT
    have hid2 := set_get hid (Rr (t.drop k))
    have hkk := rdT_k hT
    obtain ⟨v, g2, r2, p0, p1⟩ := c61 (tot := tot) (ω := ω) (n := n) id (t.drop k) (g.set id (Rr (t.drop k))) hid2 (by rw [List.length_drop]; omega) (by rw [List.length_drop]; omega)
    obtain ⟨pv, j1, j2⟩ := hJ L rfl
    have j1' : (g.set id (Rr (t.drop k)))[L]? = some (.row 1 [pv]) := by rw [List.getElem?_set_ne (Ne.symm hne)]; exact j1
    have j2' := isApp_setS j2 hid (o' := Rr (t.drop k)) rfl
    have k1 : g2[L]? = some (.row 1 [pv]) := p0.2 L _ j1' hne (fun l hl => by cases hl)
    have k2 : IsApp 1 ((acc.map Prod.fst).map AV.str) g2 pv := by
      rcases j2' with w | w | ⟨j, w1, w2⟩
      · exact .inl w
      · exact .inr (.inl w)
      · exact .inr (.inr ⟨j, w1, p0.2 j _ w2 (fun e => by subst e; rw [hid2] at w2; cases w2) (fun l hl => by cases hl)⟩)
    have hEk : Ek id (some L) g g2 := ⟨by have := p0.1; simpa using this, fun j o ho hj _ => p0.2 j o (by rw [List.getElem?_set_ne (Ne.symm hj)]; exact ho) hj (fun l hl => by cases hl)⟩
    cases hg : rdG rdP (t.drop k) with
    | err e =>
      rw [hg] at p1
      obtain ⟨rfl, p2⟩ := p1
      have h23 := rdG_e rdP1 hg
      have he : ¬ e = 0 := by omega
      simp (maxSteps := 2000000) (discharger := omega) only [xz,xc,xo,xr,x0,x1,x3,x5,xd,kont_call,wr,place,partVals,Reg.isA,Reg.isV,Reg.stays,Reg.onto,↓reduceIte,reduceCtorEq,Nat.reduceEqDiff,Nat.reduceLT,Nat.reduceAdd,exists_eq_left',xu,int_bne_t,int_bne_f,nat_le_t,r1,r2]
      rw [hg]
      exact ⟨hEk, ⟨_, rfl, rfl⟩, p2⟩
    | ok l r =>
      rw [hg] at p1
      obtain ⟨lv, css, rfl, p2, p3, p4, _⟩ := p1
      have hok := rP_ok p2
      rw [rP_all p2] at p3
      have s1 := rd_nt p3
      have s2 := rd_cells p3
      obtain ⟨pv', g3, w1, w2, w3, w4, w5, cw, rfl⟩ := app_ok (bytes := 16) (xs := [.str p]) k2 (by simp) (by simp; omega)
      have hLl := (List.getElem?_eq_some_iff.1 k1).1
      have k3 := w3 L _ k1 rfl
      have k4 := w3 id _ p4 rfl
      have s3 := rd_sub (isRd_app k2) 1
      have s4 := upd_imm (rd_one (isRd_app k2))
      simp (maxSteps := 2000000) (discharger := omega) only [xz,xc,xo,xr,x0,x1,x3,x5,xd,xb,kont_call,selems,srcElems,wr,place,partVals,partEs,placeEs,Reg.isA,Reg.isV,Reg.stays,Reg.onto,↓reduceIte,reduceCtorEq,Nat.reduceEqDiff,Nat.reduceLT,Nat.reduceAdd,Nat.zero_lt_succ,exists_eq_left',xu,List.set_cons_zero,int_bne_f,nat_le_t,r1,r2,k1,k3,List.replicate,w1,k2.isRow,s1,s2,s3,s4,List.set_cons_zero]
      rw [hg]
      have hL3 := (List.getElem?_eq_some_iff.1 k3).1
      refine ⟨⟨by have := hEk.1; simp; omega, fun j o ho hj hl => ?_⟩, ⟨_, ⟨lv, rfl, p3, hok⟩, rfl⟩, by rw [List.getElem?_set_ne hne]; exact k4, fun l' hl' => ?_⟩
      · rw [List.getElem?_set_ne (fun e => (hl L rfl).1 e.symm)]
        refine w5 j o (hEk.2 j o ho hj hl) fun c e => ?_
        rcases k2 with ⟨e1, _⟩ | e1 | ⟨j2, e1, e2⟩
        · rw [e1] at e; cases e
        · rw [e1] at e; cases e
        · rw [e1] at e
          cases e
          rw [hEk.2 j o ho hj hl] at e2
          cases e2
          exact (hl L rfl).2 _ rfl
      · cases hl'
        refine ⟨_, get_set_self hL3, ?_⟩
        rw [List.map_append, List.map_append]
        exact isApp_setS w2 k3 rfl

def OlP (q : Int ⊕ List LP) (v : AV) : Prop := match q with
  | .inl e => v = .tup [.nils, .int .i64 e] ∧ e ≠ 0
  | .inr l => ∃ lv, v = .tup [lv, .int .i64 0] ∧ ∃ ls : List Lf, IsRd 2 (ls.map Lf.av) lv ∧ ls.map Lf.pp = l ∧ ∀ x ∈ ls, x.ok
theorem rdLf_sz {s : By} {x : LP} {r : By} (h : rdLf s = .ok x r) : x.1.length ≤ s.length := by
  unfold rdLf at h
  split at h
  · cases h
  · rename_i t k ht
    have := (rdT_inv ht).2
    split at h
    · cases h
    · cases h; exact this
theorem goG_sz : ∀ {n : Nat} {acc l : List LP} {s r : By} {B : Nat}, (∀ x ∈ acc, x.1.length ≤ B) → s.length ≤ B → goG rdLf acc n s = .ok l r → (∀ x ∈ l, x.1.length ≤ B) ∧ l.length ≤ acc.length + s.length
  | 0, acc, l, s, r, B, ha, hs, h => by cases h; exact ⟨ha, by omega⟩
  | n + 1, acc, l, s, r, B, ha, hs, h => by
    unfold goG at h
    split at h
    · cases h
    · rename_i x r' hx
      have h1 := rdLf1.lt hx
      have h2 := rdLf_sz hx
      have := goG_sz (B := B) (fun y hy => by
        rcases List.mem_append.1 hy with hy | hy
        · exact ha y hy
        · rw [List.mem_singleton] at hy; subst hy; omega) (by omega) h
      refine ⟨this.1, ?_⟩
      have h3 := this.2
      simp at h3; omega
theorem rdG_sz {s : By} {l : List LP} {r : By} (h : rdG rdLf s = .ok l r) : (∀ x ∈ l, x.1.length ≤ s.length) ∧ l.length ≤ s.length := by
  unfold rdG at h
  split at h
  · cases h
  · rename_i n k hc
    have := goG_sz (B := s.length) (by simp) (by rw [List.length_drop]; omega) h
    rw [List.length_drop] at this
    exact ⟨this.1, by have := this.2; simp at this; omega⟩
theorem c35 {n : Nat} (s : By) (h : Hp) (hs : s.length ≤ 1000000) (hn : 2000000 < n) : ∃ v h', call F n tot ω 35 [.str s] h = some (v, h') ∧ OlP (openL s) v := by
  obtain ⟨n, rfl⟩ : ∃ m, n = m + 1 := ⟨n - 1, by omega⟩
  refine call_of (fn := a35) f35 (P := fun v _ => OlP (openL s) v) ?_
  have r1 := c57 (tot := tot) (ω := ω) (n := n) s h (by omega)
  have hF : F 58 = some (.inl (tlAF 2 40 (.agg [.str [], .nils]))) := by rw [f58, a58_tl]
  obtain ⟨v, h2, r2, p0, p1⟩ := take_list (tot := tot) (ω := ω) (n := n) 2 [.str [], .nils] rfl (by decide) 58 59 hF [.ptr (h.length + 1) 1 0 0] h.length (some (h.length + 1)) 40 (by decide) rL (fun x cs hcs => by obtain ⟨pv, rfl, _⟩ := hcs; rfl) Prod.fst rdLf rdLf1 (c59 _ _ (by omega)) s (h ++ [.row 1 [.agg [.str s]], .row 1 [.nils]]) (by rw [hg0]; rfl) (fun l hl => by cases hl; omega) (fun l hl => by cases hl; exact ⟨.nils, by rw [hgk]; rfl, .nils _ _⟩) hs (by omega)
  unfold openL a35
  cases hg : rdG rdLf s with
  | err e =>
    rw [hg] at p1
    obtain ⟨rfl, p2⟩ := p1
    have h23 := rdG_e rdLf1 hg
    have he : ¬ e = 0 := by omega
    simp (maxSteps := 2000000) (discharger := omega) only [xz,xc,xo,xr,x0,x1,x3,x5,xd,xb,kont_call,Reg.isA,Reg.isV,Reg.stays,Reg.onto,↓reduceIte,reduceCtorEq,Nat.reduceEqDiff,Nat.reduceLT,exists_eq_left',int_beq_f,int_bne_t,r1,r2,List.length_append,List.append_assoc]
    exact ⟨rfl, he⟩
  | ok l r =>
    rw [hg] at p1
    obtain ⟨lv, css, rfl, p2, p3, p4, p5⟩ := p1
    have r3 := c62 (tot := tot) (ω := ω) (n := n) h.length r h2 p4 (by omega)
    obtain ⟨ls, q1, q2, q3⟩ := rL_all p2
    rw [q1] at p3
    obtain ⟨pv, j1, j2⟩ := p5 _ rfl
    have hsz := rdG_sz hg
    obtain ⟨b, m2, r4, hb⟩ := c45 (n := n) (tot := tot) (ω := ω) (h := h2) (l.map Prod.fst) pv (isRd_app j2) (fun p hp => by
      obtain ⟨x, hx, rfl⟩ := List.mem_map.1 hp
      have := hsz.1 x hx; omega) (by simp; omega) (by simp; omega)
    have s3 := rd_sub (isRd_app j2) 1
    by_cases hr : r = []
    · rw [if_pos hr] at r3
      cases b with
      | true =>
        have hRi := hb.1 rfl
        simp (maxSteps := 2000000) (discharger := omega) only [xz,xc,xo,xr,x0,x1,x2,x3,x5,xd,kont_call,Reg.isA,Reg.isV,Reg.stays,Reg.onto,↓reduceIte,reduceCtorEq,Nat.reduceEqDiff,Nat.reduceLT,beq_self_eq_true,exists_eq_left',int_bne_f,r1,r2,r3,hr,hRi,j1,s3,r4,List.length_append,List.append_assoc]
        exact ⟨lv, rfl, ls, p3, q2, q3⟩
      | false =>
        have hRi : ¬ Rising (l.map Prod.fst) := fun x => by have := hb.2 x; cases this
        simp (maxSteps := 2000000) (discharger := omega) only [xz,xc,xo,xr,x0,x1,x2,x3,x5,xd,kont_call,Reg.isA,Reg.isV,Reg.stays,Reg.onto,↓reduceIte,reduceCtorEq,Nat.reduceEqDiff,Nat.reduceLT,beq_self_eq_true,exists_eq_left',int_bne_t,r1,r2,r3,hr,hRi,j1,s3,r4,List.length_append,List.append_assoc]
        exact ⟨rfl, by decide⟩
    · rw [if_neg hr] at r3
      simp (maxSteps := 2000000) (discharger := omega) only [xz,xc,xo,xr,x0,x1,x3,x5,xd,xb,kont_call,Reg.isA,Reg.isV,Reg.stays,Reg.onto,↓reduceIte,reduceCtorEq,Nat.reduceEqDiff,Nat.reduceLT,beq_self_eq_true,exists_eq_left',int_beq_f,int_bne_t,r1,r2,r3,hr,List.length_append,List.append_assoc]
      exact ⟨rfl, by decide⟩
end
end Go.Proofs.YtpgmohjmpaifbaaDoor.Im

/- S21Tq: the reference's parts and leaves read. -/
set_option linter.unusedVariables false
set_option linter.unusedSimpArgs false
open Go Go.Im
namespace Go.Proofs.YtpgmohjmpaifbaaDoor.Im

theorem ints_set (W : List Int) (j : Nat) (b : Int) (z : AV) (hj : j < W.length) : (intsOf .u8 W ++ [z]).set j (.int .u8 b) = intsOf .u8 (W.set j b) ++ [z] := by
  rw [List.set_append_left _ _ (by rw [io_len']; exact hj), io_set']

section
variable {n : Nat} {tot : Bool} {ω : Nat → Nat} {h : Hp}

theorem w_p65 (s K : By) (m v : Nat) (at' i : Nat) (acc : List Pt) (ov : AV) (ex : Regs) (hK : K.length = 32) (lo : Nat) (hlo : lo ≤ h.length) (hA : LateApp lo 33 (acc.map Pt.av) h ov) (hacc : acc.length ≤ 1000000) (hn : 100 < n) (hex : ex = [(63, .val (.bool false))]) :
    Wp (kont F n tot ω) n p65 ([(0, .val (.str s)), (5, .val (.int .i64 (m : Nat))), (6, .val (.int .i64 (at' : Nat))), (8, .val ov), (9, .val (.int .i64 (i : Nat))), (10, .val (.str K)), (13, .val (.int .i64 (v : Nat)))] ++ ex) h fun e r' h' =>
      e = .normal ∧ ∃ ov', r' = [(0, .val (.str s)), (5, .val (.int .i64 (m : Nat))), (6, .val (.int .i64 (at' : Nat))), (8, .val ov'), (9, .val (.int .i64 (i : Nat)))] ∧ LateApp lo 33 ((acc ++ [(⟨kB K, ((v : Nat) : Int)⟩ : Pt)]).map Pt.av) h' ov' ∧ Below lo h h' := by
  subst hex
  have hset0 : Y33.set 32 (.int .i64 (v : Nat)) = intsOf .u8 (List.replicate 32 0) ++ [.int .i64 (v : Nat)] := rfl
  have y1 : ([AV.int .u8 0, AV.int .u8 0, AV.int .u8 0, AV.int .u8 0, AV.int .u8 0, AV.int .u8 0, AV.int .u8 0, AV.int .u8 0, AV.int .u8 0, AV.int .u8 0, AV.int .u8 0, AV.int .u8 0, AV.int .u8 0, AV.int .u8 0, AV.int .u8 0, AV.int .u8 0, AV.int .u8 0, AV.int .u8 0, AV.int .u8 0, AV.int .u8 0, AV.int .u8 0, AV.int .u8 0, AV.int .u8 0, AV.int .u8 0, AV.int .u8 0, AV.int .u8 0, AV.int .u8 0, AV.int .u8 0, AV.int .u8 0, AV.int .u8 0, AV.int .u8 0, AV.int .u8 0, AV.int .i64 0] : List AV) = Y33 := rfl
  have yt : Y33.take 32 = intsOf .u8 (List.replicate 32 0) := rfl
  have yd : Y33.drop 33 = [] := rfl
  have hl33 : ∀ (W : List Int) (z : AV), W.length = 32 → (intsOf .u8 W ++ [z]).length = 33 := fun W z hW => by simp [io_len',hW]
  have hup := fun W (hW : W.length = 32) => upd_full (zs := Y33) (cs := intsOf .u8 W ++ [.int .i64 (v : Nat)]) (hl33 W _ hW)
  have hup0 := hup (List.replicate 32 0) rfl
  have hl0 := hl33 (List.replicate 32 0) (.int .i64 (v : Nat)) rfl
  unfold p65
  simp (maxSteps := 2000000) (discharger := omega) only [xz,xc,xo,xr,x0,x3,x5,xd,wr,place,partVals,Reg.isA,Reg.isV,Reg.stays,Reg.onto,↓reduceIte,reduceCtorEq,Nat.reduceEqDiff,Nat.reduceLT,Nat.reduceAdd,nat_le_t,y1,yt,yd,y33_len,hup0,hl0]
  refine wpi_loop (fun x r g => ∃ (j : Nat) (W : List Int), r = [(0, .val (.str s)), (5, .val (.int .i64 (m : Nat))), (6, .val (.int .i64 (at' : Nat))), (8, .val ov), (9, .val (.int .i64 (i : Nat))), (10, .val (.str K)), (14, .var (.agg (intsOf .u8 W ++ [.int .i64 (v : Nat)]))), (15, .val (.int .i64 (j : Nat)))] ∧ x = 32 - j ∧ j ≤ 32 ∧ g = h ∧ W.length = 32 ∧ ∀ t, t < j → W[t]? = (kB K)[t]?) 32 (by omega)
    ⟨0, List.replicate 32 0, rfl, rfl, by omega, rfl, rfl, fun t ht => by omega⟩ ?_
  rintro x r g ⟨j, W, rfl, rfl, hj, rfl, hW, hWt⟩
  by_cases hlt : j < 32
  · have q1 : K[j]? = some K[j] := List.getElem?_eq_getElem (by omega)
    have hst := fun b => ints_set W j b (.int .i64 (v : Nat)) (by omega)
    have hl1 := hl33 W (.int .i64 (v : Nat)) hW
    have hj33 : j < 33 := by omega
    simp (maxSteps := 2000000) (discharger := omega) only [xz,xc,xo,xr,x0,x1,x5,xd,wr,Reg.isA,Reg.isV,Reg.stays,Reg.onto,↓reduceIte,reduceCtorEq,Nat.reduceEqDiff,Nat.reduceLT,Int.cast_ofNat_Int,Nat.reduceBEq,xu,wrap_i64,int_lt_t,int_le_t,q1,hst,hl1,hj33,Nat.mul_one]
    refine ⟨32 - (j + 1), by omega, j + 1, W.set j (K[j].toNat : Nat), by rw [show ((j : Nat) : Int) + 1 = ((j + 1 : Nat) : Int) by omega], rfl, by omega, by simp [hW], fun t ht => ?_⟩
    by_cases e : t = j
    · subst e
      rw [List.getElem?_set_self (by omega)]
      simp [kB,q1]
    · rw [List.getElem?_set_ne (Ne.symm e)]; exact hWt t (by omega)
  · obtain rfl : j = 32 := by omega
    have hWK : W = kB K := by
      apply List.ext_getElem?
      intro t
      by_cases ht : t < 32
      · exact hWt t ht
      · rw [List.getElem?_eq_none (by omega), List.getElem?_eq_none (by rw [kB_len]; omega)]
    subst hWK
    have hl1 := hl33 (kB K) (.int .i64 (v : Nat)) hW
    have htk : (intsOf .u8 (kB K) ++ [AV.int .i64 (v : Nat)]).take 33 = intsOf .u8 (kB K) ++ [AV.int .i64 (v : Nat)] := List.take_of_length_le (by omega)
    obtain ⟨ov', g3, w1, w2, w3⟩ := late_app (bytes := 40) (xs := [.agg (intsOf .u8 (kB K) ++ [.int .i64 (v : Nat)])]) hA hlo (by simp) (by simp; omega)
    simp (maxSteps := 2000000) (discharger := omega) only [xz,xc,xo,xr,x0,x1,x3,x5,xd,xb,selems,srcElems,partEs,placeEs,Reg.isA,Reg.isV,Reg.stays,Reg.onto,↓reduceIte,reduceCtorEq,Nat.reduceEqDiff,Nat.reduceLT,Nat.zero_lt_succ,Int.cast_ofNat_Int,List.set_cons_zero,int_lt_f,nat_le_t,Nat.sub_self,hl1,htk,List.replicate,w1,hA.1.isRow]
    exact ⟨_, rfl, by rw [List.map_append]; exact w2, w3⟩

theorem w_o65 (s : By) (m at' i : Nat) (acc : List Pt) (ov : AV) (hat : at' ≤ s.length) (hs : s.length ≤ 1000000) (lo : Nat) (hlo : lo ≤ h.length) (hA : LateApp lo 33 (acc.map Pt.av) h ov) (hacc : acc.length ≤ 1000000) (hn : 1000100 < n) :
    Wp (kont F n tot ω) n o65 [(0, .val (.str s)), (5, .val (.int .i64 (m : Nat))), (6, .val (.int .i64 (at' : Nat))), (8, .val ov), (9, .val (.int .i64 (i : Nat))), (27, .val (.bool true))] h fun e r' h' =>
      (e = .ret ∧ h' = h ∧ ∃ er : Int, rdP (s.drop at') = .err er ∧ r' = [(2, .val .nils), (3, .val (.int .i64 0)), (4, .val (.int .i64 er))]) ∨
      (e = .normal ∧ ∃ x rr ov', rdP (s.drop at') = .ok x rr ∧ r' = [(0, .val (.str s)), (5, .val (.int .i64 (m : Nat))), (6, .val (.int .i64 (s.length - rr.length : Nat))), (8, .val ov'), (9, .val (.int .i64 (i : Nat)))] ∧ s.drop (s.length - rr.length) = rr ∧ LateApp lo 33 ((acc ++ [x]).map Pt.av) h' ov' ∧ Below lo h h') := by
  have hts : (s.take s.length) = s := List.take_length
  unfold o65
  by_cases hl : (s.drop at').length < 32
  · have r1 := c92e (tot := tot) (ω := ω) (n := n) 32 (s.drop at') h (by omega) hl
    rw [show ((32 : Nat) : Int) = 32 from rfl] at r1
    have hp : rdP (s.drop at') = .err 2 := by unfold rdP; rw [if_pos hl]
    simp (maxSteps := 2000000) (discharger := omega) only [xz,xc,xo,xr,x0,x1,x3,xd,kont_call,slOk,sliceV,Reg.isA,Reg.isV,Reg.stays,Reg.onto,↓reduceIte,reduceCtorEq,Nat.reduceEqDiff,Nat.reduceLT,Option.getD_none,or_false,int_le_t,int_bne_t,hts,r1]
    exact ⟨_, hp, rfl⟩
  · have r1 := c92o (tot := tot) (ω := ω) (n := n) 32 (s.drop at') h (by omega) (by omega)
    rw [show ((32 : Nat) : Int) = 32 from rfl] at r1
    have hBl : ((s.drop at').take 32).length = 32 := by rw [List.length_take]; omega
    have hdl : (s.drop at').length = s.length - at' := List.length_drop
    have hd2 : (s.drop at').drop 32 = s.drop (at' + 32) := by rw [List.drop_drop]
    have hp : rdP (s.drop at') = (match rdC (s.drop (at' + 32)) with
      | .err e => .err e
      | .ok v k => if v < 1 ∨ v > 4096 then .err 3 else .ok ⟨kB ((s.drop at').take 32), (v : Nat)⟩ (s.drop (at' + 32 + k))) := by
      unfold rdP
      rw [if_neg hl, hd2]
      cases rdC (s.drop (at' + 32)) with
      | err e => rfl
      | ok v k => simp only [List.drop_drop,Nat.add_assoc]
    have r2 := c63 (tot := tot) (ω := ω) (n := n) (s.drop (at' + 32)) h (by rw [List.length_drop]; omega) (by rw [List.length_drop]; omega)
    generalize (s.drop at').take 32 = B at *
    have e32 : ((at' : Nat) : Int) + 32 = ((at' + 32 : Nat) : Int) := by omega
    cases hc : rdC (s.drop (at' + 32)) with
    | err e =>
      rw [hc] at r2 hp
      unfold rdCAV at r2
      have h23 := rdC_e23 hc
      have he : ¬ e = 0 := by omega
      simp (maxSteps := 2000000) (discharger := omega) only [xz,xc,xo,xr,x0,x1,x3,xd,kont_call,slOk,sliceV,Reg.isA,Reg.isV,Reg.stays,Reg.onto,↓reduceIte,reduceCtorEq,Nat.reduceEqDiff,Nat.reduceLT,Option.getD_none,or_false,wrap_i64,int_le_t,int_bne_t,int_bne_f,hts,r1,e32,r2]
      exact ⟨_, hp, rfl⟩
    | ok v k =>
      rw [hc] at r2 hp
      unfold rdCAV at r2
      have hk := rdC_k hc
      rw [List.length_drop] at hk
      have ek : ((at' + 32 : Nat) : Int) + ((k : Nat) : Int) = ((at' + 32 + k : Nat) : Int) := by omega
      by_cases h1 : ((v : Nat) : Int) < 1
      · simp only at hp
        rw [if_pos (by omega)] at hp
        simp (maxSteps := 2000000) (discharger := omega) only [xz,xc,xo,xr,x0,x1,x3,xd,xb,kont_call,slOk,sliceV,Reg.isA,Reg.isV,Reg.stays,Reg.onto,↓reduceIte,reduceCtorEq,Nat.reduceEqDiff,Nat.reduceLT,Option.getD_none,or_false,wrap_i64,int_lt_t,int_le_t,int_bne_f,hts,r1,e32,r2,ek]
        exact ⟨_, hp, rfl⟩
      · by_cases h2 : ((v : Nat) : Int) > 4096
        · simp only at hp
          rw [if_pos (by omega)] at hp
          simp (maxSteps := 2000000) (discharger := omega) only [xz,xc,xo,xr,x0,x1,x3,xd,kont_call,slOk,sliceV,Reg.isA,Reg.isV,Reg.stays,Reg.onto,↓reduceIte,reduceCtorEq,Nat.reduceEqDiff,Nat.reduceLT,Option.getD_none,or_false,beq_self_eq_true,wrap_i64,int_lt_t,int_lt_f,int_le_t,int_bne_f,hts,r1,e32,r2,ek]
          exact ⟨_, hp, rfl⟩
        · simp only at hp
          rw [if_neg (by omega)] at hp
          have wp := w_p65 (n := n) (tot := tot) (ω := ω) (h := h) s B m v (at' + 32 + k) i acc ov _ hBl lo hlo hA hacc (by omega) rfl
          simp (maxSteps := 2000000) (discharger := omega) only [xz,xc,xo,xr,x0,x1,x3,xd,kont_call,slOk,sliceV,Reg.isA,Reg.isV,Reg.stays,Reg.onto,↓reduceIte,reduceCtorEq,Nat.reduceEqDiff,Nat.reduceLT,Option.getD_none,beq_self_eq_true,wrap_i64,int_lt_f,int_le_t,int_bne_f,hts,r1,e32,r2,ek]
          refine wp.mono ?_
          rintro e r' h' ⟨rfl, ov', rfl, hA', hBl'⟩
          have hdd : (s.drop (at' + 32 + k)).length = s.length - (at' + 32 + k) := List.length_drop
          exact .inr ⟨rfl, _, _, ov', hp, by rw [hdd, show s.length - (s.length - (at' + 32 + k)) = at' + 32 + k by omega], by rw [hdd, show s.length - (s.length - (at' + 32 + k)) = at' + 32 + k by omega], hA', hBl'⟩

def PsP (s : By) (q : QR (List Pt)) (v : AV) : Prop := match q with
  | .err e => v = .tup [.nils, .int .i64 0, .int .i64 e]
  | .ok l r => ∃ lv, v = .tup [lv, .int .i64 (s.length - r.length : Nat), .int .i64 0] ∧ IsRd 33 (l.map Pt.av) lv ∧ r.length ≤ s.length ∧ s.drop (s.length - r.length) = r
theorem c65 (s : By) (hs : s.length ≤ 1000000) (hn : 3000000 < n) : ∃ v h', call F n tot ω 65 [.str s] h = some (v, h') ∧ PsP s (rdG rdP s) v ∧ Below h.length h h' := by
  obtain ⟨n, rfl⟩ : ∃ m, n = m + 1 := ⟨n - 1, by omega⟩
  refine call_of (fn := a65) f65 (P := fun v h' => PsP s (rdG rdP s) v ∧ Below h.length h h') ?_
  have r1 := c63 (tot := tot) (ω := ω) (n := n) s h (by omega) (by omega)
  unfold rdG a65
  cases hc : rdC s with
  | err e =>
    rw [hc] at r1
    unfold rdCAV at r1
    have h23 := rdC_e23 hc
    have he : ¬ e = 0 := by omega
    simp (maxSteps := 2000000) (discharger := omega) only [xz,xc,xo,xr,x0,x1,x3,xd,kont_call,Reg.isA,Reg.isV,Reg.stays,Reg.onto,↓reduceIte,reduceCtorEq,Nat.reduceEqDiff,Nat.reduceLT,exists_eq_left',int_bne_t,r1]
    exact ⟨rfl, .refl _ _⟩
  | ok m k =>
    rw [hc] at r1
    unfold rdCAV at r1
    have hk := rdC_k hc
    show Wp _ _ _ _ _ (Ret _ fun v h' => PsP s (goG rdP [] m (s.drop k)) v ∧ Below h.length h h')
    generalize hR : goG rdP [] m (s.drop k) = R
    simp (maxSteps := 2000000) (discharger := omega) only [xz,xc,xo,xr,x0,x1,x3,xd,kont_call,Reg.isA,Reg.isV,Reg.stays,Reg.onto,↓reduceIte,reduceCtorEq,Nat.reduceEqDiff,Nat.reduceLT,int_bne_f,r1]
    refine wpi_loop (fun q r g => ∃ (at' i : Nat) (acc : List Pt) (ov : AV), r = [(0, .val (.str s)), (5, .val (.int .i64 (m : Nat))), (6, .val (.int .i64 (at' : Nat))), (8, .val ov), (9, .val (.int .i64 (i : Nat)))] ∧ q = s.length - at' ∧ at' ≤ s.length ∧ i ≤ m ∧ i + (s.length - at') ≤ s.length ∧ acc.length = i ∧
      goG rdP acc (m - i) (s.drop at') = R ∧ LateApp h.length 33 (acc.map Pt.av) g ov ∧ Below h.length h g) (s.length - k) (by omega)
      ⟨k, 0, [], .nils, rfl, rfl, by omega, by omega, by omega, rfl, hR, late_nils _ _ _, .refl _ _⟩ ?_
    clear hR
    rintro q r g ⟨at', i, acc, ov, rfl, rfl, hat, him, hil, hal, hR, hA, hBg⟩
    by_cases hlt : i < m
    · obtain ⟨m', hm'⟩ : ∃ m', m - i = m' + 1 := ⟨m - i - 1, by omega⟩
      rw [hm'] at hR
      unfold goG at hR
      have wo := w_o65 (n := n) (tot := tot) (ω := ω) (h := g) s m at' i acc ov hat hs h.length hBg.1 hA (by omega) (by omega)
      simp (maxSteps := 2000000) (discharger := omega) only [xz,xc,xo,xr,x0,x1,xd,Reg.isA,Reg.isV,Reg.stays,Reg.onto,↓reduceIte,reduceCtorEq,Nat.reduceEqDiff,Nat.reduceLT,int_lt_t]
      refine wo.mono ?_
      rintro e r' h' (⟨rfl, rfl, er, hp, rfl⟩ | ⟨rfl, x, rr, ov', hp, rfl, hd, hA', hB'⟩)
      · rw [hp] at hR
        subst hR
        simp (maxSteps := 2000000) (discharger := omega) only [xz,xc,xr,xd,↓reduceIte,Nat.reduceEqDiff,exists_eq_left']
        exact ⟨rfl, hBg⟩
      · have hl := rdP1.lt hp
        rw [List.length_drop] at hl
        rw [hp] at hR
        simp (maxSteps := 2000000) (discharger := omega) only [xz,xc,xo,xr,x0,x1,xd,Reg.isA,Reg.isV,Reg.stays,Reg.onto,↓reduceIte,reduceCtorEq,Nat.reduceEqDiff,Nat.reduceLT,wrap_i64]
        exact ⟨s.length - (s.length - rr.length), by omega, s.length - rr.length, i + 1, acc ++ [x], ov', by rw [show ((i : Nat) : Int) + 1 = ((i + 1 : Nat) : Int) by omega], rfl, by omega, by omega, by omega, by simp [hal], by rw [hd, show m - (i + 1) = m' by omega]; exact hR, hA', hBg.trans hB'⟩
    · obtain rfl : i = m := by omega
      rw [Nat.sub_self] at hR
      unfold goG at hR
      subst hR
      have hdl : (s.drop at').length = s.length - at' := List.length_drop
      simp (maxSteps := 2000000) (discharger := omega) only [xz,xc,xo,xr,x0,x1,xd,Reg.isA,Reg.isV,Reg.stays,Reg.onto,↓reduceIte,reduceCtorEq,Nat.reduceEqDiff,Nat.reduceLT,exists_eq_left',int_lt_f]
      exact ⟨⟨ov, by rw [hdl, show s.length - (s.length - at') = at' by omega], isRd_app hA.1, by omega, by rw [hdl, show s.length - (s.length - at') = at' by omega]⟩, hBg⟩

theorem c38 (s : By) (hs : s.length ≤ 1000000) (hn : 4000000 < n) : ∃ v h', call F n tot ω 38 [.str s] h = some (v, h') ∧ OpP (openP s) v := by
  obtain ⟨n, rfl⟩ : ∃ m, n = m + 1 := ⟨n - 1, by omega⟩
  refine call_of (fn := a38) f38 (P := fun v _ => OpP (openP s) v) ?_
  obtain ⟨v, h2, r1, p1, _⟩ := c65 (tot := tot) (ω := ω) (n := n) (h := h) s hs (by omega)
  unfold openP a38
  cases hg : rdG rdP s with
  | err e =>
    rw [hg] at p1
    unfold PsP at p1
    subst p1
    have h23 := rdG_e rdP1 hg
    have he : ¬ e = 0 := by omega
    simp (maxSteps := 2000000) (discharger := omega) only [xz,xc,xo,xr,x0,x1,x3,xd,kont_call,Reg.isA,Reg.isV,Reg.stays,Reg.onto,↓reduceIte,reduceCtorEq,Nat.reduceEqDiff,Nat.reduceLT,exists_eq_left',int_bne_t,r1]
    exact ⟨rfl, he⟩
  | ok l r =>
    rw [hg] at p1
    obtain ⟨lv, rfl, p2, p3, _⟩ := p1
    by_cases hr : r = []
    · subst hr
      simp (maxSteps := 2000000) (discharger := omega) only [xz,xc,xo,xr,x0,x1,x3,x4,xd,kont_call,Reg.isA,Reg.isV,Reg.stays,Reg.onto,↓reduceIte,reduceCtorEq,Nat.reduceEqDiff,Nat.reduceLT,exists_eq_left',int_lt_f,int_bne_f,Nat.sub_zero,r1]
      exact ⟨lv, rfl, p2⟩
    · have hrl : 0 < r.length := List.length_pos_iff.2 hr
      simp (maxSteps := 2000000) (discharger := omega) only [xz,xc,xo,xr,x0,x1,x3,x4,xd,kont_call,Reg.isA,Reg.isV,Reg.stays,Reg.onto,↓reduceIte,reduceCtorEq,Nat.reduceEqDiff,Nat.reduceLT,exists_eq_left',int_lt_t,int_bne_f,r1,hr]
      exact ⟨rfl, by decide⟩
end
end Go.Proofs.YtpgmohjmpaifbaaDoor.Im

/- S21Tr: the reference's Open. -/
set_option linter.unusedVariables false
set_option linter.unusedSimpArgs false
open Go Go.Im
namespace Go.Proofs.YtpgmohjmpaifbaaDoor.Im

def Srt2 (l : List By) : Prop := l.Pairwise fun x y => Op.bytesLess x y = true
theorem srt2_snoc {l : List By} {p : By} : Srt2 (l ++ [p]) ↔ Srt2 l ∧ ∀ x ∈ l, Op.bytesLess x p = true := by
  unfold Srt2
  rw [List.pairwise_append]
  constructor
  · rintro ⟨h1, _, h2⟩
    exact ⟨h1, fun x hx => h2 x hx p (by simp)⟩
  · rintro ⟨h1, h2⟩
    exact ⟨h1, List.pairwise_singleton _ _, fun x hx y hy => by rw [List.mem_singleton] at hy; subst hy; exact h2 x hx⟩
theorem srt2_last {l : List By} {p : By} (hs : Srt2 l) (hl : l ≠ []) : (∀ x ∈ l, Op.bytesLess x p = true) ↔ Op.bytesLess (l.getLast hl) p = true := by
  constructor
  · intro h; exact h _ (List.getLast_mem hl)
  · intro h x hx
    obtain ⟨i, hi, rfl⟩ := List.getElem_of_mem hx
    by_cases e : i = l.length - 1
    · subst e; rw [← List.getLast_eq_getElem hl]; exact h
    · have := List.pairwise_iff_getElem.1 hs i (l.length - 1) hi (by omega) (by omega)
      rw [← List.getLast_eq_getElem hl] at this
      exact bl_trans _ _ _ this h
theorem rising_srt (l : List By) : Rising l ↔ Srt2 l ∧ Tog l := by
  constructor
  · intro h
    have hs : Srt2 l := List.pairwise_iff_getElem.2 fun j k hj hk hjk => h.rise j k hj hk hjk
    exact ⟨hs, (rising_iff (.refl _) fun j k hj hk hjk => bl_asymm (h.rise j k hj hk hjk)).1 h⟩
  · rintro ⟨h1, h2⟩
    exact (rising_iff (.refl _) fun j k hj hk hjk => bl_asymm (List.pairwise_iff_getElem.1 h1 j k hj hk hjk)).2 h2

section
variable {n : Nat} {tot : Bool} {ω : Nat → Nat} {h : Hp}

theorem two_app {sz sz2 bytes : Nat} {es es2 xs : List AV} {g : Hp} {v v2 : AV} (h1 : IsApp sz es g v) (h2 : IsApp sz2 es2 g v2) (hne : sz ≠ sz2) (hx : xs ≠ []) (hb : (es.length + xs.length) * bytes ≤ 140737488355328) :
    ∃ v' g', appendV false sz bytes v xs g = some (v', g') ∧ IsApp sz (es ++ xs) g' v' ∧ IsApp sz2 es2 g' v2 := by
  obtain ⟨v', g', w1, w2, w3, w4, w5, _⟩ := app_ok h1 hx hb
  refine ⟨v', g', w1, w2, ?_⟩
  rcases h2 with w | w | ⟨j, e1, e2⟩
  · exact .inl w
  · exact .inr (.inl w)
  · refine .inr (.inr ⟨j, e1, w5 j _ e2 fun c e => ?_⟩)
    rcases h1 with ⟨e3, _⟩ | e3 | ⟨i, e3, e4⟩
    · rw [e3] at e; cases e
    · rw [e3] at e; cases e
    · rw [e3] at e
      cases e
      rw [e2] at e4
      have e5 := Option.some.inj e4
      injection e5 with e6
      exact hne e6.symm

theorem isApp_below {sz : Nat} {es : List AV} {g g' : Hp} {v : AV} (hv : IsApp sz es g v) (hB : Below g.length g g') : IsApp sz es g' v := by
  rcases hv with w | w | ⟨j, w1, w2⟩
  · exact .inl w
  · exact .inr (.inl w)
  · exact .inr (.inr ⟨j, w1, by rw [hB.2 j (List.getElem?_eq_some_iff.1 w2).1]; exact w2⟩)

def rO (s : By) (m at' i : Nat) (ov pv : AV) (b : Bool) : Regs := [(0, .val (.str s)), (4, .val (.int .i64 (m : Nat))), (5, .val (.int .i64 (at' : Nat))), (7, .val ov), (8, .val pv), (9, .val (.bool b)), (10, .val (.int .i64 (i : Nat)))]

set_option maxHeartbeats 1000000 in
theorem w_o36 (s : By) (m at' : Nat) (ls : List Lf) (ov pv : AV) (b : Bool) (hat : at' ≤ s.length) (hs : s.length ≤ 1000000) (hA : IsApp 2 (ls.map Lf.av) h ov) (hB : IsApp 1 ((ls.map (·.p)).map AV.str) h pv) (hb : b = true ↔ Srt2 (ls.map (·.p))) (hacc : ls.length ≤ 1000000) (hok : ∀ x ∈ ls, x.ok) (hn : 3000100 < n) :
    Wp (kont F n tot ω) n o36 (rO s m at' ls.length ov pv b ++ [(26, .val (.bool true))]) h fun e r' h' =>
      (e = .ret ∧ ∃ er : Int, rdLf (s.drop at') = .err er ∧ r' = [(2, .val .nils), (3, .val (.int .i64 er))]) ∨
      (e = .normal ∧ ∃ (x : LP) (rr : By) (pv2 ov' pv' : AV) (b' : Bool), rdLf (s.drop at') = .ok x rr ∧ r' = rO s m (s.length - rr.length) ls.length ov' pv' b' ∧ s.drop (s.length - rr.length) = rr ∧ IsApp 2 ((ls ++ [(⟨x.1, x.2, pv2⟩ : Lf)]).map Lf.av) h' ov' ∧
        IsApp 1 (((ls ++ [(⟨x.1, x.2, pv2⟩ : Lf)]).map (·.p)).map AV.str) h' pv' ∧ (b' = true ↔ Srt2 ((ls ++ [(⟨x.1, x.2, pv2⟩ : Lf)]).map (·.p))) ∧ (⟨x.1, x.2, pv2⟩ : Lf).ok) := by
  have hts : (s.take s.length) = s := List.take_length
  have hdl : (s.drop at').length = s.length - at' := List.length_drop
  unfold o36 rO
  have r1 := c64 (tot := tot) (ω := ω) (n := n) (s.drop at') h (by omega) (by omega)
  cases hT : rdT (s.drop at') with
  | err e =>
    rw [hT] at r1
    unfold rdTAV at r1
    have h23 := rdT_e23 hT
    have he : ¬ e = 0 := by omega
    have hp : rdLf (s.drop at') = .err e := by unfold rdLf; rw [hT]
    simp (maxSteps := 2000000) (discharger := omega) only [xz,xc,xo,xr,x0,x1,x3,xd,kont_call,slOk,sliceV,Reg.isA,Reg.isV,Reg.stays,Reg.onto,↓reduceIte,reduceCtorEq,Nat.reduceEqDiff,Nat.reduceLT,Option.getD_none,or_false,int_le_t,int_bne_t,hts,r1]
    exact ⟨_, hp, rfl⟩
  | ok p k =>
    rw [hT] at r1
    unfold rdTAV at r1
    have hk := rdT_k hT
    have ek : ((at' : Nat) : Int) + ((k : Nat) : Int) = ((at' + k : Nat) : Int) := by omega
    have hpl := (rdT_inv hT).2
    obtain ⟨v, h2, r2, p1, hBl⟩ := c65 (tot := tot) (ω := ω) (n := n) (h := h) (s.drop (at' + k)) (by rw [List.length_drop]; omega) (by omega)
    have hd2 : (s.drop at').drop k = s.drop (at' + k) := by rw [List.drop_drop]
    have hA2 := isApp_below hA hBl
    have hB2 := isApp_below hB hBl
    cases hg : rdG rdP (s.drop (at' + k)) with
    | err e =>
      rw [hg] at p1
      unfold PsP at p1
      subst p1
      have h23 := rdG_e rdP1 hg
      have he : ¬ e = 0 := by omega
      have hp : rdLf (s.drop at') = .err e := by unfold rdLf; rw [hT]; simp only [hd2,hg]
      simp (maxSteps := 2000000) (discharger := omega) only [xz,xc,xo,xr,x0,x1,x3,xd,kont_call,slOk,sliceV,Reg.isA,Reg.isV,Reg.stays,Reg.onto,↓reduceIte,reduceCtorEq,Nat.reduceEqDiff,Nat.reduceLT,Option.getD_none,or_false,wrap_i64,int_le_t,int_bne_t,int_bne_f,hts,r1,ek,r2]
      exact ⟨_, hp, rfl⟩
    | ok l r =>
      rw [hg] at p1
      obtain ⟨lv, rfl, p2, p3, p4⟩ := p1
      have hp : rdLf (s.drop at') = .ok (p, l) r := by unfold rdLf; rw [hT]; simp only [hd2,hg]
      rw [hdl] at hk hpl
      rw [List.length_drop] at p3 p4
      have hpos : s.length - r.length = at' + k + (s.length - (at' + k) - r.length) := by omega
      have hdr : s.drop (s.length - r.length) = r := by
        rw [hpos, ← List.drop_drop]; exact p4
      have hqok : ∀ q ∈ l, q.ok := fun q hq => ((invPs.wr (by rw [List.length_drop]; omega) hg).2.2 q hq).len
      have el : (((at' + k : Nat) : Int) + ((s.length - (at' + k) - r.length : Nat) : Int)) = ((s.length - r.length : Nat) : Int) := by omega
      have hdl2 : (s.drop (at' + k)).length = s.length - (at' + k) := List.length_drop
      rw [hdl2] at r2
      have n1 := rd_nt p2
      have n2 := rd_cells p2
      obtain ⟨pv', g3, w1, w2, w3⟩ := two_app (bytes := 16) (xs := [.str p]) hB2 hA2 (by decide) (by simp) (by simp; omega)
      obtain ⟨ov', g4, y1, y2, y3⟩ := two_app (bytes := 40) (xs := [.agg [.str p, lv]]) w3 w2 (by decide) (by simp) (by simp; omega)
      have hsn := srt2_snoc (l := ls.map (·.p)) (p := p)
      have e1 : (ls ++ [(⟨p, l, lv⟩ : Lf)]).map (·.p) = ls.map (·.p) ++ [p] := by simp
      have e2 : (ls ++ [(⟨p, l, lv⟩ : Lf)]).map Lf.av = ls.map Lf.av ++ [.agg [.str p, lv]] := by simp [Lf.av]
      have fin : ∀ b' : Bool, (b' = true ↔ Srt2 (ls.map (·.p) ++ [p])) → ∃ (x : LP) (rr : By) (pv2 ov'' pv'' : AV) (b'' : Bool), rdLf (s.drop at') = .ok x rr ∧ [(0, Reg.val (.str s)), (4, .val (.int .i64 (m : Nat))), (5, .val (.int .i64 (s.length - r.length : Nat))), (7, .val ov'), (8, .val pv'), (9, .val (.bool b')), (10, .val (.int .i64 (ls.length : Nat)))] = rO s m (s.length - rr.length) ls.length ov'' pv'' b'' ∧ s.drop (s.length - rr.length) = rr ∧ IsApp 2 ((ls ++ [(⟨x.1, x.2, pv2⟩ : Lf)]).map Lf.av) g4 ov'' ∧
        IsApp 1 (((ls ++ [(⟨x.1, x.2, pv2⟩ : Lf)]).map (·.p)).map AV.str) g4 pv'' ∧ (b'' = true ↔ Srt2 ((ls ++ [(⟨x.1, x.2, pv2⟩ : Lf)]).map (·.p))) ∧ (⟨x.1, x.2, pv2⟩ : Lf).ok := fun b' hb' =>
        ⟨(p, l), r, lv, ov', pv', b', hp, rfl, hdr, by rw [e2]; exact y2, by rw [e1, List.map_append]; exact y3, by rw [e1]; exact hb', ⟨p2, hqok⟩⟩
      cases b with
      | false =>
        have hn2 : ¬ Srt2 (ls.map (·.p)) := fun x => by have := hb.2 x; cases this
        simp (maxSteps := 2000000) (discharger := omega) only [xz,xc,xo,xr,x0,x1,x3,x5,xd,xb,kont_call,slOk,sliceV,selems,srcElems,place,partVals,partEs,placeEs,Reg.isA,Reg.isV,Reg.stays,Reg.onto,↓reduceIte,reduceCtorEq,Nat.reduceEqDiff,Nat.reduceLT,Nat.reduceAdd,Nat.zero_lt_succ,Option.getD_none,false_or,List.set_cons_zero,wrap_i64,int_le_t,int_bne_f,nat_le_t,hts,r1,ek,r2,el,List.replicate,w1,y1,hB2.isRow,hA2.isRow,n1,n2]
        exact fin false (by rw [hsn]; simp [hn2])
      | true =>
        have hs2 := hb.1 rfl
        by_cases h0 : ls.length = 0
        · have : ls = [] := List.length_eq_zero_iff.1 h0
          subst this
          simp (maxSteps := 2000000) (discharger := omega) only [xz,xc,xo,xr,x0,x1,x3,x5,xd,xb,kont_call,slOk,sliceV,selems,srcElems,place,partVals,partEs,placeEs,Reg.isA,Reg.isV,Reg.stays,Reg.onto,↓reduceIte,reduceCtorEq,Nat.reduceEqDiff,Nat.reduceLT,Nat.reduceAdd,Nat.zero_lt_succ,Option.getD_none,Int.cast_ofNat_Int,false_or,beq_self_eq_true,List.set_cons_zero,wrap_i64,int_le_t,int_bne_f,nat_le_t,hts,r1,ek,r2,el,List.replicate,w1,y1,hB2.isRow,hA2.isRow,n1,n2]
          exact fin true (by simp [Srt2])
        · obtain ⟨c, hpv⟩ := hB2.imm (by simp; exact fun e => h0 (by simp [e]))
          have hne : ls.map (·.p) ≠ [] := by simp; exact fun e => h0 (by simp [e])
          have hlast := srt2_last (p := p) hs2 hne
          have q1 : ((ls.map (·.p)).map AV.str)[ls.length - 1]? = some (.str ((ls.map (·.p)).getLast hne)) := by
            rw [List.getElem?_map, List.getLast_eq_getElem hne, List.getElem?_eq_getElem (by simp; omega)]; simp
          have ei : ((ls.length : Nat) : Int) - 1 = ((ls.length - 1 : Nat) : Int) := by omega
          have hnz : ¬ ((ls.length : Nat) : Int) = 0 := by omega
          generalize (ls.map (·.p)).getLast hne = z at *
          subst hpv
          simp (maxSteps := 2000000) (discharger := omega) only [xz,xc,xo,xr,x0,x1,x3,x5,xd,xb,kont_call,slOk,sliceV,selems,srcElems,place,partVals,partEs,placeEs,Reg.isA,Reg.isV,Reg.stays,Reg.onto,↓reduceIte,reduceCtorEq,Nat.reduceEqDiff,Nat.reduceLT,Nat.reduceAdd,Nat.zero_lt_succ,Option.getD_none,false_or,beq_self_eq_true,List.set_cons_zero,wrap_i64,int_le_t,int_beq_f,int_bne_f,nat_le_t,hts,r1,ek,r2,el,List.replicate,w1,y1,hB2.isRow,hA2.isRow,n1,n2,ei,q1]
          exact fin _ (by rw [hsn, hlast]; simp [hs2])

theorem pp_fst {ls : List Lf} {l : List LP} (h : ls.map Lf.pp = l) : ls.map (·.p) = l.map Prod.fst := by
  rw [← h, List.map_map]; rfl

theorem w_e36 (s : By) (at' : Nat) (ls : List Lf) (ov pv v10 v4 : AV) (b : Bool) (hat : at' ≤ s.length) (hs : s.length ≤ 1000000) (hA : IsApp 2 (ls.map Lf.av) h ov) (hB : IsApp 1 ((ls.map (·.p)).map AV.str) h pv) (hb : b = true ↔ Srt2 (ls.map (·.p))) (hacc : ls.length ≤ 1000000) (hok : ∀ x ∈ ls, x.ok)
    (hp : ∀ p ∈ ls.map (·.p), p.length ≤ 9223372036854775807) (hn : 3000100 < n) (hR : rdG rdLf s = .ok (ls.map Lf.pp) (s.drop at')) :
    Wp (kont F n tot ω) n e36 [(0, .val (.str s)), (4, .val v4), (5, .val (.int .i64 (at' : Nat))), (7, .val ov), (8, .val pv), (9, .val (.bool b)), (10, .val v10), (26, .val (.bool false))] h (Ret [ARes.t 2, ARes.t 3] fun v _ => OlP (openL s) v) := by
  unfold openL
  rw [hR]
  unfold e36
  have hdl : (s.drop at').length = s.length - at' := List.length_drop
  have hfst := pp_fst (ls := ls) rfl
  obtain ⟨b2, k46, hb2⟩ := c46 (n := n) (tot := tot) (ω := ω) (h := h) (ls.map (·.p)) pv (isRd_app hB) hp (by simp; omega) (by simp; omega)
  by_cases hr : s.drop at' = []
  · have hat2 : at' = s.length := by rw [hr] at hdl; simp at hdl; omega
    have hri := rising_srt (ls.map (·.p))
    rw [hfst] at hri hb hb2
    cases b with
    | false =>
      have : ¬ Rising ((ls.map Lf.pp).map Prod.fst) := fun x => by have := hb.2 (hri.1 x).1; cases this
      simp (maxSteps := 2000000) (discharger := omega) only [xz,xc,xo,xr,x0,x1,x2,x4,xd,xb,Reg.isA,Reg.isV,Reg.stays,Reg.onto,↓reduceIte,reduceCtorEq,Nat.reduceEqDiff,Nat.reduceLT,exists_eq_left',int_lt_f,hr,this]
      exact ⟨rfl, by decide⟩
    | true =>
      cases b2 with
      | false =>
        have : ¬ Rising ((ls.map Lf.pp).map Prod.fst) := fun x => by have := hb2.2 (hri.1 x).2; cases this
        simp (maxSteps := 2000000) (discharger := omega) only [xz,xc,xo,xr,x0,x1,x2,x4,xd,kont_call,Reg.isA,Reg.isV,Reg.stays,Reg.onto,↓reduceIte,reduceCtorEq,Nat.reduceEqDiff,Nat.reduceLT,beq_self_eq_true,exists_eq_left',int_lt_f,hr,this,k46]
        exact ⟨rfl, by decide⟩
      | true =>
        have : Rising ((ls.map Lf.pp).map Prod.fst) := hri.2 ⟨hb.1 rfl, hb2.1 rfl⟩
        simp (maxSteps := 2000000) (discharger := omega) only [xz,xc,xo,xr,x0,x1,x2,x4,xd,kont_call,Reg.isA,Reg.isV,Reg.stays,Reg.onto,↓reduceIte,reduceCtorEq,Nat.reduceEqDiff,Nat.reduceLT,beq_self_eq_true,exists_eq_left',int_lt_f,hr,this,k46]
        exact ⟨ov, rfl, ls, isRd_app hA, rfl, hok⟩
  · have hat2 : at' < s.length := by
      by_cases e : at' < s.length
      · exact e
      · exact absurd (List.drop_of_length_le (by omega)) hr
    simp (maxSteps := 2000000) (discharger := omega) only [xz,xc,xo,xr,x0,x1,x4,xd,Reg.isA,Reg.isV,Reg.stays,Reg.onto,↓reduceIte,reduceCtorEq,Nat.reduceEqDiff,Nat.reduceLT,exists_eq_left',int_lt_t,hr]
    exact ⟨rfl, by decide⟩

theorem c36 (s : By) (hs : s.length ≤ 1000000) (hn : 4000000 < n) : ∃ v h', call F n tot ω 36 [.str s] h = some (v, h') ∧ OlP (openL s) v := by
  obtain ⟨n, rfl⟩ : ∃ m, n = m + 1 := ⟨n - 1, by omega⟩
  refine call_of (fn := a36) f36 (P := fun v _ => OlP (openL s) v) ?_
  have r1 := c63 (tot := tot) (ω := ω) (n := n) s h (by omega) (by omega)
  unfold a36
  cases hc : rdC s with
  | err e =>
    rw [hc] at r1
    unfold rdCAV at r1
    have h23 := rdC_e23 hc
    have he : ¬ e = 0 := by omega
    have ho : openL s = .inl e := by unfold openL rdG; rw [hc]
    rw [ho]
    simp (maxSteps := 2000000) (discharger := omega) only [xz,xc,xo,xr,x0,x1,x3,xd,kont_call,Reg.isA,Reg.isV,Reg.stays,Reg.onto,↓reduceIte,reduceCtorEq,Nat.reduceEqDiff,Nat.reduceLT,exists_eq_left',int_bne_t,r1]
    exact ⟨rfl, he⟩
  | ok m k =>
    rw [hc] at r1
    unfold rdCAV at r1
    have hk := rdC_k hc
    have hg : rdG rdLf s = goG rdLf [] m (s.drop k) := by unfold rdG; rw [hc]
    simp (maxSteps := 2000000) (discharger := omega) only [xz,xc,xo,xr,x0,x1,x3,xd,kont_call,Reg.isA,Reg.isV,Reg.stays,Reg.onto,↓reduceIte,reduceCtorEq,Nat.reduceEqDiff,Nat.reduceLT,int_bne_f,r1]
    refine wpi_loop (fun q r g => ∃ (at' : Nat) (ls : List Lf) (ov pv : AV) (b : Bool), r = rO s m at' ls.length ov pv b ∧ q = s.length - at' ∧ at' ≤ s.length ∧ ls.length ≤ m ∧ ls.length + (s.length - at') ≤ s.length ∧
      goG rdLf (ls.map Lf.pp) (m - ls.length) (s.drop at') = rdG rdLf s ∧ IsApp 2 (ls.map Lf.av) g ov ∧ IsApp 1 ((ls.map (·.p)).map AV.str) g pv ∧ (b = true ↔ Srt2 (ls.map (·.p))) ∧ ∀ x ∈ ls, x.ok) (s.length - k) (by omega)
      ⟨k, [], .nils, .nils, true, rfl, rfl, by omega, by simp, by simp, by rw [hg]; rfl, .nils _ _, .nils _ _, by simp [Srt2], by simp⟩ ?_
    rintro q r g ⟨at', ls, ov, pv, b, rfl, rfl, hat, him, hil, hR, hA, hB, hb, hok⟩
    by_cases hlt : ls.length < m
    · obtain ⟨m', hm'⟩ : ∃ m', m - ls.length = m' + 1 := ⟨m - ls.length - 1, by omega⟩
      rw [hm'] at hR
      unfold goG at hR
      have wo := w_o36 (n := n) (tot := tot) (ω := ω) (h := g) s m at' ls ov pv b hat hs hA hB hb (by omega) hok (by omega)
      unfold rO at wo ⊢
      simp only [List.cons_append,List.nil_append] at wo
      simp (maxSteps := 2000000) (discharger := omega) only [xz,xc,xo,xr,x0,x1,xd,Reg.isA,Reg.isV,Reg.stays,Reg.onto,↓reduceIte,reduceCtorEq,Nat.reduceEqDiff,Nat.reduceLT,int_lt_t]
      refine wo.mono ?_
      rintro e r' h' (⟨rfl, er, hp, rfl⟩ | ⟨rfl, x, rr, pv2, ov', pv', b', hp, rfl, hd, hA', hB', hb', hok'⟩)
      · rw [hp] at hR
        have h23 := rdLf1.err hp
        have ho : openL s = .inl er := by unfold openL; rw [← hR]
        rw [ho]
        simp (maxSteps := 2000000) (discharger := omega) only [xz,xc,xr,xd,↓reduceIte,Nat.reduceEqDiff,exists_eq_left']
        exact ⟨rfl, by omega⟩
      · have hl := rdLf1.lt hp
        rw [List.length_drop] at hl
        rw [hp] at hR
        simp (maxSteps := 2000000) (discharger := omega) only [xz,xc,xo,xr,x0,x1,xd,Reg.isA,Reg.isV,Reg.stays,Reg.onto,↓reduceIte,reduceCtorEq,Nat.reduceEqDiff,Nat.reduceLT,wrap_i64]
        refine ⟨s.length - (s.length - rr.length), by omega, s.length - rr.length, ls ++ [⟨x.1, x.2, pv2⟩], ov', pv', b', by simp, rfl, by omega, by simp; omega, by simp; omega, ?_, hA', hB', hb', fun y hy => ?_⟩
        · rw [hd, show m - (ls ++ [(⟨x.1, x.2, pv2⟩ : Lf)]).length = m' by simp; omega, List.map_append]
          exact hR
        · rcases List.mem_append.1 hy with hy | hy
          · exact hok y hy
          · rw [List.mem_singleton] at hy; subst hy; exact hok'
    · have hlm : ls.length = m := by omega
      rw [show m - ls.length = 0 by omega] at hR
      unfold goG at hR
      have hsz := (rdG_sz hR.symm).1
      have we := w_e36 (n := n) (tot := tot) (ω := ω) (h := g) s at' ls ov pv (.int .i64 (ls.length : Nat)) (.int .i64 (m : Nat)) b hat hs hA hB hb (by omega) hok (fun p hp => by
        rw [pp_fst (ls := ls) rfl] at hp
        obtain ⟨y, hy, rfl⟩ := List.mem_map.1 hp
        have := hsz y hy; omega) (by omega) hR.symm
      unfold rO
      simp (maxSteps := 2000000) (discharger := omega) only [xz,xc,xo,xr,x0,x1,xd,Reg.isA,Reg.isV,Reg.stays,Reg.onto,↓reduceIte,reduceCtorEq,Nat.reduceEqDiff,Nat.reduceLT,int_lt_f]
      exact we
end
end Go.Proofs.YtpgmohjmpaifbaaDoor.Im

/- S21Rf: the reference's writing. -/
set_option linter.unusedVariables false
set_option linter.unusedSimpArgs false
open Go Go.Im
namespace Go.Proofs.YtpgmohjmpaifbaaDoor.Im

theorem c72 {tot : Bool} {ω : Nat → Nat} {n : Nat} (x : Int) (h : Hp) (hx : -9223372036854775808 ≤ x) (hx2 : x ≤ 9223372036854775807) (hn : 13 < n) :
    call F n tot ω 72 [.int .i64 x] h = some (.str (encW x), h) := by
  obtain ⟨n, rfl⟩ : ∃ m, n = m + 1 := ⟨n - 1, by omega⟩
  refine call_eq (fn := a72) f72 ?_
  unfold a72
  by_cases hneg : x < 0
  · have he : encW x = enc (-(x + 1)).toNat 128 := if_pos hneg
    have e1 := c98 (tot := tot) (ω := ω) (n := n) (-(x + 1)).toNat 128 h (by omega) (by omega) (by omega)
    rw [Int.toNat_of_nonneg (by omega), show ((128 : Nat) : Int) = 128 from rfl, ← he] at e1
    have hz : (0 : Int) - (x + 1) = -(x + 1) := by omega
    simp (maxSteps := 2000000) (discharger := omega) only [xc,xo,xr,x0,x1,x2,xd,kont_call,Reg.isA,Reg.isV,Reg.stays,Reg.onto,Bool.or_false,Bool.and_false,↓reduceIte,reduceCtorEq,Nat.reduceEqDiff,Nat.reduceLT,Nat.zero_add,Nat.not_lt_zero,Bool.false_eq_true,Option.map_some,and_true,List.any_nil,List.any_cons,Option.some.injEq,exists_eq_left',decide_true,wrap_i64,hneg,wrap_u64,hz,e1]
  · have he : encW x = enc x.toNat 64 := if_neg hneg
    have e1 := c98 (tot := tot) (ω := ω) (n := n) x.toNat 64 h (by omega) (by omega) (by omega)
    rw [Int.toNat_of_nonneg (by omega), show ((64 : Nat) : Int) = 64 from rfl, ← he] at e1
    simp (maxSteps := 2000000) (discharger := omega) only [xc,xo,xr,x0,x1,x2,xd,kont_call,Reg.isA,Reg.isV,Reg.stays,Reg.onto,Bool.or_false,Bool.and_false,↓reduceIte,reduceCtorEq,Nat.reduceEqDiff,Nat.reduceLT,Nat.zero_add,Nat.not_lt_zero,Bool.false_eq_true,Option.map_some,and_true,List.any_nil,List.any_cons,Option.some.injEq,exists_eq_left',decide_false,hneg,wrap_u64,e1]

theorem c73 {tot : Bool} {ω : Nat → Nat} {n : Nat} (s : List UInt8) (h : Hp) (hs : s.length ≤ 100000000) (hn : 14 < n) :
    call F n tot ω 73 [.str s] h = some (.str (encT s), h) := by
  obtain ⟨n, rfl⟩ : ∃ m, n = m + 1 := ⟨n - 1, by omega⟩
  refine call_eq (fn := a73) f73 ?_
  unfold a73
  have e1 := c72 (tot := tot) (ω := ω) (n := n) (s.length : Int) h (by omega) (by omega) (by omega)
  have he : encW (s.length : Int) = enc s.length 64 := if_neg (by omega)
  have hel := enc_len s.length 64 (by omega)
  have hle : (enc s.length 64).length + s.length ≤ 9223372036854775807 := by omega
  rw [he] at e1
  have hE : enc s.length 64 ++ s = encT s := rfl
  simp (maxSteps := 2000000) (discharger := omega) only [xc,xo,xr,x0,x1,x4,xd,kont_call,Reg.isA,Reg.isV,Reg.stays,Reg.onto,Bool.or_false,Bool.and_false,↓reduceIte,reduceCtorEq,Nat.reduceEqDiff,Nat.reduceLT,Nat.zero_add,Nat.not_lt_zero,Bool.false_eq_true,Option.map_some,and_true,List.any_nil,List.any_cons,Option.some.injEq,exists_eq_left',e1,hle,hE]

end Go.Proofs.YtpgmohjmpaifbaaDoor.Im

/- S21Tw: parts and leaves written. -/
set_option linter.unusedVariables false
set_option linter.unusedSimpArgs false
open Go Go.Im
namespace Go.Proofs.YtpgmohjmpaifbaaDoor.Im

structure Pt.wr (x : Pt) : Prop where
  ok : x.ok
  n0 : 0 ≤ x.n
  n1 : x.n ≤ 1000000
theorem encP_len {x : Pt} (h : x.wr) : (encP x).length ≤ 43 := by
  have h0 : x.k.length = 32 := h.ok
  have h1 := h.n0
  have h2 := h.n1
  have := enc_len x.n.toNat 64 (by omega)
  unfold encP
  rw [List.length_append, bK_len, h0]; omega
theorem flatP_len : ∀ {l : List Pt}, (∀ x ∈ l, x.wr) → (l.flatMap encP).length ≤ 43 * l.length
  | [], _ => by simp
  | x :: l, h => by
    have h1 := encP_len (h x (by simp))
    have h2 := flatP_len fun y hy => h y (List.mem_cons_of_mem _ hy)
    simp only [List.flatMap_cons,List.length_append,List.length_cons]; omega
theorem flat_snoc {α : Type} (f : α → By) (l : List α) (i : Nat) (hi : i < l.length) : (l.take (i + 1)).flatMap f = (l.take i).flatMap f ++ f l[i] := by
  rw [List.take_succ_eq_append_getElem hi, List.flatMap_append]; simp

theorem keepsBut_trans {id : Nat} {a b c : Hp} (h1 : keepsBut id a b) (h2 : keepsBut id b c) : keepsBut id a c := fun i o hi ho hs => h2 i o hi (h1 i o hi ho hs) hs

section
variable {n : Nat} {tot : Bool} {ω : Nat → Nat} {h : Hp}

theorem c97 (id : Nat) (bs s : By) (hw : WR id bs h) (hl : bs.length ≤ 10000000000000) (hs : s.length ≤ 10000000000000) (hne : s ≠ []) (hn : 13 < n) :
    ∃ h', call F n tot ω 97 [.ptr id 1 0 0, .str s] h = some (.int .i64 0, h') ∧ WR id (bs ++ s) h' ∧ keepsBut id h h' ∧ h.length ≤ h'.length := by
  obtain ⟨n, rfl⟩ : ∃ m, n = m + 1 := ⟨n - 1, by omega⟩
  suffices hh : ∃ v' h', call F (n + 1) tot ω 97 [.ptr id 1 0 0, .str s] h = some (v', h') ∧ v' = .int .i64 0 ∧ WR id (bs ++ s) h' ∧ keepsBut id h h' ∧ h.length ≤ h'.length by
    obtain ⟨v', h', h1, rfl, h2⟩ := hh
    exact ⟨h', h1, h2⟩
  refine call_of (fn := a97) f97 (P := fun v' h' => v' = .int .i64 0 ∧ WR id (bs ++ s) h' ∧ keepsBut id h h' ∧ h.length ≤ h'.length) ?_
  unfold a97
  have hw2 := hw
  obtain ⟨v, hid, hv⟩ := hw2
  obtain ⟨v3, h3, g1, g2, g3, g4⟩ := app_any (bytes := 1) (xs := bytesOf s) hv (by rw [bytesOf_len, bytesOf_len]; omega)
  rw [← bytesOf_app] at g2
  obtain ⟨c, rfl⟩ := g2.imm (bytesOf_ne hne)
  have hr := hw.upd (cs := bs ++ s) g3 g2 (by omega)
  have hid3 := g3 _ _ hid rfl
  simp (maxSteps := 2000000) (discharger := omega) only [xz,xc,xo,xr,x0,x1,x2,x3,x5,xd,isNil,srcElems,upd,wr,Bool.bne_false,Reg.isA,Reg.isV,Reg.stays,Reg.onto,↓reduceIte,reduceCtorEq,Nat.reduceEqDiff,Nat.reduceLT,Nat.reduceAdd,Nat.zero_lt_succ,exists_eq_left',hid,List.set_cons_zero,hr,hv.isRow,g1,hid3]

theorem c96 (id : Nat) (bs : By) (x : Pt) (hw : WR id bs h) (hl : bs.length ≤ 1000000000000) (hx : x.wr) (hn : 30 < n) :
    ∃ h', call F n tot ω 96 [.ptr id 1 0 0, .agg x.cs] h = some (.tup [], h') ∧ WR id (bs ++ encP x) h' ∧ keepsBut id h h' ∧ h.length ≤ h'.length := by
  obtain ⟨n, rfl⟩ : ∃ m, n = m + 1 := ⟨n - 1, by omega⟩
  suffices hh : ∃ v' h', call F (n + 1) tot ω 96 [.ptr id 1 0 0, .agg x.cs] h = some (v', h') ∧ v' = .tup [] ∧ WR id (bs ++ encP x) h' ∧ keepsBut id h h' ∧ h.length ≤ h'.length by
    obtain ⟨v', h', h1, rfl, h2⟩ := hh
    exact ⟨h', h1, h2⟩
  refine call_of (fn := a96) f96 (P := fun v' h' => v' = .tup [] ∧ WR id (bs ++ encP x) h' ∧ keepsBut id h h' ∧ h.length ≤ h'.length) ?_
  have hk : x.k.length = 32 := hx.ok
  have hbl : (bK x.k).length = 32 := by rw [bK_len]; exact hk
  obtain ⟨h2, r1, q1, q2, q3⟩ := c97 (n := n) (tot := tot) (ω := ω) id bs (bK x.k) hw (by omega) (by omega) (fun e => by rw [e] at hbl; simp at hbl) (by omega)
  obtain ⟨h3, r2, p1, p2, p3⟩ := c93 (n := n) (tot := tot) (ω := ω) id (bs ++ bK x.k) x.n.toNat h2 q1 (by simp; omega) (by have := hx.n1; omega) (by omega)
  have hn0 := hx.n0
  rw [show ((x.n.toNat : Nat) : Int) = x.n by omega] at r2
  have hcl : x.cs.length = 33 := pt_len hx.ok
  have hc32 : x.cs[32]? = some (.int .i64 x.n) := by
    unfold Pt.cs
    rw [List.getElem?_append_right (by rw [io_len', hk]; exact Nat.le_refl _), io_len', hk]; rfl
  have htk : List.take 32 x.cs = intsOf .u8 x.k := by
    unfold Pt.cs
    rw [List.take_append_of_le_length (by rw [io_len', hk]; exact Nat.le_refl _), List.take_of_length_le (by rw [io_len', hk]; exact Nat.le_refl _)]
  have htb := toBytes_ints x.k
  unfold a96
  simp (maxSteps := 2000000) (discharger := omega) only [xz,xc,xo,xr,x0,x1,x2,x4,xd,kont_call,selems,Reg.isA,Reg.isV,Reg.stays,Reg.onto,↓reduceIte,reduceCtorEq,Nat.reduceEqDiff,Nat.reduceLT,Nat.reduceAdd,Nat.reduceMul,Int.cast_ofNat_Int,exists_eq_left',Int.reduceToNat,Nat.reduceBEq,int_le_t,nat_le_t,Nat.sub_zero,hcl,hc32,htk,htb,r1,r2]
  exact ⟨by rw [List.append_assoc] at p1; exact p1, keepsBut_trans q2 p2⟩

theorem c95 (id : Nat) (bs : By) (v : AV) (l : List Pt) (hw : WR id bs h) (hl : bs.length ≤ 100000000000) (hv : IsRd 33 (l.map Pt.av) v) (hx : ∀ x ∈ l, x.wr) (hll : l.length ≤ 1000000) (hn : l.length + 40 < n) :
    ∃ h', call F n tot ω 95 [.ptr id 1 0 0, v, .fn (.func 96) [] []] h = some (.int .i64 0, h') ∧ WR id (bs ++ packPs l) h' ∧ keepsBut id h h' ∧ h.length ≤ h'.length := by
  obtain ⟨n, rfl⟩ : ∃ m, n = m + 1 := ⟨n - 1, by omega⟩
  suffices hh : ∃ v' h', call F (n + 1) tot ω 95 [.ptr id 1 0 0, v, .fn (.func 96) [] []] h = some (v', h') ∧ v' = .int .i64 0 ∧ WR id (bs ++ packPs l) h' ∧ keepsBut id h h' ∧ h.length ≤ h'.length by
    obtain ⟨v', h', h1, rfl, h2⟩ := hh
    exact ⟨h', h1, h2⟩
  refine call_of (fn := a95) f95 (P := fun v' h' => v' = .int .i64 0 ∧ WR id (bs ++ packPs l) h' ∧ keepsBut id h h' ∧ h.length ≤ h'.length) ?_
  have hlen := hv.len
  rw [List.length_map] at hlen
  obtain ⟨h2, r1, q1, q2, q3⟩ := c93 (n := n) (tot := tot) (ω := ω) id bs l.length h hw (by omega) (by omega) (by omega)
  have he := enc_len l.length 64 (by omega)
  unfold a95
  simp (maxSteps := 2000000) (discharger := omega) only [xz,xc,xo,xr,x0,x2,x4,kont_call,isNil,Bool.bne_false,Reg.isA,Reg.isV,Reg.stays,Reg.onto,↓reduceIte,reduceCtorEq,Nat.reduceEqDiff,Nat.reduceLT,Nat.reduceAdd,beq_self_eq_true,hlen,r1]
  refine wpi_loop (fun q r g => ∃ (i : Nat), r = [(0, .val (.ptr id 1 0 0)), (2, .val (.fn (.func 96) [] [])), (19, .val v), (20, .val (.int .i64 (l.length : Nat))), (21, .val (.int .i64 (i : Nat)))] ∧ q = l.length - i ∧ i ≤ l.length ∧
    WR id (bs ++ enc l.length 64 ++ (l.take i).flatMap encP) g ∧ keepsBut id h g ∧ h.length ≤ g.length) l.length (by omega)
    ⟨0, rfl, rfl, Nat.zero_le _, by simpa using q1, q2, q3⟩ ?_
  rintro q r g ⟨i, rfl, rfl, hi, hW, hk, hgl⟩
  by_cases hlt : i < l.length
  · obtain ⟨c, rfl⟩ := hv.imm (i := i) (by simpa using hlt)
    have g1 := pt_get hlt
    have hxi := hx _ (List.getElem_mem hlt)
    have hfl := flatP_len (l := l.take i) fun y hy => hx y (List.mem_of_mem_take hy)
    rw [List.length_take] at hfl
    obtain ⟨g3, r2, p1, p2, p3⟩ := c96 (n := n) (tot := tot) (ω := ω) id _ l[i] hW (by rw [List.length_append, List.length_append]; omega) hxi (by omega)
    have hsn := flat_snoc encP l i hlt
    have hcl : l[i].cs.length = 33 := pt_len hxi.ok
    have htk := pt_take hxi.ok
    have hup := upd_full (zs := Y33) (cs := l[i].cs) (by rw [hcl]; rfl)
    generalize l[i] = x at *
    simp (maxSteps := 2000000) (discharger := omega) only [xz,xc,xo,xr,x0,x1,x5,xd,kont_call,wr,Reg.isA,Reg.isV,Reg.stays,Reg.onto,↓reduceIte,reduceCtorEq,Nat.reduceEqDiff,Nat.reduceLT,wrap_i64,int_lt_t,int_le_t,nat_le_t,g1,y33_eq,hup,hcl,htk,r2]
    exact ⟨l.length - (i + 1), by omega, i + 1, by rw [show ((i : Nat) : Int) + 1 = ((i + 1 : Nat) : Int) by omega], rfl, by omega, by rw [hsn, ← List.append_assoc]; exact p1, keepsBut_trans hk p2⟩
  · obtain rfl : i = l.length := by omega
    rw [List.take_length] at hW
    simp (maxSteps := 2000000) (discharger := omega) only [xz,xc,xo,xr,x0,x1,xd,Reg.isA,Reg.isV,Reg.stays,Reg.onto,↓reduceIte,reduceCtorEq,Nat.reduceEqDiff,Nat.reduceLT,exists_eq_left',int_lt_f,nat_le_t,Nat.sub_self]
    exact ⟨by unfold packPs packG; rw [← List.append_assoc]; exact hW, hk⟩

theorem c70 (id : Nat) (bs : By) (v : AV) (l : List Pt) (hw : WR id bs h) (hl : bs.length ≤ 100000000000) (hv : IsRd 33 (l.map Pt.av) v) (hx : ∀ x ∈ l, x.wr) (hll : l.length ≤ 1000000) (hn : l.length + 50 < n) :
    ∃ h', call F n tot ω 70 [.ptr id 1 0 0, v] h = some (.tup [], h') ∧ WR id (bs ++ packPs l) h' ∧ keepsBut id h h' ∧ h.length ≤ h'.length := by
  obtain ⟨n, rfl⟩ : ∃ m, n = m + 1 := ⟨n - 1, by omega⟩
  obtain ⟨h2, r1, q1, q2, q3⟩ := c95 (n := n) (tot := tot) (ω := ω) id bs v l hw hl hv hx hll (by omega)
  refine ⟨h2, ?_, q1, q2, q3⟩
  refine call_eq (fn := a70) f70 ?_
  unfold a70
  simp (maxSteps := 2000000) (discharger := omega) only [xz,xc,xo,xr,x0,xd,kont_call,Reg.isA,Reg.isV,Reg.onto,↓reduceIte,reduceCtorEq,Nat.reduceEqDiff,Nat.reduceLT,Nat.reduceAdd,exists_eq_left',r1]

theorem c40 (v : AV) (l : List Pt) (hv : IsRd 33 (l.map Pt.av) v) (hx : ∀ x ∈ l, x.wr) (hll : l.length ≤ 1000000) (hn : l.length + 60 < n) : ∃ h', call F n tot ω 40 [v] h = some (.str (packPs l), h') := by
  obtain ⟨n, rfl⟩ : ∃ m, n = m + 1 := ⟨n - 1, by omega⟩
  have r0 := c66 (n := n) (tot := tot) (ω := ω) h (by omega)
  obtain ⟨h2, r1, q1, q2, q3⟩ := c70 (n := n) (tot := tot) (ω := ω) h.length [] v l (WR.new h) (by simp) hv hx hll (by omega)
  have r2 := c71 (n := n) (tot := tot) (ω := ω) h.length _ h2 q1 (by omega)
  rw [List.nil_append] at r2
  refine ⟨h2, ?_⟩
  refine call_eq (fn := a40) f40 ?_
  unfold a40
  simp (maxSteps := 2000000) (discharger := omega) only [xz,xc,xo,xr,x0,xd,kont_call,Reg.isA,Reg.isV,Reg.stays,Reg.onto,↓reduceIte,reduceCtorEq,Nat.reduceEqDiff,Nat.reduceLT,exists_eq_left',r0,r1,r2]

structure Lf.wr (x : Lf) : Prop where
  ok : x.ok
  np : x.ps.length ≤ 40000
  pl : x.p.length ≤ 40000
  qs : ∀ q ∈ x.ps, q.wr
theorem encT_len (s : By) (h : s.length ≤ 1000000) : (encT s).length ≤ s.length + 11 := by
  have := enc_len s.length 64 (by omega)
  unfold encT; rw [List.length_append]; omega
theorem packPs_len {l : List Pt} (h : ∀ x ∈ l, x.wr) (hl : l.length ≤ 1000000) : (packPs l).length ≤ 11 + 43 * l.length := by
  have := enc_len l.length 64 (by omega)
  have := flatP_len h
  unfold packPs packG; rw [List.length_append]; omega
def encLf (x : Lf) : By := encT x.p ++ packPs x.ps
theorem encLf_len {x : Lf} (h : x.wr) : (encLf x).length ≤ 1800000 := by
  have h1 := encT_len x.p (by have := h.pl; omega)
  have h2 := packPs_len h.qs (by have := h.np; omega)
  have := h.pl
  have := h.np
  unfold encLf; rw [List.length_append]; omega
theorem flatL_len : ∀ {l : List Lf}, (∀ x ∈ l, x.wr) → (l.flatMap encLf).length ≤ 1800000 * l.length
  | [], _ => by simp
  | x :: l, h => by
    have h1 := encLf_len (h x (by simp))
    have h2 := flatL_len fun y hy => h y (List.mem_cons_of_mem _ hy)
    simp only [List.flatMap_cons,List.length_append,List.length_cons]; omega
theorem packLs_pp (l : List Lf) : packLs (l.map Lf.pp) = enc l.length 64 ++ l.flatMap encLf := by
  unfold packLs packG
  rw [List.length_map, List.flatMap_map]
  rfl

theorem c68 (id : Nat) (bs : By) (x : Lf) (hw : WR id bs h) (hl : bs.length ≤ 90000000000) (hx : x.wr) (hn : 1000100 < n) :
    ∃ h', call F n tot ω 68 [.ptr id 1 0 0, .agg [.str x.p, x.v]] h = some (.tup [], h') ∧ WR id (bs ++ encLf x) h' ∧ keepsBut id h h' ∧ h.length ≤ h'.length := by
  obtain ⟨n, rfl⟩ : ∃ m, n = m + 1 := ⟨n - 1, by omega⟩
  suffices hh : ∃ v' h', call F (n + 1) tot ω 68 [.ptr id 1 0 0, .agg [.str x.p, x.v]] h = some (v', h') ∧ v' = .tup [] ∧ WR id (bs ++ encLf x) h' ∧ keepsBut id h h' ∧ h.length ≤ h'.length by
    obtain ⟨v', h', h1, rfl, h2⟩ := hh
    exact ⟨h', h1, h2⟩
  refine call_of (fn := a68) f68 (P := fun v' h' => v' = .tup [] ∧ WR id (bs ++ encLf x) h' ∧ keepsBut id h h' ∧ h.length ≤ h'.length) ?_
  have hpl := hx.pl
  have hnp := hx.np
  have ht := encT_len x.p (by omega)
  obtain ⟨h2, r1, q1, q2, q3⟩ := c69 (n := n) (tot := tot) (ω := ω) id bs x.p h hw (by omega) (by omega) (by omega)
  obtain ⟨h3, r2, p1, p2, p3⟩ := c70 (n := n) (tot := tot) (ω := ω) (h := h2) id (bs ++ encT x.p) x.v x.ps q1 (by rw [List.length_append]; omega) hx.ok.1 hx.qs (by omega) (by omega)
  have s1 := rd_sub hx.ok.1 1
  unfold a68
  simp (maxSteps := 2000000) (discharger := omega) only [xz,xc,xo,xr,x0,x1,xd,kont_call,Reg.isA,Reg.isV,Reg.stays,Reg.onto,↓reduceIte,reduceCtorEq,Nat.reduceEqDiff,Nat.reduceLT,Nat.reduceAdd,exists_eq_left',Nat.reduceBEq,nat_le_t,r1,r2]
  exact ⟨by rw [List.append_assoc] at p1; exact p1, keepsBut_trans q2 p2⟩

theorem c67 (id : Nat) (bs : By) (v : AV) (l : List Lf) (hw : WR id bs h) (hl : bs.length ≤ 1000000000) (hv : IsRd 2 (l.map Lf.av) v) (hx : ∀ x ∈ l, x.wr) (hll : l.length ≤ 40000) (hn : 1100100 < n) :
    ∃ h', call F n tot ω 67 [.ptr id 1 0 0, v, .fn (.func 68) [] []] h = some (.int .i64 0, h') ∧ WR id (bs ++ packLs (l.map Lf.pp)) h' ∧ keepsBut id h h' ∧ h.length ≤ h'.length := by
  obtain ⟨n, rfl⟩ : ∃ m, n = m + 1 := ⟨n - 1, by omega⟩
  suffices hh : ∃ v' h', call F (n + 1) tot ω 67 [.ptr id 1 0 0, v, .fn (.func 68) [] []] h = some (v', h') ∧ v' = .int .i64 0 ∧ WR id (bs ++ packLs (l.map Lf.pp)) h' ∧ keepsBut id h h' ∧ h.length ≤ h'.length by
    obtain ⟨v', h', h1, rfl, h2⟩ := hh
    exact ⟨h', h1, h2⟩
  refine call_of (fn := a67) f67 (P := fun v' h' => v' = .int .i64 0 ∧ WR id (bs ++ packLs (l.map Lf.pp)) h' ∧ keepsBut id h h' ∧ h.length ≤ h'.length) ?_
  have hlen := hv.len
  rw [List.length_map] at hlen
  obtain ⟨h2, r1, q1, q2, q3⟩ := c93 (n := n) (tot := tot) (ω := ω) id bs l.length h hw (by omega) (by omega) (by omega)
  have he := enc_len l.length 64 (by omega)
  unfold a67
  simp (maxSteps := 2000000) (discharger := omega) only [xz,xc,xo,xr,x0,x2,x4,kont_call,isNil,Bool.bne_false,Reg.isA,Reg.isV,Reg.stays,Reg.onto,↓reduceIte,reduceCtorEq,Nat.reduceEqDiff,Nat.reduceLT,Nat.reduceAdd,beq_self_eq_true,hlen,r1]
  refine wpi_loop (fun q r g => ∃ (i : Nat), r = [(0, .val (.ptr id 1 0 0)), (2, .val (.fn (.func 68) [] [])), (19, .val v), (20, .val (.int .i64 (l.length : Nat))), (21, .val (.int .i64 (i : Nat)))] ∧ q = l.length - i ∧ i ≤ l.length ∧
    WR id (bs ++ enc l.length 64 ++ (l.take i).flatMap encLf) g ∧ keepsBut id h g ∧ h.length ≤ g.length) l.length (by omega)
    ⟨0, rfl, rfl, Nat.zero_le _, by simpa using q1, q2, q3⟩ ?_
  rintro q r g ⟨i, rfl, rfl, hi, hW, hk, hgl⟩
  by_cases hlt : i < l.length
  · obtain ⟨c, rfl⟩ := lfs_el hv hlt
    have g1 := lf_get hlt
    have hxi := hx _ (List.getElem_mem hlt)
    have hfl := flatL_len (l := l.take i) fun y hy => hx y (List.mem_of_mem_take hy)
    rw [List.length_take] at hfl
    obtain ⟨g3, r2, p1, p2, p3⟩ := c68 (n := n) (tot := tot) (ω := ω) id _ l[i] hW (by rw [List.length_append, List.length_append]; omega) hxi (by omega)
    have hsn := flat_snoc encLf l i hlt
    have n1 := rd_nt hxi.ok.1
    have n2 := rd_cells hxi.ok.1
    generalize l[i] = x at *
    simp (maxSteps := 2000000) (discharger := omega) only [xz,xc,xo,xr,x0,x1,x5,xd,kont_call,wr,Reg.isA,Reg.isV,Reg.stays,Reg.onto,↓reduceIte,reduceCtorEq,Nat.reduceEqDiff,Nat.reduceLT,Nat.reduceAdd,xu,wrap_i64,int_lt_t,int_le_t,nat_le_t,g1,r2]
    exact ⟨l.length - (i + 1), by omega, i + 1, by rw [show ((i : Nat) : Int) + 1 = ((i + 1 : Nat) : Int) by omega], rfl, by omega, by rw [hsn, ← List.append_assoc]; exact p1, keepsBut_trans hk p2⟩
  · obtain rfl : i = l.length := by omega
    rw [List.take_length] at hW
    simp (maxSteps := 2000000) (discharger := omega) only [xz,xc,xo,xr,x0,x1,xd,Reg.isA,Reg.isV,Reg.stays,Reg.onto,↓reduceIte,reduceCtorEq,Nat.reduceEqDiff,Nat.reduceLT,exists_eq_left',int_lt_f,nat_le_t,Nat.sub_self]
    exact ⟨by rw [packLs_pp, ← List.append_assoc]; exact hW, hk⟩

theorem c39 (v : AV) (l : List Lf) (hv : IsRd 2 (l.map Lf.av) v) (hx : ∀ x ∈ l, x.wr) (hll : l.length ≤ 40000) (hn : 1200000 < n) : ∃ h', call F n tot ω 39 [v] h = some (.str (packLs (l.map Lf.pp)), h') := by
  obtain ⟨n, rfl⟩ : ∃ m, n = m + 1 := ⟨n - 1, by omega⟩
  have r0 := c66 (n := n) (tot := tot) (ω := ω) h (by omega)
  obtain ⟨h2, r1, q1, q2, q3⟩ := c67 (n := n) (tot := tot) (ω := ω) h.length [] v l (WR.new h) (by simp) hv hx hll (by omega)
  have r2 := c71 (n := n) (tot := tot) (ω := ω) h.length _ h2 q1 (by omega)
  rw [List.nil_append] at r2
  refine ⟨h2, ?_⟩
  refine call_eq (fn := a39) f39 ?_
  unfold a39
  simp (maxSteps := 2000000) (discharger := omega) only [xz,xc,xo,xr,x0,xd,kont_call,Reg.isA,Reg.isV,Reg.stays,Reg.onto,↓reduceIte,reduceCtorEq,Nat.reduceEqDiff,Nat.reduceLT,exists_eq_left',r0,r1,r2]

/-! ### the reference -/
theorem encW_nat (x : Nat) : encW (x : Int) = enc x 64 := by
  unfold encW
  rw [if_neg (by omega)]; rfl
theorem c42 (v : AV) (l : List Pt) (hv : IsRd 33 (l.map Pt.av) v) (hx : ∀ x ∈ l, x.wr) (hll : l.length ≤ 1000000) (hn : l.length + 60 < n) : call F n tot ω 42 [v] h = some (.str (packPs l), h) := by
  obtain ⟨n, rfl⟩ : ∃ m, n = m + 1 := ⟨n - 1, by omega⟩
  refine call_eq (fn := a42) f42 ?_
  have hlen := hv.len
  rw [List.length_map] at hlen
  have r0 := c72 (n := n) (tot := tot) (ω := ω) (l.length : Nat) h (by omega) (by omega) (by omega)
  rw [encW_nat] at r0
  have he := enc_len l.length 64 (by omega)
  unfold a42
  simp (maxSteps := 2000000) (discharger := omega) only [xz,xc,xo,xr,x0,x4,kont_call,Reg.isA,Reg.isV,Reg.stays,Reg.onto,↓reduceIte,reduceCtorEq,Nat.reduceEqDiff,Nat.reduceLT,hlen,r0]
  refine wpi_loop (fun q r g => ∃ (i : Nat), r = [(0, .val v), (3, .val (.str (enc l.length 64 ++ (l.take i).flatMap encP))), (4, .val (.int .i64 (i : Nat)))] ∧ q = l.length - i ∧ i ≤ l.length ∧ g = h) l.length (by omega)
    ⟨0, by simp, rfl, Nat.zero_le _, rfl⟩ ?_
  rintro q r g ⟨i, rfl, rfl, hi, rfl⟩
  by_cases hlt : i < l.length
  · obtain ⟨c, rfl⟩ := hv.imm (i := i) (by simpa using hlt)
    have g1 := pt_get hlt
    have hxi := hx _ (List.getElem_mem hlt)
    have hfl := flatP_len (l := l.take i) fun y hy => hx y (List.mem_of_mem_take hy)
    rw [List.length_take] at hfl
    have hsn := flat_snoc encP l i hlt
    have hpl := encP_len hxi
    have hk : l[i].k.length = 32 := hxi.ok
    have hcl : l[i].cs.length = 33 := pt_len hxi.ok
    have hc32 : l[i].cs[32]? = some (.int .i64 l[i].n) := by
      unfold Pt.cs
      rw [List.getElem?_append_right (by rw [io_len', hk]; exact Nat.le_refl _), io_len', hk]; rfl
    have htk : List.take 32 l[i].cs = intsOf .u8 l[i].k := by
      unfold Pt.cs
      rw [List.take_append_of_le_length (by rw [io_len', hk]; exact Nat.le_refl _), List.take_of_length_le (by rw [io_len', hk]; exact Nat.le_refl _)]
    have htb := toBytes_ints l[i].k
    have hn0 := hxi.n0
    have hn1 := hxi.n1
    have r1 := c72 (n := n) (tot := tot) (ω := ω) l[i].n g (by omega) (by omega) (by omega)
    have hew : encW l[i].n = enc l[i].n.toNat 64 := by
      have := encW_nat l[i].n.toNat
      rw [show ((l[i].n.toNat : Nat) : Int) = l[i].n by omega] at this
      exact this
    rw [hew] at r1
    have hbl : (bK l[i].k).length = 32 := by rw [bK_len]; exact hk
    have heP : encP l[i] = bK l[i].k ++ enc l[i].n.toNat 64 := rfl
    generalize l[i] = x at *
    have l1 : (enc l.length 64 ++ (l.take i).flatMap encP).length ≤ 100000000 := by rw [List.length_append]; omega
    have htk2 : List.take 32 (intsOf .u8 x.k) = intsOf .u8 x.k := List.take_of_length_le (by rw [io_len', hk]; exact Nat.le_refl _)
    generalize hA : enc l.length 64 ++ (l.take i).flatMap encP = A at *
    have hle := enc_len x.n.toNat 64 (by omega)
    simp (maxSteps := 2000000) (discharger := omega) only [xz,xc,xo,xr,x0,x1,x2,x4,xd,xe,xb,kont_call,selems,Reg.isA,Reg.isV,Reg.stays,Reg.onto,↓reduceIte,reduceCtorEq,Nat.reduceEqDiff,Nat.reduceLT,Int.cast_ofNat_Int,Int.reduceToNat,wrap_i64,int_lt_t,int_le_t,nat_le_t,hlen,g1,hk,htk2,hcl,hc32,htk,htb,r1,w_regionA2,inOrd,List.filterMap_cons,List.filterMap_nil,Is,List.length_append,hbl]
    exact ⟨l.length - (i + 1), by omega, i + 1, by rw [hsn, heP, ← hA, show ((i : Nat) : Int) + 1 = ((i + 1 : Nat) : Int) by omega]; simp only [List.append_assoc], rfl, by omega⟩
  · obtain rfl : i = l.length := by omega
    rw [List.take_length]
    simp (maxSteps := 2000000) (discharger := omega) only [xz,xc,xo,xr,x0,x1,x4,xd,Reg.isA,Reg.isV,Reg.stays,Reg.onto,↓reduceIte,reduceCtorEq,Nat.reduceEqDiff,Nat.reduceLT,exists_eq_left',int_lt_f,Nat.sub_self,hlen]
    rfl

theorem c41 (v : AV) (l : List Lf) (hv : IsRd 2 (l.map Lf.av) v) (hx : ∀ x ∈ l, x.wr) (hll : l.length ≤ 40000) (hn : 1200000 < n) : call F n tot ω 41 [v] h = some (.str (packLs (l.map Lf.pp)), h) := by
  obtain ⟨n, rfl⟩ : ∃ m, n = m + 1 := ⟨n - 1, by omega⟩
  refine call_eq (fn := a41) f41 ?_
  have hlen := hv.len
  rw [List.length_map] at hlen
  have r0 := c72 (n := n) (tot := tot) (ω := ω) (l.length : Nat) h (by omega) (by omega) (by omega)
  rw [encW_nat] at r0
  have he := enc_len l.length 64 (by omega)
  unfold a41
  simp (maxSteps := 2000000) (discharger := omega) only [xz,xc,xo,xr,x0,x4,kont_call,Reg.isA,Reg.isV,Reg.stays,Reg.onto,↓reduceIte,reduceCtorEq,Nat.reduceEqDiff,Nat.reduceLT,hlen,r0]
  refine wpi_loop (fun q r g => ∃ (i : Nat), r = [(0, .val v), (3, .val (.str (enc l.length 64 ++ (l.take i).flatMap encLf))), (4, .val (.int .i64 (i : Nat)))] ∧ q = l.length - i ∧ i ≤ l.length ∧ g = h) l.length (by omega)
    ⟨0, by simp, rfl, Nat.zero_le _, rfl⟩ ?_
  rintro q r g ⟨i, rfl, rfl, hi, rfl⟩
  by_cases hlt : i < l.length
  · obtain ⟨c, rfl⟩ := lfs_el hv hlt
    have g1 := lf_get hlt
    have hxi := hx _ (List.getElem_mem hlt)
    have hfl := flatL_len (l := l.take i) fun y hy => hx y (List.mem_of_mem_take hy)
    rw [List.length_take] at hfl
    have hsn := flat_snoc encLf l i hlt
    have hpl := hxi.pl
    have hnp := hxi.np
    have ht := encT_len l[i].p (by omega)
    have hq := packPs_len hxi.qs (by omega)
    have r1 := c73 (n := n) (tot := tot) (ω := ω) l[i].p g (by omega) (by omega)
    have r2 := c42 (n := n) (tot := tot) (ω := ω) (h := g) l[i].v l[i].ps hxi.ok.1 hxi.qs (by omega) (by omega)
    have s1 := rd_sub hxi.ok.1 1
    have heL : encLf l[i] = encT l[i].p ++ packPs l[i].ps := rfl
    generalize l[i] = x at *
    have l1 : (enc l.length 64 ++ (l.take i).flatMap encLf).length ≤ 100000000000 := by rw [List.length_append]; omega
    generalize hA : enc l.length 64 ++ (l.take i).flatMap encLf = A at *
    simp (maxSteps := 2000000) (discharger := omega) only [xz,xc,xo,xr,x0,x1,x4,xd,kont_call,Reg.isA,Reg.isV,Reg.stays,Reg.onto,↓reduceIte,reduceCtorEq,Nat.reduceEqDiff,Nat.reduceLT,wrap_i64,int_lt_t,int_le_t,nat_le_t,hlen,g1,s1,r1,r2,w_regionA2,inOrd,List.filterMap_cons,List.filterMap_nil,Is,List.length_append]
    exact ⟨l.length - (i + 1), by omega, i + 1, by rw [hsn, heL, ← hA, show ((i : Nat) : Int) + 1 = ((i + 1 : Nat) : Int) by omega]; simp only [List.append_assoc], rfl, by omega⟩
  · obtain rfl : i = l.length := by omega
    rw [List.take_length, packLs_pp]
    simp (maxSteps := 2000000) (discharger := omega) only [xz,xc,xo,xr,x0,x1,x4,xd,Reg.isA,Reg.isV,Reg.stays,Reg.onto,↓reduceIte,reduceCtorEq,Nat.reduceEqDiff,Nat.reduceLT,exists_eq_left',int_lt_f,Nat.sub_self,hlen]
end
end Go.Proofs.YtpgmohjmpaifbaaDoor.Im

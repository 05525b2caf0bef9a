/- Joined: S21St, S21Sm, S21Ss, S21Fi, S21Ck, S21Bv, S21Lb, S21Lk, S21Lq, S21Lr. -/
import Derived.Test.YtpgmohjmpaifbaaDoorCc
import Derived.Test.YtpgmohjmpaifbaaDoorImSort1
import Derived.Test.YtpgmohjmpaifbaaDoorImRow
import Derived.Test.YtpgmohjmpaifbaaDoorImStab
import Derived.Test.YtpgmohjmpaifbaaDoorFm
import Derived.Test.YtpgmohjmpaifbaaDoorBo
import Derived.Test.YtpgmohjmpaifbaaDoorTw
/- S21St: slices.SortStableFunc: parts that change places, rotations. -/
set_option linter.unusedVariables false
set_option linter.unusedSimpArgs false
set_option linter.unusedSectionVars false
open Go Go.Im Go.Sort
namespace Go.Proofs.YtpgmohjmpaifbaaDoor.Im

section
variable {α : Type} [Inhabited α] {e : α → AV} {lt : α → α → Bool} {tot : Bool} {ω : Nat → Nat} {B : Nat} {g : FuncId} {fs caps : List AV} {h0 : Hp} {id : Nat} {pre post : List AV}

end
end Go.Proofs.YtpgmohjmpaifbaaDoor.Im

/- S21Sm: slices.SortStableFunc: merging in place. -/
set_option linter.unusedVariables false
set_option linter.unusedSimpArgs false
set_option linter.unusedSectionVars false
open Go Go.Im Go.Sort
namespace Go.Proofs.YtpgmohjmpaifbaaDoor.Im
section
variable {α : Type} [Inhabited α] {e : α → AV} {lt : α → α → Bool} {tot : Bool} {ω : Nat → Nat} {B : Nat} {g : FuncId} {fs caps : List AV} {h0 : Hp} {id : Nat} {pre post : List AV}

end
end Go.Proofs.YtpgmohjmpaifbaaDoor.Im

/- S21Ss: slices.SortStableFunc: a row is sorted. -/
set_option linter.unusedVariables false
set_option linter.unusedSimpArgs false
set_option linter.unusedSectionVars false
open Go Go.Im Go.Sort
namespace Go.Proofs.YtpgmohjmpaifbaaDoor.Im
section
variable {α : Type} [Inhabited α] {e : α → AV} {lt : α → α → Bool} {tot : Bool} {ω : Nat → Nat} {B : Nat} {g : FuncId} {fs caps : List AV} {h0 : Hp} {id : Nat} {pre post : List AV}

end
end Go.Proofs.YtpgmohjmpaifbaaDoor.Im

/- S21Fi: files; files by their paths. -/
set_option linter.unusedVariables false
set_option linter.unusedSimpArgs false
open Go Go.Im Go.Sort
namespace Go.Proofs.YtpgmohjmpaifbaaDoor.Im

section
variable {n : Nat} {tot : Bool} {ω : Nat → Nat} {h : Hp}
end
end Go.Proofs.YtpgmohjmpaifbaaDoor.Im

/- S21Ck: tree.Check. -/
set_option linter.unusedVariables false
set_option linter.unusedSimpArgs false
open Go Go.Im Go.Sort
namespace Go.Proofs.YtpgmohjmpaifbaaDoor.Im
section
variable {n : Nat} {tot : Bool} {ω : Nat → Nat} {h : Hp}

end
end Go.Proofs.YtpgmohjmpaifbaaDoor.Im

/- S21Bv: tree.Build. -/
set_option linter.unusedVariables false
set_option linter.unusedSimpArgs false
open Go Go.Im
namespace Go.Proofs.YtpgmohjmpaifbaaDoor.Im

section
variable {n : Nat} {tot : Bool} {ω : Nat → Nat} {h : Hp}

end
end Go.Proofs.YtpgmohjmpaifbaaDoor.Im

/- S21Lb: the law TreeBuilds. -/
set_option linter.unusedVariables false
set_option linter.unusedSimpArgs false
open Go Go.Im
namespace Go.Proofs.YtpgmohjmpaifbaaDoor.Im
section
variable {n : Nat} {tot : Bool} {ω : Nat → Nat} {h : Hp}

end

end Go.Proofs.YtpgmohjmpaifbaaDoor.Im

/- S21Lk: the law TreeBack. -/
set_option linter.unusedVariables false
set_option linter.unusedSimpArgs false
open Go Go.Im
namespace Go.Proofs.YtpgmohjmpaifbaaDoor.Im

theorem chk_sz {fs : List Fl} (h : chk fs = 0) : szOf fs ≤ 16384 := by
  classical
  unfold chk at h
  split at h
  · split at h
    · cases h
    · omega
  · cases h
section
variable {n : Nat} {tot : Bool} {ω : Nat → Nat} {h : Hp}

end
end Go.Proofs.YtpgmohjmpaifbaaDoor.Im

/- S21Lq: the law TreePacks: plain facts. -/
set_option linter.unusedVariables false
set_option linter.unusedSimpArgs false
open Go Go.Im
namespace Go.Proofs.YtpgmohjmpaifbaaDoor.Im

theorem cutSt_le (l m M : Int) (s : By) (hM : 1 ≤ M) : ∀ i, (((cutSt l m M s i).1 : Nat) : Int) < M ∧ ∀ x ∈ (cutSt l m M s i).2, ((x : Nat) : Int) ≤ M
  | 0 => ⟨by show ((0 : Nat) : Int) < M; omega, fun x hx => by cases hx⟩
  | i + 1 => by
    obtain ⟨h1, h2⟩ := cutSt_le l m M s hM i
    have hst : cutSt l m M s (i + 1) = if ((cutSt l m M s i).1 + 1 : Int) = M ∨ ((cutSt l m M s i).1 + 1 : Int) ≥ l ∧ ((sumR s i : Nat) : Int) % m = m - 1 then (0, (cutSt l m M s i).2 ++ [(cutSt l m M s i).1 + 1]) else ((cutSt l m M s i).1 + 1, (cutSt l m M s i).2) := rfl
    rw [hst]
    split
    · refine ⟨by show ((0 : Nat) : Int) < M; omega, fun x hx => ?_⟩
      rcases List.mem_append.1 hx with hx | hx
      · exact h2 x hx
      · rw [List.mem_singleton] at hx; subst hx; omega
    · rename_i hn
      refine ⟨?_, h2⟩
      have : ¬ ((cutSt l m M s i).1 + 1 : Int) = M := fun e => hn (.inl e)
      show (((cutSt l m M s i).1 + 1 : Nat) : Int) < M
      omega
theorem cutR_le (l m M : Int) (s : By) (hM : 1 ≤ M) : ∀ x ∈ cutR l m M s, ((x : Nat) : Int) ≤ M := by
  obtain ⟨h1, h2⟩ := cutSt_le l m M s hM s.length
  unfold cutR
  split
  · intro x hx
    rcases List.mem_append.1 hx with hx | hx
    · exact h2 x hx
    · rw [List.mem_singleton] at hx; subst hx; omega
  · exact h2
theorem shaR_rng (s : By) : ∀ z ∈ shaR s, 0 ≤ z ∧ z ≤ 255 := fun z hz => by
  unfold shaR keyI at hz
  obtain ⟨t, _, rfl⟩ := List.mem_map.1 hz
  unfold byteI
  have : ∀ y : Int, IntKind.u8.wrap y = y % 256 := fun y => by simp [IntKind.wrap,IntKind.signed,IntKind.bits]
  rw [this]
  omega
theorem good_wr {x : Pt} (h : x.good) : x.wr := ⟨h.len, by have := h.n1; omega, by have := h.n2; omega⟩
theorem partsR_good {l m M : Int} (hok : okConf l m M) (d : By) : ∀ x ∈ partsR l m M d, x.good := fun x hx => by
  rw [partsR_pcs] at hx
  obtain ⟨p, hp, rfl⟩ := List.mem_map.1 hx
  obtain ⟨k, hk, rfl⟩ := List.getElem_of_mem hp
  have hcl := pcs_len (cutR l m M d) d
  have hk2 : k < (cutR l m M d).length := by omega
  obtain ⟨r1, r2, r3⟩ := cutR_sum l m M d
  have hln := pcs_pos (cutR l m M d) d k hk (by omega)
  have hgd : (cutR l m M d).getD k 0 = (cutR l m M d)[k] := by simp [List.getD,hk2]
  have hge := r2 _ (List.getElem_mem hk2)
  have hle := cutR_le l m M d (by have := hok.1; have := hok.2.2.2.1; omega) _ (List.getElem_mem hk2)
  have hM := hok.2.2.2.2
  refine ⟨shaR_len _, shaR_rng _, ?_, ?_⟩
  · show (1 : Int) ≤ ((pcs (cutR l m M d) d)[k].length : Nat); omega
  · show (((pcs (cutR l m M d) d)[k].length : Nat) : Int) ≤ 4096; omega
theorem flat_mem_len {α : Type} {f : α → By} {x : α} : ∀ {l : List α}, x ∈ l → (f x).length ≤ (l.flatMap f).length
  | y :: l, h => by
    simp only [List.flatMap_cons,List.length_append]
    rcases List.mem_cons.1 h with rfl | h
    · omega
    · have := flat_mem_len (f := f) h; omega
theorem packPs_ge (l : List Pt) : l.length ≤ (packPs l).length := by
  have := flat_len encP_ne l
  unfold packPs packG; rw [List.length_append]; omega
theorem opened_wr {ls : List Lf} {s : By} (hs : s.length ≤ 30000) (hp : packLs (ls.map Lf.pp) = s) (hg : ∀ x ∈ ls.map Lf.pp, LP.good x) (hok : ∀ x ∈ ls, x.ok) : (∀ x ∈ ls, x.wr) ∧ ls.length ≤ 30000 := by
  have hl : (packLs (ls.map Lf.pp)).length ≤ 30000 := by rw [hp]; exact hs
  unfold packLs packG at hl
  rw [List.length_append] at hl
  have h1 := flat_len encL_ne (ls.map Lf.pp)
  rw [List.length_map] at h1
  refine ⟨fun x hx => ?_, by omega⟩
  have hm : x.pp ∈ ls.map Lf.pp := List.mem_map_of_mem hx
  have h2 := flat_mem_len (f := encL) hm
  have h3 : (encL x.pp).length = (encT x.p).length + (packPs x.ps).length := by unfold encL; rw [List.length_append]; rfl
  have h4 := packPs_ge x.ps
  have h5 : x.p.length ≤ (encT x.p).length := by unfold encT; rw [List.length_append]; omega
  exact ⟨hok x hx, by omega, by omega, fun q hq => good_wr ((hg _ hm).2.2 q hq)⟩
end Go.Proofs.YtpgmohjmpaifbaaDoor.Im

/- S21Lr: the law TreePacks. -/
set_option linter.unusedVariables false
set_option linter.unusedSimpArgs false
open Go Go.Im
namespace Go.Proofs.YtpgmohjmpaifbaaDoor.Im
theorem sz_mem {fs : List Fl} {f : Fl} : f ∈ fs → f.d.length ≤ szOf fs := by
  induction fs with
  | nil => intro h; cases h
  | cons g fs ih =>
    intro h
    unfold szOf at ih ⊢
    simp only [List.map_cons,List.sum_cons]
    rcases List.mem_cons.1 h with rfl | h
    · omega
    · have := ih h; omega
theorem flatF_len {l m M : Int} (hok : okConf l m M) : ∀ {gs : List Fl}, (∀ g ∈ gs, g.p.length ≤ 64 ∧ g.d.length ≤ 100000) → ((gs.map (Fl.pp l m M)).flatMap encL).length ≤ 86 * gs.length + 43 * szOf gs
  | [], _ => by simp
  | g :: gs, h => by
    have h1 := h g (by simp)
    have h2 := flatF_len hok fun x hx => h x (List.mem_cons_of_mem _ hx)
    have h3 := encT_len g.p (by omega)
    have h4 := partsR_len l m M g.d
    have h5 := packPs_len (l := partsR l m M g.d) (fun x hx => good_wr (partsR_good hok g.d x hx)) (by omega)
    have h6 : (encL (Fl.pp l m M g)).length = (encT g.p).length + (packPs (partsR l m M g.d)).length := by unfold encL; rw [List.length_append]; rfl
    unfold szOf at h2 ⊢
    simp only [List.map_cons,List.flatMap_cons,List.length_append,List.length_cons,List.sum_cons] at h2 ⊢
    omega

section
variable {n : Nat} {tot : Bool} {ω : Nat → Nat} {h : Hp}

structure BothL (s : By) (v7 v9 : AV) (er : Int) : Prop where
  ex : ∃ l1 l2 : List Lf, IsRd 2 (l1.map Lf.av) v7 ∧ IsRd 2 (l2.map Lf.av) v9 ∧ l1.map Lf.pp = l2.map Lf.pp ∧ (∀ x ∈ l1, x.ok ∧ x.ps.length ≤ 1000000) ∧ (∀ x ∈ l2, x.ok ∧ x.ps.length ≤ 1000000) ∧ l1.length ≤ 30000 ∧ (er = 0 → packLs (l1.map Lf.pp) = s ∧ ∀ x ∈ l1, x.wr)
structure BothP (s : By) (v11 v13 : AV) (er : Int) : Prop where
  ex : ∃ ps : List Pt, IsRd 33 (ps.map Pt.av) v11 ∧ IsRd 33 (ps.map Pt.av) v13 ∧ (∀ x ∈ ps, x.ok) ∧ ps.length ≤ 30000 ∧ (er = 0 → packPs ps = s ∧ ∀ x ∈ ps, x.wr)

theorem bothL {s : By} (hs : s.length ≤ 30000) {u v : AV} (h1 : OlP (openL s) u) (h2 : OlP (openL s) v) : ∃ v7 v9 er, u = .tup [v7, .int .i64 er] ∧ v = .tup [v9, .int .i64 er] ∧ BothL s v7 v9 er := by
  cases ho : openL s with
  | inl e =>
    rw [ho] at h1 h2
    obtain ⟨rfl, he⟩ := h1
    obtain ⟨rfl, _⟩ := h2
    exact ⟨.nils, .nils, e, rfl, rfl, ⟨[], [], .inl ⟨rfl, rfl⟩, .inl ⟨rfl, rfl⟩, rfl, by simp, by simp, by simp, fun e => absurd e he⟩⟩
  | inr l =>
    rw [ho] at h1 h2
    obtain ⟨lv, rfl, l1, q1, q2, q3⟩ := h1
    obtain ⟨lv2, rfl, l2, p1, p2, p3⟩ := h2
    obtain ⟨w1, w2⟩ := openL_inv (by omega) ho
    rw [← q2] at w1 w2
    obtain ⟨a1, a2⟩ := opened_wr hs w1 w2 q3
    rw [q2, ← p2] at w1 w2
    obtain ⟨b1, b2⟩ := opened_wr hs w1 w2 p3
    refine ⟨lv, lv2, 0, rfl, rfl, ⟨l1, l2, q1, p1, by rw [q2, p2], fun x hx => ⟨q3 x hx, ?_⟩, fun x hx => ⟨p3 x hx, ?_⟩, a2, fun _ => ⟨by rw [q2, ← p2]; exact w1, a1⟩⟩⟩
    · have := (a1 x hx).np; omega
    · have := (b1 x hx).np; omega
theorem bothP {s : By} (hs : s.length ≤ 30000) {u v : AV} (h1 : OpP (openP s) u) (h2 : OpP (openP s) v) : ∃ v7 v9 er, u = .tup [v7, .int .i64 er] ∧ v = .tup [v9, .int .i64 er] ∧ BothP s v7 v9 er := by
  cases ho : openP s with
  | inl e =>
    rw [ho] at h1 h2
    obtain ⟨rfl, he⟩ := h1
    obtain ⟨rfl, _⟩ := h2
    exact ⟨.nils, .nils, e, rfl, rfl, ⟨[], .inl ⟨rfl, rfl⟩, .inl ⟨rfl, rfl⟩, by simp, by simp, fun e => absurd e he⟩⟩
  | inr l =>
    rw [ho] at h1 h2
    obtain ⟨lv, rfl, q1⟩ := h1
    obtain ⟨lv2, rfl, p1⟩ := h2
    obtain ⟨w1, w2⟩ := openP_inv (by omega) ho
    have := packPs_ge l
    rw [w1] at this
    exact ⟨lv, lv2, 0, rfl, rfl, ⟨l, q1, p1, fun x hx => (w2 x hx).len, by omega, fun _ => ⟨w1, fun x hx => good_wr (w2 x hx)⟩⟩⟩

theorem w_p9g (ls : List Lf) (cl : Cap) (i : Nat) (hi : i < ls.length) (hlo : ∀ x ∈ ls, x.wr) (hg : ∀ x ∈ ls, ∀ q ∈ x.ps, q.good) (hps : ∀ x ∈ ls, x.ps.length ≤ 20000) (hll : ls.length ≤ 30000) (hn : 50000000 < n) :
    Wp (kont F n tot ω) n p9g [(15, .val (.imm 2 (ls.map Lf.av) cl)), (18, .val (.int .i64 (i : Nat))), (125, .val (.bool true))] h fun e r' h' => e = .normal ∧ r' = [(15, .val (.imm 2 (ls.map Lf.av) cl)), (18, .val (.int .i64 (i : Nat))), (156, .val (.bool false))] := by
  have q1 := lf_get hi
  have hx := hlo _ (List.getElem_mem hi)
  have hgx := hg _ (List.getElem_mem hi)
  have s1 := rd_sub hx.ok.1 1
  have hnp := hps _ (List.getElem_mem hi)
  obtain ⟨h2, r1⟩ := c40 (n := n) (tot := tot) (ω := ω) (h := h) ls[i].v ls[i].ps hx.ok.1 hx.qs (by omega) (by omega)
  have hpl := packPs_len hx.qs (by omega)
  obtain ⟨v, h3, r2, p2⟩ := c37 (n := n) (tot := tot) (ω := ω) (packPs ls[i].ps) h2 (by omega) (by omega)
  rw [openP_pack ⟨by omega, hgx⟩] at p2
  obtain ⟨lv, rfl, p3⟩ := p2
  have r3 := fun h => c24 (n := n) (tot := tot) (ω := ω) (h := h) ls[i].ps ls[i].ps lv ls[i].v p3 hx.ok.1 hx.ok.2 hx.ok.2 (by omega) (by omega) (by omega)
  rw [decide_eq_true rfl] at r3
  obtain ⟨h4, r4⟩ := c40 (n := n) (tot := tot) (ω := ω) (h := h3) lv ls[i].ps p3 hx.qs (by omega) (by omega)
  have r5 := c42 (n := n) (tot := tot) (ω := ω) (h := h4) lv ls[i].ps p3 hx.qs (by omega) (by omega)
  unfold p9g
  simp (maxSteps := 2000000) (discharger := omega) only [xz,xc,xo,xr,x0,x1,x2,x3,xd,kont_call,Reg.isA,Reg.isV,Reg.stays,Reg.onto,↓reduceIte,Nat.reduceEqDiff,Nat.reduceLT,beq_self_eq_true,int_le_t,q1,s1,r1,r2,r3,r4,r5,bne_self_eq_false]

theorem w_p9f (ls : List Lf) (lv : AV) (rl : IsRd 2 (ls.map Lf.av) lv) (hlo : ∀ x ∈ ls, x.wr) (hg : ∀ x ∈ ls, ∀ q ∈ x.ps, q.good) (hps : ∀ x ∈ ls, x.ps.length ≤ 20000) (hll : ls.length ≤ 30000) (hn : 50000000 < n) :
    Wp (kont F n tot ω) n p9f [(15, .val lv), (121, .val (.bool false))] h (Ret [ARes.t 6] fun v _ => v = .bool true) := by
  have ll := rl.len
  rw [List.length_map] at ll
  unfold p9f
  simp (maxSteps := 2000000) (discharger := omega) only [xz,xc,xo,xr,x0,Reg.isA,Reg.isV,Reg.stays,Reg.onto,↓reduceIte,Nat.reduceEqDiff,Nat.reduceLT]
  refine wpi_loop (fun x r g => ∃ (i : Nat), r = [(15, .val lv), (18, .val (.int .i64 (i : Nat)))] ∧ x = ls.length - i ∧ i ≤ ls.length) ls.length (by omega)
    ⟨0, rfl, rfl, Nat.zero_le _⟩ ?_
  rintro x r g ⟨i, rfl, rfl, hi⟩
  by_cases hlt : i < ls.length
  · obtain ⟨cl, rfl⟩ := lfs_el rl hlt
    have wg := w_p9g (n := n) (tot := tot) (ω := ω) (h := g) ls cl i hlt hlo hg hps hll hn
    simp (maxSteps := 2000000) (discharger := omega) only [xz,xc,xo,xr,x0,x1,x4,xd,Reg.isA,Reg.isV,Reg.stays,Reg.onto,↓reduceIte,Nat.reduceEqDiff,Nat.reduceLT,int_lt_t,ll]
    refine wg.mono ?_
    rintro e r' h' ⟨rfl, rfl⟩
    simp (maxSteps := 2000000) (discharger := omega) only [xz,xc,xo,xr,x0,x1,xd,Reg.isA,Reg.isV,Reg.stays,Reg.onto,↓reduceIte,Nat.reduceEqDiff,Nat.reduceLT,wrap_i64]
    exact ⟨ls.length - (i + 1), by omega, i + 1, by rw [show ((i : Nat) : Int) + 1 = ((i + 1 : Nat) : Int) by omega], rfl, by omega⟩
  · obtain rfl : i = ls.length := by omega
    simp (maxSteps := 2000000) (discharger := omega) only [xz,xc,xo,xr,x0,x1,x4,xd,Reg.isA,Reg.isV,Reg.stays,Reg.onto,↓reduceIte,Nat.reduceEqDiff,Nat.reduceLT,exists_eq_left',int_lt_f,Nat.sub_self,ll]

theorem w_p9a (l m M : Int) (cs : List AV) (y0 y1 y2 y3 y4 y5 y6 y7 y11 : AV) (hcs : cs = [y0, y1, y2, y3, y4, y5, y6, y7, .int .i64 l, .int .i64 m, .int .i64 M, y11]) (hy : y0.notTup = true) (fs : List Fl) (a : AV) (ha : IsRd 2 (fs.map Fl.av) a) (hfo : ∀ f ∈ fs, f.ok) (hf : Few fs) (hck : chk fs = 0) (hn : 50000000 < n) :
    Wp (kont F n tot ω) n p9a [(1, .val a), (3, .var (.agg cs)), (96, .val (.bool false))] h (Ret [ARes.t 6] fun v _ => v = .bool true) := by
  subst hcs
  have hnum := hf.num
  obtain ⟨y, l', m', M', k16, hok⟩ := c16e (n := n) (tot := tot) (ω := ω) (h := h) y0 y1 y2 y3 y4 y5 y6 y7 y11 l m M hy (by omega)
  obtain ⟨kv, h2, ks, k21, rk, _, lk, ⟨g2, p2, s2, m2⟩, okk⟩ := c21e (n := n) (tot := tot) (ω := ω) (h := h) (.agg [y0, y1, y2, y3, y4, y5, y6, y7, .int .i64 l', .int .i64 m', .int .i64 M', y]) l' m' M' a fs (cf_of _ _ _ _ _ _ _ _ _ _ _ _) hok.2.1 (by have := hok.2.2.1; omega) ha hfo (fun f hf' => by have := hf.data f hf'; omega) (by omega) (by omega)
  have hT := chk_zero hck
  have hg : ∀ x ∈ ks, ∀ q ∈ x.ps, q.good := fun x hx q hq => by
    obtain ⟨_, f, hf1, e1, e2⟩ := okk x hx
    rw [e2] at hq
    exact partsR_good hok f.d q hq
  have hwr : ∀ x ∈ ks, x.wr := fun x hx => by
    obtain ⟨o1, f, hf1, e1, e2⟩ := okk x hx
    have q1 := hf.data f hf1
    have q2 := hf.path f hf1
    have q3 := partsR_len l' m' M' f.d
    exact ⟨o1, by rw [e2]; omega, by rw [e1]; omega, fun q hq => good_wr (hg x hx q hq)⟩
  have hps : ∀ x ∈ ks, x.ok ∧ x.ps.length ≤ 1000000 := fun x hx => ⟨(hwr x hx).ok, by have := (hwr x hx).np; omega⟩
  have hri : Rising ((ks.map Lf.pp).map Prod.fst) := by
    have e1 : (ks.map Lf.pp).map Prod.fst = psOf g2 := by rw [m2, List.map_map]; rfl
    rw [e1]
    refine (rising_iff (p2.map _) fun j k hj hk hjk => ?_).2 hT
    have hj' : j < g2.length := by simpa using hj
    have hk' : k < g2.length := by simpa using hk
    have := s2 j k hj' hk' hjk
    simpa [psOf, flLt] using this
  have hgood : ∀ x ∈ ks.map Lf.pp, LP.good x := fun x hx => by
    obtain ⟨y, hy, rfl⟩ := List.mem_map.1 hx
    have w := hwr y hy
    exact ⟨by have := w.pl; show y.p.length ≤ _; omega, by have := w.np; show y.ps.length ≤ _; omega, hg y hy⟩
  have hop := openL_pack (l := ks.map Lf.pp) ⟨by rw [List.length_map]; omega, hgood⟩ hri
  obtain ⟨h3, r1⟩ := c39 (n := n) (tot := tot) (ω := ω) (h := h2) kv ks rk hwr (by omega) (by omega)
  have hsz := chk_sz hck
  have hps20 : ∀ x ∈ ks, x.ps.length ≤ 20000 := fun x hx => by
    obtain ⟨_, f, hf1, e1, e2⟩ := okk x hx
    have q1 := sz_mem hf1
    have q3 := partsR_len l' m' M' f.d
    rw [e2]; omega
  have hpl : (packLs (ks.map Lf.pp)).length ≤ 1000000 := by
    have q1 := flatF_len hok (gs := g2) fun g hg => by
      have hgf : g ∈ fs := p2.mem_iff.1 hg
      have h1 := hT.path g.p (List.mem_map_of_mem hgf)
      unfold pathB at h1
      have h2 := hf.data g hgf
      simp at h1
      exact ⟨h1.1, by omega⟩
    have q2 : szOf g2 = szOf fs := szOf_perm p2
    have q3 := p2.length_eq
    have q4 := enc_len (ks.map Lf.pp).length 64 (by rw [List.length_map]; omega)
    unfold packLs packG
    rw [List.length_append, m2]
    rw [m2] at q4
    omega
  obtain ⟨v, h4, r2, p3⟩ := c35 (n := n) (tot := tot) (ω := ω) (packLs (ks.map Lf.pp)) h3 hpl (by omega)
  rw [hop] at p3
  obtain ⟨lv, rfl, l2, q1, q2, q3⟩ := p3
  obtain ⟨h5, r3⟩ := c39 (n := n) (tot := tot) (ω := ω) (h := h4) kv ks rk hwr (by omega) (by omega)
  have r4 := c41 (n := n) (tot := tot) (ω := ω) (h := h5) kv ks rk hwr (by omega) (by omega)
  have hp2 : ∀ x ∈ l2, x.ok ∧ x.ps.length ≤ 1000000 := fun x hx => ⟨q3 x hx, by
    have hm : x.pp ∈ ks.map Lf.pp := by rw [← q2]; exact List.mem_map_of_mem hx
    obtain ⟨y, hy, e⟩ := List.mem_map.1 hm
    have e2 : y.ps = x.ps := congrArg Prod.snd e
    rw [← e2]; exact (hps y hy).2⟩
  have r5 := c20 (n := n) (tot := tot) (ω := ω) (h := h5) ks l2 kv lv rk q1 hps hp2 q2.symm (by omega) (by omega)
  have wf := w_p9f (n := n) (tot := tot) (ω := ω) (h := h5) ks kv rk hwr hg hps20 (by omega) hn
  generalize packLs (ks.map Lf.pp) = P at *
  unfold p9a
  simp (maxSteps := 2000000) (discharger := omega) only [xz,xc,xo,xr,x0,xd,kont_call,Reg.isA,Reg.isV,Reg.stays,Reg.onto,↓reduceIte,Nat.reduceEqDiff,Nat.reduceLT,Nat.reduceAdd,nat_le_t,k16,k21]
  unfold p9b
  simp (maxSteps := 2000000) (discharger := omega) only [xz,xc,xo,xr,x0,x3,kont_call,Reg.isA,Reg.isV,Reg.stays,Reg.onto,↓reduceIte,Nat.reduceEqDiff,Nat.reduceLT,r1,r2]
  unfold p9e
  simp (maxSteps := 2000000) (discharger := omega) only [xz,xc,xo,xr,x0,x1,x2,xd,kont_call,Reg.isA,Reg.isV,Reg.stays,Reg.onto,↓reduceIte,Nat.reduceEqDiff,Nat.reduceLT,beq_self_eq_true,r3,r4,r5,bne_self_eq_false]
  exact wf

theorem w_p9c (l m M : Int) (cs : List AV) (y0 y1 y2 y3 y4 y5 y6 y7 y11 : AV) (hcs : cs = [y0, y1, y2, y3, y4, y5, y6, y7, .int .i64 l, .int .i64 m, .int .i64 M, y11]) (hy : y0.notTup = true) (fs : List Fl) (a : AV) (ha : IsRd 2 (fs.map Fl.av) a) (hfo : ∀ f ∈ fs, f.ok) (hf : Few fs) (hn : 50000000 < n) :
    Wp (kont F n tot ω) n p9c [(1, .val a), (3, .var (.agg cs)), (93, .val (.bool false))] h (Ret [ARes.t 6] fun v _ => v = .bool true) := by
  obtain ⟨h3, k15⟩ := c15 (n := n) (tot := tot) (ω := ω) (h := h) a fs ha hfo hf (by omega)
  have wa := w_p9a (n := n) (tot := tot) (ω := ω) (h := h3) l m M cs y0 y1 y2 y3 y4 y5 y6 y7 y11 hcs hy fs a ha hfo hf
  generalize chk fs = ck at *
  unfold p9c
  by_cases h0 : ck = 0
  · subst h0
    simp (maxSteps := 2000000) (discharger := omega) only [xz,xc,xo,xr,x0,x1,xd,kont_call,Reg.isA,Reg.isV,Reg.stays,Reg.onto,↓reduceIte,Nat.reduceEqDiff,Nat.reduceLT,int_bne_f,k15]
    exact wa rfl hn
  · simp (maxSteps := 2000000) (discharger := omega) only [xz,xc,xo,xr,x0,x1,xd,kont_call,Reg.isA,Reg.isV,Reg.stays,Reg.onto,↓reduceIte,Nat.reduceEqDiff,Nat.reduceLT,exists_eq_left',int_bne_t,k15]

set_option maxHeartbeats 2000000 in
set_option maxRecDepth 100000 in
theorem w_p9d (l m M : Int) (cs : List AV) (y0 y1 y2 y3 y4 y5 y6 y7 y11 : AV) (hcs : cs = [y0, y1, y2, y3, y4, y5, y6, y7, .int .i64 l, .int .i64 m, .int .i64 M, y11]) (hy : y0.notTup = true) (fs : List Fl) (a : AV) (ha : IsRd 2 (fs.map Fl.av) a) (hfo : ∀ f ∈ fs, f.ok) (hf : Few fs)
    (s : By) (v7 v9 v11 v13 : AV) (e1 e2 : Int) (hL : BothL s v7 v9 e1) (hP : BothP s v11 v13 e2) (hn : 50000000 < n) :
    Wp (kont F n tot ω) n p9d [(1, .val a), (2, .val (.str s)), (3, .var (.agg cs)), (7, .val v7), (8, .val (.int .i64 e1)), (9, .val v9), (10, .val (.int .i64 e1)), (11, .val v11), (12, .val (.int .i64 e2)), (13, .val v13), (14, .val (.int .i64 e2))] h (Ret [ARes.t 6] fun v _ => v = .bool true) := by
  obtain ⟨l1, l2, q1, q2, q3, q4, q5, q6, q7⟩ := hL.ex
  obtain ⟨ps, p1, p2, p3, p4, p5⟩ := hP.ex
  have hl2 : l1.length = l2.length := by have := congrArg List.length q3; simpa using this
  have r1 := fun h => c20 (n := n) (tot := tot) (ω := ω) (h := h) l1 l2 v7 v9 q1 q2 q4 q5 q3 (by omega) (by omega)
  have r2 := fun h => c24 (n := n) (tot := tot) (ω := ω) (h := h) ps ps v11 v13 p1 p2 p3 p3 (by omega) (by omega) (by omega)
  rw [decide_eq_true rfl] at r2
  have wc := fun h => w_p9c (n := n) (tot := tot) (ω := ω) (h := h) l m M cs y0 y1 y2 y3 y4 y5 y6 y7 y11 hcs hy fs a ha hfo hf hn
  unfold p9d
  by_cases h1 : e1 = 0
  · obtain ⟨a1, a2⟩ := q7 h1
    obtain ⟨h2, r3⟩ := c39 (n := n) (tot := tot) (ω := ω) (h := h) v7 l1 q1 a2 (by omega) (by omega)
    rw [a1] at r3
    by_cases h3 : e2 = 0
    · obtain ⟨b1, b2⟩ := p5 h3
      obtain ⟨h4, r4⟩ := c40 (n := n) (tot := tot) (ω := ω) (h := h2) v11 ps p1 b2 (by omega) (by omega)
      rw [b1] at r4
      subst h1; subst h3
      simp (maxSteps := 2000000) (discharger := omega) only [xz,xc,xo,xr,x0,x1,x2,xd,kont_call,Reg.isA,Reg.isV,Reg.stays,Reg.onto,↓reduceIte,Nat.reduceEqDiff,Nat.reduceLT,beq_self_eq_true,r1,r2,r3,r4,bne_self_eq_false]
      exact wc _
    · subst h1
      simp (maxSteps := 2000000) (discharger := omega) only [xz,xc,xo,xr,x0,x1,x2,xd,xb,kont_call,Reg.isA,Reg.isV,Reg.stays,Reg.onto,↓reduceIte,Nat.reduceEqDiff,Nat.reduceLT,beq_self_eq_true,int_beq_f,r1,r2,r3,bne_self_eq_false]
      exact wc _
  · by_cases h3 : e2 = 0
    · obtain ⟨b1, b2⟩ := p5 h3
      obtain ⟨h4, r4⟩ := c40 (n := n) (tot := tot) (ω := ω) (h := h) v11 ps p1 b2 (by omega) (by omega)
      rw [b1] at r4
      subst h3
      simp (maxSteps := 2000000) (discharger := omega) only [xz,xc,xo,xr,x0,x1,x2,xd,xb,kont_call,Reg.isA,Reg.isV,Reg.stays,Reg.onto,↓reduceIte,Nat.reduceEqDiff,Nat.reduceLT,beq_self_eq_true,int_beq_f,r1,r2,r4,bne_self_eq_false]
      exact wc _
    · simp (maxSteps := 2000000) (discharger := omega) only [xz,xc,xo,xr,x0,x1,x2,xd,xb,kont_call,Reg.isA,Reg.isV,Reg.stays,Reg.onto,↓reduceIte,Nat.reduceEqDiff,Nat.reduceLT,beq_self_eq_true,int_beq_f,r1,r2,bne_self_eq_false]
      exact wc _

theorem law_packs (y0 y1 y2 y3 y4 y5 y6 y7 y11 : AV) (l m M : Int) (hy : y0.notTup = true) (a : AV) (fs : List Fl) (s : By) (ω : Nat → Nat) (ha : IsRd 2 (fs.map Fl.av) a) (hfo : ∀ f ∈ fs, f.ok) :
    ∃ h', call F 50000002 true ω 9 [.agg [y0, y1, y2, y3, y4, y5, y6, y7, .int .i64 l, .int .i64 m, .int .i64 M, y11], a, .str s] [] = some (.bool true, h') := by
  suffices hx : ∃ v2 h', call F 50000002 true ω 9 [.agg [y0, y1, y2, y3, y4, y5, y6, y7, .int .i64 l, .int .i64 m, .int .i64 M, y11], a, .str s] [] = some (v2, h') ∧ v2 = .bool true by
    obtain ⟨v2, h', e1, rfl⟩ := hx
    exact ⟨h', e1⟩
  refine call_of (fn := a9) f9 (P := fun v2 h' => v2 = .bool true) ?_
  obtain ⟨n, hN⟩ : ∃ n, n = 50000001 := ⟨_, rfl⟩
  rw [← hN]
  have k10 := fun h => c10 (n := n) (tot := true) (ω := ω) (h := h) (by omega)
  obtain ⟨b1, k11, hb1⟩ := c11 (n := n) (tot := true) (ω := ω) (h := []) a fs ha hfo (by omega)
  unfold a9
  cases b1 with
  | false => simp (maxSteps := 2000000) (discharger := omega) only [xz,xc,xo,xr,x0,x2,xd,xb,kont_call,Reg.isA,Reg.isV,Reg.stays,Reg.onto,↓reduceIte,reduceCtorEq,Nat.reduceEqDiff,Nat.reduceLT,Nat.reduceAdd,beq_self_eq_true,exists_eq_left',k10,k11]
  | true =>
    have hf := hb1 rfl
    by_cases hs : ((s.length : Nat) : Int) > 30000
    · simp (maxSteps := 2000000) (discharger := omega) only [xz,xc,xo,xr,x0,x1,x2,x4,xd,kont_call,Reg.isA,Reg.isV,Reg.stays,Reg.onto,↓reduceIte,reduceCtorEq,Nat.reduceEqDiff,Nat.reduceLT,Nat.reduceAdd,beq_self_eq_true,exists_eq_left',int_lt_t,k10,k11]
    · obtain ⟨u1, h1, r1, p1⟩ := c35 (n := n) (tot := true) (ω := ω) s [] (by omega) (by omega)
      obtain ⟨u2, h2, r2, p2⟩ := c36 (n := n) (tot := true) (ω := ω) (h := h1) s (by omega) (by omega)
      obtain ⟨u3, h3, r3, p3⟩ := c37 (n := n) (tot := true) (ω := ω) s h2 (by omega) (by omega)
      obtain ⟨u4, h4, r4, p4⟩ := c38 (n := n) (tot := true) (ω := ω) (h := h3) s (by omega) (by omega)
      obtain ⟨v7, v9, e1, rfl, rfl, hL⟩ := bothL (by omega) p1 p2
      obtain ⟨v11, v13, e2, rfl, rfl, hP⟩ := bothP (by omega) p3 p4
      have wd := w_p9d (n := n) (tot := true) (ω := ω) (h := h4) l m M _ y0 y1 y2 y3 y4 y5 y6 y7 y11 rfl hy fs a ha hfo hf s v7 v9 v11 v13 e1 e2 hL hP (by omega)
      simp (maxSteps := 2000000) (discharger := omega) only [xz,xc,xo,xr,x0,x1,x2,x3,x4,xd,kont_call,Reg.isA,Reg.isV,Reg.stays,Reg.onto,↓reduceIte,reduceCtorEq,Nat.reduceEqDiff,Nat.reduceLT,Nat.reduceAdd,beq_self_eq_true,int_lt_f,k10,k11,r1,r2,r3,r4]
      exact wd
end
end Go.Proofs.YtpgmohjmpaifbaaDoor.Im

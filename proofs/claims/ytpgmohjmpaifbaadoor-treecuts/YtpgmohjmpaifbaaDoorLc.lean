/- Joined: S21Bo, S21Be, S21Bu, S21St, S21Sm, S21Ss, S21Fi, S21Pa, S21Pe, S21Ck, S21Bv, S21Lc. -/
import Derived.Test.YtpgmohjmpaifbaaDoorDf
import Derived.Test.YtpgmohjmpaifbaaDoorRs
import Derived.Test.YtpgmohjmpaifbaaDoorImSort2
import Derived.Test.YtpgmohjmpaifbaaDoorImRow
import Derived.Test.YtpgmohjmpaifbaaDoorImStab
import Derived.Test.YtpgmohjmpaifbaaDoorCa
import Derived.Test.YtpgmohjmpaifbaaDoorImRng
import Derived.KernelRfl
/- S21Bo: plain facts: chunks each once; files in their order. -/
set_option linter.unusedVariables false
set_option linter.unusedSimpArgs false
open Go Go.Im
namespace Go.Proofs.YtpgmohjmpaifbaaDoor.Im

theorem addU_key (q : Ky) (P : List By) (p : By) : q ∈ (addU P p).map keyOf ↔ q ∈ P.map keyOf ∨ q = keyOf p := by
  unfold addU
  split
  · rename_i h
    constructor
    · exact fun h1 => .inl h1
    · rintro (h1 | h1)
      · exact h1
      · rw [h1]; exact h
  · rw [List.map_append, List.mem_append]
    simp
theorem uniq_key (q : Ky) : ∀ (l P : List By), q ∈ (uniq P l).map keyOf ↔ q ∈ P.map keyOf ∨ q ∈ l.map keyOf
  | [], P => by simp [uniq]
  | p :: l, P => by
    show q ∈ (uniq (addU P p) l).map keyOf ↔ _
    rw [uniq_key q l, addU_key, List.map_cons, List.mem_cons]
    constructor
    · rintro ((h | h) | h)
      · exact .inl h
      · exact .inr (.inl h)
      · exact .inr (.inr h)
    · rintro (h | h | h)
      · exact .inl (.inl h)
      · exact .inl (.inr h)
      · exact .inr h
theorem uniq_mem (q : By) : ∀ (l P : List By), q ∈ uniq P l → q ∈ P ∨ q ∈ l
  | [], P, h => .inl h
  | p :: l, P, h => by
    have h : q ∈ uniq (addU P p) l := h
    rcases uniq_mem q l _ h with h | h
    · unfold addU at h
      split at h
      · exact .inl h
      · rcases List.mem_append.1 h with h | h
        · exact .inl h
        · rw [List.mem_singleton] at h; exact .inr (by simp [h])
    · exact .inr (by simp [h])
theorem addU_nd {P : List By} (p : By) (h : (P.map keyOf).Nodup) : ((addU P p).map keyOf).Nodup := by
  unfold addU
  split
  · exact h
  · rename_i hn
    rw [List.map_append]
    refine List.nodup_append.2 ⟨h, by simp, fun a ha b hb e => ?_⟩
    simp at hb
    rw [e, hb] at ha
    exact hn ha
theorem uniq_nd : ∀ (l P : List By), (P.map keyOf).Nodup → ((uniq P l).map keyOf).Nodup
  | [], P, h => h
  | p :: l, P, h => uniq_nd l _ (addU_nd p h)

def Fl.pd (f : Fl) : By × By := (f.p, f.d)
end Go.Proofs.YtpgmohjmpaifbaaDoor.Im

/- S21Be: the reference's tree of files, told in full. -/
set_option linter.unusedVariables false
set_option linter.unusedSimpArgs false
open Go Go.Im
namespace Go.Proofs.YtpgmohjmpaifbaaDoor.Im
def Lf.pp (x : Lf) : By × List Pt := (x.p, x.ps)
def Fl.pp (l m M : Int) (f : Fl) : By × List Pt := (f.p, partsR l m M f.d)
section
variable {n : Nat} {tot : Bool} {ω : Nat → Nat} {h : Hp}

end
end Go.Proofs.YtpgmohjmpaifbaaDoor.Im

/- S21Bu: conf, copied, the reference's Same. -/
set_option linter.unusedVariables false
set_option linter.unusedSimpArgs false
open Go Go.Im
namespace Go.Proofs.YtpgmohjmpaifbaaDoor.Im
section
variable {n : Nat} {tot : Bool} {ω : Nat → Nat} {h : Hp}

theorem cf_of (y0 y1 y2 y3 y4 y5 y6 y7 y11 : AV) (l m M : Int) : Cf (.agg [y0, y1, y2, y3, y4, y5, y6, y7, .int .i64 l, .int .i64 m, .int .i64 M, y11]) l m M := ⟨_, rfl, rfl, rfl, rfl, rfl⟩
theorem c16e (y0 y1 y2 y3 y4 y5 y6 y7 y11 : AV) (l m M : Int) (hy : y0.notTup = true) (hn : 0 < n) :
    ∃ y l' m' M', call F n tot ω 16 [.agg [y0, y1, y2, y3, y4, y5, y6, y7, .int .i64 l, .int .i64 m, .int .i64 M, y11]] h = some (.agg [y0, y1, y2, y3, y4, y5, y6, y7, .int .i64 l', .int .i64 m', .int .i64 M', y], h) ∧ okConf l' m' M' := by
  obtain ⟨n, rfl⟩ : ∃ m, n = m + 1 := ⟨n - 1, by omega⟩
  obtain ⟨a1, a2⟩ := wrap64_tmod l 64 (by decide)
  obtain ⟨b1, b2⟩ := wrap64_tmod m 256 (by decide)
  obtain ⟨d1, d2⟩ := wrap64_tmod M 512 (by decide)
  obtain ⟨tl, htl⟩ : ∃ tl, (IntKind.u64.wrap l).tmod 64 = tl := ⟨_, rfl⟩
  obtain ⟨tm, htm⟩ : ∃ tm, (IntKind.u64.wrap m).tmod 256 = tm := ⟨_, rfl⟩
  obtain ⟨tM, htM⟩ : ∃ tM, (IntKind.u64.wrap M).tmod 512 = tM := ⟨_, rfl⟩
  rw [htl] at a1 a2
  rw [htm] at b1 b2
  rw [htM] at d1 d2
  suffices hx : ∃ u h', call F (n + 1) tot ω 16 [.agg [y0, y1, y2, y3, y4, y5, y6, y7, .int .i64 l, .int .i64 m, .int .i64 M, y11]] h = some (u, h') ∧ h' = h ∧ u = .agg [y0, y1, y2, y3, y4, y5, y6, y7, .int .i64 (1 + tl), .int .i64 (1 + tm), .int .i64 (1 + tl + tM), y11] by
    obtain ⟨u, h', e1, rfl, rfl⟩ := hx
    exact ⟨_, _, _, _, e1, by unfold okConf; omega⟩
  refine call_of (fn := a16) f16 (P := fun u h' => h' = h ∧ u = .agg [y0, y1, y2, y3, y4, y5, y6, y7, .int .i64 (1 + tl), .int .i64 (1 + tm), .int .i64 (1 + tl + tM), y11]) ?_
  unfold a16
  simp (maxSteps := 2000000) (discharger := omega) only [xz,xc,xo,xr,x0,x1,x2,x5,xd,wr,Reg.isA,Reg.isV,Reg.stays,Reg.onto,↓reduceIte,reduceCtorEq,Nat.reduceEqDiff,Nat.reduceLT,Nat.reduceAdd,exists_eq_left',Nat.reduceBEq,xu,List.set_cons_zero,List.set_cons_succ,wrap_i64,int_eq_f,nat_le_t,htl,htm,htM]

theorem copy_ok (d : By) (v : AV) (hv : IsRd 1 (bytesOf d) v) (hd : d.length ≤ 1000000) (g : Hp) :
    ∃ v' g', appendV false 1 1 (.imm 1 [] .full) (bytesOf d) g = some (v', g') ∧ IsRd 1 (bytesOf d) v' ∧ (∃ m, g' = g ++ m) ∧ v'.isRow = false := by
  by_cases h0 : bytesOf d = []
  · rw [h0]; exact ⟨.imm 1 [] .full, g, by simp [appendV], .inr ⟨_, rfl⟩, ⟨[], by simp⟩, rfl⟩
  · refine ⟨.imm 1 (bytesOf d) (.tok g.length (bytesOf d).length), g ++ [.tail 1 (bytesOf d).length], ?_, .inr ⟨_, rfl⟩, ⟨_, rfl⟩, rfl⟩
    simp only [appendV,if_neg h0,Im.newRow,Bool.false_eq_true,if_false,List.nil_append,List.length_nil,Nat.zero_add,Nat.mul_one,bytesOf_len]
    rw [if_pos ⟨trivial, by omega⟩]

end
end Go.Proofs.YtpgmohjmpaifbaaDoor.Im

/- S21St: slices.SortStableFunc: parts that change places, rotations. -/
set_option linter.unusedVariables false
set_option linter.unusedSimpArgs false
set_option linter.unusedSectionVars false
open Go Go.Im Go.Sort
namespace Go.Proofs.YtpgmohjmpaifbaaDoor.Im

structure Cm {α : Type} [Inhabited α] (e : α → AV) (lt : α → α → Bool) (tot : Bool) (ω : Nat → Nat) (B : Nat) (g : FuncId) (fs caps : List AV) (h0 : Hp) (id : Nat) (pre post : List AV) : Prop where
  enc : EncOk true 2 e
  cmp : ∀ n, B < n → ∀ (x y : α) (d : Array α) (h : Hp), Lies h0 id 2 (Full e pre post d) h →
    ∃ (r : Int) (h' : Hp), call F n tot ω g (fs ++ [e x, e y] ++ caps) h = some (.int .i64 r, h') ∧ More h h' ∧ decide (r < 0) = lt x y

section
variable {α : Type} [Inhabited α] {e : α → AV} {lt : α → α → Bool} {tot : Bool} {ω : Nat → Nat} {B : Nat} {g : FuncId} {fs caps : List AV} {h0 : Hp} {id : Nat} {pre post : List AV}

end
end Go.Proofs.YtpgmohjmpaifbaaDoor.Im

/- S21Sm: slices.SortStableFunc: merging in place. -/
set_option linter.unusedVariables false
set_option linter.unusedSimpArgs false
set_option linter.unusedSectionVars false
open Go Go.Im Go.Sort
namespace Go.Proofs.YtpgmohjmpaifbaaDoor.Im
section
variable {α : Type} [Inhabited α] {e : α → AV} {lt : α → α → Bool} {tot : Bool} {ω : Nat → Nat} {B : Nat} {g : FuncId} {fs caps : List AV} {h0 : Hp} {id : Nat} {pre post : List AV}

def Mgd (e : α → AV) (lt : α → α → Bool) (h0 : Hp) (id : Nat) (pre post : List AV) (a b : Nat) (d : Array α) (h' : Hp) : Prop :=
  ∃ d', Lies h0 id 2 (Full e pre post d') h' ∧ PermIn a b d d' ∧ SortedIn lt a b d'

def Ih (e : α → AV) (lt : α → α → Bool) (tot : Bool) (ω : Nat → Nat) (g : FuncId) (fs caps : List AV) (h0 : Hp) (id : Nat) (pre post : List AV) (c : Bool) (N n L : Nat) : Prop :=
  ∀ (a m b : Nat) (d : Array α) (h : Hp), b - a < L → a < m → m < b → b ≤ d.size → d.size = N → Lies h0 id 2 (Full e pre post d) h → SortedIn lt a m d → SortedIn lt m b d →
    ∃ h' d', call F n tot ω 112 [.row id 2 pre.length N c, .int .i64 a, .int .i64 m, .int .i64 b, .fn (.func g) fs caps] h = some (.tup [], h') ∧ Lies h0 id 2 (Full e pre post d') h' ∧ PermIn a b d d' ∧ SortedIn lt a b d'

end
end Go.Proofs.YtpgmohjmpaifbaaDoor.Im

/- S21Ss: slices.SortStableFunc: a row is sorted. -/
set_option linter.unusedVariables false
set_option linter.unusedSimpArgs false
set_option linter.unusedSectionVars false
open Go Go.Im Go.Sort
namespace Go.Proofs.YtpgmohjmpaifbaaDoor.Im
section
variable {α : Type} [Inhabited α] {e : α → AV} {lt : α → α → Bool} {tot : Bool} {ω : Nat → Nat} {B : Nat} {g : FuncId} {fs caps : List AV} {h0 : Hp} {id : Nat} {pre post : List AV}

def Blk (lt : α → α → Bool) (s N : Nat) (d : Array α) : Prop := ∀ i, SortedIn lt (i * s) (min (i * s + s) N) d

end
end Go.Proofs.YtpgmohjmpaifbaaDoor.Im

/- S21Fi: files; files by their paths. -/
set_option linter.unusedVariables false
set_option linter.unusedSimpArgs false
open Go Go.Im Go.Sort
namespace Go.Proofs.YtpgmohjmpaifbaaDoor.Im

section
variable {n : Nat} {tot : Bool} {ω : Nat → Nat} {h : Hp}
end
end Go.Proofs.YtpgmohjmpaifbaaDoor.Im

/- S21Pa: tree.Path: which texts are paths. -/
set_option linter.unusedVariables false
set_option linter.unusedSimpArgs false
open Go Go.Im
namespace Go.Proofs.YtpgmohjmpaifbaaDoor.Im

/-! ### the place of a slash -/
section
variable {n : Nat} {tot : Bool} {ω : Nat → Nat} {h : Hp}
/-! ### the split -/
def hdP : AC := .region [] [⟨some 3, .mov (.t 11), none⟩] [2, 3]
def bdP : AC := .block 1 w12b
def RP (s : By) (L : Nat) : Regs := [(0, .val (.str s)), (2, .val (.ptr L 1 0 0)), (10, .val (.fn (.func 99) [] [.ptr (L + 2) 1 0 0, .ptr (L + 1) 1 0 0, .ptr (L + 3) 1 0 0]))]
def HP (h : Hp) (s q : By) (st : Nat) (pd : Option AE) : Hp := h ++ [.row 1 [.bool false], .row 1 [.str q], .row 1 [.str [47]], .row 1 [.int .i64 0], .loop (RP s h.length) [11] hdP bdP st pd]

end
end Go.Proofs.YtpgmohjmpaifbaaDoor.Im

/- S21Pe: tree.paths. -/
set_option linter.unusedVariables false
set_option linter.unusedSimpArgs false
open Go Go.Im
namespace Go.Proofs.YtpgmohjmpaifbaaDoor.Im
section
variable {n : Nat} {tot : Bool} {ω : Nat → Nat} {h : Hp}

end
end Go.Proofs.YtpgmohjmpaifbaaDoor.Im

/- S21Ck: tree.Check. -/
set_option linter.unusedVariables false
set_option linter.unusedSimpArgs false
open Go Go.Im Go.Sort
namespace Go.Proofs.YtpgmohjmpaifbaaDoor.Im
section
variable {n : Nat} {tot : Bool} {ω : Nat → Nat} {h : Hp}

end
end Go.Proofs.YtpgmohjmpaifbaaDoor.Im

/- S21Bv: tree.Build. -/
set_option linter.unusedVariables false
set_option linter.unusedSimpArgs false
open Go Go.Im
namespace Go.Proofs.YtpgmohjmpaifbaaDoor.Im

def pcsOf (l m M : Int) (gs : List Fl) : List By := gs.flatMap fun f => pcs (cutR l m M f.d) f.d
section
variable {n : Nat} {tot : Bool} {ω : Nat → Nat} {h : Hp}

structure BuiltE (l m M : Int) (fs : List Fl) (av pv : AV) : Prop where
  ex : ∃ (gs : List Fl) (ls : List Lf) (pes : List AV), gs.Perm fs ∧ SrtF gs ∧ IsRd 2 (ls.map Lf.av) av ∧ ls.map Lf.pp = gs.map (Fl.pp l m M) ∧ (∀ x ∈ ls, x.ok) ∧ CE (uniq [] (pcsOf l m M gs)) pes ∧ IsRd 33 pes pv

end
end Go.Proofs.YtpgmohjmpaifbaaDoor.Im

/- S21Lc: the law TreeCuts. -/
set_option linter.unusedVariables false
set_option linter.unusedSimpArgs false
open Go Go.Im
namespace Go.Proofs.YtpgmohjmpaifbaaDoor.Im
section
variable {n : Nat} {tot : Bool} {ω : Nat → Nat} {h : Hp}

theorem pieces_k {l m M : Int} {s : By} {p : By} (h : p ∈ pcs (cutR l m M s) s) : keyOf p ∈ (uniq [] (pcs (cutR l m M s) s)).map keyOf :=
  (uniq_key _ _ _).2 (.inr (List.mem_map.2 ⟨p, h, rfl⟩))

theorem w_u5b (l m M : Int) (cs : List AV) (d : By) (dv av pv ev : AV) (hc : Cf (.agg cs) l m M) (hdv : IsRd 1 (bytesOf d) dv) (hd : d.length ≤ 30000) (hn : 50000000 < n)
    (hk : okConf l m M → ∃ pes, IsRd 33 ((partsR l m M d).map Pt.av) av ∧ CE (uniq [] (pcs (cutR l m M d) d)) pes ∧ IsRd 33 pes pv ∧ ev = .int .i64 0) (hno : ¬ okConf l m M → av = .nils ∧ pv = .nils ∧ ev = .int .i64 1) :
    Wp (kont F n tot ω) n u5b [(1, .val dv), (3, .var (.agg cs)), (7, .val av), (8, .val pv), (9, .val ev)] h (Ret [ARes.t 6] fun v h' => v = .bool true) := by
  have hc' := hc
  obtain ⟨cs', hcs, hl, h8, h9, h10⟩ := hc.agg
  cases hcs
  have t12 : List.take 12 cs = cs := List.take_of_length_le (by omega)
  have k19 := fun h => c19 (n := n) (tot := tot) (ω := ω) (h := h) (.agg cs) l m M hc (by omega)
  by_cases hok : okConf l m M
  · obtain ⟨pes, ha, hCE, hp, rfl⟩ := hk hok
    rw [decide_eq_true hok] at k19
    have lp := hp.len
    rw [hCE.len] at lp
    have hnd := uniq_nd (pcs (cutR l m M d) d) [] (by simp)
    have hul := uniq_len (pcs (cutR l m M d) d) []
    have hpl := pcs_len (cutR l m M d) d
    obtain ⟨r1, r2, r3⟩ := cutR_sum l m M d
    have hk1 := fun p (hp : p ∈ pcs (cutR l m M d) d) => pieces_k hp
    have hmm := fun q => uniq_mem q (pcs (cutR l m M d) d) []
    rw [List.length_nil] at hul
    generalize uniq [] (pcs (cutR l m M d) d) = P at *
    unfold u5b
    simp (maxSteps := 2000000) (discharger := omega) only [xz,xc,xo,xr,x0,x2,xd,kont_call,Reg.isA,Reg.isV,Reg.stays,Reg.onto,↓reduceIte,Nat.reduceEqDiff,Nat.reduceLT,nat_le_t,hl,t12,k19]
    refine wpi_loop (fun x r g => ∃ (i : Nat), r = [(1, .val dv), (3, .var (.agg cs)), (7, .val av), (8, .val pv), (9, .val (.int .i64 0)), (10, .val (.int .i64 i))] ∧ x = P.length - i ∧ i ≤ P.length) P.length (by omega)
      ⟨0, rfl, rfl, Nat.zero_le _⟩ ?_
    rintro x r g ⟨i, rfl, rfl, hi⟩
    by_cases hlt : i < P.length
    · obtain ⟨ci, qi⟩ := hCE.get hlt
      simp (maxSteps := 2000000) (discharger := omega) only [xz,xc,xo,xr,x0,x1,x4,xd,Reg.isA,Reg.isV,Reg.stays,Reg.onto,↓reduceIte,Nat.reduceEqDiff,Nat.reduceLT,int_lt_t,lp]
      refine wpi_loop (fun x r g => ∃ (k : Nat), r = [(1, .val dv), (3, .var (.agg cs)), (7, .val av), (8, .val pv), (9, .val (.int .i64 0)), (10, .val (.int .i64 i)), (11, .val (.int .i64 k))] ∧ x = i - k ∧ k ≤ i) i (by omega)
        ⟨0, rfl, rfl, Nat.zero_le _⟩ ?_
      rintro x r g ⟨k, rfl, rfl, hk⟩
      by_cases hlk : k < i
      · obtain ⟨ck, qk⟩ := hCE.get (i := k) (by omega)
        obtain ⟨cp, rfl⟩ := hp.imm (i := i) (by rw [hCE.len]; exact hlt)
        have hne : keyOf P[i] ≠ keyOf P[k] := fun e => by
          have := List.pairwise_iff_getElem.1 hnd k i (by simp; omega) (by simpa using hlt) hlk
          simp at this
          exact this e.symm
        have x32 : ∀ q z, List.length (intsOf .u8 (shaR q) ++ [z]) = 33 := fun q z => by simp [io_len',shaR_len]
        simp (maxSteps := 2000000) (discharger := omega) only [xz,xc,xo,xr,x0,x1,x2,xd,xe,eqAV,Bool.bne_false,Reg.isA,Reg.isV,Reg.stays,Reg.onto,↓reduceIte,Nat.reduceEqDiff,Nat.reduceLT,wrap_i64,int_lt_t,int_le_t,nat_le_t,qi,qk,tk32,tk32',shaR_len,eqk,x32,hne]
        exact ⟨i - (k + 1), by omega, k + 1, by rw [show ((k : Nat) : Int) + 1 = ((k + 1 : Nat) : Int) by omega], rfl, by omega⟩
      · obtain rfl : k = i := by omega
        simp (maxSteps := 2000000) (discharger := omega) only [xz,xc,xo,xr,x0,x1,xd,Reg.isA,Reg.isV,Reg.stays,Reg.onto,↓reduceIte,Nat.reduceEqDiff,Nat.reduceLT,wrap_i64,int_lt_f,Nat.sub_self]
        exact ⟨P.length - (k + 1), by omega, k + 1, by rw [show ((k : Nat) : Int) + 1 = ((k + 1 : Nat) : Int) by omega], rfl, by omega⟩
    · obtain rfl : i = P.length := by omega
      obtain ⟨v25, h25, k25, rv25, _⟩ := c25 (n := n) (tot := tot) (ω := ω) (h := g) (.agg cs) l m M d dv hc' hok.2.1 (by have := hok.2.2.1; omega) hdv (by omega) (by omega)
      have k24 := c24 (n := n) (tot := tot) (ω := ω) (h := h25) (partsR l m M d) (partsR l m M d) av v25 ha rv25 (partsL_ok _ _ _) (partsL_ok _ _ _) (by have := partsR_len l m M d; omega) (by have := partsR_len l m M d; omega) (by have := partsR_len l m M d; omega)
      rw [decide_eq_true rfl] at k24
      have hfok : (⟨[], d, dv⟩ : Fl).ok := hdv
      obtain ⟨b, h26, k26, hb⟩ := c26 (n := n) (tot := tot) (ω := ω) (h := h25) (.agg cs) l m M [⟨[], d, dv⟩] (.imm 2 [.agg [.str [], dv]] .full) hc' hok (.inr ⟨_, rfl⟩) (fun f hf => by rw [List.mem_singleton] at hf; subst hf; exact hdv) ⟨by simp, fun f hf => by rw [List.mem_singleton] at hf; subst hf; exact hd, fun f hf => by rw [List.mem_singleton] at hf; subst hf; simp⟩ (by omega)
      have n1 := rd_nt hdv
      have n2 := rd_cells hdv
      cases b with
      | true =>
        simp (maxSteps := 2000000) (discharger := omega) only [xz,xc,xo,xr,x0,x1,x3,x4,xd,xb,kont_call,place,partVals,partEs,placeEs,Reg.isA,Reg.isV,Reg.stays,Reg.onto,↓reduceIte,Nat.reduceEqDiff,Nat.reduceLT,Nat.reduceAdd,Nat.zero_lt_succ,beq_self_eq_true,exists_eq_left',List.set_cons_zero,int_lt_f,nat_le_t,Nat.sub_self,hl,t12,lp,k25,k24,List.replicate,n1,n2,k26]
      | false =>
        have hN := hb rfl
        have k27 := c27 (n := n) (tot := tot) (ω := ω) (h := h26) (cutR l m M d) d P pes av pv dv (by rw [partsR_pcs, List.map_map] at ha; exact ha) hCE hp hdv r1 r2 (by omega) (by omega) (by omega) hk1 (fun p hp q hq e => by
          have hq' := hmm q hq
          simp at hq'
          have e1 : ∀ z, z ∈ pcs (cutR l m M d) d → z ∈ allP l m M [⟨[], d, dv⟩] := fun z hz => by unfold allP; simpa using hz
          exact hN q (e1 q hq') p (e1 p hp) e) (by omega)
        simp (maxSteps := 2000000) (discharger := omega) only [xz,xc,xo,xr,x0,x1,x3,x4,xd,kont_call,place,partVals,partEs,placeEs,Reg.isA,Reg.isV,Reg.stays,Reg.onto,↓reduceIte,Nat.reduceEqDiff,Nat.reduceLT,Nat.reduceAdd,Nat.zero_lt_succ,beq_self_eq_true,exists_eq_left',List.set_cons_zero,int_lt_f,nat_le_t,Nat.sub_self,hl,t12,lp,k25,k24,List.replicate,n1,n2,k26,k27]
  · obtain ⟨rfl, rfl, rfl⟩ := hno hok
    rw [decide_eq_false hok] at k19
    unfold u5b
    simp (maxSteps := 2000000) (discharger := omega) only [xz,xc,xo,xr,x0,x1,x2,x4,xd,kont_call,Reg.isA,Reg.isV,Reg.stays,Reg.onto,↓reduceIte,Nat.reduceEqDiff,Nat.reduceLT,Int.cast_ofNat_Int,beq_self_eq_true,exists_eq_left',Int.reduceAdd,wrap_i64,nat_le_t,hl,t12,k19]

theorem w_u5a (l m M : Int) (cs : List AV) (d : By) (dv : AV) (hc : Cf (.agg cs) l m M) (hdv : IsRd 1 (bytesOf d) dv) (hd : d.length ≤ 30000) (hn : 50000000 < n) (r : Regs) (hr : r = [(1, .val dv), (3, .var (.agg cs))] ∨ r = [(1, .val dv), (3, .var (.agg cs)), (21, .val (.bool false))]) :
    Wp (kont F n tot ω) n u5a r h (Ret [ARes.t 6] fun v h' => v = .bool true) := by
  have hc' := hc
  obtain ⟨cs', hcs, hl, h8, h9, h10⟩ := hc.agg
  cases hcs
  have t12 : List.take 12 cs = cs := List.take_of_length_le (by omega)
  obtain ⟨cv, g1, w1, w2, _, w4⟩ := copy_ok d dv hdv (by omega) h
  have hv : dv = .nils ∨ ∃ c, dv = .imm 1 (bytesOf d) c := by
    rcases hdv with ⟨e, _⟩ | ⟨c, e⟩
    · exact .inl e
    · exact .inr ⟨c, e⟩
  have hel := fun g => rd_el hdv g
  by_cases hok : okConf l m M
  · obtain ⟨av, pv, pes, g2, k23, ha, hCE, hp⟩ := c23y (n := n) (tot := tot) (ω := ω) (h := g1) (.agg cs) l m M d cv hc' hok w2 (by omega) (by omega)
    have hw := w_u5b (n := n) (tot := tot) (ω := ω) (h := g2) l m M cs d dv av pv (.int .i64 0) hc' hdv hd hn (fun _ => ⟨pes, ha, hCE, hp, rfl⟩) (fun e => absurd hok e)
    unfold u5a
    rcases hv with hv | ⟨c, hv⟩ <;> subst hv <;> rcases hr with rfl | rfl
    all_goals
      simp (maxSteps := 2000000) (discharger := omega) only [xz,xc,xo,xr,x0,x3,x5,xd,xb,kont_call,selems,srcElems,partEs,placeEs,Reg.isA,Reg.isV,Reg.stays,Reg.onto,↓reduceIte,Nat.reduceEqDiff,Nat.reduceLT,nat_le_t,hl,t12,hel,List.replicate,w1,k23]
      exact hw
  · have k23 := c23n (n := n) (tot := tot) (ω := ω) (h := g1) (.agg cs) l m M cv hc' hok (by omega)
    have hw := w_u5b (n := n) (tot := tot) (ω := ω) (h := g1) l m M cs d dv .nils .nils (.int .i64 1) hc' hdv hd hn (fun e => absurd e hok) (fun _ => ⟨rfl, rfl, rfl⟩)
    unfold u5a
    rcases hv with hv | ⟨c, hv⟩ <;> subst hv <;> rcases hr with rfl | rfl
    all_goals
      simp (maxSteps := 2000000) (discharger := omega) only [xz,xc,xo,xr,x0,x3,x5,xd,xb,kont_call,selems,srcElems,partEs,placeEs,Reg.isA,Reg.isV,Reg.stays,Reg.onto,↓reduceIte,Nat.reduceEqDiff,Nat.reduceLT,nat_le_t,hl,t12,hel,List.replicate,w1,k23]
      exact hw
end

theorem law_cuts (y0 y1 y2 y3 y4 y5 y6 y7 y11 : AV) (l m M : Int) (hy : y0.notTup = true) (d : By) (dv : AV) (raw : Bool) (ω : Nat → Nat) (hdv : IsRd 1 (bytesOf d) dv) :
    ∃ h', call F 50000002 true ω 5 [.agg [y0, y1, y2, y3, y4, y5, y6, y7, .int .i64 l, .int .i64 m, .int .i64 M, y11], dv, .bool raw] [] = some (.bool true, h') := by
  suffices hx : ∃ v2 h', call F 50000002 true ω 5 [.agg [y0, y1, y2, y3, y4, y5, y6, y7, .int .i64 l, .int .i64 m, .int .i64 M, y11], dv, .bool raw] [] = some (v2, h') ∧ v2 = .bool true by
    obtain ⟨v2, h', e1, rfl⟩ := hx
    exact ⟨h', e1⟩
  refine call_of (fn := a5) f5 (P := fun v2 h' => v2 = .bool true) ?_
  obtain ⟨n, hN⟩ : ∃ n, n = 50000001 := ⟨_, rfl⟩
  rw [← hN]
  have k10 := fun h => c10 (n := n) (tot := true) (ω := ω) (h := h) (by omega)
  have ld := IsRd.len hdv
  rw [bytesOf_len] at ld
  unfold a5
  by_cases hb : ((d.length : Nat) : Int) > 30000
  · simp (maxSteps := 2000000) (discharger := omega) only [xz,xc,xo,xr,x0,x1,x2,x4,xd,kont_call,Reg.isA,Reg.isV,Reg.stays,Reg.onto,↓reduceIte,reduceCtorEq,Nat.reduceEqDiff,Nat.reduceLT,Nat.reduceAdd,beq_self_eq_true,exists_eq_left',int_lt_t,k10,ld]
  · cases raw with
    | true =>
      simp (maxSteps := 2000000) (discharger := omega) only [xz,xc,xo,xr,x0,x1,x2,x4,xd,kont_call,Reg.isA,Reg.isV,Reg.stays,Reg.onto,↓reduceIte,reduceCtorEq,Nat.reduceEqDiff,Nat.reduceLT,Nat.reduceAdd,beq_self_eq_true,int_lt_f,k10,ld]
      exact w_u5a (n := n) (tot := true) (ω := ω) (h := []) l m M _ d dv (cf_of _ _ _ _ _ _ _ _ _ _ _ _) hdv (by omega) (by omega) _ (.inr rfl)
    | false =>
      obtain ⟨y, l', m', M', k16, hok⟩ := c16e (n := n) (tot := true) (ω := ω) (h := []) y0 y1 y2 y3 y4 y5 y6 y7 y11 l m M hy (by omega)
      simp (maxSteps := 2000000) (discharger := omega) only [xz,xc,xo,xr,x0,x1,x2,x4,x5,xd,kont_call,wr,Reg.isA,Reg.isV,Reg.stays,Reg.onto,↓reduceIte,reduceCtorEq,Nat.reduceEqDiff,Nat.reduceLT,Nat.reduceAdd,beq_self_eq_true,xu,int_lt_f,nat_le_t,k10,ld,k16]
      exact w_u5a (n := n) (tot := true) (ω := ω) (h := []) l' m' M' _ d dv (cf_of _ _ _ _ _ _ _ _ _ _ _ _) hdv (by omega) (by omega) _ (.inl rfl)
end Go.Proofs.YtpgmohjmpaifbaaDoor.Im

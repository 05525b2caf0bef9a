/- Joined: S21Ct, S21Ca, S21Cx, S21Dp. -/
import Derived.Test.YtpgmohjmpaifbaaDoorEq
import Derived.Test.YtpgmohjmpaifbaaDoorBd
import Derived.Test.YtpgmohjmpaifbaaDoorImMapT
/- S21Ct: tree.cut. -/
set_option linter.unusedVariables false
set_option linter.unusedSimpArgs false
open Go Go.Im
namespace Go.Proofs.YtpgmohjmpaifbaaDoor.Im

def hdC : AC := (.region [] [⟨some 12,AOp.mov (AX.t 18),none⟩] [6,7,10,12])
def bdC : AC := (.block 1 (.seq (.region [] [⟨some 19,AOp.mov (AX.t 12),none⟩,⟨some 20,AOp.bytesToStr (AX.t 19),none⟩,⟨some 21,AOp.litS false 1 (AV.str []) 1 [(0,AX.t 20)],none⟩,⟨some 22,AOp.call 22 [AX.t 21],none⟩,⟨some 13,AOp.allocL (AV.agg [AV.int (IntKind.u8) 0,AV.int (IntKind.u8) 0,AV.int (IntKind.u8) 0,AV.int (IntKind.u8) 0,AV.int (IntKind.u8) 0,AV.int (IntKind.u8) 0,AV.int (IntKind.u8) 0,AV.int (IntKind.u8) 0,AV.int (IntKind.u8) 0,AV.int (IntKind.u8) 0,AV.int (IntKind.u8) 0,AV.int (IntKind.u8) 0,AV.int (IntKind.u8) 0,AV.int (IntKind.u8) 0,AV.int (IntKind.u8) 0,AV.int (IntKind.u8) 0,AV.int (IntKind.u8) 0,AV.int (IntKind.u8) 0,AV.int (IntKind.u8) 0,AV.int (IntKind.u8) 0,AV.int (IntKind.u8) 0,AV.int (IntKind.u8) 0,AV.int (IntKind.u8) 0,AV.int (IntKind.u8) 0,AV.int (IntKind.u8) 0,AV.int (IntKind.u8) 0,AV.int (IntKind.u8) 0,AV.int (IntKind.u8) 0,AV.int (IntKind.u8) 0,AV.int (IntKind.u8) 0,AV.int (IntKind.u8) 0,AV.int (IntKind.u8) 0]),none⟩,⟨none,AOp.store 32 (AX.t 13) (AX.t 22),none⟩] [6,7,10,12,13]) (.seq (.region [] [⟨some 23,AOp.load false 1 (AX.t 10),none⟩,⟨some 24,AOp.loadL true 32 (AX.t 13),none⟩,⟨some 25,AOp.mov (AX.t 12),none⟩,⟨some 26,AOp.lenS (AX.t 25),none⟩,⟨some 27,AOp.lit [AV.int (IntKind.u8) 0,AV.int (IntKind.u8) 0,AV.int (IntKind.u8) 0,AV.int (IntKind.u8) 0,AV.int (IntKind.u8) 0,AV.int (IntKind.u8) 0,AV.int (IntKind.u8) 0,AV.int (IntKind.u8) 0,AV.int (IntKind.u8) 0,AV.int (IntKind.u8) 0,AV.int (IntKind.u8) 0,AV.int (IntKind.u8) 0,AV.int (IntKind.u8) 0,AV.int (IntKind.u8) 0,AV.int (IntKind.u8) 0,AV.int (IntKind.u8) 0,AV.int (IntKind.u8) 0,AV.int (IntKind.u8) 0,AV.int (IntKind.u8) 0,AV.int (IntKind.u8) 0,AV.int (IntKind.u8) 0,AV.int (IntKind.u8) 0,AV.int (IntKind.u8) 0,AV.int (IntKind.u8) 0,AV.int (IntKind.u8) 0,AV.int (IntKind.u8) 0,AV.int (IntKind.u8) 0,AV.int (IntKind.u8) 0,AV.int (IntKind.u8) 0,AV.int (IntKind.u8) 0,AV.int (IntKind.u8) 0,AV.int (IntKind.u8) 0,AV.int (IntKind.i64) 0] [(0,32,AX.t 24),(32,1,AX.t 26)],none⟩,⟨some 28,AOp.litS false 33 (AV.agg [AV.int (IntKind.u8) 0,AV.int (IntKind.u8) 0,AV.int (IntKind.u8) 0,AV.int (IntKind.u8) 0,AV.int (IntKind.u8) 0,AV.int (IntKind.u8) 0,AV.int (IntKind.u8) 0,AV.int (IntKind.u8) 0,AV.int (IntKind.u8) 0,AV.int (IntKind.u8) 0,AV.int (IntKind.u8) 0,AV.int (IntKind.u8) 0,AV.int (IntKind.u8) 0,AV.int (IntKind.u8) 0,AV.int (IntKind.u8) 0,AV.int (IntKind.u8) 0,AV.int (IntKind.u8) 0,AV.int (IntKind.u8) 0,AV.int (IntKind.u8) 0,AV.int (IntKind.u8) 0,AV.int (IntKind.u8) 0,AV.int (IntKind.u8) 0,AV.int (IntKind.u8) 0,AV.int (IntKind.u8) 0,AV.int (IntKind.u8) 0,AV.int (IntKind.u8) 0,AV.int (IntKind.u8) 0,AV.int (IntKind.u8) 0,AV.int (IntKind.u8) 0,AV.int (IntKind.u8) 0,AV.int (IntKind.u8) 0,AV.int (IntKind.u8) 0,AV.int (IntKind.i64) 0]) 1 [(0,AX.t 27)],none⟩,⟨some 29,AOp.append true false 33 40 (AX.t 23) (AX.t 28),none⟩,⟨none,AOp.store 1 (AX.t 10) (AX.t 29),none⟩] [6,7,12,13]) (.seq (.region [] [⟨some 30,AOp.load false 1 (AX.t 6),none⟩,⟨some 31,AOp.loadL true 32 (AX.t 13),none⟩,⟨some 32,AOp.lookup true [CK.i,CK.i,CK.i,CK.i,CK.i,CK.i,CK.i,CK.i,CK.i,CK.i,CK.i,CK.i,CK.i,CK.i,CK.i,CK.i,CK.i,CK.i,CK.i,CK.i,CK.i,CK.i,CK.i,CK.i,CK.i,CK.i,CK.i,CK.i,CK.i,CK.i,CK.i,CK.i] (AV.bool false) false (AX.t 30) (AX.t 31),none⟩,⟨some 33,AOp.un (UnOp.not) (AX.t 32),none⟩] [6,7,12,13,33]) (.cond (AX.t 33) (.seq (.region [] [⟨some 34,AOp.load false 1 (AX.t 6),none⟩,⟨some 35,AOp.loadL true 32 (AX.t 13),none⟩,⟨none,AOp.mapUpd true [CK.i,CK.i,CK.i,CK.i,CK.i,CK.i,CK.i,CK.i,CK.i,CK.i,CK.i,CK.i,CK.i,CK.i,CK.i,CK.i,CK.i,CK.i,CK.i,CK.i,CK.i,CK.i,CK.i,CK.i,CK.i,CK.i,CK.i,CK.i,CK.i,CK.i,CK.i,CK.i] (AX.t 34) (AX.t 35) (AX.c (AV.bool true)),none⟩] [7,12,13]) (.regionA [[1,2,3,0,4,5,6,7],[0,1,2,3,4,5,6,7]] [⟨some 36,AOp.load false 1 (AX.t 7),none⟩,⟨some 37,AOp.loadL true 32 (AX.t 13),none⟩,⟨some 38,AOp.mov (AX.t 12),none⟩,⟨some 39,AOp.call 80 [AX.t 38],none⟩,⟨some 40,AOp.lit [AV.int (IntKind.u8) 0,AV.int (IntKind.u8) 0,AV.int (IntKind.u8) 0,AV.int (IntKind.u8) 0,AV.int (IntKind.u8) 0,AV.int (IntKind.u8) 0,AV.int (IntKind.u8) 0,AV.int (IntKind.u8) 0,AV.int (IntKind.u8) 0,AV.int (IntKind.u8) 0,AV.int (IntKind.u8) 0,AV.int (IntKind.u8) 0,AV.int (IntKind.u8) 0,AV.int (IntKind.u8) 0,AV.int (IntKind.u8) 0,AV.int (IntKind.u8) 0,AV.int (IntKind.u8) 0,AV.int (IntKind.u8) 0,AV.int (IntKind.u8) 0,AV.int (IntKind.u8) 0,AV.int (IntKind.u8) 0,AV.int (IntKind.u8) 0,AV.int (IntKind.u8) 0,AV.int (IntKind.u8) 0,AV.int (IntKind.u8) 0,AV.int (IntKind.u8) 0,AV.int (IntKind.u8) 0,AV.int (IntKind.u8) 0,AV.int (IntKind.u8) 0,AV.int (IntKind.u8) 0,AV.int (IntKind.u8) 0,AV.int (IntKind.u8) 0,AV.nils] [(0,32,AX.t 37),(32,1,AX.t 39)],none⟩,⟨some 41,AOp.litS false 33 (AV.agg [AV.int (IntKind.u8) 0,AV.int (IntKind.u8) 0,AV.int (IntKind.u8) 0,AV.int (IntKind.u8) 0,AV.int (IntKind.u8) 0,AV.int (IntKind.u8) 0,AV.int (IntKind.u8) 0,AV.int (IntKind.u8) 0,AV.int (IntKind.u8) 0,AV.int (IntKind.u8) 0,AV.int (IntKind.u8) 0,AV.int (IntKind.u8) 0,AV.int (IntKind.u8) 0,AV.int (IntKind.u8) 0,AV.int (IntKind.u8) 0,AV.int (IntKind.u8) 0,AV.int (IntKind.u8) 0,AV.int (IntKind.u8) 0,AV.int (IntKind.u8) 0,AV.int (IntKind.u8) 0,AV.int (IntKind.u8) 0,AV.int (IntKind.u8) 0,AV.int (IntKind.u8) 0,AV.int (IntKind.u8) 0,AV.int (IntKind.u8) 0,AV.int (IntKind.u8) 0,AV.int (IntKind.u8) 0,AV.int (IntKind.u8) 0,AV.int (IntKind.u8) 0,AV.int (IntKind.u8) 0,AV.int (IntKind.u8) 0,AV.int (IntKind.u8) 0,AV.nils]) 1 [(0,AX.t 40)],none⟩,⟨some 42,AOp.append true false 33 56 (AX.t 36) (AX.t 41),none⟩,⟨none,AOp.store 1 (AX.t 7) (AX.t 42),none⟩] [])) AC.skip)))))

/-! ### keys -/
abbrev Ky := {k : List Int // k.length = 32}
def kA (k : Ky) : AV := .agg (intsOf .u8 k.1)
def keyOf (p : By) : Ky := ⟨shaR p, shaR_len p⟩
theorem eqCells_k : ∀ (a b : List Int), a.length = b.length → eqCells (List.replicate a.length .i) (intsOf .u8 a) (intsOf .u8 b) = some (decide (a = b))
  | [], [], _ => rfl
  | x :: a, y :: b, h => by
    have ih := eqCells_k a b (by simpa using h)
    simp only [intsOf,List.map_cons,List.length_cons,List.replicate_succ,eqCells,eqS,if_true] at ih ⊢
    rw [ih]
    by_cases e1 : x = y <;> by_cases e2 : a = b <;> simp [e1,e2]
  | [], _ :: _, h => by simp at h
  | _ :: _, [], h => by simp at h
theorem keyCells_k : ∀ (a : List Int), keyCells (List.replicate a.length .i) (intsOf .u8 a) = true
  | [] => rfl
  | x :: a => by
    have ih := keyCells_k a
    simpa only [intsOf, List.map_cons, List.length_cons, List.replicate_succ, keyCells] using ih
theorem kaEnc {ks : List CK} (h : ks = List.replicate 32 .i) : KeyEnc true ks kA := by
  subst h
  refine ⟨fun a b => ?_, fun a => ?_⟩
  · have := eqCells_k a.1 b.1 (by rw [a.2, b.2])
    rw [a.2] at this
    simp only [eqAV,kA,if_true,this]
    by_cases e : a = b
    · subst e; simp
    · have : a.1 ≠ b.1 := fun x => e (Subtype.ext x)
      simp [e,this]
  · have := keyCells_k a.1
    rw [a.2] at this
    simp only [keyOk,kA,this,Bool.and_self]

def ptB (p : By) : Pt := ⟨shaR p, (p.length : Nat)⟩
theorem ptB_av (p : By) : (ptB p).av = .agg (intsOf .u8 (shaR p) ++ [.int .i64 (p.length : Nat)]) := rfl

def CE : List By → List AV → Prop
  | [], [] => True
  | p :: ps, v :: vs => (∃ c, v = .agg (intsOf .u8 (shaR p) ++ [.imm 1 (bytesOf p) c])) ∧ CE ps vs
  | _, _ => False
theorem CE.app : ∀ {ps : List By} {vs : List AV} {p : By} {v : AV}, CE ps vs → (∃ c, v = .agg (intsOf .u8 (shaR p) ++ [.imm 1 (bytesOf p) c])) → CE (ps ++ [p]) (vs ++ [v])
  | [], [], _, _, _, h => ⟨h, trivial⟩
  | _ :: _, _ :: _, _, _, h, h2 => ⟨h.1, CE.app h.2 h2⟩
  | [], _ :: _, _, _, h, _ => h.elim
  | _ :: _, [], _, _, h, _ => h.elim
theorem CE.len : ∀ {ps : List By} {vs : List AV}, CE ps vs → vs.length = ps.length
  | [], [], _ => rfl
  | _ :: _, _ :: _, h => by simp [CE.len h.2]
  | [], _ :: _, h => h.elim
  | _ :: _, [], h => h.elim
theorem CE.get : ∀ {ps : List By} {vs : List AV} {i : Nat} (hi : i < ps.length), CE ps vs → ∃ c, vs[i]? = some (.agg (intsOf .u8 (shaR ps[i]) ++ [.imm 1 (bytesOf ps[i]) c]))
  | _ :: _, v :: _, 0, _, h => by obtain ⟨c, rfl⟩ := h.1; exact ⟨c, rfl⟩
  | _ :: ps, _ :: _, i + 1, hi, h => by obtain ⟨c, e⟩ := CE.get (i := i) (by simpa using hi) h.2; exact ⟨c, by simpa using e⟩
  | [], [], _, hi, _ => by simp at hi
  | [], _ :: _, _, hi, _ => by simp at hi
  | _ :: _, [], _, _, h => h.elim

def addU (P : List By) (p : By) : List By := if keyOf p ∈ P.map keyOf then P else P ++ [p]
def uniq (P : List By) (l : List By) : List By := l.foldl addU P

theorem uniq_len : ∀ (l P : List By), (uniq P l).length ≤ P.length + l.length
  | [], P => by simp [uniq]
  | p :: l, P => by
    have := uniq_len l (addU P p)
    have h2 : (addU P p).length ≤ P.length + 1 := by unfold addU; split <;> simp
    show (uniq (addU P p) l).length ≤ _
    simp only [List.length_cons]; omega

def rC (H : Nat) : Regs := [(6, .val (.ptr H 1 0 0)), (7, .val (.ptr (H + 1) 1 0 0)), (10, .val (.ptr (H + 2) 1 0 0)), (16, .val (.fn (.func 104) [] [.ptr (H + 3) 12 0 0, .ptr (H + 4) 1 0 0]))]

structure CutJ (h : Hp) (H mid : Nat) (tk0 : Option Nat) (ps P0 : List By) (k : Nat) (g : Hp) : Prop where
  lp : g[H + 5]? = some (.loop (rC H) [17, 18] hdC bdC 0 none)
  c0 : g[H]? = some (.row 1 [.mp mid])
  low : mid < H ∧ H + 5 < g.length
  fr : ∀ i, i < H → i ≠ mid → tk0 ≠ some i → g[i]? = h[i]?
  ex : ∃ av pv pes T c t1 t2, g[H + 1]? = some (.row 1 [pv]) ∧ g[H + 2]? = some (.row 1 [av]) ∧ TokAt 33 ((ps.take k).map fun p => (ptB p).av) g av t1 ∧ CE (uniq P0 (ps.take k)) pes ∧ TokAt 33 pes g pv t2 ∧
    g[mid]? = some (.map (encE kA AV.bool T) c) ∧ (∀ q, tget T q = if q ∈ (uniq P0 (ps.take k)).map keyOf then some true else none) ∧
    (∀ x, t1 = some x → H + 5 < x ∧ x < g.length) ∧ (∀ x, t2 = some x → (t2 = tk0 ∧ x < H ∧ x ≠ mid ∨ H + 5 < x) ∧ x < g.length) ∧ ∀ x, t2 = some x → t1 ≠ some x

section
variable {n : Nat} {tot : Bool} {ω : Nat → Nat} {h : Hp}

theorem upd_imm {v : AV} (hv : v.one = true) (sz : Nat) (es : List AV) (c : Cap) : upd v 0 (.imm sz es c) = some (.imm sz es c) := by
  cases v <;> first | rfl | cases hv

theorem c80 (p : By) (c : Cap) (hp : p ≠ []) (hl : p.length ≤ 1000000000) (hn : 0 < n) : call F n tot ω 80 [.imm 1 (bytesOf p) c] h = some (.imm 1 (bytesOf p) (.tok h.length p.length), h ++ [.tail 1 p.length]) := by
  obtain ⟨n, rfl⟩ : ∃ m, n = m + 1 := ⟨n - 1, by omega⟩
  refine call_eq (fn := a80) f80 ?_
  unfold a80
  have h1 : bytesOf p ≠ [] := by intro e; have := congrArg List.length e; rw [bytesOf_len] at this; exact hp (List.length_eq_zero_iff.1 this)
  simp (maxSteps := 2000000) (discharger := omega) only [xz,xc,xo,xr,x0,x2,x3,x5,xd,xe,xb,isNil,selems,srcElems,partEs,placeEs,Bool.bne_false,Reg.isA,Reg.isV,Reg.stays,Reg.onto,↓reduceIte,reduceCtorEq,Nat.reduceEqDiff,Nat.reduceLT,exists_eq_left',nat_le_t,appendV,Im.newRow,h1,List.replicate]

theorem rd_ct (H mid : Nat) (tk0 : Option Nat) (ps P0 : List By) (k : Nat) (g : Hp) (c : Cap) (at' : Int) (hk : k < ps.length) (hne : ps[k] ≠ []) (hpl : ps[k].length ≤ 1000000) (hps : ps.length ≤ 1000000) (hP0 : P0.length ≤ 100000000) (J : CutJ h H mid tk0 ps P0 k g) (hn : ps[k].length + 300 < n) :
    ∃ g', round F (n + 1) tot ω (H + 5) [.int .i64 at', .imm 1 (bytesOf ps[k]) c] g = some (.bool true, g') ∧ CutJ h H mid tk0 ps P0 (k + 1) g' := by
  obtain ⟨lp, c0, ⟨lw1, lw2⟩, fr, av, pv, pes, T, cl, t1, t2, j1, j2, j3, j4, j5, j6, j7, j8, j9, j10⟩ := J
  suffices hx : ∃ v g', round F (n + 1) tot ω (H + 5) [.int .i64 at', .imm 1 (bytesOf ps[k]) c] g = some (v, g') ∧ v = .bool true ∧ CutJ h H mid tk0 ps P0 (k + 1) g' by
    obtain ⟨v, g', e1, rfl, e2⟩ := hx
    exact ⟨g', e1, e2⟩
  refine round_of (P := fun v g' => v = .bool true ∧ CutJ h H mid tk0 ps P0 (k + 1) g') lp rfl ?_
  have e : putArgs (rC H) [17, 18] [.int .i64 at', .imm 1 (bytesOf ps[k]) c] = [(6, .val (.ptr H 1 0 0)), (7, .val (.ptr (H + 1) 1 0 0)), (10, .val (.ptr (H + 2) 1 0 0)), (16, .val (.fn (.func 104) [] [.ptr (H + 3) 12 0 0, .ptr (H + 4) 1 0 0])), (17, .val (.int .i64 at')), (18, .val (.imm 1 (bytesOf ps[k]) c))] := rfl
  rw [e]
  unfold hdC
  simp (maxSteps := 2000000) (discharger := omega) only [xz,xc,xo,xr,x0,Reg.isA,Reg.isV,Reg.stays,Reg.onto,↓reduceIte,Nat.reduceEqDiff,Nat.reduceLT]
  refine ⟨rfl, rC H, [17, 18], hdC, bdC, none, lp, ?_⟩
  have hLl : H + 5 < g.length := lw2
  generalize hg0 : g.set (H + 5) (.loop (rC H) [17, 18] hdC bdC 1 none) = g0
  have n0 : ∀ j, j ≠ H + 5 → g0[j]? = g[j]? := fun j hj => by rw [← hg0, List.getElem?_set_ne (Ne.symm hj)]
  have l0 : g0.length = g.length := by rw [← hg0]; simp
  generalize hp : ps[k] = p at *
  obtain ⟨g1, k22, hB1⟩ := c22 (n := n) (tot := tot) (ω := ω) (h := g0) p .full (by omega) (by omega)
  have sl := shaR_len p
  have x1' : (intsOf .u8 (shaR p)).length = 32 := by rw [io_len', sl]
  have x2' : List.take 32 (intsOf .u8 (shaR p)) = intsOf .u8 (shaR p) := List.take_of_length_le (by omega)
  have z32 : (AV.agg [AV.int .u8 0, AV.int .u8 0, AV.int .u8 0, AV.int .u8 0, AV.int .u8 0, AV.int .u8 0, AV.int .u8 0, AV.int .u8 0, AV.int .u8 0, AV.int .u8 0, AV.int .u8 0, AV.int .u8 0, AV.int .u8 0, AV.int .u8 0, AV.int .u8 0, AV.int .u8 0, AV.int .u8 0, AV.int .u8 0, AV.int .u8 0, AV.int .u8 0, AV.int .u8 0, AV.int .u8 0, AV.int .u8 0, AV.int .u8 0, AV.int .u8 0, AV.int .u8 0, AV.int .u8 0, AV.int .u8 0, AV.int .u8 0, AV.int .u8 0, AV.int .u8 0, AV.int .u8 0] : AV) = .agg (intsOf .u8 Z32R) := rfl
  have hz : Z32R.length = 32 := rfl
  have hd : List.drop 32 (intsOf .u8 Z32R) = [] := rfl
  have tb : toBytes (bytesOf p) = some p := toBytes_bytesOf p
  -- behind the digest
  have n1 : ∀ j, j ≠ H + 5 → j < g.length → g1[j]? = g[j]? := fun j hj hl => by rw [hB1.2 j (by omega), n0 j hj]
  have l1 : g.length ≤ g1.length := by have := hB1.1; omega
  have a1 : g1[H + 2]? = some (.row 1 [av]) := by rw [n1 _ (by omega) (by omega)]; exact j2
  have T1 : TokAt 33 ((ps.take k).map fun p => (ptB p).av) g1 av t1 := j3.keep fun j o hj ho => by
    have := j8 j hj
    rw [n1 _ (by omega) (by omega)]; exact ho
  have hlk : ((ps.take k).map fun p => (ptB p).av).length = k := by simp; omega
  obtain ⟨av', g2, w1, w2, w3, w4, cav, w5⟩ := tok_app (bytes := 40) (xs := [.agg (intsOf .u8 (shaR p) ++ [.int .i64 (p.length : Nat)])]) T1 (by simp) (by rw [hlk]; simp; omega)
  rw [hlk] at *
  have n2 : ∀ j, j ≠ H + 5 → j < g.length → t1 ≠ some j → g2[j]? = g[j]? := fun j hj hl ht => by
    have e1 : g[j]? = some g[j] := List.getElem?_eq_getElem hl
    rw [e1, w4 j g[j] (by rw [n1 j hj hl]; exact e1) ht]
  have t1n : ∀ j, j ≤ H + 5 → t1 ≠ some j := fun j hj e => by have := j8 j e; omega
  have a2 : g2[H + 2]? = some (.row 1 [av]) := by rw [n2 _ (by omega) (by omega) (t1n _ (by omega))]; exact j2
  have a2l := (List.getElem?_eq_some_iff.1 a2).1
  generalize hg3 : g2.set (H + 2) (.row 1 [av']) = g3
  have l3 : g3.length = g2.length := by rw [← hg3]; simp
  have n3 : ∀ j, j ≠ H + 5 → j ≠ H + 2 → j < g.length → t1 ≠ some j → g3[j]? = g[j]? := fun j hj hj2 hl ht => by
    rw [← hg3, List.getElem?_set_ne (Ne.symm hj2)]; exact n2 j hj hl ht
  have b3 : g3[H]? = some (.row 1 [.mp mid]) := by rw [n3 _ (by omega) (by omega) (by omega) (t1n _ (by omega))]; exact c0
  have b3m : g3[mid]? = some (.map (encE kA AV.bool T) cl) := by rw [n3 _ (by omega) (by omega) (by omega) (t1n _ (by omega))]; exact j6
  have b3p : g3[H + 1]? = some (.row 1 [pv]) := by rw [n3 _ (by omega) (by omega) (by omega) (t1n _ (by omega))]; exact j1
  have T3 : TokAt 33 (((ps.take k).map fun p => (ptB p).av) ++ [.agg (intsOf .u8 (shaR p) ++ [.int .i64 (p.length : Nat)])]) g3 av' (some g1.length) := w2.keep fun j o hj ho => by
    cases hj; rw [← hg3, List.getElem?_set_ne (by omega)]; exact ho
  have P3 : TokAt 33 pes g3 pv t2 := j5.keep fun j o hj ho => by
    have := j9 j hj
    rw [n3 _ (by omega) (by omega) (by omega) (j10 j hj)]; exact ho
  have a3 : g3[H + 2]? = some (.row 1 [av']) := by rw [← hg3]; exact get_set_self a2l
  have m3 : g3[H + 5]? = some (.loop (rC H) [17, 18] hdC bdC 1 none) := by
    have e0 : g0[H + 5]? = some (.loop (rC H) [17, 18] hdC bdC 1 none) := by rw [← hg0]; exact get_set_self hLl
    rw [← hg3, List.getElem?_set_ne (by omega)]
    exact w4 _ _ (by rw [hB1.2 _ (by omega)]; exact e0) (t1n _ (by omega))
  subst w5
  have huav := upd_imm (rd_one (isRd_app j3.1))
  have hupv := upd_imm (rd_one (isRd_app j5.1))
  have hsav := rd_sub (isRd_app j3.1) 1
  have hspv := rd_sub (isRd_app j5.1) 1
  have z33 : ∀ z : AV, List.drop 33 (intsOf .u8 (shaR p) ++ [z]) = [] := fun z => List.drop_of_length_le (by simp [x1'])
  have x3' : ∀ z : AV, List.take 32 (intsOf .u8 (shaR p) ++ [z]) = intsOf .u8 (shaR p) := fun z => by rw [List.take_append_of_le_length (by omega), x2']
  have ptk : ((ps.take (k + 1)).map fun p => (ptB p).av) = ((ps.take k).map fun p => (ptB p).av) ++ [.agg (intsOf .u8 (shaR p) ++ [.int .i64 (p.length : Nat)])] := by
    rw [List.take_succ_eq_append_getElem hk, List.map_append, hp]; rfl
  have huq : uniq P0 (ps.take (k + 1)) = addU (uniq P0 (ps.take k)) p := by
    unfold uniq; rw [List.take_succ_eq_append_getElem hk, List.foldl_append, hp]; rfl
  have hK := kaEnc (ks := List.replicate 32 .i) rfl
  have hko := hK.ok (keyOf p)
  have hkk : kA (keyOf p) = .agg (intsOf .u8 (shaR p)) := rfl
  simp only [List.replicate] at hK hko
  rw [hkk] at hko
  simp only [keyOk,Bool.true_and] at hko
  have hT := j7 (keyOf p)
  unfold bdC
  rw [z32]
  cases htg : tget T (keyOf p) with
  | some b =>
    have hmem : keyOf p ∈ (uniq P0 (ps.take k)).map keyOf := by
      by_cases e : keyOf p ∈ (uniq P0 (ps.take k)).map keyOf
      · exact e
      · rw [htg, if_neg e] at hT; cases hT
    have hb : b = true := by rw [htg, if_pos hmem] at hT; cases hT; rfl
    subst hb
    obtain ⟨jf, hf, _⟩ := findK_yes (ev := AV.bool) hK 0 htg
    rw [hkk] at hf
    simp (maxSteps := 2000000) (discharger := omega) only [xz,xc,xo,xr,x0,x2,x3,x4,x5,xd,xe,xb,kont_call,selems,srcElems,wr,place,partVals,partEs,placeEs,mapOf,keyOk,Reg.isA,Reg.isV,Reg.stays,Reg.onto,↓reduceIte,Nat.reduceEqDiff,Nat.reduceLT,Nat.reduceAdd,Nat.zero_lt_succ,xu,List.set_cons_zero,nat_le_t,tb,k22,List.replicate,hz,sl,x2',x3',z33,hd,a1,hsav,List.length_append,w1,T1.1.isRow,a2,hg3,b3,hko,b3m,hf,huav]
    refine ⟨rC H, [17, 18], hdC, bdC, 1, none, m3, rfl, ?_⟩
    have m3l := (List.getElem?_eq_some_iff.1 m3).1
    have s3 : ∀ j, j ≠ H + 5 → (g3.set (H + 5) (.loop (rC H) [17, 18] hdC bdC 0 none))[j]? = g3[j]? := fun j hj => by rw [List.getElem?_set_ne (Ne.symm hj)]
    show CutJ h H mid tk0 ps P0 (k + 1) (g3.set (H + 5) (.loop (rC H) [17, 18] hdC bdC 0 none))
    refine ⟨get_set_self m3l, by rw [s3 _ (by omega)]; exact b3, ⟨lw1, by simp; omega⟩, fun j hj h1 h2 => ?_, _, pv, pes, T, cl, some g1.length, t2, by rw [s3 _ (by omega)]; exact b3p, by rw [s3 _ (by omega)]; exact a3, ?_, ?_, ?_, ?_, ?_, fun x hx => ?_, fun x hx => ?_, fun x hx e => ?_⟩
    · rw [s3 _ (by omega), n3 _ (by omega) (by omega) (by omega) (t1n _ (by omega))]; exact fr j hj h1 h2
    · rw [ptk]; exact T3.keep fun j o hj ho => by cases hj; rw [s3 _ (by omega)]; exact ho
    · rw [huq]; unfold addU; rw [if_pos hmem]; exact j4
    · exact P3.keep fun j o hj ho => by have := j9 j hj; rw [s3 _ (by omega)]; exact ho
    · rw [s3 _ (by omega)]; exact b3m
    · rw [huq]; unfold addU; rw [if_pos hmem]; exact j7
    · cases hx; simp; omega
    · have := j9 x hx; exact ⟨this.1, by simp; omega⟩
    · cases e; have := j9 _ hx; omega
  | none =>
    have hnm : keyOf p ∉ (uniq P0 (ps.take k)).map keyOf := fun e => by rw [htg, if_pos e] at hT; cases hT
    have hf := findK_no (ev := AV.bool) hK 0 htg
    rw [hkk] at hf
    have hbn : bytesOf p ≠ [] := by intro e; have := congrArg List.length e; rw [bytesOf_len] at this; exact hne (List.length_eq_zero_iff.1 this)
    have b3l := (List.getElem?_eq_some_iff.1 b3m).1
    generalize hg4 : g3.set mid (.map (encE kA AV.bool T ++ [(.agg (intsOf .u8 (shaR p)), .bool true, cl)]) (cl + 1)) = g4
    have l4 : g4.length = g3.length := by rw [← hg4]; simp
    have s4 : ∀ j, j ≠ mid → g4[j]? = g3[j]? := fun j hj => by rw [← hg4, List.getElem?_set_ne (Ne.symm hj)]
    have b4m : g4[mid]? = some (.map (encE kA AV.bool (T ++ [(keyOf p, true, cl)])) (cl + 1)) := by
      rw [← hg4, get_set_self b3l]; simp [encE]; exact hkk.symm
    have k80 : ∀ h, call F n tot ω 80 [.imm 1 (bytesOf p) c] h = some (.imm 1 (bytesOf p) (.tok h.length p.length), h ++ [.tail 1 p.length]) := fun h => c80 p c hne (by omega) (by omega)
    have b4p : g4[H + 1]? = some (.row 1 [pv]) := by rw [s4 _ (by omega)]; exact b3p
    have b4p' : (g4 ++ [AO.tail 1 p.length])[H + 1]? = some (.row 1 [pv]) := by rw [List.getElem?_append_left (by omega)]; exact b4p
    have P4 : TokAt 33 pes (g4 ++ [AO.tail 1 p.length]) pv t2 := P3.keep fun j o hj ho => by
      have := j9 j hj
      rw [List.getElem?_append_left (by omega), s4 _ (by omega)]; exact ho
    have hpel := j4.len
    have hul : (uniq P0 (ps.take k)).length ≤ P0.length + k := by
      have := uniq_len (ps.take k) P0
      rw [List.length_take] at this; omega
    obtain ⟨pv', g5, y1, y2, y3, y4, cy, y5⟩ := tok_app (bytes := 56) (xs := [.agg (intsOf .u8 (shaR p) ++ [.imm 1 (bytesOf p) (.tok g4.length p.length)])]) P4 (by simp) (by simp; omega)
    subst y5
    have t2n : t2 ≠ some (H + 1) := fun e => by have := j9 _ e; omega
    have b5p : g5[H + 1]? = some (.row 1 [pv]) := y4 _ _ b4p' t2n
    simp (maxSteps := 2000000) (discharger := omega) only [xz,xc,xo,xr,x0,x2,x3,x4,x5,xd,xe,xb,kont_call,selems,srcElems,wr,place,partVals,partEs,placeEs,mapOf,keyOk,Reg.isA,Reg.isV,Reg.stays,Reg.onto,↓reduceIte,Nat.reduceEqDiff,Nat.reduceLT,Nat.reduceAdd,Nat.zero_lt_succ,xu,List.set_cons_zero,nat_le_t,tb,k22,List.replicate,hz,sl,x2',x3',z33,hd,a1,hsav,List.length_append,w1,T1.1.isRow,a2,hg3,b3,hko,b3m,hf,huav,hupv,hg4,w_regionA2,inOrd,List.filterMap_cons,List.filterMap_nil,Is,k80,b4p,b4p',hspv,y1,P3.1.isRow,b5p]
    have l5 : g4.length + 1 < g5.length := by have := y3; simpa using this
    have b5l : H + 1 < g5.length := by omega
    have n5 : ∀ j, j ≠ H + 5 → j ≠ H + 2 → j ≠ mid → j < g.length → t1 ≠ some j → t2 ≠ some j → g5[j]? = g[j]? := fun j hj hj2 hjm hl ht ht2 => by
      have e1 : g[j]? = some g[j] := List.getElem?_eq_getElem hl
      rw [e1, y4 j g[j] (by rw [List.getElem?_append_left (by omega), s4 _ hjm, n3 j hj hj2 hl ht]; exact e1) ht2]
    have t2n' : ∀ j, H ≤ j → j ≤ H + 5 → t2 ≠ some j := fun j h1 h2 e => by have := j9 _ e; omega
    have t2m : t2 ≠ some mid := fun e => by have := j9 _ e; omega
    have b5 : ∀ j, H ≤ j → j ≤ H + 5 → g5[j]? = g3[j]? := fun j h1 h2 => by
      have hl : j < g3.length := by omega
      have e1 : g3[j]? = some g3[j] := List.getElem?_eq_getElem hl
      rw [e1, y4 j g3[j] (by rw [List.getElem?_append_left (by omega), s4 _ (by omega)]; exact e1) (t2n' j h1 h2)]
    have b5m : g5[mid]? = some (.map (encE kA AV.bool (T ++ [(keyOf p, true, cl)])) (cl + 1)) := y4 _ _ (by rw [List.getElem?_append_left (by omega)]; exact b4m) t2m
    generalize hg6 : g5.set (H + 1) (.row 1 [.imm 33 (pes ++ [.agg (intsOf .u8 (shaR p) ++ [.imm 1 (bytesOf p) (.tok g4.length p.length)])]) cy]) = g6
    have l6 : g6.length = g5.length := by rw [← hg6]; simp
    have s6 : ∀ j, j ≠ H + 1 → g6[j]? = g5[j]? := fun j hj => by rw [← hg6, List.getElem?_set_ne (Ne.symm hj)]
    have b6p : g6[H + 1]? = some (.row 1 [.imm 33 (pes ++ [.agg (intsOf .u8 (shaR p) ++ [.imm 1 (bytesOf p) (.tok g4.length p.length)])]) cy]) := by rw [← hg6]; exact get_set_self b5l
    have m6 : g6[H + 5]? = some (.loop (rC H) [17, 18] hdC bdC 1 none) := by rw [s6 _ (by omega), b5 _ (by omega) (by omega)]; exact m3
    refine ⟨rC H, [17, 18], hdC, bdC, 1, none, m6, rfl, ?_⟩
    show CutJ h H mid tk0 ps P0 (k + 1) (g6.set (H + 5) (.loop (rC H) [17, 18] hdC bdC 0 none))
    have m6l := (List.getElem?_eq_some_iff.1 m6).1
    have s7 : ∀ j, j ≠ H + 5 → (g6.set (H + 5) (.loop (rC H) [17, 18] hdC bdC 0 none))[j]? = g6[j]? := fun j hj => by rw [List.getElem?_set_ne (Ne.symm hj)]
    have hadd : addU (uniq P0 (ps.take k)) p = uniq P0 (ps.take k) ++ [p] := by unfold addU; rw [if_neg hnm]
    refine ⟨get_set_self m6l, by rw [s7 _ (by omega), s6 _ (by omega), b5 _ (by omega) (by omega)]; exact b3, ⟨lw1, by simp; omega⟩, fun j hj h1 h2 => ?_, _, _, pes ++ [.agg (intsOf .u8 (shaR p) ++ [.imm 1 (bytesOf p) (.tok g4.length p.length)])], T ++ [(keyOf p, true, cl)], cl + 1, some g1.length, some (g4.length + 1), by rw [s7 _ (by omega)]; exact b6p, by rw [s7 _ (by omega), s6 _ (by omega), b5 _ (by omega) (by omega)]; exact a3, ?_, ?_, ?_, ?_, fun q => ?_, fun x hx => ?_, fun x hx => ?_, fun x hx e => ?_⟩
    · by_cases ht2 : t2 = some j
      · exfalso
        have := j9 j ht2
        rcases this.1 with ⟨e, _⟩ | e
        · exact h2 (e ▸ ht2)
        · omega
      · rw [s7 _ (by omega), s6 _ (by omega), n5 _ (by omega) (by omega) h1 (by omega) (t1n _ (by omega)) ht2]; exact fr j hj h1 h2
    · rw [ptk]; exact T3.keep fun j o hj ho => by
        cases hj
        rw [s7 _ (by omega), s6 _ (by omega)]
        have hl : g1.length < g3.length := by omega
        exact y4 _ _ (by rw [List.getElem?_append_left (by omega), s4 _ (by omega)]; exact ho) (fun e => by have := j9 _ e; omega)
    · rw [huq, hadd]; exact j4.app ⟨_, rfl⟩
    · have : (g4 ++ [AO.tail 1 p.length]).length = g4.length + 1 := by simp
      rw [this] at y2
      exact y2.keep fun j o hj ho => by cases hj; rw [s7 _ (by omega), s6 _ (by omega)]; exact ho
    · rw [s7 _ (by omega), s6 _ (by omega)]; exact b5m
    · rw [huq, hadd, ← tput_new htg, tget_put]
      have := j7 q
      by_cases e : keyOf p = q
      · rw [if_pos e, if_pos (by rw [List.map_append]; simp [e])]
      · rw [if_neg e, this]
        by_cases e2 : q ∈ (uniq P0 (ps.take k)).map keyOf
        · rw [if_pos e2, if_pos (by rw [List.map_append]; exact List.mem_append.2 (.inl e2))]
        · rw [if_neg e2, if_neg]
          rw [List.map_append, List.mem_append]
          rintro (e3 | e3)
          · exact e2 e3
          · simp at e3; exact e e3.symm
    · cases hx; exact ⟨by omega, by simp; omega⟩
    · cases hx; exact ⟨.inr (by omega), by simp; omega⟩
    · cases hx; have := Option.some.inj e; omega

structure CutE (h : Hp) (mid : Nat) (tk0 : Option Nat) (pts : List Pt) (P : List By) (av pv : AV) (g : Hp) : Prop where
  low : h.length ≤ g.length
  fr : ∀ i, i < h.length → i ≠ mid → tk0 ≠ some i → g[i]? = h[i]?
  parts : IsRd 33 (pts.map Pt.av) av
  ex : ∃ pes T c t2, CE P pes ∧ TokAt 33 pes g pv t2 ∧ g[mid]? = some (.map (encE kA AV.bool T) c) ∧ (∀ q, tget T q = if q ∈ P.map keyOf then some true else none) ∧ (∀ x, t2 = some x → (t2 = tk0 ∧ x ≠ mid ∨ h.length ≤ x) ∧ x < g.length)

theorem partsL_pcs (d : By) : ∀ (l : List Nat) (a : Nat), a + l.sum ≤ d.length → partsL d a l = (pcs l (d.drop a)).map ptB
  | [], a, _ => rfl
  | k :: l, a, h => by
    simp only [List.sum_cons] at h
    simp only [partsL,pcs,List.map_cons]
    rw [partsL_pcs d l (a + k) (by omega), List.drop_drop]
    congr 1
    unfold ptB
    have e : (d.take (a + k)).drop a = (d.drop a).take k := by rw [List.take_drop]
    rw [e]
    congr 1
    simp; omega
theorem partsR_pcs (l m M : Int) (d : By) : partsR l m M d = (pcs (cutR l m M d) d).map ptB := by
  have := partsL_pcs d (cutR l m M d) 0 (by rw [(cutR_sum l m M d).1]; omega)
  rw [List.drop_zero] at this
  exact this

theorem le_sum : ∀ (l : List Nat) (i : Nat) (hi : i < l.length), l[i] ≤ l.sum
  | x :: l, 0, _ => by simp
  | x :: l, i + 1, hi => by have := le_sum l i (by simpa using hi); simp; omega

set_option maxRecDepth 100000 in
theorem c48 (cs : List AV) (l m M : Int) (s : By) (dv pv : AV) (mid : Nat) (tk0 : Option Nat) (P0 : List By) (pes : List AV) (T : List (Ky × Bool × Nat)) (cl : Nat) (hl : cs.length = 12) (h8 : cs[8]? = some (.int .i64 l)) (h9 : cs[9]? = some (.int .i64 m)) (h10 : cs[10]? = some (.int .i64 M)) (hok : okConf l m M)
    (hdv : IsRd 1 (bytesOf s) dv) (hs : s.length ≤ 1000000) (hP0 : P0.length ≤ 100000000)
    (j4 : CE P0 pes) (j5 : TokAt 33 pes h pv tk0) (j6 : h[mid]? = some (.map (encE kA AV.bool T) cl)) (j7 : ∀ q, tget T q = if q ∈ P0.map keyOf then some true else none) (j9 : ∀ x, tk0 = some x → x ≠ mid ∧ x < h.length) (hn : s.length + 600 < n) :
    ∃ av pv' g, call F n tot ω 48 [.agg cs, dv, .mp mid, pv] h = some (.tup [av, pv'], g) ∧ CutE h mid tk0 (partsR l m M s) (uniq P0 (pcs (cutR l m M s) s)) av pv' g := by
  obtain ⟨n, rfl⟩ : ∃ m, n = m + 1 := ⟨n - 1, by omega⟩
  suffices hx : ∃ v g, call F (n + 1) tot ω 48 [.agg cs, dv, .mp mid, pv] h = some (v, g) ∧ ∃ av pv', v = .tup [av, pv'] ∧ CutE h mid tk0 (partsR l m M s) (uniq P0 (pcs (cutR l m M s) s)) av pv' g by
    obtain ⟨v, g, e1, av, pv', rfl, e2⟩ := hx
    exact ⟨av, pv', g, e1, e2⟩
  refine call_of (fn := a48) f48 (P := fun v g => ∃ av pv', v = .tup [av, pv'] ∧ CutE h mid tk0 (partsR l m M s) (uniq P0 (pcs (cutR l m M s) s)) av pv' g) ?_
  have t12 : List.take 12 cs = cs := List.take_of_length_le (by omega)
  have hml := (List.getElem?_eq_some_iff.1 j6).1
  have k79 := fun h => c79 (n := n) (tot := tot) (ω := ω) (h := h) cs dv hl (rd_one hdv) (by omega)
  have prd := isRd_app j5.1
  have pnt := rd_nt prd
  have pcl := rd_cells prd
  unfold a48
  simp (maxSteps := 2000000) (discharger := omega) only [xz,xc,xo,xr,x0,x5,xd,kont_call,Reg.isA,Reg.isV,Reg.stays,Reg.onto,↓reduceIte,reduceCtorEq,Nat.reduceEqDiff,Nat.reduceLT,Nat.reduceAdd,nat_le_t,hl,t12,k79,pnt,pcl,List.length_append,List.append_assoc,Nat.add_assoc]
  obtain ⟨n2, rfl⟩ : ∃ m, n = m + 2 := ⟨n - 2, by omega⟩
  have hql : (h ++ [AO.row 1 [.mp mid], .row 1 [pv], .row 1 [.nils], .row 12 [.agg cs], .row 1 [dv]]).length = h.length + 5 := by simp
  obtain ⟨r1, r2, r3⟩ := cutR_sum l m M s
  have hcl := pcs_len (cutR l m M s) s
  obtain ⟨g', k104, J⟩ := c104 (n := n2 + 1) (tot := tot) (ω := ω) (h := h ++ [AO.row 1 [.mp mid], .row 1 [pv], .row 1 [.nils], .row 12 [.agg cs], .row 1 [dv]] ++ [.loop (rC h.length) [17, 18] hdC bdC 0 none]) cs l m M s dv (h.length + 3) (h.length + 4) (h.length + 5)
    (fun k g => CutJ h h.length mid tk0 (pcs (cutR l m M s) s) P0 k g) hl h8 h9 h10 hok hdv hs (by rw [List.append_assoc, hgk]; rfl) (by rw [List.append_assoc, hgk]; rfl) (by omega)
    (fun g hB => by
      have e : ∀ i, i < h.length + 6 → g[i]? = (h ++ [AO.row 1 [.mp mid], .row 1 [pv], .row 1 [.nils], .row 12 [.agg cs], .row 1 [dv], .loop (rC h.length) [17, 18] hdC bdC 0 none])[i]? := fun i hi => by
        have := hB.2 i (by simp; omega)
        rw [this, List.append_assoc]; rfl
      have e2 : ∀ i, i < h.length → g[i]? = h[i]? := fun i hi => by rw [e i (by omega), List.getElem?_append_left hi]
      have hgl : h.length + 6 ≤ g.length := by have := hB.1; simpa using this
      refine ⟨by rw [e _ (by omega), hgk]; rfl, by rw [e _ (by omega), hg0]; rfl, ⟨hml, by omega⟩, fun i hi _ _ => e2 i hi, .nils, pv, pes, T, cl, none, tk0, by rw [e _ (by omega), hgk]; rfl, by rw [e _ (by omega), hgk]; rfl, ?_, by simpa [uniq] using j4, j5.keep fun i o hi ho => by have := j9 i hi; rw [e2 i this.2]; exact ho, by rw [e2 _ hml]; exact j6, by simpa [uniq] using j7, by simp, fun x hx => ?_, by simp⟩
      · rw [List.take_zero]; exact tok_nils _ _ _
      · have := j9 x hx; exact ⟨.inl ⟨rfl, this.2, this.1⟩, by omega⟩)
    (fun k hk g c J => by
      have hln := pcs_pos (cutR l m M s) s k hk (by omega)
      have hk2 : k < (cutR l m M s).length := by omega
      have hgd : (cutR l m M s).getD k 0 = (cutR l m M s)[k] := by simp [List.getD,hk2]
      have hge : 1 ≤ (cutR l m M s)[k] := r2 _ (List.getElem_mem hk2)
      have hle : (cutR l m M s)[k] ≤ s.length := by rw [← r1]; exact le_sum _ _ hk2
      have hz0 : (pcs (cutR l m M s) s)[k] ≠ [] := fun e0 => by
        have z : ((pcs (cutR l m M s) s)[k]).length = 0 := by rw [e0]; rfl
        omega
      exact rd_ct (n := n2) h.length mid tk0 (pcs (cutR l m M s) s) P0 k g c _ hk hz0 (by omega) (by omega) hP0 J (by omega))
  obtain ⟨lp, c0, ⟨lw1, lw2⟩, fr, av, pv', pes', T', cl', t1, t2, q1, q2, q3, q4, q5, q6, q7, q8, q9, q10⟩ := J
  rw [List.take_of_length_le (by omega)] at q3 q4 q7
  refine wpi_rangeF (h2 := g') (f := 104) (first := []) (captured := [.ptr (h.length + 3) 12 0 0, .ptr (h.length + 4) 1 0 0]) (v := .tup []) (r1 := rC h.length) (ps1 := [17, 18]) (hd1 := hdC) (bd1 := bdC) (st := 0) (pd := none) rfl (kont_code f104) ?_ ?_ (by decide) ?_
  · rw [hql]; exact k104
  · rw [hql]; exact lp
  · rw [hql]
    have d1 : ∀ j, j ≠ h.length + 5 → (g'.set (h.length + 5) .dead)[j]? = g'[j]? := fun j hj => by rw [List.getElem?_set_ne (Ne.symm hj)]
    have d2 : (g'.set (h.length + 5) .dead)[h.length + 2]? = some (.row 1 [av]) := by rw [d1 _ (by omega)]; exact q2
    have d3 : (g'.set (h.length + 5) .dead)[h.length + 1]? = some (.row 1 [pv']) := by rw [d1 _ (by omega)]; exact q1
    have s1 := rd_sub (isRd_app q3.1) 1
    have s2 := rd_sub (isRd_app q5.1) 1
    have fin : CutE h mid tk0 (partsR l m M s) (uniq P0 (pcs (cutR l m M s) s)) av pv' (g'.set (h.length + 5) .dead) := by
      refine ⟨by simp; omega, fun i hi h1 h2 => by rw [d1 _ (by omega)]; exact fr i hi h1 h2, ?_, pes', T', cl', t2, q4, q5.keep fun j o hj ho => ?_, by rw [d1 _ (by omega)]; exact q6, q7, fun x hx => ?_⟩
      · rw [partsR_pcs, List.map_map]; exact isRd_app q3.1
      · have := q9 j hj; rw [d1 _ (by omega)]; exact ho
      · obtain ⟨a1, a2⟩ := q9 x hx
        refine ⟨?_, by simp; exact a2⟩
        rcases a1 with ⟨a3, a4, a5⟩ | a3
        · exact .inl ⟨a3, a5⟩
        · exact .inr (by omega)
    generalize g'.set (h.length + 5) .dead = gf at *
    simp (maxSteps := 2000000) (discharger := omega) only [xz,xc,xo,xr,x0,xd,Reg.isA,Reg.isV,Reg.stays,Reg.onto,↓reduceIte,Nat.reduceEqDiff,Nat.reduceLT,Option.getD_none,exists_eq_left',d2,d3,s1,s2]
    exact ⟨_, _, rfl, fin⟩
end
end Go.Proofs.YtpgmohjmpaifbaaDoor.Im

/- S21Ca: which files are a snapshot: the reference's Check, few. -/
set_option linter.unusedVariables false
set_option linter.unusedSimpArgs false
open Go Go.Im
namespace Go.Proofs.YtpgmohjmpaifbaaDoor.Im

def psOf (fs : List Fl) : List By := fs.map (·.p)
def szOf (fs : List Fl) : Nat := (fs.map (·.d.length)).sum
theorem psOf_len (fs : List Fl) : (psOf fs).length = fs.length := by simp [psOf]

open Classical in
noncomputable def chk (fs : List Fl) : Int := if Tog (psOf fs) then (if szOf fs > 16384 then 6 else 0) else 1

structure Few (fs : List Fl) : Prop where
  num : fs.length ≤ 101
  data : ∀ f ∈ fs, f.d.length ≤ 30000
  path : ∀ f ∈ fs, f.p.length ≤ 30000

theorem szOf_take (fs : List Fl) (i : Nat) (hi : i < fs.length) : szOf (fs.take (i + 1)) = szOf (fs.take i) + fs[i].d.length := by
  unfold szOf
  rw [List.take_succ_eq_append_getElem hi]
  simp only [List.map_append,List.sum_append,List.map_cons,List.map_nil,List.sum_cons,List.sum_nil,Nat.add_zero]
theorem szOf_le {fs : List Fl} (hd : ∀ f ∈ fs, f.d.length ≤ 30000) : szOf fs ≤ 30000 * fs.length := by
  unfold szOf
  induction fs with
  | nil => simp
  | cons f fs ih =>
    have h1 := hd f (by simp)
    have h2 := ih fun g hg => hd g (by simp [hg])
    simp only [List.map_cons,List.sum_cons,List.length_cons]
    omega
theorem szOf_perm {fs gs : List Fl} (hp : fs.Perm gs) : szOf fs = szOf gs := (hp.map _).sum_nat
theorem Few.take {fs : List Fl} (hf : Few fs) (i : Nat) : szOf (fs.take i) ≤ 3030000 := by
  have h1 := szOf_le (fs := fs.take i) fun f hm => hf.data f (List.mem_of_mem_take hm)
  have h2 := hf.num
  have h3 : (fs.take i).length ≤ 101 := by rw [List.length_take]; omega
  omega
theorem Few.perm {fs gs : List Fl} (hf : Few fs) (hp : gs.Perm fs) : Few gs := ⟨by rw [hp.length_eq]; exact hf.num, fun f h => hf.data f (hp.mem_iff.1 h), fun f h => hf.path f (hp.mem_iff.1 h)⟩

theorem fl_get {fs : List Fl} {i : Nat} (hi : i < fs.length) : (fs.map Fl.av)[i]? = some (.agg [.str fs[i].p, fs[i].v]) := by simp [hi,Fl.av]
theorem fl_sub {f : Fl} (h : f.ok) (n : Nat) : sub f.v 0 n false = some f.v := by
  rcases h with ⟨e, _⟩ | ⟨c, e⟩ <;> rw [e] <;> rfl
theorem fl_nt {f : Fl} (h : f.ok) : f.v.notTup = true := by
  rcases h with ⟨e, _⟩ | ⟨c, e⟩ <;> rw [e] <;> rfl
theorem fl_cells {f : Fl} (h : f.ok) : f.v.cells = [f.v] := by
  rcases h with ⟨e, _⟩ | ⟨c, e⟩ <;> rw [e] <;> rfl

section
variable {n : Nat} {tot : Bool} {ω : Nat → Nat} {h : Hp}

theorem c11 (a : AV) (fs : List Fl) (ha : IsRd 2 (fs.map Fl.av) a) (hok : ∀ f ∈ fs, f.ok) (hn : 200 < n) :
    ∃ b, call F n tot ω 11 [a] h = some (.bool b, h) ∧ (b = true → Few fs) := by
  obtain ⟨n, rfl⟩ : ∃ m, n = m + 1 := ⟨n - 1, by omega⟩
  suffices hx : ∃ v2 h', call F (n + 1) tot ω 11 [a] h = some (v2, h') ∧ ∃ b, v2 = .bool b ∧ h' = h ∧ (b = true → Few fs) by
    obtain ⟨v2, h', e1, b, rfl, rfl, e2⟩ := hx
    exact ⟨b, e1, e2⟩
  refine call_of (fn := a11) f11 (P := fun v2 h' => ∃ b, v2 = .bool b ∧ h' = h ∧ (b = true → Few fs)) ?_
  unfold a11
  have hlen := ha.len
  rw [List.length_map] at hlen
  have no : ∃ b, AV.bool false = .bool b ∧ (b = true → Few fs) := ⟨false, rfl, fun e => by cases e⟩
  simp (maxSteps := 2000000) (discharger := omega) only [xz,xc,xo,xr,x0,Reg.isA,Reg.isV,Reg.stays,Reg.onto,↓reduceIte,reduceCtorEq,Nat.reduceEqDiff,Nat.reduceLT]
  refine wpi_loop (fun x r g' => ∃ (i k : Nat), r = [(0, .val a), (3, .val (.int .i64 k)), (4, .val (.int .i64 i))] ∧ x = 110 - i ∧ i ≤ 101 ∧ k ≤ 90000 ∧ i ≤ fs.length ∧ g' = h ∧
    (∀ f ∈ fs.take i, f.d.length ≤ 30000 ∧ f.p.length ≤ 30000)) 110 (by omega)
    ⟨0, 0, rfl, rfl, by omega, by omega, by omega, rfl, by simp⟩ ?_
  rintro x r g' ⟨i, k, rfl, rfl, hi, hk, hil, rfl, hf⟩
  by_cases hlt : i < fs.length
  · obtain ⟨cv, rfl⟩ := ha.imm (i := i) (by simpa using hlt)
    have q1 := fl_get hlt
    have q2 := Fl.len (hok _ (List.getElem_mem hlt))
    have q7 := fl_sub (hok _ (List.getElem_mem hlt)) 1
    by_cases h100 : (i : Int) > 100
    · simp (maxSteps := 2000000) (discharger := omega) only [xz,xc,xo,xr,x0,x1,x4,xd,xb,Reg.isA,Reg.isV,Reg.stays,Reg.onto,↓reduceIte,reduceCtorEq,Nat.reduceEqDiff,Nat.reduceLT,exists_eq_left',int_lt_t,hlen]
      exact no
    · by_cases hd : ((fs[i].d.length : Nat) : Int) > 30000
      · simp (maxSteps := 2000000) (discharger := omega) only [xz,xc,xo,xr,x0,x1,x4,xd,xb,Reg.isA,Reg.isV,Reg.stays,Reg.onto,↓reduceIte,reduceCtorEq,Nat.reduceEqDiff,Nat.reduceLT,beq_self_eq_true,exists_eq_left',int_lt_t,int_lt_f,int_le_t,hlen,q1,q2,q7]
        exact no
      · by_cases hp : ((fs[i].p.length : Nat) : Int) > 30000
        · simp (maxSteps := 2000000) (discharger := omega) only [xz,xc,xo,xr,x0,x1,x4,xd,xb,Reg.isA,Reg.isV,Reg.stays,Reg.onto,↓reduceIte,reduceCtorEq,Nat.reduceEqDiff,Nat.reduceLT,beq_self_eq_true,exists_eq_left',int_lt_t,int_lt_f,int_le_t,hlen,q1,q2,q7]
          exact no
        · by_cases hkk : (k : Int) > 30000
          · simp (maxSteps := 2000000) (discharger := omega) only [xz,xc,xo,xr,x0,x1,x4,xd,Reg.isA,Reg.isV,Reg.stays,Reg.onto,↓reduceIte,reduceCtorEq,Nat.reduceEqDiff,Nat.reduceLT,beq_self_eq_true,exists_eq_left',int_lt_t,int_lt_f,int_le_t,hlen,q1,q2,q7]
            exact no
          · simp (maxSteps := 2000000) (discharger := omega) only [xz,xc,xo,xr,x0,x1,x4,xd,Reg.isA,Reg.isV,Reg.stays,Reg.onto,↓reduceIte,reduceCtorEq,Nat.reduceEqDiff,Nat.reduceLT,beq_self_eq_true,wrap_i64,int_lt_t,int_lt_f,int_le_t,hlen,q1,q2,q7]
            refine ⟨110 - (i + 1), by omega, i + 1, k + fs[i].d.length + fs[i].p.length, ?_, rfl, by omega, by omega, by omega, fun f hm => ?_⟩
            · rw [show ((i : Nat) : Int) + 1 = ((i + 1 : Nat) : Int) by omega, show ((k : Nat) : Int) + (fs[i].d.length : Nat) + (fs[i].p.length : Nat) = ((k + fs[i].d.length + fs[i].p.length : Nat) : Int) by omega]
            · rw [List.take_succ_eq_append_getElem hlt] at hm
              rcases List.mem_append.1 hm with hm | hm
              · exact hf f hm
              · rw [List.mem_singleton] at hm
                subst hm
                exact ⟨by omega, by omega⟩
  · obtain rfl : i = fs.length := by omega
    rw [List.take_length] at hf
    simp (maxSteps := 2000000) (discharger := omega) only [xz,xc,xo,xr,x0,x1,x4,xd,Reg.isA,Reg.isV,Reg.stays,Reg.onto,↓reduceIte,reduceCtorEq,Nat.reduceEqDiff,Nat.reduceLT,exists_eq_left',int_lt_f,hlen]
    exact ⟨true, rfl, fun _ => ⟨hi, fun f hm => (hf f hm).1, fun f hm => (hf f hm).2⟩⟩

end

end Go.Proofs.YtpgmohjmpaifbaaDoor.Im

/- S21Cx: tree.Cut; are there unlike chunks of one key?; are parts these bytes? -/
set_option linter.unusedVariables false
set_option linter.unusedSimpArgs false
open Go Go.Im
namespace Go.Proofs.YtpgmohjmpaifbaaDoor.Im

section
variable {n : Nat} {tot : Bool} {ω : Nat → Nat} {h : Hp}

end

/-! ### keys that are told apart -/
theorem tk32 (q : By) (z : List AV) : List.take 32 (intsOf .u8 (shaR q) ++ z) = intsOf .u8 (shaR q) := by
  have : (intsOf .u8 (shaR q)).length = 32 := by rw [io_len', shaR_len]
  rw [List.take_append_of_le_length (by omega), List.take_of_length_le (by omega)]
theorem tk32' (q : By) : List.take 32 (intsOf .u8 (shaR q)) = intsOf .u8 (shaR q) := List.take_of_length_le (by rw [io_len', shaR_len]; exact Nat.le_refl _)
theorem eqk (p q : By) : eqCells [CK.i, CK.i, CK.i, CK.i, CK.i, CK.i, CK.i, CK.i, CK.i, CK.i, CK.i, CK.i, CK.i, CK.i, CK.i, CK.i, CK.i, CK.i, CK.i, CK.i, CK.i, CK.i, CK.i, CK.i, CK.i, CK.i, CK.i, CK.i, CK.i, CK.i, CK.i, CK.i] (intsOf .u8 (shaR p)) (intsOf .u8 (shaR q)) = some (decide (keyOf p = keyOf q)) := by
  have := (kaEnc (ks := List.replicate 32 .i) rfl).eq (keyOf p) (keyOf q)
  simp only [eqAV,kA,if_true,List.replicate] at this
  exact this
theorem pcs_get : ∀ (l : List Nat) (s : By) (k : Nat) (hk : k < (pcs l s).length), (pcs l s)[k] = (s.take ((l.take k).sum + l.getD k 0)).drop (l.take k).sum
  | n :: l, s, 0, _ => by simp [pcs]
  | n :: l, s, k + 1, hk => by
    have := pcs_get l (s.drop n) k (by simpa [pcs] using hk)
    simp only [pcs,List.getElem_cons_succ,this,List.take_succ_cons,List.sum_cons,List.getD_cons_succ]
    rw [List.take_drop, List.drop_drop]
    congr 2
    omega
  | [], s, k, hk => by simp [pcs] at hk
theorem sum_take_le (l : List Nat) (i : Nat) : (l.take i).sum ≤ l.sum := by
  conv => rhs; rw [← List.take_append_drop i l]
  rw [List.sum_append]; omega
theorem sum_take_succ (l : List Nat) (i : Nat) (hi : i < l.length) : (l.take (i + 1)).sum = (l.take i).sum + l[i] := by
  rw [List.take_succ_eq_append_getElem hi, List.sum_append]; simp

section
variable {n : Nat} {tot : Bool} {ω : Nat → Nat} {h : Hp}

set_option maxRecDepth 100000 in
theorem c27 (ks : List Nat) (d : By) (P : List By) (pes : List AV) (av pv dv : AV) (hav : IsRd 33 ((pcs ks d).map fun p => (ptB p).av) av) (hpe : CE P pes) (hpv : IsRd 33 pes pv) (hdv : IsRd 1 (bytesOf d) dv) (hks : ks.sum = d.length) (hk1 : ∀ x ∈ ks, 1 ≤ x) (hkl : ks.length ≤ 1000000) (hd : d.length ≤ 1000000) (hP : P.length ≤ 1000000)
    (h1 : ∀ p ∈ pcs ks d, keyOf p ∈ P.map keyOf) (h2 : ∀ p ∈ pcs ks d, ∀ q ∈ P, keyOf q = keyOf p → q = p) (hn : ks.length + P.length + 10 < n) :
    call F n tot ω 27 [av, pv, dv] h = some (.bool true, h) := by
  obtain ⟨n, rfl⟩ : ∃ m, n = m + 1 := ⟨n - 1, by omega⟩
  refine call_eq (fn := a27) f27 ?_
  have la := IsRd.len hav
  have lp := IsRd.len hpv
  have ld := IsRd.len hdv
  have hcl := pcs_len ks d
  rw [List.length_map, hcl] at la
  rw [hpe.len] at lp
  rw [bytesOf_len] at ld
  unfold a27
  simp (maxSteps := 2000000) (discharger := omega) only [xz,xc,xo,xr,x0,Reg.isA,Reg.isV,Reg.stays,Reg.onto,↓reduceIte,reduceCtorEq,Nat.reduceEqDiff,Nat.reduceLT,Nat.reduceAdd]
  refine wpi_loop (fun x r g => ∃ k : Nat, r = [(0, .val av), (1, .val pv), (2, .val dv), (7, .val (.int .i64 ((ks.take k).sum : Nat))), (8, .val (.int .i64 k))] ∧ x = ks.length - k ∧ k ≤ ks.length ∧ g = h) ks.length (by omega)
    ⟨0, rfl, rfl, Nat.zero_le _, rfl⟩ ?_
  rintro x r g ⟨k, rfl, rfl, hk, rfl⟩
  by_cases hlt : k < ks.length
  · have hmem : (pcs ks d)[k]'(by omega) ∈ pcs ks d := List.getElem_mem _
    have hg := pcs_get ks d k (by omega)
    have hpl := pcs_pos ks d k (by omega) (by omega)
    have hgd : ks.getD k 0 = ks[k] := by simp [List.getD,hlt]
    have hst := sum_take_succ ks k hlt
    have hsl := sum_take_le ks (k + 1)
    rw [hgd] at hg hpl
    obtain ⟨ca, rfl⟩ := hav.imm (i := k) (by rw [List.length_map]; omega)
    have qa : ((pcs ks d).map fun p => (ptB p).av)[k]? = some (ptB ((pcs ks d)[k]'(by omega))).av := by
      rw [List.getElem?_map, List.getElem?_eq_getElem (by omega)]; rfl
    rw [ptB_av] at qa
    have h1' := h1 _ hmem
    have h2' := h2 _ hmem
    generalize hp : (pcs ks d)[k]'(by omega) = p at *
    simp (maxSteps := 2000000) (discharger := omega) only [xz,xc,xo,xr,x0,x1,x4,xd,Reg.isA,Reg.isV,Reg.stays,Reg.onto,↓reduceIte,reduceCtorEq,Nat.reduceEqDiff,Nat.reduceLT,int_lt_t,la]
    refine wpi_loop (fun x r g' => ∃ (j : Nat) (fd : Bool), r = [(0, .val (.imm 33 ((pcs ks d).map fun p => (ptB p).av) ca)), (1, .val pv), (2, .val dv), (7, .val (.int .i64 (if fd then ((ks.take (k + 1)).sum : Nat) else ((ks.take k).sum : Nat)))), (8, .val (.int .i64 k)), (9, .val (.bool fd)), (10, .val (.int .i64 j))] ∧ x = P.length - j ∧ j ≤ P.length ∧ g' = g ∧ (fd = false → ∀ i (hi : i < P.length), i < j → keyOf P[i] ≠ keyOf p)) P.length (by omega)
      ⟨0, false, rfl, rfl, Nat.zero_le _, rfl, fun _ i _ hi => by omega⟩ ?_
    rintro x r g' ⟨j, fd, rfl, rfl, hj, rfl, hno⟩
    cases fd with
    | true =>
      have fin : ∃ j, j < ks.length - k ∧ ∃ k_1 : Nat, [(0, Reg.val (AV.imm 33 ((pcs ks d).map fun p => (ptB p).av) ca)), (1, .val pv), (2, .val dv), (7, .val (.int .i64 ((ks.take (k + 1)).sum : Nat))), (8, .val (.int .i64 ((k : Int) + 1)))] = [(0, .val (.imm 33 ((pcs ks d).map fun p => (ptB p).av) ca)), (1, .val pv), (2, .val dv), (7, .val (.int .i64 ((ks.take k_1).sum : Nat))), (8, .val (.int .i64 k_1))] ∧ j = ks.length - k_1 ∧ k_1 ≤ ks.length :=
        ⟨ks.length - (k + 1), by omega, k + 1, by rw [show ((k : Nat) : Int) + 1 = ((k + 1 : Nat) : Int) by omega], rfl, by omega⟩
      by_cases hjl : j < P.length
      · simp (maxSteps := 2000000) (discharger := omega) only [xz,xc,xo,xr,x0,x1,x2,x4,xd,Reg.isA,Reg.isV,Reg.stays,Reg.onto,↓reduceIte,reduceCtorEq,Nat.reduceEqDiff,Nat.reduceLT,beq_self_eq_true,wrap_i64,int_lt_t,lp]
        exact fin
      · simp (maxSteps := 2000000) (discharger := omega) only [xz,xc,xo,xr,x0,x1,x2,x4,xd,xb,Reg.isA,Reg.isV,Reg.stays,Reg.onto,↓reduceIte,reduceCtorEq,Nat.reduceEqDiff,Nat.reduceLT,wrap_i64,int_lt_f,lp]
        exact fin
    | false =>
      by_cases hjl : j < P.length
      · obtain ⟨cq, hq⟩ := hpe.get hjl
        obtain ⟨cp, rfl⟩ := hpv.imm (i := j) (by rw [hpe.len]; exact hjl)
        have hgl : (bytesOf P[j]).length = P[j].length := bytesOf_len _
        have x32 : ∀ q z, List.length (intsOf .u8 (shaR q) ++ [z]) = 33 := fun q z => by simp [io_len',shaR_len]
        have g32 : ∀ q z, (intsOf .u8 (shaR q) ++ [z])[32]? = some z := fun q z => by
          rw [List.getElem?_append_right (by rw [io_len', shaR_len]; exact Nat.le_refl _), io_len', shaR_len]; rfl
        by_cases he : keyOf P[j] = keyOf p
        · have hpj := h2' _ (List.getElem_mem hjl) he
          rw [hpj] at hq hgl
          have hge : 1 ≤ ks[k] := hk1 _ (List.getElem_mem hlt)
          obtain ⟨cd, rfl⟩ := hdv.imm (i := (ks.take k).sum) (by rw [bytesOf_len]; omega)
          simp (maxSteps := 2000000) (discharger := omega) only [xz,xc,xo,xr,x0,x1,x2,x3,x4,xd,xe,xb,slOk,sliceV,selems,eqAV,Bool.bne_false,Reg.isA,Reg.isV,Reg.stays,Reg.onto,↓reduceIte,reduceCtorEq,Nat.reduceEqDiff,Nat.reduceLT,Option.getD_some,beq_self_eq_true,exists_eq_left',wrap_i64,int_lt_t,int_lt_f,int_le_t,nat_le_t,lp,qa,hq,tk32,tk32',shaR_len,eqk,x32,g32,hgl,ld]
          have e1 : (((ks.take k).sum : Nat) + (p.length : Nat) : Int).toNat = (ks.take k).sum + ks[k] := by omega
          have e2 : ((ks.take k).sum : Int) + (p.length : Int) = (((ks.take (k + 1)).sum : Nat) : Int) := by omega
          rw [e1, ← hg, e2, if_neg (by simp)]
          exact ⟨P.length - (j + 1), by omega, j + 1, true, by rw [show ((j : Nat) : Int) + 1 = ((j + 1 : Nat) : Int) by omega]; rfl, rfl, by omega, fun h => by cases h⟩
        · simp (maxSteps := 2000000) (discharger := omega) only [xz,xc,xo,xr,x0,x1,x2,x4,xd,xe,eqAV,Bool.bne_false,Reg.isA,Reg.isV,Reg.stays,Reg.onto,↓reduceIte,reduceCtorEq,Nat.reduceEqDiff,Nat.reduceLT,beq_self_eq_true,wrap_i64,int_lt_t,int_le_t,nat_le_t,lp,qa,hq,tk32,tk32',shaR_len,eqk,x32,he]
          exact ⟨P.length - (j + 1), by omega, j + 1, false, by rw [show ((j : Nat) : Int) + 1 = ((j + 1 : Nat) : Int) by omega]; rfl, rfl, by omega, fun _ i hi hij => by
            by_cases e : i = j
            · subst e; exact he
            · exact hno rfl i hi (by omega)⟩
      · exfalso
        obtain ⟨q, hq1, hq2⟩ := List.mem_map.1 h1'
        obtain ⟨i, hi, rfl⟩ := List.getElem_of_mem hq1
        exact hno rfl i hi (by omega) hq2
  · obtain rfl : k = ks.length := by omega
    rw [List.take_length, hks]
    simp (maxSteps := 2000000) (discharger := omega) only [xz,xc,xo,xr,x0,x1,x4,xd,Reg.isA,Reg.isV,Reg.stays,Reg.onto,↓reduceIte,reduceCtorEq,Nat.reduceEqDiff,Nat.reduceLT,beq_self_eq_true,exists_eq_left',int_lt_f,Nat.sub_self,la,ld]

def Nc (l : List By) : Prop := ∀ p ∈ l, ∀ q ∈ l, keyOf p = keyOf q → p = q
def allP (l m M : Int) (fs : List Fl) : List By := fs.flatMap fun f => pcs (cutR l m M f.d) f.d
theorem Nc.snoc {l : List By} {p : By} (h : Nc l) (hp : ∀ q ∈ l, keyOf q = keyOf p → q = p) : Nc (l ++ [p]) := fun x hx y hy e => by
  rcases List.mem_append.1 hx with hx | hx <;> rcases List.mem_append.1 hy with hy | hy
  · exact h x hx y hy e
  · rw [List.mem_singleton] at hy; rw [hy] at e ⊢; exact hp x hx e
  · rw [List.mem_singleton] at hx; rw [hx] at e ⊢; exact (hp y hy e.symm).symm
  · rw [List.mem_singleton] at hx hy; rw [hx, hy]
theorem allP_len (l m M : Int) : ∀ (fs : List Fl), (allP l m M fs).length ≤ szOf fs
  | [] => by simp [allP,szOf]
  | f :: fs => by
    have := allP_len l m M fs
    have h2 := (cutR_sum l m M f.d).2.2
    have h3 := pcs_len (cutR l m M f.d) f.d
    simp only [allP,List.flatMap_cons,List.length_append,szOf,List.map_cons,List.sum_cons] at this ⊢
    omega

structure Seen (l : List By) (g : Hp) (kv tv : AV) : Prop where
  ex : ∃ a b, TokAt 32 (l.map fun p => kA (keyOf p)) g kv a ∧ TokAt 1 (l.map AV.str) g tv b ∧ (∀ x, a = some x → x < g.length ∧ b ≠ some x) ∧ (∀ x, b = some x → x < g.length)
theorem Seen.below {l : List By} {g g' : Hp} {kv tv : AV} (s : Seen l g kv tv) (hB : Below g.length g g') : Seen l g' kv tv := by
  obtain ⟨a, b, h1, h2, h3, h4⟩ := s.ex
  have := hB.1
  exact ⟨a, b, h1.keep fun i o hi ho => by rw [hB.2 i (h3 i hi).1]; exact ho, h2.keep fun i o hi ho => by rw [hB.2 i (h4 i hi)]; exact ho, fun x hx => ⟨by have := (h3 x hx).1; omega, (h3 x hx).2⟩, fun x hx => by have := h4 x hx; omega⟩

theorem Seen.push {l : List By} {g : Hp} {kv tv : AV} (s : Seen l g kv tv) (p : By) (hl : l.length ≤ 1000000000) :
    ∃ kv' g1 tv' g2, appendV false 32 32 kv [.agg (intsOf .u8 (shaR p))] g = some (kv', g1) ∧ appendV false 1 16 tv [.str p] g1 = some (tv', g2) ∧ Seen (l ++ [p]) g2 kv' tv' ∧ kv.isRow = false ∧ tv.isRow = false := by
  obtain ⟨a, b, h1, h2, h3, h4⟩ := s.ex
  obtain ⟨kv', g1, w1, w2, w3, w4, cw, w5⟩ := tok_app (bytes := 32) (xs := [.agg (intsOf .u8 (shaR p))]) h1 (by simp) (by simp; omega)
  have h2' : TokAt 1 (l.map AV.str) g1 tv b := h2.keep fun i o hi ho => w4 i o ho fun e => (h3 i e).2 hi
  obtain ⟨tv', g2, y1, y2, y3, y4, cy, y5⟩ := tok_app (bytes := 16) (xs := [.str p]) h2' (by simp) (by simp; omega)
  refine ⟨kv', g1, tv', g2, w1, y1, ⟨some g.length, some g1.length, ?_, ?_, fun x hx => ?_, fun x hx => ?_⟩, h1.1.isRow, h2.1.isRow⟩
  · rw [List.map_append]
    exact w2.keep fun i o hi ho => by cases hi; exact y4 _ o ho fun e => by have := h4 _ e; omega
  · rw [List.map_append]; exact y2
  · cases hx; exact ⟨by omega, fun e => by have := Option.some.inj e; omega⟩
  · cases hx; exact y3

set_option maxRecDepth 100000 in
theorem c26 (c : AV) (l m M : Int) (fs : List Fl) (a : AV) (hc : Cf c l m M) (hok : okConf l m M) (ha : IsRd 2 (fs.map Fl.av) a) (hfs : ∀ f ∈ fs, f.ok) (hf : Few fs) (hn : 40000000 < n) :
    ∃ b h', call F n tot ω 26 [c, a] h = some (.bool b, h') ∧ (b = false → Nc (allP l m M fs)) := by
  obtain ⟨n, rfl⟩ : ∃ m, n = m + 1 := ⟨n - 1, by omega⟩
  suffices hx : ∃ v h', call F (n + 1) tot ω 26 [c, a] h = some (v, h') ∧ ∃ b, v = .bool b ∧ (b = false → Nc (allP l m M fs)) by
    obtain ⟨v, h', e1, b, rfl, e2⟩ := hx
    exact ⟨b, h', e1, e2⟩
  refine call_of (fn := a26) f26 (P := fun v h' => ∃ b, v = .bool b ∧ (b = false → Nc (allP l m M fs))) ?_
  obtain ⟨cs, hcs, hl, h8, h9, h10⟩ := hc.agg
  subst hcs
  have t12 : List.take 12 cs = cs := List.take_of_length_le (by omega)
  have hnum := hf.num
  have hlen := IsRd.len ha
  rw [List.length_map] at hlen
  unfold a26
  simp (maxSteps := 2000000) (discharger := omega) only [xz,xc,xo,xr,x0,xd,Reg.isA,Reg.isV,Reg.stays,Reg.onto,↓reduceIte,reduceCtorEq,Nat.reduceEqDiff,Nat.reduceLT,Nat.reduceAdd,hl]
  refine wpi_loop (fun x r g => ∃ (i : Nat) (kv tv : AV), r = [(1, .val a), (2, .var (.agg cs)), (5, .val kv), (6, .val tv), (7, .val (.int .i64 i))] ∧ x = fs.length - i ∧ i ≤ fs.length ∧ Seen (allP l m M (fs.take i)) g kv tv ∧ Nc (allP l m M (fs.take i))) fs.length (by omega)
    ⟨0, .nils, .nils, rfl, rfl, Nat.zero_le _, ⟨none, none, tok_nils _ _ _, tok_nils _ _ _, by simp, by simp⟩, fun p hp => by simp [allP] at hp⟩ ?_
  rintro x r g ⟨i, kv, tv, rfl, rfl, hi, hS, hN⟩
  by_cases hlt : i < fs.length
  · obtain ⟨ca, rfl⟩ := ha.imm (i := i) (by simpa using hlt)
    have qf := fl_get hlt
    have hfo := hfs _ (List.getElem_mem hlt)
    have hfd := hf.data _ (List.getElem_mem hlt)
    have hal := allP_len l m M (fs.take i)
    have hsz := hf.take i
    have hall : allP l m M (fs.take (i + 1)) = allP l m M (fs.take i) ++ pcs (cutR l m M fs[i].d) fs[i].d := by
      unfold allP; rw [List.take_succ_eq_append_getElem hlt, List.flatMap_append]; simp
    generalize hA : allP l m M (fs.take i) = A at *
    have hfl := Fl.len hfo
    have hfs1 := fl_sub hfo 1
    have hel := rd_el hfo
    obtain ⟨lv, h1, k52, hlv, hB1⟩ := c52 (n := n) (tot := tot) (ω := ω) (h := g) (.agg cs) l m M fs[i].d ⟨cs, rfl, hl, h8, h9, h10⟩ hok.2.1 (by have := hok.2.2.1; omega) (by omega) (by omega)
    have hS1 := hS.below hB1
    obtain ⟨r1, r2, r3⟩ := cutR_sum l m M fs[i].d
    have hpl := pcs_len (cutR l m M fs[i].d) fs[i].d
    have tb : toBytes (bytesOf fs[i].d) = some fs[i].d := toBytes_bytesOf _
    have hfok : IsRd 1 (bytesOf fs[i].d) fs[i].v := hfo
    generalize fs[i].d = d at *
    generalize fs[i].v = dv at *
    generalize cutR l m M d = ks at *
    have hll := hlv.len
    rw [show (nsOf ks).length = ks.length by simp [nsOf]] at hll
    simp (maxSteps := 2000000) (discharger := omega) only [xz,xc,xo,xr,x0,x1,x2,x4,xd,kont_call,selems,Reg.isA,Reg.isV,Reg.stays,Reg.onto,↓reduceIte,Nat.reduceEqDiff,Nat.reduceLT,int_lt_t,int_le_t,nat_le_t,hlen,qf,hfs1,hel,tb,t12,hl,k52]
    refine wpi_loop (fun x r g => ∃ (k : Nat) (kv tv : AV), r = [(1, .val (.imm 2 (fs.map Fl.av) ca)), (2, .var (.agg cs)), (5, .val kv), (6, .val tv), (7, .val (.int .i64 i)), (8, .val lv), (9, .val (.int .i64 ((ks.take k).sum : Nat))), (10, .val (.int .i64 k))] ∧ x = ks.length - k ∧ k ≤ ks.length ∧ Seen (A ++ (pcs ks d).take k) g kv tv ∧ Nc (A ++ (pcs ks d).take k)) ks.length (by omega)
      ⟨0, kv, tv, rfl, rfl, Nat.zero_le _, by simpa using hS1, by simpa using hN⟩ ?_
    rintro x r g2 ⟨k, kv, tv, rfl, rfl, hk, hS2, hN2⟩
    by_cases hklt : k < ks.length
    · have hge := r2 _ (List.getElem_mem hklt)
      have hst := sum_take_succ ks k hklt
      have hsl := sum_take_le ks (k + 1)
      have hg := pcs_get ks d k (by omega)
      have hgd : ks.getD k 0 = ks[k] := by simp [List.getD,hklt]
      have hln := pcs_pos ks d k (by omega) (by omega)
      rw [hgd] at hg hln
      obtain ⟨cd, rfl⟩ := hfok.imm (i := 0) (by rw [bytesOf_len]; omega)
      obtain ⟨cl, rfl⟩ := hlv.imm (i := k) (by simpa [nsOf] using hklt)
      have q1 : (nsOf ks)[k]? = some (.int .i64 (ks[k] : Nat)) := by simp [nsOf,hklt]
      have htk : (pcs ks d).take (k + 1) = (pcs ks d).take k ++ [(pcs ks d)[k]'(by omega)] := List.take_succ_eq_append_getElem (by omega)
      generalize hp : (pcs ks d)[k]'(by omega) = p at *
      obtain ⟨h3, k22, hB3⟩ := c22 (n := n) (tot := tot) (ω := ω) (h := g2) p .full (by omega) (by omega)
      have hS3 := hS2.below hB3
      have hBl : (A ++ (pcs ks d).take k).length ≤ 4000000 := by rw [List.length_append, List.length_take]; omega
      generalize hBd : A ++ (pcs ks d).take k = B at *
      obtain ⟨kv', g4, tv', g5, y1, y2, y3, y4, y5⟩ := hS3.push p (by omega)
      have e1 : (((ks.take k).sum : Nat) : Int) + ((ks[k] : Nat) : Int) = (((ks.take k).sum + ks[k] : Nat) : Int) := by omega
      have z32 : (AV.agg [AV.int .u8 0, AV.int .u8 0, AV.int .u8 0, AV.int .u8 0, AV.int .u8 0, AV.int .u8 0, AV.int .u8 0, AV.int .u8 0, AV.int .u8 0, AV.int .u8 0, AV.int .u8 0, AV.int .u8 0, AV.int .u8 0, AV.int .u8 0, AV.int .u8 0, AV.int .u8 0, AV.int .u8 0, AV.int .u8 0, AV.int .u8 0, AV.int .u8 0, AV.int .u8 0, AV.int .u8 0, AV.int .u8 0, AV.int .u8 0, AV.int .u8 0, AV.int .u8 0, AV.int .u8 0, AV.int .u8 0, AV.int .u8 0, AV.int .u8 0, AV.int .u8 0, AV.int .u8 0] : AV) = .agg (intsOf .u8 Z32R) := rfl
      have hz : Z32R.length = 32 := rfl
      have hd32 : List.drop 32 (intsOf .u8 Z32R) = [] := rfl
      obtain ⟨ka, kb, t1, t2, t3, t4⟩ := hS3.ex
      have hkl := t1.1.len
      have htl := t2.1.len
      rw [List.length_map] at hkl htl
      simp (maxSteps := 2000000) (discharger := omega) only [xz,xc,xo,xr,x0,x1,x2,x3,x4,x5,xd,xe,xb,kont_call,slOk,sliceV,selems,wr,partEs,placeEs,Reg.isA,Reg.isV,Reg.stays,Reg.onto,↓reduceIte,Nat.reduceEqDiff,Nat.reduceLT,Nat.zero_lt_succ,Option.getD_some,beq_self_eq_true,xu,List.set_cons_zero,wrap_i64,int_lt_t,int_le_t,nat_le_t,hll,qf,q1,e1,← hg,z32,k22,List.replicate,hz,shaR_len,hd32]
      refine wpi_loop (fun x r g => ∃ (j : Nat), r = [(1, .val (.imm 2 (fs.map Fl.av) ca)), (2, .var (.agg cs)), (5, .val kv), (6, .val tv), (7, .val (.int .i64 i)), (8, .val (.imm 1 (nsOf ks) cl)), (9, .val (.int .i64 ((ks.take k).sum : Nat))), (10, .val (.int .i64 k)), (11, .val (.str p)), (12, .var (.agg (intsOf .u8 (shaR p)))), (13, .val (.int .i64 j))] ∧ x = B.length - j ∧ j ≤ B.length ∧ g = h3 ∧ ∀ i (hi : i < B.length), i < j → keyOf B[i] = keyOf p → B[i] = p) B.length (by omega)
        ⟨0, rfl, rfl, Nat.zero_le _, rfl, fun i _ hi => by omega⟩ ?_
      rintro x r g6 ⟨j, rfl, rfl, hj, rfl, hno⟩
      by_cases hjl : j < B.length
      · obtain ⟨ck, rfl⟩ := t1.1.imm (by intro e; have := congrArg List.length e; simp at this; subst this; simp at hjl)
        obtain ⟨ct, rfl⟩ := t2.1.imm (by intro e; have := congrArg List.length e; simp at this; subst this; simp at hjl)
        have u1 : (B.map fun p => kA (keyOf p))[j]? = some (.agg (intsOf .u8 (shaR B[j]))) := by rw [List.getElem?_map, List.getElem?_eq_getElem hjl]; rfl
        have u2 : (B.map AV.str)[j]? = some (.str B[j]) := by simp [hjl]
        by_cases he : keyOf B[j] = keyOf p
        · by_cases heq : B[j] = p
          · simp (maxSteps := 2000000) (discharger := omega) only [xz,xc,xo,xr,x0,x1,x2,x4,xd,xe,eqAV,Bool.bne_false,Reg.isA,Reg.isV,Reg.stays,Reg.onto,↓reduceIte,Nat.reduceEqDiff,Nat.reduceLT,beq_self_eq_true,wrap_i64,int_lt_t,int_le_t,nat_le_t,List.length_map,u1,u2,shaR_len,tk32',eqk,heq]
            exact ⟨B.length - (j + 1), by omega, j + 1, by rw [show ((j : Nat) : Int) + 1 = ((j + 1 : Nat) : Int) by omega], rfl, by omega, fun i hi hij => by
              by_cases e : i = j
              · subst e; exact fun _ => heq
              · exact hno i hi (by omega)⟩
          · have hbe : (B[j] == p) = false := by simpa using heq
            simp (maxSteps := 2000000) (discharger := omega) only [xz,xc,xo,xr,x0,x1,x2,x4,xd,xe,eqAV,Bool.bne_false,Reg.isA,Reg.isV,Reg.stays,Reg.onto,↓reduceIte,Nat.reduceEqDiff,Nat.reduceLT,beq_self_eq_true,exists_eq_left',int_lt_t,int_le_t,nat_le_t,List.length_map,u1,u2,shaR_len,tk32',eqk,he,hbe]
            exact ⟨true, rfl, fun h => by cases h⟩
        · simp (maxSteps := 2000000) (discharger := omega) only [xz,xc,xo,xr,x0,x1,x2,x4,xd,xe,xb,eqAV,Bool.bne_false,Reg.isA,Reg.isV,Reg.stays,Reg.onto,↓reduceIte,Nat.reduceEqDiff,Nat.reduceLT,wrap_i64,int_lt_t,int_le_t,nat_le_t,List.length_map,u1,shaR_len,tk32',eqk,he]
          exact ⟨B.length - (j + 1), by omega, j + 1, by rw [show ((j : Nat) : Int) + 1 = ((j + 1 : Nat) : Int) by omega], rfl, by omega, fun i hi hij => by
            by_cases e : i = j
            · subst e; exact fun h => absurd h he
            · exact hno i hi (by omega)⟩
      · have hNp : Nc (B ++ [p]) := hN2.snoc fun q hq e => by
          obtain ⟨i, hi, rfl⟩ := List.getElem_of_mem hq
          exact hno i hi (by omega) e
        simp (maxSteps := 2000000) (discharger := omega) only [xz,xc,xo,xr,x0,x1,x3,x4,x5,xd,xe,xb,selems,srcElems,partEs,placeEs,Reg.isA,Reg.isV,Reg.stays,Reg.onto,↓reduceIte,Nat.reduceEqDiff,Nat.reduceLT,Nat.zero_lt_succ,List.set_cons_zero,wrap_i64,int_lt_f,int_le_t,nat_le_t,hkl,List.replicate,shaR_len,tk32',y1,y2,y4,y5,q1,e1]
        refine ⟨ks.length - (k + 1), by omega, k + 1, kv', tv', by rw [hst, show ((k : Nat) : Int) + 1 = ((k + 1 : Nat) : Int) by omega], rfl, by omega, ?_, ?_⟩
        · rw [htk, ← List.append_assoc, hBd]; exact y3
        · rw [htk, ← List.append_assoc, hBd]; exact hNp
    · obtain rfl : k = ks.length := by omega
      rw [List.take_of_length_le (by omega)] at hS2 hN2
      simp (maxSteps := 2000000) (discharger := omega) only [xz,xc,xo,xr,x0,x1,x4,xd,Reg.isA,Reg.isV,Reg.stays,Reg.onto,↓reduceIte,Nat.reduceEqDiff,Nat.reduceLT,wrap_i64,int_lt_f,Nat.sub_self,hll]
      exact ⟨fs.length - (i + 1), by omega, i + 1, kv, tv, by rw [show ((i : Nat) : Int) + 1 = ((i + 1 : Nat) : Int) by omega], rfl, by omega, by rw [hall]; exact hS2, by rw [hall]; exact hN2⟩
  · obtain rfl : i = fs.length := by omega
    rw [List.take_length] at hN
    simp (maxSteps := 2000000) (discharger := omega) only [xz,xc,xo,xr,x0,x1,x4,xd,Reg.isA,Reg.isV,Reg.stays,Reg.onto,↓reduceIte,Nat.reduceEqDiff,Nat.reduceLT,exists_eq_left',int_lt_f,Nat.sub_self,hlen]
    exact ⟨false, rfl, fun _ => hN⟩
end
end Go.Proofs.YtpgmohjmpaifbaaDoor.Im

/- S21Dp: the plain law of where two trees differ. -/
set_option linter.unusedVariables false
set_option linter.unusedSimpArgs false
open Go Go.Im
namespace Go.Proofs.YtpgmohjmpaifbaaDoor.Im

def Rise (L : List Lf) : Prop := L.Pairwise fun x y => Op.bytesLess x.p y.p = true
def same (B : List Lf) (x : Lf) : Bool := match fnd B x.p with
  | some y => decide (x.ps = y.ps)
  | none => false
def cnt (A B : List Lf) : Nat := (A.filter (same B)).length
def both (D : List Ch) : Nat := (D.filter fun c => c.w && c.i).length

theorem bl_asymm {a b : By} (h : Op.bytesLess a b = true) : Op.bytesLess b a = false := by
  cases h2 : Op.bytesLess b a with
  | false => rfl
  | true => have := bl_trans _ _ _ h h2; rw [bl_irrefl] at this; cases this

structure DiffOk (A B : List Lf) (D : List Ch) : Prop where
  from' : ∀ c ∈ D, (∃ x ∈ A, x.p = c.p) ∨ ∃ y ∈ B, y.p = c.p
  rise : D.Pairwise fun x y => Op.bytesLess x.p y.p = true
  was : ∀ c ∈ D, (fnd A c.p).isSome = c.w
  is' : ∀ c ∈ D, (fnd B c.p).isSome = c.i
  ne : ∀ c ∈ D, ∀ x y, fnd A c.p = some x → fnd B c.p = some y → ¬ x.ps = y.ps
  num : A.length + B.length = 2 * cnt A B + D.length + both D

end Go.Proofs.YtpgmohjmpaifbaaDoor.Im

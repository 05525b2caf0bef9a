/- Joined: S20Rw, S20Rx, S20Rl. -/
import Derived.Test.YtcnbllelfinlmaaDoorRz
import Derived.Test.YtcnbllelfinlmaaDoorImRng
/- S20Rw: the code's Resolve. -/
set_option linter.unusedVariables false
set_option linter.unusedSimpArgs false
open Go Go.Im
namespace Go.Proofs.YtcnbllelfinlmaaDoor.Im

def chain (rs : List Rc) : Nat → List Int → Int ⊕ (By × List By)
  | 0, k => match findR rs k with
    | none => .inl 9
    | some r => if r.patch then .inl 14 else .inr (r.body, [])
  | m + 1, k => match findR rs k with
    | none => .inl 9
    | some r => if r.patch then (match chain rs m r.base with
      | .inl e => .inl e
      | .inr (b, ps) => .inr (b, r.body :: ps)) else .inr (r.body, [])
def unw (acc : Option By) (ps : List By) : Option By := ps.foldr (fun p a => a.bind fun b => match apply b p with
  | .inl _ => none
  | .inr o => some o) acc
theorem unw_none (ps : List By) : unw none ps = none := by
  induction ps with
  | nil => rfl
  | cons p ps ih => show Option.bind (unw none ps) _ = _; rw [ih]; rfl
theorem unw_snoc (a : Option By) (ps : List By) (p : By) : unw a (ps ++ [p]) = unw (a.bind fun b => match apply b p with
  | .inl _ => none
  | .inr o => some o) ps := by unfold unw; rw [List.foldr_append]; rfl
theorem made_chain (rs : List Rc) : ∀ (m : Nat) (k : List Int), made rs m k = match chain rs m k with
    | .inl e => .inl e
    | .inr (b, ps) => match unw (some b) ps with
      | none => .inl 12
      | some o => .inr (o, ps.length)
  | 0, k => by
    unfold made chain
    cases findR rs k with
    | none => rfl
    | some r => dsimp only; split <;> rfl
  | m + 1, k => by
    unfold made chain
    cases findR rs k with
    | none => rfl
    | some r =>
      dsimp only
      split
      · rw [made_chain rs m r.base]
        cases chain rs m r.base with
        | inl e => rfl
        | inr q =>
          obtain ⟨b, ps⟩ := q
          dsimp only
          have e : unw (some b) (r.body :: ps) = (unw (some b) ps).bind fun b => match apply b r.body with
            | .inl _ => none
            | .inr o => some o := rfl
          rw [e]
          cases unw (some b) ps with
          | none => rfl
          | some o =>
            dsimp only [Option.bind]
            cases apply o r.body <;> rfl
      · rfl
theorem chain_ok {rs : List Rc} (hok : ∀ r ∈ rs, r.ok) : ∀ {m : Nat} {k : List Int} {b : By} {ps : List By}, chain rs m k = .inr (b, ps) → b.length ≤ 100000 ∧ ps.length ≤ m ∧ ∀ p ∈ ps, p.length ≤ 100000
  | 0, k, b, ps, h => by
    unfold chain at h
    cases hf : findR rs k with
    | none => rw [hf] at h; cases h
    | some r =>
      rw [hf] at h
      dsimp only at h
      split at h
      · cases h
      · cases h; exact ⟨(find_ok hok hf).1.2.2, by simp, by simp⟩
  | m + 1, k, b, ps, h => by
    unfold chain at h
    cases hf : findR rs k with
    | none => rw [hf] at h; cases h
    | some r =>
      rw [hf] at h
      dsimp only at h
      split at h
      · cases hm : chain rs m r.base with
        | inl e => rw [hm] at h; cases h
        | inr q =>
          obtain ⟨b2, d2⟩ := q
          rw [hm] at h
          dsimp only at h
          have ih := chain_ok hok hm
          cases h
          refine ⟨ih.1, by simp; exact ih.2.1, fun p hp => ?_⟩
          rcases List.mem_cons.1 hp with rfl | hp
          · exact (find_ok hok hf).1.2.2
          · exact ih.2.2 p hp
      · cases h; exact ⟨(find_ok hok hf).1.2.2, by simp, by simp⟩
def onto (acc : List By) : Int ⊕ (By × List By) → Int ⊕ (By × List By)
  | .inl e => .inl e
  | .inr (b, ps) => .inr (b, acc ++ ps)
def hd17 : AC := (.region [] [⟨some 13,AOp.mov (AX.t 55),none⟩] [4,5,6,8,13])
def bd17 : AC := (.block 3
        (.seq
        (.region [] [⟨some 14, AOp.mov (AX.c (AV.int (IntKind.i64) 0)), none⟩] [4, 5, 6, 8, 13])
        (.seq
        (.region [] [⟨some 57, AOp.load false 1 (AX.t 8), none⟩,
          ⟨some 58, AOp.mov (AX.t 13), none⟩,
          ⟨some 59, AOp.call 47 [AX.t 57, AX.t 58], none⟩,
          ⟨some 56, AOp.mov (AX.t 59), none⟩,
          ⟨some 60, AOp.extract (AX.t 56) 0, none⟩,
          ⟨some 61, AOp.extract (AX.t 56) 1, none⟩,
          ⟨none, AOp.store 1 (AX.t 8) (AX.t 60), none⟩,
          ⟨some 14, AOp.mov (AX.t 61), none⟩] [4, 5, 6, 14])
        (.seq
        (.region [] [⟨some 62, AOp.mov (AX.t 14), none⟩,
          ⟨some 63, AOp.bin (BinOp.neq) (AX.t 62) (AX.c (AV.int (IntKind.i64) 0)), none⟩] [4, 5, 6, 63])
        (.cond (AX.t 63)
          (.seq
          (.region [] [⟨none, AOp.store 1 (AX.t 4) (AX.c (AV.nils)), none⟩,
            ⟨none, AOp.store 1 (AX.t 5) (AX.c (AV.int (IntKind.i64) 0)), none⟩,
            ⟨none, AOp.store 1 (AX.t 6) (AX.c (AV.int (IntKind.i64) 12)), none⟩] [])
          AC.ret)
          AC.skip)))))
def r17 : AC := (.seq
  (.seq
  (.region [] [⟨some 52, AOp.mov (AX.t 7), none⟩,
    ⟨some 53, AOp.call 46 [AX.t 52], none⟩] [2, 4, 5, 6, 7, 8, 53])
  (.block 2
    (.rangeF (AX.t 53) [54, 55]
      hd17
      bd17)))
  (.seq
  (.seq
  (.region [0, 1, 2, 4, 3, 5] [⟨some 64, AOp.load false 1 (AX.t 8), none⟩,
    ⟨some 65, AOp.bytesToStr (AX.t 64), none⟩,
    ⟨some 66, AOp.litS false 1 (AV.str []) 1 [(0, AX.t 65)], none⟩,
    ⟨some 68, AOp.loadL true 32 (AX.t 2), none⟩,
    ⟨some 67, AOp.call 19 [AX.t 66], none⟩,
    ⟨some 69, AOp.eql true true [CK.i, CK.i, CK.i, CK.i, CK.i, CK.i, CK.i, CK.i, CK.i, CK.i, CK.i, CK.i, CK.i, CK.i, CK.i, CK.i, CK.i, CK.i, CK.i, CK.i, CK.i, CK.i, CK.i, CK.i, CK.i, CK.i, CK.i, CK.i, CK.i, CK.i, CK.i, CK.i] (AX.t 67) (AX.t 68), none⟩] [4, 5, 6, 7, 8, 69])
  (.cond (AX.t 69)
    (.seq
    (.region [] [⟨none, AOp.store 1 (AX.t 4) (AX.c (AV.nils)), none⟩,
      ⟨none, AOp.store 1 (AX.t 5) (AX.c (AV.int (IntKind.i64) 0)), none⟩,
      ⟨none, AOp.store 1 (AX.t 6) (AX.c (AV.int (IntKind.i64) 12)), none⟩] [4, 5, 6])
    AC.ret)
    AC.skip))
  (.seq
  (.region [] [⟨some 70, AOp.load false 1 (AX.t 8), none⟩,
    ⟨some 71, AOp.mov (AX.t 7), none⟩,
    ⟨some 72, AOp.lenS (AX.t 71), none⟩,
    ⟨none, AOp.store 1 (AX.t 4) (AX.t 70), none⟩,
    ⟨none, AOp.store 1 (AX.t 5) (AX.t 72), none⟩,
    ⟨none, AOp.store 1 (AX.t 6) (AX.c (AV.int (IntKind.i64) 0)), none⟩] [4, 5, 6])
  AC.ret)))

structure RJ (A B Lp : Nat) (h0 : Hp) (w : AV) (rr : Regs) (ps : List By) (R : Option By) (k : Nat) (g : Hp) : Prop where
  fr : ∀ i, i < A → g[i]? = h0[i]?
  c0 : g[A]? = some (.row 1 [.nils])
  c1 : g[A + 1]? = some (.row 1 [.int .i64 0])
  c2 : g[A + 2]? = some (.row 1 [.int .i64 0])
  dt : ∃ b dv, g[A + 3]? = some (.row 1 [dv]) ∧ IsRd 1 (bytesOf b) dv ∧ b.length ≤ 100000 ∧ unw (some b) (ps.take k) = R
  bx : g[B]? = some (.row 1 [w])
  lp : g[Lp]? = some (.loop rr [54, 55] hd17 bd17 0 none)
structure RF (A Lp : Nat) (h0 : Hp) (rr : Regs) (R : Option By) (g : Hp) : Prop where
  fr : ∀ i, i < A → g[i]? = h0[i]?
  c0 : g[A]? = some (.row 1 [.nils])
  c1 : g[A + 1]? = some (.row 1 [.int .i64 0])
  c2 : g[A + 2]? = some (.row 1 [.int .i64 12])
  no : R = none
  lp : g[Lp]? = some (.loop rr [54, 55] hd17 bd17 2 (some .ret))
def rr17 (A B : Nat) (w : AV) : Regs := [(4, .val (.ptr A 1 0 0)), (5, .val (.ptr (A + 1) 1 0 0)), (6, .val (.ptr (A + 2) 1 0 0)), (7, .val w), (8, .val (.ptr (A + 3) 1 0 0)), (53, .val (.fn (.func 78) [] [.ptr B 1 0 0]))]
section
variable {n : Nat} {tot : Bool} {ω : Nat → Nat}
set_option maxRecDepth 100000 in
set_option maxHeartbeats 4000000 in
theorem rd17 (A B Lp : Nat) (h0 : Hp) (w : AV) (ps : List By) (R : Option By) (k : Nat) (g : Hp) (hB : A + 3 < B) (hLp : B < Lp) (hk : k < ps.length) (hp : ps[k].length ≤ 100000) (J : RJ A B Lp h0 w (rr17 A B w) ps R (k + 1) g) (hn : 250000 < n) :
    ∃ v g', round F n tot ω Lp [.int .i64 k, .str ps[k]] g = some (v, g') ∧ ((v = .bool true ∧ RJ A B Lp h0 w (rr17 A B w) ps R k g') ∨ (v = .bool false ∧ RF A Lp h0 (rr17 A B w) R g')) := by
  obtain ⟨n, rfl⟩ : ∃ m, n = m + 1 := ⟨n - 1, by omega⟩
  obtain ⟨fr, c0, c1, c2, ⟨b, dv, dt, hd, hb, hu⟩, bx, lp⟩ := J
  refine round_of lp rfl ?_
  have e : putArgs (rr17 A B w) [54, 55] [.int .i64 k, .str ps[k]] = rr17 A B w ++ [(54, .val (.int .i64 k)), (55, .val (.str ps[k]))] := rfl
  rw [e]
  unfold rr17
  have hlen := (List.getElem?_eq_some_iff.1 lp).1
  generalize hrr : [(4, Reg.val (.ptr A 1 0 0)), (5, .val (.ptr (A + 1) 1 0 0)), (6, .val (.ptr (A + 2) 1 0 0)), (7, .val w), (8, .val (.ptr (A + 3) 1 0 0)), (53, .val (.fn (.func 78) [] [.ptr B 1 0 0]))] = rr at *
  have lp' : g[Lp]? = some (.loop rr [54, 55] hd17 bd17 0 none) := by rw [← hrr]; exact lp
  clear lp
  have lp0 : ∀ o, (g.set Lp o)[Lp]? = some o := fun o => get_set_self hlen
  have lne : ∀ o i, i ≠ Lp → (g.set Lp o)[i]? = g[i]? := fun o i hi => by rw [List.getElem?_set_ne (Ne.symm hi)]
  have vs := rd_sub hd 1
  have udn : upd dv 0 .nils = some .nils := by rcases hd with ⟨e, _⟩ | ⟨c, e⟩ <;> rw [e] <;> rfl
  have udi : ∀ o c, upd dv 0 (.imm 1 o c) = some (.imm 1 o c) := fun o c => by rcases hd with ⟨e, _⟩ | ⟨c, e⟩ <;> rw [e] <;> rfl
  have un0 : upd .nils 0 .nils = some .nils := rfl
  have ui : ∀ a b, upd (.int .i64 a) 0 (.int .i64 b) = some (.int .i64 b) := fun _ _ => rfl
  obtain ⟨x, g2, k47, hx, hB2⟩ := c47 (tot := tot) (ω := ω) (n := n) b ps[k] dv (g.set Lp (.loop rr [54, 55] hd17 bd17 1 none)) hd (by omega) (by omega) (by omega)
  rw [List.length_set] at hB2
  have q : ∀ i, i < g.length → i ≠ Lp → g2[i]? = g[i]? := fun i hi hne => by rw [hB2.2 i hi, lne _ _ hne]
  have qL : g2[Lp]? = some (.loop rr [54, 55] hd17 bd17 1 none) := by rw [hB2.2 _ hlen, lp0]
  have hg2 := hB2.1
  rw [List.length_set] at hg2
  have m0 : (g.set Lp (.loop rr [54, 55] hd17 bd17 1 none))[A + 3]? = some (.row 1 [dv]) := by rw [lne _ _ (by omega)]; exact dt
  have m1 : g2[A + 3]? = some (.row 1 [dv]) := by rw [q _ (by omega) (by omega)]; exact dt
  have tk : ps.take (k + 1) = ps.take k ++ [ps[k]] := by rw [List.take_succ_eq_append_getElem hk]
  rw [tk, unw_snoc] at hu
  dsimp only [Option.bind] at hu
  have sn : ∀ (o : AO) i, i ≠ A + 3 → (g2.set (A + 3) o)[i]? = g2[i]? := fun o i hi => by rw [List.getElem?_set_ne (Ne.symm hi)]
  rw [← hrr]
  unfold hd17
  simp (maxSteps := 2000000) (discharger := omega) only [xc,xo,xr,x0,List.nil_append,List.cons_append,Reg.isA,Reg.isV,Reg.stays,Reg.onto,Bool.or_false,Bool.and_false,↓reduceIte,Nat.reduceEqDiff,Nat.reduceLT,Bool.false_eq_true,Option.map_some,List.any_nil,List.any_cons]
  refine ⟨rfl, rr, [54, 55], hd17, bd17, none, lp', ?_⟩
  generalize g.set Lp (.loop rr [54, 55] hd17 bd17 1 none) = g1 at *
  unfold bd17
  cases ha : apply b ps[k] with
  | inl e =>
    rw [ha] at hx hu
    obtain ⟨rfl, he⟩ := hx
    dsimp only at hu
    rw [unw_none] at hu
    have w0 : ∀ o, (g2.set (A + 3) o)[A]? = some (.row 1 [.nils]) := fun o => by rw [sn _ _ (by omega), q _ (by omega) (by omega)]; exact c0
    have w1 : ∀ o o', ((g2.set (A + 3) o).set A o')[A + 1]? = some (.row 1 [.int .i64 0]) := fun o o' => by rw [List.getElem?_set_ne (by omega), sn _ _ (by omega), q _ (by omega) (by omega)]; exact c1
    have w2 : ∀ o o' o'', (((g2.set (A + 3) o).set A o').set (A + 1) o'')[A + 2]? = some (.row 1 [.int .i64 0]) := fun o o' o'' => by rw [List.getElem?_set_ne (by omega), List.getElem?_set_ne (by omega), sn _ _ (by omega), q _ (by omega) (by omega)]; exact c2
    simp (maxSteps := 2000000) (discharger := omega) only [xc,xo,xr,x0,x1,x3,x5,xd,kont_call,wr,Reg.isA,Reg.isV,Reg.stays,Reg.onto,Bool.or_false,Bool.and_false,↓reduceIte,Nat.reduceEqDiff,Nat.reduceLT,Nat.zero_add,Bool.false_eq_true,Option.map_some,and_self,List.length_cons,List.length_nil,List.any_nil,List.any_cons,List.getElem?_cons_zero,List.getElem?_cons_succ,List.set_cons_zero,m0,vs,k47,m1,he,udn,un0,ui,w0,w1,w2]
    have sn4 : ∀ (g : Hp) (o1 o2 o3 o4 : AO) i, i ≠ A → i ≠ A + 1 → i ≠ A + 2 → i ≠ A + 3 → ((((g.set (A + 3) o1).set A o2).set (A + 1) o3).set (A + 2) o4)[i]? = g[i]? := fun g o1 o2 o3 o4 i h1 h2 h3 h4 => by
      rw [List.getElem?_set_ne (Ne.symm h3), List.getElem?_set_ne (Ne.symm h2), List.getElem?_set_ne (Ne.symm h1), List.getElem?_set_ne (Ne.symm h4)]
    refine ⟨_, _, _, _, _, _, by rw [sn4 _ _ _ _ _ _ (by omega) (by omega) (by omega) (by omega)]; exact qL, .inr ⟨rfl, ?_⟩⟩
    have z : ∀ (o : AO) i, i ≠ Lp → (((((g2.set (A + 3) (.row 1 [.nils])).set A (.row 1 [.nils])).set (A + 1) (.row 1 [.int .i64 0])).set (A + 2) (.row 1 [.int .i64 12])).set Lp o)[i]? = ((((g2.set (A + 3) (.row 1 [.nils])).set A (.row 1 [.nils])).set (A + 1) (.row 1 [.int .i64 0])).set (A + 2) (.row 1 [.int .i64 12]))[i]? := fun o i hi => by rw [List.getElem?_set_ne (Ne.symm hi)]
    refine ⟨fun i hi => ?_, ?_, ?_, ?_, hu.symm, ?_⟩
    · rw [z _ _ (by omega), sn4 _ _ _ _ _ _ (by omega) (by omega) (by omega) (by omega), q _ (by omega) (by omega)]; exact fr i hi
    · rw [z _ _ (by omega), List.getElem?_set_ne (by omega), List.getElem?_set_ne (by omega)]; exact get_set_self (by simp; omega)
    · rw [z _ _ (by omega), List.getElem?_set_ne (by omega)]; exact get_set_self (by simp; omega)
    · rw [z _ _ (by omega)]; exact get_set_self (by simp; omega)
    · rw [get_set_self (by simp; omega), hrr]; rfl
  | inr o =>
    rw [ha] at hx hu
    obtain ⟨c, rfl⟩ := hx
    dsimp only at hu
    simp (maxSteps := 2000000) (discharger := omega) only [xc,xo,xr,x0,x1,x3,x5,xd,kont_call,wr,Reg.isA,Reg.isV,Reg.stays,Reg.onto,Bool.or_false,Bool.and_false,↓reduceIte,Nat.reduceEqDiff,Nat.reduceLT,Nat.zero_add,Bool.false_eq_true,Option.map_some,and_self,List.length_cons,List.length_nil,List.any_nil,List.any_cons,List.getElem?_cons_zero,List.getElem?_cons_succ,List.set_cons_zero,int_bne_f,m0,vs,k47,m1,udi]
    refine ⟨_, _, _, _, _, _, by rw [sn _ _ (by omega)]; exact qL, .inl ⟨rfl, ?_⟩⟩
    have z : ∀ (o o' : AO) i, i ≠ Lp → i ≠ A + 3 → ((g2.set (A + 3) o).set Lp o')[i]? = g2[i]? := fun o o' i hi h2 => by rw [List.getElem?_set_ne (Ne.symm hi), sn _ _ h2]
    have hol := apply_len ha
    refine ⟨fun i hi => ?_, ?_, ?_, ?_, ⟨o, _, ?_, .inr ⟨c, rfl⟩, by omega, hu⟩, ?_, ?_⟩
    · rw [z _ _ _ (by omega) (by omega), q _ (by omega) (by omega)]; exact fr i hi
    · rw [z _ _ _ (by omega) (by omega), q _ (by omega) (by omega)]; exact c0
    · rw [z _ _ _ (by omega) (by omega), q _ (by omega) (by omega)]; exact c1
    · rw [z _ _ _ (by omega) (by omega), q _ (by omega) (by omega)]; exact c2
    · rw [List.getElem?_set_ne (by omega)]; exact get_set_self (by omega)
    · rw [z _ _ _ (by omega) (by omega), q _ (by omega) (by omega)]; exact bx
    · rw [get_set_self (by simp; omega), hrr]; rfl
set_option maxRecDepth 100000 in
set_option maxHeartbeats 4000000 in
theorem c78 (A B Lp : Nat) (h0 : Hp) (w : AV) (ps : List By) (R : Option By) (g : Hp) (hB : A + 3 < B) (hLp : B < Lp) (hw : IsRd 1 (ps.map AV.str) w) (hl : ps.length ≤ 1000) (hp : ∀ p ∈ ps, p.length ≤ 100000) (J : RJ A B Lp h0 w (rr17 A B w) ps R ps.length g) (hn : 260000 < n) :
    ∃ g', call F n tot ω 78 [.yld Lp, .ptr B 1 0 0] g = some (.tup [], g') ∧ (RJ A B Lp h0 w (rr17 A B w) ps R 0 g' ∨ RF A Lp h0 (rr17 A B w) R g') := by
  suffices hx : ∃ v g', call F n tot ω 78 [.yld Lp, .ptr B 1 0 0] g = some (v, g') ∧ v = .tup [] ∧ (RJ A B Lp h0 w (rr17 A B w) ps R 0 g' ∨ RF A Lp h0 (rr17 A B w) R g') by
    obtain ⟨v, g', e, rfl, hh⟩ := hx
    exact ⟨g', e, hh⟩
  obtain ⟨n, rfl⟩ : ∃ m, n = m + 1 := ⟨n - 1, by omega⟩
  refine call_of (fn := a78) f78 (P := fun v g' => v = .tup [] ∧ (RJ A B Lp h0 w (rr17 A B w) ps R 0 g' ∨ RF A Lp h0 (rr17 A B w) R g')) ?_
  unfold a78
  have vs := rd_sub hw 1
  have vl := hw.len
  rw [List.length_map] at vl
  have bx := J.bx
  simp (maxSteps := 2000000) (discharger := omega) only [xc,xo,xr,x0,x1,x4,xd,Reg.isA,Reg.isV,Reg.stays,Reg.onto,Bool.or_false,Bool.and_false,↓reduceIte,reduceCtorEq,Nat.reduceEqDiff,Nat.reduceLT,Nat.reduceAdd,Nat.zero_add,Nat.not_lt_zero,Nat.zero_ne_one,Nat.one_ne_zero,Bool.false_eq_true,Option.map_some,List.any_nil,List.any_cons,List.getElem?_cons_zero,wrap_i64,bx,vs,vl]
  refine wpi_loop (fun m r g => ∃ z : Int, r = [(0, .val (.yld Lp)), (1, .val (.ptr B 1 0 0)), (3, .val (.int .i64 z))] ∧ z = (m : Int) - 1 ∧ m ≤ ps.length ∧ RJ A B Lp h0 w (rr17 A B w) ps R m g) ps.length (by omega) ⟨_, rfl, rfl, Nat.le_refl _, J⟩ ?_
  clear J bx
  rintro m r g ⟨z, rfl, hz, hm, J⟩
  have bx := J.bx
  cases m with
  | zero =>
    have hz' : ¬ z ≥ 0 := by omega
    simp (maxSteps := 2000000) (discharger := omega) only [xc,xo,xr,x0,x1,xd,Reg.isA,Reg.isV,Reg.stays,Reg.onto,Bool.or_false,Bool.and_false,↓reduceIte,reduceCtorEq,Nat.reduceEqDiff,Nat.reduceLT,Nat.not_lt_zero,Nat.one_ne_zero,Bool.false_eq_true,Option.map_some,true_and,List.any_nil,List.any_cons,Option.some.injEq,exists_eq_left',decide_false,hz']
    exact .inl J
  | succ m =>
    obtain rfl : z = (m : Int) := by omega
    have hlt : m < ps.length := by omega
    have hge : (ps.map AV.str)[m]? = some (.str ps[m]) := by rw [List.getElem?_map, List.getElem?_eq_getElem hlt]; rfl
    obtain ⟨v, g', r1, hv⟩ := rd17 (n := n) (tot := tot) (ω := ω) A B Lp h0 w ps R m g hB hLp hlt (hp _ (List.getElem_mem hlt)) J (by omega)
    rcases hw with ⟨_, e0⟩ | ⟨c, rfl⟩
    · rw [e0] at hge; cases hge
    have hz' : (m : Int) ≥ 0 := by omega
    rcases hv with ⟨rfl, J'⟩ | ⟨rfl, J'⟩
    · simp (maxSteps := 2000000) (discharger := omega) only [xc,xo,xr,x0,x1,x2,xd,kont_round,Reg.isA,Reg.isV,Reg.stays,Reg.onto,Bool.or_false,Bool.and_false,↓reduceIte,reduceCtorEq,Nat.reduceEqDiff,Nat.reduceLT,Nat.not_lt_zero,Nat.zero_ne_one,Nat.one_ne_zero,Nat.lt_irrefl,Bool.false_eq_true,Bool.not_true,Option.map_some,and_self,List.any_nil,List.any_cons,Int.toNat_natCast,decide_true,List.getElem?_cons_zero,wrap_i64,hz',bx,vs,hge,r1]
      exact ⟨m, by omega, _, rfl, rfl, by omega, J'⟩
    · simp (maxSteps := 2000000) (discharger := omega) only [xc,xo,xr,x0,x1,x2,xd,kont_round,Reg.isA,Reg.isV,Reg.stays,Reg.onto,Bool.or_false,Bool.and_false,↓reduceIte,reduceCtorEq,Nat.reduceEqDiff,Nat.reduceLT,Nat.not_lt_zero,Nat.zero_ne_one,Nat.one_ne_zero,Bool.false_eq_true,Bool.not_false,Option.map_some,and_self,true_and,List.any_nil,List.any_cons,Int.toNat_natCast,Option.some.injEq,exists_eq_left',decide_true,List.getElem?_cons_zero,hz',bx,vs,hge,r1]
      exact .inr J'
end
end Go.Proofs.YtcnbllelfinlmaaDoor.Im

/- S20Rx: the code's Resolve, joined. -/
set_option linter.unusedVariables false
set_option linter.unusedSimpArgs false
open Go Go.Im
namespace Go.Proofs.YtcnbllelfinlmaaDoor.Im

def rsR : Int ⊕ (By × Nat) → AV → Prop
  | .inl e, x => x = .tup [.nils, .int .i64 0, .int .i64 e] ∧ (e != 0) = true
  | .inr (b, d), x => ∃ dv, x = .tup [dv, .int .i64 d, .int .i64 0] ∧ IsRd 1 (bytesOf b) dv
def endQ (k : List Int) (d : Nat) : Option By → Int ⊕ (By × Nat)
  | none => .inl 12
  | some o => if shaR o = k then .inr (o, d) else .inl 12
section
variable {n : Nat} {tot : Bool} {ω : Nat → Nat}
set_option maxRecDepth 100000 in
set_option maxHeartbeats 4000000 in
theorem w_r17 (h0 : Hp) (k : List Int) (hk : k.length = 32) (w : AV) (acc : List By) (b : By) (dv : AV) (g : Hp) (hfr : Below h0.length h0 g)
    (c0 : g[h0.length]? = some (.row 1 [.nils])) (c1 : g[h0.length + 1]? = some (.row 1 [.int .i64 0])) (c2 : g[h0.length + 2]? = some (.row 1 [.int .i64 0])) (c3 : g[h0.length + 3]? = some (.row 1 [dv]))
    (hd : IsRd 1 (bytesOf b) dv) (hb : b.length ≤ 100000) (hw : IsRd 1 (acc.map AV.str) w) (ha : acc.length ≤ 1000) (hp : ∀ p ∈ acc, p.length ≤ 100000) (hn : 280000 < n) :
    Wp (kont F n tot ω) n r17 [(2, .var (.agg (intsOf .u8 k))), (4, .val (.ptr h0.length 1 0 0)), (5, .val (.ptr (h0.length + 1) 1 0 0)), (6, .val (.ptr (h0.length + 2) 1 0 0)), (7, .val w), (8, .val (.ptr (h0.length + 3) 1 0 0))] g
      (Ret [ARes.cell 4 false 1, ARes.cell 5 false 1, ARes.cell 6 false 1] fun x h' => rsR (endQ k acc.length (unw (some b) acc)) x ∧ Below h0.length h0 h') := by
  have t32 := tki hk
  have gl := (List.getElem?_eq_some_iff.1 c3).1
  have k46 := c46 (n := n) (tot := tot) (ω := ω) w g (rd_cells hw) (rd_nt hw) (by omega)
  have wl := hw.len
  rw [List.length_map] at wl
  unfold r17
  simp (maxSteps := 2000000) (discharger := omega) only [xc,xo,xr,x0,kont_call,Reg.isA,Reg.isV,Reg.stays,Reg.onto,Bool.or_false,Bool.and_false,↓reduceIte,Nat.reduceEqDiff,Nat.reduceLT,Bool.false_eq_true,Option.map_some,List.any_nil,List.any_cons,k46]
  generalize hR : unw (some b) acc = R
  have J0 : RJ h0.length g.length (g.length + 1) h0 w (rr17 h0.length g.length w) acc R acc.length (g ++ [.row 1 [w]] ++ [.loop (rr17 h0.length g.length w) [54, 55] hd17 bd17 0 none]) := by
    have e : ∀ i, i < g.length → (g ++ [AO.row 1 [w]] ++ [.loop (rr17 h0.length g.length w) [54, 55] hd17 bd17 0 none])[i]? = g[i]? := fun i hi => by rw [List.append_assoc, List.getElem?_append_left hi]
    refine ⟨fun i hi => by rw [e i (by omega)]; exact hfr.2 i hi, by rw [e _ (by omega)]; exact c0, by rw [e _ (by omega)]; exact c1, by rw [e _ (by omega)]; exact c2, ⟨b, dv, by rw [e _ (by omega)]; exact c3, hd, hb, by rw [List.take_length]; exact hR⟩, by rw [List.append_assoc, hg0]; rfl, by rw [List.append_assoc, hgk]; rfl⟩
  obtain ⟨g', k78, hJ⟩ := c78 (n := n) (tot := tot) (ω := ω) h0.length g.length (g.length + 1) h0 w acc R _ (by omega) (by omega) hw ha hp J0 (by omega)
  have eL : (g ++ [AO.row 1 [w]]).length = g.length + 1 := by simp
  have gl' : g.length + 2 ≤ g'.length ∨ True := .inr trivial
  rcases hJ with J | J
  · refine wpi_rangeF (h2 := g') (f := 78) (first := []) (captured := [.ptr g.length 1 0 0]) (v := .tup []) (r1 := rr17 h0.length g.length w) (ps1 := [54, 55]) (hd1 := hd17) (bd1 := bd17) (st := 0) (pd := none) rfl (kont_code f78) ?_ ?_ (by decide) ?_
    · rw [eL]; exact k78
    · rw [eL]; exact J.lp
    · rw [eL]
      obtain ⟨fr, d0, d1, d2, ⟨b', dv', d3, hd', hb', hu⟩, bx, lp⟩ := J
      have hu : R = some b' := hu.symm
      have lpl := (List.getElem?_eq_some_iff.1 lp).1
      have ne : ∀ i, i ≠ g.length + 1 → (g'.set (g.length + 1) .dead)[i]? = g'[i]? := fun i hi => by rw [List.getElem?_set_ne (Ne.symm hi)]
      have e0 : (g'.set (g.length + 1) .dead)[h0.length]? = some (.row 1 [.nils]) := by rw [ne _ (by omega)]; exact d0
      have e1 : (g'.set (g.length + 1) .dead)[h0.length + 1]? = some (.row 1 [.int .i64 0]) := by rw [ne _ (by omega)]; exact d1
      have e2 : (g'.set (g.length + 1) .dead)[h0.length + 2]? = some (.row 1 [.int .i64 0]) := by rw [ne _ (by omega)]; exact d2
      have e3 : (g'.set (g.length + 1) .dead)[h0.length + 3]? = some (.row 1 [dv']) := by rw [ne _ (by omega)]; exact d3
      have f1 : ∀ i, i < h0.length → (g'.set (g.length + 1) .dead)[i]? = h0[i]? := fun i hi => by rw [ne _ (by omega)]; exact fr i hi
      have gLl : h0.length + 4 ≤ (g'.set (g.length + 1) .dead).length := by simp; omega
      generalize g'.set (g.length + 1) .dead = gd at *
      have vs := rd_sub hd' 1
      have vel := rd_el hd' gd
      have tb := toBytes_bytesOf b'
      obtain ⟨gs, k19, hbs⟩ := c19 (n := n) (tot := tot) (ω := ω) (h := gd) b' .full (by omega) (by omega)
      have ek := eqk (shaR_len b') hk
      have ts := tki (shaR_len b')
      have s0 : gs[h0.length]? = some (.row 1 [.nils]) := by rw [hbs.2 _ (by omega)]; exact e0
      have s1 : ∀ o, (gs.set h0.length o)[h0.length + 1]? = some (.row 1 [.int .i64 0]) := fun o => by rw [List.getElem?_set_ne (by omega), hbs.2 _ (by omega)]; exact e1
      have s2 : ∀ o o', ((gs.set h0.length o).set (h0.length + 1) o')[h0.length + 2]? = some (.row 1 [.int .i64 0]) := fun o o' => by rw [List.getElem?_set_ne (by omega), List.getElem?_set_ne (by omega), hbs.2 _ (by omega)]; exact e2
      have s3 : gs[h0.length + 3]? = some (.row 1 [dv']) := by rw [hbs.2 _ (by omega)]; exact e3
      have t0 : ∀ x y z, (((gs.set h0.length x).set (h0.length + 1) y).set (h0.length + 2) z)[h0.length]? = some x := fun x y z => by
        have := hbs.1
        rw [List.getElem?_set_ne (by omega), List.getElem?_set_ne (by omega)]; exact get_set_self (by omega)
      have t1 : ∀ x y z, (((gs.set h0.length x).set (h0.length + 1) y).set (h0.length + 2) z)[h0.length + 1]? = some y := fun x y z => by
        have := hbs.1
        rw [List.getElem?_set_ne (by omega)]; exact get_set_self (by simp; omega)
      have t2 : ∀ x y z, (((gs.set h0.length x).set (h0.length + 1) y).set (h0.length + 2) z)[h0.length + 2]? = some z := fun x y z => by
        have := hbs.1
        exact get_set_self (by simp; omega)
      have tB : ∀ x y z, Below h0.length h0 (((gs.set h0.length x).set (h0.length + 1) y).set (h0.length + 2) z) := fun x y z => by
        have := hbs.1
        exact ⟨by simp; omega, fun i hi => by rw [List.getElem?_set_ne (by omega), List.getElem?_set_ne (by omega), List.getElem?_set_ne (by omega), hbs.2 _ (by omega)]; exact f1 i hi⟩
      have un0 : upd .nils 0 .nils = some .nils := rfl
      have ui : ∀ a b, upd (.int .i64 a) 0 (.int .i64 b) = some (.int .i64 b) := fun _ _ => rfl
      have udv : upd .nils 0 dv' = some dv' := by rcases hd' with ⟨e, _⟩ | ⟨c, e⟩ <;> rw [e] <;> rfl
      have vc := rd_cells hd'
      have vt := rd_nt hd'
      have sn : sub .nils 0 1 false = some .nils := rfl
      have si : ∀ a, sub (.int .i64 a) 0 1 false = some (.int .i64 a) := fun _ => rfl
      subst hu
      unfold endQ
      have hbl := hbs.1
      by_cases hq : shaR b' = k
      · rw [decide_eq_true hq] at ek
        dsimp only
        rw [if_pos hq]
        simp (maxSteps := 2000000) (discharger := omega) only [xc,xo,xr,x0,x2,x3,x4,x5,xd,xe,kont_call,selems,eqAV,wr,partEs,placeEs,Bool.bne_true,List.drop_zero,Reg.isA,Reg.isV,Reg.stays,Reg.onto,Bool.or_false,Bool.and_false,↓reduceIte,Nat.reduceEqDiff,Nat.reduceLT,Nat.zero_add,Nat.zero_lt_succ,Bool.false_eq_true,Bool.not_true,Option.map_some,Option.getD_none,and_self,List.length_cons,List.length_nil,List.any_nil,List.any_cons,Option.some.injEq,exists_eq_left',List.getElem?_cons_zero,List.set_cons_zero,nat_le_t,e3,vs,vel,tb,k19,hk,t32,ek,s0,s1,s2,s3,wl,List.replicate,ui,udv,vc,vt,t0,t1,t2,si]
        exact ⟨⟨dv', rfl, hd'⟩, tB _ _ _⟩
      · rw [decide_eq_false hq] at ek
        dsimp only
        rw [if_neg hq]
        simp (maxSteps := 2000000) (discharger := omega) only [xc,xo,xr,x0,x2,x3,x5,xd,xe,kont_call,selems,eqAV,wr,partEs,placeEs,Bool.bne_true,List.drop_zero,Reg.isA,Reg.isV,Reg.stays,Reg.onto,Bool.or_false,Bool.and_false,↓reduceIte,Nat.reduceEqDiff,Nat.reduceLT,Nat.zero_add,Nat.zero_lt_succ,Bool.false_eq_true,Bool.not_false,Option.map_some,Option.getD_none,and_self,List.length_cons,List.length_nil,List.any_nil,List.any_cons,Option.some.injEq,exists_eq_left',List.getElem?_cons_zero,List.set_cons_zero,nat_le_t,e3,vs,vel,tb,k19,hk,t32,ek,s0,s1,s2,List.replicate,un0,ui,t0,t1,t2,sn,si]
        exact ⟨⟨rfl, rfl⟩, tB _ _ _⟩
  · refine wpi_rangeF (h2 := g') (f := 78) (first := []) (captured := [.ptr g.length 1 0 0]) (v := .tup []) (r1 := rr17 h0.length g.length w) (ps1 := [54, 55]) (hd1 := hd17) (bd1 := bd17) (st := 2) (pd := some .ret) rfl (kont_code f78) ?_ ?_ (by decide) ?_
    · rw [eL]; exact k78
    · rw [eL]; exact J.lp
    · rw [eL]
      obtain ⟨fr, d0, d1, d2, hu, lp⟩ := J
      have lpl := (List.getElem?_eq_some_iff.1 lp).1
      have ne : ∀ i, i ≠ g.length + 1 → (g'.set (g.length + 1) .dead)[i]? = g'[i]? := fun i hi => by rw [List.getElem?_set_ne (Ne.symm hi)]
      have e0 : (g'.set (g.length + 1) .dead)[h0.length]? = some (.row 1 [.nils]) := by rw [ne _ (by omega)]; exact d0
      have e1 : (g'.set (g.length + 1) .dead)[h0.length + 1]? = some (.row 1 [.int .i64 0]) := by rw [ne _ (by omega)]; exact d1
      have e2 : (g'.set (g.length + 1) .dead)[h0.length + 2]? = some (.row 1 [.int .i64 12]) := by rw [ne _ (by omega)]; exact d2
      have f1 : ∀ i, i < h0.length → (g'.set (g.length + 1) .dead)[i]? = h0[i]? := fun i hi => by rw [ne _ (by omega)]; exact fr i hi
      have gLl : h0.length + 4 ≤ (g'.set (g.length + 1) .dead).length := by simp; omega
      generalize g'.set (g.length + 1) .dead = gd at *
      subst hu
      unfold endQ
      have sn : sub .nils 0 1 false = some .nils := rfl
      have si : ∀ a, sub (.int .i64 a) 0 1 false = some (.int .i64 a) := fun _ => rfl
      simp (maxSteps := 2000000) (discharger := omega) only [xc,xr,xd,↓reduceIte,Nat.reduceEqDiff,Option.getD_some,Option.some.injEq,exists_eq_left',List.getElem?_cons_zero,e0,e1,e2,sn,si]
      exact ⟨⟨rfl, rfl⟩, ⟨by omega, f1⟩⟩
def allQ (k : List Int) : Int ⊕ (By × List By) → Int ⊕ (By × Nat)
  | .inl e => .inl e
  | .inr (b, ps) => endQ k ps.length (unw (some b) ps)
theorem allQ_res (rs : List Rc) (k : List Int) : allQ k (chain rs 8 k) = resR rs k := by
  unfold resR allQ
  rw [made_chain]
  cases chain rs 8 k with
  | inl e => rfl
  | inr q =>
    obtain ⟨b, ps⟩ := q
    dsimp only
    cases unw (some b) ps <;> rfl
set_option maxRecDepth 100000 in
set_option maxHeartbeats 4000000 in
theorem c17 (rs : List Rc) (v : AV) (L : Nat) (hv : IsRd 66 (rs.map Rc.av) v) (hok : ∀ r ∈ rs, r.ok) (hl : rs.length ≤ 1000) (h : Hp) (hL : h[L]? = some (.row 1 [v])) (k : List Int) (hk : k.length = 32) (hn : 300000 < n) :
    ∃ x h', call F n tot ω 17 [.agg (intsOf .u8 k), .fn (.func 15) [] [.ptr L 1 0 0]] h = some (x, h') ∧ rsR (resR rs k) x ∧ Below h.length h h' := by
  obtain ⟨n, rfl⟩ : ∃ m, n = m + 1 := ⟨n - 1, by omega⟩
  refine call_of (fn := a17) f17 (P := fun x h' => rsR (resR rs k) x ∧ Below h.length h h') ?_
  have t32 := tki hk
  have hLl : L < h.length := (List.getElem?_eq_some_iff.1 hL).1
  have zk : AV.agg [AV.int .u8 0, AV.int .u8 0, AV.int .u8 0, AV.int .u8 0, AV.int .u8 0, AV.int .u8 0, AV.int .u8 0, AV.int .u8 0, AV.int .u8 0, AV.int .u8 0, AV.int .u8 0, AV.int .u8 0, AV.int .u8 0, AV.int .u8 0, AV.int .u8 0, AV.int .u8 0, AV.int .u8 0, AV.int .u8 0, AV.int .u8 0, AV.int .u8 0, AV.int .u8 0, AV.int .u8 0, AV.int .u8 0, AV.int .u8 0, AV.int .u8 0, AV.int .u8 0, AV.int .u8 0, AV.int .u8 0, AV.int .u8 0, AV.int .u8 0, AV.int .u8 0, AV.int .u8 0] = .agg (intsOf .u8 (List.replicate 32 0)) := rfl
  have zl : (intsOf .u8 (List.replicate 32 0)).length = 32 := rfl
  have zd : List.drop 32 (intsOf .u8 (List.replicate 32 0)) = [] := rfl
  rw [← allQ_res]
  unfold a17
  simp (maxSteps := 2000000) (discharger := omega) only [xc,xo,xr,x0,x2,x5,xd,xe,isNil,wr,Bool.bne_false,List.drop_zero,List.nil_append,List.append_nil,List.take_zero,List.cons_append,Reg.isA,Reg.isV,Reg.stays,Reg.onto,Bool.or_false,Bool.and_false,Bool.or_true,↓reduceIte,reduceCtorEq,Nat.reduceEqDiff,Nat.reduceLT,Nat.reduceAdd,Nat.zero_add,Nat.not_lt_zero,Nat.zero_ne_one,Nat.lt_irrefl,Bool.false_eq_true,Option.map_some,and_self,List.length_cons,List.length_nil,List.any_nil,List.any_cons,xu,nat_le_t,hk,t32,zk,zl,zd,List.length_append,List.append_assoc]
  generalize hR : chain rs 8 k = R
  have hRok := fun b ps (e : R = .inr (b, ps)) => chain_ok hok (hR.trans e)
  refine wpi_loop (fun m r g => ∃ (q : List Int) (acc : List By) (w : AV), r = [(1, .val (.fn (.func 15) [] [.ptr L 1 0 0])), (2, .var (.agg (intsOf .u8 k))), (4, .val (.ptr h.length 1 0 0)), (5, .val (.ptr (h.length + 1) 1 0 0)), (6, .val (.ptr (h.length + 2) 1 0 0)), (7, .val w), (8, .val (.ptr (h.length + 3) 1 0 0)), (9, .var (.agg (intsOf .u8 q)))] ∧ q.length = 32 ∧ acc.length + m = 8 ∧ onto acc (chain rs m q) = R ∧ Below h.length h g
      ∧ g[h.length]? = some (.row 1 [.nils]) ∧ g[h.length + 1]? = some (.row 1 [.int .i64 0]) ∧ g[h.length + 2]? = some (.row 1 [.int .i64 0]) ∧ g[h.length + 3]? = some (.row 1 [.nils]) ∧ LateApp (h.length + 4) 1 (acc.map AV.str) g w) 8 (by omega)
    ⟨k, [], .nils, rfl, hk, rfl, by rw [hR]; cases R with
      | inl e => rfl
      | inr q => rfl, Below.app _ _ _ (Nat.le_refl _), by rw [hg0]; rfl, by rw [hgk]; rfl, by rw [hgk]; rfl, by rw [hgk]; rfl, late_nils _ _ _⟩ ?_
  clear hR
  rintro m r g ⟨q, acc, w, rfl, hq, hm, hd, hbl, c0, c1, c2, c3, hla⟩
  have gl := (List.getElem?_eq_some_iff.1 c3).1
  have gL : g[L]? = some (.row 1 [v]) := by rw [hbl.2 _ hLl]; exact hL
  have k15 := c15 (n := n) (tot := tot) (ω := ω) rs v L hv hok hl g gL q hq (by omega)
  have tq := tki hq
  have dq : List.drop 32 (intsOf .u8 q) = [] := List.drop_of_length_le (by rw [io_lenF, hq]; exact Nat.le_refl _)
  have un0 : upd .nils 0 .nils = some .nils := rfl
  have ui : ∀ a b, upd (.int .i64 a) 0 (.int .i64 b) = some (.int .i64 b) := fun _ _ => rfl
  have sn : sub .nils 0 1 false = some .nils := rfl
  have si : ∀ a, sub (.int .i64 a) 0 1 false = some (.int .i64 a) := fun _ => rfl
  have s1 : ∀ o, (g.set h.length o)[h.length + 1]? = some (.row 1 [.int .i64 0]) := fun o => by rw [List.getElem?_set_ne (by omega)]; exact c1
  have s2 : ∀ o o', ((g.set h.length o).set (h.length + 1) o')[h.length + 2]? = some (.row 1 [.int .i64 0]) := fun o o' => by rw [List.getElem?_set_ne (by omega), List.getElem?_set_ne (by omega)]; exact c2
  have t0 : ∀ x y z, (((g.set h.length x).set (h.length + 1) y).set (h.length + 2) z)[h.length]? = some x := fun x y z => by
    rw [List.getElem?_set_ne (by omega), List.getElem?_set_ne (by omega)]; exact get_set_self (by omega)
  have t1 : ∀ x y z, (((g.set h.length x).set (h.length + 1) y).set (h.length + 2) z)[h.length + 1]? = some y := fun x y z => by
    rw [List.getElem?_set_ne (by omega)]; exact get_set_self (by simp; omega)
  have t2 : ∀ x y z, (((g.set h.length x).set (h.length + 1) y).set (h.length + 2) z)[h.length + 2]? = some z := fun x y z => get_set_self (by simp; omega)
  have tB : ∀ x y z, Below h.length h (((g.set h.length x).set (h.length + 1) y).set (h.length + 2) z) := fun x y z => ⟨by have := hbl.1; simp; omega, fun i hi => by rw [List.getElem?_set_ne (by omega), List.getElem?_set_ne (by omega), List.getElem?_set_ne (by omega)]; exact hbl.2 i hi⟩
  cases hf : findR rs q with
  | none =>
    rw [hf] at k15
    unfold fdAV at k15
    have hR : R = .inl 9 := by
      rw [← hd]
      cases m <;> unfold chain <;> rw [hf] <;> rfl
    subst hR
    simp (maxSteps := 2000000) (discharger := omega) only [xc,xo,xr,x0,x1,x3,x5,xd,xe,xb,kont_call,wr,List.drop_zero,List.nil_append,List.append_nil,List.take_zero,List.cons_append,Reg.isA,Reg.isV,Reg.stays,Reg.onto,Bool.or_false,Bool.and_false,Bool.or_true,↓reduceIte,Nat.reduceEqDiff,Nat.reduceLT,Nat.zero_add,Nat.lt_irrefl,Bool.false_eq_true,Option.map_some,and_self,List.length_cons,List.length_nil,List.any_nil,List.any_cons,Option.some.injEq,exists_eq_left',List.getElem?_cons_zero,List.getElem?_cons_succ,xu,List.set_cons_zero,int_beq_f,int_bne_t,nat_le_t,hq,tq,k15,z66E,z66L,z66D,c0,s1,s2,t0,t1,t2,un0,ui,sn,si]
    exact ⟨⟨rfl, rfl⟩, tB _ _ _⟩
  | some rc =>
    rw [hf] at k15
    unfold fdAV Rc.av at k15
    obtain ⟨hr, hrk⟩ := find_ok hok hf
    have ek := eqk hr.1 hq
    rw [decide_eq_true hrk] at ek
    have wl := hla.1.len
    rw [List.length_map] at wl
    cases hp : rc.patch with
    | false =>
      have hR : R = .inr (rc.body, acc) := by
        rw [← hd]
        cases m <;> unfold chain <;> rw [hf] <;> dsimp only <;> rw [hp] <;> simp [onto]
      have hok2 := hRok _ _ hR
      subst hR
      have udi : ∀ x, upd .nils 0 (.imm 1 x .no) = some (.imm 1 x .no) := fun _ => rfl
      have hwr := w_r17 (n := n) (tot := tot) (ω := ω) h k hk w acc rc.body (.imm 1 (bytesOf rc.body) .no) (g.set (h.length + 3) (.row 1 [.imm 1 (bytesOf rc.body) .no])) ⟨by have := hbl.1; simp; omega, fun i hi => by rw [List.getElem?_set_ne (by omega)]; exact hbl.2 i hi⟩
        (by rw [List.getElem?_set_ne (by omega)]; exact c0) (by rw [List.getElem?_set_ne (by omega)]; exact c1) (by rw [List.getElem?_set_ne (by omega)]; exact c2) (get_set_self (by omega)) (.inr ⟨_, rfl⟩) hok2.1 (isRd_app hla.1) (by omega) hok2.2.2 (by omega)
      simp (maxSteps := 2000000) (discharger := omega) only [xc,xo,xr,x0,x1,x2,x3,x5,xd,xe,kont_call,eqAV,wr,Bool.bne_true,List.drop_zero,List.nil_append,List.append_nil,List.take_zero,List.cons_append,Reg.isA,Reg.isV,Reg.stays,Reg.onto,Bool.or_false,Bool.and_false,Bool.or_true,↓reduceIte,Nat.reduceEqDiff,Nat.reduceLT,Nat.add_zero,Nat.zero_add,Nat.zero_ne_one,Nat.lt_irrefl,Bool.false_eq_true,Bool.not_true,Bool.not_false,Option.map_some,and_self,List.length_cons,List.length_nil,List.any_nil,List.any_cons,beq_self_eq_true,List.getElem?_cons_zero,List.getElem?_cons_succ,Nat.reduceBEq,xu,List.set_cons_zero,int_bne_f,nat_le_t,hq,tq,k15,z66E,z66L,z66D,Rc.len hr,Rc.t32 hr,Rc.g64 hr,Rc.g65 hr,ek,hp,c3,udi]
      unfold r17 at hwr
      simp (maxSteps := 2000000) (discharger := omega) only [xc,xo,xr,x0,kont_call,Reg.isA,Reg.isV,Reg.onto,Bool.or_false,Bool.and_false,↓reduceIte,Nat.reduceEqDiff,Nat.reduceLT,Bool.false_eq_true,Option.map_some,List.any_nil,List.any_cons] at hwr
      exact hwr
    | true =>
      cases m with
      | zero =>
        have hR : R = .inl 14 := by
          rw [← hd]; unfold chain; rw [hf]; dsimp only; rw [hp]; rfl
        subst hR
        have e8 : acc.length = 8 := by omega
        rw [e8] at wl
        simp (maxSteps := 2000000) (discharger := omega) only [xc,xo,xr,x0,x1,x2,x3,x4,x5,xd,xe,kont_call,eqAV,wr,Bool.bne_true,List.drop_zero,List.nil_append,List.append_nil,List.take_zero,List.cons_append,Reg.isA,Reg.isV,Reg.stays,Reg.onto,Bool.or_false,Bool.and_false,Bool.or_true,↓reduceIte,Nat.reduceEqDiff,Nat.reduceLT,Nat.add_zero,Nat.zero_add,Nat.lt_irrefl,Bool.false_eq_true,Bool.not_true,Option.map_some,and_self,List.length_cons,List.length_nil,List.any_nil,List.any_cons,Int.cast_ofNat_Int,beq_self_eq_true,Option.some.injEq,exists_eq_left',List.getElem?_cons_zero,List.getElem?_cons_succ,Nat.reduceBEq,xu,List.set_cons_zero,int_bne_f,nat_le_t,hq,tq,k15,z66E,z66L,z66D,Rc.len hr,Rc.t32 hr,Rc.g64 hr,ek,hp,c0,s1,s2,t0,t1,t2,un0,ui,sn,si,wl]
        exact ⟨⟨rfl, rfl⟩, tB _ _ _⟩
      | succ m =>
        have e8 : ((acc.length : Nat) : Int) ≠ 8 := by omega
        obtain ⟨w', g', a1, a2, a3⟩ := late_app (bytes := 16) (xs := [AV.str rc.body]) hla (by omega) (by simp) (by simp; omega)
        have zd2 : List.drop 32 (intsOf .u8 [0, 0, 0, 0, 0, 0, 0, 0, 0, 0, 0, 0, 0, 0, 0, 0, 0, 0, 0, 0, 0, 0, 0, 0, 0, 0, 0, 0, 0, 0, 0, 0]) = [] := rfl
        have eB : ∀ i, i < h.length + 4 → g'[i]? = g[i]? := a3.2
        simp (maxSteps := 2000000) (discharger := omega) only [xc,xo,xr,x0,x1,x2,x3,x4,x5,xd,xe,xb,kont_call,selems,srcElems,eqAV,wr,partEs,placeEs,Bool.bne_true,List.drop_zero,List.nil_append,List.append_nil,List.take_zero,List.cons_append,Reg.isA,Reg.isV,Reg.stays,Reg.onto,Bool.or_false,Bool.and_false,Bool.or_true,↓reduceIte,Nat.reduceEqDiff,Nat.reduceLT,Nat.reduceAdd,Nat.add_zero,Nat.zero_add,Nat.lt_irrefl,Nat.zero_lt_succ,Bool.false_eq_true,Bool.not_true,Option.map_some,and_self,List.length_cons,List.length_nil,List.any_nil,List.any_cons,beq_self_eq_true,List.getElem?_cons_zero,List.getElem?_cons_succ,Nat.reduceBEq,xu,List.set_cons_zero,int_beq_f,int_bne_f,nat_le_t,hq,tq,k15,z66E,z66L,z66D,Rc.len hr,Rc.t32 hr,Rc.t32' hr,Rc.g64 hr,Rc.g65 hr,hr.2.1,tki hr.2.1,ek,hp,wl,a1,hla.1.isRow,List.replicate,dq,zd2]
        exact ⟨m, by omega, rc.base, acc ++ [rc.body], w', rfl, hr.2.1, by simp; omega, by
          rw [← hd]
          have : chain rs (m + 1) q = match chain rs m rc.base with
            | .inl e => .inl e
            | .inr (b, ps) => .inr (b, rc.body :: ps) := by
            rw [chain, hf]; dsimp only; rw [hp]; rfl
          rw [this]
          cases chain rs m rc.base with
          | inl e => rfl
          | inr y => simp [onto], hbl.trans (a3.low (by omega)), by rw [eB _ (by omega)]; exact c0, by rw [eB _ (by omega)]; exact c1, by rw [eB _ (by omega)]; exact c2, by rw [eB _ (by omega)]; exact c3, by rw [List.map_append]; exact a2⟩
end
end Go.Proofs.YtcnbllelfinlmaaDoor.Im

/- S20Rl: the law BundleResolves. -/
set_option linter.unusedVariables false
set_option linter.unusedSimpArgs false
open Go Go.Im
namespace Go.Proofs.YtcnbllelfinlmaaDoor.Im

def Rc.ok0 (r : Rc) : Prop := r.key.length = 32 ∧ r.base.length = 32 ∧ r.body.length ≤ 9223372036854775807
theorem Rc.d640 {r : Rc} (h : r.ok0) : List.drop 64 r.cells = [.bool r.patch, .str r.body] := by
  unfold Rc.cells
  rw [← List.append_assoc, List.drop_append_of_le_length (by simp [io_lenF,h.1,h.2.1]), List.drop_of_length_le (by simp [io_lenF,h.1,h.2.1])]
  rfl
theorem Rc.d650 {r : Rc} (h : r.ok0) : List.drop 65 r.cells = [.str r.body] := by
  rw [show (65 : Nat) = 64 + 1 from rfl, ← List.drop_drop, Rc.d640 h]
  rfl
theorem Rc.g650 {r : Rc} (h : r.ok0) : r.cells[65]? = some (.str r.body) := by
  have := congrArg (fun l => l[0]?) (Rc.d650 h)
  simpa using this
theorem bump_ne {k : List Int} (hk : k.length = 32) : bump k ≠ k := by
  cases k with
  | nil => cases hk
  | cons x xs =>
    intro e
    injection e with e1 _
    have : IntKind.u8.wrap (x + 1) = (x + 1) % 256 := by
      simp [IntKind.wrap,IntKind.bits,IntKind.signed]
    rw [this] at e1
    omega
section
variable {n : Nat} {tot : Bool} {ω : Nat → Nat}
set_option maxRecDepth 100000 in
set_option maxHeartbeats 4000000 in
theorem c10 (rs : List Rc) (v : AV) (h : Hp) (hv : IsRd 66 (rs.map Rc.av) v) (hok : ∀ r ∈ rs, r.ok0) (hl : rs.length ≤ 9223372036854775807) (hn : 200 < n) :
    ∃ b, call F n tot ω 10 [v] h = some (.bool b, h) ∧ (b = true → rs.length ≤ 100 ∧ ∀ r ∈ rs, r.body.length ≤ 40000) := by
  suffices hx : ∃ x h', call F n tot ω 10 [v] h = some (x, h') ∧ ∃ b, x = .bool b ∧ h' = h ∧ (b = true → rs.length ≤ 100 ∧ ∀ r ∈ rs, r.body.length ≤ 40000) by
    obtain ⟨x, h', e, b, rfl, rfl, hb⟩ := hx
    exact ⟨b, e, hb⟩
  obtain ⟨n, rfl⟩ : ∃ m, n = m + 1 := ⟨n - 1, by omega⟩
  refine call_of (fn := a10) f10 (P := fun x h' => ∃ b, x = .bool b ∧ h' = h ∧ (b = true → rs.length ≤ 100 ∧ ∀ r ∈ rs, r.body.length ≤ 40000)) ?_
  unfold a10
  have vnt := rd_nt hv
  have hvl := hv.len
  rw [List.length_map] at hvl
  simp (maxSteps := 2000000) (discharger := omega) only [xc,xo,xr,x0,Reg.isA,Reg.isV,Reg.stays,Reg.onto,Bool.or_false,Bool.and_false,↓reduceIte,reduceCtorEq,Nat.reduceEqDiff,Nat.reduceLT,Nat.zero_add,Nat.not_lt_zero,Bool.false_eq_true,Option.map_some,List.any_nil,List.any_cons]
  refine wpi_loop (fun m r g => ∃ (i s : Nat), r = [(0, .val v), (3, .val (.int .i64 s)), (4, .val (.int .i64 i))] ∧ i + m = 101 ∧ i ≤ 100 ∧ i ≤ rs.length ∧ s ≤ 80120 * i ∧ g = h ∧ ∀ r ∈ rs.take i, r.body.length ≤ 40000) 101 (by omega) ⟨0, 0, rfl, by omega, by omega, by omega, by omega, rfl, by simp⟩ ?_
  rintro m r g ⟨i, s, rfl, him, h100, hil, hs, rfl, hall⟩
  by_cases hlt : i < rs.length
  · have hlt' : ((i : Nat) : Int) < (rs.length : Int) := by omega
    have hi0 : (0 : Int) ≤ (i : Int) := by omega
    have hge : (rs.map Rc.av)[i]? = some (.agg rs[i].cells) := by rw [List.getElem?_map, List.getElem?_eq_getElem hlt]; rfl
    have hr := hok rs[i] (List.getElem_mem hlt)
    have htk : ∀ r ∈ rs.take (i + 1), r ∈ rs.take i ∨ r = rs[i] := fun r h => by
      rw [List.take_succ_eq_append_getElem hlt] at h
      rcases List.mem_append.1 h with h | h
      · exact .inl h
      · exact .inr (by simpa using h)
    generalize rs[i] = q at *
    rcases hv with ⟨_, e0⟩ | ⟨c, rfl⟩
    · rw [e0] at hge; cases hge
    by_cases h1 : i ≥ 100
    · have h1' : (i : Int) ≥ 100 := by omega
      simp (maxSteps := 2000000) (discharger := omega) only [xc,xo,xr,x0,x1,x4,xd,xb,Reg.isA,Reg.isV,Reg.stays,Reg.onto,Bool.or_false,Bool.and_false,↓reduceIte,reduceCtorEq,Nat.reduceEqDiff,Nat.reduceLT,Nat.not_lt_zero,Bool.false_eq_true,Option.map_some,true_and,List.any_nil,List.any_cons,Option.some.injEq,exists_eq_left',decide_true,false_and,nat_le_f,hvl,hlt',h1']
      exact ⟨false, rfl, fun e => by cases e⟩
    · have h1' : ¬ (i : Int) ≥ 100 := by omega
      by_cases h2 : q.body.length > 40000
      · have h2' : ((q.body.length : Nat) : Int) > 40000 := by omega
        simp (maxSteps := 2000000) (discharger := omega) only [xc,xo,xr,x0,x1,x4,xd,xb,Reg.isA,Reg.isV,Reg.stays,Reg.onto,Bool.or_false,Bool.and_false,↓reduceIte,reduceCtorEq,Nat.reduceEqDiff,Nat.reduceLT,Nat.not_lt_zero,Bool.false_eq_true,Option.map_some,and_self,true_and,List.any_nil,List.any_cons,Int.toNat_natCast,beq_self_eq_true,Option.some.injEq,exists_eq_left',decide_true,decide_false,int_le_t,hvl,hlt',h1',hge,Rc.g650 hr,h2']
        exact ⟨false, rfl, fun e => by cases e⟩
      · have h2' : ¬ ((q.body.length : Nat) : Int) > 40000 := by omega
        by_cases h3 : s > 40000
        · have h3' : (s : Int) > 40000 := by omega
          simp (maxSteps := 2000000) (discharger := omega) only [xc,xo,xr,x0,x1,x4,xd,Reg.isA,Reg.isV,Reg.stays,Reg.onto,Bool.or_false,Bool.and_false,↓reduceIte,reduceCtorEq,Nat.reduceEqDiff,Nat.reduceLT,Nat.not_lt_zero,Bool.false_eq_true,Option.map_some,and_self,true_and,List.any_nil,List.any_cons,Int.toNat_natCast,beq_self_eq_true,Option.some.injEq,exists_eq_left',decide_true,decide_false,int_le_t,hvl,hlt',h1',hge,Rc.g650 hr,h2',h3']
          exact ⟨false, rfl, fun e => by cases e⟩
        · have h3' : ¬ (s : Int) > 40000 := by omega
          have e1 : (s : Int) + (q.body.length : Int) + 80 = ((s + q.body.length + 80 : Nat) : Int) := by omega
          simp (maxSteps := 2000000) (discharger := omega) only [xc,xo,xr,x0,x1,x4,xd,Reg.isA,Reg.isV,Reg.stays,Reg.onto,Bool.or_false,Bool.and_false,↓reduceIte,reduceCtorEq,Nat.reduceEqDiff,Nat.reduceLT,Nat.not_lt_zero,Nat.lt_irrefl,Bool.false_eq_true,Option.map_some,and_self,true_and,List.any_nil,List.any_cons,Int.toNat_natCast,beq_self_eq_true,decide_true,decide_false,wrap_i64,int_le_t,hvl,hlt',h1',hge,Rc.g650 hr,h2',h3',e1]
          exact ⟨m - 1, by omega, i + 1, s + q.body.length + 80, rfl, by omega, by omega, by omega, by omega, fun r hrr => by
            rcases htk r hrr with h | rfl
            · exact hall r h
            · omega⟩
  · have hlt' : ¬ ((i : Nat) : Int) < (rs.length : Int) := by omega
    obtain rfl : i = rs.length := by omega
    rw [List.take_length] at hall
    simp (maxSteps := 2000000) (discharger := omega) only [xc,xo,xr,x0,x1,x4,xd,Reg.isA,Reg.isV,Reg.stays,Reg.onto,Bool.or_false,Bool.and_false,↓reduceIte,reduceCtorEq,Nat.reduceEqDiff,Nat.reduceLT,Nat.not_lt_zero,Bool.false_eq_true,Option.map_some,true_and,List.any_nil,List.any_cons,Option.some.injEq,exists_eq_left',decide_false,nat_le_t,hvl,hlt']
    exact ⟨_, rfl, fun _ => hall⟩
set_option maxRecDepth 100000 in
set_option maxHeartbeats 4000000 in
theorem c17n (h : Hp) (k : List Int) (hk : k.length = 32) (hn : 0 < n) :
    ∃ h', call F n tot ω 17 [.agg (intsOf .u8 k), .nilf] h = some (.tup [.nils, .int .i64 0, .int .i64 1], h') ∧ Below h.length h h' := by
  suffices hx : ∃ x h', call F n tot ω 17 [.agg (intsOf .u8 k), .nilf] h = some (x, h') ∧ x = .tup [.nils, .int .i64 0, .int .i64 1] ∧ Below h.length h h' by
    obtain ⟨x, h', e, rfl, hb⟩ := hx
    exact ⟨h', e, hb⟩
  obtain ⟨n, rfl⟩ : ∃ m, n = m + 1 := ⟨n - 1, by omega⟩
  refine call_of (fn := a17) f17 (P := fun x h' => x = .tup [.nils, .int .i64 0, .int .i64 1] ∧ Below h.length h h') ?_
  unfold a17
  have t32 := tki hk
  have un0 : upd .nils 0 .nils = some .nils := rfl
  have ui : ∀ a b, upd (.int .i64 a) 0 (.int .i64 b) = some (.int .i64 b) := fun _ _ => rfl
  have sn : sub .nils 0 1 false = some .nils := rfl
  have si : ∀ a, sub (.int .i64 a) 0 1 false = some (.int .i64 a) := fun _ => rfl
  simp (maxSteps := 2000000) (discharger := omega) only [xc,xo,xr,x0,x2,x5,xd,xe,isNil,wr,Bool.bne_false,List.nil_append,List.cons_append,Reg.isA,Reg.isV,Reg.stays,Reg.onto,Bool.or_false,Bool.and_false,Bool.or_true,↓reduceIte,reduceCtorEq,Nat.reduceEqDiff,Nat.reduceLT,Nat.reduceAdd,Nat.zero_add,Nat.not_lt_zero,Nat.zero_ne_one,Bool.false_eq_true,Option.map_some,and_self,true_and,List.length_cons,List.length_nil,List.any_nil,List.any_cons,Option.some.injEq,exists_eq_left',List.getElem?_cons_zero,List.getElem?_cons_succ,List.set_cons_zero,List.set_cons_succ,hk,List.length_append,List.append_assoc,hg0,hgk,hs0,hsk,un0,ui,sn,si]
  exact Below.app _ _ _ (Nat.le_refl _)
set_option maxRecDepth 100000 in
set_option maxHeartbeats 4000000 in
theorem c17b (h : Hp) (k : List Int) (hk : k.length = 32) (hn : 10 < n) :
    ∃ h', call F n tot ω 17 [.agg (intsOf .u8 k), .fn (.func 20) [] []] h = some (.tup [.nils, .int .i64 0, .int .i64 12], h') ∧ Below h.length h h' := by
  suffices hx : ∃ x h', call F n tot ω 17 [.agg (intsOf .u8 k), .fn (.func 20) [] []] h = some (x, h') ∧ x = .tup [.nils, .int .i64 0, .int .i64 12] ∧ Below h.length h h' by
    obtain ⟨x, h', e, rfl, hb⟩ := hx
    exact ⟨h', e, hb⟩
  obtain ⟨n, rfl⟩ : ∃ m, n = m + 1 := ⟨n - 1, by omega⟩
  refine call_of (fn := a17) f17 (P := fun x h' => x = .tup [.nils, .int .i64 0, .int .i64 12] ∧ Below h.length h h') ?_
  unfold a17
  have t32 := tki hk
  have zk : AV.agg [AV.int .u8 0, AV.int .u8 0, AV.int .u8 0, AV.int .u8 0, AV.int .u8 0, AV.int .u8 0, AV.int .u8 0, AV.int .u8 0, AV.int .u8 0, AV.int .u8 0, AV.int .u8 0, AV.int .u8 0, AV.int .u8 0, AV.int .u8 0, AV.int .u8 0, AV.int .u8 0, AV.int .u8 0, AV.int .u8 0, AV.int .u8 0, AV.int .u8 0, AV.int .u8 0, AV.int .u8 0, AV.int .u8 0, AV.int .u8 0, AV.int .u8 0, AV.int .u8 0, AV.int .u8 0, AV.int .u8 0, AV.int .u8 0, AV.int .u8 0, AV.int .u8 0, AV.int .u8 0] = .agg (intsOf .u8 (List.replicate 32 0)) := rfl
  have zl : (intsOf .u8 (List.replicate 32 0)).length = 32 := rfl
  have zd : List.drop 32 (intsOf .u8 (List.replicate 32 0)) = [] := rfl
  have un0 : upd .nils 0 .nils = some .nils := rfl
  have ui : ∀ a b, upd (.int .i64 a) 0 (.int .i64 b) = some (.int .i64 b) := fun _ _ => rfl
  have sn : sub .nils 0 1 false = some .nils := rfl
  have si : ∀ a, sub (.int .i64 a) 0 1 false = some (.int .i64 a) := fun _ => rfl
  have k20 := fun h => c20 (n := n) (tot := tot) (ω := ω) h k hk (by omega)
  have hb : (bump k).length = 32 := by cases k with | nil => cases hk | cons x xs => exact hk
  have hr : Rc.ok ⟨bump k, List.replicate 32 0, false, []⟩ := ⟨hb, rfl, Nat.zero_le _⟩
  have r1 := Rc.len hr
  have r2 := Rc.t66 hr
  have r3 := Rc.d66 hr
  have r4 : List.take 32 (Rc.cells ⟨bump k, List.replicate 32 0, false, []⟩) = intsOf .u8 (bump k) := Rc.t32 hr
  have ek := eqk hb hk
  rw [decide_eq_false (bump_ne hk)] at ek
  have tb := tki hb
  unfold RG Rc.av at k20
  generalize Rc.cells ⟨bump k, List.replicate 32 0, false, []⟩ = cs at *
  simp (maxSteps := 2000000) (discharger := omega) only [xc,xo,xr,x0,x2,x5,xd,xe,isNil,wr,Bool.bne_false,List.drop_zero,List.nil_append,List.append_nil,List.take_zero,List.cons_append,Reg.isA,Reg.isV,Reg.stays,Reg.onto,Bool.or_false,Bool.and_false,Bool.or_true,↓reduceIte,reduceCtorEq,Nat.reduceEqDiff,Nat.reduceLT,Nat.reduceAdd,Nat.zero_add,Nat.not_lt_zero,Nat.zero_ne_one,Nat.lt_irrefl,Bool.false_eq_true,Option.map_some,and_self,List.length_cons,List.length_nil,List.any_nil,List.any_cons,xu,nat_le_t,hk,t32,zk,zl,zd,List.length_append,List.append_assoc]
  refine wpi_loop (fun m r g => r = [(1, .val (.fn (.func 20) [] [])), (2, .var (.agg (intsOf .u8 k))), (4, .val (.ptr h.length 1 0 0)), (5, .val (.ptr (h.length + 1) 1 0 0)), (6, .val (.ptr (h.length + 2) 1 0 0)), (7, .val .nils), (8, .val (.ptr (h.length + 3) 1 0 0)), (9, .var (.agg (intsOf .u8 k)))] ∧ g = h ++ [.row 1 [.nils], .row 1 [.int .i64 0], .row 1 [.int .i64 0], .row 1 [.nils]]) 1 (by omega) ⟨rfl, rfl⟩ ?_
  rintro m r g ⟨rfl, rfl⟩
  simp (maxSteps := 2000000) (discharger := omega) only [xc,xo,xr,x0,x1,x2,x3,x5,xd,xe,kont_call,eqAV,wr,Bool.bne_true,List.drop_zero,List.nil_append,List.append_nil,List.take_zero,Reg.isA,Reg.isV,Reg.stays,Reg.onto,Bool.or_false,Bool.and_false,Bool.or_true,↓reduceIte,Nat.reduceEqDiff,Nat.reduceLT,Nat.add_zero,Nat.zero_add,Nat.lt_irrefl,Bool.false_eq_true,Bool.not_false,Option.map_some,and_self,true_and,List.length_cons,List.length_nil,List.any_nil,List.any_cons,beq_self_eq_true,Option.some.injEq,exists_eq_left',List.getElem?_cons_zero,List.getElem?_cons_succ,Nat.reduceBEq,xu,List.set_cons_zero,List.set_cons_succ,int_bne_t,nat_le_t,hk,t32,k20,z66E,z66L,z66D,r1,r4,ek,hg0,hgk,hs0,hsk,un0,ui,sn,si]
  exact Below.app _ _ _ (Nat.le_refl _)
end
set_option maxRecDepth 100000 in
set_option maxHeartbeats 8000000 in
theorem law_resolves (rs : List Rc) (v : AV) (k : List Int) (z : Bool) (ω : Nat → Nat) (hv : IsRd 66 (rs.map Rc.av) v) (hok : ∀ r ∈ rs, r.ok0) (hl : rs.length ≤ 9223372036854775807) (hk : k.length = 32) : ∃ h', call F 400001 true ω 4 [v, .agg (intsOf .u8 k), .bool z] [] = some (.bool true, h') := by
  suffices hx : ∃ v2 h', call F 400001 true ω 4 [v, .agg (intsOf .u8 k), .bool z] [] = some (v2, h') ∧ v2 = .bool true by
    obtain ⟨v2, h', e1, rfl⟩ := hx
    exact ⟨h', e1⟩
  refine call_of (fn := a4) f4 (P := fun v2 h' => v2 = .bool true) ?_
  have k9 := fun h => c9 (n := 400000) (tot := true) (ω := ω) (h := h) (by omega)
  have t32 := tki hk
  have vnt := rd_nt hv
  have vc := rd_cells hv
  have vs := rd_sub hv 1
  obtain ⟨b, k10, hb⟩ := c10 (n := 400000) (tot := true) (ω := ω) rs v [.row 1 [v]] hv hok hl (by omega)
  unfold a4
  cases b with
  | false =>
    simp (maxSteps := 2000000) (discharger := omega) only [xc,xo,xr,x0,x2,x5,xd,xe,kont_call,List.nil_append,Reg.isA,Reg.isV,Reg.stays,Reg.onto,Bool.or_false,Bool.and_false,Bool.or_true,↓reduceIte,reduceCtorEq,Nat.reduceEqDiff,Nat.reduceLT,Nat.reduceAdd,Nat.zero_add,Nat.not_lt_zero,Nat.zero_ne_one,Bool.false_eq_true,Bool.not_true,Bool.not_false,Option.map_some,and_self,List.length_cons,List.length_nil,List.any_nil,List.any_cons,beq_self_eq_true,Option.some.injEq,exists_eq_left',List.getElem?_cons_zero,k9,vnt,vc,vs,hk,k10]
  | true =>
    obtain ⟨h100, hbody⟩ := hb rfl
    have hok2 : ∀ r ∈ rs, r.ok := fun r hr => ⟨(hok r hr).1, (hok r hr).2.1, by have := hbody r hr; omega⟩
    obtain ⟨x, h1, k17, hx, hB1⟩ := c17 (n := 400000) (tot := true) (ω := ω) rs v 0 hv hok2 (by omega) [.row 1 [v]] rfl k hk (by omega)
    have l1 : h1[0]? = some (.row 1 [v]) := by rw [hB1.2 0 (by simp)]; rfl
    obtain ⟨h2, k18, hB2⟩ := c18 (n := 400000) (tot := true) (ω := ω) rs v hv hok2 (by omega) h1 k hk (by omega)
    have k17b := fun h => c17b (n := 400000) (tot := true) (ω := ω) h k hk (by omega)
    have k17n := fun h => c17n (n := 400000) (tot := true) (ω := ω) h k hk (by omega)
    cases hq : resR rs k with
    | inl e =>
      rw [hq] at hx k18
      obtain ⟨rfl, he⟩ := hx
      have he' : (e == 0) = false := by simpa [bne] using he
      unfold mdAV at k18
      obtain ⟨h3, q3, _⟩ := k17b h2
      obtain ⟨h4, q4, _⟩ := k17n h3
      have be : ∀ g, elems g 1 .nils = some [] := fun _ => rfl
      have tb : toBytes [] = some [] := rfl
      cases z with
      | false =>
        simp (maxSteps := 2000000) (discharger := omega) only [xc,xo,xr,x0,x1,x2,x3,x5,xd,xe,xb,kont_call,selems,List.drop_zero,List.nil_append,Reg.isA,Reg.isV,Reg.stays,Reg.onto,Bool.or_false,Bool.and_false,Bool.or_true,↓reduceIte,reduceCtorEq,Nat.reduceEqDiff,Nat.reduceLT,Nat.reduceAdd,Nat.zero_add,Nat.not_lt_zero,Nat.zero_ne_one,Bool.false_eq_true,Bool.not_true,Bool.not_false,Option.map_some,and_self,List.length_cons,List.length_nil,List.any_nil,List.any_cons,beq_self_eq_true,Option.some.injEq,exists_eq_left',List.getElem?_cons_zero,List.getElem?_cons_succ,nat_le_t,k9,vnt,vc,vs,hk,t32,k10,k17,l1,k18,be,tb,he',bne_self_eq_false]
      | true =>
        simp (maxSteps := 2000000) (discharger := omega) only [xc,xo,xr,x0,x1,x2,x3,x5,xd,xe,xb,kont_call,selems,List.drop_zero,List.nil_append,Reg.isA,Reg.isV,Reg.stays,Reg.onto,Bool.or_false,Bool.and_false,Bool.or_true,↓reduceIte,reduceCtorEq,Nat.reduceEqDiff,Nat.reduceLT,Nat.reduceAdd,Nat.zero_add,Nat.not_lt_zero,Nat.zero_ne_one,Bool.false_eq_true,Bool.not_true,Option.map_some,and_self,List.length_cons,List.length_nil,List.any_nil,List.any_cons,beq_self_eq_true,Option.some.injEq,exists_eq_left',List.getElem?_cons_zero,List.getElem?_cons_succ,nat_le_t,k9,vnt,vc,vs,hk,t32,k10,k17,l1,k18,q3,q4,be,tb,he',bne_self_eq_false]
    | inr y =>
      obtain ⟨o, d⟩ := y
      rw [hq] at hx k18
      obtain ⟨dv, rfl, hd⟩ := hx
      unfold mdAV at k18
      have be := fun g => rd_el hd g
      have tb := toBytes_bytesOf o
      have dt := rd_nt hd
      have ho : shaR o = k ∧ o.length ≤ 100000 := by
        unfold resR at hq
        cases hm : made rs 8 k with
        | inl e => rw [hm] at hq; cases hq
        | inr y =>
          obtain ⟨o2, d2⟩ := y
          rw [hm] at hq
          dsimp only at hq
          have := made_len hok2 hm
          split at hq
          · rename_i e; cases hq; exact ⟨e, this.1⟩
          · cases hq
      obtain ⟨h3, k19, hB3⟩ := c19 (n := 400000) (tot := true) (ω := ω) (h := h2) o .full (by omega) (by omega)
      rw [ho.1] at k19
      have ek := eqk hk hk
      rw [decide_eq_true rfl] at ek
      obtain ⟨h4, q3, _⟩ := k17b h3
      obtain ⟨h5, q4, _⟩ := k17n h4
      cases z with
      | false =>
        simp (maxSteps := 2000000) (discharger := omega) only [xc,xo,xr,x0,x1,x2,x3,x5,xd,xe,kont_call,selems,eqAV,partEs,placeEs,Bool.bne_true,List.drop_zero,List.nil_append,Reg.isA,Reg.isV,Reg.stays,Reg.onto,Bool.or_false,Bool.and_false,Bool.or_true,↓reduceIte,reduceCtorEq,Nat.reduceEqDiff,Nat.reduceLT,Nat.reduceAdd,Nat.zero_add,Nat.not_lt_zero,Nat.zero_ne_one,Nat.zero_lt_succ,Bool.false_eq_true,Bool.not_true,Bool.not_false,Option.map_some,and_self,List.length_cons,List.length_nil,List.any_nil,List.any_cons,beq_self_eq_true,Option.some.injEq,exists_eq_left',List.getElem?_cons_zero,List.getElem?_cons_succ,List.set_cons_zero,nat_le_t,k9,vnt,vc,vs,hk,t32,k10,k17,l1,k18,k19,ek,be,tb,List.replicate,bne_self_eq_false]
      | true =>
        simp (maxSteps := 2000000) (discharger := omega) only [xc,xo,xr,x0,x1,x2,x3,x5,xd,xe,kont_call,selems,eqAV,partEs,placeEs,Bool.bne_true,List.drop_zero,List.nil_append,Reg.isA,Reg.isV,Reg.stays,Reg.onto,Bool.or_false,Bool.and_false,Bool.or_true,↓reduceIte,reduceCtorEq,Nat.reduceEqDiff,Nat.reduceLT,Nat.reduceAdd,Nat.zero_add,Nat.not_lt_zero,Nat.zero_ne_one,Nat.zero_lt_succ,Bool.false_eq_true,Bool.not_true,Option.map_some,and_self,List.length_cons,List.length_nil,List.any_nil,List.any_cons,beq_self_eq_true,Option.some.injEq,exists_eq_left',List.getElem?_cons_zero,List.getElem?_cons_succ,List.set_cons_zero,nat_le_t,k9,vnt,vc,vs,hk,t32,k10,k17,l1,k18,k19,q3,q4,ek,be,tb,List.replicate,bne_self_eq_false]
end Go.Proofs.YtcnbllelfinlmaaDoor.Im

/- ImRng: rules for loops over functions: the loop, and a round of it. -/
import Derived.Test.YtcnbllelfinlmaaDoorImX4
set_option linter.unusedVariables false
namespace Go.Im
section
variable {K : Kont} {n : Nat} {r : Regs} {h : Hp} {Q : AE → Regs → Hp → Prop}

theorem wpi_rangeF {x : AX} {ps : List Nat} {hd bd : AC} {f : FuncId} {first captured : List AV} {v : AV} {h2 : Hp} {r1 : Regs} {ps1 : List Nat} {hd1 bd1 : AC} {st : Nat} {pd : Option AE}
    (hv : vl r x = some (.fn (.func f) first captured)) (hc : K.code f = true)
    (he : K.call f (first ++ .yld h.length :: captured) (h ++ [.loop (valsOf r) ps hd bd 0 none]) = some (v, h2))
    (hl : h2[h.length]? = some (.loop r1 ps1 hd1 bd1 st pd)) (hst : st ≠ 1)
    (hq : Q (pd.getD .normal) r (h2.set h.length .dead)) : Wp K n (.rangeF x ps hd bd) r h Q := by
  refine ⟨pd.getD .normal, r, h2.set h.length .dead, ?_, hq⟩
  simp only [exec,hv,hc,if_true,he,endF,hl,if_neg hst]

def EndR (id : Nat) (P : AV → Hp → Prop) (e : AE) (_ : Regs) (h : Hp) : Prop :=
  ∃ r ps hd bd st pd, h[id]? = some (.loop r ps hd bd st pd) ∧ P (.bool (decide (e = .normal))) (h.set id (.loop r ps hd bd (if e = .normal then 0 else 2) (if e = .normal then none else some e)))

def HeadR (K : Kont) (n : Nat) (id : Nat) (bd : AC) (P : AV → Hp → Prop) (e : AE) (r : Regs) (h : Hp) : Prop :=
  e = .normal ∧ ∃ r1 ps1 hd1 bd1 pd1, h[id]? = some (.loop r1 ps1 hd1 bd1 0 pd1) ∧ Wp K n bd r (h.set id (.loop r1 ps1 hd1 bd1 1 pd1)) (EndR id P)

theorem round_of {F : Fns} {tot : Bool} {ω : Nat → Nat} {id : Nat} {args : List AV} {ps : List Nat} {hd bd : AC} {st : Nat} {pd : Option AE} {P : AV → Hp → Prop} (hl : h[id]? = some (.loop r ps hd bd st pd)) (hn : ps.length = args.length)
    (hh : Wp (kont F n tot ω) n hd (putArgs r ps args) h (HeadR (kont F n tot ω) n id bd P)) : ∃ v h', round F (n + 1) tot ω id args h = some (v, h') ∧ P v h' := by
  obtain ⟨e, r1, h1, e1, rfl, r2, ps2, hd2, bd2, pd2, e2, e', r3, h3, e3, r4, ps4, hd4, bd4, st4, pd4, e4, hp⟩ := hh
  refine ⟨_, _, ?_, hp⟩
  rw [round_succ]
  simp only [roundK,hl,if_pos hn,e1,beginR,e2,e3,endR,e4]

end
end Go.Im

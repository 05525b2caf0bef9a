/- ImX: the idealised machine's code, done step by step by rewriting. -/
import Derived.Test.YtcnbllelfinlmaaDoorImWp
set_option linter.unusedVariables false
namespace Go.Im

def Wo (K : Kont) (ops : List AOper) (r : Regs) (h : Hp) (R : Regs → Hp → Prop) : Prop := ∃ r' h', execs K ops r h = some (r', h') ∧ R r' h'

def Settle (ks : List Nat) (Q : AE → Regs → Hp → Prop) (r : Regs) (h : Hp) : Prop := Q .normal (settle ks r) h

def Ws (K : Kont) (d : Option Nat) (x : Reg) (r : Regs) (h : Hp) (os : List AOper) (R : Regs → Hp → Prop) : Prop := ∃ r1, setD d x r = some r1 ∧ Wo K os r1 h R

def Wc (K : Kont) (o : Option (AV × Hp)) (d : Option Nat) (r : Regs) (os : List AOper) (R : Regs → Hp → Prop) : Prop := ∃ v h1, o = some (v, h1) ∧ Ws K d (.val v) r h1 os R

def Wr (K : Kont) (o : Option (Reg × Regs × Hp)) (d : Option Nat) (os : List AOper) (R : Regs → Hp → Prop) : Prop := match o with
  | some (x, r1, h1) => Ws K d x r1 h1 os R
  | none => False

section
variable {K : Kont} {n : Nat} {r : Regs} {h : Hp} {Q : AE → Regs → Hp → Prop} {R : Regs → Hp → Prop} {os : List AOper} {d : Option Nat}

theorem wo_nil : Wo K [] r h R = R r h := propext ⟨fun ⟨_, _, h1, h2⟩ => by cases h1; exact h2, fun h => ⟨_, _, rfl, h⟩⟩

theorem wo_step (op : AOp) : Wo K (⟨d, op, none⟩ :: os) r h R = (∃ x r1 h1, step K r h op = some (x, r1, h1) ∧ Ws K d x r1 h1 os R) := by
  apply propext
  simp only [Wo,Ws,execs,exec1,wanted]
  constructor
  · rintro ⟨r', h', h1, h2⟩
    split at h1
    · rename_i r2 h3 e
      split at e
      · rename_i x r4 h4 e4
        cases hs : setD d x r4 with
        | none => rw [hs] at e; cases e
        | some r5 => rw [hs] at e; cases e; exact ⟨x, r4, _, e4, r2, hs, r', h', h1, h2⟩
      · cases e
    · cases h1
  · rintro ⟨x, r1, h1, e1, r2, e2, r', h', e3, e4⟩
    exact ⟨r', h', by rw [e1]; simp only [e2,Option.map_some]; exact e3, e4⟩

theorem wo_heap' {o : Option (Reg × Regs × Hp)} : (∃ x r1 h1, o = some (x, r1, h1) ∧ Ws K d x r1 h1 os R) = Wr K o d os R := by
  cases o with
  | none => exact propext ⟨fun ⟨_, _, _, e, _⟩ => (by cases e), fun h => h.elim⟩
  | some x => obtain ⟨a, b, c⟩ := x; exact propext ⟨fun ⟨_, _, _, e, w⟩ => (by cases e; exact w), fun w => ⟨_, _, _, rfl, w⟩⟩

theorem wo_heap {op : AOp} {o : Option (Reg × Regs × Hp)} (hp : step K r h op = o) : Wo K (⟨d, op, none⟩ :: os) r h R = Wr K o d os R := by
  subst hp
  rw [wo_step, wo_heap']

theorem wo_pure {op : AOp} (hp : step K r h op = (evalV r h op).map fun x => (x, r, h)) : Wo K (⟨d, op, none⟩ :: os) r h R = (match evalV r h op with | some x => Ws K d x r h os R | none => False) := by
  rw [wo_heap hp]
  cases evalV r h op <;> rfl

theorem wc_eq (o : Option (AV × Hp)) : Wc K o d r os R = Wr K (o.map fun y => (Reg.val y.1, r, y.2)) d os R := by
  cases o with
  | none => exact propext ⟨fun ⟨_, _, e, _⟩ => (by cases e), fun h => h.elim⟩
  | some x => obtain ⟨a, b⟩ := x; exact propext ⟨fun ⟨_, _, e, w⟩ => (by cases e; exact w), fun w => ⟨_, _, rfl, w⟩⟩

theorem wo_call (f : FuncId) (args : List AX) : Wo K (⟨d, .call f args, none⟩ :: os) r h R = (match vls r args with | some vs => Wc K (K.call f vs h) d r os R | none => False) := by
  rw [wo_heap rfl]
  simp only [step]
  cases vls r args with
  | none => rfl
  | some vs => simp only [wc_eq]

theorem wo_callP (f : FuncId) (args : List AX) : Wo K (⟨d, .callP f args, none⟩ :: os) r h R = (match vls r args with
    | some vs => (match plains vs with
      | some vs => (match K.pure f vs with
        | some v => (match plain v with
          | some v => Ws K d (.val v) r h os R
          | none => False)
        | none => False)
      | none => False)
    | none => False) := by
  rw [wo_heap rfl]
  simp only [step]
  cases vls r args with
  | none => rfl
  | some vs =>
    simp only
    cases plains vs with
    | none => rfl
    | some vs =>
      simp only
      cases K.pure f vs with
      | none => rfl
      | some v =>
        simp only
        cases plain v <;> rfl

theorem wo_callV (x : AX) (args : List AX) : Wo K (⟨d, .callV x args, none⟩ :: os) r h R = (match vl r x with
    | some (.fn (.func f) first captured) => (match vls r args with
      | some vs => Wc K (K.call f (first ++ vs ++ captured) h) d r os R
      | none => False)
    | some (.yld id) => (match vls r args with
      | some vs => Wc K (K.round id vs h) d r os R
      | none => False)
    | _ => False) := by
  rw [wo_heap rfl]
  simp only [step]
  cases vl r x with
  | none => rfl
  | some v =>
    cases v <;> try rfl
    · rename_i f a c
      cases f <;> try rfl
      simp only
      cases vls r args with
      | none => rfl
      | some vs => simp only [wc_eq]
    · simp only
      cases vls r args with
      | none => rfl
      | some vs => simp only [wc_eq]

theorem wc_some (v : AV) (h1 : Hp) : Wc K (some (v, h1)) d r os R = Ws K d (.val v) r h1 os R := propext ⟨fun ⟨_, _, e, w⟩ => by cases e; exact w, fun w => ⟨_, _, rfl, w⟩⟩

theorem wo_guard (op : AOp) (t : Nat) (b : Bool) : Wo K (⟨d, op, some (t, b)⟩ :: os) r h R = (match wanted r (some (t, b)) with
    | some true => Wo K (⟨d, op, none⟩ :: os) r h R
    | some false => Ws K d (.val (.tup [])) r h os R
    | none => False) := by
  have hn : wanted r none = some true := rfl
  simp only [Wo,Ws,execs,exec1,hn]
  cases hw : wanted r (some (t, b)) with
  | none => simp
  | some w =>
    cases w
    · simp only
      cases setD d (.val (.tup [])) r with
      | none => simp
      | some r1 => simp
    · rfl

theorem ws_none (x : Reg) : Ws K none x r h os R = Wo K os r h R := propext ⟨fun ⟨_, e, w⟩ => by cases e; exact w, fun w => ⟨_, rfl, w⟩⟩
theorem ws_some (d : Nat) (x : Reg) : Ws K (some d) x r h os R = (if ((get r d).isA || (((get r d).isV || x.isV) && r.any fun p => p.2.onto d)) = true then False else Wo K os (put r d x) h R) := by
  simp only [Ws,setD]
  split <;> simp

theorem w_skip : Wp K n .skip r h Q = Q .normal r h := propext ⟨fun ⟨_, _, _, e, w⟩ => by cases e; exact w, wpi_skip⟩
theorem w_ret : Wp K n .ret r h Q = Q .ret r h := propext ⟨fun ⟨_, _, _, e, w⟩ => by cases e; exact w, wpi_ret⟩
theorem w_exit (i : Nat) : Wp K n (.exit i) r h Q = Q (.exit i) r h := propext ⟨fun ⟨_, _, _, e, w⟩ => by cases e; exact w, wpi_exit⟩
theorem w_seq (a b : AC) : Wp K n (.seq a b) r h Q = Wp K n a r h (Then K n b Q) := by
  refine propext ⟨fun ⟨e, r', h', h1, h2⟩ => ?_, wpi_seq⟩
  simp only [exec] at h1
  split at h1
  · rename_i s e1
    exact ⟨.normal, s.1, s.2, e1, e, r', h', h1, h2⟩
  · rename_i hne
    cases e with
    | normal => exact absurd h1 (hne _)
    | exit i => exact ⟨_, _, _, h1, h2⟩
    | ret => exact ⟨_, _, _, h1, h2⟩
theorem then_n (b : AC) : Then K n b Q .normal r h = Wp K n b r h Q := rfl
theorem w_block (i : Nat) (b : AC) : Wp K n (.block i b) r h Q = Wp K n b r h (InBlock i Q) := by
  refine propext ⟨fun ⟨e, r', h', h1, h2⟩ => ?_, wpi_block⟩
  simp only [exec] at h1
  split at h1
  · rename_i j s e1
    split at h1
    · rename_i hj
      cases h1
      exact ⟨_, _, _, e1, by simp only [InBlock,if_pos hj]; exact h2⟩
    · rename_i hj
      cases h1
      exact ⟨_, _, _, e1, by simp only [InBlock,if_neg hj]; exact h2⟩
  · rename_i hne
    cases e with
    | normal => exact ⟨_, _, _, h1, h2⟩
    | exit i => exact absurd h1 (hne _ _)
    | ret => exact ⟨_, _, _, h1, h2⟩
theorem w_cond (x : AX) (a b : AC) : Wp K n (.cond x a b) r h Q = (match vl r x with
    | some (.bool c) => if c = true then Wp K n a r h Q else Wp K n b r h Q
    | _ => False) := by
  apply propext
  constructor
  · rintro ⟨e, r', h', h1, h2⟩
    simp only [exec] at h1
    split at h1
    · rename_i hv; simp only [hv,if_true]; exact ⟨_, _, _, h1, h2⟩
    · rename_i hv; simp only [hv,Bool.false_eq_true,if_false]; exact ⟨_, _, _, h1, h2⟩
    · cases h1
  · intro hw
    split at hw
    · rename_i c hv
      cases c
      · exact wpi_cond false hv (fun e => by cases e) fun _ => by simpa using hw
      · exact wpi_cond true hv (fun _ => by simpa using hw) fun e => by cases e
    · exact hw.elim
theorem w_region (ord : List Nat) (ops : List AOper) (ks : List Nat) : Wp K n (.region ord ops ks) r h Q = Wo K ops r h (Settle ks Q) := by
  apply propext
  constructor
  · rintro ⟨e, r', h', h1, h2⟩
    simp only [exec] at h1
    split at h1
    · rename_i e1; cases h1; exact ⟨_, _, e1, h2⟩
    · cases h1
  · rintro ⟨r', h', h1, h2⟩
    exact wpi_region h1 h2

def onl (t : Nat) : List Nat → Bool
  | [] => false
  | k :: ks => if t = k then true else onl t ks
theorem onl_eq (t : Nat) : ∀ ks, ks.contains t = onl t ks
  | [] => rfl
  | k :: ks => by
    have ih := onl_eq t ks
    simp only [List.contains,List.elem] at ih ⊢
    unfold onl
    rw [← ih]
    by_cases h : t = k
    · simp [h]
    · have : (t == k) = false := by simp [h]
      rw [if_neg h, this]

theorem settle_cons (ks : List Nat) (t : Nat) (x : Reg) (r : Regs) : settle ks ((t, x) :: r) = if onl t ks = true then (if x.stays = true then (t, x) :: settle ks r else settle ks r) else settle ks r := by
  unfold settle
  rw [List.filter_cons]
  rw [onl_eq]
  cases onl t ks <;> cases x.stays <;> simp
end
end Go.Im

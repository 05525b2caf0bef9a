/- ImStep2: every operation but the calls. -/
import Derived.Test.YtcnbllelfinlmaaDoorImStep
import Derived.Test.YtcnbllelfinlmaaDoorImCopyB
set_option linter.unusedVariables false
set_option linter.unusedSimpArgs false
namespace Go.Im
section
variable {P : Program} {E : Env} {h : Hp} {w : World} {r : Regs} {a : Act} {o : Oper} {reg : Reg} {GT : GTab}

theorem evalV_var {x : AOp} {v : AV} (he : evalV r h x = some (.var v)) : (∃ z, x = .allocL z) ∨ ∃ s y, x = .boxL s y := by
  cases x <;> simp only [evalV] at he <;> repeat' (split at he)
  all_goals first
    | contradiction
    | exact .inl ⟨_, rfl⟩
    | exact .inr ⟨_, _, rfl⟩
    | (cases he; done)
    | (obtain ⟨_, _, hq⟩ := map_some he; cases hq; done)
    | (obtain ⟨p', _, hq⟩ := map_some he; cases p' <;> cases hq; done)

theorem wr_sorted (hs : Sorted r) {p : Pl} {v : AV} {r' : Regs} {h' : Hp} (he : wr r h p v = some (r', h')) : Sorted r' := by
  unfold wr at he
  repeat' (split at he)
  all_goals first
    | (cases he; done)
    | (obtain ⟨_, _, hq⟩ := map_some he; cases hq; exact hs)
    | (obtain ⟨_, _, hq⟩ := map_some he; cases hq; exact hs.put _ _)

theorem copyTo_sorted (hs : Sorted r) {d : AX} {xs : List AV} {r' : Regs} {h' : Hp} (he : copyTo r h d xs = some (r', h')) : Sorted r' := by
  unfold copyTo at he
  repeat' (split at he)
  all_goals first
    | (cases he; done)
    | (cases he; exact hs)
    | (cases he; exact hs.put _ _)

theorem step_sorted {K : Kont} (hs : Sorted r) {x : AOp} {r' : Regs} {h' : Hp} (he : step K r h x = some (reg, r', h')) : Sorted r' := by
  cases x <;> simp only [step] at he <;> repeat' (split at he)
  all_goals first
    | contradiction
    | (cases he; done)
    | (cases he; exact hs)
    | (obtain ⟨_, _, hq⟩ := map_some he; cases hq; exact hs)
    | (obtain ⟨_, hw, hq⟩ := map_some he; cases hq; exact wr_sorted hs hw)
    | (obtain ⟨_, hw, hq⟩ := map_some he; cases hq; exact copyTo_sorted hs hw)

theorem Pure.res (hf : FRel E h w r a.tmps) (hh : HRel E h w) (hv : ∀ v, reg ≠ .var v) (hp : Pure P E h w r a o reg) : Res P E h w r a o reg r h := hp.not_var hv hf hh

def AOp.calls : AOp → Bool
  | .call .. | .callP .. | .callV .. => true
  | _ => false

theorem pure_step {K : Kont} (hf : FRel E h w r a.tmps) (hh : HRel E h w) {x : AOp} (hs : step K r h x = (evalV r h x).map fun y => (y, r, h)) (h1 : ∀ z, x ≠ .allocL z) (h2 : ∀ s y, x ≠ .boxL s y) (hp : ∀ reg, evalV r h x = some reg → Pure P E h w r a o reg)
    {r' : Regs} {h' : Hp} (he : step K r h x = some (reg, r', h')) : Res P E h w r a o reg r' h' := by
  rw [hs] at he
  obtain ⟨y, hy, hq⟩ := map_some he
  cases hq
  refine (hp _ hy).not_var (fun v e => ?_) hf hh
  subst e
  rcases evalV_var hy with ⟨z, e⟩ | ⟨s, y, e⟩
  · exact h1 z e
  · exact h2 s y e

theorem val_step {K : Kont} {x : AOp} (hs : step K r h x = (evalV r h x).map fun y => (y, r, h)) (hp : ∀ reg, evalV r h x = some reg → Res P E h w r a o reg r h)
    {r' : Regs} {h' : Hp} (he : step K r h x = some (reg, r', h')) : Res P E h w r a o reg r' h' := by
  rw [hs] at he
  obtain ⟨y, hy, hq⟩ := map_some he
  cases hq
  exact hp _ hy

theorem okCall_sound {K : Kont} (hG : GOk E GT) (hf : FRel E h w r a.tmps) (hh : HRel E h w) (hs : Sorted r) {c : Call} {x : AOp} (ho : o.op = .call c) (hk : okCall P GT c x = true) (hnc : x.calls = false) {r' : Regs} {h' : Hp} (he : step K r h x = some (reg, r', h')) : Res P E h w r a o reg r' h' := by
  obtain ⟨callee, args, ts⟩ := c
  unfold okCall at hk
  split at hk
  · cases hnc
  · cases hnc
  · cases hnc
  · simp only at hk
    split at hk
    · rename_i y z t xt e2 e3
      simp only [Bool.and_eq_true] at hk
      obtain ⟨⟨k1, k2⟩, k3⟩ := hk
      obtain ⟨e, hT⟩ := okApp_app k3
      have a1 : args = #[y, z] := Array.toList_inj.1 e2
      have a2 : ts = #[t, xt] := Array.toList_inj.1 e3
      subst a1; subst a2
      exact st_append hf hh ho hT (okX_rel hG k1) (okX_rel hG k2) he
    · cases hk
  · simp only at hk
    split at hk
    · rename_i y z t st e2 e3
      simp only [Bool.and_eq_true] at hk
      obtain ⟨⟨k1, k2⟩, k3⟩ := hk
      have a1 : args = #[y, z] := Array.toList_inj.1 e2
      have a2 : ts = #[t, st] := Array.toList_inj.1 e3
      subst a1; subst a2
      split at k3
      · rename_i e ht
        split at k3
        · rename_i i hi
          exact st_copy hf hh hs ho ht ⟨i, hi, by simpa using k3⟩ (okX_rel hG k1) (okX_rel hG k2) he
        · cases k3
      · cases k3
    · cases hk
  · simp only at hk
    split at hk
    · rename_i y t e2 e3
      simp only [Bool.and_eq_true] at hk
      obtain ⟨k1, k2⟩ := hk
      have a1 : args = #[y] := Array.toList_inj.1 e2
      have a2 : ts = #[t] := Array.toList_inj.1 e3
      subst a1; subst a2
      split at k2
      · rename_i e ht
        exact pure_step hf hh rfl (fun z e => by cases e) (fun s y e => by cases e) (fun reg hv => ev_lenS (ty := t) hf ho (okX_rel hG k1) ht hv) he
      · cases k2
    · cases hk
  · simp only at hk
    split at hk
    · rename_i y t e2 e3
      simp only [Bool.and_eq_true] at hk
      obtain ⟨k1, k2⟩ := hk
      have a1 : args = #[y] := Array.toList_inj.1 e2
      have a2 : ts = #[t] := Array.toList_inj.1 e3
      subst a1; subst a2
      split at k2
      · rename_i ht
        exact pure_step hf hh rfl (fun z e => by cases e) (fun s y e => by cases e) (fun reg hv => ev_lenStr (ty := t) hf ho (okX_rel hG k1) ht hv) he
      · cases k2
    · cases hk
  · simp only at hk
    split at hk
    · rename_i y t e2 e3
      simp only [Bool.and_eq_true] at hk
      obtain ⟨k1, k2⟩ := hk
      have a1 : args = #[y] := Array.toList_inj.1 e2
      have a2 : ts = #[t] := Array.toList_inj.1 e3
      subst a1; subst a2
      split at k2
      · rename_i k e ht
        exact pure_step hf hh rfl (fun z e => by cases e) (fun s y e => by cases e) (fun reg hv => ev_lenM (ty := t) hf hh ho (okX_rel hG k1) ht hv) he
      · cases k2
    · cases hk
  · rename_i mn xz
    simp only at hk
    split at hk
    · rename_i b y z e2
      simp only [Bool.and_eq_true,beq_iff_eq] at hk
      obtain ⟨⟨k0, k1⟩, k2⟩ := hk
      have a1 : args = #[y, z] := Array.toList_inj.1 e2
      subst a1; subst k0
      exact pure_step hf hh rfl (fun z e => by cases e) (fun s y e => by cases e) (fun reg hv => ev_mm hf ho (okX_rel hG k1) (okX_rel hG k2) hv) he
    · cases hk
  · simp only at hk
    split at hk
    · rename_i y yk t t2 e2 e3
      simp only [Bool.and_eq_true] at hk
      obtain ⟨⟨k1, k2⟩, k3⟩ := hk
      have a1 : args = #[y, yk] := Array.toList_inj.1 e2
      have a2 : ts = #[t, t2] := Array.toList_inj.1 e3
      subst a1; subst a2
      split at k3
      · rename_i kt et ht
        obtain ⟨d, hd, rfl, hkk⟩ := okKs_ks k3
        exact st_del hf hh ho ht hd hkk (okX_rel hG k1) (okX_rel hG k2) he
      · cases k3
    · cases hk
  · simp only at hk
    split at hk
    · rename_i y t e2 e3
      simp only [Bool.and_eq_true] at hk
      obtain ⟨k1, k2⟩ := hk
      have a1 : args = #[y] := Array.toList_inj.1 e2
      have a2 : ts = #[t] := Array.toList_inj.1 e3
      subst a1; subst a2
      split at k2
      · rename_i kt et ht
        exact st_clearM hf hh ho ht (okX_rel hG k1) he
      · cases k2
    · cases hk
  · simp only at hk
    split at hk
    · rename_i y t e2 e3
      simp only [Bool.and_eq_true] at hk
      obtain ⟨k1, k2⟩ := hk
      have a1 : args = #[y] := Array.toList_inj.1 e2
      have a2 : ts = #[t] := Array.toList_inj.1 e3
      subst a1; subst a2
      split at k2
      · rename_i e ht
        obtain ⟨i, u, q1, q2, q3, q4, q5, q6⟩ := okZ_zero E k2
        exact st_clearS hf hh ho ht q1 q3 q4 q5 (okX_rel hG k1) he
      · cases k2
    · cases hk
  · cases hk

theorem st_sound {K : Kont} (hG : GOk E GT) (hf : FRel E h w r a.tmps) (hh : HRel E h w) (hs : Sorted r) {op : Op} {x : AOp} (ho : o.op = op) (hk : okOp P GT op x = true) (hp : ∀ it, x = .next it → ∀ t, K.pick h.length = some t → t = w.tape w.drawn (.mapNext (askN r h it))) (hnc : x.calls = false)
    {r' : Regs} {h' : Hp} (he : step K r h x = some (reg, r', h')) : Res P E h w r a o reg r' h' := by
  unfold okOp at hk
  split at hk
  · exact pure_step hf hh rfl (fun z e => by cases e) (fun s y e => by cases e) (fun reg hv => ev_mov hf (.inl ho) (okX_rel hG hk) hv) he
  · exact pure_step hf hh rfl (fun z e => by cases e) (fun s y e => by cases e) (fun reg hv => ev_mov hf (.inr ho) (okX_rel hG hk) hv) he
  · simp only [Bool.and_eq_true] at hk
    obtain ⟨⟨k1, k2⟩, k3⟩ := hk
    exact pure_step hf hh rfl (fun z e => by cases e) (fun s y e => by cases e) (fun reg hv => ev_pick hf ho (okX_rel hG k1) (okX_rel hG k2) (okX_rel hG k3) hv) he
  · obtain ⟨i, u, q1, q2, q3, q4, q5, q6⟩ := okZ_zero E hk
    exact val_step rfl (fun reg hv => ev_allocL hf hh ho q1 q3 q4 q5 hv) he
  · obtain ⟨i, u, q1, q2, q3, q4, q5, q6⟩ := okZ_zero E hk
    exact st_allocH hf hh ho q1 q3 q4 q5 q6 he
  · exact val_step rfl (fun reg hv => ev_boxL hf hh ho (okX_rel hG hk) hv) he
  · exact st_boxH hf hh ho (okX_rel hG hk) he
  · simp only [Bool.and_eq_true] at hk
    exact pure_step hf hh rfl (fun z e => by cases e) (fun s y e => by cases e) (fun reg hv => ev_load hf hh ho (okX_rel hG hk.1) (okTy_ty hk.2) hv) he
  · simp only [Bool.and_eq_true] at hk
    refine pure_step hf hh rfl (fun z e => by cases e) (fun s y e => by cases e) (fun reg hv => ?_) he
    refine ev_load hf hh ho (okX_rel hG hk.1) (okTy_ty hk.2) ?_
    simp only [evalV] at hv ⊢
    split at hv
    · rename_i hpl; rw [hpl]; exact hv
    · cases hv
  · simp only [Bool.and_eq_true] at hk
    obtain ⟨⟨k1, k2⟩, k3⟩ := hk
    exact (st_store hf hh hs ho (okX_rel hG k1) (okX_rel hG k2) (okSz_sz k3) he).1
  · simp only [Bool.and_eq_true] at hk
    obtain ⟨k1, k2⟩ := hk
    split at k2
    · rename_i fs ht
      split at k2
      · rename_i fd hfd
        simp only [Bool.and_eq_true,beq_iff_eq] at k2
        obtain ⟨⟨rfl, k3⟩, k4⟩ := k2
        exact pure_step hf hh rfl (fun z e => by cases e) (fun s y e => by cases e) (fun reg hv => ev_fieldA hf ho (okX_rel hG k1) ht hfd (okSz_sz k3) (by simpa using k4) hv) he
      · cases k2
    · cases k2
  · simp only [Bool.and_eq_true] at hk
    obtain ⟨k1, k2⟩ := hk
    split at k2
    · rename_i fs ht
      split at k2
      · rename_i fd hfd
        simp only [Bool.and_eq_true,beq_iff_eq] at k2
        obtain ⟨rfl, k3⟩ := k2
        exact pure_step hf hh rfl (fun z e => by cases e) (fun s y e => by cases e) (fun reg hv => ev_field hf ho (okX_rel hG k1) ht hfd (okTy_ty k3) hv) he
      · cases k2
    · cases k2
  · simp only [Bool.and_eq_true] at hk
    obtain ⟨⟨k1, k2⟩, k3⟩ := hk
    split at k3
    · rename_i l e ht
      simp only [Bool.and_eq_true,beq_iff_eq] at k3
      obtain ⟨rfl, k4⟩ := k3
      exact pure_step hf hh rfl (fun z e => by cases e) (fun s y e => by cases e) (fun reg hv => ev_indexA hf ho (okX_rel hG k1) (okX_rel hG k2) ht (okSz_sz k4) hv) he
    · cases k3
  · simp only [Bool.and_eq_true] at hk
    obtain ⟨⟨k1, k2⟩, k3⟩ := hk
    split at k3
    · rename_i e ht
      exact pure_step hf hh rfl (fun z e => by cases e) (fun s y e => by cases e) (fun reg hv => ev_indexS hf hh ho (okX_rel hG k1) (okX_rel hG k2) ht (okSz_sz k3) hv) he
    · cases k3
  · simp only [Bool.and_eq_true] at hk
    obtain ⟨⟨k1, k2⟩, k3⟩ := hk
    split at k3
    · rename_i l e ht
      simp only [Bool.and_eq_true,beq_iff_eq] at k3
      obtain ⟨rfl, k4⟩ := k3
      exact pure_step hf hh rfl (fun z e => by cases e) (fun s y e => by cases e) (fun reg hv => ev_indexV hf ho (okX_rel hG k1) (okX_rel hG k2) ht (okTy_ty k4) hv) he
    · cases k3
  · simp only [Bool.and_eq_true] at hk
    obtain ⟨⟨k1, k2⟩, k3⟩ := hk
    split at k3
    · rename_i ht
      exact pure_step hf hh rfl (fun z e => by cases e) (fun s y e => by cases e) (fun reg hv => ev_indexStr hf ho (okX_rel hG k1) (okX_rel hG k2) ht hv) he
    · cases k3
  · simp only [Bool.and_eq_true,beq_iff_eq] at hk
    obtain ⟨⟨rfl, k1⟩, k2⟩ := hk
    exact pure_step hf hh rfl (fun z e => by cases e) (fun s y e => by cases e) (fun reg hv => ev_bin hf ho (okX_rel hG k1) (okX_rel hG k2) hv) he
  · simp only [Bool.and_eq_true,beq_iff_eq] at hk
    obtain ⟨⟨⟨⟨k0, k1⟩, k2⟩, k3⟩, k4⟩ := hk
    obtain ⟨d, hd, rfl, hkk⟩ := okKs_ks k3
    refine pure_step hf hh rfl (fun z e => by cases e) (fun s y e => by cases e) (fun reg hv => ev_eql hf k0 ho (okX_rel hG k1) (okX_rel hG k2) hd hkk (fun hag => ?_) (fun hag => ?_) hv) he
    · rw [if_pos hag] at k4; simpa using k4
    · rw [if_neg (by simp [hag])] at k4; simpa using k4
  · simp only [Bool.and_eq_true,beq_iff_eq] at hk
    obtain ⟨⟨k0, k1⟩, k2⟩ := hk
    split at k2
    · rename_i d hd
      obtain ⟨n1, n2⟩ := okNil_nk (a := a) k2
      exact pure_step hf hh rfl (fun z e => by cases e) (fun s y e => by cases e) (fun reg hv => ev_eqNil hf k0 ho (okX_rel hG k1) hd n1 n2 hv) he
    · cases k2
  · simp only [Bool.and_eq_true,beq_iff_eq] at hk
    obtain ⟨rfl, k1⟩ := hk
    exact pure_step hf hh rfl (fun z e => by cases e) (fun s y e => by cases e) (fun reg hv => ev_un hf ho (okX_rel hG k1) hv) he
  · simp only [Bool.and_eq_true] at hk
    obtain ⟨⟨k1, k2⟩, k3⟩ := hk
    obtain ⟨d, hd⟩ := Option.isSome_iff_exists.1 k2
    exact pure_step hf hh rfl (fun z e => by cases e) (fun s y e => by cases e) (fun reg hv => ev_convI hf ho (okX_rel hG k1) hd (isInt_of k3) hv) he
  · simp only [Bool.and_eq_true] at hk
    obtain ⟨⟨k1, k2⟩, k3⟩ := hk
    obtain ⟨d, hd⟩ := Option.isSome_iff_exists.1 k2
    refine pure_step hf hh rfl (fun z e => by cases e) (fun s y e => by cases e) (fun reg hv => ?_) he
    simp only [evalV] at hv
    split at hv
    · rename_i s hvs
      cases hv
      exact ev_convS hf ho (okX_rel hG k1) hd (isStr_of k3) hvs (by simp [evalV,hvs])
    · cases hv
  · simp only [Bool.and_eq_true] at hk
    obtain ⟨⟨k1, k2⟩, k3⟩ := hk
    split at k3
    · rename_i e ht
      exact pure_step hf hh rfl (fun z e => by cases e) (fun s y e => by cases e) (fun reg hv => ev_bytesToStr hf hh ho (okX_rel hG k1) ht (isStr_of k2) (isInt_of k3) hv) he
    · cases k3
  · rename_i row x
    simp only [Bool.and_eq_true] at hk
    obtain ⟨⟨k1, k2⟩, k3⟩ := hk
    obtain ⟨d, hd⟩ := Option.isSome_iff_exists.1 k2
    split at k3
    · rename_i e ht
      cases row with
      | true => exact st_strToBytes_row hf hh ho (okX_rel hG k1) hd ht (isInt_of k3) he
      | false => exact val_step rfl (fun reg hv => ev_strToBytes_imm hf hh ho (okX_rel hG k1) hd ht (isInt_of k3) hv) he
    · cases k3
  · simp only [Bool.and_eq_true,beq_iff_eq] at hk
    obtain ⟨⟨k1, rfl⟩, k3⟩ := hk
    split at k3
    · rename_i e ht
      exact st_convB hf hh ho (okX_rel hG k1) ht (isInt_of k3) he
    · cases k3
  · exact pure_step hf hh rfl (fun z e => by cases e) (fun s y e => by cases e) (fun reg hv => ev_nilCheck hf ho (okX_rel hG hk) hv) he
  · simp only [Bool.and_eq_true,beq_iff_eq] at hk
    obtain ⟨⟨rfl, k1⟩, k2⟩ := hk
    exact pure_step hf hh rfl (fun z e => by cases e) (fun s y e => by cases e) (fun reg hv => ev_mkFunc hf ho (okXs_rel hG k1) (okXs_rel hG k2) hv) he
  · simp only [Bool.and_eq_true,beq_iff_eq] at hk
    obtain ⟨k1, rfl⟩ := hk
    exact pure_step hf hh rfl (fun z e => by cases e) (fun s y e => by cases e) (fun reg hv => ev_extract hf ho (okX_rel hG k1) hv) he
  · simp only [Bool.and_eq_true] at hk
    obtain ⟨k1, k2⟩ := hk
    split at k1
    · rename_i i hi
      split at k1
      · rename_i u hu
        split at k2
        · rename_i l e ht
          split at k2
          · rename_i ie hie
            exact pure_step hf hh rfl (fun z e => by cases e) (fun s y e => by cases e) (fun reg hv => ev_lit hf ho hi hu (relC_rel k1) (.inl ⟨l, e, ie.size, ht, ⟨ie, hie, rfl⟩, rfl⟩) (okParts_rel hG k2) hv) he
          · cases k2
        · rename_i fs ht
          split at k2
          · rename_i places hpl
            exact pure_step hf hh rfl (fun z e => by cases e) (fun s y e => by cases e) (fun reg hv => ev_lit hf ho hi hu (relC_rel k1) (.inr ⟨fs, places, ht, hpl, rfl⟩) (okParts_rel hG (by simpa using k2)) hv) he
          · cases k2
        · cases k2
      · cases k1
    · cases k1
  · rename_i row s z l xs
    simp only [Bool.and_eq_true,beq_iff_eq,decide_eq_true_eq] at hk
    obtain ⟨⟨⟨⟨rfl, k2⟩, k3⟩, k4⟩, k5⟩ := hk
    split at k5
    · rename_i e ht
      obtain ⟨i, u, q1, q2, q3, q4, q5, q6⟩ := okZ_zero E k5
      cases row with
      | true => exact st_litS_row hf hh ho ht q1 q2 q3 q4 q5 q6 k2 k3 (okPartsE_rel hG k4) he
      | false => exact val_step rfl (fun reg hv => ev_litS_imm hf hh ho ht q1 q2 q3 q4 q5 q6 k2 k3 (okPartsE_rel hG k4) hv) he
    · cases k5
  · simp only [Bool.and_eq_true,decide_eq_true_eq] at hk
    obtain ⟨⟨⟨⟨k1, k2⟩, k3⟩, k4⟩, k5⟩ := hk
    split at k5
    · rename_i e ht
      simp only [Bool.and_eq_true] at k5
      obtain ⟨k5, k6⟩ := k5
      obtain ⟨i, u, q1, q2, q3, q4, q5, q6⟩ := okZ_zero E k5
      rw [q1] at k6
      exact st_mkSlice hf hh ho ht q1 q2 (by simpa using k6) q3 q4 q5 q6 k3 k4 (okX_rel hG k1) (okX_rel hG k2) he
    · cases k5
  · simp only [Bool.and_eq_true] at hk
    obtain ⟨⟨⟨⟨k1, k2⟩, k3⟩, k4⟩, k5⟩ := hk
    exact pure_step hf hh rfl (fun z e => by cases e) (fun s y e => by cases e) (fun reg hv => ev_slice hf ho (okX_rel hG k1) (sz := none) (isStr_of k5) (okO_rel hG k2) (okO_rel hG k3) (okO_rel hG k4) hv) he
  · simp only [Bool.and_eq_true] at hk
    obtain ⟨⟨⟨⟨k1, k2⟩, k3⟩, k4⟩, k5⟩ := hk
    split at k5
    · rename_i e ht
      exact pure_step hf hh rfl (fun z e => by cases e) (fun s y e => by cases e) (fun reg hv => ev_slice hf ho (okX_rel hG k1) (sz := some _) ⟨e, ht, okSz_sz k5⟩ (okO_rel hG k2) (okO_rel hG k3) (okO_rel hG k4) hv) he
    · cases k5
  · simp only [Bool.and_eq_true] at hk
    obtain ⟨⟨⟨k1, k2⟩, k3⟩, k5⟩ := hk
    split at k5
    · rename_i l e ht
      simp only [Bool.and_eq_true,beq_iff_eq] at k5
      obtain ⟨rfl, k6⟩ := k5
      exact val_step rfl (fun reg hv => ev_sliceA hf hh ho (okX_rel hG k1) ht (okSz_sz k6) (okO_rel hG k2) (okO_rel hG k3) hv) he
    · cases k5
  · simp only [Bool.and_eq_true] at hk
    obtain ⟨⟨⟨k1, k2⟩, k3⟩, k5⟩ := hk
    split at k5
    · rename_i e ht
      exact pure_step hf hh rfl (fun z e => by cases e) (fun s y e => by cases e) (fun reg hv => ev_sliceX hf hh ho (okX_rel hG k1) ht (okSz_sz k5) (okX_rel hG k2) (okX_rel hG k3) hv) he
    · cases k5
  · exact st_mkMap hf hh ho he
  · simp only [Bool.and_eq_true,beq_iff_eq] at hk
    obtain ⟨⟨⟨rfl, k1⟩, k2⟩, k5⟩ := hk
    split at k5
    · rename_i kt et ht
      simp only [Bool.and_eq_true] at k5
      obtain ⟨k5, k6⟩ := k5
      obtain ⟨d, hd, rfl, hkk⟩ := okKs_ks k5
      obtain ⟨i, u, q1, q2, q3, q4, q5, q6⟩ := okZ_zero E k6
      exact pure_step hf hh rfl (fun z e => by cases e) (fun s y e => by cases e) (fun reg hv => ev_lookup hf hh ho ht hd hkk q1 q3 q4 (okX_rel hG k1) (okX_rel hG k2) hv) he
    · cases k5
  · simp only [Bool.and_eq_true] at hk
    obtain ⟨⟨⟨k1, k2⟩, k3⟩, k5⟩ := hk
    split at k5
    · rename_i kt et ht
      obtain ⟨d, hd, rfl, hkk⟩ := okKs_ks k5
      exact st_mapUpd hf hh (.inl ho) ht hd hkk (okX_rel hG k1) (okX_rel hG k2) (okX_rel hG k3) he
    · cases k5
  · simp only [Bool.and_eq_true] at hk
    obtain ⟨⟨⟨k1, k2⟩, k3⟩, k5⟩ := hk
    split at k5
    · rename_i kt et ht
      obtain ⟨d, hd, rfl, hkk⟩ := okKs_ks k5
      exact st_mapUpd hf hh (.inr ho) ht hd hkk (okX_rel hG k1) (okX_rel hG k2) (okX_rel hG k3) he
    · cases k5
  · simp only [Bool.and_eq_true] at hk
    obtain ⟨⟨k1, k2⟩, k5⟩ := hk
    split at k5
    · rename_i kt et ht
      simp only [Bool.and_eq_true] at k5
      obtain ⟨k5, k6⟩ := k5
      obtain ⟨d, hd, rfl, hkk⟩ := okKs_ks k5
      obtain ⟨i, u, q1, q2, q3, q4, q5, q6⟩ := okZ_zero E k6
      exact st_mapEnt hf hh ho ht hd hkk q1 q3 q4 (okX_rel hG k1) (okX_rel hG k2) he
    · cases k5
  · simp only [Bool.and_eq_true] at hk
    obtain ⟨⟨k1, k2⟩, k3⟩ := hk
    exact st_entSto hf hh ho (okX_rel hG k1) (okX_rel hG k2) (okX_rel hG k3) he
  · simp only [Bool.and_eq_true] at hk
    obtain ⟨k1, k5⟩ := hk
    split at k5
    · rename_i kt et ht
      exact st_range hf hh ho ht (okX_rel hG k1) he
    · cases k5
  · exact st_next hf hh ho (okX_rel hG hk) (hp _ rfl) he
  · exact st_entry hf hh ho (okX_rel hG hk) he
  · exact okCall_sound hG hf hh hs ho hk hnc he
  · cases hk
end
end Go.Im

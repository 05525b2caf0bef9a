/- ImDead: what runs where an entry of the heap is dead, runs in the same way where it is not. -/
import Derived.Test.YtdjlcddkfjbebaaImSem
set_option linter.unusedVariables false
namespace Go.Im

/-- The entry k is dead. -/
def D (k : Nat) (h : Hp) : Prop := h[k]? = some AO.dead

variable {k : Nat} {X : AO} {h : Hp}

theorem D.acc (hD : D k h) (X : AO) (id : Nat) : ((h.set k X)[id]? = h[id]?) ∨ h[id]? = some .dead := by
  unfold D at hD
  by_cases e : k = id
  · subst e; exact .inr hD
  · left; simp [e]

theorem D.lt (hD : D k h) : k < h.length := by
  unfold D at hD
  rcases Nat.lt_or_ge k h.length with h1 | h1
  · exact h1
  · rw [List.getElem?_eq_none h1] at hD; cases hD

theorem D.app (hD : D k h) (X : AO) (l : Hp) : (h ++ l).set k X = h.set k X ++ l := by
  rw [List.set_append_left _ _ hD.lt]

theorem D.appD (hD : D k h) (l : Hp) : D k (h ++ l) := by
  have := hD.lt
  unfold D at *; rw [List.getElem?_append_left this]; exact hD

theorem D.set (hD : D k h) (X : AO) {id : Nat} {o o' : AO} (e : h[id]? = some o) (hn : o ≠ .dead) : (h.set id o').set k X = (h.set k X).set id o' ∧ D k (h.set id o') := by
  unfold D at *
  have hk : id ≠ k := fun c => by subst c; rw [hD] at e; exact hn (Option.some.inj e).symm
  exact ⟨List.set_comm _ _ hk, by rw [List.getElem?_set_ne hk]; exact hD⟩

theorem len_u : (h.set k X).length = h.length := by simp

theorem rd_u (hD : D k h) {r : Regs} {agg : Bool} {size : Nat} {p : Pl} {v : AV} (H : rd r h agg size p = some v) : rd r (h.set k X) agg size p = some v := by
  cases p with
  | loc t o => exact H
  | im w => exact H
  | hp id s i o =>
    simp only [rd] at H ⊢
    rcases hD.acc X id with e | e
    · rw [e]; exact H
    · rw [e] at H; cases H

theorem elems_u (hD : D k h) {sz : Nat} {v : AV} {es : List AV} (H : elems h sz v = some es) : elems (h.set k X) sz v = some es := by
  cases v with
  | row id s off n c =>
    simp only [elems] at H ⊢
    rcases hD.acc X id with e | e
    · rw [e]; exact H
    · rw [e] at H; cases H
  | _ => exact H

theorem mapOf_u (hD : D k h) {v : AV} {es : List (AV × AV × Nat)} (H : mapOf h v = some es) : mapOf (h.set k X) v = some es := by
  cases v with
  | mp id =>
    simp only [mapOf] at H ⊢
    rcases hD.acc X id with e | e
    · rw [e]; exact H
    · rw [e] at H; cases H
  | _ => exact H

theorem selems_u (hD : D k h) {r : Regs} {sz : Nat} {x : AX} {es : List AV} (H : selems r h sz x = some es) : selems r (h.set k X) sz x = some es := by
  cases x with
  | c v => exact elems_u hD H
  | t n =>
    simp only [selems] at H ⊢
    split at H
    · exact elems_u hD H
    · exact H
    · rename_i id s i off n es' _
      rcases hD.acc X id with e | e
      · rw [e]; exact H
      · rw [e] at H; cases H
    · cases H

theorem srcElems_u (hD : D k h) {r : Regs} {sz : Nat} {x : AX} {es : List AV} (H : srcElems r h sz x = some es) : srcElems r (h.set k X) sz x = some es := by
  simp only [srcElems] at H ⊢
  split at H
  · exact H
  · exact selems_u hD H

/-- The rest of a match over a look that came to something. -/
theorem obm {α β : Type} {a b : Option α} {f : α → Option β} {y : β} (hab : ∀ x, a = some x → b = some x) (H : (a.bind f) = some y) : b.bind f = some y := by
  cases ha : a with
  | none => rw [ha] at H; cases H
  | some x => rw [hab x ha]; rw [ha] at H; exact H

theorem evalV_u (hD : D k h) {r : Regs} {o : AOp} {x : Reg} (H : evalV r h o = some x) : evalV r (h.set k X) o = some x := by
  cases o with
  | load agg s a =>
    simp only [evalV] at H ⊢
    cases hp : plc r a with
    | none => rw [hp] at H; cases H
    | some p =>
      rw [hp] at H; simp only [] at H ⊢
      cases hr : rd r h agg s p with
      | none => rw [hr] at H; cases H
      | some v => rw [rd_u hD hr]; rw [hr] at H; exact H
  | loadL agg s a =>
    simp only [evalV] at H ⊢
    split at H
    · rename_i t o' e
      try rw [e]
      try simp only []
      cases hr : rd r h agg s (.loc t o') with
      | none => rw [hr] at H; cases H
      | some v => rw [rd_u hD hr]; rw [hr] at H; exact H
    · cases H
  | bytesToStr x =>
    simp only [evalV] at H ⊢
    cases hr : selems r h 1 x with
    | none => rw [hr] at H; cases H
    | some v => rw [selems_u hD hr]; rw [hr] at H; exact H
  | lenM x =>
    simp only [evalV] at H ⊢
    cases hp : vl r x with
    | none => rw [hp] at H; cases H
    | some p =>
      rw [hp] at H; simp only [] at H ⊢
      cases hr : mapOf h p with
      | none => rw [hr] at H; cases H
      | some v => rw [mapOf_u hD hr]; rw [hr] at H; exact H
  | lookup agg ks zero ok m kk =>
    simp only [evalV] at H ⊢
    cases hp : vl r m with
    | none => rw [hp] at H; cases H
    | some p =>
      cases hq : vl r kk with
      | none => rw [hp, hq] at H; cases H
      | some q =>
        rw [hp, hq] at H; simp only [] at H ⊢
        cases hr : mapOf h p with
        | none => rw [hr] at H; split at H <;> first | (cases H; done) | (cases ‹none = some _›)
        | some v => rw [mapOf_u hD hr]; rw [hr] at H; exact H
  | strToBytes row x => cases row <;> exact H
  | litS row esz zero len parts => cases row <;> exact H
  | _ => exact H

/-- What came of an operation comes of it there too. -/
def U (k : Nat) (X : AO) {α : Type} (a b : Option (α × Hp)) : Prop := ∀ v g, a = some (v, g) → D k g ∧ b = some (v, g.set k X)

theorem wr_u (hD : D k h) {r : Regs} {p : Pl} {v : AV} : U k X (wr r h p v) (wr r (h.set k X) p v) := by
  intro y g H
  cases p with
  | loc t o =>
    simp only [wr] at H ⊢
    split at H
    · cases hu : upd ‹AV› o v with
      | none => rw [hu] at H; cases H
      | some y' => rw [hu] at H; simp only [Option.map_some, Option.some.injEq, Prod.mk.injEq] at H ⊢; obtain ⟨rfl, rfl⟩ := H; exact ⟨hD, rfl, rfl⟩
    · cases H
  | im w => cases H
  | hp id s i o =>
    simp only [wr] at H ⊢
    rcases hD.acc X id with e | e
    · cases hr : h[id]? with
      | none => rw [hr] at H; cases H
      | some w =>
        rw [hr] at H e; rw [e]
        cases w with
        | row s' es =>
          simp only [] at H ⊢
          split at H
          · rename_i hs
            rw [if_pos hs]
            split at H
            · rename_i x hx
              try rw [hx]
              try simp only []
              cases hu : upd x o v with
              | none => rw [hu] at H; cases H
              | some y' =>
                rw [hu] at H; simp only [Option.map_some, Option.some.injEq, Prod.mk.injEq] at H ⊢; obtain ⟨rfl, rfl⟩ := H
                obtain ⟨c1, c2⟩ := hD.set X (o' := .row s (es.set i y')) hr (by simp)
                exact ⟨c2, rfl, c1.symm⟩
            · cases H
          · cases H
        | _ => cases H
    · rw [e] at H; cases H

theorem newRow_u (hD : D k h) (row : Bool) (size : Nat) (es : List AV) : D k (newRow row size es h).2 ∧ newRow row size es (h.set k X) = ((newRow row size es h).1, (newRow row size es h).2.set k X) := by
  cases row <;> simp only [newRow, len_u] <;> exact ⟨hD.appD _, by simp [hD.app]⟩

theorem newRow_some (hD : D k h) {row : Bool} {size : Nat} {es : List AV} {v : AV} {g : Hp} (H : some (newRow row size es h) = some (v, g)) : D k g ∧ some (newRow row size es (h.set k X)) = some (v, g.set k X) := by
  have h1 := newRow_u (X := X) hD row size es
  simp only [Option.some.injEq] at H
  rw [h1.2]; rw [H] at h1 ⊢; exact ⟨h1.1, rfl⟩

theorem appendV_u (hD : D k h) {row : Bool} {size bytes : Nat} {s : AV} {xs : List AV} : U k X (appendV row size bytes s xs h) (appendV row size bytes s xs (h.set k X)) := by
  intro y g H
  unfold appendV at H ⊢
  by_cases hx : xs = []
  · simp only [hx, if_true] at H ⊢
    split at H <;> first | (cases H; exact ⟨hD, rfl⟩) | cases H
  · simp only [hx, if_false] at H ⊢
    cases s with
    | nils =>
      simp only [] at H ⊢
      split at H
      · rw [if_pos ‹_›]; exact newRow_some hD H
      · cases H
    | imm sz es c =>
      simp only [] at H ⊢
      split at H
      · rw [if_pos ‹_›]
        cases c with
        | full => exact newRow_some hD H
        | no => cases H
        | tok id e' =>
          simp only [] at H ⊢
          rcases hD.acc X id with e | e
          · cases hr : h[id]? with
            | none => rw [hr] at H; cases H
            | some w =>
              rw [hr] at H e; rw [e]
              cases w with
              | tail sz' e'' =>
                simp only [] at H ⊢
                split at H
                · rw [if_pos ‹_›]
                  obtain ⟨c1, c2⟩ := hD.set X (o' := .dead) hr (by simp)
                  simp only [Option.some.injEq, Prod.mk.injEq, len_u] at H ⊢; obtain ⟨rfl, rfl⟩ := H
                  exact ⟨c2.appD _, rfl, by rw [c2.app, c1]⟩
                · cases H
              | _ => cases H
          · rw [e] at H; cases H
      · cases H
    | row id sz off n clip =>
      simp only [] at H ⊢
      rcases hD.acc X id with e | e
      · cases hr : h[id]? with
        | none => rw [hr] at H; cases H
        | some w =>
          rw [hr] at H e; rw [e]
          cases w with
          | row sz' es =>
            simp only [] at H ⊢
            split at H
            · rw [if_pos ‹_›]
              cases clip with
              | true => simp only [if_true] at H ⊢; exact newRow_some hD H
              | false =>
                simp only [if_false, Bool.false_eq_true] at H ⊢
                split at H
                · rw [if_pos ‹_›]
                  simp only [Option.some.injEq, Prod.mk.injEq] at H ⊢; obtain ⟨rfl, rfl⟩ := H
                  obtain ⟨c1, c2⟩ := hD.set X (o' := .row size (es.take (off + n) ++ (xs ++ es.drop (off + n + xs.length)))) hr (by simp)
                  exact ⟨c2, rfl, c1.symm⟩
                · rw [if_neg ‹_›]
                  split at H
                  · rw [if_pos ‹_›]
                    obtain ⟨c1, c2⟩ := hD.set X (o' := .dead) hr (by simp)
                    simp only [Option.some.injEq, Prod.mk.injEq, len_u] at H ⊢; obtain ⟨rfl, rfl⟩ := H
                    exact ⟨c2.appD _, rfl, by rw [c2.app, c1]⟩
                  · cases H
            · cases H
          | _ => cases H
      · rw [e] at H; cases H
    | _ => cases H

theorem copyTo_u (hD : D k h) {r : Regs} {d : AX} {xs : List AV} : U k X (copyTo r h d xs) (copyTo r (h.set k X) d xs) := by
  intro y g H
  cases d with
  | c v =>
    simp only [copyTo] at H ⊢
    split at H
    · rw [if_pos ‹_›]; cases H; exact ⟨hD, rfl⟩
    · cases H
  | t m =>
    simp only [copyTo] at H ⊢
    cases hg : get r m with
    | val v =>
      rw [hg] at H
      cases v with
      | row id s off n c =>
        simp only [] at H ⊢
        rcases hD.acc X id with e | e
        · cases hr : h[id]? with
          | none => rw [hr] at H; cases H
          | some w =>
            rw [hr] at H e; rw [e]
            cases w with
            | row s' es =>
              simp only [] at H ⊢
              split at H
              · rw [if_pos ‹_›]
                simp only [Option.some.injEq, Prod.mk.injEq] at H ⊢; obtain ⟨rfl, rfl⟩ := H
                obtain ⟨c1, c2⟩ := hD.set X (o' := .row s (es.take off ++ (xs ++ es.drop (off + xs.length)))) hr (by simp)
                exact ⟨c2, rfl, c1.symm⟩
              · cases H
            | _ => cases H
        · rw [e] at H; cases H
      | _ =>
        simp only [] at H ⊢
        split at H
        · rw [if_pos ‹_›]; cases H; exact ⟨hD, rfl⟩
        · cases H
    | slc t off n es =>
      rw [hg] at H; simp only [] at H ⊢
      split at H
      · split at H
        · rename_i hs; rw [if_pos hs]; cases H; exact ⟨hD, rfl⟩
        · cases H
      · cases H
    | hslc id s i off n es =>
      rw [hg] at H; simp only [] at H ⊢
      rcases hD.acc X id with e | e
      · cases hr : h[id]? with
        | none => rw [hr] at H; cases H
        | some w =>
          rw [hr] at H e; rw [e]
          cases w with
          | row s' vs =>
            simp only [] at H ⊢
            split at H
            · rename_i cs hcs
              try simp only [hcs] at H ⊢
              split at H
              · rename_i hs; rw [if_pos hs]
                simp only [Option.some.injEq, Prod.mk.injEq] at H ⊢; obtain ⟨rfl, rfl⟩ := H
                obtain ⟨c1, c2⟩ := hD.set X (o' := .row s (vs.set i (.agg (cs.take off ++ (xs ++ cs.drop (off + xs.length)))))) hr (by simp)
                exact ⟨c2, rfl, c1.symm⟩
              · cases H
            · cases H
          | _ => cases H
      · rw [e] at H; cases H
    | _ => rw [hg] at H; cases H

theorem D.look (hD : D k h) (X : AO) (id : Nat) : (∃ o, h[id]? = some o ∧ o ≠ .dead ∧ (h.set k X)[id]? = some o) ∨ h[id]? = none ∨ h[id]? = some .dead := by
  rcases hD.acc X id with e | e
  · cases hr : h[id]? with
    | none => exact .inr (.inl rfl)
    | some o =>
      by_cases ho : o = .dead
      · subst ho; exact .inr (.inr rfl)
      · exact .inl ⟨o, rfl, ho, by rw [e, hr]⟩
  · exact .inr (.inr e)

/-- The calls of a continuation do so too. -/
def UK (k : Nat) (X : AO) (K : Kont) : Prop := ∀ f vs h, D k h → U k X (K.call f vs h) (K.call f vs (h.set k X))

theorem step_u {K : Kont} (hK : UK k X K) (hD : D k h) (r : Regs) (o : AOp) {x : Reg} {r' : Regs} {g : Hp} (H : step K r h o = some (x, r', g)) : D k g ∧ step K r (h.set k X) o = some (x, r', g.set k X) := by
  have pushD : ∀ (l : Hp) (v : Reg), some (v, r, h ++ l) = some (x, r', g) → D k g ∧ some (v, r, h.set k X ++ l) = some (x, r', g.set k X) := by
    intro l v H
    simp only [Option.some.injEq, Prod.mk.injEq] at H ⊢; obtain ⟨rfl, rfl, rfl⟩ := H
    exact ⟨hD.appD _, rfl, rfl, (hD.app X l).symm⟩
  have setD' : ∀ (id : Nat) (o o' : AO) (v : Reg), h[id]? = some o → o ≠ .dead → some (v, r, h.set id o') = some (x, r', g) → D k g ∧ some (v, r, (h.set k X).set id o') = some (x, r', g.set k X) := by
    intro id o o' v e hn H
    simp only [Option.some.injEq, Prod.mk.injEq] at H ⊢; obtain ⟨rfl, rfl, rfl⟩ := H
    obtain ⟨c1, c2⟩ := hD.set X (o' := o') e hn
    exact ⟨c2, rfl, rfl, c1.symm⟩
  have same : ∀ (v : Reg), some (v, r, h) = some (x, r', g) → D k g ∧ some (v, r, h.set k X) = some (x, r', g.set k X) := by
    intro v H
    simp only [Option.some.injEq, Prod.mk.injEq] at H ⊢; obtain ⟨rfl, rfl, rfl⟩ := H
    exact ⟨hD, rfl, rfl, rfl⟩
  have ev : ∀ (op : AOp), (evalV r h op).map (fun x => (x, r, h)) = some (x, r', g) → D k g ∧ (evalV r (h.set k X) op).map (fun x => (x, r, h.set k X)) = some (x, r', g.set k X) := by
    intro op H
    cases he : evalV r h op with
    | none => rw [he] at H; cases H
    | some y => rw [he] at H; rw [evalV_u hD he]; exact same _ H
  cases o with
  | allocH s z => simp only [step, len_u] at H ⊢; exact pushD _ _ H
  | boxH s y =>
    simp only [step, len_u] at H ⊢
    split at H
    · split at H
      · rw [if_pos ‹_›]; exact pushD _ _ H
      · cases H
    · cases H
  | store s a y =>
    simp only [step] at H ⊢
    split at H
    · split at H
      · rw [if_pos ‹_›]
        rename_i p v _ _ _
        cases hw : wr r h p v with
        | none => rw [hw] at H; cases H
        | some q =>
          obtain ⟨q1, q2⟩ := q
          obtain ⟨d1, d2⟩ := wr_u (X := X) hD _ _ hw
          rw [hw] at H; rw [d2]
          simp only [Option.map_some, Option.some.injEq, Prod.mk.injEq] at H ⊢; obtain ⟨rfl, rfl, rfl⟩ := H
          exact ⟨d1, rfl, rfl, rfl⟩
      · cases H
    · cases H
  | litS row esz zero len parts =>
    cases row with
    | false => exact ev _ H
    | true =>
      simp only [step, len_u] at H ⊢
      split at H
      · cases hp : placeEs (List.replicate len zero) esz ‹_› with
        | none => rw [hp] at H; cases H
        | some es => rw [hp] at H; exact pushD _ _ H
      · cases H
  | strToBytes row y =>
    cases row with
    | false => exact ev _ H
    | true =>
      simp only [step, len_u] at H ⊢
      split at H
      · exact pushD _ _ H
      · cases H
  | convB y =>
    simp only [step] at H ⊢
    split at H
    · rename_i id n c _
      rcases hD.look X id with ⟨o, e1, e2, e3⟩ | e | e
      · rw [e1] at H; rw [e3]
        split at H
        · split at H
          · try rw [if_pos ‹_›]
            exact setD' _ _ _ _ e1 e2 H
          · cases H
        · cases H
      · rw [e] at H; cases H
      · rw [e] at H; cases H
    · cases H
  | mkSlice row esz bytes zero l c =>
    simp only [step] at H ⊢
    split at H
    · rename_i l' c' _ _
      split at H
      · rw [if_pos ‹_›]
        have hn := newRow_u (X := X) hD row esz (List.replicate l'.toNat zero)
        rw [hn.2]
        simp only [Option.some.injEq, Prod.mk.injEq] at H ⊢; obtain ⟨rfl, rfl, rfl⟩ := H
        exact ⟨hn.1, rfl, rfl, rfl⟩
      · cases H
    · cases H
  | append g' row esz bytes s y =>
    simp only [step] at H ⊢
    cases hs : vl r s with
    | none => rw [hs] at H; cases H
    | some v =>
      cases hx : srcElems r h esz y with
      | none => rw [hs, hx] at H; cases H
      | some xs =>
        rw [hs, hx] at H; rw [srcElems_u hD hx]
        simp only [] at H ⊢
        split at H
        · cases H
        · rw [if_neg ‹_›]
          cases hw : appendV row esz bytes v xs h with
          | none => rw [hw] at H; cases H
          | some q =>
            obtain ⟨q1, q2⟩ := q
            obtain ⟨d1, d2⟩ := appendV_u (X := X) hD _ _ hw
            rw [hw] at H; rw [d2]
            simp only [Option.map_some, Option.some.injEq, Prod.mk.injEq] at H ⊢; obtain ⟨rfl, rfl, rfl⟩ := H
            exact ⟨d1, rfl, rfl, rfl⟩
  | copy esz d s =>
    simp only [step, dlen] at H ⊢
    split at H
    · rename_i n xs e1 e2
      rw [srcElems_u hD e2]
      cases hw : copyTo r h d (xs.take n) with
      | none => rw [hw] at H; cases H
      | some q =>
        obtain ⟨q1, q2⟩ := q
        obtain ⟨d1, d2⟩ := copyTo_u (X := X) hD _ _ hw
        rw [hw] at H
        simp only [e1, d2]
        simp only [Option.map_some, Option.some.injEq, Prod.mk.injEq] at H ⊢; obtain ⟨rfl, rfl, rfl⟩ := H
        exact ⟨d1, rfl, rfl, rfl⟩
    · cases H
  | mkMap => simp only [step, len_u] at H ⊢; exact pushD _ _ H
  | mapUpd agg ks m kk y =>
    simp only [step] at H ⊢
    split at H
    · rename_i id k' v _ _ _
      rcases hD.look X id with ⟨o, e1, e2, e3⟩ | e | e
      · rw [e1] at H; rw [e3]
        cases o with
        | map es clock =>
          cases hk : keyOk agg ks k' with
          | false => rw [hk] at H; cases H
          | true =>
            rw [hk] at H
            simp only [] at H ⊢
            split at H
            · exact setD' _ _ _ _ e1 e2 H
            · exact setD' _ _ _ _ e1 e2 H
            · cases H
        | _ => cases hk : keyOk agg ks k' <;> (rw [hk] at H; cases H)
      · rw [e] at H; cases H
      · rw [e] at H; cases H
    · cases H
  | mapEnt agg ks zero m kk =>
    simp only [step] at H ⊢
    split at H
    · rename_i id k' _ _
      rcases hD.look X id with ⟨o, e1, e2, e3⟩ | e | e
      · rw [e1] at H; rw [e3]
        cases o with
        | map es clock =>
          cases hk : keyOk agg ks k' with
          | false => rw [hk] at H; cases H
          | true =>
            rw [hk] at H
            simp only [] at H ⊢
            split at H
            · split at H
              · exact setD' _ _ _ _ e1 e2 H
              · cases H
            · exact setD' _ _ _ _ e1 e2 H
            · cases H
        | _ => cases hk : keyOk agg ks k' <;> (rw [hk] at H; cases H)
      · rw [e] at H; cases H
      · rw [e] at H; cases H
    · cases H
  | entSto m s y =>
    simp only [step] at H ⊢
    split at H
    · rename_i id b v _ _ _
      rcases hD.look X id with ⟨o, e1, e2, e3⟩ | e | e
      · rw [e1] at H; rw [e3]
        cases o with
        | map es clock =>
          simp only [] at H ⊢
          split at H
          · exact setD' _ _ _ _ e1 e2 H
          · cases H
        | _ => cases H
      · rw [e] at H; cases H
      · rw [e] at H; cases H
    · cases H
  | del agg ks m kk =>
    simp only [step] at H ⊢
    split at H
    · split at H
      · rw [if_pos ‹_›]; exact same _ H
      · cases H
    · rename_i id k' _ _
      rcases hD.look X id with ⟨o, e1, e2, e3⟩ | e | e
      · rw [e1] at H; rw [e3]
        cases o with
        | map es clock =>
          cases hk : keyOk agg ks k' with
          | false => rw [hk] at H; cases H
          | true =>
            rw [hk] at H
            simp only [] at H ⊢
            split at H
            · exact setD' _ _ _ _ e1 e2 H
            · exact same _ H
            · cases H
        | _ => cases hk : keyOk agg ks k' <;> (rw [hk] at H; cases H)
      · rw [e] at H; cases H
      · rw [e] at H; cases H
    · cases H
  | clearS zero y =>
    simp only [step] at H ⊢
    split at H
    · exact same _ H
    · split at H
      · rw [if_pos ‹_›]; exact same _ H
      · cases H
    · rename_i id s off n c _
      rcases hD.look X id with ⟨o, e1, e2, e3⟩ | e | e
      · rw [e1] at H; rw [e3]
        cases o with
        | row s' es =>
          simp only [] at H ⊢
          split at H
          · rw [if_pos ‹_›]; exact setD' _ _ _ _ e1 e2 H
          · cases H
        | _ => cases H
      · rw [e] at H; cases H
      · rw [e] at H; cases H
    · cases H
  | call f args =>
    simp only [step] at H ⊢
    split at H
    · rename_i vs _
      cases hw : K.call f vs h with
      | none => rw [hw] at H; cases H
      | some q =>
        obtain ⟨q1, q2⟩ := q
        obtain ⟨d1, d2⟩ := hK f vs h hD _ _ hw
        rw [hw] at H; rw [d2]
        simp only [Option.map_some, Option.some.injEq, Prod.mk.injEq] at H ⊢; obtain ⟨rfl, rfl, rfl⟩ := H
        exact ⟨d1, rfl, rfl, rfl⟩
    · cases H
  | callV y args =>
    simp only [step] at H ⊢
    split at H
    · rename_i f fi ca vs _ _
      cases hw : K.call f (fi ++ vs ++ ca) h with
      | none => rw [hw] at H; cases H
      | some q =>
        obtain ⟨q1, q2⟩ := q
        obtain ⟨d1, d2⟩ := hK f _ h hD _ _ hw
        rw [hw] at H; rw [d2]
        simp only [Option.map_some, Option.some.injEq, Prod.mk.injEq] at H ⊢; obtain ⟨rfl, rfl, rfl⟩ := H
        exact ⟨d1, rfl, rfl, rfl⟩
    · cases H
  | callP f args =>
    simp only [step] at H ⊢
    split at H
    · split at H
      · split at H
        · rename_i v _
          cases hp : plain v with
          | none => rw [hp] at H; cases H
          | some w => rw [hp] at H; exact same _ H
        · cases H
      · cases H
    · cases H
  | range y =>
    simp only [step, len_u] at H ⊢
    split at H
    · exact pushD _ _ H
    · rename_i id _
      rcases hD.look X id with ⟨o, e1, e2, e3⟩ | e | e
      · rw [e1] at H; rw [e3]
        cases o with
        | map es clock => exact pushD _ _ H
        | _ => cases H
      · rw [e] at H; cases H
      · rw [e] at H; cases H
    · cases H
  | next y =>
    simp only [step, len_u] at H ⊢
    split at H
    · rename_i id _
      rcases hD.look X id with ⟨o, e1, e2, e3⟩ | e | e
      · rw [e1] at H; rw [e3]
        cases o with
        | iter mm since seen stepped =>
          cases mm with
          | none => exact same _ H
          | some m =>
            simp only [] at H ⊢
            rcases hD.look X m with ⟨o', f1, f2, f3⟩ | e | e
            · rw [f1] at H; rw [f3]
              cases o' with
              | map es clock =>
                simp only [] at H ⊢
                split at H
                · cases H
                · rw [if_neg ‹_›]
                  split at H
                  · simp only [Option.some.injEq, Prod.mk.injEq] at H ⊢; obtain ⟨rfl, rfl, rfl⟩ := H
                    obtain ⟨c1, c2⟩ := hD.set X (o' := .iter (some m) since (seen ++ [‹AV × AV × Nat›.2.2]) clock) e1 e2
                    exact ⟨c2.appD _, rfl, rfl, by rw [c2.app, c1]⟩
                  · exact pushD _ _ H
                  · cases H
              | _ => cases H
            · rw [e] at H; cases H
            · rw [e] at H; cases H
        | _ => cases H
      · rw [e] at H; cases H
      · rw [e] at H; cases H
    · cases H
  | entry y =>
    simp only [step] at H ⊢
    split at H
    · rename_i id _
      rcases hD.look X id with ⟨o, e1, e2, e3⟩ | e | e
      · rw [e1] at H; rw [e3]
        cases o with
        | iter mm since seen stepped =>
          cases mm with
          | none => cases H
          | some m =>
            simp only [] at H ⊢
            rcases hD.look X m with ⟨o', f1, f2, f3⟩ | e | e
            · rw [f1] at H; rw [f3]
              cases o' with
              | map es clock =>
                cases hl : seen.getLast? with
                | none => rw [hl] at H; cases H
                | some b =>
                  rw [hl] at H
                  simp only [] at H ⊢
                  split at H
                  · rw [if_pos ‹_›]
                    split at H
                    · exact same _ H
                    · cases H
                  · cases H
              | _ => cases hl : seen.getLast? <;> (rw [hl] at H; cases H)
            · rw [e] at H; cases H
            · rw [e] at H; cases H
        | _ => cases H
      · rw [e] at H; cases H
      · rw [e] at H; cases H
    · cases H
  | clearM y =>
    simp only [step] at H ⊢
    split at H
    · exact same _ H
    · rename_i id _
      rcases hD.look X id with ⟨o, e1, e2, e3⟩ | e | e
      · rw [e1] at H; rw [e3]
        cases o with
        | map es clock => exact setD' _ _ _ _ e1 e2 H
        | _ => cases H
      · rw [e] at H; cases H
      · rw [e] at H; cases H
    · cases H
  | _ => simp only [step] at H ⊢; exact ev _ H

theorem exec1_u {K : Kont} (hK : UK k X K) (hD : D k h) (o : AOper) (r : Regs) : U k X (exec1 K o r h) (exec1 K o r (h.set k X)) := by
  intro y g H
  simp only [exec1] at H ⊢
  split at H
  · cases hs : step K r h o.op with
    | none => rw [hs] at H; cases H
    | some q =>
      obtain ⟨x, r', g'⟩ := q
      obtain ⟨d1, d2⟩ := step_u hK hD r o.op hs
      rw [hs] at H; rw [d2]
      simp only [] at H ⊢
      cases hd : setD o.dst x r' with
      | none => rw [hd] at H; cases H
      | some r2 => rw [hd] at H; cases H; exact ⟨d1, rfl⟩
  · cases hd : setD o.dst (.val (.tup [])) r with
    | none => rw [hd] at H; cases H
    | some r2 => rw [hd] at H; cases H; exact ⟨hD, rfl⟩
  · cases H

theorem execs_u {K : Kont} (hK : UK k X K) : ∀ (os : List AOper) (r : Regs) (h : Hp), D k h → U k X (execs K os r h) (execs K os r (h.set k X))
  | [], r, h, hD => by intro y g H; cases H; exact ⟨hD, rfl⟩
  | o :: os, r, h, hD => by
    intro y g H
    simp only [execs] at H ⊢
    cases hs : exec1 K o r h with
    | none => rw [hs] at H; cases H
    | some q =>
      obtain ⟨r', g'⟩ := q
      obtain ⟨d1, d2⟩ := exec1_u hK hD o r _ _ hs
      rw [hs] at H; rw [d2]
      exact execs_u hK os r' g' d1 _ _ H

theorem execA_u {K : Kont} (hK : UK k X K) (ops : List AOper) : ∀ (os : List (List Nat)) (r : Regs) (h : Hp), D k h → U k X (execA K ops os r h) (execA K ops os r (h.set k X))
  | [], r, h, hD => by intro y g H; cases H
  | [o], r, h, hD => execs_u hK _ r h hD
  | o :: o2 :: os, r, h, hD => by
    intro y g H
    simp only [execA] at H ⊢
    cases hs : execs K (inOrd ops o) r h with
    | none => rw [hs] at H; cases H
    | some q =>
      obtain ⟨r1, g1⟩ := q
      obtain ⟨d1, d2⟩ := execs_u hK _ r h hD _ _ hs
      rw [hs] at H; rw [d2]
      cases ht : execA K ops (o2 :: os) r h with
      | none => rw [ht] at H; cases H
      | some q2 =>
        obtain ⟨r2, g2⟩ := q2
        obtain ⟨f1, f2⟩ := execA_u hK ops (o2 :: os) r h hD _ _ ht
        rw [ht] at H; rw [f2]
        simp only [] at H ⊢
        split at H
        · rename_i he
          simp only [Bool.and_eq_true] at he
          have e2 := (eqHp_iff _ _).1 he.2
          have : (eqRegs r1 r2 && eqHp (g1.set k X) (g2.set k X)) = true := by
            rw [e2, he.1, (eqHp_iff _ _).2 rfl]; rfl
          rw [if_pos this]
          cases H; exact ⟨d1, rfl⟩
        · cases H

theorem iter_u {f f' : St → Option (AE × St)} (hf : ∀ r h, D k h → ∀ e r' g, f (r, h) = some (e, r', g) → D k g ∧ f' (r, h.set k X) = some (e, r', g.set k X)) :
    ∀ (n : Nat) (r : Regs) (h : Hp), D k h → ∀ e r' g, iter f n (r, h) = some (e, r', g) → D k g ∧ iter f' n (r, h.set k X) = some (e, r', g.set k X)
  | 0, r, h, hD => by intro e r' g H; cases H
  | n + 1, r, h, hD => by
    intro e r' g H
    simp only [iter] at H ⊢
    cases hs : f (r, h) with
    | none => rw [hs] at H; cases H
    | some q =>
      obtain ⟨e1, r1, g1⟩ := q
      obtain ⟨d1, d2⟩ := hf r h hD _ _ _ hs
      rw [hs] at H; rw [d2]
      cases e1 with
      | normal => exact iter_u hf n r1 g1 d1 _ _ _ H
      | _ => simp only [] at H ⊢; cases H; exact ⟨d1, rfl⟩

theorem exec_u {K : Kont} (hK : UK k X K) (n : Nat) : ∀ (c : AC) (r : Regs) (h : Hp), D k h → ∀ e r' g, exec K n c (r, h) = some (e, r', g) → D k g ∧ exec K n c (r, h.set k X) = some (e, r', g.set k X)
  | .skip, r, h, hD => by intro e r' g H; cases H; exact ⟨hD, rfl⟩
  | .ret, r, h, hD => by intro e r' g H; cases H; exact ⟨hD, rfl⟩
  | .exit id, r, h, hD => by intro e r' g H; cases H; exact ⟨hD, rfl⟩
  | .seq a b, r, h, hD => by
    intro e r' g H
    simp only [exec] at H ⊢
    cases hs : exec K n a (r, h) with
    | none => rw [hs] at H; cases H
    | some q =>
      obtain ⟨e1, r1, g1⟩ := q
      obtain ⟨d1, d2⟩ := exec_u hK n a r h hD _ _ _ hs
      rw [hs] at H; rw [d2]
      cases e1 with
      | normal => exact exec_u hK n b r1 g1 d1 _ _ _ H
      | _ => simp only [] at H ⊢; cases H; exact ⟨d1, rfl⟩
  | .cond c a b, r, h, hD => by
    intro e r' g H
    simp only [exec] at H ⊢
    split at H
    · exact exec_u hK n a r h hD _ _ _ H
    · exact exec_u hK n b r h hD _ _ _ H
    · cases H
  | .block id b, r, h, hD => by
    intro e r' g H
    simp only [exec] at H ⊢
    cases hs : exec K n b (r, h) with
    | none => rw [hs] at H; cases H
    | some q =>
      obtain ⟨e1, r1, g1⟩ := q
      obtain ⟨d1, d2⟩ := exec_u hK n b r h hD _ _ _ hs
      rw [hs] at H; rw [d2]
      cases e1 with
      | exit id' =>
        simp only [] at H ⊢
        split at H
        · rw [if_pos ‹_›]; cases H; exact ⟨d1, rfl⟩
        · rw [if_neg ‹_›]; cases H; exact ⟨d1, rfl⟩
      | _ => simp only [] at H ⊢; cases H; exact ⟨d1, rfl⟩
  | .loop b, r, h, hD => by
    intro e r' g H
    simp only [exec] at H ⊢
    exact iter_u (fun r h hD => exec_u hK n b r h hD) n r h hD _ _ _ H
  | .region _ ops ks, r, h, hD => by
    intro e r' g H
    simp only [exec] at H ⊢
    cases hs : execs K ops r h with
    | none => rw [hs] at H; cases H
    | some q =>
      obtain ⟨r1, g1⟩ := q
      obtain ⟨d1, d2⟩ := execs_u hK ops r h hD _ _ hs
      rw [hs] at H; rw [d2]; cases H; exact ⟨d1, rfl⟩
  | .regionA os ops ks, r, h, hD => by
    intro e r' g H
    simp only [exec] at H ⊢
    cases hs : execA K ops os r h with
    | none => rw [hs] at H; cases H
    | some q =>
      obtain ⟨r1, g1⟩ := q
      obtain ⟨d1, d2⟩ := execA_u hK ops os r h hD _ _ hs
      rw [hs] at H; rw [d2]; cases H; exact ⟨d1, rfl⟩

theorem resVs_u (hD : D k h) {r : Regs} : ∀ {xs : List ARes} {vs : List AV}, resVs r h xs = some vs → resVs r (h.set k X) xs = some vs
  | [], vs, H => H
  | x :: xs, vs, H => by
    simp only [resVs] at H ⊢
    cases h1 : resV r h x with
    | none => rw [h1] at H; cases H
    | some v =>
      cases h2 : resVs r h xs with
      | none => rw [h1, h2] at H; cases H
      | some ws =>
        have e1 : resV r (h.set k X) x = some v := by
          cases x with
          | t n => exact h1
          | cell t agg size =>
            simp only [resV] at h1 ⊢
            split at h1
            · exact rd_u hD h1
            · cases h1
        rw [e1, resVs_u hD h2]; rw [h1, h2] at H; exact H

theorem result_u (hD : D k h) {r : Regs} {xs : List ARes} {v : AV} (H : result r h xs = some v) : result r (h.set k X) xs = some v := by
  simp only [result] at H ⊢
  cases h2 : resVs r h xs with
  | none => rw [h2] at H; cases H
  | some ws => rw [resVs_u hD h2]; rw [h2] at H; exact H

/-- A program of code alone. -/
def Code (F : Fns) : Prop := ∀ f g, F f ≠ some (.inr g)

theorem call_u {F : Fns} (hF : Code F) (k : Nat) (X : AO) (tot : Bool) (ω : Nat → Nat) : ∀ (n : Nat) (f : FuncId) (args : List AV) (h : Hp), D k h → U k X (call F n tot ω f args h) (call F n tot ω f args (h.set k X))
  | 0, f, args, h, hD => by intro y g H; cases H
  | n + 1, f, args, h, hD => by
    intro y g H
    simp only [call] at H ⊢
    cases hf : F f with
    | none => rw [hf] at H; cases H
    | some w =>
      cases w with
      | inr g' => exact absurd hf (hF f g')
      | inl fn =>
        rw [hf] at H; simp only [] at H ⊢
        have hK : UK k X ⟨call F n tot ω, fun i => if tot then some (ω i) else none, fun f vs => (call F n false (fun _ => 0) f vs []).map (·.1)⟩ :=
          fun f vs h hD => call_u hF k X tot ω n f vs h hD
        cases hs : exec ⟨call F n tot ω, fun i => if tot then some (ω i) else none, fun f vs => (call F n false (fun _ => 0) f vs []).map (·.1)⟩ n fn.body (initRegs 0 args, h) with
        | none => rw [hs] at H; cases H
        | some q =>
          obtain ⟨e1, r1, g1⟩ := q
          obtain ⟨d1, d2⟩ := exec_u hK n fn.body _ h hD _ _ _ hs
          rw [hs] at H; rw [d2]
          cases e1 with
          | exit id => cases H
          | _ =>
            simp only [] at H ⊢
            cases hr : result r1 g1 fn.results with
            | none => rw [hr] at H; cases H
            | some v => rw [hr] at H; rw [result_u d1 hr]; cases H; exact ⟨d1, rfl⟩

end Go.Im

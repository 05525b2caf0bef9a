/- ImCopyB: copy: elements put into a slice, from its beginning on. -/
import Derived.Test.YtcnbllelfinlmaaDoorImCopy
set_option linter.unusedVariables false
set_option linter.unusedSimpArgs false
namespace Go.Im
section
variable {P : Program} {E : Env} {h : Hp} {w : World} {r : Regs} {a : Act} {o : Oper} {reg : Reg}

theorem cells_agg {xs : List AV} {us : List Value} (hl : us.length = xs.length) (h1 : ∀ x ∈ xs, x.one = true) (hr : ∀ (j : Nat) x u, xs[j]? = some x → us[j]? = some u → VRel E x u) : VRel E (.agg xs) (.agg us.toArray) :=
  .agg _ _ (by simp [hl]) h1 fun i a v ha hv => hr i a v ha (by simpa using hv)

theorem put_loc (hf : FRel E h w r a.tmps) (hh : HRel E h w) (hs : Sorted r) {t off : Nat} {cs xs : List AV} (hx : get r t = .var (.agg cs)) (hle : off + xs.length ≤ cs.length) (h1 : ∀ x ∈ xs, x.one = true) {us : List Value} (hl : us.length = xs.length)
    (hr : ∀ (j : Nat) x u, xs[j]? = some x → us[j]? = some u → VRel E x u) :
    ∃ w', (storeCells ⟨vb a.tmps t, off, none⟩ us).run P w = .ok () w' ∧ Keep E h (Vars r a.tmps) w E h (Vars (put r t (.var (.agg (cs.take off ++ (xs ++ cs.drop (off + xs.length)))))) a.tmps) w' ∧
      FRel E h w' (put r t (.var (.agg (cs.take off ++ (xs ++ cs.drop (off + xs.length)))))) a.tmps ∧ HRel E h w' := by
  have hv := cells_agg hl h1 hr
  have hy : upd (.agg cs) off (.agg xs) = some (.agg (cs.take off ++ (xs ++ cs.drop (off + xs.length)))) := by simp only [upd]; rw [if_pos hle]
  obtain ⟨c, T, fr, p1, h2, h3, h4, h5, h6⟩ := var_at hf hx
  have hcl : (Value.agg us.toArray).cells.toList = us := by simp [Value.cells]
  have hcz : (Value.agg us.toArray).cells.size = us.length := by simp [Value.cells]
  have h4' : c.size = cs.length := h4
  obtain ⟨c', e1, e2, e3, e4, e5, e6, e7, e8⟩ := heap_setCells (vb a.tmps t) us off w c T fr h2 (by omega)
  obtain ⟨u1, u2, u3⟩ := upd_spec (c' := c') h5 hy hv rfl (fun j hj => by
    rw [Nat.zero_add, e3 j (by omega)]
    simp [Value.cells]) (fun j hj => e4 j (by rw [hcz] at hj; omega))
  have hone := cells_one hv rfl
  rw [hcl] at hone
  refine ⟨_, run_store_room h2 h3 hone (by omega), ?_⟩
  obtain ⟨k1, k2⟩ := hf.set_var hs hx e1 (by rw [e2]; exact h3) (by rw [e2, u2]; exact h4) u1 e5
  have ht : isVar r t := ⟨_, hx⟩
  exact ⟨⟨.refl E, by omega, e7, e8, fun b' _ _ hx' => e5 b' fun e => hx' ⟨t, ht, e.symm⟩, fun _ h => .inl h, fun b' h => .inl ((k2 b').1 h), fun _ _ h => .inl h⟩, k1, hh.other (hf.own t ht) h6 e6 e5⟩

theorem put_row (hf : FRel E h w r a.tmps) (hh : HRel E h w) {id s i off : Nat} {es cs xs : List AV} (hes : h[id]? = some (.row s es)) (hx : es[i]? = some (.agg cs)) (hle : off + xs.length ≤ cs.length) (h1 : ∀ x ∈ xs, x.one = true) {us : List Value} (hl : us.length = xs.length)
    (hr : ∀ (j : Nat) x u, xs[j]? = some x → us[j]? = some u → VRel E x u) :
    ∃ w', (storeCells ⟨E.ob id, i * s + off, none⟩ us).run P w = .ok () w' ∧ Keep E h (Vars r a.tmps) w E (h.set id (.row s (es.set i (.agg (cs.take off ++ (xs ++ cs.drop (off + xs.length))))))) (Vars r a.tmps) w' ∧
      FRel E (h.set id (.row s (es.set i (.agg (cs.take off ++ (xs ++ cs.drop (off + xs.length))))))) w' r a.tmps ∧ HRel E (h.set id (.row s (es.set i (.agg (cs.take off ++ (xs ++ cs.drop (off + xs.length))))))) w' := by
  have hv := cells_agg hl h1 hr
  have hy : upd (.agg cs) off (.agg xs) = some (.agg (cs.take off ++ (xs ++ cs.drop (off + xs.length)))) := by simp only [upd]; rw [if_pos hle]
  obtain ⟨c, T, fr, h2, h3, h4, h5, h6, h7, h8⟩ := row_of hh hes
  have hcl : (Value.agg us.toArray).cells.toList = us := by simp [Value.cells]
  have hcz : (Value.agg us.toArray).cells.size = us.length := by simp [Value.cells]
  have hxs : cs.length = s := h6 _ (List.mem_of_getElem? hx)
  have hilt := (List.getElem?_eq_some_iff.1 hx).1
  have hmul : i * s + s ≤ E.cp id * s := by
    have : (i + 1) * s ≤ E.cp id * s := Nat.mul_le_mul_right _ (by omega)
    rwa [Nat.succ_mul] at this
  obtain ⟨c', e1, e2, e3, e4, e5, e6, e7, e8⟩ := heap_setCells (E.ob id) us (i * s + off) w c T fr h2 (by omega)
  have hec := EC_upd ⟨h6, h7⟩ hx hy hv rfl (c' := c') (fun j hj => by
    rw [e3 j (by omega)]
    simp [Value.cells]) (fun j hj => e4 j (by rw [hcz] at hj; omega))
  have hone := cells_one hv rfl
  rw [hcl] at hone
  have hown : Owned E h (E.ob id) := ⟨id, ⟨_, hes, by simp⟩, rfl⟩
  refine ⟨_, run_store_room h2 h3 hone (by omega), ?_, ?_, ?_⟩
  · exact ⟨.refl E, by omega, e7, e8, fun b' _ hx' _ => e5 b' fun e => hx' (e ▸ hown), fun b' h => .inl (Owned.set hes (by simp) h), fun _ h => .inl h, fun _ _ h => .inl h⟩
  · exact hf.other (owned_no_var hf hown) e5 fun b' h => Owned.set hes (by simp) h
  · exact hh.set hes (by simp) e6 e5 h8 ⟨c', T, fr, e1, by rw [e2]; exact h3, by omega, by simpa using h5, hec.1, hec.2, h8⟩

theorem run_copy {t st e ty : TypeId} {size : Nat} (ht : P.underlying t = some (.slice e)) (hz : Sz P e size) {u : Value} {xs : List AV} {us : List Value} (hsrc : Src P E w u size xs us) {base : Option Addr} {n cap : Nat} {w' : World}
    (hst : (match base with | some ad => storeCells ad (us.take (min xs.length n * size)) | none => pure ()).run P w = .ok () w') :
    (Builtin.copy_ #[t, st] ty #[.slice base n cap, u]).run P w = .ok (goInt (min xs.length n : Nat)) w' := by
  obtain ⟨i, hi, rfl⟩ := hz
  have hr := hsrc.run w (min xs.length n) ⟨Nat.le_refl _, fun _ _ => rfl, rfl, rfl⟩ (by omega)
  unfold Builtin.copy_
  have hm : Nat.min xs.length n = min xs.length n := rfl
  simp only [List.getElem?_toArray,List.getElem?_cons_zero,List.getElem?_cons_succ,Sem.run_bind,run_underlying ht,Result.andThen_ok,sizeOf,typeInfo,run_program,hi,Sem.run_pure,hsrc.n,hm,hr]
  cases base with
  | none => simp only [Sem.run_pure] at hst; cases hst; rfl
  | some ad => simp only [hst,Sem.run_bind,Result.andThen_ok,Sem.run_pure]

theorem st_copy {K : Kont} (hf : FRel E h w r a.tmps) (hh : HRel E h w) (hs : Sorted r) {t st e : TypeId} {size : Nat} {y z : Operand} {x xz : AX} (ho : o.op = .call { callee := .builtin .copy, args := #[y, z], argTypes := #[t, st] }) (ht : P.underlying t = some (.slice e)) (hsz : Sz P e size) (hx : XRel E a x y) (hz : XRel E a xz z)
    {r' : Regs} {h' : Hp} (he : step K r h (.copy size x xz) = some (reg, r', h')) : Res P E h w r a o reg r' h' := by
  simp only [step] at he
  split at he
  · rename_i n xs hd hxs
    obtain ⟨⟨r2, h2⟩, hy, hq⟩ := map_some he
    cases hq
    obtain ⟨uu, hsrc⟩ := srcElems_spec (P := P) hf hh hz hxs
    -- what is copied
    have hlen : (xs.take n).length = min xs.length n := by rw [List.length_take]; omega
    have hul : (uu.take (min xs.length n * size)).length = (xs.take n).length * size := by
      rw [List.length_take, hsrc.len, hlen]
      exact Nat.min_eq_left (Nat.mul_le_mul_right _ (by omega))
    have hsize : ∀ e ∈ xs.take n, e.cells.length = size := fun e he => hsrc.sz e (List.mem_of_mem_take he)
    have hat : ∀ (i : Nat) e (k : Nat) x, (xs.take n)[i]? = some e → e.cells[k]? = some x → x.one = true ∧ ∃ u, (uu.take (min xs.length n * size))[i * size + k]? = some u ∧ VRel E x u := fun i e k x hi hk => by
      have hi' : xs[i]? = some e := by
        rw [List.getElem?_take] at hi
        split at hi
        · exact hi
        · cases hi
      have hil := (List.getElem?_eq_some_iff.1 hi).1
      have hkl := (List.getElem?_eq_some_iff.1 hk).1
      have he := hsize e (List.mem_of_getElem? hi)
      have hfl := flat_at hsrc.sz hi' hk
      have hlt : i * size + k < (uu.take (min xs.length n * size)).length := by
        rw [hul]
        have : (i + 1) * size ≤ (xs.take n).length * size := Nat.mul_le_mul_right _ (by omega)
        rw [Nat.succ_mul] at this
        omega
      have hlu : i * size + k < uu.length := by rw [List.length_take] at hlt; omega
      have hu : uu[i * size + k]? = some uu[i * size + k] := List.getElem?_eq_getElem hlu
      obtain ⟨q1, q2⟩ := hsrc.rel _ _ _ hfl hu
      refine ⟨q1, _, ?_, q2⟩
      rw [List.getElem?_take, if_pos (by rw [List.length_take] at hlt; omega)]
      exact hu
    have hones : (xs.take n).all AV.one = true → (uu.take (min xs.length n * size)).length = (xs.take n).length ∧ (∀ x ∈ xs.take n, x.one = true) ∧ ∀ (j : Nat) x u, (xs.take n)[j]? = some x → (uu.take (min xs.length n * size))[j]? = some u → VRel E x u := fun ha => by
      have ha := List.all_eq_true.1 ha
      have hc : ∀ x ∈ xs.take n, x.cells = [x] := fun x hx => by
        have := ha x hx
        cases x <;> first | rfl | cases this
      by_cases h0 : xs.take n = []
      · rw [h0] at hul ⊢
        exact ⟨by simpa using hul, fun x hx => by simp at hx, fun j x u hx => by simp at hx⟩
      · have h1 : size = 1 := by
          obtain ⟨x, hx⟩ := List.exists_mem_of_ne_nil _ h0
          have := hsize x hx
          rw [hc x hx] at this
          simpa using this.symm
        refine ⟨by rw [hul, h1, Nat.mul_one], ha, fun j x u hj hu => ?_⟩
        have hm := List.mem_of_getElem? hj
        obtain ⟨_, u', hu', hv⟩ := hat j x 0 x hj (by rw [hc x hm]; rfl)
        rw [show j * size + 0 = j by rw [h1]; omega] at hu'
        rw [hu] at hu'
        cases hu'
        exact hv
    have hint : VRel E (.int .i64 (min xs.length n : Nat)) (goInt (min xs.length n : Nat)) := .int _ _
    have fin : ∀ {base : Option Addr} {cap : Nat} {w' : World}, a.eval y = .slice base n cap → (match base with | some ad => storeCells ad (uu.take (min xs.length n * size)) | none => pure ()).run P w = .ok () w' → Runs P a w o (goInt (min xs.length n : Nat)) w' := fun {base cap w'} hy hst =>
      .inl (by simp [execOp,ho,resolve,invoke,builtin,hy,run_copy (ty := o.type) ht hsz hsrc hst])
    -- nothing is copied
    have none' : ∀ {base : Option Addr} {cap : Nat}, a.eval y = .slice base n cap → xs.take n = [] → r' = r → h' = h → Res P E h w r a o (.val (.int .i64 (min xs.length n : Nat))) r' h' := fun {base cap} hyy h0 e1 e2 => by
      subst e1; subst e2
      have hu0 : uu.take (min xs.length n * size) = [] := by
        apply List.length_eq_zero_iff.1
        rw [hul, h0]; simp
      refine .of_val (fin hyy ?_) (Keep.refl _ _ _ _) hf hh hint
      rw [hu0]
      cases base <;> simp [storeCells]
    cases x with
    | c v =>
      cases v with
      | nils =>
        simp only [dlen,Option.some.injEq] at hd
        subst hd
        have hv : VRel E .nils (a.eval y) := hx
        generalize ha : a.eval y = dv at hv
        cases hv
        simp only [copyTo,List.take_zero,if_true] at hy
        cases hy
        exact none' ha rfl rfl rfl
      | _ => simp [dlen] at hd
    | t m =>
      have hxe : a.tmps.getD m undef = a.eval y := by
        have hx' := hx
        simp only [XRel] at hx'
        rw [hx']; rfl
      have hr := hf.reg m
      simp only [dlen] at hd
      split at hd
      · rename_i id s off n' clip hg
        cases hd
        rw [hg] at hr
        have hr : VRel E (.row id s off n clip) (a.tmps.getD m undef) := hr
        rw [hxe] at hr
        obtain ⟨b, oo, cap, hu, hid, hr1, hr2, hr3⟩ := row_inv hr
        simp only [copyTo,hg] at hy
        split at hy
        · rename_i s' es hes
          split at hy
          · rename_i hc
            obtain ⟨c1, c2, c3, c4⟩ := hc
            subst c1
            cases hy
            by_cases h0 : xs.take n = []
            · refine none' hu h0 rfl ?_
              rw [h0]
              simp [set_same hes]
            · obtain ⟨x, hxm⟩ := List.exists_mem_of_ne_nil _ h0
              have e1 : size = s' := by
                have h1 := hsize x hxm
                have h2 := List.all_eq_true.1 c4 x hxm
                simp only [beq_iff_eq] at h2
                omega
              subst e1
              have hn0 : n ≠ 0 := fun e => by subst e; simp at h0
              obtain ⟨rfl, rfl, _⟩ : b = E.ob id ∧ oo = off * size ∧ (clip = false → off + cap = E.cp id) := by
                rcases hr3 with h | h
                · exact h
                · omega
              obtain ⟨w', k0, k1, k2, k3⟩ := row_over (P := P) (k0 := off) (xs := xs.take n) hf hh hes (us := uu.take (min xs.length n * size)) (fun u hu' => hsrc.one u (List.mem_of_mem_take hu')) hul (by omega) hsize (fun i e k x hi hk => hat i e k x hi hk)
              exact .of_val (fin hu k0) k1 k2 k3 hint
          · cases hy
        · cases hy
      · rename_i hg
        cases hd
        rw [hg] at hr
        have hr : VRel E .nils (a.tmps.getD m undef) := hr
        rw [hxe] at hr
        generalize ha : a.eval y = dv at hr
        cases hr
        simp only [copyTo,hg,List.take_zero,if_true] at hy
        cases hy
        exact none' ha rfl rfl rfl
      · rename_i sz es c hg
        split at hd
        · rename_i h0
          subst h0
          cases hd
          rw [hg] at hr
          have hr : VRel E (.imm sz [] c) (a.tmps.getD m undef) := hr
          rw [hxe] at hr
          simp only [copyTo,hg,List.take_zero,if_true] at hy
          cases hy
          generalize ha : a.eval y = dv at hr
          cases hr with
          | imm _ _ _ b o cap => exact none' ha rfl rfl rfl
          | imz => exact none' ha rfl rfl rfl
        · cases hd
      · rename_i t' off n' es hg
        cases hd
        rw [hg] at hr
        simp only [copyTo,hg] at hy
        split at hy
        · rename_i cs hcs
          split at hy
          · rename_i hc
            obtain ⟨rfl, c2, c3, c4⟩ := hc
            cases hy
            obtain ⟨o1, o2, o3⟩ := hones c4
            obtain ⟨cc, T, fr, p1, p2, p3, p4, p5, p6⟩ := var_at hf hcs
            obtain ⟨o', cap, q1, q2, q3⟩ := hr _ p1 ⟨_, hcs⟩
            rw [hxe] at q1
            obtain ⟨w', k0, k1, k2, k3⟩ := put_loc (P := P) (off := off) hf hh hs hcs (by omega) o2 o1 o3
            rcases q3 with rfl | h0
            · exact .of_val (fin q1 k0) k1 k2 k3 hint
            · subst h0
              have hu0 : uu.take (min xs.length 0 * size) = [] := by simp
              refine .of_val (fin q1 (w' := w') ?_) k1 k2 k3 hint
              rw [hu0] at k0 ⊢
              simpa [storeCells] using k0
          · cases hy
        · cases hy
      · rename_i id s i off n' es hg
        cases hd
        rw [hg] at hr
        simp only [copyTo,hg] at hy
        split at hy
        · rename_i s' vs hvs
          split at hy
          · rename_i cs hcs
            split at hy
            · rename_i hc
              obtain ⟨rfl, rfl, c2, c3, c4⟩ := hc
              cases hy
              obtain ⟨o1, o2, o3⟩ := hones c4
              obtain ⟨_, o', cap, q1, q2, q3⟩ := hr
              rw [hxe] at q1
              obtain ⟨w', k0, k1, k2, k3⟩ := put_row (P := P) (off := off) hf hh hvs hcs (by omega) o2 o1 o3
              rcases q3 with rfl | h0
              · exact .of_val (fin q1 k0) k1 k2 k3 hint
              · subst h0
                have hu0 : uu.take (min xs.length 0 * size) = [] := by simp
                refine .of_val (fin q1 (w' := w') ?_) k1 k2 k3 hint
                rw [hu0] at k0 ⊢
                simpa [storeCells] using k0
            · cases hy
          · cases hy
        · cases hy
      · cases hd
  · cases he
end
end Go.Im

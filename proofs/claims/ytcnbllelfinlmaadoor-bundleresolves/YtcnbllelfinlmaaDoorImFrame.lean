/- ImFrame: registers put, worlds that grow, blocks that are written. -/
import Derived.Test.YtcnbllelfinlmaaDoorImMem
namespace Go.Im

theorem get_put (r : Regs) (t : Nat) (x : Reg) (u : Nat) : get (put r t x) u = if t = u then x else get r u := by
  induction r with
  | nil => simp [put,get]
  | cons p r ih =>
    obtain ⟨s, y⟩ := p
    simp only [put]
    split
    · simp [get]
    · split
      · rename_i h; subst h; simp only [get]; split <;> simp_all
      · rename_i h1 h2
        simp only [get,ih]
        by_cases hs : s = u
        · subst hs; simp [h2]
        · simp [hs]

theorem get_put_same (r : Regs) (t : Nat) (x : Reg) : get (put r t x) t = x := by simp [get_put]

def Sorted (r : Regs) : Prop := r.Pairwise fun a b => a.1 < b.1

theorem get_absent {r : Regs} {t : Nat} (h : ∀ p ∈ r, p.1 ≠ t) : get r t = .un := by
  induction r with
  | nil => rfl
  | cons p r ih =>
    obtain ⟨s, y⟩ := p
    simp only [get]
    rw [if_neg (h (s, y) (by simp))]
    exact ih fun p hp => h p (by simp [hp])

theorem get_filter {r : Regs} (hs : Sorted r) (f : Nat × Reg → Bool) (t : Nat) : get (r.filter f) t = if f (t, get r t) then get r t else .un := by
  induction r with
  | nil => show Reg.un = _; cases f (t, get [] t) <;> rfl
  | cons p r ih =>
    obtain ⟨s, y⟩ := p
    have hs' := List.pairwise_cons.1 hs
    have ih := ih hs'.2
    by_cases h : s = t
    · subst h
      have habs : get (r.filter f) s = .un := get_absent fun p hp => by
        have := hs'.1 p (List.mem_filter.1 hp).1
        simp at this; omega
      simp only [get,if_true,List.filter_cons]
      split
      · simp [get]
      · exact habs
    · simp only [get,if_neg h,List.filter_cons]
      split
      · simp only [get,if_neg h]; exact ih
      · exact ih

theorem mem_put {r : Regs} {t : Nat} {x : Reg} {p : Nat × Reg} (h : p ∈ put r t x) : p = (t, x) ∨ p ∈ r := by
  induction r with
  | nil => simpa [put] using h
  | cons q r ih =>
    simp only [put] at h
    split at h
    · simpa using h
    · split at h
      · simp at h; rcases h with h | h
        · exact .inl h
        · exact .inr (by simp [h])
      · simp at h; rcases h with h | h
        · exact .inr (by simp [h])
        · rcases ih h with h | h
          · exact .inl h
          · exact .inr (by simp [h])

theorem Sorted.put {r : Regs} (hs : Sorted r) (t : Nat) (x : Reg) : Sorted (put r t x) := by
  induction r with
  | nil => simp [Im.put,Sorted]
  | cons p r ih =>
    obtain ⟨s, y⟩ := p
    have hs' := List.pairwise_cons.1 hs
    simp only [Im.put]
    split
    · rename_i h
      refine List.pairwise_cons.2 ⟨fun q hq => ?_, hs⟩
      rcases List.mem_cons.1 hq with rfl | hq
      · exact h
      · exact Nat.lt_trans h (hs'.1 q hq)
    · split
      · rename_i h; subst h
        exact List.pairwise_cons.2 ⟨hs'.1, hs'.2⟩
      · rename_i h1 h2
        refine List.pairwise_cons.2 ⟨fun q hq => ?_, ih hs'.2⟩
        rcases mem_put hq with rfl | hq
        · show s < t; omega
        · exact hs'.1 q hq

theorem Sorted.filter {r : Regs} (hs : Sorted r) (f : Nat × Reg → Bool) : Sorted (r.filter f) := List.Pairwise.filter f hs

theorem get_noAdr {r : Regs} (hs : Sorted r) (d t : Nat) : get (noAdr d r) t = if (get r t).onto d then .un else get r t := by
  rw [noAdr, get_filter hs]
  cases h : (get r t).onto d <;> simp [h]

theorem Sorted.setD {r r' : Regs} (hs : Sorted r) {dst : Option Nat} {x : Reg} (h : setD dst x r = some r') : Sorted r' := by
  unfold Im.setD at h
  split at h
  · cases h; exact hs
  · split at h
    · cases h
    · cases h; exact hs.put _ _

/-! ### A value that an operation has yielded, and the register that is to hold it -/

def Yields (E : Env) (h : Hp) (w : World) (r : Regs) (tm : Array Value) (u : Value) : Reg → Prop
  | .un => True
  | .val v => VRel E v u
  | .var v => ∃ b c T fr, u = .pointer (some ⟨b, 0, none⟩) ∧ w.heap[b]? = some (.cells c T fr) ∧ (∀ o, o < c.size → (fr.1 ≤ o && o < fr.2) = false) ∧
      c.size = v.cells.length ∧ CellsAt E (fun o => c[o]?) 0 v ∧ (∀ o, E.sg b o = none) ∧ ¬ Owned E h b ∧ ¬ Vars r tm b
  | .adr s off => isVar r s ∧ u = .pointer (some ⟨vb tm s, off, none⟩)
  | .slc s off n _ => isVar r s ∧ ∃ o cap, u = .slice (some ⟨vb tm s, o, none⟩) n cap ∧ n ≤ cap ∧ (o = off ∨ n = 0)
  | .hslc id size i off n _ => id < E.n ∧ ∃ o cap, u = .slice (some ⟨E.ob id, o, none⟩) n cap ∧ n ≤ cap ∧ (o = i * size + off ∨ n = 0)

theorem getD_set (tm : Array Value) (d t : Nat) (u : Value) (hd : d < tm.size) : (tm.setIfInBounds d u).getD t undef = if d = t then u else tm.getD t undef := by
  by_cases h : d = t
  · subst h; simp [hd]
  · rw [if_neg h]; simp [Array.getElem?_setIfInBounds_ne h]

theorem vb_set (tm : Array Value) {d t : Nat} (u : Value) (hd : d < tm.size) (h : d ≠ t) : vb (tm.setIfInBounds d u) t = vb tm t := by
  unfold vb; rw [getD_set tm d t u hd, if_neg h]

theorem vb_set_same (tm : Array Value) {d b o : Nat} (hd : d < tm.size) : vb (tm.setIfInBounds d (.pointer (some ⟨b, o, none⟩))) d = b := by
  unfold vb; rw [getD_set tm d d _ hd, if_pos rfl]

theorem FRel.put_val {E : Env} {h : Hp} {w : World} {r : Regs} {tm : Array Value} (hf : FRel E h w r tm) {d : Nat} (hd : d < tm.size) {x : Reg} (hx : ∀ v, x ≠ .var v) {u : Value}
    (hy : Yields E h w r tm u x) : FRel E h w (put r d x) (tm.setIfInBounds d u) ∧ ∀ b, Vars (put r d x) (tm.setIfInBounds d u) b → Vars r tm b := by
  have hvar : ∀ t, isVar (put r d x) t → d ≠ t ∧ isVar r t := fun t ⟨v, hv⟩ => by
    rw [get_put] at hv
    split at hv
    · exact absurd hv (hx v)
    · rename_i hne; exact ⟨hne, v, hv⟩
  have hvarTo : ∀ t, d ≠ t → isVar r t → isVar (put r d x) t := fun t hne ⟨v, hv⟩ => ⟨v, by rw [get_put, if_neg hne]; exact hv⟩
  refine ⟨⟨fun t => ?_, fun t ht => ?_, fun t s ht hu he => ?_, fun t ht => ?_⟩, fun b ⟨t, ht, hb⟩ => ?_⟩
  · rw [get_put]
    split
    · rename_i e; subst e
      cases x with
      | un => trivial
      | val v => simp only [RRel,getD_set tm d d u hd,if_true]; exact hy
      | var v => exact absurd rfl (hx v)
      | adr s off =>
        intro b hb hv
        obtain ⟨hne, hv'⟩ := hvar s hv
        rw [getD_set tm d s u hd, if_neg hne] at hb
        rw [getD_set tm d d u hd, if_pos rfl, hy.2, vb_of hb]
      | slc s off n es =>
        intro b hb hv
        obtain ⟨hne, hv'⟩ := hvar s hv
        rw [getD_set tm d s u hd, if_neg hne] at hb
        rw [getD_set tm d d u hd, if_pos rfl]
        obtain ⟨_, o, cap, h1, h2⟩ := hy
        rw [vb_of hb] at h1
        exact ⟨o, cap, h1, h2⟩
      | hslc id size i off n es =>
        simp only [RRel,getD_set tm d d u hd,if_true]; exact hy
    · rename_i hne
      have hr := hf.reg t
      cases hg : get r t with
      | un => trivial
      | val v => rw [hg] at hr; simp only [RRel,getD_set tm d t u hd,if_neg hne]; exact hr
      | var v => rw [hg] at hr; simp only [RRel,getD_set tm d t u hd,if_neg hne]; exact hr
      | adr s off =>
        rw [hg] at hr
        intro b hb hv
        obtain ⟨hne', hv'⟩ := hvar s hv
        rw [getD_set tm d s u hd, if_neg hne'] at hb
        rw [getD_set tm d t u hd, if_neg hne]
        exact hr b hb hv'
      | slc s off n es =>
        rw [hg] at hr
        intro b hb hv
        obtain ⟨hne', hv'⟩ := hvar s hv
        rw [getD_set tm d s u hd, if_neg hne'] at hb
        rw [getD_set tm d t u hd, if_neg hne]
        exact hr b hb hv'
      | hslc id size i off n es => rw [hg] at hr; simp only [RRel,getD_set tm d t u hd,if_neg hne]; exact hr
  · rw [get_put] at ht
    simp only [Array.size_setIfInBounds]
    split at ht
    · rename_i e; exact e ▸ hd
    · exact hf.sz t ht
  · obtain ⟨h1, h2⟩ := hvar t ht
    obtain ⟨h3, h4⟩ := hvar s hu
    rw [vb_set tm u hd h1, vb_set tm u hd h3] at he
    exact hf.apart t s h2 h4 he
  · obtain ⟨h1, h2⟩ := hvar t ht
    rw [vb_set tm u hd h1]
    exact hf.own t h2
  · obtain ⟨h1, h2⟩ := hvar t ht
    rw [vb_set tm u hd h1] at hb
    exact ⟨t, h2, hb⟩

theorem FRel.put_var {E : Env} {h : Hp} {w : World} {r : Regs} {tm : Array Value} (hf : FRel E h w r tm) (hs : Sorted r) {d : Nat} (hd : d < tm.size) {v : AV} {u : Value}
    (hy : Yields E h w r tm u (.var v)) : FRel E h w (put (noAdr d r) d (.var v)) (tm.setIfInBounds d u) ∧ ∀ b, Vars (put (noAdr d r) d (.var v)) (tm.setIfInBounds d u) b → Vars r tm b ∨ vb (tm.setIfInBounds d u) d = b := by
  obtain ⟨b0, c, T, fr, rfl, hy2, hy3, hy4, hy5, hy6, hy7, hy8⟩ := hy
  have hgo : ∀ t, d ≠ t → get (put (noAdr d r) d (.var v)) t = if (get r t).onto d then .un else get r t := fun t hne => by rw [get_put, if_neg hne, get_noAdr hs]
  have hvar : ∀ t, d ≠ t → isVar (put (noAdr d r) d (.var v)) t → isVar r t := fun t hne ⟨x, hx⟩ => by
    rw [hgo t hne] at hx
    split at hx
    · cases hx
    · exact ⟨x, hx⟩
  refine ⟨⟨fun t => ?_, fun t ht => ?_, fun t s ht hu he => ?_, fun t ht => ?_⟩, fun b ⟨t, ht, hb⟩ => ?_⟩
  · by_cases hne : d = t
    · subst hne
      rw [get_put_same]
      exact ⟨b0, c, T, fr, by rw [getD_set tm d d _ hd, if_pos rfl], hy2, hy3, hy4, hy5, hy6⟩
    · rw [hgo t hne]
      have hr := hf.reg t
      cases hg : get r t with
      | un => simp [Reg.onto,RRel]
      | val x => rw [hg] at hr; simp only [Reg.onto,RRel,getD_set tm d t _ hd,if_neg hne]; exact hr
      | var x => rw [hg] at hr; simp only [Reg.onto,RRel,getD_set tm d t _ hd,if_neg hne]; exact hr
      | adr s off =>
        rw [hg] at hr
        by_cases hsd : s = d
        · rw [if_pos (by simp [Reg.onto,hsd])]; trivial
        · rw [if_neg (by simp [Reg.onto,hsd])]
          have hsd : d ≠ s := fun e => hsd e.symm
          intro b hb hv
          have hv' := hvar s hsd hv
          rw [getD_set tm d s _ hd, if_neg hsd] at hb
          rw [getD_set tm d t _ hd, if_neg hne]
          exact hr b hb hv'
      | slc s off n es =>
        rw [hg] at hr
        by_cases hsd : s = d
        · rw [if_pos (by simp [Reg.onto,hsd])]; trivial
        · rw [if_neg (by simp [Reg.onto,hsd])]
          have hsd : d ≠ s := fun e => hsd e.symm
          intro b hb hv
          have hv' := hvar s hsd hv
          rw [getD_set tm d s _ hd, if_neg hsd] at hb
          rw [getD_set tm d t _ hd, if_neg hne]
          exact hr b hb hv'
      | hslc id size i off n es => rw [hg] at hr; simp only [Reg.onto,RRel,getD_set tm d t _ hd,if_neg hne]; exact hr
  · simp only [Array.size_setIfInBounds]
    by_cases hne : d = t
    · exact hne ▸ hd
    · rw [hgo t hne] at ht
      refine hf.sz t fun e => ht ?_
      rw [e]; rfl
  · by_cases h1 : d = t
    · by_cases h2 : d = s
      · exact h1.symm.trans h2
      · subst h1
        rw [vb_set_same tm hd, vb_set tm _ hd h2] at he
        exact absurd ⟨s, hvar s h2 hu, he.symm⟩ hy8
    · by_cases h2 : d = s
      · subst h2
        rw [vb_set_same tm hd, vb_set tm _ hd h1] at he
        exact absurd ⟨t, hvar t h1 ht, he⟩ hy8
      · rw [vb_set tm _ hd h1, vb_set tm _ hd h2] at he
        exact hf.apart t s (hvar t h1 ht) (hvar s h2 hu) he
  · by_cases h1 : d = t
    · subst h1; rw [vb_set_same tm hd]; exact hy7
    · rw [vb_set tm _ hd h1]; exact hf.own t (hvar t h1 ht)
  · by_cases h1 : d = t
    · subst h1; exact .inr hb
    · rw [vb_set tm _ hd h1] at hb
      exact .inl ⟨t, hvar t h1 ht, hb⟩

/-! ### The world moves on: what is related stays related -/

theorem LoopR.mono {E E' : Env} (hE : E.le E') {lr : Loop} {r : Regs} {ps : List Nat} {hd bd : AC} {st : Nat} {pd : Option AE} (h : LoopR E lr r ps hd bd st pd) : LoopR E' lr r ps hd bd st pd := by
  obtain ⟨N, h1, h2, h3, h4⟩ := h.code
  refine ⟨h.par, ⟨N, h1, h2, by rw [hE.cd]; exact h3, by rw [hE.cd]; exact h4⟩, h.sort, fun t => ?_, h.state, h.pend⟩
  have := h.regs t
  split
  · trivial
  · rename_i v hv
    rw [hv] at this
    exact ⟨this.1, this.2.mono hE⟩
  · rename_i h1 h2
    split at this
    · rename_i e; exact h1 e
    · rename_i v e; exact h2 v e
    · exact this

theorem ORel.congr {E : Env} {w w' : World} {b cp : Nat} (hb : w'.heap[b]? = w.heap[b]?) {o : AO} (h : ORel E w b cp o) : ORel E w' b cp o := by
  cases o <;> simp only [ORel,hb] at * <;> exact h

theorem ORel.mono {E E' : Env} (hE : E.le E') {w : World} {b cp : Nat} (hs : ∀ o, E'.sg b o = E.sg b o) {o : AO} (h : ORel E w b cp o) : ORel E' w b cp o := by
  cases o with
  | row size es =>
    obtain ⟨c, T, fr, h1, h2, h3, h4, h5, h6, h7⟩ := h
    exact ⟨c, T, fr, h1, h2, h3, h4, h5, fun i e hi => (h6 i e hi).mono hE, fun o => by rw [hs]; exact h7 o⟩
  | map es clock =>
    obtain ⟨ents, h1, h2, h3, h4⟩ := h
    exact ⟨ents, h1, h2, fun i e m he hm => let ⟨k1, k2, k3⟩ := h3 i e m he hm; ⟨k1.mono hE, k2.mono hE, k3⟩, fun o => by rw [hs]; exact h4 o⟩
  | iter m since seen stepped =>
    obtain ⟨m', h1, h2, h3⟩ := h
    refine ⟨m', h1, ?_, fun o => by rw [hs]; exact h3 o⟩
    cases m with
    | none => exact h2
    | some id => exact ⟨Nat.lt_of_lt_of_le h2.1 hE.n, by rw [hE.ob id h2.1]; exact h2.2⟩
  | tail size e =>
    obtain ⟨c, T, fr, h1, h2, h3, h4⟩ := h
    exact ⟨c, T, fr, h1, h2, h3, fun o ho => by rw [hs]; exact h4 o ho⟩
  | dead => trivial
  | loop r ps hd bd st pd =>
    obtain ⟨lr, h1, h2, h3⟩ := h
    exact ⟨lr, h1, h2.mono hE, fun o => by rw [hs]; exact h3 o⟩

theorem RRel.mono {E E' : Env} (hE : E.le E') {w w' : World} {tm : Array Value} {r : Regs} {t : Nat} {x : Reg}
    (hv : ∀ v, x = .var v → w'.heap[vb tm t]? = w.heap[vb tm t]? ∧ ∀ o, E'.sg (vb tm t) o = E.sg (vb tm t) o) (h : RRel E w tm r t x) : RRel E' w' tm r t x := by
  cases x with
  | un => trivial
  | val v => exact VRel.mono hE h
  | var v =>
    obtain ⟨b, c, T, fr, h1, h2, h3, h4, h5, h6⟩ := h
    obtain ⟨k1, k2⟩ := hv v rfl
    rw [vb_of h1] at k1 k2
    exact ⟨b, c, T, fr, h1, by rw [k1]; exact h2, h3, h4, h5.mono hE, fun o => by rw [k2]; exact h6 o⟩
  | adr s off => exact h
  | slc s off n es => exact h
  | hslc id size i off n es =>
    obtain ⟨h0, o, cap, h1, h2⟩ := h
    exact ⟨Nat.lt_of_lt_of_le h0 hE.n, o, cap, by rw [hE.ob id h0]; exact h1, h2⟩

theorem FRel.mono {E E' : Env} {h h' : Hp} {w w' : World} {r : Regs} {tm : Array Value} (hf : FRel E h w r tm) (hE : E.le E')
    (hv : ∀ t, isVar r t → w'.heap[vb tm t]? = w.heap[vb tm t]? ∧ (∀ o, E'.sg (vb tm t) o = E.sg (vb tm t) o) ∧ ¬ Owned E' h' (vb tm t)) : FRel E' h' w' r tm :=
  ⟨fun t => RRel.mono hE (fun v hx => ⟨(hv t ⟨v, hx⟩).1, (hv t ⟨v, hx⟩).2.1⟩) (hf.reg t), hf.sz, hf.apart, fun t ht => (hv t ht).2.2⟩

theorem var_lt {E : Env} {h : Hp} {w : World} {r : Regs} {tm : Array Value} (hf : FRel E h w r tm) {t : Nat} (ht : isVar r t) : vb tm t < w.heap.size := by
  obtain ⟨v, hv⟩ := ht
  obtain ⟨c, T, fr, _, h2, _⟩ := var_at hf hv
  exact (Array.getElem?_eq_some_iff.1 h2).1

theorem FRel.call {E E' : Env} {h h' : Hp} {w w' : World} {r : Regs} {tm : Array Value} (hf : FRel E h w r tm) {X' : Nat → Prop} (hk : Keep E h (fun _ => False) w E' h' X' w') : FRel E' h' w' r tm := by
  refine hf.mono hk.le fun t ht => ?_
  have hlt := var_lt hf ht
  have hno := hf.own t ht
  refine ⟨hk.heap _ hlt hno (fun h => h), fun o => ?_, fun ho => (hk.owned _ ho).elim hno (fun h => by omega)⟩
  obtain ⟨v, hv⟩ := ht
  obtain ⟨c, T, fr, _, _, _, _, _, h6⟩ := var_at hf hv
  rw [h6 o]
  cases hs : E'.sg (vb tm t) o with
  | none => rfl
  | some u =>
    rcases hk.sg _ o (by rw [hs]; rfl) with h | h | h
    · rw [h6 o] at h; cases h
    · exact absurd h hno
    · omega

end Go.Im

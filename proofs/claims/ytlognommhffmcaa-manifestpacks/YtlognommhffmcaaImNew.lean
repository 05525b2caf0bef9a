/- ImNew: slices in new blocks: immutable ones, rows, tails. -/
import Derived.Test.YtlognommhffmcaaImOps3
set_option linter.unusedVariables false
set_option linter.unusedSimpArgs false
namespace Go.Im
section
variable {P : Program} {E : Env} {h : Hp} {w w' : World} {r : Regs} {tm : Array Value}

/-- Elements in cells. -/
def EC (E : Env) (c : Array Value) (size : Nat) (es : List AV) : Prop :=
  (∀ e ∈ es, e.cells.length = size) ∧ ∀ (i : Nat) e, es[i]? = some e → CellsAt E (fun o => c[o]?) (i * size) e

theorem EC.mono {E E' : Env} (hE : E.le E') {c : Array Value} {size : Nat} {es : List AV} (hc : EC E c size es) : EC E' c size es := ⟨hc.1, fun i e hi => (hc.2 i e hi).mono hE⟩

theorem mul_lt {i n size k : Nat} (hi : i < n) (hk : k < size) : i * size + k < n * size := by
  have : (i + 1) * size ≤ n * size := Nat.mul_le_mul_right _ hi
  rw [Nat.succ_mul] at this
  omega

/-- What is known to stay of a block of elements. -/
def stayOf (c : Array Value) (n : Nat) : Nat → Option Value := fun o => if o < n then c[o]? else none

theorem imm_of {b : Nat} {c : Array Value} {T : TypeId} {fr : Nat × Nat} {size : Nat} {es : List AV} (hle : E.le (E.stay b (stayOf c (es.length * size)))) (hc : EC E c size es) {cap : Nat} (hcap : es.length ≤ cap) {cc : Cap}
    (hcc : capOk (E.stay b (stayOf c (es.length * size))) b 0 size es.length cap cc) : VRel (E.stay b (stayOf c (es.length * size))) (.imm size es cc) (.slice (some ⟨b, 0, none⟩) es.length cap) := by
  have hs : ∀ o, (E.stay b (stayOf c (es.length * size))).sg b o = stayOf c (es.length * size) o := fun o => by simp [Env.stay]
  have hsz : ∀ (i : Nat) e k, es[i]? = some e → k < size → i * size + k < es.length * size := fun i e k hi hk => mul_lt (List.getElem?_eq_some_iff.1 hi).1 hk
  refine .imm size es cc b 0 cap hcap hc.1 (fun e he a ha => ?_) (fun i k hi hk => ?_) (fun i e k x u hi hk hu => ?_) hcc
  · obtain ⟨i, hi, rfl⟩ := List.getElem_of_mem he
    obtain ⟨k, hk, rfl⟩ := List.getElem_of_mem ha
    exact (hc.2 i _ (List.getElem?_eq_getElem hi) k _ (List.getElem?_eq_getElem hk)).1
  · have hi' := List.getElem?_eq_getElem hi
    have hk' : k < (es[i]).cells.length := by rw [hc.1 _ (List.getElem_mem hi)]; exact hk
    obtain ⟨_, u, hu, _⟩ := hc.2 i _ hi' k _ (List.getElem?_eq_getElem hk')
    have hu : c[i * size + k]? = some u := hu
    rw [hs, Nat.zero_add, stayOf, if_pos (hsz i _ k hi' hk), hu]; rfl
  · have hk' := (List.getElem?_eq_some_iff.1 hk).1
    rw [hc.1 e (List.mem_of_getElem? hi)] at hk'
    rw [hs, Nat.zero_add, stayOf, if_pos (hsz i e k hi hk')] at hu
    obtain ⟨_, u', hu', hv⟩ := hc.2 i e hi k x hk
    have hu' : c[i * size + k]? = some u' := hu'
    rw [hu] at hu'
    cases hu'
    exact hv.mono hle

theorem stay_ok (g : Grow w w') {b : Nat} {c : Array Value} {T : TypeId} {fr : Nat × Nat} (hb : w'.heap[b]? = some (.cells c T fr)) (n : Nat) : ∀ o v, stayOf c n o = some v → w'.cell? ⟨b, o, none⟩ = some v := by
  intro o v hv
  unfold stayOf at hv
  split at hv
  · rw [cell_of hb]; exact hv
  · cases hv

/-- A new block of elements that stay. -/
theorem new_imm (hf : FRel E h w r tm) (hh : HRel E h w) (g : Grow w w') {b : Nat} (hb : w.heap.size ≤ b) {c : Array Value} {T : TypeId} {fr : Nat × Nat} (hbl : w'.heap[b]? = some (.cells c T fr)) {size : Nat} {es : List AV} (hc : EC E c size es) {cap : Nat} (hcap : es.length ≤ cap) {cc : Cap}
    (hcc : cc = .no ∨ (cc = .full ∧ cap = es.length)) :
    ∃ E', Keep E h (Vars r tm) w E' h (Vars r tm) w' ∧ FRel E' h w' r tm ∧ HRel E' h w' ∧ VRel E' (.imm size es cc) (.slice (some ⟨b, 0, none⟩) es.length cap) :=
  ⟨E.stay b (stayOf c (es.length * size)), Keep.stay hh _ g hb _, hf.stay hh g hb _, hh.stay g hb (stay_ok g hbl _), imm_of (T := T) (fr := fr) (E.stay_le (hh.sg_new hb)) hc hcap (by rcases hcc with rfl | ⟨rfl, h⟩ <;> first | trivial | exact h)⟩

/-- A new block of elements that may be written to. -/
theorem new_row (hf : FRel E h w r tm) (hh : HRel E h w) (g : Grow w w') {b : Nat} (hb : w.heap.size ≤ b) {c : Array Value} {T : TypeId} {fr : Nat × Nat} (hbl : w'.heap[b]? = some (.cells c T fr)) (hfr : ∀ o, o < c.size → (fr.1 ≤ o && o < fr.2) = false)
    {size : Nat} {es : List AV} (hc : EC E c size es) {cp : Nat} (hcs : c.size = cp * size) (hcap : es.length ≤ cp) :
    ∃ E', Keep E h (Vars r tm) w E' (h ++ [.row size es]) (Vars r tm) w' ∧ FRel E' (h ++ [.row size es]) w' r tm ∧ HRel E' (h ++ [.row size es]) w' ∧ h.length < E'.n ∧ E'.ob h.length = b ∧ E'.cp h.length = cp := by
  have hlt : b < w'.heap.size := (Array.getElem?_eq_some_iff.1 hbl).1
  have ho : ORel (E.add b cp) w' b cp (.row size es) := ⟨c, T, fr, hbl, hfr, hcs, hcap, hc.1, fun i e hi => (hc.2 i e hi).mono (E.add_le b cp), fun o => hh.sg_new hb o⟩
  obtain ⟨h1, h2, h3⟩ := new_entry hf hh g hb hlt ho
  exact ⟨_, h1, h2, h3, by simp [Env.add, hh.n], by simp [Env.add, hh.n], by simp [Env.add, hh.n]⟩

theorem row_val {id size n cp : Nat} {b : Nat} (h1 : id < E.n) (h2 : E.ob id = b) (h3 : E.cp id = cp) (hn : n ≤ cp) : VRel E (.row id size 0 n false) (.slice (some ⟨b, 0, none⟩) n cp) :=
  .row _ _ _ _ _ _ _ _ ⟨h1, hn, (fun h => by cases h), .inl ⟨h2.symm, by simp, fun _ => by rw [h3, Nat.zero_add]⟩⟩

/-- A new block of elements that stay, with its tail. -/
theorem new_tail (hf : FRel E h w r tm) (hh : HRel E h w) (g : Grow w w') {b : Nat} (hb : w.heap.size ≤ b) {c : Array Value} {T : TypeId} {fr : Nat × Nat} (hbl : w'.heap[b]? = some (.cells c T fr)) (hfr : ∀ o, o < c.size → (fr.1 ≤ o && o < fr.2) = false)
    {size : Nat} {es : List AV} (hc : EC E c size es) {cap : Nat} (hcs : cap * size ≤ c.size) (hcap : es.length ≤ cap) :
    ∃ E', Keep E h (Vars r tm) w E' (h ++ [.tail size es.length]) (Vars r tm) w' ∧ FRel E' (h ++ [.tail size es.length]) w' r tm ∧ HRel E' (h ++ [.tail size es.length]) w' ∧
      VRel E' (.imm size es (.tok h.length es.length)) (.slice (some ⟨b, 0, none⟩) es.length cap) := by
  have hlt : b < w'.heap.size := (Array.getElem?_eq_some_iff.1 hbl).1
  have s1 := hh.stay g hb (stay_ok (fr := fr) g hbl (es.length * size))
  have s2 := hf.stay hh g hb (stayOf c (es.length * size))
  have s3 := Keep.stay hh (Vars r tm) g hb (stayOf c (es.length * size))
  have hle := E.stay_le (b := b) (s := stayOf c (es.length * size)) (hh.sg_new hb)
  generalize hE1 : E.stay b (stayOf c (es.length * size)) = E1 at *
  have hno : ¬ Owned E1 h b := fun ho => by
    subst hE1
    have : Owned E h b := ho
    have := Owned.lt hh this; omega
  have ho : ORel (E1.add b c.size) w' b c.size (.tail size es.length) := ⟨c, T, fr, hbl, hfr, rfl, fun o ho => by
    subst hE1
    simp only [Env.add, Env.stay, if_true, stayOf]
    rw [if_neg (by omega)]⟩
  have hvars : ¬ Vars r tm b := fun hx => by have := hf.lt_vars hx; omega
  have hnl : h.length = E1.n := s1.n.symm
  refine ⟨E1.add b c.size, ?_, s2.add s1 hvars, s1.add hno hlt ho, ?_⟩
  · exact ⟨s3.le.trans (E1.add_le b c.size), g.size, g.os, g.out, s3.heap, fun b' ho => (Owned.add s1 ho).elim (s3.owned b') fun e => .inr (e ▸ hb), fun _ h => .inl h, fun b' o hs => s3.sg b' o hs⟩
  · subst hE1
    have hle2 := (E.stay b (stayOf c (es.length * size))).add_le b c.size
    have := imm_of (T := T) (fr := fr) (cc := .no) hle hc hcap trivial
    have := this.mono hle2
    cases this with
    | imz _ _ _ _ =>
      refine .imm _ _ _ _ _ _ hcap (by simp) (by simp) (by simp) (by simp) ⟨?_, .inl rfl⟩
      exact Nat.lt_of_le_of_lt (Nat.le_of_eq hnl) (Nat.lt_succ_self _)
    | imm _ _ _ _ _ _ q1 q2 q3 q4 q5 q6 =>
      refine .imm _ _ _ _ _ _ q1 q2 q3 q4 q5 ⟨?_, .inr ⟨?_, by simp, ?_⟩⟩
      · simp [Env.add]; omega
      · simp only [Env.add]; rw [if_pos hnl]
      · simp only [Env.add]; rw [if_pos hnl]; simpa using hcs
end
end Go.Im

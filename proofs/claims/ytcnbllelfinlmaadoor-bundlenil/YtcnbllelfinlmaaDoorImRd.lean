/- ImRd: what is known of values that were read. -/
import Derived.Test.YtcnbllelfinlmaaDoorImLaw
import Derived.Test.YtcnbllelfinlmaaDoorImX4
set_option linter.unusedVariables false
namespace Go.Im
section
variable {P : Program}

theorem rd_int {m : Nat} {t : TypeId} {k : IntKind} {l : List AV} (ht : P.underlying t = some (.int k)) (h : Rd P (m + 1) t l) : ∃ n, l = [.int k n] ∧ (Lit.int k n).wf = true := by
  simpa only [Rd, ht] using h
theorem rd_array {m n : Nat} {t e : TypeId} {l : List AV} (ht : P.underlying t = some (.array n e)) (h : Rd P (m + 1) t l) : RdN (Rd P m e) n l := by
  simpa only [Rd, ht] using h

theorem agg_no {t : TypeId} {d : TypeDesc} (ht : P.underlying t = some d) (hd : aggD d = false) : aggT P t = false := by simp [aggT,ht,hd]
theorem agg_yes {t : TypeId} {d : TypeDesc} (ht : P.underlying t = some d) (hd : aggD d = true) : aggT P t = true := by simp [aggT,ht,hd]

theorem rdT_int {m : Nat} {t : TypeId} {k : IntKind} {a : AV} (ht : P.underlying t = some (.int k)) (h : RdT P (m + 1) t a) : ∃ n, a = .int k n ∧ (Lit.int k n).wf = true := by
  obtain ⟨l, rfl, h⟩ := h
  obtain ⟨n, rfl, h'⟩ := rd_int ht h
  exact ⟨n, by simp [mkAV,agg_no ht rfl], h'⟩
theorem rdT_array {m n : Nat} {t e : TypeId} {a : AV} (ht : P.underlying t = some (.array n e)) (h : RdT P (m + 1) t a) : ∃ l, a = .agg l ∧ RdN (Rd P m e) n l := by
  obtain ⟨l, rfl, h⟩ := h
  exact ⟨l, by simp [mkAV,agg_yes ht rfl], rd_array ht h⟩
theorem rdN_ints {m : Nat} {e : TypeId} {k : IntKind} (he : P.underlying e = some (.int k)) : ∀ {n : Nat} {l : List AV}, RdN (Rd P (m + 1) e) n l → ∃ xs : List Int, l = intsOf k xs ∧ xs.length = n ∧ ∀ x ∈ xs, (Lit.int k x).wf = true
  | 0, l, h => by
    simp only [RdN] at h
    subst h
    exact ⟨[], rfl, rfl, fun x hx => by simp at hx⟩
  | n + 1, l, h => by
    obtain ⟨a, b, rfl, h1, h2⟩ := h
    obtain ⟨x, rfl, hx⟩ := rd_int he h1
    obtain ⟨xs, rfl, hl, hxs⟩ := rdN_ints he h2
    exact ⟨x :: xs, rfl, by simp [hl], fun y hy => (List.mem_cons.1 hy).elim (fun e => e ▸ hx) (hxs y)⟩

theorem rdAll_cons {m : Nat} {t : TypeId} {ts : List TypeId} {l : List AV} (h : RdAll P m (t :: ts) l) : ∃ a b, l = a :: b ∧ RdT P m t a ∧ RdAll P m ts b := h
theorem rdAll_nil {m : Nat} {l : List AV} (h : RdAll P m [] l) : l = [] := h

end
end Go.Im

/- ImRd: what is known of values that were read. -/
import Derived.Test.YtcnbllelfinlmaaDoorImLaw
import Derived.Test.YtcnbllelfinlmaaDoorImX4
set_option linter.unusedVariables false
namespace Go.Im
section
variable {P : Program}

theorem rd_int {m : Nat} {t : TypeId} {k : IntKind} {l : List AV} (ht : P.underlying t = some (.int k)) (h : Rd P (m + 1) t l) : ∃ n, l = [.int k n] ∧ (Lit.int k n).wf = true := by
  simpa only [Rd, ht] using h
theorem rd_bool {m : Nat} {t : TypeId} {l : List AV} (ht : P.underlying t = some .bool) (h : Rd P (m + 1) t l) : ∃ n, l = [.bool n] := by
  simpa only [Rd, ht] using h
theorem rd_str {m : Nat} {t : TypeId} {l : List AV} (ht : P.underlying t = some .string) (h : Rd P (m + 1) t l) : ∃ s, l = [.str s] ∧ s.length ≤ maxLen := by
  simpa only [Rd, ht] using h
theorem rd_slice {m : Nat} {t e : TypeId} {l : List AV} (ht : P.underlying t = some (.slice e)) (h : Rd P (m + 1) t l) : l = [.nils] ∨ ∃ es, l = [.imm (P.cellsOf e) es .no] ∧ es.length ≤ maxLen ∧ ∀ x ∈ es, RdT P m e x := by
  simp only [Rd,ht] at h
  exact h
theorem rd_struct {m : Nat} {t : TypeId} {fs : Array Field} {l : List AV} (ht : P.underlying t = some (.struct fs)) (h : Rd P (m + 1) t l) : RdF (Rd P m) fs.toList l := by
  simpa only [Rd, ht] using h
theorem rd_array {m n : Nat} {t e : TypeId} {l : List AV} (ht : P.underlying t = some (.array n e)) (h : Rd P (m + 1) t l) : RdN (Rd P m e) n l := by
  simpa only [Rd, ht] using h

theorem agg_no {t : TypeId} {d : TypeDesc} (ht : P.underlying t = some d) (hd : aggD d = false) : aggT P t = false := by simp [aggT,ht,hd]
theorem agg_yes {t : TypeId} {d : TypeDesc} (ht : P.underlying t = some d) (hd : aggD d = true) : aggT P t = true := by simp [aggT,ht,hd]

theorem rdT_bool {m : Nat} {t : TypeId} {a : AV} (ht : P.underlying t = some .bool) (h : RdT P (m + 1) t a) : ∃ n, a = .bool n := by
  obtain ⟨l, rfl, h⟩ := h
  obtain ⟨n, rfl⟩ := rd_bool ht h
  exact ⟨n, by simp [mkAV,agg_no ht rfl]⟩
theorem rdT_slice {m : Nat} {t e : TypeId} {a : AV} (ht : P.underlying t = some (.slice e)) (h : RdT P (m + 1) t a) : a = .nils ∨ ∃ es, a = .imm (P.cellsOf e) es .no ∧ es.length ≤ maxLen ∧ ∀ x ∈ es, RdT P m e x := by
  obtain ⟨l, rfl, h⟩ := h
  rcases rd_slice ht h with rfl | ⟨es, rfl, h'⟩
  · exact .inl (by simp [mkAV,agg_no ht rfl])
  · exact .inr ⟨es, by simp [mkAV,agg_no ht rfl], h'⟩
theorem rdT_array {m n : Nat} {t e : TypeId} {a : AV} (ht : P.underlying t = some (.array n e)) (h : RdT P (m + 1) t a) : ∃ l, a = .agg l ∧ RdN (Rd P m e) n l := by
  obtain ⟨l, rfl, h⟩ := h
  exact ⟨l, by simp [mkAV,agg_yes ht rfl], rd_array ht h⟩
theorem rdT_struct {m : Nat} {t : TypeId} {fs : Array Field} {a : AV} (ht : P.underlying t = some (.struct fs)) (h : RdT P (m + 1) t a) : ∃ l, a = .agg l ∧ RdF (Rd P m) fs.toList l := by
  obtain ⟨l, rfl, h⟩ := h
  exact ⟨l, by simp [mkAV,agg_yes ht rfl], rd_struct ht h⟩

theorem rdN_ints {m : Nat} {e : TypeId} {k : IntKind} (he : P.underlying e = some (.int k)) : ∀ {n : Nat} {l : List AV}, RdN (Rd P (m + 1) e) n l → ∃ xs : List Int, l = intsOf k xs ∧ xs.length = n ∧ ∀ x ∈ xs, (Lit.int k x).wf = true
  | 0, l, h => by
    simp only [RdN] at h
    subst h
    exact ⟨[], rfl, rfl, fun x hx => by simp at hx⟩
  | n + 1, l, h => by
    obtain ⟨a, b, rfl, h1, h2⟩ := h
    obtain ⟨x, rfl, hx⟩ := rd_int he h1
    obtain ⟨xs, rfl, hl, hxs⟩ := rdN_ints he h2
    exact ⟨x :: xs, rfl, by simp [hl], fun y hy => (List.mem_cons.1 hy).elim (fun e => e ▸ hx) (hxs y)⟩

theorem rdAll_cons {m : Nat} {t : TypeId} {ts : List TypeId} {l : List AV} (h : RdAll P m (t :: ts) l) : ∃ a b, l = a :: b ∧ RdT P m t a ∧ RdAll P m ts b := h
theorem rdAll_nil {m : Nat} {l : List AV} (h : RdAll P m [] l) : l = [] := h

structure RdC (P : Program) (m : Nat) (t : TypeId) (l : List AV) : Prop where
  h : Rd P m t l

theorem rdF_c {m : Nat} : ∀ {fs : List Field} {l : List AV}, RdF (Rd P m) fs l → RdF (RdC P m) fs l
  | [], l, h => h
  | f :: fs, l, ⟨a, b, e, h1, h2⟩ => ⟨a, b, e, ⟨h1⟩, rdF_c h2⟩
theorem rdT_structC {m : Nat} {t : TypeId} {fs : Array Field} {a : AV} (ht : P.underlying t = some (.struct fs)) (h : RdT P (m + 1) t a) : ∃ l, a = .agg l ∧ RdF (RdC P m) fs.toList l := by
  obtain ⟨l, e, h⟩ := rdT_struct ht h
  exact ⟨l, e, rdF_c h⟩
theorem rdC_bool {m : Nat} {t : TypeId} {l : List AV} (ht : P.underlying t = some .bool) (h : RdC P (m + 1) t l) : ∃ n, l = [.bool n] := rd_bool ht h.h
theorem rdC_str {m : Nat} {t : TypeId} {l : List AV} (ht : P.underlying t = some .string) (h : RdC P (m + 1) t l) : ∃ s, l = [.str s] ∧ s.length ≤ maxLen := rd_str ht h.h
theorem rdC_array {m n : Nat} {t e : TypeId} {l : List AV} (ht : P.underlying t = some (.array n e)) (h : RdC P (m + 1) t l) : RdN (Rd P m e) n l := rd_array ht h.h
end
end Go.Im

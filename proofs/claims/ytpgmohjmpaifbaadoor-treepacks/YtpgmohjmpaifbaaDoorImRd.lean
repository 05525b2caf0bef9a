/- ImRd: what is known of values that were read. -/
import Derived.Test.YtpgmohjmpaifbaaDoorImLaw
import Derived.Test.YtpgmohjmpaifbaaDoorImX4
set_option linter.unusedVariables false
namespace Go.Im
section
variable {P : Program}

theorem rd_int {m : Nat} {t : TypeId} {k : IntKind} {l : List AV} (ht : P.underlying t = some (.int k)) (h : Rd P (m + 1) t l) : ∃ n, l = [.int k n] ∧ (Lit.int k n).wf = true := by
  simpa only [Rd, ht] using h
theorem rd_str {m : Nat} {t : TypeId} {l : List AV} (ht : P.underlying t = some .string) (h : Rd P (m + 1) t l) : ∃ s, l = [.str s] ∧ s.length ≤ maxLen := by
  simpa only [Rd, ht] using h
theorem rd_slice {m : Nat} {t e : TypeId} {l : List AV} (ht : P.underlying t = some (.slice e)) (h : Rd P (m + 1) t l) : l = [.nils] ∨ ∃ es, l = [.imm (P.cellsOf e) es .no] ∧ es.length ≤ maxLen ∧ ∀ x ∈ es, RdT P m e x := by
  simp only [Rd,ht] at h
  exact h
theorem rd_struct {m : Nat} {t : TypeId} {fs : Array Field} {l : List AV} (ht : P.underlying t = some (.struct fs)) (h : Rd P (m + 1) t l) : RdF (Rd P m) fs.toList l := by
  simpa only [Rd, ht] using h
theorem agg_no {t : TypeId} {d : TypeDesc} (ht : P.underlying t = some d) (hd : aggD d = false) : aggT P t = false := by simp [aggT,ht,hd]
theorem agg_yes {t : TypeId} {d : TypeDesc} (ht : P.underlying t = some d) (hd : aggD d = true) : aggT P t = true := by simp [aggT,ht,hd]

theorem rdT_int {m : Nat} {t : TypeId} {k : IntKind} {a : AV} (ht : P.underlying t = some (.int k)) (h : RdT P (m + 1) t a) : ∃ n, a = .int k n ∧ (Lit.int k n).wf = true := by
  obtain ⟨l, rfl, h⟩ := h
  obtain ⟨n, rfl, h'⟩ := rd_int ht h
  exact ⟨n, by simp [mkAV,agg_no ht rfl], h'⟩
theorem rdT_str {m : Nat} {t : TypeId} {a : AV} (ht : P.underlying t = some .string) (h : RdT P (m + 1) t a) : ∃ s, a = .str s ∧ s.length ≤ maxLen := by
  obtain ⟨l, rfl, h⟩ := h
  obtain ⟨n, rfl, h'⟩ := rd_str ht h
  exact ⟨n, by simp [mkAV,agg_no ht rfl], h'⟩
theorem rdT_slice {m : Nat} {t e : TypeId} {a : AV} (ht : P.underlying t = some (.slice e)) (h : RdT P (m + 1) t a) : a = .nils ∨ ∃ es, a = .imm (P.cellsOf e) es .no ∧ es.length ≤ maxLen ∧ ∀ x ∈ es, RdT P m e x := by
  obtain ⟨l, rfl, h⟩ := h
  rcases rd_slice ht h with rfl | ⟨es, rfl, h'⟩
  · exact .inl (by simp [mkAV,agg_no ht rfl])
  · exact .inr ⟨es, by simp [mkAV,agg_no ht rfl], h'⟩
theorem rdT_struct {m : Nat} {t : TypeId} {fs : Array Field} {a : AV} (ht : P.underlying t = some (.struct fs)) (h : RdT P (m + 1) t a) : ∃ l, a = .agg l ∧ RdF (Rd P m) fs.toList l := by
  obtain ⟨l, rfl, h⟩ := h
  exact ⟨l, by simp [mkAV,agg_yes ht rfl], rd_struct ht h⟩

theorem rd_bytes {m : Nat} {e : TypeId} (he : P.underlying e = some (.int .u8)) : ∀ {es : List AV}, (∀ x ∈ es, RdT P (m + 1) e x) → ∃ bs : List UInt8, es = bytesOf bs
  | [], _ => ⟨[], rfl⟩
  | x :: es, h => by
    obtain ⟨n, rfl, hn⟩ := rdT_int he (h x (by simp))
    obtain ⟨bs, rfl⟩ := rd_bytes (es := es) he (fun y hy => h y (by simp [hy]))
    have hx : 0 ≤ n ∧ n ≤ 255 := by simpa [Lit.wf, IntKind.min, IntKind.max, IntKind.signed, IntKind.bits] using hn
    refine ⟨UInt8.ofNat n.toNat :: bs, ?_⟩
    simp only [bytesOf,List.map_cons]
    have : (UInt8.ofNat n.toNat).toNat = n.toNat := by simp; omega
    rw [this, Int.toNat_of_nonneg hx.1]

theorem rdAll_cons {m : Nat} {t : TypeId} {ts : List TypeId} {l : List AV} (h : RdAll P m (t :: ts) l) : ∃ a b, l = a :: b ∧ RdT P m t a ∧ RdAll P m ts b := h
theorem rdAll_nil {m : Nat} {l : List AV} (h : RdAll P m [] l) : l = [] := h

structure RdC (P : Program) (m : Nat) (t : TypeId) (l : List AV) : Prop where
  h : Rd P m t l

theorem rdF_c {m : Nat} : ∀ {fs : List Field} {l : List AV}, RdF (Rd P m) fs l → RdF (RdC P m) fs l
  | [], l, h => h
  | f :: fs, l, ⟨a, b, e, h1, h2⟩ => ⟨a, b, e, ⟨h1⟩, rdF_c h2⟩
theorem rdT_structC {m : Nat} {t : TypeId} {fs : Array Field} {a : AV} (ht : P.underlying t = some (.struct fs)) (h : RdT P (m + 1) t a) : ∃ l, a = .agg l ∧ RdF (RdC P m) fs.toList l := by
  obtain ⟨l, e, h⟩ := rdT_struct ht h
  exact ⟨l, e, rdF_c h⟩
theorem rdC_int {m : Nat} {t : TypeId} {k : IntKind} {l : List AV} (ht : P.underlying t = some (.int k)) (h : RdC P (m + 1) t l) : ∃ n, l = [.int k n] ∧ (Lit.int k n).wf = true := rd_int ht h.h
theorem rdC_str {m : Nat} {t : TypeId} {l : List AV} (ht : P.underlying t = some .string) (h : RdC P (m + 1) t l) : ∃ s, l = [.str s] ∧ s.length ≤ maxLen := rd_str ht h.h
theorem rdC_slice {m : Nat} {t e : TypeId} {l : List AV} (ht : P.underlying t = some (.slice e)) (h : RdC P (m + 1) t l) : l = [.nils] ∨ ∃ es, l = [.imm (P.cellsOf e) es .no] ∧ es.length ≤ maxLen ∧ ∀ x ∈ es, RdT P m e x := rd_slice ht h.h
end
end Go.Im

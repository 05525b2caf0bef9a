/- Joined: S21Is, S21P0, S21Pb, S21Pc, S21Cu, S21Cc, S21Rs, S21Ru, S21Rv, S21Le, S21Cd, S21Eq. -/
import Derived.Test.YtpgmohjmpaifbaaDoorTabs
import Derived.KernelRfl
import Derived.Test.YtpgmohjmpaifbaaDoorImRow
import Derived.Test.YtpgmohjmpaifbaaDoorImMapT
import Derived.Test.YtpgmohjmpaifbaaDoorImSl
import Derived.Test.YtpgmohjmpaifbaaDoorImApp
import Derived.Test.YtpgmohjmpaifbaaDoorImRng
/- S21Is: which functions stand where. -/
open Go Go.Im
namespace Go.Proofs.YtpgmohjmpaifbaaDoor.Im

theorem f6 : F 6 = some (.inl a6) := by kernel_rfl
theorem f11 : F 11 = some (.inl a11) := by kernel_rfl
theorem f12 : F 12 = some (.inl a12) := by kernel_rfl
theorem f14 : F 14 = some (.inl a14) := by kernel_rfl
theorem f16 : F 16 = some (.inl a16) := by kernel_rfl
theorem f17 : F 17 = some (.inl a17) := by kernel_rfl
theorem f18 : F 18 = some (.inl a18) := by kernel_rfl
theorem f20 : F 20 = some (.inl a20) := by kernel_rfl
theorem f22 : F 22 = some (.inl a22) := by kernel_rfl
theorem f24 : F 24 = some (.inl a24) := by kernel_rfl
theorem f26 : F 26 = some (.inl a26) := by kernel_rfl
theorem f27 : F 27 = some (.inl a27) := by kernel_rfl
theorem f28 : F 28 = some (.inl a28) := by kernel_rfl
theorem f43 : F 43 = some (.inl a43) := by kernel_rfl
theorem f44 : F 44 = some (.inl a44) := by kernel_rfl
theorem f45 : F 45 = some (.inl a45) := by kernel_rfl
theorem f47 : F 47 = some (.inl a47) := by kernel_rfl
theorem f48 : F 48 = some (.inl a48) := by kernel_rfl
theorem f50 : F 50 = some (.inl a50) := by kernel_rfl
theorem f52 : F 52 = some (.inl a52) := by kernel_rfl
theorem f54 : F 54 = some (.inl a54) := by kernel_rfl
theorem f74 : F 74 = some (.inl a74) := by kernel_rfl
theorem f75 : F 75 = some (.inl a75) := by kernel_rfl
theorem f76 : F 76 = some (.inl a76) := by kernel_rfl
theorem f77 : F 77 = some (.inl a77) := by kernel_rfl
theorem f78 : F 78 = some (.inl a78) := by kernel_rfl
theorem f79 : F 79 = some (.inl a79) := by kernel_rfl
theorem f80 : F 80 = some (.inl a80) := by kernel_rfl
theorem f82 : F 82 = some (.inl a82) := by kernel_rfl
theorem f99 : F 99 = some (.inl a99) := by kernel_rfl
theorem f101 : F 101 = some (.inl a101) := by kernel_rfl
theorem f102 : F 102 = some (.inl a102) := by kernel_rfl
theorem f103 : F 103 = some (.inl a103) := by kernel_rfl
theorem f104 : F 104 = some (.inl a104) := by kernel_rfl
theorem f105 : F 105 = some (.inl a105) := by kernel_rfl
theorem f106 : F 106 = some (.inl a106) := by kernel_rfl
theorem f107 : F 107 = some (.inl a107) := by kernel_rfl
theorem f110 : F 110 = some (.inl a110) := by kernel_rfl
theorem f111 : F 111 = some (.inl a111) := by kernel_rfl
theorem f112 : F 112 = some (.inl a112) := by kernel_rfl
theorem f114 : F 114 = some (.inl a114) := by kernel_rfl
theorem f115 : F 115 = some (.inl a115) := by kernel_rfl
theorem f119 : F 119 = some (.inl a119) := by kernel_rfl
theorem f122 : F 122 = some (.inl a122) := by kernel_rfl

end Go.Proofs.YtpgmohjmpaifbaaDoor.Im

/- S21P0: what is a path. -/
set_option linter.unusedVariables false
set_option linter.unusedSimpArgs false
open Go Go.Im
namespace Go.Proofs.YtpgmohjmpaifbaaDoor.Im

abbrev By := List UInt8

/-! ### what is a path -/
def goodC (c : UInt8) : Bool := decide (32 < c.toNat ∧ c.toNat < 127)
def slashOk : Bool → By → Bool
  | pv, [] => !pv
  | pv, c :: cs => if c = 47 then !pv && slashOk true cs else slashOk false cs
def pathB (s : By) : Bool := decide (s.length ≤ 64) && (slashOk true s && s.all goodC)


theorem hg0 (h l : Hp) : (h ++ l)[h.length]? = l[0]? := by
  rw [List.getElem?_append_right (Nat.le_refl _), Nat.sub_self]
theorem hgk (h l : Hp) (k : Nat) : (h ++ l)[h.length + k]? = l[k]? := by
  rw [List.getElem?_append_right (by omega)]; congr 1; omega
theorem hs0 (h l : Hp) (o : AO) : (h ++ l).set h.length o = h ++ l.set 0 o := by
  rw [List.set_append_right _ _ (Nat.le_refl _), Nat.sub_self]
theorem hsk (h l : Hp) (k : Nat) (o : AO) : (h ++ l).set (h.length + k) o = h ++ l.set k o := by
  rw [List.set_append_right _ _ (by omega)]; congr 2; omega

theorem all_bad {s : By} {i : Nat} (hi : i < s.length) (hb : goodC s[i] = false) : s.all goodC = false := by
  rw [List.all_eq_false]
  exact ⟨s[i], List.getElem_mem hi, by simp [hb]⟩

end Go.Proofs.YtpgmohjmpaifbaaDoor.Im

/- S21Pb: the reference's paths; which paths go together. -/
set_option linter.unusedVariables false
set_option linter.unusedSimpArgs false
open Go Go.Im
namespace Go.Proofs.YtpgmohjmpaifbaaDoor.Im
section
variable {n : Nat} {tot : Bool} {ω : Nat → Nat} {h : Hp}

theorem u8_47 (c : UInt8) : (((c.toNat : Nat) : Int) = 47) = (c = 47) := by
  apply propext
  constructor
  · intro h
    apply UInt8.toNat_inj.1
    show c.toNat = 47
    omega
  · rintro rfl; rfl

end
end Go.Proofs.YtpgmohjmpaifbaaDoor.Im

/- S21Pc: which rising paths may be in one snapshot. -/
set_option linter.unusedVariables false
set_option linter.unusedSimpArgs false
open Go Go.Im
namespace Go.Proofs.YtpgmohjmpaifbaaDoor.Im

def IsRd (sz : Nat) (es : List AV) (v : AV) : Prop := (v = .nils ∧ es = []) ∨ ∃ c, v = .imm sz es c
theorem IsRd.len {sz : Nat} {es : List AV} {v : AV} (h : IsRd sz es v) : lenSl v = some es.length := by
  rcases h with ⟨rfl, rfl⟩ | ⟨c, rfl⟩ <;> rfl
theorem IsRd.imm {sz : Nat} {es : List AV} {v : AV} {i : Nat} (h : IsRd sz es v) (hi : i < es.length) : ∃ c, v = .imm sz es c := by
  rcases h with ⟨rfl, rfl⟩ | ⟨c, rfl⟩
  · exact absurd hi (Nat.not_lt_zero _)
  · exact ⟨c, rfl⟩
theorem isRd_app {sz : Nat} {es : List AV} {h : Hp} {v : AV} (hv : IsApp sz es h v) : IsRd sz es v := by
  rcases hv with h | h | ⟨id, h, _⟩
  · exact .inl h
  · exact .inr ⟨_, h⟩
  · exact .inr ⟨_, h⟩
/-! ### texts -/
theorem bl_irrefl : ∀ (a : List UInt8), Op.bytesLess a a = false
  | [] => rfl
  | a :: l => by simp [Op.bytesLess,bl_irrefl l]
theorem bl_trans : ∀ (a b c : List UInt8), Op.bytesLess a b = true → Op.bytesLess b c = true → Op.bytesLess a c = true
  | a, b, [], _, h => by cases b <;> simp [Op.bytesLess] at h
  | a, [], c :: cs, h, _ => by cases a <;> simp [Op.bytesLess] at h
  | [], b :: bs, c :: cs, _, _ => rfl
  | a :: aq, b :: bs, c :: cs, h1, h2 => by
    simp only [Op.bytesLess,Bool.or_eq_true,Bool.and_eq_true,decide_eq_true_eq,beq_iff_eq] at *
    rcases h1 with h1 | ⟨rfl, h1⟩
    · rcases h2 with h2 | ⟨rfl, h2⟩
      · left; exact UInt8.lt_trans h1 h2
      · left; exact h1
    · rcases h2 with h2 | ⟨rfl, h2⟩
      · left; exact h2
      · right; exact ⟨rfl, bl_trans aq bs cs h1 h2⟩
theorem bl_tri : ∀ (a b : List UInt8), Op.bytesLess a b = false → Op.bytesLess b a = false → a = b
  | [], [], _, _ => rfl
  | [], b :: bs, h, _ => by simp [Op.bytesLess] at h
  | a :: aq, [], _, h => by simp [Op.bytesLess] at h
  | a :: aq, b :: bs, h1, h2 => by
    simp only [Op.bytesLess,Bool.or_eq_false_iff,decide_eq_false_iff_not,Bool.and_eq_false_imp,beq_iff_eq] at h1 h2
    have hab : a = b := by
      have k1 := h1.1; have k2 := h2.1
      rw [UInt8.lt_iff_toNat_lt] at k1 k2
      exact UInt8.toNat_inj.1 (by omega)
    subst hab
    rw [bl_tri aq bs (h1.2 rfl) (h2.2 rfl)]
theorem bl_ntrans (a b c : List UInt8) (h1 : Op.bytesLess a b = false) (h2 : Op.bytesLess b c = false) : Op.bytesLess a c = false := by
  cases h : Op.bytesLess a c with
  | false => rfl
  | true =>
    cases h3 : Op.bytesLess b a with
    | true => rw [bl_trans b a c h3 h] at h2; cases h2
    | false => rw [bl_tri a b h1 h3] at h; rw [h] at h2; cases h2
theorem cmp_lt : ∀ (a b : List UInt8), decide (Go.Lib.compareBytes a b < 0) = Op.bytesLess a b
  | [], [] => rfl
  | [], _ :: _ => rfl
  | _ :: _, [] => rfl
  | a :: aq, b :: bs => by
    have ih := cmp_lt aq bs
    simp only [Go.Lib.compareBytes,Op.bytesLess]
    by_cases h1 : a < b
    · simp [h1]
    · by_cases h2 : b < a
      · have : (a == b) = false := by
          simp only [beq_eq_false_iff_ne]
          rintro rfl
          exact h1 h2
        simp [h1,h2,this]
      · have : a = b := by
          rw [UInt8.lt_iff_toNat_lt] at h1 h2
          exact UInt8.toNat_inj.1 (by omega)
        subst this
        simp [h1,ih]


/-! ### paths together -/
def Under (p q : By) : Prop := q.length < p.length ∧ p.take (q.length + 1) = q ++ [47]
structure Rising (l : List By) : Prop where
  few : l.length ≤ 64
  path : ∀ p ∈ l, pathB p = true
  rise : ∀ j k (hj : j < l.length) (hk : k < l.length), j < k → Op.bytesLess l[j] l[k] = true
  apart : ∀ p ∈ l, ∀ q ∈ l, ¬ Under p q

theorem under_iff {p q : By} : Under p q ↔ ∃ h : q.length < p.length, p[q.length] = 47 ∧ p.take q.length = q := by
  constructor
  · rintro ⟨h, e⟩
    refine ⟨h, ?_, ?_⟩
    · have := congrArg (·[q.length]?) e
      simpa [List.getElem?_take, h] using this
    · have := congrArg (List.take q.length) e
      simpa [List.take_take] using this
  · rintro ⟨h, h1, h2⟩
    exact ⟨h, by rw [List.take_succ_eq_append_getElem h, h1, h2]⟩

theorem key_str : KeyEnc (κ := By) false [CK.s] AV.str := ⟨fun a b => by simp only [eqAV,eqS]; congr 1; by_cases e : a = b <;> simp [e], fun a => rfl⟩

theorem path_len {p : By} (h : pathB p = true) : p.length ≤ 64 := by
  unfold pathB at h
  simp only [Bool.and_eq_true,decide_eq_true_eq] at h
  exact h.1

end Go.Proofs.YtpgmohjmpaifbaaDoor.Im

/- S21Cu: the reference's cutting of bytes. -/
set_option linter.unusedVariables false
set_option linter.unusedSimpArgs false
open Go Go.Im
namespace Go.Proofs.YtpgmohjmpaifbaaDoor.Im

def sumR (s : By) (i : Nat) : Nat := ((s.take (i + 1)).drop (i - 15)).foldl (fun x b => (x * 31 + b.toNat + 1) % 4294967296) 0

section
variable {n : Nat} {tot : Bool} {ω : Nat → Nat} {h : Hp}

theorem fold_lt (l : By) : ∀ x : Nat, x < 4294967296 → l.foldl (fun x b => (x * 31 + b.toNat + 1) % 4294967296) x < 4294967296 := by
  induction l with
  | nil => intro x hx; exact hx
  | cons b l ih => intro x hx; exact ih _ (Nat.mod_lt _ (by decide))
theorem sumR_lt (s : By) (i : Nat) : sumR s i < 4294967296 := fold_lt _ 0 (by decide)

theorem c82 (s : By) (a : Nat) (ha : a < s.length) (hs : s.length ≤ 1000000000) (hn : 20 < n) : call F n tot ω 82 [.str s, .int .i64 a] h = some (.int .i64 (sumR s a : Nat), h) := by
  obtain ⟨n, rfl⟩ : ∃ m, n = m + 1 := ⟨n - 1, by omega⟩
  refine call_eq (fn := a82) f82 ?_
  unfold a82
  simp (maxSteps := 2000000) (discharger := omega) only [xz,xc,xo,xr,x0,x1,xd,Reg.isA,Reg.isV,Reg.stays,Reg.onto,↓reduceIte,reduceCtorEq,Nat.reduceEqDiff,Nat.reduceLT,Nat.reduceAdd,wrap_i64]
  refine wpi_loop (fun x r g' => ∃ (i : Int), r = [(0, .val (.str s)), (1, .val (.int .i64 a)), (5, .val (.int .i64 (((s.take i.toNat).drop (a - 15)).foldl (fun x b => (x * 31 + b.toNat + 1) % 4294967296) 0 : Nat))), (6, .val (.int .i64 i))] ∧ x = (a + 1 - i).toNat ∧ (a : Int) - 15 ≤ i ∧ i ≤ a + 1 ∧ g' = h) 16 (by omega)
    ⟨(a : Int) - 15, ?_, by omega, by omega, by omega, rfl⟩ ?_
  · have : (s.take ((a : Int) - 15).toNat).drop (a - 15) = [] := by
      rw [List.drop_eq_nil_iff, List.length_take]; omega
    rw [this]; rfl
  rintro x r g' ⟨i, rfl, rfl, hi1, hi2, rfl⟩
  by_cases hle : i ≤ a
  · by_cases h0 : i ≥ 0
    · obtain ⟨j, rfl⟩ : ∃ j : Nat, i = (j : Int) := ⟨i.toNat, by omega⟩
      have hj : j < s.length := by omega
      have q1 : s[j]? = some s[j] := List.getElem?_eq_getElem hj
      have hx := fold_lt ((s.take j).drop (a - 15)) 0 (by decide)
      have hb : s[j].toNat < 256 := s[j].toNat_lt
      have e : ((s.take (j + 1)).drop (a - 15)).foldl (fun x b => (x * 31 + b.toNat + 1) % 4294967296) 0 = (((s.take j).drop (a - 15)).foldl (fun x b => (x * 31 + b.toNat + 1) % 4294967296) 0 * 31 + s[j].toNat + 1) % 4294967296 := by
        rw [List.take_succ_eq_append_getElem hj, List.drop_append_of_le_length (by rw [List.length_take]; omega), List.foldl_append]; rfl
      simp only [Int.toNat_natCast]
      generalize ((s.take j).drop (a - 15)).foldl (fun x b => (x * 31 + b.toNat + 1) % 4294967296) 0 = y at hx e
      simp (maxSteps := 2000000) (discharger := omega) only [xz,xc,xo,xr,x0,x1,x2,xd,Reg.isA,Reg.isV,Reg.stays,Reg.onto,↓reduceIte,reduceCtorEq,Nat.reduceEqDiff,Nat.reduceLT,wrap_i64,int_le_t,int_eq_f,q1,tmod_pos]
      refine ⟨((a : Int) + 1 - ((j : Int) + 1)).toNat, by omega, (j : Int) + 1, ?_, rfl, by omega, by omega⟩
      rw [show ((j : Int) + 1).toNat = j + 1 by omega, e]
      congr 3
    · simp (maxSteps := 2000000) (discharger := omega) only [xz,xc,xo,xr,x0,x1,xd,Reg.isA,Reg.isV,Reg.stays,Reg.onto,↓reduceIte,reduceCtorEq,Nat.reduceEqDiff,Nat.reduceLT,wrap_i64,int_le_t,int_le_f]
      refine ⟨((a : Int) + 1 - (i + 1)).toNat, by omega, i + 1, ?_, rfl, by omega, by omega⟩
      rw [show (i + 1).toNat = 0 by omega, show i.toNat = 0 by omega]
  · obtain rfl : i = (a : Int) + 1 := by omega
    simp (maxSteps := 2000000) (discharger := omega) only [xz,xc,xo,xr,x0,x1,xd,Reg.isA,Reg.isV,Reg.stays,Reg.onto,↓reduceIte,reduceCtorEq,Nat.reduceEqDiff,Nat.reduceLT,exists_eq_left',int_le_f]
    rw [show ((a : Int) + 1).toNat = a + 1 by omega]; rfl

def cutSt (l m M : Int) (s : By) : Nat → Nat × List Nat
  | 0 => (0, [])
  | i + 1 => if ((cutSt l m M s i).1 + 1 : Int) = M ∨ ((cutSt l m M s i).1 + 1 : Int) ≥ l ∧ ((sumR s i : Nat) : Int) % m = m - 1 then (0, (cutSt l m M s i).2 ++ [(cutSt l m M s i).1 + 1]) else ((cutSt l m M s i).1 + 1, (cutSt l m M s i).2)
def cutR (l m M : Int) (s : By) : List Nat := if (cutSt l m M s s.length).1 > 0 then (cutSt l m M s s.length).2 ++ [(cutSt l m M s s.length).1] else (cutSt l m M s s.length).2

theorem cutSt_sum (l m M : Int) (s : By) : ∀ i, (cutSt l m M s i).2.sum + (cutSt l m M s i).1 = i ∧ (∀ x ∈ (cutSt l m M s i).2, 1 ≤ x) ∧ (cutSt l m M s i).2.length + (cutSt l m M s i).1 ≤ i
  | 0 => ⟨rfl, by simp [cutSt], Nat.le_refl _⟩
  | i + 1 => by
    obtain ⟨h1, h2, h3⟩ := cutSt_sum l m M s i
    unfold cutSt
    split
    · refine ⟨by simp; omega, fun x hx => ?_, by simp; omega⟩
      rcases List.mem_append.1 hx with hx | hx
      · exact h2 x hx
      · rw [List.mem_singleton] at hx; omega
    · exact ⟨by simp only; omega, h2, by simp only; omega⟩
theorem cutR_sum (l m M : Int) (s : By) : (cutR l m M s).sum = s.length ∧ (∀ x ∈ cutR l m M s, 1 ≤ x) ∧ (cutR l m M s).length ≤ s.length := by
  obtain ⟨h1, h2, h3⟩ := cutSt_sum l m M s s.length
  unfold cutR
  split
  · rename_i hp
    refine ⟨by simp; omega, fun x hx => ?_, by simp; omega⟩
    rcases List.mem_append.1 hx with hx | hx
    · exact h2 x hx
    · rw [List.mem_singleton] at hx; omega
  · exact ⟨by omega, h2, by omega⟩

def nsOf (l : List Nat) : List AV := l.map fun x => .int .i64 (x : Nat)

structure Cf (c : AV) (l m M : Int) : Prop where
  agg : ∃ cs, c = .agg cs ∧ cs.length = 12 ∧ cs[8]? = some (.int .i64 l) ∧ cs[9]? = some (.int .i64 m) ∧ cs[10]? = some (.int .i64 M)

def Below (lo : Nat) (h h' : Hp) : Prop := h.length ≤ h'.length ∧ ∀ i, i < lo → h'[i]? = h[i]?
theorem Below.refl (lo : Nat) (h : Hp) : Below lo h h := ⟨Nat.le_refl _, fun _ _ => rfl⟩
theorem Below.trans {lo : Nat} {a b c : Hp} (x : Below lo a b) (y : Below lo b c) : Below lo a c := ⟨Nat.le_trans x.1 y.1, fun i hi => (y.2 i hi).trans (x.2 i hi)⟩
theorem Below.low {lo lo' : Nat} {a b : Hp} (x : Below lo a b) (hl : lo' ≤ lo) : Below lo' a b := ⟨x.1, fun i hi => x.2 i (by omega)⟩
theorem Below.app (lo : Nat) (h m : Hp) (hl : lo ≤ h.length) : Below lo h (h ++ m) := ⟨by simp, fun i hi => List.getElem?_append_left (by omega)⟩

def LateApp (lo sz : Nat) (es : List AV) (h : Hp) (v : AV) : Prop := IsApp sz es h v ∧ ∀ id c, v = .imm sz es (.tok id c) → lo ≤ id
theorem late_app {lo sz bytes : Nat} {es xs : List AV} {h : Hp} {v : AV} (hv : LateApp lo sz es h v) (hlo : lo ≤ h.length) (hx : xs ≠ []) (hb : (es.length + xs.length) * bytes ≤ 140737488355328) :
    ∃ v' h', appendV false sz bytes v xs h = some (v', h') ∧ LateApp lo sz (es ++ xs) h' v' ∧ Below lo h h' := by
  obtain ⟨v', h', w1, w2, w3, w4, w5, c, w6⟩ := app_ok (bytes := bytes) hv.1 hx hb
  refine ⟨v', h', w1, ⟨w2, fun id c' e => ?_⟩, w4, fun i hi => ?_⟩
  · rw [w6] at e; cases e; exact hlo
  · have hlt : i < h.length := by omega
    have e : h[i]? = some h[i] := List.getElem?_eq_getElem hlt
    by_cases ht : ∃ c, v = .imm sz es (.tok i c)
    · obtain ⟨c', hc⟩ := ht
      have := hv.2 i c' hc
      omega
    · rw [e]; exact w5 i _ e fun c' hc => ht ⟨c', hc⟩
theorem late_nils (lo sz : Nat) (h : Hp) : LateApp lo sz [] h .nils := ⟨.nils _ _, fun _ _ e => by cases e⟩
theorem LateApp.keep {lo sz : Nat} {es : List AV} {h h' : Hp} {v : AV} (hv : LateApp lo sz es h v) (hk : ∀ (i : Nat) (o : AO), h[i]? = some o → h'[i]? = some o) : LateApp lo sz es h' v := by
  refine ⟨?_, hv.2⟩
  rcases hv.1 with h | h | ⟨id, h, e⟩
  · exact .inl h
  · exact .inr (.inl h)
  · exact .inr (.inr ⟨id, h, hk _ _ e⟩)
theorem c52 (c : AV) (l m M : Int) (s : By) (hc : Cf c l m M) (hm : 1 ≤ m) (hm2 : m ≤ 1000000000) (hs : s.length ≤ 1000000000) (hn : s.length + 30 < n) :
    ∃ v h', call F n tot ω 52 [c, .str s] h = some (v, h') ∧ IsRd 1 (nsOf (cutR l m M s)) v ∧ Below h.length h h' := by
  obtain ⟨n, rfl⟩ : ∃ m, n = m + 1 := ⟨n - 1, by omega⟩
  refine call_of (fn := a52) f52 (P := fun v h' => IsRd 1 (nsOf (cutR l m M s)) v ∧ Below h.length h h') ?_
  obtain ⟨cs, rfl, hl, h8, h9, h10⟩ := hc.agg
  unfold a52
  simp (maxSteps := 2000000) (discharger := omega) only [xz,xc,xo,xr,x0,xd,Reg.isA,Reg.isV,Reg.stays,Reg.onto,↓reduceIte,reduceCtorEq,Nat.reduceEqDiff,Nat.reduceLT,Nat.reduceAdd,hl]
  refine wpi_loop (fun x r g' => ∃ (i : Nat) (lv : AV), r = [(1, .val (.str s)), (2, .var (.agg cs)), (5, .val lv), (6, .val (.int .i64 ((cutSt l m M s i).1 : Nat))), (7, .val (.int .i64 i))] ∧ x = s.length - i ∧ i ≤ s.length ∧ LateApp h.length 1 (nsOf (cutSt l m M s i).2) g' lv ∧ Below h.length h g') s.length (by omega)
    ⟨0, .nils, rfl, rfl, Nat.zero_le _, late_nils _ _ _, .refl _ _⟩ ?_
  rintro x r g' ⟨i, lv, rfl, rfl, hi, hA, hB⟩
  obtain ⟨b1, b2, b3⟩ := cutSt_sum l m M s i
  by_cases hlt : i < s.length
  · have k82 := fun h => c82 (n := n) (tot := tot) (ω := ω) (h := h) s i hlt hs (by omega)
    have hsr := sumR_lt s i
    have hst : cutSt l m M s (i + 1) = if ((cutSt l m M s i).1 + 1 : Int) = M ∨ ((cutSt l m M s i).1 + 1 : Int) ≥ l ∧ ((sumR s i : Nat) : Int) % m = m - 1 then (0, (cutSt l m M s i).2 ++ [(cutSt l m M s i).1 + 1]) else ((cutSt l m M s i).1 + 1, (cutSt l m M s i).2) := rfl
    obtain ⟨lv', h2, w1, w2, w3⟩ := late_app (bytes := 8) (xs := [.int .i64 (((cutSt l m M s i).1 : Nat) + 1 : Int)]) hA hB.1 (by simp) (by simp [nsOf]; omega)
    have w2' : LateApp h.length 1 (nsOf ((cutSt l m M s i).2 ++ [(cutSt l m M s i).1 + 1])) h2 lv' := by
      unfold nsOf at w2 ⊢
      rw [List.map_append]; exact w2
    generalize cutSt l m M s i = st at *
    obtain ⟨nn, out⟩ := st
    simp only at *
    by_cases hM : ((nn : Nat) : Int) + 1 = M
    · rw [if_pos (.inl hM)] at hst
      simp (maxSteps := 2000000) (discharger := omega) only [xz,xc,xo,xr,x0,x1,x3,x4,x5,xd,xb,selems,srcElems,partEs,placeEs,Reg.isA,Reg.isV,Reg.stays,Reg.onto,↓reduceIte,Nat.reduceEqDiff,Nat.reduceLT,Nat.zero_lt_succ,Nat.reduceBEq,List.set_cons_zero,wrap_i64,int_lt_t,int_beq_t,h10,w1,hA.1.isRow,List.replicate]
      exact ⟨s.length - (i + 1), by omega, i + 1, lv', by rw [hst, show ((i : Nat) : Int) + 1 = ((i + 1 : Nat) : Int) by omega]; rfl, rfl, by omega, by rw [hst]; exact w2', hB.trans w3⟩
    · by_cases hge : ((nn : Nat) : Int) + 1 ≥ l
      · by_cases hmd : ((sumR s i : Nat) : Int) % m = m - 1
        · rw [if_pos (.inr ⟨hge, hmd⟩)] at hst
          simp (maxSteps := 2000000) (discharger := omega) only [xz,xc,xo,xr,x0,x1,x3,x4,x5,xd,xb,kont_call,selems,srcElems,partEs,placeEs,Reg.isA,Reg.isV,Reg.stays,Reg.onto,↓reduceIte,Nat.reduceEqDiff,Nat.reduceLT,Nat.zero_lt_succ,beq_self_eq_true,Nat.reduceBEq,List.set_cons_zero,wrap_i64,int_lt_t,int_le_t,int_eq_f,int_beq_t,int_beq_f,h8,h9,h10,k82,tmod_pos,w1,hA.1.isRow,List.replicate]
          exact ⟨s.length - (i + 1), by omega, i + 1, lv', by rw [hst, show ((i : Nat) : Int) + 1 = ((i + 1 : Nat) : Int) by omega]; rfl, rfl, by omega, by rw [hst]; exact w2', hB.trans w3⟩
        · rw [if_neg (by omega)] at hst
          simp (maxSteps := 2000000) (discharger := omega) only [xz,xc,xo,xr,x0,x1,x4,xd,kont_call,Reg.isA,Reg.isV,Reg.stays,Reg.onto,↓reduceIte,Nat.reduceEqDiff,Nat.reduceLT,beq_self_eq_true,Nat.reduceBEq,wrap_i64,int_lt_t,int_le_t,int_eq_f,int_beq_f,h8,h9,h10,k82,tmod_pos]
          exact ⟨s.length - (i + 1), by omega, i + 1, lv, by rw [hst, show ((i : Nat) : Int) + 1 = ((i + 1 : Nat) : Int) by omega]; rfl, rfl, by omega, by rw [hst]; exact hA, hB⟩
      · rw [if_neg (by omega)] at hst
        simp (maxSteps := 2000000) (discharger := omega) only [xz,xc,xo,xr,x0,x1,x4,xd,xb,Reg.isA,Reg.isV,Reg.stays,Reg.onto,↓reduceIte,Nat.reduceEqDiff,Nat.reduceLT,beq_self_eq_true,Nat.reduceBEq,wrap_i64,int_lt_t,int_le_f,int_beq_f,h8,h10]
        exact ⟨s.length - (i + 1), by omega, i + 1, lv, by rw [hst, show ((i : Nat) : Int) + 1 = ((i + 1 : Nat) : Int) by omega]; rfl, rfl, by omega, by rw [hst]; exact hA, hB⟩
  · obtain rfl : i = s.length := by omega
    obtain ⟨lv', h2, w1, w2, w3⟩ := late_app (bytes := 8) (xs := [.int .i64 ((cutSt l m M s s.length).1 : Nat)]) hA hB.1 (by simp) (by simp [nsOf]; omega)
    have w2' : LateApp h.length 1 (nsOf ((cutSt l m M s s.length).2 ++ [(cutSt l m M s s.length).1])) h2 lv' := by
      unfold nsOf at w2 ⊢
      rw [List.map_append]; exact w2
    unfold cutR
    by_cases h0 : (cutSt l m M s s.length).1 > 0
    · rw [if_pos h0]
      simp (maxSteps := 2000000) (discharger := omega) only [xz,xc,xo,xr,x0,x1,x3,x4,x5,xd,xb,selems,srcElems,partEs,placeEs,Reg.isA,Reg.isV,Reg.stays,Reg.onto,↓reduceIte,Nat.reduceEqDiff,Nat.reduceLT,Nat.zero_lt_succ,exists_eq_left',List.set_cons_zero,int_lt_t,int_lt_f,Nat.sub_self,w1,hA.1.isRow,List.replicate]
      exact ⟨isRd_app w2'.1, hB.trans w3⟩
    · rw [if_neg h0]
      simp (maxSteps := 2000000) (discharger := omega) only [xz,xc,xo,xr,x0,x1,x4,xd,Reg.isA,Reg.isV,Reg.stays,Reg.onto,↓reduceIte,Nat.reduceEqDiff,Nat.reduceLT,exists_eq_left',int_lt_f,Nat.sub_self]
      exact ⟨isRd_app hA.1, hB⟩
end
end Go.Proofs.YtpgmohjmpaifbaaDoor.Im

/- S21Cc: chunk's cutter. -/
set_option linter.unusedVariables false
set_option linter.unusedSimpArgs false
open Go Go.Im
namespace Go.Proofs.YtpgmohjmpaifbaaDoor.Im

/-! ### the sum of a window -/
def fv (x : Nat) (b : UInt8) : Nat := x * 31 + b.toNat + 1
theorem fold_mod (l : By) : ∀ x : Nat, l.foldl (fun x b => (x * 31 + b.toNat + 1) % 4294967296) (x % 4294967296) = l.foldl fv x % 4294967296 := by
  induction l with
  | nil => intro x; rfl
  | cons b l ih =>
    intro x
    simp only [List.foldl_cons]
    rw [← ih (fv x b)]
    congr 1
    unfold fv; omega
theorem fold_cons (l : By) : ∀ x : Nat, l.foldl fv x = x * 31 ^ l.length + l.foldl fv 0 := by
  induction l with
  | nil => intro x; simp
  | cons b l ih =>
    intro x
    simp only [List.foldl_cons,List.length_cons]
    rw [ih (fv x b), ih (fv 0 b), Nat.pow_succ]
    unfold fv
    generalize l.foldl (fun x b => x * 31 + b.toNat + 1) 0 = z at *
    generalize 31 ^ l.length = w
    rw [Nat.zero_mul, Nat.zero_add, Nat.add_mul, Nat.add_mul, Nat.add_mul, Nat.mul_assoc x, Nat.mul_comm 31 w]
    omega
def sW (s : By) (i : Nat) : Nat := if i = 0 then 0 else sumR s (i - 1)
def win (s : By) (i : Nat) : By := (s.take i).drop (i - 16)
theorem sW_win (s : By) (i : Nat) : sW s i = (win s i).foldl fv 0 % 4294967296 := by
  unfold sW win
  by_cases h : i = 0
  · subst h; rfl
  · rw [if_neg h]
    unfold sumR
    rw [show i - 1 + 1 = i by omega, show i - 1 - 15 = i - 16 by omega]
    exact fold_mod _ 0
theorem sW_few (s : By) (i : Nat) (hi : i < s.length) (h : i < 16) : sW s (i + 1) = (sW s i * 31 + s[i].toNat + 1) % 4294967296 := by
  have e : win s (i + 1) = win s i ++ [s[i]] := by
    unfold win
    rw [show i + 1 - 16 = 0 by omega, show i - 16 = 0 by omega, List.drop_zero, List.drop_zero, List.take_succ_eq_append_getElem hi]
  rw [sW_win, sW_win, e, List.foldl_append]
  show fv ((win s i).foldl fv 0) s[i] % 4294967296 = _
  unfold fv; omega
theorem sW_more (s : By) (i : Nat) (hi : i < s.length) (h : 16 ≤ i) : ∃ z : Nat, (win s i).foldl fv 0 = (s[i - 16].toNat + 1) * 23465261991844685929951 + z ∧ sW s (i + 1) = (z * 31 + s[i].toNat + 1) % 4294967296 := by
  have e : win s i = s[i - 16] :: (s.take i).drop (i - 16 + 1) := by
    unfold win
    rw [List.drop_eq_getElem_cons (by simp; omega)]
    congr 1
    simp
  have e2 : win s (i + 1) = (s.take i).drop (i - 16 + 1) ++ [s[i]] := by
    unfold win
    rw [List.take_succ_eq_append_getElem hi, show i + 1 - 16 = i - 16 + 1 by omega, List.drop_append_of_le_length (by simp; omega)]
  have hl : ((s.take i).drop (i - 16 + 1)).length = 15 := by simp; omega
  refine ⟨((s.take i).drop (i - 16 + 1)).foldl fv 0, ?_, ?_⟩
  · rw [e, List.foldl_cons, fold_cons, hl]
    unfold fv; omega
  · rw [sW_win, e2, List.foldl_append]
    show fv _ s[i] % 4294967296 = _
    unfold fv; omega
def topZ : Nat := 23465261991844685929951 % 4294967296
theorem sW_step (s : By) (i : Nat) (hi : i < s.length) (h : 16 ≤ i) : IntKind.u32.wrap (IntKind.u32.wrap (IntKind.u32.wrap (IntKind.u32.wrap (((sW s i : Nat) : Int) - IntKind.u32.wrap ((topZ : Nat) * IntKind.u32.wrap (((s[i - 16].toNat : Nat) : Int) + 1))) * 31) + ((s[i].toNat : Nat) : Int)) + 1) = ((sW s (i + 1) : Nat) : Int) := by
  obtain ⟨z, e1, e2⟩ := sW_more s i hi h
  rw [e2, sW_win, e1]
  have := s[i].toNat_lt
  have := s[i - 16].toNat_lt
  unfold topZ
  generalize s[i].toNat = b at *
  generalize s[i - 16].toNat = a at *
  simp only [wrap_u32_mod]
  omega
theorem sW_step0 (s : By) (i : Nat) (hi : i < s.length) (h : i < 16) : IntKind.u32.wrap (IntKind.u32.wrap (IntKind.u32.wrap (((sW s i : Nat) : Int) * 31) + ((s[i].toNat : Nat) : Int)) + 1) = ((sW s (i + 1) : Nat) : Int) := by
  rw [sW_few s i hi h]
  have := s[i].toNat_lt
  simp only [wrap_u32_mod]
  omega

/-! ### tokens: slices that are appended to, side by side -/
def TokAt (sz : Nat) (es : List AV) (h : Hp) (v : AV) (tk : Option Nat) : Prop := IsApp sz es h v ∧ ∀ id c, v = .imm sz es (.tok id c) → tk = some id
theorem tok_nils (sz : Nat) (h : Hp) (tk : Option Nat) : TokAt sz [] h .nils tk := ⟨.nils _ _, fun _ _ e => by cases e⟩
theorem TokAt.keep {sz : Nat} {es : List AV} {h h' : Hp} {v : AV} {tk : Option Nat} (hv : TokAt sz es h v tk) (hk : ∀ (i : Nat) (o : AO), tk = some i → h[i]? = some o → h'[i]? = some o) : TokAt sz es h' v tk := by
  refine ⟨?_, hv.2⟩
  rcases hv.1 with h | h | ⟨id, h, e⟩
  · exact .inl h
  · exact .inr (.inl h)
  · exact .inr (.inr ⟨id, h, hk _ _ (hv.2 _ _ h) e⟩)
theorem tok_app {sz bytes : Nat} {es xs : List AV} {h : Hp} {v : AV} {tk : Option Nat} (hv : TokAt sz es h v tk) (hx : xs ≠ []) (hb : (es.length + xs.length) * bytes ≤ 140737488355328) :
    ∃ v' h', appendV false sz bytes v xs h = some (v', h') ∧ TokAt sz (es ++ xs) h' v' (some h.length) ∧ h.length < h'.length ∧ (∀ (i : Nat) (o : AO), h[i]? = some o → tk ≠ some i → h'[i]? = some o) ∧ ∃ c, v' = .imm sz (es ++ xs) c := by
  obtain ⟨v', h', w1, w2, w3, w4, w5, c, w6⟩ := app_ok (bytes := bytes) hv.1 hx hb
  refine ⟨v', h', w1, ⟨w2, fun id c' e => ?_⟩, ?_, fun i o ho hne => w5 i o ho fun c' hc => hne (hv.2 _ _ hc), _, w6⟩
  · rw [w6] at e; cases e; rfl
  · rcases w2 with ⟨e, _⟩ | e | ⟨id, e, he⟩
    · rw [w6] at e; cases e
    · rw [w6] at e; cases e
    · rw [w6] at e; cases e
      exact (List.getElem?_eq_some_iff.1 he).1

/-! ### pieces -/
def PE : List By → List AV → Prop
  | [], [] => True
  | p :: ps, v :: vs => (∃ c, v = .imm 1 (bytesOf p) c) ∧ PE ps vs
  | _, _ => False
theorem PE.app : ∀ {ps : List By} {vs : List AV} {p : By} {v : AV}, PE ps vs → (∃ c, v = .imm 1 (bytesOf p) c) → PE (ps ++ [p]) (vs ++ [v])
  | [], [], _, _, _, h => ⟨h, trivial⟩
  | _ :: _, _ :: _, _, _, h, h2 => ⟨h.1, PE.app h.2 h2⟩
  | [], _ :: _, _, _, h, _ => h.elim
  | _ :: _, [], _, _, h, _ => h.elim
theorem PE.len : ∀ {ps : List By} {vs : List AV}, PE ps vs → vs.length = ps.length
  | [], [], _ => rfl
  | _ :: _, _ :: _, h => by simp [PE.len h.2]
  | [], _ :: _, h => h.elim
  | _ :: _, [], h => h.elim
theorem PE.get : ∀ {ps : List By} {vs : List AV} {i : Nat} (hi : i < ps.length), PE ps vs → ∃ c, vs[i]? = some (.imm 1 (bytesOf ps[i]) c)
  | _ :: _, v :: _, 0, _, h => by obtain ⟨c, rfl⟩ := h.1; exact ⟨c, rfl⟩
  | _ :: ps, _ :: _, i + 1, hi, h => by obtain ⟨c, e⟩ := PE.get (i := i) (by simpa using hi) h.2; exact ⟨c, by simpa using e⟩
  | [], [], _, hi, _ => by simp at hi
  | [], _ :: _, _, hi, _ => by simp at hi
  | _ :: _, [], _, _, h => h.elim

def pcs : List Nat → By → List By
  | [], _ => []
  | n :: ns, s => s.take n :: pcs ns (s.drop n)
theorem pcs_snoc : ∀ (l : List Nat) (n : Nat) (s : By), pcs (l ++ [n]) s = pcs l s ++ [(s.take (l.sum + n)).drop l.sum]
  | [], n, s => by simp [pcs]
  | m :: l, n, s => by
    simp only [List.cons_append,pcs,pcs_snoc l n,List.sum_cons,List.cons.injEq,true_and]
    congr 2
    rw [List.take_drop, List.drop_drop]
    congr 2
    omega
theorem pcs_len : ∀ (l : List Nat) (s : By), (pcs l s).length = l.length
  | [], _ => rfl
  | _ :: l, s => by simp [pcs,pcs_len l]

/-! ### the cutter -/
def cutL (cs R : List AV) (at' sum top op : AV) : List AV := cs ++ (R ++ [at', sum, top, op])
def CutV (cs R : List AV) (at' sum top op : AV) : AO := .row 32 [.agg (cutL cs R at' sum top op)]

section
variable {cs R : List AV} {a b c d x : AV}
theorem cl_len (h1 : cs.length = 12) (h2 : R.length = 16) : (cutL cs R a b c d).length = 32 := by simp [cutL,h1,h2]
theorem cl_28 (h1 : cs.length = 12) (h2 : R.length = 16) : (cutL cs R a b c d)[28]? = some a := by
  unfold cutL; rw [List.getElem?_append_right (by omega), List.getElem?_append_right (by omega), h1, h2]; rfl
theorem cl_29 (h1 : cs.length = 12) (h2 : R.length = 16) : (cutL cs R a b c d)[29]? = some b := by
  unfold cutL; rw [List.getElem?_append_right (by omega), List.getElem?_append_right (by omega), h1, h2]; rfl
theorem cl_30 (h1 : cs.length = 12) (h2 : R.length = 16) : (cutL cs R a b c d)[30]? = some c := by
  unfold cutL; rw [List.getElem?_append_right (by omega), List.getElem?_append_right (by omega), h1, h2]; rfl
theorem cl_31 (h1 : cs.length = 12) (h2 : R.length = 16) : (cutL cs R a b c d)[31]? = some d := by
  unfold cutL; rw [List.getElem?_append_right (by omega), List.getElem?_append_right (by omega), h1, h2]; rfl
theorem cl_c {i : Nat} (h1 : cs.length = 12) (hi : i < 12) : (cutL cs R a b c d)[i]? = cs[i]? := by
  unfold cutL; rw [List.getElem?_append_left (by omega)]
theorem cl_r {i : Nat} (h1 : cs.length = 12) (h2 : R.length = 16) (hi : i < 16) : (cutL cs R a b c d)[12 + i]? = R[i]? := by
  unfold cutL; rw [List.getElem?_append_right (by omega), h1, List.getElem?_append_left (by omega)]; congr 1; omega
theorem cl_s28 (h1 : cs.length = 12) (h2 : R.length = 16) : (cutL cs R a b c d).set 28 x = cutL cs R x b c d := by
  unfold cutL; rw [List.set_append_right _ _ (by omega), List.set_append_right _ _ (by omega), h1, h2]; rfl
theorem cl_s29 (h1 : cs.length = 12) (h2 : R.length = 16) : (cutL cs R a b c d).set 29 x = cutL cs R a x c d := by
  unfold cutL; rw [List.set_append_right _ _ (by omega), List.set_append_right _ _ (by omega), h1, h2]; rfl
theorem cl_s30 (h1 : cs.length = 12) (h2 : R.length = 16) : (cutL cs R a b c d).set 30 x = cutL cs R a b x d := by
  unfold cutL; rw [List.set_append_right _ _ (by omega), List.set_append_right _ _ (by omega), h1, h2]; rfl
theorem cl_s31 (h1 : cs.length = 12) (h2 : R.length = 16) : (cutL cs R a b c d).set 31 x = cutL cs R a b c x := by
  unfold cutL; rw [List.set_append_right _ _ (by omega), List.set_append_right _ _ (by omega), h1, h2]; rfl
theorem cl_sr {i : Nat} (h1 : cs.length = 12) (h2 : R.length = 16) (hi : i < 16) : (cutL cs R a b c d).set (12 + i) x = cutL cs (R.set i x) a b c d := by
  unfold cutL
  rw [List.set_append_right _ _ (by omega), h1, show 12 + i - 12 = i by omega, List.set_append_left _ _ (by omega)]
end

structure Ring (s : By) (i : Nat) (R : List Int) : Prop where
  len : R.length = 16
  is : ∀ j (hj : j < s.length), j < i → i ≤ j + 16 → R.getD (j % 16) 0 = (s[j].toNat : Nat)
theorem Ring.next {s : By} {i : Nat} {R : List Int} (r : Ring s i R) (hi : i < s.length) : Ring s (i + 1) (R.set (i % 16) (s[i].toNat : Nat)) := by
  refine ⟨by simp [r.len], fun j hj h1 h2 => ?_⟩
  have hm : i % 16 < 16 := Nat.mod_lt _ (by decide)
  have e : (R.set (i % 16) ((s[i].toNat : Nat) : Int)).getD (j % 16) 0 = if j % 16 = i % 16 then ((s[i].toNat : Nat) : Int) else R.getD (j % 16) 0 := by
    by_cases e : j % 16 = i % 16
    · rw [e]; simp [List.getD,r.len,hm]
    · rw [if_neg e]; simp [List.getD,List.getElem?_set_ne (Ne.symm e)]
  rw [e]
  by_cases hji : j = i
  · subst hji; rw [if_pos rfl]
  · rw [if_neg (by omega)]
    exact r.is j hj (by omega) (by omega)

section
variable {n : Nat} {tot : Bool} {ω : Nat → Nat} {h : Hp}

theorem c114 (cs : List AV) (s : By) (i id : Nat) (R : List Int) (op : AV) (hcs : cs.length = 12) (hR : Ring s i R) (hi : i < s.length) (hs : s.length ≤ 1000000000)
    (hid : h[id]? = some (CutV cs (intsOf .u8 R) (.int .i64 i) (.int .u32 (sW s i : Nat)) (.int .u32 (topZ : Nat)) op)) (hn : 1 < n) :
    call F n tot ω 114 [.ptr id 32 0 0, .int .u8 (s[i].toNat : Nat)] h = some (.tup [], h.set id (CutV cs (intsOf .u8 (R.set (i % 16) (s[i].toNat : Nat))) (.int .i64 (i + 1 : Nat)) (.int .u32 (sW s (i + 1) : Nat)) (.int .u32 (topZ : Nat)) op)) := by
  obtain ⟨n, rfl⟩ : ∃ m, n = m + 1 := ⟨n - 1, by omega⟩
  have hlt := (List.getElem?_eq_some_iff.1 hid).1
  have hRl : (intsOf .u8 R).length = 16 := by simp [intsOf,hR.len]
  refine call_eq (fn := a114) f114 ?_
  unfold a114
  unfold CutV at hid ⊢
  have et : ((i : Nat) : Int).tmod 16 = ((i % 16 : Nat) : Int) := by rw [tmod_pos (by omega)]; omega
  have hm : i % 16 < 16 := Nat.mod_lt _ (by decide)
  have hb := s[i].toNat_lt
  have eb : IntKind.u32.wrap ((s[i].toNat : Nat) : Int) = ((s[i].toNat : Nat) : Int) := wrap_u32 (by omega) (by omega)
  have ri : (intsOf .u8 R)[i % 16]? = some (.int .u8 (R.getD (i % 16) 0)) := by
    have : i % 16 < R.length := by rw [hR.len]; exact hm
    simp [intsOf,this,List.getD]
  have rs : (intsOf .u8 R).set (i % 16) (.int .u8 (s[i].toNat : Nat)) = intsOf .u8 (R.set (i % 16) ((s[i].toNat : Nat) : Int)) := by simp [intsOf,List.map_set]
  have hRl2 : (intsOf .u8 (R.set (i % 16) ((s[i].toNat : Nat) : Int))).length = 16 := by simp [intsOf,hR.len]
  have h12 : (12 + i % 16 < 32) = True := eq_true (by omega)
  by_cases h16 : 16 ≤ i
  · have e0 : R.getD (i % 16) 0 = ((s[i - 16].toNat : Nat) : Int) := by
      have := hR.is (i - 16) (by omega) (by omega) (by omega)
      rw [← this]; congr 1; omega
    rw [e0] at ri
    have hb2 := s[i - 16].toNat_lt
    have eb2 : IntKind.u32.wrap ((s[i - 16].toNat : Nat) : Int) = ((s[i - 16].toNat : Nat) : Int) := wrap_u32 (by omega) (by omega)
    have ew := sW_step s i hi h16
    simp (maxSteps := 2000000) (discharger := omega) only [xz,xc,xo,xr,x0,x1,x2,x3,x5,xd,wr,Reg.isA,Reg.isV,Reg.stays,Reg.onto,↓reduceIte,reduceCtorEq,Nat.reduceEqDiff,Nat.reduceLT,Nat.reduceAdd,Int.cast_ofNat_Int,exists_eq_left',xu,List.set_cons_zero,wrap_i64,int_lt_t,int_le_t,int_eq_f,hid,cl_28,cl_29,cl_30,cl_r,cl_len,cl_s28,cl_s29,cl_sr,et,ri,rs,Nat.mul_one,eb,eb2,ew,h12,get_set_self,List.set_set,Int.natCast_add]
  · have ew := sW_step0 s i hi (by omega)
    simp (maxSteps := 2000000) (discharger := omega) only [xz,xc,xo,xr,x0,x1,x2,x3,x5,xd,wr,Reg.isA,Reg.isV,Reg.stays,Reg.onto,↓reduceIte,reduceCtorEq,Nat.reduceEqDiff,Nat.reduceLT,Nat.reduceAdd,Int.cast_ofNat_Int,exists_eq_left',xu,List.set_cons_zero,wrap_i64,int_lt_t,int_le_t,int_le_f,int_eq_f,hid,cl_28,cl_29,cl_len,cl_s28,cl_s29,cl_sr,et,rs,Nat.mul_one,eb,ew,h12,get_set_self,List.set_set,Int.natCast_add]

def okConf (l m M : Int) : Prop := 1 ≤ l ∧ 1 ≤ m ∧ m ≤ 65536 ∧ l ≤ M ∧ M ≤ 4096
instance (l m M : Int) : Decidable (okConf l m M) := by unfold okConf; infer_instance

theorem c47y (c : AV) (l m M : Int) (hc : Cf c l m M) (hok : okConf l m M) (hn : 0 < n) : call F n tot ω 47 [c] h = some (.int .i64 0, h) := by
  obtain ⟨n, rfl⟩ : ∃ m, n = m + 1 := ⟨n - 1, by omega⟩
  obtain ⟨cs, rfl, hl, h8, h9, h10⟩ := hc.agg
  obtain ⟨k1, k2, k3, k4, k5⟩ := hok
  refine call_eq (fn := a47) f47 ?_
  unfold a47
  simp (maxSteps := 2000000) (discharger := omega) only [xz,xc,xo,xr,x0,x1,xd,Reg.isA,Reg.isV,Reg.stays,Reg.onto,↓reduceIte,reduceCtorEq,Nat.reduceEqDiff,Nat.reduceLT,beq_self_eq_true,exists_eq_left',Nat.reduceBEq,int_lt_f,hl,h8,h9,h10]
def topP (k : Nat) : Int := ((31 ^ k % 4294967296 : Nat) : Int)
theorem topP_step (k : Nat) : IntKind.u32.wrap (topP k * 31) = topP (k + 1) := by
  unfold topP; rw [wrap_u32_mod, Nat.pow_succ]; omega

def z16 : List AV := intsOf .u8 (List.replicate 16 0)
theorem c105 (cs : List AV) (l m M : Int) (hl : cs.length = 12) (h8 : cs[8]? = some (.int .i64 l)) (h9 : cs[9]? = some (.int .i64 m)) (h10 : cs[10]? = some (.int .i64 M)) (hok : okConf l m M) (hn : 30 < n) :
    call F n tot ω 105 [.agg cs] h = some (.tup [.ptr h.length 32 0 0, .int .i64 0], h ++ [CutV cs z16 (.int .i64 0) (.int .u32 0) (.int .u32 (topZ : Nat)) .nils]) := by
  obtain ⟨n, rfl⟩ : ∃ m, n = m + 1 := ⟨n - 1, by omega⟩
  refine call_eq (fn := a105) f105 ?_
  have k47 := fun h => c47y (n := n) (tot := tot) (ω := ω) (h := h) (.agg cs) l m M ⟨cs, rfl, hl, h8, h9, h10⟩ hok (by omega)
  have t12 : List.take 12 cs = cs := List.take_of_length_le (by omega)
  have lit1 : cs ++ ([AV.int .u8 0, AV.int .u8 0, AV.int .u8 0, AV.int .u8 0, AV.int .u8 0, AV.int .u8 0, AV.int .u8 0, AV.int .u8 0, AV.int .u8 0, AV.int .u8 0, AV.int .u8 0, AV.int .u8 0, AV.int .u8 0, AV.int .u8 0, AV.int .u8 0, AV.int .u8 0, .int .i64 0, .int .u32 0, .int .u32 0, .nils] : List AV) = cutL cs z16 (.int .i64 0) (.int .u32 0) (.int .u32 0) .nils := rfl
  unfold a105
  have hz16 : z16.length = 16 := rfl
  have hcl : ∀ {a b c d : AV}, (cutL cs z16 a b c d).length = 32 := cl_len hl rfl
  have lit2 : List.take 30 (cutL cs z16 (.int .i64 0) (.int .u32 0) (.int .u32 0) .nils) ++ AV.int .u32 1 :: List.drop 31 (cutL cs z16 (.int .i64 0) (.int .u32 0) (.int .u32 0) .nils) = cutL cs z16 (.int .i64 0) (.int .u32 0) (.int .u32 1) .nils := by
    rw [← cl_s30 (x := .int .u32 1) (c := .int .u32 0) hl rfl, List.set_eq_take_append_cons_drop, if_pos (by rw [hcl]; decide)]
  have tk : ∀ {a b c d : AV}, List.take 32 (cutL cs z16 a b c d) = cutL cs z16 a b c d := List.take_of_length_le (by rw [hcl]; exact Nat.le_refl _)
  simp (maxSteps := 2000000) (discharger := omega) only [xz,xc,xo,xr,x0,x1,x3,x5,xd,kont_call,place,partVals,Reg.isA,Reg.isV,Reg.stays,Reg.onto,↓reduceIte,reduceCtorEq,Nat.reduceEqDiff,Nat.reduceLT,Nat.reduceAdd,int_bne_f,nat_le_t,k47,hl,t12,lit1,hcl,lit2]
  refine wpi_loop (fun x r g => ∃ k : Nat, r = [(5, .val (.ptr h.length 32 0 0)), (14, .val (.int .i64 k))] ∧ x = 15 - k ∧ k ≤ 15 ∧ g = h ++ [CutV cs z16 (.int .i64 0) (.int .u32 0) (.int .u32 (topP k)) .nils]) 15 (by omega)
    ⟨0, rfl, rfl, by omega, rfl⟩ ?_
  rintro x r g ⟨k, rfl, rfl, hk, rfl⟩
  unfold CutV
  by_cases hlt : k < 15
  · simp (maxSteps := 2000000) (discharger := omega) only [xz,xc,xo,xr,x0,x1,x3,x5,xd,wr,Reg.isA,Reg.isV,Reg.stays,Reg.onto,↓reduceIte,Nat.reduceEqDiff,Nat.reduceLT,xu,List.set_cons_zero,wrap_i64,int_lt_t,hg0,hs0,cl_30,cl_s30,hcl,topP_step]
    exact ⟨15 - (k + 1), by omega, k + 1, by rw [show ((k : Nat) : Int) + 1 = ((k + 1 : Nat) : Int) by omega], rfl, by omega, rfl⟩
  · obtain rfl : k = 15 := by omega
    simp (maxSteps := 2000000) (discharger := omega) only [xz,xc,xo,xr,x0,x1,xd,Reg.isA,Reg.isV,Reg.stays,Reg.onto,↓reduceIte,Nat.reduceEqDiff,Nat.reduceLT,Int.cast_ofNat_Int,exists_eq_left',int_lt_f,Nat.sub_self]
    rfl

def opn (l m M : Int) (s : By) (i : Nat) : By := (s.take i).drop (cutSt l m M s i).2.sum
theorem opn_len (l m M : Int) (s : By) (i : Nat) (hi : i ≤ s.length) : (opn l m M s i).length = (cutSt l m M s i).1 := by
  have := (cutSt_sum l m M s i).1
  unfold opn; simp; omega

theorem opn_snoc (l m M : Int) (s : By) (i : Nat) (hi : i < s.length) : (s.take (i + 1)).drop (cutSt l m M s i).2.sum = opn l m M s i ++ [s[i]] := by
  have := (cutSt_sum l m M s i).1
  unfold opn
  rw [List.take_succ_eq_append_getElem hi, List.drop_append_of_le_length (by simp; omega)]

structure AddI (cs : List AV) (l m M : Int) (s : By) (id i : Nat) (h0 g : Hp) (ov : AV) : Prop where
  st : ∃ R kv, Ring s i R ∧ g[id]? = some (CutV cs (intsOf .u8 R) (.int .i64 i) (.int .u32 (sW s i : Nat)) (.int .u32 (topZ : Nat)) kv) ∧
    ∃ es tk to, PE (pcs (cutSt l m M s i).2 s) es ∧ TokAt 1 (bytesOf (opn l m M s i)) g kv tk ∧ TokAt 1 es g ov to ∧ (∀ x, tk = some x → id < x ∧ x < g.length) ∧ (∀ x, to = some x → id < x ∧ x < g.length) ∧ ∀ x, tk = some x → to ≠ some x
  low : h0.length ≤ g.length
  bel : ∀ j, j < id → g[j]? = h0[j]?

set_option maxRecDepth 100000 in
theorem c106 (cs : List AV) (l m M : Int) (s : By) (dv : AV) (id : Nat) (hl : cs.length = 12) (h8 : cs[8]? = some (.int .i64 l)) (h9 : cs[9]? = some (.int .i64 m)) (h10 : cs[10]? = some (.int .i64 M)) (hok : okConf l m M)
    (hdv : IsRd 1 (bytesOf s) dv) (hs : s.length ≤ 1000000)
    (hid : h[id]? = some (CutV cs z16 (.int .i64 0) (.int .u32 0) (.int .u32 (topZ : Nat)) .nils)) (hn : s.length + 30 < n) :
    ∃ ov h', call F n tot ω 106 [.ptr id 32 0 0, dv] h = some (ov, h') ∧ AddI cs l m M s id s.length h h' ov := by
  obtain ⟨n, rfl⟩ : ∃ m, n = m + 1 := ⟨n - 1, by omega⟩
  refine call_of (fn := a106) f106 (P := fun ov h' => AddI cs l m M s id s.length h h' ov) ?_
  obtain ⟨k1, k2, k3, k4, k5⟩ := hok
  have hlen := IsRd.len hdv
  rw [bytesOf_len] at hlen
  unfold a106
  simp (maxSteps := 2000000) (discharger := omega) only [xz,xc,xo,xr,x0,x2,x4,isNil,Bool.bne_false,Reg.isA,Reg.isV,Reg.stays,Reg.onto,↓reduceIte,reduceCtorEq,Nat.reduceEqDiff,Nat.reduceLT,Nat.reduceAdd,hlen]
  refine wpi_loop (fun x r g => ∃ (i : Nat) (ov : AV), r = [(0, .val (.ptr id 32 0 0)), (5, .val ov), (11, .val dv), (12, .val (.int .i64 s.length)), (13, .val (.int .i64 i))] ∧ x = s.length - i ∧ i ≤ s.length ∧ AddI cs l m M s id i h g ov) s.length (by omega)
    ⟨0, .nils, rfl, rfl, Nat.zero_le _, ⟨List.replicate 16 0, .nils, ⟨rfl, fun j hj h1 => by omega⟩, hid, [], none, none, trivial, tok_nils _ _ _, tok_nils _ _ _, by simp, by simp, by simp⟩, Nat.le_refl _, fun _ _ => rfl⟩ ?_
  rintro x r g ⟨i, ov, rfl, rfl, hi, ⟨R, kv, hR, hc, es, tk, to, p1, p2, p3, p4, p5, p6⟩, hlow, hbel⟩
  by_cases hlt : i < s.length
  · obtain ⟨cp, rfl⟩ := hdv.imm (i := i) (by rw [bytesOf_len]; exact hlt)
    have qb := bytesOf_get hlt
    have k114 := c114 (n := n) (tot := tot) (ω := ω) (h := g) cs s i id R kv hl hR hlt (by omega) hc (by omega)
    have hidl := (List.getElem?_eq_some_iff.1 hc).1
    have hR' := hR.next hlt
    generalize R.set (i % 16) ((s[i].toNat : Nat) : Int) = R' at *
    have hRl : (intsOf .u8 R').length = 16 := by simp [intsOf,hR'.len]
    have hsW : sW s (i + 1) = sumR s i := by unfold sW; rw [if_neg (by omega), show i + 1 - 1 = i by omega]
    have hsr := sumR_lt s i
    rw [hsW] at k114
    generalize hg1 : g.set id (CutV cs (intsOf .u8 R') (.int .i64 (i + 1 : Nat)) (.int .u32 (sumR s i : Nat)) (.int .u32 (topZ : Nat)) kv) = g1 at *
    have n1 : g1.length = g.length := by rw [← hg1]; simp
    have n2 : ∀ j, j ≠ id → g1[j]? = g[j]? := fun j hj => by rw [← hg1, List.getElem?_set_ne (Ne.symm hj)]
    have n3 : g1[id]? = some (CutV cs (intsOf .u8 R') (.int .i64 (i + 1 : Nat)) (.int .u32 (sumR s i : Nat)) (.int .u32 (topZ : Nat)) kv) := by rw [← hg1]; exact get_set_self hidl
    have p2' : TokAt 1 (bytesOf (opn l m M s i)) g1 kv tk := p2.keep fun j o hj ho => by
      have := p4 j hj
      rw [n2 _ (by omega)]; exact ho
    have p3' : TokAt 1 es g1 ov to := p3.keep fun j o hj ho => by
      have := p5 j hj
      rw [n2 _ (by omega)]; exact ho
    have hol := opn_len l m M s i hi
    obtain ⟨b1, b2, b3⟩ := cutSt_sum l m M s i
    obtain ⟨kv', g2, w1, w2, w3, w4, cw, w5⟩ := tok_app (bytes := 1) (xs := [.int .u8 (s[i].toNat : Nat)]) p2' (by simp) (by rw [bytesOf_len, hol]; simp; omega)
    have hg2 : g2[id]? = some (CutV cs (intsOf .u8 R') (.int .i64 (i + 1 : Nat)) (.int .u32 (sumR s i : Nat)) (.int .u32 (topZ : Nat)) kv) := w4 id _ n3 (fun e => by have := p4 _ e; omega)
    have hg2l := (List.getElem?_eq_some_iff.1 hg2).1
    have p3'' : TokAt 1 es g2 ov to := p3'.keep fun j o hj ho => w4 j o ho fun e => p6 j e hj
    have hsn := opn_snoc l m M s i hlt
    have hbo : bytesOf (opn l m M s i) ++ [AV.int .u8 (s[i].toNat : Nat)] = bytesOf (opn l m M s i ++ [s[i]]) := by simp [bytesOf]
    rw [hbo] at w2 w5
    have hln : (bytesOf (opn l m M s i ++ [s[i]])).length = (cutSt l m M s i).1 + 1 := by rw [bytesOf_len, List.length_append, hol]; rfl
    generalize hg3 : g2.set id (CutV cs (intsOf .u8 R') (.int .i64 (i + 1 : Nat)) (.int .u32 (sumR s i : Nat)) (.int .u32 (topZ : Nat)) kv') = g3
    have m1 : g3.length = g2.length := by rw [← hg3]; simp
    have m2 : ∀ j, j ≠ id → g3[j]? = g2[j]? := fun j hj => by rw [← hg3, List.getElem?_set_ne (Ne.symm hj)]
    have m3 : g3[id]? = some (CutV cs (intsOf .u8 R') (.int .i64 (i + 1 : Nat)) (.int .u32 (sumR s i : Nat)) (.int .u32 (topZ : Nat)) kv') := by rw [← hg3]; exact get_set_self hg2l
    have hg3l := (List.getElem?_eq_some_iff.1 m3).1
    have q2 : TokAt 1 (bytesOf (opn l m M s i ++ [s[i]])) g3 kv' (some g.length) := by
      rw [n1] at w2
      exact w2.keep fun j o hj ho => by cases hj; rw [m2 _ (by omega)]; exact ho
    have q3 : TokAt 1 es g3 ov to := p3''.keep fun j o hj ho => by
      have := p5 j hj
      rw [m2 _ (by omega)]; exact ho
    have hlow3 : h.length ≤ g3.length := by omega
    have hbel3 : ∀ j, j < id → g3[j]? = h[j]? := fun j hj => by
      have e : h[j]? = g[j]? := (hbel j hj).symm
      have hjl : j < g.length := by omega
      have e2 : g[j]? = some g[j] := List.getElem?_eq_getElem hjl
      rw [m2 _ (by omega), e, e2, w4 j g[j] (by rw [n2 _ (by omega)]; exact e2) (fun ee => by have := p4 _ ee; omega)]
    have wm : IntKind.u32.wrap m = m := wrap_u32 (by omega) (by omega)
    have hst : cutSt l m M s (i + 1) = if ((cutSt l m M s i).1 + 1 : Int) = M ∨ ((cutSt l m M s i).1 + 1 : Int) ≥ l ∧ ((sumR s i : Nat) : Int) % m = m - 1 then (0, (cutSt l m M s i).2 ++ [(cutSt l m M s i).1 + 1]) else ((cutSt l m M s i).1 + 1, (cutSt l m M s i).2) := rfl
    have hpl := pcs_len (cutSt l m M s i).2 s
    have hel := p1.len
    obtain ⟨ov', g4, y1, y2, y3, y4, cy, y5⟩ := tok_app (bytes := 24) (xs := [.imm 1 (bytesOf (opn l m M s i ++ [s[i]])) cw]) q3 (by simp) (by simp; omega)
    have m4 : g4[id]? = some (CutV cs (intsOf .u8 R') (.int .i64 (i + 1 : Nat)) (.int .u32 (sumR s i : Nat)) (.int .u32 (topZ : Nat)) kv') := y4 id _ m3 (fun e => by have := p5 _ e; omega)
    have hg4l := (List.getElem?_eq_some_iff.1 m4).1
    have fin1 : (cutSt l m M s (i + 1) = (0, (cutSt l m M s i).2 ++ [(cutSt l m M s i).1 + 1])) → AddI cs l m M s id (i + 1) h (g4.set id (CutV cs (intsOf .u8 R') (.int .i64 (i + 1 : Nat)) (.int .u32 (sumR s i : Nat)) (.int .u32 (topZ : Nat)) .nils)) ov' := fun e => by
      refine ⟨⟨R', .nils, hR', ?_, es ++ [.imm 1 (bytesOf (opn l m M s i ++ [s[i]])) cw], none, some g3.length, ?_, ?_, ?_, by simp, fun x hx => ?_, by simp⟩, by simp; omega, fun j hj => ?_⟩
      · rw [get_set_self hg4l, hsW]
      · rw [e]
        simp only
        rw [pcs_snoc]
        refine PE.app p1 ⟨cw, ?_⟩
        rw [show (cutSt l m M s i).2.sum + ((cutSt l m M s i).1 + 1) = i + 1 by omega, hsn]
      · have : opn l m M s (i + 1) = [] := by unfold opn; rw [e]; simp; omega
        rw [this]; exact tok_nils _ _ _
      · exact y2.keep fun j o hj ho => by cases hj; rw [List.getElem?_set_ne (by omega)]; exact ho
      · cases hx; exact ⟨by omega, by simp; omega⟩
      · have hjl : j < g3.length := by omega
        have e2 : g3[j]? = some g3[j] := List.getElem?_eq_getElem hjl
        rw [List.getElem?_set_ne (by omega), y4 j g3[j] e2 (fun ee => by have := p5 _ ee; omega), ← e2]
        exact hbel3 j hj
    have fin2 : (cutSt l m M s (i + 1) = ((cutSt l m M s i).1 + 1, (cutSt l m M s i).2)) → AddI cs l m M s id (i + 1) h g3 ov := fun e => by
      refine ⟨⟨R', kv', hR', by rw [hsW]; exact m3, es, some g.length, to, ?_, ?_, q3, fun x hx => ?_, fun x hx => ?_, fun x hx e2 => ?_⟩, hlow3, hbel3⟩
      · rw [e]; exact p1
      · have : opn l m M s (i + 1) = opn l m M s i ++ [s[i]] := by rw [← hsn]; unfold opn; rw [e]
        rw [this]; exact q2
      · cases hx; exact ⟨by omega, by omega⟩
      · have := p5 x hx; exact ⟨this.1, by omega⟩
      · cases hx; have := p5 _ e2; omega
    subst w5
    unfold CutV at n3 hg2 m3 m4 hg3 fin1
    have hmb1 : 0 ≤ ((sumR s i : Nat) : Int) % m := Int.emod_nonneg _ (by omega)
    have hmb2 : ((sumR s i : Nat) : Int) % m < m := Int.emod_lt_of_pos _ (by omega)
    by_cases hM : (((cutSt l m M s i).1 : Nat) : Int) + 1 = M
    · rw [if_pos (.inl hM)] at hst
      simp (maxSteps := 2000000) (discharger := omega) only [xz,xc,xo,xr,x0,x1,x3,x4,x5,xd,xb,kont_call,selems,srcElems,wr,partEs,placeEs,Reg.isA,Reg.isV,Reg.stays,Reg.onto,↓reduceIte,reduceCtorEq,Nat.reduceEqDiff,Nat.reduceLT,Nat.zero_lt_succ,xu,List.set_cons_zero,wrap_i64,int_lt_t,int_le_t,int_beq_t,qb,k114,n3,cl_31,cl_s31,cl_len,cl_c,h10,w1,p2.1.isRow,List.replicate,hg2,hg3,m3,hln,q3.1.isRow,y1,m4]
      exact ⟨s.length - (i + 1), by omega, i + 1, ov', by rw [show ((i : Nat) : Int) + 1 = ((i + 1 : Nat) : Int) by omega], rfl, by omega, fin1 hst⟩
    · by_cases hge : (((cutSt l m M s i).1 : Nat) : Int) + 1 ≥ l
      · by_cases hmd : ((sumR s i : Nat) : Int) % m = m - 1
        · rw [if_pos (.inr ⟨hge, hmd⟩)] at hst
          simp (maxSteps := 2000000) (discharger := omega) only [xz,xc,xo,xr,x0,x1,x2,x3,x4,x5,xd,xb,kont_call,selems,srcElems,wr,partEs,placeEs,Reg.isA,Reg.isV,Reg.stays,Reg.onto,↓reduceIte,reduceCtorEq,Nat.reduceEqDiff,Nat.reduceLT,Nat.zero_lt_succ,beq_self_eq_true,xu,List.set_cons_zero,wrap_i64,int_lt_t,int_le_t,int_eq_f,int_beq_t,int_beq_f,qb,k114,n3,cl_31,cl_s31,cl_29,cl_len,cl_c,h8,h9,h10,w1,p2.1.isRow,List.replicate,hg2,hg3,m3,hln,q3.1.isRow,y1,m4,wm,tmod_pos]
          exact ⟨s.length - (i + 1), by omega, i + 1, ov', by rw [show ((i : Nat) : Int) + 1 = ((i + 1 : Nat) : Int) by omega], rfl, by omega, fin1 hst⟩
        · rw [if_neg (by omega)] at hst
          simp (maxSteps := 2000000) (discharger := omega) only [xz,xc,xo,xr,x0,x1,x2,x3,x4,x5,xd,xb,kont_call,selems,srcElems,wr,partEs,placeEs,Reg.isA,Reg.isV,Reg.stays,Reg.onto,↓reduceIte,reduceCtorEq,Nat.reduceEqDiff,Nat.reduceLT,Nat.zero_lt_succ,beq_self_eq_true,xu,List.set_cons_zero,wrap_i64,int_lt_t,int_le_t,int_eq_f,int_beq_f,qb,k114,n3,cl_31,cl_s31,cl_29,cl_len,cl_c,h8,h9,h10,w1,p2.1.isRow,List.replicate,hg2,hg3,m3,hln,wm,tmod_pos]
          exact ⟨s.length - (i + 1), by omega, i + 1, ov, by rw [show ((i : Nat) : Int) + 1 = ((i + 1 : Nat) : Int) by omega], rfl, by omega, fin2 hst⟩
      · rw [if_neg (by omega)] at hst
        simp (maxSteps := 2000000) (discharger := omega) only [xz,xc,xo,xr,x0,x1,x3,x4,x5,xd,xb,kont_call,selems,srcElems,wr,partEs,placeEs,Reg.isA,Reg.isV,Reg.stays,Reg.onto,↓reduceIte,reduceCtorEq,Nat.reduceEqDiff,Nat.reduceLT,Nat.zero_lt_succ,beq_self_eq_true,xu,List.set_cons_zero,wrap_i64,int_lt_t,int_le_t,int_le_f,int_beq_f,qb,k114,n3,cl_31,cl_s31,cl_len,cl_c,h8,h10,w1,p2.1.isRow,List.replicate,hg2,hg3,m3,hln]
        exact ⟨s.length - (i + 1), by omega, i + 1, ov, by rw [show ((i : Nat) : Int) + 1 = ((i + 1 : Nat) : Int) by omega], rfl, by omega, fin2 hst⟩
  · obtain rfl : i = s.length := by omega
    simp (maxSteps := 2000000) (discharger := omega) only [xz,xc,xo,xr,x0,x1,xd,Reg.isA,Reg.isV,Reg.stays,Reg.onto,↓reduceIte,reduceCtorEq,Nat.reduceEqDiff,Nat.reduceLT,exists_eq_left',int_lt_f,Nat.sub_self]
    exact ⟨⟨R, kv, hR, hc, es, tk, to, p1, p2, p3, p4, p5, p6⟩, hlow, hbel⟩

theorem c107 (cs R : List AV) (id : Nat) (a b c kv : AV) (hl : cs.length = 12) (hR : R.length = 16) (hid : h[id]? = some (CutV cs R a b c kv)) (hn : 0 < n) (hk : kv.one = true) :
    call F n tot ω 107 [.ptr id 32 0 0] h = some (kv, h.set id (CutV cs R (.int .i64 0) (.int .u32 0) c .nils)) := by
  obtain ⟨n, rfl⟩ : ∃ m, n = m + 1 := ⟨n - 1, by omega⟩
  have hidl := (List.getElem?_eq_some_iff.1 hid).1
  refine call_eq (fn := a107) f107 ?_
  unfold a107
  unfold CutV at hid ⊢
  simp (maxSteps := 2000000) (discharger := omega) only [xz,xc,xo,xr,x0,x1,x2,x3,x5,xd,isNil,wr,Bool.bne_false,Reg.isA,Reg.isV,Reg.stays,Reg.onto,↓reduceIte,reduceCtorEq,Nat.reduceEqDiff,Nat.reduceLT,exists_eq_left',xu,List.set_cons_zero,hid,cl_31,cl_s31,cl_s28,cl_s29,cl_len,get_set_self,List.set_set]
end
end Go.Proofs.YtpgmohjmpaifbaaDoor.Im

/- S21Rs: the reference's digest: turns, the padded text. -/
set_option linter.unusedVariables false
set_option linter.unusedSimpArgs false
open Go Go.Im
namespace Go.Proofs.YtpgmohjmpaifbaaDoor.Im

def turnI (x : Int) : Nat → Int
  | 0 => x
  | k + 1 => IntKind.u32.wrap (IntKind.u32.wrap ((turnI x k).tdiv 2) + IntKind.u32.wrap ((turnI x k).tmod 2 * 2147483648))

section
variable {n : Nat} {tot : Bool} {ω : Nat → Nat} {h : Hp}

theorem late_app0 {lo sz bytes : Nat} {es xs : List AV} {h : Hp} {v : AV} (hv : LateApp lo sz es h v) (hlo : lo ≤ h.length) (hb : (es.length + xs.length) * bytes ≤ 140737488355328) :
    ∃ v' h', appendV false sz bytes v xs h = some (v', h') ∧ LateApp lo sz (es ++ xs) h' v' ∧ Below lo h h' := by
  by_cases hx : xs = []
  · subst hx
    exact ⟨v, h, app_nil hv.1, by rw [List.append_nil]; exact hv, .refl _ _⟩
  · exact late_app hv hlo hx hb

def lenB (s : By) : Nat → By
  | 0 => []
  | k + 1 => lenB s k ++ [UInt8.ofNat (s.length * 8 / 256 ^ (7 - k) % 256)]
def padZ (s : By) : Nat := (119 - s.length % 64) % 64
def padR (s : By) : By := s ++ [128] ++ List.replicate (padZ s) 0 ++ lenB s 8

theorem lenB_len (s : By) : ∀ k, (lenB s k).length = k
  | 0 => rfl
  | k + 1 => by simp [lenB,lenB_len s k]
theorem padR_len (s : By) : (padR s).length % 64 = 0 ∧ (padR s).length = s.length + 9 + padZ s := by
  have : (padR s).length = s.length + 9 + padZ s := by simp [padR,lenB_len]; omega
  refine ⟨?_, this⟩
  rw [this]; unfold padZ; omega
theorem padZ_lt (s : By) : padZ s < 64 := Nat.mod_lt _ (by decide)

theorem u8_nat (x : Nat) (hx : x < 256) : (((UInt8.ofNat x).toNat : Nat) : Int) = (x : Int) := by
  have : (UInt8.ofNat x).toNat = x := by rw [UInt8.toNat_ofNat']; exact Nat.mod_eq_of_lt hx
  rw [this]

end
end Go.Proofs.YtpgmohjmpaifbaaDoor.Im

/- S21Ru: the reference's digest. -/
set_option linter.unusedVariables false
set_option linter.unusedSimpArgs false
open Go Go.Im
namespace Go.Proofs.YtpgmohjmpaifbaaDoor.Im

def byt (p : By) (j : Nat) : Int := ((p.getD j 0).toNat : Nat)
def wordR (p : By) (at' i : Nat) : Nat → Int
  | 0 => 0
  | k + 1 => add32 (IntKind.u32.wrap (wordR p at' i k * 256)) (byt p (at' + 4 * i + k))
def div32 (x : Int) (k : Int) : Int := IntKind.u32.wrap (x.tdiv k)
def wRNext (p : By) (at' : Nat) (w : List Int) (i : Nat) : Int :=
  if i < 16 then wordR p at' i 4 else
    add32 (add32 (add32 (w.getD (i - 16) 0) (xor32 (xor32 (turnI (w.getD (i - 15) 0) 7) (turnI (w.getD (i - 15) 0) 18)) (div32 (w.getD (i - 15) 0) 8))) (w.getD (i - 7) 0))
      (xor32 (xor32 (turnI (w.getD (i - 2) 0) 17) (turnI (w.getD (i - 2) 0) 19)) (div32 (w.getD (i - 2) 0) 1024))
def wRList (p : By) (at' : Nat) : Nat → List Int
  | 0 => []
  | i + 1 => wRList p at' i ++ [wRNext p at' (wRList p at' i) i]
def oneR (s : S8) (k x : Int) : Int :=
  add32 (add32 (add32 (add32 s.h (xor32 (xor32 (turnI s.e 6) (turnI s.e 11)) (turnI s.e 25))) (xor32 (and32 s.e s.f) (and32 (IntKind.u32.wrap (4294967295 - s.e)) s.g))) k) x
def twoR (s : S8) : Int :=
  add32 (xor32 (xor32 (turnI s.a 2) (turnI s.a 13)) (turnI s.a 22)) (xor32 (xor32 (and32 s.a s.b) (and32 s.a s.c)) (and32 s.b s.c))
def rndR (s : S8) (k x : Int) : S8 := ⟨add32 (oneR s k x) (twoR s), s.a, s.b, s.c, add32 s.d (oneR s k x), s.e, s.f, s.g⟩
def rndsR (w : List Int) (s : S8) : Nat → S8
  | 0 => s
  | i + 1 => rndR (rndsR w s i) (roundsZ.getD i 0) (w.getD i 0)
def blkR (s : S8) (p : By) (at' : Nat) : S8 := addS s (rndsR (wRList p at' 64) s 64)
def s0 : S8 := ⟨1779033703, 3144134277, 1013904242, 2773480762, 1359893119, 2600822924, 528734635, 1541459225⟩
def blksR (p : By) : Nat → S8
  | 0 => s0
  | m + 1 => blkR (blksR p m) p (64 * m)

theorem io_get' {k : IntKind} {l : List Int} {j : Nat} (hj : j < l.length) : (intsOf k l)[j]? = some (.int k (l.getD j 0)) := by
  simp [intsOf,hj,List.getD]
theorem io_set' (k : IntKind) (l : List Int) (j : Nat) (v : Int) : (intsOf k l).set j (.int k v) = intsOf k (l.set j v) := by simp [intsOf,List.map_set]
theorem io_len' (k : IntKind) (l : List Int) : (intsOf k l).length = l.length := by simp [intsOf]
theorem nat_lt_t' {a b : Nat} (h : a < b) : (a < b) = True := eq_true h
theorem set_getD' (l : List Int) (i j : Nat) (v : Int) (hi : i < l.length) : (l.set i v).getD j 0 = if j = i then v else l.getD j 0 := by
  by_cases e : j = i
  · subst e; simp [List.getD,hi]
  · rw [if_neg e]; simp [List.getD,List.getElem?_set_ne (Ne.symm e)]

section
variable {n : Nat} {tot : Bool} {ω : Nat → Nat} {h : Hp}

def R8 (s : S8) : Regs := [(13, .val (.int .u32 s.a)), (14, .val (.int .u32 s.b)), (15, .val (.int .u32 s.c)), (16, .val (.int .u32 s.d)), (17, .val (.int .u32 s.e)), (18, .val (.int .u32 s.f)), (19, .val (.int .u32 s.g)), (20, .val (.int .u32 s.h))]

def divI (x : Int) : Nat → Int
  | 0 => x
  | k + 1 => div32 (divI x k) 256
def byteI (x : Int) (k : Nat) : Int := IntKind.u8.wrap ((divI x k).tmod 256)
def keyI (L : List Int) : List Int := (List.range 32).map fun t => byteI (L.getD (t / 4) 0) (3 - t % 4)
def Z32R : List Int := List.replicate 32 0

theorem keyI_get (L : List Int) (t : Nat) (ht : t < 32) : (keyI L).getD t 0 = byteI (L.getD (t / 4) 0) (3 - t % 4) := by
  simp [keyI,List.getD,ht]
theorem keyI_len (L : List Int) : (keyI L).length = 32 := by simp [keyI]

end
end Go.Proofs.YtpgmohjmpaifbaaDoor.Im

/- S21Rv: the reference's digest, whole. -/
set_option linter.unusedVariables false
set_option linter.unusedSimpArgs false
open Go Go.Im
namespace Go.Proofs.YtpgmohjmpaifbaaDoor.Im

def shaR (s : By) : List Int := keyI (blksR (padR s) ((padR s).length / 64)).list

section
variable {n : Nat} {tot : Bool} {ω : Nat → Nat} {h : Hp}

end
end Go.Proofs.YtpgmohjmpaifbaaDoor.Im

/- S21Le: parts and leaves: held against one another, found, listed. -/
set_option linter.unusedVariables false
set_option linter.unusedSimpArgs false
open Go Go.Im
namespace Go.Proofs.YtpgmohjmpaifbaaDoor.Im

theorem w_regionA2 {K : Kont} {n : Nat} {r : Regs} {h : Hp} {Q : AE → Regs → Hp → Prop} (o1 o2 : List Nat) (ops : List AOper) (ks : List Nat) :
    Wp K n (.regionA [o1, o2] ops ks) r h Q = Wo K (inOrd ops o1) r h (fun r' h' => Wo K (inOrd ops o2) r h (Is r' h') ∧ Settle ks Q r' h') := by
  apply propext
  constructor
  · rintro ⟨e, r', h', h1, h2⟩
    simp only [exec,execA] at h1
    split at h1
    · rename_i r2 h3 e1
      split at e1
      · rename_i a1 b1 a2 b2 e2 e3
        split at e1
        · rename_i e4
          simp only [Bool.and_eq_true] at e4
          obtain ⟨e5, e6⟩ := e4
          obtain rfl := (eqRegs_iff _ _).1 e5
          obtain rfl := (eqHp_iff _ _).1 e6
          cases e1
          cases h1
          exact ⟨_, _, e2, ⟨_, _, e3, rfl, rfl⟩, h2⟩
        · cases e1
      · cases e1
    · cases h1
  · rintro ⟨r', h', h1, h2, h3⟩
    exact wpi_regionA2 h1 (execs_is h2) h3

structure Pt where
  k : List Int
  n : Int
  deriving DecidableEq
def Pt.cs (x : Pt) : List AV := intsOf .u8 x.k ++ [.int .i64 x.n]
def Pt.av (x : Pt) : AV := .agg x.cs
def Pt.ok (x : Pt) : Prop := x.k.length = 32
structure Lf where
  p : By
  ps : List Pt
  v : AV
def Lf.av (x : Lf) : AV := .agg [.str x.p, x.v]
structure Lf.ok (x : Lf) : Prop where
  rd : IsRd 33 (x.ps.map Pt.av) x.v
  all : ∀ q ∈ x.ps, q.ok

theorem rd_sub {sz : Nat} {es : List AV} {v : AV} (h : IsRd sz es v) (n : Nat) : sub v 0 n false = some v := by
  rcases h with ⟨e, _⟩ | ⟨c, e⟩ <;> rw [e] <;> rfl
theorem rd_nt {sz : Nat} {es : List AV} {v : AV} (h : IsRd sz es v) : v.notTup = true := by
  rcases h with ⟨e, _⟩ | ⟨c, e⟩ <;> rw [e] <;> rfl
theorem rd_cells {sz : Nat} {es : List AV} {v : AV} (h : IsRd sz es v) : v.cells = [v] := by
  rcases h with ⟨e, _⟩ | ⟨c, e⟩ <;> rw [e] <;> rfl
theorem rd_one {sz : Nat} {es : List AV} {v : AV} (h : IsRd sz es v) : v.one = true := by
  rcases h with ⟨e, _⟩ | ⟨c, e⟩ <;> rw [e] <;> rfl
theorem rd_el {sz : Nat} {es : List AV} {v : AV} (h : IsRd sz es v) (g : Hp) : elems g sz v = some es := by
  rcases h with ⟨e, e2⟩ | ⟨c, e⟩
  · rw [e, e2]; rfl
  · rw [e]; simp [elems]

theorem pt_len {x : Pt} (h : x.ok) : x.cs.length = 33 := by simp [Pt.cs,io_len']; exact h
theorem pt_take {x : Pt} (h : x.ok) : List.take 33 x.cs = x.cs := List.take_of_length_le (by rw [pt_len h]; exact Nat.le_refl _)
theorem eqCells_ints : ∀ (a b : List Int) (m n : Int), a.length = b.length → eqCells (List.replicate (a.length + 1) .i) (intsOf .u8 a ++ [.int .i64 m]) (intsOf .u8 b ++ [.int .i64 n]) = some (decide (a = b ∧ m = n))
  | [], [], m, n, _ => by
    by_cases e : m = n <;> simp [intsOf,eqCells,eqS,List.replicate,e]
  | x :: a, y :: b, m, n, h => by
    have ih := eqCells_ints a b m n (by simpa using h)
    simp only [List.length_cons,List.replicate_succ (n := a.length + 1),intsOf,List.map_cons,List.cons_append,eqCells,eqS,if_true] at ih ⊢
    rw [ih]
    by_cases e : x = y <;> simp [e]
  | [], _ :: _, _, _, h => by simp at h
  | _ :: _, [], _, _, h => by simp at h
theorem pt_eq {x y : Pt} {ks : List CK} (hk : ks = List.replicate 33 .i) (hx : x.ok) (hy : y.ok) : eqCells ks x.cs y.cs = some (decide (x = y)) := by
  have := eqCells_ints x.k y.k x.n y.n (by rw [hx, hy])
  rw [hx] at this
  subst hk
  unfold Pt.cs
  rw [this]
  obtain ⟨a, m⟩ := x
  obtain ⟨b, n⟩ := y
  simp

theorem pt_get {ps : List Pt} {i : Nat} (hi : i < ps.length) : (ps.map Pt.av)[i]? = some (.agg ps[i].cs) := by simp [hi,Pt.av]
theorem lf_get {ls : List Lf} {i : Nat} (hi : i < ls.length) : (ls.map Lf.av)[i]? = some (.agg [.str ls[i].p, ls[i].v]) := by simp [hi,Lf.av]
theorem take_eq_next {α : Type} {l m : List α} {i : Nat} (hl : i < l.length) (hm : i < m.length) (h : l.take i = m.take i) (e : l[i] = m[i]) : l.take (i + 1) = m.take (i + 1) := by
  rw [List.take_succ_eq_append_getElem hl, List.take_succ_eq_append_getElem hm, h, e]
theorem lfs_el {ls : List Lf} {a : AV} {i : Nat} (ha : IsRd 2 (ls.map Lf.av) a) (hi : i < ls.length) : ∃ c, a = .imm 2 (ls.map Lf.av) c := ha.imm (i := i) (by simpa using hi)

section
variable {n : Nat} {tot : Bool} {ω : Nat → Nat} {h : Hp}

theorem c24 (ps qs : List Pt) (v w : AV) (hv : IsRd 33 (ps.map Pt.av) v) (hw : IsRd 33 (qs.map Pt.av) w) (hp : ∀ x ∈ ps, x.ok) (hq : ∀ x ∈ qs, x.ok) (hl : ps.length ≤ 9223372036854775807) (hl2 : qs.length ≤ 9223372036854775807) (hn : ps.length + 10 < n) :
    call F n tot ω 24 [v, w] h = some (.bool (decide (ps = qs)), h) := by
  obtain ⟨n, rfl⟩ : ∃ m, n = m + 1 := ⟨n - 1, by omega⟩
  refine call_eq (fn := a24) f24 ?_
  unfold a24
  have l1 := hv.len
  have l2 := hw.len
  rw [List.length_map] at l1 l2
  by_cases hle : ps.length = qs.length
  · simp (maxSteps := 2000000) (discharger := omega) only [xz,xc,xo,xr,x0,x1,x4,xd,Reg.isA,Reg.isV,Reg.stays,Reg.onto,↓reduceIte,reduceCtorEq,Nat.reduceEqDiff,Nat.reduceLT,Nat.reduceAdd,int_bne_f,l1,l2]
    refine wpi_loop (fun x r g => ∃ (i : Nat), r = [(0, .val v), (1, .val w), (5, .val (.int .i64 i))] ∧ x = ps.length - i ∧ i ≤ ps.length ∧ g = h ∧ ps.take i = qs.take i) ps.length (by omega)
      ⟨0, rfl, rfl, Nat.zero_le _, rfl, rfl⟩ ?_
    rintro x r g ⟨i, rfl, rfl, hi, rfl, ht⟩
    by_cases hlt : i < ps.length
    · obtain ⟨cv, rfl⟩ := hv.imm (i := i) (by simpa using hlt)
      obtain ⟨cw, rfl⟩ := hw.imm (i := i) (by simpa [← hle] using hlt)
      have hlt2 : i < qs.length := by omega
      have q1 := pt_get hlt
      have q2 := pt_get hlt2
      have o1 := hp _ (List.getElem_mem hlt)
      have o2 := hq _ (List.getElem_mem hlt2)
      have s1 := pt_len o1
      have s2 := pt_len o2
      have s3 := pt_take o1
      have s4 := pt_take o2
      have e3 := pt_eq (ks := [CK.i, CK.i, CK.i, CK.i, CK.i, CK.i, CK.i, CK.i, CK.i, CK.i, CK.i, CK.i, CK.i, CK.i, CK.i, CK.i, CK.i, CK.i, CK.i, CK.i, CK.i, CK.i, CK.i, CK.i, CK.i, CK.i, CK.i, CK.i, CK.i, CK.i, CK.i, CK.i, CK.i]) rfl o1 o2
      by_cases he : ps[i] = qs[i]
      · have e4 : eqCells [CK.i, CK.i, CK.i, CK.i, CK.i, CK.i, CK.i, CK.i, CK.i, CK.i, CK.i, CK.i, CK.i, CK.i, CK.i, CK.i, CK.i, CK.i, CK.i, CK.i, CK.i, CK.i, CK.i, CK.i, CK.i, CK.i, CK.i, CK.i, CK.i, CK.i, CK.i, CK.i, CK.i] ps[i].cs qs[i].cs = some true := by rw [e3]; simp [he]
        simp (maxSteps := 2000000) (discharger := omega) only [xz,xc,xo,xr,x0,x1,x2,x4,xd,eqAV,Bool.bne_true,Reg.isA,Reg.isV,Reg.stays,Reg.onto,↓reduceIte,reduceCtorEq,Nat.reduceEqDiff,Nat.reduceLT,wrap_i64,int_lt_t,int_le_t,nat_le_t,l1,q1,q2,s1,s2,s3,s4,e4]
        exact ⟨ps.length - (i + 1), by omega, i + 1, by rw [show ((i : Nat) : Int) + 1 = ((i + 1 : Nat) : Int) by omega], rfl, by omega, take_eq_next hlt hlt2 ht he⟩
      · have hne : ¬ ps = qs := fun e => he (by subst e; rfl)
        have e4 : eqCells [CK.i, CK.i, CK.i, CK.i, CK.i, CK.i, CK.i, CK.i, CK.i, CK.i, CK.i, CK.i, CK.i, CK.i, CK.i, CK.i, CK.i, CK.i, CK.i, CK.i, CK.i, CK.i, CK.i, CK.i, CK.i, CK.i, CK.i, CK.i, CK.i, CK.i, CK.i, CK.i, CK.i] ps[i].cs qs[i].cs = some false := by rw [e3]; simp [he]
        simp (maxSteps := 2000000) (discharger := omega) only [xz,xc,xo,xr,x0,x1,x2,x4,xd,eqAV,Bool.bne_true,Reg.isA,Reg.isV,Reg.stays,Reg.onto,↓reduceIte,reduceCtorEq,Nat.reduceEqDiff,Nat.reduceLT,exists_eq_left',int_lt_t,int_le_t,nat_le_t,l1,q1,q2,s1,s2,s3,s4,e4,hne]
    · obtain rfl : i = ps.length := by omega
      have he : ps = qs := by rw [List.take_length, hle, List.take_length] at ht; exact ht
      simp (maxSteps := 2000000) (discharger := omega) only [xz,xc,xo,xr,x0,x1,x4,xd,Reg.isA,Reg.isV,Reg.stays,Reg.onto,↓reduceIte,reduceCtorEq,Nat.reduceEqDiff,Nat.reduceLT,exists_eq_left',int_lt_f,Nat.sub_self,l1]
      simp [he]
  · have hne : ¬ ps = qs := fun e => hle (by rw [e])
    simp (maxSteps := 2000000) (discharger := omega) only [xz,xc,xo,xr,x0,x1,x4,xd,Reg.isA,Reg.isV,Reg.stays,Reg.onto,↓reduceIte,reduceCtorEq,Nat.reduceEqDiff,Nat.reduceLT,Nat.reduceAdd,exists_eq_left',int_bne_t,l1,l2,hne]

theorem c54 (ps : List Pt) (v : AV) (hv : IsRd 33 (ps.map Pt.av) v) (hl : ps.length ≤ 1000000000) (hn : 1 < n) : ∃ v' h', call F n tot ω 54 [v] h = some (v', h') ∧ IsRd 33 (ps.map Pt.av) v' := by
  obtain ⟨n, rfl⟩ : ∃ m, n = m + 1 := ⟨n - 1, by omega⟩
  rcases hv with ⟨rfl, e⟩ | ⟨c, rfl⟩
  · refine ⟨.nils, h, ?_, .inl ⟨rfl, e⟩⟩
    refine call_eq (fn := a54) f54 ?_
    unfold a54
    simp (maxSteps := 2000000) (discharger := omega) only [xz,xc,xo,xr,x0,x2,xd,isNil,Bool.bne_false,Reg.isA,Reg.isV,Reg.stays,Reg.onto,↓reduceIte,reduceCtorEq,Nat.reduceEqDiff,Nat.reduceLT,exists_eq_left']
  · obtain ⟨v', h2, w1, w2, w3⟩ := late_app0 (lo := h.length) (sz := 33) (bytes := 40) (es := []) (xs := ps.map Pt.av) (v := .imm 33 [] .full) (h := h) ⟨.inr (.inl rfl), fun id c e => by cases e⟩ (Nat.le_refl _) (by simp; omega)
    refine ⟨v', h2, ?_, isRd_app w2.1⟩
    refine call_eq (fn := a54) f54 ?_
    unfold a54
    simp (maxSteps := 2000000) (discharger := omega) only [xz,xc,xo,xr,x0,x2,x3,x5,xd,xb,isNil,selems,srcElems,partEs,placeEs,Bool.bne_false,Reg.isA,Reg.isV,Reg.stays,Reg.onto,↓reduceIte,reduceCtorEq,Nat.reduceEqDiff,Nat.reduceLT,exists_eq_left',w1,List.replicate]

def fnd (ls : List Lf) (p : By) : Option Lf := ls.find? fun x => x.p == p
theorem fnd_skip {ls : List Lf} {p : By} {i : Nat} (hi : i < ls.length) (h : fnd ls p = fnd (ls.drop i) p) (he : (ls[i].p == p) = false) : fnd ls p = fnd (ls.drop (i + 1)) p := by
  rw [h, List.drop_eq_getElem_cons hi]; unfold fnd; rw [List.find?_cons_of_neg (by rw [he]; decide)]
theorem fnd_at {ls : List Lf} {p : By} {i : Nat} (hi : i < ls.length) (h : fnd ls p = fnd (ls.drop i) p) (he : (ls[i].p == p) = true) : fnd ls p = some ls[i] := by
  rw [h, List.drop_eq_getElem_cons hi]; unfold fnd; rw [List.find?_cons_of_pos (by show (ls[i].p == p) = true; exact he)]

theorem c28 (ls : List Lf) (a : AV) (p : By) (ha : IsRd 2 (ls.map Lf.av) a) (hok : ∀ x ∈ ls, x.ok) (hps : ∀ x ∈ ls, x.ps.length ≤ 1000000) (hl : ls.length ≤ 1000000) (hn : ls.length + 10 < n) :
    ∃ p' v' b h', call F n tot ω 28 [a, .str p] h = some (.tup [.agg [.str p', v'], .bool b], h') ∧ ((∃ x, fnd ls p = some x ∧ x ∈ ls ∧ b = true ∧ p' = p ∧ IsRd 33 (x.ps.map Pt.av) v') ∨ (fnd ls p = none ∧ b = false ∧ p' = [] ∧ v' = .nils)) := by
  obtain ⟨n, rfl⟩ : ∃ m, n = m + 1 := ⟨n - 1, by omega⟩
  suffices hx : ∃ u h', call F (n + 1) tot ω 28 [a, .str p] h = some (u, h') ∧ ∃ p' v' b, u = .tup [.agg [.str p', v'], .bool b] ∧ ((∃ x, fnd ls p = some x ∧ x ∈ ls ∧ b = true ∧ p' = p ∧ IsRd 33 (x.ps.map Pt.av) v') ∨ (fnd ls p = none ∧ b = false ∧ p' = [] ∧ v' = .nils)) by
    obtain ⟨u, h', e1, p', v', b, rfl, e2⟩ := hx
    exact ⟨p', v', b, h', e1, e2⟩
  refine call_of (fn := a28) f28 (P := fun u h' => ∃ p' v' b, u = .tup [.agg [.str p', v'], .bool b] ∧ ((∃ x, fnd ls p = some x ∧ x ∈ ls ∧ b = true ∧ p' = p ∧ IsRd 33 (x.ps.map Pt.av) v') ∨ (fnd ls p = none ∧ b = false ∧ p' = [] ∧ v' = .nils))) ?_
  unfold a28
  have hlen := ha.len
  rw [List.length_map] at hlen
  simp (maxSteps := 2000000) (discharger := omega) only [xz,xc,xo,xr,x0,x4,Reg.isA,Reg.isV,Reg.stays,Reg.onto,↓reduceIte,reduceCtorEq,Nat.reduceEqDiff,Nat.reduceLT,Nat.reduceAdd,hlen]
  refine wpi_loop (fun x r g => ∃ (i : Nat), r = [(1, .val (.str p)), (4, .var (.agg [.str [], .nils])), (8, .val a), (9, .val (.int .i64 ls.length)), (10, .val (.int .i64 i))] ∧ x = ls.length - i ∧ i ≤ ls.length ∧ fnd ls p = fnd (ls.drop i) p) ls.length (by omega)
    ⟨0, rfl, rfl, Nat.zero_le _, rfl⟩ ?_
  rintro x r g ⟨i, rfl, rfl, hi, hf⟩
  by_cases hlt : i < ls.length
  · obtain ⟨cv, rfl⟩ := lfs_el ha hlt
    have q1 := lf_get hlt
    have o1 := hok _ (List.getElem_mem hlt)
    have t1 := rd_sub o1.rd 1
    have t2 := rd_nt o1.rd
    have t3 := rd_cells o1.rd
    cases he : (ls[i].p == p) with
    | true =>
      have hp' : ls[i].p = p := by simpa using he
      obtain ⟨v', h2, k1, k2⟩ := c54 (n := n) (tot := tot) (ω := ω) (h := g) ls[i].ps ls[i].v o1.rd (by have := hps _ (List.getElem_mem hlt); omega) (by omega)
      have t4 := rd_nt k2
      have t5 := rd_cells k2
      simp (maxSteps := 2000000) (discharger := omega) only [xz,xc,xo,xr,x0,x1,x3,x5,xd,kont_call,wr,place,partVals,Reg.isA,Reg.isV,Reg.stays,Reg.onto,↓reduceIte,Nat.reduceEqDiff,Nat.reduceLT,Nat.reduceAdd,exists_eq_left',Nat.reduceBEq,xu,int_lt_t,int_le_t,nat_le_t,q1,t4,t5,he,k1]
      exact ⟨p, v', true, by rw [hp'], .inl ⟨ls[i], fnd_at hlt hf he, List.getElem_mem hlt, rfl, rfl, k2⟩⟩
    | false =>
      simp (maxSteps := 2000000) (discharger := omega) only [xz,xc,xo,xr,x0,x1,x5,xd,wr,Reg.isA,Reg.isV,Reg.stays,Reg.onto,↓reduceIte,Nat.reduceEqDiff,Nat.reduceLT,Nat.reduceAdd,Nat.reduceBEq,xu,wrap_i64,int_lt_t,int_le_t,nat_le_t,q1,he]
      exact ⟨ls.length - (i + 1), by omega, i + 1, by rw [show ((i : Nat) : Int) + 1 = ((i + 1 : Nat) : Int) by omega], rfl, by omega, fnd_skip hlt hf he⟩
  · obtain rfl : i = ls.length := by omega
    rw [List.drop_length] at hf
    simp (maxSteps := 2000000) (discharger := omega) only [xz,xc,xo,xr,x0,x1,x3,x5,xd,wr,place,partVals,Reg.isA,Reg.isV,Reg.stays,Reg.onto,↓reduceIte,Nat.reduceEqDiff,Nat.reduceLT,Nat.reduceAdd,exists_eq_left',xu,int_lt_f,nat_le_t,Nat.sub_self]
    exact ⟨[], .nils, false, rfl, .inr ⟨hf, rfl, rfl, rfl⟩⟩

end
end Go.Proofs.YtpgmohjmpaifbaaDoor.Im

/- S21Cd: chunk.Parts. -/
set_option linter.unusedVariables false
set_option linter.unusedSimpArgs false
open Go Go.Im
namespace Go.Proofs.YtpgmohjmpaifbaaDoor.Im

theorem pcs_cut (l m M : Int) (s : By) : (0 < (cutSt l m M s s.length).1 → cutR l m M s = (cutSt l m M s s.length).2 ++ [(cutSt l m M s s.length).1] ∧ pcs (cutR l m M s) s = pcs (cutSt l m M s s.length).2 s ++ [opn l m M s s.length]) ∧
    ((cutSt l m M s s.length).1 = 0 → cutR l m M s = (cutSt l m M s s.length).2) := by
  have hs := (cutSt_sum l m M s s.length).1
  refine ⟨fun h => ?_, fun h => ?_⟩
  · have e : cutR l m M s = (cutSt l m M s s.length).2 ++ [(cutSt l m M s s.length).1] := by unfold cutR; rw [if_pos h]
    refine ⟨e, ?_⟩
    rw [e, pcs_snoc, hs]; rfl
  · unfold cutR; rw [if_neg (by omega)]

theorem pcs_pos : ∀ (l : List Nat) (s : By) (i : Nat) (hi : i < (pcs l s).length), l.sum ≤ s.length → (pcs l s)[i].length = l.getD i 0
  | n :: l, s, 0, _, h => by
    simp only [List.sum_cons] at h
    simp [pcs]; omega
  | n :: l, s, i + 1, hi, h => by
    simp only [List.sum_cons] at h
    have := pcs_pos l (s.drop n) i (by simpa [pcs] using hi) (by simp; omega)
    simpa [pcs] using this
  | [], s, i, hi, _ => by simp [pcs] at hi

section
variable {n : Nat} {tot : Bool} {ω : Nat → Nat} {h : Hp}

theorem c79 (cs : List AV) (dv : AV) (hl : cs.length = 12) (hd : dv.one = true) (hn : 0 < n) : call F n tot ω 79 [.agg cs, dv] h = some (.fn (.func 104) [] [.ptr h.length 12 0 0, .ptr (h.length + 1) 1 0 0], h ++ [.row 12 [.agg cs], .row 1 [dv]]) := by
  obtain ⟨n, rfl⟩ : ∃ m, n = m + 1 := ⟨n - 1, by omega⟩
  refine call_eq (fn := a79) f79 ?_
  unfold a79
  have h1 : dv.notTup = true := by cases dv <;> simp_all [AV.one, AV.notTup]
  have h2 : dv.cells = [dv] := by cases dv <;> simp_all [AV.one, AV.cells]
  simp (maxSteps := 2000000) (discharger := omega) only [xz,xc,xo,xr,x0,x3,x5,xd,Reg.isA,Reg.isV,Reg.stays,Reg.onto,↓reduceIte,reduceCtorEq,Nat.reduceEqDiff,Nat.reduceLT,Nat.reduceAdd,exists_eq_left',hl,h1,h2,List.length_append,List.append_assoc]

set_option maxRecDepth 100000 in
theorem c104 (cs : List AV) (l m M : Int) (s : By) (dv : AV) (A B L : Nat) (J : Nat → Hp → Prop) (hl : cs.length = 12) (h8 : cs[8]? = some (.int .i64 l)) (h9 : cs[9]? = some (.int .i64 m)) (h10 : cs[10]? = some (.int .i64 M)) (hok : okConf l m M)
    (hdv : IsRd 1 (bytesOf s) dv) (hs : s.length ≤ 1000000) (hA : h[A]? = some (.row 12 [.agg cs])) (hB : h[B]? = some (.row 1 [dv])) (hn : s.length + 40 < n)
    (hJ0 : ∀ g, Below h.length h g → J 0 g)
    (hJ : ∀ k (hk : k < (pcs (cutR l m M s) s).length) g c, J k g → ∃ g', round F n tot ω L [.int .i64 (((cutR l m M s).take k).sum : Nat), .imm 1 (bytesOf (pcs (cutR l m M s) s)[k]) c] g = some (.bool true, g') ∧ J (k + 1) g') :
    ∃ g', call F (n + 1) tot ω 104 [.yld L, .ptr A 12 0 0, .ptr B 1 0 0] h = some (.tup [], g') ∧ J (cutR l m M s).length g' := by
  suffices hx : ∃ v g', call F (n + 1) tot ω 104 [.yld L, .ptr A 12 0 0, .ptr B 1 0 0] h = some (v, g') ∧ v = .tup [] ∧ J (cutR l m M s).length g' by
    obtain ⟨v, g', e1, rfl, e2⟩ := hx
    exact ⟨g', e1, e2⟩
  refine call_of (fn := a104) f104 (P := fun v g' => v = .tup [] ∧ J (cutR l m M s).length g') ?_
  have t12 : List.take 12 cs = cs := List.take_of_length_le (by omega)
  have k105 := c105 (n := n) (tot := tot) (ω := ω) (h := h) cs l m M hl h8 h9 h10 hok (by omega)
  have hBl := (List.getElem?_eq_some_iff.1 hB).1
  obtain ⟨ov, h2, k106, ⟨R, kv, hR, hc, es, tk, to, p1, p2, p3, p4, p5, p6⟩, hlow, hbel⟩ := c106 (n := n) (tot := tot) (ω := ω) (h := h ++ [CutV cs z16 (.int .i64 0) (.int .u32 0) (.int .u32 (topZ : Nat)) .nils]) cs l m M s dv h.length hl h8 h9 h10 hok hdv hs (by rw [hg0]; rfl) (by omega)
  have hB1 : (h ++ [CutV cs z16 (.int .i64 0) (.int .u32 0) (.int .u32 (topZ : Nat)) .nils])[B]? = some (.row 1 [dv]) := by rw [List.getElem?_append_left hBl]; exact hB
  have hkrd : IsRd 1 (bytesOf (opn l m M s s.length)) kv := isRd_app p2.1
  have hkone := rd_one hkrd
  have hRl : (intsOf .u8 R).length = 16 := by simp [intsOf,hR.len]
  have k107 := c107 (n := n) (tot := tot) (ω := ω) (h := h2) cs (intsOf .u8 R) h.length _ _ _ kv hl hRl hc (by omega) hkone
  have hol := opn_len l m M s s.length (Nat.le_refl _)
  have hpl := pcs_len (cutSt l m M s s.length).2 s
  have hel := p1.len
  obtain ⟨b1, b2, b3⟩ := cutSt_sum l m M s s.length
  generalize hh3 : h2.set h.length (CutV cs (intsOf .u8 R) (.int .i64 0) (.int .u32 0) (.int .u32 (topZ : Nat)) .nils) = h3 at *
  have p3' : TokAt 1 es h3 ov to := p3.keep fun j o hj ho => by
    have := p5 j hj
    rw [← hh3, List.getElem?_set_ne (by omega)]; exact ho
  obtain ⟨ov', h4, y1, y2, y3, y4, cy, rfl⟩ := tok_app (bytes := 24) (xs := [kv]) p3' (by simp) (by simp; omega)
  have hh3l : h3.length = h2.length := by rw [← hh3]; simp
  have hB4 : Below h.length h h4 := by
    refine ⟨by simp at hlow; omega, fun j hj => ?_⟩
    have e1 : h[j]? = some h[j] := List.getElem?_eq_getElem hj
    have e2 : h3[j]? = some h[j] := by
      rw [← hh3, List.getElem?_set_ne (by omega), hbel j hj, List.getElem?_append_left hj]; exact e1
    rw [e1, y4 j _ e2 (fun ee => by have := p5 _ ee; omega)]
  have hkn := rd_nt hkrd
  have hkc := rd_cells hkrd
  have hks := rd_sub hkrd 1
  have hkl := IsRd.len hkrd
  rw [bytesOf_len, hol] at hkl
  have hll : (es ++ [kv]).length = (cutSt l m M s s.length).2.length + 1 := by simp; omega
  obtain ⟨q1, q2⟩ := pcs_cut l m M s
  obtain ⟨r1, r2, r3⟩ := cutR_sum l m M s
  have hcl := pcs_len (cutR l m M s) s
  -- what stands at a place
  have hat : ∀ i (hi : i < (cutR l m M s).length), ∃ c, (es ++ [kv])[i]? = some (.imm 1 (bytesOf ((pcs (cutR l m M s) s)[i]'(by omega))) c) := fun i hi => by
    by_cases h0 : 0 < (cutSt l m M s s.length).1
    · obtain ⟨e1, e2⟩ := q1 h0
      have hne : bytesOf (opn l m M s s.length) ≠ [] := fun e => by
        have := congrArg List.length e
        rw [bytesOf_len, hol] at this
        simp at this; omega
      obtain ⟨c, rfl⟩ := p2.1.imm hne
      have hpe := p1.app (p := opn l m M s s.length) ⟨c, rfl⟩
      rw [← e2] at hpe
      exact hpe.get (by omega)
    · have e1 := q2 (by omega)
      simp only [e1] at hi ⊢
      obtain ⟨c, e⟩ := p1.get (i := i) (by omega)
      exact ⟨c, by rw [List.getElem?_append_left (by omega)]; exact e⟩
  have hK : (cutR l m M s).length = (cutSt l m M s s.length).2.length + (if 0 < (cutSt l m M s s.length).1 then 1 else 0) := by
    by_cases h0 : 0 < (cutSt l m M s s.length).1
    · rw [if_pos h0, (q1 h0).1]; simp
    · rw [if_neg h0, q2 (by omega)]; simp
  have hds := rd_sub hdv 1
  have hsum : ∀ i, ((cutR l m M s).take i).sum ≤ s.length := fun i => by
    rw [← r1]
    conv => rhs; rw [← List.take_append_drop i (cutR l m M s)]
    rw [List.sum_append]; omega
  unfold a104
  simp (maxSteps := 2000000) (discharger := omega) only [xz,xc,xo,xr,x0,x1,x3,x4,x5,xd,xb,kont_call,selems,srcElems,partEs,placeEs,Reg.isA,Reg.isV,Reg.stays,Reg.onto,↓reduceIte,reduceCtorEq,Nat.reduceEqDiff,Nat.reduceLT,Nat.reduceAdd,Nat.zero_lt_succ,List.set_cons_zero,int_bne_f,nat_le_t,hA,hB1,hds,t12,hl,k105,k106,k107,y1,List.replicate,hkn,hkc,p3'.1.isRow,hll]
  refine wpi_loop (fun x r g => ∃ i : Nat, r = [(0, .val (.yld L)), (6, .val (.int .i64 (((cutR l m M s).take i).sum : Nat))), (22, .val (.imm 1 (es ++ [kv]) cy)), (23, .val (.int .i64 ((cutSt l m M s s.length).2.length + 1 : Nat))), (24, .val (.int .i64 i))] ∧ x = (cutSt l m M s s.length).2.length + 1 - i ∧ i ≤ (cutSt l m M s s.length).2.length + 1 ∧ J (min i (cutR l m M s).length) g) ((cutSt l m M s s.length).2.length + 1) (by omega)
    ⟨0, rfl, rfl, by omega, by rw [Nat.zero_min]; exact hJ0 _ hB4⟩ ?_
  rintro x r g ⟨i, rfl, rfl, hi, hJi⟩
  by_cases hlt : i < (cutSt l m M s s.length).2.length + 1
  · by_cases hiK : i < (cutR l m M s).length
    · obtain ⟨c, hci⟩ := hat i hiK
      rw [Nat.min_eq_left (by omega)] at hJi
      obtain ⟨g', k1, k2⟩ := hJ i (by omega) g c hJi
      have hln := pcs_pos (cutR l m M s) s i (by omega) (by omega)
      have hgd : (cutR l m M s).getD i 0 = (cutR l m M s)[i] := by simp [List.getD,hiK]
      have hge : 1 ≤ (cutR l m M s)[i] := r2 _ (List.getElem_mem hiK)
      have hsm : ((cutR l m M s).take (i + 1)).sum = ((cutR l m M s).take i).sum + (cutR l m M s)[i] := by
        rw [List.take_succ_eq_append_getElem hiK, List.sum_append]; simp
      have hb1 := hsum (i + 1)
      rw [hgd] at hln
      generalize (pcs (cutR l m M s) s)[i]'(by omega) = pc at *
      simp (maxSteps := 2000000) (discharger := omega) only [xz,xc,xo,xr,x0,x1,x2,x4,xd,xe,kont_round,Reg.isA,Reg.isV,Reg.stays,Reg.onto,↓reduceIte,reduceCtorEq,Nat.reduceEqDiff,Nat.reduceLT,beq_self_eq_true,wrap_i64,int_lt_t,int_le_t,hci,hln,k1]
      exact ⟨(cutSt l m M s s.length).2.length + 1 - (i + 1), by omega, i + 1, by rw [hsm, show ((i : Nat) : Int) + 1 = ((i + 1 : Nat) : Int) by omega]; simp only [Int.natCast_add], rfl, by omega, by rw [Nat.min_eq_left (by omega)]; exact k2⟩
    · have h0 : ¬ 0 < (cutSt l m M s s.length).1 := fun h0 => by rw [if_pos h0] at hK; omega
      rw [if_neg h0] at hK
      obtain rfl : i = (cutSt l m M s s.length).2.length := by omega
      have hci : (es ++ [kv])[(cutSt l m M s s.length).2.length]? = some kv := by rw [List.getElem?_append_right (by omega), hel, hpl, Nat.sub_self]; rfl
      have hkl0 : lenSl kv = some 0 := by rw [hkl]; congr 1; omega
      rw [Nat.min_eq_right (by omega)] at hJi
      have hb1 := hsum (cutSt l m M s s.length).2.length
      have ht : ∀ j, (cutR l m M s).length ≤ j → ((cutR l m M s).take j).sum = s.length := fun j hj => by rw [List.take_of_length_le hj]; exact r1
      simp (maxSteps := 2000000) (discharger := omega) only [xz,xc,xo,xr,x0,x1,x4,xd,xb,Reg.isA,Reg.isV,Reg.stays,Reg.onto,↓reduceIte,reduceCtorEq,Nat.reduceEqDiff,Nat.reduceLT,Int.cast_ofNat_Int,wrap_i64,int_lt_t,int_lt_f,int_le_t,hci,hks,hkl0]
      exact ⟨0, by omega, (cutSt l m M s s.length).2.length + 1, by rw [Int.add_zero, ht _ (by omega), ht _ (by omega), show (((cutSt l m M s s.length).2.length : Nat) : Int) + 1 = (((cutSt l m M s s.length).2.length + 1 : Nat) : Int) by omega], by omega, by omega, by rw [Nat.min_eq_right (by omega)]; exact hJi⟩
  · obtain rfl : i = (cutSt l m M s s.length).2.length + 1 := by omega
    rw [Nat.min_eq_right (by rw [hK]; split <;> omega)] at hJi
    simp (maxSteps := 2000000) (discharger := omega) only [xz,xc,xo,xr,x1,xd,Reg.isA,Reg.isV,Reg.stays,Reg.onto,↓reduceIte,reduceCtorEq,Nat.reduceEqDiff,Nat.reduceLT,exists_eq_left',int_lt_f,Nat.sub_self]
    exact hJi
end
end Go.Proofs.YtpgmohjmpaifbaaDoor.Im

/- S21Eq: the two digests' steps are the same. -/
set_option linter.unusedVariables false
set_option linter.unusedSimpArgs false
open Go Go.Im
namespace Go.Proofs.YtpgmohjmpaifbaaDoor.Im

theorem wrapN (n : Nat) (h : n < 4294967296) : IntKind.u32.wrap (n : Int) = (n : Int) := by rw [wrap_u32_mod]; omega
theorem wrapN_mod (n : Nat) : IntKind.u32.wrap (n : Int) = ((n % 4294967296 : Nat) : Int) := by rw [wrap_u32_mod]; omega

theorem bvN (a : Nat) (h : a < 4294967296) : (BitVec.ofInt 32 (a : Int)).toNat = a := by
  simp only [BitVec.ofInt_natCast,BitVec.toNat_ofNat]
  exact Nat.mod_eq_of_lt h
theorem or_N (a b : Nat) (ha : a < 4294967296) (hb : b < 4294967296) : bitsI .or .u32 (a : Int) (b : Int) = ((a ||| b : Nat) : Int) := by
  have hl : a ||| b < 4294967296 := Nat.or_lt_two_pow (n := 32) ha hb
  show IntKind.u32.wrap (((BitVec.ofInt 32 (a : Int) ||| BitVec.ofInt 32 (b : Int)).toNat : Nat) : Int) = _
  rw [BitVec.toNat_or, bvN a ha, bvN b hb, wrapN _ hl]
theorem not_N (x : Nat) (hx : x < 4294967296) : not32 (x : Int) = ((4294967295 - x : Nat) : Int) := by
  have hl : 4294967295 - x < 4294967296 := by omega
  show IntKind.u32.wrap (((BitVec.ofInt 32 4294967295 ^^^ BitVec.ofInt 32 (x : Int)).toNat : Nat) : Int) = _
  have e : BitVec.ofInt 32 4294967295 = BitVec.allOnes 32 := by decide
  rw [e, BitVec.allOnes_xor, BitVec.toNat_not, bvN x hx]
  exact wrapN _ hl

def R32 (x : Int) : Prop := 0 ≤ x ∧ x < 4294967296
theorem R32.nat {x : Int} (h : R32 x) : ∃ n : Nat, x = (n : Int) ∧ n < 4294967296 := ⟨x.toNat, by have := h.1; omega, by have := h.1; have := h.2; omega⟩
theorem R32.of (n : Nat) (h : n < 4294967296) : R32 (n : Int) := ⟨by omega, by omega⟩
theorem R32.wrap (x : Int) : R32 (IntKind.u32.wrap x) := by rw [wrap_u32_mod]; exact ⟨by omega, by omega⟩
theorem R32.bits (op : BinOp) (x y : Int) : R32 (bitsI op .u32 x y) := R32.wrap _

theorem not_eq {x : Int} (h : R32 x) : not32 x = IntKind.u32.wrap (4294967295 - x) := by
  obtain ⟨n, rfl, hn⟩ := h.nat
  rw [not_N n hn, show (4294967295 : Int) - (n : Int) = ((4294967295 - n : Nat) : Int) by omega, wrapN _ (by omega)]

theorem turn_N (x : Nat) (hx : x < 4294967296) : ∀ k, k ≤ 32 → turnI (x : Int) k = ((x / 2 ^ k + x % 2 ^ k * 2 ^ (32 - k) : Nat) : Int)
  | 0, _ => by simp [turnI,Nat.mod_one]
  | k + 1, hk => by
    have ih := turn_N x hx k (by omega)
    have hp : (2 : Nat) ^ (32 - k) = 2 * 2 ^ (31 - k) := by rw [show 32 - k = (31 - k) + 1 by omega, Nat.pow_succ, Nat.mul_comm]
    have hq : (2 : Nat) ^ (k + 1) = 2 * 2 ^ k := by rw [Nat.pow_succ, Nat.mul_comm]
    have hm : x % 2 ^ (k + 1) = x % 2 ^ k + 2 ^ k * (x / 2 ^ k % 2) := by rw [Nat.pow_succ, Nat.mod_mul]
    have hd : x / 2 ^ (k + 1) = x / 2 ^ k / 2 := by rw [Nat.pow_succ, Nat.div_div_eq_div_mul]
    have h31 : (2 : Nat) ^ k * 2 ^ (31 - k) = 2147483648 := by rw [← Nat.pow_add, show k + (31 - k) = 31 by omega]
    have hlt : x % 2 ^ k < 2 ^ k := Nat.mod_lt _ (Nat.two_pow_pos k)
    have hr : x % 2 ^ k * 2 ^ (31 - k) < 2147483648 := by
      rw [← h31]; exact Nat.mul_lt_mul_of_pos_right hlt (Nat.two_pow_pos _)
    have hle : x / 2 ^ k ≤ x := Nat.div_le_self _ _
    have hsum : x / 2 ^ k / 2 + x % 2 ^ k * 2 ^ (31 - k) < 2147483648 := by
      have a1 : x / 2 ^ k / 2 < 2 ^ (31 - k) := by
        rw [Nat.div_div_eq_div_mul, Nat.div_lt_iff_lt_mul (by have := Nat.two_pow_pos k; omega)]
        have : 2 ^ (31 - k) * (2 ^ k * 2) = 4294967296 := by rw [← Nat.mul_assoc, Nat.mul_comm (2 ^ (31 - k)), h31]
        omega
      have a2 : (x % 2 ^ k + 1) * 2 ^ (31 - k) ≤ 2 ^ k * 2 ^ (31 - k) := Nat.mul_le_mul_right _ hlt
      rw [h31, Nat.add_mul, Nat.one_mul] at a2
      omega
    have e32 : 32 - (k + 1) = 31 - k := by omega
    show IntKind.u32.wrap (IntKind.u32.wrap ((turnI x k).tdiv 2) + IntKind.u32.wrap ((turnI x k).tmod 2 * 2147483648)) = _
    rw [ih, hp, hm, hd, e32]
    have hdist : (x % 2 ^ k + 2 ^ k * (x / 2 ^ k % 2)) * 2 ^ (31 - k) = x % 2 ^ k * 2 ^ (31 - k) + 2147483648 * (x / 2 ^ k % 2) := by
      rw [Nat.add_mul, Nat.mul_right_comm, h31]
    rw [hdist]
    have ht : x % 2 ^ k * (2 * 2 ^ (31 - k)) = 2 * (x % 2 ^ k * 2 ^ (31 - k)) := by rw [Nat.mul_left_comm]
    rw [ht]
    generalize x % 2 ^ k * 2 ^ (31 - k) = r at *
    generalize x / 2 ^ k = q at *
    rw [tdiv_pos (by omega), tmod_pos (by omega), show (((q + 2 * r : Nat) : Int) / 2) = ((q / 2 + r : Nat) : Int) by omega, show (((q + 2 * r : Nat) : Int) % 2 * 2147483648) = ((q % 2 * 2147483648 : Nat) : Int) by omega]
    have hq2 : q % 2 < 2 := Nat.mod_lt _ (by decide)
    have hb : q / 2 + r < 4294967296 := by omega
    rw [wrapN _ hb, wrapN _ (by omega), show (((q / 2 + r : Nat) : Int) + ((q % 2 * 2147483648 : Nat) : Int)) = ((q / 2 + r + q % 2 * 2147483648 : Nat) : Int) by omega, wrapN]
    · congr 1; omega
    · omega

theorem rl_N (x : Nat) (hx : x < 4294967296) (s : Nat) (h1 : 1 ≤ s) (h2 : s ≤ 31) : rl (x : Int) s = ((x / 2 ^ (32 - s) + x % 2 ^ (32 - s) * 2 ^ s : Nat) : Int) := by
  have hp : (2 : Nat) ^ (32 - s) * 2 ^ s = 4294967296 := by rw [← Nat.pow_add, show 32 - s + s = 32 by omega]
  have hps := Nat.two_pow_pos s
  have hpq := Nat.two_pow_pos (32 - s)
  have hd : x / 2 ^ (32 - s) < 2 ^ s := by rw [Nat.div_lt_iff_lt_mul hpq, Nat.mul_comm, hp]; exact hx
  have hm : x * 2 ^ s % 4294967296 = x % 2 ^ (32 - s) * 2 ^ s := by rw [← hp, Nat.mul_mod_mul_right]
  have hml : x % 2 ^ (32 - s) * 2 ^ s < 4294967296 := by rw [← hp]; exact Nat.mul_lt_mul_of_pos_right (Nat.mod_lt _ hpq) hps
  have e1 : (x : Int) * 2 ^ s = ((x * 2 ^ s : Nat) : Int) := by simp
  have e2 : (x : Int).fdiv (2 ^ (32 - s)) = ((x / 2 ^ (32 - s) : Nat) : Int) := by
    rw [show ((2 : Int) ^ (32 - s)) = ((2 ^ (32 - s) : Nat) : Int) by simp, Int.fdiv_eq_ediv_of_nonneg _ (by omega)]; simp
  unfold rl
  rw [e1, wrapN_mod, hm, e2, or_N _ _ hml (Nat.lt_of_le_of_lt (Nat.div_le_self _ _) hx)]
  congr 1
  rw [Nat.mul_comm (x % 2 ^ (32 - s)), ← Nat.two_pow_add_eq_or_of_lt hd, Nat.add_comm]

theorem turn_rl {x : Int} (h : R32 x) (k : Nat) (h1 : 1 ≤ k) (h2 : k ≤ 31) : turnI x k = rl x (32 - k) := by
  obtain ⟨n, rfl, hn⟩ := h.nat
  rw [turn_N n hn k (by omega), rl_N n hn (32 - k) (by omega) (by omega), show 32 - (32 - k) = k by omega]

theorem or8 (x : Nat) (hx : x < 4294967296) (b : Nat) (hb : b < 256) : bitsI .or .u32 (IntKind.u32.wrap ((x : Int) * 256)) (b : Int) = add32 (IntKind.u32.wrap ((x : Int) * 256)) (b : Int) := by
  have e1 : (x : Int) * 256 = ((x * 256 : Nat) : Int) := by omega
  rw [e1, wrapN_mod]
  have hm : x * 256 % 4294967296 = 2 ^ 8 * (x % 16777216) := by omega
  rw [hm, or_N _ _ (by omega) (by omega), ← Nat.two_pow_add_eq_or_of_lt (i := 8) (by omega)]
  unfold add32
  rw [show (((2 ^ 8 * (x % 16777216) : Nat) : Int) + (b : Int)) = ((2 ^ 8 * (x % 16777216) + b : Nat) : Int) by omega, wrapN _ (by omega)]
theorem fdiv_eq {x : Int} (h : R32 x) (k : Int) (hk : 0 < k) : x.fdiv k = div32 x k := by
  have h0 := h.1
  have h1 := h.2
  unfold div32
  rw [tdiv_pos h0, Int.fdiv_eq_ediv_of_nonneg _ (by omega)]
  have a1 : 0 ≤ x / k := Int.ediv_nonneg h0 (by omega)
  have a2 : x / k ≤ x := Int.ediv_le_self _ h0
  rw [wrap_u32 a1 (by omega)]

theorem add32_R (x y : Int) : R32 (add32 x y) := R32.wrap _
def blkB (p : By) (a : Nat) : List Int := (List.range 64).map fun j => byt p (a + j)
theorem blkB_get (p : By) (a j : Nat) (hj : j < 64) : (blkB p a).getD j 0 = byt p (a + j) := by simp [blkB,List.getD,hj]
theorem byt_R (p : By) (j : Nat) : ∃ b : Nat, byt p j = (b : Int) ∧ b < 256 := ⟨_, rfl, (p.getD j 0).toNat_lt⟩

theorem word_eq (p : By) (a i : Nat) (hi : i < 16) : ∀ k, k ≤ 4 → word4 (blkB p a) i k = wordR p a i k ∧ R32 (wordR p a i k)
  | 0, _ => ⟨rfl, by show R32 0; exact ⟨by decide, by decide⟩⟩
  | k + 1, hk => by
    obtain ⟨h1, h2⟩ := word_eq p a i hi k (by omega)
    obtain ⟨b, hb, hb2⟩ := byt_R p (a + (4 * i + k))
    obtain ⟨n, hn, hn2⟩ := h2.nat
    refine ⟨?_, R32.wrap _⟩
    show bitsI .or .u32 (IntKind.u32.wrap (word4 (blkB p a) i k * 256)) ((blkB p a).getD (4 * i + k) 0) = add32 (IntKind.u32.wrap (wordR p a i k * 256)) (byt p (a + 4 * i + k))
    rw [h1, blkB_get _ _ _ (by omega), show a + 4 * i + k = a + (4 * i + k) by omega, hb, hn]
    exact or8 n hn2 b hb2

theorem getD_R {w : List Int} (h : ∀ x ∈ w, R32 x) (j : Nat) : R32 (w.getD j 0) := by
  by_cases hj : j < w.length
  · have : w.getD j 0 = w[j] := by simp [List.getD,hj]
    rw [this]; exact h _ (List.getElem_mem hj)
  · have : w.getD j 0 = 0 := by simp [List.getD,hj]
    rw [this]; exact ⟨by decide, by decide⟩

theorem next_eq (p : By) (a : Nat) (w : List Int) (i : Nat) (hw : ∀ x ∈ w, R32 x) : wNext (blkB p a) w i = wRNext p a w i ∧ R32 (wRNext p a w i) := by
  unfold wNext wRNext
  by_cases hi : i < 16
  · rw [if_pos hi, if_pos hi]; exact word_eq p a i hi 4 (Nat.le_refl _)
  · rw [if_neg hi, if_neg hi]
    have r1 := getD_R hw (i - 15)
    have r2 := getD_R hw (i - 2)
    rw [turn_rl r1 7 (by decide) (by decide), turn_rl r1 18 (by decide) (by decide), turn_rl r2 17 (by decide) (by decide), turn_rl r2 19 (by decide) (by decide), fdiv_eq r1 8 (by decide), fdiv_eq r2 1024 (by decide)]
    exact ⟨rfl, add32_R _ _⟩

theorem list_eq (p : By) (a : Nat) : ∀ i, wList (blkB p a) i = wRList p a i ∧ ∀ x ∈ wRList p a i, R32 x
  | 0 => ⟨rfl, by simp [wRList]⟩
  | i + 1 => by
    obtain ⟨h1, h2⟩ := list_eq p a i
    obtain ⟨h3, h4⟩ := next_eq p a (wRList p a i) i h2
    refine ⟨?_, fun x hx => ?_⟩
    · show wList (blkB p a) i ++ [wNext (blkB p a) (wList (blkB p a) i) i] = wRList p a i ++ [wRNext p a (wRList p a i) i]
      rw [h1, h3]
    · rcases List.mem_append.1 (show x ∈ wRList p a i ++ [wRNext p a (wRList p a i) i] from hx) with hx | hx
      · exact h2 x hx
      · rw [List.mem_singleton] at hx; rw [hx]; exact h4

structure S8.R (s : S8) : Prop where
  (a : R32 s.a) (b : R32 s.b) (c : R32 s.c) (d : R32 s.d) (e : R32 s.e) (f : R32 s.f) (g : R32 s.g) (h : R32 s.h)

theorem rnd_eq (s : S8) (k x : Int) (h : s.R) : rnd s k x = rndR s k x ∧ (rndR s k x).R := by
  have e1 : one s k x = oneR s k x := by
    unfold one oneR
    rw [turn_rl h.e 6 (by decide) (by decide), turn_rl h.e 11 (by decide) (by decide), turn_rl h.e 25 (by decide) (by decide), not_eq h.e]
  have e2 : two s = twoR s := by
    unfold two twoR
    rw [turn_rl h.a 2 (by decide) (by decide), turn_rl h.a 13 (by decide) (by decide), turn_rl h.a 22 (by decide) (by decide)]
  refine ⟨by unfold rnd rndR; rw [e1, e2], ⟨add32_R _ _, h.a, h.b, h.c, add32_R _ _, h.e, h.f, h.g⟩⟩
theorem rnds_eq (w : List Int) (s : S8) (h : s.R) : ∀ i, rnds w s i = rndsR w s i ∧ (rndsR w s i).R
  | 0 => ⟨rfl, h⟩
  | i + 1 => by
    obtain ⟨h1, h2⟩ := rnds_eq w s h i
    obtain ⟨h3, h4⟩ := rnd_eq (rndsR w s i) (roundsZ.getD i 0) (w.getD i 0) h2
    exact ⟨by show rnd (rnds w s i) _ _ = _; rw [h1, h3]; rfl, h4⟩
theorem mix_eq (s : S8) (p : By) (a : Nat) (h : s.R) : mixS s (blkB p a) = blkR s p a ∧ (blkR s p a).R := by
  obtain ⟨h1, h2⟩ := rnds_eq (wRList p a 64) s h 64
  refine ⟨?_, ⟨add32_R _ _, add32_R _ _, add32_R _ _, add32_R _ _, add32_R _ _, add32_R _ _, add32_R _ _, add32_R _ _⟩⟩
  unfold mixS blkR
  rw [(list_eq p a 64).1, h1]
theorem s0_R : s0.R := ⟨⟨by decide, by decide⟩, ⟨by decide, by decide⟩, ⟨by decide, by decide⟩, ⟨by decide, by decide⟩, ⟨by decide, by decide⟩, ⟨by decide, by decide⟩, ⟨by decide, by decide⟩, ⟨by decide, by decide⟩⟩
theorem blks_R (p : By) : ∀ m, (blksR p m).R
  | 0 => s0_R
  | m + 1 => (mix_eq _ p (64 * m) (blks_R p m)).2
theorem blks_next (p : By) (m : Nat) : mixS (blksR p m) (blkB p (64 * m)) = blksR p (m + 1) := (mix_eq _ p (64 * m) (blks_R p m)).1
end Go.Proofs.YtpgmohjmpaifbaaDoor.Im

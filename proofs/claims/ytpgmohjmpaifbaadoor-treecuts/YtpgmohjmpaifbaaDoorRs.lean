/- Joined: S21Is, S21P0, S21Pb, S21Pc, S21Cu, S21Cc, S21Rs. -/
import Derived.Test.YtpgmohjmpaifbaaDoorTabs
import Derived.KernelRfl
import Derived.Test.YtpgmohjmpaifbaaDoorImRow
import Derived.Test.YtpgmohjmpaifbaaDoorImMapT
import Derived.Test.YtpgmohjmpaifbaaDoorImSl
import Derived.Test.YtpgmohjmpaifbaaDoorImApp
/- S21Is: which functions stand where. -/
open Go Go.Im
namespace Go.Proofs.YtpgmohjmpaifbaaDoor.Im

theorem f5 : F 5 = some (.inl a5) := by kernel_rfl
theorem f16 : F 16 = some (.inl a16) := by kernel_rfl
theorem f19 : F 19 = some (.inl a19) := by kernel_rfl
theorem f22 : F 22 = some (.inl a22) := by kernel_rfl
theorem f23 : F 23 = some (.inl a23) := by kernel_rfl
theorem f24 : F 24 = some (.inl a24) := by kernel_rfl
theorem f25 : F 25 = some (.inl a25) := by kernel_rfl
theorem f26 : F 26 = some (.inl a26) := by kernel_rfl
theorem f27 : F 27 = some (.inl a27) := by kernel_rfl
theorem f47 : F 47 = some (.inl a47) := by kernel_rfl
theorem f48 : F 48 = some (.inl a48) := by kernel_rfl
theorem f50 : F 50 = some (.inl a50) := by kernel_rfl
theorem f52 : F 52 = some (.inl a52) := by kernel_rfl
theorem f53 : F 53 = some (.inl a53) := by kernel_rfl
theorem f79 : F 79 = some (.inl a79) := by kernel_rfl
theorem f80 : F 80 = some (.inl a80) := by kernel_rfl
theorem f82 : F 82 = some (.inl a82) := by kernel_rfl
theorem f84 : F 84 = some (.inl a84) := by kernel_rfl
theorem f85 : F 85 = some (.inl a85) := by kernel_rfl
theorem f104 : F 104 = some (.inl a104) := by kernel_rfl
theorem f105 : F 105 = some (.inl a105) := by kernel_rfl
theorem f106 : F 106 = some (.inl a106) := by kernel_rfl
theorem f107 : F 107 = some (.inl a107) := by kernel_rfl
theorem f114 : F 114 = some (.inl a114) := by kernel_rfl
end Go.Proofs.YtpgmohjmpaifbaaDoor.Im

/- S21P0: what is a path. -/
set_option linter.unusedVariables false
set_option linter.unusedSimpArgs false
open Go Go.Im
namespace Go.Proofs.YtpgmohjmpaifbaaDoor.Im

abbrev By := List UInt8

/-! ### what is a path -/
def goodC (c : UInt8) : Bool := decide (32 < c.toNat ∧ c.toNat < 127)
def slashOk : Bool → By → Bool
  | pv, [] => !pv
  | pv, c :: cs => if c = 47 then !pv && slashOk true cs else slashOk false cs
def pathB (s : By) : Bool := decide (s.length ≤ 64) && (slashOk true s && s.all goodC)


theorem hg0 (h l : Hp) : (h ++ l)[h.length]? = l[0]? := by
  rw [List.getElem?_append_right (Nat.le_refl _), Nat.sub_self]
theorem hgk (h l : Hp) (k : Nat) : (h ++ l)[h.length + k]? = l[k]? := by
  rw [List.getElem?_append_right (by omega)]; congr 1; omega
theorem hs0 (h l : Hp) (o : AO) : (h ++ l).set h.length o = h ++ l.set 0 o := by
  rw [List.set_append_right _ _ (Nat.le_refl _), Nat.sub_self]
theorem hsk (h l : Hp) (k : Nat) (o : AO) : (h ++ l).set (h.length + k) o = h ++ l.set k o := by
  rw [List.set_append_right _ _ (by omega)]; congr 2; omega

end Go.Proofs.YtpgmohjmpaifbaaDoor.Im

/- S21Pb: the reference's paths; which paths go together. -/
set_option linter.unusedVariables false
set_option linter.unusedSimpArgs false
open Go Go.Im
namespace Go.Proofs.YtpgmohjmpaifbaaDoor.Im
section
variable {n : Nat} {tot : Bool} {ω : Nat → Nat} {h : Hp}

end
end Go.Proofs.YtpgmohjmpaifbaaDoor.Im

/- S21Pc: which rising paths may be in one snapshot. -/
set_option linter.unusedVariables false
set_option linter.unusedSimpArgs false
open Go Go.Im
namespace Go.Proofs.YtpgmohjmpaifbaaDoor.Im

def IsRd (sz : Nat) (es : List AV) (v : AV) : Prop := (v = .nils ∧ es = []) ∨ ∃ c, v = .imm sz es c
theorem IsRd.len {sz : Nat} {es : List AV} {v : AV} (h : IsRd sz es v) : lenSl v = some es.length := by
  rcases h with ⟨rfl, rfl⟩ | ⟨c, rfl⟩ <;> rfl
theorem IsRd.imm {sz : Nat} {es : List AV} {v : AV} {i : Nat} (h : IsRd sz es v) (hi : i < es.length) : ∃ c, v = .imm sz es c := by
  rcases h with ⟨rfl, rfl⟩ | ⟨c, rfl⟩
  · exact absurd hi (Nat.not_lt_zero _)
  · exact ⟨c, rfl⟩
theorem isRd_app {sz : Nat} {es : List AV} {h : Hp} {v : AV} (hv : IsApp sz es h v) : IsRd sz es v := by
  rcases hv with h | h | ⟨id, h, _⟩
  · exact .inl h
  · exact .inr ⟨_, h⟩
  · exact .inr ⟨_, h⟩
/-! ### texts -/
/-! ### paths together -/
def Under (p q : By) : Prop := q.length < p.length ∧ p.take (q.length + 1) = q ++ [47]
structure Rising (l : List By) : Prop where
  few : l.length ≤ 64
  path : ∀ p ∈ l, pathB p = true
  rise : ∀ j k (hj : j < l.length) (hk : k < l.length), j < k → Op.bytesLess l[j] l[k] = true
  apart : ∀ p ∈ l, ∀ q ∈ l, ¬ Under p q

end Go.Proofs.YtpgmohjmpaifbaaDoor.Im

/- S21Cu: the reference's cutting of bytes. -/
set_option linter.unusedVariables false
set_option linter.unusedSimpArgs false
open Go Go.Im
namespace Go.Proofs.YtpgmohjmpaifbaaDoor.Im

def sumR (s : By) (i : Nat) : Nat := ((s.take (i + 1)).drop (i - 15)).foldl (fun x b => (x * 31 + b.toNat + 1) % 4294967296) 0

section
variable {n : Nat} {tot : Bool} {ω : Nat → Nat} {h : Hp}

theorem fold_lt (l : By) : ∀ x : Nat, x < 4294967296 → l.foldl (fun x b => (x * 31 + b.toNat + 1) % 4294967296) x < 4294967296 := by
  induction l with
  | nil => intro x hx; exact hx
  | cons b l ih => intro x hx; exact ih _ (Nat.mod_lt _ (by decide))
theorem sumR_lt (s : By) (i : Nat) : sumR s i < 4294967296 := fold_lt _ 0 (by decide)

theorem c82 (s : By) (a : Nat) (ha : a < s.length) (hs : s.length ≤ 1000000000) (hn : 20 < n) : call F n tot ω 82 [.str s, .int .i64 a] h = some (.int .i64 (sumR s a : Nat), h) := by
  obtain ⟨n, rfl⟩ : ∃ m, n = m + 1 := ⟨n - 1, by omega⟩
  refine call_eq (fn := a82) f82 ?_
  unfold a82
  simp (maxSteps := 2000000) (discharger := omega) only [xz,xc,xo,xr,x0,x1,xd,Reg.isA,Reg.isV,Reg.stays,Reg.onto,↓reduceIte,reduceCtorEq,Nat.reduceEqDiff,Nat.reduceLT,Nat.reduceAdd,wrap_i64]
  refine wpi_loop (fun x r g' => ∃ (i : Int), r = [(0, .val (.str s)), (1, .val (.int .i64 a)), (5, .val (.int .i64 (((s.take i.toNat).drop (a - 15)).foldl (fun x b => (x * 31 + b.toNat + 1) % 4294967296) 0 : Nat))), (6, .val (.int .i64 i))] ∧ x = (a + 1 - i).toNat ∧ (a : Int) - 15 ≤ i ∧ i ≤ a + 1 ∧ g' = h) 16 (by omega)
    ⟨(a : Int) - 15, ?_, by omega, by omega, by omega, rfl⟩ ?_
  · have : (s.take ((a : Int) - 15).toNat).drop (a - 15) = [] := by
      rw [List.drop_eq_nil_iff, List.length_take]; omega
    rw [this]; rfl
  rintro x r g' ⟨i, rfl, rfl, hi1, hi2, rfl⟩
  by_cases hle : i ≤ a
  · by_cases h0 : i ≥ 0
    · obtain ⟨j, rfl⟩ : ∃ j : Nat, i = (j : Int) := ⟨i.toNat, by omega⟩
      have hj : j < s.length := by omega
      have q1 : s[j]? = some s[j] := List.getElem?_eq_getElem hj
      have hx := fold_lt ((s.take j).drop (a - 15)) 0 (by decide)
      have hb : s[j].toNat < 256 := s[j].toNat_lt
      have e : ((s.take (j + 1)).drop (a - 15)).foldl (fun x b => (x * 31 + b.toNat + 1) % 4294967296) 0 = (((s.take j).drop (a - 15)).foldl (fun x b => (x * 31 + b.toNat + 1) % 4294967296) 0 * 31 + s[j].toNat + 1) % 4294967296 := by
        rw [List.take_succ_eq_append_getElem hj, List.drop_append_of_le_length (by rw [List.length_take]; omega), List.foldl_append]; rfl
      simp only [Int.toNat_natCast]
      generalize ((s.take j).drop (a - 15)).foldl (fun x b => (x * 31 + b.toNat + 1) % 4294967296) 0 = y at hx e
      simp (maxSteps := 2000000) (discharger := omega) only [xz,xc,xo,xr,x0,x1,x2,xd,Reg.isA,Reg.isV,Reg.stays,Reg.onto,↓reduceIte,reduceCtorEq,Nat.reduceEqDiff,Nat.reduceLT,wrap_i64,int_le_t,int_eq_f,q1,tmod_pos]
      refine ⟨((a : Int) + 1 - ((j : Int) + 1)).toNat, by omega, (j : Int) + 1, ?_, rfl, by omega, by omega⟩
      rw [show ((j : Int) + 1).toNat = j + 1 by omega, e]
      congr 3
    · simp (maxSteps := 2000000) (discharger := omega) only [xz,xc,xo,xr,x0,x1,xd,Reg.isA,Reg.isV,Reg.stays,Reg.onto,↓reduceIte,reduceCtorEq,Nat.reduceEqDiff,Nat.reduceLT,wrap_i64,int_le_t,int_le_f]
      refine ⟨((a : Int) + 1 - (i + 1)).toNat, by omega, i + 1, ?_, rfl, by omega, by omega⟩
      rw [show (i + 1).toNat = 0 by omega, show i.toNat = 0 by omega]
  · obtain rfl : i = (a : Int) + 1 := by omega
    simp (maxSteps := 2000000) (discharger := omega) only [xz,xc,xo,xr,x0,x1,xd,Reg.isA,Reg.isV,Reg.stays,Reg.onto,↓reduceIte,reduceCtorEq,Nat.reduceEqDiff,Nat.reduceLT,exists_eq_left',int_le_f]
    rw [show ((a : Int) + 1).toNat = a + 1 by omega]; rfl

def cutSt (l m M : Int) (s : By) : Nat → Nat × List Nat
  | 0 => (0, [])
  | i + 1 => if ((cutSt l m M s i).1 + 1 : Int) = M ∨ ((cutSt l m M s i).1 + 1 : Int) ≥ l ∧ ((sumR s i : Nat) : Int) % m = m - 1 then (0, (cutSt l m M s i).2 ++ [(cutSt l m M s i).1 + 1]) else ((cutSt l m M s i).1 + 1, (cutSt l m M s i).2)
def cutR (l m M : Int) (s : By) : List Nat := if (cutSt l m M s s.length).1 > 0 then (cutSt l m M s s.length).2 ++ [(cutSt l m M s s.length).1] else (cutSt l m M s s.length).2

theorem cutSt_sum (l m M : Int) (s : By) : ∀ i, (cutSt l m M s i).2.sum + (cutSt l m M s i).1 = i ∧ (∀ x ∈ (cutSt l m M s i).2, 1 ≤ x) ∧ (cutSt l m M s i).2.length + (cutSt l m M s i).1 ≤ i
  | 0 => ⟨rfl, by simp [cutSt], Nat.le_refl _⟩
  | i + 1 => by
    obtain ⟨h1, h2, h3⟩ := cutSt_sum l m M s i
    unfold cutSt
    split
    · refine ⟨by simp; omega, fun x hx => ?_, by simp; omega⟩
      rcases List.mem_append.1 hx with hx | hx
      · exact h2 x hx
      · rw [List.mem_singleton] at hx; omega
    · exact ⟨by simp only; omega, h2, by simp only; omega⟩
theorem cutR_sum (l m M : Int) (s : By) : (cutR l m M s).sum = s.length ∧ (∀ x ∈ cutR l m M s, 1 ≤ x) ∧ (cutR l m M s).length ≤ s.length := by
  obtain ⟨h1, h2, h3⟩ := cutSt_sum l m M s s.length
  unfold cutR
  split
  · rename_i hp
    refine ⟨by simp; omega, fun x hx => ?_, by simp; omega⟩
    rcases List.mem_append.1 hx with hx | hx
    · exact h2 x hx
    · rw [List.mem_singleton] at hx; omega
  · exact ⟨by omega, h2, by omega⟩

def nsOf (l : List Nat) : List AV := l.map fun x => .int .i64 (x : Nat)

structure Cf (c : AV) (l m M : Int) : Prop where
  agg : ∃ cs, c = .agg cs ∧ cs.length = 12 ∧ cs[8]? = some (.int .i64 l) ∧ cs[9]? = some (.int .i64 m) ∧ cs[10]? = some (.int .i64 M)

def Below (lo : Nat) (h h' : Hp) : Prop := h.length ≤ h'.length ∧ ∀ i, i < lo → h'[i]? = h[i]?
theorem Below.refl (lo : Nat) (h : Hp) : Below lo h h := ⟨Nat.le_refl _, fun _ _ => rfl⟩
theorem Below.trans {lo : Nat} {a b c : Hp} (x : Below lo a b) (y : Below lo b c) : Below lo a c := ⟨Nat.le_trans x.1 y.1, fun i hi => (y.2 i hi).trans (x.2 i hi)⟩
theorem Below.low {lo lo' : Nat} {a b : Hp} (x : Below lo a b) (hl : lo' ≤ lo) : Below lo' a b := ⟨x.1, fun i hi => x.2 i (by omega)⟩
theorem Below.app (lo : Nat) (h m : Hp) (hl : lo ≤ h.length) : Below lo h (h ++ m) := ⟨by simp, fun i hi => List.getElem?_append_left (by omega)⟩

def LateApp (lo sz : Nat) (es : List AV) (h : Hp) (v : AV) : Prop := IsApp sz es h v ∧ ∀ id c, v = .imm sz es (.tok id c) → lo ≤ id
theorem late_app {lo sz bytes : Nat} {es xs : List AV} {h : Hp} {v : AV} (hv : LateApp lo sz es h v) (hlo : lo ≤ h.length) (hx : xs ≠ []) (hb : (es.length + xs.length) * bytes ≤ 140737488355328) :
    ∃ v' h', appendV false sz bytes v xs h = some (v', h') ∧ LateApp lo sz (es ++ xs) h' v' ∧ Below lo h h' := by
  obtain ⟨v', h', w1, w2, w3, w4, w5, c, w6⟩ := app_ok (bytes := bytes) hv.1 hx hb
  refine ⟨v', h', w1, ⟨w2, fun id c' e => ?_⟩, w4, fun i hi => ?_⟩
  · rw [w6] at e; cases e; exact hlo
  · have hlt : i < h.length := by omega
    have e : h[i]? = some h[i] := List.getElem?_eq_getElem hlt
    by_cases ht : ∃ c, v = .imm sz es (.tok i c)
    · obtain ⟨c', hc⟩ := ht
      have := hv.2 i c' hc
      omega
    · rw [e]; exact w5 i _ e fun c' hc => ht ⟨c', hc⟩
theorem late_nils (lo sz : Nat) (h : Hp) : LateApp lo sz [] h .nils := ⟨.nils _ _, fun _ _ e => by cases e⟩
theorem LateApp.keep {lo sz : Nat} {es : List AV} {h h' : Hp} {v : AV} (hv : LateApp lo sz es h v) (hk : ∀ (i : Nat) (o : AO), h[i]? = some o → h'[i]? = some o) : LateApp lo sz es h' v := by
  refine ⟨?_, hv.2⟩
  rcases hv.1 with h | h | ⟨id, h, e⟩
  · exact .inl h
  · exact .inr (.inl h)
  · exact .inr (.inr ⟨id, h, hk _ _ e⟩)
theorem LateApp.belw {lo lo' sz : Nat} {es : List AV} {h h' : Hp} {v : AV} (hv : LateApp lo sz es h v) (hk : Below h.length h h') : LateApp lo sz es h' v :=
  hv.keep fun i o e => by rw [hk.2 i (List.getElem?_eq_some_iff.1 e).1]; exact e

theorem c52 (c : AV) (l m M : Int) (s : By) (hc : Cf c l m M) (hm : 1 ≤ m) (hm2 : m ≤ 1000000000) (hs : s.length ≤ 1000000000) (hn : s.length + 30 < n) :
    ∃ v h', call F n tot ω 52 [c, .str s] h = some (v, h') ∧ IsRd 1 (nsOf (cutR l m M s)) v ∧ Below h.length h h' := by
  obtain ⟨n, rfl⟩ : ∃ m, n = m + 1 := ⟨n - 1, by omega⟩
  refine call_of (fn := a52) f52 (P := fun v h' => IsRd 1 (nsOf (cutR l m M s)) v ∧ Below h.length h h') ?_
  obtain ⟨cs, rfl, hl, h8, h9, h10⟩ := hc.agg
  unfold a52
  simp (maxSteps := 2000000) (discharger := omega) only [xz,xc,xo,xr,x0,xd,Reg.isA,Reg.isV,Reg.stays,Reg.onto,↓reduceIte,reduceCtorEq,Nat.reduceEqDiff,Nat.reduceLT,Nat.reduceAdd,hl]
  refine wpi_loop (fun x r g' => ∃ (i : Nat) (lv : AV), r = [(1, .val (.str s)), (2, .var (.agg cs)), (5, .val lv), (6, .val (.int .i64 ((cutSt l m M s i).1 : Nat))), (7, .val (.int .i64 i))] ∧ x = s.length - i ∧ i ≤ s.length ∧ LateApp h.length 1 (nsOf (cutSt l m M s i).2) g' lv ∧ Below h.length h g') s.length (by omega)
    ⟨0, .nils, rfl, rfl, Nat.zero_le _, late_nils _ _ _, .refl _ _⟩ ?_
  rintro x r g' ⟨i, lv, rfl, rfl, hi, hA, hB⟩
  obtain ⟨b1, b2, b3⟩ := cutSt_sum l m M s i
  by_cases hlt : i < s.length
  · have k82 := fun h => c82 (n := n) (tot := tot) (ω := ω) (h := h) s i hlt hs (by omega)
    have hsr := sumR_lt s i
    have hst : cutSt l m M s (i + 1) = if ((cutSt l m M s i).1 + 1 : Int) = M ∨ ((cutSt l m M s i).1 + 1 : Int) ≥ l ∧ ((sumR s i : Nat) : Int) % m = m - 1 then (0, (cutSt l m M s i).2 ++ [(cutSt l m M s i).1 + 1]) else ((cutSt l m M s i).1 + 1, (cutSt l m M s i).2) := rfl
    obtain ⟨lv', h2, w1, w2, w3⟩ := late_app (bytes := 8) (xs := [.int .i64 (((cutSt l m M s i).1 : Nat) + 1 : Int)]) hA hB.1 (by simp) (by simp [nsOf]; omega)
    have w2' : LateApp h.length 1 (nsOf ((cutSt l m M s i).2 ++ [(cutSt l m M s i).1 + 1])) h2 lv' := by
      unfold nsOf at w2 ⊢
      rw [List.map_append]; exact w2
    generalize cutSt l m M s i = st at *
    obtain ⟨nn, out⟩ := st
    simp only at *
    by_cases hM : ((nn : Nat) : Int) + 1 = M
    · rw [if_pos (.inl hM)] at hst
      simp (maxSteps := 2000000) (discharger := omega) only [xz,xc,xo,xr,x0,x1,x3,x4,x5,xd,xb,selems,srcElems,partEs,placeEs,Reg.isA,Reg.isV,Reg.stays,Reg.onto,↓reduceIte,Nat.reduceEqDiff,Nat.reduceLT,Nat.zero_lt_succ,Nat.reduceBEq,List.set_cons_zero,wrap_i64,int_lt_t,int_beq_t,h10,w1,hA.1.isRow,List.replicate]
      exact ⟨s.length - (i + 1), by omega, i + 1, lv', by rw [hst, show ((i : Nat) : Int) + 1 = ((i + 1 : Nat) : Int) by omega]; rfl, rfl, by omega, by rw [hst]; exact w2', hB.trans w3⟩
    · by_cases hge : ((nn : Nat) : Int) + 1 ≥ l
      · by_cases hmd : ((sumR s i : Nat) : Int) % m = m - 1
        · rw [if_pos (.inr ⟨hge, hmd⟩)] at hst
          simp (maxSteps := 2000000) (discharger := omega) only [xz,xc,xo,xr,x0,x1,x3,x4,x5,xd,xb,kont_call,selems,srcElems,partEs,placeEs,Reg.isA,Reg.isV,Reg.stays,Reg.onto,↓reduceIte,Nat.reduceEqDiff,Nat.reduceLT,Nat.zero_lt_succ,beq_self_eq_true,Nat.reduceBEq,List.set_cons_zero,wrap_i64,int_lt_t,int_le_t,int_eq_f,int_beq_t,int_beq_f,h8,h9,h10,k82,tmod_pos,w1,hA.1.isRow,List.replicate]
          exact ⟨s.length - (i + 1), by omega, i + 1, lv', by rw [hst, show ((i : Nat) : Int) + 1 = ((i + 1 : Nat) : Int) by omega]; rfl, rfl, by omega, by rw [hst]; exact w2', hB.trans w3⟩
        · rw [if_neg (by omega)] at hst
          simp (maxSteps := 2000000) (discharger := omega) only [xz,xc,xo,xr,x0,x1,x4,xd,kont_call,Reg.isA,Reg.isV,Reg.stays,Reg.onto,↓reduceIte,Nat.reduceEqDiff,Nat.reduceLT,beq_self_eq_true,Nat.reduceBEq,wrap_i64,int_lt_t,int_le_t,int_eq_f,int_beq_f,h8,h9,h10,k82,tmod_pos]
          exact ⟨s.length - (i + 1), by omega, i + 1, lv, by rw [hst, show ((i : Nat) : Int) + 1 = ((i + 1 : Nat) : Int) by omega]; rfl, rfl, by omega, by rw [hst]; exact hA, hB⟩
      · rw [if_neg (by omega)] at hst
        simp (maxSteps := 2000000) (discharger := omega) only [xz,xc,xo,xr,x0,x1,x4,xd,xb,Reg.isA,Reg.isV,Reg.stays,Reg.onto,↓reduceIte,Nat.reduceEqDiff,Nat.reduceLT,beq_self_eq_true,Nat.reduceBEq,wrap_i64,int_lt_t,int_le_f,int_beq_f,h8,h10]
        exact ⟨s.length - (i + 1), by omega, i + 1, lv, by rw [hst, show ((i : Nat) : Int) + 1 = ((i + 1 : Nat) : Int) by omega]; rfl, rfl, by omega, by rw [hst]; exact hA, hB⟩
  · obtain rfl : i = s.length := by omega
    obtain ⟨lv', h2, w1, w2, w3⟩ := late_app (bytes := 8) (xs := [.int .i64 ((cutSt l m M s s.length).1 : Nat)]) hA hB.1 (by simp) (by simp [nsOf]; omega)
    have w2' : LateApp h.length 1 (nsOf ((cutSt l m M s s.length).2 ++ [(cutSt l m M s s.length).1])) h2 lv' := by
      unfold nsOf at w2 ⊢
      rw [List.map_append]; exact w2
    unfold cutR
    by_cases h0 : (cutSt l m M s s.length).1 > 0
    · rw [if_pos h0]
      simp (maxSteps := 2000000) (discharger := omega) only [xz,xc,xo,xr,x0,x1,x3,x4,x5,xd,xb,selems,srcElems,partEs,placeEs,Reg.isA,Reg.isV,Reg.stays,Reg.onto,↓reduceIte,Nat.reduceEqDiff,Nat.reduceLT,Nat.zero_lt_succ,exists_eq_left',List.set_cons_zero,int_lt_t,int_lt_f,Nat.sub_self,w1,hA.1.isRow,List.replicate]
      exact ⟨isRd_app w2'.1, hB.trans w3⟩
    · rw [if_neg h0]
      simp (maxSteps := 2000000) (discharger := omega) only [xz,xc,xo,xr,x0,x1,x4,xd,Reg.isA,Reg.isV,Reg.stays,Reg.onto,↓reduceIte,Nat.reduceEqDiff,Nat.reduceLT,exists_eq_left',int_lt_f,Nat.sub_self]
      exact ⟨isRd_app hA.1, hB⟩
end
end Go.Proofs.YtpgmohjmpaifbaaDoor.Im

/- S21Cc: chunk's cutter. -/
set_option linter.unusedVariables false
set_option linter.unusedSimpArgs false
open Go Go.Im
namespace Go.Proofs.YtpgmohjmpaifbaaDoor.Im

/-! ### the sum of a window -/
def fv (x : Nat) (b : UInt8) : Nat := x * 31 + b.toNat + 1
theorem fold_mod (l : By) : ∀ x : Nat, l.foldl (fun x b => (x * 31 + b.toNat + 1) % 4294967296) (x % 4294967296) = l.foldl fv x % 4294967296 := by
  induction l with
  | nil => intro x; rfl
  | cons b l ih =>
    intro x
    simp only [List.foldl_cons]
    rw [← ih (fv x b)]
    congr 1
    unfold fv; omega
theorem fold_cons (l : By) : ∀ x : Nat, l.foldl fv x = x * 31 ^ l.length + l.foldl fv 0 := by
  induction l with
  | nil => intro x; simp
  | cons b l ih =>
    intro x
    simp only [List.foldl_cons,List.length_cons]
    rw [ih (fv x b), ih (fv 0 b), Nat.pow_succ]
    unfold fv
    generalize l.foldl (fun x b => x * 31 + b.toNat + 1) 0 = z at *
    generalize 31 ^ l.length = w
    rw [Nat.zero_mul, Nat.zero_add, Nat.add_mul, Nat.add_mul, Nat.add_mul, Nat.mul_assoc x, Nat.mul_comm 31 w]
    omega
def sW (s : By) (i : Nat) : Nat := if i = 0 then 0 else sumR s (i - 1)
def win (s : By) (i : Nat) : By := (s.take i).drop (i - 16)
theorem sW_win (s : By) (i : Nat) : sW s i = (win s i).foldl fv 0 % 4294967296 := by
  unfold sW win
  by_cases h : i = 0
  · subst h; rfl
  · rw [if_neg h]
    unfold sumR
    rw [show i - 1 + 1 = i by omega, show i - 1 - 15 = i - 16 by omega]
    exact fold_mod _ 0
theorem sW_few (s : By) (i : Nat) (hi : i < s.length) (h : i < 16) : sW s (i + 1) = (sW s i * 31 + s[i].toNat + 1) % 4294967296 := by
  have e : win s (i + 1) = win s i ++ [s[i]] := by
    unfold win
    rw [show i + 1 - 16 = 0 by omega, show i - 16 = 0 by omega, List.drop_zero, List.drop_zero, List.take_succ_eq_append_getElem hi]
  rw [sW_win, sW_win, e, List.foldl_append]
  show fv ((win s i).foldl fv 0) s[i] % 4294967296 = _
  unfold fv; omega
theorem sW_more (s : By) (i : Nat) (hi : i < s.length) (h : 16 ≤ i) : ∃ z : Nat, (win s i).foldl fv 0 = (s[i - 16].toNat + 1) * 23465261991844685929951 + z ∧ sW s (i + 1) = (z * 31 + s[i].toNat + 1) % 4294967296 := by
  have e : win s i = s[i - 16] :: (s.take i).drop (i - 16 + 1) := by
    unfold win
    rw [List.drop_eq_getElem_cons (by simp; omega)]
    congr 1
    simp
  have e2 : win s (i + 1) = (s.take i).drop (i - 16 + 1) ++ [s[i]] := by
    unfold win
    rw [List.take_succ_eq_append_getElem hi, show i + 1 - 16 = i - 16 + 1 by omega, List.drop_append_of_le_length (by simp; omega)]
  have hl : ((s.take i).drop (i - 16 + 1)).length = 15 := by simp; omega
  refine ⟨((s.take i).drop (i - 16 + 1)).foldl fv 0, ?_, ?_⟩
  · rw [e, List.foldl_cons, fold_cons, hl]
    unfold fv; omega
  · rw [sW_win, e2, List.foldl_append]
    show fv _ s[i] % 4294967296 = _
    unfold fv; omega
def topZ : Nat := 23465261991844685929951 % 4294967296
theorem sW_step (s : By) (i : Nat) (hi : i < s.length) (h : 16 ≤ i) : IntKind.u32.wrap (IntKind.u32.wrap (IntKind.u32.wrap (IntKind.u32.wrap (((sW s i : Nat) : Int) - IntKind.u32.wrap ((topZ : Nat) * IntKind.u32.wrap (((s[i - 16].toNat : Nat) : Int) + 1))) * 31) + ((s[i].toNat : Nat) : Int)) + 1) = ((sW s (i + 1) : Nat) : Int) := by
  obtain ⟨z, e1, e2⟩ := sW_more s i hi h
  rw [e2, sW_win, e1]
  have := s[i].toNat_lt
  have := s[i - 16].toNat_lt
  unfold topZ
  generalize s[i].toNat = b at *
  generalize s[i - 16].toNat = a at *
  simp only [wrap_u32_mod]
  omega
theorem sW_step0 (s : By) (i : Nat) (hi : i < s.length) (h : i < 16) : IntKind.u32.wrap (IntKind.u32.wrap (IntKind.u32.wrap (((sW s i : Nat) : Int) * 31) + ((s[i].toNat : Nat) : Int)) + 1) = ((sW s (i + 1) : Nat) : Int) := by
  rw [sW_few s i hi h]
  have := s[i].toNat_lt
  simp only [wrap_u32_mod]
  omega

/-! ### tokens: slices that are appended to, side by side -/
def TokAt (sz : Nat) (es : List AV) (h : Hp) (v : AV) (tk : Option Nat) : Prop := IsApp sz es h v ∧ ∀ id c, v = .imm sz es (.tok id c) → tk = some id
theorem tok_nils (sz : Nat) (h : Hp) (tk : Option Nat) : TokAt sz [] h .nils tk := ⟨.nils _ _, fun _ _ e => by cases e⟩
theorem TokAt.keep {sz : Nat} {es : List AV} {h h' : Hp} {v : AV} {tk : Option Nat} (hv : TokAt sz es h v tk) (hk : ∀ (i : Nat) (o : AO), tk = some i → h[i]? = some o → h'[i]? = some o) : TokAt sz es h' v tk := by
  refine ⟨?_, hv.2⟩
  rcases hv.1 with h | h | ⟨id, h, e⟩
  · exact .inl h
  · exact .inr (.inl h)
  · exact .inr (.inr ⟨id, h, hk _ _ (hv.2 _ _ h) e⟩)
theorem tok_app {sz bytes : Nat} {es xs : List AV} {h : Hp} {v : AV} {tk : Option Nat} (hv : TokAt sz es h v tk) (hx : xs ≠ []) (hb : (es.length + xs.length) * bytes ≤ 140737488355328) :
    ∃ v' h', appendV false sz bytes v xs h = some (v', h') ∧ TokAt sz (es ++ xs) h' v' (some h.length) ∧ h.length < h'.length ∧ (∀ (i : Nat) (o : AO), h[i]? = some o → tk ≠ some i → h'[i]? = some o) ∧ ∃ c, v' = .imm sz (es ++ xs) c := by
  obtain ⟨v', h', w1, w2, w3, w4, w5, c, w6⟩ := app_ok (bytes := bytes) hv.1 hx hb
  refine ⟨v', h', w1, ⟨w2, fun id c' e => ?_⟩, ?_, fun i o ho hne => w5 i o ho fun c' hc => hne (hv.2 _ _ hc), _, w6⟩
  · rw [w6] at e; cases e; rfl
  · rcases w2 with ⟨e, _⟩ | e | ⟨id, e, he⟩
    · rw [w6] at e; cases e
    · rw [w6] at e; cases e
    · rw [w6] at e; cases e
      exact (List.getElem?_eq_some_iff.1 he).1

/-! ### pieces -/
def PE : List By → List AV → Prop
  | [], [] => True
  | p :: ps, v :: vs => (∃ c, v = .imm 1 (bytesOf p) c) ∧ PE ps vs
  | _, _ => False
theorem PE.app : ∀ {ps : List By} {vs : List AV} {p : By} {v : AV}, PE ps vs → (∃ c, v = .imm 1 (bytesOf p) c) → PE (ps ++ [p]) (vs ++ [v])
  | [], [], _, _, _, h => ⟨h, trivial⟩
  | _ :: _, _ :: _, _, _, h, h2 => ⟨h.1, PE.app h.2 h2⟩
  | [], _ :: _, _, _, h, _ => h.elim
  | _ :: _, [], _, _, h, _ => h.elim
theorem PE.len : ∀ {ps : List By} {vs : List AV}, PE ps vs → vs.length = ps.length
  | [], [], _ => rfl
  | _ :: _, _ :: _, h => by simp [PE.len h.2]
  | [], _ :: _, h => h.elim
  | _ :: _, [], h => h.elim
theorem PE.get : ∀ {ps : List By} {vs : List AV} {i : Nat} (hi : i < ps.length), PE ps vs → ∃ c, vs[i]? = some (.imm 1 (bytesOf ps[i]) c)
  | _ :: _, v :: _, 0, _, h => by obtain ⟨c, rfl⟩ := h.1; exact ⟨c, rfl⟩
  | _ :: ps, _ :: _, i + 1, hi, h => by obtain ⟨c, e⟩ := PE.get (i := i) (by simpa using hi) h.2; exact ⟨c, by simpa using e⟩
  | [], [], _, hi, _ => by simp at hi
  | [], _ :: _, _, hi, _ => by simp at hi
  | _ :: _, [], _, _, h => h.elim

def pcs : List Nat → By → List By
  | [], _ => []
  | n :: ns, s => s.take n :: pcs ns (s.drop n)
theorem pcs_snoc : ∀ (l : List Nat) (n : Nat) (s : By), pcs (l ++ [n]) s = pcs l s ++ [(s.take (l.sum + n)).drop l.sum]
  | [], n, s => by simp [pcs]
  | m :: l, n, s => by
    simp only [List.cons_append,pcs,pcs_snoc l n,List.sum_cons,List.cons.injEq,true_and]
    congr 2
    rw [List.take_drop, List.drop_drop]
    congr 2
    omega
theorem pcs_len : ∀ (l : List Nat) (s : By), (pcs l s).length = l.length
  | [], _ => rfl
  | _ :: l, s => by simp [pcs,pcs_len l]

/-! ### the cutter -/
def cutL (cs R : List AV) (at' sum top op : AV) : List AV := cs ++ (R ++ [at', sum, top, op])
def CutV (cs R : List AV) (at' sum top op : AV) : AO := .row 32 [.agg (cutL cs R at' sum top op)]

section
variable {cs R : List AV} {a b c d x : AV}
theorem cl_len (h1 : cs.length = 12) (h2 : R.length = 16) : (cutL cs R a b c d).length = 32 := by simp [cutL,h1,h2]
theorem cl_28 (h1 : cs.length = 12) (h2 : R.length = 16) : (cutL cs R a b c d)[28]? = some a := by
  unfold cutL; rw [List.getElem?_append_right (by omega), List.getElem?_append_right (by omega), h1, h2]; rfl
theorem cl_29 (h1 : cs.length = 12) (h2 : R.length = 16) : (cutL cs R a b c d)[29]? = some b := by
  unfold cutL; rw [List.getElem?_append_right (by omega), List.getElem?_append_right (by omega), h1, h2]; rfl
theorem cl_30 (h1 : cs.length = 12) (h2 : R.length = 16) : (cutL cs R a b c d)[30]? = some c := by
  unfold cutL; rw [List.getElem?_append_right (by omega), List.getElem?_append_right (by omega), h1, h2]; rfl
theorem cl_31 (h1 : cs.length = 12) (h2 : R.length = 16) : (cutL cs R a b c d)[31]? = some d := by
  unfold cutL; rw [List.getElem?_append_right (by omega), List.getElem?_append_right (by omega), h1, h2]; rfl
theorem cl_c {i : Nat} (h1 : cs.length = 12) (hi : i < 12) : (cutL cs R a b c d)[i]? = cs[i]? := by
  unfold cutL; rw [List.getElem?_append_left (by omega)]
theorem cl_r {i : Nat} (h1 : cs.length = 12) (h2 : R.length = 16) (hi : i < 16) : (cutL cs R a b c d)[12 + i]? = R[i]? := by
  unfold cutL; rw [List.getElem?_append_right (by omega), h1, List.getElem?_append_left (by omega)]; congr 1; omega
theorem cl_s28 (h1 : cs.length = 12) (h2 : R.length = 16) : (cutL cs R a b c d).set 28 x = cutL cs R x b c d := by
  unfold cutL; rw [List.set_append_right _ _ (by omega), List.set_append_right _ _ (by omega), h1, h2]; rfl
theorem cl_s29 (h1 : cs.length = 12) (h2 : R.length = 16) : (cutL cs R a b c d).set 29 x = cutL cs R a x c d := by
  unfold cutL; rw [List.set_append_right _ _ (by omega), List.set_append_right _ _ (by omega), h1, h2]; rfl
theorem cl_s30 (h1 : cs.length = 12) (h2 : R.length = 16) : (cutL cs R a b c d).set 30 x = cutL cs R a b x d := by
  unfold cutL; rw [List.set_append_right _ _ (by omega), List.set_append_right _ _ (by omega), h1, h2]; rfl
theorem cl_s31 (h1 : cs.length = 12) (h2 : R.length = 16) : (cutL cs R a b c d).set 31 x = cutL cs R a b c x := by
  unfold cutL; rw [List.set_append_right _ _ (by omega), List.set_append_right _ _ (by omega), h1, h2]; rfl
theorem cl_sr {i : Nat} (h1 : cs.length = 12) (h2 : R.length = 16) (hi : i < 16) : (cutL cs R a b c d).set (12 + i) x = cutL cs (R.set i x) a b c d := by
  unfold cutL
  rw [List.set_append_right _ _ (by omega), h1, show 12 + i - 12 = i by omega, List.set_append_left _ _ (by omega)]
end

structure Ring (s : By) (i : Nat) (R : List Int) : Prop where
  len : R.length = 16
  is : ∀ j (hj : j < s.length), j < i → i ≤ j + 16 → R.getD (j % 16) 0 = (s[j].toNat : Nat)
theorem Ring.next {s : By} {i : Nat} {R : List Int} (r : Ring s i R) (hi : i < s.length) : Ring s (i + 1) (R.set (i % 16) (s[i].toNat : Nat)) := by
  refine ⟨by simp [r.len], fun j hj h1 h2 => ?_⟩
  have hm : i % 16 < 16 := Nat.mod_lt _ (by decide)
  have e : (R.set (i % 16) ((s[i].toNat : Nat) : Int)).getD (j % 16) 0 = if j % 16 = i % 16 then ((s[i].toNat : Nat) : Int) else R.getD (j % 16) 0 := by
    by_cases e : j % 16 = i % 16
    · rw [e]; simp [List.getD,r.len,hm]
    · rw [if_neg e]; simp [List.getD,List.getElem?_set_ne (Ne.symm e)]
  rw [e]
  by_cases hji : j = i
  · subst hji; rw [if_pos rfl]
  · rw [if_neg (by omega)]
    exact r.is j hj (by omega) (by omega)

section
variable {n : Nat} {tot : Bool} {ω : Nat → Nat} {h : Hp}

theorem c114 (cs : List AV) (s : By) (i id : Nat) (R : List Int) (op : AV) (hcs : cs.length = 12) (hR : Ring s i R) (hi : i < s.length) (hs : s.length ≤ 1000000000)
    (hid : h[id]? = some (CutV cs (intsOf .u8 R) (.int .i64 i) (.int .u32 (sW s i : Nat)) (.int .u32 (topZ : Nat)) op)) (hn : 1 < n) :
    call F n tot ω 114 [.ptr id 32 0 0, .int .u8 (s[i].toNat : Nat)] h = some (.tup [], h.set id (CutV cs (intsOf .u8 (R.set (i % 16) (s[i].toNat : Nat))) (.int .i64 (i + 1 : Nat)) (.int .u32 (sW s (i + 1) : Nat)) (.int .u32 (topZ : Nat)) op)) := by
  obtain ⟨n, rfl⟩ : ∃ m, n = m + 1 := ⟨n - 1, by omega⟩
  have hlt := (List.getElem?_eq_some_iff.1 hid).1
  have hRl : (intsOf .u8 R).length = 16 := by simp [intsOf,hR.len]
  refine call_eq (fn := a114) f114 ?_
  unfold a114
  unfold CutV at hid ⊢
  have et : ((i : Nat) : Int).tmod 16 = ((i % 16 : Nat) : Int) := by rw [tmod_pos (by omega)]; omega
  have hm : i % 16 < 16 := Nat.mod_lt _ (by decide)
  have hb := s[i].toNat_lt
  have eb : IntKind.u32.wrap ((s[i].toNat : Nat) : Int) = ((s[i].toNat : Nat) : Int) := wrap_u32 (by omega) (by omega)
  have ri : (intsOf .u8 R)[i % 16]? = some (.int .u8 (R.getD (i % 16) 0)) := by
    have : i % 16 < R.length := by rw [hR.len]; exact hm
    simp [intsOf,this,List.getD]
  have rs : (intsOf .u8 R).set (i % 16) (.int .u8 (s[i].toNat : Nat)) = intsOf .u8 (R.set (i % 16) ((s[i].toNat : Nat) : Int)) := by simp [intsOf,List.map_set]
  have hRl2 : (intsOf .u8 (R.set (i % 16) ((s[i].toNat : Nat) : Int))).length = 16 := by simp [intsOf,hR.len]
  have h12 : (12 + i % 16 < 32) = True := eq_true (by omega)
  by_cases h16 : 16 ≤ i
  · have e0 : R.getD (i % 16) 0 = ((s[i - 16].toNat : Nat) : Int) := by
      have := hR.is (i - 16) (by omega) (by omega) (by omega)
      rw [← this]; congr 1; omega
    rw [e0] at ri
    have hb2 := s[i - 16].toNat_lt
    have eb2 : IntKind.u32.wrap ((s[i - 16].toNat : Nat) : Int) = ((s[i - 16].toNat : Nat) : Int) := wrap_u32 (by omega) (by omega)
    have ew := sW_step s i hi h16
    simp (maxSteps := 2000000) (discharger := omega) only [xz,xc,xo,xr,x0,x1,x2,x3,x5,xd,wr,Reg.isA,Reg.isV,Reg.stays,Reg.onto,↓reduceIte,reduceCtorEq,Nat.reduceEqDiff,Nat.reduceLT,Nat.reduceAdd,Int.cast_ofNat_Int,exists_eq_left',xu,List.set_cons_zero,wrap_i64,int_lt_t,int_le_t,int_eq_f,hid,cl_28,cl_29,cl_30,cl_r,cl_len,cl_s28,cl_s29,cl_sr,et,ri,rs,Nat.mul_one,eb,eb2,ew,h12,get_set_self,List.set_set,Int.natCast_add]
  · have ew := sW_step0 s i hi (by omega)
    simp (maxSteps := 2000000) (discharger := omega) only [xz,xc,xo,xr,x0,x1,x2,x3,x5,xd,wr,Reg.isA,Reg.isV,Reg.stays,Reg.onto,↓reduceIte,reduceCtorEq,Nat.reduceEqDiff,Nat.reduceLT,Nat.reduceAdd,Int.cast_ofNat_Int,exists_eq_left',xu,List.set_cons_zero,wrap_i64,int_lt_t,int_le_t,int_le_f,int_eq_f,hid,cl_28,cl_29,cl_len,cl_s28,cl_s29,cl_sr,et,rs,Nat.mul_one,eb,ew,h12,get_set_self,List.set_set,Int.natCast_add]

def okConf (l m M : Int) : Prop := 1 ≤ l ∧ 1 ≤ m ∧ m ≤ 65536 ∧ l ≤ M ∧ M ≤ 4096
instance (l m M : Int) : Decidable (okConf l m M) := by unfold okConf; infer_instance

theorem c47y (c : AV) (l m M : Int) (hc : Cf c l m M) (hok : okConf l m M) (hn : 0 < n) : call F n tot ω 47 [c] h = some (.int .i64 0, h) := by
  obtain ⟨n, rfl⟩ : ∃ m, n = m + 1 := ⟨n - 1, by omega⟩
  obtain ⟨cs, rfl, hl, h8, h9, h10⟩ := hc.agg
  obtain ⟨k1, k2, k3, k4, k5⟩ := hok
  refine call_eq (fn := a47) f47 ?_
  unfold a47
  simp (maxSteps := 2000000) (discharger := omega) only [xz,xc,xo,xr,x0,x1,xd,Reg.isA,Reg.isV,Reg.stays,Reg.onto,↓reduceIte,reduceCtorEq,Nat.reduceEqDiff,Nat.reduceLT,beq_self_eq_true,exists_eq_left',Nat.reduceBEq,int_lt_f,hl,h8,h9,h10]
theorem c47n (c : AV) (l m M : Int) (hc : Cf c l m M) (hok : ¬ okConf l m M) (hn : 0 < n) : call F n tot ω 47 [c] h = some (.int .i64 1, h) := by
  obtain ⟨n, rfl⟩ : ∃ m, n = m + 1 := ⟨n - 1, by omega⟩
  obtain ⟨cs, rfl, hl, h8, h9, h10⟩ := hc.agg
  unfold okConf at hok
  refine call_eq (fn := a47) f47 ?_
  unfold a47
  by_cases e1 : l < 1
  · simp (maxSteps := 2000000) (discharger := omega) only [xz,xc,xo,xr,x0,x1,xd,xb,Reg.isA,Reg.isV,Reg.stays,Reg.onto,↓reduceIte,reduceCtorEq,Nat.reduceEqDiff,Nat.reduceLT,exists_eq_left',Nat.reduceBEq,int_lt_t,hl,h8]
  · by_cases e2 : m < 1
    · simp (maxSteps := 2000000) (discharger := omega) only [xz,xc,xo,xr,x0,x1,xd,xb,Reg.isA,Reg.isV,Reg.stays,Reg.onto,↓reduceIte,reduceCtorEq,Nat.reduceEqDiff,Nat.reduceLT,beq_self_eq_true,exists_eq_left',Nat.reduceBEq,int_lt_t,int_lt_f,hl,h8,h9]
    · by_cases e3 : m > 65536
      · simp (maxSteps := 2000000) (discharger := omega) only [xz,xc,xo,xr,x0,x1,xd,xb,Reg.isA,Reg.isV,Reg.stays,Reg.onto,↓reduceIte,reduceCtorEq,Nat.reduceEqDiff,Nat.reduceLT,beq_self_eq_true,exists_eq_left',Nat.reduceBEq,int_lt_t,int_lt_f,hl,h8,h9]
      · by_cases e4 : M < l
        · simp (maxSteps := 2000000) (discharger := omega) only [xz,xc,xo,xr,x0,x1,xd,xb,Reg.isA,Reg.isV,Reg.stays,Reg.onto,↓reduceIte,reduceCtorEq,Nat.reduceEqDiff,Nat.reduceLT,beq_self_eq_true,exists_eq_left',Nat.reduceBEq,int_lt_t,int_lt_f,hl,h8,h9,h10]
        · have e5 : M > 4096 := by omega
          simp (maxSteps := 2000000) (discharger := omega) only [xz,xc,xo,xr,x0,x1,xd,Reg.isA,Reg.isV,Reg.stays,Reg.onto,↓reduceIte,reduceCtorEq,Nat.reduceEqDiff,Nat.reduceLT,beq_self_eq_true,exists_eq_left',Nat.reduceBEq,int_lt_t,int_lt_f,hl,h8,h9,h10]

def topP (k : Nat) : Int := ((31 ^ k % 4294967296 : Nat) : Int)
theorem topP_step (k : Nat) : IntKind.u32.wrap (topP k * 31) = topP (k + 1) := by
  unfold topP; rw [wrap_u32_mod, Nat.pow_succ]; omega

def z16 : List AV := intsOf .u8 (List.replicate 16 0)
theorem c105 (cs : List AV) (l m M : Int) (hl : cs.length = 12) (h8 : cs[8]? = some (.int .i64 l)) (h9 : cs[9]? = some (.int .i64 m)) (h10 : cs[10]? = some (.int .i64 M)) (hok : okConf l m M) (hn : 30 < n) :
    call F n tot ω 105 [.agg cs] h = some (.tup [.ptr h.length 32 0 0, .int .i64 0], h ++ [CutV cs z16 (.int .i64 0) (.int .u32 0) (.int .u32 (topZ : Nat)) .nils]) := by
  obtain ⟨n, rfl⟩ : ∃ m, n = m + 1 := ⟨n - 1, by omega⟩
  refine call_eq (fn := a105) f105 ?_
  have k47 := fun h => c47y (n := n) (tot := tot) (ω := ω) (h := h) (.agg cs) l m M ⟨cs, rfl, hl, h8, h9, h10⟩ hok (by omega)
  have t12 : List.take 12 cs = cs := List.take_of_length_le (by omega)
  have lit1 : cs ++ ([AV.int .u8 0, AV.int .u8 0, AV.int .u8 0, AV.int .u8 0, AV.int .u8 0, AV.int .u8 0, AV.int .u8 0, AV.int .u8 0, AV.int .u8 0, AV.int .u8 0, AV.int .u8 0, AV.int .u8 0, AV.int .u8 0, AV.int .u8 0, AV.int .u8 0, AV.int .u8 0, .int .i64 0, .int .u32 0, .int .u32 0, .nils] : List AV) = cutL cs z16 (.int .i64 0) (.int .u32 0) (.int .u32 0) .nils := rfl
  unfold a105
  have hz16 : z16.length = 16 := rfl
  have hcl : ∀ {a b c d : AV}, (cutL cs z16 a b c d).length = 32 := cl_len hl rfl
  have lit2 : List.take 30 (cutL cs z16 (.int .i64 0) (.int .u32 0) (.int .u32 0) .nils) ++ AV.int .u32 1 :: List.drop 31 (cutL cs z16 (.int .i64 0) (.int .u32 0) (.int .u32 0) .nils) = cutL cs z16 (.int .i64 0) (.int .u32 0) (.int .u32 1) .nils := by
    rw [← cl_s30 (x := .int .u32 1) (c := .int .u32 0) hl rfl, List.set_eq_take_append_cons_drop, if_pos (by rw [hcl]; decide)]
  have tk : ∀ {a b c d : AV}, List.take 32 (cutL cs z16 a b c d) = cutL cs z16 a b c d := List.take_of_length_le (by rw [hcl]; exact Nat.le_refl _)
  simp (maxSteps := 2000000) (discharger := omega) only [xz,xc,xo,xr,x0,x1,x3,x5,xd,kont_call,place,partVals,Reg.isA,Reg.isV,Reg.stays,Reg.onto,↓reduceIte,reduceCtorEq,Nat.reduceEqDiff,Nat.reduceLT,Nat.reduceAdd,int_bne_f,nat_le_t,k47,hl,t12,lit1,hcl,lit2]
  refine wpi_loop (fun x r g => ∃ k : Nat, r = [(5, .val (.ptr h.length 32 0 0)), (14, .val (.int .i64 k))] ∧ x = 15 - k ∧ k ≤ 15 ∧ g = h ++ [CutV cs z16 (.int .i64 0) (.int .u32 0) (.int .u32 (topP k)) .nils]) 15 (by omega)
    ⟨0, rfl, rfl, by omega, rfl⟩ ?_
  rintro x r g ⟨k, rfl, rfl, hk, rfl⟩
  unfold CutV
  by_cases hlt : k < 15
  · simp (maxSteps := 2000000) (discharger := omega) only [xz,xc,xo,xr,x0,x1,x3,x5,xd,wr,Reg.isA,Reg.isV,Reg.stays,Reg.onto,↓reduceIte,Nat.reduceEqDiff,Nat.reduceLT,xu,List.set_cons_zero,wrap_i64,int_lt_t,hg0,hs0,cl_30,cl_s30,hcl,topP_step]
    exact ⟨15 - (k + 1), by omega, k + 1, by rw [show ((k : Nat) : Int) + 1 = ((k + 1 : Nat) : Int) by omega], rfl, by omega, rfl⟩
  · obtain rfl : k = 15 := by omega
    simp (maxSteps := 2000000) (discharger := omega) only [xz,xc,xo,xr,x0,x1,xd,Reg.isA,Reg.isV,Reg.stays,Reg.onto,↓reduceIte,Nat.reduceEqDiff,Nat.reduceLT,Int.cast_ofNat_Int,exists_eq_left',int_lt_f,Nat.sub_self]
    rfl

def opn (l m M : Int) (s : By) (i : Nat) : By := (s.take i).drop (cutSt l m M s i).2.sum
theorem opn_len (l m M : Int) (s : By) (i : Nat) (hi : i ≤ s.length) : (opn l m M s i).length = (cutSt l m M s i).1 := by
  have := (cutSt_sum l m M s i).1
  unfold opn; simp; omega

theorem opn_snoc (l m M : Int) (s : By) (i : Nat) (hi : i < s.length) : (s.take (i + 1)).drop (cutSt l m M s i).2.sum = opn l m M s i ++ [s[i]] := by
  have := (cutSt_sum l m M s i).1
  unfold opn
  rw [List.take_succ_eq_append_getElem hi, List.drop_append_of_le_length (by simp; omega)]

structure AddI (cs : List AV) (l m M : Int) (s : By) (id i : Nat) (h0 g : Hp) (ov : AV) : Prop where
  st : ∃ R kv, Ring s i R ∧ g[id]? = some (CutV cs (intsOf .u8 R) (.int .i64 i) (.int .u32 (sW s i : Nat)) (.int .u32 (topZ : Nat)) kv) ∧
    ∃ es tk to, PE (pcs (cutSt l m M s i).2 s) es ∧ TokAt 1 (bytesOf (opn l m M s i)) g kv tk ∧ TokAt 1 es g ov to ∧ (∀ x, tk = some x → id < x ∧ x < g.length) ∧ (∀ x, to = some x → id < x ∧ x < g.length) ∧ ∀ x, tk = some x → to ≠ some x
  low : h0.length ≤ g.length
  bel : ∀ j, j < id → g[j]? = h0[j]?

set_option maxRecDepth 100000 in
theorem c106 (cs : List AV) (l m M : Int) (s : By) (dv : AV) (id : Nat) (hl : cs.length = 12) (h8 : cs[8]? = some (.int .i64 l)) (h9 : cs[9]? = some (.int .i64 m)) (h10 : cs[10]? = some (.int .i64 M)) (hok : okConf l m M)
    (hdv : IsRd 1 (bytesOf s) dv) (hs : s.length ≤ 1000000)
    (hid : h[id]? = some (CutV cs z16 (.int .i64 0) (.int .u32 0) (.int .u32 (topZ : Nat)) .nils)) (hn : s.length + 30 < n) :
    ∃ ov h', call F n tot ω 106 [.ptr id 32 0 0, dv] h = some (ov, h') ∧ AddI cs l m M s id s.length h h' ov := by
  obtain ⟨n, rfl⟩ : ∃ m, n = m + 1 := ⟨n - 1, by omega⟩
  refine call_of (fn := a106) f106 (P := fun ov h' => AddI cs l m M s id s.length h h' ov) ?_
  obtain ⟨k1, k2, k3, k4, k5⟩ := hok
  have hlen := IsRd.len hdv
  rw [bytesOf_len] at hlen
  unfold a106
  simp (maxSteps := 2000000) (discharger := omega) only [xz,xc,xo,xr,x0,x2,x4,isNil,Bool.bne_false,Reg.isA,Reg.isV,Reg.stays,Reg.onto,↓reduceIte,reduceCtorEq,Nat.reduceEqDiff,Nat.reduceLT,Nat.reduceAdd,hlen]
  refine wpi_loop (fun x r g => ∃ (i : Nat) (ov : AV), r = [(0, .val (.ptr id 32 0 0)), (5, .val ov), (11, .val dv), (12, .val (.int .i64 s.length)), (13, .val (.int .i64 i))] ∧ x = s.length - i ∧ i ≤ s.length ∧ AddI cs l m M s id i h g ov) s.length (by omega)
    ⟨0, .nils, rfl, rfl, Nat.zero_le _, ⟨List.replicate 16 0, .nils, ⟨rfl, fun j hj h1 => by omega⟩, hid, [], none, none, trivial, tok_nils _ _ _, tok_nils _ _ _, by simp, by simp, by simp⟩, Nat.le_refl _, fun _ _ => rfl⟩ ?_
  rintro x r g ⟨i, ov, rfl, rfl, hi, ⟨R, kv, hR, hc, es, tk, to, p1, p2, p3, p4, p5, p6⟩, hlow, hbel⟩
  by_cases hlt : i < s.length
  · obtain ⟨cp, rfl⟩ := hdv.imm (i := i) (by rw [bytesOf_len]; exact hlt)
    have qb := bytesOf_get hlt
    have k114 := c114 (n := n) (tot := tot) (ω := ω) (h := g) cs s i id R kv hl hR hlt (by omega) hc (by omega)
    have hidl := (List.getElem?_eq_some_iff.1 hc).1
    have hR' := hR.next hlt
    generalize R.set (i % 16) ((s[i].toNat : Nat) : Int) = R' at *
    have hRl : (intsOf .u8 R').length = 16 := by simp [intsOf,hR'.len]
    have hsW : sW s (i + 1) = sumR s i := by unfold sW; rw [if_neg (by omega), show i + 1 - 1 = i by omega]
    have hsr := sumR_lt s i
    rw [hsW] at k114
    generalize hg1 : g.set id (CutV cs (intsOf .u8 R') (.int .i64 (i + 1 : Nat)) (.int .u32 (sumR s i : Nat)) (.int .u32 (topZ : Nat)) kv) = g1 at *
    have n1 : g1.length = g.length := by rw [← hg1]; simp
    have n2 : ∀ j, j ≠ id → g1[j]? = g[j]? := fun j hj => by rw [← hg1, List.getElem?_set_ne (Ne.symm hj)]
    have n3 : g1[id]? = some (CutV cs (intsOf .u8 R') (.int .i64 (i + 1 : Nat)) (.int .u32 (sumR s i : Nat)) (.int .u32 (topZ : Nat)) kv) := by rw [← hg1]; exact get_set_self hidl
    have p2' : TokAt 1 (bytesOf (opn l m M s i)) g1 kv tk := p2.keep fun j o hj ho => by
      have := p4 j hj
      rw [n2 _ (by omega)]; exact ho
    have p3' : TokAt 1 es g1 ov to := p3.keep fun j o hj ho => by
      have := p5 j hj
      rw [n2 _ (by omega)]; exact ho
    have hol := opn_len l m M s i hi
    obtain ⟨b1, b2, b3⟩ := cutSt_sum l m M s i
    obtain ⟨kv', g2, w1, w2, w3, w4, cw, w5⟩ := tok_app (bytes := 1) (xs := [.int .u8 (s[i].toNat : Nat)]) p2' (by simp) (by rw [bytesOf_len, hol]; simp; omega)
    have hg2 : g2[id]? = some (CutV cs (intsOf .u8 R') (.int .i64 (i + 1 : Nat)) (.int .u32 (sumR s i : Nat)) (.int .u32 (topZ : Nat)) kv) := w4 id _ n3 (fun e => by have := p4 _ e; omega)
    have hg2l := (List.getElem?_eq_some_iff.1 hg2).1
    have p3'' : TokAt 1 es g2 ov to := p3'.keep fun j o hj ho => w4 j o ho fun e => p6 j e hj
    have hsn := opn_snoc l m M s i hlt
    have hbo : bytesOf (opn l m M s i) ++ [AV.int .u8 (s[i].toNat : Nat)] = bytesOf (opn l m M s i ++ [s[i]]) := by simp [bytesOf]
    rw [hbo] at w2 w5
    have hln : (bytesOf (opn l m M s i ++ [s[i]])).length = (cutSt l m M s i).1 + 1 := by rw [bytesOf_len, List.length_append, hol]; rfl
    generalize hg3 : g2.set id (CutV cs (intsOf .u8 R') (.int .i64 (i + 1 : Nat)) (.int .u32 (sumR s i : Nat)) (.int .u32 (topZ : Nat)) kv') = g3
    have m1 : g3.length = g2.length := by rw [← hg3]; simp
    have m2 : ∀ j, j ≠ id → g3[j]? = g2[j]? := fun j hj => by rw [← hg3, List.getElem?_set_ne (Ne.symm hj)]
    have m3 : g3[id]? = some (CutV cs (intsOf .u8 R') (.int .i64 (i + 1 : Nat)) (.int .u32 (sumR s i : Nat)) (.int .u32 (topZ : Nat)) kv') := by rw [← hg3]; exact get_set_self hg2l
    have hg3l := (List.getElem?_eq_some_iff.1 m3).1
    have q2 : TokAt 1 (bytesOf (opn l m M s i ++ [s[i]])) g3 kv' (some g.length) := by
      rw [n1] at w2
      exact w2.keep fun j o hj ho => by cases hj; rw [m2 _ (by omega)]; exact ho
    have q3 : TokAt 1 es g3 ov to := p3''.keep fun j o hj ho => by
      have := p5 j hj
      rw [m2 _ (by omega)]; exact ho
    have hlow3 : h.length ≤ g3.length := by omega
    have hbel3 : ∀ j, j < id → g3[j]? = h[j]? := fun j hj => by
      have e : h[j]? = g[j]? := (hbel j hj).symm
      have hjl : j < g.length := by omega
      have e2 : g[j]? = some g[j] := List.getElem?_eq_getElem hjl
      rw [m2 _ (by omega), e, e2, w4 j g[j] (by rw [n2 _ (by omega)]; exact e2) (fun ee => by have := p4 _ ee; omega)]
    have wm : IntKind.u32.wrap m = m := wrap_u32 (by omega) (by omega)
    have hst : cutSt l m M s (i + 1) = if ((cutSt l m M s i).1 + 1 : Int) = M ∨ ((cutSt l m M s i).1 + 1 : Int) ≥ l ∧ ((sumR s i : Nat) : Int) % m = m - 1 then (0, (cutSt l m M s i).2 ++ [(cutSt l m M s i).1 + 1]) else ((cutSt l m M s i).1 + 1, (cutSt l m M s i).2) := rfl
    have hpl := pcs_len (cutSt l m M s i).2 s
    have hel := p1.len
    obtain ⟨ov', g4, y1, y2, y3, y4, cy, y5⟩ := tok_app (bytes := 24) (xs := [.imm 1 (bytesOf (opn l m M s i ++ [s[i]])) cw]) q3 (by simp) (by simp; omega)
    have m4 : g4[id]? = some (CutV cs (intsOf .u8 R') (.int .i64 (i + 1 : Nat)) (.int .u32 (sumR s i : Nat)) (.int .u32 (topZ : Nat)) kv') := y4 id _ m3 (fun e => by have := p5 _ e; omega)
    have hg4l := (List.getElem?_eq_some_iff.1 m4).1
    have fin1 : (cutSt l m M s (i + 1) = (0, (cutSt l m M s i).2 ++ [(cutSt l m M s i).1 + 1])) → AddI cs l m M s id (i + 1) h (g4.set id (CutV cs (intsOf .u8 R') (.int .i64 (i + 1 : Nat)) (.int .u32 (sumR s i : Nat)) (.int .u32 (topZ : Nat)) .nils)) ov' := fun e => by
      refine ⟨⟨R', .nils, hR', ?_, es ++ [.imm 1 (bytesOf (opn l m M s i ++ [s[i]])) cw], none, some g3.length, ?_, ?_, ?_, by simp, fun x hx => ?_, by simp⟩, by simp; omega, fun j hj => ?_⟩
      · rw [get_set_self hg4l, hsW]
      · rw [e]
        simp only
        rw [pcs_snoc]
        refine PE.app p1 ⟨cw, ?_⟩
        rw [show (cutSt l m M s i).2.sum + ((cutSt l m M s i).1 + 1) = i + 1 by omega, hsn]
      · have : opn l m M s (i + 1) = [] := by unfold opn; rw [e]; simp; omega
        rw [this]; exact tok_nils _ _ _
      · exact y2.keep fun j o hj ho => by cases hj; rw [List.getElem?_set_ne (by omega)]; exact ho
      · cases hx; exact ⟨by omega, by simp; omega⟩
      · have hjl : j < g3.length := by omega
        have e2 : g3[j]? = some g3[j] := List.getElem?_eq_getElem hjl
        rw [List.getElem?_set_ne (by omega), y4 j g3[j] e2 (fun ee => by have := p5 _ ee; omega), ← e2]
        exact hbel3 j hj
    have fin2 : (cutSt l m M s (i + 1) = ((cutSt l m M s i).1 + 1, (cutSt l m M s i).2)) → AddI cs l m M s id (i + 1) h g3 ov := fun e => by
      refine ⟨⟨R', kv', hR', by rw [hsW]; exact m3, es, some g.length, to, ?_, ?_, q3, fun x hx => ?_, fun x hx => ?_, fun x hx e2 => ?_⟩, hlow3, hbel3⟩
      · rw [e]; exact p1
      · have : opn l m M s (i + 1) = opn l m M s i ++ [s[i]] := by rw [← hsn]; unfold opn; rw [e]
        rw [this]; exact q2
      · cases hx; exact ⟨by omega, by omega⟩
      · have := p5 x hx; exact ⟨this.1, by omega⟩
      · cases hx; have := p5 _ e2; omega
    subst w5
    unfold CutV at n3 hg2 m3 m4 hg3 fin1
    have hmb1 : 0 ≤ ((sumR s i : Nat) : Int) % m := Int.emod_nonneg _ (by omega)
    have hmb2 : ((sumR s i : Nat) : Int) % m < m := Int.emod_lt_of_pos _ (by omega)
    by_cases hM : (((cutSt l m M s i).1 : Nat) : Int) + 1 = M
    · rw [if_pos (.inl hM)] at hst
      simp (maxSteps := 2000000) (discharger := omega) only [xz,xc,xo,xr,x0,x1,x3,x4,x5,xd,xb,kont_call,selems,srcElems,wr,partEs,placeEs,Reg.isA,Reg.isV,Reg.stays,Reg.onto,↓reduceIte,reduceCtorEq,Nat.reduceEqDiff,Nat.reduceLT,Nat.zero_lt_succ,xu,List.set_cons_zero,wrap_i64,int_lt_t,int_le_t,int_beq_t,qb,k114,n3,cl_31,cl_s31,cl_len,cl_c,h10,w1,p2.1.isRow,List.replicate,hg2,hg3,m3,hln,q3.1.isRow,y1,m4]
      exact ⟨s.length - (i + 1), by omega, i + 1, ov', by rw [show ((i : Nat) : Int) + 1 = ((i + 1 : Nat) : Int) by omega], rfl, by omega, fin1 hst⟩
    · by_cases hge : (((cutSt l m M s i).1 : Nat) : Int) + 1 ≥ l
      · by_cases hmd : ((sumR s i : Nat) : Int) % m = m - 1
        · rw [if_pos (.inr ⟨hge, hmd⟩)] at hst
          simp (maxSteps := 2000000) (discharger := omega) only [xz,xc,xo,xr,x0,x1,x2,x3,x4,x5,xd,xb,kont_call,selems,srcElems,wr,partEs,placeEs,Reg.isA,Reg.isV,Reg.stays,Reg.onto,↓reduceIte,reduceCtorEq,Nat.reduceEqDiff,Nat.reduceLT,Nat.zero_lt_succ,beq_self_eq_true,xu,List.set_cons_zero,wrap_i64,int_lt_t,int_le_t,int_eq_f,int_beq_t,int_beq_f,qb,k114,n3,cl_31,cl_s31,cl_29,cl_len,cl_c,h8,h9,h10,w1,p2.1.isRow,List.replicate,hg2,hg3,m3,hln,q3.1.isRow,y1,m4,wm,tmod_pos]
          exact ⟨s.length - (i + 1), by omega, i + 1, ov', by rw [show ((i : Nat) : Int) + 1 = ((i + 1 : Nat) : Int) by omega], rfl, by omega, fin1 hst⟩
        · rw [if_neg (by omega)] at hst
          simp (maxSteps := 2000000) (discharger := omega) only [xz,xc,xo,xr,x0,x1,x2,x3,x4,x5,xd,xb,kont_call,selems,srcElems,wr,partEs,placeEs,Reg.isA,Reg.isV,Reg.stays,Reg.onto,↓reduceIte,reduceCtorEq,Nat.reduceEqDiff,Nat.reduceLT,Nat.zero_lt_succ,beq_self_eq_true,xu,List.set_cons_zero,wrap_i64,int_lt_t,int_le_t,int_eq_f,int_beq_f,qb,k114,n3,cl_31,cl_s31,cl_29,cl_len,cl_c,h8,h9,h10,w1,p2.1.isRow,List.replicate,hg2,hg3,m3,hln,wm,tmod_pos]
          exact ⟨s.length - (i + 1), by omega, i + 1, ov, by rw [show ((i : Nat) : Int) + 1 = ((i + 1 : Nat) : Int) by omega], rfl, by omega, fin2 hst⟩
      · rw [if_neg (by omega)] at hst
        simp (maxSteps := 2000000) (discharger := omega) only [xz,xc,xo,xr,x0,x1,x3,x4,x5,xd,xb,kont_call,selems,srcElems,wr,partEs,placeEs,Reg.isA,Reg.isV,Reg.stays,Reg.onto,↓reduceIte,reduceCtorEq,Nat.reduceEqDiff,Nat.reduceLT,Nat.zero_lt_succ,beq_self_eq_true,xu,List.set_cons_zero,wrap_i64,int_lt_t,int_le_t,int_le_f,int_beq_f,qb,k114,n3,cl_31,cl_s31,cl_len,cl_c,h8,h10,w1,p2.1.isRow,List.replicate,hg2,hg3,m3,hln]
        exact ⟨s.length - (i + 1), by omega, i + 1, ov, by rw [show ((i : Nat) : Int) + 1 = ((i + 1 : Nat) : Int) by omega], rfl, by omega, fin2 hst⟩
  · obtain rfl : i = s.length := by omega
    simp (maxSteps := 2000000) (discharger := omega) only [xz,xc,xo,xr,x0,x1,xd,Reg.isA,Reg.isV,Reg.stays,Reg.onto,↓reduceIte,reduceCtorEq,Nat.reduceEqDiff,Nat.reduceLT,exists_eq_left',int_lt_f,Nat.sub_self]
    exact ⟨⟨R, kv, hR, hc, es, tk, to, p1, p2, p3, p4, p5, p6⟩, hlow, hbel⟩

theorem c107 (cs R : List AV) (id : Nat) (a b c kv : AV) (hl : cs.length = 12) (hR : R.length = 16) (hid : h[id]? = some (CutV cs R a b c kv)) (hn : 0 < n) (hk : kv.one = true) :
    call F n tot ω 107 [.ptr id 32 0 0] h = some (kv, h.set id (CutV cs R (.int .i64 0) (.int .u32 0) c .nils)) := by
  obtain ⟨n, rfl⟩ : ∃ m, n = m + 1 := ⟨n - 1, by omega⟩
  have hidl := (List.getElem?_eq_some_iff.1 hid).1
  refine call_eq (fn := a107) f107 ?_
  unfold a107
  unfold CutV at hid ⊢
  simp (maxSteps := 2000000) (discharger := omega) only [xz,xc,xo,xr,x0,x1,x2,x3,x5,xd,isNil,wr,Bool.bne_false,Reg.isA,Reg.isV,Reg.stays,Reg.onto,↓reduceIte,reduceCtorEq,Nat.reduceEqDiff,Nat.reduceLT,exists_eq_left',xu,List.set_cons_zero,hid,cl_31,cl_s31,cl_s28,cl_s29,cl_len,get_set_self,List.set_set]
end
end Go.Proofs.YtpgmohjmpaifbaaDoor.Im

/- S21Rs: the reference's digest: turns, the padded text. -/
set_option linter.unusedVariables false
set_option linter.unusedSimpArgs false
open Go Go.Im
namespace Go.Proofs.YtpgmohjmpaifbaaDoor.Im

def turnI (x : Int) : Nat → Int
  | 0 => x
  | k + 1 => IntKind.u32.wrap (IntKind.u32.wrap ((turnI x k).tdiv 2) + IntKind.u32.wrap ((turnI x k).tmod 2 * 2147483648))

section
variable {n : Nat} {tot : Bool} {ω : Nat → Nat} {h : Hp}

theorem c85 (x : Int) (k : Nat) (hk : k ≤ 32) (hn : 40 < n) : call F n tot ω 85 [.int .u32 x, .int .i64 k] h = some (.int .u32 (turnI x k), h) := by
  obtain ⟨n, rfl⟩ : ∃ m, n = m + 1 := ⟨n - 1, by omega⟩
  refine call_eq (fn := a85) f85 ?_
  unfold a85
  simp (maxSteps := 2000000) (discharger := omega) only [xz,xc,xo,xr,x0,Reg.isA,Reg.isV,Reg.stays,Reg.onto,↓reduceIte,reduceCtorEq,Nat.reduceEqDiff,Nat.reduceLT,Nat.reduceAdd]
  refine wpi_loop (fun y r g' => ∃ (i : Nat), r = [(0, .val (.int .u32 (turnI x i))), (1, .val (.int .i64 k)), (5, .val (.int .i64 i))] ∧ y = k - i ∧ i ≤ k ∧ g' = h) k (by omega)
    ⟨0, rfl, rfl, Nat.zero_le _, rfl⟩ ?_
  rintro y r g' ⟨i, rfl, rfl, hi, rfl⟩
  by_cases hlt : i < k
  · simp (maxSteps := 2000000) (discharger := omega) only [xz,xc,xo,xr,x0,x1,xd,Reg.isA,Reg.isV,Reg.stays,Reg.onto,↓reduceIte,reduceCtorEq,Nat.reduceEqDiff,Nat.reduceLT,wrap_i64,int_lt_t,int_eq_f]
    exact ⟨k - (i + 1), by omega, i + 1, by rw [show ((i : Nat) : Int) + 1 = ((i + 1 : Nat) : Int) by omega]; rfl, rfl, by omega⟩
  · obtain rfl : i = k := by omega
    simp (maxSteps := 2000000) (discharger := omega) only [xz,xc,xo,xr,x0,x1,xd,Reg.isA,Reg.isV,Reg.stays,Reg.onto,↓reduceIte,reduceCtorEq,Nat.reduceEqDiff,Nat.reduceLT,exists_eq_left',int_lt_f,Nat.sub_self]

theorem late_app0 {lo sz bytes : Nat} {es xs : List AV} {h : Hp} {v : AV} (hv : LateApp lo sz es h v) (hlo : lo ≤ h.length) (hb : (es.length + xs.length) * bytes ≤ 140737488355328) :
    ∃ v' h', appendV false sz bytes v xs h = some (v', h') ∧ LateApp lo sz (es ++ xs) h' v' ∧ Below lo h h' := by
  by_cases hx : xs = []
  · subst hx
    exact ⟨v, h, app_nil hv.1, by rw [List.append_nil]; exact hv, .refl _ _⟩
  · exact late_app hv hlo hx hb

def lenB (s : By) : Nat → By
  | 0 => []
  | k + 1 => lenB s k ++ [UInt8.ofNat (s.length * 8 / 256 ^ (7 - k) % 256)]
def padZ (s : By) : Nat := (119 - s.length % 64) % 64
def padR (s : By) : By := s ++ [128] ++ List.replicate (padZ s) 0 ++ lenB s 8

theorem lenB_len (s : By) : ∀ k, (lenB s k).length = k
  | 0 => rfl
  | k + 1 => by simp [lenB,lenB_len s k]
theorem padR_len (s : By) : (padR s).length % 64 = 0 ∧ (padR s).length = s.length + 9 + padZ s := by
  have : (padR s).length = s.length + 9 + padZ s := by simp [padR,lenB_len]; omega
  refine ⟨?_, this⟩
  rw [this]; unfold padZ; omega
theorem padZ_lt (s : By) : padZ s < 64 := Nat.mod_lt _ (by decide)

theorem u8_nat (x : Nat) (hx : x < 256) : (((UInt8.ofNat x).toNat : Nat) : Int) = (x : Int) := by
  have : (UInt8.ofNat x).toNat = x := by rw [UInt8.toNat_ofNat']; exact Nat.mod_eq_of_lt hx
  rw [this]

theorem c84 (s : By) (hs : s.length ≤ 1000000000) (hn : 80 < n) : ∃ h', call F n tot ω 84 [.str s] h = some (.str (padR s), h') ∧ Below h.length h h' := by
  obtain ⟨n, rfl⟩ : ∃ m, n = m + 1 := ⟨n - 1, by omega⟩
  suffices hx : ∃ v2 h', call F (n + 1) tot ω 84 [.str s] h = some (v2, h') ∧ v2 = .str (padR s) ∧ Below h.length h h' by
    obtain ⟨v2, h', e1, rfl, e2⟩ := hx
    exact ⟨h', e1, e2⟩
  refine call_of (fn := a84) f84 (P := fun v2 h' => v2 = .str (padR s) ∧ Below h.length h h') ?_
  unfold a84
  obtain ⟨v1, h1, w1, w2, w3⟩ := late_app0 (lo := h.length) (sz := 1) (bytes := 1) (xs := bytesOf s) (late_nils h.length 1 h) (Nat.le_refl _) (by simp [bytesOf]; omega)
  rw [List.nil_append] at w2
  obtain ⟨v2, h2, z1, z2, z3⟩ := late_app (bytes := 1) (xs := [.int .u8 128]) w2 w3.1 (by simp) (by simp [bytesOf]; omega)
  simp (maxSteps := 2000000) (discharger := omega) only [xz,xc,xo,xr,x0,x3,x5,xd,xb,selems,srcElems,partEs,placeEs,Reg.isA,Reg.isV,Reg.stays,Reg.onto,↓reduceIte,reduceCtorEq,Nat.reduceEqDiff,Nat.reduceLT,Nat.zero_lt_succ,List.set_cons_zero,w1,z1,w2.1.isRow,List.replicate]
  have hB2 := w3.trans z3
  have hZ := padZ_lt s
  have e128 : ∀ j, bytesOf (s ++ [128] ++ List.replicate j 0) ++ [.int .u8 0] = bytesOf (s ++ [128] ++ List.replicate (j + 1) 0) := fun j => by
    rw [List.replicate_succ', ← List.append_assoc]; simp [bytesOf]
  refine wpi_loop (fun y r g' => ∃ (j : Nat) (bv : AV), r = [(0, .val (.str s)), (3, .val bv)] ∧ y = padZ s - j ∧ j ≤ padZ s ∧ LateApp h.length 1 (bytesOf (s ++ [128] ++ List.replicate j 0)) g' bv ∧ Below h.length h g') (padZ s) (by omega)
    ⟨0, v2, rfl, rfl, Nat.zero_le _, by simpa [bytesOf] using z2, hB2⟩ ?_
  rintro y r g' ⟨j, bv, rfl, rfl, hj, hA, hB⟩
  have hlen := hA.1.len
  have hll : (bytesOf (s ++ [128] ++ List.replicate j 0)).length = s.length + 1 + j := by simp [bytesOf]; omega
  rw [hll] at hlen
  by_cases hlt : j < padZ s
  · obtain ⟨v3, h3, y1, y2, y3⟩ := late_app (bytes := 1) (xs := [.int .u8 0]) hA hB.1 (by simp) (by rw [hll]; simp; omega)
    have hne : ¬ ((s.length + 1 + j : Nat) : Int) % 64 = 56 := by unfold padZ at hlt; omega
    simp (maxSteps := 2000000) (discharger := omega) only [xz,xc,xo,xr,x0,x1,x3,x4,x5,xd,xb,selems,srcElems,partEs,placeEs,Reg.isA,Reg.isV,Reg.stays,Reg.onto,↓reduceIte,reduceCtorEq,Nat.reduceEqDiff,Nat.reduceLT,Nat.zero_lt_succ,List.set_cons_zero,int_eq_f,int_bne_t,hlen,tmod_pos,y1,hA.1.isRow,List.replicate]
    exact ⟨padZ s - (j + 1), by omega, j + 1, v3, rfl, rfl, by omega, by rw [← e128]; exact y2, hB.trans y3⟩
  · obtain rfl : j = padZ s := by omega
    have heq : ((s.length + 1 + padZ s : Nat) : Int) % 64 = 56 := by unfold padZ; omega
    have e8 : IntKind.u64.wrap ((s.length : Nat) : Int) = ((s.length : Nat) : Int) := wrap_u64 (by omega) (by omega)
    have e9 : IntKind.u64.wrap (((s.length : Nat) : Int) * 8) = ((s.length * 8 : Nat) : Int) := by rw [wrap_u64 (by omega) (by omega)]; omega
    simp (maxSteps := 2000000) (discharger := omega) only [xz,xc,xo,xr,x0,x1,x2,x4,xd,Reg.isA,Reg.isV,Reg.stays,Reg.onto,↓reduceIte,reduceCtorEq,Nat.reduceEqDiff,Nat.reduceLT,int_eq_f,int_bne_f,Nat.sub_self,hlen,tmod_pos,e8,e9]
    refine wpi_loop (fun y r g => ∃ (k : Nat) (bv : AV), r = [(3, .val bv), (4, .val (.int .u64 (s.length * 8 : Nat))), (5, .val (.int .i64 (7 - (k : Int))))] ∧ y = 8 - k ∧ k ≤ 8 ∧ LateApp h.length 1 (bytesOf (s ++ [128] ++ List.replicate (padZ s) 0 ++ lenB s k)) g bv ∧ Below h.length h g) 8 (by omega)
      ⟨0, bv, rfl, rfl, by omega, by simpa [lenB] using hA, hB⟩ ?_
    rintro y r g ⟨k, bv', rfl, rfl, hk, hA', hB'⟩
    by_cases hk8 : k < 8
    · simp (maxSteps := 2000000) (discharger := omega) only [xz,xc,xo,xr,x0,x1,xd,Reg.isA,Reg.isV,Reg.stays,Reg.onto,↓reduceIte,Nat.reduceEqDiff,Nat.reduceLT,int_le_t]
      refine wpi_loop (fun y r g2 => ∃ (q : Nat), r = [(3, .val bv'), (4, .val (.int .u64 (s.length * 8 : Nat))), (5, .val (.int .i64 (7 - (k : Int)))), (6, .val (.int .u64 (s.length * 8 / 256 ^ q : Nat))), (7, .val (.int .i64 q))] ∧ y = 7 - k - q ∧ q ≤ 7 - k ∧ g2 = g) (7 - k) (by omega)
        ⟨0, by simp, rfl, Nat.zero_le _, rfl⟩ ?_
      rintro y r g2 ⟨q, rfl, rfl, hq, rfl⟩
      have hle : s.length * 8 / 256 ^ q ≤ s.length * 8 := Nat.div_le_self _ _
      by_cases hqk : q < 7 - k
      · have e1 : s.length * 8 / 256 ^ (q + 1) = s.length * 8 / 256 ^ q / 256 := by rw [Nat.pow_succ, Nat.div_div_eq_div_mul]
        generalize s.length * 8 / 256 ^ q = x at *
        simp (maxSteps := 2000000) (discharger := omega) only [xz,xc,xo,xr,x0,x1,xd,Reg.isA,Reg.isV,Reg.stays,Reg.onto,↓reduceIte,Nat.reduceEqDiff,Nat.reduceLT,wrap_i64,int_lt_t,int_eq_f,tdiv_pos,wrap_u64]
        exact ⟨7 - k - (q + 1), by omega, q + 1, by rw [e1, show ((q : Nat) : Int) + 1 = ((q + 1 : Nat) : Int) by omega, show ((x : Nat) : Int) / 256 = ((x / 256 : Nat) : Int) by omega], rfl, by omega⟩
      · obtain rfl : q = 7 - k := by omega
        have e1 : lenB s (k + 1) = lenB s k ++ [UInt8.ofNat (s.length * 8 / 256 ^ (7 - k) % 256)] := rfl
        have e2 := u8_nat (s.length * 8 / 256 ^ (7 - k) % 256) (Nat.mod_lt _ (by decide))
        have hlk := lenB_len s k
        generalize s.length * 8 / 256 ^ (7 - k) = x at *
        have e3 : ((x : Nat) : Int) % 256 = (((UInt8.ofNat (x % 256)).toNat : Nat) : Int) := by rw [e2]; omega
        have e4 : (((UInt8.ofNat (x % 256)).toNat : Nat) : Int) ≤ 255 := by rw [e2]; omega
        obtain ⟨v3, h3, y1, y2, y3⟩ := late_app (bytes := 1) (xs := [.int .u8 ((UInt8.ofNat (x % 256)).toNat : Nat)]) hA' hB'.1 (by simp) (by simp [bytesOf,hlk]; omega)
        simp (maxSteps := 2000000) (discharger := omega) only [xz,xc,xo,xr,x0,x1,x2,x3,x5,xd,xb,selems,srcElems,partEs,placeEs,Reg.isA,Reg.isV,Reg.stays,Reg.onto,↓reduceIte,Nat.reduceEqDiff,Nat.reduceLT,Nat.zero_lt_succ,List.set_cons_zero,wrap_i64,int_lt_f,int_eq_f,Nat.sub_self,tmod_pos,e3,wrap_u8,y1,hA'.1.isRow,List.replicate]
        refine ⟨8 - (k + 1), by omega, k + 1, v3, by rw [show 7 - ((k : Nat) : Int) - 1 = 7 - ((k + 1 : Nat) : Int) by omega], rfl, by omega, ?_, hB'.trans y3⟩
        rw [e1, ← List.append_assoc]
        simpa [bytesOf] using y2
    · obtain rfl : k = 8 := by omega
      obtain ⟨cc, hcc⟩ := hA'.1.imm (by simp [bytesOf])
      subst hcc
      simp (maxSteps := 2000000) (discharger := omega) only [xz,xc,xo,xr,x0,x1,x2,xd,xe,xb,selems,Reg.isA,Reg.isV,Reg.stays,Reg.onto,↓reduceIte,Nat.reduceEqDiff,Nat.reduceLT,Int.cast_ofNat_Int,exists_eq_left',Int.reduceNeg,Int.reduceSub,int_le_f,Nat.sub_self]
      exact ⟨rfl, hB'⟩
end
end Go.Proofs.YtpgmohjmpaifbaaDoor.Im

/- Joined: S21Sm, S21Ss, S21Fi, S21Pa, S21Pe, S21Ck, S21Bv, S21Lb, S21Lk. -/
import Derived.Test.YtpgmohjmpaifbaaDoorSt
import Derived.Test.YtpgmohjmpaifbaaDoorBd
import Derived.Test.YtpgmohjmpaifbaaDoorEq
import Derived.Test.YtpgmohjmpaifbaaDoorImRng
import Derived.KernelRfl
import Derived.Test.YtpgmohjmpaifbaaDoorDp
/- S21Sm: slices.SortStableFunc: merging in place. -/
set_option linter.unusedVariables false
set_option linter.unusedSimpArgs false
set_option linter.unusedSectionVars false
open Go Go.Im Go.Sort
namespace Go.Proofs.YtpgmohjmpaifbaaDoor.Im
section
variable {α : Type} [Inhabited α] {e : α → AV} {lt : α → α → Bool} {tot : Bool} {ω : Nat → Nat} {B : Nat} {g : FuncId} {fs caps : List AV} {h0 : Hp} {id : Nat} {pre post : List AV}

def Mgd (e : α → AV) (lt : α → α → Bool) (h0 : Hp) (id : Nat) (pre post : List AV) (a b : Nat) (d : Array α) (h' : Hp) : Prop :=
  ∃ d', Lies h0 id 2 (Full e pre post d') h' ∧ PermIn a b d d' ∧ SortedIn lt a b d'

theorem lt_of_le {lt : α → α → Bool} (hS : SWO lt) {x y z : α} (h1 : lt y x = false) (h2 : lt y z = true) : lt x z = true := by
  cases hx : lt x z with
  | true => rfl
  | false => rw [hS.ntrans _ _ _ h1 hx] at h2; cases h2
theorem lt_of_le' {lt : α → α → Bool} (hS : SWO lt) {x y z : α} (h1 : lt z y = false) (h2 : lt x y = true) : lt x z = true := by
  cases hx : lt x z with
  | true => rfl
  | false => rw [hS.ntrans _ _ _ hx h1] at h2; cases h2

theorem w_y1 (hS : SWO lt) (C : Cm e lt tot ω B g fs caps h0 id pre post) (c : Bool) (d : Array α) (a m b n : Nat) (h : Hp) (hd : d.size ≤ 1000000000) (ham : m = a + 1) (hmb : m < b) (hb : b ≤ d.size)
    (hL : Lies h0 id 2 (Full e pre post d) h) (hn : B + d.size + 5 < n) (h2 : SortedIn lt m b d) :
    Wp (kont F n tot ω) n y1 [(0, .val (.row id 2 pre.length d.size c)), (1, .val (.int .i64 a)), (2, .val (.int .i64 m)), (3, .val (.int .i64 b)), (4, .val (.fn (.func g) fs caps)), (28, .val (.bool true))] h
      fun e1 r' h' => e1 = .ret ∧ Mgd e lt h0 id pre post a b d h' := by
  unfold y1
  have hE := C.enc
  simp (maxSteps := 2000000) (discharger := omega) only [xz,xc,xo,xr,x0,Reg.isA,Reg.isV,Reg.stays,Reg.onto,↓reduceIte,reduceCtorEq,Nat.reduceEqDiff,Nat.reduceLT]
  refine wpi_loop (fun x r g' => ∃ (i j : Nat), r = [(0, .val (.row id 2 pre.length d.size c)), (1, .val (.int .i64 a)), (4, .val (.fn (.func g) fs caps)), (10, .val (.int .i64 i)), (11, .val (.int .i64 j))] ∧
    x = j - i ∧ m ≤ i ∧ i ≤ j ∧ j ≤ b ∧ Lies h0 id 2 (Full e pre post d) g' ∧ (∀ k, m ≤ k → k < i → lt d[k]! d[a]! = true) ∧ ∀ k, j ≤ k → k < b → lt d[k]! d[a]! = false) (b - m) (by omega)
    ⟨m, b, rfl, rfl, by omega, by omega, by omega, hL, fun k h3 h4 => by omega, fun k h3 h4 => by omega⟩ ?_
  rintro x r g' ⟨i, j, rfl, rfl, hmi, hij, hjb, hL, hl, hr⟩
  by_cases hlt : i < j
  · obtain ⟨q, hq⟩ : ∃ q, (i + j) / 2 = q := ⟨_, rfl⟩
    have hq1 : i ≤ q := by omega
    have hq2 : q < j := by omega
    have hqf := half_nat i j
    rw [hq] at hqf
    obtain ⟨rr, g2, hc1, hc2, hc3⟩ := C.cmp n (by omega) d[q]! d[a]! d _ hL
    have hL2 := hL.more hc2
    have q1 := hL.row
    by_cases hr0 : rr < 0
    · simp (maxSteps := 2000000) (discharger := omega) only [xz,xc,xo,xr,x0,x1,x2,xd,kont_call,Reg.isA,Reg.isV,Reg.stays,Reg.onto,↓reduceIte,reduceCtorEq,Nat.reduceEqDiff,Nat.reduceLT,Int.reduceToNat,wrap_i64,int_lt_t,int_lt_f,int_le_t,full_get,wrap_u64,hqf,q1,hc1,hr0,hE.sub]
      refine ⟨j - (q + 1), by omega, q + 1, j, by rw [show ((q : Nat) : Int) + 1 = ((q + 1 : Nat) : Int) by omega], rfl, by omega, by omega, hjb, hL2, fun k h3 h4 => ?_, hr⟩
      refine lt_of_le hS (SortedIn.le hS h2 h3 (show k ≤ q by omega) (by omega)) ?_
      rw [← hc3]; simp [hr0]
    · simp (maxSteps := 2000000) (discharger := omega) only [xz,xc,xo,xr,x0,x1,x2,xd,kont_call,Reg.isA,Reg.isV,Reg.stays,Reg.onto,↓reduceIte,reduceCtorEq,Nat.reduceEqDiff,Nat.reduceLT,Int.reduceToNat,wrap_i64,int_lt_t,int_lt_f,int_le_t,full_get,wrap_u64,hqf,q1,hc1,hr0,hE.sub]
      refine ⟨q - i, by omega, i, q, rfl, rfl, hmi, hq1, by omega, hL2, hl, fun k h3 h4 => ?_⟩
      refine hS.ntrans _ d[q]! _ (SortedIn.le hS h2 (by omega) h3 h4) ?_
      rw [← hc3]; simp [hr0]
  · obtain rfl : i = j := by omega
    simp (maxSteps := 2000000) (discharger := omega) only [xz,xc,xo,xr,x0,x1,xd,Reg.isA,Reg.isV,Reg.stays,Reg.onto,↓reduceIte,reduceCtorEq,Nat.reduceEqDiff,Nat.reduceLT,int_lt_f]
    unfold y1b
    simp (maxSteps := 2000000) (discharger := omega) only [xz,xc,xo,xr,x0,Reg.isA,Reg.isV,Reg.stays,Reg.onto,↓reduceIte,reduceCtorEq,Nat.reduceEqDiff,Nat.reduceLT]
    refine wpi_loop (fun x r g' => ∃ (k : Nat) (d' : Array α), r = [(0, .val (.row id 2 pre.length d.size c)), (10, .val (.int .i64 i)), (13, .val (.int .i64 k))] ∧
      x = i - 1 - k ∧ a ≤ k ∧ k ≤ i - 1 ∧ Lies h0 id 2 (Full e pre post d') g' ∧ Up a k d d') (i - 1 - a) (by omega)
      ⟨a, d, rfl, rfl, by omega, by omega, hL, .zero⟩ ?_
    rintro x r g'' ⟨k, d', rfl, rfl, hak, hki, hL, hU⟩
    have hd' := hU.size
    by_cases hk : k < i - 1
    · have q1 := hL.row
      have q3 := hL.idlt
      have e1 : ((k : Int) + 1).toNat = k + 1 := by omega
      simp (maxSteps := 2000000) (discharger := omega) only [xz,xc,xo,xr,x0,x1,x5,xd,wr,Reg.isA,Reg.isV,Reg.stays,Reg.onto,↓reduceIte,reduceCtorEq,Nat.reduceEqDiff,Nat.reduceLT,wrap_i64,int_lt_t,int_le_t,full_get,full_get1,full_set,full_set1,get_set_self,List.set_set,q1,e1,hE.sub,hE.upd,hE.nt,hE.len]
      refine ⟨i - 1 - (k + 1), by omega, k + 1, swp d' k (k + 1), by rw [show ((k : Nat) : Int) + 1 = ((k + 1 : Nat) : Int) by omega], rfl, by omega, by omega, hL.set, hU.succ hak (by omega)⟩
    · obtain rfl : k = i - 1 := by omega
      simp (maxSteps := 2000000) (discharger := omega) only [xz,xc,xo,xr,x0,x1,xd,Reg.isA,Reg.isV,Reg.stays,Reg.onto,↓reduceIte,reduceCtorEq,Nat.reduceEqDiff,Nat.reduceLT,wrap_i64,int_lt_f]
      refine ⟨d', hL, permIn_mono _ _ _ _ _ _ (Nat.le_refl _) (by omega) hb hU.perm, hU.sorted hS hak (by omega) (by rw [← ham]; exact h2) (fun k h3 h4 => hl k (by omega) (by omega)) fun k h3 h4 => hr k (by omega) h4⟩

theorem w_y2 (hS : SWO lt) (C : Cm e lt tot ω B g fs caps h0 id pre post) (c : Bool) (d : Array α) (a m b n : Nat) (h : Hp) (hd : d.size ≤ 1000000000) (ham : a < m) (hmb : b = m + 1) (hb : b ≤ d.size)
    (hL : Lies h0 id 2 (Full e pre post d) h) (hn : B + d.size + 5 < n) (h2 : SortedIn lt a m d) :
    Wp (kont F n tot ω) n y2 [(0, .val (.row id 2 pre.length d.size c)), (1, .val (.int .i64 a)), (2, .val (.int .i64 m)), (3, .val (.int .i64 b)), (4, .val (.fn (.func g) fs caps)), (80, .val (.bool true))] h
      fun e1 r' h' => e1 = .ret ∧ Mgd e lt h0 id pre post a b d h' := by
  unfold y2
  have hE := C.enc
  simp (maxSteps := 2000000) (discharger := omega) only [xz,xc,xo,xr,x0,Reg.isA,Reg.isV,Reg.stays,Reg.onto,↓reduceIte,reduceCtorEq,Nat.reduceEqDiff,Nat.reduceLT]
  refine wpi_loop (fun x r g' => ∃ (i j : Nat), r = [(0, .val (.row id 2 pre.length d.size c)), (2, .val (.int .i64 m)), (4, .val (.fn (.func g) fs caps)), (14, .val (.int .i64 i)), (15, .val (.int .i64 j))] ∧
    x = j - i ∧ a ≤ i ∧ i ≤ j ∧ j ≤ m ∧ Lies h0 id 2 (Full e pre post d) g' ∧ (∀ k, a ≤ k → k < i → lt d[m]! d[k]! = false) ∧ ∀ k, j ≤ k → k < m → lt d[m]! d[k]! = true) (m - a) (by omega)
    ⟨a, m, rfl, rfl, by omega, by omega, by omega, hL, fun k h3 h4 => by omega, fun k h3 h4 => by omega⟩ ?_
  rintro x r g' ⟨i, j, rfl, rfl, hmi, hij, hjb, hL, hl, hr⟩
  by_cases hlt : i < j
  · obtain ⟨q, hq⟩ : ∃ q, (i + j) / 2 = q := ⟨_, rfl⟩
    have hq1 : i ≤ q := by omega
    have hq2 : q < j := by omega
    have hqf := half_nat i j
    rw [hq] at hqf
    obtain ⟨rr, g2, hc1, hc2, hc3⟩ := C.cmp n (by omega) d[m]! d[q]! d _ hL
    have hL2 := hL.more hc2
    have q1 := hL.row
    by_cases hr0 : rr < 0
    · simp (maxSteps := 2000000) (discharger := omega) only [xz,xc,xo,xr,x0,x1,x2,xd,kont_call,Reg.isA,Reg.isV,Reg.stays,Reg.onto,↓reduceIte,reduceCtorEq,Nat.reduceEqDiff,Nat.reduceLT,Int.reduceToNat,wrap_i64,int_lt_t,int_lt_f,int_le_t,full_get,wrap_u64,hqf,q1,hc1,hr0,hE.sub]
      refine ⟨q - i, by omega, i, q, rfl, rfl, hmi, hq1, by omega, hL2, hl, fun k h3 h4 => ?_⟩
      refine lt_of_le' hS (SortedIn.le hS h2 (by omega) h3 h4) ?_
      rw [← hc3]; simp [hr0]
    · simp (maxSteps := 2000000) (discharger := omega) only [xz,xc,xo,xr,x0,x1,x2,xd,kont_call,Reg.isA,Reg.isV,Reg.stays,Reg.onto,↓reduceIte,reduceCtorEq,Nat.reduceEqDiff,Nat.reduceLT,Int.reduceToNat,wrap_i64,int_lt_t,int_lt_f,int_le_t,full_get,wrap_u64,hqf,q1,hc1,hr0,hE.sub]
      refine ⟨j - (q + 1), by omega, q + 1, j, by rw [show ((q : Nat) : Int) + 1 = ((q + 1 : Nat) : Int) by omega], rfl, by omega, by omega, hjb, hL2, fun k h3 h4 => ?_, hr⟩
      refine hS.ntrans _ d[q]! _ ?_ (SortedIn.le hS h2 h3 (show k ≤ q by omega) (by omega))
      rw [← hc3]; simp [hr0]
  · obtain rfl : i = j := by omega
    simp (maxSteps := 2000000) (discharger := omega) only [xz,xc,xo,xr,x0,x1,xd,Reg.isA,Reg.isV,Reg.stays,Reg.onto,↓reduceIte,reduceCtorEq,Nat.reduceEqDiff,Nat.reduceLT,int_lt_f]
    unfold y2b
    simp (maxSteps := 2000000) (discharger := omega) only [xz,xc,xo,xr,x0,Reg.isA,Reg.isV,Reg.stays,Reg.onto,↓reduceIte,reduceCtorEq,Nat.reduceEqDiff,Nat.reduceLT]
    refine wpi_loop (fun x r g' => ∃ (k : Nat) (d' : Array α), r = [(0, .val (.row id 2 pre.length d.size c)), (14, .val (.int .i64 i)), (17, .val (.int .i64 k))] ∧
      x = k - i ∧ i ≤ k ∧ k ≤ m ∧ Lies h0 id 2 (Full e pre post d') g' ∧ Dn k m d d') (m - i) (by omega)
      ⟨m, d, rfl, rfl, by omega, by omega, hL, .zero⟩ ?_
    rintro x r g'' ⟨k, d', rfl, rfl, hak, hki, hL, hU⟩
    have hd' := hU.size
    by_cases hk : i < k
    · obtain ⟨k, rfl⟩ : ∃ k', k = k' + 1 := ⟨k - 1, by omega⟩
      have q1 := hL.row
      have q3 := hL.idlt
      have e1 : (((k + 1 : Nat) : Int) - 1).toNat = k := by omega
      simp (maxSteps := 2000000) (discharger := omega) only [xz,xc,xo,xr,x0,x1,x5,xd,wr,Reg.isA,Reg.isV,Reg.stays,Reg.onto,↓reduceIte,reduceCtorEq,Nat.reduceEqDiff,Nat.reduceLT,wrap_i64,int_lt_t,int_le_t,full_get,full_get1,full_set,full_set1,get_set_self,List.set_set,q1,e1,hE.sub,hE.upd,hE.nt,hE.len]
      refine ⟨k - i, by omega, k, swp d' (k + 1) k, by rw [show ((k + 1 : Nat) : Int) - 1 = ((k : Nat) : Int) by omega], rfl, by omega, by omega, hL.set, hU.succ (by omega) (by omega)⟩
    · obtain rfl : k = i := by omega
      simp (maxSteps := 2000000) (discharger := omega) only [xz,xc,xo,xr,x0,x1,xd,Reg.isA,Reg.isV,Reg.stays,Reg.onto,↓reduceIte,reduceCtorEq,Nat.reduceEqDiff,Nat.reduceLT,int_lt_f]
      subst hmb
      exact ⟨d', hL, permIn_mono _ _ _ _ _ _ hmi (Nat.le_refl _) hb hU.perm, hU.sorted hS hmi hjb h2 hl hr⟩

def Ih (e : α → AV) (lt : α → α → Bool) (tot : Bool) (ω : Nat → Nat) (g : FuncId) (fs caps : List AV) (h0 : Hp) (id : Nat) (pre post : List AV) (c : Bool) (N n L : Nat) : Prop :=
  ∀ (a m b : Nat) (d : Array α) (h : Hp), b - a < L → a < m → m < b → b ≤ d.size → d.size = N → Lies h0 id 2 (Full e pre post d) h → SortedIn lt a m d → SortedIn lt m b d →
    ∃ h' d', call F n tot ω 112 [.row id 2 pre.length N c, .int .i64 a, .int .i64 m, .int .i64 b, .fn (.func g) fs caps] h = some (.tup [], h') ∧ Lies h0 id 2 (Full e pre post d') h' ∧ PermIn a b d d' ∧ SortedIn lt a b d'

theorem w_y6 (hS : SWO lt) (c : Bool) (N : Nat) (d : Array α) (a mid t b n : Nat) (h : Hp) (r : Regs) (hN : d.size = N) (hd : N ≤ 1000000000) (h1 : a ≤ mid) (h2 : mid ≤ t) (h3 : t ≤ b) (hb : b ≤ N) (ham : a < mid)
    (hr : r = [(0, .val (.row id 2 pre.length N c)), (3, .val (.int .i64 b)), (4, .val (.fn (.func g) fs caps)), (18, .val (.int .i64 mid)), (24, .val (.int .i64 t))] ∨
      ∃ s x, r = [(0, .val (.row id 2 pre.length N c)), (1, .val (.int .i64 a)), (3, .val (.int .i64 b)), (4, .val (.fn (.func g) fs caps)), (18, .val (.int .i64 mid)), (20, .val s), (24, .val (.int .i64 t)), (199, .val x)])
    (ih : Ih e lt tot ω g fs caps h0 id pre post c N n (b - a)) (hL : Lies h0 id 2 (Full e pre post d) h) (hl : SortedIn lt a mid d) (p3 : SortedIn lt mid t d) (p4 : SortedIn lt t b d) (hc : Cross lt a mid b d) :
    Wp (kont F n tot ω) n y6 r h fun e1 r' h' => e1 = .normal ∧ Mgd e lt h0 id pre post a b d h' := by
  have fin : ∀ (d' : Array α) (h' : Hp), Lies h0 id 2 (Full e pre post d') h' → PermIn mid b d d' → SortedIn lt mid b d' → Mgd e lt h0 id pre post a b d h' := fun d' h' q1 q2 q3 =>
    ⟨d', q1, permIn_mono _ _ _ _ _ _ h1 (Nat.le_refl _) (by omega) q2, SortedIn.join hS (SortedIn.other hl q2 (.inl (Nat.le_refl _))) q3 (hc.right q2 (by omega) (by omega))⟩
  by_cases k1 : mid < t
  · by_cases k2 : t < b
    · obtain ⟨h', d', q1, q2, q3, q4⟩ := ih mid t b d h (by omega) k1 k2 (by omega) hN hL p3 p4
      rcases hr with rfl | ⟨s, x, rfl⟩ <;> unfold y6 <;> simp (maxSteps := 2000000) (discharger := omega) only [xz,xc,xo,xr,x0,x1,xd,kont_call,Reg.isA,Reg.isV,Reg.stays,Reg.onto,↓reduceIte,reduceCtorEq,Nat.reduceEqDiff,Nat.reduceLT,beq_self_eq_true,int_lt_t,q1]
      · exact fin d' h' q2 q3 q4
      · exact fin d' h' q2 q3 q4
    · obtain rfl : t = b := by omega
      have := fin d h hL (permIn_refl _ _ _) p3
      rcases hr with rfl | ⟨s, x, rfl⟩ <;> unfold y6 <;> simp (maxSteps := 2000000) (discharger := omega) only [xz,xc,xo,xr,x0,x1,xd,Reg.isA,Reg.isV,Reg.stays,Reg.onto,↓reduceIte,reduceCtorEq,Nat.reduceEqDiff,Nat.reduceLT,beq_self_eq_true,int_lt_t,int_lt_f] <;> exact this
  · obtain rfl : mid = t := by omega
    have := fin d h hL (permIn_refl _ _ _) p4
    rcases hr with rfl | ⟨s, x, rfl⟩ <;> unfold y6 <;> simp (maxSteps := 2000000) (discharger := omega) only [xz,xc,xo,xr,x0,x1,xd,xb,Reg.isA,Reg.isV,Reg.stays,Reg.onto,↓reduceIte,reduceCtorEq,Nat.reduceEqDiff,Nat.reduceLT,int_lt_f] <;> exact this

theorem w_y5 (c : Bool) (N : Nat) (d : Array α) (a s mid t b n : Nat) (h : Hp) (r : Regs) (hN : d.size = N) (hd : N ≤ 1000000000) (h1 : a ≤ s) (h2 : s ≤ mid) (h3 : mid ≤ t) (h4 : t ≤ b) (hb : b ≤ N) (ham : a < mid) (hmb : mid < b)
    (hr : r = [(0, .val (.row id 2 pre.length N c)), (1, .val (.int .i64 a)), (3, .val (.int .i64 b)), (4, .val (.fn (.func g) fs caps)), (18, .val (.int .i64 mid)), (20, .val (.int .i64 s)), (24, .val (.int .i64 t))] ∨
      ∃ y x, r = [(0, .val (.row id 2 pre.length N c)), (1, .val (.int .i64 a)), (2, .val y), (3, .val (.int .i64 b)), (4, .val (.fn (.func g) fs caps)), (18, .val (.int .i64 mid)), (20, .val (.int .i64 s)), (24, .val (.int .i64 t)), (185, .val x)])
    (ih : Ih e lt tot ω g fs caps h0 id pre post c N n (b - a)) (hL : Lies h0 id 2 (Full e pre post d) h) (sp : Split lt a s mid t b d) :
    Wp (kont F n tot ω) n y5 r h fun e1 r h' => e1 = .normal ∧ (r = [(0, .val (.row id 2 pre.length N c)), (3, .val (.int .i64 b)), (4, .val (.fn (.func g) fs caps)), (18, .val (.int .i64 mid)), (24, .val (.int .i64 t))] ∨
      ∃ s x, r = [(0, .val (.row id 2 pre.length N c)), (1, .val (.int .i64 a)), (3, .val (.int .i64 b)), (4, .val (.fn (.func g) fs caps)), (18, .val (.int .i64 mid)), (20, .val s), (24, .val (.int .i64 t)), (199, .val x)]) ∧
      ∃ d', Lies h0 id 2 (Full e pre post d') h' ∧ PermIn a mid d d' ∧ SortedIn lt a mid d' := by
  by_cases k1 : a < s
  · by_cases k2 : s < mid
    · obtain ⟨h', d', q1, q2, q3, q4⟩ := ih a s mid d h (by omega) k1 k2 (by omega) hN hL sp.p1 sp.p2
      rcases hr with rfl | ⟨y, x, rfl⟩ <;> unfold y5 <;> simp (maxSteps := 2000000) (discharger := omega) only [xz,xc,xo,xr,x0,x1,xd,kont_call,Reg.isA,Reg.isV,Reg.stays,Reg.onto,↓reduceIte,reduceCtorEq,Nat.reduceEqDiff,Nat.reduceLT,true_or,beq_self_eq_true,int_lt_t,q1] <;> exact ⟨d', q2, q3, q4⟩
    · obtain rfl : s = mid := by omega
      rcases hr with rfl | ⟨y, x, rfl⟩ <;> unfold y5 <;> simp (maxSteps := 2000000) (discharger := omega) only [xz,xc,xo,xr,x0,x1,xd,Reg.isA,Reg.isV,Reg.stays,Reg.onto,↓reduceIte,reduceCtorEq,Nat.reduceEqDiff,Nat.reduceLT,beq_self_eq_true,int_lt_t,int_lt_f] <;> exact ⟨.inr ⟨_, _, rfl⟩, d, hL, permIn_refl _ _ _, sp.p1⟩
  · obtain rfl : a = s := by omega
    rcases hr with rfl | ⟨y, x, rfl⟩ <;> unfold y5 <;> simp (maxSteps := 2000000) (discharger := omega) only [xz,xc,xo,xr,x0,x1,xd,xb,Reg.isA,Reg.isV,Reg.stays,Reg.onto,↓reduceIte,reduceCtorEq,Nat.reduceEqDiff,Nat.reduceLT,int_lt_f] <;> exact ⟨.inr ⟨_, _, rfl⟩, d, hL, permIn_refl _ _ _, sp.p2⟩

theorem w_y4 (hS : SWO lt) (C : Cm e lt tot ω B g fs caps h0 id pre post) (c : Bool) (N : Nat) (d : Array α) (a s m b lo r0 mid n : Nat) (h : Hp) (rr pp : AV) (x : Bool) (hN : d.size = N) (hd : N ≤ 1000000000) (ham : a + 1 < m) (hmb : m + 1 < b) (hb : b ≤ N) (hn : N + 10 < n)
    (hmid : mid = (a + b) / 2) (hlo : lo = if mid < m then mid + m - b else a) (hr0 : r0 = if mid < m then mid else m) (hls : lo ≤ s) (hsr : s ≤ r0)
    (hl1 : SortedIn lt a m d) (hl2 : SortedIn lt m b d)
    (hl : ∀ c, lo ≤ c → c < s → lt d[mid + m - 1 - c]! d[c]! = false) (hrr : ∀ c, s ≤ c → c < r0 → lt d[mid + m - 1 - c]! d[c]! = true)
    (ih : Ih e lt tot ω g fs caps h0 id pre post c N n (b - a)) (hL : Lies h0 id 2 (Full e pre post d) h) :
    Wp (kont F n tot ω) n y4 [(0, .val (.row id 2 pre.length N c)), (1, .val (.int .i64 a)), (2, .val (.int .i64 m)), (3, .val (.int .i64 b)), (4, .val (.fn (.func g) fs caps)), (18, .val (.int .i64 mid)), (19, .val (.int .i64 (mid + m : Nat))), (20, .val (.int .i64 s)), (21, .val rr), (22, .val pp), (151, .val (.bool x))] h
      fun e1 r' h' => e1 = .normal ∧ Mgd e lt h0 id pre post a b d h' := by
  have bnd : a ≤ s ∧ s ≤ m ∧ m ≤ mid + m - s ∧ mid + m - s ≤ b ∧ s ≤ mid ∧ mid ≤ mid + m - s := by
    split at hlo <;> split at hr0 <;> omega
  obtain ⟨b1, b2, b3, b4, b5, b6⟩ := bnd
  have e1 : ((mid + m : Nat) : Int) - (s : Int) = ((mid + m - s : Nat) : Int) := by omega
  -- behind the rotation
  have fin : ∀ (d1 : Array α) (h1 : Hp) (r : Regs), (r = [(0, .val (.row id 2 pre.length N c)), (1, .val (.int .i64 a)), (3, .val (.int .i64 b)), (4, .val (.fn (.func g) fs caps)), (18, .val (.int .i64 mid)), (20, .val (.int .i64 s)), (24, .val (.int .i64 (mid + m - s : Nat)))] ∨
      ∃ y x, r = [(0, .val (.row id 2 pre.length N c)), (1, .val (.int .i64 a)), (2, .val y), (3, .val (.int .i64 b)), (4, .val (.fn (.func g) fs caps)), (18, .val (.int .i64 mid)), (20, .val (.int .i64 s)), (24, .val (.int .i64 (mid + m - s : Nat))), (185, .val x)]) → Lies h0 id 2 (Full e pre post d1) h1 → Rot s m (mid + m - s) d d1 →
      Wp (kont F n tot ω) n y5 r h1 (Then (kont F n tot ω) n y6 fun e1 r' h' => e1 = .normal ∧ Mgd e lt h0 id pre post a b d h') := fun d1 h1 r k0 q1 q2 => by
    obtain ⟨_, _, _, _, _, _, sp⟩ := split_of hS hl1 hl2 (by omega) (by omega) hmid hlo hr0 hls hsr hl hrr q2
    have hN1 : d1.size = N := by rw [q2.size, hN]
    refine (w_y5 c N d1 a s mid (mid + m - s) b n h1 r hN1 hd b1 b5 b6 b4 hb (by omega) (by omega) k0 ih q1 sp).mono ?_
    rintro e1 r2 h2 ⟨rfl, k2, d2, w1, w2, w3⟩
    refine (w_y6 hS c N d2 a mid (mid + m - s) b n h2 r2 (by rw [w2.1, hN1]) hd (by omega) b6 b4 hb (by omega) k2 ih w1 w3 (SortedIn.other sp.p3 w2 (.inr (Nat.le_refl _))) (SortedIn.other sp.p4 w2 (.inr b6)) (sp.cross.left w2 (by omega) (by omega))).mono ?_
    rintro e1 r' h3 ⟨e2, d3, v1, v2, v3⟩
    exact ⟨e2, d3, v1, permIn_trans _ _ _ _ _ (permIn_mono _ _ _ _ _ _ b1 b4 (by omega) q2.perm) (permIn_trans _ _ _ _ _ (permIn_mono _ _ _ _ _ _ (Nat.le_refl _) (by omega) (by omega) w2) v2), v3⟩
  unfold y4
  by_cases k1 : s < m
  · by_cases k2 : m < mid + m - s
    · obtain ⟨h1, d1, q1, q2, q3⟩ := s_rot C c d s m (mid + m - s) n h (by omega) k1 k2 (by omega) hL (by omega)
      rw [hN] at q1
      simp (maxSteps := 2000000) (discharger := omega) only [xz,xc,xo,xr,x0,x1,xd,kont_call,Reg.isA,Reg.isV,Reg.stays,Reg.onto,↓reduceIte,reduceCtorEq,Nat.reduceEqDiff,Nat.reduceLT,beq_self_eq_true,wrap_i64,int_lt_t,e1,q1]
      exact fin d1 h1 _ (.inl rfl) q2 q3
    · have e2 : mid + m - s = m := by omega
      simp (maxSteps := 2000000) (discharger := omega) only [xz,xc,xo,xr,x0,x1,xd,Reg.isA,Reg.isV,Reg.stays,Reg.onto,↓reduceIte,reduceCtorEq,Nat.reduceEqDiff,Nat.reduceLT,beq_self_eq_true,wrap_i64,int_lt_t,int_lt_f,e1]
      refine fin d h _ (.inr ⟨_, _, rfl⟩) hL ?_
      rw [e2]; exact .idr (by omega)
  · obtain rfl : s = m := by omega
    simp (maxSteps := 2000000) (discharger := omega) only [xz,xc,xo,xr,x0,x1,xd,xb,Reg.isA,Reg.isV,Reg.stays,Reg.onto,↓reduceIte,reduceCtorEq,Nat.reduceEqDiff,Nat.reduceLT,wrap_i64,int_lt_f,e1]
    exact fin d h _ (.inr ⟨_, _, rfl⟩) hL (.idl (by omega))

theorem w_y3s (hS : SWO lt) (C : Cm e lt tot ω B g fs caps h0 id pre post) (c : Bool) (N : Nat) (d : Array α) (a m b lo r0 mid n : Nat) (h : Hp) (hN : d.size = N) (hd : N ≤ 1000000000) (ham : a + 1 < m) (hmb : m + 1 < b) (hb : b ≤ N) (hn : B + N + 10 < n)
    (hmid : mid = (a + b) / 2) (hlo : lo = if mid < m then mid + m - b else a) (hr0 : r0 = if mid < m then mid else m)
    (hl1 : SortedIn lt a m d) (hl2 : SortedIn lt m b d)
    (ih : Ih e lt tot ω g fs caps h0 id pre post c N n (b - a)) (hL : Lies h0 id 2 (Full e pre post d) h) :
    Wp (kont F n tot ω) n y3s [(0, .val (.row id 2 pre.length N c)), (1, .val (.int .i64 a)), (2, .val (.int .i64 m)), (3, .val (.int .i64 b)), (4, .val (.fn (.func g) fs caps)), (18, .val (.int .i64 mid)), (19, .val (.int .i64 (mid + m : Nat))), (20, .val (.int .i64 lo)), (21, .val (.int .i64 r0))] h
      fun e1 r' h' => e1 = .normal ∧ Mgd e lt h0 id pre post a b d h' := by
  have hE := C.enc
  have bnd : a ≤ lo ∧ lo ≤ r0 ∧ r0 ≤ m ∧ r0 ≤ mid ∧ mid + m - 1 ≤ b + lo - 1 := by
    split at hlo <;> split at hr0 <;> omega
  obtain ⟨b1, b2, b3, b4, b5⟩ := bnd
  have e1 : ((mid + m : Nat) : Int) - 1 = ((mid + m - 1 : Nat) : Int) := by omega
  unfold y3s
  simp (maxSteps := 2000000) (discharger := omega) only [xz,xc,xo,xr,x0,x1,xd,Reg.isA,Reg.isV,Reg.stays,Reg.onto,↓reduceIte,reduceCtorEq,Nat.reduceEqDiff,Nat.reduceLT,wrap_i64,e1]
  refine wpi_loop (fun x r g' => ∃ (i j : Nat), r = [(0, .val (.row id 2 pre.length N c)), (1, .val (.int .i64 a)), (2, .val (.int .i64 m)), (3, .val (.int .i64 b)), (4, .val (.fn (.func g) fs caps)), (18, .val (.int .i64 mid)), (19, .val (.int .i64 (mid + m : Nat))), (20, .val (.int .i64 i)), (21, .val (.int .i64 j)), (22, .val (.int .i64 (mid + m - 1 : Nat)))] ∧
    x = j - i ∧ lo ≤ i ∧ i ≤ j ∧ j ≤ r0 ∧ Lies h0 id 2 (Full e pre post d) g' ∧ (∀ c, lo ≤ c → c < i → lt d[mid + m - 1 - c]! d[c]! = false) ∧ ∀ c, j ≤ c → c < r0 → lt d[mid + m - 1 - c]! d[c]! = true) (r0 - lo) (by omega)
    ⟨lo, r0, rfl, rfl, by omega, by omega, by omega, hL, fun k h3 h4 => by omega, fun k h3 h4 => by omega⟩ ?_
  rintro x r g' ⟨i, j, rfl, rfl, hmi, hij, hjb, hL, hl, hr⟩
  by_cases hlt : i < j
  · obtain ⟨q, hq⟩ : ∃ q, (i + j) / 2 = q := ⟨_, rfl⟩
    have hq1 : i ≤ q := by omega
    have hq2 : q < j := by omega
    have hqf := half_nat i j
    rw [hq] at hqf
    obtain ⟨rr, g2, hc1, hc2, hc3⟩ := C.cmp n (by omega) d[mid + m - 1 - q]! d[q]! d _ hL
    have hL2 := hL.more hc2
    have q1 := hL.row
    have e2 : ((mid + m - 1 : Nat) : Int) - (q : Int) = ((mid + m - 1 - q : Nat) : Int) := by omega
    have hpc : m ≤ mid + m - 1 - q := by omega
    have hpc2 : mid + m - 1 - q < b := by omega
    by_cases hr0' : rr < 0
    · simp (maxSteps := 2000000) (discharger := omega) only [xz,xc,xo,xr,x0,x1,x2,xd,kont_call,Reg.isA,Reg.isV,Reg.stays,Reg.onto,↓reduceIte,reduceCtorEq,Nat.reduceEqDiff,Nat.reduceLT,Int.reduceToNat,wrap_i64,int_lt_t,int_lt_f,int_le_t,full_get,wrap_u64,hqf,q1,hc1,hr0',e2,hE.sub]
      refine ⟨q - i, by omega, i, q, rfl, rfl, hmi, hq1, by omega, hL2, hl, ?_⟩
      exact search_t hS hl1 hl2 b3 (by omega) hpc2 (fun k hk => by omega) (by rw [← hc3]; simp [hr0'])
    · simp (maxSteps := 2000000) (discharger := omega) only [xz,xc,xo,xr,x0,x1,x2,xd,kont_call,Reg.isA,Reg.isV,Reg.stays,Reg.onto,↓reduceIte,reduceCtorEq,Nat.reduceEqDiff,Nat.reduceLT,Int.reduceToNat,wrap_i64,int_lt_t,int_lt_f,int_le_t,full_get,wrap_u64,hqf,q1,hc1,hr0',e2,hE.sub]
      refine ⟨j - (q + 1), by omega, q + 1, j, by rw [show ((q : Nat) : Int) + 1 = ((q + 1 : Nat) : Int) by omega], rfl, by omega, by omega, hjb, hL2, fun k h3 h4 => ?_, hr⟩
      exact search_f hS hl1 hl2 b5 (by omega) b1 (by omega) hpc (by rw [← hc3]; simp [hr0']) k h3 (by omega)
  · obtain rfl : i = j := by omega
    simp (maxSteps := 2000000) (discharger := omega) only [xz,xc,xo,xr,x0,x1,xd,Reg.isA,Reg.isV,Reg.stays,Reg.onto,↓reduceIte,reduceCtorEq,Nat.reduceEqDiff,Nat.reduceLT,int_lt_f]
    exact w_y4 hS C c N d a i m b lo r0 mid n g' _ _ _ hN hd ham hmb hb (by omega) hmid hlo hr0 hmi hjb hl1 hl2 hl hr ih hL

theorem s_sym (hS : SWO lt) (C : Cm e lt tot ω B g fs caps h0 id pre post) (c : Bool) (N : Nat) (hd : N ≤ 1000000000) : ∀ (k n a m b : Nat) (d : Array α) (h : Hp), b - a < k → B + N + 10 + k < n → a < m → m < b → b ≤ d.size → d.size = N → Lies h0 id 2 (Full e pre post d) h → SortedIn lt a m d → SortedIn lt m b d →
    ∃ h' d', call F n tot ω 112 [.row id 2 pre.length N c, .int .i64 a, .int .i64 m, .int .i64 b, .fn (.func g) fs caps] h = some (.tup [], h') ∧ Lies h0 id 2 (Full e pre post d') h' ∧ PermIn a b d d' ∧ SortedIn lt a b d' := by
  intro k
  induction k with
  | zero => intro n a m b d h hk; omega
  | succ k IH =>
    intro n a m b d h hk hn ham hmb hb hN hL hl1 hl2
    obtain ⟨n, rfl⟩ : ∃ m, n = m + 1 := ⟨n - 1, by omega⟩
    suffices hx : ∃ v h', call F (n + 1) tot ω 112 [.row id 2 pre.length N c, .int .i64 a, .int .i64 m, .int .i64 b, .fn (.func g) fs caps] h = some (v, h') ∧ v = .tup [] ∧ Mgd e lt h0 id pre post a b d h' by
      obtain ⟨v, h', e1, rfl, d', e2⟩ := hx
      exact ⟨h', d', e1, e2⟩
    have ih : Ih e lt tot ω g fs caps h0 id pre post c N n (b - a) := fun a' m' b' d' h' q1 q2 q3 q4 q5 q6 q7 q8 => IH n a' m' b' d' h' (by omega) (by omega) q2 q3 q4 q5 q6 q7 q8
    refine call_of (fn := a112) f112 (P := fun v h' => v = .tup [] ∧ Mgd e lt h0 id pre post a b d h') ?_
    unfold a112
    have e1 : (m : Int) - (a : Int) = ((m - a : Nat) : Int) := by omega
    have e2 : (b : Int) - (m : Int) = ((b - m : Nat) : Int) := by omega
    by_cases h1 : m = a + 1
    · simp (maxSteps := 2000000) (discharger := omega) only [xz,xc,xo,xr,x0,x1,xd,Reg.isA,Reg.isV,Reg.stays,Reg.onto,↓reduceIte,reduceCtorEq,Nat.reduceEqDiff,Nat.reduceLT,Nat.reduceAdd,wrap_i64,int_beq_t,e1]
      have := w_y1 (n := n) hS C c d a m b h (by omega) h1 hmb hb hL (by omega) hl2
      rw [hN] at this
      refine this.mono ?_
      rintro e3 r' h' ⟨rfl, hm⟩
      simp (maxSteps := 2000000) (discharger := omega) only [xz,xc,xd,exists_eq_left']
      exact hm
    · by_cases h2 : b = m + 1
      · simp (maxSteps := 2000000) (discharger := omega) only [xz,xc,xo,xr,x0,x1,xd,Reg.isA,Reg.isV,Reg.stays,Reg.onto,↓reduceIte,reduceCtorEq,Nat.reduceEqDiff,Nat.reduceLT,Nat.reduceAdd,wrap_i64,int_beq_t,int_beq_f,e1,e2]
        have := w_y2 (n := n) hS C c d a m b h (by omega) ham h2 hb hL (by omega) hl1
        rw [hN] at this
        refine this.mono ?_
        rintro e3 r' h' ⟨rfl, hm⟩
        simp (maxSteps := 2000000) (discharger := omega) only [xz,xc,xd,exists_eq_left']
        exact hm
      · obtain ⟨q, hq⟩ : ∃ q, (a + b) / 2 = q := ⟨_, rfl⟩
        have hqf := half_nat a b
        rw [hq] at hqf
        have e3 : (q : Int) + (m : Int) = ((q + m : Nat) : Int) := by omega
        by_cases hmq : q < m
        · have e4 : ((q + m : Nat) : Int) - (b : Int) = ((q + m - b : Nat) : Int) := by omega
          simp (maxSteps := 2000000) (discharger := omega) only [xz,xc,xo,xr,x0,x1,xd,Reg.isA,Reg.isV,Reg.stays,Reg.onto,↓reduceIte,reduceCtorEq,Nat.reduceEqDiff,Nat.reduceLT,Nat.reduceAdd,wrap_i64,int_beq_f,e1,e2]
          unfold y3
          simp (maxSteps := 2000000) (discharger := omega) only [xz,xc,xo,xr,x0,x1,x2,xd,Reg.isA,Reg.isV,Reg.stays,Reg.onto,↓reduceIte,reduceCtorEq,Nat.reduceEqDiff,Nat.reduceLT,Int.reduceToNat,wrap_i64,int_lt_t,int_lt_f,wrap_u64,hqf,e3,e4]
          have := w_y3s (n := n) hS C c N d a m b (q + m - b) q q h hN hd (by omega) (by omega) (by omega) (by omega) hq.symm (by rw [if_pos hmq]) (by rw [if_pos hmq]) hl1 hl2 ih hL
          refine this.mono ?_
          rintro e3 r' h' ⟨rfl, hm⟩
          simp (maxSteps := 2000000) (discharger := omega) only [xz,xc,xd,exists_eq_left']
          exact hm
        · simp (maxSteps := 2000000) (discharger := omega) only [xz,xc,xo,xr,x0,x1,xd,Reg.isA,Reg.isV,Reg.stays,Reg.onto,↓reduceIte,reduceCtorEq,Nat.reduceEqDiff,Nat.reduceLT,Nat.reduceAdd,wrap_i64,int_beq_f,e1,e2]
          unfold y3
          simp (maxSteps := 2000000) (discharger := omega) only [xz,xc,xo,xr,x0,x1,x2,xd,Reg.isA,Reg.isV,Reg.stays,Reg.onto,↓reduceIte,reduceCtorEq,Nat.reduceEqDiff,Nat.reduceLT,Int.reduceToNat,wrap_i64,int_lt_f,wrap_u64,hqf,e3]
          have := w_y3s (n := n) hS C c N d a m b a m q h hN hd (by omega) (by omega) (by omega) (by omega) hq.symm (by rw [if_neg hmq]) (by rw [if_neg hmq]) hl1 hl2 ih hL
          refine this.mono ?_
          rintro e3 r' h' ⟨rfl, hm⟩
          simp (maxSteps := 2000000) (discharger := omega) only [xz,xc,xd,exists_eq_left']
          exact hm
end
end Go.Proofs.YtpgmohjmpaifbaaDoor.Im

/- S21Ss: slices.SortStableFunc: a row is sorted. -/
set_option linter.unusedVariables false
set_option linter.unusedSimpArgs false
set_option linter.unusedSectionVars false
open Go Go.Im Go.Sort
namespace Go.Proofs.YtpgmohjmpaifbaaDoor.Im
section
variable {α : Type} [Inhabited α] {e : α → AV} {lt : α → α → Bool} {tot : Bool} {ω : Nat → Nat} {B : Nat} {g : FuncId} {fs caps : List AV} {h0 : Hp} {id : Nat} {pre post : List AV}

def Blk (lt : α → α → Bool) (s N : Nat) (d : Array α) : Prop := ∀ i, SortedIn lt (i * s) (min (i * s + s) N) d

theorem w_z1 (hS : SWO lt) (C : Cm e lt tot ω B g fs caps h0 id pre post) (c : Bool) (N : Nat) (d : Array α) (s n : Nat) (h : Hp) (hN : d.size = N) (hd : N ≤ 1000000000) (hs0 : 0 < s) (hsN : s < N) (hn : B + 2 * N + 20 < n)
    (hL : Lies h0 id 2 (Full e pre post d) h) (hB : Blk lt s N d) :
    Wp (kont F n tot ω) n z1 [(0, .val (.row id 2 pre.length N c)), (1, .val (.int .i64 N)), (2, .val (.fn (.func g) fs caps)), (6, .val (.int .i64 s)), (30, .val (.bool true))] h
      fun e1 r' h' => e1 = .normal ∧ r' = [(0, .val (.row id 2 pre.length N c)), (1, .val (.int .i64 N)), (2, .val (.fn (.func g) fs caps)), (6, .val (.int .i64 (2 * s : Nat)))] ∧
        ∃ d', Lies h0 id 2 (Full e pre post d') h' ∧ PermIn 0 N d d' ∧ Blk lt (2 * s) N d' := by
  unfold z1
  have e0 : 2 * (s : Int) = ((2 * s : Nat) : Int) := by omega
  have e0' : (s : Int) * 2 = ((2 * s : Nat) : Int) := by omega
  simp (maxSteps := 2000000) (discharger := omega) only [xz,xc,xo,xr,x0,x1,xd,Reg.isA,Reg.isV,Reg.stays,Reg.onto,↓reduceIte,reduceCtorEq,Nat.reduceEqDiff,Nat.reduceLT,wrap_i64,e0]
  refine wpi_loop (fun x r g' => ∃ (i A : Nat) (d' : Array α), r = [(0, .val (.row id 2 pre.length N c)), (1, .val (.int .i64 N)), (2, .val (.fn (.func g) fs caps)), (6, .val (.int .i64 s)), (7, .val (.int .i64 A)), (8, .val (.int .i64 (A + 2 * s : Nat)))] ∧
    x = N - A ∧ A = i * (2 * s) ∧ A ≤ N ∧ Lies h0 id 2 (Full e pre post d') g' ∧ PermIn 0 N d d' ∧ (∀ k, k < i → SortedIn lt (k * (2 * s)) (min (k * (2 * s) + 2 * s) N) d') ∧ ∀ k, 2 * i ≤ k → SortedIn lt (k * s) (min (k * s + s) N) d') N (by omega)
    ⟨0, 0, d, by simp, by omega, by omega, by omega, hL, permIn_refl _ _ _, fun k hk => by omega, fun k _ => hB k⟩ ?_
  rintro x r g' ⟨i, A, d', rfl, rfl, hA, hAN, hL, hP, hdn, htd⟩
  have hd' : d'.size = N := by rw [hP.1, hN]
  have m1 : 2 * i * s = A := by rw [hA, Nat.mul_comm 2 i, Nat.mul_assoc]
  have m2 : (2 * i + 1) * s = A + s := by rw [Nat.succ_mul, m1]
  have m3 : (i + 1) * (2 * s) = A + 2 * s := by rw [Nat.succ_mul, ← hA]
  have t1 := htd (2 * i) (Nat.le_refl _)
  have t2 := htd (2 * i + 1) (by omega)
  rw [m1] at t1
  rw [m2] at t2
  have e1 : (A : Int) + (s : Int) = ((A + s : Nat) : Int) := by omega
  by_cases hlt : A + 2 * s ≤ N
  · rw [show min (A + s) N = A + s by omega] at t1
    rw [show min (A + s + s) N = A + 2 * s by omega] at t2
    obtain ⟨h2, d2, q1, q2, q3, q4⟩ := s_sym hS C c N hd (N + 1) n A (A + s) (A + 2 * s) d' g' (by omega) (by omega) (by omega) (by omega) (by omega) hd' hL t1 t2
    have e2 : ((A + 2 * s : Nat) : Int) + ((2 * s : Nat) : Int) = ((A + 2 * s + 2 * s : Nat) : Int) := by omega
    simp (maxSteps := 2000000) (discharger := omega) only [xz,xc,xo,xr,x0,x1,xd,kont_call,Reg.isA,Reg.isV,Reg.stays,Reg.onto,↓reduceIte,reduceCtorEq,Nat.reduceEqDiff,Nat.reduceLT,wrap_i64,int_le_t,e0,e1,e2,q1]
    refine ⟨N - (A + 2 * s), by omega, i + 1, A + 2 * s, d2, by simp, rfl, m3.symm, hlt, q2, permIn_trans _ _ _ _ _ hP (permIn_mono _ _ _ _ _ _ (by omega) hlt (by omega) q3), fun k hk => ?_, fun k hk => ?_⟩
    · by_cases hki : k = i
      · subst hki
        rw [← hA, show min (A + 2 * s) N = A + 2 * s by omega]; exact q4
      · have : (k + 1) * (2 * s) ≤ i * (2 * s) := Nat.mul_le_mul_right _ (by omega)
        rw [Nat.succ_mul, ← hA] at this
        exact SortedIn.other (hdn k (by omega)) q3 (.inl (by omega))
    · have : (2 * i + 2) * s ≤ k * s := Nat.mul_le_mul_right _ (by omega)
      rw [Nat.add_mul, m1] at this
      exact SortedIn.other (htd k (by omega)) q3 (.inr (by omega))
  · have hfin : ∀ (d2 : Array α) (h2 : Hp), Lies h0 id 2 (Full e pre post d2) h2 → PermIn A N d' d2 → SortedIn lt A N d2 → ∃ d3, Lies h0 id 2 (Full e pre post d3) h2 ∧ PermIn 0 N d d3 ∧ Blk lt (2 * s) N d3 := fun d2 h2 q2 q3 q4 => by
      refine ⟨d2, q2, permIn_trans _ _ _ _ _ hP (permIn_mono _ _ _ _ _ _ (by omega) (by omega) (by omega) q3), fun k => ?_⟩
      by_cases hki : k = i
      · subst hki
        rw [← hA, show min (A + 2 * s) N = N by omega]; exact q4
      · by_cases hk2 : k < i
        · have : (k + 1) * (2 * s) ≤ i * (2 * s) := Nat.mul_le_mul_right _ (by omega)
          rw [Nat.succ_mul, ← hA] at this
          exact SortedIn.other (hdn k (by omega)) q3 (.inl (by omega))
        · have : (i + 1) * (2 * s) ≤ k * (2 * s) := Nat.mul_le_mul_right _ (by omega)
          rw [m3] at this
          intro p q h1 h2 h3
          omega
    by_cases hm : A + s < N
    · rw [show min (A + s) N = A + s by omega] at t1
      rw [show min (A + s + s) N = N by omega] at t2
      obtain ⟨h2, d2, q1, q2, q3, q4⟩ := s_sym hS C c N hd (N + 1) n A (A + s) N d' g' (by omega) (by omega) (by omega) (by omega) (by omega) hd' hL t1 t2
      simp (maxSteps := 2000000) (discharger := omega) only [xz,xc,xo,xr,x0,x1,xd,kont_call,Reg.isA,Reg.isV,Reg.stays,Reg.onto,↓reduceIte,reduceCtorEq,Nat.reduceEqDiff,Nat.reduceLT,wrap_i64,int_lt_t,int_le_f,e0',e1,q1]
      exact hfin d2 h2 q2 q3 q4
    · rw [show min (A + s) N = N by omega] at t1
      simp (maxSteps := 2000000) (discharger := omega) only [xz,xc,xo,xr,x0,x1,xd,Reg.isA,Reg.isV,Reg.stays,Reg.onto,↓reduceIte,reduceCtorEq,Nat.reduceEqDiff,Nat.reduceLT,wrap_i64,int_lt_f,int_le_f,e0',e1]
      exact hfin d' g' hL (permIn_refl _ _ _) t1

theorem s_stb (hS : SWO lt) (C : Cm e lt tot ω B g fs caps h0 id pre post) (c : Bool) (N : Nat) (d : Array α) (n : Nat) (h : Hp) (hN : d.size = N) (hd : N ≤ 1000000000) (hn : B + 2 * N + 30 < n) (hL : Lies h0 id 2 (Full e pre post d) h) :
    ∃ h' d', call F n tot ω 102 [.row id 2 pre.length N c, .int .i64 N, .fn (.func g) fs caps] h = some (.tup [], h') ∧ Lies h0 id 2 (Full e pre post d') h' ∧ PermIn 0 N d d' ∧ SortedIn lt 0 N d' := by
  obtain ⟨n, rfl⟩ : ∃ m, n = m + 1 := ⟨n - 1, by omega⟩
  suffices hx : ∃ v h', call F (n + 1) tot ω 102 [.row id 2 pre.length N c, .int .i64 N, .fn (.func g) fs caps] h = some (v, h') ∧ v = .tup [] ∧ ∃ d', Lies h0 id 2 (Full e pre post d') h' ∧ PermIn 0 N d d' ∧ SortedIn lt 0 N d' by
    obtain ⟨v, h', e1, rfl, d', e2⟩ := hx
    exact ⟨h', d', e1, e2⟩
  refine call_of (fn := a102) f102 (P := fun v h' => v = .tup [] ∧ ∃ d', Lies h0 id 2 (Full e pre post d') h' ∧ PermIn 0 N d d' ∧ SortedIn lt 0 N d') ?_
  unfold a102
  simp (maxSteps := 2000000) (discharger := omega) only [xz,xc,xo,xr,x0,Reg.isA,Reg.isV,Reg.stays,Reg.onto,↓reduceIte,reduceCtorEq,Nat.reduceEqDiff,Nat.reduceLT,Nat.reduceAdd]
  refine wpi_loop (fun x r g' => ∃ (i : Nat) (d' : Array α), r = [(0, .val (.row id 2 pre.length N c)), (1, .val (.int .i64 N)), (2, .val (.fn (.func g) fs caps)), (6, .val (.int .i64 20)), (7, .val (.int .i64 (20 * i : Nat))), (8, .val (.int .i64 (20 * i + 20 : Nat)))] ∧
    x = N - 20 * i ∧ 20 * i ≤ N ∧ Lies h0 id 2 (Full e pre post d') g' ∧ PermIn 0 N d d' ∧ ∀ k, k < i → SortedIn lt (20 * k) (20 * k + 20) d') N (by omega)
    ⟨0, d, rfl, by omega, by omega, hL, permIn_refl _ _ _, fun k hk => by omega⟩ ?_
  rintro x r g' ⟨i, d', rfl, rfl, hi, hL, hP, hdn⟩
  have hd' : d'.size = N := by rw [hP.1, hN]
  by_cases hlt : 20 * i + 20 ≤ N
  · obtain ⟨h2, q1, q2⟩ := s_ins C c d' (20 * i) (20 * i + 20) n g' (by omega) (by omega) (by omega) hL (by omega)
    obtain ⟨q3, q4⟩ := insertionSort_holds (lt := lt) hS d' (20 * i) (20 * i + 20) (by omega) (by omega)
    rw [hd'] at q1
    have e2 : ((20 * i + 20 : Nat) : Int) + 20 = ((20 * (i + 1) + 20 : Nat) : Int) := by omega
    simp (maxSteps := 2000000) (discharger := omega) only [xz,xc,xo,xr,x0,x1,xd,kont_call,Reg.isA,Reg.isV,Reg.stays,Reg.onto,↓reduceIte,reduceCtorEq,Nat.reduceEqDiff,Nat.reduceLT,wrap_i64,int_le_t,e2,q1]
    refine ⟨N - 20 * (i + 1), by omega, i + 1, _, rfl, rfl, by omega, q2, permIn_trans _ _ _ _ _ hP (permIn_mono _ _ _ _ _ _ (by omega) hlt (by omega) q3), fun k hk => ?_⟩
    by_cases hki : k = i
    · subst hki; exact q4
    · exact SortedIn.other (hdn k (by omega)) q3 (.inl (by omega))
  · obtain ⟨h2, q1, q2⟩ := s_ins C c d' (20 * i) N n g' (by omega) (by omega) (by omega) hL (by omega)
    obtain ⟨q3, q4⟩ := insertionSort_holds (lt := lt) hS d' (20 * i) N (by omega) (by omega)
    rw [hd'] at q1
    have hB : Blk lt 20 N (insertionSort lt d' (20 * i) N) := fun k => by
      rw [Nat.mul_comm k 20]
      by_cases hki : k = i
      · subst hki; rw [show min (20 * k + 20) N = N by omega]; exact q4
      · by_cases hk : k < i
        · rw [show min (20 * k + 20) N = 20 * k + 20 by omega]
          exact SortedIn.other (hdn k hk) q3 (.inl (by omega))
        · intro p q h1 h2 h3; omega
    have hP2 := permIn_trans _ _ _ _ _ hP (permIn_mono _ _ _ _ _ _ (Nat.zero_le _) (Nat.le_refl N) (by omega) q3)
    generalize insertionSort lt d' (20 * i) N = d2 at q1 q2 hB hP2
    simp (maxSteps := 2000000) (discharger := omega) only [xz,xc,xo,xr,x0,x1,xd,kont_call,Reg.isA,Reg.isV,Reg.stays,Reg.onto,↓reduceIte,reduceCtorEq,Nat.reduceEqDiff,Nat.reduceLT,int_le_f,q1]
    refine wpi_loop (fun x r g' => ∃ (s : Nat) (d' : Array α), r = [(0, .val (.row id 2 pre.length N c)), (1, .val (.int .i64 N)), (2, .val (.fn (.func g) fs caps)), (6, .val (.int .i64 s))] ∧
      x = N - s ∧ 0 < s ∧ s ≤ 2 * N + 20 ∧ Lies h0 id 2 (Full e pre post d') g' ∧ PermIn 0 N d d' ∧ Blk lt s N d') (N - 20) (by omega)
      ⟨20, d2, rfl, by omega, by omega, by omega, q2, hP2, hB⟩ ?_
    rintro x r g'' ⟨s, d3, rfl, rfl, hs0, hs1, hL3, hP3, hB3⟩
    have hd3 : d3.size = N := by rw [hP3.1, hN]
    by_cases hs : s < N
    · simp (maxSteps := 2000000) (discharger := omega) only [xz,xc,xo,xr,x0,x1,xd,Reg.isA,Reg.isV,Reg.stays,Reg.onto,↓reduceIte,reduceCtorEq,Nat.reduceEqDiff,Nat.reduceLT,int_lt_t]
      refine (w_z1 hS C c N d3 s n g'' hd3 hd hs0 hs (by omega) hL3 hB3).mono ?_
      rintro e1 r' h' ⟨rfl, rfl, d4, v1, v2, v3⟩
      simp (maxSteps := 2000000) (discharger := omega) only [xc]
      exact ⟨N - 2 * s, by omega, 2 * s, d4, rfl, rfl, by omega, by omega, v1, permIn_trans _ _ _ _ _ hP3 v2, v3⟩
    · simp (maxSteps := 2000000) (discharger := omega) only [xz,xc,xo,xr,x0,x1,xd,Reg.isA,Reg.isV,Reg.stays,Reg.onto,↓reduceIte,reduceCtorEq,Nat.reduceEqDiff,Nat.reduceLT,exists_eq_left',int_lt_f]
      refine ⟨d3, hL3, hP3, ?_⟩
      have := hB3 0
      rwa [Nat.zero_mul, show min (0 + s) N = N by omega] at this
end
end Go.Proofs.YtpgmohjmpaifbaaDoor.Im

/- S21Fi: files; files by their paths. -/
set_option linter.unusedVariables false
set_option linter.unusedSimpArgs false
open Go Go.Im Go.Sort
namespace Go.Proofs.YtpgmohjmpaifbaaDoor.Im

theorem flLt_swo : SWO flLt := ⟨fun x => bl_irrefl _, fun x y z h1 h2 => bl_trans _ _ _ h1 h2, fun x y z h1 h2 => bl_ntrans _ _ _ h1 h2⟩

theorem encFl : EncOk true 2 Fl.av := ⟨fun x => rfl, fun x y => rfl, fun x => rfl, fun x => rfl⟩

section
variable {n : Nat} {tot : Bool} {ω : Nat → Nat} {h : Hp}
theorem f113 : F 113 = some (.inr cmpG) := by kernel_rfl
theorem c113 (a b : By) (hn : 0 < n) : call F n tot ω 113 [.str a, .str b] h = some (.int .i64 (Go.Lib.compareBytes a b), h) := by
  obtain ⟨n, rfl⟩ : ∃ m, n = m + 1 := ⟨n - 1, by omega⟩
  rw [call_inr f113]; rfl
theorem c103 (a b : By) (hn : 1 < n) : call F n tot ω 103 [.str a, .str b] h = some (.int .i64 (Go.Lib.compareBytes a b), h) := by
  obtain ⟨n, rfl⟩ : ∃ m, n = m + 1 := ⟨n - 1, by omega⟩
  refine call_eq (fn := a103) f103 ?_
  unfold a103
  have k := fun h => c113 (n := n) (tot := tot) (ω := ω) (h := h) a b (by omega)
  simp (maxSteps := 2000000) (discharger := omega) only [xz,xc,xo,xr,x0,xd,kont_call,Reg.isA,Reg.isV,Reg.stays,Reg.onto,↓reduceIte,reduceCtorEq,Nat.reduceEqDiff,Nat.reduceLT,Nat.reduceAdd,exists_eq_left',k]
theorem c78 (a b : By) (hn : 2 < n) : call F n tot ω 78 [.str a, .str b] h = some (.int .i64 (Go.Lib.compareBytes a b), h) := by
  obtain ⟨n, rfl⟩ : ∃ m, n = m + 1 := ⟨n - 1, by omega⟩
  refine call_eq (fn := a78) f78 ?_
  unfold a78
  have k := fun h => c103 (n := n) (tot := tot) (ω := ω) (h := h) a b (by omega)
  simp (maxSteps := 2000000) (discharger := omega) only [xz,xc,xo,xr,x0,xd,kont_call,Reg.isA,Reg.isV,Reg.stays,Reg.onto,↓reduceIte,reduceCtorEq,Nat.reduceEqDiff,Nat.reduceLT,Nat.reduceAdd,exists_eq_left',k]
theorem c77 (x y : Fl) (hn : 3 < n) : call F n tot ω 77 [x.av, y.av] h = some (.int .i64 (Go.Lib.compareBytes x.p y.p), h) := by
  obtain ⟨n, rfl⟩ : ∃ m, n = m + 1 := ⟨n - 1, by omega⟩
  refine call_eq (fn := a77) f77 ?_
  unfold a77 Fl.av
  have k := fun h => c78 (n := n) (tot := tot) (ω := ω) (h := h) x.p y.p (by omega)
  simp (maxSteps := 2000000) (discharger := omega) only [xz,xc,xo,xr,x0,x1,xd,kont_call,Reg.isA,Reg.isV,Reg.stays,Reg.onto,↓reduceIte,reduceCtorEq,Nat.reduceEqDiff,Nat.reduceLT,Nat.reduceAdd,exists_eq_left',Nat.reduceBEq,k]

theorem cmFl (tot : Bool) (ω : Nat → Nat) (h0 : Hp) (id : Nat) (pre post : List AV) : Cm Fl.av flLt tot ω 3 77 [] [] h0 id pre post :=
  ⟨encFl, fun n hn x y d h _ => ⟨_, h, c77 x y hn, .refl _, cmp_lt _ _⟩⟩

theorem c111n (hn : 3 < n) : call F n tot ω 111 [.nils, .int .i64 0, .int .i64 0, .fn (.func 77) [] []] h = some (.tup [], h) := by
  obtain ⟨n, rfl⟩ : ∃ m, n = m + 1 := ⟨n - 1, by omega⟩
  refine call_eq (fn := a111) f111 ?_
  unfold a111
  simp (maxSteps := 2000000) (discharger := omega) only [xz,xc,xo,xr,x0,x1,xd,Reg.isA,Reg.isV,Reg.stays,Reg.onto,↓reduceIte,reduceCtorEq,Nat.reduceEqDiff,Nat.reduceLT,Nat.reduceAdd,Int.reduceAdd,wrap_i64]
  refine wpi_loop (fun k r g' => r = [(0, .val .nils), (1, .val (.int .i64 0)), (2, .val (.int .i64 0)), (3, .val (.fn (.func 77) [] [])), (8, .val (.int .i64 1))] ∧ k = 0 ∧ g' = h) 0 (by omega) ⟨rfl, rfl, rfl⟩ ?_
  rintro k r g' ⟨rfl, rfl, rfl⟩
  simp (maxSteps := 2000000) (discharger := omega) only [xz,xc,xo,xr,x0,x1,xd,Reg.isA,Reg.isV,Reg.stays,Reg.onto,↓reduceIte,reduceCtorEq,Nat.reduceEqDiff,Nat.reduceLT,exists_eq_left',int_lt_f]
theorem c102n (hn : 5 < n) : call F n tot ω 102 [.nils, .int .i64 0, .fn (.func 77) [] []] h = some (.tup [], h) := by
  obtain ⟨n, rfl⟩ : ∃ m, n = m + 1 := ⟨n - 1, by omega⟩
  refine call_eq (fn := a102) f102 ?_
  unfold a102
  simp (maxSteps := 2000000) (discharger := omega) only [xz,xc,xo,xr,x0,Reg.isA,Reg.isV,Reg.stays,Reg.onto,↓reduceIte,reduceCtorEq,Nat.reduceEqDiff,Nat.reduceLT,Nat.reduceAdd]
  refine wpi_loop (fun k r g' => r = [(0, .val .nils), (1, .val (.int .i64 0)), (2, .val (.fn (.func 77) [] [])), (6, .val (.int .i64 20)), (7, .val (.int .i64 0)), (8, .val (.int .i64 20))] ∧ k = 0 ∧ g' = h) 0 (by omega) ⟨rfl, rfl, rfl⟩ ?_
  rintro k r g' ⟨rfl, rfl, rfl⟩
  have k1 := c111n (n := n) (tot := tot) (ω := ω) (h := g') (by omega)
  simp (maxSteps := 2000000) (discharger := omega) only [xz,xc,xo,xr,x0,x1,xd,kont_call,Reg.isA,Reg.isV,Reg.stays,Reg.onto,↓reduceIte,reduceCtorEq,Nat.reduceEqDiff,Nat.reduceLT,int_le_f,k1]
  refine wpi_loop (fun k r g => r = [(0, .val .nils), (1, .val (.int .i64 0)), (2, .val (.fn (.func 77) [] [])), (6, .val (.int .i64 20))] ∧ k = 0 ∧ g = g') 0 (by omega) ⟨rfl, rfl, rfl⟩ ?_
  rintro k r g ⟨rfl, rfl, rfl⟩
  simp (maxSteps := 2000000) (discharger := omega) only [xz,xc,xo,xr,x0,x1,xd,Reg.isA,Reg.isV,Reg.stays,Reg.onto,↓reduceIte,reduceCtorEq,Nat.reduceEqDiff,Nat.reduceLT,exists_eq_left',int_lt_f]

theorem c76 (v : AV) (fs : List Fl) (lo : Nat) (hr : RowAt h 2 lo (fs.map Fl.av) v) (hlo : lo ≤ h.length) (hl : fs.length ≤ 1000000000) (hn : 2 * fs.length + 50 < n) :
    ∃ (m : Hp) (fs' : List Fl), call F n tot ω 76 [v, .fn (.func 77) [] []] h = some (.tup [], h.take lo ++ m) ∧ RowAt (h.take lo ++ m) 2 lo (fs'.map Fl.av) v ∧ fs'.Perm fs ∧ ∀ j k (hj : j < fs'.length) (hk : k < fs'.length), j < k → flLt fs'[k] fs'[j] = false := by
  obtain ⟨n, rfl⟩ : ∃ m, n = m + 1 := ⟨n - 1, by omega⟩
  rcases hr with ⟨rfl, e⟩ | ⟨id, post, rfl, hid, hlo2⟩
  · have : fs = [] := by simpa using e
    subst this
    refine ⟨h.drop lo, [], ?_, .inl ⟨rfl, rfl⟩, .refl _, fun j k hj => by simp at hj⟩
    rw [List.take_append_drop]
    refine call_eq (fn := a76) f76 ?_
    unfold a76
    have k1 := c102n (n := n) (tot := tot) (ω := ω) (h := h) (by omega)
    simp (maxSteps := 2000000) (discharger := omega) only [xz,xc,xo,xr,x0,x4,xd,kont_call,Reg.isA,Reg.isV,Reg.onto,↓reduceIte,reduceCtorEq,Nat.reduceEqDiff,Nat.reduceLT,Nat.reduceAdd,Int.cast_ofNat_Int,exists_eq_left',k1]
  · have hL : Lies h id 2 (Full Fl.av [] post fs.toArray) h := .start (by rw [hid]; simp [Full])
    obtain ⟨h2, d2, q1, q2, q3, q4⟩ := s_stb (tot := tot) (ω := ω) flLt_swo (cmFl tot ω h id [] post) false fs.length fs.toArray n h (by simp) hl (by omega) hL
    have hfin := q2.fin
    obtain ⟨m, hm⟩ := hfin
    have hidl := (List.getElem?_eq_some_iff.1 hid).1
    have e1 : h2 = h.take lo ++ ((h.set id (.row 2 (Full Fl.av [] post d2))).drop lo ++ m) := by
      rw [hm, ← List.append_assoc]
      congr 1
      rw [show h.take lo = (h.set id (.row 2 (Full Fl.av [] post d2))).take lo by rw [List.take_set_of_le hlo2], List.take_append_drop]
    refine ⟨(h.set id (.row 2 (Full Fl.av [] post d2))).drop lo ++ m, d2.toList, ?_, .inr ⟨id, post, ?_, ?_, hlo2⟩, ?_, fun j k hj hk hjk => ?_⟩
    · rw [← e1]
      refine call_eq (fn := a76) f76 ?_
      unfold a76
      rw [List.length_map]
      simp only [List.length_nil] at q1
      simp (maxSteps := 2000000) (discharger := omega) only [xz,xc,xo,xr,x0,x4,xd,kont_call,Reg.isA,Reg.isV,Reg.onto,↓reduceIte,reduceCtorEq,Nat.reduceEqDiff,Nat.reduceLT,Nat.reduceAdd,exists_eq_left',q1]
    · have : d2.size = fs.length := by rw [q3.1]; simp
      simp [this]
    · rw [← e1, q2.row]; simp [Full]
    · have := q3.2.2
      have hs : d2.size = fs.length := by rw [q3.1]; simp
      rw [show d2.extract 0 fs.length = d2 by rw [← hs]; simp, show fs.toArray.extract 0 fs.length = fs.toArray by simp] at this
      simpa using this
    · have hs : d2.size = fs.length := by rw [q3.1]; simp
      have hj' : j < d2.size := by simpa using hj
      have hk' : k < d2.size := by simpa using hk
      have := q4 j k (Nat.zero_le _) hjk (by omega)
      simpa [hj', hk'] using this

theorem c75 (a : AV) (fs : List Fl) (ha : IsRd 2 (fs.map Fl.av) a) (hl : fs.length ≤ 1000000) (hn : 2 < n) :
    ∃ v m, call F n tot ω 75 [a] h = some (v, h ++ m) ∧ RowAt (h ++ m) 2 h.length (fs.map Fl.av) v := by
  obtain ⟨n, rfl⟩ : ∃ m, n = m + 1 := ⟨n - 1, by omega⟩
  rcases ha with ⟨rfl, e⟩ | ⟨c, rfl⟩
  · rw [e]
    refine ⟨.nils, [], ?_, .inl ⟨rfl, rfl⟩⟩
    rw [List.append_nil]
    refine call_eq (fn := a75) f75 ?_
    unfold a75
    simp (maxSteps := 2000000) (discharger := omega) only [xz,xc,xo,xr,x0,x2,xd,isNil,Bool.bne_false,Reg.isA,Reg.isV,Reg.stays,Reg.onto,↓reduceIte,reduceCtorEq,Nat.reduceEqDiff,Nat.reduceLT,exists_eq_left']
  · obtain ⟨v, m, q1, q2⟩ := row_all (h := h) (sz := 2) (es := fs.map Fl.av) (bytes := 40) (by rw [List.length_map]; omega)
    refine ⟨v, m, ?_, q2⟩
    refine call_eq (fn := a75) f75 ?_
    unfold a75
    simp (maxSteps := 2000000) (discharger := omega) only [xz,xc,xo,xr,x0,x2,x5,xd,xb,isNil,selems,srcElems,partEs,placeEs,Bool.bne_false,Reg.isA,Reg.isV,Reg.stays,Reg.onto,↓reduceIte,reduceCtorEq,Nat.reduceEqDiff,Nat.reduceLT,exists_eq_left',q1,List.replicate]

theorem c44 (a : AV) (fs : List Fl) (ha : IsRd 2 (fs.map Fl.av) a) (hl : fs.length ≤ 1000000) (hn : 2 * fs.length + 60 < n) :
    ∃ (v : AV) (m : Hp) (fs' : List Fl), call F n tot ω 44 [a] h = some (v, h ++ m) ∧ RowAt (h ++ m) 2 h.length (fs'.map Fl.av) v ∧ fs'.Perm fs ∧ ∀ j k (hj : j < fs'.length) (hk : k < fs'.length), j < k → flLt fs'[k] fs'[j] = false := by
  obtain ⟨n, rfl⟩ : ∃ m, n = m + 1 := ⟨n - 1, by omega⟩
  obtain ⟨v, m, q1, q2⟩ := c75 (n := n) (tot := tot) (ω := ω) (h := h) a fs ha hl (by omega)
  obtain ⟨m2, fs', q3, q4, q5, q6⟩ := c76 (n := n) (tot := tot) (ω := ω) (h := h ++ m) v fs h.length q2 (by simp) (by omega) (by omega)
  rw [List.take_left] at q3 q4
  refine ⟨v, m2, fs', ?_, q4, q5, q6⟩
  refine call_eq (fn := a44) f44 ?_
  unfold a44
  simp (maxSteps := 2000000) (discharger := omega) only [xz,xc,xo,xr,x0,xd,kont_call,Reg.isA,Reg.isV,Reg.stays,Reg.onto,↓reduceIte,reduceCtorEq,Nat.reduceEqDiff,Nat.reduceLT,exists_eq_left',q1,q3]
end
end Go.Proofs.YtpgmohjmpaifbaaDoor.Im

/- S21Pa: tree.Path: which texts are paths. -/
set_option linter.unusedVariables false
set_option linter.unusedSimpArgs false
open Go Go.Im
namespace Go.Proofs.YtpgmohjmpaifbaaDoor.Im

theorem idx_none : ∀ (s : By) (pv : Bool), Go.Lib.indexByte s 47 = -1 → slashOk pv s = (if s = [] then !pv else true)
  | [], pv, _ => rfl
  | c :: cs, pv, h => by
    unfold Go.Lib.indexByte at h
    split at h
    · cases h
    · rename_i hc
      have hc' : c ≠ 47 := by simpa using hc
      split at h
      · rename_i hx
        have := idx_none cs false (by simpa using hx)
        simp only [slashOk,if_neg hc',this]
        by_cases e : cs = [] <;> simp [e]
      · have := Go.Lib.indexByte_ge cs 47
        rename_i hx
        simp only [beq_iff_eq] at hx
        omega
theorem idx_some : ∀ (s : By) (pv : Bool) (i : Nat), Go.Lib.indexByte s 47 = (i : Int) → i < s.length ∧ slashOk pv s = if i = 0 then !pv && slashOk true (s.drop 1) else slashOk true (s.drop (i + 1))
  | [], pv, i, h => by
    have : Go.Lib.indexByte [] 47 = -1 := rfl
    omega
  | c :: cs, pv, i, h => by
    unfold Go.Lib.indexByte at h
    split at h
    · rename_i hc
      have hc' : c = 47 := by simpa using hc
      obtain rfl : i = 0 := by omega
      simp [slashOk,hc']
    · rename_i hc
      have hc' : c ≠ 47 := by simpa using hc
      split at h
      · omega
      · rename_i hx
        simp only [beq_iff_eq] at hx
        have hge := Go.Lib.indexByte_ge cs 47
        obtain ⟨j, hj⟩ : ∃ j : Nat, Go.Lib.indexByte cs 47 = (j : Int) := ⟨(Go.Lib.indexByte cs 47).toNat, by omega⟩
        obtain rfl : i = j + 1 := by omega
        obtain ⟨h1, h2⟩ := idx_some cs false j hj
        refine ⟨by simpa using h1, ?_⟩
        simp only [slashOk,if_neg hc',h2,List.drop_succ_cons,Nat.add_one_ne_zero,if_false]
        by_cases e : j = 0 <;> simp [e]

/-! ### the place of a slash -/
section
variable {n : Nat} {tot : Bool} {ω : Nat → Nat} {h : Hp}
theorem f120 : F 120 = some (.inr idxG) := by kernel_rfl
theorem c120 (s : By) (c : UInt8) (hn : 0 < n) : call F n tot ω 120 [.str s, .int .u8 (c.toNat : Nat)] h = some (.int .i64 (Go.Lib.indexByte s c), h) := by
  obtain ⟨n, rfl⟩ : ∃ m, n = m + 1 := ⟨n - 1, by omega⟩
  rw [call_inr f120]
  simp [idxG]
theorem c115 (s : By) (c : UInt8) (hn : 1 < n) : call F n tot ω 115 [.str s, .int .u8 (c.toNat : Nat)] h = some (.int .i64 (Go.Lib.indexByte s c), h) := by
  obtain ⟨n, rfl⟩ : ∃ m, n = m + 1 := ⟨n - 1, by omega⟩
  refine call_eq (fn := a115) f115 ?_
  unfold a115
  have k := fun h => c120 (n := n) (tot := tot) (ω := ω) (h := h) s c (by omega)
  simp (maxSteps := 2000000) (discharger := omega) only [xz,xc,xo,xr,x0,xd,kont_call,Reg.isA,Reg.isV,Reg.stays,Reg.onto,↓reduceIte,reduceCtorEq,Nat.reduceEqDiff,Nat.reduceLT,Nat.reduceAdd,exists_eq_left',k]
theorem c110 (s : By) (c : UInt8) (hn : 2 < n) : call F n tot ω 110 [.str s, .str [c]] h = some (.int .i64 (Go.Lib.indexByte s c), h) := by
  obtain ⟨n, rfl⟩ : ∃ m, n = m + 1 := ⟨n - 1, by omega⟩
  refine call_eq (fn := a110) f110 ?_
  unfold a110
  have k := fun h => c115 (n := n) (tot := tot) (ω := ω) (h := h) s c (by omega)
  simp (maxSteps := 2000000) (discharger := omega) only [xz,xc,xo,xr,x0,x1,x4,xd,kont_call,Reg.isA,Reg.isV,Reg.stays,Reg.onto,↓reduceIte,reduceCtorEq,Nat.reduceEqDiff,Nat.reduceLT,Nat.reduceAdd,Int.cast_ofNat_Int,beq_self_eq_true,exists_eq_left',Int.reduceToNat,int_le_t,int_beq_f,k]
  split
  · rename_i hq
    have hq : [c] = s := by simpa using hq
    subst hq
    simp [Go.Lib.indexByte]
  · trivial
theorem c101 (s : By) (c : UInt8) (hn : 3 < n) : call F n tot ω 101 [.str s, .str [c]] h = some (.int .i64 (Go.Lib.indexByte s c), h) := by
  obtain ⟨n, rfl⟩ : ∃ m, n = m + 1 := ⟨n - 1, by omega⟩
  refine call_eq (fn := a101) f101 ?_
  unfold a101
  have k := fun h => c110 (n := n) (tot := tot) (ω := ω) (h := h) s c (by omega)
  simp (maxSteps := 2000000) (discharger := omega) only [xz,xc,xo,xr,x0,xd,kont_call,Reg.isA,Reg.isV,Reg.stays,Reg.onto,↓reduceIte,reduceCtorEq,Nat.reduceEqDiff,Nat.reduceLT,Nat.reduceAdd,exists_eq_left',k]

/-! ### the split -/
def hdP : AC := .region [] [⟨some 3, .mov (.t 11), none⟩] [2, 3]
def bdP : AC := .block 1 w12b
def RP (s : By) (L : Nat) : Regs := [(0, .val (.str s)), (2, .val (.ptr L 1 0 0)), (10, .val (.fn (.func 99) [] [.ptr (L + 2) 1 0 0, .ptr (L + 1) 1 0 0, .ptr (L + 3) 1 0 0]))]
def HP (h : Hp) (s q : By) (st : Nat) (pd : Option AE) : Hp := h ++ [.row 1 [.bool false], .row 1 [.str q], .row 1 [.str [47]], .row 1 [.int .i64 0], .loop (RP s h.length) [11] hdP bdP st pd]

theorem rd_yes (s q p : By) (hp : p ≠ []) (hn : 1 < n) : round F n tot ω (h.length + 4) [.str p] (HP h s q 0 none) = some (.bool true, HP h s q 0 none) := by
  obtain ⟨n, rfl⟩ : ∃ m, n = m + 1 := ⟨n - 1, by omega⟩
  refine round_eq (r := RP s h.length) (ps := [11]) (hd := hdP) (bd := bdP) (st := 0) (pd := none) (by unfold HP; rw [hgk]; rfl) rfl ?_
  have hb : (p == []) = false := by cases p <;> simp_all
  have e : putArgs (RP s h.length) [11] [.str p] = [(0, .val (.str s)), (2, .val (.ptr h.length 1 0 0)), (10, .val (.fn (.func 99) [] [.ptr (h.length + 2) 1 0 0, .ptr (h.length + 1) 1 0 0, .ptr (h.length + 3) 1 0 0])), (11, .val (.str p))] := rfl
  rw [e]
  unfold hdP
  simp (maxSteps := 2000000) (discharger := omega) only [xz,xc,xo,xr,x0,Reg.isA,Reg.isV,Reg.stays,Reg.onto,↓reduceIte,reduceCtorEq,Nat.reduceEqDiff,Nat.reduceLT]
  refine ⟨rfl, RP s h.length, [11], hdP, bdP, none, by unfold HP; rw [hgk]; rfl, ?_⟩
  unfold bdP w12b HP
  simp (maxSteps := 2000000) (discharger := omega) only [xz,xc,xo,xr,x0,x1,xd,Reg.isA,Reg.isV,Reg.stays,Reg.onto,↓reduceIte,Nat.reduceEqDiff,Nat.reduceLT,List.set_cons_zero,List.set_cons_succ,hsk,hb]
  exact ⟨_, _, _, _, _, _, by rw [hgk]; rfl, rfl, by rw [hsk]; rfl⟩

theorem rd_no (s q : By) (hn : 1 < n) : round F n tot ω (h.length + 4) [.str []] (HP h s q 0 none) = some (.bool false, HP h s q 2 (some .ret)) := by
  obtain ⟨n, rfl⟩ : ∃ m, n = m + 1 := ⟨n - 1, by omega⟩
  refine round_eq (r := RP s h.length) (ps := [11]) (hd := hdP) (bd := bdP) (st := 0) (pd := none) (by unfold HP; rw [hgk]; rfl) rfl ?_
  have e : putArgs (RP s h.length) [11] [.str []] = [(0, .val (.str s)), (2, .val (.ptr h.length 1 0 0)), (10, .val (.fn (.func 99) [] [.ptr (h.length + 2) 1 0 0, .ptr (h.length + 1) 1 0 0, .ptr (h.length + 3) 1 0 0])), (11, .val (.str []))] := rfl
  rw [e]
  unfold hdP
  simp (maxSteps := 2000000) (discharger := omega) only [xz,xc,xo,xr,x0,Reg.isA,Reg.isV,Reg.stays,Reg.onto,↓reduceIte,reduceCtorEq,Nat.reduceEqDiff,Nat.reduceLT]
  refine ⟨rfl, RP s h.length, [11], hdP, bdP, none, by unfold HP; rw [hgk]; rfl, ?_⟩
  unfold bdP w12b HP
  simp (maxSteps := 2000000) (discharger := omega) only [xz,xc,xo,xr,x0,x1,x5,xd,wr,Reg.isA,Reg.isV,Reg.stays,Reg.onto,↓reduceIte,Nat.reduceEqDiff,Nat.reduceLT,beq_self_eq_true,xu,List.set_cons_zero,List.set_cons_succ,hsk,hg0,hs0]
  exact ⟨_, _, _, _, _, _, by rw [hgk]; rfl, rfl, by rw [hsk]; rfl⟩

theorem c74 (s p : By) (hn : 0 < n) : call F n tot ω 74 [.str s, .str p, .int .i64 0] h = some (.fn (.func 99) [] [.ptr (h.length + 1) 1 0 0, .ptr h.length 1 0 0, .ptr (h.length + 2) 1 0 0], h ++ [.row 1 [.str s], .row 1 [.str p], .row 1 [.int .i64 0]]) := by
  obtain ⟨n, rfl⟩ : ∃ m, n = m + 1 := ⟨n - 1, by omega⟩
  refine call_eq (fn := a74) f74 ?_
  unfold a74
  simp (maxSteps := 2000000) (discharger := omega) only [xz,xc,xo,xr,x0,x3,x5,xd,Reg.isA,Reg.isV,Reg.stays,Reg.onto,↓reduceIte,reduceCtorEq,Nat.reduceEqDiff,Nat.reduceLT,Nat.reduceAdd,exists_eq_left',List.length_append,List.append_assoc]
theorem c43 (s p : By) (hn : 1 < n) : call F n tot ω 43 [.str s, .str p] h = some (.fn (.func 99) [] [.ptr (h.length + 1) 1 0 0, .ptr h.length 1 0 0, .ptr (h.length + 2) 1 0 0], h ++ [.row 1 [.str s], .row 1 [.str p], .row 1 [.int .i64 0]]) := by
  obtain ⟨n, rfl⟩ : ∃ m, n = m + 1 := ⟨n - 1, by omega⟩
  refine call_eq (fn := a43) f43 ?_
  unfold a43
  have k := c74 (n := n) (tot := tot) (ω := ω) (h := h) s p (by omega)
  simp (maxSteps := 2000000) (discharger := omega) only [xz,xc,xo,xr,x0,xd,kont_call,Reg.isA,Reg.isV,Reg.stays,Reg.onto,↓reduceIte,reduceCtorEq,Nat.reduceEqDiff,Nat.reduceLT,Nat.reduceAdd,exists_eq_left',k]

theorem c99 (s : By) (hs : s.length ≤ 64) (hn : 80 < n) : ∃ q, call F n tot ω 99 [.yld (h.length + 4), .ptr (h.length + 2) 1 0 0, .ptr (h.length + 1) 1 0 0, .ptr (h.length + 3) 1 0 0] (HP h s s 0 none) = some (.tup [], if slashOk true s = true then HP h s q 0 none else HP h s q 2 (some .ret)) := by
  obtain ⟨n, rfl⟩ : ∃ m, n = m + 1 := ⟨n - 1, by omega⟩
  suffices hx : ∃ v h', call F (n + 1) tot ω 99 [.yld (h.length + 4), .ptr (h.length + 2) 1 0 0, .ptr (h.length + 1) 1 0 0, .ptr (h.length + 3) 1 0 0] (HP h s s 0 none) = some (v, h') ∧ v = .tup [] ∧ ∃ q, h' = if slashOk true s = true then HP h s q 0 none else HP h s q 2 (some .ret) by
    obtain ⟨v, h', e1, rfl, q, rfl⟩ := hx
    exact ⟨q, e1⟩
  refine call_of (fn := a99) f99 (P := fun v h' => v = .tup [] ∧ ∃ q, h' = if slashOk true s = true then HP h s q 0 none else HP h s q 2 (some .ret)) ?_
  unfold a99
  have g1 : ∀ q st pd, (HP h s q st pd)[h.length + 1]? = some (.row 1 [.str q]) := fun q st pd => by unfold HP; rw [hgk]; rfl
  have g2 : ∀ q st pd, (HP h s q st pd)[h.length + 2]? = some (.row 1 [.str [47]]) := fun q st pd => by unfold HP; rw [hgk]; rfl
  have g3 : ∀ q st pd, (HP h s q st pd)[h.length + 3]? = some (.row 1 [.int .i64 0]) := fun q st pd => by unfold HP; rw [hgk]; rfl
  have u1 : ∀ q q' st pd, (HP h s q st pd).set (h.length + 1) (.row 1 [.str q']) = HP h s q' st pd := fun q q' st pd => by unfold HP; rw [hsk]; rfl
  simp (maxSteps := 2000000) (discharger := omega) only [xz,xc,xo,xr,x0,x1,x4,xd,Reg.isA,Reg.isV,Reg.stays,Reg.onto,↓reduceIte,reduceCtorEq,Nat.reduceEqDiff,Nat.reduceLT,Nat.reduceAdd,Int.cast_ofNat_Int,int_beq_f,g2]
  refine wpi_loop (fun x r g' => ∃ q : By, (r = [(0, .val (.yld (h.length + 4))), (1, .val (.ptr (h.length + 2) 1 0 0)), (2, .val (.ptr (h.length + 1) 1 0 0)), (3, .val (.ptr (h.length + 3) 1 0 0))] ∨ r = [(0, .val (.yld (h.length + 4))), (1, .val (.ptr (h.length + 2) 1 0 0)), (2, .val (.ptr (h.length + 1) 1 0 0)), (3, .val (.ptr (h.length + 3) 1 0 0)), (11, .val (.bool false))]) ∧ x = q.length ∧ q.length ≤ s.length ∧ g' = HP h s q 0 none ∧ slashOk true q = slashOk true s) s.length (by omega)
    ⟨s, .inr rfl, rfl, Nat.le_refl _, rfl, rfl⟩ ?_
  rintro x r g' ⟨q, hr, rfl, hq, rfl, hsl⟩
  have k := fun h => c101 (n := n) (tot := tot) (ω := ω) (h := h) q 47 (by omega)
  have hge := Go.Lib.indexByte_ge q 47
  by_cases hi : Go.Lib.indexByte q 47 = -1
  · have h1 := idx_none q true hi
    by_cases hq0 : q = []
    · subst hq0
      have r1 := rd_no (n := n) (tot := tot) (ω := ω) (h := h) s [] (by omega)
      have : ∃ q, HP h s [] 2 (some .ret) = if slashOk true s = true then HP h s q 0 none else HP h s q 2 (some .ret) := by
        refine ⟨[], ?_⟩
        rw [if_neg]
        rw [← hsl]; simp [slashOk]
      rcases hr with rfl | rfl <;> simp (maxSteps := 2000000) (discharger := omega) only [xz,xc,xo,xr,x0,x1,xd,kont_call,kont_round,Reg.isA,Reg.isV,Reg.stays,Reg.onto,↓reduceIte,reduceCtorEq,Nat.reduceEqDiff,Nat.reduceLT,exists_eq_left',Int.reduceNeg,int_lt_t,g1,g2,k,hi,r1] <;> exact this
    · have r1 := rd_yes (n := n) (tot := tot) (ω := ω) (h := h) s q q hq0 (by omega)
      have : ∃ q', HP h s q 0 none = if slashOk true s = true then HP h s q' 0 none else HP h s q' 2 (some .ret) := by
        refine ⟨q, ?_⟩
        rw [if_pos]
        rw [← hsl, h1, if_neg hq0]
      rcases hr with rfl | rfl <;> simp (maxSteps := 2000000) (discharger := omega) only [xz,xc,xo,xr,x0,x1,xd,kont_call,kont_round,Reg.isA,Reg.isV,Reg.stays,Reg.onto,↓reduceIte,reduceCtorEq,Nat.reduceEqDiff,Nat.reduceLT,exists_eq_left',Int.reduceNeg,int_lt_t,g1,g2,k,hi,r1] <;> exact this
  · obtain ⟨i, hi⟩ : ∃ i : Nat, Go.Lib.indexByte q 47 = (i : Int) := ⟨(Go.Lib.indexByte q 47).toNat, by omega⟩
    obtain ⟨hl, h2⟩ := idx_some q true i hi
    have e0 : (i : Int) + 0 = (i : Int) := by omega
    have e1 : ((i : Int) + 1).toNat = i + 1 := by omega
    by_cases hi0 : i = 0
    · subst hi0
      have r1 := rd_no (n := n) (tot := tot) (ω := ω) (h := h) s q (by omega)
      have : ∃ q', HP h s q 2 (some .ret) = if slashOk true s = true then HP h s q' 0 none else HP h s q' 2 (some .ret) := by
        refine ⟨q, ?_⟩
        rw [if_neg]
        rw [← hsl, h2]; simp
      rcases hr with rfl | rfl <;> simp (maxSteps := 2000000) (discharger := omega) only [xz,xc,xo,xr,x0,x1,x2,x3,xd,kont_call,kont_round,slOk,sliceV,Reg.isA,Reg.isV,Reg.stays,Reg.onto,↓reduceIte,reduceCtorEq,Nat.reduceEqDiff,Nat.reduceLT,Option.getD_some,Int.cast_ofNat_Int,exists_eq_left',Int.reduceToNat,wrap_i64,int_lt_f,int_le_t,g1,g2,g3,k,hi,r1,Int.add_zero] <;> exact this
    · have hne : q.take i ≠ [] := by
        intro e
        have : (q.take i).length = 0 := by rw [e]; rfl
        rw [List.length_take] at this
        omega
      have r1 := rd_yes (n := n) (tot := tot) (ω := ω) (h := h) s q (q.take i) hne (by omega)
      rcases hr with rfl | rfl <;> simp (maxSteps := 2000000) (discharger := omega) only [xz,xc,xo,xr,x0,x1,x2,x3,x4,x5,xd,kont_call,kont_round,slOk,sliceV,wr,Reg.isA,Reg.isV,Reg.stays,Reg.onto,↓reduceIte,reduceCtorEq,Nat.reduceEqDiff,Nat.reduceLT,Option.getD_some,Option.getD_none,Int.cast_ofNat_Int,true_or,Int.reduceToNat,xu,List.set_cons_zero,wrap_i64,int_lt_f,int_le_t,g1,g2,g3,k,hi,r1,e0,e1,u1,List.take_length]
      · exact ⟨(q.drop (i + 1)).length, by simp; omega, q.drop (i + 1), rfl, by simp; omega, rfl, by rw [← hsl, h2, if_neg hi0]⟩
      · exact ⟨(q.drop (i + 1)).length, by simp; omega, q.drop (i + 1), rfl, by simp; omega, rfl, by rw [← hsl, h2, if_neg hi0]⟩

theorem c12 (s : By) (hs : s.length ≤ 9223372036854775807) (hn : 100 < n) : ∃ m, call F n tot ω 12 [.str s] h = some (.bool (pathB s), h ++ m) := by
  obtain ⟨n, rfl⟩ : ∃ m, n = m + 1 := ⟨n - 1, by omega⟩
  suffices hx : ∃ v h', call F (n + 1) tot ω 12 [.str s] h = some (v, h') ∧ v = .bool (pathB s) ∧ ∃ m, h' = h ++ m by
    obtain ⟨v, h', e1, rfl, m, rfl⟩ := hx
    exact ⟨m, e1⟩
  refine call_of (fn := a12) f12 (P := fun v h' => v = .bool (pathB s) ∧ ∃ m, h' = h ++ m) ?_
  unfold a12
  by_cases hl : s.length ≤ 64
  · obtain ⟨q, k⟩ := c99 (n := n) (tot := tot) (ω := ω) (h := h) s hl (by omega)
    have k43 := c43 (n := n) (tot := tot) (ω := ω) (h := h ++ [.row 1 [.bool false]]) s [47] (by omega)
    simp only [List.length_append,List.length_cons,List.length_nil,Nat.zero_add,List.append_assoc,List.cons_append,List.nil_append,Nat.add_assoc,Nat.reduceAdd] at k43
    simp (maxSteps := 2000000) (discharger := omega) only [xz,xc,xo,xr,x0,x1,x4,x5,xd,kont_call,Reg.isA,Reg.isV,Reg.stays,Reg.onto,↓reduceIte,reduceCtorEq,Nat.reduceEqDiff,Nat.reduceLT,int_lt_f,k43]
    refine wpi_rangeF (h2 := if slashOk true s = true then HP h s q 0 none else HP h s q 2 (some .ret)) (f := 99) (first := []) (captured := [.ptr (h.length + 2) 1 0 0, .ptr (h.length + 1) 1 0 0, .ptr (h.length + 3) 1 0 0]) (v := .tup []) (r1 := RP s h.length) (ps1 := [11]) (hd1 := hdP) (bd1 := bdP) (st := if slashOk true s = true then 0 else 2) (pd := if slashOk true s = true then none else some .ret) rfl (kont_code f99) ?_ ?_ ?_ ?_
    · have e : (h ++ [AO.row 1 [.bool false], .row 1 [.str s], .row 1 [.str [47]], .row 1 [.int .i64 0]]).length = h.length + 4 := by simp
      rw [e, List.append_assoc]
      exact k
    · have e : (h ++ [AO.row 1 [.bool false], .row 1 [.str s], .row 1 [.str [47]], .row 1 [.int .i64 0]]).length = h.length + 4 := by simp
      rw [e]
      by_cases hk : slashOk true s = true
      · rw [if_pos hk, if_pos hk, if_pos hk]; unfold HP; rw [hgk]; rfl
      · rw [if_neg hk, if_neg hk, if_neg hk]; unfold HP; rw [hgk]; rfl
    · split <;> omega
    · have e : (h ++ [AO.row 1 [.bool false], .row 1 [.str s], .row 1 [.str [47]], .row 1 [.int .i64 0]]).length = h.length + 4 := by simp
      rw [e]
      by_cases hk : slashOk true s = true
      · rw [if_pos hk, if_pos hk]
        unfold HP
        rw [hsk]
        simp (maxSteps := 2000000) (discharger := omega) only [xc,Option.getD_none,List.set_cons_zero,List.set_cons_succ]
        unfold w12c
        simp (maxSteps := 2000000) (discharger := omega) only [xz,xc,xo,xr,x0,x2,x3,x4,xd,xe,Reg.isA,Reg.isV,Reg.stays,Reg.onto,↓reduceIte,reduceCtorEq,Nat.reduceEqDiff,Nat.reduceLT]
        refine wpi_loop (fun x r g' => ∃ i : Nat, r = [(2, .val (.ptr h.length 1 0 0)), (15, .val (.imm 1 (bytesOf s) .no)), (16, .val (.int .i64 s.length)), (17, .val (.int .i64 i))] ∧ x = s.length - i ∧ i ≤ s.length ∧ g' = h ++ [.row 1 [.bool false], .row 1 [.str q], .row 1 [.str [47]], .row 1 [.int .i64 0], .dead] ∧ (s.take i).all goodC = true) s.length (by omega)
          ⟨0, rfl, rfl, Nat.zero_le _, rfl, rfl⟩ ?_
        rintro x r g' ⟨i, rfl, rfl, hi, rfl, hg⟩
        by_cases hlt : i < s.length
        · have qb := bytesOf_get hlt
          by_cases h1 : ((s[i].toNat : Nat) : Int) ≤ 32
          · have hp : pathB s = false := by
              unfold pathB
              rw [hk, show s.all goodC = false from all_bad hlt (by simp [goodC]; omega)]; simp
            simp (maxSteps := 2000000) (discharger := omega) only [xz,xc,xo,xr,x0,x1,x5,xd,xb,wr,Reg.isA,Reg.isV,Reg.stays,Reg.onto,↓reduceIte,Nat.reduceEqDiff,Nat.reduceLT,exists_eq_left',xu,List.set_cons_zero,int_lt_t,int_le_t,qb,hp,hg0,hs0]
            exact ⟨_, rfl⟩
          · by_cases h2 : ((s[i].toNat : Nat) : Int) > 126
            · have hp : pathB s = false := by
                unfold pathB
                rw [hk, show s.all goodC = false from all_bad hlt (by simp [goodC]; omega)]; simp
              simp (maxSteps := 2000000) (discharger := omega) only [xz,xc,xo,xr,x0,x1,x5,xd,wr,Reg.isA,Reg.isV,Reg.stays,Reg.onto,↓reduceIte,Nat.reduceEqDiff,Nat.reduceLT,beq_self_eq_true,exists_eq_left',xu,List.set_cons_zero,int_lt_t,int_le_t,int_le_f,qb,hp,hg0,hs0]
              exact ⟨_, rfl⟩
            · simp (maxSteps := 2000000) (discharger := omega) only [xz,xc,xo,xr,x0,x1,xd,Reg.isA,Reg.isV,Reg.stays,Reg.onto,↓reduceIte,Nat.reduceEqDiff,Nat.reduceLT,beq_self_eq_true,wrap_i64,int_lt_t,int_lt_f,int_le_t,int_le_f,qb]
              refine ⟨s.length - (i + 1), by omega, i + 1, by rw [show ((i : Nat) : Int) + 1 = ((i + 1 : Nat) : Int) by omega], rfl, by omega, ?_⟩
              rw [List.take_succ_eq_append_getElem hlt, List.all_append, hg]
              simp [goodC]; omega
        · obtain rfl : i = s.length := by omega
          rw [List.take_length] at hg
          have hp : pathB s = true := by unfold pathB; rw [hk, hg]; simp [hl]
          simp (maxSteps := 2000000) (discharger := omega) only [xz,xc,xo,xr,x1,x5,xd,wr,Reg.isA,Reg.isV,Reg.stays,Reg.onto,↓reduceIte,Nat.reduceEqDiff,Nat.reduceLT,exists_eq_left',xu,List.set_cons_zero,int_lt_f,Nat.sub_self,hp,hg0,hs0]
          exact ⟨_, rfl⟩
      · rw [if_neg hk, if_neg hk]
        have hp : pathB s = false := by unfold pathB; simp [hk]
        unfold HP
        rw [hsk]
        simp (maxSteps := 2000000) (discharger := omega) only [xz,xc,xr,xd,↓reduceIte,reduceCtorEq,Option.getD_some,exists_eq_left',List.set_cons_zero,List.set_cons_succ,hp,hg0]
        exact ⟨_, rfl⟩
  · have hp : pathB s = false := by unfold pathB; simp [hl]
    simp (maxSteps := 2000000) (discharger := omega) only [xz,xc,xo,xr,x0,x1,x4,x5,xd,wr,Reg.isA,Reg.isV,Reg.stays,Reg.onto,↓reduceIte,reduceCtorEq,Nat.reduceEqDiff,Nat.reduceLT,exists_eq_left',xu,List.set_cons_zero,int_lt_t,hp,hg0,hs0]
    exact ⟨_, rfl⟩
end
end Go.Proofs.YtpgmohjmpaifbaaDoor.Im

/- S21Pe: tree.paths. -/
set_option linter.unusedVariables false
set_option linter.unusedSimpArgs false
open Go Go.Im
namespace Go.Proofs.YtpgmohjmpaifbaaDoor.Im
section
variable {n : Nat} {tot : Bool} {ω : Nat → Nat} {h : Hp}

theorem c45 (l : List By) (v : AV) (hv : IsRd 1 (l.map AV.str) v) (hb : ∀ p ∈ l, p.length ≤ 9223372036854775807) (hl : l.length ≤ 1000000) (hn : l.length + 110 < n) :
    ∃ b m, call F n tot ω 45 [v] h = some (.bool b, h ++ m) ∧ (b = true ↔ Rising l) := by
  obtain ⟨n, rfl⟩ : ∃ m, n = m + 1 := ⟨n - 1, by omega⟩
  suffices hx : ∃ v2 h', call F (n + 1) tot ω 45 [v] h = some (v2, h') ∧ ∃ b m, v2 = .bool b ∧ h' = h ++ m ∧ (b = true ↔ Rising l) by
    obtain ⟨v2, h', e1, b, m, rfl, rfl, e2⟩ := hx
    exact ⟨b, m, e1, e2⟩
  refine call_of (fn := a45) f45 (P := fun v2 h' => ∃ b m, v2 = .bool b ∧ h' = h ++ m ∧ (b = true ↔ Rising l)) ?_
  unfold a45
  have hlen := hv.len
  rw [List.length_map] at hlen
  have no : ¬ Rising l → ∀ (h' : Hp), (∃ m, h' = h ++ m) → ∃ b m, AV.bool false = .bool b ∧ h' = h ++ m ∧ (b = true ↔ Rising l) := fun hr h' ⟨m, e⟩ => ⟨false, m, rfl, e, by simp [hr]⟩
  simp (maxSteps := 2000000) (discharger := omega) only [xz,xc,xo,xr,x0,x4,x5,Reg.isA,Reg.isV,Reg.stays,Reg.onto,↓reduceIte,reduceCtorEq,Nat.reduceEqDiff,Nat.reduceLT,hlen]
  refine wpi_loop (fun x r g' => ∃ (i : Nat) (T : List (By × Bool × Nat)) (c : Nat), r = [(0, .val v), (3, .val (.mp h.length)), (11, .val v), (12, .val (.int .i64 l.length)), (13, .val (.int .i64 i))] ∧ x = l.length - i ∧ i ≤ l.length ∧
    (∃ m, g' = h ++ m) ∧ g'[h.length]? = some (.map (encE AV.str AV.bool T) c) ∧ (∀ k, tget T k = if k ∈ l.take i then some true else none) ∧ (∀ p ∈ l.take i, pathB p = true) ∧
    (∀ j k (hj : j < l.length) (hk : k < l.length), j < k → k < i → Op.bytesLess l[j] l[k] = true)) l.length (by omega)
    ⟨0, [], 0, rfl, rfl, Nat.zero_le _, ⟨_, rfl⟩, by simp [encE], fun k => by simp [tget], by simp, fun j k hj hk h1 h2 => by omega⟩ ?_
  rintro x r g' ⟨i, T, c, rfl, rfl, hi, ⟨m, rfl⟩, hm, hT, hp, hr⟩
  by_cases hlt : i < l.length
  · obtain ⟨cv, rfl⟩ := hv.imm (i := i) (by simpa using hlt)
    have q1 : (l.map AV.str)[i]? = some (.str l[i]) := by simp [hlt]
    obtain ⟨m2, k12⟩ := c12 (n := n) (tot := tot) (ω := ω) (h := h ++ m) l[i] (hb _ (List.getElem_mem hlt)) (by omega)
    by_cases hpi : pathB l[i] = true
    · rw [hpi] at k12
      have hm2 : (h ++ m ++ m2)[h.length]? = some (.map (encE AV.str AV.bool T) c) := by
        rw [List.getElem?_append_left (List.getElem?_eq_some_iff.1 hm).1]; exact hm
      have hlt2 := (List.getElem?_eq_some_iff.1 hm2).1
      -- what is put
      have put : (∀ j (hj : j < i), Op.bytesLess l[j] l[i] = true) → tget T l[i] = none ∧ ∀ k, tget (T ++ [(l[i], true, c)]) k = if k ∈ l.take (i + 1) then some true else none := fun hless => by
        have hn : tget T l[i] = none := by
          rw [hT, if_neg]
          intro hmem
          obtain ⟨j, hj, e⟩ := List.getElem_of_mem hmem
          rw [List.length_take] at hj
          rw [List.getElem_take] at e
          have := hless j (by omega)
          rw [e, bl_irrefl] at this
          cases this
        refine ⟨hn, fun k => ?_⟩
        rw [← tput_new hn, tget_put, hT, List.take_succ_eq_append_getElem hlt]
        by_cases e : l[i] = k
        · rw [if_pos e, if_pos (by simp [e])]
        · rw [if_neg e]
          by_cases e2 : k ∈ l.take i
          · rw [if_pos e2, if_pos (List.mem_append.2 (.inl e2))]
          · rw [if_neg e2, if_neg]
            simp only [List.mem_append,List.mem_singleton,not_or]
            exact ⟨e2, fun x => e x.symm⟩
      have hp' : ∀ p ∈ l.take (i + 1), pathB p = true := fun p hmem => by
        rw [List.take_succ_eq_append_getElem hlt] at hmem
        rcases List.mem_append.1 hmem with hmem | hmem
        · exact hp p hmem
        · rw [List.mem_singleton] at hmem; rw [hmem]; exact hpi
      by_cases h0 : i = 0
      · subst h0
        obtain ⟨hn0, hT'⟩ := put fun j hj => by omega
        have hf := findK_no (ev := AV.bool) key_str 0 hn0
        simp (maxSteps := 2000000) (discharger := omega) only [xz,xc,xo,xr,x0,x1,x2,x5,xd,xb,kont_call,keyOk,keyCells,Reg.isA,Reg.isV,Reg.stays,Reg.onto,↓reduceIte,reduceCtorEq,Nat.reduceEqDiff,Nat.reduceLT,Int.cast_ofNat_Int,beq_self_eq_true,Int.reduceToNat,Int.reduceAdd,wrap_i64,int_lt_t,int_lt_f,int_le_t,Nat.sub_zero,q1,k12,hm2,hf]
        refine ⟨l.length - (0 + 1), by omega, 0 + 1, T ++ [(l[0], true, c)], c + 1, rfl, rfl, by omega, ⟨(m ++ m2).set 0 _, by rw [List.append_assoc, hs0]⟩, ?_, hT', hp', fun j k hj hk h1 h2 => by omega⟩
        rw [get_set_self hlt2]; simp [encE]
      · have e1 : ((i : Int) - 1).toNat = i - 1 := by omega
        have q2 : (l.map AV.str)[i - 1]? = some (.str (l[i - 1]'(by omega))) := by simp [show i - 1 < l.length by omega]
        cases hless : Op.bytesLess (l[i - 1]'(by omega)) l[i] with
        | false =>
          simp (maxSteps := 2000000) (discharger := omega) only [xz,xc,xo,xr,x0,x1,x2,xd,kont_call,Reg.isA,Reg.isV,Reg.stays,Reg.onto,↓reduceIte,reduceCtorEq,Nat.reduceEqDiff,Nat.reduceLT,beq_self_eq_true,exists_eq_left',wrap_i64,int_lt_t,int_le_t,q1,q2,k12,e1,hless]
          refine no (fun hR => ?_) _ ⟨m ++ m2, by rw [List.append_assoc]⟩
          have := hR.rise (i - 1) i (by omega) hlt (by omega)
          rw [hless] at this; cases this
        | true =>
          have hall : ∀ j (hj : j < i), Op.bytesLess (l[j]'(by omega)) l[i] = true := fun j hj => by
            by_cases e : j = i - 1
            · subst e; exact hless
            · exact bl_trans _ _ _ (hr j (i - 1) (by omega) (by omega) (by omega) (by omega)) hless
          obtain ⟨hn0, hT'⟩ := put hall
          have hf := findK_no (ev := AV.bool) key_str 0 hn0
          simp (maxSteps := 2000000) (discharger := omega) only [xz,xc,xo,xr,x0,x1,x2,x5,xd,kont_call,keyOk,keyCells,Reg.isA,Reg.isV,Reg.stays,Reg.onto,↓reduceIte,reduceCtorEq,Nat.reduceEqDiff,Nat.reduceLT,beq_self_eq_true,wrap_i64,int_lt_t,int_le_t,q1,q2,k12,e1,hless,hm2,hf]
          refine ⟨l.length - (i + 1), by omega, i + 1, T ++ [(l[i], true, c)], c + 1, by rw [show ((i : Nat) : Int) + 1 = ((i + 1 : Nat) : Int) by omega], rfl, by omega, ⟨(m ++ m2).set 0 _, by rw [List.append_assoc, hs0]⟩, ?_, hT', hp', fun j k hj hk h1 h2 => ?_⟩
          · rw [get_set_self hlt2]; simp [encE]
          · by_cases e : k = i
            · subst e; exact hall j h1
            · exact hr j k hj hk h1 (by omega)
    · have hpi' : pathB l[i] = false := by simpa using hpi
      rw [hpi'] at k12
      simp (maxSteps := 2000000) (discharger := omega) only [xz,xc,xo,xr,x0,x1,x2,xd,xb,kont_call,Reg.isA,Reg.isV,Reg.stays,Reg.onto,↓reduceIte,reduceCtorEq,Nat.reduceEqDiff,Nat.reduceLT,exists_eq_left',int_lt_t,int_le_t,q1,k12]
      exact no (fun hR => hpi (hR.path _ (List.getElem_mem hlt))) _ ⟨m ++ m2, by rw [List.append_assoc]⟩
  · obtain rfl : i = l.length := by omega
    rw [List.take_length] at hT hp
    simp (maxSteps := 2000000) (discharger := omega) only [xz,xc,xo,xr,x0,x1,x4,xd,Reg.isA,Reg.isV,Reg.stays,Reg.onto,↓reduceIte,reduceCtorEq,Nat.reduceEqDiff,Nat.reduceLT,int_lt_f,Nat.sub_self,hlen]
    refine wpi_loop (fun x r g' => ∃ (i : Nat), r = [(0, .val v), (3, .val (.mp h.length)), (37, .val v), (38, .val (.int .i64 l.length)), (39, .val (.int .i64 i))] ∧ x = l.length - i ∧ i ≤ l.length ∧ g' = h ++ m ∧
      ∀ j (hj : j < l.length), j < i → ∀ q ∈ l, ¬ Under l[j] q) l.length (by omega)
      ⟨0, rfl, rfl, Nat.zero_le _, rfl, fun j hj h1 => by omega⟩ ?_
    rintro x r g' ⟨i, rfl, rfl, hi, rfl, hu⟩
    by_cases hlt : i < l.length
    · obtain ⟨cv, rfl⟩ := hv.imm (i := i) (by simpa using hlt)
      have q1 : (l.map AV.str)[i]? = some (.str l[i]) := by simp [hlt]
      have hp64 := path_len (hp _ (List.getElem_mem hlt))
      simp (maxSteps := 2000000) (discharger := omega) only [xz,xc,xo,xr,x0,x1,x2,x3,x4,xd,xe,Reg.isA,Reg.isV,Reg.stays,Reg.onto,↓reduceIte,reduceCtorEq,Nat.reduceEqDiff,Nat.reduceLT,int_lt_t,int_le_t,q1]
      refine wpi_loop (fun x r g' => ∃ (a : Nat), r = [(0, .val (.imm 1 (l.map AV.str) cv)), (3, .val (.mp h.length)), (7, .val (.str l[i])), (37, .val (.imm 1 (l.map AV.str) cv)), (38, .val (.int .i64 l.length)), (39, .val (.int .i64 i)), (44, .val (.imm 1 (bytesOf l[i]) .no)), (45, .val (.int .i64 l[i].length)), (46, .val (.int .i64 a))] ∧ x = l[i].length - a ∧ a ≤ l[i].length ∧ g' = h ++ m ∧
        ∀ q ∈ l, q.length < a → ¬ Under l[i] q) l[i].length (by omega)
        ⟨0, rfl, rfl, Nat.zero_le _, rfl, fun q hq h1 => by omega⟩ ?_
      rintro x r g' ⟨a, rfl, rfl, ha, rfl, hq⟩
      by_cases hla : a < l[i].length
      · have qb := bytesOf_get hla
        by_cases h47 : ((l[i][a].toNat : Nat) : Int) = 47
        · have h47' : l[i][a] = 47 := by rwa [u8_47] at h47
          cases htg : tget T (l[i].take a) with
          | none =>
            have hf := findK_no (ev := AV.bool) key_str 0 htg
            simp (maxSteps := 2000000) (discharger := omega) only [xz,xc,xo,xr,x0,x1,x3,x4,x5,xd,slOk,sliceV,mapOf,keyOk,keyCells,Reg.isA,Reg.isV,Reg.stays,Reg.onto,↓reduceIte,reduceCtorEq,Nat.reduceEqDiff,Nat.reduceLT,Option.getD_some,beq_self_eq_true,Int.reduceToNat,wrap_i64,int_lt_t,int_le_t,int_beq_t,qb,hm,hf]
            refine ⟨l[i].length - (a + 1), by omega, a + 1, by rw [show ((a : Nat) : Int) + 1 = ((a + 1 : Nat) : Int) by omega], rfl, by omega, fun q hql hqa hU => ?_⟩
            obtain ⟨w1, w2, w3⟩ := under_iff.1 hU
            by_cases e : q.length = a
            · rw [e] at w3
              have := hT (l[i].take a)
              rw [htg, if_pos (by rw [w3]; exact hql)] at this
              cases this
            · exact hq q hql (by omega) hU
          | some b =>
            obtain ⟨j, hf, _⟩ := findK_yes (ev := AV.bool) key_str 0 htg
            have hmem : l[i].take a ∈ l := by
              rw [hT] at htg
              by_cases e : l[i].take a ∈ l
              · exact e
              · rw [if_neg e] at htg; cases htg
            have hbt : b = true := by rw [hT, if_pos hmem] at htg; cases htg; rfl
            subst hbt
            simp (maxSteps := 2000000) (discharger := omega) only [xz,xc,xo,xr,x0,x1,x3,x4,x5,xd,slOk,sliceV,mapOf,keyOk,keyCells,Reg.isA,Reg.isV,Reg.stays,Reg.onto,↓reduceIte,reduceCtorEq,Nat.reduceEqDiff,Nat.reduceLT,Option.getD_some,beq_self_eq_true,exists_eq_left',Int.reduceToNat,int_lt_t,int_le_t,int_beq_t,qb,hm,hf]
            refine no (fun hR => ?_) _ ⟨m, rfl⟩
            refine hR.apart _ (List.getElem_mem hlt) _ hmem (under_iff.2 ⟨by rw [List.length_take]; omega, ?_, ?_⟩)
            · simp [Nat.min_eq_left (Nat.le_of_lt hla),h47']
            · rw [List.length_take, Nat.min_eq_left (Nat.le_of_lt hla)]
        · have h47' : ¬ l[i][a] = 47 := by rwa [u8_47] at h47
          simp (maxSteps := 2000000) (discharger := omega) only [xz,xc,xo,xr,x0,x1,xd,xb,Reg.isA,Reg.isV,Reg.stays,Reg.onto,↓reduceIte,reduceCtorEq,Nat.reduceEqDiff,Nat.reduceLT,wrap_i64,int_lt_t,int_le_t,int_beq_f,qb]
          refine ⟨l[i].length - (a + 1), by omega, a + 1, by rw [show ((a : Nat) : Int) + 1 = ((a + 1 : Nat) : Int) by omega], rfl, by omega, fun q hql hqa hU => ?_⟩
          obtain ⟨w1, w2, w3⟩ := under_iff.1 hU
          by_cases e : q.length = a
          · subst e; exact h47' w2
          · exact hq q hql (by omega) hU
      · obtain rfl : a = l[i].length := by omega
        simp (maxSteps := 2000000) (discharger := omega) only [xz,xc,xo,xr,x0,x1,xd,Reg.isA,Reg.isV,Reg.stays,Reg.onto,↓reduceIte,reduceCtorEq,Nat.reduceEqDiff,Nat.reduceLT,wrap_i64,int_lt_f,Nat.sub_self]
        refine ⟨l.length - (i + 1), by omega, i + 1, by rw [show ((i : Nat) : Int) + 1 = ((i + 1 : Nat) : Int) by omega], rfl, by omega, fun j hj hji q hql hU => ?_⟩
        by_cases e : j = i
        · subst e; exact hq q hql hU.1 hU
        · exact hu j hj (by omega) q hql hU
    · obtain rfl : i = l.length := by omega
      by_cases h64 : l.length ≤ 64
      · have hR : Rising l := by
          refine ⟨h64, hp, fun j k hj hk hjk => hr j k hj hk hjk hk, fun p hpl q hql => ?_⟩
          obtain ⟨j, hj, rfl⟩ := List.getElem_of_mem hpl
          exact hu j hj hj q hql
        simp (maxSteps := 2000000) (discharger := omega) only [xz,xc,xo,xr,x0,x1,x4,xd,Reg.isA,Reg.isV,Reg.stays,Reg.onto,↓reduceIte,reduceCtorEq,Nat.reduceEqDiff,Nat.reduceLT,exists_eq_left',int_lt_f,int_le_t,Nat.sub_self,hlen]
        exact ⟨true, m, by simp [hR]⟩
      · simp (maxSteps := 2000000) (discharger := omega) only [xz,xc,xo,xr,x0,x1,x4,xd,Reg.isA,Reg.isV,Reg.stays,Reg.onto,↓reduceIte,reduceCtorEq,Nat.reduceEqDiff,Nat.reduceLT,exists_eq_left',int_lt_f,int_le_f,Nat.sub_self,hlen]
        exact no (fun hR => h64 hR.few) _ ⟨m, rfl⟩
end
end Go.Proofs.YtpgmohjmpaifbaaDoor.Im

/- S21Ck: tree.Check. -/
set_option linter.unusedVariables false
set_option linter.unusedSimpArgs false
open Go Go.Im Go.Sort
namespace Go.Proofs.YtpgmohjmpaifbaaDoor.Im
section
variable {n : Nat} {tot : Bool} {ω : Nat → Nat} {h : Hp}

theorem c14 (a : AV) (fs : List Fl) (ha : IsRd 2 (fs.map Fl.av) a) (hok : ∀ f ∈ fs, f.ok) (hf : Few fs) (hn : 400 < n) :
    ∃ h', call F n tot ω 14 [a] h = some (.int .i64 (chk fs), h') := by
  obtain ⟨n, rfl⟩ : ∃ m, n = m + 1 := ⟨n - 1, by omega⟩
  suffices hx : ∃ v2 h', call F (n + 1) tot ω 14 [a] h = some (v2, h') ∧ v2 = .int .i64 (chk fs) by
    obtain ⟨v2, h', e1, rfl⟩ := hx
    exact ⟨h', e1⟩
  refine call_of (fn := a14) f14 (P := fun v2 h' => v2 = .int .i64 (chk fs)) ?_
  unfold a14
  have hnum := hf.num
  obtain ⟨v, m, gs, q1, q2, q3, q4⟩ := c44 (n := n) (tot := tot) (ω := ω) (h := h) a fs ha (by omega) (by omega)
  have hfg := hf.perm q3
  have hokg : ∀ f ∈ gs, f.ok := fun f hm => hok f (q3.mem_iff.1 hm)
  have hlg : gs.length = fs.length := q3.length_eq
  have hlen := q2.len
  rw [List.length_map] at hlen
  simp (maxSteps := 2000000) (discharger := omega) only [xz,xc,xo,xr,x0,x4,kont_call,Reg.isA,Reg.isV,Reg.stays,Reg.onto,↓reduceIte,reduceCtorEq,Nat.reduceEqDiff,Nat.reduceLT,q1,hlen]
  refine wpi_loop (fun x r g' => ∃ (i : Nat) (lv : AV), r = [(3, .val lv), (4, .val (.int .i64 (szOf (gs.take i) : Nat))), (8, .val v), (9, .val (.int .i64 gs.length)), (10, .val (.int .i64 i))] ∧ x = gs.length - i ∧ i ≤ gs.length ∧
    RowAt g' 2 h.length (gs.map Fl.av) v ∧ IsApp 1 ((psOf (gs.take i)).map AV.str) g' lv) gs.length (by omega)
    ⟨0, .nils, rfl, rfl, Nat.zero_le _, q2, .nils _ _⟩ ?_
  rintro x r g' ⟨i, lv, rfl, rfl, hi, hr, hA⟩
  by_cases hlt : i < gs.length
  · rcases hr with ⟨rfl, e⟩ | ⟨id, post, rfl, hid, hlo⟩
    · have := congrArg List.length e
      simp at this
      subst this
      simp at hlt
    · have q5 : ((gs.map Fl.av) ++ post)[i]? = some (.agg [.str gs[i].p, gs[i].v]) := by
        rw [List.getElem?_append_left (by simpa using hlt)]; exact fl_get hlt
      have hg := hokg _ (List.getElem_mem hlt)
      have q6 := Fl.len hg
      have q7 := fl_sub hg 1
      have q8 := fl_nt hg
      have q9 := fl_cells hg
      obtain ⟨lv', h2, w1, w2, w3, w4, _⟩ := app_ok (bytes := 16) (xs := [.str gs[i].p]) hA (by simp) (by simp [psOf]; omega)
      have hsz := hfg.take (i + 1)
      rw [szOf_take gs i hlt] at hsz
      simp (maxSteps := 2000000) (discharger := omega) only [xz,xc,xo,xr,x0,x1,x3,x4,x5,xd,xb,selems,srcElems,wr,partEs,placeEs,Reg.isA,Reg.isV,Reg.stays,Reg.onto,↓reduceIte,Nat.reduceEqDiff,Nat.reduceLT,Nat.reduceAdd,Nat.zero_lt_succ,Nat.reduceBEq,xu,List.set_cons_zero,wrap_i64,int_lt_t,int_le_t,nat_le_t,hid,q5,q6,w1,hA.isRow,List.length_map,List.replicate]
      refine ⟨gs.length - (i + 1), by omega, i + 1, lv', ?_, rfl, by omega, ?_, ?_⟩
      · rw [show ((i : Nat) : Int) + 1 = ((i + 1 : Nat) : Int) by omega, szOf_take gs i hlt]; rfl
      · exact .inr ⟨id, post, by rw [List.length_map], w3 id _ hid rfl, hlo⟩
      · unfold psOf at w2 ⊢
        rw [List.take_succ_eq_append_getElem hlt, List.map_append, List.map_append]
        exact w2
  · obtain rfl : i = gs.length := by omega
    rw [List.take_length] at hA
    obtain ⟨b, m2, k45, hb⟩ := c45 (n := n) (tot := tot) (ω := ω) (h := g') (psOf gs) lv (isRd_app hA) (fun p hp => by
      obtain ⟨f, hfm, rfl⟩ := List.mem_map.1 hp
      have := hfg.path f hfm
      omega) (by rw [psOf_len]; omega) (by rw [psOf_len]; omega)
    have hT : b = true ↔ Tog (psOf fs) := by
      rw [hb]
      refine rising_iff (q3.map _) fun j k hj hk hjk => ?_
      have hj' : j < gs.length := by rw [psOf_len] at hj; exact hj
      have hk' : k < gs.length := by rw [psOf_len] at hk; exact hk
      have := q4 j k hj' hk' hjk
      simpa [psOf, flLt] using this
    have hsz := hfg.take gs.length
    rw [List.take_length] at hsz ⊢
    have hss : szOf gs = szOf fs := szOf_perm q3
    cases b with
    | false =>
      have hc : chk fs = 1 := by unfold chk; rw [if_neg (fun h => by have := hT.2 h; cases this)]
      simp (maxSteps := 2000000) (discharger := omega) only [xz,xc,xo,xr,x0,x1,x2,xd,kont_call,Reg.isA,Reg.isV,Reg.stays,Reg.onto,↓reduceIte,Nat.reduceEqDiff,Nat.reduceLT,exists_eq_left',int_lt_f,Nat.sub_self,k45,hc]
    | true =>
      have hTg := hT.1 rfl
      by_cases h16 : ((szOf gs : Nat) : Int) > 16384
      · have hc : chk fs = 6 := by unfold chk; rw [if_pos hTg, if_pos (by omega)]
        simp (maxSteps := 2000000) (discharger := omega) only [xz,xc,xo,xr,x0,x1,x2,xd,kont_call,Reg.isA,Reg.isV,Reg.stays,Reg.onto,↓reduceIte,Nat.reduceEqDiff,Nat.reduceLT,exists_eq_left',int_lt_t,int_lt_f,Nat.sub_self,k45,hc]
      · have hc : chk fs = 0 := by unfold chk; rw [if_pos hTg, if_neg (by omega)]
        simp (maxSteps := 2000000) (discharger := omega) only [xz,xc,xo,xr,x0,x1,x2,xd,kont_call,Reg.isA,Reg.isV,Reg.stays,Reg.onto,↓reduceIte,Nat.reduceEqDiff,Nat.reduceLT,exists_eq_left',int_lt_f,Nat.sub_self,k45,hc]

end
end Go.Proofs.YtpgmohjmpaifbaaDoor.Im

/- S21Bv: tree.Build. -/
set_option linter.unusedVariables false
set_option linter.unusedSimpArgs false
open Go Go.Im
namespace Go.Proofs.YtpgmohjmpaifbaaDoor.Im

def pcsOf (l m M : Int) (gs : List Fl) : List By := gs.flatMap fun f => pcs (cutR l m M f.d) f.d
theorem pcsOf_snoc (l m M : Int) (gs : List Fl) (i : Nat) (hi : i < gs.length) : pcsOf l m M (gs.take (i + 1)) = pcsOf l m M (gs.take i) ++ pcs (cutR l m M gs[i].d) gs[i].d := by
  unfold pcsOf; rw [List.take_succ_eq_append_getElem hi, List.flatMap_append]; simp
theorem pcsOf_len (l m M : Int) : ∀ (gs : List Fl), (pcsOf l m M gs).length ≤ szOf gs
  | [] => by simp [pcsOf,szOf]
  | f :: fs => by
    have := pcsOf_len l m M fs
    have h2 := (cutR_sum l m M f.d).2.2
    have h3 := pcs_len (cutR l m M f.d) f.d
    simp only [pcsOf,List.flatMap_cons,List.length_append,szOf,List.map_cons,List.sum_cons] at this ⊢
    omega

section
variable {n : Nat} {tot : Bool} {ω : Nat → Nat} {h : Hp}

theorem upd1 (p : By) {u : AV} (hu : u.one = true) : upd (.agg [.str p, .nils]) 1 u = some (.agg [.str p, u]) := by
  cases u <;> first | rfl | cases hu

structure BuiltE (l m M : Int) (fs : List Fl) (av pv : AV) : Prop where
  ex : ∃ (gs : List Fl) (ls : List Lf) (pes : List AV), gs.Perm fs ∧ SrtF gs ∧ IsRd 2 (ls.map Lf.av) av ∧ ls.map Lf.pp = gs.map (Fl.pp l m M) ∧ (∀ x ∈ ls, x.ok) ∧ CE (uniq [] (pcsOf l m M gs)) pes ∧ IsRd 33 pes pv

set_option maxHeartbeats 1000000 in
set_option maxRecDepth 100000 in
theorem c18y (c : AV) (l m M : Int) (a : AV) (fs : List Fl) (hc : Cf c l m M) (hok : okConf l m M) (ha : IsRd 2 (fs.map Fl.av) a) (hfo : ∀ f ∈ fs, f.ok) (hf : Few fs) (hn : 2000000 < n) :
    ∃ av pv h', call F n tot ω 18 [c, a] h = some (.tup [av, pv, .int .i64 (chk fs)], h') ∧ (chk fs = 0 → BuiltE l m M fs av pv) ∧ (chk fs ≠ 0 → av = .nils ∧ pv = .nils) := by
  obtain ⟨n, rfl⟩ : ∃ m, n = m + 1 := ⟨n - 1, by omega⟩
  suffices hx : ∃ v h', call F (n + 1) tot ω 18 [c, a] h = some (v, h') ∧ ∃ av pv, v = .tup [av, pv, .int .i64 (chk fs)] ∧ (chk fs = 0 → BuiltE l m M fs av pv) ∧ (chk fs ≠ 0 → av = .nils ∧ pv = .nils) by
    obtain ⟨v, h', e1, av, pv, rfl, e2⟩ := hx
    exact ⟨av, pv, h', e1, e2⟩
  refine call_of (fn := a18) f18 (P := fun v h' => ∃ av pv, v = .tup [av, pv, .int .i64 (chk fs)] ∧ (chk fs = 0 → BuiltE l m M fs av pv) ∧ (chk fs ≠ 0 → av = .nils ∧ pv = .nils)) ?_
  have k47 := fun h => c47y (n := n) (tot := tot) (ω := ω) (h := h) c l m M hc hok (by omega)
  obtain ⟨h1, k14⟩ := c14 (n := n) (tot := tot) (ω := ω) (h := h) a fs ha hfo hf (by omega)
  obtain ⟨cs, hcs, hl, h8, h9, h10⟩ := hc.agg
  subst hcs
  have t12 : List.take 12 cs = cs := List.take_of_length_le (by omega)
  have hnum := hf.num
  obtain ⟨ck, hck⟩ : ∃ ck, chk fs = ck := ⟨_, rfl⟩
  rw [hck] at k14 ⊢
  by_cases h0 : ck = 0
  · subst h0
    obtain ⟨v, m1, gs, k44, hR, hP, hS⟩ := c44 (n := n) (tot := tot) (ω := ω) (h := h1 ++ [AO.map [] 0]) a fs ha (by omega) (by omega)
    have hgl : gs.length = fs.length := hP.length_eq
    have hfg := hf.perm hP
    have hlen := hR.len
    rw [List.length_map] at hlen
    unfold a18
    simp (maxSteps := 2000000) (discharger := omega) only [xz,xc,xo,xr,x0,x1,x4,x5,xd,kont_call,Reg.isA,Reg.isV,Reg.stays,Reg.onto,↓reduceIte,reduceCtorEq,Nat.reduceEqDiff,Nat.reduceLT,Nat.reduceAdd,true_implies,beq_self_eq_true,int_bne_f,nat_le_t,hl,t12,k47,k14,k44,hlen]
    refine wpi_loop (fun x r g => ∃ (i : Nat) (lv pv : AV) (ls : List Lf) (pes : List AV) (T : List (Ky × Bool × Nat)) (cl : Nat) (t1 t2 : Option Nat),
      r = [(2, .var (.agg cs)), (8, .val lv), (9, .val pv), (10, .val (.mp h1.length)), (25, .val v), (26, .val (.int .i64 gs.length)), (27, .val (.int .i64 i))] ∧ x = gs.length - i ∧ i ≤ gs.length ∧
      RowAt g 2 (h1.length + 1) (gs.map Fl.av) v ∧ TokAt 2 (ls.map Lf.av) g lv t1 ∧ CE (uniq [] (pcsOf l m M (gs.take i))) pes ∧ TokAt 33 pes g pv t2 ∧
      g[h1.length]? = some (.map (encE kA AV.bool T) cl) ∧ (∀ q, tget T q = if q ∈ (uniq [] (pcsOf l m M (gs.take i))).map keyOf then some true else none) ∧
      ls.map Lf.pp = (gs.take i).map (Fl.pp l m M) ∧ (∀ x ∈ ls, x.ok) ∧ (∀ x, t1 = some x → x < g.length ∧ x ≠ h1.length ∧ (∀ k, v ≠ .row x 2 0 k false) ∧ t2 ≠ some x) ∧ (∀ x, t2 = some x → x < g.length ∧ x ≠ h1.length ∧ ∀ k, v ≠ .row x 2 0 k false)) gs.length (by omega)
      ⟨0, .nils, .nils, [], [], [], 0, none, none, rfl, rfl, Nat.zero_le _, by simpa using hR, tok_nils _ _ _, trivial, tok_nils _ _ _, by rw [List.append_assoc, hg0]; rfl, fun q => by simp [tget,uniq,pcsOf], rfl, by simp, by simp, by simp⟩ ?_
    rintro x r g ⟨i, lv, pv, ls, pes, T, cl, t1, t2, rfl, rfl, hi, hRg, hA1, hCE, hA2, hm, htg, hpp, hlo, b1, b2⟩
    have hll : ls.length = i := by
      have := congrArg List.length hpp
      simpa [Nat.min_eq_left hi] using this
    by_cases hlt : i < gs.length
    · rcases hRg with ⟨rfl, e⟩ | ⟨id, post, rfl, hid, hlo2⟩
      · have := congrArg List.length e
        simp at this
        subst this
        simp at hlt
      · have q5 : ((gs.map Fl.av) ++ post)[i]? = some (.agg [.str gs[i].p, gs[i].v]) := by
          rw [List.getElem?_append_left (by simpa using hlt)]; exact fl_get hlt
        have hgm : gs[i] ∈ fs := hP.mem_iff.1 (List.getElem_mem hlt)
        have hg := hfo _ hgm
        have hgd := hf.data _ hgm
        have q7 := fl_sub hg 1
        have hsz := hfg.take i
        have hpl := pcsOf_len l m M (gs.take i)
        have hul := uniq_len (pcsOf l m M (gs.take i)) []
        rw [List.length_nil] at hul
        have hsn := pcsOf_snoc l m M gs i hlt
        have htk : gs.take (i + 1) = gs.take i ++ [gs[i]] := List.take_succ_eq_append_getElem hlt
        obtain ⟨av, pv', g2, k48, hE⟩ := c48 (n := n) (tot := tot) (ω := ω) (h := g) cs l m M gs[i].d gs[i].v pv h1.length t2 (uniq [] (pcsOf l m M (gs.take i))) pes T cl hl h8 h9 h10 hok hg (by omega) (by omega) hCE hA2 hm htg (fun x hx => ⟨(b2 x hx).2.1, (b2 x hx).1⟩) (by omega)
        obtain ⟨pes', T', cl', t2', e1, e2, e3, e4, e5⟩ := hE.ex
        have hkp : ∀ j, j < g.length → j ≠ h1.length → t2 ≠ some j → g2[j]? = g[j]? := hE.fr
        have hA1' : TokAt 2 (ls.map Lf.av) g2 lv t1 := hA1.keep fun j o hj ho => by
          obtain ⟨y1, y2, _, y3⟩ := b1 j hj
          rw [hkp j y1 y2 y3]; exact ho
        have hidl := (List.getElem?_eq_some_iff.1 hid).1
        have hid2 : g2[id]? = some (.row 2 ((gs.map Fl.av) ++ post)) := by
          rw [hkp id hidl (by omega) (fun e => (b2 id e).2.2 _ rfl)]
          exact hid
        have s1 := rd_sub hE.parts 1
        have s2 := rd_nt hE.parts
        have s3 := rd_cells hE.parts
        obtain ⟨lv', g3, w1, w2, w3, w4, cw, w5⟩ := tok_app (bytes := 40) (xs := [.agg [.str gs[i].p, av]]) hA1' (by simp) (by simp; omega)
        have s4 := upd1 gs[i].p (rd_one hE.parts)
        simp (maxSteps := 2000000) (discharger := omega) only [xz,xc,xo,xr,x0,x1,x3,x5,xd,xb,kont_call,selems,srcElems,wr,place,partVals,partEs,placeEs,Reg.isA,Reg.isV,Reg.stays,Reg.onto,↓reduceIte,Nat.reduceEqDiff,Nat.reduceLT,Nat.reduceAdd,Nat.zero_lt_succ,Nat.reduceBEq,xu,List.set_cons_zero,wrap_i64,int_lt_t,int_le_t,nat_le_t,hid,q5,s4,hl,t12,k48,s2,s3,List.replicate,List.length_map,w1,hA1.1.isRow]
        have hlen2 := hE.low
        have hm2l := (List.getElem?_eq_some_iff.1 e3).1
        have hmne : t1 ≠ some h1.length := fun e => (b1 _ e).2.1 rfl
        refine ⟨gs.length - (i + 1), by omega, i + 1, lv', pv', ls ++ [⟨gs[i].p, partsR l m M gs[i].d, av⟩], pes', T', cl', some g2.length, t2', by rw [show ((i : Nat) : Int) + 1 = ((i + 1 : Nat) : Int) by omega], rfl, by omega, ?_, ?_, ?_, ?_, ?_, ?_, ?_, ?_, ?_, ?_⟩
        · exact .inr ⟨id, post, by rw [List.length_map], w4 id _ hid2 (fun e => (b1 id e).2.2.1 _ rfl), hlo2⟩
        · rw [List.map_append]; exact w2
        · rw [hsn, uniq_app]; exact e1
        · exact e2.keep fun j o hj ho => w4 j o ho (fun e => by
            rcases (e5 j hj).1 with ⟨y1, y2⟩ | y1
            · exact (b1 j e).2.2.2 (y1 ▸ hj)
            · have := (b1 j e).1; omega)
        · exact w4 _ _ e3 hmne
        · intro q; rw [hsn, uniq_app]; exact e4 q
        · rw [htk, List.map_append, List.map_append, hpp]; rfl
        · intro x hx
          rcases List.mem_append.1 hx with hx | hx
          · exact hlo x hx
          · rw [List.mem_singleton] at hx
            subst hx
            exact ⟨hE.parts, partsL_ok _ _ _⟩
        · intro x hx
          cases hx
          exact ⟨w3, by omega, fun k e => by cases e; omega, fun e => by have := (e5 _ e).2; omega⟩
        · intro x hx
          obtain ⟨y1, y2⟩ := e5 x hx
          refine ⟨by omega, ?_, fun k e => ?_⟩
          · rcases y1 with ⟨_, y⟩ | y
            · exact y
            · omega
          · cases e
            rcases y1 with ⟨y, _⟩ | y
            · exact (b2 _ (y ▸ hx)).2.2 _ rfl
            · omega
    · obtain rfl : i = gs.length := by omega
      rw [List.take_length] at hpp hCE
      simp (maxSteps := 2000000) (discharger := omega) only [xz,xc,xo,xr,x0,x1,xd,Reg.isA,Reg.isV,Reg.stays,Reg.onto,↓reduceIte,Nat.reduceEqDiff,Nat.reduceLT,exists_eq_left',int_lt_f,Nat.sub_self]
      exact ⟨_, _, rfl, ⟨⟨gs, ls, pes, hP, hS, isRd_app hA1.1, hpp, hlo, hCE, isRd_app hA2.1⟩⟩, fun e => absurd rfl e⟩
  · unfold a18
    simp (maxSteps := 2000000) (discharger := omega) only [xz,xc,xo,xr,x0,x1,xd,kont_call,Reg.isA,Reg.isV,Reg.stays,Reg.onto,↓reduceIte,reduceCtorEq,Nat.reduceEqDiff,Nat.reduceLT,Nat.reduceAdd,beq_self_eq_true,exists_eq_left',int_bne_t,nat_le_t,hl,t12,k47,k14,h0]
    exact ⟨_, _, rfl, fun e => e.elim, fun _ => ⟨rfl, rfl⟩⟩
end
end Go.Proofs.YtpgmohjmpaifbaaDoor.Im

/- S21Lb: the law TreeBuilds. -/
set_option linter.unusedVariables false
set_option linter.unusedSimpArgs false
open Go Go.Im
namespace Go.Proofs.YtpgmohjmpaifbaaDoor.Im
def Z33 : List AV := List.replicate 32 (.int .u8 0) ++ [.int .i64 0]
section
variable {n : Nat} {tot : Bool} {ω : Nat → Nat} {h : Hp}

theorem pp_len {l m M : Int} {gs : List Fl} {ls : List Lf} (hpp : ls.map Lf.pp = gs.map (Fl.pp l m M)) : ls.length = gs.length := by
  have := congrArg List.length hpp
  simpa using this
theorem pp_at {l m M : Int} {gs : List Fl} {ls : List Lf} (hpp : ls.map Lf.pp = gs.map (Fl.pp l m M)) (i : Nat) (hi : i < ls.length) (hi2 : i < gs.length) : ls[i].p = gs[i].p ∧ ls[i].ps = (pcs (cutR l m M gs[i].d) gs[i].d).map ptB := by
  have e := congrArg (·[i]?) hpp
  simp only [List.getElem?_map,List.getElem?_eq_getElem hi,List.getElem?_eq_getElem hi2,Option.map_some,Option.some.injEq,Lf.pp,Fl.pp,Prod.mk.injEq] at e
  rw [← partsR_pcs]
  exact e

end

end Go.Proofs.YtpgmohjmpaifbaaDoor.Im

/- S21Lk: the law TreeBack. -/
set_option linter.unusedVariables false
set_option linter.unusedSimpArgs false
open Go Go.Im
namespace Go.Proofs.YtpgmohjmpaifbaaDoor.Im

theorem pd_inj {fs : List Fl} (ht : Tog (psOf fs)) {x y : By × By} (hx : x ∈ fs.map Fl.pd) (hy : y ∈ fs.map Fl.pd) (e : x.1 = y.1) : x = y := by
  obtain ⟨f, hf, rfl⟩ := List.mem_map.1 hx
  obtain ⟨g, hg, rfl⟩ := List.mem_map.1 hy
  obtain ⟨i, hi, rfl⟩ := List.getElem_of_mem hf
  obtain ⟨j, hj, rfl⟩ := List.getElem_of_mem hg
  by_cases h : i = j
  · subst h; rfl
  · have := (ht.pair i j (by rw [psOf_len]; exact hi) (by rw [psOf_len]; exact hj) h).1
    exact absurd (by simpa [psOf, Fl.pd] using e) (by simpa [psOf] using this)
theorem few_pd {fs fs' : List Fl} (hf : Few fs) (hp : (fs'.map Fl.pd).Perm (fs.map Fl.pd)) : Few fs' := by
  have hl : fs'.length = fs.length := by have := hp.length_eq; simpa using this
  have hm : ∀ f ∈ fs', ∃ g ∈ fs, g.pd = f.pd := fun f hm => by
    obtain ⟨g, h1, h2⟩ := List.mem_map.1 (hp.mem_iff.1 (List.mem_map_of_mem (f := Fl.pd) hm))
    exact ⟨g, h1, h2⟩
  refine ⟨by rw [hl]; exact hf.num, fun f h => ?_, fun f h => ?_⟩
  · obtain ⟨g, h1, h2⟩ := hm f h
    have := hf.data g h1
    have e : g.d = f.d := congrArg Prod.snd h2
    rw [← e]; exact this
  · obtain ⟨g, h1, h2⟩ := hm f h
    have := hf.path g h1
    have e : g.p = f.p := congrArg Prod.fst h2
    rw [← e]; exact this

theorem chk_sz {fs : List Fl} (h : chk fs = 0) : szOf fs ≤ 16384 := by
  classical
  unfold chk at h
  split at h
  · split at h
    · cases h
    · omega
  · cases h
theorem sz_pd {fs fs' : List Fl} (h0 : (fs'.map Fl.pd).Perm (fs.map Fl.pd)) : szOf fs' = szOf fs := by
  have e : ∀ l : List Fl, szOf l = ((l.map Fl.pd).map fun x => x.2.length).sum := fun l => by simp [szOf,Fl.pd,Function.comp_def]
  rw [e, e]
  exact (h0.map _).sum_nat

section
variable {n : Nat} {tot : Bool} {ω : Nat → Nat} {h : Hp}

theorem built_ps {l m M : Int} {gs : List Fl} {ls : List Lf} (hf : Few gs) (b4 : ls.map Lf.pp = gs.map (Fl.pp l m M)) (b5 : ∀ x ∈ ls, x.ok) : ∀ x ∈ ls, x.ok ∧ x.ps.length ≤ 1000000 := fun x hx => by
  obtain ⟨i, hi, rfl⟩ := List.getElem_of_mem hx
  have hle := pp_len b4
  obtain ⟨e1, e2⟩ := pp_at b4 i hi (by omega)
  have := hf.data gs[i] (List.getElem_mem (by omega))
  have r3 := (cutR_sum l m M gs[i].d).2.2
  exact ⟨b5 _ hx, by rw [e2, List.length_map, pcs_len]; omega⟩

theorem w_u6c (l m M : Int) (cs : List AV) (fs gs : List Fl) (ls : List Lf) (pes : List AV) (a lv pv : AV) (hc : Cf (.agg cs) l m M) (hok : okConf l m M) (ha : IsRd 2 (fs.map Fl.av) a) (hfo : ∀ f ∈ fs, f.ok) (hf : Few fs) (hck : chk fs = 0)
    (hp : (gs.map Fl.pd).Perm (fs.map Fl.pd)) (b3 : IsRd 2 (ls.map Lf.av) lv) (b4 : ls.map Lf.pp = gs.map (Fl.pp l m M)) (b5 : ∀ x ∈ ls, x.ok) (b6 : CE (uniq [] (pcsOf l m M gs)) pes) (b7 : IsRd 33 pes pv) (hn : 50000000 < n) :
    Wp (kont F n tot ω) n u6c [(1, .val a), (2, .var (.agg cs)), (5, .val lv), (6, .val pv), (83, .val (.bool false))] h (Ret [ARes.t 4] fun v h' => v = .bool true) := by
  have hc' := hc
  have ht := chk_zero hck
  obtain ⟨cs', hcs, hl, h8, h9, h10⟩ := hc.agg
  cases hcs
  have t12 : List.take 12 cs = cs := List.take_of_length_le (by omega)
  have la := ha.len
  rw [List.length_map] at la
  have hnum := hf.num
  have hfg := few_pd hf hp
  have hps := built_ps hfg b4 b5
  have hle := pp_len b4
  have hgl := hfg.num
  obtain ⟨b, h1, k26, hb⟩ := c26 (n := n) (tot := tot) (ω := ω) (h := h) (.agg cs) l m M fs a hc' hok ha hfo hf (by omega)
  unfold u6c
  cases b with
  | true => simp (maxSteps := 2000000) (discharger := omega) only [xz,xc,xo,xr,x0,xd,kont_call,Reg.isA,Reg.isV,Reg.stays,Reg.onto,↓reduceIte,Nat.reduceEqDiff,Nat.reduceLT,exists_eq_left',nat_le_t,hl,t12,k26]
  | false =>
    have hN := hb rfl
    have hsz := chk_sz hck
    rw [← sz_pd hp] at hsz
    have hpl := pcsOf_len l m M gs
    have hul := uniq_len (pcsOf l m M gs) []
    rw [List.length_nil] at hul
    have hall : ∀ q, q ∈ pcsOf l m M gs → q ∈ allP l m M fs := fun q hq => by
      unfold pcsOf at hq
      obtain ⟨g, hg, hq⟩ := List.mem_flatMap.1 hq
      obtain ⟨f, hf1, hf2⟩ := List.mem_map.1 (hp.mem_iff.1 (List.mem_map_of_mem (f := Fl.pd) hg))
      have e : f.d = g.d := congrArg Prod.snd hf2
      unfold allP
      exact List.mem_flatMap.2 ⟨f, hf1, by rw [e]; exact hq⟩
    simp (maxSteps := 2000000) (discharger := omega) only [xz,xc,xo,xr,x0,xd,kont_call,Reg.isA,Reg.isV,Reg.stays,Reg.onto,↓reduceIte,Nat.reduceEqDiff,Nat.reduceLT,nat_le_t,hl,t12,k26]
    refine wpi_loop (fun x r g => ∃ (i : Nat), r = [(1, .val a), (5, .val lv), (6, .val pv), (13, .val (.int .i64 i))] ∧ x = fs.length - i ∧ i ≤ fs.length) fs.length (by omega)
      ⟨0, rfl, rfl, Nat.zero_le _⟩ ?_
    rintro x r g ⟨i, rfl, rfl, hi⟩
    by_cases hlt : i < fs.length
    · obtain ⟨ca, rfl⟩ := ha.imm (i := i) (by simpa using hlt)
      have q1 := fl_get hlt
      have ho := hfo _ (List.getElem_mem hlt)
      have hd := hf.data _ (List.getElem_mem hlt)
      have s1 := fl_sub ho 1
      have hmem : fs[i].pd ∈ gs.map Fl.pd := hp.mem_iff.2 (List.mem_map_of_mem (List.getElem_mem hlt))
      obtain ⟨g0, hg0, hge⟩ := List.mem_map.1 hmem
      obtain ⟨j, hj, rfl⟩ := List.getElem_of_mem hg0
      obtain ⟨e1, e2⟩ := pp_at b4 j (by omega) hj
      have ep : gs[j].p = fs[i].p := congrArg Prod.fst hge
      obtain ⟨p', v', b, h2, k28, hr⟩ := c28 (n := n) (tot := tot) (ω := ω) (h := g) ls lv fs[i].p b3 b5 (fun x hx => (hps x hx).2) (by omega) (by omega)
      rcases hr with ⟨x, f1, f2, rfl, rfl, f3⟩ | ⟨f1, _⟩
      · obtain ⟨j2, hj2, rfl⟩ := List.getElem_of_mem f2
        have hj3 : j2 < gs.length := by omega
        obtain ⟨e3, e4⟩ := pp_at b4 j2 hj2 hj3
        have hxp : ls[j2].p = fs[i].p := by
          have := List.find?_some f1
          simpa using this
        have hpd : gs[j2].pd = fs[i].pd := pd_inj ht (hp.mem_iff.1 (List.mem_map_of_mem (List.getElem_mem hj3))) (List.mem_map_of_mem (List.getElem_mem hlt)) (by show gs[j2].p = fs[i].p; rw [← e3, hxp])
        have hdd : gs[j2].d = fs[i].d := congrArg Prod.snd hpd
        rw [hdd] at e4
        rw [e4, List.map_map] at f3
        obtain ⟨r1, r2, r3⟩ := cutR_sum l m M fs[i].d
        have hin : ∀ p ∈ pcs (cutR l m M fs[i].d) fs[i].d, p ∈ pcsOf l m M gs := fun p hp' => by
          unfold pcsOf
          exact List.mem_flatMap.2 ⟨gs[j2], List.getElem_mem hj3, by rw [hdd]; exact hp'⟩
        have k27 := c27 (n := n) (tot := tot) (ω := ω) (h := h2) (cutR l m M fs[i].d) fs[i].d (uniq [] (pcsOf l m M gs)) pes v' pv fs[i].v f3 b6 b7 ho r1 r2 (by omega) (by omega) (by omega)
          (fun p hp' => (uniq_key _ _ _).2 (.inr (List.mem_map_of_mem (hin p hp')))) (fun p hp' q hq e => by
            have hq' := uniq_mem q _ _ hq
            simp at hq'
            exact hN q (hall q hq') p (hall p (hin p hp')) e) (by omega)
        have n1 := rd_nt f3
        have s2 := rd_sub f3 1
        simp (maxSteps := 2000000) (discharger := omega) only [xz,xc,xo,xr,x0,x1,x2,x3,x4,x5,xd,kont_call,wr,Reg.isA,Reg.isV,Reg.stays,Reg.onto,↓reduceIte,Nat.reduceEqDiff,Nat.reduceLT,Nat.reduceAdd,beq_self_eq_true,Nat.reduceBEq,xu,wrap_i64,int_lt_t,int_le_t,nat_le_t,la,q1,s1,k28,k27]
        exact ⟨fs.length - (i + 1), by omega, i + 1, by rw [show ((i : Nat) : Int) + 1 = ((i + 1 : Nat) : Int) by omega], rfl, by omega⟩
      · exfalso
        have := List.find?_eq_none.1 f1 ls[j] (List.getElem_mem (by omega))
        rw [e1, ep] at this
        simp at this
    · obtain rfl : i = fs.length := by omega
      simp (maxSteps := 2000000) (discharger := omega) only [xz,xc,xo,xr,x0,x1,x4,xd,Reg.isA,Reg.isV,Reg.stays,Reg.onto,↓reduceIte,Nat.reduceEqDiff,Nat.reduceLT,exists_eq_left',int_lt_f,Nat.sub_self,la]

theorem w_u6b (l m M : Int) (cs : List AV) (fs gs ts : List Fl) (ls : List Lf) (pes : List AV) (a lv pv tv : AV) (x9 : AV) (hc : Cf (.agg cs) l m M) (hok : okConf l m M) (ha : IsRd 2 (fs.map Fl.av) a) (hfo : ∀ f ∈ fs, f.ok) (hf : Few fs) (hck : chk fs = 0)
    (htp : ts.Perm fs) (htv : IsRd 2 (ts.map Fl.av) tv) (hp : (gs.map Fl.pd).Perm (fs.map Fl.pd)) (hsr : SrtF gs) (b3 : IsRd 2 (ls.map Lf.av) lv) (b4 : ls.map Lf.pp = gs.map (Fl.pp l m M)) (b5 : ∀ x ∈ ls, x.ok) (b6 : CE (uniq [] (pcsOf l m M gs)) pes) (b7 : IsRd 33 pes pv) (hn : 50000000 < n) (ex : Regs) (hex : ex = [(9, .val x9)] ∨ ex = [(9, .val x9), (52, .val (.bool false))]) :
    Wp (kont F n tot ω) n u6b ([(1, .val a), (2, .var (.agg cs)), (5, .val lv), (6, .val pv), (8, .val tv)] ++ ex) h (Ret [ARes.t 4] fun v h' => v = .bool true) := by
  have hc' := hc
  obtain ⟨cs', hcs, hl, h8, h9, h10⟩ := hc.agg
  cases hcs
  have t12 : List.take 12 cs = cs := List.take_of_length_le (by omega)
  have ht := chk_zero hck
  have hto : ∀ f ∈ ts, f.ok := fun f hm => hfo f (htp.mem_iff.1 hm)
  have hft := hf.perm htp
  obtain ⟨v2, p2, h2, k18, y1, _⟩ := c18y (n := n) (tot := tot) (ω := ω) (h := h) (.agg cs) l m M tv ts hc' hok htv hto hft (by omega)
  have hct : chk ts = 0 := by rw [chk_perm (htp.map Fl.pd), hck]
  rw [hct] at k18
  obtain ⟨g2, l2, pes2, d1, d2, d3, d4, d5, d6, d7⟩ := (y1 hct).ex
  have hfg := few_pd hf hp
  have hps := built_ps hfg b4 b5
  have hps2 := built_ps (hft.perm d1) d4 d5
  have hle := pp_len b4
  have hgl := hfg.num
  have la := ha.len
  have ll := b3.len
  rw [List.length_map] at la ll
  have hgf : gs.length = fs.length := by have := hp.length_eq; simpa using this
  have hsame : ls.map Lf.pp = l2.map Lf.pp := by
    have e := srt_eq (fs := ts) (fs' := gs) (hp.trans (htp.map Fl.pd).symm) d1 (.refl _) d2 hsr (tog_perm (htp.map _) ht)
    have e3 : ∀ x : List Fl, x.map (Fl.pp l m M) = (x.map Fl.pd).map fun y => (y.1, partsR l m M y.2) := fun x => by simp [Fl.pp,Fl.pd,Function.comp_def]
    rw [b4, d4, e3, e3, e]
  have k20 := c20 (n := n) (tot := tot) (ω := ω) (h := h2) ls l2 lv v2 b3 d3 hps hps2 hsame (by omega) (by omega)
  rw [hle, hgf] at ll
  have wc := w_u6c (n := n) (tot := tot) (ω := ω) (h := h2) l m M cs fs gs ls pes a lv pv hc' hok ha hfo hf hck hp b3 b4 b5 b6 b7 hn
  unfold u6b
  rcases hex with rfl | rfl
  all_goals
    simp (maxSteps := 2000000) (discharger := omega) only [xz,xc,xo,xr,x0,x1,x2,x3,x4,xd,kont_call,Reg.isA,Reg.isV,Reg.stays,Reg.onto,↓reduceIte,Nat.reduceEqDiff,Nat.reduceLT,beq_self_eq_true,nat_le_t,hl,t12,k18,k20,la,ll,bne_self_eq_false]
    exact wc

theorem w_u6a (l m M : Int) (cs : List AV) (fs gs : List Fl) (ls : List Lf) (pes : List AV) (a lv pv : AV) (hc : Cf (.agg cs) l m M) (hok : okConf l m M) (ha : IsRd 2 (fs.map Fl.av) a) (hfo : ∀ f ∈ fs, f.ok) (hf : Few fs) (hck : chk fs = 0)
    (hp : (gs.map Fl.pd).Perm (fs.map Fl.pd)) (hsr : SrtF gs) (b3 : IsRd 2 (ls.map Lf.av) lv) (b4 : ls.map Lf.pp = gs.map (Fl.pp l m M)) (b5 : ∀ x ∈ ls, x.ok) (b6 : CE (uniq [] (pcsOf l m M gs)) pes) (b7 : IsRd 33 pes pv) (hn : 50000000 < n) :
    Wp (kont F n tot ω) n u6a [(1, .val a), (2, .var (.agg cs)), (5, .val lv), (6, .val pv), (7, .val (.int .i64 0)), (35, .val (.bool false))] h (Ret [ARes.t 4] fun v h' => v = .bool true) := by
  have la := ha.len
  rw [List.length_map] at la
  have hnum := hf.num
  unfold u6a
  simp (maxSteps := 2000000) (discharger := omega) only [xz,xc,xo,xr,x0,x1,x4,xd,Reg.isA,Reg.isV,Reg.stays,Reg.onto,↓reduceIte,Nat.reduceEqDiff,Nat.reduceLT,wrap_i64,la]
  refine wpi_loop (fun x r g => ∃ (i : Nat) (tv : AV), r = [(1, .val a), (2, .var (.agg cs)), (5, .val lv), (6, .val pv), (8, .val tv), (9, .val (.int .i64 ((i : Nat) - 1 : Int)))] ∧ x = i ∧ i ≤ fs.length ∧ IsApp 2 (((fs.drop i).reverse).map Fl.av) g tv) fs.length (by omega)
    ⟨fs.length, .nils, rfl, rfl, Nat.le_refl _, by simp; exact .nils _ _⟩ ?_
  rintro x r g ⟨z, tv, rfl, rfl, hi, hA⟩

  cases x with
  | zero =>
    have e : (((0 : Nat) : Int) - 1) = -1 := rfl
    rw [List.drop_zero] at hA
    have wb := w_u6b (n := n) (tot := tot) (ω := ω) (h := g) l m M cs fs gs fs.reverse ls pes a lv pv tv (.int .i64 (-1)) hc hok ha hfo hf hck (List.reverse_perm _) (isRd_app hA) hp hsr b3 b4 b5 b6 b7 hn _ (.inr rfl)
    rw [e]
    simp (maxSteps := 2000000) (discharger := omega) only [xz,xc,xo,xr,x0,x1,xd,Reg.isA,Reg.isV,Reg.stays,Reg.onto,↓reduceIte,Nat.reduceEqDiff,Nat.reduceLT,Int.reduceNeg,int_le_f]
    exact wb
  | succ i =>
    have e : (((i + 1 : Nat) : Int) - 1) = ((i : Nat) : Int) := by omega
    obtain ⟨ca, rfl⟩ := ha.imm (i := i) (by rw [List.length_map]; omega)
    have hlt : i < fs.length := by omega
    have q1 := fl_get hlt
    have hdr : fs.drop i = fs[i] :: fs.drop (i + 1) := List.drop_eq_getElem_cons hlt
    obtain ⟨tv', h2, w1, w2, w3, w4, _⟩ := app_ok (bytes := 40) (xs := [.agg [.str fs[i].p, fs[i].v]]) hA (by simp) (by simp; omega)
    rw [e]
    simp (maxSteps := 2000000) (discharger := omega) only [xz,xc,xo,xr,x0,x1,x3,x5,xd,xb,selems,srcElems,partEs,placeEs,Reg.isA,Reg.isV,Reg.stays,Reg.onto,↓reduceIte,Nat.reduceEqDiff,Nat.reduceLT,Nat.reduceAdd,Nat.zero_lt_succ,List.set_cons_zero,wrap_i64,int_le_t,nat_le_t,q1,List.replicate,w1,hA.isRow]
    exact ⟨i, by omega, i, tv', rfl, rfl, by omega, by rw [hdr, List.reverse_cons, List.map_append]; exact w2⟩

theorem law_back (y0 y1 y2 y3 y4 y5 y6 y7 y11 : AV) (l m M : Int) (hy : y0.notTup = true) (a : AV) (fs : List Fl) (ω : Nat → Nat) (ha : IsRd 2 (fs.map Fl.av) a) (hfo : ∀ f ∈ fs, f.ok) :
    ∃ h', call F 50000002 true ω 6 [.agg [y0, y1, y2, y3, y4, y5, y6, y7, .int .i64 l, .int .i64 m, .int .i64 M, y11], a] [] = some (.bool true, h') := by
  suffices hx : ∃ v2 h', call F 50000002 true ω 6 [.agg [y0, y1, y2, y3, y4, y5, y6, y7, .int .i64 l, .int .i64 m, .int .i64 M, y11], a] [] = some (v2, h') ∧ v2 = .bool true by
    obtain ⟨v2, h', e1, rfl⟩ := hx
    exact ⟨h', e1⟩
  refine call_of (fn := a6) f6 (P := fun v2 h' => v2 = .bool true) ?_
  obtain ⟨n, hN⟩ : ∃ n, n = 50000001 := ⟨_, rfl⟩
  rw [← hN]
  have k10 := fun h => c10 (n := n) (tot := true) (ω := ω) (h := h) (by omega)
  obtain ⟨b1, k11, hb1⟩ := c11 (n := n) (tot := true) (ω := ω) (h := []) a fs ha hfo (by omega)
  unfold a6
  cases b1 with
  | false => simp (maxSteps := 2000000) (discharger := omega) only [xz,xc,xo,xr,x0,x2,xd,kont_call,Reg.isA,Reg.isV,Reg.stays,Reg.onto,↓reduceIte,reduceCtorEq,Nat.reduceEqDiff,Nat.reduceLT,Nat.reduceAdd,beq_self_eq_true,exists_eq_left',k10,k11]
  | true =>
    have hf := hb1 rfl
    obtain ⟨y, l', m', M', k16, hok⟩ := c16e (n := n) (tot := true) (ω := ω) (h := []) y0 y1 y2 y3 y4 y5 y6 y7 y11 l m M hy (by omega)
    obtain ⟨ov, h1, fs', k17, ro, oo, hfp⟩ := c17 (n := n) (tot := true) (ω := ω) (h := []) a fs ha hfo hf (by omega)
    obtain ⟨lv, pv, h2, k18, d1, d2⟩ := c18y (n := n) (tot := true) (ω := ω) (h := h1) (.agg [y0, y1, y2, y3, y4, y5, y6, y7, .int .i64 l', .int .i64 m', .int .i64 M', y]) l' m' M' ov fs' (cf_of y0 y1 y2 y3 y4 y5 y6 y7 y l' m' M') hok ro oo (few_pd hf (by rw [hfp])) (by omega)
    have hce : chk fs' = chk fs := chk_perm (by rw [hfp])
    obtain ⟨h3, k14⟩ := c14 (n := n) (tot := true) (ω := ω) (h := h2) a fs ha hfo hf (by omega)
    rw [hce] at k18 d1 d2
    obtain ⟨ck, hck⟩ : ∃ ck, chk fs = ck := ⟨_, rfl⟩
    rw [hck] at k18 k14 d1 d2
    by_cases h0 : ck = 0
    · subst h0
      obtain ⟨gs, ls, pes, b1, b2, b3, b4, b5, b6, b7⟩ := (d1 rfl).ex
      have wa := w_u6a (n := n) (tot := true) (ω := ω) (h := h2) l' m' M' _ fs gs ls pes a lv pv (cf_of y0 y1 y2 y3 y4 y5 y6 y7 y l' m' M') hok ha hfo hf hck (by rw [← hfp]; exact b1.map _) b2 b3 b4 b5 b6 b7 (by omega)
      simp (maxSteps := 2000000) (discharger := omega) only [xz,xc,xo,xr,x0,x1,x2,x3,x5,xd,kont_call,wr,Reg.isA,Reg.isV,Reg.stays,Reg.onto,↓reduceIte,reduceCtorEq,Nat.reduceEqDiff,Nat.reduceLT,Nat.reduceAdd,beq_self_eq_true,xu,int_bne_f,nat_le_t,k10,k11,k16,k17,k18]
      exact wa
    · obtain ⟨rfl, rfl⟩ := d2 h0
      simp (maxSteps := 2000000) (discharger := omega) only [xz,xc,xo,xr,x0,x1,x2,x3,x4,x5,xd,kont_call,wr,Reg.isA,Reg.isV,Reg.stays,Reg.onto,↓reduceIte,reduceCtorEq,Nat.reduceEqDiff,Nat.reduceLT,Nat.reduceAdd,Int.cast_ofNat_Int,beq_self_eq_true,exists_eq_left',Int.reduceAdd,xu,wrap_i64,int_bne_t,nat_le_t,k10,k11,k16,k17,k18,k14]
end
end Go.Proofs.YtpgmohjmpaifbaaDoor.Im

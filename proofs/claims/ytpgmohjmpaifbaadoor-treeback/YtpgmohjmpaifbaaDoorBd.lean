/- Joined: S21Sh, S21Di, S21Pd, S21Fm, S21Bd. -/
import Derived.Test.YtpgmohjmpaifbaaDoorEq
import Derived.Sort.LotA
/- S21Sh: sha.Sum answers the reference's digest. -/
set_option linter.unusedVariables false
set_option linter.unusedSimpArgs false
open Go Go.Im
namespace Go.Proofs.YtpgmohjmpaifbaaDoor.Im

structure BOk (p : By) (j : Nat) (B : List Int) : Prop where
  len : B.length = 64
  rng : ∀ x ∈ B, 0 ≤ x ∧ x ≤ 255
  is : ∀ t, t < j % 64 → B.getD t 0 = byt p (64 * (j / 64) + t)

def HS (h : Hp) (p : By) (j : Nat) (B : List Int) : Hp := h ++ [.row 8 [.agg (intsOf .u32 (blksR p (j / 64)).list)], .row 64 [.agg (intsOf .u8 B)], .row 1 [.int .i64 (j % 64 : Nat)]]

theorem byt_rng (p : By) (j : Nat) : 0 ≤ byt p j ∧ byt p j ≤ 255 := by
  have := (p.getD j 0).toNat_lt
  unfold byt; omega
theorem z64_ok (p : By) : BOk p 0 (List.replicate 64 0) := ⟨rfl, fun x hx => by rw [List.eq_of_mem_replicate hx]; decide, fun t ht => by omega⟩

theorem mem_set_or {α : Type} {l : List α} {i : Nat} {v x : α} (h : x ∈ l.set i v) : x ∈ l ∨ x = v := List.mem_or_eq_of_mem_set h

section
variable {n : Nat} {tot : Bool} {ω : Nat → Nat} {h : Hp}

theorem f51 : F 51 = some (.inr mixG) := by kernel_rfl
theorem c51F (s : S8) (b : List Int) (hb : b.length = 64) (hbb : ∀ x ∈ b, 0 ≤ x ∧ x ≤ 255) (hn : 0 < n) : call F n tot ω 51 [AV.agg (intsOf .u32 s.list), AV.agg (intsOf .u8 b)] h = some (AV.agg (intsOf .u32 (mixS s b).list), h) := by
  obtain ⟨n, rfl⟩ : ∃ m, n = m + 1 := ⟨n - 1, by omega⟩
  rw [call_inr f51]
  show (match unInts .u8 (intsOf .u8 b) with
    | some ys => if ys.length = 64 ∧ (ys.all fun x => decide (0 ≤ x ∧ x ≤ 255)) = true then some (AV.agg (intsOf .u32 (mixS ⟨s.a, s.b, s.c, s.d, s.e, s.f, s.g, s.h⟩ ys).list), h) else none
    | none => none) = _
  rw [unInts_ok]
  simp only
  rw [if_pos ⟨hb, by rw [List.all_eq_true]; intro x hx; exact decide_eq_true (hbb x hx)⟩]

theorem c50 (p : By) (j : Nat) (B : List Int) (hB : BOk p j B) (hn : 10 < n) :
    ∃ B', call F n tot ω 50 [.int .u8 (byt p j), .ptr (h.length + 1) 64 0 0, .ptr (h.length + 2) 1 0 0, .ptr h.length 8 0 0] (HS h p j B) = some (.tup [], HS h p (j + 1) B') ∧ BOk p (j + 1) B' := by
  obtain ⟨n, rfl⟩ : ∃ m, n = m + 1 := ⟨n - 1, by omega⟩
  have hr := byt_rng p j
  have hm : j % 64 < 64 := Nat.mod_lt _ (by decide)
  refine ⟨B.set (j % 64) (byt p j), ?_, ?_⟩
  · refine call_eq (fn := a50) f50 ?_
    unfold a50 HS
    have k51 : ∀ h, call F n tot ω 51 [AV.agg (intsOf .u32 (blksR p (j / 64)).list), AV.agg (intsOf .u8 (B.set (j % 64) (byt p j)))] h = some (AV.agg (intsOf .u32 (mixS (blksR p (j / 64)) (B.set (j % 64) (byt p j))).list), h) := fun h => c51F _ _ (by simp [hB.len]) (fun x hx => by
      rcases mem_set_or hx with hx | rfl
      · exact hB.rng x hx
      · exact hr) (by omega)
    by_cases he : j % 64 = 63
    · have e1 : (j + 1) / 64 = j / 64 + 1 := by omega
      have e2 : (j + 1) % 64 = 0 := by omega
      have e3 : ((63 : Nat) : Int) + 1 = 64 := rfl
      have hblk : B.set (j % 64) (byt p j) = blkB p (64 * (j / 64)) := by
        apply List.ext_getElem
        · simp [blkB,hB.len]
        · intro t h1 h2
          have ht : t < 64 := by simpa [hB.len] using h1
          rw [List.getElem_set]
          simp only [blkB,List.getElem_map,List.getElem_range]
          split
          · rename_i e; congr 1; omega
          · have := hB.is t (by omega)
            rw [← this]
            simp [List.getD,hB.len,ht]
      have hmix : mixS (blksR p (j / 64)) (B.set (j % 64) (byt p j)) = blksR p ((j + 1) / 64) := by rw [hblk, blks_next, e1]
      rw [hmix] at k51
      have k51' := k51
      rw [he] at k51' 
      have hl8 : ∀ s : S8, s.list.length = 8 := fun _ => rfl
      have t8 : ∀ s : S8, (intsOf .u32 s.list).take 8 = intsOf .u32 s.list := fun _ => rfl
      have d8 : ∀ s : S8, (intsOf .u32 s.list).drop 8 = [] := fun _ => rfl
      have hls : (B.set 63 (byt p j)).length = 64 := by simp [hB.len]
      have t64 : (intsOf .u8 (B.set 63 (byt p j))).take 64 = intsOf .u8 (B.set 63 (byt p j)) := List.take_of_length_le (by rw [io_len', hls]; exact Nat.le_refl _)
      simp (maxSteps := 2000000) (discharger := omega) only [xz,xc,xo,xr,x0,x1,x5,xd,xe,kont_call,wr,Reg.isA,Reg.isV,Reg.stays,Reg.onto,↓reduceIte,reduceCtorEq,Nat.reduceEqDiff,Nat.reduceLT,Nat.reduceAdd,Nat.reduceMul,Int.cast_ofNat_Int,beq_self_eq_true,exists_eq_left',Int.reduceToNat,Int.reduceAdd,xu,List.set_cons_zero,List.set_cons_succ,wrap_i64,int_lt_t,int_le_t,nat_le_t,hgk,hsk,hg0,hs0,io_set',hB.len,he,k51',hl8,t8,d8,hls,t64,e2]
    · have e1 : (j + 1) / 64 = j / 64 := by omega
      have e2 : (j + 1) % 64 = j % 64 + 1 := by omega
      have hne : ((j % 64 : Nat) : Int) + 1 ≠ 64 := by omega
      simp (maxSteps := 2000000) (discharger := omega) only [xz,xc,xo,xr,x0,x1,x5,xd,xe,wr,Reg.isA,Reg.isV,Reg.stays,Reg.onto,↓reduceIte,reduceCtorEq,Nat.reduceEqDiff,Nat.reduceLT,Nat.reduceAdd,Int.cast_ofNat_Int,exists_eq_left',xu,List.set_cons_zero,List.set_cons_succ,wrap_i64,int_lt_t,int_le_t,int_beq_f,hgk,hsk,io_set',hB.len,e1,e2,Nat.mul_one,nat_lt_t',Int.natCast_add]
  · refine ⟨by simp [hB.len], fun x hx => ?_, fun t ht => ?_⟩
    · rcases mem_set_or hx with hx | rfl
      · exact hB.rng x hx
      · exact hr
    · rw [set_getD' _ _ _ _ (by rw [hB.len]; exact hm)]
      split
      · rename_i e; congr 1; omega
      · rw [hB.is t (by omega)]; congr 1; omega

theorem byt_of {p : By} {j : Nat} {b : UInt8} (h : p[j]? = some b) : byt p j = (b.toNat : Nat) := by
  unfold byt; rw [List.getD, h]; rfl
theorem pad_s (s : By) (i : Nat) (hi : i < s.length) : byt (padR s) i = ((s[i].toNat : Nat) : Int) := byt_of (by
  unfold padR
  rw [List.append_assoc, List.append_assoc, List.getElem?_append_left hi, List.getElem?_eq_getElem hi])
theorem pad_1 (s : By) : byt (padR s) s.length = 128 := byt_of (b := 128) (by
  unfold padR
  rw [List.append_assoc, List.append_assoc, List.getElem?_append_right (Nat.le_refl _), Nat.sub_self]; rfl)
theorem pad_z (s : By) (k : Nat) (hk : k < padZ s) : byt (padR s) (s.length + 1 + k) = 0 := byt_of (b := 0) (by
  unfold padR
  rw [List.getElem?_append_left (by simp; omega), List.getElem?_append_right (by simp <;> omega), List.getElem?_replicate, if_pos (by simp; omega)])
theorem lenB_get (s : By) : ∀ k j, j < k → (lenB s k)[j]? = some (UInt8.ofNat (s.length * 8 / 256 ^ (7 - j) % 256))
  | 0, j, h => by omega
  | k + 1, j, h => by
    unfold lenB
    by_cases e : j < k
    · rw [List.getElem?_append_left (by rw [lenB_len]; exact e)]; exact lenB_get s k j e
    · obtain rfl : j = k := by omega
      rw [List.getElem?_append_right (by rw [lenB_len]; omega), lenB_len, Nat.sub_self]; rfl
theorem pad_l (s : By) (k : Nat) (hk : k < 8) : byt (padR s) (s.length + 1 + padZ s + k) = ((s.length * 8 / 256 ^ (7 - k) % 256 : Nat) : Int) := by
  rw [byt_of (b := UInt8.ofNat (s.length * 8 / 256 ^ (7 - k) % 256))]
  · exact u8_nat _ (Nat.mod_lt _ (by decide))
  · unfold padR
    rw [List.getElem?_append_right (by simp; omega)]
    simp only [List.length_append,List.length_cons,List.length_nil,List.length_replicate]
    rw [show s.length + 1 + padZ s + k - (s.length + (0 + 1) + padZ s) = k by omega]
    exact lenB_get s 8 k hk

theorem divI_N (x : Nat) (hx : x < 4294967296) : ∀ k, divI (x : Int) k = ((x / 256 ^ k : Nat) : Int)
  | 0 => by simp [divI]
  | k + 1 => by
    have hle : x / 256 ^ k ≤ x := Nat.div_le_self _ _
    show div32 (divI x k) 256 = _
    rw [divI_N x hx k, Nat.pow_succ, ← Nat.div_div_eq_div_mul]
    generalize x / 256 ^ k = y at *
    unfold div32
    rw [tdiv_pos (by omega), show ((y : Nat) : Int) / 256 = ((y / 256 : Nat) : Int) by omega, wrapN _ (by omega)]
theorem byte_fd {x : Int} (h : R32 x) (k : Nat) (hk : k < 4) : IntKind.u8.wrap (x.fdiv (2 ^ (24 - 8 * k))) = byteI x (3 - k) := by
  obtain ⟨n, rfl, hn⟩ := h.nat
  unfold byteI
  rw [divI_N n hn]
  have hp : (2 : Int) ^ (24 - 8 * k) = ((256 ^ (3 - k) : Nat) : Int) := by
    match k, hk with
    | 0, _ => rfl
    | 1, _ => rfl
    | 2, _ => rfl
    | 3, _ => rfl
  rw [hp, Int.fdiv_eq_ediv_of_nonneg _ (Int.natCast_nonneg _)]
  have : ((n : Nat) : Int) / ((256 ^ (3 - k) : Nat) : Int) = ((n / 256 ^ (3 - k) : Nat) : Int) := by simp
  rw [this, tmod_pos (Int.natCast_nonneg _)]
  generalize n / 256 ^ (3 - k) = y
  have w : ∀ z : Int, IntKind.u8.wrap z = z % 256 := fun z => by
    simp [IntKind.wrap,IntKind.signed,IntKind.bits]
  rw [w, w]; omega

set_option maxRecDepth 100000 in
theorem c22 (s : By) (c : Cap) (hs : s.length ≤ 1000000000) (hn : s.length + 200 < n) : ∃ h', call F n tot ω 22 [.imm 1 [.str s] c] h = some (.agg (intsOf .u8 (shaR s)), h') ∧ Below h.length h h' := by
  obtain ⟨n, rfl⟩ : ∃ m, n = m + 1 := ⟨n - 1, by omega⟩
  suffices hx : ∃ v2 h', call F (n + 1) tot ω 22 [.imm 1 [.str s] c] h = some (v2, h') ∧ v2 = .agg (intsOf .u8 (shaR s)) ∧ Below h.length h h' by
    obtain ⟨v2, h', e1, rfl, e2⟩ := hx
    exact ⟨h', e1, e2⟩
  refine call_of (fn := a22) f22 (P := fun v2 h' => v2 = .agg (intsOf .u8 (shaR s)) ∧ Below h.length h h') ?_
  have q0 : [AV.int .u32 1779033703, AV.int .u32 3144134277, AV.int .u32 1013904242, AV.int .u32 2773480762, AV.int .u32 1359893119, AV.int .u32 2600822924, AV.int .u32 528734635, AV.int .u32 1541459225] = intsOf .u32 s0.list := rfl
  have z32 : (AV.agg [AV.int .u8 0, AV.int .u8 0, AV.int .u8 0, AV.int .u8 0, AV.int .u8 0, AV.int .u8 0, AV.int .u8 0, AV.int .u8 0, AV.int .u8 0, AV.int .u8 0, AV.int .u8 0, AV.int .u8 0, AV.int .u8 0, AV.int .u8 0, AV.int .u8 0, AV.int .u8 0, AV.int .u8 0, AV.int .u8 0, AV.int .u8 0, AV.int .u8 0, AV.int .u8 0, AV.int .u8 0, AV.int .u8 0, AV.int .u8 0, AV.int .u8 0, AV.int .u8 0, AV.int .u8 0, AV.int .u8 0, AV.int .u8 0, AV.int .u8 0, AV.int .u8 0, AV.int .u8 0] : AV) = .agg (intsOf .u8 Z32R) := rfl
  have hz : Z32R.length = 32 := rfl
  unfold a22
  rw [z32]
  simp (maxSteps := 2000000) (discharger := omega) only [xz,xc,xo,xr,x0,x3,x4,x5,xd,wr,place,partVals,Reg.isA,Reg.isV,Reg.stays,Reg.onto,↓reduceIte,reduceCtorEq,Nat.reduceEqDiff,Nat.reduceLT,Nat.reduceAdd,Int.cast_ofNat_Int,xu,List.set_cons_zero,List.set_cons_succ,nat_le_t,List.set_cons_zero,List.set_cons_succ,hgk,hsk,hg0,hs0,List.length_append,List.append_assoc]
  rw [q0]
  generalize hp : padR s = p
  obtain ⟨p1, p2⟩ := padR_len s
  have hZ := padZ_lt s
  rw [hp] at p1 p2
  have g2 : ∀ j B, (HS h p j B)[h.length + 2]? = some (.row 1 [.int .i64 (j % 64 : Nat)]) := fun j B => by unfold HS; rw [hgk]; rfl
  have g0 : ∀ j B, (HS h p j B)[h.length]? = some (.row 8 [.agg (intsOf .u32 (blksR p (j / 64)).list)]) := fun j B => by unfold HS; rw [hg0]; rfl
  refine wpi_loop (fun x r g => ∃ i k B, r = [(2, .var (.agg (intsOf .u8 Z32R))), (3, .val (.ptr h.length 8 0 0)), (5, .val (.ptr (h.length + 2) 1 0 0)), (6, .val (.int .u64 (k : Nat))), (7, .val (.fn (.func 50) [] [.ptr (h.length + 1) 64 0 0, .ptr (h.length + 2) 1 0 0, .ptr h.length 8 0 0])), (18, .val (.imm 1 [.str s] c)), (19, .val (.int .i64 1)), (20, .val (.int .i64 (i : Nat)))] ∧ x = 1 - i ∧ (i = 0 ∧ k = 0 ∨ i = 1 ∧ k = s.length) ∧ g = HS h p k B ∧ BOk p k B) 1 (by omega)
    ⟨0, 0, List.replicate 64 0, rfl, rfl, .inl ⟨rfl, rfl⟩, rfl, z64_ok p⟩ ?_
  rintro x r g ⟨i, k, B, rfl, rfl, hik, rfl, hB⟩
  have RV : ∀ (f : List (Nat × Reg)), f = f := fun _ => rfl
  rcases hik with ⟨rfl, rfl⟩ | ⟨rfl, rfl⟩
  · have wl : IntKind.u64.wrap (0 + IntKind.u64.wrap ((s.length : Nat) : Int)) = ((s.length : Nat) : Int) := by
      rw [Int.zero_add, wrap_u64 (x := IntKind.u64.wrap _) (by rw [wrap_u64 (by omega) (by omega)]; omega) (by rw [wrap_u64 (by omega) (by omega)]; omega), wrap_u64 (by omega) (by omega)]
    simp (maxSteps := 2000000) (discharger := omega) only [xz,xc,xo,xr,x0,x1,x2,x4,xd,Reg.isA,Reg.isV,Reg.stays,Reg.onto,↓reduceIte,Nat.reduceEqDiff,Nat.reduceLT,Int.cast_ofNat_Int,Int.reduceToNat,int_lt_t,int_le_t,Nat.sub_zero,wl]
    refine wpi_loop (fun x r g => ∃ i B, r = [(2, .var (.agg (intsOf .u8 Z32R))), (3, .val (.ptr h.length 8 0 0)), (5, .val (.ptr (h.length + 2) 1 0 0)), (6, .val (.int .u64 (s.length : Nat))), (7, .val (.fn (.func 50) [] [.ptr (h.length + 1) 64 0 0, .ptr (h.length + 2) 1 0 0, .ptr h.length 8 0 0])), (9, .val (.str s)), (10, .val (.int .i64 (i : Nat))), (18, .val (.imm 1 [.str s] c)), (19, .val (.int .i64 1)), (20, .val (.int .i64 0))] ∧ x = s.length - i ∧ i ≤ s.length ∧ g = HS h p i B ∧ BOk p i B) s.length (by omega)
      ⟨0, B, rfl, rfl, Nat.zero_le _, rfl, hB⟩ ?_
    rintro x r g ⟨i, B, rfl, rfl, hi, rfl, hB⟩
    by_cases hlt : i < s.length
    · obtain ⟨B', k50, hB'⟩ := c50 (n := n) (tot := tot) (ω := ω) (h := h) p i B hB (by omega)
      have q1 : s[i]? = some s[i] := List.getElem?_eq_getElem hlt
      have q2 := pad_s s i hlt
      rw [hp] at q2
      rw [q2] at k50
      simp (maxSteps := 2000000) (discharger := omega) only [xz,xc,xo,xr,x0,x1,x4,xd,kont_call,Reg.isA,Reg.isV,Reg.stays,Reg.onto,↓reduceIte,Nat.reduceEqDiff,Nat.reduceLT,wrap_i64,int_lt_t,int_le_t,q1,k50]
      exact ⟨s.length - (i + 1), by omega, i + 1, B', by rw [show ((i : Nat) : Int) + 1 = ((i + 1 : Nat) : Int) by omega], rfl, by omega, rfl, hB'⟩
    · obtain rfl : i = s.length := by omega
      simp (maxSteps := 2000000) (discharger := omega) only [xz,xc,xo,xr,x0,x1,x4,xd,Reg.isA,Reg.isV,Reg.stays,Reg.onto,↓reduceIte,Nat.reduceEqDiff,Nat.reduceLT,Int.reduceAdd,wrap_i64,int_lt_f,Nat.sub_self]
      exact ⟨0, by omega, 1, s.length, B, rfl, rfl, .inr ⟨rfl, rfl⟩, rfl, hB⟩
  · obtain ⟨B', k50, hB'⟩ := c50 (n := n) (tot := tot) (ω := ω) (h := h) p s.length B hB (by omega)
    have q2 := pad_1 s
    rw [hp] at q2
    rw [q2] at k50
    simp (maxSteps := 2000000) (discharger := omega) only [xz,xc,xo,xr,x0,x1,xd,kont_call,Reg.isA,Reg.isV,Reg.stays,Reg.onto,↓reduceIte,Nat.reduceEqDiff,Nat.reduceLT,Int.cast_ofNat_Int,int_lt_f,Nat.sub_self,k50]
    refine wpi_loop (fun x r g => ∃ k B, r = [(2, .var (.agg (intsOf .u8 Z32R))), (3, .val (.ptr h.length 8 0 0)), (5, .val (.ptr (h.length + 2) 1 0 0)), (6, .val (.int .u64 (s.length : Nat))), (7, .val (.fn (.func 50) [] [.ptr (h.length + 1) 64 0 0, .ptr (h.length + 2) 1 0 0, .ptr h.length 8 0 0]))] ∧ x = padZ s - k ∧ k ≤ padZ s ∧ g = HS h p (s.length + 1 + k) B ∧ BOk p (s.length + 1 + k) B) (padZ s) (by omega)
      ⟨0, B', rfl, rfl, Nat.zero_le _, rfl, hB'⟩ ?_
    rintro x r g ⟨k, B, rfl, rfl, hk, rfl, hB⟩
    by_cases hlt : k < padZ s
    · obtain ⟨B', k50, hB'⟩ := c50 (n := n) (tot := tot) (ω := ω) (h := h) p (s.length + 1 + k) B hB (by omega)
      have q2 := pad_z s k hlt
      rw [hp] at q2
      rw [q2] at k50
      have hne : (((s.length + 1 + k) % 64 : Nat) : Int) ≠ 56 := by unfold padZ at hlt; omega
      simp (maxSteps := 2000000) (discharger := omega) only [xz,xc,xo,xr,x0,x1,xd,kont_call,Reg.isA,Reg.isV,Reg.stays,Reg.onto,↓reduceIte,Nat.reduceEqDiff,Nat.reduceLT,int_bne_t,g2,k50]
      exact ⟨padZ s - (k + 1), by omega, k + 1, B', rfl, by omega, rfl, hB'⟩
    · obtain rfl : k = padZ s := by omega
      have heq : (((s.length + 1 + padZ s) % 64 : Nat) : Int) = 56 := by unfold padZ; omega
      simp (maxSteps := 2000000) (discharger := omega) only [xz,xc,xo,xr,x0,x1,xd,Reg.isA,Reg.isV,Reg.stays,Reg.onto,↓reduceIte,Nat.reduceEqDiff,Nat.reduceLT,int_bne_f,Nat.sub_self,g2]
      refine wpi_loop (fun x r g => ∃ (q : Nat) (B : List Int), r = [(2, .var (.agg (intsOf .u8 Z32R))), (3, .val (.ptr h.length 8 0 0)), (6, .val (.int .u64 (s.length : Nat))), (7, .val (.fn (.func 50) [] [.ptr (h.length + 1) 64 0 0, .ptr (h.length + 2) 1 0 0, .ptr h.length 8 0 0])), (11, .val (.int .i64 (56 - 8 * (q : Int))))] ∧ x = 8 - q ∧ q ≤ 8 ∧ g = HS h p (s.length + 1 + padZ s + q) B ∧ BOk p (s.length + 1 + padZ s + q) B) 8 (by omega)
        ⟨0, B, rfl, rfl, by omega, rfl, hB⟩ ?_
      rintro x r g ⟨q, B, rfl, rfl, hq, rfl, hB⟩
      by_cases hlt : q < 8
      · obtain ⟨B', k50, hB'⟩ := c50 (n := n) (tot := tot) (ω := ω) (h := h) p (s.length + 1 + padZ s + q) B hB (by omega)
        have q2 := pad_l s q hlt
        rw [hp] at q2
        rw [q2] at k50
        have w3 : IntKind.u64.wrap (((s.length : Nat) : Int) * 2 ^ min 3 IntKind.u64.bits) = ((s.length * 8 : Nat) : Int) := by
          rw [show min 3 IntKind.u64.bits = 3 from rfl, show ((2 : Int) ^ 3) = 8 from rfl, wrap_u64 (by omega) (by omega)]; omega
        have w4 : IntKind.u8.wrap (((s.length * 8 : Nat) : Int).fdiv (2 ^ min (56 - 8 * (q : Int)).toNat IntKind.u64.bits)) = ((s.length * 8 / 256 ^ (7 - q) % 256 : Nat) : Int) := by
          have hp : (2 : Int) ^ min (56 - 8 * (q : Int)).toNat IntKind.u64.bits = ((256 ^ (7 - q) : Nat) : Int) := by
            match q, hlt with
            | 0, _ => rfl
            | 1, _ => rfl
            | 2, _ => rfl
            | 3, _ => rfl
            | 4, _ => rfl
            | 5, _ => rfl
            | 6, _ => rfl
            | 7, _ => rfl
          rw [hp, Int.fdiv_eq_ediv_of_nonneg _ (Int.natCast_nonneg _)]
          have : ((s.length * 8 : Nat) : Int) / ((256 ^ (7 - q) : Nat) : Int) = ((s.length * 8 / 256 ^ (7 - q) : Nat) : Int) := by simp
          rw [this]
          generalize s.length * 8 / 256 ^ (7 - q) = y
          have w : ∀ z : Int, IntKind.u8.wrap z = z % 256 := fun z => by simp [IntKind.wrap,IntKind.signed,IntKind.bits]
          rw [w]; omega
        simp (maxSteps := 2000000) (discharger := omega) only [xz,xc,xo,xr,x0,x1,x2,xd,kont_call,Reg.isA,Reg.isV,Reg.stays,Reg.onto,↓reduceIte,Nat.reduceEqDiff,Nat.reduceLT,Int.reduceToNat,wrap_i64,int_lt_f,int_le_t,w3,w4,k50]
        exact ⟨8 - (q + 1), by omega, q + 1, B', by rw [show 56 - 8 * (q : Int) - 8 = 56 - 8 * ((q + 1 : Nat) : Int) by omega], rfl, by omega, rfl, hB'⟩
      · obtain rfl : q = 8 := by omega
        have hM : (s.length + 1 + padZ s + 8) / 64 = p.length / 64 := by rw [p2]; congr 1; omega
        have hl8 : ∀ s : S8, s.list.length = 8 := fun _ => rfl
        have t8 : ∀ s : S8, (intsOf .u32 s.list).take 8 = intsOf .u32 s.list := fun _ => rfl
        have hR := blks_R p (p.length / 64)
        have hsha : shaR s = keyI (blksR p (p.length / 64)).list := by unfold shaR; rw [hp]
        rw [hsha]
        have hBel : Below h.length h (HS h p (s.length + 1 + padZ s + 8) B) := .app _ _ _ (Nat.le_refl _)
        have g0' := g0 (s.length + 1 + padZ s + 8) B
        rw [hM] at g0'
        generalize HS h p (s.length + 1 + padZ s + 8) B = hh at *
        simp (maxSteps := 2000000) (discharger := omega) only [xz,xc,xo,xr,x0,x1,xd,xe,Reg.isA,Reg.isV,Reg.stays,Reg.onto,↓reduceIte,Nat.reduceEqDiff,Nat.reduceLT,Int.cast_ofNat_Int,Int.reduceNeg,Int.reduceMul,Int.reduceSub,int_le_f,nat_le_t,Nat.sub_self,g0',hl8,t8]
        have hRL : ∀ i, R32 ((blksR p (p.length / 64)).list.getD i 0) := fun i => by
          refine getD_R (fun x hx => ?_) i
          simp only [S8.list,List.mem_cons,List.not_mem_nil,or_false] at hx
          rcases hx with rfl | rfl | rfl | rfl | rfl | rfl | rfl | rfl
          · exact hR.a
          · exact hR.b
          · exact hR.c
          · exact hR.d
          · exact hR.e
          · exact hR.f
          · exact hR.g
          · exact hR.h
        have hL := hl8 (blksR p (p.length / 64))
        generalize (blksR p (p.length / 64)).list = L at *
        refine wpi_loop (fun x r g => ∃ (i : Nat) (K : List Int), r = [(2, .var (.agg (intsOf .u8 Z32R))), (12, .var (.agg (intsOf .u8 K))), (58, .val (.agg (intsOf .u32 L))), (59, .val (.int .i64 i))] ∧ x = 8 - i ∧ i ≤ 8 ∧ g = hh ∧ K.length = 32 ∧ ∀ t, t < 4 * i → K.getD t 0 = (keyI L).getD t 0) 8 (by omega)
          ⟨0, Z32R, rfl, rfl, by omega, rfl, rfl, fun t ht => absurd ht (by simp)⟩ ?_
        rintro x r g ⟨i, K, rfl, rfl, hi, rfl, hK, hg⟩
        by_cases hi2 : i < 8
        · have qi := io_get' (k := .u32) (l := L) (j := i) (by omega)
          simp (maxSteps := 2000000) (discharger := omega) only [xz,xc,xo,xr,x0,x1,xd,Reg.isA,Reg.isV,Reg.stays,Reg.onto,↓reduceIte,Nat.reduceEqDiff,Nat.reduceLT,Int.cast_ofNat_Int,int_lt_t,int_le_t,qi,Nat.mul_one]
          refine wpi_loop (fun x r g2 => ∃ (q : Nat) (K2 : List Int), r = [(2, .var (.agg (intsOf .u8 Z32R))), (12, .var (.agg (intsOf .u8 K2))), (13, .val (.int .i64 i)), (14, .val (.int .u32 (L.getD i 0))), (58, .val (.agg (intsOf .u32 L))), (59, .val (.int .i64 i)), (63, .val (.int .i64 q))] ∧ x = 4 - q ∧ q ≤ 4 ∧ g2 = g ∧ K2.length = 32 ∧
            (∀ t, t < 4 * i + q → K2.getD t 0 = (keyI L).getD t 0)) 4 (by omega)
            ⟨0, K, rfl, rfl, by omega, rfl, hK, hg⟩ ?_
          rintro x r g2 ⟨q, K2, rfl, rfl, hq, rfl, hK2, hg2⟩
          by_cases hq4 : q < 4
          · have e1 : (4 * (i : Int) + (q : Int)).toNat = 4 * i + q := by omega
            have e2 : (24 - 8 * (q : Int)).toNat = 24 - 8 * q := by omega
            have e3 : min (24 - 8 * q) IntKind.u32.bits = 24 - 8 * q := by show min (24 - 8 * q) 32 = _; omega
            have e4 := byte_fd (hRL i) q hq4
            simp (maxSteps := 2000000) (discharger := omega) only [xz,xc,xo,xr,x0,x1,x2,x5,xd,xe,wr,Reg.isA,Reg.isV,Reg.stays,Reg.onto,↓reduceIte,Nat.reduceEqDiff,Nat.reduceLT,Int.cast_ofNat_Int,xu,wrap_i64,int_lt_t,int_lt_f,int_le_t,e1,e2,e3,e4,io_set',hK2,nat_lt_t',Nat.mul_one]
            refine ⟨4 - (q + 1), by omega, q + 1, K2.set (4 * i + q) (byteI (L.getD i 0) (3 - q)), by rw [show ((q : Nat) : Int) + 1 = ((q + 1 : Nat) : Int) by omega], rfl, by omega, by simpa using hK2, fun t ht => ?_⟩
            rw [set_getD' _ _ _ _ (by omega)]
            by_cases e : t = 4 * i + q
            · rw [if_pos e, keyI_get _ _ (by omega), show t / 4 = i by omega, show t % 4 = q by omega]
            · rw [if_neg e]; exact hg2 t (by omega)
          · obtain rfl : q = 4 := by omega
            simp (maxSteps := 2000000) (discharger := omega) only [xz,xc,xo,xr,x0,x1,xd,Reg.isA,Reg.isV,Reg.stays,Reg.onto,↓reduceIte,Nat.reduceEqDiff,Nat.reduceLT,Int.cast_ofNat_Int,wrap_i64,int_lt_f,Nat.sub_self]
            exact ⟨8 - (i + 1), by omega, i + 1, K2, by rw [show ((i : Nat) : Int) + 1 = ((i + 1 : Nat) : Int) by omega], rfl, by omega, hK2, fun t ht => hg2 t (by omega)⟩
        · obtain rfl : i = 8 := by omega
          have : K = keyI L := by
            apply List.ext_getElem (by rw [hK, keyI_len])
            intro j h1 h2
            have := hg j (by omega)
            simpa [List.getD, h1, h2] using this
          subst this
          have ht : (intsOf .u8 (keyI L)).take 32 = intsOf .u8 (keyI L) := List.take_of_length_le (by rw [io_len', keyI_len]; exact Nat.le_refl _)
          have hd : List.drop 32 (intsOf .u8 Z32R) = [] := rfl
          simp (maxSteps := 2000000) (discharger := omega) only [xz,xc,xo,xr,x0,x1,x5,xd,xe,wr,Reg.isA,Reg.isV,Reg.stays,Reg.onto,↓reduceIte,Nat.reduceEqDiff,Nat.reduceLT,Int.cast_ofNat_Int,exists_eq_left',xu,int_lt_f,nat_le_t,Nat.sub_self,keyI_len,ht,hd,hz]
          exact hBel
end
end Go.Proofs.YtpgmohjmpaifbaaDoor.Im

/- S21Di: paths that begin so; where two trees differ. -/
set_option linter.unusedVariables false
set_option linter.unusedSimpArgs false
open Go Go.Im
namespace Go.Proofs.YtpgmohjmpaifbaaDoor.Im

structure Ch where
  p : By
  w : Bool
  i : Bool
def Ch.av (x : Ch) : AV := .agg [.str x.p, .bool x.w, .bool x.i]

def diffL : List Lf → List Lf → List Ch
  | [], [] => []
  | a :: as', [] => ⟨a.p, true, false⟩ :: diffL as' []
  | [], b :: bs => ⟨b.p, false, true⟩ :: diffL [] bs
  | a :: as', b :: bs =>
    if Op.bytesLess a.p b.p then ⟨a.p, true, false⟩ :: diffL as' (b :: bs)
    else if Op.bytesLess b.p a.p then ⟨b.p, false, true⟩ :: diffL (a :: as') bs
    else if a.ps = b.ps then diffL as' bs else ⟨a.p, true, true⟩ :: diffL as' bs
termination_by a b => a.length + b.length

def begins (b s : By) : Bool := decide (b.length ≤ s.length) && (s.take b.length == b)
def listB (b : By) (ls : List Lf) : List By := (ls.map (·.p)).filter (begins b)
section
variable {n : Nat} {tot : Bool} {ω : Nat → Nat} {h : Hp}

theorem tk (l : List Lf) (c : Cap) : AV.imm 2 (List.take l.length (l.map Lf.av)) c = .imm 2 (l.map Lf.av) c := by rw [List.take_of_length_le (by simp)]

end
end Go.Proofs.YtpgmohjmpaifbaaDoor.Im

/- S21Pd: the reference's view of paths in one snapshot; both agree. -/
set_option linter.unusedVariables false
set_option linter.unusedSimpArgs false
open Go Go.Im
namespace Go.Proofs.YtpgmohjmpaifbaaDoor.Im

structure Tog (l : List By) : Prop where
  few : l.length ≤ 64
  path : ∀ p ∈ l, pathB p = true
  pair : ∀ j k (hj : j < l.length) (hk : k < l.length), j ≠ k → l[j] ≠ l[k] ∧ ¬ Under l[k] l[j]

theorem tog_iff {l : List By} : Tog l ↔ l.length ≤ 64 ∧ (∀ p ∈ l, pathB p = true) ∧ l.Nodup ∧ ∀ p ∈ l, ∀ q ∈ l, ¬ Under p q := by
  constructor
  · intro h
    refine ⟨h.few, h.path, List.pairwise_iff_getElem.2 fun j k hj hk hjk => (h.pair j k hj hk (by omega)).1, fun p hp q hq hU => ?_⟩
    obtain ⟨k, hk, rfl⟩ := List.getElem_of_mem hp
    obtain ⟨j, hj, rfl⟩ := List.getElem_of_mem hq
    by_cases e : j = k
    · subst e; exact Nat.lt_irrefl _ hU.1
    · exact (h.pair j k hj hk e).2 hU
  · rintro ⟨h1, h2, h3, h4⟩
    refine ⟨h1, h2, fun j k hj hk hjk => ⟨fun e => ?_, h4 _ (List.getElem_mem hk) _ (List.getElem_mem hj)⟩⟩
    rw [List.nodup_iff_pairwise_ne, List.pairwise_iff_getElem] at h3
    rcases Nat.lt_or_gt_of_ne hjk with h | h
    · exact h3 j k hj hk h e
    · exact h3 k j hk hj h e.symm

theorem rising_iff {l l' : List By} (hp : l'.Perm l) (hs : ∀ j k (hj : j < l'.length) (hk : k < l'.length), j < k → Op.bytesLess l'[k] l'[j] = false) : Rising l' ↔ Tog l := by
  rw [tog_iff]
  constructor
  · intro h
    refine ⟨by rw [← hp.length_eq]; exact h.few, fun p hx => h.path p (hp.mem_iff.2 hx), hp.nodup_iff.1 ?_, fun p hx q hq => h.apart p (hp.mem_iff.2 hx) q (hp.mem_iff.2 hq)⟩
    rw [List.nodup_iff_pairwise_ne, List.pairwise_iff_getElem]
    intro j k hj hk hjk e
    have := h.rise j k hj hk hjk
    rw [e, bl_irrefl] at this
    cases this
  · rintro ⟨h1, h2, h3, h4⟩
    refine ⟨by rw [hp.length_eq]; exact h1, fun p hx => h2 p (hp.mem_iff.1 hx), fun j k hj hk hjk => ?_, fun p hx q hq => h4 p (hp.mem_iff.1 hx) q (hp.mem_iff.1 hq)⟩
    cases hb : Op.bytesLess l'[j] l'[k] with
    | true => rfl
    | false =>
      have h3' := hp.nodup_iff.2 h3
      rw [List.nodup_iff_pairwise_ne, List.pairwise_iff_getElem] at h3'
      exact absurd (bl_tri _ _ hb (hs j k hj hk hjk)) (h3' j k hj hk hjk)

section
variable {n : Nat} {tot : Bool} {ω : Nat → Nat} {h : Hp}

def Pair (a b : By) : Prop := a ≠ b ∧ ¬ Under b a

end
end Go.Proofs.YtpgmohjmpaifbaaDoor.Im

/- S21Fm: files. -/
set_option linter.unusedVariables false
set_option linter.unusedSimpArgs false
open Go Go.Im
namespace Go.Proofs.YtpgmohjmpaifbaaDoor.Im

structure Fl where
  (p d : By) (v : AV)
instance : Inhabited Fl := ⟨⟨[], [], .nils⟩⟩
def Fl.av (f : Fl) : AV := .agg [.str f.p, f.v]
def Fl.ok (f : Fl) : Prop := IsRd 1 (bytesOf f.d) f.v
def flLt (x y : Fl) : Bool := Op.bytesLess x.p y.p

theorem Fl.len {f : Fl} (h : f.ok) : lenSl f.v = some f.d.length := by
  have := IsRd.len h
  rwa [bytesOf_len] at this

end Go.Proofs.YtpgmohjmpaifbaaDoor.Im

/- S21Bd: the reference's tree of files. -/
set_option linter.unusedVariables false
set_option linter.unusedSimpArgs false
open Go Go.Im Go.Sort
namespace Go.Proofs.YtpgmohjmpaifbaaDoor.Im

theorem wrap64_tmod (x m : Int) (hm : 0 < m) : 0 ≤ (IntKind.u64.wrap x).tmod m ∧ (IntKind.u64.wrap x).tmod m < m := by
  have h : 0 ≤ IntKind.u64.wrap x := by
    have : IntKind.u64.wrap x = x % 18446744073709551616 := by simp [IntKind.wrap,IntKind.signed,IntKind.bits]
    rw [this]; omega
  rw [tmod_pos h]
  exact ⟨Int.emod_nonneg _ (by omega), Int.emod_lt_of_pos _ hm⟩

section
variable {n : Nat} {tot : Bool} {ω : Nat → Nat} {h : Hp}

def SrtF (gs : List Fl) : Prop := ∀ j k (hj : j < gs.length) (hk : k < gs.length), j < k → flLt gs[k] gs[j] = false

def partsL (d : By) : Nat → List Nat → List Pt
  | _, [] => []
  | at', k :: ks => ⟨shaR ((d.take (at' + k)).drop at'), (k : Nat)⟩ :: partsL d (at' + k) ks
def partsR (l m M : Int) (d : By) : List Pt := partsL d 0 (cutR l m M d)
theorem shaR_len (s : By) : (shaR s).length = 32 := keyI_len _
theorem partsL_ok (d : By) : ∀ (ks : List Nat) (a : Nat), ∀ x ∈ partsL d a ks, x.ok
  | [], a, x, h => by cases h
  | k :: ks, a, x, h => by
    rcases List.mem_cons.1 h with rfl | h
    · exact shaR_len _
    · exact partsL_ok d ks _ x h

end
end Go.Proofs.YtpgmohjmpaifbaaDoor.Im

/- Joined: S21Sh, S21Di, S21Pd, S21Fm, S21Bd, S21Ct, S21Ca. -/
import Derived.Test.YtpgmohjmpaifbaaDoorEq
import Derived.Test.YtpgmohjmpaifbaaDoorRs
import Derived.Sort.LotA
import Derived.Test.YtpgmohjmpaifbaaDoorImMapT
/- S21Sh: sha.Sum answers the reference's digest. -/
set_option linter.unusedVariables false
set_option linter.unusedSimpArgs false
open Go Go.Im
namespace Go.Proofs.YtpgmohjmpaifbaaDoor.Im

structure BOk (p : By) (j : Nat) (B : List Int) : Prop where
  len : B.length = 64
  rng : ∀ x ∈ B, 0 ≤ x ∧ x ≤ 255
  is : ∀ t, t < j % 64 → B.getD t 0 = byt p (64 * (j / 64) + t)

def HS (h : Hp) (p : By) (j : Nat) (B : List Int) : Hp := h ++ [.row 8 [.agg (intsOf .u32 (blksR p (j / 64)).list)], .row 64 [.agg (intsOf .u8 B)], .row 1 [.int .i64 (j % 64 : Nat)]]

theorem byt_rng (p : By) (j : Nat) : 0 ≤ byt p j ∧ byt p j ≤ 255 := by
  have := (p.getD j 0).toNat_lt
  unfold byt; omega
theorem z64_ok (p : By) : BOk p 0 (List.replicate 64 0) := ⟨rfl, fun x hx => by rw [List.eq_of_mem_replicate hx]; decide, fun t ht => by omega⟩

theorem mem_set_or {α : Type} {l : List α} {i : Nat} {v x : α} (h : x ∈ l.set i v) : x ∈ l ∨ x = v := List.mem_or_eq_of_mem_set h

section
variable {n : Nat} {tot : Bool} {ω : Nat → Nat} {h : Hp}

theorem f51 : F 51 = some (.inr mixG) := by kernel_rfl
theorem c51F (s : S8) (b : List Int) (hb : b.length = 64) (hbb : ∀ x ∈ b, 0 ≤ x ∧ x ≤ 255) (hn : 0 < n) : call F n tot ω 51 [AV.agg (intsOf .u32 s.list), AV.agg (intsOf .u8 b)] h = some (AV.agg (intsOf .u32 (mixS s b).list), h) := by
  obtain ⟨n, rfl⟩ : ∃ m, n = m + 1 := ⟨n - 1, by omega⟩
  rw [call_inr f51]
  show (match unInts .u8 (intsOf .u8 b) with
    | some ys => if ys.length = 64 ∧ (ys.all fun x => decide (0 ≤ x ∧ x ≤ 255)) = true then some (AV.agg (intsOf .u32 (mixS ⟨s.a, s.b, s.c, s.d, s.e, s.f, s.g, s.h⟩ ys).list), h) else none
    | none => none) = _
  rw [unInts_ok]
  simp only
  rw [if_pos ⟨hb, by rw [List.all_eq_true]; intro x hx; exact decide_eq_true (hbb x hx)⟩]

theorem c50 (p : By) (j : Nat) (B : List Int) (hB : BOk p j B) (hn : 10 < n) :
    ∃ B', call F n tot ω 50 [.int .u8 (byt p j), .ptr (h.length + 1) 64 0 0, .ptr (h.length + 2) 1 0 0, .ptr h.length 8 0 0] (HS h p j B) = some (.tup [], HS h p (j + 1) B') ∧ BOk p (j + 1) B' := by
  obtain ⟨n, rfl⟩ : ∃ m, n = m + 1 := ⟨n - 1, by omega⟩
  have hr := byt_rng p j
  have hm : j % 64 < 64 := Nat.mod_lt _ (by decide)
  refine ⟨B.set (j % 64) (byt p j), ?_, ?_⟩
  · refine call_eq (fn := a50) f50 ?_
    unfold a50 HS
    have k51 : ∀ h, call F n tot ω 51 [AV.agg (intsOf .u32 (blksR p (j / 64)).list), AV.agg (intsOf .u8 (B.set (j % 64) (byt p j)))] h = some (AV.agg (intsOf .u32 (mixS (blksR p (j / 64)) (B.set (j % 64) (byt p j))).list), h) := fun h => c51F _ _ (by simp [hB.len]) (fun x hx => by
      rcases mem_set_or hx with hx | rfl
      · exact hB.rng x hx
      · exact hr) (by omega)
    by_cases he : j % 64 = 63
    · have e1 : (j + 1) / 64 = j / 64 + 1 := by omega
      have e2 : (j + 1) % 64 = 0 := by omega
      have e3 : ((63 : Nat) : Int) + 1 = 64 := rfl
      have hblk : B.set (j % 64) (byt p j) = blkB p (64 * (j / 64)) := by
        apply List.ext_getElem
        · simp [blkB,hB.len]
        · intro t h1 h2
          have ht : t < 64 := by simpa [hB.len] using h1
          rw [List.getElem_set]
          simp only [blkB,List.getElem_map,List.getElem_range]
          split
          · rename_i e; congr 1; omega
          · have := hB.is t (by omega)
            rw [← this]
            simp [List.getD,hB.len,ht]
      have hmix : mixS (blksR p (j / 64)) (B.set (j % 64) (byt p j)) = blksR p ((j + 1) / 64) := by rw [hblk, blks_next, e1]
      rw [hmix] at k51
      have k51' := k51
      rw [he] at k51' 
      have hl8 : ∀ s : S8, s.list.length = 8 := fun _ => rfl
      have t8 : ∀ s : S8, (intsOf .u32 s.list).take 8 = intsOf .u32 s.list := fun _ => rfl
      have d8 : ∀ s : S8, (intsOf .u32 s.list).drop 8 = [] := fun _ => rfl
      have hls : (B.set 63 (byt p j)).length = 64 := by simp [hB.len]
      have t64 : (intsOf .u8 (B.set 63 (byt p j))).take 64 = intsOf .u8 (B.set 63 (byt p j)) := List.take_of_length_le (by rw [io_len', hls]; exact Nat.le_refl _)
      simp (maxSteps := 2000000) (discharger := omega) only [xz,xc,xo,xr,x0,x1,x5,xd,xe,kont_call,wr,Reg.isA,Reg.isV,Reg.stays,Reg.onto,↓reduceIte,reduceCtorEq,Nat.reduceEqDiff,Nat.reduceLT,Nat.reduceAdd,Nat.reduceMul,Int.cast_ofNat_Int,beq_self_eq_true,exists_eq_left',Int.reduceToNat,Int.reduceAdd,xu,List.set_cons_zero,List.set_cons_succ,wrap_i64,int_lt_t,int_le_t,nat_le_t,hgk,hsk,hg0,hs0,io_set',hB.len,he,k51',hl8,t8,d8,hls,t64,e2]
    · have e1 : (j + 1) / 64 = j / 64 := by omega
      have e2 : (j + 1) % 64 = j % 64 + 1 := by omega
      have hne : ((j % 64 : Nat) : Int) + 1 ≠ 64 := by omega
      simp (maxSteps := 2000000) (discharger := omega) only [xz,xc,xo,xr,x0,x1,x5,xd,xe,wr,Reg.isA,Reg.isV,Reg.stays,Reg.onto,↓reduceIte,reduceCtorEq,Nat.reduceEqDiff,Nat.reduceLT,Nat.reduceAdd,Int.cast_ofNat_Int,exists_eq_left',xu,List.set_cons_zero,List.set_cons_succ,wrap_i64,int_lt_t,int_le_t,int_beq_f,hgk,hsk,io_set',hB.len,e1,e2,Nat.mul_one,nat_lt_t',Int.natCast_add]
  · refine ⟨by simp [hB.len], fun x hx => ?_, fun t ht => ?_⟩
    · rcases mem_set_or hx with hx | rfl
      · exact hB.rng x hx
      · exact hr
    · rw [set_getD' _ _ _ _ (by rw [hB.len]; exact hm)]
      split
      · rename_i e; congr 1; omega
      · rw [hB.is t (by omega)]; congr 1; omega

theorem byt_of {p : By} {j : Nat} {b : UInt8} (h : p[j]? = some b) : byt p j = (b.toNat : Nat) := by
  unfold byt; rw [List.getD, h]; rfl
theorem pad_s (s : By) (i : Nat) (hi : i < s.length) : byt (padR s) i = ((s[i].toNat : Nat) : Int) := byt_of (by
  unfold padR
  rw [List.append_assoc, List.append_assoc, List.getElem?_append_left hi, List.getElem?_eq_getElem hi])
theorem pad_1 (s : By) : byt (padR s) s.length = 128 := byt_of (b := 128) (by
  unfold padR
  rw [List.append_assoc, List.append_assoc, List.getElem?_append_right (Nat.le_refl _), Nat.sub_self]; rfl)
theorem pad_z (s : By) (k : Nat) (hk : k < padZ s) : byt (padR s) (s.length + 1 + k) = 0 := byt_of (b := 0) (by
  unfold padR
  rw [List.getElem?_append_left (by simp; omega), List.getElem?_append_right (by simp <;> omega), List.getElem?_replicate, if_pos (by simp; omega)])
theorem lenB_get (s : By) : ∀ k j, j < k → (lenB s k)[j]? = some (UInt8.ofNat (s.length * 8 / 256 ^ (7 - j) % 256))
  | 0, j, h => by omega
  | k + 1, j, h => by
    unfold lenB
    by_cases e : j < k
    · rw [List.getElem?_append_left (by rw [lenB_len]; exact e)]; exact lenB_get s k j e
    · obtain rfl : j = k := by omega
      rw [List.getElem?_append_right (by rw [lenB_len]; omega), lenB_len, Nat.sub_self]; rfl
theorem pad_l (s : By) (k : Nat) (hk : k < 8) : byt (padR s) (s.length + 1 + padZ s + k) = ((s.length * 8 / 256 ^ (7 - k) % 256 : Nat) : Int) := by
  rw [byt_of (b := UInt8.ofNat (s.length * 8 / 256 ^ (7 - k) % 256))]
  · exact u8_nat _ (Nat.mod_lt _ (by decide))
  · unfold padR
    rw [List.getElem?_append_right (by simp; omega)]
    simp only [List.length_append,List.length_cons,List.length_nil,List.length_replicate]
    rw [show s.length + 1 + padZ s + k - (s.length + (0 + 1) + padZ s) = k by omega]
    exact lenB_get s 8 k hk

theorem divI_N (x : Nat) (hx : x < 4294967296) : ∀ k, divI (x : Int) k = ((x / 256 ^ k : Nat) : Int)
  | 0 => by simp [divI]
  | k + 1 => by
    have hle : x / 256 ^ k ≤ x := Nat.div_le_self _ _
    show div32 (divI x k) 256 = _
    rw [divI_N x hx k, Nat.pow_succ, ← Nat.div_div_eq_div_mul]
    generalize x / 256 ^ k = y at *
    unfold div32
    rw [tdiv_pos (by omega), show ((y : Nat) : Int) / 256 = ((y / 256 : Nat) : Int) by omega, wrapN _ (by omega)]
theorem byte_fd {x : Int} (h : R32 x) (k : Nat) (hk : k < 4) : IntKind.u8.wrap (x.fdiv (2 ^ (24 - 8 * k))) = byteI x (3 - k) := by
  obtain ⟨n, rfl, hn⟩ := h.nat
  unfold byteI
  rw [divI_N n hn]
  have hp : (2 : Int) ^ (24 - 8 * k) = ((256 ^ (3 - k) : Nat) : Int) := by
    match k, hk with
    | 0, _ => rfl
    | 1, _ => rfl
    | 2, _ => rfl
    | 3, _ => rfl
  rw [hp, Int.fdiv_eq_ediv_of_nonneg _ (Int.natCast_nonneg _)]
  have : ((n : Nat) : Int) / ((256 ^ (3 - k) : Nat) : Int) = ((n / 256 ^ (3 - k) : Nat) : Int) := by simp
  rw [this, tmod_pos (Int.natCast_nonneg _)]
  generalize n / 256 ^ (3 - k) = y
  have w : ∀ z : Int, IntKind.u8.wrap z = z % 256 := fun z => by
    simp [IntKind.wrap,IntKind.signed,IntKind.bits]
  rw [w, w]; omega

set_option maxRecDepth 100000 in
theorem c22 (s : By) (c : Cap) (hs : s.length ≤ 1000000000) (hn : s.length + 200 < n) : ∃ h', call F n tot ω 22 [.imm 1 [.str s] c] h = some (.agg (intsOf .u8 (shaR s)), h') ∧ Below h.length h h' := by
  obtain ⟨n, rfl⟩ : ∃ m, n = m + 1 := ⟨n - 1, by omega⟩
  suffices hx : ∃ v2 h', call F (n + 1) tot ω 22 [.imm 1 [.str s] c] h = some (v2, h') ∧ v2 = .agg (intsOf .u8 (shaR s)) ∧ Below h.length h h' by
    obtain ⟨v2, h', e1, rfl, e2⟩ := hx
    exact ⟨h', e1, e2⟩
  refine call_of (fn := a22) f22 (P := fun v2 h' => v2 = .agg (intsOf .u8 (shaR s)) ∧ Below h.length h h') ?_
  have q0 : [AV.int .u32 1779033703, AV.int .u32 3144134277, AV.int .u32 1013904242, AV.int .u32 2773480762, AV.int .u32 1359893119, AV.int .u32 2600822924, AV.int .u32 528734635, AV.int .u32 1541459225] = intsOf .u32 s0.list := rfl
  have z32 : (AV.agg [AV.int .u8 0, AV.int .u8 0, AV.int .u8 0, AV.int .u8 0, AV.int .u8 0, AV.int .u8 0, AV.int .u8 0, AV.int .u8 0, AV.int .u8 0, AV.int .u8 0, AV.int .u8 0, AV.int .u8 0, AV.int .u8 0, AV.int .u8 0, AV.int .u8 0, AV.int .u8 0, AV.int .u8 0, AV.int .u8 0, AV.int .u8 0, AV.int .u8 0, AV.int .u8 0, AV.int .u8 0, AV.int .u8 0, AV.int .u8 0, AV.int .u8 0, AV.int .u8 0, AV.int .u8 0, AV.int .u8 0, AV.int .u8 0, AV.int .u8 0, AV.int .u8 0, AV.int .u8 0] : AV) = .agg (intsOf .u8 Z32R) := rfl
  have hz : Z32R.length = 32 := rfl
  unfold a22
  rw [z32]
  simp (maxSteps := 2000000) (discharger := omega) only [xz,xc,xo,xr,x0,x3,x4,x5,xd,wr,place,partVals,Reg.isA,Reg.isV,Reg.stays,Reg.onto,↓reduceIte,reduceCtorEq,Nat.reduceEqDiff,Nat.reduceLT,Nat.reduceAdd,Int.cast_ofNat_Int,xu,List.set_cons_zero,List.set_cons_succ,nat_le_t,List.set_cons_zero,List.set_cons_succ,hgk,hsk,hg0,hs0,List.length_append,List.append_assoc]
  rw [q0]
  generalize hp : padR s = p
  obtain ⟨p1, p2⟩ := padR_len s
  have hZ := padZ_lt s
  rw [hp] at p1 p2
  have g2 : ∀ j B, (HS h p j B)[h.length + 2]? = some (.row 1 [.int .i64 (j % 64 : Nat)]) := fun j B => by unfold HS; rw [hgk]; rfl
  have g0 : ∀ j B, (HS h p j B)[h.length]? = some (.row 8 [.agg (intsOf .u32 (blksR p (j / 64)).list)]) := fun j B => by unfold HS; rw [hg0]; rfl
  refine wpi_loop (fun x r g => ∃ i k B, r = [(2, .var (.agg (intsOf .u8 Z32R))), (3, .val (.ptr h.length 8 0 0)), (5, .val (.ptr (h.length + 2) 1 0 0)), (6, .val (.int .u64 (k : Nat))), (7, .val (.fn (.func 50) [] [.ptr (h.length + 1) 64 0 0, .ptr (h.length + 2) 1 0 0, .ptr h.length 8 0 0])), (18, .val (.imm 1 [.str s] c)), (19, .val (.int .i64 1)), (20, .val (.int .i64 (i : Nat)))] ∧ x = 1 - i ∧ (i = 0 ∧ k = 0 ∨ i = 1 ∧ k = s.length) ∧ g = HS h p k B ∧ BOk p k B) 1 (by omega)
    ⟨0, 0, List.replicate 64 0, rfl, rfl, .inl ⟨rfl, rfl⟩, rfl, z64_ok p⟩ ?_
  rintro x r g ⟨i, k, B, rfl, rfl, hik, rfl, hB⟩
  have RV : ∀ (f : List (Nat × Reg)), f = f := fun _ => rfl
  rcases hik with ⟨rfl, rfl⟩ | ⟨rfl, rfl⟩
  · have wl : IntKind.u64.wrap (0 + IntKind.u64.wrap ((s.length : Nat) : Int)) = ((s.length : Nat) : Int) := by
      rw [Int.zero_add, wrap_u64 (x := IntKind.u64.wrap _) (by rw [wrap_u64 (by omega) (by omega)]; omega) (by rw [wrap_u64 (by omega) (by omega)]; omega), wrap_u64 (by omega) (by omega)]
    simp (maxSteps := 2000000) (discharger := omega) only [xz,xc,xo,xr,x0,x1,x2,x4,xd,Reg.isA,Reg.isV,Reg.stays,Reg.onto,↓reduceIte,Nat.reduceEqDiff,Nat.reduceLT,Int.cast_ofNat_Int,Int.reduceToNat,int_lt_t,int_le_t,Nat.sub_zero,wl]
    refine wpi_loop (fun x r g => ∃ i B, r = [(2, .var (.agg (intsOf .u8 Z32R))), (3, .val (.ptr h.length 8 0 0)), (5, .val (.ptr (h.length + 2) 1 0 0)), (6, .val (.int .u64 (s.length : Nat))), (7, .val (.fn (.func 50) [] [.ptr (h.length + 1) 64 0 0, .ptr (h.length + 2) 1 0 0, .ptr h.length 8 0 0])), (9, .val (.str s)), (10, .val (.int .i64 (i : Nat))), (18, .val (.imm 1 [.str s] c)), (19, .val (.int .i64 1)), (20, .val (.int .i64 0))] ∧ x = s.length - i ∧ i ≤ s.length ∧ g = HS h p i B ∧ BOk p i B) s.length (by omega)
      ⟨0, B, rfl, rfl, Nat.zero_le _, rfl, hB⟩ ?_
    rintro x r g ⟨i, B, rfl, rfl, hi, rfl, hB⟩
    by_cases hlt : i < s.length
    · obtain ⟨B', k50, hB'⟩ := c50 (n := n) (tot := tot) (ω := ω) (h := h) p i B hB (by omega)
      have q1 : s[i]? = some s[i] := List.getElem?_eq_getElem hlt
      have q2 := pad_s s i hlt
      rw [hp] at q2
      rw [q2] at k50
      simp (maxSteps := 2000000) (discharger := omega) only [xz,xc,xo,xr,x0,x1,x4,xd,kont_call,Reg.isA,Reg.isV,Reg.stays,Reg.onto,↓reduceIte,Nat.reduceEqDiff,Nat.reduceLT,wrap_i64,int_lt_t,int_le_t,q1,k50]
      exact ⟨s.length - (i + 1), by omega, i + 1, B', by rw [show ((i : Nat) : Int) + 1 = ((i + 1 : Nat) : Int) by omega], rfl, by omega, rfl, hB'⟩
    · obtain rfl : i = s.length := by omega
      simp (maxSteps := 2000000) (discharger := omega) only [xz,xc,xo,xr,x0,x1,x4,xd,Reg.isA,Reg.isV,Reg.stays,Reg.onto,↓reduceIte,Nat.reduceEqDiff,Nat.reduceLT,Int.reduceAdd,wrap_i64,int_lt_f,Nat.sub_self]
      exact ⟨0, by omega, 1, s.length, B, rfl, rfl, .inr ⟨rfl, rfl⟩, rfl, hB⟩
  · obtain ⟨B', k50, hB'⟩ := c50 (n := n) (tot := tot) (ω := ω) (h := h) p s.length B hB (by omega)
    have q2 := pad_1 s
    rw [hp] at q2
    rw [q2] at k50
    simp (maxSteps := 2000000) (discharger := omega) only [xz,xc,xo,xr,x0,x1,xd,kont_call,Reg.isA,Reg.isV,Reg.stays,Reg.onto,↓reduceIte,Nat.reduceEqDiff,Nat.reduceLT,Int.cast_ofNat_Int,int_lt_f,Nat.sub_self,k50]
    refine wpi_loop (fun x r g => ∃ k B, r = [(2, .var (.agg (intsOf .u8 Z32R))), (3, .val (.ptr h.length 8 0 0)), (5, .val (.ptr (h.length + 2) 1 0 0)), (6, .val (.int .u64 (s.length : Nat))), (7, .val (.fn (.func 50) [] [.ptr (h.length + 1) 64 0 0, .ptr (h.length + 2) 1 0 0, .ptr h.length 8 0 0]))] ∧ x = padZ s - k ∧ k ≤ padZ s ∧ g = HS h p (s.length + 1 + k) B ∧ BOk p (s.length + 1 + k) B) (padZ s) (by omega)
      ⟨0, B', rfl, rfl, Nat.zero_le _, rfl, hB'⟩ ?_
    rintro x r g ⟨k, B, rfl, rfl, hk, rfl, hB⟩
    by_cases hlt : k < padZ s
    · obtain ⟨B', k50, hB'⟩ := c50 (n := n) (tot := tot) (ω := ω) (h := h) p (s.length + 1 + k) B hB (by omega)
      have q2 := pad_z s k hlt
      rw [hp] at q2
      rw [q2] at k50
      have hne : (((s.length + 1 + k) % 64 : Nat) : Int) ≠ 56 := by unfold padZ at hlt; omega
      simp (maxSteps := 2000000) (discharger := omega) only [xz,xc,xo,xr,x0,x1,xd,kont_call,Reg.isA,Reg.isV,Reg.stays,Reg.onto,↓reduceIte,Nat.reduceEqDiff,Nat.reduceLT,int_bne_t,g2,k50]
      exact ⟨padZ s - (k + 1), by omega, k + 1, B', rfl, by omega, rfl, hB'⟩
    · obtain rfl : k = padZ s := by omega
      have heq : (((s.length + 1 + padZ s) % 64 : Nat) : Int) = 56 := by unfold padZ; omega
      simp (maxSteps := 2000000) (discharger := omega) only [xz,xc,xo,xr,x0,x1,xd,Reg.isA,Reg.isV,Reg.stays,Reg.onto,↓reduceIte,Nat.reduceEqDiff,Nat.reduceLT,int_bne_f,Nat.sub_self,g2]
      refine wpi_loop (fun x r g => ∃ (q : Nat) (B : List Int), r = [(2, .var (.agg (intsOf .u8 Z32R))), (3, .val (.ptr h.length 8 0 0)), (6, .val (.int .u64 (s.length : Nat))), (7, .val (.fn (.func 50) [] [.ptr (h.length + 1) 64 0 0, .ptr (h.length + 2) 1 0 0, .ptr h.length 8 0 0])), (11, .val (.int .i64 (56 - 8 * (q : Int))))] ∧ x = 8 - q ∧ q ≤ 8 ∧ g = HS h p (s.length + 1 + padZ s + q) B ∧ BOk p (s.length + 1 + padZ s + q) B) 8 (by omega)
        ⟨0, B, rfl, rfl, by omega, rfl, hB⟩ ?_
      rintro x r g ⟨q, B, rfl, rfl, hq, rfl, hB⟩
      by_cases hlt : q < 8
      · obtain ⟨B', k50, hB'⟩ := c50 (n := n) (tot := tot) (ω := ω) (h := h) p (s.length + 1 + padZ s + q) B hB (by omega)
        have q2 := pad_l s q hlt
        rw [hp] at q2
        rw [q2] at k50
        have w3 : IntKind.u64.wrap (((s.length : Nat) : Int) * 2 ^ min 3 IntKind.u64.bits) = ((s.length * 8 : Nat) : Int) := by
          rw [show min 3 IntKind.u64.bits = 3 from rfl, show ((2 : Int) ^ 3) = 8 from rfl, wrap_u64 (by omega) (by omega)]; omega
        have w4 : IntKind.u8.wrap (((s.length * 8 : Nat) : Int).fdiv (2 ^ min (56 - 8 * (q : Int)).toNat IntKind.u64.bits)) = ((s.length * 8 / 256 ^ (7 - q) % 256 : Nat) : Int) := by
          have hp : (2 : Int) ^ min (56 - 8 * (q : Int)).toNat IntKind.u64.bits = ((256 ^ (7 - q) : Nat) : Int) := by
            match q, hlt with
            | 0, _ => rfl
            | 1, _ => rfl
            | 2, _ => rfl
            | 3, _ => rfl
            | 4, _ => rfl
            | 5, _ => rfl
            | 6, _ => rfl
            | 7, _ => rfl
          rw [hp, Int.fdiv_eq_ediv_of_nonneg _ (Int.natCast_nonneg _)]
          have : ((s.length * 8 : Nat) : Int) / ((256 ^ (7 - q) : Nat) : Int) = ((s.length * 8 / 256 ^ (7 - q) : Nat) : Int) := by simp
          rw [this]
          generalize s.length * 8 / 256 ^ (7 - q) = y
          have w : ∀ z : Int, IntKind.u8.wrap z = z % 256 := fun z => by simp [IntKind.wrap,IntKind.signed,IntKind.bits]
          rw [w]; omega
        simp (maxSteps := 2000000) (discharger := omega) only [xz,xc,xo,xr,x0,x1,x2,xd,kont_call,Reg.isA,Reg.isV,Reg.stays,Reg.onto,↓reduceIte,Nat.reduceEqDiff,Nat.reduceLT,Int.reduceToNat,wrap_i64,int_lt_f,int_le_t,w3,w4,k50]
        exact ⟨8 - (q + 1), by omega, q + 1, B', by rw [show 56 - 8 * (q : Int) - 8 = 56 - 8 * ((q + 1 : Nat) : Int) by omega], rfl, by omega, rfl, hB'⟩
      · obtain rfl : q = 8 := by omega
        have hM : (s.length + 1 + padZ s + 8) / 64 = p.length / 64 := by rw [p2]; congr 1; omega
        have hl8 : ∀ s : S8, s.list.length = 8 := fun _ => rfl
        have t8 : ∀ s : S8, (intsOf .u32 s.list).take 8 = intsOf .u32 s.list := fun _ => rfl
        have hR := blks_R p (p.length / 64)
        have hsha : shaR s = keyI (blksR p (p.length / 64)).list := by unfold shaR; rw [hp]
        rw [hsha]
        have hBel : Below h.length h (HS h p (s.length + 1 + padZ s + 8) B) := .app _ _ _ (Nat.le_refl _)
        have g0' := g0 (s.length + 1 + padZ s + 8) B
        rw [hM] at g0'
        generalize HS h p (s.length + 1 + padZ s + 8) B = hh at *
        simp (maxSteps := 2000000) (discharger := omega) only [xz,xc,xo,xr,x0,x1,xd,xe,Reg.isA,Reg.isV,Reg.stays,Reg.onto,↓reduceIte,Nat.reduceEqDiff,Nat.reduceLT,Int.cast_ofNat_Int,Int.reduceNeg,Int.reduceMul,Int.reduceSub,int_le_f,nat_le_t,Nat.sub_self,g0',hl8,t8]
        have hRL : ∀ i, R32 ((blksR p (p.length / 64)).list.getD i 0) := fun i => by
          refine getD_R (fun x hx => ?_) i
          simp only [S8.list,List.mem_cons,List.not_mem_nil,or_false] at hx
          rcases hx with rfl | rfl | rfl | rfl | rfl | rfl | rfl | rfl
          · exact hR.a
          · exact hR.b
          · exact hR.c
          · exact hR.d
          · exact hR.e
          · exact hR.f
          · exact hR.g
          · exact hR.h
        have hL := hl8 (blksR p (p.length / 64))
        generalize (blksR p (p.length / 64)).list = L at *
        refine wpi_loop (fun x r g => ∃ (i : Nat) (K : List Int), r = [(2, .var (.agg (intsOf .u8 Z32R))), (12, .var (.agg (intsOf .u8 K))), (58, .val (.agg (intsOf .u32 L))), (59, .val (.int .i64 i))] ∧ x = 8 - i ∧ i ≤ 8 ∧ g = hh ∧ K.length = 32 ∧ ∀ t, t < 4 * i → K.getD t 0 = (keyI L).getD t 0) 8 (by omega)
          ⟨0, Z32R, rfl, rfl, by omega, rfl, rfl, fun t ht => absurd ht (by simp)⟩ ?_
        rintro x r g ⟨i, K, rfl, rfl, hi, rfl, hK, hg⟩
        by_cases hi2 : i < 8
        · have qi := io_get' (k := .u32) (l := L) (j := i) (by omega)
          simp (maxSteps := 2000000) (discharger := omega) only [xz,xc,xo,xr,x0,x1,xd,Reg.isA,Reg.isV,Reg.stays,Reg.onto,↓reduceIte,Nat.reduceEqDiff,Nat.reduceLT,Int.cast_ofNat_Int,int_lt_t,int_le_t,qi,Nat.mul_one]
          refine wpi_loop (fun x r g2 => ∃ (q : Nat) (K2 : List Int), r = [(2, .var (.agg (intsOf .u8 Z32R))), (12, .var (.agg (intsOf .u8 K2))), (13, .val (.int .i64 i)), (14, .val (.int .u32 (L.getD i 0))), (58, .val (.agg (intsOf .u32 L))), (59, .val (.int .i64 i)), (63, .val (.int .i64 q))] ∧ x = 4 - q ∧ q ≤ 4 ∧ g2 = g ∧ K2.length = 32 ∧
            (∀ t, t < 4 * i + q → K2.getD t 0 = (keyI L).getD t 0)) 4 (by omega)
            ⟨0, K, rfl, rfl, by omega, rfl, hK, hg⟩ ?_
          rintro x r g2 ⟨q, K2, rfl, rfl, hq, rfl, hK2, hg2⟩
          by_cases hq4 : q < 4
          · have e1 : (4 * (i : Int) + (q : Int)).toNat = 4 * i + q := by omega
            have e2 : (24 - 8 * (q : Int)).toNat = 24 - 8 * q := by omega
            have e3 : min (24 - 8 * q) IntKind.u32.bits = 24 - 8 * q := by show min (24 - 8 * q) 32 = _; omega
            have e4 := byte_fd (hRL i) q hq4
            simp (maxSteps := 2000000) (discharger := omega) only [xz,xc,xo,xr,x0,x1,x2,x5,xd,xe,wr,Reg.isA,Reg.isV,Reg.stays,Reg.onto,↓reduceIte,Nat.reduceEqDiff,Nat.reduceLT,Int.cast_ofNat_Int,xu,wrap_i64,int_lt_t,int_lt_f,int_le_t,e1,e2,e3,e4,io_set',hK2,nat_lt_t',Nat.mul_one]
            refine ⟨4 - (q + 1), by omega, q + 1, K2.set (4 * i + q) (byteI (L.getD i 0) (3 - q)), by rw [show ((q : Nat) : Int) + 1 = ((q + 1 : Nat) : Int) by omega], rfl, by omega, by simpa using hK2, fun t ht => ?_⟩
            rw [set_getD' _ _ _ _ (by omega)]
            by_cases e : t = 4 * i + q
            · rw [if_pos e, keyI_get _ _ (by omega), show t / 4 = i by omega, show t % 4 = q by omega]
            · rw [if_neg e]; exact hg2 t (by omega)
          · obtain rfl : q = 4 := by omega
            simp (maxSteps := 2000000) (discharger := omega) only [xz,xc,xo,xr,x0,x1,xd,Reg.isA,Reg.isV,Reg.stays,Reg.onto,↓reduceIte,Nat.reduceEqDiff,Nat.reduceLT,Int.cast_ofNat_Int,wrap_i64,int_lt_f,Nat.sub_self]
            exact ⟨8 - (i + 1), by omega, i + 1, K2, by rw [show ((i : Nat) : Int) + 1 = ((i + 1 : Nat) : Int) by omega], rfl, by omega, hK2, fun t ht => hg2 t (by omega)⟩
        · obtain rfl : i = 8 := by omega
          have : K = keyI L := by
            apply List.ext_getElem (by rw [hK, keyI_len])
            intro j h1 h2
            have := hg j (by omega)
            simpa [List.getD, h1, h2] using this
          subst this
          have ht : (intsOf .u8 (keyI L)).take 32 = intsOf .u8 (keyI L) := List.take_of_length_le (by rw [io_len', keyI_len]; exact Nat.le_refl _)
          have hd : List.drop 32 (intsOf .u8 Z32R) = [] := rfl
          simp (maxSteps := 2000000) (discharger := omega) only [xz,xc,xo,xr,x0,x1,x5,xd,xe,wr,Reg.isA,Reg.isV,Reg.stays,Reg.onto,↓reduceIte,Nat.reduceEqDiff,Nat.reduceLT,Int.cast_ofNat_Int,exists_eq_left',xu,int_lt_f,nat_le_t,Nat.sub_self,keyI_len,ht,hd,hz]
          exact hBel
end
end Go.Proofs.YtpgmohjmpaifbaaDoor.Im

/- S21Di: paths that begin so; where two trees differ. -/
set_option linter.unusedVariables false
set_option linter.unusedSimpArgs false
open Go Go.Im
namespace Go.Proofs.YtpgmohjmpaifbaaDoor.Im

structure Ch where
  p : By
  w : Bool
  i : Bool
def Ch.av (x : Ch) : AV := .agg [.str x.p, .bool x.w, .bool x.i]

def diffL : List Lf → List Lf → List Ch
  | [], [] => []
  | a :: as', [] => ⟨a.p, true, false⟩ :: diffL as' []
  | [], b :: bs => ⟨b.p, false, true⟩ :: diffL [] bs
  | a :: as', b :: bs =>
    if Op.bytesLess a.p b.p then ⟨a.p, true, false⟩ :: diffL as' (b :: bs)
    else if Op.bytesLess b.p a.p then ⟨b.p, false, true⟩ :: diffL (a :: as') bs
    else if a.ps = b.ps then diffL as' bs else ⟨a.p, true, true⟩ :: diffL as' bs
termination_by a b => a.length + b.length

def begins (b s : By) : Bool := decide (b.length ≤ s.length) && (s.take b.length == b)
def listB (b : By) (ls : List Lf) : List By := (ls.map (·.p)).filter (begins b)
section
variable {n : Nat} {tot : Bool} {ω : Nat → Nat} {h : Hp}

theorem tk (l : List Lf) (c : Cap) : AV.imm 2 (List.take l.length (l.map Lf.av)) c = .imm 2 (l.map Lf.av) c := by rw [List.take_of_length_le (by simp)]

end
end Go.Proofs.YtpgmohjmpaifbaaDoor.Im

/- S21Pd: the reference's view of paths in one snapshot; both agree. -/
set_option linter.unusedVariables false
set_option linter.unusedSimpArgs false
open Go Go.Im
namespace Go.Proofs.YtpgmohjmpaifbaaDoor.Im

structure Tog (l : List By) : Prop where
  few : l.length ≤ 64
  path : ∀ p ∈ l, pathB p = true
  pair : ∀ j k (hj : j < l.length) (hk : k < l.length), j ≠ k → l[j] ≠ l[k] ∧ ¬ Under l[k] l[j]

section
variable {n : Nat} {tot : Bool} {ω : Nat → Nat} {h : Hp}

def Pair (a b : By) : Prop := a ≠ b ∧ ¬ Under b a

end
end Go.Proofs.YtpgmohjmpaifbaaDoor.Im

/- S21Fm: files. -/
set_option linter.unusedVariables false
set_option linter.unusedSimpArgs false
open Go Go.Im
namespace Go.Proofs.YtpgmohjmpaifbaaDoor.Im

structure Fl where
  (p d : By) (v : AV)
instance : Inhabited Fl := ⟨⟨[], [], .nils⟩⟩
def Fl.av (f : Fl) : AV := .agg [.str f.p, f.v]
def Fl.ok (f : Fl) : Prop := IsRd 1 (bytesOf f.d) f.v
def flLt (x y : Fl) : Bool := Op.bytesLess x.p y.p

theorem Fl.len {f : Fl} (h : f.ok) : lenSl f.v = some f.d.length := by
  have := IsRd.len h
  rwa [bytesOf_len] at this

end Go.Proofs.YtpgmohjmpaifbaaDoor.Im

/- S21Bd: the reference's tree of files. -/
set_option linter.unusedVariables false
set_option linter.unusedSimpArgs false
open Go Go.Im Go.Sort
namespace Go.Proofs.YtpgmohjmpaifbaaDoor.Im

theorem wrap64_tmod (x m : Int) (hm : 0 < m) : 0 ≤ (IntKind.u64.wrap x).tmod m ∧ (IntKind.u64.wrap x).tmod m < m := by
  have h : 0 ≤ IntKind.u64.wrap x := by
    have : IntKind.u64.wrap x = x % 18446744073709551616 := by simp [IntKind.wrap,IntKind.signed,IntKind.bits]
    rw [this]; omega
  rw [tmod_pos h]
  exact ⟨Int.emod_nonneg _ (by omega), Int.emod_lt_of_pos _ hm⟩

section
variable {n : Nat} {tot : Bool} {ω : Nat → Nat} {h : Hp}

def SrtF (gs : List Fl) : Prop := ∀ j k (hj : j < gs.length) (hk : k < gs.length), j < k → flLt gs[k] gs[j] = false

def partsL (d : By) : Nat → List Nat → List Pt
  | _, [] => []
  | at', k :: ks => ⟨shaR ((d.take (at' + k)).drop at'), (k : Nat)⟩ :: partsL d (at' + k) ks
def partsR (l m M : Int) (d : By) : List Pt := partsL d 0 (cutR l m M d)
theorem partsL_snoc (d : By) (k : Nat) : ∀ (ks : List Nat) (a : Nat), partsL d a (ks ++ [k]) = partsL d a ks ++ [⟨shaR ((d.take (a + ks.sum + k)).drop (a + ks.sum)), (k : Nat)⟩]
  | [], a => by simp [partsL]
  | x :: ks, a => by
    have := partsL_snoc d k ks (a + x)
    simp only [List.cons_append,partsL,this,List.sum_cons,Nat.add_assoc]
theorem partsL_len (d : By) : ∀ (ks : List Nat) (a : Nat), (partsL d a ks).length = ks.length
  | [], a => rfl
  | x :: ks, a => by simp [partsL,partsL_len d ks]
theorem shaR_len (s : By) : (shaR s).length = 32 := keyI_len _
theorem partsL_ok (d : By) : ∀ (ks : List Nat) (a : Nat), ∀ x ∈ partsL d a ks, x.ok
  | [], a, x, h => by cases h
  | k :: ks, a, x, h => by
    rcases List.mem_cons.1 h with rfl | h
    · exact shaR_len _
    · exact partsL_ok d ks _ x h

set_option maxHeartbeats 1000000 in
set_option maxRecDepth 100000 in
theorem c25 (c : AV) (l m M : Int) (d : By) (v : AV) (hc : Cf c l m M) (hm : 1 ≤ m) (hm2 : m ≤ 1000000000) (hd : IsRd 1 (bytesOf d) v) (hl : d.length ≤ 1000000) (hn : d.length + 300 < n) :
    ∃ v' h', call F n tot ω 25 [c, v] h = some (v', h') ∧ IsRd 33 ((partsR l m M d).map Pt.av) v' ∧ Below h.length h h' := by
  obtain ⟨n, rfl⟩ : ∃ m, n = m + 1 := ⟨n - 1, by omega⟩
  refine call_of (fn := a25) f25 (P := fun v' h' => IsRd 33 ((partsR l m M d).map Pt.av) v' ∧ Below h.length h h') ?_
  obtain ⟨cs, hcs, hcl, h8, h9, h10⟩ := hc.agg
  subst hcs
  have htk : List.take 12 cs = cs := List.take_of_length_le (by omega)
  obtain ⟨lv, h1, k52, hlv, hB1⟩ := c52 (n := n) (tot := tot) (ω := ω) (h := h) (.agg cs) l m M d hc hm hm2 (by omega) (by omega)
  obtain ⟨s1, s2, s3⟩ := cutR_sum l m M d
  unfold partsR
  have hel := rd_el hd
  have hsel : ∀ g, (match (some (AV.imm 1 (bytesOf d) .no) : Option AV) with | some v => elems g 1 v | none => none) = some (bytesOf d) := fun g => by simp [elems]
  generalize cutR l m M d = ks at *
  have hll := hlv.len
  rw [show (nsOf ks).length = ks.length by simp [nsOf]] at hll
  unfold a25
  simp (maxSteps := 2000000) (discharger := omega) only [xz,xc,xo,xr,x0,x2,xd,xe,kont_call,selems,Reg.isA,Reg.isV,Reg.stays,Reg.onto,↓reduceIte,reduceCtorEq,Nat.reduceEqDiff,Nat.reduceLT,Nat.reduceAdd,nat_le_t,hcl,htk,hel,k52]
  refine wpi_loop (fun x r g => ∃ (i : Nat) (ov : AV), r = [(1, .val v), (5, .val ov), (6, .val lv), (7, .val (.int .i64 ((ks.take i).sum : Nat))), (8, .val (.int .i64 i))] ∧ x = ks.length - i ∧ i ≤ ks.length ∧ LateApp h.length 33 ((partsL d 0 (ks.take i)).map Pt.av) g ov ∧ Below h.length h g) ks.length (by omega)
    ⟨0, .nils, rfl, rfl, Nat.zero_le _, late_nils _ _ _, hB1⟩ ?_
  rintro x r g ⟨i, ov, rfl, rfl, hi, hA, hB⟩
  by_cases hlt : i < ks.length
  · have hk1 := s2 _ (List.getElem_mem hlt)
    have hsum : (ks.take i).sum + ks[i] ≤ d.length := by
      have e : (ks.take (i + 1)).sum + (ks.drop (i + 1)).sum = ks.sum := by rw [← List.sum_append_nat, List.take_append_drop]
      rw [List.take_succ_eq_append_getElem hlt, List.sum_append_nat] at e
      simp at e; omega
    obtain ⟨cl, rfl⟩ := hlv.imm (i := i) (by simpa [nsOf] using hlt)
    obtain ⟨cv, rfl⟩ := hd.imm (i := 0) (by rw [bytesOf_len]; omega)
    have q1 : (nsOf ks)[i]? = some (.int .i64 (ks[i] : Nat)) := by simp [nsOf,hlt]
    have hsn := partsL_snoc d ks[i] (ks.take i) 0
    rw [Nat.zero_add, ← List.take_succ_eq_append_getElem hlt] at hsn
    have htl : (ks.take (i + 1)).sum = (ks.take i).sum + ks[i] := by rw [List.take_succ_eq_append_getElem hlt, List.sum_append_nat]; simp
    have hpl := partsL_len d (ks.take i) 0
    rw [List.length_take] at hpl
    generalize (ks.take i).sum = a at *
    generalize ks[i] = k at *
    have e1 : ((a : Nat) : Int) + ((k : Nat) : Int) = ((a + k : Nat) : Int) := by omega
    obtain ⟨h2, k53, hB2⟩ := c53 (n := n) (tot := tot) (ω := ω) (h := g) ((d.take (a + k)).drop a) (by simp; omega) (by simp; omega)
    have sl := shaR_len ((d.take (a + k)).drop a)
    generalize hX : shaR ((d.take (a + k)).drop a) = X at *
    have x1' : (intsOf .u8 X).length = 32 := by rw [io_len', sl]
    have x2' : ∀ z, List.take 32 (intsOf .u8 X ++ [z]) = intsOf .u8 X := fun z => by rw [List.take_append_of_le_length (by omega), List.take_of_length_le (by omega)]
    have x3' : ∀ z, List.drop 33 (intsOf .u8 X ++ [z]) = [] := fun z => List.drop_of_length_le (by simp [x1'])
    obtain ⟨v', h3, w1, w2, w3⟩ := late_app (bytes := 40) (xs := [.agg (intsOf .u8 X ++ [.int .i64 (k : Nat)])]) (hA.belw (lo' := 0) hB2) (by have := hB.1; have := hB2.1; omega) (by simp) (by simp [hpl]; omega)
    simp (maxSteps := 2000000) (discharger := omega) only [xz,xc,xo,xr,x0,x1,x2,x3,x4,x5,xd,xe,xb,kont_call,slOk,sliceV,selems,srcElems,place,partVals,partEs,placeEs,Reg.isA,Reg.isV,Reg.stays,Reg.onto,↓reduceIte,Nat.reduceEqDiff,Nat.reduceLT,Nat.reduceAdd,Nat.zero_lt_succ,Option.getD_some,beq_self_eq_true,List.set_cons_zero,wrap_i64,int_lt_t,int_le_t,nat_le_t,hll,q1,e1,w_regionA2,inOrd,List.filterMap_cons,List.filterMap_nil,Is,k53,x1',x2',x3',List.length_append,w1,hA.1.isRow,List.replicate]
    exact ⟨ks.length - (i + 1), by omega, i + 1, v', by rw [htl, show ((i : Nat) : Int) + 1 = ((i + 1 : Nat) : Int) by omega], rfl, by omega, by rw [hsn, List.map_append]; exact w2, hB.trans ((hB2.low hB.1).trans w3)⟩
  · obtain rfl : i = ks.length := by omega
    rw [List.take_length] at hA
    simp (maxSteps := 2000000) (discharger := omega) only [xz,xc,xo,xr,x0,x1,x4,xd,Reg.isA,Reg.isV,Reg.stays,Reg.onto,↓reduceIte,Nat.reduceEqDiff,Nat.reduceLT,exists_eq_left',int_lt_f,Nat.sub_self,hll]
    exact ⟨isRd_app hA.1, hB⟩

theorem partsR_len (l m M : Int) (d : By) : (partsR l m M d).length ≤ d.length := by
  unfold partsR
  rw [partsL_len]; exact (cutR_sum l m M d).2.2

end
end Go.Proofs.YtpgmohjmpaifbaaDoor.Im

/- S21Ct: tree.cut. -/
set_option linter.unusedVariables false
set_option linter.unusedSimpArgs false
open Go Go.Im
namespace Go.Proofs.YtpgmohjmpaifbaaDoor.Im

def hdC : AC := (.region [] [⟨some 12, AOp.mov (AX.t 18), none⟩] [6, 7, 10, 12])
def bdC : AC := (.block 1 (.seq (.region [] [⟨some 19, AOp.mov (AX.t 12), none⟩, ⟨some 20, AOp.bytesToStr (AX.t 19), none⟩, ⟨some 21, AOp.litS false 1 (AV.str []) 1 [(0, AX.t 20)], none⟩, ⟨some 22, AOp.call 22 [AX.t 21], none⟩, ⟨some 13, AOp.allocL (AV.agg [AV.int (IntKind.u8) 0, AV.int (IntKind.u8) 0, AV.int (IntKind.u8) 0, AV.int (IntKind.u8) 0, AV.int (IntKind.u8) 0, AV.int (IntKind.u8) 0, AV.int (IntKind.u8) 0, AV.int (IntKind.u8) 0, AV.int (IntKind.u8) 0, AV.int (IntKind.u8) 0, AV.int (IntKind.u8) 0, AV.int (IntKind.u8) 0, AV.int (IntKind.u8) 0, AV.int (IntKind.u8) 0, AV.int (IntKind.u8) 0, AV.int (IntKind.u8) 0, AV.int (IntKind.u8) 0, AV.int (IntKind.u8) 0, AV.int (IntKind.u8) 0, AV.int (IntKind.u8) 0, AV.int (IntKind.u8) 0, AV.int (IntKind.u8) 0, AV.int (IntKind.u8) 0, AV.int (IntKind.u8) 0, AV.int (IntKind.u8) 0, AV.int (IntKind.u8) 0, AV.int (IntKind.u8) 0, AV.int (IntKind.u8) 0, AV.int (IntKind.u8) 0, AV.int (IntKind.u8) 0, AV.int (IntKind.u8) 0, AV.int (IntKind.u8) 0]), none⟩, ⟨none, AOp.store 32 (AX.t 13) (AX.t 22), none⟩] [6, 7, 10, 12, 13]) (.seq (.region [] [⟨some 23, AOp.load false 1 (AX.t 10), none⟩, ⟨some 24, AOp.loadL true 32 (AX.t 13), none⟩, ⟨some 25, AOp.mov (AX.t 12), none⟩, ⟨some 26, AOp.lenS (AX.t 25), none⟩, ⟨some 27, AOp.lit [AV.int (IntKind.u8) 0, AV.int (IntKind.u8) 0, AV.int (IntKind.u8) 0, AV.int (IntKind.u8) 0, AV.int (IntKind.u8) 0, AV.int (IntKind.u8) 0, AV.int (IntKind.u8) 0, AV.int (IntKind.u8) 0, AV.int (IntKind.u8) 0, AV.int (IntKind.u8) 0, AV.int (IntKind.u8) 0, AV.int (IntKind.u8) 0, AV.int (IntKind.u8) 0, AV.int (IntKind.u8) 0, AV.int (IntKind.u8) 0, AV.int (IntKind.u8) 0, AV.int (IntKind.u8) 0, AV.int (IntKind.u8) 0, AV.int (IntKind.u8) 0, AV.int (IntKind.u8) 0, AV.int (IntKind.u8) 0, AV.int (IntKind.u8) 0, AV.int (IntKind.u8) 0, AV.int (IntKind.u8) 0, AV.int (IntKind.u8) 0, AV.int (IntKind.u8) 0, AV.int (IntKind.u8) 0, AV.int (IntKind.u8) 0, AV.int (IntKind.u8) 0, AV.int (IntKind.u8) 0, AV.int (IntKind.u8) 0, AV.int (IntKind.u8) 0, AV.int (IntKind.i64) 0] [(0, 32, AX.t 24), (32, 1, AX.t 26)], none⟩, ⟨some 28, AOp.litS false 33 (AV.agg [AV.int (IntKind.u8) 0, AV.int (IntKind.u8) 0, AV.int (IntKind.u8) 0, AV.int (IntKind.u8) 0, AV.int (IntKind.u8) 0, AV.int (IntKind.u8) 0, AV.int (IntKind.u8) 0, AV.int (IntKind.u8) 0, AV.int (IntKind.u8) 0, AV.int (IntKind.u8) 0, AV.int (IntKind.u8) 0, AV.int (IntKind.u8) 0, AV.int (IntKind.u8) 0, AV.int (IntKind.u8) 0, AV.int (IntKind.u8) 0, AV.int (IntKind.u8) 0, AV.int (IntKind.u8) 0, AV.int (IntKind.u8) 0, AV.int (IntKind.u8) 0, AV.int (IntKind.u8) 0, AV.int (IntKind.u8) 0, AV.int (IntKind.u8) 0, AV.int (IntKind.u8) 0, AV.int (IntKind.u8) 0, AV.int (IntKind.u8) 0, AV.int (IntKind.u8) 0, AV.int (IntKind.u8) 0, AV.int (IntKind.u8) 0, AV.int (IntKind.u8) 0, AV.int (IntKind.u8) 0, AV.int (IntKind.u8) 0, AV.int (IntKind.u8) 0, AV.int (IntKind.i64) 0]) 1 [(0, AX.t 27)], none⟩, ⟨some 29, AOp.append true false 33 40 (AX.t 23) (AX.t 28), none⟩, ⟨none, AOp.store 1 (AX.t 10) (AX.t 29), none⟩] [6, 7, 12, 13]) (.seq (.region [] [⟨some 30, AOp.load false 1 (AX.t 6), none⟩, ⟨some 31, AOp.loadL true 32 (AX.t 13), none⟩, ⟨some 32, AOp.lookup true [CK.i, CK.i, CK.i, CK.i, CK.i, CK.i, CK.i, CK.i, CK.i, CK.i, CK.i, CK.i, CK.i, CK.i, CK.i, CK.i, CK.i, CK.i, CK.i, CK.i, CK.i, CK.i, CK.i, CK.i, CK.i, CK.i, CK.i, CK.i, CK.i, CK.i, CK.i, CK.i] (AV.bool false) false (AX.t 30) (AX.t 31), none⟩, ⟨some 33, AOp.un (UnOp.not) (AX.t 32), none⟩] [6, 7, 12, 13, 33]) (.cond (AX.t 33) (.seq (.region [] [⟨some 34, AOp.load false 1 (AX.t 6), none⟩, ⟨some 35, AOp.loadL true 32 (AX.t 13), none⟩, ⟨none, AOp.mapUpd true [CK.i, CK.i, CK.i, CK.i, CK.i, CK.i, CK.i, CK.i, CK.i, CK.i, CK.i, CK.i, CK.i, CK.i, CK.i, CK.i, CK.i, CK.i, CK.i, CK.i, CK.i, CK.i, CK.i, CK.i, CK.i, CK.i, CK.i, CK.i, CK.i, CK.i, CK.i, CK.i] (AX.t 34) (AX.t 35) (AX.c (AV.bool true)), none⟩] [7, 12, 13]) (.regionA [[1, 2, 3, 0, 4, 5, 6, 7], [0, 1, 2, 3, 4, 5, 6, 7]] [⟨some 36, AOp.load false 1 (AX.t 7), none⟩, ⟨some 37, AOp.loadL true 32 (AX.t 13), none⟩, ⟨some 38, AOp.mov (AX.t 12), none⟩, ⟨some 39, AOp.call 80 [AX.t 38], none⟩, ⟨some 40, AOp.lit [AV.int (IntKind.u8) 0, AV.int (IntKind.u8) 0, AV.int (IntKind.u8) 0, AV.int (IntKind.u8) 0, AV.int (IntKind.u8) 0, AV.int (IntKind.u8) 0, AV.int (IntKind.u8) 0, AV.int (IntKind.u8) 0, AV.int (IntKind.u8) 0, AV.int (IntKind.u8) 0, AV.int (IntKind.u8) 0, AV.int (IntKind.u8) 0, AV.int (IntKind.u8) 0, AV.int (IntKind.u8) 0, AV.int (IntKind.u8) 0, AV.int (IntKind.u8) 0, AV.int (IntKind.u8) 0, AV.int (IntKind.u8) 0, AV.int (IntKind.u8) 0, AV.int (IntKind.u8) 0, AV.int (IntKind.u8) 0, AV.int (IntKind.u8) 0, AV.int (IntKind.u8) 0, AV.int (IntKind.u8) 0, AV.int (IntKind.u8) 0, AV.int (IntKind.u8) 0, AV.int (IntKind.u8) 0, AV.int (IntKind.u8) 0, AV.int (IntKind.u8) 0, AV.int (IntKind.u8) 0, AV.int (IntKind.u8) 0, AV.int (IntKind.u8) 0, AV.nils] [(0, 32, AX.t 37), (32, 1, AX.t 39)], none⟩, ⟨some 41, AOp.litS false 33 (AV.agg [AV.int (IntKind.u8) 0, AV.int (IntKind.u8) 0, AV.int (IntKind.u8) 0, AV.int (IntKind.u8) 0, AV.int (IntKind.u8) 0, AV.int (IntKind.u8) 0, AV.int (IntKind.u8) 0, AV.int (IntKind.u8) 0, AV.int (IntKind.u8) 0, AV.int (IntKind.u8) 0, AV.int (IntKind.u8) 0, AV.int (IntKind.u8) 0, AV.int (IntKind.u8) 0, AV.int (IntKind.u8) 0, AV.int (IntKind.u8) 0, AV.int (IntKind.u8) 0, AV.int (IntKind.u8) 0, AV.int (IntKind.u8) 0, AV.int (IntKind.u8) 0, AV.int (IntKind.u8) 0, AV.int (IntKind.u8) 0, AV.int (IntKind.u8) 0, AV.int (IntKind.u8) 0, AV.int (IntKind.u8) 0, AV.int (IntKind.u8) 0, AV.int (IntKind.u8) 0, AV.int (IntKind.u8) 0, AV.int (IntKind.u8) 0, AV.int (IntKind.u8) 0, AV.int (IntKind.u8) 0, AV.int (IntKind.u8) 0, AV.int (IntKind.u8) 0, AV.nils]) 1 [(0, AX.t 40)], none⟩, ⟨some 42, AOp.append true false 33 56 (AX.t 36) (AX.t 41), none⟩, ⟨none, AOp.store 1 (AX.t 7) (AX.t 42), none⟩] [])) AC.skip)))))

/-! ### keys -/
abbrev Ky := {k : List Int // k.length = 32}
def kA (k : Ky) : AV := .agg (intsOf .u8 k.1)
def keyOf (p : By) : Ky := ⟨shaR p, shaR_len p⟩
theorem eqCells_k : ∀ (a b : List Int), a.length = b.length → eqCells (List.replicate a.length .i) (intsOf .u8 a) (intsOf .u8 b) = some (decide (a = b))
  | [], [], _ => rfl
  | x :: a, y :: b, h => by
    have ih := eqCells_k a b (by simpa using h)
    simp only [intsOf,List.map_cons,List.length_cons,List.replicate_succ,eqCells,eqS,if_true] at ih ⊢
    rw [ih]
    by_cases e1 : x = y <;> by_cases e2 : a = b <;> simp [e1,e2]
  | [], _ :: _, h => by simp at h
  | _ :: _, [], h => by simp at h
theorem keyCells_k : ∀ (a : List Int), keyCells (List.replicate a.length .i) (intsOf .u8 a) = true
  | [] => rfl
  | x :: a => by
    have ih := keyCells_k a
    simpa only [intsOf, List.map_cons, List.length_cons, List.replicate_succ, keyCells] using ih
theorem kaEnc {ks : List CK} (h : ks = List.replicate 32 .i) : KeyEnc true ks kA := by
  subst h
  refine ⟨fun a b => ?_, fun a => ?_⟩
  · have := eqCells_k a.1 b.1 (by rw [a.2, b.2])
    rw [a.2] at this
    simp only [eqAV,kA,if_true,this]
    by_cases e : a = b
    · subst e; simp
    · have : a.1 ≠ b.1 := fun x => e (Subtype.ext x)
      simp [e,this]
  · have := keyCells_k a.1
    rw [a.2] at this
    simp only [keyOk,kA,this,Bool.and_self]

def ptB (p : By) : Pt := ⟨shaR p, (p.length : Nat)⟩
theorem ptB_av (p : By) : (ptB p).av = .agg (intsOf .u8 (shaR p) ++ [.int .i64 (p.length : Nat)]) := rfl

def CE : List By → List AV → Prop
  | [], [] => True
  | p :: ps, v :: vs => (∃ c, v = .agg (intsOf .u8 (shaR p) ++ [.imm 1 (bytesOf p) c])) ∧ CE ps vs
  | _, _ => False
theorem CE.app : ∀ {ps : List By} {vs : List AV} {p : By} {v : AV}, CE ps vs → (∃ c, v = .agg (intsOf .u8 (shaR p) ++ [.imm 1 (bytesOf p) c])) → CE (ps ++ [p]) (vs ++ [v])
  | [], [], _, _, _, h => ⟨h, trivial⟩
  | _ :: _, _ :: _, _, _, h, h2 => ⟨h.1, CE.app h.2 h2⟩
  | [], _ :: _, _, _, h, _ => h.elim
  | _ :: _, [], _, _, h, _ => h.elim
theorem CE.len : ∀ {ps : List By} {vs : List AV}, CE ps vs → vs.length = ps.length
  | [], [], _ => rfl
  | _ :: _, _ :: _, h => by simp [CE.len h.2]
  | [], _ :: _, h => h.elim
  | _ :: _, [], h => h.elim
theorem CE.get : ∀ {ps : List By} {vs : List AV} {i : Nat} (hi : i < ps.length), CE ps vs → ∃ c, vs[i]? = some (.agg (intsOf .u8 (shaR ps[i]) ++ [.imm 1 (bytesOf ps[i]) c]))
  | _ :: _, v :: _, 0, _, h => by obtain ⟨c, rfl⟩ := h.1; exact ⟨c, rfl⟩
  | _ :: ps, _ :: _, i + 1, hi, h => by obtain ⟨c, e⟩ := CE.get (i := i) (by simpa using hi) h.2; exact ⟨c, by simpa using e⟩
  | [], [], _, hi, _ => by simp at hi
  | [], _ :: _, _, hi, _ => by simp at hi
  | _ :: _, [], _, _, h => h.elim

def addU (P : List By) (p : By) : List By := if keyOf p ∈ P.map keyOf then P else P ++ [p]
def uniq (P : List By) (l : List By) : List By := l.foldl addU P

theorem uniq_len : ∀ (l P : List By), (uniq P l).length ≤ P.length + l.length
  | [], P => by simp [uniq]
  | p :: l, P => by
    have := uniq_len l (addU P p)
    have h2 : (addU P p).length ≤ P.length + 1 := by unfold addU; split <;> simp
    show (uniq (addU P p) l).length ≤ _
    simp only [List.length_cons]; omega

def rC (H : Nat) : Regs := [(6, .val (.ptr H 1 0 0)), (7, .val (.ptr (H + 1) 1 0 0)), (10, .val (.ptr (H + 2) 1 0 0)), (16, .val (.fn (.func 104) [] [.ptr (H + 3) 12 0 0, .ptr (H + 4) 1 0 0]))]

structure CutJ (h : Hp) (H mid : Nat) (tk0 : Option Nat) (ps P0 : List By) (k : Nat) (g : Hp) : Prop where
  lp : g[H + 5]? = some (.loop (rC H) [17, 18] hdC bdC 0 none)
  c0 : g[H]? = some (.row 1 [.mp mid])
  low : mid < H ∧ H + 5 < g.length
  fr : ∀ i, i < H → i ≠ mid → tk0 ≠ some i → g[i]? = h[i]?
  ex : ∃ av pv pes T c t1 t2, g[H + 1]? = some (.row 1 [pv]) ∧ g[H + 2]? = some (.row 1 [av]) ∧ TokAt 33 ((ps.take k).map fun p => (ptB p).av) g av t1 ∧ CE (uniq P0 (ps.take k)) pes ∧ TokAt 33 pes g pv t2 ∧
    g[mid]? = some (.map (encE kA AV.bool T) c) ∧ (∀ q, tget T q = if q ∈ (uniq P0 (ps.take k)).map keyOf then some true else none) ∧
    (∀ x, t1 = some x → H + 5 < x ∧ x < g.length) ∧ (∀ x, t2 = some x → (t2 = tk0 ∧ x < H ∧ x ≠ mid ∨ H + 5 < x) ∧ x < g.length) ∧ ∀ x, t2 = some x → t1 ≠ some x

section
variable {n : Nat} {tot : Bool} {ω : Nat → Nat} {h : Hp}

theorem upd_imm {v : AV} (hv : v.one = true) (sz : Nat) (es : List AV) (c : Cap) : upd v 0 (.imm sz es c) = some (.imm sz es c) := by
  cases v <;> first | rfl | cases hv

theorem c80 (p : By) (c : Cap) (hp : p ≠ []) (hl : p.length ≤ 1000000000) (hn : 0 < n) : call F n tot ω 80 [.imm 1 (bytesOf p) c] h = some (.imm 1 (bytesOf p) (.tok h.length p.length), h ++ [.tail 1 p.length]) := by
  obtain ⟨n, rfl⟩ : ∃ m, n = m + 1 := ⟨n - 1, by omega⟩
  refine call_eq (fn := a80) f80 ?_
  unfold a80
  have h1 : bytesOf p ≠ [] := by intro e; have := congrArg List.length e; rw [bytesOf_len] at this; exact hp (List.length_eq_zero_iff.1 this)
  simp (maxSteps := 2000000) (discharger := omega) only [xz,xc,xo,xr,x0,x2,x3,x5,xd,xe,xb,isNil,selems,srcElems,partEs,placeEs,Bool.bne_false,Reg.isA,Reg.isV,Reg.stays,Reg.onto,↓reduceIte,reduceCtorEq,Nat.reduceEqDiff,Nat.reduceLT,exists_eq_left',nat_le_t,appendV,Im.newRow,h1,List.replicate]

theorem rd_ct (H mid : Nat) (tk0 : Option Nat) (ps P0 : List By) (k : Nat) (g : Hp) (c : Cap) (at' : Int) (hk : k < ps.length) (hne : ps[k] ≠ []) (hpl : ps[k].length ≤ 1000000) (hps : ps.length ≤ 1000000) (hP0 : P0.length ≤ 100000000) (J : CutJ h H mid tk0 ps P0 k g) (hn : ps[k].length + 300 < n) :
    ∃ g', round F (n + 1) tot ω (H + 5) [.int .i64 at', .imm 1 (bytesOf ps[k]) c] g = some (.bool true, g') ∧ CutJ h H mid tk0 ps P0 (k + 1) g' := by
  obtain ⟨lp, c0, ⟨lw1, lw2⟩, fr, av, pv, pes, T, cl, t1, t2, j1, j2, j3, j4, j5, j6, j7, j8, j9, j10⟩ := J
  suffices hx : ∃ v g', round F (n + 1) tot ω (H + 5) [.int .i64 at', .imm 1 (bytesOf ps[k]) c] g = some (v, g') ∧ v = .bool true ∧ CutJ h H mid tk0 ps P0 (k + 1) g' by
    obtain ⟨v, g', e1, rfl, e2⟩ := hx
    exact ⟨g', e1, e2⟩
  refine round_of (P := fun v g' => v = .bool true ∧ CutJ h H mid tk0 ps P0 (k + 1) g') lp rfl ?_
  have e : putArgs (rC H) [17, 18] [.int .i64 at', .imm 1 (bytesOf ps[k]) c] = [(6, .val (.ptr H 1 0 0)), (7, .val (.ptr (H + 1) 1 0 0)), (10, .val (.ptr (H + 2) 1 0 0)), (16, .val (.fn (.func 104) [] [.ptr (H + 3) 12 0 0, .ptr (H + 4) 1 0 0])), (17, .val (.int .i64 at')), (18, .val (.imm 1 (bytesOf ps[k]) c))] := rfl
  rw [e]
  unfold hdC
  simp (maxSteps := 2000000) (discharger := omega) only [xz,xc,xo,xr,x0,Reg.isA,Reg.isV,Reg.stays,Reg.onto,↓reduceIte,Nat.reduceEqDiff,Nat.reduceLT]
  refine ⟨rfl, rC H, [17, 18], hdC, bdC, none, lp, ?_⟩
  have hLl : H + 5 < g.length := lw2
  generalize hg0 : g.set (H + 5) (.loop (rC H) [17, 18] hdC bdC 1 none) = g0
  have n0 : ∀ j, j ≠ H + 5 → g0[j]? = g[j]? := fun j hj => by rw [← hg0, List.getElem?_set_ne (Ne.symm hj)]
  have l0 : g0.length = g.length := by rw [← hg0]; simp
  generalize hp : ps[k] = p at *
  obtain ⟨g1, k22, hB1⟩ := c22 (n := n) (tot := tot) (ω := ω) (h := g0) p .full (by omega) (by omega)
  have sl := shaR_len p
  have x1' : (intsOf .u8 (shaR p)).length = 32 := by rw [io_len', sl]
  have x2' : List.take 32 (intsOf .u8 (shaR p)) = intsOf .u8 (shaR p) := List.take_of_length_le (by omega)
  have z32 : (AV.agg [AV.int .u8 0, AV.int .u8 0, AV.int .u8 0, AV.int .u8 0, AV.int .u8 0, AV.int .u8 0, AV.int .u8 0, AV.int .u8 0, AV.int .u8 0, AV.int .u8 0, AV.int .u8 0, AV.int .u8 0, AV.int .u8 0, AV.int .u8 0, AV.int .u8 0, AV.int .u8 0, AV.int .u8 0, AV.int .u8 0, AV.int .u8 0, AV.int .u8 0, AV.int .u8 0, AV.int .u8 0, AV.int .u8 0, AV.int .u8 0, AV.int .u8 0, AV.int .u8 0, AV.int .u8 0, AV.int .u8 0, AV.int .u8 0, AV.int .u8 0, AV.int .u8 0, AV.int .u8 0] : AV) = .agg (intsOf .u8 Z32R) := rfl
  have hz : Z32R.length = 32 := rfl
  have hd : List.drop 32 (intsOf .u8 Z32R) = [] := rfl
  have tb : toBytes (bytesOf p) = some p := toBytes_bytesOf p
  -- behind the digest
  have n1 : ∀ j, j ≠ H + 5 → j < g.length → g1[j]? = g[j]? := fun j hj hl => by rw [hB1.2 j (by omega), n0 j hj]
  have l1 : g.length ≤ g1.length := by have := hB1.1; omega
  have a1 : g1[H + 2]? = some (.row 1 [av]) := by rw [n1 _ (by omega) (by omega)]; exact j2
  have T1 : TokAt 33 ((ps.take k).map fun p => (ptB p).av) g1 av t1 := j3.keep fun j o hj ho => by
    have := j8 j hj
    rw [n1 _ (by omega) (by omega)]; exact ho
  have hlk : ((ps.take k).map fun p => (ptB p).av).length = k := by simp; omega
  obtain ⟨av', g2, w1, w2, w3, w4, cav, w5⟩ := tok_app (bytes := 40) (xs := [.agg (intsOf .u8 (shaR p) ++ [.int .i64 (p.length : Nat)])]) T1 (by simp) (by rw [hlk]; simp; omega)
  rw [hlk] at *
  have n2 : ∀ j, j ≠ H + 5 → j < g.length → t1 ≠ some j → g2[j]? = g[j]? := fun j hj hl ht => by
    have e1 : g[j]? = some g[j] := List.getElem?_eq_getElem hl
    rw [e1, w4 j g[j] (by rw [n1 j hj hl]; exact e1) ht]
  have t1n : ∀ j, j ≤ H + 5 → t1 ≠ some j := fun j hj e => by have := j8 j e; omega
  have a2 : g2[H + 2]? = some (.row 1 [av]) := by rw [n2 _ (by omega) (by omega) (t1n _ (by omega))]; exact j2
  have a2l := (List.getElem?_eq_some_iff.1 a2).1
  generalize hg3 : g2.set (H + 2) (.row 1 [av']) = g3
  have l3 : g3.length = g2.length := by rw [← hg3]; simp
  have n3 : ∀ j, j ≠ H + 5 → j ≠ H + 2 → j < g.length → t1 ≠ some j → g3[j]? = g[j]? := fun j hj hj2 hl ht => by
    rw [← hg3, List.getElem?_set_ne (Ne.symm hj2)]; exact n2 j hj hl ht
  have b3 : g3[H]? = some (.row 1 [.mp mid]) := by rw [n3 _ (by omega) (by omega) (by omega) (t1n _ (by omega))]; exact c0
  have b3m : g3[mid]? = some (.map (encE kA AV.bool T) cl) := by rw [n3 _ (by omega) (by omega) (by omega) (t1n _ (by omega))]; exact j6
  have b3p : g3[H + 1]? = some (.row 1 [pv]) := by rw [n3 _ (by omega) (by omega) (by omega) (t1n _ (by omega))]; exact j1
  have T3 : TokAt 33 (((ps.take k).map fun p => (ptB p).av) ++ [.agg (intsOf .u8 (shaR p) ++ [.int .i64 (p.length : Nat)])]) g3 av' (some g1.length) := w2.keep fun j o hj ho => by
    cases hj; rw [← hg3, List.getElem?_set_ne (by omega)]; exact ho
  have P3 : TokAt 33 pes g3 pv t2 := j5.keep fun j o hj ho => by
    have := j9 j hj
    rw [n3 _ (by omega) (by omega) (by omega) (j10 j hj)]; exact ho
  have a3 : g3[H + 2]? = some (.row 1 [av']) := by rw [← hg3]; exact get_set_self a2l
  have m3 : g3[H + 5]? = some (.loop (rC H) [17, 18] hdC bdC 1 none) := by
    have e0 : g0[H + 5]? = some (.loop (rC H) [17, 18] hdC bdC 1 none) := by rw [← hg0]; exact get_set_self hLl
    rw [← hg3, List.getElem?_set_ne (by omega)]
    exact w4 _ _ (by rw [hB1.2 _ (by omega)]; exact e0) (t1n _ (by omega))
  subst w5
  have huav := upd_imm (rd_one (isRd_app j3.1))
  have hupv := upd_imm (rd_one (isRd_app j5.1))
  have hsav := rd_sub (isRd_app j3.1) 1
  have hspv := rd_sub (isRd_app j5.1) 1
  have z33 : ∀ z : AV, List.drop 33 (intsOf .u8 (shaR p) ++ [z]) = [] := fun z => List.drop_of_length_le (by simp [x1'])
  have x3' : ∀ z : AV, List.take 32 (intsOf .u8 (shaR p) ++ [z]) = intsOf .u8 (shaR p) := fun z => by rw [List.take_append_of_le_length (by omega), x2']
  have ptk : ((ps.take (k + 1)).map fun p => (ptB p).av) = ((ps.take k).map fun p => (ptB p).av) ++ [.agg (intsOf .u8 (shaR p) ++ [.int .i64 (p.length : Nat)])] := by
    rw [List.take_succ_eq_append_getElem hk, List.map_append, hp]; rfl
  have huq : uniq P0 (ps.take (k + 1)) = addU (uniq P0 (ps.take k)) p := by
    unfold uniq; rw [List.take_succ_eq_append_getElem hk, List.foldl_append, hp]; rfl
  have hK := kaEnc (ks := List.replicate 32 .i) rfl
  have hko := hK.ok (keyOf p)
  have hkk : kA (keyOf p) = .agg (intsOf .u8 (shaR p)) := rfl
  simp only [List.replicate] at hK hko
  rw [hkk] at hko
  simp only [keyOk,Bool.true_and] at hko
  have hT := j7 (keyOf p)
  unfold bdC
  rw [z32]
  cases htg : tget T (keyOf p) with
  | some b =>
    have hmem : keyOf p ∈ (uniq P0 (ps.take k)).map keyOf := by
      by_cases e : keyOf p ∈ (uniq P0 (ps.take k)).map keyOf
      · exact e
      · rw [htg, if_neg e] at hT; cases hT
    have hb : b = true := by rw [htg, if_pos hmem] at hT; cases hT; rfl
    subst hb
    obtain ⟨jf, hf, _⟩ := findK_yes (ev := AV.bool) hK 0 htg
    rw [hkk] at hf
    simp (maxSteps := 2000000) (discharger := omega) only [xz,xc,xo,xr,x0,x2,x3,x4,x5,xd,xe,xb,kont_call,selems,srcElems,wr,place,partVals,partEs,placeEs,mapOf,keyOk,Reg.isA,Reg.isV,Reg.stays,Reg.onto,↓reduceIte,Nat.reduceEqDiff,Nat.reduceLT,Nat.reduceAdd,Nat.zero_lt_succ,xu,List.set_cons_zero,nat_le_t,tb,k22,List.replicate,hz,sl,x2',x3',z33,hd,a1,hsav,List.length_append,w1,T1.1.isRow,a2,hg3,b3,hko,b3m,hf,huav]
    refine ⟨rC H, [17, 18], hdC, bdC, 1, none, m3, rfl, ?_⟩
    have m3l := (List.getElem?_eq_some_iff.1 m3).1
    have s3 : ∀ j, j ≠ H + 5 → (g3.set (H + 5) (.loop (rC H) [17, 18] hdC bdC 0 none))[j]? = g3[j]? := fun j hj => by rw [List.getElem?_set_ne (Ne.symm hj)]
    show CutJ h H mid tk0 ps P0 (k + 1) (g3.set (H + 5) (.loop (rC H) [17, 18] hdC bdC 0 none))
    refine ⟨get_set_self m3l, by rw [s3 _ (by omega)]; exact b3, ⟨lw1, by simp; omega⟩, fun j hj h1 h2 => ?_, _, pv, pes, T, cl, some g1.length, t2, by rw [s3 _ (by omega)]; exact b3p, by rw [s3 _ (by omega)]; exact a3, ?_, ?_, ?_, ?_, ?_, fun x hx => ?_, fun x hx => ?_, fun x hx e => ?_⟩
    · rw [s3 _ (by omega), n3 _ (by omega) (by omega) (by omega) (t1n _ (by omega))]; exact fr j hj h1 h2
    · rw [ptk]; exact T3.keep fun j o hj ho => by cases hj; rw [s3 _ (by omega)]; exact ho
    · rw [huq]; unfold addU; rw [if_pos hmem]; exact j4
    · exact P3.keep fun j o hj ho => by have := j9 j hj; rw [s3 _ (by omega)]; exact ho
    · rw [s3 _ (by omega)]; exact b3m
    · rw [huq]; unfold addU; rw [if_pos hmem]; exact j7
    · cases hx; simp; omega
    · have := j9 x hx; exact ⟨this.1, by simp; omega⟩
    · cases e; have := j9 _ hx; omega
  | none =>
    have hnm : keyOf p ∉ (uniq P0 (ps.take k)).map keyOf := fun e => by rw [htg, if_pos e] at hT; cases hT
    have hf := findK_no (ev := AV.bool) hK 0 htg
    rw [hkk] at hf
    have hbn : bytesOf p ≠ [] := by intro e; have := congrArg List.length e; rw [bytesOf_len] at this; exact hne (List.length_eq_zero_iff.1 this)
    have b3l := (List.getElem?_eq_some_iff.1 b3m).1
    generalize hg4 : g3.set mid (.map (encE kA AV.bool T ++ [(.agg (intsOf .u8 (shaR p)), .bool true, cl)]) (cl + 1)) = g4
    have l4 : g4.length = g3.length := by rw [← hg4]; simp
    have s4 : ∀ j, j ≠ mid → g4[j]? = g3[j]? := fun j hj => by rw [← hg4, List.getElem?_set_ne (Ne.symm hj)]
    have b4m : g4[mid]? = some (.map (encE kA AV.bool (T ++ [(keyOf p, true, cl)])) (cl + 1)) := by
      rw [← hg4, get_set_self b3l]; simp [encE]; exact hkk.symm
    have k80 : ∀ h, call F n tot ω 80 [.imm 1 (bytesOf p) c] h = some (.imm 1 (bytesOf p) (.tok h.length p.length), h ++ [.tail 1 p.length]) := fun h => c80 p c hne (by omega) (by omega)
    have b4p : g4[H + 1]? = some (.row 1 [pv]) := by rw [s4 _ (by omega)]; exact b3p
    have b4p' : (g4 ++ [AO.tail 1 p.length])[H + 1]? = some (.row 1 [pv]) := by rw [List.getElem?_append_left (by omega)]; exact b4p
    have P4 : TokAt 33 pes (g4 ++ [AO.tail 1 p.length]) pv t2 := P3.keep fun j o hj ho => by
      have := j9 j hj
      rw [List.getElem?_append_left (by omega), s4 _ (by omega)]; exact ho
    have hpel := j4.len
    have hul : (uniq P0 (ps.take k)).length ≤ P0.length + k := by
      have := uniq_len (ps.take k) P0
      rw [List.length_take] at this; omega
    obtain ⟨pv', g5, y1, y2, y3, y4, cy, y5⟩ := tok_app (bytes := 56) (xs := [.agg (intsOf .u8 (shaR p) ++ [.imm 1 (bytesOf p) (.tok g4.length p.length)])]) P4 (by simp) (by simp; omega)
    subst y5
    have t2n : t2 ≠ some (H + 1) := fun e => by have := j9 _ e; omega
    have b5p : g5[H + 1]? = some (.row 1 [pv]) := y4 _ _ b4p' t2n
    simp (maxSteps := 2000000) (discharger := omega) only [xz,xc,xo,xr,x0,x2,x3,x4,x5,xd,xe,xb,kont_call,selems,srcElems,wr,place,partVals,partEs,placeEs,mapOf,keyOk,Reg.isA,Reg.isV,Reg.stays,Reg.onto,↓reduceIte,Nat.reduceEqDiff,Nat.reduceLT,Nat.reduceAdd,Nat.zero_lt_succ,xu,List.set_cons_zero,nat_le_t,tb,k22,List.replicate,hz,sl,x2',x3',z33,hd,a1,hsav,List.length_append,w1,T1.1.isRow,a2,hg3,b3,hko,b3m,hf,huav,hupv,hg4,w_regionA2,inOrd,List.filterMap_cons,List.filterMap_nil,Is,k80,b4p,b4p',hspv,y1,P3.1.isRow,b5p]
    have l5 : g4.length + 1 < g5.length := by have := y3; simpa using this
    have b5l : H + 1 < g5.length := by omega
    have n5 : ∀ j, j ≠ H + 5 → j ≠ H + 2 → j ≠ mid → j < g.length → t1 ≠ some j → t2 ≠ some j → g5[j]? = g[j]? := fun j hj hj2 hjm hl ht ht2 => by
      have e1 : g[j]? = some g[j] := List.getElem?_eq_getElem hl
      rw [e1, y4 j g[j] (by rw [List.getElem?_append_left (by omega), s4 _ hjm, n3 j hj hj2 hl ht]; exact e1) ht2]
    have t2n' : ∀ j, H ≤ j → j ≤ H + 5 → t2 ≠ some j := fun j h1 h2 e => by have := j9 _ e; omega
    have t2m : t2 ≠ some mid := fun e => by have := j9 _ e; omega
    have b5 : ∀ j, H ≤ j → j ≤ H + 5 → g5[j]? = g3[j]? := fun j h1 h2 => by
      have hl : j < g3.length := by omega
      have e1 : g3[j]? = some g3[j] := List.getElem?_eq_getElem hl
      rw [e1, y4 j g3[j] (by rw [List.getElem?_append_left (by omega), s4 _ (by omega)]; exact e1) (t2n' j h1 h2)]
    have b5m : g5[mid]? = some (.map (encE kA AV.bool (T ++ [(keyOf p, true, cl)])) (cl + 1)) := y4 _ _ (by rw [List.getElem?_append_left (by omega)]; exact b4m) t2m
    generalize hg6 : g5.set (H + 1) (.row 1 [.imm 33 (pes ++ [.agg (intsOf .u8 (shaR p) ++ [.imm 1 (bytesOf p) (.tok g4.length p.length)])]) cy]) = g6
    have l6 : g6.length = g5.length := by rw [← hg6]; simp
    have s6 : ∀ j, j ≠ H + 1 → g6[j]? = g5[j]? := fun j hj => by rw [← hg6, List.getElem?_set_ne (Ne.symm hj)]
    have b6p : g6[H + 1]? = some (.row 1 [.imm 33 (pes ++ [.agg (intsOf .u8 (shaR p) ++ [.imm 1 (bytesOf p) (.tok g4.length p.length)])]) cy]) := by rw [← hg6]; exact get_set_self b5l
    have m6 : g6[H + 5]? = some (.loop (rC H) [17, 18] hdC bdC 1 none) := by rw [s6 _ (by omega), b5 _ (by omega) (by omega)]; exact m3
    refine ⟨rC H, [17, 18], hdC, bdC, 1, none, m6, rfl, ?_⟩
    show CutJ h H mid tk0 ps P0 (k + 1) (g6.set (H + 5) (.loop (rC H) [17, 18] hdC bdC 0 none))
    have m6l := (List.getElem?_eq_some_iff.1 m6).1
    have s7 : ∀ j, j ≠ H + 5 → (g6.set (H + 5) (.loop (rC H) [17, 18] hdC bdC 0 none))[j]? = g6[j]? := fun j hj => by rw [List.getElem?_set_ne (Ne.symm hj)]
    have hadd : addU (uniq P0 (ps.take k)) p = uniq P0 (ps.take k) ++ [p] := by unfold addU; rw [if_neg hnm]
    refine ⟨get_set_self m6l, by rw [s7 _ (by omega), s6 _ (by omega), b5 _ (by omega) (by omega)]; exact b3, ⟨lw1, by simp; omega⟩, fun j hj h1 h2 => ?_, _, _, pes ++ [.agg (intsOf .u8 (shaR p) ++ [.imm 1 (bytesOf p) (.tok g4.length p.length)])], T ++ [(keyOf p, true, cl)], cl + 1, some g1.length, some (g4.length + 1), by rw [s7 _ (by omega)]; exact b6p, by rw [s7 _ (by omega), s6 _ (by omega), b5 _ (by omega) (by omega)]; exact a3, ?_, ?_, ?_, ?_, fun q => ?_, fun x hx => ?_, fun x hx => ?_, fun x hx e => ?_⟩
    · by_cases ht2 : t2 = some j
      · exfalso
        have := j9 j ht2
        rcases this.1 with ⟨e, _⟩ | e
        · exact h2 (e ▸ ht2)
        · omega
      · rw [s7 _ (by omega), s6 _ (by omega), n5 _ (by omega) (by omega) h1 (by omega) (t1n _ (by omega)) ht2]; exact fr j hj h1 h2
    · rw [ptk]; exact T3.keep fun j o hj ho => by
        cases hj
        rw [s7 _ (by omega), s6 _ (by omega)]
        have hl : g1.length < g3.length := by omega
        exact y4 _ _ (by rw [List.getElem?_append_left (by omega), s4 _ (by omega)]; exact ho) (fun e => by have := j9 _ e; omega)
    · rw [huq, hadd]; exact j4.app ⟨_, rfl⟩
    · have : (g4 ++ [AO.tail 1 p.length]).length = g4.length + 1 := by simp
      rw [this] at y2
      exact y2.keep fun j o hj ho => by cases hj; rw [s7 _ (by omega), s6 _ (by omega)]; exact ho
    · rw [s7 _ (by omega), s6 _ (by omega)]; exact b5m
    · rw [huq, hadd, ← tput_new htg, tget_put]
      have := j7 q
      by_cases e : keyOf p = q
      · rw [if_pos e, if_pos (by rw [List.map_append]; simp [e])]
      · rw [if_neg e, this]
        by_cases e2 : q ∈ (uniq P0 (ps.take k)).map keyOf
        · rw [if_pos e2, if_pos (by rw [List.map_append]; exact List.mem_append.2 (.inl e2))]
        · rw [if_neg e2, if_neg]
          rw [List.map_append, List.mem_append]
          rintro (e3 | e3)
          · exact e2 e3
          · simp at e3; exact e e3.symm
    · cases hx; exact ⟨by omega, by simp; omega⟩
    · cases hx; exact ⟨.inr (by omega), by simp; omega⟩
    · cases hx; have := Option.some.inj e; omega

structure CutE (h : Hp) (mid : Nat) (tk0 : Option Nat) (pts : List Pt) (P : List By) (av pv : AV) (g : Hp) : Prop where
  low : h.length ≤ g.length
  fr : ∀ i, i < h.length → i ≠ mid → tk0 ≠ some i → g[i]? = h[i]?
  parts : IsRd 33 (pts.map Pt.av) av
  ex : ∃ pes T c t2, CE P pes ∧ TokAt 33 pes g pv t2 ∧ g[mid]? = some (.map (encE kA AV.bool T) c) ∧ (∀ q, tget T q = if q ∈ P.map keyOf then some true else none) ∧ (∀ x, t2 = some x → (t2 = tk0 ∧ x ≠ mid ∨ h.length ≤ x) ∧ x < g.length)

theorem partsL_pcs (d : By) : ∀ (l : List Nat) (a : Nat), a + l.sum ≤ d.length → partsL d a l = (pcs l (d.drop a)).map ptB
  | [], a, _ => rfl
  | k :: l, a, h => by
    simp only [List.sum_cons] at h
    simp only [partsL,pcs,List.map_cons]
    rw [partsL_pcs d l (a + k) (by omega), List.drop_drop]
    congr 1
    unfold ptB
    have e : (d.take (a + k)).drop a = (d.drop a).take k := by rw [List.take_drop]
    rw [e]
    congr 1
    simp; omega
theorem partsR_pcs (l m M : Int) (d : By) : partsR l m M d = (pcs (cutR l m M d) d).map ptB := by
  have := partsL_pcs d (cutR l m M d) 0 (by rw [(cutR_sum l m M d).1]; omega)
  rw [List.drop_zero] at this
  exact this

theorem le_sum : ∀ (l : List Nat) (i : Nat) (hi : i < l.length), l[i] ≤ l.sum
  | x :: l, 0, _ => by simp
  | x :: l, i + 1, hi => by have := le_sum l i (by simpa using hi); simp; omega

set_option maxRecDepth 100000 in
theorem c48 (cs : List AV) (l m M : Int) (s : By) (dv pv : AV) (mid : Nat) (tk0 : Option Nat) (P0 : List By) (pes : List AV) (T : List (Ky × Bool × Nat)) (cl : Nat) (hl : cs.length = 12) (h8 : cs[8]? = some (.int .i64 l)) (h9 : cs[9]? = some (.int .i64 m)) (h10 : cs[10]? = some (.int .i64 M)) (hok : okConf l m M)
    (hdv : IsRd 1 (bytesOf s) dv) (hs : s.length ≤ 1000000) (hP0 : P0.length ≤ 100000000)
    (j4 : CE P0 pes) (j5 : TokAt 33 pes h pv tk0) (j6 : h[mid]? = some (.map (encE kA AV.bool T) cl)) (j7 : ∀ q, tget T q = if q ∈ P0.map keyOf then some true else none) (j9 : ∀ x, tk0 = some x → x ≠ mid ∧ x < h.length) (hn : s.length + 600 < n) :
    ∃ av pv' g, call F n tot ω 48 [.agg cs, dv, .mp mid, pv] h = some (.tup [av, pv'], g) ∧ CutE h mid tk0 (partsR l m M s) (uniq P0 (pcs (cutR l m M s) s)) av pv' g := by
  obtain ⟨n, rfl⟩ : ∃ m, n = m + 1 := ⟨n - 1, by omega⟩
  suffices hx : ∃ v g, call F (n + 1) tot ω 48 [.agg cs, dv, .mp mid, pv] h = some (v, g) ∧ ∃ av pv', v = .tup [av, pv'] ∧ CutE h mid tk0 (partsR l m M s) (uniq P0 (pcs (cutR l m M s) s)) av pv' g by
    obtain ⟨v, g, e1, av, pv', rfl, e2⟩ := hx
    exact ⟨av, pv', g, e1, e2⟩
  refine call_of (fn := a48) f48 (P := fun v g => ∃ av pv', v = .tup [av, pv'] ∧ CutE h mid tk0 (partsR l m M s) (uniq P0 (pcs (cutR l m M s) s)) av pv' g) ?_
  have t12 : List.take 12 cs = cs := List.take_of_length_le (by omega)
  have hml := (List.getElem?_eq_some_iff.1 j6).1
  have k79 := fun h => c79 (n := n) (tot := tot) (ω := ω) (h := h) cs dv hl (rd_one hdv) (by omega)
  have prd := isRd_app j5.1
  have pnt := rd_nt prd
  have pcl := rd_cells prd
  unfold a48
  simp (maxSteps := 2000000) (discharger := omega) only [xz,xc,xo,xr,x0,x5,xd,kont_call,Reg.isA,Reg.isV,Reg.stays,Reg.onto,↓reduceIte,reduceCtorEq,Nat.reduceEqDiff,Nat.reduceLT,Nat.reduceAdd,nat_le_t,hl,t12,k79,pnt,pcl,List.length_append,List.append_assoc,Nat.add_assoc]
  obtain ⟨n2, rfl⟩ : ∃ m, n = m + 2 := ⟨n - 2, by omega⟩
  have hql : (h ++ [AO.row 1 [.mp mid], .row 1 [pv], .row 1 [.nils], .row 12 [.agg cs], .row 1 [dv]]).length = h.length + 5 := by simp
  obtain ⟨r1, r2, r3⟩ := cutR_sum l m M s
  have hcl := pcs_len (cutR l m M s) s
  obtain ⟨g', k104, J⟩ := c104 (n := n2 + 1) (tot := tot) (ω := ω) (h := h ++ [AO.row 1 [.mp mid], .row 1 [pv], .row 1 [.nils], .row 12 [.agg cs], .row 1 [dv]] ++ [.loop (rC h.length) [17, 18] hdC bdC 0 none]) cs l m M s dv (h.length + 3) (h.length + 4) (h.length + 5)
    (fun k g => CutJ h h.length mid tk0 (pcs (cutR l m M s) s) P0 k g) hl h8 h9 h10 hok hdv hs (by rw [List.append_assoc, hgk]; rfl) (by rw [List.append_assoc, hgk]; rfl) (by omega)
    (fun g hB => by
      have e : ∀ i, i < h.length + 6 → g[i]? = (h ++ [AO.row 1 [.mp mid], .row 1 [pv], .row 1 [.nils], .row 12 [.agg cs], .row 1 [dv], .loop (rC h.length) [17, 18] hdC bdC 0 none])[i]? := fun i hi => by
        have := hB.2 i (by simp; omega)
        rw [this, List.append_assoc]; rfl
      have e2 : ∀ i, i < h.length → g[i]? = h[i]? := fun i hi => by rw [e i (by omega), List.getElem?_append_left hi]
      have hgl : h.length + 6 ≤ g.length := by have := hB.1; simpa using this
      refine ⟨by rw [e _ (by omega), hgk]; rfl, by rw [e _ (by omega), hg0]; rfl, ⟨hml, by omega⟩, fun i hi _ _ => e2 i hi, .nils, pv, pes, T, cl, none, tk0, by rw [e _ (by omega), hgk]; rfl, by rw [e _ (by omega), hgk]; rfl, ?_, by simpa [uniq] using j4, j5.keep fun i o hi ho => by have := j9 i hi; rw [e2 i this.2]; exact ho, by rw [e2 _ hml]; exact j6, by simpa [uniq] using j7, by simp, fun x hx => ?_, by simp⟩
      · rw [List.take_zero]; exact tok_nils _ _ _
      · have := j9 x hx; exact ⟨.inl ⟨rfl, this.2, this.1⟩, by omega⟩)
    (fun k hk g c J => by
      have hln := pcs_pos (cutR l m M s) s k hk (by omega)
      have hk2 : k < (cutR l m M s).length := by omega
      have hgd : (cutR l m M s).getD k 0 = (cutR l m M s)[k] := by simp [List.getD,hk2]
      have hge : 1 ≤ (cutR l m M s)[k] := r2 _ (List.getElem_mem hk2)
      have hle : (cutR l m M s)[k] ≤ s.length := by rw [← r1]; exact le_sum _ _ hk2
      have hz0 : (pcs (cutR l m M s) s)[k] ≠ [] := fun e0 => by
        have z : ((pcs (cutR l m M s) s)[k]).length = 0 := by rw [e0]; rfl
        omega
      exact rd_ct (n := n2) h.length mid tk0 (pcs (cutR l m M s) s) P0 k g c _ hk hz0 (by omega) (by omega) hP0 J (by omega))
  obtain ⟨lp, c0, ⟨lw1, lw2⟩, fr, av, pv', pes', T', cl', t1, t2, q1, q2, q3, q4, q5, q6, q7, q8, q9, q10⟩ := J
  rw [List.take_of_length_le (by omega)] at q3 q4 q7
  refine wpi_rangeF (h2 := g') (f := 104) (first := []) (captured := [.ptr (h.length + 3) 12 0 0, .ptr (h.length + 4) 1 0 0]) (v := .tup []) (r1 := rC h.length) (ps1 := [17, 18]) (hd1 := hdC) (bd1 := bdC) (st := 0) (pd := none) rfl (kont_code f104) ?_ ?_ (by decide) ?_
  · rw [hql]; exact k104
  · rw [hql]; exact lp
  · rw [hql]
    have d1 : ∀ j, j ≠ h.length + 5 → (g'.set (h.length + 5) .dead)[j]? = g'[j]? := fun j hj => by rw [List.getElem?_set_ne (Ne.symm hj)]
    have d2 : (g'.set (h.length + 5) .dead)[h.length + 2]? = some (.row 1 [av]) := by rw [d1 _ (by omega)]; exact q2
    have d3 : (g'.set (h.length + 5) .dead)[h.length + 1]? = some (.row 1 [pv']) := by rw [d1 _ (by omega)]; exact q1
    have s1 := rd_sub (isRd_app q3.1) 1
    have s2 := rd_sub (isRd_app q5.1) 1
    have fin : CutE h mid tk0 (partsR l m M s) (uniq P0 (pcs (cutR l m M s) s)) av pv' (g'.set (h.length + 5) .dead) := by
      refine ⟨by simp; omega, fun i hi h1 h2 => by rw [d1 _ (by omega)]; exact fr i hi h1 h2, ?_, pes', T', cl', t2, q4, q5.keep fun j o hj ho => ?_, by rw [d1 _ (by omega)]; exact q6, q7, fun x hx => ?_⟩
      · rw [partsR_pcs, List.map_map]; exact isRd_app q3.1
      · have := q9 j hj; rw [d1 _ (by omega)]; exact ho
      · obtain ⟨a1, a2⟩ := q9 x hx
        refine ⟨?_, by simp; exact a2⟩
        rcases a1 with ⟨a3, a4, a5⟩ | a3
        · exact .inl ⟨a3, a5⟩
        · exact .inr (by omega)
    generalize g'.set (h.length + 5) .dead = gf at *
    simp (maxSteps := 2000000) (discharger := omega) only [xz,xc,xo,xr,x0,xd,Reg.isA,Reg.isV,Reg.stays,Reg.onto,↓reduceIte,Nat.reduceEqDiff,Nat.reduceLT,Option.getD_none,exists_eq_left',d2,d3,s1,s2]
    exact ⟨_, _, rfl, fin⟩
end
end Go.Proofs.YtpgmohjmpaifbaaDoor.Im

/- S21Ca: which files are a snapshot: the reference's Check, few. -/
set_option linter.unusedVariables false
set_option linter.unusedSimpArgs false
open Go Go.Im
namespace Go.Proofs.YtpgmohjmpaifbaaDoor.Im

def psOf (fs : List Fl) : List By := fs.map (·.p)
def szOf (fs : List Fl) : Nat := (fs.map (·.d.length)).sum
open Classical in
noncomputable def chk (fs : List Fl) : Int := if Tog (psOf fs) then (if szOf fs > 16384 then 6 else 0) else 1

structure Few (fs : List Fl) : Prop where
  num : fs.length ≤ 101
  data : ∀ f ∈ fs, f.d.length ≤ 30000
  path : ∀ f ∈ fs, f.p.length ≤ 30000

theorem szOf_le {fs : List Fl} (hd : ∀ f ∈ fs, f.d.length ≤ 30000) : szOf fs ≤ 30000 * fs.length := by
  unfold szOf
  induction fs with
  | nil => simp
  | cons f fs ih =>
    have h1 := hd f (by simp)
    have h2 := ih fun g hg => hd g (by simp [hg])
    simp only [List.map_cons,List.sum_cons,List.length_cons]
    omega
theorem Few.take {fs : List Fl} (hf : Few fs) (i : Nat) : szOf (fs.take i) ≤ 3030000 := by
  have h1 := szOf_le (fs := fs.take i) fun f hm => hf.data f (List.mem_of_mem_take hm)
  have h2 := hf.num
  have h3 : (fs.take i).length ≤ 101 := by rw [List.length_take]; omega
  omega
theorem Few.perm {fs gs : List Fl} (hf : Few fs) (hp : gs.Perm fs) : Few gs := ⟨by rw [hp.length_eq]; exact hf.num, fun f h => hf.data f (hp.mem_iff.1 h), fun f h => hf.path f (hp.mem_iff.1 h)⟩

theorem fl_get {fs : List Fl} {i : Nat} (hi : i < fs.length) : (fs.map Fl.av)[i]? = some (.agg [.str fs[i].p, fs[i].v]) := by simp [hi,Fl.av]
theorem fl_sub {f : Fl} (h : f.ok) (n : Nat) : sub f.v 0 n false = some f.v := by
  rcases h with ⟨e, _⟩ | ⟨c, e⟩ <;> rw [e] <;> rfl
section
variable {n : Nat} {tot : Bool} {ω : Nat → Nat} {h : Hp}

end

end Go.Proofs.YtpgmohjmpaifbaaDoor.Im

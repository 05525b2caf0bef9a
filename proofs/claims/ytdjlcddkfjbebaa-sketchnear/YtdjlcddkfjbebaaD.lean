/- Joined: S18B, S18C, S18D. -/
import Derived.Test.YtdjlcddkfjbebaaK
/- S18B: a book of sketches: what lies where. -/
set_option linter.unusedVariables false
set_option linter.unusedSimpArgs false
open Go Go.Im
namespace Go.Proofs.Ytdjlcddkfjbebaa.Im

theorem w_regionA2 {K : Kont} {n : Nat} {r : Regs} {h : Hp} {Q : AE → Regs → Hp → Prop} (o1 o2 : List Nat) (ops : List AOper) (ks : List Nat) :
    Wp K n (.regionA [o1, o2] ops ks) r h Q = Wo K (inOrd ops o1) r h (fun r' h' => Wo K (inOrd ops o2) r h (Is r' h') ∧ Settle ks Q r' h') := by
  apply propext
  constructor
  · rintro ⟨e, r', h', h1, h2⟩
    simp only [exec,execA] at h1
    split at h1
    · rename_i r2 h3 e1
      split at e1
      · rename_i a1 b1 a2 b2 e2 e3
        split at e1
        · rename_i e4
          simp only [Bool.and_eq_true] at e4
          obtain ⟨e5, e6⟩ := e4
          obtain rfl := (eqRegs_iff _ _).1 e5
          obtain rfl := (eqHp_iff _ _).1 e6
          cases e1
          cases h1
          exact ⟨_, _, e2, ⟨_, _, e3, rfl, rfl⟩, h2⟩
        · cases e1
      · cases e1
    · cases h1
  · rintro ⟨r', h', h1, h2, h3⟩
    exact wpi_regionA2 h1 (execs_is h2) h3

abbrev Ch := Int × List Int
abbrev kk (b : Int) : AV := .agg (kCs b)
abbrev sk (s : List Int) : AV := .agg (intsOf .u32 s)
abbrev Spots := List ((Nat × Int) × AV × Nat)
def vid (v : AV) : AV := v

def rid : AV → Nat
  | .row id _ _ _ _ => id
  | _ => 0

def ka (L : Nat → List Ch) (x : Nat × Int) : List Int := ((L x.1).filter fun c => decide (c.2.getD x.1 0 = x.2)).map (·.1)

structure Sp (h : Hp) (A : Spots) (L : Nat → List Ch) : Prop where
  row : ∀ t ∈ A, ∃ id post, t.2.1 = .row id 32 0 (ka L t.1).length false ∧ h[id]? = some (.row 32 (kAs (ka L t.1) ++ post))
  ne : ∀ t ∈ A, ka L t.1 ≠ []
  all : ∀ x : Nat × Int, x.1 < 8 → ka L x ≠ [] → tget A x ≠ none
  ids : (A.map fun t => rid t.2.1).Nodup
  lt : ∀ t ∈ A, t.1.1 < 8

section
variable {h h' : Hp} {A : Spots} {L L' : Nat → List Ch} {x : Nat × Int} {c : Nat}

theorem Sp.keep (S : Sp h A L) (k : ∀ t ∈ A, ∀ es, h[rid t.2.1]? = some (.row 32 es) → h'[rid t.2.1]? = some (.row 32 es)) : Sp h' A L :=
  ⟨fun t ht => by
    obtain ⟨id, post, e1, e2⟩ := S.row t ht
    refine ⟨id, post, e1, ?_⟩
    have := k t ht
    rw [e1] at this
    exact this _ e2, S.ne, S.all, S.ids, S.lt⟩

theorem Sp.put {id : Nat} {post : List AV} (S : Sp h A L) (hn : (A.map (·.1)).Nodup) (hx8 : x.1 < 8) (hL : ∀ y, y ≠ x → ka L' y = ka L y) (hne : ka L' x ≠ [])
    (k : ∀ t ∈ A, t.1 ≠ x → ∀ es, h[rid t.2.1]? = some (.row 32 es) → h'[rid t.2.1]? = some (.row 32 es)) (hr : h'[id]? = some (.row 32 (kAs (ka L' x) ++ post))) (hid : ∀ t ∈ A, t.1 ≠ x → rid t.2.1 ≠ id) :
    Sp h' (tput A x (.row id 32 0 (ka L' x).length false) c) L' := by
  refine ⟨fun t ht => ?_, fun t ht => ?_, fun y hy hy2 => ?_, tput_nodup S.ids (fun _ => rfl) hid hn, fun t ht => ?_⟩
  · rcases tput_mem2 hn ht with ⟨e1, e2⟩ | ⟨e1, e2⟩
    · refine ⟨id, post, by rw [e2, e1], by rw [e1]; exact hr⟩
    · obtain ⟨i, post, e3, e4⟩ := S.row t e1
      have := k t e1 e2
      rw [e3] at this
      rw [hL _ e2]
      exact ⟨i, post, e3, this _ e4⟩
  · rcases tput_mem2 hn ht with ⟨e1, e2⟩ | ⟨e1, e2⟩
    · rw [e1]; exact hne
    · rw [hL _ e2]; exact S.ne t e1
  · rw [tget_put]
    split
    · simp
    · rename_i e
      refine S.all y hy ?_
      rw [← hL y (fun e2 => e e2.symm)]
      exact hy2
  · rcases tput_mem2 hn ht with ⟨e1, e2⟩ | ⟨e1, e2⟩
    · rw [e1]; exact hx8
    · exact S.lt t e1

theorem Sp.del (S : Sp h A L) (hn : (A.map (·.1)).Nodup) (hL : ∀ y, y ≠ x → ka L' y = ka L y) (hx : ka L' x = [])
    (k : ∀ t ∈ A, t.1 ≠ x → ∀ es, h[rid t.2.1]? = some (.row 32 es) → h'[rid t.2.1]? = some (.row 32 es)) : Sp h' (tdel A x) L' := by
  have hm : ∀ t ∈ tdel A x, t ∈ A ∧ t.1 ≠ x := fun t ht => by
    rw [tdel_filter hn] at ht
    simpa using ht
  refine ⟨fun t ht => ?_, fun t ht => ?_, fun y hy hy2 => ?_, ((tdel_sub A x).map _).nodup S.ids, fun t ht => S.lt t (hm t ht).1⟩
  · obtain ⟨e1, e2⟩ := hm t ht
    obtain ⟨i, post, e3, e4⟩ := S.row t e1
    have := k t e1 e2
    rw [e3] at this
    rw [hL _ e2]
    exact ⟨i, post, e3, this _ e4⟩
  · obtain ⟨e1, e2⟩ := hm t ht
    rw [hL _ e2]; exact S.ne t e1
  · rw [tget_del x y hn]
    split
    · rename_i e; subst e; exact absurd hx hy2
    · rename_i e
      refine S.all y hy ?_
      rw [← hL y (fun e2 => e e2.symm)]
      exact hy2

theorem Sp.at (S : Sp h A L) (hx : x.1 < 8) : (ka L x = [] ∧ tget A x = none) ∨ (ka L x ≠ [] ∧ ∃ id post, tget A x = some (.row id 32 0 (ka L x).length false) ∧ h[id]? = some (.row 32 (kAs (ka L x) ++ post)) ∧ ∃ t ∈ A, t.1 = x ∧ rid t.2.1 = id) := by
  by_cases e : ka L x = []
  · refine .inl ⟨e, ?_⟩
    refine tget_none.2 fun t ht e2 => ?_
    have := S.ne t ht
    rw [e2] at this
    exact this e
  · refine .inr ⟨e, ?_⟩
    cases hg : tget A x with
    | none => exact absurd hg (S.all x hx e)
    | some v =>
      obtain ⟨b, hb⟩ := tget_mem hg
      obtain ⟨id, post, e1, e2⟩ := S.row _ hb
      simp only at e1
      subst e1
      exact ⟨id, post, rfl, e2, _, hb, rfl, rfl⟩

theorem Sp.other (S : Sp h A L) {t : (Nat × Int) × AV × Nat} {id : Nat} (ht : t ∈ A) (hx : t.1 ≠ x) (h2 : ∃ u ∈ A, u.1 = x ∧ rid u.2.1 = id) : rid t.2.1 ≠ id := by
  obtain ⟨u, hu, rfl, rfl⟩ := h2
  intro e
  have := S.ids
  obtain ⟨i, hi, rfl⟩ := List.getElem_of_mem ht
  obtain ⟨j, hj, rfl⟩ := List.getElem_of_mem hu
  have hij : i = j := by
    have h1 := List.pairwise_iff_getElem.1 S.ids
    rcases Nat.lt_trichotomy i j with hlt | h | hlt
    · exact absurd (by rw [List.getElem_map, List.getElem_map]; exact e) (h1 i j (by simpa using hi) (by simpa using hj) hlt)
    · exact h
    · exact absurd (by rw [List.getElem_map, List.getElem_map]; exact e.symm) (h1 j i (by simpa using hj) (by simpa using hi) hlt)
  subst hij
  exact hx rfl
end

structure Bk (h : Hp) (p mo ma : Nat) (T : List (Int × List Int × Nat)) (cT : Nat) (A : Spots) (cA : Nat) (L : Nat → List Ch) : Prop where
  ptr : h[p]? = some (.row 2 [.agg [.mp mo, .mp ma]])
  of : MapH h mo kk sk T cT
  spots : MapH h ma sA vid A cA
  sp : Sp h A L
  ne : mo ≠ ma

section
variable {h h' : Hp} {p mo ma cT cA : Nat} {T : List (Int × List Int × Nat)} {A : Spots} {L L' : Nat → List Ch}

theorem Bk.keep (B : Bk h p mo ma T cT A cA L) (k : keeps h h') : Bk h' p mo ma T cT A cA L :=
  ⟨k p _ B.ptr rfl, ⟨k mo _ B.of.hp rfl, B.of.keys, B.of.born, B.of.once⟩, ⟨k ma _ B.spots.hp rfl, B.spots.keys, B.spots.born, B.spots.once⟩, B.sp.keep fun t ht es e => k _ _ e rfl, B.ne⟩
theorem keeps_app (h m : Hp) : keeps h (h ++ m) := fun id o ho _ => by rw [List.getElem?_append_left (List.getElem?_eq_some_iff.1 ho).1]; exact ho
theorem keeps_refl (h : Hp) : keeps h h := fun _ _ ho _ => ho
theorem keeps_trans {a b c : Hp} (x : keeps a b) (y : keeps b c) : keeps a c := fun id o ho hs => y id o (x id o ho hs) hs

def KT (h h' : Hp) : Prop := ∀ (i : Nat) (z e : Nat), h[i]? = some (.tail z e) → h'[i]? = some (.tail z e)
theorem KT.refl (h : Hp) : KT h h := fun _ _ _ e => e
theorem KT.trans {a b c : Hp} (x : KT a b) (y : KT b c) : KT a c := fun i z e k => y i z e (x i z e k)
theorem KT.app (h m : Hp) : KT h (h ++ m) := fun i z e k => by rw [List.getElem?_append_left (List.getElem?_eq_some_iff.1 k).1]; exact k
theorem KT.set {i : Nat} {o o' : AO} (hi : h[i]? = some o) (ho : ∀ z e, o ≠ .tail z e) : KT h (h.set i o') := fun j z e k => by
  rw [List.getElem?_set]
  split
  · rename_i e2; subst e2; rw [hi] at k; cases k; exact absurd rfl (ho z e)
  · exact k
theorem Bk.ne1 (B : Bk h p mo ma T cT A cA L) : p ≠ mo := fun e => by have := B.ptr; rw [e, B.of.hp] at this; cases this
theorem Bk.ne2 (B : Bk h p mo ma T cT A cA L) : p ≠ ma := fun e => by have := B.ptr; rw [e, B.spots.hp] at this; cases this
theorem Bk.lp (B : Bk h p mo ma T cT A cA L) : p < h.length := (List.getElem?_eq_some_iff.1 B.ptr).1
end

theorem c13 {tot : Bool} {ω : Nat → Nat} {n : Nat} (h : Hp) (hn : 0 < n) : ∃ h', call F n tot ω 13 [] h = some (.ptr (h.length + 2) 2 0 0, h') ∧ Bk h' (h.length + 2) h.length (h.length + 1) [] 0 [] 0 (fun _ => []) ∧ keeps h h' ∧ KT h h' := by
  obtain ⟨n, rfl⟩ : ∃ m, n = m + 1 := ⟨n - 1, by omega⟩
  refine ⟨h ++ [.map [] 0, .map [] 0, .row 2 [.agg [.mp h.length, .mp (h.length + 1)]]], call_eq (fn := a13) f13 ?_, ⟨by simp, ⟨by simp [encE], by simp, by simp, by simp⟩, ⟨by simp [encE], by simp, by simp, by simp⟩, ⟨by simp, by simp, by simp [ka], by simp, by simp⟩, by omega⟩, keeps_app _ _, KT.app _ _⟩
  unfold a13
  simp (maxSteps := 2000000) (discharger := omega) only [xc,xo,xr,x0,x1,x2,x3,x4,x5,x6,xd,xe,xb,kont_call,kont_pure,kont_round,isNil,slOk,sliceV,selems,srcElems,copyTo,dlen,eqAV,eqCells,eqS,wr,place,partVals,partEs,placeEs,mapOf,keyOk,keyCells,findK,Bool.bne_false,Bool.bne_true,List.drop_zero,List.nil_append,List.append_nil,List.take_zero,List.cons_append,List.take_succ_cons,List.drop_succ_cons,List.take_nil,List.drop_nil,Reg.isA,Reg.isV,Reg.stays,Reg.onto,Bool.false_or,Bool.or_false,Bool.false_and,Bool.and_false,Bool.true_and,Bool.and_true,Bool.or_true,Bool.true_or,↓reduceIte,reduceCtorEq,Nat.reduceEqDiff,Nat.reduceLT,Nat.reduceAdd,Nat.reduceMul,Nat.add_zero,Nat.zero_add,Nat.not_lt_zero,Nat.zero_ne_one,Nat.one_ne_zero,Nat.reduceLeDiff,Nat.lt_irrefl,Nat.zero_lt_succ,Bool.false_eq_true,Bool.not_true,Bool.not_false,Option.map_some,Option.map_none,Option.bind_some,Option.getD_some,Option.getD_none,and_self,and_true,true_and,List.length_cons,List.length_nil,List.any_nil,List.any_cons,Int.toNat_natCast,Int.cast_ofNat_Int,Int.natCast_zero,Int.natCast_nonneg,true_implies,or_true,true_or,false_or,or_false,beq_self_eq_true,Option.some.injEq,exists_eq_left',Int.reduceEq,Int.reduceLT,Int.reduceLE,Int.reduceGT,Int.reduceGE,Nat.reduceGT,Int.reduceNeg,Int.reduceToNat,Int.reduceAdd,Int.reduceMul,Int.reduceSub,Int.reducePow,decide_true,decide_false,decide_eq_true_eq,List.getElem?_cons_zero,List.getElem?_cons_succ,Nat.reduceBEq,Nat.reduceSub,exists_false,and_false,false_and,xu,List.set_cons_zero,List.set_cons_succ,wrap_i64,int_lt_t,int_lt_f,int_le_t,int_le_f,int_gt_t,int_gt_f,int_ge_t,int_ge_f,int_eq_t,int_eq_f,int_beq_t,int_beq_f,int_bne_t,int_bne_f,nat_le_t,nat_le_f,Nat.sub_zero,Nat.sub_self,not_false_eq_true,not_true_eq_false,List.append_assoc,List.length_append]
end Go.Proofs.Ytdjlcddkfjbebaa.Im

/- S18C: a chunk is taken out of a book. -/
set_option linter.unusedVariables false
set_option linter.unusedSimpArgs false
open Go Go.Im
namespace Go.Proofs.Ytdjlcddkfjbebaa.Im

def dropC (k : Int) (l : List Ch) : List Ch := l.filter fun c => decide (c.1 ≠ k)
def mixL (i : Nat) (a b : List Ch) : Nat → List Ch := fun r => if r < i then a else b

theorem ka_mix {i : Nat} {a b : List Ch} {x : Nat × Int} (h : x.1 ≠ i ∨ ka (fun _ => a) x = ka (fun _ => b) x) : ka (mixL (i + 1) a b) x = ka (mixL i a b) x := by
  unfold ka mixL at *
  by_cases h1 : x.1 < i
  · rw [if_pos h1, if_pos (by omega)]
  · by_cases h2 : x.1 = i
    · rw [if_neg h1, if_pos (by omega)]
      rcases h with h | h
      · exact absurd h2 h
      · exact h
    · rw [if_neg h1, if_neg (by omega)]

theorem ka_at {i : Nat} {a b : List Ch} {n : Int} : ka (mixL (i + 1) a b) (i, n) = ka (fun _ => a) (i, n) ∧ ka (mixL i a b) (i, n) = ka (fun _ => b) (i, n) := by
  unfold ka mixL
  simp

theorem ka_mix8 {a b : List Ch} {x : Nat × Int} (h : x.1 < 8) : ka (mixL 8 a b) x = ka (fun _ => a) x := by
  unfold ka mixL
  simp [h]
theorem Sp.of8 {h : Hp} {A : Spots} {a b : List Ch} (S : Sp h A (mixL 8 a b)) : Sp h A (fun _ => a) :=
  ⟨fun t ht => by rw [← ka_mix8 (b := b) (S.lt t ht)]; exact S.row t ht, fun t ht => by rw [← ka_mix8 (b := b) (S.lt t ht)]; exact S.ne t ht,
   fun x hx hne => S.all x hx (by rw [ka_mix8 hx]; exact hne), S.ids, S.lt⟩

theorem ka_drop (k : Int) (l : List Ch) (x : Nat × Int) : ka (fun _ => dropC k l) x = kf k (ka (fun _ => l) x) := by
  unfold ka kf dropC
  simp only [List.filter_map,List.filter_filter]
  congr 1
  apply List.filter_congr
  intro c _
  simp [Bool.and_comm]

theorem ka_drop_ne {k : Int} {s : List Int} {l : List Ch} {x : Nat × Int} (hu : ∀ c ∈ l, c.1 = k → c.2 = s) (hx : x.2 ≠ s.getD x.1 0) : ka (fun _ => dropC k l) x = ka (fun _ => l) x := by
  rw [ka_drop]
  apply kf_self
  intro hm
  obtain ⟨c, hc, e⟩ := List.mem_map.1 hm
  obtain ⟨h1, h2⟩ := List.mem_filter.1 hc
  have := hu c h1 e
  rw [this] at h2
  simp only [decide_eq_true_eq] at h2
  exact hx h2.symm

theorem intsOf_getD {k : IntKind} {s : List Int} {i : Nat} (h : i < s.length) : (intsOf k s)[i]? = some (.int k (s.getD i 0)) := by
  rw [intsOf_get h]; simp [List.getD,h]

theorem ka_len (l : List Ch) (L : Nat → List Ch) (x : Nat × Int) (h : L x.1 = l) : (ka L x).length ≤ l.length := by
  unfold ka
  rw [h, List.length_map]
  exact List.length_filter_le _ _

theorem c16 {tot : Bool} {ω : Nat → Nat} {n : Nat} {p mo ma cT cA : Nat} {T : List (Int × List Int × Nat)} {A : Spots} {l : List Ch} (k : Int) (h : Hp) (B : Bk h p mo ma T cT A cA (fun _ => l)) (hT : T.map (fun t => (t.1, t.2.1)) = l) (hl : l.length ≤ 1000) (h8 : ∀ c ∈ l, c.2.length = 8) (hn : 1020 < n) :
    ∃ h' T' A', call F n tot ω 16 [.ptr p 2 0 0, .agg (kCs k)] h = some (.tup [], h') ∧ Bk h' p mo ma T' cT A' cA (fun _ => dropC k l) ∧ T'.map (fun t => (t.1, t.2.1)) = dropC k l ∧ KT h h' := by
  obtain ⟨n, rfl⟩ : ∃ m, n = m + 1 := ⟨n - 1, by omega⟩
  suffices hx : ∃ v h', call F (n + 1) tot ω 16 [.ptr p 2 0 0, .agg (kCs k)] h = some (v, h') ∧ (v = .tup [] ∧ ∃ T' A', Bk h' p mo ma T' cT A' cA (fun _ => dropC k l) ∧ T'.map (fun t => (t.1, t.2.1)) = dropC k l ∧ KT h h') by
    obtain ⟨v, h', e1, rfl, T', A', e2, e3, e4⟩ := hx
    exact ⟨h', T', A', e1, e2, e3, e4⟩
  refine call_of (fn := a16) f16 (P := fun v h' => v = .tup [] ∧ ∃ T' A', Bk h' p mo ma T' cT A' cA (fun _ => dropC k l) ∧ T'.map (fun t => (t.1, t.2.1)) = dropC k l ∧ KT h h') ?_
  unfold a16
  have B0 := B.keep (keeps_app h [.row 32 [.agg (kCs k)]])
  have hpk : (h ++ [AO.row 32 [.agg (kCs k)]])[h.length]? = some (.row 32 [.agg (kCs k)]) := by simp
  obtain ⟨g, hg⟩ : ∃ g, g = h ++ [AO.row 32 [.agg (kCs k)]] := ⟨_, rfl⟩
  have hKT : KT h g := by rw [hg]; exact KT.app _ _
  rw [← hg] at B0 hpk
  have b1 := B0.ptr
  have b2 := B0.of.hp
  have b3 := B0.spots.hp
  cases hgt : tget T k with
  | none =>
    have f1 := findK_no (ev := sk) kEnc 0 hgt
    have hd : dropC k l = l := by
      rw [← hT]
      refine List.filter_eq_self.2 fun c hc => ?_
      obtain ⟨t, ht, rfl⟩ := List.mem_map.1 hc
      simpa using tget_none.1 hgt t ht
    simp (maxSteps := 2000000) (discharger := omega) only [xc,xo,xr,x0,x1,x2,x3,x4,x5,x6,xd,xe,xb,kont_call,kont_pure,kont_round,isNil,slOk,sliceV,selems,srcElems,copyTo,dlen,eqAV,eqCells,eqS,wr,place,partVals,partEs,placeEs,mapOf,keyOk,keyCells,findK,Bool.bne_false,Bool.bne_true,List.drop_zero,List.nil_append,List.append_nil,List.take_zero,List.cons_append,List.take_succ_cons,List.drop_succ_cons,List.take_nil,List.drop_nil,Reg.isA,Reg.isV,Reg.stays,Reg.onto,Bool.false_or,Bool.or_false,Bool.false_and,Bool.and_false,Bool.true_and,Bool.and_true,Bool.or_true,Bool.true_or,↓reduceIte,reduceCtorEq,Nat.reduceEqDiff,Nat.reduceLT,Nat.reduceAdd,Nat.reduceMul,Nat.add_zero,Nat.zero_add,Nat.not_lt_zero,Nat.zero_ne_one,Nat.one_ne_zero,Nat.reduceLeDiff,Nat.lt_irrefl,Nat.zero_lt_succ,Bool.false_eq_true,Bool.not_true,Bool.not_false,Option.map_some,Option.map_none,Option.bind_some,Option.getD_some,Option.getD_none,and_self,and_true,true_and,List.length_cons,List.length_nil,List.any_nil,List.any_cons,Int.toNat_natCast,Int.cast_ofNat_Int,Int.natCast_zero,Int.natCast_nonneg,true_implies,or_true,true_or,false_or,or_false,beq_self_eq_true,Option.some.injEq,exists_eq_left',Int.reduceEq,Int.reduceLT,Int.reduceLE,Int.reduceGT,Int.reduceGE,Nat.reduceGT,Int.reduceNeg,Int.reduceToNat,Int.reduceAdd,Int.reduceMul,Int.reduceSub,Int.reducePow,decide_true,decide_false,decide_eq_true_eq,List.getElem?_cons_zero,List.getElem?_cons_succ,Nat.reduceBEq,Nat.reduceSub,exists_false,and_false,false_and,xu,List.set_cons_zero,List.set_cons_succ,wrap_i64,int_lt_t,int_lt_f,int_le_t,int_le_f,int_gt_t,int_gt_f,int_ge_t,int_ge_f,int_eq_t,int_eq_f,int_beq_t,int_beq_f,int_bne_t,int_bne_f,nat_le_t,nat_le_f,Nat.sub_zero,Nat.sub_self,not_false_eq_true,not_true_eq_false,kCs_len,← hg,b1,b2,hpk,kCs_take,kCs_drop,kCs_key,f1]
    exact ⟨T, A, by rw [hd]; exact B0, by rw [hd]; exact hT, hKT⟩
  | some s =>
    obtain ⟨j, f1, f2, f3, f4, f5⟩ := findK_yes (ev := sk) kEnc 0 hgt
    rw [Nat.zero_add] at f1
    obtain ⟨b, hb⟩ := tget_mem hgt
    have hmem : (k, s) ∈ l := by rw [← hT]; exact List.mem_map.2 ⟨_, hb, rfl⟩
    have hs8 : s.length = 8 := h8 _ hmem
    have hi8 : (intsOf .u32 s).length = 8 := by simp [intsOf,hs8]
    have ht8 : (intsOf .u32 s).take 8 = intsOf .u32 s := List.take_of_length_le (by omega)
    have hd8 : (intsOf .u32 s).drop 8 = [] := List.drop_of_length_le (by omega)
    have hu : ∀ c ∈ l, c.1 = k → c.2 = s := fun c hc e => by
      rw [← hT] at hc
      obtain ⟨t, ht, rfl⟩ := List.mem_map.1 hc
      simp only at e
      have hk1 := B.of.keys
      obtain ⟨i1, q1, rfl⟩ := List.getElem_of_mem ht
      obtain ⟨i2, q2, e2⟩ := List.getElem_of_mem hb
      have : i1 = i2 := by
        have h1 := List.pairwise_iff_getElem.1 hk1
        rcases Nat.lt_trichotomy i1 i2 with hlt | h | hlt
        · exact absurd (by rw [List.getElem_map, List.getElem_map, e2]; exact e) (h1 i1 i2 (by simpa using q1) (by simpa using q2) hlt)
        · exact h
        · exact absurd (by rw [List.getElem_map, List.getElem_map, e2]; exact e.symm) (h1 i2 i1 (by simpa using q2) (by simpa using q1) hlt)
      subst this
      rw [e2]
    have hTd : (tdel T k).map (fun t => (t.1, t.2.1)) = dropC k l := by
      rw [tdel_filter B.of.keys, ← hT]
      unfold dropC
      rw [List.filter_map]
      rfl
    have M1 := B0.of.del k
    obtain ⟨g1, hg1⟩ : ∃ g1, g1 = g.set mo (.map (encE kk sk (tdel T k)) cT) := ⟨_, rfl⟩
    have n1 := B0.ne1
    have n2 := B0.ne2
    have n3 := B0.ne
    have o1 : ∀ i, i ≠ mo → g1[i]? = g[i]? := fun i hi => by rw [hg1, List.getElem?_set, if_neg (Ne.symm hi)]
    have B1 : Bk g1 p mo ma (tdel T k) cT A cA (mixL 0 (dropC k l) l) := by
      refine ⟨(o1 _ n1).trans B0.ptr, by rw [hg1]; exact M1, B0.spots.keep (o1 _ n3.symm), ?_, n3⟩
      have : mixL 0 (dropC k l) l = fun _ => l := by funext r; simp [mixL]
      rw [this]
      exact B0.sp.keep fun t ht es e => (o1 _ fun e2 => by rw [e2, B0.of.hp] at e; cases e).trans e
    have hpk1 : g1[h.length]? = some (.row 32 [.agg (kCs k)]) := (o1 _ fun e => by rw [e, B0.of.hp] at hpk; cases hpk).trans hpk
    have hKT1 : KT h g1 := hKT.trans (by rw [hg1]; exact KT.set B0.of.hp fun z e h => by cases h)
    simp (maxSteps := 2000000) (discharger := omega) only [xc,xo,xr,x0,x1,x2,x3,x4,x5,x6,xd,xe,xb,kont_call,kont_pure,kont_round,isNil,slOk,sliceV,selems,srcElems,copyTo,dlen,eqAV,eqCells,eqS,wr,place,partVals,partEs,placeEs,mapOf,keyOk,keyCells,findK,Bool.bne_false,Bool.bne_true,List.drop_zero,List.nil_append,List.append_nil,List.take_zero,List.cons_append,List.take_succ_cons,List.drop_succ_cons,List.take_nil,List.drop_nil,Reg.isA,Reg.isV,Reg.stays,Reg.onto,Bool.false_or,Bool.or_false,Bool.false_and,Bool.and_false,Bool.true_and,Bool.and_true,Bool.or_true,Bool.true_or,↓reduceIte,reduceCtorEq,Nat.reduceEqDiff,Nat.reduceLT,Nat.reduceAdd,Nat.reduceMul,Nat.add_zero,Nat.zero_add,Nat.not_lt_zero,Nat.zero_ne_one,Nat.one_ne_zero,Nat.reduceLeDiff,Nat.lt_irrefl,Nat.zero_lt_succ,Bool.false_eq_true,Bool.not_true,Bool.not_false,Option.map_some,Option.map_none,Option.bind_some,Option.getD_some,Option.getD_none,and_self,and_true,true_and,List.length_cons,List.length_nil,List.any_nil,List.any_cons,Int.toNat_natCast,Int.cast_ofNat_Int,Int.natCast_zero,Int.natCast_nonneg,true_implies,or_true,true_or,false_or,or_false,beq_self_eq_true,Option.some.injEq,exists_eq_left',Int.reduceEq,Int.reduceLT,Int.reduceLE,Int.reduceGT,Int.reduceGE,Nat.reduceGT,Int.reduceNeg,Int.reduceToNat,Int.reduceAdd,Int.reduceMul,Int.reduceSub,Int.reducePow,decide_true,decide_false,decide_eq_true_eq,List.getElem?_cons_zero,List.getElem?_cons_succ,Nat.reduceBEq,Nat.reduceSub,exists_false,and_false,false_and,xu,List.set_cons_zero,List.set_cons_succ,wrap_i64,int_lt_t,int_lt_f,int_le_t,int_le_f,int_gt_t,int_gt_f,int_ge_t,int_ge_f,int_eq_t,int_eq_f,int_beq_t,int_beq_f,int_bne_t,int_bne_f,nat_le_t,nat_le_f,Nat.sub_zero,Nat.sub_self,not_false_eq_true,not_true_eq_false,kCs_len,← hg,b1,b2,hpk,kCs_take,kCs_drop,kCs_key,f1,f5,hi8,ht8,hd8,← hg1]
    have hrid : ∀ t ∈ A, rid t.2.1 ≠ h.length := fun t ht e => by
      obtain ⟨id, post, e1, e2⟩ := B.sp.row t ht
      rw [e1] at e
      simp only [rid] at e
      have := (List.getElem?_eq_some_iff.1 e2).1
      omega
    refine wpi_loop (fun m r g' => ∃ (i : Nat) (A' : Spots), r = [(0, .val (.ptr p 2 0 0)), (3, .val (.ptr h.length 32 0 0)), (27, .val (.agg (intsOf .u32 s))), (28, .val (.int .i64 i))] ∧ i ≤ 8 ∧ m = 8 - i ∧ Bk g' p mo ma (tdel T k) cT A' cA (mixL i (dropC k l) l) ∧ g'[h.length]? = some (.row 32 [.agg (kCs k)]) ∧ KT h g' ∧ ∀ t ∈ A', rid t.2.1 ≠ h.length) 8 (by omega) ⟨0, A, rfl, by omega, by omega, B1, hpk1, hKT1, hrid⟩ ?_
    rintro m r g' ⟨i, A', rfl, hi, rfl, B2, hpk2, hKT2, hrid2⟩
    by_cases hlt : i < 8
    · have q1 := intsOf_getD (k := .u32) (s := s) (i := i) (by omega)
      obtain ⟨v, hv⟩ : ∃ v, v = s.getD i 0 := ⟨_, rfl⟩
      rw [← hv] at q1
      have hm : k ∈ ka (fun _ => l) (i, v) := List.mem_map.2 ⟨(k, s), List.mem_filter.2 ⟨hmem, by simp [hv]⟩, rfl⟩
      have ka1 := (ka_at (i := i) (a := dropC k l) (b := l) (n := v)).2
      have ka2 := (ka_at (i := i) (a := dropC k l) (b := l) (n := v)).1
      rw [ka_drop] at ka2
      obtain ⟨ks, hks⟩ : ∃ ks, ks = ka (fun _ => l) (i, v) := ⟨_, rfl⟩
      rw [← hks] at ka1 ka2 hm
      have hksl : ks.length ≤ 1000 := by rw [hks]; exact Nat.le_trans (ka_len l _ _ rfl) hl
      rcases B2.sp.at (x := (i, v)) hlt with ⟨e1, _⟩ | ⟨_, id, post, e2, e3, e4⟩
      · rw [ka1] at e1; rw [e1] at hm; simp at hm
      rw [ka1] at e2 e3
      have hide : id ≠ h.length := by obtain ⟨t, t1, _, t3⟩ := e4; rw [← t3]; exact hrid2 t t1
      obtain ⟨post', e25⟩ := c25 (tot := tot) (ω := ω) (n := n) ks post k id h.length g' e3 hpk2 (Ne.symm hide) (by omega) (by omega)
      obtain ⟨j1, u1, u2, u3, u4, u5⟩ := findK_yes (ev := vid) sEnc 0 e2
      rw [Nat.zero_add] at u1
      obtain ⟨v', hv'⟩ : ∃ v', v' = AV.row id 32 0 (kf k ks).length false := ⟨_, rfl⟩
      obtain ⟨g2, hg2⟩ : ∃ g2, g2 = g'.set id (.row 32 (kAs (kf k ks) ++ post')) := ⟨_, rfl⟩
      obtain ⟨g3, hg3⟩ : ∃ g3, g3 = g2.set ma (.map (encE sA vid (tput A' (i, v) v' cA)) cA) := ⟨_, rfl⟩
      have d1 : id ≠ ma := fun e => by rw [e, B2.spots.hp] at e3; cases e3
      have d2 : id ≠ mo := fun e => by rw [e, B2.of.hp] at e3; cases e3
      have d3 : id ≠ p := fun e => by rw [e, B2.ptr] at e3; cases e3
      have o2 : ∀ j, j ≠ id → g2[j]? = g'[j]? := fun j hj => by rw [hg2, List.getElem?_set, if_neg (Ne.symm hj)]
      have o3 : ∀ j, j ≠ ma → g3[j]? = g2[j]? := fun j hj => by rw [hg3, List.getElem?_set, if_neg (Ne.symm hj)]
      have hidl : id < g'.length := (List.getElem?_eq_some_iff.1 e3).1
      have r2 : g2[id]? = some (.row 32 (kAs (kf k ks) ++ post')) := by rw [hg2]; simp [hidl]
      have M2 : MapH g2 ma sA vid A' cA := B2.spots.keep (o2 _ (Ne.symm d1))
      have M3 : MapH g3 ma sA vid (tput A' (i, v) v' cA) cA := by rw [hg3]; exact M2.put (by rw [e2]; simp) _
      have p2 : g2[p]? = some (.row 2 [.agg [.mp mo, .mp ma]]) := (o2 _ (Ne.symm d3)).trans B2.ptr
      have p3 : g3[p]? = some (.row 2 [.agg [.mp mo, .mp ma]]) := (o3 _ B2.ne2).trans p2
      have t3 : tget (tput A' (i, v) v' cA) (i, v) = some v' := by rw [tget_put, if_pos rfl]
      obtain ⟨j2, w1, w2, w3, w4, w5⟩ := findK_yes (ev := vid) sEnc 0 t3
      rw [Nat.zero_add] at w1
      have r3 : g3[id]? = some (.row 32 (kAs (kf k ks) ++ post')) := (o3 _ d1).trans r2
      have hpk3 : g3[h.length]? = some (.row 32 [.agg (kCs k)]) := by
        rw [o3 _ (fun e => by rw [e, B2.spots.hp] at hpk2; cases hpk2), o2 _ (Ne.symm hide)]; exact hpk2
      have kt2 : KT g' g2 := by rw [hg2]; exact KT.set e3 fun z e h => by cases h
      have kt23 : KT g2 g3 := by rw [hg3]; exact KT.set M2.hp fun z e h => by cases h
      have kt3 : KT h g3 := (hKT2.trans kt2).trans kt23
      have hrest : ∀ t ∈ A', t.1 ≠ (i, v) → ∀ es, g'[rid t.2.1]? = some (.row 32 es) → g3[rid t.2.1]? = some (.row 32 es) := fun t ht hx es e => by
        have h1 := B2.sp.other ht hx e4
        have h2 : rid t.2.1 ≠ ma := fun e5 => by rw [e5, B2.spots.hp] at e; cases e
        rw [o3 _ h2, o2 _ h1]; exact e
      have hLo : ∀ y : Nat × Int, y ≠ (i, v) → ka (mixL (i + 1) (dropC k l) l) y = ka (mixL i (dropC k l) l) y := fun y hy => by
        apply ka_mix
        by_cases hy1 : y.1 = i
        · refine .inr (ka_drop_ne hu fun e => hy ?_)
          rw [hy1] at e
          exact Prod.ext hy1 (by rw [e, hv])
        · exact .inl hy1
      have h0 := B2.ptr
      have h1 := B2.spots.hp
      have m2 := M2.hp
      have m3 := M3.hp
      rw [← hg2, ← hv'] at e25
      have lv : lenSl (vid v') = some (kf k ks).length := by rw [hv']; rfl
      have vv : vid (AV.row id 32 0 ks.length false) = .row id 32 0 ks.length false := rfl
      have u4' : ((encE sA vid A').modify j1 fun e => (AV.agg [.int .i64 (i : Int), .int .u32 v], v', e.2.2)) = encE sA vid (tput A' (i, v) v' cA) := u4 v' cA
      have lv' : lenSl v' = some (kf k ks).length := lv
      have hid3 : ∀ t ∈ tput A' (i, v) v' cA, rid t.2.1 ≠ h.length := fun t ht => by
        rcases tput_mem2 B2.spots.keys ht with ⟨_, x2⟩ | ⟨x1, _⟩
        · rw [x2, hv']; exact hide
        · exact hrid2 t x1
      by_cases hz : (kf k ks).length = 0
      · obtain ⟨g4, hg4⟩ : ∃ g4, g4 = g3.set ma (.map (encE sA vid (tdel (tput A' (i, v) v' cA) (i, v))) cA) := ⟨_, rfl⟩
        have w5' : (encE sA vid (tput A' (i, v) v' cA)).eraseIdx j2 = encE sA vid (tdel (tput A' (i, v) v' cA) (i, v)) := w5
        have o4 : ∀ j, j ≠ ma → g4[j]? = g3[j]? := fun j hj => by rw [hg4, List.getElem?_set, if_neg (Ne.symm hj)]
        have hkn : kf k ks = [] := List.eq_nil_of_length_eq_zero hz
        have sp4 : Sp g4 (tdel (tput A' (i, v) v' cA) (i, v)) (mixL (i + 1) (dropC k l) l) := by
          have hdd : tdel (tput A' (i, v) v' cA) (i, v) = tdel A' (i, v) := tdel_put A'
          rw [hdd]
          refine B2.sp.del B2.spots.keys hLo (by rw [ka2, hkn]) fun t ht hx es e => ?_
          rw [o4 _ fun e5 => by rw [e5, B2.spots.hp] at e; cases e]
          exact hrest t ht hx es e
        have B4 : Bk g4 p mo ma (tdel T k) cT (tdel (tput A' (i, v) v' cA) (i, v)) cA (mixL (i + 1) (dropC k l) l) :=
          ⟨(o4 _ B2.ne2).trans p3, B2.of.keep ((o4 _ B2.ne).trans ((o3 _ B2.ne).trans (o2 _ (Ne.symm d2)))), by rw [hg4]; exact M3.del _, sp4, B2.ne⟩
        have kt34 : KT g3 g4 := by rw [hg4]; exact KT.set M3.hp fun z e h => by cases h
        simp (maxSteps := 2000000) (discharger := omega) only [xc,xo,xr,x0,x1,x2,x3,x4,x5,x6,xd,xe,xb,kont_call,kont_pure,kont_round,isNil,slOk,sliceV,selems,srcElems,copyTo,dlen,eqAV,eqCells,eqS,wr,place,partVals,partEs,placeEs,mapOf,keyOk,keyCells,findK,Bool.bne_false,Bool.bne_true,List.drop_zero,List.nil_append,List.append_nil,List.take_zero,List.cons_append,List.take_succ_cons,List.drop_succ_cons,List.take_nil,List.drop_nil,Reg.isA,Reg.isV,Reg.stays,Reg.onto,Bool.false_or,Bool.or_false,Bool.false_and,Bool.and_false,Bool.true_and,Bool.and_true,Bool.or_true,Bool.true_or,↓reduceIte,reduceCtorEq,Nat.reduceEqDiff,Nat.reduceLT,Nat.reduceAdd,Nat.reduceMul,Nat.add_zero,Nat.zero_add,Nat.not_lt_zero,Nat.zero_ne_one,Nat.one_ne_zero,Nat.reduceLeDiff,Nat.lt_irrefl,Nat.zero_lt_succ,Bool.false_eq_true,Bool.not_true,Bool.not_false,Option.map_some,Option.map_none,Option.bind_some,Option.getD_some,Option.getD_none,and_self,and_true,true_and,List.length_cons,List.length_nil,List.any_nil,List.any_cons,Int.toNat_natCast,Int.cast_ofNat_Int,Int.natCast_zero,Int.natCast_nonneg,true_implies,or_true,true_or,false_or,or_false,beq_self_eq_true,Option.some.injEq,exists_eq_left',Int.reduceEq,Int.reduceLT,Int.reduceLE,Int.reduceGT,Int.reduceGE,Nat.reduceGT,Int.reduceNeg,Int.reduceToNat,Int.reduceAdd,Int.reduceMul,Int.reduceSub,Int.reducePow,decide_true,decide_false,decide_eq_true_eq,List.getElem?_cons_zero,List.getElem?_cons_succ,Nat.reduceBEq,Nat.reduceSub,exists_false,and_false,false_and,xu,List.set_cons_zero,List.set_cons_succ,wrap_i64,int_lt_t,int_lt_f,int_le_t,int_le_f,int_gt_t,int_gt_f,int_ge_t,int_ge_f,int_eq_t,int_eq_f,int_beq_t,int_beq_f,int_bne_t,int_bne_f,nat_le_t,nat_le_f,Nat.sub_zero,Nat.sub_self,not_false_eq_true,not_true_eq_false,h0,h1,hi8,q1,u1,vv,e25,Nat.mul_one,p2,m2,w_regionA2,inOrd,List.filterMap_cons,List.filterMap_nil,Is,show vid v' = v' from rfl,u4',← hg3,p3,m3,w1,lv',hz,w5',← hg4]
        exact ⟨8 - (i + 1), by omega, i + 1, _, rfl, by omega, rfl, B4, (o4 _ fun e => by rw [e, B2.spots.hp] at hpk2; cases hpk2).trans hpk3, kt3.trans kt34, fun t ht => hid3 t ((tdel_sub _ _).subset ht)⟩
      · have hkn : kf k ks ≠ [] := fun e => hz (by rw [e]; rfl)
        have sp3 : Sp g3 (tput A' (i, v) v' cA) (mixL (i + 1) (dropC k l) l) := by
          have := B2.sp.put (h' := g3) (L' := mixL (i + 1) (dropC k l) l) (x := (i, v)) (c := cA) (id := id) (post := post') B2.spots.keys hlt hLo (by rw [ka2]; exact hkn) hrest (by rw [ka2]; exact r3) (fun t ht hx => B2.sp.other ht hx e4)
          rw [ka2, ← hv'] at this
          exact this
        have B3 : Bk g3 p mo ma (tdel T k) cT (tput A' (i, v) v' cA) cA (mixL (i + 1) (dropC k l) l) :=
          ⟨p3, B2.of.keep ((o3 _ B2.ne).trans (o2 _ (Ne.symm d2))), M3, sp3, B2.ne⟩
        simp (maxSteps := 2000000) (discharger := omega) only [xc,xo,xr,x0,x1,x2,x3,x4,x5,x6,xd,xe,xb,kont_call,kont_pure,kont_round,isNil,slOk,sliceV,selems,srcElems,copyTo,dlen,eqAV,eqCells,eqS,wr,place,partVals,partEs,placeEs,mapOf,keyOk,keyCells,findK,Bool.bne_false,Bool.bne_true,List.drop_zero,List.nil_append,List.append_nil,List.take_zero,List.cons_append,List.take_succ_cons,List.drop_succ_cons,List.take_nil,List.drop_nil,Reg.isA,Reg.isV,Reg.stays,Reg.onto,Bool.false_or,Bool.or_false,Bool.false_and,Bool.and_false,Bool.true_and,Bool.and_true,Bool.or_true,Bool.true_or,↓reduceIte,reduceCtorEq,Nat.reduceEqDiff,Nat.reduceLT,Nat.reduceAdd,Nat.reduceMul,Nat.add_zero,Nat.zero_add,Nat.not_lt_zero,Nat.zero_ne_one,Nat.one_ne_zero,Nat.reduceLeDiff,Nat.lt_irrefl,Nat.zero_lt_succ,Bool.false_eq_true,Bool.not_true,Bool.not_false,Option.map_some,Option.map_none,Option.bind_some,Option.getD_some,Option.getD_none,and_self,and_true,true_and,List.length_cons,List.length_nil,List.any_nil,List.any_cons,Int.toNat_natCast,Int.cast_ofNat_Int,Int.natCast_zero,Int.natCast_nonneg,true_implies,or_true,true_or,false_or,or_false,beq_self_eq_true,Option.some.injEq,exists_eq_left',Int.reduceEq,Int.reduceLT,Int.reduceLE,Int.reduceGT,Int.reduceGE,Nat.reduceGT,Int.reduceNeg,Int.reduceToNat,Int.reduceAdd,Int.reduceMul,Int.reduceSub,Int.reducePow,decide_true,decide_false,decide_eq_true_eq,List.getElem?_cons_zero,List.getElem?_cons_succ,Nat.reduceBEq,Nat.reduceSub,exists_false,and_false,false_and,xu,List.set_cons_zero,List.set_cons_succ,wrap_i64,int_lt_t,int_lt_f,int_le_t,int_le_f,int_gt_t,int_gt_f,int_ge_t,int_ge_f,int_eq_t,int_eq_f,int_beq_t,int_beq_f,int_bne_t,int_bne_f,nat_le_t,nat_le_f,Nat.sub_zero,Nat.sub_self,not_false_eq_true,not_true_eq_false,h0,h1,hi8,q1,u1,vv,e25,Nat.mul_one,p2,m2,w_regionA2,inOrd,List.filterMap_cons,List.filterMap_nil,Is,show vid v' = v' from rfl,u4',← hg3,p3,m3,w1,lv',hz]
        exact ⟨8 - (i + 1), by omega, i + 1, _, rfl, by omega, rfl, B3, hpk3, kt3, hid3⟩
    · obtain rfl : i = 8 := by omega
      simp (maxSteps := 2000000) (discharger := omega) only [xc,xo,xr,x0,x1,x2,x3,x4,x5,x6,xd,xe,xb,kont_call,kont_pure,kont_round,isNil,slOk,sliceV,selems,srcElems,copyTo,dlen,eqAV,eqCells,eqS,wr,place,partVals,partEs,placeEs,mapOf,keyOk,keyCells,findK,Bool.bne_false,Bool.bne_true,List.drop_zero,List.nil_append,List.append_nil,List.take_zero,List.cons_append,List.take_succ_cons,List.drop_succ_cons,List.take_nil,List.drop_nil,Reg.isA,Reg.isV,Reg.stays,Reg.onto,Bool.false_or,Bool.or_false,Bool.false_and,Bool.and_false,Bool.true_and,Bool.and_true,Bool.or_true,Bool.true_or,↓reduceIte,reduceCtorEq,Nat.reduceEqDiff,Nat.reduceLT,Nat.reduceAdd,Nat.reduceMul,Nat.add_zero,Nat.zero_add,Nat.not_lt_zero,Nat.zero_ne_one,Nat.one_ne_zero,Nat.reduceLeDiff,Nat.lt_irrefl,Nat.zero_lt_succ,Bool.false_eq_true,Bool.not_true,Bool.not_false,Option.map_some,Option.map_none,Option.bind_some,Option.getD_some,Option.getD_none,and_self,and_true,true_and,List.length_cons,List.length_nil,List.any_nil,List.any_cons,Int.toNat_natCast,Int.cast_ofNat_Int,Int.natCast_zero,Int.natCast_nonneg,true_implies,or_true,true_or,false_or,or_false,beq_self_eq_true,Option.some.injEq,exists_eq_left',Int.reduceEq,Int.reduceLT,Int.reduceLE,Int.reduceGT,Int.reduceGE,Nat.reduceGT,Int.reduceNeg,Int.reduceToNat,Int.reduceAdd,Int.reduceMul,Int.reduceSub,Int.reducePow,decide_true,decide_false,decide_eq_true_eq,List.getElem?_cons_zero,List.getElem?_cons_succ,Nat.reduceBEq,Nat.reduceSub,exists_false,and_false,false_and,xu,List.set_cons_zero,List.set_cons_succ,wrap_i64,int_lt_t,int_lt_f,int_le_t,int_le_f,int_gt_t,int_gt_f,int_ge_t,int_ge_f,int_eq_t,int_eq_f,int_beq_t,int_beq_f,int_bne_t,int_bne_f,nat_le_t,nat_le_f,Nat.sub_zero,Nat.sub_self,not_false_eq_true,not_true_eq_false]
      exact ⟨tdel T k, A', ⟨B2.ptr, B2.of, B2.spots, B2.sp.of8, B2.ne⟩, hTd, hKT2⟩
end Go.Proofs.Ytdjlcddkfjbebaa.Im

/- S18D: a chunk is put into a book. -/
set_option linter.unusedVariables false
set_option linter.unusedSimpArgs false
open Go Go.Im
namespace Go.Proofs.Ytdjlcddkfjbebaa.Im

theorem app_key (k : Int) {v : AV} {ks : List Int} {g : Hp} (hv : (v = .nils ∧ ks = []) ∨ ∃ id post, v = .row id 32 0 ks.length false ∧ g[id]? = some (.row 32 (kAs ks ++ post))) (hl : ks.length ≤ 1000) :
    ∃ id post g', appendV true 32 32 v [kk k] g = some (.row id 32 0 (ks.length + 1) false, g') ∧ g'[id]? = some (.row 32 (kAs (ks ++ [k]) ++ post)) ∧ (∀ (j : Nat) o, g[j]? = some o → (v = .nils ∨ j ≠ rid v) → g'[j]? = some o) ∧ ((v ≠ .nils ∧ id = rid v) ∨ g.length ≤ id) := by
  have hx : ([kk k] : List AV) ≠ [] := by simp
  have hk : kAs (ks ++ [k]) = kAs ks ++ [kk k] := by simp [kAs]
  rcases hv with ⟨rfl, rfl⟩ | ⟨id, post, rfl, e⟩
  · refine ⟨g.length, [], g ++ [.row 32 [kk k]], ?_, by simp [kAs], fun j o ho _ => ?_, .inr (Nat.le_refl _)⟩
    · simp only [appendV,if_neg hx,Im.newRow,if_true]
      rw [if_pos (by simp)]
      rfl
    · rw [List.getElem?_append_left (List.getElem?_eq_some_iff.1 ho).1]; exact ho
  · have hlt := (List.getElem?_eq_some_iff.1 e).1
    have hkl := kAs_len ks
    cases post with
    | cons y post =>
      refine ⟨id, post, g.set id (.row 32 (kAs ks ++ ([kk k] ++ post))), ?_, by rw [hk]; simp [hlt], fun j o ho hj => ?_, .inl ⟨by simp, rfl⟩⟩
      · simp only [appendV,if_neg hx,e]
        rw [if_pos ⟨trivial, trivial, by simp [hkl], by simp; omega⟩]
        simp only [Bool.false_eq_true,if_false,Nat.zero_add,List.length_singleton]
        rw [if_pos (by simp [hkl])]
        have ht : (kAs ks ++ y :: post).take ks.length = kAs ks := by rw [← hkl, List.take_left]
        have hd : (kAs ks ++ y :: post).drop (ks.length + 1) = post := by
          rw [← hkl, List.drop_append, List.drop_of_length_le (by omega)]
          simp
        rw [ht, hd]
      · rw [List.getElem?_set]
        split
        · rename_i e2; subst e2
          rcases hj with hj | hj
          · cases hj
          · exact absurd rfl hj
        · exact ho
    | nil =>
      simp only [List.append_nil] at e
      refine ⟨g.length, [], g.set id .dead ++ [.row 32 (kAs ks ++ [kk k])], ?_, by rw [hk]; simp, fun j o ho hj => ?_, .inr (Nat.le_refl _)⟩
      · simp only [appendV,if_neg hx,e]
        rw [if_pos ⟨trivial, trivial, by simp [hkl], by simp; omega⟩]
        simp only [Bool.false_eq_true,if_false,Nat.zero_add,List.length_singleton]
        rw [if_neg (by omega), if_pos ⟨trivial, hkl.symm⟩]
      · rw [List.getElem?_append_left (by rw [List.length_set]; exact (List.getElem?_eq_some_iff.1 ho).1), List.getElem?_set]
        split
        · rename_i e2; subst e2
          rcases hj with hj | hj
          · cases hj
          · exact absurd rfl hj
        · exact ho

def addC (k : Int) (s : List Int) (l : List Ch) : List Ch := dropC k l ++ [(k, s)]
theorem ka_snoc (d : List Ch) (k : Int) (s : List Int) (x : Nat × Int) : ka (fun _ => d ++ [(k, s)]) x = if s.getD x.1 0 = x.2 then ka (fun _ => d) x ++ [k] else ka (fun _ => d) x := by
  unfold ka
  rw [List.filter_append, List.map_append]
  have hs : List.filter (fun c : Ch => decide (c.2.getD x.1 0 = x.2)) [(k, s)] = if s.getD x.1 0 = x.2 then [(k, s)] else [] := by
    rw [List.filter_cons]
    simp only [List.filter_nil,decide_eq_true_eq]
  rw [hs]
  by_cases e : s.getD x.1 0 = x.2
  · rw [if_pos e, if_pos e]; rfl
  · rw [if_neg e, if_neg e, List.map_nil, List.append_nil]

theorem dropC_len (k : Int) (l : List Ch) : (dropC k l).length ≤ l.length := List.length_filter_le _ _

theorem add_row {g g1 g2 g3 g4 : Hp} {p mo ma cT cA c2 : Nat} {T : List (Int × List Int × Nat)} {A : Spots} {d : List Ch} {k v : Int} {s : List Int} {i : Nat} {v0 : AV} {id : Nat} {post : List AV} {ks : List Int}
    (B : Bk g p mo ma T cT A cA (mixL i (d ++ [(k, s)]) d)) (hi : i < 8) (hv : v = s.getD i 0) (hks : ks = ka (fun _ => d) (i, v)) (hg1 : g1 = g ++ [.row 32 [kk k]])
    (hv0 : (v0 = .nils ∧ tget A (i, v) = none ∧ c2 = cA + 1) ∨ (∃ id0, v0 = .row id0 32 0 ks.length false ∧ tget A (i, v) = some v0 ∧ (∃ u ∈ A, u.1 = (i, v) ∧ rid u.2.1 = id0) ∧ c2 = cA))
    (h2 : ∀ j, j ≠ ma → g2[j]? = g1[j]?) (hl2 : g2.length = g1.length) (hr : g3[id]? = some (.row 32 (kAs (ks ++ [k]) ++ post))) (h3 : ∀ (j : Nat) o, g2[j]? = some o → (v0 = .nils ∨ j ≠ rid v0) → g3[j]? = some o) (hid : (v0 ≠ .nils ∧ id = rid v0) ∨ g2.length ≤ id)
    (hm3 : ∃ o, g3[ma]? = some o ∧ ∀ z e, o ≠ AO.tail z e) (hg4 : g4 = g3.set ma (.map (encE sA vid (tput A (i, v) (.row id 32 0 (ks.length + 1) false) cA)) c2)) :
    Bk g4 p mo ma T cT (tput A (i, v) (.row id 32 0 (ks.length + 1) false) cA) c2 (mixL (i + 1) (d ++ [(k, s)]) d) ∧ KT g g4 := by
  have hka : ka (fun _ => d ++ [(k, s)]) (i, v) = ks ++ [k] := by
    rw [ka_snoc, if_pos hv.symm, hks]
  have hka1 : ka (mixL (i + 1) (d ++ [(k, s)]) d) (i, v) = ks ++ [k] := by rw [(ka_at (i := i) (n := v)).1, hka]
  have hLo : ∀ y : Nat × Int, y ≠ (i, v) → ka (mixL (i + 1) (d ++ [(k, s)]) d) y = ka (mixL i (d ++ [(k, s)]) d) y := fun y hy => by
    apply ka_mix
    by_cases hy1 : y.1 = i
    · refine .inr ?_
      rw [ka_snoc, if_neg fun e => hy (Prod.ext hy1 (by rw [← e, hv, hy1]))]
    · exact .inl hy1
  have k1 : ∀ (j : Nat) o, g[j]? = some o → g1[j]? = some o := fun j o e => by rw [hg1, List.getElem?_append_left (List.getElem?_eq_some_iff.1 e).1]; exact e
  have hgl : g.length ≤ g2.length := by rw [hl2, hg1]; simp
  have hrv : v0 = .nils ∨ ∃ u ∈ A, u.1 = (i, v) ∧ rid u.2.1 = rid v0 := by
    rcases hv0 with ⟨e, _⟩ | ⟨id0, e, _, h, _⟩
    · exact .inl e
    · right; rw [e]; exact h
  -- what is no row of this spot stays
  have stay : ∀ (j : Nat) o, g[j]? = some o → j ≠ ma → (v0 = .nils ∨ j ≠ rid v0) → g4[j]? = some o := fun j o e hj hn => by
    rw [hg4, List.getElem?_set, if_neg (Ne.symm hj)]
    exact h3 j o ((h2 j hj).trans (k1 j o e)) hn
  have nrow : ∀ (j : Nat) o, g[j]? = some o → (∀ es, o ≠ .row 32 es) → v0 = .nils ∨ j ≠ rid v0 := fun j o e ho => by
    rcases hrv with h | ⟨u, hu, _, h⟩
    · exact .inl h
    · right
      rintro rfl
      obtain ⟨id1, post1, e1, e2⟩ := B.sp.row u hu
      rw [← h, e1] at e
      simp only [rid] at e
      rw [e2] at e
      cases e
      exact ho _ rfl
  have hidma : id ≠ ma := by
    rcases hid with ⟨hn, h⟩ | h
    · rcases hrv with h5 | ⟨u, hu, _, h6⟩
      · exact absurd h5 hn
      · obtain ⟨id1, post1, e1, e2⟩ := B.sp.row u hu
        rw [h, ← h6, e1]
        simp only [rid]
        rintro rfl
        rw [B.spots.hp] at e2; cases e2
    · have := B.spots.lt
      omega
  have S4 : Sp g4 (tput A (i, v) (.row id 32 0 (ks.length + 1) false) cA) (mixL (i + 1) (d ++ [(k, s)]) d) := by
    have hne : ∀ t ∈ A, t.1 ≠ (i, v) → v0 = .nils ∨ rid t.2.1 ≠ rid v0 := fun t ht hx => by
      rcases hrv with h | h
      · exact .inl h
      · exact .inr (B.sp.other ht hx h)
    have hma : ∀ t ∈ A, ∀ es, g[rid t.2.1]? = some (.row 32 es) → rid t.2.1 ≠ ma := fun t ht es e e2 => by rw [e2, B.spots.hp] at e; cases e
    have := B.sp.put (h' := g4) (L' := mixL (i + 1) (d ++ [(k, s)]) d) (x := (i, v)) (c := cA) (id := id) (post := post) B.spots.keys hi hLo (by rw [hka1]; simp)
      (fun t ht hx es e => stay _ _ e (hma t ht es e) (hne t ht hx)) (by
        rw [hka1, hg4, List.getElem?_set, if_neg (Ne.symm hidma)]
        exact hr) (fun t ht hx => by
        obtain ⟨id1, post1, e1, e2⟩ := B.sp.row t ht
        rcases hid with ⟨hn, h⟩ | h
        · rw [h]
          rcases hne t ht hx with h5 | h5
          · exact absurd h5 hn
          · exact h5
        · rw [e1]
          simp only [rid]
          have := (List.getElem?_eq_some_iff.1 e2).1
          omega)
    rw [hka1, List.length_append] at this
    exact this
  refine ⟨⟨stay _ _ B.ptr B.ne2 (nrow _ _ B.ptr fun es e => by cases e), ?_, ?_, S4, B.ne⟩, fun j z e hj => stay _ _ hj (fun e2 => by rw [e2, B.spots.hp] at hj; cases hj) (nrow _ _ hj fun es e => by cases e)⟩
  · exact ⟨stay _ _ B.of.hp B.ne (nrow _ _ B.of.hp fun es e => by cases e), B.of.keys, B.of.born, B.of.once⟩
  · obtain ⟨o, ho, _⟩ := hm3
    have hlm := (List.getElem?_eq_some_iff.1 ho).1
    rcases hv0 with ⟨_, h5, rfl⟩ | ⟨id0, _, h5, _, rfl⟩
    · obtain ⟨z1, z2, z3⟩ := B.spots.addP (v := AV.row id 32 0 (ks.length + 1) false) h5
      rw [← tput_new h5] at z1 z2 z3
      exact ⟨by rw [hg4]; simp [hlm], z1, z2, z3⟩
    · obtain ⟨z1, z2, z3⟩ := B.spots.setP (v := AV.row id 32 0 (ks.length + 1) false) (by rw [h5]; simp)
      exact ⟨by rw [hg4]; simp [hlm], z1, z2, z3⟩

theorem c14 {tot : Bool} {ω : Nat → Nat} {n : Nat} {p mo ma cT cA : Nat} {T : List (Int × List Int × Nat)} {A : Spots} {l : List Ch} (k : Int) (s : List Int) (h : Hp) (B : Bk h p mo ma T cT A cA (fun _ => l)) (hT : T.map (fun t => (t.1, t.2.1)) = l) (hl : l.length ≤ 500) (h8 : ∀ c ∈ l, c.2.length = 8) (hs8 : s.length = 8) (hn : 1030 < n) :
    ∃ h' T' cT' A' cA', call F n tot ω 14 [.ptr p 2 0 0, .agg (kCs k), .agg (intsOf .u32 s)] h = some (.tup [], h') ∧ Bk h' p mo ma T' cT' A' cA' (fun _ => addC k s l) ∧ T'.map (fun t => (t.1, t.2.1)) = addC k s l ∧ KT h h' := by
  obtain ⟨n, rfl⟩ : ∃ m, n = m + 1 := ⟨n - 1, by omega⟩
  suffices hx : ∃ v h', call F (n + 1) tot ω 14 [.ptr p 2 0 0, .agg (kCs k), .agg (intsOf .u32 s)] h = some (v, h') ∧ (v = .tup [] ∧ ∃ T' cT' A' cA', Bk h' p mo ma T' cT' A' cA' (fun _ => addC k s l) ∧ T'.map (fun t => (t.1, t.2.1)) = addC k s l ∧ KT h h') by
    obtain ⟨v, h', e1, rfl, T', cT', A', cA', e2, e3, e4⟩ := hx
    exact ⟨h', T', cT', A', cA', e1, e2, e3, e4⟩
  refine call_of (fn := a14) f14 (P := fun v h' => v = .tup [] ∧ ∃ T' cT' A' cA', Bk h' p mo ma T' cT' A' cA' (fun _ => addC k s l) ∧ T'.map (fun t => (t.1, t.2.1)) = addC k s l ∧ KT h h') ?_
  unfold a14
  have hi8 : (intsOf .u32 s).length = 8 := by simp [intsOf,hs8]
  have ht8 : (intsOf .u32 s).take 8 = intsOf .u32 s := List.take_of_length_le (by omega)
  have hd8 : (intsOf .u32 s).drop 8 = [] := List.drop_of_length_le (by omega)
  obtain ⟨g, T1, A1, e16, B1, hT1, kt1⟩ := c16 (tot := tot) (ω := ω) (n := n) k h B hT (by omega) h8 (by omega)
  have hdl := dropC_len k l
  have hnone : tget T1 k = none := by
    refine tget_none.2 fun t ht e => ?_
    have : (t.1, t.2.1) ∈ dropC k l := by rw [← hT1]; exact List.mem_map.2 ⟨t, ht, rfl⟩
    have := (List.mem_filter.1 this).2
    simp [e] at this
  have fno := findK_no (ev := sk) kEnc 0 hnone
  have M1 := B1.of.add hnone s
  obtain ⟨g0, hg0⟩ : ∃ g0, g0 = g.set mo (.map (encE kk sk T1 ++ [(kk k, sk s, cT)]) (cT + 1)) := ⟨_, rfl⟩
  have o0 : ∀ i, i ≠ mo → g0[i]? = g[i]? := fun i hi => by rw [hg0, List.getElem?_set, if_neg (Ne.symm hi)]
  have B0 : Bk g0 p mo ma (T1 ++ [(k, s, cT)]) (cT + 1) A1 cA (mixL 0 (dropC k l ++ [(k, s)]) (dropC k l)) := by
    refine ⟨(o0 _ B1.ne1).trans B1.ptr, by rw [hg0]; exact M1, B1.spots.keep (o0 _ B1.ne.symm), ?_, B1.ne⟩
    have : mixL 0 (dropC k l ++ [(k, s)]) (dropC k l) = fun _ => dropC k l := by funext r; simp [mixL]
    rw [this]
    exact B1.sp.keep fun t ht es e => (o0 _ fun e2 => by rw [e2, B1.of.hp] at e; cases e).trans e
  have kt0 : KT h g0 := kt1.trans (by rw [hg0]; exact KT.set B1.of.hp fun z e h => by cases h)
  have hT0 : (T1 ++ [(k, s, cT)]).map (fun t => (t.1, t.2.1)) = addC k s l := by
    rw [List.map_append, hT1]; rfl
  have b1 := B1.ptr
  have b2 := B1.of.hp
  simp (maxSteps := 2000000) (discharger := omega) only [xc,xo,xr,x0,x1,x2,x3,x4,x5,x6,xd,xe,xb,kont_call,kont_pure,kont_round,isNil,slOk,sliceV,selems,srcElems,copyTo,dlen,eqAV,eqCells,eqS,wr,place,partVals,partEs,placeEs,mapOf,keyOk,keyCells,findK,Bool.bne_false,Bool.bne_true,List.drop_zero,List.nil_append,List.append_nil,List.take_zero,List.cons_append,List.take_succ_cons,List.drop_succ_cons,List.take_nil,List.drop_nil,Reg.isA,Reg.isV,Reg.stays,Reg.onto,Bool.false_or,Bool.or_false,Bool.false_and,Bool.and_false,Bool.true_and,Bool.and_true,Bool.or_true,Bool.true_or,↓reduceIte,reduceCtorEq,Nat.reduceEqDiff,Nat.reduceLT,Nat.reduceAdd,Nat.reduceMul,Nat.add_zero,Nat.zero_add,Nat.not_lt_zero,Nat.zero_ne_one,Nat.one_ne_zero,Nat.reduceLeDiff,Nat.lt_irrefl,Nat.zero_lt_succ,Bool.false_eq_true,Bool.not_true,Bool.not_false,Option.map_some,Option.map_none,Option.bind_some,Option.getD_some,Option.getD_none,and_self,and_true,true_and,List.length_cons,List.length_nil,List.any_nil,List.any_cons,Int.toNat_natCast,Int.cast_ofNat_Int,Int.natCast_zero,Int.natCast_nonneg,true_implies,or_true,true_or,false_or,or_false,beq_self_eq_true,Option.some.injEq,exists_eq_left',Int.reduceEq,Int.reduceLT,Int.reduceLE,Int.reduceGT,Int.reduceGE,Nat.reduceGT,Int.reduceNeg,Int.reduceToNat,Int.reduceAdd,Int.reduceMul,Int.reduceSub,Int.reducePow,decide_true,decide_false,decide_eq_true_eq,List.getElem?_cons_zero,List.getElem?_cons_succ,Nat.reduceBEq,Nat.reduceSub,exists_false,and_false,false_and,xu,List.set_cons_zero,List.set_cons_succ,wrap_i64,int_lt_t,int_lt_f,int_le_t,int_le_f,int_gt_t,int_gt_f,int_ge_t,int_ge_f,int_eq_t,int_eq_f,int_beq_t,int_beq_f,int_bne_t,int_bne_f,nat_le_t,nat_le_f,Nat.sub_zero,Nat.sub_self,not_false_eq_true,not_true_eq_false,kCs_len,kCs_take,kCs_drop,kCs_key,hi8,ht8,hd8,e16,b1,b2,fno,← hg0]
  refine wpi_loop (fun m r g' => ∃ (i : Nat) (A' : Spots) (cA' : Nat), r = [(0, .val (.ptr p 2 0 0)), (4, .var (.agg (kCs k))), (20, .val (.agg (intsOf .u32 s))), (21, .val (.int .i64 i))] ∧ i ≤ 8 ∧ m = 8 - i ∧ Bk g' p mo ma (T1 ++ [(k, s, cT)]) (cT + 1) A' cA' (mixL i (dropC k l ++ [(k, s)]) (dropC k l)) ∧ KT h g') 8 (by omega) ⟨0, A1, cA, rfl, by omega, by omega, B0, kt0⟩ ?_
  rintro m r g' ⟨i, A', cA', rfl, hi, rfl, B2, kt2⟩
  by_cases hlt : i < 8
  · have q1 := intsOf_getD (k := .u32) (s := s) (i := i) (by omega)
    obtain ⟨v, hv⟩ : ∃ v, v = s.getD i 0 := ⟨_, rfl⟩
    rw [← hv] at q1
    obtain ⟨ks, hks⟩ : ∃ ks, ks = ka (fun _ => dropC k l) (i, v) := ⟨_, rfl⟩
    have ka1 := (ka_at (i := i) (a := dropC k l ++ [(k, s)]) (b := dropC k l) (n := v)).2
    rw [← hks] at ka1
    have hksl : ks.length ≤ 1000 := by rw [hks]; exact Nat.le_trans (ka_len (dropC k l) _ _ rfl) (by omega)
    obtain ⟨g1, hg1⟩ : ∃ g1, g1 = g' ++ [AO.row 32 [kk k]] := ⟨_, rfl⟩
    have p1 : g1[p]? = some (.row 2 [.agg [.mp mo, .mp ma]]) := by rw [hg1, List.getElem?_append_left B2.lp]; exact B2.ptr
    have p0 := B2.ptr
    have m1 : g1[ma]? = some (.map (encE sA vid A') cA') := by rw [hg1, List.getElem?_append_left B2.spots.lt]; exact B2.spots.hp
    have lr1 : g1[g'.length]? = some (.row 32 [kk k]) := by rw [hg1]; simp
    have hma1 : ma < g'.length := B2.spots.lt
    have hgl1 : g1.length = g'.length + 1 := by rw [hg1]; simp
    have hlm : g'.length ≠ ma := by omega
    have hlp : g'.length ≠ p := by have := B2.lp; omega
    rcases B2.sp.at (x := (i, v)) hlt with ⟨e1, e2⟩ | ⟨e1, id0, post0, e2, e3, e4⟩
    · rw [ka1] at e1
      have f1 := findK_no (ev := vid) sEnc 0 e2
      obtain ⟨f2, f3⟩ := B2.spots.entNo (k := (i, v)) AV.nils
      obtain ⟨g2, hg2⟩ : ∃ g2, g2 = g1.set ma (.map (encE sA vid A' ++ [(sA (i, v), .nils, cA')]) (cA' + 1)) := ⟨_, rfl⟩
      have o2 : ∀ j, j ≠ ma → g2[j]? = g1[j]? := fun j hj => by rw [hg2, List.getElem?_set, if_neg (Ne.symm hj)]
      have m2 : g2[ma]? = some (.map (encE sA vid A' ++ [(sA (i, v), .nils, cA')]) (cA' + 1)) := by rw [hg2, List.getElem?_set, if_pos rfl, if_pos (by omega)]
      obtain ⟨id, post, g3, a1, a2, a3, a4⟩ := app_key k (v := AV.nils) (ks := ks) (g := g2) (.inl ⟨rfl, e1⟩) hksl
      have r2 := (o2 _ hlm).trans lr1
      have m3 := a3 _ _ m2 (.inl rfl)
      obtain ⟨g4, hg4⟩ : ∃ g4, g4 = g3.set ma (.map (encE sA vid (tput A' (i, v) (.row id 32 0 (ks.length + 1) false) cA')) (cA' + 1)) := ⟨_, rfl⟩
      have f3' : (encE sA vid A' ++ [(sA (i, v), AV.nils, cA')]).modify A'.length (fun e => (e.1, AV.row id 32 0 (ks.length + 1) false, e.2.2)) = encE sA vid (tput A' (i, v) (.row id 32 0 (ks.length + 1) false) cA') := by
        rw [tput_new e2]
        refine (f3 (AV.row id 32 0 (ks.length + 1) false)).trans ?_
        simp [encE,vid]
      obtain ⟨c1, c2⟩ := add_row (g2 := g2) (g3 := g3) (c2 := cA' + 1) (v0 := AV.nils) B2 hlt hv hks hg1 (Or.inl ⟨rfl, e2, rfl⟩) o2 (by rw [hg2]; simp) a2 a3 a4 ⟨_, m3, fun z e h => by cases h⟩ hg4
      simp (maxSteps := 2000000) (discharger := omega) only [xc,xo,xr,x0,x1,x2,x3,x4,x5,x6,xd,xe,xb,kont_call,kont_pure,kont_round,isNil,slOk,sliceV,selems,srcElems,copyTo,dlen,eqAV,eqCells,eqS,wr,place,partVals,partEs,placeEs,mapOf,keyOk,keyCells,findK,Bool.bne_false,Bool.bne_true,List.drop_zero,List.nil_append,List.append_nil,List.take_zero,List.cons_append,List.take_succ_cons,List.drop_succ_cons,List.take_nil,List.drop_nil,Reg.isA,Reg.isV,Reg.stays,Reg.onto,Bool.false_or,Bool.or_false,Bool.false_and,Bool.and_false,Bool.true_and,Bool.and_true,Bool.or_true,Bool.true_or,↓reduceIte,reduceCtorEq,Nat.reduceEqDiff,Nat.reduceLT,Nat.reduceAdd,Nat.reduceMul,Nat.add_zero,Nat.zero_add,Nat.not_lt_zero,Nat.zero_ne_one,Nat.one_ne_zero,Nat.reduceLeDiff,Nat.lt_irrefl,Nat.zero_lt_succ,Bool.false_eq_true,Bool.not_true,Bool.not_false,Option.map_some,Option.map_none,Option.bind_some,Option.getD_some,Option.getD_none,and_self,and_true,true_and,List.length_cons,List.length_nil,List.any_nil,List.any_cons,Int.toNat_natCast,Int.cast_ofNat_Int,Int.natCast_zero,Int.natCast_nonneg,true_implies,or_true,true_or,false_or,or_false,beq_self_eq_true,Option.some.injEq,exists_eq_left',Int.reduceEq,Int.reduceLT,Int.reduceLE,Int.reduceGT,Int.reduceGE,Nat.reduceGT,Int.reduceNeg,Int.reduceToNat,Int.reduceAdd,Int.reduceMul,Int.reduceSub,Int.reducePow,decide_true,decide_false,decide_eq_true_eq,List.getElem?_cons_zero,List.getElem?_cons_succ,Nat.reduceBEq,Nat.reduceSub,exists_false,and_false,false_and,xu,List.set_cons_zero,List.set_cons_succ,wrap_i64,int_lt_t,int_lt_f,int_le_t,int_le_f,int_gt_t,int_gt_f,int_ge_t,int_ge_f,int_eq_t,int_eq_f,int_beq_t,int_beq_f,int_bne_t,int_bne_f,nat_le_t,nat_le_f,Nat.sub_zero,Nat.sub_self,not_false_eq_true,not_true_eq_false,kCs_len,kCs_take,kCs_drop,p0,p1,hi8,q1,Nat.mul_one,← hg1,m1,f1,← hg2,r2,a1,m3,f2,f3',← hg4,List.replicate_succ,List.replicate_zero,List.set_cons_zero]
      exact ⟨8 - (i + 1), by omega, i + 1, _, _, rfl, by omega, rfl, c1, kt2.trans c2⟩
    · rw [ka1] at e1 e2 e3
      obtain ⟨j, b, f1, f2, f3, f4, f5, f6⟩ := B2.spots.entYes sEnc e2
      obtain ⟨g2, hg2⟩ : ∃ g2, g2 = g1.set ma (.map (encE sA vid A') cA') := ⟨_, rfl⟩
      have o2 : ∀ j, j ≠ ma → g2[j]? = g1[j]? := fun j hj => by rw [hg2, List.getElem?_set, if_neg (Ne.symm hj)]
      have m2 : g2[ma]? = some (.map (encE sA vid A') cA') := by rw [hg2, List.getElem?_set, if_pos rfl, if_pos (by omega)]
      have hne : id0 ≠ ma := fun e => by rw [e, B2.spots.hp] at e3; cases e3
      have e3' : g2[id0]? = some (.row 32 (kAs ks ++ post0)) := by
        rw [o2 _ hne, hg1, List.getElem?_append_left (List.getElem?_eq_some_iff.1 e3).1]; exact e3
      obtain ⟨id, post, g3, a1, a2, a3, a4⟩ := app_key k (v := .row id0 32 0 ks.length false) (ks := ks) (g := g2) (.inr ⟨id0, post0, rfl, e3'⟩) hksl
      have r2 := (o2 _ hlm).trans lr1
      have m3 := a3 _ _ m2 (.inr (Ne.symm hne))
      obtain ⟨g4, hg4⟩ : ∃ g4, g4 = g3.set ma (.map (encE sA vid (tput A' (i, v) (.row id 32 0 (ks.length + 1) false) cA')) cA') := ⟨_, rfl⟩
      have f3' : (encE sA vid A').modify j (fun e => (AV.agg [.int .i64 (i : Int), .int .u32 v], e.2.1, e.2.2)) = encE sA vid A' := f3
      have f5' : (encE sA vid A').modify j (fun e => (e.1, AV.row id 32 0 (ks.length + 1) false, e.2.2)) = encE sA vid (tput A' (i, v) (.row id 32 0 (ks.length + 1) false) cA') := f5 (.row id 32 0 (ks.length + 1) false) cA'
      have vv : vid (AV.row id0 32 0 ks.length false) = .row id0 32 0 ks.length false := rfl
      obtain ⟨c1, c2⟩ := add_row (g2 := g2) (g3 := g3) (c2 := cA') (v0 := .row id0 32 0 ks.length false) B2 hlt hv hks hg1 (.inr ⟨id0, rfl, e2, e4, rfl⟩) o2 (by rw [hg2]; simp) a2 a3 a4 ⟨_, m3, fun z e h => by cases h⟩ hg4
      simp (maxSteps := 2000000) (discharger := omega) only [xc,xo,xr,x0,x1,x2,x3,x4,x5,x6,xd,xe,xb,kont_call,kont_pure,kont_round,isNil,slOk,sliceV,selems,srcElems,copyTo,dlen,eqAV,eqCells,eqS,wr,place,partVals,partEs,placeEs,mapOf,keyOk,keyCells,findK,Bool.bne_false,Bool.bne_true,List.drop_zero,List.nil_append,List.append_nil,List.take_zero,List.cons_append,List.take_succ_cons,List.drop_succ_cons,List.take_nil,List.drop_nil,Reg.isA,Reg.isV,Reg.stays,Reg.onto,Bool.false_or,Bool.or_false,Bool.false_and,Bool.and_false,Bool.true_and,Bool.and_true,Bool.or_true,Bool.true_or,↓reduceIte,reduceCtorEq,Nat.reduceEqDiff,Nat.reduceLT,Nat.reduceAdd,Nat.reduceMul,Nat.add_zero,Nat.zero_add,Nat.not_lt_zero,Nat.zero_ne_one,Nat.one_ne_zero,Nat.reduceLeDiff,Nat.lt_irrefl,Nat.zero_lt_succ,Bool.false_eq_true,Bool.not_true,Bool.not_false,Option.map_some,Option.map_none,Option.bind_some,Option.getD_some,Option.getD_none,and_self,and_true,true_and,List.length_cons,List.length_nil,List.any_nil,List.any_cons,Int.toNat_natCast,Int.cast_ofNat_Int,Int.natCast_zero,Int.natCast_nonneg,true_implies,or_true,true_or,false_or,or_false,beq_self_eq_true,Option.some.injEq,exists_eq_left',Int.reduceEq,Int.reduceLT,Int.reduceLE,Int.reduceGT,Int.reduceGE,Nat.reduceGT,Int.reduceNeg,Int.reduceToNat,Int.reduceAdd,Int.reduceMul,Int.reduceSub,Int.reducePow,decide_true,decide_false,decide_eq_true_eq,List.getElem?_cons_zero,List.getElem?_cons_succ,Nat.reduceBEq,Nat.reduceSub,exists_false,and_false,false_and,xu,List.set_cons_zero,List.set_cons_succ,wrap_i64,int_lt_t,int_lt_f,int_le_t,int_le_f,int_gt_t,int_gt_f,int_ge_t,int_ge_f,int_eq_t,int_eq_f,int_beq_t,int_beq_f,int_bne_t,int_bne_f,nat_le_t,nat_le_f,Nat.sub_zero,Nat.sub_self,not_false_eq_true,not_true_eq_false,kCs_len,kCs_take,kCs_drop,p0,p1,hi8,q1,Nat.mul_one,← hg1,m1,f1,f2,f3',vv,← hg2,r2,a1,m3,f4,f5',← hg4,List.replicate_succ,List.replicate_zero,List.set_cons_zero]
      exact ⟨8 - (i + 1), by omega, i + 1, _, _, rfl, by omega, rfl, c1, kt2.trans c2⟩
  · obtain rfl : i = 8 := by omega
    simp (maxSteps := 2000000) (discharger := omega) only [xc,xo,xr,x0,x1,x2,x3,x4,x5,x6,xd,xe,xb,kont_call,kont_pure,kont_round,isNil,slOk,sliceV,selems,srcElems,copyTo,dlen,eqAV,eqCells,eqS,wr,place,partVals,partEs,placeEs,mapOf,keyOk,keyCells,findK,Bool.bne_false,Bool.bne_true,List.drop_zero,List.nil_append,List.append_nil,List.take_zero,List.cons_append,List.take_succ_cons,List.drop_succ_cons,List.take_nil,List.drop_nil,Reg.isA,Reg.isV,Reg.stays,Reg.onto,Bool.false_or,Bool.or_false,Bool.false_and,Bool.and_false,Bool.true_and,Bool.and_true,Bool.or_true,Bool.true_or,↓reduceIte,reduceCtorEq,Nat.reduceEqDiff,Nat.reduceLT,Nat.reduceAdd,Nat.reduceMul,Nat.add_zero,Nat.zero_add,Nat.not_lt_zero,Nat.zero_ne_one,Nat.one_ne_zero,Nat.reduceLeDiff,Nat.lt_irrefl,Nat.zero_lt_succ,Bool.false_eq_true,Bool.not_true,Bool.not_false,Option.map_some,Option.map_none,Option.bind_some,Option.getD_some,Option.getD_none,and_self,and_true,true_and,List.length_cons,List.length_nil,List.any_nil,List.any_cons,Int.toNat_natCast,Int.cast_ofNat_Int,Int.natCast_zero,Int.natCast_nonneg,true_implies,or_true,true_or,false_or,or_false,beq_self_eq_true,Option.some.injEq,exists_eq_left',Int.reduceEq,Int.reduceLT,Int.reduceLE,Int.reduceGT,Int.reduceGE,Nat.reduceGT,Int.reduceNeg,Int.reduceToNat,Int.reduceAdd,Int.reduceMul,Int.reduceSub,Int.reducePow,decide_true,decide_false,decide_eq_true_eq,List.getElem?_cons_zero,List.getElem?_cons_succ,Nat.reduceBEq,Nat.reduceSub,exists_false,and_false,false_and,xu,List.set_cons_zero,List.set_cons_succ,wrap_i64,int_lt_t,int_lt_f,int_le_t,int_le_f,int_gt_t,int_gt_f,int_ge_t,int_ge_f,int_eq_t,int_eq_f,int_beq_t,int_beq_f,int_bne_t,int_bne_f,nat_le_t,nat_le_f,Nat.sub_zero,Nat.sub_self,not_false_eq_true,not_true_eq_false]
    exact ⟨_, _, A', cA', ⟨B2.ptr, B2.of, B2.spots, B2.sp.of8, B2.ne⟩, hT0, kt2⟩
end Go.Proofs.Ytdjlcddkfjbebaa.Im

/- Joined: S14Sv, S14Sw, S14Sx. -/
import Derived.Test.YtabpndekmpjmhaaRu
import Derived.Test.YtabpndekmpjmhaaImMapT
/- S14Sv: the law, step by step: what is merged. -/
set_option linter.unusedVariables false
set_option linter.unusedSimpArgs false
open Go Go.Im
namespace Go.Proofs.Ytabpndekmpjmhaa.Im

abbrev eI (f : Int) : AV := .int .i64 f
abbrev eS (k : By) : AV := .str k
abbrev evM (id : Nat) : AV := .mp id
abbrev iv (n : Int) : AV := .int .i64 n
theorem encI : KeyEnc false [.i] eI := ⟨fun a b => by simp [eqAV,eqS]; exact Bool.beq_eq_decide_eq a b, fun a => rfl⟩
theorem encS : KeyEnc false [.s] eS := ⟨fun a b => by simp [eqAV,eqS]; exact Bool.beq_eq_decide_eq a b, fun a => rfl⟩

def KX (X : List Nat) (h h' : Hp) : Prop := h.length ≤ h'.length ∧ ∀ (i : Nat) (o : AO), i ∉ X → h[i]? = some o → h'[i]? = some o
theorem KX.refl {X : List Nat} {h : Hp} : KX X h h := ⟨Nat.le_refl _, fun _ _ _ h => h⟩
theorem KX.trans {X : List Nat} {a b c : Hp} (x : KX X a b) (y : KX X b c) : KX X a c := ⟨Nat.le_trans x.1 y.1, fun i o h1 h2 => y.2 i o h1 (x.2 i o h1 h2)⟩
theorem KX.app {X : List Nat} {h : Hp} (m : Hp) : KX X h (h ++ m) := ⟨by simp, fun i o _ h1 => by rw [List.getElem?_append_left (List.getElem?_eq_some_iff.1 h1).1]; exact h1⟩
theorem KX.set {X : List Nat} {h : Hp} {i : Nat} {o : AO} (hi : i ∈ X) : KX X h (h.set i o) := ⟨by simp, fun j o' h1 h2 => by rw [List.getElem?_set_ne (fun e => h1 (by rw [← e]; exact hi))]; exact h2⟩
theorem KX.of {X : List Nat} {h h' : Hp} (k : KeepLo h.length h h') : KX X h h' := ⟨k.1, fun i o _ h1 => k.2 i o (List.getElem?_eq_some_iff.1 h1).1 h1⟩
theorem KX.mono {X Y : List Nat} {h h' : Hp} (k : KX X h h') (s : ∀ i ∈ X, i ∈ Y) : KX Y h h' := ⟨k.1, fun i o h1 h2 => k.2 i o (fun h => h1 (s i h)) h2⟩
theorem mapH_kx {κ ν : Type} [DecidableEq κ] {ek : κ → AV} {ev : ν → AV} {X : List Nat} {h h' : Hp} {id c : Nat} {T : List (κ × ν × Nat)} (M : MapH h id ek ev T c) (k : KX X h h') (hi : id ∉ X) : MapH h' id ek ev T c := M.keep ((k.2 _ _ hi M.hp).trans M.hp.symm)

structure Tn where
  keys : List By
  val : AV
def Tn.av (t : Tn) : AV := .agg [t.val]
def ksOf (l : List By) : List AV := l.map eS
theorem ksOf_len (l : List By) : (ksOf l).length = l.length := by simp [ksOf]
def Tn.ok (t : Tn) : Prop := IsRd 1 (ksOf t.keys) t.val
theorem ks_at {l : List By} {v : AV} {i : Nat} (h : IsRd 1 (ksOf l) v) (hi : i < l.length) : ∃ c, v = .imm 1 (ksOf l) c ∧ (ksOf l)[i]? = some (.str l[i]) := by
  obtain ⟨c, rfl⟩ := h.imm (i := i) (by rw [ksOf_len]; exact hi)
  exact ⟨c, rfl, by simp [ksOf,hi]⟩
theorem ks_len {l : List By} {v : AV} (h : IsRd 1 (ksOf l) v) : lenSl v = some l.length := by rw [h.len, ksOf_len]
def tnsOf (l : List Tn) : List AV := l.map Tn.av
theorem tns_at {l : List Tn} {v : AV} {i : Nat} (h : IsRd 1 (tnsOf l) v) (hi : i < l.length) : ∃ c, v = .imm 1 (tnsOf l) c ∧ (tnsOf l)[i]? = some (.agg [l[i].val]) := by
  obtain ⟨c, rfl⟩ := h.imm (i := i) (by simp [tnsOf]; exact hi)
  exact ⟨c, rfl, by simp [tnsOf,hi,Tn.av]⟩

abbrev HTt := List (Int × Nat × Nat)
abbrev LTt := List (By × Int × Nat)
def hvF (HT : HTt) (IN : Nat → LTt) : Hv := fun f k => (tget HT f).bind fun id => tget (IN id) k

structure Mp (g : Hp) (mh ml : Nat) (HT : HTt) (cH : Nat) (LT : LTt) (cL : Nat) (IN : Nat → LTt) : Prop where
  hh : MapH g mh eI evM HT cH
  hl : MapH g ml eS iv LT cL
  ne : mh ≠ ml
  inn : ∀ t ∈ HT, t.2.1 ≠ mh ∧ t.2.1 ≠ ml ∧ ∃ c, MapH g t.2.1 eS iv (IN t.2.1) c

def orE (E : LTt) (k : By) (o : Option Int) (E' : LTt) : Prop := ∀ k', tget E' k' = if k = k' then (tget E k).or o else tget E k'

section
variable {ω : Nat → Nat} {n : Nat} {tv av u pv ed x : AV} {mh ml me cH cL cE : Nat} {fan i j q a : Nat} {HT : HTt} {LT E : LTt} {IN : Nat → LTt} {tns : List Tn} {fs : List Int} {Out : Int} {plo phi : By} {pb : Bool} {g : Hp}

abbrev RBs (tv av u : AV) (fan mh ml i me : Nat) : Regs := [(0, .val tv), (1, .val (.int .u8 fan)), (2, .val av), (7, .var u), (8, .val (.mp mh)), (9, .val (.mp ml)), (10, .val (.int .i64 i)), (11, .val (.mp me))]

theorem w_f (ht : IsRd 1 (tnsOf tns) tv) (hok : ∀ t ∈ tns, t.ok) (hpv : IsRd 1 (fs.map eI) pv) (ha : a < fs.length) (hj : j < tns.length) (hq : q < tns[j].keys.length) (hn : 100 < n) (M : Mp g mh ml HT cH LT cL IN) (hE : MapH g me eS iv E cE) (hme : me ≠ mh ∧ me ≠ ml ∧ ∀ t ∈ HT, t.2.1 ≠ me) :
    Wp (kont F n true ω) n w3f [(0, .val tv), (1, .val (.int .u8 fan)), (2, .val av), (7, .var u), (8, .val (.mp mh)), (9, .val (.mp ml)), (10, .val (.int .i64 i)), (11, .val (.mp me)), (12, .val ed), (13, .var x), (16, .var (.agg [pv, .int .i64 Out, .str plo, .str phi, .bool pb])), (18, .val (.int .i64 a)), (19, .val (.int .i64 j)), (20, .val (.int .i64 q)), (164, .val (.bool true))] g
      (fun e r g' => e = .normal ∧ (∃ ex, (ex = [] ∨ ∃ z1 z2 z3, ex = [(21, z1), (22, z2), (197, z3)]) ∧ r = [(0, .val tv), (1, .val (.int .u8 fan)), (2, .val av), (7, .var u), (8, .val (.mp mh)), (9, .val (.mp ml)), (10, .val (.int .i64 i)), (11, .val (.mp me)), (12, .val ed), (13, .var x), (16, .var (.agg [pv, .int .i64 Out, .str plo, .str phi, .bool pb])), (18, .val (.int .i64 a)), (19, .val (.int .i64 j)), (20, .val (.int .i64 q))] ++ ex) ∧
        KX [me] g g' ∧ ∃ E' cE', MapH g' me eS iv E' cE' ∧ orE E tns[j].keys[q] (hvF HT IN fs[a] tns[j].keys[q]) E') := by
  unfold w3f
  obtain ⟨c1', rfl, t1⟩ := tns_at ht hj
  obtain ⟨c2', t2, t3⟩ := ks_at (hok _ (List.getElem_mem hj)) hq
  rw [t2] at t1
  obtain ⟨c3', rfl⟩ := hpv.imm (i := a) (by simpa using ha)
  have t4 : (fs.map eI)[a]? = some (.int .i64 fs[a]) := by simp [ha]
  generalize tns[j].keys[q] = k at t3 ⊢
  generalize fs[a] = f at t4 ⊢
  have m1 := M.hh.hp
  have m2 := hE.hp
  have same : orE E k none E := fun k' => by
    by_cases e : k = k'
    · subst e; simp
    · rw [if_neg e]
  cases hE1 : tget E k with
  | some w =>
    obtain ⟨j2, f2, _⟩ := findK_yes (ev := iv) encS 0 hE1
    have same : ∀ o, orE E k o E := fun o k' => by
      by_cases e : k = k'
      · subst e; rw [hE1]; simp
      · rw [if_neg e]
    cases hH : tget HT f with
    | none =>
      have f1 := findK_no (ev := evM) encI 0 hH
      simp (maxSteps := 2000000) (discharger := omega) only [xz,xc,xo,xr,x0,x1,x2,x3,x4,x5,x6,xd,xe,xb,kont_call,kont_pure,kont_round,isNil,slOk,sliceV,selems,srcElems,copyTo,dlen,eqAV,eqCells,eqS,wr,place,partVals,partEs,placeEs,mapOf,keyOk,keyCells,findK,Bool.bne_false,Bool.bne_true,Reg.isA,Reg.isV,Reg.stays,Reg.onto,↓reduceIte,reduceCtorEq,Nat.reduceEqDiff,Nat.reduceLT,Nat.reduceAdd,Nat.reduceMul,Nat.reduceLeDiff,Nat.zero_lt_succ,Option.bind_some,Option.getD_some,Option.getD_none,Int.cast_ofNat_Int,Int.natCast_zero,Int.natCast_nonneg,true_implies,or_true,true_or,false_or,or_false,beq_self_eq_true,exists_eq_left',Int.reduceEq,Int.reduceLT,Int.reduceLE,Int.reduceGT,Int.reduceGE,Nat.reduceGT,Int.reduceNeg,Int.reduceToNat,Int.reduceAdd,Int.reduceMul,Int.reduceSub,Int.reducePow,decide_eq_true_eq,Nat.reduceBEq,Nat.reduceSub,exists_false,xu,List.set_cons_zero,List.set_cons_succ,wrap_i64,int_lt_t,int_lt_f,int_le_t,int_le_f,int_gt_t,int_gt_f,int_ge_t,int_ge_f,int_eq_t,int_eq_f,int_beq_t,int_beq_f,int_bne_t,int_bne_f,nat_le_t,nat_le_f,Nat.sub_zero,Nat.sub_self,not_false_eq_true,not_true_eq_false,t1,t3,t4,m1,m2,f1,f2]
      exact ⟨⟨_, .inr ⟨_, _, _, rfl⟩, rfl⟩, .refl, E, _, hE, same _⟩
    | some id =>
      obtain ⟨j1, f1, _⟩ := findK_yes (ev := evM) encI 0 hH
      obtain ⟨b, hb⟩ := tget_mem hH
      obtain ⟨i1, i2, c, hI⟩ := M.inn _ hb
      have m3 := hI.hp
      cases hv : tget (IN id) k with
      | none =>
        have f3 := findK_no (ev := iv) encS 0 hv
        simp (maxSteps := 2000000) (discharger := omega) only [xz,xc,xo,xr,x0,x1,x2,x3,x4,x5,x6,xd,xe,xb,kont_call,kont_pure,kont_round,isNil,slOk,sliceV,selems,srcElems,copyTo,dlen,eqAV,eqCells,eqS,wr,place,partVals,partEs,placeEs,mapOf,keyOk,keyCells,findK,Bool.bne_false,Bool.bne_true,Reg.isA,Reg.isV,Reg.stays,Reg.onto,↓reduceIte,reduceCtorEq,Nat.reduceEqDiff,Nat.reduceLT,Nat.reduceAdd,Nat.reduceMul,Nat.reduceLeDiff,Nat.zero_lt_succ,Option.bind_some,Option.getD_some,Option.getD_none,Int.cast_ofNat_Int,Int.natCast_zero,Int.natCast_nonneg,true_implies,or_true,true_or,false_or,or_false,beq_self_eq_true,exists_eq_left',Int.reduceEq,Int.reduceLT,Int.reduceLE,Int.reduceGT,Int.reduceGE,Nat.reduceGT,Int.reduceNeg,Int.reduceToNat,Int.reduceAdd,Int.reduceMul,Int.reduceSub,Int.reducePow,decide_eq_true_eq,Nat.reduceBEq,Nat.reduceSub,exists_false,xu,List.set_cons_zero,List.set_cons_succ,wrap_i64,int_lt_t,int_lt_f,int_le_t,int_le_f,int_gt_t,int_gt_f,int_ge_t,int_ge_f,int_eq_t,int_eq_f,int_beq_t,int_beq_f,int_bne_t,int_bne_f,nat_le_t,nat_le_f,Nat.sub_zero,Nat.sub_self,not_false_eq_true,not_true_eq_false,t1,t3,t4,m1,m2,m3,f1,f2,f3]
        exact ⟨⟨_, .inr ⟨_, _, _, rfl⟩, rfl⟩, .refl, E, _, hE, same _⟩
      | some y =>
        obtain ⟨j3, f3, _⟩ := findK_yes (ev := iv) encS 0 hv
        simp (maxSteps := 2000000) (discharger := omega) only [xz,xc,xo,xr,x0,x1,x2,x3,x4,x5,x6,xd,xe,xb,kont_call,kont_pure,kont_round,isNil,slOk,sliceV,selems,srcElems,copyTo,dlen,eqAV,eqCells,eqS,wr,place,partVals,partEs,placeEs,mapOf,keyOk,keyCells,findK,Bool.bne_false,Bool.bne_true,Reg.isA,Reg.isV,Reg.stays,Reg.onto,↓reduceIte,reduceCtorEq,Nat.reduceEqDiff,Nat.reduceLT,Nat.reduceAdd,Nat.reduceMul,Nat.reduceLeDiff,Nat.zero_lt_succ,Option.bind_some,Option.getD_some,Option.getD_none,Int.cast_ofNat_Int,Int.natCast_zero,Int.natCast_nonneg,true_implies,or_true,true_or,false_or,or_false,beq_self_eq_true,exists_eq_left',Int.reduceEq,Int.reduceLT,Int.reduceLE,Int.reduceGT,Int.reduceGE,Nat.reduceGT,Int.reduceNeg,Int.reduceToNat,Int.reduceAdd,Int.reduceMul,Int.reduceSub,Int.reducePow,decide_eq_true_eq,Nat.reduceBEq,Nat.reduceSub,exists_false,xu,List.set_cons_zero,List.set_cons_succ,wrap_i64,int_lt_t,int_lt_f,int_le_t,int_le_f,int_gt_t,int_gt_f,int_ge_t,int_ge_f,int_eq_t,int_eq_f,int_beq_t,int_beq_f,int_bne_t,int_bne_f,nat_le_t,nat_le_f,Nat.sub_zero,Nat.sub_self,not_false_eq_true,not_true_eq_false,t1,t3,t4,m1,m2,m3,f1,f2,f3]
        exact ⟨⟨_, .inr ⟨_, _, _, rfl⟩, rfl⟩, .refl, E, _, hE, same _⟩
  | none =>
    have f2 := findK_no (ev := iv) encS 0 hE1
    cases hH : tget HT f with
    | none =>
      have f1 := findK_no (ev := evM) encI 0 hH
      simp (maxSteps := 2000000) (discharger := omega) only [xz,xc,xo,xr,x0,x1,x2,x3,x4,x5,x6,xd,xe,xb,kont_call,kont_pure,kont_round,isNil,slOk,sliceV,selems,srcElems,copyTo,dlen,eqAV,eqCells,eqS,wr,place,partVals,partEs,placeEs,mapOf,keyOk,keyCells,findK,Bool.bne_false,Bool.bne_true,Reg.isA,Reg.isV,Reg.stays,Reg.onto,↓reduceIte,reduceCtorEq,Nat.reduceEqDiff,Nat.reduceLT,Nat.reduceAdd,Nat.reduceMul,Nat.reduceLeDiff,Nat.zero_lt_succ,Option.bind_some,Option.getD_some,Option.getD_none,Int.cast_ofNat_Int,Int.natCast_zero,Int.natCast_nonneg,true_implies,or_true,true_or,false_or,or_false,beq_self_eq_true,exists_eq_left',Int.reduceEq,Int.reduceLT,Int.reduceLE,Int.reduceGT,Int.reduceGE,Nat.reduceGT,Int.reduceNeg,Int.reduceToNat,Int.reduceAdd,Int.reduceMul,Int.reduceSub,Int.reducePow,decide_eq_true_eq,Nat.reduceBEq,Nat.reduceSub,exists_false,xu,List.set_cons_zero,List.set_cons_succ,wrap_i64,int_lt_t,int_lt_f,int_le_t,int_le_f,int_gt_t,int_gt_f,int_ge_t,int_ge_f,int_eq_t,int_eq_f,int_beq_t,int_beq_f,int_bne_t,int_bne_f,nat_le_t,nat_le_f,Nat.sub_zero,Nat.sub_self,not_false_eq_true,not_true_eq_false,t1,t3,t4,m1,m2,f1,f2]
      exact ⟨⟨_, .inr ⟨_, _, _, rfl⟩, rfl⟩, .refl, E, _, hE, by simpa [hvF, hH] using same⟩
    | some id =>
      obtain ⟨j1, f1, _⟩ := findK_yes (ev := evM) encI 0 hH
      obtain ⟨b, hb⟩ := tget_mem hH
      obtain ⟨i1, i2, c, hI⟩ := M.inn _ hb
      have m3 := hI.hp
      cases hv : tget (IN id) k with
      | none =>
        have f3 := findK_no (ev := iv) encS 0 hv
        simp (maxSteps := 2000000) (discharger := omega) only [xz,xc,xo,xr,x0,x1,x2,x3,x4,x5,x6,xd,xe,xb,kont_call,kont_pure,kont_round,isNil,slOk,sliceV,selems,srcElems,copyTo,dlen,eqAV,eqCells,eqS,wr,place,partVals,partEs,placeEs,mapOf,keyOk,keyCells,findK,Bool.bne_false,Bool.bne_true,Reg.isA,Reg.isV,Reg.stays,Reg.onto,↓reduceIte,reduceCtorEq,Nat.reduceEqDiff,Nat.reduceLT,Nat.reduceAdd,Nat.reduceMul,Nat.reduceLeDiff,Nat.zero_lt_succ,Option.bind_some,Option.getD_some,Option.getD_none,Int.cast_ofNat_Int,Int.natCast_zero,Int.natCast_nonneg,true_implies,or_true,true_or,false_or,or_false,beq_self_eq_true,exists_eq_left',Int.reduceEq,Int.reduceLT,Int.reduceLE,Int.reduceGT,Int.reduceGE,Nat.reduceGT,Int.reduceNeg,Int.reduceToNat,Int.reduceAdd,Int.reduceMul,Int.reduceSub,Int.reducePow,decide_eq_true_eq,Nat.reduceBEq,Nat.reduceSub,exists_false,xu,List.set_cons_zero,List.set_cons_succ,wrap_i64,int_lt_t,int_lt_f,int_le_t,int_le_f,int_gt_t,int_gt_f,int_ge_t,int_ge_f,int_eq_t,int_eq_f,int_beq_t,int_beq_f,int_bne_t,int_bne_f,nat_le_t,nat_le_f,Nat.sub_zero,Nat.sub_self,not_false_eq_true,not_true_eq_false,t1,t3,t4,m1,m2,m3,f1,f2,f3]
        exact ⟨⟨_, .inr ⟨_, _, _, rfl⟩, rfl⟩, .refl, E, _, hE, by simpa [hvF, hH, hv] using same⟩
      | some y =>
        obtain ⟨j3, f3, _⟩ := findK_yes (ev := iv) encS 0 hv
        have ad := hE.add hE1 y
        simp (maxSteps := 2000000) (discharger := omega) only [xz,xc,xo,xr,x0,x1,x2,x3,x4,x5,x6,xd,xe,xb,kont_call,kont_pure,kont_round,isNil,slOk,sliceV,selems,srcElems,copyTo,dlen,eqAV,eqCells,eqS,wr,place,partVals,partEs,placeEs,mapOf,keyOk,keyCells,findK,Bool.bne_false,Bool.bne_true,Reg.isA,Reg.isV,Reg.stays,Reg.onto,↓reduceIte,reduceCtorEq,Nat.reduceEqDiff,Nat.reduceLT,Nat.reduceAdd,Nat.reduceMul,Nat.reduceLeDiff,Nat.zero_lt_succ,Option.bind_some,Option.getD_some,Option.getD_none,Int.cast_ofNat_Int,Int.natCast_zero,Int.natCast_nonneg,true_implies,or_true,true_or,false_or,or_false,beq_self_eq_true,exists_eq_left',Int.reduceEq,Int.reduceLT,Int.reduceLE,Int.reduceGT,Int.reduceGE,Nat.reduceGT,Int.reduceNeg,Int.reduceToNat,Int.reduceAdd,Int.reduceMul,Int.reduceSub,Int.reducePow,decide_eq_true_eq,Nat.reduceBEq,Nat.reduceSub,exists_false,xu,List.set_cons_zero,List.set_cons_succ,wrap_i64,int_lt_t,int_lt_f,int_le_t,int_le_f,int_gt_t,int_gt_f,int_ge_t,int_ge_f,int_eq_t,int_eq_f,int_beq_t,int_beq_f,int_bne_t,int_bne_f,nat_le_t,nat_le_f,Nat.sub_zero,Nat.sub_self,not_false_eq_true,not_true_eq_false,t1,t3,t4,m1,m2,m3,f1,f2,f3]
        refine ⟨⟨[], .inl rfl, rfl⟩, KX.set (by simp), _, _, ad, fun k' => ?_⟩
        rw [← tput_new hE1, tget_put, hE1]
        simp [hvF,hH,hv]
end
end Go.Proofs.Ytabpndekmpjmhaa.Im

/- S14Sw: the law, step by step: the tables of a plan are gone through. -/
set_option linter.unusedVariables false
set_option linter.unusedSimpArgs false
open Go Go.Im
namespace Go.Proofs.Ytabpndekmpjmhaa.Im

theorem mp_keep {g g' : Hp} {mh ml cH cL : Nat} {HT : HTt} {LT : LTt} {IN : Nat → LTt} (M : Mp g mh ml HT cH LT cL IN) (k : KeepLo g.length g g') : Mp g' mh ml HT cH LT cL IN := by
  have h : KX [] g g' := .of k
  exact ⟨mapH_kx M.hh h (by simp), mapH_kx M.hl h (by simp), M.ne, fun t ht => by
    obtain ⟨a, b, c, d⟩ := M.inn t ht
    exact ⟨a, b, c, mapH_kx d h (by simp)⟩⟩
theorem lo_kx {g0 g g' : Hp} {me : Nat} (k : KeepLo g0.length g0 g) (h : KX [me] g g') (hm : g0.length ≤ me) : KeepLo g0.length g0 g' :=
  ⟨Nat.le_trans k.1 h.1, fun i o h1 h2 => h.2 i o (by simp; omega) (k.2 i o h1 h2)⟩
theorem app_kx {sz me : Nat} {es : List AV} {g g' : Hp} {v : AV} {m : List (AV × AV × Nat)} {c : Nat} (a : IsApp sz es g v) (h : KX [me] g g') (hm : g[me]? = some (.map m c)) : IsApp sz es g' v := by
  rcases a with a | a | ⟨id, a, e⟩
  · exact .inl a
  · exact .inr (.inl a)
  · refine .inr (.inr ⟨id, a, h.2 _ _ ?_ e⟩)
    simp
    rintro rfl
    rw [hm] at e; cases e

def orS (E : LTt) (P : List By) (o : By → Option Int) (E' : LTt) : Prop := ∀ k, tget E' k = if k ∈ P then (tget E k).or (o k) else tget E k
theorem orS_nil (E : LTt) (o : By → Option Int) : orS E [] o E := fun k => by simp
theorem orS_snoc {E E' E2 : LTt} {P : List By} {o : By → Option Int} {k : By} (h : orS E P o E') (h2 : orE E' k (o k) E2) : orS E (P ++ [k]) o E2 := fun k' => by
  rw [h2 k']
  by_cases e : k = k'
  · subst e
    have hm : k ∈ P ++ [k] := List.mem_append.2 (.inr (List.mem_singleton.2 rfl))
    rw [if_pos rfl, if_pos hm, h k]
    by_cases m : k ∈ P
    · rw [if_pos m]
      cases tget E k <;> cases o k <;> rfl
    · rw [if_neg m]
  · rw [if_neg e, h k']
    have : k' ∈ P ++ [k] ↔ k' ∈ P := ⟨fun h => (List.mem_append.1 h).resolve_right fun h => e (List.mem_singleton.1 h).symm, fun h => List.mem_append.2 (.inl h)⟩
    simp only [this]

theorem isRd_sub {sz : Nat} {es : List AV} {v : AV} (h : IsRd sz es v) : sub v 0 1 false = some v := by
  rcases h with ⟨rfl, _⟩ | ⟨c, rfl⟩ <;> rfl

def keysOf (tns : List Tn) : List By := tns.flatMap (·.keys)
theorem keysOf_take {tns : List Tn} {j : Nat} (h : j < tns.length) : keysOf (tns.take (j + 1)) = keysOf (tns.take j) ++ tns[j].keys := by
  unfold keysOf
  rw [List.take_succ_eq_append_getElem h, List.flatMap_append, List.flatMap_singleton]

section
variable {ω : Nat → Nat} {n : Nat} {tv av u pv ed x : AV} {mh ml me cH cL cE : Nat} {fan i j q a : Nat} {HT : HTt} {LT E : LTt} {IN : Nat → LTt} {tns : List Tn} {fs : List Int} {Out : Int} {plo phi : By} {pb : Bool} {g0 g : Hp} {xs : List Ed}

set_option maxHeartbeats 1000000 in
theorem w_d (ht : IsRd 1 (tnsOf tns) tv) (hok : ∀ t ∈ tns, t.ok) (hpv : IsRd 1 (fs.map eI) pv) (ha : a < fs.length) (hi : i ≤ tns.length) (hk30 : ∀ t ∈ tns.take i, t.keys.length ≤ 30) (hi100 : i ≤ 100) (hn : 1000 < n) (M : Mp g0 mh ml HT cH LT cL IN) (hme : g0.length ≤ me)
    (kp : KeepLo g0.length g0 g) (hE : MapH g me eS iv E cE) (ie : IsApp 6 (edsOf xs) g ed) (le : Late 6 g0 ed) (hxs : xs.length ≤ 5000) :
    Wp (kont F n true ω) n w3d [(0, .val tv), (1, .val (.int .u8 fan)), (2, .val av), (7, .var u), (8, .val (.mp mh)), (9, .val (.mp ml)), (10, .val (.int .i64 i)), (11, .val (.mp me)), (12, .val ed), (13, .var x), (16, .var (.agg [pv, .int .i64 Out, .str plo, .str phi, .bool pb])), (18, .val (.int .i64 a)), (140, .val (.bool true))] g
      (fun e r g' => e = .normal ∧ ∃ ed' z1 z2, r = [(0, .val tv), (1, .val (.int .u8 fan)), (2, .val av), (7, .var u), (8, .val (.mp mh)), (9, .val (.mp ml)), (10, .val (.int .i64 i)), (11, .val (.mp me)), (12, .val ed'), (13, .var x), (16, .var (.agg [pv, .int .i64 Out, .str plo, .str phi, .bool pb])), (18, .val (.int .i64 a)), (19, z1), (154, z2)] ∧
        KeepLo g0.length g0 g' ∧ IsApp 6 (edsOf (xs ++ [drp fs[a]])) g' ed' ∧ Late 6 g0 ed' ∧ ∃ E' cE', MapH g' me eS iv E' cE' ∧ orS E (keysOf (tns.take i)) (hvF HT IN fs[a]) E') := by
  have hlt := M.hh.lt
  have hlt2 := M.hl.lt
  have hme' : me ≠ mh ∧ me ≠ ml ∧ ∀ t ∈ HT, t.2.1 ≠ me := ⟨by omega, by omega, fun t ht => by
    obtain ⟨_, _, c, d⟩ := M.inn t ht
    have := d.lt
    omega⟩
  unfold w3d
  have hpv' := hpv
  obtain ⟨c3', rfl⟩ := hpv.imm (i := a) (by simpa using ha)
  have t4 : (fs.map eI)[a]? = some (.int .i64 fs[a]) := by simp [ha]
  obtain ⟨ed', g1, a1, a2, a3, a4⟩ := app_late (bytes := 64) (x := edOf (drp fs[a])) ie le (by rw [edsOf_len]; omega) kp
  have ir := ie.isRow
  have hE1 : MapH g1 me eS iv E cE := by
    -- what is appended to is no map
    refine hE.keep ?_
    obtain ⟨_, _, b1, _, _, _, b5, _⟩ := app_ok (bytes := 64) (xs := [edOf (drp fs[a])]) ie (by simp) (by rw [edsOf_len]; simp; omega)
    rw [a1] at b1
    cases b1
    rw [b5 me _ hE.hp fun c hc => ?_, hE.hp]
    rcases ie with ⟨rfl, _⟩ | h | ⟨id, h, e⟩
    · cases hc
    · rw [h] at hc; cases hc
    · rw [h] at hc; cases hc
      rw [hE.hp] at e; cases e
  have a2 : IsApp 6 (edsOf (xs ++ [drp fs[a]])) g1 ed' := by simpa [edsOf] using a2
  have hdr : edOf (drp fs[a]) = .agg [.int .i64 2, .int .i64 fs[a], .int .i64 0, .int .i64 0, .str [], .str []] := rfl
  rw [hdr] at a1
  simp (maxSteps := 2000000) (discharger := omega) only [xz,xc,xo,xr,x0,x1,x2,x3,x4,x5,x6,xd,xe,xb,kont_call,kont_pure,kont_round,isNil,slOk,sliceV,selems,srcElems,copyTo,dlen,eqAV,eqCells,eqS,wr,place,partVals,partEs,placeEs,mapOf,keyOk,keyCells,findK,Bool.bne_false,Bool.bne_true,Reg.isA,Reg.isV,Reg.stays,Reg.onto,↓reduceIte,reduceCtorEq,Nat.reduceEqDiff,Nat.reduceLT,Nat.reduceAdd,Nat.reduceMul,Nat.reduceLeDiff,Nat.zero_lt_succ,Option.bind_some,Option.getD_some,Option.getD_none,Int.cast_ofNat_Int,Int.natCast_zero,Int.natCast_nonneg,true_implies,or_true,true_or,false_or,or_false,beq_self_eq_true,exists_eq_left',Int.reduceEq,Int.reduceLT,Int.reduceLE,Int.reduceGT,Int.reduceGE,Nat.reduceGT,Int.reduceNeg,Int.reduceToNat,Int.reduceAdd,Int.reduceMul,Int.reduceSub,Int.reducePow,decide_eq_true_eq,Nat.reduceBEq,Nat.reduceSub,exists_false,xu,List.set_cons_zero,List.set_cons_succ,wrap_i64,int_lt_t,int_lt_f,int_le_t,int_le_f,int_gt_t,int_gt_f,int_ge_t,int_ge_f,int_eq_t,int_eq_f,int_beq_t,int_beq_f,int_bne_t,int_bne_f,nat_le_t,nat_le_f,Nat.sub_zero,Nat.sub_self,not_false_eq_true,not_true_eq_false,t4,a1,ir,List.replicate_succ,List.replicate_zero]
  refine wpi_loop (fun m r g' => ∃ (j : Nat) (E' : LTt) (cE' : Nat), r = [(0, .val tv), (1, .val (.int .u8 fan)), (2, .val av), (7, .var u), (8, .val (.mp mh)), (9, .val (.mp ml)), (10, .val (.int .i64 i)), (11, .val (.mp me)), (12, .val ed'), (13, .var x), (16, .var (.agg [.imm 1 (fs.map eI) c3', .int .i64 Out, .str plo, .str phi, .bool pb])), (18, .val (.int .i64 a)), (19, .val (.int .i64 j))] ∧ j ≤ i ∧ m = i - j ∧ KeepLo g0.length g0 g' ∧ IsApp 6 (edsOf (xs ++ [drp fs[a]])) g' ed' ∧
    MapH g' me eS iv E' cE' ∧ orS E (keysOf (tns.take j)) (hvF HT IN fs[a]) E') i (by omega) ⟨0, E, cE, rfl, by omega, by omega, a4, a2, hE1, by simpa [keysOf] using orS_nil _ _⟩ ?_
  rintro m r1 g2 ⟨j, E1, cE1, rfl, hj, rfl, kp2, ia2, hE2, o2⟩
  by_cases hji : j < i
  · have hjt : j < tns.length := by omega
    obtain ⟨c1', rfl, t1⟩ := tns_at ht hjt
    have htok := hok _ (List.getElem_mem hjt)
    have tl := ks_len htok
    have hsub := isRd_sub htok
    have t30 : tns[j].keys.length ≤ 30 := hk30 _ (List.mem_take_iff_getElem.2 ⟨j, by omega, rfl⟩)
    simp (maxSteps := 2000000) (discharger := omega) only [xz,xc,xo,xr,x0,x1,x2,x3,x4,x5,x6,xd,xe,xb,kont_call,kont_pure,kont_round,isNil,slOk,sliceV,selems,srcElems,copyTo,dlen,eqAV,eqCells,eqS,wr,place,partVals,partEs,placeEs,mapOf,keyOk,keyCells,findK,Bool.bne_false,Bool.bne_true,Reg.isA,Reg.isV,Reg.stays,Reg.onto,↓reduceIte,reduceCtorEq,Nat.reduceEqDiff,Nat.reduceLT,Nat.reduceAdd,Nat.reduceMul,Nat.reduceLeDiff,Nat.zero_lt_succ,Option.bind_some,Option.getD_some,Option.getD_none,Int.cast_ofNat_Int,Int.natCast_zero,Int.natCast_nonneg,true_implies,or_true,true_or,false_or,or_false,beq_self_eq_true,exists_eq_left',Int.reduceEq,Int.reduceLT,Int.reduceLE,Int.reduceGT,Int.reduceGE,Nat.reduceGT,Int.reduceNeg,Int.reduceToNat,Int.reduceAdd,Int.reduceMul,Int.reduceSub,Int.reducePow,decide_eq_true_eq,Nat.reduceBEq,Nat.reduceSub,exists_false,xu,List.set_cons_zero,List.set_cons_succ,wrap_i64,int_lt_t,int_lt_f,int_le_t,int_le_f,int_gt_t,int_gt_f,int_ge_t,int_ge_f,int_eq_t,int_eq_f,int_beq_t,int_beq_f,int_bne_t,int_bne_f,nat_le_t,nat_le_f,Nat.sub_zero,Nat.sub_self,not_false_eq_true,not_true_eq_false,t1,tl,hsub]
    refine wpi_loop (fun m r g' => ∃ (q : Nat) (E' : LTt) (cE' : Nat) (ex : Regs), (ex = [] ∨ ∃ z1 z2 z3, ex = [(21, z1), (22, z2), (197, z3)]) ∧ r = [(0, .val (.imm 1 (tnsOf tns) c1')), (1, .val (.int .u8 fan)), (2, .val av), (7, .var u), (8, .val (.mp mh)), (9, .val (.mp ml)), (10, .val (.int .i64 i)), (11, .val (.mp me)), (12, .val ed'), (13, .var x), (16, .var (.agg [.imm 1 (fs.map eI) c3', .int .i64 Out, .str plo, .str phi, .bool pb])), (18, .val (.int .i64 a)), (19, .val (.int .i64 j)), (20, .val (.int .i64 q))] ++ ex ∧ q ≤ tns[j].keys.length ∧ m = tns[j].keys.length - q ∧ KeepLo g0.length g0 g' ∧ IsApp 6 (edsOf (xs ++ [drp fs[a]])) g' ed' ∧
      MapH g' me eS iv E' cE' ∧ orS E (keysOf (tns.take j) ++ tns[j].keys.take q) (hvF HT IN fs[a]) E') tns[j].keys.length (by omega) ⟨0, E1, cE1, [], .inl rfl, rfl, by omega, by omega, kp2, ia2, hE2, by simpa using o2⟩ ?_
    rintro m r2 g3 ⟨q, E2, cE2, ex, hex, rfl, hq, rfl, kp3, ia3, hE3, o3⟩
    by_cases hql : q < tns[j].keys.length
    · have htk : tns[j].keys.take (q + 1) = tns[j].keys.take q ++ [tns[j].keys[q]] := List.take_succ_eq_append_getElem hql
      have wf := w_f (ω := ω) (n := n) (av := av) (u := u) (ed := ed') (x := x) (fan := fan) (i := i) (Out := Out) (plo := plo) (phi := phi) (pb := pb) (a := a) (j := j) (q := q) ht hok hpv' ha hjt hql (by omega) (mp_keep M kp3) hE3 hme'
      have close : ∀ (ex2 : Regs) (g4 : Hp) (E3 : LTt) (cE3 : Nat), KX [me] g3 g4 → MapH g4 me eS iv E3 cE3 → orE E2 tns[j].keys[q] (hvF HT IN fs[a] tns[j].keys[q]) E3 →
          KeepLo g0.length g0 g4 ∧ IsApp 6 (edsOf (xs ++ [drp fs[a]])) g4 ed' ∧ orS E (keysOf (tns.take j) ++ tns[j].keys.take (q + 1)) (hvF HT IN fs[a]) E3 := fun ex2 g4 E3 cE3 kx hE4 o4 => by
        have o5 := orS_snoc o3 o4
        rw [List.append_assoc, ← htk] at o5
        exact ⟨lo_kx kp3 kx hme, app_kx ia3 kx hE3.hp, o5⟩
      rcases hex with rfl | ⟨z1, z2, z3, rfl⟩
      all_goals
        simp (maxSteps := 2000000) (discharger := omega) only [xz,xc,xo,xr,x0,x1,x2,x3,x4,x5,x6,xd,xe,xb,kont_call,kont_pure,kont_round,isNil,slOk,sliceV,selems,srcElems,copyTo,dlen,eqAV,eqCells,eqS,wr,place,partVals,partEs,placeEs,mapOf,keyOk,keyCells,findK,Bool.bne_false,Bool.bne_true,Reg.isA,Reg.isV,Reg.stays,Reg.onto,↓reduceIte,reduceCtorEq,Nat.reduceEqDiff,Nat.reduceLT,Nat.reduceAdd,Nat.reduceMul,Nat.reduceLeDiff,Nat.zero_lt_succ,Option.bind_some,Option.getD_some,Option.getD_none,Int.cast_ofNat_Int,Int.natCast_zero,Int.natCast_nonneg,true_implies,or_true,true_or,false_or,or_false,beq_self_eq_true,exists_eq_left',Int.reduceEq,Int.reduceLT,Int.reduceLE,Int.reduceGT,Int.reduceGE,Nat.reduceGT,Int.reduceNeg,Int.reduceToNat,Int.reduceAdd,Int.reduceMul,Int.reduceSub,Int.reducePow,decide_eq_true_eq,Nat.reduceBEq,Nat.reduceSub,exists_false,xu,List.set_cons_zero,List.set_cons_succ,wrap_i64,int_lt_t,int_lt_f,int_le_t,int_le_f,int_gt_t,int_gt_f,int_ge_t,int_ge_f,int_eq_t,int_eq_f,int_beq_t,int_beq_f,int_bne_t,int_bne_f,nat_le_t,nat_le_f,Nat.sub_zero,Nat.sub_self,not_false_eq_true,not_true_eq_false,t1,tl,hsub]
        refine wf.mono ?_
        rintro e r g4 ⟨rfl, ⟨ex2, hex2, rfl⟩, kx, E3, cE3, hE4, o4⟩
        obtain ⟨y1, y2, y3⟩ := close ex2 g4 E3 cE3 kx hE4 o4
        rcases hex2 with rfl | ⟨z1, z2, z3, rfl⟩
        · simp (maxSteps := 2000000) (discharger := omega) only [xz,xc,xo,xr,x0,x1,x2,x3,x4,x5,x6,xd,xe,xb,kont_call,kont_pure,kont_round,isNil,slOk,sliceV,selems,srcElems,copyTo,dlen,eqAV,eqCells,eqS,wr,place,partVals,partEs,placeEs,mapOf,keyOk,keyCells,findK,Bool.bne_false,Bool.bne_true,Reg.isA,Reg.isV,Reg.stays,Reg.onto,↓reduceIte,reduceCtorEq,Nat.reduceEqDiff,Nat.reduceLT,Nat.reduceAdd,Nat.reduceMul,Nat.reduceLeDiff,Nat.zero_lt_succ,Option.bind_some,Option.getD_some,Option.getD_none,Int.cast_ofNat_Int,Int.natCast_zero,Int.natCast_nonneg,true_implies,or_true,true_or,false_or,or_false,beq_self_eq_true,exists_eq_left',Int.reduceEq,Int.reduceLT,Int.reduceLE,Int.reduceGT,Int.reduceGE,Nat.reduceGT,Int.reduceNeg,Int.reduceToNat,Int.reduceAdd,Int.reduceMul,Int.reduceSub,Int.reducePow,decide_eq_true_eq,Nat.reduceBEq,Nat.reduceSub,exists_false,xu,List.set_cons_zero,List.set_cons_succ,wrap_i64,int_lt_t,int_lt_f,int_le_t,int_le_f,int_gt_t,int_gt_f,int_ge_t,int_ge_f,int_eq_t,int_eq_f,int_beq_t,int_beq_f,int_bne_t,int_bne_f,nat_le_t,nat_le_f,Nat.sub_zero,Nat.sub_self,not_false_eq_true,not_true_eq_false]
          exact ⟨tns[j].keys.length - (q + 1), by omega, q + 1, E3, _, [], .inl rfl, by simp, by omega, rfl, y1, y2, hE4, y3⟩
        · simp (maxSteps := 2000000) (discharger := omega) only [xz,xc,xo,xr,x0,x1,x2,x3,x4,x5,x6,xd,xe,xb,kont_call,kont_pure,kont_round,isNil,slOk,sliceV,selems,srcElems,copyTo,dlen,eqAV,eqCells,eqS,wr,place,partVals,partEs,placeEs,mapOf,keyOk,keyCells,findK,Bool.bne_false,Bool.bne_true,Reg.isA,Reg.isV,Reg.stays,Reg.onto,↓reduceIte,reduceCtorEq,Nat.reduceEqDiff,Nat.reduceLT,Nat.reduceAdd,Nat.reduceMul,Nat.reduceLeDiff,Nat.zero_lt_succ,Option.bind_some,Option.getD_some,Option.getD_none,Int.cast_ofNat_Int,Int.natCast_zero,Int.natCast_nonneg,true_implies,or_true,true_or,false_or,or_false,beq_self_eq_true,exists_eq_left',Int.reduceEq,Int.reduceLT,Int.reduceLE,Int.reduceGT,Int.reduceGE,Nat.reduceGT,Int.reduceNeg,Int.reduceToNat,Int.reduceAdd,Int.reduceMul,Int.reduceSub,Int.reducePow,decide_eq_true_eq,Nat.reduceBEq,Nat.reduceSub,exists_false,xu,List.set_cons_zero,List.set_cons_succ,wrap_i64,int_lt_t,int_lt_f,int_le_t,int_le_f,int_gt_t,int_gt_f,int_ge_t,int_ge_f,int_eq_t,int_eq_f,int_beq_t,int_beq_f,int_bne_t,int_bne_f,nat_le_t,nat_le_f,Nat.sub_zero,Nat.sub_self,not_false_eq_true,not_true_eq_false]
          exact ⟨tns[j].keys.length - (q + 1), by omega, q + 1, E3, _, [], .inl rfl, by simp, by omega, rfl, y1, y2, hE4, y3⟩
    · obtain rfl : q = tns[j].keys.length := by omega
      rw [List.take_length, ← keysOf_take hjt] at o3
      rcases hex with rfl | ⟨z1, z2, z3, rfl⟩
      · simp (maxSteps := 2000000) (discharger := omega) only [xz,xc,xo,xr,x0,x1,x2,x3,x4,x5,x6,xd,xe,xb,kont_call,kont_pure,kont_round,isNil,slOk,sliceV,selems,srcElems,copyTo,dlen,eqAV,eqCells,eqS,wr,place,partVals,partEs,placeEs,mapOf,keyOk,keyCells,findK,Bool.bne_false,Bool.bne_true,Reg.isA,Reg.isV,Reg.stays,Reg.onto,↓reduceIte,reduceCtorEq,Nat.reduceEqDiff,Nat.reduceLT,Nat.reduceAdd,Nat.reduceMul,Nat.reduceLeDiff,Nat.zero_lt_succ,Option.bind_some,Option.getD_some,Option.getD_none,Int.cast_ofNat_Int,Int.natCast_zero,Int.natCast_nonneg,true_implies,or_true,true_or,false_or,or_false,beq_self_eq_true,exists_eq_left',Int.reduceEq,Int.reduceLT,Int.reduceLE,Int.reduceGT,Int.reduceGE,Nat.reduceGT,Int.reduceNeg,Int.reduceToNat,Int.reduceAdd,Int.reduceMul,Int.reduceSub,Int.reducePow,decide_eq_true_eq,Nat.reduceBEq,Nat.reduceSub,exists_false,xu,List.set_cons_zero,List.set_cons_succ,wrap_i64,int_lt_t,int_lt_f,int_le_t,int_le_f,int_gt_t,int_gt_f,int_ge_t,int_ge_f,int_eq_t,int_eq_f,int_beq_t,int_beq_f,int_bne_t,int_bne_f,nat_le_t,nat_le_f,Nat.sub_zero,Nat.sub_self,not_false_eq_true,not_true_eq_false,t1,tl,hsub]
        exact ⟨i - (j + 1), by omega, j + 1, E2, _, rfl, by omega, rfl, kp3, ia3, hE3, o3⟩
      · simp (maxSteps := 2000000) (discharger := omega) only [xz,xc,xo,xr,x0,x1,x2,x3,x4,x5,x6,xd,xe,xb,kont_call,kont_pure,kont_round,isNil,slOk,sliceV,selems,srcElems,copyTo,dlen,eqAV,eqCells,eqS,wr,place,partVals,partEs,placeEs,mapOf,keyOk,keyCells,findK,Bool.bne_false,Bool.bne_true,Reg.isA,Reg.isV,Reg.stays,Reg.onto,↓reduceIte,reduceCtorEq,Nat.reduceEqDiff,Nat.reduceLT,Nat.reduceAdd,Nat.reduceMul,Nat.reduceLeDiff,Nat.zero_lt_succ,Option.bind_some,Option.getD_some,Option.getD_none,Int.cast_ofNat_Int,Int.natCast_zero,Int.natCast_nonneg,true_implies,or_true,true_or,false_or,or_false,beq_self_eq_true,exists_eq_left',Int.reduceEq,Int.reduceLT,Int.reduceLE,Int.reduceGT,Int.reduceGE,Nat.reduceGT,Int.reduceNeg,Int.reduceToNat,Int.reduceAdd,Int.reduceMul,Int.reduceSub,Int.reducePow,decide_eq_true_eq,Nat.reduceBEq,Nat.reduceSub,exists_false,xu,List.set_cons_zero,List.set_cons_succ,wrap_i64,int_lt_t,int_lt_f,int_le_t,int_le_f,int_gt_t,int_gt_f,int_ge_t,int_ge_f,int_eq_t,int_eq_f,int_beq_t,int_beq_f,int_bne_t,int_bne_f,nat_le_t,nat_le_f,Nat.sub_zero,Nat.sub_self,not_false_eq_true,not_true_eq_false,t1,tl,hsub]
        exact ⟨i - (j + 1), by omega, j + 1, E2, _, rfl, by omega, rfl, kp3, ia3, hE3, o3⟩
  · obtain rfl : j = i := by omega
    simp (maxSteps := 2000000) (discharger := omega) only [xz,xc,xo,xr,x0,x1,x2,x3,x4,x5,x6,xd,xe,xb,kont_call,kont_pure,kont_round,isNil,slOk,sliceV,selems,srcElems,copyTo,dlen,eqAV,eqCells,eqS,wr,place,partVals,partEs,placeEs,mapOf,keyOk,keyCells,findK,Bool.bne_false,Bool.bne_true,Reg.isA,Reg.isV,Reg.stays,Reg.onto,↓reduceIte,reduceCtorEq,Nat.reduceEqDiff,Nat.reduceLT,Nat.reduceAdd,Nat.reduceMul,Nat.reduceLeDiff,Nat.zero_lt_succ,Option.bind_some,Option.getD_some,Option.getD_none,Int.cast_ofNat_Int,Int.natCast_zero,Int.natCast_nonneg,true_implies,or_true,true_or,false_or,or_false,beq_self_eq_true,exists_eq_left',Int.reduceEq,Int.reduceLT,Int.reduceLE,Int.reduceGT,Int.reduceGE,Nat.reduceGT,Int.reduceNeg,Int.reduceToNat,Int.reduceAdd,Int.reduceMul,Int.reduceSub,Int.reducePow,decide_eq_true_eq,Nat.reduceBEq,Nat.reduceSub,exists_false,xu,List.set_cons_zero,List.set_cons_succ,wrap_i64,int_lt_t,int_lt_f,int_le_t,int_le_f,int_gt_t,int_gt_f,int_ge_t,int_ge_f,int_eq_t,int_eq_f,int_beq_t,int_beq_f,int_bne_t,int_bne_f,nat_le_t,nat_le_f,Nat.sub_zero,Nat.sub_self,not_false_eq_true,not_true_eq_false]
    exact ⟨_, _, _, rfl, kp2, ia2, a3, E1, _, hE2, o2⟩
end
end Go.Proofs.Ytabpndekmpjmhaa.Im

/- S14Sx: the law, step by step: a merging. -/
set_option linter.unusedVariables false
set_option linter.unusedSimpArgs false
open Go Go.Im
namespace Go.Proofs.Ytabpndekmpjmhaa.Im

theorem wp_rA {K : Kont} {n : Nat} {r : Regs} {h : Hp} {Q : AE → Regs → Hp → Prop} {o1 : List Nat} {os : List (List Nat)} {ops : List AOper} {ks : List Nat}
    (w : Wo K (inOrd ops o1) r h (fun r' h' => (∀ o ∈ os, Wo K (inOrd ops o) r h (Is r' h')) ∧ Settle ks Q r' h')) : Wp K n (.regionA (o1 :: os) ops ks) r h Q := by
  obtain ⟨r', h', e, hall, hq⟩ := w
  refine wpi_regionAs (by simp) (fun o ho => ?_) hq
  rcases List.mem_cons.1 ho with rfl | ho
  · exact e
  · obtain ⟨r2, h2, e2, rfl, rfl⟩ := hall o ho
    exact e2

def fstV (fs : List Int) (hv : Hv) (P : List By) (E : LTt) : Prop := ∀ k, tget E k = if k ∈ P then (fs.filterMap fun f => hv f k).head? else none
theorem fstV_nil (hv : Hv) (P : List By) : fstV [] hv P [] := fun k => by simp [tget]
theorem fstV_snoc {fs : List Int} {hv : Hv} {P : List By} {E E' : LTt} {f : Int} (h : fstV fs hv P E) (h2 : orS E P (hv f) E') : fstV (fs ++ [f]) hv P E' := fun k => by
  rw [h2 k, h k]
  by_cases m : k ∈ P
  · simp only [if_pos m,List.filterMap_append,List.head?_append]
    congr 1
    cases e : hv f k <;> simp [List.filterMap_cons,e]
  · simp only [if_neg m]

theorem pick_len {tb : List Tb} {p : Pn} (P : PickR tb p) : p.full.length ≤ 2 * tb.length + 1 := by
  obtain ⟨F, t0, r, hin, hov, _⟩ := P
  have h1 : p.inn.length ≤ tb.length + 1 := by
    rcases F with ⟨h, _⟩ | ⟨_, h⟩ | ⟨_, _, t, _, _, h⟩
    · rw [h]; simp
    · rw [h]; have := List.length_filter_le (fun t : Tb => decide (t.l = 0)) tb; omega
    · rw [h]; simp
  have h2 : p.ov.length ≤ tb.length := by rw [hov]; exact List.length_filter_le _ _
  simp only [Pn.full,List.length_append]
  omega

theorem fsOf_map (l : List Tb) : fsOf l = (l.map (·.f)).map eI := by simp [fsOf]

section
variable {ω : Nat → Nat} {n : Nat} {tv av u pv ed : AV} {mh ml me cH cL cE : Nat} {fan i : Nat} {HT : HTt} {LT E : LTt} {IN : Nat → LTt} {tns : List Tn} {g0 g : Hp} {s : Ste}

set_option maxHeartbeats 2000000 in
theorem w_b (ht : IsRd 1 (tnsOf tns) tv) (hok : ∀ t ∈ tns, t.ok) (hi : i ≤ tns.length) (hk30 : ∀ t ∈ tns.take i, t.keys.length ≤ 30) (hi100 : i ≤ 100) (hn : 1000 < n) (M : Mp g0 mh ml HT cH LT cL IN) (hme : g0.length ≤ me)
    (kp : KeepLo g0.length g0 g) (hE : MapH g me eS iv [] cE) (hst : StAt g0 0 s u) (htb : s.tb.length ≤ 100) (hfan : fan ≤ 255) :
    Wp (kont F n true ω) n w3b [(0, .val tv), (1, .val (.int .u8 fan)), (2, .val av), (7, .var u), (8, .val (.mp mh)), (9, .val (.mp ml)), (10, .val (.int .i64 i)), (11, .val (.mp me)), (12, .val .nils), (13, .var (edOf ⟨1, (i : Int) + 1, 0, 0, [], []⟩)), (73, .val (.bool false))] g
      (fun e r g' => KeepLo g0.length g0 g' ∧ ((e = .exit 1 ∧ ∃ z1 z2 z3 z4, r = [(0, .val tv), (1, .val (.int .u8 fan)), (2, .val av), (7, .var u), (8, .val (.mp mh)), (9, .val (.mp ml)), (10, .val (.int .i64 i)), (11, .val (.mp me)), (12, z1), (13, z2), (16, z3), (135, z4)]) ∨
        (e = .normal ∧ ∃ ed p E cE, r = [(0, .val tv), (1, .val (.int .u8 fan)), (2, .val av), (7, .var u), (8, .val (.mp mh)), (9, .val (.mp ml)), (10, .val (.int .i64 i)), (11, .val (.mp me)), (12, .val ed), (13, .var (edOf ⟨1, (i : Int) + 1, p.lv + 1, 0, p.lo, p.hi⟩))] ∧ PickR s.tb p ∧ IsApp 6 (edsOf ((p.full.map (·.f)).map drp)) g' ed ∧ Late 6 g0 ed ∧
          MapH g' me eS iv E cE ∧ fstV (p.full.map (·.f)) (hvF HT IN) (keysOf (tns.take i)) E))) := by
  obtain ⟨tb0, sv, lv, rfl, r1, r2, r3⟩ := hst
  have r1g : RowAt g 5 0 (s.tb.map tbOf) tb0 := by
    rcases r1 with h | ⟨id, post, h1, h2, h3⟩
    · exact .inl h
    · exact .inr ⟨id, post, h1, kp.2 _ _ (List.getElem?_eq_some_iff.1 h2).1 h2, h3⟩
  have t1 : ((fan : Int)).tmod 15 = (fan : Int) % 15 := Int.tmod_eq_emod_of_nonneg (by omega)
  obtain ⟨q, hq⟩ : ∃ q : Int, q = (fan : Int) % 15 := ⟨_, rfl⟩
  have hq1 : 0 ≤ q ∧ q ≤ 14 := by omega
  obtain ⟨w, g1, k1, k2, k3⟩ := c5 (tot := true) (ω := ω) (n := n) s.tb tb0 (2 + q) 0 g r1g (by omega) (by omega) (by omega) (by omega)
  have kp1 : KeepLo g0.length g0 g1 := ⟨Nat.le_trans kp.1 k2.1, fun a b h1 h2 => k2.2 a b (by have := kp.1; omega) (kp.2 a b h1 h2)⟩
  unfold w3b edOf
  rcases k3 with rfl | ⟨p, v, b, rfl, hp, hv⟩
  · simp (maxSteps := 2000000) (discharger := omega) only [xz,xc,xo,xr,x0,x1,x2,x3,x4,x5,x6,xd,xe,xb,kont_call,kont_pure,kont_round,isNil,slOk,sliceV,selems,srcElems,copyTo,dlen,eqAV,eqCells,eqS,wr,place,partVals,partEs,placeEs,mapOf,keyOk,keyCells,findK,Bool.bne_false,Bool.bne_true,Reg.isA,Reg.isV,Reg.stays,Reg.onto,↓reduceIte,reduceCtorEq,Nat.reduceEqDiff,Nat.reduceLT,Nat.reduceAdd,Nat.reduceMul,Nat.reduceLeDiff,Nat.zero_lt_succ,Option.bind_some,Option.getD_some,Option.getD_none,Int.cast_ofNat_Int,Int.natCast_zero,Int.natCast_nonneg,true_implies,or_true,true_or,false_or,or_false,beq_self_eq_true,exists_eq_left',Int.reduceEq,Int.reduceLT,Int.reduceLE,Int.reduceGT,Int.reduceGE,Nat.reduceGT,Int.reduceNeg,Int.reduceToNat,Int.reduceAdd,Int.reduceMul,Int.reduceSub,Int.reducePow,decide_eq_true_eq,Nat.reduceBEq,Nat.reduceSub,exists_false,xu,List.set_cons_zero,List.set_cons_succ,wrap_i64,int_lt_t,int_lt_f,int_le_t,int_le_f,int_gt_t,int_gt_f,int_ge_t,int_ge_f,int_eq_t,int_eq_f,int_beq_t,int_beq_f,int_bne_t,int_bne_f,nat_le_t,nat_le_f,Nat.sub_zero,Nat.sub_self,not_false_eq_true,not_true_eq_false,t1,← hq,k1]
    exact ⟨kp1, _, _, _, _, rfl⟩
  · simp (maxSteps := 2000000) (discharger := omega) only [xz,xc,xo,xr,x0,x1,x2,x3,x4,x5,x6,xd,xe,xb,kont_call,kont_pure,kont_round,isNil,slOk,sliceV,selems,srcElems,copyTo,dlen,eqAV,eqCells,eqS,wr,place,partVals,partEs,placeEs,mapOf,keyOk,keyCells,findK,Bool.bne_false,Bool.bne_true,Reg.isA,Reg.isV,Reg.stays,Reg.onto,↓reduceIte,reduceCtorEq,Nat.reduceEqDiff,Nat.reduceLT,Nat.reduceAdd,Nat.reduceMul,Nat.reduceLeDiff,Nat.zero_lt_succ,Option.bind_some,Option.getD_some,Option.getD_none,Int.cast_ofNat_Int,Int.natCast_zero,Int.natCast_nonneg,true_implies,or_true,true_or,false_or,or_false,beq_self_eq_true,exists_eq_left',Int.reduceEq,Int.reduceLT,Int.reduceLE,Int.reduceGT,Int.reduceGE,Nat.reduceGT,Int.reduceNeg,Int.reduceToNat,Int.reduceAdd,Int.reduceMul,Int.reduceSub,Int.reducePow,decide_eq_true_eq,Nat.reduceBEq,Nat.reduceSub,exists_false,xu,List.set_cons_zero,List.set_cons_succ,wrap_i64,int_lt_t,int_lt_f,int_le_t,int_le_f,int_gt_t,int_gt_f,int_ge_t,int_ge_f,int_eq_t,int_eq_f,int_beq_t,int_beq_f,int_bne_t,int_bne_f,nat_le_t,nat_le_f,Nat.sub_zero,Nat.sub_self,not_false_eq_true,not_true_eq_false,t1,← hq,k1]
    have hpl := pick_len hp
    have hv : IsRd 1 ((p.full.map (·.f)).map eI) v := by rw [← fsOf_map]; exact hv
    have lv1 : lenSl v = some p.full.length := by rw [hv.len]; simp
    have hsv := isRd_sub hv
    have hME : MapH g1 me eS iv [] cE := mapH_kx (X := []) hE (.of k2) (by simp)
    refine wpi_loop (fun m r g' => ∃ (a : Nat) (ed : AV) (E : LTt) (cE : Nat), r = [(0, .val tv), (1, .val (.int .u8 fan)), (2, .val av), (7, .var (.agg [tb0, sv, lv, .int .i64 s.nx])), (8, .val (.mp mh)), (9, .val (.mp ml)), (10, .val (.int .i64 i)), (11, .val (.mp me)), (12, .val ed), (13, .var (.agg [.int .i64 1, .int .i64 ((i : Int) + 1), .int .i64 0, .int .i64 0, .str [], .str []])), (16, .var (.agg [v, .int .i64 (p.lv + 1), .str p.lo, .str p.hi, .bool b])), (18, .val (.int .i64 a))] ∧ a ≤ p.full.length ∧ m = p.full.length - a ∧ KeepLo g0.length g0 g' ∧ IsApp 6 (edsOf (((p.full.map (·.f)).take a).map drp)) g' ed ∧ Late 6 g0 ed ∧ MapH g' me eS iv E cE ∧ fstV ((p.full.map (·.f)).take a) (hvF HT IN) (keysOf (tns.take i)) E) p.full.length (by omega)
      ⟨0, .nils, [], cE, rfl, by omega, by omega, kp1, by simpa [edsOf] using IsApp.nils 6 g1, .inl rfl, hME, by simpa using fstV_nil _ _⟩ ?_
    rintro m r g2 ⟨a, ed, E, cE2, rfl, ha, rfl, kp2, ie, le, hE2, fv⟩
    by_cases hal : a < p.full.length
    · have hal' : a < (p.full.map (·.f)).length := by simpa using hal
      have wd := w_d (ω := ω) (n := n) (av := av) (u := .agg [tb0, sv, lv, .int .i64 s.nx]) (ed := ed) (x := .agg [.int .i64 1, .int .i64 ((i : Int) + 1), .int .i64 0, .int .i64 0, .str [], .str []]) (fan := fan) (i := i) (Out := p.lv + 1) (plo := p.lo) (phi := p.hi) (pb := b) (a := a) ht hok hv hal' hi hk30 hi100 hn M hme kp2 hE2 ie le (by rw [List.length_map, List.length_take]; omega)
      have htk : (p.full.map (·.f)).take (a + 1) = (p.full.map (·.f)).take a ++ [(p.full.map (·.f))[a]] := List.take_succ_eq_append_getElem hal'
      simp (maxSteps := 2000000) (discharger := omega) only [xz,xc,xo,xr,x0,x1,x2,x3,x4,x5,x6,xd,xe,xb,kont_call,kont_pure,kont_round,isNil,slOk,sliceV,selems,srcElems,copyTo,dlen,eqAV,eqCells,eqS,wr,place,partVals,partEs,placeEs,mapOf,keyOk,keyCells,findK,Bool.bne_false,Bool.bne_true,Reg.isA,Reg.isV,Reg.stays,Reg.onto,↓reduceIte,reduceCtorEq,Nat.reduceEqDiff,Nat.reduceLT,Nat.reduceAdd,Nat.reduceMul,Nat.reduceLeDiff,Nat.zero_lt_succ,Option.bind_some,Option.getD_some,Option.getD_none,Int.cast_ofNat_Int,Int.natCast_zero,Int.natCast_nonneg,true_implies,or_true,true_or,false_or,or_false,beq_self_eq_true,exists_eq_left',Int.reduceEq,Int.reduceLT,Int.reduceLE,Int.reduceGT,Int.reduceGE,Nat.reduceGT,Int.reduceNeg,Int.reduceToNat,Int.reduceAdd,Int.reduceMul,Int.reduceSub,Int.reducePow,decide_eq_true_eq,Nat.reduceBEq,Nat.reduceSub,exists_false,xu,List.set_cons_zero,List.set_cons_succ,wrap_i64,int_lt_t,int_lt_f,int_le_t,int_le_f,int_gt_t,int_gt_f,int_ge_t,int_ge_f,int_eq_t,int_eq_f,int_beq_t,int_beq_f,int_bne_t,int_bne_f,nat_le_t,nat_le_f,Nat.sub_zero,Nat.sub_self,not_false_eq_true,not_true_eq_false,lv1,hsv]
      refine wd.mono ?_
      rintro e r g3 ⟨rfl, ed', z1, z2, rfl, kp3, ie3, le3, E3, cE3, hE3, o3⟩
      simp (maxSteps := 2000000) (discharger := omega) only [xz,xc,xo,xr,x0,x1,x2,x3,x4,x5,x6,xd,xe,xb,kont_call,kont_pure,kont_round,isNil,slOk,sliceV,selems,srcElems,copyTo,dlen,eqAV,eqCells,eqS,wr,place,partVals,partEs,placeEs,mapOf,keyOk,keyCells,findK,Bool.bne_false,Bool.bne_true,Reg.isA,Reg.isV,Reg.stays,Reg.onto,↓reduceIte,reduceCtorEq,Nat.reduceEqDiff,Nat.reduceLT,Nat.reduceAdd,Nat.reduceMul,Nat.reduceLeDiff,Nat.zero_lt_succ,Option.bind_some,Option.getD_some,Option.getD_none,Int.cast_ofNat_Int,Int.natCast_zero,Int.natCast_nonneg,true_implies,or_true,true_or,false_or,or_false,beq_self_eq_true,exists_eq_left',Int.reduceEq,Int.reduceLT,Int.reduceLE,Int.reduceGT,Int.reduceGE,Nat.reduceGT,Int.reduceNeg,Int.reduceToNat,Int.reduceAdd,Int.reduceMul,Int.reduceSub,Int.reducePow,decide_eq_true_eq,Nat.reduceBEq,Nat.reduceSub,exists_false,xu,List.set_cons_zero,List.set_cons_succ,wrap_i64,int_lt_t,int_lt_f,int_le_t,int_le_f,int_gt_t,int_gt_f,int_ge_t,int_ge_f,int_eq_t,int_eq_f,int_beq_t,int_beq_f,int_bne_t,int_bne_f,nat_le_t,nat_le_f,Nat.sub_zero,Nat.sub_self,not_false_eq_true,not_true_eq_false]
      refine ⟨p.full.length - (a + 1), by omega, a + 1, ed', E3, cE3, by simp, by omega, rfl, kp3, by rw [htk, List.map_append]; exact ie3, le3, hE3, by rw [htk]; exact fstV_snoc fv o3⟩
    · obtain rfl : a = p.full.length := by omega
      rw [show (p.full.map (·.f)).take p.full.length = p.full.map (·.f) from List.take_of_length_le (by simp)] at ie fv
      simp (maxSteps := 2000000) (discharger := omega) only [xz,xc,xo,xr,x0,x1,x2,x3,x4,x5,x6,xd,xe,xb,kont_call,kont_pure,kont_round,isNil,slOk,sliceV,selems,srcElems,copyTo,dlen,eqAV,eqCells,eqS,wr,place,partVals,partEs,placeEs,mapOf,keyOk,keyCells,findK,Bool.bne_false,Bool.bne_true,Reg.isA,Reg.isV,Reg.stays,Reg.onto,↓reduceIte,reduceCtorEq,Nat.reduceEqDiff,Nat.reduceLT,Nat.reduceAdd,Nat.reduceMul,Nat.reduceLeDiff,Nat.zero_lt_succ,Option.bind_some,Option.getD_some,Option.getD_none,Int.cast_ofNat_Int,Int.natCast_zero,Int.natCast_nonneg,true_implies,or_true,true_or,false_or,or_false,beq_self_eq_true,exists_eq_left',Int.reduceEq,Int.reduceLT,Int.reduceLE,Int.reduceGT,Int.reduceGE,Nat.reduceGT,Int.reduceNeg,Int.reduceToNat,Int.reduceAdd,Int.reduceMul,Int.reduceSub,Int.reducePow,decide_eq_true_eq,Nat.reduceBEq,Nat.reduceSub,exists_false,xu,List.set_cons_zero,List.set_cons_succ,wrap_i64,int_lt_t,int_lt_f,int_le_t,int_le_f,int_gt_t,int_gt_f,int_ge_t,int_ge_f,int_eq_t,int_eq_f,int_beq_t,int_beq_f,int_bne_t,int_bne_f,nat_le_t,nat_le_f,Nat.sub_zero,Nat.sub_self,not_false_eq_true,not_true_eq_false,lv1,hsv]
      refine wp_rA ?_
      simp (maxSteps := 2000000) (discharger := omega) only [xz,xc,xo,xr,x0,x1,x2,x3,x4,x5,x6,xd,xe,xb,kont_call,kont_pure,kont_round,isNil,slOk,sliceV,selems,srcElems,copyTo,dlen,eqAV,eqCells,eqS,wr,place,partVals,partEs,placeEs,mapOf,keyOk,keyCells,findK,Bool.bne_false,Bool.bne_true,Reg.isA,Reg.isV,Reg.stays,Reg.onto,↓reduceIte,reduceCtorEq,Nat.reduceEqDiff,Nat.reduceLT,Nat.reduceAdd,Nat.reduceMul,Nat.reduceLeDiff,Nat.zero_lt_succ,Option.bind_some,Option.getD_some,Option.getD_none,Int.cast_ofNat_Int,Int.natCast_zero,Int.natCast_nonneg,true_implies,or_true,true_or,false_or,or_false,beq_self_eq_true,exists_eq_left',Int.reduceEq,Int.reduceLT,Int.reduceLE,Int.reduceGT,Int.reduceGE,Nat.reduceGT,Int.reduceNeg,Int.reduceToNat,Int.reduceAdd,Int.reduceMul,Int.reduceSub,Int.reducePow,decide_eq_true_eq,Nat.reduceBEq,Nat.reduceSub,exists_false,xu,List.set_cons_zero,List.set_cons_succ,wrap_i64,int_lt_t,int_lt_f,int_le_t,int_le_f,int_gt_t,int_gt_f,int_ge_t,int_ge_f,int_eq_t,int_eq_f,int_beq_t,int_beq_f,int_bne_t,int_bne_f,nat_le_t,nat_le_f,Nat.sub_zero,Nat.sub_self,not_false_eq_true,not_true_eq_false,inOrd,List.filterMap_cons,List.filterMap_nil,Is,List.forall_mem_cons,List.not_mem_nil,false_implies,implies_true]
      exact ⟨kp2, ed, p, E, _, rfl, hp, ie, le, hE2, fv⟩
end
end Go.Proofs.Ytabpndekmpjmhaa.Im

/- ImEq: values held against each other, by their types. -/
import Derived.Test.YtcnbllelfinlmaaDoorImAppend
import Derived.Laws.StructEq
import Derived.ChangeKeysEq
set_option linter.unusedVariables false
set_option linter.unusedSimpArgs false
namespace Go.Im
section
variable {P : Program} {E : Env} {h : Hp} {w : World} {r : Regs} {a : Act} {o : Oper} {reg : Reg}

def kindsF (P : Program) (K : TypeId → Option (List CK)) : List Field → Nat → Option (List CK)
  | [], _ => some []
  | f :: fs, off => match K f.type with
    | some ks => if f.name ≠ "_" ∧ f.offset = off ∧ (P.info? f.type).map (·.size) = some ks.length then (match kindsF P K fs (off + ks.length) with
      | some rest => some (ks ++ rest)
      | none => none) else none
    | none => none

def kinds (P : Program) : Nat → TypeId → Option (List CK)
  | 0, _ => none
  | d + 1, t => match P.underlying t with
    | some .bool => some [.b]
    | some (.int _) => some [.i]
    | some .string => some [.s]
    | some (.array len e) => match kinds P d e with
      | some ks => if (P.info? e).map (·.size) = some ks.length then some (List.replicate len ks).flatten else none
      | none => none
    | some (.struct fs) => if P.stoodInHeld t then none else kindsF P (kinds P d) fs.toList 0
    | _ => none

def eqV : List CK → List Value → List Value → Option Bool
  | [], [], [] => some true
  | .b :: ks, .bool a :: as, .bool b :: bs => (eqV ks as bs).map ((a == b) && ·)
  | .i :: ks, .int k a :: as, .int k' b :: bs => if k = k' then (eqV ks as bs).map ((a == b) && ·) else none
  | .s :: ks, .string a :: as, .string b :: bs => (eqV ks as bs).map ((a.toList == b.toList) && ·)
  | _, _, _ => none

theorem eqV_of : ∀ {ks : List CK} {as bs : List AV} {us vs : List Value} {e : Bool}, eqCells ks as bs = some e → us.length = as.length → vs.length = bs.length → (∀ (i : Nat) x y, as[i]? = some x → us[i]? = some y → VRel E x y) → (∀ (i : Nat) x y, bs[i]? = some x → vs[i]? = some y → VRel E x y) →
    eqV ks us vs = some e
  | [], [], [], us, vs, e, he, h1, h2, _, _ => by
    have e1 : us = [] := List.eq_nil_of_length_eq_zero (by simpa using h1)
    have e2 : vs = [] := List.eq_nil_of_length_eq_zero (by simpa using h2)
    subst e1; subst e2
    simpa [eqCells, eqV] using he
  | k :: ks, x :: as, y :: bs, [], vs, e, he, h1, h2, _, _ => by simp at h1
  | k :: ks, x :: as, y :: bs, u :: us, [], e, he, h1, h2, _, _ => by simp at h2
  | k :: ks, x :: as, y :: bs, u :: us, v :: vs, e, he, h1, h2, r1, r2 => by
    simp only [eqCells] at he
    split at he
    · rename_i p q hp hq
      cases he
      have ih := eqV_of hq (by simpa using h1) (by simpa using h2) (fun i x y hx hy => r1 (i + 1) x y (by simpa using hx) (by simpa using hy)) (fun i x y hx hy => r2 (i + 1) x y (by simpa using hx) (by simpa using hy))
      have v1 := r1 0 x u rfl rfl
      have v2 := r2 0 y v rfl rfl
      unfold eqS at hp
      split at hp
      · cases hp; rw [bool_inv v1, bool_inv v2]; simp [eqV,ih]
      · split at hp
        · rename_i hk; subst hk; cases hp; rw [int_inv v1, int_inv v2]; simp [eqV,ih]
        · cases hp
      · cases hp; rw [str_inv v1, str_inv v2]; simp [eqV,ih]
      · cases hp
    · cases he
  | [], [], b :: bs, _, _, _, he, _, _, _, _ => by simp [eqCells] at he
  | [], a :: as, _, _, _, _, he, _, _, _, _ => by simp [eqCells] at he
  | k :: ks, [], _, _, _, _, he, _, _, _, _ => by simp [eqCells] at he
  | k :: ks, a :: as, [], _, _, _, he, _, _, _, _ => by simp [eqCells] at he

theorem eqV_len : ∀ {ks : List CK} {us vs : List Value} {e : Bool}, eqV ks us vs = some e → us.length = ks.length ∧ vs.length = ks.length
  | [], us, vs, e, h => by
    cases us <;> cases vs <;> simp [eqV] at h ⊢
  | k :: ks, us, vs, e, h => by
    cases us with
    | nil => cases k <;> simp [eqV] at h
    | cons u us =>
      cases vs with
      | nil => cases k <;> cases u <;> simp [eqV] at h
      | cons v vs =>
        cases k <;> cases u <;> cases v <;> simp only [eqV] at h <;> first
          | (cases h; done)
          | (obtain ⟨e', he', _⟩ := map_some h; have := eqV_len he'; simp [this.1,this.2])
          | (split at h
             · obtain ⟨e', he', _⟩ := map_some h; have := eqV_len he'; simp [this.1,this.2]
             · cases h)

theorem eqV_append : ∀ {ks ls : List CK} {us vs : List Value} {e : Bool}, eqV (ks ++ ls) us vs = some e →
    ∃ e1 e2, eqV ks (us.take ks.length) (vs.take ks.length) = some e1 ∧ eqV ls (us.drop ks.length) (vs.drop ks.length) = some e2 ∧ e = (e1 && e2)
  | [], ls, us, vs, e, h => ⟨true, e, by simp [eqV], by simpa using h, by simp⟩
  | k :: ks, ls, us, vs, e, h => by
    cases us with
    | nil => cases k <;> simp [eqV] at h
    | cons u us =>
      cases vs with
      | nil => cases k <;> cases u <;> simp [eqV] at h
      | cons v vs =>
        simp only [List.cons_append,List.length_cons,List.take_succ_cons,List.drop_succ_cons] at *
        cases k <;> cases u <;> cases v <;> simp only [eqV] at h ⊢ <;> first
          | (cases h; done)
          | (obtain ⟨e', he', rfl⟩ := map_some h
             obtain ⟨e1, e2, h1, h2, rfl⟩ := eqV_append he'
             exact ⟨_, e2, by rw [h1]; rfl, h2, by simp [Bool.and_assoc]⟩)
          | (split at h
             · rename_i hk
               obtain ⟨e', he', rfl⟩ := map_some h
               obtain ⟨e1, e2, h1, h2, rfl⟩ := eqV_append he'
               exact ⟨_, e2, by rw [if_pos hk, h1]; rfl, h2, by simp [Bool.and_assoc]⟩
             · cases h)
def IsV (P : Program) (t : TypeId) (us : List Value) (u : Value) : Prop := ∃ d, P.underlying t = some d ∧ if aggD d = true then u = .agg us.toArray else us = [u]

theorem cellsOf_of {t : TypeId} {n : Nat} (h : (P.info? t).map (·.size) = some n) : Sz P t n ∧ P.cellsOf t = n ∧ ∃ i, P.info? t = some i := by
  obtain ⟨i, hi, rfl⟩ := Option.map_eq_some_iff.1 h
  exact ⟨⟨i, hi, rfl⟩, by simp [Program.cellsOf,hi], i, hi⟩

theorem kinds_some {d : Nat} {t : TypeId} {ks : List CK} (h : kinds P d t = some ks) : ∃ dd, P.underlying t = some dd ∧ (aggD dd = false → ks.length = 1) := by
  cases d with
  | zero => simp [kinds] at h
  | succ d =>
    simp only [kinds] at h
    cases hu : P.underlying t with
    | none => simp [hu] at h
    | some dd =>
      refine ⟨dd, rfl, fun ha => ?_⟩
      cases dd <;> simp [hu,aggD] at h ha <;> subst h <;> rfl

theorem part_isV {d : Nat} {t : TypeId} {ks : List CK} (hk : kinds P d t = some ks) (hs : (P.info? t).map (·.size) = some ks.length) {xs : List Value} {off : Nat} (hle : off + ks.length ≤ xs.length) :
    ∃ u, (part t xs.toArray off).run P w = .ok u w ∧ IsV P t ((xs.drop off).take ks.length) u := by
  obtain ⟨dd, hu, h1⟩ := kinds_some hk
  obtain ⟨hsz, _, _⟩ := cellsOf_of hs
  have hT := Ty.of hu hsz
  cases ha : aggD dd with
  | true =>
    refine ⟨.agg (xs.toArray.extract off (off + ks.length)), ?_, dd, hu, ?_⟩
    · have := hT.agg w; rw [ha] at this
      simp [part,this,hT.size]
    · rw [if_pos ha]
      congr 1
      apply Array.ext'
      simp [List.take_drop]
  | false =>
    have hl := h1 ha
    have hlt : off < xs.length := by omega
    refine ⟨xs[off], ?_, dd, hu, ?_⟩
    · have := hT.agg w; rw [ha] at this
      simp [part,this,hlt]
    · rw [if_neg (by simp [ha]), hl, List.drop_eq_getElem_cons hlt]; rfl

theorem eqItems_run {d : Nat} {e : TypeId} {ks : List CK} (hk : kinds P d e = some ks) (hs : (P.info? e).map (·.size) = some ks.length)
    (IH : ∀ (us vs : List Value) (u v : Value) (b : Bool) (w : World), eqV ks us vs = some b → IsV P e us u → IsV P e vs v → (Op.equalIn d e u v).run P w = .ok b w) (xs ys : List Value) :
    ∀ (n s : Nat) (b : Bool), eqV (List.replicate n ks).flatten ((xs.drop (s * ks.length)).take (n * ks.length)) ((ys.drop (s * ks.length)).take (n * ks.length)) = some b → (s + n) * ks.length ≤ xs.length → (s + n) * ks.length ≤ ys.length →
      (Op.eqItems d e ks.length xs.toArray ys.toArray (List.range' s n)).run P w = .ok b w
  | 0, s, b, h, _, _ => by
    simp [eqV] at h
    subst h
    simp [Op.eqItems]
  | n + 1, s, b, h, h1, h2 => by
    simp only [List.replicate_succ,List.flatten_cons] at h
    obtain ⟨e1, e2, p1, p2, rfl⟩ := eqV_append h
    have hm : s * ks.length + ks.length ≤ (s + (n + 1)) * ks.length := by rw [← Nat.succ_mul]; exact Nat.mul_le_mul_right _ (by omega)
    have htk : ∀ l : List Value, (((l.drop (s * ks.length)).take ((n + 1) * ks.length)).take ks.length) = (l.drop (s * ks.length)).take ks.length := fun l => by
      rw [List.take_take, Nat.min_eq_left (by rw [Nat.succ_mul]; omega)]
    have hdr : ∀ l : List Value, (((l.drop (s * ks.length)).take ((n + 1) * ks.length)).drop ks.length) = (l.drop ((s + 1) * ks.length)).take (n * ks.length) := fun l => by
      rw [List.drop_take, List.drop_drop, Nat.succ_mul, Nat.succ_mul]
      congr 1
      omega
    rw [htk, htk] at p1
    rw [hdr, hdr] at p2
    obtain ⟨u, hu1, hu2⟩ := part_isV (w := w) hk hs (xs := xs) (off := s * ks.length) (by omega)
    obtain ⟨v, hv1, hv2⟩ := part_isV (w := w) hk hs (xs := ys) (off := s * ks.length) (by omega)
    have hq := IH _ _ u v e1 w p1 hu2 hv2
    have hr := eqItems_run hk hs IH xs ys n (s + 1) e2 p2 (by rw [show s + 1 + n = s + (n + 1) by omega]; exact h1) (by rw [show s + 1 + n = s + (n + 1) by omega]; exact h2)
    simp only [List.range'_succ,Op.eqItems,Sem.run_bind,hu1,hv1,hq,Result.andThen_ok]
    cases e1 with
    | false => simp
    | true => simpa using hr

theorem eqFields_run {d : Nat} (IH : ∀ (t : TypeId) (ks : List CK) (us vs : List Value) (u v : Value) (b : Bool) (w : World), kinds P d t = some ks → eqV ks us vs = some b → IsV P t us u → IsV P t vs v → (Op.equalIn d t u v).run P w = .ok b w) (xs ys : List Value) :
    ∀ (fs : List Field) (off : Nat) (ks : List CK) (b : Bool), kindsF P (kinds P d) fs off = some ks → eqV ks ((xs.drop off).take ks.length) ((ys.drop off).take ks.length) = some b → off + ks.length ≤ xs.length → off + ks.length ≤ ys.length →
      (Op.eqFields d xs.toArray ys.toArray fs).run P w = .ok b w
  | [], off, ks, b, hk, h, _, _ => by
    simp [kindsF] at hk
    subst hk
    simp [eqV] at h
    subst h
    simp [Op.eqFields]
  | f :: fs, off, ks, b, hk, h, h1, h2 => by
    simp only [kindsF] at hk
    split at hk
    · rename_i ks1 hk1
      split at hk
      · rename_i hc
        obtain ⟨c1, c2, c3⟩ := hc
        split at hk
        · rename_i rest hrest
          cases hk
          obtain ⟨e1, e2, p1, p2, rfl⟩ := eqV_append h
          rw [List.length_append] at h1 h2 p1 p2
          have htk : ∀ l : List Value, (((l.drop off).take (ks1.length + rest.length)).take ks1.length) = (l.drop off).take ks1.length := fun l => by
            rw [List.take_take, Nat.min_eq_left (by omega)]
          have hdr : ∀ l : List Value, (((l.drop off).take (ks1.length + rest.length)).drop ks1.length) = (l.drop (off + ks1.length)).take rest.length := fun l => by
            rw [List.drop_take, List.drop_drop]
            congr 1
            omega
          rw [htk, htk] at p1
          rw [hdr, hdr] at p2
          obtain ⟨u, hu1, hu2⟩ := part_isV (w := w) hk1 c3 (xs := xs) (off := off) (by omega)
          obtain ⟨v, hv1, hv2⟩ := part_isV (w := w) hk1 c3 (xs := ys) (off := off) (by omega)
          have hq := IH _ _ _ _ u v e1 w hk1 p1 hu2 hv2
          have hr := eqFields_run IH xs ys fs (off + ks1.length) rest e2 hrest p2 (by omega) (by omega)
          simp only [Op.eqFields,ne_eq,c1,not_false_eq_true,if_true,Sem.run_bind,c2,hu1,hv1,hq,Result.andThen_ok]
          cases e1 with
          | false => simp
          | true => simpa using hr
        · cases hk
      · cases hk
    · cases hk

theorem eq_run : ∀ (d : Nat) (t : TypeId) (ks : List CK) (us vs : List Value) (u v : Value) (b : Bool) (w : World), kinds P d t = some ks → eqV ks us vs = some b → IsV P t us u → IsV P t vs v → (Op.equalIn d t u v).run P w = .ok b w
  | 0, t, ks, us, vs, u, v, b, w, hk, _, _, _ => by simp [kinds] at hk
  | d + 1, t, ks, us, vs, u, v, b, w, hk, he, ⟨dd, hu, hu2⟩, ⟨dd', hv, hv2⟩ => by
    rw [hu] at hv
    cases hv
    obtain ⟨hl1, hl2⟩ := eqV_len he
    simp only [kinds,hu] at hk
    cases dd with
    | bool =>
      simp only [aggD,Bool.false_eq_true,if_false] at hu2 hv2
      subst hu2; subst hv2
      cases hk
      cases u <;> cases v <;> simp [eqV] at he
      subst he
      exact run_equalIn_bool' w d t _ _ hu
    | int k =>
      simp only [aggD,Bool.false_eq_true,if_false] at hu2 hv2
      subst hu2; subst hv2
      cases hk
      cases u <;> cases v <;> simp [eqV] at he
      obtain ⟨rfl, rfl⟩ := he
      exact run_equalIn_int w d t _ _ _ _ hu
    | string =>
      simp only [aggD,Bool.false_eq_true,if_false] at hu2 hv2
      subst hu2; subst hv2
      cases hk
      cases u <;> cases v <;> simp [eqV] at he
      subst he
      exact run_equalIn_string w d t _ _ hu
    | array len e =>
      simp only [aggD,if_true] at hu2 hv2
      subst hu2; subst hv2
      simp only at hk
      split at hk
      · rename_i ks1 hk1
        split at hk
        · rename_i hs
          cases hk
          obtain ⟨_, hco, i, hi⟩ := cellsOf_of hs
          rw [run_equalIn_array w d _ _ hu hi, hco, List.range_eq_range']
          have hlen : (List.replicate len ks1).flatten.length = len * ks1.length := by simp
          refine eqItems_run hk1 hs (fun us vs u v b w h1 h2 h3 => eq_run d e ks1 us vs u v b w hk1 h1 h2 h3) us vs len 0 b ?_ (by simp; omega) (by simp; omega)
          rw [Nat.zero_mul, List.drop_zero, List.drop_zero, List.take_of_length_le (by omega), List.take_of_length_le (by omega)]
          exact he
        · cases hk
      · cases hk
    | struct fs =>
      simp only [aggD,if_true] at hu2 hv2
      subst hu2; subst hv2
      simp only at hk
      split at hk
      · cases hk
      · rename_i hst
        have hf : P.fieldsOf t = fs := by simp [Program.fieldsOf,hu]
        rw [run_equalIn_struct w d t _ _ (by rw [hf]; exact hu) (by simpa using hst), hf]
        refine eqFields_run (fun t ks us vs u v b w h0 h1 h2 h3 => eq_run d t ks us vs u v b w h0 h1 h2 h3) us vs fs.toList 0 ks b hk ?_ (by omega) (by omega)
        rw [List.drop_zero, List.drop_zero, List.take_of_length_le (by omega), List.take_of_length_le (by omega)]
        exact he
    | _ => simp at hk
theorem eqAV_run {t : TypeId} {d : TypeDesc} {ks : List CK} (hd : P.underlying t = some d) (hk : kinds P 10000 t = some ks) {x y : AV} {u v : Value} {b : Bool} (hx : VRel E x u) (hy : VRel E y v) (he : eqAV (aggD d) ks x y = some b) : (Op.equal t u v).run P w = .ok b w := by
  have agg : ∀ (as bs : List AV) (us vs : Array Value), aggD d = true → eqCells ks as bs = some b → VRel E (.agg as) (.agg us) → VRel E (.agg bs) (.agg vs) → (Op.equal t (.agg us) (.agg vs)).run P w = .ok b w := by
    intro as bs us vs ha hc h1 h2
    cases h1 with
    | agg _ _ l1 _ r1 =>
    cases h2 with
    | agg _ _ l2 _ r2 =>
    have := eqV_of (us := us.toList) (vs := vs.toList) hc (by simp [l1]) (by simp [l2]) (fun i x y hx hy => r1 i x y hx (by simpa using hy)) (fun i x y hx hy => r2 i x y hx (by simpa using hy))
    exact eq_run 10000 t ks us.toList vs.toList _ _ b w hk this ⟨d, hd, by rw [if_pos ha]⟩ ⟨d, hd, by rw [if_pos ha]⟩
  have one : ∀ (k : CK), aggD d = false → ks = [k] → eqS k x y = some b → (Op.equal t u v).run P w = .ok b w := by
    intro k ha hks hs
    subst hks
    have := eqV_of (ks := [k]) (as := [x]) (bs := [y]) (us := [u]) (vs := [v]) (e := b) (by simp [eqCells,hs]) rfl rfl (fun i a c ha hc => by cases i <;> simp at ha hc; subst ha; subst hc; exact hx) (fun i a c ha hc => by cases i <;> simp at ha hc; subst ha; subst hc; exact hy)
    exact eq_run 10000 t [k] [u] [v] _ _ b w hk this ⟨d, hd, by rw [if_neg (by simp [ha])]⟩ ⟨d, hd, by rw [if_neg (by simp [ha])]⟩
  unfold eqAV at he
  split at he
  · rename_i as bs
    split at he
    · rename_i ha
      obtain ⟨us, rfl⟩ := agg_inv hx
      obtain ⟨vs, rfl⟩ := agg_inv hy
      exact agg as bs us vs ha he hx hy
    · cases he
  · split at he
    · cases he
    · rename_i ha
      split at he
      · rename_i k
        exact one k (by simpa using ha) rfl he
      · cases he

theorem ev_eql (hf : FRel E h w r a.tmps) {op : BinOp} {t t' : TypeId} {y z : Operand} {x xz : AX} {d : TypeDesc} {neg : Bool} {ks : List CK} (hop : op = if neg then .neq else .eql) (ho : o.op = .binOp op t y z t') (hx : XRel E a x y) (hz : XRel E a xz z)
    (hd : P.underlying t = some d) (hk : kinds P 10000 t = some ks) (hg : aggD d = true → P.eqGuardType P.depth t = false) (hb : aggD d = false → ks = [.b])
    (he : evalV r h (.eql neg (aggD d) ks x xz) = some reg) : Pure P E h w r a o reg := by
  simp only [evalV] at he
  split at he
  · rename_i v v' hv hv'
    obtain ⟨b, hb', rfl⟩ := map_some he
    have h1 := vl_spec hf hx hv
    have h2 := vl_spec hf hz hv'
    have hrun := eqAV_run (P := P) (w := w) hd hk h1 h2 hb'
    refine .val (u := .bool (b != neg)) ?_ (.bool _)
    have hbin : ∀ (op : BinOp), op = (if neg then BinOp.neq else BinOp.eql) → (eqGuard op t y z (a.eval y) (a.eval z)).run P w = .ok () w ∧ (binOp op t (a.eval y) (a.eval z)).run P w = .ok (.bool (b != neg)) w := by
      intro op hop
      unfold eqAV at hb'
      split at hb'
      · rename_i as bs
        split at hb'
        · rename_i ha
          obtain ⟨us, hus⟩ := agg_inv h1
          obtain ⟨vs, hvs⟩ := agg_inv h2
          rw [hus, hvs] at hrun ⊢
          refine ⟨run_eqGuard_agg w op t y z us vs (hg ha), ?_⟩
          cases neg with
          | true => simp only [if_true] at hop; subst hop; simp [binOp,hrun]
          | false => simp only [Bool.false_eq_true,if_false] at hop; subst hop; simp [binOp,hrun]
        · cases hb'
      · split at hb'
        · cases hb'
        · rename_i ha
          have := hb (by simpa using ha)
          subst this
          simp only at hb'
          unfold eqS at hb'
          split at hb'
          · rw [bool_inv h1, bool_inv h2] at hrun ⊢
            refine ⟨eqGuard_plain (fun _ => ⟨(fun _ e => by cases e), (fun e => by cases e)⟩) w, ?_⟩
            cases neg with
            | true => simp only [if_true] at hop; subst hop; simp [binOp,hrun]
            | false => simp only [Bool.false_eq_true,if_false] at hop; subst hop; simp [binOp,hrun]
          all_goals simp_all
    obtain ⟨g1, g2⟩ := hbin op hop
    simp [execOp,ho,g1,g2]
  · cases he
end
end Go.Im

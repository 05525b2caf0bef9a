/- ImOps1: operations that only yield a value. -/
import Derived.Test.YtlognommhffmcaaImFrame
import Derived.Laws.Entries
import Derived.Laws.Strings
set_option linter.unusedVariables false
set_option linter.unusedSimpArgs false
namespace Go.Im

def Runs (P : Program) (a : Act) (w : World) (o : Oper) (u : Value) (w' : World) : Prop :=
  (execOp a.eval o).run P w = .ok (.value u) w' ∨ ((execOp a.eval o).run P w = .ok .skip w' ∧ u = undef)

def Sz (P : Program) (t : TypeId) (n : Nat) : Prop := ∃ i, P.info? t = some i ∧ i.size = n

theorem Sz.run {P : Program} {t : TypeId} {n : Nat} (h : Sz P t n) (w : World) : (sizeOf t).run P w = .ok n w := by
  obtain ⟨i, hi, rfl⟩ := h
  simp [sizeOf, typeInfo, hi]

def aggD : TypeDesc → Bool
  | .struct _ | .array _ _ => true
  | _ => false

theorem Ty.of {P : Program} {t : TypeId} {d : TypeDesc} {n : Nat} (h : P.underlying t = some d) (hs : Sz P t n) : Ty P t (aggD d) n :=
  ⟨fun w => by cases d <;> simp [isAgg, run_underlying h, aggD], hs.run⟩

section
variable {P : Program} {E : Env} {h : Hp} {w : World} {r : Regs} {a : Act} {o : Oper} {reg : Reg}

/-- What a pure operation owes. -/
def Pure (P : Program) (E : Env) (h : Hp) (w : World) (r : Regs) (a : Act) (o : Oper) (reg : Reg) : Prop := ∃ u, Runs P a w o u w ∧ Yields E h w r a.tmps u reg

theorem Pure.val {u : Value} {v : AV} (hr : (execOp a.eval o).run P w = .ok (.value u) w) (hv : VRel E v u) : Pure P E h w r a o (.val v) := ⟨u, .inl hr, hv⟩

theorem map_some {α β : Type} {f : α → β} {x : Option α} {y : β} (hx : x.map f = some y) : ∃ z, x = some z ∧ f z = y := Option.map_eq_some_iff.1 hx

theorem ev_mov (hf : FRel E h w r a.tmps) {y : Operand} {x : AX} (ho : o.op = .move y ∨ o.op = .assign y) (hx : XRel E a x y) (he : evalV r h (.mov x) = some reg) : Pure P E h w r a o reg := by
  obtain ⟨v, hv, rfl⟩ := map_some he
  exact .val (by rcases ho with ho | ho <;> simp [execOp, ho]) (vl_spec hf hx hv)

theorem bool_inv {v : Value} {b : Bool} (h : VRel E (.bool b) v) : v = .bool b := by cases h; rfl
theorem int_inv {v : Value} {k : IntKind} {n : Int} (h : VRel E (.int k n) v) : v = .int k n := by cases h; rfl
theorem str_inv {v : Value} {s : List UInt8} (h : VRel E (.str s) v) : v = .string ⟨s.toArray⟩ := by cases h; rfl

theorem ev_pick (hf : FRel E h w r a.tmps) {yc ya yb : Operand} {xc xa xb : AX} (ho : o.op = .pick yc ya yb) (hc : XRel E a xc yc) (ha : XRel E a xa ya) (hb : XRel E a xb yb)
    (he : evalV r h (.pick xc xa xb) = some reg) : Pure P E h w r a o reg := by
  simp only [evalV] at he
  split at he
  · rename_i c hvc
    have h1 := bool_inv (vl_spec hf hc hvc)
    obtain ⟨v, hv, rfl⟩ := map_some he
    cases c with
    | true => exact .val (by simp [execOp, ho, h1, asBool]) (vl_spec hf ha hv)
    | false => exact .val (by simp [execOp, ho, h1, asBool]) (vl_spec hf hb hv)
  · cases he

theorem iv_spec (hf : FRel E h w r a.tmps) {x : AX} {y : Operand} (hx : XRel E a x y) {n : Int} (hv : iv r x = some n) : ∃ k, a.eval y = .int k n := by
  simp only [iv] at hv
  split at hv
  · rename_i k m hm
    cases hv
    exact ⟨k, int_inv (vl_spec hf hx hm)⟩
  · cases hv

theorem ev_load (hf : FRel E h w r a.tmps) (hh : HRel E h w) {t : TypeId} {y : Operand} {x : AX} {agg : Bool} {size : Nat} (ho : o.op = .load t y) (hx : XRel E a x y) (hT : Ty P t agg size)
    (he : evalV r h (.load agg size x) = some reg) : Pure P E h w r a o reg := by
  simp only [evalV] at he
  split at he
  · rename_i p hp
    obtain ⟨v, hv, rfl⟩ := map_some he
    obtain ⟨b, off, h1, h2⟩ := plc_spec hf hx hp
    obtain ⟨h3, h4⟩ := rd_spec hf hh h2 hv
    obtain ⟨u, h5, h6⟩ := run_loadVar hT h3 h4
    exact .val (by simp [execOp, ho, Instr.loadAt, Instr.sureAddr, h1, h5]) h6
  · cases he

/-- The place of a part. -/
theorem sub_place (hf : FRel E h w r a.tmps) {p : Pl} {b off : Nat} (hp : PlAt E r a.tmps b off p) {k size : Nat} {agg : Bool} {p' : Pl} (he : p.sub k size agg = some p') :
    Yields E h w r a.tmps (.pointer (some ⟨b, off + k, none⟩)) p'.reg := by
  cases p with
  | loc t o' =>
    obtain ⟨h1, h2, rfl⟩ := hp
    cases he
    exact ⟨h1, by rw [vb_of h2]⟩
  | hp id s i o' =>
    obtain ⟨h1, rfl, rfl⟩ := hp
    cases he
    simp only [Pl.reg, Yields]
    rw [Nat.add_assoc]
    exact .ptr id s i _ h1
  | im v =>
    obtain ⟨v', hv', rfl⟩ := map_some he
    obtain ⟨h1, _⟩ := sub_spec hp hv'
    refine .iptr v' b _ (fun a ha => ?_) (fun j hj => ?_) fun j a u hj hu => ?_
    · obtain ⟨j, hj, rfl⟩ := List.getElem_of_mem ha
      exact (h1 j _ (List.getElem?_eq_getElem hj)).1
    · obtain ⟨_, u, hu, _⟩ := h1 j _ (List.getElem?_eq_getElem hj)
      rw [hu]; rfl
    · obtain ⟨_, u', hu', hv⟩ := h1 j a hj
      rw [hu] at hu'
      cases hu'
      exact hv

theorem addr_add (b off k : Nat) : (⟨b, off, none⟩ : Addr).add k = ⟨b, off + k, none⟩ := by unfold Addr.add; split <;> simp_all

theorem ev_fieldA (hf : FRel E h w r a.tmps) {t : TypeId} {f : Nat} {y : Operand} {x : AX} {fs : Array Field} {fd : Field} {size : Nat} {agg : Bool} (ho : o.op = .fieldAddr t y f) (hx : XRel E a x y)
    (ht : P.underlying t = some (.struct fs)) (hfd : fs[f]? = some fd) (hs : Sz P fd.type size) (hs0 : size ≠ 0)
    (he : evalV r h (.fieldA fd.offset size agg x) = some reg) : Pure P E h w r a o reg := by
  simp only [evalV] at he
  split at he
  · rename_i p hp
    obtain ⟨p', hp', rfl⟩ := map_some he
    obtain ⟨b, off, h1, h2⟩ := plc_spec hf hx hp
    refine ⟨_, .inl ?_, sub_place hf h2 hp'⟩
    simp [execOp, ho, Instr.fieldAt, run_underlying ht, hfd, Instr.sureAddr, h1, fieldPlace, hs.run, hs0, addr_add]
  · cases he

theorem ev_indexA (hf : FRel E h w r a.tmps) {t : TypeId} {y yi : Operand} {x xi : AX} {len : Nat} {e : TypeId} {size : Nat} {agg : Bool} (ho : o.op = .indexAddr t y yi) (hx : XRel E a x y) (hi : XRel E a xi yi)
    (ht : P.underlying t = some (.array len e)) (hs : Sz P e size)
    (he : evalV r h (.indexA len size agg x xi) = some reg) : Pure P E h w r a o reg := by
  simp only [evalV] at he
  split at he
  · rename_i p i hp hiv
    split at he
    · rename_i hr
      obtain ⟨p', hp', rfl⟩ := map_some he
      obtain ⟨b, off, h1, h2⟩ := plc_spec hf hx hp
      obtain ⟨k, hk⟩ := iv_spec hf hi hiv
      refine ⟨_, .inl ?_, sub_place hf h2 hp'⟩
      simp [execOp, ho, Instr.indexAt, run_underlying ht, Instr.sureAddr, h1, hk, asIntOf, hs.run, hr, addr_add]
    · cases he
  · cases he

theorem ev_indexS (hf : FRel E h w r a.tmps) (hh : HRel E h w) {t : TypeId} {y yi : Operand} {x xi : AX} {e : TypeId} {size : Nat} (ho : o.op = .indexAddr t y yi) (hx : XRel E a x y) (hi : XRel E a xi yi)
    (ht : P.underlying t = some (.slice e)) (hs : Sz P e size)
    (he : evalV r h (.indexS size x xi) = some reg) : Pure P E h w r a o reg := by
  simp only [evalV] at he
  split at he
  · rename_i s es c i hv hiv
    obtain ⟨k, hk⟩ := iv_spec hf hi hiv
    split at he
    · rename_i hr
      obtain ⟨rfl, hi0⟩ := hr
      obtain ⟨v, hv', rfl⟩ := map_some he
      have hlt := (List.getElem?_eq_some_iff.1 hv').1
      have h1 := vl_spec hf hx hv
      generalize hy : a.eval y = yv at h1
      cases h1 with
      | imm _ _ _ b off cap hcap hsz h1 hss hvr hc =>
        have hmem := List.mem_of_getElem? hv'
        have hl := hsz v hmem
        refine ⟨.pointer (some ⟨b, off + i.toNat * s, none⟩), .inl ?_, ?_⟩
        · have : i < (es.length : Int) := by omega
          simp [execOp, ho, Instr.indexAt, run_underlying ht, hy, hk, asIntOf, hs.run, hi0, this, addr_add]
        · exact .iptr v b _ (h1 v hmem) (fun j hj => hss i.toNat j hlt (by omega)) fun j a u hj hu => hvr i.toNat v j a u hv' hj hu
      | imz _ _ _ _ => simp at hlt
    · cases he
  · rename_i id s off n c i hv hiv
    obtain ⟨k, hk⟩ := iv_spec hf hi hiv
    split at he
    · rename_i hr
      obtain ⟨rfl, hi0, hin⟩ := hr
      cases he
      have h1 := vl_spec hf hx hv
      generalize hy : a.eval y = yv at h1
      cases h1 with
      | row _ _ _ _ _ b o' cap hrow =>
        obtain ⟨q1, q2, q3, q4⟩ := hrow
        rcases q4 with ⟨rfl, rfl, q5⟩ | ⟨q5, q6⟩
        · refine ⟨.pointer (some ⟨E.ob id, off * s + i.toNat * s, none⟩), .inl ?_, ?_⟩
          · simp [execOp, ho, Instr.indexAt, run_underlying ht, hy, hk, asIntOf, hs.run, hi0, hin, addr_add]
          · have := VRel.ptr (E := E) id s (off + i.toNat) 0 q1
            rwa [Nat.add_mul, Nat.add_zero] at this
        · omega
    · cases he
  · cases he

theorem get_agg {cs : List AV} {vs : Array Value} (hl : cs.length = vs.size) (i : Nat) (hi : i < cs.length) : ∃ v, vs[i]? = some v := ⟨vs[i]'(hl ▸ hi), by simp [hl ▸ hi]⟩

/-- A part of a value, in the model. -/
theorem run_part {t : TypeId} {agg : Bool} {size : Nat} (hT : Ty P t agg size) {cs : List AV} {vs : Array Value} (hv : VRel E (.agg cs) (.agg vs)) {off : Nat} {v : AV} (hs : sub (.agg cs) off size agg = some v) (w : World) :
    ∃ u, (part t vs off).run P w = .ok u w ∧ VRel E v u := by
  cases hv with
  | agg _ _ hl h1 hh =>
  simp only [sub] at hs
  cases agg with
  | true =>
    simp only [if_true] at hs
    split at hs
    · rename_i hle
      cases hs
      refine ⟨.agg (vs.extract off (off + size)), by simp [part, hT.agg, hT.size], .agg _ _ (by simp; omega) (fun a ha => h1 a (List.mem_of_mem_drop (List.mem_of_mem_take ha))) fun i a u hi hu => ?_⟩
      simp only [List.getElem?_take, List.getElem?_drop] at hi
      split at hi
      · simp only [Array.getElem?_extract] at hu
        split at hu
        · exact hh _ _ _ hi hu
        · cases hu
      · cases hi
    · cases hs
  | false =>
    simp only [Bool.false_eq_true, if_false] at hs
    obtain ⟨u, hu⟩ := get_agg hl off (List.getElem?_eq_some_iff.1 hs).1
    exact ⟨u, by simp [part, hT.agg, hu], hh _ _ _ hs hu⟩

theorem agg_inv {v : Value} {cs : List AV} (h : VRel E (.agg cs) v) : ∃ vs, v = .agg vs := by cases h; exact ⟨_, rfl⟩

theorem ev_field (hf : FRel E h w r a.tmps) {t : TypeId} {f : Nat} {y : Operand} {x : AX} {fs : Array Field} {fd : Field} {size : Nat} {agg : Bool} (ho : o.op = .field t y f) (hx : XRel E a x y)
    (ht : P.underlying t = some (.struct fs)) (hfd : fs[f]? = some fd) (hT : Ty P fd.type agg size) (he : evalV r h (.field fd.offset size agg x) = some reg) : Pure P E h w r a o reg := by
  simp only [evalV] at he
  split at he
  · rename_i cs hv
    obtain ⟨v', hv', rfl⟩ := map_some he
    have h1 := vl_spec hf hx hv
    obtain ⟨vs, hvs⟩ := agg_inv h1
    rw [hvs] at h1
    obtain ⟨u, hu, hr⟩ := run_part hT h1 hv' w
    exact .val (by simp [execOp, ho, Instr.field, run_underlying ht, hfd, hvs, asAgg, hu]) hr
  · cases he

theorem ev_indexV (hf : FRel E h w r a.tmps) {t : TypeId} {y yi : Operand} {x xi : AX} {len : Nat} {e : TypeId} {size : Nat} {agg : Bool} (ho : o.op = .index t y yi) (hx : XRel E a x y) (hi : XRel E a xi yi)
    (ht : P.underlying t = some (.array len e)) (hT : Ty P e agg size) (he : evalV r h (.indexV len size agg x xi) = some reg) : Pure P E h w r a o reg := by
  simp only [evalV] at he
  split at he
  · rename_i cs i hv hiv
    split at he
    · rename_i hr
      obtain ⟨v', hv', rfl⟩ := map_some he
      have h1 := vl_spec hf hx hv
      obtain ⟨vs, hvs⟩ := agg_inv h1
      rw [hvs] at h1
      obtain ⟨k, hk⟩ := iv_spec hf hi hiv
      obtain ⟨u, hu, hr'⟩ := run_part hT h1 hv' w
      exact .val (by simp [execOp, ho, Instr.index, run_underlying ht, hvs, hk, asIntOf, hr, hT.size, hu]) hr'
    · cases he
  · cases he

theorem ba_get (s : List UInt8) (i : Nat) : (⟨s.toArray⟩ : ByteArray)[i]? = s[i]? := by
  simp only [getElem?_def, ByteArray.size]
  by_cases hi : i < s.length
  · rw [dif_pos (by simpa [ByteArray.size] using hi), dif_pos hi]; rfl
  · rw [dif_neg (by simpa [ByteArray.size] using hi), dif_neg hi]

theorem ev_indexStr (hf : FRel E h w r a.tmps) {t : TypeId} {y yi : Operand} {x xi : AX} (ho : o.op = .index t y yi) (hx : XRel E a x y) (hi : XRel E a xi yi)
    (ht : P.underlying t = some .string) (he : evalV r h (.indexStr x xi) = some reg) : Pure P E h w r a o reg := by
  simp only [evalV] at he
  split at he
  · rename_i s i hv hiv
    split at he
    · rename_i hr
      obtain ⟨b, hb, rfl⟩ := map_some he
      have h1 := str_inv (vl_spec hf hx hv)
      obtain ⟨k, hk⟩ := iv_spec hf hi hiv
      have hb' : (⟨s.toArray⟩ : ByteArray)[i.toNat]? = some b := by rw [ba_get]; exact hb
      exact .val (by simp [execOp, ho, Instr.index, run_underlying ht, h1, hk, asIntOf, hr, hb']) (.int _ _)
    · cases he
  · cases he

theorem ba_size (s : List UInt8) : (⟨s.toArray⟩ : ByteArray).size = s.length := by simp [ByteArray.size]

theorem bin_int {op : BinOp} {k : IntKind} {m n : Int} {v : AV} (hv : binI op k m n = some v) (h1 : op ≠ .shl) (h2 : op ≠ .shr) (t : TypeId) (w : World) :
    ∃ u, (binOp op t (.int k m) (.int k n)).run P w = .ok u w ∧ VRel E v u := by
  have e : binOp op t (.int k m) (.int k n) = (match op with
      | .add | .sub | .mul => Op.intArith op k m n
      | .quo | .rem => Op.intDiv op k m n
      | .and | .or | .xor | .andNot => Op.intBits op k m n
      | _ => Op.intCmp op m n) := by cases op <;> first | exact absurd rfl h1 | exact absurd rfl h2 | (simp only [binOp, ne_eq, not_true_eq_false, if_false])
  rw [e]
  cases op <;> simp only [binI] at hv <;> first
    | (cases hv; done)
    | (cases hv; exact ⟨_, rfl, .int _ _⟩)
    | (cases hv; exact ⟨_, rfl, .bool _⟩)
    | (split at hv
       · cases hv
       · rename_i hz; cases hv; exact ⟨_, by simp only [Op.intDiv, if_neg hz]; rfl, .int _ _⟩)

theorem bin_str {op : BinOp} {s t' : List UInt8} {v : AV} (hv : binS op s t' = some v) (t : TypeId) (w : World) :
    ∃ u, (binOp op t (.string ⟨s.toArray⟩) (.string ⟨t'.toArray⟩)).run P w = .ok u w ∧ VRel E v u := by
  cases op <;> simp only [binS] at hv <;> first
    | (cases hv; done)
    | (cases hv; exact ⟨_, by simp only [binOp, Op.stringOp, ByteArray.toList_mk]; rfl, .bool _⟩)
    | (split at hv
       · rename_i hl
         cases hv
         refine ⟨_, ?_, .str _⟩
         have h3 : ¬ (((s.length + t'.length : Nat) : Int) > IntKind.i64.max) := by simp only [IntKind.max, IntKind.signed, IntKind.bits]; omega
         simp only [binOp, Op.stringOp, ba_size, if_neg h3, Sem.run_pure]
         congr 2
       · cases hv)

theorem bin_spec {op : BinOp} {x y v : AV} {a b : Value} (ha : VRel E x a) (hb : VRel E y b) (hv : bin op x y = some v) (t : TypeId) (w : World) :
    ∃ u, (binOp op t a b).run P w = .ok u w ∧ VRel E v u := by
  unfold bin at hv
  split at hv
  · rename_i k m k' n
    obtain rfl := int_inv ha
    obtain rfl := int_inv hb
    split at hv
    · split at hv
      · cases hv
      · rename_i hn; cases hv; exact ⟨_, by simp only [binOp, Op.shift, if_neg hn]; rfl, .int _ _⟩
    · split at hv
      · cases hv
      · rename_i hn; cases hv; exact ⟨_, by simp only [binOp, Op.shift, if_neg hn]; rfl, .int _ _⟩
    · rename_i h1 h2
      split at hv
      · rename_i hk; subst hk
        exact bin_int hv h1 h2 t w
      · cases hv
  · rename_i s t'
    obtain rfl := str_inv ha
    obtain rfl := str_inv hb
    exact bin_str hv t w
  · cases hv

/-- The guard ahead of == asks nothing of values that are no aggregates and no nil interfaces. -/
theorem eqGuard_plain {op : BinOp} {t : TypeId} {x y : Operand} {a b : Value} (h : (op = .eql ∨ op = .neq) → (∀ cs, a ≠ .agg cs) ∧ a ≠ .nilIface) (w : World) : (eqGuard op t x y a b).run P w = .ok () w := by
  cases op <;> first
    | rfl
    | (obtain ⟨h1, h2⟩ := h (by simp)
       unfold eqGuard
       cases a <;> first
         | exact absurd rfl h2
         | exact absurd rfl (h1 _)
         | rfl)

theorem ev_bin (hf : FRel E h w r a.tmps) {op : BinOp} {t t' : TypeId} {y z : Operand} {x xz : AX} (ho : o.op = .binOp op t y z t') (hx : XRel E a x y) (hz : XRel E a xz z)
    (he : evalV r h (.bin op x xz) = some reg) : Pure P E h w r a o reg := by
  simp only [evalV] at he
  split at he
  · rename_i v v' hv hv'
    obtain ⟨q, hq, rfl⟩ := map_some he
    have h1 := vl_spec hf hx hv
    have h2 := vl_spec hf hz hv'
    obtain ⟨u, hu, hr⟩ := bin_spec (P := P) h1 h2 hq t w
    have hg : (∀ cs, a.eval y ≠ .agg cs) ∧ a.eval y ≠ .nilIface := by
      unfold bin at hq
      split at hq
      · rw [int_inv h1]; exact ⟨(fun _ e => by cases e), (fun e => by cases e)⟩
      · rw [str_inv h1]; exact ⟨(fun _ e => by cases e), (fun e => by cases e)⟩
      · cases hq
    exact .val (by simp [execOp, ho, eqGuard_plain (P := P) (w := w) (fun _ => hg), hu]) hr
  · cases he

theorem un_spec {op : UnOp} {x v : AV} {a : Value} (ha : VRel E x a) (hv : un1 op x = some v) (w : World) : ∃ u, (Op.unary op a).run P w = .ok u w ∧ VRel E v u := by
  unfold un1 at hv
  split at hv
  · rename_i k n
    obtain rfl := int_inv ha
    split at hv
    · cases hv; exact ⟨_, rfl, .int _ _⟩
    · cases hv; exact ⟨_, rfl, .int _ _⟩
    · cases hv
  · rename_i b
    obtain rfl := bool_inv ha
    split at hv
    · cases hv; exact ⟨_, rfl, .bool _⟩
    · cases hv
  · cases hv

theorem ev_un (hf : FRel E h w r a.tmps) {op : UnOp} {t : TypeId} {y : Operand} {x : AX} (ho : o.op = .unOp op t y) (hx : XRel E a x y)
    (he : evalV r h (.un op x) = some reg) : Pure P E h w r a o reg := by
  simp only [evalV] at he
  split at he
  · rename_i v hv
    obtain ⟨q, hq, rfl⟩ := map_some he
    obtain ⟨u, hu, hr⟩ := un_spec (P := P) (vl_spec hf hx hv) hq w
    exact .val (by simp [execOp, ho, hu]) hr
  · cases he

theorem ev_convI (hf : FRel E h w r a.tmps) {t t' : TypeId} {d : TypeDesc} {y : Operand} {x : AX} {k : IntKind} (ho : o.op = .convert t t' y) (hx : XRel E a x y) (hd : P.underlying t = some d) (ht : P.underlying t' = some (.int k))
    (he : evalV r h (.convI k x) = some reg) : Pure P E h w r a o reg := by
  simp only [evalV] at he
  split at he
  · rename_i k' n hv
    cases he
    have h1 := int_inv (vl_spec hf hx hv)
    refine .val ?_ (.int _ _)
    simp [execOp, ho, convert, run_underlying ht, run_underlying hd, h1, Conv.intToInt]
  · cases he

/-- A conversion that leaves the value: between string types. -/
theorem ev_convS (hf : FRel E h w r a.tmps) {t t' : TypeId} {d : TypeDesc} {y : Operand} {x : AX} (ho : o.op = .convert t t' y) (hx : XRel E a x y) (hd : P.underlying t = some d) (ht : P.underlying t' = some .string) {s : List UInt8}
    (hs : vl r x = some (.str s)) (he : evalV r h (.mov x) = some reg) : Pure P E h w r a o reg := by
  obtain ⟨v, hv, rfl⟩ := map_some he
  rw [hs] at hv
  cases hv
  have h1 := str_inv (vl_spec hf hx hs)
  refine .val (u := .string ⟨s.toArray⟩) ?_ (.str _)
  simp [execOp, ho, convert, run_underlying ht, run_underlying hd, h1]

theorem ev_nilCheck (hf : FRel E h w r a.tmps) {y : Operand} {x : AX} (ho : o.op = .nilCheck y) (hx : XRel E a x y)
    (he : evalV r h (.nilCheck x) = some reg) : Pure P E h w r a o reg := by
  simp only [evalV] at he
  split at he
  · rename_i id s i off hv
    cases he
    have h1 := vl_spec hf hx hv
    generalize hy : a.eval y = yv at h1
    cases h1 with
    | ptr _ _ _ _ hid => exact .val (by simp [execOp, ho, hy]) (.ptr id s i off hid)
  · rename_i v hv
    cases he
    have h1 := vl_spec hf hx hv
    generalize hy : a.eval y = yv at h1
    have h1' := h1
    cases h1 with
    | iptr => exact .val (by simp [execOp, ho, hy]) h1'
  · rename_i f b c hv
    cases he
    have h1 := vl_spec hf hx hv
    generalize hy : a.eval y = yv at h1
    have h1' := h1
    cases h1 with
    | fn => exact .val (by simp [execOp, ho, hy]) h1'
  · cases he

/-- Operands, each with its reading. -/
def XRels (E : Env) (a : Act) (xs : List AX) (ys : List Operand) : Prop := xs.length = ys.length ∧ ∀ (i : Nat) x y, xs[i]? = some x → ys[i]? = some y → XRel E a x y

theorem vls_spec (hf : FRel E h w r a.tmps) : ∀ {xs : List AX} {ys : List Operand}, XRels E a xs ys → ∀ {vs : List AV}, vls r xs = some vs →
    vs.length = (ys.toArray.map a.eval).size ∧ ∀ (i : Nat) v u, vs[i]? = some v → (ys.toArray.map a.eval)[i]? = some u → VRel E v u
  | [], [], _, vs, hv => by simp [vls] at hv; subst hv; simp
  | [], y :: ys, hx, _, _ => by simp [XRels] at hx
  | x :: xs, [], hx, _, _ => by simp [XRels] at hx
  | x :: xs, y :: ys, hx, vs, hv => by
    simp only [vls] at hv
    split at hv
    · rename_i v vs' h1 h2
      cases hv
      have hx' : XRels E a xs ys := ⟨by have := hx.1; simpa using this, fun i => hx.2 (i + 1)⟩
      obtain ⟨q1, q2⟩ := vls_spec hf hx' h2
      refine ⟨by simpa using q1, fun i v' u hv' hu => ?_⟩
      cases i with
      | zero =>
        simp at hv' hu
        subst hv'; subst hu
        exact vl_spec hf (hx.2 0 x y rfl rfl) h1
      | succ i =>
        refine q2 i v' u (by simpa using hv') ?_
        simpa using hu
    · cases hv

theorem ev_mkFunc (hf : FRel E h w r a.tmps) {f : Fn} {ya yc : Array Operand} {xa xc : List AX} (ho : o.op = .makeFunc f ya yc) (ha : XRels E a xa ya.toList) (hc : XRels E a xc yc.toList)
    (he : evalV r h (.mkFunc f xa xc) = some reg) : Pure P E h w r a o reg := by
  simp only [evalV] at he
  split at he
  · rename_i va vc h1 h2
    cases he
    obtain ⟨q1, q2⟩ := vls_spec hf ha h1
    obtain ⟨q3, q4⟩ := vls_spec hf hc h2
    simp only [Array.toArray_toList] at q1 q2 q3 q4
    exact .val (u := .func f (ya.map a.eval) (yc.map a.eval)) (by simp [execOp, ho, Instr.makeFunc]) (.fn _ _ _ _ _ q1 q3 q2 q4)
  · cases he

theorem ev_extract (hf : FRel E h w r a.tmps) {y : Operand} {x : AX} {i : Nat} (ho : o.op = .extract y i) (hx : XRel E a x y)
    (he : evalV r h (.extract x i) = some reg) : Pure P E h w r a o reg := by
  simp only [evalV] at he
  split at he
  · rename_i vs hv
    obtain ⟨v, hv', rfl⟩ := map_some he
    have h1 := vl_spec hf hx hv
    generalize hy : a.eval y = yv at h1
    cases h1 with
    | tup _ us hl hh =>
      obtain ⟨u, hu⟩ := get_agg hl i (List.getElem?_eq_some_iff.1 hv').1
      exact .val (by simp [execOp, ho, hy, Instr.extract, hu]) (hh i v u hv' hu)
  · cases he

end
end Go.Im

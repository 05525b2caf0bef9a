/- Joined: ImOps1, ImOps2, ImGrow, ImOps3, ImNew, ImOps4, ImOps5. -/
import Derived.Test.YtcnbllelfinlmaaDoorImFrame
import Derived.Laws.Entries
import Derived.Laws.Strings
import Derived.Laws.BytesString
import Derived.Laws.Append
import Derived.Laws.Strings2
import Derived.Laws.Tables
/- ImOps1: operations that only yield a value. -/
set_option linter.unusedVariables false
set_option linter.unusedSimpArgs false
namespace Go.Im

def Runs (P : Program) (a : Act) (w : World) (o : Oper) (u : Value) (w' : World) : Prop :=
  (execOp a.eval o).run P w = .ok (.value u) w' ∨ ((execOp a.eval o).run P w = .ok .skip w' ∧ u = undef)

def Sz (P : Program) (t : TypeId) (n : Nat) : Prop := ∃ i, P.info? t = some i ∧ i.size = n

theorem Sz.run {P : Program} {t : TypeId} {n : Nat} (h : Sz P t n) (w : World) : (sizeOf t).run P w = .ok n w := by
  obtain ⟨i, hi, rfl⟩ := h
  simp [sizeOf,typeInfo,hi]

def aggD : TypeDesc → Bool
  | .struct _ | .array _ _ => true
  | _ => false

theorem Ty.of {P : Program} {t : TypeId} {d : TypeDesc} {n : Nat} (h : P.underlying t = some d) (hs : Sz P t n) : Ty P t (aggD d) n :=
  ⟨fun w => by cases d <;> simp [isAgg,run_underlying h,aggD], hs.run⟩

section
variable {P : Program} {E : Env} {h : Hp} {w : World} {r : Regs} {a : Act} {o : Oper} {reg : Reg}

def Pure (P : Program) (E : Env) (h : Hp) (w : World) (r : Regs) (a : Act) (o : Oper) (reg : Reg) : Prop := ∃ u, Runs P a w o u w ∧ Yields E h w r a.tmps u reg

theorem Pure.val {u : Value} {v : AV} (hr : (execOp a.eval o).run P w = .ok (.value u) w) (hv : VRel E v u) : Pure P E h w r a o (.val v) := ⟨u, .inl hr, hv⟩

theorem map_some {α β : Type} {f : α → β} {x : Option α} {y : β} (hx : x.map f = some y) : ∃ z, x = some z ∧ f z = y := Option.map_eq_some_iff.1 hx

theorem ev_mov (hf : FRel E h w r a.tmps) {y : Operand} {x : AX} (ho : o.op = .move y ∨ o.op = .assign y) (hx : XRel E a x y) (he : evalV r h (.mov x) = some reg) : Pure P E h w r a o reg := by
  obtain ⟨v, hv, rfl⟩ := map_some he
  exact .val (by rcases ho with ho | ho <;> simp [execOp,ho]) (vl_spec hf hx hv)

theorem bool_inv {v : Value} {b : Bool} (h : VRel E (.bool b) v) : v = .bool b := by cases h; rfl
theorem int_inv {v : Value} {k : IntKind} {n : Int} (h : VRel E (.int k n) v) : v = .int k n := by cases h; rfl
theorem str_inv {v : Value} {s : List UInt8} (h : VRel E (.str s) v) : v = .string ⟨s.toArray⟩ := by cases h; rfl

theorem ev_pick (hf : FRel E h w r a.tmps) {yc ya yb : Operand} {xc xa xb : AX} (ho : o.op = .pick yc ya yb) (hc : XRel E a xc yc) (ha : XRel E a xa ya) (hb : XRel E a xb yb)
    (he : evalV r h (.pick xc xa xb) = some reg) : Pure P E h w r a o reg := by
  simp only [evalV] at he
  split at he
  · rename_i c hvc
    have h1 := bool_inv (vl_spec hf hc hvc)
    obtain ⟨v, hv, rfl⟩ := map_some he
    cases c with
    | true => exact .val (by simp [execOp,ho,h1,asBool]) (vl_spec hf ha hv)
    | false => exact .val (by simp [execOp,ho,h1,asBool]) (vl_spec hf hb hv)
  · cases he

theorem iv_spec (hf : FRel E h w r a.tmps) {x : AX} {y : Operand} (hx : XRel E a x y) {n : Int} (hv : iv r x = some n) : ∃ k, a.eval y = .int k n := by
  simp only [iv] at hv
  split at hv
  · rename_i k m hm
    cases hv
    exact ⟨k, int_inv (vl_spec hf hx hm)⟩
  · cases hv

theorem ev_load (hf : FRel E h w r a.tmps) (hh : HRel E h w) {t : TypeId} {y : Operand} {x : AX} {agg : Bool} {size : Nat} (ho : o.op = .load t y) (hx : XRel E a x y) (hT : Ty P t agg size)
    (he : evalV r h (.load agg size x) = some reg) : Pure P E h w r a o reg := by
  simp only [evalV] at he
  split at he
  · rename_i p hp
    obtain ⟨v, hv, rfl⟩ := map_some he
    obtain ⟨b, off, h1, h2⟩ := plc_spec hf hx hp
    obtain ⟨h3, h4⟩ := rd_spec hf hh h2 hv
    obtain ⟨u, h5, h6⟩ := run_loadVar hT h3 h4
    exact .val (by simp [execOp,ho,Instr.loadAt,Instr.sureAddr,h1,h5]) h6
  · cases he

theorem sub_place (hf : FRel E h w r a.tmps) {p : Pl} {b off : Nat} (hp : PlAt E r a.tmps b off p) {k size : Nat} {agg : Bool} {p' : Pl} (he : p.sub k size agg = some p') :
    Yields E h w r a.tmps (.pointer (some ⟨b, off + k, none⟩)) p'.reg := by
  cases p with
  | loc t o' =>
    obtain ⟨h1, h2, rfl⟩ := hp
    cases he
    exact ⟨h1, by rw [vb_of h2]⟩
  | hp id s i o' =>
    obtain ⟨h1, rfl, rfl⟩ := hp
    cases he
    simp only [Pl.reg,Yields]
    rw [Nat.add_assoc]
    exact .ptr id s i _ h1
  | im v =>
    obtain ⟨v', hv', rfl⟩ := map_some he
    obtain ⟨h1, _⟩ := sub_spec hp hv'
    refine .iptr v' b _ (fun a ha => ?_) (fun j hj => ?_) fun j a u hj hu => ?_
    · obtain ⟨j, hj, rfl⟩ := List.getElem_of_mem ha
      exact (h1 j _ (List.getElem?_eq_getElem hj)).1
    · obtain ⟨_, u, hu, _⟩ := h1 j _ (List.getElem?_eq_getElem hj)
      rw [hu]; rfl
    · obtain ⟨_, u', hu', hv⟩ := h1 j a hj
      rw [hu] at hu'
      cases hu'
      exact hv

theorem addr_add (b off k : Nat) : (⟨b, off, none⟩ : Addr).add k = ⟨b, off + k, none⟩ := by unfold Addr.add; split <;> simp_all

theorem ev_fieldA (hf : FRel E h w r a.tmps) {t : TypeId} {f : Nat} {y : Operand} {x : AX} {fs : Array Field} {fd : Field} {size : Nat} {agg : Bool} (ho : o.op = .fieldAddr t y f) (hx : XRel E a x y)
    (ht : P.underlying t = some (.struct fs)) (hfd : fs[f]? = some fd) (hs : Sz P fd.type size) (hs0 : size ≠ 0)
    (he : evalV r h (.fieldA fd.offset size agg x) = some reg) : Pure P E h w r a o reg := by
  simp only [evalV] at he
  split at he
  · rename_i p hp
    obtain ⟨p', hp', rfl⟩ := map_some he
    obtain ⟨b, off, h1, h2⟩ := plc_spec hf hx hp
    refine ⟨_, .inl ?_, sub_place hf h2 hp'⟩
    simp [execOp,ho,Instr.fieldAt,run_underlying ht,hfd,Instr.sureAddr,h1,fieldPlace,hs.run,hs0,addr_add]
  · cases he

theorem ev_indexA (hf : FRel E h w r a.tmps) {t : TypeId} {y yi : Operand} {x xi : AX} {len : Nat} {e : TypeId} {size : Nat} {agg : Bool} (ho : o.op = .indexAddr t y yi) (hx : XRel E a x y) (hi : XRel E a xi yi)
    (ht : P.underlying t = some (.array len e)) (hs : Sz P e size)
    (he : evalV r h (.indexA len size agg x xi) = some reg) : Pure P E h w r a o reg := by
  simp only [evalV] at he
  split at he
  · rename_i p i hp hiv
    split at he
    · rename_i hr
      obtain ⟨p', hp', rfl⟩ := map_some he
      obtain ⟨b, off, h1, h2⟩ := plc_spec hf hx hp
      obtain ⟨k, hk⟩ := iv_spec hf hi hiv
      refine ⟨_, .inl ?_, sub_place hf h2 hp'⟩
      simp [execOp,ho,Instr.indexAt,run_underlying ht,Instr.sureAddr,h1,hk,asIntOf,hs.run,hr,addr_add]
    · cases he
  · cases he

theorem ev_indexS (hf : FRel E h w r a.tmps) (hh : HRel E h w) {t : TypeId} {y yi : Operand} {x xi : AX} {e : TypeId} {size : Nat} (ho : o.op = .indexAddr t y yi) (hx : XRel E a x y) (hi : XRel E a xi yi)
    (ht : P.underlying t = some (.slice e)) (hs : Sz P e size)
    (he : evalV r h (.indexS size x xi) = some reg) : Pure P E h w r a o reg := by
  simp only [evalV] at he
  split at he
  · rename_i s es c i hv hiv
    obtain ⟨k, hk⟩ := iv_spec hf hi hiv
    split at he
    · rename_i hr
      obtain ⟨rfl, hi0⟩ := hr
      obtain ⟨v, hv', rfl⟩ := map_some he
      have hlt := (List.getElem?_eq_some_iff.1 hv').1
      have h1 := vl_spec hf hx hv
      generalize hy : a.eval y = yv at h1
      cases h1 with
      | imm _ _ _ b off cap hcap hsz h1 hss hvr hc =>
        have hmem := List.mem_of_getElem? hv'
        have hl := hsz v hmem
        refine ⟨.pointer (some ⟨b, off + i.toNat * s, none⟩), .inl ?_, ?_⟩
        · have : i < (es.length : Int) := by omega
          simp [execOp,ho,Instr.indexAt,run_underlying ht,hy,hk,asIntOf,hs.run,hi0,this,addr_add]
        · exact .iptr v b _ (h1 v hmem) (fun j hj => hss i.toNat j hlt (by omega)) fun j a u hj hu => hvr i.toNat v j a u hv' hj hu
      | imz _ _ _ _ => simp at hlt
    · cases he
  · rename_i id s off n c i hv hiv
    obtain ⟨k, hk⟩ := iv_spec hf hi hiv
    split at he
    · rename_i hr
      obtain ⟨rfl, hi0, hin⟩ := hr
      cases he
      have h1 := vl_spec hf hx hv
      generalize hy : a.eval y = yv at h1
      cases h1 with
      | row _ _ _ _ _ b o' cap hrow =>
        obtain ⟨q1, q2, q3, q4⟩ := hrow
        rcases q4 with ⟨rfl, rfl, q5⟩ | ⟨q5, q6⟩
        · refine ⟨.pointer (some ⟨E.ob id, off * s + i.toNat * s, none⟩), .inl ?_, ?_⟩
          · simp [execOp,ho,Instr.indexAt,run_underlying ht,hy,hk,asIntOf,hs.run,hi0,hin,addr_add]
          · have := VRel.ptr (E := E) id s (off + i.toNat) 0 q1
            rwa [Nat.add_mul, Nat.add_zero] at this
        · omega
    · cases he
  · cases he

theorem get_agg {cs : List AV} {vs : Array Value} (hl : cs.length = vs.size) (i : Nat) (hi : i < cs.length) : ∃ v, vs[i]? = some v := ⟨vs[i]'(hl ▸ hi), by simp [hl ▸ hi]⟩

theorem run_part {t : TypeId} {agg : Bool} {size : Nat} (hT : Ty P t agg size) {cs : List AV} {vs : Array Value} (hv : VRel E (.agg cs) (.agg vs)) {off : Nat} {v : AV} (hs : sub (.agg cs) off size agg = some v) (w : World) :
    ∃ u, (part t vs off).run P w = .ok u w ∧ VRel E v u := by
  cases hv with
  | agg _ _ hl h1 hh =>
  simp only [sub] at hs
  cases agg with
  | true =>
    simp only [if_true] at hs
    split at hs
    · rename_i hle
      cases hs
      refine ⟨.agg (vs.extract off (off + size)), by simp [part,hT.agg,hT.size], .agg _ _ (by simp; omega) (fun a ha => h1 a (List.mem_of_mem_drop (List.mem_of_mem_take ha))) fun i a u hi hu => ?_⟩
      simp only [List.getElem?_take,List.getElem?_drop] at hi
      split at hi
      · simp only [Array.getElem?_extract] at hu
        split at hu
        · exact hh _ _ _ hi hu
        · cases hu
      · cases hi
    · cases hs
  | false =>
    simp only [Bool.false_eq_true,if_false] at hs
    obtain ⟨u, hu⟩ := get_agg hl off (List.getElem?_eq_some_iff.1 hs).1
    exact ⟨u, by simp [part,hT.agg,hu], hh _ _ _ hs hu⟩

theorem agg_inv {v : Value} {cs : List AV} (h : VRel E (.agg cs) v) : ∃ vs, v = .agg vs := by cases h; exact ⟨_, rfl⟩

theorem ev_field (hf : FRel E h w r a.tmps) {t : TypeId} {f : Nat} {y : Operand} {x : AX} {fs : Array Field} {fd : Field} {size : Nat} {agg : Bool} (ho : o.op = .field t y f) (hx : XRel E a x y)
    (ht : P.underlying t = some (.struct fs)) (hfd : fs[f]? = some fd) (hT : Ty P fd.type agg size) (he : evalV r h (.field fd.offset size agg x) = some reg) : Pure P E h w r a o reg := by
  simp only [evalV] at he
  split at he
  · rename_i cs hv
    obtain ⟨v', hv', rfl⟩ := map_some he
    have h1 := vl_spec hf hx hv
    obtain ⟨vs, hvs⟩ := agg_inv h1
    rw [hvs] at h1
    obtain ⟨u, hu, hr⟩ := run_part hT h1 hv' w
    exact .val (by simp [execOp,ho,Instr.field,run_underlying ht,hfd,hvs,asAgg,hu]) hr
  · cases he

theorem ev_indexV (hf : FRel E h w r a.tmps) {t : TypeId} {y yi : Operand} {x xi : AX} {len : Nat} {e : TypeId} {size : Nat} {agg : Bool} (ho : o.op = .index t y yi) (hx : XRel E a x y) (hi : XRel E a xi yi)
    (ht : P.underlying t = some (.array len e)) (hT : Ty P e agg size) (he : evalV r h (.indexV len size agg x xi) = some reg) : Pure P E h w r a o reg := by
  simp only [evalV] at he
  split at he
  · rename_i cs i hv hiv
    split at he
    · rename_i hr
      obtain ⟨v', hv', rfl⟩ := map_some he
      have h1 := vl_spec hf hx hv
      obtain ⟨vs, hvs⟩ := agg_inv h1
      rw [hvs] at h1
      obtain ⟨k, hk⟩ := iv_spec hf hi hiv
      obtain ⟨u, hu, hr'⟩ := run_part hT h1 hv' w
      exact .val (by simp [execOp,ho,Instr.index,run_underlying ht,hvs,hk,asIntOf,hr,hT.size,hu]) hr'
    · cases he
  · cases he

theorem ba_get (s : List UInt8) (i : Nat) : (⟨s.toArray⟩ : ByteArray)[i]? = s[i]? := by
  simp only [getElem?_def,ByteArray.size]
  by_cases hi : i < s.length
  · rw [dif_pos (by simpa [ByteArray.size] using hi), dif_pos hi]; rfl
  · rw [dif_neg (by simpa [ByteArray.size] using hi), dif_neg hi]

theorem ev_indexStr (hf : FRel E h w r a.tmps) {t : TypeId} {y yi : Operand} {x xi : AX} (ho : o.op = .index t y yi) (hx : XRel E a x y) (hi : XRel E a xi yi)
    (ht : P.underlying t = some .string) (he : evalV r h (.indexStr x xi) = some reg) : Pure P E h w r a o reg := by
  simp only [evalV] at he
  split at he
  · rename_i s i hv hiv
    split at he
    · rename_i hr
      obtain ⟨b, hb, rfl⟩ := map_some he
      have h1 := str_inv (vl_spec hf hx hv)
      obtain ⟨k, hk⟩ := iv_spec hf hi hiv
      have hb' : (⟨s.toArray⟩ : ByteArray)[i.toNat]? = some b := by rw [ba_get]; exact hb
      exact .val (by simp [execOp,ho,Instr.index,run_underlying ht,h1,hk,asIntOf,hr,hb']) (.int _ _)
    · cases he
  · cases he

theorem ba_size (s : List UInt8) : (⟨s.toArray⟩ : ByteArray).size = s.length := by simp [ByteArray.size]

theorem bin_int {op : BinOp} {k : IntKind} {m n : Int} {v : AV} (hv : binI op k m n = some v) (h1 : op ≠ .shl) (h2 : op ≠ .shr) (t : TypeId) (w : World) :
    ∃ u, (binOp op t (.int k m) (.int k n)).run P w = .ok u w ∧ VRel E v u := by
  have e : binOp op t (.int k m) (.int k n) = (match op with
      | .add | .sub | .mul => Op.intArith op k m n
      | .quo | .rem => Op.intDiv op k m n
      | .and | .or | .xor | .andNot => Op.intBits op k m n
      | _ => Op.intCmp op m n) := by cases op <;> first | exact absurd rfl h1 | exact absurd rfl h2 | (simp only [binOp,ne_eq,not_true_eq_false,if_false])
  rw [e]
  cases op <;> simp only [binI] at hv <;> first
    | (cases hv; done)
    | (cases hv; exact ⟨_, rfl, .int _ _⟩)
    | (cases hv; exact ⟨_, rfl, .bool _⟩)
    | (split at hv
       · cases hv
       · rename_i hz; cases hv; exact ⟨_, by simp only [Op.intDiv,if_neg hz]; rfl, .int _ _⟩)

theorem bin_str {op : BinOp} {s t' : List UInt8} {v : AV} (hv : binS op s t' = some v) (t : TypeId) (w : World) :
    ∃ u, (binOp op t (.string ⟨s.toArray⟩) (.string ⟨t'.toArray⟩)).run P w = .ok u w ∧ VRel E v u := by
  cases op <;> simp only [binS] at hv <;> first
    | (cases hv; done)
    | (cases hv; exact ⟨_, by simp only [binOp,Op.stringOp,ByteArray.toList_mk]; rfl, .bool _⟩)
    | (split at hv
       · rename_i hl
         cases hv
         refine ⟨_, ?_, .str _⟩
         have h3 : ¬ (((s.length + t'.length : Nat) : Int) > IntKind.i64.max) := by simp only [IntKind.max,IntKind.signed,IntKind.bits]; omega
         simp only [binOp,Op.stringOp,ba_size,if_neg h3,Sem.run_pure]
         congr 2
       · cases hv)

theorem bin_spec {op : BinOp} {x y v : AV} {a b : Value} (ha : VRel E x a) (hb : VRel E y b) (hv : bin op x y = some v) (t : TypeId) (w : World) :
    ∃ u, (binOp op t a b).run P w = .ok u w ∧ VRel E v u := by
  unfold bin at hv
  split at hv
  · rename_i k m k' n
    obtain rfl := int_inv ha
    obtain rfl := int_inv hb
    split at hv
    · split at hv
      · cases hv
      · rename_i hn; cases hv; exact ⟨_, by simp only [binOp,Op.shift,if_neg hn]; rfl, .int _ _⟩
    · split at hv
      · cases hv
      · rename_i hn; cases hv; exact ⟨_, by simp only [binOp,Op.shift,if_neg hn]; rfl, .int _ _⟩
    · rename_i h1 h2
      split at hv
      · rename_i hk; subst hk
        exact bin_int hv h1 h2 t w
      · cases hv
  · rename_i s t'
    obtain rfl := str_inv ha
    obtain rfl := str_inv hb
    exact bin_str hv t w
  · cases hv

theorem eqGuard_plain {op : BinOp} {t : TypeId} {x y : Operand} {a b : Value} (h : (op = .eql ∨ op = .neq) → (∀ cs, a ≠ .agg cs) ∧ a ≠ .nilIface) (w : World) : (eqGuard op t x y a b).run P w = .ok () w := by
  cases op <;> first
    | rfl
    | (obtain ⟨h1, h2⟩ := h (by simp)
       unfold eqGuard
       cases a <;> first
         | exact absurd rfl h2
         | exact absurd rfl (h1 _)
         | rfl)

theorem ev_bin (hf : FRel E h w r a.tmps) {op : BinOp} {t t' : TypeId} {y z : Operand} {x xz : AX} (ho : o.op = .binOp op t y z t') (hx : XRel E a x y) (hz : XRel E a xz z)
    (he : evalV r h (.bin op x xz) = some reg) : Pure P E h w r a o reg := by
  simp only [evalV] at he
  split at he
  · rename_i v v' hv hv'
    obtain ⟨q, hq, rfl⟩ := map_some he
    have h1 := vl_spec hf hx hv
    have h2 := vl_spec hf hz hv'
    obtain ⟨u, hu, hr⟩ := bin_spec (P := P) h1 h2 hq t w
    have hg : (∀ cs, a.eval y ≠ .agg cs) ∧ a.eval y ≠ .nilIface := by
      unfold bin at hq
      split at hq
      · rw [int_inv h1]; exact ⟨(fun _ e => by cases e), (fun e => by cases e)⟩
      · rw [str_inv h1]; exact ⟨(fun _ e => by cases e), (fun e => by cases e)⟩
      · cases hq
    exact .val (by simp [execOp,ho,eqGuard_plain (P := P) (w := w) (fun _ => hg),hu]) hr
  · cases he

theorem un_spec {op : UnOp} {x v : AV} {a : Value} (ha : VRel E x a) (hv : un1 op x = some v) (w : World) : ∃ u, (Op.unary op a).run P w = .ok u w ∧ VRel E v u := by
  unfold un1 at hv
  split at hv
  · rename_i k n
    obtain rfl := int_inv ha
    split at hv
    · cases hv; exact ⟨_, rfl, .int _ _⟩
    · cases hv; exact ⟨_, rfl, .int _ _⟩
    · cases hv
  · rename_i b
    obtain rfl := bool_inv ha
    split at hv
    · cases hv; exact ⟨_, rfl, .bool _⟩
    · cases hv
  · cases hv

theorem ev_un (hf : FRel E h w r a.tmps) {op : UnOp} {t : TypeId} {y : Operand} {x : AX} (ho : o.op = .unOp op t y) (hx : XRel E a x y)
    (he : evalV r h (.un op x) = some reg) : Pure P E h w r a o reg := by
  simp only [evalV] at he
  split at he
  · rename_i v hv
    obtain ⟨q, hq, rfl⟩ := map_some he
    obtain ⟨u, hu, hr⟩ := un_spec (P := P) (vl_spec hf hx hv) hq w
    exact .val (by simp [execOp,ho,hu]) hr
  · cases he

theorem ev_convI (hf : FRel E h w r a.tmps) {t t' : TypeId} {d : TypeDesc} {y : Operand} {x : AX} {k : IntKind} (ho : o.op = .convert t t' y) (hx : XRel E a x y) (hd : P.underlying t = some d) (ht : P.underlying t' = some (.int k))
    (he : evalV r h (.convI k x) = some reg) : Pure P E h w r a o reg := by
  simp only [evalV] at he
  split at he
  · rename_i k' n hv
    cases he
    have h1 := int_inv (vl_spec hf hx hv)
    refine .val ?_ (.int _ _)
    simp [execOp,ho,convert,run_underlying ht,run_underlying hd,h1,Conv.intToInt]
  · cases he

theorem ev_convS (hf : FRel E h w r a.tmps) {t t' : TypeId} {d : TypeDesc} {y : Operand} {x : AX} (ho : o.op = .convert t t' y) (hx : XRel E a x y) (hd : P.underlying t = some d) (ht : P.underlying t' = some .string) {s : List UInt8}
    (hs : vl r x = some (.str s)) (he : evalV r h (.mov x) = some reg) : Pure P E h w r a o reg := by
  obtain ⟨v, hv, rfl⟩ := map_some he
  rw [hs] at hv
  cases hv
  have h1 := str_inv (vl_spec hf hx hs)
  refine .val (u := .string ⟨s.toArray⟩) ?_ (.str _)
  simp [execOp,ho,convert,run_underlying ht,run_underlying hd,h1]

theorem ev_nilCheck (hf : FRel E h w r a.tmps) {y : Operand} {x : AX} (ho : o.op = .nilCheck y) (hx : XRel E a x y)
    (he : evalV r h (.nilCheck x) = some reg) : Pure P E h w r a o reg := by
  simp only [evalV] at he
  split at he
  · rename_i id s i off hv
    cases he
    have h1 := vl_spec hf hx hv
    generalize hy : a.eval y = yv at h1
    cases h1 with
    | ptr _ _ _ _ hid => exact .val (by simp [execOp,ho,hy]) (.ptr id s i off hid)
  · rename_i v hv
    cases he
    have h1 := vl_spec hf hx hv
    generalize hy : a.eval y = yv at h1
    have h1' := h1
    cases h1 with
    | iptr => exact .val (by simp [execOp,ho,hy]) h1'
  · rename_i f b c hv
    cases he
    have h1 := vl_spec hf hx hv
    generalize hy : a.eval y = yv at h1
    have h1' := h1
    cases h1 with
    | fn => exact .val (by simp [execOp,ho,hy]) h1'
  · cases he

def XRels (E : Env) (a : Act) (xs : List AX) (ys : List Operand) : Prop := xs.length = ys.length ∧ ∀ (i : Nat) x y, xs[i]? = some x → ys[i]? = some y → XRel E a x y

theorem vls_spec (hf : FRel E h w r a.tmps) : ∀ {xs : List AX} {ys : List Operand}, XRels E a xs ys → ∀ {vs : List AV}, vls r xs = some vs →
    vs.length = (ys.toArray.map a.eval).size ∧ ∀ (i : Nat) v u, vs[i]? = some v → (ys.toArray.map a.eval)[i]? = some u → VRel E v u
  | [], [], _, vs, hv => by simp [vls] at hv; subst hv; simp
  | [], y :: ys, hx, _, _ => by simp [XRels] at hx
  | x :: xs, [], hx, _, _ => by simp [XRels] at hx
  | x :: xs, y :: ys, hx, vs, hv => by
    simp only [vls] at hv
    split at hv
    · rename_i v vs' h1 h2
      cases hv
      have hx' : XRels E a xs ys := ⟨by have := hx.1; simpa using this, fun i => hx.2 (i + 1)⟩
      obtain ⟨q1, q2⟩ := vls_spec hf hx' h2
      refine ⟨by simpa using q1, fun i v' u hv' hu => ?_⟩
      cases i with
      | zero =>
        simp at hv' hu
        subst hv'; subst hu
        exact vl_spec hf (hx.2 0 x y rfl rfl) h1
      | succ i =>
        refine q2 i v' u (by simpa using hv') ?_
        simpa using hu
    · cases hv

theorem ev_mkFunc (hf : FRel E h w r a.tmps) {f : Fn} {ya yc : Array Operand} {xa xc : List AX} (ho : o.op = .makeFunc f ya yc) (ha : XRels E a xa ya.toList) (hc : XRels E a xc yc.toList)
    (he : evalV r h (.mkFunc f xa xc) = some reg) : Pure P E h w r a o reg := by
  simp only [evalV] at he
  split at he
  · rename_i va vc h1 h2
    cases he
    obtain ⟨q1, q2⟩ := vls_spec hf ha h1
    obtain ⟨q3, q4⟩ := vls_spec hf hc h2
    simp only [Array.toArray_toList] at q1 q2 q3 q4
    exact .val (u := .func f (ya.map a.eval) (yc.map a.eval)) (by simp [execOp,ho,Instr.makeFunc]) (.fn _ _ _ _ _ q1 q3 q2 q4)
  · cases he

theorem ev_extract (hf : FRel E h w r a.tmps) {y : Operand} {x : AX} {i : Nat} (ho : o.op = .extract y i) (hx : XRel E a x y)
    (he : evalV r h (.extract x i) = some reg) : Pure P E h w r a o reg := by
  simp only [evalV] at he
  split at he
  · rename_i vs hv
    obtain ⟨v, hv', rfl⟩ := map_some he
    have h1 := vl_spec hf hx hv
    generalize hy : a.eval y = yv at h1
    cases h1 with
    | tup _ us hl hh =>
      obtain ⟨u, hu⟩ := get_agg hl i (List.getElem?_eq_some_iff.1 hv').1
      exact .val (by simp [execOp,ho,hy,Instr.extract,hu]) (hh i v u hv' hu)
  · cases he

end
end Go.Im

/- ImOps2: slices, strings and literals. -/
set_option linter.unusedVariables false
set_option linter.unusedSimpArgs false
namespace Go.Im

section
variable {P : Program} {E : Env} {h : Hp} {w : World} {r : Regs} {a : Act} {o : Oper} {reg : Reg}

def ElemsAt (E : Env) (w : World) (b o size : Nat) (es : List AV) : Prop :=
  ∀ (i : Nat) e, es[i]? = some e → e.cells.length = size ∧ CellsAt E (fun o => w.cell? ⟨b, o, none⟩) (o + i * size) e

def SliceAt (E : Env) (w : World) (u : Value) (size : Nat) (es : List AV) : Prop :=
  (u = .slice none 0 0 ∧ es = []) ∨ (∃ z, u = .slice (some z) 0 0 ∧ es = []) ∨ ∃ b o cap, u = .slice (some ⟨b, o, none⟩) es.length cap ∧ es.length ≤ cap ∧ ElemsAt E w b o size es

theorem take_drop_get {α : Type} {l : List α} {off n i : Nat} {x : α} (h : ((l.drop off).take n)[i]? = some x) : l[off + i]? = some x ∧ i < n := by
  simp only [List.getElem?_take,List.getElem?_drop] at h
  split at h
  · exact ⟨h, by assumption⟩
  · cases h

theorem row_of (hh : HRel E h w) {id s : Nat} {es : List AV} (he : h[id]? = some (.row s es)) : ∃ c T fr, w.heap[E.ob id]? = some (.cells c T fr) ∧ (∀ o, o < c.size → (fr.1 ≤ o && o < fr.2) = false) ∧ c.size = E.cp id * s ∧ es.length ≤ E.cp id ∧
    (∀ e ∈ es, e.cells.length = s) ∧ (∀ (i : Nat) e, es[i]? = some e → CellsAt E (fun o => c[o]?) (i * s) e) ∧ ∀ o, E.sg (E.ob id) o = none := hh.obj id _ he

theorem elems_spec (hh : HRel E h w) {v : AV} {u : Value} (hv : VRel E v u) {sz : Nat} {es : List AV} (he : elems h sz v = some es) : SliceAt E w u sz es := by
  cases hv <;> simp [elems] at he
  case nils => subst he; exact .inl ⟨rfl, rfl⟩
  case imz size a c hc => exact .inr (.inl ⟨_, rfl, by simpa using he.2⟩)
  case imm s es' c b off cap hcap hsz h1 hs hvr hc =>
    obtain ⟨rfl, rfl⟩ := he
    refine .inr <| .inr ⟨b, off, cap, rfl, hcap, fun i e hi => ⟨hsz e (List.mem_of_getElem? hi), fun k x hk => ?_⟩⟩
    have hlt := (List.getElem?_eq_some_iff.1 hi).1
    have hk' := (List.getElem?_eq_some_iff.1 hk).1
    rw [hsz e (List.mem_of_getElem? hi)] at hk'
    obtain ⟨u, hu⟩ := Option.isSome_iff_exists.1 (hs i k hlt hk')
    exact ⟨h1 e (List.mem_of_getElem? hi) x (List.mem_of_getElem? hk), u, hh.sg _ _ _ hu, hvr i e k x u hi hk hu⟩
  case row id s off n clip b o' cap hr =>
    split at he
    · rename_i s' es' hes
      split at he
      · rename_i hc
        obtain ⟨rfl, rfl, hle⟩ := hc
        cases he
        obtain ⟨q1, q2, q3, q4⟩ := hr
        have hl : ((es'.drop off).take n).length = n := by simp; omega
        obtain ⟨c, T, fr, p1, p2, p3, p4, p5, p6, p7⟩ := row_of hh hes
        refine .inr <| .inr ⟨b, o', cap, by rw [hl], by rw [hl]; exact q2, fun i e hi => ?_⟩
        obtain ⟨hi', hin⟩ := take_drop_get hi
        rcases q4 with ⟨rfl, rfl, _⟩ | ⟨q5, _⟩
        · refine ⟨p5 e (List.mem_of_getElem? hi'), ?_⟩
          have := (p6 (off + i) e hi').congr (c' := fun o => w.cell? ⟨E.ob id, o, none⟩) (fun k _ => cell_of p1 _)
          rwa [Nat.add_mul] at this
        · omega
      · cases he
    · cases he

theorem cells_elems {b o : Nat} {cs : List AV} (hc : CellsAt E (fun o => w.cell? ⟨b, o, none⟩) o (.agg cs)) {off n : Nat} : ElemsAt E w b (o + off) 1 ((cs.drop off).take n) := by
  intro i e hi
  obtain ⟨hi', hin⟩ := take_drop_get hi
  obtain ⟨h1, u, hu, hv⟩ := hc (off + i) e hi'
  refine ⟨by rw [AV.cells_of_one h1]; rfl, fun k x hk => ?_⟩
  rw [AV.cells_of_one h1] at hk
  cases k with
  | zero =>
    simp at hk; subst hk
    refine ⟨h1, u, ?_, hv⟩
    show w.cell? ⟨b, o + off + i * 1 + 0, none⟩ = some u
    rw [show o + off + i * 1 + 0 = o + (off + i) by omega]
    exact hu
  | succ k => simp at hk

theorem selems_spec (hf : FRel E h w r a.tmps) (hh : HRel E h w) {x : AX} {y : Operand} (hx : XRel E a x y) {sz : Nat} {es : List AV} (he : selems r h sz x = some es) : SliceAt E w (a.eval y) sz es := by
  cases x with
  | c v => exact elems_spec hh hx he
  | t n =>
    simp only [XRel] at hx
    subst hx
    have hr := hf.reg n
    simp only [selems] at he
    split at he
    · rename_i v hv
      rw [hv] at hr
      exact elems_spec hh hr he
    · rename_i t off m es' hv
      rw [hv] at hr
      split at he
      · rename_i cs hcs
        split at he
        · rename_i hc
          obtain ⟨rfl, rfl, hle⟩ := hc
          cases he
          obtain ⟨c, T, fr, p1, p2, p3, p4, p5, p6⟩ := var_at hf hcs
          obtain ⟨o', cap, q1, q2, q3⟩ := hr _ p1 ⟨_, hcs⟩
          have hl : ((cs.drop off).take m).length = m := by simp; omega
          refine .inr <| .inr ⟨_, o', cap, by rw [hl]; exact q1, by rw [hl]; exact q2, ?_⟩
          rcases q3 with rfl | rfl
          · have := cells_elems (w := w) (b := vb a.tmps t) (o := 0) (p5.congr (fun k _ => cell_of p2 _)) (off := o') (n := m)
            simpa using this
          · intro i e hi; simp at hi
        · cases he
      · cases he
    · rename_i id s i off m es' hv
      rw [hv] at hr
      split at he
      · rename_i s' vs hvs
        split at he
        · rename_i cs hcs
          split at he
          · rename_i hc
            obtain ⟨rfl, rfl, rfl, hle⟩ := hc
            cases he
            obtain ⟨q0, o', cap, q1, q2, q3⟩ := hr
            obtain ⟨c, T, fr, p1, p2, p3, p4, p5, p6, p7⟩ := row_of hh hvs
            have hl : ((cs.drop off).take m).length = m := by simp; omega
            refine .inr <| .inr ⟨_, o', cap, by rw [hl]; exact q1, by rw [hl]; exact q2, ?_⟩
            rcases q3 with rfl | rfl
            · exact cells_elems (w := w) (b := E.ob id) (o := i * s') ((p6 i _ hcs).congr (fun k _ => cell_of p1 _)) (off := off) (n := m)
            · intro i e hi; simp at hi
          · cases he
        · cases he
      · cases he
    · cases he

def flat (es : List AV) : List AV := es.flatMap AV.cells

theorem flat_get {size : Nat} {es : List AV} (hs : ∀ e ∈ es, e.cells.length = size) : (flat es).length = es.length * size ∧ ∀ (j : Nat) x, (flat es)[j]? = some x → ∃ e, es[j / size]? = some e ∧ e.cells[j % size]? = some x := by
  induction es with
  | nil => simp [flat]
  | cons e es ih =>
    obtain ⟨i1, i2⟩ := ih fun x hx => hs x (by simp [hx])
    have he := hs e (by simp)
    simp only [flat,List.flatMap_cons] at *
    refine ⟨by rw [List.length_append, he, i1, List.length_cons, Nat.succ_mul, Nat.add_comm], fun j x hj => ?_⟩
    by_cases hlt : j < size
    · rw [List.getElem?_append_left (by omega)] at hj
      exact ⟨e, by rw [Nat.div_eq_of_lt hlt]; rfl, by rw [Nat.mod_eq_of_lt hlt]; exact hj⟩
    · rw [List.getElem?_append_right (by omega), he] at hj
      obtain ⟨e', h1, h2⟩ := i2 _ x hj
      have hpos : 0 < size := by
        rcases Nat.eq_zero_or_pos size with h0 | h0
        · subst h0
          have hl := (List.getElem?_eq_some_iff.1 hj).1
          rw [i1] at hl
          simp at hl
        · exact h0
      have hj' : j = (j - size) + size := by omega
      refine ⟨e', ?_, ?_⟩
      · rw [hj', Nat.add_div_right _ hpos]; exact h1
      · rw [hj', Nat.add_mod_right]; exact h2

theorem ElemsAt.cells {b o size : Nat} {es : List AV} (he : ElemsAt E w b o size es) : ∃ us : List Value, us.length = es.length * size ∧ (∀ j u, us[j]? = some u → w.cell? ⟨b, o + j, none⟩ = some u) ∧
    (∀ (j : Nat) x u, (flat es)[j]? = some x → us[j]? = some u → x.one = true ∧ VRel E x u) := by
  have hs : ∀ e ∈ es, e.cells.length = size := fun e hm => by
    obtain ⟨i, hi, rfl⟩ := List.getElem_of_mem hm
    exact (he i _ (List.getElem?_eq_getElem hi)).1
  obtain ⟨hl, hg⟩ := flat_get hs
  have hcell : ∀ (j : Nat) x, (flat es)[j]? = some x → x.one = true ∧ ∃ u, w.cell? ⟨b, o + j, none⟩ = some u ∧ VRel E x u := fun j x hj => by
    obtain ⟨e, h1, h2⟩ := hg j x hj
    obtain ⟨p1, u, p2, p3⟩ := (he _ e h1).2 _ x h2
    refine ⟨p1, u, ?_, p3⟩
    rw [← p2]
    congr 2
    have := Nat.div_add_mod j size
    rw [Nat.mul_comm] at this
    omega
  let f : Nat → Value := fun j => (w.cell? ⟨b, o + j, none⟩).getD undef
  have hfj : ∀ (j : Nat) u, ((List.range (es.length * size)).map f)[j]? = some u → j < es.length * size ∧ u = f j := fun j u hj => by
    have hj1 := (List.getElem?_eq_some_iff.1 hj).1
    simp at hj1
    simp [hj1] at hj
    exact ⟨hj1, hj.symm⟩
  refine ⟨(List.range (es.length * size)).map f, by simp, fun j u hj => ?_, fun j x u hj hu => ?_⟩
  · obtain ⟨hj1, rfl⟩ := hfj j u hj
    obtain ⟨_, u, hu, _⟩ := hcell j _ (List.getElem?_eq_getElem (by omega : j < (flat es).length))
    simp [f,hu]
  · obtain ⟨p1, u', hu', p3⟩ := hcell j x hj
    obtain ⟨hj1, rfl⟩ := hfj j u hu
    have : f j = u' := by simp [f,hu']
    rw [this]
    exact ⟨p1, p3⟩

theorem toBytes_spec : ∀ {es : List AV} {s : List UInt8}, toBytes es = some s → ∃ ns : List Int, es = ns.map (.int .u8) ∧ s = ns.map fun n => UInt8.ofNat n.toNat
  | [], s, h => by simp [toBytes] at h; exact ⟨[], rfl, by simp [h]⟩
  | e :: es, s, h => by
    cases e with
    | int k n =>
      cases k <;> simp only [toBytes] at h <;> first
        | (obtain ⟨s', hs', rfl⟩ := map_some h
           obtain ⟨ns, rfl, rfl⟩ := toBytes_spec hs'
           exact ⟨n :: ns, rfl, rfl⟩)
        | cases h
    | _ => simp [toBytes] at h

theorem foldl_push (ns : List Int) (l : List UInt8) : ns.foldl (fun r n => r.push (UInt8.ofNat n.toNat)) (⟨l.toArray⟩ : ByteArray) = ⟨(l ++ ns.map fun n => UInt8.ofNat n.toNat).toArray⟩ := by
  induction ns generalizing l with
  | nil => simp
  | cons n ns ih =>
    simp only [List.foldl_cons]
    have : (⟨l.toArray⟩ : ByteArray).push (UInt8.ofNat n.toNat) = ⟨(l ++ [UInt8.ofNat n.toNat]).toArray⟩ := by
      show (⟨l.toArray.push _⟩ : ByteArray) = _
      simp
    rw [this, ih]
    simp

theorem flat_one {es : List AV} (h : ∀ e ∈ es, e.one = true) : flat es = es := by
  induction es with
  | nil => rfl
  | cons e es ih =>
    simp only [flat,List.flatMap_cons] at *
    rw [AV.cells_of_one (h e (by simp)), ih fun x hx => h x (by simp [hx])]
    rfl

theorem ev_bytesToStr (hf : FRel E h w r a.tmps) (hh : HRel E h w) {t t' e : TypeId} {y : Operand} {x : AX} (ho : o.op = .convert t t' y) (hx : XRel E a x y) (ht : P.underlying t = some (.slice e)) (ht' : P.underlying t' = some .string)
    (hu : P.underlying e = some (.int .u8)) (he : evalV r h (.bytesToStr x) = some reg) : Pure P E h w r a o reg := by
  simp only [evalV] at he
  split at he
  · rename_i es hes
    obtain ⟨s, hs, rfl⟩ := map_some he
    obtain ⟨ns, rfl, rfl⟩ := toBytes_spec hs
    rcases selems_spec hf hh hx hes with ⟨h1, h2⟩ | ⟨z, h1, h2⟩ | ⟨b, off, cap, h1, h2, h3⟩
    · have : ns = [] := by simpa using h2
      subst this
      refine .val (u := .string ⟨#[]⟩) ?_ (.str _)
      simp [execOp,ho,h1,convert,run_underlying ht,run_underlying ht',run_underlying hu,Conv.bytesToString]
      rfl
    · have : ns = [] := by simpa using h2
      subst this
      have hlc := run_loadCells_list (P := P) w z [] (fun j y hj => by simp at hj)
      simp only [List.length_nil] at hlc
      refine .val (u := .string ⟨#[]⟩) ?_ (.str _)
      simp [execOp,ho,h1,convert,run_underlying ht,run_underlying ht',run_underlying hu,Conv.bytesToString,hlc]
      rfl
    · obtain ⟨us, q1, q2, q3⟩ := h3.cells
      have hus : us = ns.map (Value.int .u8) := by
        apply List.ext_getElem?
        intro j
        by_cases hj : j < ns.length
        · have hj1 : j < us.length := by simp at q1; omega
          have := q3 j (.int .u8 ns[j]) us[j] (by rw [flat_one (by simp [AV.one])]; simp [hj]) (List.getElem?_eq_getElem hj1)
          rw [List.getElem?_eq_getElem hj1, int_inv this.2]
          simp [hj]
        · rw [List.getElem?_eq_none (by simp at q1; omega), List.getElem?_eq_none (by simp; omega)]
      subst hus
      have hl := run_loadCells_list (P := P) w ⟨b, off, none⟩ (ns.map (Value.int .u8)) (fun j u hj => by rw [addr_add]; exact q2 j u hj)
      have hrun := run_bytesToString w ⟨b, off, none⟩ (ns.map (AV.int .u8)).length cap ns (by simpa using hl)
      have e0 : (ByteArray.empty : ByteArray) = ⟨([] : List UInt8).toArray⟩ := rfl
      rw [e0, foldl_push] at hrun
      refine .val (u := .string ⟨(ns.map fun n => UInt8.ofNat n.toNat).toArray⟩) ?_ (.str _)
      simp at hrun
      simp [execOp,ho,h1,convert,run_underlying ht,run_underlying ht',run_underlying hu,hrun]
  · cases he

theorem ev_lenS (hf : FRel E h w r a.tmps) {t ty : TypeId} {y : Operand} {x : AX} {e : TypeId} (ho : o.op = .call { callee := .builtin .len, args := #[y], argTypes := #[t] }) (hx : XRel E a x y) (ht : P.underlying t = some (.slice e))
    (he : evalV r h (.lenS x) = some reg) : Pure P E h w r a o reg := by
  simp only [evalV] at he
  split at he
  · rename_i v hv
    obtain ⟨n, hn, rfl⟩ := map_some he
    have h1 := vl_spec hf hx hv
    have : ∃ b c, a.eval y = .slice b n c := by
      generalize a.eval y = u at h1
      cases h1 <;> simp [lenSl] at hn <;> subst hn <;> exact ⟨_, _, rfl⟩
    obtain ⟨b, c, hu⟩ := this
    exact .val (u := goInt n) (by simp [execOp,ho,resolve,invoke,builtin,hu,Builtin.len_,run_underlying ht]) (.int _ _)
  · cases he

theorem ev_lenStr (hf : FRel E h w r a.tmps) {t ty : TypeId} {y : Operand} {x : AX} (ho : o.op = .call { callee := .builtin .len, args := #[y], argTypes := #[t] }) (hx : XRel E a x y) (ht : P.underlying t = some .string)
    (he : evalV r h (.lenStr x) = some reg) : Pure P E h w r a o reg := by
  simp only [evalV] at he
  split at he
  · rename_i s hv
    cases he
    have h1 := str_inv (vl_spec hf hx hv)
    refine .val (u := goInt s.length) ?_ (.int _ _)
    simp [execOp,ho,resolve,invoke,builtin,h1,Builtin.len_,run_underlying ht,ba_size]
  · cases he

theorem run_getObj' {i : Nat} {ob : Obj} (hb : w.heap[i]? = some ob) (hn : ∀ c T fr, ob ≠ .cells c T fr) : (getObj i).run P w = .ok ob w := by
  unfold getObj
  simp only [Sem.run,hb]
  all_goals (cases ob <;> first | exact absurd rfl (hn _ _ _) | rfl)

theorem map_of (hh : HRel E h w) {v : AV} {u : Value} (hv : VRel E v u) {es : List (AV × AV × Nat)} (he : mapOf h v = some es) :
    (u = .map none ∧ es = []) ∨ ∃ b ents clock, u = .map (some b) ∧ w.heap[b]? = some (.map ents clock) ∧ es.length = ents.size ∧ ∀ (i : Nat) e m, es[i]? = some e → ents[i]? = some m → VRel E e.1 m.key ∧ VRel E e.2.1 m.val ∧ e.2.2 = m.born := by
  cases hv <;> simp [mapOf] at he
  case nilm => subst he; exact .inl ⟨rfl, rfl⟩
  case mp id hid =>
    split at he
    · rename_i es' clock hes
      cases he
      obtain ⟨ents, h1, h2, h3, _⟩ := hh.obj id _ hes
      exact .inr ⟨_, ents, clock, rfl, h1, h2, h3⟩
    · cases he

theorem ev_lenM (hf : FRel E h w r a.tmps) (hh : HRel E h w) {t ty : TypeId} {y : Operand} {x : AX} {k e : TypeId} (ho : o.op = .call { callee := .builtin .len, args := #[y], argTypes := #[t] }) (hx : XRel E a x y) (ht : P.underlying t = some (.map k e))
    (he : evalV r h (.lenM x) = some reg) : Pure P E h w r a o reg := by
  simp only [evalV] at he
  split at he
  · rename_i v hv
    obtain ⟨es, hes, rfl⟩ := map_some he
    rcases map_of hh (vl_spec hf hx hv) hes with ⟨h1, rfl⟩ | ⟨b, ents, clock, h1, h2, h3, _⟩
    · exact .val (u := goInt 0) (by simp [execOp,ho,resolve,invoke,builtin,h1,Builtin.len_,run_underlying ht]) (.int _ _)
    · have hg := run_getObj' (P := P) h2 (fun _ _ _ e => by cases e)
      refine .val (u := goInt ents.size) ?_ ?_
      · simp [execOp,ho,resolve,invoke,builtin,h1,Builtin.len_,run_underlying ht,hg]
      · rw [h3]; exact .int _ _
  · cases he

def nkD : NK → TypeDesc → Prop
  | .p, d => ∃ e, d = .pointer e
  | .s, d => ∃ e, d = .slice e
  | .m, d => ∃ k e, d = .map k e
  | .f, d => ∃ p q v, d = .func p q v

def nkV : NK → Value → Prop
  | .p, v => v = .pointer none
  | .s, v => ∃ n c, v = .slice none n c
  | .m, v => v = .map none
  | .f, v => v = .nilFunc

theorem isNil_spec {k : NK} {v : AV} {u z : Value} {b : Bool} (hv : VRel E v u) (hb : isNil k v = some b) {t : TypeId} {d : TypeDesc} (ht : P.underlying t = some d) (hd : nkD k d) (hz : nkV k z) (n : Nat) :
    (Op.equalIn (n + 1) t u z).run P w = .ok b w := by
  cases k <;> simp only [nkD,nkV] at hd hz
  · obtain ⟨e, rfl⟩ := hd; subst hz
    cases hv <;> simp [isNil] at hb <;> subst hb <;> simp [Op.equalIn,run_underlying ht]
  · obtain ⟨e, rfl⟩ := hd; obtain ⟨_, _, rfl⟩ := hz
    cases hv <;> simp [isNil] at hb <;> subst hb <;> simp [Op.equalIn,run_underlying ht]
  · obtain ⟨_, _, rfl⟩ := hd; subst hz
    cases hv <;> simp [isNil] at hb <;> subst hb <;> simp [Op.equalIn,run_underlying ht]
  · obtain ⟨_, _, _, rfl⟩ := hd; subst hz
    cases hv <;> simp [isNil] at hb <;> subst hb <;> simp [Op.equalIn,run_underlying ht]

theorem isNil_vals {k : NK} {v : AV} {u z : Value} {b : Bool} (hv : VRel E v u) (hb : isNil k v = some b) (hz : nkV k z) : (∀ cs, u ≠ .agg cs) ∧ u ≠ .nilIface := by
  cases k <;> cases hv <;> simp [isNil] at hb <;> exact ⟨(fun _ e => by cases e), (fun e => by cases e)⟩

theorem binOp_eql {k : NK} {v : AV} {u z : Value} {b : Bool} (hv : VRel E v u) (hb : isNil k v = some b) (hz : nkV k z) (t : TypeId) :
    binOp .eql t u z = (do pure (.bool (← Op.equal t u z))) ∧ binOp .neq t u z = (do pure (.bool (!(← Op.equal t u z)))) := by
  cases k <;> simp only [nkV] at hz
  · subst hz; cases hv <;> simp [isNil] at hb <;> exact ⟨rfl, rfl⟩
  · obtain ⟨_, _, rfl⟩ := hz; cases hv <;> simp [isNil] at hb <;> exact ⟨rfl, rfl⟩
  · subst hz; cases hv <;> simp [isNil] at hb <;> exact ⟨rfl, rfl⟩
  · subst hz; cases hv <;> simp [isNil] at hb <;> exact ⟨rfl, rfl⟩

theorem ev_eqNil (hf : FRel E h w r a.tmps) {op : BinOp} {t t' : TypeId} {y z : Operand} {x : AX} {d : TypeDesc} {neg : Bool} {k : NK} (hop : op = if neg then .neq else .eql) (ho : o.op = .binOp op t y z t') (hx : XRel E a x y)
    (ht : P.underlying t = some d) (hd : nkD k d) (hz : nkV k (a.eval z)) (he : evalV r h (.eqNil neg k x) = some reg) : Pure P E h w r a o reg := by
  simp only [evalV] at he
  split at he
  · rename_i v hv
    obtain ⟨b, hb, rfl⟩ := map_some he
    have h1 := vl_spec hf hx hv
    have h2 := isNil_spec (P := P) (w := w) h1 hb ht hd hz 9999
    obtain ⟨e1, e2⟩ := binOp_eql h1 hb hz t
    have hg := eqGuard_plain (P := P) (op := op) (t := t) (x := y) (y := z) (b := a.eval z) (fun _ => isNil_vals h1 hb hz) w
    refine .val (u := .bool (b != neg)) ?_ (.bool _)
    cases neg with
    | true => simp only [if_true] at hop; subst hop; simp at h2; simp [execOp,ho,hg,e2,Op.equal,Op.maxDepth,h2]
    | false => simp only [Bool.false_eq_true,if_false] at hop; subst hop; simp at h2; simp [execOp,ho,hg,e1,Op.equal,Op.maxDepth,h2]
  · cases he

theorem ba_extract (s : List UInt8) (i j : Nat) : (⟨s.toArray⟩ : ByteArray).extract i j = ⟨((s.take j).drop i).toArray⟩ := by
  rw [ByteArray.extract_mk, List.drop_take]

structure Bounds (a : Act) (E : Env) (lo hi mx : Option Operand) (l : Int) (hh mm : Option Int) : Prop where
  lo : (∃ y k, lo = some y ∧ a.eval y = .int k l) ∨ (lo = none ∧ l = 0)
  hi : (∃ y k i, hi = some y ∧ a.eval y = .int k i ∧ hh = some i) ∨ (hi = none ∧ hh = none)
  mx : (∃ y k i, mx = some y ∧ a.eval y = .int k i ∧ mm = some i) ∨ (mx = none ∧ mm = none)

theorem run_bound (k : IntKind) (i : Int) (y : Nat) (code : BoundsCode) (h0 : 0 ≤ i) (h1 : i ≤ y) : (Instr.sliceBound (.int k i) y code).run P w = .ok i.toNat w := by
  simp [Instr.sliceBound,asIntOf,h0,h1]

theorem run_bounds {lo hi mx : Option Operand} {l : Int} {hh mm : Option Int} (hb : Bounds a E lo hi mx l hh mm) (sl : Bool) (len cap : Nat) (h0 : 0 ≤ l) (h1 : l ≤ hh.getD len) (h2 : (hh.getD len : Int) ≤ mm.getD cap) (h3 : (mm.getD cap : Int) ≤ cap) (hm : mm.isSome → hh.isSome) :
    (Instr.sliceBounds sl len cap (lo.map a.eval) (hi.map a.eval) (mx.map a.eval)).run P w = .ok (l.toNat, (hh.getD (len : Int)).toNat, (mm.getD (cap : Int)).toNat) w := by
  obtain ⟨b1, b2, b3⟩ := hb
  have hl0 : 0 ≤ hh.getD (len : Int) := by omega
  have hm0 : 0 ≤ mm.getD (cap : Int) := by omega
  rcases b3 with ⟨ym, km, im, rfl, e3, rfl⟩ | ⟨rfl, rfl⟩
  · rcases b2 with ⟨yh, kh, ih, rfl, e2, rfl⟩ | ⟨rfl, rfl⟩
    · simp only [Option.getD_some] at *
      rcases b1 with ⟨yl, kl, rfl, e1⟩ | ⟨rfl, rfl⟩
      · simp [Instr.sliceBounds,e1,e2,e3,run_bound km im cap _ hm0 h3,run_bound kh ih im.toNat _ hl0 (by omega),run_bound kl l ih.toNat _ h0 (by omega)]
      · simp [Instr.sliceBounds,e2,e3,run_bound km im cap _ hm0 h3,run_bound kh ih im.toNat _ hl0 (by omega)]
    · simp at hm
  · rcases b2 with ⟨yh, kh, ih, rfl, e2, rfl⟩ | ⟨rfl, rfl⟩
    · simp only [Option.getD_some,Option.getD_none] at *
      rcases b1 with ⟨yl, kl, rfl, e1⟩ | ⟨rfl, rfl⟩
      · simp [Instr.sliceBounds,e1,e2,run_bound kh ih cap _ hl0 (by omega),run_bound kl l ih.toNat _ h0 (by omega)]
      · simp [Instr.sliceBounds,e2,run_bound kh ih cap _ hl0 (by omega)]
    · simp only [Option.getD_none] at *
      rcases b1 with ⟨yl, kl, rfl, e1⟩ | ⟨rfl, rfl⟩
      · simp [Instr.sliceBounds,e1,run_bound kl l len _ h0 h1]
      · simp [Instr.sliceBounds]

theorem slice_spec {v v' : AV} {u : Value} (hv : VRel E v u) {l : Int} {hh mm : Option Int} (he : sliceV v l hh mm = some v') {lo hi mx : Option Operand} (hb : Bounds a E lo hi mx l hh mm) (hm : mm.isSome → hh.isSome)
    {t : TypeId} (ht : (∃ s, v = .str s ∧ P.underlying t = some .string) ∨ ((∀ s, v ≠ .str s) ∧ ∃ e sz, P.underlying t = some (.slice e) ∧ Sz P e sz ∧ (∀ s es c, v = .imm s es c → s = sz) ∧ ∀ i s f n c, v = .row i s f n c → s = sz)) :
    ∃ u', (Instr.slice t u (lo.map a.eval) (hi.map a.eval) (mx.map a.eval)).run P w = .ok u' w ∧ VRel E v' u' := by
  unfold sliceV at he
  split at he
  · rename_i s
    rcases ht with ⟨_, _, ht⟩ | ⟨hn, _⟩
    · split at he
      · rename_i hc
        obtain ⟨rfl, c1, c2, c3⟩ := hc
        cases he
        obtain rfl := str_inv hv
        have := run_bounds (P := P) (w := w) hb false s.length s.length c1 c2 (by simpa using c3) (by simp) hm
        refine ⟨_, ?_, .str _⟩
        obtain ⟨b1, b2, b3⟩ := hb
        rcases b3 with ⟨_, _, _, _, _, hx⟩ | ⟨rfl, _⟩
        · cases hx
        · simp only [Option.map_none] at this
          simp [Instr.slice,run_underlying ht,ba_size,this,ba_extract]
      · cases he
    · exact absurd rfl (hn s)
  · rcases ht with ⟨_, h, _⟩ | ⟨_, e, sz, ht, hs, _⟩
    · cases h
    · split at he
      · rename_i hc
        obtain ⟨rfl, c1, c2⟩ := hc
        cases he
        cases hv
        have := run_bounds (P := P) (w := w) hb true 0 0 (by omega) (by simpa using Int.le_of_eq c1.symm) (by simpa [c1] using Int.le_of_eq c2.symm) (by simp [c2]) hm
        refine ⟨_, ?_, .nils⟩
        simp only [Int.ofNat_eq_natCast,Int.natCast_zero] at this
        simp [Instr.slice,run_underlying ht,hs.run,this,c1,c2]
      · cases he
  · rename_i size es c
    rcases ht with ⟨_, h, _⟩ | ⟨_, e, sz, ht, hs, hsz, _⟩
    · cases h
    · obtain rfl := hsz _ _ _ rfl
      split at he
      · rename_i hc
        obtain ⟨c1, c2, c3⟩ := hc
        cases hv with
        | imz _ za _ hcz =>
          have l0 : l = 0 := by simp at c2 c3; omega
          have h0 : hh.getD ((([] : List AV).length : Nat) : Int) = 0 := by simp at c2 c3 ⊢; omega
          subst l0
          split at he
          · cases he
            have := run_bounds (P := P) (w := w) hb true 0 0 (by omega) (by simpa using c2) (by simpa using c3) (by simp) hm
            simp only [Option.getD_none,Int.ofNat_eq_natCast,Int.natCast_zero] at this
            simp only [List.length_nil,Int.natCast_zero] at h0
            rw [show List.drop (Int.toNat 0) (List.take (hh.getD ((([] : List AV).length : Nat) : Int)).toNat ([] : List AV)) = [] by simp, if_pos (by simpa using h0)]
            refine ⟨_, ?_, .imz size za c hcz⟩
            simp [Instr.slice,run_underlying ht,hs.run,this,h0]
          · rename_i m
            split at he
            · rename_i hmh
              cases he
              subst hmh
              have := run_bounds (P := P) (w := w) hb true 0 0 (by omega) (by simpa using c2) (by simp) (by simpa using c3) hm
              simp only [Option.getD_some,Int.ofNat_eq_natCast,Int.natCast_zero] at this
              simp only [List.length_nil,Int.natCast_zero] at h0
              rw [show List.drop (Int.toNat 0) (List.take (hh.getD ((([] : List AV).length : Nat) : Int)).toNat ([] : List AV)) = [] by simp]
              refine ⟨_, ?_, .imz size za .full (.inr rfl)⟩
              simp [Instr.slice,run_underlying ht,hs.run,this,h0]
            · cases he
        | imm _ _ _ b off cap hcap hss h1 hs1 hvr hcp =>
        have hsub : ∀ (i : Nat) x, ((es.take (hh.getD es.length).toNat).drop l.toNat)[i]? = some x → es[l.toNat + i]? = some x := fun i x hi => by
          simp only [List.getElem?_drop,List.getElem?_take] at hi
          split at hi
          · exact hi
          · cases hi
        have hlen : ((es.take (hh.getD es.length).toNat).drop l.toNat).length = (hh.getD es.length).toNat - l.toNat := by
          rw [List.length_drop, List.length_take, Nat.min_eq_left (by omega)]
        have key : ∀ (m : Nat) (c' : Cap), (hh.getD es.length).toNat ≤ m → m ≤ cap → capOk E b (off + l.toNat * size) size ((hh.getD es.length).toNat - l.toNat) (m - l.toNat) c' → (m = l.toNat → capOk E b off size ((hh.getD es.length).toNat - l.toNat) (m - l.toNat) c') →
            VRel E (.imm size ((es.take (hh.getD es.length).toNat).drop l.toNat) c') (.slice (if m = l.toNat then some ⟨b, off, none⟩ else some ⟨b, off + l.toNat * size, none⟩) ((hh.getD es.length).toNat - l.toNat) (m - l.toNat)) := by
          intro m c' hm1 hm2 hc' hc''
          split
          · rename_i hml
            rw [← hlen]
            have hnil : (es.take (hh.getD es.length).toNat).drop l.toNat = [] := List.eq_nil_of_length_eq_zero (by omega)
            refine .imm _ _ _ _ _ _ (by omega) (by simp [hnil]) (by simp [hnil]) (by simp [hnil]) (by simp [hnil]) ?_
            rw [hlen]; exact hc'' hml
          · rw [← hlen]
            refine .imm _ _ _ _ _ _ (by omega) (fun x hx => hss x (List.mem_of_mem_take (List.mem_of_mem_drop hx))) (fun x hx => h1 x (List.mem_of_mem_take (List.mem_of_mem_drop hx))) (fun i k hi hk => ?_) (fun i x k y u hi hk hu => ?_) ?_
            · have := hs1 (l.toNat + i) k (by omega) hk
              rwa [Nat.add_mul, ← Nat.add_assoc] at this
            · refine hvr (l.toNat + i) x k y u (hsub i x hi) hk ?_
              rwa [Nat.add_mul, ← Nat.add_assoc]
            · rw [hlen]; exact hc'
        split at he
        · cases he
          have := run_bounds (P := P) (w := w) hb true es.length cap c1 c2 (by simp; omega) (by simp) hm
          simp only [Option.getD_none,Int.toNat_natCast] at this
          refine ⟨_, ?_, key cap _ (by omega) (Nat.le_refl _) ?_ ?_⟩
          · simp [Instr.slice,run_underlying ht,hs.run,this]
            split <;> simp [addr_add]
          · split
            · rename_i hfull
              cases c with
              | full => simp only [capOk] at *; omega
              | no => trivial
              | tok id e =>
                obtain ⟨q1, q2⟩ := hcp
                refine ⟨q1, ?_⟩
                rcases q2 with q2 | ⟨q2, q3, q4⟩
                · left; omega
                · right
                  refine ⟨q2, ?_, ?_⟩
                  · rw [← q3, hfull, Nat.add_assoc, ← Nat.add_mul]; congr 2; simp; omega
                  · refine Nat.le_trans (Nat.le_of_eq ?_) q4
                    rw [Nat.add_assoc, ← Nat.add_mul]; congr 2; omega
            · trivial
          · intro hcl
            split
            · rename_i hfull
              cases c with
              | full => simp only [capOk] at *; omega
              | no => trivial
              | tok id e => exact ⟨hcp.1, .inl (by omega)⟩
            · trivial
        · rename_i m
          split at he
          · rename_i hmh
            cases he
            subst hmh
            have := run_bounds (P := P) (w := w) hb true es.length cap c1 c2 (by simp) (by simp only [Option.getD_some]; omega) hm
            simp only [Option.getD_some] at this
            refine ⟨_, ?_, key _ .full (Nat.le_refl _) (by omega) rfl (fun _ => rfl)⟩
            simp [Instr.slice,run_underlying ht,hs.run,this]
            split <;> simp [addr_add]
          · cases he
      · cases he
  · rename_i id size off n clip
    rcases ht with ⟨_, h, _⟩ | ⟨_, e, sz, ht, hs, _, hsz⟩
    · cases h
    · obtain rfl := hsz _ _ _ _ _ rfl
      split at he
      · rename_i hc
        obtain ⟨c1, c2, c3⟩ := hc
        cases hv with
        | row _ _ _ _ _ b o' cap hr =>
        obtain ⟨r1, r2, r3, r4⟩ := hr
        have key : ∀ (m : Nat) (c' : Bool), (hh.getD n).toNat ≤ m → m ≤ cap → (c' = true → m = (hh.getD n).toNat) → (c' = false → clip = false ∧ m = cap) →
            VRel E (.row id size (off + l.toNat) ((hh.getD n).toNat - l.toNat) c') (.slice (if m = l.toNat then some ⟨b, o', none⟩ else some ⟨b, o' + l.toNat * size, none⟩) ((hh.getD n).toNat - l.toNat) (m - l.toNat)) := by
          intro m c' hm1 hm2 hc1 hc2
          split
          · rename_i hml
            refine .row _ _ _ _ _ _ _ _ ⟨r1, by omega, fun h => by omega, .inr ⟨by omega, by omega, fun h => ?_⟩⟩
            obtain ⟨h1, h2⟩ := hc2 h
            rcases r4 with ⟨_, _, r5⟩ | ⟨_, _, r7⟩
            · have := r5 h1; omega
            · have := r7 h1; omega
          · rename_i hml
            refine .row _ _ _ _ _ _ _ _ ⟨r1, by omega, fun h => by rw [hc1 h], ?_⟩
            rcases r4 with ⟨rfl, rfl, r5⟩ | ⟨r5, r6, r7⟩
            · left
              refine ⟨rfl, by rw [Nat.add_mul], fun h => ?_⟩
              obtain ⟨h1, h2⟩ := hc2 h
              have := r5 h1
              omega
            · omega
        split at he
        · split at he
          · cases he
          · rename_i hcl
            cases he
            have := run_bounds (P := P) (w := w) hb true n cap c1 c2 (by simp; omega) (by simp) hm
            simp only [Option.getD_none,Int.toNat_natCast] at this
            refine ⟨_, ?_, key cap clip (by omega) (Nat.le_refl _) (fun h => ?_) (fun h => ⟨h, rfl⟩)⟩
            · simp [Instr.slice,run_underlying ht,hs.run,this]
              split <;> simp [addr_add]
            · have := r3 h
              simp [h] at hcl
              omega
        · rename_i m
          split at he
          · rename_i hmh
            cases he
            subst hmh
            have := run_bounds (P := P) (w := w) hb true n cap c1 c2 (by simp) (by simp only [Option.getD_some]; omega) hm
            simp only [Option.getD_some] at this
            refine ⟨_, ?_, key _ true (Nat.le_refl _) (by omega) (fun _ => rfl) (fun h => by cases h)⟩
            simp [Instr.slice,run_underlying ht,hs.run,this]
            split <;> simp [addr_add]
          · cases he
      · cases he
  · cases he

end
end Go.Im

/- ImGrow: new blocks: variables, what stays, heap entries. -/
set_option linter.unusedVariables false
set_option linter.unusedSimpArgs false
namespace Go.Im

structure Grow (w w' : World) : Prop where
  size : w.heap.size ≤ w'.heap.size
  heap : ∀ b, b < w.heap.size → w'.heap[b]? = w.heap[b]?
  os : w'.os = w.os
  out : w'.output = w.output

theorem Grow.refl (w : World) : Grow w w := ⟨Nat.le_refl _, fun _ _ => rfl, rfl, rfl⟩
theorem Grow.trans {a b c : World} (h : Grow a b) (g : Grow b c) : Grow a c :=
  ⟨Nat.le_trans h.size g.size, fun i hi => (g.heap i (Nat.lt_of_lt_of_le hi h.size)).trans (h.heap i hi), g.os.trans h.os, g.out.trans h.out⟩
theorem Grow.alloc (w : World) (o : Obj) : Grow w (w.alloc o) :=
  ⟨by simp, fun b hb => by simp only [World.alloc,Array.getElem?_push]; rw [if_neg (by omega)], rfl, rfl⟩
theorem Grow.drew (w : World) : Grow w w.drew := ⟨Nat.le_refl _, fun _ _ => rfl, rfl, rfl⟩
theorem alloc_at (w : World) (o : Obj) : (w.alloc o).heap[w.heap.size]? = some o := by show (w.heap.push o)[w.heap.size]? = some o; simp

theorem Grow.cell {w w' : World} (g : Grow w w') {b o : Nat} {v : Value} (h : w.cell? ⟨b, o, none⟩ = some v) : w'.cell? ⟨b, o, none⟩ = some v := by
  have hb := World.block_lt_of_cell? w _ h
  simp only [World.cell?] at h ⊢
  rw [g.heap b hb]; exact h

section
variable {P : Program} {E : Env} {h : Hp} {w w' : World} {r : Regs} {tm : Array Value}

theorem HRel.sg_lt (hh : HRel E h w) {b o : Nat} {v : Value} (hs : E.sg b o = some v) : b < w.heap.size := World.block_lt_of_cell? w _ (hh.sg b o v hs)

theorem alive_lt {id : Nat} (ha : alive h id) : id < h.length := let ⟨o, ho, _⟩ := ha; (List.getElem?_eq_some_iff.1 ho).1

theorem HRel.grow (hh : HRel E h w) (g : Grow w w') : HRel E h w' := by
  refine ⟨hh.n, fun b o v hs => g.cell (hh.sg b o v hs), fun id ha => Nat.lt_of_lt_of_le (hh.lt id ha) g.size, fun id o ho => ?_, hh.inj⟩
  by_cases hd : o = .dead
  · subst hd; trivial
  · exact ORel.congr (g.heap _ (hh.lt id ⟨o, ho, hd⟩)) (hh.obj id o ho)

theorem FRel.grow (hf : FRel E h w r tm) (g : Grow w w') : FRel E h w' r tm :=
  hf.mono (.refl E) fun t ht => ⟨g.heap _ (var_lt hf ht), fun _ => rfl, hf.own t ht⟩

theorem Keep.grow (E : Env) (h : Hp) (X : Nat → Prop) (g : Grow w w') : Keep E h X w E h X w' :=
  ⟨.refl E, g.size, g.os, g.out, fun b hb _ _ => g.heap b hb, fun _ h => .inl h, fun _ h => .inl h, fun _ _ h => .inl h⟩

theorem FRel.lt_vars (hf : FRel E h w r tm) {b : Nat} (hb : Vars r tm b) : b < w.heap.size := by
  obtain ⟨t, ht, rfl⟩ := hb
  exact var_lt hf ht

theorem Owned.lt (hh : HRel E h w) {b : Nat} (ho : Owned E h b) : b < w.heap.size := by
  obtain ⟨id, ha, rfl⟩ := ho
  exact hh.lt id ha

/-! ### a new variable -/

theorem cells_rel {v : AV} {u : Value} (hv : VRel E v u) (ht : v.notTup = true) : v.cells.length = u.cells.size ∧ CellsAt E (fun o => u.cells[o]?) 0 v := by
  cases hv with
  | agg cs vs hl h1 hh =>
    refine ⟨by simpa [AV.cells, Value.cells] using hl, fun k x hk => ?_⟩
    simp only [AV.cells] at hk
    obtain ⟨u, hu⟩ := get_agg hl k (List.getElem?_eq_some_iff.1 hk).1
    exact ⟨h1 x (List.mem_of_getElem? hk), u, by simpa [Value.cells] using hu, hh k x u hk hu⟩
  | tup => simp [AV.notTup] at ht
  | _ =>
    refine ⟨rfl, fun k x hk => ?_⟩
    cases k with
    | zero =>
      simp [AV.cells] at hk
      subst hk
      refine ⟨rfl, _, rfl, ?_⟩
      constructor <;> assumption
    | succ k => simp [AV.cells] at hk

theorem new_var (hf : FRel E h w r tm) (hh : HRel E h w) {v : AV} {u : Value} (hv : VRel E v u) (ht : v.notTup = true) (T : TypeId) :
    Yields E h (w.alloc (.cells u.cells T)) r tm (.pointer (some ⟨w.heap.size, 0, none⟩)) (.var v) := by
  obtain ⟨h1, h2⟩ := cells_rel hv ht
  refine ⟨w.heap.size, u.cells, T, (0, 0), rfl, alloc_at _ _, fun o _ => by simp, h1.symm, h2, fun o => ?_, fun ho => ?_, fun hx => ?_⟩
  · cases hs : E.sg w.heap.size o with
    | none => rfl
    | some v => exact absurd (hh.sg_lt hs) (Nat.lt_irrefl _)
  · exact absurd (Owned.lt hh ho) (Nat.lt_irrefl _)
  · exact absurd (hf.lt_vars hx) (Nat.lt_irrefl _)

/-! ### what stays -/

def Env.stay (E : Env) (b : Nat) (s : Nat → Option Value) : Env := { E with sg := fun b' o => if b' = b then s o else E.sg b' o }

def Env.add (E : Env) (b cp : Nat) : Env := { E with n := E.n + 1, ob := fun id => if id = E.n then b else E.ob id, cp := fun id => if id = E.n then cp else E.cp id }

theorem Env.stay_le (E : Env) {b : Nat} {s : Nat → Option Value} (hb : ∀ o, E.sg b o = none) : E.le (E.stay b s) :=
  ⟨Nat.le_refl _, fun _ _ => rfl, fun _ _ => rfl, fun b' o v h => by
    simp only [Env.stay]
    split
    · rename_i e; subst e; rw [hb] at h; cases h
    · exact h, rfl⟩

theorem Env.add_le (E : Env) (b cp : Nat) : E.le (E.add b cp) :=
  ⟨Nat.le_succ _, fun id hi => by simp only [Env.add]; rw [if_neg (by omega)], fun id hi => by simp only [Env.add]; rw [if_neg (by omega)], fun _ _ _ h => h, rfl⟩

theorem HRel.sg_new (hh : HRel E h w) {b : Nat} (hb : w.heap.size ≤ b) (o : Nat) : E.sg b o = none := by
  cases hs : E.sg b o with
  | none => rfl
  | some v => exact absurd (hh.sg_lt hs) (by omega)

theorem HRel.stay (hh : HRel E h w) (g : Grow w w') {b : Nat} (hb : w.heap.size ≤ b) {s : Nat → Option Value} (hs : ∀ o v, s o = some v → w'.cell? ⟨b, o, none⟩ = some v) : HRel (E.stay b s) h w' := by
  have hh' := hh.grow g
  have hle := E.stay_le (b := b) (s := s) (hh.sg_new hb)
  refine ⟨hh'.n, fun b' o v hv => ?_, hh'.lt, fun id o ho => ?_, hh'.inj⟩
  · simp only [Env.stay] at hv
    split at hv
    · rename_i e; subst e; exact hs o v hv
    · exact hh'.sg b' o v hv
  · by_cases hd : o = .dead
    · subst hd; trivial
    · have hlt := hh.lt id ⟨o, ho, hd⟩
      exact ORel.mono hle (fun o' => by simp only [Env.stay]; rw [if_neg (by omega)]) (hh'.obj id o ho)

theorem FRel.stay (hf : FRel E h w r tm) (hh : HRel E h w) (g : Grow w w') {b : Nat} (hb : w.heap.size ≤ b) (s : Nat → Option Value) : FRel (E.stay b s) h w' r tm :=
  (hf.grow g).mono (E.stay_le (hh.sg_new hb)) fun t ht => ⟨rfl, fun o => by simp only [Env.stay]; rw [if_neg]; have := var_lt hf ht; omega, hf.own t ht⟩

theorem Keep.stay (hh : HRel E h w) (X : Nat → Prop) (g : Grow w w') {b : Nat} (hb : w.heap.size ≤ b) (s : Nat → Option Value) : Keep E h X w (E.stay b s) h X w' :=
  ⟨E.stay_le (hh.sg_new hb), g.size, g.os, g.out, fun b hb _ _ => g.heap b hb, fun _ h => .inl h, fun _ h => .inl h, fun b' o h => by
    simp only [Env.stay] at h
    split at h
    · rename_i e; subst e; exact .inr (.inr hb)
    · exact .inl h⟩

/-! ### a new heap entry -/

theorem alive_push {o : AO} {id : Nat} (ha : alive (h ++ [o]) id) : alive h id ∨ (id = h.length ∧ o ≠ .dead) := by
  obtain ⟨x, hx, hd⟩ := ha
  by_cases hlt : id < h.length
  · exact .inl ⟨x, by rwa [List.getElem?_append_left hlt] at hx, hd⟩
  · rw [List.getElem?_append_right (by omega)] at hx
    have : id = h.length := by
      have := (List.getElem?_eq_some_iff.1 hx).1
      simp at this; omega
    subst this
    simp at hx
    subst hx
    exact .inr ⟨rfl, hd⟩

theorem HRel.add (hh : HRel E h w) {b cp : Nat} (hb : ¬ Owned E h b) (hlt : b < w.heap.size) {o : AO} (ho : ORel (E.add b cp) w b cp o) : HRel (E.add b cp) (h ++ [o]) w := by
  have hob : ∀ id, id < h.length → (E.add b cp).ob id = E.ob id := fun id hi => by simp only [Env.add]; rw [if_neg (by rw [hh.n]; omega)]
  have hcp : ∀ id, id < h.length → (E.add b cp).cp id = E.cp id := fun id hi => by simp only [Env.add]; rw [if_neg (by rw [hh.n]; omega)]
  have hobn : (E.add b cp).ob h.length = b := by simp only [Env.add]; rw [if_pos hh.n.symm]
  have hcpn : (E.add b cp).cp h.length = cp := by simp only [Env.add]; rw [if_pos hh.n.symm]
  refine ⟨by simp [Env.add,hh.n], hh.sg, fun id ha => ?_, fun id x hx => ?_, fun i j hi hj he => ?_⟩
  · rcases alive_push ha with ha | ⟨rfl, _⟩
    · rw [hob id (alive_lt ha)]; exact hh.lt id ha
    · rw [hobn]; exact hlt
  · by_cases hi : id < h.length
    · rw [List.getElem?_append_left hi] at hx
      rw [hob id hi, hcp id hi]
      exact ORel.mono (E.add_le b cp) (fun _ => rfl) (hh.obj id x hx)
    · rw [List.getElem?_append_right (by omega)] at hx
      have : id = h.length := by
        have := (List.getElem?_eq_some_iff.1 hx).1
        simp at this; omega
      subst this
      simp at hx
      subst hx
      rw [hobn, hcpn]; exact ho
  · rcases alive_push hi with hi | ⟨rfl, _⟩ <;> rcases alive_push hj with hj | ⟨rfl, _⟩
    · rw [hob i (alive_lt hi), hob j (alive_lt hj)] at he; exact hh.inj i j hi hj he
    · rw [hob i (alive_lt hi), hobn] at he; exact absurd ⟨i, hi, he⟩ hb
    · rw [hob j (alive_lt hj), hobn] at he; exact absurd ⟨j, hj, he.symm⟩ hb
    · rfl

theorem Owned.add (hh : HRel E h w) {b cp : Nat} {o : AO} {b' : Nat} (ho : Owned (E.add b cp) (h ++ [o]) b') : Owned E h b' ∨ b' = b := by
  obtain ⟨id, ha, rfl⟩ := ho
  rcases alive_push ha with ha | ⟨rfl, _⟩
  · refine .inl ⟨id, ha, ?_⟩
    simp only [Env.add]; rw [if_neg]; have := alive_lt ha; rw [hh.n]; omega
  · right; simp only [Env.add]; rw [if_pos hh.n.symm]

theorem FRel.add (hf : FRel E h w r tm) (hh : HRel E h w) {b cp : Nat} {o : AO} (hb : ¬ Vars r tm b) : FRel (E.add b cp) (h ++ [o]) w r tm :=
  hf.mono (E.add_le b cp) fun t ht => ⟨rfl, fun _ => rfl, fun ho => (Owned.add hh ho).elim (hf.own t ht) fun e => hb ⟨t, ht, e⟩⟩

theorem Keep.add (hh : HRel E h w) (X : Nat → Prop) {b cp : Nat} {o : AO} (hb : Owned E h b ∨ w.heap.size ≤ b) : Keep E h X w (E.add b cp) (h ++ [o]) X w :=
  ⟨E.add_le b cp, Nat.le_refl _, rfl, rfl, fun _ _ _ _ => rfl, fun b' ho => (Owned.add hh ho).elim .inl fun e => e ▸ hb, fun _ h => .inl h, fun _ _ h => .inl h⟩

theorem new_entry (hf : FRel E h w r tm) (hh : HRel E h w) (g : Grow w w') {b cp : Nat} (hb : w.heap.size ≤ b) (hlt : b < w'.heap.size) {o : AO} (ho : ORel (E.add b cp) w' b cp o) :
    Keep E h (Vars r tm) w (E.add b cp) (h ++ [o]) (Vars r tm) w' ∧ FRel (E.add b cp) (h ++ [o]) w' r tm ∧ HRel (E.add b cp) (h ++ [o]) w' := by
  have hno : ¬ Owned E h b := fun ho => by have := Owned.lt hh ho; omega
  have hh' := hh.grow g
  refine ⟨?_, (hf.grow g).add hh' (fun hx => by have := hf.lt_vars hx; omega), hh'.add hno hlt ho⟩
  refine ⟨E.add_le b cp, g.size, g.os, g.out, fun b hb _ _ => g.heap b hb, fun b' ho => (Owned.add hh' ho).elim .inl fun e => .inr (e ▸ hb), fun _ h => .inl h, fun _ _ h => .inl h⟩

end
end Go.Im

/- ImOps3: operations that make variables and literals. -/
set_option linter.unusedVariables false
set_option linter.unusedSimpArgs false
namespace Go.Im
section
variable {P : Program} {E : Env} {h : Hp} {w : World} {r : Regs} {a : Act} {o : Oper} {reg : Reg}

def Res (P : Program) (E : Env) (h : Hp) (w : World) (r : Regs) (a : Act) (o : Oper) (reg : Reg) (r' : Regs) (h' : Hp) : Prop :=
  ∃ u w' E', Runs P a w o u w' ∧ Keep E h (Vars r a.tmps) w E' h' (Vars r' a.tmps) w' ∧ FRel E' h' w' r' a.tmps ∧ HRel E' h' w' ∧ Yields E' h' w' r' a.tmps u reg ∧
    ∀ v, reg = .var v → ∃ b, u = .pointer (some ⟨b, 0, none⟩) ∧ w.heap.size ≤ b

theorem Pure.not_var (hp : Pure P E h w r a o reg) (hv : ∀ v, reg ≠ .var v) (hf : FRel E h w r a.tmps) (hh : HRel E h w) : Res P E h w r a o reg r h :=
  let ⟨u, h1, h2⟩ := hp; ⟨u, w, E, h1, Keep.refl _ _ _ _, hf, hh, h2, fun v e => absurd e (hv v)⟩

theorem ev_allocL (hf : FRel E h w r a.tmps) (hh : HRel E h w) {t : TypeId} {i : TypeInfo} {u : Value} {z : AV} (ho : o.op = .alloc t) (hi : P.info? t = some i) (hz : i.zero = some u) (hv : VRel E z u) (hn : z.notTup = true)
    (he : evalV r h (.allocL z) = some reg) : Res P E h w r a o reg r h := by
  cases he
  have g := Grow.alloc w (.cells u.cells t)
  refine ⟨.pointer (some ⟨w.heap.size, 0, none⟩), _, E, .inl ?_, Keep.grow E h _ g, hf.grow g, hh.grow g, new_var hf hh hv hn t, fun v _ => ⟨_, rfl, Nat.le_refl _⟩⟩
  simp [execOp,ho,Instr.alloc,zeroValue,typeInfo,hi,hz,newVar,Go.newRow]

theorem ev_boxL (hf : FRel E h w r a.tmps) (hh : HRel E h w) {t : TypeId} {y : Operand} {x : AX} {s : Nat} (ho : o.op = .box t y) (hx : XRel E a x y)
    (he : evalV r h (.boxL s x) = some reg) : Res P E h w r a o reg r h := by
  simp only [evalV] at he
  split at he
  · rename_i v hv
    split at he
    · rename_i hn
      cases he
      have g := Grow.alloc w (.cells (a.eval y).cells t)
      refine ⟨.pointer (some ⟨w.heap.size, 0, none⟩), _, E, .inl ?_, Keep.grow E h _ g, hf.grow g, hh.grow g, new_var hf hh (vl_spec hf hx hv) hn.1 t, fun v _ => ⟨_, rfl, Nat.le_refl _⟩⟩
      simp [execOp,ho,Instr.box,newVar,Go.newRow]
    · cases he
  · cases he

/-! ### aggregates -/

theorem foldl_set (off : Nat) : ∀ (l : List Value) (s : Nat) (cells : Array Value), off + s + l.length ≤ cells.size →
    ((l.zipIdx s).foldl (fun cs (x : Value × Nat) => cs.setIfInBounds (off + x.2) x.1) cells).size = cells.size ∧
    (∀ k, k < l.length → ((l.zipIdx s).foldl (fun cs (x : Value × Nat) => cs.setIfInBounds (off + x.2) x.1) cells)[off + s + k]? = l[k]?) ∧
    (∀ k, k < off + s ∨ off + s + l.length ≤ k → ((l.zipIdx s).foldl (fun cs (x : Value × Nat) => cs.setIfInBounds (off + x.2) x.1) cells)[k]? = cells[k]?) := by
  intro l
  induction l with
  | nil => intro s cells _; exact ⟨rfl, fun k hk => absurd hk (Nat.not_lt_zero _), fun _ _ => rfl⟩
  | cons c l ih =>
    intro s cells hl
    simp only [List.length_cons] at hl
    simp only [List.zipIdx_cons,List.foldl_cons]
    obtain ⟨i1, i2, i3⟩ := ih (s + 1) (cells.setIfInBounds (off + s) c) (by simp; omega)
    refine ⟨by rw [i1]; simp, fun k hk => ?_, fun k hk => ?_⟩
    · cases k with
      | zero =>
        rw [i3 _ (Or.inl (by omega))]
        simp only [Nat.add_zero,List.getElem?_cons_zero,Array.getElem?_setIfInBounds_self]
        rw [if_pos (by omega)]
      | succ k =>
        have := i2 k (by simpa using hk)
        rw [show off + s + (k + 1) = off + (s + 1) + k by omega]
        simpa using this
    · simp only [List.length_cons] at hk
      rw [i3 k (by omega), Array.getElem?_setIfInBounds_ne (by omega)]

theorem fill_one (cells : Array Value) (v : Value) (off : Nat) (hle : off + v.cells.size ≤ cells.size) :
    ∃ cs : Array Value, (v.cells.zipIdx.foldl (fun cs (c, j) => cs.setIfInBounds (off + j) c) cells) = cs ∧ cs.size = cells.size ∧ (∀ k, k < v.cells.size → cs[off + k]? = v.cells[k]?) ∧ (∀ k, k < off ∨ off + v.cells.size ≤ k → cs[k]? = cells[k]?) := by
  obtain ⟨h1, h2, h3⟩ := foldl_set off v.cells.toList 0 cells (by simpa using hle)
  have e : (v.cells.zipIdx.foldl (fun cs (c, j) => cs.setIfInBounds (off + j) c) cells) = ((v.cells.toList.zipIdx 0).foldl (fun cs (x : Value × Nat) => cs.setIfInBounds (off + x.2) x.1) cells) := by
    rw [← Array.foldl_toList, Array.toList_zipIdx]
  rw [e]
  exact ⟨_, rfl, h1, fun k hk => by have := h2 k (by simpa using hk); simpa using this, fun k hk => by have := h3 k (by simpa using hk); simpa using this⟩

theorem fill_spec (pl : Nat → Option (Nat × Nat)) : ∀ (ps : List (Nat × Nat × AV)) (qs : List (Nat × Value)) (zs : List AV) (cells : Array Value) (out : List AV),
    ps.length = qs.length → (∀ (i : Nat) p q, ps[i]? = some p → qs[i]? = some q → pl q.1 = some (p.1, p.2.1) ∧ VRel E p.2.2 q.2) →
    zs.length = cells.size → (∀ z ∈ zs, z.one = true) → (∀ (i : Nat) z u, zs[i]? = some z → cells[i]? = some u → VRel E z u) → place zs ps = some out →
    ∃ cs, Instr.fill pl cells qs = some cs ∧ out.length = cs.size ∧ (∀ z ∈ out, z.one = true) ∧ ∀ (i : Nat) z u, out[i]? = some z → cs[i]? = some u → VRel E z u
  | [], [], zs, cells, out, _, _, h1, h2, h3, he => by simp [place] at he; subst he; exact ⟨cells, rfl, h1, h2, h3⟩
  | [], q :: qs, _, _, _, hl, _, _, _, _, _ => by simp at hl
  | p :: ps, [], _, _, _, hl, _, _, _, _, _ => by simp at hl
  | (off, size, v) :: ps, (i, q) :: qs, zs, cells, out, hl, hp, h1, h2, h3, he => by
    simp only [place] at he
    split at he
    · rename_i hc
      obtain ⟨c1, c2, c3⟩ := hc
      obtain ⟨p1, p2⟩ := hp 0 _ _ rfl rfl
      simp only at p1 p2
      obtain ⟨q1, q2⟩ := cells_rel p2 c1
      obtain ⟨cs, e1, e2, e3, e4⟩ := fill_one cells q off (by omega)
      have hlen : (zs.take off ++ (v.cells ++ zs.drop (off + size))).length = cs.size := by simp; omega
      have hget : ∀ k, (zs.take off ++ (v.cells ++ zs.drop (off + size)))[k]? = if k < off then zs[k]? else if k < off + size then v.cells[k - off]? else zs[k]? := fun k => by
        by_cases hk : k < off
        · rw [List.getElem?_append_left (by simp; omega), if_pos hk, List.getElem?_take, if_pos hk]
        · rw [List.getElem?_append_right (by simp; omega), if_neg hk]
          have hto : (zs.take off).length = off := by simp; omega
          rw [hto]
          by_cases hk2 : k < off + size
          · rw [if_pos hk2, List.getElem?_append_left (by omega)]
          · rw [if_neg hk2, List.getElem?_append_right (by omega), List.getElem?_drop]
            congr 1; omega
      obtain ⟨cs', f1, f2, f3, f4⟩ := fill_spec pl ps qs _ cs out (by simpa using hl) (fun j p q hp' hq' => hp (j + 1) p q hp' hq') hlen
        (fun z hz => by
          rcases List.mem_append.1 hz with hz | hz
          · exact h2 z (List.mem_of_mem_take hz)
          · rcases List.mem_append.1 hz with hz | hz
            · obtain ⟨k, hk, rfl⟩ := List.getElem_of_mem hz
              exact (q2 k _ (List.getElem?_eq_getElem hk)).1
            · exact h2 z (List.mem_of_mem_drop hz))
        (fun k z u hz hu => by
          rw [hget] at hz
          split at hz
          · rw [e4 k (Or.inl (by omega))] at hu; exact h3 k z u hz hu
          · split at hz
            · obtain ⟨_, u', hu', hv'⟩ := q2 (k - off) z hz
              simp only [Nat.zero_add] at hu'
              rw [show k = off + (k - off) by omega, e3 (k - off) (by omega), hu'] at hu
              cases hu; exact hv'
            · rw [e4 k (Or.inr (by omega))] at hu; exact h3 k z u hz hu) he
      refine ⟨cs', ?_, f2, f3, f4⟩
      simp only [Instr.fill,p1]
      rw [if_neg (by simp; omega), e1]
      exact f1
    · cases he
end
end Go.Im

/- ImNew: slices in new blocks: immutable ones, rows, tails. -/
set_option linter.unusedVariables false
set_option linter.unusedSimpArgs false
namespace Go.Im
section
variable {P : Program} {E : Env} {h : Hp} {w w' : World} {r : Regs} {tm : Array Value}

def EC (E : Env) (c : Array Value) (size : Nat) (es : List AV) : Prop :=
  (∀ e ∈ es, e.cells.length = size) ∧ ∀ (i : Nat) e, es[i]? = some e → CellsAt E (fun o => c[o]?) (i * size) e

theorem EC.mono {E E' : Env} (hE : E.le E') {c : Array Value} {size : Nat} {es : List AV} (hc : EC E c size es) : EC E' c size es := ⟨hc.1, fun i e hi => (hc.2 i e hi).mono hE⟩

theorem mul_lt {i n size k : Nat} (hi : i < n) (hk : k < size) : i * size + k < n * size := by
  have : (i + 1) * size ≤ n * size := Nat.mul_le_mul_right _ hi
  rw [Nat.succ_mul] at this
  omega

def stayOf (c : Array Value) (n : Nat) : Nat → Option Value := fun o => if o < n then c[o]? else none

theorem imm_of {b : Nat} {c : Array Value} {T : TypeId} {fr : Nat × Nat} {size : Nat} {es : List AV} (hle : E.le (E.stay b (stayOf c (es.length * size)))) (hc : EC E c size es) {cap : Nat} (hcap : es.length ≤ cap) {cc : Cap}
    (hcc : capOk (E.stay b (stayOf c (es.length * size))) b 0 size es.length cap cc) : VRel (E.stay b (stayOf c (es.length * size))) (.imm size es cc) (.slice (some ⟨b, 0, none⟩) es.length cap) := by
  have hs : ∀ o, (E.stay b (stayOf c (es.length * size))).sg b o = stayOf c (es.length * size) o := fun o => by simp [Env.stay]
  have hsz : ∀ (i : Nat) e k, es[i]? = some e → k < size → i * size + k < es.length * size := fun i e k hi hk => mul_lt (List.getElem?_eq_some_iff.1 hi).1 hk
  refine .imm size es cc b 0 cap hcap hc.1 (fun e he a ha => ?_) (fun i k hi hk => ?_) (fun i e k x u hi hk hu => ?_) hcc
  · obtain ⟨i, hi, rfl⟩ := List.getElem_of_mem he
    obtain ⟨k, hk, rfl⟩ := List.getElem_of_mem ha
    exact (hc.2 i _ (List.getElem?_eq_getElem hi) k _ (List.getElem?_eq_getElem hk)).1
  · have hi' := List.getElem?_eq_getElem hi
    have hk' : k < (es[i]).cells.length := by rw [hc.1 _ (List.getElem_mem hi)]; exact hk
    obtain ⟨_, u, hu, _⟩ := hc.2 i _ hi' k _ (List.getElem?_eq_getElem hk')
    have hu : c[i * size + k]? = some u := hu
    rw [hs, Nat.zero_add, stayOf, if_pos (hsz i _ k hi' hk), hu]; rfl
  · have hk' := (List.getElem?_eq_some_iff.1 hk).1
    rw [hc.1 e (List.mem_of_getElem? hi)] at hk'
    rw [hs, Nat.zero_add, stayOf, if_pos (hsz i e k hi hk')] at hu
    obtain ⟨_, u', hu', hv⟩ := hc.2 i e hi k x hk
    have hu' : c[i * size + k]? = some u' := hu'
    rw [hu] at hu'
    cases hu'
    exact hv.mono hle

theorem stay_ok (g : Grow w w') {b : Nat} {c : Array Value} {T : TypeId} {fr : Nat × Nat} (hb : w'.heap[b]? = some (.cells c T fr)) (n : Nat) : ∀ o v, stayOf c n o = some v → w'.cell? ⟨b, o, none⟩ = some v := by
  intro o v hv
  unfold stayOf at hv
  split at hv
  · rw [cell_of hb]; exact hv
  · cases hv

theorem new_imm (hf : FRel E h w r tm) (hh : HRel E h w) (g : Grow w w') {b : Nat} (hb : w.heap.size ≤ b) {c : Array Value} {T : TypeId} {fr : Nat × Nat} (hbl : w'.heap[b]? = some (.cells c T fr)) {size : Nat} {es : List AV} (hc : EC E c size es) {cap : Nat} (hcap : es.length ≤ cap) {cc : Cap}
    (hcc : cc = .no ∨ (cc = .full ∧ cap = es.length)) :
    ∃ E', Keep E h (Vars r tm) w E' h (Vars r tm) w' ∧ FRel E' h w' r tm ∧ HRel E' h w' ∧ VRel E' (.imm size es cc) (.slice (some ⟨b, 0, none⟩) es.length cap) :=
  ⟨E.stay b (stayOf c (es.length * size)), Keep.stay hh _ g hb _, hf.stay hh g hb _, hh.stay g hb (stay_ok g hbl _), imm_of (T := T) (fr := fr) (E.stay_le (hh.sg_new hb)) hc hcap (by rcases hcc with rfl | ⟨rfl, h⟩ <;> first | trivial | exact h)⟩

theorem new_row (hf : FRel E h w r tm) (hh : HRel E h w) (g : Grow w w') {b : Nat} (hb : w.heap.size ≤ b) {c : Array Value} {T : TypeId} {fr : Nat × Nat} (hbl : w'.heap[b]? = some (.cells c T fr)) (hfr : ∀ o, o < c.size → (fr.1 ≤ o && o < fr.2) = false)
    {size : Nat} {es : List AV} (hc : EC E c size es) {cp : Nat} (hcs : c.size = cp * size) (hcap : es.length ≤ cp) :
    ∃ E', Keep E h (Vars r tm) w E' (h ++ [.row size es]) (Vars r tm) w' ∧ FRel E' (h ++ [.row size es]) w' r tm ∧ HRel E' (h ++ [.row size es]) w' ∧ h.length < E'.n ∧ E'.ob h.length = b ∧ E'.cp h.length = cp := by
  have hlt : b < w'.heap.size := (Array.getElem?_eq_some_iff.1 hbl).1
  have ho : ORel (E.add b cp) w' b cp (.row size es) := ⟨c, T, fr, hbl, hfr, hcs, hcap, hc.1, fun i e hi => (hc.2 i e hi).mono (E.add_le b cp), fun o => hh.sg_new hb o⟩
  obtain ⟨h1, h2, h3⟩ := new_entry hf hh g hb hlt ho
  exact ⟨_, h1, h2, h3, by simp [Env.add,hh.n], by simp [Env.add,hh.n], by simp [Env.add,hh.n]⟩

theorem row_val {id size n cp : Nat} {b : Nat} (h1 : id < E.n) (h2 : E.ob id = b) (h3 : E.cp id = cp) (hn : n ≤ cp) : VRel E (.row id size 0 n false) (.slice (some ⟨b, 0, none⟩) n cp) :=
  .row _ _ _ _ _ _ _ _ ⟨h1, hn, (fun h => by cases h), .inl ⟨h2.symm, by simp, fun _ => by rw [h3, Nat.zero_add]⟩⟩

theorem new_tail (hf : FRel E h w r tm) (hh : HRel E h w) (g : Grow w w') {b : Nat} (hb : w.heap.size ≤ b) {c : Array Value} {T : TypeId} {fr : Nat × Nat} (hbl : w'.heap[b]? = some (.cells c T fr)) (hfr : ∀ o, o < c.size → (fr.1 ≤ o && o < fr.2) = false)
    {size : Nat} {es : List AV} (hc : EC E c size es) {cap : Nat} (hcs : cap * size ≤ c.size) (hcap : es.length ≤ cap) :
    ∃ E', Keep E h (Vars r tm) w E' (h ++ [.tail size es.length]) (Vars r tm) w' ∧ FRel E' (h ++ [.tail size es.length]) w' r tm ∧ HRel E' (h ++ [.tail size es.length]) w' ∧
      VRel E' (.imm size es (.tok h.length es.length)) (.slice (some ⟨b, 0, none⟩) es.length cap) := by
  have hlt : b < w'.heap.size := (Array.getElem?_eq_some_iff.1 hbl).1
  have s1 := hh.stay g hb (stay_ok (fr := fr) g hbl (es.length * size))
  have s2 := hf.stay hh g hb (stayOf c (es.length * size))
  have s3 := Keep.stay hh (Vars r tm) g hb (stayOf c (es.length * size))
  have hle := E.stay_le (b := b) (s := stayOf c (es.length * size)) (hh.sg_new hb)
  generalize hE1 : E.stay b (stayOf c (es.length * size)) = E1 at *
  have hno : ¬ Owned E1 h b := fun ho => by
    subst hE1
    have : Owned E h b := ho
    have := Owned.lt hh this; omega
  have ho : ORel (E1.add b c.size) w' b c.size (.tail size es.length) := ⟨c, T, fr, hbl, hfr, rfl, fun o ho => by
    subst hE1
    simp only [Env.add,Env.stay,if_true,stayOf]
    rw [if_neg (by omega)]⟩
  have hvars : ¬ Vars r tm b := fun hx => by have := hf.lt_vars hx; omega
  have hnl : h.length = E1.n := s1.n.symm
  refine ⟨E1.add b c.size, ?_, s2.add s1 hvars, s1.add hno hlt ho, ?_⟩
  · exact ⟨s3.le.trans (E1.add_le b c.size), g.size, g.os, g.out, s3.heap, fun b' ho => (Owned.add s1 ho).elim (s3.owned b') fun e => .inr (e ▸ hb), fun _ h => .inl h, fun b' o hs => s3.sg b' o hs⟩
  · subst hE1
    have hle2 := (E.stay b (stayOf c (es.length * size))).add_le b c.size
    have := imm_of (T := T) (fr := fr) (cc := .no) hle hc hcap trivial
    have := this.mono hle2
    cases this with
    | imz _ _ _ _ =>
      refine .imm _ _ _ _ _ _ hcap (by simp) (by simp) (by simp) (by simp) ⟨?_, .inl rfl⟩
      exact Nat.lt_of_le_of_lt (Nat.le_of_eq hnl) (Nat.lt_succ_self _)
    | imm _ _ _ _ _ _ q1 q2 q3 q4 q5 q6 =>
      refine .imm _ _ _ _ _ _ q1 q2 q3 q4 q5 ⟨?_, .inr ⟨?_, by simp, ?_⟩⟩
      · simp [Env.add]; omega
      · simp only [Env.add]; rw [if_pos hnl]
      · simp only [Env.add]; rw [if_pos hnl]; simpa using hcs
end
end Go.Im

/- ImOps4: literals, byte slices, parts of arrays, heap variables. -/
set_option linter.unusedVariables false
set_option linter.unusedSimpArgs false
namespace Go.Im
section
variable {P : Program} {E : Env} {h : Hp} {w : World} {r : Regs} {a : Act} {o : Oper} {reg : Reg}

def PartsOk (E : Env) (a : Act) (pl : Nat → Option (Nat × Nat)) (xs : List (Nat × Nat × AX)) (ys : List (Nat × Operand)) : Prop :=
  xs.length = ys.length ∧ ∀ (i : Nat) x y, xs[i]? = some x → ys[i]? = some y → pl y.1 = some (x.1, x.2.1) ∧ XRel E a x.2.2 y.2

theorem partVals_spec (hf : FRel E h w r a.tmps) {pl : Nat → Option (Nat × Nat)} : ∀ {xs : List (Nat × Nat × AX)} {ys : List (Nat × Operand)}, PartsOk E a pl xs ys → ∀ {ps : List (Nat × Nat × AV)}, partVals r xs = some ps →
    ps.length = (ys.map fun y => (y.1, a.eval y.2)).length ∧ ∀ (i : Nat) p q, ps[i]? = some p → (ys.map fun y => (y.1, a.eval y.2))[i]? = some q → pl q.1 = some (p.1, p.2.1) ∧ VRel E p.2.2 q.2
  | [], [], _, ps, hv => by simp [partVals] at hv; subst hv; simp
  | [], y :: ys, hx, _, _ => by simp [PartsOk] at hx
  | x :: xs, [], hx, _, _ => by simp [PartsOk] at hx
  | (o, s, x) :: xs, y :: ys, hx, ps, hv => by
    simp only [partVals] at hv
    split at hv
    · rename_i v vs' h1 h2
      cases hv
      have hx' : PartsOk E a pl xs ys := ⟨by have := hx.1; simpa using this, fun i => hx.2 (i + 1)⟩
      obtain ⟨q1, q2⟩ := partVals_spec hf hx' h2
      refine ⟨by simpa using q1, fun i p q hp hq => ?_⟩
      cases i with
      | zero =>
        simp at hp hq
        subst hp; subst hq
        obtain ⟨e1, e2⟩ := hx.2 0 _ _ rfl rfl
        exact ⟨e1, vl_spec hf e2 h1⟩
      | succ i =>
        refine q2 i p q (by simpa using hp) ?_
        simpa using hq
    · cases hv

theorem ev_lit (hf : FRel E h w r a.tmps) {t : TypeId} {i : TypeInfo} {zv : Value} {zs : List AV} {xs : List (Nat × Nat × AX)} {ys : Array (Nat × Operand)} {pl : Nat → Option (Nat × Nat)} (ho : o.op = .build t ys)
    (hi : P.info? t = some i) (hz : i.zero = some zv) (hzv : VRel E (.agg zs) zv)
    (hpl : (∃ len e sz, P.underlying t = some (.array len e) ∧ Sz P e sz ∧ pl = fun i => some (i * sz, sz)) ∨ (∃ fs places, P.underlying t = some (.struct fs) ∧ fs.toList.mapM (fun f => (P.info? f.type).map fun i => (f.offset, i.size)) = some places ∧ pl = fun i => (places.toArray)[i]?))
    (hx : PartsOk E a pl xs ys.toList) (he : evalV r h (.lit zs xs) = some reg) : Pure P E h w r a o reg := by
  simp only [evalV] at he
  split at he
  · rename_i ps hps
    obtain ⟨out, hout, rfl⟩ := map_some he
    obtain ⟨q1, q2⟩ := partVals_spec hf hx hps
    cases hzv with
    | agg _ vs hl h1 hh =>
    obtain ⟨cs, c1, c2, c3, c4⟩ := fill_spec pl ps (ys.toList.map fun y => (y.1, a.eval y.2)) zs vs out q1 q2 hl h1 hh hout
    refine .val (u := .agg cs) ?_ (.agg _ _ c2 c3 c4)
    rcases hpl with ⟨len, e, sz, hu, hs, rfl⟩ | ⟨fs, places, hu, hm, rfl⟩
    · simp [execOp,ho,Instr.build,zeroValue,typeInfo,hi,hz,run_underlying hu,hs.run,Value.cells]
      simp [c1]
    · simp [execOp,ho,Instr.build,zeroValue,typeInfo,hi,hz,run_underlying hu,Value.cells,Array.mapM_eq_mapM_toList,run_places _ _ _ hm]
      simp at c1
      simp [c1]
  · cases he

/-! ### slices of elements -/

def PartsE (E : Env) (a : Act) (xs : List (Nat × AX)) (ys : List (Nat × Operand)) : Prop :=
  xs.length = ys.length ∧ ∀ (i : Nat) x y, xs[i]? = some x → ys[i]? = some y → x.1 = y.1 ∧ XRel E a x.2 y.2

theorem partEs_spec (hf : FRel E h w r a.tmps) : ∀ {xs : List (Nat × AX)} {ys : List (Nat × Operand)}, PartsE E a xs ys → ∀ {ps : List (Nat × AV)}, partEs r xs = some ps →
    ps.length = (ys.map fun y => (y.1, a.eval y.2)).length ∧ ∀ (i : Nat) p q, ps[i]? = some p → (ys.map fun y => (y.1, a.eval y.2))[i]? = some q → p.1 = q.1 ∧ VRel E p.2 q.2
  | [], [], _, ps, hv => by simp [partEs] at hv; subst hv; simp
  | [], y :: ys, hx, _, _ => by simp [PartsE] at hx
  | x :: xs, [], hx, _, _ => by simp [PartsE] at hx
  | (o, x) :: xs, y :: ys, hx, ps, hv => by
    simp only [partEs] at hv
    split at hv
    · rename_i v vs' h1 h2
      cases hv
      have hx' : PartsE E a xs ys := ⟨by have := hx.1; simpa using this, fun i => hx.2 (i + 1)⟩
      obtain ⟨q1, q2⟩ := partEs_spec hf hx' h2
      refine ⟨by simpa using q1, fun i p q hp hq => ?_⟩
      cases i with
      | zero =>
        simp at hp hq
        subst hp; subst hq
        obtain ⟨e1, e2⟩ := hx.2 0 _ _ rfl rfl
        exact ⟨e1, vl_spec hf e2 h1⟩
      | succ i =>
        refine q2 i p q (by simpa using hp) ?_
        simpa using hq
    · cases hv

theorem mul_apart {i j size k : Nat} (hk : k < size) (h : i ≠ j) : i * size + k < j * size ∨ j * size + size ≤ i * size + k := by
  rcases Nat.lt_or_ge i j with hl | hl
  · left; exact mul_lt hl hk
  · right
    have : (j + 1) * size ≤ i * size := Nat.mul_le_mul_right _ (by omega)
    rw [Nat.succ_mul] at this
    omega

theorem EC.set {c cs : Array Value} {size : Nat} {es : List AV} (hc : EC E c size es) {i : Nat} {v : AV} {u : Value} (hi : i < es.length) (hv : VRel E v u) (hn : v.notTup = true) (hl : v.cells.length = size)
    (e3 : ∀ k, k < u.cells.size → cs[i * size + k]? = u.cells[k]?) (e4 : ∀ k, k < i * size ∨ i * size + u.cells.size ≤ k → cs[k]? = c[k]?) : EC E cs size (es.set i v) := by
  obtain ⟨q1, q2⟩ := cells_rel hv hn
  refine ⟨fun e he => ?_, fun j e hj => ?_⟩
  · rcases List.mem_or_eq_of_mem_set he with he | rfl
    · exact hc.1 e he
    · exact hl
  · rw [List.getElem?_set] at hj
    split at hj
    · rename_i hij
      subst hij
      simp [hi] at hj
      subst hj
      refine fun k x hk => ?_
      have hk' := (List.getElem?_eq_some_iff.1 hk).1
      obtain ⟨p1, u', p2, p3⟩ := q2 k x hk
      refine ⟨p1, u', ?_, p3⟩
      show cs[i * size + k]? = some u'
      rw [e3 k (by omega)]
      simpa using p2
    · rename_i hij
      have hje := hc.1 e (List.mem_of_getElem? hj)
      refine (hc.2 j e hj).congr fun k hk => ?_
      exact e4 _ (by have := mul_apart (i := j) (j := i) (k := k) (size := size) (by omega) (Ne.symm hij); omega)

theorem fillEs_spec {size : Nat} : ∀ (ps : List (Nat × AV)) (qs : List (Nat × Value)) (es : List AV) (cells : Array Value) (out : List AV),
    ps.length = qs.length → (∀ (i : Nat) p q, ps[i]? = some p → qs[i]? = some q → p.1 = q.1 ∧ VRel E p.2 q.2) → es.length * size ≤ cells.size → EC E cells size es → placeEs es size ps = some out →
    ∃ cs, Instr.fill (fun i => some (i * size, size)) cells qs = some cs ∧ cs.size = cells.size ∧ out.length = es.length ∧ EC E cs size out
  | [], [], es, cells, out, _, _, h1, h2, he => by simp [placeEs] at he; subst he; exact ⟨cells, rfl, rfl, rfl, h2⟩
  | [], q :: qs, _, _, _, hl, _, _, _, _ => by simp at hl
  | p :: ps, [], _, _, _, hl, _, _, _, _ => by simp at hl
  | (i, v) :: ps, (i', u) :: qs, es, cells, out, hl, hp, h1, h2, he => by
    simp only [placeEs] at he
    split at he
    · rename_i hc
      obtain ⟨c1, c2, c3⟩ := hc
      obtain ⟨rfl, p2⟩ := hp 0 _ _ rfl rfl
      simp only at p2
      obtain ⟨q1, q2⟩ := cells_rel p2 c1
      have hle : i * size + size ≤ es.length * size := by
        have : (i + 1) * size ≤ es.length * size := Nat.mul_le_mul_right _ c3
        rwa [Nat.succ_mul] at this
      obtain ⟨cs, e1, e2, e3, e4⟩ := fill_one cells u (i * size) (by omega)
      obtain ⟨cs', f1, f2, f3, f4⟩ := fillEs_spec ps qs (es.set i v) cs out (by simpa using hl) (fun j p q hp' hq' => hp (j + 1) p q hp' hq') (by simp; omega) (h2.set c3 p2 c1 c2 e3 e4) he
      refine ⟨cs', ?_, by omega, by simpa using f3, f4⟩
      simp only [Instr.fill]
      rw [if_neg (by simp; omega), e1]
      exact f1
    · cases he

theorem zeros_EC {z : AV} {zv : Value} (hz : VRel E z zv) (hn : z.notTup = true) {size : Nat} (hs : z.cells.length = size) (n m : Nat) (hm : n ≤ m) {c : Array Value} (hc : ∀ k, k < m * size → c[k]? = zv.cells[k % size]?) : EC E c size (List.replicate n z) := by
  obtain ⟨q1, q2⟩ := cells_rel hz hn
  refine ⟨fun e he => by rw [(List.mem_replicate.1 he).2]; exact hs, fun i e hi => ?_⟩
  have hi' := (List.getElem?_eq_some_iff.1 hi).1
  simp at hi'
  rw [List.getElem?_replicate, if_pos hi'] at hi
  cases hi
  intro k x hk
  have hk' := (List.getElem?_eq_some_iff.1 hk).1
  obtain ⟨p1, u, p2, p3⟩ := q2 k x hk
  refine ⟨p1, u, ?_, p3⟩
  show c[i * size + k]? = some u
  have hlt : i * size + k < m * size := Nat.lt_of_lt_of_le (mul_lt hi' (by omega)) (Nat.mul_le_mul_right _ hm)
  rw [hc _ hlt, Nat.mul_comm, Nat.mul_add_mod, Nat.mod_eq_of_lt (by omega)]
  simpa using p2

theorem zero_cells (zv : Value) (n : Nat) : ((Array.range n).map fun j => zv.cells[j % zv.cells.size]!).size = n ∧ ∀ k, k < n → 0 < zv.cells.size → ((Array.range n).map fun j => zv.cells[j % zv.cells.size]!)[k]? = zv.cells[k % zv.cells.size]? := by
  refine ⟨by simp, fun k hk h0 => ?_⟩
  have : k % zv.cells.size < zv.cells.size := Nat.mod_lt _ h0
  simp [hk,this]

theorem run_buildSlice (hf : FRel E h w r a.tmps) {t e : TypeId} {i : TypeInfo} {zv : Value} {z : AV} {len size : Nat} {xs : List (Nat × AX)} {ys : Array (Nat × Operand)} (ht : P.underlying t = some (.slice e)) (hi : P.info? e = some i) (hsz : i.size = size)
    (hz : i.zero = some zv) (hzv : VRel E z zv) (hn : z.notTup = true) (hs : z.cells.length = size) (hs0 : 0 < size) (hl : len * size ≤ 16777216) (hx : PartsE E a xs ys.toList) {ps : List (Nat × AV)} (hps : partEs r xs = some ps) {es : List AV} (he : placeEs (List.replicate len z) size ps = some es) :
    es.length = len ∧ ∃ c, (Instr.buildSlice t len (ys.map fun (i, x) => (i, a.eval x))).run P w = .ok (.slice (some ⟨w.heap.size, 0, none⟩) len len) (w.alloc (.cells c e)) ∧ c.size = len * size ∧ EC E c size es := by
  obtain ⟨q1, q2⟩ := partEs_spec hf hx hps
  obtain ⟨z1, z2⟩ := zero_cells zv (len * size)
  have hzs : zv.cells.size = size := by have := (cells_rel hzv hn).1; omega
  let c0 : Array Value := (Array.range (len * size)).map fun j => (if len * size = 0 then #[] else zv.cells)[j % (if len * size = 0 then #[] else zv.cells).size]!
  have hc0 : c0.size = len * size ∧ EC E c0 size (List.replicate len z) := by
    by_cases h0 : len * size = 0
    · refine ⟨by simp [c0], ?_⟩
      have : len = 0 := by rcases Nat.mul_eq_zero.1 h0 with h | h <;> omega
      subst this
      exact ⟨fun e he => by simp at he, fun i e hi => by simp at hi⟩
    · refine ⟨by simp [c0], zeros_EC hzv hn hs len len (Nat.le_refl _) fun k hk => ?_⟩
      simp only [c0,if_neg h0]
      rw [z2 k hk (by omega), hzs]
  obtain ⟨cs, e1, e2, e3, e4⟩ := fillEs_spec ps _ _ c0 es q1 q2 (by simp [hc0.1]) hc0.2 he
  refine ⟨by simpa using e3, cs, ?_, by rw [e2, hc0.1], e4⟩
  have hle : ¬ (len * size > 2 ^ 24) := by simp; omega
  have e1' : Instr.fill (fun i => some (i * size, size)) c0 (ys.map fun (i, x) => (i, a.eval x)).toList = some cs := by
    rw [← e1]; congr 1; simp
  unfold Instr.buildSlice
  by_cases h0 : len * size = 0
  · simp only [c0,if_pos h0] at e1'
    simp [run_underlying ht,sizeOf,typeInfo,hi,hsz,h0,Go.newRow]
    simp only [h0] at e1'
    simp at e1'
    rw [e1']
    rfl
  · simp only [c0,if_neg h0] at e1'
    simp at hle
    simp [run_underlying ht,sizeOf,typeInfo,hi,hsz,h0,Go.newRow,zeroValue,hz,Nat.not_lt.2 hle]
    simp at e1'
    rw [e1']
    rfl

end
end Go.Im

/- ImOps5: literals of slices, bytes of strings, parts of arrays, the least and the greatest, heap variables, stores. -/
set_option linter.unusedVariables false
set_option linter.unusedSimpArgs false
namespace Go.Im
section
variable {P : Program} {E : Env} {h : Hp} {w : World} {r : Regs} {a : Act} {o : Oper} {reg : Reg}

theorem Res.of_val {reg : AV} {r' : Regs} {h' : Hp} {u : Value} {w' : World} {E' : Env} (h1 : Runs P a w o u w') (h2 : Keep E h (Vars r a.tmps) w E' h' (Vars r' a.tmps) w') (h3 : FRel E' h' w' r' a.tmps) (h4 : HRel E' h' w') (h5 : VRel E' reg u) :
    Res P E h w r a o (.val reg) r' h' := ⟨u, w', E', h1, h2, h3, h4, h5, fun v e => by cases e⟩

theorem ev_litS_imm (hf : FRel E h w r a.tmps) (hh : HRel E h w) {t e : TypeId} {i : TypeInfo} {zv : Value} {z : AV} {len size : Nat} {xs : List (Nat × AX)} {ys : Array (Nat × Operand)} (ho : o.op = .buildSlice t len ys) (ht : P.underlying t = some (.slice e)) (hi : P.info? e = some i) (hsz : i.size = size)
    (hz : i.zero = some zv) (hzv : VRel E z zv) (hn : z.notTup = true) (hs : z.cells.length = size) (hs0 : 0 < size) (hl : len * size ≤ 16777216) (hx : PartsE E a xs ys.toList)
    (he : evalV r h (.litS false size z len xs) = some reg) : Res P E h w r a o reg r h := by
  simp only [evalV] at he
  split at he
  · rename_i ps hps
    obtain ⟨es, hes, rfl⟩ := map_some he
    obtain ⟨q1, c, q2, q3, q4⟩ := run_buildSlice hf ht hi hsz hz hzv hn hs hs0 hl hx hps hes
    subst q1
    obtain ⟨E', k1, k2, k3, k4⟩ := new_imm hf hh (Grow.alloc w (.cells c e)) (Nat.le_refl _) (alloc_at _ _) q4 (Nat.le_refl _) (cc := .full) (.inr ⟨rfl, rfl⟩)
    exact .of_val (.inl (by simp [execOp,ho]; rw [q2]; rfl)) k1 k2 k3 k4
  · cases he

theorem st_litS_row {K : Kont} (hf : FRel E h w r a.tmps) (hh : HRel E h w) {t e : TypeId} {i : TypeInfo} {zv : Value} {z : AV} {len size : Nat} {xs : List (Nat × AX)} {ys : Array (Nat × Operand)} (ho : o.op = .buildSlice t len ys) (ht : P.underlying t = some (.slice e)) (hi : P.info? e = some i) (hsz : i.size = size)
    (hz : i.zero = some zv) (hzv : VRel E z zv) (hn : z.notTup = true) (hs : z.cells.length = size) (hs0 : 0 < size) (hl : len * size ≤ 16777216) (hx : PartsE E a xs ys.toList) {r' : Regs} {h' : Hp}
    (he : step K r h (.litS true size z len xs) = some (reg, r', h')) : Res P E h w r a o reg r' h' := by
  simp only [step] at he
  split at he
  · rename_i ps hps
    obtain ⟨es, hes, hq⟩ := map_some he
    cases hq
    obtain ⟨q1, c, q2, q3, q4⟩ := run_buildSlice hf ht hi hsz hz hzv hn hs hs0 hl hx hps hes
    subst q1
    obtain ⟨E', k1, k2, k3, k4, k5, k6⟩ := new_row hf hh (Grow.alloc w (.cells c e)) (Nat.le_refl _) (alloc_at _ _) (fun o _ => by simp) q4 q3 (Nat.le_refl _)
    exact .of_val (.inl (by simp [execOp,ho]; rw [q2]; rfl)) k1 k2 k3 (row_val k4 k5 k6 (Nat.le_refl _))
  · cases he

/-! ### a string's bytes -/

theorem bytesOf_EC {s : List UInt8} {c : Array Value} (hc : ∀ k, k < s.length → c[k]? = some (.int .u8 (s.getD k 0).toNat)) : EC E c 1 (bytesOf s) := by
  refine ⟨fun e he => ?_, fun i e hi => ?_⟩
  · obtain ⟨b, _, rfl⟩ := List.mem_map.1 he; rfl
  · simp only [bytesOf,List.getElem?_map,Option.map_eq_some_iff] at hi
    obtain ⟨b, hb, rfl⟩ := hi
    have hlt := (List.getElem?_eq_some_iff.1 hb).1
    intro k x hk
    cases k with
    | zero =>
      simp [AV.cells] at hk
      subst hk
      refine ⟨rfl, _, ?_, .int _ _⟩
      show c[i * 1 + 0]? = _
      simp only [Nat.mul_one,Nat.add_zero]
      rw [hc i hlt]
      simp [List.getD,hb]
    | succ k => simp [AV.cells] at hk

theorem run_strToBytes {e : TypeId} (s : List UInt8) (w : World) : ∃ c cap fr w', (Conv.stringToBytes e ⟨s.toArray⟩).run P w = .ok (.slice (some ⟨w.heap.size, 0, none⟩) s.length cap) w' ∧ Grow w w' ∧ w'.heap[w.heap.size]? = some (.cells c e fr) ∧
    (∀ o, o < c.size → (fr.1 ≤ o && o < fr.2) = false) ∧ c.size = cap * 1 ∧ s.length ≤ cap ∧ EC E c 1 (bytesOf s) := by
  have hq : (Question.appendCap s.length 0 e).forced = false := rfl
  have hcap : s.length ≤ (Question.appendCap s.length 0 e).cut (w.tape w.drawn (.appendCap s.length 0 e)) := by simp [Question.cut]
  generalize hcp : (Question.appendCap s.length 0 e).cut (w.tape w.drawn (.appendCap s.length 0 e)) = cap at hcap
  let c : Array Value := (s.toArray.map fun b => Value.int .u8 b.toNat) ++ Array.replicate (cap - s.length) (.int .u8 0)
  have hc : c.size = cap := by simp [c]; omega
  let w1 := w.drew.alloc (.cells c e)
  have hsh : w1.shape? w.heap.size = some (e, c.size) := by simp only [World.shape?,w1]; rw [show w.heap.size = w.drew.heap.size from rfl, alloc_at]
  have hfz : (w1.freeze ⟨w.heap.size, c.size, none⟩ 1).heap[w.heap.size]? = some (.cells c e (c.size, c.size + 1)) := by
    have h1 : w1.heap[w.heap.size]? = some (.cells c e) := by simp only [w1]; rw [show w.heap.size = w.drew.heap.size from rfl, alloc_at]
    simp [World.freeze,Array.getElem?_modify,h1]
  refine ⟨c, cap, (c.size, c.size + 1), w1.freeze ⟨w.heap.size, c.size, none⟩ 1, ?_, ?_, hfz, fun o ho => by simp; omega, by omega, hcap, bytesOf_EC fun k hk => ?_⟩
  · unfold Conv.stringToBytes
    simp only [Sem.run_bind,run_choose,ba_size,hq,Bool.false_eq_true,if_false,Result.andThen_ok,hcp,Go.newRow,run_newObj,Sem.run_pure,markStringish]
    show (((shape w.heap.size).run P w1).andThen _).andThen _ = _
    simp only [run_shape,Result.andThen_ok,hsh,run_freeze,Sem.run_pure]
  · refine ⟨?_, fun b hb => ?_, rfl, rfl⟩
    · simp [World.freeze,w1]
    · have h1 : w1.heap[b]? = w.heap[b]? := (Grow.alloc w.drew (.cells c e)).heap b hb
      rw [← h1]
      show (w1.heap.modify w.heap.size _)[b]? = _
      rw [Array.getElem?_modify, if_neg (by omega)]
  · simp only [c]
    rw [Array.getElem?_append_left (by simpa using hk)]
    simp [hk,List.getD]

theorem ev_strToBytes_imm (hf : FRel E h w r a.tmps) (hh : HRel E h w) {t t' e : TypeId} {d : TypeDesc} {y : Operand} {x : AX} (ho : o.op = .convert t t' y) (hx : XRel E a x y) (hd : P.underlying t = some d) (ht : P.underlying t' = some (.slice e)) (hu : P.underlying e = some (.int .u8))
    (he : evalV r h (.strToBytes false x) = some reg) : Res P E h w r a o reg r h := by
  simp only [evalV] at he
  split at he
  · rename_i s hv
    cases he
    have h1 := str_inv (vl_spec hf hx hv)
    obtain ⟨c, cap, fr, w', q1, q2, q3, q4, q5, q6, q7⟩ := run_strToBytes (P := P) (E := E) (e := e) s w
    have hlen : (bytesOf s).length = s.length := by simp [bytesOf]
    obtain ⟨E', k1, k2, k3, k4⟩ := new_imm hf hh q2 (Nat.le_refl _) q3 q7 (cap := cap) (by omega) (cc := .no) (.inl rfl)
    rw [hlen] at k4
    exact .of_val (.inl (by simp [execOp,ho,convert,run_underlying hd,run_underlying ht,h1,run_underlying hu,q1])) k1 k2 k3 k4
  · cases he

theorem st_strToBytes_row {K : Kont} (hf : FRel E h w r a.tmps) (hh : HRel E h w) {t t' e : TypeId} {d : TypeDesc} {y : Operand} {x : AX} (ho : o.op = .convert t t' y) (hx : XRel E a x y) (hd : P.underlying t = some d) (ht : P.underlying t' = some (.slice e)) (hu : P.underlying e = some (.int .u8)) {r' : Regs} {h' : Hp}
    (he : step K r h (.strToBytes true x) = some (reg, r', h')) : Res P E h w r a o reg r' h' := by
  simp only [step] at he
  split at he
  · rename_i s hv
    cases he
    have h1 := str_inv (vl_spec hf hx hv)
    obtain ⟨c, cap, fr, w', q1, q2, q3, q4, q5, q6, q7⟩ := run_strToBytes (P := P) (E := E) (e := e) s w
    have hlen : (bytesOf s).length = s.length := by simp [bytesOf]
    obtain ⟨E', k1, k2, k3, k4, k5, k6⟩ := new_row hf hh q2 (Nat.le_refl _) q3 q4 q7 q5 (by omega)
    exact .of_val (.inl (by simp [execOp,ho,convert,run_underlying hd,run_underlying ht,h1,run_underlying hu,q1])) k1 k2 k3 (row_val k4 k5 k6 q6)
  · cases he

/-! ### a part of an array -/

def XOpt (E : Env) (a : Act) : Option AX → Option Operand → Prop
  | some x, some y => XRel E a x y
  | none, none => True
  | _, _ => False

theorem ivo_spec (hf : FRel E h w r a.tmps) {x : Option AX} {y : Option Operand} {d n : Int} (hx : XOpt E a x y) (hv : ivo r d x = some n) :
    (∃ z k, y = some z ∧ a.eval z = .int k n ∧ x.isSome) ∨ (y = none ∧ x = none ∧ n = d) := by
  cases x <;> cases y <;> simp [ivo,XOpt] at hx hv
  · right; exact ⟨rfl, rfl, hv.symm⟩
  · obtain ⟨k, hk⟩ := iv_spec hf hx hv
    left; exact ⟨_, k, rfl, hk, rfl⟩

theorem ev_sliceA (hf : FRel E h w r a.tmps) (hh : HRel E h w) {t e : TypeId} {y : Operand} {x : AX} {len size : Nat} {lo hi : Option Operand} {xlo xhi : Option AX} (ho : o.op = .slice t y lo hi none) (hx : XRel E a x y) (ht : P.underlying t = some (.array len e)) (hs : Sz P e size)
    (hlo : XOpt E a xlo lo) (hhi : XOpt E a xhi hi)
    (he : evalV r h (.sliceA len size x xlo xhi) = some reg) : Res P E h w r a o reg r h := by
  simp only [evalV] at he
  split at he
  · rename_i p l i hp hl hi'
    split at he
    · rename_i hc
      obtain ⟨c1, c2, c3⟩ := hc
      obtain ⟨b, off, h1, h2⟩ := plc_spec hf hx hp
      have hb : ∃ hv : Option Int, Bounds a E lo hi none l hv none ∧ hv.getD len = i := by
        rcases ivo_spec hf hlo hl with ⟨z, k, rfl, hz, _⟩ | ⟨rfl, _, rfl⟩ <;> rcases ivo_spec hf hhi hi' with ⟨z', k', rfl, hz', _⟩ | ⟨rfl, _, rfl⟩
        · exact ⟨some i, ⟨.inl ⟨z, k, rfl, hz⟩, .inl ⟨z', k', i, rfl, hz', rfl⟩, .inr ⟨rfl, rfl⟩⟩, rfl⟩
        · exact ⟨none, ⟨.inl ⟨z, k, rfl, hz⟩, .inr ⟨rfl, rfl⟩, .inr ⟨rfl, rfl⟩⟩, rfl⟩
        · exact ⟨some i, ⟨.inr ⟨rfl, rfl⟩, .inl ⟨z', k', i, rfl, hz', rfl⟩, .inr ⟨rfl, rfl⟩⟩, rfl⟩
        · exact ⟨none, ⟨.inr ⟨rfl, rfl⟩, .inr ⟨rfl, rfl⟩, .inr ⟨rfl, rfl⟩⟩, rfl⟩
      obtain ⟨hv, hb, rfl⟩ := hb
      have hrun := run_bounds (P := P) (w := w) hb false len len c1 c2 (by simpa using c3) (by simp) (by simp)
      simp only [Option.map_none,Option.getD_none,Int.toNat_natCast] at hrun
      have hsl : (execOp a.eval o).run P w = .ok (.value (.slice (some (if len = l.toNat then (⟨b, off, none⟩ : Addr) else ⟨b, off + l.toNat * size, none⟩)) ((hv.getD len).toNat - l.toNat) (len - l.toNat))) w := by
        simp [execOp,ho,Instr.sliceAt,run_underlying ht,Instr.sureAddr,h1,hrun,hs.run,addr_add]
      have hif : ∃ off', (if len = l.toNat then (⟨b, off, none⟩ : Addr) else ⟨b, off + l.toNat * size, none⟩) = ⟨b, off', none⟩ ∧ (off' = off + l.toNat * size ∨ (hv.getD (len : Int)).toNat - l.toNat = 0) := by
        split
        · exact ⟨off, rfl, .inr (by omega)⟩
        · exact ⟨_, rfl, .inl rfl⟩
      obtain ⟨off', e1, e2⟩ := hif
      rw [e1] at hsl
      split at he
      · rename_i t' o'
        cases he
        obtain ⟨p1, p2, p3⟩ := h2
        refine Pure.not_var ⟨_, .inl hsl, p1, off', len - l.toNat, by rw [vb_of p2], by omega, ?_⟩ (fun v e => by cases e) hf hh
        rcases e2 with e2 | e2
        · left; omega
        · right; exact e2
      · rename_i id s k o'
        cases he
        obtain ⟨p1, rfl, p3⟩ := h2
        refine Pure.not_var ⟨_, .inl hsl, p1, off', len - l.toNat, rfl, by omega, ?_⟩ (fun v e => by cases e) hf hh
        rcases e2 with e2 | e2
        · left; omega
        · right; exact e2
      · rename_i cs
        split at he
        · rename_i hc2
          obtain ⟨rfl, hcl⟩ := hc2
          cases he
          have hlen : ((cs.take (hv.getD len).toNat).drop l.toNat).length = (hv.getD len).toNat - l.toNat := by
            rw [List.length_drop, List.length_take, Nat.min_eq_left (by omega)]
          have hsub : ∀ (i : Nat) x, ((cs.take (hv.getD len).toNat).drop l.toNat)[i]? = some x → cs[l.toNat + i]? = some x := fun i x hi => by
            simp only [List.getElem?_drop,List.getElem?_take] at hi
            split at hi
            · exact hi
            · cases hi
          have hone : ∀ (i : Nat) x, ((cs.take (hv.getD len).toNat).drop l.toNat)[i]? = some x → x.one = true := fun i x hi => (h2 _ x (hsub i x hi)).1
          refine Pure.not_var ⟨_, .inl hsl, ?_⟩ (fun v e => by cases e) hf hh
          show VRel E _ _
          rw [← hlen]
          refine .imm 1 _ .no b off' _ (by omega) (fun e he => ?_) (fun e he x hx' => ?_) (fun i k hi hk => ?_) (fun i e k x u hi hk hu => ?_) trivial
          · obtain ⟨i, hi, rfl⟩ := List.getElem_of_mem he
            rw [AV.cells_of_one (hone i _ (List.getElem?_eq_getElem hi))]; rfl
          · obtain ⟨i, hi, rfl⟩ := List.getElem_of_mem he
            have := hone i _ (List.getElem?_eq_getElem hi)
            rw [AV.cells_of_one this] at hx'
            rw [List.mem_singleton] at hx'
            rw [hx']; exact this
          · have hoff : off' = off + l.toNat * 1 := by rcases e2 with e2 | e2 <;> omega
            obtain ⟨_, u, hu, _⟩ := h2 (l.toNat + i) _ (hsub i _ (List.getElem?_eq_getElem hi))
            rw [hoff, show off + l.toNat * 1 + i * 1 + k = off + (l.toNat + i) by omega, hu]; rfl
          · have hi0 := (List.getElem?_eq_some_iff.1 hi).1
            have hoff : off' = off + l.toNat * 1 := by rcases e2 with e2 | e2 <;> omega
            rw [AV.cells_of_one (hone i e hi)] at hk
            cases k with
            | zero =>
              simp at hk; subst hk
              obtain ⟨_, u', hu', hv'⟩ := h2 (l.toNat + i) _ (hsub i _ hi)
              rw [hoff, show off + l.toNat * 1 + i * 1 + 0 = off + (l.toNat + i) by omega, hu'] at hu
              cases hu; exact hv'
            | succ k => simp at hk
        · cases he
      · cases he
    · cases he
  · cases he

theorem ev_mm (hf : FRel E h w r a.tmps) {y z : Operand} {x xz : AX} {ts : Array TypeId} {mn : Bool} (ho : o.op = .call { callee := .builtin (if mn then .min else .max), args := #[y, z], argTypes := ts }) (hx : XRel E a x y) (hz : XRel E a xz z)
    (he : evalV r h (.mm mn x xz) = some reg) : Pure P E h w r a o reg := by
  simp only [evalV] at he
  split at he
  · rename_i k m k' n hv hv'
    cases he
    have h1 := int_inv (vl_spec hf hx hv)
    have h2 := int_inv (vl_spec hf hz hv')
    cases mn with
    | true => exact .val (by simp [execOp,ho,resolve,invoke,builtin,h1,h2,Builtin.min_,Builtin.min2]) (.int _ _)
    | false => exact .val (by simp [execOp,ho,resolve,invoke,builtin,h1,h2,Builtin.max_,Builtin.max2]) (.int _ _)
  · rename_i s s' hv hv'
    cases he
    have h1 := str_inv (vl_spec hf hx hv)
    have h2 := str_inv (vl_spec hf hz hv')
    cases mn with
    | true =>
      by_cases hc : (Op.bytesLess s s' || s == s') = true
      · exact .val (u := .string ⟨s.toArray⟩) (by simp [execOp,ho,resolve,invoke,builtin,h1,h2,Builtin.min_,Builtin.min2,Op.stringOp,asBool,hc]; try (intro hx1; simp [hx1] at hc)) (by rw [if_pos rfl, if_pos hc]; exact .str _)
      · exact .val (u := .string ⟨s'.toArray⟩) (by simp [execOp,ho,resolve,invoke,builtin,h1,h2,Builtin.min_,Builtin.min2,Op.stringOp,asBool]; simp at hc; simp [hc]) (by rw [if_pos rfl, if_neg hc]; exact .str _)
    | false =>
      by_cases hc : (!(Op.bytesLess s s')) = true
      · exact .val (u := .string ⟨s.toArray⟩) (by simp [execOp,ho,resolve,invoke,builtin,h1,h2,Builtin.max_,Builtin.max2,Op.stringOp,asBool]; simp at hc; simp [hc]) (by rw [if_neg (by simp), if_pos hc]; exact .str _)
      · exact .val (u := .string ⟨s'.toArray⟩) (by simp [execOp,ho,resolve,invoke,builtin,h1,h2,Builtin.max_,Builtin.max2,Op.stringOp,asBool]; simp at hc; simp [hc]) (by rw [if_neg (by simp), if_neg hc]; exact .str _)
  · cases he

end
end Go.Im

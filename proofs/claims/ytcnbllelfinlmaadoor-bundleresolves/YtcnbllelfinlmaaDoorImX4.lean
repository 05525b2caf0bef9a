/- Joined: ImX3, ImX4. -/
import Derived.Test.YtcnbllelfinlmaaDoorImX2
/- ImX3: all rewriting rules together. -/
set_option linter.unusedVariables false
namespace Go.Im

theorem bytesOf_len (bs : List UInt8) : (bytesOf bs).length = bs.length := by simp [bytesOf]

theorem xc :
  (∀ (K : Kont) (n : Nat) (r : Regs) (h : Hp) (Q : AE → Regs → Hp → Prop), Wp K n .skip r h Q = Q .normal r h) ∧
  (∀ (K : Kont) (n : Nat) (r : Regs) (h : Hp) (Q : AE → Regs → Hp → Prop), Wp K n .ret r h Q = Q .ret r h) ∧
  (∀ (K : Kont) (n : Nat) (r : Regs) (h : Hp) (Q : AE → Regs → Hp → Prop) (i : Nat), Wp K n (.exit i) r h Q = Q (.exit i) r h) ∧
  (∀ (K : Kont) (n : Nat) (r : Regs) (h : Hp) (Q : AE → Regs → Hp → Prop) (a b : AC), Wp K n (.seq a b) r h Q = Wp K n a r h (Then K n b Q)) ∧
  (∀ (K : Kont) (n : Nat) (r : Regs) (h : Hp) (Q : AE → Regs → Hp → Prop) (b : AC), Then K n b Q .normal r h = Wp K n b r h Q) ∧
  (∀ (K : Kont) (n : Nat) (r : Regs) (h : Hp) (Q : AE → Regs → Hp → Prop) (b : AC) (i : Nat), Then K n b Q (.exit i) r h = Q (.exit i) r h) ∧
  (∀ (K : Kont) (n : Nat) (r : Regs) (h : Hp) (Q : AE → Regs → Hp → Prop) (b : AC), Then K n b Q .ret r h = Q .ret r h) ∧
  (∀ (K : Kont) (n : Nat) (r : Regs) (h : Hp) (Q : AE → Regs → Hp → Prop) (i : Nat) (b : AC), Wp K n (.block i b) r h Q = Wp K n b r h (InBlock i Q)) ∧
  (∀ (r : Regs) (h : Hp) (Q : AE → Regs → Hp → Prop) (i : Nat), InBlock i Q .normal r h = Q .normal r h) ∧
  (∀ (r : Regs) (h : Hp) (Q : AE → Regs → Hp → Prop) (i : Nat), InBlock i Q .ret r h = Q .ret r h) ∧
  (∀ (r : Regs) (h : Hp) (Q : AE → Regs → Hp → Prop) (i j : Nat), InBlock i Q (.exit j) r h = if j = i then Q .normal r h else Q (.exit j) r h) ∧
  (∀ (K : Kont) (n : Nat) (r : Regs) (h : Hp) (Q : AE → Regs → Hp → Prop) (x : AX) (a b : AC), Wp K n (.cond x a b) r h Q = (match vl r x with
    | some (.bool c) => if c = true then Wp K n a r h Q else Wp K n b r h Q
    | _ => False)) ∧
  (∀ (K : Kont) (n : Nat) (r : Regs) (h : Hp) (Q : AE → Regs → Hp → Prop) (ord : List Nat) (ops : List AOper) (ks : List Nat), Wp K n (.region ord ops ks) r h Q = Wo K ops r h (Settle ks Q)) ∧
  (∀ (r : Regs) (h : Hp) (Q : AE → Regs → Hp → Prop) (ks : List Nat), Settle ks Q r h = Q .normal (settle ks r) h) ∧
  (∀ (I : Nat → Regs → Hp → Prop) (k : Nat) (Q : AE → Regs → Hp → Prop) (r : Regs) (h : Hp), LoopP I k Q .normal r h = ∃ j, j < k ∧ I j r h) ∧
  (∀ (I : Nat → Regs → Hp → Prop) (k : Nat) (Q : AE → Regs → Hp → Prop) (r : Regs) (h : Hp), LoopP I k Q .ret r h = Q .ret r h) ∧
  (∀ (I : Nat → Regs → Hp → Prop) (k : Nat) (Q : AE → Regs → Hp → Prop) (r : Regs) (h : Hp) (i : Nat), LoopP I k Q (.exit i) r h = Q (.exit i) r h) ∧
  (∀ (rs : List ARes) (P : AV → Hp → Prop) (r : Regs) (h : Hp), Ret rs P .ret r h = ∃ v, result r h rs = some v ∧ P v h) ∧
  (∀ (rs : List ARes) (P : AV → Hp → Prop) (r : Regs) (h : Hp), Ret rs P .normal r h = ∃ v, result r h rs = some v ∧ P v h) :=
  ⟨fun _ _ _ _ _ => w_skip, fun _ _ _ _ _ => w_ret, fun _ _ _ _ _ => w_exit, fun _ _ _ _ _ => w_seq, fun _ _ _ _ _ _ => rfl, fun _ _ _ _ _ _ _ => rfl, fun _ _ _ _ _ _ => rfl, fun _ _ _ _ _ => w_block,
   fun _ _ _ _ => rfl, fun _ _ _ _ => rfl, fun _ _ _ _ _ => rfl, fun _ _ _ _ _ => w_cond, fun _ _ _ _ _ => w_region, fun _ _ _ _ => rfl, fun _ _ _ _ _ => rfl, fun _ _ _ _ _ => rfl, fun _ _ _ _ _ _ => rfl, fun _ _ _ _ => rfl, fun _ _ _ _ => rfl⟩

theorem xo :
  (∀ (K : Kont) (r : Regs) (h : Hp) (R : Regs → Hp → Prop), Wo K [] r h R = R r h) ∧
  (∀ (K : Kont) (d : Option Nat) (os : List AOper) (R : Regs → Hp → Prop) (r : Regs) (h : Hp) (f : FuncId) (args : List AX), Wo K (⟨d, .call f args, none⟩ :: os) r h R = (match vls r args with | some vs => Wc K (K.call f vs h) d r os R | none => False)) ∧
  (∀ (K : Kont) (d : Option Nat) (os : List AOper) (R : Regs → Hp → Prop) (r : Regs) (h : Hp) (f : FuncId) (args : List AX), Wo K (⟨d, .callP f args, none⟩ :: os) r h R = (match vls r args with
    | some vs => (match plains vs with
      | some vs => (match K.pure f vs with
        | some v => (match plain v with
          | some v => Ws K d (.val v) r h os R
          | none => False)
        | none => False)
      | none => False)
    | none => False)) ∧
  (∀ (K : Kont) (d : Option Nat) (os : List AOper) (R : Regs → Hp → Prop) (r : Regs) (h : Hp) (x : AX) (args : List AX), Wo K (⟨d, .callV x args, none⟩ :: os) r h R = (match vl r x with
    | some (.fn (.func f) first captured) => (match vls r args with
      | some vs => Wc K (K.call f (first ++ vs ++ captured) h) d r os R
      | none => False)
    | some (.yld id) => (match vls r args with
      | some vs => Wc K (K.round id vs h) d r os R
      | none => False)
    | _ => False)) ∧
  (∀ (K : Kont) (d : Option Nat) (os : List AOper) (R : Regs → Hp → Prop) (r : Regs) (v : AV) (h1 : Hp), Wc K (some (v, h1)) d r os R = Ws K d (.val v) r h1 os R) ∧
  (∀ (K : Kont) (d : Option Nat) (os : List AOper) (R : Regs → Hp → Prop) (r : Regs) (h : Hp) (op : AOp) (t : Nat) (b : Bool), Wo K (⟨d, op, some (t, b)⟩ :: os) r h R = (match wanted r (some (t, b)) with
    | some true => Wo K (⟨d, op, none⟩ :: os) r h R
    | some false => Ws K d (.val (.tup [])) r h os R
    | none => False)) ∧
  (∀ (K : Kont) (os : List AOper) (R : Regs → Hp → Prop) (r : Regs) (h : Hp) (x : Reg), Ws K none x r h os R = Wo K os r h R) ∧
  (∀ (K : Kont) (os : List AOper) (R : Regs → Hp → Prop) (r : Regs) (h : Hp) (d : Nat) (x : Reg), Ws K (some d) x r h os R = (if ((get r d).isA || (((get r d).isV || x.isV) && r.any fun p => p.2.onto d)) = true then False else Wo K os (put r d x) h R)) ∧
  (∀ (K : Kont) (os : List AOper) (R : Regs → Hp → Prop) (d : Option Nat) (x : Reg) (r1 : Regs) (h1 : Hp), Wr K (some (x, r1, h1)) d os R = Ws K d x r1 h1 os R) ∧
  (∀ (K : Kont) (x : Reg) (d : Option Nat) (r : Regs) (h : Hp) (os : List AOper) (R : Regs → Hp → Prop), Wv K (some x) d r h os R = Ws K d x r h os R) :=
  ⟨fun _ _ _ _ => wo_nil, fun _ _ _ _ _ _ => wo_call, fun _ _ _ _ _ _ => wo_callP, fun _ _ _ _ _ _ => wo_callV, fun _ _ _ _ _ => wc_some, fun _ _ _ _ _ _ => wo_guard, fun _ _ _ _ _ => ws_none, fun _ _ _ _ _ => ws_some, fun _ _ _ _ _ _ _ => rfl, fun _ _ _ _ _ _ _ => rfl⟩

theorem xr :
  (∀ (t : Nat), get [] t = .un) ∧
  (∀ (u t : Nat) (x : Reg) (r : Regs), get ((u, x) :: r) t = if u = t then x else get r t) ∧
  (∀ (t : Nat) (x : Reg), put [] t x = [(t, x)]) ∧
  (∀ (u t : Nat) (x y : Reg) (r : Regs), put ((u, y) :: r) t x = if t < u then (t, x) :: (u, y) :: r else if t = u then (t, x) :: r else (u, y) :: put r t x) ∧
  (∀ (ks : List Nat), settle ks [] = []) ∧
  (∀ (ks : List Nat) (t : Nat) (x : Reg) (r : Regs), settle ks ((t, x) :: r) = if onl t ks = true then (if x.stays = true then (t, x) :: settle ks r else settle ks r) else settle ks r) ∧
  (∀ (t : Nat), onl t [] = false) ∧
  (∀ (t k : Nat) (ks : List Nat), onl t (k :: ks) = if t = k then true else onl t ks) ∧
  (∀ (r : Regs) (t : Nat), vl r (.t t) = (match get r t with | .val v => some v | _ => none)) ∧
  (∀ (r : Regs) (v : AV), vl r (.c v) = some v) ∧
  (∀ (r : Regs), vls r [] = some []) ∧
  (∀ (r : Regs) (x : AX) (xs : List AX), vls r (x :: xs) = (match vl r x, vls r xs with
    | some v, some vs => some (v :: vs)
    | _, _ => none)) ∧
  (∀ (r : Regs) (x : AX), iv r x = (match vl r x with | some (.int _ n) => some n | _ => none)) ∧
  (∀ (r : Regs) (d : Int), ivo r d none = some d) ∧
  (∀ (r : Regs) (d : Int) (x : AX), ivo r d (some x) = iv r x) ∧
  (∀ (r : Regs) (t : Nat) (b : Bool), wanted r (some (t, b)) = (match get r t with
    | .val (.bool c) => some (c == b)
    | .val (.tup []) => some false
    | _ => none)) ∧
  (∀ (k : Nat), initRegs k [] = []) ∧
  (∀ (k : Nat) (v : AV) (vs : List AV), initRegs k (v :: vs) = (k, .val v) :: initRegs (k + 1) vs) :=
  ⟨fun _ => rfl, fun _ _ _ _ => rfl, fun _ _ => rfl, fun _ _ _ _ _ => rfl, fun _ => rfl, settle_cons, fun _ => rfl, fun _ _ _ => rfl, fun _ _ => rfl, fun _ _ => rfl, fun _ => rfl, fun _ _ _ => rfl, fun _ _ => rfl, fun _ _ => rfl, fun _ _ _ => rfl, fun _ _ _ => rfl, fun _ => rfl, fun _ _ _ => rfl⟩

theorem wrap_i64 {x : Int} (h1 : -9223372036854775808 ≤ x) (h2 : x ≤ 9223372036854775807) : IntKind.i64.wrap x = x := by
  simp [IntKind.wrap,IntKind.signed,IntKind.bits]
  omega

theorem xd :
  (∀ (r : Regs) (t : Nat), plc r (.t t) = (match get r t with
    | .val v => plV v
    | .var _ => some (.loc t 0)
    | .adr t o => (match get r t with
      | .var _ => some (.loc t o)
      | _ => none)
    | _ => none)) ∧
  (∀ (r : Regs) (v : AV), plc r (.c v) = plV v) ∧
  (∀ (id s i o : Nat), plV (.ptr id s i o) = some (.hp id s i o)) ∧
  (∀ (v : AV), plV (.iptr v) = some (.im v)) ∧
  (∀ (v : AV) (off size : Nat) (agg : Bool), Pl.sub (.im v) off size agg = (sub v off size agg).map .im) ∧
  (∀ (t o off size : Nat) (agg : Bool), Pl.sub (.loc t o) off size agg = some (.loc t (o + off))) ∧
  (∀ (id s i o off size : Nat) (agg : Bool), Pl.sub (.hp id s i o) off size agg = some (.hp id s i (o + off))) ∧
  (∀ (t o : Nat), Pl.reg (.loc t o) = .adr t o) ∧
  (∀ (id s i o : Nat), Pl.reg (.hp id s i o) = .val (.ptr id s i o)) ∧
  (∀ (v : AV), Pl.reg (.im v) = .val (.iptr v)) ∧
  (∀ (r : Regs) (h : Hp) (agg : Bool) (size : Nat) (v : AV), rd r h agg size (.im v) = sub v 0 size agg) ∧
  (∀ (r : Regs) (h : Hp) (agg : Bool) (size t o : Nat), rd r h agg size (.loc t o) = (match get r t with | .var v => sub v o size agg | _ => none)) ∧
  (∀ (r : Regs) (h : Hp) (agg : Bool) (size id s i o : Nat), rd r h agg size (.hp id s i o) = (match h[id]? with
    | some (.row s' es) => if s' = s then (match es[i]? with | some v => sub v o size agg | none => none) else none
    | _ => none)) ∧
  (∀ (k : IntKind) (n : Int) (size : Nat), sub (.int k n) 0 size false = some (.int k n)) ∧
  (∀ (b : Bool) (size : Nat), sub (.bool b) 0 size false = some (.bool b)) ∧
  (∀ (s : List UInt8) (size : Nat), sub (.str s) 0 size false = some (.str s)) ∧
  (∀ (id s i o : Nat) (size : Nat), sub (.ptr id s i o) 0 size false = some (.ptr id s i o)) ∧
  (∀ (s : Nat) (es : List AV) (c : Cap) (size : Nat), sub (.imm s es c) 0 size false = some (.imm s es c)) ∧
  (∀ (a b c d : Nat) (e : Bool) (size : Nat), sub (.row a b c d e) 0 size false = some (.row a b c d e)) ∧
  (∀ (size : Nat), sub .nils 0 size false = some .nils) ∧
  (∀ (size : Nat), sub .nilm 0 size false = some .nilm) ∧
  (∀ (size : Nat), sub .nilp 0 size false = some .nilp) ∧
  (∀ (id size : Nat), sub (.mp id) 0 size false = some (.mp id)) ∧
  (∀ (cs : List AV) (off size : Nat), sub (.agg cs) off size false = cs[off]?) ∧
  (∀ (cs : List AV) (off size : Nat), sub (.agg cs) off size true = if off + size ≤ cs.length then some (.agg ((cs.drop off).take size)) else none) ∧
  (lenSl .nils = some 0) ∧
  (∀ (s : Nat) (es : List AV) (c : Cap), lenSl (.imm s es c) = some es.length) ∧
  (∀ (id s off n : Nat) (c : Bool), lenSl (.row id s off n c) = some n) ∧
  (∀ (k : IntKind) (a b : Int), bin .add (.int k a) (.int k b) = binI .add k a b) ∧
  (∀ (k : IntKind) (a b : Int), bin .sub (.int k a) (.int k b) = binI .sub k a b) ∧
  (∀ (k : IntKind) (a b : Int), bin .mul (.int k a) (.int k b) = binI .mul k a b) ∧
  (∀ (k : IntKind) (a b : Int), bin .quo (.int k a) (.int k b) = binI .quo k a b) ∧
  (∀ (k : IntKind) (a b : Int), bin .rem (.int k a) (.int k b) = binI .rem k a b) ∧
  (∀ (k : IntKind) (a b : Int), bin .and (.int k a) (.int k b) = binI .and k a b) ∧
  (∀ (k : IntKind) (a b : Int), bin .or (.int k a) (.int k b) = binI .or k a b) ∧
  (∀ (k : IntKind) (a b : Int), bin .xor (.int k a) (.int k b) = binI .xor k a b) ∧
  (∀ (k : IntKind) (a b : Int), bin .andNot (.int k a) (.int k b) = binI .andNot k a b) ∧
  (∀ (k : IntKind) (a b : Int), bin .lss (.int k a) (.int k b) = binI .lss k a b) ∧
  (∀ (k : IntKind) (a b : Int), bin .leq (.int k a) (.int k b) = binI .leq k a b) ∧
  (∀ (k : IntKind) (a b : Int), bin .gtr (.int k a) (.int k b) = binI .gtr k a b) ∧
  (∀ (k : IntKind) (a b : Int), bin .geq (.int k a) (.int k b) = binI .geq k a b) ∧
  (∀ (k : IntKind) (a b : Int), bin .eql (.int k a) (.int k b) = binI .eql k a b) ∧
  (∀ (k : IntKind) (a b : Int), bin .neq (.int k a) (.int k b) = binI .neq k a b) ∧
  (∀ (k j : IntKind) (a b : Int), bin .shl (.int k a) (.int j b) = if b < 0 then none else some (.int k (k.wrap (a * 2 ^ (min b.toNat k.bits))))) ∧
  (∀ (k j : IntKind) (a b : Int), bin .shr (.int k a) (.int j b) = if b < 0 then none else some (.int k (a.fdiv (2 ^ (min b.toNat k.bits))))) ∧
  (∀ (op : BinOp) (a b : List UInt8), bin op (.str a) (.str b) = binS op a b) ∧
  (∀ (k : IntKind) (a b : Int), binI .add k a b = some (.int k (k.wrap (a + b)))) ∧
  (∀ (k : IntKind) (a b : Int), binI .sub k a b = some (.int k (k.wrap (a - b)))) ∧
  (∀ (k : IntKind) (a b : Int), binI .mul k a b = some (.int k (k.wrap (a * b)))) ∧
  (∀ (k : IntKind) (a b : Int), binI .quo k a b = if b = 0 then none else some (.int k (k.wrap (a.tdiv b)))) ∧
  (∀ (k : IntKind) (a b : Int), binI .rem k a b = if b = 0 then none else some (.int k (a.tmod b))) ∧
  (∀ (k : IntKind) (a b : Int), binI .and k a b = some (.int k (bitsI .and k a b))) ∧
  (∀ (k : IntKind) (a b : Int), binI .or k a b = some (.int k (bitsI .or k a b))) ∧
  (∀ (k : IntKind) (a b : Int), binI .xor k a b = some (.int k (bitsI .xor k a b))) ∧
  (∀ (k : IntKind) (a b : Int), binI .lss k a b = some (.bool (a < b))) ∧
  (∀ (k : IntKind) (a b : Int), binI .leq k a b = some (.bool (a ≤ b))) ∧
  (∀ (k : IntKind) (a b : Int), binI .gtr k a b = some (.bool (a > b))) ∧
  (∀ (k : IntKind) (a b : Int), binI .geq k a b = some (.bool (a ≥ b))) ∧
  (∀ (k : IntKind) (a b : Int), binI .eql k a b = some (.bool (a == b))) ∧
  (∀ (k : IntKind) (a b : Int), binI .neq k a b = some (.bool (a != b))) ∧
  (∀ (x y : List UInt8), binS .add x y = if x.length + y.length ≤ 9223372036854775807 then some (.str (x ++ y)) else none) ∧
  (∀ (x y : List UInt8), binS .eql x y = some (.bool (x == y))) ∧
  (∀ (x y : List UInt8), binS .neq x y = some (.bool (!(x == y)))) ∧
  (∀ (x y : List UInt8), binS .lss x y = some (.bool (Op.bytesLess x y))) ∧
  (∀ (x y : List UInt8), binS .leq x y = some (.bool (Op.bytesLess x y || x == y))) ∧
  (∀ (x y : List UInt8), binS .gtr x y = some (.bool (!(Op.bytesLess x y || x == y)))) ∧
  (∀ (x y : List UInt8), binS .geq x y = some (.bool (!(Op.bytesLess x y)))) ∧
  (∀ (b : Bool), un1 .not (.bool b) = some (.bool !b)) ∧
  (∀ (k : IntKind) (n : Int), un1 .neg (.int k n) = some (.int k (k.wrap (0 - n)))) ∧
  (∀ (k : IntKind) (n : Int), un1 .xor (.int k n) = some (.int k (bitsI .xor k (if k.signed then -1 else k.max) n))) ∧
  (∀ (cs : List AV), AV.cells (.agg cs) = cs) ∧
  (∀ (k : IntKind) (n : Int), AV.cells (.int k n) = [.int k n]) ∧
  (∀ (b : Bool), AV.cells (.bool b) = [.bool b]) ∧
  (∀ (b : List UInt8), AV.cells (.str b) = [.str b]) ∧
  (∀ (a b c d : Nat), AV.cells (.ptr a b c d) = [.ptr a b c d]) ∧
  (∀ (a b c d : Nat) (e : Bool), AV.cells (.row a b c d e) = [.row a b c d e]) ∧
  (∀ (a : Nat) (es : List AV) (c : Cap), AV.cells (.imm a es c) = [.imm a es c]) ∧
  (∀ (a : Nat), AV.cells (.mp a) = [.mp a]) ∧
  (AV.cells .nils = [.nils]) ∧ (AV.cells .nilp = [.nilp]) ∧ (AV.cells .nilm = [.nilm]) ∧
  (∀ (cs : List AV), AV.notTup (.agg cs) = true) ∧
  (∀ (k : IntKind) (n : Int), AV.notTup (.int k n) = true) ∧
  (∀ (b : Bool), AV.notTup (.bool b) = true) ∧
  (∀ (b : List UInt8), AV.notTup (.str b) = true) ∧
  (∀ (a b c d : Nat), AV.notTup (.ptr a b c d) = true) ∧
  (∀ (a b c d : Nat) (e : Bool), AV.notTup (.row a b c d e) = true) ∧
  (∀ (a : Nat) (es : List AV) (c : Cap), AV.notTup (.imm a es c) = true) ∧
  (∀ (a : Nat), AV.notTup (.mp a) = true) ∧
  (AV.notTup .nils = true) ∧ (AV.notTup .nilp = true) ∧ (AV.notTup .nilm = true) ∧
  (∀ (r : Regs) (h : Hp), resVs r h [] = some []) ∧
  (∀ (r : Regs) (h : Hp) (x : ARes) (xs : List ARes), resVs r h (x :: xs) = (match resV r h x, resVs r h xs with
    | some v, some vs => some (v :: vs)
    | _, _ => none)) ∧
  (∀ (r : Regs) (h : Hp) (t : Nat), resV r h (.t t) = vl r (.t t)) ∧
  (∀ (r : Regs) (h : Hp) (t : Nat) (agg : Bool) (size : Nat), resV r h (.cell t agg size) = (match plc r (.t t) with
    | some p => rd r h agg size p
    | none => none)) ∧
  (∀ (r : Regs) (h : Hp) (rs : List ARes), result r h rs = (match resVs r h rs with
    | some [v] => some v
    | some vs => some (.tup vs)
    | none => none)) :=
  ⟨fun _ _ => by rfl,
   fun _ _ => by rfl,
   fun _ _ _ _ => by rfl,
   fun _ => by rfl,
   fun _ _ _ _ => by rfl,
   fun _ _ _ _ _ => by rfl,
   fun _ _ _ _ _ _ _ => by rfl,
   fun _ _ => by rfl,
   fun _ _ _ _ => by rfl,
   fun _ => by rfl,
   fun _ _ _ _ _ => by rfl,
   fun _ _ _ _ _ _ => by rfl,
   fun _ _ _ _ _ _ _ _ => by rfl,
   fun _ _ _ => by rfl,
   fun _ _ => by rfl,
   fun _ _ => by rfl,
   fun _ _ _ _ _ => by rfl,
   fun _ _ _ _ => by rfl,
   fun _ _ _ _ _ _ => by rfl,
   fun _ => by rfl,
   fun _ => by rfl,
   fun _ => by rfl,
   fun _ _ => by rfl,
   fun _ _ _ => by rfl,
   fun _ _ _ => by rfl,
   rfl,
   fun _ _ _ => by rfl,
   fun _ _ _ _ _ => by rfl,
   fun k _ _ => by simp [bin],
   fun k _ _ => by simp [bin],
   fun k _ _ => by simp [bin],
   fun k _ _ => by simp [bin],
   fun k _ _ => by simp [bin],
   fun k _ _ => by simp [bin],
   fun k _ _ => by simp [bin],
   fun k _ _ => by simp [bin],
   fun k _ _ => by simp [bin],
   fun k _ _ => by simp [bin],
   fun k _ _ => by simp [bin],
   fun k _ _ => by simp [bin],
   fun k _ _ => by simp [bin],
   fun k _ _ => by simp [bin],
   fun k _ _ => by simp [bin],
   fun _ _ _ _ => by rfl,
   fun _ _ _ _ => by rfl,
   fun _ _ _ => by rfl,
   fun _ _ _ => by rfl,
   fun _ _ _ => by rfl,
   fun _ _ _ => by rfl,
   fun _ _ _ => by rfl,
   fun _ _ _ => by rfl,
   fun _ _ _ => by rfl,
   fun _ _ _ => by rfl,
   fun _ _ _ => by rfl,
   fun _ _ _ => by rfl,
   fun _ _ _ => by rfl,
   fun _ _ _ => by rfl,
   fun _ _ _ => by rfl,
   fun _ _ _ => by rfl,
   fun _ _ _ => by rfl,
   fun _ _ => by rfl,
   fun _ _ => by rfl,
   fun _ _ => by rfl,
   fun _ _ => by rfl,
   fun _ _ => by rfl,
   fun _ _ => by rfl,
   fun _ _ => by rfl,
   fun _ => by rfl,
   fun _ _ => by rfl,
   fun _ _ => by rfl,
   fun _ => by rfl,
   fun _ _ => by rfl,
   fun _ => by rfl,
   fun _ => by rfl,
   fun _ _ _ _ => by rfl,
   fun _ _ _ _ _ => by rfl,
   fun _ _ _ => by rfl,
   fun _ => by rfl,
   rfl,
   rfl,
   rfl,
   fun _ => by rfl,
   fun _ _ => by rfl,
   fun _ => by rfl,
   fun _ => by rfl,
   fun _ _ _ _ => by rfl,
   fun _ _ _ _ _ => by rfl,
   fun _ _ _ => by rfl,
   fun _ => by rfl,
   rfl,
   rfl,
   rfl,
   fun _ _ => by rfl,
   fun _ _ _ _ => by rfl,
   fun _ _ _ => by rfl,
   fun _ _ _ _ _ => by rfl,
   fun _ _ _ => by rfl⟩

end Go.Im

/- ImX4: more rewriting rules: bytes, plain values, nil. -/
set_option linter.unusedVariables false
namespace Go.Im

def intsOf (k : IntKind) (l : List Int) : List AV := l.map (.int k)

theorem toBytes_bytesOf : ∀ (bs : List UInt8), toBytes (bytesOf bs) = some bs
  | [] => rfl
  | b :: bs => by
    have := toBytes_bytesOf bs
    simp only [bytesOf,List.map_cons,toBytes] at this ⊢
    rw [this]
    simp
theorem plains_bytesOf : ∀ (bs : List UInt8), plains (bytesOf bs) = some (bytesOf bs)
  | [] => rfl
  | b :: bs => by
    have := plains_bytesOf bs
    simp only [bytesOf,List.map_cons,plains] at this ⊢
    rw [this]; rfl
theorem plains_map {α : Type} (f : α → AV) (hf : ∀ a, plain (f a) = some (f a)) : ∀ (l : List α), plains (l.map f) = some (l.map f)
  | [] => rfl
  | a :: l => by simp only [List.map_cons,plains,hf,plains_map f hf l]
theorem plain_ints (k : IntKind) (l : List Int) : plains (l.map (AV.int k)) = some (l.map (AV.int k)) := plains_map _ (fun _ => rfl) l
theorem bytesOf_append (a b : List UInt8) : bytesOf (a ++ b) = bytesOf a ++ bytesOf b := by simp [bytesOf]
theorem bytesOf_eq_nil (a : List UInt8) : (bytesOf a = []) = (a = []) := by simp [bytesOf]
theorem bytesOf_take (a : List UInt8) (n : Nat) : (bytesOf a).take n = bytesOf (a.take n) := by simp [bytesOf,List.map_take]
theorem bytesOf_drop (a : List UInt8) (n : Nat) : (bytesOf a).drop n = bytesOf (a.drop n) := by simp [bytesOf,List.map_drop]

theorem xe :
  (∀ (bs : List UInt8), toBytes (bytesOf bs) = some bs) ∧
  (∀ (bs : List UInt8), plains (bytesOf bs) = some (bytesOf bs)) ∧
  (∀ (bs : List UInt8), (bytesOf bs).length = bs.length) ∧
  (∀ (bs : List UInt8), (bytesOf bs = []) = (bs = [])) ∧
  (∀ (a : List UInt8) (n : Nat), (bytesOf a).take n = bytesOf (a.take n)) ∧
  (∀ (a : List UInt8) (n : Nat), (bytesOf a).drop n = bytesOf (a.drop n)) ∧
  (∀ (a b : List UInt8), bytesOf a ++ bytesOf b = bytesOf (a ++ b)) ∧
  (∀ (k : IntKind) (n : Int), plain (.int k n) = some (.int k n)) ∧
  (∀ (b : Bool), plain (.bool b) = some (.bool b)) ∧
  (∀ (s : List UInt8), plain (.str s) = some (.str s)) ∧
  (∀ (cs : List AV), plain (.agg cs) = (plains cs).map .agg) ∧
  (∀ (cs : List AV), plain (.tup cs) = (plains cs).map .tup) ∧
  (∀ (s : Nat) (es : List AV) , plain (.imm s es .no) = (plains es).map fun es => .imm s es .no) ∧
  (∀ (s : Nat) (es : List AV) , plain (.imm s es .full) = (plains es).map fun es => .imm s es .full) ∧
  (∀ (s a b : Nat) (es : List AV) , plain (.imm s es (.tok a b)) = (plains es).map fun es => .imm s es .no) ∧
  (plain .nils = some .nils) ∧ (plain .nilp = some .nilp) ∧ (plain .nilm = some .nilm) ∧
  (plains [] = some []) ∧
  (∀ (v : AV) (vs : List AV), plains (v :: vs) = (match plain v, plains vs with
    | some v, some vs => some (v :: vs)
    | _, _ => none)) ∧
  (∀ (k : IntKind) (l : List Int), plains (intsOf k l) = some (intsOf k l)) ∧
  (∀ (k : IntKind) (l : List Int), (intsOf k l).length = l.length) :=
  ⟨toBytes_bytesOf, plains_bytesOf, bytesOf_len, bytesOf_eq_nil, bytesOf_take, bytesOf_drop, fun a b => (bytesOf_append a b).symm, fun _ _ => rfl, fun _ => rfl, fun _ => rfl, fun _ => rfl, fun _ => rfl, fun _ _ => rfl, fun _ _ => rfl, fun _ _ _ _ => rfl, rfl, rfl, rfl, rfl, fun _ _ => rfl, plain_ints, fun _ _ => by simp [intsOf]⟩

theorem xb :
  ((true == true) = true) ∧ ((true == false) = false) ∧ ((false == true) = false) ∧ ((false == false) = true) ∧
  (∀ (s : Nat) (es : List AV) (c : Cap), AV.isRow (.imm s es c) = false) ∧ (AV.isRow .nils = false) ∧ (∀ (a b c d : Nat) (e : Bool), AV.isRow (.row a b c d e) = true) ∧
  (∀ (h : Hp) (sz : Nat), elems h sz .nils = some []) ∧
  (∀ (h : Hp) (sz s : Nat) (es : List AV) (c : Cap), elems h sz (.imm s es c) = if s = sz then some es else none) ∧
  (∀ (h : Hp) (sz id s off n : Nat) (c : Bool), elems h sz (.row id s off n c) = (match h[id]? with
    | some (.row s' es) => if s = sz ∧ s' = sz ∧ off + n ≤ es.length then some ((es.drop off).take n) else none
    | _ => none)) :=
  ⟨rfl, rfl, rfl, rfl, fun _ _ _ => rfl, rfl, fun _ _ _ _ _ => rfl, fun _ _ => rfl, fun _ _ _ _ _ => rfl, fun _ _ _ _ _ _ _ => rfl⟩

theorem kont_call {F : Fns} {n : Nat} {tot : Bool} {ω : Nat → Nat} : (kont F n tot ω).call = call F n tot ω := rfl
theorem kont_round {F : Fns} {n : Nat} {tot : Bool} {ω : Nat → Nat} : (kont F n tot ω).round = round F n tot ω := rfl
theorem kont_code {F : Fns} {n : Nat} {tot : Bool} {ω : Nat → Nat} {f : FuncId} {x : AF} (h : F f = some (.inl x)) : (kont F n tot ω).code f = true := by simp only [kont,h]
theorem kont_pure {F : Fns} {n : Nat} {tot : Bool} {ω : Nat → Nat} {f : FuncId} {vs : List AV} : (kont F n tot ω).pure f vs = (call F n false (fun _ => 0) f vs []).map (·.1) := rfl

theorem wrap_u32 {x : Int} (h1 : 0 ≤ x) (h2 : x ≤ 4294967295) : IntKind.u32.wrap x = x := by
  simp [IntKind.wrap,IntKind.signed,IntKind.bits]
  omega
theorem wrap_u8 {x : Int} (h1 : 0 ≤ x) (h2 : x ≤ 255) : IntKind.u8.wrap x = x := by
  simp [IntKind.wrap,IntKind.signed,IntKind.bits]
  omega
theorem wrap_u64 {x : Int} (h1 : 0 ≤ x) (h2 : x ≤ 18446744073709551615) : IntKind.u64.wrap x = x := by
  simp [IntKind.wrap,IntKind.signed,IntKind.bits]
  omega
theorem wrap_u32_mod (x : Int) : IntKind.u32.wrap x = x % 4294967296 := by
  simp [IntKind.wrap,IntKind.signed,IntKind.bits]
theorem tmod_pos {x m : Int} (h : 0 ≤ x) : x.tmod m = x % m := Int.tmod_eq_emod_of_nonneg h
theorem tdiv_pos {x m : Int} (h : 0 ≤ x) : x.tdiv m = x / m := Int.tdiv_eq_ediv_of_nonneg h

end Go.Im

/- ImDefs: an idealised machine ('Im') for the model's code: values with slices as lists, local variables kept in registers, a heap of rows, maps and iterators. Definitions alone. -/
import GoSem.Dispatch
namespace Go.Im

inductive Cap where
  | full | no | tok (id e : Nat)
  deriving DecidableEq

inductive AV where
  | bool (b : Bool) | int (k : IntKind) (n : Int) | str (s : List UInt8)
  | agg (cs : List AV) | tup (vs : List AV)
  | nilp | ptr (id size i off : Nat) | iptr (v : AV)
  | nils | imm (size : Nat) (es : List AV) (c : Cap) | row (id size off n : Nat) (clip : Bool)
  | nilm | mp (id : Nat)
  | nilf | fn (f : Fn) (first captured : List AV)
  | nili | ifc (t : TypeId) (v : AV)
  | yld (id : Nat)

instance : Inhabited AV := ⟨.tup []⟩

mutual
def eqv : AV → AV → Bool
  | .bool a, .bool b => a == b
  | .int k a, .int j b => k == j && a == b
  | .str a, .str b => a == b
  | .agg a, .agg b => eqvs a b
  | .tup a, .tup b => eqvs a b
  | .nilp, .nilp => true
  | .ptr a b c d, .ptr a' b' c' d' => a == a' && b == b' && c == c' && d == d'
  | .iptr a, .iptr b => eqv a b
  | .nils, .nils => true
  | .imm s es c, .imm s' es' c' => s == s' && eqvs es es' && decide (c = c')
  | .row a b c d e, .row a' b' c' d' e' => a == a' && b == b' && c == c' && d == d' && e == e'
  | .nilm, .nilm => true
  | .mp a, .mp b => a == b
  | .nilf, .nilf => true
  | .fn f a c, .fn f' a' c' => f == f' && eqvs a a' && eqvs c c'
  | .nili, .nili => true
  | .ifc t v, .ifc t' v' => t == t' && eqv v v'
  | .yld a, .yld b => a == b
  | _, _ => false
def eqvs : List AV → List AV → Bool
  | [], [] => true
  | a :: as, b :: bs => eqv a b && eqvs as bs
  | _, _ => false
end

mutual
theorem eqv_eq : ∀ (a b : AV), eqv a b = true → a = b
  | .bool a, b, h => by cases b <;> simp_all [eqv]
  | .int k a, b, h => by cases b <;> simp_all [eqv]
  | .str a, b, h => by cases b <;> simp_all [eqv]
  | .agg a, b, h => by
    cases b <;> simp only [eqv,Bool.false_eq_true] at h
    rw [eqvs_eq a _ h]
  | .tup a, b, h => by
    cases b <;> simp only [eqv,Bool.false_eq_true] at h
    rw [eqvs_eq a _ h]
  | .nilp, b, h => by cases b <;> simp_all [eqv]
  | .ptr _ _ _ _, b, h => by cases b <;> simp_all [eqv]
  | .iptr a, b, h => by
    cases b <;> simp only [eqv,Bool.false_eq_true] at h
    rw [eqv_eq a _ h]
  | .nils, b, h => by cases b <;> simp_all [eqv]
  | .imm s es c, b, h => by
    cases b <;> simp only [eqv,Bool.false_eq_true,Bool.and_eq_true,beq_iff_eq,decide_eq_true_eq] at h
    obtain ⟨⟨rfl, h2⟩, rfl⟩ := h
    rw [eqvs_eq es _ h2]
  | .row .., b, h => by cases b <;> simp_all [eqv]
  | .nilm, b, h => by cases b <;> simp_all [eqv]
  | .mp _, b, h => by cases b <;> simp_all [eqv]
  | .nilf, b, h => by cases b <;> simp_all [eqv]
  | .fn f a c, b, h => by
    cases b <;> simp only [eqv,Bool.false_eq_true,Bool.and_eq_true,beq_iff_eq] at h
    obtain ⟨⟨rfl, h2⟩, h3⟩ := h
    rw [eqvs_eq a _ h2, eqvs_eq c _ h3]
  | .nili, b, h => by cases b <;> simp_all [eqv]
  | .ifc t v, b, h => by
    cases b <;> simp only [eqv,Bool.false_eq_true,Bool.and_eq_true,beq_iff_eq] at h
    obtain ⟨rfl, h2⟩ := h
    rw [eqv_eq v _ h2]
  | .yld _, b, h => by cases b <;> simp_all [eqv]
theorem eqvs_eq : ∀ (a b : List AV), eqvs a b = true → a = b
  | [], b, h => by cases b <;> simp_all [eqvs]
  | a :: as, b, h => by
    cases b <;> simp only [eqvs,Bool.false_eq_true,Bool.and_eq_true] at h
    rw [eqv_eq a _ h.1, eqvs_eq as _ h.2]
end

mutual
theorem eqv_refl : ∀ (a : AV), eqv a a = true
  | .bool a => by simp [eqv]
  | .int k a => by simp [eqv]
  | .str a => by simp [eqv]
  | .agg a => by simp [eqv,eqvs_refl a]
  | .tup a => by simp [eqv,eqvs_refl a]
  | .nilp => rfl
  | .ptr _ _ _ _ => by simp [eqv]
  | .iptr a => by simp [eqv,eqv_refl a]
  | .nils => rfl
  | .imm s es c => by simp [eqv,eqvs_refl es]
  | .row .. => by simp [eqv]
  | .nilm => rfl
  | .mp _ => by simp [eqv]
  | .nilf => rfl
  | .fn f a c => by simp [eqv,eqvs_refl a,eqvs_refl c]
  | .nili => rfl
  | .ifc t v => by simp [eqv,eqv_refl v]
  | .yld _ => by simp [eqv]
theorem eqvs_refl : ∀ (a : List AV), eqvs a a = true
  | [] => rfl
  | a :: as => by simp [eqvs,eqv_refl a,eqvs_refl as]
end

theorem eqv_iff (a b : AV) : eqv a b = true ↔ a = b := ⟨eqv_eq a b, fun h => h ▸ eqv_refl a⟩
theorem eqvs_iff (a b : List AV) : eqvs a b = true ↔ a = b := ⟨eqvs_eq a b, fun h => h ▸ eqvs_refl a⟩

instance : DecidableEq AV := fun a b => decidable_of_iff _ (eqv_iff a b)

def AV.cells : AV → List AV
  | .agg cs => cs
  | v => [v]

def AV.one : AV → Bool
  | .agg _ | .tup _ => false
  | _ => true

def AV.isRow : AV → Bool
  | .row .. => true
  | _ => false

def AV.notTup : AV → Bool
  | .tup _ => false
  | _ => true

def sub (v : AV) (off size : Nat) (agg : Bool) : Option AV :=
  match v with
  | .agg cs => if agg then (if off + size ≤ cs.length then some (.agg ((cs.drop off).take size)) else none) else cs[off]?
  | v => if agg then none else if off = 0 then some v else none

def upd (v : AV) (off : Nat) (u : AV) : Option AV :=
  match v, u with
  | .agg cs, .agg us => if off + us.length ≤ cs.length then some (.agg (cs.take off ++ (us ++ cs.drop (off + us.length)))) else none
  | .agg cs, u => if off < cs.length then some (.agg (cs.set off u)) else none
  | _, .agg _ => none
  | _, u => if off = 0 then some u else none

inductive Reg where
  | un | val (v : AV) | var (v : AV) | adr (t off : Nat) | slc (t off n es : Nat) | hslc (id size i off n es : Nat)

abbrev Regs := List (Nat × Reg)

def get : Regs → Nat → Reg
  | [], _ => .un
  | (u, x) :: r, t => if u = t then x else get r t

def put : Regs → Nat → Reg → Regs
  | [], t, x => [(t, x)]
  | (u, y) :: r, t, x => if t < u then (t, x) :: (u, y) :: r else if t = u then (t, x) :: r else (u, y) :: put r t x

def Reg.onto (t : Nat) : Reg → Bool
  | .adr u _ | .slc u _ _ _ => u == t
  | _ => false

def Reg.stays : Reg → Bool
  | .val _ | .var _ => true
  | _ => false

def noAdr (t : Nat) (r : Regs) : Regs := r.filter fun x => !x.2.onto t

def settle (ks : List Nat) (r : Regs) : Regs := r.filter fun x => x.2.stays && ks.contains x.1

inductive AX where
  | t (n : Nat) | c (v : AV)
  deriving DecidableEq

def vl (r : Regs) : AX → Option AV
  | .t n => match get r n with | .val v => some v | _ => none
  | .c v => some v

inductive Pl where
  | loc (t off : Nat) | hp (id size i off : Nat) | im (v : AV)

def plV : AV → Option Pl
  | .ptr id s i o => some (.hp id s i o)
  | .iptr v => some (.im v)
  | _ => none

def plc (r : Regs) : AX → Option Pl
  | .t n => match get r n with
    | .val v => plV v
    | .var _ => some (.loc n 0)
    | .adr t o => match get r t with
      | .var _ => some (.loc t o)
      | _ => none
    | _ => none
  | .c v => plV v

def Pl.sub : Pl → (off size : Nat) → Bool → Option Pl
  | .loc t o, off, _, _ => some (.loc t (o + off))
  | .hp id s i o, off, _, _ => some (.hp id s i (o + off))
  | .im v, off, size, agg => (Im.sub v off size agg).map .im

def Pl.reg : Pl → Reg
  | .loc t o => .adr t o
  | .hp id s i o => .val (.ptr id s i o)
  | .im v => .val (.iptr v)

def bytesOf (s : List UInt8) : List AV := s.map fun b => .int .u8 b.toNat
def toBytes : List AV → Option (List UInt8)
  | [] => some []
  | .int .u8 n :: r => (toBytes r).map (UInt8.ofNat n.toNat :: ·)
  | _ => none

inductive CK where
  | b | i | s
  deriving DecidableEq

def eqS : CK → AV → AV → Option Bool
  | .b, .bool a, .bool b => some (a == b)
  | .i, .int k a, .int k' b => if k = k' then some (a == b) else none
  | .s, .str a, .str b => some (a == b)
  | _, _, _ => none

def eqCells : List CK → List AV → List AV → Option Bool
  | [], [], [] => some true
  | k :: ks, a :: as, b :: bs => match eqS k a b, eqCells ks as bs with
    | some x, some y => some (x && y)
    | _, _ => none
  | _, _, _ => none

def eqAV (agg : Bool) (ks : List CK) : AV → AV → Option Bool
  | .agg as, .agg bs => if agg then eqCells ks as bs else none
  | a, b => if agg then none else (match ks with | [k] => eqS k a b | _ => none)

inductive NK where
  | p | s | m | f
  deriving DecidableEq

def isNil : NK → AV → Option Bool
  | .p, .nilp | .s, .nils | .m, .nilm | .f, .nilf => some true
  | .p, .ptr .. | .p, .iptr _ | .s, .imm .. | .s, .row .. | .m, .mp _ | .f, .fn .. => some false
  | _, _ => none

def bitsI (op : BinOp) (k : IntKind) (x y : Int) : Int :=
  let a := BitVec.ofInt k.bits x
  let b := BitVec.ofInt k.bits y
  k.wrap (match op with
    | .and => a &&& b
    | .or => a ||| b
    | .xor => a ^^^ b
    | _ => a &&& ~~~b).toNat

def binI (op : BinOp) (k : IntKind) (a b : Int) : Option AV :=
  match op with
  | .add => some (.int k (k.wrap (a + b)))
  | .sub => some (.int k (k.wrap (a - b)))
  | .mul => some (.int k (k.wrap (a * b)))
  | .quo => if b = 0 then none else some (.int k (k.wrap (a.tdiv b)))
  | .rem => if b = 0 then none else some (.int k (a.tmod b))
  | .and | .or | .xor | .andNot => some (.int k (bitsI op k a b))
  | .lss => some (.bool (a < b))
  | .leq => some (.bool (a ≤ b))
  | .gtr => some (.bool (a > b))
  | .geq => some (.bool (a ≥ b))
  | .eql => some (.bool (a == b))
  | .neq => some (.bool (a != b))
  | _ => none

def binS (op : BinOp) (x y : List UInt8) : Option AV :=
  match op with
  | .add => if x.length + y.length ≤ 9223372036854775807 then some (.str (x ++ y)) else none
  | .eql => some (.bool (x == y))
  | .neq => some (.bool (!(x == y)))
  | .lss => some (.bool (Op.bytesLess x y))
  | .leq => some (.bool (Op.bytesLess x y || x == y))
  | .gtr => some (.bool (!(Op.bytesLess x y || x == y)))
  | .geq => some (.bool (!(Op.bytesLess x y)))
  | _ => none

def bin (op : BinOp) : AV → AV → Option AV
  | .int k a, .int k' b => match op with
    | .shl => if b < 0 then none else some (.int k (k.wrap (a * 2 ^ (min b.toNat k.bits))))
    | .shr => if b < 0 then none else some (.int k (a.fdiv (2 ^ (min b.toNat k.bits))))
    | op => if k = k' then binI op k a b else none
  | .str a, .str b => binS op a b
  | _, _ => none

def un1 (op : UnOp) : AV → Option AV
  | .int k n => match op with
    | .neg => some (.int k (k.wrap (0 - n)))
    | .xor => some (.int k (bitsI .xor k (if k.signed then -1 else k.max) n))
    | _ => none
  | .bool b => match op with
    | .not => some (.bool !b)
    | _ => none
  | _ => none

inductive AOp where
  | mov (x : AX) | pick (c a b : AX)
  | allocL (z : AV) | boxL (size : Nat) (x : AX)
  | allocH (size : Nat) (z : AV) | boxH (size : Nat) (x : AX)
  | load (agg : Bool) (size : Nat) (a : AX) | loadL (agg : Bool) (size : Nat) (a : AX)
  | store (size : Nat) (a x : AX)
  | fieldA (off size : Nat) (agg : Bool) (x : AX)
  | indexA (len esize : Nat) (agg : Bool) (x ix : AX)
  | indexS (esize : Nat) (x ix : AX)
  | field (off size : Nat) (agg : Bool) (x : AX)
  | indexV (len esize : Nat) (agg : Bool) (x ix : AX)
  | indexStr (x ix : AX)
  | bin (op : BinOp) (x y : AX) | eql (neg agg : Bool) (ks : List CK) (x y : AX) | eqNil (neg : Bool) (k : NK) (x : AX) | un (op : UnOp) (x : AX)
  | convI (k : IntKind) (x : AX) | convStr (x : AX) | bytesToStr (x : AX) | strToBytes (row : Bool) (x : AX) | convB (x : AX)
  | nilCheck (x : AX)
  | mkFunc (fn : Fn) (first captured : List AX)
  | extract (x : AX) (i : Nat)
  | lit (zero : List AV) (parts : List (Nat × Nat × AX))
  | litS (row : Bool) (esize : Nat) (zero : AV) (len : Nat) (parts : List (Nat × AX))
  | mkSlice (row : Bool) (esize bytes : Nat) (zero : AV) (l c : AX)
  | slice (sz : Option Nat) (x : AX) (lo hi mx : Option AX) | sliceA (len esize : Nat) (x : AX) (lo hi : Option AX) | sliceX (sz : Nat) (x lo hi : AX)
  | append (g row : Bool) (esize bytes : Nat) (s x : AX) | copy (esize : Nat) (d s : AX)
  | lenS (x : AX) | lenStr (x : AX) | lenM (x : AX) | mm (isMin : Bool) (x y : AX)
  | mkMap | lookup (agg : Bool) (ks : List CK) (zero : AV) (ok : Bool) (m k : AX) | mapUpd (agg : Bool) (ks : List CK) (m k x : AX) | mapEnt (agg : Bool) (ks : List CK) (zero : AV) (m k : AX) | entSto (m s x : AX)
  | del (agg : Bool) (ks : List CK) (m k : AX) | clearM (x : AX) | clearS (zero : AV) (x : AX)
  | range (x : AX) | next (it : AX) | entry (it : AX)
  | call (f : FuncId) (args : List AX) | callP (f : FuncId) (args : List AX) | callV (x : AX) (args : List AX)
  deriving DecidableEq

structure AOper where
  dst : Option Nat
  op : AOp
  guard : Option (Nat × Bool)
  deriving DecidableEq

inductive AC where
  | skip | ret | exit (id : Nat)
  | seq (a b : AC) | cond (c : AX) (a b : AC) | block (id : Nat) (b : AC) | loop (b : AC)
  | region (ord : List Nat) (ops : List AOper) (kill : List Nat)
  | regionA (ords : List (List Nat)) (ops : List AOper) (kill : List Nat)
  | rangeF (x : AX) (ps : List Nat) (hd bd : AC)
  deriving DecidableEq

inductive AE where
  | normal | exit (id : Nat) | ret
  deriving DecidableEq

inductive AO where
  | row (size : Nat) (es : List AV)
  | map (es : List (AV × AV × Nat)) (clock : Nat)
  | iter (m : Option Nat) (since : Nat) (seen : List Nat) (stepped : Nat)
  | tail (size e : Nat)
  | dead
  | loop (r : Regs) (ps : List Nat) (hd bd : AC) (st : Nat) (pd : Option AE)

abbrev Hp := List AO

def rd (r : Regs) (h : Hp) (agg : Bool) (size : Nat) : Pl → Option AV
  | .loc t o => match get r t with | .var v => sub v o size agg | _ => none
  | .hp id s i o => match h[id]? with
    | some (.row s' es) => if s' = s then (match es[i]? with | some v => sub v o size agg | none => none) else none
    | _ => none
  | .im v => sub v 0 size agg

def elems (h : Hp) (sz : Nat) : AV → Option (List AV)
  | .nils => some []
  | .imm s es _ => if s = sz then some es else none
  | .row id s off n _ => match h[id]? with
    | some (.row s' es) => if s = sz ∧ s' = sz ∧ off + n ≤ es.length then some ((es.drop off).take n) else none
    | _ => none
  | _ => none

end Go.Im

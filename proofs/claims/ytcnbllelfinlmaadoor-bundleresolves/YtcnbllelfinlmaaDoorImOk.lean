/- ImOk: which of the idealised machine's operations stands for which of the model's. Definitions alone. -/
import Derived.Test.YtcnbllelfinlmaaDoorImConv
set_option linter.unusedVariables false
namespace Go.Im

structure GTab where
  g : Nat → Option AV
  cd : Nat → AC → Code → Prop

instance : Coe GTab (Nat → Option AV) := ⟨GTab.g⟩

def sames : List AV → List AV → Bool
  | [], [] => true
  | .int k a :: as, .int j b :: bs => k == j && a == b && sames as bs
  | .str s :: as, .str t :: bs => s == t && sames as bs
  | _, _ => false

def same1 : AV → AV → Bool
  | .bool a, .bool b => a == b
  | .int k a, .int j b => k == j && a == b
  | .str s, .str t => s == t
  | .nilp, .nilp | .nils, .nils | .nilm, .nilm | .nilf, .nilf | .nili, .nili => true
  | .imm s es .no, .imm t fs .no => s == t && sames es fs
  | .imm s es .full, .imm t fs .full => s == t && sames es fs
  | _, _ => false

def same1s : List AV → List AV → Bool
  | [], [] => true
  | a :: as, b :: bs => same1 a b && same1s as bs
  | _, _ => false

def same2 : AV → AV → Bool
  | .agg as, .agg bs => same1s as bs
  | a, b => same1 a b

def one1 : AV → Value → Bool
  | .bool a, .bool b => a == b
  | .int k a, .int j b => k == j && a == b
  | .str s, .string t => t.data.toList == s
  | .nilp, .pointer none | .nils, .slice none 0 0 | .nilm, .map none | .nilf, .nilFunc | .nili, .nilIface => true
  | .fn (.func f) [] [], .func (.func g) as cs => f == g && as.isEmpty && cs.isEmpty
  | _, _ => false

def one1s : List AV → List Value → Bool
  | [], [] => true
  | a :: as, b :: bs => one1 a b && one1s as bs
  | _, _ => false

def relC : AV → Value → Bool
  | .agg as, .agg bs => one1s as bs.toList
  | .tup [], .tuple bs => bs.isEmpty
  | a, b => one1 a b

section
variable (P : Program) (GT : Nat → Option AV)

def okX : AX → Operand → Bool
  | .t n, .tmp m => n == m
  | .c v, .const u => relC v u
  | .c (.fn (.func f) [] []), .func g => f == g
  | .c (.iptr v), .global g => match GT g with
    | some v' => same2 v' v
    | none => false
  | _, _ => false

def okO : Option AX → Option Operand → Bool
  | none, none => true
  | some x, some y => okX GT x y
  | _, _ => false

def okXs : List AX → List Operand → Bool
  | [], [] => true
  | x :: xs, y :: ys => okX GT x y && okXs xs ys
  | _, _ => false

def isStr (t : TypeId) : Bool := match P.underlying t with
  | some .string => true
  | _ => false

def isInt (t : TypeId) (k : IntKind) : Bool := match P.underlying t with
  | some (.int j) => j == k
  | _ => false

def okSz (t : TypeId) (n : Nat) : Bool := match P.info? t with
  | some i => i.size == n
  | none => false

def okTy (t : TypeId) (agg : Bool) (n : Nat) : Bool := okSz P t n && match P.underlying t with
  | some d => aggD d == agg
  | none => false

def okZ (t : TypeId) (z : AV) (n : Nat) : Bool := match P.info? t with
  | some i => i.size == n && z.notTup && z.cells.length == n && match i.zero with
    | some u => relC z u
    | none => false
  | none => false

def okKs (t : TypeId) (agg : Bool) (ks : List CK) : Bool := (match P.underlying t with
  | some d => aggD d == agg
  | none => false) && kinds P 10000 t == some ks

def okParts (pl : Nat → Option (Nat × Nat)) : List (Nat × Nat × AX) → List (Nat × Operand) → Bool
  | [], [] => true
  | (o, s, x) :: xs, (i, y) :: ys => pl i == some (o, s) && okX GT x y && okParts pl xs ys
  | _, _ => false

def okPartsE : List (Nat × AX) → List (Nat × Operand) → Bool
  | [], [] => true
  | (o, x) :: xs, (i, y) :: ys => o == i && okX GT x y && okPartsE xs ys
  | _, _ => false

def okNil : NK → TypeDesc → Operand → Bool
  | .p, .pointer _, .const (.pointer none) | .s, .slice _, .const (.slice none _ _) | .m, .map _ _, .const (.map none) | .f, .func _ _ _, .const .nilFunc => true
  | _, _, _ => false

def okApp (t xt : TypeId) (size bytes : Nat) : Bool := match P.underlying t, P.underlying xt with
  | some (.slice e), some d => (match d with | .int _ => false | _ => true) && 0 < bytes && 0 < size && (match P.info? e with
    | some i => i.size == size && i.bytes == bytes && (match i.zero with
      | some zv => zv.cells.size == size
      | none => false)
    | none => false)
  | _, _ => false

def okFn (f : FuncId) : Bool := match P.funcs[f]? with
  | some fn => fn.body.isSome && !(fn.name == "runtime.NumGoroutine")
  | none => false

def okCall (c : Call) : AOp → Bool
  | .callV x xs => match c.callee with
    | .value y => okX GT x y && okXs GT xs c.args.toList
    | _ => false
  | .call f xs | .callP f xs => match c.callee with
    | .value (.func g) => f == g && okXs GT xs c.args.toList
    | _ => false
  | .append g row size bytes x xz => match c.callee, c.args.toList, c.argTypes.toList with
    | .builtin .append, [y, z], [t, xt] => okX GT x y && okX GT xz z && okApp P t xt size bytes
    | _, _, _ => false
  | .copy size x xz => match c.callee, c.args.toList, c.argTypes.toList with
    | .builtin .copy, [y, z], [t, _] => okX GT x y && okX GT xz z && (match P.underlying t with
      | some (.slice e) => (match P.info? e with | some i => i.size == size | none => false)
      | _ => false)
    | _, _, _ => false
  | .lenS x => match c.callee, c.args.toList, c.argTypes.toList with
    | .builtin .len, [y], [t] => okX GT x y && (match P.underlying t with | some (.slice _) => true | _ => false)
    | _, _, _ => false
  | .lenStr x => match c.callee, c.args.toList, c.argTypes.toList with
    | .builtin .len, [y], [t] => okX GT x y && (match P.underlying t with | some .string => true | _ => false)
    | _, _, _ => false
  | .lenM x => match c.callee, c.args.toList, c.argTypes.toList with
    | .builtin .len, [y], [t] => okX GT x y && (match P.underlying t with | some (.map _ _) => true | _ => false)
    | _, _, _ => false
  | .mm mn x xz => match c.callee, c.args.toList with
    | .builtin b, [y, z] => b == (if mn then .min else .max) && okX GT x y && okX GT xz z
    | _, _ => false
  | .del agg ks x xk => match c.callee, c.args.toList, c.argTypes.toList with
    | .builtin .delete, [y, yk], [t, _] => okX GT x y && okX GT xk yk && (match P.underlying t with
      | some (.map kt _) => okKs P kt agg ks
      | _ => false)
    | _, _, _ => false
  | .clearM x => match c.callee, c.args.toList, c.argTypes.toList with
    | .builtin .clear, [y], [t] => okX GT x y && (match P.underlying t with | some (.map _ _) => true | _ => false)
    | _, _, _ => false
  | .clearS z x => match c.callee, c.args.toList, c.argTypes.toList with
    | .builtin .clear, [y], [t] => okX GT x y && (match P.underlying t with
      | some (.slice e) => okZ P e z z.cells.length
      | _ => false)
    | _, _, _ => false
  | _ => false

def okOp : Op → AOp → Bool
  | .move y, .mov x | .assign y, .mov x => okX GT x y
  | .pick yc ya yb, .pick xc xa xb => okX GT xc yc && okX GT xa ya && okX GT xb yb
  | .alloc t, .allocL z => okZ P t z z.cells.length
  | .alloc t, .allocH s z => okZ P t z s
  | .box t y, .boxL s x => okX GT x y
  | .box t y, .boxH s x => okX GT x y
  | .load t y, .load agg s x => okX GT x y && okTy P t agg s
  | .load t y, .loadL agg s x => okX GT x y && okTy P t agg s
  | .store t ya yv, .store s xa xv => okX GT xa ya && okX GT xv yv && okSz P t s
  | .fieldAddr t y f, .fieldA off s agg x => okX GT x y && (match P.underlying t with
    | some (.struct fs) => (match fs[f]? with
      | some fd => fd.offset == off && okSz P fd.type s && s != 0
      | none => false)
    | _ => false)
  | .field t y f, .field off s agg x => okX GT x y && (match P.underlying t with
    | some (.struct fs) => (match fs[f]? with
      | some fd => fd.offset == off && okTy P fd.type agg s
      | none => false)
    | _ => false)
  | .indexAddr t y yi, .indexA len s agg x xi => okX GT x y && okX GT xi yi && (match P.underlying t with
    | some (.array l e) => l == len && okSz P e s
    | _ => false)
  | .indexAddr t y yi, .indexS s x xi => okX GT x y && okX GT xi yi && (match P.underlying t with
    | some (.slice e) => okSz P e s
    | _ => false)
  | .index t y yi, .indexV len s agg x xi => okX GT x y && okX GT xi yi && (match P.underlying t with
    | some (.array l e) => l == len && okTy P e agg s
    | _ => false)
  | .index t y yi, .indexStr x xi => okX GT x y && okX GT xi yi && (match P.underlying t with
    | some .string => true
    | _ => false)
  | .binOp op t y z _, .bin op' x xz => op == op' && okX GT x y && okX GT xz z
  | .binOp op t y z _, .eql neg agg ks x xz => op == (if neg then .neq else .eql) && okX GT x y && okX GT xz z && okKs P t agg ks && (if agg then !P.eqGuardType P.depth t else ks == [.b])
  | .binOp op t y z _, .eqNil neg k x => op == (if neg then .neq else .eql) && okX GT x y && (match P.underlying t with
    | some d => okNil k d z
    | none => false)
  | .unOp op t y, .un op' x => op == op' && okX GT x y
  | .convert t t' y, .convI k x => okX GT x y && (P.underlying t).isSome && isInt P t' k
  | .convert t t' y, .convStr x => okX GT x y && (P.underlying t).isSome && isStr P t'
  | .convert t t' y, .bytesToStr x => okX GT x y && isStr P t' && (match P.underlying t with
    | some (.slice e) => isInt P e .u8
    | _ => false)
  | .convert t t' y, .strToBytes _ x => okX GT x y && (P.underlying t).isSome && (match P.underlying t' with
    | some (.slice e) => isInt P e .u8
    | _ => false)
  | .convert t t' y, .convB x => okX GT x y && t == t' && (match P.underlying t with
    | some (.slice e) => isInt P e .u8
    | _ => false)
  | .nilCheck y, .nilCheck x => okX GT x y
  | .makeFunc f ya yc, .mkFunc f' xa xc => f == f' && okXs GT xa ya.toList && okXs GT xc yc.toList
  | .extract y i, .extract x j => okX GT x y && i == j
  | .build t ys, .lit zs xs => (match P.info? t with
    | some i => (match i.zero with
      | some u => relC (.agg zs) u
      | none => false)
    | none => false) && (match P.underlying t with
    | some (.array _ e) => (match P.info? e with
      | some i => okParts GT (fun k => some (k * i.size, i.size)) xs ys.toList
      | none => false)
    | some (.struct fs) => (match fs.toList.mapM (fun f => (P.info? f.type).map fun i => (f.offset, i.size)) with
      | some places => okParts GT (fun k => places[k]?) xs ys.toList
      | none => false)
    | _ => false)
  | .buildSlice t len ys, .litS _ s z l xs => l == len && 0 < s && decide (len * s ≤ 16777216) && okPartsE GT xs ys.toList && (match P.underlying t with
    | some (.slice e) => okZ P e z s
    | _ => false)
  | .makeSlice t yl yc, .mkSlice _ s bytes z xl xc => okX GT xl yl && okX GT xc yc && 0 < s && 0 < bytes && (match P.underlying t with
    | some (.slice e) => okZ P e z s && (match P.info? e with
      | some i => i.bytes == bytes
      | none => false)
    | _ => false)
  | .slice t y lo hi mx, .slice none x xlo xhi xmx => okX GT x y && okO GT xlo lo && okO GT xhi hi && okO GT xmx mx && isStr P t
  | .slice t y lo hi mx, .slice (some s) x xlo xhi xmx => okX GT x y && okO GT xlo lo && okO GT xhi hi && okO GT xmx mx && (match P.underlying t with
    | some (.slice e) => okSz P e s
    | _ => false)
  | .slice t y lo hi none, .sliceA len s x xlo xhi => okX GT x y && okO GT xlo lo && okO GT xhi hi && (match P.underlying t with
    | some (.array l e) => l == len && okSz P e s
    | _ => false)
  | .slice t y (some lo) (some hi) none, .sliceX s x xlo xhi => okX GT x y && okX GT xlo lo && okX GT xhi hi && (match P.underlying t with
    | some (.slice e) => okSz P e s
    | _ => false)
  | .makeMap _ none, .mkMap => true
  | .lookup t y yk ok, .lookup agg ks zero ok' x xk => ok == ok' && okX GT x y && okX GT xk yk && (match P.underlying t with
    | some (.map kt et) => okKs P kt agg ks && okZ P et zero zero.cells.length
    | _ => false)
  | .mapUpdate t y yk yv, .mapUpd agg ks x xk xv | .insert t y yk yv, .mapUpd agg ks x xk xv => okX GT x y && okX GT xk yk && okX GT xv yv && (match P.underlying t with
    | some (.map kt et) => okKs P kt agg ks
    | _ => false)
  | .mapEntry t y yk, .mapEnt agg ks zero x xk => okX GT x y && okX GT xk yk && (match P.underlying t with
    | some (.map kt et) => okKs P kt agg ks && okZ P et zero zero.cells.length
    | _ => false)
  | .entryStore t y ys yv, .entSto x xs xv => okX GT x y && okX GT xs ys && okX GT xv yv
  | .range t y, .range x => okX GT x y && (match P.underlying t with
    | some (.map _ _) => true
    | _ => false)
  | .next y false, .next x => okX GT x y
  | .entry y, .entry x => okX GT x y
  | .call c, x => okCall P GT c x
  | _, _ => false
end
end Go.Im

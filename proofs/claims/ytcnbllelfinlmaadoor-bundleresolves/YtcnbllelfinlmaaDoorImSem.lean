/- ImSem: what the idealised machine does. Definitions alone. -/
import Derived.Test.YtcnbllelfinlmaaDoorImBeq
namespace Go.Im

def vls (r : Regs) : List AX → Option (List AV)
  | [] => some []
  | x :: xs => match vl r x, vls r xs with
    | some v, some vs => some (v :: vs)
    | _, _ => none

def selems (r : Regs) (h : Hp) (sz : Nat) : AX → Option (List AV)
  | .t n => match get r n with
    | .val v => elems h sz v
    | .slc t off n es => match get r t with
      | .var (.agg cs) => if es = 1 ∧ sz = 1 ∧ off + n ≤ cs.length then some ((cs.drop off).take n) else none
      | _ => none
    | .hslc id s i off n es => match h[id]? with
      | some (.row s' vs) => match vs[i]? with
        | some (.agg cs) => if s' = s ∧ es = 1 ∧ sz = 1 ∧ off + n ≤ cs.length then some ((cs.drop off).take n) else none
        | _ => none
      | _ => none
    | _ => none
  | .c v => elems h sz v

def place (zero : List AV) : List (Nat × Nat × AV) → Option (List AV)
  | [] => some zero
  | (off, size, v) :: ps =>
    if v.notTup ∧ v.cells.length = size ∧ off + size ≤ zero.length then place (zero.take off ++ (v.cells ++ zero.drop (off + size))) ps else none

def partVals (r : Regs) : List (Nat × Nat × AX) → Option (List (Nat × Nat × AV))
  | [] => some []
  | (o, s, x) :: ps => match vl r x, partVals r ps with
    | some v, some vs => some ((o, s, v) :: vs)
    | _, _ => none

def placeEs (es : List AV) (size : Nat) : List (Nat × AV) → Option (List AV)
  | [] => some es
  | (i, v) :: ps => if v.notTup ∧ v.cells.length = size ∧ i < es.length then placeEs (es.set i v) size ps else none

def partEs (r : Regs) : List (Nat × AX) → Option (List (Nat × AV))
  | [] => some []
  | (i, x) :: ps => match vl r x, partEs r ps with
    | some v, some vs => some ((i, v) :: vs)
    | _, _ => none

def iv (r : Regs) (x : AX) : Option Int := match vl r x with | some (.int _ n) => some n | _ => none

def ivo (r : Regs) (d : Int) : Option AX → Option Int
  | none => some d
  | some x => iv r x

def sliceV (v : AV) (lo : Int) (hi mx : Option Int) : Option AV :=
  match v with
  | .str s => if mx = none ∧ 0 ≤ lo ∧ lo ≤ hi.getD s.length ∧ hi.getD s.length ≤ s.length then some (.str ((s.take (hi.getD s.length).toNat).drop lo.toNat)) else none
  | .nils => if 0 = lo ∧ hi.getD 0 = 0 ∧ mx.getD 0 = 0 then some .nils else none
  | .imm size es c => if 0 ≤ lo ∧ lo ≤ hi.getD es.length ∧ hi.getD es.length ≤ es.length then
      (match mx with
      | none => some (.imm size ((es.take (hi.getD es.length).toNat).drop lo.toNat) (if hi.getD es.length = es.length then c else .no))
      | some m => if m = hi.getD es.length then some (.imm size ((es.take (hi.getD es.length).toNat).drop lo.toNat) .full) else none)
    else none
  | .row id size off n clip => if 0 ≤ lo ∧ lo ≤ hi.getD n ∧ hi.getD n ≤ n then
      (match mx with
      | none => if clip ∧ hi.getD n ≠ n then none else some (.row id size (off + lo.toNat) ((hi.getD n).toNat - lo.toNat) clip)
      | some m => if m = hi.getD n then some (.row id size (off + lo.toNat) ((hi.getD n).toNat - lo.toNat) true) else none)
    else none
  | _ => none

def slOk : Option Nat → AV → Bool
  | none, .str _ | some _, .nils => true
  | some z, .imm s _ _ | some z, .row _ s _ _ _ => s == z
  | _, _ => false

def lenSl : AV → Option Nat
  | .nils => some 0
  | .imm _ es _ => some es.length
  | .row _ _ _ n _ => some n
  | _ => none

def findK (agg : Bool) (ks : List CK) (k : AV) : List (AV × AV × Nat) → Nat → Option (Option (Nat × AV))
  | [], _ => some none
  | (k', v, _) :: es, i => match eqAV agg ks k k' with
    | some true => some (some (i, v))
    | some false => findK agg ks k es (i + 1)
    | none => none

def keyCells : List CK → List AV → Bool
  | [], [] => true
  | .b :: ks, .bool _ :: as | .i :: ks, .int _ _ :: as | .s :: ks, .str _ :: as => keyCells ks as
  | _, _ => false

def keyOk (agg : Bool) (ks : List CK) : AV → Bool
  | .agg cs => agg && keyCells ks cs
  | v => !agg && keyCells ks [v]

def mapOf (h : Hp) : AV → Option (List (AV × AV × Nat))
  | .nilm => some []
  | .mp id => match h[id]? with
    | some (.map es _) => some es
    | _ => none
  | _ => none

def evalV (r : Regs) (h : Hp) : AOp → Option Reg
  | .mov x => (vl r x).map .val
  | .pick c a b => match vl r c with
    | some (.bool c) => (vl r (if c then a else b)).map .val
    | _ => none
  | .allocL z => some (.var z)
  | .boxL s x => match vl r x with
    | some v => if v.notTup ∧ v.cells.length = s then some (.var v) else none
    | none => none
  | .load agg s a => match plc r a with
    | some p => (rd r h agg s p).map .val
    | none => none
  | .loadL agg s a => match plc r a with
    | some (.loc t o) => (rd r h agg s (.loc t o)).map .val
    | _ => none
  | .fieldA off s agg x => match plc r x with
    | some p => (p.sub off s agg).map Pl.reg
    | none => none
  | .indexA len es agg x ix => match plc r x, iv r ix with
    | some p, some i => if 0 ≤ i ∧ i < len then (p.sub (i.toNat * es) es agg).map Pl.reg else none
    | _, _ => none
  | .indexS esz x ix => match vl r x, iv r ix with
    | some (.imm s es _), some i => if s = esz ∧ 0 ≤ i then (es[i.toNat]?).map fun v => .val (.iptr v) else none
    | some (.row id s off n _), some i => if s = esz ∧ 0 ≤ i ∧ i < n then some (.val (.ptr id s (off + i.toNat) 0)) else none
    | _, _ => none
  | .field off s agg x => match vl r x with
    | some (.agg cs) => (sub (.agg cs) off s agg).map .val
    | _ => none
  | .indexV len es agg x ix => match vl r x, iv r ix with
    | some (.agg cs), some i => if 0 ≤ i ∧ i < len then (sub (.agg cs) (i.toNat * es) es agg).map .val else none
    | _, _ => none
  | .indexStr x ix => match vl r x, iv r ix with
    | some (.str s), some i => if 0 ≤ i then (s[i.toNat]?).map fun b => .val (.int .u8 b.toNat) else none
    | _, _ => none
  | .bin op x y => match vl r x, vl r y with
    | some a, some b => (Im.bin op a b).map .val
    | _, _ => none
  | .eql neg agg ks x y => match vl r x, vl r y with
    | some a, some b => (eqAV agg ks a b).map fun e => .val (.bool (e != neg))
    | _, _ => none
  | .eqNil neg k x => match vl r x with
    | some a => (isNil k a).map fun e => .val (.bool (e != neg))
    | _ => none
  | .un op x => match vl r x with
    | some a => (un1 op a).map .val
    | none => none
  | .convI k x => match vl r x with
    | some (.int _ n) => some (.val (.int k (k.wrap n)))
    | _ => none
  | .convStr x => match vl r x with
    | some (.str s) => some (.val (.str s))
    | _ => none
  | .bytesToStr x => match selems r h 1 x with
    | some es => (toBytes es).map fun s => .val (.str s)
    | none => none
  | .strToBytes false x => match vl r x with
    | some (.str s) => some (.val (.imm 1 (bytesOf s) .no))
    | _ => none
  | .nilCheck x => match vl r x with
    | some (.ptr id s i o) => some (.val (.ptr id s i o))
    | some (.iptr v) => some (.val (.iptr v))
    | some (.fn (.func f) a c) => some (.val (.fn (.func f) a c))
    | _ => none
  | .mkFunc f first captured => match vls r first, vls r captured with
    | some a, some c => some (.val (.fn f a c))
    | _, _ => none
  | .extract x i => match vl r x with
    | some (.tup vs) => (vs[i]?).map .val
    | _ => none
  | .lit zero parts => match partVals r parts with
    | some ps => (place zero ps).map fun cs => .val (.agg cs)
    | none => none
  | .litS false esz zero len parts => match partEs r parts with
    | some ps => (placeEs (List.replicate len zero) esz ps).map fun es => .val (.imm esz es .full)
    | none => none
  | .slice sz x lo hi mx => match vl r x, ivo r 0 lo with
    | some v, some l => if slOk sz v then (match hi, mx with
      | none, none => (sliceV v l none none).map .val
      | some hx, none => match iv r hx with
        | some i => (sliceV v l (some i) none).map .val
        | none => none
      | some hx, some m => match iv r hx, iv r m with
        | some i, some j => if i = j then (sliceV v l (some i) (some j)).map .val else (match lenSl v with
          | some n => if 0 ≤ l ∧ l ≤ i ∧ i ≤ j ∧ j ≤ (n : Int) then some .un else none
          | none => none)
        | _, _ => none
      | none, some _ => none) else none
    | _, _ => none
  | .sliceA len esz x lo hi => match plc r x, ivo r 0 lo, ivo r len hi with
    | some p, some l, some i => if 0 ≤ l ∧ l ≤ i ∧ i ≤ len then
        (match p with
        | .loc t o => some (.slc t (o + l.toNat * esz) (i.toNat - l.toNat) esz)
        | .hp id s k o => some (.hslc id s k (o + l.toNat * esz) (i.toNat - l.toNat) esz)
        | .im (.agg cs) => if esz = 1 ∧ cs.length = len then some (.val (.imm 1 ((cs.take i.toNat).drop l.toNat) .no)) else none
        | _ => none) else none
    | _, _, _ => none
  | .sliceX sz x lo hi => match vl r x, iv r lo, iv r hi with
    | some (.row id s off _ false), some l, some i => match h[id]? with
      | some (.row s' es) => if s = sz ∧ s' = sz ∧ 0 ≤ l ∧ l ≤ i ∧ off + i.toNat ≤ es.length then some (.val (.row id sz (off + l.toNat) (i.toNat - l.toNat) false)) else none
      | _ => none
    | _, _, _ => none
  | .lenS x => match vl r x with
    | some v => (lenSl v).map fun (n : Nat) => Reg.val (.int .i64 (n : Int))
    | none => none
  | .lenStr x => match vl r x with
    | some (.str s) => some (.val (.int .i64 s.length))
    | _ => none
  | .lenM x => match vl r x with
    | some v => (mapOf h v).map fun es => .val (.int .i64 es.length)
    | none => none
  | .mm mn x y => match vl r x, vl r y with
    | some (.int k a), some (.int _ b) => some (.val (.int k (if mn then (if b < a then b else a) else (if b > a then b else a))))
    | some (.str a), some (.str b) => some (.val (.str (if mn then (if Op.bytesLess a b || a == b then a else b) else (if !(Op.bytesLess a b) then a else b))))
    | _, _ => none
  | .lookup agg ks zero ok m k => match vl r m, vl r k with
    | some m, some k => match keyOk agg ks k, mapOf h m with
      | true, some es => match findK agg ks k es 0 with
        | some (some (_, v)) => some (.val (if ok then .tup [v, .bool true] else v))
        | some none => some (.val (if ok then .tup [zero, .bool false] else zero))
        | none => none
      | _, _ => none
    | _, _ => none
  | _ => none

def wr (r : Regs) (h : Hp) (p : Pl) (v : AV) : Option (Regs × Hp) :=
  match p with
  | .loc t o => match get r t with
    | .var x => (upd x o v).map fun y => (put r t (.var y), h)
    | _ => none
  | .hp id s i o => match h[id]? with
    | some (.row s' es) => if s' = s then (match es[i]? with
      | some x => (upd x o v).map fun y => (r, h.set id (.row s (es.set i y)))
      | none => none) else none
    | _ => none
  | .im _ => none

def newRow (row : Bool) (size : Nat) (es : List AV) (h : Hp) : AV × Hp :=
  if row then (.row h.length size 0 es.length false, h ++ [.row size es]) else (.imm size es (.tok h.length es.length), h ++ [.tail size es.length])

def appendV (row : Bool) (size bytes : Nat) (s : AV) (xs : List AV) (h : Hp) : Option (AV × Hp) :=
  if xs = [] then (match s with
    | .nils | .imm .. | .row .. => some (s, h)
    | _ => none)
  else match s with
  | .nils => if xs.length * bytes ≤ 140737488355328 then some (newRow row size xs h) else none
  | .imm sz es c => if sz = size ∧ (es.length + xs.length) * bytes ≤ 140737488355328 then (match c with
      | .full => some (newRow row size (es ++ xs) h)
      | .tok id e => (match h[id]? with
        | some (.tail sz' e') => if sz' = size ∧ e' = e ∧ e = es.length then some (.imm size (es ++ xs) (.tok h.length (e + xs.length)), h.set id .dead ++ [.tail size (e + xs.length)]) else none
        | _ => none)
      | .no => none) else none
  | .row id sz off n clip => match h[id]? with
    | some (.row sz' es) =>
      if sz = size ∧ sz' = size ∧ off + n ≤ es.length ∧ (n + xs.length) * bytes ≤ 140737488355328 then
        (if clip then some (newRow row size ((es.drop off).take n ++ xs) h)
        else if off + n + xs.length ≤ es.length then some (.row id size off (n + xs.length) false, h.set id (.row size (es.take (off + n) ++ (xs ++ es.drop (off + n + xs.length)))))
        else if off = 0 ∧ n = es.length then some (.row h.length size 0 (n + xs.length) false, h.set id .dead ++ [.row size (es ++ xs)])
        else none)
      else none
    | _ => none
  | _ => none

def srcElems (r : Regs) (h : Hp) (sz : Nat) (x : AX) : Option (List AV) :=
  match vl r x with
  | some (.str s) => if sz = 1 then some (bytesOf s) else none
  | _ => selems r h sz x

def copyTo (r : Regs) (h : Hp) (d : AX) (xs : List AV) : Option (Regs × Hp) :=
  match d with
  | .t m => match get r m with
    | .val (.row id s off n _) => match h[id]? with
      | some (.row s' es) => if s' = s ∧ off + n ≤ es.length ∧ xs.length ≤ n ∧ xs.all (fun x => x.cells.length == s) = true then some (r, h.set id (.row s (es.take off ++ (xs ++ es.drop (off + xs.length))))) else none
      | _ => none
    | .slc t off n es => match get r t with
      | .var (.agg cs) => if es = 1 ∧ off + n ≤ cs.length ∧ xs.length ≤ n ∧ xs.all AV.one = true then some (put r t (.var (.agg (cs.take off ++ (xs ++ cs.drop (off + xs.length))))), h) else none
      | _ => none
    | .hslc id s i off n es => match h[id]? with
      | some (.row s' vs) => match vs[i]? with
        | some (.agg cs) => if s' = s ∧ es = 1 ∧ off + n ≤ cs.length ∧ xs.length ≤ n ∧ xs.all AV.one = true then some (r, h.set id (.row s (vs.set i (.agg (cs.take off ++ (xs ++ cs.drop (off + xs.length))))))) else none
        | _ => none
      | _ => none
    | .val _ => if xs = [] then some (r, h) else none
    | _ => none
  | .c _ => if xs = [] then some (r, h) else none

def dlen (r : Regs) (_h : Hp) : AX → Option Nat
  | .t m => match get r m with
    | .val (.row _ _ _ n _) => some n
    | .val .nils => some 0
    | .val (.imm _ es _) => if es = [] then some 0 else none
    | .slc _ _ n _ => some n
    | .hslc _ _ _ _ n _ => some n
    | _ => none
  | .c .nils => some 0
  | .c _ => none

structure Kont where
  call : FuncId → List AV → Hp → Option (AV × Hp)
  pick : Nat → Option Nat
  pure : FuncId → List AV → Option AV
  round : Nat → List AV → Hp → Option (AV × Hp)
  code : FuncId → Bool

mutual
def plain : AV → Option AV
  | .agg cs => (plains cs).map .agg
  | .tup vs => (plains vs).map .tup
  | .iptr v => (plain v).map .iptr
  | .imm s es .full => (plains es).map fun es => .imm s es .full
  | .imm s es _ => (plains es).map fun es => .imm s es .no
  | .fn f a c => match plains a, plains c with
    | some a, some c => some (.fn f a c)
    | _, _ => none
  | .ifc t v => (plain v).map (.ifc t)
  | .ptr .. | .row .. | .mp _ | .yld _ => none
  | v => some v
def plains : List AV → Option (List AV)
  | [] => some []
  | v :: vs => match plain v, plains vs with
    | some v, some vs => some (v :: vs)
    | _, _ => none
end

def cands (es : List (AV × AV × Nat)) (since : Nat) (seen : List Nat) : List (Option (AV × AV × Nat)) :=
  (if ((es.filter fun e => !seen.contains e.2.2).filter fun e => decide (e.2.2 < since)).isEmpty then [none] else []) ++
  (((es.filter fun e => !seen.contains e.2.2).filter fun e => decide (e.2.2 < since)) ++ ((es.filter fun e => !seen.contains e.2.2).filter fun e => decide (e.2.2 ≥ since))).map some

def step (K : Kont) (r : Regs) (h : Hp) : AOp → Option (Reg × Regs × Hp)
  | .allocH s z => some (.val (.ptr h.length s 0 0), r, h ++ [.row s [z]])
  | .boxH s x => match vl r x with
    | some v => if v.notTup ∧ v.cells.length = s then some (.val (.ptr h.length s 0 0), r, h ++ [.row s [v]]) else none
    | none => none
  | .store s a x => match plc r a, vl r x with
    | some p, some v => if v.notTup ∧ v.cells.length = s then (wr r h p v).map fun y => (.un, y) else none
    | _, _ => none
  | .litS true esz zero len parts => match partEs r parts with
    | some ps => (placeEs (List.replicate len zero) esz ps).map fun es => (.val (.row h.length esz 0 es.length false), r, h ++ [.row esz es])
    | none => none
  | .strToBytes true x => match vl r x with
    | some (.str s) => some (.val (.row h.length 1 0 s.length false), r, h ++ [.row 1 (bytesOf s)])
    | _ => none
  | .convB x => match vl r x with
    | some (.row id 1 0 n _) => match h[id]? with
      | some (.row 1 es) => if n = es.length ∧ n ≠ 0 then some (.val (.imm 1 es .no), r, h.set id .dead) else none
      | _ => none
    | _ => none
  | .mkSlice row esz bytes zero l c => match iv r l, iv r c with
    | some l, some c => if 0 ≤ l ∧ l ≤ c ∧ bytes * c ≤ 281474976710656 ∧ c ≤ 9223372036854775807 then
        some (.val (newRow row esz (List.replicate l.toNat zero) h).1, r, (newRow row esz (List.replicate l.toNat zero) h).2) else none
    | _, _ => none
  | .append g row esz bytes s x => match vl r s, srcElems r h esz x with
    | some v, some xs => if g && v.isRow then none else (appendV row esz bytes v xs h).map fun y => (.val y.1, r, y.2)
    | _, _ => none
  | .copy esz d s => match dlen r h d, srcElems r h esz s with
    | some n, some xs => (copyTo r h d (xs.take n)).map fun y => (.val (.int .i64 (min xs.length n : Nat)), y)
    | _, _ => none
  | .mkMap => some (.val (.mp h.length), r, h ++ [.map [] 0])
  | .mapUpd agg ks m k x => match vl r m, vl r k, vl r x with
    | some (.mp id), some k, some v => match h[id]?, keyOk agg ks k with
      | some (.map es clock), true => match findK agg ks k es 0 with
        | some (some (i, _)) => some (.un, r, h.set id (.map (es.modify i fun e => (k, v, e.2.2)) clock))
        | some none => some (.un, r, h.set id (.map (es ++ [(k, v, clock)]) (clock + 1)))
        | none => none
      | _, _ => none
    | _, _, _ => none
  | .mapEnt agg ks zero m k => match vl r m, vl r k with
    | some (.mp id), some k => match h[id]?, keyOk agg ks k with
      | some (.map es clock), true => match findK agg ks k es 0 with
        | some (some (i, v)) => match es[i]? with
          | some e => some (.val (.tup [v, .int .i64 e.2.2]), r, h.set id (.map (es.modify i fun e => (k, e.2.1, e.2.2)) clock))
          | none => none
        | some none => some (.val (.tup [zero, .int .i64 clock]), r, h.set id (.map (es ++ [(k, zero, clock)]) (clock + 1)))
        | none => none
      | _, _ => none
    | _, _ => none
  | .entSto m s x => match vl r m, iv r s, vl r x with
    | some (.mp id), some b, some v => match h[id]? with
      | some (.map es clock) => match es.findIdx? (fun e => (e.2.2 : Int) == b) with
        | some i => some (.un, r, h.set id (.map (es.modify i fun e => (e.1, v, e.2.2)) clock))
        | none => none
      | _ => none
    | _, _, _ => none
  | .del agg ks m k => match vl r m, vl r k with
    | some .nilm, some k => if keyOk agg ks k then some (.val (.tup []), r, h) else none
    | some (.mp id), some k => match h[id]?, keyOk agg ks k with
      | some (.map es clock), true => match findK agg ks k es 0 with
        | some (some (i, _)) => some (.val (.tup []), r, h.set id (.map (es.eraseIdx i) clock))
        | some none => some (.val (.tup []), r, h)
        | none => none
      | _, _ => none
    | _, _ => none
  | .clearS zero x => match vl r x with
    | some .nils => some (.val (.tup []), r, h)
    | some (.imm _ es _) => if es = [] then some (.val (.tup []), r, h) else none
    | some (.row id s off n _) => match h[id]? with
      | some (.row s' es) => if s' = s ∧ zero.cells.length = s ∧ off + n ≤ es.length then some (.val (.tup []), r, h.set id (.row s (es.take off ++ (List.replicate n zero ++ es.drop (off + n))))) else none
      | _ => none
    | _ => none
  | .call f args => match vls r args with
    | some vs => (K.call f vs h).map fun y => (.val y.1, r, y.2)
    | none => none
  | .callP f args => match vls r args with
    | some vs => match plains vs with
      | some vs => match K.pure f vs with
        | some v => (plain v).map fun v => (.val v, r, h)
        | none => none
      | none => none
    | none => none
  | .range x => match vl r x with
    | some .nilm => some (.val (.ptr h.length 0 0 0), r, h ++ [.iter none 0 [] 0])
    | some (.mp id) => match h[id]? with
      | some (.map _ clock) => some (.val (.ptr h.length 0 0 0), r, h ++ [.iter (some id) clock [] clock])
      | _ => none
    | _ => none
  | .next it => match vl r it with
    | some (.ptr id 0 0 0) => match h[id]? with
      | some (.iter none _ _ _) => some (.val (.tup [.bool false]), r, h)
      | some (.iter (some m) since seen stepped) => match h[m]? with
        | some (.map es clock) =>
          if (!seen.isEmpty && !es.isEmpty && es.all fun e => decide (e.2.2 ≥ stepped)) = true then none else
          match (K.pick h.length).bind fun t => (cands es since seen)[if (cands es since seen).length ≤ 1 then 0 else t % (cands es since seen).length]? with
          | some (some e) => some (.val (.tup [.bool true, e.1, e.2.1]), r, h.set id (.iter (some m) since (seen ++ [e.2.2]) clock) ++ [.dead])
          | some none => some (.val (.tup [.bool false]), r, h ++ [.dead])
          | none => none
        | _ => none
      | _ => none
    | _ => none
  | .entry it => match vl r it with
    | some (.ptr id 0 0 0) => match h[id]? with
      | some (.iter (some m) _ seen stepped) => match h[m]?, seen.getLast? with
        | some (.map es clock), some b => if clock = stepped then (match es.find? fun e => e.2.2 == b with
          | some e => some (.val (.tup [e.1, e.2.1]), r, h)
          | none => none) else none
        | _, _ => none
      | _ => none
    | _ => none
  | .clearM x => match vl r x with
    | some .nilm => some (.val (.tup []), r, h)
    | some (.mp id) => match h[id]? with
      | some (.map _ clock) => some (.val (.tup []), r, h.set id (.map [] clock))
      | _ => none
    | _ => none
  | .callV x args => match vl r x, vls r args with
    | some (.fn (.func f) first captured), some vs => (K.call f (first ++ vs ++ captured) h).map fun y => (.val y.1, r, y.2)
    | some (.yld id), some vs => (K.round id vs h).map fun y => (.val y.1, r, y.2)
    | _, _ => none
  | op => (evalV r h op).map fun x => (x, r, h)

def Reg.isV : Reg → Bool
  | .var _ => true
  | _ => false

def Reg.isA : Reg → Bool
  | .adr _ _ | .slc .. | .hslc .. => true
  | _ => false

def setD (dst : Option Nat) (x : Reg) (r : Regs) : Option Regs :=
  match dst with
  | none => some r
  | some d => if (get r d).isA || (((get r d).isV || x.isV) && r.any fun p => p.2.onto d) then none else some (put r d x)

def wanted (r : Regs) : Option (Nat × Bool) → Option Bool
  | none => some true
  | some (t, b) => match get r t with
    | .val (.bool c) => some (c == b)
    | .val (.tup []) => some false
    | _ => none

def exec1 (K : Kont) (o : AOper) (r : Regs) (h : Hp) : Option (Regs × Hp) :=
  match wanted r o.guard with
  | some true => match step K r h o.op with
    | some (x, r', h') => (setD o.dst x r').map fun r' => (r', h')
    | none => none
  | some false => (setD o.dst (.val (.tup [])) r).map fun r' => (r', h)
  | none => none

def execs (K : Kont) : List AOper → Regs → Hp → Option (Regs × Hp)
  | [], r, h => some (r, h)
  | o :: os, r, h => match exec1 K o r h with
    | some (r', h') => execs K os r' h'
    | none => none

def inOrd (ops : List AOper) (ord : List Nat) : List AOper := ord.filterMap fun i => ops[i]?

def execA (K : Kont) (ops : List AOper) : List (List Nat) → Regs → Hp → Option (Regs × Hp)
  | [], _, _ => none
  | [o], r, h => execs K (inOrd ops o) r h
  | o :: os, r, h => match execs K (inOrd ops o) r h, execA K ops os r h with
    | some (r1, h1), some (r2, h2) => if eqRegs r1 r2 && eqHp h1 h2 then some (r1, h1) else none
    | _, _ => none

abbrev St := Regs × Hp

def iter (f : St → Option (AE × St)) : Nat → St → Option (AE × St)
  | 0, _ => none
  | n + 1, s => match f s with
    | some (.normal, s') => iter f n s'
    | r => r

def valsOf (r : Regs) : Regs := r.filter fun p => match p.2 with
  | .val _ => true
  | _ => false

def putArgs : Regs → List Nat → List AV → Regs
  | r, p :: ps, v :: vs => putArgs (put r p (.val v)) ps vs
  | r, _, _ => r

def endF (r : Regs) (id : Nat) (h : Hp) : Option (AE × St) :=
  match h[id]? with
  | some (.loop _ _ _ _ st pd) => if st = 1 then none else some (pd.getD .normal, (r, h.set id .dead))
  | _ => none

def exec (K : Kont) (n : Nat) : AC → St → Option (AE × St)
  | .skip, s => some (.normal, s)
  | .ret, s => some (.ret, s)
  | .exit id, s => some (.exit id, s)
  | .seq a b, s => match exec K n a s with
    | some (.normal, s') => exec K n b s'
    | r => r
  | .cond c a b, s => match vl s.1 c with
    | some (.bool true) => exec K n a s
    | some (.bool false) => exec K n b s
    | _ => none
  | .block id b, s => match exec K n b s with
    | some (.exit id', s') => if id' = id then some (.normal, s') else some (.exit id', s')
    | r => r
  | .loop b, s => iter (exec K n b) n s
  | .region _ ops ks, s => match execs K ops s.1 s.2 with
    | some (r, h) => some (.normal, (settle ks r, h))
    | none => none
  | .regionA os ops ks, s => match execA K ops os s.1 s.2 with
    | some (r, h) => some (.normal, (settle ks r, h))
    | none => none
  | .rangeF x ps hd bd, s => match vl s.1 x with
    | some (.fn (.func f) first captured) => if K.code f then (match K.call f (first ++ .yld s.2.length :: captured) (s.2 ++ [.loop (valsOf s.1) ps hd bd 0 none]) with
      | some (_, h) => endF s.1 s.2.length h
      | none => none) else none
    | _ => none

def endR (id : Nat) (e : AE) (h : Hp) : Option (AV × Hp) :=
  match h[id]? with
  | some (.loop r ps hd bd _ _) => some (.bool (decide (e = .normal)), h.set id (.loop r ps hd bd (if e = .normal then 0 else 2) (if e = .normal then none else some e)))
  | _ => none

def beginR (id : Nat) (h : Hp) : Option Hp :=
  match h[id]? with
  | some (.loop r ps hd bd 0 pd) => some (h.set id (.loop r ps hd bd 1 pd))
  | _ => none

def roundK (K : Kont) (n : Nat) (id : Nat) (args : List AV) (h : Hp) : Option (AV × Hp) :=
  match h[id]? with
  | some (.loop r ps hd bd _ _) =>
    if ps.length = args.length then
      match exec K n hd (putArgs r ps args, h) with
      | some (.normal, (r1, h1)) => match beginR id h1 with
        | some h2 => match exec K n bd (r1, h2) with
          | some (e, (_, h3)) => endR id e h3
          | none => none
        | none => none
      | _ => none
    else none
  | _ => none

inductive ARes where
  | t (n : Nat) | cell (t : Nat) (agg : Bool) (size : Nat)

structure AF where
  results : List ARes
  body : AC

def resV (r : Regs) (h : Hp) : ARes → Option AV
  | .t n => vl r (.t n)
  | .cell t agg size => match plc r (.t t) with
    | some p => rd r h agg size p
    | none => none

def resVs (r : Regs) (h : Hp) : List ARes → Option (List AV)
  | [] => some []
  | x :: xs => match resV r h x, resVs r h xs with
    | some v, some vs => some (v :: vs)
    | _, _ => none

def result (r : Regs) (h : Hp) (rs : List ARes) : Option AV :=
  match resVs r h rs with
  | some [v] => some v
  | some vs => some (.tup vs)
  | none => none

def initRegs (k : Nat) : List AV → Regs
  | [] => []
  | v :: vs => (k, .val v) :: initRegs (k + 1) vs

abbrev Fns := FuncId → Option (AF ⊕ (Kont → List AV → Hp → Option (AV × Hp)))

def callR (F : Fns) : Nat → Bool → (Nat → Nat) → FuncId ⊕ Nat → List AV → Hp → Option (AV × Hp)
  | 0, _, _, _, _, _ => none
  | n + 1, tot, ω, t, args, h => match t with
    | .inr id => roundK ⟨fun f => callR F n tot ω (.inl f), fun i => if tot then some (ω i) else none, fun f vs => (callR F n false (fun _ => 0) (.inl f) vs []).map (·.1), fun id => callR F n tot ω (.inr id), fun f => match F f with | some (.inl _) => true | _ => false⟩ n id args h
    | .inl f => match F f with
      | none => none
      | some (.inr g) => g ⟨fun f => callR F n tot ω (.inl f), fun i => if tot then some (ω i) else none, fun f vs => (callR F n false (fun _ => 0) (.inl f) vs []).map (·.1), fun id => callR F n tot ω (.inr id), fun f => match F f with | some (.inl _) => true | _ => false⟩ args h
      | some (.inl fn) => match exec ⟨fun f => callR F n tot ω (.inl f), fun i => if tot then some (ω i) else none, fun f vs => (callR F n false (fun _ => 0) (.inl f) vs []).map (·.1), fun id => callR F n tot ω (.inr id), fun f => match F f with | some (.inl _) => true | _ => false⟩ n fn.body (initRegs 0 args, h) with
        | some (.normal, (r, h')) => (result r h' fn.results).map fun v => (v, h')
        | some (.ret, (r, h')) => (result r h' fn.results).map fun v => (v, h')
        | _ => none

def call (F : Fns) (n : Nat) (tot : Bool) (ω : Nat → Nat) (f : FuncId) : List AV → Hp → Option (AV × Hp) := callR F n tot ω (.inl f)
def round (F : Fns) (n : Nat) (tot : Bool) (ω : Nat → Nat) (id : Nat) : List AV → Hp → Option (AV × Hp) := callR F n tot ω (.inr id)

def kont (F : Fns) (n : Nat) (tot : Bool) (ω : Nat → Nat) : Kont := ⟨call F n tot ω, fun i => if tot then some (ω i) else none, fun f vs => (call F n false (fun _ => 0) f vs []).map (·.1), round F n tot ω, fun f => match F f with | some (.inl _) => true | _ => false⟩

theorem call_zero (F : Fns) (tot : Bool) (ω : Nat → Nat) (f : FuncId) (args : List AV) (h : Hp) : call F 0 tot ω f args h = none := rfl
theorem call_none {F : Fns} {n : Nat} {tot : Bool} {ω : Nat → Nat} {f : FuncId} (hf : F f = none) (args : List AV) (h : Hp) : call F (n + 1) tot ω f args h = none := by
  simp only [call,callR,hf]
theorem call_inr {F : Fns} {n : Nat} {tot : Bool} {ω : Nat → Nat} {f : FuncId} {g : Kont → List AV → Hp → Option (AV × Hp)} (hf : F f = some (.inr g)) (args : List AV) (h : Hp) : call F (n + 1) tot ω f args h = g (kont F n tot ω) args h := by
  simp only [call,callR,hf]; rfl
theorem call_inl {F : Fns} {n : Nat} {tot : Bool} {ω : Nat → Nat} {f : FuncId} {fn : AF} (hf : F f = some (.inl fn)) (args : List AV) (h : Hp) : call F (n + 1) tot ω f args h = match exec (kont F n tot ω) n fn.body (initRegs 0 args, h) with
    | some (.normal, (r, h')) => (result r h' fn.results).map fun v => (v, h')
    | some (.ret, (r, h')) => (result r h' fn.results).map fun v => (v, h')
    | _ => none := by
  simp only [call,callR,hf]; rfl
theorem round_zero (F : Fns) (tot : Bool) (ω : Nat → Nat) (id : Nat) (args : List AV) (h : Hp) : round F 0 tot ω id args h = none := rfl
theorem round_succ (F : Fns) (n : Nat) (tot : Bool) (ω : Nat → Nat) (id : Nat) (args : List AV) (h : Hp) : round F (n + 1) tot ω id args h = roundK (kont F n tot ω) n id args h := rfl

end Go.Im

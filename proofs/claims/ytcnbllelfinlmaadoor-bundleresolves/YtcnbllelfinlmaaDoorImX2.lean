/- ImX2: the steps of the idealised machine as rewriting rules (made by a program out of ImSem). -/
import Derived.Test.YtcnbllelfinlmaaDoorImX
set_option linter.unusedVariables false
namespace Go.Im

def Wv (K : Kont) (o : Option Reg) (d : Option Nat) (r : Regs) (h : Hp) (os : List AOper) (R : Regs → Hp → Prop) : Prop := match o with
  | some x => Ws K d x r h os R
  | none => False
theorem wo_pure' {K : Kont} {d : Option Nat} {os : List AOper} {R : Regs → Hp → Prop} {r : Regs} {h : Hp} {op : AOp} (hp : step K r h op = (evalV r h op).map fun x => (x, r, h)) : Wo K (⟨d, op, none⟩ :: os) r h R = Wv K (evalV r h op) d r h os R := wo_pure hp

theorem x0 :
  (∀ K D Os RR r h x, Wo K (⟨D, .mov x, none⟩ :: Os) r h RR = Wv K (evalV r h (.mov x)) D r h Os RR) ∧
  (∀ r h x, evalV r h (.mov x) = ((vl r x).map .val)) ∧
  (∀ K D Os RR r h c a b, Wo K (⟨D, .pick c a b, none⟩ :: Os) r h RR = Wv K (evalV r h (.pick c a b)) D r h Os RR) ∧
  (∀ r h c a b, evalV r h (.pick c a b) = (match vl r c with
        | some (.bool c) => (vl r (if c then a else b)).map .val
        | _ => none)) ∧
  (∀ K D Os RR r h z, Wo K (⟨D, .allocL z, none⟩ :: Os) r h RR = Wv K (evalV r h (.allocL z)) D r h Os RR) ∧
  (∀ r h z, evalV r h (.allocL z) = (some (.var z))) ∧
  (∀ K D Os RR r h s x, Wo K (⟨D, .boxL s x, none⟩ :: Os) r h RR = Wv K (evalV r h (.boxL s x)) D r h Os RR) ∧
  (∀ r h s x, evalV r h (.boxL s x) = (match vl r x with
        | some v => if v.notTup ∧ v.cells.length = s then some (.var v) else none
        | none => none)) ∧
  (∀ K D Os RR r h agg s a, Wo K (⟨D, .load agg s a, none⟩ :: Os) r h RR = Wv K (evalV r h (.load agg s a)) D r h Os RR) ∧
  (∀ r h agg s a, evalV r h (.load agg s a) = (match plc r a with
        | some p => (rd r h agg s p).map .val
        | none => none)) ∧
  (∀ K D Os RR r h agg s a, Wo K (⟨D, .loadL agg s a, none⟩ :: Os) r h RR = Wv K (evalV r h (.loadL agg s a)) D r h Os RR) ∧
  (∀ r h agg s a, evalV r h (.loadL agg s a) = (match plc r a with
        | some (.loc t o) => (rd r h agg s (.loc t o)).map .val
        | _ => none)) ∧
  (∀ K D Os RR r h off s agg x, Wo K (⟨D, .fieldA off s agg x, none⟩ :: Os) r h RR = Wv K (evalV r h (.fieldA off s agg x)) D r h Os RR) :=
  ⟨fun K D Os RR r h x => wo_pure' (by rfl),
   fun r h x => rfl,
   fun K D Os RR r h c a b => wo_pure' (by rfl),
   fun r h c a b => rfl,
   fun K D Os RR r h z => wo_pure' (by rfl),
   fun r h z => rfl,
   fun K D Os RR r h s x => wo_pure' (by rfl),
   fun r h s x => rfl,
   fun K D Os RR r h agg s a => wo_pure' (by rfl),
   fun r h agg s a => rfl,
   fun K D Os RR r h agg s a => wo_pure' (by rfl),
   fun r h agg s a => rfl,
   fun K D Os RR r h off s agg x => wo_pure' (by rfl)⟩

theorem x1 :
  (∀ r h off s agg x, evalV r h (.fieldA off s agg x) = (match plc r x with
        | some p => (p.sub off s agg).map Pl.reg
        | none => none)) ∧
  (∀ K D Os RR r h len es agg x ix, Wo K (⟨D, .indexA len es agg x ix, none⟩ :: Os) r h RR = Wv K (evalV r h (.indexA len es agg x ix)) D r h Os RR) ∧
  (∀ r h len es agg x ix, evalV r h (.indexA len es agg x ix) = (match plc r x, iv r ix with
        | some p, some i => if 0 ≤ i ∧ i < len then (p.sub (i.toNat * es) es agg).map Pl.reg else none
        | _, _ => none)) ∧
  (∀ K D Os RR r h esz x ix, Wo K (⟨D, .indexS esz x ix, none⟩ :: Os) r h RR = Wv K (evalV r h (.indexS esz x ix)) D r h Os RR) ∧
  (∀ r h esz x ix, evalV r h (.indexS esz x ix) = (match vl r x, iv r ix with
        | some (.imm s es _), some i => if s = esz ∧ 0 ≤ i then (es[i.toNat]?).map fun v => .val (.iptr v) else none
        | some (.row id s off n _), some i => if s = esz ∧ 0 ≤ i ∧ i < n then some (.val (.ptr id s (off + i.toNat) 0)) else none
        | _, _ => none)) ∧
  (∀ K D Os RR r h off s agg x, Wo K (⟨D, .field off s agg x, none⟩ :: Os) r h RR = Wv K (evalV r h (.field off s agg x)) D r h Os RR) ∧
  (∀ r h off s agg x, evalV r h (.field off s agg x) = (match vl r x with
        | some (.agg cs) => (sub (.agg cs) off s agg).map .val
        | _ => none)) ∧
  (∀ K D Os RR r h len es agg x ix, Wo K (⟨D, .indexV len es agg x ix, none⟩ :: Os) r h RR = Wv K (evalV r h (.indexV len es agg x ix)) D r h Os RR) ∧
  (∀ r h len es agg x ix, evalV r h (.indexV len es agg x ix) = (match vl r x, iv r ix with
        | some (.agg cs), some i => if 0 ≤ i ∧ i < len then (sub (.agg cs) (i.toNat * es) es agg).map .val else none
        | _, _ => none)) ∧
  (∀ K D Os RR r h x ix, Wo K (⟨D, .indexStr x ix, none⟩ :: Os) r h RR = Wv K (evalV r h (.indexStr x ix)) D r h Os RR) ∧
  (∀ r h x ix, evalV r h (.indexStr x ix) = (match vl r x, iv r ix with
        | some (.str s), some i => if 0 ≤ i then (s[i.toNat]?).map fun b => .val (.int .u8 b.toNat) else none
        | _, _ => none)) ∧
  (∀ K D Os RR r h op x y, Wo K (⟨D, .bin op x y, none⟩ :: Os) r h RR = Wv K (evalV r h (.bin op x y)) D r h Os RR) ∧
  (∀ r h op x y, evalV r h (.bin op x y) = (match vl r x, vl r y with
        | some a, some b => (Im.bin op a b).map .val
        | _, _ => none)) :=
  ⟨fun r h off s agg x => rfl,
   fun K D Os RR r h len es agg x ix => wo_pure' (by rfl),
   fun r h len es agg x ix => rfl,
   fun K D Os RR r h esz x ix => wo_pure' (by rfl),
   fun r h esz x ix => rfl,
   fun K D Os RR r h off s agg x => wo_pure' (by rfl),
   fun r h off s agg x => rfl,
   fun K D Os RR r h len es agg x ix => wo_pure' (by rfl),
   fun r h len es agg x ix => rfl,
   fun K D Os RR r h x ix => wo_pure' (by rfl),
   fun r h x ix => rfl,
   fun K D Os RR r h op x y => wo_pure' (by rfl),
   fun r h op x y => rfl⟩

theorem x2 :
  (∀ K D Os RR r h neg agg ks x y, Wo K (⟨D, .eql neg agg ks x y, none⟩ :: Os) r h RR = Wv K (evalV r h (.eql neg agg ks x y)) D r h Os RR) ∧
  (∀ r h neg agg ks x y, evalV r h (.eql neg agg ks x y) = (match vl r x, vl r y with
        | some a, some b => (eqAV agg ks a b).map fun e => .val (.bool (e != neg))
        | _, _ => none)) ∧
  (∀ K D Os RR r h neg k x, Wo K (⟨D, .eqNil neg k x, none⟩ :: Os) r h RR = Wv K (evalV r h (.eqNil neg k x)) D r h Os RR) ∧
  (∀ r h neg k x, evalV r h (.eqNil neg k x) = (match vl r x with
        | some a => (isNil k a).map fun e => .val (.bool (e != neg))
        | _ => none)) ∧
  (∀ K D Os RR r h op x, Wo K (⟨D, .un op x, none⟩ :: Os) r h RR = Wv K (evalV r h (.un op x)) D r h Os RR) ∧
  (∀ r h op x, evalV r h (.un op x) = (match vl r x with
        | some a => (un1 op a).map .val
        | none => none)) ∧
  (∀ K D Os RR r h k x, Wo K (⟨D, .convI k x, none⟩ :: Os) r h RR = Wv K (evalV r h (.convI k x)) D r h Os RR) ∧
  (∀ r h k x, evalV r h (.convI k x) = (match vl r x with
        | some (.int _ n) => some (.val (.int k (k.wrap n)))
        | _ => none)) ∧
  (∀ K D Os RR r h x, Wo K (⟨D, .convStr x, none⟩ :: Os) r h RR = Wv K (evalV r h (.convStr x)) D r h Os RR) ∧
  (∀ r h x, evalV r h (.convStr x) = (match vl r x with
        | some (.str s) => some (.val (.str s))
        | _ => none)) ∧
  (∀ K D Os RR r h x, Wo K (⟨D, .bytesToStr x, none⟩ :: Os) r h RR = Wv K (evalV r h (.bytesToStr x)) D r h Os RR) ∧
  (∀ r h x, evalV r h (.bytesToStr x) = (match selems r h 1 x with
        | some es => (toBytes es).map fun s => .val (.str s)
        | none => none)) ∧
  (∀ K D Os RR r h x, Wo K (⟨D, .strToBytes false x, none⟩ :: Os) r h RR = Wv K (evalV r h (.strToBytes false x)) D r h Os RR) :=
  ⟨fun K D Os RR r h neg agg ks x y => wo_pure' (by rfl),
   fun r h neg agg ks x y => rfl,
   fun K D Os RR r h neg k x => wo_pure' (by rfl),
   fun r h neg k x => rfl,
   fun K D Os RR r h op x => wo_pure' (by rfl),
   fun r h op x => rfl,
   fun K D Os RR r h k x => wo_pure' (by rfl),
   fun r h k x => rfl,
   fun K D Os RR r h x => wo_pure' (by rfl),
   fun r h x => rfl,
   fun K D Os RR r h x => wo_pure' (by rfl),
   fun r h x => rfl,
   fun K D Os RR r h x => wo_pure' (by rfl)⟩

theorem x3 :
  (∀ r h x, evalV r h (.strToBytes false x) = (match vl r x with
        | some (.str s) => some (.val (.imm 1 (bytesOf s) .no))
        | _ => none)) ∧
  (∀ K D Os RR r h x, Wo K (⟨D, .nilCheck x, none⟩ :: Os) r h RR = Wv K (evalV r h (.nilCheck x)) D r h Os RR) ∧
  (∀ r h x, evalV r h (.nilCheck x) = (match vl r x with
        | some (.ptr id s i o) => some (.val (.ptr id s i o))
        | some (.iptr v) => some (.val (.iptr v))
        | some (.fn (.func f) a c) => some (.val (.fn (.func f) a c))
        | _ => none)) ∧
  (∀ K D Os RR r h f first captured, Wo K (⟨D, .mkFunc f first captured, none⟩ :: Os) r h RR = Wv K (evalV r h (.mkFunc f first captured)) D r h Os RR) ∧
  (∀ r h f first captured, evalV r h (.mkFunc f first captured) = (match vls r first, vls r captured with
        | some a, some c => some (.val (.fn f a c))
        | _, _ => none)) ∧
  (∀ K D Os RR r h x i, Wo K (⟨D, .extract x i, none⟩ :: Os) r h RR = Wv K (evalV r h (.extract x i)) D r h Os RR) ∧
  (∀ r h x i, evalV r h (.extract x i) = (match vl r x with
        | some (.tup vs) => (vs[i]?).map .val
        | _ => none)) ∧
  (∀ K D Os RR r h zero parts, Wo K (⟨D, .lit zero parts, none⟩ :: Os) r h RR = Wv K (evalV r h (.lit zero parts)) D r h Os RR) ∧
  (∀ r h zero parts, evalV r h (.lit zero parts) = (match partVals r parts with
        | some ps => (place zero ps).map fun cs => .val (.agg cs)
        | none => none)) ∧
  (∀ K D Os RR r h esz zero len parts, Wo K (⟨D, .litS false esz zero len parts, none⟩ :: Os) r h RR = Wv K (evalV r h (.litS false esz zero len parts)) D r h Os RR) ∧
  (∀ r h esz zero len parts, evalV r h (.litS false esz zero len parts) = (match partEs r parts with
        | some ps => (placeEs (List.replicate len zero) esz ps).map fun es => .val (.imm esz es .full)
        | none => none)) ∧
  (∀ K D Os RR r h sz x lo hi mx, Wo K (⟨D, .slice sz x lo hi mx, none⟩ :: Os) r h RR = Wv K (evalV r h (.slice sz x lo hi mx)) D r h Os RR) ∧
  (∀ r h sz x lo hi mx, evalV r h (.slice sz x lo hi mx) = (match vl r x, ivo r 0 lo with
        | some v, some l => if slOk sz v then (match hi, mx with
          | none, none => (sliceV v l none none).map .val
          | some hx, none => match iv r hx with
            | some i => (sliceV v l (some i) none).map .val
            | none => none
          | some hx, some m => match iv r hx, iv r m with
            | some i, some j => if i = j then (sliceV v l (some i) (some j)).map .val else (match lenSl v with
              | some n => if 0 ≤ l ∧ l ≤ i ∧ i ≤ j ∧ j ≤ (n : Int) then some .un else none
              | none => none)
            | _, _ => none
          | none, some _ => none) else none
        | _, _ => none)) :=
  ⟨fun r h x => rfl,
   fun K D Os RR r h x => wo_pure' (by rfl),
   fun r h x => rfl,
   fun K D Os RR r h f first captured => wo_pure' (by rfl),
   fun r h f first captured => rfl,
   fun K D Os RR r h x i => wo_pure' (by rfl),
   fun r h x i => rfl,
   fun K D Os RR r h zero parts => wo_pure' (by rfl),
   fun r h zero parts => rfl,
   fun K D Os RR r h esz zero len parts => wo_pure' (by rfl),
   fun r h esz zero len parts => rfl,
   fun K D Os RR r h sz x lo hi mx => wo_pure' (by rfl),
   fun r h sz x lo hi mx => rfl⟩

theorem x4 :
  (∀ K D Os RR r h len esz x lo hi, Wo K (⟨D, .sliceA len esz x lo hi, none⟩ :: Os) r h RR = Wv K (evalV r h (.sliceA len esz x lo hi)) D r h Os RR) ∧
  (∀ r h len esz x lo hi, evalV r h (.sliceA len esz x lo hi) = (match plc r x, ivo r 0 lo, ivo r len hi with
        | some p, some l, some i => if 0 ≤ l ∧ l ≤ i ∧ i ≤ len then
            (match p with
            | .loc t o => some (.slc t (o + l.toNat * esz) (i.toNat - l.toNat) esz)
            | .hp id s k o => some (.hslc id s k (o + l.toNat * esz) (i.toNat - l.toNat) esz)
            | .im (.agg cs) => if esz = 1 ∧ cs.length = len then some (.val (.imm 1 ((cs.take i.toNat).drop l.toNat) .no)) else none
            | _ => none) else none
        | _, _, _ => none)) ∧
  (∀ K D Os RR r h sz x lo hi, Wo K (⟨D, .sliceX sz x lo hi, none⟩ :: Os) r h RR = Wv K (evalV r h (.sliceX sz x lo hi)) D r h Os RR) ∧
  (∀ r h sz x lo hi, evalV r h (.sliceX sz x lo hi) = (match vl r x, iv r lo, iv r hi with
        | some (.row id s off _ false), some l, some i => match h[id]? with
          | some (.row s' es) => if s = sz ∧ s' = sz ∧ 0 ≤ l ∧ l ≤ i ∧ off + i.toNat ≤ es.length then some (.val (.row id sz (off + l.toNat) (i.toNat - l.toNat) false)) else none
          | _ => none
        | _, _, _ => none)) ∧
  (∀ K D Os RR r h x, Wo K (⟨D, .lenS x, none⟩ :: Os) r h RR = Wv K (evalV r h (.lenS x)) D r h Os RR) ∧
  (∀ r h x, evalV r h (.lenS x) = (match vl r x with
        | some v => (lenSl v).map fun (n : Nat) => Reg.val (.int .i64 (n : Int))
        | none => none)) ∧
  (∀ K D Os RR r h x, Wo K (⟨D, .lenStr x, none⟩ :: Os) r h RR = Wv K (evalV r h (.lenStr x)) D r h Os RR) ∧
  (∀ r h x, evalV r h (.lenStr x) = (match vl r x with
        | some (.str s) => some (.val (.int .i64 s.length))
        | _ => none)) ∧
  (∀ K D Os RR r h x, Wo K (⟨D, .lenM x, none⟩ :: Os) r h RR = Wv K (evalV r h (.lenM x)) D r h Os RR) ∧
  (∀ r h x, evalV r h (.lenM x) = (match vl r x with
        | some v => (mapOf h v).map fun es => .val (.int .i64 es.length)
        | none => none)) ∧
  (∀ K D Os RR r h mn x y, Wo K (⟨D, .mm mn x y, none⟩ :: Os) r h RR = Wv K (evalV r h (.mm mn x y)) D r h Os RR) ∧
  (∀ r h mn x y, evalV r h (.mm mn x y) = (match vl r x, vl r y with
        | some (.int k a), some (.int _ b) => some (.val (.int k (if mn then (if b < a then b else a) else (if b > a then b else a))))
        | some (.str a), some (.str b) => some (.val (.str (if mn then (if Op.bytesLess a b || a == b then a else b) else (if !(Op.bytesLess a b) then a else b))))
        | _, _ => none)) ∧
  (∀ K D Os RR r h agg ks zero ok m k, Wo K (⟨D, .lookup agg ks zero ok m k, none⟩ :: Os) r h RR = Wv K (evalV r h (.lookup agg ks zero ok m k)) D r h Os RR) :=
  ⟨fun K D Os RR r h len esz x lo hi => wo_pure' (by rfl),
   fun r h len esz x lo hi => rfl,
   fun K D Os RR r h sz x lo hi => wo_pure' (by rfl),
   fun r h sz x lo hi => rfl,
   fun K D Os RR r h x => wo_pure' (by rfl),
   fun r h x => rfl,
   fun K D Os RR r h x => wo_pure' (by rfl),
   fun r h x => rfl,
   fun K D Os RR r h x => wo_pure' (by rfl),
   fun r h x => rfl,
   fun K D Os RR r h mn x y => wo_pure' (by rfl),
   fun r h mn x y => rfl,
   fun K D Os RR r h agg ks zero ok m k => wo_pure' (by rfl)⟩

theorem x5 :
  (∀ r h agg ks zero ok m k, evalV r h (.lookup agg ks zero ok m k) = (match vl r m, vl r k with
        | some m, some k => match keyOk agg ks k, mapOf h m with
          | true, some es => match findK agg ks k es 0 with
            | some (some (_, v)) => some (.val (if ok then .tup [v, .bool true] else v))
            | some none => some (.val (if ok then .tup [zero, .bool false] else zero))
            | none => none
          | _, _ => none
        | _, _ => none)) ∧
  (∀ K D Os RR r h s z, Wo K (⟨D, .allocH s z, none⟩ :: Os) r h RR = Wr K (some (.val (.ptr h.length s 0 0), r, h ++ [.row s [z]])) D Os RR) ∧
  (∀ K D Os RR r h s x, Wo K (⟨D, .boxH s x, none⟩ :: Os) r h RR = Wr K (match vl r x with
        | some v => if v.notTup ∧ v.cells.length = s then some (.val (.ptr h.length s 0 0), r, h ++ [.row s [v]]) else none
        | none => none) D Os RR) ∧
  (∀ K D Os RR r h s a x, Wo K (⟨D, .store s a x, none⟩ :: Os) r h RR = Wr K (match plc r a, vl r x with
        | some p, some v => if v.notTup ∧ v.cells.length = s then (wr r h p v).map fun y => (.un, y) else none
        | _, _ => none) D Os RR) ∧
  (∀ K D Os RR r h esz zero len parts, Wo K (⟨D, .litS true esz zero len parts, none⟩ :: Os) r h RR = Wr K (match partEs r parts with
        | some ps => (placeEs (List.replicate len zero) esz ps).map fun es => (.val (.row h.length esz 0 es.length false), r, h ++ [.row esz es])
        | none => none) D Os RR) ∧
  (∀ K D Os RR r h x, Wo K (⟨D, .strToBytes true x, none⟩ :: Os) r h RR = Wr K (match vl r x with
        | some (.str s) => some (.val (.row h.length 1 0 s.length false), r, h ++ [.row 1 (bytesOf s)])
        | _ => none) D Os RR) ∧
  (∀ K D Os RR r h x, Wo K (⟨D, .convB x, none⟩ :: Os) r h RR = Wr K (match vl r x with
        | some (.row id 1 0 n _) => match h[id]? with
          | some (.row 1 es) => if n = es.length ∧ n ≠ 0 then some (.val (.imm 1 es .no), r, h.set id .dead) else none
          | _ => none
        | _ => none) D Os RR) ∧
  (∀ K D Os RR r h row esz bytes zero l c, Wo K (⟨D, .mkSlice row esz bytes zero l c, none⟩ :: Os) r h RR = Wr K (match iv r l, iv r c with
        | some l, some c => if 0 ≤ l ∧ l ≤ c ∧ bytes * c ≤ 281474976710656 ∧ c ≤ 9223372036854775807 then
            some (.val (newRow row esz (List.replicate l.toNat zero) h).1, r, (newRow row esz (List.replicate l.toNat zero) h).2) else none
        | _, _ => none) D Os RR) ∧
  (∀ K D Os RR r h g row esz bytes s x, Wo K (⟨D, .append g row esz bytes s x, none⟩ :: Os) r h RR = Wr K (match vl r s, srcElems r h esz x with
        | some v, some xs => if g && v.isRow then none else (appendV row esz bytes v xs h).map fun y => (.val y.1, r, y.2)
        | _, _ => none) D Os RR) ∧
  (∀ K D Os RR r h esz d s, Wo K (⟨D, .copy esz d s, none⟩ :: Os) r h RR = Wr K (match dlen r h d, srcElems r h esz s with
        | some n, some xs => (copyTo r h d (xs.take n)).map fun y => (.val (.int .i64 (min xs.length n : Nat)), y)
        | _, _ => none) D Os RR) ∧
  (∀ K D Os RR r h, Wo K (⟨D, .mkMap, none⟩ :: Os) r h RR = Wr K (some (.val (.mp h.length), r, h ++ [.map [] 0])) D Os RR) ∧
  (∀ K D Os RR r h agg ks m k x, Wo K (⟨D, .mapUpd agg ks m k x, none⟩ :: Os) r h RR = Wr K (match vl r m, vl r k, vl r x with
        | some (.mp id), some k, some v => match h[id]?, keyOk agg ks k with
          | some (.map es clock), true => match findK agg ks k es 0 with
            | some (some (i, _)) => some (.un, r, h.set id (.map (es.modify i fun e => (k, v, e.2.2)) clock))
            | some none => some (.un, r, h.set id (.map (es ++ [(k, v, clock)]) (clock + 1)))
            | none => none
          | _, _ => none
        | _, _, _ => none) D Os RR) ∧
  (∀ K D Os RR r h agg ks zero m k, Wo K (⟨D, .mapEnt agg ks zero m k, none⟩ :: Os) r h RR = Wr K (match vl r m, vl r k with
        | some (.mp id), some k => match h[id]?, keyOk agg ks k with
          | some (.map es clock), true => match findK agg ks k es 0 with
            | some (some (i, v)) => match es[i]? with
              | some e => some (.val (.tup [v, .int .i64 e.2.2]), r, h.set id (.map (es.modify i fun e => (k, e.2.1, e.2.2)) clock))
              | none => none
            | some none => some (.val (.tup [zero, .int .i64 clock]), r, h.set id (.map (es ++ [(k, zero, clock)]) (clock + 1)))
            | none => none
          | _, _ => none
        | _, _ => none) D Os RR) :=
  ⟨fun r h agg ks zero ok m k => rfl,
   fun K D Os RR r h s z => wo_heap rfl,
   fun K D Os RR r h s x => wo_heap rfl,
   fun K D Os RR r h s a x => wo_heap rfl,
   fun K D Os RR r h esz zero len parts => wo_heap rfl,
   fun K D Os RR r h x => wo_heap rfl,
   fun K D Os RR r h x => wo_heap rfl,
   fun K D Os RR r h row esz bytes zero l c => wo_heap rfl,
   fun K D Os RR r h g row esz bytes s x => wo_heap rfl,
   fun K D Os RR r h esz d s => wo_heap rfl,
   fun K D Os RR r h => wo_heap rfl,
   fun K D Os RR r h agg ks m k x => wo_heap rfl,
   fun K D Os RR r h agg ks zero m k => wo_heap rfl⟩

theorem x6 :
  (∀ K D Os RR r h m s x, Wo K (⟨D, .entSto m s x, none⟩ :: Os) r h RR = Wr K (match vl r m, iv r s, vl r x with
        | some (.mp id), some b, some v => match h[id]? with
          | some (.map es clock) => match es.findIdx? (fun e => (e.2.2 : Int) == b) with
            | some i => some (.un, r, h.set id (.map (es.modify i fun e => (e.1, v, e.2.2)) clock))
            | none => none
          | _ => none
        | _, _, _ => none) D Os RR) ∧
  (∀ K D Os RR r h agg ks m k, Wo K (⟨D, .del agg ks m k, none⟩ :: Os) r h RR = Wr K (match vl r m, vl r k with
        | some .nilm, some k => if keyOk agg ks k then some (.val (.tup []), r, h) else none
        | some (.mp id), some k => match h[id]?, keyOk agg ks k with
          | some (.map es clock), true => match findK agg ks k es 0 with
            | some (some (i, _)) => some (.val (.tup []), r, h.set id (.map (es.eraseIdx i) clock))
            | some none => some (.val (.tup []), r, h)
            | none => none
          | _, _ => none
        | _, _ => none) D Os RR) ∧
  (∀ K D Os RR r h zero x, Wo K (⟨D, .clearS zero x, none⟩ :: Os) r h RR = Wr K (match vl r x with
        | some .nils => some (.val (.tup []), r, h)
        | some (.imm _ es _) => if es = [] then some (.val (.tup []), r, h) else none
        | some (.row id s off n _) => match h[id]? with
          | some (.row s' es) => if s' = s ∧ zero.cells.length = s ∧ off + n ≤ es.length then some (.val (.tup []), r, h.set id (.row s (es.take off ++ (List.replicate n zero ++ es.drop (off + n))))) else none
          | _ => none
        | _ => none) D Os RR) ∧
  (∀ K D Os RR r h x, Wo K (⟨D, .range x, none⟩ :: Os) r h RR = Wr K (match vl r x with
        | some .nilm => some (.val (.ptr h.length 0 0 0), r, h ++ [.iter none 0 [] 0])
        | some (.mp id) => match h[id]? with
          | some (.map _ clock) => some (.val (.ptr h.length 0 0 0), r, h ++ [.iter (some id) clock [] clock])
          | _ => none
        | _ => none) D Os RR) ∧
  (∀ K D Os RR r h it, Wo K (⟨D, .next it, none⟩ :: Os) r h RR = Wr K (match vl r it with
        | some (.ptr id 0 0 0) => match h[id]? with
          | some (.iter none _ _ _) => some (.val (.tup [.bool false]), r, h)
          | some (.iter (some m) since seen stepped) => match h[m]? with
            | some (.map es clock) =>
              if (!seen.isEmpty && !es.isEmpty && es.all fun e => decide (e.2.2 ≥ stepped)) = true then none else
              match (K.pick h.length).bind fun t => (cands es since seen)[if (cands es since seen).length ≤ 1 then 0 else t % (cands es since seen).length]? with
              | some (some e) => some (.val (.tup [.bool true, e.1, e.2.1]), r, h.set id (.iter (some m) since (seen ++ [e.2.2]) clock) ++ [.dead])
              | some none => some (.val (.tup [.bool false]), r, h ++ [.dead])
              | none => none
            | _ => none
          | _ => none
        | _ => none) D Os RR) ∧
  (∀ K D Os RR r h it, Wo K (⟨D, .entry it, none⟩ :: Os) r h RR = Wr K (match vl r it with
        | some (.ptr id 0 0 0) => match h[id]? with
          | some (.iter (some m) _ seen stepped) => match h[m]?, seen.getLast? with
            | some (.map es clock), some b => if clock = stepped then (match es.find? fun e => e.2.2 == b with
              | some e => some (.val (.tup [e.1, e.2.1]), r, h)
              | none => none) else none
            | _, _ => none
          | _ => none
        | _ => none) D Os RR) ∧
  (∀ K D Os RR r h x, Wo K (⟨D, .clearM x, none⟩ :: Os) r h RR = Wr K (match vl r x with
        | some .nilm => some (.val (.tup []), r, h)
        | some (.mp id) => match h[id]? with
          | some (.map _ clock) => some (.val (.tup []), r, h.set id (.map [] clock))
          | _ => none
        | _ => none) D Os RR) :=
  ⟨fun K D Os RR r h m s x => wo_heap rfl,
   fun K D Os RR r h agg ks m k => wo_heap rfl,
   fun K D Os RR r h zero x => wo_heap rfl,
   fun K D Os RR r h x => wo_heap rfl,
   fun K D Os RR r h it => wo_heap rfl,
   fun K D Os RR r h it => wo_heap rfl,
   fun K D Os RR r h x => wo_heap rfl⟩

end Go.Im

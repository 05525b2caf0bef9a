/- ImX4: more rewriting rules: bytes, plain values, nil. -/
import Derived.Test.YtabpndekmpjmhaaImX3
set_option linter.unusedVariables false
namespace Go.Im

def intsOf (k : IntKind) (l : List Int) : List AV := l.map (.int k)

theorem toBytes_bytesOf : ∀ (bs : List UInt8), toBytes (bytesOf bs) = some bs
  | [] => rfl
  | b :: bs => by
    have := toBytes_bytesOf bs
    simp only [bytesOf,List.map_cons,toBytes] at this ⊢
    rw [this]
    simp
theorem plains_bytesOf : ∀ (bs : List UInt8), plains (bytesOf bs) = some (bytesOf bs)
  | [] => rfl
  | b :: bs => by
    have := plains_bytesOf bs
    simp only [bytesOf,List.map_cons,plains] at this ⊢
    rw [this]; rfl
theorem plains_map {α : Type} (f : α → AV) (hf : ∀ a, plain (f a) = some (f a)) : ∀ (l : List α), plains (l.map f) = some (l.map f)
  | [] => rfl
  | a :: l => by simp only [List.map_cons,plains,hf,plains_map f hf l]
theorem plain_ints (k : IntKind) (l : List Int) : plains (l.map (AV.int k)) = some (l.map (AV.int k)) := plains_map _ (fun _ => rfl) l
theorem plain_nest {α : Type} (f : α → AV) (hf : ∀ a, plain (f a) = some (f a)) (s : Nat) (l : List α) : plain (.imm s (l.map f) .no) = some (.imm s (l.map f) .no) := by
  simp only [plain,plains_map f hf]; rfl
theorem bytesOf_append (a b : List UInt8) : bytesOf (a ++ b) = bytesOf a ++ bytesOf b := by simp [bytesOf]
theorem bytesOf_nil : bytesOf [] = [] := rfl
theorem bytesOf_eq_nil (a : List UInt8) : (bytesOf a = []) = (a = []) := by simp [bytesOf]
theorem bytesOf_get? (bs : List UInt8) (i : Nat) : (bytesOf bs)[i]? = (bs[i]?).map fun b => .int .u8 (b.toNat : Nat) := by simp [bytesOf]
theorem bytesOf_get {bs : List UInt8} {i : Nat} (hi : i < bs.length) : (bytesOf bs)[i]? = some (.int .u8 (bs[i].toNat : Nat)) := by
  simp [bytesOf,hi]
theorem bytesOf_take (a : List UInt8) (n : Nat) : (bytesOf a).take n = bytesOf (a.take n) := by simp [bytesOf,List.map_take]
theorem bytesOf_drop (a : List UInt8) (n : Nat) : (bytesOf a).drop n = bytesOf (a.drop n) := by simp [bytesOf,List.map_drop]

theorem xe :
  (∀ (bs : List UInt8), toBytes (bytesOf bs) = some bs) ∧
  (∀ (bs : List UInt8), plains (bytesOf bs) = some (bytesOf bs)) ∧
  (∀ (bs : List UInt8), (bytesOf bs).length = bs.length) ∧
  (∀ (bs : List UInt8), (bytesOf bs = []) = (bs = [])) ∧
  (∀ (a : List UInt8) (n : Nat), (bytesOf a).take n = bytesOf (a.take n)) ∧
  (∀ (a : List UInt8) (n : Nat), (bytesOf a).drop n = bytesOf (a.drop n)) ∧
  (∀ (a b : List UInt8), bytesOf a ++ bytesOf b = bytesOf (a ++ b)) ∧
  (∀ (k : IntKind) (n : Int), plain (.int k n) = some (.int k n)) ∧
  (∀ (b : Bool), plain (.bool b) = some (.bool b)) ∧
  (∀ (s : List UInt8), plain (.str s) = some (.str s)) ∧
  (∀ (cs : List AV), plain (.agg cs) = (plains cs).map .agg) ∧
  (∀ (cs : List AV), plain (.tup cs) = (plains cs).map .tup) ∧
  (∀ (s : Nat) (es : List AV) , plain (.imm s es .no) = (plains es).map fun es => .imm s es .no) ∧
  (∀ (s : Nat) (es : List AV) , plain (.imm s es .full) = (plains es).map fun es => .imm s es .full) ∧
  (∀ (s a b : Nat) (es : List AV) , plain (.imm s es (.tok a b)) = (plains es).map fun es => .imm s es .no) ∧
  (plain .nils = some .nils) ∧ (plain .nilp = some .nilp) ∧ (plain .nilm = some .nilm) ∧
  (plains [] = some []) ∧
  (∀ (v : AV) (vs : List AV), plains (v :: vs) = (match plain v, plains vs with
    | some v, some vs => some (v :: vs)
    | _, _ => none)) ∧
  (∀ (k : IntKind) (l : List Int), plains (intsOf k l) = some (intsOf k l)) ∧
  (∀ (k : IntKind) (l : List Int), (intsOf k l).length = l.length) :=
  ⟨toBytes_bytesOf, plains_bytesOf, bytesOf_len, bytesOf_eq_nil, bytesOf_take, bytesOf_drop, fun a b => (bytesOf_append a b).symm, fun _ _ => rfl, fun _ => rfl, fun _ => rfl, fun _ => rfl, fun _ => rfl, fun _ _ => rfl, fun _ _ => rfl, fun _ _ _ _ => rfl, rfl, rfl, rfl, rfl, fun _ _ => rfl, plain_ints, fun _ _ => by simp [intsOf]⟩

theorem xb :
  ((true == true) = true) ∧ ((true == false) = false) ∧ ((false == true) = false) ∧ ((false == false) = true) ∧
  (∀ (s : Nat) (es : List AV) (c : Cap), AV.isRow (.imm s es c) = false) ∧ (AV.isRow .nils = false) ∧ (∀ (a b c d : Nat) (e : Bool), AV.isRow (.row a b c d e) = true) ∧
  (∀ (h : Hp) (sz : Nat), elems h sz .nils = some []) ∧
  (∀ (h : Hp) (sz s : Nat) (es : List AV) (c : Cap), elems h sz (.imm s es c) = if s = sz then some es else none) ∧
  (∀ (h : Hp) (sz id s off n : Nat) (c : Bool), elems h sz (.row id s off n c) = (match h[id]? with
    | some (.row s' es) => if s = sz ∧ s' = sz ∧ off + n ≤ es.length then some ((es.drop off).take n) else none
    | _ => none)) :=
  ⟨rfl, rfl, rfl, rfl, fun _ _ _ => rfl, rfl, fun _ _ _ _ _ => rfl, fun _ _ => rfl, fun _ _ _ _ _ => rfl, fun _ _ _ _ _ _ _ => rfl⟩

theorem intsOf_get {k : IntKind} {l : List Int} {i : Nat} (hi : i < l.length) : (intsOf k l)[i]? = some (.int k l[i]) := by
  simp [intsOf,hi]
theorem kont_call {F : Fns} {n : Nat} {tot : Bool} {ω : Nat → Nat} : (kont F n tot ω).call = call F n tot ω := rfl
theorem kont_round {F : Fns} {n : Nat} {tot : Bool} {ω : Nat → Nat} : (kont F n tot ω).round = round F n tot ω := rfl
theorem kont_code {F : Fns} {n : Nat} {tot : Bool} {ω : Nat → Nat} {f : FuncId} {x : AF} (h : F f = some (.inl x)) : (kont F n tot ω).code f = true := by simp only [kont,h]
theorem kont_pure {F : Fns} {n : Nat} {tot : Bool} {ω : Nat → Nat} {f : FuncId} {vs : List AV} : (kont F n tot ω).pure f vs = (call F n false (fun _ => 0) f vs []).map (·.1) := rfl

theorem wrap_u32 {x : Int} (h1 : 0 ≤ x) (h2 : x ≤ 4294967295) : IntKind.u32.wrap x = x := by
  simp [IntKind.wrap,IntKind.signed,IntKind.bits]
  omega
theorem wrap_u8 {x : Int} (h1 : 0 ≤ x) (h2 : x ≤ 255) : IntKind.u8.wrap x = x := by
  simp [IntKind.wrap,IntKind.signed,IntKind.bits]
  omega
theorem wrap_u64 {x : Int} (h1 : 0 ≤ x) (h2 : x ≤ 18446744073709551615) : IntKind.u64.wrap x = x := by
  simp [IntKind.wrap,IntKind.signed,IntKind.bits]
  omega
theorem wrap_u16 {x : Int} (h1 : 0 ≤ x) (h2 : x ≤ 65535) : IntKind.u16.wrap x = x := by
  simp [IntKind.wrap,IntKind.signed,IntKind.bits]
  omega
theorem wrap_u32_mod (x : Int) : IntKind.u32.wrap x = x % 4294967296 := by
  simp [IntKind.wrap,IntKind.signed,IntKind.bits]
theorem tmod_pos {x m : Int} (h : 0 ≤ x) : x.tmod m = x % m := Int.tmod_eq_emod_of_nonneg h
theorem tdiv_pos {x m : Int} (h : 0 ≤ x) : x.tdiv m = x / m := Int.tdiv_eq_ediv_of_nonneg h

end Go.Im

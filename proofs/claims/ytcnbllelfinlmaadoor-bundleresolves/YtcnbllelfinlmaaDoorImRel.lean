/- ImRel: how the idealised machine's values, heap and registers stand for the model's. -/

import Derived.Test.YtcnbllelfinlmaaDoorImSem
import Derived.Calls
import Derived.Laws.World
import Derived.Laws.Sem
namespace Go.Im

structure Env where
  n : Nat
  ob : Nat → Nat
  cp : Nat → Nat
  sg : Nat → Nat → Option Value
  cd : Nat → AC → Code → Prop

structure Env.le (E E' : Env) : Prop where
  n : E.n ≤ E'.n
  ob : ∀ id, id < E.n → E'.ob id = E.ob id
  cp : ∀ id, id < E.n → E'.cp id = E.cp id
  sg : ∀ b o v, E.sg b o = some v → E'.sg b o = some v
  cd : E'.cd = E.cd

theorem Env.le.refl (E : Env) : E.le E := ⟨Nat.le_refl _, fun _ _ => rfl, fun _ _ => rfl, fun _ _ _ h => h, rfl⟩
theorem Env.le.trans {A B C : Env} (h : A.le B) (g : B.le C) : A.le C :=
  ⟨Nat.le_trans h.n g.n, fun id hi => (g.ob id (Nat.lt_of_lt_of_le hi h.n)).trans (h.ob id hi), fun id hi => (g.cp id (Nat.lt_of_lt_of_le hi h.n)).trans (h.cp id hi),
   fun b o v x => g.sg b o v (h.sg b o v x), g.cd.trans h.cd⟩

def capOk (E : Env) (b o size n cap : Nat) : Cap → Prop
  | .full => cap = n
  | .no => True
  | .tok id e => id < E.n ∧ (cap = 0 ∨ (E.ob id = b ∧ o + n * size = e * size ∧ o + cap * size ≤ E.cp id))

def rowOk (E : Env) (id size off n : Nat) (clip : Bool) (b o cap : Nat) : Prop :=
  id < E.n ∧ n ≤ cap ∧ (clip = true → cap = n) ∧ ((b = E.ob id ∧ o = off * size ∧ (clip = false → off + cap = E.cp id)) ∨ (n = 0 ∧ cap = 0 ∧ (clip = false → E.cp id ≤ off)))

inductive VRel (E : Env) : AV → Value → Prop where
  | bool (b : Bool) : VRel E (.bool b) (.bool b)
  | int (k : IntKind) (n : Int) : VRel E (.int k n) (.int k n)
  | str (s : List UInt8) : VRel E (.str s) (.string ⟨s.toArray⟩)
  | agg (cs : List AV) (vs : Array Value) (hl : cs.length = vs.size) (h1 : ∀ a ∈ cs, a.one = true)
      (h : ∀ (i : Nat) a v, cs[i]? = some a → vs[i]? = some v → VRel E a v) : VRel E (.agg cs) (.agg vs)
  | tup (cs : List AV) (vs : Array Value) (hl : cs.length = vs.size)
      (h : ∀ (i : Nat) a v, cs[i]? = some a → vs[i]? = some v → VRel E a v) : VRel E (.tup cs) (.tuple vs)
  | nilp : VRel E .nilp (.pointer none)
  | ptr (id s i off : Nat) (h : id < E.n) : VRel E (.ptr id s i off) (.pointer (some ⟨E.ob id, i * s + off, none⟩))
  | iptr (v : AV) (b o : Nat) (h1 : ∀ a ∈ v.cells, a.one = true) (hs : ∀ k, k < v.cells.length → (E.sg b (o + k)).isSome = true)
      (h : ∀ (k : Nat) a u, v.cells[k]? = some a → E.sg b (o + k) = some u → VRel E a u) : VRel E (.iptr v) (.pointer (some ⟨b, o, none⟩))
  | nils : VRel E .nils (.slice none 0 0)
  | imm (size : Nat) (es : List AV) (c : Cap) (b o cap : Nat) (hcap : es.length ≤ cap) (hsz : ∀ e ∈ es, e.cells.length = size) (h1 : ∀ e ∈ es, ∀ a ∈ e.cells, a.one = true)
      (hs : ∀ (i : Nat) k, i < es.length → k < size → (E.sg b (o + i * size + k)).isSome = true)
      (h : ∀ (i : Nat) e (k : Nat) a u, es[i]? = some e → e.cells[k]? = some a → E.sg b (o + i * size + k) = some u → VRel E a u)
      (hc : capOk E b o size es.length cap c) : VRel E (.imm size es c) (.slice (some ⟨b, o, none⟩) es.length cap)
  | imz (size : Nat) (a : Addr) (c : Cap) (hc : c = .no ∨ c = .full) : VRel E (.imm size [] c) (.slice (some a) 0 0)
  | row (id size off n : Nat) (clip : Bool) (b o cap : Nat) (h : rowOk E id size off n clip b o cap) : VRel E (.row id size off n clip) (.slice (some ⟨b, o, none⟩) n cap)
  | nilm : VRel E .nilm (.map none)
  | mp (id : Nat) (h : id < E.n) : VRel E (.mp id) (.map (some (E.ob id)))
  | nilf : VRel E .nilf .nilFunc
  | fn (f : Fn) (as cs : List AV) (vs us : Array Value) (hl : as.length = vs.size) (hl' : cs.length = us.size)
      (h : ∀ (i : Nat) a v, as[i]? = some a → vs[i]? = some v → VRel E a v) (h' : ∀ (i : Nat) a v, cs[i]? = some a → us[i]? = some v → VRel E a v) : VRel E (.fn f as cs) (.func f vs us)
  | nili : VRel E .nili .nilIface
  | ifc (t : TypeId) (v : AV) (u : Value) (h : VRel E v u) : VRel E (.ifc t v) (.iface t u)
  | yld (id : Nat) (h : id < E.n) : VRel E (.yld id) (.func (.yield (E.ob id)) #[] #[])

theorem capOk.mono {E E' : Env} (hE : E.le E') {b o size n cap : Nat} {c : Cap} (h : capOk E b o size n cap c) : capOk E' b o size n cap c := by
  cases c with
  | full => exact h
  | no => exact h
  | tok id e =>
    obtain ⟨hi, h⟩ := h
    refine ⟨Nat.lt_of_lt_of_le hi hE.n, ?_⟩
    rw [hE.ob id hi, hE.cp id hi]; exact h

theorem rowOk.mono {E E' : Env} (hE : E.le E') {id size off n : Nat} {clip : Bool} {b o cap : Nat} (h : rowOk E id size off n clip b o cap) : rowOk E' id size off n clip b o cap := by
  obtain ⟨hi, h1, h2, h3⟩ := h
  refine ⟨Nat.lt_of_lt_of_le hi hE.n, h1, h2, ?_⟩
  rw [hE.ob id hi, hE.cp id hi]; exact h3

theorem Env.le.sg_back {E E' : Env} (hE : E.le E') {b o : Nat} {u : Value} (hs : (E.sg b o).isSome = true) (h : E'.sg b o = some u) : E.sg b o = some u := by
  obtain ⟨v, hv⟩ := Option.isSome_iff_exists.1 hs
  have := hE.sg b o v hv
  rw [h] at this
  rw [hv, ← this]

theorem Env.le.sg_some {E E' : Env} (hE : E.le E') {b o : Nat} (hs : (E.sg b o).isSome = true) : (E'.sg b o).isSome = true := by
  obtain ⟨v, hv⟩ := Option.isSome_iff_exists.1 hs
  rw [hE.sg b o v hv]; rfl

theorem VRel.mono {E E' : Env} (hE : E.le E') {a : AV} {v : Value} (h : VRel E a v) : VRel E' a v := by
  induction h with
  | bool b => exact .bool b
  | int k n => exact .int k n
  | str s => exact .str s
  | agg cs vs hl h1 h ih => exact .agg cs vs hl h1 ih
  | tup cs vs hl h ih => exact .tup cs vs hl ih
  | nilp => exact .nilp
  | ptr id s i off h => rw [← hE.ob id h]; exact .ptr id s i off (Nat.lt_of_lt_of_le h hE.n)
  | iptr v b o h1 hs h ih =>
    refine .iptr v b o h1 (fun k hk => hE.sg_some (hs k hk)) fun k a u hk hu => ?_
    exact ih k a u hk (hE.sg_back (hs k (by have := (List.getElem?_eq_some_iff.1 hk).1; exact this)) hu)
  | nils => exact .nils
  | imm size es c b o cap hcap hsz h1 hs h hc ih =>
    refine .imm size es c b o cap hcap hsz h1 (fun i k hi hk => hE.sg_some (hs i k hi hk)) (fun i e k a u hi hk hu => ?_) (hc.mono hE)
    have hi' := (List.getElem?_eq_some_iff.1 hi).1
    have hk' := (List.getElem?_eq_some_iff.1 hk).1
    rw [hsz e (List.mem_of_getElem? hi)] at hk'
    exact ih i e k a u hi hk (hE.sg_back (hs i k hi' hk') hu)
  | imz size a c hc => exact .imz size a c hc
  | row id size off n clip b o cap h => exact .row id size off n clip b o cap (h.mono hE)
  | nilm => exact .nilm
  | mp id h => rw [← hE.ob id h]; exact .mp id (Nat.lt_of_lt_of_le h hE.n)
  | nilf => exact .nilf
  | fn f as cs vs us hl hl' h h' ih ih' => exact .fn f as cs vs us hl hl' ih ih'
  | nili => exact .nili
  | ifc t v u h ih => exact .ifc t v u ih
  | yld id h => rw [← hE.ob id h]; exact .yld id (Nat.lt_of_lt_of_le h hE.n)

theorem VRel.oneCell {E : Env} {a : AV} {v : Value} (h : VRel E a v) (h1 : a.one = true) : v.oneCell' = true := by
  cases h <;> first | rfl | simp [AV.one] at h1

def CellsAt (E : Env) (c : Nat → Option Value) (o : Nat) (v : AV) : Prop :=
  ∀ (k : Nat) a, v.cells[k]? = some a → a.one = true ∧ ∃ u, c (o + k) = some u ∧ VRel E a u

theorem CellsAt.mono {E E' : Env} (hE : E.le E') {c : Nat → Option Value} {o : Nat} {v : AV} (h : CellsAt E c o v) : CellsAt E' c o v :=
  fun k a hk => let ⟨h1, u, hu, hv⟩ := h k a hk; ⟨h1, u, hu, hv.mono hE⟩

def StR : Nat → LoopState → Prop
  | 0, .ready | 1, .busy | 2, .done => True
  | _, _ => False

def PdR : Option AE → Option Code → Prop
  | none, none | some .ret, some .ret => True
  | some (.exit i), some (.exit j) => i = j
  | _, _ => False

structure LoopR (E : Env) (lr : Loop) (r : Regs) (ps : List Nat) (hd bd : AC) (st : Nat) (pd : Option AE) : Prop where
  par : lr.params = ps.toArray
  code : ∃ N, N ≤ lr.tmps.size ∧ (∀ p ∈ ps, p < lr.tmps.size) ∧ E.cd N hd lr.assign ∧ E.cd N bd lr.body
  sort : r.Pairwise fun a b => a.1 < b.1
  regs : ∀ t, match get r t with
    | .un => True
    | .val v => t < lr.tmps.size ∧ VRel E v (lr.tmps.getD t undef)
    | _ => False
  state : StR st lr.state
  pend : PdR pd lr.pending

def ORel (E : Env) (w : World) (b cp : Nat) : AO → Prop
  | .row size es => ∃ c T fr, w.heap[b]? = some (.cells c T fr) ∧ (∀ o, o < c.size → (fr.1 ≤ o && o < fr.2) = false) ∧ c.size = cp * size ∧ es.length ≤ cp ∧
      (∀ e ∈ es, e.cells.length = size) ∧ (∀ (i : Nat) e, es[i]? = some e → CellsAt E (fun o => c[o]?) (i * size) e) ∧ ∀ o, E.sg b o = none
  | .map es clock => ∃ ents, w.heap[b]? = some (.map ents clock) ∧ es.length = ents.size ∧
      (∀ (i : Nat) e m, es[i]? = some e → ents[i]? = some m → VRel E e.1 m.key ∧ VRel E e.2.1 m.val ∧ e.2.2 = m.born) ∧ ∀ o, E.sg b o = none
  | .iter m since seen stepped => ∃ m', w.heap[b]? = some (.mapIter m' since seen.toArray stepped) ∧ (match m with | none => m' = none | some id => id < E.n ∧ m' = some (E.ob id)) ∧ ∀ o, E.sg b o = none
  | .tail size e => ∃ c T fr, w.heap[b]? = some (.cells c T fr) ∧ (∀ o, o < c.size → (fr.1 ≤ o && o < fr.2) = false) ∧ c.size = cp ∧ ∀ o, e * size ≤ o → E.sg b o = none
  | .dead => True
  | .loop r ps hd bd st pd => ∃ lr, w.heap[b]? = some (.loop lr) ∧ LoopR E lr r ps hd bd st pd ∧ ∀ o, E.sg b o = none

def alive (h : Hp) (id : Nat) : Prop := ∃ o, h[id]? = some o ∧ o ≠ .dead

def Owned (E : Env) (h : Hp) (b : Nat) : Prop := ∃ id, alive h id ∧ E.ob id = b

structure HRel (E : Env) (h : Hp) (w : World) : Prop where
  n : E.n = h.length
  sg : ∀ b o v, E.sg b o = some v → w.cell? ⟨b, o, none⟩ = some v
  lt : ∀ id, alive h id → E.ob id < w.heap.size
  obj : ∀ (id : Nat) o, h[id]? = some o → ORel E w (E.ob id) (E.cp id) o
  inj : ∀ i j, alive h i → alive h j → E.ob i = E.ob j → i = j

def RRel (E : Env) (w : World) (tmps : Array Value) (r : Regs) (t : Nat) : Reg → Prop
  | .un => True
  | .val v => VRel E v (tmps.getD t undef)
  | .var v => ∃ b c T fr, tmps.getD t undef = .pointer (some ⟨b, 0, none⟩) ∧ w.heap[b]? = some (.cells c T fr) ∧ (∀ o, o < c.size → (fr.1 ≤ o && o < fr.2) = false) ∧
      c.size = v.cells.length ∧ CellsAt E (fun o => c[o]?) 0 v ∧ ∀ o, E.sg b o = none
  | .adr u off => ∀ b, tmps.getD u undef = .pointer (some ⟨b, 0, none⟩) → (∃ x, get r u = .var x) → tmps.getD t undef = .pointer (some ⟨b, off, none⟩)
  | .slc u off n _ => ∀ b, tmps.getD u undef = .pointer (some ⟨b, 0, none⟩) → (∃ x, get r u = .var x) → ∃ o cap, tmps.getD t undef = .slice (some ⟨b, o, none⟩) n cap ∧ n ≤ cap ∧ (o = off ∨ n = 0)
  | .hslc id size i off n _ => id < E.n ∧ ∃ o cap, tmps.getD t undef = .slice (some ⟨E.ob id, o, none⟩) n cap ∧ n ≤ cap ∧ (o = i * size + off ∨ n = 0)

def vb (tmps : Array Value) (t : Nat) : Nat := match tmps.getD t undef with | .pointer (some a) => a.block | _ => 0

def isVar (r : Regs) (t : Nat) : Prop := ∃ v, get r t = .var v

structure FRel (E : Env) (h : Hp) (w : World) (r : Regs) (tmps : Array Value) : Prop where
  reg : ∀ t, RRel E w tmps r t (get r t)
  sz : ∀ t, get r t ≠ .un → t < tmps.size
  apart : ∀ t u, isVar r t → isVar r u → vb tmps t = vb tmps u → t = u
  own : ∀ t, isVar r t → ¬ Owned E h (vb tmps t)

def Vars (r : Regs) (tmps : Array Value) (b : Nat) : Prop := ∃ t, isVar r t ∧ vb tmps t = b

structure Keep (E : Env) (h : Hp) (X : Nat → Prop) (w : World) (E' : Env) (h' : Hp) (X' : Nat → Prop) (w' : World) : Prop where
  le : E.le E'
  size : w.heap.size ≤ w'.heap.size
  os : w'.os = w.os
  out : w'.output = w.output
  heap : ∀ b, b < w.heap.size → ¬ Owned E h b → ¬ X b → w'.heap[b]? = w.heap[b]?
  owned : ∀ b, Owned E' h' b → Owned E h b ∨ w.heap.size ≤ b
  vars : ∀ b, X' b → X b ∨ w.heap.size ≤ b
  sg : ∀ b o, (E'.sg b o).isSome = true → (E.sg b o).isSome = true ∨ Owned E h b ∨ w.heap.size ≤ b

theorem Keep.refl (E : Env) (h : Hp) (X : Nat → Prop) (w : World) : Keep E h X w E h X w :=
  ⟨.refl E, Nat.le_refl _, rfl, rfl, fun _ _ _ _ => rfl, fun _ h => .inl h, fun _ h => .inl h, fun _ _ h => .inl h⟩

theorem Keep.trans {E E₁ E₂ : Env} {h h₁ h₂ : Hp} {X X₁ X₂ : Nat → Prop} {w w₁ w₂ : World} (k : Keep E h X w E₁ h₁ X₁ w₁) (k' : Keep E₁ h₁ X₁ w₁ E₂ h₂ X₂ w₂) : Keep E h X w E₂ h₂ X₂ w₂ := by
  refine ⟨k.le.trans k'.le, Nat.le_trans k.size k'.size, k'.os.trans k.os, k'.out.trans k.out, fun b hb ho hx => ?_, fun b ho => ?_, fun b hx => ?_, fun b o hs => ?_⟩
  · rw [k'.heap b (Nat.lt_of_lt_of_le hb k.size) (fun h => (k.owned b h).elim ho (fun h => by omega)) (fun h => (k.vars b h).elim hx (fun h => by omega)), k.heap b hb ho hx]
  · rcases k'.owned b ho with h | h
    · exact k.owned b h
    · exact .inr (Nat.le_trans k.size h)
  · rcases k'.vars b hx with h | h
    · exact k.vars b h
    · exact .inr (Nat.le_trans k.size h)
  · rcases k'.sg b o hs with h | h | h
    · exact k.sg b o h
    · exact .inr (k.owned b h)
    · exact .inr (.inr (Nat.le_trans k.size h))

end Go.Im

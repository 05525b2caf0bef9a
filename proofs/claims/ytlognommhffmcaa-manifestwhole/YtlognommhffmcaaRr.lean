/- Joined: S13XRo, S13XRp, S13XRq, S13XRr. -/
import Derived.Test.YtlognommhffmcaaRe
/- S13XRo: the document's: is a file there; a state behind an edit: its tables. -/
set_option linter.unusedVariables false
set_option linter.unusedSimpArgs false
open Go Go.Im
namespace Go.Proofs.Ytlognommhffmcaa.Im

theorem hasF_files (s : Ste) (f : Int) : (s.files.any fun y => y == f) = hasF s f := by
  have e : (fun y : Int => y == f) = (fun y : Int => f == y) := by
    funext y
    rw [Bool.eq_iff_iff]
    simp only [beq_iff_eq]
    exact ⟨Eq.symm, Eq.symm⟩
  have h1 : (s.tb.map (·.f)).any (fun y => y == f) = s.tb.any fun t => t.f == f := by rw [List.any_map]; rfl
  have h2 : (s.sr.map (·.f)).any (fun y => y == f) = s.sr.any fun t => t.f == f := by rw [List.any_map]; rfl
  simp only [Ste.files,hasF,List.any_append,h1,h2,Bool.or_assoc]
  rw [e]

theorem any_perm {α : Type} {p : α → Bool} {a b : List α} (h : a.Perm b) : a.any p = b.any p := by
  rw [Bool.eq_iff_iff, List.any_eq_true, List.any_eq_true]
  exact ⟨fun ⟨x, h1, h2⟩ => ⟨x, h.mem_iff.1 h1, h2⟩, fun ⟨x, h1, h2⟩ => ⟨x, h.mem_iff.2 h1, h2⟩⟩

def KS (h h' : Hp) : Prop := h.length ≤ h'.length ∧ keeps h h'
theorem KS.refl (h : Hp) : KS h h := ⟨Nat.le_refl _, keeps.refl h⟩
theorem KS.trans {a b c : Hp} (x : KS a b) (y : KS b c) : KS a c := ⟨Nat.le_trans x.1 y.1, x.2.trans y.2⟩
theorem KeepLo.ks {h h' : Hp} (k : KeepLo h.length h h') : KS h h' := ⟨k.1, fun i o h1 _ => k.2 i o (List.getElem?_eq_some_iff.1 h1).1 h1⟩

theorem app_k {sz bytes : Nat} {es xs : List AV} {h : Hp} {v : AV} (hv : IsApp sz es h v) (hx : xs ≠ []) (hb : (es.length + xs.length) * bytes ≤ 140737488355328) :
    ∃ v' h', appendV false sz bytes v xs h = some (v', h') ∧ IsApp sz (es ++ xs) h' v' ∧ KS h h' ∧ (∀ (id : Nat) o, h[id]? = some o → (∀ k, o ≠ .tail sz k) → h'[id]? = some o) ∧ (∃ c, v' = .imm sz (es ++ xs) (.tok h.length c)) := by
  obtain ⟨v', h', a1, a2, a3, a4, a5, a6⟩ := app_ok (bytes := bytes) hv hx hb
  refine ⟨v', h', a1, a2, ⟨a4, a3⟩, fun id o h1 h2 => a5 id o h1 fun c hc => ?_, a6⟩
  rcases hv with ⟨rfl, _⟩ | rfl | ⟨id', rfl, hid⟩
  · cases hc
  · cases hc
  · cases hc
    rw [hid] at h1
    cases h1
    exact h2 _ rfl
theorem IsApp.keepT {sz : Nat} {es : List AV} {h h' : Hp} {v : AV} (hv : IsApp sz es h v) (hk : ∀ (id : Nat) o, h[id]? = some o → (∃ k, o = .tail sz k) → h'[id]? = some o) : IsApp sz es h' v := by
  rcases hv with h | h | ⟨id, h, e⟩
  · exact .inl h
  · exact .inr (.inl h)
  · exact .inr (.inr ⟨id, h, hk id _ e ⟨_, rfl⟩⟩)
theorem IsApp.subv {sz : Nat} {es : List AV} {h : Hp} {v : AV} (ho : IsApp sz es h v) (n : Nat) : sub v 0 n false = some v := by
  rcases ho with ⟨rfl, _⟩ | rfl | ⟨id, rfl, _⟩ <;> rfl
theorem IsApp.notTup {sz : Nat} {es : List AV} {h : Hp} {v : AV} (ho : IsApp sz es h v) : v.notTup = true := by
  rcases ho with ⟨rfl, _⟩ | rfl | ⟨id, rfl, _⟩ <;> rfl
theorem IsApp.cells {sz : Nat} {es : List AV} {h : Hp} {v : AV} (ho : IsApp sz es h v) : v.cells = [v] := by
  rcases ho with ⟨rfl, _⟩ | rfl | ⟨id, rfl, _⟩ <;> rfl
theorem IsApp.updA {sz : Nat} {es : List AV} {h : Hp} {v : AV} (ho : IsApp sz es h v) (cs : List AV) (off : Nat) : upd (.agg cs) off v = if off < cs.length then some (.agg (cs.set off v)) else none := by
  rcases ho with ⟨rfl, _⟩ | rfl | ⟨id, rfl, _⟩ <;> rfl
theorem IsApp.rd {sz : Nat} {es : List AV} {h : Hp} {v : AV} (ho : IsApp sz es h v) : IsRd sz es v := isRd_app ho

def overlR (x : Ed) (u : Tb) : Bool := u.l == x.l && (decide (u.l > 0) && !(Op.bytesLess u.hi x.lo || !sLe u.lo x.hi))

def goT (x : Ed) : List Tb → Bool → Bool → List Tb → Option (Bool × Bool × List Tb)
  | [], put, fd, out => some (put, fd, out)
  | u :: us, put, fd, out => if x.k = 1 ∧ overlR x u = true then none else if x.k = 2 ∧ u.f = x.f then goT x us put true out else if put = false ∧ ltT (edT x) u = true then goT x us true fd (out ++ [edT x, u]) else goT x us put fd (out ++ [u])

def oB (mv : AV) (x : Ed) (ot s2 l2 : AV) (nx : Int) (fd put : Bool) (i : Nat) (ex : Regs) : Regs :=
  (2, .var mv) :: (3, .var (edOf x)) :: (4, .var z4) :: (6, .var (.agg [ot, s2, l2, .int .i64 nx])) :: (8, .val (.bool fd)) :: (9, .var (tbOf (edT x))) :: (10, .val (.bool put)) :: (11, .val (.int .i64 i)) :: ex

section
variable {tot : Bool} {ω : Nat → Nat} {n : Nat} (tv sv lv ot s2 l2 : AV) (nx nx0 : Int) (x : Ed) (u : Tb) (fd put : Bool) (i : Nat) (g : Hp)

def KT (sz : Nat) (h h' : Hp) : Prop := KS h h' ∧ ∀ (id : Nat) o, h[id]? = some o → (∀ k, o ≠ .tail sz k) → h'[id]? = some o
theorem KT.refl (sz : Nat) (h : Hp) : KT sz h h := ⟨.refl h, fun _ _ h _ => h⟩
theorem KT.trans {sz : Nat} {a b c : Hp} (x : KT sz a b) (y : KT sz b c) : KT sz a c := ⟨x.1.trans y.1, fun i o h1 h2 => y.2 i o (x.2 i o h1 h2) h2⟩

end
end Go.Proofs.Ytlognommhffmcaa.Im

/- S13XRp: the document's: a state behind an edit: its stores and its logs. -/
set_option linter.unusedVariables false
set_option linter.unusedSimpArgs false
open Go Go.Im
namespace Go.Proofs.Ytlognommhffmcaa.Im

def edS (x : Ed) : Sr := ⟨x.f, x.l⟩
def goS (x : Ed) : List Sr → Bool → Bool → List Sr → Bool × Bool × List Sr
  | [], put, fd, out => (put, fd, out)
  | u :: us, put, fd, out => if x.k = 4 ∧ u.f = x.f then goS x us put true out else if put = false ∧ u.f > x.f then goS x us true fd (out ++ [edS x, u]) else goS x us put fd (out ++ [u])
def goL (x : Ed) : List Int → Bool → List Int → Bool × List Int
  | [], fd, out => (fd, out)
  | u :: us, fd, out => if x.k = 6 ∧ u = x.f then goL x us true out else goL x us fd (out ++ [u])

def oS (mv : AV) (x : Ed) (ot s2 l2 : AV) (nx : Int) (fd put : Bool) (i : Nat) (ex : Regs) : Regs :=
  (2, .var mv) :: (3, .var (edOf x)) :: (4, .var z4) :: (6, .var (.agg [ot, s2, l2, .int .i64 nx])) :: (8, .val (.bool fd)) :: (10, .val (.bool put)) :: (13, .val (.int .i64 i)) :: ex
def oL (mv : AV) (x : Ed) (ot s2 l2 : AV) (nx : Int) (fd : Bool) (i : Nat) (ex : Regs) : Regs :=
  (2, .var mv) :: (3, .var (edOf x)) :: (4, .var z4) :: (6, .var (.agg [ot, s2, l2, .int .i64 nx])) :: (8, .val (.bool fd)) :: (15, .val (.int .i64 i)) :: ex

section
variable {tot : Bool} {ω : Nat → Nat} {n : Nat} (tv sv lv ot s2 l2 : AV) (nx nx0 : Int) (x : Ed) (u : Sr) (fd put : Bool) (i : Nat) (g : Hp)

end
end Go.Proofs.Ytlognommhffmcaa.Im

/- S13XRq: the document's: a state behind an edit. -/
set_option linter.unusedVariables false
set_option linter.unusedSimpArgs false
open Go Go.Im
namespace Go.Proofs.Ytlognommhffmcaa.Im

def addsB (x : Ed) : Bool := x.k == 1 || (x.k == 3 || x.k == 5)
def e1P (x : Ed) : Prop := x.k < 1 ∨ x.k > 7 ∨ ((addsB x = true ∨ x.k = 7) ∧ x.f < 1)
def e2P (s : Ste) (x : Ed) : Prop := (x.k = 1 ∧ badT x = true) ∨ (x.k = 3 ∧ x.l ≠ 0 ∧ x.l ≠ 1) ∨ (x.k = 7 ∧ x.f < s.nx)
instance (x : Ed) : Decidable (e1P x) := by unfold e1P; exact inferInstance
instance (s : Ste) (x : Ed) : Decidable (e2P s x) := by unfold e2P; exact inferInstance

def oneT (s : Ste) (x : Ed) : Bool × Bool × List Tb → Int × Ste := fun t =>
  let a := goS x s.sr (x.k != 3) t.2.1 []
  let b := goL x s.lg a.2.1 []
  if b.1 then (0, ⟨if t.1 then t.2.2 else t.2.2 ++ [edT x], if a.1 then a.2.2 else a.2.2 ++ [edS x], if x.k = 5 then b.2 ++ [x.f] else b.2, if x.k = 7 then x.f else s.nx⟩) else (9, s)

def oneF (s : Ste) (x : Ed) : Int × Ste :=
  if e1P x then (1, s) else if e2P s x then (1, s) else if addsB x = true ∧ hasF s x.f = true then (10, s) else
  match goT x s.tb (x.k != 1) (addsB x || x.k == 7) [] with
  | none => (11, s)
  | some t => oneT s x t

section
variable {tot : Bool} {ω : Nat → Nat} {n : Nat} (mv : AV) (tv sv lv : AV) (s : Ste) (x : Ed) (g : Hp)

def oP (mv : AV) (x : Ed) (nx : Int) (ex : Regs) : Regs := (2, .var mv) :: (3, .var (edOf x)) :: (4, .var z4) :: (6, .var (.agg [.nils, .nils, .nils, .int .i64 nx])) :: (7, .val (.bool (addsB x))) :: ex

def OnePost (s : Ste) (x : Ed) (g : Hp) (v' : AV) (g' : Hp) : Prop := KS g g' ∧ ∃ u, v' = .tup [u, .int .i64 (oneF s x).1] ∧ RfAt (oneF s x).2 u

end
end Go.Proofs.Ytlognommhffmcaa.Im

/- S13XRr: the document's: a state behind an edit, whole. -/
set_option linter.unusedVariables false
set_option linter.unusedSimpArgs false
open Go Go.Im
namespace Go.Proofs.Ytlognommhffmcaa.Im
section
variable {tot : Bool} {ω : Nat → Nat} {n : Nat} (mv : AV) (s : Ste) (x : Ed) (g : Hp)

end
end Go.Proofs.Ytlognommhffmcaa.Im

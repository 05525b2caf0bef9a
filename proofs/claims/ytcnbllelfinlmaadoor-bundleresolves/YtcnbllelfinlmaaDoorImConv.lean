/- ImConv: a slice of bytes that is converted to its own type: the block is marked behind its end. -/
import Derived.Test.YtcnbllelfinlmaaDoorImCopy
set_option linter.unusedVariables false
set_option linter.unusedSimpArgs false
namespace Go.Im
section
variable {P : Program} {E : Env} {h : Hp} {w : World} {r : Regs} {a : Act} {o : Oper} {reg : Reg}

theorem frozen_heap (w : World) {b n : Nat} {c : Array Value} {T : TypeId} {fr : Nat × Nat} (hb : w.heap[b]? = some (.cells c T fr)) :
    ∃ fr', (w.freeze ⟨b, n, none⟩ 1).heap[b]? = some (.cells c T fr') ∧ (w.freeze ⟨b, n, none⟩ 1).heap.size = w.heap.size ∧ (∀ b', b' ≠ b → (w.freeze ⟨b, n, none⟩ 1).heap[b']? = w.heap[b']?) ∧
      (w.freeze ⟨b, n, none⟩ 1).os = w.os ∧ (w.freeze ⟨b, n, none⟩ 1).output = w.output := by
  obtain ⟨lo, hi⟩ := fr
  refine ⟨if lo == hi then (n, n + 1) else (min lo n, max hi (n + 1)), ?_, ?_, fun b' hne => ?_, rfl, rfl⟩
  · simp [World.freeze,Array.getElem?_modify,hb]
  · simp [World.freeze]
  · simp [World.freeze,Array.getElem?_modify,Ne.symm hne]

theorem st_convB {K : Kont} (hf : FRel E h w r a.tmps) (hh : HRel E h w) {t e : TypeId} {y : Operand} {x : AX} (ho : o.op = .convert t t y) (hx : XRel E a x y) (ht : P.underlying t = some (.slice e)) (hu : P.underlying e = some (.int .u8)) {r' : Regs} {h' : Hp}
    (he : step K r h (.convB x) = some (reg, r', h')) : Res P E h w r a o reg r' h' := by
  simp only [step] at he
  split at he
  · rename_i id n clip hv
    split at he
    · rename_i es hes
      split at he
      · rename_i hc
        obtain ⟨hn, hne⟩ := hc
        cases he
        have hvr := vl_spec hf hx hv
        generalize hy : a.eval y = uy at hvr
        cases hvr with
        | row _ _ _ _ _ b off cap hrow =>
        obtain ⟨hid, hcap, hclip, hcase⟩ := hrow
        have hlen : es.length ≠ 0 := by omega
        have hcase : b = E.ob id ∧ off = 0 * 1 ∧ (clip = false → 0 + cap = E.cp id) := by
          rcases hcase with hq | ⟨h0, _⟩
          · exact hq
          · omega
        obtain ⟨hb, hoff, hend⟩ := hcase
        subst hb
        have hoff : off = 0 := by omega
        subst hoff
        have hal : alive h id := ⟨_, hes, by simp⟩
        obtain ⟨c, T, fr, t1, t2, t3, t4, t5, t6, t7⟩ := hh.obj id _ hes
        have hcp : es.length ≤ c.size := by omega
        obtain ⟨fr', f1, f2, f3, f4, f5⟩ := frozen_heap w (n := c.size) t1
        have hno := not_owned_dead hh hal
        have hnv : ¬ Vars r a.tmps (E.ob id) := owned_no_var hf ⟨id, hal, rfl⟩
        have m0 := (hh.dead id).other hno t7 f2 f3
        have m1 := m0.more (w' := w.freeze ⟨E.ob id, c.size, none⟩ 1) (lo := 0) (hi := c.size) f1 f1 hno (fun o _ => t7 o) (fun k hk => rfl) rfl (fun _ _ => rfl)
        have n0 := (hf.dead id).other (h' := h.set id .dead) hnv f3 fun _ h => h
        have n1 := n0.more (w' := w.freeze ⟨E.ob id, c.size, none⟩ 1) (c' := c) (lo := 0) (hi := c.size) hnv (fun o _ => t7 o) (fun _ _ => rfl)
        have mle := Env.more_le (E := E) (b := E.ob id) (lo := 0) (hi := c.size) (c := c) (fun o _ => t7 o)
        have hsg : ∀ o, o < c.size → (E.more (E.ob id) 0 c.size c).sg (E.ob id) o = c[o]? := fun o ho => by
          simp only [Env.more]; rw [if_pos ⟨trivial, Nat.zero_le _, ho⟩]
        have hone : ∀ e' ∈ es, e'.cells.length = 1 := t5
        refine .of_val (u := .slice (some ⟨E.ob id, 0, none⟩) n cap) (w' := w.freeze ⟨E.ob id, c.size, none⟩ 1) (E' := E.more (E.ob id) 0 c.size c) (.inl ?_) ⟨mle, by rw [f2]; exact Nat.le_refl _, f4, f5, fun b' _ ho' _ => f3 b' fun e => ho' (e ▸ ⟨id, hal, rfl⟩), fun b' ho' => .inl (Owned.dead ho'), fun _ h => .inl h, fun b' o hs => ?_⟩ n1 m1 ?_
        · have hsh : w.shape? (E.ob id) = some (T, c.size) := by simp [World.shape?,t1]
          simp [execOp,ho,convert,run_underlying ht,run_underlying hu,hy,markStringish,hsh]
        · by_cases hbb : b' = E.ob id
          · exact .inr (.inl (hbb ▸ ⟨id, hal, rfl⟩))
          · left
            simp only [Env.more,if_neg (fun e : b' = E.ob id ∧ _ => hbb e.1)] at hs
            exact hs
        · subst hn
          have hcell : ∀ (i : Nat) e' (k : Nat) x', es[i]? = some e' → e'.cells[k]? = some x' → x'.one = true ∧ ∃ u, c[i + k]? = some u ∧ VRel E x' u := fun i e' k x' hi hk => by
            obtain ⟨p1, u, p2, p3⟩ := t6 i e' hi k x' hk
            refine ⟨p1, u, ?_, p3⟩
            have : c[i * 1 + k]? = some u := p2
            rwa [Nat.mul_one] at this
          refine .imm 1 es .no _ 0 cap hcap hone (fun e' he' x' hx' => ?_) (fun i k hi hk => ?_) (fun i e' k x' u hi hk hu' => ?_) trivial
          · obtain ⟨i, hi⟩ := List.getElem?_of_mem he'
            obtain ⟨k, hk⟩ := List.getElem?_of_mem hx'
            exact (hcell i e' k x' hi hk).1
          · have hk0 : k = 0 := by omega
            subst hk0
            rw [Nat.mul_one, Nat.zero_add, Nat.add_zero, hsg i (by omega)]
            simp [show i < c.size by omega]
          · have hlt := (List.getElem?_eq_some_iff.1 hk).1
            rw [hone e' (List.mem_of_getElem? hi)] at hlt
            have hil := (List.getElem?_eq_some_iff.1 hi).1
            obtain ⟨_, u', p2, p3⟩ := hcell i e' k x' hi hk
            rw [Nat.mul_one, Nat.zero_add, hsg _ (by omega)] at hu'
            rw [p2] at hu'
            cases hu'
            exact p3.mono mle
      · cases he
    · cases he
  · cases he
end
end Go.Im

/- ImDraw: regions whose operations are done in any order. -/
import Derived.Test.YtcnbllelfinlmaaDoorImFree3
import Derived.OrdersIn
set_option linter.unusedVariables false
set_option linter.unusedSimpArgs false
namespace Go.Im

def maskOf (acc : List Nat) (o : Oper) : Nat := o.after.toList.foldl (fun s e => if Region.binds .any e then s ||| 2 ^ e.on ||| acc.getD e.on 0 else s) 0

def masks : List Oper → List Nat → List Nat
  | [], acc => acc
  | o :: os, acc => masks os (acc ++ [maskOf acc o])

inductive Reach (ops : Array Oper) : Nat → Nat → Prop where
  | one {i j : Nat} {o : Oper} {e : Edge} (ho : ops[j]? = some o) (he : e ∈ o.after) (hb : Region.binds .any e = true) (hi : e.on = i) : Reach ops i j
  | more {i k j : Nat} (h1 : Reach ops i k) (h2 : Reach ops k j) : Reach ops i j

theorem foldl_mask {acc : List Nat} {i : Nat} : ∀ (l : List Edge) (s : Nat), (l.foldl (fun s e => if Region.binds .any e then s ||| 2 ^ e.on ||| acc.getD e.on 0 else s) s).testBit i = true →
    s.testBit i = true ∨ ∃ e ∈ l, Region.binds .any e = true ∧ (e.on = i ∨ (acc.getD e.on 0).testBit i = true)
  | [], s, h => .inl h
  | e :: l, s, h => by
    simp only [List.foldl_cons] at h
    rcases foldl_mask l _ h with h | ⟨e', he', h⟩
    · split at h
      · rename_i hb
        rw [Nat.testBit_or, Nat.testBit_or, Nat.testBit_two_pow] at h
        simp only [Bool.or_eq_true,decide_eq_true_eq] at h
        rcases h with (h | h) | h
        · exact .inl h
        · exact .inr ⟨e, by simp, hb, .inl h⟩
        · exact .inr ⟨e, by simp, hb, .inr h⟩
      · exact .inl h
    · exact .inr ⟨e', by simp [he'], h⟩

theorem masks_reach {ops : Array Oper} : ∀ (l : List Oper) (acc : List Nat), (∀ k, l[k]? = ops[acc.length + k]?) → (∀ j i, (acc.getD j 0).testBit i = true → Reach ops i j) → ∀ j i, ((masks l acc).getD j 0).testBit i = true → Reach ops i j
  | [], acc, _, h, j, i, ht => h j i ht
  | o :: l, acc, hl, h, j, i, ht => by
    refine masks_reach l (acc ++ [maskOf acc o]) (fun k => ?_) (fun j i ht => ?_) j i ht
    · have := hl (k + 1)
      simp only [List.getElem?_cons_succ] at this
      rw [this]; congr 1; simp; omega
    · have ho : ops[acc.length]? = some o := by have := hl 0; simpa using this.symm
      by_cases hj : j < acc.length
      · rw [List.getD_eq_getElem?_getD, List.getElem?_append_left hj, ← List.getD_eq_getElem?_getD] at ht
        exact h j i ht
      · by_cases hj2 : j = acc.length
        · subst hj2
          have : (acc ++ [maskOf acc o]).getD acc.length 0 = maskOf acc o := by simp
          rw [this] at ht
          rcases foldl_mask _ _ ht with h0 | ⟨e, he, hb, h0 | h0⟩
          · simp at h0
          · exact .one ho (by simpa using he) hb h0
          · exact .more (h _ _ h0) (.one ho (by simpa using he) hb rfl)
        · have : (acc ++ [maskOf acc o]).getD j 0 = 0 := by
            rw [List.getD_eq_getElem?_getD, List.getElem?_eq_none (by simp; omega)]; rfl
          rw [this] at ht
          simp at ht

def okPairs (ms : List Nat) : List (Nat × AOper) → Bool
  | [] => true
  | (i, x) :: l => (l.all fun p => (ms.getD p.1 0).testBit i || indep x p.2) && okPairs ms l

def okLine (ops : Array Oper) : List Nat → List Nat → Bool
  | _, [] => true
  | done, i :: l => (match ops[i]? with
    | some o => o.after.toList.all fun e => !Region.binds .any e || done.contains e.on
    | none => false) && okLine ops (i :: done) l

def okDraw (P : Program) (GT : Nat → Option AV) (N : Nat) (ops : Array Oper) (ord : List Nat) (xs : List AOper) : Bool :=
  okOpers P GT N ops ord xs && (List.range ops.size).all (fun i => ord.contains i) && ord.length == ops.size && decide ord.Nodup && okLine ops [] ord && okPairs (masks ops.toList []) (ord.zip xs)

section
variable {P : Program} {GT : GTab} {F : Fns} {n : Nat} {tot : Bool} {N : Nat} {K : Kont}

theorem exec1_sorted {x : AOper} {r r' : Regs} {h h' : Hp} (hs : Sorted r) (he : exec1 K x r h = some (r', h')) : Sorted r' := by
  rw [exec1_act] at he
  cases ha : act1 K x r h with
  | none => rw [ha] at he; cases he
  | some z =>
    obtain ⟨y, r1, h1⟩ := z
    rw [ha] at he
    obtain ⟨r2, d, q⟩ := map_some he
    cases q
    exact (act1_sorted hs ha).setD d

theorem bubble {x : AOper} {post : List AOper} : ∀ (pre : List AOper) {r : Regs} {h : Hp} {s : Regs × Hp}, Sorted r → (∀ y ∈ pre, indep y x = true) → execs K (pre ++ x :: post) r h = some s →
    ∃ r1 h1, exec1 K x r h = some (r1, h1) ∧ execs K (pre ++ post) r1 h1 = some s
  | [], r, h, s, hs, hi, he => by
    simp only [List.nil_append,execs] at he ⊢
    split at he
    · rename_i r' h' e; exact ⟨r', h', e, he⟩
    · cases he
  | y :: pre, r, h, s, hs, hi, he => by
    simp only [List.cons_append,execs] at he ⊢
    split at he
    · rename_i ry hy e
      obtain ⟨r1, h1, e1, e2⟩ := bubble pre (exec1_sorted hs e) (fun z hz => hi z (by simp [hz])) he
      obtain ⟨r2, h2, e3, e4⟩ := exec_swap hs (hi y (by simp)) e e1
      exact ⟨r2, h2, e3, by rw [e4]; exact e2⟩
    · cases he

def Line (ops : Array Oper) : (Nat → Prop) → List (Nat × AOper) → Prop
  | _, [] => True
  | L, (i, _) :: l => (∀ o, ops[i]? = some o → ∀ e ∈ o.after, Region.binds .any e = true → L e.on) ∧ Line ops (fun k => L k ∨ k = i) l

theorem Line.mono {ops : Array Oper} : ∀ {l : List (Nat × AOper)} {L L' : Nat → Prop}, (∀ k, L k → L' k) → Line ops L l → Line ops L' l
  | [], _, _, _, _ => trivial
  | (i, x) :: l, L, L', hm, h => ⟨fun o ho e he hb => hm _ (h.1 o ho e he hb), Line.mono (fun k hk => hk.imp (hm k) id) h.2⟩

theorem Line.take {ops : Array Oper} {i : Nat} {x : AOper} {post : List (Nat × AOper)} : ∀ {pre : List (Nat × AOper)} {L : Nat → Prop}, Line ops L (pre ++ (i, x) :: post) → Line ops (fun k => L k ∨ k = i) (pre ++ post)
  | [], L, h => h.2
  | (j, y) :: pre, L, h => ⟨fun o ho e he hb => .inl (h.1 o ho e he hb), (Line.take h.2).mono fun k hk => by
      rcases hk with (hk | hk) | hk
      · exact .inl (.inl hk)
      · exact .inr hk
      · exact .inl (.inr hk)⟩

theorem line_of {ops : Array Oper} : ∀ {ord done : List Nat} {xs : List AOper}, okLine ops done ord = true → Line ops (fun k => k ∈ done) (ord.zip xs)
  | [], done, xs, _ => by simp [Line]
  | i :: l, done, [], _ => by simp [Line]
  | i :: l, done, x :: xs, h => by
    simp only [okLine,Bool.and_eq_true] at h
    obtain ⟨h1, h2⟩ := h
    split at h1
    · rename_i o ho
      refine ⟨fun o' ho' e he hb => ?_, (line_of h2).mono fun k hk => ?_⟩
      · rw [ho] at ho'
        cases ho'
        have := List.all_eq_true.1 h1 e (by simpa using he)
        rw [hb] at this
        simpa using this
      · rcases List.mem_cons.1 hk with hk | hk
        · exact .inr hk
        · exact .inl hk
    · cases h1

theorem okPairs_mid {ms : List Nat} {i : Nat} {x : AOper} {post : List (Nat × AOper)} : ∀ {pre : List (Nat × AOper)}, okPairs ms (pre ++ (i, x) :: post) = true → okPairs ms (pre ++ post) = true ∧ ∀ p ∈ pre, ((ms.getD i 0).testBit p.1 || indep p.2 x) = true
  | [], h => by
    simp only [List.nil_append,okPairs,Bool.and_eq_true] at h
    exact ⟨h.2, fun p hp => by simp at hp⟩
  | (j, y) :: pre, h => by
    simp only [List.cons_append,okPairs,Bool.and_eq_true] at h
    obtain ⟨h1, h2⟩ := h
    obtain ⟨q1, q2⟩ := okPairs_mid h2
    rw [List.all_eq_true] at h1
    refine ⟨?_, fun p hp => ?_⟩
    · simp only [List.cons_append,okPairs,Bool.and_eq_true,q1,and_true,List.all_eq_true]
      intro p hp
      refine h1 p ?_
      simp only [List.mem_append,List.mem_cons] at hp ⊢
      rcases hp with hp | hp
      · exact .inl hp
      · exact .inr (.inr hp)
    · rcases List.mem_cons.1 hp with rfl | hp
      · exact h1 (i, x) (by simp)
      · exact q2 p hp

structure DInv (P : Program) (GT : Nat → Option AV) (N : Nat) (ops : Array Oper) (ms : List Nat) (listed : Array Bool) (rest : List (Nat × AOper)) : Prop where
  mem : ∀ k, listed.getD k true = false ↔ k ∈ rest.map (·.1)
  nodup : (rest.map (·.1)).Nodup
  ok : ∀ p ∈ rest, ∃ o, ops[p.1]? = some o ∧ okOper P GT N ops o p.2 = true
  pairs : okPairs ms rest = true
  closed : ∀ j o, ops[j]? = some o → listed.getD j false = true → ∀ e ∈ o.after, Region.binds .any e = true → listed.getD e.on false = true
  line : Line ops (fun k => listed.getD k false = true) rest

theorem getD_contra {listed : Array Bool} {k : Nat} (h1 : listed.getD k true = false) (h2 : listed.getD k false = true) : False := by
  rcases Nat.lt_or_ge k listed.size with h' | h'
  · simp [h'] at h1 h2; rw [h1] at h2; cases h2
  · simp [Array.getElem?_eq_none h'] at h1

theorem reach_listed {ops : Array Oper} {listed : Array Bool} (hc : ∀ j o, ops[j]? = some o → listed.getD j false = true → ∀ e ∈ o.after, Region.binds .any e = true → listed.getD e.on false = true) {i j : Nat} (hr : Reach ops i j) : listed.getD j false = true → listed.getD i false = true := by
  induction hr with
  | one ho he hb hi => intro hj; subst hi; exact hc _ _ ho hj _ he hb
  | more h1 h2 ih1 ih2 => intro hj; exact ih1 (ih2 hj)

theorem reach_ready {ops : Array Oper} {listed : Array Bool} (hc : ∀ j o, ops[j]? = some o → listed.getD j false = true → ∀ e ∈ o.after, Region.binds .any e = true → listed.getD e.on false = true) {i j : Nat} (hr : Reach ops i j) : (∀ o, ops[j]? = some o → ∀ e ∈ o.after, Region.binds .any e = true → listed.getD e.on false = true) → listed.getD i false = true := by
  induction hr with
  | one ho he hb hi => intro hj; subst hi; exact hj _ ho _ he hb
  | more h1 h2 ih1 ih2 => intro hj; exact reach_listed hc h1 (ih2 hj)

theorem draw_any {ρ : Option Nat} (CO : CallsOk P GT F n) {ops : Array Oper} {ms : List Nat} (hms : ∀ j i, (ms.getD j 0).testBit i = true → Reach ops i j) {Q : Exit → Act → World → Prop} : ∀ (fuel : Nat) (listed : Array Bool) (rest : List (Nat × AOper)) {ω : Nat → Nat} {E : Env} {h : Hp} {w : World} {r : Regs} {a : Act},
    rest.length = fuel → DInv P GT N ops ms listed rest → GOk E GT → SRel N E h w r a → (∀ ω', Agree h.length ω ω' → (execs (kont F n tot ω') (rest.map (·.2)) r h).isSome = true) →
    (∀ a' w', After N ω E h w r a (fun ω' => (execs (kont F n tot ω') (rest.map (·.2)) r h).map fun y => ((), y)) () a' w' → Q .normal a' w') → wpAnyIn (RF ρ) 0 P .any ops Q fuel listed a w := by
  intro fuel
  induction fuel with
  | zero =>
    intro listed rest ω E h w r a hl hI hG hS hw hQ
    have : rest = [] := List.eq_nil_of_length_eq_zero hl
    subst this
    refine ⟨?_, hQ a w ⟨ω, E, r, h, .refl _ _, fun ω' _ => rfl, .refl _ _ _ _, hS⟩⟩
    refine List.eq_nil_iff_forall_not_mem.2 fun i hi => ?_
    have := (mem_ready.1 hi).1
    rw [hI.mem] at this
    simp at this
  | succ fuel ih =>
    intro listed rest ω E h w r a hl hI hG hS hw hQ
    refine ⟨fun hr => ?_, fun i hi => ?_⟩
    · cases rest with
      | nil => simp at hl
      | cons p rest =>
        obtain ⟨i, x⟩ := p
        have hin : i ∈ Region.ready .any ops listed := by
          obtain ⟨o, ho, _⟩ := hI.ok (i, x) (by simp)
          exact mem_ready.2 ⟨(hI.mem i).2 (by simp), o, ho, fun e he hb => hI.line.1 o ho e he hb⟩
        rw [hr] at hin
        simp at hin
    · obtain ⟨hun, o, ho, hall⟩ := mem_ready.1 hi
      obtain ⟨p, hp, hpi⟩ := List.mem_map.1 ((hI.mem i).1 hun)
      obtain ⟨i', x⟩ := p
      simp only at hpi
      subst hpi
      obtain ⟨pre, post, hsplit⟩ := List.append_of_mem hp
      subst hsplit
      obtain ⟨o', ho', hok⟩ := hI.ok (i', x) hp
      rw [ho] at ho'
      cases ho'
      obtain ⟨hpairs, hpre⟩ := okPairs_mid hI.pairs
      have hind : ∀ y ∈ pre.map (·.2), indep y x = true := fun y hy => by
        obtain ⟨p, hp', rfl⟩ := List.mem_map.1 hy
        have := hpre p hp'
        rw [Bool.or_eq_true] at this
        rcases this with ht | hd
        · have hlis := reach_ready hI.closed (hms _ _ ht) (fun o'' ho'' e he hb => by rw [ho] at ho''; cases ho''; exact hall e he hb)
          have hu := (hI.mem p.1).2 (List.mem_map.2 ⟨p, by simp [hp'], rfl⟩)
          exact (getD_contra hu hlis).elim
        · exact hd
      have hmap : (pre ++ (i', x) :: post).map (·.2) = pre.map (·.2) ++ x :: post.map (·.2) := by simp
      have hmap2 : (pre ++ post).map (·.2) = pre.map (·.2) ++ post.map (·.2) := by simp
      rw [hmap] at hw hQ
      unfold wpOpIn
      simp only [ho]
      have hI' : DInv P GT N ops ms (listed.setIfInBounds i' true) (pre ++ post) := by
        have hnd := hI.nodup
        rw [List.map_append, List.map_cons] at hnd
        have hni : i' ∉ (pre ++ post).map (·.1) := by
          rw [List.nodup_append] at hnd
          obtain ⟨n1, n2, n3⟩ := hnd
          rw [List.nodup_cons] at n2
          rw [List.map_append, List.mem_append]
          intro hm
          rcases hm with hm | hm
          · exact n3 _ hm _ (by simp) rfl
          · exact n2.1 hm
        refine ⟨fun k => ?_, ?_, fun p hp' => hI.ok p ?_, hpairs, fun j oj hj hlj e he hb => ?_, ?_⟩
        · by_cases hk : i' = k
          · subst hk
            constructor
            · intro hx
              have hlt : i' < listed.size := by
                rcases Nat.lt_or_ge i' listed.size with h' | h'
                · exact h'
                · simp [Array.getElem?_eq_none h'] at hun
              simp [hlt] at hx
            · intro hx; exact absurd hx hni
          · rw [getD_set_ne true hk, hI.mem]
            simp only [List.map_append,List.map_cons,List.mem_append,List.mem_cons]
            constructor
            · intro hx
              rcases hx with hx | hx | hx
              · exact .inl hx
              · exact absurd hx.symm hk
              · exact .inr hx
            · intro hx; exact hx.imp id .inr
        · rw [List.map_append]
          rw [List.nodup_append] at hnd ⊢
          obtain ⟨n1, n2, n3⟩ := hnd
          exact ⟨n1, (List.nodup_cons.1 n2).2, fun a ha b hb => n3 a ha b (by simp [hb])⟩
        · rcases List.mem_append.1 hp' with hp' | hp'
          · simp [hp']
          · simp [hp']
        · by_cases hij : i' = j
          · subst hij
            rw [ho] at hj
            cases hj
            exact getD_set_true (hall e he hb)
          · rw [getD_set_ne false hij] at hlj
            exact getD_set_true (hI.closed j oj hj hlj e he hb)
        · refine hI.line.take.mono fun k hk => ?_
          rcases hk with hk | hk
          · exact getD_set_true hk
          · subst hk
            have hlt : k < listed.size := by
              rcases Nat.lt_or_ge k listed.size with h' | h'
              · exact h'
              · simp [Array.getElem?_eq_none h'] at hun
            simp [hlt]
      have bub : ∀ ω', Agree h.length ω ω' → ∃ s r1 h1, execs (kont F n tot ω') (pre.map (·.2) ++ x :: post.map (·.2)) r h = some s ∧ exec1 (kont F n tot ω') x r h = some (r1, h1) ∧ execs (kont F n tot ω') (pre.map (·.2) ++ post.map (·.2)) r1 h1 = some s := fun ω' hω => by
        obtain ⟨s, hs⟩ := Option.isSome_iff_exists.1 (hw ω' hω)
        obtain ⟨r1, h1, e1, e2⟩ := bubble _ hS.s hind hs
        exact ⟨s, r1, h1, hs, e1, e2⟩
      refine op_in (exec1_sound (ρ := ρ) (ω := ω) (tot := tot) CO hG hS hok (fun ω' hω => ?_) fun a' w' hA => ?_)
      · obtain ⟨s, r1, h1, e0, e1, e2⟩ := bub ω' hω
        rw [e1]; rfl
      · obtain ⟨ω1, E1, r1, h1, q1, q2, q3, q4⟩ := hA
        have q2' : ∀ ω', Agree h1.length ω1 ω' → exec1 (kont F n tot ω') x r h = some (r1, h1) := fun ω' hω => by
          obtain ⟨y, e1, e2⟩ := map_some (q2 ω' hω)
          cases e2
          exact e1
        have hle := q3.length hS.h q4.h
        refine ih _ (pre ++ post) (ω := ω1) (by simp at hl ⊢; omega) hI' (hG.mono q3.le) q4 (fun ω' hω => ?_) fun a2 w2 hA2 => hQ a2 w2 ?_
        · rw [hmap2]
          obtain ⟨s, r1', h1', e0, e1, e2⟩ := bub ω' (q1.trans (hω.le hle))
          rw [q2' ω' hω] at e1
          cases e1
          rw [e2]; rfl
        · obtain ⟨ω2, E2, r2, h2, p1, p2, p3, p4⟩ := hA2
          have hle2 := p3.length q4.h p4.h
          refine ⟨ω2, E2, r2, h2, q1.trans (p1.le hle), fun ω' hω => ?_, q3.trans p3, p4⟩
          have ha1 : Agree h1.length ω1 ω' := p1.trans (hω.le hle2)
          obtain ⟨s, r1', h1', e0, e1, e2⟩ := bub ω' (q1.trans (ha1.le hle))
          rw [q2' ω' ha1] at e1
          cases e1
          have := p2 ω' hω
          rw [hmap2] at this
          simp only [e2] at this
          simp only [e0]
          exact this

theorem zip_ok {ops : Array Oper} : ∀ {ord : List Nat} {xs : List AOper}, okOpers P GT N ops ord xs = true → ord.length = xs.length ∧ ∀ p ∈ ord.zip xs, ∃ o, ops[p.1]? = some o ∧ okOper P GT N ops o p.2 = true
  | [], [], _ => ⟨rfl, fun p hp => by simp at hp⟩
  | [], x :: xs, h => by simp [okOpers] at h
  | i :: l, [], h => by simp [okOpers] at h
  | i :: l, x :: xs, h => by
    simp only [okOpers,Bool.and_eq_true] at h
    obtain ⟨h1, h2⟩ := h
    obtain ⟨q1, q2⟩ := zip_ok h2
    refine ⟨by simp [q1], fun p hp => ?_⟩
    rw [List.zip_cons_cons] at hp
    rcases List.mem_cons.1 hp with rfl | hp
    · split at h1
      · rename_i o ho; exact ⟨o, ho, h1⟩
      · cases h1
    · exact q2 p hp

theorem draw_ok {ρ : Option Nat} (CO : CallsOk P GT F n) (hm : P.follows .mixedOrders = true)  {id : Nat} {ops : Array Oper} {ord : List Nat} {xs : List AOper} (hk : okDraw P GT N ops ord xs = true) {ω : Nat → Nat} {E : Env} {h : Hp} {w : World} {r : Regs} {a : Act} {Q : Exit → Act → World → Prop} (hG : GOk E GT) (hS : SRel N E h w r a)
    (hw : ∀ ω', Agree h.length ω ω' → (execs (kont F n tot ω') xs r h).isSome = true) (hQ : ∀ a' w', After N ω E h w r a (fun ω' => (execs (kont F n tot ω') xs r h).map fun y => ((), y)) () a' w' → Q .normal a' w') : (Code.region id ops true).wpIn (RF ρ) 0 P Q a w := by
  simp only [okDraw,Bool.and_eq_true,beq_iff_eq,decide_eq_true_eq,List.all_eq_true] at hk
  obtain ⟨⟨⟨⟨⟨k1, k2⟩, k3⟩, k4⟩, k5⟩, k6⟩ := hk
  obtain ⟨z1, z2⟩ := zip_ok k1
  have m1 : (ord.zip xs).map (·.1) = ord := by rw [List.map_fst_zip]; omega
  have m2 : (ord.zip xs).map (·.2) = xs := by rw [List.map_snd_zip]; omega
  have g : Grow w { w with drawn := w.drawn + 1 } := ⟨Nat.le_refl _, fun _ _ => rfl, rfl, rfl⟩
  have hS' : SRel N E h { w with drawn := w.drawn + 1 } r a := ⟨hS.f.grow g, hS.h.grow g, hS.s, hS.d.grow g, hS.n⟩
  have hlis : ∀ k, (Array.replicate ops.size false).getD k false = false := fun k => by
    rcases Nat.lt_or_ge k ops.size with h' | h'
    · simp [h']
    · simp [Array.getElem?_eq_none,h']
  refine wpIn_region_any hm ?_
  refine draw_any (ρ := ρ) (ω := ω) (tot := tot) CO (ms := masks ops.toList []) (masks_reach ops.toList [] (by simp) (fun j i ht => by simp at ht)) ops.size _ (ord.zip xs) (by rw [List.length_zip]; omega) ⟨fun k => ?_, by rw [m1]; exact k4, z2, k6, fun j o ho hl => (by rw [hlis] at hl; cases hl), ?_⟩ hG hS' (by rw [m2]; exact hw) fun a' w' hA => hQ a' w' ?_
  · rw [m1]
    constructor
    · intro hx
      have hlt : k < ops.size := by
        rcases Nat.lt_or_ge k ops.size with h' | h'
        · exact h'
        · simp [Array.getElem?_eq_none,h'] at hx
      have := k2 k (List.mem_range.2 hlt)
      simpa using this
    · intro hx
      obtain ⟨o, ho, _⟩ : ∃ o, ops[k]? = some o ∧ True := by
        have : k ∈ (ord.zip xs).map (·.1) := by rw [m1]; exact hx
        obtain ⟨p, hp, rfl⟩ := List.mem_map.1 this
        obtain ⟨o, ho, _⟩ := z2 p hp
        exact ⟨o, ho, trivial⟩
      have hlt := (Array.getElem?_eq_some_iff.1 ho).1
      simp [hlt]
  · exact (line_of k5).mono fun k hk => by simp at hk
  · rw [m2] at hA
    obtain ⟨ω1, E1, r1, h1, q1, q2, q3, q4⟩ := hA
    exact ⟨ω1, E1, r1, h1, q1, q2, (Keep.grow E h (FV r a) g).trans q3, q4⟩
end
end Go.Im

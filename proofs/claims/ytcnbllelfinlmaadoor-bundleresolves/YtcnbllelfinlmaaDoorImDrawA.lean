/- ImDrawA: regions whose operations are done in any order, of which some do not go past one another: several orders are tried, and must come to the same. -/
import Derived.Test.YtcnbllelfinlmaaDoorImDraw
set_option linter.unusedVariables false
set_option linter.unusedSimpArgs false
namespace Go.Im

def pOk (ms : List Nat) (xs : List AOper) (i j : Nat) : Bool := (ms.getD j 0).testBit i || match xs[i]?, xs[j]? with
  | some x, some y => indep x y
  | _, _ => false

def bub (ms : List Nat) (xs : List AOper) (i : Nat) (S : List Nat) : Bool := (S.takeWhile (· != i)).all fun k => pOk ms xs k i

def sk (ms : List Nat) (xs : List AOper) : Nat → List (List Nat) → Bool
  | 0, _ => false
  | m + 1, Ss => match Ss with
    | [] => false
    | S :: _ => S.all fun i => (S.any fun k => (ms.getD i 0).testBit k) || sk ms xs m ((Ss.filter (bub ms xs i)).map (·.filter (· != i)))

def badOf (ms : List Nat) (xs : List AOper) : List Nat → List Nat
  | [] => []
  | i :: l => (l.filter fun j => !pOk ms xs i j) ++ ((if l.any fun j => !pOk ms xs i j then [i] else []) ++ badOf ms xs l)

def okOrd (ops : Array Oper) (ms : List Nat) (xs : List AOper) (nc : List Nat) (o : List Nat) : Bool :=
  o.length == ops.size && decide o.Nodup && (List.range ops.size).all (fun i => o.contains i) && okLine ops [] o && decide (o.Pairwise fun i j => (pOk ms xs i j || (nc.contains i && nc.contains j)) = true)

def okDrawA (P : Program) (GT : Nat → Option AV) (N : Nat) (ops : Array Oper) (ords : List (List Nat)) (xs : List AOper) : Bool :=
  match ords with
  | [ord] => okDraw P GT N ops ord xs
  | _ => okOpers P GT N ops (List.range ops.size) xs && (let ms := masks ops.toList []; let nc := (ords.flatMap (badOf ms xs)).eraseDups
      ords.all (okOrd ops ms xs nc) && sk ms xs (nc.length + 1) (ords.map (·.filter nc.contains)))

section
variable {P : Program} {GT : GTab} {F : Fns} {n : Nat} {tot : Bool} {N : Nat} {K : Kont}

def LineN (ops : Array Oper) : (Nat → Prop) → List Nat → Prop
  | _, [] => True
  | L, i :: l => (∀ o, ops[i]? = some o → ∀ e ∈ o.after, Region.binds .any e = true → L e.on) ∧ LineN ops (fun k => L k ∨ k = i) l

theorem LineN.mono {ops : Array Oper} : ∀ {l : List Nat} {L L' : Nat → Prop}, (∀ k, L k → L' k) → LineN ops L l → LineN ops L' l
  | [], _, _, _, _ => trivial
  | i :: l, L, L', hm, h => ⟨fun o ho e he hb => hm _ (h.1 o ho e he hb), LineN.mono (fun k hk => hk.imp (hm k) id) h.2⟩

theorem LineN.take {ops : Array Oper} {i : Nat} {post : List Nat} : ∀ {pre : List Nat} {L : Nat → Prop}, LineN ops L (pre ++ i :: post) → LineN ops (fun k => L k ∨ k = i) (pre ++ post)
  | [], L, h => h.2
  | j :: pre, L, h => ⟨fun o ho e he hb => .inl (h.1 o ho e he hb), (LineN.take h.2).mono fun k hk => by
      rcases hk with (hk | hk) | hk
      · exact .inl (.inl hk)
      · exact .inr hk
      · exact .inl (.inr hk)⟩

theorem lineN_of {ops : Array Oper} : ∀ {ord done : List Nat}, okLine ops done ord = true → LineN ops (fun k => k ∈ done) ord
  | [], done, _ => trivial
  | i :: l, done, h => by
    simp only [okLine,Bool.and_eq_true] at h
    obtain ⟨h1, h2⟩ := h
    split at h1
    · rename_i o ho
      refine ⟨fun o' ho' e he hb => ?_, (lineN_of h2).mono fun k hk => ?_⟩
      · rw [ho] at ho'
        cases ho'
        have := List.all_eq_true.1 h1 e (by simpa using he)
        rw [hb] at this
        simpa using this
      · rcases List.mem_cons.1 hk with hk | hk
        · exact .inr hk
        · exact .inl hk
    · cases h1

structure AInv (ops : Array Oper) (ms : List Nat) (xs : List AOper) (nc : List Nat) (listed : Array Bool) (fuel : Nat) (L : List Nat) : Prop where
  len : L.length = fuel
  mem : ∀ k, listed.getD k true = false ↔ k ∈ L
  nodup : L.Nodup
  op : ∀ k ∈ L, ∃ o, ops[k]? = some o
  line : LineN ops (fun k => listed.getD k false = true) L
  ok : L.Pairwise fun i j => (pOk ms xs i j || (nc.contains i && nc.contains j)) = true

theorem inOrd_mid {xs : List AOper} {i : Nat} {x : AOper} (hx : xs[i]? = some x) (pre post : List Nat) : inOrd xs (pre ++ i :: post) = inOrd xs pre ++ x :: inOrd xs post := by
  simp [inOrd,List.filterMap_append,hx]

theorem filter_ne_of {i : Nat} {l : List Nat} (h : i ∉ l) : l.filter (· != i) = l := by
  rw [List.filter_eq_self]
  intro a ha
  simp only [bne_iff_ne,ne_eq]
  rintro rfl
  exact h ha

theorem filter_ne_mid {i : Nat} {pre post : List Nat} (h1 : i ∉ pre) (h2 : i ∉ post) : (pre ++ i :: post).filter (· != i) = pre ++ post := by
  rw [List.filter_append, List.filter_cons, filter_ne_of h1, filter_ne_of h2]
  simp

theorem drawA_any {ρ : Option Nat} (CO : CallsOk P GT F n) {ops : Array Oper} {ms : List Nat} {xs : List AOper} {nc : List Nat} (hms : ∀ j i, (ms.getD j 0).testBit i = true → Reach ops i j)
    (hxs : ∀ (i : Nat) (o : Oper), ops[i]? = some o → ∃ x : AOper, xs[i]? = some x ∧ okOper P GT N ops o x = true) {Q : Exit → Act → World → Prop} : ∀ (fuel : Nat) (listed : Array Bool) (Ls : List (List Nat)) (m : Nat) {ω : Nat → Nat} {E : Env} {h : Hp} {w : World} {r : Regs} {a : Act},
    (∀ L ∈ Ls, AInv ops ms xs nc listed fuel L) → (∀ j o, ops[j]? = some o → listed.getD j false = true → ∀ e ∈ o.after, Region.binds .any e = true → listed.getD e.on false = true) → sk ms xs m (Ls.map (·.filter nc.contains)) = true →
    GOk E GT → SRel N E h w r a → (∀ ω', Agree h.length ω ω' → ∃ s, ∀ L ∈ Ls, execs (kont F n tot ω') (inOrd xs L) r h = some s) →
    (∀ a' w' L, L ∈ Ls → After N ω E h w r a (fun ω' => (execs (kont F n tot ω') (inOrd xs L) r h).map fun y => ((), y)) () a' w' → Q .normal a' w') → wpAnyIn (RF ρ) 0 P .any ops Q fuel listed a w := by
  intro fuel
  induction fuel with
  | zero =>
    intro listed Ls m ω E h w r a hI hcl hsk hG hS hw hQ
    cases Ls with
    | nil => cases m <;> simp [sk] at hsk
    | cons L Ls =>
      have hL := hI L (by simp)
      have : L = [] := List.eq_nil_of_length_eq_zero hL.len
      subst this
      refine ⟨?_, hQ a w [] (by simp) ⟨ω, E, r, h, .refl _ _, fun ω' _ => rfl, .refl _ _ _ _, hS⟩⟩
      refine List.eq_nil_iff_forall_not_mem.2 fun i hi => ?_
      have := (mem_ready.1 hi).1
      rw [hL.mem] at this
      simp at this
  | succ fuel ih =>
    intro listed Ls m ω E h w r a hI hcl hsk hG hS hw hQ
    refine ⟨fun hr => ?_, fun i hi => ?_⟩
    · cases Ls with
      | nil => cases m <;> simp [sk] at hsk
      | cons L Ls =>
        have hL := hI L (by simp)
        cases L with
        | nil => have := hL.len; simp at this
        | cons i rest =>
          have hun := (hL.mem i).2 (by simp)
          obtain ⟨o, ho⟩ := hL.op i (by simp)
          have hin : i ∈ Region.ready .any ops listed := mem_ready.2 ⟨hun, o, ho, fun e he hb => hL.line.1 o ho e he hb⟩
          rw [hr] at hin
          simp at hin
    · obtain ⟨hun, o, ho, hall⟩ := mem_ready.1 hi
      obtain ⟨x, hx, hok⟩ := hxs i o ho
      have hmask : ∀ L ∈ Ls, ∀ k ∈ L, (ms.getD i 0).testBit k = true → False := fun L hL k hk ht => by
        have hlis := reach_ready hcl (hms _ _ ht) (fun o'' ho'' e he hb => by rw [ho] at ho''; cases ho''; exact hall e he hb)
        exact getD_contra (((hI L hL).mem k).2 hk) hlis
      have hin : ∀ L ∈ Ls, i ∈ L := fun L hL => ((hI L hL).mem i).1 hun
      -- those that agree
      obtain ⟨alive, m', hsub, hal, hsk'⟩ : ∃ (alive : List (List Nat)) (m' : Nat), (∀ L ∈ alive, L ∈ Ls) ∧ (∀ L ∈ alive, ∀ pre post, L = pre ++ i :: post → ∀ k ∈ pre, pOk ms xs k i = true) ∧ sk ms xs m' ((alive.map (·.filter (· != i))).map (·.filter nc.contains)) = true := by
        by_cases hnc : nc.contains i = true
        · cases m with
          | zero => simp [sk] at hsk
          | succ m =>
            cases Ls with
            | nil => simp [sk] at hsk
            | cons L0 Ls =>
              simp only [List.map_cons,sk,List.all_eq_true] at hsk
              have h1 := hsk i (List.mem_filter.2 ⟨hin L0 (by simp), hnc⟩)
              rw [Bool.or_eq_true] at h1
              rcases h1 with h1 | h1
              · obtain ⟨k, hk, ht⟩ := List.any_eq_true.1 h1
                exact (hmask L0 (by simp) k (List.mem_filter.1 hk).1 ht).elim
              · rw [← List.map_cons (f := fun (L : List Nat) => L.filter nc.contains)] at h1
                refine ⟨(L0 :: Ls).filter fun L => bub ms xs i (L.filter nc.contains), m, fun L hL => (List.mem_filter.1 hL).1, fun L hL pre post e k hk => ?_, ?_⟩
                · obtain ⟨hL1, hL2⟩ := List.mem_filter.1 hL
                  have hA := hI L hL1
                  subst e
                  have hpw := hA.ok
                  rw [List.pairwise_append] at hpw
                  have h2 := hpw.2.2 k hk i (by simp)
                  rw [Bool.or_eq_true] at h2
                  rcases h2 with h2 | h2
                  · exact h2
                  · rw [Bool.and_eq_true] at h2
                    have hnd := hA.nodup
                    rw [List.nodup_append] at hnd
                    have hki : k ≠ i := hnd.2.2 k hk i (by simp)
                    simp only [bub,List.all_eq_true] at hL2
                    refine hL2 k ?_
                    rw [List.filter_append, List.filter_cons, if_pos hnc, List.takeWhile_append_of_pos]
                    · rw [List.mem_append]; left; exact List.mem_filter.2 ⟨hk, h2.1⟩
                    · intro a ha
                      have := (List.mem_filter.1 ha).1
                      have hne := hnd.2.2 a this i (by simp)
                      simpa using hne
                · rw [List.filter_map] at h1
                  have e1 : ∀ (l : List (List Nat)), (l.map (·.filter (· != i))).map (·.filter nc.contains) = (l.map (·.filter nc.contains)).map (·.filter (· != i)) := fun l => by
                    rw [List.map_map, List.map_map]
                    refine List.map_congr_left fun L _ => ?_
                    simp only [Function.comp_apply,List.filter_filter]
                    refine List.filter_congr fun a _ => ?_
                    rw [Bool.and_comm]
                  rw [e1]
                  exact h1
        · refine ⟨Ls, m, fun L hL => hL, fun L hL pre post e k hk => ?_, ?_⟩
          · have hA := hI L hL
            subst e
            have hpw := hA.ok
            rw [List.pairwise_append] at hpw
            have h2 := hpw.2.2 k hk i (by simp)
            rw [Bool.or_eq_true] at h2
            rcases h2 with h2 | h2
            · exact h2
            · rw [Bool.and_eq_true] at h2
              exact absurd h2.2 hnc
          · have e1 : (Ls.map (·.filter (· != i))).map (·.filter nc.contains) = Ls.map (·.filter nc.contains) := by
              rw [List.map_map]
              refine List.map_congr_left fun L _ => ?_
              simp only [Function.comp_apply,List.filter_filter]
              refine List.filter_congr fun a _ => ?_
              by_cases ha : a = i
              · subst ha; simp only [Bool.not_eq_true] at hnc; rw [hnc]; rfl
              · simp [ha]
            rw [e1]; exact hsk
      unfold wpOpIn
      simp only [ho]
      have hI' : ∀ L ∈ alive.map (·.filter (· != i)), AInv ops ms xs nc (listed.setIfInBounds i true) fuel L := fun L' hL' => by
        obtain ⟨L, hL, rfl⟩ := List.mem_map.1 hL'
        have hA := hI L (hsub L hL)
        obtain ⟨pre, post, e⟩ := List.append_of_mem (hin L (hsub L hL))
        have hnd := hA.nodup
        rw [e, List.nodup_append, List.nodup_cons] at hnd
        obtain ⟨n1, ⟨n2, n3⟩, n4⟩ := hnd
        have hpre : i ∉ pre := fun hm => n4 i hm i (by simp) rfl
        have e2 : L.filter (· != i) = pre ++ post := by rw [e, filter_ne_mid hpre n2]
        rw [e2]
        have hni : i ∉ pre ++ post := by rw [List.mem_append]; exact fun h => h.elim hpre n2
        have hlt : i < listed.size := by
          rcases Nat.lt_or_ge i listed.size with h' | h'
          · exact h'
          · simp [Array.getElem?_eq_none h'] at hun
        refine ⟨?_, fun k => ?_, ?_, fun k hk => hA.op k ?_, ?_, ?_⟩
        · have := hA.len; rw [e] at this; simp at this ⊢; omega
        · by_cases hk : i = k
          · subst hk
            constructor
            · intro hx; simp [hlt] at hx
            · intro hx; exact absurd hx hni
          · rw [getD_set_ne true hk, hA.mem, e]
            simp only [List.mem_append,List.mem_cons]
            constructor
            · intro hx
              rcases hx with hx | hx | hx
              · exact .inl hx
              · exact absurd hx.symm hk
              · exact .inr hx
            · intro hx; exact hx.imp id .inr
        · rw [List.nodup_append]
          exact ⟨n1, n3, fun a ha b hb => n4 a ha b (by simp [hb])⟩
        · rw [e, List.mem_append, List.mem_cons]
          rw [List.mem_append] at hk
          exact hk.imp id .inr
        · have hl := hA.line
          rw [e] at hl
          refine hl.take.mono fun k hk => ?_
          rcases hk with hk | hk
          · exact getD_set_true hk
          · subst hk; simp [hlt]
        · rw [← e2]; exact hA.ok.filter _
      have bub : ∀ ω', Agree h.length ω ω' → ∃ s r1 h1, exec1 (kont F n tot ω') x r h = some (r1, h1) ∧ ∀ L ∈ alive, execs (kont F n tot ω') (inOrd xs L) r h = some s ∧ execs (kont F n tot ω') (inOrd xs (L.filter (· != i))) r1 h1 = some s := fun ω' hω => by
        obtain ⟨s, hs⟩ := hw ω' hω
        have each : ∀ L ∈ alive, ∃ r1 h1, exec1 (kont F n tot ω') x r h = some (r1, h1) ∧ execs (kont F n tot ω') (inOrd xs (L.filter (· != i))) r1 h1 = some s := fun L hL => by
          have hA := hI L (hsub L hL)
          obtain ⟨pre, post, e⟩ := List.append_of_mem (hin L (hsub L hL))
          have hnd := hA.nodup
          rw [e, List.nodup_append, List.nodup_cons] at hnd
          obtain ⟨n1, ⟨n2, n3⟩, n4⟩ := hnd
          have hpre : i ∉ pre := fun hm => n4 i hm i (by simp) rfl
          have e2 : L.filter (· != i) = pre ++ post := by rw [e, filter_ne_mid hpre n2]
          have h1 := hs L (hsub L hL)
          rw [e, inOrd_mid hx] at h1
          have hind : ∀ y ∈ inOrd xs pre, indep y x = true := fun y hy => by
            obtain ⟨k, hk, hy⟩ := List.mem_filterMap.1 hy
            have := hal L hL pre post e k hk
            simp only [pOk,hy,hx,Bool.or_eq_true] at this
            rcases this with ht | hd
            · exact (hmask L (hsub L hL) k (by rw [e]; simp [hk]) ht).elim
            · exact hd
          obtain ⟨r1, h1', p1, p2⟩ := bubble _ hS.s hind h1
          refine ⟨r1, h1', p1, ?_⟩
          rw [e2]
          simpa [inOrd, List.filterMap_append] using p2
        cases hal0 : alive with
        | nil => rw [hal0] at hsk'; cases m' <;> simp [sk] at hsk'
        | cons L0 rest =>
          obtain ⟨r1, h1, p1, p2⟩ := each L0 (by rw [hal0]; simp)
          refine ⟨s, r1, h1, p1, fun L hL => ⟨hs L (hsub L (by rw [hal0]; exact hL)), ?_⟩⟩
          obtain ⟨r1', h1', p1', p2'⟩ := each L (by rw [hal0]; exact hL)
          rw [p1] at p1'
          cases p1'
          exact p2'
      refine op_in (exec1_sound (ρ := ρ) (ω := ω) (tot := tot) CO hG hS hok (fun ω' hω => ?_) fun a' w' hA => ?_)
      · obtain ⟨s, r1, h1, e1, _⟩ := bub ω' hω
        rw [e1]; rfl
      · obtain ⟨ω1, E1, r1, h1, q1, q2, q3, q4⟩ := hA
        have q2' : ∀ ω', Agree h1.length ω1 ω' → exec1 (kont F n tot ω') x r h = some (r1, h1) := fun ω' hω => by
          obtain ⟨y, e1, e2⟩ := map_some (q2 ω' hω)
          cases e2
          exact e1
        have hle := q3.length hS.h q4.h
        refine ih _ _ m' (ω := ω1) hI' (fun j oj hj hlj e he hb => ?_) hsk' (hG.mono q3.le) q4 (fun ω' hω => ?_) fun a2 w2 L' hL' hA2 => ?_
        · by_cases hij : i = j
          · subst hij
            rw [ho] at hj
            cases hj
            exact getD_set_true (hall e he hb)
          · rw [getD_set_ne false hij] at hlj
            exact getD_set_true (hcl j oj hj hlj e he hb)
        · obtain ⟨s, r1', h1', e1, e2⟩ := bub ω' (q1.trans (hω.le hle))
          rw [q2' ω' hω] at e1
          cases e1
          refine ⟨s, fun L' hL' => ?_⟩
          obtain ⟨L, hL, rfl⟩ := List.mem_map.1 hL'
          exact (e2 L hL).2
        · obtain ⟨L, hL, rfl⟩ := List.mem_map.1 hL'
          refine hQ a2 w2 L (hsub L hL) ?_
          obtain ⟨ω2, E2, r2, h2, p1, p2, p3, p4⟩ := hA2
          have hle2 := p3.length q4.h p4.h
          refine ⟨ω2, E2, r2, h2, q1.trans (p1.le hle), fun ω' hω => ?_, q3.trans p3, p4⟩
          have ha1 : Agree h1.length ω1 ω' := p1.trans (hω.le hle2)
          obtain ⟨s, r1', h1', e1, e2⟩ := bub ω' (q1.trans (ha1.le hle))
          rw [q2' ω' ha1] at e1
          cases e1
          have := p2 ω' hω
          simp only [(e2 L hL).2] at this
          simp only [(e2 L hL).1]
          exact this

theorem execA_all {xs : List AOper} {r : Regs} {h : Hp} {s : Regs × Hp} : ∀ (os : List (List Nat)), execA K xs os r h = some s → ∀ o ∈ os, execs K (inOrd xs o) r h = some s
  | [], he => by simp [execA] at he
  | [o], he => fun o' ho' => by
    rw [List.mem_singleton] at ho'
    subst ho'
    exact he
  | o :: o2 :: os, he => by
    simp only [execA] at he
    split at he
    · rename_i r1 h1 r2 h2 e1 e2
      split at he
      · rename_i hc
        rw [Bool.and_eq_true, eqRegs_iff, eqHp_iff] at hc
        obtain ⟨rfl, rfl⟩ := hc
        cases he
        intro o' ho'
        rcases List.mem_cons.1 ho' with rfl | ho'
        · exact e1
        · exact execA_all (o2 :: os) e2 o' ho'
      · cases he
    · cases he

theorem okOpers_range {ops : Array Oper} {xs : List AOper} : ∀ (k m : Nat) (ys : List AOper), okOpers P GT N ops (List.range' k m) ys = true → ∀ (i : Nat) (o : Oper), k ≤ i → i < k + m → ops[i]? = some o → ∃ x : AOper, ys[i - k]? = some x ∧ okOper P GT N ops o x = true
  | k, 0, ys, h, i, o, h1, h2, ho => by omega
  | k, m + 1, [], h, i, o, h1, h2, ho => by simp [okOpers,List.range'] at h
  | k, m + 1, y :: ys, h, i, o, h1, h2, ho => by
    simp only [List.range',okOpers,Bool.and_eq_true] at h
    by_cases hik : i = k
    · subst hik
      rw [ho] at h
      exact ⟨y, by simp, h.1⟩
    · obtain ⟨x, q1, q2⟩ := okOpers_range (xs := xs) (k + 1) m ys h.2 i o (by omega) (by omega) ho
      refine ⟨x, ?_, q2⟩
      rw [show i - k = (i - (k + 1)) + 1 by omega, List.getElem?_cons_succ]
      exact q1

theorem draws_ok (CO : CallsOk P GT F n) (hm : P.follows .mixedOrders = true) : DrawsOk P GT F n tot N (okDrawA P GT N) := by
  refine ⟨fun id ops ord xs hk ρ ω E h w r a Q hG hS hw hQ => draw_ok CO hm (by simpa [okDrawA] using hk) hG hS hw hQ, fun id ops ords xs hl hk ρ ω E h w r a Q hG hS hw hQ => ?_⟩
  unfold okDrawA at hk
  split at hk
  · simp at hl
  rw [Bool.and_eq_true] at hk
  obtain ⟨k1, k2⟩ := hk
  simp only [Bool.and_eq_true,List.all_eq_true] at k2
  obtain ⟨k2, k3⟩ := k2
  have hxs : ∀ (i : Nat) (o : Oper), ops[i]? = some o → ∃ x : AOper, xs[i]? = some x ∧ okOper P GT N ops o x = true := fun i o ho => by
    rw [List.range_eq_range'] at k1
    have hlt := (Array.getElem?_eq_some_iff.1 ho).1
    have := okOpers_range (xs := xs) 0 ops.size xs k1 i o (Nat.zero_le _) (by omega) ho
    simpa using this
  have g : Grow w { w with drawn := w.drawn + 1 } := ⟨Nat.le_refl _, fun _ _ => rfl, rfl, rfl⟩
  have hS' : SRel N E h { w with drawn := w.drawn + 1 } r a := ⟨hS.f.grow g, hS.h.grow g, hS.s, hS.d.grow g, hS.n⟩
  have hlis : ∀ k, (Array.replicate ops.size false).getD k false = false := fun k => by
    rcases Nat.lt_or_ge k ops.size with h' | h'
    · simp [h']
    · simp [Array.getElem?_eq_none,h']
  refine wpIn_region_any hm ?_
  refine drawA_any (ρ := ρ) (ω := ω) (tot := tot) CO (ms := masks ops.toList []) (masks_reach ops.toList [] (by simp) (fun j i ht => by simp at ht)) hxs ops.size _ ords _ (fun o ho => ?_) (fun j o ho hl => (by rw [hlis] at hl; cases hl)) k3 hG hS' (fun ω' hω => ?_) fun a' w' o ho hA => hQ a' w' ?_
  · have hk := k2 o ho
    simp only [okOrd,Bool.and_eq_true,beq_iff_eq,decide_eq_true_eq,List.all_eq_true] at hk
    obtain ⟨⟨⟨⟨c1, c2⟩, c3⟩, c4⟩, c5⟩ := hk
    have hbound : ∀ k ∈ o, ∃ op, ops[k]? = some op := by
      have : ∀ (ord done : List Nat), okLine ops done ord = true → ∀ k ∈ ord, ∃ op, ops[k]? = some op := by
        intro ord
        induction ord with
        | nil => intro done _ k hk; simp at hk
        | cons i l ih =>
          intro done hl k hk
          simp only [okLine,Bool.and_eq_true] at hl
          rcases List.mem_cons.1 hk with rfl | hk
          · cases hop : ops[k]? with
            | some op => exact ⟨op, rfl⟩
            | none => rw [hop] at hl; cases hl.1
          · exact ih _ hl.2 k hk
      exact this o [] c4
    refine ⟨c1, fun k => ?_, c2, hbound, (lineN_of c4).mono fun k hk => by simp at hk, c5⟩
    constructor
    · intro hx
      have hlt : k < ops.size := by
        rcases Nat.lt_or_ge k ops.size with h' | h'
        · exact h'
        · simp [Array.getElem?_eq_none,h'] at hx
      have := c3 k (List.mem_range.2 hlt)
      simpa using this
    · intro hx
      obtain ⟨op, hop⟩ := hbound k hx
      have hlt := (Array.getElem?_eq_some_iff.1 hop).1
      simp [hlt]
  · obtain ⟨s, hs⟩ := Option.isSome_iff_exists.1 (hw ω' hω)
    exact ⟨s, execA_all ords hs⟩
  · obtain ⟨ω1, E1, r1, h1, q1, q2, q3, q4⟩ := hA
    have hle := q3.length hS'.h q4.h
    refine ⟨ω1, E1, r1, h1, q1, fun ω' hω => ?_, (Keep.grow E h (FV r a) g).trans q3, q4⟩
    obtain ⟨s, hs⟩ := Option.isSome_iff_exists.1 (hw ω' (q1.trans (hω.le hle)))
    have := q2 ω' hω
    simp only [execA_all ords hs o ho] at this
    simp only [hs]
    exact this
end
end Go.Im

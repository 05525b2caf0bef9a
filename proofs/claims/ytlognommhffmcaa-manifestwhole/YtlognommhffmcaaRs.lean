/- Joined: S13XPl, S13XRs. -/
import Derived.Test.YtlognommhffmcaaRr
/- S13XPl: the plain law: the program's step is the document's. -/
set_option linter.unusedVariables false
set_option linter.unusedSimpArgs false
open Go Go.Im
namespace Go.Proofs.Ytlognommhffmcaa.Im

/-! ### insertion, in general -/
section
variable {α : Type} {lt : α → α → Bool} {R : α → α → Prop}
def ins (lt : α → α → Bool) (t : α) : List α → List α
  | [] => [t]
  | u :: us => if lt t u = true then t :: u :: us else u :: ins lt t us
theorem ins_perm (t : α) : ∀ (l : List α), (ins lt t l).Perm (l ++ [t])
  | [] => .refl _
  | u :: us => by
    unfold ins
    split
    · exact (List.perm_append_comm (l₁ := [t]) (l₂ := u :: us))
    · exact (ins_perm t us).cons u
theorem ins_pair (S : Sort.SWO lt) (hR : ∀ a b, R a b → lt a b = true) (t : α) : ∀ (l : List α), l.Pairwise R → (∀ u ∈ l, R t u ∨ R u t) → (ins lt t l).Pairwise R
  | [], _, _ => by simp [ins]
  | u :: us, hp, hc => by
    have asym : ∀ a b, lt a b = true → lt b a = true → False := fun a b h1 h2 => by
      have := S.trans a b a h1 h2
      rw [S.irrefl] at this; cases this
    rw [List.pairwise_cons] at hp
    unfold ins
    split
    · rename_i h
      have htu : R t u := (hc u (by simp)).resolve_right fun h2 => asym _ _ h (hR _ _ h2)
      refine List.pairwise_cons.2 ⟨fun w hw => ?_, List.pairwise_cons.2 hp⟩
      rcases List.mem_cons.1 hw with rfl | hw
      · exact htu
      · exact (hc w (by simp [hw])).resolve_right fun h2 => asym _ _ (S.trans _ _ _ h (hR _ _ (hp.1 w hw))) (hR _ _ h2)
    · rename_i h
      have hut : R u t := (hc u (by simp)).resolve_left fun h2 => h (hR _ _ h2)
      refine List.pairwise_cons.2 ⟨fun w hw => ?_, ins_pair S hR t us hp.2 fun w hw => hc w (by simp [hw])⟩
      have := (ins_perm t us).mem_iff.1 hw
      rw [List.mem_append] at this
      rcases this with h3 | h3
      · exact hp.1 w h3
      · simp at h3; subst h3; exact hut
theorem uniq (hR : ∀ a b, R a b → lt a b = true) : ∀ (l1 l2 : List α), l1.Perm l2 → l1.Pairwise R → l2.Pairwise (fun x y => lt y x = false) → l1 = l2
  | [], l2, h, _, _ => (h.nil_eq)
  | a :: l1, [], h, _, _ => by have := h.length_eq; simp at this
  | a :: l1, b :: l2, h, h1, h2 => by
    rw [List.pairwise_cons] at h1 h2
    have hab : a = b := by
      have ha : a ∈ b :: l2 := h.mem_iff.1 (by simp)
      have hb : b ∈ a :: l1 := h.mem_iff.2 (by simp)
      rcases List.mem_cons.1 ha with e | ha
      · exact e
      · rcases List.mem_cons.1 hb with e | hb
        · exact e.symm
        · have q1 := hR _ _ (h1.1 b hb)
          have q2 := h2.1 a ha
          rw [q1] at q2; cases q2
    subst hab
    rw [uniq hR l1 l2 h.cons_inv h1.2 h2.2]
theorem pair_of (hR : ∀ a b, R a b → lt a b = true) {l : List α} (h1 : l.Pairwise (fun x y => lt y x = false)) (h2 : l.Pairwise fun a b => R a b ∨ R b a) : l.Pairwise R := by
  refine (h1.and h2).imp fun {a b} h => ?_
  obtain ⟨q1, q2⟩ := h
  exact q2.resolve_right fun q3 => by rw [hR _ _ q3] at q1; cases q1
end

/-! ### what is taken out -/
theorem erase_filter {α : Type} (p : α → Bool) : ∀ (l : List α), l.Pairwise (fun a b => p a = true → p b = true → False) → idxOf p l ≥ 0 → l.eraseIdx (idxOf p l).toNat = l.filter fun a => !p a
  | [], _, h => by simp [idxOf] at h
  | a :: l, hp, h => by
    rw [List.pairwise_cons] at hp
    cases ha : p a with
    | true =>
      have h0 : idxOf p (a :: l) = 0 := by simp [idxOf,ha]
      rw [h0]
      have : l.filter (fun a => !p a) = l := List.filter_eq_self.2 fun b hb => by
        cases hb2 : p b with
        | true => exact (hp.1 b hb ha hb2).elim
        | false => rfl
      simp [ha,this]
    | false =>
      have h1 : ¬ idxOf p l < 0 := by
        intro h2
        simp [idxOf,ha,h2] at h
      have h0 : idxOf p (a :: l) = idxOf p l + 1 := by simp [idxOf,ha,h1]
      rw [h0]
      have h3 : (idxOf p l + 1).toNat = (idxOf p l).toNat + 1 := by omega
      rw [h3, List.eraseIdx_cons_succ, erase_filter p l hp.2 (by omega)]
      simp [ha]

/-! ### texts -/
theorem sLe_not (a b : List UInt8) : sLe a b = !Op.bytesLess b a := by
  unfold sLe
  cases h1 : Op.bytesLess a b with
  | true =>
    cases h2 : Op.bytesLess b a with
    | true => have := bl_trans a b a h1 h2; rw [bl_irrefl] at this; cases this
    | false => rfl
  | false =>
    cases h2 : Op.bytesLess b a with
    | true =>
      have : (a == b) = false := by
        rw [beq_eq_false_iff_ne]
        rintro rfl
        rw [bl_irrefl] at h2; cases h2
      simp [this]
    | false => simp [bl_tri a b h1 h2]
theorem overl_eq (x : Ed) (t : Tb) : overl x t = overlR x t := by
  unfold overl overlR
  rw [sLe_not x.lo t.hi]
  by_cases h : t.l = x.l
  · rw [h]
    cases sLe t.lo x.hi <;> cases Op.bytesLess t.hi x.lo <;> simp
  · have hf : (t.l == x.l) = false := beq_eq_false_iff_ne.2 h
    simp [hf]

/-! ### the order of tables -/
def RT (a b : Tb) : Prop := ltT a b = true ∧ (a.l = b.l → a.l > 0 → Op.bytesLess a.hi b.lo = true)
def RS (a b : Sr) : Prop := a.f < b.f
theorem RT_lt (a b : Tb) (h : RT a b) : ltT a b = true := h.1
theorem RS_lt (a b : Sr) (h : RS a b) : ltS a b = true := by simp [ltS]; exact h

structure Inv (s : Ste) : Prop where
  nd : s.files.Nodup
  tb : s.tb.Pairwise RT
  sr : s.sr.Pairwise RS
  ok1 : ∀ t ∈ s.tb, t.ok ∧ sLe t.lo t.hi = true
  ok2 : ∀ t ∈ s.sr, t.ok

theorem Inv.ok {s : Ste} (h : Inv s) : s.ok := ⟨fun t ht => (h.ok1 t ht).1, h.ok2⟩

theorem hasF_mem {s : Ste} {f : Int} (h : hasF s f = false) : f ∉ s.files := by
  rw [← hasF_files, List.any_eq_false] at h
  intro hm
  have := h f hm
  simp at this

theorem comp_T {s : Ste} {x : Ed} (hI : Inv s) (h1 : badT x = false) (h2 : hasF s x.f = false) (h3 : s.tb.any (overl x) = false) : ∀ u ∈ s.tb, RT (edT x) u ∨ RT u (edT x) := by
  intro u hu
  have hx : sLe x.lo x.hi = true := by
    simp [badT] at h1; exact h1.2.2.2
  have huo := (hI.ok1 u hu).2
  have hne : u.f ≠ x.f := by
    rintro e
    apply hasF_mem h2
    rw [← e]
    simp only [Ste.files,List.mem_append,List.mem_map]
    exact .inl ⟨u, hu, rfl⟩
  rw [List.any_eq_false] at h3
  have ho := h3 u hu
  by_cases e : u.l = x.l
  · by_cases e0 : x.l = 0
    · have q1 : ltT (edT x) u = decide (u.f < x.f) := by simp [ltT,edT,e,e0]
      have q2 : ltT u (edT x) = decide (x.f < u.f) := by simp [ltT,edT,e,e0]
      by_cases hlt : u.f < x.f
      · exact .inl ⟨by rw [q1]; simpa using hlt, fun _ h => by simp [edT] at h; omega⟩
      · exact .inr ⟨by rw [q2]; simp; omega, fun _ h => by omega⟩
    · have hpos : x.l > 0 := by simp [badT] at h1; omega
      have q1 : ltT (edT x) u = Op.bytesLess x.lo u.lo := by simp [ltT,edT,e,e0]
      have q2 : ltT u (edT x) = Op.bytesLess u.lo x.lo := by simp [ltT,edT,e,e0]
      have ho2 : ¬ (sLe x.lo u.hi = true ∧ sLe u.lo x.hi = true) := by
        intro hh
        apply ho
        simp [overl,e,hpos,hh.1,hh.2]
      rw [sLe_not, sLe_not] at ho2
      rw [sLe_not] at hx huo
      cases c1 : Op.bytesLess u.hi x.lo with
      | true =>
        refine .inr ⟨?_, fun _ _ => c1⟩
        rw [q2]
        cases c2 : Op.bytesLess u.lo x.lo with
        | true => rfl
        | false =>
          have : Op.bytesLess u.hi u.lo = false := by simpa using huo
          have := bl_ntrans u.hi u.lo x.lo this c2
          rw [c1] at this; cases this
      | false =>
        rw [c1] at ho2
        have c2 : Op.bytesLess x.hi u.lo = true := by simpa using ho2
        refine .inl ⟨?_, fun _ _ => c2⟩
        rw [q1]
        cases c3 : Op.bytesLess x.lo u.lo with
        | true => rfl
        | false =>
          have : Op.bytesLess x.hi x.lo = false := by simpa using hx
          have := bl_ntrans x.hi x.lo u.lo this c3
          rw [c2] at this; cases this
  · by_cases hlt : u.l < x.l
    · exact .inr ⟨(show ltT u (edT x) = decide (u.l < x.l) from if_neg e).trans (decide_eq_true hlt), fun h => absurd h e⟩
    · refine .inl ⟨?_, fun h => absurd h.symm e⟩
      have : ¬ x.l = u.l := fun h => e h.symm
      exact (show ltT (edT x) u = decide (x.l < u.l) from if_neg this).trans (decide_eq_true (by omega))

/-! ### the document's loops -/
theorem goT_one {x : Ed} (hk : x.k = 1) : ∀ (us : List Tb) (fd : Bool) (out : List Tb), us.any (overl x) = false →
    goT x us true fd out = some (true, fd, out ++ us) ∧ ∃ p o, goT x us false fd out = some (p, fd, o) ∧ (if p = true then o else o ++ [edT x]) = out ++ ins ltT (edT x) us
  | [], fd, out, _ => ⟨by simp [goT], false, out, rfl, by simp [ins]⟩
  | u :: us, fd, out, h => by
    simp only [List.any_cons,Bool.or_eq_false_iff] at h
    have hu : overlR x u = false := by rw [← overl_eq]; exact h.1
    have i1 := goT_one hk us fd
    have c1 : ¬ (x.k = 1 ∧ overlR x u = true) := by rw [hu]; simp
    have c2 : ¬ (x.k = 2 ∧ u.f = x.f) := by omega
    refine ⟨?_, ?_⟩
    · rw [goT, if_neg c1, if_neg c2, if_neg (by simp), (i1 (out ++ [u]) h.2).1]
      simp
    · by_cases hl : ltT (edT x) u = true
      · refine ⟨true, out ++ [edT x, u] ++ us, ?_, ?_⟩
        · rw [goT, if_neg c1, if_neg c2, if_pos ⟨rfl, hl⟩, (i1 (out ++ [edT x, u]) h.2).1]
        · simp [ins,hl]
      · obtain ⟨p, o, e1, e2⟩ := (i1 (out ++ [u]) h.2).2
        refine ⟨p, o, ?_, ?_⟩
        · rw [goT, if_neg c1, if_neg c2, if_neg (by simp [hl]), e1]
        · rw [e2]; simp [ins,hl]
theorem goT_over {x : Ed} (hk : x.k = 1) : ∀ (us : List Tb) (put fd : Bool) (out : List Tb), us.any (overl x) = true → goT x us put fd out = none
  | [], _, _, _, h => by simp at h
  | u :: us, put, fd, out, h => by
    rw [goT]
    simp only [List.any_cons,Bool.or_eq_true] at h
    by_cases hu : overlR x u = true
    · rw [if_pos ⟨hk, hu⟩]
    · have : us.any (overl x) = true := h.resolve_left (by rw [overl_eq]; exact hu)
      rw [if_neg (by simp [hu]), if_neg (by omega)]
      split
      · exact goT_over hk us _ _ _ this
      · exact goT_over hk us _ _ _ this
theorem goT_other {x : Ed} (hk : x.k ≠ 1) : ∀ (us : List Tb) (fd : Bool) (out : List Tb), goT x us true fd out = some (true, fd || (x.k == 2 && us.any fun t => t.f == x.f), out ++ us.filter fun t => !(x.k == 2 && t.f == x.f))
  | [], fd, out => by simp [goT]
  | u :: us, fd, out => by
    rw [goT, if_neg (by simp [hk])]
    by_cases h2 : x.k = 2 ∧ u.f = x.f
    · rw [if_pos h2, goT_other hk us]
      simp [h2.1,h2.2]
    · rw [if_neg h2, if_neg (by simp), goT_other hk us]
      have : (x.k == 2 && u.f == x.f) = false := by
        rw [Bool.and_eq_false_iff]
        by_cases h3 : x.k = 2
        · right; simp; exact fun h => h2 ⟨h3, h⟩
        · left; simp [h3]
      simp only [List.any_cons,List.filter_cons,this]
      by_cases h3 : x.k = 2
      · have hf : (u.f == x.f) = false := beq_eq_false_iff_ne.2 fun h => h2 ⟨h3, h⟩
        simp [h3,hf]
      · have hk2 : (x.k == 2) = false := beq_eq_false_iff_ne.2 h3
        simp [hk2]
theorem goS_three {x : Ed} (hk : x.k = 3) : ∀ (us : List Sr) (fd : Bool) (out : List Sr),
    goS x us true fd out = (true, fd, out ++ us) ∧ ∃ p o, goS x us false fd out = (p, fd, o) ∧ (if p = true then o else o ++ [edS x]) = out ++ ins ltS (edS x) us
  | [], fd, out => ⟨by simp [goS], false, out, rfl, by simp [ins]⟩
  | u :: us, fd, out => by
    have i1 := goS_three hk us fd
    have c2 : ¬ (x.k = 4 ∧ u.f = x.f) := by omega
    refine ⟨?_, ?_⟩
    · rw [goS, if_neg c2, if_neg (by simp), (i1 (out ++ [u])).1]
      simp
    · by_cases hl : u.f > x.f
      · have hl2 : ltS (edS x) u = true := by simp only [ltS,edS]; exact decide_eq_true hl
        refine ⟨true, out ++ [edS x, u] ++ us, ?_, ?_⟩
        · rw [goS, if_neg c2, if_pos ⟨rfl, hl⟩, (i1 (out ++ [edS x, u])).1]
        · simp [ins,hl2]
      · have hl2 : ltS (edS x) u = false := by simp only [ltS,edS]; exact decide_eq_false hl
        obtain ⟨p, o, e1, e2⟩ := (i1 (out ++ [u])).2
        refine ⟨p, o, ?_, ?_⟩
        · rw [goS, if_neg c2, if_neg (by simp; omega), e1]
        · rw [e2]; simp [ins,hl2]
theorem goS_other {x : Ed} : ∀ (us : List Sr) (fd : Bool) (out : List Sr), goS x us true fd out = (true, fd || (x.k == 4 && us.any fun t => t.f == x.f), out ++ us.filter fun t => !(x.k == 4 && t.f == x.f))
  | [], fd, out => by simp [goS]
  | u :: us, fd, out => by
    rw [goS]
    by_cases h2 : x.k = 4 ∧ u.f = x.f
    · rw [if_pos h2, goS_other us]
      simp [h2.1,h2.2]
    · rw [if_neg h2, if_neg (by simp), goS_other us]
      have : (x.k == 4 && u.f == x.f) = false := by
        rw [Bool.and_eq_false_iff]
        by_cases h3 : x.k = 4
        · right; simp; exact fun h => h2 ⟨h3, h⟩
        · left; simp [h3]
      simp only [List.any_cons,List.filter_cons,this]
      by_cases h3 : x.k = 4
      · have hf : (u.f == x.f) = false := beq_eq_false_iff_ne.2 fun h => h2 ⟨h3, h⟩
        simp [h3,hf]
      · have hk2 : (x.k == 4) = false := beq_eq_false_iff_ne.2 h3
        simp [hk2]
theorem goL_eq {x : Ed} : ∀ (us : List Int) (fd : Bool) (out : List Int), goL x us fd out = (fd || (x.k == 6 && us.any fun y => x.f == y), out ++ us.filter fun y => !(x.k == 6 && x.f == y))
  | [], fd, out => by simp [goL]
  | u :: us, fd, out => by
    rw [goL]
    by_cases h2 : x.k = 6 ∧ u = x.f
    · rw [if_pos h2, goL_eq us]
      simp [h2.1,h2.2]
    · rw [if_neg h2, goL_eq us]
      have : (x.k == 6 && x.f == u) = false := by
        rw [Bool.and_eq_false_iff]
        by_cases h3 : x.k = 6
        · right; simp; exact fun h => h2 ⟨h3, h.symm⟩
        · left; simp [h3]
      simp only [List.any_cons,List.filter_cons,this]
      by_cases h3 : x.k = 6
      · have hf : (x.f == u) = false := beq_eq_false_iff_ne.2 fun h => h2 ⟨h3, h.symm⟩
        simp [h3,hf]
      · have hk2 : (x.k == 6) = false := beq_eq_false_iff_ne.2 h3
        simp [hk2]

/-! ### one step -/
theorem any_idx {α : Type} {p : α → Bool} (l : List α) : (idxOf p l < 0) ↔ l.any p = false := by
  have := idxOf_any (p := p) l
  constructor
  · intro h; rw [← this]; simp; omega
  · intro h; rw [h] at this; simp at this; omega

theorem oneT_sz {s : Ste} {x : Ed} {t : Bool × Bool × List Tb} : True := trivial

theorem nodup_T {s : Ste} (h : s.files.Nodup) : s.tb.Pairwise fun a b => a.f ≠ b.f := by
  simp only [Ste.files,List.nodup_append] at h
  have := h.1
  rw [List.Nodup, List.pairwise_map] at this
  exact this
theorem nodup_S {s : Ste} (h : s.files.Nodup) : s.sr.Pairwise fun a b => a.f ≠ b.f := by
  simp only [Ste.files,List.nodup_append] at h
  have := h.2.1.1
  rw [List.Nodup, List.pairwise_map] at this
  exact this
theorem nodup_L {s : Ste} (h : s.files.Nodup) : s.lg.Nodup := by
  simp only [Ste.files,List.nodup_append] at h
  exact h.2.1.2.1
theorem files_perm {a b c : List Int} {a' b' c' : List Int} (h1 : a.Perm a') (h2 : b.Perm b') (h3 : c.Perm c') : (a ++ (b ++ c)).Perm (a' ++ (b' ++ c')) := h1.append (h2.append h3)

theorem nodup_add {s s' : Ste} {f : Int} (h : s.files.Nodup) (hf : f ∉ s.files) (hp : s'.files.Perm (f :: s.files)) : s'.files.Nodup :=
  hp.nodup_iff.2 (List.nodup_cons.2 ⟨hf, h⟩)
theorem nodup_sub {s s' : Ste} (h : s.files.Nodup) (hs : s'.files.Sublist s.files) : s'.files.Nodup := h.sublist hs

theorem step_eq {s : Ste} {x : Ed} (hI : Inv s) (hxf : x.f ≤ 9223372036854775807) : (oneF s x).1 = errF s x ∧ (errF s x = 0 → Inv (oneF s x).2 ∧ (∀ s', stepR s x s' → s' = (oneF s x).2)) ∧ (errF s x ≠ 0 → (oneF s x).2 = s) := by
  have hTrue : ∀ {α : Type} (l : List α), l.filter (fun _ => true) = l := fun l => List.filter_eq_self.2 fun _ _ => rfl
  by_cases k1 : x.k = 1
  · have hadd : addsB x = true := by simp [addsB,k1]
    have he1 : e1P x ↔ x.f < 1 := by unfold e1P; rw [hadd]; simp; omega
    have he2 : e2P s x ↔ badT x = true := by
      unfold e2P
      constructor
      · rintro (h | h | h)
        · exact h.2
        · omega
        · omega
      · exact fun h => .inl ⟨k1, h⟩
    have hb1 : (x.k != 1) = false := by simp [k1]
    have hb3 : (x.k != 3) = true := by simp [k1]
    have hr : errF s x = if x.f < 1 then 1 else tableF s x := by simp [errF,k1]
    by_cases c1 : x.f < 1
    · have : oneF s x = (1, s) := by simp only [oneF,if_pos (he1.2 c1)]
      rw [this, hr, if_pos c1]
      exact ⟨rfl, fun h => by simp at h, fun _ => rfl⟩
    rw [if_neg c1] at hr
    by_cases c2 : badT x = true
    · have : oneF s x = (1, s) := by simp only [oneF,if_neg (fun h => c1 (he1.1 h)),if_pos (he2.2 c2)]
      rw [this, hr, tableF, if_pos c2]
      exact ⟨rfl, fun h => by simp at h, fun _ => rfl⟩
    by_cases c3 : hasF s x.f = true
    · have : oneF s x = (10, s) := by simp only [oneF,if_neg (fun h => c1 (he1.1 h)),if_neg (fun h => c2 (he2.1 h)),if_pos (And.intro hadd c3)]
      rw [this, hr, tableF, if_neg c2, if_pos c3]
      exact ⟨rfl, fun h => by simp at h, fun _ => rfl⟩
    have hone : oneF s x = match goT x s.tb false true [] with
      | none => (11, s)
      | some t => oneT s x t := by
      rw [oneF, if_neg (fun h => c1 (he1.1 h)), if_neg (fun h => c2 (he2.1 h)), if_neg (fun h : addsB x = true ∧ hasF s x.f = true => c3 h.2), hb1, hadd, Bool.true_or]; cases goT x s.tb _ true [] <;> rfl
    by_cases c4 : s.tb.any (overl x) = true
    · rw [goT_over k1 _ _ _ _ c4] at hone
      rw [hone, hr, tableF, if_neg c2, if_neg c3, if_pos c4]
      exact ⟨rfl, fun h => by simp at h, fun _ => rfl⟩
    have c4' : s.tb.any (overl x) = false := by simpa using c4
    have c2' : badT x = false := by simpa using c2
    have c3' : hasF s x.f = false := by simpa using c3
    obtain ⟨p, o, e1, e2⟩ := (goT_one k1 s.tb true [] c4').2
    rw [e1] at hone
    have g1 : goS x s.sr true true [] = (true, true, s.sr) := by
      rw [goS_other]
      have : (x.k == 4) = false := by simp [k1]
      simp [this,hTrue]
    have g2 : goL x s.lg true [] = (true, s.lg) := by
      rw [goL_eq]
      have : (x.k == 6) = false := by simp [k1]
      simp [this,hTrue]
    have hst : (oneF s x) = (0, ⟨ins ltT (edT x) s.tb, s.sr, s.lg, s.nx⟩) := by
      rw [hone]
      simp only [oneT,hb3,g1,g2,if_true,k1]
      simp only [List.nil_append] at e2
      rw [e2]
      simp [g1,g2]
    rw [hst, hr, tableF, if_neg c2, if_neg c3, if_neg c4]
    have hcomp := comp_T hI c2' c3' c4'
    have hp := ins_perm (lt := ltT) (edT x) s.tb
    have hRT := ins_pair (R := RT) swoT RT_lt (edT x) s.tb hI.tb hcomp
    refine ⟨rfl, fun _ => ⟨⟨?_, hRT, hI.sr, ?_, hI.ok2⟩, ?_⟩, fun h => absurd rfl h⟩
    · refine nodup_add hI.nd (hasF_mem c3') ?_
      simp only [Ste.files]
      have : ((ins ltT (edT x) s.tb).map (·.f)).Perm (x.f :: s.tb.map (·.f)) := by
        refine (hp.map (·.f)).trans ?_
        rw [List.map_append]
        exact List.perm_append_comm
      exact this.append_right _
    · intro t ht
      have := hp.mem_iff.1 ht
      rw [List.mem_append] at this
      rcases this with h | h
      · exact hI.ok1 t h
      · simp at h; subst h
        simp [badT] at c2'
        exact ⟨⟨by simp [edT]; omega, by simp [edT]; omega, by simp [edT]; omega, hxf⟩, c2'.2.2.2⟩
    · intro s' hs'
      rw [stepR, if_pos k1] at hs'
      obtain ⟨q1, q2, q3, q4, q5⟩ := hs'
      have : ins ltT (edT x) s.tb = s'.tb := uniq RT_lt _ _ (hp.trans q1.symm) hRT q2
      cases s'
      simp only at this q3 q4 q5 ⊢
      subst this q3 q4 q5
      rfl
  have hb1 : (x.k != 1) = true := by simp [k1]
  have hsubf : ∀ {α : Type} (f : α → Int) (l : List α) (q : α → Bool), ((l.filter q).map f).Sublist (l.map f) := fun f l q => (List.filter_sublist).map f
  by_cases k3 : x.k = 3
  · have hadd : addsB x = true := by simp [addsB,k3]
    have he1 : e1P x ↔ x.f < 1 := by unfold e1P; rw [hadd]; simp; omega
    have he2 : e2P s x ↔ (x.l ≠ 0 ∧ x.l ≠ 1) := by unfold e2P; omega
    have hb3 : (x.k != 3) = false := by simp [k3]
    have hr : errF s x = if x.f < 1 then 1 else if x.l ≠ 0 ∧ x.l ≠ 1 then 1 else if hasF s x.f then 10 else 0 := by simp [errF,k3]
    by_cases c1 : x.f < 1
    · have : oneF s x = (1, s) := by simp only [oneF,if_pos (he1.2 c1)]
      rw [this, hr, if_pos c1]
      exact ⟨rfl, fun h => by simp at h, fun _ => rfl⟩
    rw [if_neg c1] at hr
    by_cases c2 : x.l ≠ 0 ∧ x.l ≠ 1
    · have : oneF s x = (1, s) := by simp only [oneF,if_neg (fun h => c1 (he1.1 h)),if_pos (he2.2 c2)]
      rw [this, hr, if_pos c2]
      exact ⟨rfl, fun h => by simp at h, fun _ => rfl⟩
    rw [if_neg c2] at hr
    by_cases c3 : hasF s x.f = true
    · have : oneF s x = (10, s) := by simp only [oneF,if_neg (fun h => c1 (he1.1 h)),if_neg (fun h => c2 (he2.1 h)),if_pos (And.intro hadd c3)]
      rw [this, hr, if_pos c3]
      exact ⟨rfl, fun h => by simp at h, fun _ => rfl⟩
    rw [if_neg c3] at hr
    have c3' : hasF s x.f = false := by simpa using c3
    have hone : oneF s x = match goT x s.tb true true [] with
      | none => (11, s)
      | some t => oneT s x t := by
      rw [oneF, if_neg (fun h => c1 (he1.1 h)), if_neg (fun h => c2 (he2.1 h)), if_neg (fun h : addsB x = true ∧ hasF s x.f = true => c3 h.2), hb1, hadd, Bool.true_or]; cases goT x s.tb _ true [] <;> rfl
    have hk2 : (x.k == 2) = false := by simp [k3]
    have hk6 : (x.k == 6) = false := by simp [k3]
    rw [goT_other k1] at hone
    simp only [hk2,Bool.false_and,Bool.or_false,Bool.not_false,hTrue,List.nil_append] at hone
    obtain ⟨p, o, e1, e2⟩ := (goS_three k3 s.sr true []).2
    have g2 : goL x s.lg true [] = (true, s.lg) := by
      rw [goL_eq]
      simp [hk6,hTrue]
    have hst : (oneF s x) = (0, ⟨s.tb, ins ltS (edS x) s.sr, s.lg, s.nx⟩) := by
      rw [hone]
      simp only [oneT,hb3,e1,g2,if_true]
      simp only [List.nil_append] at e2
      rw [e2]
      simp [k3]
    rw [hst, hr]
    have hne : ∀ u ∈ s.sr, u.f ≠ x.f := fun u hu e => hasF_mem c3' (by
      rw [← e]
      simp only [Ste.files,List.mem_append,List.mem_map]
      exact .inr (.inl ⟨u, hu, rfl⟩))
    have hcomp : ∀ u ∈ s.sr, RS (edS x) u ∨ RS u (edS x) := fun u hu => by
      have := hne u hu
      simp only [RS,edS]; omega
    have hp := ins_perm (lt := ltS) (edS x) s.sr
    have hRS := ins_pair (R := RS) swoS RS_lt (edS x) s.sr hI.sr hcomp
    refine ⟨rfl, fun _ => ⟨⟨?_, hI.tb, hRS, hI.ok1, ?_⟩, ?_⟩, fun h => absurd rfl h⟩
    · refine nodup_add hI.nd (hasF_mem c3') ?_
      simp only [Ste.files]
      have : ((ins ltS (edS x) s.sr).map (·.f)).Perm (x.f :: s.sr.map (·.f)) := by
        refine (hp.map (·.f)).trans ?_
        rw [List.map_append]
        exact List.perm_append_comm
      refine ((this.append_right s.lg).append_left (s.tb.map (·.f))).trans ?_
      exact List.perm_middle
    · intro t ht
      have := hp.mem_iff.1 ht
      rw [List.mem_append] at this
      rcases this with h | h
      · exact hI.ok2 t h
      · simp at h; subst h
        exact ⟨by simp [edS]; omega, hxf⟩
    · intro s' hs'
      rw [stepR, if_neg k1, if_pos k3] at hs'
      obtain ⟨q1, q2, q3, q4, q5⟩ := hs'
      have : ins ltS (edS x) s.sr = s'.sr := uniq RS_lt _ _ (hp.trans q1.symm) hRS q2
      cases s'
      simp only at this q3 q4 q5 ⊢
      subst this q3 q4 q5
      rfl
  have hb3 : (x.k != 3) = true := by simp [k3]
  have hgen : ∀ fd, goT x s.tb true fd [] = some (true, fd || (x.k == 2 && s.tb.any fun t => t.f == x.f), s.tb.filter fun t => !(x.k == 2 && t.f == x.f)) := fun fd => by rw [goT_other k1]; simp
  have hgenS : ∀ fd, goS x s.sr true fd [] = (true, fd || (x.k == 4 && s.sr.any fun t => t.f == x.f), s.sr.filter fun t => !(x.k == 4 && t.f == x.f)) := fun fd => by rw [goS_other]; simp
  have hgenL : ∀ fd, goL x s.lg fd [] = (fd || (x.k == 6 && s.lg.any fun y => x.f == y), s.lg.filter fun y => !(x.k == 6 && x.f == y)) := fun fd => by rw [goL_eq]; simp
  by_cases k5 : x.k = 5
  · have hadd : addsB x = true := by simp [addsB,k5]
    have he1 : e1P x ↔ x.f < 1 := by unfold e1P; rw [hadd]; simp; omega
    have he2 : ¬ e2P s x := by unfold e2P; omega
    have hr : errF s x = if x.f < 1 then 1 else if hasF s x.f then 10 else 0 := by simp [errF,k5]
    by_cases c1 : x.f < 1
    · have : oneF s x = (1, s) := by simp only [oneF,if_pos (he1.2 c1)]
      rw [this, hr, if_pos c1]
      exact ⟨rfl, fun h => by simp at h, fun _ => rfl⟩
    rw [if_neg c1] at hr
    by_cases c3 : hasF s x.f = true
    · have : oneF s x = (10, s) := by simp only [oneF,if_neg (fun h => c1 (he1.1 h)),if_neg he2,if_pos (And.intro hadd c3)]
      rw [this, hr, if_pos c3]
      exact ⟨rfl, fun h => by simp at h, fun _ => rfl⟩
    rw [if_neg c3] at hr
    have c3' : hasF s x.f = false := by simpa using c3
    have hk2 : (x.k == 2) = false := by simp [k5]
    have hk4 : (x.k == 4) = false := by simp [k5]
    have hk6 : (x.k == 6) = false := by simp [k5]
    have hst : (oneF s x) = (0, ⟨s.tb, s.sr, s.lg ++ [x.f], s.nx⟩) := by
      simp only [oneF,if_neg (fun h => c1 (he1.1 h)),if_neg he2,if_neg (fun h : addsB x = true ∧ hasF s x.f = true => c3 h.2),hb1,hadd,Bool.true_or,hgen,oneT,hb3,hgenS,hgenL,hk2,hk4,hk6,Bool.false_and,Bool.or_false,Bool.not_false,hTrue,if_true,if_pos k5]
      simp [k5,c3']
    rw [hst, hr]
    refine ⟨rfl, fun _ => ⟨⟨?_, hI.tb, hI.sr, hI.ok1, hI.ok2⟩, ?_⟩, fun h => absurd rfl h⟩
    · refine nodup_add hI.nd (hasF_mem c3') ?_
      simp only [Ste.files,← List.append_assoc]
      exact List.perm_append_comm
    · intro s' hs'
      rw [stepR, if_neg k1, if_neg k3, if_pos k5] at hs'
      exact hs'
  by_cases k7 : x.k = 7
  · have hadd : addsB x = false := by simp [addsB,k7]
    have he1 : e1P x ↔ x.f < 1 := by unfold e1P; rw [hadd]; simp; omega
    have he2 : e2P s x ↔ x.f < s.nx := by unfold e2P; omega
    have hr : errF s x = if x.f < 1 then 1 else if x.f < s.nx then 1 else 0 := by simp [errF,k7]
    by_cases c1 : x.f < 1
    · have : oneF s x = (1, s) := by simp only [oneF,if_pos (he1.2 c1)]
      rw [this, hr, if_pos c1]
      exact ⟨rfl, fun h => by simp at h, fun _ => rfl⟩
    rw [if_neg c1] at hr
    by_cases c2 : x.f < s.nx
    · have : oneF s x = (1, s) := by simp only [oneF,if_neg (fun h => c1 (he1.1 h)),if_pos (he2.2 c2)]
      rw [this, hr, if_pos c2]
      exact ⟨rfl, fun h => by simp at h, fun _ => rfl⟩
    rw [if_neg c2] at hr
    have hk2 : (x.k == 2) = false := by simp [k7]
    have hk4 : (x.k == 4) = false := by simp [k7]
    have hk6 : (x.k == 6) = false := by simp [k7]
    have hk7 : (x.k == 7) = true := by simp [k7]
    have hst : (oneF s x) = (0, ⟨s.tb, s.sr, s.lg, x.f⟩) := by
      simp only [oneF,if_neg (fun h => c1 (he1.1 h)),if_neg (fun h => c2 (he2.1 h)),hadd,Bool.false_eq_true,false_and,if_false,hb1,hk7,Bool.or_true,hgen,oneT,hb3,hgenS,hgenL,hk2,hk4,hk6,Bool.false_and,Bool.or_false,Bool.not_false,hTrue,if_true,if_neg k5,if_pos k7]
    rw [hst, hr]
    refine ⟨rfl, fun _ => ⟨⟨hI.nd, hI.tb, hI.sr, hI.ok1, hI.ok2⟩, ?_⟩, fun h => absurd rfl h⟩
    intro s' hs'
    rw [stepR, if_neg k1, if_neg k3, if_neg k5, if_pos k7] at hs'
    exact hs'
  have hadd : addsB x = false := by simp [addsB,k1,k3,k5]
  have hk7 : (x.k == 7) = false := by simp [k7]
  have he1 : e1P x ↔ (x.k < 1 ∨ x.k > 7) := by unfold e1P; rw [hadd]; simp; omega
  have he2 : ¬ e2P s x := by unfold e2P; omega
  by_cases k2 : x.k = 2
  · have hr : errF s x = if idxOf (fun t => t.f == x.f) s.tb < 0 then 9 else 0 := by simp [errF,k2]
    have hk2 : (x.k == 2) = true := by simp [k2]
    have hk4 : (x.k == 4) = false := by simp [k2]
    have hk6 : (x.k == 6) = false := by simp [k2]
    have hst : (oneF s x) = if (s.tb.any fun t => t.f == x.f) = true then (0, ⟨s.tb.filter fun t => !(t.f == x.f), s.sr, s.lg, s.nx⟩) else (9, s) := by
      simp only [oneF,if_neg (fun h => absurd (he1.1 h) (by omega) : ¬ e1P x),if_neg he2,hadd,Bool.false_eq_true,false_and,if_false,hb1,hk7,Bool.or_false,hgen,oneT,hb3,hgenS,hgenL,hk2,hk4,hk6,Bool.false_and,Bool.true_and,Bool.false_or,Bool.not_false,hTrue,if_true,if_neg k5,if_neg k7]
    by_cases c : idxOf (fun t => t.f == x.f) s.tb < 0
    · have := (any_idx s.tb).1 c
      rw [hst, hr, if_pos c, this]
      exact ⟨rfl, fun h => by simp at h, fun _ => rfl⟩
    · have : (s.tb.any fun t => t.f == x.f) = true := by
        cases h : s.tb.any fun t => t.f == x.f with
        | true => rfl
        | false => exact absurd ((any_idx s.tb).2 h) c
      rw [hst, hr, if_neg c, if_pos this]
      have her := erase_filter (fun t : Tb => t.f == x.f) s.tb ((nodup_T hI.nd).imp fun {a b} h h1 h2 => h (by simp at h1 h2; rw [h1, h2])) (by omega)
      refine ⟨rfl, fun _ => ⟨⟨?_, hI.tb.filter _, hI.sr, fun t ht => hI.ok1 t (List.mem_filter.1 ht).1, hI.ok2⟩, ?_⟩, fun h => absurd rfl h⟩
      · refine nodup_sub hI.nd ?_
        simp only [Ste.files]
        exact (hsubf _ _ _).append_right _
      · intro s' hs'
        rw [stepR, if_neg k1, if_neg k3, if_neg k5, if_neg k7, if_pos k2, her] at hs'
        exact hs'
  by_cases k4 : x.k = 4
  · have hr : errF s x = if idxOf (fun t => t.f == x.f) s.sr < 0 then 9 else 0 := by simp [errF,k4]
    have hk2 : (x.k == 2) = false := by simp [k4]
    have hk4 : (x.k == 4) = true := by simp [k4]
    have hk6 : (x.k == 6) = false := by simp [k4]
    have hst : (oneF s x) = if (s.sr.any fun t => t.f == x.f) = true then (0, ⟨s.tb, s.sr.filter fun t => !(t.f == x.f), s.lg, s.nx⟩) else (9, s) := by
      simp only [oneF,if_neg (fun h => absurd (he1.1 h) (by omega) : ¬ e1P x),if_neg he2,hadd,Bool.false_eq_true,false_and,if_false,hb1,hk7,Bool.or_false,hgen,oneT,hb3,hgenS,hgenL,hk2,hk4,hk6,Bool.false_and,Bool.true_and,Bool.false_or,Bool.not_false,hTrue,if_true,if_neg k5,if_neg k7]
    by_cases c : idxOf (fun t => t.f == x.f) s.sr < 0
    · have := (any_idx s.sr).1 c
      rw [hst, hr, if_pos c, this]
      exact ⟨rfl, fun h => by simp at h, fun _ => rfl⟩
    · have : (s.sr.any fun t => t.f == x.f) = true := by
        cases h : s.sr.any fun t => t.f == x.f with
        | true => rfl
        | false => exact absurd ((any_idx s.sr).2 h) c
      rw [hst, hr, if_neg c, if_pos this]
      have her := erase_filter (fun t : Sr => t.f == x.f) s.sr ((nodup_S hI.nd).imp fun {a b} h h1 h2 => h (by simp at h1 h2; rw [h1, h2])) (by omega)
      refine ⟨rfl, fun _ => ⟨⟨?_, hI.tb, hI.sr.filter _, hI.ok1, fun t ht => hI.ok2 t (List.mem_filter.1 ht).1⟩, ?_⟩, fun h => absurd rfl h⟩
      · refine nodup_sub hI.nd ?_
        simp only [Ste.files]
        exact ((hsubf _ _ _).append_right _).append_left _
      · intro s' hs'
        rw [stepR, if_neg k1, if_neg k3, if_neg k5, if_neg k7, if_neg k2, if_pos k4, her] at hs'
        exact hs'
  by_cases k6 : x.k = 6
  · have hr : errF s x = if idxOf (fun y => x.f == y) s.lg < 0 then 9 else 0 := by simp [errF,k6]
    have hk2 : (x.k == 2) = false := by simp [k6]
    have hk4 : (x.k == 4) = false := by simp [k6]
    have hk6 : (x.k == 6) = true := by simp [k6]
    have hst : (oneF s x) = if (s.lg.any fun y => x.f == y) = true then (0, ⟨s.tb, s.sr, s.lg.filter fun y => !(x.f == y), s.nx⟩) else (9, s) := by
      simp only [oneF,if_neg (fun h => absurd (he1.1 h) (by omega) : ¬ e1P x),if_neg he2,hadd,Bool.false_eq_true,false_and,if_false,hb1,hk7,Bool.or_false,hgen,oneT,hb3,hgenS,hgenL,hk2,hk4,hk6,Bool.false_and,Bool.true_and,Bool.false_or,Bool.not_false,hTrue,if_true,if_neg k5,if_neg k7]
    by_cases c : idxOf (fun y => x.f == y) s.lg < 0
    · have := (any_idx s.lg).1 c
      rw [hst, hr, if_pos c, this]
      exact ⟨rfl, fun h => by simp at h, fun _ => rfl⟩
    · have : (s.lg.any fun y => x.f == y) = true := by
        cases h : s.lg.any fun y => x.f == y with
        | true => rfl
        | false => exact absurd ((any_idx s.lg).2 h) c
      rw [hst, hr, if_neg c, if_pos this]
      have her := erase_filter (fun y : Int => x.f == y) s.lg ((nodup_L hI.nd).imp fun {a b} h h1 h2 => h (by simp at h1 h2; rw [← h1, ← h2])) (by omega)
      refine ⟨rfl, fun _ => ⟨⟨?_, hI.tb, hI.sr, hI.ok1, hI.ok2⟩, ?_⟩, fun h => absurd rfl h⟩
      · refine nodup_sub hI.nd ?_
        simp only [Ste.files]
        exact ((List.filter_sublist).append_left _).append_left _
      · intro s' hs'
        rw [stepR, if_neg k1, if_neg k3, if_neg k5, if_neg k7, if_neg k2, if_neg k4, her] at hs'
        exact hs'
  have hr : errF s x = 1 := by simp [errF,k1,k2,k3,k4,k5,k6,k7]
  have : oneF s x = (1, s) := by simp only [oneF,if_pos (he1.2 (by omega))]
  rw [this, hr]
  exact ⟨rfl, fun h => by simp at h, fun _ => rfl⟩
end Go.Proofs.Ytlognommhffmcaa.Im

/- S13XRs: the document's Apply. -/
set_option linter.unusedVariables false
set_option linter.unusedSimpArgs false
open Go Go.Im
namespace Go.Proofs.Ytlognommhffmcaa.Im

theorem goT_len {x : Ed} : ∀ (l : List Tb) (put fd : Bool) (acc : List Tb) (p f : Bool) (o : List Tb), goT x l put fd acc = some (p, f, o) →
    o.length + (if p then 0 else 1) ≤ acc.length + l.length + (if put then 0 else 1)
  | [], put, fd, acc, p, f, o, h => by
    simp only [goT,Option.some.injEq,Prod.mk.injEq] at h
    obtain ⟨rfl, rfl, rfl⟩ := h
    simp
  | u :: us, put, fd, acc, p, f, o, h => by
    simp only [goT] at h
    split at h
    · cases h
    split at h
    · have := goT_len us _ _ _ _ _ _ h; simp; omega
    split at h
    · rename_i hh
      have := goT_len us _ _ _ _ _ _ h
      rw [hh.1]; simp at this ⊢; omega
    · have := goT_len us _ _ _ _ _ _ h
      simp at this ⊢; omega
theorem goS_len {x : Ed} : ∀ (l : List Sr) (put fd : Bool) (acc : List Sr),
    (goS x l put fd acc).2.2.length + (if (goS x l put fd acc).1 then 0 else 1) ≤ acc.length + l.length + (if put then 0 else 1)
  | [], put, fd, acc => by cases put <;> simp [goS]
  | u :: us, put, fd, acc => by
    simp only [goS]
    split
    · have := goS_len (x := x) us put true acc; simp; omega
    split
    · rename_i hh
      have := goS_len (x := x) us true fd (acc ++ [edS x, u])
      rw [hh.1]; simp at this ⊢; omega
    · have := goS_len (x := x) us put fd (acc ++ [u])
      simp at this ⊢; omega
theorem goL_len {x : Ed} : ∀ (l : List Int) (fd : Bool) (acc : List Int), (goL x l fd acc).2.length ≤ acc.length + l.length
  | [], fd, acc => by simp [goL]
  | u :: us, fd, acc => by
    simp only [goL]
    split
    · have := goL_len (x := x) us true acc; simp; omega
    · have := goL_len (x := x) us fd (acc ++ [u])
      simp at this ⊢; omega

theorem oneF_sz (s : Ste) (x : Ed) : (oneF s x).2.sz ≤ s.sz + 1 := by
  unfold oneF
  split
  · simp
  split
  · simp
  split
  · simp
  cases ht : goT x s.tb (x.k != 1) (addsB x || x.k == 7) [] with
  | none => simp
  | some t =>
    obtain ⟨p, f, o⟩ := t
    have h1 := goT_len _ _ _ _ _ _ _ ht
    have h2 := goS_len (x := x) s.sr (x.k != 3) f []
    have h3 := goL_len (x := x) s.lg (goS x s.sr (x.k != 3) f []).2.1 []
    simp only [oneT]
    split
    · simp only [Ste.sz]
      generalize goL x s.lg (goS x s.sr (x.k != 3) f []).2.1 [] = b at *
      generalize goS x s.sr (x.k != 3) f [] = a at *
      have e1 : (if p = true then o else o ++ [edT x]).length = o.length + (if p then 0 else 1) := by split <;> simp
      have e2 : (if a.1 = true then a.2.2 else a.2.2 ++ [edS x]).length = a.2.2.length + (if a.1 then 0 else 1) := by split <;> simp
      have e3 : (if x.k = 5 then b.2 ++ [x.f] else b.2).length = b.2.length + (if x.k = 5 then 1 else 0) := by split <;> simp
      rw [e1, e2, e3]
      simp at h1 h2 h3
      by_cases k1 : x.k = 1
      · have c3 : ¬ x.k = 3 := by omega
        have c5 : ¬ x.k = 5 := by omega
        simp only [k1] at h1 h2 ⊢
        simp at h1 h2 ⊢
        omega
      · by_cases k3 : x.k = 3
        · have c5 : ¬ x.k = 5 := by omega
          simp [k3] at h1 h2 ⊢
          omega
        · by_cases k5 : x.k = 5
          · simp [k5] at h1 h2 ⊢
            omega
          · simp [k1,k3,k5] at h1 h2 ⊢
            omega
    · simp

def runF : Ste → List Ed → Int × Ste
  | s, [] => (0, s)
  | s, x :: xs => if (oneF s x).1 = 0 then runF (oneF s x).2 xs else ((oneF s x).1, s)

def RunPost (s : Ste) (xs : List Ed) (g : Hp) (v' : AV) (g' : Hp) : Prop := KS g g' ∧ ∃ u, v' = .tup [u, .int .i64 (runF s xs).1] ∧ ((runF s xs).1 = 0 → RfAt (runF s xs).2 u) ∧ ((runF s xs).1 ≠ 0 → u = z4)

theorem RfAt.t1 {s : Ste} {v : AV} (h : RfAt s v) : v.notTup = true ∧ v.cells.length = 4 ∧ sub v 0 4 true = some v ∧ upd z4 0 v = some v := by
  obtain ⟨tv, sv, lv, rfl, r1, r2, r3⟩ := h
  rcases r1 with ⟨rfl, _⟩ | ⟨c1, rfl⟩ <;> rcases r2 with ⟨rfl, _⟩ | ⟨c2, rfl⟩ <;> rcases r3 with ⟨rfl, _⟩ | ⟨c3, rfl⟩ <;> exact ⟨rfl, rfl, rfl, rfl⟩

theorem RfAt.t2 {s s' : Ste} {u v : AV} (h : RfAt s u) (h' : RfAt s' v) : upd u 0 v = some v := by
  obtain ⟨tv, sv, lv, rfl, r1, r2, r3⟩ := h
  obtain ⟨tv', sv', lv', rfl, k1, k2, k3⟩ := h'
  rcases k1 with ⟨rfl, _⟩ | ⟨c1, rfl⟩ <;> rcases k2 with ⟨rfl, _⟩ | ⟨c2, rfl⟩ <;> rcases k3 with ⟨rfl, _⟩ | ⟨c3, rfl⟩ <;> rfl

section
variable {tot : Bool} {ω : Nat → Nat} {n : Nat} (s : Ste) (mv ve : AV) (xs : List Ed) (g : Hp)

end
end Go.Proofs.Ytlognommhffmcaa.Im

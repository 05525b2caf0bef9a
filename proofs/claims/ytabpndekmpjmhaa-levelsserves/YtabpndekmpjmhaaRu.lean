/- Joined: S14Se, S14Mg, S14Ru. -/
import Derived.Test.YtabpndekmpjmhaaPi
/- S14Se: what is laid last is found first: the plain law. -/
set_option linter.unusedVariables false
set_option linter.unusedSimpArgs false
open Go Go.Im
namespace Go.Proofs.Ytabpndekmpjmhaa.Im

abbrev By := List UInt8
theorem sLe_iff (a b : By) : sLe a b = true ↔ Op.bytesLess b a = false := by
  unfold sLe
  constructor
  · intro h
    rcases Bool.or_eq_true _ _ ▸ h with h | h
    · cases h2 : Op.bytesLess b a with
      | false => rfl
      | true => have := bl_trans _ _ _ h h2; rw [bl_irrefl] at this; cases this
    · have : a = b := by simpa using h
      subst this; exact bl_irrefl _
  · intro h
    cases h2 : Op.bytesLess a b with
    | true => rfl
    | false => simp [bl_tri _ _ h2 h]
theorem sLe_refl (a : By) : sLe a a = true := by rw [sLe_iff]; exact bl_irrefl _
theorem sLe_trans {a b c : By} (h1 : sLe a b = true) (h2 : sLe b c = true) : sLe a c = true := by
  rw [sLe_iff] at *
  exact bl_ntrans _ _ _ h2 h1
theorem sLe_total (a b : By) : sLe a b = true ∨ sLe b a = true := by
  cases h : Op.bytesLess b a with
  | false => exact .inl ((sLe_iff _ _).2 h)
  | true => exact .inr (by simp [sLe,h])
theorem sLe_not {a b : By} (h : ¬ sLe a b = true) : sLe b a = true := (sLe_total a b).resolve_left h

theorem sMin_le (a b : By) : sLe (sMin a b) a = true ∧ sLe (sMin a b) b = true ∧ (sMin a b = a ∨ sMin a b = b) := by
  have e : sMin a b = if sLe a b = true then a else b := rfl
  rw [e]
  split
  · rename_i h; exact ⟨sLe_refl _, h, .inl rfl⟩
  · rename_i h; exact ⟨sLe_not h, sLe_refl _, .inr rfl⟩
theorem sMax_le (a b : By) : sLe a (sMax a b) = true ∧ sLe b (sMax a b) = true ∧ (sMax a b = a ∨ sMax a b = b) := by
  unfold sMax
  cases h : Op.bytesLess a b with
  | false => exact ⟨sLe_refl _, (sLe_iff _ _).2 h, .inl rfl⟩
  | true => exact ⟨by simp [sLe,h], sLe_refl _, .inr rfl⟩

theorem hull_ok : ∀ (l : List Tb) (a : By × By), sLe (hull a l).1 a.1 = true ∧ sLe a.2 (hull a l).2 = true ∧ (∀ t ∈ l, sLe (hull a l).1 t.lo = true ∧ sLe t.hi (hull a l).2 = true) ∧ ((hull a l).1 = a.1 ∨ ∃ t ∈ l, (hull a l).1 = t.lo) ∧ ((hull a l).2 = a.2 ∨ ∃ t ∈ l, (hull a l).2 = t.hi)
  | [], a => ⟨sLe_refl _, sLe_refl _, by simp, .inl rfl, .inl rfl⟩
  | t :: l, a => by
    obtain ⟨h1, h2, h3, h4, h5⟩ := hull_ok l (sMin a.1 t.lo, sMax a.2 t.hi)
    obtain ⟨m1, m2, m3⟩ := sMin_le a.1 t.lo
    obtain ⟨n1, n2, n3⟩ := sMax_le a.2 t.hi
    have e : hull a (t :: l) = hull (sMin a.1 t.lo, sMax a.2 t.hi) l := rfl
    rw [e]
    refine ⟨sLe_trans h1 m1, sLe_trans n1 h2, fun u hu => ?_, ?_, ?_⟩
    · rcases List.mem_cons.1 hu with rfl | hu
      · exact ⟨sLe_trans h1 m2, sLe_trans n2 h2⟩
      · exact h3 u hu
    · rcases h4 with h | ⟨u, hu, h⟩
      · rcases m3 with m | m
        · exact .inl (h.trans m)
        · exact .inr ⟨t, by simp, h.trans m⟩
      · exact .inr ⟨u, by simp [hu], h⟩
    · rcases h5 with h | ⟨u, hu, h⟩
      · rcases n3 with m | m
        · exact .inl (h.trans m)
        · exact .inr ⟨t, by simp, h.trans m⟩
      · exact .inr ⟨u, by simp [hu], h⟩

abbrev Hv := Int → By → Option Int
def First (S : List Tb) (hv : Hv) (k : By) (v : Int) : Prop := ∃ t ∈ S, hv t.f k = some v ∧ ∀ u ∈ S, hv u.f k ≠ none → u = t ∨ ltT t u = true

theorem first_head {hv : Hv} {k : By} {v : Int} : ∀ {S : List Tb}, (S.Pairwise fun x y => ltT y x = false) → First S hv k v → (S.filterMap fun t => hv t.f k).head? = some v
  | [], _, ⟨t, ht, _⟩ => by cases ht
  | a :: S, hs, ⟨t, ht, h1, h2⟩ => by
    obtain ⟨p1, p2⟩ := List.pairwise_cons.1 hs
    cases ha : hv a.f k with
    | some w =>
      rcases h2 a (by simp) (by rw [ha]; simp) with rfl | h
      · rw [ha] at h1; cases h1
        simp [List.filterMap_cons,ha]
      · rcases List.mem_cons.1 ht with rfl | ht
        · rw [ha] at h1; cases h1
          simp [List.filterMap_cons,ha]
        · rw [p1 t ht] at h; cases h
    | none =>
      rw [List.filterMap_cons, ha]
      have htS : t ∈ S := by
        rcases List.mem_cons.1 ht with rfl | ht
        · rw [ha] at h1; cases h1
        · exact ht
      exact first_head p2 ⟨t, htS, h1, fun u hu => h2 u (by simp [hu])⟩

theorem none_head {hv : Hv} {k : By} {S : List Tb} (h : ∀ t ∈ S, hv t.f k = none) : (S.filterMap fun t => hv t.f k).head? = none := by
  have : S.filterMap (fun t => hv t.f k) = [] := List.filterMap_eq_nil_iff.2 h
  rw [this]; rfl

structure Inv (tb : List Tb) (hv : Hv) (last : By → Option Int) (m : Int) (old : By → Prop) : Prop where
  srt : tb.Pairwise fun x y => ltT y x = false
  files : ∀ t ∈ tb, 1 ≤ t.f ∧ t.f ≤ m
  nd : (tb.map (·.f)).Nodup
  lv : ∀ t ∈ tb, 0 ≤ t.l ∧ t.l ≤ 5
  le : ∀ t ∈ tb, sLe t.lo t.hi = true
  dis : ∀ t ∈ tb, ∀ u ∈ tb, t.f ≠ u.f → t.l = u.l → 0 < t.l → ¬ (sLe t.lo u.hi = true ∧ sLe u.lo t.hi = true)
  rng : ∀ t ∈ tb, ∀ k, hv t.f k ≠ none → sLe t.lo k = true ∧ sLe k t.hi = true
  old : ∀ t ∈ tb, ∀ k, hv t.f k ≠ none → old k
  val : ∀ k v, last k = some v → First tb hv k v
  non : ∀ k, last k = none → ∀ t ∈ tb, hv t.f k = none

section
variable {tb tb' : List Tb} {hv hv' : Hv} {last last' : By → Option Int} {m : Int} {old old' : By → Prop}

theorem Inv.inj (I : Inv tb hv last m old) {t u : Tb} (ht : t ∈ tb) (hu : u ∈ tb) (e : t.f = u.f) : t = u := by
  obtain ⟨i, hi, rfl⟩ := List.getElem_of_mem ht
  obtain ⟨j, hj, rfl⟩ := List.getElem_of_mem hu
  have h1 := List.pairwise_iff_getElem.1 I.nd
  rcases Nat.lt_trichotomy i j with h | h | h
  · exact absurd (by rw [List.getElem_map, List.getElem_map]; exact e) (h1 i j (by simpa using hi) (by simpa using hj) h)
  · subst h; rfl
  · exact absurd (by rw [List.getElem_map, List.getElem_map]; exact e.symm) (h1 j i (by simpa using hj) (by simpa using hi) h)

theorem Inv.find (I : Inv tb hv last m old) (k : By) : ((tb.filter fun t => mt t k k).filterMap fun t => hv t.f k).head? = last k := by
  cases h : last k with
  | none => exact none_head fun t ht => I.non k h t (List.mem_filter.1 ht).1
  | some v =>
    obtain ⟨t, h1, h2, h3⟩ := I.val k v h
    refine first_head (I.srt.sublist List.filter_sublist) ⟨t, List.mem_filter.2 ⟨h1, ?_⟩, h2, fun u hu => h3 u (List.mem_filter.1 hu).1⟩
    obtain ⟨r1, r2⟩ := I.rng t h1 k (by rw [h2]; simp)
    simp [mt,r1,r2]

theorem Inv.add (I : Inv tb hv last m old) (x : Tb) (rest : List Tb) (hsub : rest.Sublist tb) (hp : tb'.Perm (rest ++ [x])) (hs : tb'.Pairwise fun x y => ltT y x = false) (hxf : x.f = m + 1) (hm : 0 ≤ m) (hxl : 0 ≤ x.l ∧ x.l ≤ 5) (hxle : sLe x.lo x.hi = true)
    (hdis : ∀ u ∈ rest, u.l = x.l → 0 < x.l → ¬ (sLe x.lo u.hi = true ∧ sLe u.lo x.hi = true)) (hh : ∀ f k, f ≤ m → hv' f k = hv f k) (hrng : ∀ k, hv' x.f k ≠ none → sLe x.lo k = true ∧ sLe k x.hi = true) (hold : ∀ k, hv' x.f k ≠ none → old' k) (ho : ∀ k, old k → old' k)
    (hval : ∀ k v, last' k = some v → First (rest ++ [x]) hv' k v) (hnon : ∀ k, last' k = none → ∀ t ∈ rest ++ [x], hv' t.f k = none) : Inv tb' hv' last' (m + 1) old' := by
  have mm : ∀ t, t ∈ tb' → t ∈ rest ∨ t = x := fun t ht => by
    rcases List.mem_append.1 (hp.mem_iff.1 ht) with h | h
    · exact .inl h
    · exact .inr (by simpa using h)
  have ms : ∀ t ∈ rest, t ∈ tb := fun t ht => hsub.subset ht
  have fm : ∀ t ∈ rest, 1 ≤ t.f ∧ t.f ≤ m := fun t ht => I.files t (ms t ht)
  refine ⟨hs, fun t ht => ?_, ?_, fun t ht => ?_, fun t ht => ?_, fun t ht u hu => ?_, fun t ht k hk => ?_, fun t ht k hk => ?_, fun k v h => ?_, fun k h t ht => ?_⟩
  · rcases mm t ht with h | rfl
    · have := fm t h; omega
    · omega
  · refine ((hp.map (·.f)).nodup_iff).2 ?_
    rw [List.map_append, List.nodup_append]
    refine ⟨(hsub.map _).nodup I.nd, by simp, fun a ha b hb => ?_⟩
    obtain ⟨t, ht, rfl⟩ := List.mem_map.1 ha
    have := fm t ht
    simp at hb
    omega
  · rcases mm t ht with h | rfl
    · exact I.lv t (ms t h)
    · exact hxl
  · rcases mm t ht with h | rfl
    · exact I.le t (ms t h)
    · exact hxle
  · intro hne hl h0 hc
    rcases mm t ht with h | rfl <;> rcases mm u hu with h' | rfl
    · exact I.dis t (ms t h) u (ms u h') hne hl h0 hc
    · exact hdis t h hl (hl ▸ h0) ⟨hc.2, hc.1⟩
    · exact hdis u h' hl.symm h0 hc
    · exact hne rfl
  · rcases mm t ht with h | rfl
    · rw [hh _ _ (fm t h).2] at hk
      exact I.rng t (ms t h) k hk
    · exact hrng k hk
  · rcases mm t ht with h | rfl
    · rw [hh _ _ (fm t h).2] at hk
      exact ho k (I.old t (ms t h) k hk)
    · exact hold k hk
  · obtain ⟨t, h1, h2, h3⟩ := hval k v h
    exact ⟨t, hp.mem_iff.2 h1, h2, fun u hu => h3 u (hp.mem_iff.1 hu)⟩
  · exact hnon k h t (hp.mem_iff.1 ht)

theorem Inv.lay (I : Inv tb hv last m old) (x : Tb) (keys : By → Prop) (i : Int) (hp : tb'.Perm (tb ++ [x])) (hs : tb'.Pairwise fun x y => ltT y x = false) (hxf : x.f = m + 1) (hm : 0 ≤ m) (hxl : x.l = 0) (hxle : sLe x.lo x.hi = true)
    (hh : ∀ f k, f ≤ m → hv' f k = hv f k) (h1 : ∀ k, keys k → hv' x.f k = some i ∧ last' k = some i ∧ sLe x.lo k = true ∧ sLe k x.hi = true) (h2 : ∀ k, ¬ keys k → hv' x.f k = none ∧ last' k = last k) : Inv tb' hv' last' (m + 1) (fun k => old k ∨ keys k) := by
  have fm : ∀ t ∈ tb, 1 ≤ t.f ∧ t.f ≤ m := fun t ht => I.files t ht
  have hk : ∀ k, hv' x.f k ≠ none → keys k := fun k h => Classical.byContradiction fun hn => h (h2 k hn).1
  refine I.add x tb (List.Sublist.refl _) hp hs hxf hm (by omega) hxle (fun u hu h h0 => by omega) hh (fun k h => (h1 k (hk k h)).2.2) (fun k h => .inr (hk k h)) (fun k h => .inl h) (fun k v h => ?_) (fun k h t ht => ?_)
  · by_cases hkk : keys k
    · obtain ⟨a1, a2, _⟩ := h1 k hkk
      rw [a2] at h
      cases h
      refine ⟨x, by simp, a1, fun u hu hn => ?_⟩
      rcases List.mem_append.1 hu with hu | hu
      · right
        have := fm u hu
        have := I.lv u hu
        simp only [ltT]
        by_cases e : x.l = u.l
        · rw [if_pos e, if_pos hxl]; simp; omega
        · rw [if_neg e]; simp; omega
      · left; simpa using hu
    · obtain ⟨b1, b2⟩ := h2 k hkk
      rw [b2] at h
      obtain ⟨t, c1, c2, c3⟩ := I.val k v h
      refine ⟨t, by simp [c1], by rw [hh _ _ (fm t c1).2]; exact c2, fun u hu hn => ?_⟩
      rcases List.mem_append.1 hu with hu | hu
      · rw [hh _ _ (fm u hu).2] at hn
        exact c3 u hu hn
      · have : u = x := by simpa using hu
        subst this
        exact absurd b1 hn
  · by_cases hkk : keys k
    · rw [(h1 k hkk).2.1] at h; cases h
    · obtain ⟨b1, b2⟩ := h2 k hkk
      rw [b2] at h
      rcases List.mem_append.1 ht with ht | ht
      · rw [hh _ _ (fm t ht).2]; exact I.non k h t ht
      · have : t = x := by simpa using ht
        subst this; exact b1
end
end Go.Proofs.Ytabpndekmpjmhaa.Im

/- S14Mg: a merging keeps what is found: the plain law. -/
set_option linter.unusedVariables false
set_option linter.unusedSimpArgs false
open Go Go.Im
namespace Go.Proofs.Ytabpndekmpjmhaa.Im

def Pn.full (p : Pn) : List Tb := p.inn ++ p.ov
def restOf (tb : List Tb) (p : Pn) : List Tb := tb.filter fun t => decide (t.f ∉ p.full.map (·.f))

section
variable {tb tb' : List Tb} {hv hv' : Hv} {last : By → Option Int} {m : Int} {old : By → Prop} {p : Pn}

theorem ltT_lv {t u : Tb} (h : ltT t u = true) : t.l ≤ u.l := by
  simp only [ltT] at h
  split at h
  · omega
  · simp at h; omega
theorem ltT_of {t u : Tb} (h : t.l < u.l) : ltT t u = true := by
  simp only [ltT]
  rw [if_neg (by omega)]
  simpa using h
theorem ltT_no {t u : Tb} (h : t.l < u.l) : ltT u t = false := by
  cases e : ltT u t with
  | false => rfl
  | true => have := ltT_lv e; omega

structure Mf (tb : List Tb) (p : Pn) : Prop where
  sub : ∀ t ∈ p.full, t ∈ tb
  srt : p.full.Pairwise fun x y => ltT y x = false
  nd : (p.full.map (·.f)).Nodup
  lv : 0 ≤ p.lv ∧ p.lv ≤ 4
  le : sLe p.lo p.hi = true
  rng : ∀ t ∈ p.full, sLe p.lo t.lo = true ∧ sLe t.hi p.hi = true
  far : ∀ u ∈ tb, u ∉ p.full → u.l = p.lv + 1 → ¬ (sLe p.lo u.hi = true ∧ sLe u.lo p.hi = true)
  inl : ∀ t ∈ p.inn, t.l = p.lv
  all : p.lv = 0 → ∀ u ∈ tb, u.l = 0 → u ∈ p.inn
  ovl : ∀ t ∈ p.ov, t.l = p.lv + 1
  near : ∀ u ∈ tb, u ∉ p.full → u.l = p.lv + 1 → ∀ t ∈ p.inn, ¬ (sLe t.lo u.hi = true ∧ sLe u.lo t.hi = true)

theorem Inv.facts (I : Inv tb hv last m old) (P : PickR tb p) : Mf tb p := by
  obtain ⟨F, t0, r, hin, hov, hlh⟩ := P
  obtain ⟨a1, a2, a3, a4, a5⟩ := hull_ok p.inn (t0.lo, t0.hi)
  obtain ⟨L, hL⟩ : ∃ L, L = (hull (t0.lo, t0.hi) p.inn).1 := ⟨_, rfl⟩
  obtain ⟨H, hH⟩ : ∃ H, H = (hull (t0.lo, t0.hi) p.inn).2 := ⟨_, rfl⟩
  have hLH : hull (t0.lo, t0.hi) p.inn = (L, H) := by rw [hL, hH]
  rw [hLH] at a1 a2 a3 a4 a5 hov hlh
  simp only at a1 a2 a3 a4 a5 hov
  obtain ⟨b1, b2, b3, b4, b5⟩ := hull_ok p.ov (L, H)
  rw [← hlh] at b1 b2 b3 b4 b5
  simp only at b1 b2 b3 b4 b5
  have ht0 : t0 ∈ p.inn := by rw [hin]; simp
  have mov : ∀ u, u ∈ p.ov ↔ u ∈ tb ∧ u.l = p.lv + 1 ∧ sLe u.lo H = true ∧ sLe L u.hi = true := fun u => by
    rw [hov, List.mem_filter]
    simp [mt]
  have hlv : 0 ≤ p.lv ∧ p.lv ≤ 4 := by rcases F with h | h | h <;> omega
  have hne : p.inn ≠ [] := by rw [hin]; simp
  have isub : ∀ t ∈ p.inn, t ∈ tb ∧ t.l = p.lv := fun t ht => by
    rcases F with ⟨h, _⟩ | ⟨h0, h⟩ | ⟨_, _, u, hu, hul, h⟩
    · exact absurd h hne
    · rw [h] at ht
      obtain ⟨x, y⟩ := List.mem_filter.1 ht
      exact ⟨x, by rw [h0]; simpa using y⟩
    · rw [h] at ht
      have : t = u := by simpa using ht
      subst this; exact ⟨hu, hul⟩
  have isrt : (p.inn.Pairwise fun x y => ltT y x = false) ∧ (p.inn.map (·.f)).Nodup := by
    rcases F with ⟨h, _⟩ | ⟨h0, h⟩ | ⟨_, _, u, hu, hul, h⟩
    · exact absurd h hne
    · rw [h]; exact ⟨I.srt.sublist List.filter_sublist, (List.filter_sublist.map _).nodup I.nd⟩
    · rw [h]; simp
  have osrt : (p.ov.Pairwise fun x y => ltT y x = false) ∧ (p.ov.map (·.f)).Nodup := by
    rw [hov]; exact ⟨I.srt.sublist List.filter_sublist, (List.filter_sublist.map _).nodup I.nd⟩
  have sub : ∀ t ∈ p.full, t ∈ tb := fun t ht => by
    rcases List.mem_append.1 ht with h | h
    · exact (isub t h).1
    · exact ((mov t).1 h).1
  have ilo : ∀ t ∈ p.inn, sLe L t.lo = true ∧ sLe t.hi H = true := a3
  refine ⟨sub, ?_, ?_, hlv, ?_, fun t ht => ?_, fun u hu hn hl hc => ?_, fun t ht => (isub t ht).2, fun h0 u hu hul => ?_, fun t ht => ((mov t).1 ht).2.1, fun u hu hn hl t ht hc => ?_⟩
  · refine List.pairwise_append.2 ⟨isrt.1, osrt.1, fun x hx y hy => ltT_no ?_⟩
    have := (isub x hx).2
    have := ((mov y).1 hy).2.1
    omega
  · show ((p.inn ++ p.ov).map (·.f)).Nodup
    rw [List.map_append, List.nodup_append]
    refine ⟨isrt.2, osrt.2, fun a ha b hb e => ?_⟩
    obtain ⟨x, hx, rfl⟩ := List.mem_map.1 ha
    obtain ⟨y, hy, rfl⟩ := List.mem_map.1 hb
    have := I.inj (isub x hx).1 ((mov y).1 hy).1 e
    have h1 := (isub x hx).2
    have h2 := ((mov y).1 hy).2.1
    rw [this] at h1; omega
  · exact sLe_trans b1 (sLe_trans (ilo t0 ht0).1 (sLe_trans (I.le t0 (isub t0 ht0).1) (sLe_trans (ilo t0 ht0).2 b2)))
  · rcases List.mem_append.1 ht with h | h
    · exact ⟨sLe_trans b1 (ilo t h).1, sLe_trans (ilo t h).2 b2⟩
    · exact b3 t h
  · have hno : ¬ (sLe u.lo H = true ∧ sLe L u.hi = true) := fun h => hn (List.mem_append.2 (.inr ((mov u).2 ⟨hu, hl, h⟩)))
    have hule := I.le u hu
    by_cases h1 : sLe u.lo H = true
    · have h2 : ¬ sLe L u.hi = true := fun h => hno ⟨h1, h⟩
      rcases b4 with h | ⟨t1, ht1, h⟩
      · rw [h] at hc; exact h2 hc.1
      · obtain ⟨x1, x2, x3, x4⟩ := (mov t1).1 ht1
        refine I.dis u hu t1 x1 (fun e => hn ?_) (by omega) (by omega) ⟨sLe_trans hule (sLe_trans (sLe_not h2) x4), by rw [← h]; exact hc.1⟩
        rw [I.inj hu x1 e]; exact List.mem_append.2 (.inr ht1)
    · rcases b5 with h | ⟨t2, ht2, h⟩
      · rw [h] at hc; exact h1 hc.2
      · obtain ⟨x1, x2, x3, x4⟩ := (mov t2).1 ht2
        refine I.dis u hu t2 x1 (fun e => hn ?_) (by omega) (by omega) ⟨by rw [← h]; exact hc.2, sLe_trans x3 (sLe_trans (sLe_not h1) hule)⟩
        rw [I.inj hu x1 e]; exact List.mem_append.2 (.inr ht2)
  · rcases F with ⟨h, _⟩ | ⟨_, h⟩ | ⟨h1, _⟩
    · exact absurd h hne
    · rw [h]; exact List.mem_filter.2 ⟨hu, by simpa using hul⟩
    · omega
  · exact hn (List.mem_append.2 (.inr ((mov u).2 ⟨hu, hl, sLe_trans hc.2 (ilo t ht).2, sLe_trans (ilo t ht).1 hc.1⟩)))

theorem Inv.merge (I : Inv tb hv last m old) (M : Mf tb p) (x : Tb) (hp : tb'.Perm (restOf tb p ++ [x])) (hs : tb'.Pairwise fun x y => ltT y x = false) (hxf : x.f = m + 1) (hm : 0 ≤ m) (hxl : x.l = p.lv + 1) (hlo : x.lo = p.lo) (hhi : x.hi = p.hi)
    (hh : ∀ f k, f ≤ m → hv' f k = hv f k) (hx : ∀ k, hv' x.f k = (p.full.filterMap fun t => hv t.f k).head?) : Inv tb' hv' last (m + 1) old := by
  have mr : ∀ u, u ∈ restOf tb p ↔ u ∈ tb ∧ u ∉ p.full := fun u => by
    unfold restOf
    rw [List.mem_filter]
    constructor
    · rintro ⟨h1, h2⟩
      exact ⟨h1, fun h => (of_decide_eq_true h2) (List.mem_map_of_mem h)⟩
    · rintro ⟨h1, h2⟩
      refine ⟨h1, decide_eq_true fun h => h2 ?_⟩
      obtain ⟨w, hw, e⟩ := List.mem_map.1 h
      rw [← I.inj (M.sub w hw) h1 e]; exact hw
  have fm : ∀ t ∈ tb, 1 ≤ t.f ∧ t.f ≤ m := fun t ht => I.files t ht
  have hval : ∀ k, hv' x.f k ≠ none → ∃ w ∈ p.full, hv w.f k ≠ none := fun k h => Classical.byContradiction fun hn => h (by
    rw [hx]
    refine none_head fun t ht => ?_
    cases e : hv t.f k with
    | none => rfl
    | some v => exact absurd ⟨t, ht, by rw [e]; simp⟩ hn)
  have l1 := M.lv
  refine I.add x (restOf tb p) List.filter_sublist hp hs hxf hm (by omega) (by rw [hlo, hhi]; exact M.le) (fun u hu h h0 => ?_) hh (fun k h => ?_) (fun k h => ?_) (fun k h => h) (fun k v h => ?_) (fun k h t ht => ?_)
  · rw [hlo, hhi]
    exact M.far u ((mr u).1 hu).1 ((mr u).1 hu).2 (by omega)
  · obtain ⟨w, hw, hn⟩ := hval k h
    obtain ⟨r1, r2⟩ := I.rng w (M.sub w hw) k hn
    obtain ⟨r3, r4⟩ := M.rng w hw
    rw [hlo, hhi]
    exact ⟨sLe_trans r3 r1, sLe_trans r2 r4⟩
  · obtain ⟨w, hw, hn⟩ := hval k h
    exact I.old w (M.sub w hw) k hn
  · obtain ⟨t, c1, c2, c3⟩ := I.val k v h
    have ht := I.rng t c1 k (by rw [c2]; simp)
    -- two of one deeper level never both have the key
    have two : ∀ u ∈ tb, hv u.f k ≠ none → u ≠ t → t.l = u.l → 0 < t.l → False := fun u hu hn hne hl h0 => by
      have hur := I.rng u hu k hn
      exact I.dis t c1 u hu (fun e => hne (I.inj c1 hu e).symm) hl h0 ⟨sLe_trans ht.1 hur.2, sLe_trans hur.1 ht.2⟩
    by_cases hf : t ∈ p.full
    · refine ⟨x, by simp, ?_, fun u hu hn => ?_⟩
      · rw [hx]
        exact first_head M.srt ⟨t, hf, c2, fun u hu hn => c3 u (M.sub u hu) hn⟩
      · rcases List.mem_append.1 hu with hu | hu
        · obtain ⟨u1, u2⟩ := (mr u).1 hu
          rw [hh _ _ (fm u u1).2] at hn
          have hne : u ≠ t := fun e => u2 (by rw [e]; exact hf)
          have hlt := ltT_lv ((c3 u u1 hn).resolve_left hne)
          have hur := I.rng u u1 k hn
          right
          refine ltT_of ?_
          have hul : ¬ u.l = p.lv := fun e => by
            rcases List.mem_append.1 hf with hi | ho
            · have := M.inl t hi
              by_cases h0 : p.lv = 0
              · exact u2 (List.mem_append.2 (.inl (M.all h0 u u1 (by omega))))
              · exact two u u1 hn hne (by omega) (by omega)
            · have := M.ovl t ho; omega
          have hul2 : ¬ u.l = p.lv + 1 := fun e => by
            rcases List.mem_append.1 hf with hi | ho
            · exact M.near u u1 u2 e t hi ⟨sLe_trans ht.1 hur.2, sLe_trans hur.1 ht.2⟩
            · have := M.ovl t ho
              exact two u u1 hn hne (by omega) (by omega)
          have : p.lv ≤ t.l := by
            rcases List.mem_append.1 hf with hi | ho
            · have := M.inl t hi; omega
            · have := M.ovl t ho; omega
          omega
        · left; simpa using hu
    · refine ⟨t, by simp [(mr t).2 ⟨c1,hf⟩], by rw [hh _ _ (fm t c1).2]; exact c2, fun u hu hn => ?_⟩
      rcases List.mem_append.1 hu with hu | hu
      · obtain ⟨u1, u2⟩ := (mr u).1 hu
        rw [hh _ _ (fm u u1).2] at hn
        exact c3 u u1 hn
      · have : u = x := by simpa using hu
        subst this
        right
        obtain ⟨w, hw, hwn⟩ := hval k hn
        have hne : w ≠ t := fun e => hf (by rw [← e]; exact hw)
        have hlt := ltT_lv ((c3 w (M.sub w hw) hwn).resolve_left hne)
        refine ltT_of ?_
        rcases List.mem_append.1 hw with hi | ho
        · have := M.inl w hi; omega
        · have := M.ovl w ho
          have hno : ¬ t.l = p.lv + 1 := fun e => two w (M.sub w hw) hwn hne (by omega) (by omega)
          omega
  · rcases List.mem_append.1 ht with ht | ht
    · have h1 := ((mr t).1 ht).1
      rw [hh _ _ (fm t h1).2]; exact I.non k h t h1
    · have : t = x := by simpa using ht
      subst this
      rw [hx]
      exact none_head fun w hw => I.non k h w (M.sub w hw)
end
end Go.Proofs.Ytabpndekmpjmhaa.Im

/- S14Ru: tables are dropped, and one is added. -/
set_option linter.unusedVariables false
set_option linter.unusedSimpArgs false
open Go Go.Im
namespace Go.Proofs.Ytabpndekmpjmhaa.Im

def drp (f : Int) : Ed := ⟨2, f, 0, 0, [], []⟩
theorem erase_idx (f : Int) : ∀ (tb : List Tb), (tb.map (·.f)).Nodup → f ∈ tb.map (·.f) → 0 ≤ idxOf (fun t : Tb => t.f == f) tb ∧ tb.eraseIdx (idxOf (fun t : Tb => t.f == f) tb).toNat = tb.filter fun t => decide (t.f ≠ f)
  | [], _, h => by simp at h
  | t :: tb, hn, h => by
    simp only [List.map_cons,List.nodup_cons] at hn
    by_cases e : t.f = f
    · have h1 : idxOf (fun t : Tb => t.f == f) (t :: tb) = 0 := by simp [idxOf,e]
      rw [h1]
      refine ⟨by omega, ?_⟩
      rw [List.filter_cons_of_neg (by simp [e])]
      simp only [Int.toNat_zero,List.eraseIdx_cons_zero]
      refine (List.filter_eq_self.2 fun u hu => ?_).symm
      simp only [ne_eq,decide_not,Bool.not_eq_true',decide_eq_false_iff_not]
      intro e2
      exact hn.1 (by rw [e, ← e2]; exact List.mem_map_of_mem hu)
    · have hm : f ∈ tb.map (·.f) := by
        rcases List.mem_cons.1 h with h | h
        · exact absurd h.symm e
        · exact h
      obtain ⟨i1, i2⟩ := erase_idx f tb hn.2 hm
      have h1 : idxOf (fun t : Tb => t.f == f) (t :: tb) = idxOf (fun t : Tb => t.f == f) tb + 1 := by
        simp only [idxOf]
        rw [if_neg (by simpa using e), if_neg (by omega)]
      rw [h1]
      refine ⟨by omega, ?_⟩
      rw [show (idxOf (fun t : Tb => t.f == f) tb + 1).toNat = (idxOf (fun t : Tb => t.f == f) tb).toNat + 1 by omega, List.eraseIdx_cons_succ, i2, List.filter_cons_of_pos (by simp [e])]

theorem drops (x : Ed) : ∀ (fs : List Int) (s : Ste), fs.Nodup → (∀ f ∈ fs, f ∈ s.tb.map (·.f)) → (s.tb.map (·.f)).Nodup →
    (∀ e, RunErr s (fs.map drp ++ [x]) e → RunErr { s with tb := s.tb.filter fun t => decide (t.f ∉ fs) } [x] e) ∧ ∀ s', RunsTo s (fs.map drp ++ [x]) s' → RunsTo { s with tb := s.tb.filter fun t => decide (t.f ∉ fs) } [x] s'
  | [], s, _, _, _ => by
    have : (s.tb.filter fun t => decide (t.f ∉ ([] : List Int))) = s.tb := List.filter_eq_self.2 fun t _ => by simp
    rw [this]
    exact ⟨fun _ h => h, fun _ h => h⟩
  | f :: fs, s, h1, h2, h3 => by
    simp only [List.nodup_cons] at h1
    obtain ⟨i1, i2⟩ := erase_idx f s.tb h3 (h2 f (by simp))
    have he : errF s (drp f) = 0 := by
      simp only [errF,drp]
      simp
      omega
    have hst : ∀ s1, stepR s (drp f) s1 ↔ s1 = { s with tb := s.tb.filter fun t => decide (t.f ≠ f) } := fun s1 => by
      rw [← i2]
      simp [stepR,drp]
    have hd : ((s.tb.filter fun t => decide (t.f ≠ f)).map (·.f)).Nodup := (List.filter_sublist.map _).nodup h3
    have hm : ∀ g ∈ fs, g ∈ (s.tb.filter fun t => decide (t.f ≠ f)).map (·.f) := fun g hg => by
      obtain ⟨t, ht, e⟩ := List.mem_map.1 (h2 g (by simp [hg]))
      refine List.mem_map.2 ⟨t, List.mem_filter.2 ⟨ht, ?_⟩, e⟩
      simp only [decide_eq_true_eq]
      intro e2
      exact h1.1 (by rw [← e2, e]; exact hg)
    obtain ⟨d1, d2⟩ := drops x fs { s with tb := s.tb.filter fun t => decide (t.f ≠ f) } h1.2 hm hd
    have hff : ((s.tb.filter fun t => decide (t.f ≠ f)).filter fun t => decide (t.f ∉ fs)) = s.tb.filter fun t => decide (t.f ∉ f :: fs) := by
      rw [List.filter_filter]
      refine List.filter_congr fun t _ => ?_
      by_cases a : t.f = f <;> by_cases b : t.f ∈ fs <;> simp [a,b]
    simp only [hff] at d1 d2
    refine ⟨fun e h => ?_, fun s' h => ?_⟩
    · rcases h with ⟨h, _⟩ | ⟨_, s1, hs, h⟩
      · exact absurd he h
      · rw [(hst s1).1 hs] at h
        exact d1 e h
    · obtain ⟨_, s1, hs, h⟩ := h
      rw [(hst s1).1 hs] at h
      exact d2 s' h

theorem run_ok (s : Ste) (fs : List Int) (x : Ed) (h1 : fs.Nodup) (h2 : ∀ f ∈ fs, f ∈ s.tb.map (·.f)) (h3 : (s.tb.map (·.f)).Nodup) (hsr : s.sr = []) (hlg : s.lg = []) (hk : x.k = 1) (hf : 1 ≤ x.f) (hl : 0 ≤ x.l ∧ x.l ≤ 5) (hc : 1 ≤ x.c) (hle : sLe x.lo x.hi = true)
    (hnf : ∀ t ∈ s.tb, t.f ≠ x.f) (hov : ∀ t ∈ s.tb, t.f ∉ fs → t.l = x.l → 0 < x.l → ¬ (sLe x.lo t.hi = true ∧ sLe t.lo x.hi = true)) :
    (∀ e, ¬ RunErr s (fs.map drp ++ [x]) e) ∧ ∀ s', RunsTo s (fs.map drp ++ [x]) s' → s'.tb.Perm ((s.tb.filter fun t => decide (t.f ∉ fs)) ++ [edT x]) ∧ (s'.tb.Pairwise fun x y => ltT y x = false) ∧ s'.sr = [] ∧ s'.lg = [] := by
  obtain ⟨d1, d2⟩ := drops x fs s h1 h2 h3
  have hany : ((s.tb.filter fun t => decide (t.f ∉ fs)).any (overl x)) = false := by
    rw [List.any_eq_false]
    intro t ht
    obtain ⟨m1, m2⟩ := List.mem_filter.1 ht
    have m2 := of_decide_eq_true m2
    unfold overl
    intro h
    simp only [Bool.and_eq_true,beq_iff_eq,decide_eq_true_eq] at h
    exact hov t m1 m2 h.1 h.2.1 h.2.2
  have hhas : hasF { s with tb := s.tb.filter fun t => decide (t.f ∉ fs) } x.f = false := by
    simp only [hasF,hsr,hlg,List.any_nil,Bool.or_false]
    rw [List.any_eq_false]
    intro t ht
    have := hnf t (List.mem_filter.1 ht).1
    simpa using this
  have he : errF { s with tb := s.tb.filter fun t => decide (t.f ∉ fs) } x = 0 := by
    simp only [errF,if_pos hk]
    rw [if_neg (by omega)]
    have hb : badT x = false := by simp [badT,hle]; omega
    simp only [tableF,hb,hhas,hany]
    simp
  refine ⟨fun e h => ?_, fun s' h => ?_⟩
  · rcases d1 e h with ⟨h, _⟩ | ⟨_, s1, _, h⟩
    · exact h he
    · exact h
  · obtain ⟨_, s1, hs, h⟩ := d2 s' h
    have h : s' = s1 := h
    subst h
    simp only [stepR,if_pos hk] at hs
    exact ⟨hs.1, hs.2.1, hs.2.2.1.trans hsr, hs.2.2.2.1.trans hlg⟩
end Go.Proofs.Ytabpndekmpjmhaa.Im

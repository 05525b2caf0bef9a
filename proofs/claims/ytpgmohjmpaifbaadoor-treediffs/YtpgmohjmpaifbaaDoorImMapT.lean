/- ImMapT: maps whose keys and elements are known: looking up, putting, deleting, going over them. -/
import Derived.Test.YtpgmohjmpaifbaaDoorImX4
set_option linter.unusedVariables false
set_option linter.unusedSimpArgs false
set_option linter.unusedSectionVars false
namespace Go.Im

structure KeyEnc {κ : Type} [DecidableEq κ] (agg : Bool) (ks : List CK) (ek : κ → AV) : Prop where
  eq : ∀ a b, eqAV agg ks (ek a) (ek b) = some (decide (a = b))
  ok : ∀ a, keyOk agg ks (ek a) = true

section
variable {κ ν : Type}
def encE (ek : κ → AV) (ev : ν → AV) (T : List (κ × ν × Nat)) : List (AV × AV × Nat) := T.map fun t => (ek t.1, ev t.2.1, t.2.2)

theorem encE_len {ek : κ → AV} {ev : ν → AV} {T : List (κ × ν × Nat)} : (encE ek ev T).length = T.length := by simp [encE]

variable [DecidableEq κ]
def tget : List (κ × ν × Nat) → κ → Option ν
  | [], _ => none
  | t :: T, k => if t.1 = k then some t.2.1 else tget T k
def tput : List (κ × ν × Nat) → κ → ν → Nat → List (κ × ν × Nat)
  | [], k, v, c => [(k, v, c)]
  | t :: T, k, v, c => if t.1 = k then (k, v, t.2.2) :: T else t :: tput T k v c
def tdel : List (κ × ν × Nat) → κ → List (κ × ν × Nat)
  | [], _ => []
  | t :: T, k => if t.1 = k then T else t :: tdel T k

variable {agg : Bool} {ks : List CK} {ek : κ → AV} {ev : ν → AV} {T : List (κ × ν × Nat)} {k : κ} {v : ν} {c : Nat}

theorem tget_none {k : κ} : ∀ {T : List (κ × ν × Nat)}, tget T k = none ↔ ∀ t ∈ T, t.1 ≠ k
  | [] => by simp [tget]
  | t :: T => by
    have ih := tget_none (T := T) (k := k)
    by_cases h : t.1 = k <;> simp [tget,h,ih]
theorem tget_mem : ∀ {T : List (κ × ν × Nat)} {v : ν}, tget T k = some v → ∃ b, (k, v, b) ∈ T
  | [], v, h => by simp [tget] at h
  | t :: T, v, h => by
    simp only [tget] at h
    split at h
    · rename_i e; cases h; exact ⟨t.2.2, by simp [← e]⟩
    · obtain ⟨b, hb⟩ := tget_mem h
      exact ⟨b, by simp [hb]⟩
theorem tput_new (h : tget T k = none) : tput T k v c = T ++ [(k, v, c)] := by
  induction T with
  | nil => rfl
  | cons t T ih =>
    simp only [tget] at h
    split at h
    · cases h
    · rename_i e
      simp only [tput,if_neg e,ih h,List.cons_append]
theorem tget_put : ∀ (T : List (κ × ν × Nat)) (k : κ) (v : ν) (c : Nat) (k' : κ), tget (tput T k v c) k' = if k = k' then some v else tget T k'
  | [], k, v, c, k' => by simp [tput,tget]
  | t :: T, k, v, c, k' => by
    have ih := tget_put T k v c k'
    by_cases h : t.1 = k
    · by_cases h2 : k = k'
      · simp [tput,tget,h,h2]
      · simp [tput,tget,h,h2]
    · by_cases h2 : k = k'
      · subst h2; simp [tput,tget,h,ih]
      · simp only [tput,if_neg h,tget,ih,if_neg h2]
theorem tput_mem : ∀ {T : List (κ × ν × Nat)} {t : κ × ν × Nat}, t ∈ tput T k v c → t.1 = k ∨ t ∈ T
  | [], t, h => by simp [tput] at h; subst h; exact .inl rfl
  | u :: T, t, h => by
    simp only [tput] at h
    split at h
    · rcases List.mem_cons.1 h with rfl | h
      · exact .inl rfl
      · exact .inr (by simp [h])
    · rcases List.mem_cons.1 h with rfl | h
      · exact .inr (by simp)
      · rcases tput_mem h with h | h
        · exact .inl h
        · exact .inr (by simp [h])
theorem tdel_sub : ∀ (T : List (κ × ν × Nat)) (k : κ), (tdel T k).Sublist T
  | [], k => .slnil
  | t :: T, k => by
    simp only [tdel]
    split
    · exact List.sublist_cons_self _ _
    · exact (tdel_sub T k).cons_cons t
theorem tget_del : ∀ {T : List (κ × ν × Nat)} (k k' : κ), (T.map (·.1)).Nodup → tget (tdel T k) k' = if k = k' then none else tget T k'
  | [], k, k', _ => by simp [tdel,tget]
  | t :: T, k, k', hn => by
    simp only [List.map_cons,List.nodup_cons] at hn
    have ih := tget_del (T := T) k k' hn.2
    by_cases h : t.1 = k
    · by_cases h2 : k = k'
      · subst h2
        simp only [tdel,if_pos h,if_true]
        refine tget_none.2 fun u hu e => hn.1 ?_
        rw [h, ← e]
        exact List.mem_map_of_mem hu
      · have : ¬ t.1 = k' := fun e => h2 (h ▸ e)
        simp only [tdel,if_pos h,if_neg h2,tget,if_neg this]
    · by_cases h2 : k = k'
      · subst h2; simp only [tdel,if_neg h,tget,ih,if_true]
      · simp only [tdel,if_neg h,tget,ih,if_neg h2]
theorem tdel_filter : ∀ {T : List (κ × ν × Nat)}, (T.map (·.1)).Nodup → tdel T k = T.filter fun t => decide (t.1 ≠ k)
  | [], _ => rfl
  | t :: T, hn => by
    simp only [List.map_cons,List.nodup_cons] at hn
    by_cases h : t.1 = k
    · simp only [tdel,if_pos h]
      rw [List.filter_cons_of_neg (by simp [h])]
      refine (List.filter_eq_self.2 fun u hu => ?_).symm
      simp only [ne_eq,decide_eq_true_eq]
      intro e
      exact hn.1 (by rw [h, ← e]; exact List.mem_map_of_mem hu)
    · simp only [tdel,if_neg h]
      rw [List.filter_cons_of_pos (by simp [h]), tdel_filter hn.2]

theorem findK_no {k : κ} {ev : ν → AV} (hk : KeyEnc agg ks ek) : ∀ {T : List (κ × ν × Nat)} (i : Nat), tget T k = none → findK agg ks (ek k) (encE ek ev T) i = some none
  | [], i, _ => rfl
  | t :: T, i, h => by
    simp only [tget] at h
    split at h
    · cases h
    · rename_i e
      have ih := findK_no (ev := ev) hk (i + 1) h
      have : decide (k = t.1) = false := by simp; exact fun x => e x.symm
      simp only [encE,List.map_cons,findK,hk.eq,this] at ih ⊢
      exact ih

theorem findK_yes {k : κ} {v : ν} {ev : ν → AV} (hk : KeyEnc agg ks ek) : ∀ {T : List (κ × ν × Nat)} (i : Nat), tget T k = some v →
    ∃ j, findK agg ks (ek k) (encE ek ev T) i = some (some (i + j, ev v)) ∧ j < T.length ∧ (∃ b, T[j]? = some (k, v, b)) ∧ (∀ u c, (encE ek ev T).modify j (fun e => (ek k, ev u, e.2.2)) = encE ek ev (tput T k u c)) ∧ (encE ek ev T).eraseIdx j = encE ek ev (tdel T k)
  | [], i, h => by simp [tget] at h
  | t :: T, i, h => by
    simp only [tget] at h
    split at h
    · rename_i e
      cases h
      subst e
      refine ⟨0, ?_, by simp, ⟨t.2.2, rfl⟩, fun u c => ?_, ?_⟩
      · simp only [encE,List.map_cons,findK,hk.eq,decide_true,Nat.add_zero]
      · simp [encE,tput]
      · simp [encE,tdel]
    · rename_i e
      obtain ⟨j, q1, q2, q3, q4, q5⟩ := findK_yes (ev := ev) hk (i + 1) h
      have : decide (k = t.1) = false := by simp; exact fun x => e x.symm
      refine ⟨j + 1, ?_, by simp; omega, by simpa using q3, fun u c => ?_, ?_⟩
      · simp only [encE,List.map_cons,findK,hk.eq,this] at q1 ⊢
        rw [q1]
        congr 3
        omega
      · have := q4 u c
        simp only [encE,List.map_cons,tput,if_neg e,List.modify_succ_cons] at this ⊢
        rw [this]
      · simp only [encE,List.map_cons,tdel,if_neg e,List.eraseIdx_cons_succ] at q5 ⊢
        rw [q5]

structure MapH (h : Hp) (id : Nat) (ek : κ → AV) (ev : ν → AV) (T : List (κ × ν × Nat)) (c : Nat) : Prop where
  hp : h[id]? = some (.map (encE ek ev T) c)
  keys : (T.map (·.1)).Nodup
  born : ∀ t ∈ T, t.2.2 < c
  once : (T.map (·.2.2)).Nodup

variable {h : Hp} {id : Nat}

theorem MapH.new (ek : κ → AV) (ev : ν → AV) (h : Hp) : MapH (h ++ [.map [] 0]) h.length ek ev [] 0 := ⟨by simp [encE], by simp, by simp, by simp⟩
theorem MapH.lt (M : MapH h id ek ev T c) : id < h.length := (List.getElem?_eq_some_iff.1 M.hp).1
theorem MapH.keep {h' : Hp} (M : MapH h id ek ev T c) (e : h'[id]? = h[id]?) : MapH h' id ek ev T c := ⟨e.trans M.hp, M.keys, M.born, M.once⟩
theorem MapH.app (M : MapH h id ek ev T c) (m : Hp) : MapH (h ++ m) id ek ev T c := M.keep (List.getElem?_append_left M.lt)
theorem MapH.setne (M : MapH h id ek ev T c) {j : Nat} {o : AO} (hj : j ≠ id) : MapH (h.set j o) id ek ev T c := M.keep (by rw [List.getElem?_set]; simp [hj])

theorem MapH.of (M : MapH h id ek ev T c) {T' : List (κ × ν × Nat)} {c' : Nat} (h1 : (T'.map (·.1)).Nodup) (h2 : ∀ t ∈ T', t.2.2 < c') (h3 : (T'.map (·.2.2)).Nodup) : MapH (h.set id (.map (encE ek ev T') c')) id ek ev T' c' :=
  ⟨by simp [M.lt], h1, h2, h3⟩

theorem MapH.addP (M : MapH h id ek ev T c) (hk : tget T k = none) : ((T ++ [(k, v, c)]).map (·.1)).Nodup ∧ (∀ t ∈ T ++ [(k, v, c)], t.2.2 < c + 1) ∧ ((T ++ [(k, v, c)]).map (·.2.2)).Nodup := by
  refine ⟨?_, ?_, ?_⟩
  · rw [List.map_append, List.nodup_append]
    refine ⟨M.keys, by simp, fun a ha b hb => ?_⟩
    obtain ⟨t, ht, rfl⟩ := List.mem_map.1 ha
    simp at hb
    subst hb
    exact tget_none.1 hk t ht
  · intro t ht
    rcases List.mem_append.1 ht with ht | ht
    · have := M.born t ht; omega
    · simp at ht; subst ht; simp
  · rw [List.map_append, List.nodup_append]
    refine ⟨M.once, by simp, fun a ha b hb => ?_⟩
    obtain ⟨t, ht, rfl⟩ := List.mem_map.1 ha
    simp at hb
    subst hb
    have := M.born t ht; omega
theorem MapH.add (M : MapH h id ek ev T c) (hk : tget T k = none) (v : ν) : MapH (h.set id (.map (encE ek ev T ++ [(ek k, ev v, c)]) (c + 1))) id ek ev (T ++ [(k, v, c)]) (c + 1) := by
  obtain ⟨h1, h2, h3⟩ := M.addP (v := v) hk
  have := M.of h1 h2 h3
  simpa [encE] using this

theorem tput_maps : ∀ {T : List (κ × ν × Nat)}, tget T k ≠ none → (tput T k v c).map (·.1) = T.map (·.1) ∧ (tput T k v c).map (·.2.2) = T.map (·.2.2)
  | [], h => by simp [tget] at h
  | t :: T, h => by
    simp only [tget] at h
    by_cases e : t.1 = k
    · simp [tput,e]
    · rw [if_neg e] at h
      obtain ⟨q1, q2⟩ := tput_maps (T := T) h
      simp [tput,e,q1,q2]
theorem MapH.setP (M : MapH h id ek ev T c) (hk : tget T k ≠ none) : ((tput T k v c).map (·.1)).Nodup ∧ (∀ t ∈ tput T k v c, t.2.2 < c) ∧ ((tput T k v c).map (·.2.2)).Nodup := by
  obtain ⟨q1, q2⟩ := tput_maps (v := v) (c := c) hk
  refine ⟨by rw [q1]; exact M.keys, fun t ht => ?_, by rw [q2]; exact M.once⟩
  have : t.2.2 ∈ T.map (·.2.2) := by rw [← q2]; exact List.mem_map_of_mem ht
  obtain ⟨u, hu, e⟩ := List.mem_map.1 this
  rw [← e]; exact M.born u hu
theorem MapH.put (M : MapH h id ek ev T c) (hk : tget T k ≠ none) (v : ν) : MapH (h.set id (.map (encE ek ev (tput T k v c)) c)) id ek ev (tput T k v c) c := by
  obtain ⟨h1, h2, h3⟩ := M.setP (v := v) hk
  exact M.of h1 h2 h3
theorem MapH.del (M : MapH h id ek ev T c) (k : κ) : MapH (h.set id (.map (encE ek ev (tdel T k)) c)) id ek ev (tdel T k) c :=
  M.of (((tdel_sub T k).map _).nodup M.keys) (fun t ht => M.born t ((tdel_sub T k).subset ht)) (((tdel_sub T k).map _).nodup M.once)

theorem tput_mem2 {T : List (κ × ν × Nat)} {t : κ × ν × Nat} (hn : (T.map (·.1)).Nodup) (h : t ∈ tput T k v c) : (t.1 = k ∧ t.2.1 = v) ∨ (t ∈ T ∧ t.1 ≠ k) := by
  induction T with
  | nil => simp [tput] at h; subst h; exact .inl ⟨rfl, rfl⟩
  | cons u T ih =>
    simp only [List.map_cons,List.nodup_cons] at hn
    simp only [tput] at h
    split at h
    · rename_i e
      rcases List.mem_cons.1 h with rfl | h
      · exact .inl ⟨rfl, rfl⟩
      · refine .inr ⟨by simp [h], fun e2 => hn.1 ?_⟩
        rw [e, ← e2]; exact List.mem_map_of_mem h
    · rename_i e
      rcases List.mem_cons.1 h with rfl | h
      · exact .inr ⟨by simp, e⟩
      · exact (ih hn.2 h).imp id fun h => ⟨by simp [h.1], h.2⟩

theorem tput_nodup {f : κ × ν × Nat → Nat} {T : List (κ × ν × Nat)} {i : Nat} (hn : (T.map f).Nodup) (hf : ∀ b, f (k, v, b) = i) (hi : ∀ t ∈ T, t.1 ≠ k → f t ≠ i) (hk : (T.map (·.1)).Nodup) : ((tput T k v c).map f).Nodup := by
  induction T with
  | nil => simp [tput]
  | cons u T ih =>
    simp only [List.map_cons,List.nodup_cons] at hn hk
    have ih := ih hn.2 (fun t ht => hi t (by simp [ht])) hk.2
    simp only [tput]
    split
    · rename_i e
      simp only [List.map_cons,List.nodup_cons]
      refine ⟨fun hm => ?_, hn.2⟩
      obtain ⟨t, ht, e2⟩ := List.mem_map.1 hm
      rw [hf] at e2
      refine hi t (by simp [ht]) (fun e3 => hk.1 ?_) e2
      rw [e, ← e3]; exact List.mem_map_of_mem ht
    · rename_i e
      simp only [List.map_cons,List.nodup_cons]
      refine ⟨fun hm => ?_, ih⟩
      obtain ⟨t, ht, e2⟩ := List.mem_map.1 hm
      rcases tput_mem2 hk.2 ht with ⟨h1, h2⟩ | ⟨h1, h2⟩
      · obtain ⟨a, b, d⟩ := t
        simp only at h1 h2
        subst h1; subst h2
        rw [hf] at e2
        exact hi u (by simp) e e2.symm
      · exact hn.1 (by rw [← e2]; exact List.mem_map_of_mem h1)

theorem tdel_put : ∀ (T : List (κ × ν × Nat)), tdel (tput T k v c) k = tdel T k
  | [] => by simp [tput,tdel]
  | t :: T => by
    by_cases e : t.1 = k
    · simp [tput,tdel,e]
    · simp [tput,tdel,e,tdel_put T]

theorem MapH.entYes (M : MapH h id ek ev T c) (hk : KeyEnc agg ks ek) (hg : tget T k = some v) : ∃ j b, findK agg ks (ek k) (encE ek ev T) 0 = some (some (j, ev v)) ∧ (encE ek ev T)[j]? = some (ek k, ev v, b) ∧
    (encE ek ev T).modify j (fun e => (ek k, e.2.1, e.2.2)) = encE ek ev T ∧ (encE ek ev T).findIdx? (fun e => ((e.2.2 : Nat) : Int) == ((b : Nat) : Int)) = some j ∧
    (∀ u c, (encE ek ev T).modify j (fun e => (e.1, ev u, e.2.2)) = encE ek ev (tput T k u c)) ∧ b < c := by
  obtain ⟨j, q1, q2, ⟨b, q3⟩, q4, q5⟩ := findK_yes (ev := ev) hk 0 hg
  have hj : (encE ek ev T)[j]? = some (ek k, ev v, b) := by simp [encE,q3]
  refine ⟨j, b, by simpa using q1, hj, ?_, ?_, fun u c => ?_, M.born _ (List.mem_of_getElem? q3)⟩
  · apply List.ext_getElem?
    intro i
    rw [List.getElem?_modify]
    by_cases e : j = i
    · subst e; rw [hj]; simp
    · simp [e]
  · rw [List.findIdx?_eq_some_iff_getElem]
    have hjl : j < (encE ek ev T).length := by rw [encE_len]; exact q2
    refine ⟨hjl, ?_, fun i hi => ?_⟩
    · have := (List.getElem?_eq_some_iff.1 hj).2
      rw [this]; simp
    · have hil : i < T.length := by omega
      have e1 : (encE ek ev T)[i] = (ek T[i].1, ev T[i].2.1, T[i].2.2) := by simp [encE]
      rw [e1]
      simp only [beq_iff_eq,Bool.not_eq_true,beq_eq_false_iff_ne]
      intro e
      have e : T[i].2.2 = b := by omega
      have hb := (List.getElem?_eq_some_iff.1 q3).2
      have := (List.pairwise_iff_getElem.1 M.once) i j (by simpa using hil) (by simpa using q2) hi
      simp only [List.getElem_map] at this
      exact this (by rw [e, hb])
  · rw [← q4 u c]
    apply List.ext_getElem?
    intro i
    rw [List.getElem?_modify, List.getElem?_modify]
    by_cases e : j = i
    · subst e; rw [hj]; simp
    · simp [e]

theorem MapH.entNo (M : MapH h id ek ev T c) (z : AV) : (encE ek ev T ++ [(ek k, z, c)]).findIdx? (fun e => ((e.2.2 : Nat) : Int) == ((c : Nat) : Int)) = some T.length ∧
    ∀ v, (encE ek ev T ++ [(ek k, z, c)]).modify T.length (fun e => (e.1, ev v, e.2.2)) = encE ek ev T ++ [(ek k, ev v, c)] := by
  have hl : (encE ek ev T).length = T.length := encE_len
  refine ⟨?_, fun v => ?_⟩
  · rw [List.findIdx?_append, List.findIdx?_eq_none_iff.2]
    · simp [hl]
    · intro e he
      obtain ⟨t, ht, rfl⟩ := List.mem_map.1 he
      have := M.born t ht
      simp; omega
  · rw [← hl]
    apply List.ext_getElem?
    intro i
    rw [List.getElem?_modify]
    by_cases e : (encE ek ev T).length = i
    · subst e; simp
    · by_cases e2 : i < (encE ek ev T).length
      · rw [List.getElem?_append_left e2, List.getElem?_append_left e2]; simp [e]
      · rw [List.getElem?_eq_none (by simp; omega), List.getElem?_eq_none (by simp; omega)]; rfl

theorem MapH.find (M : MapH h id ek ev T c) {t : κ × ν × Nat} (ht : t ∈ T) : (encE ek ev T).find? (fun e => e.2.2 == t.2.2) = some (ek t.1, ev t.2.1, t.2.2) := by
  obtain ⟨j, hj, rfl⟩ := List.getElem_of_mem ht
  have hjl : j < (encE ek ev T).length := by rw [encE_len]; exact hj
  rw [List.find?_eq_some_iff_getElem]
  refine ⟨by simp, j, hjl, by simp [encE], fun i hi => ?_⟩
  have hil : i < T.length := by omega
  have e1 : (encE ek ev T)[i] = (ek T[i].1, ev T[i].2.1, T[i].2.2) := by simp [encE]
  rw [e1]
  have := (List.pairwise_iff_getElem.1 M.once) i j (by simpa using hil) (by simpa using hj) hi
  simp only [List.getElem_map] at this
  simpa using this

/-! ### going over a map -/
def left (T : List (κ × ν × Nat)) (seen : List Nat) : List (κ × ν × Nat) := T.filter fun t => !seen.contains t.2.2

omit [DecidableEq κ] in
theorem left_nil (T : List (κ × ν × Nat)) : left T [] = T := by
  unfold left
  exact List.filter_eq_self.2 fun t _ => by simp
omit [DecidableEq κ] in
theorem left_cons (u : κ × ν × Nat) (T : List (κ × ν × Nat)) (seen : List Nat) : left (u :: T) seen = if (!seen.contains u.2.2) = true then u :: left T seen else left T seen := by
  simp only [left,List.filter_cons]
omit [DecidableEq κ] in
theorem left_next {seen : List Nat} : ∀ {T : List (κ × ν × Nat)} {t : κ × ν × Nat}, (T.map (·.2.2)).Nodup → t ∈ left T seen → (left T seen).Perm (t :: left T (seen ++ [t.2.2]))
  | [], t, _, h => by simp [left] at h
  | u :: T, t, hn, h => by
    simp only [List.map_cons,List.nodup_cons] at hn
    obtain ⟨hm, hs⟩ := List.mem_filter.1 h
    by_cases e : u = t
    · subst e
      have h1 : left (u :: T) seen = u :: left T seen := by rw [left_cons, if_pos hs]
      have h2 : left (u :: T) (seen ++ [u.2.2]) = left T seen := by
        rw [left_cons, if_neg (by simp)]
        refine List.filter_congr fun x hx => ?_
        have : x.2.2 ≠ u.2.2 := fun e => hn.1 (by rw [← e]; exact List.mem_map_of_mem hx)
        simp [this]
      rw [h1, h2]
    · have ht : t ∈ T := by
        rcases List.mem_cons.1 hm with h | h
        · exact absurd h.symm e
        · exact h
      have hne : u.2.2 ≠ t.2.2 := fun x => hn.1 (by rw [x]; exact List.mem_map_of_mem ht)
      have ih := left_next (T := T) (seen := seen) hn.2 (List.mem_filter.2 ⟨ht, hs⟩)
      by_cases hu : (!seen.contains u.2.2) = true
      · have h1 : left (u :: T) seen = u :: left T seen := by rw [left_cons, if_pos hu]
        have h2 : left (u :: T) (seen ++ [t.2.2]) = u :: left T (seen ++ [t.2.2]) := by rw [left_cons, if_pos (by simp at hu ⊢; exact ⟨hu, hne⟩)]
        rw [h1, h2]
        exact (ih.cons u).trans (List.Perm.swap _ _ _)
      · have h1 : left (u :: T) seen = left T seen := by rw [left_cons, if_neg hu]
        have h2 : left (u :: T) (seen ++ [t.2.2]) = left T (seen ++ [t.2.2]) := by rw [left_cons, if_neg (by simp at hu ⊢; exact fun x => absurd hu x)]
        rw [h1, h2]
        exact ih

omit [DecidableEq κ] in
theorem enc_left (seen : List Nat) : (encE ek ev T).filter (fun e => !seen.contains e.2.2) = encE ek ev (left T seen) := by
  unfold encE left
  rw [List.filter_map]
  rfl

variable {K : Kont} {r : Regs}
omit [DecidableEq κ] in
theorem cands_enc {since : Nat} {seen : List Nat} (hs : ∀ t ∈ T, t.2.2 < since) : cands (encE ek ev T) since seen = if left T seen = [] then [none] else (encE ek ev (left T seen)).map some := by
  unfold cands
  rw [enc_left]
  have h1 : (encE ek ev (left T seen)).filter (fun e => decide (e.2.2 < since)) = encE ek ev (left T seen) := by
    refine List.filter_eq_self.2 fun e he => ?_
    obtain ⟨t, ht, rfl⟩ := List.mem_map.1 he
    simpa using hs t (List.mem_filter.1 ht).1
  have h2 : (encE ek ev (left T seen)).filter (fun e => decide (e.2.2 ≥ since)) = [] := by
    refine List.filter_eq_nil_iff.2 fun e he => ?_
    obtain ⟨t, ht, rfl⟩ := List.mem_map.1 he
    have := hs t (List.mem_filter.1 ht).1
    simp; omega
  rw [h1, h2]
  by_cases e : left T seen = []
  · rw [if_pos e, e]; rfl
  · rw [if_neg e]
    have : (encE ek ev (left T seen)).isEmpty = false := by
      cases hl : left T seen with
      | nil => exact absurd hl e
      | cons a b => rfl
    simp [this]

omit [DecidableEq κ] in
theorem step_next {m i since stepped : Nat} {seen : List Nat} {it : AX} (hm : h[m]? = some (.map (encE ek ev T) c)) (hi : h[i]? = some (.iter (some m) since seen stepped)) (hs : ∀ t ∈ T, t.2.2 < since) (hst : since ≤ stepped)
    (hp : ∀ j, (K.pick j).isSome = true) (hv : vl r it = some (.ptr i 0 0 0)) :
    (left T seen = [] ∧ step K r h (.next it) = some (.val (.tup [.bool false]), r, h ++ [.dead])) ∨
    ∃ t ∈ left T seen, step K r h (.next it) = some (.val (.tup [.bool true, ek t.1, ev t.2.1]), r, h.set i (.iter (some m) since (seen ++ [t.2.2]) c) ++ [.dead]) := by
  have hno : (!seen.isEmpty && !(encE ek ev T).isEmpty && (encE ek ev T).all fun e => decide (e.2.2 ≥ stepped)) = false := by
    cases T with
    | nil => simp [encE]
    | cons t T =>
      have := hs t (by simp)
      have : decide (t.2.2 ≥ stepped) = false := by simp; omega
      simp [encE,this]
  obtain ⟨p, hp⟩ := Option.isSome_iff_exists.1 (hp h.length)
  have hc := cands_enc (ek := ek) (ev := ev) (seen := seen) hs
  by_cases e : left T seen = []
  · rw [if_pos e] at hc
    refine .inl ⟨e, ?_⟩
    simp only [step,hv,hi,hm,hno,hp,hc,Option.bind_some]
    simp
  · rw [if_neg e] at hc
    have hl : 0 < (left T seen).length := List.length_pos_iff.2 e
    obtain ⟨j, hj, hjx⟩ : ∃ j, j < (left T seen).length ∧ (if (cands (encE ek ev T) since seen).length ≤ 1 then 0 else p % (cands (encE ek ev T) since seen).length) = j := by
      refine ⟨_, ?_, rfl⟩
      have hlen : (cands (encE ek ev T) since seen).length = (left T seen).length := by rw [hc]; simp [encE]
      rw [hlen]
      split
      · exact hl
      · exact Nat.mod_lt _ hl
    refine .inr ⟨(left T seen)[j], List.getElem_mem hj, ?_⟩
    have hg : (cands (encE ek ev T) since seen)[j]? = some (some (ek (left T seen)[j].1, ev (left T seen)[j].2.1, (left T seen)[j].2.2)) := by
      rw [hc]
      simp [encE,hj]
    simp only [step,hv,hi,hm,hno,hp,Option.bind_some,hjx,hg]
    simp
end
end Go.Im

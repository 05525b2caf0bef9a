/- ImMapT: maps whose keys and elements are known: looking up, putting, deleting, going over them. -/
import Derived.Test.YtpgmohjmpaifbaaDoorImX4
set_option linter.unusedVariables false
set_option linter.unusedSimpArgs false
set_option linter.unusedSectionVars false
namespace Go.Im

structure KeyEnc {κ : Type} [DecidableEq κ] (agg : Bool) (ks : List CK) (ek : κ → AV) : Prop where
  eq : ∀ a b, eqAV agg ks (ek a) (ek b) = some (decide (a = b))
  ok : ∀ a, keyOk agg ks (ek a) = true

section
variable {κ ν : Type}
def encE (ek : κ → AV) (ev : ν → AV) (T : List (κ × ν × Nat)) : List (AV × AV × Nat) := T.map fun t => (ek t.1, ev t.2.1, t.2.2)

theorem encE_len {ek : κ → AV} {ev : ν → AV} {T : List (κ × ν × Nat)} : (encE ek ev T).length = T.length := by simp [encE]

variable [DecidableEq κ]
def tget : List (κ × ν × Nat) → κ → Option ν
  | [], _ => none
  | t :: T, k => if t.1 = k then some t.2.1 else tget T k
def tput : List (κ × ν × Nat) → κ → ν → Nat → List (κ × ν × Nat)
  | [], k, v, c => [(k, v, c)]
  | t :: T, k, v, c => if t.1 = k then (k, v, t.2.2) :: T else t :: tput T k v c
def tdel : List (κ × ν × Nat) → κ → List (κ × ν × Nat)
  | [], _ => []
  | t :: T, k => if t.1 = k then T else t :: tdel T k

variable {agg : Bool} {ks : List CK} {ek : κ → AV} {ev : ν → AV} {T : List (κ × ν × Nat)} {k : κ} {v : ν} {c : Nat}

theorem tget_none {k : κ} : ∀ {T : List (κ × ν × Nat)}, tget T k = none ↔ ∀ t ∈ T, t.1 ≠ k
  | [] => by simp [tget]
  | t :: T => by
    have ih := tget_none (T := T) (k := k)
    by_cases h : t.1 = k <;> simp [tget,h,ih]
theorem tput_new (h : tget T k = none) : tput T k v c = T ++ [(k, v, c)] := by
  induction T with
  | nil => rfl
  | cons t T ih =>
    simp only [tget] at h
    split at h
    · cases h
    · rename_i e
      simp only [tput,if_neg e,ih h,List.cons_append]
theorem tget_put : ∀ (T : List (κ × ν × Nat)) (k : κ) (v : ν) (c : Nat) (k' : κ), tget (tput T k v c) k' = if k = k' then some v else tget T k'
  | [], k, v, c, k' => by simp [tput,tget]
  | t :: T, k, v, c, k' => by
    have ih := tget_put T k v c k'
    by_cases h : t.1 = k
    · by_cases h2 : k = k'
      · simp [tput,tget,h,h2]
      · simp [tput,tget,h,h2]
    · by_cases h2 : k = k'
      · subst h2; simp [tput,tget,h,ih]
      · simp only [tput,if_neg h,tget,ih,if_neg h2]
theorem tdel_sub : ∀ (T : List (κ × ν × Nat)) (k : κ), (tdel T k).Sublist T
  | [], k => .slnil
  | t :: T, k => by
    simp only [tdel]
    split
    · exact List.sublist_cons_self _ _
    · exact (tdel_sub T k).cons_cons t
theorem findK_no {k : κ} {ev : ν → AV} (hk : KeyEnc agg ks ek) : ∀ {T : List (κ × ν × Nat)} (i : Nat), tget T k = none → findK agg ks (ek k) (encE ek ev T) i = some none
  | [], i, _ => rfl
  | t :: T, i, h => by
    simp only [tget] at h
    split at h
    · cases h
    · rename_i e
      have ih := findK_no (ev := ev) hk (i + 1) h
      have : decide (k = t.1) = false := by simp; exact fun x => e x.symm
      simp only [encE,List.map_cons,findK,hk.eq,this] at ih ⊢
      exact ih

theorem findK_yes {k : κ} {v : ν} {ev : ν → AV} (hk : KeyEnc agg ks ek) : ∀ {T : List (κ × ν × Nat)} (i : Nat), tget T k = some v →
    ∃ j, findK agg ks (ek k) (encE ek ev T) i = some (some (i + j, ev v)) ∧ j < T.length ∧ (∃ b, T[j]? = some (k, v, b)) ∧ (∀ u c, (encE ek ev T).modify j (fun e => (ek k, ev u, e.2.2)) = encE ek ev (tput T k u c)) ∧ (encE ek ev T).eraseIdx j = encE ek ev (tdel T k)
  | [], i, h => by simp [tget] at h
  | t :: T, i, h => by
    simp only [tget] at h
    split at h
    · rename_i e
      cases h
      subst e
      refine ⟨0, ?_, by simp, ⟨t.2.2, rfl⟩, fun u c => ?_, ?_⟩
      · simp only [encE,List.map_cons,findK,hk.eq,decide_true,Nat.add_zero]
      · simp [encE,tput]
      · simp [encE,tdel]
    · rename_i e
      obtain ⟨j, q1, q2, q3, q4, q5⟩ := findK_yes (ev := ev) hk (i + 1) h
      have : decide (k = t.1) = false := by simp; exact fun x => e x.symm
      refine ⟨j + 1, ?_, by simp; omega, by simpa using q3, fun u c => ?_, ?_⟩
      · simp only [encE,List.map_cons,findK,hk.eq,this] at q1 ⊢
        rw [q1]
        congr 3
        omega
      · have := q4 u c
        simp only [encE,List.map_cons,tput,if_neg e,List.modify_succ_cons] at this ⊢
        rw [this]
      · simp only [encE,List.map_cons,tdel,if_neg e,List.eraseIdx_cons_succ] at q5 ⊢
        rw [q5]

structure MapH (h : Hp) (id : Nat) (ek : κ → AV) (ev : ν → AV) (T : List (κ × ν × Nat)) (c : Nat) : Prop where
  hp : h[id]? = some (.map (encE ek ev T) c)
  keys : (T.map (·.1)).Nodup
  born : ∀ t ∈ T, t.2.2 < c
  once : (T.map (·.2.2)).Nodup

variable {h : Hp} {id : Nat}

theorem MapH.new (ek : κ → AV) (ev : ν → AV) (h : Hp) : MapH (h ++ [.map [] 0]) h.length ek ev [] 0 := ⟨by simp [encE], by simp, by simp, by simp⟩
theorem MapH.lt (M : MapH h id ek ev T c) : id < h.length := (List.getElem?_eq_some_iff.1 M.hp).1
theorem MapH.keep {h' : Hp} (M : MapH h id ek ev T c) (e : h'[id]? = h[id]?) : MapH h' id ek ev T c := ⟨e.trans M.hp, M.keys, M.born, M.once⟩
theorem MapH.app (M : MapH h id ek ev T c) (m : Hp) : MapH (h ++ m) id ek ev T c := M.keep (List.getElem?_append_left M.lt)
theorem MapH.of (M : MapH h id ek ev T c) {T' : List (κ × ν × Nat)} {c' : Nat} (h1 : (T'.map (·.1)).Nodup) (h2 : ∀ t ∈ T', t.2.2 < c') (h3 : (T'.map (·.2.2)).Nodup) : MapH (h.set id (.map (encE ek ev T') c')) id ek ev T' c' :=
  ⟨by simp [M.lt], h1, h2, h3⟩

theorem MapH.addP (M : MapH h id ek ev T c) (hk : tget T k = none) : ((T ++ [(k, v, c)]).map (·.1)).Nodup ∧ (∀ t ∈ T ++ [(k, v, c)], t.2.2 < c + 1) ∧ ((T ++ [(k, v, c)]).map (·.2.2)).Nodup := by
  refine ⟨?_, ?_, ?_⟩
  · rw [List.map_append, List.nodup_append]
    refine ⟨M.keys, by simp, fun a ha b hb => ?_⟩
    obtain ⟨t, ht, rfl⟩ := List.mem_map.1 ha
    simp at hb
    subst hb
    exact tget_none.1 hk t ht
  · intro t ht
    rcases List.mem_append.1 ht with ht | ht
    · have := M.born t ht; omega
    · simp at ht; subst ht; simp
  · rw [List.map_append, List.nodup_append]
    refine ⟨M.once, by simp, fun a ha b hb => ?_⟩
    obtain ⟨t, ht, rfl⟩ := List.mem_map.1 ha
    simp at hb
    subst hb
    have := M.born t ht; omega
theorem MapH.add (M : MapH h id ek ev T c) (hk : tget T k = none) (v : ν) : MapH (h.set id (.map (encE ek ev T ++ [(ek k, ev v, c)]) (c + 1))) id ek ev (T ++ [(k, v, c)]) (c + 1) := by
  obtain ⟨h1, h2, h3⟩ := M.addP (v := v) hk
  have := M.of h1 h2 h3
  simpa [encE] using this

theorem tput_maps : ∀ {T : List (κ × ν × Nat)}, tget T k ≠ none → (tput T k v c).map (·.1) = T.map (·.1) ∧ (tput T k v c).map (·.2.2) = T.map (·.2.2)
  | [], h => by simp [tget] at h
  | t :: T, h => by
    simp only [tget] at h
    by_cases e : t.1 = k
    · simp [tput,e]
    · rw [if_neg e] at h
      obtain ⟨q1, q2⟩ := tput_maps (T := T) h
      simp [tput,e,q1,q2]
theorem MapH.setP (M : MapH h id ek ev T c) (hk : tget T k ≠ none) : ((tput T k v c).map (·.1)).Nodup ∧ (∀ t ∈ tput T k v c, t.2.2 < c) ∧ ((tput T k v c).map (·.2.2)).Nodup := by
  obtain ⟨q1, q2⟩ := tput_maps (v := v) (c := c) hk
  refine ⟨by rw [q1]; exact M.keys, fun t ht => ?_, by rw [q2]; exact M.once⟩
  have : t.2.2 ∈ T.map (·.2.2) := by rw [← q2]; exact List.mem_map_of_mem ht
  obtain ⟨u, hu, e⟩ := List.mem_map.1 this
  rw [← e]; exact M.born u hu
theorem MapH.put (M : MapH h id ek ev T c) (hk : tget T k ≠ none) (v : ν) : MapH (h.set id (.map (encE ek ev (tput T k v c)) c)) id ek ev (tput T k v c) c := by
  obtain ⟨h1, h2, h3⟩ := M.setP (v := v) hk
  exact M.of h1 h2 h3
theorem MapH.del (M : MapH h id ek ev T c) (k : κ) : MapH (h.set id (.map (encE ek ev (tdel T k)) c)) id ek ev (tdel T k) c :=
  M.of (((tdel_sub T k).map _).nodup M.keys) (fun t ht => M.born t ((tdel_sub T k).subset ht)) (((tdel_sub T k).map _).nodup M.once)

theorem MapH.find (M : MapH h id ek ev T c) {t : κ × ν × Nat} (ht : t ∈ T) : (encE ek ev T).find? (fun e => e.2.2 == t.2.2) = some (ek t.1, ev t.2.1, t.2.2) := by
  obtain ⟨j, hj, rfl⟩ := List.getElem_of_mem ht
  have hjl : j < (encE ek ev T).length := by rw [encE_len]; exact hj
  rw [List.find?_eq_some_iff_getElem]
  refine ⟨by simp, j, hjl, by simp [encE], fun i hi => ?_⟩
  have hil : i < T.length := by omega
  have e1 : (encE ek ev T)[i] = (ek T[i].1, ev T[i].2.1, T[i].2.2) := by simp [encE]
  rw [e1]
  have := (List.pairwise_iff_getElem.1 M.once) i j (by simpa using hil) (by simpa using hj) hi
  simp only [List.getElem_map] at this
  simpa using this

/-! ### going over a map -/
def left (T : List (κ × ν × Nat)) (seen : List Nat) : List (κ × ν × Nat) := T.filter fun t => !seen.contains t.2.2

variable {K : Kont} {r : Regs}
end
end Go.Im

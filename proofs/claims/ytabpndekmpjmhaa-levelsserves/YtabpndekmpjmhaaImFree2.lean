/- ImFree2: operations in another order: two of them turned about. -/
import Derived.Test.YtabpndekmpjmhaaImFree
set_option linter.unusedVariables false
set_option linter.unusedSimpArgs false
namespace Go.Im

inductive Cls where
  | p | l | r | g | c | s
  deriving DecidableEq

def AOp.cls : AOp → Cls
  | .mov _ | .pick .. | .allocL _ | .boxL .. | .fieldA .. | .indexA .. | .indexS .. | .field .. | .indexV .. | .indexStr .. | .bin .. | .eql .. | .eqNil .. | .un .. | .convI .. | .convStr _ | .strToBytes false _ | .nilCheck _
  | .mkFunc .. | .extract .. | .lit .. | .litS false .. | .slice .. | .sliceA .. | .lenS _ | .lenStr _ | .mm .. | .callP .. => .p
  | .loadL .. => .l
  | .load .. | .bytesToStr _ | .lenM _ | .lookup .. | .sliceX .. => .r
  | .allocH .. | .boxH .. | .litS true .. | .strToBytes true _ | .mkSlice .. | .mkMap | .append true .. => .g
  | .append false .. | .call .. | .callV .. | .mapUpd .. | .mapEnt .. | .entSto .. | .del .. | .clearM _ | .clearS .. | .range _ | .next _ | .entry _ | .convB _ => .c
  | .store .. | .copy .. => .s

def comm : Cls → Cls → Bool
  | .p, _ | _, .p => true
  | .l, .l | .l, .r | .r, .l | .r, .r | .l, .g | .l, .c | .g, .l | .c, .l | .r, .g => true
  | _, _ => false

def AO.solid : AO → Bool
  | .row .. | .map .. => true
  | _ => false

def keeps (h h' : Hp) : Prop := ∀ (id : Nat) o, h[id]? = some o → o.solid = true → h'[id]? = some o

theorem keeps.refl (h : Hp) : keeps h h := fun _ _ h _ => h
theorem keeps.push (h g : Hp) : keeps h (h ++ g) := fun id o ho _ => by
  rw [List.getElem?_append_left (List.getElem?_eq_some_iff.1 ho).1]; exact ho
theorem keeps.dead {h : Hp} {id : Nat} {o : AO} (ho : h[id]? = some o) (hs : o.solid = false) : keeps h (h.set id .dead) := fun j x hx hsx => by
  rw [List.getElem?_set]
  split
  · rename_i e; subst e; rw [ho] at hx; cases hx; rw [hs] at hsx; cases hsx
  · exact hx
theorem keeps.trans {a b c : Hp} (h : keeps a b) (g : keeps b c) : keeps a c := fun id o ho hs => g id o (h id o ho hs) hs

section
variable {r r' : Regs} {h h' : Hp} {d : Nat} {x : Reg} {K : Kont}

theorem iv_congr (hv : ∀ a, vl r' a = vl r a) (a : AX) : iv r' a = iv r a := by simp only [iv,hv]
theorem ivo_congr (hv : ∀ a, vl r' a = vl r a) (i : Int) (a : Option AX) : ivo r' i a = ivo r i a := by cases a <;> simp only [ivo,iv_congr hv]
theorem vls_congr (hv : ∀ a, vl r' a = vl r a) : ∀ as, vls r' as = vls r as
  | [] => rfl
  | a :: as => by simp only [vls,hv,vls_congr hv as]
theorem partVals_congr (hv : ∀ a, vl r' a = vl r a) : ∀ ps, partVals r' ps = partVals r ps
  | [] => rfl
  | (o, s, a) :: as => by simp only [partVals,hv,partVals_congr hv as]
theorem partEs_congr (hv : ∀ a, vl r' a = vl r a) : ∀ ps, partEs r' ps = partEs r ps
  | [] => rfl
  | (o, a) :: as => by simp only [partEs,hv,partEs_congr hv as]

theorem step_p {op : AOp} (hc : op.cls = .p) (hv : ∀ a, vl r' a = vl r a) (hp : ∀ a, plc r' a = plc r a) : step K r' h' op = (step K r h op).map fun z => (z.1, r', h') := by
  have hev : ∀ (op' : AOp), (step K r' h' op' = (evalV r' h' op').map fun y => (y, r', h')) → (step K r h op' = (evalV r h op').map fun y => (y, r, h)) → evalV r' h' op' = evalV r h op' → step K r' h' op' = (step K r h op').map fun z => (z.1, r', h') := by
    intro op' h1 h2 h3
    rw [h1, h2, h3]
    cases evalV r h op' <;> rfl
  cases op
  case strToBytes row a =>
    cases row
    · exact hev _ rfl rfl (by simp only [evalV,hv])
    · simp [AOp.cls] at hc
  case litS row s z l ps =>
    cases row
    · exact hev _ rfl rfl (by simp only [evalV,partEs_congr hv])
    · simp [AOp.cls] at hc
  case append g row s b a c => cases g <;> simp [AOp.cls] at hc
  case callP f xs =>
    simp only [step,vls_congr hv]
    repeat' split
    all_goals first
      | rfl
      | (rw [Option.map_map]; rfl)
  all_goals first
    | (simp [AOp.cls] at hc; done)
    | exact hev _ rfl rfl rfl
    | exact hev _ rfl rfl (by simp only [evalV,hv,hp,iv_congr hv,ivo_congr hv,vls_congr hv,partVals_congr hv])

theorem step_p_same {op : AOp} (hc : op.cls = .p) {z : Reg × Regs × Hp} (hs : step K r h op = some z) : z = (z.1, r, h) := by
  have := step_p (K := K) (h' := h) hc (fun _ => rfl) (fun _ => rfl) (r := r) (h := h)
  rw [hs] at this
  exact Option.some.inj this

theorem step_l {op : AOp} (hc : op.cls = .l) : step K r h' op = (step K r h op).map fun z => (z.1, r, h') := by
  cases op
  case loadL agg s a =>
    show (evalV r h' (.loadL agg s a)).map _ = ((evalV r h (.loadL agg s a)).map _).map _
    have : evalV r h' (.loadL agg s a) = evalV r h (.loadL agg s a) := by
      simp only [evalV]
      split
      · simp only [rd]
      · rfl
    rw [this]
    cases evalV r h (.loadL agg s a) <;> rfl
  case strToBytes row a => cases row <;> simp [AOp.cls] at hc
  case litS row s z l ps => cases row <;> simp [AOp.cls] at hc
  case append g row s b a c => cases g <;> simp [AOp.cls] at hc
  all_goals (simp [AOp.cls] at hc; done)

theorem step_l_same {op : AOp} (hc : op.cls = .l) {z : Reg × Regs × Hp} (hs : step K r h op = some z) : z = (z.1, r, h) := by
  have := step_l (K := K) (h' := h) hc (r := r) (h := h)
  rw [hs] at this
  exact Option.some.inj this

theorem rd_keeps (hk : keeps h h') {agg : Bool} {s : Nat} {p : Pl} {v : AV} (hr : rd r h agg s p = some v) : rd r h' agg s p = some v := by
  cases p with
  | hp id s' i o =>
    simp only [rd] at hr ⊢
    split at hr
    · rename_i s2 es hes
      rw [hk id _ hes rfl]
      exact hr
    · cases hr
  | _ => exact hr

theorem elems_keeps (hk : keeps h h') {sz : Nat} {v : AV} {es : List AV} (he : elems h sz v = some es) : elems h' sz v = some es := by
  unfold elems at he ⊢
  split at he
  · exact he
  · exact he
  · rename_i id s off n clip
    split at he
    · rename_i s2 vs hvs
      rw [hk id _ hvs rfl]
      exact he
    · cases he
  · cases he

theorem selems_keeps (hk : keeps h h') {sz : Nat} {a : AX} {es : List AV} (he : selems r h sz a = some es) : selems r h' sz a = some es := by
  cases a with
  | c v => exact elems_keeps hk he
  | t n =>
    simp only [selems] at he ⊢
    split at he
    · exact elems_keeps hk he
    · exact he
    · rename_i id s i off m es' hg
      split at he
      · rename_i s2 vs hvs
        rw [hk id _ hvs rfl]
        exact he
      · cases he
    · cases he

theorem mapOf_keeps (hk : keeps h h') {v : AV} {es : List (AV × AV × Nat)} (he : mapOf h v = some es) : mapOf h' v = some es := by
  unfold mapOf at he ⊢
  split at he
  · exact he
  · rename_i id
    split at he
    · rename_i es' c hes
      rw [hk id _ hes rfl]
      exact he
    · cases he
  · cases he

theorem evalV_r {op : AOp} (hc : op.cls = .r) (hk : keeps h h') {y : Reg} (he : evalV r h op = some y) : evalV r h' op = some y := by
  cases op
  case load agg s a =>
    simp only [evalV] at he ⊢
    split at he
    · rename_i p hp
      obtain ⟨v, hv, rfl⟩ := map_some he
      simp only [hp,rd_keeps hk hv,Option.map_some]
    · cases he
  case bytesToStr a =>
    simp only [evalV] at he ⊢
    split at he
    · rename_i es hes
      simp only [selems_keeps hk hes]
      exact he
    · cases he
  case lenM a =>
    simp only [evalV] at he ⊢
    split at he
    · rename_i v hv
      obtain ⟨es, hes, rfl⟩ := map_some he
      simp only [hv,mapOf_keeps hk hes,Option.map_some]
    · cases he
  case lookup agg ks z ok m k =>
    simp only [evalV] at he ⊢
    split at he
    · rename_i mv kv hm hkv
      split at he
      · rename_i es hko hes
        simp only [hm,hkv,hko,mapOf_keeps hk hes]
        exact he
      · cases he
    · cases he
  case sliceX sz a lo hi =>
    simp only [evalV] at he ⊢
    split at he
    · split at he
      · rename_i s' es hid
        rw [hk _ _ hid rfl]
        exact he
      · cases he
    · cases he
  case strToBytes row a => cases row <;> simp [AOp.cls] at hc
  case litS row s z l ps => cases row <;> simp [AOp.cls] at hc
  case append g row s b a c => cases g <;> simp [AOp.cls] at hc
  all_goals (simp [AOp.cls] at hc; done)

theorem step_r_eval {op : AOp} (hc : op.cls = .r) (r : Regs) (h : Hp) : step K r h op = (evalV r h op).map fun y => (y, r, h) := by
  cases op
  case strToBytes row a => cases row <;> simp [AOp.cls] at hc
  case litS row s z l ps => cases row <;> simp [AOp.cls] at hc
  case append g row s b a c => cases g <;> simp [AOp.cls] at hc
  all_goals first
    | (simp [AOp.cls] at hc; done)
    | rfl

theorem step_r {op : AOp} (hc : op.cls = .r) (hk : keeps h h') {z : Reg × Regs × Hp} (hs : step K r h op = some z) : z = (z.1, r, h) ∧ step K r h' op = some (z.1, r, h') := by
  rw [step_r_eval hc] at hs ⊢
  obtain ⟨y, hy, rfl⟩ := map_some hs
  exact ⟨rfl, by rw [evalV_r hc hk hy]; rfl⟩

theorem newRow_keeps (row : Bool) (size : Nat) (es : List AV) (h : Hp) : keeps h (newRow row size es h).2 := by
  cases row <;> exact keeps.push _ _

theorem appendV_keeps {row : Bool} {size bytes : Nat} {s : AV} {xs : List AV} (hs : s.isRow = false) {y : AV × Hp} (he : appendV row size bytes s xs h = some y) : keeps h y.2 := by
  unfold appendV at he
  split at he
  · split at he <;> first
      | (cases he; exact keeps.refl _)
      | cases he
  · split at he
    · split at he
      · cases he; exact newRow_keeps _ _ _ _
      · cases he
    · rename_i sz es c
      split at he
      · split at he
        · cases he; exact newRow_keeps _ _ _ _
        · rename_i id e
          split at he
          · rename_i sz' e' hid
            split at he
            · cases he
              exact (keeps.dead hid rfl).trans (keeps.push _ _)
            · cases he
          · cases he
        · cases he
      · cases he
    · simp [AV.isRow] at hs
    · cases he

theorem step_g {op : AOp} (hc : op.cls = .g) {z : Reg × Regs × Hp} (hs : step K r h op = some z) : z.2.1 = r ∧ keeps h z.2.2 := by
  cases op
  case strToBytes row a =>
    cases row <;> simp [AOp.cls] at hc
    simp only [step] at hs
    split at hs
    · cases hs; exact ⟨rfl, keeps.push _ _⟩
    · cases hs
  case litS row s z' l ps =>
    cases row <;> simp [AOp.cls] at hc
    simp only [step] at hs
    split at hs
    · obtain ⟨_, _, rfl⟩ := map_some hs; exact ⟨rfl, keeps.push _ _⟩
    · cases hs
  case append g row s b a c =>
    cases g <;> simp [AOp.cls] at hc
    simp only [step] at hs
    split at hs
    · split at hs
      · cases hs
      · rename_i hrow
        obtain ⟨y, hy, rfl⟩ := map_some hs
        exact ⟨rfl, appendV_keeps (by simpa using hrow) hy⟩
    · cases hs
  case allocH s z' => cases hs; exact ⟨rfl, keeps.push _ _⟩
  case boxH s a =>
    simp only [step] at hs
    split at hs
    · split at hs
      · cases hs; exact ⟨rfl, keeps.push _ _⟩
      · cases hs
    · cases hs
  case mkSlice row s b z' l c =>
    simp only [step] at hs
    split at hs
    · split at hs
      · cases hs; exact ⟨rfl, newRow_keeps _ _ _ _⟩
      · cases hs
    · cases hs
  case mkMap => cases hs; exact ⟨rfl, keeps.push _ _⟩
  all_goals (simp [AOp.cls] at hc; done)

theorem step_c {op : AOp} (hc : op.cls ≠ .s) {z : Reg × Regs × Hp} (hs : step K r h op = some z) : z.2.1 = r := by
  cases op
  case store => exact absurd rfl hc
  case copy => exact absurd rfl hc
  case strToBytes row a =>
    cases row <;> simp only [step] at hs <;> repeat' (split at hs)
    all_goals first
      | contradiction
      | (cases hs; done)
      | (cases hs; rfl)
      | (obtain ⟨_, _, rfl⟩ := map_some hs; rfl)
  case litS row s z' l ps =>
    cases row <;> simp only [step] at hs <;> repeat' (split at hs)
    all_goals first
      | contradiction
      | (cases hs; done)
      | (cases hs; rfl)
      | (obtain ⟨_, _, rfl⟩ := map_some hs; rfl)
  all_goals simp only [step] at hs
  all_goals repeat' (split at hs)
  all_goals first
    | contradiction
    | (cases hs; done)
    | (cases hs; rfl)
    | (obtain ⟨_, _, rfl⟩ := map_some hs; rfl)

theorem step_any {op : AOp} {z : Reg × Regs × Hp} (hs : step K r h op = some z) : z.2.1 = r ∨ ∃ t v y, get r t = .var v ∧ z.2.1 = put r t (.var y) := by
  by_cases hc : op.cls = .s
  · cases op
    case store s a x =>
      simp only [step] at hs
      split at hs
      · rename_i p v hp hv
        split at hs
        · obtain ⟨y, hy, rfl⟩ := map_some hs
          unfold wr at hy
          split at hy
          · split at hy
            · rename_i x' hx'
              obtain ⟨y', _, rfl⟩ := map_some hy
              exact .inr ⟨_, _, _, hx', rfl⟩
            · cases hy
          · repeat' (split at hy)
            all_goals first
              | (cases hy; done)
              | (obtain ⟨_, _, rfl⟩ := map_some hy; exact .inl rfl)
          · cases hy
        · cases hs
      · cases hs
    case copy s a b =>
      simp only [step] at hs
      split at hs
      · obtain ⟨y, hy, rfl⟩ := map_some hs
        unfold copyTo at hy
        repeat' (split at hy)
        all_goals first
          | (cases hy; done)
          | (cases hy; exact .inl rfl)
          | (cases hy; exact .inr ⟨_, _, _, by assumption, rfl⟩)
      · cases hs
    case strToBytes row a => cases row <;> simp [AOp.cls] at hc
    case litS row s z l ps => cases row <;> simp [AOp.cls] at hc
    case append g row s b a c => cases g <;> simp [AOp.cls] at hc
    all_goals (simp [AOp.cls] at hc; done)
  · exact .inl (step_c hc hs)

theorem step_onto {op : AOp} {z : Reg × Regs × Hp} (hs : step K r h op = some z) {u : Nat} (ho : z.1.onto u = true) : (get r u).isV = true ∧ (u ∈ op.names ∨ ∃ t, (get r t).onto u = true) := by
  have plc_onto : ∀ (a : AX) (t o : Nat), plc r a = some (.loc t o) → (get r t).isV = true ∧ (t ∈ tmp a ∨ ∃ t', (get r t').onto t = true) := by
    intro a t o hp
    cases a with
    | c v => exact absurd hp plV_loc
    | t n =>
      simp only [plc] at hp
      cases hg : get r n with
      | val v => rw [hg] at hp; exact absurd hp plV_loc
      | var v =>
        rw [hg] at hp
        cases hp
        exact ⟨by rw [hg]; rfl, .inl (by simp [tmp])⟩
      | adr t' o' =>
        rw [hg] at hp
        simp only at hp
        split at hp
        · rename_i v hv
          cases hp
          exact ⟨by rw [hv]; rfl, .inr ⟨n, by rw [hg]; simp [Reg.onto]⟩⟩
        · cases hp
      | _ => rw [hg] at hp; cases hp
  have sub_loc : ∀ (p : Pl) (off size : Nat) (agg : Bool) (p' : Pl), p.sub off size agg = some p' → p'.reg.onto u = true → ∃ o, p = .loc u o := by
    intro p off size agg p' hp hu
    cases p with
    | loc t o =>
      simp only [Pl.sub] at hp
      cases hp
      simp [Pl.reg,Reg.onto] at hu
      exact ⟨o, by rw [hu]⟩
    | hp id s i o => simp only [Pl.sub] at hp; cases hp; simp [Pl.reg,Reg.onto] at hu
    | im v =>
      simp only [Pl.sub] at hp
      obtain ⟨_, _, rfl⟩ := map_some hp
      simp [Pl.reg,Reg.onto] at hu
  cases op
  case fieldA off s agg a =>
    obtain ⟨y, hy, rfl⟩ := map_some (show (evalV r h (.fieldA off s agg a)).map _ = some z from hs)
    simp only [evalV] at hy
    split at hy
    · rename_i p hp
      obtain ⟨p', hp', rfl⟩ := map_some hy
      obtain ⟨o, rfl⟩ := sub_loc p _ _ _ p' hp' ho
      exact plc_onto a u o hp
    · cases hy
  case indexA len es agg a ix =>
    obtain ⟨y, hy, rfl⟩ := map_some (show (evalV r h (.indexA len es agg a ix)).map _ = some z from hs)
    simp only [evalV] at hy
    split at hy
    · rename_i p i hp _
      split at hy
      · obtain ⟨p', hp', rfl⟩ := map_some hy
        obtain ⟨o, rfl⟩ := sub_loc p _ _ _ p' hp' ho
        obtain ⟨q1, q2⟩ := plc_onto a u o hp
        exact ⟨q1, q2.imp (fun h => by simp [AOp.names,h]) id⟩
      · cases hy
    · cases hy
  case sliceA len es a lo hi =>
    obtain ⟨y, hy, rfl⟩ := map_some (show (evalV r h (.sliceA len es a lo hi)).map _ = some z from hs)
    simp only [evalV] at hy
    split at hy
    · rename_i p l i hp _ _
      split at hy
      · split at hy
        · rename_i t o
          cases hy
          simp only [Reg.onto,beq_iff_eq] at ho
          subst ho
          obtain ⟨q1, q2⟩ := plc_onto a _ o hp
          exact ⟨q1, q2.imp (fun h => by simp [AOp.names,h]) id⟩
        · cases hy; simp [Reg.onto] at ho
        · split at hy
          · cases hy; simp [Reg.onto] at ho
          · cases hy
        · cases hy
      · cases hy
    · cases hy
  case strToBytes row a =>
    cases row <;> simp only [step,evalV] at hs <;> repeat' (split at hs)
    all_goals first
      | contradiction
      | (cases hs; done)
      | (cases hs; simp [Reg.onto] at ho; done)
      | (obtain ⟨y, hy, rfl⟩ := map_some hs; first | (cases hy; simp [Reg.onto] at ho; done) | (simp [Reg.onto] at ho; done))
  case litS row s z' l ps =>
    cases row <;> simp only [step,evalV] at hs <;> repeat' (split at hs)
    all_goals first
      | contradiction
      | (cases hs; done)
      | (cases hs; simp [Reg.onto] at ho; done)
      | (obtain ⟨y, hy, rfl⟩ := map_some hs; first | (cases hy; simp [Reg.onto] at ho; done) | (obtain ⟨_, _, rfl⟩ := map_some hy; simp [Reg.onto] at ho; done) | (simp [Reg.onto] at ho; done))
  all_goals simp only [step,evalV] at hs
  all_goals repeat' (split at hs)
  all_goals first
    | contradiction
    | (cases hs; done)
    | (cases hs; simp [Reg.onto] at ho; done)
    | (obtain ⟨y, hy, rfl⟩ := map_some hs; simp [Reg.onto] at ho; done)
    | (obtain ⟨y, hy, rfl⟩ := map_some hs; cases hy; simp [Reg.onto] at ho; done)
    | (obtain ⟨y, hy, rfl⟩ := map_some hs; obtain ⟨_, _, rfl⟩ := map_some hy; simp [Reg.onto] at ho; done)
    | skip
end
end Go.Im

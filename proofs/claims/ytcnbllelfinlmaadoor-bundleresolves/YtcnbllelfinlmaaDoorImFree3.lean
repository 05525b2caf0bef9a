/- Joined: ImFree, ImFree2, ImFree3. -/
import Derived.Test.YtcnbllelfinlmaaDoorImFun
/- ImFree: operations that do not look at one another: what one does with another one's register put. -/
set_option linter.unusedVariables false
set_option linter.unusedSimpArgs false
namespace Go.Im

def tmp : AX → List Nat
  | .t n => [n]
  | .c _ => []

def tmpo : Option AX → List Nat
  | none => []
  | some x => tmp x

def AOp.names : AOp → List Nat
  | .mov x | .boxL _ x | .boxH _ x | .load _ _ x | .loadL _ _ x | .fieldA _ _ _ x | .field _ _ _ x | .eqNil _ _ x | .un _ x | .convI _ x | .convStr x | .bytesToStr x | .strToBytes _ x | .convB x | .nilCheck x | .extract x _
  | .lenS x | .lenStr x | .lenM x | .clearM x | .clearS _ x | .range x | .next x | .entry x => tmp x
  | .pick a b c | .mapUpd _ _ a b c | .entSto a b c => tmp a ++ (tmp b ++ tmp c)
  | .allocL _ | .allocH _ _ | .mkMap => []
  | .store _ a b | .indexA _ _ _ a b | .indexS _ a b | .indexV _ _ _ a b | .indexStr a b | .bin _ a b | .eql _ _ _ a b | .append _ _ _ _ a b | .copy _ a b | .mm _ a b | .mkSlice _ _ _ _ a b | .lookup _ _ _ _ a b
  | .mapEnt _ _ _ a b | .del _ _ a b => tmp a ++ tmp b
  | .mkFunc _ xs ys => xs.flatMap tmp ++ ys.flatMap tmp
  | .lit _ ps => ps.flatMap fun p => tmp p.2.2
  | .litS _ _ _ _ ps => ps.flatMap fun p => tmp p.2
  | .slice _ x a b c => tmp x ++ (tmpo a ++ (tmpo b ++ tmpo c))
  | .sliceA _ _ x a b => tmp x ++ (tmpo a ++ tmpo b)
  | .sliceX _ x a b => tmp x ++ (tmp a ++ tmp b)
  | .call _ xs | .callP _ xs => xs.flatMap tmp
  | .callV x xs => tmp x ++ xs.flatMap tmp

def Clear (r : Regs) (d : Nat) (x : Reg) : Prop := ((get r d).isV || x.isV) = true → ∀ t, (get r t).onto d = false

section
variable {r : Regs} {h : Hp} {d : Nat} {x : Reg}

theorem vl_put {a : AX} (hd : d ∉ tmp a) : vl (put r d x) a = vl r a := by
  cases a with
  | c v => rfl
  | t n =>
    simp only [tmp,List.mem_singleton] at hd
    simp only [vl,get_put,if_neg hd]

theorem plV_loc {v : AV} {t o : Nat} : plV v ≠ some (.loc t o) := by
  cases v <;> simp [plV]

theorem plc_put {a : AX} (hd : d ∉ tmp a) (hc : Clear r d x) : plc (put r d x) a = plc r a ∧ ∀ t o, plc r a = some (.loc t o) → t ≠ d := by
  cases a with
  | c v => exact ⟨rfl, fun t o e => absurd e plV_loc⟩
  | t n =>
    simp only [tmp,List.mem_singleton] at hd
    simp only [plc,get_put,if_neg hd]
    cases hg : get r n with
    | val v => exact ⟨rfl, fun t o e => absurd e plV_loc⟩
    | var v => refine ⟨rfl, fun t o e => ?_⟩; cases e; exact fun e => hd e.symm
    | adr t o =>
      by_cases hdt : d = t
      · subst hdt
        have hn : ((get r d).isV || x.isV) ≠ true := fun hv => by
          have := hc hv n
          rw [hg] at this
          simp [Reg.onto] at this
        have h1 : (get r d).isV = false := by cases hx : (get r d).isV <;> simp_all
        have h2 : x.isV = false := by cases hx : x.isV <;> simp_all
        simp only [if_true]
        constructor
        · cases x <;> cases hgd : get r d <;> simp_all [Reg.isV]
        · intro t' o' e
          cases hgd : get r d <;> simp_all [Reg.isV]
      · simp only [if_neg hdt]
        refine ⟨by first | rfl | trivial, fun t' o' e => ?_⟩
        split at e
        · cases e; exact fun e => hdt e.symm
        · cases e
    | un => simp
    | slc _ _ _ _ => simp
    | hslc _ _ _ _ _ _ => simp

theorem rd_put {agg : Bool} {s : Nat} {p : Pl} (hp : ∀ t o, p = .loc t o → t ≠ d) : rd (put r d x) h agg s p = rd r h agg s p := by
  cases p with
  | loc t o =>
    have hne : ¬ d = t := fun e => hp t o rfl e.symm
    simp only [rd,get_put,if_neg hne]
  | _ => rfl

theorem selems_put {sz : Nat} {a : AX} (hd : d ∉ tmp a) (hc : Clear r d x) : selems (put r d x) h sz a = selems r h sz a := by
  cases a with
  | c v => rfl
  | t n =>
    simp only [tmp,List.mem_singleton] at hd
    simp only [selems,get_put,if_neg hd]
    cases hg : get r n with
    | slc t off m es =>
      simp only
      by_cases hdt : d = t
      · subst hdt
        have hn : ((get r d).isV || x.isV) ≠ true := fun hv => by
          have := hc hv n
          rw [hg] at this
          simp [Reg.onto] at this
        have h1 : (get r d).isV = false := by cases hx : (get r d).isV <;> simp_all
        have h2 : x.isV = false := by cases hx : x.isV <;> simp_all
        simp only [if_true]
        cases x <;> cases hgd : get r d <;> simp_all [Reg.isV]
      · simp only [if_neg hdt]
    | _ => rfl

theorem srcElems_put {sz : Nat} {a : AX} (hd : d ∉ tmp a) (hc : Clear r d x) : srcElems (put r d x) h sz a = srcElems r h sz a := by
  simp only [srcElems,vl_put hd,selems_put hd hc]

theorem iv_put {a : AX} (hd : d ∉ tmp a) : iv (put r d x) a = iv r a := by simp only [iv,vl_put hd]

theorem ivo_put {i : Int} {a : Option AX} (hd : d ∉ tmpo a) : ivo (put r d x) i a = ivo r i a := by
  cases a with
  | none => rfl
  | some a => exact iv_put hd

theorem vls_put : ∀ {as : List AX}, d ∉ as.flatMap tmp → vls (put r d x) as = vls r as
  | [], _ => rfl
  | a :: as, hd => by
    simp only [List.flatMap_cons,List.mem_append,not_or] at hd
    simp only [vls,vl_put hd.1,vls_put hd.2]

theorem partVals_put : ∀ {ps : List (Nat × Nat × AX)}, (d ∉ ps.flatMap fun p => tmp p.2.2) → partVals (put r d x) ps = partVals r ps
  | [], _ => rfl
  | (o, s, a) :: as, hd => by
    simp only [List.flatMap_cons,List.mem_append,not_or] at hd
    simp only [partVals,vl_put hd.1,partVals_put hd.2]

theorem partEs_put : ∀ {ps : List (Nat × AX)}, (d ∉ ps.flatMap fun p => tmp p.2) → partEs (put r d x) ps = partEs r ps
  | [], _ => rfl
  | (o, a) :: as, hd => by
    simp only [List.flatMap_cons,List.mem_append,not_or] at hd
    simp only [partEs,vl_put hd.1,partEs_put hd.2]

theorem put_comm (r : Regs) {d e : Nat} (hne : d ≠ e) (x y : Reg) : put (put r d x) e y = put (put r e y) d x := by
  have hne' : e ≠ d := Ne.symm hne
  induction r with
  | nil =>
    by_cases c1 : d < e
    · have c2 : ¬ e < d := by omega
      simp [put,c1,c2,hne,hne']
    · have c2 : e < d := by omega
      simp [put,c1,c2,hne,hne']
  | cons p r ih =>
    obtain ⟨u, z⟩ := p
    by_cases a1 : d < u <;> by_cases a2 : d = u <;> by_cases b1 : e < u <;> by_cases b2 : e = u <;> by_cases c1 : d < e <;> by_cases c2 : e < d <;> first
      | omega
      | (simp [put,a1,a2,b1,b2,c1,c2,hne,hne',ih]; done)
      | (subst a2; simp [put,a1,b1,b2,c1,c2,hne,hne',ih]; done)
      | (subst b2; simp [put,a1,a2,b1,c1,c2,hne,hne',ih]; done)

theorem evalV_put {op : AOp} (hd : d ∉ op.names) (hc : Clear r d x) : evalV (put r d x) h op = evalV r h op := by
  cases op <;> simp only [AOp.names,List.mem_append,not_or] at hd
  case load agg s a =>
    obtain ⟨h1, h2⟩ := plc_put (x := x) hd hc
    simp only [evalV,h1]
    cases hp : plc r a with
    | none => rfl
    | some p => simp only; rw [rd_put fun t o e => h2 t o (by rw [hp, e])]
  case loadL agg s a =>
    obtain ⟨h1, h2⟩ := plc_put (x := x) hd hc
    simp only [evalV,h1]
    cases hp : plc r a with
    | none => rfl
    | some p =>
      cases p with
      | loc t o => simp only; rw [rd_put fun t o e => h2 t o (by rw [hp, e])]
      | _ => rfl
  case pick a b c =>
    simp only [evalV,vl_put hd.1]
    split
    · rename_i v hv
      cases v <;> simp [vl_put hd.2.1,vl_put hd.2.2]
    · rfl
  case slice sz a b c e =>
    simp only [evalV,vl_put hd.1,ivo_put hd.2.1]
    obtain ⟨_, _, h3, h4⟩ := hd
    cases c with
    | none => cases e <;> rfl
    | some c =>
      cases e with
      | none => simp only [tmpo] at h3; simp only [iv_put h3]
      | some e => simp only [tmpo] at h3 h4; simp only [iv_put h3,iv_put h4]
  case sliceX sz a b c => simp only [evalV,vl_put hd.1,iv_put hd.2.1,iv_put hd.2.2]
  case indexA l es g a i => simp only [evalV,(plc_put (x := x) hd.1 hc).1,iv_put hd.2]
  case indexS es a i => simp only [evalV,vl_put hd.1,iv_put hd.2]
  case indexV l es g a i => simp only [evalV,vl_put hd.1,iv_put hd.2]
  case indexStr a i => simp only [evalV,vl_put hd.1,iv_put hd.2]
  case strToBytes row a => cases row <;> simp only [evalV,vl_put hd]
  case litS row s z l ps => cases row <;> simp only [evalV,partEs_put hd]
  all_goals first
    | rfl
    | simp only [evalV,vl_put hd,(plc_put (x := x) hd hc).1,selems_put hd hc]
    | simp only [evalV,vls_put hd.1,vls_put hd.2]
    | simp only [evalV,partVals_put hd]
    | simp only [evalV,(plc_put (x := x) hd.1 hc).1,ivo_put hd.2.1,ivo_put hd.2.2]
    | simp only [evalV,vl_put hd]
    | simp only [evalV,(plc_put (x := x) hd hc).1]
    | simp only [evalV,selems_put hd hc]
    | simp only [evalV,vl_put hd.1,vl_put hd.2]

theorem wr_put {p : Pl} {v : AV} (hp : ∀ t o, p = .loc t o → t ≠ d) : wr (put r d x) h p v = (wr r h p v).map fun y => (put y.1 d x, y.2) := by
  cases p with
  | loc t o =>
    have hne : ¬ d = t := fun e => hp t o rfl e.symm
    simp only [wr,get_put,if_neg hne]
    split
    · rename_i y hy
      cases upd y o v with
      | none => rfl
      | some z => simp only [Option.map_some,put_comm r hne]
    · rfl
  | hp id s i o =>
    simp only [wr]
    split
    · split
      · split
        · rename_i y hy
          cases upd y o v <;> rfl
        · rfl
      · rfl
    · rfl
  | im v => rfl

theorem dlen_put {a : AX} (hd : d ∉ tmp a) : dlen (put r d x) h a = dlen r h a := by
  cases a with
  | c v => cases v <;> rfl
  | t n =>
    simp only [tmp,List.mem_singleton] at hd
    simp only [dlen,get_put,if_neg hd]

theorem copyTo_put {a : AX} {xs : List AV} (hd : d ∉ tmp a) (hc : Clear r d x) : copyTo (put r d x) h a xs = (copyTo r h a xs).map fun y => (put y.1 d x, y.2) := by
  cases a with
  | c v => simp only [copyTo]; split <;> rfl
  | t n =>
    simp only [tmp,List.mem_singleton] at hd
    simp only [copyTo,get_put,if_neg hd]
    cases hg : get r n with
    | slc t off m es =>
      simp only
      by_cases hdt : d = t
      · subst hdt
        have hn : ((get r d).isV || x.isV) ≠ true := fun hv => by
          have := hc hv n
          rw [hg] at this
          simp [Reg.onto] at this
        have h1 : (get r d).isV = false := by cases hx : (get r d).isV <;> simp_all
        have h2 : x.isV = false := by cases hx : x.isV <;> simp_all
        simp only [if_true]
        cases x <;> cases hgd : get r d <;> simp_all [Reg.isV]
      · simp only [if_neg hdt]
        split
        · split
          · simp only [Option.map_some,put_comm r hdt]
          · rfl
        · rfl
    | val v =>
      cases v <;> simp only <;> first
        | (split <;> rfl)
        | (split
           · split <;> rfl
           · rfl)
    | hslc id s i off m es =>
      simp only
      split
      · split
        · split <;> rfl
        · rfl
      · rfl
    | _ => rfl

theorem step_put {K : Kont} {op : AOp} (hd : d ∉ op.names) (hc : Clear r d x) : step K (put r d x) h op = (step K r h op).map fun y => (y.1, put y.2.1 d x, y.2.2) := by
  have hev : ∀ (op' : AOp), op' = op → (step K (put r d x) h op' = (evalV (put r d x) h op').map fun y => (y, put r d x, h)) → (step K r h op' = (evalV r h op').map fun y => (y, r, h)) → step K (put r d x) h op' = (step K r h op').map fun y => (y.1, put y.2.1 d x, y.2.2) := by
    intro op' e h1 h2
    subst e
    rw [h1, h2, evalV_put hd hc]
    cases evalV r h op' <;> rfl
  cases op
  case strToBytes row a =>
    cases row
    · exact hev _ rfl rfl rfl
    · simp only [AOp.names] at hd
      simp only [step,vl_put hd]
      split <;> rfl
  case litS row s z l ps =>
    cases row
    · exact hev _ rfl rfl rfl
    · simp only [AOp.names] at hd
      simp only [step,partEs_put hd]
      split
      · rename_i ps' _; cases placeEs (List.replicate l z) s ps' <;> rfl
      · rfl
  case store s a v =>
    simp only [AOp.names,List.mem_append,not_or] at hd
    obtain ⟨h1, h2⟩ := plc_put (x := x) hd.1 hc
    simp only [step,h1,vl_put hd.2]
    split
    · rename_i p v hp hv
      split
      · rw [wr_put fun t o e => h2 t o (by rw [hp, e])]
        cases wr r h p v <;> rfl
      · rfl
    · rfl
  case copy s a b =>
    simp only [AOp.names,List.mem_append,not_or] at hd
    simp only [step,dlen_put hd.1,srcElems_put hd.2 hc,copyTo_put hd.1 hc]
    split
    · rename_i n xs _ _
      cases copyTo r h a (xs.take n) <;> rfl
    · rfl
  case append g row s b v w =>
    simp only [AOp.names,List.mem_append,not_or] at hd
    simp only [step,vl_put hd.1,srcElems_put hd.2 hc]
    split
    · rename_i v xs _ _
      split
      · rfl
      · cases appendV row s b v xs h <;> rfl
    · rfl
  all_goals first
    | exact hev _ rfl rfl rfl
    | skip
  all_goals simp only [AOp.names,List.mem_append,not_or] at hd
  all_goals first
    | rfl
    | (simp only [step,vl_put hd]; done)
    | (simp only [step,vls_put hd]; repeat' split) <;> first
      | rfl
      | (rw [Option.map_map]; rfl)
      | (simp only [Option.map_map]; rfl)
    | (simp only [step,vl_put hd]; repeat' split) <;> first
      | rfl
      | (rw [Option.map_map]; rfl)
    | (simp only [step,vl_put hd.1,vl_put hd.2]; repeat' split) <;> first
      | rfl
      | (rw [Option.map_map]; rfl)
    | (simp only [step,iv_put hd.1,iv_put hd.2]; repeat' split) <;> first
      | rfl
      | (rw [Option.map_map]; rfl)
    | (simp only [step,vl_put hd.1,vls_put hd.2]; repeat' split) <;> first
      | rfl
      | (rw [Option.map_map]; rfl)
    | (simp only [step,vl_put hd.1,vl_put hd.2.1,vl_put hd.2.2]; repeat' split) <;> first
      | rfl
      | (rw [Option.map_map]; rfl)
    | (simp only [step,vl_put hd.1,iv_put hd.2.1,vl_put hd.2.2]; repeat' split) <;> first
      | rfl
      | (rw [Option.map_map]; rfl)
    | skip
end
end Go.Im

/- ImFree2: operations in another order: two of them turned about. -/
set_option linter.unusedVariables false
set_option linter.unusedSimpArgs false
namespace Go.Im

inductive Cls where
  | p | l | r | g | c | s
  deriving DecidableEq

def AOp.cls : AOp → Cls
  | .mov _ | .pick .. | .allocL _ | .boxL .. | .fieldA .. | .indexA .. | .indexS .. | .field .. | .indexV .. | .indexStr .. | .bin .. | .eql .. | .eqNil .. | .un .. | .convI .. | .convStr _ | .strToBytes false _ | .nilCheck _
  | .mkFunc .. | .extract .. | .lit .. | .litS false .. | .slice .. | .sliceA .. | .lenS _ | .lenStr _ | .mm .. | .callP .. => .p
  | .loadL .. => .l
  | .load .. | .bytesToStr _ | .lenM _ | .lookup .. | .sliceX .. => .r
  | .allocH .. | .boxH .. | .litS true .. | .strToBytes true _ | .mkSlice .. | .mkMap | .append true .. => .g
  | .append false .. | .call .. | .callV .. | .mapUpd .. | .mapEnt .. | .entSto .. | .del .. | .clearM _ | .clearS .. | .range _ | .next _ | .entry _ | .convB _ => .c
  | .store .. | .copy .. => .s

def comm : Cls → Cls → Bool
  | .p, _ | _, .p => true
  | .l, .l | .l, .r | .r, .l | .r, .r | .l, .g | .l, .c | .g, .l | .c, .l | .r, .g => true
  | _, _ => false

def AO.solid : AO → Bool
  | .row .. | .map .. => true
  | _ => false

def keeps (h h' : Hp) : Prop := ∀ (id : Nat) o, h[id]? = some o → o.solid = true → h'[id]? = some o

theorem keeps.refl (h : Hp) : keeps h h := fun _ _ h _ => h
theorem keeps.push (h g : Hp) : keeps h (h ++ g) := fun id o ho _ => by
  rw [List.getElem?_append_left (List.getElem?_eq_some_iff.1 ho).1]; exact ho
theorem keeps.dead {h : Hp} {id : Nat} {o : AO} (ho : h[id]? = some o) (hs : o.solid = false) : keeps h (h.set id .dead) := fun j x hx hsx => by
  rw [List.getElem?_set]
  split
  · rename_i e; subst e; rw [ho] at hx; cases hx; rw [hs] at hsx; cases hsx
  · exact hx
theorem keeps.trans {a b c : Hp} (h : keeps a b) (g : keeps b c) : keeps a c := fun id o ho hs => g id o (h id o ho hs) hs

section
variable {r r' : Regs} {h h' : Hp} {d : Nat} {x : Reg} {K : Kont}

theorem iv_congr (hv : ∀ a, vl r' a = vl r a) (a : AX) : iv r' a = iv r a := by simp only [iv,hv]
theorem ivo_congr (hv : ∀ a, vl r' a = vl r a) (i : Int) (a : Option AX) : ivo r' i a = ivo r i a := by cases a <;> simp only [ivo,iv_congr hv]
theorem vls_congr (hv : ∀ a, vl r' a = vl r a) : ∀ as, vls r' as = vls r as
  | [] => rfl
  | a :: as => by simp only [vls,hv,vls_congr hv as]
theorem partVals_congr (hv : ∀ a, vl r' a = vl r a) : ∀ ps, partVals r' ps = partVals r ps
  | [] => rfl
  | (o, s, a) :: as => by simp only [partVals,hv,partVals_congr hv as]
theorem partEs_congr (hv : ∀ a, vl r' a = vl r a) : ∀ ps, partEs r' ps = partEs r ps
  | [] => rfl
  | (o, a) :: as => by simp only [partEs,hv,partEs_congr hv as]

theorem step_p {op : AOp} (hc : op.cls = .p) (hv : ∀ a, vl r' a = vl r a) (hp : ∀ a, plc r' a = plc r a) : step K r' h' op = (step K r h op).map fun z => (z.1, r', h') := by
  have hev : ∀ (op' : AOp), (step K r' h' op' = (evalV r' h' op').map fun y => (y, r', h')) → (step K r h op' = (evalV r h op').map fun y => (y, r, h)) → evalV r' h' op' = evalV r h op' → step K r' h' op' = (step K r h op').map fun z => (z.1, r', h') := by
    intro op' h1 h2 h3
    rw [h1, h2, h3]
    cases evalV r h op' <;> rfl
  cases op
  case strToBytes row a =>
    cases row
    · exact hev _ rfl rfl (by simp only [evalV,hv])
    · simp [AOp.cls] at hc
  case litS row s z l ps =>
    cases row
    · exact hev _ rfl rfl (by simp only [evalV,partEs_congr hv])
    · simp [AOp.cls] at hc
  case append g row s b a c => cases g <;> simp [AOp.cls] at hc
  case callP f xs =>
    simp only [step,vls_congr hv]
    repeat' split
    all_goals first
      | rfl
      | (rw [Option.map_map]; rfl)
  all_goals first
    | (simp [AOp.cls] at hc; done)
    | exact hev _ rfl rfl rfl
    | exact hev _ rfl rfl (by simp only [evalV,hv,hp,iv_congr hv,ivo_congr hv,vls_congr hv,partVals_congr hv])

theorem step_l {op : AOp} (hc : op.cls = .l) : step K r h' op = (step K r h op).map fun z => (z.1, r, h') := by
  cases op
  case loadL agg s a =>
    show (evalV r h' (.loadL agg s a)).map _ = ((evalV r h (.loadL agg s a)).map _).map _
    have : evalV r h' (.loadL agg s a) = evalV r h (.loadL agg s a) := by
      simp only [evalV]
      split
      · simp only [rd]
      · rfl
    rw [this]
    cases evalV r h (.loadL agg s a) <;> rfl
  case strToBytes row a => cases row <;> simp [AOp.cls] at hc
  case litS row s z l ps => cases row <;> simp [AOp.cls] at hc
  case append g row s b a c => cases g <;> simp [AOp.cls] at hc
  all_goals (simp [AOp.cls] at hc; done)

theorem rd_keeps (hk : keeps h h') {agg : Bool} {s : Nat} {p : Pl} {v : AV} (hr : rd r h agg s p = some v) : rd r h' agg s p = some v := by
  cases p with
  | hp id s' i o =>
    simp only [rd] at hr ⊢
    split at hr
    · rename_i s2 es hes
      rw [hk id _ hes rfl]
      exact hr
    · cases hr
  | _ => exact hr

theorem elems_keeps (hk : keeps h h') {sz : Nat} {v : AV} {es : List AV} (he : elems h sz v = some es) : elems h' sz v = some es := by
  unfold elems at he ⊢
  split at he
  · exact he
  · exact he
  · rename_i id s off n clip
    split at he
    · rename_i s2 vs hvs
      rw [hk id _ hvs rfl]
      exact he
    · cases he
  · cases he

theorem selems_keeps (hk : keeps h h') {sz : Nat} {a : AX} {es : List AV} (he : selems r h sz a = some es) : selems r h' sz a = some es := by
  cases a with
  | c v => exact elems_keeps hk he
  | t n =>
    simp only [selems] at he ⊢
    split at he
    · exact elems_keeps hk he
    · exact he
    · rename_i id s i off m es' hg
      split at he
      · rename_i s2 vs hvs
        rw [hk id _ hvs rfl]
        exact he
      · cases he
    · cases he

theorem mapOf_keeps (hk : keeps h h') {v : AV} {es : List (AV × AV × Nat)} (he : mapOf h v = some es) : mapOf h' v = some es := by
  unfold mapOf at he ⊢
  split at he
  · exact he
  · rename_i id
    split at he
    · rename_i es' c hes
      rw [hk id _ hes rfl]
      exact he
    · cases he
  · cases he

theorem evalV_r {op : AOp} (hc : op.cls = .r) (hk : keeps h h') {y : Reg} (he : evalV r h op = some y) : evalV r h' op = some y := by
  cases op
  case load agg s a =>
    simp only [evalV] at he ⊢
    split at he
    · rename_i p hp
      obtain ⟨v, hv, rfl⟩ := map_some he
      simp only [hp,rd_keeps hk hv,Option.map_some]
    · cases he
  case bytesToStr a =>
    simp only [evalV] at he ⊢
    split at he
    · rename_i es hes
      simp only [selems_keeps hk hes]
      exact he
    · cases he
  case lenM a =>
    simp only [evalV] at he ⊢
    split at he
    · rename_i v hv
      obtain ⟨es, hes, rfl⟩ := map_some he
      simp only [hv,mapOf_keeps hk hes,Option.map_some]
    · cases he
  case lookup agg ks z ok m k =>
    simp only [evalV] at he ⊢
    split at he
    · rename_i mv kv hm hkv
      split at he
      · rename_i es hko hes
        simp only [hm,hkv,hko,mapOf_keeps hk hes]
        exact he
      · cases he
    · cases he
  case sliceX sz a lo hi =>
    simp only [evalV] at he ⊢
    split at he
    · split at he
      · rename_i s' es hid
        rw [hk _ _ hid rfl]
        exact he
      · cases he
    · cases he
  case strToBytes row a => cases row <;> simp [AOp.cls] at hc
  case litS row s z l ps => cases row <;> simp [AOp.cls] at hc
  case append g row s b a c => cases g <;> simp [AOp.cls] at hc
  all_goals (simp [AOp.cls] at hc; done)

theorem step_r_eval {op : AOp} (hc : op.cls = .r) (r : Regs) (h : Hp) : step K r h op = (evalV r h op).map fun y => (y, r, h) := by
  cases op
  case strToBytes row a => cases row <;> simp [AOp.cls] at hc
  case litS row s z l ps => cases row <;> simp [AOp.cls] at hc
  case append g row s b a c => cases g <;> simp [AOp.cls] at hc
  all_goals first
    | (simp [AOp.cls] at hc; done)
    | rfl

theorem step_r {op : AOp} (hc : op.cls = .r) (hk : keeps h h') {z : Reg × Regs × Hp} (hs : step K r h op = some z) : z = (z.1, r, h) ∧ step K r h' op = some (z.1, r, h') := by
  rw [step_r_eval hc] at hs ⊢
  obtain ⟨y, hy, rfl⟩ := map_some hs
  exact ⟨rfl, by rw [evalV_r hc hk hy]; rfl⟩

theorem newRow_keeps (row : Bool) (size : Nat) (es : List AV) (h : Hp) : keeps h (newRow row size es h).2 := by
  cases row <;> exact keeps.push _ _

theorem appendV_keeps {row : Bool} {size bytes : Nat} {s : AV} {xs : List AV} (hs : s.isRow = false) {y : AV × Hp} (he : appendV row size bytes s xs h = some y) : keeps h y.2 := by
  unfold appendV at he
  split at he
  · split at he <;> first
      | (cases he; exact keeps.refl _)
      | cases he
  · split at he
    · split at he
      · cases he; exact newRow_keeps _ _ _ _
      · cases he
    · rename_i sz es c
      split at he
      · split at he
        · cases he; exact newRow_keeps _ _ _ _
        · rename_i id e
          split at he
          · rename_i sz' e' hid
            split at he
            · cases he
              exact (keeps.dead hid rfl).trans (keeps.push _ _)
            · cases he
          · cases he
        · cases he
      · cases he
    · simp [AV.isRow] at hs
    · cases he

theorem step_g {op : AOp} (hc : op.cls = .g) {z : Reg × Regs × Hp} (hs : step K r h op = some z) : z.2.1 = r ∧ keeps h z.2.2 := by
  cases op
  case strToBytes row a =>
    cases row <;> simp [AOp.cls] at hc
    simp only [step] at hs
    split at hs
    · cases hs; exact ⟨rfl, keeps.push _ _⟩
    · cases hs
  case litS row s z' l ps =>
    cases row <;> simp [AOp.cls] at hc
    simp only [step] at hs
    split at hs
    · obtain ⟨_, _, rfl⟩ := map_some hs; exact ⟨rfl, keeps.push _ _⟩
    · cases hs
  case append g row s b a c =>
    cases g <;> simp [AOp.cls] at hc
    simp only [step] at hs
    split at hs
    · split at hs
      · cases hs
      · rename_i hrow
        obtain ⟨y, hy, rfl⟩ := map_some hs
        exact ⟨rfl, appendV_keeps (by simpa using hrow) hy⟩
    · cases hs
  case allocH s z' => cases hs; exact ⟨rfl, keeps.push _ _⟩
  case boxH s a =>
    simp only [step] at hs
    split at hs
    · split at hs
      · cases hs; exact ⟨rfl, keeps.push _ _⟩
      · cases hs
    · cases hs
  case mkSlice row s b z' l c =>
    simp only [step] at hs
    split at hs
    · split at hs
      · cases hs; exact ⟨rfl, newRow_keeps _ _ _ _⟩
      · cases hs
    · cases hs
  case mkMap => cases hs; exact ⟨rfl, keeps.push _ _⟩
  all_goals (simp [AOp.cls] at hc; done)

theorem step_c {op : AOp} (hc : op.cls ≠ .s) {z : Reg × Regs × Hp} (hs : step K r h op = some z) : z.2.1 = r := by
  cases op
  case store => exact absurd rfl hc
  case copy => exact absurd rfl hc
  case strToBytes row a =>
    cases row <;> simp only [step] at hs <;> repeat' (split at hs)
    all_goals first
      | contradiction
      | (cases hs; done)
      | (cases hs; rfl)
      | (obtain ⟨_, _, rfl⟩ := map_some hs; rfl)
  case litS row s z' l ps =>
    cases row <;> simp only [step] at hs <;> repeat' (split at hs)
    all_goals first
      | contradiction
      | (cases hs; done)
      | (cases hs; rfl)
      | (obtain ⟨_, _, rfl⟩ := map_some hs; rfl)
  all_goals simp only [step] at hs
  all_goals repeat' (split at hs)
  all_goals first
    | contradiction
    | (cases hs; done)
    | (cases hs; rfl)
    | (obtain ⟨_, _, rfl⟩ := map_some hs; rfl)

theorem step_any {op : AOp} {z : Reg × Regs × Hp} (hs : step K r h op = some z) : z.2.1 = r ∨ ∃ t v y, get r t = .var v ∧ z.2.1 = put r t (.var y) := by
  by_cases hc : op.cls = .s
  · cases op
    case store s a x =>
      simp only [step] at hs
      split at hs
      · rename_i p v hp hv
        split at hs
        · obtain ⟨y, hy, rfl⟩ := map_some hs
          unfold wr at hy
          split at hy
          · split at hy
            · rename_i x' hx'
              obtain ⟨y', _, rfl⟩ := map_some hy
              exact .inr ⟨_, _, _, hx', rfl⟩
            · cases hy
          · repeat' (split at hy)
            all_goals first
              | (cases hy; done)
              | (obtain ⟨_, _, rfl⟩ := map_some hy; exact .inl rfl)
          · cases hy
        · cases hs
      · cases hs
    case copy s a b =>
      simp only [step] at hs
      split at hs
      · obtain ⟨y, hy, rfl⟩ := map_some hs
        unfold copyTo at hy
        repeat' (split at hy)
        all_goals first
          | (cases hy; done)
          | (cases hy; exact .inl rfl)
          | (cases hy; exact .inr ⟨_, _, _, by assumption, rfl⟩)
      · cases hs
    case strToBytes row a => cases row <;> simp [AOp.cls] at hc
    case litS row s z l ps => cases row <;> simp [AOp.cls] at hc
    case append g row s b a c => cases g <;> simp [AOp.cls] at hc
    all_goals (simp [AOp.cls] at hc; done)
  · exact .inl (step_c hc hs)

theorem step_onto {op : AOp} {z : Reg × Regs × Hp} (hs : step K r h op = some z) {u : Nat} (ho : z.1.onto u = true) : (get r u).isV = true ∧ (u ∈ op.names ∨ ∃ t, (get r t).onto u = true) := by
  have plc_onto : ∀ (a : AX) (t o : Nat), plc r a = some (.loc t o) → (get r t).isV = true ∧ (t ∈ tmp a ∨ ∃ t', (get r t').onto t = true) := by
    intro a t o hp
    cases a with
    | c v => exact absurd hp plV_loc
    | t n =>
      simp only [plc] at hp
      cases hg : get r n with
      | val v => rw [hg] at hp; exact absurd hp plV_loc
      | var v =>
        rw [hg] at hp
        cases hp
        exact ⟨by rw [hg]; rfl, .inl (by simp [tmp])⟩
      | adr t' o' =>
        rw [hg] at hp
        simp only at hp
        split at hp
        · rename_i v hv
          cases hp
          exact ⟨by rw [hv]; rfl, .inr ⟨n, by rw [hg]; simp [Reg.onto]⟩⟩
        · cases hp
      | _ => rw [hg] at hp; cases hp
  have sub_loc : ∀ (p : Pl) (off size : Nat) (agg : Bool) (p' : Pl), p.sub off size agg = some p' → p'.reg.onto u = true → ∃ o, p = .loc u o := by
    intro p off size agg p' hp hu
    cases p with
    | loc t o =>
      simp only [Pl.sub] at hp
      cases hp
      simp [Pl.reg,Reg.onto] at hu
      exact ⟨o, by rw [hu]⟩
    | hp id s i o => simp only [Pl.sub] at hp; cases hp; simp [Pl.reg,Reg.onto] at hu
    | im v =>
      simp only [Pl.sub] at hp
      obtain ⟨_, _, rfl⟩ := map_some hp
      simp [Pl.reg,Reg.onto] at hu
  cases op
  case fieldA off s agg a =>
    obtain ⟨y, hy, rfl⟩ := map_some (show (evalV r h (.fieldA off s agg a)).map _ = some z from hs)
    simp only [evalV] at hy
    split at hy
    · rename_i p hp
      obtain ⟨p', hp', rfl⟩ := map_some hy
      obtain ⟨o, rfl⟩ := sub_loc p _ _ _ p' hp' ho
      exact plc_onto a u o hp
    · cases hy
  case indexA len es agg a ix =>
    obtain ⟨y, hy, rfl⟩ := map_some (show (evalV r h (.indexA len es agg a ix)).map _ = some z from hs)
    simp only [evalV] at hy
    split at hy
    · rename_i p i hp _
      split at hy
      · obtain ⟨p', hp', rfl⟩ := map_some hy
        obtain ⟨o, rfl⟩ := sub_loc p _ _ _ p' hp' ho
        obtain ⟨q1, q2⟩ := plc_onto a u o hp
        exact ⟨q1, q2.imp (fun h => by simp [AOp.names,h]) id⟩
      · cases hy
    · cases hy
  case sliceA len es a lo hi =>
    obtain ⟨y, hy, rfl⟩ := map_some (show (evalV r h (.sliceA len es a lo hi)).map _ = some z from hs)
    simp only [evalV] at hy
    split at hy
    · rename_i p l i hp _ _
      split at hy
      · split at hy
        · rename_i t o
          cases hy
          simp only [Reg.onto,beq_iff_eq] at ho
          subst ho
          obtain ⟨q1, q2⟩ := plc_onto a _ o hp
          exact ⟨q1, q2.imp (fun h => by simp [AOp.names,h]) id⟩
        · cases hy; simp [Reg.onto] at ho
        · split at hy
          · cases hy; simp [Reg.onto] at ho
          · cases hy
        · cases hy
      · cases hy
    · cases hy
  case strToBytes row a =>
    cases row <;> simp only [step,evalV] at hs <;> repeat' (split at hs)
    all_goals first
      | contradiction
      | (cases hs; done)
      | (cases hs; simp [Reg.onto] at ho; done)
      | (obtain ⟨y, hy, rfl⟩ := map_some hs; first | (cases hy; simp [Reg.onto] at ho; done) | (simp [Reg.onto] at ho; done))
  case litS row s z' l ps =>
    cases row <;> simp only [step,evalV] at hs <;> repeat' (split at hs)
    all_goals first
      | contradiction
      | (cases hs; done)
      | (cases hs; simp [Reg.onto] at ho; done)
      | (obtain ⟨y, hy, rfl⟩ := map_some hs; first | (cases hy; simp [Reg.onto] at ho; done) | (obtain ⟨_, _, rfl⟩ := map_some hy; simp [Reg.onto] at ho; done) | (simp [Reg.onto] at ho; done))
  all_goals simp only [step,evalV] at hs
  all_goals repeat' (split at hs)
  all_goals first
    | contradiction
    | (cases hs; done)
    | (cases hs; simp [Reg.onto] at ho; done)
    | (obtain ⟨y, hy, rfl⟩ := map_some hs; simp [Reg.onto] at ho; done)
    | (obtain ⟨y, hy, rfl⟩ := map_some hs; cases hy; simp [Reg.onto] at ho; done)
    | (obtain ⟨y, hy, rfl⟩ := map_some hs; obtain ⟨_, _, rfl⟩ := map_some hy; simp [Reg.onto] at ho; done)
    | skip
end
end Go.Im

/- ImFree3: two operations that do not look at one another may be turned about. -/
set_option linter.unusedVariables false
set_option linter.unusedSimpArgs false
namespace Go.Im

def Sim (r r' : Regs) : Prop := ∀ t, get r t = get r' t ∨ ((get r t).isV = true ∧ (get r' t).isV = true)

theorem Sim.refl (r : Regs) : Sim r r := fun _ => .inl rfl
theorem Sim.symm {r r' : Regs} (h : Sim r r') : Sim r' r := fun t => (h t).elim (fun e => .inl e.symm) fun ⟨a, b⟩ => .inr ⟨b, a⟩
theorem Sim.trans {a b c : Regs} (h : Sim a b) (g : Sim b c) : Sim a c := fun t => by
  rcases h t with e | ⟨e1, e2⟩
  · rw [e]; exact g t
  · rcases g t with e | ⟨e3, e4⟩
    · exact .inr ⟨e1, e ▸ e2⟩
    · exact .inr ⟨e1, e4⟩

theorem Sim.isV {r r' : Regs} (h : Sim r r') (t : Nat) : (get r t).isV = (get r' t).isV := by
  rcases h t with e | ⟨e1, e2⟩
  · rw [e]
  · rw [e1, e2]
theorem isV_not {x : Reg} (h : x.isV = true) : x.isA = false ∧ ∀ u, x.onto u = false := by cases x <;> simp_all [Reg.isV, Reg.isA, Reg.onto]
theorem Sim.isA {r r' : Regs} (h : Sim r r') (t : Nat) : (get r t).isA = (get r' t).isA := by
  rcases h t with e | ⟨e1, e2⟩
  · rw [e]
  · rw [(isV_not e1).1, (isV_not e2).1]
theorem Sim.onto {r r' : Regs} (h : Sim r r') (t u : Nat) : (get r t).onto u = (get r' t).onto u := by
  rcases h t with e | ⟨e1, e2⟩
  · rw [e]
  · rw [(isV_not e1).2, (isV_not e2).2]

theorem Sim.vl {r r' : Regs} (h : Sim r r') (a : AX) : Im.vl r' a = Im.vl r a := by
  cases a with
  | c v => rfl
  | t n =>
    simp only [Im.vl]
    rcases h n with e | ⟨e1, e2⟩
    · rw [e]
    · cases hx : get r n <;> cases hy : get r' n <;> simp_all [Reg.isV]

theorem Sim.plc {r r' : Regs} (h : Sim r r') (a : AX) : Im.plc r' a = Im.plc r a := by
  cases a with
  | c v => rfl
  | t n =>
    simp only [Im.plc]
    rcases h n with e | ⟨e1, e2⟩
    · rw [e]
      cases hx : get r' n with
      | adr t o =>
        simp only
        rcases h t with e | ⟨e1, e2⟩
        · rw [e]
        · cases hx : get r t <;> cases hy : get r' t <;> simp_all [Reg.isV]
      | _ => rfl
    · cases hx : get r n <;> cases hy : get r' n <;> simp_all [Reg.isV]

theorem sim_put_var {r : Regs} {t : Nat} {v y : AV} (hv : get r t = .var v) : Sim r (put r t (.var y)) := fun u => by
  rw [get_put]
  split
  · rename_i e; subst e; exact .inr ⟨by rw [hv]; rfl, rfl⟩
  · exact .inl rfl

/-! ### an operation with its guard -/

def act1 (K : Kont) (o : AOper) (r : Regs) (h : Hp) : Option (Reg × Regs × Hp) :=
  match wanted r o.guard with
  | some true => step K r h o.op
  | some false => some (.val (.tup []), r, h)
  | none => none

theorem exec1_act (K : Kont) (o : AOper) (r : Regs) (h : Hp) : exec1 K o r h = match act1 K o r h with
    | some (x, r', h') => (setD o.dst x r').map fun r' => (r', h')
    | none => none := by
  unfold exec1 act1
  cases wanted r o.guard with
  | none => rfl
  | some b => cases b <;> rfl

def gtmp : Option (Nat × Bool) → List Nat
  | none => []
  | some (t, _) => [t]

def AOper.names (o : AOper) : List Nat := gtmp o.guard ++ o.op.names

section
variable {r r' : Regs} {h h' : Hp} {d : Nat} {x : Reg} {K : Kont} {o : AOper}

theorem wanted_put {g : Option (Nat × Bool)} (hd : d ∉ gtmp g) : wanted (put r d x) g = wanted r g := by
  cases g with
  | none => rfl
  | some p =>
    obtain ⟨t, b⟩ := p
    simp only [gtmp,List.mem_singleton] at hd
    simp only [wanted,get_put,if_neg hd]

theorem wanted_sim (hs : Sim r r') (g : Option (Nat × Bool)) : wanted r' g = wanted r g := by
  cases g with
  | none => rfl
  | some p =>
    obtain ⟨t, b⟩ := p
    simp only [wanted]
    rcases hs t with e | ⟨e1, e2⟩
    · rw [e]
    · cases hx : get r t <;> cases hy : get r' t <;> simp_all [Reg.isV]

theorem act1_put (hd : d ∉ o.names) (hc : Clear r d x) : act1 K o (put r d x) h = (act1 K o r h).map fun y => (y.1, put y.2.1 d x, y.2.2) := by
  simp only [AOper.names,List.mem_append,not_or] at hd
  unfold act1
  rw [wanted_put hd.1]
  split
  · exact step_put hd.2 hc
  · rfl
  · rfl

theorem act1_sim {z : Reg × Regs × Hp} (hs : act1 K o r h = some z) : Sim r z.2.1 := by
  unfold act1 at hs
  split at hs
  · rcases step_any hs with e | ⟨t, v, y, e1, e2⟩
    · rw [e]; exact .refl r
    · rw [e2]; exact sim_put_var e1
  · cases hs; exact .refl r
  · cases hs

theorem act1_sorted (hs : Sorted r) {z : Reg × Regs × Hp} (he : act1 K o r h = some z) : Sorted z.2.1 := by
  obtain ⟨a, b, c⟩ := z
  unfold act1 at he
  split at he
  · exact step_sorted hs he
  · cases he; exact hs
  · cases he

theorem act1_onto {z : Reg × Regs × Hp} (hs : act1 K o r h = some z) {u : Nat} (ho : z.1.onto u = true) : (get r u).isV = true ∧ (u ∈ o.names ∨ ∃ t, (get r t).onto u = true) := by
  unfold act1 at hs
  split at hs
  · obtain ⟨h1, h2⟩ := step_onto hs ho
    exact ⟨h1, h2.imp (fun h => by simp [AOper.names,h]) id⟩
  · cases hs; simp [Reg.onto] at ho
  · cases hs

theorem act1_p (hc : o.op.cls = .p) (hs : Sim r r') : act1 K o r' h' = (act1 K o r h).map fun z => (z.1, r', h') := by
  unfold act1
  rw [wanted_sim hs]
  split
  · exact step_p hc hs.vl hs.plc
  · rfl
  · rfl

theorem act1_p_same (hc : o.op.cls = .p) {z : Reg × Regs × Hp} (hs : act1 K o r h = some z) : z = (z.1, r, h) := by
  have := act1_p (K := K) (h := h) (h' := h) hc (Sim.refl r)
  rw [hs] at this
  exact Option.some.inj this

theorem act1_l (hc : o.op.cls = .l) : act1 K o r h' = (act1 K o r h).map fun z => (z.1, r, h') := by
  unfold act1
  split
  · exact step_l hc
  · rfl
  · rfl

theorem act1_l_same (hc : o.op.cls = .l) {z : Reg × Regs × Hp} (hs : act1 K o r h = some z) : z = (z.1, r, h) := by
  have := act1_l (K := K) (h := h) (h' := h) hc (r := r)
  rw [hs] at this
  exact Option.some.inj this

theorem act1_r (hc : o.op.cls = .r) (hk : keeps h h') {z : Reg × Regs × Hp} (hs : act1 K o r h = some z) : z = (z.1, r, h) ∧ act1 K o r h' = some (z.1, r, h') := by
  unfold act1 at hs ⊢
  split at hs
  · exact step_r hc hk hs
  · cases hs; exact ⟨rfl, rfl⟩
  · cases hs

theorem act1_g (hc : o.op.cls = .g) {z : Reg × Regs × Hp} (hs : act1 K o r h = some z) : z.2.1 = r ∧ keeps h z.2.2 := by
  unfold act1 at hs
  split at hs
  · exact step_g hc hs
  · cases hs; exact ⟨rfl, .refl _⟩
  · cases hs

theorem act1_c (hc : o.op.cls ≠ .s) {z : Reg × Regs × Hp} (hs : act1 K o r h = some z) : z.2.1 = r := by
  unfold act1 at hs
  split at hs
  · exact step_c hc hs
  · cases hs; rfl
  · cases hs

theorem act_swap {i j : AOper} (hc : comm i.op.cls j.op.cls = true) {xi xj : Reg} {ri rj : Regs} {hi hj : Hp} (h1 : act1 K i r h = some (xi, ri, hi)) (h2 : act1 K j ri hi = some (xj, rj, hj)) :
    ∃ rj' hj', act1 K j r h = some (xj, rj', hj') ∧ act1 K i rj' hj' = some (xi, rj, hj) := by
  by_cases hp : i.op.cls = .p
  · have e := act1_p_same hp h1
    cases e
    refine ⟨rj, hj, h2, ?_⟩
    rw [act1_p (h := h) hp (act1_sim h2), h1]; rfl
  by_cases hq : j.op.cls = .p
  · have e := act1_p_same hq h2
    cases e
    refine ⟨r, h, ?_, h1⟩
    rw [act1_p (r := ri) (h := hi) hq (act1_sim h1).symm, h2]; rfl
  cases ci : i.op.cls <;> cases cj : j.op.cls <;> rw [ci, cj] at hc <;> first
    | (simp [comm] at hc; done)
    | exact absurd ci hp
    | exact absurd cj hq
    | (have e1 := act1_l_same ci h1
       cases e1
       have e2 := act1_c (by rw [cj]; simp) h2
       simp only at e2
       subst e2
       refine ⟨_, hj, h2, ?_⟩
       rw [act1_l (h := h) ci, h1]; rfl)
    | (have e1 := act1_c (by rw [ci]; simp) h1
       simp only at e1
       subst e1
       have e2 := act1_l_same cj h2
       cases e2
       refine ⟨_, h, ?_, h1⟩
       rw [act1_l (h := hi) cj, h2]; rfl)
    | (have e1 := (act1_r ci (.refl _) h1).1
       have e2 := (act1_r cj (.refl _) h2).1
       cases e1
       cases e2
       exact ⟨r, h, h2, h1⟩)
    | (have e1 := (act1_r ci (.refl _) h1).1
       cases e1
       obtain ⟨e2, hk⟩ := act1_g cj h2
       simp only at e2 hk
       subst e2
       exact ⟨_, hj, h2, (act1_r ci hk h1).2⟩)

/-! ### with the registers put -/

def OkD (dst : Option Nat) (x : Reg) (r : Regs) : Prop := ∀ d, dst = some d → (get r d).isA = false ∧ Clear r d x

def putD (dst : Option Nat) (x : Reg) (r : Regs) : Regs :=
  match dst with
  | none => r
  | some d => put r d x

theorem get_mem {t : Nat} : ∀ {r : Regs}, get r t ≠ .un → (t, get r t) ∈ r
  | [], h => by simp [get] at h
  | (u, y) :: r, h => by
    simp only [get] at h ⊢
    split
    · rename_i e; subst e; simp
    · rename_i e; rw [if_neg e] at h; exact List.mem_cons_of_mem _ (get_mem h)

theorem mem_get {p : Nat × Reg} : ∀ {r : Regs}, Sorted r → p ∈ r → get r p.1 = p.2
  | [], _, h => by simp at h
  | (u, y) :: r, hs, h => by
    have hs' := List.pairwise_cons.1 hs
    simp only [get]
    rcases List.mem_cons.1 h with rfl | h
    · simp
    · have := hs'.1 p h
      rw [if_neg (by simp at this; omega)]
      exact mem_get hs'.2 h

theorem any_onto (hs : Sorted r) : (r.any fun p => p.2.onto d) = false ↔ ∀ t, (get r t).onto d = false := by
  constructor
  · intro h t
    by_cases hg : get r t = .un
    · rw [hg]; rfl
    · have := List.any_eq_false.1 h _ (get_mem hg)
      simpa using this
  · intro h
    rw [List.any_eq_false]
    intro p hp
    rw [← mem_get hs hp, h]
    simp

theorem setD_iff (hs : Sorted r) {dst : Option Nat} : setD dst x r = some r' ↔ OkD dst x r ∧ r' = putD dst x r := by
  cases dst with
  | none => simp only [setD,putD,OkD]; constructor
            · intro h; cases h; exact ⟨fun d e => (by cases e), rfl⟩
            · intro h; rw [h.2]
  | some d =>
    simp only [setD,putD]
    have key : ((get r d).isA || (((get r d).isV || x.isV) && r.any fun p => p.2.onto d)) = false ↔ OkD (some d) x r := by
      rw [Bool.or_eq_false_iff]
      constructor
      · intro ⟨h1, h2⟩ d' e
        cases e
        refine ⟨h1, fun hv => ?_⟩
        rw [hv, Bool.true_and] at h2
        exact (any_onto hs).1 h2
      · intro h
        obtain ⟨h1, h2⟩ := h d rfl
        refine ⟨h1, ?_⟩
        cases hv : ((get r d).isV || x.isV) with
        | false => rfl
        | true => rw [Bool.true_and]; exact (any_onto hs).2 (h2 hv)
    constructor
    · intro h
      split at h
      · cases h
      · rename_i hc
        cases h
        exact ⟨key.1 (by simpa using hc), rfl⟩
    · intro ⟨h1, h2⟩
      rw [if_neg (by rw [key.2 h1]; simp), h2]

theorem putD_comm {di dj : Option Nat} (hne : ∀ a b, di = some a → dj = some b → a ≠ b) (xi xj : Reg) (r : Regs) : putD dj xj (putD di xi r) = putD di xi (putD dj xj r) := by
  cases di with
  | none => rfl
  | some a =>
    cases dj with
    | none => rfl
    | some b => exact put_comm r (hne a b rfl rfl) xi xj

theorem act1_putD {dst : Option Nat} (hd : ∀ d, dst = some d → d ∉ o.names) (hc : ∀ d, dst = some d → Clear r d x) : act1 K o (putD dst x r) h = (act1 K o r h).map fun y => (y.1, putD dst x y.2.1, y.2.2) := by
  cases dst with
  | none => simp only [putD]; cases act1 K o r h <;> rfl
  | some d => exact act1_put (hd d rfl) (hc d rfl)

theorem get_putD {dst : Option Nat} (t : Nat) : get (putD dst x r) t = if dst = some t then x else get r t := by
  cases dst with
  | none => simp [putD]
  | some d => simp only [putD,get_put,Option.some.injEq]

def indep (i j : AOper) : Bool :=
  (match i.dst with
  | some d => !j.names.contains d && j.dst != some d
  | none => true) && (match j.dst with
  | some d => !i.names.contains d
  | none => true) && comm i.op.cls j.op.cls

theorem Sorted.putD {dst : Option Nat} (hs : Sorted r) : Sorted (putD dst x r) := by
  cases dst with
  | none => exact hs
  | some d => exact hs.put _ _

theorem exec_swap (hs : Sorted r) {i j : AOper} (hc : indep i j = true) {r1 r2 : Regs} {h1 h2 : Hp} (e1 : exec1 K i r h = some (r1, h1)) (e2 : exec1 K j r1 h1 = some (r2, h2)) :
    ∃ r1' h1', exec1 K j r h = some (r1', h1') ∧ exec1 K i r1' h1' = some (r2, h2) := by
  simp only [indep,Bool.and_eq_true] at hc
  obtain ⟨⟨c1, c2⟩, c3⟩ := hc
  have nij : ∀ d, i.dst = some d → d ∉ j.names ∧ j.dst ≠ some d := fun d e => by
    rw [e] at c1
    simp only [Bool.and_eq_true,Bool.not_eq_true',bne_iff_ne,ne_eq] at c1
    refine ⟨fun hm => ?_, c1.2⟩
    have := List.contains_iff_mem.2 hm
    rw [c1.1] at this
    cases this
  have nji : ∀ d, j.dst = some d → d ∉ i.names := fun d e hm => by
    rw [e] at c2
    simp only [Bool.not_eq_true'] at c2
    have := List.contains_iff_mem.2 hm
    rw [c2] at this; cases this
  rw [exec1_act] at e1 e2
  cases a1 : act1 K i r h with
  | none => rw [a1] at e1; cases e1
  | some z1 =>
  obtain ⟨xi, ri, hi⟩ := z1
  rw [a1] at e1
  obtain ⟨r1', d1, q⟩ := map_some e1
  cases q
  have sri : Sorted ri := act1_sorted hs a1
  obtain ⟨o1, rfl⟩ := (setD_iff sri).1 d1
  have p2 := act1_putD (K := K) (o := j) (r := ri) (x := xi) (h := h1) (dst := i.dst) (fun d e => (nij d e).1) (fun d e => (o1 d e).2)
  cases a2 : act1 K j ri h1 with
  | none => rw [p2, a2] at e2; cases e2
  | some z2 =>
  obtain ⟨xj, rj, hj⟩ := z2
  rw [p2, a2] at e2
  simp only [Option.map_some] at e2
  obtain ⟨r2', d2, q⟩ := map_some e2
  cases q
  have srj : Sorted rj := act1_sorted sri a2
  obtain ⟨o2, rfl⟩ := (setD_iff srj.putD).1 d2
  obtain ⟨rj', hj', s1, s2⟩ := act_swap c3 a1 a2
  have srj' : Sorted rj' := act1_sorted hs s1
  have sim1 : Sim r ri := act1_sim a1
  have sim2 : Sim ri rj := act1_sim a2
  have sim3 : Sim r rj' := act1_sim s1
  have sim4 : Sim rj' rj := act1_sim s2
  have okj : OkD j.dst xj rj' := fun d e => by
    obtain ⟨k1, k2⟩ := o2 d e
    have hne : i.dst ≠ some d := fun e' => (nij d e').2 e
    rw [get_putD, if_neg hne] at k1
    refine ⟨(by rw [sim4.isA]; exact k1), fun hv t => ?_⟩
    rw [sim4.isV] at hv
    have := k2 (by rw [get_putD, if_neg hne]; exact hv) t
    rw [get_putD] at this
    rw [sim4.onto]
    split at this
    · rename_i et
      obtain ⟨k3, _⟩ := o1 t et
      rw [sim2.isA] at k3
      cases hg : get rj t <;> rw [hg] at k3 <;> simp_all [Reg.isA, Reg.onto]
    · exact this
  refine ⟨putD j.dst xj rj', hj', ?_, ?_⟩
  · rw [exec1_act, s1]
    simp only
    rw [(setD_iff srj').2 ⟨okj, rfl⟩]; rfl
  · have p3 := act1_putD (K := K) (o := i) (r := rj') (x := xj) (h := hj') (dst := j.dst) nji (fun d e => (okj d e).2)
    rw [exec1_act, p3, s2]
    simp only [Option.map_some]
    have oki : OkD i.dst xi (putD j.dst xj rj) := fun d e => by
      obtain ⟨k1, k2⟩ := o1 d e
      have hne : j.dst ≠ some d := (nij d e).2
      rw [get_putD, if_neg hne]
      refine ⟨(by rw [← sim2.isA]; exact k1), fun hv t => ?_⟩
      rw [get_putD, if_neg hne, ← sim2.isV] at hv
      have hno := k2 hv
      rw [get_putD]
      split
      · rename_i et
        cases hxo : xj.onto d with
        | false => rfl
        | true =>
          obtain ⟨m1, m2⟩ := act1_onto a2 hxo
          rcases m2 with m2 | ⟨t', m2⟩
          · exact absurd m2 (nij d e).1
          · rw [hno t'] at m2; cases m2
      · rw [← sim2.onto]; exact hno t
    rw [(setD_iff srj.putD).2 ⟨oki, rfl⟩, putD_comm (fun a b ea eb => fun e => (nij a ea).2 (e ▸ eb))]
    rfl
end
end Go.Im

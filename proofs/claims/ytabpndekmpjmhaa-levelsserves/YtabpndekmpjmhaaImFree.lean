/- ImFree: operations that do not look at one another: what one does with another one's register put. -/
import Derived.Test.YtabpndekmpjmhaaImFun
set_option linter.unusedVariables false
set_option linter.unusedSimpArgs false
namespace Go.Im

def tmp : AX → List Nat
  | .t n => [n]
  | .c _ => []

def tmpo : Option AX → List Nat
  | none => []
  | some x => tmp x

def AOp.names : AOp → List Nat
  | .mov x | .boxL _ x | .boxH _ x | .load _ _ x | .loadL _ _ x | .fieldA _ _ _ x | .field _ _ _ x | .eqNil _ _ x | .un _ x | .convI _ x | .convStr x | .bytesToStr x | .strToBytes _ x | .convB x | .nilCheck x | .extract x _
  | .lenS x | .lenStr x | .lenM x | .clearM x | .clearS _ x | .range x | .next x | .entry x => tmp x
  | .pick a b c | .mapUpd _ _ a b c | .entSto a b c => tmp a ++ (tmp b ++ tmp c)
  | .allocL _ | .allocH _ _ | .mkMap => []
  | .store _ a b | .indexA _ _ _ a b | .indexS _ a b | .indexV _ _ _ a b | .indexStr a b | .bin _ a b | .eql _ _ _ a b | .append _ _ _ _ a b | .copy _ a b | .mm _ a b | .mkSlice _ _ _ _ a b | .lookup _ _ _ _ a b
  | .mapEnt _ _ _ a b | .del _ _ a b => tmp a ++ tmp b
  | .mkFunc _ xs ys => xs.flatMap tmp ++ ys.flatMap tmp
  | .lit _ ps => ps.flatMap fun p => tmp p.2.2
  | .litS _ _ _ _ ps => ps.flatMap fun p => tmp p.2
  | .slice _ x a b c => tmp x ++ (tmpo a ++ (tmpo b ++ tmpo c))
  | .sliceA _ _ x a b => tmp x ++ (tmpo a ++ tmpo b)
  | .sliceX _ x a b => tmp x ++ (tmp a ++ tmp b)
  | .call _ xs | .callP _ xs => xs.flatMap tmp
  | .callV x xs => tmp x ++ xs.flatMap tmp

def Clear (r : Regs) (d : Nat) (x : Reg) : Prop := ((get r d).isV || x.isV) = true → ∀ t, (get r t).onto d = false

section
variable {r : Regs} {h : Hp} {d : Nat} {x : Reg}

theorem vl_put {a : AX} (hd : d ∉ tmp a) : vl (put r d x) a = vl r a := by
  cases a with
  | c v => rfl
  | t n =>
    simp only [tmp,List.mem_singleton] at hd
    simp only [vl,get_put,if_neg hd]

theorem plV_loc {v : AV} {t o : Nat} : plV v ≠ some (.loc t o) := by
  cases v <;> simp [plV]

theorem plc_put {a : AX} (hd : d ∉ tmp a) (hc : Clear r d x) : plc (put r d x) a = plc r a ∧ ∀ t o, plc r a = some (.loc t o) → t ≠ d := by
  cases a with
  | c v => exact ⟨rfl, fun t o e => absurd e plV_loc⟩
  | t n =>
    simp only [tmp,List.mem_singleton] at hd
    simp only [plc,get_put,if_neg hd]
    cases hg : get r n with
    | val v => exact ⟨rfl, fun t o e => absurd e plV_loc⟩
    | var v => refine ⟨rfl, fun t o e => ?_⟩; cases e; exact fun e => hd e.symm
    | adr t o =>
      by_cases hdt : d = t
      · subst hdt
        have hn : ((get r d).isV || x.isV) ≠ true := fun hv => by
          have := hc hv n
          rw [hg] at this
          simp [Reg.onto] at this
        have h1 : (get r d).isV = false := by cases hx : (get r d).isV <;> simp_all
        have h2 : x.isV = false := by cases hx : x.isV <;> simp_all
        simp only [if_true]
        constructor
        · cases x <;> cases hgd : get r d <;> simp_all [Reg.isV]
        · intro t' o' e
          cases hgd : get r d <;> simp_all [Reg.isV]
      · simp only [if_neg hdt]
        refine ⟨by first | rfl | trivial, fun t' o' e => ?_⟩
        split at e
        · cases e; exact fun e => hdt e.symm
        · cases e
    | un => simp
    | slc _ _ _ _ => simp
    | hslc _ _ _ _ _ _ => simp

theorem rd_put {agg : Bool} {s : Nat} {p : Pl} (hp : ∀ t o, p = .loc t o → t ≠ d) : rd (put r d x) h agg s p = rd r h agg s p := by
  cases p with
  | loc t o =>
    have hne : ¬ d = t := fun e => hp t o rfl e.symm
    simp only [rd,get_put,if_neg hne]
  | _ => rfl

theorem selems_put {sz : Nat} {a : AX} (hd : d ∉ tmp a) (hc : Clear r d x) : selems (put r d x) h sz a = selems r h sz a := by
  cases a with
  | c v => rfl
  | t n =>
    simp only [tmp,List.mem_singleton] at hd
    simp only [selems,get_put,if_neg hd]
    cases hg : get r n with
    | slc t off m es =>
      simp only
      by_cases hdt : d = t
      · subst hdt
        have hn : ((get r d).isV || x.isV) ≠ true := fun hv => by
          have := hc hv n
          rw [hg] at this
          simp [Reg.onto] at this
        have h1 : (get r d).isV = false := by cases hx : (get r d).isV <;> simp_all
        have h2 : x.isV = false := by cases hx : x.isV <;> simp_all
        simp only [if_true]
        cases x <;> cases hgd : get r d <;> simp_all [Reg.isV]
      · simp only [if_neg hdt]
    | _ => rfl

theorem srcElems_put {sz : Nat} {a : AX} (hd : d ∉ tmp a) (hc : Clear r d x) : srcElems (put r d x) h sz a = srcElems r h sz a := by
  simp only [srcElems,vl_put hd,selems_put hd hc]

theorem iv_put {a : AX} (hd : d ∉ tmp a) : iv (put r d x) a = iv r a := by simp only [iv,vl_put hd]

theorem ivo_put {i : Int} {a : Option AX} (hd : d ∉ tmpo a) : ivo (put r d x) i a = ivo r i a := by
  cases a with
  | none => rfl
  | some a => exact iv_put hd

theorem vls_put : ∀ {as : List AX}, d ∉ as.flatMap tmp → vls (put r d x) as = vls r as
  | [], _ => rfl
  | a :: as, hd => by
    simp only [List.flatMap_cons,List.mem_append,not_or] at hd
    simp only [vls,vl_put hd.1,vls_put hd.2]

theorem partVals_put : ∀ {ps : List (Nat × Nat × AX)}, (d ∉ ps.flatMap fun p => tmp p.2.2) → partVals (put r d x) ps = partVals r ps
  | [], _ => rfl
  | (o, s, a) :: as, hd => by
    simp only [List.flatMap_cons,List.mem_append,not_or] at hd
    simp only [partVals,vl_put hd.1,partVals_put hd.2]

theorem partEs_put : ∀ {ps : List (Nat × AX)}, (d ∉ ps.flatMap fun p => tmp p.2) → partEs (put r d x) ps = partEs r ps
  | [], _ => rfl
  | (o, a) :: as, hd => by
    simp only [List.flatMap_cons,List.mem_append,not_or] at hd
    simp only [partEs,vl_put hd.1,partEs_put hd.2]

theorem put_comm (r : Regs) {d e : Nat} (hne : d ≠ e) (x y : Reg) : put (put r d x) e y = put (put r e y) d x := by
  have hne' : e ≠ d := Ne.symm hne
  induction r with
  | nil =>
    by_cases c1 : d < e
    · have c2 : ¬ e < d := by omega
      simp [put,c1,c2,hne,hne']
    · have c2 : e < d := by omega
      simp [put,c1,c2,hne,hne']
  | cons p r ih =>
    obtain ⟨u, z⟩ := p
    by_cases a1 : d < u <;> by_cases a2 : d = u <;> by_cases b1 : e < u <;> by_cases b2 : e = u <;> by_cases c1 : d < e <;> by_cases c2 : e < d <;> first
      | omega
      | (simp [put,a1,a2,b1,b2,c1,c2,hne,hne',ih]; done)
      | (subst a2; simp [put,a1,b1,b2,c1,c2,hne,hne',ih]; done)
      | (subst b2; simp [put,a1,a2,b1,c1,c2,hne,hne',ih]; done)

theorem evalV_put {op : AOp} (hd : d ∉ op.names) (hc : Clear r d x) : evalV (put r d x) h op = evalV r h op := by
  cases op <;> simp only [AOp.names,List.mem_append,not_or] at hd
  case load agg s a =>
    obtain ⟨h1, h2⟩ := plc_put (x := x) hd hc
    simp only [evalV,h1]
    cases hp : plc r a with
    | none => rfl
    | some p => simp only; rw [rd_put fun t o e => h2 t o (by rw [hp, e])]
  case loadL agg s a =>
    obtain ⟨h1, h2⟩ := plc_put (x := x) hd hc
    simp only [evalV,h1]
    cases hp : plc r a with
    | none => rfl
    | some p =>
      cases p with
      | loc t o => simp only; rw [rd_put fun t o e => h2 t o (by rw [hp, e])]
      | _ => rfl
  case pick a b c =>
    simp only [evalV,vl_put hd.1]
    split
    · rename_i v hv
      cases v <;> simp [vl_put hd.2.1,vl_put hd.2.2]
    · rfl
  case slice sz a b c e =>
    simp only [evalV,vl_put hd.1,ivo_put hd.2.1]
    obtain ⟨_, _, h3, h4⟩ := hd
    cases c with
    | none => cases e <;> rfl
    | some c =>
      cases e with
      | none => simp only [tmpo] at h3; simp only [iv_put h3]
      | some e => simp only [tmpo] at h3 h4; simp only [iv_put h3,iv_put h4]
  case sliceX sz a b c => simp only [evalV,vl_put hd.1,iv_put hd.2.1,iv_put hd.2.2]
  case indexA l es g a i => simp only [evalV,(plc_put (x := x) hd.1 hc).1,iv_put hd.2]
  case indexS es a i => simp only [evalV,vl_put hd.1,iv_put hd.2]
  case indexV l es g a i => simp only [evalV,vl_put hd.1,iv_put hd.2]
  case indexStr a i => simp only [evalV,vl_put hd.1,iv_put hd.2]
  case strToBytes row a => cases row <;> simp only [evalV,vl_put hd]
  case litS row s z l ps => cases row <;> simp only [evalV,partEs_put hd]
  all_goals first
    | rfl
    | simp only [evalV,vl_put hd,(plc_put (x := x) hd hc).1,selems_put hd hc]
    | simp only [evalV,vls_put hd.1,vls_put hd.2]
    | simp only [evalV,partVals_put hd]
    | simp only [evalV,(plc_put (x := x) hd.1 hc).1,ivo_put hd.2.1,ivo_put hd.2.2]
    | simp only [evalV,vl_put hd]
    | simp only [evalV,(plc_put (x := x) hd hc).1]
    | simp only [evalV,selems_put hd hc]
    | simp only [evalV,vl_put hd.1,vl_put hd.2]

theorem wr_put {p : Pl} {v : AV} (hp : ∀ t o, p = .loc t o → t ≠ d) : wr (put r d x) h p v = (wr r h p v).map fun y => (put y.1 d x, y.2) := by
  cases p with
  | loc t o =>
    have hne : ¬ d = t := fun e => hp t o rfl e.symm
    simp only [wr,get_put,if_neg hne]
    split
    · rename_i y hy
      cases upd y o v with
      | none => rfl
      | some z => simp only [Option.map_some,put_comm r hne]
    · rfl
  | hp id s i o =>
    simp only [wr]
    split
    · split
      · split
        · rename_i y hy
          cases upd y o v <;> rfl
        · rfl
      · rfl
    · rfl
  | im v => rfl

theorem dlen_put {a : AX} (hd : d ∉ tmp a) : dlen (put r d x) h a = dlen r h a := by
  cases a with
  | c v => cases v <;> rfl
  | t n =>
    simp only [tmp,List.mem_singleton] at hd
    simp only [dlen,get_put,if_neg hd]

theorem copyTo_put {a : AX} {xs : List AV} (hd : d ∉ tmp a) (hc : Clear r d x) : copyTo (put r d x) h a xs = (copyTo r h a xs).map fun y => (put y.1 d x, y.2) := by
  cases a with
  | c v => simp only [copyTo]; split <;> rfl
  | t n =>
    simp only [tmp,List.mem_singleton] at hd
    simp only [copyTo,get_put,if_neg hd]
    cases hg : get r n with
    | slc t off m es =>
      simp only
      by_cases hdt : d = t
      · subst hdt
        have hn : ((get r d).isV || x.isV) ≠ true := fun hv => by
          have := hc hv n
          rw [hg] at this
          simp [Reg.onto] at this
        have h1 : (get r d).isV = false := by cases hx : (get r d).isV <;> simp_all
        have h2 : x.isV = false := by cases hx : x.isV <;> simp_all
        simp only [if_true]
        cases x <;> cases hgd : get r d <;> simp_all [Reg.isV]
      · simp only [if_neg hdt]
        split
        · split
          · simp only [Option.map_some,put_comm r hdt]
          · rfl
        · rfl
    | val v =>
      cases v <;> simp only <;> first
        | (split <;> rfl)
        | (split
           · split <;> rfl
           · rfl)
    | hslc id s i off m es =>
      simp only
      split
      · split
        · split <;> rfl
        · rfl
      · rfl
    | _ => rfl

theorem step_put {K : Kont} {op : AOp} (hd : d ∉ op.names) (hc : Clear r d x) : step K (put r d x) h op = (step K r h op).map fun y => (y.1, put y.2.1 d x, y.2.2) := by
  have hev : ∀ (op' : AOp), op' = op → (step K (put r d x) h op' = (evalV (put r d x) h op').map fun y => (y, put r d x, h)) → (step K r h op' = (evalV r h op').map fun y => (y, r, h)) → step K (put r d x) h op' = (step K r h op').map fun y => (y.1, put y.2.1 d x, y.2.2) := by
    intro op' e h1 h2
    subst e
    rw [h1, h2, evalV_put hd hc]
    cases evalV r h op' <;> rfl
  cases op
  case strToBytes row a =>
    cases row
    · exact hev _ rfl rfl rfl
    · simp only [AOp.names] at hd
      simp only [step,vl_put hd]
      split <;> rfl
  case litS row s z l ps =>
    cases row
    · exact hev _ rfl rfl rfl
    · simp only [AOp.names] at hd
      simp only [step,partEs_put hd]
      split
      · rename_i ps' _; cases placeEs (List.replicate l z) s ps' <;> rfl
      · rfl
  case store s a v =>
    simp only [AOp.names,List.mem_append,not_or] at hd
    obtain ⟨h1, h2⟩ := plc_put (x := x) hd.1 hc
    simp only [step,h1,vl_put hd.2]
    split
    · rename_i p v hp hv
      split
      · rw [wr_put fun t o e => h2 t o (by rw [hp, e])]
        cases wr r h p v <;> rfl
      · rfl
    · rfl
  case copy s a b =>
    simp only [AOp.names,List.mem_append,not_or] at hd
    simp only [step,dlen_put hd.1,srcElems_put hd.2 hc,copyTo_put hd.1 hc]
    split
    · rename_i n xs _ _
      cases copyTo r h a (xs.take n) <;> rfl
    · rfl
  case append g row s b v w =>
    simp only [AOp.names,List.mem_append,not_or] at hd
    simp only [step,vl_put hd.1,srcElems_put hd.2 hc]
    split
    · rename_i v xs _ _
      split
      · rfl
      · cases appendV row s b v xs h <;> rfl
    · rfl
  all_goals first
    | exact hev _ rfl rfl rfl
    | skip
  all_goals simp only [AOp.names,List.mem_append,not_or] at hd
  all_goals first
    | rfl
    | (simp only [step,vl_put hd]; done)
    | (simp only [step,vls_put hd]; repeat' split) <;> first
      | rfl
      | (rw [Option.map_map]; rfl)
      | (simp only [Option.map_map]; rfl)
    | (simp only [step,vl_put hd]; repeat' split) <;> first
      | rfl
      | (rw [Option.map_map]; rfl)
    | (simp only [step,vl_put hd.1,vl_put hd.2]; repeat' split) <;> first
      | rfl
      | (rw [Option.map_map]; rfl)
    | (simp only [step,iv_put hd.1,iv_put hd.2]; repeat' split) <;> first
      | rfl
      | (rw [Option.map_map]; rfl)
    | (simp only [step,vl_put hd.1,vls_put hd.2]; repeat' split) <;> first
      | rfl
      | (rw [Option.map_map]; rfl)
    | (simp only [step,vl_put hd.1,vl_put hd.2.1,vl_put hd.2.2]; repeat' split) <;> first
      | rfl
      | (rw [Option.map_map]; rfl)
    | (simp only [step,vl_put hd.1,iv_put hd.2.1,vl_put hd.2.2]; repeat' split) <;> first
      | rfl
      | (rw [Option.map_map]; rfl)
    | skip
end
end Go.Im

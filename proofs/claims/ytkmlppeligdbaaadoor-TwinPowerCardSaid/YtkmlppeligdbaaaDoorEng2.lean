/- The engine's second part: regions whose order is open, the rules of the code's shapes, the end of a function. Conditions: none. -/
import Derived.Test.YtkmlppeligdbaaaDoorEng
namespace Go.Proofs.YtkmlppeligdbaaaDoor
namespace Eg
open Go.RowKit SepW
set_option linter.unusedVariables false
set_option linter.unusedSimpArgs false
set_option linter.unusedSectionVars false

/-! ### regions whose order is open -/
abbrev Pend := List (Nat × List (Addr × Value))
def kept (T : Nat → List Nat) (pd : Pend) (j : Nat) : Pend := pd.filter fun x => !(T j).contains x.1
inductive PObs (w : World) : Pend → Prop
  | nil : PObs w []
  | cons {i : Nat} {l : List (Addr × Value)} {pd : Pend} : Obs w l → PObs w pd → PObs w ((i, l) :: pd)
theorem PObs.mem {w : World} : ∀ {pd : Pend}, PObs w pd ↔ ∀ x ∈ pd, Obs w x.2
  | [] => ⟨fun _ => by simp, fun _ => .nil⟩
  | (i, l) :: pd => by
    constructor
    · intro h; cases h with
      | cons h1 h2 =>
        intro x hx
        rcases List.mem_cons.1 hx with rfl | hx
        · exact h1
        · exact PObs.mem.1 h2 x hx
    · intro h
      exact .cons (h (i, l) (by simp)) (PObs.mem.2 fun x hx => h x (by simp [hx]))
section
variable {P : Program} {ops : Array Oper} {Q : Exit → Act → World → Prop} {n : Nat} {a : Act} {w w' : World} {e e' : Env} {K : Act → World → Prop} {T : Nat → List Nat}
def wpP (P : Program) (ops : Array Oper) (Q : Exit → Act → World → Prop) (T : Nat → List Nat) : Nat → Pend → Array Bool → Act → World → Prop
  | 0, _, listed, a, w => Region.ready .any ops listed = [] ∧ Q .normal a w
  | fuel + 1, pd, listed, a, w =>
    (Region.ready .any ops listed = [] → Q .normal a w) ∧
    ∀ i ∈ Region.ready .any ops listed, wpOp P ops Q i (fun a' w' => PObs w' (kept T pd i) ∧ wpP P ops Q T fuel (kept T pd i) (listed.setIfInBounds i true) a' w') a w
theorem wpAny_of_P : ∀ (fuel : Nat) (pd : Pend) (listed : Array Bool) (a : Act) (w : World), wpP P ops Q T fuel pd listed a w → wpAny P .any ops Q fuel listed a w
  | 0, _, _, _, _, h => h
  | fuel + 1, _, _, _, _, h => ⟨h.1, fun i hi => wpOp_mono (fun a' w' h' => wpAny_of_P fuel _ _ a' w' h'.2) (h.2 i hi)⟩
theorem kept_sub {pd pd' : Pend} (h : ∀ x ∈ pd', x ∈ pd) (j : Nat) : ∀ x ∈ kept T pd' j, x ∈ kept T pd j := by
  intro x hx
  unfold kept at hx ⊢
  rw [List.mem_filter] at hx ⊢
  exact ⟨h x hx.1, hx.2⟩
theorem wpP_sub : ∀ (fuel : Nat) {pd pd' : Pend} (listed : Array Bool) (a : Act) (w : World), (∀ x ∈ pd', x ∈ pd) → wpP P ops Q T fuel pd listed a w → wpP P ops Q T fuel pd' listed a w
  | 0, _, _, _, _, _, _, h => h
  | fuel + 1, pd, pd', listed, a, w, hs, h => ⟨h.1, fun i hi => wpOp_mono (fun a' w' h' => ⟨PObs.mem.2 fun x hx => PObs.mem.1 h'.1 x (kept_sub hs i x hx), wpP_sub fuel _ a' w' (kept_sub hs i) h'.2⟩) (h.2 i hi)⟩
def okT (T : Nat → List Nat) (ops : Array Oper) : Bool :=
  (List.range ops.size).all fun j => (T j).all fun i => match ops[j]? with
    | none => false
    | some o => o.after.any fun e => Region.binds .any e && (Nat.beq e.on i || (T e.on).any (Nat.beq i))
def Closed (T : Nat → List Nat) (listed : Array Bool) : Prop := ∀ k, listed.getD k false = true → ∀ i ∈ T k, listed.getD i false = true
theorem ready_preds {listed : Array Bool} (hT : okT T ops = true) (hc : Closed T listed) {j : Nat} (hj : j ∈ Region.ready .any ops listed) : ∀ i ∈ T j, listed.getD i false = true := by
  intro i hi
  obtain ⟨_, o, ho, hall⟩ := mem_ready.1 hj
  have hlt : j < ops.size := (Array.getElem?_eq_some_iff.1 ho).1
  unfold okT at hT
  rw [List.all_eq_true] at hT
  have h1 := hT j (List.mem_range.2 hlt)
  rw [List.all_eq_true] at h1
  have h2 := h1 i hi
  rw [ho] at h2
  simp only at h2
  obtain ⟨e, he, hb⟩ := Array.any_eq_true'.1 h2
  rw [Bool.and_eq_true, Bool.or_eq_true] at hb
  obtain ⟨hbd, hb⟩ := hb
  have hl := hall e he hbd
  rcases hb with hb | hb
  · have : e.on = i := by simpa using hb
    rw [← this]; exact hl
  · obtain ⟨x, hx, hxe⟩ := List.any_eq_true.1 hb
    have : i = x := by simpa using hxe
    subst this
    exact hc e.on hl i hx
theorem Closed.set {listed : Array Bool} (hc : Closed T listed) {j : Nat} (h : ∀ i ∈ T j, listed.getD i false = true) : Closed T (listed.setIfInBounds j true) := by
  intro k hk i hi
  by_cases hkj : j = k
  · subst hkj; exact getD_set_true (h i hi)
  · rw [getD_set_ne false hkj] at hk
    exact getD_set_true (hc k hk i hi)
theorem ready_false {listed : Array Bool} {i : Nat} (h : i ∈ Region.ready .any ops listed) : listed.getD i false = false := by
  have h0 := (mem_ready.1 h).1
  rcases Nat.lt_or_ge i listed.size with h' | h'
  · simp [h'] at h0 ⊢; exact h0
  · simp [Array.getElem?_eq_none h']
theorem kept_cons {pd : Pend} {i j : Nat} {l : List (Addr × Value)} (h : i ∉ T j) : kept T ((i, l) :: pd) j = (i, l) :: kept T pd j := by
  unfold kept
  rw [List.filter_cons_of_pos]
  simpa using h
theorem wpP_take {i : Nat} {oi : Oper} {v : Value} {obs : List (Addr × Value)} (hT : okT T ops = true) (hi : ops[i]? = some oi) (hs : Region.noSelect ops = true)
    (hQ : ∀ c a d v w, Q (.panic c) (Act.put a d v) w → Q (.panic c) a w) :
    ∀ (fuel : Nat) (pd : Pend) (listed : Array Bool) (a : Act) (w : World),
      (∀ j oj, ops[j]? = some oj → j ≠ i → listed.getD j true = false → (∀ e ∈ oj.after, Region.binds .any e = true → e.on ≠ i) → oi.apart ops oj = true) →
      i ∈ Region.ready .any ops listed → YieldsO P ops obs oi v a → Obs w obs → PObs w pd → Closed T listed →
      wpP P ops Q T fuel ((i, obs) :: pd) (listed.setIfInBounds i true) (a.put oi.dst v) w → wpP P ops Q T (fuel + 1) pd listed a w := by
  have hsel := Region.noSelect_spec hs
  intro fuel
  induction fuel with
  | zero =>
    intro pd listed a w _ hr hy hO hp hc H
    refine ⟨fun h => (by rw [h] at hr; cases hr), fun j hj => ?_⟩
    by_cases hji : j = i
    · subst hji
      refine YieldsIf.wpOp hi hy hO ⟨PObs.mem.2 fun x hx => PObs.mem.1 hp x (List.mem_filter.1 hx).1, H⟩
    · have := ready_mono hj hji
      rw [H.1] at this
      cases this
  | succ fuel ih =>
    intro pd listed a w hfree hr hy hO hp hc H
    refine ⟨fun h => (by rw [h] at hr; cases hr), fun j hj => ?_⟩
    by_cases hji : j = i
    · subst hji
      refine YieldsIf.wpOp hi hy hO ⟨PObs.mem.2 fun x hx => PObs.mem.1 hp x (List.mem_filter.1 hx).1, wpP_sub _ _ _ _ ?_ H⟩
      intro x hx
      exact List.mem_cons_of_mem _ (List.mem_filter.1 hx).1
    · have h1 := H.2 j (ready_mono hj hji)
      obtain ⟨hjun, oj, hoj, hall⟩ := mem_ready.1 hj
      have hnot : ∀ e ∈ oj.after, Region.binds .any e = true → e.on ≠ i := fun e he hb heq => by
        have h2 := hall e he hb
        have h0 := ready_false hr
        rw [heq, h0] at h2
        cases h2
      have hiT : i ∉ T j := fun hm => by
        have h2 := ready_preds hT hc hj i hm
        rw [ready_false hr] at h2
        cases h2
      rw [kept_cons hiT] at h1
      have h2 := wpOp_putIf hoj (hfree j oj hoj hji hjun hnot) (fun cs b => hsel i oi cs b hi) (fun cs b => hsel j oj cs b hoj) (fun c a w => hQ c a oi.dst v w) hy h1
      have hfree' : ∀ k ok, ops[k]? = some ok → k ≠ i → (listed.setIfInBounds j true).getD k true = false →
          (∀ e ∈ ok.after, Region.binds .any e = true → e.on ≠ i) → oi.apart ops ok = true := fun k ok hk hki hun hno => by
        refine hfree k ok hk hki ?_ hno
        by_cases hjk : j = k
        · subst hjk; exact hjun
        · rw [getD_set_ne true hjk] at hun; exact hun
      refine wpOp_mono (fun a' w' h3 => ?_) h2
      obtain ⟨hy', hpo, hrest⟩ := h3
      cases hpo with
      | cons ho1 ho2 =>
        refine ⟨ho2, ih (kept T pd j) (listed.setIfInBounds j true) a' w' hfree' (ready_mono hr (Ne.symm hji)) hy' ho1 ho2 (hc.set (ready_preds hT hc hj)) ?_⟩
        rw [Array.setIfInBounds_comm _ _ hji]
        exact hrest
/-- the region in one order: 'dn' has come up -/
def listedOf (m : Nat) (dn : List Nat) : Array Bool := dn.foldl (fun l i => l.setIfInBounds i true) (Array.replicate m false)
theorem listedOf_snoc (m : Nat) (dn : List Nat) (i : Nat) : listedOf m (dn ++ [i]) = (listedOf m dn).setIfInBounds i true := by simp [listedOf]
structure Sides (ops : Array Oper) (Q : Exit → Act → World → Prop) (T : Nat → List Nat) : Prop where
  hT : okT T ops = true
  hs : Region.noSelect ops = true
  hQ : ∀ c a d v w, Q (.panic c) (Act.put a d v) w → Q (.panic c) a w
def wpD (P : Program) (ops : Array Oper) (Q : Exit → Act → World → Prop) (T : Nat → List Nat) (pd : Pend) (dn : List Nat) (a : Act) (w : World) : Prop :=
  Sides ops Q T → PObs w pd → Closed T (listedOf ops.size dn) → wpP P ops Q T (ops.size - dn.length) pd (listedOf ops.size dn) a w
/-- one may be taken next -/
def takeOk (ops : Array Oper) (dn : List Nat) (i : Nat) : Bool :=
  Nat.blt dn.length ops.size && (Region.ready .any ops (listedOf ops.size dn)).contains i && Region.free .any ops (listedOf ops.size dn) i
theorem wpD_take {i : Nat} {oi : Oper} {v : Value} {obs : List (Addr × Value)} {pd : Pend} {dn : List Nat}
    (hk : takeOk ops dn i = true) (hi : ops[i]? = some oi) (hy : YieldsO P ops obs oi v a) (hO : Obs w obs) (h : wpD P ops Q T ((i, obs) :: pd) (dn ++ [i]) (a.put oi.dst v) w) : wpD P ops Q T pd dn a w := by
  intro sd hp hc
  unfold takeOk at hk
  rw [Bool.and_eq_true, Bool.and_eq_true] at hk
  obtain ⟨⟨hl, hr⟩, hf⟩ := hk
  have hl2 : dn.length < ops.size := by have h2 := hl; simp [Nat.blt] at h2; omega
  have hr' : i ∈ Region.ready .any ops (listedOf ops.size dn) := by simpa using hr
  obtain ⟨f, hf'⟩ : ∃ f, ops.size - dn.length = f + 1 := ⟨ops.size - dn.length - 1, by omega⟩
  rw [hf']
  have h2 := h sd (.cons hO hp) (by rw [listedOf_snoc]; exact hc.set (ready_preds sd.hT hc hr'))
  rw [listedOf_snoc, List.length_append, List.length_singleton, show ops.size - (dn.length + 1) = f by omega] at h2
  exact wpP_take sd.hT hi sd.hs sd.hQ f pd _ a w (Region.free_spec hi hf) hr' hy hO hp hc h2
def runD (P : Program) (n : Nat) (ops : Array Oper) : List Nat → List Nat → Env → List Value → Pend → Option (Env × Pend × List (Addr × Value))
  | [], _, e, [], pd => some (e, pd, [])
  | [], _, _, _ :: _, _ => none
  | i :: is, dn, e, vs, pd => if takeOk ops dn i then match stepQ P n ops e i vs with
    | none => none
    | some (e', obs, r) => match runD P n ops is (dn ++ [i]) e' r ((i, obs) :: pd) with
      | none => none
      | some (e'', pd', obs') => some (e'', pd', obs ++ obs')
    else none
theorem runD_spec : ∀ {is dn : List Nat} {e : Env} {vs : List Value} {pd pd' : Pend} {obs : List (Addr × Value)} {a : Act},
    runD P n ops is dn e vs pd = some (e', pd', obs) → Obs w obs → Fits a n e → (∀ a', Fits a' n e' → wpD P ops Q T pd' (dn ++ is) a' w) → wpD P ops Q T pd dn a w
  | [], dn, e, vs, pd, pd', obs, a, h, hO, hF, k => by
    cases vs with
    | nil => cases h; simpa using k a hF
    | cons v vs => cases h
  | i :: is, dn, e, vs, pd, pd', obs, a, h, hO, hF, k => by
    unfold runD at h
    by_cases hk : takeOk ops dn i = true
    · rw [if_pos hk] at h
      cases hsq : stepQ P n ops e i vs with
      | none => rw [hsq] at h; cases h
      | some y =>
        obtain ⟨e1, obs1, r⟩ := y
        rw [hsq] at h
        simp only at h
        cases hr : runD P n ops is (dn ++ [i]) e1 r ((i, obs1) :: pd) with
        | none => rw [hr] at h; cases h
        | some z =>
          obtain ⟨e2, pd2, obs2⟩ := z
          rw [hr] at h
          cases h
          obtain ⟨o, v, ho, hy, hF1⟩ := stepQ_spec hsq hF
          obtain ⟨hO1, hO2⟩ := Obs.append.1 hO
          refine wpD_take hk ho hy hO1 (runD_spec hr hO2 hF1 fun a' hF' => ?_)
          have := k a' hF'
          rw [List.append_assoc]
          exact this
    · rw [if_neg hk] at h; cases h
def batchD (P : Program) (n : Nat) (ops : Array Oper) (is dn : List Nat) (e : Env) (vs : List Value) (pd : Pend) (live : List Nat) : Option (Env × Pend × List (Addr × Value)) :=
  match runD P n ops is dn e vs pd with
  | some (e', pd', obs) => match restr e' live with
    | some r => some (r, pd'.filter (fun x => !x.2.isEmpty), obs)
    | none => none
  | none => none
theorem PObs.unfilter {pd : Pend} (h : PObs w (pd.filter fun x => !x.2.isEmpty)) : PObs w pd := by
  refine PObs.mem.2 fun x hx => ?_
  by_cases he : x.2 = []
  · rw [he]; exact .nil
  · exact PObs.mem.1 h x (List.mem_filter.2 ⟨hx, by cases hh : x.2 <;> simp_all⟩)
theorem wpP_filter : ∀ (fuel : Nat) {pd : Pend} (listed : Array Bool) (a : Act) (w : World), wpP P ops Q T fuel (pd.filter fun x => !x.2.isEmpty) listed a w → wpP P ops Q T fuel pd listed a w
  | 0, _, _, _, _, h => h
  | fuel + 1, pd, listed, a, w, h => ⟨h.1, fun i hi => wpOp_mono (fun a' w' h' => by
      have hc : kept T (pd.filter fun x => !x.2.isEmpty) i = (kept T pd i).filter fun x => !x.2.isEmpty := by
        unfold kept; rw [List.filter_filter, List.filter_filter]; congr 1; funext x; exact Bool.and_comm _ _
      rw [hc] at h'
      exact ⟨h'.1.unfilter, wpP_filter fuel _ a' w' h'.2⟩) (h.2 i hi)⟩
theorem wpD_filter {pd : Pend} {dn : List Nat} (h : wpD P ops Q T (pd.filter fun x => !x.2.isEmpty) dn a w) : wpD P ops Q T pd dn a w :=
  fun sd hp hc => wpP_filter _ _ _ _ (h sd (PObs.mem.2 fun x hx => PObs.mem.1 hp x (List.mem_filter.1 hx).1) hc)
theorem batchD_spec {is dn dn' : List Nat} {vs : List Value} {pd pd' : Pend} {live : List Nat} {obs : List (Addr × Value)}
    (hF : Fits a n e) (h : batchD P n ops is dn e vs pd live = some (e', pd', obs)) (hO : Obs w obs) (hd : dn ++ is = dn')
    (k : ∀ a', Fits a' n e' → wpD P ops Q T pd' dn' a' w) : wpD P ops Q T pd dn a w := by
  subst hd
  unfold batchD at h
  cases hr : runD P n ops is dn e vs pd with
  | none => rw [hr] at h; cases h
  | some y =>
    obtain ⟨e1, pd1, obs1⟩ := y
    rw [hr] at h
    simp only at h
    cases hq : restr e1 live with
    | none => rw [hq] at h; cases h
    | some r =>
      rw [hq] at h
      cases h
      exact runD_spec hr hO hF fun a' hF' => wpD_filter (k a' (hF'.restr hq))
/-- one that only reads, by a law of its own -/
theorem wpD_one {i : Nat} {u : Value} {v : V} {obs : List (Addr × Value)} {pd : Pend} {dn dn' : List Nat}
    (hF : Fits a n e) (hv : view n ops e i u = some (v, e')) (hk : takeOk ops dn i = true) (hd : dn ++ [i] = dn') (hr : ∀ w, Obs w obs → v.sem.run P w = .ok (.value u) w) (hO : Obs w obs)
    (k : ∀ a', Fits a' n e' → wpD P ops Q T ((i, obs) :: pd) dn' a' w) : wpD P ops Q T pd dn a w := by
  subst hd
  obtain ⟨o, ho, hw, hsm, hF'⟩ := view_spec hv hF
  exact wpD_take hk ho (.inl ⟨hw, fun w hO => by rw [hsm]; exact hr w hO⟩) hO (k _ hF')
/-- the one that comes up next, whatever it does -/
theorem wpD_next {i : Nat} {pd pd' : Pend} {dn dn' : List Nat} (hr : (Nat.blt dn.length ops.size, Region.ready .any ops (listedOf ops.size dn)) = (true, [i])) (hd : dn ++ [i] = dn') (hp : kept T pd i = pd')
    (h : wpOp P ops Q i (fun a' w' => PObs w' pd' ∧ wpD P ops Q T pd' dn' a' w') a w) : wpD P ops Q T pd dn a w := by
  subst hd hp
  intro sd hpo hc
  have hl := congrArg Prod.fst hr
  have hr := congrArg Prod.snd hr
  simp only at hl hr
  have hl2 : dn.length < ops.size := by have h2 := hl; simp [Nat.blt] at h2; omega
  obtain ⟨f, hf'⟩ : ∃ f, ops.size - dn.length = f + 1 := ⟨ops.size - dn.length - 1, by omega⟩
  rw [hf']
  have hi : i ∈ Region.ready .any ops (listedOf ops.size dn) := by rw [hr]; simp
  refine ⟨fun h0 => (by rw [h0] at hr; cases hr), fun j hj => ?_⟩
  rw [hr] at hj
  simp only [List.mem_singleton] at hj
  subst hj
  refine wpOp_mono (fun a' w' h' => ?_) h
  have h2 := h'.2 sd h'.1 (by rw [listedOf_snoc]; exact hc.set (ready_preds sd.hT hc hi))
  rw [listedOf_snoc, List.length_append, List.length_singleton, show ops.size - (dn.length + 1) = f by omega] at h2
  exact ⟨h'.1, h2⟩
/-- one of two comes up next -/
theorem wpD_next2 {i j : Nat} {pd pdi pdj : Pend} {dn dni dnj : List Nat} (hr : (Nat.blt dn.length ops.size, Region.ready .any ops (listedOf ops.size dn)) = (true, [i, j])) (hdi : dn ++ [i] = dni) (hdj : dn ++ [j] = dnj) (hpi : kept T pd i = pdi) (hpj : kept T pd j = pdj)
    (h1 : wpOp P ops Q i (fun a' w' => PObs w' pdi ∧ wpD P ops Q T pdi dni a' w') a w) (h2 : wpOp P ops Q j (fun a' w' => PObs w' pdj ∧ wpD P ops Q T pdj dnj a' w') a w) : wpD P ops Q T pd dn a w := by
  subst hdi hdj hpi hpj
  intro sd hpo hc
  have hl := congrArg Prod.fst hr
  have hr := congrArg Prod.snd hr
  simp only at hl hr
  have hl2 : dn.length < ops.size := by have h2 := hl; simp [Nat.blt] at h2; omega
  obtain ⟨f, hf'⟩ : ∃ f, ops.size - dn.length = f + 1 := ⟨ops.size - dn.length - 1, by omega⟩
  rw [hf']
  refine ⟨fun h0 => (by rw [h0] at hr; cases hr), fun k hk => ?_⟩
  have hk' := hk
  rw [hr] at hk
  simp only [List.mem_cons, List.not_mem_nil, or_false] at hk
  rcases hk with rfl | rfl
  · refine wpOp_mono (fun a' w' h' => ?_) h1
    have h2 := h'.2 sd h'.1 (by rw [listedOf_snoc]; exact hc.set (ready_preds sd.hT hc hk'))
    rw [listedOf_snoc, List.length_append, List.length_singleton, show ops.size - (dn.length + 1) = f by omega] at h2
    exact ⟨h'.1, h2⟩
  · refine wpOp_mono (fun a' w' h' => ?_) h2
    have h2 := h'.2 sd h'.1 (by rw [listedOf_snoc]; exact hc.set (ready_preds sd.hT hc hk'))
    rw [listedOf_snoc, List.length_append, List.length_singleton, show ops.size - (dn.length + 1) = f by omega] at h2
    exact ⟨h'.1, h2⟩
theorem wpD_done {pd : Pend} {dn : List Nat} (hr : Region.ready .any ops (listedOf ops.size dn) = []) (h : Q .normal a w) : wpD P ops Q T pd dn a w := by
  intro _ _ _
  cases hf : ops.size - dn.length with
  | zero => exact ⟨hr, h⟩
  | succ f => exact ⟨fun _ => h, by rw [hr]; simp⟩
theorem reg_drawn {id : Nat} {L : List Atom} (T : Nat → List Nat) (hS : Sat w L) (hm : P.follows .mixedOrders = true) (hT : okT T ops = true) (hs : Region.noSelect ops = true) (hQ : ∀ c a d v w, Q (.panic c) (Act.put a d v) w → Q (.panic c) a w)
    (h : ∀ w', Sat w' L → w'.heap = w.heap → wpD P ops Q T [] [] a w') : (Code.region id ops true).wp P Q a w := by
  refine wp_region_any hm (wpAny_of_P (T := T) _ [] _ _ _ ?_)
  refine h w.drew hS.drew rfl ⟨hT, hs, hQ⟩ .nil ?_
  intro k hk
  exfalso
  have h2 : (listedOf ops.size []) = Array.replicate ops.size false := rfl
  rw [h2] at hk
  by_cases hlt : k < ops.size
  · simp [hlt] at hk
  · simp [Array.getElem?_eq_none, hlt] at hk
/-! ### the shapes of the code -/
theorem reg_text {id : Nat} {l : List Nat} (hl : List.range ops.size = l) (h : wpOps P ops Q l a w) : (Code.region id ops false).wp P Q a w :=
  wp_region (by rw [hl]; exact h)
theorem ops_next {i : Nat} {rest : List Nat} (h : wpOp P ops Q i (wpOps P ops Q rest) a w) : wpOps P ops Q (i :: rest) a w := by
  rw [wpOps_cons]; exact h
theorem ops_done (h : Q .normal a w) : wpOps P ops Q [] a w := h
theorem nrm_then {K : Act → World → Prop} (h : K a w) : Exit.then K Q .normal a w := h
theorem nrm_block {id : Nat} (h : Q .normal a w) : Exit.inBlock id Q .normal a w := h
theorem then_cut {x : Code} {K : Act → World → Prop} (M : Act → World → Prop) (h1 : x.wp P (Exit.then M Q) a w) (h2 : ∀ a w, M a w → K a w) : x.wp P (Exit.then K Q) a w := by
  refine wp_mono h1 ?_
  intro e a w h
  cases e with
  | normal => exact h2 a w h
  | _ => exact h
theorem ret_then {K : Act → World → Prop} (h : Q .ret a w) : Exit.then K Q .ret a w := h
theorem ret_block {id : Nat} (h : Q .ret a w) : Exit.inBlock id Q .ret a w := h
theorem exit_then {K : Act → World → Prop} {j : Nat} (h : Q (.exit j) a w) : Exit.then K Q (.exit j) a w := h
theorem exit_block {id : Nat} (h : Q .normal a w) : Exit.inBlock id Q (.exit id) a w := by
  show (if id = id then _ else _)
  rw [if_pos rfl]; exact h
theorem exit_other {id j : Nat} (hne : Nat.beq j id = false) (h : Q (.exit j) a w) : Exit.inBlock id Q (.exit j) a w := by
  show (if j = id then _ else _)
  rw [if_neg (by intro e; subst e; simp at hne)]; exact h
theorem cond_both {c : Nat} {x y : Code} {b : Bool} (hF : Fits a n e) (hc : gt e c = some (.bool b)) (ht : b = true → x.wp P Q a w) (hf : b = false → y.wp P Q a w) : (Code.cond (.tmp c) x y).wp P Q a w := by
  have hev : a.eval (.tmp c) = .bool b := by have := hF.at' c _ hc; simp [Act.eval, Array.getD_eq_getD_getElem?, this]
  exact wp_cond_split hev ht hf
theorem cond_yes {c : Nat} {x y : Code} (hF : Fits a n e) (hc : gt e c = some (.bool true)) (ht : x.wp P Q a w) : (Code.cond (.tmp c) x y).wp P Q a w :=
  cond_both hF hc (fun _ => ht) (fun h => by cases h)
theorem cond_no {c : Nat} {x y : Code} (hF : Fits a n e) (hc : gt e c = some (.bool false)) (hf : y.wp P Q a w) : (Code.cond (.tmp c) x y).wp P Q a w :=
  cond_both hF hc (fun h => by cases h) (fun _ => hf)
theorem least {p : Nat → Prop} (h : ∃ m, p m) : ∃ m, p m ∧ ∀ k, p k → m ≤ k := by
  obtain ⟨m, hm⟩ := h
  induction m using Nat.strongRecOn with
  | _ m ih =>
    by_cases hk : ∃ k, k < m ∧ p k
    · obtain ⟨k, hlt, hp⟩ := hk; exact ih k hlt hp
    · refine ⟨m, hm, fun k hp => ?_⟩
      rcases Nat.lt_or_ge k m with hlt | hge
      · exact absurd ⟨k, hlt, hp⟩ hk
      · exact hge
open Classical in
noncomputable def leastOf (p : Nat → Prop) : Nat := if h : ∃ m, p m then Classical.choose (least h) else 0
theorem leastOf_spec {p : Nat → Prop} (h : ∃ m, p m) : p (leastOf p) ∧ ∀ k, p k → leastOf p ≤ k := by
  unfold leastOf
  rw [dif_pos h]
  exact Classical.choose_spec (least h)
theorem loop_g {c : Code} (I : Nat → Act → World → Prop) (m0 : Nat) (h0 : I m0 a w) (round : ∀ m a w, I m a w → c.wp P (Exit.then (fun a' w' => ∃ m', m' < m ∧ I m' a' w') Q) a w) : (Code.loop c).wp P Q a w := by
  refine wp_loop (fun a w => ∃ m, I m a w) (fun a w => leastOf fun m => I m a w) ⟨m0, h0⟩ ?_
  intro a w h
  have hl := leastOf_spec (p := fun m => I m a w) h
  refine wp_mono (round _ a w hl.1) ?_
  intro ex a' w' hx
  cases ex with
  | normal =>
    obtain ⟨m', hlt, hI⟩ := hx
    refine ⟨⟨m', hI⟩, ?_⟩
    exact Nat.lt_of_le_of_lt ((leastOf_spec (p := fun m => I m a' w') ⟨m', hI⟩).2 m' hI) hlt
  | _ => exact hx
/-! ### a function's begin and end -/
def env0 : Nat → List Value → Env
  | _, [] => []
  | k, v :: vs => (k, v) :: env0 (k + 1) vs
theorem env0_gt : ∀ (vs : List Value) (k j : Nat) (v : Value), gt (env0 k vs) j = some v → k ≤ j ∧ vs[j - k]? = some v
  | [], k, j, v, h => by cases h
  | u :: vs, k, j, v, h => by
    rw [env0, gt_cons] at h
    by_cases hj : k = j
    · rw [if_pos hj] at h; cases h; subst hj; simp
    · rw [if_neg hj] at h
      obtain ⟨h1, h2⟩ := env0_gt vs (k + 1) j v h
      refine ⟨by omega, ?_⟩
      rw [show j - k = (j - (k + 1)) + 1 by omega]
      simpa using h2
theorem enter {f : FuncId} {fn : Func} {c : Code} {vs : List Value} {m : Nat} {R : Value → World → Prop} (hf : P.funcs[f]? = some fn) (hb : fn.body = some c) (hm : fn.ntmps = m) (hl : Nat.ble vs.length m = true)
    (h : ∀ a, Fits a m (env0 0 vs) → c.wp P (bodyPost P fn (Ret R)) a w) : Calls P f vs.toArray w (Ret R) := by
  refine calls_of_wp hf hb (h _ ⟨rfl, ?_, ?_⟩)
  · have h2 := hl; simp at h2
    simp [hm]; omega
  · intro k v hk
    obtain ⟨_, h2⟩ := env0_gt vs 0 k v hk
    simp only [Nat.sub_zero] at h2
    have hlt := (List.getElem?_eq_some_iff.1 h2).1
    simp only [Array.getElem?_append, List.size_toArray, hlt, if_true]
    simpa using h2
/-- the results, out of the frame -/
def resS (rs : List ResultVar) (e : Env) : Sem (List Value) :=
  match rs with
  | [] => pure []
  | .tmp t :: rs => do pure (((gt e t).getD undef) :: (← resS rs e))
  | .cell a t :: rs => (asAddr ((gt e a).getD undef) >>= loadVar t) >>= fun v => resS rs e >>= fun l => pure (v :: l)
def resC (rs : List ResultVar) (e : Env) : Bool := rs.all fun
  | .tmp t => (gt e t).isSome
  | .cell a _ => (gt e a).isSome
def resV (vs : List Value) : Value := match vs with | [v] => v | vs => .tuple vs.toArray
theorem resS_eq (hF : Fits a n e) : ∀ (rs : List ResultVar), resC rs e = true →
    (rs.mapM fun | ResultVar.tmp t => (pure (a.tmps.getD t undef) : Sem Value) | .cell b t => do loadVar t (← asAddr (a.tmps.getD b undef))) = resS rs e
  | [], _ => rfl
  | r :: rs, h => by
    unfold resC at h
    rw [List.all_cons, Bool.and_eq_true] at h
    have ih := resS_eq hF rs h.2
    rw [List.mapM_cons, ih]
    cases r with
    | tmp t =>
      have h1 : (gt e t).isSome = true := h.1
      cases hg : gt e t with
      | none => rw [hg] at h1; cases h1
      | some v =>
        have := hF.at' t v hg
        simp only [resS, hg, Option.getD_some, Array.getD_eq_getD_getElem?, this]
        rfl
    | cell b t =>
      have h1 : (gt e b).isSome = true := h.1
      cases hg : gt e b with
      | none => rw [hg] at h1; cases h1
      | some v =>
        have := hF.at' b v hg
        simp only [resS, hg, Option.getD_some, Array.getD_eq_getD_getElem?, this]
def fin (P : Program) (fn : Func) (e : Env) (vs : List Value) : Option (Value × List (Addr × Value)) :=
  if resC fn.results.toList e then match quiet P (resS fn.results.toList e) vs with
    | some (l, obs, []) => some (resV l, obs)
    | _ => none
  else none
theorem finish {fn : Func} {R : Value → World → Prop} {vs : List Value} {v : Value} {obs : List (Addr × Value)} (hF : Fits a n e) (h : fin P fn e vs = some (v, obs)) (hO : Obs w obs) (hR : R v w) : bodyPost P fn (Ret R) .ret a w := by
  refine ⟨hF.defers, v, ?_, hR⟩
  unfold fin at h
  by_cases hc : resC fn.results.toList e = true
  · rw [if_pos hc] at h
    cases hq : quiet P (resS fn.results.toList e) vs with
    | none => rw [hq] at h; cases h
    | some y =>
      obtain ⟨l, obs', r⟩ := y
      rw [hq] at h
      cases r with
      | cons _ _ => cases h
      | nil =>
        cases h
        have hrun := quiet_run _ hq hO
        rw [← resS_eq hF _ hc] at hrun
        have hm : (fn.results.mapM fun | ResultVar.tmp t => (pure (a.tmps.getD t undef) : Sem Value) | .cell b t => do loadVar t (← asAddr (a.tmps.getD b undef))) = (List.toArray <$> (fn.results.toList.mapM fun | ResultVar.tmp t => (pure (a.tmps.getD t undef) : Sem Value) | .cell b t => do loadVar t (← asAddr (a.tmps.getD b undef)))) := by
          rw [← Array.toArray_toList (xs := fn.results), List.mapM_toArray]
        show Sem.run P (do let vs ← (fn.results.mapM fun | ResultVar.tmp t => (pure (a.tmps.getD t undef) : Sem Value) | .cell b t => do loadVar t (← asAddr (a.tmps.getD b undef))); pure (if h : vs.size = 1 then vs[0] else .tuple vs)) w = _
        rw [hm, Sem.run_bind, map_eq_pure_bind, Sem.run_bind, hrun]
        match l with
        | [] => rfl
        | [v] => rfl
        | v :: u :: l => rfl
  · rw [if_neg hc] at h; cases h
theorem finishN {fn : Func} {R : Value → World → Prop} {vs : List Value} {v : Value} {obs : List (Addr × Value)} (hF : Fits a n e) (h : fin P fn e vs = some (v, obs)) (hO : Obs w obs) (hR : R v w) : bodyPost P fn (Ret R) .normal a w := finish hF h hO hR
end
end Eg
end Go.Proofs.YtkmlppeligdbaaaDoor

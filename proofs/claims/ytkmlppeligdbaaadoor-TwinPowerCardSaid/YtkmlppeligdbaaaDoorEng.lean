/- An engine for walks: frames as short lists of what is still read, regions in one batch, drawn regions in one order. Conditions: none. -/
import Derived.Test.YtkmlppeligdbaaaDoorSep
import Derived.OrdersHeld
import Derived.KernelRfl
namespace Go.Proofs.YtkmlppeligdbaaaDoor
namespace Eg
open Go.RowKit SepW
set_option linter.unusedVariables false
set_option linter.unusedSimpArgs false
set_option linter.unusedSectionVars false

/-! ### frames -/
abbrev Env := List (Nat × Value)
def gt : Env → Nat → Option Value
  | [], _ => none
  | (j, v) :: e, k => if Nat.beq j k then some v else gt e k
theorem gt_cons (j : Nat) (v : Value) (e : Env) (k : Nat) : gt ((j, v) :: e) k = if j = k then some v else gt e k := by
  show (if Nat.beq j k then some v else gt e k) = _
  by_cases h : j = k <;> simp [h]
structure Fits (a : Act) (n : Nat) (e : Env) : Prop where
  defers : a.defers = []
  size : a.tmps.size = n
  at' : ∀ k v, gt e k = some v → a.tmps[k]? = some v
def restr (e : Env) : List Nat → Option Env
  | [] => some []
  | k :: ks => match gt e k, restr e ks with
    | some v, some r => some ((k, v) :: r)
    | _, _ => none
theorem restr_gt {e : Env} : ∀ {ks : List Nat} {r : Env}, restr e ks = some r → ∀ k v, gt r k = some v → gt e k = some v
  | [], r, h, k, v, hk => by cases h; cases hk
  | j :: ks, r, h, k, v, hk => by
    unfold restr at h
    cases h1 : gt e j with
    | none => rw [h1] at h; cases h
    | some u =>
      cases h2 : restr e ks with
      | none => rw [h1, h2] at h; cases h
      | some r' =>
        rw [h1, h2] at h; cases h
        rw [gt_cons] at hk
        by_cases hj : j = k
        · rw [if_pos hj] at hk; subst hj; rw [h1]; exact hk
        · rw [if_neg hj] at hk; exact restr_gt h2 k v hk
theorem Fits.restr {a : Act} {n : Nat} {e r : Env} (h : Fits a n e) {ks : List Nat} (hr : Eg.restr e ks = some r) : Fits a n r :=
  ⟨h.defers, h.size, fun k v hk => h.at' k v (restr_gt hr k v hk)⟩
theorem Fits.cast {a : Act} {n : Nat} {e r : Env} (h : Fits a n e) (he : e = r) : Fits a n r := he ▸ h
theorem Fits.put {a : Act} {n : Nat} {e : Env} (h : Fits a n e) {d : Nat} (hd : d < n) (v : Value) : Fits (a.put (some d) v) n ((d, v) :: e) := by
  refine ⟨h.defers, by simp [Act.put, h.size], fun k u hk => ?_⟩
  rw [gt_cons] at hk
  have hs := h.size
  by_cases hj : d = k
  · rw [if_pos hj] at hk; cases hk; subst hj
    simp [Act.put, Array.getElem?_setIfInBounds_self, hs, hd]
  · rw [if_neg hj] at hk
    simp [Act.put, Array.getElem?_setIfInBounds_ne hj, h.at' k u hk]
/-- the destination's write -/
def pt (e : Env) (n : Nat) (d : Option Tmp) (v : Value) : Option Env :=
  match d with
  | none => some e
  | some d => if Nat.blt d n then some ((d, v) :: e) else none
theorem Fits.pt {a : Act} {n : Nat} {e e' : Env} (h : Fits a n e) {d : Option Tmp} {v : Value} (hp : Eg.pt e n d v = some e') : Fits (a.put d v) n e' := by
  cases d with
  | none => cases hp; exact h
  | some d =>
    unfold Eg.pt at hp
    by_cases hd : Nat.blt d n = true
    · simp only [hd, if_true, Option.some.injEq] at hp; subst hp; exact h.put (by have h2 := hd; simp [Nat.blt] at h2; omega) v
    · simp only [hd, if_false] at hp; cases hp

def rho (e : Env) : Operand → Value
  | .tmp t => (gt e t).getD undef
  | .const v => v
  | .global g => .pointer (some ⟨g, 0, none⟩)
  | .func f => .func (.func f) #[] #[]
def cov1 (e : Env) : Operand → Bool
  | .tmp t => (gt e t).isSome
  | _ => true
def noSel : Op → Bool
  | .select _ _ => false
  | _ => true
def cov (e : Env) (o : Op) : Bool := noSel o && o.operands.toList.all (cov1 e)
theorem eval_rho {a : Act} {n : Nat} {e : Env} (h : Fits a n e) {x : Operand} (hc : cov1 e x = true) : a.eval x = rho e x := by
  cases x with
  | tmp t =>
    have hc : (gt e t).isSome = true := hc
    cases hg : gt e t with
    | none => rw [hg] at hc; cases hc
    | some v =>
      have := h.at' t v hg
      simp [Act.eval, rho, hg, Array.getD_eq_getD_getElem?, this]
  | _ => rfl
theorem exec_rho {a : Act} {n : Nat} {e : Env} (h : Fits a n e) {o : Oper} (hc : cov e o.op = true) : execOp a.eval o = execOp (rho e) o := by
  unfold cov at hc
  rw [Bool.and_eq_true] at hc
  refine execOp_congr o ?_ ?_
  · intro cs b ho; rw [ho] at hc; cases hc.1
  · intro x hx
    refine eval_rho h ?_
    exact List.all_eq_true.1 hc.2 x (Array.mem_toList_iff.2 hx)
/-- whether an operation is wanted -/
def grd (ops : Array Oper) (e : Env) (o : Oper) : Option Bool :=
  match o.guard with
  | none => some true
  | some (j, want) =>
    match (ops[j]?).bind (·.dst) with
    | none => none
    | some t => match gt e t with
      | some (.bool b) => some (b == want)
      | _ => none
theorem wanted_grd {a : Act} {n : Nat} {e : Env} (h : Fits a n e) {ops : Array Oper} {o : Oper} {b : Bool} (hg : grd ops e o = some b) :
    Region.wanted o (yielded ops a.tmps) = b := by
  unfold grd at hg
  unfold Region.wanted
  cases hgd : o.guard with
  | none => rw [hgd] at hg; cases hg; rfl
  | some jw =>
    obtain ⟨j, want⟩ := jw
    rw [hgd] at hg
    simp only at hg
    cases hd : (ops[j]?).bind (·.dst) with
    | none => rw [hd] at hg; cases hg
    | some t =>
      rw [hd] at hg
      simp only at hg
      cases ht : gt e t with
      | none => rw [ht] at hg; cases hg
      | some v =>
        rw [ht] at hg
        cases v with
        | bool c =>
          simp only [Option.some.injEq] at hg
          have hy : yielded ops a.tmps j = some c := by
            unfold yielded; rw [hd]; simp [h.at' t _ ht]
          simp only [hy]
          subst hg
          cases c <;> cases want <;> rfl
        | _ => cases hg

/-! ### what only reads -/
def quiet {α : Type} (P : Program) : Sem α → List Value → Option (α × List (Addr × Value) × List Value)
  | .pure a, vs => some (a, [], vs)
  | .load _ a k, v :: vs => match quiet P (k v) vs with
    | some (x, obs, r) => some (x, (a, v) :: obs, r)
    | none => none
  | .program k, vs => quiet P (k P) vs
  | .mark _ k, vs => quiet P k vs
  | _, _ => none
inductive Obs (w : World) : List (Addr × Value) → Prop
  | nil : Obs w []
  | cons {a : Addr} {v : Value} {l : List (Addr × Value)} : w.cell? a = some v → Obs w l → Obs w ((a, v) :: l)
theorem Obs.append {w : World} : ∀ {l m : List (Addr × Value)}, Obs w (l ++ m) ↔ Obs w l ∧ Obs w m
  | [], m => ⟨fun h => ⟨.nil, h⟩, fun h => h.2⟩
  | (a, v) :: l, m => by
    constructor
    · intro h; cases h with
      | cons h1 h2 => exact ⟨.cons h1 (Obs.append.1 h2).1, (Obs.append.1 h2).2⟩
    · rintro ⟨h, hm⟩; cases h with
      | cons h1 h2 => exact .cons h1 (Obs.append.2 ⟨h2, hm⟩)
theorem Obs.mem {w : World} : ∀ {l : List (Addr × Value)}, Obs w l ↔ ∀ x ∈ l, w.cell? x.1 = some x.2
  | [] => ⟨fun _ => by simp, fun _ => .nil⟩
  | (a, v) :: l => by
    constructor
    · intro h; cases h with
      | cons h1 h2 =>
        intro x hx
        rcases List.mem_cons.1 hx with rfl | hx
        · exact h1
        · exact Obs.mem.1 h2 x hx
    · intro h
      exact .cons (h (a, v) (by simp)) (Obs.mem.2 fun x hx => h x (by simp [hx]))
theorem quiet_run {α : Type} {P : Program} {w : World} (s : Sem α) : ∀ {vs : List Value} {x : α} {obs : List (Addr × Value)} {r : List Value}, quiet P s vs = some (x, obs, r) → Obs w obs → s.run P w = .ok x w := by
  induction s with
  | pure a => intro vs x obs r h _; unfold quiet at h; cases h; rfl
  | load m a k ih =>
    intro vs x obs r h ho
    cases vs with
    | nil => unfold quiet at h; cases h
    | cons v vs =>
      unfold quiet at h
      cases hq : quiet P (k v) vs with
      | none => rw [hq] at h; cases h
      | some y =>
        obtain ⟨y, obs', r'⟩ := y
        rw [hq] at h
        cases h
        cases ho with
        | cons h1 h2 =>
          simp only [Sem.run, h1]
          exact ih v hq h2
  | program k ih => intro vs x obs r h ho; unfold quiet at h; simp only [Sem.run]; exact ih P h ho
  | mark m k ih => intro vs x obs r h ho; unfold quiet at h; simp only [Sem.run]; exact ih h ho
  | _ => intro vs x obs r h _; unfold quiet at h; cases h

/-- one operation that only reads -/
def stepQ (P : Program) (n : Nat) (ops : Array Oper) (e : Env) (i : Nat) (vs : List Value) : Option (Env × List (Addr × Value) × List Value) :=
  match ops[i]? with
  | none => none
  | some o => match grd ops e o with
    | none => none
    | some false => match pt e n o.dst undef with
      | some e' => some (e', [], vs)
      | none => none
    | some true => if cov e o.op then match quiet P (execOp (rho e) o) vs with
        | some (.value v, obs, r) => match pt e n o.dst v with
          | some e' => some (e', obs, r)
          | none => none
        | _ => none
      else none
/-- it yields, and leaves the world as it is, where its loads are as told -/
def YieldsO (P : Program) (ops : Array Oper) (obs : List (Addr × Value)) (o : Oper) (v : Value) (a : Act) : Prop := YieldsIf P ops (fun w => Obs w obs) o v a
theorem stepQ_spec {P : Program} {n : Nat} {ops : Array Oper} {e e' : Env} {i : Nat} {vs r : List Value} {obs : List (Addr × Value)} {a : Act} (h : stepQ P n ops e i vs = some (e', obs, r)) (hF : Fits a n e) :
    ∃ o v, ops[i]? = some o ∧ YieldsO P ops obs o v a ∧ Fits (a.put o.dst v) n e' := by
  unfold stepQ at h
  cases ho : ops[i]? with
  | none => rw [ho] at h; cases h
  | some o =>
    rw [ho] at h
    simp only at h
    cases hg : grd ops e o with
    | none => rw [hg] at h; cases h
    | some b =>
      rw [hg] at h
      have hw := wanted_grd hF hg
      cases b with
      | false =>
        simp only at h
        cases hp : pt e n o.dst undef with
        | none => rw [hp] at h; cases h
        | some e2 =>
          rw [hp] at h; cases h
          exact ⟨o, undef, rfl, .inr ⟨hw, rfl⟩, hF.pt hp⟩
      | true =>
        simp only at h
        by_cases hc : cov e o.op = true
        · rw [if_pos hc] at h
          cases hq : quiet P (execOp (rho e) o) vs with
          | none => rw [hq] at h; cases h
          | some y =>
            obtain ⟨nx, obs', r'⟩ := y
            rw [hq] at h
            cases nx with
            | value v =>
              simp only at h
              cases hp : pt e n o.dst v with
              | none => rw [hp] at h; cases h
              | some e2 =>
                rw [hp] at h; cases h
                refine ⟨o, v, rfl, .inl ⟨hw, fun w hO => ?_⟩, hF.pt hp⟩
                rw [exec_rho hF hc]
                exact quiet_run _ hq hO
            | _ => cases h
        · rw [if_neg hc] at h; cases h

/-! ### regions in the text's order -/
section
variable {P : Program} {ops : Array Oper} {Q : Exit → Act → World → Prop} {n : Nat} {a : Act} {w : World} {e e' : Env}

def runB (P : Program) (n : Nat) (ops : Array Oper) : List Nat → Env → List Value → Option (Env × List (Addr × Value))
  | [], e, [] => some (e, [])
  | [], _, _ :: _ => none
  | i :: is, e, vs => match stepQ P n ops e i vs with
    | none => none
    | some (e', obs, r) => match runB P n ops is e' r with
      | none => none
      | some (e'', obs') => some (e'', obs ++ obs')
theorem yields_op {i : Nat} {o : Oper} {v : Value} {obs : List (Addr × Value)} {K : Act → World → Prop} (hi : ops[i]? = some o) (hy : YieldsO P ops obs o v a) (hO : Obs w obs) (h : K (a.put o.dst v) w) : wpOp P ops Q i K a w :=
  YieldsIf.wpOp hi hy hO h
theorem runB_spec : ∀ {is rest : List Nat} {e : Env} {vs : List Value} {obs : List (Addr × Value)} {a : Act}, runB P n ops is e vs = some (e', obs) → Obs w obs → Fits a n e →
    (∀ a', Fits a' n e' → wpOps P ops Q rest a' w) → wpOps P ops Q (is ++ rest) a w
  | [], rest, e, vs, obs, a, h, hO, hF, k => by
    cases vs with
    | nil => cases h; exact k a hF
    | cons v vs => cases h
  | i :: is, rest, e, vs, obs, a, h, hO, hF, k => by
    unfold runB at h
    cases hs : stepQ P n ops e i vs with
    | none => rw [hs] at h; cases h
    | some y =>
      obtain ⟨e1, obs1, r⟩ := y
      rw [hs] at h
      simp only at h
      cases hr : runB P n ops is e1 r with
      | none => rw [hr] at h; cases h
      | some z =>
        obtain ⟨e2, obs2⟩ := z
        rw [hr] at h
        cases h
        obtain ⟨o, v, ho, hy, hF1⟩ := stepQ_spec hs hF
        obtain ⟨hO1, hO2⟩ := Obs.append.1 hO
        rw [List.cons_append, wpOps_cons]
        exact yields_op ho hy hO1 (runB_spec hr hO2 hF1 k)
/-- a batch, and what is still read behind it -/
def batch (P : Program) (n : Nat) (ops : Array Oper) (is : List Nat) (e : Env) (vs : List Value) (live : List Nat) : Option (Env × List (Addr × Value)) :=
  match runB P n ops is e vs with
  | some (e', obs) => match restr e' live with
    | some r => some (r, obs)
    | none => none
  | none => none
theorem batch_spec {is rest : List Nat} {vs : List Value} {live : List Nat} {obs : List (Addr × Value)} (hF : Fits a n e) (h : batch P n ops is e vs live = some (e', obs)) (hO : Obs w obs)
    (k : ∀ a', Fits a' n e' → wpOps P ops Q rest a' w) : wpOps P ops Q (is ++ rest) a w := by
  unfold batch at h
  cases hr : runB P n ops is e vs with
  | none => rw [hr] at h; cases h
  | some y =>
    obtain ⟨e1, obs1⟩ := y
    rw [hr] at h
    simp only at h
    cases hq : restr e1 live with
    | none => rw [hq] at h; cases h
    | some r =>
      rw [hq] at h
      cases h
      exact runB_spec hr hO hF fun a' hF' => k a' (hF'.restr hq)
end

/-! ### operations with their operands -/
inductive V
  | val (v : Value)
  | load (t : TypeId) (a : Value)
  | store (t : TypeId) (a x : Value)
  | alloc (t : TypeId)
  | box (t : TypeId) (x : Value)
  | call (f : Value) (args : Array Value)
  | builtin (b : Builtin) (ats : Array TypeId) (ty : TypeId) (cs : Array Bool) (args : Array Value)
  | buildSlice (t : TypeId) (len : Nat) (parts : Array (Nat × Value))
  | makeMap (t : TypeId) (r : Option Value)
  | makeSlice (t : TypeId) (l c : Value)
  | lookup (t : TypeId) (m k : Value) (ok : Bool)
  | mapUpdate (t : TypeId) (m k x : Value)
  | convert (s d : TypeId) (x : Value)
  | binOp (op : BinOp) (t : TypeId) (x y : Value)
  | slice (t : TypeId) (x : Value) (l h m : Option Value)
  | indexAddr (t : TypeId) (x i : Value)
  | index (t : TypeId) (x i : Value)
  | range (t : TypeId) (x : Value)
  | next (it : Value) (isString : Bool) (ty : TypeId)
  | entry (it : Value)
  | cmp (op : BinOp) (t : TypeId) (xs ys : Array Value)
def V.sem : V → Sem Next
  | .val v => pure (.value v)
  | .load t a => do pure (.value (← Instr.loadAt t a))
  | .store t a x => do Instr.storeAt t a x; pure .skip
  | .alloc t => do pure (.value (← Instr.alloc t true (.tuple #[])))
  | .box t x => do pure (.value (← Instr.box t x))
  | .call f args => do let d ← Deferred.ofValue f args; invoke d.target d.args
  | .builtin b ats ty cs args => Go.builtin b ats ty cs args
  | .buildSlice t len parts => do pure (.value (← Instr.buildSlice t len parts))
  | .makeMap t r => do pure (.value (← Instr.makeMap t r))
  | .makeSlice t l c => do pure (.value (← Instr.makeSlice t l c))
  | .lookup t m k ok => do pure (.value (← Instr.lookup t m k ok))
  | .mapUpdate t m k x => do Instr.mapUpdate t m k x; pure .skip
  | .convert s d x => do pure (.value (← Go.convert s d x))
  | .binOp op t x y => do pure (.value (← Go.binOp op t x y))
  | .slice t x l h m => do pure (.value (← Instr.sliceAt t x l h m))
  | .indexAddr t x i => do pure (.value (← Instr.indexAt t x i))
  | .index t x i => do pure (.value (← Instr.index t x i))
  | .range t x => do pure (.value (← Instr.range t x))
  | .next it s ty => do pure (.value (← Instr.next it s ty))
  | .entry it => do pure (.value (← Instr.entry it))
  | .cmp op t xs ys => do eqGuard op t (.tmp 0) (.tmp 0) (.agg xs) (.agg ys); pure (.value (← Go.binOp op t (.agg xs) (.agg ys)))
def eqFree : BinOp → Bool
  | .eql | .neq => false
  | _ => true
def isConstB : Operand → Bool
  | .const _ => true
  | _ => false
def viewOp (ρ : Operand → Value) (o : Oper) : Option V :=
  match o.op with
  | .load t a => some (.load t (ρ a))
  | .store t a x => some (.store t (ρ a) (ρ x))
  | .alloc t => some (.alloc t)
  | .box t x => some (.box t (ρ x))
  | .call c => match c.callee with
    | .value f => some (.call (ρ f) (c.args.map ρ))
    | .builtin b => some (.builtin b c.argTypes o.type (c.args.map fun | .const _ => true | _ => false) (c.args.map ρ))
    | .invoke _ _ => none
  | .buildSlice t len parts => some (.buildSlice t len (parts.map fun (i, x) => (i, ρ x)))
  | .makeMap t r => some (.makeMap t (r.map ρ))
  | .makeSlice t l c => some (.makeSlice t (ρ l) (ρ c))
  | .lookup t m k ok => some (.lookup t (ρ m) (ρ k) ok)
  | .mapUpdate t m k x | .insert t m k x => some (.mapUpdate t (ρ m) (ρ k) (ρ x))
  | .convert s d x => some (.convert s d (ρ x))
  | .binOp op t x y _ => if eqFree op then some (.binOp op t (ρ x) (ρ y)) else match ρ x, ρ y with | .agg xs, .agg ys => some (.cmp op t xs ys) | _, _ => none
  | .slice t x l h m => some (.slice t (ρ x) (l.map ρ) (h.map ρ) (m.map ρ))
  | .indexAddr t x i => some (.indexAddr t (ρ x) (ρ i))
  | .index t x i => some (.index t (ρ x) (ρ i))
  | .range t x => some (.range t (ρ x))
  | .next it s => some (.next (ρ it) s o.type)
  | .entry it => some (.entry (ρ it))
  | _ => none
theorem bind_pure' {α β : Type} (a : α) (f : α → Sem β) : ((Pure.pure a : Sem α) >>= f) = f a := rfl
theorem viewOp_sem {ρ : Operand → Value} {o : Oper} {v : V} (h : viewOp ρ o = some v) (P : Program) (w : World) : (execOp ρ o).run P w = v.sem.run P w := by
  obtain ⟨dst, op, type, pos, after, guard⟩ := o
  cases op
  case binOp op t x y yt =>
    simp only [viewOp] at h
    split at h
    · rename_i hf
      cases h
      have hg : eqGuard op t x y (ρ x) (ρ y) = pure () := by
        cases op <;> first | rfl | cases hf
      simp only [execOp, hg]
      rfl
    · split at h
      · rename_i xs ys hx hy
        cases h
        simp only [execOp, hx, hy]
        have hg : eqGuard op t x y (.agg xs) (.agg ys) = eqGuard op t (.tmp 0) (.tmp 0) (.agg xs) (.agg ys) := by
          unfold eqGuard; rfl
        rw [hg]
        simp only [V.sem, Sem.run_bind]
        cases (eqGuard op t (.tmp 0) (.tmp 0) (.agg xs) (.agg ys)).run P w <;> rfl
      · cases h
  case call c =>
    simp only [viewOp] at h
    obtain ⟨callee, args, ats⟩ := c
    cases callee with
    | value f => cases h; simp only [execOp, resolve]; rfl
    | builtin b => cases h; simp only [execOp, resolve]; rfl
    | invoke r m => cases h
  all_goals (simp only [viewOp] at h; cases h)
  all_goals rfl
/-- an operation of a region, with its operands' values -/
def view (n : Nat) (ops : Array Oper) (e : Env) (i : Nat) (u : Value) : Option (V × Env) :=
  match ops[i]? with
  | none => none
  | some o => match grd ops e o with
    | some true => if cov e o.op then match viewOp (rho e) o, pt e n o.dst u with
        | some v, some e' => some (v, e')
        | _, _ => none
      else none
    | _ => none
theorem view_spec {n : Nat} {ops : Array Oper} {e e' : Env} {i : Nat} {u : Value} {v : V} {a : Act} (h : view n ops e i u = some (v, e')) (hF : Fits a n e) :
    ∃ o, ops[i]? = some o ∧ Region.wanted o (yielded ops a.tmps) = true ∧ (∀ P w, (execOp a.eval o).run P w = v.sem.run P w) ∧ Fits (a.put o.dst u) n e' := by
  unfold view at h
  cases ho : ops[i]? with
  | none => rw [ho] at h; cases h
  | some o =>
    rw [ho] at h
    simp only at h
    cases hg : grd ops e o with
    | none => rw [hg] at h; cases h
    | some b =>
      rw [hg] at h
      cases b with
      | false => cases h
      | true =>
        simp only at h
        by_cases hc : cov e o.op = true
        · rw [if_pos hc] at h
          cases hv : viewOp (rho e) o with
          | none => rw [hv] at h; cases h
          | some v' =>
            cases hp : pt e n o.dst u with
            | none => rw [hv, hp] at h; cases h
            | some e2 =>
              rw [hv, hp] at h
              cases h
              exact ⟨o, rfl, wanted_grd hF hg, fun P w => by rw [exec_rho hF hc]; exact viewOp_sem hv P w, hF.pt hp⟩
        · rw [if_neg hc] at h; cases h
section
variable {P : Program} {ops : Array Oper} {Q : Exit → Act → World → Prop} {n : Nat} {a : Act} {w w' : World} {e e' : Env} {K : Act → World → Prop}
/-- what an operation comes to -/
inductive Comes1 (P : Program) (s : Sem Next) (w : World) (u : Value) (w' : World) : Prop
  | value : s.run P w = .ok (.value u) w' → Comes1 P s w u w'
  | skip : s.run P w = .ok .skip w' → u = undef → Comes1 P s w u w'
theorem op_value {i : Nat} {u : Value} {v : V} (hF : Fits a n e) (hv : view n ops e i u = some (v, e')) (hr : Comes1 P v.sem w u w') (k : ∀ a', Fits a' n e' → K a' w') : wpOp P ops Q i K a w := by
  obtain ⟨o, ho, hw, hs, hF'⟩ := view_spec hv hF
  unfold wpOp
  simp only [ho, hw, if_true]
  refine .inl ?_
  unfold Oper.wp
  rw [hs]
  cases hr with
  | value h => rw [h, Oper.upon_value]; exact k _ hF'
  | skip h hu => rw [h, Oper.upon_skip]; subst hu; exact k _ hF'
/-- it returns a value of which something holds -/
def Ret (R : Value → World → Prop) : Ending → World → Prop
  | .returned v, w => R v w
  | _, _ => False
theorem Ret.of_eq {f : FuncId} {args : Array Value} {X : Value} {φ : World → Prop} (h : Calls P f args w fun e w' => e = .returned X ∧ φ w') : Calls P f args w (Ret fun v w' => v = X ∧ φ w') :=
  h.mono fun e w' ⟨he, hw⟩ => by subst he; exact ⟨rfl, hw⟩
theorem Ret.of_ex {f : FuncId} {args : Array Value} {R : Value → World → Prop} (h : Calls P f args w fun e w' => ∃ v, e = .returned v ∧ R v w') : Calls P f args w (Ret R) :=
  h.mono fun e w' ⟨v, he, hw⟩ => by subst he; exact hw
theorem Ret.weak {f : FuncId} {args : Array Value} {R R' : Value → World → Prop} (h : Calls P f args w (Ret R)) (hi : ∀ v w', R v w' → R' v w') : Calls P f args w (Ret R') :=
  h.mono fun e w' he => by cases e <;> first | exact hi _ _ he | exact he
/-- a call of a Go function -/
theorem op_call {i : Nat} {fn : FuncId} {first cap args all : Array Value} {R : Value → World → Prop} {pe : Value → Env} (hF : Fits a n e) (hv : ∀ u, view n ops e i u = some (.call (.func (.func fn) first cap) args, pe u))
    (hfn : ((P.funcs[fn]?).map fun f => !(f.name == "runtime.NumGoroutine") && f.body.isSome) = some true) (hall : (first ++ args) ++ cap = all)
    (hC : Calls P fn all w (Ret R)) (k : ∀ u w' a', R u w' → Fits a' n (pe u) → K a' w') : wpOp P ops Q i K a w := by
  obtain ⟨o, ho, hw, hs, _⟩ := view_spec (hv undef) hF
  unfold wpOp
  simp only [ho, hw, if_true]
  refine .inl ?_
  unfold Oper.wp
  rw [hs]
  have hrun : (V.call (.func (.func fn) first cap) args).sem.run P w = .ok (.enter fn all) w := by
    cases hff : P.funcs[fn]? with
    | none => rw [hff] at hfn; cases hfn
    | some F =>
      rw [hff] at hfn
      simp only [Option.map_some, Option.some.injEq, Bool.and_eq_true, Bool.not_eq_true'] at hfn
      have hb : F.body.isNone = false := by cases hbb : F.body <;> simp [hbb] at hfn ⊢
      subst hall
      show Sem.run P (callFunc fn ((first ++ args) ++ cap)) w = _
      show Sem.run P (match P.funcs[fn]? with
        | none => stuck "call: no such function"
        | some fn_1 => _) w = _
      rw [hff]
      simp only [hfn.1, hb]
      rfl
  rw [hrun, Oper.upon_enter]
  refine hC.mono ?_
  intro e2 w2 hR
  cases e2 with
  | returned u =>
    obtain ⟨o', ho', _, _, hF'⟩ := view_spec (hv u) hF
    rw [ho] at ho'; cases ho'
    exact k u w2 _ hR hF'
  | panicked ch => exact hR.elim
  | outgrown => exact hR.elim
end
end Eg
end Go.Proofs.YtkmlppeligdbaaaDoor

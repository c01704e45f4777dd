/- The law of the twin stores answers true for every input, and each argument reads behind the call as it read before. Conditions: none beyond the row's own cells. -/
import Derived.Test.YtkmlppeligdbaaaDoorRowA
import Derived.Test.YtkmlppeligdbaaaDoorLawI
import Derived.Test.YtkmlppeligdbaaaDoorCards
import Derived.Test.YtkmlppeligdbaaaDoorTie
import Derived.ProofKit
import Derived.LaidMore
import Derived.Deep.DeepHandedRow
namespace Go.Proofs.YtkmlppeligdbaaaDoor
open Go.ChangeShapes Go.WideShapes Go.ChangeAt Go.RowKit SepW Sl
set_option maxRecDepth 100000
theorem own : ownKnob Tryd.prog.godebug = none := by kernel_rfl
theorem kidsT : Kids Tryd.prog (· < Tryd.prog.types.size) := kids_rows (by kernel_rfl) (by kernel_rfl)
theorem fullT : ∀ t e, t < Tryd.prog.types.size → Tryd.prog.underlying t = some (.slice e) → 0 < Tryd.prog.cellsOf e := slices_full_of Tryd.prog (by kernel_rfl)
theorem c3 : Tryd.prog.cellsOf 3 = 1 := by kernel_rfl
theorem c23 : Tryd.prog.cellsOf 23 = 1 := by kernel_rfl
theorem c5 : Tryd.prog.cellsOf 5 = 1 := by kernel_rfl
theorem c38 : Tryd.prog.cellsOf 38 = 2 := by kernel_rfl
theorem b3 : 0 < Tryd.prog.bytesOf 3 := by rw [show Tryd.prog.bytesOf 3 = 8 by kernel_rfl]; decide
theorem b38 : 0 < Tryd.prog.bytesOf 38 := by rw [show Tryd.prog.bytesOf 38 = 32 by kernel_rfl]; decide
section
variable {H : Type} {enc : TypeId × Value → H} {w : World} {base0 : Nat} {sp : Nat → Bool} {held : Bool} {g : Gh}
theorem list_one {l : List Value} (h : l.length = 1) : ∃ v, l = [v] := by
  match l, h with
  | [v], _ => exact ⟨v, rfl⟩
theorem group_of (hg : ∀ b o, w.heap[b]? = some o → g.K b = some o) {n : Nat} {cs : List Value} {y : DataW H × List MemPlace} (h : DataW.trod enc Tryd.prog w base0 sp held n 38 cs = some y) :
    ∃ x : GroupM, groupT.rd g x cs ∧ ((∀ m ∈ y.1.weights Tryd.prog 38, m ≤ reachBytes) → x.1.length ≤ reachBytes) := by
  obtain ⟨xs, m, rfl, rfl, hl, hn, hf⟩ := DataW.trod_struct Tryd.underlying38 h
  rw [c38] at hl
  match cs, hl with
  | [u0, u1], _ =>
    match xs, hn with
    | [y0, y1], _ =>
      have f0 : DataW.trod enc Tryd.prog w base0 sp held m 23 (([u0, u1].drop 0).take (Tryd.prog.cellsOf 23)) = some y0 := hf 0 _ rfl
      have f1 : DataW.trod enc Tryd.prog w base0 sp held m 5 (([u0, u1].drop 1).take (Tryd.prog.cellsOf 5)) = some y1 := hf 1 _ rfl
      rw [c23] at f0
      rw [c5] at f1
      have g0 : DataW.trod enc Tryd.prog w base0 sp held m 23 [u0] = some y0 := f0
      have g1 : DataW.trod enc Tryd.prog w base0 sp held m 5 [u1] = some y1 := f1
      obtain ⟨l, h1, h2⟩ := ints_of Tryd.underlying23 Tryd.underlying3 c3 b3 hg g0
      obtain ⟨k, e1, _, _⟩ := DataW.trod_int Tryd.underlying5 g1
      cases e1
      refine ⟨(l, k), ⟨u0, rfl, h1⟩, fun hw => h2 fun m hm => hw m ?_⟩
      rw [DataW.weights, Tryd.underlying38]
      exact List.mem_append_left _ hm
theorem pair_of {n : Nat} {cs : List Value} {y : DataW H × List MemPlace} (h : DataW.trod enc Tryd.prog w base0 sp held n 24 cs = some y) :
    ∃ (v0 v1 : Value) (y0 y1 : DataW H × List MemPlace) (m : Nat), cs = [v0, v1] ∧ y.1 = .agg [y0.1, y1.1] ∧ DataW.trod enc Tryd.prog w base0 sp held m 23 [v0] = some y0 ∧ DataW.trod enc Tryd.prog w base0 sp held m 23 [v1] = some y1 := by
  obtain ⟨xs, m, rfl, rfl, hl, hn, hf⟩ := DataW.trod_array Tryd.underlying24 h
  rw [show Tryd.prog.cellsOf 24 = 2 by kernel_rfl] at hl
  match cs, hl with
  | [u0, u1], _ =>
    have f0 := hf 0 (by decide)
    have f1 := hf 1 (by decide)
    simp only [c23] at f0 f1
    match xs, hn with
    | [y0, y1], _ => exact ⟨u0, u1, y0, y1, m, rfl, rfl, f0, f1⟩
end
theorem contract (H : Type) (enc : TypeId × Value → H) (W : World) (base0 : Nat) (args : Array Value) (ds gs : List (DataW H)) (before : List MemPlace)
    (hval : ∀ (j : Nat) t v, Tryd.f3.params[j]? = some t → args[j]? = some v → Value.okWide Tryd.prog W .any base0 t v)
    (hW : DataW.Whole enc Tryd.prog Tryd.f3.params.toList Rows.twinPowerSpec.vars false W args.toList ds gs before)
    (hsz : (DataW.weightsEach Tryd.prog (Tryd.f3.params.toList ++ (OpenSpec.ofChange Rows.twinPowerSpec).bare.plain.varTypes Tryd.prog) (ds ++ gs)).all (· ≤ reachBytes) = true) :
    Calls Tryd.prog 3 args W fun e W' => ∃ v, e = .returned v ∧ Rows.twinPowerSpec.post enc Tryd.prog Tryd.f3 false true false false W args v W' := by
  have hW' := hW
  obtain ⟨p, q, hA0, hV, rfl, hfz, hnd⟩ := hW
  have hA : DataW.TrodAll enc Tryd.prog W 0 (fun _ => true) true Tryd.f3.params.toList args.toList ds p := hA0
  have hA1 := hA
  rw [Tryd.params3] at hA hval hsz
  obtain ⟨v0, v1, d0, d1, p0', p1', rfl, rfl, rfl, ⟨n0, h0⟩, ⟨n1, h1⟩⟩ := trodAll_two hA
  obtain ⟨rfl, rfl⟩ := trodVars_none hV
  obtain ⟨A, ln, cp, rfl⟩ := okWide_slice Tryd.underlying22 (hval 0 22 v0 rfl rfl)
  have hv1 := hval 1 24 v1 rfl rfl
  simp only [Value.okWide, Tryd.underlying24] at hv1
  obtain ⟨cs, rfl, hcs, _⟩ := hv1
  obtain ⟨u0, u1, y0, y1, m, ec, ey, t0, t1⟩ := pair_of h1
  simp only at ey
  subst ey
  have hw0 : ∀ m ∈ d0.weights Tryd.prog 22, m ≤ reachBytes := fun m hm => by
    simpa using List.all_eq_true.1 hsz m (List.mem_append_left _ hm)
  have hw1 : ∀ m ∈ (DataW.agg [y0.1, y1.1]).weights Tryd.prog 24, m ≤ reachBytes := fun m hm => by
    simpa using List.all_eq_true.1 hsz m (List.mem_append_right _ (List.mem_append_left _ hm))
  replace hw1 : ∀ m ∈ DataW.weightsAll Tryd.prog 23 [y0.1, y1.1], m ≤ reachBytes := fun m hm => hw1 m (by rw [DataW.weights, Tryd.underlying24]; exact hm)
  have hK : ∀ b o, W.heap[b]? = some o → (gh0 W).K b = some o := fun b o h => h
  obtain ⟨gs, sG, qG⟩ := sl_of (T := groupT) (g := gh0 W) (Q := fun x => x.1.length ≤ reachBytes) Tryd.underlying22 c38 b38 hK (fun n cs y hy => group_of hK hy) h0
  obtain ⟨l0, s0, q0⟩ := ints_of (g := gh0 W) Tryd.underlying23 Tryd.underlying3 c3 b3 hK t0
  obtain ⟨l1, s1, q1⟩ := ints_of (g := gh0 W) Tryd.underlying23 Tryd.underlying3 c3 b3 hK t1
  have qG := qG hw0
  have q0 := q0 (fun m hm => hw1 m (weightsAll_mem (by simp) hm))
  have q1 := q1 (fun m hm => hw1 m (weightsAll_mem (d := y1.1) (by simp) hm))
  obtain ⟨AG, cg, eG, _⟩ := id sG
  obtain ⟨A0, c0, e0, _⟩ := id s0
  obtain ⟨A1, c1, e1, _⟩ := id s1
  cases eG
  subst e0
  subst e1
  obtain rfl : cs = #[.slice A0 l0.length c0, .slice A1 l1.length c1] := by
    apply Array.toList_inj.1
    exact ec
  have hr : reachBytes ≤ 140737488355328 := by decide
  refine (twinPower_c (L := [base W]) (by omega) (by omega) (by omega) (fun k x hx => Nat.le_trans (qG.2 x (List.mem_of_getElem? hx)) hr) (Sat.begin3 sG s0 s1)).mono fun e W' he => ?_
  cases e with
  | returned v =>
    obtain ⟨rfl, hS⟩ := he
    have hB : Below W.heap.size W W' := hS.below (base_size hS)
    refine ⟨_, rfl, [d0, .agg [y0.1, y1.1]], [], p0' ++ p1' ++ [], [], p0' ++ p1', [], hW', trodAll_cons_mk (shut_bool Tryd.underlying4 true) trodAll_mk0, ?_, rfl, hB.frame _, fun h => by cases h⟩
    exact DataW.TrodAll.respare kidsT fullT (by rw [Tryd.params3]; decide) (carry_all hA1 (fun p hp => hB.same (hW'.lt p (by simpa using hp)))) (fun p hp => by simpa using hW'.lt p (by simpa using hp))
  | _ => exact he.elim
/-- the cells that a table's datum speaks of -/
def cellOf : DataW Unit → Value
  | .lit (.int k n) => .int k n
  | _ => .bool false
def cellsOne : DataW Unit → List Value
  | .agg l => l.map cellOf
  | d => [cellOf d]
def cellsTwo : DataW Unit → List Value
  | .agg l => l.flatMap cellsOne
  | d => [cellOf d]
def layCells (d : DataW Unit) : Obj → Obj
  | .cells _ t fr => .cells (cellsTwo d).toArray t fr
  | o => o
/-- A world for the witness: the settled one, the two tables holding what the row lists. -/
noncomputable def laidWorld (os : Os) : World :=
  { World.holding Tryd.prog os ⟨#[], #[], []⟩ with heap := ((World.holding Tryd.prog os ⟨#[], #[], []⟩).heap.modify ((Tryd.prog.globalNamed "unicode/utf8.acceptRanges").getD 0) (layCells Rows.laid_unicode_utf8_acceptRanges)).modify ((Tryd.prog.globalNamed "unicode/utf8.first").getD 0) (layCells Rows.laid_unicode_utf8_first) }
abbrev noArgs : Array Value := #[.slice none 0 0, .agg #[.slice none 0 0, .slice none 0 0]]
theorem laid_met (os : Os) : laidMet Tryd.prog Rows.twinPowerRow.laid ((laidWorld os).forCall (fun _ _ => 0) ⟨#[], noArgs, []⟩).memory :=
  laidMet_of_run' 8 (by kernel_rfl) (by kernel_rfl)
theorem reads (os : Os) {H : Type} (enc : TypeId × Value → H) : ∃ places, DataW.whole enc Tryd.prog ((laidWorld os).forCall (fun _ _ => 0) ⟨#[], noArgs, []⟩).memory Tryd.f3.params.toList Rows.twinPowerSpec.vars false noArgs.toList 8 = some ([.nil, .agg [.nil, .nil]], [], places) :=
  ⟨[], by kernel_rfl⟩
theorem lifted (os : Os) (started : os.Started) (H : Type) (enc : TypeId × Value → H) (F : Stop.Interp) :
    ReturnsInHanded {} Tryd.checked os 3 .any ((OpenSpec.ofChange Rows.twinPowerSpec).preRow enc Tryd.prog Tryd.f3 Rows.twinPowerRow.domain false Rows.twinPowerRow.laid) (((OpenSpec.ofChange Rows.twinPowerSpec).at F).post enc Tryd.prog Tryd.f3 false true false false) := by
  obtain ⟨places, hx⟩ := reads os enc
  refine returnsInHanded_of_row (C := Tryd.checked) (s := OpenSpec.ofChange Rows.twinPowerSpec) own started (by kernel_rfl) Tryd.func3
    (witness_row_at (enc := enc) (C := Tryd.checked) false (laidWorld os) noArgs rfl (by kernel_rfl) (by kernel_rfl) (by kernel_rfl)
      (OpenSpec.preRow_of_cond 8 hx (by kernel_rfl) (fun k hk => by cases hk) (by kernel_rfl) (laid_met os))) ?_
  intro W base0 args ds gs before hval hW _ _ hsz _ _ _
  exact contract H enc W base0 args ds gs before hval hW hsz
theorem said : Rows.TwinPowerSaid :=
  OpenClaim.holds_of_cond 3 Tryd.f3 rfl rfl rfl rfl rfl rfl rfl ⟨rfl, rfl, rfl, rfl, rfl⟩ rfl rfl rfl rfl rfl (by kernel_rfl) Tryd.func3 (by kernel_rfl)
    (of_decide_eq_true (by kernel_rfl)) (by unfold Func.isWrapper; first | (rw [if_pos (by decide +kernel)]; kernel_rfl) | (rw [if_neg (by decide +kernel)]; exact ⟨rfl, rfl⟩))
    (fun os started H enc _ F => by rw [OpenClaim.pre_eq_preRow]; exact lifted os started H enc F)
theorem plainT (f : FuncId) (fn : Func) (hf : Tryd.pinned.checked.prog.funcNamed "seneschal/seneschallaw08.TwinPower" = some f) (hfn : Tryd.pinned.checked.prog.funcs[f]? = some fn) :
    false = Tryd.pinned.checked.prog.looks [] ∧ ∀ (j : Nat) t, fn.params[j]? = some t → Tryd.pinned.checked.prog.wantsStandIn t = false := by
  obtain rfl : f = 3 := Option.some.inj ((show Tryd.prog.funcNamed "seneschal/seneschallaw08.TwinPower" = some 3 by kernel_rfl).symm.trans hf) |>.symm
  obtain rfl : fn = Tryd.f3 := (Option.some.inj (Tryd.func3.symm.trans hfn)).symm
  refine ⟨by kernel_rfl, fun j t ht => ?_⟩
  rw [Tryd.params3] at ht
  have hm : t ∈ [22, 24] := by simpa using Array.mem_of_getElem? ht
  have hall : ([22, 24].all fun u => !Tryd.prog.wantsStandIn u) = true := by kernel_rfl
  exact (show Tryd.prog.wantsStandIn t = false by simpa using List.all_eq_true.1 hall t hm)
theorem twinPower_card : Rows.TwinPowerCardSaid :=
  Claim7.holds_tied_plain_at .later [] _ _ _ _ said (fun _ h => by cases h) (by kernel_rfl) (fun _ h => by cases h) twinPower_row_tie rfl ⟨rfl, rfl⟩ (by kernel_rfl) rfl plainT (by kernel_rfl)
#print axioms twinPower_card
end Go.Proofs.YtkmlppeligdbaaaDoor

/- The law of the store, by the engine. Conditions: none. -/
import Derived.Test.YtkmlppeligdbaaaDoorLawH
namespace Go.Proofs.YtkmlppeligdbaaaDoor
namespace Sl
open Go.RowKit SepW Pl Eg
set_option linter.unusedVariables false
set_option linter.unusedSimpArgs false
set_option linter.unusedSectionVars false
set_option maxRecDepth 100000
section
variable {w : World} {L : List Atom}
theorem cells5 (g : Gh) : Cells pageT g ((List.replicate 5 (none : Ver)).map pageOf) [.int .i64 0, .slice none 0 0, .int .i64 0, .slice none 0 0, .int .i64 0, .slice none 0 0, .int .i64 0, .slice none 0 0, .int .i64 0, .slice none 0 0] := by
  have h : ∀ (l : List Page) (cs : List Value), Cells pageT g l cs → Cells pageT g (⟨0, []⟩ :: l) (.int .i64 0 :: .slice none 0 0 :: cs) := fun l cs h => ⟨[.int .i64 0, .slice none 0 0], cs, rfl, ⟨_, rfl, SlK.nil _ _ _ _⟩, h⟩
  have e : (List.replicate 5 (none : Ver)).map pageOf = [⟨0, []⟩, ⟨0, []⟩, ⟨0, []⟩, ⟨0, []⟩, ⟨0, []⟩] := rfl
  rw [e]
  exact h _ _ (h _ _ (h _ _ (h _ _ (h [] [] rfl))))
set_option maxHeartbeats 8000000 in
theorem twinPower_c {gs : List GroupM} {p0 p1 : List Int} {AG A0 A1 : Option Addr} {cg c0 c1 : Nat} (hlg : gs.length ≤ 140737488355328) (hl0 : p0.length ≤ 140737488355328) (hl1 : p1.length ≤ 140737488355328) (hpg : ∀ (k : Nat) (x : GroupM), gs[k]? = some x → x.1.length ≤ 140737488355328) (hS : Sat w (slA groupT (.slice AG gs.length cg) gs :: slA intT (.slice A0 p0.length c0) p0 :: slA intT (.slice A1 p1.length c1) p1 :: L)) :
    Calls Tryd.prog 3 #[.slice AG gs.length cg, .agg #[.slice A0 p0.length c0, .slice A1 p1.length c1]] w (Ret fun v w' => v = .bool true ∧ Sat w' L) := by
  refine enter (vs := [.slice AG gs.length cg, .agg #[.slice A0 p0.length c0, .slice A1 p1.length c1]]) Tryd.func3 rfl Tryd.ntmps3 rfl ?_
  intro a1 hF2
  have hF3 : Fits a1 201 [(0, .slice AG gs.length cg), (1, .agg #[.slice A0 p0.length c0, .slice A1 p1.length c1])] := hF2
  clear hF2
  refine wp_seq ?_
  refine reg_text (l := [0, 1]) (by kernel_rfl) ?_
  refine ops_next ?_
  obtain ⟨b4, w5, hr6, hS7⟩ := comes_new (P := Tryd.prog) (v := .box 24 (.agg #[.slice A0 p0.length c0, .slice A1 p1.length c1])) (u := fun b => .pointer (some ⟨b, 0, none⟩)) (o := .cells #[.slice A0 p0.length c0, .slice A1 p1.length c1] 24 (0, 0)) hS (fun w => by kernel_rfl)
  refine op_value (u := .pointer (some ⟨b4, 0, none⟩)) (e' := [(3, .pointer (some ⟨b4, 0, none⟩)), (0, .slice AG gs.length cg), (1, .agg #[.slice A0 p0.length c0, .slice A1 p1.length c1])]) hF3 (by kernel_rfl) hr6 ?_
  intro a8 hF9
  clear hF3 hr6
  clear hS
  refine batch_spec (is := [1]) (rest := []) (live := [3, 0, 4]) (e' := [(3, .pointer (some ⟨b4, 0, none⟩)), (0, .slice AG gs.length cg), (4, .bool false)]) (vs := []) (obs := []) hF9 (by kernel_rfl) .nil ?_
  intro a10 hF11
  clear hF9
  refine ops_done ?_
  refine nrm_then ?_
  refine wp_seq ?_
  refine wp_seq ?_
  refine reg_text (l := [0, 1]) (by kernel_rfl) ?_
  refine ops_next ?_
  refine op_call (fn := 4) (first := #[]) (cap := #[]) (args := #[]) (all := #[]) (pe := fun u => [(20, u), (3, .pointer (some ⟨b4, 0, none⟩)), (0, .slice AG gs.length cg), (4, .bool false)]) hF11 (fun u => by kernel_rfl) (by kernel_rfl) (by kernel_rfl) (awake_c hS7) ?_
  rintro u w14 a12 ⟨rfl, hS15⟩ hF13
  clear hF11
  clear hS7
  have hS16 : Sat w14 (raw b4 (.cells #[.slice A0 p0.length c0, .slice A1 p1.length c1] 24 (0, 0)) :: slA groupT (.slice AG gs.length cg) gs :: slA intT (.slice A0 p0.length c0) p0 :: slA intT (.slice A1 p1.length c1) p1 :: L) := hS15
  refine batch_spec (is := [1]) (rest := []) (live := [3, 0, 4, 21]) (e' := [(3, .pointer (some ⟨b4, 0, none⟩)), (0, .slice AG gs.length cg), (4, .bool false), (21, .bool false)]) (vs := []) (obs := []) hF13 (by kernel_rfl) .nil ?_
  intro a17 hF18
  clear hF13
  refine ops_done ?_
  refine nrm_then ?_
  refine cond_no hF18 rfl ?_
  refine wp_skip ?_
  refine nrm_then ?_
  refine wp_seq ?_
  refine reg_text (l := [0, 1]) (by kernel_rfl) ?_
  refine ops_next ?_
  refine op_call (fn := 5) (first := #[]) (cap := #[]) (args := #[.int .i64 16]) (all := #[.int .i64 16]) (pe := fun u => [(22, u), (3, .pointer (some ⟨b4, 0, none⟩)), (0, .slice AG gs.length cg), (4, .bool false), (21, .bool false)]) hF18 (fun u => by kernel_rfl) (by kernel_rfl) (by kernel_rfl) (new_c 16 (by decide) (by decide) hS16) ?_
  rintro u w21 a19 ⟨d, rfl, hS22⟩ hF20
  clear hF18
  clear hS15 hS16
  have hS23 : Sat w21 (plateA d (newPlate 16) :: raw b4 (.cells #[.slice A0 p0.length c0, .slice A1 p1.length c1] 24 (0, 0)) :: slA groupT (.slice AG gs.length cg) gs :: slA intT (.slice A0 p0.length c0) p0 :: slA intT (.slice A1 p1.length c1) p1 :: L) := hS22
  refine batch_spec (is := [1]) (rest := []) (live := [3, 0, 4, 5]) (e' := [(3, .pointer (some ⟨b4, 0, none⟩)), (0, .slice AG gs.length cg), (4, .bool false), (5, .pointer (some ⟨d, 0, none⟩))]) (vs := []) (obs := []) hF20 (by kernel_rfl) .nil ?_
  intro a24 hF25
  clear hF20
  refine ops_done ?_
  refine nrm_then ?_
  refine wp_seq ?_
  refine reg_text (l := [0, 1, 2, 3, 4, 5, 6]) (by kernel_rfl) ?_
  refine batch_spec (is := [0]) (rest := [1, 2, 3, 4, 5, 6]) (live := [3, 0, 4, 5, 24]) (e' := [(3, .pointer (some ⟨b4, 0, none⟩)), (0, .slice AG gs.length cg), (4, .bool false), (5, .pointer (some ⟨d, 0, none⟩)), (24, .pointer (some ⟨d, 0, none⟩))]) (vs := []) (obs := []) hF25 (by kernel_rfl) .nil ?_
  intro a26 hF27
  clear hF25
  refine ops_next ?_
  refine op_call (fn := 6) (first := #[]) (cap := #[]) (args := #[.pointer (some ⟨d, 0, none⟩), .int .i64 0, .int .i64 3, .int .i64 5]) (all := #[.pointer (some ⟨d, 0, none⟩), .int .i64 0, .int .i64 3, .int .i64 5]) (pe := fun u => [(25, u), (3, .pointer (some ⟨b4, 0, none⟩)), (0, .slice AG gs.length cg), (4, .bool false), (5, .pointer (some ⟨d, 0, none⟩)), (24, .pointer (some ⟨d, 0, none⟩))]) hF27 (fun u => by kernel_rfl) (by kernel_rfl) (by kernel_rfl) (open16 hS23) ?_
  rintro u w30 a28 ⟨s, rfl, hS31⟩ hF29
  clear hF27
  clear hS22 hS23
  have hS32 : Sat w30 (storeA s ⟨d, 0, 3, (List.replicate 5 (none : Ver)).map pageOf, 0, false⟩ :: plateA d (newPlate 16) :: raw b4 (.cells #[.slice A0 p0.length c0, .slice A1 p1.length c1] 24 (0, 0)) :: slA groupT (.slice AG gs.length cg) gs :: slA intT (.slice A0 p0.length c0) p0 :: slA intT (.slice A1 p1.length c1) p1 :: L) := hS31
  refine batch_spec (is := [2, 3, 4, 5, 6]) (rest := []) (live := [3, 0, 4, 5, 6, 7]) (e' := [(3, .pointer (some ⟨b4, 0, none⟩)), (0, .slice AG gs.length cg), (4, .bool false), (5, .pointer (some ⟨d, 0, none⟩)), (6, .pointer (some ⟨s, 0, none⟩)), (7, .int .i64 0)]) (vs := []) (obs := []) hF29 (by kernel_rfl) .nil ?_
  intro a33 hF34
  clear hF29
  refine ops_done ?_
  refine nrm_then ?_
  refine wp_seq ?_
  refine wp_seq ?_
  refine reg_text (l := [0, 1]) (by kernel_rfl) ?_
  refine batch_spec (is := [0, 1]) (rest := []) (live := [3, 0, 4, 5, 6, 29]) (e' := [(3, .pointer (some ⟨b4, 0, none⟩)), (0, .slice AG gs.length cg), (4, .bool false), (5, .pointer (some ⟨d, 0, none⟩)), (6, .pointer (some ⟨s, 0, none⟩)), (29, .bool false)]) (vs := []) (obs := []) hF34 (by kernel_rfl) .nil ?_
  intro a35 hF36
  clear hF34
  refine ops_done ?_
  refine nrm_then ?_
  refine cond_no hF36 rfl ?_
  refine wp_skip ?_
  refine nrm_then ?_
  refine wp_seq ?_
  refine reg_text (l := [0, 1]) (by kernel_rfl) ?_
  refine ops_next ?_
  obtain ⟨b37, w38, hr39, hS40⟩ := comes_new (P := Tryd.prog) (v := .makeSlice 32 (.int .i64 5) (.int .i64 5)) (u := fun b => .slice (some ⟨b, 0, none⟩) 5 5) (o := .cells #[.int .i64 0, .slice none 0 0, .int .i64 0, .slice none 0 0, .int .i64 0, .slice none 0 0, .int .i64 0, .slice none 0 0, .int .i64 0, .slice none 0 0] 41 (0, 0)) hS32 (fun w => by kernel_rfl)
  refine op_value (u := .slice (some ⟨b37, 0, none⟩) 5 5) (e' := [(30, .slice (some ⟨b37, 0, none⟩) 5 5), (3, .pointer (some ⟨b4, 0, none⟩)), (0, .slice AG gs.length cg), (4, .bool false), (5, .pointer (some ⟨d, 0, none⟩)), (6, .pointer (some ⟨s, 0, none⟩)), (29, .bool false)]) hF36 (by kernel_rfl) hr39 ?_
  intro a41 hF42
  clear hF36 hr39
  clear hS31 hS32
  refine batch_spec (is := [1]) (rest := []) (live := [3, 0, 4, 5, 6, 8]) (e' := [(3, .pointer (some ⟨b4, 0, none⟩)), (0, .slice AG gs.length cg), (4, .bool false), (5, .pointer (some ⟨d, 0, none⟩)), (6, .pointer (some ⟨s, 0, none⟩)), (8, .slice (some ⟨b37, 0, none⟩) 5 5)]) (vs := []) (obs := []) hF42 (by kernel_rfl) .nil ?_
  intro a43 hF44
  clear hF42
  refine ops_done ?_
  refine nrm_then ?_
  refine wp_seq ?_
  refine reg_text (l := [0]) (by kernel_rfl) ?_
  refine batch_spec (is := [0]) (rest := []) (live := [3, 0, 4, 5, 6, 8, 9]) (e' := [(3, .pointer (some ⟨b4, 0, none⟩)), (0, .slice AG gs.length cg), (4, .bool false), (5, .pointer (some ⟨d, 0, none⟩)), (6, .pointer (some ⟨s, 0, none⟩)), (8, .slice (some ⟨b37, 0, none⟩) 5 5), (9, .int .i64 0)]) (vs := []) (obs := []) hF44 (by kernel_rfl) .nil ?_
  intro a45 hF46
  clear hF44
  refine ops_done ?_
  refine nrm_then ?_
  refine wp_seq ?_
  refine wp_seq ?_
  refine reg_text (l := [0, 1, 2, 3]) (by kernel_rfl) ?_
  refine batch_spec (is := [0, 1, 2, 3]) (rest := []) (live := [3, 0, 4, 5, 6, 8, 9, 34]) (e' := [(3, .pointer (some ⟨b4, 0, none⟩)), (0, .slice AG gs.length cg), (4, .bool false), (5, .pointer (some ⟨d, 0, none⟩)), (6, .pointer (some ⟨s, 0, none⟩)), (8, .slice (some ⟨b37, 0, none⟩) 5 5), (9, .int .i64 0), (34, .bool (decide (((p0.length : Nat) : Int) > 0)))]) (vs := [.slice A0 p0.length c0]) (obs := [(⟨b4, 0, none⟩, .slice A0 p0.length c0)]) hF46 (by kernel_rfl) (.cons (ob hS40 3 rfl rfl) .nil) ?_
  intro a47 hF48
  clear hF46
  refine ops_done ?_
  refine nrm_then ?_
  have hS49 : Sat w38 (raw b4 (.cells #[.slice A0 p0.length c0, .slice A1 p1.length c1] 24 (0, 0)) :: slA groupT (.slice AG gs.length cg) gs :: slA intT (.slice A0 p0.length c0) p0 :: slA intT (.slice A1 p1.length c1) p1 :: raw b37 (.cells #[.int .i64 0, .slice none 0 0, .int .i64 0, .slice none 0 0, .int .i64 0, .slice none 0 0, .int .i64 0, .slice none 0 0, .int .i64 0, .slice none 0 0] 41 (0, 0)) :: storeA s ⟨d, 0, 3, (List.replicate 5 (none : Ver)).map pageOf, 0, false⟩ :: plateA d (newPlate 16) :: L) := (Sat_at (Sat_at (Sat_at (Sat_at (Sat_at (Sat_at (Sat_at hS40 2 rfl rfl) 2 rfl rfl) 2 rfl rfl) 6 rfl rfl) 6 rfl rfl) 6 rfl rfl) 6 rfl rfl)
  refine then_cut (fun α ω => ∃ pl : PlateM, (Fine 0 3 5 0 16 pl (List.replicate 5 (none : Ver))) ∧ (pl.life = 0) ∧ Fits α 201 [(3, .pointer (some ⟨b4, 0, none⟩)), (0, .slice AG gs.length cg), (4, .bool false), (5, .pointer (some ⟨d, 0, none⟩)), (6, .pointer (some ⟨s, 0, none⟩)), (8, .slice (some ⟨b37, 0, none⟩) 5 5), (9, .int .i64 0)] ∧ Sat ω (raw b4 (.cells #[.slice A0 p0.length c0, .slice A1 p1.length c1] 24 (0, 0)) :: slA groupT (.slice AG gs.length cg) gs :: slA intT (.slice A0 p0.length c0) p0 :: slA intT (.slice A1 p1.length c1) p1 :: raw b37 (.cells #[.int .i64 0, .slice none 0 0, .int .i64 0, .slice none 0 0, .int .i64 0, .slice none 0 0, .int .i64 0, .slice none 0 0, .int .i64 0, .slice none 0 0] 41 (0, 0)) :: storeA s ⟨d, 0, 3, (List.replicate 5 (none : Ver)).map pageOf, 0, false⟩ :: plateA d pl :: L)) ?_ ?_
  ·
    by_cases h50 : ((p0.length : Nat) : Int) > 0
    ·
      have hb51 : (decide (((p0.length : Nat) : Int) > 0)) = true := decide_eq_true h50
      rw [hb51] at hF48
      refine cond_yes hF48 rfl ?_
      refine reg_text (l := [0, 1, 2, 3, 4, 5, 6, 7, 8]) (by kernel_rfl) ?_
      refine batch_spec (is := [0, 1, 2]) (rest := [3, 4, 5, 6, 7, 8]) (live := [3, 0, 4, 5, 6, 8, 9, 35, 37]) (e' := [(3, .pointer (some ⟨b4, 0, none⟩)), (0, .slice AG gs.length cg), (4, .bool false), (5, .pointer (some ⟨d, 0, none⟩)), (6, .pointer (some ⟨s, 0, none⟩)), (8, .slice (some ⟨b37, 0, none⟩) 5 5), (9, .int .i64 0), (35, .pointer (some ⟨d, 0, none⟩)), (37, .slice A0 p0.length c0)]) (vs := [.slice A0 p0.length c0]) (obs := [(⟨b4, 0, none⟩, .slice A0 p0.length c0)]) hF48 (by kernel_rfl) (.cons (ob hS49 0 rfl rfl) .nil) ?_
      intro a52 hF53
      clear hF48
      refine ops_next ?_
      obtain ⟨x54, hx55⟩ : ∃ χ, p0[0]? = some χ := ⟨_, List.getElem?_eq_getElem (by omega)⟩
      obtain ⟨b56, off57, heq58, hS59⟩ := int_el hS49 2 rfl hx55
      have hS60 : Sat w38 (immC b56 (off57 + 0 * 1) [.int .i64 x54] :: raw b4 (.cells #[.slice A0 p0.length c0, .slice A1 p1.length c1] 24 (0, 0)) :: slA groupT (.slice AG gs.length cg) gs :: slA intT (.slice A0 p0.length c0) p0 :: slA intT (.slice A1 p1.length c1) p1 :: raw b37 (.cells #[.int .i64 0, .slice none 0 0, .int .i64 0, .slice none 0 0, .int .i64 0, .slice none 0 0, .int .i64 0, .slice none 0 0, .int .i64 0, .slice none 0 0] 41 (0, 0)) :: storeA s ⟨d, 0, 3, (List.replicate 5 (none : Ver)).map pageOf, 0, false⟩ :: plateA d (newPlate 16) :: L) := hS59
      refine op_value (u := .pointer (some ⟨b56, off57 + 0 * 1, none⟩)) (v := .indexAddr 23 (.slice A0 p0.length c0) (.int .i64 0)) (e' := [(38, .pointer (some ⟨b56, off57 + 0 * 1, none⟩)), (3, .pointer (some ⟨b4, 0, none⟩)), (0, .slice AG gs.length cg), (4, .bool false), (5, .pointer (some ⟨d, 0, none⟩)), (6, .pointer (some ⟨s, 0, none⟩)), (8, .slice (some ⟨b37, 0, none⟩) 5 5), (9, .int .i64 0), (35, .pointer (some ⟨d, 0, none⟩)), (37, .slice A0 p0.length c0)]) hF53 (by kernel_rfl) (.value ((run_indexAddrA (el := 3) (sz := 1) (off := off57) (k := 0) heq58 Tryd.underlying23 (by kernel_rfl) (by rfl) (by omega)) _)) ?_
      intro a61 hF62
      clear hF53
      refine batch_spec (is := [4, 5, 6, 7]) (rest := [8]) (live := [3, 0, 4, 5, 6, 8, 9, 35, 42]) (e' := [(3, .pointer (some ⟨b4, 0, none⟩)), (0, .slice AG gs.length cg), (4, .bool false), (5, .pointer (some ⟨d, 0, none⟩)), (6, .pointer (some ⟨s, 0, none⟩)), (8, .slice (some ⟨b37, 0, none⟩) 5 5), (9, .int .i64 0), (35, .pointer (some ⟨d, 0, none⟩)), (42, .int .i64 (IntKind.i64.wrap ((IntKind.u64.wrap x54).tmod 40)))]) (vs := [.int .i64 x54]) (obs := [(⟨b56, off57 + 0 * 1, none⟩, .int .i64 x54)]) hF62 (by kernel_rfl) (.cons (obC hS60 0 (off := off57 + 0 * 1) (j := 0) rfl rfl) .nil) ?_
      intro a63 hF64
      clear hF62
      have hw65 : IntKind.i64.wrap ((IntKind.u64.wrap x54).tmod 40) = ((uMod x54 40 : Nat) : Int) := uMod_eq x54 (m := 40) (by decide) (by decide)
      rw [hw65] at hF64
      have hw65_lt := uMod_lt x54 (m := 40) (by decide)
      refine ops_next ?_
      have hS66 : Sat w38 (plateA d (newPlate 16) :: immC b56 (off57 + 0 * 1) [.int .i64 x54] :: raw b4 (.cells #[.slice A0 p0.length c0, .slice A1 p1.length c1] 24 (0, 0)) :: slA groupT (.slice AG gs.length cg) gs :: slA intT (.slice A0 p0.length c0) p0 :: slA intT (.slice A1 p1.length c1) p1 :: raw b37 (.cells #[.int .i64 0, .slice none 0 0, .int .i64 0, .slice none 0 0, .int .i64 0, .slice none 0 0, .int .i64 0, .slice none 0 0, .int .i64 0, .slice none 0 0] 41 (0, 0)) :: storeA s ⟨d, 0, 3, (List.replicate 5 (none : Ver)).map pageOf, 0, false⟩ :: L) := (Sat_at hS60 7 rfl rfl)
      refine op_call (fn := 7) (first := #[]) (cap := #[]) (args := #[.pointer (some ⟨d, 0, none⟩), .int .i64 (uMod x54 40 : Nat)]) (all := #[.pointer (some ⟨d, 0, none⟩), .int .i64 (uMod x54 40 : Nat)]) (pe := fun u => [(43, u), (3, .pointer (some ⟨b4, 0, none⟩)), (0, .slice AG gs.length cg), (4, .bool false), (5, .pointer (some ⟨d, 0, none⟩)), (6, .pointer (some ⟨s, 0, none⟩)), (8, .slice (some ⟨b37, 0, none⟩) 5 5), (9, .int .i64 0), (35, .pointer (some ⟨d, 0, none⟩)), (42, .int .i64 (uMod x54 40 : Nat))]) hF64 (fun u => by kernel_rfl) (by kernel_rfl) (by kernel_rfl) (arm_c ((uMod x54 40 : Nat)) hS66) ?_
      rintro u w69 a67 ⟨rfl, hS70⟩ hF68
      clear hF64
      clear hS40 hS49 hS59 hS60 hS66
      have hS71 : Sat w69 (plateA d ({ newPlate 16 with armed := max ((uMod x54 40 : Nat)) 0 }) :: immC b56 (off57 + 0 * 1) [.int .i64 x54] :: raw b4 (.cells #[.slice A0 p0.length c0, .slice A1 p1.length c1] 24 (0, 0)) :: slA groupT (.slice AG gs.length cg) gs :: slA intT (.slice A0 p0.length c0) p0 :: slA intT (.slice A1 p1.length c1) p1 :: raw b37 (.cells #[.int .i64 0, .slice none 0 0, .int .i64 0, .slice none 0 0, .int .i64 0, .slice none 0 0, .int .i64 0, .slice none 0 0, .int .i64 0, .slice none 0 0] 41 (0, 0)) :: storeA s ⟨d, 0, 3, (List.replicate 5 (none : Ver)).map pageOf, 0, false⟩ :: L) := hS70
      refine ops_done ?_
      have hS72 : Sat w69 (raw b4 (.cells #[.slice A0 p0.length c0, .slice A1 p1.length c1] 24 (0, 0)) :: slA groupT (.slice AG gs.length cg) gs :: slA intT (.slice A0 p0.length c0) p0 :: slA intT (.slice A1 p1.length c1) p1 :: raw b37 (.cells #[.int .i64 0, .slice none 0 0, .int .i64 0, .slice none 0 0, .int .i64 0, .slice none 0 0, .int .i64 0, .slice none 0 0, .int .i64 0, .slice none 0 0] 41 (0, 0)) :: storeA s ⟨d, 0, 3, (List.replicate 5 (none : Ver)).map pageOf, 0, false⟩ :: plateA d ({ newPlate 16 with armed := max ((uMod x54 40 : Nat)) 0 }) :: immC b56 (off57 + 0 * 1) [.int .i64 x54] :: L) := (Sat_at (Sat_at (Sat_at (Sat_at (Sat_at (Sat_at (Sat_at hS71 0 rfl rfl) 7 rfl rfl) 7 rfl rfl) 7 rfl rfl) 7 rfl rfl) 7 rfl rfl) 7 rfl rfl)
      refine nrm_then ⟨{ newPlate 16 with armed := max ((uMod x54 40 : Nat)) 0 }, arm_fine fine16, rfl, (Fits.restr (r := [(3, .pointer (some ⟨b4, 0, none⟩)), (0, .slice AG gs.length cg), (4, .bool false), (5, .pointer (some ⟨d, 0, none⟩)), (6, .pointer (some ⟨s, 0, none⟩)), (8, .slice (some ⟨b37, 0, none⟩) 5 5), (9, .int .i64 0)]) hF68 (ks := [3, 0, 4, 5, 6, 8, 9]) (by kernel_rfl)).cast (by rfl), ((Sat_at hS72 7 rfl rfl).drop)⟩
    ·
      have hb73 : (decide (((p0.length : Nat) : Int) > 0)) = false := decide_eq_false h50
      rw [hb73] at hF48
      refine cond_no hF48 rfl ?_
      refine wp_skip ?_
      refine nrm_then ⟨newPlate 16, fine16, rfl, (Fits.restr (r := [(3, .pointer (some ⟨b4, 0, none⟩)), (0, .slice AG gs.length cg), (4, .bool false), (5, .pointer (some ⟨d, 0, none⟩)), (6, .pointer (some ⟨s, 0, none⟩)), (8, .slice (some ⟨b37, 0, none⟩) 5 5), (9, .int .i64 0)]) hF48 (ks := [3, 0, 4, 5, 6, 8, 9]) (by kernel_rfl)).cast (by rfl), (hS49)⟩
  ·
    rintro a74 w75 ⟨pl, hF, hlf, hF76, hS77⟩
    clear hF48
    clear hS40 hS49
    refine wp_seq ?_
    refine wp_seq ?_
    refine reg_text (l := [0]) (by kernel_rfl) ?_
    refine batch_spec (is := [0]) (rest := []) (live := [3, 0, 4, 5, 6, 8, 9, 10]) (e' := [(3, .pointer (some ⟨b4, 0, none⟩)), (0, .slice AG gs.length cg), (4, .bool false), (5, .pointer (some ⟨d, 0, none⟩)), (6, .pointer (some ⟨s, 0, none⟩)), (8, .slice (some ⟨b37, 0, none⟩) 5 5), (9, .int .i64 0), (10, .int .i64 0)]) (vs := []) (obs := []) hF76 (by kernel_rfl) .nil ?_
    intro a78 hF79
    clear hF76
    refine ops_done ?_
    refine nrm_then ?_
    refine wp_block ?_
    have hS80 : Sat w75 (rowA pageT 41 (some ⟨b37, 0, none⟩) 5 ((List.replicate 5 (none : Ver)).map pageOf) :: raw b4 (.cells #[.slice A0 p0.length c0, .slice A1 p1.length c1] 24 (0, 0)) :: slA groupT (.slice AG gs.length cg) gs :: slA intT (.slice A0 p0.length c0) p0 :: slA intT (.slice A1 p1.length c1) p1 :: storeA s ⟨d, 0, 3, (List.replicate 5 (none : Ver)).map pageOf, 0, false⟩ :: plateA d pl :: L) := raw_row (T := pageT) hS77 4 rfl rfl (by decide) (by decide) rfl (fun h => h.per_true (fun g => cells5 g))
    have hS81 : Sat w75 (raw b4 (.cells #[.slice A0 p0.length c0, .slice A1 p1.length c1] 24 (0, 0)) :: slA groupT (.slice AG gs.length cg) gs :: slA intT (.slice A0 p0.length c0) p0 :: slA intT (.slice A1 p1.length c1) p1 :: rowA pageT 41 (some ⟨b37, 0, none⟩) 5 ((List.replicate 5 (none : Ver)).map pageOf) :: storeA s ⟨d, 0, 3, (List.replicate 5 (none : Ver)).map pageOf, 0, false⟩ :: plateA d pl :: L) := (Sat_at (Sat_at (Sat_at (Sat_at (Sat_at (Sat_at (Sat_at hS80 6 rfl rfl) 6 rfl rfl) 2 rfl rfl) 6 rfl rfl) 6 rfl rfl) 6 rfl rfl) 6 rfl rfl)
    refine loop_g (fun μ α ω => ∃ i : Nat, ∃ s : Nat, ∃ pl : PlateM, ∃ vl : List Ver, ∃ B8 : Option Addr, ∃ c8 : Nat, ∃ ls : Nat, ∃ lf : Int, μ = 30 - i ∧ (i ≤ 30) ∧ (Fine 0 3 5 i 16 pl vl) ∧ (pl.life = lf) ∧ (ls ≤ 5) ∧ Fits α 201 [(3, .pointer (some ⟨b4, 0, none⟩)), (0, .slice AG gs.length cg), (4, .bool false), (5, .pointer (some ⟨d, 0, none⟩)), (6, .pointer (some ⟨s, 0, none⟩)), (8, .slice B8 5 c8), (9, .int .i64 (ls : Nat)), (10, .int .i64 (i : Nat))] ∧ Sat ω (raw b4 (.cells #[.slice A0 p0.length c0, .slice A1 p1.length c1] 24 (0, 0)) :: slA groupT (.slice AG gs.length cg) gs :: slA intT (.slice A0 p0.length c0) p0 :: slA intT (.slice A1 p1.length c1) p1 :: rowA pageT 41 B8 c8 (vl.map pageOf) :: storeA s ⟨d, 0, 3, vl.map pageOf, lf, false⟩ :: plateA d pl :: L)) _ ⟨0, _, pl, (List.replicate 5 (none : Ver)), _, 5, 0, 0, rfl, (by decide), hF, hlf, (by decide), (Fits.restr (r := [(3, .pointer (some ⟨b4, 0, none⟩)), (0, .slice AG gs.length cg), (4, .bool false), (5, .pointer (some ⟨d, 0, none⟩)), (6, .pointer (some ⟨s, 0, none⟩)), (8, .slice (some ⟨b37, 0, none⟩) 5 5), (9, .int .i64 0), (10, .int .i64 0)]) hF79 (ks := [3, 0, 4, 5, 6, 8, 9, 10]) (by kernel_rfl)).cast (by rfl), (hS81)⟩ ?_
    rintro m82 a83 w84 ⟨i, s, pl, vl, B8, c8, ls, lf, rfl, hi, hF, hlf, hls, hF85, hS86⟩
    clear hF79
    clear hS77 hS80 hS81
    refine wp_seq ?_
    refine wp_seq ?_
    refine reg_text (l := [0, 1, 2, 3, 4, 5, 6, 7]) (by kernel_rfl) ?_
    refine batch_spec (is := [0, 1, 2, 3, 4]) (rest := [5, 6, 7]) (live := [3, 0, 4, 5, 6, 8, 9, 10, 48]) (e' := [(3, .pointer (some ⟨b4, 0, none⟩)), (0, .slice AG gs.length cg), (4, .bool false), (5, .pointer (some ⟨d, 0, none⟩)), (6, .pointer (some ⟨s, 0, none⟩)), (8, .slice B8 5 c8), (9, .int .i64 (ls : Nat)), (10, .int .i64 (i : Nat)), (48, .bool (decide (((i : Nat) : Int) < ((gs.length : Nat) : Int))))]) (vs := []) (obs := []) hF85 (by kernel_rfl) .nil ?_
    intro a87 hF88
    clear hF85
    by_cases h89 : ((i : Nat) : Int) < ((gs.length : Nat) : Int)
    ·
      have hb90 : (decide (((i : Nat) : Int) < ((gs.length : Nat) : Int))) = true := decide_eq_true h89
      rw [hb90] at hF88
      refine batch_spec (is := [5, 6, 7]) (rest := []) (live := [3, 0, 4, 5, 6, 8, 9, 10, 49, 50, 51]) (e' := [(3, .pointer (some ⟨b4, 0, none⟩)), (0, .slice AG gs.length cg), (4, .bool false), (5, .pointer (some ⟨d, 0, none⟩)), (6, .pointer (some ⟨s, 0, none⟩)), (8, .slice B8 5 c8), (9, .int .i64 (ls : Nat)), (10, .int .i64 (i : Nat)), (49, .int .i64 (i : Nat)), (50, .bool (decide (((i : Nat) : Int) < 30))), (51, .bool (decide (((i : Nat) : Int) < 30)))]) (vs := []) (obs := []) hF88 (by kernel_rfl) .nil ?_
      intro a91 hF92
      clear hF88
      refine ops_done ?_
      refine nrm_then ?_
      by_cases h93 : ((i : Nat) : Int) < 30
      ·
        have hb94 : (decide (((i : Nat) : Int) < 30)) = true := decide_eq_true h93
        rw [hb94] at hF92
        refine cond_yes hF92 rfl ?_
        refine wp_skip ?_
        refine nrm_then ?_
        refine wp_seq ?_
        refine wp_block ?_
        refine wp_seq ?_
        refine reg_text (l := [0, 1, 2, 3, 4, 5, 6, 7]) (by kernel_rfl) ?_
        refine batch_spec (is := [0, 1]) (rest := [2, 3, 4, 5, 6, 7]) (live := [3, 0, 4, 5, 6, 8, 9, 10, 49, 50, 54, 55]) (e' := [(3, .pointer (some ⟨b4, 0, none⟩)), (0, .slice AG gs.length cg), (4, .bool false), (5, .pointer (some ⟨d, 0, none⟩)), (6, .pointer (some ⟨s, 0, none⟩)), (8, .slice B8 5 c8), (9, .int .i64 (ls : Nat)), (10, .int .i64 (i : Nat)), (49, .int .i64 (i : Nat)), (50, .bool true), (54, .slice AG gs.length cg), (55, .int .i64 (i : Nat))]) (vs := []) (obs := []) hF92 (by kernel_rfl) .nil ?_
        intro a95 hF96
        clear hF92
        refine ops_next ?_
        obtain ⟨x97, hx98⟩ : ∃ χ, gs[i]? = some χ := ⟨_, List.getElem?_eq_getElem (by omega)⟩
        obtain ⟨b99, off100, B103, cp104, heq101, hS102⟩ := group_el hS86 1 rfl hx98
        have hS105 : Sat w84 (immC b99 (off100 + i * 2) [.slice B103 x97.1.length cp104, .int .u8 x97.2] :: slA intT (.slice B103 x97.1.length cp104) x97.1 :: raw b4 (.cells #[.slice A0 p0.length c0, .slice A1 p1.length c1] 24 (0, 0)) :: slA groupT (.slice AG gs.length cg) gs :: slA intT (.slice A0 p0.length c0) p0 :: slA intT (.slice A1 p1.length c1) p1 :: rowA pageT 41 B8 c8 (vl.map pageOf) :: storeA s ⟨d, 0, 3, vl.map pageOf, lf, false⟩ :: plateA d pl :: L) := hS102
        refine op_value (u := .pointer (some ⟨b99, off100 + i * 2, none⟩)) (v := .indexAddr 22 (.slice AG gs.length cg) (.int .i64 (i : Nat))) (e' := [(56, .pointer (some ⟨b99, off100 + i * 2, none⟩)), (3, .pointer (some ⟨b4, 0, none⟩)), (0, .slice AG gs.length cg), (4, .bool false), (5, .pointer (some ⟨d, 0, none⟩)), (6, .pointer (some ⟨s, 0, none⟩)), (8, .slice B8 5 c8), (9, .int .i64 (ls : Nat)), (10, .int .i64 (i : Nat)), (49, .int .i64 (i : Nat)), (50, .bool true), (54, .slice AG gs.length cg), (55, .int .i64 (i : Nat))]) hF96 (by kernel_rfl) (.value ((run_indexAddrA (el := 38) (sz := 2) (off := off100) (k := i) heq101 Tryd.underlying22 (by kernel_rfl) (by rfl) (by omega)) _)) ?_
        intro a106 hF107
        clear hF96
        refine batch_spec (is := [3, 4, 5]) (rest := [6, 7]) (live := [3, 0, 4, 5, 6, 8, 9, 10, 49, 50, 57, 59]) (e' := [(3, .pointer (some ⟨b4, 0, none⟩)), (0, .slice AG gs.length cg), (4, .bool false), (5, .pointer (some ⟨d, 0, none⟩)), (6, .pointer (some ⟨s, 0, none⟩)), (8, .slice B8 5 c8), (9, .int .i64 (ls : Nat)), (10, .int .i64 (i : Nat)), (49, .int .i64 (i : Nat)), (50, .bool true), (57, .agg #[.slice B103 x97.1.length cp104, .int .u8 x97.2]), (59, .int .i64 (IntKind.i64.wrap (((i : Nat) : Int) + 1)))]) (vs := [.slice B103 x97.1.length cp104, .int .u8 x97.2]) (obs := [(⟨b99, off100 + i * 2, none⟩, .slice B103 x97.1.length cp104), (⟨b99, off100 + i * 2 + 1, none⟩, .int .u8 x97.2)]) hF107 (by kernel_rfl) (.cons (obC hS105 0 (off := off100 + i * 2) (j := 0) rfl rfl) (.cons (obC hS105 0 (off := off100 + i * 2) (j := 1) rfl rfl) .nil)) ?_
        intro a108 hF109
        clear hF107
        have hw110 : IntKind.i64.wrap (((i : Nat) : Int) + 1) = ((i + 1 : Nat) : Int) := by rw [wrap_i64 (by omega) (by omega)]; omega
        rw [hw110] at hF109
        refine ops_next ?_
        have hS111 : Sat w84 (slA intT (.slice B103 x97.1.length cp104) x97.1 :: immC b99 (off100 + i * 2) [.slice B103 x97.1.length cp104, .int .u8 x97.2] :: raw b4 (.cells #[.slice A0 p0.length c0, .slice A1 p1.length c1] 24 (0, 0)) :: slA groupT (.slice AG gs.length cg) gs :: slA intT (.slice A0 p0.length c0) p0 :: slA intT (.slice A1 p1.length c1) p1 :: rowA pageT 41 B8 c8 (vl.map pageOf) :: storeA s ⟨d, 0, 3, vl.map pageOf, lf, false⟩ :: plateA d pl :: L) := (Sat_at hS105 1 rfl rfl)
        refine op_call (fn := 8) (first := #[]) (cap := #[]) (args := #[.agg #[.slice B103 x97.1.length cp104, .int .u8 x97.2], .int .i64 (i + 1 : Nat)]) (all := #[.agg #[.slice B103 x97.1.length cp104, .int .u8 x97.2], .int .i64 (i + 1 : Nat)]) (pe := fun u => [(60, u), (3, .pointer (some ⟨b4, 0, none⟩)), (0, .slice AG gs.length cg), (4, .bool false), (5, .pointer (some ⟨d, 0, none⟩)), (6, .pointer (some ⟨s, 0, none⟩)), (8, .slice B8 5 c8), (9, .int .i64 (ls : Nat)), (10, .int .i64 (i : Nat)), (49, .int .i64 (i : Nat)), (50, .bool true), (57, .agg #[.slice B103 x97.1.length cp104, .int .u8 x97.2]), (59, .int .i64 (i + 1 : Nat))]) hF109 (fun u => by kernel_rfl) (by kernel_rfl) (by kernel_rfl) (laid_law (r := i) (by omega) (hpg i x97 hx98) hS111) ?_
        rintro u w114 a112 ⟨l, BL, cl, hbt, rfl, hS115⟩ hF113
        clear hF109
        clear hS86 hS102 hS105 hS111
        have hS116 : Sat w114 (slA leafT (.slice BL l.length cl) l :: slA intT (.slice B103 x97.1.length cp104) x97.1 :: immC b99 (off100 + i * 2) [.slice B103 x97.1.length cp104, .int .u8 x97.2] :: raw b4 (.cells #[.slice A0 p0.length c0, .slice A1 p1.length c1] 24 (0, 0)) :: slA groupT (.slice AG gs.length cg) gs :: slA intT (.slice A0 p0.length c0) p0 :: slA intT (.slice A1 p1.length c1) p1 :: rowA pageT 41 B8 c8 (vl.map pageOf) :: storeA s ⟨d, 0, 3, vl.map pageOf, lf, false⟩ :: plateA d pl :: L) := hS115
        have hll := hbt.all.len
        refine batch_spec (is := [7]) (rest := []) (live := [3, 0, 4, 5, 6, 8, 9, 10, 49, 50, 11]) (e' := [(3, .pointer (some ⟨b4, 0, none⟩)), (0, .slice AG gs.length cg), (4, .bool false), (5, .pointer (some ⟨d, 0, none⟩)), (6, .pointer (some ⟨s, 0, none⟩)), (8, .slice B8 5 c8), (9, .int .i64 (ls : Nat)), (10, .int .i64 (i : Nat)), (49, .int .i64 (i : Nat)), (50, .bool true), (11, .slice BL l.length cl)]) (vs := []) (obs := []) hF113 (by kernel_rfl) .nil ?_
        intro a117 hF118
        clear hF113
        refine ops_done ?_
        refine nrm_then ?_
        refine wp_seq ?_
        refine reg_text (l := [0, 1, 2, 3]) (by kernel_rfl) ?_
        refine ops_next ?_
        obtain ⟨b119, w120, hr121, hS122⟩ := comes_new (P := Tryd.prog) (v := .buildSlice 32 0 #[]) (u := fun b => .slice (some ⟨b, 0, none⟩) 0 0) (o := .cells #[] 41 (0, 0)) hS116 (fun w => by kernel_rfl)
        refine op_value (u := .slice (some ⟨b119, 0, none⟩) 0 0) (e' := [(61, .slice (some ⟨b119, 0, none⟩) 0 0), (3, .pointer (some ⟨b4, 0, none⟩)), (0, .slice AG gs.length cg), (4, .bool false), (5, .pointer (some ⟨d, 0, none⟩)), (6, .pointer (some ⟨s, 0, none⟩)), (8, .slice B8 5 c8), (9, .int .i64 (ls : Nat)), (10, .int .i64 (i : Nat)), (49, .int .i64 (i : Nat)), (50, .bool true), (11, .slice BL l.length cl)]) hF118 (by kernel_rfl) hr121 ?_
        intro a123 hF124
        clear hF118 hr121
        clear hS115 hS116
        refine batch_spec (is := [1]) (rest := [2, 3]) (live := [61, 3, 0, 4, 5, 6, 8, 9, 10, 49, 50, 11, 62]) (e' := [(61, .slice (some ⟨b119, 0, none⟩) 0 0), (3, .pointer (some ⟨b4, 0, none⟩)), (0, .slice AG gs.length cg), (4, .bool false), (5, .pointer (some ⟨d, 0, none⟩)), (6, .pointer (some ⟨s, 0, none⟩)), (8, .slice B8 5 c8), (9, .int .i64 (ls : Nat)), (10, .int .i64 (i : Nat)), (49, .int .i64 (i : Nat)), (50, .bool true), (11, .slice BL l.length cl), (62, .slice B8 5 c8)]) (vs := []) (obs := []) hF124 (by kernel_rfl) .nil ?_
        intro a125 hF126
        clear hF124
        refine ops_next ?_
        have hS127 : Sat w120 (rowA pageT 41 (some ⟨b119, 0, none⟩) 0 [] :: slA leafT (.slice BL l.length cl) l :: slA intT (.slice B103 x97.1.length cp104) x97.1 :: immC b99 (off100 + i * 2) [.slice B103 x97.1.length cp104, .int .u8 x97.2] :: raw b4 (.cells #[.slice A0 p0.length c0, .slice A1 p1.length c1] 24 (0, 0)) :: slA groupT (.slice AG gs.length cg) gs :: slA intT (.slice A0 p0.length c0) p0 :: slA intT (.slice A1 p1.length c1) p1 :: rowA pageT 41 B8 c8 (vl.map pageOf) :: storeA s ⟨d, 0, 3, vl.map pageOf, lf, false⟩ :: plateA d pl :: L) := raw_row (T := pageT) hS122 0 rfl rfl (Nat.zero_le _) (by decide) rfl (fun h => h.cells_free (fun g => rfl))
        obtain ⟨B131, cap132, w128, hr129, hS130⟩ := comes_appendRow (P := Tryd.prog) (T := pageT) (c := 32) (z := .agg #[.int .i64 0, .slice none 0 0]) (t' := 32) (ty := 32) (cs := #[false, false]) (n := 0) (m := 5) (cc := c8) hS127 0 rfl rfl 8 rfl (by exact pages_ne hF.stab.len (by decide)) rfl (by rw [List.length_map]; exact hF.stab.len) Tryd.underlying32 (by kernel_rfl) rfl (by unfold maxLen; omega) (by omega)
        refine op_value (u := .slice B131 5 cap132) (e' := [(63, .slice B131 5 cap132), (61, .slice (some ⟨b119, 0, none⟩) 0 0), (3, .pointer (some ⟨b4, 0, none⟩)), (0, .slice AG gs.length cg), (4, .bool false), (5, .pointer (some ⟨d, 0, none⟩)), (6, .pointer (some ⟨s, 0, none⟩)), (8, .slice B8 5 c8), (9, .int .i64 (ls : Nat)), (10, .int .i64 (i : Nat)), (49, .int .i64 (i : Nat)), (50, .bool true), (11, .slice BL l.length cl), (62, .slice B8 5 c8)]) hF126 (by kernel_rfl) hr129 ?_
        intro a133 hF134
        clear hF126 hr129
        clear hS122 hS127
        have hS135 : Sat w128 (rowA pageT 41 B131 cap132 (vl.map pageOf) :: slA leafT (.slice BL l.length cl) l :: slA intT (.slice B103 x97.1.length cp104) x97.1 :: immC b99 (off100 + i * 2) [.slice B103 x97.1.length cp104, .int .u8 x97.2] :: raw b4 (.cells #[.slice A0 p0.length c0, .slice A1 p1.length c1] 24 (0, 0)) :: slA groupT (.slice AG gs.length cg) gs :: slA intT (.slice A0 p0.length c0) p0 :: slA intT (.slice A1 p1.length c1) p1 :: rowA pageT 41 B8 c8 (vl.map pageOf) :: storeA s ⟨d, 0, 3, vl.map pageOf, lf, false⟩ :: plateA d pl :: L) := hS130
        refine batch_spec (is := [3]) (rest := []) (live := [3, 0, 4, 5, 6, 8, 9, 10, 49, 50, 11, 12]) (e' := [(3, .pointer (some ⟨b4, 0, none⟩)), (0, .slice AG gs.length cg), (4, .bool false), (5, .pointer (some ⟨d, 0, none⟩)), (6, .pointer (some ⟨s, 0, none⟩)), (8, .slice B8 5 c8), (9, .int .i64 (ls : Nat)), (10, .int .i64 (i : Nat)), (49, .int .i64 (i : Nat)), (50, .bool true), (11, .slice BL l.length cl), (12, .slice B131 5 cap132)]) (vs := []) (obs := []) hF134 (by kernel_rfl) .nil ?_
        intro a136 hF137
        clear hF134
        refine ops_done ?_
        refine nrm_then ?_
        refine wp_seq ?_
        refine wp_seq ?_
        refine reg_text (l := [0]) (by kernel_rfl) ?_
        refine batch_spec (is := [0]) (rest := []) (live := [3, 0, 4, 5, 6, 8, 9, 10, 49, 50, 11, 12, 13]) (e' := [(3, .pointer (some ⟨b4, 0, none⟩)), (0, .slice AG gs.length cg), (4, .bool false), (5, .pointer (some ⟨d, 0, none⟩)), (6, .pointer (some ⟨s, 0, none⟩)), (8, .slice B8 5 c8), (9, .int .i64 (ls : Nat)), (10, .int .i64 (i : Nat)), (49, .int .i64 (i : Nat)), (50, .bool true), (11, .slice BL l.length cl), (12, .slice B131 5 cap132), (13, .int .i64 0)]) (vs := []) (obs := []) hF137 (by kernel_rfl) .nil ?_
        intro a138 hF139
        clear hF137
        refine ops_done ?_
        refine nrm_then ?_
        refine wp_block ?_
        have hS140 : Sat w128 (raw b4 (.cells #[.slice A0 p0.length c0, .slice A1 p1.length c1] 24 (0, 0)) :: slA groupT (.slice AG gs.length cg) gs :: slA intT (.slice A0 p0.length c0) p0 :: slA intT (.slice A1 p1.length c1) p1 :: slA leafT (.slice BL l.length cl) l :: rowA pageT 41 B8 c8 (vl.map pageOf) :: rowA pageT 41 B131 cap132 (vl.map pageOf) :: storeA s ⟨d, 0, 3, vl.map pageOf, lf, false⟩ :: plateA d pl :: slA intT (.slice B103 x97.1.length cp104) x97.1 :: immC b99 (off100 + i * 2) [.slice B103 x97.1.length cp104, .int .u8 x97.2] :: L) := (Sat_at (Sat_at (Sat_at (Sat_at (Sat_at (Sat_at (Sat_at (Sat_at (Sat_at hS135 10 rfl rfl) 10 rfl rfl) 2 rfl rfl) 10 rfl rfl) 4 rfl rfl) 10 rfl rfl) 10 rfl rfl) 10 rfl rfl) 10 rfl rfl)
        refine loop_g (fun μ α ω => ∃ k : Nat, μ = l.length - k ∧ (k ≤ l.length) ∧ Fits α 201 [(3, .pointer (some ⟨b4, 0, none⟩)), (0, .slice AG gs.length cg), (4, .bool false), (5, .pointer (some ⟨d, 0, none⟩)), (6, .pointer (some ⟨s, 0, none⟩)), (8, .slice B8 5 c8), (9, .int .i64 (ls : Nat)), (10, .int .i64 (i : Nat)), (11, .slice BL l.length cl), (12, .slice B131 5 cap132), (13, .int .i64 (k : Nat))] ∧ Sat ω (raw b4 (.cells #[.slice A0 p0.length c0, .slice A1 p1.length c1] 24 (0, 0)) :: slA groupT (.slice AG gs.length cg) gs :: slA intT (.slice A0 p0.length c0) p0 :: slA intT (.slice A1 p1.length c1) p1 :: slA leafT (.slice BL l.length cl) l :: rowA pageT 41 B8 c8 (vl.map pageOf) :: rowA pageT 41 B131 cap132 (setPages (vl.map pageOf) l k) :: storeA s ⟨d, 0, 3, vl.map pageOf, lf, false⟩ :: plateA d pl :: L)) _ ⟨0, rfl, (Nat.zero_le _), (Fits.restr (r := [(3, .pointer (some ⟨b4, 0, none⟩)), (0, .slice AG gs.length cg), (4, .bool false), (5, .pointer (some ⟨d, 0, none⟩)), (6, .pointer (some ⟨s, 0, none⟩)), (8, .slice B8 5 c8), (9, .int .i64 (ls : Nat)), (10, .int .i64 (i : Nat)), (11, .slice BL l.length cl), (12, .slice B131 5 cap132), (13, .int .i64 0)]) hF139 (ks := [3, 0, 4, 5, 6, 8, 9, 10, 11, 12, 13]) (by kernel_rfl)).cast (by rfl), ((Sat_at (Sat_at hS140 10 rfl rfl).drop 9 rfl rfl).drop)⟩ ?_
        rintro m141 a142 w143 ⟨k, rfl, hkl, hF144, hS145⟩
        clear hF139
        clear hS130 hS135 hS140
        refine wp_seq ?_
        refine wp_seq ?_
        refine reg_text (l := [0, 1, 2, 3]) (by kernel_rfl) ?_
        refine batch_spec (is := [0, 1, 2, 3]) (rest := []) (live := [3, 0, 4, 5, 6, 8, 9, 10, 11, 12, 13, 67]) (e' := [(3, .pointer (some ⟨b4, 0, none⟩)), (0, .slice AG gs.length cg), (4, .bool false), (5, .pointer (some ⟨d, 0, none⟩)), (6, .pointer (some ⟨s, 0, none⟩)), (8, .slice B8 5 c8), (9, .int .i64 (ls : Nat)), (10, .int .i64 (i : Nat)), (11, .slice BL l.length cl), (12, .slice B131 5 cap132), (13, .int .i64 (k : Nat)), (67, .bool (decide (((k : Nat) : Int) < ((l.length : Nat) : Int))))]) (vs := []) (obs := []) hF144 (by kernel_rfl) .nil ?_
        intro a146 hF147
        clear hF144
        refine ops_done ?_
        refine nrm_then ?_
        by_cases h148 : ((k : Nat) : Int) < ((l.length : Nat) : Int)
        ·
          have hb149 : (decide (((k : Nat) : Int) < ((l.length : Nat) : Int))) = true := decide_eq_true h148
          rw [hb149] at hF147
          refine cond_yes hF147 rfl ?_
          refine wp_skip ?_
          refine nrm_then ?_
          refine wp_seq ?_
          refine wp_block ?_
          obtain ⟨x150, hx151⟩ : ∃ χ, l[k]? = some χ := ⟨_, List.getElem?_eq_getElem (by omega)⟩
          have hx5152 : x150.1 < 5 := (leaf_okay hbt hx151).2.1
          have hsl : (setPages (vl.map pageOf) l k).length = 5 := by rw [setPages_len, List.length_map]; exact hF.stab.len
          refine reg_drawn (fun j => match j with | 3 => [1, 2] | 4 => [1, 2, 3] | 5 => [1, 2, 3, 4] | 8 => [6, 7] | 9 => [6, 7, 8] | 10 => [6, 7, 8, 9] | 11 => [0, 1, 2, 3, 4, 5, 6, 7, 8, 9, 10] | 12 => [0, 1, 2, 3, 4, 5, 6, 7, 8, 9, 10, 11] | _ => []) hS145 (by kernel_rfl) (by kernel_rfl) (by kernel_rfl) (fun c a d v w h => by cases d <;> exact h) ?_
          intro w153 hS154 hw155
          clear hS145
          refine batchD_spec (is := [0, 1, 2, 6, 7]) (dn := []) (dn' := [0, 1, 2, 6, 7]) (live := [3, 0, 4, 5, 6, 8, 9, 10, 11, 12, 13, 70, 71, 72, 76, 77]) (e' := [(3, .pointer (some ⟨b4, 0, none⟩)), (0, .slice AG gs.length cg), (4, .bool false), (5, .pointer (some ⟨d, 0, none⟩)), (6, .pointer (some ⟨s, 0, none⟩)), (8, .slice B8 5 c8), (9, .int .i64 (ls : Nat)), (10, .int .i64 (i : Nat)), (11, .slice BL l.length cl), (12, .slice B131 5 cap132), (13, .int .i64 (k : Nat)), (70, .slice B131 5 cap132), (71, .slice BL l.length cl), (72, .int .i64 (k : Nat)), (76, .slice BL l.length cl), (77, .int .i64 (k : Nat))]) (vs := []) (obs := []) (pd' := []) hF147 (by kernel_rfl) .nil rfl ?_
          intro a156 hF157
          clear hF147
          obtain ⟨b158, off159, B162, cp163, heq160, hS161⟩ := leaf_el hS154 4 rfl hx151
          have hS164 : Sat w153 (immC b158 (off159 + k * 3) [.int .i64 (x150.1 : Nat), .int .i64 (x150.2.1 : Nat), .slice B162 x150.2.2.length cp163] :: slA slotT (.slice B162 x150.2.2.length cp163) x150.2.2 :: raw b4 (.cells #[.slice A0 p0.length c0, .slice A1 p1.length c1] 24 (0, 0)) :: slA groupT (.slice AG gs.length cg) gs :: slA intT (.slice A0 p0.length c0) p0 :: slA intT (.slice A1 p1.length c1) p1 :: slA leafT (.slice BL l.length cl) l :: rowA pageT 41 B8 c8 (vl.map pageOf) :: rowA pageT 41 B131 cap132 (setPages (vl.map pageOf) l k) :: storeA s ⟨d, 0, 3, vl.map pageOf, lf, false⟩ :: plateA d pl :: L) := hS161
          refine wpD_one (i := 3) (u := .pointer (some ⟨b158, off159 + k * 3, none⟩)) (v := .indexAddr 35 (.slice BL l.length cl) (.int .i64 (k : Nat))) (e' := [(73, .pointer (some ⟨b158, off159 + k * 3, none⟩)), (3, .pointer (some ⟨b4, 0, none⟩)), (0, .slice AG gs.length cg), (4, .bool false), (5, .pointer (some ⟨d, 0, none⟩)), (6, .pointer (some ⟨s, 0, none⟩)), (8, .slice B8 5 c8), (9, .int .i64 (ls : Nat)), (10, .int .i64 (i : Nat)), (11, .slice BL l.length cl), (12, .slice B131 5 cap132), (13, .int .i64 (k : Nat)), (70, .slice B131 5 cap132), (71, .slice BL l.length cl), (72, .int .i64 (k : Nat)), (76, .slice BL l.length cl), (77, .int .i64 (k : Nat))]) (obs := []) (dn' := [0, 1, 2, 6, 7, 3]) hF157 (by kernel_rfl) (by kernel_rfl) rfl (fun w _ => (run_indexAddrA (el := 43) (sz := 3) (off := off159) (k := k) heq160 Tryd.underlying35 (by kernel_rfl) (by rfl) (by omega)) w) .nil ?_
          refine fun a165 hF166 => wpD_filter ?_
          show wpD _ _ _ _ [] _ _ _
          clear hF157
          refine batchD_spec (is := [4, 5]) (dn := [0, 1, 2, 6, 7, 3]) (dn' := [0, 1, 2, 6, 7, 3, 4, 5]) (live := [3, 0, 4, 5, 6, 8, 9, 10, 11, 12, 13, 70, 76, 77, 75]) (e' := [(3, .pointer (some ⟨b4, 0, none⟩)), (0, .slice AG gs.length cg), (4, .bool false), (5, .pointer (some ⟨d, 0, none⟩)), (6, .pointer (some ⟨s, 0, none⟩)), (8, .slice B8 5 c8), (9, .int .i64 (ls : Nat)), (10, .int .i64 (i : Nat)), (11, .slice BL l.length cl), (12, .slice B131 5 cap132), (13, .int .i64 (k : Nat)), (70, .slice B131 5 cap132), (76, .slice BL l.length cl), (77, .int .i64 (k : Nat)), (75, .int .i64 (x150.1 : Nat))]) (vs := [.int .i64 (x150.1 : Nat)]) (obs := [(⟨b158, off159 + k * 3, none⟩, .int .i64 (x150.1 : Nat))]) (pd' := [(5, [(⟨b158, off159 + k * 3, none⟩, .int .i64 (x150.1 : Nat))])]) hF166 (by kernel_rfl) (.cons (obC hS164 0 (off := off159 + k * 3) (j := 0) rfl rfl) .nil) rfl ?_
          intro a167 hF168
          clear hF166
          refine wpD_one (i := 8) (u := .pointer (some ⟨b158, off159 + k * 3, none⟩)) (v := .indexAddr 35 (.slice BL l.length cl) (.int .i64 (k : Nat))) (e' := [(78, .pointer (some ⟨b158, off159 + k * 3, none⟩)), (3, .pointer (some ⟨b4, 0, none⟩)), (0, .slice AG gs.length cg), (4, .bool false), (5, .pointer (some ⟨d, 0, none⟩)), (6, .pointer (some ⟨s, 0, none⟩)), (8, .slice B8 5 c8), (9, .int .i64 (ls : Nat)), (10, .int .i64 (i : Nat)), (11, .slice BL l.length cl), (12, .slice B131 5 cap132), (13, .int .i64 (k : Nat)), (70, .slice B131 5 cap132), (76, .slice BL l.length cl), (77, .int .i64 (k : Nat)), (75, .int .i64 (x150.1 : Nat))]) (obs := []) (dn' := [0, 1, 2, 6, 7, 3, 4, 5, 8]) hF168 (by kernel_rfl) (by kernel_rfl) rfl (fun w _ => (run_indexAddrA (el := 43) (sz := 3) (off := off159) (k := k) heq160 Tryd.underlying35 (by kernel_rfl) (by rfl) (by omega)) w) .nil ?_
          refine fun a169 hF170 => wpD_filter ?_
          show wpD _ _ _ _ [(5, [(⟨b158, off159 + k * 3, none⟩, .int .i64 (x150.1 : Nat))])] _ _ _
          clear hF168
          refine batchD_spec (is := [9, 10]) (dn := [0, 1, 2, 6, 7, 3, 4, 5, 8]) (dn' := [0, 1, 2, 6, 7, 3, 4, 5, 8, 9, 10]) (live := [3, 0, 4, 5, 6, 8, 9, 10, 11, 12, 13, 70, 75, 80]) (e' := [(3, .pointer (some ⟨b4, 0, none⟩)), (0, .slice AG gs.length cg), (4, .bool false), (5, .pointer (some ⟨d, 0, none⟩)), (6, .pointer (some ⟨s, 0, none⟩)), (8, .slice B8 5 c8), (9, .int .i64 (ls : Nat)), (10, .int .i64 (i : Nat)), (11, .slice BL l.length cl), (12, .slice B131 5 cap132), (13, .int .i64 (k : Nat)), (70, .slice B131 5 cap132), (75, .int .i64 (x150.1 : Nat)), (80, .agg #[.int .i64 (x150.2.1 : Nat), .slice B162 x150.2.2.length cp163])]) (vs := [.int .i64 (x150.2.1 : Nat), .slice B162 x150.2.2.length cp163]) (obs := [(⟨b158, off159 + k * 3 + 1, none⟩, .int .i64 (x150.2.1 : Nat)), (⟨b158, off159 + k * 3 + 2, none⟩, .slice B162 x150.2.2.length cp163)]) (pd' := [(10, [(⟨b158, off159 + k * 3 + 1, none⟩, .int .i64 (x150.2.1 : Nat)), (⟨b158, off159 + k * 3 + 2, none⟩, .slice B162 x150.2.2.length cp163)]), (5, [(⟨b158, off159 + k * 3, none⟩, .int .i64 (x150.1 : Nat))])]) hF170 (by kernel_rfl) (.cons (obC hS164 0 (off := off159 + k * 3) (j := 1) rfl rfl) (.cons (obC hS164 0 (off := off159 + k * 3) (j := 2) rfl rfl) .nil)) rfl ?_
          intro a171 hF172
          clear hF170
          obtain ⟨b173, heq174⟩ := row_addr (k := x150.1) hS164 8 rfl (by omega)
          obtain ⟨x175, hx176⟩ : ∃ χ, (setPages (vl.map pageOf) l k)[x150.1]? = some χ := ⟨_, List.getElem?_eq_getElem (by omega)⟩
          obtain ⟨B177, cp178, hc179, hc180, hS181⟩ := page_row heq174 hS164 8 rfl hx176
          have hS182 : Sat w153 (slA slotT (.slice B177 x175.slots.length cp178) x175.slots :: immC b158 (off159 + k * 3) [.int .i64 (x150.1 : Nat), .int .i64 (x150.2.1 : Nat), .slice B162 x150.2.2.length cp163] :: slA slotT (.slice B162 x150.2.2.length cp163) x150.2.2 :: raw b4 (.cells #[.slice A0 p0.length c0, .slice A1 p1.length c1] 24 (0, 0)) :: slA groupT (.slice AG gs.length cg) gs :: slA intT (.slice A0 p0.length c0) p0 :: slA intT (.slice A1 p1.length c1) p1 :: slA leafT (.slice BL l.length cl) l :: rowA pageT 41 B8 c8 (vl.map pageOf) :: rowA pageT 41 B131 cap132 (setPages (vl.map pageOf) l k) :: storeA s ⟨d, 0, 3, vl.map pageOf, lf, false⟩ :: plateA d pl :: L) := hS181
          refine wpD_one (i := 11) (u := .pointer (some ⟨b173, 0 + x150.1 * 2, none⟩)) (v := .indexAddr 32 (.slice B131 5 cap132) (.int .i64 (x150.1 : Nat))) (e' := [(81, .pointer (some ⟨b173, 0 + x150.1 * 2, none⟩)), (3, .pointer (some ⟨b4, 0, none⟩)), (0, .slice AG gs.length cg), (4, .bool false), (5, .pointer (some ⟨d, 0, none⟩)), (6, .pointer (some ⟨s, 0, none⟩)), (8, .slice B8 5 c8), (9, .int .i64 (ls : Nat)), (10, .int .i64 (i : Nat)), (11, .slice BL l.length cl), (12, .slice B131 5 cap132), (13, .int .i64 (k : Nat)), (70, .slice B131 5 cap132), (75, .int .i64 (x150.1 : Nat)), (80, .agg #[.int .i64 (x150.2.1 : Nat), .slice B162 x150.2.2.length cp163])]) (obs := []) (dn' := [0, 1, 2, 6, 7, 3, 4, 5, 8, 9, 10, 11]) hF172 (by kernel_rfl) (by kernel_rfl) rfl (fun w _ => (run_indexAddrA (el := 41) (sz := 2) (off := 0) (k := x150.1) heq174 Tryd.underlying32 (by kernel_rfl) (by rfl) (by omega)) w) .nil ?_
          refine fun a183 hF184 => wpD_filter ?_
          show wpD _ _ _ _ [(10, [(⟨b158, off159 + k * 3 + 1, none⟩, .int .i64 (x150.2.1 : Nat)), (⟨b158, off159 + k * 3 + 2, none⟩, .slice B162 x150.2.2.length cp163)]), (5, [(⟨b158, off159 + k * 3, none⟩, .int .i64 (x150.1 : Nat))])] _ _ _
          clear hF172
          refine wpD_next (i := 12) (pd' := []) (dn' := [0, 1, 2, 6, 7, 3, 4, 5, 8, 9, 10, 11, 12]) (by kernel_rfl) rfl (by kernel_rfl) ?_
          obtain ⟨w185, hr186, hS187⟩ := comes_rowSetA (P := Tryd.prog) (T := pageT) (t' := 41) (k := x150.1) (o := 0 + x150.1 * 2) (x := (⟨(x150.2.1 : Nat), x150.2.2⟩ : Page)) (v := .agg #[.int .i64 (x150.2.1 : Nat), .slice B162 x150.2.2.length cp163]) (vs := [.int .i64 (x150.2.1 : Nat), .slice B162 x150.2.2.length cp163]) heq174 hS182 9 rfl rfl rfl (by kernel_rfl) (by omega) (Nat.zero_add _) (fun h => Sat_out 2 h rfl (fun g hg => Cells.single ⟨_, rfl, hg⟩))
          refine op_value (u := undef) (e' := [(81, .pointer (some ⟨b173, 0 + x150.1 * 2, none⟩)), (3, .pointer (some ⟨b4, 0, none⟩)), (0, .slice AG gs.length cg), (4, .bool false), (5, .pointer (some ⟨d, 0, none⟩)), (6, .pointer (some ⟨s, 0, none⟩)), (8, .slice B8 5 c8), (9, .int .i64 (ls : Nat)), (10, .int .i64 (i : Nat)), (11, .slice BL l.length cl), (12, .slice B131 5 cap132), (13, .int .i64 (k : Nat)), (70, .slice B131 5 cap132), (75, .int .i64 (x150.1 : Nat)), (80, .agg #[.int .i64 (x150.2.1 : Nat), .slice B162 x150.2.2.length cp163])]) hF184 (by kernel_rfl) hr186 ?_
          intro a188 hF189
          clear hF184 hr186
          clear hS154 hS161 hS164 hS181 hS182
          have hS190 : Sat w185 (rowA pageT 41 B131 cap132 ((setPages (vl.map pageOf) l k).set x150.1 (⟨(x150.2.1 : Nat), x150.2.2⟩ : Page)) :: slA slotT (.slice B177 x175.slots.length cp178) x175.slots :: immC b158 (off159 + k * 3) [.int .i64 (x150.1 : Nat), .int .i64 (x150.2.1 : Nat), .slice B162 x150.2.2.length cp163] :: slA slotT (.slice B162 x150.2.2.length cp163) x150.2.2 :: raw b4 (.cells #[.slice A0 p0.length c0, .slice A1 p1.length c1] 24 (0, 0)) :: slA groupT (.slice AG gs.length cg) gs :: slA intT (.slice A0 p0.length c0) p0 :: slA intT (.slice A1 p1.length c1) p1 :: slA leafT (.slice BL l.length cl) l :: rowA pageT 41 B8 c8 (vl.map pageOf) :: storeA s ⟨d, 0, 3, vl.map pageOf, lf, false⟩ :: plateA d pl :: L) := hS187
          refine ⟨.nil, ?_⟩
          refine wpD_done (by kernel_rfl) ?_
          refine nrm_block ?_
          refine nrm_then ?_
          refine reg_text (l := [0, 1, 2]) (by kernel_rfl) ?_
          refine batch_spec (is := [0, 1]) (rest := [2]) (live := [3, 0, 4, 5, 6, 8, 9, 10, 11, 12, 69]) (e' := [(3, .pointer (some ⟨b4, 0, none⟩)), (0, .slice AG gs.length cg), (4, .bool false), (5, .pointer (some ⟨d, 0, none⟩)), (6, .pointer (some ⟨s, 0, none⟩)), (8, .slice B8 5 c8), (9, .int .i64 (ls : Nat)), (10, .int .i64 (i : Nat)), (11, .slice BL l.length cl), (12, .slice B131 5 cap132), (69, .int .i64 (IntKind.i64.wrap (((k : Nat) : Int) + 1)))]) (vs := []) (obs := []) hF189 (by kernel_rfl) .nil ?_
          intro a191 hF192
          clear hF189
          have hw193 : IntKind.i64.wrap (((k : Nat) : Int) + 1) = ((k + 1 : Nat) : Int) := by rw [wrap_i64 (by omega) (by omega)]; omega
          rw [hw193] at hF192
          refine batch_spec (is := [2]) (rest := []) (live := [3, 0, 4, 5, 6, 8, 9, 10, 11, 12, 13]) (e' := [(3, .pointer (some ⟨b4, 0, none⟩)), (0, .slice AG gs.length cg), (4, .bool false), (5, .pointer (some ⟨d, 0, none⟩)), (6, .pointer (some ⟨s, 0, none⟩)), (8, .slice B8 5 c8), (9, .int .i64 (ls : Nat)), (10, .int .i64 (i : Nat)), (11, .slice BL l.length cl), (12, .slice B131 5 cap132), (13, .int .i64 (k + 1 : Nat))]) (vs := []) (obs := []) hF192 (by kernel_rfl) .nil ?_
          intro a194 hF195
          clear hF192
          refine ops_done ?_
          have hS196 : Sat w185 (raw b4 (.cells #[.slice A0 p0.length c0, .slice A1 p1.length c1] 24 (0, 0)) :: slA groupT (.slice AG gs.length cg) gs :: slA intT (.slice A0 p0.length c0) p0 :: slA intT (.slice A1 p1.length c1) p1 :: slA leafT (.slice BL l.length cl) l :: rowA pageT 41 B8 c8 (vl.map pageOf) :: rowA pageT 41 B131 cap132 ((setPages (vl.map pageOf) l k).set x150.1 (⟨(x150.2.1 : Nat), x150.2.2⟩ : Page)) :: storeA s ⟨d, 0, 3, vl.map pageOf, lf, false⟩ :: plateA d pl :: slA slotT (.slice B177 x175.slots.length cp178) x175.slots :: immC b158 (off159 + k * 3) [.int .i64 (x150.1 : Nat), .int .i64 (x150.2.1 : Nat), .slice B162 x150.2.2.length cp163] :: slA slotT (.slice B162 x150.2.2.length cp163) x150.2.2 :: L) := (Sat_at (Sat_at (Sat_at (Sat_at (Sat_at (Sat_at (Sat_at (Sat_at (Sat_at hS190 11 rfl rfl) 11 rfl rfl) 2 rfl rfl) 11 rfl rfl) 11 rfl rfl) 11 rfl rfl) 11 rfl rfl) 11 rfl rfl) 11 rfl rfl)
          refine nrm_then ⟨_, ?_, k + 1, rfl, (by omega), (Fits.restr (r := [(3, .pointer (some ⟨b4, 0, none⟩)), (0, .slice AG gs.length cg), (4, .bool false), (5, .pointer (some ⟨d, 0, none⟩)), (6, .pointer (some ⟨s, 0, none⟩)), (8, .slice B8 5 c8), (9, .int .i64 (ls : Nat)), (10, .int .i64 (i : Nat)), (11, .slice BL l.length cl), (12, .slice B131 5 cap132), (13, .int .i64 (k + 1 : Nat))]) hF195 (ks := [3, 0, 4, 5, 6, 8, 9, 10, 11, 12, 13]) (by kernel_rfl)).cast (by rfl), (by rw [setPages_succ hx151]; exact (Sat_at (Sat_at (Sat_at hS196 11 rfl rfl).drop 10 rfl rfl).drop 9 rfl rfl).drop)⟩
          omega
        ·
          have hb197 : (decide (((k : Nat) : Int) < ((l.length : Nat) : Int))) = false := decide_eq_false h148
          rw [hb197] at hF147
          refine cond_no hF147 rfl ?_
          refine wp_exit ?_
          refine exit_then ?_
          refine exit_then ?_
          refine exit_block ?_
          refine nrm_then ?_
          refine wp_seq ?_
          refine reg_text (l := [0, 1, 2, 3]) (by kernel_rfl) ?_
          refine batch_spec (is := [0, 1]) (rest := [2, 3]) (live := [3, 0, 4, 5, 6, 8, 9, 10, 12, 82, 83]) (e' := [(3, .pointer (some ⟨b4, 0, none⟩)), (0, .slice AG gs.length cg), (4, .bool false), (5, .pointer (some ⟨d, 0, none⟩)), (6, .pointer (some ⟨s, 0, none⟩)), (8, .slice B8 5 c8), (9, .int .i64 (ls : Nat)), (10, .int .i64 (i : Nat)), (12, .slice B131 5 cap132), (82, .pointer (some ⟨s, 0, none⟩)), (83, .slice BL l.length cl)]) (vs := []) (obs := []) hF147 (by kernel_rfl) .nil ?_
          intro a198 hF199
          clear hF147
          refine ops_next ?_
          have hS200 : Sat w143 (slA leafT (.slice BL l.length cl) l :: storeA s ⟨d, 0, 3, vl.map pageOf, lf, false⟩ :: plateA d pl :: raw b4 (.cells #[.slice A0 p0.length c0, .slice A1 p1.length c1] 24 (0, 0)) :: slA groupT (.slice AG gs.length cg) gs :: slA intT (.slice A0 p0.length c0) p0 :: slA intT (.slice A1 p1.length c1) p1 :: rowA pageT 41 B8 c8 (vl.map pageOf) :: rowA pageT 41 B131 cap132 (setPages (vl.map pageOf) l k) :: L) := (Sat_at (Sat_at (Sat_at hS145 8 rfl rfl) 8 rfl rfl) 6 rfl rfl)
          refine op_call (fn := 9) (first := #[]) (cap := #[]) (args := #[.pointer (some ⟨s, 0, none⟩), .slice BL l.length cl]) (all := #[.pointer (some ⟨s, 0, none⟩), .slice BL l.length cl]) (pe := fun u => [(84, u), (3, .pointer (some ⟨b4, 0, none⟩)), (0, .slice AG gs.length cg), (4, .bool false), (5, .pointer (some ⟨d, 0, none⟩)), (6, .pointer (some ⟨s, 0, none⟩)), (8, .slice B8 5 c8), (9, .int .i64 (ls : Nat)), (10, .int .i64 (i : Nat)), (12, .slice B131 5 cap132), (82, .pointer (some ⟨s, 0, none⟩)), (83, .slice BL l.length cl)]) hF199 (fun u => by kernel_rfl) (by kernel_rfl) (by kernel_rfl) (write_law16 hF hlf hbt hS200) ?_
          rintro u w203 a201 (⟨rfl, pl2, hw2, hS204⟩ | ⟨rfl, pl2, Pb, hLo, hS204⟩) hF202
          ·
            clear hF199
            clear hS145 hS200
            have hS205 : Sat w203 (storeA s ⟨d, 0, 3, (newL vl l).map pageOf, lf, false⟩ :: plateA d pl2 :: raw b4 (.cells #[.slice A0 p0.length c0, .slice A1 p1.length c1] 24 (0, 0)) :: slA groupT (.slice AG gs.length cg) gs :: slA intT (.slice A0 p0.length c0) p0 :: slA intT (.slice A1 p1.length c1) p1 :: rowA pageT 41 B8 c8 (vl.map pageOf) :: rowA pageT 41 B131 cap132 (setPages (vl.map pageOf) l k) :: L) := hS204
            refine batch_spec (is := [3]) (rest := []) (live := [3, 0, 4, 5, 6, 8, 9, 10, 12, 7]) (e' := [(3, .pointer (some ⟨b4, 0, none⟩)), (0, .slice AG gs.length cg), (4, .bool false), (5, .pointer (some ⟨d, 0, none⟩)), (6, .pointer (some ⟨s, 0, none⟩)), (8, .slice B8 5 c8), (9, .int .i64 (ls : Nat)), (10, .int .i64 (i : Nat)), (12, .slice B131 5 cap132), (7, .int .i64 0)]) (vs := []) (obs := []) hF202 (by kernel_rfl) .nil ?_
            intro a206 hF207
            clear hF202
            refine ops_done ?_
            refine nrm_then ?_
            refine wp_seq ?_
            refine wp_seq ?_
            refine reg_text (l := [0, 1]) (by kernel_rfl) ?_
            refine batch_spec (is := [0, 1]) (rest := []) (live := [3, 0, 4, 5, 6, 8, 9, 10, 12, 7, 86]) (e' := [(3, .pointer (some ⟨b4, 0, none⟩)), (0, .slice AG gs.length cg), (4, .bool false), (5, .pointer (some ⟨d, 0, none⟩)), (6, .pointer (some ⟨s, 0, none⟩)), (8, .slice B8 5 c8), (9, .int .i64 (ls : Nat)), (10, .int .i64 (i : Nat)), (12, .slice B131 5 cap132), (7, .int .i64 0), (86, .bool true)]) (vs := []) (obs := []) hF207 (by kernel_rfl) .nil ?_
            intro a208 hF209
            clear hF207
            refine ops_done ?_
            refine nrm_then ?_
            refine cond_yes hF209 rfl ?_
            refine wp_seq ?_
            refine reg_text (l := [0, 1]) (by kernel_rfl) ?_
            refine batch_spec (is := [0, 1]) (rest := []) (live := [3, 0, 4, 5, 6, 8, 9, 10, 12, 7]) (e' := [(3, .pointer (some ⟨b4, 0, none⟩)), (0, .slice AG gs.length cg), (4, .bool false), (5, .pointer (some ⟨d, 0, none⟩)), (6, .pointer (some ⟨s, 0, none⟩)), (8, .slice B131 5 cap132), (9, .int .i64 (ls : Nat)), (10, .int .i64 (i : Nat)), (12, .slice B131 5 cap132), (7, .int .i64 0)]) (vs := []) (obs := []) hF209 (by kernel_rfl) .nil ?_
            intro a210 hF211
            clear hF209
            refine ops_done ?_
            refine nrm_then ?_
            refine wp_exit ?_
            refine exit_then ?_
            refine exit_block ?_
            refine nrm_then ?_
            refine reg_text (l := [0, 1, 2]) (by kernel_rfl) ?_
            refine batch_spec (is := [0, 1]) (rest := [2]) (live := [3, 0, 4, 5, 6, 8, 9, 53]) (e' := [(3, .pointer (some ⟨b4, 0, none⟩)), (0, .slice AG gs.length cg), (4, .bool false), (5, .pointer (some ⟨d, 0, none⟩)), (6, .pointer (some ⟨s, 0, none⟩)), (8, .slice B131 5 cap132), (9, .int .i64 (ls : Nat)), (53, .int .i64 (IntKind.i64.wrap (((i : Nat) : Int) + 1)))]) (vs := []) (obs := []) hF211 (by kernel_rfl) .nil ?_
            intro a212 hF213
            clear hF211
            have hw214 : IntKind.i64.wrap (((i : Nat) : Int) + 1) = ((i + 1 : Nat) : Int) := by rw [wrap_i64 (by omega) (by omega)]; omega
            rw [hw214] at hF213
            refine batch_spec (is := [2]) (rest := []) (live := [3, 0, 4, 5, 6, 8, 9, 10]) (e' := [(3, .pointer (some ⟨b4, 0, none⟩)), (0, .slice AG gs.length cg), (4, .bool false), (5, .pointer (some ⟨d, 0, none⟩)), (6, .pointer (some ⟨s, 0, none⟩)), (8, .slice B131 5 cap132), (9, .int .i64 (ls : Nat)), (10, .int .i64 (i + 1 : Nat))]) (vs := []) (obs := []) hF213 (by kernel_rfl) .nil ?_
            intro a215 hF216
            clear hF213
            refine ops_done ?_
            have hS217 : Sat w203 (raw b4 (.cells #[.slice A0 p0.length c0, .slice A1 p1.length c1] 24 (0, 0)) :: slA groupT (.slice AG gs.length cg) gs :: slA intT (.slice A0 p0.length c0) p0 :: slA intT (.slice A1 p1.length c1) p1 :: rowA pageT 41 B131 cap132 (setPages (vl.map pageOf) l k) :: storeA s ⟨d, 0, 3, (newL vl l).map pageOf, lf, false⟩ :: plateA d pl2 :: rowA pageT 41 B8 c8 (vl.map pageOf) :: L) := (Sat_at (Sat_at (Sat_at (Sat_at (Sat_at (Sat_at (Sat_at hS205 1 rfl rfl) 1 rfl rfl) 7 rfl rfl) 6 rfl rfl) 6 rfl rfl) 6 rfl rfl) 6 rfl rfl)
            refine nrm_then ⟨_, ?_, i + 1, s, pl2, newL vl l, B131, cap132, ls, lf, rfl, (by omega), hw2.1, hw2.2, (by omega), (Fits.restr (r := [(3, .pointer (some ⟨b4, 0, none⟩)), (0, .slice AG gs.length cg), (4, .bool false), (5, .pointer (some ⟨d, 0, none⟩)), (6, .pointer (some ⟨s, 0, none⟩)), (8, .slice B131 5 cap132), (9, .int .i64 (ls : Nat)), (10, .int .i64 (i + 1 : Nat))]) hF216 (ks := [3, 0, 4, 5, 6, 8, 9, 10]) (by kernel_rfl)).cast (by rfl), (by have hq := setPages_new l vl; have hk0 : k = l.length := (by omega); subst hk0; rw [← hq]; rw [← hq] at hS217; exact (Sat_at hS217 7 rfl rfl).drop)⟩
            omega
          ·
            clear hF199
            clear hS145 hS200
            have hS218 : Sat w203 (plateA d pl2 :: raw b4 (.cells #[.slice A0 p0.length c0, .slice A1 p1.length c1] 24 (0, 0)) :: slA groupT (.slice AG gs.length cg) gs :: slA intT (.slice A0 p0.length c0) p0 :: slA intT (.slice A1 p1.length c1) p1 :: rowA pageT 41 B8 c8 (vl.map pageOf) :: rowA pageT 41 B131 cap132 (setPages (vl.map pageOf) l k) :: L) := hS204
            refine batch_spec (is := [3]) (rest := []) (live := [3, 0, 4, 5, 6, 8, 9, 10, 12, 7]) (e' := [(3, .pointer (some ⟨b4, 0, none⟩)), (0, .slice AG gs.length cg), (4, .bool false), (5, .pointer (some ⟨d, 0, none⟩)), (6, .pointer (some ⟨s, 0, none⟩)), (8, .slice B8 5 c8), (9, .int .i64 (ls : Nat)), (10, .int .i64 (i : Nat)), (12, .slice B131 5 cap132), (7, .int .i64 10)]) (vs := []) (obs := []) hF202 (by kernel_rfl) .nil ?_
            intro a219 hF220
            clear hF202
            refine ops_done ?_
            refine nrm_then ?_
            refine wp_seq ?_
            refine wp_seq ?_
            refine reg_text (l := [0, 1]) (by kernel_rfl) ?_
            refine batch_spec (is := [0, 1]) (rest := []) (live := [3, 0, 4, 5, 6, 8, 9, 10, 12, 7, 86]) (e' := [(3, .pointer (some ⟨b4, 0, none⟩)), (0, .slice AG gs.length cg), (4, .bool false), (5, .pointer (some ⟨d, 0, none⟩)), (6, .pointer (some ⟨s, 0, none⟩)), (8, .slice B8 5 c8), (9, .int .i64 (ls : Nat)), (10, .int .i64 (i : Nat)), (12, .slice B131 5 cap132), (7, .int .i64 10), (86, .bool false)]) (vs := []) (obs := []) hF220 (by kernel_rfl) .nil ?_
            intro a221 hF222
            clear hF220
            refine ops_done ?_
            refine nrm_then ?_
            refine cond_no hF222 rfl ?_
            refine wp_skip ?_
            refine nrm_then ?_
            refine wp_seq ?_
            refine wp_seq ?_
            refine reg_text (l := [0, 1]) (by kernel_rfl) ?_
            refine batch_spec (is := [0, 1]) (rest := []) (live := [3, 0, 4, 5, 6, 8, 9, 10, 12, 89]) (e' := [(3, .pointer (some ⟨b4, 0, none⟩)), (0, .slice AG gs.length cg), (4, .bool false), (5, .pointer (some ⟨d, 0, none⟩)), (6, .pointer (some ⟨s, 0, none⟩)), (8, .slice B8 5 c8), (9, .int .i64 (ls : Nat)), (10, .int .i64 (i : Nat)), (12, .slice B131 5 cap132), (89, .bool false)]) (vs := []) (obs := []) hF222 (by kernel_rfl) .nil ?_
            intro a223 hF224
            clear hF222
            refine ops_done ?_
            refine nrm_then ?_
            refine cond_no hF224 rfl ?_
            refine wp_skip ?_
            refine nrm_then ?_
            refine wp_seq ?_
            refine reg_text (l := [0, 1, 2, 3]) (by kernel_rfl) ?_
            refine batch_spec (is := [0, 1, 2]) (rest := [3]) (live := [3, 0, 4, 5, 6, 8, 9, 10, 12, 90, 92]) (e' := [(3, .pointer (some ⟨b4, 0, none⟩)), (0, .slice AG gs.length cg), (4, .bool false), (5, .pointer (some ⟨d, 0, none⟩)), (6, .pointer (some ⟨s, 0, none⟩)), (8, .slice B8 5 c8), (9, .int .i64 (ls : Nat)), (10, .int .i64 (i : Nat)), (12, .slice B131 5 cap132), (90, .pointer (some ⟨d, 0, none⟩)), (92, .slice A1 p1.length c1)]) (vs := [.slice A1 p1.length c1]) (obs := [(⟨b4, 1, none⟩, .slice A1 p1.length c1)]) hF224 (by kernel_rfl) (.cons (ob hS218 1 rfl rfl) .nil) ?_
            intro a225 hF226
            clear hF224
            refine ops_next ?_
            have hS227 : Sat w203 (plateA d pl2 :: slA intT (.slice A1 p1.length c1) p1 :: raw b4 (.cells #[.slice A0 p0.length c0, .slice A1 p1.length c1] 24 (0, 0)) :: slA groupT (.slice AG gs.length cg) gs :: slA intT (.slice A0 p0.length c0) p0 :: rowA pageT 41 B8 c8 (vl.map pageOf) :: rowA pageT 41 B131 cap132 (setPages (vl.map pageOf) l k) :: L) := (Sat_at (Sat_at hS218 4 rfl rfl) 1 rfl rfl)
            refine op_call (fn := 10) (first := #[]) (cap := #[]) (args := #[.pointer (some ⟨d, 0, none⟩), .slice A1 p1.length c1]) (all := #[.pointer (some ⟨d, 0, none⟩), .slice A1 p1.length c1]) (pe := fun u => [(93, u), (3, .pointer (some ⟨b4, 0, none⟩)), (0, .slice AG gs.length cg), (4, .bool false), (5, .pointer (some ⟨d, 0, none⟩)), (6, .pointer (some ⟨s, 0, none⟩)), (8, .slice B8 5 c8), (9, .int .i64 (ls : Nat)), (10, .int .i64 (i : Nat)), (12, .slice B131 5 cap132), (90, .pointer (some ⟨d, 0, none⟩)), (92, .slice A1 p1.length c1)]) hF226 (fun u => by kernel_rfl) (by kernel_rfl) (by kernel_rfl) (on_c hl1 (by have := hLo.que; omega) hS227) ?_
            rintro u w230 a228 ⟨rfl, hS231⟩ hF229
            clear hF226
            clear hS204 hS218 hS227
            have hS232 : Sat w230 (plateA d ((pl2).on p1) :: slA intT (.slice A1 p1.length c1) p1 :: raw b4 (.cells #[.slice A0 p0.length c0, .slice A1 p1.length c1] 24 (0, 0)) :: slA groupT (.slice AG gs.length cg) gs :: slA intT (.slice A0 p0.length c0) p0 :: rowA pageT 41 B8 c8 (vl.map pageOf) :: rowA pageT 41 B131 cap132 (setPages (vl.map pageOf) l k) :: L) := hS231
            obtain ⟨hBk, hz⟩ := on_back hLo p1
            refine ops_done ?_
            refine nrm_then ?_
            refine wp_seq ?_
            refine wp_block ?_
            have hk0 : k = l.length := by omega
            subst hk0
            have hS233 : Sat w230 (plateA d ((pl2).on p1) :: slA intT (.slice A1 p1.length c1) p1 :: raw b4 (.cells #[.slice A0 p0.length c0, .slice A1 p1.length c1] 24 (0, 0)) :: slA groupT (.slice AG gs.length cg) gs :: slA intT (.slice A0 p0.length c0) p0 :: rowA pageT 41 B8 c8 (vl.map pageOf) :: rowA pageT 41 B131 cap132 ((newL vl l).map pageOf) :: L) := by rw [← setPages_new l vl]; exact hS232
            have hS234 : Sat w230 (raw b4 (.cells #[.slice A0 p0.length c0, .slice A1 p1.length c1] 24 (0, 0)) :: slA groupT (.slice AG gs.length cg) gs :: slA intT (.slice A0 p0.length c0) p0 :: slA intT (.slice A1 p1.length c1) p1 :: rowA pageT 41 B8 c8 (vl.map pageOf) :: rowA pageT 41 B131 cap132 ((newL vl l).map pageOf) :: plateA d ((pl2).on p1) :: L) := (Sat_at (Sat_at (Sat_at (Sat_at (Sat_at (Sat_at (Sat_at hS233 0 rfl rfl) 6 rfl rfl) 6 rfl rfl) 3 rfl rfl) 6 rfl rfl) 6 rfl rfl) 6 rfl rfl)
            refine loop_g (fun μ α ω => ∃ ls2 : Nat, ∃ plk : PlateM, μ = 5 - ls2 ∧ (Back 0 3 5 (i + 1) 16 Pb plk vl (newL vl l)) ∧ (plk.armed = 0) ∧ (ls2 ≤ 5) ∧ Fits α 201 [(3, .pointer (some ⟨b4, 0, none⟩)), (0, .slice AG gs.length cg), (4, .bool false), (5, .pointer (some ⟨d, 0, none⟩)), (8, .slice B8 5 c8), (10, .int .i64 (i : Nat)), (12, .slice B131 5 cap132), (9, .int .i64 (ls2 : Nat))] ∧ Sat ω (raw b4 (.cells #[.slice A0 p0.length c0, .slice A1 p1.length c1] 24 (0, 0)) :: slA groupT (.slice AG gs.length cg) gs :: slA intT (.slice A0 p0.length c0) p0 :: slA intT (.slice A1 p1.length c1) p1 :: rowA pageT 41 B8 c8 (vl.map pageOf) :: rowA pageT 41 B131 cap132 ((newL vl l).map pageOf) :: plateA d plk :: L)) _ ⟨ls, (pl2).on p1, rfl, hBk, hz, hls, (Fits.restr (r := [(3, .pointer (some ⟨b4, 0, none⟩)), (0, .slice AG gs.length cg), (4, .bool false), (5, .pointer (some ⟨d, 0, none⟩)), (8, .slice B8 5 c8), (10, .int .i64 (i : Nat)), (12, .slice B131 5 cap132), (9, .int .i64 (ls : Nat))]) hF229 (ks := [3, 0, 4, 5, 8, 10, 12, 9]) (by kernel_rfl)).cast (by rfl), (hS234)⟩ ?_
            rintro m235 a236 w237 ⟨ls2, plk, rfl, hBk, hz, hl2, hF238, hS239⟩
            clear hF229
            clear hS231 hS232 hS233 hS234
            refine wp_seq ?_
            refine wp_seq ?_
            refine reg_text (l := [0, 1, 2, 3, 4, 5, 6, 7, 8]) (by kernel_rfl) ?_
            refine batch_spec (is := [0, 1, 2, 3, 4, 5]) (rest := [6, 7, 8]) (live := [3, 0, 4, 5, 8, 10, 12, 9, 99]) (e' := [(3, .pointer (some ⟨b4, 0, none⟩)), (0, .slice AG gs.length cg), (4, .bool false), (5, .pointer (some ⟨d, 0, none⟩)), (8, .slice B8 5 c8), (10, .int .i64 (i : Nat)), (12, .slice B131 5 cap132), (9, .int .i64 (ls2 : Nat)), (99, .bool (decide (((ls2 : Nat) : Int) < ((p0.length : Nat) : Int))))]) (vs := [.slice A0 p0.length c0]) (obs := [(⟨b4, 0, none⟩, .slice A0 p0.length c0)]) hF238 (by kernel_rfl) (.cons (ob hS239 0 rfl rfl) .nil) ?_
            intro a240 hF241
            clear hF238
            by_cases h242 : ((ls2 : Nat) : Int) < ((p0.length : Nat) : Int)
            ·
              have hb243 : (decide (((ls2 : Nat) : Int) < ((p0.length : Nat) : Int))) = true := decide_eq_true h242
              rw [hb243] at hF241
              refine batch_spec (is := [6, 7, 8]) (rest := []) (live := [3, 0, 4, 5, 8, 10, 12, 9, 100, 101, 102]) (e' := [(3, .pointer (some ⟨b4, 0, none⟩)), (0, .slice AG gs.length cg), (4, .bool false), (5, .pointer (some ⟨d, 0, none⟩)), (8, .slice B8 5 c8), (10, .int .i64 (i : Nat)), (12, .slice B131 5 cap132), (9, .int .i64 (ls2 : Nat)), (100, .int .i64 (ls2 : Nat)), (101, .bool (decide (((ls2 : Nat) : Int) < 5))), (102, .bool (decide (((ls2 : Nat) : Int) < 5)))]) (vs := []) (obs := []) hF241 (by kernel_rfl) .nil ?_
              intro a244 hF245
              clear hF241
              refine ops_done ?_
              refine nrm_then ?_
              by_cases h246 : ((ls2 : Nat) : Int) < 5
              ·
                have hb247 : (decide (((ls2 : Nat) : Int) < 5)) = true := decide_eq_true h246
                rw [hb247] at hF245
                refine cond_yes hF245 rfl ?_
                refine wp_skip ?_
                refine nrm_then ?_
                refine wp_block ?_
                refine wp_seq ?_
                refine reg_text (l := [0, 1, 2, 3, 4, 5, 6, 7, 8, 9, 10]) (by kernel_rfl) ?_
                refine batch_spec (is := [0, 1, 2, 3]) (rest := [4, 5, 6, 7, 8, 9, 10]) (live := [3, 0, 4, 5, 8, 10, 12, 9, 100, 101, 103, 105, 106]) (e' := [(3, .pointer (some ⟨b4, 0, none⟩)), (0, .slice AG gs.length cg), (4, .bool false), (5, .pointer (some ⟨d, 0, none⟩)), (8, .slice B8 5 c8), (10, .int .i64 (i : Nat)), (12, .slice B131 5 cap132), (9, .int .i64 (ls2 : Nat)), (100, .int .i64 (ls2 : Nat)), (101, .bool true), (103, .pointer (some ⟨d, 0, none⟩)), (105, .slice A0 p0.length c0), (106, .int .i64 (ls2 : Nat))]) (vs := [.slice A0 p0.length c0]) (obs := [(⟨b4, 0, none⟩, .slice A0 p0.length c0)]) hF245 (by kernel_rfl) (.cons (ob hS239 0 rfl rfl) .nil) ?_
                intro a248 hF249
                clear hF245
                refine ops_next ?_
                obtain ⟨x250, hx251⟩ : ∃ χ, p0[ls2]? = some χ := ⟨_, List.getElem?_eq_getElem (by omega)⟩
                obtain ⟨b252, off253, heq254, hS255⟩ := int_el hS239 2 rfl hx251
                have hS256 : Sat w237 (immC b252 (off253 + ls2 * 1) [.int .i64 x250] :: raw b4 (.cells #[.slice A0 p0.length c0, .slice A1 p1.length c1] 24 (0, 0)) :: slA groupT (.slice AG gs.length cg) gs :: slA intT (.slice A0 p0.length c0) p0 :: slA intT (.slice A1 p1.length c1) p1 :: rowA pageT 41 B8 c8 (vl.map pageOf) :: rowA pageT 41 B131 cap132 ((newL vl l).map pageOf) :: plateA d plk :: L) := hS255
                refine op_value (u := .pointer (some ⟨b252, off253 + ls2 * 1, none⟩)) (v := .indexAddr 23 (.slice A0 p0.length c0) (.int .i64 (ls2 : Nat))) (e' := [(107, .pointer (some ⟨b252, off253 + ls2 * 1, none⟩)), (3, .pointer (some ⟨b4, 0, none⟩)), (0, .slice AG gs.length cg), (4, .bool false), (5, .pointer (some ⟨d, 0, none⟩)), (8, .slice B8 5 c8), (10, .int .i64 (i : Nat)), (12, .slice B131 5 cap132), (9, .int .i64 (ls2 : Nat)), (100, .int .i64 (ls2 : Nat)), (101, .bool true), (103, .pointer (some ⟨d, 0, none⟩)), (105, .slice A0 p0.length c0), (106, .int .i64 (ls2 : Nat))]) hF249 (by kernel_rfl) (.value ((run_indexAddrA (el := 3) (sz := 1) (off := off253) (k := ls2) heq254 Tryd.underlying23 (by kernel_rfl) (by rfl) (by omega)) _)) ?_
                intro a257 hF258
                clear hF249
                refine batch_spec (is := [5, 6, 7, 8]) (rest := [9, 10]) (live := [3, 0, 4, 5, 8, 10, 12, 9, 100, 101, 103, 111]) (e' := [(3, .pointer (some ⟨b4, 0, none⟩)), (0, .slice AG gs.length cg), (4, .bool false), (5, .pointer (some ⟨d, 0, none⟩)), (8, .slice B8 5 c8), (10, .int .i64 (i : Nat)), (12, .slice B131 5 cap132), (9, .int .i64 (ls2 : Nat)), (100, .int .i64 (ls2 : Nat)), (101, .bool true), (103, .pointer (some ⟨d, 0, none⟩)), (111, .int .i64 (IntKind.i64.wrap ((IntKind.u64.wrap x250).tmod 3)))]) (vs := [.int .i64 x250]) (obs := [(⟨b252, off253 + ls2 * 1, none⟩, .int .i64 x250)]) hF258 (by kernel_rfl) (.cons (obC hS256 0 (off := off253 + ls2 * 1) (j := 0) rfl rfl) .nil) ?_
                intro a259 hF260
                clear hF258
                have hw261 : IntKind.i64.wrap ((IntKind.u64.wrap x250).tmod 3) = ((uMod x250 3 : Nat) : Int) := uMod_eq x250 (m := 3) (by decide) (by decide)
                rw [hw261] at hF260
                have hw261_lt := uMod_lt x250 (m := 3) (by decide)
                refine batch_spec (is := [9]) (rest := [10]) (live := [3, 0, 4, 5, 8, 10, 12, 9, 100, 101, 103, 112]) (e' := [(3, .pointer (some ⟨b4, 0, none⟩)), (0, .slice AG gs.length cg), (4, .bool false), (5, .pointer (some ⟨d, 0, none⟩)), (8, .slice B8 5 c8), (10, .int .i64 (i : Nat)), (12, .slice B131 5 cap132), (9, .int .i64 (ls2 : Nat)), (100, .int .i64 (ls2 : Nat)), (101, .bool true), (103, .pointer (some ⟨d, 0, none⟩)), (112, .int .i64 (IntKind.i64.wrap (1 + ((uMod x250 3 : Nat) : Int))))]) (vs := []) (obs := []) hF260 (by kernel_rfl) .nil ?_
                intro a262 hF263
                clear hF260
                have hw264 : IntKind.i64.wrap (1 + ((uMod x250 3 : Nat) : Int)) = ((1 + (uMod x250 3) : Nat) : Int) := by rw [wrap_i64 (by omega) (by omega)]; omega
                rw [hw264] at hF263
                refine ops_next ?_
                have hS265 : Sat w237 (plateA d plk :: immC b252 (off253 + ls2 * 1) [.int .i64 x250] :: raw b4 (.cells #[.slice A0 p0.length c0, .slice A1 p1.length c1] 24 (0, 0)) :: slA groupT (.slice AG gs.length cg) gs :: slA intT (.slice A0 p0.length c0) p0 :: slA intT (.slice A1 p1.length c1) p1 :: rowA pageT 41 B8 c8 (vl.map pageOf) :: rowA pageT 41 B131 cap132 ((newL vl l).map pageOf) :: L) := (Sat_at hS256 7 rfl rfl)
                refine op_call (fn := 7) (first := #[]) (cap := #[]) (args := #[.pointer (some ⟨d, 0, none⟩), .int .i64 (1 + (uMod x250 3) : Nat)]) (all := #[.pointer (some ⟨d, 0, none⟩), .int .i64 (1 + (uMod x250 3) : Nat)]) (pe := fun u => [(113, u), (3, .pointer (some ⟨b4, 0, none⟩)), (0, .slice AG gs.length cg), (4, .bool false), (5, .pointer (some ⟨d, 0, none⟩)), (8, .slice B8 5 c8), (10, .int .i64 (i : Nat)), (12, .slice B131 5 cap132), (9, .int .i64 (ls2 : Nat)), (100, .int .i64 (ls2 : Nat)), (101, .bool true), (103, .pointer (some ⟨d, 0, none⟩)), (112, .int .i64 (1 + (uMod x250 3) : Nat))]) hF263 (fun u => by kernel_rfl) (by kernel_rfl) (by kernel_rfl) (arm_c ((1 + (uMod x250 3) : Nat)) hS265) ?_
                rintro u w268 a266 ⟨rfl, hS269⟩ hF267
                clear hF263
                clear hS239 hS255 hS256 hS265
                have hS270 : Sat w268 (plateA d ({ plk with armed := max ((1 + (uMod x250 3) : Nat)) 0 }) :: immC b252 (off253 + ls2 * 1) [.int .i64 x250] :: raw b4 (.cells #[.slice A0 p0.length c0, .slice A1 p1.length c1] 24 (0, 0)) :: slA groupT (.slice AG gs.length cg) gs :: slA intT (.slice A0 p0.length c0) p0 :: slA intT (.slice A1 p1.length c1) p1 :: rowA pageT 41 B8 c8 (vl.map pageOf) :: rowA pageT 41 B131 cap132 ((newL vl l).map pageOf) :: L) := hS269
                replace hBk := arm_back (x := max ((1 + (uMod x250 3) : Nat)) 0) hBk
                refine ops_done ?_
                refine nrm_then ?_
                refine wp_seq ?_
                refine reg_text (l := [0, 1, 2]) (by kernel_rfl) ?_
                refine batch_spec (is := [0, 1]) (rest := [2]) (live := [3, 0, 4, 5, 8, 10, 12, 100, 101, 115]) (e' := [(3, .pointer (some ⟨b4, 0, none⟩)), (0, .slice AG gs.length cg), (4, .bool false), (5, .pointer (some ⟨d, 0, none⟩)), (8, .slice B8 5 c8), (10, .int .i64 (i : Nat)), (12, .slice B131 5 cap132), (100, .int .i64 (ls2 : Nat)), (101, .bool true), (115, .int .i64 (IntKind.i64.wrap (((ls2 : Nat) : Int) + 1)))]) (vs := []) (obs := []) hF267 (by kernel_rfl) .nil ?_
                intro a271 hF272
                clear hF267
                have hw273 : IntKind.i64.wrap (((ls2 : Nat) : Int) + 1) = ((ls2 + 1 : Nat) : Int) := by rw [wrap_i64 (by omega) (by omega)]; omega
                rw [hw273] at hF272
                refine batch_spec (is := [2]) (rest := []) (live := [3, 0, 4, 5, 8, 10, 12, 100, 101, 9]) (e' := [(3, .pointer (some ⟨b4, 0, none⟩)), (0, .slice AG gs.length cg), (4, .bool false), (5, .pointer (some ⟨d, 0, none⟩)), (8, .slice B8 5 c8), (10, .int .i64 (i : Nat)), (12, .slice B131 5 cap132), (100, .int .i64 (ls2 : Nat)), (101, .bool true), (9, .int .i64 (ls2 + 1 : Nat))]) (vs := []) (obs := []) hF272 (by kernel_rfl) .nil ?_
                intro a274 hF275
                clear hF272
                refine ops_done ?_
                refine nrm_then ?_
                refine wp_seq ?_
                refine reg_text (l := [0, 1]) (by kernel_rfl) ?_
                refine batch_spec (is := [0]) (rest := [1]) (live := [3, 0, 4, 5, 8, 10, 12, 100, 101, 9, 116]) (e' := [(3, .pointer (some ⟨b4, 0, none⟩)), (0, .slice AG gs.length cg), (4, .bool false), (5, .pointer (some ⟨d, 0, none⟩)), (8, .slice B8 5 c8), (10, .int .i64 (i : Nat)), (12, .slice B131 5 cap132), (100, .int .i64 (ls2 : Nat)), (101, .bool true), (9, .int .i64 (ls2 + 1 : Nat)), (116, .pointer (some ⟨d, 0, none⟩))]) (vs := []) (obs := []) hF275 (by kernel_rfl) .nil ?_
                intro a276 hF277
                clear hF275
                refine ops_next ?_
                refine op_call (fn := 6) (first := #[]) (cap := #[]) (args := #[.pointer (some ⟨d, 0, none⟩), .int .i64 0, .int .i64 3, .int .i64 5]) (all := #[.pointer (some ⟨d, 0, none⟩), .int .i64 0, .int .i64 3, .int .i64 5]) (pe := fun u => [(117, u), (3, .pointer (some ⟨b4, 0, none⟩)), (0, .slice AG gs.length cg), (4, .bool false), (5, .pointer (some ⟨d, 0, none⟩)), (8, .slice B8 5 c8), (10, .int .i64 (i : Nat)), (12, .slice B131 5 cap132), (100, .int .i64 (ls2 : Nat)), (101, .bool true), (9, .int .i64 (ls2 + 1 : Nat)), (116, .pointer (some ⟨d, 0, none⟩))]) hF277 (fun u => by kernel_rfl) (by kernel_rfl) (by kernel_rfl) (open_law16 hBk hS270) ?_
                rintro u w284 a282 (⟨s278, rfl, pl280, ul279, hx281, hS285⟩ | ⟨rfl, pl280, hx281, harm, hS285⟩) hF283
                ·
                  clear hF277
                  clear hS269 hS270
                  have hS286 : Sat w284 (storeA s278 ⟨d, 0, 3, ul279.map pageOf, pl280.life, false⟩ :: plateA d pl280 :: immC b252 (off253 + ls2 * 1) [.int .i64 x250] :: raw b4 (.cells #[.slice A0 p0.length c0, .slice A1 p1.length c1] 24 (0, 0)) :: slA groupT (.slice AG gs.length cg) gs :: slA intT (.slice A0 p0.length c0) p0 :: slA intT (.slice A1 p1.length c1) p1 :: rowA pageT 41 B8 c8 (vl.map pageOf) :: rowA pageT 41 B131 cap132 ((newL vl l).map pageOf) :: L) := hS285
                  have hlo := off_lost (back_of hBk.bad hx281.1 hx281.2.2.2.2)
                  refine ops_done ?_
                  refine nrm_then ?_
                  refine wp_seq ?_
                  refine reg_text (l := [0, 1]) (by kernel_rfl) ?_
                  refine batch_spec (is := [0]) (rest := [1]) (live := [3, 0, 4, 5, 8, 10, 12, 100, 101, 9, 118]) (e' := [(3, .pointer (some ⟨b4, 0, none⟩)), (0, .slice AG gs.length cg), (4, .bool false), (5, .pointer (some ⟨d, 0, none⟩)), (8, .slice B8 5 c8), (10, .int .i64 (i : Nat)), (12, .slice B131 5 cap132), (100, .int .i64 (ls2 : Nat)), (101, .bool true), (9, .int .i64 (ls2 + 1 : Nat)), (118, .pointer (some ⟨d, 0, none⟩))]) (vs := []) (obs := []) hF283 (by kernel_rfl) .nil ?_
                  intro a287 hF288
                  clear hF283
                  refine ops_next ?_
                  have hS289 : Sat w284 (plateA d pl280 :: storeA s278 ⟨d, 0, 3, ul279.map pageOf, pl280.life, false⟩ :: immC b252 (off253 + ls2 * 1) [.int .i64 x250] :: raw b4 (.cells #[.slice A0 p0.length c0, .slice A1 p1.length c1] 24 (0, 0)) :: slA groupT (.slice AG gs.length cg) gs :: slA intT (.slice A0 p0.length c0) p0 :: slA intT (.slice A1 p1.length c1) p1 :: rowA pageT 41 B8 c8 (vl.map pageOf) :: rowA pageT 41 B131 cap132 ((newL vl l).map pageOf) :: L) := (Sat_at hS286 1 rfl rfl)
                  refine op_call (fn := 11) (first := #[]) (cap := #[]) (args := #[.pointer (some ⟨d, 0, none⟩)]) (all := #[.pointer (some ⟨d, 0, none⟩)]) (pe := fun u => [(119, u), (3, .pointer (some ⟨b4, 0, none⟩)), (0, .slice AG gs.length cg), (4, .bool false), (5, .pointer (some ⟨d, 0, none⟩)), (8, .slice B8 5 c8), (10, .int .i64 (i : Nat)), (12, .slice B131 5 cap132), (100, .int .i64 (ls2 : Nat)), (101, .bool true), (9, .int .i64 (ls2 + 1 : Nat)), (118, .pointer (some ⟨d, 0, none⟩))]) hF288 (fun u => by kernel_rfl) (by kernel_rfl) (by kernel_rfl) (off_c hS289) ?_
                  rintro u w292 a290 ⟨rfl, hS293⟩ hF291
                  clear hF288
                  clear hS285 hS286 hS289
                  have hS294 : Sat w292 (plateA d ((pl280).off) :: storeA s278 ⟨d, 0, 3, ul279.map pageOf, pl280.life, false⟩ :: immC b252 (off253 + ls2 * 1) [.int .i64 x250] :: raw b4 (.cells #[.slice A0 p0.length c0, .slice A1 p1.length c1] 24 (0, 0)) :: slA groupT (.slice AG gs.length cg) gs :: slA intT (.slice A0 p0.length c0) p0 :: slA intT (.slice A1 p1.length c1) p1 :: rowA pageT 41 B8 c8 (vl.map pageOf) :: rowA pageT 41 B131 cap132 ((newL vl l).map pageOf) :: L) := hS293
                  refine ops_done ?_
                  refine nrm_then ?_
                  refine reg_text (l := [0, 1, 2, 3]) (by kernel_rfl) ?_
                  refine batch_spec (is := [0, 1, 2]) (rest := [3]) (live := [3, 0, 4, 5, 8, 10, 12, 100, 101, 9, 120, 122]) (e' := [(3, .pointer (some ⟨b4, 0, none⟩)), (0, .slice AG gs.length cg), (4, .bool false), (5, .pointer (some ⟨d, 0, none⟩)), (8, .slice B8 5 c8), (10, .int .i64 (i : Nat)), (12, .slice B131 5 cap132), (100, .int .i64 (ls2 : Nat)), (101, .bool true), (9, .int .i64 (ls2 + 1 : Nat)), (120, .pointer (some ⟨d, 0, none⟩)), (122, .slice A1 p1.length c1)]) (vs := [.slice A1 p1.length c1]) (obs := [(⟨b4, 1, none⟩, .slice A1 p1.length c1)]) hF291 (by kernel_rfl) (.cons (ob hS294 3 rfl rfl) .nil) ?_
                  intro a295 hF296
                  clear hF291
                  refine ops_next ?_
                  have hS297 : Sat w292 (plateA d ((pl280).off) :: slA intT (.slice A1 p1.length c1) p1 :: storeA s278 ⟨d, 0, 3, ul279.map pageOf, pl280.life, false⟩ :: immC b252 (off253 + ls2 * 1) [.int .i64 x250] :: raw b4 (.cells #[.slice A0 p0.length c0, .slice A1 p1.length c1] 24 (0, 0)) :: slA groupT (.slice AG gs.length cg) gs :: slA intT (.slice A0 p0.length c0) p0 :: rowA pageT 41 B8 c8 (vl.map pageOf) :: rowA pageT 41 B131 cap132 ((newL vl l).map pageOf) :: L) := (Sat_at (Sat_at hS294 6 rfl rfl) 1 rfl rfl)
                  refine op_call (fn := 10) (first := #[]) (cap := #[]) (args := #[.pointer (some ⟨d, 0, none⟩), .slice A1 p1.length c1]) (all := #[.pointer (some ⟨d, 0, none⟩), .slice A1 p1.length c1]) (pe := fun u => [(123, u), (3, .pointer (some ⟨b4, 0, none⟩)), (0, .slice AG gs.length cg), (4, .bool false), (5, .pointer (some ⟨d, 0, none⟩)), (8, .slice B8 5 c8), (10, .int .i64 (i : Nat)), (12, .slice B131 5 cap132), (100, .int .i64 (ls2 : Nat)), (101, .bool true), (9, .int .i64 (ls2 + 1 : Nat)), (120, .pointer (some ⟨d, 0, none⟩)), (122, .slice A1 p1.length c1)]) hF296 (fun u => by kernel_rfl) (by kernel_rfl) (by kernel_rfl) (on_c hl1 (by have := hlo.que; omega) hS297) ?_
                  rintro u w300 a298 ⟨rfl, hS301⟩ hF299
                  clear hF296
                  clear hS293 hS294 hS297
                  have hS302 : Sat w300 (plateA d (((pl280).off).on p1) :: slA intT (.slice A1 p1.length c1) p1 :: storeA s278 ⟨d, 0, 3, ul279.map pageOf, pl280.life, false⟩ :: immC b252 (off253 + ls2 * 1) [.int .i64 x250] :: raw b4 (.cells #[.slice A0 p0.length c0, .slice A1 p1.length c1] 24 (0, 0)) :: slA groupT (.slice AG gs.length cg) gs :: slA intT (.slice A0 p0.length c0) p0 :: rowA pageT 41 B8 c8 (vl.map pageOf) :: rowA pageT 41 B131 cap132 ((newL vl l).map pageOf) :: L) := hS301
                  obtain ⟨hBk, hz⟩ := on_back hlo p1
                  refine ops_done ?_
                  refine nrm_block ?_
                  have hS303 : Sat w300 (raw b4 (.cells #[.slice A0 p0.length c0, .slice A1 p1.length c1] 24 (0, 0)) :: slA groupT (.slice AG gs.length cg) gs :: slA intT (.slice A0 p0.length c0) p0 :: slA intT (.slice A1 p1.length c1) p1 :: rowA pageT 41 B8 c8 (vl.map pageOf) :: rowA pageT 41 B131 cap132 ((newL vl l).map pageOf) :: plateA d (((pl280).off).on p1) :: storeA s278 ⟨d, 0, 3, ul279.map pageOf, pl280.life, false⟩ :: immC b252 (off253 + ls2 * 1) [.int .i64 x250] :: L) := (Sat_at (Sat_at (Sat_at (Sat_at (Sat_at (Sat_at (Sat_at hS302 0 rfl rfl) 8 rfl rfl) 8 rfl rfl) 3 rfl rfl) 8 rfl rfl) 8 rfl rfl) 8 rfl rfl)
                  refine nrm_then ⟨_, ?_, ls2 + 1, ((pl280).off).on p1, rfl, hBk, hz, (by omega), (Fits.restr (r := [(3, .pointer (some ⟨b4, 0, none⟩)), (0, .slice AG gs.length cg), (4, .bool false), (5, .pointer (some ⟨d, 0, none⟩)), (8, .slice B8 5 c8), (10, .int .i64 (i : Nat)), (12, .slice B131 5 cap132), (9, .int .i64 (ls2 + 1 : Nat))]) hF299 (ks := [3, 0, 4, 5, 8, 10, 12, 9]) (by kernel_rfl)).cast (by rfl), ((Sat_at (Sat_at hS303 8 rfl rfl).drop 7 rfl rfl).drop)⟩
                  omega
                ·
                  clear hF277
                  clear hS269 hS270
                  have hS304 : Sat w284 (plateA d pl280 :: immC b252 (off253 + ls2 * 1) [.int .i64 x250] :: raw b4 (.cells #[.slice A0 p0.length c0, .slice A1 p1.length c1] 24 (0, 0)) :: slA groupT (.slice AG gs.length cg) gs :: slA intT (.slice A0 p0.length c0) p0 :: slA intT (.slice A1 p1.length c1) p1 :: rowA pageT 41 B8 c8 (vl.map pageOf) :: rowA pageT 41 B131 cap132 ((newL vl l).map pageOf) :: L) := hS285
                  have hlo := lost_off hx281
                  refine ops_done ?_
                  refine nrm_then ?_
                  refine wp_seq ?_
                  refine reg_text (l := [0, 1]) (by kernel_rfl) ?_
                  refine batch_spec (is := [0]) (rest := [1]) (live := [3, 0, 4, 5, 8, 10, 12, 100, 101, 9, 118]) (e' := [(3, .pointer (some ⟨b4, 0, none⟩)), (0, .slice AG gs.length cg), (4, .bool false), (5, .pointer (some ⟨d, 0, none⟩)), (8, .slice B8 5 c8), (10, .int .i64 (i : Nat)), (12, .slice B131 5 cap132), (100, .int .i64 (ls2 : Nat)), (101, .bool true), (9, .int .i64 (ls2 + 1 : Nat)), (118, .pointer (some ⟨d, 0, none⟩))]) (vs := []) (obs := []) hF283 (by kernel_rfl) .nil ?_
                  intro a305 hF306
                  clear hF283
                  refine ops_next ?_
                  refine op_call (fn := 11) (first := #[]) (cap := #[]) (args := #[.pointer (some ⟨d, 0, none⟩)]) (all := #[.pointer (some ⟨d, 0, none⟩)]) (pe := fun u => [(119, u), (3, .pointer (some ⟨b4, 0, none⟩)), (0, .slice AG gs.length cg), (4, .bool false), (5, .pointer (some ⟨d, 0, none⟩)), (8, .slice B8 5 c8), (10, .int .i64 (i : Nat)), (12, .slice B131 5 cap132), (100, .int .i64 (ls2 : Nat)), (101, .bool true), (9, .int .i64 (ls2 + 1 : Nat)), (118, .pointer (some ⟨d, 0, none⟩))]) hF306 (fun u => by kernel_rfl) (by kernel_rfl) (by kernel_rfl) (off_c hS304) ?_
                  rintro u w309 a307 ⟨rfl, hS310⟩ hF308
                  clear hF306
                  clear hS285 hS304
                  have hS311 : Sat w309 (plateA d ((pl280).off) :: immC b252 (off253 + ls2 * 1) [.int .i64 x250] :: raw b4 (.cells #[.slice A0 p0.length c0, .slice A1 p1.length c1] 24 (0, 0)) :: slA groupT (.slice AG gs.length cg) gs :: slA intT (.slice A0 p0.length c0) p0 :: slA intT (.slice A1 p1.length c1) p1 :: rowA pageT 41 B8 c8 (vl.map pageOf) :: rowA pageT 41 B131 cap132 ((newL vl l).map pageOf) :: L) := hS310
                  refine ops_done ?_
                  refine nrm_then ?_
                  refine reg_text (l := [0, 1, 2, 3]) (by kernel_rfl) ?_
                  refine batch_spec (is := [0, 1, 2]) (rest := [3]) (live := [3, 0, 4, 5, 8, 10, 12, 100, 101, 9, 120, 122]) (e' := [(3, .pointer (some ⟨b4, 0, none⟩)), (0, .slice AG gs.length cg), (4, .bool false), (5, .pointer (some ⟨d, 0, none⟩)), (8, .slice B8 5 c8), (10, .int .i64 (i : Nat)), (12, .slice B131 5 cap132), (100, .int .i64 (ls2 : Nat)), (101, .bool true), (9, .int .i64 (ls2 + 1 : Nat)), (120, .pointer (some ⟨d, 0, none⟩)), (122, .slice A1 p1.length c1)]) (vs := [.slice A1 p1.length c1]) (obs := [(⟨b4, 1, none⟩, .slice A1 p1.length c1)]) hF308 (by kernel_rfl) (.cons (ob hS311 2 rfl rfl) .nil) ?_
                  intro a312 hF313
                  clear hF308
                  refine ops_next ?_
                  have hS314 : Sat w309 (plateA d ((pl280).off) :: slA intT (.slice A1 p1.length c1) p1 :: immC b252 (off253 + ls2 * 1) [.int .i64 x250] :: raw b4 (.cells #[.slice A0 p0.length c0, .slice A1 p1.length c1] 24 (0, 0)) :: slA groupT (.slice AG gs.length cg) gs :: slA intT (.slice A0 p0.length c0) p0 :: rowA pageT 41 B8 c8 (vl.map pageOf) :: rowA pageT 41 B131 cap132 ((newL vl l).map pageOf) :: L) := (Sat_at (Sat_at hS311 5 rfl rfl) 1 rfl rfl)
                  refine op_call (fn := 10) (first := #[]) (cap := #[]) (args := #[.pointer (some ⟨d, 0, none⟩), .slice A1 p1.length c1]) (all := #[.pointer (some ⟨d, 0, none⟩), .slice A1 p1.length c1]) (pe := fun u => [(123, u), (3, .pointer (some ⟨b4, 0, none⟩)), (0, .slice AG gs.length cg), (4, .bool false), (5, .pointer (some ⟨d, 0, none⟩)), (8, .slice B8 5 c8), (10, .int .i64 (i : Nat)), (12, .slice B131 5 cap132), (100, .int .i64 (ls2 : Nat)), (101, .bool true), (9, .int .i64 (ls2 + 1 : Nat)), (120, .pointer (some ⟨d, 0, none⟩)), (122, .slice A1 p1.length c1)]) hF313 (fun u => by kernel_rfl) (by kernel_rfl) (by kernel_rfl) (on_c hl1 (by have := hlo.que; omega) hS314) ?_
                  rintro u w317 a315 ⟨rfl, hS318⟩ hF316
                  clear hF313
                  clear hS310 hS311 hS314
                  have hS319 : Sat w317 (plateA d (((pl280).off).on p1) :: slA intT (.slice A1 p1.length c1) p1 :: immC b252 (off253 + ls2 * 1) [.int .i64 x250] :: raw b4 (.cells #[.slice A0 p0.length c0, .slice A1 p1.length c1] 24 (0, 0)) :: slA groupT (.slice AG gs.length cg) gs :: slA intT (.slice A0 p0.length c0) p0 :: rowA pageT 41 B8 c8 (vl.map pageOf) :: rowA pageT 41 B131 cap132 ((newL vl l).map pageOf) :: L) := hS318
                  obtain ⟨hBk, hz⟩ := on_back hlo p1
                  refine ops_done ?_
                  refine nrm_block ?_
                  have hS320 : Sat w317 (raw b4 (.cells #[.slice A0 p0.length c0, .slice A1 p1.length c1] 24 (0, 0)) :: slA groupT (.slice AG gs.length cg) gs :: slA intT (.slice A0 p0.length c0) p0 :: slA intT (.slice A1 p1.length c1) p1 :: rowA pageT 41 B8 c8 (vl.map pageOf) :: rowA pageT 41 B131 cap132 ((newL vl l).map pageOf) :: plateA d (((pl280).off).on p1) :: immC b252 (off253 + ls2 * 1) [.int .i64 x250] :: L) := (Sat_at (Sat_at (Sat_at (Sat_at (Sat_at (Sat_at (Sat_at hS319 0 rfl rfl) 7 rfl rfl) 7 rfl rfl) 3 rfl rfl) 7 rfl rfl) 7 rfl rfl) 7 rfl rfl)
                  refine nrm_then ⟨_, ?_, ls2 + 1, ((pl280).off).on p1, rfl, hBk, hz, (by omega), (Fits.restr (r := [(3, .pointer (some ⟨b4, 0, none⟩)), (0, .slice AG gs.length cg), (4, .bool false), (5, .pointer (some ⟨d, 0, none⟩)), (8, .slice B8 5 c8), (10, .int .i64 (i : Nat)), (12, .slice B131 5 cap132), (9, .int .i64 (ls2 + 1 : Nat))]) hF316 (ks := [3, 0, 4, 5, 8, 10, 12, 9]) (by kernel_rfl)).cast (by rfl), ((Sat_at hS320 7 rfl rfl).drop)⟩
                  omega
              ·
                have hb321 : (decide (((ls2 : Nat) : Int) < 5)) = false := decide_eq_false h246
                rw [hb321] at hF245
                refine cond_no hF245 rfl ?_
                refine wp_exit ?_
                refine exit_then ?_
                refine exit_then ?_
                refine exit_block ?_
                refine nrm_then ?_
                refine wp_seq ?_
                refine reg_text (l := [0, 1, 2, 3, 4, 5, 6]) (by kernel_rfl) ?_
                refine batch_spec (is := [0]) (rest := [1, 2, 3, 4, 5, 6]) (live := [3, 0, 4, 5, 8, 10, 12, 9, 100, 101, 125]) (e' := [(3, .pointer (some ⟨b4, 0, none⟩)), (0, .slice AG gs.length cg), (4, .bool false), (5, .pointer (some ⟨d, 0, none⟩)), (8, .slice B8 5 c8), (10, .int .i64 (i : Nat)), (12, .slice B131 5 cap132), (9, .int .i64 (ls2 : Nat)), (100, .int .i64 (ls2 : Nat)), (101, .bool false), (125, .pointer (some ⟨d, 0, none⟩))]) (vs := []) (obs := []) hF245 (by kernel_rfl) .nil ?_
                intro a322 hF323
                clear hF245
                refine ops_next ?_
                have hS324 : Sat w237 (plateA d plk :: raw b4 (.cells #[.slice A0 p0.length c0, .slice A1 p1.length c1] 24 (0, 0)) :: slA groupT (.slice AG gs.length cg) gs :: slA intT (.slice A0 p0.length c0) p0 :: slA intT (.slice A1 p1.length c1) p1 :: rowA pageT 41 B8 c8 (vl.map pageOf) :: rowA pageT 41 B131 cap132 ((newL vl l).map pageOf) :: L) := (Sat_at hS239 6 rfl rfl)
                refine op_call (fn := 6) (first := #[]) (cap := #[]) (args := #[.pointer (some ⟨d, 0, none⟩), .int .i64 0, .int .i64 3, .int .i64 5]) (all := #[.pointer (some ⟨d, 0, none⟩), .int .i64 0, .int .i64 3, .int .i64 5]) (pe := fun u => [(126, u), (3, .pointer (some ⟨b4, 0, none⟩)), (0, .slice AG gs.length cg), (4, .bool false), (5, .pointer (some ⟨d, 0, none⟩)), (8, .slice B8 5 c8), (10, .int .i64 (i : Nat)), (12, .slice B131 5 cap132), (9, .int .i64 (ls2 : Nat)), (100, .int .i64 (ls2 : Nat)), (101, .bool false), (125, .pointer (some ⟨d, 0, none⟩))]) hF323 (fun u => by kernel_rfl) (by kernel_rfl) (by kernel_rfl) (open_law16 hBk hS324) ?_
                rintro u w331 a329 (⟨s325, rfl, pl327, ul326, hx328, hS332⟩ | ⟨rfl, pl327, hx328, harm, hS332⟩) hF330
                ·
                  clear hF323
                  clear hS239 hS324
                  have hS333 : Sat w331 (storeA s325 ⟨d, 0, 3, ul326.map pageOf, pl327.life, false⟩ :: plateA d pl327 :: raw b4 (.cells #[.slice A0 p0.length c0, .slice A1 p1.length c1] 24 (0, 0)) :: slA groupT (.slice AG gs.length cg) gs :: slA intT (.slice A0 p0.length c0) p0 :: slA intT (.slice A1 p1.length c1) p1 :: rowA pageT 41 B8 c8 (vl.map pageOf) :: rowA pageT 41 B131 cap132 ((newL vl l).map pageOf) :: L) := hS332
                  refine batch_spec (is := [2, 3, 4, 5, 6]) (rest := []) (live := [3, 0, 4, 5, 8, 10, 12, 9, 100, 101, 6, 7]) (e' := [(3, .pointer (some ⟨b4, 0, none⟩)), (0, .slice AG gs.length cg), (4, .bool false), (5, .pointer (some ⟨d, 0, none⟩)), (8, .slice B8 5 c8), (10, .int .i64 (i : Nat)), (12, .slice B131 5 cap132), (9, .int .i64 (ls2 : Nat)), (100, .int .i64 (ls2 : Nat)), (101, .bool false), (6, .pointer (some ⟨s325, 0, none⟩)), (7, .int .i64 0)]) (vs := []) (obs := []) hF330 (by kernel_rfl) .nil ?_
                  intro a334 hF335
                  clear hF330
                  refine ops_done ?_
                  refine nrm_then ?_
                  refine wp_seq ?_
                  refine wp_seq ?_
                  refine reg_text (l := [0, 1]) (by kernel_rfl) ?_
                  refine batch_spec (is := [0, 1]) (rest := []) (live := [3, 0, 4, 5, 8, 10, 12, 9, 100, 101, 6, 130]) (e' := [(3, .pointer (some ⟨b4, 0, none⟩)), (0, .slice AG gs.length cg), (4, .bool false), (5, .pointer (some ⟨d, 0, none⟩)), (8, .slice B8 5 c8), (10, .int .i64 (i : Nat)), (12, .slice B131 5 cap132), (9, .int .i64 (ls2 : Nat)), (100, .int .i64 (ls2 : Nat)), (101, .bool false), (6, .pointer (some ⟨s325, 0, none⟩)), (130, .bool false)]) (vs := []) (obs := []) hF335 (by kernel_rfl) .nil ?_
                  intro a336 hF337
                  clear hF335
                  refine ops_done ?_
                  refine nrm_then ?_
                  refine cond_no hF337 rfl ?_
                  refine wp_skip ?_
                  refine nrm_then ?_
                  refine wp_seq ?_
                  refine reg_text (l := [0]) (by kernel_rfl) ?_
                  refine batch_spec (is := [0]) (rest := []) (live := [3, 0, 4, 5, 8, 10, 12, 9, 100, 101, 6, 14]) (e' := [(3, .pointer (some ⟨b4, 0, none⟩)), (0, .slice AG gs.length cg), (4, .bool false), (5, .pointer (some ⟨d, 0, none⟩)), (8, .slice B8 5 c8), (10, .int .i64 (i : Nat)), (12, .slice B131 5 cap132), (9, .int .i64 (ls2 : Nat)), (100, .int .i64 (ls2 : Nat)), (101, .bool false), (6, .pointer (some ⟨s325, 0, none⟩)), (14, .int .i64 0)]) (vs := []) (obs := []) hF337 (by kernel_rfl) .nil ?_
                  intro a338 hF339
                  clear hF337
                  refine ops_done ?_
                  refine nrm_then ?_
                  refine wp_block ?_
                  have hS340 : Sat w331 (raw b4 (.cells #[.slice A0 p0.length c0, .slice A1 p1.length c1] 24 (0, 0)) :: slA groupT (.slice AG gs.length cg) gs :: slA intT (.slice A0 p0.length c0) p0 :: slA intT (.slice A1 p1.length c1) p1 :: rowA pageT 41 B8 c8 (vl.map pageOf) :: rowA pageT 41 B131 cap132 ((newL vl l).map pageOf) :: storeA s325 ⟨d, 0, 3, ul326.map pageOf, pl327.life, false⟩ :: plateA d pl327 :: L) := (Sat_at (Sat_at (Sat_at (Sat_at (Sat_at (Sat_at (Sat_at (Sat_at hS333 1 rfl rfl) 1 rfl rfl) 7 rfl rfl) 7 rfl rfl) 7 rfl rfl) 7 rfl rfl) 7 rfl rfl) 7 rfl rfl)
                  refine loop_g (fun μ α ω => ∃ n : Nat, μ = 5 - n ∧ (n ≤ 5) ∧ Fits α 201 [(3, .pointer (some ⟨b4, 0, none⟩)), (0, .slice AG gs.length cg), (4, .bool false), (5, .pointer (some ⟨d, 0, none⟩)), (8, .slice B8 5 c8), (10, .int .i64 (i : Nat)), (12, .slice B131 5 cap132), (9, .int .i64 (ls2 : Nat)), (6, .pointer (some ⟨s325, 0, none⟩)), (14, .int .i64 (n : Nat))] ∧ Sat ω (raw b4 (.cells #[.slice A0 p0.length c0, .slice A1 p1.length c1] 24 (0, 0)) :: slA groupT (.slice AG gs.length cg) gs :: slA intT (.slice A0 p0.length c0) p0 :: slA intT (.slice A1 p1.length c1) p1 :: rowA pageT 41 B8 c8 (mixL ul326 vl n) :: rowA pageT 41 B131 cap132 ((newL vl l).map pageOf) :: storeA s325 ⟨d, 0, 3, ul326.map pageOf, pl327.life, false⟩ :: plateA d pl327 :: L)) _ ⟨0, rfl, (Nat.zero_le _), (Fits.restr (r := [(3, .pointer (some ⟨b4, 0, none⟩)), (0, .slice AG gs.length cg), (4, .bool false), (5, .pointer (some ⟨d, 0, none⟩)), (8, .slice B8 5 c8), (10, .int .i64 (i : Nat)), (12, .slice B131 5 cap132), (9, .int .i64 (ls2 : Nat)), (6, .pointer (some ⟨s325, 0, none⟩)), (14, .int .i64 0)]) hF339 (ks := [3, 0, 4, 5, 8, 10, 12, 9, 6, 14]) (by kernel_rfl)).cast (by rfl), (by rw [mix_zero]; exact hS340)⟩ ?_
                  rintro m341 a342 w343 ⟨n, rfl, hn, hF344, hS345⟩
                  clear hF339
                  clear hS332 hS333 hS340
                  refine wp_seq ?_
                  refine wp_seq ?_
                  refine reg_text (l := [0, 1]) (by kernel_rfl) ?_
                  refine batch_spec (is := [0, 1]) (rest := []) (live := [3, 0, 4, 5, 8, 10, 12, 9, 6, 14, 132]) (e' := [(3, .pointer (some ⟨b4, 0, none⟩)), (0, .slice AG gs.length cg), (4, .bool false), (5, .pointer (some ⟨d, 0, none⟩)), (8, .slice B8 5 c8), (10, .int .i64 (i : Nat)), (12, .slice B131 5 cap132), (9, .int .i64 (ls2 : Nat)), (6, .pointer (some ⟨s325, 0, none⟩)), (14, .int .i64 (n : Nat)), (132, .bool (decide (((n : Nat) : Int) < 5)))]) (vs := []) (obs := []) hF344 (by kernel_rfl) .nil ?_
                  intro a346 hF347
                  clear hF344
                  refine ops_done ?_
                  refine nrm_then ?_
                  by_cases h348 : ((n : Nat) : Int) < 5
                  ·
                    have hb349 : (decide (((n : Nat) : Int) < 5)) = true := decide_eq_true h348
                    rw [hb349] at hF347
                    refine cond_yes hF347 rfl ?_
                    refine wp_skip ?_
                    refine nrm_then ?_
                    refine wp_seq ?_
                    refine wp_block ?_
                    refine wp_seq ?_
                    refine reg_text (l := [0, 1, 2, 3, 4, 5, 6, 7, 8]) (by kernel_rfl) ?_
                    refine batch_spec (is := [0, 1]) (rest := [2, 3, 4, 5, 6, 7, 8]) (live := [3, 0, 4, 5, 8, 10, 12, 9, 6, 14, 136, 137]) (e' := [(3, .pointer (some ⟨b4, 0, none⟩)), (0, .slice AG gs.length cg), (4, .bool false), (5, .pointer (some ⟨d, 0, none⟩)), (8, .slice B8 5 c8), (10, .int .i64 (i : Nat)), (12, .slice B131 5 cap132), (9, .int .i64 (ls2 : Nat)), (6, .pointer (some ⟨s325, 0, none⟩)), (14, .int .i64 (n : Nat)), (136, .pointer (some ⟨s325, 0, none⟩)), (137, .int .i64 (n : Nat))]) (vs := []) (obs := []) hF347 (by kernel_rfl) .nil ?_
                    intro a350 hF351
                    clear hF347
                    refine ops_next ?_
                    have hS352 : Sat w343 (storeA s325 ⟨d, 0, 3, ul326.map pageOf, pl327.life, false⟩ :: plateA d pl327 :: raw b4 (.cells #[.slice A0 p0.length c0, .slice A1 p1.length c1] 24 (0, 0)) :: slA groupT (.slice AG gs.length cg) gs :: slA intT (.slice A0 p0.length c0) p0 :: slA intT (.slice A1 p1.length c1) p1 :: rowA pageT 41 B8 c8 (mixL ul326 vl n) :: rowA pageT 41 B131 cap132 ((newL vl l).map pageOf) :: L) := (Sat_at (Sat_at hS345 7 rfl rfl) 7 rfl rfl)
                    refine op_call (fn := 12) (first := #[]) (cap := #[]) (args := #[.pointer (some ⟨s325, 0, none⟩), .int .i64 (n : Nat)]) (all := #[.pointer (some ⟨s325, 0, none⟩), .int .i64 (n : Nat)]) (pe := fun u => [(138, u), (3, .pointer (some ⟨b4, 0, none⟩)), (0, .slice AG gs.length cg), (4, .bool false), (5, .pointer (some ⟨d, 0, none⟩)), (8, .slice B8 5 c8), (10, .int .i64 (i : Nat)), (12, .slice B131 5 cap132), (9, .int .i64 (ls2 : Nat)), (6, .pointer (some ⟨s325, 0, none⟩)), (14, .int .i64 (n : Nat)), (136, .pointer (some ⟨s325, 0, none⟩)), (137, .int .i64 (n : Nat))]) hF351 (fun u => by kernel_rfl) (by kernel_rfl) (by kernel_rfl) (read_law hx328.1 rfl (by omega) (by decide) hS352) ?_
                    rintro u w357 a355 ⟨A353, c354, rfl, hS358⟩ hF356
                    clear hF351
                    clear hS345 hS352
                    have hS359 : Sat w357 (slA slotT (.slice A353 (((pageOf (ul326.getD n none))).slots.length) c354) (((pageOf (ul326.getD n none))).slots) :: storeA s325 ⟨d, 0, 3, ul326.map pageOf, pl327.life, false⟩ :: plateA d pl327 :: raw b4 (.cells #[.slice A0 p0.length c0, .slice A1 p1.length c1] 24 (0, 0)) :: slA groupT (.slice AG gs.length cg) gs :: slA intT (.slice A0 p0.length c0) p0 :: slA intT (.slice A1 p1.length c1) p1 :: rowA pageT 41 B8 c8 (mixL ul326 vl n) :: rowA pageT 41 B131 cap132 ((newL vl l).map pageOf) :: L) := hS358
                    refine batch_spec (is := [3, 4, 5]) (rest := [6, 7, 8]) (live := [3, 0, 4, 5, 8, 10, 12, 9, 6, 14, 139, 140]) (e' := [(3, .pointer (some ⟨b4, 0, none⟩)), (0, .slice AG gs.length cg), (4, .bool false), (5, .pointer (some ⟨d, 0, none⟩)), (8, .slice B8 5 c8), (10, .int .i64 (i : Nat)), (12, .slice B131 5 cap132), (9, .int .i64 (ls2 : Nat)), (6, .pointer (some ⟨s325, 0, none⟩)), (14, .int .i64 (n : Nat)), (139, .agg #[.int .i64 (((pageOf (ul326.getD n none))).lsn), .slice A353 (((pageOf (ul326.getD n none))).slots.length) c354]), (140, .int .i64 0)]) (vs := []) (obs := []) hF356 (by kernel_rfl) .nil ?_
                    intro a360 hF361
                    clear hF356
                    refine ops_next ?_
                    obtain ⟨b362, w363, hr364, hS365⟩ := comes_new (P := Tryd.prog) (v := .alloc 41) (u := fun b => .pointer (some ⟨b, 0, none⟩)) (o := .cells #[.int .i64 0, .slice none 0 0] 41 (0, 0)) hS359 (fun w => by kernel_rfl)
                    refine op_value (u := .pointer (some ⟨b362, 0, none⟩)) (e' := [(15, .pointer (some ⟨b362, 0, none⟩)), (3, .pointer (some ⟨b4, 0, none⟩)), (0, .slice AG gs.length cg), (4, .bool false), (5, .pointer (some ⟨d, 0, none⟩)), (8, .slice B8 5 c8), (10, .int .i64 (i : Nat)), (12, .slice B131 5 cap132), (9, .int .i64 (ls2 : Nat)), (6, .pointer (some ⟨s325, 0, none⟩)), (14, .int .i64 (n : Nat)), (139, .agg #[.int .i64 (((pageOf (ul326.getD n none))).lsn), .slice A353 (((pageOf (ul326.getD n none))).slots.length) c354]), (140, .int .i64 0)]) hF361 (by kernel_rfl) hr364 ?_
                    intro a366 hF367
                    clear hF361 hr364
                    clear hS358 hS359
                    refine ops_next ?_
                    obtain ⟨w368, hr369, hS370⟩ := comes_store (P := Tryd.prog) (t' := 41) (b := b362) (j := 0) (x := .agg #[.int .i64 (((pageOf (ul326.getD n none))).lsn), .slice A353 (((pageOf (ul326.getD n none))).slots.length) c354]) (vs := [.int .i64 (((pageOf (ul326.getD n none))).lsn), .slice A353 (((pageOf (ul326.getD n none))).slots.length) c354]) (c' := #[.int .i64 (((pageOf (ul326.getD n none))).lsn), .slice A353 (((pageOf (ul326.getD n none))).slots.length) c354]) hS365 0 rfl rfl rfl (by kernel_rfl) rfl rfl rfl
                    refine op_value (u := undef) (e' := [(15, .pointer (some ⟨b362, 0, none⟩)), (3, .pointer (some ⟨b4, 0, none⟩)), (0, .slice AG gs.length cg), (4, .bool false), (5, .pointer (some ⟨d, 0, none⟩)), (8, .slice B8 5 c8), (10, .int .i64 (i : Nat)), (12, .slice B131 5 cap132), (9, .int .i64 (ls2 : Nat)), (6, .pointer (some ⟨s325, 0, none⟩)), (14, .int .i64 (n : Nat)), (139, .agg #[.int .i64 (((pageOf (ul326.getD n none))).lsn), .slice A353 (((pageOf (ul326.getD n none))).slots.length) c354]), (140, .int .i64 0)]) hF367 (by kernel_rfl) hr369 ?_
                    intro a371 hF372
                    clear hF367 hr369
                    clear hS365
                    have hS373 : Sat w368 (raw b362 (.cells #[.int .i64 (((pageOf (ul326.getD n none))).lsn), .slice A353 (((pageOf (ul326.getD n none))).slots.length) c354] 41 (0, 0)) :: slA slotT (.slice A353 (((pageOf (ul326.getD n none))).slots.length) c354) (((pageOf (ul326.getD n none))).slots) :: storeA s325 ⟨d, 0, 3, ul326.map pageOf, pl327.life, false⟩ :: plateA d pl327 :: raw b4 (.cells #[.slice A0 p0.length c0, .slice A1 p1.length c1] 24 (0, 0)) :: slA groupT (.slice AG gs.length cg) gs :: slA intT (.slice A0 p0.length c0) p0 :: slA intT (.slice A1 p1.length c1) p1 :: rowA pageT 41 B8 c8 (mixL ul326 vl n) :: rowA pageT 41 B131 cap132 ((newL vl l).map pageOf) :: L) := hS370
                    refine batch_spec (is := [8]) (rest := []) (live := [15, 3, 0, 4, 5, 8, 10, 12, 9, 6, 14, 16]) (e' := [(15, .pointer (some ⟨b362, 0, none⟩)), (3, .pointer (some ⟨b4, 0, none⟩)), (0, .slice AG gs.length cg), (4, .bool false), (5, .pointer (some ⟨d, 0, none⟩)), (8, .slice B8 5 c8), (10, .int .i64 (i : Nat)), (12, .slice B131 5 cap132), (9, .int .i64 (ls2 : Nat)), (6, .pointer (some ⟨s325, 0, none⟩)), (14, .int .i64 (n : Nat)), (16, .int .i64 0)]) (vs := []) (obs := []) hF372 (by kernel_rfl) .nil ?_
                    intro a374 hF375
                    clear hF372
                    refine ops_done ?_
                    refine nrm_then ?_
                    refine wp_seq ?_
                    refine wp_seq ?_
                    have hmx : (mixL ul326 vl n)[n]? = some ((pageOf (vl.getD n none))) := mix_at hx328.1.stab.len hF.stab.len (by omega)
                    have hnx : ((newL vl l).map pageOf)[n]? = some ((pageOf ((newL vl l).getD n none))) := map_at hBk.bad.len2 (by omega)
                    have hml : (mixL ul326 vl n).length = 5 := mix_len hx328.1.stab.len hF.stab.len hn
                    have hnl : ((newL vl l).map pageOf).length = 5 := by rw [List.length_map]; exact hBk.bad.len2
                    refine reg_drawn (fun j => match j with | 1 => [0] | 2 => [0, 1] | 3 => [0, 1, 2] | 4 => [0, 1, 2] | 5 => [0, 1, 2] | 6 => [0, 1, 2, 4, 5] | 7 => [0, 1, 2, 4, 5, 6] | 8 => [0, 1, 2, 3, 4, 5, 6, 7] | 9 => [0, 1, 2, 3, 4, 5, 6, 7, 8] | 10 => [0, 1, 2, 3, 4, 5, 6, 7, 8, 9] | 11 => [0, 1, 2, 3, 4, 5, 6, 7, 8, 9, 10] | 12 => [0, 1, 2, 3, 4, 5, 6, 7, 8, 9, 10] | 13 => [0, 1, 2, 3, 4, 5, 6, 7, 8, 9, 10] | 14 => [0, 1, 2, 3, 4, 5, 6, 7, 8, 9, 10, 12, 13] | 15 => [0, 1, 2, 3, 4, 5, 6, 7, 8, 9, 10, 12, 13, 14] | 16 => [0, 1, 2, 3, 4, 5, 6, 7, 8, 9, 10, 11, 12, 13, 14, 15] | 17 => [0, 1, 2, 3, 4, 5, 6, 7, 8, 9, 10, 11, 12, 13, 14, 15, 16] | 18 => [0, 1, 2, 3, 4, 5, 6, 7, 8, 9, 10, 11, 12, 13, 14, 15, 16, 17] | 19 => [0, 1, 2, 3, 4, 5, 6, 7, 8, 9, 10, 11, 12, 13, 14, 15, 16, 17, 18] | _ => []) hS373 (by kernel_rfl) (by kernel_rfl) (by kernel_rfl) (fun c a d v w h => by cases d <;> exact h) ?_
                    intro w376 hS377 hw378
                    clear hS370 hS373
                    refine batchD_spec (is := [0, 1, 2, 3, 4, 5]) (dn := []) (dn' := [0, 1, 2, 3, 4, 5]) (live := [15, 3, 0, 4, 5, 8, 10, 12, 9, 6, 14, 143, 144, 145, 146]) (e' := [(15, .pointer (some ⟨b362, 0, none⟩)), (3, .pointer (some ⟨b4, 0, none⟩)), (0, .slice AG gs.length cg), (4, .bool false), (5, .pointer (some ⟨d, 0, none⟩)), (8, .slice B8 5 c8), (10, .int .i64 (i : Nat)), (12, .slice B131 5 cap132), (9, .int .i64 (ls2 : Nat)), (6, .pointer (some ⟨s325, 0, none⟩)), (14, .int .i64 (n : Nat)), (143, .bool false), (144, .agg #[.int .i64 (((pageOf (ul326.getD n none))).lsn), .slice A353 (((pageOf (ul326.getD n none))).slots.length) c354]), (145, .slice B8 5 c8), (146, .int .i64 (n : Nat))]) (vs := [.int .i64 (((pageOf (ul326.getD n none))).lsn), .slice A353 (((pageOf (ul326.getD n none))).slots.length) c354]) (obs := [(⟨b362, 0, none⟩, .int .i64 (((pageOf (ul326.getD n none))).lsn)), (⟨b362, 1, none⟩, .slice A353 (((pageOf (ul326.getD n none))).slots.length) c354)]) (pd' := [(3, [(⟨b362, 0, none⟩, .int .i64 (((pageOf (ul326.getD n none))).lsn)), (⟨b362, 1, none⟩, .slice A353 (((pageOf (ul326.getD n none))).slots.length) c354)])]) hF375 (by kernel_rfl) (.cons (ob hS377 0 rfl rfl) (.cons (ob hS377 0 rfl rfl) .nil)) rfl ?_
                    intro a379 hF380
                    clear hF375
                    obtain ⟨b381, heq382⟩ := row_addr (k := n) hS377 8 rfl (by omega)
                    obtain ⟨B383, cp384, hc385, hc386, hS387⟩ := page_row heq382 hS377 8 rfl hmx
                    have hS388 : Sat w376 (slA slotT (.slice B383 ((pageOf (vl.getD n none)).slots.length) cp384) ((pageOf (vl.getD n none)).slots) :: raw b362 (.cells #[.int .i64 (((pageOf (ul326.getD n none))).lsn), .slice A353 (((pageOf (ul326.getD n none))).slots.length) c354] 41 (0, 0)) :: slA slotT (.slice A353 (((pageOf (ul326.getD n none))).slots.length) c354) (((pageOf (ul326.getD n none))).slots) :: storeA s325 ⟨d, 0, 3, ul326.map pageOf, pl327.life, false⟩ :: plateA d pl327 :: raw b4 (.cells #[.slice A0 p0.length c0, .slice A1 p1.length c1] 24 (0, 0)) :: slA groupT (.slice AG gs.length cg) gs :: slA intT (.slice A0 p0.length c0) p0 :: slA intT (.slice A1 p1.length c1) p1 :: rowA pageT 41 B8 c8 (mixL ul326 vl n) :: rowA pageT 41 B131 cap132 ((newL vl l).map pageOf) :: L) := hS387
                    refine wpD_one (i := 6) (u := .pointer (some ⟨b381, 0 + n * 2, none⟩)) (v := .indexAddr 32 (.slice B8 5 c8) (.int .i64 (n : Nat))) (e' := [(147, .pointer (some ⟨b381, 0 + n * 2, none⟩)), (15, .pointer (some ⟨b362, 0, none⟩)), (3, .pointer (some ⟨b4, 0, none⟩)), (0, .slice AG gs.length cg), (4, .bool false), (5, .pointer (some ⟨d, 0, none⟩)), (8, .slice B8 5 c8), (10, .int .i64 (i : Nat)), (12, .slice B131 5 cap132), (9, .int .i64 (ls2 : Nat)), (6, .pointer (some ⟨s325, 0, none⟩)), (14, .int .i64 (n : Nat)), (143, .bool false), (144, .agg #[.int .i64 (((pageOf (ul326.getD n none))).lsn), .slice A353 (((pageOf (ul326.getD n none))).slots.length) c354]), (145, .slice B8 5 c8), (146, .int .i64 (n : Nat))]) (obs := []) (dn' := [0, 1, 2, 3, 4, 5, 6]) hF380 (by kernel_rfl) (by kernel_rfl) rfl (fun w _ => (run_indexAddrA (el := 41) (sz := 2) (off := 0) (k := n) heq382 Tryd.underlying32 (by kernel_rfl) (by rfl) (by omega)) w) .nil ?_
                    refine fun a389 hF390 => wpD_filter ?_
                    show wpD _ _ _ _ [(3, [(⟨b362, 0, none⟩, .int .i64 (((pageOf (ul326.getD n none))).lsn)), (⟨b362, 1, none⟩, .slice A353 (((pageOf (ul326.getD n none))).slots.length) c354)])] _ _ _
                    clear hF380
                    refine batchD_spec (is := [7]) (dn := [0, 1, 2, 3, 4, 5, 6]) (dn' := [0, 1, 2, 3, 4, 5, 6, 7]) (live := [147, 15, 3, 0, 4, 5, 8, 10, 12, 9, 6, 14, 143, 144, 145, 146, 148]) (e' := [(147, .pointer (some ⟨b381, 0 + n * 2, none⟩)), (15, .pointer (some ⟨b362, 0, none⟩)), (3, .pointer (some ⟨b4, 0, none⟩)), (0, .slice AG gs.length cg), (4, .bool false), (5, .pointer (some ⟨d, 0, none⟩)), (8, .slice B8 5 c8), (10, .int .i64 (i : Nat)), (12, .slice B131 5 cap132), (9, .int .i64 (ls2 : Nat)), (6, .pointer (some ⟨s325, 0, none⟩)), (14, .int .i64 (n : Nat)), (143, .bool false), (144, .agg #[.int .i64 (((pageOf (ul326.getD n none))).lsn), .slice A353 (((pageOf (ul326.getD n none))).slots.length) c354]), (145, .slice B8 5 c8), (146, .int .i64 (n : Nat)), (148, .agg #[.int .i64 ((pageOf (vl.getD n none)).lsn), .slice B383 ((pageOf (vl.getD n none)).slots.length) cp384])]) (vs := [.int .i64 ((pageOf (vl.getD n none)).lsn), .slice B383 ((pageOf (vl.getD n none)).slots.length) cp384]) (obs := [(⟨b381, 0 + n * 2, none⟩, .int .i64 ((pageOf (vl.getD n none)).lsn)), (⟨b381, 0 + n * 2 + 1, none⟩, .slice B383 ((pageOf (vl.getD n none)).slots.length) cp384)]) (pd' := [(7, [(⟨b381, 0 + n * 2, none⟩, .int .i64 ((pageOf (vl.getD n none)).lsn)), (⟨b381, 0 + n * 2 + 1, none⟩, .slice B383 ((pageOf (vl.getD n none)).slots.length) cp384)]), (3, [(⟨b362, 0, none⟩, .int .i64 (((pageOf (ul326.getD n none))).lsn)), (⟨b362, 1, none⟩, .slice A353 (((pageOf (ul326.getD n none))).slots.length) c354)])]) hF390 (by kernel_rfl) (.cons hc385 (.cons hc386 .nil)) rfl ?_
                    intro a391 hF392
                    clear hF390
                    refine wpD_next (i := 8) (pd' := []) (dn' := [0, 1, 2, 3, 4, 5, 6, 7, 8]) (by kernel_rfl) rfl (by kernel_rfl) ?_
                    have hS393 : Sat w376 (slA slotT (.slice A353 (((pageOf (ul326.getD n none))).slots.length) c354) (((pageOf (ul326.getD n none))).slots) :: slA slotT (.slice B383 ((pageOf (vl.getD n none)).slots.length) cp384) ((pageOf (vl.getD n none)).slots) :: raw b362 (.cells #[.int .i64 (((pageOf (ul326.getD n none))).lsn), .slice A353 (((pageOf (ul326.getD n none))).slots.length) c354] 41 (0, 0)) :: storeA s325 ⟨d, 0, 3, ul326.map pageOf, pl327.life, false⟩ :: plateA d pl327 :: raw b4 (.cells #[.slice A0 p0.length c0, .slice A1 p1.length c1] 24 (0, 0)) :: slA groupT (.slice AG gs.length cg) gs :: slA intT (.slice A0 p0.length c0) p0 :: slA intT (.slice A1 p1.length c1) p1 :: rowA pageT 41 B8 c8 (mixL ul326 vl n) :: rowA pageT 41 B131 cap132 ((newL vl l).map pageOf) :: L) := (Sat_at (Sat_at hS388 0 rfl rfl) 2 rfl rfl)
                    refine op_call (fn := 13) (first := #[]) (cap := #[]) (args := #[.agg #[.int .i64 (((pageOf (ul326.getD n none))).lsn), .slice A353 (((pageOf (ul326.getD n none))).slots.length) c354], .agg #[.int .i64 ((pageOf (vl.getD n none)).lsn), .slice B383 ((pageOf (vl.getD n none)).slots.length) cp384]]) (all := #[.agg #[.int .i64 (((pageOf (ul326.getD n none))).lsn), .slice A353 (((pageOf (ul326.getD n none))).slots.length) c354], .agg #[.int .i64 ((pageOf (vl.getD n none)).lsn), .slice B383 ((pageOf (vl.getD n none)).slots.length) cp384]]) (pe := fun u => [(149, u), (147, .pointer (some ⟨b381, 0 + n * 2, none⟩)), (15, .pointer (some ⟨b362, 0, none⟩)), (3, .pointer (some ⟨b4, 0, none⟩)), (0, .slice AG gs.length cg), (4, .bool false), (5, .pointer (some ⟨d, 0, none⟩)), (8, .slice B8 5 c8), (10, .int .i64 (i : Nat)), (12, .slice B131 5 cap132), (9, .int .i64 (ls2 : Nat)), (6, .pointer (some ⟨s325, 0, none⟩)), (14, .int .i64 (n : Nat)), (143, .bool false), (144, .agg #[.int .i64 (((pageOf (ul326.getD n none))).lsn), .slice A353 (((pageOf (ul326.getD n none))).slots.length) c354]), (145, .slice B8 5 c8), (146, .int .i64 (n : Nat)), (148, .agg #[.int .i64 ((pageOf (vl.getD n none)).lsn), .slice B383 ((pageOf (vl.getD n none)).slots.length) cp384])]) hF392 (fun u => by kernel_rfl) (by kernel_rfl) (by kernel_rfl) (same_c (x := (pageOf (ul326.getD n none))) (y := (pageOf (vl.getD n none))) (fine_page hx328.1 (by omega)) (bad_page hBk.bad (by omega)).1 hS393) ?_
                    rintro u w396 a394 ⟨rfl, hS397⟩ hF395
                    clear hF392
                    clear hS377 hS387 hS388 hS393
                    have hS398 : Sat w396 (slA slotT (.slice A353 (((pageOf (ul326.getD n none))).slots.length) c354) (((pageOf (ul326.getD n none))).slots) :: slA slotT (.slice B383 ((pageOf (vl.getD n none)).slots.length) cp384) ((pageOf (vl.getD n none)).slots) :: raw b362 (.cells #[.int .i64 (((pageOf (ul326.getD n none))).lsn), .slice A353 (((pageOf (ul326.getD n none))).slots.length) c354] 41 (0, 0)) :: storeA s325 ⟨d, 0, 3, ul326.map pageOf, pl327.life, false⟩ :: plateA d pl327 :: raw b4 (.cells #[.slice A0 p0.length c0, .slice A1 p1.length c1] 24 (0, 0)) :: slA groupT (.slice AG gs.length cg) gs :: slA intT (.slice A0 p0.length c0) p0 :: slA intT (.slice A1 p1.length c1) p1 :: rowA pageT 41 B8 c8 (mixL ul326 vl n) :: rowA pageT 41 B131 cap132 ((newL vl l).map pageOf) :: L) := hS397
                    refine ⟨.nil, ?_⟩
                    refine batchD_spec (is := [9, 10]) (dn := [0, 1, 2, 3, 4, 5, 6, 7, 8]) (dn' := [0, 1, 2, 3, 4, 5, 6, 7, 8, 9, 10]) (live := [149, 147, 15, 3, 0, 4, 5, 8, 10, 12, 9, 6, 14, 143, 144, 145, 146, 148, 150, 151]) (e' := [(149, .bool (decide ((pageOf (ul326.getD n none)) = (pageOf (vl.getD n none))))), (147, .pointer (some ⟨b381, 0 + n * 2, none⟩)), (15, .pointer (some ⟨b362, 0, none⟩)), (3, .pointer (some ⟨b4, 0, none⟩)), (0, .slice AG gs.length cg), (4, .bool false), (5, .pointer (some ⟨d, 0, none⟩)), (8, .slice B8 5 c8), (10, .int .i64 (i : Nat)), (12, .slice B131 5 cap132), (9, .int .i64 (ls2 : Nat)), (6, .pointer (some ⟨s325, 0, none⟩)), (14, .int .i64 (n : Nat)), (143, .bool false), (144, .agg #[.int .i64 (((pageOf (ul326.getD n none))).lsn), .slice A353 (((pageOf (ul326.getD n none))).slots.length) c354]), (145, .slice B8 5 c8), (146, .int .i64 (n : Nat)), (148, .agg #[.int .i64 ((pageOf (vl.getD n none)).lsn), .slice B383 ((pageOf (vl.getD n none)).slots.length) cp384]), (150, .bool (!(decide ((pageOf (ul326.getD n none)) = (pageOf (vl.getD n none)))))), (151, .bool (!(decide ((pageOf (ul326.getD n none)) = (pageOf (vl.getD n none))))))]) (vs := []) (obs := []) (pd' := []) hF395 (by kernel_rfl) .nil rfl ?_
                    intro a399 hF400
                    clear hF395
                    by_cases h401 : (pageOf (ul326.getD n none)) = (pageOf (vl.getD n none))
                    ·
                      have hb402 : (!(decide ((pageOf (ul326.getD n none)) = (pageOf (vl.getD n none))))) = false := (by rw [decide_eq_true h401]; rfl)
                      rw [hb402] at hF400
                      refine batchD_spec (is := [11, 12, 13, 14, 15, 16, 17, 18, 19]) (dn := [0, 1, 2, 3, 4, 5, 6, 7, 8, 9, 10]) (dn' := [0, 1, 2, 3, 4, 5, 6, 7, 8, 9, 10, 11, 12, 13, 14, 15, 16, 17, 18, 19]) (live := [149, 147, 15, 3, 0, 4, 5, 8, 10, 12, 9, 6, 14, 144, 145, 146, 148, 150, 151, 152, 153, 154, 155, 156, 157, 158, 159, 160]) (e' := [(149, .bool (decide ((pageOf (ul326.getD n none)) = (pageOf (vl.getD n none))))), (147, .pointer (some ⟨b381, 0 + n * 2, none⟩)), (15, .pointer (some ⟨b362, 0, none⟩)), (3, .pointer (some ⟨b4, 0, none⟩)), (0, .slice AG gs.length cg), (4, .bool false), (5, .pointer (some ⟨d, 0, none⟩)), (8, .slice B8 5 c8), (10, .int .i64 (i : Nat)), (12, .slice B131 5 cap132), (9, .int .i64 (ls2 : Nat)), (6, .pointer (some ⟨s325, 0, none⟩)), (14, .int .i64 (n : Nat)), (144, .agg #[.int .i64 (((pageOf (ul326.getD n none))).lsn), .slice A353 (((pageOf (ul326.getD n none))).slots.length) c354]), (145, .slice B8 5 c8), (146, .int .i64 (n : Nat)), (148, .agg #[.int .i64 ((pageOf (vl.getD n none)).lsn), .slice B383 ((pageOf (vl.getD n none)).slots.length) cp384]), (150, .bool false), (151, .bool false), (152, undef), (153, undef), (154, undef), (155, undef), (156, undef), (157, undef), (158, undef), (159, .bool false), (160, .bool false)]) (vs := []) (obs := []) (pd' := []) hF400 (by kernel_rfl) .nil rfl ?_
                      intro a403 hF404
                      clear hF400
                      refine wpD_done (by kernel_rfl) ?_
                      refine nrm_then ?_
                      refine cond_no hF404 rfl ?_
                      refine wp_skip ?_
                      refine nrm_then ?_
                      have hnn : n < 5 := by omega
                      refine reg_text (l := [0, 1, 2, 3, 4]) (by kernel_rfl) ?_
                      refine batch_spec (is := [0, 1, 2]) (rest := [3, 4]) (live := [149, 147, 3, 0, 4, 5, 8, 10, 12, 9, 6, 14, 144, 145, 146, 148, 150, 151, 152, 153, 154, 155, 156, 157, 158, 159, 161, 162, 163]) (e' := [(149, .bool (decide ((pageOf (ul326.getD n none)) = (pageOf (vl.getD n none))))), (147, .pointer (some ⟨b381, 0 + n * 2, none⟩)), (3, .pointer (some ⟨b4, 0, none⟩)), (0, .slice AG gs.length cg), (4, .bool false), (5, .pointer (some ⟨d, 0, none⟩)), (8, .slice B8 5 c8), (10, .int .i64 (i : Nat)), (12, .slice B131 5 cap132), (9, .int .i64 (ls2 : Nat)), (6, .pointer (some ⟨s325, 0, none⟩)), (14, .int .i64 (n : Nat)), (144, .agg #[.int .i64 (((pageOf (ul326.getD n none))).lsn), .slice A353 (((pageOf (ul326.getD n none))).slots.length) c354]), (145, .slice B8 5 c8), (146, .int .i64 (n : Nat)), (148, .agg #[.int .i64 ((pageOf (vl.getD n none)).lsn), .slice B383 ((pageOf (vl.getD n none)).slots.length) cp384]), (150, .bool false), (151, .bool false), (152, undef), (153, undef), (154, undef), (155, undef), (156, undef), (157, undef), (158, undef), (159, .bool false), (161, .slice B8 5 c8), (162, .int .i64 (n : Nat)), (163, .agg #[.int .i64 (((pageOf (ul326.getD n none))).lsn), .slice A353 (((pageOf (ul326.getD n none))).slots.length) c354])]) (vs := [.int .i64 (((pageOf (ul326.getD n none))).lsn), .slice A353 (((pageOf (ul326.getD n none))).slots.length) c354]) (obs := [(⟨b362, 0, none⟩, .int .i64 (((pageOf (ul326.getD n none))).lsn)), (⟨b362, 1, none⟩, .slice A353 (((pageOf (ul326.getD n none))).slots.length) c354)]) hF404 (by kernel_rfl) (.cons (ob hS398 2 rfl rfl) (.cons (ob hS398 2 rfl rfl) .nil)) ?_
                      intro a405 hF406
                      clear hF404
                      refine ops_next ?_
                      obtain ⟨B407, cp408, hc409, hc410, hS411⟩ := page_row heq382 hS398 9 rfl hmx
                      have hS412 : Sat w396 (slA slotT (.slice B407 ((pageOf (vl.getD n none)).slots.length) cp408) ((pageOf (vl.getD n none)).slots) :: slA slotT (.slice A353 (((pageOf (ul326.getD n none))).slots.length) c354) (((pageOf (ul326.getD n none))).slots) :: slA slotT (.slice B383 ((pageOf (vl.getD n none)).slots.length) cp384) ((pageOf (vl.getD n none)).slots) :: raw b362 (.cells #[.int .i64 (((pageOf (ul326.getD n none))).lsn), .slice A353 (((pageOf (ul326.getD n none))).slots.length) c354] 41 (0, 0)) :: storeA s325 ⟨d, 0, 3, ul326.map pageOf, pl327.life, false⟩ :: plateA d pl327 :: raw b4 (.cells #[.slice A0 p0.length c0, .slice A1 p1.length c1] 24 (0, 0)) :: slA groupT (.slice AG gs.length cg) gs :: slA intT (.slice A0 p0.length c0) p0 :: slA intT (.slice A1 p1.length c1) p1 :: rowA pageT 41 B8 c8 (mixL ul326 vl n) :: rowA pageT 41 B131 cap132 ((newL vl l).map pageOf) :: L) := hS411
                      refine op_value (u := .pointer (some ⟨b381, 0 + n * 2, none⟩)) (v := .indexAddr 32 (.slice B8 5 c8) (.int .i64 (n : Nat))) (e' := [(164, .pointer (some ⟨b381, 0 + n * 2, none⟩)), (149, .bool (decide ((pageOf (ul326.getD n none)) = (pageOf (vl.getD n none))))), (147, .pointer (some ⟨b381, 0 + n * 2, none⟩)), (3, .pointer (some ⟨b4, 0, none⟩)), (0, .slice AG gs.length cg), (4, .bool false), (5, .pointer (some ⟨d, 0, none⟩)), (8, .slice B8 5 c8), (10, .int .i64 (i : Nat)), (12, .slice B131 5 cap132), (9, .int .i64 (ls2 : Nat)), (6, .pointer (some ⟨s325, 0, none⟩)), (14, .int .i64 (n : Nat)), (144, .agg #[.int .i64 (((pageOf (ul326.getD n none))).lsn), .slice A353 (((pageOf (ul326.getD n none))).slots.length) c354]), (145, .slice B8 5 c8), (146, .int .i64 (n : Nat)), (148, .agg #[.int .i64 ((pageOf (vl.getD n none)).lsn), .slice B383 ((pageOf (vl.getD n none)).slots.length) cp384]), (150, .bool false), (151, .bool false), (152, undef), (153, undef), (154, undef), (155, undef), (156, undef), (157, undef), (158, undef), (159, .bool false), (161, .slice B8 5 c8), (162, .int .i64 (n : Nat)), (163, .agg #[.int .i64 (((pageOf (ul326.getD n none))).lsn), .slice A353 (((pageOf (ul326.getD n none))).slots.length) c354])]) hF406 (by kernel_rfl) (.value ((run_indexAddrA (el := 41) (sz := 2) (off := 0) (k := n) heq382 Tryd.underlying32 (by kernel_rfl) (by rfl) (by omega)) _)) ?_
                      intro a413 hF414
                      clear hF406
                      refine ops_next ?_
                      obtain ⟨w415, hr416, hS417⟩ := comes_rowSetA (P := Tryd.prog) (T := pageT) (t' := 41) (k := n) (o := 0 + n * 2) (x := (⟨((pageOf (ul326.getD n none))).lsn, ((pageOf (ul326.getD n none))).slots⟩ : Page)) (v := .agg #[.int .i64 (((pageOf (ul326.getD n none))).lsn), .slice A353 (((pageOf (ul326.getD n none))).slots.length) c354]) (vs := [.int .i64 (((pageOf (ul326.getD n none))).lsn), .slice A353 (((pageOf (ul326.getD n none))).slots.length) c354]) heq382 hS412 10 rfl rfl rfl (by kernel_rfl) (by omega) (Nat.zero_add _) (fun h => Sat_out 1 h rfl (fun g hg => Cells.single ⟨_, rfl, hg⟩))
                      refine op_value (u := undef) (e' := [(164, .pointer (some ⟨b381, 0 + n * 2, none⟩)), (149, .bool (decide ((pageOf (ul326.getD n none)) = (pageOf (vl.getD n none))))), (147, .pointer (some ⟨b381, 0 + n * 2, none⟩)), (3, .pointer (some ⟨b4, 0, none⟩)), (0, .slice AG gs.length cg), (4, .bool false), (5, .pointer (some ⟨d, 0, none⟩)), (8, .slice B8 5 c8), (10, .int .i64 (i : Nat)), (12, .slice B131 5 cap132), (9, .int .i64 (ls2 : Nat)), (6, .pointer (some ⟨s325, 0, none⟩)), (14, .int .i64 (n : Nat)), (144, .agg #[.int .i64 (((pageOf (ul326.getD n none))).lsn), .slice A353 (((pageOf (ul326.getD n none))).slots.length) c354]), (145, .slice B8 5 c8), (146, .int .i64 (n : Nat)), (148, .agg #[.int .i64 ((pageOf (vl.getD n none)).lsn), .slice B383 ((pageOf (vl.getD n none)).slots.length) cp384]), (150, .bool false), (151, .bool false), (152, undef), (153, undef), (154, undef), (155, undef), (156, undef), (157, undef), (158, undef), (159, .bool false), (161, .slice B8 5 c8), (162, .int .i64 (n : Nat)), (163, .agg #[.int .i64 (((pageOf (ul326.getD n none))).lsn), .slice A353 (((pageOf (ul326.getD n none))).slots.length) c354])]) hF414 (by kernel_rfl) hr416 ?_
                      intro a418 hF419
                      clear hF414 hr416
                      clear hS397 hS398 hS411 hS412
                      have hS420 : Sat w415 (rowA pageT 41 B8 c8 ((mixL ul326 vl n).set n (⟨((pageOf (ul326.getD n none))).lsn, ((pageOf (ul326.getD n none))).slots⟩ : Page)) :: slA slotT (.slice B407 ((pageOf (vl.getD n none)).slots.length) cp408) ((pageOf (vl.getD n none)).slots) :: slA slotT (.slice A353 (((pageOf (ul326.getD n none))).slots.length) c354) (((pageOf (ul326.getD n none))).slots) :: slA slotT (.slice B383 ((pageOf (vl.getD n none)).slots.length) cp384) ((pageOf (vl.getD n none)).slots) :: raw b362 (.cells #[.int .i64 (((pageOf (ul326.getD n none))).lsn), .slice A353 (((pageOf (ul326.getD n none))).slots.length) c354] 41 (0, 0)) :: storeA s325 ⟨d, 0, 3, ul326.map pageOf, pl327.life, false⟩ :: plateA d pl327 :: raw b4 (.cells #[.slice A0 p0.length c0, .slice A1 p1.length c1] 24 (0, 0)) :: slA groupT (.slice AG gs.length cg) gs :: slA intT (.slice A0 p0.length c0) p0 :: slA intT (.slice A1 p1.length c1) p1 :: rowA pageT 41 B131 cap132 ((newL vl l).map pageOf) :: L) := hS417
                      refine ops_done ?_
                      refine nrm_block ?_
                      refine nrm_then ?_
                      refine reg_text (l := [0, 1, 2]) (by kernel_rfl) ?_
                      refine batch_spec (is := [0, 1]) (rest := [2]) (live := [149, 147, 3, 0, 4, 5, 8, 10, 12, 9, 6, 144, 145, 146, 148, 150, 151, 152, 153, 154, 155, 156, 157, 158, 159, 134]) (e' := [(149, .bool (decide ((pageOf (ul326.getD n none)) = (pageOf (vl.getD n none))))), (147, .pointer (some ⟨b381, 0 + n * 2, none⟩)), (3, .pointer (some ⟨b4, 0, none⟩)), (0, .slice AG gs.length cg), (4, .bool false), (5, .pointer (some ⟨d, 0, none⟩)), (8, .slice B8 5 c8), (10, .int .i64 (i : Nat)), (12, .slice B131 5 cap132), (9, .int .i64 (ls2 : Nat)), (6, .pointer (some ⟨s325, 0, none⟩)), (144, .agg #[.int .i64 (((pageOf (ul326.getD n none))).lsn), .slice A353 (((pageOf (ul326.getD n none))).slots.length) c354]), (145, .slice B8 5 c8), (146, .int .i64 (n : Nat)), (148, .agg #[.int .i64 ((pageOf (vl.getD n none)).lsn), .slice B383 ((pageOf (vl.getD n none)).slots.length) cp384]), (150, .bool false), (151, .bool false), (152, undef), (153, undef), (154, undef), (155, undef), (156, undef), (157, undef), (158, undef), (159, .bool false), (134, .int .i64 (IntKind.i64.wrap (((n : Nat) : Int) + 1)))]) (vs := []) (obs := []) hF419 (by kernel_rfl) .nil ?_
                      intro a421 hF422
                      clear hF419
                      have hw423 : IntKind.i64.wrap (((n : Nat) : Int) + 1) = ((n + 1 : Nat) : Int) := by rw [wrap_i64 (by omega) (by omega)]; omega
                      rw [hw423] at hF422
                      refine batch_spec (is := [2]) (rest := []) (live := [149, 147, 3, 0, 4, 5, 8, 10, 12, 9, 6, 144, 145, 146, 148, 150, 151, 152, 153, 154, 155, 156, 157, 158, 159, 14]) (e' := [(149, .bool (decide ((pageOf (ul326.getD n none)) = (pageOf (vl.getD n none))))), (147, .pointer (some ⟨b381, 0 + n * 2, none⟩)), (3, .pointer (some ⟨b4, 0, none⟩)), (0, .slice AG gs.length cg), (4, .bool false), (5, .pointer (some ⟨d, 0, none⟩)), (8, .slice B8 5 c8), (10, .int .i64 (i : Nat)), (12, .slice B131 5 cap132), (9, .int .i64 (ls2 : Nat)), (6, .pointer (some ⟨s325, 0, none⟩)), (144, .agg #[.int .i64 (((pageOf (ul326.getD n none))).lsn), .slice A353 (((pageOf (ul326.getD n none))).slots.length) c354]), (145, .slice B8 5 c8), (146, .int .i64 (n : Nat)), (148, .agg #[.int .i64 ((pageOf (vl.getD n none)).lsn), .slice B383 ((pageOf (vl.getD n none)).slots.length) cp384]), (150, .bool false), (151, .bool false), (152, undef), (153, undef), (154, undef), (155, undef), (156, undef), (157, undef), (158, undef), (159, .bool false), (14, .int .i64 (n + 1 : Nat))]) (vs := []) (obs := []) hF422 (by kernel_rfl) .nil ?_
                      intro a424 hF425
                      clear hF422
                      refine ops_done ?_
                      have hS426 : Sat w415 (raw b4 (.cells #[.slice A0 p0.length c0, .slice A1 p1.length c1] 24 (0, 0)) :: slA groupT (.slice AG gs.length cg) gs :: slA intT (.slice A0 p0.length c0) p0 :: slA intT (.slice A1 p1.length c1) p1 :: rowA pageT 41 B8 c8 ((mixL ul326 vl n).set n (⟨((pageOf (ul326.getD n none))).lsn, ((pageOf (ul326.getD n none))).slots⟩ : Page)) :: rowA pageT 41 B131 cap132 ((newL vl l).map pageOf) :: storeA s325 ⟨d, 0, 3, ul326.map pageOf, pl327.life, false⟩ :: plateA d pl327 :: slA slotT (.slice B407 ((pageOf (vl.getD n none)).slots.length) cp408) ((pageOf (vl.getD n none)).slots) :: slA slotT (.slice A353 (((pageOf (ul326.getD n none))).slots.length) c354) (((pageOf (ul326.getD n none))).slots) :: slA slotT (.slice B383 ((pageOf (vl.getD n none)).slots.length) cp384) ((pageOf (vl.getD n none)).slots) :: raw b362 (.cells #[.int .i64 (((pageOf (ul326.getD n none))).lsn), .slice A353 (((pageOf (ul326.getD n none))).slots.length) c354] 41 (0, 0)) :: L) := (Sat_at (Sat_at (Sat_at (Sat_at (Sat_at (Sat_at (Sat_at (Sat_at hS420 6 rfl rfl) 6 rfl rfl) 11 rfl rfl) 3 rfl rfl) 11 rfl rfl) 11 rfl rfl) 11 rfl rfl) 11 rfl rfl)
                      refine nrm_then ⟨_, ?_, n + 1, rfl, (by omega), (Fits.restr (r := [(3, .pointer (some ⟨b4, 0, none⟩)), (0, .slice AG gs.length cg), (4, .bool false), (5, .pointer (some ⟨d, 0, none⟩)), (8, .slice B8 5 c8), (10, .int .i64 (i : Nat)), (12, .slice B131 5 cap132), (9, .int .i64 (ls2 : Nat)), (6, .pointer (some ⟨s325, 0, none⟩)), (14, .int .i64 (n + 1 : Nat))]) hF425 (ks := [3, 0, 4, 5, 8, 10, 12, 9, 6, 14]) (by kernel_rfl)).cast (by rfl), (by rw [← mix_set hx328.1.stab.len hF.stab.len (by omega)]; exact (Sat_at (Sat_at (Sat_at (Sat_at hS426 11 rfl rfl).drop 10 rfl rfl).drop 9 rfl rfl).drop 8 rfl rfl).drop)⟩
                      omega
                    ·
                      have hb427 : (!(decide ((pageOf (ul326.getD n none)) = (pageOf (vl.getD n none))))) = true := (by rw [decide_eq_false h401]; rfl)
                      rw [hb427] at hF400
                      refine batchD_spec (is := [11, 12, 13]) (dn := [0, 1, 2, 3, 4, 5, 6, 7, 8, 9, 10]) (dn' := [0, 1, 2, 3, 4, 5, 6, 7, 8, 9, 10, 11, 12, 13]) (live := [149, 147, 15, 3, 0, 4, 5, 8, 10, 12, 9, 6, 14, 143, 144, 145, 146, 148, 150, 151, 152, 153, 154]) (e' := [(149, .bool (decide ((pageOf (ul326.getD n none)) = (pageOf (vl.getD n none))))), (147, .pointer (some ⟨b381, 0 + n * 2, none⟩)), (15, .pointer (some ⟨b362, 0, none⟩)), (3, .pointer (some ⟨b4, 0, none⟩)), (0, .slice AG gs.length cg), (4, .bool false), (5, .pointer (some ⟨d, 0, none⟩)), (8, .slice B8 5 c8), (10, .int .i64 (i : Nat)), (12, .slice B131 5 cap132), (9, .int .i64 (ls2 : Nat)), (6, .pointer (some ⟨s325, 0, none⟩)), (14, .int .i64 (n : Nat)), (143, .bool false), (144, .agg #[.int .i64 (((pageOf (ul326.getD n none))).lsn), .slice A353 (((pageOf (ul326.getD n none))).slots.length) c354]), (145, .slice B8 5 c8), (146, .int .i64 (n : Nat)), (148, .agg #[.int .i64 ((pageOf (vl.getD n none)).lsn), .slice B383 ((pageOf (vl.getD n none)).slots.length) cp384]), (150, .bool true), (151, .bool true), (152, .agg #[.int .i64 (((pageOf (ul326.getD n none))).lsn), .slice A353 (((pageOf (ul326.getD n none))).slots.length) c354]), (153, .slice B131 5 cap132), (154, .int .i64 (n : Nat))]) (vs := [.int .i64 (((pageOf (ul326.getD n none))).lsn), .slice A353 (((pageOf (ul326.getD n none))).slots.length) c354]) (obs := [(⟨b362, 0, none⟩, .int .i64 (((pageOf (ul326.getD n none))).lsn)), (⟨b362, 1, none⟩, .slice A353 (((pageOf (ul326.getD n none))).slots.length) c354)]) (pd' := [(11, [(⟨b362, 0, none⟩, .int .i64 (((pageOf (ul326.getD n none))).lsn)), (⟨b362, 1, none⟩, .slice A353 (((pageOf (ul326.getD n none))).slots.length) c354)])]) hF400 (by kernel_rfl) (.cons (ob hS398 2 rfl rfl) (.cons (ob hS398 2 rfl rfl) .nil)) rfl ?_
                      intro a428 hF429
                      clear hF400
                      obtain ⟨b430, heq431⟩ := row_addr (k := n) hS398 10 rfl (by omega)
                      obtain ⟨B432, cp433, hc434, hc435, hS436⟩ := page_row heq431 hS398 10 rfl hnx
                      have hS437 : Sat w396 (slA slotT (.slice B432 ((pageOf ((newL vl l).getD n none)).slots.length) cp433) ((pageOf ((newL vl l).getD n none)).slots) :: slA slotT (.slice A353 (((pageOf (ul326.getD n none))).slots.length) c354) (((pageOf (ul326.getD n none))).slots) :: slA slotT (.slice B383 ((pageOf (vl.getD n none)).slots.length) cp384) ((pageOf (vl.getD n none)).slots) :: raw b362 (.cells #[.int .i64 (((pageOf (ul326.getD n none))).lsn), .slice A353 (((pageOf (ul326.getD n none))).slots.length) c354] 41 (0, 0)) :: storeA s325 ⟨d, 0, 3, ul326.map pageOf, pl327.life, false⟩ :: plateA d pl327 :: raw b4 (.cells #[.slice A0 p0.length c0, .slice A1 p1.length c1] 24 (0, 0)) :: slA groupT (.slice AG gs.length cg) gs :: slA intT (.slice A0 p0.length c0) p0 :: slA intT (.slice A1 p1.length c1) p1 :: rowA pageT 41 B8 c8 (mixL ul326 vl n) :: rowA pageT 41 B131 cap132 ((newL vl l).map pageOf) :: L) := hS436
                      refine wpD_one (i := 14) (u := .pointer (some ⟨b430, 0 + n * 2, none⟩)) (v := .indexAddr 32 (.slice B131 5 cap132) (.int .i64 (n : Nat))) (e' := [(155, .pointer (some ⟨b430, 0 + n * 2, none⟩)), (149, .bool (decide ((pageOf (ul326.getD n none)) = (pageOf (vl.getD n none))))), (147, .pointer (some ⟨b381, 0 + n * 2, none⟩)), (15, .pointer (some ⟨b362, 0, none⟩)), (3, .pointer (some ⟨b4, 0, none⟩)), (0, .slice AG gs.length cg), (4, .bool false), (5, .pointer (some ⟨d, 0, none⟩)), (8, .slice B8 5 c8), (10, .int .i64 (i : Nat)), (12, .slice B131 5 cap132), (9, .int .i64 (ls2 : Nat)), (6, .pointer (some ⟨s325, 0, none⟩)), (14, .int .i64 (n : Nat)), (143, .bool false), (144, .agg #[.int .i64 (((pageOf (ul326.getD n none))).lsn), .slice A353 (((pageOf (ul326.getD n none))).slots.length) c354]), (145, .slice B8 5 c8), (146, .int .i64 (n : Nat)), (148, .agg #[.int .i64 ((pageOf (vl.getD n none)).lsn), .slice B383 ((pageOf (vl.getD n none)).slots.length) cp384]), (150, .bool true), (151, .bool true), (152, .agg #[.int .i64 (((pageOf (ul326.getD n none))).lsn), .slice A353 (((pageOf (ul326.getD n none))).slots.length) c354]), (153, .slice B131 5 cap132), (154, .int .i64 (n : Nat))]) (obs := []) (dn' := [0, 1, 2, 3, 4, 5, 6, 7, 8, 9, 10, 11, 12, 13, 14]) hF429 (by kernel_rfl) (by kernel_rfl) rfl (fun w _ => (run_indexAddrA (el := 41) (sz := 2) (off := 0) (k := n) heq431 Tryd.underlying32 (by kernel_rfl) (by rfl) (by omega)) w) .nil ?_
                      refine fun a438 hF439 => wpD_filter ?_
                      show wpD _ _ _ _ [(11, [(⟨b362, 0, none⟩, .int .i64 (((pageOf (ul326.getD n none))).lsn)), (⟨b362, 1, none⟩, .slice A353 (((pageOf (ul326.getD n none))).slots.length) c354)])] _ _ _
                      clear hF429
                      refine batchD_spec (is := [15]) (dn := [0, 1, 2, 3, 4, 5, 6, 7, 8, 9, 10, 11, 12, 13, 14]) (dn' := [0, 1, 2, 3, 4, 5, 6, 7, 8, 9, 10, 11, 12, 13, 14, 15]) (live := [155, 149, 147, 15, 3, 0, 4, 5, 8, 10, 12, 9, 6, 14, 143, 144, 145, 146, 148, 150, 151, 152, 153, 154, 156]) (e' := [(155, .pointer (some ⟨b430, 0 + n * 2, none⟩)), (149, .bool (decide ((pageOf (ul326.getD n none)) = (pageOf (vl.getD n none))))), (147, .pointer (some ⟨b381, 0 + n * 2, none⟩)), (15, .pointer (some ⟨b362, 0, none⟩)), (3, .pointer (some ⟨b4, 0, none⟩)), (0, .slice AG gs.length cg), (4, .bool false), (5, .pointer (some ⟨d, 0, none⟩)), (8, .slice B8 5 c8), (10, .int .i64 (i : Nat)), (12, .slice B131 5 cap132), (9, .int .i64 (ls2 : Nat)), (6, .pointer (some ⟨s325, 0, none⟩)), (14, .int .i64 (n : Nat)), (143, .bool false), (144, .agg #[.int .i64 (((pageOf (ul326.getD n none))).lsn), .slice A353 (((pageOf (ul326.getD n none))).slots.length) c354]), (145, .slice B8 5 c8), (146, .int .i64 (n : Nat)), (148, .agg #[.int .i64 ((pageOf (vl.getD n none)).lsn), .slice B383 ((pageOf (vl.getD n none)).slots.length) cp384]), (150, .bool true), (151, .bool true), (152, .agg #[.int .i64 (((pageOf (ul326.getD n none))).lsn), .slice A353 (((pageOf (ul326.getD n none))).slots.length) c354]), (153, .slice B131 5 cap132), (154, .int .i64 (n : Nat)), (156, .agg #[.int .i64 ((pageOf ((newL vl l).getD n none)).lsn), .slice B432 ((pageOf ((newL vl l).getD n none)).slots.length) cp433])]) (vs := [.int .i64 ((pageOf ((newL vl l).getD n none)).lsn), .slice B432 ((pageOf ((newL vl l).getD n none)).slots.length) cp433]) (obs := [(⟨b430, 0 + n * 2, none⟩, .int .i64 ((pageOf ((newL vl l).getD n none)).lsn)), (⟨b430, 0 + n * 2 + 1, none⟩, .slice B432 ((pageOf ((newL vl l).getD n none)).slots.length) cp433)]) (pd' := [(15, [(⟨b430, 0 + n * 2, none⟩, .int .i64 ((pageOf ((newL vl l).getD n none)).lsn)), (⟨b430, 0 + n * 2 + 1, none⟩, .slice B432 ((pageOf ((newL vl l).getD n none)).slots.length) cp433)]), (11, [(⟨b362, 0, none⟩, .int .i64 (((pageOf (ul326.getD n none))).lsn)), (⟨b362, 1, none⟩, .slice A353 (((pageOf (ul326.getD n none))).slots.length) c354)])]) hF439 (by kernel_rfl) (.cons hc434 (.cons hc435 .nil)) rfl ?_
                      intro a440 hF441
                      clear hF439
                      refine wpD_next (i := 16) (pd' := []) (dn' := [0, 1, 2, 3, 4, 5, 6, 7, 8, 9, 10, 11, 12, 13, 14, 15, 16]) (by kernel_rfl) rfl (by kernel_rfl) ?_
                      have hS442 : Sat w396 (slA slotT (.slice A353 (((pageOf (ul326.getD n none))).slots.length) c354) (((pageOf (ul326.getD n none))).slots) :: slA slotT (.slice B432 ((pageOf ((newL vl l).getD n none)).slots.length) cp433) ((pageOf ((newL vl l).getD n none)).slots) :: slA slotT (.slice B383 ((pageOf (vl.getD n none)).slots.length) cp384) ((pageOf (vl.getD n none)).slots) :: raw b362 (.cells #[.int .i64 (((pageOf (ul326.getD n none))).lsn), .slice A353 (((pageOf (ul326.getD n none))).slots.length) c354] 41 (0, 0)) :: storeA s325 ⟨d, 0, 3, ul326.map pageOf, pl327.life, false⟩ :: plateA d pl327 :: raw b4 (.cells #[.slice A0 p0.length c0, .slice A1 p1.length c1] 24 (0, 0)) :: slA groupT (.slice AG gs.length cg) gs :: slA intT (.slice A0 p0.length c0) p0 :: slA intT (.slice A1 p1.length c1) p1 :: rowA pageT 41 B8 c8 (mixL ul326 vl n) :: rowA pageT 41 B131 cap132 ((newL vl l).map pageOf) :: L) := (Sat_at (Sat_at hS437 0 rfl rfl) 1 rfl rfl)
                      refine op_call (fn := 13) (first := #[]) (cap := #[]) (args := #[.agg #[.int .i64 (((pageOf (ul326.getD n none))).lsn), .slice A353 (((pageOf (ul326.getD n none))).slots.length) c354], .agg #[.int .i64 ((pageOf ((newL vl l).getD n none)).lsn), .slice B432 ((pageOf ((newL vl l).getD n none)).slots.length) cp433]]) (all := #[.agg #[.int .i64 (((pageOf (ul326.getD n none))).lsn), .slice A353 (((pageOf (ul326.getD n none))).slots.length) c354], .agg #[.int .i64 ((pageOf ((newL vl l).getD n none)).lsn), .slice B432 ((pageOf ((newL vl l).getD n none)).slots.length) cp433]]) (pe := fun u => [(157, u), (155, .pointer (some ⟨b430, 0 + n * 2, none⟩)), (149, .bool (decide ((pageOf (ul326.getD n none)) = (pageOf (vl.getD n none))))), (147, .pointer (some ⟨b381, 0 + n * 2, none⟩)), (15, .pointer (some ⟨b362, 0, none⟩)), (3, .pointer (some ⟨b4, 0, none⟩)), (0, .slice AG gs.length cg), (4, .bool false), (5, .pointer (some ⟨d, 0, none⟩)), (8, .slice B8 5 c8), (10, .int .i64 (i : Nat)), (12, .slice B131 5 cap132), (9, .int .i64 (ls2 : Nat)), (6, .pointer (some ⟨s325, 0, none⟩)), (14, .int .i64 (n : Nat)), (143, .bool false), (144, .agg #[.int .i64 (((pageOf (ul326.getD n none))).lsn), .slice A353 (((pageOf (ul326.getD n none))).slots.length) c354]), (145, .slice B8 5 c8), (146, .int .i64 (n : Nat)), (148, .agg #[.int .i64 ((pageOf (vl.getD n none)).lsn), .slice B383 ((pageOf (vl.getD n none)).slots.length) cp384]), (150, .bool true), (151, .bool true), (152, .agg #[.int .i64 (((pageOf (ul326.getD n none))).lsn), .slice A353 (((pageOf (ul326.getD n none))).slots.length) c354]), (153, .slice B131 5 cap132), (154, .int .i64 (n : Nat)), (156, .agg #[.int .i64 ((pageOf ((newL vl l).getD n none)).lsn), .slice B432 ((pageOf ((newL vl l).getD n none)).slots.length) cp433])]) hF441 (fun u => by kernel_rfl) (by kernel_rfl) (by kernel_rfl) (same_c (x := (pageOf (ul326.getD n none))) (y := (pageOf ((newL vl l).getD n none))) (fine_page hx328.1 (by omega)) (bad_page hBk.bad (by omega)).2 hS442) ?_
                      rintro u w445 a443 ⟨rfl, hS446⟩ hF444
                      clear hF441
                      clear hS397 hS398 hS436 hS437 hS442
                      have hS447 : Sat w445 (slA slotT (.slice A353 (((pageOf (ul326.getD n none))).slots.length) c354) (((pageOf (ul326.getD n none))).slots) :: slA slotT (.slice B432 ((pageOf ((newL vl l).getD n none)).slots.length) cp433) ((pageOf ((newL vl l).getD n none)).slots) :: slA slotT (.slice B383 ((pageOf (vl.getD n none)).slots.length) cp384) ((pageOf (vl.getD n none)).slots) :: raw b362 (.cells #[.int .i64 (((pageOf (ul326.getD n none))).lsn), .slice A353 (((pageOf (ul326.getD n none))).slots.length) c354] 41 (0, 0)) :: storeA s325 ⟨d, 0, 3, ul326.map pageOf, pl327.life, false⟩ :: plateA d pl327 :: raw b4 (.cells #[.slice A0 p0.length c0, .slice A1 p1.length c1] 24 (0, 0)) :: slA groupT (.slice AG gs.length cg) gs :: slA intT (.slice A0 p0.length c0) p0 :: slA intT (.slice A1 p1.length c1) p1 :: rowA pageT 41 B8 c8 (mixL ul326 vl n) :: rowA pageT 41 B131 cap132 ((newL vl l).map pageOf) :: L) := hS446
                      refine ⟨.nil, ?_⟩
                      refine batchD_spec (is := [17, 18, 19]) (dn := [0, 1, 2, 3, 4, 5, 6, 7, 8, 9, 10, 11, 12, 13, 14, 15, 16]) (dn' := [0, 1, 2, 3, 4, 5, 6, 7, 8, 9, 10, 11, 12, 13, 14, 15, 16, 17, 18, 19]) (live := [157, 155, 149, 147, 15, 3, 0, 4, 5, 8, 10, 12, 9, 6, 14, 144, 145, 146, 148, 150, 151, 152, 153, 154, 156, 158, 159, 160]) (e' := [(157, .bool (decide ((pageOf (ul326.getD n none)) = (pageOf ((newL vl l).getD n none))))), (155, .pointer (some ⟨b430, 0 + n * 2, none⟩)), (149, .bool (decide ((pageOf (ul326.getD n none)) = (pageOf (vl.getD n none))))), (147, .pointer (some ⟨b381, 0 + n * 2, none⟩)), (15, .pointer (some ⟨b362, 0, none⟩)), (3, .pointer (some ⟨b4, 0, none⟩)), (0, .slice AG gs.length cg), (4, .bool false), (5, .pointer (some ⟨d, 0, none⟩)), (8, .slice B8 5 c8), (10, .int .i64 (i : Nat)), (12, .slice B131 5 cap132), (9, .int .i64 (ls2 : Nat)), (6, .pointer (some ⟨s325, 0, none⟩)), (14, .int .i64 (n : Nat)), (144, .agg #[.int .i64 (((pageOf (ul326.getD n none))).lsn), .slice A353 (((pageOf (ul326.getD n none))).slots.length) c354]), (145, .slice B8 5 c8), (146, .int .i64 (n : Nat)), (148, .agg #[.int .i64 ((pageOf (vl.getD n none)).lsn), .slice B383 ((pageOf (vl.getD n none)).slots.length) cp384]), (150, .bool true), (151, .bool true), (152, .agg #[.int .i64 (((pageOf (ul326.getD n none))).lsn), .slice A353 (((pageOf (ul326.getD n none))).slots.length) c354]), (153, .slice B131 5 cap132), (154, .int .i64 (n : Nat)), (156, .agg #[.int .i64 ((pageOf ((newL vl l).getD n none)).lsn), .slice B432 ((pageOf ((newL vl l).getD n none)).slots.length) cp433]), (158, .bool (!(decide ((pageOf (ul326.getD n none)) = (pageOf ((newL vl l).getD n none)))))), (159, .bool (!(decide ((pageOf (ul326.getD n none)) = (pageOf ((newL vl l).getD n none)))))), (160, .bool (!(decide ((pageOf (ul326.getD n none)) = (pageOf ((newL vl l).getD n none))))))]) (vs := []) (obs := []) (pd' := []) hF444 (by kernel_rfl) .nil rfl ?_
                      intro a448 hF449
                      clear hF444
                      refine wpD_done (by kernel_rfl) ?_
                      refine nrm_then ?_
                      have hb450 : (!(decide ((pageOf (ul326.getD n none)) = (pageOf ((newL vl l).getD n none))))) = false := (by rw [decide_eq_true ((hx328.2.1 n (by omega)).elim (fun q => absurd (by rw [q]) h401) (fun q => by rw [q]))]; rfl)
                      rw [hb450] at hF449
                      refine cond_no hF449 rfl ?_
                      refine wp_skip ?_
                      refine nrm_then ?_
                      have hnn : n < 5 := by omega
                      refine reg_text (l := [0, 1, 2, 3, 4]) (by kernel_rfl) ?_
                      refine batch_spec (is := [0, 1, 2]) (rest := [3, 4]) (live := [157, 155, 149, 147, 3, 0, 4, 5, 8, 10, 12, 9, 6, 14, 144, 145, 146, 148, 150, 151, 152, 153, 154, 156, 158, 159, 161, 162, 163]) (e' := [(157, .bool (decide ((pageOf (ul326.getD n none)) = (pageOf ((newL vl l).getD n none))))), (155, .pointer (some ⟨b430, 0 + n * 2, none⟩)), (149, .bool (decide ((pageOf (ul326.getD n none)) = (pageOf (vl.getD n none))))), (147, .pointer (some ⟨b381, 0 + n * 2, none⟩)), (3, .pointer (some ⟨b4, 0, none⟩)), (0, .slice AG gs.length cg), (4, .bool false), (5, .pointer (some ⟨d, 0, none⟩)), (8, .slice B8 5 c8), (10, .int .i64 (i : Nat)), (12, .slice B131 5 cap132), (9, .int .i64 (ls2 : Nat)), (6, .pointer (some ⟨s325, 0, none⟩)), (14, .int .i64 (n : Nat)), (144, .agg #[.int .i64 (((pageOf (ul326.getD n none))).lsn), .slice A353 (((pageOf (ul326.getD n none))).slots.length) c354]), (145, .slice B8 5 c8), (146, .int .i64 (n : Nat)), (148, .agg #[.int .i64 ((pageOf (vl.getD n none)).lsn), .slice B383 ((pageOf (vl.getD n none)).slots.length) cp384]), (150, .bool true), (151, .bool true), (152, .agg #[.int .i64 (((pageOf (ul326.getD n none))).lsn), .slice A353 (((pageOf (ul326.getD n none))).slots.length) c354]), (153, .slice B131 5 cap132), (154, .int .i64 (n : Nat)), (156, .agg #[.int .i64 ((pageOf ((newL vl l).getD n none)).lsn), .slice B432 ((pageOf ((newL vl l).getD n none)).slots.length) cp433]), (158, .bool false), (159, .bool false), (161, .slice B8 5 c8), (162, .int .i64 (n : Nat)), (163, .agg #[.int .i64 (((pageOf (ul326.getD n none))).lsn), .slice A353 (((pageOf (ul326.getD n none))).slots.length) c354])]) (vs := [.int .i64 (((pageOf (ul326.getD n none))).lsn), .slice A353 (((pageOf (ul326.getD n none))).slots.length) c354]) (obs := [(⟨b362, 0, none⟩, .int .i64 (((pageOf (ul326.getD n none))).lsn)), (⟨b362, 1, none⟩, .slice A353 (((pageOf (ul326.getD n none))).slots.length) c354)]) hF449 (by kernel_rfl) (.cons (ob hS447 3 rfl rfl) (.cons (ob hS447 3 rfl rfl) .nil)) ?_
                      intro a451 hF452
                      clear hF449
                      refine ops_next ?_
                      obtain ⟨B453, cp454, hc455, hc456, hS457⟩ := page_row heq382 hS447 10 rfl hmx
                      have hS458 : Sat w445 (slA slotT (.slice B453 ((pageOf (vl.getD n none)).slots.length) cp454) ((pageOf (vl.getD n none)).slots) :: slA slotT (.slice A353 (((pageOf (ul326.getD n none))).slots.length) c354) (((pageOf (ul326.getD n none))).slots) :: slA slotT (.slice B432 ((pageOf ((newL vl l).getD n none)).slots.length) cp433) ((pageOf ((newL vl l).getD n none)).slots) :: slA slotT (.slice B383 ((pageOf (vl.getD n none)).slots.length) cp384) ((pageOf (vl.getD n none)).slots) :: raw b362 (.cells #[.int .i64 (((pageOf (ul326.getD n none))).lsn), .slice A353 (((pageOf (ul326.getD n none))).slots.length) c354] 41 (0, 0)) :: storeA s325 ⟨d, 0, 3, ul326.map pageOf, pl327.life, false⟩ :: plateA d pl327 :: raw b4 (.cells #[.slice A0 p0.length c0, .slice A1 p1.length c1] 24 (0, 0)) :: slA groupT (.slice AG gs.length cg) gs :: slA intT (.slice A0 p0.length c0) p0 :: slA intT (.slice A1 p1.length c1) p1 :: rowA pageT 41 B8 c8 (mixL ul326 vl n) :: rowA pageT 41 B131 cap132 ((newL vl l).map pageOf) :: L) := hS457
                      refine op_value (u := .pointer (some ⟨b381, 0 + n * 2, none⟩)) (v := .indexAddr 32 (.slice B8 5 c8) (.int .i64 (n : Nat))) (e' := [(164, .pointer (some ⟨b381, 0 + n * 2, none⟩)), (157, .bool (decide ((pageOf (ul326.getD n none)) = (pageOf ((newL vl l).getD n none))))), (155, .pointer (some ⟨b430, 0 + n * 2, none⟩)), (149, .bool (decide ((pageOf (ul326.getD n none)) = (pageOf (vl.getD n none))))), (147, .pointer (some ⟨b381, 0 + n * 2, none⟩)), (3, .pointer (some ⟨b4, 0, none⟩)), (0, .slice AG gs.length cg), (4, .bool false), (5, .pointer (some ⟨d, 0, none⟩)), (8, .slice B8 5 c8), (10, .int .i64 (i : Nat)), (12, .slice B131 5 cap132), (9, .int .i64 (ls2 : Nat)), (6, .pointer (some ⟨s325, 0, none⟩)), (14, .int .i64 (n : Nat)), (144, .agg #[.int .i64 (((pageOf (ul326.getD n none))).lsn), .slice A353 (((pageOf (ul326.getD n none))).slots.length) c354]), (145, .slice B8 5 c8), (146, .int .i64 (n : Nat)), (148, .agg #[.int .i64 ((pageOf (vl.getD n none)).lsn), .slice B383 ((pageOf (vl.getD n none)).slots.length) cp384]), (150, .bool true), (151, .bool true), (152, .agg #[.int .i64 (((pageOf (ul326.getD n none))).lsn), .slice A353 (((pageOf (ul326.getD n none))).slots.length) c354]), (153, .slice B131 5 cap132), (154, .int .i64 (n : Nat)), (156, .agg #[.int .i64 ((pageOf ((newL vl l).getD n none)).lsn), .slice B432 ((pageOf ((newL vl l).getD n none)).slots.length) cp433]), (158, .bool false), (159, .bool false), (161, .slice B8 5 c8), (162, .int .i64 (n : Nat)), (163, .agg #[.int .i64 (((pageOf (ul326.getD n none))).lsn), .slice A353 (((pageOf (ul326.getD n none))).slots.length) c354])]) hF452 (by kernel_rfl) (.value ((run_indexAddrA (el := 41) (sz := 2) (off := 0) (k := n) heq382 Tryd.underlying32 (by kernel_rfl) (by rfl) (by omega)) _)) ?_
                      intro a459 hF460
                      clear hF452
                      refine ops_next ?_
                      obtain ⟨w461, hr462, hS463⟩ := comes_rowSetA (P := Tryd.prog) (T := pageT) (t' := 41) (k := n) (o := 0 + n * 2) (x := (⟨((pageOf (ul326.getD n none))).lsn, ((pageOf (ul326.getD n none))).slots⟩ : Page)) (v := .agg #[.int .i64 (((pageOf (ul326.getD n none))).lsn), .slice A353 (((pageOf (ul326.getD n none))).slots.length) c354]) (vs := [.int .i64 (((pageOf (ul326.getD n none))).lsn), .slice A353 (((pageOf (ul326.getD n none))).slots.length) c354]) heq382 hS458 11 rfl rfl rfl (by kernel_rfl) (by omega) (Nat.zero_add _) (fun h => Sat_out 1 h rfl (fun g hg => Cells.single ⟨_, rfl, hg⟩))
                      refine op_value (u := undef) (e' := [(164, .pointer (some ⟨b381, 0 + n * 2, none⟩)), (157, .bool (decide ((pageOf (ul326.getD n none)) = (pageOf ((newL vl l).getD n none))))), (155, .pointer (some ⟨b430, 0 + n * 2, none⟩)), (149, .bool (decide ((pageOf (ul326.getD n none)) = (pageOf (vl.getD n none))))), (147, .pointer (some ⟨b381, 0 + n * 2, none⟩)), (3, .pointer (some ⟨b4, 0, none⟩)), (0, .slice AG gs.length cg), (4, .bool false), (5, .pointer (some ⟨d, 0, none⟩)), (8, .slice B8 5 c8), (10, .int .i64 (i : Nat)), (12, .slice B131 5 cap132), (9, .int .i64 (ls2 : Nat)), (6, .pointer (some ⟨s325, 0, none⟩)), (14, .int .i64 (n : Nat)), (144, .agg #[.int .i64 (((pageOf (ul326.getD n none))).lsn), .slice A353 (((pageOf (ul326.getD n none))).slots.length) c354]), (145, .slice B8 5 c8), (146, .int .i64 (n : Nat)), (148, .agg #[.int .i64 ((pageOf (vl.getD n none)).lsn), .slice B383 ((pageOf (vl.getD n none)).slots.length) cp384]), (150, .bool true), (151, .bool true), (152, .agg #[.int .i64 (((pageOf (ul326.getD n none))).lsn), .slice A353 (((pageOf (ul326.getD n none))).slots.length) c354]), (153, .slice B131 5 cap132), (154, .int .i64 (n : Nat)), (156, .agg #[.int .i64 ((pageOf ((newL vl l).getD n none)).lsn), .slice B432 ((pageOf ((newL vl l).getD n none)).slots.length) cp433]), (158, .bool false), (159, .bool false), (161, .slice B8 5 c8), (162, .int .i64 (n : Nat)), (163, .agg #[.int .i64 (((pageOf (ul326.getD n none))).lsn), .slice A353 (((pageOf (ul326.getD n none))).slots.length) c354])]) hF460 (by kernel_rfl) hr462 ?_
                      intro a464 hF465
                      clear hF460 hr462
                      clear hS446 hS447 hS457 hS458
                      have hS466 : Sat w461 (rowA pageT 41 B8 c8 ((mixL ul326 vl n).set n (⟨((pageOf (ul326.getD n none))).lsn, ((pageOf (ul326.getD n none))).slots⟩ : Page)) :: slA slotT (.slice B453 ((pageOf (vl.getD n none)).slots.length) cp454) ((pageOf (vl.getD n none)).slots) :: slA slotT (.slice A353 (((pageOf (ul326.getD n none))).slots.length) c354) (((pageOf (ul326.getD n none))).slots) :: slA slotT (.slice B432 ((pageOf ((newL vl l).getD n none)).slots.length) cp433) ((pageOf ((newL vl l).getD n none)).slots) :: slA slotT (.slice B383 ((pageOf (vl.getD n none)).slots.length) cp384) ((pageOf (vl.getD n none)).slots) :: raw b362 (.cells #[.int .i64 (((pageOf (ul326.getD n none))).lsn), .slice A353 (((pageOf (ul326.getD n none))).slots.length) c354] 41 (0, 0)) :: storeA s325 ⟨d, 0, 3, ul326.map pageOf, pl327.life, false⟩ :: plateA d pl327 :: raw b4 (.cells #[.slice A0 p0.length c0, .slice A1 p1.length c1] 24 (0, 0)) :: slA groupT (.slice AG gs.length cg) gs :: slA intT (.slice A0 p0.length c0) p0 :: slA intT (.slice A1 p1.length c1) p1 :: rowA pageT 41 B131 cap132 ((newL vl l).map pageOf) :: L) := hS463
                      refine ops_done ?_
                      refine nrm_block ?_
                      refine nrm_then ?_
                      refine reg_text (l := [0, 1, 2]) (by kernel_rfl) ?_
                      refine batch_spec (is := [0, 1]) (rest := [2]) (live := [157, 155, 149, 147, 3, 0, 4, 5, 8, 10, 12, 9, 6, 144, 145, 146, 148, 150, 151, 152, 153, 154, 156, 158, 159, 134]) (e' := [(157, .bool (decide ((pageOf (ul326.getD n none)) = (pageOf ((newL vl l).getD n none))))), (155, .pointer (some ⟨b430, 0 + n * 2, none⟩)), (149, .bool (decide ((pageOf (ul326.getD n none)) = (pageOf (vl.getD n none))))), (147, .pointer (some ⟨b381, 0 + n * 2, none⟩)), (3, .pointer (some ⟨b4, 0, none⟩)), (0, .slice AG gs.length cg), (4, .bool false), (5, .pointer (some ⟨d, 0, none⟩)), (8, .slice B8 5 c8), (10, .int .i64 (i : Nat)), (12, .slice B131 5 cap132), (9, .int .i64 (ls2 : Nat)), (6, .pointer (some ⟨s325, 0, none⟩)), (144, .agg #[.int .i64 (((pageOf (ul326.getD n none))).lsn), .slice A353 (((pageOf (ul326.getD n none))).slots.length) c354]), (145, .slice B8 5 c8), (146, .int .i64 (n : Nat)), (148, .agg #[.int .i64 ((pageOf (vl.getD n none)).lsn), .slice B383 ((pageOf (vl.getD n none)).slots.length) cp384]), (150, .bool true), (151, .bool true), (152, .agg #[.int .i64 (((pageOf (ul326.getD n none))).lsn), .slice A353 (((pageOf (ul326.getD n none))).slots.length) c354]), (153, .slice B131 5 cap132), (154, .int .i64 (n : Nat)), (156, .agg #[.int .i64 ((pageOf ((newL vl l).getD n none)).lsn), .slice B432 ((pageOf ((newL vl l).getD n none)).slots.length) cp433]), (158, .bool false), (159, .bool false), (134, .int .i64 (IntKind.i64.wrap (((n : Nat) : Int) + 1)))]) (vs := []) (obs := []) hF465 (by kernel_rfl) .nil ?_
                      intro a467 hF468
                      clear hF465
                      have hw469 : IntKind.i64.wrap (((n : Nat) : Int) + 1) = ((n + 1 : Nat) : Int) := by rw [wrap_i64 (by omega) (by omega)]; omega
                      rw [hw469] at hF468
                      refine batch_spec (is := [2]) (rest := []) (live := [157, 155, 149, 147, 3, 0, 4, 5, 8, 10, 12, 9, 6, 144, 145, 146, 148, 150, 151, 152, 153, 154, 156, 158, 159, 14]) (e' := [(157, .bool (decide ((pageOf (ul326.getD n none)) = (pageOf ((newL vl l).getD n none))))), (155, .pointer (some ⟨b430, 0 + n * 2, none⟩)), (149, .bool (decide ((pageOf (ul326.getD n none)) = (pageOf (vl.getD n none))))), (147, .pointer (some ⟨b381, 0 + n * 2, none⟩)), (3, .pointer (some ⟨b4, 0, none⟩)), (0, .slice AG gs.length cg), (4, .bool false), (5, .pointer (some ⟨d, 0, none⟩)), (8, .slice B8 5 c8), (10, .int .i64 (i : Nat)), (12, .slice B131 5 cap132), (9, .int .i64 (ls2 : Nat)), (6, .pointer (some ⟨s325, 0, none⟩)), (144, .agg #[.int .i64 (((pageOf (ul326.getD n none))).lsn), .slice A353 (((pageOf (ul326.getD n none))).slots.length) c354]), (145, .slice B8 5 c8), (146, .int .i64 (n : Nat)), (148, .agg #[.int .i64 ((pageOf (vl.getD n none)).lsn), .slice B383 ((pageOf (vl.getD n none)).slots.length) cp384]), (150, .bool true), (151, .bool true), (152, .agg #[.int .i64 (((pageOf (ul326.getD n none))).lsn), .slice A353 (((pageOf (ul326.getD n none))).slots.length) c354]), (153, .slice B131 5 cap132), (154, .int .i64 (n : Nat)), (156, .agg #[.int .i64 ((pageOf ((newL vl l).getD n none)).lsn), .slice B432 ((pageOf ((newL vl l).getD n none)).slots.length) cp433]), (158, .bool false), (159, .bool false), (14, .int .i64 (n + 1 : Nat))]) (vs := []) (obs := []) hF468 (by kernel_rfl) .nil ?_
                      intro a470 hF471
                      clear hF468
                      refine ops_done ?_
                      have hS472 : Sat w461 (raw b4 (.cells #[.slice A0 p0.length c0, .slice A1 p1.length c1] 24 (0, 0)) :: slA groupT (.slice AG gs.length cg) gs :: slA intT (.slice A0 p0.length c0) p0 :: slA intT (.slice A1 p1.length c1) p1 :: rowA pageT 41 B8 c8 ((mixL ul326 vl n).set n (⟨((pageOf (ul326.getD n none))).lsn, ((pageOf (ul326.getD n none))).slots⟩ : Page)) :: rowA pageT 41 B131 cap132 ((newL vl l).map pageOf) :: storeA s325 ⟨d, 0, 3, ul326.map pageOf, pl327.life, false⟩ :: plateA d pl327 :: slA slotT (.slice B453 ((pageOf (vl.getD n none)).slots.length) cp454) ((pageOf (vl.getD n none)).slots) :: slA slotT (.slice A353 (((pageOf (ul326.getD n none))).slots.length) c354) (((pageOf (ul326.getD n none))).slots) :: slA slotT (.slice B432 ((pageOf ((newL vl l).getD n none)).slots.length) cp433) ((pageOf ((newL vl l).getD n none)).slots) :: slA slotT (.slice B383 ((pageOf (vl.getD n none)).slots.length) cp384) ((pageOf (vl.getD n none)).slots) :: raw b362 (.cells #[.int .i64 (((pageOf (ul326.getD n none))).lsn), .slice A353 (((pageOf (ul326.getD n none))).slots.length) c354] 41 (0, 0)) :: L) := (Sat_at (Sat_at (Sat_at (Sat_at (Sat_at (Sat_at (Sat_at (Sat_at hS466 7 rfl rfl) 7 rfl rfl) 12 rfl rfl) 3 rfl rfl) 12 rfl rfl) 12 rfl rfl) 12 rfl rfl) 12 rfl rfl)
                      refine nrm_then ⟨_, ?_, n + 1, rfl, (by omega), (Fits.restr (r := [(3, .pointer (some ⟨b4, 0, none⟩)), (0, .slice AG gs.length cg), (4, .bool false), (5, .pointer (some ⟨d, 0, none⟩)), (8, .slice B8 5 c8), (10, .int .i64 (i : Nat)), (12, .slice B131 5 cap132), (9, .int .i64 (ls2 : Nat)), (6, .pointer (some ⟨s325, 0, none⟩)), (14, .int .i64 (n + 1 : Nat))]) hF471 (ks := [3, 0, 4, 5, 8, 10, 12, 9, 6, 14]) (by kernel_rfl)).cast (by rfl), (by rw [← mix_set hx328.1.stab.len hF.stab.len (by omega)]; exact (Sat_at (Sat_at (Sat_at (Sat_at (Sat_at hS472 12 rfl rfl).drop 11 rfl rfl).drop 10 rfl rfl).drop 9 rfl rfl).drop 8 rfl rfl).drop)⟩
                      omega
                  ·
                    have hb473 : (decide (((n : Nat) : Int) < 5)) = false := decide_eq_false h348
                    rw [hb473] at hF347
                    refine cond_no hF347 rfl ?_
                    refine wp_exit ?_
                    refine exit_then ?_
                    refine exit_then ?_
                    refine exit_block ?_
                    refine nrm_block ?_
                    refine nrm_then ?_
                    refine reg_text (l := [0, 1, 2]) (by kernel_rfl) ?_
                    refine batch_spec (is := [0, 1]) (rest := [2]) (live := [3, 0, 4, 5, 8, 9, 6, 53]) (e' := [(3, .pointer (some ⟨b4, 0, none⟩)), (0, .slice AG gs.length cg), (4, .bool false), (5, .pointer (some ⟨d, 0, none⟩)), (8, .slice B8 5 c8), (9, .int .i64 (ls2 : Nat)), (6, .pointer (some ⟨s325, 0, none⟩)), (53, .int .i64 (IntKind.i64.wrap (((i : Nat) : Int) + 1)))]) (vs := []) (obs := []) hF347 (by kernel_rfl) .nil ?_
                    intro a474 hF475
                    clear hF347
                    have hw476 : IntKind.i64.wrap (((i : Nat) : Int) + 1) = ((i + 1 : Nat) : Int) := by rw [wrap_i64 (by omega) (by omega)]; omega
                    rw [hw476] at hF475
                    refine batch_spec (is := [2]) (rest := []) (live := [3, 0, 4, 5, 8, 9, 6, 10]) (e' := [(3, .pointer (some ⟨b4, 0, none⟩)), (0, .slice AG gs.length cg), (4, .bool false), (5, .pointer (some ⟨d, 0, none⟩)), (8, .slice B8 5 c8), (9, .int .i64 (ls2 : Nat)), (6, .pointer (some ⟨s325, 0, none⟩)), (10, .int .i64 (i + 1 : Nat))]) (vs := []) (obs := []) hF475 (by kernel_rfl) .nil ?_
                    intro a477 hF478
                    clear hF475
                    refine ops_done ?_
                    have hS479 : Sat w343 (raw b4 (.cells #[.slice A0 p0.length c0, .slice A1 p1.length c1] 24 (0, 0)) :: slA groupT (.slice AG gs.length cg) gs :: slA intT (.slice A0 p0.length c0) p0 :: slA intT (.slice A1 p1.length c1) p1 :: rowA pageT 41 B8 c8 (mixL ul326 vl n) :: storeA s325 ⟨d, 0, 3, ul326.map pageOf, pl327.life, false⟩ :: plateA d pl327 :: rowA pageT 41 B131 cap132 ((newL vl l).map pageOf) :: L) := (Sat_at (Sat_at (Sat_at (Sat_at (Sat_at (Sat_at (Sat_at hS345 7 rfl rfl) 7 rfl rfl) 6 rfl rfl) 6 rfl rfl) 6 rfl rfl) 6 rfl rfl) 6 rfl rfl)
                    refine nrm_then ⟨_, ?_, i + 1, s325, pl327, ul326, B8, c8, ls2, pl327.life, rfl, (by omega), hx328.1, rfl, (by omega), (Fits.restr (r := [(3, .pointer (some ⟨b4, 0, none⟩)), (0, .slice AG gs.length cg), (4, .bool false), (5, .pointer (some ⟨d, 0, none⟩)), (6, .pointer (some ⟨s325, 0, none⟩)), (8, .slice B8 5 c8), (9, .int .i64 (ls2 : Nat)), (10, .int .i64 (i + 1 : Nat))]) hF478 (ks := [3, 0, 4, 5, 6, 8, 9, 10]) (by kernel_rfl)).cast (by rfl), (by have hn5 : n = 5 := (by omega); subst hn5; rw [← mix_full hx328.1.stab.len hF.stab.len]; rw [← mix_full hx328.1.stab.len hF.stab.len] at hS479; exact (Sat_at hS479 7 rfl rfl).drop)⟩
                    omega
                ·
                  clear hF323
                  clear hS239 hS324
                  have hS480 : Sat w331 (plateA d pl327 :: raw b4 (.cells #[.slice A0 p0.length c0, .slice A1 p1.length c1] 24 (0, 0)) :: slA groupT (.slice AG gs.length cg) gs :: slA intT (.slice A0 p0.length c0) p0 :: slA intT (.slice A1 p1.length c1) p1 :: rowA pageT 41 B8 c8 (vl.map pageOf) :: rowA pageT 41 B131 cap132 ((newL vl l).map pageOf) :: L) := hS332
                  exact absurd harm (by omega)
            ·
              have hb481 : (decide (((ls2 : Nat) : Int) < ((p0.length : Nat) : Int))) = false := decide_eq_false h242
              rw [hb481] at hF241
              refine batch_spec (is := [6, 7, 8]) (rest := []) (live := [3, 0, 4, 5, 8, 10, 12, 9, 100, 101, 102]) (e' := [(3, .pointer (some ⟨b4, 0, none⟩)), (0, .slice AG gs.length cg), (4, .bool false), (5, .pointer (some ⟨d, 0, none⟩)), (8, .slice B8 5 c8), (10, .int .i64 (i : Nat)), (12, .slice B131 5 cap132), (9, .int .i64 (ls2 : Nat)), (100, undef), (101, undef), (102, .bool false)]) (vs := []) (obs := []) hF241 (by kernel_rfl) .nil ?_
              intro a482 hF483
              clear hF241
              refine ops_done ?_
              refine nrm_then ?_
              refine cond_no hF483 rfl ?_
              refine wp_exit ?_
              refine exit_then ?_
              refine exit_then ?_
              refine exit_block ?_
              refine nrm_then ?_
              refine wp_seq ?_
              refine reg_text (l := [0, 1, 2, 3, 4, 5, 6]) (by kernel_rfl) ?_
              refine batch_spec (is := [0]) (rest := [1, 2, 3, 4, 5, 6]) (live := [3, 0, 4, 5, 8, 10, 12, 9, 100, 101, 125]) (e' := [(3, .pointer (some ⟨b4, 0, none⟩)), (0, .slice AG gs.length cg), (4, .bool false), (5, .pointer (some ⟨d, 0, none⟩)), (8, .slice B8 5 c8), (10, .int .i64 (i : Nat)), (12, .slice B131 5 cap132), (9, .int .i64 (ls2 : Nat)), (100, undef), (101, undef), (125, .pointer (some ⟨d, 0, none⟩))]) (vs := []) (obs := []) hF483 (by kernel_rfl) .nil ?_
              intro a484 hF485
              clear hF483
              refine ops_next ?_
              have hS486 : Sat w237 (plateA d plk :: raw b4 (.cells #[.slice A0 p0.length c0, .slice A1 p1.length c1] 24 (0, 0)) :: slA groupT (.slice AG gs.length cg) gs :: slA intT (.slice A0 p0.length c0) p0 :: slA intT (.slice A1 p1.length c1) p1 :: rowA pageT 41 B8 c8 (vl.map pageOf) :: rowA pageT 41 B131 cap132 ((newL vl l).map pageOf) :: L) := (Sat_at hS239 6 rfl rfl)
              refine op_call (fn := 6) (first := #[]) (cap := #[]) (args := #[.pointer (some ⟨d, 0, none⟩), .int .i64 0, .int .i64 3, .int .i64 5]) (all := #[.pointer (some ⟨d, 0, none⟩), .int .i64 0, .int .i64 3, .int .i64 5]) (pe := fun u => [(126, u), (3, .pointer (some ⟨b4, 0, none⟩)), (0, .slice AG gs.length cg), (4, .bool false), (5, .pointer (some ⟨d, 0, none⟩)), (8, .slice B8 5 c8), (10, .int .i64 (i : Nat)), (12, .slice B131 5 cap132), (9, .int .i64 (ls2 : Nat)), (100, undef), (101, undef), (125, .pointer (some ⟨d, 0, none⟩))]) hF485 (fun u => by kernel_rfl) (by kernel_rfl) (by kernel_rfl) (open_law16 hBk hS486) ?_
              rintro u w493 a491 (⟨s487, rfl, pl489, ul488, hx490, hS494⟩ | ⟨rfl, pl489, hx490, harm, hS494⟩) hF492
              ·
                clear hF485
                clear hS239 hS486
                have hS495 : Sat w493 (storeA s487 ⟨d, 0, 3, ul488.map pageOf, pl489.life, false⟩ :: plateA d pl489 :: raw b4 (.cells #[.slice A0 p0.length c0, .slice A1 p1.length c1] 24 (0, 0)) :: slA groupT (.slice AG gs.length cg) gs :: slA intT (.slice A0 p0.length c0) p0 :: slA intT (.slice A1 p1.length c1) p1 :: rowA pageT 41 B8 c8 (vl.map pageOf) :: rowA pageT 41 B131 cap132 ((newL vl l).map pageOf) :: L) := hS494
                refine batch_spec (is := [2, 3, 4, 5, 6]) (rest := []) (live := [3, 0, 4, 5, 8, 10, 12, 9, 100, 101, 6, 7]) (e' := [(3, .pointer (some ⟨b4, 0, none⟩)), (0, .slice AG gs.length cg), (4, .bool false), (5, .pointer (some ⟨d, 0, none⟩)), (8, .slice B8 5 c8), (10, .int .i64 (i : Nat)), (12, .slice B131 5 cap132), (9, .int .i64 (ls2 : Nat)), (100, undef), (101, undef), (6, .pointer (some ⟨s487, 0, none⟩)), (7, .int .i64 0)]) (vs := []) (obs := []) hF492 (by kernel_rfl) .nil ?_
                intro a496 hF497
                clear hF492
                refine ops_done ?_
                refine nrm_then ?_
                refine wp_seq ?_
                refine wp_seq ?_
                refine reg_text (l := [0, 1]) (by kernel_rfl) ?_
                refine batch_spec (is := [0, 1]) (rest := []) (live := [3, 0, 4, 5, 8, 10, 12, 9, 100, 101, 6, 130]) (e' := [(3, .pointer (some ⟨b4, 0, none⟩)), (0, .slice AG gs.length cg), (4, .bool false), (5, .pointer (some ⟨d, 0, none⟩)), (8, .slice B8 5 c8), (10, .int .i64 (i : Nat)), (12, .slice B131 5 cap132), (9, .int .i64 (ls2 : Nat)), (100, undef), (101, undef), (6, .pointer (some ⟨s487, 0, none⟩)), (130, .bool false)]) (vs := []) (obs := []) hF497 (by kernel_rfl) .nil ?_
                intro a498 hF499
                clear hF497
                refine ops_done ?_
                refine nrm_then ?_
                refine cond_no hF499 rfl ?_
                refine wp_skip ?_
                refine nrm_then ?_
                refine wp_seq ?_
                refine reg_text (l := [0]) (by kernel_rfl) ?_
                refine batch_spec (is := [0]) (rest := []) (live := [3, 0, 4, 5, 8, 10, 12, 9, 100, 101, 6, 14]) (e' := [(3, .pointer (some ⟨b4, 0, none⟩)), (0, .slice AG gs.length cg), (4, .bool false), (5, .pointer (some ⟨d, 0, none⟩)), (8, .slice B8 5 c8), (10, .int .i64 (i : Nat)), (12, .slice B131 5 cap132), (9, .int .i64 (ls2 : Nat)), (100, undef), (101, undef), (6, .pointer (some ⟨s487, 0, none⟩)), (14, .int .i64 0)]) (vs := []) (obs := []) hF499 (by kernel_rfl) .nil ?_
                intro a500 hF501
                clear hF499
                refine ops_done ?_
                refine nrm_then ?_
                refine wp_block ?_
                have hS502 : Sat w493 (raw b4 (.cells #[.slice A0 p0.length c0, .slice A1 p1.length c1] 24 (0, 0)) :: slA groupT (.slice AG gs.length cg) gs :: slA intT (.slice A0 p0.length c0) p0 :: slA intT (.slice A1 p1.length c1) p1 :: rowA pageT 41 B8 c8 (vl.map pageOf) :: rowA pageT 41 B131 cap132 ((newL vl l).map pageOf) :: storeA s487 ⟨d, 0, 3, ul488.map pageOf, pl489.life, false⟩ :: plateA d pl489 :: L) := (Sat_at (Sat_at (Sat_at (Sat_at (Sat_at (Sat_at (Sat_at (Sat_at hS495 1 rfl rfl) 1 rfl rfl) 7 rfl rfl) 7 rfl rfl) 7 rfl rfl) 7 rfl rfl) 7 rfl rfl) 7 rfl rfl)
                refine loop_g (fun μ α ω => ∃ n : Nat, μ = 5 - n ∧ (n ≤ 5) ∧ Fits α 201 [(3, .pointer (some ⟨b4, 0, none⟩)), (0, .slice AG gs.length cg), (4, .bool false), (5, .pointer (some ⟨d, 0, none⟩)), (8, .slice B8 5 c8), (10, .int .i64 (i : Nat)), (12, .slice B131 5 cap132), (9, .int .i64 (ls2 : Nat)), (6, .pointer (some ⟨s487, 0, none⟩)), (14, .int .i64 (n : Nat))] ∧ Sat ω (raw b4 (.cells #[.slice A0 p0.length c0, .slice A1 p1.length c1] 24 (0, 0)) :: slA groupT (.slice AG gs.length cg) gs :: slA intT (.slice A0 p0.length c0) p0 :: slA intT (.slice A1 p1.length c1) p1 :: rowA pageT 41 B8 c8 (mixL ul488 vl n) :: rowA pageT 41 B131 cap132 ((newL vl l).map pageOf) :: storeA s487 ⟨d, 0, 3, ul488.map pageOf, pl489.life, false⟩ :: plateA d pl489 :: L)) _ ⟨0, rfl, (Nat.zero_le _), (Fits.restr (r := [(3, .pointer (some ⟨b4, 0, none⟩)), (0, .slice AG gs.length cg), (4, .bool false), (5, .pointer (some ⟨d, 0, none⟩)), (8, .slice B8 5 c8), (10, .int .i64 (i : Nat)), (12, .slice B131 5 cap132), (9, .int .i64 (ls2 : Nat)), (6, .pointer (some ⟨s487, 0, none⟩)), (14, .int .i64 0)]) hF501 (ks := [3, 0, 4, 5, 8, 10, 12, 9, 6, 14]) (by kernel_rfl)).cast (by rfl), (by rw [mix_zero]; exact hS502)⟩ ?_
                rintro m503 a504 w505 ⟨n, rfl, hn, hF506, hS507⟩
                clear hF501
                clear hS494 hS495 hS502
                refine wp_seq ?_
                refine wp_seq ?_
                refine reg_text (l := [0, 1]) (by kernel_rfl) ?_
                refine batch_spec (is := [0, 1]) (rest := []) (live := [3, 0, 4, 5, 8, 10, 12, 9, 6, 14, 132]) (e' := [(3, .pointer (some ⟨b4, 0, none⟩)), (0, .slice AG gs.length cg), (4, .bool false), (5, .pointer (some ⟨d, 0, none⟩)), (8, .slice B8 5 c8), (10, .int .i64 (i : Nat)), (12, .slice B131 5 cap132), (9, .int .i64 (ls2 : Nat)), (6, .pointer (some ⟨s487, 0, none⟩)), (14, .int .i64 (n : Nat)), (132, .bool (decide (((n : Nat) : Int) < 5)))]) (vs := []) (obs := []) hF506 (by kernel_rfl) .nil ?_
                intro a508 hF509
                clear hF506
                refine ops_done ?_
                refine nrm_then ?_
                by_cases h510 : ((n : Nat) : Int) < 5
                ·
                  have hb511 : (decide (((n : Nat) : Int) < 5)) = true := decide_eq_true h510
                  rw [hb511] at hF509
                  refine cond_yes hF509 rfl ?_
                  refine wp_skip ?_
                  refine nrm_then ?_
                  refine wp_seq ?_
                  refine wp_block ?_
                  refine wp_seq ?_
                  refine reg_text (l := [0, 1, 2, 3, 4, 5, 6, 7, 8]) (by kernel_rfl) ?_
                  refine batch_spec (is := [0, 1]) (rest := [2, 3, 4, 5, 6, 7, 8]) (live := [3, 0, 4, 5, 8, 10, 12, 9, 6, 14, 136, 137]) (e' := [(3, .pointer (some ⟨b4, 0, none⟩)), (0, .slice AG gs.length cg), (4, .bool false), (5, .pointer (some ⟨d, 0, none⟩)), (8, .slice B8 5 c8), (10, .int .i64 (i : Nat)), (12, .slice B131 5 cap132), (9, .int .i64 (ls2 : Nat)), (6, .pointer (some ⟨s487, 0, none⟩)), (14, .int .i64 (n : Nat)), (136, .pointer (some ⟨s487, 0, none⟩)), (137, .int .i64 (n : Nat))]) (vs := []) (obs := []) hF509 (by kernel_rfl) .nil ?_
                  intro a512 hF513
                  clear hF509
                  refine ops_next ?_
                  have hS514 : Sat w505 (storeA s487 ⟨d, 0, 3, ul488.map pageOf, pl489.life, false⟩ :: plateA d pl489 :: raw b4 (.cells #[.slice A0 p0.length c0, .slice A1 p1.length c1] 24 (0, 0)) :: slA groupT (.slice AG gs.length cg) gs :: slA intT (.slice A0 p0.length c0) p0 :: slA intT (.slice A1 p1.length c1) p1 :: rowA pageT 41 B8 c8 (mixL ul488 vl n) :: rowA pageT 41 B131 cap132 ((newL vl l).map pageOf) :: L) := (Sat_at (Sat_at hS507 7 rfl rfl) 7 rfl rfl)
                  refine op_call (fn := 12) (first := #[]) (cap := #[]) (args := #[.pointer (some ⟨s487, 0, none⟩), .int .i64 (n : Nat)]) (all := #[.pointer (some ⟨s487, 0, none⟩), .int .i64 (n : Nat)]) (pe := fun u => [(138, u), (3, .pointer (some ⟨b4, 0, none⟩)), (0, .slice AG gs.length cg), (4, .bool false), (5, .pointer (some ⟨d, 0, none⟩)), (8, .slice B8 5 c8), (10, .int .i64 (i : Nat)), (12, .slice B131 5 cap132), (9, .int .i64 (ls2 : Nat)), (6, .pointer (some ⟨s487, 0, none⟩)), (14, .int .i64 (n : Nat)), (136, .pointer (some ⟨s487, 0, none⟩)), (137, .int .i64 (n : Nat))]) hF513 (fun u => by kernel_rfl) (by kernel_rfl) (by kernel_rfl) (read_law hx490.1 rfl (by omega) (by decide) hS514) ?_
                  rintro u w519 a517 ⟨A515, c516, rfl, hS520⟩ hF518
                  clear hF513
                  clear hS507 hS514
                  have hS521 : Sat w519 (slA slotT (.slice A515 (((pageOf (ul488.getD n none))).slots.length) c516) (((pageOf (ul488.getD n none))).slots) :: storeA s487 ⟨d, 0, 3, ul488.map pageOf, pl489.life, false⟩ :: plateA d pl489 :: raw b4 (.cells #[.slice A0 p0.length c0, .slice A1 p1.length c1] 24 (0, 0)) :: slA groupT (.slice AG gs.length cg) gs :: slA intT (.slice A0 p0.length c0) p0 :: slA intT (.slice A1 p1.length c1) p1 :: rowA pageT 41 B8 c8 (mixL ul488 vl n) :: rowA pageT 41 B131 cap132 ((newL vl l).map pageOf) :: L) := hS520
                  refine batch_spec (is := [3, 4, 5]) (rest := [6, 7, 8]) (live := [3, 0, 4, 5, 8, 10, 12, 9, 6, 14, 139, 140]) (e' := [(3, .pointer (some ⟨b4, 0, none⟩)), (0, .slice AG gs.length cg), (4, .bool false), (5, .pointer (some ⟨d, 0, none⟩)), (8, .slice B8 5 c8), (10, .int .i64 (i : Nat)), (12, .slice B131 5 cap132), (9, .int .i64 (ls2 : Nat)), (6, .pointer (some ⟨s487, 0, none⟩)), (14, .int .i64 (n : Nat)), (139, .agg #[.int .i64 (((pageOf (ul488.getD n none))).lsn), .slice A515 (((pageOf (ul488.getD n none))).slots.length) c516]), (140, .int .i64 0)]) (vs := []) (obs := []) hF518 (by kernel_rfl) .nil ?_
                  intro a522 hF523
                  clear hF518
                  refine ops_next ?_
                  obtain ⟨b524, w525, hr526, hS527⟩ := comes_new (P := Tryd.prog) (v := .alloc 41) (u := fun b => .pointer (some ⟨b, 0, none⟩)) (o := .cells #[.int .i64 0, .slice none 0 0] 41 (0, 0)) hS521 (fun w => by kernel_rfl)
                  refine op_value (u := .pointer (some ⟨b524, 0, none⟩)) (e' := [(15, .pointer (some ⟨b524, 0, none⟩)), (3, .pointer (some ⟨b4, 0, none⟩)), (0, .slice AG gs.length cg), (4, .bool false), (5, .pointer (some ⟨d, 0, none⟩)), (8, .slice B8 5 c8), (10, .int .i64 (i : Nat)), (12, .slice B131 5 cap132), (9, .int .i64 (ls2 : Nat)), (6, .pointer (some ⟨s487, 0, none⟩)), (14, .int .i64 (n : Nat)), (139, .agg #[.int .i64 (((pageOf (ul488.getD n none))).lsn), .slice A515 (((pageOf (ul488.getD n none))).slots.length) c516]), (140, .int .i64 0)]) hF523 (by kernel_rfl) hr526 ?_
                  intro a528 hF529
                  clear hF523 hr526
                  clear hS520 hS521
                  refine ops_next ?_
                  obtain ⟨w530, hr531, hS532⟩ := comes_store (P := Tryd.prog) (t' := 41) (b := b524) (j := 0) (x := .agg #[.int .i64 (((pageOf (ul488.getD n none))).lsn), .slice A515 (((pageOf (ul488.getD n none))).slots.length) c516]) (vs := [.int .i64 (((pageOf (ul488.getD n none))).lsn), .slice A515 (((pageOf (ul488.getD n none))).slots.length) c516]) (c' := #[.int .i64 (((pageOf (ul488.getD n none))).lsn), .slice A515 (((pageOf (ul488.getD n none))).slots.length) c516]) hS527 0 rfl rfl rfl (by kernel_rfl) rfl rfl rfl
                  refine op_value (u := undef) (e' := [(15, .pointer (some ⟨b524, 0, none⟩)), (3, .pointer (some ⟨b4, 0, none⟩)), (0, .slice AG gs.length cg), (4, .bool false), (5, .pointer (some ⟨d, 0, none⟩)), (8, .slice B8 5 c8), (10, .int .i64 (i : Nat)), (12, .slice B131 5 cap132), (9, .int .i64 (ls2 : Nat)), (6, .pointer (some ⟨s487, 0, none⟩)), (14, .int .i64 (n : Nat)), (139, .agg #[.int .i64 (((pageOf (ul488.getD n none))).lsn), .slice A515 (((pageOf (ul488.getD n none))).slots.length) c516]), (140, .int .i64 0)]) hF529 (by kernel_rfl) hr531 ?_
                  intro a533 hF534
                  clear hF529 hr531
                  clear hS527
                  have hS535 : Sat w530 (raw b524 (.cells #[.int .i64 (((pageOf (ul488.getD n none))).lsn), .slice A515 (((pageOf (ul488.getD n none))).slots.length) c516] 41 (0, 0)) :: slA slotT (.slice A515 (((pageOf (ul488.getD n none))).slots.length) c516) (((pageOf (ul488.getD n none))).slots) :: storeA s487 ⟨d, 0, 3, ul488.map pageOf, pl489.life, false⟩ :: plateA d pl489 :: raw b4 (.cells #[.slice A0 p0.length c0, .slice A1 p1.length c1] 24 (0, 0)) :: slA groupT (.slice AG gs.length cg) gs :: slA intT (.slice A0 p0.length c0) p0 :: slA intT (.slice A1 p1.length c1) p1 :: rowA pageT 41 B8 c8 (mixL ul488 vl n) :: rowA pageT 41 B131 cap132 ((newL vl l).map pageOf) :: L) := hS532
                  refine batch_spec (is := [8]) (rest := []) (live := [15, 3, 0, 4, 5, 8, 10, 12, 9, 6, 14, 16]) (e' := [(15, .pointer (some ⟨b524, 0, none⟩)), (3, .pointer (some ⟨b4, 0, none⟩)), (0, .slice AG gs.length cg), (4, .bool false), (5, .pointer (some ⟨d, 0, none⟩)), (8, .slice B8 5 c8), (10, .int .i64 (i : Nat)), (12, .slice B131 5 cap132), (9, .int .i64 (ls2 : Nat)), (6, .pointer (some ⟨s487, 0, none⟩)), (14, .int .i64 (n : Nat)), (16, .int .i64 0)]) (vs := []) (obs := []) hF534 (by kernel_rfl) .nil ?_
                  intro a536 hF537
                  clear hF534
                  refine ops_done ?_
                  refine nrm_then ?_
                  refine wp_seq ?_
                  refine wp_seq ?_
                  have hmx : (mixL ul488 vl n)[n]? = some ((pageOf (vl.getD n none))) := mix_at hx490.1.stab.len hF.stab.len (by omega)
                  have hnx : ((newL vl l).map pageOf)[n]? = some ((pageOf ((newL vl l).getD n none))) := map_at hBk.bad.len2 (by omega)
                  have hml : (mixL ul488 vl n).length = 5 := mix_len hx490.1.stab.len hF.stab.len hn
                  have hnl : ((newL vl l).map pageOf).length = 5 := by rw [List.length_map]; exact hBk.bad.len2
                  refine reg_drawn (fun j => match j with | 1 => [0] | 2 => [0, 1] | 3 => [0, 1, 2] | 4 => [0, 1, 2] | 5 => [0, 1, 2] | 6 => [0, 1, 2, 4, 5] | 7 => [0, 1, 2, 4, 5, 6] | 8 => [0, 1, 2, 3, 4, 5, 6, 7] | 9 => [0, 1, 2, 3, 4, 5, 6, 7, 8] | 10 => [0, 1, 2, 3, 4, 5, 6, 7, 8, 9] | 11 => [0, 1, 2, 3, 4, 5, 6, 7, 8, 9, 10] | 12 => [0, 1, 2, 3, 4, 5, 6, 7, 8, 9, 10] | 13 => [0, 1, 2, 3, 4, 5, 6, 7, 8, 9, 10] | 14 => [0, 1, 2, 3, 4, 5, 6, 7, 8, 9, 10, 12, 13] | 15 => [0, 1, 2, 3, 4, 5, 6, 7, 8, 9, 10, 12, 13, 14] | 16 => [0, 1, 2, 3, 4, 5, 6, 7, 8, 9, 10, 11, 12, 13, 14, 15] | 17 => [0, 1, 2, 3, 4, 5, 6, 7, 8, 9, 10, 11, 12, 13, 14, 15, 16] | 18 => [0, 1, 2, 3, 4, 5, 6, 7, 8, 9, 10, 11, 12, 13, 14, 15, 16, 17] | 19 => [0, 1, 2, 3, 4, 5, 6, 7, 8, 9, 10, 11, 12, 13, 14, 15, 16, 17, 18] | _ => []) hS535 (by kernel_rfl) (by kernel_rfl) (by kernel_rfl) (fun c a d v w h => by cases d <;> exact h) ?_
                  intro w538 hS539 hw540
                  clear hS532 hS535
                  refine batchD_spec (is := [0, 1, 2, 3, 4, 5]) (dn := []) (dn' := [0, 1, 2, 3, 4, 5]) (live := [15, 3, 0, 4, 5, 8, 10, 12, 9, 6, 14, 143, 144, 145, 146]) (e' := [(15, .pointer (some ⟨b524, 0, none⟩)), (3, .pointer (some ⟨b4, 0, none⟩)), (0, .slice AG gs.length cg), (4, .bool false), (5, .pointer (some ⟨d, 0, none⟩)), (8, .slice B8 5 c8), (10, .int .i64 (i : Nat)), (12, .slice B131 5 cap132), (9, .int .i64 (ls2 : Nat)), (6, .pointer (some ⟨s487, 0, none⟩)), (14, .int .i64 (n : Nat)), (143, .bool false), (144, .agg #[.int .i64 (((pageOf (ul488.getD n none))).lsn), .slice A515 (((pageOf (ul488.getD n none))).slots.length) c516]), (145, .slice B8 5 c8), (146, .int .i64 (n : Nat))]) (vs := [.int .i64 (((pageOf (ul488.getD n none))).lsn), .slice A515 (((pageOf (ul488.getD n none))).slots.length) c516]) (obs := [(⟨b524, 0, none⟩, .int .i64 (((pageOf (ul488.getD n none))).lsn)), (⟨b524, 1, none⟩, .slice A515 (((pageOf (ul488.getD n none))).slots.length) c516)]) (pd' := [(3, [(⟨b524, 0, none⟩, .int .i64 (((pageOf (ul488.getD n none))).lsn)), (⟨b524, 1, none⟩, .slice A515 (((pageOf (ul488.getD n none))).slots.length) c516)])]) hF537 (by kernel_rfl) (.cons (ob hS539 0 rfl rfl) (.cons (ob hS539 0 rfl rfl) .nil)) rfl ?_
                  intro a541 hF542
                  clear hF537
                  obtain ⟨b543, heq544⟩ := row_addr (k := n) hS539 8 rfl (by omega)
                  obtain ⟨B545, cp546, hc547, hc548, hS549⟩ := page_row heq544 hS539 8 rfl hmx
                  have hS550 : Sat w538 (slA slotT (.slice B545 ((pageOf (vl.getD n none)).slots.length) cp546) ((pageOf (vl.getD n none)).slots) :: raw b524 (.cells #[.int .i64 (((pageOf (ul488.getD n none))).lsn), .slice A515 (((pageOf (ul488.getD n none))).slots.length) c516] 41 (0, 0)) :: slA slotT (.slice A515 (((pageOf (ul488.getD n none))).slots.length) c516) (((pageOf (ul488.getD n none))).slots) :: storeA s487 ⟨d, 0, 3, ul488.map pageOf, pl489.life, false⟩ :: plateA d pl489 :: raw b4 (.cells #[.slice A0 p0.length c0, .slice A1 p1.length c1] 24 (0, 0)) :: slA groupT (.slice AG gs.length cg) gs :: slA intT (.slice A0 p0.length c0) p0 :: slA intT (.slice A1 p1.length c1) p1 :: rowA pageT 41 B8 c8 (mixL ul488 vl n) :: rowA pageT 41 B131 cap132 ((newL vl l).map pageOf) :: L) := hS549
                  refine wpD_one (i := 6) (u := .pointer (some ⟨b543, 0 + n * 2, none⟩)) (v := .indexAddr 32 (.slice B8 5 c8) (.int .i64 (n : Nat))) (e' := [(147, .pointer (some ⟨b543, 0 + n * 2, none⟩)), (15, .pointer (some ⟨b524, 0, none⟩)), (3, .pointer (some ⟨b4, 0, none⟩)), (0, .slice AG gs.length cg), (4, .bool false), (5, .pointer (some ⟨d, 0, none⟩)), (8, .slice B8 5 c8), (10, .int .i64 (i : Nat)), (12, .slice B131 5 cap132), (9, .int .i64 (ls2 : Nat)), (6, .pointer (some ⟨s487, 0, none⟩)), (14, .int .i64 (n : Nat)), (143, .bool false), (144, .agg #[.int .i64 (((pageOf (ul488.getD n none))).lsn), .slice A515 (((pageOf (ul488.getD n none))).slots.length) c516]), (145, .slice B8 5 c8), (146, .int .i64 (n : Nat))]) (obs := []) (dn' := [0, 1, 2, 3, 4, 5, 6]) hF542 (by kernel_rfl) (by kernel_rfl) rfl (fun w _ => (run_indexAddrA (el := 41) (sz := 2) (off := 0) (k := n) heq544 Tryd.underlying32 (by kernel_rfl) (by rfl) (by omega)) w) .nil ?_
                  refine fun a551 hF552 => wpD_filter ?_
                  show wpD _ _ _ _ [(3, [(⟨b524, 0, none⟩, .int .i64 (((pageOf (ul488.getD n none))).lsn)), (⟨b524, 1, none⟩, .slice A515 (((pageOf (ul488.getD n none))).slots.length) c516)])] _ _ _
                  clear hF542
                  refine batchD_spec (is := [7]) (dn := [0, 1, 2, 3, 4, 5, 6]) (dn' := [0, 1, 2, 3, 4, 5, 6, 7]) (live := [147, 15, 3, 0, 4, 5, 8, 10, 12, 9, 6, 14, 143, 144, 145, 146, 148]) (e' := [(147, .pointer (some ⟨b543, 0 + n * 2, none⟩)), (15, .pointer (some ⟨b524, 0, none⟩)), (3, .pointer (some ⟨b4, 0, none⟩)), (0, .slice AG gs.length cg), (4, .bool false), (5, .pointer (some ⟨d, 0, none⟩)), (8, .slice B8 5 c8), (10, .int .i64 (i : Nat)), (12, .slice B131 5 cap132), (9, .int .i64 (ls2 : Nat)), (6, .pointer (some ⟨s487, 0, none⟩)), (14, .int .i64 (n : Nat)), (143, .bool false), (144, .agg #[.int .i64 (((pageOf (ul488.getD n none))).lsn), .slice A515 (((pageOf (ul488.getD n none))).slots.length) c516]), (145, .slice B8 5 c8), (146, .int .i64 (n : Nat)), (148, .agg #[.int .i64 ((pageOf (vl.getD n none)).lsn), .slice B545 ((pageOf (vl.getD n none)).slots.length) cp546])]) (vs := [.int .i64 ((pageOf (vl.getD n none)).lsn), .slice B545 ((pageOf (vl.getD n none)).slots.length) cp546]) (obs := [(⟨b543, 0 + n * 2, none⟩, .int .i64 ((pageOf (vl.getD n none)).lsn)), (⟨b543, 0 + n * 2 + 1, none⟩, .slice B545 ((pageOf (vl.getD n none)).slots.length) cp546)]) (pd' := [(7, [(⟨b543, 0 + n * 2, none⟩, .int .i64 ((pageOf (vl.getD n none)).lsn)), (⟨b543, 0 + n * 2 + 1, none⟩, .slice B545 ((pageOf (vl.getD n none)).slots.length) cp546)]), (3, [(⟨b524, 0, none⟩, .int .i64 (((pageOf (ul488.getD n none))).lsn)), (⟨b524, 1, none⟩, .slice A515 (((pageOf (ul488.getD n none))).slots.length) c516)])]) hF552 (by kernel_rfl) (.cons hc547 (.cons hc548 .nil)) rfl ?_
                  intro a553 hF554
                  clear hF552
                  refine wpD_next (i := 8) (pd' := []) (dn' := [0, 1, 2, 3, 4, 5, 6, 7, 8]) (by kernel_rfl) rfl (by kernel_rfl) ?_
                  have hS555 : Sat w538 (slA slotT (.slice A515 (((pageOf (ul488.getD n none))).slots.length) c516) (((pageOf (ul488.getD n none))).slots) :: slA slotT (.slice B545 ((pageOf (vl.getD n none)).slots.length) cp546) ((pageOf (vl.getD n none)).slots) :: raw b524 (.cells #[.int .i64 (((pageOf (ul488.getD n none))).lsn), .slice A515 (((pageOf (ul488.getD n none))).slots.length) c516] 41 (0, 0)) :: storeA s487 ⟨d, 0, 3, ul488.map pageOf, pl489.life, false⟩ :: plateA d pl489 :: raw b4 (.cells #[.slice A0 p0.length c0, .slice A1 p1.length c1] 24 (0, 0)) :: slA groupT (.slice AG gs.length cg) gs :: slA intT (.slice A0 p0.length c0) p0 :: slA intT (.slice A1 p1.length c1) p1 :: rowA pageT 41 B8 c8 (mixL ul488 vl n) :: rowA pageT 41 B131 cap132 ((newL vl l).map pageOf) :: L) := (Sat_at (Sat_at hS550 0 rfl rfl) 2 rfl rfl)
                  refine op_call (fn := 13) (first := #[]) (cap := #[]) (args := #[.agg #[.int .i64 (((pageOf (ul488.getD n none))).lsn), .slice A515 (((pageOf (ul488.getD n none))).slots.length) c516], .agg #[.int .i64 ((pageOf (vl.getD n none)).lsn), .slice B545 ((pageOf (vl.getD n none)).slots.length) cp546]]) (all := #[.agg #[.int .i64 (((pageOf (ul488.getD n none))).lsn), .slice A515 (((pageOf (ul488.getD n none))).slots.length) c516], .agg #[.int .i64 ((pageOf (vl.getD n none)).lsn), .slice B545 ((pageOf (vl.getD n none)).slots.length) cp546]]) (pe := fun u => [(149, u), (147, .pointer (some ⟨b543, 0 + n * 2, none⟩)), (15, .pointer (some ⟨b524, 0, none⟩)), (3, .pointer (some ⟨b4, 0, none⟩)), (0, .slice AG gs.length cg), (4, .bool false), (5, .pointer (some ⟨d, 0, none⟩)), (8, .slice B8 5 c8), (10, .int .i64 (i : Nat)), (12, .slice B131 5 cap132), (9, .int .i64 (ls2 : Nat)), (6, .pointer (some ⟨s487, 0, none⟩)), (14, .int .i64 (n : Nat)), (143, .bool false), (144, .agg #[.int .i64 (((pageOf (ul488.getD n none))).lsn), .slice A515 (((pageOf (ul488.getD n none))).slots.length) c516]), (145, .slice B8 5 c8), (146, .int .i64 (n : Nat)), (148, .agg #[.int .i64 ((pageOf (vl.getD n none)).lsn), .slice B545 ((pageOf (vl.getD n none)).slots.length) cp546])]) hF554 (fun u => by kernel_rfl) (by kernel_rfl) (by kernel_rfl) (same_c (x := (pageOf (ul488.getD n none))) (y := (pageOf (vl.getD n none))) (fine_page hx490.1 (by omega)) (bad_page hBk.bad (by omega)).1 hS555) ?_
                  rintro u w558 a556 ⟨rfl, hS559⟩ hF557
                  clear hF554
                  clear hS539 hS549 hS550 hS555
                  have hS560 : Sat w558 (slA slotT (.slice A515 (((pageOf (ul488.getD n none))).slots.length) c516) (((pageOf (ul488.getD n none))).slots) :: slA slotT (.slice B545 ((pageOf (vl.getD n none)).slots.length) cp546) ((pageOf (vl.getD n none)).slots) :: raw b524 (.cells #[.int .i64 (((pageOf (ul488.getD n none))).lsn), .slice A515 (((pageOf (ul488.getD n none))).slots.length) c516] 41 (0, 0)) :: storeA s487 ⟨d, 0, 3, ul488.map pageOf, pl489.life, false⟩ :: plateA d pl489 :: raw b4 (.cells #[.slice A0 p0.length c0, .slice A1 p1.length c1] 24 (0, 0)) :: slA groupT (.slice AG gs.length cg) gs :: slA intT (.slice A0 p0.length c0) p0 :: slA intT (.slice A1 p1.length c1) p1 :: rowA pageT 41 B8 c8 (mixL ul488 vl n) :: rowA pageT 41 B131 cap132 ((newL vl l).map pageOf) :: L) := hS559
                  refine ⟨.nil, ?_⟩
                  refine batchD_spec (is := [9, 10]) (dn := [0, 1, 2, 3, 4, 5, 6, 7, 8]) (dn' := [0, 1, 2, 3, 4, 5, 6, 7, 8, 9, 10]) (live := [149, 147, 15, 3, 0, 4, 5, 8, 10, 12, 9, 6, 14, 143, 144, 145, 146, 148, 150, 151]) (e' := [(149, .bool (decide ((pageOf (ul488.getD n none)) = (pageOf (vl.getD n none))))), (147, .pointer (some ⟨b543, 0 + n * 2, none⟩)), (15, .pointer (some ⟨b524, 0, none⟩)), (3, .pointer (some ⟨b4, 0, none⟩)), (0, .slice AG gs.length cg), (4, .bool false), (5, .pointer (some ⟨d, 0, none⟩)), (8, .slice B8 5 c8), (10, .int .i64 (i : Nat)), (12, .slice B131 5 cap132), (9, .int .i64 (ls2 : Nat)), (6, .pointer (some ⟨s487, 0, none⟩)), (14, .int .i64 (n : Nat)), (143, .bool false), (144, .agg #[.int .i64 (((pageOf (ul488.getD n none))).lsn), .slice A515 (((pageOf (ul488.getD n none))).slots.length) c516]), (145, .slice B8 5 c8), (146, .int .i64 (n : Nat)), (148, .agg #[.int .i64 ((pageOf (vl.getD n none)).lsn), .slice B545 ((pageOf (vl.getD n none)).slots.length) cp546]), (150, .bool (!(decide ((pageOf (ul488.getD n none)) = (pageOf (vl.getD n none)))))), (151, .bool (!(decide ((pageOf (ul488.getD n none)) = (pageOf (vl.getD n none))))))]) (vs := []) (obs := []) (pd' := []) hF557 (by kernel_rfl) .nil rfl ?_
                  intro a561 hF562
                  clear hF557
                  by_cases h563 : (pageOf (ul488.getD n none)) = (pageOf (vl.getD n none))
                  ·
                    have hb564 : (!(decide ((pageOf (ul488.getD n none)) = (pageOf (vl.getD n none))))) = false := (by rw [decide_eq_true h563]; rfl)
                    rw [hb564] at hF562
                    refine batchD_spec (is := [11, 12, 13, 14, 15, 16, 17, 18, 19]) (dn := [0, 1, 2, 3, 4, 5, 6, 7, 8, 9, 10]) (dn' := [0, 1, 2, 3, 4, 5, 6, 7, 8, 9, 10, 11, 12, 13, 14, 15, 16, 17, 18, 19]) (live := [149, 147, 15, 3, 0, 4, 5, 8, 10, 12, 9, 6, 14, 144, 145, 146, 148, 150, 151, 152, 153, 154, 155, 156, 157, 158, 159, 160]) (e' := [(149, .bool (decide ((pageOf (ul488.getD n none)) = (pageOf (vl.getD n none))))), (147, .pointer (some ⟨b543, 0 + n * 2, none⟩)), (15, .pointer (some ⟨b524, 0, none⟩)), (3, .pointer (some ⟨b4, 0, none⟩)), (0, .slice AG gs.length cg), (4, .bool false), (5, .pointer (some ⟨d, 0, none⟩)), (8, .slice B8 5 c8), (10, .int .i64 (i : Nat)), (12, .slice B131 5 cap132), (9, .int .i64 (ls2 : Nat)), (6, .pointer (some ⟨s487, 0, none⟩)), (14, .int .i64 (n : Nat)), (144, .agg #[.int .i64 (((pageOf (ul488.getD n none))).lsn), .slice A515 (((pageOf (ul488.getD n none))).slots.length) c516]), (145, .slice B8 5 c8), (146, .int .i64 (n : Nat)), (148, .agg #[.int .i64 ((pageOf (vl.getD n none)).lsn), .slice B545 ((pageOf (vl.getD n none)).slots.length) cp546]), (150, .bool false), (151, .bool false), (152, undef), (153, undef), (154, undef), (155, undef), (156, undef), (157, undef), (158, undef), (159, .bool false), (160, .bool false)]) (vs := []) (obs := []) (pd' := []) hF562 (by kernel_rfl) .nil rfl ?_
                    intro a565 hF566
                    clear hF562
                    refine wpD_done (by kernel_rfl) ?_
                    refine nrm_then ?_
                    refine cond_no hF566 rfl ?_
                    refine wp_skip ?_
                    refine nrm_then ?_
                    have hnn : n < 5 := by omega
                    refine reg_text (l := [0, 1, 2, 3, 4]) (by kernel_rfl) ?_
                    refine batch_spec (is := [0, 1, 2]) (rest := [3, 4]) (live := [149, 147, 3, 0, 4, 5, 8, 10, 12, 9, 6, 14, 144, 145, 146, 148, 150, 151, 152, 153, 154, 155, 156, 157, 158, 159, 161, 162, 163]) (e' := [(149, .bool (decide ((pageOf (ul488.getD n none)) = (pageOf (vl.getD n none))))), (147, .pointer (some ⟨b543, 0 + n * 2, none⟩)), (3, .pointer (some ⟨b4, 0, none⟩)), (0, .slice AG gs.length cg), (4, .bool false), (5, .pointer (some ⟨d, 0, none⟩)), (8, .slice B8 5 c8), (10, .int .i64 (i : Nat)), (12, .slice B131 5 cap132), (9, .int .i64 (ls2 : Nat)), (6, .pointer (some ⟨s487, 0, none⟩)), (14, .int .i64 (n : Nat)), (144, .agg #[.int .i64 (((pageOf (ul488.getD n none))).lsn), .slice A515 (((pageOf (ul488.getD n none))).slots.length) c516]), (145, .slice B8 5 c8), (146, .int .i64 (n : Nat)), (148, .agg #[.int .i64 ((pageOf (vl.getD n none)).lsn), .slice B545 ((pageOf (vl.getD n none)).slots.length) cp546]), (150, .bool false), (151, .bool false), (152, undef), (153, undef), (154, undef), (155, undef), (156, undef), (157, undef), (158, undef), (159, .bool false), (161, .slice B8 5 c8), (162, .int .i64 (n : Nat)), (163, .agg #[.int .i64 (((pageOf (ul488.getD n none))).lsn), .slice A515 (((pageOf (ul488.getD n none))).slots.length) c516])]) (vs := [.int .i64 (((pageOf (ul488.getD n none))).lsn), .slice A515 (((pageOf (ul488.getD n none))).slots.length) c516]) (obs := [(⟨b524, 0, none⟩, .int .i64 (((pageOf (ul488.getD n none))).lsn)), (⟨b524, 1, none⟩, .slice A515 (((pageOf (ul488.getD n none))).slots.length) c516)]) hF566 (by kernel_rfl) (.cons (ob hS560 2 rfl rfl) (.cons (ob hS560 2 rfl rfl) .nil)) ?_
                    intro a567 hF568
                    clear hF566
                    refine ops_next ?_
                    obtain ⟨B569, cp570, hc571, hc572, hS573⟩ := page_row heq544 hS560 9 rfl hmx
                    have hS574 : Sat w558 (slA slotT (.slice B569 ((pageOf (vl.getD n none)).slots.length) cp570) ((pageOf (vl.getD n none)).slots) :: slA slotT (.slice A515 (((pageOf (ul488.getD n none))).slots.length) c516) (((pageOf (ul488.getD n none))).slots) :: slA slotT (.slice B545 ((pageOf (vl.getD n none)).slots.length) cp546) ((pageOf (vl.getD n none)).slots) :: raw b524 (.cells #[.int .i64 (((pageOf (ul488.getD n none))).lsn), .slice A515 (((pageOf (ul488.getD n none))).slots.length) c516] 41 (0, 0)) :: storeA s487 ⟨d, 0, 3, ul488.map pageOf, pl489.life, false⟩ :: plateA d pl489 :: raw b4 (.cells #[.slice A0 p0.length c0, .slice A1 p1.length c1] 24 (0, 0)) :: slA groupT (.slice AG gs.length cg) gs :: slA intT (.slice A0 p0.length c0) p0 :: slA intT (.slice A1 p1.length c1) p1 :: rowA pageT 41 B8 c8 (mixL ul488 vl n) :: rowA pageT 41 B131 cap132 ((newL vl l).map pageOf) :: L) := hS573
                    refine op_value (u := .pointer (some ⟨b543, 0 + n * 2, none⟩)) (v := .indexAddr 32 (.slice B8 5 c8) (.int .i64 (n : Nat))) (e' := [(164, .pointer (some ⟨b543, 0 + n * 2, none⟩)), (149, .bool (decide ((pageOf (ul488.getD n none)) = (pageOf (vl.getD n none))))), (147, .pointer (some ⟨b543, 0 + n * 2, none⟩)), (3, .pointer (some ⟨b4, 0, none⟩)), (0, .slice AG gs.length cg), (4, .bool false), (5, .pointer (some ⟨d, 0, none⟩)), (8, .slice B8 5 c8), (10, .int .i64 (i : Nat)), (12, .slice B131 5 cap132), (9, .int .i64 (ls2 : Nat)), (6, .pointer (some ⟨s487, 0, none⟩)), (14, .int .i64 (n : Nat)), (144, .agg #[.int .i64 (((pageOf (ul488.getD n none))).lsn), .slice A515 (((pageOf (ul488.getD n none))).slots.length) c516]), (145, .slice B8 5 c8), (146, .int .i64 (n : Nat)), (148, .agg #[.int .i64 ((pageOf (vl.getD n none)).lsn), .slice B545 ((pageOf (vl.getD n none)).slots.length) cp546]), (150, .bool false), (151, .bool false), (152, undef), (153, undef), (154, undef), (155, undef), (156, undef), (157, undef), (158, undef), (159, .bool false), (161, .slice B8 5 c8), (162, .int .i64 (n : Nat)), (163, .agg #[.int .i64 (((pageOf (ul488.getD n none))).lsn), .slice A515 (((pageOf (ul488.getD n none))).slots.length) c516])]) hF568 (by kernel_rfl) (.value ((run_indexAddrA (el := 41) (sz := 2) (off := 0) (k := n) heq544 Tryd.underlying32 (by kernel_rfl) (by rfl) (by omega)) _)) ?_
                    intro a575 hF576
                    clear hF568
                    refine ops_next ?_
                    obtain ⟨w577, hr578, hS579⟩ := comes_rowSetA (P := Tryd.prog) (T := pageT) (t' := 41) (k := n) (o := 0 + n * 2) (x := (⟨((pageOf (ul488.getD n none))).lsn, ((pageOf (ul488.getD n none))).slots⟩ : Page)) (v := .agg #[.int .i64 (((pageOf (ul488.getD n none))).lsn), .slice A515 (((pageOf (ul488.getD n none))).slots.length) c516]) (vs := [.int .i64 (((pageOf (ul488.getD n none))).lsn), .slice A515 (((pageOf (ul488.getD n none))).slots.length) c516]) heq544 hS574 10 rfl rfl rfl (by kernel_rfl) (by omega) (Nat.zero_add _) (fun h => Sat_out 1 h rfl (fun g hg => Cells.single ⟨_, rfl, hg⟩))
                    refine op_value (u := undef) (e' := [(164, .pointer (some ⟨b543, 0 + n * 2, none⟩)), (149, .bool (decide ((pageOf (ul488.getD n none)) = (pageOf (vl.getD n none))))), (147, .pointer (some ⟨b543, 0 + n * 2, none⟩)), (3, .pointer (some ⟨b4, 0, none⟩)), (0, .slice AG gs.length cg), (4, .bool false), (5, .pointer (some ⟨d, 0, none⟩)), (8, .slice B8 5 c8), (10, .int .i64 (i : Nat)), (12, .slice B131 5 cap132), (9, .int .i64 (ls2 : Nat)), (6, .pointer (some ⟨s487, 0, none⟩)), (14, .int .i64 (n : Nat)), (144, .agg #[.int .i64 (((pageOf (ul488.getD n none))).lsn), .slice A515 (((pageOf (ul488.getD n none))).slots.length) c516]), (145, .slice B8 5 c8), (146, .int .i64 (n : Nat)), (148, .agg #[.int .i64 ((pageOf (vl.getD n none)).lsn), .slice B545 ((pageOf (vl.getD n none)).slots.length) cp546]), (150, .bool false), (151, .bool false), (152, undef), (153, undef), (154, undef), (155, undef), (156, undef), (157, undef), (158, undef), (159, .bool false), (161, .slice B8 5 c8), (162, .int .i64 (n : Nat)), (163, .agg #[.int .i64 (((pageOf (ul488.getD n none))).lsn), .slice A515 (((pageOf (ul488.getD n none))).slots.length) c516])]) hF576 (by kernel_rfl) hr578 ?_
                    intro a580 hF581
                    clear hF576 hr578
                    clear hS559 hS560 hS573 hS574
                    have hS582 : Sat w577 (rowA pageT 41 B8 c8 ((mixL ul488 vl n).set n (⟨((pageOf (ul488.getD n none))).lsn, ((pageOf (ul488.getD n none))).slots⟩ : Page)) :: slA slotT (.slice B569 ((pageOf (vl.getD n none)).slots.length) cp570) ((pageOf (vl.getD n none)).slots) :: slA slotT (.slice A515 (((pageOf (ul488.getD n none))).slots.length) c516) (((pageOf (ul488.getD n none))).slots) :: slA slotT (.slice B545 ((pageOf (vl.getD n none)).slots.length) cp546) ((pageOf (vl.getD n none)).slots) :: raw b524 (.cells #[.int .i64 (((pageOf (ul488.getD n none))).lsn), .slice A515 (((pageOf (ul488.getD n none))).slots.length) c516] 41 (0, 0)) :: storeA s487 ⟨d, 0, 3, ul488.map pageOf, pl489.life, false⟩ :: plateA d pl489 :: raw b4 (.cells #[.slice A0 p0.length c0, .slice A1 p1.length c1] 24 (0, 0)) :: slA groupT (.slice AG gs.length cg) gs :: slA intT (.slice A0 p0.length c0) p0 :: slA intT (.slice A1 p1.length c1) p1 :: rowA pageT 41 B131 cap132 ((newL vl l).map pageOf) :: L) := hS579
                    refine ops_done ?_
                    refine nrm_block ?_
                    refine nrm_then ?_
                    refine reg_text (l := [0, 1, 2]) (by kernel_rfl) ?_
                    refine batch_spec (is := [0, 1]) (rest := [2]) (live := [149, 147, 3, 0, 4, 5, 8, 10, 12, 9, 6, 144, 145, 146, 148, 150, 151, 152, 153, 154, 155, 156, 157, 158, 159, 134]) (e' := [(149, .bool (decide ((pageOf (ul488.getD n none)) = (pageOf (vl.getD n none))))), (147, .pointer (some ⟨b543, 0 + n * 2, none⟩)), (3, .pointer (some ⟨b4, 0, none⟩)), (0, .slice AG gs.length cg), (4, .bool false), (5, .pointer (some ⟨d, 0, none⟩)), (8, .slice B8 5 c8), (10, .int .i64 (i : Nat)), (12, .slice B131 5 cap132), (9, .int .i64 (ls2 : Nat)), (6, .pointer (some ⟨s487, 0, none⟩)), (144, .agg #[.int .i64 (((pageOf (ul488.getD n none))).lsn), .slice A515 (((pageOf (ul488.getD n none))).slots.length) c516]), (145, .slice B8 5 c8), (146, .int .i64 (n : Nat)), (148, .agg #[.int .i64 ((pageOf (vl.getD n none)).lsn), .slice B545 ((pageOf (vl.getD n none)).slots.length) cp546]), (150, .bool false), (151, .bool false), (152, undef), (153, undef), (154, undef), (155, undef), (156, undef), (157, undef), (158, undef), (159, .bool false), (134, .int .i64 (IntKind.i64.wrap (((n : Nat) : Int) + 1)))]) (vs := []) (obs := []) hF581 (by kernel_rfl) .nil ?_
                    intro a583 hF584
                    clear hF581
                    have hw585 : IntKind.i64.wrap (((n : Nat) : Int) + 1) = ((n + 1 : Nat) : Int) := by rw [wrap_i64 (by omega) (by omega)]; omega
                    rw [hw585] at hF584
                    refine batch_spec (is := [2]) (rest := []) (live := [149, 147, 3, 0, 4, 5, 8, 10, 12, 9, 6, 144, 145, 146, 148, 150, 151, 152, 153, 154, 155, 156, 157, 158, 159, 14]) (e' := [(149, .bool (decide ((pageOf (ul488.getD n none)) = (pageOf (vl.getD n none))))), (147, .pointer (some ⟨b543, 0 + n * 2, none⟩)), (3, .pointer (some ⟨b4, 0, none⟩)), (0, .slice AG gs.length cg), (4, .bool false), (5, .pointer (some ⟨d, 0, none⟩)), (8, .slice B8 5 c8), (10, .int .i64 (i : Nat)), (12, .slice B131 5 cap132), (9, .int .i64 (ls2 : Nat)), (6, .pointer (some ⟨s487, 0, none⟩)), (144, .agg #[.int .i64 (((pageOf (ul488.getD n none))).lsn), .slice A515 (((pageOf (ul488.getD n none))).slots.length) c516]), (145, .slice B8 5 c8), (146, .int .i64 (n : Nat)), (148, .agg #[.int .i64 ((pageOf (vl.getD n none)).lsn), .slice B545 ((pageOf (vl.getD n none)).slots.length) cp546]), (150, .bool false), (151, .bool false), (152, undef), (153, undef), (154, undef), (155, undef), (156, undef), (157, undef), (158, undef), (159, .bool false), (14, .int .i64 (n + 1 : Nat))]) (vs := []) (obs := []) hF584 (by kernel_rfl) .nil ?_
                    intro a586 hF587
                    clear hF584
                    refine ops_done ?_
                    have hS588 : Sat w577 (raw b4 (.cells #[.slice A0 p0.length c0, .slice A1 p1.length c1] 24 (0, 0)) :: slA groupT (.slice AG gs.length cg) gs :: slA intT (.slice A0 p0.length c0) p0 :: slA intT (.slice A1 p1.length c1) p1 :: rowA pageT 41 B8 c8 ((mixL ul488 vl n).set n (⟨((pageOf (ul488.getD n none))).lsn, ((pageOf (ul488.getD n none))).slots⟩ : Page)) :: rowA pageT 41 B131 cap132 ((newL vl l).map pageOf) :: storeA s487 ⟨d, 0, 3, ul488.map pageOf, pl489.life, false⟩ :: plateA d pl489 :: slA slotT (.slice B569 ((pageOf (vl.getD n none)).slots.length) cp570) ((pageOf (vl.getD n none)).slots) :: slA slotT (.slice A515 (((pageOf (ul488.getD n none))).slots.length) c516) (((pageOf (ul488.getD n none))).slots) :: slA slotT (.slice B545 ((pageOf (vl.getD n none)).slots.length) cp546) ((pageOf (vl.getD n none)).slots) :: raw b524 (.cells #[.int .i64 (((pageOf (ul488.getD n none))).lsn), .slice A515 (((pageOf (ul488.getD n none))).slots.length) c516] 41 (0, 0)) :: L) := (Sat_at (Sat_at (Sat_at (Sat_at (Sat_at (Sat_at (Sat_at (Sat_at hS582 6 rfl rfl) 6 rfl rfl) 11 rfl rfl) 3 rfl rfl) 11 rfl rfl) 11 rfl rfl) 11 rfl rfl) 11 rfl rfl)
                    refine nrm_then ⟨_, ?_, n + 1, rfl, (by omega), (Fits.restr (r := [(3, .pointer (some ⟨b4, 0, none⟩)), (0, .slice AG gs.length cg), (4, .bool false), (5, .pointer (some ⟨d, 0, none⟩)), (8, .slice B8 5 c8), (10, .int .i64 (i : Nat)), (12, .slice B131 5 cap132), (9, .int .i64 (ls2 : Nat)), (6, .pointer (some ⟨s487, 0, none⟩)), (14, .int .i64 (n + 1 : Nat))]) hF587 (ks := [3, 0, 4, 5, 8, 10, 12, 9, 6, 14]) (by kernel_rfl)).cast (by rfl), (by rw [← mix_set hx490.1.stab.len hF.stab.len (by omega)]; exact (Sat_at (Sat_at (Sat_at (Sat_at hS588 11 rfl rfl).drop 10 rfl rfl).drop 9 rfl rfl).drop 8 rfl rfl).drop)⟩
                    omega
                  ·
                    have hb589 : (!(decide ((pageOf (ul488.getD n none)) = (pageOf (vl.getD n none))))) = true := (by rw [decide_eq_false h563]; rfl)
                    rw [hb589] at hF562
                    refine batchD_spec (is := [11, 12, 13]) (dn := [0, 1, 2, 3, 4, 5, 6, 7, 8, 9, 10]) (dn' := [0, 1, 2, 3, 4, 5, 6, 7, 8, 9, 10, 11, 12, 13]) (live := [149, 147, 15, 3, 0, 4, 5, 8, 10, 12, 9, 6, 14, 143, 144, 145, 146, 148, 150, 151, 152, 153, 154]) (e' := [(149, .bool (decide ((pageOf (ul488.getD n none)) = (pageOf (vl.getD n none))))), (147, .pointer (some ⟨b543, 0 + n * 2, none⟩)), (15, .pointer (some ⟨b524, 0, none⟩)), (3, .pointer (some ⟨b4, 0, none⟩)), (0, .slice AG gs.length cg), (4, .bool false), (5, .pointer (some ⟨d, 0, none⟩)), (8, .slice B8 5 c8), (10, .int .i64 (i : Nat)), (12, .slice B131 5 cap132), (9, .int .i64 (ls2 : Nat)), (6, .pointer (some ⟨s487, 0, none⟩)), (14, .int .i64 (n : Nat)), (143, .bool false), (144, .agg #[.int .i64 (((pageOf (ul488.getD n none))).lsn), .slice A515 (((pageOf (ul488.getD n none))).slots.length) c516]), (145, .slice B8 5 c8), (146, .int .i64 (n : Nat)), (148, .agg #[.int .i64 ((pageOf (vl.getD n none)).lsn), .slice B545 ((pageOf (vl.getD n none)).slots.length) cp546]), (150, .bool true), (151, .bool true), (152, .agg #[.int .i64 (((pageOf (ul488.getD n none))).lsn), .slice A515 (((pageOf (ul488.getD n none))).slots.length) c516]), (153, .slice B131 5 cap132), (154, .int .i64 (n : Nat))]) (vs := [.int .i64 (((pageOf (ul488.getD n none))).lsn), .slice A515 (((pageOf (ul488.getD n none))).slots.length) c516]) (obs := [(⟨b524, 0, none⟩, .int .i64 (((pageOf (ul488.getD n none))).lsn)), (⟨b524, 1, none⟩, .slice A515 (((pageOf (ul488.getD n none))).slots.length) c516)]) (pd' := [(11, [(⟨b524, 0, none⟩, .int .i64 (((pageOf (ul488.getD n none))).lsn)), (⟨b524, 1, none⟩, .slice A515 (((pageOf (ul488.getD n none))).slots.length) c516)])]) hF562 (by kernel_rfl) (.cons (ob hS560 2 rfl rfl) (.cons (ob hS560 2 rfl rfl) .nil)) rfl ?_
                    intro a590 hF591
                    clear hF562
                    obtain ⟨b592, heq593⟩ := row_addr (k := n) hS560 10 rfl (by omega)
                    obtain ⟨B594, cp595, hc596, hc597, hS598⟩ := page_row heq593 hS560 10 rfl hnx
                    have hS599 : Sat w558 (slA slotT (.slice B594 ((pageOf ((newL vl l).getD n none)).slots.length) cp595) ((pageOf ((newL vl l).getD n none)).slots) :: slA slotT (.slice A515 (((pageOf (ul488.getD n none))).slots.length) c516) (((pageOf (ul488.getD n none))).slots) :: slA slotT (.slice B545 ((pageOf (vl.getD n none)).slots.length) cp546) ((pageOf (vl.getD n none)).slots) :: raw b524 (.cells #[.int .i64 (((pageOf (ul488.getD n none))).lsn), .slice A515 (((pageOf (ul488.getD n none))).slots.length) c516] 41 (0, 0)) :: storeA s487 ⟨d, 0, 3, ul488.map pageOf, pl489.life, false⟩ :: plateA d pl489 :: raw b4 (.cells #[.slice A0 p0.length c0, .slice A1 p1.length c1] 24 (0, 0)) :: slA groupT (.slice AG gs.length cg) gs :: slA intT (.slice A0 p0.length c0) p0 :: slA intT (.slice A1 p1.length c1) p1 :: rowA pageT 41 B8 c8 (mixL ul488 vl n) :: rowA pageT 41 B131 cap132 ((newL vl l).map pageOf) :: L) := hS598
                    refine wpD_one (i := 14) (u := .pointer (some ⟨b592, 0 + n * 2, none⟩)) (v := .indexAddr 32 (.slice B131 5 cap132) (.int .i64 (n : Nat))) (e' := [(155, .pointer (some ⟨b592, 0 + n * 2, none⟩)), (149, .bool (decide ((pageOf (ul488.getD n none)) = (pageOf (vl.getD n none))))), (147, .pointer (some ⟨b543, 0 + n * 2, none⟩)), (15, .pointer (some ⟨b524, 0, none⟩)), (3, .pointer (some ⟨b4, 0, none⟩)), (0, .slice AG gs.length cg), (4, .bool false), (5, .pointer (some ⟨d, 0, none⟩)), (8, .slice B8 5 c8), (10, .int .i64 (i : Nat)), (12, .slice B131 5 cap132), (9, .int .i64 (ls2 : Nat)), (6, .pointer (some ⟨s487, 0, none⟩)), (14, .int .i64 (n : Nat)), (143, .bool false), (144, .agg #[.int .i64 (((pageOf (ul488.getD n none))).lsn), .slice A515 (((pageOf (ul488.getD n none))).slots.length) c516]), (145, .slice B8 5 c8), (146, .int .i64 (n : Nat)), (148, .agg #[.int .i64 ((pageOf (vl.getD n none)).lsn), .slice B545 ((pageOf (vl.getD n none)).slots.length) cp546]), (150, .bool true), (151, .bool true), (152, .agg #[.int .i64 (((pageOf (ul488.getD n none))).lsn), .slice A515 (((pageOf (ul488.getD n none))).slots.length) c516]), (153, .slice B131 5 cap132), (154, .int .i64 (n : Nat))]) (obs := []) (dn' := [0, 1, 2, 3, 4, 5, 6, 7, 8, 9, 10, 11, 12, 13, 14]) hF591 (by kernel_rfl) (by kernel_rfl) rfl (fun w _ => (run_indexAddrA (el := 41) (sz := 2) (off := 0) (k := n) heq593 Tryd.underlying32 (by kernel_rfl) (by rfl) (by omega)) w) .nil ?_
                    refine fun a600 hF601 => wpD_filter ?_
                    show wpD _ _ _ _ [(11, [(⟨b524, 0, none⟩, .int .i64 (((pageOf (ul488.getD n none))).lsn)), (⟨b524, 1, none⟩, .slice A515 (((pageOf (ul488.getD n none))).slots.length) c516)])] _ _ _
                    clear hF591
                    refine batchD_spec (is := [15]) (dn := [0, 1, 2, 3, 4, 5, 6, 7, 8, 9, 10, 11, 12, 13, 14]) (dn' := [0, 1, 2, 3, 4, 5, 6, 7, 8, 9, 10, 11, 12, 13, 14, 15]) (live := [155, 149, 147, 15, 3, 0, 4, 5, 8, 10, 12, 9, 6, 14, 143, 144, 145, 146, 148, 150, 151, 152, 153, 154, 156]) (e' := [(155, .pointer (some ⟨b592, 0 + n * 2, none⟩)), (149, .bool (decide ((pageOf (ul488.getD n none)) = (pageOf (vl.getD n none))))), (147, .pointer (some ⟨b543, 0 + n * 2, none⟩)), (15, .pointer (some ⟨b524, 0, none⟩)), (3, .pointer (some ⟨b4, 0, none⟩)), (0, .slice AG gs.length cg), (4, .bool false), (5, .pointer (some ⟨d, 0, none⟩)), (8, .slice B8 5 c8), (10, .int .i64 (i : Nat)), (12, .slice B131 5 cap132), (9, .int .i64 (ls2 : Nat)), (6, .pointer (some ⟨s487, 0, none⟩)), (14, .int .i64 (n : Nat)), (143, .bool false), (144, .agg #[.int .i64 (((pageOf (ul488.getD n none))).lsn), .slice A515 (((pageOf (ul488.getD n none))).slots.length) c516]), (145, .slice B8 5 c8), (146, .int .i64 (n : Nat)), (148, .agg #[.int .i64 ((pageOf (vl.getD n none)).lsn), .slice B545 ((pageOf (vl.getD n none)).slots.length) cp546]), (150, .bool true), (151, .bool true), (152, .agg #[.int .i64 (((pageOf (ul488.getD n none))).lsn), .slice A515 (((pageOf (ul488.getD n none))).slots.length) c516]), (153, .slice B131 5 cap132), (154, .int .i64 (n : Nat)), (156, .agg #[.int .i64 ((pageOf ((newL vl l).getD n none)).lsn), .slice B594 ((pageOf ((newL vl l).getD n none)).slots.length) cp595])]) (vs := [.int .i64 ((pageOf ((newL vl l).getD n none)).lsn), .slice B594 ((pageOf ((newL vl l).getD n none)).slots.length) cp595]) (obs := [(⟨b592, 0 + n * 2, none⟩, .int .i64 ((pageOf ((newL vl l).getD n none)).lsn)), (⟨b592, 0 + n * 2 + 1, none⟩, .slice B594 ((pageOf ((newL vl l).getD n none)).slots.length) cp595)]) (pd' := [(15, [(⟨b592, 0 + n * 2, none⟩, .int .i64 ((pageOf ((newL vl l).getD n none)).lsn)), (⟨b592, 0 + n * 2 + 1, none⟩, .slice B594 ((pageOf ((newL vl l).getD n none)).slots.length) cp595)]), (11, [(⟨b524, 0, none⟩, .int .i64 (((pageOf (ul488.getD n none))).lsn)), (⟨b524, 1, none⟩, .slice A515 (((pageOf (ul488.getD n none))).slots.length) c516)])]) hF601 (by kernel_rfl) (.cons hc596 (.cons hc597 .nil)) rfl ?_
                    intro a602 hF603
                    clear hF601
                    refine wpD_next (i := 16) (pd' := []) (dn' := [0, 1, 2, 3, 4, 5, 6, 7, 8, 9, 10, 11, 12, 13, 14, 15, 16]) (by kernel_rfl) rfl (by kernel_rfl) ?_
                    have hS604 : Sat w558 (slA slotT (.slice A515 (((pageOf (ul488.getD n none))).slots.length) c516) (((pageOf (ul488.getD n none))).slots) :: slA slotT (.slice B594 ((pageOf ((newL vl l).getD n none)).slots.length) cp595) ((pageOf ((newL vl l).getD n none)).slots) :: slA slotT (.slice B545 ((pageOf (vl.getD n none)).slots.length) cp546) ((pageOf (vl.getD n none)).slots) :: raw b524 (.cells #[.int .i64 (((pageOf (ul488.getD n none))).lsn), .slice A515 (((pageOf (ul488.getD n none))).slots.length) c516] 41 (0, 0)) :: storeA s487 ⟨d, 0, 3, ul488.map pageOf, pl489.life, false⟩ :: plateA d pl489 :: raw b4 (.cells #[.slice A0 p0.length c0, .slice A1 p1.length c1] 24 (0, 0)) :: slA groupT (.slice AG gs.length cg) gs :: slA intT (.slice A0 p0.length c0) p0 :: slA intT (.slice A1 p1.length c1) p1 :: rowA pageT 41 B8 c8 (mixL ul488 vl n) :: rowA pageT 41 B131 cap132 ((newL vl l).map pageOf) :: L) := (Sat_at (Sat_at hS599 0 rfl rfl) 1 rfl rfl)
                    refine op_call (fn := 13) (first := #[]) (cap := #[]) (args := #[.agg #[.int .i64 (((pageOf (ul488.getD n none))).lsn), .slice A515 (((pageOf (ul488.getD n none))).slots.length) c516], .agg #[.int .i64 ((pageOf ((newL vl l).getD n none)).lsn), .slice B594 ((pageOf ((newL vl l).getD n none)).slots.length) cp595]]) (all := #[.agg #[.int .i64 (((pageOf (ul488.getD n none))).lsn), .slice A515 (((pageOf (ul488.getD n none))).slots.length) c516], .agg #[.int .i64 ((pageOf ((newL vl l).getD n none)).lsn), .slice B594 ((pageOf ((newL vl l).getD n none)).slots.length) cp595]]) (pe := fun u => [(157, u), (155, .pointer (some ⟨b592, 0 + n * 2, none⟩)), (149, .bool (decide ((pageOf (ul488.getD n none)) = (pageOf (vl.getD n none))))), (147, .pointer (some ⟨b543, 0 + n * 2, none⟩)), (15, .pointer (some ⟨b524, 0, none⟩)), (3, .pointer (some ⟨b4, 0, none⟩)), (0, .slice AG gs.length cg), (4, .bool false), (5, .pointer (some ⟨d, 0, none⟩)), (8, .slice B8 5 c8), (10, .int .i64 (i : Nat)), (12, .slice B131 5 cap132), (9, .int .i64 (ls2 : Nat)), (6, .pointer (some ⟨s487, 0, none⟩)), (14, .int .i64 (n : Nat)), (143, .bool false), (144, .agg #[.int .i64 (((pageOf (ul488.getD n none))).lsn), .slice A515 (((pageOf (ul488.getD n none))).slots.length) c516]), (145, .slice B8 5 c8), (146, .int .i64 (n : Nat)), (148, .agg #[.int .i64 ((pageOf (vl.getD n none)).lsn), .slice B545 ((pageOf (vl.getD n none)).slots.length) cp546]), (150, .bool true), (151, .bool true), (152, .agg #[.int .i64 (((pageOf (ul488.getD n none))).lsn), .slice A515 (((pageOf (ul488.getD n none))).slots.length) c516]), (153, .slice B131 5 cap132), (154, .int .i64 (n : Nat)), (156, .agg #[.int .i64 ((pageOf ((newL vl l).getD n none)).lsn), .slice B594 ((pageOf ((newL vl l).getD n none)).slots.length) cp595])]) hF603 (fun u => by kernel_rfl) (by kernel_rfl) (by kernel_rfl) (same_c (x := (pageOf (ul488.getD n none))) (y := (pageOf ((newL vl l).getD n none))) (fine_page hx490.1 (by omega)) (bad_page hBk.bad (by omega)).2 hS604) ?_
                    rintro u w607 a605 ⟨rfl, hS608⟩ hF606
                    clear hF603
                    clear hS559 hS560 hS598 hS599 hS604
                    have hS609 : Sat w607 (slA slotT (.slice A515 (((pageOf (ul488.getD n none))).slots.length) c516) (((pageOf (ul488.getD n none))).slots) :: slA slotT (.slice B594 ((pageOf ((newL vl l).getD n none)).slots.length) cp595) ((pageOf ((newL vl l).getD n none)).slots) :: slA slotT (.slice B545 ((pageOf (vl.getD n none)).slots.length) cp546) ((pageOf (vl.getD n none)).slots) :: raw b524 (.cells #[.int .i64 (((pageOf (ul488.getD n none))).lsn), .slice A515 (((pageOf (ul488.getD n none))).slots.length) c516] 41 (0, 0)) :: storeA s487 ⟨d, 0, 3, ul488.map pageOf, pl489.life, false⟩ :: plateA d pl489 :: raw b4 (.cells #[.slice A0 p0.length c0, .slice A1 p1.length c1] 24 (0, 0)) :: slA groupT (.slice AG gs.length cg) gs :: slA intT (.slice A0 p0.length c0) p0 :: slA intT (.slice A1 p1.length c1) p1 :: rowA pageT 41 B8 c8 (mixL ul488 vl n) :: rowA pageT 41 B131 cap132 ((newL vl l).map pageOf) :: L) := hS608
                    refine ⟨.nil, ?_⟩
                    refine batchD_spec (is := [17, 18, 19]) (dn := [0, 1, 2, 3, 4, 5, 6, 7, 8, 9, 10, 11, 12, 13, 14, 15, 16]) (dn' := [0, 1, 2, 3, 4, 5, 6, 7, 8, 9, 10, 11, 12, 13, 14, 15, 16, 17, 18, 19]) (live := [157, 155, 149, 147, 15, 3, 0, 4, 5, 8, 10, 12, 9, 6, 14, 144, 145, 146, 148, 150, 151, 152, 153, 154, 156, 158, 159, 160]) (e' := [(157, .bool (decide ((pageOf (ul488.getD n none)) = (pageOf ((newL vl l).getD n none))))), (155, .pointer (some ⟨b592, 0 + n * 2, none⟩)), (149, .bool (decide ((pageOf (ul488.getD n none)) = (pageOf (vl.getD n none))))), (147, .pointer (some ⟨b543, 0 + n * 2, none⟩)), (15, .pointer (some ⟨b524, 0, none⟩)), (3, .pointer (some ⟨b4, 0, none⟩)), (0, .slice AG gs.length cg), (4, .bool false), (5, .pointer (some ⟨d, 0, none⟩)), (8, .slice B8 5 c8), (10, .int .i64 (i : Nat)), (12, .slice B131 5 cap132), (9, .int .i64 (ls2 : Nat)), (6, .pointer (some ⟨s487, 0, none⟩)), (14, .int .i64 (n : Nat)), (144, .agg #[.int .i64 (((pageOf (ul488.getD n none))).lsn), .slice A515 (((pageOf (ul488.getD n none))).slots.length) c516]), (145, .slice B8 5 c8), (146, .int .i64 (n : Nat)), (148, .agg #[.int .i64 ((pageOf (vl.getD n none)).lsn), .slice B545 ((pageOf (vl.getD n none)).slots.length) cp546]), (150, .bool true), (151, .bool true), (152, .agg #[.int .i64 (((pageOf (ul488.getD n none))).lsn), .slice A515 (((pageOf (ul488.getD n none))).slots.length) c516]), (153, .slice B131 5 cap132), (154, .int .i64 (n : Nat)), (156, .agg #[.int .i64 ((pageOf ((newL vl l).getD n none)).lsn), .slice B594 ((pageOf ((newL vl l).getD n none)).slots.length) cp595]), (158, .bool (!(decide ((pageOf (ul488.getD n none)) = (pageOf ((newL vl l).getD n none)))))), (159, .bool (!(decide ((pageOf (ul488.getD n none)) = (pageOf ((newL vl l).getD n none)))))), (160, .bool (!(decide ((pageOf (ul488.getD n none)) = (pageOf ((newL vl l).getD n none))))))]) (vs := []) (obs := []) (pd' := []) hF606 (by kernel_rfl) .nil rfl ?_
                    intro a610 hF611
                    clear hF606
                    refine wpD_done (by kernel_rfl) ?_
                    refine nrm_then ?_
                    have hb612 : (!(decide ((pageOf (ul488.getD n none)) = (pageOf ((newL vl l).getD n none))))) = false := (by rw [decide_eq_true ((hx490.2.1 n (by omega)).elim (fun q => absurd (by rw [q]) h563) (fun q => by rw [q]))]; rfl)
                    rw [hb612] at hF611
                    refine cond_no hF611 rfl ?_
                    refine wp_skip ?_
                    refine nrm_then ?_
                    have hnn : n < 5 := by omega
                    refine reg_text (l := [0, 1, 2, 3, 4]) (by kernel_rfl) ?_
                    refine batch_spec (is := [0, 1, 2]) (rest := [3, 4]) (live := [157, 155, 149, 147, 3, 0, 4, 5, 8, 10, 12, 9, 6, 14, 144, 145, 146, 148, 150, 151, 152, 153, 154, 156, 158, 159, 161, 162, 163]) (e' := [(157, .bool (decide ((pageOf (ul488.getD n none)) = (pageOf ((newL vl l).getD n none))))), (155, .pointer (some ⟨b592, 0 + n * 2, none⟩)), (149, .bool (decide ((pageOf (ul488.getD n none)) = (pageOf (vl.getD n none))))), (147, .pointer (some ⟨b543, 0 + n * 2, none⟩)), (3, .pointer (some ⟨b4, 0, none⟩)), (0, .slice AG gs.length cg), (4, .bool false), (5, .pointer (some ⟨d, 0, none⟩)), (8, .slice B8 5 c8), (10, .int .i64 (i : Nat)), (12, .slice B131 5 cap132), (9, .int .i64 (ls2 : Nat)), (6, .pointer (some ⟨s487, 0, none⟩)), (14, .int .i64 (n : Nat)), (144, .agg #[.int .i64 (((pageOf (ul488.getD n none))).lsn), .slice A515 (((pageOf (ul488.getD n none))).slots.length) c516]), (145, .slice B8 5 c8), (146, .int .i64 (n : Nat)), (148, .agg #[.int .i64 ((pageOf (vl.getD n none)).lsn), .slice B545 ((pageOf (vl.getD n none)).slots.length) cp546]), (150, .bool true), (151, .bool true), (152, .agg #[.int .i64 (((pageOf (ul488.getD n none))).lsn), .slice A515 (((pageOf (ul488.getD n none))).slots.length) c516]), (153, .slice B131 5 cap132), (154, .int .i64 (n : Nat)), (156, .agg #[.int .i64 ((pageOf ((newL vl l).getD n none)).lsn), .slice B594 ((pageOf ((newL vl l).getD n none)).slots.length) cp595]), (158, .bool false), (159, .bool false), (161, .slice B8 5 c8), (162, .int .i64 (n : Nat)), (163, .agg #[.int .i64 (((pageOf (ul488.getD n none))).lsn), .slice A515 (((pageOf (ul488.getD n none))).slots.length) c516])]) (vs := [.int .i64 (((pageOf (ul488.getD n none))).lsn), .slice A515 (((pageOf (ul488.getD n none))).slots.length) c516]) (obs := [(⟨b524, 0, none⟩, .int .i64 (((pageOf (ul488.getD n none))).lsn)), (⟨b524, 1, none⟩, .slice A515 (((pageOf (ul488.getD n none))).slots.length) c516)]) hF611 (by kernel_rfl) (.cons (ob hS609 3 rfl rfl) (.cons (ob hS609 3 rfl rfl) .nil)) ?_
                    intro a613 hF614
                    clear hF611
                    refine ops_next ?_
                    obtain ⟨B615, cp616, hc617, hc618, hS619⟩ := page_row heq544 hS609 10 rfl hmx
                    have hS620 : Sat w607 (slA slotT (.slice B615 ((pageOf (vl.getD n none)).slots.length) cp616) ((pageOf (vl.getD n none)).slots) :: slA slotT (.slice A515 (((pageOf (ul488.getD n none))).slots.length) c516) (((pageOf (ul488.getD n none))).slots) :: slA slotT (.slice B594 ((pageOf ((newL vl l).getD n none)).slots.length) cp595) ((pageOf ((newL vl l).getD n none)).slots) :: slA slotT (.slice B545 ((pageOf (vl.getD n none)).slots.length) cp546) ((pageOf (vl.getD n none)).slots) :: raw b524 (.cells #[.int .i64 (((pageOf (ul488.getD n none))).lsn), .slice A515 (((pageOf (ul488.getD n none))).slots.length) c516] 41 (0, 0)) :: storeA s487 ⟨d, 0, 3, ul488.map pageOf, pl489.life, false⟩ :: plateA d pl489 :: raw b4 (.cells #[.slice A0 p0.length c0, .slice A1 p1.length c1] 24 (0, 0)) :: slA groupT (.slice AG gs.length cg) gs :: slA intT (.slice A0 p0.length c0) p0 :: slA intT (.slice A1 p1.length c1) p1 :: rowA pageT 41 B8 c8 (mixL ul488 vl n) :: rowA pageT 41 B131 cap132 ((newL vl l).map pageOf) :: L) := hS619
                    refine op_value (u := .pointer (some ⟨b543, 0 + n * 2, none⟩)) (v := .indexAddr 32 (.slice B8 5 c8) (.int .i64 (n : Nat))) (e' := [(164, .pointer (some ⟨b543, 0 + n * 2, none⟩)), (157, .bool (decide ((pageOf (ul488.getD n none)) = (pageOf ((newL vl l).getD n none))))), (155, .pointer (some ⟨b592, 0 + n * 2, none⟩)), (149, .bool (decide ((pageOf (ul488.getD n none)) = (pageOf (vl.getD n none))))), (147, .pointer (some ⟨b543, 0 + n * 2, none⟩)), (3, .pointer (some ⟨b4, 0, none⟩)), (0, .slice AG gs.length cg), (4, .bool false), (5, .pointer (some ⟨d, 0, none⟩)), (8, .slice B8 5 c8), (10, .int .i64 (i : Nat)), (12, .slice B131 5 cap132), (9, .int .i64 (ls2 : Nat)), (6, .pointer (some ⟨s487, 0, none⟩)), (14, .int .i64 (n : Nat)), (144, .agg #[.int .i64 (((pageOf (ul488.getD n none))).lsn), .slice A515 (((pageOf (ul488.getD n none))).slots.length) c516]), (145, .slice B8 5 c8), (146, .int .i64 (n : Nat)), (148, .agg #[.int .i64 ((pageOf (vl.getD n none)).lsn), .slice B545 ((pageOf (vl.getD n none)).slots.length) cp546]), (150, .bool true), (151, .bool true), (152, .agg #[.int .i64 (((pageOf (ul488.getD n none))).lsn), .slice A515 (((pageOf (ul488.getD n none))).slots.length) c516]), (153, .slice B131 5 cap132), (154, .int .i64 (n : Nat)), (156, .agg #[.int .i64 ((pageOf ((newL vl l).getD n none)).lsn), .slice B594 ((pageOf ((newL vl l).getD n none)).slots.length) cp595]), (158, .bool false), (159, .bool false), (161, .slice B8 5 c8), (162, .int .i64 (n : Nat)), (163, .agg #[.int .i64 (((pageOf (ul488.getD n none))).lsn), .slice A515 (((pageOf (ul488.getD n none))).slots.length) c516])]) hF614 (by kernel_rfl) (.value ((run_indexAddrA (el := 41) (sz := 2) (off := 0) (k := n) heq544 Tryd.underlying32 (by kernel_rfl) (by rfl) (by omega)) _)) ?_
                    intro a621 hF622
                    clear hF614
                    refine ops_next ?_
                    obtain ⟨w623, hr624, hS625⟩ := comes_rowSetA (P := Tryd.prog) (T := pageT) (t' := 41) (k := n) (o := 0 + n * 2) (x := (⟨((pageOf (ul488.getD n none))).lsn, ((pageOf (ul488.getD n none))).slots⟩ : Page)) (v := .agg #[.int .i64 (((pageOf (ul488.getD n none))).lsn), .slice A515 (((pageOf (ul488.getD n none))).slots.length) c516]) (vs := [.int .i64 (((pageOf (ul488.getD n none))).lsn), .slice A515 (((pageOf (ul488.getD n none))).slots.length) c516]) heq544 hS620 11 rfl rfl rfl (by kernel_rfl) (by omega) (Nat.zero_add _) (fun h => Sat_out 1 h rfl (fun g hg => Cells.single ⟨_, rfl, hg⟩))
                    refine op_value (u := undef) (e' := [(164, .pointer (some ⟨b543, 0 + n * 2, none⟩)), (157, .bool (decide ((pageOf (ul488.getD n none)) = (pageOf ((newL vl l).getD n none))))), (155, .pointer (some ⟨b592, 0 + n * 2, none⟩)), (149, .bool (decide ((pageOf (ul488.getD n none)) = (pageOf (vl.getD n none))))), (147, .pointer (some ⟨b543, 0 + n * 2, none⟩)), (3, .pointer (some ⟨b4, 0, none⟩)), (0, .slice AG gs.length cg), (4, .bool false), (5, .pointer (some ⟨d, 0, none⟩)), (8, .slice B8 5 c8), (10, .int .i64 (i : Nat)), (12, .slice B131 5 cap132), (9, .int .i64 (ls2 : Nat)), (6, .pointer (some ⟨s487, 0, none⟩)), (14, .int .i64 (n : Nat)), (144, .agg #[.int .i64 (((pageOf (ul488.getD n none))).lsn), .slice A515 (((pageOf (ul488.getD n none))).slots.length) c516]), (145, .slice B8 5 c8), (146, .int .i64 (n : Nat)), (148, .agg #[.int .i64 ((pageOf (vl.getD n none)).lsn), .slice B545 ((pageOf (vl.getD n none)).slots.length) cp546]), (150, .bool true), (151, .bool true), (152, .agg #[.int .i64 (((pageOf (ul488.getD n none))).lsn), .slice A515 (((pageOf (ul488.getD n none))).slots.length) c516]), (153, .slice B131 5 cap132), (154, .int .i64 (n : Nat)), (156, .agg #[.int .i64 ((pageOf ((newL vl l).getD n none)).lsn), .slice B594 ((pageOf ((newL vl l).getD n none)).slots.length) cp595]), (158, .bool false), (159, .bool false), (161, .slice B8 5 c8), (162, .int .i64 (n : Nat)), (163, .agg #[.int .i64 (((pageOf (ul488.getD n none))).lsn), .slice A515 (((pageOf (ul488.getD n none))).slots.length) c516])]) hF622 (by kernel_rfl) hr624 ?_
                    intro a626 hF627
                    clear hF622 hr624
                    clear hS608 hS609 hS619 hS620
                    have hS628 : Sat w623 (rowA pageT 41 B8 c8 ((mixL ul488 vl n).set n (⟨((pageOf (ul488.getD n none))).lsn, ((pageOf (ul488.getD n none))).slots⟩ : Page)) :: slA slotT (.slice B615 ((pageOf (vl.getD n none)).slots.length) cp616) ((pageOf (vl.getD n none)).slots) :: slA slotT (.slice A515 (((pageOf (ul488.getD n none))).slots.length) c516) (((pageOf (ul488.getD n none))).slots) :: slA slotT (.slice B594 ((pageOf ((newL vl l).getD n none)).slots.length) cp595) ((pageOf ((newL vl l).getD n none)).slots) :: slA slotT (.slice B545 ((pageOf (vl.getD n none)).slots.length) cp546) ((pageOf (vl.getD n none)).slots) :: raw b524 (.cells #[.int .i64 (((pageOf (ul488.getD n none))).lsn), .slice A515 (((pageOf (ul488.getD n none))).slots.length) c516] 41 (0, 0)) :: storeA s487 ⟨d, 0, 3, ul488.map pageOf, pl489.life, false⟩ :: plateA d pl489 :: raw b4 (.cells #[.slice A0 p0.length c0, .slice A1 p1.length c1] 24 (0, 0)) :: slA groupT (.slice AG gs.length cg) gs :: slA intT (.slice A0 p0.length c0) p0 :: slA intT (.slice A1 p1.length c1) p1 :: rowA pageT 41 B131 cap132 ((newL vl l).map pageOf) :: L) := hS625
                    refine ops_done ?_
                    refine nrm_block ?_
                    refine nrm_then ?_
                    refine reg_text (l := [0, 1, 2]) (by kernel_rfl) ?_
                    refine batch_spec (is := [0, 1]) (rest := [2]) (live := [157, 155, 149, 147, 3, 0, 4, 5, 8, 10, 12, 9, 6, 144, 145, 146, 148, 150, 151, 152, 153, 154, 156, 158, 159, 134]) (e' := [(157, .bool (decide ((pageOf (ul488.getD n none)) = (pageOf ((newL vl l).getD n none))))), (155, .pointer (some ⟨b592, 0 + n * 2, none⟩)), (149, .bool (decide ((pageOf (ul488.getD n none)) = (pageOf (vl.getD n none))))), (147, .pointer (some ⟨b543, 0 + n * 2, none⟩)), (3, .pointer (some ⟨b4, 0, none⟩)), (0, .slice AG gs.length cg), (4, .bool false), (5, .pointer (some ⟨d, 0, none⟩)), (8, .slice B8 5 c8), (10, .int .i64 (i : Nat)), (12, .slice B131 5 cap132), (9, .int .i64 (ls2 : Nat)), (6, .pointer (some ⟨s487, 0, none⟩)), (144, .agg #[.int .i64 (((pageOf (ul488.getD n none))).lsn), .slice A515 (((pageOf (ul488.getD n none))).slots.length) c516]), (145, .slice B8 5 c8), (146, .int .i64 (n : Nat)), (148, .agg #[.int .i64 ((pageOf (vl.getD n none)).lsn), .slice B545 ((pageOf (vl.getD n none)).slots.length) cp546]), (150, .bool true), (151, .bool true), (152, .agg #[.int .i64 (((pageOf (ul488.getD n none))).lsn), .slice A515 (((pageOf (ul488.getD n none))).slots.length) c516]), (153, .slice B131 5 cap132), (154, .int .i64 (n : Nat)), (156, .agg #[.int .i64 ((pageOf ((newL vl l).getD n none)).lsn), .slice B594 ((pageOf ((newL vl l).getD n none)).slots.length) cp595]), (158, .bool false), (159, .bool false), (134, .int .i64 (IntKind.i64.wrap (((n : Nat) : Int) + 1)))]) (vs := []) (obs := []) hF627 (by kernel_rfl) .nil ?_
                    intro a629 hF630
                    clear hF627
                    have hw631 : IntKind.i64.wrap (((n : Nat) : Int) + 1) = ((n + 1 : Nat) : Int) := by rw [wrap_i64 (by omega) (by omega)]; omega
                    rw [hw631] at hF630
                    refine batch_spec (is := [2]) (rest := []) (live := [157, 155, 149, 147, 3, 0, 4, 5, 8, 10, 12, 9, 6, 144, 145, 146, 148, 150, 151, 152, 153, 154, 156, 158, 159, 14]) (e' := [(157, .bool (decide ((pageOf (ul488.getD n none)) = (pageOf ((newL vl l).getD n none))))), (155, .pointer (some ⟨b592, 0 + n * 2, none⟩)), (149, .bool (decide ((pageOf (ul488.getD n none)) = (pageOf (vl.getD n none))))), (147, .pointer (some ⟨b543, 0 + n * 2, none⟩)), (3, .pointer (some ⟨b4, 0, none⟩)), (0, .slice AG gs.length cg), (4, .bool false), (5, .pointer (some ⟨d, 0, none⟩)), (8, .slice B8 5 c8), (10, .int .i64 (i : Nat)), (12, .slice B131 5 cap132), (9, .int .i64 (ls2 : Nat)), (6, .pointer (some ⟨s487, 0, none⟩)), (144, .agg #[.int .i64 (((pageOf (ul488.getD n none))).lsn), .slice A515 (((pageOf (ul488.getD n none))).slots.length) c516]), (145, .slice B8 5 c8), (146, .int .i64 (n : Nat)), (148, .agg #[.int .i64 ((pageOf (vl.getD n none)).lsn), .slice B545 ((pageOf (vl.getD n none)).slots.length) cp546]), (150, .bool true), (151, .bool true), (152, .agg #[.int .i64 (((pageOf (ul488.getD n none))).lsn), .slice A515 (((pageOf (ul488.getD n none))).slots.length) c516]), (153, .slice B131 5 cap132), (154, .int .i64 (n : Nat)), (156, .agg #[.int .i64 ((pageOf ((newL vl l).getD n none)).lsn), .slice B594 ((pageOf ((newL vl l).getD n none)).slots.length) cp595]), (158, .bool false), (159, .bool false), (14, .int .i64 (n + 1 : Nat))]) (vs := []) (obs := []) hF630 (by kernel_rfl) .nil ?_
                    intro a632 hF633
                    clear hF630
                    refine ops_done ?_
                    have hS634 : Sat w623 (raw b4 (.cells #[.slice A0 p0.length c0, .slice A1 p1.length c1] 24 (0, 0)) :: slA groupT (.slice AG gs.length cg) gs :: slA intT (.slice A0 p0.length c0) p0 :: slA intT (.slice A1 p1.length c1) p1 :: rowA pageT 41 B8 c8 ((mixL ul488 vl n).set n (⟨((pageOf (ul488.getD n none))).lsn, ((pageOf (ul488.getD n none))).slots⟩ : Page)) :: rowA pageT 41 B131 cap132 ((newL vl l).map pageOf) :: storeA s487 ⟨d, 0, 3, ul488.map pageOf, pl489.life, false⟩ :: plateA d pl489 :: slA slotT (.slice B615 ((pageOf (vl.getD n none)).slots.length) cp616) ((pageOf (vl.getD n none)).slots) :: slA slotT (.slice A515 (((pageOf (ul488.getD n none))).slots.length) c516) (((pageOf (ul488.getD n none))).slots) :: slA slotT (.slice B594 ((pageOf ((newL vl l).getD n none)).slots.length) cp595) ((pageOf ((newL vl l).getD n none)).slots) :: slA slotT (.slice B545 ((pageOf (vl.getD n none)).slots.length) cp546) ((pageOf (vl.getD n none)).slots) :: raw b524 (.cells #[.int .i64 (((pageOf (ul488.getD n none))).lsn), .slice A515 (((pageOf (ul488.getD n none))).slots.length) c516] 41 (0, 0)) :: L) := (Sat_at (Sat_at (Sat_at (Sat_at (Sat_at (Sat_at (Sat_at (Sat_at hS628 7 rfl rfl) 7 rfl rfl) 12 rfl rfl) 3 rfl rfl) 12 rfl rfl) 12 rfl rfl) 12 rfl rfl) 12 rfl rfl)
                    refine nrm_then ⟨_, ?_, n + 1, rfl, (by omega), (Fits.restr (r := [(3, .pointer (some ⟨b4, 0, none⟩)), (0, .slice AG gs.length cg), (4, .bool false), (5, .pointer (some ⟨d, 0, none⟩)), (8, .slice B8 5 c8), (10, .int .i64 (i : Nat)), (12, .slice B131 5 cap132), (9, .int .i64 (ls2 : Nat)), (6, .pointer (some ⟨s487, 0, none⟩)), (14, .int .i64 (n + 1 : Nat))]) hF633 (ks := [3, 0, 4, 5, 8, 10, 12, 9, 6, 14]) (by kernel_rfl)).cast (by rfl), (by rw [← mix_set hx490.1.stab.len hF.stab.len (by omega)]; exact (Sat_at (Sat_at (Sat_at (Sat_at (Sat_at hS634 12 rfl rfl).drop 11 rfl rfl).drop 10 rfl rfl).drop 9 rfl rfl).drop 8 rfl rfl).drop)⟩
                    omega
                ·
                  have hb635 : (decide (((n : Nat) : Int) < 5)) = false := decide_eq_false h510
                  rw [hb635] at hF509
                  refine cond_no hF509 rfl ?_
                  refine wp_exit ?_
                  refine exit_then ?_
                  refine exit_then ?_
                  refine exit_block ?_
                  refine nrm_block ?_
                  refine nrm_then ?_
                  refine reg_text (l := [0, 1, 2]) (by kernel_rfl) ?_
                  refine batch_spec (is := [0, 1]) (rest := [2]) (live := [3, 0, 4, 5, 8, 9, 6, 53]) (e' := [(3, .pointer (some ⟨b4, 0, none⟩)), (0, .slice AG gs.length cg), (4, .bool false), (5, .pointer (some ⟨d, 0, none⟩)), (8, .slice B8 5 c8), (9, .int .i64 (ls2 : Nat)), (6, .pointer (some ⟨s487, 0, none⟩)), (53, .int .i64 (IntKind.i64.wrap (((i : Nat) : Int) + 1)))]) (vs := []) (obs := []) hF509 (by kernel_rfl) .nil ?_
                  intro a636 hF637
                  clear hF509
                  have hw638 : IntKind.i64.wrap (((i : Nat) : Int) + 1) = ((i + 1 : Nat) : Int) := by rw [wrap_i64 (by omega) (by omega)]; omega
                  rw [hw638] at hF637
                  refine batch_spec (is := [2]) (rest := []) (live := [3, 0, 4, 5, 8, 9, 6, 10]) (e' := [(3, .pointer (some ⟨b4, 0, none⟩)), (0, .slice AG gs.length cg), (4, .bool false), (5, .pointer (some ⟨d, 0, none⟩)), (8, .slice B8 5 c8), (9, .int .i64 (ls2 : Nat)), (6, .pointer (some ⟨s487, 0, none⟩)), (10, .int .i64 (i + 1 : Nat))]) (vs := []) (obs := []) hF637 (by kernel_rfl) .nil ?_
                  intro a639 hF640
                  clear hF637
                  refine ops_done ?_
                  have hS641 : Sat w505 (raw b4 (.cells #[.slice A0 p0.length c0, .slice A1 p1.length c1] 24 (0, 0)) :: slA groupT (.slice AG gs.length cg) gs :: slA intT (.slice A0 p0.length c0) p0 :: slA intT (.slice A1 p1.length c1) p1 :: rowA pageT 41 B8 c8 (mixL ul488 vl n) :: storeA s487 ⟨d, 0, 3, ul488.map pageOf, pl489.life, false⟩ :: plateA d pl489 :: rowA pageT 41 B131 cap132 ((newL vl l).map pageOf) :: L) := (Sat_at (Sat_at (Sat_at (Sat_at (Sat_at (Sat_at (Sat_at hS507 7 rfl rfl) 7 rfl rfl) 6 rfl rfl) 6 rfl rfl) 6 rfl rfl) 6 rfl rfl) 6 rfl rfl)
                  refine nrm_then ⟨_, ?_, i + 1, s487, pl489, ul488, B8, c8, ls2, pl489.life, rfl, (by omega), hx490.1, rfl, (by omega), (Fits.restr (r := [(3, .pointer (some ⟨b4, 0, none⟩)), (0, .slice AG gs.length cg), (4, .bool false), (5, .pointer (some ⟨d, 0, none⟩)), (6, .pointer (some ⟨s487, 0, none⟩)), (8, .slice B8 5 c8), (9, .int .i64 (ls2 : Nat)), (10, .int .i64 (i + 1 : Nat))]) hF640 (ks := [3, 0, 4, 5, 6, 8, 9, 10]) (by kernel_rfl)).cast (by rfl), (by have hn5 : n = 5 := (by omega); subst hn5; rw [← mix_full hx490.1.stab.len hF.stab.len]; rw [← mix_full hx490.1.stab.len hF.stab.len] at hS641; exact (Sat_at hS641 7 rfl rfl).drop)⟩
                  omega
              ·
                clear hF485
                clear hS239 hS486
                have hS642 : Sat w493 (plateA d pl489 :: raw b4 (.cells #[.slice A0 p0.length c0, .slice A1 p1.length c1] 24 (0, 0)) :: slA groupT (.slice AG gs.length cg) gs :: slA intT (.slice A0 p0.length c0) p0 :: slA intT (.slice A1 p1.length c1) p1 :: rowA pageT 41 B8 c8 (vl.map pageOf) :: rowA pageT 41 B131 cap132 ((newL vl l).map pageOf) :: L) := hS494
                exact absurd harm (by omega)
      ·
        have hb643 : (decide (((i : Nat) : Int) < 30)) = false := decide_eq_false h93
        rw [hb643] at hF92
        refine cond_no hF92 rfl ?_
        refine wp_exit ?_
        refine exit_then ?_
        refine exit_then ?_
        refine exit_block ?_
        refine nrm_then ?_
        refine wp_seq ?_
        refine reg_text (l := [0, 1]) (by kernel_rfl) ?_
        refine batch_spec (is := [0]) (rest := [1]) (live := [4, 5, 8, 165]) (e' := [(4, .bool false), (5, .pointer (some ⟨d, 0, none⟩)), (8, .slice B8 5 c8), (165, .pointer (some ⟨d, 0, none⟩))]) (vs := []) (obs := []) hF92 (by kernel_rfl) .nil ?_
        intro a644 hF645
        clear hF92
        refine ops_next ?_
        have hS646 : Sat w84 (plateA d pl :: raw b4 (.cells #[.slice A0 p0.length c0, .slice A1 p1.length c1] 24 (0, 0)) :: slA groupT (.slice AG gs.length cg) gs :: slA intT (.slice A0 p0.length c0) p0 :: slA intT (.slice A1 p1.length c1) p1 :: rowA pageT 41 B8 c8 (vl.map pageOf) :: storeA s ⟨d, 0, 3, vl.map pageOf, lf, false⟩ :: L) := (Sat_at hS86 6 rfl rfl)
        refine op_call (fn := 11) (first := #[]) (cap := #[]) (args := #[.pointer (some ⟨d, 0, none⟩)]) (all := #[.pointer (some ⟨d, 0, none⟩)]) (pe := fun u => [(166, u), (4, .bool false), (5, .pointer (some ⟨d, 0, none⟩)), (8, .slice B8 5 c8), (165, .pointer (some ⟨d, 0, none⟩))]) hF645 (fun u => by kernel_rfl) (by kernel_rfl) (by kernel_rfl) (off_c hS646) ?_
        rintro u w649 a647 ⟨rfl, hS650⟩ hF648
        clear hF645
        clear hS86 hS646
        have hS651 : Sat w649 (plateA d ((pl).off) :: raw b4 (.cells #[.slice A0 p0.length c0, .slice A1 p1.length c1] 24 (0, 0)) :: slA groupT (.slice AG gs.length cg) gs :: slA intT (.slice A0 p0.length c0) p0 :: slA intT (.slice A1 p1.length c1) p1 :: rowA pageT 41 B8 c8 (vl.map pageOf) :: storeA s ⟨d, 0, 3, vl.map pageOf, lf, false⟩ :: L) := hS650
        have hlo := off_lost hF.back
        refine ops_done ?_
        refine nrm_then ?_
        refine wp_seq ?_
        refine reg_text (l := [0, 1]) (by kernel_rfl) ?_
        refine batch_spec (is := [0]) (rest := [1]) (live := [4, 5, 8, 167]) (e' := [(4, .bool false), (5, .pointer (some ⟨d, 0, none⟩)), (8, .slice B8 5 c8), (167, .pointer (some ⟨d, 0, none⟩))]) (vs := []) (obs := []) hF648 (by kernel_rfl) .nil ?_
        intro a652 hF653
        clear hF648
        refine ops_next ?_
        have hS654 : Sat w649 (slA intT (.slice none 0 0) [] :: plateA d ((pl).off) :: raw b4 (.cells #[.slice A0 p0.length c0, .slice A1 p1.length c1] 24 (0, 0)) :: slA groupT (.slice AG gs.length cg) gs :: slA intT (.slice A0 p0.length c0) p0 :: slA intT (.slice A1 p1.length c1) p1 :: rowA pageT 41 B8 c8 (vl.map pageOf) :: storeA s ⟨d, 0, 3, vl.map pageOf, lf, false⟩ :: L) := Sat.per_true (fun g => SlK.nil _ _ _ _) hS651
        have hS655 : Sat w649 (plateA d ((pl).off) :: slA intT (.slice none 0 0) [] :: raw b4 (.cells #[.slice A0 p0.length c0, .slice A1 p1.length c1] 24 (0, 0)) :: slA groupT (.slice AG gs.length cg) gs :: slA intT (.slice A0 p0.length c0) p0 :: slA intT (.slice A1 p1.length c1) p1 :: rowA pageT 41 B8 c8 (vl.map pageOf) :: storeA s ⟨d, 0, 3, vl.map pageOf, lf, false⟩ :: L) := (Sat_at (Sat_at hS654 0 rfl rfl) 1 rfl rfl)
        refine op_call (fn := 10) (first := #[]) (cap := #[]) (args := #[.pointer (some ⟨d, 0, none⟩), .slice none 0 0]) (all := #[.pointer (some ⟨d, 0, none⟩), .slice none 0 0]) (pe := fun u => [(168, u), (4, .bool false), (5, .pointer (some ⟨d, 0, none⟩)), (8, .slice B8 5 c8), (167, .pointer (some ⟨d, 0, none⟩))]) hF653 (fun u => by kernel_rfl) (by kernel_rfl) (by kernel_rfl) (on_c (l := []) (by decide) (by have := hlo.que; omega) hS655) ?_
        rintro u w658 a656 ⟨rfl, hS659⟩ hF657
        clear hF653
        clear hS650 hS651 hS654 hS655
        have hS660 : Sat w658 (plateA d (((pl).off).on []) :: slA intT (.slice none 0 0) [] :: raw b4 (.cells #[.slice A0 p0.length c0, .slice A1 p1.length c1] 24 (0, 0)) :: slA groupT (.slice AG gs.length cg) gs :: slA intT (.slice A0 p0.length c0) p0 :: slA intT (.slice A1 p1.length c1) p1 :: rowA pageT 41 B8 c8 (vl.map pageOf) :: storeA s ⟨d, 0, 3, vl.map pageOf, lf, false⟩ :: L) := hS659
        obtain ⟨hBk, hz⟩ := on_back hlo []
        refine ops_done ?_
        refine nrm_then ?_
        refine wp_seq ?_
        refine reg_text (l := [0, 1, 2, 3, 4, 5, 6]) (by kernel_rfl) ?_
        refine batch_spec (is := [0]) (rest := [1, 2, 3, 4, 5, 6]) (live := [4, 8, 170]) (e' := [(4, .bool false), (8, .slice B8 5 c8), (170, .pointer (some ⟨d, 0, none⟩))]) (vs := []) (obs := []) hF657 (by kernel_rfl) .nil ?_
        intro a661 hF662
        clear hF657
        refine ops_next ?_
        refine op_call (fn := 6) (first := #[]) (cap := #[]) (args := #[.pointer (some ⟨d, 0, none⟩), .int .i64 0, .int .i64 3, .int .i64 5]) (all := #[.pointer (some ⟨d, 0, none⟩), .int .i64 0, .int .i64 3, .int .i64 5]) (pe := fun u => [(171, u), (4, .bool false), (8, .slice B8 5 c8), (170, .pointer (some ⟨d, 0, none⟩))]) hF662 (fun u => by kernel_rfl) (by kernel_rfl) (by kernel_rfl) (open_law16 hBk hS660) ?_
        rintro u w669 a667 (⟨s663, rfl, pl665, ul664, hx666, hS670⟩ | ⟨rfl, pl665, hx666, harm, hS670⟩) hF668
        ·
          clear hF662
          clear hS659 hS660
          have hS671 : Sat w669 (storeA s663 ⟨d, 0, 3, ul664.map pageOf, pl665.life, false⟩ :: plateA d pl665 :: slA intT (.slice none 0 0) [] :: raw b4 (.cells #[.slice A0 p0.length c0, .slice A1 p1.length c1] 24 (0, 0)) :: slA groupT (.slice AG gs.length cg) gs :: slA intT (.slice A0 p0.length c0) p0 :: slA intT (.slice A1 p1.length c1) p1 :: rowA pageT 41 B8 c8 (vl.map pageOf) :: storeA s ⟨d, 0, 3, vl.map pageOf, lf, false⟩ :: L) := hS670
          refine batch_spec (is := [2, 3, 4, 5, 6]) (rest := []) (live := [4, 8, 6, 7]) (e' := [(4, .bool false), (8, .slice B8 5 c8), (6, .pointer (some ⟨s663, 0, none⟩)), (7, .int .i64 0)]) (vs := []) (obs := []) hF668 (by kernel_rfl) .nil ?_
          intro a672 hF673
          clear hF668
          refine ops_done ?_
          refine nrm_then ?_
          refine wp_seq ?_
          refine wp_seq ?_
          refine reg_text (l := [0]) (by kernel_rfl) ?_
          refine batch_spec (is := [0]) (rest := []) (live := [4, 8, 6, 7, 17]) (e' := [(4, .bool false), (8, .slice B8 5 c8), (6, .pointer (some ⟨s663, 0, none⟩)), (7, .int .i64 0), (17, .int .i64 0)]) (vs := []) (obs := []) hF673 (by kernel_rfl) .nil ?_
          intro a674 hF675
          clear hF673
          refine ops_done ?_
          refine nrm_then ?_
          refine wp_block ?_
          have hS676 : Sat w669 (rowA pageT 41 B8 c8 (vl.map pageOf) :: storeA s663 ⟨d, 0, 3, ul664.map pageOf, pl665.life, false⟩ :: plateA d pl665 :: slA intT (.slice none 0 0) [] :: raw b4 (.cells #[.slice A0 p0.length c0, .slice A1 p1.length c1] 24 (0, 0)) :: slA groupT (.slice AG gs.length cg) gs :: slA intT (.slice A0 p0.length c0) p0 :: slA intT (.slice A1 p1.length c1) p1 :: storeA s ⟨d, 0, 3, vl.map pageOf, lf, false⟩ :: L) := (Sat_at (Sat_at (Sat_at hS671 1 rfl rfl) 1 rfl rfl) 7 rfl rfl)
          refine loop_g (fun μ α ω => ∃ n : Nat, μ = 5 - n ∧ (n ≤ 5) ∧ Fits α 201 [(4, .bool false), (8, .slice B8 5 c8), (6, .pointer (some ⟨s663, 0, none⟩)), (7, .int .i64 0), (17, .int .i64 (n : Nat))] ∧ Sat ω (rowA pageT 41 B8 c8 (vl.map pageOf) :: storeA s663 ⟨d, 0, 3, ul664.map pageOf, pl665.life, false⟩ :: plateA d pl665 :: L)) _ ⟨0, rfl, (Nat.zero_le _), (Fits.restr (r := [(4, .bool false), (8, .slice B8 5 c8), (6, .pointer (some ⟨s663, 0, none⟩)), (7, .int .i64 0), (17, .int .i64 0)]) hF675 (ks := [4, 8, 6, 7, 17]) (by kernel_rfl)).cast (by rfl), ((Sat_at (Sat_at (Sat_at (Sat_at (Sat_at (Sat_at hS676 8 rfl rfl).drop 7 rfl rfl).drop 6 rfl rfl).drop 5 rfl rfl).drop 4 rfl rfl).drop 3 rfl rfl).drop)⟩ ?_
          rintro m677 a678 w679 ⟨n, rfl, hn, hF680, hS681⟩
          clear hF675
          clear hS670 hS671 hS676
          refine wp_seq ?_
          refine wp_seq ?_
          refine reg_text (l := [0, 1, 2, 3, 4, 5]) (by kernel_rfl) ?_
          refine batch_spec (is := [0, 1, 2]) (rest := [3, 4, 5]) (live := [4, 8, 6, 7, 17, 176]) (e' := [(4, .bool false), (8, .slice B8 5 c8), (6, .pointer (some ⟨s663, 0, none⟩)), (7, .int .i64 0), (17, .int .i64 (n : Nat)), (176, .bool (decide (((n : Nat) : Int) < 5)))]) (vs := []) (obs := []) hF680 (by kernel_rfl) .nil ?_
          intro a682 hF683
          clear hF680
          by_cases h684 : ((n : Nat) : Int) < 5
          ·
            have hb685 : (decide (((n : Nat) : Int) < 5)) = true := decide_eq_true h684
            rw [hb685] at hF683
            refine batch_spec (is := [3, 4, 5]) (rest := []) (live := [4, 8, 6, 7, 17, 177, 178, 179]) (e' := [(4, .bool false), (8, .slice B8 5 c8), (6, .pointer (some ⟨s663, 0, none⟩)), (7, .int .i64 0), (17, .int .i64 (n : Nat)), (177, .int .i64 0), (178, .bool true), (179, .bool true)]) (vs := []) (obs := []) hF683 (by kernel_rfl) .nil ?_
            intro a686 hF687
            clear hF683
            refine ops_done ?_
            refine nrm_then ?_
            refine cond_yes hF687 rfl ?_
            refine wp_skip ?_
            refine nrm_then ?_
            refine wp_seq ?_
            refine wp_block ?_
            refine wp_seq ?_
            refine reg_text (l := [0, 1, 2, 3, 4, 5, 6, 7, 8]) (by kernel_rfl) ?_
            refine batch_spec (is := [0, 1]) (rest := [2, 3, 4, 5, 6, 7, 8]) (live := [4, 8, 6, 7, 17, 177, 178, 183, 184]) (e' := [(4, .bool false), (8, .slice B8 5 c8), (6, .pointer (some ⟨s663, 0, none⟩)), (7, .int .i64 0), (17, .int .i64 (n : Nat)), (177, .int .i64 0), (178, .bool true), (183, .pointer (some ⟨s663, 0, none⟩)), (184, .int .i64 (n : Nat))]) (vs := []) (obs := []) hF687 (by kernel_rfl) .nil ?_
            intro a688 hF689
            clear hF687
            refine ops_next ?_
            have hS690 : Sat w679 (storeA s663 ⟨d, 0, 3, ul664.map pageOf, pl665.life, false⟩ :: plateA d pl665 :: rowA pageT 41 B8 c8 (vl.map pageOf) :: L) := (Sat_at (Sat_at hS681 2 rfl rfl) 2 rfl rfl)
            refine op_call (fn := 12) (first := #[]) (cap := #[]) (args := #[.pointer (some ⟨s663, 0, none⟩), .int .i64 (n : Nat)]) (all := #[.pointer (some ⟨s663, 0, none⟩), .int .i64 (n : Nat)]) (pe := fun u => [(185, u), (4, .bool false), (8, .slice B8 5 c8), (6, .pointer (some ⟨s663, 0, none⟩)), (7, .int .i64 0), (17, .int .i64 (n : Nat)), (177, .int .i64 0), (178, .bool true), (183, .pointer (some ⟨s663, 0, none⟩)), (184, .int .i64 (n : Nat))]) hF689 (fun u => by kernel_rfl) (by kernel_rfl) (by kernel_rfl) (read_law hx666.1 rfl (by omega) (by decide) hS690) ?_
            rintro u w695 a693 ⟨A691, c692, rfl, hS696⟩ hF694
            clear hF689
            clear hS681 hS690
            have hS697 : Sat w695 (slA slotT (.slice A691 (((pageOf (ul664.getD n none))).slots.length) c692) (((pageOf (ul664.getD n none))).slots) :: storeA s663 ⟨d, 0, 3, ul664.map pageOf, pl665.life, false⟩ :: plateA d pl665 :: rowA pageT 41 B8 c8 (vl.map pageOf) :: L) := hS696
            refine batch_spec (is := [3, 4, 5]) (rest := [6, 7, 8]) (live := [4, 8, 6, 7, 17, 177, 178, 186, 187]) (e' := [(4, .bool false), (8, .slice B8 5 c8), (6, .pointer (some ⟨s663, 0, none⟩)), (7, .int .i64 0), (17, .int .i64 (n : Nat)), (177, .int .i64 0), (178, .bool true), (186, .agg #[.int .i64 (((pageOf (ul664.getD n none))).lsn), .slice A691 (((pageOf (ul664.getD n none))).slots.length) c692]), (187, .int .i64 0)]) (vs := []) (obs := []) hF694 (by kernel_rfl) .nil ?_
            intro a698 hF699
            clear hF694
            refine ops_next ?_
            obtain ⟨b700, w701, hr702, hS703⟩ := comes_new (P := Tryd.prog) (v := .alloc 41) (u := fun b => .pointer (some ⟨b, 0, none⟩)) (o := .cells #[.int .i64 0, .slice none 0 0] 41 (0, 0)) hS697 (fun w => by kernel_rfl)
            refine op_value (u := .pointer (some ⟨b700, 0, none⟩)) (e' := [(18, .pointer (some ⟨b700, 0, none⟩)), (4, .bool false), (8, .slice B8 5 c8), (6, .pointer (some ⟨s663, 0, none⟩)), (7, .int .i64 0), (17, .int .i64 (n : Nat)), (177, .int .i64 0), (178, .bool true), (186, .agg #[.int .i64 (((pageOf (ul664.getD n none))).lsn), .slice A691 (((pageOf (ul664.getD n none))).slots.length) c692]), (187, .int .i64 0)]) hF699 (by kernel_rfl) hr702 ?_
            intro a704 hF705
            clear hF699 hr702
            clear hS696 hS697
            refine ops_next ?_
            obtain ⟨w706, hr707, hS708⟩ := comes_store (P := Tryd.prog) (t' := 41) (b := b700) (j := 0) (x := .agg #[.int .i64 (((pageOf (ul664.getD n none))).lsn), .slice A691 (((pageOf (ul664.getD n none))).slots.length) c692]) (vs := [.int .i64 (((pageOf (ul664.getD n none))).lsn), .slice A691 (((pageOf (ul664.getD n none))).slots.length) c692]) (c' := #[.int .i64 (((pageOf (ul664.getD n none))).lsn), .slice A691 (((pageOf (ul664.getD n none))).slots.length) c692]) hS703 0 rfl rfl rfl (by kernel_rfl) rfl rfl rfl
            refine op_value (u := undef) (e' := [(18, .pointer (some ⟨b700, 0, none⟩)), (4, .bool false), (8, .slice B8 5 c8), (6, .pointer (some ⟨s663, 0, none⟩)), (7, .int .i64 0), (17, .int .i64 (n : Nat)), (177, .int .i64 0), (178, .bool true), (186, .agg #[.int .i64 (((pageOf (ul664.getD n none))).lsn), .slice A691 (((pageOf (ul664.getD n none))).slots.length) c692]), (187, .int .i64 0)]) hF705 (by kernel_rfl) hr707 ?_
            intro a709 hF710
            clear hF705 hr707
            clear hS703
            have hS711 : Sat w706 (raw b700 (.cells #[.int .i64 (((pageOf (ul664.getD n none))).lsn), .slice A691 (((pageOf (ul664.getD n none))).slots.length) c692] 41 (0, 0)) :: slA slotT (.slice A691 (((pageOf (ul664.getD n none))).slots.length) c692) (((pageOf (ul664.getD n none))).slots) :: storeA s663 ⟨d, 0, 3, ul664.map pageOf, pl665.life, false⟩ :: plateA d pl665 :: rowA pageT 41 B8 c8 (vl.map pageOf) :: L) := hS708
            refine batch_spec (is := [8]) (rest := []) (live := [18, 4, 8, 6, 7, 17, 177, 178, 19]) (e' := [(18, .pointer (some ⟨b700, 0, none⟩)), (4, .bool false), (8, .slice B8 5 c8), (6, .pointer (some ⟨s663, 0, none⟩)), (7, .int .i64 0), (17, .int .i64 (n : Nat)), (177, .int .i64 0), (178, .bool true), (19, .int .i64 0)]) (vs := []) (obs := []) hF710 (by kernel_rfl) .nil ?_
            intro a712 hF713
            clear hF710
            refine ops_done ?_
            refine nrm_then ?_
            refine wp_seq ?_
            have hmx : (vl.map pageOf)[n]? = some ((pageOf (vl.getD n none))) := map_at hF.stab.len (by omega)
            have hml : (vl.map pageOf).length = 5 := by rw [List.length_map]; exact hF.stab.len
            refine reg_drawn (fun j => match j with | 1 => [0] | 2 => [0, 1] | 3 => [0, 1, 2] | 4 => [0, 1, 2] | 5 => [0, 1, 2] | 6 => [0, 1, 2, 4, 5] | 7 => [0, 1, 2, 4, 5, 6] | 8 => [0, 1, 2, 3, 4, 5, 6, 7] | 9 => [0, 1, 2, 3, 4, 5, 6, 7, 8] | 10 => [0, 1, 2, 3, 4, 5, 6, 7, 8, 9] | _ => []) hS711 (by kernel_rfl) (by kernel_rfl) (by kernel_rfl) (fun c a d v w h => by cases d <;> exact h) ?_
            intro w714 hS715 hw716
            clear hS708 hS711
            refine batchD_spec (is := [0, 1, 2, 3, 4, 5]) (dn := []) (dn' := [0, 1, 2, 3, 4, 5]) (live := [4, 8, 6, 7, 17, 177, 178, 190, 191, 192, 193]) (e' := [(4, .bool false), (8, .slice B8 5 c8), (6, .pointer (some ⟨s663, 0, none⟩)), (7, .int .i64 0), (17, .int .i64 (n : Nat)), (177, .int .i64 0), (178, .bool true), (190, .bool false), (191, .agg #[.int .i64 (((pageOf (ul664.getD n none))).lsn), .slice A691 (((pageOf (ul664.getD n none))).slots.length) c692]), (192, .slice B8 5 c8), (193, .int .i64 (n : Nat))]) (vs := [.int .i64 (((pageOf (ul664.getD n none))).lsn), .slice A691 (((pageOf (ul664.getD n none))).slots.length) c692]) (obs := [(⟨b700, 0, none⟩, .int .i64 (((pageOf (ul664.getD n none))).lsn)), (⟨b700, 1, none⟩, .slice A691 (((pageOf (ul664.getD n none))).slots.length) c692)]) (pd' := [(3, [(⟨b700, 0, none⟩, .int .i64 (((pageOf (ul664.getD n none))).lsn)), (⟨b700, 1, none⟩, .slice A691 (((pageOf (ul664.getD n none))).slots.length) c692)])]) hF713 (by kernel_rfl) (.cons (ob hS715 0 rfl rfl) (.cons (ob hS715 0 rfl rfl) .nil)) rfl ?_
            intro a717 hF718
            clear hF713
            obtain ⟨b719, heq720⟩ := row_addr (k := n) hS715 4 rfl (by omega)
            obtain ⟨B721, cp722, hc723, hc724, hS725⟩ := page_row heq720 hS715 4 rfl hmx
            have hS726 : Sat w714 (slA slotT (.slice B721 ((pageOf (vl.getD n none)).slots.length) cp722) ((pageOf (vl.getD n none)).slots) :: raw b700 (.cells #[.int .i64 (((pageOf (ul664.getD n none))).lsn), .slice A691 (((pageOf (ul664.getD n none))).slots.length) c692] 41 (0, 0)) :: slA slotT (.slice A691 (((pageOf (ul664.getD n none))).slots.length) c692) (((pageOf (ul664.getD n none))).slots) :: storeA s663 ⟨d, 0, 3, ul664.map pageOf, pl665.life, false⟩ :: plateA d pl665 :: rowA pageT 41 B8 c8 (vl.map pageOf) :: L) := hS725
            refine wpD_one (i := 6) (u := .pointer (some ⟨b719, 0 + n * 2, none⟩)) (v := .indexAddr 32 (.slice B8 5 c8) (.int .i64 (n : Nat))) (e' := [(194, .pointer (some ⟨b719, 0 + n * 2, none⟩)), (4, .bool false), (8, .slice B8 5 c8), (6, .pointer (some ⟨s663, 0, none⟩)), (7, .int .i64 0), (17, .int .i64 (n : Nat)), (177, .int .i64 0), (178, .bool true), (190, .bool false), (191, .agg #[.int .i64 (((pageOf (ul664.getD n none))).lsn), .slice A691 (((pageOf (ul664.getD n none))).slots.length) c692]), (192, .slice B8 5 c8), (193, .int .i64 (n : Nat))]) (obs := []) (dn' := [0, 1, 2, 3, 4, 5, 6]) hF718 (by kernel_rfl) (by kernel_rfl) rfl (fun w _ => (run_indexAddrA (el := 41) (sz := 2) (off := 0) (k := n) heq720 Tryd.underlying32 (by kernel_rfl) (by rfl) (by omega)) w) .nil ?_
            refine fun a727 hF728 => wpD_filter ?_
            show wpD _ _ _ _ [(3, [(⟨b700, 0, none⟩, .int .i64 (((pageOf (ul664.getD n none))).lsn)), (⟨b700, 1, none⟩, .slice A691 (((pageOf (ul664.getD n none))).slots.length) c692)])] _ _ _
            clear hF718
            refine batchD_spec (is := [7]) (dn := [0, 1, 2, 3, 4, 5, 6]) (dn' := [0, 1, 2, 3, 4, 5, 6, 7]) (live := [194, 4, 8, 6, 7, 17, 177, 178, 190, 191, 192, 193, 195]) (e' := [(194, .pointer (some ⟨b719, 0 + n * 2, none⟩)), (4, .bool false), (8, .slice B8 5 c8), (6, .pointer (some ⟨s663, 0, none⟩)), (7, .int .i64 0), (17, .int .i64 (n : Nat)), (177, .int .i64 0), (178, .bool true), (190, .bool false), (191, .agg #[.int .i64 (((pageOf (ul664.getD n none))).lsn), .slice A691 (((pageOf (ul664.getD n none))).slots.length) c692]), (192, .slice B8 5 c8), (193, .int .i64 (n : Nat)), (195, .agg #[.int .i64 ((pageOf (vl.getD n none)).lsn), .slice B721 ((pageOf (vl.getD n none)).slots.length) cp722])]) (vs := [.int .i64 ((pageOf (vl.getD n none)).lsn), .slice B721 ((pageOf (vl.getD n none)).slots.length) cp722]) (obs := [(⟨b719, 0 + n * 2, none⟩, .int .i64 ((pageOf (vl.getD n none)).lsn)), (⟨b719, 0 + n * 2 + 1, none⟩, .slice B721 ((pageOf (vl.getD n none)).slots.length) cp722)]) (pd' := [(7, [(⟨b719, 0 + n * 2, none⟩, .int .i64 ((pageOf (vl.getD n none)).lsn)), (⟨b719, 0 + n * 2 + 1, none⟩, .slice B721 ((pageOf (vl.getD n none)).slots.length) cp722)]), (3, [(⟨b700, 0, none⟩, .int .i64 (((pageOf (ul664.getD n none))).lsn)), (⟨b700, 1, none⟩, .slice A691 (((pageOf (ul664.getD n none))).slots.length) c692)])]) hF728 (by kernel_rfl) (.cons hc723 (.cons hc724 .nil)) rfl ?_
            intro a729 hF730
            clear hF728
            refine wpD_next (i := 8) (pd' := []) (dn' := [0, 1, 2, 3, 4, 5, 6, 7, 8]) (by kernel_rfl) rfl (by kernel_rfl) ?_
            have hS731 : Sat w714 (slA slotT (.slice A691 (((pageOf (ul664.getD n none))).slots.length) c692) (((pageOf (ul664.getD n none))).slots) :: slA slotT (.slice B721 ((pageOf (vl.getD n none)).slots.length) cp722) ((pageOf (vl.getD n none)).slots) :: raw b700 (.cells #[.int .i64 (((pageOf (ul664.getD n none))).lsn), .slice A691 (((pageOf (ul664.getD n none))).slots.length) c692] 41 (0, 0)) :: storeA s663 ⟨d, 0, 3, ul664.map pageOf, pl665.life, false⟩ :: plateA d pl665 :: rowA pageT 41 B8 c8 (vl.map pageOf) :: L) := (Sat_at (Sat_at hS726 0 rfl rfl) 2 rfl rfl)
            refine op_call (fn := 13) (first := #[]) (cap := #[]) (args := #[.agg #[.int .i64 (((pageOf (ul664.getD n none))).lsn), .slice A691 (((pageOf (ul664.getD n none))).slots.length) c692], .agg #[.int .i64 ((pageOf (vl.getD n none)).lsn), .slice B721 ((pageOf (vl.getD n none)).slots.length) cp722]]) (all := #[.agg #[.int .i64 (((pageOf (ul664.getD n none))).lsn), .slice A691 (((pageOf (ul664.getD n none))).slots.length) c692], .agg #[.int .i64 ((pageOf (vl.getD n none)).lsn), .slice B721 ((pageOf (vl.getD n none)).slots.length) cp722]]) (pe := fun u => [(196, u), (194, .pointer (some ⟨b719, 0 + n * 2, none⟩)), (4, .bool false), (8, .slice B8 5 c8), (6, .pointer (some ⟨s663, 0, none⟩)), (7, .int .i64 0), (17, .int .i64 (n : Nat)), (177, .int .i64 0), (178, .bool true), (190, .bool false), (191, .agg #[.int .i64 (((pageOf (ul664.getD n none))).lsn), .slice A691 (((pageOf (ul664.getD n none))).slots.length) c692]), (192, .slice B8 5 c8), (193, .int .i64 (n : Nat)), (195, .agg #[.int .i64 ((pageOf (vl.getD n none)).lsn), .slice B721 ((pageOf (vl.getD n none)).slots.length) cp722])]) hF730 (fun u => by kernel_rfl) (by kernel_rfl) (by kernel_rfl) (same_c (x := (pageOf (ul664.getD n none))) (y := (pageOf (vl.getD n none))) (fine_page hx666.1 (by omega)) (fine_page hF (by omega)) hS731) ?_
            rintro u w734 a732 ⟨rfl, hS735⟩ hF733
            clear hF730
            clear hS715 hS725 hS726 hS731
            have hS736 : Sat w734 (slA slotT (.slice A691 (((pageOf (ul664.getD n none))).slots.length) c692) (((pageOf (ul664.getD n none))).slots) :: slA slotT (.slice B721 ((pageOf (vl.getD n none)).slots.length) cp722) ((pageOf (vl.getD n none)).slots) :: raw b700 (.cells #[.int .i64 (((pageOf (ul664.getD n none))).lsn), .slice A691 (((pageOf (ul664.getD n none))).slots.length) c692] 41 (0, 0)) :: storeA s663 ⟨d, 0, 3, ul664.map pageOf, pl665.life, false⟩ :: plateA d pl665 :: rowA pageT 41 B8 c8 (vl.map pageOf) :: L) := hS735
            refine ⟨.nil, ?_⟩
            refine batchD_spec (is := [9, 10]) (dn := [0, 1, 2, 3, 4, 5, 6, 7, 8]) (dn' := [0, 1, 2, 3, 4, 5, 6, 7, 8, 9, 10]) (live := [196, 194, 4, 8, 6, 7, 17, 177, 178, 191, 192, 193, 195, 197, 198]) (e' := [(196, .bool (decide ((pageOf (ul664.getD n none)) = (pageOf (vl.getD n none))))), (194, .pointer (some ⟨b719, 0 + n * 2, none⟩)), (4, .bool false), (8, .slice B8 5 c8), (6, .pointer (some ⟨s663, 0, none⟩)), (7, .int .i64 0), (17, .int .i64 (n : Nat)), (177, .int .i64 0), (178, .bool true), (191, .agg #[.int .i64 (((pageOf (ul664.getD n none))).lsn), .slice A691 (((pageOf (ul664.getD n none))).slots.length) c692]), (192, .slice B8 5 c8), (193, .int .i64 (n : Nat)), (195, .agg #[.int .i64 ((pageOf (vl.getD n none)).lsn), .slice B721 ((pageOf (vl.getD n none)).slots.length) cp722]), (197, .bool (!(decide ((pageOf (ul664.getD n none)) = (pageOf (vl.getD n none)))))), (198, .bool (!(decide ((pageOf (ul664.getD n none)) = (pageOf (vl.getD n none))))))]) (vs := []) (obs := []) (pd' := []) hF733 (by kernel_rfl) .nil rfl ?_
            intro a737 hF738
            clear hF733
            refine wpD_done (by kernel_rfl) ?_
            refine nrm_then ?_
            have hb739 : (!(decide ((pageOf (ul664.getD n none)) = (pageOf (vl.getD n none))))) = false := (by rw [decide_eq_true ((hx666.2.1 n (by omega)).elim (fun q => by rw [q]) (fun q => by rw [q]))]; rfl)
            rw [hb739] at hF738
            refine cond_no hF738 rfl ?_
            refine wp_skip ?_
            refine nrm_block ?_
            refine nrm_then ?_
            refine reg_text (l := [0, 1, 2]) (by kernel_rfl) ?_
            refine batch_spec (is := [0, 1]) (rest := [2]) (live := [196, 194, 4, 8, 6, 7, 177, 178, 191, 192, 193, 195, 197, 181]) (e' := [(196, .bool (decide ((pageOf (ul664.getD n none)) = (pageOf (vl.getD n none))))), (194, .pointer (some ⟨b719, 0 + n * 2, none⟩)), (4, .bool false), (8, .slice B8 5 c8), (6, .pointer (some ⟨s663, 0, none⟩)), (7, .int .i64 0), (177, .int .i64 0), (178, .bool true), (191, .agg #[.int .i64 (((pageOf (ul664.getD n none))).lsn), .slice A691 (((pageOf (ul664.getD n none))).slots.length) c692]), (192, .slice B8 5 c8), (193, .int .i64 (n : Nat)), (195, .agg #[.int .i64 ((pageOf (vl.getD n none)).lsn), .slice B721 ((pageOf (vl.getD n none)).slots.length) cp722]), (197, .bool false), (181, .int .i64 (IntKind.i64.wrap (((n : Nat) : Int) + 1)))]) (vs := []) (obs := []) hF738 (by kernel_rfl) .nil ?_
            intro a740 hF741
            clear hF738
            have hw742 : IntKind.i64.wrap (((n : Nat) : Int) + 1) = ((n + 1 : Nat) : Int) := by rw [wrap_i64 (by omega) (by omega)]; omega
            rw [hw742] at hF741
            refine batch_spec (is := [2]) (rest := []) (live := [196, 194, 4, 8, 6, 7, 177, 178, 191, 192, 193, 195, 197, 17]) (e' := [(196, .bool (decide ((pageOf (ul664.getD n none)) = (pageOf (vl.getD n none))))), (194, .pointer (some ⟨b719, 0 + n * 2, none⟩)), (4, .bool false), (8, .slice B8 5 c8), (6, .pointer (some ⟨s663, 0, none⟩)), (7, .int .i64 0), (177, .int .i64 0), (178, .bool true), (191, .agg #[.int .i64 (((pageOf (ul664.getD n none))).lsn), .slice A691 (((pageOf (ul664.getD n none))).slots.length) c692]), (192, .slice B8 5 c8), (193, .int .i64 (n : Nat)), (195, .agg #[.int .i64 ((pageOf (vl.getD n none)).lsn), .slice B721 ((pageOf (vl.getD n none)).slots.length) cp722]), (197, .bool false), (17, .int .i64 (n + 1 : Nat))]) (vs := []) (obs := []) hF741 (by kernel_rfl) .nil ?_
            intro a743 hF744
            clear hF741
            refine ops_done ?_
            have hS745 : Sat w734 (rowA pageT 41 B8 c8 (vl.map pageOf) :: storeA s663 ⟨d, 0, 3, ul664.map pageOf, pl665.life, false⟩ :: plateA d pl665 :: slA slotT (.slice A691 (((pageOf (ul664.getD n none))).slots.length) c692) (((pageOf (ul664.getD n none))).slots) :: slA slotT (.slice B721 ((pageOf (vl.getD n none)).slots.length) cp722) ((pageOf (vl.getD n none)).slots) :: raw b700 (.cells #[.int .i64 (((pageOf (ul664.getD n none))).lsn), .slice A691 (((pageOf (ul664.getD n none))).slots.length) c692] 41 (0, 0)) :: L) := (Sat_at (Sat_at (Sat_at hS736 4 rfl rfl) 4 rfl rfl) 5 rfl rfl)
            refine nrm_then ⟨_, ?_, n + 1, rfl, (by omega), (Fits.restr (r := [(4, .bool false), (8, .slice B8 5 c8), (6, .pointer (some ⟨s663, 0, none⟩)), (7, .int .i64 0), (17, .int .i64 (n + 1 : Nat))]) hF744 (ks := [4, 8, 6, 7, 17]) (by kernel_rfl)).cast (by rfl), ((Sat_at (Sat_at (Sat_at hS745 5 rfl rfl).drop 4 rfl rfl).drop 3 rfl rfl).drop)⟩
            omega
          ·
            have hb746 : (decide (((n : Nat) : Int) < 5)) = false := decide_eq_false h684
            rw [hb746] at hF683
            refine batch_spec (is := [3, 4, 5]) (rest := []) (live := [4, 8, 6, 7, 17, 177, 178, 179]) (e' := [(4, .bool false), (8, .slice B8 5 c8), (6, .pointer (some ⟨s663, 0, none⟩)), (7, .int .i64 0), (17, .int .i64 (n : Nat)), (177, undef), (178, undef), (179, .bool false)]) (vs := []) (obs := []) hF683 (by kernel_rfl) .nil ?_
            intro a747 hF748
            clear hF683
            refine ops_done ?_
            refine nrm_then ?_
            refine cond_no hF748 rfl ?_
            refine wp_exit ?_
            refine exit_then ?_
            refine exit_then ?_
            refine exit_block ?_
            refine nrm_then ?_
            refine wp_seq ?_
            refine reg_text (l := [0, 1, 2]) (by kernel_rfl) ?_
            refine batch_spec (is := [0, 1, 2]) (rest := []) (live := [4]) (e' := [(4, .bool true)]) (vs := []) (obs := []) hF748 (by kernel_rfl) .nil ?_
            intro a749 hF750
            clear hF748
            refine ops_done ?_
            refine nrm_then ?_
            refine wp_ret ?_
            refine finish (v := .bool true) (vs := []) (obs := []) hF750 (by kernel_rfl) .nil ?_
            exact ⟨rfl, (Sat_at (Sat_at (Sat_at hS681 2 rfl rfl).drop 1 rfl rfl).drop 0 rfl rfl).drop⟩
        ·
          clear hF662
          clear hS659 hS660
          have hS751 : Sat w669 (plateA d pl665 :: slA intT (.slice none 0 0) [] :: raw b4 (.cells #[.slice A0 p0.length c0, .slice A1 p1.length c1] 24 (0, 0)) :: slA groupT (.slice AG gs.length cg) gs :: slA intT (.slice A0 p0.length c0) p0 :: slA intT (.slice A1 p1.length c1) p1 :: rowA pageT 41 B8 c8 (vl.map pageOf) :: storeA s ⟨d, 0, 3, vl.map pageOf, lf, false⟩ :: L) := hS670
          exact absurd harm (by omega)
    ·
      have hb752 : (decide (((i : Nat) : Int) < ((gs.length : Nat) : Int))) = false := decide_eq_false h89
      rw [hb752] at hF88
      refine batch_spec (is := [5, 6, 7]) (rest := []) (live := [3, 0, 4, 5, 6, 8, 9, 10, 49, 50, 51]) (e' := [(3, .pointer (some ⟨b4, 0, none⟩)), (0, .slice AG gs.length cg), (4, .bool false), (5, .pointer (some ⟨d, 0, none⟩)), (6, .pointer (some ⟨s, 0, none⟩)), (8, .slice B8 5 c8), (9, .int .i64 (ls : Nat)), (10, .int .i64 (i : Nat)), (49, undef), (50, undef), (51, .bool false)]) (vs := []) (obs := []) hF88 (by kernel_rfl) .nil ?_
      intro a753 hF754
      clear hF88
      refine ops_done ?_
      refine nrm_then ?_
      refine cond_no hF754 rfl ?_
      refine wp_exit ?_
      refine exit_then ?_
      refine exit_then ?_
      refine exit_block ?_
      refine nrm_then ?_
      refine wp_seq ?_
      refine reg_text (l := [0, 1]) (by kernel_rfl) ?_
      refine batch_spec (is := [0]) (rest := [1]) (live := [4, 5, 8, 165]) (e' := [(4, .bool false), (5, .pointer (some ⟨d, 0, none⟩)), (8, .slice B8 5 c8), (165, .pointer (some ⟨d, 0, none⟩))]) (vs := []) (obs := []) hF754 (by kernel_rfl) .nil ?_
      intro a755 hF756
      clear hF754
      refine ops_next ?_
      have hS757 : Sat w84 (plateA d pl :: raw b4 (.cells #[.slice A0 p0.length c0, .slice A1 p1.length c1] 24 (0, 0)) :: slA groupT (.slice AG gs.length cg) gs :: slA intT (.slice A0 p0.length c0) p0 :: slA intT (.slice A1 p1.length c1) p1 :: rowA pageT 41 B8 c8 (vl.map pageOf) :: storeA s ⟨d, 0, 3, vl.map pageOf, lf, false⟩ :: L) := (Sat_at hS86 6 rfl rfl)
      refine op_call (fn := 11) (first := #[]) (cap := #[]) (args := #[.pointer (some ⟨d, 0, none⟩)]) (all := #[.pointer (some ⟨d, 0, none⟩)]) (pe := fun u => [(166, u), (4, .bool false), (5, .pointer (some ⟨d, 0, none⟩)), (8, .slice B8 5 c8), (165, .pointer (some ⟨d, 0, none⟩))]) hF756 (fun u => by kernel_rfl) (by kernel_rfl) (by kernel_rfl) (off_c hS757) ?_
      rintro u w760 a758 ⟨rfl, hS761⟩ hF759
      clear hF756
      clear hS86 hS757
      have hS762 : Sat w760 (plateA d ((pl).off) :: raw b4 (.cells #[.slice A0 p0.length c0, .slice A1 p1.length c1] 24 (0, 0)) :: slA groupT (.slice AG gs.length cg) gs :: slA intT (.slice A0 p0.length c0) p0 :: slA intT (.slice A1 p1.length c1) p1 :: rowA pageT 41 B8 c8 (vl.map pageOf) :: storeA s ⟨d, 0, 3, vl.map pageOf, lf, false⟩ :: L) := hS761
      have hlo := off_lost hF.back
      refine ops_done ?_
      refine nrm_then ?_
      refine wp_seq ?_
      refine reg_text (l := [0, 1]) (by kernel_rfl) ?_
      refine batch_spec (is := [0]) (rest := [1]) (live := [4, 5, 8, 167]) (e' := [(4, .bool false), (5, .pointer (some ⟨d, 0, none⟩)), (8, .slice B8 5 c8), (167, .pointer (some ⟨d, 0, none⟩))]) (vs := []) (obs := []) hF759 (by kernel_rfl) .nil ?_
      intro a763 hF764
      clear hF759
      refine ops_next ?_
      have hS765 : Sat w760 (slA intT (.slice none 0 0) [] :: plateA d ((pl).off) :: raw b4 (.cells #[.slice A0 p0.length c0, .slice A1 p1.length c1] 24 (0, 0)) :: slA groupT (.slice AG gs.length cg) gs :: slA intT (.slice A0 p0.length c0) p0 :: slA intT (.slice A1 p1.length c1) p1 :: rowA pageT 41 B8 c8 (vl.map pageOf) :: storeA s ⟨d, 0, 3, vl.map pageOf, lf, false⟩ :: L) := Sat.per_true (fun g => SlK.nil _ _ _ _) hS762
      have hS766 : Sat w760 (plateA d ((pl).off) :: slA intT (.slice none 0 0) [] :: raw b4 (.cells #[.slice A0 p0.length c0, .slice A1 p1.length c1] 24 (0, 0)) :: slA groupT (.slice AG gs.length cg) gs :: slA intT (.slice A0 p0.length c0) p0 :: slA intT (.slice A1 p1.length c1) p1 :: rowA pageT 41 B8 c8 (vl.map pageOf) :: storeA s ⟨d, 0, 3, vl.map pageOf, lf, false⟩ :: L) := (Sat_at (Sat_at hS765 0 rfl rfl) 1 rfl rfl)
      refine op_call (fn := 10) (first := #[]) (cap := #[]) (args := #[.pointer (some ⟨d, 0, none⟩), .slice none 0 0]) (all := #[.pointer (some ⟨d, 0, none⟩), .slice none 0 0]) (pe := fun u => [(168, u), (4, .bool false), (5, .pointer (some ⟨d, 0, none⟩)), (8, .slice B8 5 c8), (167, .pointer (some ⟨d, 0, none⟩))]) hF764 (fun u => by kernel_rfl) (by kernel_rfl) (by kernel_rfl) (on_c (l := []) (by decide) (by have := hlo.que; omega) hS766) ?_
      rintro u w769 a767 ⟨rfl, hS770⟩ hF768
      clear hF764
      clear hS761 hS762 hS765 hS766
      have hS771 : Sat w769 (plateA d (((pl).off).on []) :: slA intT (.slice none 0 0) [] :: raw b4 (.cells #[.slice A0 p0.length c0, .slice A1 p1.length c1] 24 (0, 0)) :: slA groupT (.slice AG gs.length cg) gs :: slA intT (.slice A0 p0.length c0) p0 :: slA intT (.slice A1 p1.length c1) p1 :: rowA pageT 41 B8 c8 (vl.map pageOf) :: storeA s ⟨d, 0, 3, vl.map pageOf, lf, false⟩ :: L) := hS770
      obtain ⟨hBk, hz⟩ := on_back hlo []
      refine ops_done ?_
      refine nrm_then ?_
      refine wp_seq ?_
      refine reg_text (l := [0, 1, 2, 3, 4, 5, 6]) (by kernel_rfl) ?_
      refine batch_spec (is := [0]) (rest := [1, 2, 3, 4, 5, 6]) (live := [4, 8, 170]) (e' := [(4, .bool false), (8, .slice B8 5 c8), (170, .pointer (some ⟨d, 0, none⟩))]) (vs := []) (obs := []) hF768 (by kernel_rfl) .nil ?_
      intro a772 hF773
      clear hF768
      refine ops_next ?_
      refine op_call (fn := 6) (first := #[]) (cap := #[]) (args := #[.pointer (some ⟨d, 0, none⟩), .int .i64 0, .int .i64 3, .int .i64 5]) (all := #[.pointer (some ⟨d, 0, none⟩), .int .i64 0, .int .i64 3, .int .i64 5]) (pe := fun u => [(171, u), (4, .bool false), (8, .slice B8 5 c8), (170, .pointer (some ⟨d, 0, none⟩))]) hF773 (fun u => by kernel_rfl) (by kernel_rfl) (by kernel_rfl) (open_law16 hBk hS771) ?_
      rintro u w780 a778 (⟨s774, rfl, pl776, ul775, hx777, hS781⟩ | ⟨rfl, pl776, hx777, harm, hS781⟩) hF779
      ·
        clear hF773
        clear hS770 hS771
        have hS782 : Sat w780 (storeA s774 ⟨d, 0, 3, ul775.map pageOf, pl776.life, false⟩ :: plateA d pl776 :: slA intT (.slice none 0 0) [] :: raw b4 (.cells #[.slice A0 p0.length c0, .slice A1 p1.length c1] 24 (0, 0)) :: slA groupT (.slice AG gs.length cg) gs :: slA intT (.slice A0 p0.length c0) p0 :: slA intT (.slice A1 p1.length c1) p1 :: rowA pageT 41 B8 c8 (vl.map pageOf) :: storeA s ⟨d, 0, 3, vl.map pageOf, lf, false⟩ :: L) := hS781
        refine batch_spec (is := [2, 3, 4, 5, 6]) (rest := []) (live := [4, 8, 6, 7]) (e' := [(4, .bool false), (8, .slice B8 5 c8), (6, .pointer (some ⟨s774, 0, none⟩)), (7, .int .i64 0)]) (vs := []) (obs := []) hF779 (by kernel_rfl) .nil ?_
        intro a783 hF784
        clear hF779
        refine ops_done ?_
        refine nrm_then ?_
        refine wp_seq ?_
        refine wp_seq ?_
        refine reg_text (l := [0]) (by kernel_rfl) ?_
        refine batch_spec (is := [0]) (rest := []) (live := [4, 8, 6, 7, 17]) (e' := [(4, .bool false), (8, .slice B8 5 c8), (6, .pointer (some ⟨s774, 0, none⟩)), (7, .int .i64 0), (17, .int .i64 0)]) (vs := []) (obs := []) hF784 (by kernel_rfl) .nil ?_
        intro a785 hF786
        clear hF784
        refine ops_done ?_
        refine nrm_then ?_
        refine wp_block ?_
        have hS787 : Sat w780 (rowA pageT 41 B8 c8 (vl.map pageOf) :: storeA s774 ⟨d, 0, 3, ul775.map pageOf, pl776.life, false⟩ :: plateA d pl776 :: slA intT (.slice none 0 0) [] :: raw b4 (.cells #[.slice A0 p0.length c0, .slice A1 p1.length c1] 24 (0, 0)) :: slA groupT (.slice AG gs.length cg) gs :: slA intT (.slice A0 p0.length c0) p0 :: slA intT (.slice A1 p1.length c1) p1 :: storeA s ⟨d, 0, 3, vl.map pageOf, lf, false⟩ :: L) := (Sat_at (Sat_at (Sat_at hS782 1 rfl rfl) 1 rfl rfl) 7 rfl rfl)
        refine loop_g (fun μ α ω => ∃ n : Nat, μ = 5 - n ∧ (n ≤ 5) ∧ Fits α 201 [(4, .bool false), (8, .slice B8 5 c8), (6, .pointer (some ⟨s774, 0, none⟩)), (7, .int .i64 0), (17, .int .i64 (n : Nat))] ∧ Sat ω (rowA pageT 41 B8 c8 (vl.map pageOf) :: storeA s774 ⟨d, 0, 3, ul775.map pageOf, pl776.life, false⟩ :: plateA d pl776 :: L)) _ ⟨0, rfl, (Nat.zero_le _), (Fits.restr (r := [(4, .bool false), (8, .slice B8 5 c8), (6, .pointer (some ⟨s774, 0, none⟩)), (7, .int .i64 0), (17, .int .i64 0)]) hF786 (ks := [4, 8, 6, 7, 17]) (by kernel_rfl)).cast (by rfl), ((Sat_at (Sat_at (Sat_at (Sat_at (Sat_at (Sat_at hS787 8 rfl rfl).drop 7 rfl rfl).drop 6 rfl rfl).drop 5 rfl rfl).drop 4 rfl rfl).drop 3 rfl rfl).drop)⟩ ?_
        rintro m788 a789 w790 ⟨n, rfl, hn, hF791, hS792⟩
        clear hF786
        clear hS781 hS782 hS787
        refine wp_seq ?_
        refine wp_seq ?_
        refine reg_text (l := [0, 1, 2, 3, 4, 5]) (by kernel_rfl) ?_
        refine batch_spec (is := [0, 1, 2]) (rest := [3, 4, 5]) (live := [4, 8, 6, 7, 17, 176]) (e' := [(4, .bool false), (8, .slice B8 5 c8), (6, .pointer (some ⟨s774, 0, none⟩)), (7, .int .i64 0), (17, .int .i64 (n : Nat)), (176, .bool (decide (((n : Nat) : Int) < 5)))]) (vs := []) (obs := []) hF791 (by kernel_rfl) .nil ?_
        intro a793 hF794
        clear hF791
        by_cases h795 : ((n : Nat) : Int) < 5
        ·
          have hb796 : (decide (((n : Nat) : Int) < 5)) = true := decide_eq_true h795
          rw [hb796] at hF794
          refine batch_spec (is := [3, 4, 5]) (rest := []) (live := [4, 8, 6, 7, 17, 177, 178, 179]) (e' := [(4, .bool false), (8, .slice B8 5 c8), (6, .pointer (some ⟨s774, 0, none⟩)), (7, .int .i64 0), (17, .int .i64 (n : Nat)), (177, .int .i64 0), (178, .bool true), (179, .bool true)]) (vs := []) (obs := []) hF794 (by kernel_rfl) .nil ?_
          intro a797 hF798
          clear hF794
          refine ops_done ?_
          refine nrm_then ?_
          refine cond_yes hF798 rfl ?_
          refine wp_skip ?_
          refine nrm_then ?_
          refine wp_seq ?_
          refine wp_block ?_
          refine wp_seq ?_
          refine reg_text (l := [0, 1, 2, 3, 4, 5, 6, 7, 8]) (by kernel_rfl) ?_
          refine batch_spec (is := [0, 1]) (rest := [2, 3, 4, 5, 6, 7, 8]) (live := [4, 8, 6, 7, 17, 177, 178, 183, 184]) (e' := [(4, .bool false), (8, .slice B8 5 c8), (6, .pointer (some ⟨s774, 0, none⟩)), (7, .int .i64 0), (17, .int .i64 (n : Nat)), (177, .int .i64 0), (178, .bool true), (183, .pointer (some ⟨s774, 0, none⟩)), (184, .int .i64 (n : Nat))]) (vs := []) (obs := []) hF798 (by kernel_rfl) .nil ?_
          intro a799 hF800
          clear hF798
          refine ops_next ?_
          have hS801 : Sat w790 (storeA s774 ⟨d, 0, 3, ul775.map pageOf, pl776.life, false⟩ :: plateA d pl776 :: rowA pageT 41 B8 c8 (vl.map pageOf) :: L) := (Sat_at (Sat_at hS792 2 rfl rfl) 2 rfl rfl)
          refine op_call (fn := 12) (first := #[]) (cap := #[]) (args := #[.pointer (some ⟨s774, 0, none⟩), .int .i64 (n : Nat)]) (all := #[.pointer (some ⟨s774, 0, none⟩), .int .i64 (n : Nat)]) (pe := fun u => [(185, u), (4, .bool false), (8, .slice B8 5 c8), (6, .pointer (some ⟨s774, 0, none⟩)), (7, .int .i64 0), (17, .int .i64 (n : Nat)), (177, .int .i64 0), (178, .bool true), (183, .pointer (some ⟨s774, 0, none⟩)), (184, .int .i64 (n : Nat))]) hF800 (fun u => by kernel_rfl) (by kernel_rfl) (by kernel_rfl) (read_law hx777.1 rfl (by omega) (by decide) hS801) ?_
          rintro u w806 a804 ⟨A802, c803, rfl, hS807⟩ hF805
          clear hF800
          clear hS792 hS801
          have hS808 : Sat w806 (slA slotT (.slice A802 (((pageOf (ul775.getD n none))).slots.length) c803) (((pageOf (ul775.getD n none))).slots) :: storeA s774 ⟨d, 0, 3, ul775.map pageOf, pl776.life, false⟩ :: plateA d pl776 :: rowA pageT 41 B8 c8 (vl.map pageOf) :: L) := hS807
          refine batch_spec (is := [3, 4, 5]) (rest := [6, 7, 8]) (live := [4, 8, 6, 7, 17, 177, 178, 186, 187]) (e' := [(4, .bool false), (8, .slice B8 5 c8), (6, .pointer (some ⟨s774, 0, none⟩)), (7, .int .i64 0), (17, .int .i64 (n : Nat)), (177, .int .i64 0), (178, .bool true), (186, .agg #[.int .i64 (((pageOf (ul775.getD n none))).lsn), .slice A802 (((pageOf (ul775.getD n none))).slots.length) c803]), (187, .int .i64 0)]) (vs := []) (obs := []) hF805 (by kernel_rfl) .nil ?_
          intro a809 hF810
          clear hF805
          refine ops_next ?_
          obtain ⟨b811, w812, hr813, hS814⟩ := comes_new (P := Tryd.prog) (v := .alloc 41) (u := fun b => .pointer (some ⟨b, 0, none⟩)) (o := .cells #[.int .i64 0, .slice none 0 0] 41 (0, 0)) hS808 (fun w => by kernel_rfl)
          refine op_value (u := .pointer (some ⟨b811, 0, none⟩)) (e' := [(18, .pointer (some ⟨b811, 0, none⟩)), (4, .bool false), (8, .slice B8 5 c8), (6, .pointer (some ⟨s774, 0, none⟩)), (7, .int .i64 0), (17, .int .i64 (n : Nat)), (177, .int .i64 0), (178, .bool true), (186, .agg #[.int .i64 (((pageOf (ul775.getD n none))).lsn), .slice A802 (((pageOf (ul775.getD n none))).slots.length) c803]), (187, .int .i64 0)]) hF810 (by kernel_rfl) hr813 ?_
          intro a815 hF816
          clear hF810 hr813
          clear hS807 hS808
          refine ops_next ?_
          obtain ⟨w817, hr818, hS819⟩ := comes_store (P := Tryd.prog) (t' := 41) (b := b811) (j := 0) (x := .agg #[.int .i64 (((pageOf (ul775.getD n none))).lsn), .slice A802 (((pageOf (ul775.getD n none))).slots.length) c803]) (vs := [.int .i64 (((pageOf (ul775.getD n none))).lsn), .slice A802 (((pageOf (ul775.getD n none))).slots.length) c803]) (c' := #[.int .i64 (((pageOf (ul775.getD n none))).lsn), .slice A802 (((pageOf (ul775.getD n none))).slots.length) c803]) hS814 0 rfl rfl rfl (by kernel_rfl) rfl rfl rfl
          refine op_value (u := undef) (e' := [(18, .pointer (some ⟨b811, 0, none⟩)), (4, .bool false), (8, .slice B8 5 c8), (6, .pointer (some ⟨s774, 0, none⟩)), (7, .int .i64 0), (17, .int .i64 (n : Nat)), (177, .int .i64 0), (178, .bool true), (186, .agg #[.int .i64 (((pageOf (ul775.getD n none))).lsn), .slice A802 (((pageOf (ul775.getD n none))).slots.length) c803]), (187, .int .i64 0)]) hF816 (by kernel_rfl) hr818 ?_
          intro a820 hF821
          clear hF816 hr818
          clear hS814
          have hS822 : Sat w817 (raw b811 (.cells #[.int .i64 (((pageOf (ul775.getD n none))).lsn), .slice A802 (((pageOf (ul775.getD n none))).slots.length) c803] 41 (0, 0)) :: slA slotT (.slice A802 (((pageOf (ul775.getD n none))).slots.length) c803) (((pageOf (ul775.getD n none))).slots) :: storeA s774 ⟨d, 0, 3, ul775.map pageOf, pl776.life, false⟩ :: plateA d pl776 :: rowA pageT 41 B8 c8 (vl.map pageOf) :: L) := hS819
          refine batch_spec (is := [8]) (rest := []) (live := [18, 4, 8, 6, 7, 17, 177, 178, 19]) (e' := [(18, .pointer (some ⟨b811, 0, none⟩)), (4, .bool false), (8, .slice B8 5 c8), (6, .pointer (some ⟨s774, 0, none⟩)), (7, .int .i64 0), (17, .int .i64 (n : Nat)), (177, .int .i64 0), (178, .bool true), (19, .int .i64 0)]) (vs := []) (obs := []) hF821 (by kernel_rfl) .nil ?_
          intro a823 hF824
          clear hF821
          refine ops_done ?_
          refine nrm_then ?_
          refine wp_seq ?_
          have hmx : (vl.map pageOf)[n]? = some ((pageOf (vl.getD n none))) := map_at hF.stab.len (by omega)
          have hml : (vl.map pageOf).length = 5 := by rw [List.length_map]; exact hF.stab.len
          refine reg_drawn (fun j => match j with | 1 => [0] | 2 => [0, 1] | 3 => [0, 1, 2] | 4 => [0, 1, 2] | 5 => [0, 1, 2] | 6 => [0, 1, 2, 4, 5] | 7 => [0, 1, 2, 4, 5, 6] | 8 => [0, 1, 2, 3, 4, 5, 6, 7] | 9 => [0, 1, 2, 3, 4, 5, 6, 7, 8] | 10 => [0, 1, 2, 3, 4, 5, 6, 7, 8, 9] | _ => []) hS822 (by kernel_rfl) (by kernel_rfl) (by kernel_rfl) (fun c a d v w h => by cases d <;> exact h) ?_
          intro w825 hS826 hw827
          clear hS819 hS822
          refine batchD_spec (is := [0, 1, 2, 3, 4, 5]) (dn := []) (dn' := [0, 1, 2, 3, 4, 5]) (live := [4, 8, 6, 7, 17, 177, 178, 190, 191, 192, 193]) (e' := [(4, .bool false), (8, .slice B8 5 c8), (6, .pointer (some ⟨s774, 0, none⟩)), (7, .int .i64 0), (17, .int .i64 (n : Nat)), (177, .int .i64 0), (178, .bool true), (190, .bool false), (191, .agg #[.int .i64 (((pageOf (ul775.getD n none))).lsn), .slice A802 (((pageOf (ul775.getD n none))).slots.length) c803]), (192, .slice B8 5 c8), (193, .int .i64 (n : Nat))]) (vs := [.int .i64 (((pageOf (ul775.getD n none))).lsn), .slice A802 (((pageOf (ul775.getD n none))).slots.length) c803]) (obs := [(⟨b811, 0, none⟩, .int .i64 (((pageOf (ul775.getD n none))).lsn)), (⟨b811, 1, none⟩, .slice A802 (((pageOf (ul775.getD n none))).slots.length) c803)]) (pd' := [(3, [(⟨b811, 0, none⟩, .int .i64 (((pageOf (ul775.getD n none))).lsn)), (⟨b811, 1, none⟩, .slice A802 (((pageOf (ul775.getD n none))).slots.length) c803)])]) hF824 (by kernel_rfl) (.cons (ob hS826 0 rfl rfl) (.cons (ob hS826 0 rfl rfl) .nil)) rfl ?_
          intro a828 hF829
          clear hF824
          obtain ⟨b830, heq831⟩ := row_addr (k := n) hS826 4 rfl (by omega)
          obtain ⟨B832, cp833, hc834, hc835, hS836⟩ := page_row heq831 hS826 4 rfl hmx
          have hS837 : Sat w825 (slA slotT (.slice B832 ((pageOf (vl.getD n none)).slots.length) cp833) ((pageOf (vl.getD n none)).slots) :: raw b811 (.cells #[.int .i64 (((pageOf (ul775.getD n none))).lsn), .slice A802 (((pageOf (ul775.getD n none))).slots.length) c803] 41 (0, 0)) :: slA slotT (.slice A802 (((pageOf (ul775.getD n none))).slots.length) c803) (((pageOf (ul775.getD n none))).slots) :: storeA s774 ⟨d, 0, 3, ul775.map pageOf, pl776.life, false⟩ :: plateA d pl776 :: rowA pageT 41 B8 c8 (vl.map pageOf) :: L) := hS836
          refine wpD_one (i := 6) (u := .pointer (some ⟨b830, 0 + n * 2, none⟩)) (v := .indexAddr 32 (.slice B8 5 c8) (.int .i64 (n : Nat))) (e' := [(194, .pointer (some ⟨b830, 0 + n * 2, none⟩)), (4, .bool false), (8, .slice B8 5 c8), (6, .pointer (some ⟨s774, 0, none⟩)), (7, .int .i64 0), (17, .int .i64 (n : Nat)), (177, .int .i64 0), (178, .bool true), (190, .bool false), (191, .agg #[.int .i64 (((pageOf (ul775.getD n none))).lsn), .slice A802 (((pageOf (ul775.getD n none))).slots.length) c803]), (192, .slice B8 5 c8), (193, .int .i64 (n : Nat))]) (obs := []) (dn' := [0, 1, 2, 3, 4, 5, 6]) hF829 (by kernel_rfl) (by kernel_rfl) rfl (fun w _ => (run_indexAddrA (el := 41) (sz := 2) (off := 0) (k := n) heq831 Tryd.underlying32 (by kernel_rfl) (by rfl) (by omega)) w) .nil ?_
          refine fun a838 hF839 => wpD_filter ?_
          show wpD _ _ _ _ [(3, [(⟨b811, 0, none⟩, .int .i64 (((pageOf (ul775.getD n none))).lsn)), (⟨b811, 1, none⟩, .slice A802 (((pageOf (ul775.getD n none))).slots.length) c803)])] _ _ _
          clear hF829
          refine batchD_spec (is := [7]) (dn := [0, 1, 2, 3, 4, 5, 6]) (dn' := [0, 1, 2, 3, 4, 5, 6, 7]) (live := [194, 4, 8, 6, 7, 17, 177, 178, 190, 191, 192, 193, 195]) (e' := [(194, .pointer (some ⟨b830, 0 + n * 2, none⟩)), (4, .bool false), (8, .slice B8 5 c8), (6, .pointer (some ⟨s774, 0, none⟩)), (7, .int .i64 0), (17, .int .i64 (n : Nat)), (177, .int .i64 0), (178, .bool true), (190, .bool false), (191, .agg #[.int .i64 (((pageOf (ul775.getD n none))).lsn), .slice A802 (((pageOf (ul775.getD n none))).slots.length) c803]), (192, .slice B8 5 c8), (193, .int .i64 (n : Nat)), (195, .agg #[.int .i64 ((pageOf (vl.getD n none)).lsn), .slice B832 ((pageOf (vl.getD n none)).slots.length) cp833])]) (vs := [.int .i64 ((pageOf (vl.getD n none)).lsn), .slice B832 ((pageOf (vl.getD n none)).slots.length) cp833]) (obs := [(⟨b830, 0 + n * 2, none⟩, .int .i64 ((pageOf (vl.getD n none)).lsn)), (⟨b830, 0 + n * 2 + 1, none⟩, .slice B832 ((pageOf (vl.getD n none)).slots.length) cp833)]) (pd' := [(7, [(⟨b830, 0 + n * 2, none⟩, .int .i64 ((pageOf (vl.getD n none)).lsn)), (⟨b830, 0 + n * 2 + 1, none⟩, .slice B832 ((pageOf (vl.getD n none)).slots.length) cp833)]), (3, [(⟨b811, 0, none⟩, .int .i64 (((pageOf (ul775.getD n none))).lsn)), (⟨b811, 1, none⟩, .slice A802 (((pageOf (ul775.getD n none))).slots.length) c803)])]) hF839 (by kernel_rfl) (.cons hc834 (.cons hc835 .nil)) rfl ?_
          intro a840 hF841
          clear hF839
          refine wpD_next (i := 8) (pd' := []) (dn' := [0, 1, 2, 3, 4, 5, 6, 7, 8]) (by kernel_rfl) rfl (by kernel_rfl) ?_
          have hS842 : Sat w825 (slA slotT (.slice A802 (((pageOf (ul775.getD n none))).slots.length) c803) (((pageOf (ul775.getD n none))).slots) :: slA slotT (.slice B832 ((pageOf (vl.getD n none)).slots.length) cp833) ((pageOf (vl.getD n none)).slots) :: raw b811 (.cells #[.int .i64 (((pageOf (ul775.getD n none))).lsn), .slice A802 (((pageOf (ul775.getD n none))).slots.length) c803] 41 (0, 0)) :: storeA s774 ⟨d, 0, 3, ul775.map pageOf, pl776.life, false⟩ :: plateA d pl776 :: rowA pageT 41 B8 c8 (vl.map pageOf) :: L) := (Sat_at (Sat_at hS837 0 rfl rfl) 2 rfl rfl)
          refine op_call (fn := 13) (first := #[]) (cap := #[]) (args := #[.agg #[.int .i64 (((pageOf (ul775.getD n none))).lsn), .slice A802 (((pageOf (ul775.getD n none))).slots.length) c803], .agg #[.int .i64 ((pageOf (vl.getD n none)).lsn), .slice B832 ((pageOf (vl.getD n none)).slots.length) cp833]]) (all := #[.agg #[.int .i64 (((pageOf (ul775.getD n none))).lsn), .slice A802 (((pageOf (ul775.getD n none))).slots.length) c803], .agg #[.int .i64 ((pageOf (vl.getD n none)).lsn), .slice B832 ((pageOf (vl.getD n none)).slots.length) cp833]]) (pe := fun u => [(196, u), (194, .pointer (some ⟨b830, 0 + n * 2, none⟩)), (4, .bool false), (8, .slice B8 5 c8), (6, .pointer (some ⟨s774, 0, none⟩)), (7, .int .i64 0), (17, .int .i64 (n : Nat)), (177, .int .i64 0), (178, .bool true), (190, .bool false), (191, .agg #[.int .i64 (((pageOf (ul775.getD n none))).lsn), .slice A802 (((pageOf (ul775.getD n none))).slots.length) c803]), (192, .slice B8 5 c8), (193, .int .i64 (n : Nat)), (195, .agg #[.int .i64 ((pageOf (vl.getD n none)).lsn), .slice B832 ((pageOf (vl.getD n none)).slots.length) cp833])]) hF841 (fun u => by kernel_rfl) (by kernel_rfl) (by kernel_rfl) (same_c (x := (pageOf (ul775.getD n none))) (y := (pageOf (vl.getD n none))) (fine_page hx777.1 (by omega)) (fine_page hF (by omega)) hS842) ?_
          rintro u w845 a843 ⟨rfl, hS846⟩ hF844
          clear hF841
          clear hS826 hS836 hS837 hS842
          have hS847 : Sat w845 (slA slotT (.slice A802 (((pageOf (ul775.getD n none))).slots.length) c803) (((pageOf (ul775.getD n none))).slots) :: slA slotT (.slice B832 ((pageOf (vl.getD n none)).slots.length) cp833) ((pageOf (vl.getD n none)).slots) :: raw b811 (.cells #[.int .i64 (((pageOf (ul775.getD n none))).lsn), .slice A802 (((pageOf (ul775.getD n none))).slots.length) c803] 41 (0, 0)) :: storeA s774 ⟨d, 0, 3, ul775.map pageOf, pl776.life, false⟩ :: plateA d pl776 :: rowA pageT 41 B8 c8 (vl.map pageOf) :: L) := hS846
          refine ⟨.nil, ?_⟩
          refine batchD_spec (is := [9, 10]) (dn := [0, 1, 2, 3, 4, 5, 6, 7, 8]) (dn' := [0, 1, 2, 3, 4, 5, 6, 7, 8, 9, 10]) (live := [196, 194, 4, 8, 6, 7, 17, 177, 178, 191, 192, 193, 195, 197, 198]) (e' := [(196, .bool (decide ((pageOf (ul775.getD n none)) = (pageOf (vl.getD n none))))), (194, .pointer (some ⟨b830, 0 + n * 2, none⟩)), (4, .bool false), (8, .slice B8 5 c8), (6, .pointer (some ⟨s774, 0, none⟩)), (7, .int .i64 0), (17, .int .i64 (n : Nat)), (177, .int .i64 0), (178, .bool true), (191, .agg #[.int .i64 (((pageOf (ul775.getD n none))).lsn), .slice A802 (((pageOf (ul775.getD n none))).slots.length) c803]), (192, .slice B8 5 c8), (193, .int .i64 (n : Nat)), (195, .agg #[.int .i64 ((pageOf (vl.getD n none)).lsn), .slice B832 ((pageOf (vl.getD n none)).slots.length) cp833]), (197, .bool (!(decide ((pageOf (ul775.getD n none)) = (pageOf (vl.getD n none)))))), (198, .bool (!(decide ((pageOf (ul775.getD n none)) = (pageOf (vl.getD n none))))))]) (vs := []) (obs := []) (pd' := []) hF844 (by kernel_rfl) .nil rfl ?_
          intro a848 hF849
          clear hF844
          refine wpD_done (by kernel_rfl) ?_
          refine nrm_then ?_
          have hb850 : (!(decide ((pageOf (ul775.getD n none)) = (pageOf (vl.getD n none))))) = false := (by rw [decide_eq_true ((hx777.2.1 n (by omega)).elim (fun q => by rw [q]) (fun q => by rw [q]))]; rfl)
          rw [hb850] at hF849
          refine cond_no hF849 rfl ?_
          refine wp_skip ?_
          refine nrm_block ?_
          refine nrm_then ?_
          refine reg_text (l := [0, 1, 2]) (by kernel_rfl) ?_
          refine batch_spec (is := [0, 1]) (rest := [2]) (live := [196, 194, 4, 8, 6, 7, 177, 178, 191, 192, 193, 195, 197, 181]) (e' := [(196, .bool (decide ((pageOf (ul775.getD n none)) = (pageOf (vl.getD n none))))), (194, .pointer (some ⟨b830, 0 + n * 2, none⟩)), (4, .bool false), (8, .slice B8 5 c8), (6, .pointer (some ⟨s774, 0, none⟩)), (7, .int .i64 0), (177, .int .i64 0), (178, .bool true), (191, .agg #[.int .i64 (((pageOf (ul775.getD n none))).lsn), .slice A802 (((pageOf (ul775.getD n none))).slots.length) c803]), (192, .slice B8 5 c8), (193, .int .i64 (n : Nat)), (195, .agg #[.int .i64 ((pageOf (vl.getD n none)).lsn), .slice B832 ((pageOf (vl.getD n none)).slots.length) cp833]), (197, .bool false), (181, .int .i64 (IntKind.i64.wrap (((n : Nat) : Int) + 1)))]) (vs := []) (obs := []) hF849 (by kernel_rfl) .nil ?_
          intro a851 hF852
          clear hF849
          have hw853 : IntKind.i64.wrap (((n : Nat) : Int) + 1) = ((n + 1 : Nat) : Int) := by rw [wrap_i64 (by omega) (by omega)]; omega
          rw [hw853] at hF852
          refine batch_spec (is := [2]) (rest := []) (live := [196, 194, 4, 8, 6, 7, 177, 178, 191, 192, 193, 195, 197, 17]) (e' := [(196, .bool (decide ((pageOf (ul775.getD n none)) = (pageOf (vl.getD n none))))), (194, .pointer (some ⟨b830, 0 + n * 2, none⟩)), (4, .bool false), (8, .slice B8 5 c8), (6, .pointer (some ⟨s774, 0, none⟩)), (7, .int .i64 0), (177, .int .i64 0), (178, .bool true), (191, .agg #[.int .i64 (((pageOf (ul775.getD n none))).lsn), .slice A802 (((pageOf (ul775.getD n none))).slots.length) c803]), (192, .slice B8 5 c8), (193, .int .i64 (n : Nat)), (195, .agg #[.int .i64 ((pageOf (vl.getD n none)).lsn), .slice B832 ((pageOf (vl.getD n none)).slots.length) cp833]), (197, .bool false), (17, .int .i64 (n + 1 : Nat))]) (vs := []) (obs := []) hF852 (by kernel_rfl) .nil ?_
          intro a854 hF855
          clear hF852
          refine ops_done ?_
          have hS856 : Sat w845 (rowA pageT 41 B8 c8 (vl.map pageOf) :: storeA s774 ⟨d, 0, 3, ul775.map pageOf, pl776.life, false⟩ :: plateA d pl776 :: slA slotT (.slice A802 (((pageOf (ul775.getD n none))).slots.length) c803) (((pageOf (ul775.getD n none))).slots) :: slA slotT (.slice B832 ((pageOf (vl.getD n none)).slots.length) cp833) ((pageOf (vl.getD n none)).slots) :: raw b811 (.cells #[.int .i64 (((pageOf (ul775.getD n none))).lsn), .slice A802 (((pageOf (ul775.getD n none))).slots.length) c803] 41 (0, 0)) :: L) := (Sat_at (Sat_at (Sat_at hS847 4 rfl rfl) 4 rfl rfl) 5 rfl rfl)
          refine nrm_then ⟨_, ?_, n + 1, rfl, (by omega), (Fits.restr (r := [(4, .bool false), (8, .slice B8 5 c8), (6, .pointer (some ⟨s774, 0, none⟩)), (7, .int .i64 0), (17, .int .i64 (n + 1 : Nat))]) hF855 (ks := [4, 8, 6, 7, 17]) (by kernel_rfl)).cast (by rfl), ((Sat_at (Sat_at (Sat_at hS856 5 rfl rfl).drop 4 rfl rfl).drop 3 rfl rfl).drop)⟩
          omega
        ·
          have hb857 : (decide (((n : Nat) : Int) < 5)) = false := decide_eq_false h795
          rw [hb857] at hF794
          refine batch_spec (is := [3, 4, 5]) (rest := []) (live := [4, 8, 6, 7, 17, 177, 178, 179]) (e' := [(4, .bool false), (8, .slice B8 5 c8), (6, .pointer (some ⟨s774, 0, none⟩)), (7, .int .i64 0), (17, .int .i64 (n : Nat)), (177, undef), (178, undef), (179, .bool false)]) (vs := []) (obs := []) hF794 (by kernel_rfl) .nil ?_
          intro a858 hF859
          clear hF794
          refine ops_done ?_
          refine nrm_then ?_
          refine cond_no hF859 rfl ?_
          refine wp_exit ?_
          refine exit_then ?_
          refine exit_then ?_
          refine exit_block ?_
          refine nrm_then ?_
          refine wp_seq ?_
          refine reg_text (l := [0, 1, 2]) (by kernel_rfl) ?_
          refine batch_spec (is := [0, 1, 2]) (rest := []) (live := [4]) (e' := [(4, .bool true)]) (vs := []) (obs := []) hF859 (by kernel_rfl) .nil ?_
          intro a860 hF861
          clear hF859
          refine ops_done ?_
          refine nrm_then ?_
          refine wp_ret ?_
          refine finish (v := .bool true) (vs := []) (obs := []) hF861 (by kernel_rfl) .nil ?_
          exact ⟨rfl, (Sat_at (Sat_at (Sat_at hS792 2 rfl rfl).drop 1 rfl rfl).drop 0 rfl rfl).drop⟩
      ·
        clear hF773
        clear hS770 hS771
        have hS862 : Sat w780 (plateA d pl776 :: slA intT (.slice none 0 0) [] :: raw b4 (.cells #[.slice A0 p0.length c0, .slice A1 p1.length c1] 24 (0, 0)) :: slA groupT (.slice AG gs.length cg) gs :: slA intT (.slice A0 p0.length c0) p0 :: slA intT (.slice A1 p1.length c1) p1 :: rowA pageT 41 B8 c8 (vl.map pageOf) :: storeA s ⟨d, 0, 3, vl.map pageOf, lf, false⟩ :: L) := hS781
        exact absurd harm (by omega)
end
end Sl
end Go.Proofs.YtkmlppeligdbaaaDoor

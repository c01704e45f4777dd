/- The law's own trial, by the engine. Conditions: none. -/
import Derived.Test.YtkmlppeligdbaaaDoorLawF
namespace Go.Proofs.YtkmlppeligdbaaaDoor
namespace Sl
open Go.RowKit SepW Pl Eg
set_option linter.unusedVariables false
set_option linter.unusedSimpArgs false
set_option linter.unusedSectionVars false
set_option maxRecDepth 100000
section
variable {w : World} {L : List Atom}
theorem readD {d : Nat} {D E : ByteArray} {pl : PlateM} {L : List Atom} {args : Array Value} (hD : D = E) (h : Calls Tryd.prog 15 args w (Ret fun v w' => v = .tuple #[.string E, .int .i64 0] ∧ Sat w' (plateA d pl :: L))) : Calls Tryd.prog 15 args w (Ret fun v w' => v = .tuple #[.string D, .int .i64 0] ∧ Sat w' (plateA d pl :: L)) := hD ▸ h
set_option maxHeartbeats 2000000 in
theorem awake_c (hS : Sat w L) : Calls Tryd.prog 4 #[] w (Ret fun v w' => v = .bool true ∧ Sat w' L) := by
  obtain ⟨D, hD⟩ : ∃ D : ByteArray, D = ⟨(secL 3 7 [⟨true, xS⟩]).toArray⟩ := ⟨_, rfl⟩
  have hD2 : D.size = 256 := by rw [hD]; exact secL_len (okay1 (by decide) rfl)
  refine enter (vs := []) Tryd.func4 rfl Tryd.ntmps4 rfl ?_
  intro a1 hF2
  have hF3 : Fits a1 85 [] := hF2
  clear hF2
  refine wp_seq ?_
  refine reg_text (l := [0]) (by kernel_rfl) ?_
  refine batch_spec (is := [0]) (rest := []) (live := [0]) (e' := [(0, .bool false)]) (vs := []) (obs := []) hF3 (by kernel_rfl) .nil ?_
  intro a4 hF5
  clear hF3
  refine ops_done ?_
  refine nrm_then ?_
  refine wp_seq ?_
  refine reg_text (l := [0, 1]) (by kernel_rfl) ?_
  refine ops_next ?_
  refine op_call (fn := 5) (first := #[]) (cap := #[]) (args := #[.int .i64 20]) (all := #[.int .i64 20]) (pe := fun u => [(11, u), (0, .bool false)]) hF5 (fun u => by kernel_rfl) (by kernel_rfl) (by kernel_rfl) (new_c 20 (by decide) (by decide) hS) ?_
  rintro u w8 a6 ⟨d, rfl, hS9⟩ hF7
  clear hF5
  clear hS
  have hS10 : Sat w8 (plateA d (newPlate 20) :: L) := hS9
  refine batch_spec (is := [1]) (rest := []) (live := [0, 1]) (e' := [(0, .bool false), (1, .pointer (some ⟨d, 0, none⟩))]) (vs := []) (obs := []) hF7 (by kernel_rfl) .nil ?_
  intro a11 hF12
  clear hF7
  refine ops_done ?_
  refine nrm_then ?_
  refine wp_seq ?_
  refine reg_text (l := [0, 1, 2, 3, 4, 5, 6]) (by kernel_rfl) ?_
  refine batch_spec (is := [0]) (rest := [1, 2, 3, 4, 5, 6]) (live := [0, 1, 13]) (e' := [(0, .bool false), (1, .pointer (some ⟨d, 0, none⟩)), (13, .pointer (some ⟨d, 0, none⟩))]) (vs := []) (obs := []) hF12 (by kernel_rfl) .nil ?_
  intro a13 hF14
  clear hF12
  refine ops_next ?_
  refine op_call (fn := 6) (first := #[]) (cap := #[]) (args := #[.pointer (some ⟨d, 0, none⟩), .int .i64 2, .int .i64 2, .int .i64 4]) (all := #[.pointer (some ⟨d, 0, none⟩), .int .i64 2, .int .i64 2, .int .i64 4]) (pe := fun u => [(14, u), (0, .bool false), (1, .pointer (some ⟨d, 0, none⟩)), (13, .pointer (some ⟨d, 0, none⟩))]) hF14 (fun u => by kernel_rfl) (by kernel_rfl) (by kernel_rfl) (open20 hS10) ?_
  rintro u w17 a15 ⟨s, rfl, hS18⟩ hF16
  clear hF14
  clear hS9 hS10
  have hS19 : Sat w17 (storeA s ⟨d, 2, 2, (List.replicate 4 (none : Ver)).map pageOf, 0, false⟩ :: plateA d (newPlate 20) :: L) := hS18
  refine batch_spec (is := [2, 3, 4, 5, 6]) (rest := []) (live := [0, 1, 2, 3]) (e' := [(0, .bool false), (1, .pointer (some ⟨d, 0, none⟩)), (2, .pointer (some ⟨s, 0, none⟩)), (3, .int .i64 0)]) (vs := []) (obs := []) hF16 (by kernel_rfl) .nil ?_
  intro a20 hF21
  clear hF16
  refine ops_done ?_
  refine nrm_then ?_
  refine wp_seq ?_
  refine wp_seq ?_
  refine reg_text (l := [0, 1, 2, 3, 4, 5]) (by kernel_rfl) ?_
  refine batch_spec (is := [0, 1, 2, 3, 4, 5]) (rest := []) (live := [0, 1, 2, 22]) (e' := [(0, .bool false), (1, .pointer (some ⟨d, 0, none⟩)), (2, .pointer (some ⟨s, 0, none⟩)), (22, .bool false)]) (vs := []) (obs := []) hF21 (by kernel_rfl) .nil ?_
  intro a22 hF23
  clear hF21
  refine ops_done ?_
  refine nrm_then ?_
  refine cond_no hF23 rfl ?_
  refine wp_skip ?_
  refine nrm_then ?_
  refine wp_seq ?_
  refine reg_text (l := [0, 1, 2, 3, 4, 5]) (by kernel_rfl) ?_
  refine batch_spec (is := [0]) (rest := [1, 2, 3, 4, 5]) (live := [0, 1, 2, 23]) (e' := [(0, .bool false), (1, .pointer (some ⟨d, 0, none⟩)), (2, .pointer (some ⟨s, 0, none⟩)), (23, .pointer (some ⟨s, 0, none⟩))]) (vs := []) (obs := []) hF23 (by kernel_rfl) .nil ?_
  intro a24 hF25
  clear hF23
  refine ops_next ?_
  refine op_call (fn := 14) (first := #[]) (cap := #[]) (args := #[.int .i64 7, .string ⟨#[120]⟩]) (all := #[.int .i64 7, .string ⟨#[120]⟩]) (pe := fun u => [(24, u), (0, .bool false), (1, .pointer (some ⟨d, 0, none⟩)), (2, .pointer (some ⟨s, 0, none⟩)), (23, .pointer (some ⟨s, 0, none⟩))]) hF25 (fun u => by kernel_rfl) (by kernel_rfl) (by kernel_rfl) (image7 hS19) ?_
  rintro u w28 a26 ⟨B, cp, rfl, hS29⟩ hF27
  clear hF25
  clear hS18 hS19
  have hS30 : Sat w28 (slA slotT (.slice B 1 cp) [(⟨true, xS⟩ : Slot)] :: storeA s ⟨d, 2, 2, (List.replicate 4 (none : Ver)).map pageOf, 0, false⟩ :: plateA d (newPlate 20) :: L) := hS29
  refine batch_spec (is := [2]) (rest := [3, 4, 5]) (live := [0, 1, 2, 23, 25]) (e' := [(0, .bool false), (1, .pointer (some ⟨d, 0, none⟩)), (2, .pointer (some ⟨s, 0, none⟩)), (23, .pointer (some ⟨s, 0, none⟩)), (25, .agg #[.int .i64 3, .int .i64 7, .slice B 1 cp])]) (vs := []) (obs := []) hF27 (by kernel_rfl) .nil ?_
  intro a31 hF32
  clear hF27
  refine ops_next ?_
  obtain ⟨b33, w34, hr35, hS36⟩ := comes_new (P := Tryd.prog) (v := .buildSlice 35 1 #[(0, .agg #[.int .i64 3, .int .i64 7, .slice B 1 cp])]) (u := fun b => .slice (some ⟨b, 0, none⟩) 1 1) (o := .cells #[.int .i64 3, .int .i64 7, .slice B 1 cp] 43 (0, 0)) hS30 (fun w => by kernel_rfl)
  refine op_value (u := .slice (some ⟨b33, 0, none⟩) 1 1) (e' := [(26, .slice (some ⟨b33, 0, none⟩) 1 1), (0, .bool false), (1, .pointer (some ⟨d, 0, none⟩)), (2, .pointer (some ⟨s, 0, none⟩)), (23, .pointer (some ⟨s, 0, none⟩)), (25, .agg #[.int .i64 3, .int .i64 7, .slice B 1 cp])]) hF32 (by kernel_rfl) hr35 ?_
  intro a37 hF38
  clear hF32 hr35
  clear hS29 hS30
  refine ops_next ?_
  have hS39 : Sat w34 (rowA leafT 43 (some ⟨b33, 0, none⟩) 1 [leaf0] :: slA slotT (.slice B 1 cp) [(⟨true, xS⟩ : Slot)] :: storeA s ⟨d, 2, 2, (List.replicate 4 (none : Ver)).map pageOf, 0, false⟩ :: plateA d (newPlate 20) :: L) := raw_row (T := leafT) hS36 0 rfl rfl (by simp) (by decide) rfl (fun h => Sat_out 1 h rfl (fun g hg => Cells.single ⟨_, rfl, hg⟩))
  have hS40 : Sat w34 (slA leafT (.slice (some ⟨b33, 0, none⟩) 1 1) [leaf0] :: slA slotT (.slice B 1 cp) [(⟨true, xS⟩ : Slot)] :: storeA s ⟨d, 2, 2, (List.replicate 4 (none : Ver)).map pageOf, 0, false⟩ :: plateA d (newPlate 20) :: L) := row_sl (n := 1) hS39 0 rfl rfl rfl
  have hS41 : Sat w34 (slA leafT (.slice (some ⟨b33, 0, none⟩) 1 1) [leaf0] :: storeA s ⟨d, 2, 2, (List.replicate 4 (none : Ver)).map pageOf, 0, false⟩ :: plateA d (newPlate 20) :: slA slotT (.slice B 1 cp) [(⟨true, xS⟩ : Slot)] :: L) := (Sat_at (Sat_at (Sat_at hS40 3 rfl rfl) 3 rfl rfl) 2 rfl rfl)
  refine op_call (fn := 9) (first := #[]) (cap := #[]) (args := #[.pointer (some ⟨s, 0, none⟩), .slice (some ⟨b33, 0, none⟩) 1 1]) (all := #[.pointer (some ⟨s, 0, none⟩), .slice (some ⟨b33, 0, none⟩) 1 1]) (pe := fun u => [(27, u), (26, .slice (some ⟨b33, 0, none⟩) 1 1), (0, .bool false), (1, .pointer (some ⟨d, 0, none⟩)), (2, .pointer (some ⟨s, 0, none⟩)), (23, .pointer (some ⟨s, 0, none⟩)), (25, .agg #[.int .i64 3, .int .i64 7, .slice B 1 cp])]) hF38 (fun u => by kernel_rfl) (by kernel_rfl) (by kernel_rfl) (write_first hS41) ?_
  rintro u w44 a42 ⟨rfl, pl, ⟨hF, hlf, hac⟩, hS45⟩ hF43
  clear hF38
  clear hS36 hS39 hS40 hS41
  have hS46 : Sat w44 (storeA s ⟨d, 2, 2, vl1.map pageOf, 0, false⟩ :: plateA d pl :: slA slotT (.slice B 1 cp) [(⟨true, xS⟩ : Slot)] :: L) := hS45
  refine batch_spec (is := [5]) (rest := []) (live := [0, 1, 2, 4]) (e' := [(0, .bool false), (1, .pointer (some ⟨d, 0, none⟩)), (2, .pointer (some ⟨s, 0, none⟩)), (4, .int .i64 0)]) (vs := []) (obs := []) hF43 (by kernel_rfl) .nil ?_
  intro a47 hF48
  clear hF43
  refine ops_done ?_
  refine nrm_then ?_
  refine wp_seq ?_
  refine reg_text (l := [0, 1, 2, 3, 4, 5, 6, 7]) (by kernel_rfl) ?_
  refine batch_spec (is := [0]) (rest := [1, 2, 3, 4, 5, 6, 7]) (live := [0, 1, 2, 4, 29]) (e' := [(0, .bool false), (1, .pointer (some ⟨d, 0, none⟩)), (2, .pointer (some ⟨s, 0, none⟩)), (4, .int .i64 0), (29, .pointer (some ⟨s, 0, none⟩))]) (vs := []) (obs := []) hF48 (by kernel_rfl) .nil ?_
  intro a49 hF50
  clear hF48
  refine ops_next ?_
  refine op_call (fn := 12) (first := #[]) (cap := #[]) (args := #[.pointer (some ⟨s, 0, none⟩), .int .i64 3]) (all := #[.pointer (some ⟨s, 0, none⟩), .int .i64 3]) (pe := fun u => [(30, u), (0, .bool false), (1, .pointer (some ⟨d, 0, none⟩)), (2, .pointer (some ⟨s, 0, none⟩)), (4, .int .i64 0), (29, .pointer (some ⟨s, 0, none⟩))]) hF50 (fun u => by kernel_rfl) (by kernel_rfl) (by kernel_rfl) (read3 hF hlf hS46) ?_
  rintro u w55 a53 ⟨A51, c52, rfl, hS56⟩ hF54
  clear hF50
  clear hS45 hS46
  have hS57 : Sat w55 (slA slotT (.slice A51 1 c52) [(⟨true, xS⟩ : Slot)] :: storeA s ⟨d, 2, 2, vl1.map pageOf, 0, false⟩ :: plateA d pl :: slA slotT (.slice B 1 cp) [(⟨true, xS⟩ : Slot)] :: L) := hS56
  refine batch_spec (is := [2, 3, 4]) (rest := [5, 6, 7]) (live := [0, 1, 2, 4, 31, 32]) (e' := [(0, .bool false), (1, .pointer (some ⟨d, 0, none⟩)), (2, .pointer (some ⟨s, 0, none⟩)), (4, .int .i64 0), (31, .agg #[.int .i64 7, .slice A51 1 c52]), (32, .int .i64 0)]) (vs := []) (obs := []) hF54 (by kernel_rfl) .nil ?_
  intro a58 hF59
  clear hF54
  refine ops_next ?_
  obtain ⟨b60, w61, hr62, hS63⟩ := comes_new (P := Tryd.prog) (v := .alloc 41) (u := fun b => .pointer (some ⟨b, 0, none⟩)) (o := .cells #[.int .i64 0, .slice none 0 0] 41 (0, 0)) hS57 (fun w => by kernel_rfl)
  refine op_value (u := .pointer (some ⟨b60, 0, none⟩)) (e' := [(5, .pointer (some ⟨b60, 0, none⟩)), (0, .bool false), (1, .pointer (some ⟨d, 0, none⟩)), (2, .pointer (some ⟨s, 0, none⟩)), (4, .int .i64 0), (31, .agg #[.int .i64 7, .slice A51 1 c52]), (32, .int .i64 0)]) hF59 (by kernel_rfl) hr62 ?_
  intro a64 hF65
  clear hF59 hr62
  clear hS56 hS57
  refine ops_next ?_
  obtain ⟨w66, hr67, hS68⟩ := comes_store (P := Tryd.prog) (t' := 41) (b := b60) (j := 0) (x := .agg #[.int .i64 7, .slice A51 1 c52]) (vs := [.int .i64 7, .slice A51 1 c52]) (c' := #[.int .i64 7, .slice A51 1 c52]) hS63 0 rfl rfl rfl (by kernel_rfl) rfl rfl rfl
  refine op_value (u := undef) (e' := [(5, .pointer (some ⟨b60, 0, none⟩)), (0, .bool false), (1, .pointer (some ⟨d, 0, none⟩)), (2, .pointer (some ⟨s, 0, none⟩)), (4, .int .i64 0), (31, .agg #[.int .i64 7, .slice A51 1 c52]), (32, .int .i64 0)]) hF65 (by kernel_rfl) hr67 ?_
  intro a69 hF70
  clear hF65 hr67
  clear hS63
  have hS71 : Sat w66 (raw b60 (.cells #[.int .i64 7, .slice A51 1 c52] 41 (0, 0)) :: slA slotT (.slice A51 1 c52) [(⟨true, xS⟩ : Slot)] :: storeA s ⟨d, 2, 2, vl1.map pageOf, 0, false⟩ :: plateA d pl :: slA slotT (.slice B 1 cp) [(⟨true, xS⟩ : Slot)] :: L) := hS68
  refine batch_spec (is := [7]) (rest := []) (live := [5, 0, 1, 2, 4, 6]) (e' := [(5, .pointer (some ⟨b60, 0, none⟩)), (0, .bool false), (1, .pointer (some ⟨d, 0, none⟩)), (2, .pointer (some ⟨s, 0, none⟩)), (4, .int .i64 0), (6, .int .i64 0)]) (vs := []) (obs := []) hF70 (by kernel_rfl) .nil ?_
  intro a72 hF73
  clear hF70
  refine ops_done ?_
  refine nrm_then ?_
  refine wp_seq ?_
  refine reg_text (l := [0, 1, 2, 3, 4, 5, 6]) (by kernel_rfl) ?_
  refine batch_spec (is := [0]) (rest := [1, 2, 3, 4, 5, 6]) (live := [5, 0, 1, 2, 4, 6, 34]) (e' := [(5, .pointer (some ⟨b60, 0, none⟩)), (0, .bool false), (1, .pointer (some ⟨d, 0, none⟩)), (2, .pointer (some ⟨s, 0, none⟩)), (4, .int .i64 0), (6, .int .i64 0), (34, .pointer (some ⟨d, 0, none⟩))]) (vs := []) (obs := []) hF73 (by kernel_rfl) .nil ?_
  intro a74 hF75
  clear hF73
  refine ops_next ?_
  have hS76 : Sat w66 (plateA d pl :: raw b60 (.cells #[.int .i64 7, .slice A51 1 c52] 41 (0, 0)) :: slA slotT (.slice A51 1 c52) [(⟨true, xS⟩ : Slot)] :: storeA s ⟨d, 2, 2, vl1.map pageOf, 0, false⟩ :: slA slotT (.slice B 1 cp) [(⟨true, xS⟩ : Slot)] :: L) := (Sat_at hS71 3 rfl rfl)
  refine op_call (fn := 15) (first := #[]) (cap := #[]) (args := #[.pointer (some ⟨d, 0, none⟩), .int .i64 7]) (all := #[.pointer (some ⟨d, 0, none⟩), .int .i64 7]) (pe := fun u => [(35, u), (5, .pointer (some ⟨b60, 0, none⟩)), (0, .bool false), (1, .pointer (some ⟨d, 0, none⟩)), (2, .pointer (some ⟨s, 0, none⟩)), (4, .int .i64 0), (6, .int .i64 0), (34, .pointer (some ⟨d, 0, none⟩))]) hF75 (fun u => by kernel_rfl) (by kernel_rfl) (by kernel_rfl) (readD hD (read7 hF hS76)) ?_
  rintro u w79 a77 ⟨rfl, hS80⟩ hF78
  clear hF75
  clear hS68 hS71 hS76
  have hS81 : Sat w79 (plateA d pl :: raw b60 (.cells #[.int .i64 7, .slice A51 1 c52] 41 (0, 0)) :: slA slotT (.slice A51 1 c52) [(⟨true, xS⟩ : Slot)] :: storeA s ⟨d, 2, 2, vl1.map pageOf, 0, false⟩ :: slA slotT (.slice B 1 cp) [(⟨true, xS⟩ : Slot)] :: L) := hS80
  refine batch_spec (is := [2, 3, 4, 5, 6]) (rest := []) (live := [5, 0, 1, 2, 4, 6, 7]) (e' := [(5, .pointer (some ⟨b60, 0, none⟩)), (0, .bool false), (1, .pointer (some ⟨d, 0, none⟩)), (2, .pointer (some ⟨s, 0, none⟩)), (4, .int .i64 0), (6, .int .i64 0), (7, .string D)]) (vs := []) (obs := []) hF78 (by kernel_rfl) .nil ?_
  intro a82 hF83
  clear hF78
  refine ops_done ?_
  refine nrm_then ?_
  refine wp_seq ?_
  refine reg_text (l := [0, 1, 2, 3, 4, 5, 6, 7]) (by kernel_rfl) ?_
  refine batch_spec (is := [0]) (rest := [1, 2, 3, 4, 5, 6, 7]) (live := [5, 0, 1, 4, 6, 7, 39]) (e' := [(5, .pointer (some ⟨b60, 0, none⟩)), (0, .bool false), (1, .pointer (some ⟨d, 0, none⟩)), (4, .int .i64 0), (6, .int .i64 0), (7, .string D), (39, .pointer (some ⟨s, 0, none⟩))]) (vs := []) (obs := []) hF83 (by kernel_rfl) .nil ?_
  intro a84 hF85
  clear hF83
  refine ops_next ?_
  have hS86 : Sat w79 (storeA s ⟨d, 2, 2, vl1.map pageOf, 0, false⟩ :: plateA d pl :: raw b60 (.cells #[.int .i64 7, .slice A51 1 c52] 41 (0, 0)) :: slA slotT (.slice A51 1 c52) [(⟨true, xS⟩ : Slot)] :: slA slotT (.slice B 1 cp) [(⟨true, xS⟩ : Slot)] :: L) := (Sat_at (Sat_at hS81 0 rfl rfl) 3 rfl rfl)
  refine op_call (fn := 12) (first := #[]) (cap := #[]) (args := #[.pointer (some ⟨s, 0, none⟩), .int .i64 0]) (all := #[.pointer (some ⟨s, 0, none⟩), .int .i64 0]) (pe := fun u => [(40, u), (5, .pointer (some ⟨b60, 0, none⟩)), (0, .bool false), (1, .pointer (some ⟨d, 0, none⟩)), (4, .int .i64 0), (6, .int .i64 0), (7, .string D), (39, .pointer (some ⟨s, 0, none⟩))]) hF85 (fun u => by kernel_rfl) (by kernel_rfl) (by kernel_rfl) (read0 hF hlf hS86) ?_
  rintro u w91 a89 ⟨A87, c88, rfl, hS92⟩ hF90
  clear hF85
  clear hS80 hS81 hS86
  have hS93 : Sat w91 (slA slotT (.slice A87 0 c88) ([] : List Slot) :: storeA s ⟨d, 2, 2, vl1.map pageOf, 0, false⟩ :: plateA d pl :: raw b60 (.cells #[.int .i64 7, .slice A51 1 c52] 41 (0, 0)) :: slA slotT (.slice A51 1 c52) [(⟨true, xS⟩ : Slot)] :: slA slotT (.slice B 1 cp) [(⟨true, xS⟩ : Slot)] :: L) := hS92
  refine batch_spec (is := [2, 3, 4]) (rest := [5, 6, 7]) (live := [5, 0, 1, 4, 6, 7, 41, 42]) (e' := [(5, .pointer (some ⟨b60, 0, none⟩)), (0, .bool false), (1, .pointer (some ⟨d, 0, none⟩)), (4, .int .i64 0), (6, .int .i64 0), (7, .string D), (41, .agg #[.int .i64 0, .slice A87 0 c88]), (42, .int .i64 0)]) (vs := []) (obs := []) hF90 (by kernel_rfl) .nil ?_
  intro a94 hF95
  clear hF90
  refine ops_next ?_
  obtain ⟨b96, w97, hr98, hS99⟩ := comes_new (P := Tryd.prog) (v := .alloc 41) (u := fun b => .pointer (some ⟨b, 0, none⟩)) (o := .cells #[.int .i64 0, .slice none 0 0] 41 (0, 0)) hS93 (fun w => by kernel_rfl)
  refine op_value (u := .pointer (some ⟨b96, 0, none⟩)) (e' := [(9, .pointer (some ⟨b96, 0, none⟩)), (5, .pointer (some ⟨b60, 0, none⟩)), (0, .bool false), (1, .pointer (some ⟨d, 0, none⟩)), (4, .int .i64 0), (6, .int .i64 0), (7, .string D), (41, .agg #[.int .i64 0, .slice A87 0 c88]), (42, .int .i64 0)]) hF95 (by kernel_rfl) hr98 ?_
  intro a100 hF101
  clear hF95 hr98
  clear hS92 hS93
  refine ops_next ?_
  obtain ⟨w102, hr103, hS104⟩ := comes_store (P := Tryd.prog) (t' := 41) (b := b96) (j := 0) (x := .agg #[.int .i64 0, .slice A87 0 c88]) (vs := [.int .i64 0, .slice A87 0 c88]) (c' := #[.int .i64 0, .slice A87 0 c88]) hS99 0 rfl rfl rfl (by kernel_rfl) rfl rfl rfl
  refine op_value (u := undef) (e' := [(9, .pointer (some ⟨b96, 0, none⟩)), (5, .pointer (some ⟨b60, 0, none⟩)), (0, .bool false), (1, .pointer (some ⟨d, 0, none⟩)), (4, .int .i64 0), (6, .int .i64 0), (7, .string D), (41, .agg #[.int .i64 0, .slice A87 0 c88]), (42, .int .i64 0)]) hF101 (by kernel_rfl) hr103 ?_
  intro a105 hF106
  clear hF101 hr103
  clear hS99
  have hS107 : Sat w102 (raw b96 (.cells #[.int .i64 0, .slice A87 0 c88] 41 (0, 0)) :: slA slotT (.slice A87 0 c88) ([] : List Slot) :: storeA s ⟨d, 2, 2, vl1.map pageOf, 0, false⟩ :: plateA d pl :: raw b60 (.cells #[.int .i64 7, .slice A51 1 c52] 41 (0, 0)) :: slA slotT (.slice A51 1 c52) [(⟨true, xS⟩ : Slot)] :: slA slotT (.slice B 1 cp) [(⟨true, xS⟩ : Slot)] :: L) := hS104
  refine batch_spec (is := [7]) (rest := []) (live := [9, 5, 0, 1, 4, 6, 7, 10]) (e' := [(9, .pointer (some ⟨b96, 0, none⟩)), (5, .pointer (some ⟨b60, 0, none⟩)), (0, .bool false), (1, .pointer (some ⟨d, 0, none⟩)), (4, .int .i64 0), (6, .int .i64 0), (7, .string D), (10, .int .i64 0)]) (vs := []) (obs := []) hF106 (by kernel_rfl) .nil ?_
  intro a108 hF109
  clear hF106
  refine ops_done ?_
  refine nrm_then ?_
  refine wp_seq ?_
  refine reg_text (l := [0, 1, 2, 3, 4, 5, 6, 7, 8, 9, 10, 11, 12, 13, 14, 15, 16, 17, 18, 19, 20, 21, 22, 23, 24, 25, 26, 27, 28, 29, 30, 31, 32, 33, 34, 35, 36, 37, 38, 39, 40, 41, 42]) (by kernel_rfl) ?_
  refine batch_spec (is := [0, 1, 2, 3, 4, 5, 6, 7, 8, 9, 10, 11, 12, 13, 14, 15, 16, 17, 18, 19, 20, 21, 22]) (rest := [23, 24, 25, 26, 27, 28, 29, 30, 31, 32, 33, 34, 35, 36, 37, 38, 39, 40, 41, 42]) (live := [9, 0, 1, 7, 10, 65]) (e' := [(9, .pointer (some ⟨b96, 0, none⟩)), (0, .bool false), (1, .pointer (some ⟨d, 0, none⟩)), (7, .string D), (10, .int .i64 0), (65, .bool (((D.size : Nat) : Int) == 256))]) (vs := [.slice A51 1 c52, .int .i64 7]) (obs := [(⟨b60, 1, none⟩, .slice A51 1 c52), (⟨b60, 0, none⟩, .int .i64 7)]) hF109 (by kernel_rfl) (.cons (ob hS107 4 rfl rfl) (.cons (ob hS107 4 rfl rfl) .nil)) ?_
  intro a110 hF111
  clear hF109
  have hb112 : (((D.size : Nat) : Int) == 256) = true := by rw [hD2]; rfl
  rw [hb112] at hF111
  refine batch_spec (is := [23]) (rest := [24, 25, 26, 27, 28, 29, 30, 31, 32, 33, 34, 35, 36, 37, 38, 39, 40, 41, 42]) (live := [9, 0, 1, 10, 65, 66]) (e' := [(9, .pointer (some ⟨b96, 0, none⟩)), (0, .bool false), (1, .pointer (some ⟨d, 0, none⟩)), (10, .int .i64 0), (65, .bool true), (66, .string D)]) (vs := []) (obs := []) hF111 (by kernel_rfl) .nil ?_
  intro a113 hF114
  clear hF111
  refine ops_next ?_
  refine op_value (u := .string (D.extract 240 248)) (v := .slice 9 (.string D) (some (.int .i64 240)) (some (.int .i64 248)) none) (e' := [(67, .string (D.extract 240 248)), (9, .pointer (some ⟨b96, 0, none⟩)), (0, .bool false), (1, .pointer (some ⟨d, 0, none⟩)), (10, .int .i64 0), (65, .bool true), (66, .string D)]) hF114 (by kernel_rfl) (.value ((run_strSlice (lo := (some (.int .i64 240))) (hi := (some (.int .i64 248))) (l := 240) (h := 248) Tryd.underlying9 rfl rfl (by first | omega | (rw [hD2]; decide)) (by first | omega | (rw [hD2]; decide))) _)) ?_
  intro a115 hF116
  clear hF114
  refine batch_spec (is := [25]) (rest := [26, 27, 28, 29, 30, 31, 32, 33, 34, 35, 36, 37, 38, 39, 40, 41, 42]) (live := [9, 0, 1, 10, 65, 68]) (e' := [(9, .pointer (some ⟨b96, 0, none⟩)), (0, .bool false), (1, .pointer (some ⟨d, 0, none⟩)), (10, .int .i64 0), (65, .bool true), (68, .bool ((D.extract 240 248).toList == (⟨#[80, 65, 71, 69, 0, 0, 0, 3]⟩ : ByteArray).toList))]) (vs := []) (obs := []) hF116 (by kernel_rfl) .nil ?_
  intro a117 hF118
  clear hF116
  rw [str_eq] at hF118
  refine batch_spec (is := [26, 27]) (rest := [28, 29, 30, 31, 32, 33, 34, 35, 36, 37, 38, 39, 40, 41, 42]) (live := [9, 0, 1, 10, 70]) (e' := [(9, .pointer (some ⟨b96, 0, none⟩)), (0, .bool false), (1, .pointer (some ⟨d, 0, none⟩)), (10, .int .i64 0), (70, .bool (decide ((D.extract 240 248) = (⟨#[80, 65, 71, 69, 0, 0, 0, 3]⟩ : ByteArray))))]) (vs := []) (obs := []) hF118 (by kernel_rfl) .nil ?_
  intro a119 hF120
  clear hF118
  have hb121 : (decide ((D.extract 240 248) = (⟨#[80, 65, 71, 69, 0, 0, 0, 3]⟩ : ByteArray))) = true := decide_eq_true (by rw [hD]; exact tag0)
  rw [hb121] at hF120
  refine batch_spec (is := [28, 29, 30, 31, 32, 33, 34, 35, 36, 37, 38]) (rest := [39, 40, 41, 42]) (live := [0, 80, 81]) (e' := [(0, .bool false), (80, .bool true), (81, .pointer (some ⟨d, 0, none⟩))]) (vs := [.slice A87 0 c88]) (obs := [(⟨b96, 1, none⟩, .slice A87 0 c88)]) hF120 (by kernel_rfl) (.cons (ob hS107 0 rfl rfl) .nil) ?_
  intro a122 hF123
  clear hF120
  refine ops_next ?_
  have hS124 : Sat w102 (plateA d pl :: raw b96 (.cells #[.int .i64 0, .slice A87 0 c88] 41 (0, 0)) :: slA slotT (.slice A87 0 c88) ([] : List Slot) :: storeA s ⟨d, 2, 2, vl1.map pageOf, 0, false⟩ :: raw b60 (.cells #[.int .i64 7, .slice A51 1 c52] 41 (0, 0)) :: slA slotT (.slice A51 1 c52) [(⟨true, xS⟩ : Slot)] :: slA slotT (.slice B 1 cp) [(⟨true, xS⟩ : Slot)] :: L) := (Sat_at hS107 3 rfl rfl)
  refine op_call (fn := 16) (first := #[]) (cap := #[]) (args := #[.pointer (some ⟨d, 0, none⟩)]) (all := #[.pointer (some ⟨d, 0, none⟩)]) (pe := fun u => [(82, u), (0, .bool false), (80, .bool true), (81, .pointer (some ⟨d, 0, none⟩))]) hF123 (fun u => by kernel_rfl) (by kernel_rfl) (by kernel_rfl) (acts4 hac hS124) ?_
  rintro u w127 a125 ⟨rfl, hS128⟩ hF126
  clear hF123
  clear hS104 hS107 hS124
  have hS129 : Sat w127 (plateA d pl :: raw b96 (.cells #[.int .i64 0, .slice A87 0 c88] 41 (0, 0)) :: slA slotT (.slice A87 0 c88) ([] : List Slot) :: storeA s ⟨d, 2, 2, vl1.map pageOf, 0, false⟩ :: raw b60 (.cells #[.int .i64 7, .slice A51 1 c52] 41 (0, 0)) :: slA slotT (.slice A51 1 c52) [(⟨true, xS⟩ : Slot)] :: slA slotT (.slice B 1 cp) [(⟨true, xS⟩ : Slot)] :: L) := hS128
  refine batch_spec (is := [40, 41, 42]) (rest := []) (live := [0]) (e' := [(0, .bool true)]) (vs := []) (obs := []) hF126 (by kernel_rfl) .nil ?_
  intro a130 hF131
  clear hF126
  refine ops_done ?_
  refine nrm_then ?_
  refine wp_ret ?_
  refine finish (v := .bool true) (vs := []) (obs := []) hF131 (by kernel_rfl) .nil ?_
  exact ⟨rfl, (Sat_at (Sat_at (Sat_at (Sat_at (Sat_at (Sat_at (Sat_at hS129 6 rfl rfl).drop 5 rfl rfl).drop 4 rfl rfl).drop 3 rfl rfl).drop 2 rfl rfl).drop 1 rfl rfl).drop 0 rfl rfl).drop⟩
end
end Sl
end Go.Proofs.YtkmlppeligdbaaaDoor

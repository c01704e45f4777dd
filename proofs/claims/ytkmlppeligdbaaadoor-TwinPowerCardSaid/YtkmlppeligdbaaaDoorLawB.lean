/- The law's own helpers, by the engine. Conditions: none. -/
import Derived.Test.YtkmlppeligdbaaaDoorEqA
namespace Go.Proofs.YtkmlppeligdbaaaDoor
namespace Sl
open Go.RowKit SepW Pl Eg
set_option linter.unusedVariables false
set_option linter.unusedSimpArgs false
set_option linter.unusedSectionVars false
set_option maxRecDepth 100000
section
variable {w : World} {L : List Atom}
instance : DecidableEq Page := fun a b => decidable_of_iff (a.lsn = b.lsn ∧ a.slots = b.slots) (by cases a; cases b; simp)
theorem same_next {l m : List Slot} {k : Nat} {x y : Slot} (hx : l[k]? = some x) (hy : m[k]? = some y) (he : ((⟨x.used, x.data⟩ : Slot) = ⟨y.used, y.data⟩)) (h : l.take k = m.take k) : l.take (k + 1) = m.take (k + 1) := by
  have hxy : x = y := he
  rw [List.take_add_one, List.take_add_one, hx, hy, h, hxy]
theorem same_yes {x y : Page} {k : Nat} (h1 : x.lsn = y.lsn) (h2 : ((x.slots.length : Nat) : Int) = ((y.slots.length : Nat) : Int)) (h : x.slots.take k = y.slots.take k) (hk : k = x.slots.length) : x = y := by
  subst hk
  rw [List.take_of_length_le (Nat.le_refl _), List.take_of_length_le (by omega)] at h
  cases x; cases y; simp at h1 h ⊢; exact ⟨h1, h⟩
theorem same_no2 {x y : Page} {k : Nat} {a b : Slot} (hx : x.slots[k]? = some a) (hy : y.slots[k]? = some b) (he : ¬ ((⟨a.used, a.data⟩ : Slot) = ⟨b.used, b.data⟩)) : ¬ x = y := by
  intro h
  rw [h, hy] at hx
  cases hx
  exact he rfl
theorem image_c {v : Nat} {d : ByteArray} (hS : Sat w L) : Calls Tryd.prog 14 #[.int .i64 (v : Nat), .string d] w (Ret fun r w' => ∃ B cp, r = .agg #[.int .i64 (v : Nat), .slice B 1 cp] ∧ Sat w' (slA slotT (.slice B 1 cp) [(⟨true, d⟩ : Slot)] :: L)) := by
  refine enter (vs := [.int .i64 (v : Nat), .string d]) Tryd.func14 rfl Tryd.ntmps14 rfl ?_
  intro a1 hF2
  have hF3 : Fits a1 10 [(0, .int .i64 (v : Nat)), (1, .string d)] := hF2
  clear hF2
  refine wp_seq ?_
  refine reg_text (l := [0]) (by kernel_rfl) ?_
  refine ops_next ?_
  obtain ⟨b4, w5, hr6, hS7⟩ := comes_new (P := Tryd.prog) (v := .alloc 41) (u := fun b => .pointer (some ⟨b, 0, none⟩)) (o := .cells #[.int .i64 0, .slice none 0 0] 41 (0, 0)) hS (fun w => by kernel_rfl)
  refine op_value (u := .pointer (some ⟨b4, 0, none⟩)) (e' := [(4, .pointer (some ⟨b4, 0, none⟩)), (0, .int .i64 (v : Nat)), (1, .string d)]) hF3 (by kernel_rfl) hr6 ?_
  intro a8 hF9
  clear hF3 hr6
  clear hS
  refine ops_done ?_
  refine nrm_then ?_
  refine wp_seq ?_
  refine reg_text (l := [0, 1, 2, 3, 4, 5]) (by kernel_rfl) ?_
  refine batch_spec (is := [0, 1, 2]) (rest := [3, 4, 5]) (live := [4, 5, 7]) (e' := [(4, .pointer (some ⟨b4, 0, none⟩)), (5, .int .i64 (v : Nat)), (7, .agg #[.bool true, .string d])]) (vs := []) (obs := []) hF9 (by kernel_rfl) .nil ?_
  intro a10 hF11
  clear hF9
  refine ops_next ?_
  obtain ⟨b12, w13, hr14, hS15⟩ := comes_new (P := Tryd.prog) (v := .buildSlice 39 1 #[(0, .agg #[.bool true, .string d])]) (u := fun b => .slice (some ⟨b, 0, none⟩) 1 1) (o := .cells #[.bool true, .string d] 69 (0, 0)) hS7 (fun w => by kernel_rfl)
  refine op_value (u := .slice (some ⟨b12, 0, none⟩) 1 1) (e' := [(8, .slice (some ⟨b12, 0, none⟩) 1 1), (4, .pointer (some ⟨b4, 0, none⟩)), (5, .int .i64 (v : Nat)), (7, .agg #[.bool true, .string d])]) hF11 (by kernel_rfl) hr14 ?_
  intro a16 hF17
  clear hF11 hr14
  clear hS7
  refine batch_spec (is := [4]) (rest := [5]) (live := [4, 9]) (e' := [(4, .pointer (some ⟨b4, 0, none⟩)), (9, .agg #[.int .i64 (v : Nat), .slice (some ⟨b12, 0, none⟩) 1 1])]) (vs := []) (obs := []) hF17 (by kernel_rfl) .nil ?_
  intro a18 hF19
  clear hF17
  refine ops_next ?_
  obtain ⟨w20, hr21, hS22⟩ := comes_store (P := Tryd.prog) (t' := 41) (b := b4) (j := 0) (x := .agg #[.int .i64 (v : Nat), .slice (some ⟨b12, 0, none⟩) 1 1]) (vs := [.int .i64 (v : Nat), .slice (some ⟨b12, 0, none⟩) 1 1]) (c' := #[.int .i64 (v : Nat), .slice (some ⟨b12, 0, none⟩) 1 1]) hS15 1 rfl rfl rfl (by kernel_rfl) rfl rfl rfl
  refine op_value (u := undef) (e' := [(4, .pointer (some ⟨b4, 0, none⟩)), (9, .agg #[.int .i64 (v : Nat), .slice (some ⟨b12, 0, none⟩) 1 1])]) hF19 (by kernel_rfl) hr21 ?_
  intro a23 hF24
  clear hF19 hr21
  clear hS15
  have hS25 : Sat w20 (raw b4 (.cells #[.int .i64 (v : Nat), .slice (some ⟨b12, 0, none⟩) 1 1] 41 (0, 0)) :: raw b12 (.cells #[.bool true, .string d] 69 (0, 0)) :: L) := hS22
  refine ops_done ?_
  refine nrm_then ?_
  refine wp_ret ?_
  refine finish (v := .agg #[.int .i64 (v : Nat), .slice (some ⟨b12, 0, none⟩) 1 1]) (vs := [.int .i64 (v : Nat), .slice (some ⟨b12, 0, none⟩) 1 1]) (obs := [(⟨b4, 0, none⟩, .int .i64 (v : Nat)), (⟨b4, 1, none⟩, .slice (some ⟨b12, 0, none⟩) 1 1)]) hF24 (by kernel_rfl) (.cons (ob hS25 0 rfl rfl) (.cons (ob hS25 0 rfl rfl) .nil)) ?_
  have hS26 : Sat w20 (rowA slotT 69 (some ⟨b12, 0, none⟩) 1 [(⟨true, d⟩ : Slot)] :: raw b4 (.cells #[.int .i64 (v : Nat), .slice (some ⟨b12, 0, none⟩) 1 1] 41 (0, 0)) :: L) := raw_row (T := slotT) hS25 1 rfl rfl (by simp) (by decide) rfl (fun h => h.cells_free (fun g => Cells.single rfl))
  have hS27 : Sat w20 (slA slotT (.slice (some ⟨b12, 0, none⟩) 1 1) [(⟨true, d⟩ : Slot)] :: raw b4 (.cells #[.int .i64 (v : Nat), .slice (some ⟨b12, 0, none⟩) 1 1] 41 (0, 0)) :: L) := row_sl (n := 1) hS26 0 rfl rfl rfl
  exact ⟨_, _, rfl, (Sat_at hS27 1 rfl rfl).drop⟩
set_option maxHeartbeats 1000000 in
theorem same_c {x y : Page} {A B : Option Addr} {ca cb : Nat} (hlx : x.slots.length ≤ 100000) (hly : y.slots.length ≤ 100000) (hS : Sat w (slA slotT (.slice A x.slots.length ca) x.slots :: slA slotT (.slice B y.slots.length cb) y.slots :: L)) :
    Calls Tryd.prog 13 #[.agg #[.int .i64 x.lsn, .slice A x.slots.length ca], .agg #[.int .i64 y.lsn, .slice B y.slots.length cb]] w (Ret fun v w' => v = .bool (decide (x = y)) ∧ Sat w' (slA slotT (.slice A x.slots.length ca) x.slots :: slA slotT (.slice B y.slots.length cb) y.slots :: L)) := by
  have hly1 := hlx
  refine enter (vs := [.agg #[.int .i64 x.lsn, .slice A x.slots.length ca], .agg #[.int .i64 y.lsn, .slice B y.slots.length cb]]) Tryd.func13 rfl Tryd.ntmps13 rfl ?_
  intro a1 hF2
  have hF3 : Fits a1 38 [(0, .agg #[.int .i64 x.lsn, .slice A x.slots.length ca]), (1, .agg #[.int .i64 y.lsn, .slice B y.slots.length cb])] := hF2
  clear hF2
  refine wp_seq ?_
  refine reg_text (l := [0, 1, 2]) (by kernel_rfl) ?_
  refine ops_next ?_
  obtain ⟨b4, w5, hr6, hS7⟩ := comes_new (P := Tryd.prog) (v := .box 41 (.agg #[.int .i64 x.lsn, .slice A x.slots.length ca])) (u := fun b => .pointer (some ⟨b, 0, none⟩)) (o := .cells #[.int .i64 x.lsn, .slice A x.slots.length ca] 41 (0, 0)) hS (fun w => by kernel_rfl)
  refine op_value (u := .pointer (some ⟨b4, 0, none⟩)) (e' := [(2, .pointer (some ⟨b4, 0, none⟩)), (0, .agg #[.int .i64 x.lsn, .slice A x.slots.length ca]), (1, .agg #[.int .i64 y.lsn, .slice B y.slots.length cb])]) hF3 (by kernel_rfl) hr6 ?_
  intro a8 hF9
  clear hF3 hr6
  clear hS
  refine ops_next ?_
  obtain ⟨b10, w11, hr12, hS13⟩ := comes_new (P := Tryd.prog) (v := .box 41 (.agg #[.int .i64 y.lsn, .slice B y.slots.length cb])) (u := fun b => .pointer (some ⟨b, 0, none⟩)) (o := .cells #[.int .i64 y.lsn, .slice B y.slots.length cb] 41 (0, 0)) hS7 (fun w => by kernel_rfl)
  refine op_value (u := .pointer (some ⟨b10, 0, none⟩)) (e' := [(3, .pointer (some ⟨b10, 0, none⟩)), (2, .pointer (some ⟨b4, 0, none⟩)), (0, .agg #[.int .i64 x.lsn, .slice A x.slots.length ca]), (1, .agg #[.int .i64 y.lsn, .slice B y.slots.length cb])]) hF9 (by kernel_rfl) hr12 ?_
  intro a14 hF15
  clear hF9 hr12
  clear hS7
  refine batch_spec (is := [2]) (rest := []) (live := [3, 2, 4]) (e' := [(3, .pointer (some ⟨b10, 0, none⟩)), (2, .pointer (some ⟨b4, 0, none⟩)), (4, .bool false)]) (vs := []) (obs := []) hF15 (by kernel_rfl) .nil ?_
  intro a16 hF17
  clear hF15
  refine ops_done ?_
  refine nrm_then ?_
  refine wp_seq ?_
  refine wp_seq ?_
  refine reg_text (l := [0, 1, 2, 3, 4, 5, 6, 7, 8, 9, 10, 11, 12, 13]) (by kernel_rfl) ?_
  refine batch_spec (is := [0, 1, 2, 3, 4, 5]) (rest := [6, 7, 8, 9, 10, 11, 12, 13]) (live := [3, 2, 4, 11]) (e' := [(3, .pointer (some ⟨b10, 0, none⟩)), (2, .pointer (some ⟨b4, 0, none⟩)), (4, .bool false), (11, .bool (x.lsn != y.lsn))]) (vs := [.int .i64 x.lsn, .int .i64 y.lsn]) (obs := [(⟨b4, 0, none⟩, .int .i64 x.lsn), (⟨b10, 0, none⟩, .int .i64 y.lsn)]) hF17 (by kernel_rfl) (.cons (ob hS13 1 rfl rfl) (.cons (ob hS13 0 rfl rfl) .nil)) ?_
  intro a18 hF19
  clear hF17
  by_cases h20 : x.lsn = y.lsn
  ·
    have hb21 : (x.lsn != y.lsn) = false := by simp [h20]
    rw [hb21] at hF19
    refine batch_spec (is := [6, 7, 8, 9, 10, 11, 12, 13]) (rest := []) (live := [3, 2, 4, 19]) (e' := [(3, .pointer (some ⟨b10, 0, none⟩)), (2, .pointer (some ⟨b4, 0, none⟩)), (4, .bool false), (19, .bool (((x.slots.length : Nat) : Int) != ((y.slots.length : Nat) : Int)))]) (vs := [.slice A x.slots.length ca, .slice B y.slots.length cb]) (obs := [(⟨b4, 1, none⟩, .slice A x.slots.length ca), (⟨b10, 1, none⟩, .slice B y.slots.length cb)]) hF19 (by kernel_rfl) (.cons (ob hS13 1 rfl rfl) (.cons (ob hS13 0 rfl rfl) .nil)) ?_
    intro a22 hF23
    clear hF19
    refine ops_done ?_
    refine nrm_then ?_
    by_cases h24 : ((x.slots.length : Nat) : Int) = ((y.slots.length : Nat) : Int)
    ·
      have hb25 : (((x.slots.length : Nat) : Int) != ((y.slots.length : Nat) : Int)) = false := by simp [h24]
      rw [hb25] at hF23
      refine cond_no hF23 rfl ?_
      refine wp_skip ?_
      refine nrm_then ?_
      refine wp_seq ?_
      refine wp_seq ?_
      refine reg_text (l := [0]) (by kernel_rfl) ?_
      refine batch_spec (is := [0]) (rest := []) (live := [3, 2, 4, 5]) (e' := [(3, .pointer (some ⟨b10, 0, none⟩)), (2, .pointer (some ⟨b4, 0, none⟩)), (4, .bool false), (5, .int .i64 0)]) (vs := []) (obs := []) hF23 (by kernel_rfl) .nil ?_
      intro a26 hF27
      clear hF23
      refine ops_done ?_
      refine nrm_then ?_
      refine wp_block ?_
      have hS28 : Sat w11 (raw b4 (.cells #[.int .i64 x.lsn, .slice A x.slots.length ca] 41 (0, 0)) :: raw b10 (.cells #[.int .i64 y.lsn, .slice B y.slots.length cb] 41 (0, 0)) :: slA slotT (.slice A x.slots.length ca) x.slots :: slA slotT (.slice B y.slots.length cb) y.slots :: L) := (Sat_at (Sat_at (Sat_at (Sat_at hS13 3 rfl rfl) 3 rfl rfl) 2 rfl rfl) 3 rfl rfl)
      refine loop_g (fun μ α ω => ∃ k : Nat, μ = x.slots.length - k ∧ (k ≤ x.slots.length) ∧ (x.slots.take k = y.slots.take k) ∧ Fits α 38 [(3, .pointer (some ⟨b10, 0, none⟩)), (2, .pointer (some ⟨b4, 0, none⟩)), (4, .bool false), (5, .int .i64 (k : Nat))] ∧ Sat ω (raw b4 (.cells #[.int .i64 x.lsn, .slice A x.slots.length ca] 41 (0, 0)) :: raw b10 (.cells #[.int .i64 y.lsn, .slice B y.slots.length cb] 41 (0, 0)) :: slA slotT (.slice A x.slots.length ca) x.slots :: slA slotT (.slice B y.slots.length cb) y.slots :: L)) _ ⟨0, rfl, (Nat.zero_le _), rfl, (Fits.restr (r := [(3, .pointer (some ⟨b10, 0, none⟩)), (2, .pointer (some ⟨b4, 0, none⟩)), (4, .bool false), (5, .int .i64 0)]) hF27 (ks := [3, 2, 4, 5]) (by kernel_rfl)).cast (by rfl), (hS28)⟩ ?_
      rintro m29 a30 w31 ⟨k, rfl, hk, hE, hF32, hS33⟩
      clear hF27
      clear hS13 hS28
      refine wp_seq ?_
      refine wp_seq ?_
      refine reg_text (l := [0, 1, 2, 3, 4]) (by kernel_rfl) ?_
      refine batch_spec (is := [0, 1, 2, 3, 4]) (rest := []) (live := [3, 2, 4, 5, 20, 21, 22, 23, 24]) (e' := [(3, .pointer (some ⟨b10, 0, none⟩)), (2, .pointer (some ⟨b4, 0, none⟩)), (4, .bool false), (5, .int .i64 (k : Nat)), (20, .int .i64 (k : Nat)), (21, .pointer (some ⟨b4, 1, none⟩)), (22, .slice A x.slots.length ca), (23, .int .i64 (x.slots.length : Nat)), (24, .bool (decide (((k : Nat) : Int) < ((x.slots.length : Nat) : Int))))]) (vs := [.slice A x.slots.length ca]) (obs := [(⟨b4, 1, none⟩, .slice A x.slots.length ca)]) hF32 (by kernel_rfl) (.cons (ob hS33 0 rfl rfl) .nil) ?_
      intro a34 hF35
      clear hF32
      refine ops_done ?_
      refine nrm_then ?_
      by_cases h36 : ((k : Nat) : Int) < ((x.slots.length : Nat) : Int)
      ·
        have hb37 : (decide (((k : Nat) : Int) < ((x.slots.length : Nat) : Int))) = true := decide_eq_true h36
        rw [hb37] at hF35
        refine cond_yes hF35 rfl ?_
        refine wp_skip ?_
        refine nrm_then ?_
        refine wp_seq ?_
        refine wp_block ?_
        refine wp_seq ?_
        refine reg_drawn (fun j => match j with | 1 => [0] | 3 => [0, 1, 2] | 4 => [0, 1, 2, 3] | 6 => [5] | 8 => [5, 6, 7] | 9 => [5, 6, 7, 8] | 10 => [0, 1, 2, 3, 4, 5, 6, 7, 8, 9] | _ => []) hS33 (by kernel_rfl) (by kernel_rfl) (by kernel_rfl) (fun c a d v w h => by cases d <;> exact h) ?_
        intro w38 hS39 hw40
        clear hS33
        refine batchD_spec (is := [0, 1, 2, 5, 6, 7]) (dn := []) (dn' := [0, 1, 2, 5, 6, 7]) (live := [3, 2, 4, 5, 20, 21, 22, 23, 24, 27, 28, 29, 32, 33, 34]) (e' := [(3, .pointer (some ⟨b10, 0, none⟩)), (2, .pointer (some ⟨b4, 0, none⟩)), (4, .bool false), (5, .int .i64 (k : Nat)), (20, .int .i64 (k : Nat)), (21, .pointer (some ⟨b4, 1, none⟩)), (22, .slice A x.slots.length ca), (23, .int .i64 (x.slots.length : Nat)), (24, .bool true), (27, .pointer (some ⟨b4, 1, none⟩)), (28, .slice A x.slots.length ca), (29, .int .i64 (k : Nat)), (32, .pointer (some ⟨b10, 1, none⟩)), (33, .slice B y.slots.length cb), (34, .int .i64 (k : Nat))]) (vs := [.slice A x.slots.length ca, .slice B y.slots.length cb]) (obs := [(⟨b4, 1, none⟩, .slice A x.slots.length ca), (⟨b10, 1, none⟩, .slice B y.slots.length cb)]) (pd' := [(6, [(⟨b10, 1, none⟩, .slice B y.slots.length cb)]), (1, [(⟨b4, 1, none⟩, .slice A x.slots.length ca)])]) hF35 (by kernel_rfl) (.cons (ob hS39 0 rfl rfl) (.cons (ob hS39 1 rfl rfl) .nil)) rfl ?_
        intro a41 hF42
        clear hF35
        obtain ⟨x43, hx44⟩ : ∃ χ, x.slots[k]? = some χ := ⟨_, List.getElem?_eq_getElem (by omega)⟩
        obtain ⟨b45, off46, heq47, hS48⟩ := slot_el hS39 2 rfl hx44
        have hS49 : Sat w38 (immC b45 (off46 + k * 2) [.bool x43.used, .string x43.data] :: raw b4 (.cells #[.int .i64 x.lsn, .slice A x.slots.length ca] 41 (0, 0)) :: raw b10 (.cells #[.int .i64 y.lsn, .slice B y.slots.length cb] 41 (0, 0)) :: slA slotT (.slice A x.slots.length ca) x.slots :: slA slotT (.slice B y.slots.length cb) y.slots :: L) := hS48
        refine wpD_one (i := 3) (u := .pointer (some ⟨b45, off46 + k * 2, none⟩)) (v := .indexAddr 39 (.slice A x.slots.length ca) (.int .i64 (k : Nat))) (e' := [(30, .pointer (some ⟨b45, off46 + k * 2, none⟩)), (3, .pointer (some ⟨b10, 0, none⟩)), (2, .pointer (some ⟨b4, 0, none⟩)), (4, .bool false), (5, .int .i64 (k : Nat)), (20, .int .i64 (k : Nat)), (21, .pointer (some ⟨b4, 1, none⟩)), (22, .slice A x.slots.length ca), (23, .int .i64 (x.slots.length : Nat)), (24, .bool true), (27, .pointer (some ⟨b4, 1, none⟩)), (28, .slice A x.slots.length ca), (29, .int .i64 (k : Nat)), (32, .pointer (some ⟨b10, 1, none⟩)), (33, .slice B y.slots.length cb), (34, .int .i64 (k : Nat))]) (obs := []) (dn' := [0, 1, 2, 5, 6, 7, 3]) hF42 (by kernel_rfl) (by kernel_rfl) rfl (fun w _ => (run_indexAddrA (el := 69) (sz := 2) (off := off46) (k := k) heq47 Tryd.underlying39 (by kernel_rfl) (by rfl) (by omega)) w) .nil ?_
        refine fun a50 hF51 => wpD_filter ?_
        show wpD _ _ _ _ [(6, [(⟨b10, 1, none⟩, .slice B y.slots.length cb)]), (1, [(⟨b4, 1, none⟩, .slice A x.slots.length ca)])] _ _ _
        clear hF42
        refine batchD_spec (is := [4]) (dn := [0, 1, 2, 5, 6, 7, 3]) (dn' := [0, 1, 2, 5, 6, 7, 3, 4]) (live := [30, 3, 2, 4, 5, 20, 21, 22, 23, 24, 27, 28, 29, 32, 33, 34, 31]) (e' := [(30, .pointer (some ⟨b45, off46 + k * 2, none⟩)), (3, .pointer (some ⟨b10, 0, none⟩)), (2, .pointer (some ⟨b4, 0, none⟩)), (4, .bool false), (5, .int .i64 (k : Nat)), (20, .int .i64 (k : Nat)), (21, .pointer (some ⟨b4, 1, none⟩)), (22, .slice A x.slots.length ca), (23, .int .i64 (x.slots.length : Nat)), (24, .bool true), (27, .pointer (some ⟨b4, 1, none⟩)), (28, .slice A x.slots.length ca), (29, .int .i64 (k : Nat)), (32, .pointer (some ⟨b10, 1, none⟩)), (33, .slice B y.slots.length cb), (34, .int .i64 (k : Nat)), (31, .agg #[.bool x43.used, .string x43.data])]) (vs := [.bool x43.used, .string x43.data]) (obs := [(⟨b45, off46 + k * 2, none⟩, .bool x43.used), (⟨b45, off46 + k * 2 + 1, none⟩, .string x43.data)]) (pd' := [(4, [(⟨b45, off46 + k * 2, none⟩, .bool x43.used), (⟨b45, off46 + k * 2 + 1, none⟩, .string x43.data)]), (6, [(⟨b10, 1, none⟩, .slice B y.slots.length cb)]), (1, [(⟨b4, 1, none⟩, .slice A x.slots.length ca)])]) hF51 (by kernel_rfl) (.cons (obC hS49 0 (off := off46 + k * 2) (j := 0) rfl rfl) (.cons (obC hS49 0 (off := off46 + k * 2) (j := 1) rfl rfl) .nil)) rfl ?_
        intro a52 hF53
        clear hF51
        obtain ⟨x54, hx55⟩ : ∃ χ, y.slots[k]? = some χ := ⟨_, List.getElem?_eq_getElem (by omega)⟩
        obtain ⟨b56, off57, heq58, hS59⟩ := slot_el hS49 4 rfl hx55
        have hS60 : Sat w38 (immC b56 (off57 + k * 2) [.bool x54.used, .string x54.data] :: immC b45 (off46 + k * 2) [.bool x43.used, .string x43.data] :: raw b4 (.cells #[.int .i64 x.lsn, .slice A x.slots.length ca] 41 (0, 0)) :: raw b10 (.cells #[.int .i64 y.lsn, .slice B y.slots.length cb] 41 (0, 0)) :: slA slotT (.slice A x.slots.length ca) x.slots :: slA slotT (.slice B y.slots.length cb) y.slots :: L) := hS59
        refine wpD_one (i := 8) (u := .pointer (some ⟨b56, off57 + k * 2, none⟩)) (v := .indexAddr 39 (.slice B y.slots.length cb) (.int .i64 (k : Nat))) (e' := [(35, .pointer (some ⟨b56, off57 + k * 2, none⟩)), (30, .pointer (some ⟨b45, off46 + k * 2, none⟩)), (3, .pointer (some ⟨b10, 0, none⟩)), (2, .pointer (some ⟨b4, 0, none⟩)), (4, .bool false), (5, .int .i64 (k : Nat)), (20, .int .i64 (k : Nat)), (21, .pointer (some ⟨b4, 1, none⟩)), (22, .slice A x.slots.length ca), (23, .int .i64 (x.slots.length : Nat)), (24, .bool true), (27, .pointer (some ⟨b4, 1, none⟩)), (28, .slice A x.slots.length ca), (29, .int .i64 (k : Nat)), (32, .pointer (some ⟨b10, 1, none⟩)), (33, .slice B y.slots.length cb), (34, .int .i64 (k : Nat)), (31, .agg #[.bool x43.used, .string x43.data])]) (obs := []) (dn' := [0, 1, 2, 5, 6, 7, 3, 4, 8]) hF53 (by kernel_rfl) (by kernel_rfl) rfl (fun w _ => (run_indexAddrA (el := 69) (sz := 2) (off := off57) (k := k) heq58 Tryd.underlying39 (by kernel_rfl) (by rfl) (by omega)) w) .nil ?_
        refine fun a61 hF62 => wpD_filter ?_
        show wpD _ _ _ _ [(4, [(⟨b45, off46 + k * 2, none⟩, .bool x43.used), (⟨b45, off46 + k * 2 + 1, none⟩, .string x43.data)]), (6, [(⟨b10, 1, none⟩, .slice B y.slots.length cb)]), (1, [(⟨b4, 1, none⟩, .slice A x.slots.length ca)])] _ _ _
        clear hF53
        refine batchD_spec (is := [9]) (dn := [0, 1, 2, 5, 6, 7, 3, 4, 8]) (dn' := [0, 1, 2, 5, 6, 7, 3, 4, 8, 9]) (live := [35, 30, 3, 2, 4, 5, 20, 21, 22, 23, 24, 27, 28, 29, 32, 33, 34, 31, 36]) (e' := [(35, .pointer (some ⟨b56, off57 + k * 2, none⟩)), (30, .pointer (some ⟨b45, off46 + k * 2, none⟩)), (3, .pointer (some ⟨b10, 0, none⟩)), (2, .pointer (some ⟨b4, 0, none⟩)), (4, .bool false), (5, .int .i64 (k : Nat)), (20, .int .i64 (k : Nat)), (21, .pointer (some ⟨b4, 1, none⟩)), (22, .slice A x.slots.length ca), (23, .int .i64 (x.slots.length : Nat)), (24, .bool true), (27, .pointer (some ⟨b4, 1, none⟩)), (28, .slice A x.slots.length ca), (29, .int .i64 (k : Nat)), (32, .pointer (some ⟨b10, 1, none⟩)), (33, .slice B y.slots.length cb), (34, .int .i64 (k : Nat)), (31, .agg #[.bool x43.used, .string x43.data]), (36, .agg #[.bool x54.used, .string x54.data])]) (vs := [.bool x54.used, .string x54.data]) (obs := [(⟨b56, off57 + k * 2, none⟩, .bool x54.used), (⟨b56, off57 + k * 2 + 1, none⟩, .string x54.data)]) (pd' := [(9, [(⟨b56, off57 + k * 2, none⟩, .bool x54.used), (⟨b56, off57 + k * 2 + 1, none⟩, .string x54.data)]), (4, [(⟨b45, off46 + k * 2, none⟩, .bool x43.used), (⟨b45, off46 + k * 2 + 1, none⟩, .string x43.data)]), (6, [(⟨b10, 1, none⟩, .slice B y.slots.length cb)]), (1, [(⟨b4, 1, none⟩, .slice A x.slots.length ca)])]) hF62 (by kernel_rfl) (.cons (obC hS60 0 (off := off57 + k * 2) (j := 0) rfl rfl) (.cons (obC hS60 0 (off := off57 + k * 2) (j := 1) rfl rfl) .nil)) rfl ?_
        intro a63 hF64
        clear hF62
        refine wpD_one (i := 10) (u := .bool (!decide ((⟨x43.used, x43.data⟩ : Slot) = ⟨x54.used, x54.data⟩))) (v := .cmp .neq 69 #[.bool x43.used, .string x43.data] #[.bool x54.used, .string x54.data]) (e' := [(37, .bool (!decide ((⟨x43.used, x43.data⟩ : Slot) = ⟨x54.used, x54.data⟩))), (35, .pointer (some ⟨b56, off57 + k * 2, none⟩)), (30, .pointer (some ⟨b45, off46 + k * 2, none⟩)), (3, .pointer (some ⟨b10, 0, none⟩)), (2, .pointer (some ⟨b4, 0, none⟩)), (4, .bool false), (5, .int .i64 (k : Nat)), (20, .int .i64 (k : Nat)), (21, .pointer (some ⟨b4, 1, none⟩)), (22, .slice A x.slots.length ca), (23, .int .i64 (x.slots.length : Nat)), (24, .bool true), (27, .pointer (some ⟨b4, 1, none⟩)), (28, .slice A x.slots.length ca), (29, .int .i64 (k : Nat)), (32, .pointer (some ⟨b10, 1, none⟩)), (33, .slice B y.slots.length cb), (34, .int .i64 (k : Nat)), (31, .agg #[.bool x43.used, .string x43.data]), (36, .agg #[.bool x54.used, .string x54.data])]) (obs := []) (dn' := [0, 1, 2, 5, 6, 7, 3, 4, 8, 9, 10]) hF64 (by kernel_rfl) (by kernel_rfl) rfl (fun w _ => (cmp_slot x43.used x54.used x43.data x54.data) w) .nil ?_
        refine fun a65 hF66 => wpD_filter ?_
        show wpD _ _ _ _ [(9, [(⟨b56, off57 + k * 2, none⟩, .bool x54.used), (⟨b56, off57 + k * 2 + 1, none⟩, .string x54.data)]), (4, [(⟨b45, off46 + k * 2, none⟩, .bool x43.used), (⟨b45, off46 + k * 2 + 1, none⟩, .string x43.data)]), (6, [(⟨b10, 1, none⟩, .slice B y.slots.length cb)]), (1, [(⟨b4, 1, none⟩, .slice A x.slots.length ca)])] _ _ _
        clear hF64
        refine wpD_done (by kernel_rfl) ?_
        refine nrm_then ?_
        by_cases h67 : (⟨x43.used, x43.data⟩ : Slot) = ⟨x54.used, x54.data⟩
        ·
          have hb68 : (!decide ((⟨x43.used, x43.data⟩ : Slot) = ⟨x54.used, x54.data⟩)) = false := by simp [h67]
          rw [hb68] at hF66
          refine cond_no hF66 rfl ?_
          refine wp_skip ?_
          refine nrm_block ?_
          refine nrm_then ?_
          refine reg_text (l := [0, 1, 2]) (by kernel_rfl) ?_
          refine batch_spec (is := [0, 1]) (rest := [2]) (live := [37, 35, 30, 3, 2, 4, 5, 20, 21, 22, 23, 24, 27, 28, 29, 32, 33, 34, 31, 36, 25, 26]) (e' := [(37, .bool false), (35, .pointer (some ⟨b56, off57 + k * 2, none⟩)), (30, .pointer (some ⟨b45, off46 + k * 2, none⟩)), (3, .pointer (some ⟨b10, 0, none⟩)), (2, .pointer (some ⟨b4, 0, none⟩)), (4, .bool false), (5, .int .i64 (k : Nat)), (20, .int .i64 (k : Nat)), (21, .pointer (some ⟨b4, 1, none⟩)), (22, .slice A x.slots.length ca), (23, .int .i64 (x.slots.length : Nat)), (24, .bool true), (27, .pointer (some ⟨b4, 1, none⟩)), (28, .slice A x.slots.length ca), (29, .int .i64 (k : Nat)), (32, .pointer (some ⟨b10, 1, none⟩)), (33, .slice B y.slots.length cb), (34, .int .i64 (k : Nat)), (31, .agg #[.bool x43.used, .string x43.data]), (36, .agg #[.bool x54.used, .string x54.data]), (25, .int .i64 (k : Nat)), (26, .int .i64 (IntKind.i64.wrap (((k : Nat) : Int) + 1)))]) (vs := []) (obs := []) hF66 (by kernel_rfl) .nil ?_
          intro a69 hF70
          clear hF66
          have hw71 : IntKind.i64.wrap (((k : Nat) : Int) + 1) = ((k + 1 : Nat) : Int) := by rw [wrap_i64 (by omega) (by omega)]; omega
          rw [hw71] at hF70
          refine batch_spec (is := [2]) (rest := []) (live := [37, 35, 30, 3, 2, 4, 5, 20, 21, 22, 23, 24, 27, 28, 29, 32, 33, 34, 31, 36, 25, 26]) (e' := [(37, .bool false), (35, .pointer (some ⟨b56, off57 + k * 2, none⟩)), (30, .pointer (some ⟨b45, off46 + k * 2, none⟩)), (3, .pointer (some ⟨b10, 0, none⟩)), (2, .pointer (some ⟨b4, 0, none⟩)), (4, .bool false), (5, .int .i64 (k + 1 : Nat)), (20, .int .i64 (k : Nat)), (21, .pointer (some ⟨b4, 1, none⟩)), (22, .slice A x.slots.length ca), (23, .int .i64 (x.slots.length : Nat)), (24, .bool true), (27, .pointer (some ⟨b4, 1, none⟩)), (28, .slice A x.slots.length ca), (29, .int .i64 (k : Nat)), (32, .pointer (some ⟨b10, 1, none⟩)), (33, .slice B y.slots.length cb), (34, .int .i64 (k : Nat)), (31, .agg #[.bool x43.used, .string x43.data]), (36, .agg #[.bool x54.used, .string x54.data]), (25, .int .i64 (k : Nat)), (26, .int .i64 (k + 1 : Nat))]) (vs := []) (obs := []) hF70 (by kernel_rfl) .nil ?_
          intro a72 hF73
          clear hF70
          refine ops_done ?_
          have hS74 : Sat w38 (raw b4 (.cells #[.int .i64 x.lsn, .slice A x.slots.length ca] 41 (0, 0)) :: raw b10 (.cells #[.int .i64 y.lsn, .slice B y.slots.length cb] 41 (0, 0)) :: slA slotT (.slice A x.slots.length ca) x.slots :: slA slotT (.slice B y.slots.length cb) y.slots :: immC b56 (off57 + k * 2) [.bool x54.used, .string x54.data] :: immC b45 (off46 + k * 2) [.bool x43.used, .string x43.data] :: L) := (Sat_at (Sat_at (Sat_at (Sat_at hS60 5 rfl rfl) 5 rfl rfl) 5 rfl rfl) 5 rfl rfl)
          refine nrm_then ⟨_, ?_, k + 1, rfl, (by omega), (same_next hx44 hx55 h67 hE), (Fits.restr (r := [(3, .pointer (some ⟨b10, 0, none⟩)), (2, .pointer (some ⟨b4, 0, none⟩)), (4, .bool false), (5, .int .i64 (k + 1 : Nat))]) hF73 (ks := [3, 2, 4, 5]) (by kernel_rfl)).cast (by rfl), (Sat_at (Sat_at hS74 5 rfl rfl).drop 4 rfl rfl).drop⟩
          omega
        ·
          have hb75 : (!decide ((⟨x43.used, x43.data⟩ : Slot) = ⟨x54.used, x54.data⟩)) = true := by simp [h67]
          rw [hb75] at hF66
          refine cond_yes hF66 rfl ?_
          refine wp_seq ?_
          refine reg_text (l := [0]) (by kernel_rfl) ?_
          refine batch_spec (is := [0]) (rest := []) (live := [37, 35, 30, 3, 2, 4, 5, 20, 21, 22, 23, 24, 27, 28, 29, 32, 33, 34, 31, 36]) (e' := [(37, .bool true), (35, .pointer (some ⟨b56, off57 + k * 2, none⟩)), (30, .pointer (some ⟨b45, off46 + k * 2, none⟩)), (3, .pointer (some ⟨b10, 0, none⟩)), (2, .pointer (some ⟨b4, 0, none⟩)), (4, .bool false), (5, .int .i64 (k : Nat)), (20, .int .i64 (k : Nat)), (21, .pointer (some ⟨b4, 1, none⟩)), (22, .slice A x.slots.length ca), (23, .int .i64 (x.slots.length : Nat)), (24, .bool true), (27, .pointer (some ⟨b4, 1, none⟩)), (28, .slice A x.slots.length ca), (29, .int .i64 (k : Nat)), (32, .pointer (some ⟨b10, 1, none⟩)), (33, .slice B y.slots.length cb), (34, .int .i64 (k : Nat)), (31, .agg #[.bool x43.used, .string x43.data]), (36, .agg #[.bool x54.used, .string x54.data])]) (vs := []) (obs := []) hF66 (by kernel_rfl) .nil ?_
          intro a76 hF77
          clear hF66
          refine ops_done ?_
          refine nrm_then ?_
          refine wp_ret ?_
          refine ret_block ?_
          refine ret_then ?_
          refine ret_then ?_
          refine ret_block ?_
          refine ret_then ?_
          refine finish (v := .bool false) (vs := []) (obs := []) hF77 (by kernel_rfl) .nil ?_
          have hS78 : Sat w38 (slA slotT (.slice A x.slots.length ca) x.slots :: slA slotT (.slice B y.slots.length cb) y.slots :: immC b56 (off57 + k * 2) [.bool x54.used, .string x54.data] :: immC b45 (off46 + k * 2) [.bool x43.used, .string x43.data] :: raw b4 (.cells #[.int .i64 x.lsn, .slice A x.slots.length ca] 41 (0, 0)) :: raw b10 (.cells #[.int .i64 y.lsn, .slice B y.slots.length cb] 41 (0, 0)) :: L) := (Sat_at (Sat_at hS60 5 rfl rfl) 5 rfl rfl)
          refine ⟨congrArg Value.bool ?_, (Sat_at (Sat_at (Sat_at (Sat_at hS78 5 rfl rfl).drop 4 rfl rfl).drop 3 rfl rfl).drop 2 rfl rfl).drop⟩
          exact (decide_eq_false (same_no2 hx44 hx55 h67)).symm
      ·
        have hb79 : (decide (((k : Nat) : Int) < ((x.slots.length : Nat) : Int))) = false := decide_eq_false h36
        rw [hb79] at hF35
        refine cond_no hF35 rfl ?_
        refine wp_exit ?_
        refine exit_then ?_
        refine exit_then ?_
        refine exit_block ?_
        refine nrm_then ?_
        refine wp_seq ?_
        refine reg_text (l := [0]) (by kernel_rfl) ?_
        refine batch_spec (is := [0]) (rest := []) (live := [4]) (e' := [(4, .bool true)]) (vs := []) (obs := []) hF35 (by kernel_rfl) .nil ?_
        intro a80 hF81
        clear hF35
        refine ops_done ?_
        refine nrm_then ?_
        refine wp_ret ?_
        refine finish (v := .bool true) (vs := []) (obs := []) hF81 (by kernel_rfl) .nil ?_
        have hS82 : Sat w31 (slA slotT (.slice A x.slots.length ca) x.slots :: slA slotT (.slice B y.slots.length cb) y.slots :: raw b4 (.cells #[.int .i64 x.lsn, .slice A x.slots.length ca] 41 (0, 0)) :: raw b10 (.cells #[.int .i64 y.lsn, .slice B y.slots.length cb] 41 (0, 0)) :: L) := (Sat_at (Sat_at hS33 3 rfl rfl) 3 rfl rfl)
        refine ⟨congrArg Value.bool ?_, (Sat_at (Sat_at hS82 3 rfl rfl).drop 2 rfl rfl).drop⟩
        exact (decide_eq_true (same_yes h20 h24 hE (by omega))).symm
    ·
      have hb83 : (((x.slots.length : Nat) : Int) != ((y.slots.length : Nat) : Int)) = true := by simp [h24]
      rw [hb83] at hF23
      refine cond_yes hF23 rfl ?_
      refine wp_seq ?_
      refine reg_text (l := [0]) (by kernel_rfl) ?_
      refine batch_spec (is := [0]) (rest := []) (live := [3, 2, 4]) (e' := [(3, .pointer (some ⟨b10, 0, none⟩)), (2, .pointer (some ⟨b4, 0, none⟩)), (4, .bool false)]) (vs := []) (obs := []) hF23 (by kernel_rfl) .nil ?_
      intro a84 hF85
      clear hF23
      refine ops_done ?_
      refine nrm_then ?_
      refine wp_ret ?_
      refine ret_then ?_
      refine finish (v := .bool false) (vs := []) (obs := []) hF85 (by kernel_rfl) .nil ?_
      have hS86 : Sat w11 (slA slotT (.slice A x.slots.length ca) x.slots :: slA slotT (.slice B y.slots.length cb) y.slots :: raw b10 (.cells #[.int .i64 y.lsn, .slice B y.slots.length cb] 41 (0, 0)) :: raw b4 (.cells #[.int .i64 x.lsn, .slice A x.slots.length ca] 41 (0, 0)) :: L) := (Sat_at (Sat_at hS13 3 rfl rfl) 3 rfl rfl)
      refine ⟨congrArg Value.bool ?_, (Sat_at (Sat_at hS86 3 rfl rfl).drop 2 rfl rfl).drop⟩
      exact (decide_eq_false (fun h => h24 (by rw [h]))).symm
  ·
    have hb87 : (x.lsn != y.lsn) = true := by simp [h20]
    rw [hb87] at hF19
    refine batch_spec (is := [6, 7, 8, 9, 10, 11, 12, 13]) (rest := []) (live := [3, 2, 4, 19]) (e' := [(3, .pointer (some ⟨b10, 0, none⟩)), (2, .pointer (some ⟨b4, 0, none⟩)), (4, .bool false), (19, .bool true)]) (vs := []) (obs := []) hF19 (by kernel_rfl) .nil ?_
    intro a88 hF89
    clear hF19
    refine ops_done ?_
    refine nrm_then ?_
    refine cond_yes hF89 rfl ?_
    refine wp_seq ?_
    refine reg_text (l := [0]) (by kernel_rfl) ?_
    refine batch_spec (is := [0]) (rest := []) (live := [3, 2, 4]) (e' := [(3, .pointer (some ⟨b10, 0, none⟩)), (2, .pointer (some ⟨b4, 0, none⟩)), (4, .bool false)]) (vs := []) (obs := []) hF89 (by kernel_rfl) .nil ?_
    intro a90 hF91
    clear hF89
    refine ops_done ?_
    refine nrm_then ?_
    refine wp_ret ?_
    refine ret_then ?_
    refine finish (v := .bool false) (vs := []) (obs := []) hF91 (by kernel_rfl) .nil ?_
    have hS92 : Sat w11 (slA slotT (.slice A x.slots.length ca) x.slots :: slA slotT (.slice B y.slots.length cb) y.slots :: raw b10 (.cells #[.int .i64 y.lsn, .slice B y.slots.length cb] 41 (0, 0)) :: raw b4 (.cells #[.int .i64 x.lsn, .slice A x.slots.length ca] 41 (0, 0)) :: L) := (Sat_at (Sat_at hS13 3 rfl rfl) 3 rfl rfl)
    refine ⟨congrArg Value.bool ?_, (Sat_at (Sat_at hS92 3 rfl rfl).drop 2 rfl rfl).drop⟩
    exact (decide_eq_false (fun h => h20 (by rw [h]))).symm
end
end Sl
end Go.Proofs.YtkmlppeligdbaaaDoor

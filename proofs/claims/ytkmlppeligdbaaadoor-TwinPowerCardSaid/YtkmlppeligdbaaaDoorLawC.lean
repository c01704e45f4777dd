/- A group's leaves, by the engine. Conditions: none. -/
import Derived.Test.YtkmlppeligdbaaaDoorLawB
namespace Go.Proofs.YtkmlppeligdbaaaDoor
namespace Sl
open Go.RowKit SepW Pl Eg
set_option linter.unusedVariables false
set_option linter.unusedSimpArgs false
set_option linter.unusedSectionVars false
set_option maxRecDepth 100000
section
variable {w : World} {L : List Atom}
theorem laid_same {lsn : Nat} {d : ByteArray} {pages : List Int} {k : Nat} {p : Int} (hx : pages[k]? = some p) (h : (laidL lsn d (pages.take k)).any (fun y => y.1 == uMod p 5) = true) : laidL lsn d (pages.take (k + 1)) = laidL lsn d (pages.take k) := by
  rw [laid_take hx, laidStep]
  rw [if_pos h]
  split <;> rfl
theorem laid_add {lsn : Nat} {d : ByteArray} {pages : List Int} {k : Nat} {p : Int} (hx : pages[k]? = some p) (h3 : (laidL lsn d (pages.take k)).length < 3) (h : ¬ (laidL lsn d (pages.take k)).any (fun y => y.1 == uMod p 5) = true) : laidL lsn d (pages.take (k + 1)) = laidL lsn d (pages.take k) ++ [(uMod p 5, lsn, [⟨true, d⟩])] := by
  rw [laid_take hx, laidStep, if_pos h3, if_neg h]
set_option maxHeartbeats 2000000 in
theorem laid_c {pages : List Int} {A : Option Addr} {cap lsn : Nat} {dt : Int} (hpl : pages.length ≤ 140737488355328) (hS : Sat w (slA intT (.slice A pages.length cap) pages :: L)) : Calls Tryd.prog 8 #[.agg #[.slice A pages.length cap, .int .u8 dt], .int .i64 (lsn : Nat)] w (Ret fun v w' => ∃ B cp, v = .slice B (laidL lsn (byteS dt) pages).length cp ∧ Sat w' (slA leafT (.slice B (laidL lsn (byteS dt) pages).length cp) (laidL lsn (byteS dt) pages) :: slA intT (.slice A pages.length cap) pages :: L)) := by
  refine enter (vs := [.agg #[.slice A pages.length cap, .int .u8 dt], .int .i64 (lsn : Nat)]) Tryd.func8 rfl Tryd.ntmps8 rfl ?_
  intro a1 hF2
  have hF3 : Fits a1 61 [(0, .agg #[.slice A pages.length cap, .int .u8 dt]), (1, .int .i64 (lsn : Nat))] := hF2
  clear hF2
  refine wp_seq ?_
  refine reg_text (l := [0, 1]) (by kernel_rfl) ?_
  refine ops_next ?_
  obtain ⟨b4, w5, hr6, hS7⟩ := comes_new (P := Tryd.prog) (v := .box 38 (.agg #[.slice A pages.length cap, .int .u8 dt])) (u := fun b => .pointer (some ⟨b, 0, none⟩)) (o := .cells #[.slice A pages.length cap, .int .u8 dt] 38 (0, 0)) hS (fun w => by kernel_rfl)
  refine op_value (u := .pointer (some ⟨b4, 0, none⟩)) (e' := [(2, .pointer (some ⟨b4, 0, none⟩)), (0, .agg #[.slice A pages.length cap, .int .u8 dt]), (1, .int .i64 (lsn : Nat))]) hF3 (by kernel_rfl) hr6 ?_
  intro a8 hF9
  clear hF3 hr6
  clear hS
  refine batch_spec (is := [1]) (rest := []) (live := [2, 1, 4]) (e' := [(2, .pointer (some ⟨b4, 0, none⟩)), (1, .int .i64 (lsn : Nat)), (4, .slice none 0 0)]) (vs := []) (obs := []) hF9 (by kernel_rfl) .nil ?_
  intro a10 hF11
  clear hF9
  refine ops_done ?_
  refine nrm_then ?_
  refine wp_seq ?_
  refine reg_text (l := [0, 1]) (by kernel_rfl) ?_
  refine ops_next ?_
  obtain ⟨b12, w13, hr14, hS15⟩ := comes_new (P := Tryd.prog) (v := .buildSlice 35 0 #[]) (u := fun b => .slice (some ⟨b, 0, none⟩) 0 0) (o := .cells #[] 43 (0, 0)) hS7 (fun w => by kernel_rfl)
  refine op_value (u := .slice (some ⟨b12, 0, none⟩) 0 0) (e' := [(10, .slice (some ⟨b12, 0, none⟩) 0 0), (2, .pointer (some ⟨b4, 0, none⟩)), (1, .int .i64 (lsn : Nat)), (4, .slice none 0 0)]) hF11 (by kernel_rfl) hr14 ?_
  intro a16 hF17
  clear hF11 hr14
  clear hS7
  refine batch_spec (is := [1]) (rest := []) (live := [2, 1, 4, 5]) (e' := [(2, .pointer (some ⟨b4, 0, none⟩)), (1, .int .i64 (lsn : Nat)), (4, .slice none 0 0), (5, .slice (some ⟨b12, 0, none⟩) 0 0)]) (vs := []) (obs := []) hF17 (by kernel_rfl) .nil ?_
  intro a18 hF19
  clear hF17
  refine ops_done ?_
  refine nrm_then ?_
  refine wp_seq ?_
  refine wp_seq ?_
  refine reg_text (l := [0]) (by kernel_rfl) ?_
  refine batch_spec (is := [0]) (rest := []) (live := [2, 1, 4, 5, 6]) (e' := [(2, .pointer (some ⟨b4, 0, none⟩)), (1, .int .i64 (lsn : Nat)), (4, .slice none 0 0), (5, .slice (some ⟨b12, 0, none⟩) 0 0), (6, .int .i64 0)]) (vs := []) (obs := []) hF19 (by kernel_rfl) .nil ?_
  intro a20 hF21
  clear hF19
  refine ops_done ?_
  refine nrm_then ?_
  refine wp_block ?_
  have hS22 : Sat w13 (rowA leafT 43 (some ⟨b12, 0, none⟩) 0 [] :: raw b4 (.cells #[.slice A pages.length cap, .int .u8 dt] 38 (0, 0)) :: slA intT (.slice A pages.length cap) pages :: L) := raw_row (T := leafT) hS15 0 rfl rfl (Nat.le_refl _) (by decide) rfl (fun h => h.cells_free (fun g => rfl))
  have hS23 : Sat w13 (raw b4 (.cells #[.slice A pages.length cap, .int .u8 dt] 38 (0, 0)) :: slA intT (.slice A pages.length cap) pages :: rowA leafT 43 (some ⟨b12, 0, none⟩) 0 [] :: L) := (Sat_at (Sat_at (Sat_at hS22 0 rfl rfl) 2 rfl rfl) 2 rfl rfl)
  refine loop_g (fun μ α ω => ∃ i : Nat, ∃ B : Option Addr, ∃ cp : Nat, μ = pages.length - i ∧ (i ≤ pages.length) ∧ Fits α 61 [(2, .pointer (some ⟨b4, 0, none⟩)), (1, .int .i64 (lsn : Nat)), (5, .slice B ((laidL lsn (byteS dt) (pages.take i)).length) cp), (6, .int .i64 (i : Nat))] ∧ Sat ω (raw b4 (.cells #[.slice A pages.length cap, .int .u8 dt] 38 (0, 0)) :: slA intT (.slice A pages.length cap) pages :: rowA leafT 43 B cp (laidL lsn (byteS dt) (pages.take i)) :: L)) _ ⟨0, _, 0, rfl, (Nat.zero_le _), (Fits.restr (r := [(2, .pointer (some ⟨b4, 0, none⟩)), (1, .int .i64 (lsn : Nat)), (5, .slice (some ⟨b12, 0, none⟩) 0 0), (6, .int .i64 0)]) hF21 (ks := [2, 1, 5, 6]) (by kernel_rfl)).cast (by rfl), (hS23)⟩ ?_
  rintro m24 a25 w26 ⟨i, B, cp, rfl, hi, hF27, hS28⟩
  clear hF21
  clear hS15 hS22 hS23
  refine wp_seq ?_
  refine wp_seq ?_
  refine reg_text (l := [0, 1, 2, 3, 4, 5, 6, 7, 8, 9]) (by kernel_rfl) ?_
  refine batch_spec (is := [0, 1, 2, 3, 4, 5]) (rest := [6, 7, 8, 9]) (live := [2, 1, 5, 6, 11, 12, 13, 14, 15, 16]) (e' := [(2, .pointer (some ⟨b4, 0, none⟩)), (1, .int .i64 (lsn : Nat)), (5, .slice B ((laidL lsn (byteS dt) (pages.take i)).length) cp), (6, .int .i64 (i : Nat)), (11, .int .i64 (i : Nat)), (12, .pointer (some ⟨b4, 0, none⟩)), (13, .slice A pages.length cap), (14, .int .i64 (pages.length : Nat)), (15, .bool (decide (((i : Nat) : Int) < ((pages.length : Nat) : Int)))), (16, .bool (decide (((i : Nat) : Int) < ((pages.length : Nat) : Int))))]) (vs := [.slice A pages.length cap]) (obs := [(⟨b4, 0, none⟩, .slice A pages.length cap)]) hF27 (by kernel_rfl) (.cons (ob hS28 0 rfl rfl) .nil) ?_
  intro a29 hF30
  clear hF27
  by_cases h31 : ((i : Nat) : Int) < ((pages.length : Nat) : Int)
  ·
    have hb32 : (decide (((i : Nat) : Int) < ((pages.length : Nat) : Int))) = true := decide_eq_true h31
    rw [hb32] at hF30
    refine batch_spec (is := [6, 7, 8, 9]) (rest := []) (live := [2, 1, 5, 6, 11, 12, 13, 14, 15, 16, 17, 18, 19, 20]) (e' := [(2, .pointer (some ⟨b4, 0, none⟩)), (1, .int .i64 (lsn : Nat)), (5, .slice B ((laidL lsn (byteS dt) (pages.take i)).length) cp), (6, .int .i64 (i : Nat)), (11, .int .i64 (i : Nat)), (12, .pointer (some ⟨b4, 0, none⟩)), (13, .slice A pages.length cap), (14, .int .i64 (pages.length : Nat)), (15, .bool true), (16, .bool true), (17, .slice B ((laidL lsn (byteS dt) (pages.take i)).length) cp), (18, .int .i64 ((laidL lsn (byteS dt) (pages.take i)).length : Nat)), (19, .bool (decide ((((laidL lsn (byteS dt) (pages.take i)).length : Nat) : Int) < 3))), (20, .bool (decide ((((laidL lsn (byteS dt) (pages.take i)).length : Nat) : Int) < 3)))]) (vs := []) (obs := []) hF30 (by kernel_rfl) .nil ?_
    intro a33 hF34
    clear hF30
    refine ops_done ?_
    refine nrm_then ?_
    by_cases h35 : (((laidL lsn (byteS dt) (pages.take i)).length : Nat) : Int) < 3
    ·
      have hb36 : (decide ((((laidL lsn (byteS dt) (pages.take i)).length : Nat) : Int) < 3)) = true := decide_eq_true h35
      rw [hb36] at hF34
      refine cond_yes hF34 rfl ?_
      refine wp_skip ?_
      refine nrm_then ?_
      refine wp_seq ?_
      refine wp_block ?_
      refine wp_seq ?_
      refine reg_text (l := [0, 1, 2, 3, 4, 5, 6, 7, 8]) (by kernel_rfl) ?_
      refine batch_spec (is := [0, 1, 2]) (rest := [3, 4, 5, 6, 7, 8]) (live := [2, 1, 5, 6, 11, 12, 13, 14, 15, 16, 17, 18, 19, 20, 23, 24, 25]) (e' := [(2, .pointer (some ⟨b4, 0, none⟩)), (1, .int .i64 (lsn : Nat)), (5, .slice B ((laidL lsn (byteS dt) (pages.take i)).length) cp), (6, .int .i64 (i : Nat)), (11, .int .i64 (i : Nat)), (12, .pointer (some ⟨b4, 0, none⟩)), (13, .slice A pages.length cap), (14, .int .i64 (pages.length : Nat)), (15, .bool true), (16, .bool true), (17, .slice B ((laidL lsn (byteS dt) (pages.take i)).length) cp), (18, .int .i64 ((laidL lsn (byteS dt) (pages.take i)).length : Nat)), (19, .bool true), (20, .bool true), (23, .pointer (some ⟨b4, 0, none⟩)), (24, .slice A pages.length cap), (25, .int .i64 (i : Nat))]) (vs := [.slice A pages.length cap]) (obs := [(⟨b4, 0, none⟩, .slice A pages.length cap)]) hF34 (by kernel_rfl) (.cons (ob hS28 0 rfl rfl) .nil) ?_
      intro a37 hF38
      clear hF34
      refine ops_next ?_
      obtain ⟨x39, hx40⟩ : ∃ χ, pages[i]? = some χ := ⟨_, List.getElem?_eq_getElem (by omega)⟩
      obtain ⟨b41, off42, heq43, hS44⟩ := int_el hS28 1 rfl hx40
      have hS45 : Sat w26 (immC b41 (off42 + i * 1) [.int .i64 x39] :: raw b4 (.cells #[.slice A pages.length cap, .int .u8 dt] 38 (0, 0)) :: slA intT (.slice A pages.length cap) pages :: rowA leafT 43 B cp (laidL lsn (byteS dt) (pages.take i)) :: L) := hS44
      refine op_value (u := .pointer (some ⟨b41, off42 + i * 1, none⟩)) (v := .indexAddr 23 (.slice A pages.length cap) (.int .i64 (i : Nat))) (e' := [(26, .pointer (some ⟨b41, off42 + i * 1, none⟩)), (2, .pointer (some ⟨b4, 0, none⟩)), (1, .int .i64 (lsn : Nat)), (5, .slice B ((laidL lsn (byteS dt) (pages.take i)).length) cp), (6, .int .i64 (i : Nat)), (11, .int .i64 (i : Nat)), (12, .pointer (some ⟨b4, 0, none⟩)), (13, .slice A pages.length cap), (14, .int .i64 (pages.length : Nat)), (15, .bool true), (16, .bool true), (17, .slice B ((laidL lsn (byteS dt) (pages.take i)).length) cp), (18, .int .i64 ((laidL lsn (byteS dt) (pages.take i)).length : Nat)), (19, .bool true), (20, .bool true), (23, .pointer (some ⟨b4, 0, none⟩)), (24, .slice A pages.length cap), (25, .int .i64 (i : Nat))]) hF38 (by kernel_rfl) (.value ((run_indexAddrA (el := 3) (sz := 1) (off := off42) (k := i) heq43 Tryd.underlying23 (by kernel_rfl) (by rfl) (by omega)) _)) ?_
      intro a46 hF47
      clear hF38
      refine batch_spec (is := [4, 5, 6, 7]) (rest := [8]) (live := [26, 2, 1, 5, 6, 11, 12, 13, 14, 15, 16, 17, 18, 19, 20, 23, 24, 25, 27, 28, 29, 30]) (e' := [(26, .pointer (some ⟨b41, off42 + i * 1, none⟩)), (2, .pointer (some ⟨b4, 0, none⟩)), (1, .int .i64 (lsn : Nat)), (5, .slice B ((laidL lsn (byteS dt) (pages.take i)).length) cp), (6, .int .i64 (i : Nat)), (11, .int .i64 (i : Nat)), (12, .pointer (some ⟨b4, 0, none⟩)), (13, .slice A pages.length cap), (14, .int .i64 (pages.length : Nat)), (15, .bool true), (16, .bool true), (17, .slice B ((laidL lsn (byteS dt) (pages.take i)).length) cp), (18, .int .i64 ((laidL lsn (byteS dt) (pages.take i)).length : Nat)), (19, .bool true), (20, .bool true), (23, .pointer (some ⟨b4, 0, none⟩)), (24, .slice A pages.length cap), (25, .int .i64 (i : Nat)), (27, .int .i64 x39), (28, .int .u64 (IntKind.u64.wrap x39)), (29, .int .u64 ((IntKind.u64.wrap x39).tmod 5)), (30, .int .i64 (IntKind.i64.wrap ((IntKind.u64.wrap x39).tmod 5)))]) (vs := [.int .i64 x39]) (obs := [(⟨b41, off42 + i * 1, none⟩, .int .i64 x39)]) hF47 (by kernel_rfl) (.cons (obC hS45 0 (off := off42 + i * 1) (j := 0) rfl rfl) .nil) ?_
      intro a48 hF49
      clear hF47
      have hw50 : IntKind.i64.wrap ((IntKind.u64.wrap x39).tmod 5) = ((uMod x39 5 : Nat) : Int) := uMod_eq x39 (m := 5) (by decide) (by decide)
      rw [hw50] at hF49
      have hw50_lt := uMod_lt x39 (m := 5) (by decide)
      refine batch_spec (is := [8]) (rest := []) (live := [26, 2, 1, 5, 6, 11, 12, 13, 14, 15, 16, 17, 18, 19, 20, 23, 24, 25, 27, 28, 29, 30, 7]) (e' := [(26, .pointer (some ⟨b41, off42 + i * 1, none⟩)), (2, .pointer (some ⟨b4, 0, none⟩)), (1, .int .i64 (lsn : Nat)), (5, .slice B ((laidL lsn (byteS dt) (pages.take i)).length) cp), (6, .int .i64 (i : Nat)), (11, .int .i64 (i : Nat)), (12, .pointer (some ⟨b4, 0, none⟩)), (13, .slice A pages.length cap), (14, .int .i64 (pages.length : Nat)), (15, .bool true), (16, .bool true), (17, .slice B ((laidL lsn (byteS dt) (pages.take i)).length) cp), (18, .int .i64 ((laidL lsn (byteS dt) (pages.take i)).length : Nat)), (19, .bool true), (20, .bool true), (23, .pointer (some ⟨b4, 0, none⟩)), (24, .slice A pages.length cap), (25, .int .i64 (i : Nat)), (27, .int .i64 x39), (28, .int .u64 (IntKind.u64.wrap x39)), (29, .int .u64 ((IntKind.u64.wrap x39).tmod 5)), (30, .int .i64 (uMod x39 5 : Nat)), (7, .int .i64 (uMod x39 5 : Nat))]) (vs := []) (obs := []) hF49 (by kernel_rfl) .nil ?_
      intro a51 hF52
      clear hF49
      refine ops_done ?_
      refine nrm_then ?_
      refine wp_seq ?_
      refine reg_text (l := [0]) (by kernel_rfl) ?_
      refine batch_spec (is := [0]) (rest := []) (live := [26, 2, 1, 5, 6, 11, 12, 13, 14, 15, 16, 17, 18, 19, 20, 23, 24, 25, 27, 28, 29, 30, 7, 8]) (e' := [(26, .pointer (some ⟨b41, off42 + i * 1, none⟩)), (2, .pointer (some ⟨b4, 0, none⟩)), (1, .int .i64 (lsn : Nat)), (5, .slice B ((laidL lsn (byteS dt) (pages.take i)).length) cp), (6, .int .i64 (i : Nat)), (11, .int .i64 (i : Nat)), (12, .pointer (some ⟨b4, 0, none⟩)), (13, .slice A pages.length cap), (14, .int .i64 (pages.length : Nat)), (15, .bool true), (16, .bool true), (17, .slice B ((laidL lsn (byteS dt) (pages.take i)).length) cp), (18, .int .i64 ((laidL lsn (byteS dt) (pages.take i)).length : Nat)), (19, .bool true), (20, .bool true), (23, .pointer (some ⟨b4, 0, none⟩)), (24, .slice A pages.length cap), (25, .int .i64 (i : Nat)), (27, .int .i64 x39), (28, .int .u64 (IntKind.u64.wrap x39)), (29, .int .u64 ((IntKind.u64.wrap x39).tmod 5)), (30, .int .i64 (uMod x39 5 : Nat)), (7, .int .i64 (uMod x39 5 : Nat)), (8, .bool false)]) (vs := []) (obs := []) hF52 (by kernel_rfl) .nil ?_
      intro a53 hF54
      clear hF52
      refine ops_done ?_
      refine nrm_then ?_
      refine wp_seq ?_
      refine wp_seq ?_
      refine reg_text (l := [0]) (by kernel_rfl) ?_
      refine batch_spec (is := [0]) (rest := []) (live := [26, 2, 1, 5, 6, 11, 12, 13, 14, 15, 16, 17, 18, 19, 20, 23, 24, 25, 27, 28, 29, 30, 7, 8, 9]) (e' := [(26, .pointer (some ⟨b41, off42 + i * 1, none⟩)), (2, .pointer (some ⟨b4, 0, none⟩)), (1, .int .i64 (lsn : Nat)), (5, .slice B ((laidL lsn (byteS dt) (pages.take i)).length) cp), (6, .int .i64 (i : Nat)), (11, .int .i64 (i : Nat)), (12, .pointer (some ⟨b4, 0, none⟩)), (13, .slice A pages.length cap), (14, .int .i64 (pages.length : Nat)), (15, .bool true), (16, .bool true), (17, .slice B ((laidL lsn (byteS dt) (pages.take i)).length) cp), (18, .int .i64 ((laidL lsn (byteS dt) (pages.take i)).length : Nat)), (19, .bool true), (20, .bool true), (23, .pointer (some ⟨b4, 0, none⟩)), (24, .slice A pages.length cap), (25, .int .i64 (i : Nat)), (27, .int .i64 x39), (28, .int .u64 (IntKind.u64.wrap x39)), (29, .int .u64 ((IntKind.u64.wrap x39).tmod 5)), (30, .int .i64 (uMod x39 5 : Nat)), (7, .int .i64 (uMod x39 5 : Nat)), (8, .bool false), (9, .int .i64 0)]) (vs := []) (obs := []) hF54 (by kernel_rfl) .nil ?_
      intro a55 hF56
      clear hF54
      refine ops_done ?_
      refine nrm_then ?_
      refine wp_block ?_
      have hS57 : Sat w26 (raw b4 (.cells #[.slice A pages.length cap, .int .u8 dt] 38 (0, 0)) :: slA intT (.slice A pages.length cap) pages :: rowA leafT 43 B cp (laidL lsn (byteS dt) (pages.take i)) :: immC b41 (off42 + i * 1) [.int .i64 x39] :: L) := (Sat_at (Sat_at (Sat_at hS45 3 rfl rfl) 3 rfl rfl) 3 rfl rfl)
      refine loop_g (fun μ α ω => ∃ k : Nat, μ = (laidL lsn (byteS dt) (pages.take i)).length - k ∧ (k ≤ (laidL lsn (byteS dt) (pages.take i)).length) ∧ Fits α 61 [(2, .pointer (some ⟨b4, 0, none⟩)), (1, .int .i64 (lsn : Nat)), (5, .slice B ((laidL lsn (byteS dt) (pages.take i)).length) cp), (6, .int .i64 (i : Nat)), (7, .int .i64 (uMod x39 5 : Nat)), (8, .bool (((laidL lsn (byteS dt) (pages.take i)).take k).any (fun y => y.1 == uMod x39 5))), (9, .int .i64 (k : Nat))] ∧ Sat ω (raw b4 (.cells #[.slice A pages.length cap, .int .u8 dt] 38 (0, 0)) :: slA intT (.slice A pages.length cap) pages :: rowA leafT 43 B cp (laidL lsn (byteS dt) (pages.take i)) :: L)) _ ⟨0, rfl, (Nat.zero_le _), (Fits.restr (r := [(2, .pointer (some ⟨b4, 0, none⟩)), (1, .int .i64 (lsn : Nat)), (5, .slice B ((laidL lsn (byteS dt) (pages.take i)).length) cp), (6, .int .i64 (i : Nat)), (7, .int .i64 (uMod x39 5 : Nat)), (8, .bool false), (9, .int .i64 0)]) hF56 (ks := [2, 1, 5, 6, 7, 8, 9]) (by kernel_rfl)).cast (by rfl), ((Sat_at hS57 3 rfl rfl).drop)⟩ ?_
      rintro m58 a59 w60 ⟨k, rfl, hk, hF61, hS62⟩
      clear hF56
      clear hS28 hS44 hS45 hS57
      refine wp_seq ?_
      refine wp_seq ?_
      refine reg_text (l := [0, 1, 2, 3]) (by kernel_rfl) ?_
      refine batch_spec (is := [0, 1, 2, 3]) (rest := []) (live := [2, 1, 5, 6, 7, 8, 9, 31, 32, 33, 34]) (e' := [(2, .pointer (some ⟨b4, 0, none⟩)), (1, .int .i64 (lsn : Nat)), (5, .slice B ((laidL lsn (byteS dt) (pages.take i)).length) cp), (6, .int .i64 (i : Nat)), (7, .int .i64 (uMod x39 5 : Nat)), (8, .bool (((laidL lsn (byteS dt) (pages.take i)).take k).any (fun y => y.1 == uMod x39 5))), (9, .int .i64 (k : Nat)), (31, .int .i64 (k : Nat)), (32, .slice B ((laidL lsn (byteS dt) (pages.take i)).length) cp), (33, .int .i64 ((laidL lsn (byteS dt) (pages.take i)).length : Nat)), (34, .bool (decide (((k : Nat) : Int) < (((laidL lsn (byteS dt) (pages.take i)).length : Nat) : Int))))]) (vs := []) (obs := []) hF61 (by kernel_rfl) .nil ?_
      intro a63 hF64
      clear hF61
      refine ops_done ?_
      refine nrm_then ?_
      by_cases h65 : ((k : Nat) : Int) < (((laidL lsn (byteS dt) (pages.take i)).length : Nat) : Int)
      ·
        have hb66 : (decide (((k : Nat) : Int) < (((laidL lsn (byteS dt) (pages.take i)).length : Nat) : Int))) = true := decide_eq_true h65
        rw [hb66] at hF64
        refine cond_yes hF64 rfl ?_
        refine wp_skip ?_
        refine nrm_then ?_
        refine wp_seq ?_
        refine wp_block ?_
        refine reg_text (l := [0, 1, 2, 3, 4, 5, 6, 7, 8, 9, 10]) (by kernel_rfl) ?_
        refine batch_spec (is := [0, 1]) (rest := [2, 3, 4, 5, 6, 7, 8, 9, 10]) (live := [2, 1, 5, 6, 7, 8, 9, 31, 32, 33, 34, 37, 38]) (e' := [(2, .pointer (some ⟨b4, 0, none⟩)), (1, .int .i64 (lsn : Nat)), (5, .slice B ((laidL lsn (byteS dt) (pages.take i)).length) cp), (6, .int .i64 (i : Nat)), (7, .int .i64 (uMod x39 5 : Nat)), (8, .bool (((laidL lsn (byteS dt) (pages.take i)).take k).any (fun y => y.1 == uMod x39 5))), (9, .int .i64 (k : Nat)), (31, .int .i64 (k : Nat)), (32, .slice B ((laidL lsn (byteS dt) (pages.take i)).length) cp), (33, .int .i64 ((laidL lsn (byteS dt) (pages.take i)).length : Nat)), (34, .bool true), (37, .bool (((laidL lsn (byteS dt) (pages.take i)).take k).any (fun y => y.1 == uMod x39 5))), (38, .bool (((laidL lsn (byteS dt) (pages.take i)).take k).any (fun y => y.1 == uMod x39 5)))]) (vs := []) (obs := []) hF64 (by kernel_rfl) .nil ?_
        intro a67 hF68
        clear hF64
        by_cases h69 : ((laidL lsn (byteS dt) (pages.take i)).take k).any (fun y => y.1 == uMod x39 5) = true
        ·
          have hb70 : (((laidL lsn (byteS dt) (pages.take i)).take k).any (fun y => y.1 == uMod x39 5)) = true := by simp [h69]
          rw [hb70] at hF68
          refine batch_spec (is := [2, 3, 4, 5, 6, 7, 8, 9, 10]) (rest := []) (live := [2, 1, 5, 6, 7, 8, 9, 31, 32, 33, 34, 37, 38, 39, 40, 41, 42, 43, 44, 45, 46]) (e' := [(2, .pointer (some ⟨b4, 0, none⟩)), (1, .int .i64 (lsn : Nat)), (5, .slice B ((laidL lsn (byteS dt) (pages.take i)).length) cp), (6, .int .i64 (i : Nat)), (7, .int .i64 (uMod x39 5 : Nat)), (8, .bool true), (9, .int .i64 (k : Nat)), (31, .int .i64 (k : Nat)), (32, .slice B ((laidL lsn (byteS dt) (pages.take i)).length) cp), (33, .int .i64 ((laidL lsn (byteS dt) (pages.take i)).length : Nat)), (34, .bool true), (37, .bool true), (38, .bool true), (39, undef), (40, undef), (41, undef), (42, undef), (43, undef), (44, undef), (45, undef), (46, .bool true)]) (vs := []) (obs := []) hF68 (by kernel_rfl) .nil ?_
          intro a71 hF72
          clear hF68
          refine ops_done ?_
          refine nrm_block ?_
          refine nrm_then ?_
          refine reg_text (l := [0, 1, 2]) (by kernel_rfl) ?_
          refine batch_spec (is := [0, 1]) (rest := [2]) (live := [2, 1, 5, 6, 7, 8, 9, 31, 32, 33, 34, 37, 38, 39, 40, 41, 42, 43, 44, 45, 46, 35, 36]) (e' := [(2, .pointer (some ⟨b4, 0, none⟩)), (1, .int .i64 (lsn : Nat)), (5, .slice B ((laidL lsn (byteS dt) (pages.take i)).length) cp), (6, .int .i64 (i : Nat)), (7, .int .i64 (uMod x39 5 : Nat)), (8, .bool true), (9, .int .i64 (k : Nat)), (31, .int .i64 (k : Nat)), (32, .slice B ((laidL lsn (byteS dt) (pages.take i)).length) cp), (33, .int .i64 ((laidL lsn (byteS dt) (pages.take i)).length : Nat)), (34, .bool true), (37, .bool true), (38, .bool true), (39, undef), (40, undef), (41, undef), (42, undef), (43, undef), (44, undef), (45, undef), (46, .bool true), (35, .int .i64 (k : Nat)), (36, .int .i64 (IntKind.i64.wrap (((k : Nat) : Int) + 1)))]) (vs := []) (obs := []) hF72 (by kernel_rfl) .nil ?_
          intro a73 hF74
          clear hF72
          have hw75 : IntKind.i64.wrap (((k : Nat) : Int) + 1) = ((k + 1 : Nat) : Int) := by rw [wrap_i64 (by omega) (by omega)]; omega
          rw [hw75] at hF74
          refine batch_spec (is := [2]) (rest := []) (live := [2, 1, 5, 6, 7, 8, 9, 31, 32, 33, 34, 37, 38, 39, 40, 41, 42, 43, 44, 45, 46, 35, 36]) (e' := [(2, .pointer (some ⟨b4, 0, none⟩)), (1, .int .i64 (lsn : Nat)), (5, .slice B ((laidL lsn (byteS dt) (pages.take i)).length) cp), (6, .int .i64 (i : Nat)), (7, .int .i64 (uMod x39 5 : Nat)), (8, .bool true), (9, .int .i64 (k + 1 : Nat)), (31, .int .i64 (k : Nat)), (32, .slice B ((laidL lsn (byteS dt) (pages.take i)).length) cp), (33, .int .i64 ((laidL lsn (byteS dt) (pages.take i)).length : Nat)), (34, .bool true), (37, .bool true), (38, .bool true), (39, undef), (40, undef), (41, undef), (42, undef), (43, undef), (44, undef), (45, undef), (46, .bool true), (35, .int .i64 (k : Nat)), (36, .int .i64 (k + 1 : Nat))]) (vs := []) (obs := []) hF74 (by kernel_rfl) .nil ?_
          intro a76 hF77
          clear hF74
          refine ops_done ?_
          obtain ⟨x78, hx79⟩ : ∃ χ, (laidL lsn (byteS dt) (pages.take i))[k]? = some χ := ⟨_, List.getElem?_eq_getElem (by omega)⟩
          refine nrm_then ⟨_, ?_, k + 1, rfl, (by omega), (Fits.restr (r := [(2, .pointer (some ⟨b4, 0, none⟩)), (1, .int .i64 (lsn : Nat)), (5, .slice B ((laidL lsn (byteS dt) (pages.take i)).length) cp), (6, .int .i64 (i : Nat)), (7, .int .i64 (uMod x39 5 : Nat)), (8, .bool true), (9, .int .i64 (k + 1 : Nat))]) hF77 (ks := [2, 1, 5, 6, 7, 8, 9]) (by kernel_rfl)).cast (by rw [any_succ hx79, hb70, Bool.true_or]), hS62⟩
          omega
        ·
          have hb80 : (((laidL lsn (byteS dt) (pages.take i)).take k).any (fun y => y.1 == uMod x39 5)) = false := by simp [h69]
          rw [hb80] at hF68
          refine batch_spec (is := [2, 3]) (rest := [4, 5, 6, 7, 8, 9, 10]) (live := [2, 1, 5, 6, 7, 8, 9, 31, 32, 33, 34, 37, 38, 39, 40]) (e' := [(2, .pointer (some ⟨b4, 0, none⟩)), (1, .int .i64 (lsn : Nat)), (5, .slice B ((laidL lsn (byteS dt) (pages.take i)).length) cp), (6, .int .i64 (i : Nat)), (7, .int .i64 (uMod x39 5 : Nat)), (8, .bool false), (9, .int .i64 (k : Nat)), (31, .int .i64 (k : Nat)), (32, .slice B ((laidL lsn (byteS dt) (pages.take i)).length) cp), (33, .int .i64 ((laidL lsn (byteS dt) (pages.take i)).length : Nat)), (34, .bool true), (37, .bool false), (38, .bool false), (39, .slice B ((laidL lsn (byteS dt) (pages.take i)).length) cp), (40, .int .i64 (k : Nat))]) (vs := []) (obs := []) hF68 (by kernel_rfl) .nil ?_
          intro a81 hF82
          clear hF68
          refine ops_next ?_
          obtain ⟨b83, heq84⟩ := row_addr (k := k) hS62 2 rfl (by omega)
          obtain ⟨x85, hx86⟩ : ∃ χ, (laidL lsn (byteS dt) (pages.take i))[k]? = some χ := ⟨_, List.getElem?_eq_getElem (by omega)⟩
          obtain ⟨B87, cp88, hc89, hc90, hc91, hS92⟩ := leaf_row heq84 hS62 2 rfl hx86
          have hS93 : Sat w60 (slA slotT (.slice B87 x85.2.2.length cp88) x85.2.2 :: raw b4 (.cells #[.slice A pages.length cap, .int .u8 dt] 38 (0, 0)) :: slA intT (.slice A pages.length cap) pages :: rowA leafT 43 B cp (laidL lsn (byteS dt) (pages.take i)) :: L) := hS92
          refine op_value (u := .pointer (some ⟨b83, 0 + k * 3, none⟩)) (v := .indexAddr 35 (.slice B ((laidL lsn (byteS dt) (pages.take i)).length) cp) (.int .i64 (k : Nat))) (e' := [(41, .pointer (some ⟨b83, 0 + k * 3, none⟩)), (2, .pointer (some ⟨b4, 0, none⟩)), (1, .int .i64 (lsn : Nat)), (5, .slice B ((laidL lsn (byteS dt) (pages.take i)).length) cp), (6, .int .i64 (i : Nat)), (7, .int .i64 (uMod x39 5 : Nat)), (8, .bool false), (9, .int .i64 (k : Nat)), (31, .int .i64 (k : Nat)), (32, .slice B ((laidL lsn (byteS dt) (pages.take i)).length) cp), (33, .int .i64 ((laidL lsn (byteS dt) (pages.take i)).length : Nat)), (34, .bool true), (37, .bool false), (38, .bool false), (39, .slice B ((laidL lsn (byteS dt) (pages.take i)).length) cp), (40, .int .i64 (k : Nat))]) hF82 (by kernel_rfl) (.value ((run_indexAddrA (el := 43) (sz := 3) (off := 0) (k := k) heq84 Tryd.underlying35 (by kernel_rfl) (by rfl) (by omega)) _)) ?_
          intro a94 hF95
          clear hF82
          refine batch_spec (is := [5, 6, 7, 8, 9, 10]) (rest := []) (live := [41, 2, 1, 5, 6, 7, 8, 9, 31, 32, 33, 34, 37, 38, 39, 40, 42, 43, 44, 45, 46]) (e' := [(41, .pointer (some ⟨b83, 0 + k * 3, none⟩)), (2, .pointer (some ⟨b4, 0, none⟩)), (1, .int .i64 (lsn : Nat)), (5, .slice B ((laidL lsn (byteS dt) (pages.take i)).length) cp), (6, .int .i64 (i : Nat)), (7, .int .i64 (uMod x39 5 : Nat)), (8, .bool (((x85.1 : Nat) : Int) == ((uMod x39 5 : Nat) : Int))), (9, .int .i64 (k : Nat)), (31, .int .i64 (k : Nat)), (32, .slice B ((laidL lsn (byteS dt) (pages.take i)).length) cp), (33, .int .i64 ((laidL lsn (byteS dt) (pages.take i)).length : Nat)), (34, .bool true), (37, .bool false), (38, .bool false), (39, .slice B ((laidL lsn (byteS dt) (pages.take i)).length) cp), (40, .int .i64 (k : Nat)), (42, .pointer (some ⟨b83, 0 + k * 3, none⟩)), (43, .int .i64 (x85.1 : Nat)), (44, .int .i64 (uMod x39 5 : Nat)), (45, .bool (((x85.1 : Nat) : Int) == ((uMod x39 5 : Nat) : Int))), (46, .bool (((x85.1 : Nat) : Int) == ((uMod x39 5 : Nat) : Int)))]) (vs := [.int .i64 (x85.1 : Nat)]) (obs := [(⟨b83, 0 + k * 3, none⟩, .int .i64 (x85.1 : Nat))]) hF95 (by kernel_rfl) (.cons hc89 .nil) ?_
          intro a96 hF97
          clear hF95
          refine ops_done ?_
          refine nrm_block ?_
          refine nrm_then ?_
          refine reg_text (l := [0, 1, 2]) (by kernel_rfl) ?_
          refine batch_spec (is := [0, 1]) (rest := [2]) (live := [41, 2, 1, 5, 6, 7, 8, 9, 31, 32, 33, 34, 37, 38, 39, 40, 42, 43, 44, 45, 46, 35, 36]) (e' := [(41, .pointer (some ⟨b83, 0 + k * 3, none⟩)), (2, .pointer (some ⟨b4, 0, none⟩)), (1, .int .i64 (lsn : Nat)), (5, .slice B ((laidL lsn (byteS dt) (pages.take i)).length) cp), (6, .int .i64 (i : Nat)), (7, .int .i64 (uMod x39 5 : Nat)), (8, .bool (((x85.1 : Nat) : Int) == ((uMod x39 5 : Nat) : Int))), (9, .int .i64 (k : Nat)), (31, .int .i64 (k : Nat)), (32, .slice B ((laidL lsn (byteS dt) (pages.take i)).length) cp), (33, .int .i64 ((laidL lsn (byteS dt) (pages.take i)).length : Nat)), (34, .bool true), (37, .bool false), (38, .bool false), (39, .slice B ((laidL lsn (byteS dt) (pages.take i)).length) cp), (40, .int .i64 (k : Nat)), (42, .pointer (some ⟨b83, 0 + k * 3, none⟩)), (43, .int .i64 (x85.1 : Nat)), (44, .int .i64 (uMod x39 5 : Nat)), (45, .bool (((x85.1 : Nat) : Int) == ((uMod x39 5 : Nat) : Int))), (46, .bool (((x85.1 : Nat) : Int) == ((uMod x39 5 : Nat) : Int))), (35, .int .i64 (k : Nat)), (36, .int .i64 (IntKind.i64.wrap (((k : Nat) : Int) + 1)))]) (vs := []) (obs := []) hF97 (by kernel_rfl) .nil ?_
          intro a98 hF99
          clear hF97
          have hw100 : IntKind.i64.wrap (((k : Nat) : Int) + 1) = ((k + 1 : Nat) : Int) := by rw [wrap_i64 (by omega) (by omega)]; omega
          rw [hw100] at hF99
          refine batch_spec (is := [2]) (rest := []) (live := [41, 2, 1, 5, 6, 7, 8, 9, 31, 32, 33, 34, 37, 38, 39, 40, 42, 43, 44, 45, 46, 35, 36]) (e' := [(41, .pointer (some ⟨b83, 0 + k * 3, none⟩)), (2, .pointer (some ⟨b4, 0, none⟩)), (1, .int .i64 (lsn : Nat)), (5, .slice B ((laidL lsn (byteS dt) (pages.take i)).length) cp), (6, .int .i64 (i : Nat)), (7, .int .i64 (uMod x39 5 : Nat)), (8, .bool (((x85.1 : Nat) : Int) == ((uMod x39 5 : Nat) : Int))), (9, .int .i64 (k + 1 : Nat)), (31, .int .i64 (k : Nat)), (32, .slice B ((laidL lsn (byteS dt) (pages.take i)).length) cp), (33, .int .i64 ((laidL lsn (byteS dt) (pages.take i)).length : Nat)), (34, .bool true), (37, .bool false), (38, .bool false), (39, .slice B ((laidL lsn (byteS dt) (pages.take i)).length) cp), (40, .int .i64 (k : Nat)), (42, .pointer (some ⟨b83, 0 + k * 3, none⟩)), (43, .int .i64 (x85.1 : Nat)), (44, .int .i64 (uMod x39 5 : Nat)), (45, .bool (((x85.1 : Nat) : Int) == ((uMod x39 5 : Nat) : Int))), (46, .bool (((x85.1 : Nat) : Int) == ((uMod x39 5 : Nat) : Int))), (35, .int .i64 (k : Nat)), (36, .int .i64 (k + 1 : Nat))]) (vs := []) (obs := []) hF99 (by kernel_rfl) .nil ?_
          intro a101 hF102
          clear hF99
          refine ops_done ?_
          have hS103 : Sat w60 (raw b4 (.cells #[.slice A pages.length cap, .int .u8 dt] 38 (0, 0)) :: slA intT (.slice A pages.length cap) pages :: rowA leafT 43 B cp (laidL lsn (byteS dt) (pages.take i)) :: slA slotT (.slice B87 x85.2.2.length cp88) x85.2.2 :: L) := (Sat_at (Sat_at (Sat_at hS93 3 rfl rfl) 3 rfl rfl) 3 rfl rfl)
          refine nrm_then ⟨_, ?_, k + 1, rfl, (by omega), (Fits.restr (r := [(2, .pointer (some ⟨b4, 0, none⟩)), (1, .int .i64 (lsn : Nat)), (5, .slice B ((laidL lsn (byteS dt) (pages.take i)).length) cp), (6, .int .i64 (i : Nat)), (7, .int .i64 (uMod x39 5 : Nat)), (8, .bool (((x85.1 : Nat) : Int) == ((uMod x39 5 : Nat) : Int))), (9, .int .i64 (k + 1 : Nat))]) hF102 (ks := [2, 1, 5, 6, 7, 8, 9]) (by kernel_rfl)).cast (by rw [any_succ hx86, hb80, beq_cast, Bool.false_or]), (Sat_at hS103 3 rfl rfl).drop⟩
          omega
      ·
        have hb104 : (decide (((k : Nat) : Int) < (((laidL lsn (byteS dt) (pages.take i)).length : Nat) : Int))) = false := decide_eq_false h65
        rw [hb104] at hF64
        refine cond_no hF64 rfl ?_
        refine wp_exit ?_
        refine exit_then ?_
        refine exit_then ?_
        refine exit_block ?_
        refine nrm_then ?_
        refine wp_seq ?_
        have hany105 : (((laidL lsn (byteS dt) (pages.take i)).take k).any (fun y => y.1 == uMod x39 5)) = (laidL lsn (byteS dt) (pages.take i)).any (fun y => y.1 == uMod x39 5) := by rw [List.take_of_length_le (by omega)]
        rw [hany105] at hF64
        refine reg_text (l := [0, 1]) (by kernel_rfl) ?_
        refine batch_spec (is := [0, 1]) (rest := []) (live := [2, 1, 5, 6, 7, 8, 9, 31, 32, 33, 34, 47, 48]) (e' := [(2, .pointer (some ⟨b4, 0, none⟩)), (1, .int .i64 (lsn : Nat)), (5, .slice B ((laidL lsn (byteS dt) (pages.take i)).length) cp), (6, .int .i64 (i : Nat)), (7, .int .i64 (uMod x39 5 : Nat)), (8, .bool ((laidL lsn (byteS dt) (pages.take i)).any (fun y => y.1 == uMod x39 5))), (9, .int .i64 (k : Nat)), (31, .int .i64 (k : Nat)), (32, .slice B ((laidL lsn (byteS dt) (pages.take i)).length) cp), (33, .int .i64 ((laidL lsn (byteS dt) (pages.take i)).length : Nat)), (34, .bool false), (47, .bool ((laidL lsn (byteS dt) (pages.take i)).any (fun y => y.1 == uMod x39 5))), (48, .bool (!((laidL lsn (byteS dt) (pages.take i)).any (fun y => y.1 == uMod x39 5))))]) (vs := []) (obs := []) hF64 (by kernel_rfl) .nil ?_
        intro a106 hF107
        clear hF64
        refine ops_done ?_
        refine nrm_then ?_
        by_cases h108 : (laidL lsn (byteS dt) (pages.take i)).any (fun y => y.1 == uMod x39 5) = true
        ·
          have hb109 : (!((laidL lsn (byteS dt) (pages.take i)).any (fun y => y.1 == uMod x39 5))) = false := by simp [h108]
          rw [hb109] at hF107
          refine cond_no hF107 rfl ?_
          refine wp_skip ?_
          refine nrm_block ?_
          refine nrm_then ?_
          refine reg_text (l := [0, 1, 2]) (by kernel_rfl) ?_
          refine batch_spec (is := [0, 1]) (rest := [2]) (live := [2, 1, 5, 6, 7, 8, 9, 31, 32, 33, 34, 47, 48, 21, 22]) (e' := [(2, .pointer (some ⟨b4, 0, none⟩)), (1, .int .i64 (lsn : Nat)), (5, .slice B ((laidL lsn (byteS dt) (pages.take i)).length) cp), (6, .int .i64 (i : Nat)), (7, .int .i64 (uMod x39 5 : Nat)), (8, .bool ((laidL lsn (byteS dt) (pages.take i)).any (fun y => y.1 == uMod x39 5))), (9, .int .i64 (k : Nat)), (31, .int .i64 (k : Nat)), (32, .slice B ((laidL lsn (byteS dt) (pages.take i)).length) cp), (33, .int .i64 ((laidL lsn (byteS dt) (pages.take i)).length : Nat)), (34, .bool false), (47, .bool ((laidL lsn (byteS dt) (pages.take i)).any (fun y => y.1 == uMod x39 5))), (48, .bool false), (21, .int .i64 (i : Nat)), (22, .int .i64 (IntKind.i64.wrap (((i : Nat) : Int) + 1)))]) (vs := []) (obs := []) hF107 (by kernel_rfl) .nil ?_
          intro a110 hF111
          clear hF107
          have hw112 : IntKind.i64.wrap (((i : Nat) : Int) + 1) = ((i + 1 : Nat) : Int) := by rw [wrap_i64 (by omega) (by omega)]; omega
          rw [hw112] at hF111
          refine batch_spec (is := [2]) (rest := []) (live := [2, 1, 5, 6, 7, 8, 9, 31, 32, 33, 34, 47, 48, 21, 22]) (e' := [(2, .pointer (some ⟨b4, 0, none⟩)), (1, .int .i64 (lsn : Nat)), (5, .slice B ((laidL lsn (byteS dt) (pages.take i)).length) cp), (6, .int .i64 (i + 1 : Nat)), (7, .int .i64 (uMod x39 5 : Nat)), (8, .bool ((laidL lsn (byteS dt) (pages.take i)).any (fun y => y.1 == uMod x39 5))), (9, .int .i64 (k : Nat)), (31, .int .i64 (k : Nat)), (32, .slice B ((laidL lsn (byteS dt) (pages.take i)).length) cp), (33, .int .i64 ((laidL lsn (byteS dt) (pages.take i)).length : Nat)), (34, .bool false), (47, .bool ((laidL lsn (byteS dt) (pages.take i)).any (fun y => y.1 == uMod x39 5))), (48, .bool false), (21, .int .i64 (i : Nat)), (22, .int .i64 (i + 1 : Nat))]) (vs := []) (obs := []) hF111 (by kernel_rfl) .nil ?_
          intro a113 hF114
          clear hF111
          refine ops_done ?_
          refine nrm_then ⟨_, ?_, i + 1, B, cp, rfl, (by omega), (Fits.restr (r := [(2, .pointer (some ⟨b4, 0, none⟩)), (1, .int .i64 (lsn : Nat)), (5, .slice B ((laidL lsn (byteS dt) (pages.take i)).length) cp), (6, .int .i64 (i + 1 : Nat))]) hF114 (ks := [2, 1, 5, 6]) (by kernel_rfl)).cast (by rw [laid_same hx40 h108]), (by rw [laid_same hx40 h108]; exact hS62)⟩
          omega
        ·
          have hb115 : (!((laidL lsn (byteS dt) (pages.take i)).any (fun y => y.1 == uMod x39 5))) = true := by simp [h108]
          rw [hb115] at hF107
          refine cond_yes hF107 rfl ?_
          refine reg_text (l := [0, 1, 2, 3, 4, 5, 6, 7, 8, 9, 10, 11]) (by kernel_rfl) ?_
          refine batch_spec (is := [0, 1, 2, 3, 4]) (rest := [5, 6, 7, 8, 9, 10, 11]) (live := [2, 1, 5, 6, 7, 8, 9, 31, 32, 33, 34, 47, 48, 49, 50, 51, 52, 53]) (e' := [(2, .pointer (some ⟨b4, 0, none⟩)), (1, .int .i64 (lsn : Nat)), (5, .slice B ((laidL lsn (byteS dt) (pages.take i)).length) cp), (6, .int .i64 (i : Nat)), (7, .int .i64 (uMod x39 5 : Nat)), (8, .bool ((laidL lsn (byteS dt) (pages.take i)).any (fun y => y.1 == uMod x39 5))), (9, .int .i64 (k : Nat)), (31, .int .i64 (k : Nat)), (32, .slice B ((laidL lsn (byteS dt) (pages.take i)).length) cp), (33, .int .i64 ((laidL lsn (byteS dt) (pages.take i)).length : Nat)), (34, .bool false), (47, .bool ((laidL lsn (byteS dt) (pages.take i)).any (fun y => y.1 == uMod x39 5))), (48, .bool true), (49, .slice B ((laidL lsn (byteS dt) (pages.take i)).length) cp), (50, .int .i64 (uMod x39 5 : Nat)), (51, .int .i64 (lsn : Nat)), (52, .pointer (some ⟨b4, 1, none⟩)), (53, .int .u8 dt)]) (vs := [.int .u8 dt]) (obs := [(⟨b4, 1, none⟩, .int .u8 dt)]) hF107 (by kernel_rfl) (.cons (ob hS62 0 rfl rfl) .nil) ?_
          intro a116 hF117
          clear hF107
          refine ops_next ?_
          obtain ⟨b118, w119, hr120, hS121⟩ := comes_new (P := Tryd.prog) (v := .buildSlice 63 1 #[(0, .int .u8 dt)]) (u := fun b => .slice (some ⟨b, 0, none⟩) 1 1) (o := .cells #[.int .u8 dt] 5 (0, 0)) hS62 (fun w => by kernel_rfl)
          refine op_value (u := .slice (some ⟨b118, 0, none⟩) 1 1) (e' := [(54, .slice (some ⟨b118, 0, none⟩) 1 1), (2, .pointer (some ⟨b4, 0, none⟩)), (1, .int .i64 (lsn : Nat)), (5, .slice B ((laidL lsn (byteS dt) (pages.take i)).length) cp), (6, .int .i64 (i : Nat)), (7, .int .i64 (uMod x39 5 : Nat)), (8, .bool ((laidL lsn (byteS dt) (pages.take i)).any (fun y => y.1 == uMod x39 5))), (9, .int .i64 (k : Nat)), (31, .int .i64 (k : Nat)), (32, .slice B ((laidL lsn (byteS dt) (pages.take i)).length) cp), (33, .int .i64 ((laidL lsn (byteS dt) (pages.take i)).length : Nat)), (34, .bool false), (47, .bool ((laidL lsn (byteS dt) (pages.take i)).any (fun y => y.1 == uMod x39 5))), (48, .bool true), (49, .slice B ((laidL lsn (byteS dt) (pages.take i)).length) cp), (50, .int .i64 (uMod x39 5 : Nat)), (51, .int .i64 (lsn : Nat)), (52, .pointer (some ⟨b4, 1, none⟩)), (53, .int .u8 dt)]) hF117 (by kernel_rfl) hr120 ?_
          intro a122 hF123
          clear hF117 hr120
          clear hS62
          refine batch_spec (is := [6]) (rest := [7, 8, 9, 10, 11]) (live := [54, 2, 1, 5, 6, 7, 8, 9, 31, 32, 33, 34, 47, 48, 49, 50, 51, 52, 53, 55]) (e' := [(54, .slice (some ⟨b118, 0, none⟩) 1 1), (2, .pointer (some ⟨b4, 0, none⟩)), (1, .int .i64 (lsn : Nat)), (5, .slice B ((laidL lsn (byteS dt) (pages.take i)).length) cp), (6, .int .i64 (i : Nat)), (7, .int .i64 (uMod x39 5 : Nat)), (8, .bool ((laidL lsn (byteS dt) (pages.take i)).any (fun y => y.1 == uMod x39 5))), (9, .int .i64 (k : Nat)), (31, .int .i64 (k : Nat)), (32, .slice B ((laidL lsn (byteS dt) (pages.take i)).length) cp), (33, .int .i64 ((laidL lsn (byteS dt) (pages.take i)).length : Nat)), (34, .bool false), (47, .bool ((laidL lsn (byteS dt) (pages.take i)).any (fun y => y.1 == uMod x39 5))), (48, .bool true), (49, .slice B ((laidL lsn (byteS dt) (pages.take i)).length) cp), (50, .int .i64 (uMod x39 5 : Nat)), (51, .int .i64 (lsn : Nat)), (52, .pointer (some ⟨b4, 1, none⟩)), (53, .int .u8 dt), (55, .string ⟨#[UInt8.ofNat (dt).toNat]⟩)]) (vs := [.int .u8 dt]) (obs := [(⟨b118, 0, none⟩, .int .u8 dt)]) hF123 (by kernel_rfl) (.cons (ob hS121 0 rfl rfl) .nil) ?_
          intro a124 hF125
          clear hF123
          refine ops_next ?_
          refine op_call (fn := 14) (first := #[]) (cap := #[]) (args := #[.int .i64 (lsn : Nat), .string ⟨#[UInt8.ofNat (dt).toNat]⟩]) (all := #[.int .i64 (lsn : Nat), .string ⟨#[UInt8.ofNat (dt).toNat]⟩]) (pe := fun u => [(56, u), (54, .slice (some ⟨b118, 0, none⟩) 1 1), (2, .pointer (some ⟨b4, 0, none⟩)), (1, .int .i64 (lsn : Nat)), (5, .slice B ((laidL lsn (byteS dt) (pages.take i)).length) cp), (6, .int .i64 (i : Nat)), (7, .int .i64 (uMod x39 5 : Nat)), (8, .bool ((laidL lsn (byteS dt) (pages.take i)).any (fun y => y.1 == uMod x39 5))), (9, .int .i64 (k : Nat)), (31, .int .i64 (k : Nat)), (32, .slice B ((laidL lsn (byteS dt) (pages.take i)).length) cp), (33, .int .i64 ((laidL lsn (byteS dt) (pages.take i)).length : Nat)), (34, .bool false), (47, .bool ((laidL lsn (byteS dt) (pages.take i)).any (fun y => y.1 == uMod x39 5))), (48, .bool true), (49, .slice B ((laidL lsn (byteS dt) (pages.take i)).length) cp), (50, .int .i64 (uMod x39 5 : Nat)), (51, .int .i64 (lsn : Nat)), (52, .pointer (some ⟨b4, 1, none⟩)), (53, .int .u8 dt), (55, .string ⟨#[UInt8.ofNat (dt).toNat]⟩)]) hF125 (fun u => by kernel_rfl) (by kernel_rfl) (by kernel_rfl) (image_c (v := lsn) hS121) ?_
          rintro u w130 a128 ⟨B126, cp127, rfl, hS131⟩ hF129
          clear hF125
          clear hS121
          have hS132 : Sat w130 (slA slotT (.slice B126 1 cp127) [(⟨true, ⟨#[UInt8.ofNat (dt).toNat]⟩⟩ : Slot)] :: raw b118 (.cells #[.int .u8 dt] 5 (0, 0)) :: raw b4 (.cells #[.slice A pages.length cap, .int .u8 dt] 38 (0, 0)) :: slA intT (.slice A pages.length cap) pages :: rowA leafT 43 B cp (laidL lsn (byteS dt) (pages.take i)) :: L) := hS131
          refine batch_spec (is := [8]) (rest := [9, 10, 11]) (live := [56, 54, 2, 1, 5, 6, 7, 8, 9, 31, 32, 33, 34, 47, 48, 49, 50, 51, 52, 53, 55, 57]) (e' := [(56, .agg #[.int .i64 (lsn : Nat), .slice B126 1 cp127]), (54, .slice (some ⟨b118, 0, none⟩) 1 1), (2, .pointer (some ⟨b4, 0, none⟩)), (1, .int .i64 (lsn : Nat)), (5, .slice B ((laidL lsn (byteS dt) (pages.take i)).length) cp), (6, .int .i64 (i : Nat)), (7, .int .i64 (uMod x39 5 : Nat)), (8, .bool ((laidL lsn (byteS dt) (pages.take i)).any (fun y => y.1 == uMod x39 5))), (9, .int .i64 (k : Nat)), (31, .int .i64 (k : Nat)), (32, .slice B ((laidL lsn (byteS dt) (pages.take i)).length) cp), (33, .int .i64 ((laidL lsn (byteS dt) (pages.take i)).length : Nat)), (34, .bool false), (47, .bool ((laidL lsn (byteS dt) (pages.take i)).any (fun y => y.1 == uMod x39 5))), (48, .bool true), (49, .slice B ((laidL lsn (byteS dt) (pages.take i)).length) cp), (50, .int .i64 (uMod x39 5 : Nat)), (51, .int .i64 (lsn : Nat)), (52, .pointer (some ⟨b4, 1, none⟩)), (53, .int .u8 dt), (55, .string ⟨#[UInt8.ofNat (dt).toNat]⟩), (57, .agg #[.int .i64 (uMod x39 5 : Nat), .int .i64 (lsn : Nat), .slice B126 1 cp127])]) (vs := []) (obs := []) hF129 (by kernel_rfl) .nil ?_
          intro a133 hF134
          clear hF129
          refine ops_next ?_
          obtain ⟨b135, w136, hr137, hS138⟩ := comes_new (P := Tryd.prog) (v := .buildSlice 35 1 #[(0, .agg #[.int .i64 (uMod x39 5 : Nat), .int .i64 (lsn : Nat), .slice B126 1 cp127])]) (u := fun b => .slice (some ⟨b, 0, none⟩) 1 1) (o := .cells #[.int .i64 (uMod x39 5 : Nat), .int .i64 (lsn : Nat), .slice B126 1 cp127] 43 (0, 0)) hS132 (fun w => by kernel_rfl)
          refine op_value (u := .slice (some ⟨b135, 0, none⟩) 1 1) (e' := [(58, .slice (some ⟨b135, 0, none⟩) 1 1), (56, .agg #[.int .i64 (lsn : Nat), .slice B126 1 cp127]), (54, .slice (some ⟨b118, 0, none⟩) 1 1), (2, .pointer (some ⟨b4, 0, none⟩)), (1, .int .i64 (lsn : Nat)), (5, .slice B ((laidL lsn (byteS dt) (pages.take i)).length) cp), (6, .int .i64 (i : Nat)), (7, .int .i64 (uMod x39 5 : Nat)), (8, .bool ((laidL lsn (byteS dt) (pages.take i)).any (fun y => y.1 == uMod x39 5))), (9, .int .i64 (k : Nat)), (31, .int .i64 (k : Nat)), (32, .slice B ((laidL lsn (byteS dt) (pages.take i)).length) cp), (33, .int .i64 ((laidL lsn (byteS dt) (pages.take i)).length : Nat)), (34, .bool false), (47, .bool ((laidL lsn (byteS dt) (pages.take i)).any (fun y => y.1 == uMod x39 5))), (48, .bool true), (49, .slice B ((laidL lsn (byteS dt) (pages.take i)).length) cp), (50, .int .i64 (uMod x39 5 : Nat)), (51, .int .i64 (lsn : Nat)), (52, .pointer (some ⟨b4, 1, none⟩)), (53, .int .u8 dt), (55, .string ⟨#[UInt8.ofNat (dt).toNat]⟩), (57, .agg #[.int .i64 (uMod x39 5 : Nat), .int .i64 (lsn : Nat), .slice B126 1 cp127])]) hF134 (by kernel_rfl) hr137 ?_
          intro a139 hF140
          clear hF134 hr137
          clear hS131 hS132
          refine ops_next ?_
          obtain ⟨B144, cap145, w141, hr142, hS143⟩ := comes_append (P := Tryd.prog) (T := leafT) (c := 40) (z := .agg #[.int .i64 0, .int .i64 0, .slice none 0 0]) (t' := 35) (ty := 35) (cs := #[false, false]) (n := (laidL lsn (byteS dt) (pages.take i)).length) (m := 1) (xs := [((uMod x39 5, lsn, [(⟨true, ⟨#[UInt8.ofNat (dt).toNat]⟩⟩ : Slot)]) : LeafM)]) (cc := 1) hS138 5 rfl rfl 0 rfl (fun h => Sat_out 1 h rfl (fun g hg => Cells.single ⟨_, rfl, hg⟩)) rfl rfl Tryd.underlying35 (by kernel_rfl) rfl (by unfold maxLen; omega) (by omega)
          refine op_value (u := .slice B144 ((laidL lsn (byteS dt) (pages.take i)).length + 1) cap145) (e' := [(59, .slice B144 ((laidL lsn (byteS dt) (pages.take i)).length + 1) cap145), (58, .slice (some ⟨b135, 0, none⟩) 1 1), (56, .agg #[.int .i64 (lsn : Nat), .slice B126 1 cp127]), (54, .slice (some ⟨b118, 0, none⟩) 1 1), (2, .pointer (some ⟨b4, 0, none⟩)), (1, .int .i64 (lsn : Nat)), (5, .slice B ((laidL lsn (byteS dt) (pages.take i)).length) cp), (6, .int .i64 (i : Nat)), (7, .int .i64 (uMod x39 5 : Nat)), (8, .bool ((laidL lsn (byteS dt) (pages.take i)).any (fun y => y.1 == uMod x39 5))), (9, .int .i64 (k : Nat)), (31, .int .i64 (k : Nat)), (32, .slice B ((laidL lsn (byteS dt) (pages.take i)).length) cp), (33, .int .i64 ((laidL lsn (byteS dt) (pages.take i)).length : Nat)), (34, .bool false), (47, .bool ((laidL lsn (byteS dt) (pages.take i)).any (fun y => y.1 == uMod x39 5))), (48, .bool true), (49, .slice B ((laidL lsn (byteS dt) (pages.take i)).length) cp), (50, .int .i64 (uMod x39 5 : Nat)), (51, .int .i64 (lsn : Nat)), (52, .pointer (some ⟨b4, 1, none⟩)), (53, .int .u8 dt), (55, .string ⟨#[UInt8.ofNat (dt).toNat]⟩), (57, .agg #[.int .i64 (uMod x39 5 : Nat), .int .i64 (lsn : Nat), .slice B126 1 cp127])]) hF140 (by kernel_rfl) hr142 ?_
          intro a146 hF147
          clear hF140 hr142
          clear hS138
          have hS148 : Sat w141 (rowA leafT 43 B144 cap145 ((laidL lsn (byteS dt) (pages.take i)) ++ [((uMod x39 5, lsn, [(⟨true, ⟨#[UInt8.ofNat (dt).toNat]⟩⟩ : Slot)]) : LeafM)]) :: raw b135 (.cells #[.int .i64 (uMod x39 5 : Nat), .int .i64 (lsn : Nat), .slice B126 1 cp127] 43 (0, 0)) :: slA slotT (.slice B126 1 cp127) [(⟨true, ⟨#[UInt8.ofNat (dt).toNat]⟩⟩ : Slot)] :: raw b118 (.cells #[.int .u8 dt] 5 (0, 0)) :: raw b4 (.cells #[.slice A pages.length cap, .int .u8 dt] 38 (0, 0)) :: slA intT (.slice A pages.length cap) pages :: L) := hS143
          refine batch_spec (is := [11]) (rest := []) (live := [59, 58, 56, 54, 2, 1, 5, 6, 7, 8, 9, 31, 32, 33, 34, 47, 48, 49, 50, 51, 52, 53, 55, 57]) (e' := [(59, .slice B144 ((laidL lsn (byteS dt) (pages.take i)).length + 1) cap145), (58, .slice (some ⟨b135, 0, none⟩) 1 1), (56, .agg #[.int .i64 (lsn : Nat), .slice B126 1 cp127]), (54, .slice (some ⟨b118, 0, none⟩) 1 1), (2, .pointer (some ⟨b4, 0, none⟩)), (1, .int .i64 (lsn : Nat)), (5, .slice B144 ((laidL lsn (byteS dt) (pages.take i)).length + 1) cap145), (6, .int .i64 (i : Nat)), (7, .int .i64 (uMod x39 5 : Nat)), (8, .bool ((laidL lsn (byteS dt) (pages.take i)).any (fun y => y.1 == uMod x39 5))), (9, .int .i64 (k : Nat)), (31, .int .i64 (k : Nat)), (32, .slice B ((laidL lsn (byteS dt) (pages.take i)).length) cp), (33, .int .i64 ((laidL lsn (byteS dt) (pages.take i)).length : Nat)), (34, .bool false), (47, .bool ((laidL lsn (byteS dt) (pages.take i)).any (fun y => y.1 == uMod x39 5))), (48, .bool true), (49, .slice B ((laidL lsn (byteS dt) (pages.take i)).length) cp), (50, .int .i64 (uMod x39 5 : Nat)), (51, .int .i64 (lsn : Nat)), (52, .pointer (some ⟨b4, 1, none⟩)), (53, .int .u8 dt), (55, .string ⟨#[UInt8.ofNat (dt).toNat]⟩), (57, .agg #[.int .i64 (uMod x39 5 : Nat), .int .i64 (lsn : Nat), .slice B126 1 cp127])]) (vs := []) (obs := []) hF147 (by kernel_rfl) .nil ?_
          intro a149 hF150
          clear hF147
          refine ops_done ?_
          refine nrm_block ?_
          refine nrm_then ?_
          refine reg_text (l := [0, 1, 2]) (by kernel_rfl) ?_
          refine batch_spec (is := [0, 1]) (rest := [2]) (live := [59, 58, 56, 54, 2, 1, 5, 6, 7, 8, 9, 31, 32, 33, 34, 47, 48, 49, 50, 51, 52, 53, 55, 57, 21, 22]) (e' := [(59, .slice B144 ((laidL lsn (byteS dt) (pages.take i)).length + 1) cap145), (58, .slice (some ⟨b135, 0, none⟩) 1 1), (56, .agg #[.int .i64 (lsn : Nat), .slice B126 1 cp127]), (54, .slice (some ⟨b118, 0, none⟩) 1 1), (2, .pointer (some ⟨b4, 0, none⟩)), (1, .int .i64 (lsn : Nat)), (5, .slice B144 ((laidL lsn (byteS dt) (pages.take i)).length + 1) cap145), (6, .int .i64 (i : Nat)), (7, .int .i64 (uMod x39 5 : Nat)), (8, .bool ((laidL lsn (byteS dt) (pages.take i)).any (fun y => y.1 == uMod x39 5))), (9, .int .i64 (k : Nat)), (31, .int .i64 (k : Nat)), (32, .slice B ((laidL lsn (byteS dt) (pages.take i)).length) cp), (33, .int .i64 ((laidL lsn (byteS dt) (pages.take i)).length : Nat)), (34, .bool false), (47, .bool ((laidL lsn (byteS dt) (pages.take i)).any (fun y => y.1 == uMod x39 5))), (48, .bool true), (49, .slice B ((laidL lsn (byteS dt) (pages.take i)).length) cp), (50, .int .i64 (uMod x39 5 : Nat)), (51, .int .i64 (lsn : Nat)), (52, .pointer (some ⟨b4, 1, none⟩)), (53, .int .u8 dt), (55, .string ⟨#[UInt8.ofNat (dt).toNat]⟩), (57, .agg #[.int .i64 (uMod x39 5 : Nat), .int .i64 (lsn : Nat), .slice B126 1 cp127]), (21, .int .i64 (i : Nat)), (22, .int .i64 (IntKind.i64.wrap (((i : Nat) : Int) + 1)))]) (vs := []) (obs := []) hF150 (by kernel_rfl) .nil ?_
          intro a151 hF152
          clear hF150
          have hw153 : IntKind.i64.wrap (((i : Nat) : Int) + 1) = ((i + 1 : Nat) : Int) := by rw [wrap_i64 (by omega) (by omega)]; omega
          rw [hw153] at hF152
          refine batch_spec (is := [2]) (rest := []) (live := [59, 58, 56, 54, 2, 1, 5, 6, 7, 8, 9, 31, 32, 33, 34, 47, 48, 49, 50, 51, 52, 53, 55, 57, 21, 22]) (e' := [(59, .slice B144 ((laidL lsn (byteS dt) (pages.take i)).length + 1) cap145), (58, .slice (some ⟨b135, 0, none⟩) 1 1), (56, .agg #[.int .i64 (lsn : Nat), .slice B126 1 cp127]), (54, .slice (some ⟨b118, 0, none⟩) 1 1), (2, .pointer (some ⟨b4, 0, none⟩)), (1, .int .i64 (lsn : Nat)), (5, .slice B144 ((laidL lsn (byteS dt) (pages.take i)).length + 1) cap145), (6, .int .i64 (i + 1 : Nat)), (7, .int .i64 (uMod x39 5 : Nat)), (8, .bool ((laidL lsn (byteS dt) (pages.take i)).any (fun y => y.1 == uMod x39 5))), (9, .int .i64 (k : Nat)), (31, .int .i64 (k : Nat)), (32, .slice B ((laidL lsn (byteS dt) (pages.take i)).length) cp), (33, .int .i64 ((laidL lsn (byteS dt) (pages.take i)).length : Nat)), (34, .bool false), (47, .bool ((laidL lsn (byteS dt) (pages.take i)).any (fun y => y.1 == uMod x39 5))), (48, .bool true), (49, .slice B ((laidL lsn (byteS dt) (pages.take i)).length) cp), (50, .int .i64 (uMod x39 5 : Nat)), (51, .int .i64 (lsn : Nat)), (52, .pointer (some ⟨b4, 1, none⟩)), (53, .int .u8 dt), (55, .string ⟨#[UInt8.ofNat (dt).toNat]⟩), (57, .agg #[.int .i64 (uMod x39 5 : Nat), .int .i64 (lsn : Nat), .slice B126 1 cp127]), (21, .int .i64 (i : Nat)), (22, .int .i64 (i + 1 : Nat))]) (vs := []) (obs := []) hF152 (by kernel_rfl) .nil ?_
          intro a154 hF155
          clear hF152
          refine ops_done ?_
          have hS156 : Sat w141 (raw b4 (.cells #[.slice A pages.length cap, .int .u8 dt] 38 (0, 0)) :: slA intT (.slice A pages.length cap) pages :: rowA leafT 43 B144 cap145 ((laidL lsn (byteS dt) (pages.take i)) ++ [((uMod x39 5, lsn, [(⟨true, ⟨#[UInt8.ofNat (dt).toNat]⟩⟩ : Slot)]) : LeafM)]) :: raw b135 (.cells #[.int .i64 (uMod x39 5 : Nat), .int .i64 (lsn : Nat), .slice B126 1 cp127] 43 (0, 0)) :: slA slotT (.slice B126 1 cp127) [(⟨true, ⟨#[UInt8.ofNat (dt).toNat]⟩⟩ : Slot)] :: raw b118 (.cells #[.int .u8 dt] 5 (0, 0)) :: L) := (Sat_at (Sat_at (Sat_at hS148 0 rfl rfl) 5 rfl rfl) 5 rfl rfl)
          refine nrm_then ⟨_, ?_, i + 1, B144, cap145, rfl, (by omega), (Fits.restr (r := [(2, .pointer (some ⟨b4, 0, none⟩)), (1, .int .i64 (lsn : Nat)), (5, .slice B144 ((laidL lsn (byteS dt) (pages.take i)).length + 1) cap145), (6, .int .i64 (i + 1 : Nat))]) hF155 (ks := [2, 1, 5, 6]) (by kernel_rfl)).cast (by rw [laid_add hx40 (by omega) h108, List.length_append, List.length_singleton]), (by rw [laid_add hx40 (by omega) h108]; exact (Sat_at (Sat_at (Sat_at hS156 5 rfl rfl).drop 4 rfl rfl).drop 3 rfl rfl).drop)⟩
          omega
    ·
      have hb157 : (decide ((((laidL lsn (byteS dt) (pages.take i)).length : Nat) : Int) < 3)) = false := decide_eq_false h35
      rw [hb157] at hF34
      refine cond_no hF34 rfl ?_
      refine wp_exit ?_
      refine exit_then ?_
      refine exit_then ?_
      refine exit_block ?_
      refine nrm_then ?_
      refine wp_seq ?_
      refine reg_text (l := [0, 1]) (by kernel_rfl) ?_
      refine batch_spec (is := [0, 1]) (rest := []) (live := [4]) (e' := [(4, .slice B ((laidL lsn (byteS dt) (pages.take i)).length) cp)]) (vs := []) (obs := []) hF34 (by kernel_rfl) .nil ?_
      intro a158 hF159
      clear hF34
      refine ops_done ?_
      refine nrm_then ?_
      refine wp_ret ?_
      refine finish (v := .slice B ((laidL lsn (byteS dt) (pages.take i)).length) cp) (vs := []) (obs := []) hF159 (by kernel_rfl) .nil ?_
      have hS160 : Sat w26 (rowA leafT 43 B cp (laidL lsn (byteS dt) (pages.take i)) :: slA intT (.slice A pages.length cap) pages :: raw b4 (.cells #[.slice A pages.length cap, .int .u8 dt] 38 (0, 0)) :: L) := (Sat_at (Sat_at hS28 1 rfl rfl) 2 rfl rfl)
      have hfin : laidL lsn (byteS dt) (pages.take i) = laidL lsn (byteS dt) pages := (laid_full pages i (by omega)).symm
      rw [← hfin]
      exact ⟨B, cp, rfl, row_sl ((Sat_at hS160 2 rfl rfl).drop) 0 rfl rfl rfl⟩
  ·
    have hb161 : (decide (((i : Nat) : Int) < ((pages.length : Nat) : Int))) = false := decide_eq_false h31
    rw [hb161] at hF30
    refine batch_spec (is := [6, 7, 8, 9]) (rest := []) (live := [2, 1, 5, 6, 11, 12, 13, 14, 15, 16, 17, 18, 19, 20]) (e' := [(2, .pointer (some ⟨b4, 0, none⟩)), (1, .int .i64 (lsn : Nat)), (5, .slice B ((laidL lsn (byteS dt) (pages.take i)).length) cp), (6, .int .i64 (i : Nat)), (11, .int .i64 (i : Nat)), (12, .pointer (some ⟨b4, 0, none⟩)), (13, .slice A pages.length cap), (14, .int .i64 (pages.length : Nat)), (15, .bool false), (16, .bool false), (17, undef), (18, undef), (19, undef), (20, .bool false)]) (vs := []) (obs := []) hF30 (by kernel_rfl) .nil ?_
    intro a162 hF163
    clear hF30
    refine ops_done ?_
    refine nrm_then ?_
    refine cond_no hF163 rfl ?_
    refine wp_exit ?_
    refine exit_then ?_
    refine exit_then ?_
    refine exit_block ?_
    refine nrm_then ?_
    refine wp_seq ?_
    refine reg_text (l := [0, 1]) (by kernel_rfl) ?_
    refine batch_spec (is := [0, 1]) (rest := []) (live := [4]) (e' := [(4, .slice B ((laidL lsn (byteS dt) (pages.take i)).length) cp)]) (vs := []) (obs := []) hF163 (by kernel_rfl) .nil ?_
    intro a164 hF165
    clear hF163
    refine ops_done ?_
    refine nrm_then ?_
    refine wp_ret ?_
    refine finish (v := .slice B ((laidL lsn (byteS dt) (pages.take i)).length) cp) (vs := []) (obs := []) hF165 (by kernel_rfl) .nil ?_
    have hS166 : Sat w26 (rowA leafT 43 B cp (laidL lsn (byteS dt) (pages.take i)) :: slA intT (.slice A pages.length cap) pages :: raw b4 (.cells #[.slice A pages.length cap, .int .u8 dt] 38 (0, 0)) :: L) := (Sat_at (Sat_at hS28 1 rfl rfl) 2 rfl rfl)
    have hfin : laidL lsn (byteS dt) (pages.take i) = laidL lsn (byteS dt) pages := by rw [List.take_of_length_le (by omega)]
    rw [← hfin]
    exact ⟨B, cp, rfl, row_sl ((Sat_at hS166 2 rfl rfl).drop) 0 rfl rfl rfl⟩
end
end Sl
end Go.Proofs.YtkmlppeligdbaaaDoor

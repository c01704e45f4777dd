/- The store of pages by the engine. Conditions: none. -/
import Derived.Test.YtkmlppeligdbaaaDoorEng3
import Derived.Test.YtkmlppeligdbaaaDoorActs
namespace Go.Proofs.YtkmlppeligdbaaaDoor
namespace Sl
open Go.RowKit SepW Pl Eg
set_option linter.unusedVariables false
set_option linter.unusedSimpArgs false
set_option linter.unusedSectionVars false
set_option maxRecDepth 100000
section
variable {w : World} {L : List Atom} {p s : Nat} {pl : PlateM} {st : StoreM} {P : Int → ByteArray → Prop}
theorem home_c {A : Option Addr} {c i : Nat} (hi : i < 100000) (ha : st.at' < 100000) (hc : st.copies < 100000) (hS : Sat w (raw s (.cells #[.pointer (some ⟨st.plate, 0, none⟩), .int .i64 (st.at' : Nat), .int .i64 (st.copies : Nat), .slice A st.pages.length c, .int .i64 st.life, .bool st.torn] 59 (0, 0)) :: L)) :
    Calls Tryd.prog 27 #[.pointer (some ⟨s, 0, none⟩), .int .i64 i] w (Ret fun v w' => v = .int .i64 ((st.at' + st.copies + i : Nat) : Int) ∧ Sat w' (raw s (.cells #[.pointer (some ⟨st.plate, 0, none⟩), .int .i64 (st.at' : Nat), .int .i64 (st.copies : Nat), .slice A st.pages.length c, .int .i64 st.life, .bool st.torn] 59 (0, 0)) :: L)) := by
  refine enter (vs := [.pointer (some ⟨s, 0, none⟩), .int .i64 (i : Nat)]) Tryd.func27 rfl Tryd.ntmps27 rfl ?_
  intro a1 hF2
  have hF3 : Fits a1 16 [(0, .pointer (some ⟨s, 0, none⟩)), (1, .int .i64 (i : Nat))] := hF2
  clear hF2
  refine wp_seq ?_
  refine reg_text (l := [0]) (by kernel_rfl) ?_
  refine batch_spec (is := [0]) (rest := []) (live := [0, 1, 4]) (e' := [(0, .pointer (some ⟨s, 0, none⟩)), (1, .int .i64 (i : Nat)), (4, .int .i64 0)]) (vs := []) (obs := []) hF3 (by kernel_rfl) .nil ?_
  intro a4 hF5
  clear hF3
  refine ops_done ?_
  refine nrm_then ?_
  refine wp_seq ?_
  refine reg_drawn (fun j => match j with | 1 => [0] | 2 => [0, 1] | 3 => [0, 1, 2] | 5 => [4] | 6 => [4, 5] | 7 => [4, 5, 6] | 8 => [0, 1, 2, 3, 4, 5, 6, 7] | 10 => [0, 1, 2, 3, 4, 5, 6, 7, 8, 9] | 11 => [0, 1, 2, 3, 4, 5, 6, 7, 8, 9, 10] | _ => []) hS (by kernel_rfl) (by kernel_rfl) (by kernel_rfl) (fun c a d v w h => by cases d <;> exact h) ?_
  intro w6 hS7 hw8
  clear hS
  refine batchD_spec (is := [0, 1, 2, 3, 4, 5, 6, 7, 8]) (dn := []) (dn' := [0, 1, 2, 3, 4, 5, 6, 7, 8]) (live := [1, 4, 13]) (e' := [(1, .int .i64 (i : Nat)), (4, .int .i64 0), (13, .int .i64 (IntKind.i64.wrap (((st.at' : Nat) : Int) + ((st.copies : Nat) : Int))))]) (vs := [.int .i64 (st.at' : Nat), .int .i64 (st.copies : Nat)]) (obs := [(⟨s, 1, none⟩, .int .i64 (st.at' : Nat)), (⟨s, 2, none⟩, .int .i64 (st.copies : Nat))]) (pd' := [(7, [(⟨s, 2, none⟩, .int .i64 (st.copies : Nat))]), (3, [(⟨s, 1, none⟩, .int .i64 (st.at' : Nat))])]) hF5 (by kernel_rfl) (.cons (ob hS7 0 rfl rfl) (.cons (ob hS7 0 rfl rfl) .nil)) rfl ?_
  intro a9 hF10
  clear hF5
  have hw11 : IntKind.i64.wrap (((st.at' : Nat) : Int) + ((st.copies : Nat) : Int)) = ((st.at' + st.copies : Nat) : Int) := by rw [wrap_i64 (by omega) (by omega)]; omega
  rw [hw11] at hF10
  refine batchD_spec (is := [9, 10]) (dn := [0, 1, 2, 3, 4, 5, 6, 7, 8]) (dn' := [0, 1, 2, 3, 4, 5, 6, 7, 8, 9, 10]) (live := [4, 15]) (e' := [(4, .int .i64 0), (15, .int .i64 (IntKind.i64.wrap (((st.at' + st.copies : Nat) : Int) + ((i : Nat) : Int))))]) (vs := []) (obs := []) (pd' := [(7, [(⟨s, 2, none⟩, .int .i64 (st.copies : Nat))]), (3, [(⟨s, 1, none⟩, .int .i64 (st.at' : Nat))])]) hF10 (by kernel_rfl) .nil rfl ?_
  intro a12 hF13
  clear hF10
  have hw14 : IntKind.i64.wrap (((st.at' + st.copies : Nat) : Int) + ((i : Nat) : Int)) = (((st.at' + st.copies) + i : Nat) : Int) := by rw [wrap_i64 (by omega) (by omega)]; omega
  rw [hw14] at hF13
  refine batchD_spec (is := [11]) (dn := [0, 1, 2, 3, 4, 5, 6, 7, 8, 9, 10]) (dn' := [0, 1, 2, 3, 4, 5, 6, 7, 8, 9, 10, 11]) (live := [4]) (e' := [(4, .int .i64 ((st.at' + st.copies) + i : Nat))]) (vs := []) (obs := []) (pd' := [(7, [(⟨s, 2, none⟩, .int .i64 (st.copies : Nat))]), (3, [(⟨s, 1, none⟩, .int .i64 (st.at' : Nat))])]) hF13 (by kernel_rfl) .nil rfl ?_
  intro a15 hF16
  clear hF13
  refine wpD_done (by kernel_rfl) ?_
  refine nrm_then ?_
  refine wp_ret ?_
  refine finish (v := .int .i64 ((st.at' + st.copies) + i : Nat)) (vs := []) (obs := []) hF16 (by kernel_rfl) .nil ?_
  refine ⟨by simp, hS7⟩
end
end Sl
end Go.Proofs.YtkmlppeligdbaaaDoor

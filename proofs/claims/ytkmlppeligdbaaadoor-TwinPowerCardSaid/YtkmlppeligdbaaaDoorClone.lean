/- A copy of a page's slots. Conditions: none. -/
import Derived.Test.YtkmlppeligdbaaaDoorStore
import Derived.Laws.Cover3
namespace Go.Proofs.YtkmlppeligdbaaaDoor
namespace Sl
open Go.RowKit SepW Pl
set_option linter.unusedVariables false
set_option linter.unusedSimpArgs false
set_option linter.unusedSectionVars false
section
variable {w : World} {L : List Atom} {α : Type} {T : Ty α} {l : List α} {a : Addr} {n cap : Nat}
theorem Sat.sl_cells (h : Sat w (slA T (.slice (some a) n cap) l :: L)) : ∃ cs, n = l.length ∧ (∀ j u, cs[j]? = some u → w.cell? (a.add j) = some u) ∧ Sat w (cellsK T l cs :: L) := by
  obtain ⟨g, H, ⟨H1, H2, rfl, ⟨⟨A, cap', e, hl, hr⟩, rfl⟩, h2⟩, hg⟩ := h
  simp only [Value.slice.injEq] at e
  by_cases hn : l = []
  · subst hn
    exact ⟨[], by simpa using e.2.1, by simp, g, _, ⟨[], H2, rfl, ⟨rfl, rfl⟩, h2⟩, hg⟩
  · obtain ⟨b, off, c, t, fr, cs, e1, e2, e3, e4⟩ := hr hn
    obtain rfl : a = ⟨b, off, none⟩ := by have := e.1.trans e1; simpa using this
    refine ⟨cs, e.2.1, fun j u hj => ?_, g, _, ⟨[], H2, rfl, ⟨e3, rfl⟩, h2⟩, hg⟩
    rw [Addr.add_lit, cell_blk (hg.known _ _ e2)]
    exact e4 _ _ hj
end
theorem run_eql39 (w : World) (a : Option Addr) (l c : Nat) : (binOp .eql 39 (.slice a l c) (.slice none 0 0)).run Tryd.prog w = .ok (.bool a.isNone) w := by
  simp only [binOp]
  simp [run_equal_slice_nil w 39 69 a l c Tryd.underlying39]
section
attribute [local go_sem] run_eql39
variable {w : World} {L : List Atom}
set_option maxRecDepth 100000 in
set_option maxHeartbeats 800000 in
theorem clone_ct {A : Option Addr} {cap : Nat} {l : List Slot} (hl : l.length ≤ 1000) (hS : Sat w (slA slotT (.slice A l.length cap) l :: L)) :
    Calls Tryd.prog 28 #[.slice A l.length cap] w (Rt fun r w' => ∃ A' cap', r = .slice A' l.length cap' ∧ Sat w' (slA slotT (.slice A' l.length cap') l :: slA slotT (.slice A l.length cap) l :: L)) := by
  cases A with
  | none =>
    have hn : l = [] := by
      by_cases hn : l = []
      · exact hn
      · have hpos : 0 < l.length := List.length_pos_iff.2 hn
        obtain ⟨b, off, e, _⟩ := hS.sl_at (List.getElem?_eq_getElem hpos)
        cases e
    subst hn
    go_enter Tryd.func28, Tryd.ntmps28
    go_wp2
    go_ret
    exact ⟨_, rfl, none, 0, rfl, hS.per_true (fun g => SlK.nil _ _ _ _)⟩
  | some a =>
    obtain ⟨i0, hi, hz0, hz1, hz2⟩ := info_parts info69
    have hA : Sat (w.alloc (.cells #[] 69)) (slA slotT (.slice (some a) l.length cap) l :: slA slotT (.slice (some a) l.length cap) l :: raw w.heap.size (.cells #[] 69) :: L) := (hS.alloc (.cells #[] 69)).f1.per_dup
    obtain ⟨cs, -, hcs, hK⟩ := Sat.sl_cells hA
    have hrow : Sat (w.alloc (.cells #[] 69)) (rowA slotT 69 (some ⟨w.heap.size, 0, none⟩) 0 [] :: cellsK slotT l cs :: slA slotT (.slice (some a) l.length cap) l :: L) :=
      Sat.row_in (cur := #[]) (by simp) (by simp [maxLen]) (by simp) (hK.f2.cells_free (l := []) (cs := []) (fun g => rfl)).f1
    obtain ⟨A1, cap1, w1, hrun, hS1⟩ := run_append_row (T := slotT) (P := Tryd.prog) (t' := 39) (ty := 39) (xs := l) (news := cs) (a := a) (c := cap) Tryd.underlying39 hi hz0 hz1 rfl
      hcs (by unfold maxLen; simp; omega) (by rw [hz2]; simp; omega) hrow
    simp only [List.length_nil, Nat.zero_add, List.nil_append] at hrun hS1
    have HA := Lib.hid hrun
    clear hrun hcs hi hz0 hz1 hz2 hA hK hrow
    go_enter Tryd.func28, Tryd.ntmps28
    go_wp2_with (at_builtin; refine wpList_append_run rfl _ _ _ rfl rfl rfl HA ?_)
    go_ret
    exact ⟨_, rfl, A1, cap1, rfl, hS1.row_freeze⟩
end
end Sl
end Go.Proofs.YtkmlppeligdbaaaDoor

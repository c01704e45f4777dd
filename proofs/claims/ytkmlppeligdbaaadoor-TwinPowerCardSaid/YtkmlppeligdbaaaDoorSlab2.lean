/- Pages of slots: which images can be. Conditions: none. -/
import Derived.Test.YtkmlppeligdbaaaDoorSlab
namespace Go.Proofs.YtkmlppeligdbaaaDoor
namespace Sl
open Go.RowKit SepW
set_option linter.unusedVariables false
set_option linter.unusedSimpArgs false
set_option linter.unusedSectionVars false

def lastUsed (l : List Slot) : Bool := match l.getLast? with | some x => x.used | none => true
def Page.good (p : Page) : Bool := !(decide (p.lsn < 0) || decide (1099511627776 < p.lsn) || decide (32 < p.slots.length) || p.slots.any Slot.odd) && (lastUsed p.slots && decide (sizeOf p.slots ≤ 240))
section
variable {w : World} {L : List Atom}
theorem odd_size {l : List Slot} (h : l.any Slot.odd = false) : ∀ x ∈ l, x.data.size ≤ 200 := by
  intro x hx
  have := List.any_eq_false.1 h x hx
  simp [Slot.odd] at this
  omega
set_option maxRecDepth 100000 in
set_option maxHeartbeats 1600000 in
theorem good_ct {A : Option Addr} {cap : Nat} {p : Page} (hl : p.slots.length ≤ 140737488355328) (hd : ∀ x ∈ p.slots, x.data.size ≤ 140737488355328) (hS : Sat w (slA slotT (.slice A p.slots.length cap) p.slots :: L)) :
    Calls Tryd.prog 39 #[.agg #[.int .i64 p.lsn, .slice A p.slots.length cap]] w fun e w' => e = .returned (.bool p.good) ∧ Below w.heap.size w w' := by
  obtain ⟨lsn, l⟩ := p
  dsimp only at hl hd hS ⊢
  have hB : Below w.heap.size w (w.alloc (.cells #[.int .i64 lsn, .slice A l.length cap] 41)) := (Below.refl _ _).alloc (Nat.le_refl _) _
  by_cases h1 : lsn < 0
  · rw [show Page.good ⟨lsn, l⟩ = false by simp [Page.good, h1]]
    go_enter Tryd.func39, Tryd.ntmps39
    go_wp2
    go_ret
    exact ⟨rfl, hB⟩
  by_cases h2 : 1099511627776 < lsn
  · rw [show Page.good ⟨lsn, l⟩ = false by simp [Page.good, h2]]
    go_enter Tryd.func39, Tryd.ntmps39
    go_wp2
    go_ret
    exact ⟨rfl, hB⟩
  by_cases h3 : 32 < l.length
  · rw [show Page.good ⟨lsn, l⟩ = false by simp [Page.good, h3]]
    go_enter Tryd.func39, Tryd.ntmps39
    go_wp2
    go_ret
    exact ⟨rfl, hB⟩
  have hC := Lib.hid (containsOdd_ct (L := L) (by omega) hd (hS.alloc' (.cells #[.int .i64 lsn, .slice A l.length cap] 41)))
  cases h4 : l.any Slot.odd with
  | true =>
    rw [show Page.good ⟨lsn, l⟩ = false by simp [Page.good, h4]]
    rw [h4] at hC
    clear h4
    go_enter Tryd.func39, Tryd.ntmps39
    go_wp2_with (go_at_call 57; refine hC.out.mono ?_; rintro e w1 ⟨rfl, hb1⟩)
    go_ret
    exact ⟨rfl, hB.trans (hb1.mono (by simp; try omega))⟩
  | false =>
    rw [h4] at hC
    have hgood : Page.good ⟨lsn, l⟩ = (lastUsed l && decide (sizeOf l ≤ 240)) := by simp [Page.good, h1, h2, h3, h4]
    have h200 := odd_size h4
    have hsz := sizeOf_le h200
    clear h4
    rw [hgood]
    clear hgood
    obtain ⟨q0, q1, _⟩ := cells2 (hS.alloc (.cells #[.int .i64 lsn, .slice A l.length cap] 41)).raw_block
    by_cases hn : l = []
    · subst hn
      clear h200 hsz hd
      go_enter Tryd.func39, Tryd.ntmps39
      go_wp2_with (first | (go_at_call 57; refine hC.out.mono ?_; rintro e w1 ⟨rfl, hb1⟩; have k0 := (hb1.cell (p := ⟨w.heap.size, 0, none⟩) (by simp)).trans q0; have k1 := (hb1.cell (p := ⟨w.heap.size, 1, none⟩) (by simp)).trans q1) | (go_at_call 59; refine (size_ct (l := []) (by simp) (by simp) ((hS.alloc' (.cells #[.int .i64 lsn, .slice A 0 cap] 41)).below_grow hb1)).mono ?_; rintro e w2 ⟨rfl, hb2⟩))
      go_ret
      exact ⟨rfl, (hB.trans (hb1.mono (by simp; try omega))).trans (hb2.mono (by have := hb1.size; simp at this; omega))⟩
    · obtain ⟨m, hm⟩ : ∃ m, l.length = m + 1 := ⟨l.length - 1, by have := List.length_pos_iff.2 hn; omega⟩
      obtain ⟨x, hx⟩ : ∃ x, l[m]? = some x := ⟨l[m], List.getElem?_eq_getElem (by omega)⟩
      have hlast : lastUsed l = x.used := by
        rw [lastUsed, List.getLast?_eq_getElem?, hm]; simp [hx]
      rw [hlast]
      have hcells : ∀ w1, Below (w.alloc (.cells #[.int .i64 lsn, .slice A l.length cap] 41)).heap.size (w.alloc (.cells #[.int .i64 lsn, .slice A l.length cap] 41)) w1 → ∃ b off, A = some ⟨b, off, none⟩ ∧ w1.cell? ⟨b, off + m * 2, none⟩ = some (.bool x.used) := by
        intro w1 hb1
        obtain ⟨b, off, e, g, hg, cs, hcs, hcell⟩ := ((hS.alloc' (.cells #[.int .i64 lsn, .slice A l.length cap] 41)).below_grow hb1).sl_at hx
        cases hcs
        exact ⟨b, off, e, by simpa [slotT] using hcell 0 _ rfl⟩
      have hZ : ∀ w1, Below (w.alloc (.cells #[.int .i64 lsn, .slice A l.length cap] 41)).heap.size (w.alloc (.cells #[.int .i64 lsn, .slice A l.length cap] 41)) w1 → Calls Tryd.prog 59 #[.slice A l.length cap] w1 fun e w' => e = .returned (.int .i64 (sizeOf l)) ∧ Below w1.heap.size w1 w' :=
        fun w1 hb1 => size_ct (by omega) h200 ((hS.alloc' (.cells #[.int .i64 lsn, .slice A l.length cap] 41)).below_grow hb1)
      rw [hm] at hcells hZ hC q0 q1 hB h3 ⊢
      have HC := Lib.hid hcells
      have HZ := Lib.hid hZ
      clear hcells hZ h200 hd hlast hx hm hn hl hS
      obtain ⟨b, off, rfl, -⟩ := HC.out _ (Below.refl _ _)
      generalize sizeOf l = z at *
      cases hu : x.used with
      | false =>
        rw [hu] at HC
        go_enter Tryd.func39, Tryd.ntmps39
        go_wp2_with (first | (go_at_call 57; refine hC.out.mono ?_; rintro e w1 ⟨rfl, hb1⟩; have k0 := (hb1.cell (p := ⟨w.heap.size, 0, none⟩) (by simp)).trans q0; have k1 := (hb1.cell (p := ⟨w.heap.size, 1, none⟩) (by simp)).trans q1; obtain ⟨b', off', hbo, k2⟩ := HC.out _ hb1; obtain ⟨rfl, rfl⟩ : b = b' ∧ off = off' := by (simp at hbo; exact hbo)))
        go_ret
        exact ⟨rfl, hB.trans (hb1.mono (by simp; try omega))⟩
      | true =>
        rw [hu] at HC
        go_enter Tryd.func39, Tryd.ntmps39
        go_wp2_with (first | (go_at_call 57; refine hC.out.mono ?_; rintro e w1 ⟨rfl, hb1⟩; have k0 := (hb1.cell (p := ⟨w.heap.size, 0, none⟩) (by simp)).trans q0; have k1 := (hb1.cell (p := ⟨w.heap.size, 1, none⟩) (by simp)).trans q1; obtain ⟨b', off', hbo, k2⟩ := HC.out _ hb1; obtain ⟨rfl, rfl⟩ : b = b' ∧ off = off' := by (simp at hbo; exact hbo)) | (go_at_call 59; refine (HZ.out _ hb1).mono ?_; rintro e w2 ⟨rfl, hb2⟩))
        go_ret
        exact ⟨by simp; try omega, (hB.trans (hb1.mono (by simp; try omega))).trans (hb2.mono (by have := hb1.size; simp at this; omega))⟩
end
end Sl
end Go.Proofs.YtkmlppeligdbaaaDoor

/- The store of pages: its small methods. Conditions: none. -/
import Derived.Test.YtkmlppeligdbaaaDoorTwin1
import Derived.Test.YtkmlppeligdbaaaDoorDisk
namespace Go.Proofs.YtkmlppeligdbaaaDoor
namespace Sl
open Go.RowKit SepW Pl
set_option linter.unusedVariables false
set_option linter.unusedSimpArgs false
set_option linter.unusedSectionVars false

structure StoreM where
  plate : Nat
  at' : Nat
  copies : Nat
  pages : List Page
  life : Int
  torn : Bool
abbrev stObj (st : StoreM) (A : Option Addr) (c : Nat) : Obj := .cells #[.pointer (some ⟨st.plate, 0, none⟩), .int .i64 st.at', .int .i64 st.copies, .slice A st.pages.length c, .int .i64 st.life, .bool st.torn] 59 (0, 0)
def storeA (s : Nat) (st : StoreM) : Atom := ex fun x : Option Addr × Nat => all [raw s (stObj st x.1 x.2), rowA pageT 41 x.1 x.2 st.pages]
section
variable {w : World} {L : List Atom} {p s : Nat} {pl : PlateM} {st : StoreM}
theorem store_out (h : Sat w (storeA s st :: L)) : ∃ A c, Sat w (raw s (stObj st A c) :: rowA pageT 41 A c st.pages :: L) := by
  obtain ⟨⟨A, c⟩, h⟩ := h.ex_out
  exact ⟨A, c, h.all_out⟩
theorem store_in {A : Option Addr} {c : Nat} (h : Sat w (raw s (stObj st A c) :: rowA pageT 41 A c st.pages :: L)) : Sat w (storeA s st :: L) :=
  Sat.ex_in (A, c) (Sat.all_in (M := [_, _]) h)
set_option maxHeartbeats 400000 in
theorem home_ct (i : Nat) (hi : i < 100000) (ha : st.at' < 100000) (hc : st.copies < 100000) (hS : Sat w (storeA s st :: L)) :
    Calls Tryd.prog 27 #[.pointer (some ⟨s, 0, none⟩), .int .i64 i] w fun e w' => e = .returned (.int .i64 ((st.at' + st.copies + i : Nat) : Int)) ∧ ∃ q, w' = w.drewN q := by
  obtain ⟨A, c, hR⟩ := store_out hS
  obtain ⟨c0, c1, c2, c3, c4, c5, fz⟩ := cells6 hR.raw_block
  go_enter Tryd.func27, Tryd.ntmps27
  go_wp2
  go_quiet (fail)
  go_wp2
  go_ret
  exact ⟨by simp, _, rfl⟩
theorem drewN_sat (q : Nat) (h : Sat w L) : Sat (w.drewN q) L := h.grow (fun _ _ => rfl) rfl rfl rfl
def readyM (pl : PlateM) (st : StoreM) : Int := if st.torn ∨ pl.down ∨ pl.life ≠ st.life then 10 else 0
set_option maxHeartbeats 800000 in
theorem ready2_ct (hS : Sat w (storeA s st :: plateA st.plate pl :: L)) :
    Calls Tryd.prog 22 #[.pointer (some ⟨s, 0, none⟩)] w fun e w' => e = .returned (.int .i64 (readyM pl st)) ∧ ∃ q, w' = w.drewN q := by
  obtain ⟨A, c, hR⟩ := store_out hS
  obtain ⟨c0, c1, c2, c3, c4, c5, fz⟩ := cells6 hR.raw_block
  have hD := fun q => down_ct (drewN_sat q hS).f1
  have hL := fun q => life_ct (drewN_sat q hS).f1
  have HD := Lib.hid hD
  have HL := Lib.hid hL
  clear hD hL hS hR
  by_cases ht : st.torn = true
  · rw [show readyM pl st = 10 by simp [readyM, ht]]
    rw [ht] at c5
    clear ht
    go_enter Tryd.func22, Tryd.ntmps22
    go_wp2
    go_quiet (first | (go_at_call 18; exact (HD.out _).mono fun e w' h => ⟨h.1, _, h.2.symm⟩) | (go_at_call 19; exact (HL.out _).mono fun e w' h => ⟨h.1, _, h.2.symm⟩))
    go_wp2
    go_ret
    exact ⟨rfl, _, rfl⟩
  have ht' : st.torn = false := by simpa using ht
  rw [ht'] at c5
  by_cases hd : pl.down = true
  · rw [show readyM pl st = 10 by simp [readyM, hd]]
    rw [hd] at HD
    clear ht ht' hd
    go_enter Tryd.func22, Tryd.ntmps22
    go_wp2
    go_quiet (first | (go_at_call 18; exact (HD.out _).mono fun e w' h => ⟨h.1, _, h.2.symm⟩) | (go_at_call 19; exact (HL.out _).mono fun e w' h => ⟨h.1, _, h.2.symm⟩))
    go_wp2
    go_ret
    exact ⟨rfl, _, rfl⟩
  have hd' : pl.down = false := by simpa using hd
  rw [hd'] at HD
  by_cases hl : pl.life = st.life
  · rw [show readyM pl st = 0 by simp [readyM, ht', hd', hl]]
    rw [hl] at HL
    clear ht ht' hd hd' hl
    go_enter Tryd.func22, Tryd.ntmps22
    go_wp2
    go_quiet (first | (go_at_call 18; exact (HD.out _).mono fun e w' h => ⟨h.1, _, h.2.symm⟩) | (go_at_call 19; exact (HL.out _).mono fun e w' h => ⟨h.1, _, h.2.symm⟩))
    go_wp2
    go_ret
    exact ⟨rfl, _, rfl⟩
  · rw [show readyM pl st = 10 by simp [readyM, hl]]
    have hb : (pl.life == st.life) = false := by simpa using hl
    have hb' : (pl.life != st.life) = true := by simpa using hl
    clear ht ht' hd hd' hl
    go_enter Tryd.func22, Tryd.ntmps22
    go_wp2
    go_quiet (first | (go_at_call 18; exact (HD.out _).mono fun e w' h => ⟨h.1, _, h.2.symm⟩) | (go_at_call 19; exact (HL.out _).mono fun e w' h => ⟨h.1, _, h.2.symm⟩))
    go_wp2
    go_ret
    exact ⟨rfl, _, rfl⟩
end
end Sl
end Go.Proofs.YtkmlppeligdbaaaDoor

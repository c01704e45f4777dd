/- One act of the device, by cases. Conditions: none. -/
import Derived.Test.YtkmlppeligdbaaaDoorCopied
import Derived.Test.YtkmlppeligdbaaaDoorShelf
namespace Go.Proofs.YtkmlppeligdbaaaDoor
namespace Pl
open Go.RowKit SepW
set_option linter.unusedVariables false
set_option linter.unusedSimpArgs false
set_option linter.unusedSectionVars false
/-- one act on a device that is up -/
theorem act_cases (pl : PlateM) (hd : pl.down = false) :
    (pl.act.2 = 0 ∧ pl.act.1.down = false ∧ pl.act.1.count = pl.count ∧ pl.act.1.life = pl.life ∧ (pl.armed ≤ 0 → pl.act.1.armed ≤ 0)) ∨
    (pl.act.2 = 10 ∧ pl.act.1.down = true ∧ pl.act.1.count = pl.count ∧ 0 < pl.armed ∧ pl.act.1.armed = 0) := by
  unfold PlateM.act
  by_cases h1 : 0 < pl.armed
  · rw [if_pos h1]
    by_cases h2 : wrap64 (pl.armed - 1) = 0
    · rw [if_pos h2]
      refine .inr ⟨rfl, ?_, ?_, h1, ?_⟩
      · simp [PlateM.off, hd]
      · simp [PlateM.off, hd]
      · simp [PlateM.off, hd]
    · rw [if_neg h2]
      exact .inl ⟨rfl, hd, rfl, rfl, fun h => by omega⟩
  · rw [if_neg h1]
    exact .inl ⟨rfl, hd, rfl, rfl, fun h => h⟩
theorem ready_up {pl : PlateM} {n : Int} (hd : pl.down = false) (h0 : 0 ≤ n) (h1 : n < pl.count) : pl.ready n = 0 := by
  rw [PlateM.ready, hd, if_neg (by decide), if_neg (by omega)]
section
variable {pl : PlateM} {P : Int → ByteArray → Prop}
/-- a write on a device that is up -/
theorem write_cases (hH : Held pl P) (hd : pl.down = false) {n : Int} {s : ByteArray} (h0 : 0 ≤ n) (h1 : n < pl.count) (hs : s.size = 256) (hP : P n s) (hT : P n tornB) :
    Held (pl.write n s).1 P ∧ (pl.write n s).1.count = pl.count ∧ (pl.write n s).1.queue.length = pl.queue.length + 1 ∧
    (((pl.write n s).2 = 0 ∧ (pl.write n s).1.down = false ∧ (pl.write n s).1.life = pl.life ∧ (pl.armed ≤ 0 → (pl.write n s).1.armed ≤ 0) ∧ ∀ m, (pl.write n s).1.live m = if n = m then s else pl.live m) ∨
     ((pl.write n s).2 = 10 ∧ (pl.write n s).1.down = true ∧ 0 < pl.armed ∧ (pl.write n s).1.armed = 0)) := by
  have hw : pl.write n s = PlateM.act { pl with queue := pl.queue ++ [(n, s)] } := by
    rw [PlateM.write, if_neg (by rw [ready_up hd h0 h1]; simp), if_neg (by simpa using hs)]
  rw [hw]
  have hq : (PlateM.act { pl with queue := pl.queue ++ [(n, s)] }).1.queue.length = pl.queue.length + 1 := by rw [act_queue]; simp
  have hl : ∀ m, (PlateM.act { pl with queue := pl.queue ++ [(n, s)] }).1.live m = if n = m then s else pl.live m := by
    intro m
    rw [live_same (act_sec _) (act_queue _), live_snoc]
  have hh := (hH.snoc hP hT hs).act
  rcases act_cases { pl with queue := pl.queue ++ [(n, s)] } hd with ⟨a, b, c, d, e⟩ | ⟨a, b, c, d, e⟩
  · exact ⟨hh, c, hq, .inl ⟨a, b, d, e, hl⟩⟩
  · exact ⟨hh, c, hq, .inr ⟨a, b, d, e⟩⟩
/-- a sync on a device that is up -/
theorem sync_cases (hH : Held pl P) (hd : pl.down = false) (h1 : 0 < pl.count) :
    Held pl.sync.1 P ∧ pl.sync.1.count = pl.count ∧
    ((pl.sync.2 = 0 ∧ pl.sync.1.down = false ∧ pl.sync.1.life = pl.life ∧ (pl.armed ≤ 0 → pl.sync.1.armed ≤ 0) ∧ pl.sync.1.queue = [] ∧ ∀ m, pl.sync.1.live m = pl.live m) ∨
     (pl.sync.2 = 10 ∧ pl.sync.1.down = true ∧ pl.sync.1.queue = pl.queue ∧ 0 < pl.armed ∧ pl.sync.1.armed = 0)) := by
  have hr := ready_up hd (Int.le_refl 0) h1
  unfold PlateM.sync
  rw [if_neg (by rw [hr]; simp)]
  rcases act_cases pl hd with ⟨a, b, c, d, e⟩ | ⟨a, b, c, d, e⟩
  · rw [if_neg (by rw [a]; simp)]
    refine ⟨hH.act.flush, c, .inl ⟨rfl, b, d, e, rfl, fun m => ?_⟩⟩
    rw [live_flush, live_same (act_sec _) (act_queue _)]
  · rw [if_pos (by rw [a]; simp)]
    exact ⟨hH.act, c, .inr ⟨a, b, act_queue pl, d, e⟩⟩
end
end Pl
end Go.Proofs.YtkmlppeligdbaaaDoor

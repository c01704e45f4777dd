/- What can lie on the device, whatever befalls it: no program in sight. Conditions: none. -/
import Derived.Test.YtkmlppeligdbaaaDoorPlate2
import Derived.Test.YtkmlppeligdbaaaDoorPlate3
namespace Go.Proofs.YtkmlppeligdbaaaDoor
namespace Pl
open Go.RowKit SepW
set_option linter.unusedVariables false
set_option linter.unusedSimpArgs false
set_option linter.unusedSectionVars false

def blankB : ByteArray := ⟨(List.replicate 256 0).toArray⟩
def tornB : ByteArray := ⟨#[]⟩
def PlateM.secAt (pl : PlateM) (n : Int) : ByteArray := (aget pl.sec n).getD blankB
def PlateM.live (pl : PlateM) (n : Int) : ByteArray := match pl.queue.reverse.find? (fun x => decide (x.1 = n)) with | some x => x.2 | none => pl.secAt n
/-- whatever befalls the device: what lies at a sector is as P says -/
structure Held (pl : PlateM) (P : Int → ByteArray → Prop) : Prop where
  sec : ∀ n, P n (pl.secAt n)
  que : ∀ x ∈ pl.queue, P x.1 x.2 ∧ P x.1 tornB
  full : ∀ x ∈ pl.queue, x.2.size = 256
section
variable {pl pl' : PlateM} {P Q : Int → ByteArray → Prop}
theorem Held.mono (h : Held pl P) (hi : ∀ n s, P n s → Q n s) : Held pl Q := ⟨fun n => hi _ _ (h.sec n), fun x hx => ⟨hi _ _ (h.que x hx).1, hi _ _ (h.que x hx).2⟩, h.full⟩
theorem Held.same (h : Held pl P) (hs : pl'.sec = pl.sec) (hq : pl'.queue = pl.queue) : Held pl' P := ⟨fun n => by unfold PlateM.secAt; rw [hs]; exact h.sec n, by rw [hq]; exact h.que, by rw [hq]; exact h.full⟩
theorem off_sec (pl : PlateM) : pl.off.sec = pl.sec := by unfold PlateM.off; split <;> rfl
theorem act_sec (pl : PlateM) : pl.act.1.sec = pl.sec := by
  by_cases h1 : 0 < pl.armed <;> by_cases h2 : wrap64 (pl.armed - 1) = 0 <;> simp [PlateM.act, h1, h2, off_sec]
theorem live_same (hs : pl'.sec = pl.sec) (hq : pl'.queue = pl.queue) (n : Int) : pl'.live n = pl.live n := by simp [PlateM.live, PlateM.secAt, hs, hq]
theorem live_snoc (pl : PlateM) (x : Int × ByteArray) (n : Int) : PlateM.live { pl with queue := pl.queue ++ [x] } n = if x.1 = n then x.2 else pl.live n := by
  unfold PlateM.live
  rw [List.reverse_append]
  by_cases h : x.1 = n <;> simp [h, PlateM.secAt]
theorem Held.live (h : Held pl P) (n : Int) : P n (pl.live n) := by
  unfold PlateM.live
  cases hf : pl.queue.reverse.find? (fun x => decide (x.1 = n)) with
  | none => exact h.sec n
  | some x =>
    have hm := List.mem_of_find?_eq_some hf
    have hx := List.find?_some hf
    have : x.1 = n := by simpa using hx
    subst this
    exact (h.que x (by simpa using hm)).1
theorem Held.act (h : Held pl P) : Held pl.act.1 P := h.same (act_sec pl) (act_queue pl)
theorem Held.off (h : Held pl P) : Held pl.off P := h.same (off_sec pl) (off_queue pl)
theorem Held.snoc (h : Held pl P) {n : Int} {s : ByteArray} (h1 : P n s) (h2 : P n tornB) (h3 : s.size = 256) : Held { pl with queue := pl.queue ++ [(n, s)] } P := by
  refine ⟨h.sec, ?_, ?_⟩
  · intro x hx
    rcases List.mem_append.1 hx with hx | hx
    · exact h.que x hx
    · simp at hx; subst hx; exact ⟨h1, h2⟩
  · intro x hx
    rcases List.mem_append.1 hx with hx | hx
    · exact h.full x hx
    · simp at hx; subst hx; exact h3
theorem secAt_flushed (q : List (Int × ByteArray)) : ∀ (sec : List (Int × ByteArray)) (n : Int), ((aget (flushed sec q) n).getD blankB) = match q.reverse.find? (fun x => decide (x.1 = n)) with | some x => x.2 | none => (aget sec n).getD blankB := by
  induction q with
  | nil => intro sec n; simp [flushed]
  | cons x q ih =>
    intro sec n
    have e : flushed sec (x :: q) = flushed (aset sec x.1 x.2) q := rfl
    rw [e, ih, List.reverse_cons, List.find?_append]
    cases hf : q.reverse.find? (fun x => decide (x.1 = n)) with
    | some y => simp
    | none =>
      rw [aget_aset]
      by_cases h : x.1 = n <;> simp [h]
/-- what is written home is what was to be read -/
theorem live_flush (pl : PlateM) (n : Int) : PlateM.live { pl with sec := flushed pl.sec pl.queue, queue := [] } n = pl.live n := by
  simp only [PlateM.live, List.reverse_nil, List.find?_nil, PlateM.secAt]
  exact secAt_flushed pl.queue pl.sec n
theorem Held.flush (h : Held pl P) : Held { pl with sec := flushed pl.sec pl.queue, queue := [] } P := by
  refine ⟨fun n => ?_, by simp, by simp⟩
  have e : PlateM.secAt { pl with sec := flushed pl.sec pl.queue, queue := [] } n = pl.live n := by rw [← live_flush]; rfl
  rw [e]
  exact h.live n
theorem settled_sec (h : Held pl P) (l : List Int) : ∀ k, k ≤ pl.queue.length → ∀ n, P n ((aget (settled pl.sec l pl.queue k) n).getD blankB)
  | 0, _, n => h.sec n
  | k + 1, hk, n => by
    have ih := settled_sec h l k (by omega)
    have hx : pl.queue.getD k (0, ⟨#[]⟩) = pl.queue[k] := by simp [List.getD, (show k < pl.queue.length by omega)]
    have hm := h.que pl.queue[k] (List.getElem_mem _)
    rw [settled, hx, settle]
    split
    · rw [aget_aset]
      split
      · rename_i e; subst e; exact hm.1
      · exact ih n
    · split
      · rw [aget_aset]
        split
        · rename_i e; subst e; exact hm.2
        · exact ih n
      · exact ih n
/-- ..nor by the fates of what waits -/
theorem Held.on (h : Held pl P) (l : List Int) : Held (pl.on l) P := by
  unfold PlateM.on
  split
  · exact ⟨fun n => settled_sec h l _ (Nat.le_refl _) n, by simp, by simp⟩
  · exact h
theorem Held.read (h : Held pl P) {n : Int} (hr : pl.ready n = 0) : pl.read n = if (pl.live n).size = 0 then (⟨#[]⟩, 20) else (pl.live n, 0) := by
  rw [PlateM.read, if_neg (by simpa using hr)]
  unfold PlateM.live
  cases hf : pl.queue.reverse.find? (fun x => decide (x.1 = n)) with
  | some x =>
    have hm := List.mem_of_find?_eq_some hf
    have := h.full x (by simpa using hm)
    simp [this]
  | none =>
    unfold PlateM.secAt
    have hb : blankB.size = 256 := by show (List.replicate 256 (0 : UInt8)).toArray.size = 256; rw [List.size_toArray, List.length_replicate]
    cases aget pl.sec n with
    | none =>
      rw [Option.getD_none, if_neg (by rw [hb]; decide)]
      rfl
    | some s => rfl
end
end Pl
end Go.Proofs.YtkmlppeligdbaaaDoor

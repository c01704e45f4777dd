/- Pages of slots: which images can be, and how many bytes they need. Conditions: none. -/
import Derived.Test.YtkmlppeligdbaaaDoorRows
import Derived.Test.YtkmlppeligdbaaaDoorData
import Derived.StillTailTactics
import Derived.Deep.QuietTactic
import Derived.BigQuiet
import Derived.Lib.Hide
namespace Go.Proofs.YtkmlppeligdbaaaDoor
namespace Sl
open Go.RowKit SepW
set_option linter.unusedVariables false
set_option linter.unusedSimpArgs false
set_option linter.unusedSectionVars false

structure Slot where
  used : Bool
  data : ByteArray
structure Page where
  lsn : Int
  slots : List Slot
def slotT : Ty Slot := ⟨2, by decide, fun _ x cs => cs = [.bool x.used, .string x.data], fun _ h => h, fun h => by cases h; rfl, fun h => by cases h; simp [Value.oneCell']⟩
def pageT : Ty Page := ⟨2, by decide, fun g x cs => ∃ v, cs = [.int .i64 x.lsn, v] ∧ SlK slotT g v x.slots, fun hg ⟨v, e, h⟩ => ⟨v, e, h.mono hg⟩, fun ⟨v, e, h⟩ => by rw [e]; rfl,
  fun ⟨v, e, a, c, e1, _⟩ => by rw [e, e1]; simp [Value.oneCell']⟩

def Slot.odd (x : Slot) : Bool := (!x.used && decide (x.data.size ≠ 0)) || decide (200 < x.data.size)
theorem size_zero (s : ByteArray) : (s.toList == []) = decide (s.size = 0) := by
  rw [Bool.eq_iff_iff, beq_iff_eq, decide_eq_true_eq, ByteArray.toList_eq]
  exact ⟨fun h => by have := congrArg List.length h; simpa using this, fun h => List.eq_nil_of_length_eq_zero (by simpa using h)⟩
set_option maxHeartbeats 400000 in
theorem isOdd_ct (x : Slot) (w : World) (hx : x.data.size ≤ 140737488355328) : Calls Tryd.prog 58 #[.agg #[.bool x.used, .string x.data]] w fun e w' => e = .returned (.bool x.odd) ∧ Below w.heap.size w w' := by
  have hz := size_zero x.data
  obtain ⟨u, d⟩ := x
  dsimp only at hz hx ⊢
  by_cases h0 : d.size = 0
  · have hb : (d.toList == []) = true := by rw [hz]; simpa using h0
    clear hz
    cases u
    all_goals
      go_enter Tryd.func58, Tryd.ntmps58
      go_wp2
      go_ret
      exact ⟨by simp [Slot.odd, h0], (Below.refl _ _).alloc (Nat.le_refl _) _⟩
  · have hb : (d.toList == []) = false := by rw [hz]; simpa using h0
    clear hz
    by_cases h2 : 200 < d.size <;> cases u
    all_goals
      go_enter Tryd.func58, Tryd.ntmps58
      go_wp2
      go_ret
      exact ⟨by simp [Slot.odd, h0, h2]; try omega, (Below.refl _ _).alloc (Nat.le_refl _) _⟩

/-- the first place at which it holds, or -1 -/
def indexOf {α : Type} (f : α → Bool) (l : List α) : Int := match l.findIdx? f with | some i => i | none => -1
theorem indexOf_at {α : Type} {f : α → Bool} {l : List α} {k : Nat} {x : α} (hx : l[k]? = some x) (hf : f x = true) (hno : ∀ (j : Nat) (y : α), j < k → l[j]? = some y → f y = false) : indexOf f l = k := by
  obtain ⟨hk, rfl⟩ := List.getElem?_eq_some_iff.1 hx
  have : l.findIdx? f = some k := by
    rw [List.findIdx?_eq_some_iff_getElem]
    exact ⟨hk, hf, fun j hj => by simp [hno j _ hj (List.getElem?_eq_getElem (by omega))]⟩
  rw [indexOf, this]
theorem indexOf_not {α : Type} {f : α → Bool} {l : List α} (hno : ∀ (j : Nat) (y : α), l[j]? = some y → f y = false) : indexOf f l = -1 := by
  have : l.findIdx? f = none := by
    rw [List.findIdx?_eq_none_iff]
    intro x hx
    obtain ⟨j, hj⟩ := List.getElem?_of_mem hx
    exact hno j x hj
  rw [indexOf, this]
section
variable {w : World} {L : List Atom}
set_option maxRecDepth 100000 in
set_option maxHeartbeats 800000 in
theorem indexOdd_ct {A : Option Addr} {cap : Nat} {l : List Slot} (hl : l.length ≤ 1000000) (hd : ∀ x ∈ l, x.data.size ≤ 140737488355328) (hS : Sat w (slA slotT (.slice A l.length cap) l :: L)) :
    Calls Tryd.prog 70 #[.slice A l.length cap, .func (.func 58) #[] #[]] w fun e w' => e = .returned (.int .i64 (indexOf Slot.odd l)) ∧ Below w.heap.size w w' := by
  go_enter Tryd.func70, Tryd.ntmps70
  go_wp2
  go_loopw [8] (fun v wr => ∃ k : Nat, v = .int .i64 k ∧ k ≤ l.length ∧ (∀ j x, j < k → l[j]? = some x → x.odd = false) ∧ Below w.heap.size w wr) (fun v _ => l.length - (intOf v).toNat)
  case atStart => exact ⟨0, rfl, Nat.zero_le _, fun j x h => by omega, Below.refl _ _⟩
  case round =>
    obtain ⟨k, rfl, hk, hno, hB⟩ := hrel
    have hNO := Lib.hid hno
    clear hno
    by_cases hlt : k < l.length
    · obtain ⟨b, off, rfl, g, hg, cs, hcs, hcell⟩ := (hS.below_grow hB).sl_at (List.getElem?_eq_getElem hlt)
      cases hcs
      have e0 := hcell 0 _ rfl
      have e1 := hcell 1 _ rfl
      simp only [slotT, Nat.add_zero] at e0 e1
      have hx := hd l[k] (List.getElem_mem hlt)
      have hget : l[k]? = some l[k] := List.getElem?_eq_getElem hlt
      have HG := Lib.hid hget
      clear hcell hg hget
      have HC := Lib.hid (isOdd_ct l[k] wr hx)
      cases ho : l[k].odd with
      | true =>
        have hres : indexOf Slot.odd l = k := indexOf_at HG.out ho hNO.out
        rw [ho] at HC
        have HR := Lib.hid hres
        clear hres ho
        generalize l[k] = x at *
        go_wp2_with (go_at_call 58; refine HC.out.mono ?_; rintro e w1 ⟨rfl, hb1⟩)
        go_ret
        exact ⟨by rw [HR.out]; rfl, hB.trans (hb1.mono hB.size)⟩
      | false =>
        rw [ho] at HC
        have HO := Lib.hid ho
        clear ho
        generalize l[k] = x at *
        go_wp2_with (go_at_call 58; refine HC.out.mono ?_; rintro e w1 ⟨rfl, hb1⟩)
        exact ⟨⟨k + 1, by simp, by omega, fun j y hj hy => by
          rcases Nat.lt_or_ge j k with h | h
          · exact hNO.out j y h hy
          · obtain rfl : j = k := by omega
            rw [HG.out] at hy; cases hy; exact HO.out, hB.trans (hb1.mono hB.size)⟩, by simp [intOf]; omega⟩
    · have hres : indexOf Slot.odd l = -1 := indexOf_not fun j y hy => hNO.out j y (by have := (List.getElem?_eq_some_iff.1 hy).1; omega) hy
      have HR := Lib.hid hres
      clear hres
      go_wp2
      go_ret
      exact ⟨by rw [HR.out]; rfl, hB⟩
theorem contains_eq (l : List Slot) : decide (0 ≤ indexOf Slot.odd l) = l.any Slot.odd := by
  cases h : l.findIdx? Slot.odd with
  | none =>
    rw [indexOf, h]
    rw [List.findIdx?_eq_none_iff] at h
    simpa using h
  | some i =>
    rw [indexOf, h]
    obtain ⟨hi, hf, _⟩ := List.findIdx?_eq_some_iff_getElem.1 h
    have : l.any Slot.odd = true := List.any_eq_true.2 ⟨_, List.getElem_mem hi, hf⟩
    rw [this]; simp
set_option maxRecDepth 100000 in
set_option maxHeartbeats 800000 in
theorem containsOdd_ct {A : Option Addr} {cap : Nat} {l : List Slot} (hl : l.length ≤ 1000000) (hd : ∀ x ∈ l, x.data.size ≤ 140737488355328) (hS : Sat w (slA slotT (.slice A l.length cap) l :: L)) :
    Calls Tryd.prog 57 #[.slice A l.length cap, .func (.func 58) #[] #[]] w fun e w' => e = .returned (.bool (l.any Slot.odd)) ∧ Below w.heap.size w w' := by
  have HC := Lib.hid (indexOdd_ct hl hd hS)
  rw [← contains_eq]
  generalize indexOf Slot.odd l = i at *
  go_enter Tryd.func57, Tryd.ntmps57
  go_wp2_with (go_at_call 70; refine HC.out.mono ?_; rintro e w1 ⟨rfl, hb1⟩)
  go_ret
  exact ⟨rfl, hb1⟩

def sizeOf (l : List Slot) : Nat := 9 + (l.map fun x => 1 + x.data.size).sum
theorem sizeOf_take {l : List Slot} {k : Nat} {x : Slot} (h : l[k]? = some x) : sizeOf (l.take (k + 1)) = sizeOf (l.take k) + (1 + x.data.size) := by
  simp [sizeOf, List.take_add_one, h]; omega
theorem sizeOf_le {l : List Slot} (hd : ∀ x ∈ l, x.data.size ≤ 200) : sizeOf l ≤ 9 + 201 * l.length := by
  unfold sizeOf
  induction l with
  | nil => simp
  | cons x l ih =>
    have := ih (fun y hy => hd y (by simp [hy]))
    have := hd x (by simp)
    simp only [List.map_cons, List.sum_cons, List.length_cons]
    omega
set_option maxRecDepth 100000 in
set_option maxHeartbeats 800000 in
theorem size_ct {A : Option Addr} {cap : Nat} {l : List Slot} (hl : l.length ≤ 1000) (hd : ∀ x ∈ l, x.data.size ≤ 200) (hS : Sat w (slA slotT (.slice A l.length cap) l :: L)) :
    Calls Tryd.prog 59 #[.slice A l.length cap] w fun e w' => e = .returned (.int .i64 (sizeOf l)) ∧ Below w.heap.size w w' := by
  go_enter Tryd.func59, Tryd.ntmps59
  go_wp2
  go_loopw [3, 8] (fun s v wr => ∃ k : Nat, v = .int .i64 k ∧ k ≤ l.length ∧ s = .int .i64 (sizeOf (l.take k) : Nat) ∧ Below w.heap.size w wr) (fun _ v _ => l.length - (intOf v).toNat)
  case atStart => exact ⟨0, rfl, Nat.zero_le _, rfl, Below.refl _ _⟩
  case round =>
    obtain ⟨k, rfl, hk, rfl, hB⟩ := hrel
    by_cases hlt : k < l.length
    · obtain ⟨b, off, rfl, g, hg, cs, hcs, hcell⟩ := (hS.below_grow hB).sl_at (List.getElem?_eq_getElem hlt)
      cases hcs
      have e0 := hcell 0 _ rfl
      have e1 := hcell 1 _ rfl
      simp only [slotT, Nat.add_zero] at e0 e1
      have hx := hd l[k] (List.getElem_mem hlt)
      have hs1 := sizeOf_take (List.getElem?_eq_getElem hlt)
      have hs2 := sizeOf_le (l := l.take k) (fun x hx => hd x (List.mem_of_mem_take hx))
      have hs3 : (l.take k).length ≤ 1000 := by simp; omega
      have hs4 : sizeOf (l.take k) ≤ 300000 := by omega
      have HS := Lib.hid hs1
      clear hcell hg hs1 hs2 hs3
      generalize l[k] = x at *
      generalize sizeOf (l.take k) = z at *
      go_wp2
      exact ⟨⟨k + 1, by simp, by omega, by rw [HS.out]; simp; try omega, hB.trans ((Below.refl _ _).alloc hB.size _)⟩, by simp [intOf]; omega⟩
    · obtain rfl : k = l.length := by omega
      rw [List.take_length]
      go_wp2
      go_ret
      exact ⟨rfl, hB⟩
end
end Sl
end Go.Proofs.YtkmlppeligdbaaaDoor

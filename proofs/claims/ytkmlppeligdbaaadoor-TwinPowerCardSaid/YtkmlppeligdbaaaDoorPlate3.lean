/- The device of sectors: what is read. Conditions: none. -/
import Derived.RangeFuncNested
import Derived.RangeFuncBound
import Derived.RangeFuncCalls
import Derived.RangeFuncLeaves
import Derived.RangeFuncFrom
import Derived.Shelf.Abstract
import Derived.Shelf.RegionOpen
import Derived.OwnWalkIn
import Derived.TacticsInMore
import Derived.LoopNIn
import Derived.LoopIn
import Derived.Test.YtkmlppeligdbaaaDoorPlate
import Derived.Test.YtkmlppeligdbaaaDoorShelf
namespace Go.Proofs.YtkmlppeligdbaaaDoor
namespace Pl
open Go.RowKit SepW Go.Shelf
set_option linter.unusedVariables false
set_option linter.unusedSimpArgs false
set_option linter.unusedSectionVars false
attribute [local go_sem] Oper.semAt_some

/-- the last indexes of a list of n elements, downwards -/
def downs (n k : Nat) : List Nat := (List.range k).map (fun j => n - 1 - j)
theorem downs_succ (n k : Nat) : downs n (k + 1) = downs n k ++ [n - 1 - k] := by simp [downs, List.range_succ]
theorem rev_downs {α : Type} (q : List α) (d : α) : q.reverse = (downs q.length q.length).map (fun i => q[i]?.getD d) := by
  apply List.ext_getElem
  · simp [downs]
  · intro i h1 h2
    have h3 : i < q.length := by simpa using h1
    have h4 : q.length - 1 - i < q.length := by omega
    simp [downs, h4]
theorem find_downs {α : Type} (q : List α) (d : α) (f : α → Bool) : q.reverse.find? f = ((downs q.length q.length).find? (fun i => f (q[i]?.getD d))).map (fun i => q[i]?.getD d) := by
  rw [rev_downs q d, List.find?_map]; rfl
theorem downs_prefix (n k : Nat) (h : k ≤ n) : ∃ r, downs n n = downs n k ++ r := by
  obtain ⟨m, rfl⟩ : ∃ m, n = k + m := ⟨n - k, by omega⟩
  refine ⟨(List.range m).map (fun j => k + m - 1 - (k + j)), ?_⟩
  simp [downs, List.range_add]
theorem downs_length (n k : Nat) : (downs n k).length = k := by simp [downs]

set_option maxRecDepth 100000 in
set_option maxHeartbeats 2000000 in
theorem backward_in (F : Fence) (n : Nat) (h40 : F.fn 40) (hro : F.round = none) (hn : 1 ≤ n) (l Bs n₀ len cap : Nat) (A : Option Addr) (zs : List (Int × ByteArray)) (hz : zs.length = len) (hreach : len ≤ 1000000) (hBs0 : Bs < n₀) (J Jx : List Nat → World → Prop)
    (hY : ∀ pre x W, J pre W → pre.length < len → YieldAt F (n - 1) Tryd.prog l #[.int .i64 (x : Nat), .agg #[.int .i64 (zs[x]?.getD (0, ⟨#[]⟩)).1, .string (zs[x]?.getD (0, ⟨#[]⟩)).2]] W fun e W' =>
      (e = .returned (.bool true) ∧ J (pre ++ [x]) W' ∧ Below n₀ W W') ∨ (e = .returned (.bool false) ∧ Jx (pre ++ [x]) W'))
    (W : World) (hBs : W.cell? ⟨Bs, 0, none⟩ = some (.slice A len cap)) (hc : ∀ j x, zs[j]? = some x → ∃ b, A = some ⟨b, 0, none⟩ ∧ b < n₀ ∧ W.cell? ⟨b, j * 2, none⟩ = some (.int .i64 x.1) ∧ W.cell? ⟨b, j * 2 + 1, none⟩ = some (.string x.2)) (h0 : J [] W) :
    CallsIn F n Tryd.prog 40 #[.func (.yield l) #[] #[], .pointer (some ⟨Bs, 0, none⟩)] W fun e W' => (∃ v, e = .returned v) ∧
      ((∃ ys, ys = downs len len ∧ J ys W') ∨ (∃ pre, (∃ k, k ≤ len ∧ pre = downs len k) ∧ Jx pre W')) := by
  refine callsIn_of_wp Tryd.func40 rfl h40 ?_ hro
  simp only [Tryd.ntmps40, List.size_toArray, List.length_cons, List.length_nil, Nat.reduceAdd, Nat.reduceSub, Array.replicate_succ, Array.replicate_zero, List.push_toArray, List.append_toArray, List.nil_append, List.cons_append]
  gi_wp2
  gi_loopw [3] (fun i wr => ∃ k : Nat, k ≤ len ∧ i = .int .i64 ((len : Int) - k - 1) ∧ J (downs len k) wr ∧ Below n₀ W wr)
    (fun i _ => (intOf i + 1).toNat)
  case atStart => exact ⟨0, Nat.zero_le _, by simp, h0, Below.refl _ _⟩
  case round =>
    obtain ⟨k, hk, rfl, hJs, hnx⟩ := hrel
    by_cases hlt : k < len
    · obtain ⟨fn, tmps, assign, body, hy, hR⟩ := hY _ (len - 1 - k) wr hJs (by rw [downs_length]; exact hlt)

      have hj : len - 1 - k < zs.length := by omega
      obtain ⟨b, rfl, hb, q0, q1⟩ := hc (len - 1 - k) _ (List.getElem?_eq_getElem hj)
      have e0 := (hnx.cell (p := ⟨b, (len - 1 - k) * 2, none⟩) hb).trans q0
      have e1 := (hnx.cell (p := ⟨b, (len - 1 - k) * 2 + 1, none⟩) hb).trans q1
      have eB := (hnx.cell (p := ⟨Bs, 0, none⟩) hBs0).trans hBs
      rw [show zs[len - 1 - k]?.getD (0, ⟨#[]⟩) = zs[len - 1 - k] by simp [hj]] at hy
      have hi : ((len : Int) - k - 1) = ((len - 1 - k : Nat) : Int) := by omega
      rw [hi]
      have hlt2 : len - 1 - k < len := by omega
      have HI := Lib.hid hi
      clear hi q0 q1 hc
      generalize len - 1 - k = d at *
      gi_wp2
      refine hR.mono ?_
      rintro e W3 (⟨rfl, hJ3, hk3⟩ | ⟨rfl, hJx3⟩)
      · gi_wp2
        go_roundw
        case rel => exact ⟨k + 1, by omega, by have := HI.out; rw [show ((len : Int) - (k + 1 : Nat) - 1) = (d : Int) - 1 by omega], by rw [downs_succ, show len - 1 - k = d by have := HI.out; omega]; exact hJ3, hnx.trans hk3⟩
        case measure => simp [intOf]
      · gi_wp2
        refine bodyPost_ret (results_none rfl _ _ _) rfl ?_
        exact ⟨⟨_, rfl⟩, .inr ⟨_, ⟨k + 1, by omega, by rw [downs_succ, show len - 1 - k = d by have := HI.out; omega]⟩, hJx3⟩⟩
    · obtain rfl : k = len := by omega
      rw [show ((k : Int) - k - 1) = -1 by omega]
      gi_wp2
      go_end0
      exact ⟨⟨_, rfl⟩, .inl ⟨_, rfl, hJs⟩⟩

def PlateM.read (pl : PlateM) (n : Int) : ByteArray × Int :=
  if pl.ready n ≠ 0 then (⟨#[]⟩, pl.ready n) else match pl.queue.reverse.find? (fun x => decide (x.1 = n)) with
    | some x => (x.2, 0)
    | none => match aget pl.sec n with
      | none => (⟨(List.replicate 256 0).toArray⟩, 0)
      | some s => if s.size = 0 then (⟨#[]⟩, 20) else (s, 0)
section
variable {w : World} {L : List Atom} {p : Nat} {pl : PlateM}
theorem backward_ct (A : Option Addr) (n c : Nat) : Calls Tryd.prog 31 #[.slice A n c] w fun e w' => e = .returned (.func (.func 40) #[] #[.pointer (some ⟨w.heap.size, 0, none⟩)]) ∧ w.alloc (.cells #[.slice A n c] 55) = w' := by
  go_enter Tryd.func31, Tryd.ntmps31
  go_wp2
  go_ret
  exact ⟨rfl, rfl⟩
set_option maxRecDepth 100000 in
set_option maxHeartbeats 1600000 in
theorem read_no (n : Int) (hr : pl.ready n ≠ 0) (hS : Sat w (plateA p pl :: L)) :
    Calls Tryd.prog 15 #[.pointer (some ⟨p, 0, none⟩), .int .i64 n] w fun e w' => e = .returned (.tuple #[.string ⟨#[]⟩, .int .i64 (pl.ready n)]) ∧ Sat w' (plateA p pl :: L) := by
  refine (callsIn_wide (n := 3)).1 ?_
  have hb : (pl.ready n == 0) = false := by simpa using hr
  have hb' : (pl.ready n != 0) = true := by simpa using hr
  have hS1 := ((hS.alloc' (.cells #[.int .i64 n] 3)).alloc' (.cells #[.string ⟨#[]⟩] 9)).alloc' (.cells #[.int .i64 0] 29)
  have hct := Lib.hid (ready_ct n hS1)
  have hS' := ((hS.alloc' (.cells #[.int .i64 n] 3)).alloc' (.cells #[.string ⟨#[]⟩] 9)).alloc' (.cells #[.int .i64 (pl.ready n)] 29)
  refine callsIn_of_wp_marks Tryd.func15 rfl trivial ?_ rfl
  simp only [Tryd.ntmps15, List.size_toArray, List.length_cons, List.length_nil, Nat.reduceAdd, Nat.reduceSub, Array.replicate_succ, Array.replicate_zero, List.push_toArray, List.append_toArray, List.nil_append, List.cons_append]
  gi_wp2_with (first | (refine ⟨trivial, ?_⟩; gi_at_call 30; refine (callsIn_wide.2 hct.out).mono ?_; rintro e w' ⟨rfl, rfl⟩))
  exact ⟨.tuple #[.string ⟨#[]⟩, .int .i64 (pl.ready n)], by simp [results, Tryd.results15, go_sem], rfl, hS'⟩
theorem read_end {V : World} {D : Nat} {x y : Value} (s : ByteArray) (e : Int) (hS : Sat w (plateA p pl :: L)) (hB : Below w.heap.size w V) (hD : w.heap.size + 3 ≤ D) (hK : V.heap[D]? = some (.deferred (some [])))
    (q4 : V.cell? ⟨w.heap.size + 1, 0, none⟩ = some x) (q5 : V.cell? ⟨w.heap.size + 1 + 1, 0, none⟩ = some y) :
    ((V.setCell ⟨w.heap.size + 1, 0, none⟩ (.string s)).setCell ⟨w.heap.size + 1 + 1, 0, none⟩ (.int .i64 e)).heap[D]? = some (.deferred (some [])) ∧
    (((V.setCell ⟨w.heap.size + 1, 0, none⟩ (.string s)).setCell ⟨w.heap.size + 1 + 1, 0, none⟩ (.int .i64 e)).putObj D (.deferred none)).cell? ⟨w.heap.size + 1, 0, none⟩ = some (.string s) ∧
    (((V.setCell ⟨w.heap.size + 1, 0, none⟩ (.string s)).setCell ⟨w.heap.size + 1 + 1, 0, none⟩ (.int .i64 e)).putObj D (.deferred none)).cell? ⟨w.heap.size + 1 + 1, 0, none⟩ = some (.int .i64 e) ∧
    Sat (((V.setCell ⟨w.heap.size + 1, 0, none⟩ (.string s)).setCell ⟨w.heap.size + 1 + 1, 0, none⟩ (.int .i64 e)).putObj D (.deferred none)) (plateA p pl :: L) := by
  have h1 : ((V.setCell ⟨w.heap.size + 1, 0, none⟩ (.string s)).setCell ⟨w.heap.size + 1 + 1, 0, none⟩ (.int .i64 e)).heap[D]? = some (.deferred (some [])) := by
    rw [Below.heap_setCell _ _ _ _ (by show D ≠ w.heap.size + 1 + 1; omega), Below.heap_setCell _ _ _ _ (by show D ≠ w.heap.size + 1; omega)]; exact hK
  refine ⟨h1, ?_, ?_, ?_⟩
  · rw [World.cell?_of_block (World.putObj_heap_other (by show w.heap.size + 1 ≠ D; omega)), World.cell?_setCell_other _ _ _ _ (by simp)]
    exact World.cell?_setCell_same _ _ _ q4
  · rw [World.cell?_of_block (World.putObj_heap_other (by show w.heap.size + 1 + 1 ≠ D; omega))]
    exact World.cell?_setCell_same _ _ _ ((World.cell?_setCell_other _ _ _ _ (by simp)).trans q5)
  · refine hS.below_grow (Below.trans ((hB.setCell (p := ⟨w.heap.size + 1, 0, none⟩) (by show _ ≤ w.heap.size + 1; omega) (.string s)).setCell (p := ⟨w.heap.size + 1 + 1, 0, none⟩) (by show _ ≤ w.heap.size + 1 + 1; omega) (.int .i64 e)) ?_)
    exact belowK_b (w := w) (Nat.le_refl _) _ D _ _ (by omega) h1 rfl rfl
theorem below_drewN' {B : Nat} {a W : World} (h : Below B a W) (q : Nat) : Below B a (W.drewN q) := ⟨h.os, h.tape, h.output, h.size, h.block⟩
theorem repeat_zero : Lib.repeatL [0] 256 = List.replicate 256 0 := by decide +kernel
abbrev rdFrame (p : Nat) (n : Int) (B k c D : Nat) (A : Option Addr) (t8 t22 t23 : Value) : Array Value := #[.pointer (some ⟨p, 0, none⟩), .int .i64 n, undef, .pointer (some ⟨B, 0, none⟩), .pointer (some ⟨B + 1, 0, none⟩), .pointer (some ⟨B + 1 + 1, 0, none⟩), .int .i64 0, undef, t8, undef, undef, .pointer (some ⟨p, 0, none⟩), .int .i64 n, .int .i64 0, .int .i64 0, .bool false, undef, .pointer (some ⟨p, 0, none⟩), .pointer (some ⟨p, 0, none⟩), .pointer (some ⟨p, 2, none⟩), .slice A k c, .func (.func 40) #[] #[.pointer (some ⟨D, 0, none⟩)], t22, t23, undef, undef, undef, undef, undef, undef, undef, undef, undef, undef, undef, undef, undef, undef, undef, undef, undef, undef, undef, undef, undef, undef, undef]
set_option maxRecDepth 100000 in
set_option maxHeartbeats 3200000 in
theorem read_yes (n : Int) (hr : pl.ready n = 0) (hlen : pl.queue.length < 1000000) (hS : Sat w (plateA p pl :: L)) :
    Calls Tryd.prog 15 #[.pointer (some ⟨p, 0, none⟩), .int .i64 n] w (Rt fun v w' => v = .tuple #[.string (pl.read n).1, .int .i64 (pl.read n).2] ∧ Sat w' (plateA p pl :: L)) := by
  refine (callsIn_wide (n := 3)).1 ?_
  obtain ⟨W1, hW1⟩ : ∃ W1, W1 = ((w.alloc (.cells #[.int .i64 n] 3)).alloc (.cells #[.string ⟨#[]⟩] 9)).alloc (.cells #[.int .i64 0] 29) := ⟨_, rfl⟩
  have hS1 : Sat W1 (raw (w.heap.size + 2) (.cells #[.int .i64 0] 29) :: raw (w.heap.size + 1) (.cells #[.string ⟨#[]⟩] 9) :: raw w.heap.size (.cells #[.int .i64 n] 3) :: plateA p pl :: L) := by
    have h := ((hS.alloc (.cells #[.int .i64 n] 3)).alloc (.cells #[.string ⟨#[]⟩] 9)).alloc (.cells #[.int .i64 0] 29)
    simp only [World.size_alloc] at h
    rw [hW1]; exact h
  have hz1 : W1.heap.size = w.heap.size + 3 := by rw [hW1]; simp
  have hct0 := ready_ct n hS1.f3
  rw [hr] at hct0
  have hct := Lib.hid hct0
  obtain ⟨m, A, c, hR⟩ := plate_out hS1.f3
  obtain ⟨c0, c1, c2, c3, c4, c5, c6, fz⟩ := cells7 hR.raw_block
  have n3 := (cells1 hS1.f2.raw_block).1
  have n4 := (cells1 hS1.f1.raw_block).1
  have n5 := (cells1 hS1.raw_block).1
  have HW1 := Lib.hid hW1
  have HZ := Lib.hid hz1
  have HR0 := Lib.hid hr
  clear hct0 hr hW1 hz1
  refine callsIn_of_wp_marks Tryd.func15 rfl trivial ?_ rfl
  simp only [Tryd.ntmps15, List.size_toArray, List.length_cons, List.length_nil, Nat.reduceAdd, Nat.reduceSub, Array.replicate_succ, Array.replicate_zero, List.push_toArray, List.append_toArray, List.nil_append, List.cons_append]
  gi_wp2_with (first | (refine ⟨trivial, ?_⟩; gi_at_call 30; rw [← HW1.out]; refine (callsIn_wide.2 hct.out).mono ?_; rintro e w' ⟨rfl, rfl⟩) | (refine ⟨trivial, ?_⟩; gi_at_call 31; refine (callsIn_wide.2 (backward_ct _ _ _)).mono ?_; rintro e w' ⟨rfl, rfl⟩))
  have hbs : (W1.alloc (.cells #[.slice A pl.queue.length c] 55)).cell? ⟨W1.heap.size, 0, none⟩ = some (.slice A pl.queue.length c) := (cells1 (hS1.alloc _).raw_block).1
  have hrow : ∀ j x, pl.queue[j]? = some x → ∃ b, A = some ⟨b, 0, none⟩ ∧ b < W1.heap.size ∧ (W1.alloc (.cells #[.slice A pl.queue.length c] 55)).cell? ⟨b, j * 2, none⟩ = some (.int .i64 x.1) ∧ (W1.alloc (.cells #[.slice A pl.queue.length c] 55)).cell? ⟨b, j * 2 + 1, none⟩ = some (.string x.2) := by
    intro j x hx
    obtain ⟨b, rfl, g, hg, cs, hcs, hcell⟩ := hR.f2.row_at hx
    cases hcs
    have e0 := hcell 0 _ rfl
    have e1 := hcell 1 _ rfl
    simp only [wrT, Nat.add_zero] at e0 e1
    have hb := World.block_lt_of_cell? _ _ e0
    exact ⟨b, rfl, hb, by rw [World.cell?_alloc_lt W1 _ ⟨b, j * 2, none⟩ hb]; exact e0, by rw [World.cell?_alloc_lt W1 _ ⟨b, j * 2 + 1, none⟩ hb]; exact e1⟩
  obtain ⟨W2, hW2⟩ : ∃ W2, W1.alloc (.cells #[.slice A pl.queue.length c] 55) = W2 := ⟨_, rfl⟩
  have hz2 : W2.heap.size = W1.heap.size + 1 := by rw [← hW2]; simp
  have hB2 : Below w.heap.size w W2 := by
    rw [← hW2, HW1.out]
    exact ((((Below.refl _ w).alloc (Nat.le_refl _) _).alloc (by simp) _).alloc (by simp; omega) _).alloc (by simp; omega) _
  have hz1 := HZ.out
  have m4 : W2.cell? ⟨w.heap.size + 1, 0, none⟩ = some (.string ⟨#[]⟩) := by rw [← hW2, World.cell?_alloc_lt W1 _ ⟨w.heap.size + 1, 0, none⟩ (by simp; omega)]; exact n4
  rw [hW2] at hbs hrow ⊢
  have HZ2 := Lib.hid hz2
  have HW2 := Lib.hid hW2
  clear hz1 hz2 hW2
  refine wpIn_rangeFunc_ownH (F := Fence.wide) (n := 3) rfl (by omega) (gf := 40) (lb := #[.pointer (some ⟨W1.heap.size, 0, none⟩)]) rfl trivial (enters_of Tryd.func40 (by kernel_rfl) rfl)
    (encs := fun x : Nat => #[.int .i64 (x : Nat), .agg #[.int .i64 (pl.queue[x]?.getD (0, ⟨#[]⟩)).1, .string (pl.queue[x]?.getD (0, ⟨#[]⟩)).2]]) (Kp := Below W2.heap.size) (N := pl.queue.length)
    (S := fun ys => ys = downs pl.queue.length pl.queue.length) (Sp := fun pre => ∃ k, k ≤ pl.queue.length ∧ pre = downs pl.queue.length k)
    (w0 := W2) ?seq belowK_t (belowK_b (by simp)) (Below.refl _ _) (fun _ => rfl)
    (fun pre W => Below W2.heap.size W2 W ∧ ∀ i ∈ pre, (pl.queue[i]?.getD (0, ⟨#[]⟩)).1 ≠ n)
    (fun cd pre W => cd = .ret ∧ Below w.heap.size w W ∧ ∃ pre' i, pre = pre' ++ [i] ∧ (∀ i ∈ pre', (pl.queue[i]?.getD (0, ⟨#[]⟩)).1 ≠ n) ∧ (pl.queue[i]?.getD (0, ⟨#[]⟩)).1 = n ∧ W.cell? ⟨w.heap.size + 1, 0, none⟩ = some (.string (pl.queue[i]?.getD (0, ⟨#[]⟩)).2) ∧ W.cell? ⟨w.heap.size + 2, 0, none⟩ = some (.int .i64 0))
    ?hI ?hIx ?h0
    (fun x a' W => ∃ Bx, W2.heap.size ≤ Bx ∧ W.heap[Bx]? = some (.cells #[.int .i64 (pl.queue[x]?.getD (0, ⟨#[]⟩)).1, .string (pl.queue[x]?.getD (0, ⟨#[]⟩)).2] 71 (0, 0)) ∧ a' = { tmps := rdFrame p n w.heap.size pl.queue.length c W1.heap.size A (.pointer (some ⟨Bx, 0, none⟩)) (.int .i64 (x : Nat)) (.agg #[.int .i64 (pl.queue[x]?.getD (0, ⟨#[]⟩)).1, .string (pl.queue[x]?.getD (0, ⟨#[]⟩)).2]), defers := [] })
    ?hAx ?assign ?body ?done ?stop
  case seq =>
    intro l J Jx W hW hJ hJx hY h0
    have hz2 := HZ2.out
    refine backward_in Fence.wide (3 - 1) trivial rfl (by omega) l W1.heap.size W2.heap.size pl.queue.length c A pl.queue rfl (by omega) (by omega) J Jx hY W ?_ ?_ h0
    · rw [hW.cell (p := ⟨W1.heap.size, 0, none⟩) (by simp; omega)]; exact hbs
    · intro j x hx
      obtain ⟨b, rfl, hb, e0, e1⟩ := hrow j x hx
      exact ⟨b, rfl, by omega, by rw [hW.cell (p := ⟨b, j * 2, none⟩) (by simp; omega)]; exact e0, by rw [hW.cell (p := ⟨b, j * 2 + 1, none⟩) (by simp; omega)]; exact e1⟩
  case hI =>
    intro s X Y row hs hg hr
    exact ⟨hs.1.grown hg hs.1.size (fun k e => (hr k e).1), hs.2⟩
  case hIx =>
    rintro cd s X Y row ⟨h1, h2, pre', i, h3, h4, h5, h6, h7⟩ hg hr
    have hz1 := HZ.out
    have hz2 := HZ2.out
    have hne : ∀ k, k < W2.heap.size → some k ≠ row := fun k hk e => by have := (hr k e.symm).1; omega
    exact ⟨h1, h2.grown hg h2.size (fun k e => by have := (hr k e).1; omega), pre', i, h3, h4, h5, hg.cell h6 (hne _ (by show w.heap.size + 1 < _; omega)), hg.cell h7 (hne _ (by show w.heap.size + 2 < _; omega))⟩
  case h0 => exact ⟨Below.refl _ _, by simp⟩
  case hAx =>
    rintro x a' s X Y row ⟨Bx, h1, h2, h3⟩ hg hr
    refine ⟨Bx, h1, ?_, h3⟩
    rw [hg.block Bx (Array.getElem?_eq_some_iff.1 h2).1 (fun e => by obtain ⟨_, o, ho, hc⟩ := hr Bx e.symm; rw [h2] at ho; cases ho; simp [Obj.isCells] at hc)]
    exact h2
  case assign =>
    intro l pre x W K hI hK
    gi_wp2
    exact hK _ _ ((KeepsOthers.alloc _ _).from _) ((Below.refl _ W).alloc hI.1.size _) ⟨hI.1.trans ((Below.refl _ W).alloc hI.1.size _), hI.2⟩ ⟨W.heap.size, hI.1.size, World.alloc_heap_new W _, rfl⟩
  case body =>
    rintro l pre x a' W hl hr ⟨hB, hpre⟩ ⟨Bx, hBx, hcx, rfl⟩ hlt
    have hz1 := HZ.out
    have hz2 := HZ2.out
    obtain ⟨x0, x1, xz⟩ := cells2 hcx
    have k3 : W.cell? ⟨w.heap.size, 0, none⟩ = some (.int .i64 n) := by rw [hB.cell (p := ⟨w.heap.size, 0, none⟩) (by show w.heap.size < _; omega), ← HW2.out, World.cell?_alloc_lt W1 _ ⟨w.heap.size, 0, none⟩ (by show w.heap.size < _; omega)]; exact n3
    have k4 : W.cell? ⟨w.heap.size + 1, 0, none⟩ = some (.string ⟨#[]⟩) := by rw [hB.cell (p := ⟨w.heap.size + 1, 0, none⟩) (by show w.heap.size + 1 < _; omega)]; exact m4
    have k5 : W.cell? ⟨w.heap.size + 2, 0, none⟩ = some (.int .i64 0) := by rw [hB.cell (p := ⟨w.heap.size + 2, 0, none⟩) (by show w.heap.size + 2 < _; omega), ← HW2.out, World.cell?_alloc_lt W1 _ ⟨w.heap.size + 2, 0, none⟩ (by show w.heap.size + 2 < _; omega)]; exact n5
    have f4 : W.frozen? ⟨w.heap.size + 1, 0, none⟩ = false := by rw [hB.frozen (p := ⟨w.heap.size + 1, 0, none⟩) (by show w.heap.size + 1 < _; omega), ← HW2.out, World.frozen?_alloc_old W1 _ ⟨w.heap.size + 1, 0, none⟩ (by show w.heap.size + 1 ≠ _; omega)]; exact (cells1 hS1.f1.raw_block).2 0
    have f5 : W.frozen? ⟨w.heap.size + 2, 0, none⟩ = false := by rw [hB.frozen (p := ⟨w.heap.size + 2, 0, none⟩) (by show w.heap.size + 2 < _; omega), ← HW2.out, World.frozen?_alloc_old W1 _ ⟨w.heap.size + 2, 0, none⟩ (by show w.heap.size + 2 ≠ _; omega)]; exact (cells1 hS1.raw_block).2 0
    clear hz1 hz2 c0 c1 c2 c3 c4 c5 c6 fz n3 n4 n5 m4 hbs hrow
    by_cases hx : (pl.queue[x]?.getD (0, ⟨#[]⟩)).1 = n
    · have hb : ((pl.queue[x]?.getD (0, ⟨#[]⟩)).1 == n) = true := by simpa using hx
      have HX := Lib.hid hx
      clear hx
      gi_wp2
      have hz1 := HZ.out
      have hz2 := HZ2.out
      have q4 : (W.setCell ⟨w.heap.size + 1, 0, none⟩ (.string (pl.queue[x]?.getD (0, ⟨#[]⟩)).2)).cell? ⟨w.heap.size + 1, 0, none⟩ = some (.string (pl.queue[x]?.getD (0, ⟨#[]⟩)).2) := World.cell?_setCell_same _ _ _ k4
      have q5 : (W.setCell ⟨w.heap.size + 1, 0, none⟩ (.string (pl.queue[x]?.getD (0, ⟨#[]⟩)).2)).cell? ⟨w.heap.size + 2, 0, none⟩ = some (.int .i64 0) := by rw [World.cell?_setCell_other _ _ _ _ (by simp)]; exact k5
      refine ⟨((KeepsOthers.setCell _ _ _).trans (KeepsOthers.setCell _ _ _)).from _, rfl, (((hB2.trans (hB.mono (by omega))).setCell (p := ⟨w.heap.size + 1, 0, none⟩) (by show _ ≤ w.heap.size + 1; omega) _).setCell (p := ⟨w.heap.size + 1 + 1, 0, none⟩) (by show _ ≤ w.heap.size + 1 + 1; omega) _), pre, x, rfl, hpre, HX.out, ?_, ?_⟩
      · rw [World.cell?_setCell_other _ _ _ _ (by simp)]; exact q4
      · exact World.cell?_setCell_same _ _ _ q5
    · have hb : ((pl.queue[x]?.getD (0, ⟨#[]⟩)).1 == n) = false := by simpa using hx
      gi_wp2
      exact ⟨KeepsFrom.refl _ _, Below.refl _ _, hB, fun i hi => by
        rcases List.mem_append.1 hi with hi | hi
        · exact hpre i hi
        · simp at hi; subst hi; exact hx⟩
  case stop =>
    rintro D cd pre W hD ⟨k, hk, hp⟩ ⟨rfl, hB, pre', i, h1, h2, h3, h4, h5⟩ hK
    have hz1 := HZ.out
    have hz2 := HZ2.out
    have hfound : pl.read n = ((pl.queue[i]?.getD (0, ⟨#[]⟩)).2, 0) := by
      have hf : pl.queue.reverse.find? (fun x => decide (x.1 = n)) = some (pl.queue[i]?.getD (0, ⟨#[]⟩)) := by
        obtain ⟨r, hr⟩ := downs_prefix pl.queue.length k hk
        rw [find_downs _ (0, ⟨#[]⟩), hr, ← hp, h1, List.append_assoc, List.find?_append, List.find?_eq_none.2 (by intro j hj; simpa using h2 j hj)]
        simp [h3]
      rw [PlateM.read, if_neg (by simpa using HR0.out), hf]
    have h4' : (W.putObj D (.deferred none)).cell? ⟨w.heap.size + 1, 0, none⟩ = some (.string (pl.queue[i]?.getD (0, ⟨#[]⟩)).2) := (World.cell?_of_block (World.putObj_heap_other (by show w.heap.size + 1 ≠ D; omega))).trans h4
    have h5' : (W.putObj D (.deferred none)).cell? ⟨w.heap.size + 1 + 1, 0, none⟩ = some (.int .i64 0) := (World.cell?_of_block (World.putObj_heap_other (by show w.heap.size + 1 + 1 ≠ D; omega))).trans h5
    have hSf : Sat (W.putObj D (.deferred none)) (plateA p pl :: L) := hS.below_grow (hB.trans (belowK_b (w := w) (Nat.le_refl _) W D _ _ (by omega) hK rfl rfl))
    clear hz1 hz2
    gi_wp2
    refine ⟨by simp, .inl ⟨_, _, rfl, run_takeDeferred hK, ?_⟩⟩
    exact ⟨.tuple #[.string (pl.queue[i]?.getD (0, ⟨#[]⟩)).2, .int .i64 0], by simp [results, Tryd.results15, go_sem, h4', h5'], ⟨_, rfl, by rw [hfound], hSf⟩⟩
  case done =>
    rintro D ys W hD rfl ⟨hB, hpre⟩ hK
    have hz1 := HZ.out
    have hz2 := HZ2.out
    have hSW : Sat W (raw p (plObj pl m A c) :: secA m pl.sec :: rowA wrT 71 A c pl.queue :: raw (w.heap.size + 2) (.cells #[.int .i64 0] 29) :: raw (w.heap.size + 1) (.cells #[.string ⟨#[]⟩] 9) :: raw w.heap.size (.cells #[.int .i64 n] 3) :: L) := by
      have h := hR.alloc' (.cells #[.slice A pl.queue.length c] 55)
      rw [HW2.out] at h
      exact h.below_grow hB
    have hnone : pl.queue.reverse.find? (fun x => decide (x.1 = n)) = none := by
      rw [find_downs _ (0, ⟨#[]⟩), List.find?_eq_none.2 (by intro j hj; simpa using hpre j hj)]; rfl
    obtain ⟨d0, d1, d2, d3, d4, d5, d6, dz⟩ := cells7 hSW.raw_block
    have r3 := (cells1 hSW.f5.raw_block).1
    have r4 := cells1 hSW.f4.raw_block
    have r5 := cells1 hSW.f3.raw_block
    have hlook0 : ∀ q, (Instr.lookup 54 (.map (some m)) (.int .i64 n) true).run Tryd.prog (W.drewN q) = _ := fun q => Sat.lookup (E := intKey) (ev := Value.string) (P := Tryd.prog) (w := W.drewN q) (z := .string ⟨#[]⟩) Tryd.underlying54 Tryd.underlying3 (by kernel_rfl) (hSW.f1.grow (fun _ _ => rfl) rfl rfl rfl) n true
    clear hz1 hz2 c0 c1 c2 c3 c4 c5 c6 fz n3 n4 n5 m4 hbs hrow
    cases hag : aget pl.sec n with
    | none =>
      have hlook := hlook0
      rw [hag] at hlook
      simp only [if_true, Option.map_none, Option.getD_none, Option.isSome_none] at hlook
      clear hlook0
      gi_wp2
      refine wpIn_wide.2 ?_
      go_quiet (fail)
      have r4a := r4.1
      have r4b := r4.2
      have r5a := r5.1
      have r5b := r5.2
      gi_wp2_with (refine ⟨trivial, ?_⟩; gi_at_call 32; refine (callsIn_wide.2 (Tryd.strings_Repeat ⟨#[0]⟩ 256 _ (by omega) (by decide))).mono ?_; rintro e w1 ⟨rfl, hb1⟩; have q4 := (hb1.cell (p := ⟨w.heap.size + 1, 0, none⟩) (by have := HZ.out; have := HZ2.out; have := hB.size; show w.heap.size + 1 < W.heap.size; omega)).trans r4a; have q5 := (hb1.cell (p := ⟨w.heap.size + 1 + 1, 0, none⟩) (by have := HZ.out; have := HZ2.out; have := hB.size; show w.heap.size + 1 + 1 < W.heap.size; omega)).trans r5a; have g4 := (hb1.frozen (p := ⟨w.heap.size + 1, 0, none⟩) (by have := HZ.out; have := HZ2.out; have := hB.size; show w.heap.size + 1 < W.heap.size; omega)).trans (r4b 0); have g5 := (hb1.frozen (p := ⟨w.heap.size + 1 + 1, 0, none⟩) (by have := HZ.out; have := HZ2.out; have := hB.size; show w.heap.size + 1 + 1 < W.heap.size; omega)).trans (r5b 0))
      have hk1 : w1.heap[D]? = some (.deferred (some [])) := (hb1.block D (Array.getElem?_eq_some_iff.1 hK).1).trans hK
      have hz1 := HZ.out
      have hz2 := HZ2.out
      obtain ⟨e1, e2, e3, e4⟩ := read_end (V := w1) (D := D) ⟨(Lib.repeatL [0] 256).toArray⟩ 0 hS ((below_drewN' (hB2.trans (hB.mono (by omega))) nq).trans (hb1.mono (by have := hB.size; show w.heap.size ≤ W.heap.size; omega))) (by omega) hk1 q4 q5
      refine ⟨by simp, .inl ⟨_, _, rfl, run_takeDeferred e1, ?_⟩⟩
      exact ⟨.tuple #[.string ⟨(Lib.repeatL [0] 256).toArray⟩, .int .i64 0], by simp [results, Tryd.results15, go_sem, e2, e3], ⟨_, rfl, by rw [PlateM.read, if_neg (by simpa using HR0.out), hnone, hag, repeat_zero], e4⟩⟩
    | some s =>
      have hlook := hlook0
      rw [hag] at hlook
      simp only [if_true, Option.map_some, Option.getD_some, Option.isSome_some] at hlook
      clear hlook0
      have r4a := r4.1
      have r4b := r4.2
      have r5a := r5.1
      have r5b := r5.2
      by_cases hs : s.size = 0
      · have hb : (s.toList == []) = true := by
          have h0 : s.data.toList = [] := List.eq_nil_of_length_eq_zero (by simpa using hs)
          rw [ByteArray.toList_eq, h0]; rfl
        gi_wp2
        refine wpIn_wide.2 ?_
        go_quiet (fail)
        gi_wp2
        have hz1 := HZ.out
        have hz2 := HZ2.out
        obtain ⟨e1, e2, e3, e4⟩ := read_end (V := W.drewN nq) (D := D) ⟨#[]⟩ 20 hS (below_drewN' (hB2.trans (hB.mono (by omega))) nq) (by omega) hK r4a r5a
        refine ⟨by simp, .inl ⟨_, _, rfl, run_takeDeferred e1, ?_⟩⟩
        exact ⟨.tuple #[.string ⟨#[]⟩, .int .i64 20], by simp [results, Tryd.results15, go_sem, e2, e3], ⟨_, rfl, by rw [PlateM.read, if_neg (by simpa using HR0.out), hnone, hag]; simp only [hs, if_true, if_false], e4⟩⟩
      · have hb : (s.toList == []) = false := by
          rw [ByteArray.toList_eq, beq_eq_false_iff_ne]
          intro h0
          have := congrArg List.length h0
          exact hs (by simpa using this)
        gi_wp2
        refine wpIn_wide.2 ?_
        go_quiet (fail)
        gi_wp2
        have hz1 := HZ.out
        have hz2 := HZ2.out
        obtain ⟨e1, e2, e3, e4⟩ := read_end (V := W.drewN nq) (D := D) s 0 hS (below_drewN' (hB2.trans (hB.mono (by omega))) nq) (by omega) hK r4a r5a
        refine ⟨by simp, .inl ⟨_, _, rfl, run_takeDeferred e1, ?_⟩⟩
        exact ⟨.tuple #[.string s, .int .i64 0], by simp [results, Tryd.results15, go_sem, e2, e3], ⟨_, rfl, by rw [PlateM.read, if_neg (by simpa using HR0.out), hnone, hag]; simp only [hs, if_true, if_false], e4⟩⟩
end
end Pl
end Go.Proofs.YtkmlppeligdbaaaDoor

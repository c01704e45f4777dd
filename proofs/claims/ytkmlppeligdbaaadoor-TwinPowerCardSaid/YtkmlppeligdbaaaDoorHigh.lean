/- Numbers as bytes, the highest first. Conditions: none. -/
import Derived.Test.YtkmlppeligdbaaaDoorSlab2
import Derived.Lib.AppendStr
namespace Go.Proofs.YtkmlppeligdbaaaDoor
namespace Sl
open Go.RowKit SepW
set_option linter.unusedVariables false
set_option linter.unusedSimpArgs false
set_option linter.unusedSectionVars false

/-- the bytes of a number, the highest first -/
def putL (v n : Nat) : List UInt8 := (List.range n).map fun j => UInt8.ofNat (v / 2 ^ (8 * (n - 1 - j)))
def putCells (v n k : Nat) : List Value := (List.range n).map fun j => Value.int .u8 (if n - k ≤ j then ((v / 2 ^ (8 * (n - 1 - j)) % 256 : Nat) : Int) else 0)
theorem putCells_zero (v n : Nat) : putCells v n 0 = List.replicate n (.int .u8 0) := by
  apply List.ext_getElem
  · simp [putCells]
  · intro i h1 h2
    simp [putCells] at h1 ⊢
    omega
theorem putCells_full (v n : Nat) : putCells v n n = Lib.strCells ⟨(putL v n).toArray⟩ := by
  apply List.ext_getElem
  · simp [putCells, Lib.strCells, putL]
  · intro i h1 h2
    simp [putCells, Lib.strCells, putL] at h1 ⊢
def putByte (v n k j : Nat) : Int := if n - k ≤ j then ((v / 2 ^ (8 * (n - 1 - j)) % 256 : Nat) : Int) else 0
theorem putCells_set (v n k : Nat) (hk : k < n) : (putCells v n k).set (n - 1 - k) (.int .u8 ((v / 2 ^ (8 * k) % 256 : Nat) : Int)) = putCells v n (k + 1) := by
  have e1 : putCells v n k = (List.range n).map fun j => Value.int .u8 (putByte v n k j) := rfl
  have e2 : putCells v n (k + 1) = (List.range n).map fun j => Value.int .u8 (putByte v n (k + 1) j) := rfl
  rw [e1, e2]
  apply List.ext_getElem
  · rw [List.length_set, List.length_map, List.length_map]
  · intro i h1 h2
    rw [List.length_map, List.length_range] at h2
    rw [List.getElem_set]
    by_cases h : n - 1 - k = i
    · subst h
      rw [if_pos rfl, List.getElem_map, List.getElem_range, putByte, if_pos (by omega), show n - 1 - (n - 1 - k) = k by omega]
    · rw [if_neg h, List.getElem_map, List.getElem_range, List.getElem_map, List.getElem_range]
      congr 1
      unfold putByte
      by_cases h' : n - k ≤ i
      · rw [if_pos h', if_pos (by omega)]
      · rw [if_neg h', if_neg (by omega)]
/-- a new slice whose run is known -/
theorem wpList_makeSlice_run {P : Program} {w w' : World} {ops : Array Oper} {rest : List Oper} {o : Oper} {a : Act} {Q : Exit → Act → World → Prop} (hgd : o.guard = none) (l c : Operand) (t : TypeId)
    (ho : o.op = .makeSlice t l c) {lv cv v' : Value} (hl : a.eval l = lv) (hc : a.eval c = cv)
    (hr : Hid ((Instr.makeSlice t lv cv).run P w = .ok v' w')) (h : wpList P ops Q rest (a.put o.dst v') w') : wpList P ops Q (o :: rest) a w := by
  have hr := hr.out
  refine wpList_plain hgd (fun K hK => ?_)
  unfold Oper.wp execOp
  simp only [ho, Sem.run_bind, Sem.run_pure, Result.andThen_ok, hl, hc, hr]
  exact hK _ _ h
/-- a conversion whose run is known -/
theorem wpList_convert_run {P : Program} {w w' : World} {ops : Array Oper} {rest : List Oper} {o : Oper} {a : Act} {Q : Exit → Act → World → Prop} (hgd : o.guard = none) (x : Operand) (t u : TypeId)
    (ho : o.op = .convert t u x) {xv v' : Value} (hx : a.eval x = xv)
    (hr : Hid ((convert t u xv).run P w = .ok v' w')) (h : wpList P ops Q rest (a.put o.dst v') w') : wpList P ops Q (o :: rest) a w := by
  have hr := hr.out
  refine wpList_plain hgd (fun K hK => ?_)
  unfold Oper.wp execOp
  simp only [ho, Sem.run_bind, Sem.run_pure, Result.andThen_ok, hx, hr]
  exact hK _ _ h
theorem info5 : (Tryd.prog.info? 5).map (fun i => (i.zero, i.size, i.bytes)) = some (some (.int .u8 0), 1, 1) := by kernel_rfl
theorem under63 : Tryd.prog.underlying 63 = some (.slice 5) := by kernel_rfl
theorem under5 : Tryd.prog.underlying 5 = some (.int .u8) := by kernel_rfl
theorem under9 : Tryd.prog.underlying 9 = some .string := by kernel_rfl
theorem run_make_bytes (w : World) (l c : Nat) (hlc : l ≤ c) (hc : c ≤ 1000000) :
    (Instr.makeSlice 63 (.int .i64 l) (.int .i64 c)).run Tryd.prog w = .ok (.slice (some ⟨w.heap.size, 0, none⟩) l c) (w.alloc (.cells (List.replicate c (Value.int .u8 0)).toArray 5)) := by
  have h5 := info5
  rw [Option.map_eq_some_iff] at h5
  obtain ⟨i, hi, h5⟩ := h5
  simp only [Prod.mk.injEq] at h5
  have h := run_make (P := Tryd.prog) w 63 5 i _ under63 hi h5.1 .i64 .i64 l c (by omega) (by omega) (by rw [h5.2.2]; omega) (by omega)
  have e : madeCells (Value.int IntKind.u8 0).cells ((c : Int).toNat * i.size) = (List.replicate c (Value.int .u8 0)).toArray := by
    apply Array.ext
    · simp [madeCells, h5.2.1]
    · intro i h1 h2
      simp [madeCells, Value.cells, Nat.mod_one]
  rw [h, e]
  rfl
section
variable {w : World} {L : List Atom}
set_option maxRecDepth 100000 in
set_option maxHeartbeats 800000 in
theorem put_ct (v n : Nat) (hv : v < 2 ^ 64) (h1 : 1 ≤ n) (h8 : n ≤ 8) (hS : Sat w L) :
    Calls Tryd.prog 56 #[.int .u64 v, .int .i64 n] w fun e w' => e = .returned (.string ⟨(putL v n).toArray⟩) ∧ Below w.heap.size w w' := by
  have hM := Lib.hid (run_make_bytes w n n (Nat.le_refl _) (by omega))
  have hW := hS.alloc (.cells (List.replicate n (Value.int .u8 0)).toArray 5)
  have hB : Below w.heap.size w (w.alloc (.cells (List.replicate n (Value.int .u8 0)).toArray 5)) := (Below.refl _ _).alloc (Nat.le_refl _) _
  generalize w.alloc (.cells (List.replicate n (Value.int .u8 0)).toArray 5) = W at *
  have HB := Lib.hid hB
  clear hB
  go_enter Tryd.func56, Tryd.ntmps56
  go_wp2_with (first | refine wpList_makeSlice_run rfl _ _ _ rfl rfl rfl hM ?_)
  go_loopw [10] (fun v' wr => ∃ k : Nat, v' = .int .i64 k ∧ k ≤ n ∧ Below w.heap.size w wr ∧ wr.heap[w.heap.size]? = some (.cells (putCells v n k).toArray 5 (0, 0))) (fun v _ => n - (intOf v).toNat)
  case atStart => exact ⟨0, rfl, Nat.zero_le _, HB.out, by rw [putCells_zero]; exact hW.raw_block⟩
  case round =>
    obtain ⟨k, rfl, hk, hb, hr⟩ := hrel
    by_cases hlt : k < n
    · have hsz : w.heap.size < wr.heap.size := (Array.getElem?_eq_some_iff.1 hr).1
      obtain ⟨j, hj⟩ : ∃ j, n = k + 1 + j := ⟨n - 1 - k, by omega⟩
      have c0 : wr.cell? ⟨w.heap.size, j, none⟩ = some (.int .u8 0) := by
        rw [cell_blk hr]
        have hlen : (putCells v n k).length = n := by simp [putCells]
        rw [List.getElem?_toArray, List.getElem?_eq_getElem (by omega)]
        simp [putCells]
        intro h; omega
      have fz : wr.frozen? ⟨w.heap.size, j, none⟩ = false := frozen_blk hr
      have e1 : (n : Int) - 1 - k = j := by omega
      clear hW hM
      go_wp2
      refine ⟨⟨k + 1, by simp, by omega, hb.setCell (Nat.le_refl _) _, ?_⟩, by simp [intOf]; omega⟩
      have hs : (wr.setCell ⟨w.heap.size, j, none⟩ (Value.int IntKind.u8 ((v : Int) / 2 ^ (8 * k) % 256))).heap[w.heap.size]? = some (.cells ((putCells v n k).toArray.setIfInBounds j (Value.int IntKind.u8 ((v : Int) / 2 ^ (8 * k) % 256))) 5 (0, 0)) := by
        simp [World.setCell, Array.getElem?_modify, hr]
      rw [hs, List.setIfInBounds_toArray, ← putCells_set v n k hlt, show n - 1 - k = j by omega]
      simp
    · obtain rfl : k = n := by omega
      have hlen : (putL v k).length = k := by simp [putL]
      have hc := run_convert_bytes_back (P := Tryd.prog) wr 63 9 5 ⟨w.heap.size, 0, none⟩ k (putL v k) under63 under5 under9 (fun j hj => by
        have hadd : (⟨w.heap.size, 0, none⟩ : Addr).add j = ⟨w.heap.size, j, none⟩ := by unfold Addr.add; split <;> simp_all
        rw [hadd, cell_blk hr, putCells_full, List.getElem?_toArray]
        simp [Lib.strCells, hj])
      rw [hlen] at hc
      have HC := Lib.hid hc
      clear hc hlen hW hM
      go_wp2_with (first | refine wpList_convert_run rfl _ _ _ rfl rfl HC ?_)
      go_ret
      exact ⟨rfl, hb⟩
end
end Sl
end Go.Proofs.YtkmlppeligdbaaaDoor

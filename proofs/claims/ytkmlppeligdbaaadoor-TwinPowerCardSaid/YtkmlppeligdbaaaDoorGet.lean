/- Bytes as numbers, the highest first. Conditions: none. -/
import Derived.Test.YtkmlppeligdbaaaDoorHigh
import Derived.Lib.ConvBytes
import Derived.Laws.Bits64b
namespace Go.Proofs.YtkmlppeligdbaaaDoor
namespace Sl
open Go.RowKit SepW
set_option linter.unusedVariables false
set_option linter.unusedSimpArgs false
set_option linter.unusedSectionVars false

def getV (l : List UInt8) : Nat := l.foldl (fun a b => a * 256 + b.toNat) 0
theorem getV_lt (l : List UInt8) : getV l < 256 ^ l.length := by
  unfold getV
  suffices h : ∀ a, l.foldl (fun a b => a * 256 + b.toNat) a < (a + 1) * 256 ^ l.length by have := h 0; simpa using this
  induction l with
  | nil => intro a; simp
  | cons b l ih =>
    intro a
    have := ih (a * 256 + b.toNat)
    have hb := b.toNat_lt
    rw [List.foldl_cons, List.length_cons, Nat.pow_succ]
    refine Nat.lt_of_lt_of_le this ?_
    rw [Nat.mul_comm (256 ^ l.length), ← Nat.mul_assoc]
    exact Nat.mul_le_mul_right _ (by omega)
theorem getV_snoc (l : List UInt8) (b : UInt8) : getV (l ++ [b]) = getV l * 256 + b.toNat := by simp [getV]
theorem getV_take {l : List UInt8} {k : Nat} (h : k < l.length) : getV (l.take (k + 1)) = getV (l.take k) * 256 + l[k].toNat := by
  rw [List.take_succ_eq_append_getElem h, getV_snoc]
theorem putL_length (v n : Nat) : (putL v n).length = n := by simp [putL]
theorem putL_take (v n k : Nat) (hk : k ≤ n) : getV ((putL v n).take k) = v / 2 ^ (8 * (n - k)) % 256 ^ k := by
  induction k with
  | zero => simp [getV, Nat.mod_one]
  | succ k ih =>
    rw [getV_take (by rw [putL_length]; omega), ih (by omega)]
    have e : (putL v n)[k]'(by rw [putL_length]; omega) = UInt8.ofNat (v / 2 ^ (8 * (n - 1 - k))) := by simp [putL]
    rw [e, UInt8.toNat_ofNat']
    have e1 : n - 1 - k = n - (k + 1) := by omega
    have e2 : v / 2 ^ (8 * (n - k)) = v / 2 ^ (8 * (n - (k + 1))) / 256 := by
      rw [Nat.div_div_eq_div_mul, show (256 : Nat) = 2 ^ 8 by rfl, ← Nat.pow_add]
      congr 2; omega
    rw [e1, e2]
    generalize v / 2 ^ (8 * (n - (k + 1))) = x
    have h := Nat.mod_mul (x := x) (a := 256) (b := 256 ^ k)
    rw [← Nat.pow_add_one'] at h
    rw [h]
    omega
theorem getV_putL (v n : Nat) (h : v < 256 ^ n) : getV (putL v n) = v := by
  have := putL_take v n n (Nat.le_refl _)
  rw [List.take_of_length_le (by rw [putL_length]; omega)] at this
  rw [this]
  simp [Nat.mod_eq_of_lt h]
section
variable {w : World}
set_option maxRecDepth 100000 in
set_option maxHeartbeats 800000 in
theorem get_ct (l : List UInt8) (h8 : l.length ≤ 8) :
    Calls Tryd.prog 65 #[.string ⟨l.toArray⟩] w fun e w' => e = .returned (.int .u64 (getV l)) ∧ Below w.heap.size w w' := by
  have hC := Lib.run_convert_string_bytes (P := Tryd.prog) w 9 63 5 ⟨l.toArray⟩ under9 under63 under5
  have hcell := fun j => Lib.bytesWorld_cell w 5 ⟨l.toArray⟩ j
  have hB : Below w.heap.size w (Lib.bytesWorld w 5 ⟨l.toArray⟩) := ⟨rfl, rfl, rfl, by rw [Lib.bytesWorld_size]; omega, fun k hk => Lib.bytesWorld_at_old w 5 _ k hk⟩
  have hsz : (⟨l.toArray⟩ : ByteArray).size = l.length := by simp [ByteArray.size]
  rw [hsz] at hC hcell
  generalize Lib.bytesWorld w 5 ⟨l.toArray⟩ = W at *
  generalize grownCap w l.length 0 5 = cap at *
  have HC := Lib.hid hC
  have HB := Lib.hid hB
  have HCELL := Lib.hid hcell
  clear hC hcell hB
  go_enter Tryd.func65, Tryd.ntmps65
  go_wp2_with (first | refine wpList_convert_run rfl _ _ _ rfl rfl HC ?_)
  go_loopw [9, 3] (fun v' x wr => ∃ k : Nat, v' = .int .i64 k ∧ k ≤ l.length ∧ x = .int .u64 (getV (l.take k)) ∧ W = wr) (fun v _ _ => l.length - (intOf v).toNat)
  case atStart => exact ⟨0, rfl, Nat.zero_le _, rfl, rfl⟩
  case round =>
    obtain ⟨k, rfl, hk, rfl, rfl⟩ := hrel
    by_cases hlt : k < l.length
    · have c0 := HCELL.out k hlt
      have hv := getV_lt (l.take k)
      have ha : getV (l.take k) < 72057594037927936 := by
        refine Nat.lt_of_lt_of_le hv ?_
        rw [List.length_take, Nat.min_eq_left hk]
        exact Nat.le_trans (Nat.pow_le_pow_right (by decide) (show k ≤ 7 by omega)) (by decide)
      have hb := (l.getD k 0).toNat_lt
      have hn : getV (l.take (k + 1)) = getV (l.take k) * 256 + (l.getD k 0).toNat := by rw [getV_take hlt]; simp [List.getD, hlt]
      generalize getV (l.take k) = a at *
      generalize (l.getD k 0).toNat = b at *
      have HN := Lib.hid hn
      clear hn hv HCELL HC hsz
      go_wp2
      refine ⟨⟨k + 1, by simp, by omega, ?_, trivial⟩, by simp [intOf]; omega⟩
      have e : bits .or .u64 ((a : Int) * 256) (b : Int) = ((getV (l.take (k + 1)) : Nat) : Int) := by
        have h := bits_or_u64_nat (a * 256) b (by omega) (by omega)
        rw [Int.natCast_mul] at h
        rw [HN.out]
        refine Eq.trans h ?_
        congr 1
        have h2 := Nat.two_pow_add_eq_or_of_lt (i := 8) (show b < 2 ^ 8 by omega) a
        rw [Nat.mul_comm a 256]
        exact h2.symm
      rw [e]
    · obtain rfl : k = l.length := by omega
      rw [List.take_length]
      go_wp2
      go_ret
      exact ⟨rfl, HB.out⟩
end
end Sl
end Go.Proofs.YtkmlppeligdbaaaDoor

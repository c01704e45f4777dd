/- A page out of its 240 bytes. Conditions: none. -/
import Derived.Test.YtkmlppeligdbaaaDoorEncode
namespace Go.Proofs.YtkmlppeligdbaaaDoor
namespace Sl
open Go.RowKit SepW
set_option linter.unusedVariables false
set_option linter.unusedSimpArgs false
set_option linter.unusedSectionVars false

theorem get8 (w : World) (v : Nat) (hv : v < 9223372036854775808) (s : ByteArray) (hs : s = ⟨(putL v 8).toArray⟩) :
    Calls Tryd.prog 65 #[.string s] w fun e w' => e = .returned (.int .u64 v) ∧ Below w.heap.size w w' := by
  subst hs
  have h := get_ct (w := w) (putL v 8) (by rw [putL_length]; decide)
  rw [getV_putL v 8 (by omega)] at h
  exact h
theorem info69 : (Tryd.prog.info? 69).map (fun i => (i.zero, i.size, i.bytes)) = some (some (.agg #[.bool false, .string ⟨#[]⟩]), 2, 24) := by kernel_rfl
/-- a string of one byte and more -/
theorem peel (b : UInt8) (t : List UInt8) : (⟨(b :: t).toArray⟩ : ByteArray).size = t.length + 1 ∧ (⟨(b :: t).toArray⟩ : ByteArray).extract 1 (t.length + 1) = ⟨t.toArray⟩ := by
  refine ⟨by simp [ByteArray.size], ?_⟩
  apply ByteArray.ext
  simp
theorem halves (d : ByteArray) (t : List UInt8) : (⟨(d.data.toList ++ t).toArray⟩ : ByteArray).extract 0 d.size = d ∧ (⟨(d.data.toList ++ t).toArray⟩ : ByteArray).extract d.size (d.size + t.length) = ⟨t.toArray⟩ := by
  constructor
  · apply ByteArray.ext
    simp
  · apply ByteArray.ext
    simp
def restL (l : List Slot) (k z : Nat) : List UInt8 := (l.drop k).flatMap slotL ++ List.replicate z 0
theorem restL_at {l : List Slot} {k z : Nat} {x : Slot} (h : l[k]? = some x) : restL l k z = slotL x ++ restL l (k + 1) z := by
  obtain ⟨hk, rfl⟩ := List.getElem?_eq_some_iff.1 h
  rw [restL, List.drop_eq_getElem_cons hk, List.flatMap_cons, List.append_assoc]
  rfl
section
variable {w : World} {L : List Atom}
set_option maxRecDepth 100000 in
set_option maxHeartbeats 800000 in
theorem decode_ct {v : Nat} {l : List Slot} {s : ByteArray} {z : Nat} (hs : s.size = 240) (h8 : s.extract 0 8 = ⟨(putL v 8).toArray⟩) (hn : s[8].toNat = l.length) (h9 : s.extract 9 240 = ⟨(restL l 0 z).toArray⟩)
    (he : ⟨(encL v l).toArray⟩ = s) (hv : v ≤ 1099511627776) (hl : l.length ≤ 32) (hg : Page.good ⟨v, l⟩ = true) (h200 : ∀ x ∈ l, x.data.size ≤ 200) (hu : ∀ x ∈ l, x.used = false → x.data = ⟨#[]⟩) (hs240 : sizeOf l ≤ 240) (hS : Sat w L) :
    Calls Tryd.prog 47 #[.string s] w (Rt fun r w' => ∃ A cap, r = .tuple #[.agg #[.int .i64 v, .slice A l.length cap], .int .i64 0] ∧ Sat w' (slA slotT (.slice A l.length cap) l :: L)) := by
  have hS0 := hS.alloc (.cells #[.int .i64 0, .slice none 0 0] 41)
  have H9 := Lib.hid h9
  have HE := Lib.hid he
  clear h9 he
  have H8 := Lib.hid h8
  clear h8
  go_enter Tryd.func47, Tryd.ntmps47
  go_upto_region 7 with (go_at_call 65; refine (get8 _ v (by omega) _ H8.out).mono ?_; rintro e w1 ⟨rfl, hb1⟩)
  clear hs hn H8
  have hS1 := (hS0.below_grow hb1).row_nil slotT 69
  have HS1 := Lib.hid hS1
  clear hS0 hS1 hS hb1
  go_loopw [5, 6, 22] (fun t5 t6 t22 wr => ∃ (k : Nat) (A : Option Addr) (cap : Nat) (r : ByteArray), t22 = .int .u8 k ∧ k ≤ l.length ∧ t5 = .slice A k cap ∧ t6 = .string r ∧ r = ⟨(restL l k z).toArray⟩ ∧ Sat wr (rowA slotT 69 A cap (l.take k) :: raw w.heap.size (.cells #[.int .i64 0, .slice none 0 0] 41) :: L)) (fun _ _ t22 _ => l.length - (intOf t22).toNat)
  case atStart => exact ⟨0, none, 0, _, rfl, Nat.zero_le _, rfl, rfl, H9.out, HS1.out⟩
  case round =>
    obtain ⟨k, A, cap, r, rfl, hk, rfl, rfl, hr, hR⟩ := hrel
    by_cases hlt : k < l.length
    · have hget : l[k]? = some l[k] := List.getElem?_eq_getElem hlt
      obtain ⟨i0, hi, hz0, hz1, hz2⟩ := info_parts info69
      have happ : ∀ (x : Slot), Sat (wr.alloc (.cells #[.bool x.used, .string x.data] 69)) (raw wr.heap.size (.cells #[.bool x.used, .string x.data] 69) :: rowA slotT 69 A cap (l.take k) :: raw w.heap.size (.cells #[.int .i64 0, .slice none 0 0] 41) :: L) →
          ∃ A' cap' w', (Builtin.append_ #[39, 39] 39 #[.slice A k cap, .slice (some ⟨wr.heap.size, 0, none⟩) 1 1]).run Tryd.prog (wr.alloc (.cells #[.bool x.used, .string x.data] 69)) = .ok (.slice A' (k + 1) cap') w' ∧
            Sat w' (rowA slotT 69 A' cap' (l.take k ++ [x]) :: raw w.heap.size (.cells #[.int .i64 0, .slice none 0 0] 41) :: L) := by
        intro x hA
        have hc := hA.raw_block
        have hlen : (l.take k).length = k := by simp; omega
        obtain ⟨A1, cap1, w1, hrun, hS1⟩ := run_append_row (T := slotT) (P := Tryd.prog) (t' := 39) (ty := 39) (xs := [x]) (news := [.bool x.used, .string x.data]) (a := ⟨wr.heap.size, 0, none⟩) (c := 1) Tryd.underlying39 hi hz0 hz1 rfl
          (by intro j u hj; match j, hj with
                | 0, hj => simp at hj; subst hj; exact cell_blk hc
                | 1, hj => simp at hj; subst hj; exact cell_blk hc) (by unfold maxLen; simp; omega) (by rw [hz2]; simp; omega)
          (hA.drop.cells_free (fun g => Cells.single rfl)).swap
        simp only [List.length_cons, List.length_nil, Nat.zero_add, hlen] at hrun
        exact ⟨A1, cap1, w1, hrun, hS1⟩
      have htk : l.take (k + 1) = l.take k ++ [l[k]] := List.take_succ_eq_append_getElem hlt
      have hrest := restL_at (z := z) hget
      have hx := h200 l[k] (List.getElem_mem hlt)
      have hux := hu l[k] (List.getElem_mem hlt)
      generalize l[k] = x at *
      obtain ⟨A', cap', W', hrun, hSW⟩ := happ x (hR.alloc _)
      rw [← htk] at hSW
      cases hxu : x.used with
      | false =>
        have hd := hux hxu
        rw [hxu, hd] at hrun
        have hsl : slotL x = [255] := by unfold slotL; rw [hxu]; rfl
        rw [hrest, hsl] at hr
        obtain ⟨p1, p2⟩ := peel 255 (restL l (k + 1) z)
        have hr' : r = ⟨(255 :: restL l (k + 1) z).toArray⟩ := hr
        rw [← hr'] at p1 p2
        generalize (restL l (k + 1) z).length = n at p1 p2
        have h0 : 0 < r.size := by omega
        have hz : (r.toList == []) = false := by rw [size_zero, p1]; simp
        have hb : (r[0]'h0).toNat = 255 := by subst hr'; rfl
        have HA := Lib.hid hrun
        have HP2 := Lib.hid p2
        have HSW := Lib.hid hSW
        clear hrun p2 hSW happ hR HS1 h200 hs240 hu hg H9 HE hr hr' hux hrest hsl hd hxu htk hget hi hz0 hz1 hz2
        go_wp2_with (first | refine wpList_append_run rfl _ _ _ rfl rfl rfl HA ?_)
        exact ⟨⟨k + 1, A', cap', _, by simp, by omega, rfl, rfl, HP2.out, HSW.out⟩, by simp [intOf]; omega⟩
      | true =>
        rw [hxu] at hrun
        have hsl : slotL x = UInt8.ofNat x.data.size :: x.data.data.toList := by unfold slotL; rw [hxu]; rfl
        rw [hrest, hsl] at hr
        obtain ⟨p1, p2⟩ := peel (UInt8.ofNat x.data.size) (x.data.data.toList ++ restL l (k + 1) z)
        have hr' : r = ⟨(UInt8.ofNat x.data.size :: (x.data.data.toList ++ restL l (k + 1) z)).toArray⟩ := hr
        rw [← hr'] at p1 p2
        obtain ⟨q2, q3⟩ := halves x.data (restL l (k + 1) z)
        have hlen : (x.data.data.toList ++ restL l (k + 1) z).length = x.data.size + (restL l (k + 1) z).length := by rw [List.length_append, Array.length_toList]; rfl
        have q1 : (⟨(x.data.data.toList ++ restL l (k + 1) z).toArray⟩ : ByteArray).size = x.data.size + (restL l (k + 1) z).length := by rw [← hlen]; exact List.size_toArray
        rw [hlen] at p1 p2
        generalize (⟨(x.data.data.toList ++ restL l (k + 1) z).toArray⟩ : ByteArray) = r1 at p2 q1 q2 q3
        generalize (restL l (k + 1) z).length = n at p1 p2 q1 q3
        have h0 : 0 < r.size := by omega
        have hz : (r.toList == []) = false := by rw [size_zero, p1]; simp
        have hb : (r[0]'h0).toNat = x.data.size := by subst hr'; show (UInt8.ofNat x.data.size).toNat = _; rw [UInt8.toNat_ofNat']; omega
        generalize x.data.size = m at *
        have hne : ((m : Int) == 255) = false := by simp; omega
        generalize x.data = d at *
        have HA := Lib.hid hrun
        have HQ3 := Lib.hid q3
        have HSW := Lib.hid hSW
        clear hrun q3 hSW happ hR HS1 h200 hs240 hu hg H9 HE hr hr' hux hrest hsl hxu htk hget hi hz0 hz1 hz2 hlen
        go_wp2_with (first | refine wpList_append_run rfl _ _ _ rfl rfl rfl HA ?_)
        exact ⟨⟨k + 1, A', cap', _, by simp, by omega, rfl, rfl, HQ3.out, HSW.out⟩, by simp [intOf]; omega⟩
    · obtain rfl : k = l.length := by omega
      rw [List.take_length] at hR
      have hR1 := hR.row_freeze.alloc (.cells #[.int .i64 v, .slice A l.length cap] 41)
      obtain ⟨c0, c1, fz⟩ := cells2 hR1.f2.raw_block
      obtain ⟨d0, d1, _⟩ := cells2 hR1.raw_block
      have hC := encode_ct (cap := cap) (A := A) (v := v) (by omega) hl hg h200 hs240 hR1.f1
      rw [HE.out] at hC
      have HC := Lib.hid hC
      have HR1 := Lib.hid hR1
      have hbB : w.heap.size < (wr.alloc (.cells #[.int .i64 v, .slice A l.length cap] 41)).heap.size := (Array.getElem?_eq_some_iff.1 hR1.f2.raw_block).1
      have HBB := Lib.hid hbB
      clear hC hR hR1 HS1 h200 hs240 hu hg H9 HE hr hbB
      go_wp2_with (go_at_call 55; refine HC.out.mono ?_; rintro e w2 ⟨rfl, hb2⟩; have k0 := (hb2.cell (p := ⟨w.heap.size, 0, none⟩) HBB.out).trans c0; have k1 := (hb2.cell (p := ⟨w.heap.size, 1, none⟩) HBB.out).trans c1; have kz := fun i => (hb2.frozen (p := ⟨w.heap.size, i, none⟩) HBB.out).trans (fz i); have m0 := (hb2.cell (p := ⟨wr.heap.size, 0, none⟩) (by simp)).trans d0; have m1 := (hb2.cell (p := ⟨wr.heap.size, 1, none⟩) (by simp)).trans d1)
      have hSf := ((((HR1.out.below_grow hb2).f2.setCell (k := 0) (.int .i64 v)).setCell (k := 1) (.slice A l.length cap))).drop.drop
      obtain ⟨n0, n1, _⟩ := cells2 ((((HR1.out.below_grow hb2).f2.setCell (k := 0) (.int .i64 v)).setCell (k := 1) (.slice A l.length cap))).raw_block
      refine bodyPost_ret (v := .tuple #[.agg #[.int .i64 v, .slice A l.length cap], .int .i64 0]) (by simp [results, Tryd.results47, go_sem, n0, n1]) rfl ⟨_, rfl, A, cap, rfl, ?_⟩
      exact hSf
end
end Sl
end Go.Proofs.YtkmlppeligdbaaaDoor

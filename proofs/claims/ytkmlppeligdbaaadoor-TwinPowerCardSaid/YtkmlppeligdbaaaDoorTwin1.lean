/- A page's sector. Conditions: none. -/
import Derived.Test.YtkmlppeligdbaaaDoorDecode
namespace Go.Proofs.YtkmlppeligdbaaaDoor
namespace Sl
open Go.RowKit SepW
set_option linter.unusedVariables false
set_option linter.unusedSimpArgs false
set_option linter.unusedSectionVars false

/-- a page that can be laid -/
structure Okay (v : Nat) (l : List Slot) : Prop where
  lsn : v ≤ 1099511627776
  len : l.length ≤ 32
  good : Page.good ⟨v, l⟩ = true
  small : ∀ x ∈ l, x.data.size ≤ 200
  free : ∀ x ∈ l, x.used = false → x.data = ⟨#[]⟩
  fits : sizeOf l ≤ 240
theorem Okay.body {v : Nat} {l : List Slot} (h : Okay v l) : (bodyL v l l.length).length ≤ 240 := Nat.le_trans (bodyL_len v l h.small _ (Nat.le_refl _)) (Nat.le_trans (sizeOf_mono l _) h.fits)
theorem encL_eq (v : Nat) (l : List Slot) : encL v l = putL v 8 ++ (UInt8.ofNat l.length :: restL l 0 (240 - (bodyL v l l.length).length)) := by
  simp [encL, bodyL, restL]
theorem encL_len {v : Nat} {l : List Slot} (h : Okay v l) : (encL v l).length = 240 := by
  have := h.body
  simp only [encL, List.length_append, List.length_replicate]
  omega
section
variable {w : World} {L : List Atom}
theorem decode_enc {v : Nat} {l : List Slot} (h : Okay v l) (hS : Sat w L) :
    Calls Tryd.prog 47 #[.string ⟨(encL v l).toArray⟩] w (Rt fun r w' => ∃ A cap, r = .tuple #[.agg #[.int .i64 v, .slice A l.length cap], .int .i64 0] ∧ Sat w' (slA slotT (.slice A l.length cap) l :: L)) := by
  have hlen := encL_len h
  have he := encL_eq v l
  have hz : (⟨(encL v l).toArray⟩ : ByteArray).size = 240 := hlen
  have h8 := putL_length v 8
  refine decode_ct (z := 240 - (bodyL v l l.length).length) hz ?_ ?_ ?_ rfl h.lsn h.len h.good h.small h.free h.fits hS
  · apply ByteArray.ext
    simp only [ByteArray.data_extract, List.extract_toArray]
    rw [List.extract_eq_take_drop, he]
    simp [List.take_append, h8]
  · have : ∀ (xs : List UInt8) (hx : 8 < xs.length) (c : UInt8) (t : List UInt8), xs = putL v 8 ++ (c :: t) → (⟨xs.toArray⟩ : ByteArray)[8]'hx = c := by
      intro xs hx c t e
      subst e
      show (putL v 8 ++ c :: t)[8] = c
      rw [List.getElem_append_right (by rw [h8]; exact Nat.le_refl _)]
      simp [h8]
    rw [this _ _ _ _ he, UInt8.toNat_ofNat']
    have := h.len
    omega
  · apply ByteArray.ext
    simp only [ByteArray.data_extract, List.extract_toArray]
    congr 1
    rw [List.extract_eq_take_drop, he]
    rw [he] at hlen
    rw [List.drop_append, h8]
    simp at hlen ⊢
    rw [List.drop_of_length_le (by rw [h8]; decide)]
    simp
    rw [List.take_of_length_le (by omega)]
/-- a page's sector -/
def secL (i v : Nat) (l : List Slot) : List UInt8 := encL v l ++ [80, 65, 71, 69] ++ putL i 4 ++ putL 0 8
theorem secL_len {i v : Nat} {l : List Slot} (h : Okay v l) : (secL i v l).length = 256 := by
  simp only [secL, List.length_append, putL_length, encL_len h]
  rfl
theorem putG (w : World) {z m : Int} (v n : Nat) (hm : m = n) (hz : z = v) (hv : v < 1000000) (h1 : 1 ≤ n) (h8 : n ≤ 8) :
    Calls Tryd.prog 56 #[.int .u64 z, .int .i64 m] w fun e w' => e = .returned (.string ⟨(putL v n).toArray⟩) ∧ Below w.heap.size w w' := by
  subst hm hz
  exact put_ct v n (by omega) h1 h8 (Sat.start w)
theorem wrap_small (i : Nat) (hi : i < 1000000) : IntKind.u64.wrap (i : Int) = (i : Int) := by rw [IntKind.wrap_u64]; omega
attribute [local irreducible] padC putL encL bodyL slotL
set_option maxRecDepth 100000 in
set_option maxHeartbeats 800000 in
theorem sector_ct {A : Option Addr} {cap v i : Nat} {l : List Slot} (h : Okay v l) (hi : i < 1000000) (hS : Sat w (slA slotT (.slice A l.length cap) l :: L)) :
    Calls Tryd.prog 37 #[.int .i64 i, .agg #[.int .i64 v, .slice A l.length cap]] w fun e w' => e = .returned (.string ⟨(secL i v l).toArray⟩) ∧ Below w.heap.size w w' := by
  have hB : Below w.heap.size w (w.alloc (.cells #[.int .i64 v, .slice A l.length cap] 41)) := (Below.refl _ _).alloc (Nat.le_refl _) _
  obtain ⟨q0, q1, _⟩ := cells2 (hS.alloc (.cells #[.int .i64 v, .slice A l.length cap] 41)).raw_block
  have hE := encode_ct (cap := cap) (A := A) (v := v) (by have := h.lsn; omega) h.len h.good h.small h.fits (hS.alloc' (.cells #[.int .i64 v, .slice A l.length cap] 41))
  have h4 := fun w => putG w (z := IntKind.u64.wrap (i : Int)) (m := 4) i 4 (by decide) (wrap_small i hi) hi (by decide) (by decide)
  have h0 := fun w => putG w (z := 0) (m := 8) 0 8 (by decide) (by decide) (by decide) (by decide) (by decide)
  have hR : ((((⟨(encL v l).toArray⟩ : ByteArray) ++ ⟨#[80, 65, 71, 69]⟩) ++ ⟨(putL i 4).toArray⟩) ++ ⟨(putL 0 8).toArray⟩) = ⟨(secL i v l).toArray⟩ := by
    apply ByteArray.ext
    simp [secL]
  have z1 : (⟨(encL v l).toArray⟩ : ByteArray).size = 240 := encL_len h
  have z2 : (⟨(putL i 4).toArray⟩ : ByteArray).size = 4 := putL_length i 4
  have z3 : (⟨(putL 0 8).toArray⟩ : ByteArray).size = 8 := putL_length 0 8
  generalize (⟨(encL v l).toArray⟩ : ByteArray) = E at hE hR z1
  generalize (⟨(putL i 4).toArray⟩ : ByteArray) = P4 at h4 hR z2
  generalize (⟨(putL 0 8).toArray⟩ : ByteArray) = P0 at h0 hR z3
  generalize (⟨(secL i v l).toArray⟩ : ByteArray) = R at hR ⊢
  have HE := Lib.hid hE
  have HB := Lib.hid hB
  have HR := Lib.hid hR
  have H4 := Lib.hid h4
  have H0 := Lib.hid h0
  clear hE hB hS h hR h4 h0 hi
  go_enter Tryd.func37, Tryd.ntmps37
  go_upto_region 2 with (go_at_call 55; refine HE.out.mono ?_; rintro e w1 ⟨rfl, hb1⟩)
  clear q0 q1 HE
  go_wp2_with (first | (go_at_call_of 56 (Value.int .u64 0); refine (H0.out _).mono ?_; rintro e w3 ⟨rfl, hb3⟩) | (go_at_call 56; refine (H4.out _).mono ?_; rintro e w2 ⟨rfl, hb2⟩))
  go_ret
  exact ⟨by rw [HR.out]; rfl, ((HB.out.trans (hb1.mono (by simp))).trans (hb2.mono (by have := hb1.size; simp at this; omega))).trans (hb3.mono (by have := hb1.size; have := hb2.size; simp at *; omega))⟩
set_option maxRecDepth 100000 in
set_option maxHeartbeats 800000 in
theorem page_ct {v i : Nat} {l : List Slot} {d : ByteArray} (h : Okay v l) (hi : i < 1000000) (hd : d.size = 256) (h240 : d.extract 0 240 = ⟨(encL v l).toArray⟩) (hS : Sat w L) :
    Calls Tryd.prog 33 #[.int .i64 i, .string d] w (Rt fun r w' => (⟨(secL i v l).toArray⟩ = d ∧ ∃ A cap, r = .tuple #[.agg #[.int .i64 v, .slice A l.length cap], .bool true] ∧ Sat w' (slA slotT (.slice A l.length cap) l :: L)) ∨
      (⟨(secL i v l).toArray⟩ ≠ d ∧ r = .tuple #[.agg #[.int .i64 0, .slice none 0 0], .bool false] ∧ Sat w' L)) := by
  have hC := decode_enc h (hS.alloc (.cells #[.int .i64 0, .slice none 0 0] 41))
  rw [← h240] at hC
  have HC := Lib.hid hC
  have H := Lib.hid h
  clear hC h240 h
  by_cases he : (⟨(secL i v l).toArray⟩ : ByteArray) = d
  · have HE := Lib.hid he
    clear he
    go_enter Tryd.func33, Tryd.ntmps33
    go_wp2_with (first | (go_at_call 47; refine HC.out.mono ?_; rintro e w1 ⟨_, rfl, A, cap, rfl, hS1⟩; have hlt : w.heap.size < w1.heap.size := (Array.getElem?_eq_some_iff.1 hS1.f1.raw_block).1; obtain ⟨k0, k1, kf⟩ := cells2 (hS1.alloc (.cells #[.int .i64 v, .slice A l.length cap] 41)).f2.raw_block; obtain ⟨m0, m1, mf⟩ := cells2 (hS1.alloc (.cells #[.int .i64 v, .slice A l.length cap] 41)).raw_block) | (go_at_call 37; refine (sector_ct H.out hi (hS1.alloc' (.cells #[.int .i64 v, .slice A l.length cap] 41))).mono ?_; rw [HE.out]; rintro e w2 ⟨rfl, hb2⟩; have n0 := (hb2.cell (p := ⟨w1.heap.size, 0, none⟩) (by simp)).trans m0; have n1 := (hb2.cell (p := ⟨w1.heap.size, 1, none⟩) (by simp)).trans m1; have j0 := (hb2.cell (p := ⟨w.heap.size, 0, none⟩) (by simp; omega)).trans k0; have j1 := (hb2.cell (p := ⟨w.heap.size, 1, none⟩) (by simp; omega)).trans k1; have jf := fun i => (hb2.frozen (p := ⟨w.heap.size, i, none⟩) (by simp; omega)).trans (kf i)))
    have hF := ((((hS1.alloc (.cells #[.int .i64 v, .slice A l.length cap] 41)).below_grow hb2).f2.setCell (k := 0) (.int .i64 v)).setCell (k := 1) (.slice A l.length cap))
    obtain ⟨x0, x1, _⟩ := cells2 hF.raw_block
    refine bodyPost_ret (v := .tuple #[.agg #[.int .i64 v, .slice A l.length cap], .bool true]) (by simp [results, Tryd.results33, go_sem, x0, x1]) rfl ⟨_, rfl, .inl ⟨HE.out, A, cap, rfl, hF.drop.drop⟩⟩
  · have hne : ((⟨(secL i v l).toArray⟩ : ByteArray).toList == d.toList) = false := by
      rw [beq_eq_false_iff_ne]
      intro hh
      rw [ByteArray.toList_eq, ByteArray.toList_eq] at hh
      exact he (ByteArray.ext (Array.toList_inj.1 hh))
    have HE := Lib.hid he
    clear he
    obtain ⟨R, hR⟩ : ∃ R : ByteArray, R = ⟨(secL i v l).toArray⟩ := ⟨_, rfl⟩
    rw [← hR] at hne
    have HR := Lib.hid hR
    clear hR
    go_enter Tryd.func33, Tryd.ntmps33
    go_wp2_with (first | (go_at_call 47; refine HC.out.mono ?_; rintro e w1 ⟨_, rfl, A, cap, rfl, hS1⟩; have hlt : w.heap.size < w1.heap.size := (Array.getElem?_eq_some_iff.1 hS1.f1.raw_block).1; obtain ⟨k0, k1, kf⟩ := cells2 (hS1.alloc (.cells #[.int .i64 v, .slice A l.length cap] 41)).f2.raw_block; obtain ⟨m0, m1, mf⟩ := cells2 (hS1.alloc (.cells #[.int .i64 v, .slice A l.length cap] 41)).raw_block) | (go_at_call 37; refine (sector_ct H.out hi (hS1.alloc' (.cells #[.int .i64 v, .slice A l.length cap] 41))).mono ?_; rw [← HR.out]; rintro e w2 ⟨rfl, hb2⟩; have n0 := (hb2.cell (p := ⟨w1.heap.size, 0, none⟩) (by simp)).trans m0; have n1 := (hb2.cell (p := ⟨w1.heap.size, 1, none⟩) (by simp)).trans m1; have j0 := (hb2.cell (p := ⟨w.heap.size, 0, none⟩) (by simp; omega)).trans k0; have j1 := (hb2.cell (p := ⟨w.heap.size, 1, none⟩) (by simp; omega)).trans k1; have jf := fun i => (hb2.frozen (p := ⟨w.heap.size, i, none⟩) (by simp; omega)).trans (kf i)))
    have hF := ((((hS1.alloc (.cells #[.int .i64 v, .slice A l.length cap] 41)).below_grow hb2).f2.setCell (k := 0) (.int .i64 0)).setCell (k := 1) (.slice none 0 0))
    obtain ⟨x0, x1, _⟩ := cells2 hF.raw_block
    refine bodyPost_ret (v := .tuple #[.agg #[.int .i64 0, .slice none 0 0], .bool false]) (by simp [results, Tryd.results33, go_sem, x0, x1]) rfl ⟨_, rfl, .inr ⟨HE.out, rfl, hF.drop.drop.drop⟩⟩
end
end Sl
end Go.Proofs.YtkmlppeligdbaaaDoor

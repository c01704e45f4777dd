/- Reading a page. Conditions: none. -/
import Derived.Test.YtkmlppeligdbaaaDoorClone
namespace Go.Proofs.YtkmlppeligdbaaaDoor
namespace Sl
open Go.RowKit SepW Pl
set_option linter.unusedVariables false
set_option linter.unusedSimpArgs false
set_option linter.unusedSectionVars false
section
variable {w : World} {L : List Atom}
theorem page_at {t : TypeId} {A : Option Addr} {cap i : Nat} {l : List Page} {x : Page} (h : Sat w (rowA pageT t A cap l :: L)) (hx : l[i]? = some x) :
    ∃ b v, A = some ⟨b, 0, none⟩ ∧ w.cell? ⟨b, i * 2, none⟩ = some (.int .i64 x.lsn) ∧ w.cell? ⟨b, i * 2 + 1, none⟩ = some v ∧ Sat w (slA slotT v x.slots :: rowA pageT t A cap l :: L) := by
  rcases h.row_out with ⟨rfl, rfl, rfl, hS⟩ | ⟨b, cur, rfl, hc, hm, hs, hS⟩
  · simp at hx
  · have hb := hS.raw_block
    obtain ⟨g, hg, hk⟩ := hS.drop.per_block
    obtain ⟨c, ⟨v, rfl, hsl⟩, hu⟩ := hg.get hx
    have u0 := hu 0 _ rfl
    have u1 := hu 1 _ rfl
    simp only [pageT, Nat.add_zero] at u0 u1
    have hcell : ∀ j u, (cur.toList.take (l.length * 2))[j]? = some u → w.cell? ⟨b, j, none⟩ = some u := by
      intro j u hj
      rw [List.getElem?_take] at hj
      split at hj
      · rw [cell_blk hb]; simpa using hj
      · cases hj
    refine ⟨b, v, rfl, hcell _ _ u0, hcell _ _ u1, ?_⟩
    have hdup := hS.f1.per_dup
    have hsl2 : Sat w (slA slotT v x.slots :: cellsK pageT l (cur.toList.take (l.length * pageT.sz)) :: raw b (.cells cur t (0, 0)) :: L) := by
      refine Sat.per_map ?_ hdup
      intro g' hg'
      obtain ⟨c', ⟨v', rfl, hsl'⟩, hu'⟩ := Cells.get hg' hx
      have e := hu' 1 _ rfl
      simp only [pageT] at e
      rw [u1] at e
      cases e
      exact hsl'
    exact (Sat.row_in hc hm hs hsl2.f1.f2).f1
variable {s : Nat} {pl : PlateM} {st : StoreM}
set_option maxRecDepth 100000 in
set_option maxHeartbeats 1600000 in
theorem read2_ct {i : Nat} {x : Page} (hx : st.pages[i]? = some x) (hi : i < 100000) (hl : x.slots.length ≤ 1000) (hr : readyM pl st = 0) (hS : Sat w (storeA s st :: plateA st.plate pl :: L)) :
    Calls Tryd.prog 12 #[.pointer (some ⟨s, 0, none⟩), .int .i64 i] w (Rt fun r w' => ∃ A cap, r = .tuple #[.agg #[.int .i64 x.lsn, .slice A x.slots.length cap], .int .i64 0] ∧ Sat w' (slA slotT (.slice A x.slots.length cap) x.slots :: storeA s st :: plateA st.plate pl :: L)) := by
  have hlt : i < st.pages.length := (List.getElem?_eq_some_iff.1 hx).1
  have hS0 := hS.alloc (.cells #[.int .i64 0, .slice none 0 0] 41)
  have hC := ready2_ct hS0.rot3
  rw [hr] at hC
  have HC := Lib.hid hC
  have HX := Lib.hid hx
  clear hC hr hS hx
  go_enter Tryd.func12, Tryd.ntmps12
  go_upto_region 4 with (go_at_call 22; refine HC.out.mono ?_; rintro e w1 ⟨rfl, q, rfl⟩)
  have hS1 := drewN_sat q hS0
  obtain ⟨A, c, hR⟩ := store_out hS1.f1
  obtain ⟨b, v, rfl, p0, p1, hP⟩ := page_at hR.f1 HX.out
  obtain ⟨A', cap', rfl, hcap⟩ := hP.sl_form
  obtain ⟨s0, s1, s2, s3, s4, s5, sf⟩ := cells6 hR.raw_block
  generalize ((w.alloc (.cells #[.int .i64 0, .slice none 0 0] 41)).drewN q) = W at *
  have hwW : w.heap.size < W.heap.size := (Array.getElem?_eq_some_iff.1 hS1.raw_block).1
  have hne1 : ¬ w.heap.size = W.heap.size := by omega
  have hne2 : ¬ W.heap.size = w.heap.size := by omega
  have hQ := (hP.alloc (.cells #[.int .i64 x.lsn, .slice A' x.slots.length cap'] 41)).f1
  have hCl := clone_ct hl hQ
  have HCl := Lib.hid hCl
  have HQ := Lib.hid hQ
  obtain ⟨n0, n1, nf⟩ := cells2 hQ.f1.raw_block
  clear hCl hP hR hS1 hS0 hQ HC hcap
  generalize hlen : x.slots.length = m at *
  have HLen := Lib.hid hlen
  clear hlen
  go_wp2_with (go_at_call 28; refine HCl.out.mono ?_; rintro e w3 ⟨_, rfl, B, cb, rfl, hS3⟩; obtain ⟨t0, t1, tf⟩ := cells2 hS3.f2.raw_block; obtain ⟨r0, r1, rf⟩ := cells2 hS3.f5.raw_block)
  have hF := ((hS3.f2.setCell (k := 1) (.slice B m cb)).f5.setCell (k := 0) (.int .i64 x.lsn)).setCell (k := 1) (.slice B m cb)
  obtain ⟨x0, x1, _⟩ := cells2 hF.raw_block
  refine bodyPost_ret (v := .tuple #[.agg #[.int .i64 x.lsn, .slice B m cb], .int .i64 0]) (by simp [results, Tryd.results12, go_sem, x0, x1]) rfl ⟨_, rfl, B, cb, by rw [HLen.out], ?_⟩
  rw [HLen.out]
  exact (store_in hF.drop.drop.f1.drop.f1.f2).swap
end
end Sl
end Go.Proofs.YtkmlppeligdbaaaDoor

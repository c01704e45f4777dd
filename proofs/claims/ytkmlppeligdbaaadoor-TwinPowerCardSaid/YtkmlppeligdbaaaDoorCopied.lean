/- The best of the copies. Conditions: none. -/
import Derived.Test.YtkmlppeligdbaaaDoorStoreRead
namespace Go.Proofs.YtkmlppeligdbaaaDoor
namespace Sl
open Go.RowKit SepW Pl
set_option linter.unusedVariables false
set_option linter.unusedSimpArgs false
set_option linter.unusedSectionVars false
section
variable {w : World} {L : List Atom} {p s : Nat} {pl : PlateM} {st : StoreM} {P : Int → ByteArray → Prop}
/-- a copy as it can be, x of lsn R the newest of page i -/
def CopyOk (i R : Nat) (lx : List Slot) (c : ByteArray) : Prop :=
  c.size = 0 ∨ ∃ v l, Okay v l ∧ l.length ≤ 1000 ∧ c.size = 256 ∧ c.extract 0 240 = ⟨(encL v l).toArray⟩ ∧ ((⟨(secL i v l).toArray⟩ : ByteArray) = c → v < R ∨ (v = R ∧ l = lx)) ∧ (c = ⟨(secL i R lx).toArray⟩ → v = R ∧ l = lx)
structure CopyInv (pl : PlateM) (at' i R : Nat) (lx : List Slot) (k : Nat) (fnd : Bool) (v : Nat) (l : List Slot) : Prop where
  small : v < 1099511627777
  none : fnd = false → ∀ j, j < k → pl.live ((at' + j : Nat) : Int) ≠ ⟨(secL i R lx).toArray⟩
  some : fnd = true → (v < R ∧ ∀ j, j < k → pl.live ((at' + j : Nat) : Int) ≠ ⟨(secL i R lx).toArray⟩) ∨ (v = R ∧ l = lx)
theorem rot5 {A B C D E : Atom} (h : Sat w (A :: B :: C :: D :: E :: L)) : Sat w (E :: A :: B :: C :: D :: L) := h.f4
theorem rot5' {A B C D E : Atom} (h : Sat w (E :: A :: B :: C :: D :: L)) : Sat w (A :: B :: C :: D :: E :: L) := h.f4.f4.f4.f4
theorem CopyInv.next {at' i R : Nat} {lx l : List Slot} {k v : Nat} {fnd : Bool} (h : CopyInv pl at' i R lx k fnd v l) (hn : pl.live ((at' + k : Nat) : Int) ≠ ⟨(secL i R lx).toArray⟩) : CopyInv pl at' i R lx (k + 1) fnd v l := by
  refine ⟨h.small, fun hf j hj => ?_, fun hf => ?_⟩
  · rcases Nat.lt_or_ge j k with h1 | h1
    · exact h.none hf j h1
    · obtain rfl : j = k := by omega
      exact hn
  · rcases h.some hf with ⟨h1, h2⟩ | h1
    · refine .inl ⟨h1, fun j hj => ?_⟩
      rcases Nat.lt_or_ge j k with h3 | h3
      · exact h2 j h3
      · obtain rfl : j = k := by omega
        exact hn
    · exact .inr h1
theorem page_hit {v i : Nat} {l : List Slot} {d : ByteArray} (h : Okay v l) (hi : i < 1000000) (hd : d.size = 256) (h240 : d.extract 0 240 = ⟨(encL v l).toArray⟩) (he : (⟨(secL i v l).toArray⟩ : ByteArray) = d) (hS : Sat w L) :
    Calls Tryd.prog 33 #[.int .i64 i, .string d] w (Rt fun r w' => ∃ A cap, r = .tuple #[.agg #[.int .i64 v, .slice A l.length cap], .bool true] ∧ Sat w' (slA slotT (.slice A l.length cap) l :: L)) :=
  (page_ct h hi hd h240 hS).mono fun e w' ⟨r, e1, h1⟩ => ⟨r, e1, by
    rcases h1 with h1 | h1
    · exact h1.2
    · exact absurd he h1.1⟩
theorem page_miss {v i : Nat} {l : List Slot} {d : ByteArray} (h : Okay v l) (hi : i < 1000000) (hd : d.size = 256) (h240 : d.extract 0 240 = ⟨(encL v l).toArray⟩) (he : (⟨(secL i v l).toArray⟩ : ByteArray) ≠ d) (hS : Sat w L) :
    Calls Tryd.prog 33 #[.int .i64 i, .string d] w (Rt fun r w' => r = .tuple #[.agg #[.int .i64 0, .slice none 0 0], .bool false] ∧ Sat w' L) :=
  (page_ct h hi hd h240 hS).mono fun e w' ⟨r, e1, h1⟩ => ⟨r, e1, by
    rcases h1 with h1 | h1
    · exact absurd h1.1 he
    · exact h1.2⟩
/-- a sector that is whole -/
theorem read_whole (hH : Held pl P) {n : Int} (hr : pl.ready n = 0) (hlen : pl.queue.length < 1000000) (hz : (pl.live n).size ≠ 0) (hS : Sat w (plateA p pl :: L)) :
    Calls Tryd.prog 15 #[.pointer (some ⟨p, 0, none⟩), .int .i64 n] w (Rt fun r w' => r = .tuple #[.string (pl.live n), .int .i64 0] ∧ Sat w' (plateA p pl :: L)) := by
  have h := read_yes n hr hlen hS
  rw [hH.read hr, if_neg hz] at h
  exact h
/-- ..and one that is torn -/
theorem read_torn (hH : Held pl P) {n : Int} (hr : pl.ready n = 0) (hlen : pl.queue.length < 1000000) (hz : (pl.live n).size = 0) (hS : Sat w (plateA p pl :: L)) :
    Calls Tryd.prog 15 #[.pointer (some ⟨p, 0, none⟩), .int .i64 n] w (Rt fun r w' => r = .tuple #[.string ⟨#[]⟩, .int .i64 20] ∧ Sat w' (plateA p pl :: L)) := by
  have h := read_yes n hr hlen hS
  rw [hH.read hr, if_pos hz] at h
  exact h
set_option maxRecDepth 100000 in
set_option maxHeartbeats 400000 in
theorem copied_ct {i R : Nat} {lx : List Slot} (hH : Held pl P) (hi : i < 1000000) (hd : pl.down = false) (hcnt : (st.at' + st.copies : Nat) ≤ pl.count) (ha : st.at' < 100000) (hc : st.copies < 100000) (hlen : pl.queue.length < 1000000) (hR0 : 0 < R)
    (hall : ∀ j, j < st.copies → CopyOk i R lx (pl.live ((st.at' + j : Nat) : Int))) (hsure : ∃ k, k < st.copies ∧ pl.live ((st.at' + k : Nat) : Int) = ⟨(secL i R lx).toArray⟩)
    (hS : Sat w (storeA s st :: plateA st.plate pl :: L)) :
    Calls Tryd.prog 35 #[.pointer (some ⟨s, 0, none⟩), .int .i64 i] w (Rt fun r w' => ∃ A cap, r = .tuple #[.agg #[.int .i64 R, .slice A lx.length cap], .bool true] ∧ Sat w' (slA slotT (.slice A lx.length cap) lx :: storeA s st :: plateA st.plate pl :: L)) := by
  obtain ⟨A0, c0', hR⟩ := store_out hS
  have hS0 := hR.alloc (.cells #[.int .i64 0, .slice none 0 0] 41)
  obtain ⟨c0, c1, c2, c3, c4, c5, cf⟩ := cells6 hS0.f1.raw_block
  have HS0 := Lib.hid hS0
  have HALL := Lib.hid hall
  have HSURE := Lib.hid hsure
  clear hS hR hS0 hall hsure
  go_enter Tryd.func35, Tryd.ntmps35
  go_wp2
  go_loopw [5, 15] (fun t5 t15 wr => ∃ (k : Nat) (fnd : Bool) (v : Nat) (l : List Slot) (A : Option Addr) (cap : Nat), t15 = .int .i64 k ∧ k ≤ st.copies ∧ t5 = .bool fnd ∧ CopyInv pl st.at' i R lx k fnd v l ∧
    Sat wr (raw w.heap.size (.cells #[.int .i64 v, .slice A l.length cap] 41) :: slA slotT (.slice A l.length cap) l :: raw s (stObj st A0 c0') :: rowA pageT 41 A0 c0' st.pages :: plateA st.plate pl :: L)) (fun _ t15 _ => st.copies - (intOf t15).toNat)
  case atStart =>
    refine ⟨0, false, 0, [], none, 0, rfl, Nat.zero_le _, rfl, ⟨by decide, fun _ j hj => by omega, fun h => by cases h⟩, ?_⟩
    exact (HS0.out.per_true (φ := fun g => SlK slotT g (.slice none 0 0) []) (hφ := fun hg h => h.mono hg) (fun g => SlK.nil _ _ _ _)).swap
  case round =>
    obtain ⟨k, fnd, v, l, A, cap, rfl, hk, rfl, hI, hSr⟩ := hrel
    have HI := Lib.hid hI
    clear hI
    by_cases hlt : k < st.copies
    · have hrd : pl.ready ((st.at' + k : Nat) : Int) = 0 := by
        rw [PlateM.ready, hd, if_neg (by decide), if_neg (by omega)]
      have hck := HALL.out k hlt
      obtain ⟨d0, d1, d2, d3, d4, d5, df⟩ := cells6 hSr.f2.raw_block
      obtain ⟨e0, e1, ef⟩ := cells2 hSr.raw_block
      have hwn : ((st.at' + k : Nat) : Int) = (st.at' : Int) + k := by omega
      by_cases hz : (pl.live ((st.at' + k : Nat) : Int)).size = 0
      · have hT := fun (W : World) (hW : Sat W _) => read_torn (p := st.plate) (L := raw w.heap.size (.cells #[.int .i64 v, .slice A l.length cap] 41) :: slA slotT (.slice A l.length cap) l :: raw s (stObj st A0 c0') :: rowA pageT 41 A0 c0' st.pages :: L) hH hrd hlen hz hW
        rw [hwn] at hT
        have HN := Lib.hid (HI.out.next (by intro hh; rw [hh] at hz; exact absurd hz (by show (secL i R lx).toArray.size ≠ 0; rw [List.size_toArray]; simp [secL, putL_length])))
        have HT := Lib.hid (hT wr.drew (rot5 hSr.drew))
        have HS := Lib.hid hSr
        clear hT hSr hrd hck hz hwn
        have hwr : IntKind.i64.wrap ((st.at' : Int) + k) = st.at' + k := by rw [IntKind.wrap_i64]; omega
        go_upto_region 4 with (fail)
        clear HS c0 c1 c2 c3 c4 c5 cf d2 d3 d4 d5 df e0 e1 ef HS0 HALL HSURE HI hH hcnt
        go_region_held3? (fun w' => w'.cell? ⟨s, 0, none⟩ = some (.pointer (some ⟨st.plate, 0, none⟩)) ∧ w'.cell? ⟨s, 1, none⟩ = some (.int .i64 st.at')) (first | go_keep | exact ⟨(cells6 hS1.f3.raw_block).1, (cells6 hS1.f3.raw_block).2.1⟩)
          (first | (go_at_call 15; refine HT.out.mono ?_; rintro e w1 ⟨_, rfl, rfl, hS1⟩))
        all_goals go_wp2
        exact ⟨⟨k + 1, fnd, v, l, A, cap, by simp, by omega, rfl, HN.out, rot5' hS1⟩, by simp [intOf]; omega⟩
      · obtain ⟨v', l', hok, hl', hsz, h240, himp, hsur⟩ := hck.resolve_left hz
        have hT := read_whole (p := st.plate) hH hrd hlen hz (rot5 hSr.drew)
        rw [hwn] at hT
        have hwr : IntKind.i64.wrap ((st.at' : Int) + k) = st.at' + k := by rw [IntKind.wrap_i64]; omega
        by_cases he : (⟨(secL i v' l').toArray⟩ : ByteArray) = pl.live ((st.at' + k : Nat) : Int)
        · have hnew := himp he
          have hcne : v' < R → pl.live ((st.at' + k : Nat) : Int) ≠ ⟨(secL i R lx).toArray⟩ := fun h hh => by have := (hsur hh).1; omega
          have hM := fun (W : World) (hW : Sat W (raw w.heap.size (.cells #[.int .i64 v, .slice A l.length cap] 41) :: slA slotT (.slice A l.length cap) l :: raw s (stObj st A0 c0') :: rowA pageT 41 A0 c0' st.pages :: plateA st.plate pl :: L)) => page_hit hok hi hsz h240 he hW
          have hv' := hok.lsn
          have hI := HI.out
          have hbef : ∀ (hv : v' < R), (fnd = false ∨ v < v') → ∀ j, j < k + 1 → pl.live ((st.at' + j : Nat) : Int) ≠ ⟨(secL i R lx).toArray⟩ := by
            intro hv hor j hj
            rcases Nat.lt_or_ge j k with h1 | h1
            · cases hf : fnd with
              | false => exact hI.none hf j h1
              | true =>
                rcases hI.some hf with ⟨_, h2⟩ | ⟨h2, _⟩
                · exact h2 j h1
                · rcases hor with h3 | h3
                  · rw [hf] at h3; cases h3
                  · omega
            · obtain rfl : j = k := by omega
              exact hcne hv
          have htake : (fnd = false ∨ v < v') → CopyInv pl st.at' i R lx (k + 1) true v' l' := fun hor =>
            ⟨by omega, (fun h => by cases h), fun _ => by
              rcases hnew with h1 | h1
              · exact .inl ⟨h1, hbef h1 hor⟩
              · exact .inr h1⟩
          have hkeep : fnd = true → ¬ v < v' → CopyInv pl st.at' i R lx (k + 1) true v l := fun hf hn =>
            ⟨hI.small, (fun h => by cases h), fun _ => by
              rcases hI.some hf with ⟨h1, h2⟩ | h1
              · rcases hnew with h3 | ⟨h3, _⟩
                · refine .inl ⟨h1, fun j hj => ?_⟩
                  rcases Nat.lt_or_ge j k with h4 | h4
                  · exact h2 j h4
                  · obtain rfl : j = k := by omega
                    exact hcne h3
                · omega
              · exact .inr h1⟩
          have hvs := hI.small
          clear hI hbef hnew hcne
          rw [hwn] at hM hsz
          generalize pl.live ((st.at' : Int) + k) = c at *
          have HT := Lib.hid hT
          have HM := Lib.hid hM
          have HTA := Lib.hid htake
          have HKE := Lib.hid hkeep
          clear htake hkeep
          clear hT hM hSr hrd hck hz hwn he h240 himp hsur hok d2 d3 d4 d5 df e0 e1 ef c0 c1 c2 c3 c4 c5 cf HS0 HALL HSURE HI hH hcnt
          cases fnd with
          | false =>
            have HN := Lib.hid (HTA.out (.inl rfl))
            clear HTA HKE
            go_upto_region 4 with (fail)
            go_region_held3 (fun w' => w'.cell? ⟨s, 0, none⟩ = some (.pointer (some ⟨st.plate, 0, none⟩)) ∧ w'.cell? ⟨s, 1, none⟩ = some (.int .i64 st.at')) (first | go_keep | exact ⟨(cells6 hS1.f3.raw_block).1, (cells6 hS1.f3.raw_block).2.1⟩)
              (first | (go_at_call 15; refine HT.out.mono ?_; rintro e w1 ⟨_, rfl, rfl, hS1⟩))
            all_goals go_wp2_with (go_at_call 33; refine (HM.out _ (rot5' hS1)).mono ?_; rintro e w2 ⟨_, rfl, A2, cap2, rfl, hS2⟩; obtain ⟨g0, g1, gf⟩ := cells2 hS2.f1.raw_block; have hlt2 : w.heap.size < w2.heap.size := (Array.getElem?_eq_some_iff.1 hS2.f1.raw_block).1; have hne1 : ¬ w.heap.size = w2.heap.size := Nat.ne_of_lt hlt2; have hne2 : ¬ w2.heap.size = w.heap.size := Nat.ne_of_gt hlt2)
            exact ⟨⟨k + 1, true, v', l', A2, cap2, by simp, by omega, rfl, HN.out, ((hS2.f1.setCell (k := 0) (.int .i64 v')).setCell (k := 1) (.slice A2 l'.length cap2)).f2.drop.alloc' _⟩, by simp [intOf]; omega⟩
          | true =>
            by_cases hgt : v < v'
            · have HN := Lib.hid (HTA.out (.inr hgt))
              clear HTA HKE
              go_upto_region 4 with (fail)
              go_region_held3 (fun w' => w'.cell? ⟨s, 0, none⟩ = some (.pointer (some ⟨st.plate, 0, none⟩)) ∧ w'.cell? ⟨s, 1, none⟩ = some (.int .i64 st.at')) (first | go_keep | exact ⟨(cells6 hS1.f3.raw_block).1, (cells6 hS1.f3.raw_block).2.1⟩)
                (first | (go_at_call 15; refine HT.out.mono ?_; rintro e w1 ⟨_, rfl, rfl, hS1⟩))
              all_goals go_wp2_with (go_at_call 33; refine (HM.out _ (rot5' hS1)).mono ?_; rintro e w2 ⟨_, rfl, A2, cap2, rfl, hS2⟩; obtain ⟨g0, g1, gf⟩ := cells2 hS2.f1.raw_block; have hlt2 : w.heap.size < w2.heap.size := (Array.getElem?_eq_some_iff.1 hS2.f1.raw_block).1; have hne1 : ¬ w.heap.size = w2.heap.size := Nat.ne_of_lt hlt2; have hne2 : ¬ w2.heap.size = w.heap.size := Nat.ne_of_gt hlt2)
              exact ⟨⟨k + 1, true, v', l', A2, cap2, by simp, by omega, rfl, HN.out, ((hS2.f1.setCell (k := 0) (.int .i64 v')).setCell (k := 1) (.slice A2 l'.length cap2)).f2.drop.alloc' _⟩, by simp [intOf]; omega⟩
            · have HN := Lib.hid (HKE.out rfl hgt)
              clear HTA HKE
              go_upto_region 4 with (fail)
              go_region_held3 (fun w' => w'.cell? ⟨s, 0, none⟩ = some (.pointer (some ⟨st.plate, 0, none⟩)) ∧ w'.cell? ⟨s, 1, none⟩ = some (.int .i64 st.at')) (first | go_keep | exact ⟨(cells6 hS1.f3.raw_block).1, (cells6 hS1.f3.raw_block).2.1⟩)
                (first | (go_at_call 15; refine HT.out.mono ?_; rintro e w1 ⟨_, rfl, rfl, hS1⟩))
              all_goals go_wp2_with (go_at_call 33; refine (HM.out _ (rot5' hS1)).mono ?_; rintro e w2 ⟨_, rfl, A2, cap2, rfl, hS2⟩; obtain ⟨g0, g1, gf⟩ := cells2 hS2.f1.raw_block; have hlt2 : w.heap.size < w2.heap.size := (Array.getElem?_eq_some_iff.1 hS2.f1.raw_block).1; have hne1 : ¬ w.heap.size = w2.heap.size := Nat.ne_of_lt hlt2; have hne2 : ¬ w2.heap.size = w.heap.size := Nat.ne_of_gt hlt2)
              exact ⟨⟨k + 1, true, v, l, A, cap, by simp, by omega, rfl, HN.out, (hS2.alloc' _).drop⟩, by simp [intOf]; omega⟩
        · have HN := Lib.hid (HI.out.next (R := R) (lx := lx) (fun hh => by
            obtain ⟨rfl, rfl⟩ := hsur hh
            exact he hh.symm))
          have hM := fun (W : World) (hW : Sat W (raw w.heap.size (.cells #[.int .i64 v, .slice A l.length cap] 41) :: slA slotT (.slice A l.length cap) l :: raw s (stObj st A0 c0') :: rowA pageT 41 A0 c0' st.pages :: plateA st.plate pl :: L)) => page_miss hok hi hsz h240 he hW
          rw [hwn] at hM hsz
          generalize pl.live ((st.at' : Int) + k) = c at *
          have HT := Lib.hid hT
          have HM := Lib.hid hM
          clear hT hM hSr hrd hck hz hwn he h240 himp hsur hok d2 d3 d4 d5 df e0 e1 ef c0 c1 c2 c3 c4 c5 cf HS0 HALL HSURE HI hH hcnt
          go_upto_region 4 with (fail)
          go_region_held3 (fun w' => w'.cell? ⟨s, 0, none⟩ = some (.pointer (some ⟨st.plate, 0, none⟩)) ∧ w'.cell? ⟨s, 1, none⟩ = some (.int .i64 st.at')) (first | go_keep | exact ⟨(cells6 hS1.f3.raw_block).1, (cells6 hS1.f3.raw_block).2.1⟩)
            (first | (go_at_call 15; refine HT.out.mono ?_; rintro e w1 ⟨_, rfl, rfl, hS1⟩))
          all_goals go_wp2_with (go_at_call 33; refine (HM.out _ (rot5' hS1)).mono ?_; rintro e w2 ⟨_, rfl, rfl, hS2⟩)
          exact ⟨⟨k + 1, fnd, v, l, A, cap, by simp, by omega, rfl, HN.out, hS2.alloc' _⟩, by simp [intOf]; omega⟩
    · obtain rfl : k = st.copies := by omega
      obtain ⟨k0, hk0, hk1⟩ := HSURE.out
      have hft : fnd = true := by
        cases hf : fnd with
        | true => rfl
        | false => exact absurd hk1 (HI.out.none hf k0 hk0)
      subst hft
      obtain ⟨rfl, rfl⟩ : v = R ∧ l = lx := by
        rcases HI.out.some rfl with ⟨_, h2⟩ | h1
        · exact absurd hk1 (h2 k0 hk0)
        · exact h1
      obtain ⟨e0, e1, ef⟩ := cells2 hSr.raw_block
      have hF := (hSr.setCell (k := 0) (.int .i64 v)).setCell (k := 1) (.slice A l.length cap)
      obtain ⟨x0, x1, _⟩ := cells2 hF.raw_block
      have HF := Lib.hid hF
      have HX0 := Lib.hid x0
      have HX1 := Lib.hid x1
      clear hF x0 x1 hSr hk1 HS0 HALL HSURE HI hH hcnt c0 c1 c2 c3 c4 c5 cf
      go_wp2
      refine bodyPost_ret (v := .tuple #[.agg #[.int .i64 v, .slice A l.length cap], .bool true]) (by simp [results, Tryd.results35, go_sem, HX0.out, HX1.out]) rfl ⟨_, rfl, A, cap, rfl, ?_⟩
      exact (store_in HF.out.drop.rot3).swap
end
end Sl
end Go.Proofs.YtkmlppeligdbaaaDoor

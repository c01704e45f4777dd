/- The first opening; the one page of the law's own trial. Conditions: none. -/
import Derived.Test.YtkmlppeligdbaaaDoorLawE
namespace Go.Proofs.YtkmlppeligdbaaaDoor
namespace Sl
open Go.RowKit SepW Pl Eg
set_option linter.unusedVariables false
set_option linter.unusedSimpArgs false
set_option linter.unusedSectionVars false
section
variable {w : World} {L : List Atom} {s d : Nat} {pl : PlateM} {st : StoreM} {P : Int → ByteArray → Prop}
theorem getD_none {m i : Nat} : (List.replicate m (none : Ver)).getD i none = none := by
  simp [List.getD_eq_getElem?_getD, List.getElem?_replicate]
  split <;> rfl
theorem open_fresh {a c m : Nat} {n : Int} (ha : a < 100000) (hc : c ≤ 64) (hc1 : 1 ≤ c) (hm1 : 1 ≤ m) (hm : m ≤ 1000) (h1 : 1 ≤ n) (h2 : n ≤ 16384) (hcnt : ((a + c + m : Nat) : Int) ≤ n) (hS : Sat w (plateA d (newPlate n) :: L)) :
    Calls Tryd.prog 6 #[.pointer (some ⟨d, 0, none⟩), .int .i64 (a : Nat), .int .i64 (c : Nat), .int .i64 (m : Nat)] w (Ret fun v w' =>
      ∃ b, v = .tuple #[.pointer (some ⟨b, 0, none⟩), .int .i64 0] ∧ Sat w' (storeA b ⟨d, a, c, (List.replicate m (none : Ver)).map pageOf, 0, false⟩ :: plateA d (newPlate n) :: L)) := by
  have hst := new_stab (a := a) (c := c) (m := m) n
  have hcn : (newPlate n).count = n := by simp [newPlate]; omega
  refine Ret.weak (open_c (o := fun i => (List.replicate m (none : Ver)).getD i none) (n := fun i => (List.replicate m (none : Ver)).getD i none) hst.held rfl rfl ha (by omega) hc1 hc hm1 hm (by rw [hcn]; exact hcnt) (by rw [hcn]; omega) hst.bad.rec' hS) ?_
  rintro v w' (⟨b, rfl, pl', ul, h, hS'⟩ | ⟨rfl, pl', h, hS'⟩)
  · have he : pl' = newPlate n := h.whole fun j hj => by
      rw [(hst.held.live _).1 j hj rfl]
      exact size_ne (hst.ok j hj)
    have hu : ul = List.replicate m none := by
      apply List.ext_getElem?
      intro i
      by_cases hi : i < m
      · have h3 := (h.vrs i hi).1
        simp only [or_self, getD_none] at h3
        have hlt : i < ul.length := by rw [h.len]; exact hi
        simp [List.getD_eq_getElem?_getD, hlt] at h3
        simp [List.getElem?_replicate, hi, hlt, h3]
      · rw [List.getElem?_eq_none (by rw [h.len]; omega), List.getElem?_eq_none (by simp; omega)]
    subst he hu
    exact ⟨b, rfl, hS'⟩
  · exact absurd h.armed (Int.lt_irrefl 0)
abbrev xS : ByteArray := ⟨#[120]⟩
abbrev leaf0 : LeafM := (3, 7, [⟨true, xS⟩])
theorem batch0 : Batch [leaf0] 4 2 6 := by
  refine ⟨⟨by decide, fun k x hx => ?_, fun k j x y hx hj hy => ?_⟩, fun k x hx => ?_, by decide⟩
  · cases k with
    | zero => simp at hx; subst hx; exact ⟨okay1 (by decide) rfl, by decide⟩
    | succ k => simp at hx
  · cases k with
    | zero => omega
    | succ k => simp at hx
  · cases k with
    | zero => simp at hx; subst hx; rfl
    | succ k => simp at hx
theorem fine0 : Fine 2 2 4 6 20 (newPlate 20) (List.replicate 4 none) := ⟨(new_stab 20).mono (by decide), rfl⟩
/-- the trial's writing -/
theorem write_first {cap : Nat} {A : Option Addr} (hS : Sat w (slA leafT (.slice A 1 cap) [leaf0] :: storeA s ⟨d, 2, 2, (List.replicate 4 (none : Ver)).map pageOf, 0, false⟩ :: plateA d (newPlate 20) :: L)) :
    Calls Tryd.prog 9 #[.pointer (some ⟨s, 0, none⟩), .slice A 1 cap] w (Ret fun v w' => v = .int .i64 0 ∧ ∃ pl', (Fine 2 2 4 7 20 pl' (newL (List.replicate 4 none) [leaf0]) ∧ pl'.life = 0 ∧ pl'.acts = 4) ∧
      Sat w' (storeA s ⟨d, 2, 2, (newL (List.replicate 4 none) [leaf0]).map pageOf, 0, false⟩ :: plateA d pl' :: L)) := by
  have hst := fine0.stab
  have hb := batch0
  have hnl := new_ok hst hb
  refine Ret.weak (writeAll_c (st := ⟨d, 2, 2, (List.replicate 4 (none : Ver)).map pageOf, 0, false⟩) (l := [leaf0]) (ws1 := ws1 2 [leaf0]) (ws2 := ws2 2 2 [leaf0]) (P1 := StabP 2 2 4 7 (List.replicate 4 none)) (P2 := PhaseP 2 2 4 6 (List.replicate 4 none) [leaf0]) (by simp [readyM, newPlate]) (phase1 hst) rfl rfl (show 2 < 100000 by decide) (show 2 < 100000 by decide) (by decide) (show 4 < 100000 by decide) (by decide) (by decide) (by simpa using hb.all) (by simp [ws1]) (by simp [ws2])
    (fun k x hx => h1ws hb (by decide) k x hx) (fun pl1 h => phase2 hst hb h) (fun k x hx => h2ws hb (by decide) k x hx) hS) ?_
  rintro v w' (⟨rfl, pl1, pl2, h1, h2, hS'⟩ | ⟨rfl, pl', h, hS'⟩)
  · refine ⟨rfl, pl2, ⟨⟨write_stab hst hb hnl h1 h2, by rw [h2.count, h1.count]; rfl⟩, by rw [h2.life, h1.life]; rfl, by rw [h2.acts, h1.acts]; show bump 2 (bump 2 0) = 4; simp [bump, wrap64]⟩, ?_⟩
    rw [← setPages_new]
    exact hS'
  · exfalso
    rcases h with h | ⟨pl1, h1, h⟩
    · exact absurd h.armed (by decide)
    · have := h1.armed (by decide)
      have := h.armed
      omega
theorem read_sec {a c m r i : Nat} {n : Int} {vl : List Ver} (h : Fine a c m r n pl vl) (hi : i < m) (hcnt : ((a + c + m : Nat) : Int) ≤ n) (hS : Sat w (plateA d pl :: L)) :
    Calls Tryd.prog 15 #[.pointer (some ⟨d, 0, none⟩), .int .i64 ((a + c + i : Nat) : Int)] w (Ret fun v w' => v = .tuple #[.string (secOf i (vl.getD i none)), .int .i64 0] ∧ Sat w' (plateA d pl :: L)) := by
  have hl : pl.live ((a + c + i : Nat) : Int) = secOf i (vl.getD i none) := (h.stab.held.live _).1 i hi rfl
  have h2 := read_whole (n := ((a + c + i : Nat) : Int)) h.stab.held (ready_up h.stab.down (by omega) (by rw [h.count]; omega)) (by rw [h.stab.que]; decide) (by rw [hl]; exact size_ne (h.stab.ok i hi)) hS
  rw [hl] at h2
  exact Ret.of_ex h2
theorem acts_c (hS : Sat w (plateA d pl :: L)) : Calls Tryd.prog 16 #[.pointer (some ⟨d, 0, none⟩)] w (Ret fun v w' => v = .int .i64 pl.acts ∧ Sat w' (plateA d pl :: L)) := pure_c (acts_ct hS) hS
theorem tag0 : (⟨(secL 3 7 [⟨true, xS⟩]).toArray⟩ : ByteArray).extract 240 248 = ⟨#[80, 65, 71, 69, 0, 0, 0, 3]⟩ := by
  apply ByteArray.ext
  decide +kernel
abbrev vl1 : List Ver := newL (List.replicate 4 none) [leaf0]
theorem read7 (h : Fine 2 2 4 7 20 pl vl1) (hS : Sat w (plateA d pl :: L)) : Calls Tryd.prog 15 #[.pointer (some ⟨d, 0, none⟩), .int .i64 7] w (Ret fun v w' => v = .tuple #[.string ⟨(secL 3 7 [⟨true, xS⟩]).toArray⟩, .int .i64 0] ∧ Sat w' (plateA d pl :: L)) :=
  read_sec (i := 3) h (by decide) (by decide) hS
theorem acts4 (h : pl.acts = 4) (hS : Sat w (plateA d pl :: L)) : Calls Tryd.prog 16 #[.pointer (some ⟨d, 0, none⟩)] w (Ret fun v w' => v = .int .i64 4 ∧ Sat w' (plateA d pl :: L)) := by
  have h2 := acts_c hS
  rw [h] at h2
  exact h2
theorem read3 (h : Fine 2 2 4 7 20 pl vl1) (hl : pl.life = 0) (hS : Sat w (storeA s ⟨d, 2, 2, vl1.map pageOf, 0, false⟩ :: plateA d pl :: L)) :
    Calls Tryd.prog 12 #[.pointer (some ⟨s, 0, none⟩), .int .i64 3] w (Ret fun v w' => ∃ A cap, v = .tuple #[.agg #[.int .i64 7, .slice A 1 cap], .int .i64 0] ∧ Sat w' (slA slotT (.slice A 1 cap) [(⟨true, xS⟩ : Slot)] :: storeA s ⟨d, 2, 2, vl1.map pageOf, 0, false⟩ :: plateA d pl :: L)) :=
  read_c (st := ⟨d, 2, 2, vl1.map pageOf, 0, false⟩) (i := 3) (x := ⟨7, [⟨true, xS⟩]⟩) rfl (by decide) (by decide) (ready_fine h hl rfl) hS
theorem read0 (h : Fine 2 2 4 7 20 pl vl1) (hl : pl.life = 0) (hS : Sat w (storeA s ⟨d, 2, 2, vl1.map pageOf, 0, false⟩ :: plateA d pl :: L)) :
    Calls Tryd.prog 12 #[.pointer (some ⟨s, 0, none⟩), .int .i64 0] w (Ret fun v w' => ∃ A cap, v = .tuple #[.agg #[.int .i64 0, .slice A 0 cap], .int .i64 0] ∧ Sat w' (slA slotT (.slice A 0 cap) ([] : List Slot) :: storeA s ⟨d, 2, 2, vl1.map pageOf, 0, false⟩ :: plateA d pl :: L)) :=
  read_c (st := ⟨d, 2, 2, vl1.map pageOf, 0, false⟩) (i := 0) (x := ⟨0, []⟩) rfl (by decide) (by decide) (ready_fine h hl rfl) hS
theorem image7 (hS : Sat w L) : Calls Tryd.prog 14 #[.int .i64 7, .string xS] w (Ret fun r w' => ∃ B cp, r = .agg #[.int .i64 7, .slice B 1 cp] ∧ Sat w' (slA slotT (.slice B 1 cp) [(⟨true, xS⟩ : Slot)] :: L)) := image_c (v := 7) hS
theorem open20 (hS : Sat w (plateA d (newPlate 20) :: L)) : Calls Tryd.prog 6 #[.pointer (some ⟨d, 0, none⟩), .int .i64 2, .int .i64 2, .int .i64 4] w (Ret fun v w' =>
      ∃ b, v = .tuple #[.pointer (some ⟨b, 0, none⟩), .int .i64 0] ∧ Sat w' (storeA b ⟨d, 2, 2, (List.replicate 4 (none : Ver)).map pageOf, 0, false⟩ :: plateA d (newPlate 20) :: L)) :=
  open_fresh (a := 2) (c := 2) (m := 4) (by decide) (by decide) (by decide) (by decide) (by decide) (by decide) (by decide) (by decide) hS
theorem open16 (hS : Sat w (plateA d (newPlate 16) :: L)) : Calls Tryd.prog 6 #[.pointer (some ⟨d, 0, none⟩), .int .i64 0, .int .i64 3, .int .i64 5] w (Ret fun v w' =>
      ∃ b, v = .tuple #[.pointer (some ⟨b, 0, none⟩), .int .i64 0] ∧ Sat w' (storeA b ⟨d, 0, 3, (List.replicate 5 (none : Ver)).map pageOf, 0, false⟩ :: plateA d (newPlate 16) :: L)) :=
  open_fresh (a := 0) (c := 3) (m := 5) (by decide) (by decide) (by decide) (by decide) (by decide) (by decide) (by decide) (by decide) hS
end
end Sl
end Go.Proofs.YtkmlppeligdbaaaDoor

/- What the law's loops carry. Conditions: none. -/
import Derived.Test.YtkmlppeligdbaaaDoorLawG
namespace Go.Proofs.YtkmlppeligdbaaaDoor
namespace Sl
open Go.RowKit SepW Pl Eg
set_option linter.unusedVariables false
set_option linter.unusedSimpArgs false
set_option linter.unusedSectionVars false
section
variable {w : World} {L : List Atom} {s d : Nat} {pl : PlateM} {st : StoreM} {P : Int → ByteArray → Prop}
theorem laid_law {pages : List Int} {A : Option Addr} {cap r : Nat} {dt : Int} (hr : r < 1000000) (hpl : pages.length ≤ 140737488355328) (hS : Sat w (slA intT (.slice A pages.length cap) pages :: L)) :
    Calls Tryd.prog 8 #[.agg #[.slice A pages.length cap, .int .u8 dt], .int .i64 (r + 1 : Nat)] w (Ret fun v w' => ∃ l B cp, Batch l 5 3 r ∧ v = .slice B l.length cp ∧ Sat w' (slA leafT (.slice B l.length cp) l :: slA intT (.slice A pages.length cap) pages :: L)) := by
  refine Ret.weak (laid_c hpl hS) ?_
  rintro v w' ⟨B, cp, rfl, hS'⟩
  exact ⟨_, B, cp, laid_batch hr rfl pages, rfl, hS'⟩
/-- pages, the first n of ul, the others of vl -/
def mixL (ul vl : List Ver) (n : Nat) : List Page := (ul.map pageOf).take n ++ (vl.map pageOf).drop n
theorem map_at {m n : Nat} {vl : List Ver} (h : vl.length = m) (hn : n < m) : (vl.map pageOf)[n]? = some (pageOf (vl.getD n none)) := by
  have hlt : n < vl.length := by omega
  simp [List.getD_eq_getElem?_getD, hlt]
theorem mix_len {m n : Nat} {ul vl : List Ver} (hu : ul.length = m) (hv : vl.length = m) (hn : n ≤ m) : (mixL ul vl n).length = m := by
  simp [mixL]; omega
theorem mix_at {m n : Nat} {ul vl : List Ver} (hu : ul.length = m) (hv : vl.length = m) (hn : n < m) : (mixL ul vl n)[n]? = some (pageOf (vl.getD n none)) := by
  unfold mixL
  have hl : ((ul.map pageOf).take n).length = n := by simp; omega
  rw [List.getElem?_append_right (by rw [hl]; exact Nat.le_refl _), hl, Nat.sub_self, List.getElem?_drop, Nat.add_zero]
  exact map_at hv hn
theorem mix_set {m n : Nat} {ul vl : List Ver} (hu : ul.length = m) (hv : vl.length = m) (hn : n < m) : (mixL ul vl n).set n (pageOf (ul.getD n none)) = mixL ul vl (n + 1) := by
  apply List.ext_getElem?
  intro i
  rw [List.getElem?_set, mix_len hu hv (by omega)]
  have hl : ((ul.map pageOf).take n).length = n := by simp; omega
  have hl2 : ((ul.map pageOf).take (n + 1)).length = n + 1 := by simp; omega
  by_cases h : n = i
  · subst h
    rw [if_pos rfl, if_pos hn]
    unfold mixL
    rw [List.getElem?_append_left (by rw [hl2]; omega), List.getElem?_take, if_pos (by omega)]
    exact (map_at hu hn).symm
  · rw [if_neg h]
    unfold mixL
    rcases Nat.lt_or_ge i n with hi | hi
    · rw [List.getElem?_append_left (by rw [hl]; exact hi), List.getElem?_append_left (by rw [hl2]; omega), List.getElem?_take, List.getElem?_take, if_pos hi, if_pos (by omega)]
    · rw [List.getElem?_append_right (by rw [hl]; exact hi), List.getElem?_append_right (by rw [hl2]; omega), hl, hl2, List.getElem?_drop, List.getElem?_drop]
      congr 1
      omega
theorem mix_zero (ul vl : List Ver) : mixL ul vl 0 = vl.map pageOf := by simp [mixL]
theorem mix_full {m : Nat} {ul vl : List Ver} (hu : ul.length = m) (hv : vl.length = m) : mixL ul vl m = ul.map pageOf := by
  unfold mixL
  rw [List.take_of_length_le (by simp; omega), List.drop_of_length_le (by simp; omega), List.append_nil]
theorem pages_ne {m : Nat} {vl : List Ver} (h : vl.length = m) (hm : 1 ≤ m) : vl.map pageOf ≠ [] := by
  intro h2
  have h3 := congrArg List.length h2
  rw [List.length_map, h] at h3
  simp at h3
  omega
theorem back_of {a c m r : Nat} {vl nl ul : List Ver} {n : Int} {P : Int → ByteArray → Prop} (hb : Bad P a c m r vl nl) (hf : Fine a c m r n pl ul) (hh : Held pl P) : Back a c m r n P pl vl nl := ⟨hh, hb, hf.stab.down, hf.count, hf.stab.que⟩
theorem fine_page {a c m r i : Nat} {n : Int} {vl : List Ver} (h : Fine a c m r n pl vl) (hi : i < m) : (pageOf (vl.getD i none)).slots.length ≤ 100000 := by
  have := page_len (h.stab.ok i hi)
  omega
theorem bad_page {a c m r i : Nat} {vl nl : List Ver} {P : Int → ByteArray → Prop} (h : Bad P a c m r vl nl) (hi : i < m) : (pageOf (vl.getD i none)).slots.length ≤ 100000 ∧ (pageOf (nl.getD i none)).slots.length ≤ 100000 :=
  ⟨by have := page_len (h.rec' i hi).ok1; omega, by have := page_len (h.rec' i hi).ok2; omega⟩
theorem read_law {a c m r i : Nat} {n : Int} {vl : List Ver} {d : Nat} {lf : Int} (h : Fine a c m r n pl vl) (hl : pl.life = lf) (hi : i < m) (hm : m ≤ 1000) (hS : Sat w (storeA s ⟨d, a, c, vl.map pageOf, lf, false⟩ :: plateA d pl :: L)) :
    Calls Tryd.prog 12 #[.pointer (some ⟨s, 0, none⟩), .int .i64 (i : Nat)] w (Ret fun v w' => ∃ A cap, v = .tuple #[.agg #[.int .i64 (pageOf (vl.getD i none)).lsn, .slice A (pageOf (vl.getD i none)).slots.length cap], .int .i64 0] ∧
      Sat w' (slA slotT (.slice A (pageOf (vl.getD i none)).slots.length cap) (pageOf (vl.getD i none)).slots :: storeA s ⟨d, a, c, vl.map pageOf, lf, false⟩ :: plateA d pl :: L)) :=
  read_c (st := ⟨d, a, c, vl.map pageOf, lf, false⟩) (map_at h.stab.len hi) (by omega) (page_len (h.stab.ok i hi)) (ready_fine h hl rfl) hS
theorem open_law16 {r : Nat} {vl nl : List Ver} (hb : Back 0 3 5 r 16 P pl vl nl) (hS : Sat w (plateA d pl :: L)) :
    Calls Tryd.prog 6 #[.pointer (some ⟨d, 0, none⟩), .int .i64 0, .int .i64 3, .int .i64 5] w (Ret fun v w' =>
      (∃ b, v = .tuple #[.pointer (some ⟨b, 0, none⟩), .int .i64 0] ∧ ∃ pl' ul, (Fine 0 3 5 r 16 pl' ul ∧ (∀ i, i < 5 → ul.getD i none = vl.getD i none ∨ ul.getD i none = nl.getD i none) ∧ pl'.life = pl.life ∧ (pl.armed ≤ 0 → pl'.armed ≤ 0) ∧ Held pl' P) ∧ Sat w' (storeA b ⟨d, 0, 3, ul.map pageOf, pl'.life, false⟩ :: plateA d pl' :: L)) ∨
      (v = .tuple #[.pointer none, .int .i64 10] ∧ ∃ pl', Lost 0 3 5 r 16 P pl' vl nl ∧ 0 < pl.armed ∧ Sat w' (plateA d pl' :: L))) :=
  open_law (a := 0) (c := 3) (m := 5) hb (by decide) (by decide) (by decide) (by decide) (by decide) (by decide) (by decide) hS
theorem write_law16 {cap r : Nat} {A : Option Addr} {l : List LeafM} {vl : List Ver} {lf : Int} (hs : Fine 0 3 5 r 16 pl vl) (hl : pl.life = lf) (hb : Batch l 5 3 r) (hS : Sat w (slA leafT (.slice A l.length cap) l :: storeA s ⟨d, 0, 3, vl.map pageOf, lf, false⟩ :: plateA d pl :: L)) :
    Calls Tryd.prog 9 #[.pointer (some ⟨s, 0, none⟩), .slice A l.length cap] w (Ret fun v w' =>
      (v = .int .i64 0 ∧ ∃ pl', (Fine 0 3 5 (r + 1) 16 pl' (newL vl l) ∧ pl'.life = lf) ∧ Sat w' (storeA s ⟨d, 0, 3, (newL vl l).map pageOf, lf, false⟩ :: plateA d pl' :: L)) ∨
      (v = .int .i64 10 ∧ ∃ pl' P, Lost 0 3 5 (r + 1) 16 P pl' vl (newL vl l) ∧ Sat w' (plateA d pl' :: L))) := by
  refine Ret.weak (write_law (st := ⟨d, 0, 3, vl.map pageOf, lf, false⟩) hs rfl (ready_fine hs hl rfl) hb (show 0 < 100000 by decide) (show 3 ≤ 64 by decide) (show 1 ≤ 3 by decide) (by decide) (show ((0 + 3 + 5 : Nat) : Int) ≤ 16 by decide) hS) ?_
  rintro v w' (⟨rfl, pl', ⟨h1, h2, h3⟩, hS'⟩ | ⟨rfl, h⟩)
  · exact .inl ⟨rfl, pl', ⟨h1, h2.trans hl⟩, hS'⟩
  · exact .inr ⟨rfl, h⟩
theorem fine16 : Fine 0 3 5 0 16 (newPlate 16) (List.replicate 5 none) := ⟨new_stab 16, rfl⟩
end
end Sl
end Go.Proofs.YtkmlppeligdbaaaDoor

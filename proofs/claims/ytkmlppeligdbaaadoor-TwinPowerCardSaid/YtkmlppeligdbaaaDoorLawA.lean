/- What the law's own helpers are told by. Conditions: none. -/
import Derived.Test.YtkmlppeligdbaaaDoorWrite
import Derived.Test.YtkmlppeligdbaaaDoorEng6
namespace Go.Proofs.YtkmlppeligdbaaaDoor
namespace Sl
open Go.RowKit SepW Pl Eg
set_option linter.unusedVariables false
set_option linter.unusedSimpArgs false
set_option linter.unusedSectionVars false
section
variable {w : World} {L : List Atom}
theorem int_el {v : Option Addr} {n cap k : Nat} {l : List Int} {x : Int} (h : Sat w L) (i : Nat) (hi : L[i]? = some (slA intT (.slice v n cap) l)) (hx : l[k]? = some x) :
    ∃ b off, v = some ⟨b, off, none⟩ ∧ Sat w (immC b (off + k * 1) [.int .i64 x] :: L) := by
  obtain ⟨b, off, cs, e, hS⟩ := sl_imm h i hi hx
  obtain ⟨g, H, ⟨H1, H2, rfl, h1, H3, H4, rfl, ⟨⟨c1, c2, hc, hu, hc2⟩, rfl⟩, h4⟩, hg⟩ := hS
  cases hc2
  cases hu
  rw [List.append_nil] at hc
  subst hc
  exact ⟨b, off, e, g, _, ⟨H1, _, rfl, h1, h4⟩, hg⟩
theorem slot_el {v : Option Addr} {n cap k : Nat} {l : List Slot} {x : Slot} (h : Sat w L) (i : Nat) (hi : L[i]? = some (slA slotT (.slice v n cap) l)) (hx : l[k]? = some x) :
    ∃ b off, v = some ⟨b, off, none⟩ ∧ Sat w (immC b (off + k * 2) [.bool x.used, .string x.data] :: L) := by
  obtain ⟨b, off, cs, e, hS⟩ := sl_imm h i hi hx
  obtain ⟨g, H, ⟨H1, H2, rfl, h1, H3, H4, rfl, ⟨⟨c1, c2, hc, hu, hc2⟩, rfl⟩, h4⟩, hg⟩ := hS
  cases hc2
  cases hu
  rw [List.append_nil] at hc
  subst hc
  exact ⟨b, off, e, g, _, ⟨H1, _, rfl, h1, h4⟩, hg⟩
/-- pages' numbers, and a byte -/
abbrev GroupM := List Int × Int
def groupT : Ty GroupM := ⟨2, by decide, fun g x cs => ∃ v, cs = [v, .int .u8 x.2] ∧ SlK intT g v x.1, fun hg ⟨v, e, h⟩ => ⟨v, e, h.mono hg⟩, fun ⟨v, e, h⟩ => by rw [e]; rfl,
  fun ⟨v, e, a, c, e1, _⟩ => by rw [e, e1]; simp [Value.oneCell']⟩
theorem group_el {v : Option Addr} {n cap k : Nat} {l : List GroupM} {x : GroupM} (h : Sat w L) (i : Nat) (hi : L[i]? = some (slA groupT (.slice v n cap) l)) (hx : l[k]? = some x) :
    ∃ b off B cp, v = some ⟨b, off, none⟩ ∧ Sat w (immC b (off + k * 2) [.slice B x.1.length cp, .int .u8 x.2] :: slA intT (.slice B x.1.length cp) x.1 :: L) := by
  obtain ⟨b, off, cs, e, hS⟩ := sl_imm h i hi hx
  obtain ⟨g, H, ⟨H1, H2, rfl, h1, H3, H4, rfl, ⟨⟨c1, c2, hc, ⟨u, hu, hsl⟩, hc2⟩, rfl⟩, h4⟩, hg⟩ := hS
  cases hc2
  subst hu
  obtain ⟨B, cp, hB, hle, hr⟩ := hsl
  subst hB
  rw [List.append_nil] at hc
  subst hc
  exact ⟨b, off, B, cp, e, g, _, ⟨H1, _, rfl, h1, [], H4, rfl, ⟨⟨B, cp, rfl, hle, hr⟩, rfl⟩, h4⟩, hg⟩
/-- a leaf's cells in a row of the call's own -/
theorem leaf_row {t : TypeId} {B : Option Addr} {b cap k : Nat} {l : List LeafM} {x : LeafM} (hB : B = some ⟨b, 0, none⟩) (h : Sat w L) (i : Nat) (hi : L[i]? = some (rowA leafT t B cap l)) (hx : l[k]? = some x) :
    ∃ C cp, w.cell? ⟨b, 0 + k * 3, none⟩ = some (.int .i64 (x.1 : Nat)) ∧ w.cell? ⟨b, 0 + k * 3 + 1, none⟩ = some (.int .i64 (x.2.1 : Nat)) ∧ w.cell? ⟨b, 0 + k * 3 + 2, none⟩ = some (.slice C x.2.2.length cp) ∧ Sat w (slA slotT (.slice C x.2.2.length cp) x.2.2 :: L) := by
  obtain ⟨b', cs, e, hc, hS⟩ := row_el h i hi hx
  rw [hB] at e
  cases e
  obtain ⟨g, H, ⟨H1, H2, rfl, ⟨⟨c1, c2, hcs, ⟨u, hu, hsl⟩, hc2⟩, rfl⟩, h4⟩, hg⟩ := hS
  cases hc2
  subst hu
  obtain ⟨C, cp, hB, hle, hr⟩ := hsl
  subst hB
  rw [List.append_nil] at hcs
  subst hcs
  refine ⟨C, cp, ?_, ?_, ?_, g, _, ⟨[], H2, rfl, ⟨⟨C, cp, rfl, hle, hr⟩, rfl⟩, h4⟩, hg⟩
  · rw [Nat.zero_add]; exact hc 0 _ rfl
  · rw [Nat.zero_add]; exact hc 1 _ rfl
  · rw [Nat.zero_add]; exact hc 2 _ rfl
/-- ..and a page's -/
theorem page_row {t : TypeId} {B : Option Addr} {b cap k : Nat} {l : List Page} {x : Page} (hB : B = some ⟨b, 0, none⟩) (h : Sat w L) (i : Nat) (hi : L[i]? = some (rowA pageT t B cap l)) (hx : l[k]? = some x) :
    ∃ C cp, w.cell? ⟨b, 0 + k * 2, none⟩ = some (.int .i64 x.lsn) ∧ w.cell? ⟨b, 0 + k * 2 + 1, none⟩ = some (.slice C x.slots.length cp) ∧ Sat w (slA slotT (.slice C x.slots.length cp) x.slots :: L) := by
  obtain ⟨b', cs, e, hc, hS⟩ := row_el h i hi hx
  rw [hB] at e
  cases e
  obtain ⟨g, H, ⟨H1, H2, rfl, ⟨⟨c1, c2, hcs, ⟨u, hu, hsl⟩, hc2⟩, rfl⟩, h4⟩, hg⟩ := hS
  cases hc2
  subst hu
  obtain ⟨C, cp, hB, hle, hr⟩ := hsl
  subst hB
  rw [List.append_nil] at hcs
  subst hcs
  refine ⟨C, cp, ?_, ?_, g, _, ⟨[], H2, rfl, ⟨⟨C, cp, rfl, hle, hr⟩, rfl⟩, h4⟩, hg⟩
  · rw [Nat.zero_add]; exact hc 0 _ rfl
  · rw [Nat.zero_add]; exact hc 1 _ rfl
/-- the leaves that a group's pages are -/
def laidStep (lsn : Nat) (d : ByteArray) (out : List LeafM) (p : Int) : List LeafM :=
  if out.length < 3 then (if out.any (fun y => y.1 == uMod p 5) then out else out ++ [(uMod p 5, lsn, [⟨true, d⟩])]) else out
def laidL (lsn : Nat) (d : ByteArray) (pages : List Int) : List LeafM := pages.foldl (laidStep lsn d) []
def byteS (d : Int) : ByteArray := ⟨#[UInt8.ofNat d.toNat]⟩
theorem laid_take {lsn : Nat} {d : ByteArray} {pages : List Int} {k : Nat} {p : Int} (hx : pages[k]? = some p) : laidL lsn d (pages.take (k + 1)) = laidStep lsn d (laidL lsn d (pages.take k)) p := by
  unfold laidL
  rw [List.take_add_one, hx]
  simp
theorem laid_full {lsn : Nat} {d : ByteArray} (pages : List Int) : ∀ (k : Nat), ¬ (laidL lsn d (pages.take k)).length < 3 → laidL lsn d pages = laidL lsn d (pages.take k) := by
  intro k hk
  unfold laidL at hk ⊢
  have hs : ∀ (m : List Int) (o : List LeafM), ¬ o.length < 3 → m.foldl (laidStep lsn d) o = o := by
    intro m
    induction m with
    | nil => intro o _; rfl
    | cons a m ih =>
      intro o ho
      have h1 : laidStep lsn d o a = o := by unfold laidStep; rw [if_neg ho]
      rw [List.foldl_cons, h1]
      exact ih o ho
  calc pages.foldl (laidStep lsn d) [] = (pages.take k ++ pages.drop k).foldl (laidStep lsn d) [] := by rw [List.take_append_drop]
    _ = _ := by rw [List.foldl_append]; exact hs _ _ hk
theorem any_succ {l : List LeafM} {k : Nat} {x : LeafM} {n : Nat} (hx : l[k]? = some x) : (l.take (k + 1)).any (fun y => y.1 == n) = ((l.take k).any (fun y => y.1 == n) || x.1 == n) := by
  rw [List.take_add_one, hx]
  simp
theorem beq_cast (a b : Nat) : (((a : Nat) : Int) == ((b : Nat) : Int)) = (a == b) := by
  rw [Bool.eq_iff_iff]; simp; omega
theorem laid_len3 (lsn : Nat) (d : ByteArray) (pages : List Int) : (laidL lsn d pages).length ≤ 3 := by
  unfold laidL
  have hs : ∀ (m : List Int) (o : List LeafM), o.length ≤ 3 → (m.foldl (laidStep lsn d) o).length ≤ 3 := by
    intro m
    induction m with
    | nil => intro o h; exact h
    | cons a m ih =>
      intro o ho
      rw [List.foldl_cons]
      refine ih _ ?_
      unfold laidStep
      split
      · split
        · exact ho
        · simp; omega
      · exact ho
  exact hs pages [] (by simp)
end
end Sl
end Go.Proofs.YtkmlppeligdbaaaDoor

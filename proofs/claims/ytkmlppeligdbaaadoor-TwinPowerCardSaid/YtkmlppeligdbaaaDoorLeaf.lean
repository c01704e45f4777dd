/- Leaves, and the laying of sectors: what is told of them. Conditions: none. -/
import Derived.Test.YtkmlppeligdbaaaDoorOpen
import Derived.Test.YtkmlppeligdbaaaDoorEng5
namespace Go.Proofs.YtkmlppeligdbaaaDoor
namespace Sl
open Go.RowKit SepW Pl Eg
set_option linter.unusedVariables false
set_option linter.unusedSimpArgs false
set_option linter.unusedSectionVars false
/-- a page's number, lsn and slots -/
abbrev LeafM := Nat × Nat × List Slot
def leafT : Ty LeafM := ⟨3, by decide, fun g x cs => ∃ v, cs = [.int .i64 x.1, .int .i64 x.2.1, v] ∧ SlK slotT g v x.2.2, fun hg ⟨v, e, h⟩ => ⟨v, e, h.mono hg⟩, fun ⟨v, e, h⟩ => by rw [e]; rfl,
  fun ⟨v, e, a, c, e1, _⟩ => by rw [e, e1]; simp [Value.oneCell']⟩
def LeafM.sec (x : LeafM) : ByteArray := ⟨(secL x.1 x.2.1 x.2.2).toArray⟩
section
variable {w : World} {L : List Atom} {pl : PlateM} {st : StoreM} {P : Int → ByteArray → Prop}
theorem leaf_el {v : Option Addr} {n cap k : Nat} {l : List LeafM} {x : LeafM} (h : Sat w L) (i : Nat) (hi : L[i]? = some (slA leafT (.slice v n cap) l)) (hx : l[k]? = some x) :
    ∃ b off B cp, v = some ⟨b, off, none⟩ ∧ Sat w (immC b (off + k * 3) [.int .i64 (x.1 : Nat), .int .i64 (x.2.1 : Nat), .slice B x.2.2.length cp] :: slA slotT (.slice B x.2.2.length cp) x.2.2 :: L) := by
  obtain ⟨b, off, cs, e, hS⟩ := sl_imm h i hi hx
  obtain ⟨g, H, ⟨H1, H2, rfl, h1, H3, H4, rfl, ⟨⟨c1, c2, hc, ⟨u, hu, hsl⟩, hc2⟩, rfl⟩, h4⟩, hg⟩ := hS
  cases hc2
  subst hu
  obtain ⟨B, cp, hB, hle, hr⟩ := hsl
  subst hB
  rw [List.append_nil] at hc
  subst hc
  exact ⟨b, off, B, cp, e, g, _, ⟨H1, _, rfl, h1, [], H4, rfl, ⟨⟨B, cp, rfl, hle, hr⟩, rfl⟩, h4⟩, hg⟩
/-- what lies behind writes -/
def overL (base : Int → ByteArray) (ws : List (Int × ByteArray)) (m : Int) : ByteArray := match ws.reverse.find? (fun x => decide (x.1 = m)) with | some x => x.2 | none => base m
theorem overL_snoc (base : Int → ByteArray) (ws : List (Int × ByteArray)) (x : Int × ByteArray) (m : Int) : overL base (ws ++ [x]) m = if x.1 = m then x.2 else overL base ws m := by
  unfold overL
  rw [List.reverse_append]
  by_cases h : x.1 = m <;> simp [h]
def bump : Nat → Int → Int
  | 0, x => x
  | k + 1, x => wrap64 (bump k x + 1)
structure LayInv (P : Int → ByteArray → Prop) (pl pl' : PlateM) (ws : List (Int × ByteArray)) (k : Nat) : Prop where
  held : Held pl' P
  count : pl'.count = pl.count
  que : pl'.queue.length = k
  down : pl'.down = false
  life : pl'.life = pl.life
  armed : pl.armed ≤ 0 → pl'.armed ≤ 0
  live : ∀ m, pl'.live m = overL pl.live (ws.take k) m
  acts : pl'.acts = bump k pl.acts
structure LayOk (P : Int → ByteArray → Prop) (pl pl' : PlateM) (ws : List (Int × ByteArray)) : Prop where
  held : Held pl' P
  count : pl'.count = pl.count
  que : pl'.queue = []
  down : pl'.down = false
  life : pl'.life = pl.life
  armed : pl.armed ≤ 0 → pl'.armed ≤ 0
  live : ∀ m, pl'.live m = overL pl.live ws m
  acts : pl'.acts = bump (ws.length + 1) pl.acts
structure LayNo (P : Int → ByteArray → Prop) (pl pl' : PlateM) : Prop where
  held : Held pl' P
  count : pl'.count = pl.count
  que : pl'.queue.length ≤ 2000
  down : pl'.down = true
  armed : 0 < pl.armed
  zero : pl'.armed = 0
theorem LayInv.start {ws : List (Int × ByteArray)} (hH : Held pl P) (hd : pl.down = false) (hq : pl.queue = []) : LayInv P pl pl ws 0 := ⟨hH, rfl, by rw [hq]; rfl, hd, rfl, id, fun m => rfl, rfl⟩
theorem LayInv.next {pl1 pl2 : PlateM} {ws : List (Int × ByteArray)} {k : Nat} {n : Int} {s : ByteArray} (h : LayInv P pl pl1 ws k) (hw : ws[k]? = some (n, s))
    (hx : Held pl2 P ∧ pl2.count = pl1.count ∧ pl2.queue.length = pl1.queue.length + 1 ∧ pl2.down = false ∧ pl2.life = pl1.life ∧ (pl1.armed ≤ 0 → pl2.armed ≤ 0) ∧ (∀ m, pl2.live m = if n = m then s else pl1.live m) ∧ pl2.acts = wrap64 (pl1.acts + 1)) : LayInv P pl pl2 ws (k + 1) := by
  obtain ⟨x1, x2, x3, x4, x5, x6, x7, x8⟩ := hx
  refine ⟨x1, x2.trans h.count, by rw [x3, h.que], x4, x5.trans h.life, fun ha => x6 (h.armed ha), fun m => ?_, by rw [x8, h.acts]; rfl⟩
  have hlt := (List.getElem?_eq_some_iff.1 hw).1
  have he : ws.take (k + 1) = ws.take k ++ [(n, s)] := by rw [List.take_add_one, hw]; rfl
  rw [x7, he, overL_snoc, h.live]
theorem LayInv.done {pl1 pl2 : PlateM} {ws : List (Int × ByteArray)} {k m : Nat} (h : LayInv P pl pl1 ws k) (hk : ¬ ((k : Nat) : Int) < ((m : Nat) : Int)) (hm : ws.length = m)
    (hx : Held pl2 P ∧ pl2.count = pl1.count ∧ pl2.queue = [] ∧ pl2.down = false ∧ pl2.life = pl1.life ∧ (pl1.armed ≤ 0 → pl2.armed ≤ 0) ∧ (∀ m, pl2.live m = pl1.live m) ∧ pl2.acts = wrap64 (pl1.acts + 1)) (hk2 : k ≤ m) : LayOk P pl pl2 ws := by
  obtain ⟨x1, x2, x3, x4, x5, x6, x7, x8⟩ := hx
  have hkm : k = ws.length := by omega
  exact ⟨x1, x2.trans h.count, x3, x4, x5.trans h.life, fun ha => x6 (h.armed ha), fun i => by rw [x7, h.live, List.take_of_length_le (by omega)], by rw [x8, h.acts, hkm]; rfl⟩
theorem LayInv.noWrite {pl1 pl2 : PlateM} {ws : List (Int × ByteArray)} {k : Nat} (h : LayInv P pl pl1 ws k) (hk : k ≤ 1000)
    (hx : Held pl2 P ∧ pl2.count = pl1.count ∧ pl2.queue.length = pl1.queue.length + 1 ∧ pl2.down = true ∧ 0 < pl1.armed ∧ pl2.armed = 0) : LayNo P pl pl2 := by
  obtain ⟨x1, x2, x3, x4, x5, x6⟩ := hx
  refine ⟨x1, x2.trans h.count, by rw [x3, h.que]; omega, x4, ?_, x6⟩
  rcases Int.lt_or_le 0 pl.armed with h2 | h2
  · exact h2
  · have := h.armed h2; omega
theorem LayInv.noSync {pl1 pl2 : PlateM} {ws : List (Int × ByteArray)} {k : Nat} (h : LayInv P pl pl1 ws k) (hk : k ≤ 1000)
    (hx : Held pl2 P ∧ pl2.count = pl1.count ∧ pl2.queue = pl1.queue ∧ pl2.down = true ∧ 0 < pl1.armed ∧ pl2.armed = 0) : LayNo P pl pl2 := by
  obtain ⟨x1, x2, x3, x4, x5, x6⟩ := hx
  refine ⟨x1, x2.trans h.count, by rw [x3, h.que]; omega, x4, ?_, x6⟩
  rcases Int.lt_or_le 0 pl.armed with h2 | h2
  · exact h2
  · have := h.armed h2; omega
end
end Sl
end Go.Proofs.YtkmlppeligdbaaaDoor

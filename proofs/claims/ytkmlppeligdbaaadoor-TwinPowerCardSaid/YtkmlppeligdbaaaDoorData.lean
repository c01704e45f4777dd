/- Lists in memory: slices that never change any more, and slices of the call's own that grow and are written. Conditions: none. -/
import Derived.Test.YtkmlppeligdbaaaDoorSep
namespace Go.Proofs.YtkmlppeligdbaaaDoor
namespace SepW
open Go.RowKit
set_option linter.unusedVariables false
set_option linter.unusedSimpArgs false
set_option linter.unusedSectionVars false

/-- the cells of a block -/
theorem cells1 {w : World} {b : Nat} {v0 : Value} {t : TypeId} (h : w.heap[b]? = some (.cells #[v0] t (0, 0))) : w.cell? ⟨b, 0, none⟩ = some v0 ∧ ∀ i, w.frozen? ⟨b, i, none⟩ = false := ⟨cell_blk h, fun _ => frozen_blk h⟩
theorem cells2 {w : World} {b : Nat} {v0 v1 : Value} {t : TypeId} (h : w.heap[b]? = some (.cells #[v0, v1] t (0, 0))) : w.cell? ⟨b, 0, none⟩ = some v0 ∧ w.cell? ⟨b, 1, none⟩ = some v1 ∧ ∀ i, w.frozen? ⟨b, i, none⟩ = false := ⟨cell_blk h, cell_blk h, fun _ => frozen_blk h⟩
theorem cells3 {w : World} {b : Nat} {v0 v1 v2 : Value} {t : TypeId} (h : w.heap[b]? = some (.cells #[v0, v1, v2] t (0, 0))) : w.cell? ⟨b, 0, none⟩ = some v0 ∧ w.cell? ⟨b, 1, none⟩ = some v1 ∧ w.cell? ⟨b, 2, none⟩ = some v2 ∧ ∀ i, w.frozen? ⟨b, i, none⟩ = false := ⟨cell_blk h, cell_blk h, cell_blk h, fun _ => frozen_blk h⟩
theorem cells4 {w : World} {b : Nat} {v0 v1 v2 v3 : Value} {t : TypeId} (h : w.heap[b]? = some (.cells #[v0, v1, v2, v3] t (0, 0))) : w.cell? ⟨b, 0, none⟩ = some v0 ∧ w.cell? ⟨b, 1, none⟩ = some v1 ∧ w.cell? ⟨b, 2, none⟩ = some v2 ∧ w.cell? ⟨b, 3, none⟩ = some v3 ∧ ∀ i, w.frozen? ⟨b, i, none⟩ = false := ⟨cell_blk h, cell_blk h, cell_blk h, cell_blk h, fun _ => frozen_blk h⟩
theorem cells5 {w : World} {b : Nat} {v0 v1 v2 v3 v4 : Value} {t : TypeId} (h : w.heap[b]? = some (.cells #[v0, v1, v2, v3, v4] t (0, 0))) : w.cell? ⟨b, 0, none⟩ = some v0 ∧ w.cell? ⟨b, 1, none⟩ = some v1 ∧ w.cell? ⟨b, 2, none⟩ = some v2 ∧ w.cell? ⟨b, 3, none⟩ = some v3 ∧ w.cell? ⟨b, 4, none⟩ = some v4 ∧ ∀ i, w.frozen? ⟨b, i, none⟩ = false := ⟨cell_blk h, cell_blk h, cell_blk h, cell_blk h, cell_blk h, fun _ => frozen_blk h⟩
theorem cells6 {w : World} {b : Nat} {v0 v1 v2 v3 v4 v5 : Value} {t : TypeId} (h : w.heap[b]? = some (.cells #[v0, v1, v2, v3, v4, v5] t (0, 0))) : w.cell? ⟨b, 0, none⟩ = some v0 ∧ w.cell? ⟨b, 1, none⟩ = some v1 ∧ w.cell? ⟨b, 2, none⟩ = some v2 ∧ w.cell? ⟨b, 3, none⟩ = some v3 ∧ w.cell? ⟨b, 4, none⟩ = some v4 ∧ w.cell? ⟨b, 5, none⟩ = some v5 ∧ ∀ i, w.frozen? ⟨b, i, none⟩ = false := ⟨cell_blk h, cell_blk h, cell_blk h, cell_blk h, cell_blk h, cell_blk h, fun _ => frozen_blk h⟩
theorem cells7 {w : World} {b : Nat} {v0 v1 v2 v3 v4 v5 v6 : Value} {t : TypeId} (h : w.heap[b]? = some (.cells #[v0, v1, v2, v3, v4, v5, v6] t (0, 0))) : w.cell? ⟨b, 0, none⟩ = some v0 ∧ w.cell? ⟨b, 1, none⟩ = some v1 ∧ w.cell? ⟨b, 2, none⟩ = some v2 ∧ w.cell? ⟨b, 3, none⟩ = some v3 ∧ w.cell? ⟨b, 4, none⟩ = some v4 ∧ w.cell? ⟨b, 5, none⟩ = some v5 ∧ w.cell? ⟨b, 6, none⟩ = some v6 ∧ ∀ i, w.frozen? ⟨b, i, none⟩ = false := ⟨cell_blk h, cell_blk h, cell_blk h, cell_blk h, cell_blk h, cell_blk h, cell_blk h, fun _ => frozen_blk h⟩
theorem cells8 {w : World} {b : Nat} {v0 v1 v2 v3 v4 v5 v6 v7 : Value} {t : TypeId} (h : w.heap[b]? = some (.cells #[v0, v1, v2, v3, v4, v5, v6, v7] t (0, 0))) : w.cell? ⟨b, 0, none⟩ = some v0 ∧ w.cell? ⟨b, 1, none⟩ = some v1 ∧ w.cell? ⟨b, 2, none⟩ = some v2 ∧ w.cell? ⟨b, 3, none⟩ = some v3 ∧ w.cell? ⟨b, 4, none⟩ = some v4 ∧ w.cell? ⟨b, 5, none⟩ = some v5 ∧ w.cell? ⟨b, 6, none⟩ = some v6 ∧ w.cell? ⟨b, 7, none⟩ = some v7 ∧ ∀ i, w.frozen? ⟨b, i, none⟩ = false := ⟨cell_blk h, cell_blk h, cell_blk h, cell_blk h, cell_blk h, cell_blk h, cell_blk h, cell_blk h, fun _ => frozen_blk h⟩
theorem cells9 {w : World} {b : Nat} {v0 v1 v2 v3 v4 v5 v6 v7 v8 : Value} {t : TypeId} (h : w.heap[b]? = some (.cells #[v0, v1, v2, v3, v4, v5, v6, v7, v8] t (0, 0))) : w.cell? ⟨b, 0, none⟩ = some v0 ∧ w.cell? ⟨b, 1, none⟩ = some v1 ∧ w.cell? ⟨b, 2, none⟩ = some v2 ∧ w.cell? ⟨b, 3, none⟩ = some v3 ∧ w.cell? ⟨b, 4, none⟩ = some v4 ∧ w.cell? ⟨b, 5, none⟩ = some v5 ∧ w.cell? ⟨b, 6, none⟩ = some v6 ∧ w.cell? ⟨b, 7, none⟩ = some v7 ∧ w.cell? ⟨b, 8, none⟩ = some v8 ∧ ∀ i, w.frozen? ⟨b, i, none⟩ = false := ⟨cell_blk h, cell_blk h, cell_blk h, cell_blk h, cell_blk h, cell_blk h, cell_blk h, cell_blk h, cell_blk h, fun _ => frozen_blk h⟩
theorem cells10 {w : World} {b : Nat} {v0 v1 v2 v3 v4 v5 v6 v7 v8 v9 : Value} {t : TypeId} (h : w.heap[b]? = some (.cells #[v0, v1, v2, v3, v4, v5, v6, v7, v8, v9] t (0, 0))) : w.cell? ⟨b, 0, none⟩ = some v0 ∧ w.cell? ⟨b, 1, none⟩ = some v1 ∧ w.cell? ⟨b, 2, none⟩ = some v2 ∧ w.cell? ⟨b, 3, none⟩ = some v3 ∧ w.cell? ⟨b, 4, none⟩ = some v4 ∧ w.cell? ⟨b, 5, none⟩ = some v5 ∧ w.cell? ⟨b, 6, none⟩ = some v6 ∧ w.cell? ⟨b, 7, none⟩ = some v7 ∧ w.cell? ⟨b, 8, none⟩ = some v8 ∧ w.cell? ⟨b, 9, none⟩ = some v9 ∧ ∀ i, w.frozen? ⟨b, i, none⟩ = false := ⟨cell_blk h, cell_blk h, cell_blk h, cell_blk h, cell_blk h, cell_blk h, cell_blk h, cell_blk h, cell_blk h, cell_blk h, fun _ => frozen_blk h⟩
theorem cells11 {w : World} {b : Nat} {v0 v1 v2 v3 v4 v5 v6 v7 v8 v9 v10 : Value} {t : TypeId} (h : w.heap[b]? = some (.cells #[v0, v1, v2, v3, v4, v5, v6, v7, v8, v9, v10] t (0, 0))) : w.cell? ⟨b, 0, none⟩ = some v0 ∧ w.cell? ⟨b, 1, none⟩ = some v1 ∧ w.cell? ⟨b, 2, none⟩ = some v2 ∧ w.cell? ⟨b, 3, none⟩ = some v3 ∧ w.cell? ⟨b, 4, none⟩ = some v4 ∧ w.cell? ⟨b, 5, none⟩ = some v5 ∧ w.cell? ⟨b, 6, none⟩ = some v6 ∧ w.cell? ⟨b, 7, none⟩ = some v7 ∧ w.cell? ⟨b, 8, none⟩ = some v8 ∧ w.cell? ⟨b, 9, none⟩ = some v9 ∧ w.cell? ⟨b, 10, none⟩ = some v10 ∧ ∀ i, w.frozen? ⟨b, i, none⟩ = false := ⟨cell_blk h, cell_blk h, cell_blk h, cell_blk h, cell_blk h, cell_blk h, cell_blk h, cell_blk h, cell_blk h, cell_blk h, cell_blk h, fun _ => frozen_blk h⟩
theorem cells12 {w : World} {b : Nat} {v0 v1 v2 v3 v4 v5 v6 v7 v8 v9 v10 v11 : Value} {t : TypeId} (h : w.heap[b]? = some (.cells #[v0, v1, v2, v3, v4, v5, v6, v7, v8, v9, v10, v11] t (0, 0))) : w.cell? ⟨b, 0, none⟩ = some v0 ∧ w.cell? ⟨b, 1, none⟩ = some v1 ∧ w.cell? ⟨b, 2, none⟩ = some v2 ∧ w.cell? ⟨b, 3, none⟩ = some v3 ∧ w.cell? ⟨b, 4, none⟩ = some v4 ∧ w.cell? ⟨b, 5, none⟩ = some v5 ∧ w.cell? ⟨b, 6, none⟩ = some v6 ∧ w.cell? ⟨b, 7, none⟩ = some v7 ∧ w.cell? ⟨b, 8, none⟩ = some v8 ∧ w.cell? ⟨b, 9, none⟩ = some v9 ∧ w.cell? ⟨b, 10, none⟩ = some v10 ∧ w.cell? ⟨b, 11, none⟩ = some v11 ∧ ∀ i, w.frozen? ⟨b, i, none⟩ = false := ⟨cell_blk h, cell_blk h, cell_blk h, cell_blk h, cell_blk h, cell_blk h, cell_blk h, cell_blk h, cell_blk h, cell_blk h, cell_blk h, cell_blk h, fun _ => frozen_blk h⟩
theorem cells13 {w : World} {b : Nat} {v0 v1 v2 v3 v4 v5 v6 v7 v8 v9 v10 v11 v12 : Value} {t : TypeId} (h : w.heap[b]? = some (.cells #[v0, v1, v2, v3, v4, v5, v6, v7, v8, v9, v10, v11, v12] t (0, 0))) : w.cell? ⟨b, 0, none⟩ = some v0 ∧ w.cell? ⟨b, 1, none⟩ = some v1 ∧ w.cell? ⟨b, 2, none⟩ = some v2 ∧ w.cell? ⟨b, 3, none⟩ = some v3 ∧ w.cell? ⟨b, 4, none⟩ = some v4 ∧ w.cell? ⟨b, 5, none⟩ = some v5 ∧ w.cell? ⟨b, 6, none⟩ = some v6 ∧ w.cell? ⟨b, 7, none⟩ = some v7 ∧ w.cell? ⟨b, 8, none⟩ = some v8 ∧ w.cell? ⟨b, 9, none⟩ = some v9 ∧ w.cell? ⟨b, 10, none⟩ = some v10 ∧ w.cell? ⟨b, 11, none⟩ = some v11 ∧ w.cell? ⟨b, 12, none⟩ = some v12 ∧ ∀ i, w.frozen? ⟨b, i, none⟩ = false := ⟨cell_blk h, cell_blk h, cell_blk h, cell_blk h, cell_blk h, cell_blk h, cell_blk h, cell_blk h, cell_blk h, cell_blk h, cell_blk h, cell_blk h, cell_blk h, fun _ => frozen_blk h⟩
theorem cells14 {w : World} {b : Nat} {v0 v1 v2 v3 v4 v5 v6 v7 v8 v9 v10 v11 v12 v13 : Value} {t : TypeId} (h : w.heap[b]? = some (.cells #[v0, v1, v2, v3, v4, v5, v6, v7, v8, v9, v10, v11, v12, v13] t (0, 0))) : w.cell? ⟨b, 0, none⟩ = some v0 ∧ w.cell? ⟨b, 1, none⟩ = some v1 ∧ w.cell? ⟨b, 2, none⟩ = some v2 ∧ w.cell? ⟨b, 3, none⟩ = some v3 ∧ w.cell? ⟨b, 4, none⟩ = some v4 ∧ w.cell? ⟨b, 5, none⟩ = some v5 ∧ w.cell? ⟨b, 6, none⟩ = some v6 ∧ w.cell? ⟨b, 7, none⟩ = some v7 ∧ w.cell? ⟨b, 8, none⟩ = some v8 ∧ w.cell? ⟨b, 9, none⟩ = some v9 ∧ w.cell? ⟨b, 10, none⟩ = some v10 ∧ w.cell? ⟨b, 11, none⟩ = some v11 ∧ w.cell? ⟨b, 12, none⟩ = some v12 ∧ w.cell? ⟨b, 13, none⟩ = some v13 ∧ ∀ i, w.frozen? ⟨b, i, none⟩ = false := ⟨cell_blk h, cell_blk h, cell_blk h, cell_blk h, cell_blk h, cell_blk h, cell_blk h, cell_blk h, cell_blk h, cell_blk h, cell_blk h, cell_blk h, cell_blk h, cell_blk h, fun _ => frozen_blk h⟩

/-- how an element is read out of its cells -/
structure Ty (α : Type) where
  sz : Nat
  pos : 0 < sz
  rd : Gh → α → List Value → Prop
  mono : ∀ {g g' : Gh} {x : α} {cs : List Value}, g.Le g' → rd g x cs → rd g' x cs
  len : ∀ {g : Gh} {x : α} {cs : List Value}, rd g x cs → cs.length = sz
  one : ∀ {g : Gh} {x : α} {cs : List Value}, rd g x cs → ∀ u ∈ cs, u.oneCell' = true

/-- the cells of a list of elements -/
def Cells {α : Type} (T : Ty α) (g : Gh) : List α → List Value → Prop
  | [], cs => cs = []
  | x :: l, cs => ∃ c1 c2, cs = c1 ++ c2 ∧ T.rd g x c1 ∧ Cells T g l c2

section
variable {α : Type} {T : Ty α} {g g' : Gh}
theorem Cells.mono (hg : g.Le g') : ∀ {l : List α} {cs : List Value}, Cells T g l cs → Cells T g' l cs
  | [], _, h => h
  | _ :: _, _, ⟨c1, c2, e, h1, h2⟩ => ⟨c1, c2, e, T.mono hg h1, Cells.mono hg h2⟩
theorem Cells.len : ∀ {l : List α} {cs : List Value}, Cells T g l cs → cs.length = l.length * T.sz
  | [], _, h => by cases h; simp
  | _ :: l, _, ⟨c1, c2, e, h1, h2⟩ => by rw [e, List.length_append, T.len h1, Cells.len h2, List.length_cons, Nat.add_mul]; omega
theorem Cells.one : ∀ {l : List α} {cs : List Value}, Cells T g l cs → ∀ u ∈ cs, u.oneCell' = true
  | [], _, h => by cases h; simp
  | _ :: l, _, ⟨c1, c2, e, h1, h2⟩ => by
    intro u hu
    rw [e] at hu
    rcases List.mem_append.1 hu with hu | hu
    · exact T.one h1 u hu
    · exact Cells.one h2 u hu
theorem Cells.append : ∀ {l m : List α} {cs ds : List Value}, Cells T g l cs → Cells T g m ds → Cells T g (l ++ m) (cs ++ ds)
  | [], _, _, _, h, k => by cases h; exact k
  | _ :: _, _, _, _, ⟨c1, c2, e, h1, h2⟩, k => ⟨c1, c2 ++ _, by rw [e, List.append_assoc], h1, Cells.append h2 k⟩
theorem Cells.split : ∀ {l m : List α} {cs : List Value}, Cells T g (l ++ m) cs → ∃ c1 c2, cs = c1 ++ c2 ∧ Cells T g l c1 ∧ Cells T g m c2
  | [], _, cs, h => ⟨[], cs, rfl, rfl, h⟩
  | _ :: _, _, _, ⟨c1, c2, e, h1, h2⟩ => by
    obtain ⟨d1, d2, rfl, k1, k2⟩ := Cells.split h2
    exact ⟨c1 ++ d1, d2, by rw [e, List.append_assoc], ⟨c1, d1, rfl, h1, k1⟩, k2⟩
theorem Cells.single {x : α} {cs : List Value} (h : T.rd g x cs) : Cells T g [x] cs := ⟨cs, [], by simp, h, rfl⟩
theorem Cells.get : ∀ {l : List α} {cs : List Value}, Cells T g l cs → ∀ {i : Nat} {x : α}, l[i]? = some x → ∃ c, T.rd g x c ∧ ∀ j u, c[j]? = some u → cs[i * T.sz + j]? = some u
  | [], _, _, i, x, hx => by simp at hx
  | a :: l, _, ⟨c1, c2, e, h1, h2⟩, 0, x, hx => by
    simp at hx; subst hx
    refine ⟨c1, h1, fun j u hu => ?_⟩
    rw [e, Nat.zero_mul, Nat.zero_add, List.getElem?_append_left (List.getElem?_eq_some_iff.1 hu).1]
    exact hu
  | a :: l, _, ⟨c1, c2, e, h1, h2⟩, i + 1, x, hx => by
    obtain ⟨c, hc, hu⟩ := Cells.get h2 (i := i) (by simpa using hx)
    refine ⟨c, hc, fun j u hj => ?_⟩
    have hl := T.len h1
    rw [e, Nat.add_mul, List.getElem?_append_right (by omega), show i * T.sz + 1 * T.sz + j - c1.length = i * T.sz + j by omega]
    exact hu j u hj
theorem Cells.set : ∀ {l : List α} {cs : List Value}, Cells T g l cs → ∀ {i : Nat} {x : α} {c : List Value}, i < l.length → T.rd g x c → Cells T g (l.set i x) (cs.take (i * T.sz) ++ c ++ cs.drop (i * T.sz + T.sz))
  | [], _, _, i, x, c, hi, _ => by simp at hi
  | a :: l, _, ⟨c1, c2, e, h1, h2⟩, 0, x, c, hi, hc => by
    subst e
    have hl := T.len h1
    refine ⟨c, c2, ?_, hc, h2⟩
    simp [← hl]
  | a :: l, _, ⟨c1, c2, e, h1, h2⟩, i + 1, x, c, hi, hc => by
    subst e
    have hl := T.len h1
    have ih := Cells.set h2 (i := i) (by simpa using hi) hc
    refine ⟨c1, _, ?_, h1, ih⟩
    have e1 : (i + 1) * T.sz = c1.length + i * T.sz := by rw [Nat.add_mul, hl]; omega
    have e2 : c1.length + i * T.sz + T.sz = c1.length + (i * T.sz + T.sz) := by omega
    rw [e1, e2, List.take_length_add_append, List.drop_length_add_append]
    simp [List.append_assoc]
end

/-- a slice that never changes any more reads as a list -/
def SlK {α : Type} (T : Ty α) (g : Gh) (v : Value) (l : List α) : Prop :=
  ∃ a cap, v = .slice a l.length cap ∧ l.length ≤ cap ∧ (l ≠ [] → ∃ b off c t fr cs, a = some ⟨b, off, none⟩ ∧ g.K b = some (.cells c t fr) ∧ Cells T g l cs ∧ (∀ j u, cs[j]? = some u → c[off + j]? = some u))
theorem SlK.mono {α : Type} {T : Ty α} {g g' : Gh} {v : Value} {l : List α} (hg : g.Le g') (h : SlK T g v l) : SlK T g' v l := by
  obtain ⟨a, cap, e, hl, h⟩ := h
  refine ⟨a, cap, e, hl, fun hn => ?_⟩
  obtain ⟨b, off, c, t, fr, cs, e1, e2, e3, e4⟩ := h hn
  exact ⟨b, off, c, t, fr, cs, e1, hg.K _ _ e2, e3.mono hg, e4⟩
theorem SlK.nil {α : Type} (T : Ty α) (g : Gh) (a : Option Addr) (cap : Nat) : SlK T g (.slice a 0 cap) [] := ⟨a, cap, rfl, Nat.zero_le _, fun h => absurd rfl h⟩
/-- ..as a part -/
def slA {α : Type} (T : Ty α) (v : Value) (l : List α) : Atom := per (fun g => SlK T g v l) (fun hg h => h.mono hg)

/-- a slice of the call's own, from its block's head on: its value is '.slice A l.length cap' -/
def rowA {α : Type} (T : Ty α) (t : TypeId) (A : Option Addr) (cap : Nat) (l : List α) : Atom :=
  ⟨fun g H => (A = none ∧ cap = 0 ∧ l = [] ∧ H = []) ∨ ∃ b cur cs, A = some ⟨b, 0, none⟩ ∧ H = [(b, .cells cur t (0, 0))] ∧ l.length ≤ cap ∧ cap ≤ maxLen ∧ cur.size = cap * T.sz ∧ Cells T g l cs ∧ cur.toList.take (l.length * T.sz) = cs,
   fun hg h => h.imp id (fun ⟨b, cur, cs, e, e1, e2, e3, e4, e5, e6⟩ => ⟨b, cur, cs, e, e1, e2, e3, e4, e5.mono hg, e6⟩)⟩

section
variable {α : Type} {T : Ty α} {w : World} {L : List Atom} {A : Option Addr} {cap : Nat} {l : List α} {t : TypeId}
theorem Sat.row_nil (T : Ty α) (t : TypeId) (h : Sat w L) : Sat w (rowA T t none 0 [] :: L) := by
  obtain ⟨g, H, h2, hg⟩ := h
  exact ⟨g, H, ⟨[], H, rfl, .inl ⟨rfl, rfl, rfl, rfl⟩, h2⟩, hg⟩
/-- a row that will not be written any more -/
theorem Sat.row_freeze (h : Sat w (rowA T t A cap l :: L)) : Sat w (slA T (.slice A l.length cap) l :: L) := by
  refine h.freeze_gen fun g H hP g' hg hk => ⟨?_, rfl⟩
  rcases hP with ⟨rfl, rfl, rfl, rfl⟩ | ⟨b, cur, cs, rfl, rfl, hc, hm, hs, hr, ht⟩
  · exact SlK.nil _ _ _ _
  · refine ⟨_, cap, rfl, hc, fun _ => ⟨b, 0, cur, t, (0, 0), cs, rfl, hk _ _ (by simp), hr.mono hg, fun j u hj => ?_⟩⟩
    rw [← ht, List.getElem?_take] at hj
    split at hj
    · simpa using hj
    · cases hj
/-- these cells read as these elements -/
def cellsK {α : Type} (T : Ty α) (l : List α) (cs : List Value) : Atom := per (fun g => Cells T g l cs) (fun hg h => h.mono hg)
theorem Sat.row_out (h : Sat w (rowA T t A cap l :: L)) : (A = none ∧ cap = 0 ∧ l = [] ∧ Sat w L) ∨
    ∃ b cur, A = some ⟨b, 0, none⟩ ∧ l.length ≤ cap ∧ cap ≤ maxLen ∧ cur.size = cap * T.sz ∧ Sat w (raw b (.cells cur t (0, 0)) :: cellsK T l (cur.toList.take (l.length * T.sz)) :: L) := by
  obtain ⟨g, H, ⟨H1, H2, rfl, h1, h2⟩, hg⟩ := h
  rcases h1 with ⟨rfl, rfl, rfl, rfl⟩ | ⟨b, cur, cs, rfl, rfl, hc, hm, hs, hr, rfl⟩
  · exact .inl ⟨rfl, rfl, rfl, g, H2, h2, hg⟩
  · exact .inr ⟨b, cur, rfl, hc, hm, hs, g, _, ⟨_, H2, rfl, rfl, ⟨[], H2, rfl, ⟨hr, rfl⟩, h2⟩⟩, hg⟩
theorem Sat.row_in {b : Nat} {cur : Array Value} (hc : l.length ≤ cap) (hm : cap ≤ maxLen) (hs : cur.size = cap * T.sz)
    (h : Sat w (raw b (.cells cur t (0, 0)) :: cellsK T l (cur.toList.take (l.length * T.sz)) :: L)) : Sat w (rowA T t (some ⟨b, 0, none⟩) cap l :: L) := by
  obtain ⟨g, H, ⟨H1, _, rfl, rfl, H3, H2, rfl, ⟨hr, rfl⟩, h2⟩, hg⟩ := h
  exact ⟨g, _, ⟨_, H2, rfl, .inr ⟨b, cur, _, rfl, rfl, hc, hm, hs, hr, rfl⟩, h2⟩, hg⟩
theorem Sat.cells_append {m : List α} {cs ds : List Value} (h : Sat w (cellsK T l cs :: cellsK T m ds :: L)) : Sat w (cellsK T (l ++ m) (cs ++ ds) :: L) :=
  h.per_two (fun _ h k => h.append k)
theorem Sat.cells_len {cs : List Value} (h : Sat w (cellsK T l cs :: L)) : cs.length = l.length * T.sz := by
  obtain ⟨g, h, _⟩ := h.per_block
  exact h.len
theorem Sat.cells_one {cs : List Value} (h : Sat w (cellsK T l cs :: L)) : ∀ u ∈ cs, u.oneCell' = true := by
  obtain ⟨g, h, _⟩ := h.per_block
  exact h.one
theorem Sat.cells_free {cs : List Value} (hc : ∀ g, Cells T g l cs) (h : Sat w L) : Sat w (cellsK T l cs :: L) := h.per_true hc

/-- append onto a row of the call's own -/
theorem run_append_row {P : Program} {t' ty : TypeId} {i : TypeInfo} {z : Value} (ht : P.underlying t' = some (.slice t)) (hi : P.info? t = some i) (hz : i.zero = some z) (hsz : i.size = T.sz) (hzs : z.cells.size = T.sz)
    {news : List Value} {xs : List α} {a : Addr} {c : Nat} (hnews : ∀ j u, news[j]? = some u → w.cell? (a.add j) = some u)
    (h63 : l.length + xs.length ≤ maxLen) (hb : (l.length + xs.length) * i.bytes ≤ 140737488355328)
    (h : Sat w (rowA T t A cap l :: cellsK T xs news :: L)) :
    ∃ A' cap' w', (Builtin.append_ #[t', t'] ty #[.slice A l.length cap, .slice (some a) xs.length c]).run P w = .ok (.slice A' (l.length + xs.length) cap') w' ∧ Sat w' (rowA T t A' cap' (l ++ xs) :: L) := by
  have h' := h.swap
  have hl : news.length = xs.length * i.size := by rw [hsz]; exact h'.cells_len
  have h1 := h'.cells_one
  have hsmall : l.length + xs.length ≤ 9223372036854775807 := by simp only [maxLen] at h63; omega
  have hfill : ∀ (old : Nat) (olds : List Value), old < l.length + xs.length → Sat w (cellsK T l olds :: cellsK T xs news :: L) →
      Sat (w.drew.alloc (.cells (olds.toArray ++ news.toArray ++ Builtin.zeroCells z.cells (grownCap w (l.length + xs.length) old t - (l.length + xs.length))) t)) (rowA T t (some ⟨w.heap.size, 0, none⟩) (grownCap w (l.length + xs.length) old t) (l ++ xs) :: L) := by
    intro old olds ho hS
    have hol := hS.cells_len
    have hge := grownCap_ge w (l.length + xs.length) old t
    have hcm := grownCap_le_maxLen w (l.length + xs.length) old t h63
    have hS2 := hS.cells_append.drew.alloc (.cells (olds.toArray ++ news.toArray ++ Builtin.zeroCells z.cells (grownCap w (l.length + xs.length) old t - (l.length + xs.length))) t)
    refine Sat.row_in (cur := olds.toArray ++ news.toArray ++ Builtin.zeroCells z.cells (grownCap w (l.length + xs.length) old t - (l.length + xs.length))) (by rw [List.length_append]; exact hge) hcm ?_ ?_
    · simp only [Array.size_append, List.size_toArray, size_zeroCells, hzs, hol, hl, hsz, ← Nat.add_mul]
      congr 1; omega
    · have e : (olds.toArray ++ news.toArray ++ Builtin.zeroCells z.cells (grownCap w (l.length + xs.length) old t - (l.length + xs.length))).toList.take ((l ++ xs).length * T.sz) = olds ++ news := by
        simp only [Array.toList_append]
        rw [List.take_left' (by simp only [List.length_append, hol, hl, hsz, Nat.add_mul])]
      rw [e]
      exact hS2
  rcases h.row_out with ⟨rfl, rfl, rfl, hS⟩ | ⟨b, cur, rfl, hc, hm, hs, hS⟩
  · by_cases hx : xs = []
    · subst hx
      have hn : news = [] := List.eq_nil_of_length_eq_zero (by simpa using hl)
      subst hn
      refine ⟨none, 0, w, ?_, hS.drop.row_nil T t⟩
      simp [Builtin.append_, run_underlying ht, sizeOf, typeInfo, hi, Builtin.lenOf, Builtin.firstCells, loadCells, loadCellsFrom]
    · have hpos : 0 < xs.length := List.length_pos_iff.2 hx
      have hr := run_append_nil (P := P) w t' ty t i z ht hi hz a xs.length c news hl hnews hpos (by simp only [List.length_nil] at hsmall; omega) (by simp only [List.length_nil, Nat.zero_add] at hb; omega)
      have hf := hfill 0 [] (by simp; omega) (hS.per_true (φ := fun g => Cells T g [] []) (hφ := fun hg h => h.mono hg) (fun _ => rfl))
      simp only [List.length_nil, Nat.zero_add, List.nil_append, List.toArray, Array.empty_append] at hf ⊢
      exact ⟨_, _, _, hr, by simpa using hf⟩
  · have hg := hS.raw_block
    by_cases hroom : l.length + xs.length ≤ cap
    · have hfit : l.length * i.size + news.length ≤ cur.size := by rw [hl, hs, hsz, ← Nat.add_mul]; exact Nat.mul_le_mul_right _ hroom
      have hr := run_append_room (P := P) w t' ty t i ht hi b l.length cap cur hg a xs.length c news hl hnews h1 hroom hfit
      refine ⟨_, _, _, hr, ?_⟩
      have hS3 := hS.put (setRow_heap w b cur (cur.toList.take (l.length * i.size) ++ news ++ cur.toList.drop (l.length * i.size + news.length)).toArray t (0, 0) hg) (fun k hk _ => setRow_other w b k _ hk) rfl rfl rfl
      have hS4 := hS3.rot3.cells_append.swap
      have hln : (cur.toList.take (l.length * T.sz) ++ news).length = (l ++ xs).length * T.sz := by
        have hcur : cur.toList.length = cap * T.sz := by simpa using hs
        rw [List.length_append, List.length_append, hl, hsz, List.length_take, hcur, Nat.add_mul, Nat.min_eq_left (Nat.mul_le_mul_right _ hc)]
      refine Sat.row_in (cur := (cur.toList.take (l.length * i.size) ++ news ++ cur.toList.drop (l.length * i.size + news.length)).toArray) (by rw [List.length_append]; exact hroom) hm ?_ ?_
      · simp only [List.size_toArray, List.length_append, List.length_take, List.length_drop, Array.length_toList]
        omega
      · rw [← hln, hsz, List.take_left]
        rw [hsz] at hS4
        exact hS4
    · have hcells : ∀ j u, (cur.toList.take (l.length * T.sz))[j]? = some u → w.cell? ((⟨b, 0, none⟩ : Addr).add j) = some u := by
        intro j u hu
        have hadd : (⟨b, 0, none⟩ : Addr).add j = ⟨b, j, none⟩ := by unfold Addr.add; split <;> simp_all
        rw [hadd, cell_blk hg]
        rw [List.getElem?_take] at hu
        split at hu
        · simpa using hu
        · cases hu
      have hK := hS.drop
      have hol := hK.cells_len
      have hr := run_append_grow (P := P) w t' ty t i z ht hi hz ⟨b, 0, none⟩ l.length cap _ (by rw [hsz]; exact hol) hcells a xs.length c news hl hnews (by omega) (by omega) (growslice_fits (by omega) hb)
      exact ⟨_, _, _, hr, hfill cap _ (by omega) hK⟩
/-- a row's element -/
theorem Sat.row_at (h : Sat w (rowA T t A cap l :: L)) {i : Nat} {x : α} (hx : l[i]? = some x) :
    ∃ b, A = some ⟨b, 0, none⟩ ∧ ∃ g : Gh, (∀ b o, g.K b = some o → w.heap[b]? = some o) ∧ ∃ c, T.rd g x c ∧ (∀ j u, c[j]? = some u → w.cell? ⟨b, i * T.sz + j, none⟩ = some u) := by
  rcases h.row_out with ⟨rfl, rfl, rfl, hS⟩ | ⟨b, cur, rfl, hc, hm, hs, hS⟩
  · simp at hx
  · obtain ⟨g, hg, hk⟩ := hS.drop.per_block
    obtain ⟨c, hc', hu⟩ := hg.get hx
    refine ⟨b, rfl, g, hk, c, hc', fun j u hj => ?_⟩
    have := hu j u hj
    rw [List.getElem?_take] at this
    split at this
    · rw [cell_blk hS.raw_block]; simpa using this
    · cases this
end
/-- an append whose run is known -/
theorem wpList_append_run {P : Program} {w w' : World} {ops : Array Oper} {rest : List Oper} {o : Oper} {a : Act} {Q : Exit → Act → World → Prop} (hgd : o.guard = none) (s x : Operand) (t : TypeId)
    (ho : o.op = .call { callee := .builtin .append, args := #[s, x], argTypes := #[t, t] }) {v xv v' : Value} (hs : a.eval s = v) (hx : a.eval x = xv)
    (hr : Hid ((Builtin.append_ #[t, t] o.type #[v, xv]).run P w = .ok v' w')) (h : wpList P ops Q rest (a.put o.dst v') w') : wpList P ops Q (o :: rest) a w := by
  have hr := hr.out
  refine wpList_plain hgd (fun K hK => ?_)
  unfold Oper.wp execOp
  simp only [ho, resolve, invoke, builtin, Sem.run_bind, Sem.run_pure, Result.andThen_ok, List.map_toArray, List.map_cons, List.map_nil, hs, hx, hr]
  exact hK _ _ h
/-- a store into a map whose run is known -/
theorem wpList_mapUpdate_run {P : Program} {w w' : World} {ops : Array Oper} {rest : List Oper} {o : Oper} {a : Act} {Q : Exit → Act → World → Prop} (hgd : o.guard = none) (m k x : Operand) (t : TypeId)
    (ho : o.op = .mapUpdate t m k x) {mv kv xv : Value} (hm : a.eval m = mv) (hk : a.eval k = kv) (hx : a.eval x = xv)
    (hr : Hid ((Instr.mapUpdate t mv kv xv).run P w = .ok () w')) (h : wpList P ops Q rest (a.put o.dst undef) w') : wpList P ops Q (o :: rest) a w := by
  have hr := hr.out
  refine wpList_plain hgd (fun K hK => ?_)
  unfold Oper.wp execOp
  simp only [ho, Sem.run_bind, Sem.run_pure, Result.andThen_ok, hm, hk, hx, hr]
  exact hK _ _ h
/-- a delete from a map whose run is known -/
theorem wpList_delete_run {P : Program} {w w' : World} {ops : Array Oper} {rest : List Oper} {o : Oper} {a : Act} {Q : Exit → Act → World → Prop} (hgd : o.guard = none) (m k : Operand) (t kt : TypeId)
    (ho : o.op = .call { callee := .builtin .delete, args := #[m, k], argTypes := #[t, kt] }) {mv kv v' : Value} (hm : a.eval m = mv) (hk : a.eval k = kv)
    (hr : Hid ((Builtin.delete_ #[t, kt] o.type #[mv, kv]).run P w = .ok v' w')) (h : wpList P ops Q rest (a.put o.dst v') w') : wpList P ops Q (o :: rest) a w := by
  have hr := hr.out
  refine wpList_plain hgd (fun K hK => ?_)
  unfold Oper.wp execOp
  simp only [ho, resolve, invoke, builtin, Sem.run_bind, Sem.run_pure, Result.andThen_ok, List.map_toArray, List.map_cons, List.map_nil, hm, hk, hr]
  exact hK _ _ h
/-- it returns a value of which something holds -/
def Rt (Q : Value → World → Prop) (e : Ending) (w : World) : Prop := ∃ v, e = .returned v ∧ Q v w
section
variable {α : Type} {T : Ty α} {w : World} {L : List Atom} {v : Value} {l : List α}
theorem Sat.sl_form (h : Sat w (slA T v l :: L)) : ∃ A cap, v = .slice A l.length cap ∧ l.length ≤ cap := by
  obtain ⟨g, ⟨a, cap, e, hl, _⟩, _⟩ := h.per_block
  exact ⟨a, cap, e, hl⟩
/-- an element of a slice that never changes -/
theorem Sat.sl_at {A : Option Addr} {n cap : Nat} (h : Sat w (slA T (.slice A n cap) l :: L)) {i : Nat} {x : α} (hx : l[i]? = some x) :
    ∃ b off, A = some ⟨b, off, none⟩ ∧ ∃ g : Gh, (∀ b o, g.K b = some o → w.heap[b]? = some o) ∧ ∃ c, T.rd g x c ∧ (∀ j u, c[j]? = some u → w.cell? ⟨b, off + i * T.sz + j, none⟩ = some u) := by
  obtain ⟨g, ⟨a, cap', e, hl, hr⟩, hk⟩ := h.per_block
  have hn : l ≠ [] := fun e => by subst e; simp at hx
  obtain ⟨b, off, c, t, fr, cs, e1, e2, e3, e4⟩ := hr hn
  obtain ⟨d, hd, hu⟩ := e3.get hx
  simp only [Value.slice.injEq] at e
  refine ⟨b, off, e.1.trans e1, g, hk, d, hd, fun j u hj => ?_⟩
  rw [cell_blk (hk _ _ e2), Nat.add_assoc]
  exact e4 _ _ (hu j u hj)
end
/-- whole numbers -/
def intT : Ty Int := ⟨1, by decide, fun _ x cs => cs = [.int .i64 x], fun _ h => h, fun h => by cases h; rfl, fun h => by cases h; simp [Value.oneCell']⟩
theorem Sat.below_grow {w w' : World} {L : List Atom} (h : Sat w L) (hb : Below w.heap.size w w') : Sat w' L := h.grow hb.block hb.os hb.tape hb.output
end SepW
end Go.Proofs.YtkmlppeligdbaaaDoor

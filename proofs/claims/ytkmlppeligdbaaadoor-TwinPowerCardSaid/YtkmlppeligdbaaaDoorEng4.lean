/- The engine's fourth part: slices that grow, elements of slices. Conditions: none. -/
import Derived.Test.YtkmlppeligdbaaaDoorEng3
namespace Go.Proofs.YtkmlppeligdbaaaDoor
namespace Eg
open Go.RowKit SepW
set_option linter.unusedVariables false
set_option linter.unusedSimpArgs false
set_option linter.unusedSectionVars false
section
variable {P : Program} {w w' : World} {L L' : List Atom} {A : Atom} {α : Type} {T : Ty α}
theorem Sat_push {φ : Gh → Prop} {hφ : ∀ {g g' : Gh}, g.Le g' → φ g → φ g'} (i : Nat) (h : Sat w L) (hi : L[i]? = some (per φ hφ)) : Sat w (per φ hφ :: L) := by
  have hlt := (List.getElem?_eq_some_iff.1 hi).1
  have h2 := (Sat_at' h i hi).per_dup
  have hp := front_perm L i hlt
  unfold SepW.front at hp
  rw [List.getD_eq_getElem?_getD, hi] at hp
  exact h2.perm ((hp.cons _).symm)
/-- a fact on what never changes, out of the parts -/
theorem Sat_out {φ ψ : Gh → Prop} {hφ : ∀ {g g' : Gh}, g.Le g' → φ g → φ g'} {hψ : ∀ {g g' : Gh}, g.Le g' → ψ g → ψ g'} (i : Nat) (h : Sat w L) (hi : L[i]? = some (per φ hφ)) (hm : ∀ g, φ g → ψ g) : Sat w (per ψ hψ :: L) :=
  (Sat_push i h hi).per_map hm
theorem cells_raw (h : Sat w L) (i : Nat) {b : Nat} {c : Array Value} {t : TypeId} {fr : Nat × Nat} (hi : L[i]? = some (raw b (.cells c t fr))) : ∀ j u, c.toList[j]? = some u → w.cell? ((⟨b, 0, none⟩ : Addr).add j) = some u := by
  intro j u hu
  rw [addr_add, Nat.zero_add, cell_blk (Sat_at' h i hi).raw_block]
  simpa using hu
/-- append onto a row of the call's own, what is appended lies in a block -/
theorem comes_append {t t' ty : TypeId} {B : Option Addr} {cap c n m b : Nat} {l xs : List α} {z : Value} {cs : Array Bool} {news : Array Value} {tn : TypeId} {fr : Nat × Nat}
    (h : Sat w L) (i : Nat) (hi : L[i]? = some (rowA T t B cap l)) (hL : L.eraseIdx i = L') (k : Nat) (hk : L[k]? = some (raw b (.cells news tn fr))) (hK : Sat w L → Sat w (cellsK T xs news.toList :: L))
    (hn : l.length = n) (hm : xs.length = m) (ht : P.underlying t' = some (.slice t)) (hin : (P.info? t).map (fun i => (i.zero, i.size, i.bytes)) = some (some z, T.sz, c)) (hz : Nat.beq z.cells.size T.sz = true)
    (h63 : n + m ≤ maxLen) (hb : (n + m) * c ≤ 140737488355328) {cc : Nat} :
    ∃ B' cap' w', Comes1 P (V.builtin .append #[t', t'] ty cs #[.slice B n cap, .slice (some ⟨b, 0, none⟩) m cc]).sem w (.slice B' (n + m : Nat) cap') w' ∧ Sat w' (rowA T t B' cap' (l ++ xs) :: L') := by
  subst hn hm
  have hS : Sat w (rowA T t B cap l :: cellsK T xs news.toList :: L') := by
    have h2 := Sat_at (hK h) (i + 1) (A := rowA T t B cap l) (by simpa using hi) rfl
    rw [List.eraseIdx_cons_succ, hL] at h2
    exact h2
  obtain ⟨inf, hi0, hz0, hz1, hz2⟩ := info_parts hin
  have hz' : z.cells.size = T.sz := by simpa using hz
  obtain ⟨B', cap', w', hr, hS'⟩ := run_append_row (P := P) (t' := t') (ty := ty) (c := cc) (a := ⟨b, 0, none⟩) (news := news.toList) ht hi0 hz0 hz1 hz' (cells_raw h k hk) h63 (by rw [hz2]; exact hb) hS
  refine ⟨B', cap', w', .value ?_, hS'⟩
  show Sem.run P (do pure (Next.value (← Builtin.append_ #[t', t'] ty #[.slice B l.length cap, .slice (some ⟨b, 0, none⟩) xs.length cc]))) w = _
  rw [Sem.run_bind, hr]
  rfl
/-- nothing is told yet of a row -/
theorem row_nil' (T : Ty α) (t : TypeId) (h : Sat w L) : Sat w (rowA T t none 0 [] :: L) := h.row_nil T t
/-- the run that comes to a value is one that comes to it -/
theorem comes_of {v : V} {u : Value} (h : v.sem.run P w = .ok (.value u) w') : Comes1 P v.sem w u w' := .value h
/-- an element of a slice that never changes: its cells -/
theorem sl_el {v : Option Addr} {n cap k : Nat} {l : List α} {x : α} (h : Sat w L) (i : Nat) (hi : L[i]? = some (slA T (.slice v n cap) l)) (hx : l[k]? = some x) :
    ∃ b off cs, v = some ⟨b, off, none⟩ ∧ (∀ j u, cs[j]? = some u → w.cell? ⟨b, off + k * T.sz + j, none⟩ = some u) ∧ Sat w (cellsK T [x] cs :: L) := by
  have hS := Sat_push (φ := fun g => SlK T g (.slice v n cap) l) (hφ := fun hg h => h.mono hg) i h hi
  obtain ⟨g, H, ⟨H1, H2, rfl, ⟨⟨a, cap', e, hl, hr⟩, rfl⟩, h2⟩, hg⟩ := hS
  have hn : l ≠ [] := fun e => by subst e; simp at hx
  obtain ⟨b, off, c, t, fr, cs, e1, e2, e3, e4⟩ := hr hn
  obtain ⟨d, hd, hu⟩ := e3.get hx
  simp only [Value.slice.injEq] at e
  refine ⟨b, off, d, e.1.trans e1, fun j u hj => ?_, g, _, ⟨[], H2, rfl, ⟨Cells.single hd, rfl⟩, h2⟩, hg⟩
  rw [cell_blk (hg.known _ _ e2), Nat.add_assoc]
  exact e4 _ _ (hu j u hj)
/-- ..and of a row of the call's own -/
theorem row_el {t : TypeId} {v : Option Addr} {cap k : Nat} {l : List α} {x : α} (h : Sat w L) (i : Nat) (hi : L[i]? = some (rowA T t v cap l)) (hx : l[k]? = some x) :
    ∃ b cs, v = some ⟨b, 0, none⟩ ∧ (∀ j u, cs[j]? = some u → w.cell? ⟨b, k * T.sz + j, none⟩ = some u) ∧ Sat w (cellsK T [x] cs :: L) := by
  have hlt := (List.getElem?_eq_some_iff.1 hi).1
  have hS := Sat_at' h i hi
  rcases hS.row_out with ⟨rfl, rfl, rfl, hS2⟩ | ⟨b, cur, rfl, hc, hm, hs, hS2⟩
  · simp at hx
  · have hb := hS2.raw_block
    have hdup := hS2.f1.per_dup
    obtain ⟨g, H, ⟨H1, H2, rfl, ⟨hg0, rfl⟩, h2⟩, hg⟩ := hdup
    obtain ⟨d, hd, hu⟩ := hg0.get hx
    have h3 : Sat w (cellsK T l (cur.toList.take (l.length * T.sz)) :: raw b (.cells cur t (0, 0)) :: L.eraseIdx i) := ⟨g, _, h2, hg⟩
    have h4 : Sat w (cellsK T [x] d :: cellsK T l (cur.toList.take (l.length * T.sz)) :: raw b (.cells cur t (0, 0)) :: L.eraseIdx i) := ⟨g, _, ⟨[], H2, rfl, ⟨Cells.single hd, rfl⟩, h2⟩, hg⟩
    refine ⟨b, d, rfl, fun j u hj => ?_, ?_⟩
    · have h5 := hu j u hj
      rw [List.getElem?_take] at h5
      split at h5
      · rw [cell_blk hb]; simpa using h5
      · cases h5
    · have h6 : Sat w (rowA T t (some ⟨b, 0, none⟩) cap l :: cellsK T [x] d :: L.eraseIdx i) := Sat.row_in hc hm hs (h4.f1.f2)
      have hp := front_perm L i hlt
      unfold SepW.front at hp
      rw [List.getD_eq_getElem?_getD, hi] at hp
      exact (h6.swap).perm ((hp.cons _).symm)
end
end Eg
end Go.Proofs.YtkmlppeligdbaaaDoor

/- The engine's sixth part: blocks that become lists, lists appended to lists. Conditions: none. -/
import Derived.Test.YtkmlppeligdbaaaDoorEng5
namespace Go.Proofs.YtkmlppeligdbaaaDoor
namespace Eg
open Go.RowKit SepW
set_option linter.unusedVariables false
set_option linter.unusedSimpArgs false
set_option linter.unusedSectionVars false
section
variable {P : Program} {w w' : World} {L L' : List Atom} {A : Atom} {α : Type} {T : Ty α}
/-- a block of the call's own is a row -/
theorem raw_row {t : TypeId} {b cap : Nat} {cur : Array Value} {l : List α} (h : Sat w L) (i : Nat) (hi : L[i]? = some (raw b (.cells cur t (0, 0)))) (hL : L.eraseIdx i = L') (hn : l.length ≤ cap) (hm : cap ≤ maxLen) (hs : cur.size = cap * T.sz)
    (hK : Sat w L → Sat w (cellsK T l (cur.toList.take (l.length * T.sz)) :: L)) : Sat w (rowA T t (some ⟨b, 0, none⟩) cap l :: L') := by
  have h2 := Sat_at (hK h) (i + 1) (A := raw b (.cells cur t (0, 0))) (by simpa using hi) rfl
  rw [List.eraseIdx_cons_succ, hL] at h2
  exact Sat.row_in hn hm hs h2
/-- a row will not be written any more -/
theorem row_sl {t : TypeId} {B : Option Addr} {n cap : Nat} {l : List α} (h : Sat w L) (i : Nat) (hi : L[i]? = some (rowA T t B cap l)) (hL : L.eraseIdx i = L') (hn : l.length = n) : Sat w (slA T (.slice B n cap) l :: L') := by
  subst hn
  exact (Sat_at h i hi hL).row_freeze
theorem row_cells {t : TypeId} {B : Option Addr} {cap : Nat} {l : List α} (h : Sat w L) (i : Nat) (hi : L[i]? = some (rowA T t B cap l)) (hne : l ≠ []) :
    ∃ b cs, B = some ⟨b, 0, none⟩ ∧ (∀ j u, cs[j]? = some u → w.cell? ((⟨b, 0, none⟩ : Addr).add j) = some u) ∧ Sat w (cellsK T l cs :: L) := by
  have hlt := (List.getElem?_eq_some_iff.1 hi).1
  have hS := Sat_at' h i hi
  rcases hS.row_out with ⟨rfl, rfl, rfl, hS2⟩ | ⟨b, cur, rfl, hc, hm, hs, hS2⟩
  · exact absurd rfl hne
  · have hb := hS2.raw_block
    have hdup := hS2.f1.per_dup
    refine ⟨b, cur.toList.take (l.length * T.sz), rfl, fun j u hj => ?_, ?_⟩
    · rw [addr_add, Nat.zero_add, cell_blk hb]
      rw [List.getElem?_take] at hj
      split at hj
      · simpa using hj
      · cases hj
    · have h6 : Sat w (rowA T t (some ⟨b, 0, none⟩) cap l :: cellsK T l (cur.toList.take (l.length * T.sz)) :: L.eraseIdx i) := Sat.row_in hc hm hs (hdup.f1.f2)
      have hp := front_perm L i hlt
      unfold SepW.front at hp
      rw [List.getD_eq_getElem?_getD, hi] at hp
      exact (h6.swap).perm ((hp.cons _).symm)
/-- append of one row onto another -/
theorem comes_appendRow {t t' ty : TypeId} {B C : Option Addr} {cap cap2 c n m : Nat} {l xs : List α} {z : Value} {cs : Array Bool} {t2 : TypeId}
    (h : Sat w L) (i : Nat) (hi : L[i]? = some (rowA T t B cap l)) (hL : L.eraseIdx i = L') (k : Nat) (hk : L[k]? = some (rowA T t2 C cap2 xs)) (hne : xs ≠ [])
    (hn : l.length = n) (hm : xs.length = m) (ht : P.underlying t' = some (.slice t)) (hin : (P.info? t).map (fun i => (i.zero, i.size, i.bytes)) = some (some z, T.sz, c)) (hz : Nat.beq z.cells.size T.sz = true)
    (h63 : n + m ≤ maxLen) (hb : (n + m) * c ≤ 140737488355328) {cc : Nat} :
    ∃ B' cap' w', Comes1 P (V.builtin .append #[t', t'] ty cs #[.slice B n cap, .slice C m cc]).sem w (.slice B' (n + m : Nat) cap') w' ∧ Sat w' (rowA T t B' cap' (l ++ xs) :: L') := by
  subst hn hm
  obtain ⟨b, news, rfl, hcell, hK⟩ := row_cells h k hk hne
  have hS : Sat w (rowA T t B cap l :: cellsK T xs news :: L') := by
    have h2 := Sat_at hK (i + 1) (A := rowA T t B cap l) (by simpa using hi) rfl
    rw [List.eraseIdx_cons_succ, hL] at h2
    exact h2
  obtain ⟨inf, hi0, hz0, hz1, hz2⟩ := info_parts hin
  have hz' : z.cells.size = T.sz := by simpa using hz
  obtain ⟨B', cap', w', hr, hS'⟩ := run_append_row (P := P) (t' := t') (ty := ty) (c := cc) (a := ⟨b, 0, none⟩) (news := news) ht hi0 hz0 hz1 hz' hcell h63 (by rw [hz2]; exact hb) hS
  refine ⟨B', cap', w', .value ?_, hS'⟩
  show Sem.run P (do pure (Next.value (← Builtin.append_ #[t', t'] ty #[.slice B l.length cap, .slice (some ⟨b, 0, none⟩) xs.length cc]))) w = _
  rw [Sem.run_bind, hr]
  rfl
end
/-- the remainder of a number taken as unsigned -/
def uMod (x : Int) (m : Nat) : Nat := ((x % 18446744073709551616) % m).toNat
theorem uMod_cast (x : Int) {m : Nat} (h : 0 < m) : ((uMod x m : Nat) : Int) = (x % 18446744073709551616) % m := by
  unfold uMod
  have h1 := Int.emod_nonneg (x % 18446744073709551616) (show (m : Int) ≠ 0 by omega)
  omega
theorem uMod_lt (x : Int) {m : Nat} (h : 0 < m) : uMod x m < m := by
  have h0 := uMod_cast x h
  have h1 := Int.emod_lt_of_pos (x % 18446744073709551616) (show (0 : Int) < (m : Int) by omega)
  omega
theorem uMod_eq (x : Int) {m : Nat} (h : 0 < m) (h2 : m < 1000000) : IntKind.i64.wrap ((IntKind.u64.wrap x).tmod m) = ((uMod x m : Nat) : Int) := by
  have e : IntKind.u64.wrap x = x % 18446744073709551616 := by simp [IntKind.wrap, IntKind.signed, IntKind.bits]
  have h3 := uMod_lt x h
  rw [e, Int.tmod_eq_emod_of_nonneg (by omega), ← uMod_cast x h, wrap_i64 (by omega) (by omega)]
end Eg
end Go.Proofs.YtkmlppeligdbaaaDoor

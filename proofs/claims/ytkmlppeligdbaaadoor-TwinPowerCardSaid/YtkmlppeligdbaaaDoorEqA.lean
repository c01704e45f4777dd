/- When two slots are the same. Conditions: none. -/
import Derived.Test.YtkmlppeligdbaaaDoorLawA
import Derived.Laws.StructEq
namespace Go.Proofs.YtkmlppeligdbaaaDoor
namespace Sl
open Go.RowKit SepW Pl Eg
set_option linter.unusedVariables false
set_option linter.unusedSimpArgs false
set_option linter.unusedSectionVars false
instance : DecidableEq Slot := fun a b => decidable_of_iff (a.used = b.used ∧ a.data = b.data) (by cases a; cases b; simp)
theorem fields68 : Tryd.prog.fieldsOf 69 = #[{ name := "Used", type := 4, offset := 0, embedded := false, tag := "", pkgPath := "", byteOffset := 0 }, { name := "Data", type := 9, offset := 1, embedded := false, tag := "", pkgPath := "", byteOffset := 8 }] := by kernel_rfl
theorem cmp_slot (u u' : Bool) (d d' : ByteArray) (w : World) : (V.cmp .neq 69 #[.bool u, .string d] #[.bool u', .string d']).sem.run Tryd.prog w = .ok (.value (.bool (!decide ((⟨u, d⟩ : Slot) = ⟨u', d'⟩)))) w := by
  have hp : Tryd.prog.stoodInHeld 69 = false := by kernel_rfl
  have hg : Tryd.prog.eqGuardType Tryd.prog.depth 69 = false := by kernel_rfl
  have hu : Tryd.prog.underlying 69 = some (.struct (Tryd.prog.fieldsOf 69)) := by kernel_rfl
  have a4 : (isAgg 4).run Tryd.prog w = .ok false w := by kernel_rfl
  have a9 : (isAgg 9).run Tryd.prog w = .ok false w := by kernel_rfl
  simp only [V.sem, Sem.run_bind, run_eqGuard_agg _ _ _ _ _ _ _ hg, Result.andThen_ok, run_neq_struct, run_equalIn_agg w 9999 69 _ _ hu hp, fields68, Op.eqFields]
  have e4 := run_equalIn_bool' (P := Tryd.prog) w 9998 4 u u' Tryd.underlying4
  have e9 := run_equalIn_string (P := Tryd.prog) w 9998 9 d d' Tryd.underlying9
  simp [part, a4, a9, e4, e9, Op.eqFields]
  by_cases h1 : u = u' <;> by_cases h2 : d = d' <;> simp [h1, h2, bytes_toList]
  all_goals first | exact fun h => h2 (ByteArray.ext h) | skip
end Sl
end Go.Proofs.YtkmlppeligdbaaaDoor

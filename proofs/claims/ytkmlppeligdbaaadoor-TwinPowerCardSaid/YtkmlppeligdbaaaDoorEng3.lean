/- The engine's third part: what operations on memory come to, told of a world's parts. Conditions: none. -/
import Derived.Test.YtkmlppeligdbaaaDoorEng2
import Derived.Test.YtkmlppeligdbaaaDoorMapL
import Derived.Test.YtkmlppeligdbaaaDoorData
namespace Go.Proofs.YtkmlppeligdbaaaDoor
namespace Eg
open Go.RowKit SepW
set_option linter.unusedVariables false
set_option linter.unusedSimpArgs false
set_option linter.unusedSectionVars false
section
variable {P : Program} {w w' : World} {L L' : List Atom} {A : Atom}
theorem Sat_at (h : Sat w L) (i : Nat) (hi : L[i]? = some A) (hL : L.eraseIdx i = L') : Sat w (A :: L') := by
  have hlt := (List.getElem?_eq_some_iff.1 hi).1
  have h2 := h.front i hlt
  unfold SepW.front at h2
  subst hL
  rw [List.getD_eq_getElem?_getD, hi] at h2
  exact h2
theorem Sat_at' (h : Sat w L) (i : Nat) (hi : L[i]? = some A) : Sat w (A :: L.eraseIdx i) := Sat_at h i hi rfl
/-- a cell of a block that is known -/
theorem ob (h : Sat w L) (i : Nat) {b j : Nat} {c : Array Value} {t : TypeId} {fr : Nat × Nat} {v : Value} (hi : L[i]? = some (raw b (.cells c t fr))) (hj : c[j]? = some v) : w.cell? ⟨b, j, none⟩ = some v := by
  rw [cell_blk (Sat_at' h i hi).raw_block, hj]
theorem obI (h : Sat w L) (i : Nat) {b j : Nat} {c : Array Value} {t : TypeId} {fr : Nat × Nat} {v : Value} (hi : L[i]? = some (imm b (.cells c t fr))) (hj : c[j]? = some v) : w.cell? ⟨b, j, none⟩ = some v := by
  rw [cell_blk (Sat_at' h i hi).imm_block, hj]
/-- a new block -/
theorem comes_new {v : V} {u : Nat → Value} {o : Obj} (h : Sat w L) (hr : ∀ w, v.sem.run P w = .ok (.value (u w.heap.size)) (w.alloc o)) : ∃ b w', Comes1 P v.sem w (u b) w' ∧ Sat w' (raw b o :: L) :=
  ⟨_, _, .value (hr w), h.alloc o⟩
def setAt (c : Array Value) : Nat → List Value → Array Value
  | _, [] => c
  | j, v :: vs => setAt (c.setIfInBounds j v) (j + 1) vs
theorem addr_add (b j k : Nat) : (⟨b, j, none⟩ : Addr).add k = ⟨b, j + k, none⟩ := by unfold Addr.add; split <;> simp_all
theorem size_setAt : ∀ (vs : List Value) (c : Array Value) (j : Nat), (setAt c j vs).size = c.size
  | [], _, _ => rfl
  | v :: vs, c, j => by rw [setAt, size_setAt vs]; simp
theorem store_cells {b j : Nat} {t : TypeId} : ∀ (vs : List Value) (k : Nat) (w : World) (c : Array Value), w.heap[b]? = some (.cells c t (0, 0)) → (∀ v ∈ vs, v.oneCell' = true) → j + k + vs.length ≤ c.size →
    ∃ w', (storeCells ⟨b, j, none⟩ vs k).run P w = .ok () w' ∧ w'.heap[b]? = some (.cells (setAt c (j + k) vs) t (0, 0)) ∧ (∀ x, x ≠ b → w'.heap[x]? = w.heap[x]?) ∧ w'.os = w.os ∧ w'.tape = w.tape ∧ w'.output = w.output
  | [], k, w, c, hb, _, _ => ⟨w, rfl, hb, fun _ _ => rfl, rfl, rfl, rfl⟩
  | v :: vs, k, w, c, hb, h1, hs => by
    have hlt : j + k < c.size := by simp at hs; omega
    have hc : w.cell? ⟨b, j + k, none⟩ = some c[j + k] := by rw [cell_blk hb]; exact Array.getElem?_eq_getElem hlt
    have hfz : w.frozen? ⟨b, j + k, none⟩ = false := frozen_blk hb
    have hb' : (w.setCell ⟨b, j + k, none⟩ v).heap[b]? = some (.cells (c.setIfInBounds (j + k) v) t (0, 0)) := by
      simp [World.setCell, Array.getElem?_modify, hb]
    obtain ⟨w', hr, h2, h3, h4, h5, h6⟩ := store_cells (j := j) vs (k + 1) _ _ hb' (fun v hv => h1 v (by simp [hv])) (by simp at hs ⊢; omega)
    refine ⟨w', ?_, (by rw [setAt]; exact h2), fun x hx => by rw [h3 x hx]; exact Below.heap_setCell _ _ _ _ hx, h4, h5, h6⟩
    have hv := h1 v (by simp)
    unfold storeCells
    rw [addr_add, Sem.run_bind]
    have hst : (store ⟨b, j + k, none⟩ v).run P w = .ok () (w.setCell ⟨b, j + k, none⟩ v) := by
      unfold store
      cases v <;> first | (simp [Value.oneCell'] at hv; done) | simp [Sem.run, hc, hfz]
    rw [hst]
    exact hr
def oneAll (vs : List Value) : Bool := vs.all Value.oneCell'
/-- a store into a block of the call's own -/
theorem comes_store {t t' : TypeId} {b j : Nat} {c c' : Array Value} {x : Value} {vs : List Value} (h : Sat w L) (i : Nat) (hi : L[i]? = some (raw b (.cells c t (0, 0)))) (hL : L.eraseIdx i = L')
    (hx : x.cells.toList = vs) (hs : (P.info? t').map (·.size) = some vs.length) (h1 : oneAll vs = true) (hf : Nat.ble (j + vs.length) c.size = true) (hc : setAt c j vs = c') :
    ∃ w', Comes1 P (V.store t' (.pointer (some ⟨b, j, none⟩)) x).sem w undef w' ∧ Sat w' (raw b (.cells c' t (0, 0)) :: L') := by
  have hS := Sat_at h i hi hL
  have hb := hS.raw_block
  have hf2 : j + vs.length ≤ c.size := by have h2 := hf; simp at h2; exact h2
  obtain ⟨w', hr, h2, h3, h4, h5, h6⟩ := store_cells (P := P) (j := j) vs 0 w c hb (fun v hv => List.all_eq_true.1 h1 v hv) (by omega)
  subst hc
  refine ⟨w', .skip ?_ rfl, hS.put (by simpa using h2) (fun k hk _ => h3 k hk) h4 h5 h6⟩
  have hsz : x.cells.size = vs.length := by rw [← hx]; simp
  show Sem.run P (do Instr.storeAt t' (.pointer (some ⟨b, j, none⟩)) x; pure Next.skip) w = _
  rw [Sem.run_bind]
  have : (Instr.storeAt t' (.pointer (some ⟨b, j, none⟩)) x).run P w = .ok () w' := by
    cases hin : P.info? t' with
    | none => rw [hin] at hs; cases hs
    | some inf =>
      rw [hin] at hs
      simp only [Option.map_some, Option.some.injEq] at hs
      simp only [Instr.storeAt, Instr.sureAddr, storeVar, sizeOf, typeInfo, program, Sem.run_bind, Sem.run_pure, Sem.run, hin, hs, hsz, hx, Result.andThen_ok, pure_bind, Sem.run_pure']
      simpa using hr
  rw [this]
  rfl
/-! ### addresses -/
theorem run_indexAddr {t el : TypeId} {sz b off k len cap : Nat} {i : Int} (hT : P.underlying t = some (.slice el)) (hsz : (P.info? el).map (·.size) = some sz) (hi : i = (k : Int)) (hk : k < len) (w : World) :
    (V.indexAddr t (.slice (some ⟨b, off, none⟩) len cap) (.int .i64 i)).sem.run P w = .ok (.value (.pointer (some ⟨b, off + k * sz, none⟩))) w := by
  subst hi
  cases hin : P.info? el with
  | none => rw [hin] at hsz; cases hsz
  | some inf =>
    rw [hin] at hsz
    simp only [Option.map_some, Option.some.injEq] at hsz
    have h0 : (0 : Int) ≤ (k : Int) ∧ (k : Int) < (len : Int) := ⟨by omega, by omega⟩
    simp only [V.sem, Instr.indexAt, asIntOf, underlying, program, sizeOf, typeInfo, Sem.run_bind, Sem.run_pure, Sem.run, hT, hin, hsz, Result.andThen_ok, h0, and_self, if_true, Sem.run_pure', Int.toNat_natCast, addr_add]
def byteAt (s : ByteArray) (k : Nat) : Nat := ((s.data[k]?).getD 0).toNat
theorem run_strIndex {t : TypeId} {s : ByteArray} {k : Nat} {i : Int} {ik : IntKind} (hT : P.underlying t = some .string) (hi : i = (k : Int)) (hk : k < s.size) (w : World) :
    (V.index t (.string s) (.int ik i)).sem.run P w = .ok (.value (.int .u8 (byteAt s k : Nat))) w := by
  subst hi
  have h0 : (0 : Int) ≤ (k : Int) := by omega
  have hs : s[k]? = some s[k] := getElem?_pos s k hk
  have hd : s.data[k]? = some s[k] := by
    rw [Array.getElem?_eq_getElem (by simpa using hk)]; rfl
  have hb : byteAt s k = s[k].toNat := by unfold byteAt; rw [hd]; rfl
  simp only [V.sem, Instr.index, asIntOf, underlying, program, Sem.run_bind, Sem.run_pure, Sem.run, hT, Result.andThen_ok, h0, if_true, Sem.run_pure', Int.toNat_natCast, hs, hb]
def loV : Option Value → Nat → Prop
  | none, l => l = 0
  | some v, l => v = .int .i64 (l : Int)
def hiV (len : Nat) : Option Value → Nat → Prop
  | none, h => h = len
  | some v, h => v = .int .i64 (h : Int)
theorem run_strSlice {t : TypeId} {s : ByteArray} {lo hi : Option Value} {l h : Nat} (hT : P.underlying t = some .string) (hl : loV lo l) (hh : hiV s.size hi h) (h1 : l ≤ h) (h2 : h ≤ s.size) (w : World) :
    (V.slice t (.string s) lo hi none).sem.run P w = .ok (.value (.string (s.extract l h))) w := by
  have e1 : ((0 : Int) ≤ (l : Int) ∧ (l : Int) ≤ (h : Int)) := ⟨by omega, by omega⟩
  have e2 : ((0 : Int) ≤ (h : Int) ∧ (h : Int) ≤ (s.size : Int)) := ⟨by omega, by omega⟩
  cases lo <;> cases hi <;> simp only [loV, hiV] at hl hh <;> (try subst hl) <;> (try subst hh) <;>
    simp [V.sem, Instr.sliceAt, Instr.slice, Instr.sliceBounds, Instr.sliceBound, asIntOf, underlying, program, Sem.run, hT, e1, e2, h1, h2]
theorem run_slSlice {t el : TypeId} {sz len cap l h : Nat} {a : Option Addr} {lo hi : Option Value} (hT : P.underlying t = some (.slice el)) (hsz : (P.info? el).map (·.size) = some sz) (hl : loV lo l) (hh : hiV len hi h) (h1 : l ≤ h) (h2 : h ≤ cap) (h3 : len ≤ cap) (w : World) :
    (V.slice t (.slice a len cap) lo hi none).sem.run P w = .ok (.value (.slice (if cap = l then a else a.map (·.add (l * sz))) (h - l) (cap - l))) w := by
  cases hin : P.info? el with
  | none => rw [hin] at hsz; cases hsz
  | some inf =>
    rw [hin] at hsz
    simp only [Option.map_some, Option.some.injEq] at hsz
    have e1 : ((0 : Int) ≤ (l : Int) ∧ (l : Int) ≤ (h : Int)) := ⟨by omega, by omega⟩
    have e2 : ((0 : Int) ≤ (h : Int) ∧ (h : Int) ≤ (cap : Int)) := ⟨by omega, by omega⟩
    cases lo <;> cases hi <;> simp only [loV, hiV] at hl hh <;> (try subst hl) <;> (try subst hh) <;>
      simp [V.sem, Instr.sliceAt, Instr.slice, Instr.sliceBounds, Instr.sliceBound, asIntOf, underlying, program, sizeOf, typeInfo, Sem.run, hT, hin, hsz, e1, e2, h1, h2]
/-! ### numbers and strings -/
theorem wrap_of {k : IntKind} {x : Int} (h : (if k.signed then -(2 ^ (k.bits - 1) : Int) else 0) ≤ x) (h2 : x < (if k.signed then (2 ^ (k.bits - 1) : Int) else 2 ^ k.bits)) : k.wrap x = x := by
  unfold IntKind.wrap
  cases k <;> simp [IntKind.signed, IntKind.bits] at h h2 ⊢ <;> omega
theorem wrap_i64 {x : Int} (h : -9223372036854775808 ≤ x) (h2 : x ≤ 9223372036854775807) : IntKind.i64.wrap x = x := wrap_of (by simp [IntKind.signed, IntKind.bits]; omega) (by simp [IntKind.signed, IntKind.bits]; omega)
theorem wrap_i64_64 (x : Int) : IntKind.i64.wrap x = wrap64 x := by
  unfold IntKind.wrap wrap64
  simp [IntKind.signed, IntKind.bits]
  split <;> omega
theorem bytes_toList (x : ByteArray) : x.toList = x.data.toList := by
  exact ByteArray.toList_eq x
theorem str_eq (x y : ByteArray) : (x.toList == y.toList) = decide (x = y) := by
  rw [Bool.eq_iff_iff]
  simp only [beq_iff_eq, decide_eq_true_eq]
  constructor
  · intro h; rw [bytes_toList, bytes_toList] at h; exact ByteArray.ext (Array.ext' h)
  · intro h; rw [h]
end
end Eg
end Go.Proofs.YtkmlppeligdbaaaDoor

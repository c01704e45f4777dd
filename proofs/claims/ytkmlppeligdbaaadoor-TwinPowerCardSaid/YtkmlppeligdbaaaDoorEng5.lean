/- The engine's fifth part: cells that never change, maps, elements stored. Conditions: none. -/
import Derived.Test.YtkmlppeligdbaaaDoorEng4
namespace Go.Proofs.YtkmlppeligdbaaaDoor
namespace Eg
open Go.RowKit SepW
set_option linter.unusedVariables false
set_option linter.unusedSimpArgs false
set_option linter.unusedSectionVars false
/-- cells of a block that never changes -/
def immC (b off : Nat) (cs : List Value) : Atom := per (fun g => ∃ c t fr, g.K b = some (.cells c t fr) ∧ ∀ j u, cs[j]? = some u → c[off + j]? = some u)
  (fun hg ⟨c, t, fr, h, h2⟩ => ⟨c, t, fr, hg.K _ _ h, h2⟩)
section
variable {P : Program} {w w' : World} {L L' : List Atom} {A : Atom} {α : Type} {T : Ty α}
theorem obC (h : Sat w L) (i : Nat) {b off j : Nat} {cs : List Value} {v : Value} (hi : L[i]? = some (immC b off cs)) (hj : cs[j]? = some v) : w.cell? ⟨b, off + j, none⟩ = some v := by
  obtain ⟨g, ⟨c, t, fr, hk, hu⟩, hg⟩ := Sat.per_block (hφ := fun hg ⟨c, t, fr, h, h2⟩ => ⟨c, t, fr, hg.K _ _ h, h2⟩) (Sat_at' h i hi)
  rw [cell_blk (hg _ _ hk)]
  exact hu j v hj
theorem sl_imm {v : Option Addr} {n cap k : Nat} {l : List α} {x : α} (h : Sat w L) (i : Nat) (hi : L[i]? = some (slA T (.slice v n cap) l)) (hx : l[k]? = some x) :
    ∃ b off cs, v = some ⟨b, off, none⟩ ∧ Sat w (immC b (off + k * T.sz) cs :: cellsK T [x] cs :: L) := by
  have hS := Sat_push (φ := fun g => SlK T g (.slice v n cap) l) (hφ := fun hg h => h.mono hg) i h hi
  obtain ⟨g, H, ⟨H1, H2, rfl, ⟨⟨a, cap', e, hl, hr⟩, rfl⟩, h2⟩, hg⟩ := hS
  have hn : l ≠ [] := fun e => by subst e; simp at hx
  obtain ⟨b, off, c, t, fr, cs, e1, e2, e3, e4⟩ := hr hn
  obtain ⟨d, hd, hu⟩ := e3.get hx
  simp only [Value.slice.injEq] at e
  refine ⟨b, off, d, e.1.trans e1, g, _, ⟨[], _, rfl, ⟨⟨c, t, fr, e2, fun j u hj => ?_⟩, rfl⟩, [], H2, rfl, ⟨Cells.single hd, rfl⟩, h2⟩, hg⟩
  rw [Nat.add_assoc]
  exact e4 _ _ (hu j u hj)
theorem run_indexAddrA {t el : TypeId} {sz b off k len cap : Nat} {i : Int} {B : Option Addr} (hB : B = some ⟨b, off, none⟩) (hT : P.underlying t = some (.slice el)) (hsz : (P.info? el).map (·.size) = some sz) (hi : i = (k : Int)) (hk : k < len) (w : World) :
    (V.indexAddr t (.slice B len cap) (.int .i64 i)).sem.run P w = .ok (.value (.pointer (some ⟨b, off + k * sz, none⟩))) w := by
  subst hB; exact run_indexAddr hT hsz hi hk w
/-! ### maps -/
theorem comes_map (h : Sat w L) {κ β : Type} [DecidableEq κ] (E : KeyEnc κ) (ev : β → Value) {v : V} {u : Nat → Value} (hr : ∀ w, v.sem.run P w = .ok (.value (u w.heap.size)) (w.alloc (.map #[] 0))) :
    ∃ b w', Comes1 P v.sem w (u b) w' ∧ Sat w' (mapA E ev b ([] : List (κ × β)) :: L) :=
  ⟨_, _, .value (hr w), Sat.mapA_in (E := E) (ev := ev) (l := []) ⟨rfl, Go.MapKept.stamped_empty 0⟩ (h.alloc (.map #[] 0))⟩
section
variable {κ β : Type} [DecidableEq κ] {E : KeyEnc κ} {ev : β → Value} {l : List (κ × β)} {T Kt Et : TypeId} {m : Nat}
theorem comes_lookup (h : Sat w L) (i : Nat) (hi : L[i]? = some (mapA E ev m l)) (hT : P.underlying T = some (.map Kt Et)) (hK : P.underlying Kt = some E.d) {z : Value} (hz : ∀ w, (zeroValue Et).run P w = .ok z w) (k : κ) :
    Comes1 P (V.lookup T (.map (some m)) (E.enc k) false).sem w (((aget l k).map ev).getD z) w := by
  refine .value ?_
  have hr := Sat.lookup hT hK (hz w) (Sat_at' h i hi) k false
  show Sem.run P (do pure (Next.value (← Instr.lookup T (.map (some m)) (E.enc k) false))) w = _
  rw [Sem.run_bind, hr]
  rfl
theorem comes_lookup2 (h : Sat w L) (i : Nat) (hi : L[i]? = some (mapA E ev m l)) (hT : P.underlying T = some (.map Kt Et)) (hK : P.underlying Kt = some E.d) {z : Value} (hz : ∀ w, (zeroValue Et).run P w = .ok z w) (k : κ) :
    Comes1 P (V.lookup T (.map (some m)) (E.enc k) true).sem w (.tuple #[((aget l k).map ev).getD z, .bool (aget l k).isSome]) w := by
  refine .value ?_
  have hr := Sat.lookup hT hK (hz w) (Sat_at' h i hi) k true
  show Sem.run P (do pure (Next.value (← Instr.lookup T (.map (some m)) (E.enc k) true))) w = _
  rw [Sem.run_bind, hr]
  rfl
theorem comes_update (h : Sat w L) (i : Nat) (hi : L[i]? = some (mapA E ev m l)) (hL : L.eraseIdx i = L') (hT : P.underlying T = some (.map Kt Et)) (hK : P.underlying Kt = some E.d) (k : κ) (v : β) :
    ∃ w', Comes1 P (V.mapUpdate T (.map (some m)) (E.enc k) (ev v)).sem w undef w' ∧ Sat w' (mapA E ev m (aset l k v) :: L') := by
  obtain ⟨w', hr, hS⟩ := Sat.update hT hK (Sat_at h i hi hL) k v
  refine ⟨w', .skip ?_ rfl, hS⟩
  show Sem.run P (do Instr.mapUpdate T (.map (some m)) (E.enc k) (ev v); pure Next.skip) w = _
  rw [Sem.run_bind, hr]
  rfl
theorem comes_delete (h : Sat w L) (i : Nat) (hi : L[i]? = some (mapA E ev m l)) (hL : L.eraseIdx i = L') (hT : P.underlying T = some (.map Kt Et)) (hK : P.underlying Kt = some E.d) (k : κ) (ty : TypeId) (cs : Array Bool) :
    ∃ w', Comes1 P (V.builtin .delete #[T, Kt] ty cs #[.map (some m), E.enc k]).sem w (.tuple #[]) w' ∧ Sat w' (mapA E ev m (adel l k) :: L') := by
  obtain ⟨w', hr, hS⟩ := Sat.delete hT hK (Sat_at h i hi hL) k ty
  refine ⟨w', .value ?_, hS⟩
  show Sem.run P (do pure (Next.value (← Builtin.delete_ #[T, Kt] ty #[.map (some m), E.enc k]))) w = _
  rw [Sem.run_bind, hr]
  rfl
theorem comes_maplen (h : Sat w L) (i : Nat) (hi : L[i]? = some (mapA E ev m l)) (hT : P.underlying T = some (.map Kt Et)) (ty : TypeId) (cs : Array Bool) :
    Comes1 P (V.builtin .len #[T] ty cs #[.map (some m)]).sem w (.int .i64 (l.length : Nat)) w := by
  obtain ⟨es, clock, hrep, hM⟩ := (Sat_at' h i hi).mapA_out
  refine .value ?_
  show Sem.run P (do pure (Next.value (← Builtin.len_ #[T] ty #[.map (some m)]))) w = _
  rw [Sem.run_bind, run_len_rep hT hM.raw_block hrep]
  rfl
end
/-! ### a store into an element of a row -/
theorem Cells.set' {g : Gh} : ∀ {l : List α} {cs : List Value}, Cells T g l cs → ∀ {i : Nat} {x : α} {c : List Value}, i < l.length → T.rd g x c → Cells T g (l.set i x) (cs.take (i * T.sz) ++ c ++ cs.drop (i * T.sz + T.sz)) := by
  intro l cs h i x c hi hc
  exact Cells.set h hi hc
theorem setAt_list : ∀ (vs : List Value) (c : Array Value) (j : Nat), j + vs.length ≤ c.size → (setAt c j vs).toList = c.toList.take j ++ vs ++ c.toList.drop (j + vs.length)
  | [], c, j, h => by simp [setAt]
  | v :: vs, c, j, h => by
    simp only [List.length_cons] at h
    rw [setAt, setAt_list vs _ _ (by simp; omega)]
    have hlt : j < c.toList.length := by simp; omega
    rw [Array.toList_setIfInBounds]
    have e1 : (c.toList.set j v).take (j + 1) = c.toList.take j ++ [v] := by
      rw [List.take_add_one, List.getElem?_set_self hlt, List.take_set_of_le (Nat.le_refl j)]
      rfl
    have e2 : (c.toList.set j v).drop (j + 1 + vs.length) = c.toList.drop (j + (vs.length + 1)) := by
      rw [List.drop_set_of_lt (by omega)]
      congr 1
      omega
    rw [e1, e2, List.length_cons]
    simp
/-- a store of a whole element into a row of the call's own -/
theorem comes_rowSet {t t' : TypeId} {b cap k o : Nat} {l : List α} {x : α} {v : Value} {vs : List Value} (h : Sat w L) (i : Nat) (hi : L[i]? = some (rowA T t (some ⟨b, 0, none⟩) cap l)) (hL : L.eraseIdx i = L') (hx : v.cells.toList = vs)
    (hs : (P.info? t').map (·.size) = some vs.length) (hk : k < l.length) (ho : o = k * T.sz) (hK : Sat w L → Sat w (cellsK T [x] vs :: L)) :
    ∃ w', Comes1 P (V.store t' (.pointer (some ⟨b, o, none⟩)) v).sem w undef w' ∧ Sat w' (rowA T t (some ⟨b, 0, none⟩) cap (l.set k x) :: L') := by
  subst ho
  have hS : Sat w (rowA T t (some ⟨b, 0, none⟩) cap l :: cellsK T [x] vs :: L') := by
    have h2 := Sat_at (hK h) (i + 1) (A := rowA T t (some ⟨b, 0, none⟩) cap l) (by simpa using hi) rfl
    rw [List.eraseIdx_cons_succ, hL] at h2
    exact h2
  rcases hS.row_out with ⟨he, _⟩ | ⟨b', cur, he, hc, hm, hsz, hS2⟩
  · cases he
  · cases he
    have hb := hS2.raw_block
    have hvl : vs.length = T.sz := by have := hS2.rot3'.cells_len; simpa using this
    have h1 : ∀ u ∈ vs, u.oneCell' = true := hS2.rot3'.cells_one
    have hfit : k * T.sz + vs.length ≤ cur.size := by
      rw [hvl, hsz]
      have : (k + 1) * T.sz ≤ cap * T.sz := Nat.mul_le_mul_right _ (by omega)
      rw [Nat.add_mul] at this
      omega
    obtain ⟨w', hr, h2, h3, h4, h5, h6⟩ := store_cells (P := P) (j := k * T.sz) vs 0 w cur hb h1 (by omega)
    have hput := hS2.put (w' := w') (o' := .cells (setAt cur (k * T.sz) vs) t (0, 0)) (by simpa using h2) (fun x hx _ => h3 x hx) h4 h5 h6
    have hcells : Sat w' (cellsK T (l.set k x) ((setAt cur (k * T.sz) vs).toList.take ((l.set k x).length * T.sz)) :: raw b (.cells (setAt cur (k * T.sz) vs) t (0, 0)) :: L') := by
      have hh := hput.rot3
      -- cellsK l :: cellsK [x] :: raw :: L'
      refine Sat.per_two (fun g hl hx => ?_) hh
      have hset := Cells.set' hl hk (show T.rd g x vs from by
        obtain ⟨c1, c2, e, r1, r2⟩ := hx
        cases r2
        rw [e, List.append_nil]; exact r1)
      have he : (setAt cur (k * T.sz) vs).toList.take ((l.set k x).length * T.sz) = (cur.toList.take (l.length * T.sz)).take (k * T.sz) ++ vs ++ (cur.toList.take (l.length * T.sz)).drop (k * T.sz + T.sz) := by
        have hkl : (k + 1) * T.sz ≤ l.length * T.sz := Nat.mul_le_mul_right _ hk
        rw [Nat.add_mul, Nat.one_mul] at hkl
        rw [setAt_list vs cur _ hfit, List.length_set, List.take_take, Nat.min_eq_left (by omega), hvl]
        rw [List.drop_take]
        have hcl : (cur.toList.take (k * T.sz)).length = k * T.sz := by
          rw [List.length_take, Array.length_toList]
          omega
        rw [List.take_append, List.length_append, hcl, hvl]
        rw [List.take_of_length_le (by rw [List.length_append, hcl, hvl]; omega)]
      rw [he]
      exact hset
    refine ⟨w', .skip ?_ rfl, Sat.row_in (by rw [List.length_set]; exact hc) hm (by rw [size_setAt]; exact hsz) hcells.swap⟩
    show Sem.run P (do Instr.storeAt t' (.pointer (some ⟨b, k * T.sz, none⟩)) v; pure Next.skip) w = _
    rw [Sem.run_bind]
    have hcs : v.cells.size = vs.length := by rw [← hx]; simp
    have : (Instr.storeAt t' (.pointer (some ⟨b, k * T.sz, none⟩)) v).run P w = .ok () w' := by
      cases hin : P.info? t' with
      | none => rw [hin] at hs; cases hs
      | some inf =>
        rw [hin] at hs
        simp only [Option.map_some, Option.some.injEq] at hs
        simp only [Instr.storeAt, Instr.sureAddr, storeVar, sizeOf, typeInfo, program, Sem.run_bind, Sem.run_pure, Sem.run, hin, hs, hcs, hx, Result.andThen_ok, pure_bind, Sem.run_pure']
        simpa using hr
    rw [this]
    rfl
theorem comes_rowSetA {t t' : TypeId} {b cap k o : Nat} {B : Option Addr} {l : List α} {x : α} {v : Value} {vs : List Value} (hB : B = some ⟨b, 0, none⟩) (h : Sat w L) (i : Nat) (hi : L[i]? = some (rowA T t B cap l)) (hL : L.eraseIdx i = L') (hx : v.cells.toList = vs)
    (hs : (P.info? t').map (·.size) = some vs.length) (hk : k < l.length) (ho : o = k * T.sz) (hK : Sat w L → Sat w (cellsK T [x] vs :: L)) :
    ∃ w', Comes1 P (V.store t' (.pointer (some ⟨b, o, none⟩)) v).sem w undef w' ∧ Sat w' (rowA T t B cap (l.set k x) :: L') := by
  subst hB
  exact comes_rowSet h i hi hL hx hs hk ho hK
theorem row_addr {t : TypeId} {B : Option Addr} {cap k : Nat} {l : List α} (h : Sat w L) (i : Nat) (hi : L[i]? = some (rowA T t B cap l)) (hk : k < l.length) : ∃ b, B = some ⟨b, 0, none⟩ := by
  rcases (Sat_at' h i hi).row_out with ⟨rfl, rfl, rfl, _⟩ | ⟨b, cur, rfl, _⟩
  · simp at hk
  · exact ⟨b, rfl⟩
section
variable {κ β : Type} [DecidableEq κ] {E : KeyEnc κ} {ev : β → Value} {l : List (κ × β)} {Tm Kt Et : TypeId} {m : Nat}
theorem comes_look (h : Sat w L) (i : Nat) (hi : L[i]? = some (mapA E ev m l)) (hT : P.underlying Tm = some (.map Kt Et)) (hK : P.underlying Kt = some E.d) {z0 : β} (hz : ∀ w, (zeroValue Et).run P w = .ok (ev z0) w) (k : κ) :
    Comes1 P (V.lookup Tm (.map (some m)) (E.enc k) false).sem w (ev ((aget l k).getD z0)) w := by
  have h2 := comes_lookup h i hi hT hK hz k
  have e : ((aget l k).map ev).getD (ev z0) = ev ((aget l k).getD z0) := by cases aget l k <;> rfl
  rw [e] at h2; exact h2
theorem comes_look2 (h : Sat w L) (i : Nat) (hi : L[i]? = some (mapA E ev m l)) (hT : P.underlying Tm = some (.map Kt Et)) (hK : P.underlying Kt = some E.d) {z0 : β} (hz : ∀ w, (zeroValue Et).run P w = .ok (ev z0) w) (k : κ) :
    Comes1 P (V.lookup Tm (.map (some m)) (E.enc k) true).sem w (.tuple #[ev ((aget l k).getD z0), .bool (aget l k).isSome]) w := by
  have h2 := comes_lookup2 h i hi hT hK hz k
  have e : ((aget l k).map ev).getD (ev z0) = ev ((aget l k).getD z0) := by cases aget l k <;> rfl
  rw [e] at h2; exact h2
end
end
end Eg
end Go.Proofs.YtkmlppeligdbaaaDoor

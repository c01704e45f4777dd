/- Go's maps as lists of pairs: what a lookup, a store, a delete and len do to a block that holds a map. Conditions: none. -/
import Derived.Test.YtkmlppeligdbaaaDoorSep
import Derived.MapKept
namespace Go.Proofs.YtkmlppeligdbaaaDoor
namespace SepW
open Go.RowKit Go.MapKept
set_option linter.unusedVariables false
set_option linter.unusedSimpArgs false
set_option linter.unusedSectionVars false

/-- how a key's kind is written -/
structure KeyEnc (α : Type) where
  d : TypeDesc
  enc : α → Value
  inj : ∀ a b, enc a = enc b → a = b
  key : ∀ a, IsKey d (enc a)

section
variable {α β : Type} [DecidableEq α]
def aget (l : List (α × β)) (k : α) : Option β := (l.find? (fun p => decide (p.1 = k))).map (·.2)
def aset : List (α × β) → α → β → List (α × β)
  | [], k, v => [(k, v)]
  | p :: l, k, v => if p.1 = k then (k, v) :: l else p :: aset l k v
def adel : List (α × β) → α → List (α × β)
  | [], _ => []
  | p :: l, k => if p.1 = k then l else p :: adel l k
theorem map_eraseIdx' {γ δ : Type} (f : γ → δ) : ∀ (l : List γ) (j : Nat), (l.eraseIdx j).map f = (l.map f).eraseIdx j
  | [], _ => rfl
  | _ :: _, 0 => rfl
  | a :: l, j + 1 => by simp [List.eraseIdx_cons_succ, map_eraseIdx' f l j]
@[simp] theorem aget_nil (k : α) : aget ([] : List (α × β)) k = none := rfl
theorem aget_cons (p : α × β) (l : List (α × β)) (k : α) : aget (p :: l) k = if p.1 = k then some p.2 else aget l k := by
  unfold aget; by_cases h : p.1 = k <;> simp [List.find?_cons, h]
theorem aget_aset (l : List (α × β)) (k : α) (v : β) (k' : α) : aget (aset l k v) k' = if k = k' then some v else aget l k' := by
  induction l with
  | nil => simp only [aset, aget_cons, aget_nil]
  | cons p l ih =>
    unfold aset
    by_cases h : p.1 = k
    · simp only [h, if_true, aget_cons]; by_cases h' : k = k' <;> simp [h']
    · simp only [h, if_false, aget_cons, ih]
      by_cases h' : k = k'
      · subst h'; simp [h]
      · simp [h']

structure MapRep (E : KeyEnc α) (ev : β → Value) (es : Array MapEntry) (clock : Nat) (l : List (α × β)) : Prop where
  eq : es.toList.map (fun e => (e.key, e.val)) = l.map (fun p => (E.enc p.1, ev p.2))
  st : Stamped es clock
end

section
variable {α β : Type} [DecidableEq α] {E : KeyEnc α} {ev : β → Value} {es : Array MapEntry} {clock : Nat} {l : List (α × β)}
theorem MapRep.keys (h : MapRep E ev es clock l) : ∀ x ∈ es.toList, IsKey E.d x.key := by
  intro x hx
  have : (x.key, x.val) ∈ l.map (fun p => (E.enc p.1, ev p.2)) := h.eq ▸ List.mem_map.2 ⟨x, hx, rfl⟩
  obtain ⟨p, _, e⟩ := List.mem_map.1 this
  have e1 : E.enc p.1 = x.key := congrArg Prod.fst e
  rw [← e1]; exact E.key p.1
theorem find_list (E : KeyEnc α) (ev : β → Value) (k : α) : ∀ (es : List MapEntry) (l : List (α × β)) (i : Nat), es.map (fun e => (e.key, e.val)) = l.map (fun p => (E.enc p.1, ev p.2)) →
    (aget l k = none ∧ Instr.findNow E.d (E.enc k) es i = some none ∧ adel l k = l ∧ ∀ x ∈ es, x.key ≠ E.enc k) ∨
    ∃ j v, aget l k = some v ∧ Instr.findNow E.d (E.enc k) es i = some (some (i + j, ev v)) ∧ adel l k = l.eraseIdx j ∧ (∃ e, es[j]? = some e ∧ e.key = E.enc k) ∧ (∀ u, aset l k u = l.modify j (fun _ => (k, u)))
  | [], [], i, _ => .inl ⟨rfl, rfl, rfl, by simp⟩
  | [], p :: l, i, h => by simp at h
  | e :: es, [], i, h => by simp at h
  | e :: es, p :: l, i, h => by
    simp only [List.map_cons, List.cons.injEq, Prod.mk.injEq] at h
    obtain ⟨⟨hk, hv⟩, ht⟩ := h
    obtain ⟨r, hr, hiff⟩ := sameNow_of_keys (E.key k) (show IsKey E.d e.key by rw [hk]; exact E.key p.1)
    by_cases hp : p.1 = k
    · have hrt : r = true := hiff.2 (by rw [hk, hp])
      subst hrt
      exact .inr ⟨0, p.2, by simp [aget_cons, hp], by simp [Instr.findNow, hr, hv], by simp [adel, hp], ⟨e, rfl, by rw [hk, hp]⟩, fun u => by simp [aset, hp]⟩
    · have hrf : r = false := by
        cases r with
        | false => rfl
        | true => exact absurd (E.inj _ _ (hk.symm.trans (hiff.1 rfl).symm)) hp
      subst hrf
      rcases find_list E ev k es l (i + 1) ht with ⟨h1, h2, h3, h4⟩ | ⟨j, v, h1, h2, h3, ⟨e', h4, h5⟩, h6⟩
      · refine .inl ⟨by simp [aget_cons, hp, h1], by simp [Instr.findNow, hr, h2], by simp [adel, hp, h3], ?_⟩
        intro x hx
        rcases List.mem_cons.1 hx with rfl | hx
        · intro q; exact hp (E.inj _ _ (hk.symm.trans q))
        · exact h4 x hx
      · exact .inr ⟨j + 1, v, by simp [aget_cons, hp, h1], by simp [Instr.findNow, hr, h2]; omega, by simp [adel, hp, h3], ⟨e', by simpa using h4, h5⟩, fun u => by simp [aset, hp, h6 u]⟩

variable {P : Program} {w : World} {T Kt Et : TypeId} {m : Nat}
theorem run_lookup_rep (hT : P.underlying T = some (.map Kt Et)) (hK : P.underlying Kt = some E.d) {z : Value} (hz : (zeroValue Et).run P w = .ok z w) (hb : w.heap[m]? = some (.map es clock)) (h : MapRep E ev es clock l) (k : α) (c : Bool) :
    (Instr.lookup T (.map (some m)) (E.enc k) c).run P w = .ok (if c then .tuple #[((aget l k).map ev).getD z, .bool (aget l k).isSome] else ((aget l k).map ev).getD z) w := by
  have hc := run_checkKey (P := P) (w := w) hK (E.key k) es.isEmpty 9999
  rcases find_list E ev k es.toList l 0 h.eq with ⟨h1, h2, _, _⟩ | ⟨j, v, h1, h2, _, _, _⟩
  · have hf := run_findKey (P := P) (w := w) hK h2
    cases c <;> simp [Instr.lookup, run_underlying hT, MapKept.run_getObj_map hb, hc, hf, h1, hz, Result.andThen]
  · have hf := run_findKey (P := P) (w := w) hK h2
    cases c <;> simp [Instr.lookup, run_underlying hT, MapKept.run_getObj_map hb, hc, hf, h1, Result.andThen]

theorem run_update_rep (hT : P.underlying T = some (.map Kt Et)) (hK : P.underlying Kt = some E.d) (hb : w.heap[m]? = some (.map es clock)) (h : MapRep E ev es clock l) (k : α) (v : β) :
    ∃ es' clock', (Instr.mapUpdate T (.map (some m)) (E.enc k) (ev v)).run P w = .ok () { w with heap := w.heap.setIfInBounds m (.map es' clock') } ∧ MapRep E ev es' clock' (aset l k v) := by
  have hc := run_checkKey (P := P) (w := w) hK (E.key k) false 9999
  rcases find_list E ev k es.toList l 0 h.eq with ⟨h1, h2, _, h4⟩ | ⟨j, u, h1, h2, _, ⟨e, h4, h5⟩, h6⟩
  · have hf := run_findKey (P := P) (w := w) hK h2
    refine ⟨es.push { key := E.enc k, val := ev v, born := clock }, clock + 1, ?_, ?_, stamped_push h.st h4⟩
    · simp [Instr.mapUpdate, run_underlying hT, MapKept.run_getObj_map hb, hc, hf, MapKept.run_setObj_map _ hb, Result.andThen]
    · have e1 : ∀ l : List (α × β), aget l k = none → aset l k v = l ++ [(k, v)] := by
        intro l
        induction l with
        | nil => intro _; rfl
        | cons p l ih =>
          intro hn
          rw [aget_cons] at hn
          by_cases hp : p.1 = k
          · simp [hp] at hn
          · simp [hp] at hn; simp [aset, hp, ih hn]
      rw [e1 l h1]
      simp [h.eq]
  · have hf := run_findKey (P := P) (w := w) hK h2
    have hj : es[j]? = some e := by simpa using h4
    refine ⟨es.modify j fun x => { x with key := E.enc k, val := ev v }, clock, ?_, ?_, stamped_modify h.st _ _ (fun _ _ => rfl) (fun e' _ he' => by rw [hj] at he'; cases he'; exact h5.symm)⟩
    · simp [Instr.mapUpdate, run_underlying hT, MapKept.run_getObj_map hb, hc, hf, hj, h5, run_keyThatStays (E.key k), MapKept.run_setObj_map _ hb, Result.andThen]
    · rw [h6 v]
      have := congrArg (fun q => List.modify q j (fun _ => (E.enc k, ev v))) h.eq
      apply List.ext_getElem?
      intro i
      have hi := congrArg (fun q : List (Value × Value) => q[i]?) h.eq
      simp only [List.getElem?_map, Array.getElem?_toList] at hi
      simp only [List.getElem?_map, Array.getElem?_toList, Array.getElem?_modify, List.getElem?_modify]
      by_cases hij : j = i
      · subst hij
        rw [hj] at hi ⊢
        cases hl : l[j]? with
        | none => rw [hl] at hi; simp at hi
        | some p => simp
      · simp [hij, hi]

theorem run_delete_rep (hT : P.underlying T = some (.map Kt Et)) (hK : P.underlying Kt = some E.d) (hb : w.heap[m]? = some (.map es clock)) (h : MapRep E ev es clock l) (k : α) (ty : TypeId) :
    ∃ es', (Builtin.delete_ #[T, Kt] ty #[.map (some m), E.enc k]).run P w = .ok (.tuple #[]) { w with heap := w.heap.setIfInBounds m (.map es' clock) } ∧ MapRep E ev es' clock (adel l k) := by
  have hc := run_checkKey (P := P) (w := w) hK (E.key k) es.isEmpty 9999
  rcases find_list E ev k es.toList l 0 h.eq with ⟨h1, h2, h3, h4⟩ | ⟨j, u, h1, h2, h3, ⟨e, h4, h5⟩, h6⟩
  · have hf := run_findKey (P := P) (w := w) hK h2
    refine ⟨es, ?_, by rw [h3]; exact h.eq, h.st⟩
    simp [Builtin.delete_, run_underlying hT, MapKept.run_getObj_map hb, hc, hf, MapKept.run_setObj_map _ hb, Result.andThen]
  · have hf := run_findKey (P := P) (w := w) hK h2
    refine ⟨es.eraseIdxIfInBounds j, ?_, ?_, stamped_erase h.st _⟩
    · simp [Builtin.delete_, run_underlying hT, MapKept.run_getObj_map hb, hc, hf, MapKept.run_setObj_map _ hb, Result.andThen]
    · rw [h3]
      have hjl : j < es.size := by
        have := (List.getElem?_eq_some_iff.1 h4).1; simpa using this
      unfold Array.eraseIdxIfInBounds
      rw [dif_pos hjl, Array.toList_eraseIdx, map_eraseIdx', map_eraseIdx', h.eq]

theorem run_len_rep (hT : P.underlying T = some (.map Kt Et)) (hb : w.heap[m]? = some (.map es clock)) (h : MapRep E ev es clock l) (ty : TypeId) :
    (Builtin.len_ #[T] ty #[.map (some m)]).run P w = .ok (.int .i64 l.length) w := by
  have : es.size = l.length := by have := congrArg List.length h.eq; simpa using this
  simp [Builtin.len_, run_underlying hT, MapKept.run_getObj_map hb, Result.andThen, goInt, this]

/-- a map as a part of the world -/
def mapA (E : KeyEnc α) (ev : β → Value) (m : Nat) (l : List (α × β)) : Atom := ex fun x : Array MapEntry × Nat => all [pure' (MapRep E ev x.1 x.2 l), raw m (.map x.1 x.2)]
theorem Sat.mapA_out {L : List Atom} (h : Sat w (mapA E ev m l :: L)) : ∃ es clock, MapRep E ev es clock l ∧ Sat w (raw m (.map es clock) :: L) := by
  obtain ⟨⟨es, clock⟩, h⟩ := h.ex_out
  have := h.all_out
  exact ⟨es, clock, this.pure_out.1, this.pure_out.2⟩
theorem Sat.mapA_in {L : List Atom} (hr : MapRep E ev es clock l) (h : Sat w (raw m (.map es clock) :: L)) : Sat w (mapA E ev m l :: L) :=
  Sat.ex_in (es, clock) (Sat.all_in (Sat.pure_in hr h))
theorem Sat.mapA_put {L : List Atom} {es' : Array MapEntry} {clock' : Nat} {l' : List (α × β)} (h : Sat w (raw m (.map es clock) :: L)) (hr : MapRep E ev es' clock' l') :
    Sat { w with heap := w.heap.setIfInBounds m (.map es' clock') } (mapA E ev m l' :: L) := by
  refine Sat.mapA_in hr (h.put ?_ ?_ rfl rfl rfl)
  · exact (heap_set h.raw_block).1
  · exact fun k hk _ => (heap_set h.raw_block).2 k hk
end
section
variable {α β : Type} [DecidableEq α] {E : KeyEnc α} {ev : β → Value} {l : List (α × β)} {P : Program} {w : World} {T Kt Et : TypeId} {m : Nat} {L : List Atom}
theorem Sat.update (hT : P.underlying T = some (.map Kt Et)) (hK : P.underlying Kt = some E.d) (h : Sat w (mapA E ev m l :: L)) (k : α) (v : β) :
    ∃ w', (Instr.mapUpdate T (.map (some m)) (E.enc k) (ev v)).run P w = .ok () w' ∧ Sat w' (mapA E ev m (aset l k v) :: L) := by
  obtain ⟨es, clock, hrep, hM⟩ := h.mapA_out
  obtain ⟨es', clock', hrun, hrep'⟩ := run_update_rep hT hK hM.raw_block hrep k v
  exact ⟨_, hrun, Sat.mapA_put hM hrep'⟩
theorem Sat.delete (hT : P.underlying T = some (.map Kt Et)) (hK : P.underlying Kt = some E.d) (h : Sat w (mapA E ev m l :: L)) (k : α) (ty : TypeId) :
    ∃ w', (Builtin.delete_ #[T, Kt] ty #[.map (some m), E.enc k]).run P w = .ok (.tuple #[]) w' ∧ Sat w' (mapA E ev m (adel l k) :: L) := by
  obtain ⟨es, clock, hrep, hM⟩ := h.mapA_out
  obtain ⟨es', hrun, hrep'⟩ := run_delete_rep hT hK hM.raw_block hrep k ty
  exact ⟨_, hrun, Sat.mapA_put hM hrep'⟩
theorem Sat.lookup (hT : P.underlying T = some (.map Kt Et)) (hK : P.underlying Kt = some E.d) {z : Value} (hz : (zeroValue Et).run P w = .ok z w) (h : Sat w (mapA E ev m l :: L)) (k : α) (c : Bool) :
    (Instr.lookup T (.map (some m)) (E.enc k) c).run P w = .ok (if c then .tuple #[((aget l k).map ev).getD z, .bool (aget l k).isSome] else ((aget l k).map ev).getD z) w := by
  obtain ⟨es, clock, hrep, hM⟩ := h.mapA_out
  exact run_lookup_rep hT hK hz hM.raw_block hrep k c
end
/-- whole numbers as keys -/
def intKey : KeyEnc Int := ⟨.int .i64, fun n => .int .i64 n, fun a b h => by cases h; rfl, fun _ => by simp [IsKey]⟩
end SepW
end Go.Proofs.YtkmlppeligdbaaaDoor

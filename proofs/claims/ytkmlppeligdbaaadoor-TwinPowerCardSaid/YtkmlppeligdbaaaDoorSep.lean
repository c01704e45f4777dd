/- What a world holds, told as a list of parts that lie apart: blocks of the call's own that may change, and blocks that never change any more. Conditions: none. -/
import Derived.WalkKit
namespace Go.Proofs.YtkmlppeligdbaaaDoor
namespace SepW
open Go.RowKit

/-- Blocks and what they hold. -/
abbrev Heaplet := List (Nat × Obj)

/-- What is known for good: blocks that never change, and the streams. -/
structure Gh where
  K : Nat → Option Obj
  os : Os
  tape : Nat → Question → Nat
  output : Array (Nat × ByteArray)

structure Gh.Le (g g' : Gh) : Prop where
  K : ∀ b o, g.K b = some o → g'.K b = some o
  os : g'.os = g.os
  tape : g'.tape = g.tape
  output : g'.output = g.output
theorem Gh.Le.refl (g : Gh) : g.Le g := ⟨fun _ _ h => h, rfl, rfl, rfl⟩
theorem Gh.Le.trans {a b c : Gh} (h : a.Le b) (k : b.Le c) : a.Le c := ⟨fun x o hx => k.K x o (h.K x o hx), k.os.trans h.os, k.tape.trans h.tape, k.output.trans h.output⟩

structure Atom where
  P : Gh → Heaplet → Prop
  mono : ∀ {g g' : Gh} {H : Heaplet}, g.Le g' → P g H → P g' H

def emp : Atom := ⟨fun _ H => H = [], fun _ h => h⟩
def star (A B : Atom) : Atom := ⟨fun g H => ∃ H1 H2, H = H1 ++ H2 ∧ A.P g H1 ∧ B.P g H2, fun hg ⟨H1, H2, e, a, b⟩ => ⟨H1, H2, e, A.mono hg a, B.mono hg b⟩⟩
def all : List Atom → Atom
  | [] => emp
  | A :: L => star A (all L)
def ex {ι : Type} (f : ι → Atom) : Atom := ⟨fun g H => ∃ i, (f i).P g H, fun hg ⟨i, h⟩ => ⟨i, (f i).mono hg h⟩⟩
/-- a fact -/
def pure' (p : Prop) : Atom := ⟨fun _ H => p ∧ H = [], fun _ h => h⟩
/-- a fact on what never changes -/
def per (φ : Gh → Prop) (hφ : ∀ {g g' : Gh}, g.Le g' → φ g → φ g') : Atom := ⟨fun g H => φ g ∧ H = [], fun hg h => ⟨hφ hg h.1, h.2⟩⟩
/-- a block of the call's own -/
def raw (b : Nat) (o : Obj) : Atom := ⟨fun _ H => H = [(b, o)], fun _ h => h⟩
/-- a block that never changes -/
def imm (b : Nat) (o : Obj) : Atom := per (fun g => g.K b = some o) (fun hg h => hg.K _ _ h)

structure Good (w : World) (g : Gh) (H : Heaplet) : Prop where
  nodup : (H.map (·.1)).Nodup
  own : ∀ b o, (b, o) ∈ H → w.heap[b]? = some o
  apart : ∀ b o, (b, o) ∈ H → g.K b = none
  known : ∀ b o, g.K b = some o → w.heap[b]? = some o
  os : w.os = g.os
  tape : w.tape = g.tape
  output : w.output = g.output

def Sat (w : World) (L : List Atom) : Prop := ∃ g H, (all L).P g H ∧ Good w g H

section
variable {w : World} {L L' : List Atom} {A B : Atom}

theorem Good.perm {g : Gh} {H H' : Heaplet} (h : Good w g H) (hp : H.Perm H') : Good w g H' :=
  ⟨(hp.map (·.1)).nodup_iff.1 h.nodup, fun b o hm => h.own b o (hp.mem_iff.2 hm), fun b o hm => h.apart b o (hp.mem_iff.2 hm), h.known, h.os, h.tape, h.output⟩

theorem all_perm {g : Gh} (hp : L.Perm L') : ∀ {H : Heaplet}, (all L).P g H → ∃ H', H.Perm H' ∧ (all L').P g H' := by
  induction hp with
  | nil => exact fun h => ⟨_, List.Perm.refl _, h⟩
  | cons A _ ih =>
    rintro H ⟨H1, H2, rfl, h1, h2⟩
    obtain ⟨H', hp', h'⟩ := ih h2
    exact ⟨H1 ++ H', hp'.append_left H1, H1, H', rfl, h1, h'⟩
  | swap A B l =>
    rintro H ⟨H1, H2, rfl, h1, H3, H4, rfl, h3, h4⟩
    refine ⟨H3 ++ (H1 ++ H4), ?_, H3, H1 ++ H4, rfl, h3, H1, H4, rfl, h1, h4⟩
    rw [← List.append_assoc, ← List.append_assoc]
    exact List.perm_append_comm.append_right H4
  | trans _ _ ih1 ih2 =>
    intro H h
    obtain ⟨H', p1, h1⟩ := ih1 h
    obtain ⟨H'', p2, h2⟩ := ih2 h1
    exact ⟨H'', p1.trans p2, h2⟩

theorem Sat.perm (h : Sat w L) (hp : L.Perm L') : Sat w L' := by
  obtain ⟨g, H, ha, hg⟩ := h
  obtain ⟨H', p, h'⟩ := all_perm hp ha
  exact ⟨g, H', h', hg.perm p⟩

/-- the part at place i, first -/
def front (L : List Atom) (i : Nat) : List Atom := L.getD i emp :: L.eraseIdx i
theorem front_perm : ∀ (L : List Atom) (i : Nat), i < L.length → L.Perm (front L i)
  | A :: L, 0, _ => List.Perm.refl _
  | A :: L, i + 1, h => by
    have ih := front_perm L i (by simpa using h)
    have h1 : (A :: L).Perm (A :: L.getD i emp :: L.eraseIdx i) := ih.cons A
    refine h1.trans ?_
    exact List.Perm.swap _ _ _
theorem Sat.front (h : Sat w L) (i : Nat) (hi : i < L.length := by decide) : Sat w (SepW.front L i) := h.perm (front_perm L i hi)
/-- the parts at these places, first (the last named stands first) -/
def picks (L : List Atom) : List Nat → List Atom
  | [] => L
  | i :: is => front (picks L is) i

/-! the part at place i, first -/
theorem Sat.f1 {A B : Atom} (h : Sat w (A :: B :: L)) : Sat w (B :: A :: L) := h.perm (front_perm (A :: B :: L) 1 (by simp))
theorem Sat.f2 {A B C : Atom} (h : Sat w (A :: B :: C :: L)) : Sat w (C :: A :: B :: L) := h.perm (front_perm (A :: B :: C :: L) 2 (by simp))
theorem Sat.f3 {A B C D : Atom} (h : Sat w (A :: B :: C :: D :: L)) : Sat w (D :: A :: B :: C :: L) := h.perm (front_perm (A :: B :: C :: D :: L) 3 (by simp))
theorem Sat.f4 {A B C D E : Atom} (h : Sat w (A :: B :: C :: D :: E :: L)) : Sat w (E :: A :: B :: C :: D :: L) := h.perm (front_perm (A :: B :: C :: D :: E :: L) 4 (by simp))
theorem Sat.f5 {A B C D E F : Atom} (h : Sat w (A :: B :: C :: D :: E :: F :: L)) : Sat w (F :: A :: B :: C :: D :: E :: L) := h.perm (front_perm (A :: B :: C :: D :: E :: F :: L) 5 (by simp))
theorem Sat.f6 {A B C D E F G : Atom} (h : Sat w (A :: B :: C :: D :: E :: F :: G :: L)) : Sat w (G :: A :: B :: C :: D :: E :: F :: L) := h.perm (front_perm (A :: B :: C :: D :: E :: F :: G :: L) 6 (by simp))
theorem Sat.f7 {A B C D E F G H : Atom} (h : Sat w (A :: B :: C :: D :: E :: F :: G :: H :: L)) : Sat w (H :: A :: B :: C :: D :: E :: F :: G :: L) := h.perm (front_perm (A :: B :: C :: D :: E :: F :: G :: H :: L) 7 (by simp))
theorem Sat.swap (h : Sat w (A :: B :: L)) : Sat w (B :: A :: L) := h.perm (List.Perm.swap _ _ _)

theorem Sat.rot3 {C : Atom} (h : Sat w (A :: B :: C :: L)) : Sat w (B :: C :: A :: L) :=
  h.perm ((List.Perm.swap _ _ _).trans ((List.Perm.swap _ _ _).cons _))
theorem Sat.rot3' {C : Atom} (h : Sat w (A :: B :: C :: L)) : Sat w (C :: A :: B :: L) := h.rot3.rot3

theorem Sat.drop (h : Sat w (A :: L)) : Sat w L := by
  obtain ⟨g, H, ⟨H1, H2, rfl, _, h2⟩, hg⟩ := h
  refine ⟨g, H2, h2, ?_⟩
  have hn := hg.nodup
  rw [List.map_append] at hn
  exact ⟨(List.nodup_append.1 hn).2.1, fun b o hm => hg.own b o (List.mem_append_right _ hm), fun b o hm => hg.apart b o (List.mem_append_right _ hm), hg.known, hg.os, hg.tape, hg.output⟩

theorem Sat.ex_out {ι : Type} {f : ι → Atom} (h : Sat w (ex f :: L)) : ∃ i, Sat w (f i :: L) := by
  obtain ⟨g, H, ⟨H1, H2, rfl, ⟨i, h1⟩, h2⟩, hg⟩ := h
  exact ⟨i, g, _, ⟨H1, H2, rfl, h1, h2⟩, hg⟩
theorem Sat.ex_in {ι : Type} {f : ι → Atom} (i : ι) (h : Sat w (f i :: L)) : Sat w (ex f :: L) := by
  obtain ⟨g, H, ⟨H1, H2, rfl, h1, h2⟩, hg⟩ := h
  exact ⟨g, _, ⟨H1, H2, rfl, ⟨i, h1⟩, h2⟩, hg⟩
theorem Sat.pure_out {p : Prop} (h : Sat w (pure' p :: L)) : p ∧ Sat w L := by
  refine ⟨?_, h.drop⟩
  obtain ⟨g, H, ⟨H1, H2, rfl, ⟨hp, _⟩, h2⟩, hg⟩ := h
  exact hp
theorem Sat.pure_in {p : Prop} (hp : p) (h : Sat w L) : Sat w (pure' p :: L) := by
  obtain ⟨g, H, h2, hg⟩ := h
  exact ⟨g, H, ⟨[], H, rfl, ⟨hp, rfl⟩, h2⟩, hg⟩
theorem all_append {g : Gh} : ∀ {M L : List Atom} {H : Heaplet}, (all (M ++ L)).P g H ↔ (star (all M) (all L)).P g H
  | [], L, H => ⟨fun h => ⟨[], H, rfl, rfl, h⟩, fun ⟨_, _, e, e1, h⟩ => by cases e1; simpa [e] using h⟩
  | A :: M, L, H => by
    constructor
    · rintro ⟨H1, H2, rfl, h1, h2⟩
      obtain ⟨H3, H4, rfl, h3, h4⟩ := all_append.1 h2
      exact ⟨H1 ++ H3, H4, by simp, ⟨H1, H3, rfl, h1, h3⟩, h4⟩
    · rintro ⟨_, H4, rfl, ⟨H1, H3, rfl, h1, h3⟩, h4⟩
      exact ⟨H1, H3 ++ H4, by simp, h1, all_append.2 ⟨H3, H4, rfl, h3, h4⟩⟩
theorem Sat.all_out {M : List Atom} (h : Sat w (all M :: L)) : Sat w (M ++ L) := by
  obtain ⟨g, H, h, hg⟩ := h
  exact ⟨g, H, all_append.2 h, hg⟩
theorem Sat.all_in {M : List Atom} (h : Sat w (M ++ L)) : Sat w (all M :: L) := by
  obtain ⟨g, H, h, hg⟩ := h
  exact ⟨g, H, all_append.1 h, hg⟩

/-- what never changes may be told twice -/
theorem Sat.per_dup {φ : Gh → Prop} {hφ : ∀ {g g' : Gh}, g.Le g' → φ g → φ g'} (h : Sat w (per φ hφ :: L)) : Sat w (per φ hφ :: per φ hφ :: L) := by
  obtain ⟨g, H, ⟨H1, H2, rfl, ⟨hp, rfl⟩, h2⟩, hg⟩ := h
  exact ⟨g, _, ⟨[], H2, rfl, ⟨hp, rfl⟩, ⟨[], H2, rfl, ⟨hp, rfl⟩, h2⟩⟩, hg⟩
/-- one fact out of another -/
theorem Sat.per_map {φ ψ : Gh → Prop} {hφ : ∀ {g g' : Gh}, g.Le g' → φ g → φ g'} {hψ : ∀ {g g' : Gh}, g.Le g' → ψ g → ψ g'} (hi : ∀ g, φ g → ψ g) (h : Sat w (per φ hφ :: L)) : Sat w (per ψ hψ :: L) := by
  obtain ⟨g, H, ⟨H1, H2, rfl, ⟨hp, e⟩, h2⟩, hg⟩ := h
  exact ⟨g, _, ⟨H1, H2, rfl, ⟨hi g hp, e⟩, h2⟩, hg⟩
theorem Sat.per_two {φ ψ χ : Gh → Prop} {hφ : ∀ {g g' : Gh}, g.Le g' → φ g → φ g'} {hψ : ∀ {g g' : Gh}, g.Le g' → ψ g → ψ g'} {hχ : ∀ {g g' : Gh}, g.Le g' → χ g → χ g'} (hi : ∀ g, φ g → ψ g → χ g)
    (h : Sat w (per φ hφ :: per ψ hψ :: L)) : Sat w (per χ hχ :: L) := by
  obtain ⟨g, H, ⟨H1, _, rfl, ⟨hp, rfl⟩, H3, H2, rfl, ⟨hq, rfl⟩, h2⟩, hg⟩ := h
  exact ⟨g, _, ⟨[], H2, rfl, ⟨hi g hp hq, rfl⟩, h2⟩, hg⟩
theorem Sat.per_true {φ : Gh → Prop} {hφ : ∀ {g g' : Gh}, g.Le g' → φ g → φ g'} (hp : ∀ g, φ g) (h : Sat w L) : Sat w (per φ hφ :: L) := by
  obtain ⟨g, H, h2, hg⟩ := h
  exact ⟨g, H, ⟨[], H, rfl, ⟨hp g, rfl⟩, h2⟩, hg⟩

/-- a known block lies in the world -/
theorem Sat.raw_block {b : Nat} {o : Obj} (h : Sat w (raw b o :: L)) : w.heap[b]? = some o := by
  obtain ⟨g, H, ⟨H1, H2, rfl, rfl, h2⟩, hg⟩ := h
  exact hg.own b o (by simp)
theorem Sat.imm_block {b : Nat} {o : Obj} (h : Sat w (imm b o :: L)) : w.heap[b]? = some o := by
  obtain ⟨g, H, ⟨H1, H2, rfl, ⟨hp, _⟩, h2⟩, hg⟩ := h
  exact hg.known b o hp
theorem Sat.per_block {φ : Gh → Prop} {hφ : ∀ {g g' : Gh}, g.Le g' → φ g → φ g'} (h : Sat w (per φ hφ :: L)) : ∃ g : Gh, φ g ∧ (∀ b o, g.K b = some o → w.heap[b]? = some o) := by
  obtain ⟨g, H, ⟨H1, H2, rfl, ⟨hp, _⟩, h2⟩, hg⟩ := h
  exact ⟨g, hp, hg.known⟩

theorem Sat.raw_ne {b c : Nat} {o u : Obj} (h : Sat w (raw b o :: raw c u :: L)) : b ≠ c := by
  obtain ⟨g, H, ⟨H1, _, rfl, rfl, H3, H2, rfl, rfl, h2⟩, hg⟩ := h
  have := hg.nodup
  simp only [List.cons_append, List.nil_append, List.map_cons, List.nodup_cons, List.mem_cons, not_or] at this
  exact this.1.1

/-- a new world that differs at one block of the call's own -/
theorem Sat.put {w' : World} {b : Nat} {o o' : Obj} (h : Sat w (raw b o :: L)) (hb : w'.heap[b]? = some o') (ho : ∀ k, k ≠ b → k < w.heap.size → w'.heap[k]? = w.heap[k]?)
    (hos : w'.os = w.os) (htape : w'.tape = w.tape) (hout : w'.output = w.output) : Sat w' (raw b o' :: L) := by
  obtain ⟨g, H, ⟨H1, H2, rfl, rfl, h2⟩, hg⟩ := h
  have hlt : ∀ {k : Nat} {u : Obj}, w.heap[k]? = some u → k < w.heap.size := fun hu => (Array.getElem?_eq_some_iff.1 hu).1
  have hn := hg.nodup
  simp only [List.cons_append, List.nil_append, List.map_cons, List.nodup_cons] at hn
  refine ⟨g, (b, o') :: H2, ⟨[(b, o')], H2, rfl, rfl, h2⟩, ⟨by simpa using hn, ?_, ?_, ?_, hos.trans hg.os, htape.trans hg.tape, hout.trans hg.output⟩⟩
  · intro k u hm
    rcases List.mem_cons.1 hm with e | hm
    · cases e; exact hb
    · have hk : k ≠ b := fun e => hn.1 (e ▸ List.mem_map.2 ⟨(k, u), hm, rfl⟩)
      have := hg.own k u (by simp [hm])
      rw [ho k hk (hlt this)]; exact this
  · intro k u hm
    rcases List.mem_cons.1 hm with e | hm
    · cases e; exact hg.apart b o (by simp)
    · exact hg.apart k u (by simp [hm])
  · intro k u hk
    have hne : k ≠ b := fun e => by have := hg.apart b o (by simp); rw [← e, hk] at this; cases this
    have := hg.known k u hk
    rw [ho k hne (hlt this)]; exact this

/-- a new world in which all that lay lies as it lay -/
theorem Sat.grow {w' : World} (h : Sat w L) (ho : ∀ k, k < w.heap.size → w'.heap[k]? = w.heap[k]?) (hos : w'.os = w.os) (htape : w'.tape = w.tape) (hout : w'.output = w.output) : Sat w' L := by
  obtain ⟨g, H, h2, hg⟩ := h
  have hlt : ∀ {k : Nat} {u : Obj}, w.heap[k]? = some u → k < w.heap.size := fun hu => (Array.getElem?_eq_some_iff.1 hu).1
  exact ⟨g, H, h2, ⟨hg.nodup, fun b o hm => by rw [ho b (hlt (hg.own b o hm))]; exact hg.own b o hm, hg.apart, fun b o hk => by rw [ho b (hlt (hg.known b o hk))]; exact hg.known b o hk, hos.trans hg.os, htape.trans hg.tape, hout.trans hg.output⟩⟩

/-- a new block -/
theorem Sat.fresh {w' : World} {b : Nat} {o : Obj} (h : Sat w L) (hs : w.heap.size ≤ b) (hb : w'.heap[b]? = some o) (ho : ∀ k, k < w.heap.size → w'.heap[k]? = w.heap[k]?) (hos : w'.os = w.os) (htape : w'.tape = w.tape) (hout : w'.output = w.output) : Sat w' (raw b o :: L) := by
  obtain ⟨g, H, h2, hg⟩ := h
  have hlt : ∀ {k : Nat} {u : Obj}, w.heap[k]? = some u → k < w.heap.size := fun hu => (Array.getElem?_eq_some_iff.1 hu).1
  refine ⟨g, (b, o) :: H, ⟨[(b, o)], H, rfl, rfl, h2⟩, ⟨?_, ?_, ?_, fun k u hk => by rw [ho k (hlt (hg.known k u hk))]; exact hg.known k u hk, hos.trans hg.os, htape.trans hg.tape, hout.trans hg.output⟩⟩
  · simp only [List.map_cons, List.nodup_cons]
    refine ⟨fun hm => ?_, hg.nodup⟩
    obtain ⟨⟨k, u⟩, hm', e⟩ := List.mem_map.1 hm
    simp only at e; subst e
    have := hlt (hg.own k u hm')
    omega
  · intro k u hm
    rcases List.mem_cons.1 hm with e | hm
    · cases e; exact hb
    · have := hg.own k u hm
      rw [ho k (hlt this)]; exact this
  · intro k u hm
    rcases List.mem_cons.1 hm with e | hm
    · cases e
      cases hK : g.K b with
      | none => rfl
      | some u => have := hlt (hg.known b u hK); omega
    · exact hg.apart k u hm

theorem Sat.setCell {b k : Nat} {c : Array Value} {t : TypeId} {fr : Nat × Nat} (h : Sat w (raw b (.cells c t fr) :: L)) (v : Value) : Sat (w.setCell ⟨b, k, none⟩ v) (raw b (.cells (c.setIfInBounds k v) t fr) :: L) := by
  have hb := h.raw_block
  refine h.put ?_ (fun j hj _ => Below.heap_setCell _ _ _ _ hj) rfl rfl rfl
  simp [World.setCell, Array.getElem?_modify, hb]

theorem Sat.alloc (h : Sat w L) (o : Obj) : Sat (w.alloc o) (raw w.heap.size o :: L) :=
  h.fresh (Nat.le_refl _) (by show (w.heap.push o)[w.heap.size]? = some o; simp) (fun k hk => Below.heap_alloc w o k hk) rfl rfl rfl
theorem Sat.alloc' (h : Sat w L) (o : Obj) : Sat (w.alloc o) L := (h.alloc o).drop
theorem Sat.drew (h : Sat w L) : Sat w.drew L := h.grow (fun _ _ => rfl) rfl rfl rfl

/-- blocks of the call's own never change any more -/
theorem Sat.freeze_gen (hA : ∀ g H, A.P g H → ∀ g' : Gh, g.Le g' → (∀ b o, (b, o) ∈ H → g'.K b = some o) → B.P g' []) (h : Sat w (A :: L)) : Sat w (B :: L) := by
  obtain ⟨g, H, ⟨H1, H2, rfl, h1, h2⟩, hg⟩ := h
  have hn := hg.nodup
  rw [List.map_append, List.nodup_append] at hn
  have hfind : ∀ b o, (b, o) ∈ H1 → H1.find? (fun x => x.1 == b) = some (b, o) := by
    have : ∀ (l : Heaplet), (l.map (·.1)).Nodup → ∀ b o, (b, o) ∈ l → l.find? (fun x => x.1 == b) = some (b, o) := by
      intro l
      induction l with
      | nil => intro _ b o hm; simp at hm
      | cons x l ih =>
        intro hl b o hm
        simp only [List.map_cons, List.nodup_cons] at hl
        rcases List.mem_cons.1 hm with e | hm
        · subst e; simp
        · have hx : x.1 ≠ b := fun e => hl.1 (e ▸ List.mem_map.2 ⟨(b, o), hm, rfl⟩)
          rw [List.find?_cons_of_neg (by simpa using hx)]
          exact ih hl.2 b o hm
    exact this H1 hn.1
  let K' : Nat → Option Obj := fun k => ((H1.find? (fun x => x.1 == k)).map (·.2)).or (g.K k)
  have hK1 : ∀ b o, (b, o) ∈ H1 → K' b = some o := fun b o hm => by show ((H1.find? (fun x => x.1 == b)).map (·.2)).or (g.K b) = some o; rw [hfind b o hm]; rfl
  have hK2 : ∀ b o, K' b = some o → (b, o) ∈ H1 ∨ g.K b = some o := by
    intro b o hk
    have hk : ((H1.find? (fun x => x.1 == b)).map (·.2)).or (g.K b) = some o := hk
    cases hf : H1.find? (fun x => x.1 == b) with
    | none => rw [hf] at hk; exact .inr (by simpa using hk)
    | some x =>
      rw [hf] at hk
      have hx := List.find?_some hf
      have hm := List.mem_of_find?_eq_some hf
      obtain ⟨k, u⟩ := x
      have hx : k = b := by simpa using hx
      have hk' : u = o := by simpa using hk
      rw [← hx, ← hk']
      exact .inl hm
  have hle : g.Le { g with K := K' } := by
    refine ⟨fun k u hk => ?_, rfl, rfl, rfl⟩
    show ((H1.find? (fun x => x.1 == k)).map (·.2)).or (g.K k) = some u
    cases hf : H1.find? (fun x => x.1 == k) with
    | none => simpa using hk
    | some x =>
      have hx := List.find?_some hf
      have hm := List.mem_of_find?_eq_some hf
      obtain ⟨j, v⟩ := x
      simp at hx
      subst hx
      have := hg.apart j v (List.mem_append_left _ hm)
      rw [hk] at this; cases this
  refine ⟨{ g with K := K' }, H2, ⟨[], H2, rfl, hA g H1 h1 _ hle hK1, (all L).mono hle h2⟩, ⟨hn.2.1, fun k u hm => hg.own k u (List.mem_append_right _ hm), ?_, ?_, hg.os, hg.tape, hg.output⟩⟩
  · intro k u hm
    show K' k = none
    cases hk : K' k with
    | none => rfl
    | some v =>
      rcases hK2 k v hk with h3 | h3
      · exact absurd rfl (hn.2.2 k (List.mem_map.2 ⟨(k, v), h3, rfl⟩) k (List.mem_map.2 ⟨(k, u), hm, rfl⟩))
      · have := hg.apart k u (List.mem_append_right _ hm); rw [h3] at this; cases this
  · intro k u hk
    rcases hK2 k u hk with h3 | h3
    · exact hg.own k u (List.mem_append_left _ h3)
    · exact hg.known k u h3
theorem Sat.freeze {b : Nat} {o : Obj} (h : Sat w (raw b o :: L)) : Sat w (imm b o :: L) :=
  h.freeze_gen fun g H e g' _ hk => by cases e; exact ⟨hk b o (by simp), rfl⟩

theorem cell_blk {b k : Nat} {c : Array Value} {t : TypeId} {fr : Nat × Nat} (h : w.heap[b]? = some (.cells c t fr)) : w.cell? ⟨b, k, none⟩ = c[k]? := by
  simp [World.cell?, h]
theorem frozen_blk {b k : Nat} {c : Array Value} {t : TypeId} (h : w.heap[b]? = some (.cells c t (0, 0))) : w.frozen? ⟨b, k, none⟩ = false := by
  simp [World.frozen?, h]
end

/-- all that lay when the call began never changes -/
def base (w0 : World) : Atom := per (fun g => g.os = w0.os ∧ g.tape = w0.tape ∧ g.output = w0.output ∧ ∀ b o, w0.heap[b]? = some o → g.K b = some o)
  (fun hg h => ⟨hg.os.trans h.1, hg.tape.trans h.2.1, hg.output.trans h.2.2.1, fun b o hb => hg.K _ _ (h.2.2.2 b o hb)⟩)
theorem Sat.start (w0 : World) : Sat w0 [base w0] :=
  ⟨⟨fun b => w0.heap[b]?, w0.os, w0.tape, w0.output⟩, [], ⟨[], [], rfl, ⟨⟨rfl, rfl, rfl, fun _ _ h => h⟩, rfl⟩, rfl⟩, ⟨by simp, by simp, by simp, fun _ _ h => h, rfl, rfl, rfl⟩⟩
theorem Sat.below {w0 w : World} {L : List Atom} (h : Sat w (base w0 :: L)) (hs : w0.heap.size ≤ w.heap.size) : Below w0.heap.size w0 w := by
  obtain ⟨g, H, ⟨H1, H2, rfl, ⟨⟨h1, h2, h3, h4⟩, _⟩, _⟩, hg⟩ := h
  refine ⟨hg.os.trans h1, hg.tape.trans h2, hg.output.trans h3, hs, fun k hk => ?_⟩
  have : w0.heap[k]? = some w0.heap[k] := Array.getElem?_eq_getElem hk
  rw [hg.known k _ (h4 k _ this), this]
end SepW
end Go.Proofs.YtkmlppeligdbaaaDoor

/- What the readings of the arguments say of the memory: a slice that is read is a list. Conditions: none. -/
import Derived.Test.YtkmlppeligdbaaaDoorData
import Derived.OpenShut
import Derived.ReadAgain
import Derived.Below
import Derived.SizedLaws
import Derived.Deep.Slices
namespace Go.Proofs.YtkmlppeligdbaaaDoor
namespace SepW
open Go.RowKit Go.Deep
section
variable {H : Type} {enc : TypeId × Value → H} {P : Program} {w : World} {base0 : Nat} {sp : Nat → Bool} {held : Bool} {α : Type}
theorem cells_at {a : Addr} {n : Nat} {cs : List Value} (h : w.cells? base0 a n = some cs) (hn : 0 < n) : a.spot = none ∧ ∀ j u, cs[j]? = some u → w.cell? ⟨a.block, a.off + j, none⟩ = some u := by
  obtain ⟨_, hl, hc⟩ := World.cells?_some h
  have hs : a.spot = none := by
    have h0 := hc 0 hn
    have e0 : a.add 0 = a := by simp [Addr.add]
    rw [e0, List.getElem?_eq_getElem (by omega)] at h0
    cases hsp : a.spot with
    | none => rfl
    | some q =>
      simp only [World.cell?] at h0
      split at h0
      · simp [hsp] at h0
      · cases h0
  refine ⟨hs, fun j u hu => ?_⟩
  have hj : j < n := by rw [← hl]; exact (List.getElem?_eq_some_iff.1 hu).1
  have h1 := hc j hj
  have e : a.add j = ⟨a.block, a.off + j, none⟩ := by
    unfold Addr.add
    split
    · rename_i h0; subst h0; cases a; simp_all
    · rfl
  rw [e] at h1
  rw [h1, hu]
theorem weightsAll_mem {e : TypeId} : ∀ {ds : List (DataW H)} {d : DataW H} {m : Nat}, d ∈ ds → m ∈ d.weights P e → m ∈ DataW.weightsAll P e ds
  | x :: r, d, m, hd, hm => by
    rw [DataW.weightsAll]
    rcases List.mem_cons.1 hd with rfl | hd
    · exact List.mem_append_left _ hm
    · exact List.mem_append_right _ (weightsAll_mem hd hm)
theorem sl_of {T : Ty α} {t e : TypeId} {g : Gh} {Q : α → Prop} (ht : P.underlying t = some (.slice e)) (hc : P.cellsOf e = T.sz) (hb : 0 < P.bytesOf e)
    (hg : ∀ b o, w.heap[b]? = some o → g.K b = some o)
    (hel : ∀ n cs y, DataW.trod enc P w base0 sp held n e cs = some y → ∃ x, T.rd g x cs ∧ ((∀ m ∈ y.1.weights P e, m ≤ reachBytes) → Q x))
    {fuel : Nat} {v : Value} {y : DataW H × List MemPlace} (h : DataW.trod enc P w base0 sp held fuel t [v] = some y) :
    ∃ l : List α, SlK T g v l ∧ ((∀ m ∈ y.1.weights P t, m ≤ reachBytes) → l.length ≤ reachBytes ∧ ∀ x ∈ l, Q x) := by
  rcases open_slice ht h with ⟨hv, _⟩ | ⟨a, len, cap, m, n, D, Pl, hv, hba, hl, hmx, hm, hy, hx⟩
  · cases hv
    exact ⟨[], SlK.nil _ _ _ _, fun _ => ⟨Nat.zero_le _, fun x hx => by cases hx⟩⟩
  · cases hv
    have hlm : len ≤ m := by rw [hm]; split <;> omega
    have key : ∀ k, k ≤ len → ∃ (l : List α) (cs : List Value), l.length = k ∧ Cells T g l cs ∧ (∀ j u, cs[j]? = some u → w.cell? ⟨a.block, a.off + j, none⟩ = some u) ∧
        ((∀ i, i < len → ∀ m ∈ (D i).weights P e, m ≤ reachBytes) → ∀ x ∈ l, Q x) := by
      intro k
      induction k with
      | zero => intro _; exact ⟨[], [], rfl, rfl, fun j u hu => by simp at hu, fun _ x hx => by cases hx⟩
      | succ k ih =>
        intro hk
        obtain ⟨l, cs, e1, e2, e3, e4⟩ := ih (by omega)
        obtain ⟨cs', h1, h2⟩ := hx k (by omega)
        obtain ⟨x, hr, hq⟩ := hel n cs' _ h2
        rw [hc] at h1
        have hs := cells_at h1 T.pos
        refine ⟨l ++ [x], cs ++ cs', by simp [e1], e2.append (Cells.single hr), fun j u hu => ?_, fun hw y hy => ?_⟩
        · have hlen := e2.len
          rw [e1] at hlen
          by_cases hj : j < cs.length
          · rw [List.getElem?_append_left hj] at hu
            exact e3 j u hu
          · rw [List.getElem?_append_right (by omega)] at hu
            have h3 := hs.2 _ u hu
            have hpos := T.pos
            have eb : (a.add (k * T.sz)).block = a.block := by unfold Addr.add; split <;> rfl
            have eo : (a.add (k * T.sz)).off = a.off + k * T.sz := by unfold Addr.add; split <;> simp_all
            rw [eb, eo] at h3
            rw [show a.off + j = a.off + k * T.sz + (j - cs.length) by omega]
            exact h3
        · rcases List.mem_append.1 hy with hy | hy
          · exact e4 hw y hy
          · rw [List.mem_singleton.1 hy]; exact hq (hw k (by omega))
    obtain ⟨l, cs, e1, e2, e3, e4⟩ := key len (Nat.le_refl _)
    refine ⟨l, ⟨some a, cap, by rw [e1], by omega, fun hne => ?_⟩, fun hw => ?_⟩
    · have hpos : 0 < len := by rw [← e1]; exact List.length_pos_iff.2 hne
      obtain ⟨cs0, h1, _⟩ := hx 0 (by omega)
      rw [hc, Nat.zero_mul] at h1
      have ea : a.add 0 = a := by simp [Addr.add]
      rw [ea] at h1
      obtain ⟨hsp, hc0⟩ := cells_at h1 T.pos
      obtain ⟨_, hl0, _⟩ := World.cells?_some h1
      have hcl := e2.len
      have hz := T.pos
      have hf := hc0 0 _ (List.getElem?_eq_getElem (by omega))
      cases hB : w.heap[a.block]? with
      | none => simp [World.cell?, hB] at hf
      | some o =>
        cases o with
        | cells c t' fr =>
          refine ⟨a.block, a.off, c, t', fr, cs, ?_, hg _ _ hB, e2, fun j u hu => ?_⟩
          · cases a; simp_all
          · have := e3 j u hu
            simpa [World.cell?, hB] using this
        | _ => simp [World.cell?, hB] at hf
    · subst hy
      have hd : ∀ i, i < len → ∀ m ∈ (D i).weights P e, m ≤ reachBytes := fun i hi m hm' => hw m (by
        rw [DataW.weights, ht]
        exact List.mem_cons_of_mem _ (List.mem_append_left _ (weightsAll_mem (List.mem_map.2 ⟨i, List.mem_range.2 hi, rfl⟩) hm')))
      refine ⟨?_, e4 hd⟩
      have h0 := hw ((((List.range len).map D).length + ((List.range (m - len)).map fun j => D (len + j)).length) * P.bytesOf e) (by rw [DataW.weights, ht]; exact List.mem_cons_self)
      have h1 : len * 1 ≤ (((List.range len).map D).length + ((List.range (m - len)).map fun j => D (len + j)).length) * P.bytesOf e := Nat.mul_le_mul (by simp) hb
      omega
theorem ints_of {t e : TypeId} {g : Gh} (ht : P.underlying t = some (.slice e)) (he : P.underlying e = some (.int .i64)) (hc : P.cellsOf e = 1) (hb : 0 < P.bytesOf e)
    (hg : ∀ b o, w.heap[b]? = some o → g.K b = some o) {fuel : Nat} {v : Value} {y : DataW H × List MemPlace} (h : DataW.trod enc P w base0 sp held fuel t [v] = some y) :
    ∃ l : List Int, SlK intT g v l ∧ ((∀ m ∈ y.1.weights P t, m ≤ reachBytes) → l.length ≤ reachBytes) := by
  obtain ⟨l, h1, h2⟩ := sl_of (T := intT) (Q := fun _ => True) ht hc hb hg (fun n cs y hy => by
    obtain ⟨k, e1, e2, _⟩ := DataW.trod_int he hy
    exact ⟨k, e1, fun _ => trivial⟩) h
  exact ⟨l, h1, fun hw => (h2 hw).1⟩
theorem carry_all {w' : World} : ∀ {ts : List TypeId} {vs : List Value} {ds : List (DataW H)} {ps : List MemPlace}, DataW.TrodAll enc P w base0 sp held ts vs ds ps → (∀ p ∈ ps, w.sameAt w' p) → DataW.TrodAll enc P w' base0 sp held ts vs ds ps
  | [], [], [], _, h, _ => h
  | _ :: _, _ :: _, _ :: _, _, ⟨p, q, ⟨n, h1⟩, h2, e⟩, hs =>
    ⟨p, q, ⟨n, DataW.trod_carry n _ _ _ h1 (fun x hx => hs x (by rw [e]; exact List.mem_append_left _ hx))⟩, carry_all h2 (fun x hx => hs x (by rw [e]; exact List.mem_append_right _ hx)), e⟩
/-- what is known when the call begins -/
def gh0 (w : World) : Gh := ⟨fun b => w.heap[b]?, w.os, w.tape, w.output⟩
theorem Sat.begin3 {β γ : Type} {T : Ty α} {T2 : Ty β} {T3 : Ty γ} {v v2 v3 : Value} {l : List α} {l2 : List β} {l3 : List γ} (h1 : SlK T (gh0 w) v l) (h2 : SlK T2 (gh0 w) v2 l2) (h3 : SlK T3 (gh0 w) v3 l3) : Sat w [slA T v l, slA T2 v2 l2, slA T3 v3 l3, base w] :=
  ⟨gh0 w, [], ⟨[], [], rfl, ⟨h1, rfl⟩, [], [], rfl, ⟨h2, rfl⟩, [], [], rfl, ⟨h3, rfl⟩, [], [], rfl, ⟨⟨rfl, rfl, rfl, fun _ _ h => h⟩, rfl⟩, rfl⟩, ⟨by simp, by simp, by simp, fun _ _ h => h, rfl, rfl, rfl⟩⟩
theorem base_size {w0 : World} {L : List Atom} (h : Sat w (base w0 :: L)) : w0.heap.size ≤ w.heap.size := by
  obtain ⟨g, H, ⟨H1, H2, rfl, ⟨⟨h1, h2, h3, h4⟩, _⟩, _⟩, hg⟩ := h
  by_cases hz : w0.heap.size = 0
  · omega
  · have hk : w0.heap.size - 1 < w0.heap.size := by omega
    have := hg.known _ _ (h4 _ _ (Array.getElem?_eq_getElem hk))
    have := (Array.getElem?_eq_some_iff.1 this).1
    omega
end
end SepW
end Go.Proofs.YtkmlppeligdbaaaDoor

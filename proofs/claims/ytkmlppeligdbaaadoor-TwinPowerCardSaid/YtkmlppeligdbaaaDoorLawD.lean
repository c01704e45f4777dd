/- The law of the store, no program in sight: what lies on the device between the rounds, in a round, behind a loss. Conditions: none. -/
import Derived.Test.YtkmlppeligdbaaaDoorLawC
namespace Go.Proofs.YtkmlppeligdbaaaDoor
namespace Sl
open Go.RowKit SepW Pl Eg
set_option linter.unusedVariables false
set_option linter.unusedSimpArgs false
set_option linter.unusedSectionVars false
/-- a copy as old as r at most -/
def CopyLe (r : Nat) (s : ByteArray) : Prop := s.size = 0 ∨ ∃ v l, Okay v l ∧ v ≤ r ∧ s.size = 256 ∧ s.extract 0 240 = ⟨(encL v l).toArray⟩
theorem CopyLe.mono {r q : Nat} {s : ByteArray} (h : CopyLe r s) (hq : r ≤ q) : CopyLe q s := h.imp id fun ⟨v, l, a, b, c⟩ => ⟨v, l, a, by omega, c⟩
theorem copyLe_sec {i v r : Nat} {l : List Slot} (h : Okay v l) (hv : v ≤ r) : CopyLe r ⟨(secL i v l).toArray⟩ := .inr ⟨v, l, h, hv, secL_len h, secL_240 h⟩
theorem copyLe_blank (r : Nat) : CopyLe r blankB := .inr ⟨0, [], okay0, by omega, blank_size, blank_240⟩
theorem enc_lsn {v u : Nat} {l m : List Slot} (hv : v ≤ 1099511627776) (hu : u ≤ 1099511627776) (h : encL v l = encL u m) : v = u := by
  have e : ∀ (v : Nat) (l : List Slot), (encL v l).take 8 = putL v 8 := by
    intro v l
    simp only [encL, bodyL, List.append_assoc]
    rw [List.take_left' (putL_length v 8)]
  have h2 := e v l
  rw [h, e u m] at h2
  have h3 := congrArg getV h2
  rw [getV_putL u 8 (by omega), getV_putL v 8 (by omega)] at h3
  exact h3.symm
theorem arr_inj {a b : List UInt8} (h : (⟨a.toArray⟩ : ByteArray) = ⟨b.toArray⟩) : a = b := by
  have h3 := congrArg (fun x : ByteArray => x.data.toList) h
  simpa using h3
theorem sec_num {i j v u : Nat} {l m : List Slot} (hv : Okay v l) (hu : Okay u m) (hi : i < 1000000) (hj : j < 1000000) (h : (⟨(secL i v l).toArray⟩ : ByteArray) = ⟨(secL j u m).toArray⟩) : i = j := by
  have h1 := arr_inj h
  have e : ∀ (i v : Nat) (l : List Slot), Okay v l → ((secL i v l).drop 244).take 4 = putL i 4 := by
    intro i v l hv
    unfold secL
    have hl : (encL v l ++ [80, 65, 71, 69]).length = 244 := by rw [List.length_append, encL_len hv]; rfl
    rw [List.append_assoc, List.drop_left' hl, List.take_left' (putL_length i 4)]
  have h2 := e i v l hv
  rw [h1, e j u m hu] at h2
  have h3 := congrArg getV h2
  rw [getV_putL j 4 (by omega), getV_putL i 4 (by omega)] at h3
  exact h3.symm
theorem sec_lsn {i v u : Nat} {l m : List Slot} (hv : Okay v l) (hu : Okay u m) (h : (⟨(secL i v l).toArray⟩ : ByteArray).extract 0 240 = ⟨(encL u m).toArray⟩) : v = u := by
  rw [secL_240 hv] at h
  exact enc_lsn hv.lsn hu.lsn (arr_inj h)
/-- what lies on the device between the rounds -/
def StabP (a c m r : Nat) (vl : List Ver) : Int → ByteArray → Prop := fun n s =>
  (∀ i, i < m → n = ((a + c + i : Nat) : Int) → s = secOf i (vl.getD i none)) ∧ (∀ k, k < c → n = ((a + k : Nat) : Int) → CopyLe r s)
structure Stab (a c m r : Nat) (pl : PlateM) (vl : List Ver) : Prop where
  held : Held pl (StabP a c m r vl)
  down : pl.down = false
  que : pl.queue = []
  len : vl.length = m
  ok : ∀ i, i < m → VerOk (vl.getD i none)
/-- ..and when the power may have gone: old and new -/
structure Bad (P : Int → ByteArray → Prop) (a c m r : Nat) (vl nl : List Ver) : Prop where
  len : vl.length = m
  len2 : nl.length = m
  rec' : ∀ i, i < m → RecI P a c i (vl.getD i none) (nl.getD i none)
  old : ∀ k, k < c → ∀ s, P ((a + k : Nat) : Int) s → CopyLe r s
theorem size_ne {i : Nat} {v : Ver} (h : VerOk v) : (secOf i v).size ≠ 0 := by
  cases v with
  | none => show blankB.size ≠ 0; rw [blank_size]; decide
  | some x => show (secL i x.1 x.2).toArray.size ≠ 0; rw [List.size_toArray, secL_len h.1]; decide
theorem Stab.bad {a c m r : Nat} {pl : PlateM} {vl : List Ver} (h : Stab a c m r pl vl) : Bad (StabP a c m r vl) a c m r vl vl :=
  ⟨h.len, h.len, fun i hi => ⟨h.ok i hi, h.ok i hi, fun s hs => .inl (hs.1 i hi rfl)⟩, fun k hk s hs => hs.2 k hk rfl⟩
theorem held_of_live {pl : PlateM} {P : Int → ByteArray → Prop} (hq : pl.queue = []) (h : ∀ n, P n (pl.live n)) : Held pl P := by
  refine ⟨fun n => ?_, by rw [hq]; simp, by rw [hq]; simp⟩
  have e : pl.live n = pl.secAt n := by unfold PlateM.live; rw [hq]; rfl
  rw [← e]; exact h n
/-- behind an opening all is stable again -/
theorem open_stab {P : Int → ByteArray → Prop} {a c m r : Nat} {pl pl' : PlateM} {vl nl ul : List Ver} (hb : Bad P a c m r vl nl) (h : OpenOk P a c m (fun i => vl.getD i none) (fun i => nl.getD i none) pl pl' ul) :
    Stab a c m r pl' ul ∧ ∀ i, i < m → ul.getD i none = vl.getD i none ∨ ul.getD i none = nl.getD i none := by
  refine ⟨⟨held_of_live h.que fun n => ⟨fun i hi hn => ?_, fun k hk hn => ?_⟩, h.down, h.que, h.len, fun i hi => ?_⟩, fun i hi => (h.vrs i hi).1⟩
  · subst hn; exact (h.vrs i hi).2
  · subst hn; exact hb.old k hk _ (h.held.live _)
  · rcases (h.vrs i hi).1 with e | e
    · rw [e]; exact (hb.rec' i hi).ok1
    · rw [e]; exact (hb.rec' i hi).ok2
/-! ### a round's writing -/
/-- the pages behind leaves -/
def newL (vl : List Ver) (l : List LeafM) : List Ver := l.foldl (fun p x => p.set x.1 (some (x.2.1, x.2.2))) vl
theorem newL_len (l : List LeafM) : ∀ (vl : List Ver), (newL vl l).length = vl.length := by
  unfold newL
  induction l with
  | nil => intro vl; rfl
  | cons x l ih => intro vl; rw [List.foldl_cons, ih]; simp
theorem newL_other (l : List LeafM) : ∀ (vl : List Ver) (i : Nat), (∀ x ∈ l, x.1 ≠ i) → (newL vl l).getD i none = vl.getD i none := by
  unfold newL
  induction l with
  | nil => intro vl i _; rfl
  | cons x l ih =>
    intro vl i h
    rw [List.foldl_cons, ih _ i fun y hy => h y (by simp [hy])]
    have hx := h x (by simp)
    simp [List.getD_eq_getElem?_getD, List.getElem?_set_ne hx]
theorem newL_at (l : List LeafM) : ∀ (vl : List Ver) (k : Nat) (x : LeafM), l[k]? = some x → x.1 < vl.length → (∀ (j : Nat) (y : LeafM), k < j → l[j]? = some y → y.1 ≠ x.1) → (newL vl l).getD x.1 none = some (x.2.1, x.2.2) := by
  unfold newL
  induction l with
  | nil => intro vl k x h _ _; simp at h
  | cons z l ih =>
    intro vl k x hx hlt hno
    rw [List.foldl_cons]
    cases k with
    | zero =>
      simp at hx
      subst hx
      have h1 := newL_other l (vl.set z.1 (some (z.2.1, z.2.2))) z.1 fun y hy => by
        obtain ⟨j, hj⟩ := List.getElem?_of_mem hy
        exact hno (j + 1) y (by omega) (by simpa using hj)
      unfold newL at h1
      rw [h1]
      simp [List.getD_eq_getElem?_getD, List.getElem?_set_self hlt]
    | succ k =>
      exact ih _ k x (by simpa using hx) (by simpa using hlt) fun j y hj hy => hno (j + 1) y (by omega) (by simpa using hy)
/-- leaves that can be written together, all of one age -/
structure Batch (l : List LeafM) (m c r : Nat) : Prop where
  all : LeavesOk l m c
  age : ∀ (k : Nat) (x : LeafM), l[k]? = some x → x.2.1 = r + 1
  small : m ≤ 1000
def ws1 (a : Nat) (l : List LeafM) : List (Int × ByteArray) := (List.range l.length).map fun k => (((a + k : Nat) : Int), LeafM.sec (l.getD k (0, 0, [])))
def ws2 (a c : Nat) (l : List LeafM) : List (Int × ByteArray) := l.map fun x => (((a + c + x.1 : Nat) : Int), LeafM.sec x)
theorem ws1_at {a k : Nat} {l : List LeafM} {x : LeafM} (hx : l[k]? = some x) : (ws1 a l)[k]? = some (((a + k : Nat) : Int), LeafM.sec x) := by
  have hlt := (List.getElem?_eq_some_iff.1 hx).1
  have hg := (List.getElem?_eq_some_iff.1 hx).2
  simp [ws1, hlt, List.getD_eq_getElem?_getD, hg]
theorem ws2_at {a c k : Nat} {l : List LeafM} {x : LeafM} (hx : l[k]? = some x) : (ws2 a c l)[k]? = some (((a + c + x.1 : Nat) : Int), LeafM.sec x) := by simp [ws2, hx]
/-- what lies behind writes at places that are all unlike -/
theorem over_at (base : Int → ByteArray) (ws : List (Int × ByteArray)) (k : Nat) (n : Int) (s : ByteArray) (h : ws[k]? = some (n, s)) (hu : ∀ j y, ws[j]? = some y → k < j → y.1 ≠ n) : overL base ws n = s := by
  unfold overL
  have hm : ws.reverse.find? (fun x => decide (x.1 = n)) = some (n, s) := by
    have e : ws = ws.take k ++ (n, s) :: ws.drop (k + 1) := by
      have hlt := (List.getElem?_eq_some_iff.1 h).1
      have hg := (List.getElem?_eq_some_iff.1 h).2
      rw [← hg, List.getElem_cons_drop, List.take_append_drop]
    rw [e, List.reverse_append, List.reverse_cons, List.append_assoc, List.find?_append]
    have hn : (ws.drop (k + 1)).reverse.find? (fun x => decide (x.1 = n)) = none := by
      rw [List.find?_eq_none]
      intro y hy
      rw [List.mem_reverse] at hy
      obtain ⟨j, hj⟩ := List.getElem?_of_mem hy
      rw [List.getElem?_drop] at hj
      simpa using hu _ y hj (by omega)
    rw [hn]
    simp
  rw [hm]
theorem over_other (base : Int → ByteArray) (ws : List (Int × ByteArray)) (n : Int) (hu : ∀ y ∈ ws, y.1 ≠ n) : overL base ws n = base n := by
  unfold overL
  have hn : ws.reverse.find? (fun x => decide (x.1 = n)) = none := by
    rw [List.find?_eq_none]
    intro y hy
    rw [List.mem_reverse] at hy
    simpa using hu y hy
  rw [hn]
/-- while the leaves are written home -/
def PhaseP (a c m r : Nat) (vl : List Ver) (l : List LeafM) : Int → ByteArray → Prop := fun n s =>
  (∀ i, i < m → n = ((a + c + i : Nat) : Int) → s = secOf i (vl.getD i none) ∨ ∃ (k : Nat) (x : LeafM), l[k]? = some x ∧ x.1 = i ∧ (s = LeafM.sec x ∨ s.size = 0)) ∧
  (∀ k, k < c → n = ((a + k : Nat) : Int) → (∀ x, l[k]? = some x → s = LeafM.sec x) ∧ (l.length ≤ k → CopyLe r s))
section
variable {a c m r : Nat} {pl pl1 pl2 : PlateM} {vl : List Ver} {l : List LeafM}
theorem phase1 (hs : Stab a c m r pl vl) : Held pl (StabP a c m (r + 1) vl) := hs.held.mono fun n s h => ⟨h.1, fun k hk hn => (h.2 k hk hn).mono (by omega)⟩
theorem leaf_okay (hb : Batch l m c r) {k : Nat} {x : LeafM} (hx : l[k]? = some x) : Okay x.2.1 x.2.2 ∧ x.1 < m ∧ x.2.1 = r + 1 ∧ k < c ∧ k < l.length := by
  have hlt := (List.getElem?_eq_some_iff.1 hx).1
  have := hb.all.len
  exact ⟨(hb.all.okay k x hx).1, (hb.all.okay k x hx).2, hb.age k x hx, by omega, hlt⟩
theorem h1ws (hb : Batch l m c r) (hcnt : ((a + c + m : Nat) : Int) ≤ pl.count) (k : Nat) (x : LeafM) (hx : l[k]? = some x) :
    (ws1 a l)[k]? = some (((a + k : Nat) : Int), LeafM.sec x) ∧ StabP a c m (r + 1) vl ((a + k : Nat) : Int) (LeafM.sec x) ∧ StabP a c m (r + 1) vl ((a + k : Nat) : Int) tornB ∧ ((a + k : Nat) : Int) < pl.count ∧ Okay x.2.1 x.2.2 ∧ x.1 < 100000 := by
  obtain ⟨h1, h2, h3, h4, h5⟩ := leaf_okay hb hx
  have := hb.small
  refine ⟨ws1_at hx, ⟨fun i hi hn => by omega, fun j hj hn => copyLe_sec h1 (by omega)⟩, ⟨fun i hi hn => by omega, fun j hj hn => .inl rfl⟩, by omega, h1, by omega⟩
theorem phase2 (hs : Stab a c m r pl vl) (hb : Batch l m c r) (h : LayOk (StabP a c m (r + 1) vl) pl pl1 (ws1 a l)) : Held pl1 (PhaseP a c m r vl l) := by
  refine held_of_live h.que fun n => ⟨fun i hi hn => ?_, fun k hk hn => ⟨fun x hx => ?_, fun hle => ?_⟩⟩
  · subst hn
    exact .inl ((h.held.live _).1 i hi rfl)
  · subst hn
    rw [h.live]
    refine over_at _ _ k _ _ (ws1_at hx) fun j y hy hj => ?_
    have hjl : j < l.length := by have := (List.getElem?_eq_some_iff.1 hy).1; simpa [ws1] using this
    rw [ws1_at (List.getElem?_eq_getElem hjl)] at hy
    cases hy
    show ((a + j : Nat) : Int) ≠ ((a + k : Nat) : Int)
    omega
  · subst hn
    rw [h.live, over_other _ _ _ fun y hy => ?_]
    · exact (hs.held.live _).2 k hk rfl
    · obtain ⟨j, hj⟩ := List.getElem?_of_mem hy
      have hjl : j < l.length := by have := (List.getElem?_eq_some_iff.1 hj).1; simpa [ws1] using this
      rw [ws1_at (List.getElem?_eq_getElem hjl)] at hj
      cases hj
      show ((a + j : Nat) : Int) ≠ ((a + k : Nat) : Int)
      omega
theorem h2ws (hb : Batch l m c r) (hcnt : ((a + c + m : Nat) : Int) ≤ pl.count) (k : Nat) (x : LeafM) (hx : l[k]? = some x) :
    (ws2 a c l)[k]? = some (((a + c + x.1 : Nat) : Int), LeafM.sec x) ∧ PhaseP a c m r vl l ((a + c + x.1 : Nat) : Int) (LeafM.sec x) ∧ PhaseP a c m r vl l ((a + c + x.1 : Nat) : Int) tornB ∧ ((a + c + x.1 : Nat) : Int) < pl.count ∧ Okay x.2.1 x.2.2 ∧ x.1 < 100000 := by
  obtain ⟨h1, h2, h3, h4, h5⟩ := leaf_okay hb hx
  have := hb.small
  refine ⟨ws2_at hx, ⟨fun i hi hn => .inr ⟨k, x, hx, by omega, .inl rfl⟩, fun j hj hn => by omega⟩, ⟨fun i hi hn => .inr ⟨k, x, hx, by omega, .inr rfl⟩, fun j hj hn => by omega⟩, by omega, h1, by omega⟩
theorem apart' (hb : Batch l m c r) {k j : Nat} {x y : LeafM} (hx : l[k]? = some x) (hy : l[j]? = some y) (h : y.1 = x.1) : j = k := by
  rcases Nat.lt_trichotomy j k with h1 | h1 | h1
  · exact absurd h (hb.all.apart k j x y hx h1 hy)
  · exact h1
  · exact absurd h.symm (hb.all.apart j k y x hy h1 hx)
theorem new_at (hs : Stab a c m r pl vl) (hb : Batch l m c r) {k : Nat} {x : LeafM} (hx : l[k]? = some x) : (newL vl l).getD x.1 none = some (x.2.1, x.2.2) :=
  newL_at l vl k x hx (by rw [hs.len]; exact (leaf_okay hb hx).2.1) fun j y hj hy e => by have := apart' hb hx hy e; omega
/-- the power may go while the leaves are written as copies .. -/
theorem bad1 (hs : Stab a c m r pl vl) (hb : Batch l m c r) (hnl : ∀ i, i < m → VerOk ((newL vl l).getD i none)) : Bad (StabP a c m (r + 1) vl) a c m (r + 1) vl (newL vl l) :=
  ⟨hs.len, (newL_len l vl).trans hs.len, fun i hi => ⟨hs.ok i hi, hnl i hi, fun s h => .inl (h.1 i hi rfl)⟩, fun k hk s h => h.2 k hk rfl⟩
/-- .. or home -/
theorem bad2 (hs : Stab a c m r pl vl) (hb : Batch l m c r) (hnl : ∀ i, i < m → VerOk ((newL vl l).getD i none)) : Bad (PhaseP a c m r vl l) a c m (r + 1) vl (newL vl l) := by
  refine ⟨hs.len, (newL_len l vl).trans hs.len, fun i hi => ⟨hs.ok i hi, hnl i hi, fun s h => ?_⟩, fun k hk s h => ?_⟩
  · rcases h.1 i hi rfl with e | ⟨k, x, hx, rfl, e | e⟩
    · exact .inl e
    · refine .inr (.inl ?_)
      rw [new_at hs hb hx, e]; rfl
    · refine .inr (.inr ⟨e, ?_⟩)
      obtain ⟨h1, h2, h3, h4, h5⟩ := leaf_okay hb hx
      have hsm := hb.small
      obtain ⟨g1, g2, g3, g4, g5, g6⟩ := h2ws (a := a) (vl := vl) (pl := { pl with count := ((a + c + m : Nat) : Int) }) hb (Int.le_refl _) k x hx
      refine ⟨x.2.1, x.2.2, new_at hs hb hx, g2, g3, ⟨k, h4, fun s hs' => (hs'.2 k h4 rfl).1 x hx⟩, fun j hj s hs' => ?_⟩
      obtain ⟨p1, p2⟩ := hs'.2 j hj rfl
      rcases Nat.lt_or_ge j l.length with hjl | hjl
      · have hy : l[j]? = some l[j] := List.getElem?_eq_getElem hjl
        have hse := p1 _ hy
        obtain ⟨q1, q2, q3, q4, q5⟩ := leaf_okay hb hy
        have hsl := hb.all.okay j _ hy
        refine .inr ⟨l[j].2.1, l[j].2.2, q1, by have := q1.len; omega, by rw [hse]; exact secL_len q1, by rw [hse]; exact secL_240 q1, fun e => ?_, fun e => ?_⟩
        · rw [hse] at e
          have hn := sec_num q1 q1 (by omega) (by omega) e
          obtain rfl := apart' hb hx hy hn.symm
          rw [hx] at hy
          cases hy
          exact .inr ⟨rfl, rfl⟩
        · rw [hse] at e
          have hn := sec_num q1 h1 (by omega) (by omega) e
          obtain rfl := apart' hb hx hy hn
          rw [hx] at hy
          cases hy
          exact ⟨rfl, rfl⟩
      · rcases p2 hjl with hz | ⟨v, lv, o1, o2, o3, o4⟩
        · exact .inl hz
        · refine .inr ⟨v, lv, o1, by have := o1.len; omega, o3, o4, fun _ => .inl (by omega), fun e => ?_⟩
          rw [e] at o4
          have := sec_lsn h1 o1 o4
          omega
  · obtain ⟨p1, p2⟩ := h.2 k hk rfl
    rcases Nat.lt_or_ge k l.length with hkl | hkl
    · have hy : l[k]? = some l[k] := List.getElem?_eq_getElem hkl
      rw [p1 _ hy]
      obtain ⟨q1, q2, q3, q4, q5⟩ := leaf_okay hb hy
      exact copyLe_sec q1 (by omega)
    · exact (p2 hkl).mono (by omega)
/-- behind a writing all is stable again -/
theorem write_stab (hs : Stab a c m r pl vl) (hb : Batch l m c r) (hnl : ∀ i, i < m → VerOk ((newL vl l).getD i none)) (h1 : LayOk (StabP a c m (r + 1) vl) pl pl1 (ws1 a l)) (h2 : LayOk (PhaseP a c m r vl l) pl1 pl2 (ws2 a c l)) : Stab a c m (r + 1) pl2 (newL vl l) := by
  have hB := bad2 hs hb hnl
  refine ⟨held_of_live h2.que fun n => ⟨fun i hi hn => ?_, fun k hk hn => ?_⟩, h2.down, h2.que, (newL_len l vl).trans hs.len, hnl⟩
  · subst hn
    rw [h2.live]
    by_cases hx : ∃ (k : Nat) (x : LeafM), l[k]? = some x ∧ x.1 = i
    · obtain ⟨k, x, hx, rfl⟩ := hx
      rw [new_at hs hb hx]
      refine over_at _ _ k _ _ (ws2_at hx) fun j y hy hj => ?_
      have hjl : j < l.length := by have := (List.getElem?_eq_some_iff.1 hy).1; simpa [ws2] using this
      rw [ws2_at (List.getElem?_eq_getElem hjl)] at hy
      cases hy
      intro e
      have := apart' hb hx (List.getElem?_eq_getElem hjl) (by omega)
      omega
    · rw [over_other _ _ _ fun y hy => ?_, newL_other l vl i fun x hx' e => ?_]
      · exact (h1.held.live _).1 i hi rfl
      · obtain ⟨j, hj⟩ := List.getElem?_of_mem hx'
        exact hx ⟨j, x, hj, e⟩
      · obtain ⟨j, hj⟩ := List.getElem?_of_mem hy
        have hjl : j < l.length := by have := (List.getElem?_eq_some_iff.1 hj).1; simpa [ws2] using this
        rw [ws2_at (List.getElem?_eq_getElem hjl)] at hj
        cases hj
        intro e
        exact hx ⟨j, l[j], List.getElem?_eq_getElem hjl, by omega⟩
  · subst hn
    exact hB.old k hk _ (h2.held.live _)
theorem new_ok (hs : Stab a c m r pl vl) (hb : Batch l m c r) : ∀ i, i < m → VerOk ((newL vl l).getD i none) := by
  intro i hi
  by_cases hx : ∃ (k : Nat) (x : LeafM), l[k]? = some x ∧ x.1 = i
  · obtain ⟨k, x, hx, rfl⟩ := hx
    rw [new_at hs hb hx]
    obtain ⟨h1, h2, h3, h4, h5⟩ := leaf_okay hb hx
    exact ⟨h1, by show 0 < x.2.1; omega⟩
  · rw [newL_other l vl i fun x hx' e => ?_]
    · exact hs.ok i hi
    · obtain ⟨j, hj⟩ := List.getElem?_of_mem hx'
      exact hx ⟨j, x, hj, e⟩
end
/-- a new device -/
theorem new_stab {a c m : Nat} (n : Int) : Stab a c m 0 (newPlate n) (List.replicate m none) := by
  have hl : ∀ k, (newPlate n).live k = blankB := fun k => rfl
  refine ⟨held_of_live rfl fun k => ⟨fun i hi hn => ?_, fun j hj hn => ?_⟩, rfl, rfl, by simp, fun i hi => ?_⟩
  · rw [hl]; simp [List.getD_eq_getElem?_getD, hi, secOf]
  · rw [hl]; exact copyLe_blank 0
  · simp [List.getD_eq_getElem?_getD, hi, VerOk]
end Sl
end Go.Proofs.YtkmlppeligdbaaaDoor

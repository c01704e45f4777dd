/- The store's functions as the law's rounds use them. Conditions: none. -/
import Derived.Test.YtkmlppeligdbaaaDoorLawD
namespace Go.Proofs.YtkmlppeligdbaaaDoor
namespace Sl
open Go.RowKit SepW Pl Eg
set_option linter.unusedVariables false
set_option linter.unusedSimpArgs false
set_option linter.unusedSectionVars false
/-! ### a group's leaves -/
theorem okay1 {v : Nat} {d : ByteArray} (hv : v ≤ 1099511627776) (hd : d.size = 1) : Okay v [⟨true, d⟩] := by
  refine ⟨hv, by simp, ?_, by simp [hd], by simp, by simp [sizeOf, hd]⟩
  simp [Page.good, Slot.odd, lastUsed, sizeOf, hd]
  omega
theorem laid_mem {lsn : Nat} {d : ByteArray} (pages : List Int) : ∀ x ∈ laidL lsn d pages, x.2 = (lsn, [⟨true, d⟩]) ∧ x.1 < 5 := by
  unfold laidL
  have hs : ∀ (m : List Int) (o : List LeafM), (∀ x ∈ o, x.2 = (lsn, [⟨true, d⟩]) ∧ x.1 < 5) → ∀ x ∈ m.foldl (laidStep lsn d) o, x.2 = (lsn, [⟨true, d⟩]) ∧ x.1 < 5 := by
    intro m
    induction m with
    | nil => intro o h; exact h
    | cons p m ih =>
      intro o ho
      rw [List.foldl_cons]
      refine ih _ ?_
      unfold laidStep
      split
      · split
        · exact ho
        · intro x hx
          rcases List.mem_append.1 hx with hx | hx
          · exact ho x hx
          · simp at hx; subst hx; exact ⟨rfl, uMod_lt p (by decide)⟩
      · exact ho
  exact hs pages [] (by simp)
def Apart (o : List LeafM) : Prop := ∀ (k j : Nat) (x y : LeafM), o[k]? = some x → j < k → o[j]? = some y → y.1 ≠ x.1
theorem laid_apart {lsn : Nat} {d : ByteArray} (pages : List Int) : Apart (laidL lsn d pages) := by
  unfold laidL
  have hs : ∀ (m : List Int) (o : List LeafM), Apart o → Apart (m.foldl (laidStep lsn d) o) := by
    intro m
    induction m with
    | nil => intro o h; exact h
    | cons p m ih =>
      intro o ho
      rw [List.foldl_cons]
      refine ih _ ?_
      unfold laidStep
      split
      · split
        · exact ho
        · rename_i hany
          intro k j x y hx hj hy
          have hyl : j < o.length := by
            have := (List.getElem?_eq_some_iff.1 hx).1
            simp at this; omega
          rw [List.getElem?_append_left hyl] at hy
          rcases Nat.lt_or_ge k o.length with hk | hk
          · rw [List.getElem?_append_left hk] at hx
            exact ho k j x y hx hj hy
          · rw [List.getElem?_append_right hk] at hx
            have : k - o.length = 0 := by
              have := (List.getElem?_eq_some_iff.1 hx).1
              simp at this; omega
            rw [this] at hx
            simp at hx
            subst hx
            intro e
            exact hany (List.any_eq_true.2 ⟨y, List.mem_of_getElem? hy, by simpa using e⟩)
      · exact ho
  exact hs pages [] (by intro k j x y hx; simp at hx)
theorem laid_batch {r : Nat} {d : ByteArray} (hr : r < 1000000) (hd : d.size = 1) (pages : List Int) : Batch (laidL (r + 1) d pages) 5 3 r := by
  refine ⟨⟨laid_len3 _ _ _, fun k x hx => ?_, laid_apart pages⟩, fun k x hx => ?_, by decide⟩
  · obtain ⟨h1, h2⟩ := laid_mem pages x (List.mem_of_getElem? hx)
    rw [h1]
    exact ⟨okay1 (by omega) hd, h2⟩
  · obtain ⟨h1, h2⟩ := laid_mem pages x (List.mem_of_getElem? hx)
    rw [h1]
theorem setPages_new (l : List LeafM) : ∀ (vl : List Ver), setPages (vl.map pageOf) l l.length = (newL vl l).map pageOf := by
  unfold setPages newL
  rw [List.take_length]
  induction l with
  | nil => intro vl; rfl
  | cons x l ih =>
    intro vl
    rw [List.foldl_cons, List.foldl_cons, ← ih]
    congr 1
    rw [List.map_set]
    rfl
theorem Stab.mono {a c m r q : Nat} {pl : PlateM} {vl : List Ver} (h : Stab a c m r pl vl) (hq : r ≤ q) : Stab a c m q pl vl :=
  ⟨h.held.mono fun n s hs => ⟨hs.1, fun k hk hn => (hs.2 k hk hn).mono hq⟩, h.down, h.que, h.len, h.ok⟩
section
variable {w : World} {L : List Atom} {s d : Nat} {pl : PlateM} {st : StoreM} {P : Int → ByteArray → Prop}
/-- what is known where the power has gone -/
structure Lost (a c m r : Nat) (n : Int) (P : Int → ByteArray → Prop) (pl : PlateM) (vl nl : List Ver) : Prop where
  held : Held pl P
  bad : Bad P a c m r vl nl
  down : pl.down = true
  count : pl.count = n
  que : pl.queue.length ≤ 2000
  armed : pl.armed = 0
structure Fine (a c m r : Nat) (n : Int) (pl : PlateM) (vl : List Ver) : Prop where
  stab : Stab a c m r pl vl
  count : pl.count = n
theorem write_law {cap m r : Nat} {A : Option Addr} {l : List LeafM} {vl : List Ver} {n : Int} (hs : Fine st.at' st.copies m r n pl vl) (hp : st.pages = vl.map pageOf) (hr : readyM pl st = 0) (hb : Batch l m st.copies r)
    (ha : st.at' < 100000) (hc : st.copies ≤ 64) (hc1 : 1 ≤ st.copies) (hm : 1 ≤ m) (hcnt : ((st.at' + st.copies + m : Nat) : Int) ≤ n) (hS : Sat w (slA leafT (.slice A l.length cap) l :: storeA s st :: plateA st.plate pl :: L)) :
    Calls Tryd.prog 9 #[.pointer (some ⟨s, 0, none⟩), .slice A l.length cap] w (Ret fun v w' =>
      (v = .int .i64 0 ∧ ∃ pl', (Fine st.at' st.copies m (r + 1) n pl' (newL vl l) ∧ pl'.life = pl.life ∧ (pl.armed ≤ 0 → pl'.armed ≤ 0)) ∧ Sat w' (storeA s ⟨st.plate, st.at', st.copies, (newL vl l).map pageOf, st.life, false⟩ :: plateA st.plate pl' :: L)) ∨
      (v = .int .i64 10 ∧ ∃ pl' P, Lost st.at' st.copies m (r + 1) n P pl' vl (newL vl l) ∧ Sat w' (plateA st.plate pl' :: L))) := by
  obtain ⟨hst, hn⟩ := hs
  have hpl : st.pages.length = m := by rw [hp, List.length_map, hst.len]
  have hsm := hb.small
  have hall : LeavesOk l st.pages.length st.copies := by rw [hpl]; exact hb.all
  have hlen := hb.all.len
  by_cases hl : l.length = 0
  · refine Ret.weak (write0_c hr (by omega) (by omega) hl hall hS) ?_
    rintro v w' ⟨rfl, hS'⟩
    have hl0 : l = [] := List.eq_nil_of_length_eq_zero hl
    subst hl0
    refine .inl ⟨rfl, pl, ⟨⟨hst.mono (by omega), hn⟩, rfl, id⟩, ?_⟩
    have ht : st.torn = false := by
      unfold readyM at hr
      split at hr
      · cases hr
      · rename_i h; cases h' : st.torn <;> simp_all
    have e : (⟨st.plate, st.at', st.copies, (newL vl []).map pageOf, st.life, false⟩ : StoreM) = st := by
      cases st; simp only [newL, List.foldl_nil] at hp ht ⊢; rw [hp, ht]
    rw [e]
    exact hS'
  · have hnl := new_ok hst hb
    refine Ret.weak (writeAll_c (ws1 := ws1 st.at' l) (ws2 := ws2 st.at' st.copies l) (P1 := StabP st.at' st.copies m (r + 1) vl) (P2 := PhaseP st.at' st.copies m r vl l) hr (phase1 hst) hst.down hst.que ha (by omega) (by omega) (by omega) (by omega) (by omega) hall (by simp [ws1]) (by simp [ws2])
      (fun k x hx => h1ws hb (by omega) k x hx) (fun pl1 h => phase2 hst hb h) (fun k x hx => h2ws hb (by omega) k x hx) hS) ?_
    rintro v w' (⟨rfl, pl1, pl2, h1, h2, hS'⟩ | ⟨rfl, pl', h, hS'⟩)
    · refine .inl ⟨rfl, pl2, ⟨⟨write_stab hst hb hnl h1 h2, by rw [h2.count, h1.count, hn]⟩, by rw [h2.life, h1.life], fun h => h2.armed (h1.armed h)⟩, ?_⟩
      rw [← setPages_new, ← hp]
      exact hS'
    · refine .inr ⟨rfl, pl', ?_⟩
      rcases h with h | ⟨pl1, h1, h⟩
      · exact ⟨_, ⟨h.held, bad1 hst hb hnl, h.down, by rw [h.count, hn], h.que, h.zero⟩, hS'⟩
      · exact ⟨_, ⟨h.held, bad2 hst hb hnl, h.down, by rw [h.count, h1.count, hn], h.que, h.zero⟩, hS'⟩
/-- the device is back -/
structure Back (a c m r : Nat) (n : Int) (P : Int → ByteArray → Prop) (pl : PlateM) (vl nl : List Ver) : Prop where
  held : Held pl P
  bad : Bad P a c m r vl nl
  down : pl.down = false
  count : pl.count = n
  que : pl.queue = []
theorem open_law {a c m r : Nat} {vl nl : List Ver} {n : Int} (hb : Back a c m r n P pl vl nl) (ha : a < 100000) (hc : c ≤ 64) (hc1 : 1 ≤ c) (hm1 : 1 ≤ m) (hm : m ≤ 1000) (hcnt : ((a + c + m : Nat) : Int) ≤ n) (hn : n ≤ 1000000) (hS : Sat w (plateA d pl :: L)) :
    Calls Tryd.prog 6 #[.pointer (some ⟨d, 0, none⟩), .int .i64 (a : Nat), .int .i64 (c : Nat), .int .i64 (m : Nat)] w (Ret fun v w' =>
      (∃ b, v = .tuple #[.pointer (some ⟨b, 0, none⟩), .int .i64 0] ∧ ∃ pl' ul, (Fine a c m r n pl' ul ∧ (∀ i, i < m → ul.getD i none = vl.getD i none ∨ ul.getD i none = nl.getD i none) ∧ pl'.life = pl.life ∧ (pl.armed ≤ 0 → pl'.armed ≤ 0) ∧ Held pl' P) ∧ Sat w' (storeA b ⟨d, a, c, ul.map pageOf, pl'.life, false⟩ :: plateA d pl' :: L)) ∨
      (v = .tuple #[.pointer none, .int .i64 10] ∧ ∃ pl', Lost a c m r n P pl' vl nl ∧ 0 < pl.armed ∧ Sat w' (plateA d pl' :: L))) := by
  refine Ret.weak (open_c (o := fun i => vl.getD i none) (n := fun i => nl.getD i none) hb.held hb.down hb.que ha (by omega) hc1 hc hm1 hm (by rw [hb.count]; exact hcnt) (by rw [hb.count]; exact hn) hb.bad.rec' hS) ?_
  rintro v w' (⟨b, rfl, pl', ul, h, hS'⟩ | ⟨rfl, pl', h, hS'⟩)
  · obtain ⟨h1, h2⟩ := open_stab hb.bad h
    refine .inl ⟨b, rfl, pl', ul, ⟨⟨h1, by rw [h.count, hb.count]⟩, h2, h.life, h.armed, h.held⟩, ?_⟩
    rw [h.life]
    exact hS'
  · exact .inr ⟨rfl, pl', ⟨h.held, hb.bad, h.down, by rw [h.count, hb.count], by have := h.que; rw [hb.que] at this; simpa using this, h.zero⟩, h.armed, hS'⟩
theorem on_back {a c m r : Nat} {vl nl : List Ver} {n : Int} (h : Lost a c m r n P pl vl nl) (l : List Int) : Back a c m r n P (pl.on l) vl nl ∧ (pl.on l).armed = 0 := by
  have e : pl.on l = { pl with down := false, sec := settled pl.sec l pl.queue pl.queue.length, queue := [] } := by unfold PlateM.on; rw [if_pos h.down]
  refine ⟨⟨h.held.on l, h.bad, by rw [e], by rw [e]; exact h.count, by rw [e]⟩, by rw [e]; exact h.armed⟩
theorem off_lost {a c m r : Nat} {vl nl : List Ver} {n : Int} (h : Back a c m r n P pl vl nl) : Lost a c m r n P pl.off vl nl := by
  have e : pl.off = { pl with down := true, armed := 0, life := wrap64 (pl.life + 1) } := by unfold PlateM.off; rw [if_neg (by rw [h.down]; simp)]
  exact ⟨h.held.off, h.bad, by rw [e], by rw [e]; exact h.count, by rw [e]; show pl.queue.length ≤ 2000; rw [h.que]; simp, by rw [e]⟩
theorem lost_off {a c m r : Nat} {vl nl : List Ver} {n : Int} (h : Lost a c m r n P pl vl nl) : Lost a c m r n P pl.off vl nl := by
  have e : pl.off = pl := by unfold PlateM.off; rw [if_pos h.down]
  rw [e]; exact h
theorem Fine.back {a c m r : Nat} {vl : List Ver} {n : Int} (h : Fine a c m r n pl vl) : Back a c m r n (StabP a c m r vl) pl vl vl := ⟨h.stab.held, h.stab.bad, h.stab.down, h.count, h.stab.que⟩
theorem arm_back {a c m r : Nat} {vl nl : List Ver} {n x : Int} (h : Back a c m r n P pl vl nl) : Back a c m r n P { pl with armed := x } vl nl := ⟨h.held.same rfl rfl, h.bad, h.down, h.count, h.que⟩
theorem arm_fine {a c m r : Nat} {vl : List Ver} {n x : Int} (h : Fine a c m r n pl vl) : Fine a c m r n { pl with armed := x } vl := ⟨⟨h.stab.held.same rfl rfl, h.stab.down, h.stab.que, h.stab.len, h.stab.ok⟩, h.count⟩
theorem on_c {B : Option Addr} {cap : Nat} {l : List Int} (hl : l.length ≤ 140737488355328) (hlen : pl.queue.length < 1000000) (hS : Sat w (plateA d pl :: slA intT (.slice B l.length cap) l :: L)) :
    Calls Tryd.prog 10 #[.pointer (some ⟨d, 0, none⟩), .slice B l.length cap] w (Ret fun v w' => v = .tuple #[] ∧ Sat w' (plateA d (pl.on l) :: slA intT (.slice B l.length cap) l :: L)) := Ret.of_eq (on_ct hl hlen hS)
theorem off_c (hS : Sat w (plateA d pl :: L)) : Calls Tryd.prog 11 #[.pointer (some ⟨d, 0, none⟩)] w (Ret fun v w' => v = .tuple #[] ∧ Sat w' (plateA d pl.off :: L)) := Ret.of_eq (off_ct hS)
theorem arm_c (n : Int) (hS : Sat w (plateA d pl :: L)) : Calls Tryd.prog 7 #[.pointer (some ⟨d, 0, none⟩), .int .i64 n] w (Ret fun v w' => v = .tuple #[] ∧ Sat w' (plateA d { pl with armed := max n 0 } :: L)) := Ret.of_eq (arm_ct n hS)
theorem ready_fine {a c m r : Nat} {vl : List Ver} {n : Int} (h : Fine a c m r n pl vl) (hl : pl.life = st.life) (ht : st.torn = false) : readyM pl st = 0 := by
  unfold readyM
  rw [if_neg]
  simp [ht, h.stab.down, hl]
theorem read_c {i : Nat} {x : Page} (hx : st.pages[i]? = some x) (hi : i < 100000) (hl : x.slots.length ≤ 1000) (hr : readyM pl st = 0) (hS : Sat w (storeA s st :: plateA st.plate pl :: L)) :
    Calls Tryd.prog 12 #[.pointer (some ⟨s, 0, none⟩), .int .i64 (i : Nat)] w (Ret fun v w' => ∃ A cap, v = .tuple #[.agg #[.int .i64 x.lsn, .slice A x.slots.length cap], .int .i64 0] ∧ Sat w' (slA slotT (.slice A x.slots.length cap) x.slots :: storeA s st :: plateA st.plate pl :: L)) := Ret.of_ex (read2_ct hx hi hl hr hS)
theorem new_c (n : Int) (h1 : 1 ≤ n) (h2 : n ≤ 16384) (hS : Sat w L) : Calls Tryd.prog 5 #[.int .i64 n] w (Ret fun v w' => ∃ p, v = .pointer (some ⟨p, 0, none⟩) ∧ Sat w' (plateA p (newPlate n) :: L)) := Ret.of_ex (new_ct n h1 h2 hS)
theorem page_len {v : Ver} (h : VerOk v) : (pageOf v).slots.length ≤ 1000 := by
  cases v with
  | none => simp [pageOf]
  | some x => have := h.1.len; simp only [pageOf]; omega
end
end Sl
end Go.Proofs.YtkmlppeligdbaaaDoor

/- What a page can be read as when the store is opened; bringing one page in, whatever lies there. Conditions: none. -/
import Derived.Test.YtkmlppeligdbaaaDoorLoad
namespace Go.Proofs.YtkmlppeligdbaaaDoor
namespace Sl
open Go.RowKit SepW Pl Eg
set_option linter.unusedVariables false
set_option linter.unusedSimpArgs false
set_option linter.unusedSectionVars false

/-- what a page has: none where it was never written -/
abbrev Ver := Option (Nat × List Slot)
def secOf (i : Nat) : Ver → ByteArray
  | none => blankB
  | some x => ⟨(secL i x.1 x.2).toArray⟩
def pageOf : Ver → Page
  | none => ⟨0, []⟩
  | some x => ⟨x.1, x.2⟩
def VerOk : Ver → Prop
  | none => True
  | some x => Okay x.1 x.2 ∧ 0 < x.1
def TornOk (P : Int → ByteArray → Prop) (a c i : Nat) (n : Ver) : Prop :=
  ∃ R lx, n = some (R, lx) ∧ P ((a + c + i : Nat) : Int) ⟨(secL i R lx).toArray⟩ ∧ P ((a + c + i : Nat) : Int) tornB ∧
    (∃ k, k < c ∧ ∀ s, P ((a + k : Nat) : Int) s → s = ⟨(secL i R lx).toArray⟩) ∧ ∀ k, k < c → ∀ s, P ((a + k : Nat) : Int) s → CopyOk i R lx s
structure RecI (P : Int → ByteArray → Prop) (a c i : Nat) (o n : Ver) : Prop where
  ok1 : VerOk o
  ok2 : VerOk n
  home : ∀ s, P ((a + c + i : Nat) : Int) s → s = secOf i o ∨ s = secOf i n ∨ (s.size = 0 ∧ TornOk P a c i n)
theorem blank_size : blankB.size = 256 := by show (List.replicate 256 (0 : UInt8)).toArray.size = 256; rw [List.size_toArray, List.length_replicate]
theorem okay0 : Okay 0 [] := ⟨by decide, by decide, by decide, by simp, by simp, by decide⟩
theorem blank_trim : Lib.trimB blankB.data.toList 0 = [] := by decide +kernel
theorem blank_240 : blankB.extract 0 240 = ⟨(encL 0 []).toArray⟩ := by
  apply ByteArray.ext
  decide +kernel
theorem blank_ne (i : Nat) : (⟨(secL i 0 []).toArray⟩ : ByteArray) ≠ blankB := by
  intro h
  have h2 : (secL i 0 []) = List.replicate 256 (0 : UInt8) := by
    have h3 := congrArg (fun b : ByteArray => b.data.toList) h
    exact h3
  have h4 : (secL i 0 [])[240]? = some 80 := by
    unfold secL
    rw [List.append_assoc, List.append_assoc, List.getElem?_append_right (by rw [encL_len okay0]; decide), encL_len okay0]
    rfl
  rw [h2] at h4
  revert h4
  decide +kernel
theorem secL_240 {i v : Nat} {l : List Slot} (h : Okay v l) : (⟨(secL i v l).toArray⟩ : ByteArray).extract 0 240 = ⟨(encL v l).toArray⟩ := by
  apply ByteArray.ext
  simp only [ByteArray.data_extract, List.extract_toArray]
  rw [List.extract_eq_take_drop, secL, List.append_assoc, List.append_assoc]
  simp only [List.drop_zero, Nat.sub_zero]
  rw [List.take_left' (encL_len h)]
section
variable {w : World} {L : List Atom} {p s : Nat} {pl : PlateM} {st : StoreM} {P : Int → ByteArray → Prop}
structure LoadOk (P : Int → ByteArray → Prop) (st : StoreM) (pl pl' : PlateM) (i : Nat) (o n ver : Ver) (tn : Bool) : Prop where
  vr : ver = o ∨ ver = n
  held : Held pl' P
  count : pl'.count = pl.count
  que : pl'.queue.length ≤ pl.queue.length + 1
  down : pl'.down = false
  life : pl'.life = pl.life
  armed : pl.armed ≤ 0 → pl'.armed ≤ 0
  live : ∀ m, pl'.live m = if ((st.at' + st.copies + i : Nat) : Int) = m then secOf i ver else pl.live m
  torn : tn = false → st.torn = false ∧ pl'.queue = pl.queue
  whole : (pl.live ((st.at' + st.copies + i : Nat) : Int)).size ≠ 0 → tn = st.torn ∧ pl' = pl
structure LoadNo (P : Int → ByteArray → Prop) (pl pl' : PlateM) : Prop where
  held : Held pl' P
  count : pl'.count = pl.count
  que : pl'.queue.length ≤ pl.queue.length + 1
  down : pl'.down = true
  armed : 0 < pl.armed
  zero : pl'.armed = 0
theorem load_c {i : Nat} {o n : Ver} (hH : Held pl P) (hR : RecI P st.at' st.copies i o n) (hi : i < 100000) (hd : pl.down = false) (ha : st.at' < 100000) (hc : st.copies < 100000) (hcnt : ((st.at' + st.copies + i : Nat) : Int) < pl.count) (hlen : pl.queue.length < 900000) (hpg : st.pages.length < 100000)
    (hS : Sat w (storeA s st :: plateA st.plate pl :: L)) :
    Calls Tryd.prog 20 #[.pointer (some ⟨s, 0, none⟩), .int .i64 (i : Nat)] w (Ret fun r w' =>
      (r = .tuple #[.bool true, .int .i64 0] ∧ ∃ ver pl' tn, LoadOk P st pl pl' i o n ver tn ∧ Sat w' (storeA s { st with pages := st.pages ++ [pageOf ver], torn := tn } :: plateA st.plate pl' :: L)) ∨
      (r = .tuple #[.bool false, .int .i64 10] ∧ ∃ pl', LoadNo P pl pl' ∧ Sat w' (storeA s st :: plateA st.plate pl' :: L))) := by
  have whole : ∀ ver : Ver, (ver = o ∨ ver = n) → VerOk ver → pl.live ((st.at' + st.copies + i : Nat) : Int) = secOf i ver → Calls Tryd.prog 20 #[.pointer (some ⟨s, 0, none⟩), .int .i64 (i : Nat)] w (Ret fun r w' =>
      (r = .tuple #[.bool true, .int .i64 0] ∧ ∃ ver pl' tn, LoadOk P st pl pl' i o n ver tn ∧ Sat w' (storeA s { st with pages := st.pages ++ [pageOf ver], torn := tn } :: plateA st.plate pl' :: L)) ∨
      (r = .tuple #[.bool false, .int .i64 10] ∧ ∃ pl', LoadNo P pl pl' ∧ Sat w' (storeA s st :: plateA st.plate pl' :: L))) := by
    intro ver hv hvo hl
    have hok : LoadOk P st pl pl i o n ver st.torn := ⟨hv, hH, rfl, by omega, hd, rfl, id, fun m => by
      by_cases h : ((st.at' + st.copies + i : Nat) : Int) = m
      · rw [if_pos h, ← h, hl]
      · rw [if_neg h], fun h => ⟨h, rfl⟩, fun _ => ⟨rfl, rfl⟩⟩
    cases ver with
    | none =>
      refine Ret.weak (load_blank hH hi hd ha hc hcnt hlen hpg hl (by simp only [secOf]; rw [blank_size]; decide) (by simp only [secOf]; rw [blank_size]; decide) blank_trim (fun w L hS => page_miss okay0 (by omega) blank_size blank_240 (blank_ne i) hS) hS) ?_
      rintro r w' ⟨rfl, hS'⟩
      exact .inl ⟨rfl, none, pl, st.torn, hok, hS'⟩
    | some x =>
      have hz : (⟨(secL i x.1 x.2).toArray⟩ : ByteArray).size = 256 := secL_len hvo.1
      refine Ret.weak (load_good hH hi hd ha hc hcnt hlen hpg hl (by simp only [secOf]; rw [hz]; decide) hvo.1 hz (secL_240 hvo.1) rfl hS) ?_
      rintro r w' ⟨rfl, hS'⟩
      exact .inl ⟨rfl, some x, pl, st.torn, hok, hS'⟩
  rcases hR.home _ (hH.live _) with h | h | ⟨hz, R, lx, rfl, h1, h2, ⟨k, hk, hsure⟩, hall⟩
  · exact whole o (.inl rfl) hR.ok1 h
  · exact whole n (.inr rfl) hR.ok2 h
  · refine Ret.weak (load_torn hH hi hd ha hc hcnt hlen hpg rfl hz hR.ok2.1 hR.ok2.2 h1 h2 (fun j hj => hall j hj _ (hH.live _)) ⟨k, hk, hsure _ (hH.live _)⟩ hS) ?_
    rintro r w' (⟨rfl, pl', ⟨a, b, c, d, e, f, g, _⟩, hS'⟩ | ⟨rfl, pl', ⟨a, b, c, d, e, f⟩, hS'⟩)
    · exact .inl ⟨rfl, some (R, lx), pl', true, ⟨.inr rfl, a, b, by omega, d, e, f, g, fun h => (by cases h), fun h => absurd hz h⟩, hS'⟩
    · exact .inr ⟨rfl, pl', ⟨a, b, by omega, d, e, f⟩, hS'⟩
/-- what holds while the store is opened, k pages being in -/
structure OpenInv (P : Int → ByteArray → Prop) (a c m : Nat) (o n : Nat → Ver) (pl pl' : PlateM) (k : Nat) (vs : List Ver) (tn : Bool) : Prop where
  len : vs.length = k
  km : k ≤ m
  vrs : ∀ j, j < k → (vs.getD j none = o j ∨ vs.getD j none = n j) ∧ pl'.live ((a + c + j : Nat) : Int) = secOf j (vs.getD j none)
  held : Held pl' P
  count : pl'.count = pl.count
  que : pl'.queue.length ≤ pl.queue.length + k
  down : pl'.down = false
  life : pl'.life = pl.life
  armed : pl.armed ≤ 0 → pl'.armed ≤ 0
  torn : tn = false → pl'.queue = pl.queue
  whole : (∀ j, j < m → (pl.live ((a + c + j : Nat) : Int)).size ≠ 0) → tn = false ∧ pl' = pl
theorem OpenInv.start {a c m : Nat} {o n : Nat → Ver} (hH : Held pl P) (hd : pl.down = false) : OpenInv P a c m o n pl pl 0 [] false :=
  ⟨rfl, Nat.zero_le _, fun j hj => by omega, hH, rfl, by omega, hd, rfl, id, fun _ => rfl, fun _ => ⟨rfl, rfl⟩⟩
theorem OpenInv.next {m k : Nat} {o n : Nat → Ver} {pl1 pl2 : PlateM} {vs : List Ver} {tn tn2 : Bool} {ver : Ver} (h : OpenInv P st.at' st.copies m o n pl pl1 k vs tn) (hk : k < m) (ht : st.torn = tn) (hl : LoadOk P st pl1 pl2 k (o k) (n k) ver tn2) :
    OpenInv P st.at' st.copies m o n pl pl2 (k + 1) (vs ++ [ver]) tn2 := by
  refine ⟨by simp [h.len], hk, fun j hj => ?_, hl.held, hl.count.trans h.count, by have := hl.que; have := h.que; omega, hl.down, hl.life.trans h.life, fun ha => hl.armed (h.armed ha), fun hf => ?_, fun hw => ?_⟩
  · by_cases hjk : j < k
    · have hg : (vs ++ [ver]).getD j none = vs.getD j none := by
        simp [List.getD_eq_getElem?_getD, List.getElem?_append_left (show j < vs.length by rw [h.len]; exact hjk)]
      rw [hg]
      obtain ⟨h1, h2⟩ := h.vrs j hjk
      refine ⟨h1, ?_⟩
      rw [hl.live, if_neg (by omega)]
      exact h2
    · obtain rfl : j = k := by omega
      have hg : (vs ++ [ver]).getD j none = ver := by
        simp [List.getD_eq_getElem?_getD, List.getElem?_append_right (show vs.length ≤ j by rw [h.len]; exact Nat.le_refl _), h.len]
      rw [hg]
      refine ⟨hl.vr, ?_⟩
      rw [hl.live, if_pos rfl]
  · obtain ⟨h1, h2⟩ := hl.torn hf
    rw [h2]
    exact h.torn (ht ▸ h1)
  · obtain ⟨e1, e2⟩ := h.whole hw
    obtain ⟨e3, e4⟩ := hl.whole (by rw [e2]; exact hw k hk)
    exact ⟨e3.trans (ht.trans e1), e4.trans e2⟩
theorem pure_c {f : FuncId} {args : Array Value} {X : Value} (h : Calls Tryd.prog f args w fun e w' => e = .returned X ∧ w = w') (hS : Sat w L) : Calls Tryd.prog f args w (Ret fun v w' => v = X ∧ Sat w' L) :=
  Ret.of_eq (h.mono fun e w' ⟨h1, h2⟩ => ⟨h1, h2 ▸ hS⟩)
end
end Sl
end Go.Proofs.YtkmlppeligdbaaaDoor

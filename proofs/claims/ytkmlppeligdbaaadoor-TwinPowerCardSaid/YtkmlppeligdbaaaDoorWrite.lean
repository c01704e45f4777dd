/- Writing pages, by the engine. Conditions: none. -/
import Derived.Test.YtkmlppeligdbaaaDoorLay
namespace Go.Proofs.YtkmlppeligdbaaaDoor
namespace Sl
open Go.RowKit SepW Pl Eg
set_option linter.unusedVariables false
set_option linter.unusedSimpArgs false
set_option linter.unusedSectionVars false
set_option maxRecDepth 100000
section
variable {w : World} {L : List Atom} {p s : Nat} {pl : PlateM} {st : StoreM} {P1 P2 : Int → ByteArray → Prop}
theorem good_c {A : Option Addr} {cap v : Nat} {l : List Slot} (h : Okay v l) (hS : Sat w L) (k : Nat) (hk : L[k]? = some (slA slotT (.slice A l.length cap) l)) :
    Calls Tryd.prog 39 #[.agg #[.int .i64 (v : Nat), .slice A l.length cap]] w (Ret fun r w' => r = .bool true ∧ Sat w' L) := by
  have h2 := good_ct (p := ⟨v, l⟩) (A := A) (cap := cap) (by have := h.len; show l.length ≤ _; omega) (fun x hx => by have := h.small x hx; omega) (Sat_at' hS k hk)
  rw [h.good] at h2
  exact Ret.of_eq (h2.mono fun e w' ⟨h1, h2⟩ => ⟨h1, hS.below_grow h2⟩)
theorem ready_c (hr : readyM pl st = 0) (hS : Sat w (storeA s st :: plateA st.plate pl :: L)) : Calls Tryd.prog 22 #[.pointer (some ⟨s, 0, none⟩)] w (Ret fun r w' => r = .int .i64 0 ∧ Sat w' (storeA s st :: plateA st.plate pl :: L)) := by
  have h := ready2_ct hS
  rw [hr] at h
  exact Ret.of_eq (h.mono fun e w' ⟨h1, q, h2⟩ => ⟨h1, by rw [h2]; exact drewN_sat q hS⟩)
/-- the numbers of the leaves so far -/
def SeenOk (l : List LeafM) (k : Nat) (m : List (Int × Bool)) : Prop := ∀ x : LeafM, (∀ (j : Nat) (y : LeafM), j < k → l[j]? = some y → y.1 ≠ x.1) → (aget m (x.1 : Int)).getD false = false
theorem SeenOk.next {l : List LeafM} {k : Nat} {m : List (Int × Bool)} {x : LeafM} (h : SeenOk l k m) (hx : l[k]? = some x) : SeenOk l (k + 1) (aset m (x.1 : Nat) true) := by
  intro y hy
  rw [aget_aset]
  have h1 := hy k x (by omega) hx
  rw [if_neg (by intro e; exact h1 (by omega))]
  exact h y fun j z hj hz => hy j z (by omega) hz
structure LeavesOk (l : List LeafM) (m c : Nat) : Prop where
  len : l.length ≤ c
  okay : ∀ (k : Nat) (x : LeafM), l[k]? = some x → Okay x.2.1 x.2.2 ∧ x.1 < m
  apart : ∀ (k j : Nat) (x y : LeafM), l[k]? = some x → j < k → l[j]? = some y → y.1 ≠ x.1
def setPages (pages : List Page) (l : List LeafM) (k : Nat) : List Page := (l.take k).foldl (fun p x => p.set x.1 ⟨x.2.1, x.2.2⟩) pages
theorem setPages_succ {pages : List Page} {l : List LeafM} {k : Nat} {x : LeafM} (hx : l[k]? = some x) : setPages pages l (k + 1) = (setPages pages l k).set x.1 ⟨x.2.1, x.2.2⟩ := by
  unfold setPages
  rw [List.take_add_one, hx]
  simp
theorem setPages_len {pages : List Page} {l : List LeafM} : ∀ {k : Nat}, (setPages pages l k).length = pages.length := by
  intro k
  unfold setPages
  have : ∀ (m : List LeafM) (p : List Page), (m.foldl (fun p x => p.set x.1 ⟨x.2.1, x.2.2⟩) p).length = p.length := by
    intro m
    induction m with
    | nil => intro p; rfl
    | cons a m ih => intro p; rw [List.foldl_cons, ih]; simp
  exact this _ _
set_option maxHeartbeats 1000000 in
theorem fits_c {cap : Nat} {A : Option Addr} {l : List LeafM} (hpg : st.pages.length < 100000) (hcp : st.copies < 100000) (hall : LeavesOk l st.pages.length st.copies) (hS : Sat w (slA leafT (.slice A l.length cap) l :: storeA s st :: L)) :
    Calls Tryd.prog 23 #[.pointer (some ⟨s, 0, none⟩), .slice A l.length cap] w (Ret fun v w' => v = .bool true ∧ Sat w' (slA leafT (.slice A l.length cap) l :: storeA s st :: L)) := by
  have hll := hall.len
  refine enter (vs := [.pointer (some ⟨s, 0, none⟩), .slice A l.length cap]) Tryd.func23 rfl Tryd.ntmps23 rfl ?_
  intro a1 hF2
  have hF3 : Fits a1 51 [(0, .pointer (some ⟨s, 0, none⟩)), (1, .slice A l.length cap)] := hF2
  clear hF2
  refine wp_seq ?_
  refine reg_text (l := [0]) (by kernel_rfl) ?_
  refine batch_spec (is := [0]) (rest := []) (live := [0, 1, 4]) (e' := [(0, .pointer (some ⟨s, 0, none⟩)), (1, .slice A l.length cap), (4, .bool false)]) (vs := []) (obs := []) hF3 (by kernel_rfl) .nil ?_
  intro a4 hF5
  clear hF3
  refine ops_done ?_
  refine nrm_then ?_
  refine wp_seq ?_
  refine reg_text (l := [0, 1]) (by kernel_rfl) ?_
  refine ops_next ?_
  obtain ⟨b6, w7, hr8, hS9⟩ := comes_map (P := Tryd.prog) hS (κ := Int) (β := Bool) intKey Value.bool (v := .makeMap 85 none) (u := fun b => .map (some b)) (fun w => by kernel_rfl)
  refine op_value (u := .map (some b6)) (e' := [(8, .map (some b6)), (0, .pointer (some ⟨s, 0, none⟩)), (1, .slice A l.length cap), (4, .bool false)]) hF5 (by kernel_rfl) hr8 ?_
  intro a10 hF11
  clear hF5 hr8
  clear hS
  refine batch_spec (is := [1]) (rest := []) (live := [0, 1, 4, 5]) (e' := [(0, .pointer (some ⟨s, 0, none⟩)), (1, .slice A l.length cap), (4, .bool false), (5, .map (some b6))]) (vs := []) (obs := []) hF11 (by kernel_rfl) .nil ?_
  intro a12 hF13
  clear hF11
  refine ops_done ?_
  refine nrm_then ?_
  refine wp_seq ?_
  refine wp_seq ?_
  refine reg_text (l := [0, 1, 2]) (by kernel_rfl) ?_
  refine batch_spec (is := [0, 1, 2]) (rest := []) (live := [0, 1, 4, 5, 9, 10, 11]) (e' := [(0, .pointer (some ⟨s, 0, none⟩)), (1, .slice A l.length cap), (4, .bool false), (5, .map (some b6)), (9, .slice A l.length cap), (10, .int .i64 (l.length : Nat)), (11, .int .i64 0)]) (vs := []) (obs := []) hF13 (by kernel_rfl) .nil ?_
  intro a14 hF15
  clear hF13
  refine ops_done ?_
  refine nrm_then ?_
  refine wp_block ?_
  refine loop_g (fun μ α ω => ∃ k : Nat, ∃ sm : List (Int × Bool), μ = l.length - k ∧ (k ≤ l.length) ∧ (SeenOk l k sm) ∧ Fits α 51 [(0, .pointer (some ⟨s, 0, none⟩)), (1, .slice A l.length cap), (4, .bool false), (5, .map (some b6)), (9, .slice A l.length cap), (10, .int .i64 (l.length : Nat)), (11, .int .i64 (k : Nat))] ∧ Sat ω (mapA intKey Value.bool b6 sm :: slA leafT (.slice A l.length cap) l :: storeA s st :: L)) _ ⟨0, [], rfl, (Nat.zero_le _), (fun _ _ => rfl), (Fits.restr (r := [(0, .pointer (some ⟨s, 0, none⟩)), (1, .slice A l.length cap), (4, .bool false), (5, .map (some b6)), (9, .slice A l.length cap), (10, .int .i64 (l.length : Nat)), (11, .int .i64 0)]) hF15 (ks := [0, 1, 4, 5, 9, 10, 11]) (by kernel_rfl)).cast (by rfl), (hS9)⟩ ?_
  rintro m16 a17 w18 ⟨k, sm, rfl, hkl, hM, hF19, hS20⟩
  clear hF15
  clear hS9
  refine wp_seq ?_
  refine reg_text (l := [0]) (by kernel_rfl) ?_
  refine batch_spec (is := [0]) (rest := []) (live := [0, 1, 4, 5, 9, 10, 11, 12]) (e' := [(0, .pointer (some ⟨s, 0, none⟩)), (1, .slice A l.length cap), (4, .bool false), (5, .map (some b6)), (9, .slice A l.length cap), (10, .int .i64 (l.length : Nat)), (11, .int .i64 (k : Nat)), (12, .bool (decide (((k : Nat) : Int) < ((l.length : Nat) : Int))))]) (vs := []) (obs := []) hF19 (by kernel_rfl) .nil ?_
  intro a21 hF22
  clear hF19
  refine ops_done ?_
  refine nrm_then ?_
  refine wp_seq ?_
  by_cases h23 : ((k : Nat) : Int) < ((l.length : Nat) : Int)
  ·
    have hb24 : (decide (((k : Nat) : Int) < ((l.length : Nat) : Int))) = true := decide_eq_true h23
    rw [hb24] at hF22
    refine cond_yes hF22 rfl ?_
    refine wp_skip ?_
    refine nrm_then ?_
    refine wp_seq ?_
    refine wp_block ?_
    refine wp_seq ?_
    refine reg_text (l := [0, 1, 2, 3]) (by kernel_rfl) ?_
    refine ops_next ?_
    obtain ⟨x25, hx26⟩ : ∃ χ, l[k]? = some χ := ⟨_, List.getElem?_eq_getElem (by omega)⟩
    obtain ⟨b27, off28, B31, cp32, heq29, hS30⟩ := leaf_el hS20 1 rfl hx26
    have hS33 : Sat w18 (immC b27 (off28 + k * 3) [.int .i64 (x25.1 : Nat), .int .i64 (x25.2.1 : Nat), .slice B31 x25.2.2.length cp32] :: slA slotT (.slice B31 x25.2.2.length cp32) x25.2.2 :: mapA intKey Value.bool b6 sm :: slA leafT (.slice A l.length cap) l :: storeA s st :: L) := hS30
    refine op_value (u := .pointer (some ⟨b27, off28 + k * 3, none⟩)) (v := .indexAddr 35 (.slice A l.length cap) (.int .i64 (k : Nat))) (e' := [(13, .pointer (some ⟨b27, off28 + k * 3, none⟩)), (0, .pointer (some ⟨s, 0, none⟩)), (1, .slice A l.length cap), (4, .bool false), (5, .map (some b6)), (9, .slice A l.length cap), (10, .int .i64 (l.length : Nat)), (11, .int .i64 (k : Nat)), (12, .bool true)]) hF22 (by kernel_rfl) (.value ((run_indexAddrA (el := 43) (sz := 3) (off := off28) (k := k) heq29 Tryd.underlying35 (by kernel_rfl) (by rfl) (by omega)) _)) ?_
    intro a34 hF35
    clear hF22
    refine batch_spec (is := [1]) (rest := [2, 3]) (live := [13, 0, 1, 4, 5, 9, 10, 11, 12, 14]) (e' := [(13, .pointer (some ⟨b27, off28 + k * 3, none⟩)), (0, .pointer (some ⟨s, 0, none⟩)), (1, .slice A l.length cap), (4, .bool false), (5, .map (some b6)), (9, .slice A l.length cap), (10, .int .i64 (l.length : Nat)), (11, .int .i64 (k : Nat)), (12, .bool true), (14, .agg #[.int .i64 (x25.1 : Nat), .int .i64 (x25.2.1 : Nat), .slice B31 x25.2.2.length cp32])]) (vs := [.int .i64 (x25.1 : Nat), .int .i64 (x25.2.1 : Nat), .slice B31 x25.2.2.length cp32]) (obs := [(⟨b27, off28 + k * 3, none⟩, .int .i64 (x25.1 : Nat)), (⟨b27, off28 + k * 3 + 1, none⟩, .int .i64 (x25.2.1 : Nat)), (⟨b27, off28 + k * 3 + 2, none⟩, .slice B31 x25.2.2.length cp32)]) hF35 (by kernel_rfl) (.cons (obC hS33 0 (off := off28 + k * 3) (j := 0) rfl rfl) (.cons (obC hS33 0 (off := off28 + k * 3) (j := 1) rfl rfl) (.cons (obC hS33 0 (off := off28 + k * 3) (j := 2) rfl rfl) .nil))) ?_
    intro a36 hF37
    clear hF35
    refine ops_next ?_
    obtain ⟨b38, w39, hr40, hS41⟩ := comes_new (P := Tryd.prog) (v := .alloc 43) (u := fun b => .pointer (some ⟨b, 0, none⟩)) (o := .cells #[.int .i64 0, .int .i64 0, .slice none 0 0] 43 (0, 0)) hS33 (fun w => by kernel_rfl)
    refine op_value (u := .pointer (some ⟨b38, 0, none⟩)) (e' := [(7, .pointer (some ⟨b38, 0, none⟩)), (13, .pointer (some ⟨b27, off28 + k * 3, none⟩)), (0, .pointer (some ⟨s, 0, none⟩)), (1, .slice A l.length cap), (4, .bool false), (5, .map (some b6)), (9, .slice A l.length cap), (10, .int .i64 (l.length : Nat)), (11, .int .i64 (k : Nat)), (12, .bool true), (14, .agg #[.int .i64 (x25.1 : Nat), .int .i64 (x25.2.1 : Nat), .slice B31 x25.2.2.length cp32])]) hF37 (by kernel_rfl) hr40 ?_
    intro a42 hF43
    clear hF37 hr40
    clear hS20 hS30 hS33
    refine ops_next ?_
    obtain ⟨w44, hr45, hS46⟩ := comes_store (P := Tryd.prog) (t' := 43) (b := b38) (j := 0) (x := .agg #[.int .i64 (x25.1 : Nat), .int .i64 (x25.2.1 : Nat), .slice B31 x25.2.2.length cp32]) (vs := [.int .i64 (x25.1 : Nat), .int .i64 (x25.2.1 : Nat), .slice B31 x25.2.2.length cp32]) (c' := #[.int .i64 (x25.1 : Nat), .int .i64 (x25.2.1 : Nat), .slice B31 x25.2.2.length cp32]) hS41 0 rfl rfl rfl (by kernel_rfl) rfl rfl rfl
    refine op_value (u := undef) (e' := [(7, .pointer (some ⟨b38, 0, none⟩)), (13, .pointer (some ⟨b27, off28 + k * 3, none⟩)), (0, .pointer (some ⟨s, 0, none⟩)), (1, .slice A l.length cap), (4, .bool false), (5, .map (some b6)), (9, .slice A l.length cap), (10, .int .i64 (l.length : Nat)), (11, .int .i64 (k : Nat)), (12, .bool true), (14, .agg #[.int .i64 (x25.1 : Nat), .int .i64 (x25.2.1 : Nat), .slice B31 x25.2.2.length cp32])]) hF43 (by kernel_rfl) hr45 ?_
    intro a47 hF48
    clear hF43 hr45
    clear hS41
    have hS49 : Sat w44 (raw b38 (.cells #[.int .i64 (x25.1 : Nat), .int .i64 (x25.2.1 : Nat), .slice B31 x25.2.2.length cp32] 43 (0, 0)) :: immC b27 (off28 + k * 3) [.int .i64 (x25.1 : Nat), .int .i64 (x25.2.1 : Nat), .slice B31 x25.2.2.length cp32] :: slA slotT (.slice B31 x25.2.2.length cp32) x25.2.2 :: mapA intKey Value.bool b6 sm :: slA leafT (.slice A l.length cap) l :: storeA s st :: L) := hS46
    refine ops_done ?_
    refine nrm_then ?_
    refine wp_seq ?_
    refine wp_seq ?_
    refine reg_drawn (fun j => match j with | 1 => [0] | 2 => [0, 1] | 3 => [0, 1, 2] | 4 => [0, 1, 2, 3] | 5 => [0, 1, 2, 3, 4] | 6 => [0, 1, 2, 3] | 7 => [0, 1, 2, 3, 6] | 8 => [0, 1, 2, 3, 6, 7] | 9 => [0, 1, 2, 3, 6, 7, 8] | 10 => [0, 1, 2, 3, 6, 7, 8, 9] | 11 => [0, 1, 2, 3, 4, 5, 6, 7, 8, 9, 10] | 12 => [0, 1, 2, 3, 4, 5, 6, 7, 8, 9, 10, 11] | 13 => [0, 1, 2, 3, 4, 5, 6, 7, 8, 9, 10, 11, 12] | 14 => [0, 1, 2, 3, 4, 5, 6, 7, 8, 9, 10, 11, 12, 13] | 15 => [0, 1, 2, 3, 4, 5, 6, 7, 8, 9, 10, 11, 12, 13] | 16 => [0, 1, 2, 3, 4, 5, 6, 7, 8, 9, 10, 11, 12, 13, 15] | 17 => [0, 1, 2, 3, 4, 5, 6, 7, 8, 9, 10, 11, 12, 13, 14, 15, 16] | 18 => [0, 1, 2, 3, 4, 5, 6, 7, 8, 9, 10, 11, 12, 13, 14, 15, 16, 17] | 19 => [0, 1, 2, 3, 4, 5, 6, 7, 8, 9, 10, 11, 12, 13, 14, 15, 16, 17, 18] | 20 => [0, 1, 2, 3, 4, 5, 6, 7, 8, 9, 10, 11, 12, 13, 14, 15, 16, 17, 18, 19] | 21 => [0, 1, 2, 3, 4, 5, 6, 7, 8, 9, 10, 11, 12, 13, 14, 15, 16, 17, 18, 19, 20] | 22 => [0, 1, 2, 3, 4, 5, 6, 7, 8, 9, 10, 11, 12, 13, 14, 15, 16, 17, 18, 19, 20, 21] | 23 => [0, 1, 2, 3, 4, 5, 6, 7, 8, 9, 10, 11, 12, 13, 14, 15, 16, 17, 18, 19, 20, 21, 22] | 24 => [0, 1, 2, 3, 4, 5, 6, 7, 8, 9, 10, 11, 12, 13, 14, 15, 16, 17, 18, 19, 20, 21, 22, 23] | _ => []) hS49 (by kernel_rfl) (by kernel_rfl) (by kernel_rfl) (fun c a d v w h => by cases d <;> exact h) ?_
    intro w50 hS51 hw52
    clear hS46 hS49
    refine batchD_spec (is := [0, 1, 2, 3]) (dn := []) (dn' := [0, 1, 2, 3]) (live := [7, 13, 0, 1, 4, 5, 9, 10, 11, 12, 14, 15, 16, 17, 18]) (e' := [(7, .pointer (some ⟨b38, 0, none⟩)), (13, .pointer (some ⟨b27, off28 + k * 3, none⟩)), (0, .pointer (some ⟨s, 0, none⟩)), (1, .slice A l.length cap), (4, .bool false), (5, .map (some b6)), (9, .slice A l.length cap), (10, .int .i64 (l.length : Nat)), (11, .int .i64 (k : Nat)), (12, .bool true), (14, .agg #[.int .i64 (x25.1 : Nat), .int .i64 (x25.2.1 : Nat), .slice B31 x25.2.2.length cp32]), (15, .pointer (some ⟨b38, 0, none⟩)), (16, .int .i64 (x25.1 : Nat)), (17, .bool (decide (((x25.1 : Nat) : Int) < 0))), (18, .bool (decide (((x25.1 : Nat) : Int) < 0)))]) (vs := [.int .i64 (x25.1 : Nat)]) (obs := [(⟨b38, 0, none⟩, .int .i64 (x25.1 : Nat))]) (pd' := [(1, [(⟨b38, 0, none⟩, .int .i64 (x25.1 : Nat))])]) hF48 (by kernel_rfl) (.cons (ob hS51 0 rfl rfl) .nil) rfl ?_
    intro a53 hF54
    clear hF48
    have hb55 : (decide (((x25.1 : Nat) : Int) < 0)) = false := decide_eq_false (by have := (hall.okay k _ hx26).2; omega)
    rw [hb55] at hF54
    obtain ⟨A56, c57, hS58⟩ := store_out (Sat_at hS51 5 rfl rfl)
    have hS59 : Sat w50 (raw s (.cells #[.pointer (some ⟨st.plate, 0, none⟩), .int .i64 (st.at' : Nat), .int .i64 (st.copies : Nat), .slice A56 st.pages.length c57, .int .i64 st.life, .bool st.torn] 59 (0, 0)) :: rowA pageT 41 A56 c57 st.pages :: raw b38 (.cells #[.int .i64 (x25.1 : Nat), .int .i64 (x25.2.1 : Nat), .slice B31 x25.2.2.length cp32] 43 (0, 0)) :: immC b27 (off28 + k * 3) [.int .i64 (x25.1 : Nat), .int .i64 (x25.2.1 : Nat), .slice B31 x25.2.2.length cp32] :: slA slotT (.slice B31 x25.2.2.length cp32) x25.2.2 :: mapA intKey Value.bool b6 sm :: slA leafT (.slice A l.length cap) l :: L) := hS58
    refine batchD_spec (is := [4, 5, 6, 7, 8, 9, 10, 11, 12, 13]) (dn := [0, 1, 2, 3]) (dn' := [0, 1, 2, 3, 4, 5, 6, 7, 8, 9, 10, 11, 12, 13]) (live := [7, 13, 0, 1, 4, 5, 9, 10, 11, 12, 14, 15, 16, 17, 18, 19, 20, 21, 22, 23, 24, 25, 26, 27, 28]) (e' := [(7, .pointer (some ⟨b38, 0, none⟩)), (13, .pointer (some ⟨b27, off28 + k * 3, none⟩)), (0, .pointer (some ⟨s, 0, none⟩)), (1, .slice A l.length cap), (4, .bool false), (5, .map (some b6)), (9, .slice A l.length cap), (10, .int .i64 (l.length : Nat)), (11, .int .i64 (k : Nat)), (12, .bool true), (14, .agg #[.int .i64 (x25.1 : Nat), .int .i64 (x25.2.1 : Nat), .slice B31 x25.2.2.length cp32]), (15, .pointer (some ⟨b38, 0, none⟩)), (16, .int .i64 (x25.1 : Nat)), (17, .bool false), (18, .bool false), (19, .pointer (some ⟨b38, 0, none⟩)), (20, .int .i64 (x25.1 : Nat)), (21, .pointer (some ⟨s, 0, none⟩)), (22, .pointer (some ⟨s, 0, none⟩)), (23, .pointer (some ⟨s, 3, none⟩)), (24, .slice A56 st.pages.length c57), (25, .int .i64 (st.pages.length : Nat)), (26, .bool (decide (((x25.1 : Nat) : Int) ≥ ((st.pages.length : Nat) : Int)))), (27, .bool (decide (((x25.1 : Nat) : Int) ≥ ((st.pages.length : Nat) : Int)))), (28, .bool (decide (((x25.1 : Nat) : Int) ≥ ((st.pages.length : Nat) : Int))))]) (vs := [.int .i64 (x25.1 : Nat), .slice A56 st.pages.length c57]) (obs := [(⟨b38, 0, none⟩, .int .i64 (x25.1 : Nat)), (⟨s, 3, none⟩, .slice A56 st.pages.length c57)]) (pd' := [(9, [(⟨s, 3, none⟩, .slice A56 st.pages.length c57)]), (5, [(⟨b38, 0, none⟩, .int .i64 (x25.1 : Nat))]), (1, [(⟨b38, 0, none⟩, .int .i64 (x25.1 : Nat))])]) hF54 (by kernel_rfl) (.cons (ob hS51 0 rfl rfl) (.cons (ob hS59 0 rfl rfl) .nil)) rfl ?_
    intro a60 hF61
    clear hF54
    have hb62 : (decide (((x25.1 : Nat) : Int) ≥ ((st.pages.length : Nat) : Int))) = false := decide_eq_false (by have := (hall.okay k _ hx26).2; omega)
    rw [hb62] at hF61
    refine batchD_spec (is := [14, 15, 16]) (dn := [0, 1, 2, 3, 4, 5, 6, 7, 8, 9, 10, 11, 12, 13]) (dn' := [0, 1, 2, 3, 4, 5, 6, 7, 8, 9, 10, 11, 12, 13, 14, 15, 16]) (live := [7, 13, 0, 1, 4, 5, 9, 10, 11, 12, 14, 15, 16, 17, 18, 19, 20, 21, 22, 23, 24, 25, 26, 27, 28, 29, 30, 31]) (e' := [(7, .pointer (some ⟨b38, 0, none⟩)), (13, .pointer (some ⟨b27, off28 + k * 3, none⟩)), (0, .pointer (some ⟨s, 0, none⟩)), (1, .slice A l.length cap), (4, .bool false), (5, .map (some b6)), (9, .slice A l.length cap), (10, .int .i64 (l.length : Nat)), (11, .int .i64 (k : Nat)), (12, .bool true), (14, .agg #[.int .i64 (x25.1 : Nat), .int .i64 (x25.2.1 : Nat), .slice B31 x25.2.2.length cp32]), (15, .pointer (some ⟨b38, 0, none⟩)), (16, .int .i64 (x25.1 : Nat)), (17, .bool false), (18, .bool false), (19, .pointer (some ⟨b38, 0, none⟩)), (20, .int .i64 (x25.1 : Nat)), (21, .pointer (some ⟨s, 0, none⟩)), (22, .pointer (some ⟨s, 0, none⟩)), (23, .pointer (some ⟨s, 3, none⟩)), (24, .slice A56 st.pages.length c57), (25, .int .i64 (st.pages.length : Nat)), (26, .bool false), (27, .bool false), (28, .bool false), (29, .map (some b6)), (30, .pointer (some ⟨b38, 0, none⟩)), (31, .int .i64 (x25.1 : Nat))]) (vs := [.int .i64 (x25.1 : Nat)]) (obs := [(⟨b38, 0, none⟩, .int .i64 (x25.1 : Nat))]) (pd' := [(16, [(⟨b38, 0, none⟩, .int .i64 (x25.1 : Nat))]), (9, [(⟨s, 3, none⟩, .slice A56 st.pages.length c57)]), (5, [(⟨b38, 0, none⟩, .int .i64 (x25.1 : Nat))]), (1, [(⟨b38, 0, none⟩, .int .i64 (x25.1 : Nat))])]) hF61 (by kernel_rfl) (.cons (ob hS59 2 rfl rfl) .nil) rfl ?_
    intro a63 hF64
    clear hF61
    refine wpD_next (i := 17) (pd' := []) (dn' := [0, 1, 2, 3, 4, 5, 6, 7, 8, 9, 10, 11, 12, 13, 14, 15, 16, 17]) (by kernel_rfl) rfl (by kernel_rfl) ?_
    refine op_value (u := .bool ((aget sm ((x25.1 : Nat) : Int)).getD false)) (e' := [(32, .bool ((aget sm ((x25.1 : Nat) : Int)).getD false)), (7, .pointer (some ⟨b38, 0, none⟩)), (13, .pointer (some ⟨b27, off28 + k * 3, none⟩)), (0, .pointer (some ⟨s, 0, none⟩)), (1, .slice A l.length cap), (4, .bool false), (5, .map (some b6)), (9, .slice A l.length cap), (10, .int .i64 (l.length : Nat)), (11, .int .i64 (k : Nat)), (12, .bool true), (14, .agg #[.int .i64 (x25.1 : Nat), .int .i64 (x25.2.1 : Nat), .slice B31 x25.2.2.length cp32]), (15, .pointer (some ⟨b38, 0, none⟩)), (16, .int .i64 (x25.1 : Nat)), (17, .bool false), (18, .bool false), (19, .pointer (some ⟨b38, 0, none⟩)), (20, .int .i64 (x25.1 : Nat)), (21, .pointer (some ⟨s, 0, none⟩)), (22, .pointer (some ⟨s, 0, none⟩)), (23, .pointer (some ⟨s, 3, none⟩)), (24, .slice A56 st.pages.length c57), (25, .int .i64 (st.pages.length : Nat)), (26, .bool false), (27, .bool false), (28, .bool false), (29, .map (some b6)), (30, .pointer (some ⟨b38, 0, none⟩)), (31, .int .i64 (x25.1 : Nat))]) hF64 (by kernel_rfl) (comes_look (P := Tryd.prog) (E := intKey) (ev := Value.bool) (z0 := false) hS59 5 rfl Tryd.underlying85 Tryd.underlying3 (fun w => by kernel_rfl) ((x25.1 : Nat) : Int)) ?_
    intro a65 hF66
    clear hF64
    refine ⟨.nil, ?_⟩
    refine batchD_spec (is := [18, 19]) (dn := [0, 1, 2, 3, 4, 5, 6, 7, 8, 9, 10, 11, 12, 13, 14, 15, 16, 17]) (dn' := [0, 1, 2, 3, 4, 5, 6, 7, 8, 9, 10, 11, 12, 13, 14, 15, 16, 17, 18, 19]) (live := [32, 7, 13, 0, 1, 4, 5, 9, 10, 11, 12, 14, 15, 16, 17, 18, 19, 20, 21, 22, 23, 24, 25, 26, 27, 28, 29, 30, 31, 33, 34]) (e' := [(32, .bool ((aget sm ((x25.1 : Nat) : Int)).getD false)), (7, .pointer (some ⟨b38, 0, none⟩)), (13, .pointer (some ⟨b27, off28 + k * 3, none⟩)), (0, .pointer (some ⟨s, 0, none⟩)), (1, .slice A l.length cap), (4, .bool false), (5, .map (some b6)), (9, .slice A l.length cap), (10, .int .i64 (l.length : Nat)), (11, .int .i64 (k : Nat)), (12, .bool true), (14, .agg #[.int .i64 (x25.1 : Nat), .int .i64 (x25.2.1 : Nat), .slice B31 x25.2.2.length cp32]), (15, .pointer (some ⟨b38, 0, none⟩)), (16, .int .i64 (x25.1 : Nat)), (17, .bool false), (18, .bool false), (19, .pointer (some ⟨b38, 0, none⟩)), (20, .int .i64 (x25.1 : Nat)), (21, .pointer (some ⟨s, 0, none⟩)), (22, .pointer (some ⟨s, 0, none⟩)), (23, .pointer (some ⟨s, 3, none⟩)), (24, .slice A56 st.pages.length c57), (25, .int .i64 (st.pages.length : Nat)), (26, .bool false), (27, .bool false), (28, .bool false), (29, .map (some b6)), (30, .pointer (some ⟨b38, 0, none⟩)), (31, .int .i64 (x25.1 : Nat)), (33, .bool ((aget sm ((x25.1 : Nat) : Int)).getD false)), (34, .bool ((aget sm ((x25.1 : Nat) : Int)).getD false))]) (vs := []) (obs := []) (pd' := []) hF66 (by kernel_rfl) .nil rfl ?_
    intro a67 hF68
    clear hF66
    have hb69 : ((aget sm ((x25.1 : Nat) : Int)).getD false) = false := hM _ (fun j y hj hy => hall.apart k j _ y hx26 hj hy)
    rw [hb69] at hF68
    refine batchD_spec (is := [20, 21]) (dn := [0, 1, 2, 3, 4, 5, 6, 7, 8, 9, 10, 11, 12, 13, 14, 15, 16, 17, 18, 19]) (dn' := [0, 1, 2, 3, 4, 5, 6, 7, 8, 9, 10, 11, 12, 13, 14, 15, 16, 17, 18, 19, 20, 21]) (live := [32, 7, 13, 0, 1, 4, 5, 9, 10, 11, 12, 14, 15, 16, 17, 18, 19, 20, 21, 22, 23, 24, 25, 26, 27, 28, 29, 30, 31, 33, 34, 35, 36]) (e' := [(32, .bool false), (7, .pointer (some ⟨b38, 0, none⟩)), (13, .pointer (some ⟨b27, off28 + k * 3, none⟩)), (0, .pointer (some ⟨s, 0, none⟩)), (1, .slice A l.length cap), (4, .bool false), (5, .map (some b6)), (9, .slice A l.length cap), (10, .int .i64 (l.length : Nat)), (11, .int .i64 (k : Nat)), (12, .bool true), (14, .agg #[.int .i64 (x25.1 : Nat), .int .i64 (x25.2.1 : Nat), .slice B31 x25.2.2.length cp32]), (15, .pointer (some ⟨b38, 0, none⟩)), (16, .int .i64 (x25.1 : Nat)), (17, .bool false), (18, .bool false), (19, .pointer (some ⟨b38, 0, none⟩)), (20, .int .i64 (x25.1 : Nat)), (21, .pointer (some ⟨s, 0, none⟩)), (22, .pointer (some ⟨s, 0, none⟩)), (23, .pointer (some ⟨s, 3, none⟩)), (24, .slice A56 st.pages.length c57), (25, .int .i64 (st.pages.length : Nat)), (26, .bool false), (27, .bool false), (28, .bool false), (29, .map (some b6)), (30, .pointer (some ⟨b38, 0, none⟩)), (31, .int .i64 (x25.1 : Nat)), (33, .bool false), (34, .bool false), (35, .pointer (some ⟨b38, 1, none⟩)), (36, .agg #[.int .i64 (x25.2.1 : Nat), .slice B31 x25.2.2.length cp32])]) (vs := [.int .i64 (x25.2.1 : Nat), .slice B31 x25.2.2.length cp32]) (obs := [(⟨b38, 1, none⟩, .int .i64 (x25.2.1 : Nat)), (⟨b38, 2, none⟩, .slice B31 x25.2.2.length cp32)]) (pd' := [(21, [(⟨b38, 1, none⟩, .int .i64 (x25.2.1 : Nat)), (⟨b38, 2, none⟩, .slice B31 x25.2.2.length cp32)])]) hF68 (by kernel_rfl) (.cons (ob hS59 2 rfl rfl) (.cons (ob hS59 2 rfl rfl) .nil)) rfl ?_
    intro a70 hF71
    clear hF68
    refine wpD_next (i := 22) (pd' := []) (dn' := [0, 1, 2, 3, 4, 5, 6, 7, 8, 9, 10, 11, 12, 13, 14, 15, 16, 17, 18, 19, 20, 21, 22]) (by kernel_rfl) rfl (by kernel_rfl) ?_
    refine op_call (fn := 39) (first := #[]) (cap := #[]) (args := #[.agg #[.int .i64 (x25.2.1 : Nat), .slice B31 x25.2.2.length cp32]]) (all := #[.agg #[.int .i64 (x25.2.1 : Nat), .slice B31 x25.2.2.length cp32]]) (pe := fun u => [(37, u), (32, .bool false), (7, .pointer (some ⟨b38, 0, none⟩)), (13, .pointer (some ⟨b27, off28 + k * 3, none⟩)), (0, .pointer (some ⟨s, 0, none⟩)), (1, .slice A l.length cap), (4, .bool false), (5, .map (some b6)), (9, .slice A l.length cap), (10, .int .i64 (l.length : Nat)), (11, .int .i64 (k : Nat)), (12, .bool true), (14, .agg #[.int .i64 (x25.1 : Nat), .int .i64 (x25.2.1 : Nat), .slice B31 x25.2.2.length cp32]), (15, .pointer (some ⟨b38, 0, none⟩)), (16, .int .i64 (x25.1 : Nat)), (17, .bool false), (18, .bool false), (19, .pointer (some ⟨b38, 0, none⟩)), (20, .int .i64 (x25.1 : Nat)), (21, .pointer (some ⟨s, 0, none⟩)), (22, .pointer (some ⟨s, 0, none⟩)), (23, .pointer (some ⟨s, 3, none⟩)), (24, .slice A56 st.pages.length c57), (25, .int .i64 (st.pages.length : Nat)), (26, .bool false), (27, .bool false), (28, .bool false), (29, .map (some b6)), (30, .pointer (some ⟨b38, 0, none⟩)), (31, .int .i64 (x25.1 : Nat)), (33, .bool false), (34, .bool false), (35, .pointer (some ⟨b38, 1, none⟩)), (36, .agg #[.int .i64 (x25.2.1 : Nat), .slice B31 x25.2.2.length cp32])]) hF71 (fun u => by kernel_rfl) (by kernel_rfl) (by kernel_rfl) (good_c (hall.okay k _ hx26).1 hS59 4 rfl) ?_
    rintro u w74 a72 ⟨rfl, hS75⟩ hF73
    clear hF71
    clear hS51 hS58 hS59
    have hS76 : Sat w74 (raw s (.cells #[.pointer (some ⟨st.plate, 0, none⟩), .int .i64 (st.at' : Nat), .int .i64 (st.copies : Nat), .slice A56 st.pages.length c57, .int .i64 st.life, .bool st.torn] 59 (0, 0)) :: rowA pageT 41 A56 c57 st.pages :: raw b38 (.cells #[.int .i64 (x25.1 : Nat), .int .i64 (x25.2.1 : Nat), .slice B31 x25.2.2.length cp32] 43 (0, 0)) :: immC b27 (off28 + k * 3) [.int .i64 (x25.1 : Nat), .int .i64 (x25.2.1 : Nat), .slice B31 x25.2.2.length cp32] :: slA slotT (.slice B31 x25.2.2.length cp32) x25.2.2 :: mapA intKey Value.bool b6 sm :: slA leafT (.slice A l.length cap) l :: L) := hS75
    refine ⟨.nil, ?_⟩
    refine batchD_spec (is := [23, 24]) (dn := [0, 1, 2, 3, 4, 5, 6, 7, 8, 9, 10, 11, 12, 13, 14, 15, 16, 17, 18, 19, 20, 21, 22]) (dn' := [0, 1, 2, 3, 4, 5, 6, 7, 8, 9, 10, 11, 12, 13, 14, 15, 16, 17, 18, 19, 20, 21, 22, 23, 24]) (live := [37, 32, 7, 13, 0, 1, 4, 5, 9, 10, 11, 12, 14, 15, 16, 17, 18, 19, 20, 21, 22, 23, 24, 25, 26, 27, 28, 29, 30, 31, 33, 34, 35, 36, 38, 39]) (e' := [(37, .bool true), (32, .bool false), (7, .pointer (some ⟨b38, 0, none⟩)), (13, .pointer (some ⟨b27, off28 + k * 3, none⟩)), (0, .pointer (some ⟨s, 0, none⟩)), (1, .slice A l.length cap), (4, .bool false), (5, .map (some b6)), (9, .slice A l.length cap), (10, .int .i64 (l.length : Nat)), (11, .int .i64 (k : Nat)), (12, .bool true), (14, .agg #[.int .i64 (x25.1 : Nat), .int .i64 (x25.2.1 : Nat), .slice B31 x25.2.2.length cp32]), (15, .pointer (some ⟨b38, 0, none⟩)), (16, .int .i64 (x25.1 : Nat)), (17, .bool false), (18, .bool false), (19, .pointer (some ⟨b38, 0, none⟩)), (20, .int .i64 (x25.1 : Nat)), (21, .pointer (some ⟨s, 0, none⟩)), (22, .pointer (some ⟨s, 0, none⟩)), (23, .pointer (some ⟨s, 3, none⟩)), (24, .slice A56 st.pages.length c57), (25, .int .i64 (st.pages.length : Nat)), (26, .bool false), (27, .bool false), (28, .bool false), (29, .map (some b6)), (30, .pointer (some ⟨b38, 0, none⟩)), (31, .int .i64 (x25.1 : Nat)), (33, .bool false), (34, .bool false), (35, .pointer (some ⟨b38, 1, none⟩)), (36, .agg #[.int .i64 (x25.2.1 : Nat), .slice B31 x25.2.2.length cp32]), (38, .bool false), (39, .bool false)]) (vs := []) (obs := []) (pd' := []) hF73 (by kernel_rfl) .nil rfl ?_
    intro a77 hF78
    clear hF73
    refine wpD_done (by kernel_rfl) ?_
    refine nrm_then ?_
    refine cond_no hF78 rfl ?_
    refine wp_skip ?_
    refine nrm_then ?_
    refine reg_text (l := [0, 1, 2, 3]) (by kernel_rfl) ?_
    refine batch_spec (is := [0, 1, 2]) (rest := [3]) (live := [37, 32, 7, 13, 0, 1, 4, 5, 9, 10, 11, 12, 14, 15, 16, 17, 18, 19, 20, 21, 22, 23, 24, 25, 26, 27, 28, 29, 30, 31, 33, 34, 35, 36, 38, 39, 40, 41, 42]) (e' := [(37, .bool true), (32, .bool false), (7, .pointer (some ⟨b38, 0, none⟩)), (13, .pointer (some ⟨b27, off28 + k * 3, none⟩)), (0, .pointer (some ⟨s, 0, none⟩)), (1, .slice A l.length cap), (4, .bool false), (5, .map (some b6)), (9, .slice A l.length cap), (10, .int .i64 (l.length : Nat)), (11, .int .i64 (k : Nat)), (12, .bool true), (14, .agg #[.int .i64 (x25.1 : Nat), .int .i64 (x25.2.1 : Nat), .slice B31 x25.2.2.length cp32]), (15, .pointer (some ⟨b38, 0, none⟩)), (16, .int .i64 (x25.1 : Nat)), (17, .bool false), (18, .bool false), (19, .pointer (some ⟨b38, 0, none⟩)), (20, .int .i64 (x25.1 : Nat)), (21, .pointer (some ⟨s, 0, none⟩)), (22, .pointer (some ⟨s, 0, none⟩)), (23, .pointer (some ⟨s, 3, none⟩)), (24, .slice A56 st.pages.length c57), (25, .int .i64 (st.pages.length : Nat)), (26, .bool false), (27, .bool false), (28, .bool false), (29, .map (some b6)), (30, .pointer (some ⟨b38, 0, none⟩)), (31, .int .i64 (x25.1 : Nat)), (33, .bool false), (34, .bool false), (35, .pointer (some ⟨b38, 1, none⟩)), (36, .agg #[.int .i64 (x25.2.1 : Nat), .slice B31 x25.2.2.length cp32]), (38, .bool false), (39, .bool false), (40, .map (some b6)), (41, .pointer (some ⟨b38, 0, none⟩)), (42, .int .i64 (x25.1 : Nat))]) (vs := [.int .i64 (x25.1 : Nat)]) (obs := [(⟨b38, 0, none⟩, .int .i64 (x25.1 : Nat))]) hF78 (by kernel_rfl) (.cons (ob hS76 2 rfl rfl) .nil) ?_
    intro a79 hF80
    clear hF78
    refine ops_next ?_
    obtain ⟨w81, hr82, hS83⟩ := comes_update (P := Tryd.prog) (E := intKey) (ev := Value.bool) hS76 5 rfl rfl Tryd.underlying85 Tryd.underlying3 ((x25.1 : Nat) : Int) true
    refine op_value (u := undef) (e' := [(37, .bool true), (32, .bool false), (7, .pointer (some ⟨b38, 0, none⟩)), (13, .pointer (some ⟨b27, off28 + k * 3, none⟩)), (0, .pointer (some ⟨s, 0, none⟩)), (1, .slice A l.length cap), (4, .bool false), (5, .map (some b6)), (9, .slice A l.length cap), (10, .int .i64 (l.length : Nat)), (11, .int .i64 (k : Nat)), (12, .bool true), (14, .agg #[.int .i64 (x25.1 : Nat), .int .i64 (x25.2.1 : Nat), .slice B31 x25.2.2.length cp32]), (15, .pointer (some ⟨b38, 0, none⟩)), (16, .int .i64 (x25.1 : Nat)), (17, .bool false), (18, .bool false), (19, .pointer (some ⟨b38, 0, none⟩)), (20, .int .i64 (x25.1 : Nat)), (21, .pointer (some ⟨s, 0, none⟩)), (22, .pointer (some ⟨s, 0, none⟩)), (23, .pointer (some ⟨s, 3, none⟩)), (24, .slice A56 st.pages.length c57), (25, .int .i64 (st.pages.length : Nat)), (26, .bool false), (27, .bool false), (28, .bool false), (29, .map (some b6)), (30, .pointer (some ⟨b38, 0, none⟩)), (31, .int .i64 (x25.1 : Nat)), (33, .bool false), (34, .bool false), (35, .pointer (some ⟨b38, 1, none⟩)), (36, .agg #[.int .i64 (x25.2.1 : Nat), .slice B31 x25.2.2.length cp32]), (38, .bool false), (39, .bool false), (40, .map (some b6)), (41, .pointer (some ⟨b38, 0, none⟩)), (42, .int .i64 (x25.1 : Nat))]) hF80 (by kernel_rfl) hr82 ?_
    intro a84 hF85
    clear hF80 hr82
    clear hS75 hS76
    have hS86 : Sat w81 (mapA intKey Value.bool b6 (aset sm ((x25.1 : Nat) : Int) true) :: raw s (.cells #[.pointer (some ⟨st.plate, 0, none⟩), .int .i64 (st.at' : Nat), .int .i64 (st.copies : Nat), .slice A56 st.pages.length c57, .int .i64 st.life, .bool st.torn] 59 (0, 0)) :: rowA pageT 41 A56 c57 st.pages :: raw b38 (.cells #[.int .i64 (x25.1 : Nat), .int .i64 (x25.2.1 : Nat), .slice B31 x25.2.2.length cp32] 43 (0, 0)) :: immC b27 (off28 + k * 3) [.int .i64 (x25.1 : Nat), .int .i64 (x25.2.1 : Nat), .slice B31 x25.2.2.length cp32] :: slA slotT (.slice B31 x25.2.2.length cp32) x25.2.2 :: slA leafT (.slice A l.length cap) l :: L) := hS83
    refine ops_done ?_
    refine nrm_block ?_
    refine nrm_then ?_
    refine reg_text (l := [0, 1]) (by kernel_rfl) ?_
    refine batch_spec (is := [0]) (rest := [1]) (live := [37, 32, 7, 13, 0, 1, 4, 5, 9, 10, 11, 12, 14, 15, 16, 17, 18, 19, 20, 21, 22, 23, 24, 25, 26, 27, 28, 29, 30, 31, 33, 34, 35, 36, 38, 39, 40, 41, 42, 43]) (e' := [(37, .bool true), (32, .bool false), (7, .pointer (some ⟨b38, 0, none⟩)), (13, .pointer (some ⟨b27, off28 + k * 3, none⟩)), (0, .pointer (some ⟨s, 0, none⟩)), (1, .slice A l.length cap), (4, .bool false), (5, .map (some b6)), (9, .slice A l.length cap), (10, .int .i64 (l.length : Nat)), (11, .int .i64 (k : Nat)), (12, .bool true), (14, .agg #[.int .i64 (x25.1 : Nat), .int .i64 (x25.2.1 : Nat), .slice B31 x25.2.2.length cp32]), (15, .pointer (some ⟨b38, 0, none⟩)), (16, .int .i64 (x25.1 : Nat)), (17, .bool false), (18, .bool false), (19, .pointer (some ⟨b38, 0, none⟩)), (20, .int .i64 (x25.1 : Nat)), (21, .pointer (some ⟨s, 0, none⟩)), (22, .pointer (some ⟨s, 0, none⟩)), (23, .pointer (some ⟨s, 3, none⟩)), (24, .slice A56 st.pages.length c57), (25, .int .i64 (st.pages.length : Nat)), (26, .bool false), (27, .bool false), (28, .bool false), (29, .map (some b6)), (30, .pointer (some ⟨b38, 0, none⟩)), (31, .int .i64 (x25.1 : Nat)), (33, .bool false), (34, .bool false), (35, .pointer (some ⟨b38, 1, none⟩)), (36, .agg #[.int .i64 (x25.2.1 : Nat), .slice B31 x25.2.2.length cp32]), (38, .bool false), (39, .bool false), (40, .map (some b6)), (41, .pointer (some ⟨b38, 0, none⟩)), (42, .int .i64 (x25.1 : Nat)), (43, .int .i64 (IntKind.i64.wrap (((k : Nat) : Int) + 1)))]) (vs := []) (obs := []) hF85 (by kernel_rfl) .nil ?_
    intro a87 hF88
    clear hF85
    have hw89 : IntKind.i64.wrap (((k : Nat) : Int) + 1) = ((k + 1 : Nat) : Int) := by rw [wrap_i64 (by omega) (by omega)]; omega
    rw [hw89] at hF88
    refine batch_spec (is := [1]) (rest := []) (live := [37, 32, 7, 13, 0, 1, 4, 5, 9, 10, 11, 12, 14, 15, 16, 17, 18, 19, 20, 21, 22, 23, 24, 25, 26, 27, 28, 29, 30, 31, 33, 34, 35, 36, 38, 39, 40, 41, 42, 43]) (e' := [(37, .bool true), (32, .bool false), (7, .pointer (some ⟨b38, 0, none⟩)), (13, .pointer (some ⟨b27, off28 + k * 3, none⟩)), (0, .pointer (some ⟨s, 0, none⟩)), (1, .slice A l.length cap), (4, .bool false), (5, .map (some b6)), (9, .slice A l.length cap), (10, .int .i64 (l.length : Nat)), (11, .int .i64 (k + 1 : Nat)), (12, .bool true), (14, .agg #[.int .i64 (x25.1 : Nat), .int .i64 (x25.2.1 : Nat), .slice B31 x25.2.2.length cp32]), (15, .pointer (some ⟨b38, 0, none⟩)), (16, .int .i64 (x25.1 : Nat)), (17, .bool false), (18, .bool false), (19, .pointer (some ⟨b38, 0, none⟩)), (20, .int .i64 (x25.1 : Nat)), (21, .pointer (some ⟨s, 0, none⟩)), (22, .pointer (some ⟨s, 0, none⟩)), (23, .pointer (some ⟨s, 3, none⟩)), (24, .slice A56 st.pages.length c57), (25, .int .i64 (st.pages.length : Nat)), (26, .bool false), (27, .bool false), (28, .bool false), (29, .map (some b6)), (30, .pointer (some ⟨b38, 0, none⟩)), (31, .int .i64 (x25.1 : Nat)), (33, .bool false), (34, .bool false), (35, .pointer (some ⟨b38, 1, none⟩)), (36, .agg #[.int .i64 (x25.2.1 : Nat), .slice B31 x25.2.2.length cp32]), (38, .bool false), (39, .bool false), (40, .map (some b6)), (41, .pointer (some ⟨b38, 0, none⟩)), (42, .int .i64 (x25.1 : Nat)), (43, .int .i64 (k + 1 : Nat))]) (vs := []) (obs := []) hF88 (by kernel_rfl) .nil ?_
    intro a90 hF91
    clear hF88
    refine ops_done ?_
    have hS92 : Sat w81 (storeA s st :: mapA intKey Value.bool b6 (aset sm ((x25.1 : Nat) : Int) true) :: raw b38 (.cells #[.int .i64 (x25.1 : Nat), .int .i64 (x25.2.1 : Nat), .slice B31 x25.2.2.length cp32] 43 (0, 0)) :: immC b27 (off28 + k * 3) [.int .i64 (x25.1 : Nat), .int .i64 (x25.2.1 : Nat), .slice B31 x25.2.2.length cp32] :: slA slotT (.slice B31 x25.2.2.length cp32) x25.2.2 :: slA leafT (.slice A l.length cap) l :: L) := store_in' (st := st) (by simp) (Sat_at (Sat_at hS86 2 rfl rfl) 2 rfl rfl)
    have hS93 : Sat w81 (mapA intKey Value.bool b6 (aset sm ((x25.1 : Nat) : Int) true) :: slA leafT (.slice A l.length cap) l :: storeA s st :: raw b38 (.cells #[.int .i64 (x25.1 : Nat), .int .i64 (x25.2.1 : Nat), .slice B31 x25.2.2.length cp32] 43 (0, 0)) :: immC b27 (off28 + k * 3) [.int .i64 (x25.1 : Nat), .int .i64 (x25.2.1 : Nat), .slice B31 x25.2.2.length cp32] :: slA slotT (.slice B31 x25.2.2.length cp32) x25.2.2 :: L) := (Sat_at (Sat_at (Sat_at hS92 0 rfl rfl) 5 rfl rfl) 2 rfl rfl)
    refine nrm_then ⟨_, ?_, k + 1, aset sm ((x25.1 : Nat) : Int) true, rfl, (by omega), hM.next hx26, (Fits.restr (r := [(0, .pointer (some ⟨s, 0, none⟩)), (1, .slice A l.length cap), (4, .bool false), (5, .map (some b6)), (9, .slice A l.length cap), (10, .int .i64 (l.length : Nat)), (11, .int .i64 (k + 1 : Nat))]) hF91 (ks := [0, 1, 4, 5, 9, 10, 11]) (by kernel_rfl)).cast (by rfl), (Sat_at (Sat_at (Sat_at hS93 5 rfl rfl).drop 4 rfl rfl).drop 3 rfl rfl).drop⟩
    omega
  ·
    have hb94 : (decide (((k : Nat) : Int) < ((l.length : Nat) : Int))) = false := decide_eq_false h23
    rw [hb94] at hF22
    refine cond_no hF22 rfl ?_
    refine wp_exit ?_
    refine exit_then ?_
    refine exit_then ?_
    refine exit_block ?_
    refine nrm_then ?_
    refine wp_seq ?_
    refine reg_text (l := [0, 1, 2, 3, 4, 5, 6, 7]) (by kernel_rfl) ?_
    obtain ⟨A95, c96, hS97⟩ := store_out (Sat_at hS20 2 rfl rfl)
    have hS98 : Sat w18 (raw s (.cells #[.pointer (some ⟨st.plate, 0, none⟩), .int .i64 (st.at' : Nat), .int .i64 (st.copies : Nat), .slice A95 st.pages.length c96, .int .i64 st.life, .bool st.torn] 59 (0, 0)) :: rowA pageT 41 A95 c96 st.pages :: mapA intKey Value.bool b6 sm :: slA leafT (.slice A l.length cap) l :: L) := hS97
    refine batch_spec (is := [0, 1, 2, 3, 4, 5, 6, 7]) (rest := []) (live := [4]) (e' := [(4, .bool (decide (((l.length : Nat) : Int) ≤ ((st.copies : Nat) : Int))))]) (vs := [.int .i64 (st.copies : Nat)]) (obs := [(⟨s, 2, none⟩, .int .i64 (st.copies : Nat))]) hF22 (by kernel_rfl) (.cons (ob hS98 0 rfl rfl) .nil) ?_
    intro a99 hF100
    clear hF22
    refine ops_done ?_
    refine nrm_then ?_
    refine wp_ret ?_
    have hb101 : (decide (((l.length : Nat) : Int) ≤ ((st.copies : Nat) : Int))) = true := decide_eq_true (by have := hall.len; omega)
    rw [hb101] at hF100
    refine finish (v := .bool true) (vs := []) (obs := []) hF100 (by kernel_rfl) .nil ?_
    have hS102 : Sat w18 (storeA s st :: mapA intKey Value.bool b6 sm :: slA leafT (.slice A l.length cap) l :: L) := store_in' (st := st) (by simp) (Sat_at (Sat_at hS98 1 rfl rfl) 1 rfl rfl)
    have hS103 : Sat w18 (slA leafT (.slice A l.length cap) l :: storeA s st :: mapA intKey Value.bool b6 sm :: L) := (Sat_at (Sat_at hS102 0 rfl rfl) 2 rfl rfl)
    exact ⟨rfl, (Sat_at hS103 2 rfl rfl).drop⟩
set_option maxHeartbeats 4000000 in
theorem writeAll_c {cap : Nat} {A : Option Addr} {l : List LeafM} {ws1 ws2 : List (Int × ByteArray)} (hr : readyM pl st = 0) (hH : Held pl P1) (hd : pl.down = false) (hq0 : pl.queue = []) (ha : st.at' < 100000) (hc : st.copies < 100000) (hc0 : 0 < pl.count) (hpg : st.pages.length < 100000) (hl : l.length ≤ 100) (hl1 : 1 ≤ l.length) (hall : LeavesOk l st.pages.length st.copies)
    (hwl1 : ws1.length = l.length) (hwl2 : ws2.length = l.length) (h1ws : ∀ (k : Nat) (x : LeafM), l[k]? = some x → ws1[k]? = some (((st.at' + k : Nat) : Int), LeafM.sec x) ∧ P1 ((st.at' + k : Nat) : Int) (LeafM.sec x) ∧ P1 ((st.at' + k : Nat) : Int) tornB ∧ ((st.at' + k : Nat) : Int) < pl.count ∧ Okay x.2.1 x.2.2 ∧ x.1 < 100000)
    (hP2 : ∀ pl1, LayOk P1 pl pl1 ws1 → Held pl1 P2) (h2ws : ∀ (k : Nat) (x : LeafM), l[k]? = some x → ws2[k]? = some (((st.at' + st.copies + x.1 : Nat) : Int), LeafM.sec x) ∧ P2 ((st.at' + st.copies + x.1 : Nat) : Int) (LeafM.sec x) ∧ P2 ((st.at' + st.copies + x.1 : Nat) : Int) tornB ∧ ((st.at' + st.copies + x.1 : Nat) : Int) < pl.count ∧ Okay x.2.1 x.2.2 ∧ x.1 < 100000) (hS : Sat w (slA leafT (.slice A l.length cap) l :: storeA s st :: plateA st.plate pl :: L)) :
    Calls Tryd.prog 9 #[.pointer (some ⟨s, 0, none⟩), .slice A l.length cap] w (Ret fun r w' => (r = .int .i64 0 ∧ ∃ pl1 pl2, LayOk P1 pl pl1 ws1 ∧ LayOk P2 pl1 pl2 ws2 ∧ Sat w' (storeA s ⟨st.plate, st.at', st.copies, setPages st.pages l l.length, st.life, false⟩ :: plateA st.plate pl2 :: L)) ∨ (r = .int .i64 10 ∧ ∃ pl', (LayNo P1 pl pl' ∨ ∃ pl1, LayOk P1 pl pl1 ws1 ∧ LayNo P2 pl1 pl') ∧ Sat w' (plateA st.plate pl' :: L))) := by
  have hll := hall.len
  refine enter (vs := [.pointer (some ⟨s, 0, none⟩), .slice A l.length cap]) Tryd.func9 rfl Tryd.ntmps9 rfl ?_
  intro a1 hF2
  have hF3 : Fits a1 61 [(0, .pointer (some ⟨s, 0, none⟩)), (1, .slice A l.length cap)] := hF2
  clear hF2
  refine wp_seq ?_
  refine reg_text (l := [0, 1, 2]) (by kernel_rfl) ?_
  refine ops_next ?_
  obtain ⟨b4, w5, hr6, hS7⟩ := comes_new (P := Tryd.prog) (v := .box 28 (.pointer (some ⟨s, 0, none⟩))) (u := fun b => .pointer (some ⟨b, 0, none⟩)) (o := .cells #[.pointer (some ⟨s, 0, none⟩)] 28 (0, 0)) hS (fun w => by kernel_rfl)
  refine op_value (u := .pointer (some ⟨b4, 0, none⟩)) (e' := [(2, .pointer (some ⟨b4, 0, none⟩)), (0, .pointer (some ⟨s, 0, none⟩)), (1, .slice A l.length cap)]) hF3 (by kernel_rfl) hr6 ?_
  intro a8 hF9
  clear hF3 hr6
  clear hS
  refine ops_next ?_
  obtain ⟨b10, w11, hr12, hS13⟩ := comes_new (P := Tryd.prog) (v := .box 35 (.slice A l.length cap)) (u := fun b => .pointer (some ⟨b, 0, none⟩)) (o := .cells #[.slice A l.length cap] 35 (0, 0)) hS7 (fun w => by kernel_rfl)
  refine op_value (u := .pointer (some ⟨b10, 0, none⟩)) (e' := [(3, .pointer (some ⟨b10, 0, none⟩)), (2, .pointer (some ⟨b4, 0, none⟩)), (0, .pointer (some ⟨s, 0, none⟩)), (1, .slice A l.length cap)]) hF9 (by kernel_rfl) hr12 ?_
  intro a14 hF15
  clear hF9 hr12
  clear hS7
  refine batch_spec (is := [2]) (rest := []) (live := [3, 2, 4]) (e' := [(3, .pointer (some ⟨b10, 0, none⟩)), (2, .pointer (some ⟨b4, 0, none⟩)), (4, .int .i64 0)]) (vs := []) (obs := []) hF15 (by kernel_rfl) .nil ?_
  intro a16 hF17
  clear hF15
  refine ops_done ?_
  refine nrm_then ?_
  refine wp_seq ?_
  refine reg_text (l := [0, 1, 2]) (by kernel_rfl) ?_
  refine batch_spec (is := [0]) (rest := [1, 2]) (live := [3, 2, 4, 10]) (e' := [(3, .pointer (some ⟨b10, 0, none⟩)), (2, .pointer (some ⟨b4, 0, none⟩)), (4, .int .i64 0), (10, .pointer (some ⟨s, 0, none⟩))]) (vs := [.pointer (some ⟨s, 0, none⟩)]) (obs := [(⟨b4, 0, none⟩, .pointer (some ⟨s, 0, none⟩))]) hF17 (by kernel_rfl) (.cons (ob hS13 1 rfl rfl) .nil) ?_
  intro a18 hF19
  clear hF17
  refine ops_next ?_
  have hS20 : Sat w11 (storeA s st :: plateA st.plate pl :: raw b10 (.cells #[.slice A l.length cap] 35 (0, 0)) :: raw b4 (.cells #[.pointer (some ⟨s, 0, none⟩)] 28 (0, 0)) :: slA leafT (.slice A l.length cap) l :: L) := (Sat_at (Sat_at hS13 4 rfl rfl) 4 rfl rfl)
  refine op_call (fn := 22) (first := #[]) (cap := #[]) (args := #[.pointer (some ⟨s, 0, none⟩)]) (all := #[.pointer (some ⟨s, 0, none⟩)]) (pe := fun u => [(11, u), (3, .pointer (some ⟨b10, 0, none⟩)), (2, .pointer (some ⟨b4, 0, none⟩)), (4, .int .i64 0), (10, .pointer (some ⟨s, 0, none⟩))]) hF19 (fun u => by kernel_rfl) (by kernel_rfl) (by kernel_rfl) (ready_c hr hS20) ?_
  rintro u w23 a21 ⟨rfl, hS24⟩ hF22
  clear hF19
  clear hS13 hS20
  have hS25 : Sat w23 (storeA s st :: plateA st.plate pl :: raw b10 (.cells #[.slice A l.length cap] 35 (0, 0)) :: raw b4 (.cells #[.pointer (some ⟨s, 0, none⟩)] 28 (0, 0)) :: slA leafT (.slice A l.length cap) l :: L) := hS24
  refine batch_spec (is := [2]) (rest := []) (live := [3, 2, 4, 5]) (e' := [(3, .pointer (some ⟨b10, 0, none⟩)), (2, .pointer (some ⟨b4, 0, none⟩)), (4, .int .i64 0), (5, .int .i64 0)]) (vs := []) (obs := []) hF22 (by kernel_rfl) .nil ?_
  intro a26 hF27
  clear hF22
  refine ops_done ?_
  refine nrm_then ?_
  refine wp_seq ?_
  refine wp_block ?_
  refine wp_seq ?_
  refine reg_text (l := [0, 1, 2]) (by kernel_rfl) ?_
  refine batch_spec (is := [0, 1, 2]) (rest := []) (live := [3, 2, 4, 5, 12]) (e' := [(3, .pointer (some ⟨b10, 0, none⟩)), (2, .pointer (some ⟨b4, 0, none⟩)), (4, .int .i64 0), (5, .int .i64 0), (12, .bool false)]) (vs := []) (obs := []) hF27 (by kernel_rfl) .nil ?_
  intro a28 hF29
  clear hF27
  refine ops_done ?_
  refine nrm_then ?_
  refine cond_no hF29 rfl ?_
  refine wp_seq ?_
  refine reg_text (l := [0, 1, 2, 3, 4]) (by kernel_rfl) ?_
  refine batch_spec (is := [0, 1]) (rest := [2, 3, 4]) (live := [3, 2, 4, 17, 18]) (e' := [(3, .pointer (some ⟨b10, 0, none⟩)), (2, .pointer (some ⟨b4, 0, none⟩)), (4, .int .i64 0), (17, .pointer (some ⟨s, 0, none⟩)), (18, .slice A l.length cap)]) (vs := [.pointer (some ⟨s, 0, none⟩), .slice A l.length cap]) (obs := [(⟨b4, 0, none⟩, .pointer (some ⟨s, 0, none⟩)), (⟨b10, 0, none⟩, .slice A l.length cap)]) hF29 (by kernel_rfl) (.cons (ob hS25 3 rfl rfl) (.cons (ob hS25 2 rfl rfl) .nil)) ?_
  intro a30 hF31
  clear hF29
  refine ops_next ?_
  have hS32 : Sat w23 (slA leafT (.slice A l.length cap) l :: storeA s st :: plateA st.plate pl :: raw b10 (.cells #[.slice A l.length cap] 35 (0, 0)) :: raw b4 (.cells #[.pointer (some ⟨s, 0, none⟩)] 28 (0, 0)) :: L) := (Sat_at (Sat_at hS25 0 rfl rfl) 4 rfl rfl)
  refine op_call (fn := 23) (first := #[]) (cap := #[]) (args := #[.pointer (some ⟨s, 0, none⟩), .slice A l.length cap]) (all := #[.pointer (some ⟨s, 0, none⟩), .slice A l.length cap]) (pe := fun u => [(19, u), (3, .pointer (some ⟨b10, 0, none⟩)), (2, .pointer (some ⟨b4, 0, none⟩)), (4, .int .i64 0), (17, .pointer (some ⟨s, 0, none⟩)), (18, .slice A l.length cap)]) hF31 (fun u => by kernel_rfl) (by kernel_rfl) (by kernel_rfl) (fits_c hpg hc hall hS32) ?_
  rintro u w35 a33 ⟨rfl, hS36⟩ hF34
  clear hF31
  clear hS24 hS25 hS32
  have hS37 : Sat w35 (slA leafT (.slice A l.length cap) l :: storeA s st :: plateA st.plate pl :: raw b10 (.cells #[.slice A l.length cap] 35 (0, 0)) :: raw b4 (.cells #[.pointer (some ⟨s, 0, none⟩)] 28 (0, 0)) :: L) := hS36
  refine batch_spec (is := [3, 4]) (rest := []) (live := [3, 2, 4, 16]) (e' := [(3, .pointer (some ⟨b10, 0, none⟩)), (2, .pointer (some ⟨b4, 0, none⟩)), (4, .int .i64 0), (16, .bool false)]) (vs := []) (obs := []) hF34 (by kernel_rfl) .nil ?_
  intro a38 hF39
  clear hF34
  refine ops_done ?_
  refine nrm_then ?_
  refine cond_no hF39 rfl ?_
  refine wp_seq ?_
  refine reg_text (l := [0, 1, 2, 3]) (by kernel_rfl) ?_
  refine batch_spec (is := [0, 1, 2, 3]) (rest := []) (live := [3, 2, 4, 21]) (e' := [(3, .pointer (some ⟨b10, 0, none⟩)), (2, .pointer (some ⟨b4, 0, none⟩)), (4, .int .i64 0), (21, .bool (((l.length : Nat) : Int) == 0))]) (vs := [.slice A l.length cap]) (obs := [(⟨b10, 0, none⟩, .slice A l.length cap)]) hF39 (by kernel_rfl) (.cons (ob hS37 3 rfl rfl) .nil) ?_
  intro a40 hF41
  clear hF39
  refine ops_done ?_
  refine nrm_then ?_
  have hb42 : (((l.length : Nat) : Int) == 0) = false := by rw [beq_eq_false_iff_ne]; omega
  rw [hb42] at hF41
  refine cond_no hF41 rfl ?_
  refine wp_skip ?_
  refine nrm_block ?_
  refine nrm_then ?_
  refine wp_seq ?_
  refine wp_seq ?_
  refine reg_text (l := [0, 1, 2, 3, 4]) (by kernel_rfl) ?_
  refine batch_spec (is := [0, 1, 2]) (rest := [3, 4]) (live := [3, 2, 4, 25, 26, 27]) (e' := [(3, .pointer (some ⟨b10, 0, none⟩)), (2, .pointer (some ⟨b4, 0, none⟩)), (4, .int .i64 0), (25, .pointer (some ⟨s, 0, none⟩)), (26, .slice A l.length cap), (27, .func (.func 25) #[] #[.pointer (some ⟨b4, 0, none⟩)])]) (vs := [.pointer (some ⟨s, 0, none⟩), .slice A l.length cap]) (obs := [(⟨b4, 0, none⟩, .pointer (some ⟨s, 0, none⟩)), (⟨b10, 0, none⟩, .slice A l.length cap)]) hF41 (by kernel_rfl) (.cons (ob hS37 4 rfl rfl) (.cons (ob hS37 3 rfl rfl) .nil)) ?_
  intro a43 hF44
  clear hF41
  refine ops_next ?_
  have hS45 : Sat w35 (raw b4 (.cells #[.pointer (some ⟨s, 0, none⟩)] 28 (0, 0)) :: slA leafT (.slice A l.length cap) l :: storeA s st :: plateA st.plate pl :: raw b10 (.cells #[.slice A l.length cap] 35 (0, 0)) :: L) := (Sat_at (Sat_at (Sat_at (Sat_at hS37 2 rfl rfl) 2 rfl rfl) 2 rfl rfl) 4 rfl rfl)
  refine op_call (fn := 24) (first := #[]) (cap := #[]) (args := #[.pointer (some ⟨s, 0, none⟩), .slice A l.length cap, .func (.func 25) #[] #[.pointer (some ⟨b4, 0, none⟩)]]) (all := #[.pointer (some ⟨s, 0, none⟩), .slice A l.length cap, .func (.func 25) #[] #[.pointer (some ⟨b4, 0, none⟩)]]) (pe := fun u => [(28, u), (3, .pointer (some ⟨b10, 0, none⟩)), (2, .pointer (some ⟨b4, 0, none⟩)), (4, .int .i64 0), (25, .pointer (some ⟨s, 0, none⟩)), (26, .slice A l.length cap), (27, .func (.func 25) #[] #[.pointer (some ⟨b4, 0, none⟩)])]) hF44 (fun u => by kernel_rfl) (by kernel_rfl) (by kernel_rfl) (lay1_c (P := P1) (ws := ws1) hH hd hq0 ha hc hc0 hl hwl1 h1ws hS45) ?_
  rintro u w48 a46 (⟨rfl, pl1, hO1, hS49⟩ | ⟨rfl, pl1, hO1, hS49⟩) hF47
  ·
    clear hF44
    clear hS36 hS37 hS45
    have hS50 : Sat w48 (raw b4 (.cells #[.pointer (some ⟨s, 0, none⟩)] 28 (0, 0)) :: slA leafT (.slice A l.length cap) l :: storeA s ⟨st.plate, st.at', st.copies, st.pages, st.life, false⟩ :: plateA st.plate pl1 :: raw b10 (.cells #[.slice A l.length cap] 35 (0, 0)) :: L) := hS49
    refine batch_spec (is := [4]) (rest := []) (live := [3, 2, 4, 6]) (e' := [(3, .pointer (some ⟨b10, 0, none⟩)), (2, .pointer (some ⟨b4, 0, none⟩)), (4, .int .i64 0), (6, .int .i64 0)]) (vs := []) (obs := []) hF47 (by kernel_rfl) .nil ?_
    intro a51 hF52
    clear hF47
    refine ops_done ?_
    refine nrm_then ?_
    refine wp_seq ?_
    refine reg_text (l := [0, 1]) (by kernel_rfl) ?_
    refine batch_spec (is := [0, 1]) (rest := []) (live := [3, 2, 4, 6, 30]) (e' := [(3, .pointer (some ⟨b10, 0, none⟩)), (2, .pointer (some ⟨b4, 0, none⟩)), (4, .int .i64 0), (6, .int .i64 0), (30, .bool false)]) (vs := []) (obs := []) hF52 (by kernel_rfl) .nil ?_
    intro a53 hF54
    clear hF52
    refine ops_done ?_
    refine nrm_then ?_
    refine cond_no hF54 rfl ?_
    refine wp_skip ?_
    refine nrm_then ?_
    refine wp_seq ?_
    refine wp_seq ?_
    refine reg_text (l := [0, 1, 2, 3, 4]) (by kernel_rfl) ?_
    refine batch_spec (is := [0, 1, 2]) (rest := [3, 4]) (live := [3, 2, 4, 32, 33, 34]) (e' := [(3, .pointer (some ⟨b10, 0, none⟩)), (2, .pointer (some ⟨b4, 0, none⟩)), (4, .int .i64 0), (32, .pointer (some ⟨s, 0, none⟩)), (33, .slice A l.length cap), (34, .func (.func 26) #[] #[.pointer (some ⟨b4, 0, none⟩), .pointer (some ⟨b10, 0, none⟩)])]) (vs := [.pointer (some ⟨s, 0, none⟩), .slice A l.length cap]) (obs := [(⟨b4, 0, none⟩, .pointer (some ⟨s, 0, none⟩)), (⟨b10, 0, none⟩, .slice A l.length cap)]) hF54 (by kernel_rfl) (.cons (ob hS50 0 rfl rfl) (.cons (ob hS50 4 rfl rfl) .nil)) ?_
    intro a55 hF56
    clear hF54
    refine ops_next ?_
    have hS57 : Sat w48 (raw b4 (.cells #[.pointer (some ⟨s, 0, none⟩)] 28 (0, 0)) :: raw b10 (.cells #[.slice A l.length cap] 35 (0, 0)) :: slA leafT (.slice A l.length cap) l :: storeA s ⟨st.plate, st.at', st.copies, st.pages, st.life, false⟩ :: plateA st.plate pl1 :: L) := (Sat_at (Sat_at (Sat_at (Sat_at (Sat_at hS50 3 rfl rfl) 3 rfl rfl) 3 rfl rfl) 4 rfl rfl) 4 rfl rfl)
    refine op_call (fn := 24) (first := #[]) (cap := #[]) (args := #[.pointer (some ⟨s, 0, none⟩), .slice A l.length cap, .func (.func 26) #[] #[.pointer (some ⟨b4, 0, none⟩), .pointer (some ⟨b10, 0, none⟩)]]) (all := #[.pointer (some ⟨s, 0, none⟩), .slice A l.length cap, .func (.func 26) #[] #[.pointer (some ⟨b4, 0, none⟩), .pointer (some ⟨b10, 0, none⟩)]]) (pe := fun u => [(35, u), (3, .pointer (some ⟨b10, 0, none⟩)), (2, .pointer (some ⟨b4, 0, none⟩)), (4, .int .i64 0), (32, .pointer (some ⟨s, 0, none⟩)), (33, .slice A l.length cap), (34, .func (.func 26) #[] #[.pointer (some ⟨b4, 0, none⟩), .pointer (some ⟨b10, 0, none⟩)])]) hF56 (fun u => by kernel_rfl) (by kernel_rfl) (by kernel_rfl) (lay2_c (st := ⟨st.plate, st.at', st.copies, st.pages, st.life, false⟩) (P := P2) (ws := ws2) (hP2 pl1 hO1) hO1.down hO1.que ha hc (by rw [hO1.count]; exact hc0) hl hwl2 (fun k x hx => by rw [hO1.count]; exact h2ws k x hx) hS57) ?_
    rintro u w60 a58 (⟨rfl, pl2, hO2, hS61⟩ | ⟨rfl, pl2, hO2, hS61⟩) hF59
    ·
      clear hF56
      clear hS49 hS50 hS57
      have hS62 : Sat w60 (raw b4 (.cells #[.pointer (some ⟨s, 0, none⟩)] 28 (0, 0)) :: raw b10 (.cells #[.slice A l.length cap] 35 (0, 0)) :: slA leafT (.slice A l.length cap) l :: storeA s ⟨st.plate, st.at', st.copies, st.pages, st.life, false⟩ :: plateA st.plate pl2 :: L) := hS61
      refine batch_spec (is := [4]) (rest := []) (live := [3, 2, 4, 7]) (e' := [(3, .pointer (some ⟨b10, 0, none⟩)), (2, .pointer (some ⟨b4, 0, none⟩)), (4, .int .i64 0), (7, .int .i64 0)]) (vs := []) (obs := []) hF59 (by kernel_rfl) .nil ?_
      intro a63 hF64
      clear hF59
      refine ops_done ?_
      refine nrm_then ?_
      refine wp_seq ?_
      refine reg_text (l := [0, 1]) (by kernel_rfl) ?_
      refine batch_spec (is := [0, 1]) (rest := []) (live := [3, 2, 4, 7, 37]) (e' := [(3, .pointer (some ⟨b10, 0, none⟩)), (2, .pointer (some ⟨b4, 0, none⟩)), (4, .int .i64 0), (7, .int .i64 0), (37, .bool false)]) (vs := []) (obs := []) hF64 (by kernel_rfl) .nil ?_
      intro a65 hF66
      clear hF64
      refine ops_done ?_
      refine nrm_then ?_
      refine cond_no hF66 rfl ?_
      refine wp_skip ?_
      refine nrm_then ?_
      refine wp_seq ?_
      refine wp_seq ?_
      refine reg_text (l := [0, 1, 2]) (by kernel_rfl) ?_
      refine batch_spec (is := [0, 1, 2]) (rest := []) (live := [2, 4, 39, 40, 41]) (e' := [(2, .pointer (some ⟨b4, 0, none⟩)), (4, .int .i64 0), (39, .slice A l.length cap), (40, .int .i64 (l.length : Nat)), (41, .int .i64 0)]) (vs := [.slice A l.length cap]) (obs := [(⟨b10, 0, none⟩, .slice A l.length cap)]) hF66 (by kernel_rfl) (.cons (ob hS62 1 rfl rfl) .nil) ?_
      intro a67 hF68
      clear hF66
      refine ops_done ?_
      refine nrm_then ?_
      refine wp_block ?_
      have hS69 : Sat w60 (raw b4 (.cells #[.pointer (some ⟨s, 0, none⟩)] 28 (0, 0)) :: slA leafT (.slice A l.length cap) l :: storeA s ⟨st.plate, st.at', st.copies, st.pages, st.life, false⟩ :: plateA st.plate pl2 :: raw b10 (.cells #[.slice A l.length cap] 35 (0, 0)) :: L) := (Sat_at (Sat_at (Sat_at (Sat_at hS62 4 rfl rfl) 4 rfl rfl) 4 rfl rfl) 3 rfl rfl)
      refine loop_g (fun μ α ω => ∃ k : Nat, μ = l.length - k ∧ (k ≤ l.length) ∧ Fits α 61 [(2, .pointer (some ⟨b4, 0, none⟩)), (4, .int .i64 0), (39, .slice A l.length cap), (40, .int .i64 (l.length : Nat)), (41, .int .i64 (k : Nat))] ∧ Sat ω (raw b4 (.cells #[.pointer (some ⟨s, 0, none⟩)] 28 (0, 0)) :: slA leafT (.slice A l.length cap) l :: storeA s ⟨st.plate, st.at', st.copies, setPages st.pages l k, st.life, false⟩ :: plateA st.plate pl2 :: L)) _ ⟨0, rfl, (Nat.zero_le _), (Fits.restr (r := [(2, .pointer (some ⟨b4, 0, none⟩)), (4, .int .i64 0), (39, .slice A l.length cap), (40, .int .i64 (l.length : Nat)), (41, .int .i64 0)]) hF68 (ks := [2, 4, 39, 40, 41]) (by kernel_rfl)).cast (by rfl), ((Sat_at hS69 4 rfl rfl).drop)⟩ ?_
      rintro m70 a71 w72 ⟨k, rfl, hkl, hF73, hS74⟩
      clear hF68
      clear hS61 hS62 hS69
      refine wp_seq ?_
      refine reg_text (l := [0]) (by kernel_rfl) ?_
      refine batch_spec (is := [0]) (rest := []) (live := [2, 4, 39, 40, 41, 42]) (e' := [(2, .pointer (some ⟨b4, 0, none⟩)), (4, .int .i64 0), (39, .slice A l.length cap), (40, .int .i64 (l.length : Nat)), (41, .int .i64 (k : Nat)), (42, .bool (decide (((k : Nat) : Int) < ((l.length : Nat) : Int))))]) (vs := []) (obs := []) hF73 (by kernel_rfl) .nil ?_
      intro a75 hF76
      clear hF73
      refine ops_done ?_
      refine nrm_then ?_
      refine wp_seq ?_
      by_cases h77 : ((k : Nat) : Int) < ((l.length : Nat) : Int)
      ·
        have hb78 : (decide (((k : Nat) : Int) < ((l.length : Nat) : Int))) = true := decide_eq_true h77
        rw [hb78] at hF76
        refine cond_yes hF76 rfl ?_
        refine wp_skip ?_
        refine nrm_then ?_
        refine wp_seq ?_
        refine wp_block ?_
        refine wp_seq ?_
        refine reg_text (l := [0, 1, 2, 3]) (by kernel_rfl) ?_
        refine ops_next ?_
        obtain ⟨x79, hx80⟩ : ∃ χ, l[k]? = some χ := ⟨_, List.getElem?_eq_getElem (by first | omega | (rw [setPages_len]; have := (hall.okay k _ (by assumption)).2; omega))⟩
        obtain ⟨b81, off82, B85, cp86, heq83, hS84⟩ := leaf_el hS74 1 rfl hx80
        have hS87 : Sat w72 (immC b81 (off82 + k * 3) [.int .i64 (x79.1 : Nat), .int .i64 (x79.2.1 : Nat), .slice B85 x79.2.2.length cp86] :: slA slotT (.slice B85 x79.2.2.length cp86) x79.2.2 :: raw b4 (.cells #[.pointer (some ⟨s, 0, none⟩)] 28 (0, 0)) :: slA leafT (.slice A l.length cap) l :: storeA s ⟨st.plate, st.at', st.copies, setPages st.pages l k, st.life, false⟩ :: plateA st.plate pl2 :: L) := hS84
        refine op_value (u := .pointer (some ⟨b81, off82 + k * 3, none⟩)) (v := .indexAddr 35 (.slice A l.length cap) (.int .i64 (k : Nat))) (e' := [(43, .pointer (some ⟨b81, off82 + k * 3, none⟩)), (2, .pointer (some ⟨b4, 0, none⟩)), (4, .int .i64 0), (39, .slice A l.length cap), (40, .int .i64 (l.length : Nat)), (41, .int .i64 (k : Nat)), (42, .bool true)]) hF76 (by kernel_rfl) (.value ((run_indexAddrA (el := 43) (sz := 3) (off := off82) (k := k) heq83 Tryd.underlying35 (by kernel_rfl) (by rfl) (by first | omega | (rw [setPages_len]; have := (hall.okay k _ (by assumption)).2; omega))) _)) ?_
        intro a88 hF89
        clear hF76
        refine batch_spec (is := [1]) (rest := [2, 3]) (live := [43, 2, 4, 39, 40, 41, 42, 44]) (e' := [(43, .pointer (some ⟨b81, off82 + k * 3, none⟩)), (2, .pointer (some ⟨b4, 0, none⟩)), (4, .int .i64 0), (39, .slice A l.length cap), (40, .int .i64 (l.length : Nat)), (41, .int .i64 (k : Nat)), (42, .bool true), (44, .agg #[.int .i64 (x79.1 : Nat), .int .i64 (x79.2.1 : Nat), .slice B85 x79.2.2.length cp86])]) (vs := [.int .i64 (x79.1 : Nat), .int .i64 (x79.2.1 : Nat), .slice B85 x79.2.2.length cp86]) (obs := [(⟨b81, off82 + k * 3, none⟩, .int .i64 (x79.1 : Nat)), (⟨b81, off82 + k * 3 + 1, none⟩, .int .i64 (x79.2.1 : Nat)), (⟨b81, off82 + k * 3 + 2, none⟩, .slice B85 x79.2.2.length cp86)]) hF89 (by kernel_rfl) (.cons (obC hS87 0 (off := off82 + k * 3) (j := 0) rfl rfl) (.cons (obC hS87 0 (off := off82 + k * 3) (j := 1) rfl rfl) (.cons (obC hS87 0 (off := off82 + k * 3) (j := 2) rfl rfl) .nil))) ?_
        intro a90 hF91
        clear hF89
        refine ops_next ?_
        obtain ⟨b92, w93, hr94, hS95⟩ := comes_new (P := Tryd.prog) (v := .alloc 43) (u := fun b => .pointer (some ⟨b, 0, none⟩)) (o := .cells #[.int .i64 0, .int .i64 0, .slice none 0 0] 43 (0, 0)) hS87 (fun w => by kernel_rfl)
        refine op_value (u := .pointer (some ⟨b92, 0, none⟩)) (e' := [(9, .pointer (some ⟨b92, 0, none⟩)), (43, .pointer (some ⟨b81, off82 + k * 3, none⟩)), (2, .pointer (some ⟨b4, 0, none⟩)), (4, .int .i64 0), (39, .slice A l.length cap), (40, .int .i64 (l.length : Nat)), (41, .int .i64 (k : Nat)), (42, .bool true), (44, .agg #[.int .i64 (x79.1 : Nat), .int .i64 (x79.2.1 : Nat), .slice B85 x79.2.2.length cp86])]) hF91 (by kernel_rfl) hr94 ?_
        intro a96 hF97
        clear hF91 hr94
        clear hS74 hS84 hS87
        refine ops_next ?_
        obtain ⟨w98, hr99, hS100⟩ := comes_store (P := Tryd.prog) (t' := 43) (b := b92) (j := 0) (x := .agg #[.int .i64 (x79.1 : Nat), .int .i64 (x79.2.1 : Nat), .slice B85 x79.2.2.length cp86]) (vs := [.int .i64 (x79.1 : Nat), .int .i64 (x79.2.1 : Nat), .slice B85 x79.2.2.length cp86]) (c' := #[.int .i64 (x79.1 : Nat), .int .i64 (x79.2.1 : Nat), .slice B85 x79.2.2.length cp86]) hS95 0 rfl rfl rfl (by kernel_rfl) rfl rfl rfl
        refine op_value (u := undef) (e' := [(9, .pointer (some ⟨b92, 0, none⟩)), (43, .pointer (some ⟨b81, off82 + k * 3, none⟩)), (2, .pointer (some ⟨b4, 0, none⟩)), (4, .int .i64 0), (39, .slice A l.length cap), (40, .int .i64 (l.length : Nat)), (41, .int .i64 (k : Nat)), (42, .bool true), (44, .agg #[.int .i64 (x79.1 : Nat), .int .i64 (x79.2.1 : Nat), .slice B85 x79.2.2.length cp86])]) hF97 (by kernel_rfl) hr99 ?_
        intro a101 hF102
        clear hF97 hr99
        clear hS95
        have hS103 : Sat w98 (raw b92 (.cells #[.int .i64 (x79.1 : Nat), .int .i64 (x79.2.1 : Nat), .slice B85 x79.2.2.length cp86] 43 (0, 0)) :: immC b81 (off82 + k * 3) [.int .i64 (x79.1 : Nat), .int .i64 (x79.2.1 : Nat), .slice B85 x79.2.2.length cp86] :: slA slotT (.slice B85 x79.2.2.length cp86) x79.2.2 :: raw b4 (.cells #[.pointer (some ⟨s, 0, none⟩)] 28 (0, 0)) :: slA leafT (.slice A l.length cap) l :: storeA s ⟨st.plate, st.at', st.copies, setPages st.pages l k, st.life, false⟩ :: plateA st.plate pl2 :: L) := hS100
        refine ops_done ?_
        refine nrm_then ?_
        refine wp_seq ?_
        refine reg_text (l := [0, 1, 2, 3, 4, 5, 6]) (by kernel_rfl) ?_
        refine batch_spec (is := [0, 1, 2]) (rest := [3, 4, 5, 6]) (live := [9, 43, 2, 4, 39, 40, 41, 42, 44, 45, 46, 47]) (e' := [(9, .pointer (some ⟨b92, 0, none⟩)), (43, .pointer (some ⟨b81, off82 + k * 3, none⟩)), (2, .pointer (some ⟨b4, 0, none⟩)), (4, .int .i64 0), (39, .slice A l.length cap), (40, .int .i64 (l.length : Nat)), (41, .int .i64 (k : Nat)), (42, .bool true), (44, .agg #[.int .i64 (x79.1 : Nat), .int .i64 (x79.2.1 : Nat), .slice B85 x79.2.2.length cp86]), (45, .pointer (some ⟨b92, 1, none⟩)), (46, .pointer (some ⟨b92, 2, none⟩)), (47, .slice B85 x79.2.2.length cp86)]) (vs := [.slice B85 x79.2.2.length cp86]) (obs := [(⟨b92, 2, none⟩, .slice B85 x79.2.2.length cp86)]) hF102 (by kernel_rfl) (.cons (ob hS103 0 rfl rfl) .nil) ?_
        intro a104 hF105
        clear hF102
        refine ops_next ?_
        have hS106 : Sat w98 (slA slotT (.slice B85 x79.2.2.length cp86) x79.2.2 :: raw b92 (.cells #[.int .i64 (x79.1 : Nat), .int .i64 (x79.2.1 : Nat), .slice B85 x79.2.2.length cp86] 43 (0, 0)) :: immC b81 (off82 + k * 3) [.int .i64 (x79.1 : Nat), .int .i64 (x79.2.1 : Nat), .slice B85 x79.2.2.length cp86] :: raw b4 (.cells #[.pointer (some ⟨s, 0, none⟩)] 28 (0, 0)) :: slA leafT (.slice A l.length cap) l :: storeA s ⟨st.plate, st.at', st.copies, setPages st.pages l k, st.life, false⟩ :: plateA st.plate pl2 :: L) := (Sat_at hS103 2 rfl rfl)
        refine op_call (fn := 28) (first := #[]) (cap := #[]) (args := #[.slice B85 x79.2.2.length cp86]) (all := #[.slice B85 x79.2.2.length cp86]) (pe := fun u => [(48, u), (9, .pointer (some ⟨b92, 0, none⟩)), (43, .pointer (some ⟨b81, off82 + k * 3, none⟩)), (2, .pointer (some ⟨b4, 0, none⟩)), (4, .int .i64 0), (39, .slice A l.length cap), (40, .int .i64 (l.length : Nat)), (41, .int .i64 (k : Nat)), (42, .bool true), (44, .agg #[.int .i64 (x79.1 : Nat), .int .i64 (x79.2.1 : Nat), .slice B85 x79.2.2.length cp86]), (45, .pointer (some ⟨b92, 1, none⟩)), (46, .pointer (some ⟨b92, 2, none⟩)), (47, .slice B85 x79.2.2.length cp86)]) hF105 (fun u => by kernel_rfl) (by kernel_rfl) (by kernel_rfl) (Ret.of_ex (clone_ct (by have := (hall.okay k _ hx80).1.len; omega) hS106)) ?_
        rintro u w111 a109 ⟨A107, c108, rfl, hS112⟩ hF110
        clear hF105
        clear hS100 hS103 hS106
        have hS113 : Sat w111 (slA slotT (.slice A107 x79.2.2.length c108) x79.2.2 :: slA slotT (.slice B85 x79.2.2.length cp86) x79.2.2 :: raw b92 (.cells #[.int .i64 (x79.1 : Nat), .int .i64 (x79.2.1 : Nat), .slice B85 x79.2.2.length cp86] 43 (0, 0)) :: immC b81 (off82 + k * 3) [.int .i64 (x79.1 : Nat), .int .i64 (x79.2.1 : Nat), .slice B85 x79.2.2.length cp86] :: raw b4 (.cells #[.pointer (some ⟨s, 0, none⟩)] 28 (0, 0)) :: slA leafT (.slice A l.length cap) l :: storeA s ⟨st.plate, st.at', st.copies, setPages st.pages l k, st.life, false⟩ :: plateA st.plate pl2 :: L) := hS112
        refine batch_spec (is := [4, 5]) (rest := [6]) (live := [48, 9, 43, 2, 4, 39, 40, 41, 42, 44, 45, 46, 47, 49, 50]) (e' := [(48, .slice A107 x79.2.2.length c108), (9, .pointer (some ⟨b92, 0, none⟩)), (43, .pointer (some ⟨b81, off82 + k * 3, none⟩)), (2, .pointer (some ⟨b4, 0, none⟩)), (4, .int .i64 0), (39, .slice A l.length cap), (40, .int .i64 (l.length : Nat)), (41, .int .i64 (k : Nat)), (42, .bool true), (44, .agg #[.int .i64 (x79.1 : Nat), .int .i64 (x79.2.1 : Nat), .slice B85 x79.2.2.length cp86]), (45, .pointer (some ⟨b92, 1, none⟩)), (46, .pointer (some ⟨b92, 2, none⟩)), (47, .slice B85 x79.2.2.length cp86), (49, .pointer (some ⟨b92, 1, none⟩)), (50, .pointer (some ⟨b92, 2, none⟩))]) (vs := []) (obs := []) hF110 (by kernel_rfl) .nil ?_
        intro a114 hF115
        clear hF110
        refine ops_next ?_
        obtain ⟨w116, hr117, hS118⟩ := comes_store (P := Tryd.prog) (t' := 39) (b := b92) (j := 2) (x := .slice A107 x79.2.2.length c108) (vs := [.slice A107 x79.2.2.length c108]) (c' := #[.int .i64 (x79.1 : Nat), .int .i64 (x79.2.1 : Nat), .slice A107 x79.2.2.length c108]) hS113 2 rfl rfl rfl (by kernel_rfl) rfl rfl rfl
        refine op_value (u := undef) (e' := [(48, .slice A107 x79.2.2.length c108), (9, .pointer (some ⟨b92, 0, none⟩)), (43, .pointer (some ⟨b81, off82 + k * 3, none⟩)), (2, .pointer (some ⟨b4, 0, none⟩)), (4, .int .i64 0), (39, .slice A l.length cap), (40, .int .i64 (l.length : Nat)), (41, .int .i64 (k : Nat)), (42, .bool true), (44, .agg #[.int .i64 (x79.1 : Nat), .int .i64 (x79.2.1 : Nat), .slice B85 x79.2.2.length cp86]), (45, .pointer (some ⟨b92, 1, none⟩)), (46, .pointer (some ⟨b92, 2, none⟩)), (47, .slice B85 x79.2.2.length cp86), (49, .pointer (some ⟨b92, 1, none⟩)), (50, .pointer (some ⟨b92, 2, none⟩))]) hF115 (by kernel_rfl) hr117 ?_
        intro a119 hF120
        clear hF115 hr117
        clear hS112 hS113
        have hS121 : Sat w116 (raw b92 (.cells #[.int .i64 (x79.1 : Nat), .int .i64 (x79.2.1 : Nat), .slice A107 x79.2.2.length c108] 43 (0, 0)) :: slA slotT (.slice A107 x79.2.2.length c108) x79.2.2 :: slA slotT (.slice B85 x79.2.2.length cp86) x79.2.2 :: immC b81 (off82 + k * 3) [.int .i64 (x79.1 : Nat), .int .i64 (x79.2.1 : Nat), .slice B85 x79.2.2.length cp86] :: raw b4 (.cells #[.pointer (some ⟨s, 0, none⟩)] 28 (0, 0)) :: slA leafT (.slice A l.length cap) l :: storeA s ⟨st.plate, st.at', st.copies, setPages st.pages l k, st.life, false⟩ :: plateA st.plate pl2 :: L) := hS118
        refine ops_done ?_
        refine nrm_then ?_
        refine reg_drawn (fun j => match j with | 1 => [0] | 2 => [0, 1] | 3 => [0, 1, 2] | 5 => [4] | 7 => [6] | 8 => [0, 1, 2, 3, 4, 5, 6, 7] | 9 => [0, 1, 2, 3, 4, 5, 6, 7, 8] | _ => []) hS121 (by kernel_rfl) (by kernel_rfl) (by kernel_rfl) (fun c a d v w h => by cases d <;> exact h) ?_
        intro w122 hS123 hw124
        clear hS118 hS121
        obtain ⟨A125, c126, hS127⟩ := store_out (Sat_at hS123 6 rfl rfl)
        have hS128 : Sat w122 (raw s (.cells #[.pointer (some ⟨st.plate, 0, none⟩), .int .i64 (st.at' : Nat), .int .i64 (st.copies : Nat), .slice A125 ((setPages st.pages l k).length) c126, .int .i64 st.life, .bool false] 59 (0, 0)) :: rowA pageT 41 A125 c126 (setPages st.pages l k) :: raw b92 (.cells #[.int .i64 (x79.1 : Nat), .int .i64 (x79.2.1 : Nat), .slice A107 x79.2.2.length c108] 43 (0, 0)) :: slA slotT (.slice A107 x79.2.2.length c108) x79.2.2 :: slA slotT (.slice B85 x79.2.2.length cp86) x79.2.2 :: immC b81 (off82 + k * 3) [.int .i64 (x79.1 : Nat), .int .i64 (x79.2.1 : Nat), .slice B85 x79.2.2.length cp86] :: raw b4 (.cells #[.pointer (some ⟨s, 0, none⟩)] 28 (0, 0)) :: slA leafT (.slice A l.length cap) l :: plateA st.plate pl2 :: L) := hS127
        refine batchD_spec (is := [0, 1, 2, 3, 4, 5, 6, 7]) (dn := []) (dn' := [0, 1, 2, 3, 4, 5, 6, 7]) (live := [48, 9, 43, 2, 4, 39, 40, 41, 42, 44, 45, 46, 47, 49, 50, 51, 52, 53, 54, 55, 56, 57, 58]) (e' := [(48, .slice A107 x79.2.2.length c108), (9, .pointer (some ⟨b92, 0, none⟩)), (43, .pointer (some ⟨b81, off82 + k * 3, none⟩)), (2, .pointer (some ⟨b4, 0, none⟩)), (4, .int .i64 0), (39, .slice A l.length cap), (40, .int .i64 (l.length : Nat)), (41, .int .i64 (k : Nat)), (42, .bool true), (44, .agg #[.int .i64 (x79.1 : Nat), .int .i64 (x79.2.1 : Nat), .slice B85 x79.2.2.length cp86]), (45, .pointer (some ⟨b92, 1, none⟩)), (46, .pointer (some ⟨b92, 2, none⟩)), (47, .slice B85 x79.2.2.length cp86), (49, .pointer (some ⟨b92, 1, none⟩)), (50, .pointer (some ⟨b92, 2, none⟩)), (51, .pointer (some ⟨s, 0, none⟩)), (52, .pointer (some ⟨s, 0, none⟩)), (53, .pointer (some ⟨s, 3, none⟩)), (54, .slice A125 ((setPages st.pages l k).length) c126), (55, .pointer (some ⟨b92, 0, none⟩)), (56, .int .i64 (x79.1 : Nat)), (57, .pointer (some ⟨b92, 1, none⟩)), (58, .agg #[.int .i64 (x79.2.1 : Nat), .slice A107 x79.2.2.length c108])]) (vs := [.pointer (some ⟨s, 0, none⟩), .slice A125 ((setPages st.pages l k).length) c126, .int .i64 (x79.1 : Nat), .int .i64 (x79.2.1 : Nat), .slice A107 x79.2.2.length c108]) (obs := [(⟨b4, 0, none⟩, .pointer (some ⟨s, 0, none⟩)), (⟨s, 3, none⟩, .slice A125 ((setPages st.pages l k).length) c126), (⟨b92, 0, none⟩, .int .i64 (x79.1 : Nat)), (⟨b92, 1, none⟩, .int .i64 (x79.2.1 : Nat)), (⟨b92, 2, none⟩, .slice A107 x79.2.2.length c108)]) (pd' := [(7, [(⟨b92, 1, none⟩, .int .i64 (x79.2.1 : Nat)), (⟨b92, 2, none⟩, .slice A107 x79.2.2.length c108)]), (5, [(⟨b92, 0, none⟩, .int .i64 (x79.1 : Nat))]), (3, [(⟨s, 3, none⟩, .slice A125 ((setPages st.pages l k).length) c126)]), (0, [(⟨b4, 0, none⟩, .pointer (some ⟨s, 0, none⟩))])]) hF120 (by kernel_rfl) (.cons (ob hS123 4 rfl rfl) (.cons (ob hS128 0 rfl rfl) (.cons (ob hS128 2 rfl rfl) (.cons (ob hS128 2 rfl rfl) (.cons (ob hS128 2 rfl rfl) .nil))))) rfl ?_
        intro a129 hF130
        clear hF120
        obtain ⟨b131, heq132⟩ := row_addr (k := x79.1) hS128 1 rfl (by first | omega | (rw [setPages_len]; have := (hall.okay k _ (by assumption)).2; omega))
        refine wpD_one (i := 8) (u := .pointer (some ⟨b131, 0 + x79.1 * 2, none⟩)) (v := .indexAddr 32 (.slice A125 ((setPages st.pages l k).length) c126) (.int .i64 (x79.1 : Nat))) (e' := [(59, .pointer (some ⟨b131, 0 + x79.1 * 2, none⟩)), (48, .slice A107 x79.2.2.length c108), (9, .pointer (some ⟨b92, 0, none⟩)), (43, .pointer (some ⟨b81, off82 + k * 3, none⟩)), (2, .pointer (some ⟨b4, 0, none⟩)), (4, .int .i64 0), (39, .slice A l.length cap), (40, .int .i64 (l.length : Nat)), (41, .int .i64 (k : Nat)), (42, .bool true), (44, .agg #[.int .i64 (x79.1 : Nat), .int .i64 (x79.2.1 : Nat), .slice B85 x79.2.2.length cp86]), (45, .pointer (some ⟨b92, 1, none⟩)), (46, .pointer (some ⟨b92, 2, none⟩)), (47, .slice B85 x79.2.2.length cp86), (49, .pointer (some ⟨b92, 1, none⟩)), (50, .pointer (some ⟨b92, 2, none⟩)), (51, .pointer (some ⟨s, 0, none⟩)), (52, .pointer (some ⟨s, 0, none⟩)), (53, .pointer (some ⟨s, 3, none⟩)), (54, .slice A125 ((setPages st.pages l k).length) c126), (55, .pointer (some ⟨b92, 0, none⟩)), (56, .int .i64 (x79.1 : Nat)), (57, .pointer (some ⟨b92, 1, none⟩)), (58, .agg #[.int .i64 (x79.2.1 : Nat), .slice A107 x79.2.2.length c108])]) (obs := []) (dn' := [0, 1, 2, 3, 4, 5, 6, 7, 8]) hF130 (by kernel_rfl) (by kernel_rfl) rfl (fun w _ => (run_indexAddrA (el := 41) (sz := 2) (off := 0) (k := x79.1) heq132 Tryd.underlying32 (by kernel_rfl) (by rfl) (by first | omega | (rw [setPages_len]; have := (hall.okay k _ (by assumption)).2; omega))) w) .nil ?_
        refine fun a133 hF134 => wpD_filter ?_
        show wpD _ _ _ _ [(7, [(⟨b92, 1, none⟩, .int .i64 (x79.2.1 : Nat)), (⟨b92, 2, none⟩, .slice A107 x79.2.2.length c108)]), (5, [(⟨b92, 0, none⟩, .int .i64 (x79.1 : Nat))]), (3, [(⟨s, 3, none⟩, .slice A125 ((setPages st.pages l k).length) c126)]), (0, [(⟨b4, 0, none⟩, .pointer (some ⟨s, 0, none⟩))])] _ _ _
        clear hF130
        refine wpD_next (i := 9) (pd' := []) (dn' := [0, 1, 2, 3, 4, 5, 6, 7, 8, 9]) (by kernel_rfl) rfl (by kernel_rfl) ?_
        obtain ⟨w135, hr136, hS137⟩ := comes_rowSetA (P := Tryd.prog) (T := pageT) (t' := 41) (k := x79.1) (o := 0 + x79.1 * 2) (x := (⟨(x79.2.1 : Nat), x79.2.2⟩ : Page)) (v := .agg #[.int .i64 (x79.2.1 : Nat), .slice A107 x79.2.2.length c108]) (vs := [.int .i64 (x79.2.1 : Nat), .slice A107 x79.2.2.length c108]) heq132 hS128 1 rfl rfl rfl (by kernel_rfl) (by first | omega | (rw [setPages_len]; have := (hall.okay k _ (by assumption)).2; omega)) (Nat.zero_add _) (fun h => Sat_out 3 h rfl (fun g hg => Cells.single ⟨_, rfl, hg⟩))
        refine op_value (u := undef) (e' := [(59, .pointer (some ⟨b131, 0 + x79.1 * 2, none⟩)), (48, .slice A107 x79.2.2.length c108), (9, .pointer (some ⟨b92, 0, none⟩)), (43, .pointer (some ⟨b81, off82 + k * 3, none⟩)), (2, .pointer (some ⟨b4, 0, none⟩)), (4, .int .i64 0), (39, .slice A l.length cap), (40, .int .i64 (l.length : Nat)), (41, .int .i64 (k : Nat)), (42, .bool true), (44, .agg #[.int .i64 (x79.1 : Nat), .int .i64 (x79.2.1 : Nat), .slice B85 x79.2.2.length cp86]), (45, .pointer (some ⟨b92, 1, none⟩)), (46, .pointer (some ⟨b92, 2, none⟩)), (47, .slice B85 x79.2.2.length cp86), (49, .pointer (some ⟨b92, 1, none⟩)), (50, .pointer (some ⟨b92, 2, none⟩)), (51, .pointer (some ⟨s, 0, none⟩)), (52, .pointer (some ⟨s, 0, none⟩)), (53, .pointer (some ⟨s, 3, none⟩)), (54, .slice A125 ((setPages st.pages l k).length) c126), (55, .pointer (some ⟨b92, 0, none⟩)), (56, .int .i64 (x79.1 : Nat)), (57, .pointer (some ⟨b92, 1, none⟩)), (58, .agg #[.int .i64 (x79.2.1 : Nat), .slice A107 x79.2.2.length c108])]) hF134 (by kernel_rfl) hr136 ?_
        intro a138 hF139
        clear hF134 hr136
        clear hS123 hS127 hS128
        have hS140 : Sat w135 (rowA pageT 41 A125 c126 ((setPages st.pages l k).set x79.1 (⟨(x79.2.1 : Nat), x79.2.2⟩ : Page)) :: raw s (.cells #[.pointer (some ⟨st.plate, 0, none⟩), .int .i64 (st.at' : Nat), .int .i64 (st.copies : Nat), .slice A125 ((setPages st.pages l k).length) c126, .int .i64 st.life, .bool false] 59 (0, 0)) :: raw b92 (.cells #[.int .i64 (x79.1 : Nat), .int .i64 (x79.2.1 : Nat), .slice A107 x79.2.2.length c108] 43 (0, 0)) :: slA slotT (.slice A107 x79.2.2.length c108) x79.2.2 :: slA slotT (.slice B85 x79.2.2.length cp86) x79.2.2 :: immC b81 (off82 + k * 3) [.int .i64 (x79.1 : Nat), .int .i64 (x79.2.1 : Nat), .slice B85 x79.2.2.length cp86] :: raw b4 (.cells #[.pointer (some ⟨s, 0, none⟩)] 28 (0, 0)) :: slA leafT (.slice A l.length cap) l :: plateA st.plate pl2 :: L) := hS137
        refine ⟨.nil, ?_⟩
        refine wpD_done (by kernel_rfl) ?_
        refine nrm_block ?_
        refine nrm_then ?_
        refine reg_text (l := [0, 1]) (by kernel_rfl) ?_
        refine batch_spec (is := [0]) (rest := [1]) (live := [59, 48, 9, 43, 2, 4, 39, 40, 41, 42, 44, 45, 46, 47, 49, 50, 51, 52, 53, 54, 55, 56, 57, 58, 60]) (e' := [(59, .pointer (some ⟨b131, 0 + x79.1 * 2, none⟩)), (48, .slice A107 x79.2.2.length c108), (9, .pointer (some ⟨b92, 0, none⟩)), (43, .pointer (some ⟨b81, off82 + k * 3, none⟩)), (2, .pointer (some ⟨b4, 0, none⟩)), (4, .int .i64 0), (39, .slice A l.length cap), (40, .int .i64 (l.length : Nat)), (41, .int .i64 (k : Nat)), (42, .bool true), (44, .agg #[.int .i64 (x79.1 : Nat), .int .i64 (x79.2.1 : Nat), .slice B85 x79.2.2.length cp86]), (45, .pointer (some ⟨b92, 1, none⟩)), (46, .pointer (some ⟨b92, 2, none⟩)), (47, .slice B85 x79.2.2.length cp86), (49, .pointer (some ⟨b92, 1, none⟩)), (50, .pointer (some ⟨b92, 2, none⟩)), (51, .pointer (some ⟨s, 0, none⟩)), (52, .pointer (some ⟨s, 0, none⟩)), (53, .pointer (some ⟨s, 3, none⟩)), (54, .slice A125 ((setPages st.pages l k).length) c126), (55, .pointer (some ⟨b92, 0, none⟩)), (56, .int .i64 (x79.1 : Nat)), (57, .pointer (some ⟨b92, 1, none⟩)), (58, .agg #[.int .i64 (x79.2.1 : Nat), .slice A107 x79.2.2.length c108]), (60, .int .i64 (IntKind.i64.wrap (((k : Nat) : Int) + 1)))]) (vs := []) (obs := []) hF139 (by kernel_rfl) .nil ?_
        intro a141 hF142
        clear hF139
        have hw143 : IntKind.i64.wrap (((k : Nat) : Int) + 1) = ((k + 1 : Nat) : Int) := by rw [wrap_i64 (by omega) (by omega)]; omega
        rw [hw143] at hF142
        refine batch_spec (is := [1]) (rest := []) (live := [59, 48, 9, 43, 2, 4, 39, 40, 41, 42, 44, 45, 46, 47, 49, 50, 51, 52, 53, 54, 55, 56, 57, 58, 60]) (e' := [(59, .pointer (some ⟨b131, 0 + x79.1 * 2, none⟩)), (48, .slice A107 x79.2.2.length c108), (9, .pointer (some ⟨b92, 0, none⟩)), (43, .pointer (some ⟨b81, off82 + k * 3, none⟩)), (2, .pointer (some ⟨b4, 0, none⟩)), (4, .int .i64 0), (39, .slice A l.length cap), (40, .int .i64 (l.length : Nat)), (41, .int .i64 (k + 1 : Nat)), (42, .bool true), (44, .agg #[.int .i64 (x79.1 : Nat), .int .i64 (x79.2.1 : Nat), .slice B85 x79.2.2.length cp86]), (45, .pointer (some ⟨b92, 1, none⟩)), (46, .pointer (some ⟨b92, 2, none⟩)), (47, .slice B85 x79.2.2.length cp86), (49, .pointer (some ⟨b92, 1, none⟩)), (50, .pointer (some ⟨b92, 2, none⟩)), (51, .pointer (some ⟨s, 0, none⟩)), (52, .pointer (some ⟨s, 0, none⟩)), (53, .pointer (some ⟨s, 3, none⟩)), (54, .slice A125 ((setPages st.pages l k).length) c126), (55, .pointer (some ⟨b92, 0, none⟩)), (56, .int .i64 (x79.1 : Nat)), (57, .pointer (some ⟨b92, 1, none⟩)), (58, .agg #[.int .i64 (x79.2.1 : Nat), .slice A107 x79.2.2.length c108]), (60, .int .i64 (k + 1 : Nat))]) (vs := []) (obs := []) hF142 (by kernel_rfl) .nil ?_
        intro a144 hF145
        clear hF142
        refine ops_done ?_
        have hS146 : Sat w135 (storeA s ⟨st.plate, st.at', st.copies, (setPages st.pages l k).set x79.1 (⟨(x79.2.1 : Nat), x79.2.2⟩ : Page), st.life, false⟩ :: raw b92 (.cells #[.int .i64 (x79.1 : Nat), .int .i64 (x79.2.1 : Nat), .slice A107 x79.2.2.length c108] 43 (0, 0)) :: slA slotT (.slice A107 x79.2.2.length c108) x79.2.2 :: slA slotT (.slice B85 x79.2.2.length cp86) x79.2.2 :: immC b81 (off82 + k * 3) [.int .i64 (x79.1 : Nat), .int .i64 (x79.2.1 : Nat), .slice B85 x79.2.2.length cp86] :: raw b4 (.cells #[.pointer (some ⟨s, 0, none⟩)] 28 (0, 0)) :: slA leafT (.slice A l.length cap) l :: plateA st.plate pl2 :: L) := store_in' (st := ⟨st.plate, st.at', st.copies, (setPages st.pages l k).set x79.1 (⟨(x79.2.1 : Nat), x79.2.2⟩ : Page), st.life, false⟩) (by simp) (Sat_at (Sat_at hS140 0 rfl rfl) 1 rfl rfl)
        have hS147 : Sat w135 (raw b4 (.cells #[.pointer (some ⟨s, 0, none⟩)] 28 (0, 0)) :: slA leafT (.slice A l.length cap) l :: storeA s ⟨st.plate, st.at', st.copies, (setPages st.pages l k).set x79.1 (⟨(x79.2.1 : Nat), x79.2.2⟩ : Page), st.life, false⟩ :: plateA st.plate pl2 :: raw b92 (.cells #[.int .i64 (x79.1 : Nat), .int .i64 (x79.2.1 : Nat), .slice A107 x79.2.2.length c108] 43 (0, 0)) :: slA slotT (.slice A107 x79.2.2.length c108) x79.2.2 :: slA slotT (.slice B85 x79.2.2.length cp86) x79.2.2 :: immC b81 (off82 + k * 3) [.int .i64 (x79.1 : Nat), .int .i64 (x79.2.1 : Nat), .slice B85 x79.2.2.length cp86] :: L) := (Sat_at (Sat_at (Sat_at (Sat_at hS146 7 rfl rfl) 1 rfl rfl) 7 rfl rfl) 7 rfl rfl)
        refine nrm_then ⟨_, ?_, k + 1, rfl, (by omega), (Fits.restr (r := [(2, .pointer (some ⟨b4, 0, none⟩)), (4, .int .i64 0), (39, .slice A l.length cap), (40, .int .i64 (l.length : Nat)), (41, .int .i64 (k + 1 : Nat))]) hF145 (ks := [2, 4, 39, 40, 41]) (by kernel_rfl)).cast (by rfl), (by rw [setPages_succ hx80]; exact (Sat_at (Sat_at (Sat_at (Sat_at hS147 7 rfl rfl).drop 6 rfl rfl).drop 5 rfl rfl).drop 4 rfl rfl).drop)⟩
        omega
      ·
        have hb148 : (decide (((k : Nat) : Int) < ((l.length : Nat) : Int))) = false := decide_eq_false h77
        rw [hb148] at hF76
        refine cond_no hF76 rfl ?_
        refine wp_exit ?_
        refine exit_then ?_
        refine exit_then ?_
        refine exit_block ?_
        refine nrm_then ?_
        refine wp_seq ?_
        refine reg_text (l := [0]) (by kernel_rfl) ?_
        refine batch_spec (is := [0]) (rest := []) (live := [4]) (e' := [(4, .int .i64 0)]) (vs := []) (obs := []) hF76 (by kernel_rfl) .nil ?_
        intro a149 hF150
        clear hF76
        refine ops_done ?_
        refine nrm_then ?_
        refine wp_ret ?_
        refine finish (v := .int .i64 0) (vs := []) (obs := []) hF150 (by kernel_rfl) .nil ?_
        have hS151 : Sat w72 (storeA s ⟨st.plate, st.at', st.copies, setPages st.pages l k, st.life, false⟩ :: plateA st.plate pl2 :: raw b4 (.cells #[.pointer (some ⟨s, 0, none⟩)] 28 (0, 0)) :: slA leafT (.slice A l.length cap) l :: L) := (Sat_at (Sat_at hS74 3 rfl rfl) 3 rfl rfl)
        have hkk : k = l.length := by omega
        subst hkk
        exact .inl ⟨rfl, pl1, pl2, hO1, hO2, (Sat_at (Sat_at hS151 3 rfl rfl).drop 2 rfl rfl).drop⟩
    ·
      clear hF56
      clear hS49 hS50 hS57
      have hS152 : Sat w60 (raw b4 (.cells #[.pointer (some ⟨s, 0, none⟩)] 28 (0, 0)) :: raw b10 (.cells #[.slice A l.length cap] 35 (0, 0)) :: slA leafT (.slice A l.length cap) l :: storeA s ⟨st.plate, st.at', st.copies, st.pages, st.life, true⟩ :: plateA st.plate pl2 :: L) := hS61
      refine batch_spec (is := [4]) (rest := []) (live := [3, 2, 4, 7]) (e' := [(3, .pointer (some ⟨b10, 0, none⟩)), (2, .pointer (some ⟨b4, 0, none⟩)), (4, .int .i64 0), (7, .int .i64 10)]) (vs := []) (obs := []) hF59 (by kernel_rfl) .nil ?_
      intro a153 hF154
      clear hF59
      refine ops_done ?_
      refine nrm_then ?_
      refine wp_seq ?_
      refine reg_text (l := [0, 1]) (by kernel_rfl) ?_
      refine batch_spec (is := [0, 1]) (rest := []) (live := [3, 2, 4, 7, 37]) (e' := [(3, .pointer (some ⟨b10, 0, none⟩)), (2, .pointer (some ⟨b4, 0, none⟩)), (4, .int .i64 0), (7, .int .i64 10), (37, .bool true)]) (vs := []) (obs := []) hF154 (by kernel_rfl) .nil ?_
      intro a155 hF156
      clear hF154
      refine ops_done ?_
      refine nrm_then ?_
      refine cond_yes hF156 rfl ?_
      refine wp_seq ?_
      refine reg_text (l := [0, 1]) (by kernel_rfl) ?_
      refine batch_spec (is := [0, 1]) (rest := []) (live := [3, 2, 4]) (e' := [(3, .pointer (some ⟨b10, 0, none⟩)), (2, .pointer (some ⟨b4, 0, none⟩)), (4, .int .i64 10)]) (vs := []) (obs := []) hF156 (by kernel_rfl) .nil ?_
      intro a157 hF158
      clear hF156
      refine ops_done ?_
      refine nrm_then ?_
      refine wp_ret ?_
      refine ret_then ?_
      refine finish (v := .int .i64 10) (vs := []) (obs := []) hF158 (by kernel_rfl) .nil ?_
      have hS159 : Sat w60 (plateA st.plate pl2 :: raw b4 (.cells #[.pointer (some ⟨s, 0, none⟩)] 28 (0, 0)) :: raw b10 (.cells #[.slice A l.length cap] 35 (0, 0)) :: slA leafT (.slice A l.length cap) l :: storeA s ⟨st.plate, st.at', st.copies, st.pages, st.life, true⟩ :: L) := (Sat_at hS152 4 rfl rfl)
      exact .inr ⟨rfl, pl2, .inr ⟨pl1, hO1, hO2⟩, (Sat_at (Sat_at (Sat_at (Sat_at hS159 4 rfl rfl).drop 3 rfl rfl).drop 2 rfl rfl).drop 1 rfl rfl).drop⟩
  ·
    clear hF44
    clear hS36 hS37 hS45
    have hS160 : Sat w48 (raw b4 (.cells #[.pointer (some ⟨s, 0, none⟩)] 28 (0, 0)) :: slA leafT (.slice A l.length cap) l :: storeA s ⟨st.plate, st.at', st.copies, st.pages, st.life, true⟩ :: plateA st.plate pl1 :: raw b10 (.cells #[.slice A l.length cap] 35 (0, 0)) :: L) := hS49
    refine batch_spec (is := [4]) (rest := []) (live := [3, 2, 4, 6]) (e' := [(3, .pointer (some ⟨b10, 0, none⟩)), (2, .pointer (some ⟨b4, 0, none⟩)), (4, .int .i64 0), (6, .int .i64 10)]) (vs := []) (obs := []) hF47 (by kernel_rfl) .nil ?_
    intro a161 hF162
    clear hF47
    refine ops_done ?_
    refine nrm_then ?_
    refine wp_seq ?_
    refine reg_text (l := [0, 1]) (by kernel_rfl) ?_
    refine batch_spec (is := [0, 1]) (rest := []) (live := [3, 2, 4, 6, 30]) (e' := [(3, .pointer (some ⟨b10, 0, none⟩)), (2, .pointer (some ⟨b4, 0, none⟩)), (4, .int .i64 0), (6, .int .i64 10), (30, .bool true)]) (vs := []) (obs := []) hF162 (by kernel_rfl) .nil ?_
    intro a163 hF164
    clear hF162
    refine ops_done ?_
    refine nrm_then ?_
    refine cond_yes hF164 rfl ?_
    refine wp_seq ?_
    refine reg_text (l := [0, 1]) (by kernel_rfl) ?_
    refine batch_spec (is := [0, 1]) (rest := []) (live := [3, 2, 4]) (e' := [(3, .pointer (some ⟨b10, 0, none⟩)), (2, .pointer (some ⟨b4, 0, none⟩)), (4, .int .i64 10)]) (vs := []) (obs := []) hF164 (by kernel_rfl) .nil ?_
    intro a165 hF166
    clear hF164
    refine ops_done ?_
    refine nrm_then ?_
    refine wp_ret ?_
    refine ret_then ?_
    refine finish (v := .int .i64 10) (vs := []) (obs := []) hF166 (by kernel_rfl) .nil ?_
    have hS167 : Sat w48 (plateA st.plate pl1 :: raw b4 (.cells #[.pointer (some ⟨s, 0, none⟩)] 28 (0, 0)) :: slA leafT (.slice A l.length cap) l :: storeA s ⟨st.plate, st.at', st.copies, st.pages, st.life, true⟩ :: raw b10 (.cells #[.slice A l.length cap] 35 (0, 0)) :: L) := (Sat_at hS160 3 rfl rfl)
    exact .inr ⟨rfl, pl1, .inl hO1, (Sat_at (Sat_at (Sat_at (Sat_at hS167 4 rfl rfl).drop 3 rfl rfl).drop 2 rfl rfl).drop 1 rfl rfl).drop⟩
set_option maxHeartbeats 1000000 in
theorem write0_c {cap : Nat} {A : Option Addr} {l : List LeafM} (hr : readyM pl st = 0) (hc : st.copies < 100000) (hpg : st.pages.length < 100000) (hl1 : l.length = 0) (hall : LeavesOk l st.pages.length st.copies) (hS : Sat w (slA leafT (.slice A l.length cap) l :: storeA s st :: plateA st.plate pl :: L)) :
    Calls Tryd.prog 9 #[.pointer (some ⟨s, 0, none⟩), .slice A l.length cap] w (Ret fun r w' => r = .int .i64 0 ∧ Sat w' (storeA s st :: plateA st.plate pl :: L)) := by
  have hll := hall.len
  refine enter (vs := [.pointer (some ⟨s, 0, none⟩), .slice A l.length cap]) Tryd.func9 rfl Tryd.ntmps9 rfl ?_
  intro a1 hF2
  have hF3 : Fits a1 61 [(0, .pointer (some ⟨s, 0, none⟩)), (1, .slice A l.length cap)] := hF2
  clear hF2
  refine wp_seq ?_
  refine reg_text (l := [0, 1, 2]) (by kernel_rfl) ?_
  refine ops_next ?_
  obtain ⟨b4, w5, hr6, hS7⟩ := comes_new (P := Tryd.prog) (v := .box 28 (.pointer (some ⟨s, 0, none⟩))) (u := fun b => .pointer (some ⟨b, 0, none⟩)) (o := .cells #[.pointer (some ⟨s, 0, none⟩)] 28 (0, 0)) hS (fun w => by kernel_rfl)
  refine op_value (u := .pointer (some ⟨b4, 0, none⟩)) (e' := [(2, .pointer (some ⟨b4, 0, none⟩)), (0, .pointer (some ⟨s, 0, none⟩)), (1, .slice A l.length cap)]) hF3 (by kernel_rfl) hr6 ?_
  intro a8 hF9
  clear hF3 hr6
  clear hS
  refine ops_next ?_
  obtain ⟨b10, w11, hr12, hS13⟩ := comes_new (P := Tryd.prog) (v := .box 35 (.slice A l.length cap)) (u := fun b => .pointer (some ⟨b, 0, none⟩)) (o := .cells #[.slice A l.length cap] 35 (0, 0)) hS7 (fun w => by kernel_rfl)
  refine op_value (u := .pointer (some ⟨b10, 0, none⟩)) (e' := [(3, .pointer (some ⟨b10, 0, none⟩)), (2, .pointer (some ⟨b4, 0, none⟩)), (0, .pointer (some ⟨s, 0, none⟩)), (1, .slice A l.length cap)]) hF9 (by kernel_rfl) hr12 ?_
  intro a14 hF15
  clear hF9 hr12
  clear hS7
  refine batch_spec (is := [2]) (rest := []) (live := [3, 2, 4]) (e' := [(3, .pointer (some ⟨b10, 0, none⟩)), (2, .pointer (some ⟨b4, 0, none⟩)), (4, .int .i64 0)]) (vs := []) (obs := []) hF15 (by kernel_rfl) .nil ?_
  intro a16 hF17
  clear hF15
  refine ops_done ?_
  refine nrm_then ?_
  refine wp_seq ?_
  refine reg_text (l := [0, 1, 2]) (by kernel_rfl) ?_
  refine batch_spec (is := [0]) (rest := [1, 2]) (live := [3, 2, 4, 10]) (e' := [(3, .pointer (some ⟨b10, 0, none⟩)), (2, .pointer (some ⟨b4, 0, none⟩)), (4, .int .i64 0), (10, .pointer (some ⟨s, 0, none⟩))]) (vs := [.pointer (some ⟨s, 0, none⟩)]) (obs := [(⟨b4, 0, none⟩, .pointer (some ⟨s, 0, none⟩))]) hF17 (by kernel_rfl) (.cons (ob hS13 1 rfl rfl) .nil) ?_
  intro a18 hF19
  clear hF17
  refine ops_next ?_
  have hS20 : Sat w11 (storeA s st :: plateA st.plate pl :: raw b10 (.cells #[.slice A l.length cap] 35 (0, 0)) :: raw b4 (.cells #[.pointer (some ⟨s, 0, none⟩)] 28 (0, 0)) :: slA leafT (.slice A l.length cap) l :: L) := (Sat_at (Sat_at hS13 4 rfl rfl) 4 rfl rfl)
  refine op_call (fn := 22) (first := #[]) (cap := #[]) (args := #[.pointer (some ⟨s, 0, none⟩)]) (all := #[.pointer (some ⟨s, 0, none⟩)]) (pe := fun u => [(11, u), (3, .pointer (some ⟨b10, 0, none⟩)), (2, .pointer (some ⟨b4, 0, none⟩)), (4, .int .i64 0), (10, .pointer (some ⟨s, 0, none⟩))]) hF19 (fun u => by kernel_rfl) (by kernel_rfl) (by kernel_rfl) (ready_c hr hS20) ?_
  rintro u w23 a21 ⟨rfl, hS24⟩ hF22
  clear hF19
  clear hS13 hS20
  have hS25 : Sat w23 (storeA s st :: plateA st.plate pl :: raw b10 (.cells #[.slice A l.length cap] 35 (0, 0)) :: raw b4 (.cells #[.pointer (some ⟨s, 0, none⟩)] 28 (0, 0)) :: slA leafT (.slice A l.length cap) l :: L) := hS24
  refine batch_spec (is := [2]) (rest := []) (live := [3, 2, 4, 5]) (e' := [(3, .pointer (some ⟨b10, 0, none⟩)), (2, .pointer (some ⟨b4, 0, none⟩)), (4, .int .i64 0), (5, .int .i64 0)]) (vs := []) (obs := []) hF22 (by kernel_rfl) .nil ?_
  intro a26 hF27
  clear hF22
  refine ops_done ?_
  refine nrm_then ?_
  refine wp_seq ?_
  refine wp_block ?_
  refine wp_seq ?_
  refine reg_text (l := [0, 1, 2]) (by kernel_rfl) ?_
  refine batch_spec (is := [0, 1, 2]) (rest := []) (live := [3, 2, 4, 5, 12]) (e' := [(3, .pointer (some ⟨b10, 0, none⟩)), (2, .pointer (some ⟨b4, 0, none⟩)), (4, .int .i64 0), (5, .int .i64 0), (12, .bool false)]) (vs := []) (obs := []) hF27 (by kernel_rfl) .nil ?_
  intro a28 hF29
  clear hF27
  refine ops_done ?_
  refine nrm_then ?_
  refine cond_no hF29 rfl ?_
  refine wp_seq ?_
  refine reg_text (l := [0, 1, 2, 3, 4]) (by kernel_rfl) ?_
  refine batch_spec (is := [0, 1]) (rest := [2, 3, 4]) (live := [3, 2, 4, 17, 18]) (e' := [(3, .pointer (some ⟨b10, 0, none⟩)), (2, .pointer (some ⟨b4, 0, none⟩)), (4, .int .i64 0), (17, .pointer (some ⟨s, 0, none⟩)), (18, .slice A l.length cap)]) (vs := [.pointer (some ⟨s, 0, none⟩), .slice A l.length cap]) (obs := [(⟨b4, 0, none⟩, .pointer (some ⟨s, 0, none⟩)), (⟨b10, 0, none⟩, .slice A l.length cap)]) hF29 (by kernel_rfl) (.cons (ob hS25 3 rfl rfl) (.cons (ob hS25 2 rfl rfl) .nil)) ?_
  intro a30 hF31
  clear hF29
  refine ops_next ?_
  have hS32 : Sat w23 (slA leafT (.slice A l.length cap) l :: storeA s st :: plateA st.plate pl :: raw b10 (.cells #[.slice A l.length cap] 35 (0, 0)) :: raw b4 (.cells #[.pointer (some ⟨s, 0, none⟩)] 28 (0, 0)) :: L) := (Sat_at (Sat_at hS25 0 rfl rfl) 4 rfl rfl)
  refine op_call (fn := 23) (first := #[]) (cap := #[]) (args := #[.pointer (some ⟨s, 0, none⟩), .slice A l.length cap]) (all := #[.pointer (some ⟨s, 0, none⟩), .slice A l.length cap]) (pe := fun u => [(19, u), (3, .pointer (some ⟨b10, 0, none⟩)), (2, .pointer (some ⟨b4, 0, none⟩)), (4, .int .i64 0), (17, .pointer (some ⟨s, 0, none⟩)), (18, .slice A l.length cap)]) hF31 (fun u => by kernel_rfl) (by kernel_rfl) (by kernel_rfl) (fits_c hpg hc hall hS32) ?_
  rintro u w35 a33 ⟨rfl, hS36⟩ hF34
  clear hF31
  clear hS24 hS25 hS32
  have hS37 : Sat w35 (slA leafT (.slice A l.length cap) l :: storeA s st :: plateA st.plate pl :: raw b10 (.cells #[.slice A l.length cap] 35 (0, 0)) :: raw b4 (.cells #[.pointer (some ⟨s, 0, none⟩)] 28 (0, 0)) :: L) := hS36
  refine batch_spec (is := [3, 4]) (rest := []) (live := [3, 2, 4, 16]) (e' := [(3, .pointer (some ⟨b10, 0, none⟩)), (2, .pointer (some ⟨b4, 0, none⟩)), (4, .int .i64 0), (16, .bool false)]) (vs := []) (obs := []) hF34 (by kernel_rfl) .nil ?_
  intro a38 hF39
  clear hF34
  refine ops_done ?_
  refine nrm_then ?_
  refine cond_no hF39 rfl ?_
  refine wp_seq ?_
  refine reg_text (l := [0, 1, 2, 3]) (by kernel_rfl) ?_
  refine batch_spec (is := [0, 1, 2, 3]) (rest := []) (live := [3, 2, 4, 21]) (e' := [(3, .pointer (some ⟨b10, 0, none⟩)), (2, .pointer (some ⟨b4, 0, none⟩)), (4, .int .i64 0), (21, .bool (((l.length : Nat) : Int) == 0))]) (vs := [.slice A l.length cap]) (obs := [(⟨b10, 0, none⟩, .slice A l.length cap)]) hF39 (by kernel_rfl) (.cons (ob hS37 3 rfl rfl) .nil) ?_
  intro a40 hF41
  clear hF39
  refine ops_done ?_
  refine nrm_then ?_
  have hb42 : (((l.length : Nat) : Int) == 0) = true := by rw [beq_iff_eq]; omega
  rw [hb42] at hF41
  refine cond_yes hF41 rfl ?_
  refine wp_seq ?_
  refine reg_text (l := [0]) (by kernel_rfl) ?_
  refine batch_spec (is := [0]) (rest := []) (live := [3, 2, 4]) (e' := [(3, .pointer (some ⟨b10, 0, none⟩)), (2, .pointer (some ⟨b4, 0, none⟩)), (4, .int .i64 0)]) (vs := []) (obs := []) hF41 (by kernel_rfl) .nil ?_
  intro a43 hF44
  clear hF41
  refine ops_done ?_
  refine nrm_then ?_
  refine wp_ret ?_
  refine ret_block ?_
  refine ret_then ?_
  refine finish (v := .int .i64 0) (vs := []) (obs := []) hF44 (by kernel_rfl) .nil ?_
  have hS45 : Sat w35 (storeA s st :: plateA st.plate pl :: slA leafT (.slice A l.length cap) l :: raw b10 (.cells #[.slice A l.length cap] 35 (0, 0)) :: raw b4 (.cells #[.pointer (some ⟨s, 0, none⟩)] 28 (0, 0)) :: L) := (Sat_at (Sat_at hS37 2 rfl rfl) 2 rfl rfl)
  exact ⟨rfl, (Sat_at (Sat_at (Sat_at hS45 4 rfl rfl).drop 3 rfl rfl).drop 2 rfl rfl).drop⟩
end
end Sl
end Go.Proofs.YtkmlppeligdbaaaDoor

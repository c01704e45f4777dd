/- Opening the store, by the engine. Conditions: none. -/
import Derived.Test.YtkmlppeligdbaaaDoorRec
namespace Go.Proofs.YtkmlppeligdbaaaDoor
namespace Sl
open Go.RowKit SepW Pl Eg
set_option linter.unusedVariables false
set_option linter.unusedSimpArgs false
set_option linter.unusedSectionVars false
set_option maxRecDepth 100000
section
variable {w : World} {L : List Atom} {d : Nat} {pl : PlateM} {P : Int → ByteArray → Prop}
/-- how an opening that went well ends -/
structure OpenOk (P : Int → ByteArray → Prop) (a c m : Nat) (o n : Nat → Ver) (pl pl' : PlateM) (vs : List Ver) : Prop where
  len : vs.length = m
  vrs : ∀ j, j < m → (vs.getD j none = o j ∨ vs.getD j none = n j) ∧ pl'.live ((a + c + j : Nat) : Int) = secOf j (vs.getD j none)
  held : Held pl' P
  count : pl'.count = pl.count
  que : pl'.queue = []
  down : pl'.down = false
  life : pl'.life = pl.life
  armed : pl.armed ≤ 0 → pl'.armed ≤ 0
  whole : (∀ j, j < m → (pl.live ((a + c + j : Nat) : Int)).size ≠ 0) → pl' = pl
structure OpenNo (P : Int → ByteArray → Prop) (pl pl' : PlateM) : Prop where
  held : Held pl' P
  count : pl'.count = pl.count
  que : pl'.queue.length ≤ pl.queue.length + 2000
  down : pl'.down = true
  armed : 0 < pl.armed
  zero : pl'.armed = 0
theorem OpenInv.done {a c m k : Nat} {o n : Nat → Ver} {pl' : PlateM} {vs : List Ver} {tn : Bool} (h : OpenInv P a c m o n pl pl' k vs tn) (hk : ¬ ((k : Nat) : Int) < ((m : Nat) : Int)) (ht : ¬ tn = true) (hq : pl.queue = []) : OpenOk P a c m o n pl pl' vs := by
  have hkm : k = m := by have := h.km; omega
  subst hkm
  exact ⟨h.len, h.vrs, h.held, h.count, (h.torn (by simpa using ht)).trans hq, h.down, h.life, h.armed, fun hw => (h.whole hw).2⟩
theorem OpenInv.synced {a c m k : Nat} {o n : Nat → Ver} {pl1 pl' : PlateM} {vs : List Ver} {tn : Bool} (h : OpenInv P a c m o n pl pl1 k vs tn) (hk : ¬ ((k : Nat) : Int) < ((m : Nat) : Int))
    (hx : Held pl' P ∧ pl'.count = pl1.count ∧ pl'.queue = [] ∧ pl'.down = false ∧ pl'.life = pl1.life ∧ (pl1.armed ≤ 0 → pl'.armed ≤ 0) ∧ (∀ m, pl'.live m = pl1.live m) ∧ pl'.acts = wrap64 (pl1.acts + 1)) (ht : tn = true) : OpenOk P a c m o n pl pl' vs := by
  have hkm : k = m := by have := h.km; omega
  subst hkm
  obtain ⟨x1, x2, x3, x4, x5, x6, x7, x8⟩ := hx
  exact ⟨h.len, fun j hj => ⟨(h.vrs j hj).1, by rw [x7]; exact (h.vrs j hj).2⟩, x1, x2.trans h.count, x3, x4, x5.trans h.life, fun ha => x6 (h.armed ha), fun hw => by have := (h.whole hw).1; rw [ht] at this; cases this⟩
theorem OpenInv.noLoad {a c m k : Nat} {o n : Nat → Ver} {pl1 pl' : PlateM} {vs : List Ver} {tn : Bool} (h : OpenInv P a c m o n pl pl1 k vs tn) (hm : m ≤ 1000) (hl : LoadNo P pl1 pl') : OpenNo P pl pl' :=
  ⟨hl.held, hl.count.trans h.count, by have := hl.que; have := h.que; have := h.km; omega, hl.down, by
    have h1 := hl.armed
    rcases Int.lt_or_le 0 pl.armed with h2 | h2
    · exact h2
    · have := h.armed h2; omega, hl.zero⟩
theorem OpenInv.noSync {a c m k : Nat} {o n : Nat → Ver} {pl1 pl' : PlateM} {vs : List Ver} {tn : Bool} (h : OpenInv P a c m o n pl pl1 k vs tn) (hm : m ≤ 1000)
    (hx : Held pl' P ∧ pl'.count = pl1.count ∧ pl'.queue = pl1.queue ∧ pl'.down = true ∧ 0 < pl1.armed ∧ pl'.armed = 0) : OpenNo P pl pl' := by
  obtain ⟨x1, x2, x3, x4, x5, x6⟩ := hx
  refine ⟨x1, x2.trans h.count, by rw [x3]; have := h.que; have := h.km; omega, x4, ?_, x6⟩
  rcases Int.lt_or_le 0 pl.armed with h2 | h2
  · exact h2
  · have := h.armed h2; omega
theorem down_no (hd : pl.down = false) (hS : Sat w (plateA d pl :: L)) : Calls Tryd.prog 18 #[.pointer (some ⟨d, 0, none⟩)] w fun e w' => e = .returned (.bool false) ∧ w = w' := by
  have h := down_ct hS
  rw [hd] at h
  exact h
set_option maxHeartbeats 2000000 in
theorem open_c {a c m : Nat} {o n : Nat → Ver} (hH : Held pl P) (hd : pl.down = false) (hq0 : pl.queue = []) (ha : a < 100000) (hc : c < 100000) (hc1 : 1 ≤ c) (hc2 : c ≤ 64) (hm1 : 1 ≤ m) (hm : m ≤ 1000) (hcnt : ((a + c + m : Nat) : Int) ≤ pl.count) (hcn2 : pl.count ≤ 1000000) (hrec : ∀ i, i < m → RecI P a c i (o i) (n i)) (hS : Sat w (plateA d pl :: L)) :
    Calls Tryd.prog 6 #[.pointer (some ⟨d, 0, none⟩), .int .i64 (a : Nat), .int .i64 (c : Nat), .int .i64 (m : Nat)] w (Ret fun r w' => (∃ b, r = .tuple #[.pointer (some ⟨b, 0, none⟩), .int .i64 0] ∧ ∃ pl' vs, OpenOk P a c m o n pl pl' vs ∧ Sat w' (storeA b ⟨d, a, c, vs.map pageOf, pl.life, false⟩ :: plateA d pl' :: L)) ∨ (r = .tuple #[.pointer none, .int .i64 10] ∧ ∃ pl', OpenNo P pl pl' ∧ Sat w' (plateA d pl' :: L))) := by
  have hq00 : pl.queue.length = 0 := by rw [hq0]; rfl
  refine enter (vs := [.pointer (some ⟨d, 0, none⟩), .int .i64 (a : Nat), .int .i64 (c : Nat), .int .i64 (m : Nat)]) Tryd.func6 rfl Tryd.ntmps6 rfl ?_
  intro a1 hF2
  have hF3 : Fits a1 91 [(0, .pointer (some ⟨d, 0, none⟩)), (1, .int .i64 (a : Nat)), (2, .int .i64 (c : Nat)), (3, .int .i64 (m : Nat))] := hF2
  clear hF2
  refine wp_seq ?_
  refine reg_text (l := [0, 1]) (by kernel_rfl) ?_
  refine batch_spec (is := [0, 1]) (rest := []) (live := [0, 1, 2, 3, 8, 9]) (e' := [(0, .pointer (some ⟨d, 0, none⟩)), (1, .int .i64 (a : Nat)), (2, .int .i64 (c : Nat)), (3, .int .i64 (m : Nat)), (8, .pointer none), (9, .int .i64 0)]) (vs := []) (obs := []) hF3 (by kernel_rfl) .nil ?_
  intro a4 hF5
  clear hF3
  refine ops_done ?_
  refine nrm_then ?_
  refine wp_seq ?_
  refine wp_block ?_
  refine wp_seq ?_
  refine reg_text (l := [0, 1, 2]) (by kernel_rfl) ?_
  refine batch_spec (is := [0, 1, 2]) (rest := []) (live := [0, 1, 2, 3, 8, 9, 16]) (e' := [(0, .pointer (some ⟨d, 0, none⟩)), (1, .int .i64 (a : Nat)), (2, .int .i64 (c : Nat)), (3, .int .i64 (m : Nat)), (8, .pointer none), (9, .int .i64 0), (16, .bool false)]) (vs := []) (obs := []) hF5 (by kernel_rfl) .nil ?_
  intro a6 hF7
  clear hF5
  refine ops_done ?_
  refine nrm_then ?_
  refine cond_no hF7 rfl ?_
  refine wp_seq ?_
  refine reg_text (l := [0, 1, 2, 3, 4, 5, 6, 7, 8, 9, 10, 11, 12, 13, 14, 15, 16, 17, 18, 19, 20, 21, 22, 23, 24, 25, 26, 27, 28]) (by kernel_rfl) ?_
  refine batch_spec (is := [0, 1, 2]) (rest := [3, 4, 5, 6, 7, 8, 9, 10, 11, 12, 13, 14, 15, 16, 17, 18, 19, 20, 21, 22, 23, 24, 25, 26, 27, 28]) (live := [0, 1, 2, 3, 8, 9, 22]) (e' := [(0, .pointer (some ⟨d, 0, none⟩)), (1, .int .i64 (a : Nat)), (2, .int .i64 (c : Nat)), (3, .int .i64 (m : Nat)), (8, .pointer none), (9, .int .i64 0), (22, .bool (decide (((a : Nat) : Int) < 0)))]) (vs := []) (obs := []) hF7 (by kernel_rfl) .nil ?_
  intro a8 hF9
  clear hF7
  have hb10 : (decide (((a : Nat) : Int) < 0)) = false := decide_eq_false (by omega)
  rw [hb10] at hF9
  refine batch_spec (is := [3, 4, 5, 6]) (rest := [7, 8, 9, 10, 11, 12, 13, 14, 15, 16, 17, 18, 19, 20, 21, 22, 23, 24, 25, 26, 27, 28]) (live := [0, 1, 2, 3, 8, 9, 26]) (e' := [(0, .pointer (some ⟨d, 0, none⟩)), (1, .int .i64 (a : Nat)), (2, .int .i64 (c : Nat)), (3, .int .i64 (m : Nat)), (8, .pointer none), (9, .int .i64 0), (26, .bool (decide (((c : Nat) : Int) < 1)))]) (vs := []) (obs := []) hF9 (by kernel_rfl) .nil ?_
  intro a11 hF12
  clear hF9
  have hb13 : (decide (((c : Nat) : Int) < 1)) = false := decide_eq_false (by omega)
  rw [hb13] at hF12
  refine batch_spec (is := [7, 8, 9, 10]) (rest := [11, 12, 13, 14, 15, 16, 17, 18, 19, 20, 21, 22, 23, 24, 25, 26, 27, 28]) (live := [0, 1, 2, 3, 8, 9, 30]) (e' := [(0, .pointer (some ⟨d, 0, none⟩)), (1, .int .i64 (a : Nat)), (2, .int .i64 (c : Nat)), (3, .int .i64 (m : Nat)), (8, .pointer none), (9, .int .i64 0), (30, .bool (decide (((c : Nat) : Int) > 64)))]) (vs := []) (obs := []) hF12 (by kernel_rfl) .nil ?_
  intro a14 hF15
  clear hF12
  have hb16 : (decide (((c : Nat) : Int) > 64)) = false := decide_eq_false (by omega)
  rw [hb16] at hF15
  refine batch_spec (is := [11, 12, 13, 14]) (rest := [15, 16, 17, 18, 19, 20, 21, 22, 23, 24, 25, 26, 27, 28]) (live := [0, 1, 2, 3, 8, 9, 34]) (e' := [(0, .pointer (some ⟨d, 0, none⟩)), (1, .int .i64 (a : Nat)), (2, .int .i64 (c : Nat)), (3, .int .i64 (m : Nat)), (8, .pointer none), (9, .int .i64 0), (34, .bool (decide (((m : Nat) : Int) < 1)))]) (vs := []) (obs := []) hF15 (by kernel_rfl) .nil ?_
  intro a17 hF18
  clear hF15
  have hb19 : (decide (((m : Nat) : Int) < 1)) = false := decide_eq_false (by omega)
  rw [hb19] at hF18
  refine batch_spec (is := [15, 16, 17, 18]) (rest := [19, 20, 21, 22, 23, 24, 25, 26, 27, 28]) (live := [0, 1, 2, 3, 8, 9, 38]) (e' := [(0, .pointer (some ⟨d, 0, none⟩)), (1, .int .i64 (a : Nat)), (2, .int .i64 (c : Nat)), (3, .int .i64 (m : Nat)), (8, .pointer none), (9, .int .i64 0), (38, .bool (decide (((m : Nat) : Int) > 1024)))]) (vs := []) (obs := []) hF18 (by kernel_rfl) .nil ?_
  intro a20 hF21
  clear hF18
  have hb22 : (decide (((m : Nat) : Int) > 1024)) = false := decide_eq_false (by omega)
  rw [hb22] at hF21
  refine batch_spec (is := [19, 20]) (rest := [21, 22, 23, 24, 25, 26, 27, 28]) (live := [0, 1, 2, 3, 8, 9, 38, 39, 40]) (e' := [(0, .pointer (some ⟨d, 0, none⟩)), (1, .int .i64 (a : Nat)), (2, .int .i64 (c : Nat)), (3, .int .i64 (m : Nat)), (8, .pointer none), (9, .int .i64 0), (38, .bool false), (39, .int .i64 (a : Nat)), (40, .pointer (some ⟨d, 0, none⟩))]) (vs := []) (obs := []) hF21 (by kernel_rfl) .nil ?_
  intro a23 hF24
  clear hF21
  refine ops_next ?_
  refine op_call (fn := 17) (first := #[]) (cap := #[]) (args := #[.pointer (some ⟨d, 0, none⟩)]) (all := #[.pointer (some ⟨d, 0, none⟩)]) (pe := fun u => [(41, u), (0, .pointer (some ⟨d, 0, none⟩)), (1, .int .i64 (a : Nat)), (2, .int .i64 (c : Nat)), (3, .int .i64 (m : Nat)), (8, .pointer none), (9, .int .i64 0), (38, .bool false), (39, .int .i64 (a : Nat)), (40, .pointer (some ⟨d, 0, none⟩))]) hF24 (fun u => by kernel_rfl) (by kernel_rfl) (by kernel_rfl) (pure_c (sectors_ct hS) hS) ?_
  rintro u w27 a25 ⟨rfl, hS28⟩ hF26
  clear hF24
  clear hS
  have hS29 : Sat w27 (plateA d pl :: L) := hS28
  refine batch_spec (is := [22, 23]) (rest := [24, 25, 26, 27, 28]) (live := [0, 1, 2, 3, 8, 9, 38, 39, 43]) (e' := [(0, .pointer (some ⟨d, 0, none⟩)), (1, .int .i64 (a : Nat)), (2, .int .i64 (c : Nat)), (3, .int .i64 (m : Nat)), (8, .pointer none), (9, .int .i64 0), (38, .bool false), (39, .int .i64 (a : Nat)), (43, .int .i64 (IntKind.i64.wrap (pl.count - ((c : Nat) : Int))))]) (vs := []) (obs := []) hF26 (by kernel_rfl) .nil ?_
  intro a30 hF31
  clear hF26
  have hw32 : IntKind.i64.wrap (pl.count - ((c : Nat) : Int)) = (pl.count - ((c : Nat) : Int)) := by rw [wrap_i64 (by omega) (by omega)]
  rw [hw32] at hF31
  refine batch_spec (is := [24, 25]) (rest := [26, 27, 28]) (live := [0, 1, 2, 3, 8, 9, 38, 39, 45]) (e' := [(0, .pointer (some ⟨d, 0, none⟩)), (1, .int .i64 (a : Nat)), (2, .int .i64 (c : Nat)), (3, .int .i64 (m : Nat)), (8, .pointer none), (9, .int .i64 0), (38, .bool false), (39, .int .i64 (a : Nat)), (45, .int .i64 (IntKind.i64.wrap ((pl.count - ((c : Nat) : Int)) - ((m : Nat) : Int))))]) (vs := []) (obs := []) hF31 (by kernel_rfl) .nil ?_
  intro a33 hF34
  clear hF31
  have hw35 : IntKind.i64.wrap ((pl.count - ((c : Nat) : Int)) - ((m : Nat) : Int)) = ((pl.count - ((c : Nat) : Int)) - ((m : Nat) : Int)) := by rw [wrap_i64 (by omega) (by omega)]
  rw [hw35] at hF34
  refine batch_spec (is := [26, 27, 28]) (rest := []) (live := [0, 1, 2, 3, 8, 9, 19]) (e' := [(0, .pointer (some ⟨d, 0, none⟩)), (1, .int .i64 (a : Nat)), (2, .int .i64 (c : Nat)), (3, .int .i64 (m : Nat)), (8, .pointer none), (9, .int .i64 0), (19, .bool (decide (((a : Nat) : Int) > ((pl.count - ((c : Nat) : Int)) - ((m : Nat) : Int)))))]) (vs := []) (obs := []) hF34 (by kernel_rfl) .nil ?_
  intro a36 hF37
  clear hF34
  refine ops_done ?_
  refine nrm_then ?_
  have hb38 : (decide (((a : Nat) : Int) > ((pl.count - ((c : Nat) : Int)) - ((m : Nat) : Int)))) = false := decide_eq_false (by omega)
  rw [hb38] at hF37
  refine cond_no hF37 rfl ?_
  refine wp_seq ?_
  refine reg_text (l := [0, 1, 2]) (by kernel_rfl) ?_
  refine batch_spec (is := [0]) (rest := [1, 2]) (live := [0, 1, 2, 3, 8, 9, 49]) (e' := [(0, .pointer (some ⟨d, 0, none⟩)), (1, .int .i64 (a : Nat)), (2, .int .i64 (c : Nat)), (3, .int .i64 (m : Nat)), (8, .pointer none), (9, .int .i64 0), (49, .pointer (some ⟨d, 0, none⟩))]) (vs := []) (obs := []) hF37 (by kernel_rfl) .nil ?_
  intro a39 hF40
  clear hF37
  refine ops_next ?_
  refine op_call (fn := 18) (first := #[]) (cap := #[]) (args := #[.pointer (some ⟨d, 0, none⟩)]) (all := #[.pointer (some ⟨d, 0, none⟩)]) (pe := fun u => [(50, u), (0, .pointer (some ⟨d, 0, none⟩)), (1, .int .i64 (a : Nat)), (2, .int .i64 (c : Nat)), (3, .int .i64 (m : Nat)), (8, .pointer none), (9, .int .i64 0), (49, .pointer (some ⟨d, 0, none⟩))]) hF40 (fun u => by kernel_rfl) (by kernel_rfl) (by kernel_rfl) (pure_c (down_no hd hS29) hS29) ?_
  rintro u w43 a41 ⟨rfl, hS44⟩ hF42
  clear hF40
  clear hS28 hS29
  have hS45 : Sat w43 (plateA d pl :: L) := hS44
  refine batch_spec (is := [2]) (rest := []) (live := [0, 1, 2, 3, 8, 9, 48]) (e' := [(0, .pointer (some ⟨d, 0, none⟩)), (1, .int .i64 (a : Nat)), (2, .int .i64 (c : Nat)), (3, .int .i64 (m : Nat)), (8, .pointer none), (9, .int .i64 0), (48, .bool false)]) (vs := []) (obs := []) hF42 (by kernel_rfl) .nil ?_
  intro a46 hF47
  clear hF42
  refine ops_done ?_
  refine nrm_then ?_
  refine cond_no hF47 rfl ?_
  refine wp_skip ?_
  refine nrm_block ?_
  refine nrm_then ?_
  refine wp_seq ?_
  refine reg_text (l := [0, 1, 2, 3, 4, 5, 6, 7]) (by kernel_rfl) ?_
  refine batch_spec (is := [0, 1, 2, 3]) (rest := [4, 5, 6, 7]) (live := [0, 3, 8, 9, 51, 52, 53, 54]) (e' := [(0, .pointer (some ⟨d, 0, none⟩)), (3, .int .i64 (m : Nat)), (8, .pointer none), (9, .int .i64 0), (51, .pointer (some ⟨d, 0, none⟩)), (52, .int .i64 (a : Nat)), (53, .int .i64 (c : Nat)), (54, .pointer (some ⟨d, 0, none⟩))]) (vs := []) (obs := []) hF47 (by kernel_rfl) .nil ?_
  intro a48 hF49
  clear hF47
  refine ops_next ?_
  refine op_call (fn := 19) (first := #[]) (cap := #[]) (args := #[.pointer (some ⟨d, 0, none⟩)]) (all := #[.pointer (some ⟨d, 0, none⟩)]) (pe := fun u => [(55, u), (0, .pointer (some ⟨d, 0, none⟩)), (3, .int .i64 (m : Nat)), (8, .pointer none), (9, .int .i64 0), (51, .pointer (some ⟨d, 0, none⟩)), (52, .int .i64 (a : Nat)), (53, .int .i64 (c : Nat)), (54, .pointer (some ⟨d, 0, none⟩))]) hF49 (fun u => by kernel_rfl) (by kernel_rfl) (by kernel_rfl) (pure_c (life_ct hS45) hS45) ?_
  rintro u w52 a50 ⟨rfl, hS53⟩ hF51
  clear hF49
  clear hS44 hS45
  have hS54 : Sat w52 (plateA d pl :: L) := hS53
  refine batch_spec (is := [5]) (rest := [6, 7]) (live := [0, 3, 8, 9, 56]) (e' := [(0, .pointer (some ⟨d, 0, none⟩)), (3, .int .i64 (m : Nat)), (8, .pointer none), (9, .int .i64 0), (56, .agg #[.pointer (some ⟨d, 0, none⟩), .int .i64 (a : Nat), .int .i64 (c : Nat), .slice none 0 0, .int .i64 pl.life, .bool false])]) (vs := []) (obs := []) hF51 (by kernel_rfl) .nil ?_
  intro a55 hF56
  clear hF51
  refine ops_next ?_
  obtain ⟨b57, w58, hr59, hS60⟩ := comes_new (P := Tryd.prog) (v := .box 59 (.agg #[.pointer (some ⟨d, 0, none⟩), .int .i64 (a : Nat), .int .i64 (c : Nat), .slice none 0 0, .int .i64 pl.life, .bool false])) (u := fun b => .pointer (some ⟨b, 0, none⟩)) (o := .cells #[.pointer (some ⟨d, 0, none⟩), .int .i64 (a : Nat), .int .i64 (c : Nat), .slice none 0 0, .int .i64 pl.life, .bool false] 59 (0, 0)) hS54 (fun w => by kernel_rfl)
  refine op_value (u := .pointer (some ⟨b57, 0, none⟩)) (e' := [(57, .pointer (some ⟨b57, 0, none⟩)), (0, .pointer (some ⟨d, 0, none⟩)), (3, .int .i64 (m : Nat)), (8, .pointer none), (9, .int .i64 0), (56, .agg #[.pointer (some ⟨d, 0, none⟩), .int .i64 (a : Nat), .int .i64 (c : Nat), .slice none 0 0, .int .i64 pl.life, .bool false])]) hF56 (by kernel_rfl) hr59 ?_
  intro a61 hF62
  clear hF56 hr59
  clear hS53 hS54
  refine batch_spec (is := [7]) (rest := []) (live := [0, 3, 8, 9, 10]) (e' := [(0, .pointer (some ⟨d, 0, none⟩)), (3, .int .i64 (m : Nat)), (8, .pointer none), (9, .int .i64 0), (10, .pointer (some ⟨b57, 0, none⟩))]) (vs := []) (obs := []) hF62 (by kernel_rfl) .nil ?_
  intro a63 hF64
  clear hF62
  refine ops_done ?_
  refine nrm_then ?_
  refine wp_seq ?_
  refine reg_text (l := [0]) (by kernel_rfl) ?_
  refine batch_spec (is := [0]) (rest := []) (live := [0, 3, 8, 9, 10, 11]) (e' := [(0, .pointer (some ⟨d, 0, none⟩)), (3, .int .i64 (m : Nat)), (8, .pointer none), (9, .int .i64 0), (10, .pointer (some ⟨b57, 0, none⟩)), (11, .bool true)]) (vs := []) (obs := []) hF64 (by kernel_rfl) .nil ?_
  intro a65 hF66
  clear hF64
  refine ops_done ?_
  refine nrm_then ?_
  refine wp_seq ?_
  refine wp_seq ?_
  refine reg_text (l := [0, 1]) (by kernel_rfl) ?_
  refine batch_spec (is := [0, 1]) (rest := []) (live := [0, 8, 9, 10, 11, 58, 59]) (e' := [(0, .pointer (some ⟨d, 0, none⟩)), (8, .pointer none), (9, .int .i64 0), (10, .pointer (some ⟨b57, 0, none⟩)), (11, .bool true), (58, .int .i64 (m : Nat)), (59, .int .i64 0)]) (vs := []) (obs := []) hF66 (by kernel_rfl) .nil ?_
  intro a67 hF68
  clear hF66
  refine ops_done ?_
  refine nrm_then ?_
  refine wp_block ?_
  have hS69 : Sat w58 (rowA pageT 41 none 0 [] :: raw b57 (.cells #[.pointer (some ⟨d, 0, none⟩), .int .i64 (a : Nat), .int .i64 (c : Nat), .slice none 0 0, .int .i64 pl.life, .bool false] 59 (0, 0)) :: plateA d pl :: L) := row_nil' pageT 41 hS60
  have hS70 : Sat w58 (storeA b57 ⟨d, a, c, [], pl.life, false⟩ :: plateA d pl :: L) := store_in' (st := ⟨d, a, c, [], pl.life, false⟩) (by simp) (Sat_at (Sat_at hS69 0 rfl rfl) 1 rfl rfl)
  refine loop_g (fun μ α ω => ∃ k : Nat, ∃ plk : PlateM, ∃ vs : List Ver, ∃ tn : Bool, μ = m - k ∧ (OpenInv P a c m o n pl plk k vs tn) ∧ Fits α 91 [(0, .pointer (some ⟨d, 0, none⟩)), (8, .pointer none), (9, .int .i64 0), (10, .pointer (some ⟨b57, 0, none⟩)), (11, .bool true), (58, .int .i64 (m : Nat)), (59, .int .i64 (k : Nat))] ∧ Sat ω (storeA b57 ⟨d, a, c, vs.map pageOf, pl.life, tn⟩ :: plateA d plk :: L)) _ ⟨0, pl, [], false, rfl, OpenInv.start hH hd, (Fits.restr (r := [(0, .pointer (some ⟨d, 0, none⟩)), (8, .pointer none), (9, .int .i64 0), (10, .pointer (some ⟨b57, 0, none⟩)), (11, .bool true), (58, .int .i64 (m : Nat)), (59, .int .i64 0)]) hF68 (ks := [0, 8, 9, 10, 11, 58, 59]) (by kernel_rfl)).cast (by rfl), hS70⟩ ?_
  rintro m71 a72 w73 ⟨k, plk, vs, tn, rfl, hI, hF74, hS75⟩
  clear hF68
  clear hS60 hS69 hS70
  refine wp_seq ?_
  refine reg_text (l := [0]) (by kernel_rfl) ?_
  refine batch_spec (is := [0]) (rest := []) (live := [0, 8, 9, 10, 11, 58, 59, 60]) (e' := [(0, .pointer (some ⟨d, 0, none⟩)), (8, .pointer none), (9, .int .i64 0), (10, .pointer (some ⟨b57, 0, none⟩)), (11, .bool true), (58, .int .i64 (m : Nat)), (59, .int .i64 (k : Nat)), (60, .bool (decide (((k : Nat) : Int) < ((m : Nat) : Int))))]) (vs := []) (obs := []) hF74 (by kernel_rfl) .nil ?_
  intro a76 hF77
  clear hF74
  refine ops_done ?_
  refine nrm_then ?_
  refine wp_seq ?_
  by_cases h78 : ((k : Nat) : Int) < ((m : Nat) : Int)
  ·
    have hb79 : (decide (((k : Nat) : Int) < ((m : Nat) : Int))) = true := decide_eq_true h78
    rw [hb79] at hF77
    refine cond_yes hF77 rfl ?_
    refine wp_skip ?_
    refine nrm_then ?_
    refine wp_seq ?_
    refine wp_block ?_
    refine wp_seq ?_
    refine reg_text (l := [0, 1]) (by kernel_rfl) ?_
    refine batch_spec (is := [0, 1]) (rest := []) (live := [0, 8, 9, 10, 11, 58, 59, 60, 61, 12]) (e' := [(0, .pointer (some ⟨d, 0, none⟩)), (8, .pointer none), (9, .int .i64 0), (10, .pointer (some ⟨b57, 0, none⟩)), (11, .bool true), (58, .int .i64 (m : Nat)), (59, .int .i64 (k : Nat)), (60, .bool true), (61, .int .i64 (k : Nat)), (12, .int .i64 (k : Nat))]) (vs := []) (obs := []) hF77 (by kernel_rfl) .nil ?_
    intro a80 hF81
    clear hF77
    refine ops_done ?_
    refine nrm_then ?_
    refine wp_seq ?_
    refine reg_text (l := [0, 1, 2, 3, 4, 5, 6, 7]) (by kernel_rfl) ?_
    refine batch_spec (is := [0, 1]) (rest := [2, 3, 4, 5, 6, 7]) (live := [0, 8, 9, 10, 11, 58, 59, 60, 61, 12, 63, 64]) (e' := [(0, .pointer (some ⟨d, 0, none⟩)), (8, .pointer none), (9, .int .i64 0), (10, .pointer (some ⟨b57, 0, none⟩)), (11, .bool true), (58, .int .i64 (m : Nat)), (59, .int .i64 (k : Nat)), (60, .bool true), (61, .int .i64 (k : Nat)), (12, .int .i64 (k : Nat)), (63, .pointer (some ⟨b57, 0, none⟩)), (64, .int .i64 (k : Nat))]) (vs := []) (obs := []) hF81 (by kernel_rfl) .nil ?_
    intro a82 hF83
    clear hF81
    refine ops_next ?_
    have hq1 : ((a + c + k : Nat) : Int) < plk.count := by rw [hI.count]; omega
    have hq2 : plk.queue.length < 900000 := by have := hI.que; have := hI.km; omega
    have hq3 : (vs.map pageOf).length < 100000 := by rw [List.length_map, hI.len]; omega
    refine op_call (fn := 20) (first := #[]) (cap := #[]) (args := #[.pointer (some ⟨b57, 0, none⟩), .int .i64 (k : Nat)]) (all := #[.pointer (some ⟨b57, 0, none⟩), .int .i64 (k : Nat)]) (pe := fun u => [(65, u), (0, .pointer (some ⟨d, 0, none⟩)), (8, .pointer none), (9, .int .i64 0), (10, .pointer (some ⟨b57, 0, none⟩)), (11, .bool true), (58, .int .i64 (m : Nat)), (59, .int .i64 (k : Nat)), (60, .bool true), (61, .int .i64 (k : Nat)), (12, .int .i64 (k : Nat)), (63, .pointer (some ⟨b57, 0, none⟩)), (64, .int .i64 (k : Nat))]) hF83 (fun u => by kernel_rfl) (by kernel_rfl) (by kernel_rfl) (load_c (st := ⟨d, a, c, vs.map pageOf, pl.life, tn⟩) (o := o k) (n := n k) hI.held (hrec k (by omega)) (by omega) hI.down ha hc hq1 hq2 hq3 hS75) ?_
    rintro u w86 a84 (⟨rfl, ver, pl2, tn2, hl, hS87⟩ | ⟨rfl, pl2, hl, hS87⟩) hF85
    ·
      clear hF83
      clear hS75
      have hS88 : Sat w86 (storeA b57 ⟨d, a, c, vs.map pageOf ++ [pageOf ver], pl.life, tn2⟩ :: plateA d pl2 :: L) := hS87
      refine batch_spec (is := [3, 4, 5, 6, 7]) (rest := []) (live := [65, 0, 8, 9, 10, 11, 58, 59, 60, 61, 12, 63, 64, 62, 66, 67, 13, 14]) (e' := [(65, .tuple #[.bool true, .int .i64 0]), (0, .pointer (some ⟨d, 0, none⟩)), (8, .pointer none), (9, .int .i64 0), (10, .pointer (some ⟨b57, 0, none⟩)), (11, .bool true), (58, .int .i64 (m : Nat)), (59, .int .i64 (k : Nat)), (60, .bool true), (61, .int .i64 (k : Nat)), (12, .int .i64 (k : Nat)), (63, .pointer (some ⟨b57, 0, none⟩)), (64, .int .i64 (k : Nat)), (62, .tuple #[.bool true, .int .i64 0]), (66, .bool true), (67, .int .i64 0), (13, .bool true), (14, .int .i64 0)]) (vs := []) (obs := []) hF85 (by kernel_rfl) .nil ?_
      intro a89 hF90
      clear hF85
      refine ops_done ?_
      refine nrm_then ?_
      refine wp_seq ?_
      refine wp_seq ?_
      refine reg_text (l := [0, 1]) (by kernel_rfl) ?_
      refine batch_spec (is := [0, 1]) (rest := []) (live := [65, 0, 8, 9, 10, 11, 58, 59, 60, 61, 12, 63, 64, 62, 66, 67, 13, 14, 68, 69]) (e' := [(65, .tuple #[.bool true, .int .i64 0]), (0, .pointer (some ⟨d, 0, none⟩)), (8, .pointer none), (9, .int .i64 0), (10, .pointer (some ⟨b57, 0, none⟩)), (11, .bool true), (58, .int .i64 (m : Nat)), (59, .int .i64 (k : Nat)), (60, .bool true), (61, .int .i64 (k : Nat)), (12, .int .i64 (k : Nat)), (63, .pointer (some ⟨b57, 0, none⟩)), (64, .int .i64 (k : Nat)), (62, .tuple #[.bool true, .int .i64 0]), (66, .bool true), (67, .int .i64 0), (13, .bool true), (14, .int .i64 0), (68, .int .i64 0), (69, .bool false)]) (vs := []) (obs := []) hF90 (by kernel_rfl) .nil ?_
      intro a91 hF92
      clear hF90
      refine ops_done ?_
      refine nrm_then ?_
      refine cond_no hF92 rfl ?_
      refine wp_skip ?_
      refine nrm_then ?_
      refine reg_text (l := [0, 1, 2, 3, 4]) (by kernel_rfl) ?_
      refine batch_spec (is := [0, 1, 2, 3, 4]) (rest := []) (live := [65, 0, 8, 9, 10, 11, 58, 59, 60, 61, 12, 63, 64, 62, 66, 67, 13, 14, 68, 69, 71, 72, 73, 74]) (e' := [(65, .tuple #[.bool true, .int .i64 0]), (0, .pointer (some ⟨d, 0, none⟩)), (8, .pointer none), (9, .int .i64 0), (10, .pointer (some ⟨b57, 0, none⟩)), (11, .bool true), (58, .int .i64 (m : Nat)), (59, .int .i64 (k : Nat)), (60, .bool true), (61, .int .i64 (k : Nat)), (12, .int .i64 (k : Nat)), (63, .pointer (some ⟨b57, 0, none⟩)), (64, .int .i64 (k : Nat)), (62, .tuple #[.bool true, .int .i64 0]), (66, .bool true), (67, .int .i64 0), (13, .bool true), (14, .int .i64 0), (68, .int .i64 0), (69, .bool false), (71, .bool true), (72, .bool true), (73, .bool true), (74, .bool true)]) (vs := []) (obs := []) hF92 (by kernel_rfl) .nil ?_
      intro a93 hF94
      clear hF92
      refine ops_done ?_
      refine nrm_block ?_
      refine nrm_then ?_
      refine reg_text (l := [0, 1]) (by kernel_rfl) ?_
      refine batch_spec (is := [0]) (rest := [1]) (live := [65, 0, 8, 9, 10, 11, 58, 59, 60, 61, 12, 63, 64, 62, 66, 67, 13, 14, 68, 69, 71, 72, 73, 74, 75]) (e' := [(65, .tuple #[.bool true, .int .i64 0]), (0, .pointer (some ⟨d, 0, none⟩)), (8, .pointer none), (9, .int .i64 0), (10, .pointer (some ⟨b57, 0, none⟩)), (11, .bool true), (58, .int .i64 (m : Nat)), (59, .int .i64 (k : Nat)), (60, .bool true), (61, .int .i64 (k : Nat)), (12, .int .i64 (k : Nat)), (63, .pointer (some ⟨b57, 0, none⟩)), (64, .int .i64 (k : Nat)), (62, .tuple #[.bool true, .int .i64 0]), (66, .bool true), (67, .int .i64 0), (13, .bool true), (14, .int .i64 0), (68, .int .i64 0), (69, .bool false), (71, .bool true), (72, .bool true), (73, .bool true), (74, .bool true), (75, .int .i64 (IntKind.i64.wrap (((k : Nat) : Int) + 1)))]) (vs := []) (obs := []) hF94 (by kernel_rfl) .nil ?_
      intro a95 hF96
      clear hF94
      have hw97 : IntKind.i64.wrap (((k : Nat) : Int) + 1) = ((k + 1 : Nat) : Int) := by rw [wrap_i64 (by omega) (by omega)]; omega
      rw [hw97] at hF96
      refine batch_spec (is := [1]) (rest := []) (live := [65, 0, 8, 9, 10, 11, 58, 59, 60, 61, 12, 63, 64, 62, 66, 67, 13, 14, 68, 69, 71, 72, 73, 74, 75]) (e' := [(65, .tuple #[.bool true, .int .i64 0]), (0, .pointer (some ⟨d, 0, none⟩)), (8, .pointer none), (9, .int .i64 0), (10, .pointer (some ⟨b57, 0, none⟩)), (11, .bool true), (58, .int .i64 (m : Nat)), (59, .int .i64 (k + 1 : Nat)), (60, .bool true), (61, .int .i64 (k : Nat)), (12, .int .i64 (k : Nat)), (63, .pointer (some ⟨b57, 0, none⟩)), (64, .int .i64 (k : Nat)), (62, .tuple #[.bool true, .int .i64 0]), (66, .bool true), (67, .int .i64 0), (13, .bool true), (14, .int .i64 0), (68, .int .i64 0), (69, .bool false), (71, .bool true), (72, .bool true), (73, .bool true), (74, .bool true), (75, .int .i64 (k + 1 : Nat))]) (vs := []) (obs := []) hF96 (by kernel_rfl) .nil ?_
      intro a98 hF99
      clear hF96
      refine ops_done ?_
      refine nrm_then ⟨_, ?_, k + 1, pl2, vs ++ [ver], tn2, rfl, hI.next (st := ⟨d, a, c, vs.map pageOf, pl.life, tn⟩) (by omega) rfl hl, (Fits.restr (r := [(0, .pointer (some ⟨d, 0, none⟩)), (8, .pointer none), (9, .int .i64 0), (10, .pointer (some ⟨b57, 0, none⟩)), (11, .bool true), (58, .int .i64 (m : Nat)), (59, .int .i64 (k + 1 : Nat))]) hF99 (ks := [0, 8, 9, 10, 11, 58, 59]) (by kernel_rfl)).cast (by rfl), (by rw [List.map_append]; exact hS88)⟩
      omega
    ·
      clear hF83
      clear hS75
      have hS100 : Sat w86 (storeA b57 ⟨d, a, c, vs.map pageOf, pl.life, tn⟩ :: plateA d pl2 :: L) := hS87
      refine batch_spec (is := [3, 4, 5, 6, 7]) (rest := []) (live := [65, 0, 8, 9, 10, 11, 58, 59, 60, 61, 12, 63, 64, 62, 66, 67, 13, 14]) (e' := [(65, .tuple #[.bool false, .int .i64 10]), (0, .pointer (some ⟨d, 0, none⟩)), (8, .pointer none), (9, .int .i64 0), (10, .pointer (some ⟨b57, 0, none⟩)), (11, .bool true), (58, .int .i64 (m : Nat)), (59, .int .i64 (k : Nat)), (60, .bool true), (61, .int .i64 (k : Nat)), (12, .int .i64 (k : Nat)), (63, .pointer (some ⟨b57, 0, none⟩)), (64, .int .i64 (k : Nat)), (62, .tuple #[.bool false, .int .i64 10]), (66, .bool false), (67, .int .i64 10), (13, .bool false), (14, .int .i64 10)]) (vs := []) (obs := []) hF85 (by kernel_rfl) .nil ?_
      intro a101 hF102
      clear hF85
      refine ops_done ?_
      refine nrm_then ?_
      refine wp_seq ?_
      refine wp_seq ?_
      refine reg_text (l := [0, 1]) (by kernel_rfl) ?_
      refine batch_spec (is := [0, 1]) (rest := []) (live := [65, 0, 8, 9, 10, 11, 58, 59, 60, 61, 12, 63, 64, 62, 66, 67, 13, 14, 68, 69]) (e' := [(65, .tuple #[.bool false, .int .i64 10]), (0, .pointer (some ⟨d, 0, none⟩)), (8, .pointer none), (9, .int .i64 0), (10, .pointer (some ⟨b57, 0, none⟩)), (11, .bool true), (58, .int .i64 (m : Nat)), (59, .int .i64 (k : Nat)), (60, .bool true), (61, .int .i64 (k : Nat)), (12, .int .i64 (k : Nat)), (63, .pointer (some ⟨b57, 0, none⟩)), (64, .int .i64 (k : Nat)), (62, .tuple #[.bool false, .int .i64 10]), (66, .bool false), (67, .int .i64 10), (13, .bool false), (14, .int .i64 10), (68, .int .i64 10), (69, .bool true)]) (vs := []) (obs := []) hF102 (by kernel_rfl) .nil ?_
      intro a103 hF104
      clear hF102
      refine ops_done ?_
      refine nrm_then ?_
      refine cond_yes hF104 rfl ?_
      refine wp_seq ?_
      refine reg_text (l := [0, 1, 2]) (by kernel_rfl) ?_
      refine batch_spec (is := [0, 1, 2]) (rest := []) (live := [65, 0, 8, 9, 10, 11, 58, 59, 60, 61, 12, 63, 64, 62, 66, 67, 13, 14, 68, 69, 70]) (e' := [(65, .tuple #[.bool false, .int .i64 10]), (0, .pointer (some ⟨d, 0, none⟩)), (8, .pointer none), (9, .int .i64 10), (10, .pointer (some ⟨b57, 0, none⟩)), (11, .bool true), (58, .int .i64 (m : Nat)), (59, .int .i64 (k : Nat)), (60, .bool true), (61, .int .i64 (k : Nat)), (12, .int .i64 (k : Nat)), (63, .pointer (some ⟨b57, 0, none⟩)), (64, .int .i64 (k : Nat)), (62, .tuple #[.bool false, .int .i64 10]), (66, .bool false), (67, .int .i64 10), (13, .bool false), (14, .int .i64 10), (68, .int .i64 10), (69, .bool true), (70, .int .i64 10)]) (vs := []) (obs := []) hF104 (by kernel_rfl) .nil ?_
      intro a105 hF106
      clear hF104
      refine ops_done ?_
      refine nrm_then ?_
      refine wp_ret ?_
      refine ret_then ?_
      refine ret_block ?_
      refine ret_then ?_
      refine ret_then ?_
      refine ret_block ?_
      refine ret_then ?_
      refine finish (v := .tuple #[.pointer none, .int .i64 10]) (vs := []) (obs := []) hF106 (by kernel_rfl) .nil ?_
      have hS107 : Sat w86 (plateA d pl2 :: storeA b57 ⟨d, a, c, vs.map pageOf, pl.life, tn⟩ :: L) := (Sat_at hS100 1 rfl rfl)
      exact .inr ⟨rfl, pl2, hI.noLoad hm hl, (Sat_at hS107 1 rfl rfl).drop⟩
  ·
    have hb108 : (decide (((k : Nat) : Int) < ((m : Nat) : Int))) = false := decide_eq_false h78
    rw [hb108] at hF77
    refine cond_no hF77 rfl ?_
    refine wp_exit ?_
    refine exit_then ?_
    refine exit_then ?_
    refine exit_block ?_
    refine nrm_then ?_
    refine wp_seq ?_
    refine wp_seq ?_
    refine reg_text (l := [0, 1, 2, 3]) (by kernel_rfl) ?_
    obtain ⟨A109, c110, hS111⟩ := store_out (Sat_at hS75 0 rfl rfl)
    have hS112 : Sat w73 (raw b57 (.cells #[.pointer (some ⟨d, 0, none⟩), .int .i64 (a : Nat), .int .i64 (c : Nat), .slice A109 ((vs.map pageOf).length) c110, .int .i64 pl.life, .bool tn] 59 (0, 0)) :: rowA pageT 41 A109 c110 (vs.map pageOf) :: plateA d plk :: L) := hS111
    refine batch_spec (is := [0, 1, 2, 3]) (rest := []) (live := [0, 8, 9, 10, 11, 79]) (e' := [(0, .pointer (some ⟨d, 0, none⟩)), (8, .pointer none), (9, .int .i64 0), (10, .pointer (some ⟨b57, 0, none⟩)), (11, .bool true), (79, .bool tn)]) (vs := [.bool tn]) (obs := [(⟨b57, 5, none⟩, .bool tn)]) hF77 (by kernel_rfl) (.cons (ob hS112 0 rfl rfl) .nil) ?_
    intro a113 hF114
    clear hF77
    refine ops_done ?_
    refine nrm_then ?_
    by_cases h115 : tn = true
    ·
      have hb116 : tn = true := by simp [h115]
      rw [hb116] at hF114
      refine cond_yes hF114 rfl ?_
      refine wp_seq ?_
      refine reg_text (l := [0, 1, 2]) (by kernel_rfl) ?_
      refine batch_spec (is := [0]) (rest := [1, 2]) (live := [8, 9, 10, 11, 80]) (e' := [(8, .pointer none), (9, .int .i64 0), (10, .pointer (some ⟨b57, 0, none⟩)), (11, .bool true), (80, .pointer (some ⟨d, 0, none⟩))]) (vs := []) (obs := []) hF114 (by kernel_rfl) .nil ?_
      intro a117 hF118
      clear hF114
      refine ops_next ?_
      have hS119 : Sat w73 (plateA d plk :: raw b57 (.cells #[.pointer (some ⟨d, 0, none⟩), .int .i64 (a : Nat), .int .i64 (c : Nat), .slice A109 ((vs.map pageOf).length) c110, .int .i64 pl.life, .bool tn] 59 (0, 0)) :: rowA pageT 41 A109 c110 (vs.map pageOf) :: L) := (Sat_at hS112 2 rfl rfl)
      refine op_call (fn := 21) (first := #[]) (cap := #[]) (args := #[.pointer (some ⟨d, 0, none⟩)]) (all := #[.pointer (some ⟨d, 0, none⟩)]) (pe := fun u => [(81, u), (8, .pointer none), (9, .int .i64 0), (10, .pointer (some ⟨b57, 0, none⟩)), (11, .bool true), (80, .pointer (some ⟨d, 0, none⟩))]) hF118 (fun u => by kernel_rfl) (by kernel_rfl) (by kernel_rfl) (sync_c hI.held hI.down (by rw [hI.count]; omega) (by have := hI.que; have := hI.km; omega) hS119) ?_
      rintro u w122 a120 (⟨rfl, pl2, hx, hS123⟩ | ⟨rfl, pl2, hx, hS123⟩) hF121
      ·
        clear hF118
        clear hS75 hS111 hS112 hS119
        have hS124 : Sat w122 (plateA d pl2 :: raw b57 (.cells #[.pointer (some ⟨d, 0, none⟩), .int .i64 (a : Nat), .int .i64 (c : Nat), .slice A109 ((vs.map pageOf).length) c110, .int .i64 pl.life, .bool tn] 59 (0, 0)) :: rowA pageT 41 A109 c110 (vs.map pageOf) :: L) := hS123
        refine batch_spec (is := [2]) (rest := []) (live := [8, 9, 10, 11, 15]) (e' := [(8, .pointer none), (9, .int .i64 0), (10, .pointer (some ⟨b57, 0, none⟩)), (11, .bool true), (15, .int .i64 0)]) (vs := []) (obs := []) hF121 (by kernel_rfl) .nil ?_
        intro a125 hF126
        clear hF121
        refine ops_done ?_
        refine nrm_then ?_
        refine wp_seq ?_
        refine reg_text (l := [0, 1]) (by kernel_rfl) ?_
        refine batch_spec (is := [0, 1]) (rest := []) (live := [8, 9, 10, 11, 15, 83]) (e' := [(8, .pointer none), (9, .int .i64 0), (10, .pointer (some ⟨b57, 0, none⟩)), (11, .bool true), (15, .int .i64 0), (83, .bool false)]) (vs := []) (obs := []) hF126 (by kernel_rfl) .nil ?_
        intro a127 hF128
        clear hF126
        refine ops_done ?_
        refine nrm_then ?_
        refine cond_no hF128 rfl ?_
        refine wp_skip ?_
        refine nrm_then ?_
        refine wp_seq ?_
        refine reg_text (l := [0, 1, 2, 3]) (by kernel_rfl) ?_
        refine batch_spec (is := [0, 1, 2]) (rest := [3]) (live := [8, 9, 10, 11, 87]) (e' := [(8, .pointer none), (9, .int .i64 0), (10, .pointer (some ⟨b57, 0, none⟩)), (11, .bool true), (87, .pointer (some ⟨b57, 5, none⟩))]) (vs := []) (obs := []) hF128 (by kernel_rfl) .nil ?_
        intro a129 hF130
        clear hF128
        refine ops_next ?_
        obtain ⟨w131, hr132, hS133⟩ := comes_store (P := Tryd.prog) (t' := 4) (b := b57) (j := 5) (x := .bool false) (vs := [.bool false]) (c' := #[.pointer (some ⟨d, 0, none⟩), .int .i64 (a : Nat), .int .i64 (c : Nat), .slice A109 ((vs.map pageOf).length) c110, .int .i64 pl.life, .bool false]) hS124 1 rfl rfl rfl (by kernel_rfl) rfl rfl rfl
        refine op_value (u := undef) (e' := [(8, .pointer none), (9, .int .i64 0), (10, .pointer (some ⟨b57, 0, none⟩)), (11, .bool true), (87, .pointer (some ⟨b57, 5, none⟩))]) hF130 (by kernel_rfl) hr132 ?_
        intro a134 hF135
        clear hF130 hr132
        clear hS123 hS124
        have hS136 : Sat w131 (raw b57 (.cells #[.pointer (some ⟨d, 0, none⟩), .int .i64 (a : Nat), .int .i64 (c : Nat), .slice A109 ((vs.map pageOf).length) c110, .int .i64 pl.life, .bool false] 59 (0, 0)) :: plateA d pl2 :: rowA pageT 41 A109 c110 (vs.map pageOf) :: L) := hS133
        refine ops_done ?_
        refine nrm_then ?_
        refine wp_seq ?_
        refine wp_seq ?_
        refine reg_text (l := [0, 1]) (by kernel_rfl) ?_
        refine batch_spec (is := [0, 1]) (rest := []) (live := [8, 9, 10, 89]) (e' := [(8, .pointer none), (9, .int .i64 0), (10, .pointer (some ⟨b57, 0, none⟩)), (89, .bool false)]) (vs := []) (obs := []) hF135 (by kernel_rfl) .nil ?_
        intro a137 hF138
        clear hF135
        refine ops_done ?_
        refine nrm_then ?_
        refine cond_no hF138 rfl ?_
        refine wp_skip ?_
        refine nrm_then ?_
        refine wp_seq ?_
        refine reg_text (l := [0, 1, 2]) (by kernel_rfl) ?_
        refine batch_spec (is := [0, 1, 2]) (rest := []) (live := [8, 9]) (e' := [(8, .pointer (some ⟨b57, 0, none⟩)), (9, .int .i64 0)]) (vs := []) (obs := []) hF138 (by kernel_rfl) .nil ?_
        intro a139 hF140
        clear hF138
        refine ops_done ?_
        refine nrm_then ?_
        refine wp_ret ?_
        refine finish (v := .tuple #[.pointer (some ⟨b57, 0, none⟩), .int .i64 0]) (vs := []) (obs := []) hF140 (by kernel_rfl) .nil ?_
        have hS141 : Sat w131 (storeA b57 ⟨d, a, c, vs.map pageOf, pl.life, false⟩ :: plateA d pl2 :: L) := store_in' (st := ⟨d, a, c, vs.map pageOf, pl.life, false⟩) (by simp) (Sat_at (Sat_at hS136 2 rfl rfl) 1 rfl rfl)
        exact .inl ⟨_, rfl, pl2, vs, hI.synced h78 hx h115, hS141⟩
      ·
        clear hF118
        clear hS75 hS111 hS112 hS119
        have hS142 : Sat w122 (plateA d pl2 :: raw b57 (.cells #[.pointer (some ⟨d, 0, none⟩), .int .i64 (a : Nat), .int .i64 (c : Nat), .slice A109 ((vs.map pageOf).length) c110, .int .i64 pl.life, .bool tn] 59 (0, 0)) :: rowA pageT 41 A109 c110 (vs.map pageOf) :: L) := hS123
        refine batch_spec (is := [2]) (rest := []) (live := [8, 9, 10, 11, 15]) (e' := [(8, .pointer none), (9, .int .i64 0), (10, .pointer (some ⟨b57, 0, none⟩)), (11, .bool true), (15, .int .i64 10)]) (vs := []) (obs := []) hF121 (by kernel_rfl) .nil ?_
        intro a143 hF144
        clear hF121
        refine ops_done ?_
        refine nrm_then ?_
        refine wp_seq ?_
        refine reg_text (l := [0, 1]) (by kernel_rfl) ?_
        refine batch_spec (is := [0, 1]) (rest := []) (live := [8, 9, 10, 11, 15, 83]) (e' := [(8, .pointer none), (9, .int .i64 0), (10, .pointer (some ⟨b57, 0, none⟩)), (11, .bool true), (15, .int .i64 10), (83, .bool true)]) (vs := []) (obs := []) hF144 (by kernel_rfl) .nil ?_
        intro a145 hF146
        clear hF144
        refine ops_done ?_
        refine nrm_then ?_
        refine cond_yes hF146 rfl ?_
        refine wp_seq ?_
        refine reg_text (l := [0, 1, 2]) (by kernel_rfl) ?_
        refine batch_spec (is := [0, 1, 2]) (rest := []) (live := [8, 9, 10, 11]) (e' := [(8, .pointer none), (9, .int .i64 10), (10, .pointer (some ⟨b57, 0, none⟩)), (11, .bool true)]) (vs := []) (obs := []) hF146 (by kernel_rfl) .nil ?_
        intro a147 hF148
        clear hF146
        refine ops_done ?_
        refine nrm_then ?_
        refine wp_ret ?_
        refine ret_then ?_
        refine finish (v := .tuple #[.pointer none, .int .i64 10]) (vs := []) (obs := []) hF148 (by kernel_rfl) .nil ?_
        exact .inr ⟨rfl, pl2, hI.noSync hm hx, (Sat_at (Sat_at hS142 2 rfl rfl).drop 1 rfl rfl).drop⟩
    ·
      have hb149 : tn = false := by simp [h115]
      rw [hb149] at hF114
      refine cond_no hF114 rfl ?_
      refine wp_skip ?_
      refine nrm_then ?_
      refine wp_seq ?_
      refine reg_text (l := [0, 1, 2, 3]) (by kernel_rfl) ?_
      refine batch_spec (is := [0, 1, 2]) (rest := [3]) (live := [8, 9, 10, 11, 87]) (e' := [(8, .pointer none), (9, .int .i64 0), (10, .pointer (some ⟨b57, 0, none⟩)), (11, .bool true), (87, .pointer (some ⟨b57, 5, none⟩))]) (vs := []) (obs := []) hF114 (by kernel_rfl) .nil ?_
      intro a150 hF151
      clear hF114
      refine ops_next ?_
      obtain ⟨w152, hr153, hS154⟩ := comes_store (P := Tryd.prog) (t' := 4) (b := b57) (j := 5) (x := .bool false) (vs := [.bool false]) (c' := #[.pointer (some ⟨d, 0, none⟩), .int .i64 (a : Nat), .int .i64 (c : Nat), .slice A109 ((vs.map pageOf).length) c110, .int .i64 pl.life, .bool false]) hS112 0 rfl rfl rfl (by kernel_rfl) rfl rfl rfl
      refine op_value (u := undef) (e' := [(8, .pointer none), (9, .int .i64 0), (10, .pointer (some ⟨b57, 0, none⟩)), (11, .bool true), (87, .pointer (some ⟨b57, 5, none⟩))]) hF151 (by kernel_rfl) hr153 ?_
      intro a155 hF156
      clear hF151 hr153
      clear hS75 hS111 hS112
      have hS157 : Sat w152 (raw b57 (.cells #[.pointer (some ⟨d, 0, none⟩), .int .i64 (a : Nat), .int .i64 (c : Nat), .slice A109 ((vs.map pageOf).length) c110, .int .i64 pl.life, .bool false] 59 (0, 0)) :: rowA pageT 41 A109 c110 (vs.map pageOf) :: plateA d plk :: L) := hS154
      refine ops_done ?_
      refine nrm_then ?_
      refine wp_seq ?_
      refine wp_seq ?_
      refine reg_text (l := [0, 1]) (by kernel_rfl) ?_
      refine batch_spec (is := [0, 1]) (rest := []) (live := [8, 9, 10, 89]) (e' := [(8, .pointer none), (9, .int .i64 0), (10, .pointer (some ⟨b57, 0, none⟩)), (89, .bool false)]) (vs := []) (obs := []) hF156 (by kernel_rfl) .nil ?_
      intro a158 hF159
      clear hF156
      refine ops_done ?_
      refine nrm_then ?_
      refine cond_no hF159 rfl ?_
      refine wp_skip ?_
      refine nrm_then ?_
      refine wp_seq ?_
      refine reg_text (l := [0, 1, 2]) (by kernel_rfl) ?_
      refine batch_spec (is := [0, 1, 2]) (rest := []) (live := [8, 9]) (e' := [(8, .pointer (some ⟨b57, 0, none⟩)), (9, .int .i64 0)]) (vs := []) (obs := []) hF159 (by kernel_rfl) .nil ?_
      intro a160 hF161
      clear hF159
      refine ops_done ?_
      refine nrm_then ?_
      refine wp_ret ?_
      refine finish (v := .tuple #[.pointer (some ⟨b57, 0, none⟩), .int .i64 0]) (vs := []) (obs := []) hF161 (by kernel_rfl) .nil ?_
      have hS162 : Sat w152 (storeA b57 ⟨d, a, c, vs.map pageOf, pl.life, false⟩ :: plateA d plk :: L) := store_in' (st := ⟨d, a, c, vs.map pageOf, pl.life, false⟩) (by simp) (Sat_at (Sat_at hS157 1 rfl rfl) 1 rfl rfl)
      exact .inl ⟨_, rfl, plk, vs, hI.done h78 h115 hq0, hS162⟩
end
end Sl
end Go.Proofs.YtkmlppeligdbaaaDoor

/- Bringing one page in, by the engine. Conditions: none. -/
import Derived.Test.YtkmlppeligdbaaaDoorEng4
import Derived.Test.YtkmlppeligdbaaaDoorHome2
namespace Go.Proofs.YtkmlppeligdbaaaDoor
namespace Sl
open Go.RowKit SepW Pl Eg
set_option linter.unusedVariables false
set_option linter.unusedSimpArgs false
set_option linter.unusedSectionVars false
set_option maxRecDepth 100000
section
variable {w : World} {L : List Atom} {p s : Nat} {pl : PlateM} {st : StoreM} {P : Int → ByteArray → Prop}
theorem store_in' {A : Option Addr} {c n : Nat} (hn : n = st.pages.length) (h : Sat w (raw s (.cells #[.pointer (some ⟨st.plate, 0, none⟩), .int .i64 (st.at' : Nat), .int .i64 (st.copies : Nat), .slice A n c, .int .i64 st.life, .bool st.torn] 59 (0, 0)) :: rowA pageT 41 A c st.pages :: L)) : Sat w (storeA s st :: L) := by
  subst hn
  exact store_in h
theorem trim_c (s : ByteArray) (c : UInt8) (hc : c.toNat < 128) (hs : s.size ≤ 9223372036854775807) (hS : Sat w L) :
    Calls Tryd.prog 34 #[.string s, .string ⟨#[c]⟩] w (Ret fun v w' => v = .string ⟨(Lib.trimB s.data.toList c).toArray⟩ ∧ Sat w' L) :=
  Ret.of_eq ((Tryd.strings_Trim_one s c hc w hs).mono fun e w' ⟨h1, h2⟩ => ⟨h1, by rcases h2 with rfl | rfl; exact hS; exact hS.drew⟩)
theorem sector_c {A : Option Addr} {cap v i : Nat} {l : List Slot} (h : Okay v l) (hi : i < 1000000) (hS : Sat w L) (k : Nat) (hk : L[k]? = some (slA slotT (.slice A l.length cap) l)) :
    Calls Tryd.prog 37 #[.int .i64 i, .agg #[.int .i64 v, .slice A l.length cap]] w (Ret fun r w' => r = .string ⟨(secL i v l).toArray⟩ ∧ Sat w' L) :=
  Ret.of_eq ((sector_ct h hi (Sat_at' hS k hk)).mono fun e w' ⟨h1, h2⟩ => ⟨h1, hS.below_grow h2⟩)
theorem trim_nil {s : ByteArray} (ht : Lib.trimB s.data.toList 0 = []) (hs : s.size ≤ 9223372036854775807) (hS : Sat w L) :
    Calls Tryd.prog 34 #[.string s, .string ⟨#[0]⟩] w (Ret fun v w' => v = .string ⟨#[]⟩ ∧ Sat w' L) := by
  have h := trim_c s 0 (by decide) hs hS
  rw [ht] at h
  exact h
theorem act_acts (pl : PlateM) : pl.act.1.acts = wrap64 (pl.acts + 1) := by
  have ho : ∀ q : PlateM, q.off.acts = q.acts := fun q => by unfold PlateM.off; split <;> rfl
  unfold PlateM.act
  split
  · split
    · rw [ho]
    · rfl
  · rfl
theorem write_acts (hd : pl.down = false) {n : Int} {s : ByteArray} (h0 : 0 ≤ n) (h1 : n < pl.count) (hs : s.size = 256) : (pl.write n s).1.acts = wrap64 (pl.acts + 1) := by
  rw [PlateM.write, if_neg (by rw [ready_up hd h0 h1]; simp), if_neg (by simpa using hs), act_acts]
theorem sync_acts (hd : pl.down = false) (h1 : 0 < pl.count) (hz : pl.sync.2 = 0) : pl.sync.1.acts = wrap64 (pl.acts + 1) := by
  unfold PlateM.sync at hz ⊢
  rw [if_neg (by rw [ready_up hd (Int.le_refl 0) h1]; simp)] at hz ⊢
  by_cases ha : pl.act.2 = 0
  · rw [if_neg (by simpa using ha)]
    exact act_acts pl
  · rw [if_pos ha] at hz
    exact absurd hz ha
/-- a write on a device that is up, told by what it is good for -/
theorem write_c (hH : Held pl P) (hd : pl.down = false) {n : Int} {s : ByteArray} (h0 : 0 ≤ n) (h1 : n < pl.count) (hs : s.size = 256) (hP : P n s) (hT : P n tornB) (hlen : pl.queue.length < 1000000) (hS : Sat w (plateA p pl :: L)) :
    Calls Tryd.prog 36 #[.pointer (some ⟨p, 0, none⟩), .int .i64 n, .string s] w (Ret fun v w' =>
      (v = .int .i64 0 ∧ ∃ pl', (Held pl' P ∧ pl'.count = pl.count ∧ pl'.queue.length = pl.queue.length + 1 ∧ pl'.down = false ∧ pl'.life = pl.life ∧ (pl.armed ≤ 0 → pl'.armed ≤ 0) ∧ (∀ m, pl'.live m = if n = m then s else pl.live m) ∧ pl'.acts = wrap64 (pl.acts + 1)) ∧ Sat w' (plateA p pl' :: L)) ∨
      (v = .int .i64 10 ∧ ∃ pl', (Held pl' P ∧ pl'.count = pl.count ∧ pl'.queue.length = pl.queue.length + 1 ∧ pl'.down = true ∧ 0 < pl.armed ∧ pl'.armed = 0) ∧ Sat w' (plateA p pl' :: L))) := by
  obtain ⟨c1, c2, c3, c4⟩ := write_cases hH hd h0 h1 hs hP hT
  refine Ret.weak (Ret.of_eq (write_ct n s hlen hS)) ?_
  rintro v w' ⟨rfl, hS'⟩
  rcases c4 with ⟨a, b, c, d, e⟩ | ⟨a, b, c, d⟩
  · exact .inl ⟨by rw [a], _, ⟨c1, c2, c3, b, c, d, e, write_acts hd h0 h1 hs⟩, hS'⟩
  · exact .inr ⟨by rw [a], _, ⟨c1, c2, c3, b, c, d⟩, hS'⟩
theorem sync_c (hH : Held pl P) (hd : pl.down = false) (h1 : 0 < pl.count) (hlen : pl.queue.length < 1000000) (hS : Sat w (plateA p pl :: L)) :
    Calls Tryd.prog 21 #[.pointer (some ⟨p, 0, none⟩)] w (Ret fun v w' =>
      (v = .int .i64 0 ∧ ∃ pl', (Held pl' P ∧ pl'.count = pl.count ∧ pl'.queue = [] ∧ pl'.down = false ∧ pl'.life = pl.life ∧ (pl.armed ≤ 0 → pl'.armed ≤ 0) ∧ (∀ m, pl'.live m = pl.live m) ∧ pl'.acts = wrap64 (pl.acts + 1)) ∧ Sat w' (plateA p pl' :: L)) ∨
      (v = .int .i64 10 ∧ ∃ pl', (Held pl' P ∧ pl'.count = pl.count ∧ pl'.queue = pl.queue ∧ pl'.down = true ∧ 0 < pl.armed ∧ pl'.armed = 0) ∧ Sat w' (plateA p pl' :: L))) := by
  obtain ⟨c1, c2, c4⟩ := sync_cases hH hd h1
  refine Ret.weak (Ret.of_eq (sync_ct hlen hS)) ?_
  rintro v w' ⟨rfl, hS'⟩
  rcases c4 with ⟨a, b, c, d, e, f⟩ | ⟨a, b, c, d, e⟩
  · exact .inl ⟨by rw [a], _, ⟨c1, c2, e, b, c, d, f, sync_acts hd h1 a⟩, hS'⟩
  · exact .inr ⟨by rw [a], _, ⟨c1, c2, c, b, d, e⟩, hS'⟩
set_option maxHeartbeats 1000000 in
theorem load_good {i : Nat} {D : ByteArray} (hH : Held pl P) (hi : i < 100000) (hd : pl.down = false) (ha : st.at' < 100000) (hc : st.copies < 100000) (hcnt : ((st.at' + st.copies + i : Nat) : Int) < pl.count) (hlen : pl.queue.length < 900000) (hpg : st.pages.length < 100000) (hhome : pl.live ((st.at' + st.copies + i : Nat) : Int) = D) {v : Nat} {l : List Slot} (hz0 : D.size ≠ 0) (hok : Okay v l) (hD : D.size = 256) (h240 : D.extract 0 240 = ⟨(encL v l).toArray⟩) (hE : (⟨(secL i v l).toArray⟩ : ByteArray) = D) (hS : Sat w (storeA s st :: plateA st.plate pl :: L)) :
    Calls Tryd.prog 20 #[.pointer (some ⟨s, 0, none⟩), .int .i64 (i : Nat)] w (Ret fun r w' => r = .tuple #[.bool true, .int .i64 0] ∧ Sat w' (storeA s { st with pages := st.pages ++ [(⟨v, l⟩ : Page)] } :: plateA st.plate pl :: L)) := by
  have hz : (pl.live ((st.at' + st.copies + i : Nat) : Int)).size ≠ 0 := by rw [hhome]; exact hz0
  subst hhome
  refine enter (vs := [.pointer (some ⟨s, 0, none⟩), .int .i64 (i : Nat)]) Tryd.func20 rfl Tryd.ntmps20 rfl ?_
  intro a1 hF2
  have hF3 : Fits a1 71 [(0, .pointer (some ⟨s, 0, none⟩)), (1, .int .i64 (i : Nat))] := hF2
  clear hF2
  refine wp_seq ?_
  refine reg_text (l := [0, 1]) (by kernel_rfl) ?_
  refine batch_spec (is := [0, 1]) (rest := []) (live := [0, 1, 4, 5]) (e' := [(0, .pointer (some ⟨s, 0, none⟩)), (1, .int .i64 (i : Nat)), (4, .bool false), (5, .int .i64 0)]) (vs := []) (obs := []) hF3 (by kernel_rfl) .nil ?_
  intro a4 hF5
  clear hF3
  refine ops_done ?_
  refine nrm_then ?_
  refine wp_seq ?_
  refine reg_drawn (fun j => match j with | 1 => [0] | 2 => [0, 1] | 3 => [0, 1, 2] | 6 => [4, 5] | 7 => [0, 1, 2, 3, 4, 5, 6] | 8 => [0, 1, 2, 3, 4, 5, 6, 7] | 9 => [0, 1, 2, 3, 4, 5, 6, 7, 8] | 10 => [0, 1, 2, 3, 4, 5, 6, 7, 8] | 11 => [0, 1, 2, 3, 4, 5, 6, 7, 8, 9] | 12 => [0, 1, 2, 3, 4, 5, 6, 7, 8, 9, 10, 11] | _ => []) hS (by kernel_rfl) (by kernel_rfl) (by kernel_rfl) (fun c a d v w h => by cases d <;> exact h) ?_
  intro w6 hS7 hw8
  clear hS
  obtain ⟨A9, c10, hS11⟩ := store_out (Sat_at hS7 0 rfl rfl)
  have hS12 : Sat w6 (raw s (.cells #[.pointer (some ⟨st.plate, 0, none⟩), .int .i64 (st.at' : Nat), .int .i64 (st.copies : Nat), .slice A9 st.pages.length c10, .int .i64 st.life, .bool st.torn] 59 (0, 0)) :: rowA pageT 41 A9 c10 st.pages :: plateA st.plate pl :: L) := hS11
  refine batchD_spec (is := [0, 1, 2, 3, 4, 5]) (dn := []) (dn' := [0, 1, 2, 3, 4, 5]) (live := [0, 1, 4, 5, 15, 16, 17]) (e' := [(0, .pointer (some ⟨s, 0, none⟩)), (1, .int .i64 (i : Nat)), (4, .bool false), (5, .int .i64 0), (15, .pointer (some ⟨st.plate, 0, none⟩)), (16, .pointer (some ⟨s, 0, none⟩)), (17, .int .i64 (i : Nat))]) (vs := [.pointer (some ⟨st.plate, 0, none⟩)]) (obs := [(⟨s, 0, none⟩, .pointer (some ⟨st.plate, 0, none⟩))]) (pd' := [(3, [(⟨s, 0, none⟩, .pointer (some ⟨st.plate, 0, none⟩))])]) hF5 (by kernel_rfl) (.cons (ob hS12 0 rfl rfl) .nil) rfl ?_
  intro a13 hF14
  clear hF5
  refine wpD_next (i := 6) (pd' := [(3, [(⟨s, 0, none⟩, .pointer (some ⟨st.plate, 0, none⟩))])]) (dn' := [0, 1, 2, 3, 4, 5, 6]) (by kernel_rfl) rfl (by kernel_rfl) ?_
  refine op_call (fn := 27) (first := #[]) (cap := #[]) (args := #[.pointer (some ⟨s, 0, none⟩), .int .i64 (i : Nat)]) (all := #[.pointer (some ⟨s, 0, none⟩), .int .i64 (i : Nat)]) (pe := fun u => [(18, u), (0, .pointer (some ⟨s, 0, none⟩)), (1, .int .i64 (i : Nat)), (4, .bool false), (5, .int .i64 0), (15, .pointer (some ⟨st.plate, 0, none⟩)), (16, .pointer (some ⟨s, 0, none⟩)), (17, .int .i64 (i : Nat))]) hF14 (fun u => by kernel_rfl) (by kernel_rfl) (by kernel_rfl) (home_c hi ha hc hS12) ?_
  rintro u w17 a15 ⟨rfl, hS18⟩ hF16
  clear hF14
  clear hS7 hS11 hS12
  have hS19 : Sat w17 (raw s (.cells #[.pointer (some ⟨st.plate, 0, none⟩), .int .i64 (st.at' : Nat), .int .i64 (st.copies : Nat), .slice A9 st.pages.length c10, .int .i64 st.life, .bool st.torn] 59 (0, 0)) :: rowA pageT 41 A9 c10 st.pages :: plateA st.plate pl :: L) := hS18
  refine ⟨(.cons (.cons (ob hS19 0 rfl rfl) .nil) .nil), ?_⟩
  refine wpD_next (i := 7) (pd' := []) (dn' := [0, 1, 2, 3, 4, 5, 6, 7]) (by kernel_rfl) rfl (by kernel_rfl) ?_
  have hS20 : Sat w17 (plateA st.plate pl :: raw s (.cells #[.pointer (some ⟨st.plate, 0, none⟩), .int .i64 (st.at' : Nat), .int .i64 (st.copies : Nat), .slice A9 st.pages.length c10, .int .i64 st.life, .bool st.torn] 59 (0, 0)) :: rowA pageT 41 A9 c10 st.pages :: L) := (Sat_at hS19 2 rfl rfl)
  refine op_call (fn := 15) (first := #[]) (cap := #[]) (args := #[.pointer (some ⟨st.plate, 0, none⟩), .int .i64 (st.at' + st.copies + i : Nat)]) (all := #[.pointer (some ⟨st.plate, 0, none⟩), .int .i64 (st.at' + st.copies + i : Nat)]) (pe := fun u => [(19, u), (18, .int .i64 (st.at' + st.copies + i : Nat)), (0, .pointer (some ⟨s, 0, none⟩)), (1, .int .i64 (i : Nat)), (4, .bool false), (5, .int .i64 0), (15, .pointer (some ⟨st.plate, 0, none⟩)), (16, .pointer (some ⟨s, 0, none⟩)), (17, .int .i64 (i : Nat))]) hF16 (fun u => by kernel_rfl) (by kernel_rfl) (by kernel_rfl) (Ret.of_ex (read_whole hH (ready_up hd (by omega) hcnt) (by omega) hz hS20)) ?_
  rintro u w23 a21 ⟨rfl, hS24⟩ hF22
  clear hF16
  clear hS18 hS19 hS20
  have hS25 : Sat w23 (plateA st.plate pl :: raw s (.cells #[.pointer (some ⟨st.plate, 0, none⟩), .int .i64 (st.at' : Nat), .int .i64 (st.copies : Nat), .slice A9 st.pages.length c10, .int .i64 st.life, .bool st.torn] 59 (0, 0)) :: rowA pageT 41 A9 c10 st.pages :: L) := hS24
  refine ⟨.nil, ?_⟩
  refine batchD_spec (is := [8, 9, 10, 11, 12]) (dn := [0, 1, 2, 3, 4, 5, 6, 7]) (dn' := [0, 1, 2, 3, 4, 5, 6, 7, 8, 9, 10, 11, 12]) (live := [0, 1, 4, 5, 6, 7]) (e' := [(0, .pointer (some ⟨s, 0, none⟩)), (1, .int .i64 (i : Nat)), (4, .bool false), (5, .int .i64 0), (6, .string (pl.live ((st.at' + st.copies + i : Nat) : Int))), (7, .int .i64 0)]) (vs := []) (obs := []) (pd' := []) hF22 (by kernel_rfl) .nil rfl ?_
  intro a26 hF27
  clear hF22
  refine wpD_done (by kernel_rfl) ?_
  refine nrm_then ?_
  refine wp_seq ?_
  refine reg_text (l := [0]) (by kernel_rfl) ?_
  refine ops_next ?_
  obtain ⟨b28, w29, hr30, hS31⟩ := comes_new (P := Tryd.prog) (v := .alloc 41) (u := fun b => .pointer (some ⟨b, 0, none⟩)) (o := .cells #[.int .i64 0, .slice none 0 0] 41 (0, 0)) hS25 (fun w => by kernel_rfl)
  refine op_value (u := .pointer (some ⟨b28, 0, none⟩)) (e' := [(8, .pointer (some ⟨b28, 0, none⟩)), (0, .pointer (some ⟨s, 0, none⟩)), (1, .int .i64 (i : Nat)), (4, .bool false), (5, .int .i64 0), (6, .string (pl.live ((st.at' + st.copies + i : Nat) : Int))), (7, .int .i64 0)]) hF27 (by kernel_rfl) hr30 ?_
  intro a32 hF33
  clear hF27 hr30
  clear hS24 hS25
  refine ops_done ?_
  refine nrm_then ?_
  refine wp_seq ?_
  refine reg_text (l := [0]) (by kernel_rfl) ?_
  refine batch_spec (is := [0]) (rest := []) (live := [8, 0, 1, 4, 5, 6, 7, 9]) (e' := [(8, .pointer (some ⟨b28, 0, none⟩)), (0, .pointer (some ⟨s, 0, none⟩)), (1, .int .i64 (i : Nat)), (4, .bool false), (5, .int .i64 0), (6, .string (pl.live ((st.at' + st.copies + i : Nat) : Int))), (7, .int .i64 0), (9, .bool false)]) (vs := []) (obs := []) hF33 (by kernel_rfl) .nil ?_
  intro a34 hF35
  clear hF33
  refine ops_done ?_
  refine nrm_then ?_
  refine wp_seq ?_
  refine wp_seq ?_
  refine reg_text (l := [0, 1]) (by kernel_rfl) ?_
  refine batch_spec (is := [0, 1]) (rest := []) (live := [8, 0, 1, 4, 5, 6, 9, 23]) (e' := [(8, .pointer (some ⟨b28, 0, none⟩)), (0, .pointer (some ⟨s, 0, none⟩)), (1, .int .i64 (i : Nat)), (4, .bool false), (5, .int .i64 0), (6, .string (pl.live ((st.at' + st.copies + i : Nat) : Int))), (9, .bool false), (23, .bool true)]) (vs := []) (obs := []) hF35 (by kernel_rfl) .nil ?_
  intro a36 hF37
  clear hF35
  refine ops_done ?_
  refine nrm_then ?_
  refine cond_yes hF37 rfl ?_
  refine wp_seq ?_
  refine reg_text (l := [0, 1, 2, 3, 4, 5, 6, 7]) (by kernel_rfl) ?_
  refine batch_spec (is := [0, 1]) (rest := [2, 3, 4, 5, 6, 7]) (live := [8, 0, 4, 5, 6, 9, 25, 26]) (e' := [(8, .pointer (some ⟨b28, 0, none⟩)), (0, .pointer (some ⟨s, 0, none⟩)), (4, .bool false), (5, .int .i64 0), (6, .string (pl.live ((st.at' + st.copies + i : Nat) : Int))), (9, .bool false), (25, .int .i64 (i : Nat)), (26, .string (pl.live ((st.at' + st.copies + i : Nat) : Int)))]) (vs := []) (obs := []) hF37 (by kernel_rfl) .nil ?_
  intro a38 hF39
  clear hF37
  refine ops_next ?_
  refine op_call (fn := 33) (first := #[]) (cap := #[]) (args := #[.int .i64 (i : Nat), .string (pl.live ((st.at' + st.copies + i : Nat) : Int))]) (all := #[.int .i64 (i : Nat), .string (pl.live ((st.at' + st.copies + i : Nat) : Int))]) (pe := fun u => [(27, u), (8, .pointer (some ⟨b28, 0, none⟩)), (0, .pointer (some ⟨s, 0, none⟩)), (4, .bool false), (5, .int .i64 0), (6, .string (pl.live ((st.at' + st.copies + i : Nat) : Int))), (9, .bool false), (25, .int .i64 (i : Nat)), (26, .string (pl.live ((st.at' + st.copies + i : Nat) : Int)))]) hF39 (fun u => by kernel_rfl) (by kernel_rfl) (by kernel_rfl) (Ret.of_ex (page_hit hok (by omega) hD h240 hE hS31)) ?_
  rintro u w44 a42 ⟨A40, c41, rfl, hS45⟩ hF43
  clear hF39
  clear hS31
  have hS46 : Sat w44 (slA slotT (.slice A40 l.length c41) l :: raw b28 (.cells #[.int .i64 0, .slice none 0 0] 41 (0, 0)) :: plateA st.plate pl :: raw s (.cells #[.pointer (some ⟨st.plate, 0, none⟩), .int .i64 (st.at' : Nat), .int .i64 (st.copies : Nat), .slice A9 st.pages.length c10, .int .i64 st.life, .bool st.torn] 59 (0, 0)) :: rowA pageT 41 A9 c10 st.pages :: L) := hS45
  refine batch_spec (is := [3, 4, 5]) (rest := [6, 7]) (live := [8, 0, 4, 5, 6, 9, 28, 29]) (e' := [(8, .pointer (some ⟨b28, 0, none⟩)), (0, .pointer (some ⟨s, 0, none⟩)), (4, .bool false), (5, .int .i64 0), (6, .string (pl.live ((st.at' + st.copies + i : Nat) : Int))), (9, .bool false), (28, .agg #[.int .i64 (v : Nat), .slice A40 l.length c41]), (29, .bool true)]) (vs := []) (obs := []) hF43 (by kernel_rfl) .nil ?_
  intro a47 hF48
  clear hF43
  refine ops_next ?_
  obtain ⟨w49, hr50, hS51⟩ := comes_store (P := Tryd.prog) (t' := 41) (b := b28) (j := 0) (x := .agg #[.int .i64 (v : Nat), .slice A40 l.length c41]) (vs := [.int .i64 (v : Nat), .slice A40 l.length c41]) (c' := #[.int .i64 (v : Nat), .slice A40 l.length c41]) hS46 1 rfl rfl rfl (by kernel_rfl) rfl rfl rfl
  refine op_value (u := undef) (e' := [(8, .pointer (some ⟨b28, 0, none⟩)), (0, .pointer (some ⟨s, 0, none⟩)), (4, .bool false), (5, .int .i64 0), (6, .string (pl.live ((st.at' + st.copies + i : Nat) : Int))), (9, .bool false), (28, .agg #[.int .i64 (v : Nat), .slice A40 l.length c41]), (29, .bool true)]) hF48 (by kernel_rfl) hr50 ?_
  intro a52 hF53
  clear hF48 hr50
  clear hS45 hS46
  have hS54 : Sat w49 (raw b28 (.cells #[.int .i64 (v : Nat), .slice A40 l.length c41] 41 (0, 0)) :: slA slotT (.slice A40 l.length c41) l :: plateA st.plate pl :: raw s (.cells #[.pointer (some ⟨st.plate, 0, none⟩), .int .i64 (st.at' : Nat), .int .i64 (st.copies : Nat), .slice A9 st.pages.length c10, .int .i64 st.life, .bool st.torn] 59 (0, 0)) :: rowA pageT 41 A9 c10 st.pages :: L) := hS51
  refine batch_spec (is := [7]) (rest := []) (live := [8, 0, 4, 5, 6, 9]) (e' := [(8, .pointer (some ⟨b28, 0, none⟩)), (0, .pointer (some ⟨s, 0, none⟩)), (4, .bool false), (5, .int .i64 0), (6, .string (pl.live ((st.at' + st.copies + i : Nat) : Int))), (9, .bool true)]) (vs := []) (obs := []) hF53 (by kernel_rfl) .nil ?_
  intro a55 hF56
  clear hF53
  refine ops_done ?_
  refine nrm_then ?_
  refine reg_text (l := [0, 1, 2, 3, 4, 5, 6]) (by kernel_rfl) ?_
  refine batch_spec (is := [0, 1, 2, 3, 4, 5, 6]) (rest := []) (live := [8, 0, 4, 5, 9]) (e' := [(8, .pointer (some ⟨b28, 0, none⟩)), (0, .pointer (some ⟨s, 0, none⟩)), (4, .bool false), (5, .int .i64 0), (9, .bool true)]) (vs := []) (obs := []) hF56 (by kernel_rfl) .nil ?_
  intro a57 hF58
  clear hF56
  refine ops_done ?_
  refine nrm_then ?_
  refine wp_seq ?_
  refine reg_drawn (fun j => match j with | 2 => [1] | 3 => [1, 2] | 4 => [1, 2, 3] | 6 => [5] | 7 => [1, 2, 3, 4, 5, 6] | 8 => [0, 1, 2, 3, 4, 5, 6, 7] | 9 => [0, 1, 2, 3, 4, 5, 6, 7, 8] | 10 => [0, 1, 2, 3, 4, 5, 6, 7, 8, 9] | _ => []) hS54 (by kernel_rfl) (by kernel_rfl) (by kernel_rfl) (fun c a d v w h => by cases d <;> exact h) ?_
  intro w59 hS60 hw61
  clear hS51 hS54
  refine batchD_spec (is := [0, 1, 2, 3, 4, 5]) (dn := []) (dn' := [0, 1, 2, 3, 4, 5]) (live := [4, 5, 9, 60, 64, 65]) (e' := [(4, .bool false), (5, .int .i64 0), (9, .bool true), (60, .pointer (some ⟨s, 0, none⟩)), (64, .slice A9 st.pages.length c10), (65, .agg #[.int .i64 (v : Nat), .slice A40 l.length c41])]) (vs := [.slice A9 st.pages.length c10, .int .i64 (v : Nat), .slice A40 l.length c41]) (obs := [(⟨s, 3, none⟩, .slice A9 st.pages.length c10), (⟨b28, 0, none⟩, .int .i64 (v : Nat)), (⟨b28, 1, none⟩, .slice A40 l.length c41)]) (pd' := [(5, [(⟨b28, 0, none⟩, .int .i64 (v : Nat)), (⟨b28, 1, none⟩, .slice A40 l.length c41)]), (4, [(⟨s, 3, none⟩, .slice A9 st.pages.length c10)])]) hF58 (by kernel_rfl) (.cons (ob hS60 3 rfl rfl) (.cons (ob hS60 0 rfl rfl) (.cons (ob hS60 0 rfl rfl) .nil))) rfl ?_
  intro a62 hF63
  clear hF58
  refine wpD_next (i := 6) (pd' := [(4, [(⟨s, 3, none⟩, .slice A9 st.pages.length c10)])]) (dn' := [0, 1, 2, 3, 4, 5, 6]) (by kernel_rfl) rfl (by kernel_rfl) ?_
  obtain ⟨b64, w65, hr66, hS67⟩ := comes_new (P := Tryd.prog) (v := .buildSlice 32 1 #[(0, .agg #[.int .i64 (v : Nat), .slice A40 l.length c41])]) (u := fun b => .slice (some ⟨b, 0, none⟩) 1 1) (o := .cells #[.int .i64 (v : Nat), .slice A40 l.length c41] 41 (0, 0)) hS60 (fun w => by kernel_rfl)
  refine op_value (u := .slice (some ⟨b64, 0, none⟩) 1 1) (e' := [(66, .slice (some ⟨b64, 0, none⟩) 1 1), (4, .bool false), (5, .int .i64 0), (9, .bool true), (60, .pointer (some ⟨s, 0, none⟩)), (64, .slice A9 st.pages.length c10), (65, .agg #[.int .i64 (v : Nat), .slice A40 l.length c41])]) hF63 (by kernel_rfl) hr66 ?_
  intro a68 hF69
  clear hF63 hr66
  clear hS60
  refine ⟨(.cons (.cons (ob hS67 4 rfl rfl) .nil) .nil), ?_⟩
  refine wpD_next (i := 7) (pd' := []) (dn' := [0, 1, 2, 3, 4, 5, 6, 7]) (by kernel_rfl) rfl (by kernel_rfl) ?_
  obtain ⟨B73, cap74, w70, hr71, hS72⟩ := comes_append (P := Tryd.prog) (T := pageT) (c := 32) (z := .agg #[.int .i64 0, .slice none 0 0]) (t' := 32) (ty := 32) (cs := #[false, false]) (n := st.pages.length) (m := 1) (xs := [(⟨(v : Nat), l⟩ : Page)]) (cc := 1) hS67 5 rfl rfl 0 rfl (fun h => Sat_out 2 h rfl (fun g hg => Cells.single ⟨_, rfl, hg⟩)) rfl rfl Tryd.underlying32 (by kernel_rfl) rfl (by unfold maxLen; omega) (by omega)
  refine op_value (u := .slice B73 (st.pages.length + 1) cap74) (e' := [(67, .slice B73 (st.pages.length + 1) cap74), (66, .slice (some ⟨b64, 0, none⟩) 1 1), (4, .bool false), (5, .int .i64 0), (9, .bool true), (60, .pointer (some ⟨s, 0, none⟩)), (64, .slice A9 st.pages.length c10), (65, .agg #[.int .i64 (v : Nat), .slice A40 l.length c41])]) hF69 (by kernel_rfl) hr71 ?_
  intro a75 hF76
  clear hF69 hr71
  clear hS67
  have hS77 : Sat w70 (rowA pageT 41 B73 cap74 (st.pages ++ [(⟨(v : Nat), l⟩ : Page)]) :: raw b64 (.cells #[.int .i64 (v : Nat), .slice A40 l.length c41] 41 (0, 0)) :: raw b28 (.cells #[.int .i64 (v : Nat), .slice A40 l.length c41] 41 (0, 0)) :: slA slotT (.slice A40 l.length c41) l :: plateA st.plate pl :: raw s (.cells #[.pointer (some ⟨st.plate, 0, none⟩), .int .i64 (st.at' : Nat), .int .i64 (st.copies : Nat), .slice A9 st.pages.length c10, .int .i64 st.life, .bool st.torn] 59 (0, 0)) :: L) := hS72
  refine ⟨.nil, ?_⟩
  refine batchD_spec (is := [8, 9]) (dn := [0, 1, 2, 3, 4, 5, 6, 7]) (dn' := [0, 1, 2, 3, 4, 5, 6, 7, 8, 9]) (live := [67, 4, 5, 9, 69]) (e' := [(67, .slice B73 (st.pages.length + 1) cap74), (4, .bool false), (5, .int .i64 0), (9, .bool true), (69, .pointer (some ⟨s, 3, none⟩))]) (vs := []) (obs := []) (pd' := []) hF76 (by kernel_rfl) .nil rfl ?_
  intro a78 hF79
  clear hF76
  refine wpD_next (i := 10) (pd' := []) (dn' := [0, 1, 2, 3, 4, 5, 6, 7, 8, 9, 10]) (by kernel_rfl) rfl (by kernel_rfl) ?_
  obtain ⟨w80, hr81, hS82⟩ := comes_store (P := Tryd.prog) (t' := 32) (b := s) (j := 3) (x := .slice B73 (st.pages.length + 1) cap74) (vs := [.slice B73 (st.pages.length + 1) cap74]) (c' := #[.pointer (some ⟨st.plate, 0, none⟩), .int .i64 (st.at' : Nat), .int .i64 (st.copies : Nat), .slice B73 (st.pages.length + 1) cap74, .int .i64 st.life, .bool st.torn]) hS77 5 rfl rfl rfl (by kernel_rfl) rfl rfl rfl
  refine op_value (u := undef) (e' := [(67, .slice B73 (st.pages.length + 1) cap74), (4, .bool false), (5, .int .i64 0), (9, .bool true), (69, .pointer (some ⟨s, 3, none⟩))]) hF79 (by kernel_rfl) hr81 ?_
  intro a83 hF84
  clear hF79 hr81
  clear hS72 hS77
  have hS85 : Sat w80 (raw s (.cells #[.pointer (some ⟨st.plate, 0, none⟩), .int .i64 (st.at' : Nat), .int .i64 (st.copies : Nat), .slice B73 (st.pages.length + 1) cap74, .int .i64 st.life, .bool st.torn] 59 (0, 0)) :: rowA pageT 41 B73 cap74 (st.pages ++ [(⟨(v : Nat), l⟩ : Page)]) :: raw b64 (.cells #[.int .i64 (v : Nat), .slice A40 l.length c41] 41 (0, 0)) :: raw b28 (.cells #[.int .i64 (v : Nat), .slice A40 l.length c41] 41 (0, 0)) :: slA slotT (.slice A40 l.length c41) l :: plateA st.plate pl :: L) := hS82
  refine ⟨.nil, ?_⟩
  refine wpD_done (by kernel_rfl) ?_
  refine nrm_then ?_
  refine wp_seq ?_
  refine reg_text (l := [0, 1, 2]) (by kernel_rfl) ?_
  refine batch_spec (is := [0, 1, 2]) (rest := []) (live := [4, 5]) (e' := [(4, .bool true), (5, .int .i64 0)]) (vs := []) (obs := []) hF84 (by kernel_rfl) .nil ?_
  intro a86 hF87
  clear hF84
  refine ops_done ?_
  refine nrm_then ?_
  refine wp_ret ?_
  refine finish (v := .tuple #[.bool true, .int .i64 0]) (vs := []) (obs := []) hF87 (by kernel_rfl) .nil ?_
  have hS88 : Sat w80 (storeA s ⟨st.plate, st.at', st.copies, st.pages ++ [(⟨(v : Nat), l⟩ : Page)], st.life, st.torn⟩ :: raw b64 (.cells #[.int .i64 (v : Nat), .slice A40 l.length c41] 41 (0, 0)) :: raw b28 (.cells #[.int .i64 (v : Nat), .slice A40 l.length c41] 41 (0, 0)) :: slA slotT (.slice A40 l.length c41) l :: plateA st.plate pl :: L) := store_in' (st := ⟨st.plate, st.at', st.copies, st.pages ++ [(⟨(v : Nat), l⟩ : Page)], st.life, st.torn⟩) (by simp) (Sat_at (Sat_at hS85 1 rfl rfl) 1 rfl rfl)
  have hS89 : Sat w80 (storeA s ⟨st.plate, st.at', st.copies, st.pages ++ [(⟨(v : Nat), l⟩ : Page)], st.life, st.torn⟩ :: plateA st.plate pl :: raw b64 (.cells #[.int .i64 (v : Nat), .slice A40 l.length c41] 41 (0, 0)) :: raw b28 (.cells #[.int .i64 (v : Nat), .slice A40 l.length c41] 41 (0, 0)) :: slA slotT (.slice A40 l.length c41) l :: L) := (Sat_at (Sat_at hS88 4 rfl rfl) 1 rfl rfl)
  exact ⟨rfl, (Sat_at (Sat_at (Sat_at hS89 4 rfl rfl).drop 3 rfl rfl).drop 2 rfl rfl).drop⟩
set_option maxHeartbeats 1000000 in
theorem load_blank {i : Nat} {D : ByteArray} (hH : Held pl P) (hi : i < 100000) (hd : pl.down = false) (ha : st.at' < 100000) (hc : st.copies < 100000) (hcnt : ((st.at' + st.copies + i : Nat) : Int) < pl.count) (hlen : pl.queue.length < 900000) (hpg : st.pages.length < 100000) (hhome : pl.live ((st.at' + st.copies + i : Nat) : Int) = D) (hz0 : D.size ≠ 0) (hDs : D.size ≤ 9223372036854775807) (htrim : Lib.trimB D.data.toList 0 = []) (hmiss : ∀ (w : World) (L : List Atom), Sat w L → Calls Tryd.prog 33 #[.int .i64 i, .string D] w (Rt fun r w' => r = .tuple #[.agg #[.int .i64 0, .slice none 0 0], .bool false] ∧ Sat w' L)) (hS : Sat w (storeA s st :: plateA st.plate pl :: L)) :
    Calls Tryd.prog 20 #[.pointer (some ⟨s, 0, none⟩), .int .i64 (i : Nat)] w (Ret fun r w' => r = .tuple #[.bool true, .int .i64 0] ∧ Sat w' (storeA s { st with pages := st.pages ++ [(⟨0, []⟩ : Page)] } :: plateA st.plate pl :: L)) := by
  have hz : (pl.live ((st.at' + st.copies + i : Nat) : Int)).size ≠ 0 := by rw [hhome]; exact hz0
  subst hhome
  refine enter (vs := [.pointer (some ⟨s, 0, none⟩), .int .i64 (i : Nat)]) Tryd.func20 rfl Tryd.ntmps20 rfl ?_
  intro a1 hF2
  have hF3 : Fits a1 71 [(0, .pointer (some ⟨s, 0, none⟩)), (1, .int .i64 (i : Nat))] := hF2
  clear hF2
  refine wp_seq ?_
  refine reg_text (l := [0, 1]) (by kernel_rfl) ?_
  refine batch_spec (is := [0, 1]) (rest := []) (live := [0, 1, 4, 5]) (e' := [(0, .pointer (some ⟨s, 0, none⟩)), (1, .int .i64 (i : Nat)), (4, .bool false), (5, .int .i64 0)]) (vs := []) (obs := []) hF3 (by kernel_rfl) .nil ?_
  intro a4 hF5
  clear hF3
  refine ops_done ?_
  refine nrm_then ?_
  refine wp_seq ?_
  refine reg_drawn (fun j => match j with | 1 => [0] | 2 => [0, 1] | 3 => [0, 1, 2] | 6 => [4, 5] | 7 => [0, 1, 2, 3, 4, 5, 6] | 8 => [0, 1, 2, 3, 4, 5, 6, 7] | 9 => [0, 1, 2, 3, 4, 5, 6, 7, 8] | 10 => [0, 1, 2, 3, 4, 5, 6, 7, 8] | 11 => [0, 1, 2, 3, 4, 5, 6, 7, 8, 9] | 12 => [0, 1, 2, 3, 4, 5, 6, 7, 8, 9, 10, 11] | _ => []) hS (by kernel_rfl) (by kernel_rfl) (by kernel_rfl) (fun c a d v w h => by cases d <;> exact h) ?_
  intro w6 hS7 hw8
  clear hS
  obtain ⟨A9, c10, hS11⟩ := store_out (Sat_at hS7 0 rfl rfl)
  have hS12 : Sat w6 (raw s (.cells #[.pointer (some ⟨st.plate, 0, none⟩), .int .i64 (st.at' : Nat), .int .i64 (st.copies : Nat), .slice A9 st.pages.length c10, .int .i64 st.life, .bool st.torn] 59 (0, 0)) :: rowA pageT 41 A9 c10 st.pages :: plateA st.plate pl :: L) := hS11
  refine batchD_spec (is := [0, 1, 2, 3, 4, 5]) (dn := []) (dn' := [0, 1, 2, 3, 4, 5]) (live := [0, 1, 4, 5, 15, 16, 17]) (e' := [(0, .pointer (some ⟨s, 0, none⟩)), (1, .int .i64 (i : Nat)), (4, .bool false), (5, .int .i64 0), (15, .pointer (some ⟨st.plate, 0, none⟩)), (16, .pointer (some ⟨s, 0, none⟩)), (17, .int .i64 (i : Nat))]) (vs := [.pointer (some ⟨st.plate, 0, none⟩)]) (obs := [(⟨s, 0, none⟩, .pointer (some ⟨st.plate, 0, none⟩))]) (pd' := [(3, [(⟨s, 0, none⟩, .pointer (some ⟨st.plate, 0, none⟩))])]) hF5 (by kernel_rfl) (.cons (ob hS12 0 rfl rfl) .nil) rfl ?_
  intro a13 hF14
  clear hF5
  refine wpD_next (i := 6) (pd' := [(3, [(⟨s, 0, none⟩, .pointer (some ⟨st.plate, 0, none⟩))])]) (dn' := [0, 1, 2, 3, 4, 5, 6]) (by kernel_rfl) rfl (by kernel_rfl) ?_
  refine op_call (fn := 27) (first := #[]) (cap := #[]) (args := #[.pointer (some ⟨s, 0, none⟩), .int .i64 (i : Nat)]) (all := #[.pointer (some ⟨s, 0, none⟩), .int .i64 (i : Nat)]) (pe := fun u => [(18, u), (0, .pointer (some ⟨s, 0, none⟩)), (1, .int .i64 (i : Nat)), (4, .bool false), (5, .int .i64 0), (15, .pointer (some ⟨st.plate, 0, none⟩)), (16, .pointer (some ⟨s, 0, none⟩)), (17, .int .i64 (i : Nat))]) hF14 (fun u => by kernel_rfl) (by kernel_rfl) (by kernel_rfl) (home_c hi ha hc hS12) ?_
  rintro u w17 a15 ⟨rfl, hS18⟩ hF16
  clear hF14
  clear hS7 hS11 hS12
  have hS19 : Sat w17 (raw s (.cells #[.pointer (some ⟨st.plate, 0, none⟩), .int .i64 (st.at' : Nat), .int .i64 (st.copies : Nat), .slice A9 st.pages.length c10, .int .i64 st.life, .bool st.torn] 59 (0, 0)) :: rowA pageT 41 A9 c10 st.pages :: plateA st.plate pl :: L) := hS18
  refine ⟨(.cons (.cons (ob hS19 0 rfl rfl) .nil) .nil), ?_⟩
  refine wpD_next (i := 7) (pd' := []) (dn' := [0, 1, 2, 3, 4, 5, 6, 7]) (by kernel_rfl) rfl (by kernel_rfl) ?_
  have hS20 : Sat w17 (plateA st.plate pl :: raw s (.cells #[.pointer (some ⟨st.plate, 0, none⟩), .int .i64 (st.at' : Nat), .int .i64 (st.copies : Nat), .slice A9 st.pages.length c10, .int .i64 st.life, .bool st.torn] 59 (0, 0)) :: rowA pageT 41 A9 c10 st.pages :: L) := (Sat_at hS19 2 rfl rfl)
  refine op_call (fn := 15) (first := #[]) (cap := #[]) (args := #[.pointer (some ⟨st.plate, 0, none⟩), .int .i64 (st.at' + st.copies + i : Nat)]) (all := #[.pointer (some ⟨st.plate, 0, none⟩), .int .i64 (st.at' + st.copies + i : Nat)]) (pe := fun u => [(19, u), (18, .int .i64 (st.at' + st.copies + i : Nat)), (0, .pointer (some ⟨s, 0, none⟩)), (1, .int .i64 (i : Nat)), (4, .bool false), (5, .int .i64 0), (15, .pointer (some ⟨st.plate, 0, none⟩)), (16, .pointer (some ⟨s, 0, none⟩)), (17, .int .i64 (i : Nat))]) hF16 (fun u => by kernel_rfl) (by kernel_rfl) (by kernel_rfl) (Ret.of_ex (read_whole hH (ready_up hd (by omega) hcnt) (by omega) hz hS20)) ?_
  rintro u w23 a21 ⟨rfl, hS24⟩ hF22
  clear hF16
  clear hS18 hS19 hS20
  have hS25 : Sat w23 (plateA st.plate pl :: raw s (.cells #[.pointer (some ⟨st.plate, 0, none⟩), .int .i64 (st.at' : Nat), .int .i64 (st.copies : Nat), .slice A9 st.pages.length c10, .int .i64 st.life, .bool st.torn] 59 (0, 0)) :: rowA pageT 41 A9 c10 st.pages :: L) := hS24
  refine ⟨.nil, ?_⟩
  refine batchD_spec (is := [8, 9, 10, 11, 12]) (dn := [0, 1, 2, 3, 4, 5, 6, 7]) (dn' := [0, 1, 2, 3, 4, 5, 6, 7, 8, 9, 10, 11, 12]) (live := [0, 1, 4, 5, 6, 7]) (e' := [(0, .pointer (some ⟨s, 0, none⟩)), (1, .int .i64 (i : Nat)), (4, .bool false), (5, .int .i64 0), (6, .string (pl.live ((st.at' + st.copies + i : Nat) : Int))), (7, .int .i64 0)]) (vs := []) (obs := []) (pd' := []) hF22 (by kernel_rfl) .nil rfl ?_
  intro a26 hF27
  clear hF22
  refine wpD_done (by kernel_rfl) ?_
  refine nrm_then ?_
  refine wp_seq ?_
  refine reg_text (l := [0]) (by kernel_rfl) ?_
  refine ops_next ?_
  obtain ⟨b28, w29, hr30, hS31⟩ := comes_new (P := Tryd.prog) (v := .alloc 41) (u := fun b => .pointer (some ⟨b, 0, none⟩)) (o := .cells #[.int .i64 0, .slice none 0 0] 41 (0, 0)) hS25 (fun w => by kernel_rfl)
  refine op_value (u := .pointer (some ⟨b28, 0, none⟩)) (e' := [(8, .pointer (some ⟨b28, 0, none⟩)), (0, .pointer (some ⟨s, 0, none⟩)), (1, .int .i64 (i : Nat)), (4, .bool false), (5, .int .i64 0), (6, .string (pl.live ((st.at' + st.copies + i : Nat) : Int))), (7, .int .i64 0)]) hF27 (by kernel_rfl) hr30 ?_
  intro a32 hF33
  clear hF27 hr30
  clear hS24 hS25
  refine ops_done ?_
  refine nrm_then ?_
  refine wp_seq ?_
  refine reg_text (l := [0]) (by kernel_rfl) ?_
  refine batch_spec (is := [0]) (rest := []) (live := [8, 0, 1, 4, 5, 6, 7, 9]) (e' := [(8, .pointer (some ⟨b28, 0, none⟩)), (0, .pointer (some ⟨s, 0, none⟩)), (1, .int .i64 (i : Nat)), (4, .bool false), (5, .int .i64 0), (6, .string (pl.live ((st.at' + st.copies + i : Nat) : Int))), (7, .int .i64 0), (9, .bool false)]) (vs := []) (obs := []) hF33 (by kernel_rfl) .nil ?_
  intro a34 hF35
  clear hF33
  refine ops_done ?_
  refine nrm_then ?_
  refine wp_seq ?_
  refine wp_seq ?_
  refine reg_text (l := [0, 1]) (by kernel_rfl) ?_
  refine batch_spec (is := [0, 1]) (rest := []) (live := [8, 0, 1, 4, 5, 6, 9, 23]) (e' := [(8, .pointer (some ⟨b28, 0, none⟩)), (0, .pointer (some ⟨s, 0, none⟩)), (1, .int .i64 (i : Nat)), (4, .bool false), (5, .int .i64 0), (6, .string (pl.live ((st.at' + st.copies + i : Nat) : Int))), (9, .bool false), (23, .bool true)]) (vs := []) (obs := []) hF35 (by kernel_rfl) .nil ?_
  intro a36 hF37
  clear hF35
  refine ops_done ?_
  refine nrm_then ?_
  refine cond_yes hF37 rfl ?_
  refine wp_seq ?_
  refine reg_text (l := [0, 1, 2, 3, 4, 5, 6, 7]) (by kernel_rfl) ?_
  refine batch_spec (is := [0, 1]) (rest := [2, 3, 4, 5, 6, 7]) (live := [8, 0, 4, 5, 6, 9, 25, 26]) (e' := [(8, .pointer (some ⟨b28, 0, none⟩)), (0, .pointer (some ⟨s, 0, none⟩)), (4, .bool false), (5, .int .i64 0), (6, .string (pl.live ((st.at' + st.copies + i : Nat) : Int))), (9, .bool false), (25, .int .i64 (i : Nat)), (26, .string (pl.live ((st.at' + st.copies + i : Nat) : Int)))]) (vs := []) (obs := []) hF37 (by kernel_rfl) .nil ?_
  intro a38 hF39
  clear hF37
  refine ops_next ?_
  refine op_call (fn := 33) (first := #[]) (cap := #[]) (args := #[.int .i64 (i : Nat), .string (pl.live ((st.at' + st.copies + i : Nat) : Int))]) (all := #[.int .i64 (i : Nat), .string (pl.live ((st.at' + st.copies + i : Nat) : Int))]) (pe := fun u => [(27, u), (8, .pointer (some ⟨b28, 0, none⟩)), (0, .pointer (some ⟨s, 0, none⟩)), (4, .bool false), (5, .int .i64 0), (6, .string (pl.live ((st.at' + st.copies + i : Nat) : Int))), (9, .bool false), (25, .int .i64 (i : Nat)), (26, .string (pl.live ((st.at' + st.copies + i : Nat) : Int)))]) hF39 (fun u => by kernel_rfl) (by kernel_rfl) (by kernel_rfl) (Ret.of_ex (hmiss _ _ hS31)) ?_
  rintro u w42 a40 ⟨rfl, hS43⟩ hF41
  clear hF39
  clear hS31
  have hS44 : Sat w42 (raw b28 (.cells #[.int .i64 0, .slice none 0 0] 41 (0, 0)) :: plateA st.plate pl :: raw s (.cells #[.pointer (some ⟨st.plate, 0, none⟩), .int .i64 (st.at' : Nat), .int .i64 (st.copies : Nat), .slice A9 st.pages.length c10, .int .i64 st.life, .bool st.torn] 59 (0, 0)) :: rowA pageT 41 A9 c10 st.pages :: L) := hS43
  refine batch_spec (is := [3, 4, 5]) (rest := [6, 7]) (live := [8, 0, 4, 5, 6, 9, 28, 29]) (e' := [(8, .pointer (some ⟨b28, 0, none⟩)), (0, .pointer (some ⟨s, 0, none⟩)), (4, .bool false), (5, .int .i64 0), (6, .string (pl.live ((st.at' + st.copies + i : Nat) : Int))), (9, .bool false), (28, .agg #[.int .i64 0, .slice none 0 0]), (29, .bool false)]) (vs := []) (obs := []) hF41 (by kernel_rfl) .nil ?_
  intro a45 hF46
  clear hF41
  refine ops_next ?_
  obtain ⟨w47, hr48, hS49⟩ := comes_store (P := Tryd.prog) (t' := 41) (b := b28) (j := 0) (x := .agg #[.int .i64 0, .slice none 0 0]) (vs := [.int .i64 0, .slice none 0 0]) (c' := #[.int .i64 0, .slice none 0 0]) hS44 0 rfl rfl rfl (by kernel_rfl) rfl rfl rfl
  refine op_value (u := undef) (e' := [(8, .pointer (some ⟨b28, 0, none⟩)), (0, .pointer (some ⟨s, 0, none⟩)), (4, .bool false), (5, .int .i64 0), (6, .string (pl.live ((st.at' + st.copies + i : Nat) : Int))), (9, .bool false), (28, .agg #[.int .i64 0, .slice none 0 0]), (29, .bool false)]) hF46 (by kernel_rfl) hr48 ?_
  intro a50 hF51
  clear hF46 hr48
  clear hS43 hS44
  have hS52 : Sat w47 (raw b28 (.cells #[.int .i64 0, .slice none 0 0] 41 (0, 0)) :: plateA st.plate pl :: raw s (.cells #[.pointer (some ⟨st.plate, 0, none⟩), .int .i64 (st.at' : Nat), .int .i64 (st.copies : Nat), .slice A9 st.pages.length c10, .int .i64 st.life, .bool st.torn] 59 (0, 0)) :: rowA pageT 41 A9 c10 st.pages :: L) := hS49
  refine batch_spec (is := [7]) (rest := []) (live := [8, 0, 4, 5, 6, 9]) (e' := [(8, .pointer (some ⟨b28, 0, none⟩)), (0, .pointer (some ⟨s, 0, none⟩)), (4, .bool false), (5, .int .i64 0), (6, .string (pl.live ((st.at' + st.copies + i : Nat) : Int))), (9, .bool false)]) (vs := []) (obs := []) hF51 (by kernel_rfl) .nil ?_
  intro a53 hF54
  clear hF51
  refine ops_done ?_
  refine nrm_then ?_
  refine reg_text (l := [0, 1, 2, 3, 4, 5, 6]) (by kernel_rfl) ?_
  refine batch_spec (is := [0, 1, 2]) (rest := [3, 4, 5, 6]) (live := [8, 0, 4, 5, 9, 31, 32]) (e' := [(8, .pointer (some ⟨b28, 0, none⟩)), (0, .pointer (some ⟨s, 0, none⟩)), (4, .bool false), (5, .int .i64 0), (9, .bool false), (31, .bool false), (32, .string (pl.live ((st.at' + st.copies + i : Nat) : Int)))]) (vs := []) (obs := []) hF54 (by kernel_rfl) .nil ?_
  intro a55 hF56
  clear hF54
  refine ops_next ?_
  refine op_call (fn := 34) (first := #[]) (cap := #[]) (args := #[.string (pl.live ((st.at' + st.copies + i : Nat) : Int)), .string ⟨#[0]⟩]) (all := #[.string (pl.live ((st.at' + st.copies + i : Nat) : Int)), .string ⟨#[0]⟩]) (pe := fun u => [(33, u), (8, .pointer (some ⟨b28, 0, none⟩)), (0, .pointer (some ⟨s, 0, none⟩)), (4, .bool false), (5, .int .i64 0), (9, .bool false), (31, .bool false), (32, .string (pl.live ((st.at' + st.copies + i : Nat) : Int)))]) hF56 (fun u => by kernel_rfl) (by kernel_rfl) (by kernel_rfl) (trim_nil htrim hDs hS52) ?_
  rintro u w59 a57 ⟨rfl, hS60⟩ hF58
  clear hF56
  clear hS49 hS52
  have hS61 : Sat w59 (raw b28 (.cells #[.int .i64 0, .slice none 0 0] 41 (0, 0)) :: plateA st.plate pl :: raw s (.cells #[.pointer (some ⟨st.plate, 0, none⟩), .int .i64 (st.at' : Nat), .int .i64 (st.copies : Nat), .slice A9 st.pages.length c10, .int .i64 st.life, .bool st.torn] 59 (0, 0)) :: rowA pageT 41 A9 c10 st.pages :: L) := hS60
  refine batch_spec (is := [4]) (rest := [5, 6]) (live := [8, 0, 4, 5, 9, 31, 34]) (e' := [(8, .pointer (some ⟨b28, 0, none⟩)), (0, .pointer (some ⟨s, 0, none⟩)), (4, .bool false), (5, .int .i64 0), (9, .bool false), (31, .bool false), (34, .bool ((⟨#[]⟩ : ByteArray).toList == (⟨#[]⟩ : ByteArray).toList))]) (vs := []) (obs := []) hF58 (by kernel_rfl) .nil ?_
  intro a62 hF63
  clear hF58
  rw [str_eq] at hF63
  have hb64 : decide ((⟨#[]⟩ : ByteArray) = (⟨#[]⟩ : ByteArray)) = true := decide_eq_true rfl
  rw [hb64] at hF63
  refine batch_spec (is := [5, 6]) (rest := []) (live := [8, 0, 4, 5, 9]) (e' := [(8, .pointer (some ⟨b28, 0, none⟩)), (0, .pointer (some ⟨s, 0, none⟩)), (4, .bool false), (5, .int .i64 0), (9, .bool true)]) (vs := []) (obs := []) hF63 (by kernel_rfl) .nil ?_
  intro a65 hF66
  clear hF63
  refine ops_done ?_
  refine nrm_then ?_
  refine wp_seq ?_
  refine reg_drawn (fun j => match j with | 2 => [1] | 3 => [1, 2] | 4 => [1, 2, 3] | 6 => [5] | 7 => [1, 2, 3, 4, 5, 6] | 8 => [0, 1, 2, 3, 4, 5, 6, 7] | 9 => [0, 1, 2, 3, 4, 5, 6, 7, 8] | 10 => [0, 1, 2, 3, 4, 5, 6, 7, 8, 9] | _ => []) hS61 (by kernel_rfl) (by kernel_rfl) (by kernel_rfl) (fun c a d v w h => by cases d <;> exact h) ?_
  intro w67 hS68 hw69
  clear hS60 hS61
  refine batchD_spec (is := [0, 1, 2, 3, 4, 5]) (dn := []) (dn' := [0, 1, 2, 3, 4, 5]) (live := [4, 5, 9, 60, 64, 65]) (e' := [(4, .bool false), (5, .int .i64 0), (9, .bool true), (60, .pointer (some ⟨s, 0, none⟩)), (64, .slice A9 st.pages.length c10), (65, .agg #[.int .i64 0, .slice none 0 0])]) (vs := [.slice A9 st.pages.length c10, .int .i64 0, .slice none 0 0]) (obs := [(⟨s, 3, none⟩, .slice A9 st.pages.length c10), (⟨b28, 0, none⟩, .int .i64 0), (⟨b28, 1, none⟩, .slice none 0 0)]) (pd' := [(5, [(⟨b28, 0, none⟩, .int .i64 0), (⟨b28, 1, none⟩, .slice none 0 0)]), (4, [(⟨s, 3, none⟩, .slice A9 st.pages.length c10)])]) hF66 (by kernel_rfl) (.cons (ob hS68 2 rfl rfl) (.cons (ob hS68 0 rfl rfl) (.cons (ob hS68 0 rfl rfl) .nil))) rfl ?_
  intro a70 hF71
  clear hF66
  refine wpD_next (i := 6) (pd' := [(4, [(⟨s, 3, none⟩, .slice A9 st.pages.length c10)])]) (dn' := [0, 1, 2, 3, 4, 5, 6]) (by kernel_rfl) rfl (by kernel_rfl) ?_
  obtain ⟨b72, w73, hr74, hS75⟩ := comes_new (P := Tryd.prog) (v := .buildSlice 32 1 #[(0, .agg #[.int .i64 0, .slice none 0 0])]) (u := fun b => .slice (some ⟨b, 0, none⟩) 1 1) (o := .cells #[.int .i64 0, .slice none 0 0] 41 (0, 0)) hS68 (fun w => by kernel_rfl)
  refine op_value (u := .slice (some ⟨b72, 0, none⟩) 1 1) (e' := [(66, .slice (some ⟨b72, 0, none⟩) 1 1), (4, .bool false), (5, .int .i64 0), (9, .bool true), (60, .pointer (some ⟨s, 0, none⟩)), (64, .slice A9 st.pages.length c10), (65, .agg #[.int .i64 0, .slice none 0 0])]) hF71 (by kernel_rfl) hr74 ?_
  intro a76 hF77
  clear hF71 hr74
  clear hS68
  refine ⟨(.cons (.cons (ob hS75 3 rfl rfl) .nil) .nil), ?_⟩
  refine wpD_next (i := 7) (pd' := []) (dn' := [0, 1, 2, 3, 4, 5, 6, 7]) (by kernel_rfl) rfl (by kernel_rfl) ?_
  obtain ⟨B81, cap82, w78, hr79, hS80⟩ := comes_append (P := Tryd.prog) (T := pageT) (c := 32) (z := .agg #[.int .i64 0, .slice none 0 0]) (t' := 32) (ty := 32) (cs := #[false, false]) (n := st.pages.length) (m := 1) (xs := [(⟨0, []⟩ : Page)]) (cc := 1) hS75 4 rfl rfl 0 rfl (fun h => h.per_true (fun g => Cells.single ⟨_, rfl, SlK.nil _ _ _ _⟩)) rfl rfl Tryd.underlying32 (by kernel_rfl) rfl (by unfold maxLen; omega) (by omega)
  refine op_value (u := .slice B81 (st.pages.length + 1) cap82) (e' := [(67, .slice B81 (st.pages.length + 1) cap82), (66, .slice (some ⟨b72, 0, none⟩) 1 1), (4, .bool false), (5, .int .i64 0), (9, .bool true), (60, .pointer (some ⟨s, 0, none⟩)), (64, .slice A9 st.pages.length c10), (65, .agg #[.int .i64 0, .slice none 0 0])]) hF77 (by kernel_rfl) hr79 ?_
  intro a83 hF84
  clear hF77 hr79
  clear hS75
  have hS85 : Sat w78 (rowA pageT 41 B81 cap82 (st.pages ++ [(⟨0, []⟩ : Page)]) :: raw b72 (.cells #[.int .i64 0, .slice none 0 0] 41 (0, 0)) :: raw b28 (.cells #[.int .i64 0, .slice none 0 0] 41 (0, 0)) :: plateA st.plate pl :: raw s (.cells #[.pointer (some ⟨st.plate, 0, none⟩), .int .i64 (st.at' : Nat), .int .i64 (st.copies : Nat), .slice A9 st.pages.length c10, .int .i64 st.life, .bool st.torn] 59 (0, 0)) :: L) := hS80
  refine ⟨.nil, ?_⟩
  refine batchD_spec (is := [8, 9]) (dn := [0, 1, 2, 3, 4, 5, 6, 7]) (dn' := [0, 1, 2, 3, 4, 5, 6, 7, 8, 9]) (live := [67, 4, 5, 9, 69]) (e' := [(67, .slice B81 (st.pages.length + 1) cap82), (4, .bool false), (5, .int .i64 0), (9, .bool true), (69, .pointer (some ⟨s, 3, none⟩))]) (vs := []) (obs := []) (pd' := []) hF84 (by kernel_rfl) .nil rfl ?_
  intro a86 hF87
  clear hF84
  refine wpD_next (i := 10) (pd' := []) (dn' := [0, 1, 2, 3, 4, 5, 6, 7, 8, 9, 10]) (by kernel_rfl) rfl (by kernel_rfl) ?_
  obtain ⟨w88, hr89, hS90⟩ := comes_store (P := Tryd.prog) (t' := 32) (b := s) (j := 3) (x := .slice B81 (st.pages.length + 1) cap82) (vs := [.slice B81 (st.pages.length + 1) cap82]) (c' := #[.pointer (some ⟨st.plate, 0, none⟩), .int .i64 (st.at' : Nat), .int .i64 (st.copies : Nat), .slice B81 (st.pages.length + 1) cap82, .int .i64 st.life, .bool st.torn]) hS85 4 rfl rfl rfl (by kernel_rfl) rfl rfl rfl
  refine op_value (u := undef) (e' := [(67, .slice B81 (st.pages.length + 1) cap82), (4, .bool false), (5, .int .i64 0), (9, .bool true), (69, .pointer (some ⟨s, 3, none⟩))]) hF87 (by kernel_rfl) hr89 ?_
  intro a91 hF92
  clear hF87 hr89
  clear hS80 hS85
  have hS93 : Sat w88 (raw s (.cells #[.pointer (some ⟨st.plate, 0, none⟩), .int .i64 (st.at' : Nat), .int .i64 (st.copies : Nat), .slice B81 (st.pages.length + 1) cap82, .int .i64 st.life, .bool st.torn] 59 (0, 0)) :: rowA pageT 41 B81 cap82 (st.pages ++ [(⟨0, []⟩ : Page)]) :: raw b72 (.cells #[.int .i64 0, .slice none 0 0] 41 (0, 0)) :: raw b28 (.cells #[.int .i64 0, .slice none 0 0] 41 (0, 0)) :: plateA st.plate pl :: L) := hS90
  refine ⟨.nil, ?_⟩
  refine wpD_done (by kernel_rfl) ?_
  refine nrm_then ?_
  refine wp_seq ?_
  refine reg_text (l := [0, 1, 2]) (by kernel_rfl) ?_
  refine batch_spec (is := [0, 1, 2]) (rest := []) (live := [4, 5]) (e' := [(4, .bool true), (5, .int .i64 0)]) (vs := []) (obs := []) hF92 (by kernel_rfl) .nil ?_
  intro a94 hF95
  clear hF92
  refine ops_done ?_
  refine nrm_then ?_
  refine wp_ret ?_
  refine finish (v := .tuple #[.bool true, .int .i64 0]) (vs := []) (obs := []) hF95 (by kernel_rfl) .nil ?_
  have hS96 : Sat w88 (storeA s ⟨st.plate, st.at', st.copies, st.pages ++ [(⟨0, []⟩ : Page)], st.life, st.torn⟩ :: raw b72 (.cells #[.int .i64 0, .slice none 0 0] 41 (0, 0)) :: raw b28 (.cells #[.int .i64 0, .slice none 0 0] 41 (0, 0)) :: plateA st.plate pl :: L) := store_in' (st := ⟨st.plate, st.at', st.copies, st.pages ++ [(⟨0, []⟩ : Page)], st.life, st.torn⟩) (by simp) (Sat_at (Sat_at hS93 1 rfl rfl) 1 rfl rfl)
  have hS97 : Sat w88 (storeA s ⟨st.plate, st.at', st.copies, st.pages ++ [(⟨0, []⟩ : Page)], st.life, st.torn⟩ :: plateA st.plate pl :: raw b72 (.cells #[.int .i64 0, .slice none 0 0] 41 (0, 0)) :: raw b28 (.cells #[.int .i64 0, .slice none 0 0] 41 (0, 0)) :: L) := (Sat_at (Sat_at hS96 3 rfl rfl) 1 rfl rfl)
  exact ⟨rfl, (Sat_at (Sat_at hS97 3 rfl rfl).drop 2 rfl rfl).drop⟩
set_option maxHeartbeats 1000000 in
theorem load_torn {i : Nat} {D : ByteArray} (hH : Held pl P) (hi : i < 100000) (hd : pl.down = false) (ha : st.at' < 100000) (hc : st.copies < 100000) (hcnt : ((st.at' + st.copies + i : Nat) : Int) < pl.count) (hlen : pl.queue.length < 900000) (hpg : st.pages.length < 100000) (hhome : pl.live ((st.at' + st.copies + i : Nat) : Int) = D) {R : Nat} {lx : List Slot} (hz0 : D.size = 0) (hok : Okay R lx) (hR0 : 0 < R) (hP : P ((st.at' + st.copies + i : Nat) : Int) ⟨(secL i R lx).toArray⟩) (hT : P ((st.at' + st.copies + i : Nat) : Int) tornB) (hall : ∀ j, j < st.copies → CopyOk i R lx (pl.live ((st.at' + j : Nat) : Int))) (hsure : ∃ k, k < st.copies ∧ pl.live ((st.at' + k : Nat) : Int) = ⟨(secL i R lx).toArray⟩) (hS : Sat w (storeA s st :: plateA st.plate pl :: L)) :
    Calls Tryd.prog 20 #[.pointer (some ⟨s, 0, none⟩), .int .i64 (i : Nat)] w (Ret fun r w' => (r = .tuple #[.bool true, .int .i64 0] ∧ ∃ pl', (Held pl' P ∧ pl'.count = pl.count ∧ pl'.queue.length = pl.queue.length + 1 ∧ pl'.down = false ∧ pl'.life = pl.life ∧ (pl.armed ≤ 0 → pl'.armed ≤ 0) ∧ (∀ m, pl'.live m = if ((st.at' + st.copies + i : Nat) : Int) = m then ⟨(secL i R lx).toArray⟩ else pl.live m) ∧ pl'.acts = wrap64 (pl.acts + 1)) ∧ Sat w' (storeA s { st with pages := st.pages ++ [(⟨R, lx⟩ : Page)], torn := true } :: plateA st.plate pl' :: L)) ∨ (r = .tuple #[.bool false, .int .i64 10] ∧ ∃ pl', (Held pl' P ∧ pl'.count = pl.count ∧ pl'.queue.length = pl.queue.length + 1 ∧ pl'.down = true ∧ 0 < pl.armed ∧ pl'.armed = 0) ∧ Sat w' (storeA s st :: plateA st.plate pl' :: L))) := by
  have hz : (pl.live ((st.at' + st.copies + i : Nat) : Int)).size = 0 := by rw [hhome]; exact hz0
  have hsec : (⟨(secL i R lx).toArray⟩ : ByteArray).size = 256 := secL_len hok
  subst hhome
  refine enter (vs := [.pointer (some ⟨s, 0, none⟩), .int .i64 (i : Nat)]) Tryd.func20 rfl Tryd.ntmps20 rfl ?_
  intro a1 hF2
  have hF3 : Fits a1 71 [(0, .pointer (some ⟨s, 0, none⟩)), (1, .int .i64 (i : Nat))] := hF2
  clear hF2
  refine wp_seq ?_
  refine reg_text (l := [0, 1]) (by kernel_rfl) ?_
  refine batch_spec (is := [0, 1]) (rest := []) (live := [0, 1, 4, 5]) (e' := [(0, .pointer (some ⟨s, 0, none⟩)), (1, .int .i64 (i : Nat)), (4, .bool false), (5, .int .i64 0)]) (vs := []) (obs := []) hF3 (by kernel_rfl) .nil ?_
  intro a4 hF5
  clear hF3
  refine ops_done ?_
  refine nrm_then ?_
  refine wp_seq ?_
  refine reg_drawn (fun j => match j with | 1 => [0] | 2 => [0, 1] | 3 => [0, 1, 2] | 6 => [4, 5] | 7 => [0, 1, 2, 3, 4, 5, 6] | 8 => [0, 1, 2, 3, 4, 5, 6, 7] | 9 => [0, 1, 2, 3, 4, 5, 6, 7, 8] | 10 => [0, 1, 2, 3, 4, 5, 6, 7, 8] | 11 => [0, 1, 2, 3, 4, 5, 6, 7, 8, 9] | 12 => [0, 1, 2, 3, 4, 5, 6, 7, 8, 9, 10, 11] | _ => []) hS (by kernel_rfl) (by kernel_rfl) (by kernel_rfl) (fun c a d v w h => by cases d <;> exact h) ?_
  intro w6 hS7 hw8
  clear hS
  obtain ⟨A9, c10, hS11⟩ := store_out (Sat_at hS7 0 rfl rfl)
  have hS12 : Sat w6 (raw s (.cells #[.pointer (some ⟨st.plate, 0, none⟩), .int .i64 (st.at' : Nat), .int .i64 (st.copies : Nat), .slice A9 st.pages.length c10, .int .i64 st.life, .bool st.torn] 59 (0, 0)) :: rowA pageT 41 A9 c10 st.pages :: plateA st.plate pl :: L) := hS11
  refine batchD_spec (is := [0, 1, 2, 3, 4, 5]) (dn := []) (dn' := [0, 1, 2, 3, 4, 5]) (live := [0, 1, 4, 5, 15, 16, 17]) (e' := [(0, .pointer (some ⟨s, 0, none⟩)), (1, .int .i64 (i : Nat)), (4, .bool false), (5, .int .i64 0), (15, .pointer (some ⟨st.plate, 0, none⟩)), (16, .pointer (some ⟨s, 0, none⟩)), (17, .int .i64 (i : Nat))]) (vs := [.pointer (some ⟨st.plate, 0, none⟩)]) (obs := [(⟨s, 0, none⟩, .pointer (some ⟨st.plate, 0, none⟩))]) (pd' := [(3, [(⟨s, 0, none⟩, .pointer (some ⟨st.plate, 0, none⟩))])]) hF5 (by kernel_rfl) (.cons (ob hS12 0 rfl rfl) .nil) rfl ?_
  intro a13 hF14
  clear hF5
  refine wpD_next (i := 6) (pd' := [(3, [(⟨s, 0, none⟩, .pointer (some ⟨st.plate, 0, none⟩))])]) (dn' := [0, 1, 2, 3, 4, 5, 6]) (by kernel_rfl) rfl (by kernel_rfl) ?_
  refine op_call (fn := 27) (first := #[]) (cap := #[]) (args := #[.pointer (some ⟨s, 0, none⟩), .int .i64 (i : Nat)]) (all := #[.pointer (some ⟨s, 0, none⟩), .int .i64 (i : Nat)]) (pe := fun u => [(18, u), (0, .pointer (some ⟨s, 0, none⟩)), (1, .int .i64 (i : Nat)), (4, .bool false), (5, .int .i64 0), (15, .pointer (some ⟨st.plate, 0, none⟩)), (16, .pointer (some ⟨s, 0, none⟩)), (17, .int .i64 (i : Nat))]) hF14 (fun u => by kernel_rfl) (by kernel_rfl) (by kernel_rfl) (home_c hi ha hc hS12) ?_
  rintro u w17 a15 ⟨rfl, hS18⟩ hF16
  clear hF14
  clear hS7 hS11 hS12
  have hS19 : Sat w17 (raw s (.cells #[.pointer (some ⟨st.plate, 0, none⟩), .int .i64 (st.at' : Nat), .int .i64 (st.copies : Nat), .slice A9 st.pages.length c10, .int .i64 st.life, .bool st.torn] 59 (0, 0)) :: rowA pageT 41 A9 c10 st.pages :: plateA st.plate pl :: L) := hS18
  refine ⟨(.cons (.cons (ob hS19 0 rfl rfl) .nil) .nil), ?_⟩
  refine wpD_next (i := 7) (pd' := []) (dn' := [0, 1, 2, 3, 4, 5, 6, 7]) (by kernel_rfl) rfl (by kernel_rfl) ?_
  have hS20 : Sat w17 (plateA st.plate pl :: raw s (.cells #[.pointer (some ⟨st.plate, 0, none⟩), .int .i64 (st.at' : Nat), .int .i64 (st.copies : Nat), .slice A9 st.pages.length c10, .int .i64 st.life, .bool st.torn] 59 (0, 0)) :: rowA pageT 41 A9 c10 st.pages :: L) := (Sat_at hS19 2 rfl rfl)
  refine op_call (fn := 15) (first := #[]) (cap := #[]) (args := #[.pointer (some ⟨st.plate, 0, none⟩), .int .i64 (st.at' + st.copies + i : Nat)]) (all := #[.pointer (some ⟨st.plate, 0, none⟩), .int .i64 (st.at' + st.copies + i : Nat)]) (pe := fun u => [(19, u), (18, .int .i64 (st.at' + st.copies + i : Nat)), (0, .pointer (some ⟨s, 0, none⟩)), (1, .int .i64 (i : Nat)), (4, .bool false), (5, .int .i64 0), (15, .pointer (some ⟨st.plate, 0, none⟩)), (16, .pointer (some ⟨s, 0, none⟩)), (17, .int .i64 (i : Nat))]) hF16 (fun u => by kernel_rfl) (by kernel_rfl) (by kernel_rfl) (Ret.of_ex (read_torn hH (ready_up hd (by omega) hcnt) (by omega) hz hS20)) ?_
  rintro u w23 a21 ⟨rfl, hS24⟩ hF22
  clear hF16
  clear hS18 hS19 hS20
  have hS25 : Sat w23 (plateA st.plate pl :: raw s (.cells #[.pointer (some ⟨st.plate, 0, none⟩), .int .i64 (st.at' : Nat), .int .i64 (st.copies : Nat), .slice A9 st.pages.length c10, .int .i64 st.life, .bool st.torn] 59 (0, 0)) :: rowA pageT 41 A9 c10 st.pages :: L) := hS24
  refine ⟨.nil, ?_⟩
  refine batchD_spec (is := [8, 9, 10, 11, 12]) (dn := [0, 1, 2, 3, 4, 5, 6, 7]) (dn' := [0, 1, 2, 3, 4, 5, 6, 7, 8, 9, 10, 11, 12]) (live := [0, 1, 4, 5, 6, 7]) (e' := [(0, .pointer (some ⟨s, 0, none⟩)), (1, .int .i64 (i : Nat)), (4, .bool false), (5, .int .i64 0), (6, .string ⟨#[]⟩), (7, .int .i64 20)]) (vs := []) (obs := []) (pd' := []) hF22 (by kernel_rfl) .nil rfl ?_
  intro a26 hF27
  clear hF22
  refine wpD_done (by kernel_rfl) ?_
  refine nrm_then ?_
  refine wp_seq ?_
  refine reg_text (l := [0]) (by kernel_rfl) ?_
  refine ops_next ?_
  obtain ⟨b28, w29, hr30, hS31⟩ := comes_new (P := Tryd.prog) (v := .alloc 41) (u := fun b => .pointer (some ⟨b, 0, none⟩)) (o := .cells #[.int .i64 0, .slice none 0 0] 41 (0, 0)) hS25 (fun w => by kernel_rfl)
  refine op_value (u := .pointer (some ⟨b28, 0, none⟩)) (e' := [(8, .pointer (some ⟨b28, 0, none⟩)), (0, .pointer (some ⟨s, 0, none⟩)), (1, .int .i64 (i : Nat)), (4, .bool false), (5, .int .i64 0), (6, .string ⟨#[]⟩), (7, .int .i64 20)]) hF27 (by kernel_rfl) hr30 ?_
  intro a32 hF33
  clear hF27 hr30
  clear hS24 hS25
  refine ops_done ?_
  refine nrm_then ?_
  refine wp_seq ?_
  refine reg_text (l := [0]) (by kernel_rfl) ?_
  refine batch_spec (is := [0]) (rest := []) (live := [8, 0, 1, 4, 5, 6, 7, 9]) (e' := [(8, .pointer (some ⟨b28, 0, none⟩)), (0, .pointer (some ⟨s, 0, none⟩)), (1, .int .i64 (i : Nat)), (4, .bool false), (5, .int .i64 0), (6, .string ⟨#[]⟩), (7, .int .i64 20), (9, .bool false)]) (vs := []) (obs := []) hF33 (by kernel_rfl) .nil ?_
  intro a34 hF35
  clear hF33
  refine ops_done ?_
  refine nrm_then ?_
  refine wp_seq ?_
  refine wp_seq ?_
  refine reg_text (l := [0, 1]) (by kernel_rfl) ?_
  refine batch_spec (is := [0, 1]) (rest := []) (live := [8, 0, 1, 4, 5, 6, 9, 23]) (e' := [(8, .pointer (some ⟨b28, 0, none⟩)), (0, .pointer (some ⟨s, 0, none⟩)), (1, .int .i64 (i : Nat)), (4, .bool false), (5, .int .i64 0), (6, .string ⟨#[]⟩), (9, .bool false), (23, .bool false)]) (vs := []) (obs := []) hF35 (by kernel_rfl) .nil ?_
  intro a36 hF37
  clear hF35
  refine ops_done ?_
  refine nrm_then ?_
  refine cond_no hF37 rfl ?_
  refine wp_seq ?_
  refine reg_text (l := [0, 1, 2, 3, 4, 5, 6, 7]) (by kernel_rfl) ?_
  refine batch_spec (is := [0, 1]) (rest := [2, 3, 4, 5, 6, 7]) (live := [8, 0, 1, 4, 5, 9, 37, 38]) (e' := [(8, .pointer (some ⟨b28, 0, none⟩)), (0, .pointer (some ⟨s, 0, none⟩)), (1, .int .i64 (i : Nat)), (4, .bool false), (5, .int .i64 0), (9, .bool false), (37, .pointer (some ⟨s, 0, none⟩)), (38, .int .i64 (i : Nat))]) (vs := []) (obs := []) hF37 (by kernel_rfl) .nil ?_
  intro a38 hF39
  clear hF37
  refine ops_next ?_
  have hS40 : Sat w29 (storeA s st :: raw b28 (.cells #[.int .i64 0, .slice none 0 0] 41 (0, 0)) :: plateA st.plate pl :: L) := store_in' (st := st) (by simp) (Sat_at (Sat_at hS31 3 rfl rfl) 3 rfl rfl)
  have hS41 : Sat w29 (storeA s st :: plateA st.plate pl :: raw b28 (.cells #[.int .i64 0, .slice none 0 0] 41 (0, 0)) :: L) := (Sat_at (Sat_at hS40 2 rfl rfl) 1 rfl rfl)
  refine op_call (fn := 35) (first := #[]) (cap := #[]) (args := #[.pointer (some ⟨s, 0, none⟩), .int .i64 (i : Nat)]) (all := #[.pointer (some ⟨s, 0, none⟩), .int .i64 (i : Nat)]) (pe := fun u => [(39, u), (8, .pointer (some ⟨b28, 0, none⟩)), (0, .pointer (some ⟨s, 0, none⟩)), (1, .int .i64 (i : Nat)), (4, .bool false), (5, .int .i64 0), (9, .bool false), (37, .pointer (some ⟨s, 0, none⟩)), (38, .int .i64 (i : Nat))]) hF39 (fun u => by kernel_rfl) (by kernel_rfl) (by kernel_rfl) (Ret.of_ex (copied_ct (i := i) (R := R) (lx := lx) hH (by omega) hd (by omega) ha hc (by omega) hR0 hall hsure hS41)) ?_
  rintro u w46 a44 ⟨A42, c43, rfl, hS47⟩ hF45
  clear hF39
  clear hS31 hS40 hS41
  have hS48 : Sat w46 (slA slotT (.slice A42 lx.length c43) lx :: storeA s st :: plateA st.plate pl :: raw b28 (.cells #[.int .i64 0, .slice none 0 0] 41 (0, 0)) :: L) := hS47
  refine batch_spec (is := [3, 4, 5]) (rest := [6, 7]) (live := [8, 0, 1, 4, 5, 9, 40, 41]) (e' := [(8, .pointer (some ⟨b28, 0, none⟩)), (0, .pointer (some ⟨s, 0, none⟩)), (1, .int .i64 (i : Nat)), (4, .bool false), (5, .int .i64 0), (9, .bool false), (40, .agg #[.int .i64 (R : Nat), .slice A42 lx.length c43]), (41, .bool true)]) (vs := []) (obs := []) hF45 (by kernel_rfl) .nil ?_
  intro a49 hF50
  clear hF45
  refine ops_next ?_
  obtain ⟨w51, hr52, hS53⟩ := comes_store (P := Tryd.prog) (t' := 41) (b := b28) (j := 0) (x := .agg #[.int .i64 (R : Nat), .slice A42 lx.length c43]) (vs := [.int .i64 (R : Nat), .slice A42 lx.length c43]) (c' := #[.int .i64 (R : Nat), .slice A42 lx.length c43]) hS48 3 rfl rfl rfl (by kernel_rfl) rfl rfl rfl
  refine op_value (u := undef) (e' := [(8, .pointer (some ⟨b28, 0, none⟩)), (0, .pointer (some ⟨s, 0, none⟩)), (1, .int .i64 (i : Nat)), (4, .bool false), (5, .int .i64 0), (9, .bool false), (40, .agg #[.int .i64 (R : Nat), .slice A42 lx.length c43]), (41, .bool true)]) hF50 (by kernel_rfl) hr52 ?_
  intro a54 hF55
  clear hF50 hr52
  clear hS47 hS48
  have hS56 : Sat w51 (raw b28 (.cells #[.int .i64 (R : Nat), .slice A42 lx.length c43] 41 (0, 0)) :: slA slotT (.slice A42 lx.length c43) lx :: storeA s st :: plateA st.plate pl :: L) := hS53
  refine batch_spec (is := [7]) (rest := []) (live := [8, 0, 1, 4, 5, 9]) (e' := [(8, .pointer (some ⟨b28, 0, none⟩)), (0, .pointer (some ⟨s, 0, none⟩)), (1, .int .i64 (i : Nat)), (4, .bool false), (5, .int .i64 0), (9, .bool true)]) (vs := []) (obs := []) hF55 (by kernel_rfl) .nil ?_
  intro a57 hF58
  clear hF55
  refine ops_done ?_
  refine nrm_then ?_
  refine wp_seq ?_
  refine reg_text (l := [0]) (by kernel_rfl) ?_
  refine batch_spec (is := [0]) (rest := []) (live := [8, 0, 1, 4, 5, 9, 42]) (e' := [(8, .pointer (some ⟨b28, 0, none⟩)), (0, .pointer (some ⟨s, 0, none⟩)), (1, .int .i64 (i : Nat)), (4, .bool false), (5, .int .i64 0), (9, .bool true), (42, .bool true)]) (vs := []) (obs := []) hF58 (by kernel_rfl) .nil ?_
  intro a59 hF60
  clear hF58
  refine ops_done ?_
  refine nrm_then ?_
  refine cond_yes hF60 rfl ?_
  refine wp_seq ?_
  refine wp_seq ?_
  refine reg_drawn (fun j => match j with | 1 => [0] | 2 => [0, 1] | 3 => [0, 1, 2] | 6 => [4, 5] | 9 => [4, 5, 6, 7, 8] | 10 => [0, 1, 2, 3, 4, 5, 6, 7, 8, 9] | 11 => [0, 1, 2, 3, 4, 5, 6, 7, 8, 9, 10] | _ => []) hS56 (by kernel_rfl) (by kernel_rfl) (by kernel_rfl) (fun c a d v w h => by cases d <;> exact h) ?_
  intro w61 hS62 hw63
  clear hS53 hS56
  obtain ⟨A64, c65, hS66⟩ := store_out (Sat_at hS62 2 rfl rfl)
  have hS67 : Sat w61 (raw s (.cells #[.pointer (some ⟨st.plate, 0, none⟩), .int .i64 (st.at' : Nat), .int .i64 (st.copies : Nat), .slice A64 st.pages.length c65, .int .i64 st.life, .bool st.torn] 59 (0, 0)) :: rowA pageT 41 A64 c65 st.pages :: raw b28 (.cells #[.int .i64 (R : Nat), .slice A42 lx.length c43] 41 (0, 0)) :: slA slotT (.slice A42 lx.length c43) lx :: plateA st.plate pl :: L) := hS66
  refine batchD_spec (is := [0, 1, 2, 3, 4, 5, 7, 8]) (dn := []) (dn' := [0, 1, 2, 3, 4, 5, 7, 8]) (live := [8, 0, 4, 5, 9, 46, 47, 48, 50, 51]) (e' := [(8, .pointer (some ⟨b28, 0, none⟩)), (0, .pointer (some ⟨s, 0, none⟩)), (4, .bool false), (5, .int .i64 0), (9, .bool true), (46, .pointer (some ⟨st.plate, 0, none⟩)), (47, .pointer (some ⟨s, 0, none⟩)), (48, .int .i64 (i : Nat)), (50, .int .i64 (i : Nat)), (51, .agg #[.int .i64 (R : Nat), .slice A42 lx.length c43])]) (vs := [.pointer (some ⟨st.plate, 0, none⟩), .int .i64 (R : Nat), .slice A42 lx.length c43]) (obs := [(⟨s, 0, none⟩, .pointer (some ⟨st.plate, 0, none⟩)), (⟨b28, 0, none⟩, .int .i64 (R : Nat)), (⟨b28, 1, none⟩, .slice A42 lx.length c43)]) (pd' := [(8, [(⟨b28, 0, none⟩, .int .i64 (R : Nat)), (⟨b28, 1, none⟩, .slice A42 lx.length c43)]), (3, [(⟨s, 0, none⟩, .pointer (some ⟨st.plate, 0, none⟩))])]) hF60 (by kernel_rfl) (.cons (ob hS67 0 rfl rfl) (.cons (ob hS67 2 rfl rfl) (.cons (ob hS67 2 rfl rfl) .nil))) rfl ?_
  intro a68 hF69
  clear hF60
  refine wpD_next (i := 6) (pd' := [(8, [(⟨b28, 0, none⟩, .int .i64 (R : Nat)), (⟨b28, 1, none⟩, .slice A42 lx.length c43)]), (3, [(⟨s, 0, none⟩, .pointer (some ⟨st.plate, 0, none⟩))])]) (dn' := [0, 1, 2, 3, 4, 5, 7, 8, 6]) (by kernel_rfl) rfl (by kernel_rfl) ?_
  refine op_call (fn := 27) (first := #[]) (cap := #[]) (args := #[.pointer (some ⟨s, 0, none⟩), .int .i64 (i : Nat)]) (all := #[.pointer (some ⟨s, 0, none⟩), .int .i64 (i : Nat)]) (pe := fun u => [(49, u), (8, .pointer (some ⟨b28, 0, none⟩)), (0, .pointer (some ⟨s, 0, none⟩)), (4, .bool false), (5, .int .i64 0), (9, .bool true), (46, .pointer (some ⟨st.plate, 0, none⟩)), (47, .pointer (some ⟨s, 0, none⟩)), (48, .int .i64 (i : Nat)), (50, .int .i64 (i : Nat)), (51, .agg #[.int .i64 (R : Nat), .slice A42 lx.length c43])]) hF69 (fun u => by kernel_rfl) (by kernel_rfl) (by kernel_rfl) (home_c hi ha hc hS67) ?_
  rintro u w72 a70 ⟨rfl, hS73⟩ hF71
  clear hF69
  clear hS62 hS66 hS67
  have hS74 : Sat w72 (raw s (.cells #[.pointer (some ⟨st.plate, 0, none⟩), .int .i64 (st.at' : Nat), .int .i64 (st.copies : Nat), .slice A64 st.pages.length c65, .int .i64 st.life, .bool st.torn] 59 (0, 0)) :: rowA pageT 41 A64 c65 st.pages :: raw b28 (.cells #[.int .i64 (R : Nat), .slice A42 lx.length c43] 41 (0, 0)) :: slA slotT (.slice A42 lx.length c43) lx :: plateA st.plate pl :: L) := hS73
  refine ⟨(.cons (.cons (ob hS74 2 rfl rfl) (.cons (ob hS74 2 rfl rfl) .nil)) (.cons (.cons (ob hS74 0 rfl rfl) .nil) .nil)), ?_⟩
  refine wpD_next (i := 9) (pd' := [(3, [(⟨s, 0, none⟩, .pointer (some ⟨st.plate, 0, none⟩))])]) (dn' := [0, 1, 2, 3, 4, 5, 7, 8, 6, 9]) (by kernel_rfl) rfl (by kernel_rfl) ?_
  refine op_call (fn := 37) (first := #[]) (cap := #[]) (args := #[.int .i64 (i : Nat), .agg #[.int .i64 (R : Nat), .slice A42 lx.length c43]]) (all := #[.int .i64 (i : Nat), .agg #[.int .i64 (R : Nat), .slice A42 lx.length c43]]) (pe := fun u => [(52, u), (49, .int .i64 (st.at' + st.copies + i : Nat)), (8, .pointer (some ⟨b28, 0, none⟩)), (0, .pointer (some ⟨s, 0, none⟩)), (4, .bool false), (5, .int .i64 0), (9, .bool true), (46, .pointer (some ⟨st.plate, 0, none⟩)), (47, .pointer (some ⟨s, 0, none⟩)), (48, .int .i64 (i : Nat)), (50, .int .i64 (i : Nat)), (51, .agg #[.int .i64 (R : Nat), .slice A42 lx.length c43])]) hF71 (fun u => by kernel_rfl) (by kernel_rfl) (by kernel_rfl) (sector_c hok (by omega) hS74 3 rfl) ?_
  rintro u w77 a75 ⟨rfl, hS78⟩ hF76
  clear hF71
  clear hS73 hS74
  have hS79 : Sat w77 (raw s (.cells #[.pointer (some ⟨st.plate, 0, none⟩), .int .i64 (st.at' : Nat), .int .i64 (st.copies : Nat), .slice A64 st.pages.length c65, .int .i64 st.life, .bool st.torn] 59 (0, 0)) :: rowA pageT 41 A64 c65 st.pages :: raw b28 (.cells #[.int .i64 (R : Nat), .slice A42 lx.length c43] 41 (0, 0)) :: slA slotT (.slice A42 lx.length c43) lx :: plateA st.plate pl :: L) := hS78
  refine ⟨(.cons (.cons (ob hS79 0 rfl rfl) .nil) .nil), ?_⟩
  refine wpD_next (i := 10) (pd' := []) (dn' := [0, 1, 2, 3, 4, 5, 7, 8, 6, 9, 10]) (by kernel_rfl) rfl (by kernel_rfl) ?_
  have hS80 : Sat w77 (plateA st.plate pl :: raw s (.cells #[.pointer (some ⟨st.plate, 0, none⟩), .int .i64 (st.at' : Nat), .int .i64 (st.copies : Nat), .slice A64 st.pages.length c65, .int .i64 st.life, .bool st.torn] 59 (0, 0)) :: rowA pageT 41 A64 c65 st.pages :: raw b28 (.cells #[.int .i64 (R : Nat), .slice A42 lx.length c43] 41 (0, 0)) :: slA slotT (.slice A42 lx.length c43) lx :: L) := (Sat_at hS79 4 rfl rfl)
  refine op_call (fn := 36) (first := #[]) (cap := #[]) (args := #[.pointer (some ⟨st.plate, 0, none⟩), .int .i64 (st.at' + st.copies + i : Nat), .string ⟨(secL i R lx).toArray⟩]) (all := #[.pointer (some ⟨st.plate, 0, none⟩), .int .i64 (st.at' + st.copies + i : Nat), .string ⟨(secL i R lx).toArray⟩]) (pe := fun u => [(53, u), (52, .string ⟨(secL i R lx).toArray⟩), (49, .int .i64 (st.at' + st.copies + i : Nat)), (8, .pointer (some ⟨b28, 0, none⟩)), (0, .pointer (some ⟨s, 0, none⟩)), (4, .bool false), (5, .int .i64 0), (9, .bool true), (46, .pointer (some ⟨st.plate, 0, none⟩)), (47, .pointer (some ⟨s, 0, none⟩)), (48, .int .i64 (i : Nat)), (50, .int .i64 (i : Nat)), (51, .agg #[.int .i64 (R : Nat), .slice A42 lx.length c43])]) hF76 (fun u => by kernel_rfl) (by kernel_rfl) (by kernel_rfl) (write_c hH hd (by omega) hcnt hsec hP hT (by omega) hS80) ?_
  rintro u w83 a81 (⟨rfl, pl2, hx, hS84⟩ | ⟨rfl, pl2, hx, hS84⟩) hF82
  ·
    clear hF76
    clear hS78 hS79 hS80
    have hS85 : Sat w83 (plateA st.plate pl2 :: raw s (.cells #[.pointer (some ⟨st.plate, 0, none⟩), .int .i64 (st.at' : Nat), .int .i64 (st.copies : Nat), .slice A64 st.pages.length c65, .int .i64 st.life, .bool st.torn] 59 (0, 0)) :: rowA pageT 41 A64 c65 st.pages :: raw b28 (.cells #[.int .i64 (R : Nat), .slice A42 lx.length c43] 41 (0, 0)) :: slA slotT (.slice A42 lx.length c43) lx :: L) := hS84
    refine ⟨.nil, ?_⟩
    refine batchD_spec (is := [11]) (dn := [0, 1, 2, 3, 4, 5, 7, 8, 6, 9, 10]) (dn' := [0, 1, 2, 3, 4, 5, 7, 8, 6, 9, 10, 11]) (live := [8, 0, 4, 5, 9, 10]) (e' := [(8, .pointer (some ⟨b28, 0, none⟩)), (0, .pointer (some ⟨s, 0, none⟩)), (4, .bool false), (5, .int .i64 0), (9, .bool true), (10, .int .i64 0)]) (vs := []) (obs := []) (pd' := []) hF82 (by kernel_rfl) .nil rfl ?_
    intro a86 hF87
    clear hF82
    refine wpD_done (by kernel_rfl) ?_
    refine nrm_then ?_
    refine wp_seq ?_
    refine reg_text (l := [0, 1]) (by kernel_rfl) ?_
    refine batch_spec (is := [0, 1]) (rest := []) (live := [8, 0, 4, 5, 9, 10, 55]) (e' := [(8, .pointer (some ⟨b28, 0, none⟩)), (0, .pointer (some ⟨s, 0, none⟩)), (4, .bool false), (5, .int .i64 0), (9, .bool true), (10, .int .i64 0), (55, .bool false)]) (vs := []) (obs := []) hF87 (by kernel_rfl) .nil ?_
    intro a88 hF89
    clear hF87
    refine ops_done ?_
    refine nrm_then ?_
    refine cond_no hF89 rfl ?_
    refine wp_skip ?_
    refine nrm_then ?_
    refine reg_text (l := [0, 1, 2, 3]) (by kernel_rfl) ?_
    refine batch_spec (is := [0, 1, 2]) (rest := [3]) (live := [8, 0, 4, 5, 9, 59]) (e' := [(8, .pointer (some ⟨b28, 0, none⟩)), (0, .pointer (some ⟨s, 0, none⟩)), (4, .bool false), (5, .int .i64 0), (9, .bool true), (59, .pointer (some ⟨s, 5, none⟩))]) (vs := []) (obs := []) hF89 (by kernel_rfl) .nil ?_
    intro a90 hF91
    clear hF89
    refine ops_next ?_
    obtain ⟨w92, hr93, hS94⟩ := comes_store (P := Tryd.prog) (t' := 4) (b := s) (j := 5) (x := .bool true) (vs := [.bool true]) (c' := #[.pointer (some ⟨st.plate, 0, none⟩), .int .i64 (st.at' : Nat), .int .i64 (st.copies : Nat), .slice A64 st.pages.length c65, .int .i64 st.life, .bool true]) hS85 1 rfl rfl rfl (by kernel_rfl) rfl rfl rfl
    refine op_value (u := undef) (e' := [(8, .pointer (some ⟨b28, 0, none⟩)), (0, .pointer (some ⟨s, 0, none⟩)), (4, .bool false), (5, .int .i64 0), (9, .bool true), (59, .pointer (some ⟨s, 5, none⟩))]) hF91 (by kernel_rfl) hr93 ?_
    intro a95 hF96
    clear hF91 hr93
    clear hS84 hS85
    have hS97 : Sat w92 (raw s (.cells #[.pointer (some ⟨st.plate, 0, none⟩), .int .i64 (st.at' : Nat), .int .i64 (st.copies : Nat), .slice A64 st.pages.length c65, .int .i64 st.life, .bool true] 59 (0, 0)) :: plateA st.plate pl2 :: rowA pageT 41 A64 c65 st.pages :: raw b28 (.cells #[.int .i64 (R : Nat), .slice A42 lx.length c43] 41 (0, 0)) :: slA slotT (.slice A42 lx.length c43) lx :: L) := hS94
    refine ops_done ?_
    refine nrm_then ?_
    refine wp_seq ?_
    refine reg_drawn (fun j => match j with | 2 => [1] | 3 => [1, 2] | 4 => [1, 2, 3] | 6 => [5] | 7 => [1, 2, 3, 4, 5, 6] | 8 => [0, 1, 2, 3, 4, 5, 6, 7] | 9 => [0, 1, 2, 3, 4, 5, 6, 7, 8] | 10 => [0, 1, 2, 3, 4, 5, 6, 7, 8, 9] | _ => []) hS97 (by kernel_rfl) (by kernel_rfl) (by kernel_rfl) (fun c a d v w h => by cases d <;> exact h) ?_
    intro w98 hS99 hw100
    clear hS94 hS97
    refine batchD_spec (is := [0, 1, 2, 3, 4, 5]) (dn := []) (dn' := [0, 1, 2, 3, 4, 5]) (live := [4, 5, 9, 60, 64, 65]) (e' := [(4, .bool false), (5, .int .i64 0), (9, .bool true), (60, .pointer (some ⟨s, 0, none⟩)), (64, .slice A64 st.pages.length c65), (65, .agg #[.int .i64 (R : Nat), .slice A42 lx.length c43])]) (vs := [.slice A64 st.pages.length c65, .int .i64 (R : Nat), .slice A42 lx.length c43]) (obs := [(⟨s, 3, none⟩, .slice A64 st.pages.length c65), (⟨b28, 0, none⟩, .int .i64 (R : Nat)), (⟨b28, 1, none⟩, .slice A42 lx.length c43)]) (pd' := [(5, [(⟨b28, 0, none⟩, .int .i64 (R : Nat)), (⟨b28, 1, none⟩, .slice A42 lx.length c43)]), (4, [(⟨s, 3, none⟩, .slice A64 st.pages.length c65)])]) hF96 (by kernel_rfl) (.cons (ob hS99 0 rfl rfl) (.cons (ob hS99 3 rfl rfl) (.cons (ob hS99 3 rfl rfl) .nil))) rfl ?_
    intro a101 hF102
    clear hF96
    refine wpD_next (i := 6) (pd' := [(4, [(⟨s, 3, none⟩, .slice A64 st.pages.length c65)])]) (dn' := [0, 1, 2, 3, 4, 5, 6]) (by kernel_rfl) rfl (by kernel_rfl) ?_
    obtain ⟨b103, w104, hr105, hS106⟩ := comes_new (P := Tryd.prog) (v := .buildSlice 32 1 #[(0, .agg #[.int .i64 (R : Nat), .slice A42 lx.length c43])]) (u := fun b => .slice (some ⟨b, 0, none⟩) 1 1) (o := .cells #[.int .i64 (R : Nat), .slice A42 lx.length c43] 41 (0, 0)) hS99 (fun w => by kernel_rfl)
    refine op_value (u := .slice (some ⟨b103, 0, none⟩) 1 1) (e' := [(66, .slice (some ⟨b103, 0, none⟩) 1 1), (4, .bool false), (5, .int .i64 0), (9, .bool true), (60, .pointer (some ⟨s, 0, none⟩)), (64, .slice A64 st.pages.length c65), (65, .agg #[.int .i64 (R : Nat), .slice A42 lx.length c43])]) hF102 (by kernel_rfl) hr105 ?_
    intro a107 hF108
    clear hF102 hr105
    clear hS99
    refine ⟨(.cons (.cons (ob hS106 1 rfl rfl) .nil) .nil), ?_⟩
    refine wpD_next (i := 7) (pd' := []) (dn' := [0, 1, 2, 3, 4, 5, 6, 7]) (by kernel_rfl) rfl (by kernel_rfl) ?_
    obtain ⟨B112, cap113, w109, hr110, hS111⟩ := comes_append (P := Tryd.prog) (T := pageT) (c := 32) (z := .agg #[.int .i64 0, .slice none 0 0]) (t' := 32) (ty := 32) (cs := #[false, false]) (n := st.pages.length) (m := 1) (xs := [(⟨(R : Nat), lx⟩ : Page)]) (cc := 1) hS106 3 rfl rfl 0 rfl (fun h => Sat_out 5 h rfl (fun g hg => Cells.single ⟨_, rfl, hg⟩)) rfl rfl Tryd.underlying32 (by kernel_rfl) rfl (by unfold maxLen; omega) (by omega)
    refine op_value (u := .slice B112 (st.pages.length + 1) cap113) (e' := [(67, .slice B112 (st.pages.length + 1) cap113), (66, .slice (some ⟨b103, 0, none⟩) 1 1), (4, .bool false), (5, .int .i64 0), (9, .bool true), (60, .pointer (some ⟨s, 0, none⟩)), (64, .slice A64 st.pages.length c65), (65, .agg #[.int .i64 (R : Nat), .slice A42 lx.length c43])]) hF108 (by kernel_rfl) hr110 ?_
    intro a114 hF115
    clear hF108 hr110
    clear hS106
    have hS116 : Sat w109 (rowA pageT 41 B112 cap113 (st.pages ++ [(⟨(R : Nat), lx⟩ : Page)]) :: raw b103 (.cells #[.int .i64 (R : Nat), .slice A42 lx.length c43] 41 (0, 0)) :: raw s (.cells #[.pointer (some ⟨st.plate, 0, none⟩), .int .i64 (st.at' : Nat), .int .i64 (st.copies : Nat), .slice A64 st.pages.length c65, .int .i64 st.life, .bool true] 59 (0, 0)) :: plateA st.plate pl2 :: raw b28 (.cells #[.int .i64 (R : Nat), .slice A42 lx.length c43] 41 (0, 0)) :: slA slotT (.slice A42 lx.length c43) lx :: L) := hS111
    refine ⟨.nil, ?_⟩
    refine batchD_spec (is := [8, 9]) (dn := [0, 1, 2, 3, 4, 5, 6, 7]) (dn' := [0, 1, 2, 3, 4, 5, 6, 7, 8, 9]) (live := [67, 4, 5, 9, 69]) (e' := [(67, .slice B112 (st.pages.length + 1) cap113), (4, .bool false), (5, .int .i64 0), (9, .bool true), (69, .pointer (some ⟨s, 3, none⟩))]) (vs := []) (obs := []) (pd' := []) hF115 (by kernel_rfl) .nil rfl ?_
    intro a117 hF118
    clear hF115
    refine wpD_next (i := 10) (pd' := []) (dn' := [0, 1, 2, 3, 4, 5, 6, 7, 8, 9, 10]) (by kernel_rfl) rfl (by kernel_rfl) ?_
    obtain ⟨w119, hr120, hS121⟩ := comes_store (P := Tryd.prog) (t' := 32) (b := s) (j := 3) (x := .slice B112 (st.pages.length + 1) cap113) (vs := [.slice B112 (st.pages.length + 1) cap113]) (c' := #[.pointer (some ⟨st.plate, 0, none⟩), .int .i64 (st.at' : Nat), .int .i64 (st.copies : Nat), .slice B112 (st.pages.length + 1) cap113, .int .i64 st.life, .bool true]) hS116 2 rfl rfl rfl (by kernel_rfl) rfl rfl rfl
    refine op_value (u := undef) (e' := [(67, .slice B112 (st.pages.length + 1) cap113), (4, .bool false), (5, .int .i64 0), (9, .bool true), (69, .pointer (some ⟨s, 3, none⟩))]) hF118 (by kernel_rfl) hr120 ?_
    intro a122 hF123
    clear hF118 hr120
    clear hS111 hS116
    have hS124 : Sat w119 (raw s (.cells #[.pointer (some ⟨st.plate, 0, none⟩), .int .i64 (st.at' : Nat), .int .i64 (st.copies : Nat), .slice B112 (st.pages.length + 1) cap113, .int .i64 st.life, .bool true] 59 (0, 0)) :: rowA pageT 41 B112 cap113 (st.pages ++ [(⟨(R : Nat), lx⟩ : Page)]) :: raw b103 (.cells #[.int .i64 (R : Nat), .slice A42 lx.length c43] 41 (0, 0)) :: plateA st.plate pl2 :: raw b28 (.cells #[.int .i64 (R : Nat), .slice A42 lx.length c43] 41 (0, 0)) :: slA slotT (.slice A42 lx.length c43) lx :: L) := hS121
    refine ⟨.nil, ?_⟩
    refine wpD_done (by kernel_rfl) ?_
    refine nrm_then ?_
    refine wp_seq ?_
    refine reg_text (l := [0, 1, 2]) (by kernel_rfl) ?_
    refine batch_spec (is := [0, 1, 2]) (rest := []) (live := [4, 5]) (e' := [(4, .bool true), (5, .int .i64 0)]) (vs := []) (obs := []) hF123 (by kernel_rfl) .nil ?_
    intro a125 hF126
    clear hF123
    refine ops_done ?_
    refine nrm_then ?_
    refine wp_ret ?_
    refine finish (v := .tuple #[.bool true, .int .i64 0]) (vs := []) (obs := []) hF126 (by kernel_rfl) .nil ?_
    have hS127 : Sat w119 (storeA s ⟨st.plate, st.at', st.copies, st.pages ++ [(⟨(R : Nat), lx⟩ : Page)], st.life, true⟩ :: raw b103 (.cells #[.int .i64 (R : Nat), .slice A42 lx.length c43] 41 (0, 0)) :: plateA st.plate pl2 :: raw b28 (.cells #[.int .i64 (R : Nat), .slice A42 lx.length c43] 41 (0, 0)) :: slA slotT (.slice A42 lx.length c43) lx :: L) := store_in' (st := ⟨st.plate, st.at', st.copies, st.pages ++ [(⟨(R : Nat), lx⟩ : Page)], st.life, true⟩) (by simp) (Sat_at (Sat_at hS124 1 rfl rfl) 1 rfl rfl)
    have hS128 : Sat w119 (storeA s ⟨st.plate, st.at', st.copies, st.pages ++ [(⟨(R : Nat), lx⟩ : Page)], st.life, true⟩ :: plateA st.plate pl2 :: raw b103 (.cells #[.int .i64 (R : Nat), .slice A42 lx.length c43] 41 (0, 0)) :: raw b28 (.cells #[.int .i64 (R : Nat), .slice A42 lx.length c43] 41 (0, 0)) :: slA slotT (.slice A42 lx.length c43) lx :: L) := (Sat_at (Sat_at hS127 2 rfl rfl) 1 rfl rfl)
    exact .inl ⟨rfl, pl2, hx, (Sat_at (Sat_at (Sat_at hS128 4 rfl rfl).drop 3 rfl rfl).drop 2 rfl rfl).drop⟩
  ·
    clear hF76
    clear hS78 hS79 hS80
    have hS129 : Sat w83 (plateA st.plate pl2 :: raw s (.cells #[.pointer (some ⟨st.plate, 0, none⟩), .int .i64 (st.at' : Nat), .int .i64 (st.copies : Nat), .slice A64 st.pages.length c65, .int .i64 st.life, .bool st.torn] 59 (0, 0)) :: rowA pageT 41 A64 c65 st.pages :: raw b28 (.cells #[.int .i64 (R : Nat), .slice A42 lx.length c43] 41 (0, 0)) :: slA slotT (.slice A42 lx.length c43) lx :: L) := hS84
    refine ⟨.nil, ?_⟩
    refine batchD_spec (is := [11]) (dn := [0, 1, 2, 3, 4, 5, 7, 8, 6, 9, 10]) (dn' := [0, 1, 2, 3, 4, 5, 7, 8, 6, 9, 10, 11]) (live := [8, 0, 4, 5, 9, 10]) (e' := [(8, .pointer (some ⟨b28, 0, none⟩)), (0, .pointer (some ⟨s, 0, none⟩)), (4, .bool false), (5, .int .i64 0), (9, .bool true), (10, .int .i64 10)]) (vs := []) (obs := []) (pd' := []) hF82 (by kernel_rfl) .nil rfl ?_
    intro a130 hF131
    clear hF82
    refine wpD_done (by kernel_rfl) ?_
    refine nrm_then ?_
    refine wp_seq ?_
    refine reg_text (l := [0, 1]) (by kernel_rfl) ?_
    refine batch_spec (is := [0, 1]) (rest := []) (live := [8, 0, 4, 5, 9, 10, 55]) (e' := [(8, .pointer (some ⟨b28, 0, none⟩)), (0, .pointer (some ⟨s, 0, none⟩)), (4, .bool false), (5, .int .i64 0), (9, .bool true), (10, .int .i64 10), (55, .bool true)]) (vs := []) (obs := []) hF131 (by kernel_rfl) .nil ?_
    intro a132 hF133
    clear hF131
    refine ops_done ?_
    refine nrm_then ?_
    refine cond_yes hF133 rfl ?_
    refine wp_seq ?_
    refine reg_text (l := [0, 1, 2]) (by kernel_rfl) ?_
    refine batch_spec (is := [0, 1, 2]) (rest := []) (live := [8, 0, 4, 5, 9]) (e' := [(8, .pointer (some ⟨b28, 0, none⟩)), (0, .pointer (some ⟨s, 0, none⟩)), (4, .bool false), (5, .int .i64 10), (9, .bool true)]) (vs := []) (obs := []) hF133 (by kernel_rfl) .nil ?_
    intro a134 hF135
    clear hF133
    refine ops_done ?_
    refine nrm_then ?_
    refine wp_ret ?_
    refine ret_then ?_
    refine ret_then ?_
    refine finish (v := .tuple #[.bool false, .int .i64 10]) (vs := []) (obs := []) hF135 (by kernel_rfl) .nil ?_
    have hS136 : Sat w83 (storeA s st :: plateA st.plate pl2 :: raw b28 (.cells #[.int .i64 (R : Nat), .slice A42 lx.length c43] 41 (0, 0)) :: slA slotT (.slice A42 lx.length c43) lx :: L) := store_in' (st := st) (by simp) (Sat_at (Sat_at hS129 2 rfl rfl) 2 rfl rfl)
    exact .inr ⟨rfl, pl2, hx, (Sat_at (Sat_at hS136 3 rfl rfl).drop 2 rfl rfl).drop⟩
end
end Sl
end Go.Proofs.YtkmlppeligdbaaaDoor

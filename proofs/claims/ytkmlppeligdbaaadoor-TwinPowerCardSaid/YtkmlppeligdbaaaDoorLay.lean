/- Laying sectors, by the engine. Conditions: none. -/
import Derived.Test.YtkmlppeligdbaaaDoorLeaf
namespace Go.Proofs.YtkmlppeligdbaaaDoor
namespace Sl
open Go.RowKit SepW Pl Eg
set_option linter.unusedVariables false
set_option linter.unusedSimpArgs false
set_option linter.unusedSectionVars false
set_option maxRecDepth 100000
section
variable {w : World} {L : List Atom} {p s : Nat} {pl : PlateM} {st : StoreM} {P : Int → ByteArray → Prop}
theorem place1_c {b2 i : Nat} (hi : i < 100000) (ha : st.at' < 100000) (hS : Sat w (raw b2 (.cells #[.pointer (some ⟨s, 0, none⟩)] 28 (0, 0)) :: storeA s st :: L)) :
    Calls Tryd.prog 25 #[.int .i64 (i : Nat), .pointer (some ⟨b2, 0, none⟩)] w (Ret fun v w' => v = .int .i64 ((st.at' + i : Nat) : Int) ∧ Sat w' (raw b2 (.cells #[.pointer (some ⟨s, 0, none⟩)] 28 (0, 0)) :: storeA s st :: L)) := by
  refine enter (vs := [.int .i64 (i : Nat), .pointer (some ⟨b2, 0, none⟩)]) Tryd.func25 rfl Tryd.ntmps25 rfl ?_
  intro a1 hF2
  have hF3 : Fits a1 10 [(0, .int .i64 (i : Nat)), (1, .pointer (some ⟨b2, 0, none⟩))] := hF2
  clear hF2
  refine wp_seq ?_
  refine reg_text (l := [0]) (by kernel_rfl) ?_
  refine batch_spec (is := [0]) (rest := []) (live := [0, 1, 3]) (e' := [(0, .int .i64 (i : Nat)), (1, .pointer (some ⟨b2, 0, none⟩)), (3, .int .i64 0)]) (vs := []) (obs := []) hF3 (by kernel_rfl) .nil ?_
  intro a4 hF5
  clear hF3
  refine ops_done ?_
  refine nrm_then ?_
  refine wp_seq ?_
  refine reg_text (l := [0, 1, 2, 3, 4, 5, 6]) (by kernel_rfl) ?_
  obtain ⟨A6, c7, hS8⟩ := store_out (Sat_at hS 1 rfl rfl)
  have hS9 : Sat w (raw s (.cells #[.pointer (some ⟨st.plate, 0, none⟩), .int .i64 (st.at' : Nat), .int .i64 (st.copies : Nat), .slice A6 st.pages.length c7, .int .i64 st.life, .bool st.torn] 59 (0, 0)) :: rowA pageT 41 A6 c7 st.pages :: raw b2 (.cells #[.pointer (some ⟨s, 0, none⟩)] 28 (0, 0)) :: L) := hS8
  refine batch_spec (is := [0, 1, 2, 3, 4, 5]) (rest := [6]) (live := [3, 9]) (e' := [(3, .int .i64 0), (9, .int .i64 (IntKind.i64.wrap (((st.at' : Nat) : Int) + ((i : Nat) : Int))))]) (vs := [.pointer (some ⟨s, 0, none⟩), .int .i64 (st.at' : Nat)]) (obs := [(⟨b2, 0, none⟩, .pointer (some ⟨s, 0, none⟩)), (⟨s, 1, none⟩, .int .i64 (st.at' : Nat))]) hF5 (by kernel_rfl) (.cons (ob hS 0 rfl rfl) (.cons (ob hS9 0 rfl rfl) .nil)) ?_
  intro a10 hF11
  clear hF5
  have hw12 : IntKind.i64.wrap (((st.at' : Nat) : Int) + ((i : Nat) : Int)) = ((st.at' + i : Nat) : Int) := by rw [wrap_i64 (by omega) (by omega)]; omega
  rw [hw12] at hF11
  refine batch_spec (is := [6]) (rest := []) (live := [3]) (e' := [(3, .int .i64 (st.at' + i : Nat))]) (vs := []) (obs := []) hF11 (by kernel_rfl) .nil ?_
  intro a13 hF14
  clear hF11
  refine ops_done ?_
  refine nrm_then ?_
  refine wp_ret ?_
  refine finish (v := .int .i64 (st.at' + i : Nat)) (vs := []) (obs := []) hF14 (by kernel_rfl) .nil ?_
  have hS15 : Sat w (storeA s st :: raw b2 (.cells #[.pointer (some ⟨s, 0, none⟩)] 28 (0, 0)) :: L) := store_in' (st := st) (by simp) (Sat_at (Sat_at hS9 1 rfl rfl) 1 rfl rfl)
  have hS16 : Sat w (raw b2 (.cells #[.pointer (some ⟨s, 0, none⟩)] 28 (0, 0)) :: storeA s st :: L) := (Sat_at (Sat_at hS15 0 rfl rfl) 1 rfl rfl)
  exact ⟨rfl, hS16⟩
theorem place2_c {b2 b3 i cap : Nat} {A : Option Addr} {l : List LeafM} {x : LeafM} (hx : l[i]? = some x) (hil : i < l.length) (hx1 : x.1 < 100000) (ha : st.at' < 100000) (hc : st.copies < 100000) (hS : Sat w (raw b2 (.cells #[.pointer (some ⟨s, 0, none⟩)] 28 (0, 0)) :: raw b3 (.cells #[.slice A l.length cap] 35 (0, 0)) :: slA leafT (.slice A l.length cap) l :: storeA s st :: L)) :
    Calls Tryd.prog 26 #[.int .i64 (i : Nat), .pointer (some ⟨b2, 0, none⟩), .pointer (some ⟨b3, 0, none⟩)] w (Ret fun v w' => v = .int .i64 ((st.at' + st.copies + x.1 : Nat) : Int) ∧ Sat w' (raw b2 (.cells #[.pointer (some ⟨s, 0, none⟩)] 28 (0, 0)) :: raw b3 (.cells #[.slice A l.length cap] 35 (0, 0)) :: slA leafT (.slice A l.length cap) l :: storeA s st :: L)) := by
  refine enter (vs := [.int .i64 (i : Nat), .pointer (some ⟨b2, 0, none⟩), .pointer (some ⟨b3, 0, none⟩)]) Tryd.func26 rfl Tryd.ntmps26 rfl ?_
  intro a1 hF2
  have hF3 : Fits a1 12 [(0, .int .i64 (i : Nat)), (1, .pointer (some ⟨b2, 0, none⟩)), (2, .pointer (some ⟨b3, 0, none⟩))] := hF2
  clear hF2
  refine wp_seq ?_
  refine reg_text (l := [0]) (by kernel_rfl) ?_
  refine batch_spec (is := [0]) (rest := []) (live := [0, 1, 2, 4]) (e' := [(0, .int .i64 (i : Nat)), (1, .pointer (some ⟨b2, 0, none⟩)), (2, .pointer (some ⟨b3, 0, none⟩)), (4, .int .i64 0)]) (vs := []) (obs := []) hF3 (by kernel_rfl) .nil ?_
  intro a4 hF5
  clear hF3
  refine ops_done ?_
  refine nrm_then ?_
  refine wp_seq ?_
  refine reg_drawn (fun j => match j with | 3 => [1, 2] | 4 => [1, 2, 3] | 5 => [1, 2, 3, 4] | 6 => [0, 1, 2, 3, 4, 5] | 7 => [0, 1, 2, 3, 4, 5, 6] | _ => []) hS (by kernel_rfl) (by kernel_rfl) (by kernel_rfl) (fun c a d v w h => by cases d <;> exact h) ?_
  intro w6 hS7 hw8
  clear hS
  refine batchD_spec (is := [0, 1, 2]) (dn := []) (dn' := [0, 1, 2]) (live := [4, 5, 6, 7]) (e' := [(4, .int .i64 0), (5, .pointer (some ⟨s, 0, none⟩)), (6, .slice A l.length cap), (7, .int .i64 (i : Nat))]) (vs := [.pointer (some ⟨s, 0, none⟩), .slice A l.length cap]) (obs := [(⟨b2, 0, none⟩, .pointer (some ⟨s, 0, none⟩)), (⟨b3, 0, none⟩, .slice A l.length cap)]) (pd' := [(1, [(⟨b3, 0, none⟩, .slice A l.length cap)]), (0, [(⟨b2, 0, none⟩, .pointer (some ⟨s, 0, none⟩))])]) hF5 (by kernel_rfl) (.cons (ob hS7 0 rfl rfl) (.cons (ob hS7 1 rfl rfl) .nil)) rfl ?_
  intro a9 hF10
  clear hF5
  obtain ⟨b11, off12, B15, cp16, heq13, hS14⟩ := leaf_el hS7 2 rfl hx
  have hS17 : Sat w6 (immC b11 (off12 + i * 3) [.int .i64 (x.1 : Nat), .int .i64 (x.2.1 : Nat), .slice B15 x.2.2.length cp16] :: slA slotT (.slice B15 x.2.2.length cp16) x.2.2 :: raw b2 (.cells #[.pointer (some ⟨s, 0, none⟩)] 28 (0, 0)) :: raw b3 (.cells #[.slice A l.length cap] 35 (0, 0)) :: slA leafT (.slice A l.length cap) l :: storeA s st :: L) := hS14
  refine wpD_one (i := 3) (u := .pointer (some ⟨b11, off12 + i * 3, none⟩)) (v := .indexAddr 35 (.slice A l.length cap) (.int .i64 (i : Nat))) (e' := [(8, .pointer (some ⟨b11, off12 + i * 3, none⟩)), (4, .int .i64 0), (5, .pointer (some ⟨s, 0, none⟩)), (6, .slice A l.length cap), (7, .int .i64 (i : Nat))]) (obs := []) (dn' := [0, 1, 2, 3]) hF10 (by kernel_rfl) (by kernel_rfl) rfl (fun w _ => (run_indexAddrA (el := 43) (sz := 3) (off := off12) (k := i) heq13 Tryd.underlying35 (by kernel_rfl) (by rfl) (by omega)) w) .nil ?_
  refine fun a18 hF19 => wpD_filter ?_
  show wpD _ _ _ _ [(1, [(⟨b3, 0, none⟩, .slice A l.length cap)]), (0, [(⟨b2, 0, none⟩, .pointer (some ⟨s, 0, none⟩))])] _ _ _
  clear hF10
  refine batchD_spec (is := [4, 5]) (dn := [0, 1, 2, 3]) (dn' := [0, 1, 2, 3, 4, 5]) (live := [4, 5, 10]) (e' := [(4, .int .i64 0), (5, .pointer (some ⟨s, 0, none⟩)), (10, .int .i64 (x.1 : Nat))]) (vs := [.int .i64 (x.1 : Nat)]) (obs := [(⟨b11, off12 + i * 3, none⟩, .int .i64 (x.1 : Nat))]) (pd' := [(5, [(⟨b11, off12 + i * 3, none⟩, .int .i64 (x.1 : Nat))]), (1, [(⟨b3, 0, none⟩, .slice A l.length cap)]), (0, [(⟨b2, 0, none⟩, .pointer (some ⟨s, 0, none⟩))])]) hF19 (by kernel_rfl) (.cons (obC hS17 0 (off := off12 + i * 3) (j := 0) rfl rfl) .nil) rfl ?_
  intro a20 hF21
  clear hF19
  refine wpD_next (i := 6) (pd' := []) (dn' := [0, 1, 2, 3, 4, 5, 6]) (by kernel_rfl) rfl (by kernel_rfl) ?_
  obtain ⟨A22, c23, hS24⟩ := store_out (Sat_at hS17 5 rfl rfl)
  have hS25 : Sat w6 (raw s (.cells #[.pointer (some ⟨st.plate, 0, none⟩), .int .i64 (st.at' : Nat), .int .i64 (st.copies : Nat), .slice A22 st.pages.length c23, .int .i64 st.life, .bool st.torn] 59 (0, 0)) :: rowA pageT 41 A22 c23 st.pages :: immC b11 (off12 + i * 3) [.int .i64 (x.1 : Nat), .int .i64 (x.2.1 : Nat), .slice B15 x.2.2.length cp16] :: slA slotT (.slice B15 x.2.2.length cp16) x.2.2 :: raw b2 (.cells #[.pointer (some ⟨s, 0, none⟩)] 28 (0, 0)) :: raw b3 (.cells #[.slice A l.length cap] 35 (0, 0)) :: slA leafT (.slice A l.length cap) l :: L) := hS24
  refine op_call (fn := 27) (first := #[]) (cap := #[]) (args := #[.pointer (some ⟨s, 0, none⟩), .int .i64 (x.1 : Nat)]) (all := #[.pointer (some ⟨s, 0, none⟩), .int .i64 (x.1 : Nat)]) (pe := fun u => [(11, u), (4, .int .i64 0), (5, .pointer (some ⟨s, 0, none⟩)), (10, .int .i64 (x.1 : Nat))]) hF21 (fun u => by kernel_rfl) (by kernel_rfl) (by kernel_rfl) (home_c (i := x.1) (by omega) ha hc hS25) ?_
  rintro u w28 a26 ⟨rfl, hS29⟩ hF27
  clear hF21
  clear hS7 hS14 hS17 hS24 hS25
  have hS30 : Sat w28 (raw s (.cells #[.pointer (some ⟨st.plate, 0, none⟩), .int .i64 (st.at' : Nat), .int .i64 (st.copies : Nat), .slice A22 st.pages.length c23, .int .i64 st.life, .bool st.torn] 59 (0, 0)) :: rowA pageT 41 A22 c23 st.pages :: immC b11 (off12 + i * 3) [.int .i64 (x.1 : Nat), .int .i64 (x.2.1 : Nat), .slice B15 x.2.2.length cp16] :: slA slotT (.slice B15 x.2.2.length cp16) x.2.2 :: raw b2 (.cells #[.pointer (some ⟨s, 0, none⟩)] 28 (0, 0)) :: raw b3 (.cells #[.slice A l.length cap] 35 (0, 0)) :: slA leafT (.slice A l.length cap) l :: L) := hS29
  refine ⟨.nil, ?_⟩
  refine batchD_spec (is := [7]) (dn := [0, 1, 2, 3, 4, 5, 6]) (dn' := [0, 1, 2, 3, 4, 5, 6, 7]) (live := [4]) (e' := [(4, .int .i64 (st.at' + st.copies + x.1 : Nat))]) (vs := []) (obs := []) (pd' := []) hF27 (by kernel_rfl) .nil rfl ?_
  intro a31 hF32
  clear hF27
  refine wpD_done (by kernel_rfl) ?_
  refine nrm_then ?_
  refine wp_ret ?_
  refine finish (v := .int .i64 (st.at' + st.copies + x.1 : Nat)) (vs := []) (obs := []) hF32 (by kernel_rfl) .nil ?_
  have hS33 : Sat w28 (storeA s st :: immC b11 (off12 + i * 3) [.int .i64 (x.1 : Nat), .int .i64 (x.2.1 : Nat), .slice B15 x.2.2.length cp16] :: slA slotT (.slice B15 x.2.2.length cp16) x.2.2 :: raw b2 (.cells #[.pointer (some ⟨s, 0, none⟩)] 28 (0, 0)) :: raw b3 (.cells #[.slice A l.length cap] 35 (0, 0)) :: slA leafT (.slice A l.length cap) l :: L) := store_in' (st := st) (by simp) (Sat_at (Sat_at hS30 1 rfl rfl) 1 rfl rfl)
  have hS34 : Sat w28 (raw b2 (.cells #[.pointer (some ⟨s, 0, none⟩)] 28 (0, 0)) :: raw b3 (.cells #[.slice A l.length cap] 35 (0, 0)) :: slA leafT (.slice A l.length cap) l :: storeA s st :: immC b11 (off12 + i * 3) [.int .i64 (x.1 : Nat), .int .i64 (x.2.1 : Nat), .slice B15 x.2.2.length cp16] :: slA slotT (.slice B15 x.2.2.length cp16) x.2.2 :: L) := (Sat_at (Sat_at (Sat_at (Sat_at hS33 0 rfl rfl) 5 rfl rfl) 5 rfl rfl) 5 rfl rfl)
  exact ⟨rfl, (Sat_at (Sat_at hS34 5 rfl rfl).drop 4 rfl rfl).drop⟩
set_option maxHeartbeats 2000000 in
theorem lay1_c {b2 cap : Nat} {A : Option Addr} {l : List LeafM} {ws : List (Int × ByteArray)} (hH : Held pl P) (hd : pl.down = false) (hq0 : pl.queue = []) (ha : st.at' < 100000) (hc : st.copies < 100000) (hc0 : 0 < pl.count) (hl : l.length ≤ 100) (hwl : ws.length = l.length) (hws : ∀ (k : Nat) (x : LeafM), l[k]? = some x → ws[k]? = some (((st.at' + k : Nat) : Int), LeafM.sec x) ∧ P ((st.at' + k : Nat) : Int) (LeafM.sec x) ∧ P ((st.at' + k : Nat) : Int) tornB ∧ ((st.at' + k : Nat) : Int) < pl.count ∧ Okay x.2.1 x.2.2 ∧ x.1 < 100000) (hS : Sat w (raw b2 (.cells #[.pointer (some ⟨s, 0, none⟩)] 28 (0, 0)) :: slA leafT (.slice A l.length cap) l :: storeA s st :: plateA st.plate pl :: L)) :
    Calls Tryd.prog 24 #[.pointer (some ⟨s, 0, none⟩), .slice A l.length cap, .func (.func 25) #[] #[.pointer (some ⟨b2, 0, none⟩)]] w (Ret fun r w' => (r = .int .i64 0 ∧ ∃ pl', LayOk P pl pl' ws ∧ Sat w' (raw b2 (.cells #[.pointer (some ⟨s, 0, none⟩)] 28 (0, 0)) :: slA leafT (.slice A l.length cap) l :: storeA s { st with torn := false } :: plateA st.plate pl' :: L)) ∨ (r = .int .i64 10 ∧ ∃ pl', LayNo P pl pl' ∧ Sat w' (raw b2 (.cells #[.pointer (some ⟨s, 0, none⟩)] 28 (0, 0)) :: slA leafT (.slice A l.length cap) l :: storeA s { st with torn := true } :: plateA st.plate pl' :: L))) := by
  refine enter (vs := [.pointer (some ⟨s, 0, none⟩), .slice A l.length cap, .func (.func 25) #[] #[.pointer (some ⟨b2, 0, none⟩)]]) Tryd.func24 rfl Tryd.ntmps24 rfl ?_
  intro a1 hF2
  have hF3 : Fits a1 49 [(0, .pointer (some ⟨s, 0, none⟩)), (1, .slice A l.length cap), (2, .func (.func 25) #[] #[.pointer (some ⟨b2, 0, none⟩)])] := hF2
  clear hF2
  refine wp_seq ?_
  refine reg_text (l := [0]) (by kernel_rfl) ?_
  refine batch_spec (is := [0]) (rest := []) (live := [0, 1, 2, 6]) (e' := [(0, .pointer (some ⟨s, 0, none⟩)), (1, .slice A l.length cap), (2, .func (.func 25) #[] #[.pointer (some ⟨b2, 0, none⟩)]), (6, .int .i64 0)]) (vs := []) (obs := []) hF3 (by kernel_rfl) .nil ?_
  intro a4 hF5
  clear hF3
  refine ops_done ?_
  refine nrm_then ?_
  refine wp_seq ?_
  refine wp_seq ?_
  refine reg_text (l := [0, 1, 2]) (by kernel_rfl) ?_
  refine batch_spec (is := [0, 1, 2]) (rest := []) (live := [0, 2, 6, 11, 12, 13]) (e' := [(0, .pointer (some ⟨s, 0, none⟩)), (2, .func (.func 25) #[] #[.pointer (some ⟨b2, 0, none⟩)]), (6, .int .i64 0), (11, .slice A l.length cap), (12, .int .i64 (l.length : Nat)), (13, .int .i64 0)]) (vs := []) (obs := []) hF5 (by kernel_rfl) .nil ?_
  intro a6 hF7
  clear hF5
  refine ops_done ?_
  refine nrm_then ?_
  refine wp_block ?_
  refine loop_g (fun μ α ω => ∃ k : Nat, ∃ plk : PlateM, μ = l.length - k ∧ (k ≤ l.length) ∧ (LayInv P pl plk ws k) ∧ Fits α 49 [(0, .pointer (some ⟨s, 0, none⟩)), (2, .func (.func 25) #[] #[.pointer (some ⟨b2, 0, none⟩)]), (6, .int .i64 0), (11, .slice A l.length cap), (12, .int .i64 (l.length : Nat)), (13, .int .i64 (k : Nat))] ∧ Sat ω (raw b2 (.cells #[.pointer (some ⟨s, 0, none⟩)] 28 (0, 0)) :: slA leafT (.slice A l.length cap) l :: storeA s st :: plateA st.plate plk :: L)) _ ⟨0, pl, rfl, (Nat.zero_le _), LayInv.start hH hd hq0, (Fits.restr (r := [(0, .pointer (some ⟨s, 0, none⟩)), (2, .func (.func 25) #[] #[.pointer (some ⟨b2, 0, none⟩)]), (6, .int .i64 0), (11, .slice A l.length cap), (12, .int .i64 (l.length : Nat)), (13, .int .i64 0)]) hF7 (ks := [0, 2, 6, 11, 12, 13]) (by kernel_rfl)).cast (by rfl), hS⟩ ?_
  rintro m8 a9 w10 ⟨k, plk, rfl, hkl, hI, hF11, hS12⟩
  clear hF7
  clear hS
  refine wp_seq ?_
  refine reg_text (l := [0]) (by kernel_rfl) ?_
  refine batch_spec (is := [0]) (rest := []) (live := [0, 2, 6, 11, 12, 13, 14]) (e' := [(0, .pointer (some ⟨s, 0, none⟩)), (2, .func (.func 25) #[] #[.pointer (some ⟨b2, 0, none⟩)]), (6, .int .i64 0), (11, .slice A l.length cap), (12, .int .i64 (l.length : Nat)), (13, .int .i64 (k : Nat)), (14, .bool (decide (((k : Nat) : Int) < ((l.length : Nat) : Int))))]) (vs := []) (obs := []) hF11 (by kernel_rfl) .nil ?_
  intro a13 hF14
  clear hF11
  refine ops_done ?_
  refine nrm_then ?_
  refine wp_seq ?_
  by_cases h15 : ((k : Nat) : Int) < ((l.length : Nat) : Int)
  ·
    have hb16 : (decide (((k : Nat) : Int) < ((l.length : Nat) : Int))) = true := decide_eq_true h15
    rw [hb16] at hF14
    refine cond_yes hF14 rfl ?_
    refine wp_skip ?_
    refine nrm_then ?_
    refine wp_seq ?_
    refine wp_block ?_
    refine wp_seq ?_
    refine reg_text (l := [0, 1, 2, 3, 4, 5]) (by kernel_rfl) ?_
    refine batch_spec (is := [0]) (rest := [1, 2, 3, 4, 5]) (live := [0, 2, 6, 11, 12, 13, 14, 15]) (e' := [(0, .pointer (some ⟨s, 0, none⟩)), (2, .func (.func 25) #[] #[.pointer (some ⟨b2, 0, none⟩)]), (6, .int .i64 0), (11, .slice A l.length cap), (12, .int .i64 (l.length : Nat)), (13, .int .i64 (k : Nat)), (14, .bool true), (15, .int .i64 (k : Nat))]) (vs := []) (obs := []) hF14 (by kernel_rfl) .nil ?_
    intro a17 hF18
    clear hF14
    refine ops_next ?_
    obtain ⟨x19, hx20⟩ : ∃ χ, l[k]? = some χ := ⟨_, List.getElem?_eq_getElem (by omega)⟩
    obtain ⟨b21, off22, B25, cp26, heq23, hS24⟩ := leaf_el hS12 1 rfl hx20
    have hS27 : Sat w10 (immC b21 (off22 + k * 3) [.int .i64 (x19.1 : Nat), .int .i64 (x19.2.1 : Nat), .slice B25 x19.2.2.length cp26] :: slA slotT (.slice B25 x19.2.2.length cp26) x19.2.2 :: raw b2 (.cells #[.pointer (some ⟨s, 0, none⟩)] 28 (0, 0)) :: slA leafT (.slice A l.length cap) l :: storeA s st :: plateA st.plate plk :: L) := hS24
    refine op_value (u := .pointer (some ⟨b21, off22 + k * 3, none⟩)) (v := .indexAddr 35 (.slice A l.length cap) (.int .i64 (k : Nat))) (e' := [(16, .pointer (some ⟨b21, off22 + k * 3, none⟩)), (0, .pointer (some ⟨s, 0, none⟩)), (2, .func (.func 25) #[] #[.pointer (some ⟨b2, 0, none⟩)]), (6, .int .i64 0), (11, .slice A l.length cap), (12, .int .i64 (l.length : Nat)), (13, .int .i64 (k : Nat)), (14, .bool true), (15, .int .i64 (k : Nat))]) hF18 (by kernel_rfl) (.value ((run_indexAddrA (el := 43) (sz := 3) (off := off22) (k := k) heq23 Tryd.underlying35 (by kernel_rfl) (by rfl) (by omega)) _)) ?_
    intro a28 hF29
    clear hF18
    refine batch_spec (is := [2]) (rest := [3, 4, 5]) (live := [16, 0, 2, 6, 11, 12, 13, 14, 15, 17]) (e' := [(16, .pointer (some ⟨b21, off22 + k * 3, none⟩)), (0, .pointer (some ⟨s, 0, none⟩)), (2, .func (.func 25) #[] #[.pointer (some ⟨b2, 0, none⟩)]), (6, .int .i64 0), (11, .slice A l.length cap), (12, .int .i64 (l.length : Nat)), (13, .int .i64 (k : Nat)), (14, .bool true), (15, .int .i64 (k : Nat)), (17, .agg #[.int .i64 (x19.1 : Nat), .int .i64 (x19.2.1 : Nat), .slice B25 x19.2.2.length cp26])]) (vs := [.int .i64 (x19.1 : Nat), .int .i64 (x19.2.1 : Nat), .slice B25 x19.2.2.length cp26]) (obs := [(⟨b21, off22 + k * 3, none⟩, .int .i64 (x19.1 : Nat)), (⟨b21, off22 + k * 3 + 1, none⟩, .int .i64 (x19.2.1 : Nat)), (⟨b21, off22 + k * 3 + 2, none⟩, .slice B25 x19.2.2.length cp26)]) hF29 (by kernel_rfl) (.cons (obC hS27 0 (off := off22 + k * 3) (j := 0) rfl rfl) (.cons (obC hS27 0 (off := off22 + k * 3) (j := 1) rfl rfl) (.cons (obC hS27 0 (off := off22 + k * 3) (j := 2) rfl rfl) .nil))) ?_
    intro a30 hF31
    clear hF29
    refine ops_next ?_
    obtain ⟨b32, w33, hr34, hS35⟩ := comes_new (P := Tryd.prog) (v := .alloc 43) (u := fun b => .pointer (some ⟨b, 0, none⟩)) (o := .cells #[.int .i64 0, .int .i64 0, .slice none 0 0] 43 (0, 0)) hS27 (fun w => by kernel_rfl)
    refine op_value (u := .pointer (some ⟨b32, 0, none⟩)) (e' := [(8, .pointer (some ⟨b32, 0, none⟩)), (16, .pointer (some ⟨b21, off22 + k * 3, none⟩)), (0, .pointer (some ⟨s, 0, none⟩)), (2, .func (.func 25) #[] #[.pointer (some ⟨b2, 0, none⟩)]), (6, .int .i64 0), (11, .slice A l.length cap), (12, .int .i64 (l.length : Nat)), (13, .int .i64 (k : Nat)), (14, .bool true), (15, .int .i64 (k : Nat)), (17, .agg #[.int .i64 (x19.1 : Nat), .int .i64 (x19.2.1 : Nat), .slice B25 x19.2.2.length cp26])]) hF31 (by kernel_rfl) hr34 ?_
    intro a36 hF37
    clear hF31 hr34
    clear hS12 hS24 hS27
    refine batch_spec (is := [4]) (rest := [5]) (live := [8, 16, 0, 2, 6, 11, 12, 13, 14, 15, 17, 7]) (e' := [(8, .pointer (some ⟨b32, 0, none⟩)), (16, .pointer (some ⟨b21, off22 + k * 3, none⟩)), (0, .pointer (some ⟨s, 0, none⟩)), (2, .func (.func 25) #[] #[.pointer (some ⟨b2, 0, none⟩)]), (6, .int .i64 0), (11, .slice A l.length cap), (12, .int .i64 (l.length : Nat)), (13, .int .i64 (k : Nat)), (14, .bool true), (15, .int .i64 (k : Nat)), (17, .agg #[.int .i64 (x19.1 : Nat), .int .i64 (x19.2.1 : Nat), .slice B25 x19.2.2.length cp26]), (7, .int .i64 (k : Nat))]) (vs := []) (obs := []) hF37 (by kernel_rfl) .nil ?_
    intro a38 hF39
    clear hF37
    refine ops_next ?_
    obtain ⟨w40, hr41, hS42⟩ := comes_store (P := Tryd.prog) (t' := 43) (b := b32) (j := 0) (x := .agg #[.int .i64 (x19.1 : Nat), .int .i64 (x19.2.1 : Nat), .slice B25 x19.2.2.length cp26]) (vs := [.int .i64 (x19.1 : Nat), .int .i64 (x19.2.1 : Nat), .slice B25 x19.2.2.length cp26]) (c' := #[.int .i64 (x19.1 : Nat), .int .i64 (x19.2.1 : Nat), .slice B25 x19.2.2.length cp26]) hS35 0 rfl rfl rfl (by kernel_rfl) rfl rfl rfl
    refine op_value (u := undef) (e' := [(8, .pointer (some ⟨b32, 0, none⟩)), (16, .pointer (some ⟨b21, off22 + k * 3, none⟩)), (0, .pointer (some ⟨s, 0, none⟩)), (2, .func (.func 25) #[] #[.pointer (some ⟨b2, 0, none⟩)]), (6, .int .i64 0), (11, .slice A l.length cap), (12, .int .i64 (l.length : Nat)), (13, .int .i64 (k : Nat)), (14, .bool true), (15, .int .i64 (k : Nat)), (17, .agg #[.int .i64 (x19.1 : Nat), .int .i64 (x19.2.1 : Nat), .slice B25 x19.2.2.length cp26]), (7, .int .i64 (k : Nat))]) hF39 (by kernel_rfl) hr41 ?_
    intro a43 hF44
    clear hF39 hr41
    clear hS35
    have hS45 : Sat w40 (raw b32 (.cells #[.int .i64 (x19.1 : Nat), .int .i64 (x19.2.1 : Nat), .slice B25 x19.2.2.length cp26] 43 (0, 0)) :: immC b21 (off22 + k * 3) [.int .i64 (x19.1 : Nat), .int .i64 (x19.2.1 : Nat), .slice B25 x19.2.2.length cp26] :: slA slotT (.slice B25 x19.2.2.length cp26) x19.2.2 :: raw b2 (.cells #[.pointer (some ⟨s, 0, none⟩)] 28 (0, 0)) :: slA leafT (.slice A l.length cap) l :: storeA s st :: plateA st.plate plk :: L) := hS42
    refine ops_done ?_
    refine nrm_then ?_
    refine wp_seq ?_
    refine reg_drawn (fun j => match j with | 1 => [0] | 2 => [0, 1] | 3 => [0, 1, 2] | 6 => [4, 5] | 8 => [7] | 10 => [9] | 11 => [4, 5, 6, 7, 8, 9, 10] | 12 => [0, 1, 2, 3, 4, 5, 6, 7, 8, 9, 10, 11] | 13 => [0, 1, 2, 3, 4, 5, 6, 7, 8, 9, 10, 11, 12] | _ => []) hS45 (by kernel_rfl) (by kernel_rfl) (by kernel_rfl) (fun c a d v w h => by cases d <;> exact h) ?_
    intro w46 hS47 hw48
    clear hS42 hS45
    obtain ⟨A49, c50, hS51⟩ := store_out (Sat_at hS47 5 rfl rfl)
    have hS52 : Sat w46 (raw s (.cells #[.pointer (some ⟨st.plate, 0, none⟩), .int .i64 (st.at' : Nat), .int .i64 (st.copies : Nat), .slice A49 st.pages.length c50, .int .i64 st.life, .bool st.torn] 59 (0, 0)) :: rowA pageT 41 A49 c50 st.pages :: raw b32 (.cells #[.int .i64 (x19.1 : Nat), .int .i64 (x19.2.1 : Nat), .slice B25 x19.2.2.length cp26] 43 (0, 0)) :: immC b21 (off22 + k * 3) [.int .i64 (x19.1 : Nat), .int .i64 (x19.2.1 : Nat), .slice B25 x19.2.2.length cp26] :: slA slotT (.slice B25 x19.2.2.length cp26) x19.2.2 :: raw b2 (.cells #[.pointer (some ⟨s, 0, none⟩)] 28 (0, 0)) :: slA leafT (.slice A l.length cap) l :: plateA st.plate plk :: L) := hS51
    refine batchD_spec (is := [0, 1, 2, 3, 4, 5, 7, 8, 9, 10]) (dn := []) (dn' := [0, 1, 2, 3, 4, 5, 7, 8, 9, 10]) (live := [8, 16, 0, 2, 6, 11, 12, 13, 14, 15, 17, 7, 18, 19, 20, 21, 22, 23, 25, 26, 27, 28]) (e' := [(8, .pointer (some ⟨b32, 0, none⟩)), (16, .pointer (some ⟨b21, off22 + k * 3, none⟩)), (0, .pointer (some ⟨s, 0, none⟩)), (2, .func (.func 25) #[] #[.pointer (some ⟨b2, 0, none⟩)]), (6, .int .i64 0), (11, .slice A l.length cap), (12, .int .i64 (l.length : Nat)), (13, .int .i64 (k : Nat)), (14, .bool true), (15, .int .i64 (k : Nat)), (17, .agg #[.int .i64 (x19.1 : Nat), .int .i64 (x19.2.1 : Nat), .slice B25 x19.2.2.length cp26]), (7, .int .i64 (k : Nat)), (18, .pointer (some ⟨s, 0, none⟩)), (19, .pointer (some ⟨s, 0, none⟩)), (20, .pointer (some ⟨s, 0, none⟩)), (21, .pointer (some ⟨st.plate, 0, none⟩)), (22, .func (.func 25) #[] #[.pointer (some ⟨b2, 0, none⟩)]), (23, .int .i64 (k : Nat)), (25, .pointer (some ⟨b32, 0, none⟩)), (26, .int .i64 (x19.1 : Nat)), (27, .pointer (some ⟨b32, 1, none⟩)), (28, .agg #[.int .i64 (x19.2.1 : Nat), .slice B25 x19.2.2.length cp26])]) (vs := [.pointer (some ⟨st.plate, 0, none⟩), .int .i64 (x19.1 : Nat), .int .i64 (x19.2.1 : Nat), .slice B25 x19.2.2.length cp26]) (obs := [(⟨s, 0, none⟩, .pointer (some ⟨st.plate, 0, none⟩)), (⟨b32, 0, none⟩, .int .i64 (x19.1 : Nat)), (⟨b32, 1, none⟩, .int .i64 (x19.2.1 : Nat)), (⟨b32, 2, none⟩, .slice B25 x19.2.2.length cp26)]) (pd' := [(10, [(⟨b32, 1, none⟩, .int .i64 (x19.2.1 : Nat)), (⟨b32, 2, none⟩, .slice B25 x19.2.2.length cp26)]), (8, [(⟨b32, 0, none⟩, .int .i64 (x19.1 : Nat))]), (3, [(⟨s, 0, none⟩, .pointer (some ⟨st.plate, 0, none⟩))])]) hF44 (by kernel_rfl) (.cons (ob hS52 0 rfl rfl) (.cons (ob hS52 2 rfl rfl) (.cons (ob hS52 2 rfl rfl) (.cons (ob hS52 2 rfl rfl) .nil)))) rfl ?_
    intro a53 hF54
    clear hF44
    refine wpD_next (i := 6) (pd' := [(10, [(⟨b32, 1, none⟩, .int .i64 (x19.2.1 : Nat)), (⟨b32, 2, none⟩, .slice B25 x19.2.2.length cp26)]), (8, [(⟨b32, 0, none⟩, .int .i64 (x19.1 : Nat))]), (3, [(⟨s, 0, none⟩, .pointer (some ⟨st.plate, 0, none⟩))])]) (dn' := [0, 1, 2, 3, 4, 5, 7, 8, 9, 10, 6]) (by kernel_rfl) rfl (by kernel_rfl) ?_
    have hS55 : Sat w46 (storeA s st :: raw b32 (.cells #[.int .i64 (x19.1 : Nat), .int .i64 (x19.2.1 : Nat), .slice B25 x19.2.2.length cp26] 43 (0, 0)) :: immC b21 (off22 + k * 3) [.int .i64 (x19.1 : Nat), .int .i64 (x19.2.1 : Nat), .slice B25 x19.2.2.length cp26] :: slA slotT (.slice B25 x19.2.2.length cp26) x19.2.2 :: raw b2 (.cells #[.pointer (some ⟨s, 0, none⟩)] 28 (0, 0)) :: slA leafT (.slice A l.length cap) l :: plateA st.plate plk :: L) := store_in' (st := st) (by simp) (Sat_at (Sat_at hS52 1 rfl rfl) 1 rfl rfl)
    obtain ⟨hw1, hw2, hw3, hw4, hw5, hw6⟩ := hws k x19 hx20
    have hS56 : Sat w46 (raw b2 (.cells #[.pointer (some ⟨s, 0, none⟩)] 28 (0, 0)) :: storeA s st :: raw b32 (.cells #[.int .i64 (x19.1 : Nat), .int .i64 (x19.2.1 : Nat), .slice B25 x19.2.2.length cp26] 43 (0, 0)) :: immC b21 (off22 + k * 3) [.int .i64 (x19.1 : Nat), .int .i64 (x19.2.1 : Nat), .slice B25 x19.2.2.length cp26] :: slA slotT (.slice B25 x19.2.2.length cp26) x19.2.2 :: slA leafT (.slice A l.length cap) l :: plateA st.plate plk :: L) := (Sat_at (Sat_at hS55 0 rfl rfl) 4 rfl rfl)
    refine op_call (fn := 25) (first := #[]) (cap := #[.pointer (some ⟨b2, 0, none⟩)]) (args := #[.int .i64 (k : Nat)]) (all := #[.int .i64 (k : Nat), .pointer (some ⟨b2, 0, none⟩)]) (pe := fun u => [(24, u), (8, .pointer (some ⟨b32, 0, none⟩)), (16, .pointer (some ⟨b21, off22 + k * 3, none⟩)), (0, .pointer (some ⟨s, 0, none⟩)), (2, .func (.func 25) #[] #[.pointer (some ⟨b2, 0, none⟩)]), (6, .int .i64 0), (11, .slice A l.length cap), (12, .int .i64 (l.length : Nat)), (13, .int .i64 (k : Nat)), (14, .bool true), (15, .int .i64 (k : Nat)), (17, .agg #[.int .i64 (x19.1 : Nat), .int .i64 (x19.2.1 : Nat), .slice B25 x19.2.2.length cp26]), (7, .int .i64 (k : Nat)), (18, .pointer (some ⟨s, 0, none⟩)), (19, .pointer (some ⟨s, 0, none⟩)), (20, .pointer (some ⟨s, 0, none⟩)), (21, .pointer (some ⟨st.plate, 0, none⟩)), (22, .func (.func 25) #[] #[.pointer (some ⟨b2, 0, none⟩)]), (23, .int .i64 (k : Nat)), (25, .pointer (some ⟨b32, 0, none⟩)), (26, .int .i64 (x19.1 : Nat)), (27, .pointer (some ⟨b32, 1, none⟩)), (28, .agg #[.int .i64 (x19.2.1 : Nat), .slice B25 x19.2.2.length cp26])]) hF54 (fun u => by kernel_rfl) (by kernel_rfl) (by kernel_rfl) (place1_c (i := k) (by omega) ha hS56) ?_
    rintro u w59 a57 ⟨rfl, hS60⟩ hF58
    clear hF54
    clear hS47 hS51 hS52 hS55 hS56
    have hS61 : Sat w59 (raw b2 (.cells #[.pointer (some ⟨s, 0, none⟩)] 28 (0, 0)) :: storeA s st :: raw b32 (.cells #[.int .i64 (x19.1 : Nat), .int .i64 (x19.2.1 : Nat), .slice B25 x19.2.2.length cp26] 43 (0, 0)) :: immC b21 (off22 + k * 3) [.int .i64 (x19.1 : Nat), .int .i64 (x19.2.1 : Nat), .slice B25 x19.2.2.length cp26] :: slA slotT (.slice B25 x19.2.2.length cp26) x19.2.2 :: slA leafT (.slice A l.length cap) l :: plateA st.plate plk :: L) := hS60
    obtain ⟨A62, c63, hS64⟩ := store_out (Sat_at hS61 1 rfl rfl)
    have hS65 : Sat w59 (raw s (.cells #[.pointer (some ⟨st.plate, 0, none⟩), .int .i64 (st.at' : Nat), .int .i64 (st.copies : Nat), .slice A62 st.pages.length c63, .int .i64 st.life, .bool st.torn] 59 (0, 0)) :: rowA pageT 41 A62 c63 st.pages :: raw b2 (.cells #[.pointer (some ⟨s, 0, none⟩)] 28 (0, 0)) :: raw b32 (.cells #[.int .i64 (x19.1 : Nat), .int .i64 (x19.2.1 : Nat), .slice B25 x19.2.2.length cp26] 43 (0, 0)) :: immC b21 (off22 + k * 3) [.int .i64 (x19.1 : Nat), .int .i64 (x19.2.1 : Nat), .slice B25 x19.2.2.length cp26] :: slA slotT (.slice B25 x19.2.2.length cp26) x19.2.2 :: slA leafT (.slice A l.length cap) l :: plateA st.plate plk :: L) := hS64
    refine ⟨(.cons (.cons (ob hS65 3 rfl rfl) (.cons (ob hS65 3 rfl rfl) .nil)) (.cons (.cons (ob hS65 3 rfl rfl) .nil) (.cons (.cons (ob hS65 0 rfl rfl) .nil) .nil))), ?_⟩
    refine wpD_next (i := 11) (pd' := [(3, [(⟨s, 0, none⟩, .pointer (some ⟨st.plate, 0, none⟩))])]) (dn' := [0, 1, 2, 3, 4, 5, 7, 8, 9, 10, 6, 11]) (by kernel_rfl) rfl (by kernel_rfl) ?_
    refine op_call (fn := 37) (first := #[]) (cap := #[]) (args := #[.int .i64 (x19.1 : Nat), .agg #[.int .i64 (x19.2.1 : Nat), .slice B25 x19.2.2.length cp26]]) (all := #[.int .i64 (x19.1 : Nat), .agg #[.int .i64 (x19.2.1 : Nat), .slice B25 x19.2.2.length cp26]]) (pe := fun u => [(29, u), (24, .int .i64 (st.at' + k : Nat)), (8, .pointer (some ⟨b32, 0, none⟩)), (16, .pointer (some ⟨b21, off22 + k * 3, none⟩)), (0, .pointer (some ⟨s, 0, none⟩)), (2, .func (.func 25) #[] #[.pointer (some ⟨b2, 0, none⟩)]), (6, .int .i64 0), (11, .slice A l.length cap), (12, .int .i64 (l.length : Nat)), (13, .int .i64 (k : Nat)), (14, .bool true), (15, .int .i64 (k : Nat)), (17, .agg #[.int .i64 (x19.1 : Nat), .int .i64 (x19.2.1 : Nat), .slice B25 x19.2.2.length cp26]), (7, .int .i64 (k : Nat)), (18, .pointer (some ⟨s, 0, none⟩)), (19, .pointer (some ⟨s, 0, none⟩)), (20, .pointer (some ⟨s, 0, none⟩)), (21, .pointer (some ⟨st.plate, 0, none⟩)), (22, .func (.func 25) #[] #[.pointer (some ⟨b2, 0, none⟩)]), (23, .int .i64 (k : Nat)), (25, .pointer (some ⟨b32, 0, none⟩)), (26, .int .i64 (x19.1 : Nat)), (27, .pointer (some ⟨b32, 1, none⟩)), (28, .agg #[.int .i64 (x19.2.1 : Nat), .slice B25 x19.2.2.length cp26])]) hF58 (fun u => by kernel_rfl) (by kernel_rfl) (by kernel_rfl) (sector_c (i := x19.1) hw5 (by omega) hS65 5 rfl) ?_
    rintro u w68 a66 ⟨rfl, hS69⟩ hF67
    clear hF58
    clear hS60 hS61 hS64 hS65
    have hS70 : Sat w68 (raw s (.cells #[.pointer (some ⟨st.plate, 0, none⟩), .int .i64 (st.at' : Nat), .int .i64 (st.copies : Nat), .slice A62 st.pages.length c63, .int .i64 st.life, .bool st.torn] 59 (0, 0)) :: rowA pageT 41 A62 c63 st.pages :: raw b2 (.cells #[.pointer (some ⟨s, 0, none⟩)] 28 (0, 0)) :: raw b32 (.cells #[.int .i64 (x19.1 : Nat), .int .i64 (x19.2.1 : Nat), .slice B25 x19.2.2.length cp26] 43 (0, 0)) :: immC b21 (off22 + k * 3) [.int .i64 (x19.1 : Nat), .int .i64 (x19.2.1 : Nat), .slice B25 x19.2.2.length cp26] :: slA slotT (.slice B25 x19.2.2.length cp26) x19.2.2 :: slA leafT (.slice A l.length cap) l :: plateA st.plate plk :: L) := hS69
    refine ⟨(.cons (.cons (ob hS70 0 rfl rfl) .nil) .nil), ?_⟩
    refine wpD_next (i := 12) (pd' := []) (dn' := [0, 1, 2, 3, 4, 5, 7, 8, 9, 10, 6, 11, 12]) (by kernel_rfl) rfl (by kernel_rfl) ?_
    have hS71 : Sat w68 (plateA st.plate plk :: raw s (.cells #[.pointer (some ⟨st.plate, 0, none⟩), .int .i64 (st.at' : Nat), .int .i64 (st.copies : Nat), .slice A62 st.pages.length c63, .int .i64 st.life, .bool st.torn] 59 (0, 0)) :: rowA pageT 41 A62 c63 st.pages :: raw b2 (.cells #[.pointer (some ⟨s, 0, none⟩)] 28 (0, 0)) :: raw b32 (.cells #[.int .i64 (x19.1 : Nat), .int .i64 (x19.2.1 : Nat), .slice B25 x19.2.2.length cp26] 43 (0, 0)) :: immC b21 (off22 + k * 3) [.int .i64 (x19.1 : Nat), .int .i64 (x19.2.1 : Nat), .slice B25 x19.2.2.length cp26] :: slA slotT (.slice B25 x19.2.2.length cp26) x19.2.2 :: slA leafT (.slice A l.length cap) l :: L) := (Sat_at hS70 7 rfl rfl)
    have hq2 : plk.queue.length < 1000000 := by rw [hI.que]; omega
    have hq3 : (((st.at' + k : Nat) : Int)) < plk.count := by rw [hI.count]; exact hw4
    refine op_call (fn := 36) (first := #[]) (cap := #[]) (args := #[.pointer (some ⟨st.plate, 0, none⟩), .int .i64 (st.at' + k : Nat), .string (LeafM.sec x19)]) (all := #[.pointer (some ⟨st.plate, 0, none⟩), .int .i64 (st.at' + k : Nat), .string (LeafM.sec x19)]) (pe := fun u => [(30, u), (29, .string (LeafM.sec x19)), (24, .int .i64 (st.at' + k : Nat)), (8, .pointer (some ⟨b32, 0, none⟩)), (16, .pointer (some ⟨b21, off22 + k * 3, none⟩)), (0, .pointer (some ⟨s, 0, none⟩)), (2, .func (.func 25) #[] #[.pointer (some ⟨b2, 0, none⟩)]), (6, .int .i64 0), (11, .slice A l.length cap), (12, .int .i64 (l.length : Nat)), (13, .int .i64 (k : Nat)), (14, .bool true), (15, .int .i64 (k : Nat)), (17, .agg #[.int .i64 (x19.1 : Nat), .int .i64 (x19.2.1 : Nat), .slice B25 x19.2.2.length cp26]), (7, .int .i64 (k : Nat)), (18, .pointer (some ⟨s, 0, none⟩)), (19, .pointer (some ⟨s, 0, none⟩)), (20, .pointer (some ⟨s, 0, none⟩)), (21, .pointer (some ⟨st.plate, 0, none⟩)), (22, .func (.func 25) #[] #[.pointer (some ⟨b2, 0, none⟩)]), (23, .int .i64 (k : Nat)), (25, .pointer (some ⟨b32, 0, none⟩)), (26, .int .i64 (x19.1 : Nat)), (27, .pointer (some ⟨b32, 1, none⟩)), (28, .agg #[.int .i64 (x19.2.1 : Nat), .slice B25 x19.2.2.length cp26])]) hF67 (fun u => by kernel_rfl) (by kernel_rfl) (by kernel_rfl) (write_c hI.held hI.down (by omega) hq3 (show (LeafM.sec x19).size = 256 from secL_len hw5) hw2 hw3 hq2 hS71) ?_
    rintro u w74 a72 (⟨rfl, pl2, hx, hS75⟩ | ⟨rfl, pl2, hx, hS75⟩) hF73
    ·
      clear hF67
      clear hS69 hS70 hS71
      have hS76 : Sat w74 (plateA st.plate pl2 :: raw s (.cells #[.pointer (some ⟨st.plate, 0, none⟩), .int .i64 (st.at' : Nat), .int .i64 (st.copies : Nat), .slice A62 st.pages.length c63, .int .i64 st.life, .bool st.torn] 59 (0, 0)) :: rowA pageT 41 A62 c63 st.pages :: raw b2 (.cells #[.pointer (some ⟨s, 0, none⟩)] 28 (0, 0)) :: raw b32 (.cells #[.int .i64 (x19.1 : Nat), .int .i64 (x19.2.1 : Nat), .slice B25 x19.2.2.length cp26] 43 (0, 0)) :: immC b21 (off22 + k * 3) [.int .i64 (x19.1 : Nat), .int .i64 (x19.2.1 : Nat), .slice B25 x19.2.2.length cp26] :: slA slotT (.slice B25 x19.2.2.length cp26) x19.2.2 :: slA leafT (.slice A l.length cap) l :: L) := hS75
      refine ⟨.nil, ?_⟩
      refine batchD_spec (is := [13]) (dn := [0, 1, 2, 3, 4, 5, 7, 8, 9, 10, 6, 11, 12]) (dn' := [0, 1, 2, 3, 4, 5, 7, 8, 9, 10, 6, 11, 12, 13]) (live := [30, 29, 24, 8, 16, 0, 2, 6, 11, 12, 13, 14, 15, 17, 7, 18, 19, 20, 21, 22, 23, 25, 26, 27, 28, 9]) (e' := [(30, .int .i64 0), (29, .string (LeafM.sec x19)), (24, .int .i64 (st.at' + k : Nat)), (8, .pointer (some ⟨b32, 0, none⟩)), (16, .pointer (some ⟨b21, off22 + k * 3, none⟩)), (0, .pointer (some ⟨s, 0, none⟩)), (2, .func (.func 25) #[] #[.pointer (some ⟨b2, 0, none⟩)]), (6, .int .i64 0), (11, .slice A l.length cap), (12, .int .i64 (l.length : Nat)), (13, .int .i64 (k : Nat)), (14, .bool true), (15, .int .i64 (k : Nat)), (17, .agg #[.int .i64 (x19.1 : Nat), .int .i64 (x19.2.1 : Nat), .slice B25 x19.2.2.length cp26]), (7, .int .i64 (k : Nat)), (18, .pointer (some ⟨s, 0, none⟩)), (19, .pointer (some ⟨s, 0, none⟩)), (20, .pointer (some ⟨s, 0, none⟩)), (21, .pointer (some ⟨st.plate, 0, none⟩)), (22, .func (.func 25) #[] #[.pointer (some ⟨b2, 0, none⟩)]), (23, .int .i64 (k : Nat)), (25, .pointer (some ⟨b32, 0, none⟩)), (26, .int .i64 (x19.1 : Nat)), (27, .pointer (some ⟨b32, 1, none⟩)), (28, .agg #[.int .i64 (x19.2.1 : Nat), .slice B25 x19.2.2.length cp26]), (9, .int .i64 0)]) (vs := []) (obs := []) (pd' := []) hF73 (by kernel_rfl) .nil rfl ?_
      intro a77 hF78
      clear hF73
      refine wpD_done (by kernel_rfl) ?_
      refine nrm_then ?_
      refine wp_seq ?_
      refine reg_text (l := [0, 1]) (by kernel_rfl) ?_
      refine batch_spec (is := [0, 1]) (rest := []) (live := [30, 29, 24, 8, 16, 0, 2, 6, 11, 12, 13, 14, 15, 17, 7, 18, 19, 20, 21, 22, 23, 25, 26, 27, 28, 9, 31, 32]) (e' := [(30, .int .i64 0), (29, .string (LeafM.sec x19)), (24, .int .i64 (st.at' + k : Nat)), (8, .pointer (some ⟨b32, 0, none⟩)), (16, .pointer (some ⟨b21, off22 + k * 3, none⟩)), (0, .pointer (some ⟨s, 0, none⟩)), (2, .func (.func 25) #[] #[.pointer (some ⟨b2, 0, none⟩)]), (6, .int .i64 0), (11, .slice A l.length cap), (12, .int .i64 (l.length : Nat)), (13, .int .i64 (k : Nat)), (14, .bool true), (15, .int .i64 (k : Nat)), (17, .agg #[.int .i64 (x19.1 : Nat), .int .i64 (x19.2.1 : Nat), .slice B25 x19.2.2.length cp26]), (7, .int .i64 (k : Nat)), (18, .pointer (some ⟨s, 0, none⟩)), (19, .pointer (some ⟨s, 0, none⟩)), (20, .pointer (some ⟨s, 0, none⟩)), (21, .pointer (some ⟨st.plate, 0, none⟩)), (22, .func (.func 25) #[] #[.pointer (some ⟨b2, 0, none⟩)]), (23, .int .i64 (k : Nat)), (25, .pointer (some ⟨b32, 0, none⟩)), (26, .int .i64 (x19.1 : Nat)), (27, .pointer (some ⟨b32, 1, none⟩)), (28, .agg #[.int .i64 (x19.2.1 : Nat), .slice B25 x19.2.2.length cp26]), (9, .int .i64 0), (31, .int .i64 0), (32, .bool false)]) (vs := []) (obs := []) hF78 (by kernel_rfl) .nil ?_
      intro a79 hF80
      clear hF78
      refine ops_done ?_
      refine nrm_then ?_
      refine cond_no hF80 rfl ?_
      refine wp_skip ?_
      refine nrm_block ?_
      refine nrm_then ?_
      refine reg_text (l := [0, 1]) (by kernel_rfl) ?_
      refine batch_spec (is := [0]) (rest := [1]) (live := [30, 29, 24, 8, 16, 0, 2, 6, 11, 12, 13, 14, 15, 17, 7, 18, 19, 20, 21, 22, 23, 25, 26, 27, 28, 9, 31, 32, 37]) (e' := [(30, .int .i64 0), (29, .string (LeafM.sec x19)), (24, .int .i64 (st.at' + k : Nat)), (8, .pointer (some ⟨b32, 0, none⟩)), (16, .pointer (some ⟨b21, off22 + k * 3, none⟩)), (0, .pointer (some ⟨s, 0, none⟩)), (2, .func (.func 25) #[] #[.pointer (some ⟨b2, 0, none⟩)]), (6, .int .i64 0), (11, .slice A l.length cap), (12, .int .i64 (l.length : Nat)), (13, .int .i64 (k : Nat)), (14, .bool true), (15, .int .i64 (k : Nat)), (17, .agg #[.int .i64 (x19.1 : Nat), .int .i64 (x19.2.1 : Nat), .slice B25 x19.2.2.length cp26]), (7, .int .i64 (k : Nat)), (18, .pointer (some ⟨s, 0, none⟩)), (19, .pointer (some ⟨s, 0, none⟩)), (20, .pointer (some ⟨s, 0, none⟩)), (21, .pointer (some ⟨st.plate, 0, none⟩)), (22, .func (.func 25) #[] #[.pointer (some ⟨b2, 0, none⟩)]), (23, .int .i64 (k : Nat)), (25, .pointer (some ⟨b32, 0, none⟩)), (26, .int .i64 (x19.1 : Nat)), (27, .pointer (some ⟨b32, 1, none⟩)), (28, .agg #[.int .i64 (x19.2.1 : Nat), .slice B25 x19.2.2.length cp26]), (9, .int .i64 0), (31, .int .i64 0), (32, .bool false), (37, .int .i64 (IntKind.i64.wrap (((k : Nat) : Int) + 1)))]) (vs := []) (obs := []) hF80 (by kernel_rfl) .nil ?_
      intro a81 hF82
      clear hF80
      have hw83 : IntKind.i64.wrap (((k : Nat) : Int) + 1) = ((k + 1 : Nat) : Int) := by rw [wrap_i64 (by omega) (by omega)]; omega
      rw [hw83] at hF82
      refine batch_spec (is := [1]) (rest := []) (live := [30, 29, 24, 8, 16, 0, 2, 6, 11, 12, 13, 14, 15, 17, 7, 18, 19, 20, 21, 22, 23, 25, 26, 27, 28, 9, 31, 32, 37]) (e' := [(30, .int .i64 0), (29, .string (LeafM.sec x19)), (24, .int .i64 (st.at' + k : Nat)), (8, .pointer (some ⟨b32, 0, none⟩)), (16, .pointer (some ⟨b21, off22 + k * 3, none⟩)), (0, .pointer (some ⟨s, 0, none⟩)), (2, .func (.func 25) #[] #[.pointer (some ⟨b2, 0, none⟩)]), (6, .int .i64 0), (11, .slice A l.length cap), (12, .int .i64 (l.length : Nat)), (13, .int .i64 (k + 1 : Nat)), (14, .bool true), (15, .int .i64 (k : Nat)), (17, .agg #[.int .i64 (x19.1 : Nat), .int .i64 (x19.2.1 : Nat), .slice B25 x19.2.2.length cp26]), (7, .int .i64 (k : Nat)), (18, .pointer (some ⟨s, 0, none⟩)), (19, .pointer (some ⟨s, 0, none⟩)), (20, .pointer (some ⟨s, 0, none⟩)), (21, .pointer (some ⟨st.plate, 0, none⟩)), (22, .func (.func 25) #[] #[.pointer (some ⟨b2, 0, none⟩)]), (23, .int .i64 (k : Nat)), (25, .pointer (some ⟨b32, 0, none⟩)), (26, .int .i64 (x19.1 : Nat)), (27, .pointer (some ⟨b32, 1, none⟩)), (28, .agg #[.int .i64 (x19.2.1 : Nat), .slice B25 x19.2.2.length cp26]), (9, .int .i64 0), (31, .int .i64 0), (32, .bool false), (37, .int .i64 (k + 1 : Nat))]) (vs := []) (obs := []) hF82 (by kernel_rfl) .nil ?_
      intro a84 hF85
      clear hF82
      refine ops_done ?_
      have hS86 : Sat w74 (storeA s st :: plateA st.plate pl2 :: raw b2 (.cells #[.pointer (some ⟨s, 0, none⟩)] 28 (0, 0)) :: raw b32 (.cells #[.int .i64 (x19.1 : Nat), .int .i64 (x19.2.1 : Nat), .slice B25 x19.2.2.length cp26] 43 (0, 0)) :: immC b21 (off22 + k * 3) [.int .i64 (x19.1 : Nat), .int .i64 (x19.2.1 : Nat), .slice B25 x19.2.2.length cp26] :: slA slotT (.slice B25 x19.2.2.length cp26) x19.2.2 :: slA leafT (.slice A l.length cap) l :: L) := store_in' (st := st) (by simp) (Sat_at (Sat_at hS76 2 rfl rfl) 2 rfl rfl)
      have hS87 : Sat w74 (raw b2 (.cells #[.pointer (some ⟨s, 0, none⟩)] 28 (0, 0)) :: slA leafT (.slice A l.length cap) l :: storeA s st :: plateA st.plate pl2 :: raw b32 (.cells #[.int .i64 (x19.1 : Nat), .int .i64 (x19.2.1 : Nat), .slice B25 x19.2.2.length cp26] 43 (0, 0)) :: immC b21 (off22 + k * 3) [.int .i64 (x19.1 : Nat), .int .i64 (x19.2.1 : Nat), .slice B25 x19.2.2.length cp26] :: slA slotT (.slice B25 x19.2.2.length cp26) x19.2.2 :: L) := (Sat_at (Sat_at (Sat_at (Sat_at hS86 1 rfl rfl) 1 rfl rfl) 6 rfl rfl) 3 rfl rfl)
      refine nrm_then ⟨_, ?_, k + 1, pl2, rfl, (by omega), hI.next hw1 hx, (Fits.restr (r := [(0, .pointer (some ⟨s, 0, none⟩)), (2, .func (.func 25) #[] #[.pointer (some ⟨b2, 0, none⟩)]), (6, .int .i64 0), (11, .slice A l.length cap), (12, .int .i64 (l.length : Nat)), (13, .int .i64 (k + 1 : Nat))]) hF85 (ks := [0, 2, 6, 11, 12, 13]) (by kernel_rfl)).cast (by rfl), (Sat_at (Sat_at (Sat_at hS87 6 rfl rfl).drop 5 rfl rfl).drop 4 rfl rfl).drop⟩
      omega
    ·
      clear hF67
      clear hS69 hS70 hS71
      have hS88 : Sat w74 (plateA st.plate pl2 :: raw s (.cells #[.pointer (some ⟨st.plate, 0, none⟩), .int .i64 (st.at' : Nat), .int .i64 (st.copies : Nat), .slice A62 st.pages.length c63, .int .i64 st.life, .bool st.torn] 59 (0, 0)) :: rowA pageT 41 A62 c63 st.pages :: raw b2 (.cells #[.pointer (some ⟨s, 0, none⟩)] 28 (0, 0)) :: raw b32 (.cells #[.int .i64 (x19.1 : Nat), .int .i64 (x19.2.1 : Nat), .slice B25 x19.2.2.length cp26] 43 (0, 0)) :: immC b21 (off22 + k * 3) [.int .i64 (x19.1 : Nat), .int .i64 (x19.2.1 : Nat), .slice B25 x19.2.2.length cp26] :: slA slotT (.slice B25 x19.2.2.length cp26) x19.2.2 :: slA leafT (.slice A l.length cap) l :: L) := hS75
      refine ⟨.nil, ?_⟩
      refine batchD_spec (is := [13]) (dn := [0, 1, 2, 3, 4, 5, 7, 8, 9, 10, 6, 11, 12]) (dn' := [0, 1, 2, 3, 4, 5, 7, 8, 9, 10, 6, 11, 12, 13]) (live := [30, 29, 24, 8, 16, 0, 2, 6, 11, 12, 13, 14, 15, 17, 7, 18, 19, 20, 21, 22, 23, 25, 26, 27, 28, 9]) (e' := [(30, .int .i64 10), (29, .string (LeafM.sec x19)), (24, .int .i64 (st.at' + k : Nat)), (8, .pointer (some ⟨b32, 0, none⟩)), (16, .pointer (some ⟨b21, off22 + k * 3, none⟩)), (0, .pointer (some ⟨s, 0, none⟩)), (2, .func (.func 25) #[] #[.pointer (some ⟨b2, 0, none⟩)]), (6, .int .i64 0), (11, .slice A l.length cap), (12, .int .i64 (l.length : Nat)), (13, .int .i64 (k : Nat)), (14, .bool true), (15, .int .i64 (k : Nat)), (17, .agg #[.int .i64 (x19.1 : Nat), .int .i64 (x19.2.1 : Nat), .slice B25 x19.2.2.length cp26]), (7, .int .i64 (k : Nat)), (18, .pointer (some ⟨s, 0, none⟩)), (19, .pointer (some ⟨s, 0, none⟩)), (20, .pointer (some ⟨s, 0, none⟩)), (21, .pointer (some ⟨st.plate, 0, none⟩)), (22, .func (.func 25) #[] #[.pointer (some ⟨b2, 0, none⟩)]), (23, .int .i64 (k : Nat)), (25, .pointer (some ⟨b32, 0, none⟩)), (26, .int .i64 (x19.1 : Nat)), (27, .pointer (some ⟨b32, 1, none⟩)), (28, .agg #[.int .i64 (x19.2.1 : Nat), .slice B25 x19.2.2.length cp26]), (9, .int .i64 10)]) (vs := []) (obs := []) (pd' := []) hF73 (by kernel_rfl) .nil rfl ?_
      intro a89 hF90
      clear hF73
      refine wpD_done (by kernel_rfl) ?_
      refine nrm_then ?_
      refine wp_seq ?_
      refine reg_text (l := [0, 1]) (by kernel_rfl) ?_
      refine batch_spec (is := [0, 1]) (rest := []) (live := [30, 29, 24, 8, 16, 0, 2, 6, 11, 12, 13, 14, 15, 17, 7, 18, 19, 20, 21, 22, 23, 25, 26, 27, 28, 9, 31, 32]) (e' := [(30, .int .i64 10), (29, .string (LeafM.sec x19)), (24, .int .i64 (st.at' + k : Nat)), (8, .pointer (some ⟨b32, 0, none⟩)), (16, .pointer (some ⟨b21, off22 + k * 3, none⟩)), (0, .pointer (some ⟨s, 0, none⟩)), (2, .func (.func 25) #[] #[.pointer (some ⟨b2, 0, none⟩)]), (6, .int .i64 0), (11, .slice A l.length cap), (12, .int .i64 (l.length : Nat)), (13, .int .i64 (k : Nat)), (14, .bool true), (15, .int .i64 (k : Nat)), (17, .agg #[.int .i64 (x19.1 : Nat), .int .i64 (x19.2.1 : Nat), .slice B25 x19.2.2.length cp26]), (7, .int .i64 (k : Nat)), (18, .pointer (some ⟨s, 0, none⟩)), (19, .pointer (some ⟨s, 0, none⟩)), (20, .pointer (some ⟨s, 0, none⟩)), (21, .pointer (some ⟨st.plate, 0, none⟩)), (22, .func (.func 25) #[] #[.pointer (some ⟨b2, 0, none⟩)]), (23, .int .i64 (k : Nat)), (25, .pointer (some ⟨b32, 0, none⟩)), (26, .int .i64 (x19.1 : Nat)), (27, .pointer (some ⟨b32, 1, none⟩)), (28, .agg #[.int .i64 (x19.2.1 : Nat), .slice B25 x19.2.2.length cp26]), (9, .int .i64 10), (31, .int .i64 10), (32, .bool true)]) (vs := []) (obs := []) hF90 (by kernel_rfl) .nil ?_
      intro a91 hF92
      clear hF90
      refine ops_done ?_
      refine nrm_then ?_
      refine cond_yes hF92 rfl ?_
      refine wp_seq ?_
      refine reg_text (l := [0, 1, 2, 3]) (by kernel_rfl) ?_
      refine batch_spec (is := [0, 1, 2]) (rest := [3]) (live := [30, 29, 24, 8, 16, 0, 2, 6, 11, 12, 13, 14, 15, 17, 7, 18, 19, 20, 21, 22, 23, 25, 26, 27, 28, 9, 31, 32, 33, 34, 35]) (e' := [(30, .int .i64 10), (29, .string (LeafM.sec x19)), (24, .int .i64 (st.at' + k : Nat)), (8, .pointer (some ⟨b32, 0, none⟩)), (16, .pointer (some ⟨b21, off22 + k * 3, none⟩)), (0, .pointer (some ⟨s, 0, none⟩)), (2, .func (.func 25) #[] #[.pointer (some ⟨b2, 0, none⟩)]), (6, .int .i64 0), (11, .slice A l.length cap), (12, .int .i64 (l.length : Nat)), (13, .int .i64 (k : Nat)), (14, .bool true), (15, .int .i64 (k : Nat)), (17, .agg #[.int .i64 (x19.1 : Nat), .int .i64 (x19.2.1 : Nat), .slice B25 x19.2.2.length cp26]), (7, .int .i64 (k : Nat)), (18, .pointer (some ⟨s, 0, none⟩)), (19, .pointer (some ⟨s, 0, none⟩)), (20, .pointer (some ⟨s, 0, none⟩)), (21, .pointer (some ⟨st.plate, 0, none⟩)), (22, .func (.func 25) #[] #[.pointer (some ⟨b2, 0, none⟩)]), (23, .int .i64 (k : Nat)), (25, .pointer (some ⟨b32, 0, none⟩)), (26, .int .i64 (x19.1 : Nat)), (27, .pointer (some ⟨b32, 1, none⟩)), (28, .agg #[.int .i64 (x19.2.1 : Nat), .slice B25 x19.2.2.length cp26]), (9, .int .i64 10), (31, .int .i64 10), (32, .bool true), (33, .pointer (some ⟨s, 0, none⟩)), (34, .pointer (some ⟨s, 0, none⟩)), (35, .pointer (some ⟨s, 5, none⟩))]) (vs := []) (obs := []) hF92 (by kernel_rfl) .nil ?_
      intro a93 hF94
      clear hF92
      refine ops_next ?_
      obtain ⟨w95, hr96, hS97⟩ := comes_store (P := Tryd.prog) (t' := 4) (b := s) (j := 5) (x := .bool true) (vs := [.bool true]) (c' := #[.pointer (some ⟨st.plate, 0, none⟩), .int .i64 (st.at' : Nat), .int .i64 (st.copies : Nat), .slice A62 st.pages.length c63, .int .i64 st.life, .bool true]) hS88 1 rfl rfl rfl (by kernel_rfl) rfl rfl rfl
      refine op_value (u := undef) (e' := [(30, .int .i64 10), (29, .string (LeafM.sec x19)), (24, .int .i64 (st.at' + k : Nat)), (8, .pointer (some ⟨b32, 0, none⟩)), (16, .pointer (some ⟨b21, off22 + k * 3, none⟩)), (0, .pointer (some ⟨s, 0, none⟩)), (2, .func (.func 25) #[] #[.pointer (some ⟨b2, 0, none⟩)]), (6, .int .i64 0), (11, .slice A l.length cap), (12, .int .i64 (l.length : Nat)), (13, .int .i64 (k : Nat)), (14, .bool true), (15, .int .i64 (k : Nat)), (17, .agg #[.int .i64 (x19.1 : Nat), .int .i64 (x19.2.1 : Nat), .slice B25 x19.2.2.length cp26]), (7, .int .i64 (k : Nat)), (18, .pointer (some ⟨s, 0, none⟩)), (19, .pointer (some ⟨s, 0, none⟩)), (20, .pointer (some ⟨s, 0, none⟩)), (21, .pointer (some ⟨st.plate, 0, none⟩)), (22, .func (.func 25) #[] #[.pointer (some ⟨b2, 0, none⟩)]), (23, .int .i64 (k : Nat)), (25, .pointer (some ⟨b32, 0, none⟩)), (26, .int .i64 (x19.1 : Nat)), (27, .pointer (some ⟨b32, 1, none⟩)), (28, .agg #[.int .i64 (x19.2.1 : Nat), .slice B25 x19.2.2.length cp26]), (9, .int .i64 10), (31, .int .i64 10), (32, .bool true), (33, .pointer (some ⟨s, 0, none⟩)), (34, .pointer (some ⟨s, 0, none⟩)), (35, .pointer (some ⟨s, 5, none⟩))]) hF94 (by kernel_rfl) hr96 ?_
      intro a98 hF99
      clear hF94 hr96
      clear hS75 hS88
      have hS100 : Sat w95 (raw s (.cells #[.pointer (some ⟨st.plate, 0, none⟩), .int .i64 (st.at' : Nat), .int .i64 (st.copies : Nat), .slice A62 st.pages.length c63, .int .i64 st.life, .bool true] 59 (0, 0)) :: plateA st.plate pl2 :: rowA pageT 41 A62 c63 st.pages :: raw b2 (.cells #[.pointer (some ⟨s, 0, none⟩)] 28 (0, 0)) :: raw b32 (.cells #[.int .i64 (x19.1 : Nat), .int .i64 (x19.2.1 : Nat), .slice B25 x19.2.2.length cp26] 43 (0, 0)) :: immC b21 (off22 + k * 3) [.int .i64 (x19.1 : Nat), .int .i64 (x19.2.1 : Nat), .slice B25 x19.2.2.length cp26] :: slA slotT (.slice B25 x19.2.2.length cp26) x19.2.2 :: slA leafT (.slice A l.length cap) l :: L) := hS97
      refine ops_done ?_
      refine nrm_then ?_
      refine wp_seq ?_
      refine reg_text (l := [0, 1]) (by kernel_rfl) ?_
      refine batch_spec (is := [0, 1]) (rest := []) (live := [30, 29, 24, 8, 16, 0, 2, 6, 11, 12, 13, 14, 15, 17, 7, 18, 19, 20, 21, 22, 23, 25, 26, 27, 28, 9, 31, 32, 33, 34, 35, 36]) (e' := [(30, .int .i64 10), (29, .string (LeafM.sec x19)), (24, .int .i64 (st.at' + k : Nat)), (8, .pointer (some ⟨b32, 0, none⟩)), (16, .pointer (some ⟨b21, off22 + k * 3, none⟩)), (0, .pointer (some ⟨s, 0, none⟩)), (2, .func (.func 25) #[] #[.pointer (some ⟨b2, 0, none⟩)]), (6, .int .i64 10), (11, .slice A l.length cap), (12, .int .i64 (l.length : Nat)), (13, .int .i64 (k : Nat)), (14, .bool true), (15, .int .i64 (k : Nat)), (17, .agg #[.int .i64 (x19.1 : Nat), .int .i64 (x19.2.1 : Nat), .slice B25 x19.2.2.length cp26]), (7, .int .i64 (k : Nat)), (18, .pointer (some ⟨s, 0, none⟩)), (19, .pointer (some ⟨s, 0, none⟩)), (20, .pointer (some ⟨s, 0, none⟩)), (21, .pointer (some ⟨st.plate, 0, none⟩)), (22, .func (.func 25) #[] #[.pointer (some ⟨b2, 0, none⟩)]), (23, .int .i64 (k : Nat)), (25, .pointer (some ⟨b32, 0, none⟩)), (26, .int .i64 (x19.1 : Nat)), (27, .pointer (some ⟨b32, 1, none⟩)), (28, .agg #[.int .i64 (x19.2.1 : Nat), .slice B25 x19.2.2.length cp26]), (9, .int .i64 10), (31, .int .i64 10), (32, .bool true), (33, .pointer (some ⟨s, 0, none⟩)), (34, .pointer (some ⟨s, 0, none⟩)), (35, .pointer (some ⟨s, 5, none⟩)), (36, .int .i64 10)]) (vs := []) (obs := []) hF99 (by kernel_rfl) .nil ?_
      intro a101 hF102
      clear hF99
      refine ops_done ?_
      refine nrm_then ?_
      refine wp_ret ?_
      refine ret_block ?_
      refine ret_then ?_
      refine ret_then ?_
      refine ret_block ?_
      refine ret_then ?_
      refine finish (v := .int .i64 10) (vs := []) (obs := []) hF102 (by kernel_rfl) .nil ?_
      have hS103 : Sat w95 (storeA s ⟨st.plate, st.at', st.copies, st.pages, st.life, true⟩ :: plateA st.plate pl2 :: raw b2 (.cells #[.pointer (some ⟨s, 0, none⟩)] 28 (0, 0)) :: raw b32 (.cells #[.int .i64 (x19.1 : Nat), .int .i64 (x19.2.1 : Nat), .slice B25 x19.2.2.length cp26] 43 (0, 0)) :: immC b21 (off22 + k * 3) [.int .i64 (x19.1 : Nat), .int .i64 (x19.2.1 : Nat), .slice B25 x19.2.2.length cp26] :: slA slotT (.slice B25 x19.2.2.length cp26) x19.2.2 :: slA leafT (.slice A l.length cap) l :: L) := store_in' (st := ⟨st.plate, st.at', st.copies, st.pages, st.life, true⟩) (by simp) (Sat_at (Sat_at hS100 2 rfl rfl) 1 rfl rfl)
      have hS104 : Sat w95 (raw b2 (.cells #[.pointer (some ⟨s, 0, none⟩)] 28 (0, 0)) :: slA leafT (.slice A l.length cap) l :: storeA s ⟨st.plate, st.at', st.copies, st.pages, st.life, true⟩ :: plateA st.plate pl2 :: raw b32 (.cells #[.int .i64 (x19.1 : Nat), .int .i64 (x19.2.1 : Nat), .slice B25 x19.2.2.length cp26] 43 (0, 0)) :: immC b21 (off22 + k * 3) [.int .i64 (x19.1 : Nat), .int .i64 (x19.2.1 : Nat), .slice B25 x19.2.2.length cp26] :: slA slotT (.slice B25 x19.2.2.length cp26) x19.2.2 :: L) := (Sat_at (Sat_at (Sat_at (Sat_at hS103 1 rfl rfl) 1 rfl rfl) 6 rfl rfl) 3 rfl rfl)
      exact .inr ⟨rfl, pl2, hI.noWrite (by omega) hx, (Sat_at (Sat_at (Sat_at hS104 6 rfl rfl).drop 5 rfl rfl).drop 4 rfl rfl).drop⟩
  ·
    have hb105 : (decide (((k : Nat) : Int) < ((l.length : Nat) : Int))) = false := decide_eq_false h15
    rw [hb105] at hF14
    refine cond_no hF14 rfl ?_
    refine wp_exit ?_
    refine exit_then ?_
    refine exit_then ?_
    refine exit_block ?_
    refine nrm_then ?_
    refine wp_seq ?_
    refine reg_text (l := [0, 1, 2, 3, 4, 5]) (by kernel_rfl) ?_
    obtain ⟨A106, c107, hS108⟩ := store_out (Sat_at hS12 2 rfl rfl)
    have hS109 : Sat w10 (raw s (.cells #[.pointer (some ⟨st.plate, 0, none⟩), .int .i64 (st.at' : Nat), .int .i64 (st.copies : Nat), .slice A106 st.pages.length c107, .int .i64 st.life, .bool st.torn] 59 (0, 0)) :: rowA pageT 41 A106 c107 st.pages :: raw b2 (.cells #[.pointer (some ⟨s, 0, none⟩)] 28 (0, 0)) :: slA leafT (.slice A l.length cap) l :: plateA st.plate plk :: L) := hS108
    refine batch_spec (is := [0, 1, 2, 3]) (rest := [4, 5]) (live := [0, 6, 41]) (e' := [(0, .pointer (some ⟨s, 0, none⟩)), (6, .int .i64 0), (41, .pointer (some ⟨st.plate, 0, none⟩))]) (vs := [.pointer (some ⟨st.plate, 0, none⟩)]) (obs := [(⟨s, 0, none⟩, .pointer (some ⟨st.plate, 0, none⟩))]) hF14 (by kernel_rfl) (.cons (ob hS109 0 rfl rfl) .nil) ?_
    intro a110 hF111
    clear hF14
    refine ops_next ?_
    have hS112 : Sat w10 (plateA st.plate plk :: raw s (.cells #[.pointer (some ⟨st.plate, 0, none⟩), .int .i64 (st.at' : Nat), .int .i64 (st.copies : Nat), .slice A106 st.pages.length c107, .int .i64 st.life, .bool st.torn] 59 (0, 0)) :: rowA pageT 41 A106 c107 st.pages :: raw b2 (.cells #[.pointer (some ⟨s, 0, none⟩)] 28 (0, 0)) :: slA leafT (.slice A l.length cap) l :: L) := (Sat_at hS109 4 rfl rfl)
    refine op_call (fn := 21) (first := #[]) (cap := #[]) (args := #[.pointer (some ⟨st.plate, 0, none⟩)]) (all := #[.pointer (some ⟨st.plate, 0, none⟩)]) (pe := fun u => [(42, u), (0, .pointer (some ⟨s, 0, none⟩)), (6, .int .i64 0), (41, .pointer (some ⟨st.plate, 0, none⟩))]) hF111 (fun u => by kernel_rfl) (by kernel_rfl) (by kernel_rfl) (sync_c hI.held hI.down (by rw [hI.count]; omega) (by rw [hI.que]; omega) hS112) ?_
    rintro u w115 a113 (⟨rfl, pl2, hx, hS116⟩ | ⟨rfl, pl2, hx, hS116⟩) hF114
    ·
      clear hF111
      clear hS12 hS108 hS109 hS112
      have hS117 : Sat w115 (plateA st.plate pl2 :: raw s (.cells #[.pointer (some ⟨st.plate, 0, none⟩), .int .i64 (st.at' : Nat), .int .i64 (st.copies : Nat), .slice A106 st.pages.length c107, .int .i64 st.life, .bool st.torn] 59 (0, 0)) :: rowA pageT 41 A106 c107 st.pages :: raw b2 (.cells #[.pointer (some ⟨s, 0, none⟩)] 28 (0, 0)) :: slA leafT (.slice A l.length cap) l :: L) := hS116
      refine batch_spec (is := [5]) (rest := []) (live := [0, 6, 10]) (e' := [(0, .pointer (some ⟨s, 0, none⟩)), (6, .int .i64 0), (10, .int .i64 0)]) (vs := []) (obs := []) hF114 (by kernel_rfl) .nil ?_
      intro a118 hF119
      clear hF114
      refine ops_done ?_
      refine nrm_then ?_
      refine wp_seq ?_
      refine reg_text (l := [0, 1, 2, 3, 4, 5]) (by kernel_rfl) ?_
      refine batch_spec (is := [0, 1, 2, 3, 4]) (rest := [5]) (live := [6, 10, 45, 47]) (e' := [(6, .int .i64 0), (10, .int .i64 0), (45, .bool false), (47, .pointer (some ⟨s, 5, none⟩))]) (vs := []) (obs := []) hF119 (by kernel_rfl) .nil ?_
      intro a120 hF121
      clear hF119
      refine ops_next ?_
      obtain ⟨w122, hr123, hS124⟩ := comes_store (P := Tryd.prog) (t' := 4) (b := s) (j := 5) (x := .bool false) (vs := [.bool false]) (c' := #[.pointer (some ⟨st.plate, 0, none⟩), .int .i64 (st.at' : Nat), .int .i64 (st.copies : Nat), .slice A106 st.pages.length c107, .int .i64 st.life, .bool false]) hS117 1 rfl rfl rfl (by kernel_rfl) rfl rfl rfl
      refine op_value (u := undef) (e' := [(6, .int .i64 0), (10, .int .i64 0), (45, .bool false), (47, .pointer (some ⟨s, 5, none⟩))]) hF121 (by kernel_rfl) hr123 ?_
      intro a125 hF126
      clear hF121 hr123
      clear hS116 hS117
      have hS127 : Sat w122 (raw s (.cells #[.pointer (some ⟨st.plate, 0, none⟩), .int .i64 (st.at' : Nat), .int .i64 (st.copies : Nat), .slice A106 st.pages.length c107, .int .i64 st.life, .bool false] 59 (0, 0)) :: plateA st.plate pl2 :: rowA pageT 41 A106 c107 st.pages :: raw b2 (.cells #[.pointer (some ⟨s, 0, none⟩)] 28 (0, 0)) :: slA leafT (.slice A l.length cap) l :: L) := hS124
      refine ops_done ?_
      refine nrm_then ?_
      refine wp_seq ?_
      refine reg_text (l := [0, 1]) (by kernel_rfl) ?_
      refine batch_spec (is := [0, 1]) (rest := []) (live := [6]) (e' := [(6, .int .i64 0)]) (vs := []) (obs := []) hF126 (by kernel_rfl) .nil ?_
      intro a128 hF129
      clear hF126
      refine ops_done ?_
      refine nrm_then ?_
      refine wp_ret ?_
      refine finish (v := .int .i64 0) (vs := []) (obs := []) hF129 (by kernel_rfl) .nil ?_
      have hS130 : Sat w122 (storeA s ⟨st.plate, st.at', st.copies, st.pages, st.life, false⟩ :: plateA st.plate pl2 :: raw b2 (.cells #[.pointer (some ⟨s, 0, none⟩)] 28 (0, 0)) :: slA leafT (.slice A l.length cap) l :: L) := store_in' (st := ⟨st.plate, st.at', st.copies, st.pages, st.life, false⟩) (by simp) (Sat_at (Sat_at hS127 2 rfl rfl) 1 rfl rfl)
      have hS131 : Sat w122 (raw b2 (.cells #[.pointer (some ⟨s, 0, none⟩)] 28 (0, 0)) :: slA leafT (.slice A l.length cap) l :: storeA s ⟨st.plate, st.at', st.copies, st.pages, st.life, false⟩ :: plateA st.plate pl2 :: L) := (Sat_at (Sat_at (Sat_at (Sat_at hS130 1 rfl rfl) 1 rfl rfl) 3 rfl rfl) 3 rfl rfl)
      exact .inl ⟨rfl, pl2, hI.done h15 hwl hx hkl, hS131⟩
    ·
      clear hF111
      clear hS12 hS108 hS109 hS112
      have hS132 : Sat w115 (plateA st.plate pl2 :: raw s (.cells #[.pointer (some ⟨st.plate, 0, none⟩), .int .i64 (st.at' : Nat), .int .i64 (st.copies : Nat), .slice A106 st.pages.length c107, .int .i64 st.life, .bool st.torn] 59 (0, 0)) :: rowA pageT 41 A106 c107 st.pages :: raw b2 (.cells #[.pointer (some ⟨s, 0, none⟩)] 28 (0, 0)) :: slA leafT (.slice A l.length cap) l :: L) := hS116
      refine batch_spec (is := [5]) (rest := []) (live := [0, 6, 10]) (e' := [(0, .pointer (some ⟨s, 0, none⟩)), (6, .int .i64 0), (10, .int .i64 10)]) (vs := []) (obs := []) hF114 (by kernel_rfl) .nil ?_
      intro a133 hF134
      clear hF114
      refine ops_done ?_
      refine nrm_then ?_
      refine wp_seq ?_
      refine reg_text (l := [0, 1, 2, 3, 4, 5]) (by kernel_rfl) ?_
      refine batch_spec (is := [0, 1, 2, 3, 4]) (rest := [5]) (live := [6, 10, 45, 47]) (e' := [(6, .int .i64 0), (10, .int .i64 10), (45, .bool true), (47, .pointer (some ⟨s, 5, none⟩))]) (vs := []) (obs := []) hF134 (by kernel_rfl) .nil ?_
      intro a135 hF136
      clear hF134
      refine ops_next ?_
      obtain ⟨w137, hr138, hS139⟩ := comes_store (P := Tryd.prog) (t' := 4) (b := s) (j := 5) (x := .bool true) (vs := [.bool true]) (c' := #[.pointer (some ⟨st.plate, 0, none⟩), .int .i64 (st.at' : Nat), .int .i64 (st.copies : Nat), .slice A106 st.pages.length c107, .int .i64 st.life, .bool true]) hS132 1 rfl rfl rfl (by kernel_rfl) rfl rfl rfl
      refine op_value (u := undef) (e' := [(6, .int .i64 0), (10, .int .i64 10), (45, .bool true), (47, .pointer (some ⟨s, 5, none⟩))]) hF136 (by kernel_rfl) hr138 ?_
      intro a140 hF141
      clear hF136 hr138
      clear hS116 hS132
      have hS142 : Sat w137 (raw s (.cells #[.pointer (some ⟨st.plate, 0, none⟩), .int .i64 (st.at' : Nat), .int .i64 (st.copies : Nat), .slice A106 st.pages.length c107, .int .i64 st.life, .bool true] 59 (0, 0)) :: plateA st.plate pl2 :: rowA pageT 41 A106 c107 st.pages :: raw b2 (.cells #[.pointer (some ⟨s, 0, none⟩)] 28 (0, 0)) :: slA leafT (.slice A l.length cap) l :: L) := hS139
      refine ops_done ?_
      refine nrm_then ?_
      refine wp_seq ?_
      refine reg_text (l := [0, 1]) (by kernel_rfl) ?_
      refine batch_spec (is := [0, 1]) (rest := []) (live := [6]) (e' := [(6, .int .i64 10)]) (vs := []) (obs := []) hF141 (by kernel_rfl) .nil ?_
      intro a143 hF144
      clear hF141
      refine ops_done ?_
      refine nrm_then ?_
      refine wp_ret ?_
      refine finish (v := .int .i64 10) (vs := []) (obs := []) hF144 (by kernel_rfl) .nil ?_
      have hS145 : Sat w137 (storeA s ⟨st.plate, st.at', st.copies, st.pages, st.life, true⟩ :: plateA st.plate pl2 :: raw b2 (.cells #[.pointer (some ⟨s, 0, none⟩)] 28 (0, 0)) :: slA leafT (.slice A l.length cap) l :: L) := store_in' (st := ⟨st.plate, st.at', st.copies, st.pages, st.life, true⟩) (by simp) (Sat_at (Sat_at hS142 2 rfl rfl) 1 rfl rfl)
      have hS146 : Sat w137 (raw b2 (.cells #[.pointer (some ⟨s, 0, none⟩)] 28 (0, 0)) :: slA leafT (.slice A l.length cap) l :: storeA s ⟨st.plate, st.at', st.copies, st.pages, st.life, true⟩ :: plateA st.plate pl2 :: L) := (Sat_at (Sat_at (Sat_at (Sat_at hS145 1 rfl rfl) 1 rfl rfl) 3 rfl rfl) 3 rfl rfl)
      exact .inr ⟨rfl, pl2, hI.noSync (by omega) hx, hS146⟩
set_option maxHeartbeats 2000000 in
theorem lay2_c {b2 b3 cap : Nat} {A : Option Addr} {l : List LeafM} {ws : List (Int × ByteArray)} (hH : Held pl P) (hd : pl.down = false) (hq0 : pl.queue = []) (ha : st.at' < 100000) (hc : st.copies < 100000) (hc0 : 0 < pl.count) (hl : l.length ≤ 100) (hwl : ws.length = l.length) (hws : ∀ (k : Nat) (x : LeafM), l[k]? = some x → ws[k]? = some (((st.at' + st.copies + x.1 : Nat) : Int), LeafM.sec x) ∧ P ((st.at' + st.copies + x.1 : Nat) : Int) (LeafM.sec x) ∧ P ((st.at' + st.copies + x.1 : Nat) : Int) tornB ∧ ((st.at' + st.copies + x.1 : Nat) : Int) < pl.count ∧ Okay x.2.1 x.2.2 ∧ x.1 < 100000) (hS : Sat w (raw b2 (.cells #[.pointer (some ⟨s, 0, none⟩)] 28 (0, 0)) :: raw b3 (.cells #[.slice A l.length cap] 35 (0, 0)) :: slA leafT (.slice A l.length cap) l :: storeA s st :: plateA st.plate pl :: L)) :
    Calls Tryd.prog 24 #[.pointer (some ⟨s, 0, none⟩), .slice A l.length cap, .func (.func 26) #[] #[.pointer (some ⟨b2, 0, none⟩), .pointer (some ⟨b3, 0, none⟩)]] w (Ret fun r w' => (r = .int .i64 0 ∧ ∃ pl', LayOk P pl pl' ws ∧ Sat w' (raw b2 (.cells #[.pointer (some ⟨s, 0, none⟩)] 28 (0, 0)) :: raw b3 (.cells #[.slice A l.length cap] 35 (0, 0)) :: slA leafT (.slice A l.length cap) l :: storeA s { st with torn := false } :: plateA st.plate pl' :: L)) ∨ (r = .int .i64 10 ∧ ∃ pl', LayNo P pl pl' ∧ Sat w' (raw b2 (.cells #[.pointer (some ⟨s, 0, none⟩)] 28 (0, 0)) :: raw b3 (.cells #[.slice A l.length cap] 35 (0, 0)) :: slA leafT (.slice A l.length cap) l :: storeA s { st with torn := true } :: plateA st.plate pl' :: L))) := by
  refine enter (vs := [.pointer (some ⟨s, 0, none⟩), .slice A l.length cap, .func (.func 26) #[] #[.pointer (some ⟨b2, 0, none⟩), .pointer (some ⟨b3, 0, none⟩)]]) Tryd.func24 rfl Tryd.ntmps24 rfl ?_
  intro a1 hF2
  have hF3 : Fits a1 49 [(0, .pointer (some ⟨s, 0, none⟩)), (1, .slice A l.length cap), (2, .func (.func 26) #[] #[.pointer (some ⟨b2, 0, none⟩), .pointer (some ⟨b3, 0, none⟩)])] := hF2
  clear hF2
  refine wp_seq ?_
  refine reg_text (l := [0]) (by kernel_rfl) ?_
  refine batch_spec (is := [0]) (rest := []) (live := [0, 1, 2, 6]) (e' := [(0, .pointer (some ⟨s, 0, none⟩)), (1, .slice A l.length cap), (2, .func (.func 26) #[] #[.pointer (some ⟨b2, 0, none⟩), .pointer (some ⟨b3, 0, none⟩)]), (6, .int .i64 0)]) (vs := []) (obs := []) hF3 (by kernel_rfl) .nil ?_
  intro a4 hF5
  clear hF3
  refine ops_done ?_
  refine nrm_then ?_
  refine wp_seq ?_
  refine wp_seq ?_
  refine reg_text (l := [0, 1, 2]) (by kernel_rfl) ?_
  refine batch_spec (is := [0, 1, 2]) (rest := []) (live := [0, 2, 6, 11, 12, 13]) (e' := [(0, .pointer (some ⟨s, 0, none⟩)), (2, .func (.func 26) #[] #[.pointer (some ⟨b2, 0, none⟩), .pointer (some ⟨b3, 0, none⟩)]), (6, .int .i64 0), (11, .slice A l.length cap), (12, .int .i64 (l.length : Nat)), (13, .int .i64 0)]) (vs := []) (obs := []) hF5 (by kernel_rfl) .nil ?_
  intro a6 hF7
  clear hF5
  refine ops_done ?_
  refine nrm_then ?_
  refine wp_block ?_
  refine loop_g (fun μ α ω => ∃ k : Nat, ∃ plk : PlateM, μ = l.length - k ∧ (k ≤ l.length) ∧ (LayInv P pl plk ws k) ∧ Fits α 49 [(0, .pointer (some ⟨s, 0, none⟩)), (2, .func (.func 26) #[] #[.pointer (some ⟨b2, 0, none⟩), .pointer (some ⟨b3, 0, none⟩)]), (6, .int .i64 0), (11, .slice A l.length cap), (12, .int .i64 (l.length : Nat)), (13, .int .i64 (k : Nat))] ∧ Sat ω (raw b2 (.cells #[.pointer (some ⟨s, 0, none⟩)] 28 (0, 0)) :: raw b3 (.cells #[.slice A l.length cap] 35 (0, 0)) :: slA leafT (.slice A l.length cap) l :: storeA s st :: plateA st.plate plk :: L)) _ ⟨0, pl, rfl, (Nat.zero_le _), LayInv.start hH hd hq0, (Fits.restr (r := [(0, .pointer (some ⟨s, 0, none⟩)), (2, .func (.func 26) #[] #[.pointer (some ⟨b2, 0, none⟩), .pointer (some ⟨b3, 0, none⟩)]), (6, .int .i64 0), (11, .slice A l.length cap), (12, .int .i64 (l.length : Nat)), (13, .int .i64 0)]) hF7 (ks := [0, 2, 6, 11, 12, 13]) (by kernel_rfl)).cast (by rfl), hS⟩ ?_
  rintro m8 a9 w10 ⟨k, plk, rfl, hkl, hI, hF11, hS12⟩
  clear hF7
  clear hS
  refine wp_seq ?_
  refine reg_text (l := [0]) (by kernel_rfl) ?_
  refine batch_spec (is := [0]) (rest := []) (live := [0, 2, 6, 11, 12, 13, 14]) (e' := [(0, .pointer (some ⟨s, 0, none⟩)), (2, .func (.func 26) #[] #[.pointer (some ⟨b2, 0, none⟩), .pointer (some ⟨b3, 0, none⟩)]), (6, .int .i64 0), (11, .slice A l.length cap), (12, .int .i64 (l.length : Nat)), (13, .int .i64 (k : Nat)), (14, .bool (decide (((k : Nat) : Int) < ((l.length : Nat) : Int))))]) (vs := []) (obs := []) hF11 (by kernel_rfl) .nil ?_
  intro a13 hF14
  clear hF11
  refine ops_done ?_
  refine nrm_then ?_
  refine wp_seq ?_
  by_cases h15 : ((k : Nat) : Int) < ((l.length : Nat) : Int)
  ·
    have hb16 : (decide (((k : Nat) : Int) < ((l.length : Nat) : Int))) = true := decide_eq_true h15
    rw [hb16] at hF14
    refine cond_yes hF14 rfl ?_
    refine wp_skip ?_
    refine nrm_then ?_
    refine wp_seq ?_
    refine wp_block ?_
    refine wp_seq ?_
    refine reg_text (l := [0, 1, 2, 3, 4, 5]) (by kernel_rfl) ?_
    refine batch_spec (is := [0]) (rest := [1, 2, 3, 4, 5]) (live := [0, 2, 6, 11, 12, 13, 14, 15]) (e' := [(0, .pointer (some ⟨s, 0, none⟩)), (2, .func (.func 26) #[] #[.pointer (some ⟨b2, 0, none⟩), .pointer (some ⟨b3, 0, none⟩)]), (6, .int .i64 0), (11, .slice A l.length cap), (12, .int .i64 (l.length : Nat)), (13, .int .i64 (k : Nat)), (14, .bool true), (15, .int .i64 (k : Nat))]) (vs := []) (obs := []) hF14 (by kernel_rfl) .nil ?_
    intro a17 hF18
    clear hF14
    refine ops_next ?_
    obtain ⟨x19, hx20⟩ : ∃ χ, l[k]? = some χ := ⟨_, List.getElem?_eq_getElem (by omega)⟩
    obtain ⟨b21, off22, B25, cp26, heq23, hS24⟩ := leaf_el hS12 2 rfl hx20
    have hS27 : Sat w10 (immC b21 (off22 + k * 3) [.int .i64 (x19.1 : Nat), .int .i64 (x19.2.1 : Nat), .slice B25 x19.2.2.length cp26] :: slA slotT (.slice B25 x19.2.2.length cp26) x19.2.2 :: raw b2 (.cells #[.pointer (some ⟨s, 0, none⟩)] 28 (0, 0)) :: raw b3 (.cells #[.slice A l.length cap] 35 (0, 0)) :: slA leafT (.slice A l.length cap) l :: storeA s st :: plateA st.plate plk :: L) := hS24
    refine op_value (u := .pointer (some ⟨b21, off22 + k * 3, none⟩)) (v := .indexAddr 35 (.slice A l.length cap) (.int .i64 (k : Nat))) (e' := [(16, .pointer (some ⟨b21, off22 + k * 3, none⟩)), (0, .pointer (some ⟨s, 0, none⟩)), (2, .func (.func 26) #[] #[.pointer (some ⟨b2, 0, none⟩), .pointer (some ⟨b3, 0, none⟩)]), (6, .int .i64 0), (11, .slice A l.length cap), (12, .int .i64 (l.length : Nat)), (13, .int .i64 (k : Nat)), (14, .bool true), (15, .int .i64 (k : Nat))]) hF18 (by kernel_rfl) (.value ((run_indexAddrA (el := 43) (sz := 3) (off := off22) (k := k) heq23 Tryd.underlying35 (by kernel_rfl) (by rfl) (by omega)) _)) ?_
    intro a28 hF29
    clear hF18
    refine batch_spec (is := [2]) (rest := [3, 4, 5]) (live := [16, 0, 2, 6, 11, 12, 13, 14, 15, 17]) (e' := [(16, .pointer (some ⟨b21, off22 + k * 3, none⟩)), (0, .pointer (some ⟨s, 0, none⟩)), (2, .func (.func 26) #[] #[.pointer (some ⟨b2, 0, none⟩), .pointer (some ⟨b3, 0, none⟩)]), (6, .int .i64 0), (11, .slice A l.length cap), (12, .int .i64 (l.length : Nat)), (13, .int .i64 (k : Nat)), (14, .bool true), (15, .int .i64 (k : Nat)), (17, .agg #[.int .i64 (x19.1 : Nat), .int .i64 (x19.2.1 : Nat), .slice B25 x19.2.2.length cp26])]) (vs := [.int .i64 (x19.1 : Nat), .int .i64 (x19.2.1 : Nat), .slice B25 x19.2.2.length cp26]) (obs := [(⟨b21, off22 + k * 3, none⟩, .int .i64 (x19.1 : Nat)), (⟨b21, off22 + k * 3 + 1, none⟩, .int .i64 (x19.2.1 : Nat)), (⟨b21, off22 + k * 3 + 2, none⟩, .slice B25 x19.2.2.length cp26)]) hF29 (by kernel_rfl) (.cons (obC hS27 0 (off := off22 + k * 3) (j := 0) rfl rfl) (.cons (obC hS27 0 (off := off22 + k * 3) (j := 1) rfl rfl) (.cons (obC hS27 0 (off := off22 + k * 3) (j := 2) rfl rfl) .nil))) ?_
    intro a30 hF31
    clear hF29
    refine ops_next ?_
    obtain ⟨b32, w33, hr34, hS35⟩ := comes_new (P := Tryd.prog) (v := .alloc 43) (u := fun b => .pointer (some ⟨b, 0, none⟩)) (o := .cells #[.int .i64 0, .int .i64 0, .slice none 0 0] 43 (0, 0)) hS27 (fun w => by kernel_rfl)
    refine op_value (u := .pointer (some ⟨b32, 0, none⟩)) (e' := [(8, .pointer (some ⟨b32, 0, none⟩)), (16, .pointer (some ⟨b21, off22 + k * 3, none⟩)), (0, .pointer (some ⟨s, 0, none⟩)), (2, .func (.func 26) #[] #[.pointer (some ⟨b2, 0, none⟩), .pointer (some ⟨b3, 0, none⟩)]), (6, .int .i64 0), (11, .slice A l.length cap), (12, .int .i64 (l.length : Nat)), (13, .int .i64 (k : Nat)), (14, .bool true), (15, .int .i64 (k : Nat)), (17, .agg #[.int .i64 (x19.1 : Nat), .int .i64 (x19.2.1 : Nat), .slice B25 x19.2.2.length cp26])]) hF31 (by kernel_rfl) hr34 ?_
    intro a36 hF37
    clear hF31 hr34
    clear hS12 hS24 hS27
    refine batch_spec (is := [4]) (rest := [5]) (live := [8, 16, 0, 2, 6, 11, 12, 13, 14, 15, 17, 7]) (e' := [(8, .pointer (some ⟨b32, 0, none⟩)), (16, .pointer (some ⟨b21, off22 + k * 3, none⟩)), (0, .pointer (some ⟨s, 0, none⟩)), (2, .func (.func 26) #[] #[.pointer (some ⟨b2, 0, none⟩), .pointer (some ⟨b3, 0, none⟩)]), (6, .int .i64 0), (11, .slice A l.length cap), (12, .int .i64 (l.length : Nat)), (13, .int .i64 (k : Nat)), (14, .bool true), (15, .int .i64 (k : Nat)), (17, .agg #[.int .i64 (x19.1 : Nat), .int .i64 (x19.2.1 : Nat), .slice B25 x19.2.2.length cp26]), (7, .int .i64 (k : Nat))]) (vs := []) (obs := []) hF37 (by kernel_rfl) .nil ?_
    intro a38 hF39
    clear hF37
    refine ops_next ?_
    obtain ⟨w40, hr41, hS42⟩ := comes_store (P := Tryd.prog) (t' := 43) (b := b32) (j := 0) (x := .agg #[.int .i64 (x19.1 : Nat), .int .i64 (x19.2.1 : Nat), .slice B25 x19.2.2.length cp26]) (vs := [.int .i64 (x19.1 : Nat), .int .i64 (x19.2.1 : Nat), .slice B25 x19.2.2.length cp26]) (c' := #[.int .i64 (x19.1 : Nat), .int .i64 (x19.2.1 : Nat), .slice B25 x19.2.2.length cp26]) hS35 0 rfl rfl rfl (by kernel_rfl) rfl rfl rfl
    refine op_value (u := undef) (e' := [(8, .pointer (some ⟨b32, 0, none⟩)), (16, .pointer (some ⟨b21, off22 + k * 3, none⟩)), (0, .pointer (some ⟨s, 0, none⟩)), (2, .func (.func 26) #[] #[.pointer (some ⟨b2, 0, none⟩), .pointer (some ⟨b3, 0, none⟩)]), (6, .int .i64 0), (11, .slice A l.length cap), (12, .int .i64 (l.length : Nat)), (13, .int .i64 (k : Nat)), (14, .bool true), (15, .int .i64 (k : Nat)), (17, .agg #[.int .i64 (x19.1 : Nat), .int .i64 (x19.2.1 : Nat), .slice B25 x19.2.2.length cp26]), (7, .int .i64 (k : Nat))]) hF39 (by kernel_rfl) hr41 ?_
    intro a43 hF44
    clear hF39 hr41
    clear hS35
    have hS45 : Sat w40 (raw b32 (.cells #[.int .i64 (x19.1 : Nat), .int .i64 (x19.2.1 : Nat), .slice B25 x19.2.2.length cp26] 43 (0, 0)) :: immC b21 (off22 + k * 3) [.int .i64 (x19.1 : Nat), .int .i64 (x19.2.1 : Nat), .slice B25 x19.2.2.length cp26] :: slA slotT (.slice B25 x19.2.2.length cp26) x19.2.2 :: raw b2 (.cells #[.pointer (some ⟨s, 0, none⟩)] 28 (0, 0)) :: raw b3 (.cells #[.slice A l.length cap] 35 (0, 0)) :: slA leafT (.slice A l.length cap) l :: storeA s st :: plateA st.plate plk :: L) := hS42
    refine ops_done ?_
    refine nrm_then ?_
    refine wp_seq ?_
    refine reg_drawn (fun j => match j with | 1 => [0] | 2 => [0, 1] | 3 => [0, 1, 2] | 6 => [4, 5] | 8 => [7] | 10 => [9] | 11 => [4, 5, 6, 7, 8, 9, 10] | 12 => [0, 1, 2, 3, 4, 5, 6, 7, 8, 9, 10, 11] | 13 => [0, 1, 2, 3, 4, 5, 6, 7, 8, 9, 10, 11, 12] | _ => []) hS45 (by kernel_rfl) (by kernel_rfl) (by kernel_rfl) (fun c a d v w h => by cases d <;> exact h) ?_
    intro w46 hS47 hw48
    clear hS42 hS45
    obtain ⟨A49, c50, hS51⟩ := store_out (Sat_at hS47 6 rfl rfl)
    have hS52 : Sat w46 (raw s (.cells #[.pointer (some ⟨st.plate, 0, none⟩), .int .i64 (st.at' : Nat), .int .i64 (st.copies : Nat), .slice A49 st.pages.length c50, .int .i64 st.life, .bool st.torn] 59 (0, 0)) :: rowA pageT 41 A49 c50 st.pages :: raw b32 (.cells #[.int .i64 (x19.1 : Nat), .int .i64 (x19.2.1 : Nat), .slice B25 x19.2.2.length cp26] 43 (0, 0)) :: immC b21 (off22 + k * 3) [.int .i64 (x19.1 : Nat), .int .i64 (x19.2.1 : Nat), .slice B25 x19.2.2.length cp26] :: slA slotT (.slice B25 x19.2.2.length cp26) x19.2.2 :: raw b2 (.cells #[.pointer (some ⟨s, 0, none⟩)] 28 (0, 0)) :: raw b3 (.cells #[.slice A l.length cap] 35 (0, 0)) :: slA leafT (.slice A l.length cap) l :: plateA st.plate plk :: L) := hS51
    refine batchD_spec (is := [0, 1, 2, 3, 4, 5, 7, 8, 9, 10]) (dn := []) (dn' := [0, 1, 2, 3, 4, 5, 7, 8, 9, 10]) (live := [8, 16, 0, 2, 6, 11, 12, 13, 14, 15, 17, 7, 18, 19, 20, 21, 22, 23, 25, 26, 27, 28]) (e' := [(8, .pointer (some ⟨b32, 0, none⟩)), (16, .pointer (some ⟨b21, off22 + k * 3, none⟩)), (0, .pointer (some ⟨s, 0, none⟩)), (2, .func (.func 26) #[] #[.pointer (some ⟨b2, 0, none⟩), .pointer (some ⟨b3, 0, none⟩)]), (6, .int .i64 0), (11, .slice A l.length cap), (12, .int .i64 (l.length : Nat)), (13, .int .i64 (k : Nat)), (14, .bool true), (15, .int .i64 (k : Nat)), (17, .agg #[.int .i64 (x19.1 : Nat), .int .i64 (x19.2.1 : Nat), .slice B25 x19.2.2.length cp26]), (7, .int .i64 (k : Nat)), (18, .pointer (some ⟨s, 0, none⟩)), (19, .pointer (some ⟨s, 0, none⟩)), (20, .pointer (some ⟨s, 0, none⟩)), (21, .pointer (some ⟨st.plate, 0, none⟩)), (22, .func (.func 26) #[] #[.pointer (some ⟨b2, 0, none⟩), .pointer (some ⟨b3, 0, none⟩)]), (23, .int .i64 (k : Nat)), (25, .pointer (some ⟨b32, 0, none⟩)), (26, .int .i64 (x19.1 : Nat)), (27, .pointer (some ⟨b32, 1, none⟩)), (28, .agg #[.int .i64 (x19.2.1 : Nat), .slice B25 x19.2.2.length cp26])]) (vs := [.pointer (some ⟨st.plate, 0, none⟩), .int .i64 (x19.1 : Nat), .int .i64 (x19.2.1 : Nat), .slice B25 x19.2.2.length cp26]) (obs := [(⟨s, 0, none⟩, .pointer (some ⟨st.plate, 0, none⟩)), (⟨b32, 0, none⟩, .int .i64 (x19.1 : Nat)), (⟨b32, 1, none⟩, .int .i64 (x19.2.1 : Nat)), (⟨b32, 2, none⟩, .slice B25 x19.2.2.length cp26)]) (pd' := [(10, [(⟨b32, 1, none⟩, .int .i64 (x19.2.1 : Nat)), (⟨b32, 2, none⟩, .slice B25 x19.2.2.length cp26)]), (8, [(⟨b32, 0, none⟩, .int .i64 (x19.1 : Nat))]), (3, [(⟨s, 0, none⟩, .pointer (some ⟨st.plate, 0, none⟩))])]) hF44 (by kernel_rfl) (.cons (ob hS52 0 rfl rfl) (.cons (ob hS52 2 rfl rfl) (.cons (ob hS52 2 rfl rfl) (.cons (ob hS52 2 rfl rfl) .nil)))) rfl ?_
    intro a53 hF54
    clear hF44
    refine wpD_next (i := 6) (pd' := [(10, [(⟨b32, 1, none⟩, .int .i64 (x19.2.1 : Nat)), (⟨b32, 2, none⟩, .slice B25 x19.2.2.length cp26)]), (8, [(⟨b32, 0, none⟩, .int .i64 (x19.1 : Nat))]), (3, [(⟨s, 0, none⟩, .pointer (some ⟨st.plate, 0, none⟩))])]) (dn' := [0, 1, 2, 3, 4, 5, 7, 8, 9, 10, 6]) (by kernel_rfl) rfl (by kernel_rfl) ?_
    have hS55 : Sat w46 (storeA s st :: raw b32 (.cells #[.int .i64 (x19.1 : Nat), .int .i64 (x19.2.1 : Nat), .slice B25 x19.2.2.length cp26] 43 (0, 0)) :: immC b21 (off22 + k * 3) [.int .i64 (x19.1 : Nat), .int .i64 (x19.2.1 : Nat), .slice B25 x19.2.2.length cp26] :: slA slotT (.slice B25 x19.2.2.length cp26) x19.2.2 :: raw b2 (.cells #[.pointer (some ⟨s, 0, none⟩)] 28 (0, 0)) :: raw b3 (.cells #[.slice A l.length cap] 35 (0, 0)) :: slA leafT (.slice A l.length cap) l :: plateA st.plate plk :: L) := store_in' (st := st) (by simp) (Sat_at (Sat_at hS52 1 rfl rfl) 1 rfl rfl)
    obtain ⟨hw1, hw2, hw3, hw4, hw5, hw6⟩ := hws k x19 hx20
    have hS56 : Sat w46 (raw b2 (.cells #[.pointer (some ⟨s, 0, none⟩)] 28 (0, 0)) :: raw b3 (.cells #[.slice A l.length cap] 35 (0, 0)) :: slA leafT (.slice A l.length cap) l :: storeA s st :: raw b32 (.cells #[.int .i64 (x19.1 : Nat), .int .i64 (x19.2.1 : Nat), .slice B25 x19.2.2.length cp26] 43 (0, 0)) :: immC b21 (off22 + k * 3) [.int .i64 (x19.1 : Nat), .int .i64 (x19.2.1 : Nat), .slice B25 x19.2.2.length cp26] :: slA slotT (.slice B25 x19.2.2.length cp26) x19.2.2 :: plateA st.plate plk :: L) := (Sat_at (Sat_at (Sat_at (Sat_at hS55 0 rfl rfl) 6 rfl rfl) 6 rfl rfl) 6 rfl rfl)
    refine op_call (fn := 26) (first := #[]) (cap := #[.pointer (some ⟨b2, 0, none⟩), .pointer (some ⟨b3, 0, none⟩)]) (args := #[.int .i64 (k : Nat)]) (all := #[.int .i64 (k : Nat), .pointer (some ⟨b2, 0, none⟩), .pointer (some ⟨b3, 0, none⟩)]) (pe := fun u => [(24, u), (8, .pointer (some ⟨b32, 0, none⟩)), (16, .pointer (some ⟨b21, off22 + k * 3, none⟩)), (0, .pointer (some ⟨s, 0, none⟩)), (2, .func (.func 26) #[] #[.pointer (some ⟨b2, 0, none⟩), .pointer (some ⟨b3, 0, none⟩)]), (6, .int .i64 0), (11, .slice A l.length cap), (12, .int .i64 (l.length : Nat)), (13, .int .i64 (k : Nat)), (14, .bool true), (15, .int .i64 (k : Nat)), (17, .agg #[.int .i64 (x19.1 : Nat), .int .i64 (x19.2.1 : Nat), .slice B25 x19.2.2.length cp26]), (7, .int .i64 (k : Nat)), (18, .pointer (some ⟨s, 0, none⟩)), (19, .pointer (some ⟨s, 0, none⟩)), (20, .pointer (some ⟨s, 0, none⟩)), (21, .pointer (some ⟨st.plate, 0, none⟩)), (22, .func (.func 26) #[] #[.pointer (some ⟨b2, 0, none⟩), .pointer (some ⟨b3, 0, none⟩)]), (23, .int .i64 (k : Nat)), (25, .pointer (some ⟨b32, 0, none⟩)), (26, .int .i64 (x19.1 : Nat)), (27, .pointer (some ⟨b32, 1, none⟩)), (28, .agg #[.int .i64 (x19.2.1 : Nat), .slice B25 x19.2.2.length cp26])]) hF54 (fun u => by kernel_rfl) (by kernel_rfl) (by kernel_rfl) (place2_c (i := k) hx20 (by omega) hw6 ha hc hS56) ?_
    rintro u w59 a57 ⟨rfl, hS60⟩ hF58
    clear hF54
    clear hS47 hS51 hS52 hS55 hS56
    have hS61 : Sat w59 (raw b2 (.cells #[.pointer (some ⟨s, 0, none⟩)] 28 (0, 0)) :: raw b3 (.cells #[.slice A l.length cap] 35 (0, 0)) :: slA leafT (.slice A l.length cap) l :: storeA s st :: raw b32 (.cells #[.int .i64 (x19.1 : Nat), .int .i64 (x19.2.1 : Nat), .slice B25 x19.2.2.length cp26] 43 (0, 0)) :: immC b21 (off22 + k * 3) [.int .i64 (x19.1 : Nat), .int .i64 (x19.2.1 : Nat), .slice B25 x19.2.2.length cp26] :: slA slotT (.slice B25 x19.2.2.length cp26) x19.2.2 :: plateA st.plate plk :: L) := hS60
    obtain ⟨A62, c63, hS64⟩ := store_out (Sat_at hS61 3 rfl rfl)
    have hS65 : Sat w59 (raw s (.cells #[.pointer (some ⟨st.plate, 0, none⟩), .int .i64 (st.at' : Nat), .int .i64 (st.copies : Nat), .slice A62 st.pages.length c63, .int .i64 st.life, .bool st.torn] 59 (0, 0)) :: rowA pageT 41 A62 c63 st.pages :: raw b2 (.cells #[.pointer (some ⟨s, 0, none⟩)] 28 (0, 0)) :: raw b3 (.cells #[.slice A l.length cap] 35 (0, 0)) :: slA leafT (.slice A l.length cap) l :: raw b32 (.cells #[.int .i64 (x19.1 : Nat), .int .i64 (x19.2.1 : Nat), .slice B25 x19.2.2.length cp26] 43 (0, 0)) :: immC b21 (off22 + k * 3) [.int .i64 (x19.1 : Nat), .int .i64 (x19.2.1 : Nat), .slice B25 x19.2.2.length cp26] :: slA slotT (.slice B25 x19.2.2.length cp26) x19.2.2 :: plateA st.plate plk :: L) := hS64
    refine ⟨(.cons (.cons (ob hS65 5 rfl rfl) (.cons (ob hS65 5 rfl rfl) .nil)) (.cons (.cons (ob hS65 5 rfl rfl) .nil) (.cons (.cons (ob hS65 0 rfl rfl) .nil) .nil))), ?_⟩
    refine wpD_next (i := 11) (pd' := [(3, [(⟨s, 0, none⟩, .pointer (some ⟨st.plate, 0, none⟩))])]) (dn' := [0, 1, 2, 3, 4, 5, 7, 8, 9, 10, 6, 11]) (by kernel_rfl) rfl (by kernel_rfl) ?_
    refine op_call (fn := 37) (first := #[]) (cap := #[]) (args := #[.int .i64 (x19.1 : Nat), .agg #[.int .i64 (x19.2.1 : Nat), .slice B25 x19.2.2.length cp26]]) (all := #[.int .i64 (x19.1 : Nat), .agg #[.int .i64 (x19.2.1 : Nat), .slice B25 x19.2.2.length cp26]]) (pe := fun u => [(29, u), (24, .int .i64 (st.at' + st.copies + x19.1 : Nat)), (8, .pointer (some ⟨b32, 0, none⟩)), (16, .pointer (some ⟨b21, off22 + k * 3, none⟩)), (0, .pointer (some ⟨s, 0, none⟩)), (2, .func (.func 26) #[] #[.pointer (some ⟨b2, 0, none⟩), .pointer (some ⟨b3, 0, none⟩)]), (6, .int .i64 0), (11, .slice A l.length cap), (12, .int .i64 (l.length : Nat)), (13, .int .i64 (k : Nat)), (14, .bool true), (15, .int .i64 (k : Nat)), (17, .agg #[.int .i64 (x19.1 : Nat), .int .i64 (x19.2.1 : Nat), .slice B25 x19.2.2.length cp26]), (7, .int .i64 (k : Nat)), (18, .pointer (some ⟨s, 0, none⟩)), (19, .pointer (some ⟨s, 0, none⟩)), (20, .pointer (some ⟨s, 0, none⟩)), (21, .pointer (some ⟨st.plate, 0, none⟩)), (22, .func (.func 26) #[] #[.pointer (some ⟨b2, 0, none⟩), .pointer (some ⟨b3, 0, none⟩)]), (23, .int .i64 (k : Nat)), (25, .pointer (some ⟨b32, 0, none⟩)), (26, .int .i64 (x19.1 : Nat)), (27, .pointer (some ⟨b32, 1, none⟩)), (28, .agg #[.int .i64 (x19.2.1 : Nat), .slice B25 x19.2.2.length cp26])]) hF58 (fun u => by kernel_rfl) (by kernel_rfl) (by kernel_rfl) (sector_c (i := x19.1) hw5 (by omega) hS65 7 rfl) ?_
    rintro u w68 a66 ⟨rfl, hS69⟩ hF67
    clear hF58
    clear hS60 hS61 hS64 hS65
    have hS70 : Sat w68 (raw s (.cells #[.pointer (some ⟨st.plate, 0, none⟩), .int .i64 (st.at' : Nat), .int .i64 (st.copies : Nat), .slice A62 st.pages.length c63, .int .i64 st.life, .bool st.torn] 59 (0, 0)) :: rowA pageT 41 A62 c63 st.pages :: raw b2 (.cells #[.pointer (some ⟨s, 0, none⟩)] 28 (0, 0)) :: raw b3 (.cells #[.slice A l.length cap] 35 (0, 0)) :: slA leafT (.slice A l.length cap) l :: raw b32 (.cells #[.int .i64 (x19.1 : Nat), .int .i64 (x19.2.1 : Nat), .slice B25 x19.2.2.length cp26] 43 (0, 0)) :: immC b21 (off22 + k * 3) [.int .i64 (x19.1 : Nat), .int .i64 (x19.2.1 : Nat), .slice B25 x19.2.2.length cp26] :: slA slotT (.slice B25 x19.2.2.length cp26) x19.2.2 :: plateA st.plate plk :: L) := hS69
    refine ⟨(.cons (.cons (ob hS70 0 rfl rfl) .nil) .nil), ?_⟩
    refine wpD_next (i := 12) (pd' := []) (dn' := [0, 1, 2, 3, 4, 5, 7, 8, 9, 10, 6, 11, 12]) (by kernel_rfl) rfl (by kernel_rfl) ?_
    have hS71 : Sat w68 (plateA st.plate plk :: raw s (.cells #[.pointer (some ⟨st.plate, 0, none⟩), .int .i64 (st.at' : Nat), .int .i64 (st.copies : Nat), .slice A62 st.pages.length c63, .int .i64 st.life, .bool st.torn] 59 (0, 0)) :: rowA pageT 41 A62 c63 st.pages :: raw b2 (.cells #[.pointer (some ⟨s, 0, none⟩)] 28 (0, 0)) :: raw b3 (.cells #[.slice A l.length cap] 35 (0, 0)) :: slA leafT (.slice A l.length cap) l :: raw b32 (.cells #[.int .i64 (x19.1 : Nat), .int .i64 (x19.2.1 : Nat), .slice B25 x19.2.2.length cp26] 43 (0, 0)) :: immC b21 (off22 + k * 3) [.int .i64 (x19.1 : Nat), .int .i64 (x19.2.1 : Nat), .slice B25 x19.2.2.length cp26] :: slA slotT (.slice B25 x19.2.2.length cp26) x19.2.2 :: L) := (Sat_at hS70 8 rfl rfl)
    have hq2 : plk.queue.length < 1000000 := by rw [hI.que]; omega
    have hq3 : (((st.at' + st.copies + x19.1 : Nat) : Int)) < plk.count := by rw [hI.count]; exact hw4
    refine op_call (fn := 36) (first := #[]) (cap := #[]) (args := #[.pointer (some ⟨st.plate, 0, none⟩), .int .i64 (st.at' + st.copies + x19.1 : Nat), .string (LeafM.sec x19)]) (all := #[.pointer (some ⟨st.plate, 0, none⟩), .int .i64 (st.at' + st.copies + x19.1 : Nat), .string (LeafM.sec x19)]) (pe := fun u => [(30, u), (29, .string (LeafM.sec x19)), (24, .int .i64 (st.at' + st.copies + x19.1 : Nat)), (8, .pointer (some ⟨b32, 0, none⟩)), (16, .pointer (some ⟨b21, off22 + k * 3, none⟩)), (0, .pointer (some ⟨s, 0, none⟩)), (2, .func (.func 26) #[] #[.pointer (some ⟨b2, 0, none⟩), .pointer (some ⟨b3, 0, none⟩)]), (6, .int .i64 0), (11, .slice A l.length cap), (12, .int .i64 (l.length : Nat)), (13, .int .i64 (k : Nat)), (14, .bool true), (15, .int .i64 (k : Nat)), (17, .agg #[.int .i64 (x19.1 : Nat), .int .i64 (x19.2.1 : Nat), .slice B25 x19.2.2.length cp26]), (7, .int .i64 (k : Nat)), (18, .pointer (some ⟨s, 0, none⟩)), (19, .pointer (some ⟨s, 0, none⟩)), (20, .pointer (some ⟨s, 0, none⟩)), (21, .pointer (some ⟨st.plate, 0, none⟩)), (22, .func (.func 26) #[] #[.pointer (some ⟨b2, 0, none⟩), .pointer (some ⟨b3, 0, none⟩)]), (23, .int .i64 (k : Nat)), (25, .pointer (some ⟨b32, 0, none⟩)), (26, .int .i64 (x19.1 : Nat)), (27, .pointer (some ⟨b32, 1, none⟩)), (28, .agg #[.int .i64 (x19.2.1 : Nat), .slice B25 x19.2.2.length cp26])]) hF67 (fun u => by kernel_rfl) (by kernel_rfl) (by kernel_rfl) (write_c hI.held hI.down (by omega) hq3 (show (LeafM.sec x19).size = 256 from secL_len hw5) hw2 hw3 hq2 hS71) ?_
    rintro u w74 a72 (⟨rfl, pl2, hx, hS75⟩ | ⟨rfl, pl2, hx, hS75⟩) hF73
    ·
      clear hF67
      clear hS69 hS70 hS71
      have hS76 : Sat w74 (plateA st.plate pl2 :: raw s (.cells #[.pointer (some ⟨st.plate, 0, none⟩), .int .i64 (st.at' : Nat), .int .i64 (st.copies : Nat), .slice A62 st.pages.length c63, .int .i64 st.life, .bool st.torn] 59 (0, 0)) :: rowA pageT 41 A62 c63 st.pages :: raw b2 (.cells #[.pointer (some ⟨s, 0, none⟩)] 28 (0, 0)) :: raw b3 (.cells #[.slice A l.length cap] 35 (0, 0)) :: slA leafT (.slice A l.length cap) l :: raw b32 (.cells #[.int .i64 (x19.1 : Nat), .int .i64 (x19.2.1 : Nat), .slice B25 x19.2.2.length cp26] 43 (0, 0)) :: immC b21 (off22 + k * 3) [.int .i64 (x19.1 : Nat), .int .i64 (x19.2.1 : Nat), .slice B25 x19.2.2.length cp26] :: slA slotT (.slice B25 x19.2.2.length cp26) x19.2.2 :: L) := hS75
      refine ⟨.nil, ?_⟩
      refine batchD_spec (is := [13]) (dn := [0, 1, 2, 3, 4, 5, 7, 8, 9, 10, 6, 11, 12]) (dn' := [0, 1, 2, 3, 4, 5, 7, 8, 9, 10, 6, 11, 12, 13]) (live := [30, 29, 24, 8, 16, 0, 2, 6, 11, 12, 13, 14, 15, 17, 7, 18, 19, 20, 21, 22, 23, 25, 26, 27, 28, 9]) (e' := [(30, .int .i64 0), (29, .string (LeafM.sec x19)), (24, .int .i64 (st.at' + st.copies + x19.1 : Nat)), (8, .pointer (some ⟨b32, 0, none⟩)), (16, .pointer (some ⟨b21, off22 + k * 3, none⟩)), (0, .pointer (some ⟨s, 0, none⟩)), (2, .func (.func 26) #[] #[.pointer (some ⟨b2, 0, none⟩), .pointer (some ⟨b3, 0, none⟩)]), (6, .int .i64 0), (11, .slice A l.length cap), (12, .int .i64 (l.length : Nat)), (13, .int .i64 (k : Nat)), (14, .bool true), (15, .int .i64 (k : Nat)), (17, .agg #[.int .i64 (x19.1 : Nat), .int .i64 (x19.2.1 : Nat), .slice B25 x19.2.2.length cp26]), (7, .int .i64 (k : Nat)), (18, .pointer (some ⟨s, 0, none⟩)), (19, .pointer (some ⟨s, 0, none⟩)), (20, .pointer (some ⟨s, 0, none⟩)), (21, .pointer (some ⟨st.plate, 0, none⟩)), (22, .func (.func 26) #[] #[.pointer (some ⟨b2, 0, none⟩), .pointer (some ⟨b3, 0, none⟩)]), (23, .int .i64 (k : Nat)), (25, .pointer (some ⟨b32, 0, none⟩)), (26, .int .i64 (x19.1 : Nat)), (27, .pointer (some ⟨b32, 1, none⟩)), (28, .agg #[.int .i64 (x19.2.1 : Nat), .slice B25 x19.2.2.length cp26]), (9, .int .i64 0)]) (vs := []) (obs := []) (pd' := []) hF73 (by kernel_rfl) .nil rfl ?_
      intro a77 hF78
      clear hF73
      refine wpD_done (by kernel_rfl) ?_
      refine nrm_then ?_
      refine wp_seq ?_
      refine reg_text (l := [0, 1]) (by kernel_rfl) ?_
      refine batch_spec (is := [0, 1]) (rest := []) (live := [30, 29, 24, 8, 16, 0, 2, 6, 11, 12, 13, 14, 15, 17, 7, 18, 19, 20, 21, 22, 23, 25, 26, 27, 28, 9, 31, 32]) (e' := [(30, .int .i64 0), (29, .string (LeafM.sec x19)), (24, .int .i64 (st.at' + st.copies + x19.1 : Nat)), (8, .pointer (some ⟨b32, 0, none⟩)), (16, .pointer (some ⟨b21, off22 + k * 3, none⟩)), (0, .pointer (some ⟨s, 0, none⟩)), (2, .func (.func 26) #[] #[.pointer (some ⟨b2, 0, none⟩), .pointer (some ⟨b3, 0, none⟩)]), (6, .int .i64 0), (11, .slice A l.length cap), (12, .int .i64 (l.length : Nat)), (13, .int .i64 (k : Nat)), (14, .bool true), (15, .int .i64 (k : Nat)), (17, .agg #[.int .i64 (x19.1 : Nat), .int .i64 (x19.2.1 : Nat), .slice B25 x19.2.2.length cp26]), (7, .int .i64 (k : Nat)), (18, .pointer (some ⟨s, 0, none⟩)), (19, .pointer (some ⟨s, 0, none⟩)), (20, .pointer (some ⟨s, 0, none⟩)), (21, .pointer (some ⟨st.plate, 0, none⟩)), (22, .func (.func 26) #[] #[.pointer (some ⟨b2, 0, none⟩), .pointer (some ⟨b3, 0, none⟩)]), (23, .int .i64 (k : Nat)), (25, .pointer (some ⟨b32, 0, none⟩)), (26, .int .i64 (x19.1 : Nat)), (27, .pointer (some ⟨b32, 1, none⟩)), (28, .agg #[.int .i64 (x19.2.1 : Nat), .slice B25 x19.2.2.length cp26]), (9, .int .i64 0), (31, .int .i64 0), (32, .bool false)]) (vs := []) (obs := []) hF78 (by kernel_rfl) .nil ?_
      intro a79 hF80
      clear hF78
      refine ops_done ?_
      refine nrm_then ?_
      refine cond_no hF80 rfl ?_
      refine wp_skip ?_
      refine nrm_block ?_
      refine nrm_then ?_
      refine reg_text (l := [0, 1]) (by kernel_rfl) ?_
      refine batch_spec (is := [0]) (rest := [1]) (live := [30, 29, 24, 8, 16, 0, 2, 6, 11, 12, 13, 14, 15, 17, 7, 18, 19, 20, 21, 22, 23, 25, 26, 27, 28, 9, 31, 32, 37]) (e' := [(30, .int .i64 0), (29, .string (LeafM.sec x19)), (24, .int .i64 (st.at' + st.copies + x19.1 : Nat)), (8, .pointer (some ⟨b32, 0, none⟩)), (16, .pointer (some ⟨b21, off22 + k * 3, none⟩)), (0, .pointer (some ⟨s, 0, none⟩)), (2, .func (.func 26) #[] #[.pointer (some ⟨b2, 0, none⟩), .pointer (some ⟨b3, 0, none⟩)]), (6, .int .i64 0), (11, .slice A l.length cap), (12, .int .i64 (l.length : Nat)), (13, .int .i64 (k : Nat)), (14, .bool true), (15, .int .i64 (k : Nat)), (17, .agg #[.int .i64 (x19.1 : Nat), .int .i64 (x19.2.1 : Nat), .slice B25 x19.2.2.length cp26]), (7, .int .i64 (k : Nat)), (18, .pointer (some ⟨s, 0, none⟩)), (19, .pointer (some ⟨s, 0, none⟩)), (20, .pointer (some ⟨s, 0, none⟩)), (21, .pointer (some ⟨st.plate, 0, none⟩)), (22, .func (.func 26) #[] #[.pointer (some ⟨b2, 0, none⟩), .pointer (some ⟨b3, 0, none⟩)]), (23, .int .i64 (k : Nat)), (25, .pointer (some ⟨b32, 0, none⟩)), (26, .int .i64 (x19.1 : Nat)), (27, .pointer (some ⟨b32, 1, none⟩)), (28, .agg #[.int .i64 (x19.2.1 : Nat), .slice B25 x19.2.2.length cp26]), (9, .int .i64 0), (31, .int .i64 0), (32, .bool false), (37, .int .i64 (IntKind.i64.wrap (((k : Nat) : Int) + 1)))]) (vs := []) (obs := []) hF80 (by kernel_rfl) .nil ?_
      intro a81 hF82
      clear hF80
      have hw83 : IntKind.i64.wrap (((k : Nat) : Int) + 1) = ((k + 1 : Nat) : Int) := by rw [wrap_i64 (by omega) (by omega)]; omega
      rw [hw83] at hF82
      refine batch_spec (is := [1]) (rest := []) (live := [30, 29, 24, 8, 16, 0, 2, 6, 11, 12, 13, 14, 15, 17, 7, 18, 19, 20, 21, 22, 23, 25, 26, 27, 28, 9, 31, 32, 37]) (e' := [(30, .int .i64 0), (29, .string (LeafM.sec x19)), (24, .int .i64 (st.at' + st.copies + x19.1 : Nat)), (8, .pointer (some ⟨b32, 0, none⟩)), (16, .pointer (some ⟨b21, off22 + k * 3, none⟩)), (0, .pointer (some ⟨s, 0, none⟩)), (2, .func (.func 26) #[] #[.pointer (some ⟨b2, 0, none⟩), .pointer (some ⟨b3, 0, none⟩)]), (6, .int .i64 0), (11, .slice A l.length cap), (12, .int .i64 (l.length : Nat)), (13, .int .i64 (k + 1 : Nat)), (14, .bool true), (15, .int .i64 (k : Nat)), (17, .agg #[.int .i64 (x19.1 : Nat), .int .i64 (x19.2.1 : Nat), .slice B25 x19.2.2.length cp26]), (7, .int .i64 (k : Nat)), (18, .pointer (some ⟨s, 0, none⟩)), (19, .pointer (some ⟨s, 0, none⟩)), (20, .pointer (some ⟨s, 0, none⟩)), (21, .pointer (some ⟨st.plate, 0, none⟩)), (22, .func (.func 26) #[] #[.pointer (some ⟨b2, 0, none⟩), .pointer (some ⟨b3, 0, none⟩)]), (23, .int .i64 (k : Nat)), (25, .pointer (some ⟨b32, 0, none⟩)), (26, .int .i64 (x19.1 : Nat)), (27, .pointer (some ⟨b32, 1, none⟩)), (28, .agg #[.int .i64 (x19.2.1 : Nat), .slice B25 x19.2.2.length cp26]), (9, .int .i64 0), (31, .int .i64 0), (32, .bool false), (37, .int .i64 (k + 1 : Nat))]) (vs := []) (obs := []) hF82 (by kernel_rfl) .nil ?_
      intro a84 hF85
      clear hF82
      refine ops_done ?_
      have hS86 : Sat w74 (storeA s st :: plateA st.plate pl2 :: raw b2 (.cells #[.pointer (some ⟨s, 0, none⟩)] 28 (0, 0)) :: raw b3 (.cells #[.slice A l.length cap] 35 (0, 0)) :: slA leafT (.slice A l.length cap) l :: raw b32 (.cells #[.int .i64 (x19.1 : Nat), .int .i64 (x19.2.1 : Nat), .slice B25 x19.2.2.length cp26] 43 (0, 0)) :: immC b21 (off22 + k * 3) [.int .i64 (x19.1 : Nat), .int .i64 (x19.2.1 : Nat), .slice B25 x19.2.2.length cp26] :: slA slotT (.slice B25 x19.2.2.length cp26) x19.2.2 :: L) := store_in' (st := st) (by simp) (Sat_at (Sat_at hS76 2 rfl rfl) 2 rfl rfl)
      have hS87 : Sat w74 (raw b2 (.cells #[.pointer (some ⟨s, 0, none⟩)] 28 (0, 0)) :: raw b3 (.cells #[.slice A l.length cap] 35 (0, 0)) :: slA leafT (.slice A l.length cap) l :: storeA s st :: plateA st.plate pl2 :: raw b32 (.cells #[.int .i64 (x19.1 : Nat), .int .i64 (x19.2.1 : Nat), .slice B25 x19.2.2.length cp26] 43 (0, 0)) :: immC b21 (off22 + k * 3) [.int .i64 (x19.1 : Nat), .int .i64 (x19.2.1 : Nat), .slice B25 x19.2.2.length cp26] :: slA slotT (.slice B25 x19.2.2.length cp26) x19.2.2 :: L) := (Sat_at (Sat_at (Sat_at (Sat_at (Sat_at hS86 1 rfl rfl) 1 rfl rfl) 4 rfl rfl) 4 rfl rfl) 4 rfl rfl)
      refine nrm_then ⟨_, ?_, k + 1, pl2, rfl, (by omega), hI.next hw1 hx, (Fits.restr (r := [(0, .pointer (some ⟨s, 0, none⟩)), (2, .func (.func 26) #[] #[.pointer (some ⟨b2, 0, none⟩), .pointer (some ⟨b3, 0, none⟩)]), (6, .int .i64 0), (11, .slice A l.length cap), (12, .int .i64 (l.length : Nat)), (13, .int .i64 (k + 1 : Nat))]) hF85 (ks := [0, 2, 6, 11, 12, 13]) (by kernel_rfl)).cast (by rfl), (Sat_at (Sat_at (Sat_at hS87 7 rfl rfl).drop 6 rfl rfl).drop 5 rfl rfl).drop⟩
      omega
    ·
      clear hF67
      clear hS69 hS70 hS71
      have hS88 : Sat w74 (plateA st.plate pl2 :: raw s (.cells #[.pointer (some ⟨st.plate, 0, none⟩), .int .i64 (st.at' : Nat), .int .i64 (st.copies : Nat), .slice A62 st.pages.length c63, .int .i64 st.life, .bool st.torn] 59 (0, 0)) :: rowA pageT 41 A62 c63 st.pages :: raw b2 (.cells #[.pointer (some ⟨s, 0, none⟩)] 28 (0, 0)) :: raw b3 (.cells #[.slice A l.length cap] 35 (0, 0)) :: slA leafT (.slice A l.length cap) l :: raw b32 (.cells #[.int .i64 (x19.1 : Nat), .int .i64 (x19.2.1 : Nat), .slice B25 x19.2.2.length cp26] 43 (0, 0)) :: immC b21 (off22 + k * 3) [.int .i64 (x19.1 : Nat), .int .i64 (x19.2.1 : Nat), .slice B25 x19.2.2.length cp26] :: slA slotT (.slice B25 x19.2.2.length cp26) x19.2.2 :: L) := hS75
      refine ⟨.nil, ?_⟩
      refine batchD_spec (is := [13]) (dn := [0, 1, 2, 3, 4, 5, 7, 8, 9, 10, 6, 11, 12]) (dn' := [0, 1, 2, 3, 4, 5, 7, 8, 9, 10, 6, 11, 12, 13]) (live := [30, 29, 24, 8, 16, 0, 2, 6, 11, 12, 13, 14, 15, 17, 7, 18, 19, 20, 21, 22, 23, 25, 26, 27, 28, 9]) (e' := [(30, .int .i64 10), (29, .string (LeafM.sec x19)), (24, .int .i64 (st.at' + st.copies + x19.1 : Nat)), (8, .pointer (some ⟨b32, 0, none⟩)), (16, .pointer (some ⟨b21, off22 + k * 3, none⟩)), (0, .pointer (some ⟨s, 0, none⟩)), (2, .func (.func 26) #[] #[.pointer (some ⟨b2, 0, none⟩), .pointer (some ⟨b3, 0, none⟩)]), (6, .int .i64 0), (11, .slice A l.length cap), (12, .int .i64 (l.length : Nat)), (13, .int .i64 (k : Nat)), (14, .bool true), (15, .int .i64 (k : Nat)), (17, .agg #[.int .i64 (x19.1 : Nat), .int .i64 (x19.2.1 : Nat), .slice B25 x19.2.2.length cp26]), (7, .int .i64 (k : Nat)), (18, .pointer (some ⟨s, 0, none⟩)), (19, .pointer (some ⟨s, 0, none⟩)), (20, .pointer (some ⟨s, 0, none⟩)), (21, .pointer (some ⟨st.plate, 0, none⟩)), (22, .func (.func 26) #[] #[.pointer (some ⟨b2, 0, none⟩), .pointer (some ⟨b3, 0, none⟩)]), (23, .int .i64 (k : Nat)), (25, .pointer (some ⟨b32, 0, none⟩)), (26, .int .i64 (x19.1 : Nat)), (27, .pointer (some ⟨b32, 1, none⟩)), (28, .agg #[.int .i64 (x19.2.1 : Nat), .slice B25 x19.2.2.length cp26]), (9, .int .i64 10)]) (vs := []) (obs := []) (pd' := []) hF73 (by kernel_rfl) .nil rfl ?_
      intro a89 hF90
      clear hF73
      refine wpD_done (by kernel_rfl) ?_
      refine nrm_then ?_
      refine wp_seq ?_
      refine reg_text (l := [0, 1]) (by kernel_rfl) ?_
      refine batch_spec (is := [0, 1]) (rest := []) (live := [30, 29, 24, 8, 16, 0, 2, 6, 11, 12, 13, 14, 15, 17, 7, 18, 19, 20, 21, 22, 23, 25, 26, 27, 28, 9, 31, 32]) (e' := [(30, .int .i64 10), (29, .string (LeafM.sec x19)), (24, .int .i64 (st.at' + st.copies + x19.1 : Nat)), (8, .pointer (some ⟨b32, 0, none⟩)), (16, .pointer (some ⟨b21, off22 + k * 3, none⟩)), (0, .pointer (some ⟨s, 0, none⟩)), (2, .func (.func 26) #[] #[.pointer (some ⟨b2, 0, none⟩), .pointer (some ⟨b3, 0, none⟩)]), (6, .int .i64 0), (11, .slice A l.length cap), (12, .int .i64 (l.length : Nat)), (13, .int .i64 (k : Nat)), (14, .bool true), (15, .int .i64 (k : Nat)), (17, .agg #[.int .i64 (x19.1 : Nat), .int .i64 (x19.2.1 : Nat), .slice B25 x19.2.2.length cp26]), (7, .int .i64 (k : Nat)), (18, .pointer (some ⟨s, 0, none⟩)), (19, .pointer (some ⟨s, 0, none⟩)), (20, .pointer (some ⟨s, 0, none⟩)), (21, .pointer (some ⟨st.plate, 0, none⟩)), (22, .func (.func 26) #[] #[.pointer (some ⟨b2, 0, none⟩), .pointer (some ⟨b3, 0, none⟩)]), (23, .int .i64 (k : Nat)), (25, .pointer (some ⟨b32, 0, none⟩)), (26, .int .i64 (x19.1 : Nat)), (27, .pointer (some ⟨b32, 1, none⟩)), (28, .agg #[.int .i64 (x19.2.1 : Nat), .slice B25 x19.2.2.length cp26]), (9, .int .i64 10), (31, .int .i64 10), (32, .bool true)]) (vs := []) (obs := []) hF90 (by kernel_rfl) .nil ?_
      intro a91 hF92
      clear hF90
      refine ops_done ?_
      refine nrm_then ?_
      refine cond_yes hF92 rfl ?_
      refine wp_seq ?_
      refine reg_text (l := [0, 1, 2, 3]) (by kernel_rfl) ?_
      refine batch_spec (is := [0, 1, 2]) (rest := [3]) (live := [30, 29, 24, 8, 16, 0, 2, 6, 11, 12, 13, 14, 15, 17, 7, 18, 19, 20, 21, 22, 23, 25, 26, 27, 28, 9, 31, 32, 33, 34, 35]) (e' := [(30, .int .i64 10), (29, .string (LeafM.sec x19)), (24, .int .i64 (st.at' + st.copies + x19.1 : Nat)), (8, .pointer (some ⟨b32, 0, none⟩)), (16, .pointer (some ⟨b21, off22 + k * 3, none⟩)), (0, .pointer (some ⟨s, 0, none⟩)), (2, .func (.func 26) #[] #[.pointer (some ⟨b2, 0, none⟩), .pointer (some ⟨b3, 0, none⟩)]), (6, .int .i64 0), (11, .slice A l.length cap), (12, .int .i64 (l.length : Nat)), (13, .int .i64 (k : Nat)), (14, .bool true), (15, .int .i64 (k : Nat)), (17, .agg #[.int .i64 (x19.1 : Nat), .int .i64 (x19.2.1 : Nat), .slice B25 x19.2.2.length cp26]), (7, .int .i64 (k : Nat)), (18, .pointer (some ⟨s, 0, none⟩)), (19, .pointer (some ⟨s, 0, none⟩)), (20, .pointer (some ⟨s, 0, none⟩)), (21, .pointer (some ⟨st.plate, 0, none⟩)), (22, .func (.func 26) #[] #[.pointer (some ⟨b2, 0, none⟩), .pointer (some ⟨b3, 0, none⟩)]), (23, .int .i64 (k : Nat)), (25, .pointer (some ⟨b32, 0, none⟩)), (26, .int .i64 (x19.1 : Nat)), (27, .pointer (some ⟨b32, 1, none⟩)), (28, .agg #[.int .i64 (x19.2.1 : Nat), .slice B25 x19.2.2.length cp26]), (9, .int .i64 10), (31, .int .i64 10), (32, .bool true), (33, .pointer (some ⟨s, 0, none⟩)), (34, .pointer (some ⟨s, 0, none⟩)), (35, .pointer (some ⟨s, 5, none⟩))]) (vs := []) (obs := []) hF92 (by kernel_rfl) .nil ?_
      intro a93 hF94
      clear hF92
      refine ops_next ?_
      obtain ⟨w95, hr96, hS97⟩ := comes_store (P := Tryd.prog) (t' := 4) (b := s) (j := 5) (x := .bool true) (vs := [.bool true]) (c' := #[.pointer (some ⟨st.plate, 0, none⟩), .int .i64 (st.at' : Nat), .int .i64 (st.copies : Nat), .slice A62 st.pages.length c63, .int .i64 st.life, .bool true]) hS88 1 rfl rfl rfl (by kernel_rfl) rfl rfl rfl
      refine op_value (u := undef) (e' := [(30, .int .i64 10), (29, .string (LeafM.sec x19)), (24, .int .i64 (st.at' + st.copies + x19.1 : Nat)), (8, .pointer (some ⟨b32, 0, none⟩)), (16, .pointer (some ⟨b21, off22 + k * 3, none⟩)), (0, .pointer (some ⟨s, 0, none⟩)), (2, .func (.func 26) #[] #[.pointer (some ⟨b2, 0, none⟩), .pointer (some ⟨b3, 0, none⟩)]), (6, .int .i64 0), (11, .slice A l.length cap), (12, .int .i64 (l.length : Nat)), (13, .int .i64 (k : Nat)), (14, .bool true), (15, .int .i64 (k : Nat)), (17, .agg #[.int .i64 (x19.1 : Nat), .int .i64 (x19.2.1 : Nat), .slice B25 x19.2.2.length cp26]), (7, .int .i64 (k : Nat)), (18, .pointer (some ⟨s, 0, none⟩)), (19, .pointer (some ⟨s, 0, none⟩)), (20, .pointer (some ⟨s, 0, none⟩)), (21, .pointer (some ⟨st.plate, 0, none⟩)), (22, .func (.func 26) #[] #[.pointer (some ⟨b2, 0, none⟩), .pointer (some ⟨b3, 0, none⟩)]), (23, .int .i64 (k : Nat)), (25, .pointer (some ⟨b32, 0, none⟩)), (26, .int .i64 (x19.1 : Nat)), (27, .pointer (some ⟨b32, 1, none⟩)), (28, .agg #[.int .i64 (x19.2.1 : Nat), .slice B25 x19.2.2.length cp26]), (9, .int .i64 10), (31, .int .i64 10), (32, .bool true), (33, .pointer (some ⟨s, 0, none⟩)), (34, .pointer (some ⟨s, 0, none⟩)), (35, .pointer (some ⟨s, 5, none⟩))]) hF94 (by kernel_rfl) hr96 ?_
      intro a98 hF99
      clear hF94 hr96
      clear hS75 hS88
      have hS100 : Sat w95 (raw s (.cells #[.pointer (some ⟨st.plate, 0, none⟩), .int .i64 (st.at' : Nat), .int .i64 (st.copies : Nat), .slice A62 st.pages.length c63, .int .i64 st.life, .bool true] 59 (0, 0)) :: plateA st.plate pl2 :: rowA pageT 41 A62 c63 st.pages :: raw b2 (.cells #[.pointer (some ⟨s, 0, none⟩)] 28 (0, 0)) :: raw b3 (.cells #[.slice A l.length cap] 35 (0, 0)) :: slA leafT (.slice A l.length cap) l :: raw b32 (.cells #[.int .i64 (x19.1 : Nat), .int .i64 (x19.2.1 : Nat), .slice B25 x19.2.2.length cp26] 43 (0, 0)) :: immC b21 (off22 + k * 3) [.int .i64 (x19.1 : Nat), .int .i64 (x19.2.1 : Nat), .slice B25 x19.2.2.length cp26] :: slA slotT (.slice B25 x19.2.2.length cp26) x19.2.2 :: L) := hS97
      refine ops_done ?_
      refine nrm_then ?_
      refine wp_seq ?_
      refine reg_text (l := [0, 1]) (by kernel_rfl) ?_
      refine batch_spec (is := [0, 1]) (rest := []) (live := [30, 29, 24, 8, 16, 0, 2, 6, 11, 12, 13, 14, 15, 17, 7, 18, 19, 20, 21, 22, 23, 25, 26, 27, 28, 9, 31, 32, 33, 34, 35, 36]) (e' := [(30, .int .i64 10), (29, .string (LeafM.sec x19)), (24, .int .i64 (st.at' + st.copies + x19.1 : Nat)), (8, .pointer (some ⟨b32, 0, none⟩)), (16, .pointer (some ⟨b21, off22 + k * 3, none⟩)), (0, .pointer (some ⟨s, 0, none⟩)), (2, .func (.func 26) #[] #[.pointer (some ⟨b2, 0, none⟩), .pointer (some ⟨b3, 0, none⟩)]), (6, .int .i64 10), (11, .slice A l.length cap), (12, .int .i64 (l.length : Nat)), (13, .int .i64 (k : Nat)), (14, .bool true), (15, .int .i64 (k : Nat)), (17, .agg #[.int .i64 (x19.1 : Nat), .int .i64 (x19.2.1 : Nat), .slice B25 x19.2.2.length cp26]), (7, .int .i64 (k : Nat)), (18, .pointer (some ⟨s, 0, none⟩)), (19, .pointer (some ⟨s, 0, none⟩)), (20, .pointer (some ⟨s, 0, none⟩)), (21, .pointer (some ⟨st.plate, 0, none⟩)), (22, .func (.func 26) #[] #[.pointer (some ⟨b2, 0, none⟩), .pointer (some ⟨b3, 0, none⟩)]), (23, .int .i64 (k : Nat)), (25, .pointer (some ⟨b32, 0, none⟩)), (26, .int .i64 (x19.1 : Nat)), (27, .pointer (some ⟨b32, 1, none⟩)), (28, .agg #[.int .i64 (x19.2.1 : Nat), .slice B25 x19.2.2.length cp26]), (9, .int .i64 10), (31, .int .i64 10), (32, .bool true), (33, .pointer (some ⟨s, 0, none⟩)), (34, .pointer (some ⟨s, 0, none⟩)), (35, .pointer (some ⟨s, 5, none⟩)), (36, .int .i64 10)]) (vs := []) (obs := []) hF99 (by kernel_rfl) .nil ?_
      intro a101 hF102
      clear hF99
      refine ops_done ?_
      refine nrm_then ?_
      refine wp_ret ?_
      refine ret_block ?_
      refine ret_then ?_
      refine ret_then ?_
      refine ret_block ?_
      refine ret_then ?_
      refine finish (v := .int .i64 10) (vs := []) (obs := []) hF102 (by kernel_rfl) .nil ?_
      have hS103 : Sat w95 (storeA s ⟨st.plate, st.at', st.copies, st.pages, st.life, true⟩ :: plateA st.plate pl2 :: raw b2 (.cells #[.pointer (some ⟨s, 0, none⟩)] 28 (0, 0)) :: raw b3 (.cells #[.slice A l.length cap] 35 (0, 0)) :: slA leafT (.slice A l.length cap) l :: raw b32 (.cells #[.int .i64 (x19.1 : Nat), .int .i64 (x19.2.1 : Nat), .slice B25 x19.2.2.length cp26] 43 (0, 0)) :: immC b21 (off22 + k * 3) [.int .i64 (x19.1 : Nat), .int .i64 (x19.2.1 : Nat), .slice B25 x19.2.2.length cp26] :: slA slotT (.slice B25 x19.2.2.length cp26) x19.2.2 :: L) := store_in' (st := ⟨st.plate, st.at', st.copies, st.pages, st.life, true⟩) (by simp) (Sat_at (Sat_at hS100 2 rfl rfl) 1 rfl rfl)
      have hS104 : Sat w95 (raw b2 (.cells #[.pointer (some ⟨s, 0, none⟩)] 28 (0, 0)) :: raw b3 (.cells #[.slice A l.length cap] 35 (0, 0)) :: slA leafT (.slice A l.length cap) l :: storeA s ⟨st.plate, st.at', st.copies, st.pages, st.life, true⟩ :: plateA st.plate pl2 :: raw b32 (.cells #[.int .i64 (x19.1 : Nat), .int .i64 (x19.2.1 : Nat), .slice B25 x19.2.2.length cp26] 43 (0, 0)) :: immC b21 (off22 + k * 3) [.int .i64 (x19.1 : Nat), .int .i64 (x19.2.1 : Nat), .slice B25 x19.2.2.length cp26] :: slA slotT (.slice B25 x19.2.2.length cp26) x19.2.2 :: L) := (Sat_at (Sat_at (Sat_at (Sat_at (Sat_at hS103 1 rfl rfl) 1 rfl rfl) 4 rfl rfl) 4 rfl rfl) 4 rfl rfl)
      exact .inr ⟨rfl, pl2, hI.noWrite (by omega) hx, (Sat_at (Sat_at (Sat_at hS104 7 rfl rfl).drop 6 rfl rfl).drop 5 rfl rfl).drop⟩
  ·
    have hb105 : (decide (((k : Nat) : Int) < ((l.length : Nat) : Int))) = false := decide_eq_false h15
    rw [hb105] at hF14
    refine cond_no hF14 rfl ?_
    refine wp_exit ?_
    refine exit_then ?_
    refine exit_then ?_
    refine exit_block ?_
    refine nrm_then ?_
    refine wp_seq ?_
    refine reg_text (l := [0, 1, 2, 3, 4, 5]) (by kernel_rfl) ?_
    obtain ⟨A106, c107, hS108⟩ := store_out (Sat_at hS12 3 rfl rfl)
    have hS109 : Sat w10 (raw s (.cells #[.pointer (some ⟨st.plate, 0, none⟩), .int .i64 (st.at' : Nat), .int .i64 (st.copies : Nat), .slice A106 st.pages.length c107, .int .i64 st.life, .bool st.torn] 59 (0, 0)) :: rowA pageT 41 A106 c107 st.pages :: raw b2 (.cells #[.pointer (some ⟨s, 0, none⟩)] 28 (0, 0)) :: raw b3 (.cells #[.slice A l.length cap] 35 (0, 0)) :: slA leafT (.slice A l.length cap) l :: plateA st.plate plk :: L) := hS108
    refine batch_spec (is := [0, 1, 2, 3]) (rest := [4, 5]) (live := [0, 6, 41]) (e' := [(0, .pointer (some ⟨s, 0, none⟩)), (6, .int .i64 0), (41, .pointer (some ⟨st.plate, 0, none⟩))]) (vs := [.pointer (some ⟨st.plate, 0, none⟩)]) (obs := [(⟨s, 0, none⟩, .pointer (some ⟨st.plate, 0, none⟩))]) hF14 (by kernel_rfl) (.cons (ob hS109 0 rfl rfl) .nil) ?_
    intro a110 hF111
    clear hF14
    refine ops_next ?_
    have hS112 : Sat w10 (plateA st.plate plk :: raw s (.cells #[.pointer (some ⟨st.plate, 0, none⟩), .int .i64 (st.at' : Nat), .int .i64 (st.copies : Nat), .slice A106 st.pages.length c107, .int .i64 st.life, .bool st.torn] 59 (0, 0)) :: rowA pageT 41 A106 c107 st.pages :: raw b2 (.cells #[.pointer (some ⟨s, 0, none⟩)] 28 (0, 0)) :: raw b3 (.cells #[.slice A l.length cap] 35 (0, 0)) :: slA leafT (.slice A l.length cap) l :: L) := (Sat_at hS109 5 rfl rfl)
    refine op_call (fn := 21) (first := #[]) (cap := #[]) (args := #[.pointer (some ⟨st.plate, 0, none⟩)]) (all := #[.pointer (some ⟨st.plate, 0, none⟩)]) (pe := fun u => [(42, u), (0, .pointer (some ⟨s, 0, none⟩)), (6, .int .i64 0), (41, .pointer (some ⟨st.plate, 0, none⟩))]) hF111 (fun u => by kernel_rfl) (by kernel_rfl) (by kernel_rfl) (sync_c hI.held hI.down (by rw [hI.count]; omega) (by rw [hI.que]; omega) hS112) ?_
    rintro u w115 a113 (⟨rfl, pl2, hx, hS116⟩ | ⟨rfl, pl2, hx, hS116⟩) hF114
    ·
      clear hF111
      clear hS12 hS108 hS109 hS112
      have hS117 : Sat w115 (plateA st.plate pl2 :: raw s (.cells #[.pointer (some ⟨st.plate, 0, none⟩), .int .i64 (st.at' : Nat), .int .i64 (st.copies : Nat), .slice A106 st.pages.length c107, .int .i64 st.life, .bool st.torn] 59 (0, 0)) :: rowA pageT 41 A106 c107 st.pages :: raw b2 (.cells #[.pointer (some ⟨s, 0, none⟩)] 28 (0, 0)) :: raw b3 (.cells #[.slice A l.length cap] 35 (0, 0)) :: slA leafT (.slice A l.length cap) l :: L) := hS116
      refine batch_spec (is := [5]) (rest := []) (live := [0, 6, 10]) (e' := [(0, .pointer (some ⟨s, 0, none⟩)), (6, .int .i64 0), (10, .int .i64 0)]) (vs := []) (obs := []) hF114 (by kernel_rfl) .nil ?_
      intro a118 hF119
      clear hF114
      refine ops_done ?_
      refine nrm_then ?_
      refine wp_seq ?_
      refine reg_text (l := [0, 1, 2, 3, 4, 5]) (by kernel_rfl) ?_
      refine batch_spec (is := [0, 1, 2, 3, 4]) (rest := [5]) (live := [6, 10, 45, 47]) (e' := [(6, .int .i64 0), (10, .int .i64 0), (45, .bool false), (47, .pointer (some ⟨s, 5, none⟩))]) (vs := []) (obs := []) hF119 (by kernel_rfl) .nil ?_
      intro a120 hF121
      clear hF119
      refine ops_next ?_
      obtain ⟨w122, hr123, hS124⟩ := comes_store (P := Tryd.prog) (t' := 4) (b := s) (j := 5) (x := .bool false) (vs := [.bool false]) (c' := #[.pointer (some ⟨st.plate, 0, none⟩), .int .i64 (st.at' : Nat), .int .i64 (st.copies : Nat), .slice A106 st.pages.length c107, .int .i64 st.life, .bool false]) hS117 1 rfl rfl rfl (by kernel_rfl) rfl rfl rfl
      refine op_value (u := undef) (e' := [(6, .int .i64 0), (10, .int .i64 0), (45, .bool false), (47, .pointer (some ⟨s, 5, none⟩))]) hF121 (by kernel_rfl) hr123 ?_
      intro a125 hF126
      clear hF121 hr123
      clear hS116 hS117
      have hS127 : Sat w122 (raw s (.cells #[.pointer (some ⟨st.plate, 0, none⟩), .int .i64 (st.at' : Nat), .int .i64 (st.copies : Nat), .slice A106 st.pages.length c107, .int .i64 st.life, .bool false] 59 (0, 0)) :: plateA st.plate pl2 :: rowA pageT 41 A106 c107 st.pages :: raw b2 (.cells #[.pointer (some ⟨s, 0, none⟩)] 28 (0, 0)) :: raw b3 (.cells #[.slice A l.length cap] 35 (0, 0)) :: slA leafT (.slice A l.length cap) l :: L) := hS124
      refine ops_done ?_
      refine nrm_then ?_
      refine wp_seq ?_
      refine reg_text (l := [0, 1]) (by kernel_rfl) ?_
      refine batch_spec (is := [0, 1]) (rest := []) (live := [6]) (e' := [(6, .int .i64 0)]) (vs := []) (obs := []) hF126 (by kernel_rfl) .nil ?_
      intro a128 hF129
      clear hF126
      refine ops_done ?_
      refine nrm_then ?_
      refine wp_ret ?_
      refine finish (v := .int .i64 0) (vs := []) (obs := []) hF129 (by kernel_rfl) .nil ?_
      have hS130 : Sat w122 (storeA s ⟨st.plate, st.at', st.copies, st.pages, st.life, false⟩ :: plateA st.plate pl2 :: raw b2 (.cells #[.pointer (some ⟨s, 0, none⟩)] 28 (0, 0)) :: raw b3 (.cells #[.slice A l.length cap] 35 (0, 0)) :: slA leafT (.slice A l.length cap) l :: L) := store_in' (st := ⟨st.plate, st.at', st.copies, st.pages, st.life, false⟩) (by simp) (Sat_at (Sat_at hS127 2 rfl rfl) 1 rfl rfl)
      have hS131 : Sat w122 (raw b2 (.cells #[.pointer (some ⟨s, 0, none⟩)] 28 (0, 0)) :: raw b3 (.cells #[.slice A l.length cap] 35 (0, 0)) :: slA leafT (.slice A l.length cap) l :: storeA s ⟨st.plate, st.at', st.copies, st.pages, st.life, false⟩ :: plateA st.plate pl2 :: L) := (Sat_at (Sat_at (Sat_at (Sat_at (Sat_at hS130 1 rfl rfl) 1 rfl rfl) 4 rfl rfl) 4 rfl rfl) 4 rfl rfl)
      exact .inl ⟨rfl, pl2, hI.done h15 hwl hx hkl, hS131⟩
    ·
      clear hF111
      clear hS12 hS108 hS109 hS112
      have hS132 : Sat w115 (plateA st.plate pl2 :: raw s (.cells #[.pointer (some ⟨st.plate, 0, none⟩), .int .i64 (st.at' : Nat), .int .i64 (st.copies : Nat), .slice A106 st.pages.length c107, .int .i64 st.life, .bool st.torn] 59 (0, 0)) :: rowA pageT 41 A106 c107 st.pages :: raw b2 (.cells #[.pointer (some ⟨s, 0, none⟩)] 28 (0, 0)) :: raw b3 (.cells #[.slice A l.length cap] 35 (0, 0)) :: slA leafT (.slice A l.length cap) l :: L) := hS116
      refine batch_spec (is := [5]) (rest := []) (live := [0, 6, 10]) (e' := [(0, .pointer (some ⟨s, 0, none⟩)), (6, .int .i64 0), (10, .int .i64 10)]) (vs := []) (obs := []) hF114 (by kernel_rfl) .nil ?_
      intro a133 hF134
      clear hF114
      refine ops_done ?_
      refine nrm_then ?_
      refine wp_seq ?_
      refine reg_text (l := [0, 1, 2, 3, 4, 5]) (by kernel_rfl) ?_
      refine batch_spec (is := [0, 1, 2, 3, 4]) (rest := [5]) (live := [6, 10, 45, 47]) (e' := [(6, .int .i64 0), (10, .int .i64 10), (45, .bool true), (47, .pointer (some ⟨s, 5, none⟩))]) (vs := []) (obs := []) hF134 (by kernel_rfl) .nil ?_
      intro a135 hF136
      clear hF134
      refine ops_next ?_
      obtain ⟨w137, hr138, hS139⟩ := comes_store (P := Tryd.prog) (t' := 4) (b := s) (j := 5) (x := .bool true) (vs := [.bool true]) (c' := #[.pointer (some ⟨st.plate, 0, none⟩), .int .i64 (st.at' : Nat), .int .i64 (st.copies : Nat), .slice A106 st.pages.length c107, .int .i64 st.life, .bool true]) hS132 1 rfl rfl rfl (by kernel_rfl) rfl rfl rfl
      refine op_value (u := undef) (e' := [(6, .int .i64 0), (10, .int .i64 10), (45, .bool true), (47, .pointer (some ⟨s, 5, none⟩))]) hF136 (by kernel_rfl) hr138 ?_
      intro a140 hF141
      clear hF136 hr138
      clear hS116 hS132
      have hS142 : Sat w137 (raw s (.cells #[.pointer (some ⟨st.plate, 0, none⟩), .int .i64 (st.at' : Nat), .int .i64 (st.copies : Nat), .slice A106 st.pages.length c107, .int .i64 st.life, .bool true] 59 (0, 0)) :: plateA st.plate pl2 :: rowA pageT 41 A106 c107 st.pages :: raw b2 (.cells #[.pointer (some ⟨s, 0, none⟩)] 28 (0, 0)) :: raw b3 (.cells #[.slice A l.length cap] 35 (0, 0)) :: slA leafT (.slice A l.length cap) l :: L) := hS139
      refine ops_done ?_
      refine nrm_then ?_
      refine wp_seq ?_
      refine reg_text (l := [0, 1]) (by kernel_rfl) ?_
      refine batch_spec (is := [0, 1]) (rest := []) (live := [6]) (e' := [(6, .int .i64 10)]) (vs := []) (obs := []) hF141 (by kernel_rfl) .nil ?_
      intro a143 hF144
      clear hF141
      refine ops_done ?_
      refine nrm_then ?_
      refine wp_ret ?_
      refine finish (v := .int .i64 10) (vs := []) (obs := []) hF144 (by kernel_rfl) .nil ?_
      have hS145 : Sat w137 (storeA s ⟨st.plate, st.at', st.copies, st.pages, st.life, true⟩ :: plateA st.plate pl2 :: raw b2 (.cells #[.pointer (some ⟨s, 0, none⟩)] 28 (0, 0)) :: raw b3 (.cells #[.slice A l.length cap] 35 (0, 0)) :: slA leafT (.slice A l.length cap) l :: L) := store_in' (st := ⟨st.plate, st.at', st.copies, st.pages, st.life, true⟩) (by simp) (Sat_at (Sat_at hS142 2 rfl rfl) 1 rfl rfl)
      have hS146 : Sat w137 (raw b2 (.cells #[.pointer (some ⟨s, 0, none⟩)] 28 (0, 0)) :: raw b3 (.cells #[.slice A l.length cap] 35 (0, 0)) :: slA leafT (.slice A l.length cap) l :: storeA s ⟨st.plate, st.at', st.copies, st.pages, st.life, true⟩ :: plateA st.plate pl2 :: L) := (Sat_at (Sat_at (Sat_at (Sat_at (Sat_at hS145 1 rfl rfl) 1 rfl rfl) 4 rfl rfl) 4 rfl rfl) 4 rfl rfl)
      exact .inr ⟨rfl, pl2, hI.noSync (by omega) hx, hS146⟩
end
end Sl
end Go.Proofs.YtkmlppeligdbaaaDoor

/- The device of sectors: what each of its methods does. Conditions: none. -/
import Derived.Test.YtkmlppeligdbaaaDoorRows
import Derived.Test.YtkmlppeligdbaaaDoorMapL
import Derived.Test.YtkmlppeligdbaaaDoorData
import Derived.StillTailTactics
import Derived.Deep.QuietTactic
import Derived.BigQuiet
import Derived.Lib.Hide
namespace Go.Proofs.YtkmlppeligdbaaaDoor
namespace Pl
open Go.RowKit SepW
set_option linter.unusedVariables false
set_option linter.unusedSimpArgs false
set_option linter.unusedSectionVars false

structure PlateM where
  count : Int
  sec : List (Int × ByteArray)
  queue : List (Int × ByteArray)
  down : Bool
  acts : Int
  armed : Int
  life : Int

/-- a write that waits -/
def wrT : Ty (Int × ByteArray) := ⟨2, by decide, fun _ x cs => cs = [.int .i64 x.1, .string x.2], fun _ h => h, fun h => by cases h; rfl, fun h => by cases h; simp [Value.oneCell']⟩

abbrev plObj (pl : PlateM) (m : Nat) (A : Option Addr) (c : Nat) : Obj := .cells #[.int .i64 pl.count, .map (some m), .slice A pl.queue.length c, .bool pl.down, .int .i64 pl.acts, .int .i64 pl.armed, .int .i64 pl.life] 57 (0, 0)
abbrev secA := mapA intKey Value.string
def plateA (p : Nat) (pl : PlateM) : Atom := ex fun x : Nat × Option Addr × Nat => all [raw p (plObj pl x.1 x.2.1 x.2.2), secA x.1 pl.sec, rowA wrT 71 x.2.1 x.2.2 pl.queue]
section
variable {w : World} {L : List Atom} {p : Nat} {pl : PlateM}
theorem plate_out (h : Sat w (plateA p pl :: L)) : ∃ m A c, Sat w (raw p (plObj pl m A c) :: secA m pl.sec :: rowA wrT 71 A c pl.queue :: L) := by
  obtain ⟨⟨m, A, c⟩, h⟩ := h.ex_out
  exact ⟨m, A, c, h.all_out⟩
theorem plate_in {m : Nat} {A : Option Addr} {c : Nat} (h : Sat w (raw p (plObj pl m A c) :: secA m pl.sec :: rowA wrT 71 A c pl.queue :: L)) : Sat w (plateA p pl :: L) :=
  Sat.ex_in (m, A, c) (Sat.all_in (M := [_, _, _]) h)

def PlateM.ready (pl : PlateM) (n : Int) : Int := if pl.down then 10 else if n < 0 ∨ pl.count ≤ n then 1 else 0
set_option maxHeartbeats 400000 in
theorem ready_ct (n : Int) (hS : Sat w (plateA p pl :: L)) : Calls Tryd.prog 30 #[.pointer (some ⟨p, 0, none⟩), .int .i64 n] w fun e w' => e = .returned (.int .i64 (pl.ready n)) ∧ w = w' := by
  obtain ⟨m, A, c, hR⟩ := plate_out hS
  obtain ⟨c0, c1, c2, c3, c4, c5, c6, fz⟩ := cells7 hR.raw_block
  unfold PlateM.ready
  by_cases hd : pl.down = true
  · rw [hd] at c3
    go_enter Tryd.func30, Tryd.ntmps30
    go_wp2
    go_ret
    exact ⟨by simp [hd], rfl⟩
  · have hd' : pl.down = false := by simpa using hd
    rw [hd'] at c3
    by_cases h1 : n < 0 <;> by_cases h2 : pl.count ≤ n
    all_goals
      go_enter Tryd.func30, Tryd.ntmps30
      go_wp2
      go_ret
      exact ⟨by simp [hd', h1, h2], rfl⟩

def PlateM.off (pl : PlateM) : PlateM := if pl.down then pl else { pl with down := true, armed := 0, life := wrap64 (pl.life + 1) }
set_option maxHeartbeats 400000 in
theorem off_ct (hS : Sat w (plateA p pl :: L)) : Calls Tryd.prog 11 #[.pointer (some ⟨p, 0, none⟩)] w fun e w' => e = .returned (.tuple #[]) ∧ Sat w' (plateA p pl.off :: L) := by
  obtain ⟨m, A, c, hR⟩ := plate_out hS
  obtain ⟨c0, c1, c2, c3, c4, c5, c6, fz⟩ := cells7 hR.raw_block
  by_cases hd : pl.down = true
  · rw [hd] at c3
    go_enter Tryd.func11, Tryd.ntmps11
    go_wp2
    go_end0
    exact ⟨rfl, by rw [PlateM.off, if_pos hd]; exact hS⟩
  · have hd' : pl.down = false := by simpa using hd
    rw [hd'] at c3
    go_enter Tryd.func11, Tryd.ntmps11
    go_wp2
    go_end0
    exact ⟨rfl, by rw [PlateM.off, if_neg hd]; exact plate_in (((hR.setCell _).setCell _).setCell _)⟩

def PlateM.act (pl : PlateM) : PlateM × Int :=
  if 0 < pl.armed then
    if wrap64 (pl.armed - 1) = 0 then (PlateM.off { pl with acts := wrap64 (pl.acts + 1), armed := 0 }, 10) else ({ pl with acts := wrap64 (pl.acts + 1), armed := wrap64 (pl.armed - 1) }, 0)
  else ({ pl with acts := wrap64 (pl.acts + 1) }, 0)
set_option maxHeartbeats 400000 in
theorem act_ct (hS : Sat w (plateA p pl :: L)) : Calls Tryd.prog 38 #[.pointer (some ⟨p, 0, none⟩)] w fun e w' => e = .returned (.int .i64 pl.act.2) ∧ Sat w' (plateA p pl.act.1 :: L) := by
  obtain ⟨m, A, c, hR⟩ := plate_out hS
  obtain ⟨c0, c1, c2, c3, c4, c5, c6, fz⟩ := cells7 hR.raw_block
  by_cases ha : 0 < pl.armed
  · by_cases hz : wrap64 (pl.armed - 1) = 0
    · have hS1 : Sat _ (plateA p { pl with acts := wrap64 (pl.acts + 1), armed := 0 } :: L) := plate_in ((hR.setCell (k := 4) (.int .i64 (wrap64 (pl.acts + 1)))).setCell (k := 5) (.int .i64 0))
      rw [show pl.act = _ from by rw [PlateM.act, if_pos ha, if_pos hz]]
      go_enter Tryd.func38, Tryd.ntmps38
      go_wp2_with (go_at_call 11; refine (off_ct hS1).mono ?_; rintro e w1 ⟨rfl, hS2⟩)
      go_ret
      exact ⟨rfl, hS2⟩
    · rw [show pl.act = _ from by rw [PlateM.act, if_pos ha, if_neg hz]]
      go_enter Tryd.func38, Tryd.ntmps38
      go_wp2
      go_ret
      exact ⟨rfl, plate_in ((hR.setCell _).setCell _)⟩
  · rw [show pl.act = _ from by rw [PlateM.act, if_neg ha]]
    go_enter Tryd.func38, Tryd.ntmps38
    go_wp2
    go_ret
    exact ⟨rfl, plate_in (hR.setCell _)⟩

theorem info71 : (Tryd.prog.info? 71).map (fun i => (i.zero, i.size, i.bytes)) = some (some (.agg #[.int .i64 0, .string ⟨#[]⟩]), 2, 24) := by kernel_rfl
def PlateM.write (pl : PlateM) (n : Int) (s : ByteArray) : PlateM × Int :=
  if pl.ready n ≠ 0 then (pl, pl.ready n) else if s.size ≠ 256 then (pl, 1) else PlateM.act { pl with queue := pl.queue ++ [(n, s)] }
set_option maxRecDepth 100000 in
set_option maxHeartbeats 800000 in
theorem write_ct (n : Int) (s : ByteArray) (hlen : pl.queue.length < 1000000) (hS : Sat w (plateA p pl :: L)) :
    Calls Tryd.prog 36 #[.pointer (some ⟨p, 0, none⟩), .int .i64 n, .string s] w fun e w' => e = .returned (.int .i64 (pl.write n s).2) ∧ Sat w' (plateA p (pl.write n s).1 :: L) := by
  by_cases hr : pl.ready n = 0
  · have hct0 := ready_ct n hS
    rw [hr] at hct0
    have hct := Lib.hid hct0
    clear hct0
    by_cases hs : s.size = 256
    · rw [show pl.write n s = _ from by rw [PlateM.write, if_neg (by simpa using hr), if_neg (by simpa using hs)]]
      obtain ⟨i0, hi, hz0, hz1, hz2⟩ := info_parts info71
      obtain ⟨m, A, c, hR⟩ := plate_out hS
      have hA := (hR.alloc (.cells #[.int .i64 n, .string s] 71))
      have hc := hA.raw_block
      obtain ⟨A1, cap1, w1, hrun, hS1⟩ := run_append_row (T := wrT) (P := Tryd.prog) (t' := 55) (ty := 55) (xs := [(n, s)]) (news := [.int .i64 n, .string s]) (a := ⟨w.heap.size, 0, none⟩) (c := 1) Tryd.underlying55 hi hz0 hz1 rfl
        (by intro j u hj; match j, hj with
              | 0, hj => simp at hj; subst hj; exact cell_blk hc
              | 1, hj => simp at hj; subst hj; exact cell_blk hc) (by unfold maxLen; simp; omega) (by rw [hz2]; simp; omega)
        (hA.drop.f2.cells_free (fun g => Cells.single rfl)).swap
      simp only [List.length_cons, List.length_nil, Nat.zero_add] at hrun
      have HA := Lib.hid hrun
      clear hrun
      have hR1 := hS1.f1
      obtain ⟨c0, c1, c2, c3, c4, c5, c6, fz⟩ := cells7 hR.raw_block
      obtain ⟨d0, d1, d2, d3, d4, d5, d6, gz⟩ := cells7 hR1.raw_block
      have hS2 : Sat (w1.setCell ⟨p, 2, none⟩ (.slice A1 (pl.queue.length + 1) cap1)) (plateA p { pl with queue := pl.queue ++ [(n, s)] } :: L) := by
        refine plate_in (m := m) (A := A1) (c := cap1) ?_
        rw [show plObj { pl with queue := pl.queue ++ [(n, s)] } m A1 cap1 = .cells #[.int .i64 pl.count, .map (some m), .slice A1 (pl.queue.length + 1) cap1, .bool pl.down, .int .i64 pl.acts, .int .i64 pl.armed, .int .i64 pl.life] 57 (0, 0) by simp [plObj]]
        exact (hR1.setCell (k := 2) _).f2.f1
      clear hi hz0 hz1 hz2 hc hr hlen
      go_enter Tryd.func36, Tryd.ntmps36
      go_wp2_with (first | (go_at_call 30; refine hct.out.mono ?_; rintro e w' ⟨rfl, rfl⟩) | (at_builtin; refine wpList_append_run rfl _ _ _ rfl rfl rfl HA ?_) | (go_at_call 38; refine (act_ct hS2).mono ?_; rintro e w' ⟨rfl, hS3⟩))
      go_ret
      exact ⟨rfl, hS3⟩
    · rw [show pl.write n s = _ from by rw [PlateM.write, if_neg (by simpa using hr), if_pos hs]]
      go_enter Tryd.func36, Tryd.ntmps36
      go_wp2_with (go_at_call 30; refine hct.out.mono ?_; rintro e w' ⟨rfl, rfl⟩)
      go_ret
      exact ⟨rfl, hS⟩
  · have hct := Lib.hid (ready_ct n hS)
    rw [show pl.write n s = _ from by rw [PlateM.write, if_pos hr]]
    go_enter Tryd.func36, Tryd.ntmps36
    go_wp2_with (go_at_call 30; refine hct.out.mono ?_; rintro e w' ⟨rfl, rfl⟩)
    go_ret
    exact ⟨rfl, hS⟩

theorem off_queue (pl : PlateM) : pl.off.queue = pl.queue := by unfold PlateM.off; split <;> rfl
theorem act_queue (pl : PlateM) : pl.act.1.queue = pl.queue := by
  by_cases h1 : 0 < pl.armed <;> by_cases h2 : wrap64 (pl.armed - 1) = 0 <;> simp [PlateM.act, h1, h2, off_queue]
def flushed (sec : List (Int × ByteArray)) (q : List (Int × ByteArray)) : List (Int × ByteArray) := q.foldl (fun s x => aset s x.1 x.2) sec
theorem flushed_snoc (sec q : List (Int × ByteArray)) (x : Int × ByteArray) : flushed sec (q ++ [x]) = aset (flushed sec q) x.1 x.2 := by simp [flushed]
def PlateM.sync (pl : PlateM) : PlateM × Int :=
  if pl.ready 0 ≠ 0 then (pl, pl.ready 0) else if pl.act.2 ≠ 0 then pl.act else ({ pl.act.1 with sec := flushed pl.act.1.sec pl.act.1.queue, queue := [] }, 0)
set_option maxRecDepth 100000 in
set_option maxHeartbeats 800000 in
theorem sync_ct (hlen : pl.queue.length < 1000000) (hS : Sat w (plateA p pl :: L)) :
    Calls Tryd.prog 21 #[.pointer (some ⟨p, 0, none⟩)] w fun e w' => e = .returned (.int .i64 pl.sync.2) ∧ Sat w' (plateA p pl.sync.1 :: L) := by
  by_cases hr : pl.ready 0 = 0
  · have hct0 := ready_ct 0 hS
    rw [hr] at hct0
    have hct := Lib.hid hct0
    have hact0 := act_ct hS
    by_cases ha : pl.act.2 = 0
    · rw [ha] at hact0
      have hact := Lib.hid hact0
      rw [show pl.sync = _ from by rw [PlateM.sync, if_neg (by simpa using hr), if_neg (by simpa using ha)]]
      have hl1 : pl.act.1.queue.length < 1000000 := by rw [act_queue]; exact hlen
      generalize pl.act.1 = q1 at *
      clear hct0 hact0 hr ha hS hlen
      go_enter Tryd.func21, Tryd.ntmps21
      go_wp2_with (first | (go_at_call 30; refine hct.out.mono ?_; rintro e w' ⟨rfl, rfl⟩) | (go_at_call 38; refine hact.out.mono ?_; rintro e w1 ⟨rfl, hS1⟩; obtain ⟨m, A, c, hR⟩ := plate_out hS1; obtain ⟨c0, c1, c2, c3, c4, c5, c6, fz⟩ := cells7 hR.raw_block))
      go_loopw [22] (fun v wr => ∃ k : Nat, v = .int .i64 k ∧ k ≤ q1.queue.length ∧ Sat wr (raw p (plObj q1 m A c) :: secA m (flushed q1.sec (q1.queue.take k)) :: rowA wrT 71 A c q1.queue :: L)) (fun v _ => q1.queue.length - (intOf v).toNat)
      case atStart => exact ⟨0, rfl, Nat.zero_le _, hR⟩
      case round =>
        clear hR hS1 c0 c1 c2 c3 c4 c5 c6 fz hct hact
        obtain ⟨k, rfl, hk, hR⟩ := hrel
        obtain ⟨c0, c1, c2, c3, c4, c5, c6, fz⟩ := cells7 hR.raw_block
        by_cases hlt : k < q1.queue.length
        · obtain ⟨b, rfl, g, hg, cs, hcs, hcell⟩ := hR.f2.row_at (List.getElem?_eq_getElem hlt)
          cases hcs
          have e0 := hcell 0 _ rfl
          have e1 := hcell 1 _ rfl
          simp only [wrT, Nat.add_zero] at e0 e1
          clear hcell hg
          obtain ⟨W, hWe⟩ : ∃ W, W = wr.alloc (.cells #[.int .i64 q1.queue[k].1, .string q1.queue[k].2] 71) := ⟨_, rfl⟩
          have hN := hR.alloc (.cells #[.int .i64 q1.queue[k].1, .string q1.queue[k].2] 71)
          rw [← hWe] at hN
          obtain ⟨w2, hrun, hM⟩ := Sat.update (E := intKey) (ev := Value.string) Tryd.underlying54 Tryd.underlying3 hN.drop.drew.f1 q1.queue[k].1 q1.queue[k].2
          rw [← flushed_snoc, List.take_append_getElem hlt] at hM
          have HM := Lib.hid hrun
          clear hrun
          go_wp2
          rw [← hWe]
          obtain ⟨d0, d1, d2, d3, d4, d5, d6, dz⟩ := cells7 hN.drop.raw_block
          obtain ⟨n0, n1, nz⟩ := cells2 hN.raw_block
          clear hWe hN hR c0 c1 c2 c3 c4 c5 c6 fz e0 e1
          go_still_tail 8, (by kernel_rfl)
          go_wp2_with (refine wpList_mapUpdate_run rfl _ _ _ _ rfl rfl rfl rfl HM ?_)
          exact ⟨⟨k + 1, by simp, by omega, hM.f1⟩, by simp [intOf]; omega⟩
        · obtain rfl : k = q1.queue.length := by omega
          rw [List.take_length] at hR
          go_wp2
          go_ret
          exact ⟨rfl, plate_in (m := m) (A := none) (c := 0) ((Sat.row_nil wrT 71 (hR.setCell (k := 2) (.slice none 0 0)).f2.drop).f2.f2)⟩
    · have hact := Lib.hid hact0
      rw [show pl.sync = _ from by rw [PlateM.sync, if_neg (by simpa using hr), if_pos ha]]
      clear hct0 hact0 hr hS
      have hb : (pl.act.2 == 0) = false := by simpa using ha
      have hb' : (pl.act.2 != 0) = true := by simpa using ha
      go_enter Tryd.func21, Tryd.ntmps21
      go_wp2_with (first | (go_at_call 30; refine hct.out.mono ?_; rintro e w' ⟨rfl, rfl⟩) | (go_at_call 38; refine hact.out.mono ?_; rintro e w1 ⟨rfl, hS1⟩))
      go_ret
      exact ⟨rfl, hS1⟩
  · have hct := Lib.hid (ready_ct 0 hS)
    rw [show pl.sync = _ from by rw [PlateM.sync, if_pos hr]]
    go_enter Tryd.func21, Tryd.ntmps21
    go_wp2_with (go_at_call 30; refine hct.out.mono ?_; rintro e w' ⟨rfl, rfl⟩)
    go_ret
    exact ⟨rfl, hS⟩

set_option maxHeartbeats 400000 in
theorem arm_ct (n : Int) (hS : Sat w (plateA p pl :: L)) : Calls Tryd.prog 7 #[.pointer (some ⟨p, 0, none⟩), .int .i64 n] w fun e w' => e = .returned (.tuple #[]) ∧ Sat w' (plateA p { pl with armed := max n 0 } :: L) := by
  obtain ⟨m, A, c, hR⟩ := plate_out hS
  obtain ⟨c0, c1, c2, c3, c4, c5, c6, fz⟩ := cells7 hR.raw_block
  by_cases h0 : n < 0
  · rw [show max n 0 = 0 by omega]
    go_enter Tryd.func7, Tryd.ntmps7
    go_wp2
    go_end0
    exact ⟨rfl, plate_in (hR.setCell _)⟩
  · rw [show max n 0 = n by omega]
    go_enter Tryd.func7, Tryd.ntmps7
    go_wp2
    go_end0
    exact ⟨rfl, plate_in (hR.setCell _)⟩
set_option maxHeartbeats 400000 in
theorem sectors_ct (hS : Sat w (plateA p pl :: L)) : Calls Tryd.prog 17 #[.pointer (some ⟨p, 0, none⟩)] w fun e w' => e = .returned (.int .i64 pl.count) ∧ w = w' := by
  obtain ⟨m, A, c, hR⟩ := plate_out hS
  obtain ⟨c0, c1, c2, c3, c4, c5, c6, fz⟩ := cells7 hR.raw_block
  go_enter Tryd.func17, Tryd.ntmps17
  go_wp2
  go_ret
  exact ⟨rfl, rfl⟩
set_option maxHeartbeats 400000 in
theorem down_ct (hS : Sat w (plateA p pl :: L)) : Calls Tryd.prog 18 #[.pointer (some ⟨p, 0, none⟩)] w fun e w' => e = .returned (.bool pl.down) ∧ w = w' := by
  obtain ⟨m, A, c, hR⟩ := plate_out hS
  obtain ⟨c0, c1, c2, c3, c4, c5, c6, fz⟩ := cells7 hR.raw_block
  go_enter Tryd.func18, Tryd.ntmps18
  go_wp2
  go_ret
  exact ⟨rfl, rfl⟩
set_option maxHeartbeats 400000 in
theorem acts_ct (hS : Sat w (plateA p pl :: L)) : Calls Tryd.prog 16 #[.pointer (some ⟨p, 0, none⟩)] w fun e w' => e = .returned (.int .i64 pl.acts) ∧ w = w' := by
  obtain ⟨m, A, c, hR⟩ := plate_out hS
  obtain ⟨c0, c1, c2, c3, c4, c5, c6, fz⟩ := cells7 hR.raw_block
  go_enter Tryd.func16, Tryd.ntmps16
  go_wp2
  go_ret
  exact ⟨rfl, rfl⟩
set_option maxHeartbeats 400000 in
theorem life_ct (hS : Sat w (plateA p pl :: L)) : Calls Tryd.prog 19 #[.pointer (some ⟨p, 0, none⟩)] w fun e w' => e = .returned (.int .i64 pl.life) ∧ w = w' := by
  obtain ⟨m, A, c, hR⟩ := plate_out hS
  obtain ⟨c0, c1, c2, c3, c4, c5, c6, fz⟩ := cells7 hR.raw_block
  go_enter Tryd.func19, Tryd.ntmps19
  go_wp2
  go_ret
  exact ⟨rfl, rfl⟩
def newPlate (n : Int) : PlateM := ⟨min (max n 1) 16384, [], [], false, 0, 0, 0⟩
set_option maxHeartbeats 400000 in
theorem new_ct (n : Int) (h1 : 1 ≤ n) (h2 : n ≤ 16384) (hS : Sat w L) : Calls Tryd.prog 5 #[.int .i64 n] w (Rt fun v w' => ∃ p, v = .pointer (some ⟨p, 0, none⟩) ∧ Sat w' (plateA p (newPlate n) :: L)) := by
  have hmm := @run_makeMap Tryd.prog
  have hS2 := (hS.alloc (.map #[] 0)).alloc (.cells #[.int .i64 n, .map (some w.heap.size), .slice none 0 0, .bool false, .int .i64 0, .int .i64 0, .int .i64 0] 57 (0, 0))
  have hm : max n 1 = n := by omega
  have hm' : min n 16384 = n := by omega
  go_enter Tryd.func5, Tryd.ntmps5
  go_wp2
  go_ret
  rw [show newPlate n = ⟨n, [], [], false, 0, 0, 0⟩ by simp [newPlate, hm, hm']]
  have hS3 := (Sat.row_nil wrT 71 (Sat.mapA_in (E := intKey) (ev := Value.string) (l := []) ⟨rfl, Go.MapKept.stamped_empty 0⟩ hS2.f1)).f2.f2
  exact ⟨_, rfl, w.heap.size + 1, by simp, plate_in (pl := ⟨n, [], [], false, 0, 0, 0⟩) (m := w.heap.size) (A := none) (c := 0) (by have h := hS3.f1; simp only [World.size_alloc] at h; exact h)⟩
end
end Pl
end Go.Proofs.YtkmlppeligdbaaaDoor

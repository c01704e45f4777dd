/- The device of sectors: what becomes of what waits when the power is back. Conditions: none. -/
import Derived.Test.YtkmlppeligdbaaaDoorPlate
namespace Go.Proofs.YtkmlppeligdbaaaDoor
namespace Pl
open Go.RowKit SepW
set_option linter.unusedVariables false
set_option linter.unusedSimpArgs false
set_option linter.unusedSectionVars false
section
variable {w : World} {L : List Atom} {p : Nat} {pl : PlateM}

def fate (l : List Int) (i : Nat) : Int := if l = [] then 0 else if (l.getD (i % l.length) 0).tmod 3 < 0 then (l.getD (i % l.length) 0).tmod 3 + 3 else (l.getD (i % l.length) 0).tmod 3
theorem tmod3 (x : Int) : -2 ≤ x.tmod 3 ∧ x.tmod 3 ≤ 2 := by
  by_cases h : 0 ≤ x
  · rw [Int.tmod_eq_emod_of_nonneg h]; omega
  · have h1 := Int.neg_tmod (-x) 3
    rw [Int.neg_neg] at h1
    rw [h1, Int.tmod_eq_emod_of_nonneg (by omega)]; omega
set_option maxRecDepth 100000 in
set_option maxHeartbeats 400000 in
theorem fate_ct {A : Option Addr} {cap : Nat} {l : List Int} (i : Nat) (hi : i < 1000000) (hl : l.length ≤ 140737488355328) (hS : Sat w (slA intT (.slice A l.length cap) l :: L)) :
    Calls Tryd.prog 29 #[.slice A l.length cap, .int .i64 i] w fun e w' => e = .returned (.int .i64 (fate l i)) ∧ w = w' := by
  by_cases hn : l = []
  · subst hn
    go_enter Tryd.func29, Tryd.ntmps29
    go_wp2
    go_ret
    exact ⟨rfl, rfl⟩
  · have hpos : 0 < l.length := List.length_pos_iff.2 hn
    have hlt : i % l.length < l.length := Nat.mod_lt _ hpos
    obtain ⟨b, off, rfl, g, hg, cs, hcs, hcell⟩ := hS.sl_at (List.getElem?_eq_getElem hlt)
    cases hcs
    have e0 := hcell 0 _ rfl
    simp only [intT, Nat.add_zero, Nat.mul_one] at e0
    have hx : l.getD (i % l.length) 0 = l[i % l.length] := by simp [List.getD, hlt]
    have hb := tmod3 l[i % l.length]
    have hm : ((i : Int).tmod (l.length : Int)) = ((i % l.length : Nat) : Int) := by rw [Int.tmod_eq_emod_of_nonneg (by omega)]; omega
    have h0 : ((l.length : Int) == 0) = false := by simp; omega
    unfold fate
    rw [if_neg hn, hx]
    generalize l[i % l.length] = x at *
    generalize i % l.length = j at *
    clear hcell hg hS hx hn
    by_cases hneg : x.tmod 3 < 0
    · go_enter Tryd.func29, Tryd.ntmps29
      go_wp2
      go_ret
      exact ⟨rfl, rfl⟩
    · go_enter Tryd.func29, Tryd.ntmps29
      go_wp2
      go_ret
      exact ⟨by simp [hneg], rfl⟩

def settle (sec : List (Int × ByteArray)) (f : Int) (x : Int × ByteArray) : List (Int × ByteArray) := if f = 1 then aset sec x.1 x.2 else if f = 2 then aset sec x.1 ⟨#[]⟩ else sec
def settled (sec : List (Int × ByteArray)) (l : List Int) (q : List (Int × ByteArray)) : Nat → List (Int × ByteArray)
  | 0 => sec
  | k + 1 => settle (settled sec l q k) (fate l k) (q.getD k (0, ⟨#[]⟩))
def PlateM.on (pl : PlateM) (l : List Int) : PlateM := if pl.down then { pl with down := false, sec := settled pl.sec l pl.queue pl.queue.length, queue := [] } else pl
set_option maxRecDepth 100000 in
set_option maxHeartbeats 1600000 in
theorem on_ct {B : Option Addr} {cap : Nat} {l : List Int} (hl : l.length ≤ 140737488355328) (hlen : pl.queue.length < 1000000) (hS : Sat w (plateA p pl :: slA intT (.slice B l.length cap) l :: L)) :
    Calls Tryd.prog 10 #[.pointer (some ⟨p, 0, none⟩), .slice B l.length cap] w fun e w' => e = .returned (.tuple #[]) ∧ Sat w' (plateA p (pl.on l) :: slA intT (.slice B l.length cap) l :: L) := by
  obtain ⟨m, A, c, hR⟩ := plate_out hS
  obtain ⟨c0, c1, c2, c3, c4, c5, c6, fz⟩ := cells7 hR.raw_block
  by_cases hd : pl.down = true
  · rw [hd] at c3
    rw [show pl.on l = _ from by rw [PlateM.on, if_pos hd]]
    have hR0 := hR.setCell (k := 3) (.bool false)
    clear hS
    go_enter Tryd.func10, Tryd.ntmps10
    go_wp2
    go_loopw [23] (fun v wr => ∃ k : Nat, v = .int .i64 k ∧ k ≤ pl.queue.length ∧ Sat wr (raw p (plObj { pl with down := false } m A c) :: secA m (settled pl.sec l pl.queue k) :: rowA wrT 71 A c pl.queue :: slA intT (.slice B l.length cap) l :: L)) (fun v _ => pl.queue.length - (intOf v).toNat)
    case atStart => exact ⟨0, rfl, Nat.zero_le _, hR0⟩
    case round =>
      clear hR hR0 c0 c1 c2 c3 c4 c5 c6 fz
      obtain ⟨k, rfl, hk, hR⟩ := hrel
      obtain ⟨c0, c1, c2, c3, c4, c5, c6, fz⟩ := cells7 hR.raw_block
      by_cases hlt : k < pl.queue.length
      · obtain ⟨b, rfl, g, hg, cs, hcs, hcell⟩ := hR.f2.row_at (List.getElem?_eq_getElem hlt)
        cases hcs
        have e0 := hcell 0 _ rfl
        have e1 := hcell 1 _ rfl
        simp only [wrT, Nat.add_zero] at e0 e1
        clear hcell hg
        have hset : settled pl.sec l pl.queue (k + 1) = settle (settled pl.sec l pl.queue k) (fate l k) pl.queue[k] := by simp [settled, List.getD, hlt]
        generalize pl.queue[k] = x at *
        obtain ⟨W, hWe⟩ : ∃ W, W = wr.alloc (.cells #[.int .i64 x.1, .string x.2] 71) := ⟨_, rfl⟩
        have hN := hR.alloc (.cells #[.int .i64 x.1, .string x.2] 71)
        rw [← hWe] at hN
        have HW := Lib.hid hWe
        clear hWe
        have hF := Lib.hid (fate_ct k (by omega) hl hN.drop.f3)
        by_cases f1 : fate l k = 1
        · obtain ⟨w2, hrun, hM⟩ := Sat.update (E := intKey) (ev := Value.string) Tryd.underlying54 Tryd.underlying3 hN.drop.drew.f1 x.1 x.2
          rw [settle, if_pos f1] at hset
          have HM := Lib.hid hrun
          have HE := Lib.hid hset
          clear hrun hset
          go_wp2_with (go_at_call 29; rw [← HW.out]; refine hF.out.mono ?_; rintro e w' ⟨rfl, rfl⟩)
          obtain ⟨d0, d1, d2, d3, d4, d5, d6, dz⟩ := cells7 hN.drop.raw_block
          obtain ⟨n0, n1, nz⟩ := cells2 hN.raw_block
          clear hN hR c0 c1 c2 c3 c4 c5 c6 fz e0 e1
          go_still_tail 8, (by kernel_rfl)
          go_wp2_with (refine wpList_mapUpdate_run rfl _ _ _ _ rfl rfl rfl rfl HM ?_)
          exact ⟨⟨k + 1, by simp, by omega, by rw [HE.out]; exact hM.f1⟩, by simp [intOf]; omega⟩
        · by_cases f2 : fate l k = 2
          · obtain ⟨w2, hrun, hM⟩ := Sat.update (E := intKey) (ev := Value.string) Tryd.underlying54 Tryd.underlying3 hN.drop.drew.f1 x.1 ⟨#[]⟩
            rw [settle, if_neg f1, if_pos f2] at hset
            have HM := Lib.hid hrun
            have HE := Lib.hid hset
            clear hrun hset f1
            go_wp2_with (go_at_call 29; rw [← HW.out]; refine hF.out.mono ?_; rintro e w' ⟨rfl, rfl⟩)
            obtain ⟨d0, d1, d2, d3, d4, d5, d6, dz⟩ := cells7 hN.drop.raw_block
            obtain ⟨n0, n1, nz⟩ := cells2 hN.raw_block
            clear hN hR c0 c1 c2 c3 c4 c5 c6 fz e0 e1
            go_still_tail 6, (by kernel_rfl)
            go_wp2_with (refine wpList_mapUpdate_run rfl _ _ _ _ rfl rfl rfl rfl HM ?_)
            exact ⟨⟨k + 1, by simp, by omega, by rw [HE.out]; exact hM.f1⟩, by simp [intOf]; omega⟩
          · rw [settle, if_neg f1, if_neg f2] at hset
            have HE := Lib.hid hset
            clear hset
            have b1 : (fate l k == 1) = false := by simpa using f1
            have b2 : (fate l k == 2) = false := by simpa using f2
            clear f1 f2
            go_wp2_with (go_at_call 29; rw [← HW.out]; refine hF.out.mono ?_; rintro e w' ⟨rfl, rfl⟩)
            exact ⟨⟨k + 1, by simp, by omega, by rw [HE.out]; exact hN.drop⟩, by simp [intOf]; omega⟩
      · obtain rfl : k = pl.queue.length := by omega
        go_wp2
        go_end0
        exact ⟨rfl, plate_in (pl := { pl with down := false, sec := settled pl.sec l pl.queue pl.queue.length, queue := [] }) (m := m) (A := none) (c := 0) ((Sat.row_nil wrT 71 (hR.setCell (k := 2) (.slice none 0 0)).f2.drop).f2.f2)⟩
  · have hd' : pl.down = false := by simpa using hd
    rw [hd'] at c3
    rw [show pl.on l = _ from by rw [PlateM.on, if_neg hd]]
    go_enter Tryd.func10, Tryd.ntmps10
    go_wp2
    refine bodyPost_ret (results_none rfl _ _ _) rfl ?_
    exact ⟨rfl, hS⟩
end
end Pl
end Go.Proofs.YtkmlppeligdbaaaDoor

/- A page of slots as its 240 bytes. Conditions: none. -/
import Derived.Test.YtkmlppeligdbaaaDoorGet
import Derived.Deep.RegionHeld3
import Derived.Deep.DeepCutAuto
import Derived.Laws.CopyOwn
namespace Go.Proofs.YtkmlppeligdbaaaDoor
namespace Sl
open Go.RowKit SepW
set_option linter.unusedVariables false
set_option linter.unusedSimpArgs false
set_option linter.unusedSectionVars false

def byteC (b : UInt8) : Value := .int .u8 b.toNat
def padC (l : List UInt8) : Array Value := (l.map byteC ++ List.replicate (240 - l.length) (Value.int .u8 0)).toArray
theorem pad_app (l m : List UInt8) (h : l.length + m.length ≤ 240) :
    ((padC l).toList.take l.length ++ m.map byteC ++ (padC l).toList.drop (l.length + m.length)).toArray = padC (l ++ m) := by
  have e1 : (padC l).toList = l.map byteC ++ List.replicate (240 - l.length) (Value.int .u8 0) := rfl
  have e2 : (l.map byteC).length = l.length := by simp
  rw [e1, padC]
  congr 1
  rw [List.take_append_of_le_length (by simp), List.take_of_length_le (by simp), List.drop_append, List.drop_of_length_le (by simp)]
  simp
  rw [show 240 - l.length - m.length = 240 - (l.length + m.length) by omega]
theorem pad_nil : padC [] = (List.replicate 240 (Value.int .u8 0)).toArray := rfl
theorem pad_size (l : List UInt8) (h : l.length ≤ 240) : (padC l).size = 240 := by simp [padC]; omega
theorem run_app_str {ty : TypeId} {w : World} {b : Nat} {l : List UInt8} (s : List UInt8) (hb : w.heap[b]? = some (.cells (padC l) 5 (0, 0))) (h : l.length + s.length ≤ 240) :
    (Builtin.append_ #[63, 9] ty #[.slice (some ⟨b, 0, none⟩) l.length 240, .string ⟨s.toArray⟩]).run Tryd.prog w = .ok (.slice (some ⟨b, 0, none⟩) (l.length + s.length) 240) (w.setRow b (padC (l ++ s))) := by
  have h5 := info5
  rw [Option.map_eq_some_iff] at h5
  obtain ⟨i, hi, h5⟩ := h5
  simp only [Prod.mk.injEq] at h5
  have hs : (⟨s.toArray⟩ : ByteArray).size = s.length := by simp [ByteArray.size]
  have hr := Lib.run_append_room_string (P := Tryd.prog) w 63 9 ty 5 i under63 under9 hi h5.2.1 b l.length 240 (padC l) hb ⟨s.toArray⟩ (by rw [hs]; exact h) (by rw [hs, pad_size l (by omega)]; exact h)
  rw [hs] at hr
  rw [hr, ← pad_app l s h]
  rfl
theorem run_app_one {ty : TypeId} {w : World} {b : Nat} {l : List UInt8} (c : UInt8) {a : Addr} (hc : w.cell? a = some (byteC c)) (hb : w.heap[b]? = some (.cells (padC l) 5 (0, 0))) (h : l.length + 1 ≤ 240) :
    (Builtin.append_ #[63, 63] ty #[.slice (some ⟨b, 0, none⟩) l.length 240, .slice (some a) 1 1]).run Tryd.prog w = .ok (.slice (some ⟨b, 0, none⟩) (l.length + 1) 240) (w.setRow b (padC (l ++ [c]))) := by
  have h5 := info5
  rw [Option.map_eq_some_iff] at h5
  obtain ⟨i, hi, h5⟩ := h5
  simp only [Prod.mk.injEq] at h5
  have hr := run_append_room (P := Tryd.prog) w 63 ty 5 i under63 hi b l.length 240 (padC l) hb a 1 1 [byteC c] (by simp [h5.2.1]) (fun j u hj => by
    match j, hj with
    | 0, hj => simp at hj; subst hj; rw [show a.add 0 = a by unfold Addr.add; split <;> simp_all]; exact hc
    | j + 1, hj => simp at hj) (by simp [byteC, Value.oneCell']) h (by rw [h5.2.1, pad_size l (by omega)]; simpa using h)
  rw [h5.2.1] at hr
  have hp := pad_app l [c] h
  simp only [List.map_cons, List.map_nil, List.length_cons, List.length_nil, Nat.zero_add] at hp
  simp only [Nat.mul_one, List.length_cons, List.length_nil, Nat.zero_add] at hr
  rw [hr, ← hp]
/-- an append whose run is known -/
theorem wpList_append_run2 {P : Program} {w w' : World} {ops : Array Oper} {rest : List Oper} {o : Oper} {a : Act} {Q : Exit → Act → World → Prop} (hgd : o.guard = none) (s x : Operand) (t u : TypeId)
    (ho : o.op = .call { callee := .builtin .append, args := #[s, x], argTypes := #[t, u] }) {v xv v' : Value} (hs : a.eval s = v) (hx : a.eval x = xv)
    (hr : Hid ((Builtin.append_ #[t, u] o.type #[v, xv]).run P w = .ok v' w')) (h : wpList P ops Q rest (a.put o.dst v') w') : wpList P ops Q (o :: rest) a w := by
  have hr := hr.out
  refine wpList_plain hgd (fun K hK => ?_)
  unfold Oper.wp execOp
  simp only [ho, resolve, invoke, builtin, Sem.run_bind, Sem.run_pure, Result.andThen_ok, List.map_toArray, List.map_cons, List.map_nil, hs, hx, hr]
  exact hK _ _ h
theorem wpList_append_one {P : Program} {w w' : World} {ops : Array Oper} {rest : List Oper} {o : Oper} {a : Act} {Q : Exit → Act → World → Prop} (hgd : o.guard = none) (s x : Operand)
    (ho : o.op = .call { callee := .builtin .append, args := #[s, x], argTypes := #[63, 63] }) {v xv v' : Value} (hs : a.eval s = v) (hx : a.eval x = xv)
    (hr : Hid ((Builtin.append_ #[63, 63] o.type #[v, xv]).run P w = .ok v' w')) (h : wpList P ops Q rest (a.put o.dst v') w') : wpList P ops Q (o :: rest) a w :=
  wpList_append_run2 hgd s x 63 63 ho hs hx hr h
theorem wpList_append_str {P : Program} {w w' : World} {ops : Array Oper} {rest : List Oper} {o : Oper} {a : Act} {Q : Exit → Act → World → Prop} (hgd : o.guard = none) (s x : Operand)
    (ho : o.op = .call { callee := .builtin .append, args := #[s, x], argTypes := #[63, 9] }) {v xv v' : Value} (hs : a.eval s = v) (hx : a.eval x = xv)
    (hr : Hid ((Builtin.append_ #[63, 9] o.type #[v, xv]).run P w = .ok v' w')) (h : wpList P ops Q rest (a.put o.dst v') w') : wpList P ops Q (o :: rest) a w :=
  wpList_append_run2 hgd s x 63 9 ho hs hx hr h
/-- ..in a region that draws its order -/
theorem step_append_run {P : Program} {w w' : World} {ops : Array Oper} {o : Oper} {a : Act} {K : Act → World → Prop} {Q : Exit → Act → World → Prop} {E : Prop} (hgd : o.guard = none) (s x : Operand) (t u : TypeId)
    (ho : o.op = .call { callee := .builtin .append, args := #[s, x], argTypes := #[t, u] }) {v xv v' : Value} (hs : a.eval s = v) (hx : a.eval x = xv)
    (hr : (Builtin.append_ #[t, u] o.type #[v, xv]).run P w = .ok v' w') (h : K (a.put o.dst v') w') :
    if Region.wanted o (yielded ops a.tmps) = true then Oper.wp P o a w K Q else E := by
  have hw : Region.wanted o (yielded ops a.tmps) = true := by simp [Region.wanted, hgd]
  rw [if_pos hw]
  unfold Oper.wp execOp
  simp only [ho, resolve, invoke, builtin, Sem.run_bind, Sem.run_pure, Result.andThen_ok, List.map_toArray, List.map_cons, List.map_nil, hs, hx, hr]
  exact h

theorem run_app_str0 {ty : TypeId} {w : World} {b : Nat} (s : List UInt8) (hs : s.length = 8) (hb : w.heap[b]? = some (.cells (padC []) 5 (0, 0))) :
    (Builtin.append_ #[63, 9] ty #[.slice (some ⟨b, 0, none⟩) 0 240, .string ⟨s.toArray⟩]).run Tryd.prog w = .ok (.slice (some ⟨b, 0, none⟩) 8 240) (w.setRow b (padC s)) := by
  have h := run_app_str (ty := ty) s hb (by simp [hs])
  rw [hs] at h
  exact h

def slotL (x : Slot) : List UInt8 := if x.used then UInt8.ofNat x.data.size :: x.data.data.toList else [255]
def bodyL (v : Nat) (l : List Slot) (k : Nat) : List UInt8 := putL v 8 ++ [UInt8.ofNat l.length] ++ (l.take k).flatMap slotL
def encL (v : Nat) (l : List Slot) : List UInt8 := bodyL v l l.length ++ List.replicate (240 - (bodyL v l l.length).length) 0
theorem slotL_le {x : Slot} (h : x.data.size ≤ 200) : (slotL x).length ≤ 1 + x.data.size := by
  unfold slotL
  split
  · rw [List.length_cons, Array.length_toList]
    exact Nat.le_of_eq (Nat.add_comm _ _)
  · exact Nat.le_add_right _ _
theorem bodyL_zero (v : Nat) (l : List Slot) : bodyL v l 0 = putL v 8 ++ [UInt8.ofNat l.length] := by simp [bodyL]
theorem bodyL_succ {v : Nat} {l : List Slot} {k : Nat} {x : Slot} (h : l[k]? = some x) : bodyL v l (k + 1) = bodyL v l k ++ slotL x := by
  simp [bodyL, List.take_add_one, h, List.flatMap_append]
theorem bodyL_len (v : Nat) (l : List Slot) (hd : ∀ x ∈ l, x.data.size ≤ 200) : ∀ k, k ≤ l.length → (bodyL v l k).length ≤ sizeOf (l.take k)
  | 0, _ => by rw [bodyL_zero]; simp [putL_length, sizeOf]
  | k + 1, hk => by
    have hx : l[k]? = some l[k] := List.getElem?_eq_getElem (by omega)
    rw [bodyL_succ hx, sizeOf_take hx, List.length_append]
    have := bodyL_len v l hd k (by omega)
    have := slotL_le (hd l[k] (List.getElem_mem _))
    omega
theorem sizeOf_mono (l : List Slot) (k : Nat) : sizeOf (l.take k) ≤ sizeOf l := by
  unfold sizeOf
  have h := List.take_append_drop k l
  have : (l.map fun x => 1 + x.data.size).sum = ((l.take k).map fun x => 1 + x.data.size).sum + ((l.drop k).map fun x => 1 + x.data.size).sum := by
    rw [← List.sum_append, ← List.map_append, h]
  omega
/-- one byte more -/
theorem run_one {ty : TypeId} {wc : World} {b : Nat} {m : List UInt8} {c n n' q : Nat} {z : Int} (hq : q = wc.heap.size) (hr : wc.heap[b]? = some (.cells (padC m) 5 (0, 0))) (hn : m.length = n) (hn' : n' = n + 1) (hc : c < 256) (hz : z = c) (h : n' ≤ 240) :
    ∃ W', (Builtin.append_ #[63, 63] ty #[.slice (some ⟨b, 0, none⟩) n 240, .slice (some ⟨q, 0, none⟩) 1 1]).run Tryd.prog (wc.alloc (.cells #[.int .u8 z] 5)) = .ok (.slice (some ⟨b, 0, none⟩) n' 240) W' ∧
      W'.heap[b]? = some (.cells (padC (m ++ [UInt8.ofNat c])) 5 (0, 0)) ∧ (∀ j, j ≠ b → j < wc.heap.size → W'.heap[j]? = wc.heap[j]?) ∧ ∀ B, B ≤ b → Below B wc W' := by
  subst hn hn' hz hq
  have hlt : b < wc.heap.size := (Array.getElem?_eq_some_iff.1 hr).1
  have hr' : (wc.alloc (.cells #[.int .u8 c] 5)).heap[b]? = some (.cells (padC m) 5 (0, 0)) := by rw [Below.heap_alloc _ _ _ hlt]; exact hr
  have hcell : (wc.alloc (.cells #[.int .u8 c] 5)).cell? ⟨wc.heap.size, 0, none⟩ = some (byteC (UInt8.ofNat c)) := by
    have e : (UInt8.ofNat c).toNat = c := by rw [UInt8.toNat_ofNat']; omega
    rw [cell_blk (heap_alloc_new _ _), byteC, e]
    rfl
  refine ⟨_, run_app_one (ty := ty) _ hcell hr' h, setRow_heap _ _ _ _ _ _ hr', fun j hj hj' => (setRow_other _ _ _ _ hj).trans (Below.heap_alloc _ _ _ hj'), fun B hB => below_setRow (((Below.refl B wc)).alloc (by omega) _) hB _⟩
/-- a string's bytes more -/
theorem run_str {ty : TypeId} {wc : World} {b : Nat} {m : List UInt8} {n n' : Nat} (d : ByteArray) (hr : wc.heap[b]? = some (.cells (padC m) 5 (0, 0))) (hn : m.length = n) (hn' : n' = n + d.size) (h : n' ≤ 240) :
    ∃ W', (Builtin.append_ #[63, 9] ty #[.slice (some ⟨b, 0, none⟩) n 240, .string d]).run Tryd.prog wc = .ok (.slice (some ⟨b, 0, none⟩) n' 240) W' ∧
      W'.heap[b]? = some (.cells (padC (m ++ d.data.toList)) 5 (0, 0)) ∧ wc.heap.size ≤ W'.heap.size ∧ ∀ B, B ≤ b → Below B wc W' := by
  subst hn hn'
  have hs : d.data.toList.length = d.size := Array.length_toList
  have hd : (⟨d.data.toList.toArray⟩ : ByteArray) = d := by simp
  have hrun := run_app_str (ty := ty) d.data.toList hr (by rw [hs]; exact h)
  rw [hs, hd] at hrun
  exact ⟨_, hrun, setRow_heap _ _ _ _ _ _ hr, by simp [World.setRow], fun B hB => below_setRow (Below.refl B wc) hB _⟩
theorem pad_enc (m : List UInt8) : padC m = ((m ++ List.replicate (240 - m.length) 0).map byteC).toArray := by
  rw [padC, List.map_append, List.map_replicate]
  rfl
theorem run_enc {w : World} {b : Nat} {m : List UInt8} (hr : w.heap[b]? = some (.cells (padC m) 5 (0, 0))) (h : m.length ≤ 240) :
    (convert 63 9 (.slice (some ⟨b, 0, none⟩) 240 240)).run Tryd.prog w = .ok (.string ⟨(m ++ List.replicate (240 - m.length) 0).toArray⟩) w := by
  have hlen : (m ++ List.replicate (240 - m.length) (0 : UInt8)).length = 240 := by simp; omega
  have hc := run_convert_bytes_back (P := Tryd.prog) w 63 9 5 ⟨b, 0, none⟩ 240 (m ++ List.replicate (240 - m.length) 0) under63 under5 under9 (fun j hj => by
    have hadd : (⟨b, 0, none⟩ : Addr).add j = ⟨b, j, none⟩ := by unfold Addr.add; split <;> simp_all
    rw [hadd, cell_blk hr, pad_enc, List.getElem?_toArray, List.getElem?_map, List.getElem?_eq_getElem hj]
    rfl)
  rw [hlen] at hc
  exact hc
theorem run_make240 (w : World) : (Instr.makeSlice 63 (.int .i64 0) (.int .i64 240)).run Tryd.prog w = .ok (.slice (some ⟨w.heap.size, 0, none⟩) 0 240) (w.alloc (.cells (padC []) 5)) :=
  run_make_bytes w 0 240 (by decide) (by decide)
theorem put8 (w : World) (v : Nat) (hv : v < 9223372036854775808) :
    Calls Tryd.prog 56 #[.int .u64 (IntKind.u64.wrap (v : Int)), .int .i64 8] w fun e w' => e = .returned (.string ⟨(putL v 8).toArray⟩) ∧ Below w.heap.size w w' := by
  have h : IntKind.u64.wrap (v : Int) = v := by rw [IntKind.wrap_u64]; omega
  rw [h]
  exact put_ct v 8 (by omega) (by decide) (by decide) (Sat.start w)
theorem enc_way1 {w1 w2 : World} (hb2 : Below (w1.alloc (.cells (padC []) 5)).drew.heap.size (w1.alloc (.cells (padC []) 5)).drew w2) (s : List UInt8) :
    (w2.setRow w1.heap.size (padC s)).heap[w1.heap.size]? = some (.cells (padC s) 5 (0, 0)) ∧ Below w1.heap.size w1 (w2.setRow w1.heap.size (padC s)) := by
  have hh : w2.heap[w1.heap.size]? = some (.cells (padC []) 5 (0, 0)) := (hb2.block _ (by simp)).trans (heap_alloc_new _ _)
  exact ⟨setRow_heap _ _ _ _ _ _ hh, below_setRow ((((Below.refl _ _).alloc (Nat.le_refl _) _).drew).trans (hb2.mono (by simp))) (Nat.le_refl _) _⟩
theorem enc_way2 {w1 w2 : World} (hb2 : Below w1.drew.heap.size w1.drew w2) (s : List UInt8) :
    ((w2.alloc (.cells (padC []) 5)).setRow w2.heap.size (padC s)).heap[w2.heap.size]? = some (.cells (padC s) 5 (0, 0)) ∧ Below w1.heap.size w1 ((w2.alloc (.cells (padC []) 5)).setRow w2.heap.size (padC s)) := by
  have hs2 := hb2.size
  simp at hs2
  exact ⟨setRow_heap _ _ _ _ _ _ (heap_alloc_new _ _), below_setRow (((Below.refl _ _).drew.trans hb2).alloc hs2 _) hs2 _⟩
section
attribute [local go_sem ↓] run_make240
attribute [local irreducible] padC putL encL bodyL slotL
variable {w : World} {L : List Atom}
set_option maxRecDepth 100000 in
set_option maxHeartbeats 1600000 in
theorem encode_ct {A : Option Addr} {cap v : Nat} {l : List Slot} (hv : v < 9223372036854775808) (hl : l.length ≤ 32) (hg : Page.good ⟨v, l⟩ = true) (h200 : ∀ x ∈ l, x.data.size ≤ 200) (hs240 : sizeOf l ≤ 240) (hS : Sat w (slA slotT (.slice A l.length cap) l :: L)) :
    Calls Tryd.prog 55 #[.agg #[.int .i64 v, .slice A l.length cap]] w fun e w' => e = .returned (.tuple #[.string ⟨(encL v l).toArray⟩, .int .i64 0]) ∧ Below w.heap.size w w' := by
  have hS1 := hS.alloc (.cells #[.int .i64 v, .slice A l.length cap] 41)
  have hB : Below w.heap.size w (w.alloc (.cells #[.int .i64 v, .slice A l.length cap] 41)) := (Below.refl _ _).alloc (Nat.le_refl _) _
  obtain ⟨q0, q1, _⟩ := cells2 hS1.raw_block
  have hG := good_ct (L := raw w.heap.size (.cells #[.int .i64 v, .slice A l.length cap] 41) :: L) (p := ⟨v, l⟩) (by simpa using (by omega : l.length ≤ 140737488355328)) (fun x hx => Nat.le_trans (h200 x hx) (by decide)) hS1.swap
  rw [hg] at hG
  dsimp only at hG
  have HG := Lib.hid hG
  have HB := Lib.hid hB
  have HS1 := Lib.hid hS1
  clear hG hB hS1 hS hg
  go_enter Tryd.func55, Tryd.ntmps55
  go_upto_region 3 with (go_at_call 39; refine HG.out.mono ?_; rintro e w1 ⟨rfl, hb1⟩; have k0 := (hb1.cell (p := ⟨w.heap.size, 0, none⟩) (by simp)).trans q0; have k1 := (hb1.cell (p := ⟨w.heap.size, 1, none⟩) (by simp)).trans q1)
  have HB1 := Lib.hid hb1
  have hw1 : w.heap.size < w1.heap.size := by have := hb1.size; simp at this; omega
  clear HG hb1 q0 q1
  go_cut [4] (fun s4 wx => ∃ b, s4 = .slice (some ⟨b, 0, none⟩) 8 240 ∧ w.heap.size < b ∧ wx.heap[b]? = some (.cells (padC (putL v 8)) 5 (0, 0)) ∧ Below w1.heap.size w1 wx)
  case first =>
    go_region_held3 (fun w' => w'.cell? ⟨w.heap.size, 0, none⟩ = some (.int .i64 v)) (first | go_keep | exact (hb2.cell (p := ⟨w.heap.size, 0, none⟩) (by simp; omega)).trans (by assumption) | (rw [cell_setRow_other _ _ _ _ (by simp; omega)]; exact (hb2.cell (p := ⟨w.heap.size, 0, none⟩) (by simp; omega)).trans (by assumption)) | (rw [cell_setRow_other _ _ _ _ (by simp; omega)]; assumption))
      (first
        | (go_at_call 56; refine (put8 _ v hv).mono ?_; rintro e w2 ⟨rfl, hb2⟩; have hs2 := hb2.size; simp at hs2)
        | (refine step_append_run (by rfl) _ _ _ _ (by rfl) (by rfl) (by rfl) (run_app_str0 (putL v 8) (putL_length v 8) (by first | exact heap_alloc_new _ _ | exact (hb2.block _ (by simp)).trans (heap_alloc_new _ _))) ?_))
    · go_wp2_with fail
      go_meet
      exact ⟨w1.heap.size, rfl, hw1, enc_way1 hb2 _⟩
    · go_wp2_with fail
      go_meet
      exact ⟨w2.heap.size, rfl, by omega, enc_way2 hb2 _⟩
  case rest =>
    obtain ⟨b, rfl, hb, hr, hb2⟩ := hcut
    have hwb : w1.heap.size ≤ wc.heap.size := hb2.size
    have k2 := (hb2.cell (p := ⟨w.heap.size, 0, none⟩) hw1).trans k0
    have k3 := (hb2.cell (p := ⟨w.heap.size, 1, none⟩) hw1).trans k1
    clear k0 k1
    obtain ⟨wd, hA, hrd, hsd, hbd⟩ := run_one (ty := 63) (n := 8) (n' := 9) (c := l.length) rfl hr (putL_length v 8) rfl (by omega) rfl (by decide)
    have k4 := ((hbd (w.heap.size + 1) (by omega)).cell (p := ⟨w.heap.size, 0, none⟩) (by simp)).trans k2
    have k5 := ((hbd (w.heap.size + 1) (by omega)).cell (p := ⟨w.heap.size, 1, none⟩) (by simp)).trans k3
    have HA := Lib.hid hA
    rw [← bodyL_zero] at hrd
    have hz : (bodyL v l 0).length = 9 := by rw [bodyL_zero]; simp [putL_length]
    have HZ := Lib.hid hz
    have HRD := Lib.hid hrd
    have HWD : Hid (Below (w.heap.size + 1) w1 wd) := Lib.hid ((hb2.mono hw1).trans (hbd _ (by omega)))
    clear hA hbd hr hrd hz
    go_upto_region 6 with (refine wpList_append_run2 rfl _ _ _ _ rfl rfl rfl HA ?_)
    go_loopw [4, 26] (fun s4 v' wr => ∃ k : Nat, v' = .int .i64 k ∧ k ≤ l.length ∧ s4 = .slice (some ⟨b, 0, none⟩) (bodyL v l k).length 240 ∧ wr.heap[b]? = some (.cells (padC (bodyL v l k)) 5 (0, 0)) ∧ Below (w.heap.size + 1) w1 wr) (fun _ v' _ => l.length - (intOf v').toNat)
    case atStart => exact ⟨0, rfl, Nat.zero_le _, by rw [HZ.out], HRD.out, HWD.out⟩
    case round =>
      obtain ⟨k, rfl, hk, rfl, hr, hbr⟩ := hrel
      have hWr : Below (w.alloc (.cells #[.int .i64 v, .slice A l.length cap] 41)).heap.size (w.alloc (.cells #[.int .i64 v, .slice A l.length cap] 41)) wr := HB1.out.trans (by simpa using hbr)
      have hSr := HS1.out.drop.below_grow hWr
      have hfin : Below w.heap.size w wr := HB.out.trans (hWr.mono (by simp))
      by_cases hlt : k < l.length
      · have hget : l[k]? = some l[k] := List.getElem?_eq_getElem hlt
        obtain ⟨b', off, rfl, g, hg', cs, hcs, hcell⟩ := hSr.sl_at hget
        cases hcs
        have e0 := hcell 0 _ rfl
        have e1 := hcell 1 _ rfl
        simp only [slotT, Nat.add_zero] at e0 e1
        have hx := h200 l[k] (List.getElem_mem hlt)
        have hnext := bodyL_succ (v := v) hget
        have hle : (bodyL v l (k + 1)).length ≤ 240 := Nat.le_trans (bodyL_len v l h200 (k + 1) hlt) (Nat.le_trans (sizeOf_mono l _) hs240)
        have hbs : b < wr.heap.size := (Array.getElem?_eq_some_iff.1 hr).1
        clear hcell hg' hget hSr
        generalize l[k] = x at *
        have hr0 : (wr.alloc (.cells #[.bool x.used, .string x.data] 69)).heap[b]? = some (.cells (padC (bodyL v l k)) 5 (0, 0)) := by rw [Below.heap_alloc _ _ _ hbs]; exact hr
        have hb0 : Below (w.heap.size + 1) w1 (wr.alloc (.cells #[.bool x.used, .string x.data] 69)) := hbr.alloc (by omega) _
        have HB0 := Lib.hid hb0
        cases hu : x.used with
        | false =>
          rw [hu] at e0 hr0 HB0
          have hsl : slotL x = [UInt8.ofNat 255] := by unfold slotL; rw [hu]; rfl
          rw [hsl] at hnext
          have hlen : (bodyL v l (k + 1)).length = (bodyL v l k).length + 1 := by rw [hnext]; simp
          obtain ⟨W', hA', hrA, hsA, hbA⟩ := run_one (ty := 63) (c := 255) (q := wr.heap.size + 1) (by simp) hr0 rfl hlen (by decide) rfl hle
          rw [← hnext] at hrA
          have HA' := Lib.hid hA'
          have HRA := Lib.hid hrA
          have HFI : Hid (Below (w.heap.size + 1) w1 W') := Lib.hid (HB0.out.trans (hbA _ (by omega)))
          clear hA' hrA hbA hr0 hb0 HB0 hnext hlen hsl hu hr hbr hWr hfin HS1 HB HB1 HWD HRD HZ HA
          go_wp2_with (refine wpList_append_run2 rfl _ _ _ _ rfl rfl rfl HA' ?_)
          exact ⟨⟨k + 1, by simp, by omega, rfl, HRA.out, HFI.out⟩, by simp [intOf]; omega⟩
        | true =>
          rw [hu] at e0 hr0 HB0
          have hsl : slotL x = [UInt8.ofNat x.data.size] ++ x.data.data.toList := by unfold slotL; rw [hu]; rfl
          rw [hsl, ← List.append_assoc] at hnext
          have hlen : (bodyL v l (k + 1)).length = (bodyL v l k).length + 1 + x.data.size := by
            rw [hnext, List.length_append, List.length_append, Array.length_toList]; rfl
          obtain ⟨W', hA', hrA, hsA, hbA⟩ := run_one (ty := 63) (c := x.data.size) (n' := (bodyL v l k).length + 1) (q := wr.heap.size + 1) (by simp) hr0 rfl rfl (by omega) rfl (by omega)
          obtain ⟨W2, hA2, hrA2, hsA2, hbA2⟩ := run_str (ty := 63) x.data hrA (by rw [List.length_append]; rfl) hlen hle
          rw [← hnext] at hrA2
          have HA' := Lib.hid hA'
          have HA2 := Lib.hid hA2
          have HRA := Lib.hid hrA2
          have f0 := (hbA b (Nat.le_refl _)).mono (Nat.le_refl b)
          have HFI : Hid (Below (w.heap.size + 1) w1 W2) := Lib.hid ((HB0.out.trans (hbA _ (by omega))).trans (hbA2 _ (by omega)))
          have g1 : W'.cell? ⟨wr.heap.size, 1, none⟩ = some (.string x.data) := by
            rw [cell_blk ((hsA wr.heap.size (by omega) (by simp)).trans (heap_alloc_new _ _))]; rfl
          clear f0 hA' hA2 hrA hrA2 hbA hbA2 hr0 hb0 HB0 hnext hlen hsl hu hr hbr hWr hfin HS1 HB HB1 HWD HRD HZ HA
          clear h200 hs240 hsA hsA2 hle k2 k3 k4 k5
          go_wp2_with (first | refine wpList_append_one rfl _ _ rfl rfl rfl HA' ?_ | refine wpList_append_str rfl _ _ rfl rfl rfl HA2 ?_)
          exact ⟨⟨k + 1, by simp, by omega, rfl, HRA.out, HFI.out⟩, by simp [intOf]; omega⟩
      · obtain rfl : k = l.length := by omega
        have hle : (bodyL v l l.length).length ≤ 240 := Nat.le_trans (bodyL_len v l h200 _ (Nat.le_refl _)) (Nat.le_trans (sizeOf_mono l _) hs240)
        have hE := run_enc hr hle
        rw [show bodyL v l l.length ++ List.replicate (240 - (bodyL v l l.length).length) 0 = encL v l by unfold encL; rfl] at hE
        have HE := Lib.hid hE
        have HF := Lib.hid hfin
        clear hE hWr hSr hr hbr hfin HS1 HB HB1 HWD HRD HZ HA
        go_wp2_with (refine wpList_convert_run rfl _ _ _ rfl rfl HE ?_)
        go_ret2
        exact ⟨rfl, HF.out⟩
end
end Sl
end Go.Proofs.YtkmlppeligdbaaaDoor

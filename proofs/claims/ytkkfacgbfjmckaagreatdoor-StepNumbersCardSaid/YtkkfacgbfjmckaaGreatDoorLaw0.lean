/- turnbucklelaw21.shown answers true. -/
import Derived.Test.YtkkfacgbfjmckaaGreatDoorProg
import Derived.Test.YtkkfacgbfjmckaaGreatDoorFr
import Derived.Test.YtkkfacgbfjmckaaGreatDoorNil
import Derived.Test.YtkkfacgbfjmckaaGreatDoorStepB
import Derived.Test.YtkkfacgbfjmckaaGreatDoorStepF
namespace Go.Proofs.YtkkfacgbfjmckaaGreatDoor
open Go.RowKit Go.Shelf
set_option maxRecDepth 100000
set_option maxHeartbeats 0

def shownP (i : Nat) : Ins := if i = 0 then ⟨2, 0, 0, 0, 7⟩ else if i = 1 then ⟨4, 0, 0, 1, 1⟩ else ⟨15, 0, 0, 0, 0⟩

theorem shownP_check : (flowCheck shownP 3).2 = 0 := by decide +kernel
theorem shownP_ok (i : Nat) (_ : i < 3) : (shownP i).ok := by
  unfold shownP Ins.ok
  split
  · decide
  · split <;> decide

theorem shownP_0 : shownP 0 = ⟨2, 0, 0, 0, 7⟩ := by simp [shownP]

theorem shown_1 (bi bp cap' : Nat) (r0 s0 : Nat → Int) (wv : Value) (w : World) (h : InstAt w bi bp cap' 3 shownP r0 s0 0 3 true) : 
    Calls Tryz.prog 9 #[.pointer (some ⟨bi, 0, none⟩), wv] w fun e w' => e = .returned (.agg #[.int .i64 3, .int .i64 0, .int .u64 7, .bool false, .bool false, .int .i64 0]) ∧
      InstAt w' bi bp cap' 3 shownP (upd r0 0 7) s0 1 3 true ∧ Kept (fun k => k = bi) w w' :=
  step_imm bi bp cap' 3 0 shownP r0 s0 3 0 0 7 wv w (by omega) (by omega) (by omega) (by omega) (by omega) (by omega) h shownP_0

theorem shownP_1 : shownP 1 = ⟨4, 0, 0, 1, 1⟩ := by simp [shownP]

theorem shown_2 (bi bp cap' : Nat) (r0 s0 : Nat → Int) (wv : Value) (w : World) (h : InstAt w bi bp cap' 3 shownP (upd r0 0 7) s0 1 3 true) : 
    Calls Tryz.prog 9 #[.pointer (some ⟨bi, 0, none⟩), wv] w fun e w' => e = .returned (.agg #[.int .i64 3, .int .i64 1, .int .u64 8, .bool false, .bool false, .int .i64 0]) ∧
      InstAt w' bi bp cap' 3 shownP (upd (upd r0 0 7) 0 8) s0 2 3 true ∧ Kept (fun k => k = bi) w w' :=
  step_alui bi bp cap' 3 1 shownP (upd r0 0 7) s0 3 0 0 1 1 8 wv w (by omega) (by omega) (by omega) (by omega) (by omega) (by omega) (by omega) (by omega) (fun w => alu_7_1 w) h shownP_1

theorem shownP_2 : shownP 2 = ⟨15, 0, 0, 0, 0⟩ := by simp [shownP]

theorem shown_3 (bi bp cap' : Nat) (r0 s0 : Nat → Int) (wv : Value) (w : World) (h : InstAt w bi bp cap' 3 shownP (upd (upd r0 0 7) 0 8) s0 2 3 true) : 
    Calls Tryz.prog 9 #[.pointer (some ⟨bi, 0, none⟩), wv] w fun e w' => e = .returned (.agg #[.int .i64 3, .int .i64 2, .int .u64 8, .bool false, .bool true, .int .i64 0]) ∧
      InstAt w' bi bp cap' 3 shownP (upd (upd r0 0 7) 0 8) s0 2 3 false ∧ Kept (fun k => k = bi) w w' :=
  step_exit bi bp cap' 3 2 shownP (upd (upd r0 0 7) 0 8) s0 3 0 0 wv w (by omega) (by omega) (by omega) (by omega) h shownP_2

theorem shown_4 (bi bp cap' : Nat) (r0 s0 : Nat → Int) (wv : Value) (w : World) (h : InstAt w bi bp cap' 3 shownP (upd (upd r0 0 7) 0 8) s0 2 3 false) : 
    Calls Tryz.prog 9 #[.pointer (some ⟨bi, 0, none⟩), wv] w fun e w' => e = .returned (.agg #[.int .i64 3, .int .i64 2, .int .u64 0, .bool false, .bool false, .int .i64 6]) ∧
      InstAt w' bi bp cap' 3 shownP (upd (upd r0 0 7) 0 8) s0 2 3 false ∧ Kept (fun k => k = bi) w w' :=
  step_ended bi bp cap' 3 2 shownP (upd (upd r0 0 7) 0 8) s0 3 wv w h

theorem shown_any (w : World) (hg : w.cell? ⟨0, 0, none⟩ = some (.int .u8 0)) :
    Calls Tryz.prog 6 #[] w fun e w' => e = .returned (.bool true) ∧ Below w.heap.size w w' := by
  go_enter Tryz.func6, Tryz.ntmps6
  go_wp2_with fail
  refine (worldNew_nil 2 _ (by omega) (by omega) hg).mono ?_
  rintro e w1 ⟨⟨bw, rfl⟩, hb1⟩
  go_wp2_with fail
  have hP : HasProg (w1.alloc (.cells #[.int .u8 2, .int .u8 0, .int .u8 0, .int .u8 0, .int .u32 7, .int .u8 4, .int .u8 0, .int .u8 0, .int .u8 1, .int .u32 1, .int .u8 15, .int .u8 0, .int .u8 0, .int .u8 0, .int .u32 0] 28)) w1.heap.size 0 3 shownP := by
    intro i hi
    have : i = 0 ∨ i = 1 ∨ i = 2 := by omega
    rcases this with rfl | rfl | rfl <;> simp [shownP]
  refine (stepNew_yes _ 0 3 3 shownP 3 0 _ hP shownP_ok (by simp) (by omega) (by omega) (by omega) (by omega) shownP_check).mono ?_
  rintro e w2 ⟨bi, bp, cap', rfl, hI2, hb2, hbi, hbp⟩
  have hB2 : Below w.heap.size w w2 := (hb1.alloc hb1.size _).trans (hb2.mono (by have := hb1.size; simp; omega))
  have hbiw : w.heap.size ≤ bi := by have := hb1.size; simp at hbi; omega
  clear hP hb1 hb2 hbi hbp
  go_wp2_with fail
  obtain ⟨r0, hr0⟩ : ∃ r0 : Nat → Int, r0 = (fun i => if i = 1 then 0 else 0) := ⟨_, rfl⟩
  rw [← hr0] at hI2
  obtain ⟨s0, hs0⟩ : ∃ s0 : Nat → Int, s0 = (fun _ => 0) := ⟨_, rfl⟩
  rw [← hs0] at hI2
  clear hs0
  clear hr0
  refine (shown_1 bi bp cap' r0 s0 _ _ hI2).mono ?_
  rintro e w3 ⟨rfl, HI3, hk3⟩
  go_wp2_with fail
  refine (shown_2 bi bp cap' r0 s0 _ _ (HI3.alloc _)).mono ?_
  rintro e w4 ⟨rfl, HI4, hk4⟩
  go_wp2_with fail
  refine (shown_3 bi bp cap' r0 s0 _ _ (HI4.alloc _)).mono ?_
  rintro e w5 ⟨rfl, HI5, hk5⟩
  go_wp2_with fail
  refine (shown_4 bi bp cap' r0 s0 _ _ (HI5.alloc _)).mono ?_
  rintro e w6 ⟨rfl, HI6, hk6⟩
  have n3 : w3.heap.size ≠ bi := by have := lt_of_heap HI3.block; omega
  have n4 : w4.heap.size ≠ bi := by have := lt_of_heap HI4.block; omega
  have n5 : w5.heap.size ≠ bi := by have := lt_of_heap HI5.block; omega
  have e1 := hk6.heap (heap_alloc_lt _ (hk5.heap (heap_alloc_lt _ (hk4.heap (heap_alloc_at (w := w3) _) n3)) n3)) n3
  have e2 := hk6.heap (heap_alloc_lt _ (hk5.heap (heap_alloc_at (w := w4) _) n4)) n4
  have e3 := hk6.heap (heap_alloc_at (w := w5) _) n5
  have c50 : w6.cell? ⟨w3.heap.size, 0, none⟩ = some (.int .i64 3) := (cell_of_heap e1).trans rfl
  have c52 : w6.cell? ⟨w3.heap.size, 2, none⟩ = some (.int .u64 7) := (cell_of_heap e1).trans rfl
  have c62 : w6.cell? ⟨w4.heap.size, 2, none⟩ = some (.int .u64 8) := (cell_of_heap e2).trans rfl
  have c71 : w6.cell? ⟨w5.heap.size, 1, none⟩ = some (.int .i64 2) := (cell_of_heap e3).trans rfl
  have c72 : w6.cell? ⟨w5.heap.size, 2, none⟩ = some (.int .u64 8) := (cell_of_heap e3).trans rfl
  have c74 : w6.cell? ⟨w5.heap.size, 4, none⟩ = some (.bool true) := (cell_of_heap e3).trans rfl
  have l5 := lt_of_heap e1
  have l6 := lt_of_heap e2
  have l7 := lt_of_heap e3
  have c21 : w6.cell? ⟨bi, 21, none⟩ = some (.bool false) := (cell_of_heap HI6.block).trans rfl
  have lb := lt_of_heap HI6.block
  have HB2 := Lib.hid hB2
  have HK3 := Lib.hid hk3
  have HK4 := Lib.hid hk4
  have HK5 := Lib.hid hk5
  have HK6 := Lib.hid hk6
  have HN : Hid (w3.heap.size ≠ bi ∧ w4.heap.size ≠ bi ∧ w5.heap.size ≠ bi) := Lib.hid ⟨n3, n4, n5⟩
  clear e1 e2 e3 n3 n4 n5 hB2 hk3 hk4 hk5 hk6 HI3 HI4 HI5 HI6 hI2
  have HD := Lib.hid (fun w h => (done_any bi false w h).mono fun e w' h => (⟨h.1, h.2.symm⟩ : e = .returned (.bool true) ∧ w' = w))
  go_wp2_with fail
  refine (HD.out _ ((World.cell?_alloc_old (a := ⟨bi, 21, none⟩) _ _ (Nat.ne_of_lt lb)).trans c21)).mono ?_
  rintro e w7 ⟨rfl, rfl⟩
  go_wp2_with fail
  refine bodyPost_ret (v := .bool true) (by simp [results, Tryz.results6, go_sem]) rfl ⟨rfl, ?_⟩
  have B := HB2.out
  have z2 := B.size
  have z3 := HK3.out.size
  have z4 := HK4.out.size
  have z5 := HK5.out.size
  have z6 := HK6.out.size
  simp at z4 z5 z6
  have K (k : Nat) (h : k < w.heap.size) : ¬ (k = bi) := by omega
  exact ((((((((B.trans (HK3.out.below z2 K)).alloc (by omega) _).trans (HK4.out.below (by simp; omega) K)).alloc (by omega) _).trans (HK5.out.below (by simp; omega) K)).alloc (by omega) _).trans (HK6.out.below (by simp; omega) K)).alloc (by omega) _)
end Go.Proofs.YtkkfacgbfjmckaaGreatDoor

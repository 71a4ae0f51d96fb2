/- The makers: arena.New, pool.New, the first Take of a pool, slab.New: what lies in memory behind them. -/
import Derived.Test.YtkkfacgbfjmckaaGreatDoorProg
import Derived.Test.YtkkfacgbfjmckaaGreatDoorFr
namespace Go.Proofs.YtkkfacgbfjmckaaGreatDoor
open Go.RowKit
set_option maxHeartbeats 400000
set_option maxRecDepth 20000

/-- n bytes of 0. -/
def zeroBytes (n : Nat) : Array Value := madeCells #[.int .u8 0] n
theorem size_zeroBytes (n : Nat) : (zeroBytes n).size = n := size_madeCells _ n
theorem zeroBytes_at {n i : Nat} (h : i < n) : (zeroBytes n)[i]? = some (.int .u8 0) := by
  have : (zeroBytes n).toList = List.replicate n (.int .u8 0) := toList_madeCells_one _ n
  rw [← Array.getElem?_toList, this, List.getElem?_replicate, if_pos h]

theorem info_u8 : (Tryz.prog.info? 5).map (fun i => (i.zero, i.size, i.bytes)) = some (some (.int .u8 0), 1, 1) := by kernel_rfl

theorem arenaNew (n : Int) (w : World) (h0 : 0 ≤ n) (h1 : n ≤ 65536) : Calls Tryz.prog 47 #[.int .i64 n] w fun e w' =>
    e = .returned (.tuple #[.pointer (some ⟨w.heap.size + 1, 0, none⟩), .int .i64 0]) ∧
    (w.alloc (.cells (zeroBytes n.toNat) 5)).alloc (.cells #[.slice (some ⟨w.heap.size, 0, none⟩) n.toNat n.toNat] 174) = w' := by
  obtain ⟨i0, hi, hz0, hz1, hz2⟩ := info_parts info_u8
  have hm : ∀ w : World, (Instr.makeSlice 22 (.int .i64 n) (.int .i64 n)).run Tryz.prog w = .ok (.slice (some ⟨w.heap.size, 0, none⟩) n.toNat n.toNat) (w.alloc (.cells (zeroBytes n.toNat) 5)) := by
    intro w
    have := run_make (P := Tryz.prog) w 22 5 i0 (.int .u8 0) Tryz.underlying22 hi hz0 .i64 .i64 n n (by omega) (by omega) (by rw [hz2]; omega) (by omega)
    rw [this, hz1]
    simp [zeroBytes, Value.cells]
  clear hi hz0 hz1 hz2
  go_enter Tryz.func47, Tryz.ntmps47
  go_wp2
  go_ret2
  exact ⟨rfl, rfl⟩

theorem poolNew (n : Int) (w : World) (h0 : 0 ≤ n) (h1 : n ≤ 128) : Calls Tryz.prog 48 #[.int .i64 n] w fun e w' =>
    e = .returned (.tuple #[.pointer (some ⟨w.heap.size, 0, none⟩), .int .i64 0]) ∧
    w.alloc (.cells #[.int .i64 n, .int .u64 0, .int .u64 0] 177) = w' := by
  go_enter Tryz.func48, Tryz.ntmps48
  go_wp2
  go_ret2
  exact ⟨rfl, rfl⟩

theorem poolLen (b : Nat) (n : Int) (w : World) (h : w.cell? ⟨b, 0, none⟩ = some (.int .i64 n)) : Calls Tryz.prog 103 #[.pointer (some ⟨b, 0, none⟩)] w fun e w' => e = .returned (.int .i64 n) ∧ w = w' := by
  go_enter Tryz.func103, Tryz.ntmps103
  go_wp2
  go_ret
  exact ⟨rfl, rfl⟩

/-- The table's first number: where a word whose lowest bit is set is looked up. -/
theorem tz_max (w : World) (hg : w.cell? ⟨0, 0, none⟩ = some (.int .u8 0)) : Calls Tryz.prog 104 #[.int .u64 18446744073709551615] w fun e w' => e = .returned (.int .i64 0) ∧ w = w' := by
  have e1 : IntKind.u64.wrap (-18446744073709551615) = 1 := by kernel_rfl
  have e2 : bits BinOp.and IntKind.u64 18446744073709551615 1 = 1 := by kernel_rfl
  go_enter Tryz.func104, Tryz.ntmps104
  go_wp2
  go_ret
  exact ⟨rfl, rfl⟩

theorem or01 : bits BinOp.or IntKind.u64 0 1 = 1 := by kernel_rfl

theorem poolTake_fresh (b : Nat) (n : Int) (w : World) (h1 : 1 ≤ n) (hg : w.cell? ⟨0, 0, none⟩ = some (.int .u8 0))
    (c0 : w.cell? ⟨b, 0, none⟩ = some (.int .i64 n)) (c1 : w.cell? ⟨b, 1, none⟩ = some (.int .u64 0)) (f1 : w.frozen? ⟨b, 1, none⟩ = false) :
    Calls Tryz.prog 49 #[.pointer (some ⟨b, 0, none⟩)] w fun e w' => e = .returned (.tuple #[.int .i64 0, .int .i64 0]) ∧ (w.setCell ⟨b, 1, none⟩ (.int .u64 1)).drew = w' := by
  go_enter Tryz.func49, Tryz.ntmps49
  go_wp2
  refine wp_loop_rounds 1 ?_; rw [rounds_succ]
  go_wp2_with (first | (go_at_call 103; refine (poolLen b n _ (by assumption)).mono ?_; rintro e w' ⟨rfl, rfl⟩) | (go_at_call 104; refine (tz_max _ (by assumption)).mono ?_; rintro e w' ⟨rfl, rfl⟩))
  go_region
  all_goals (go_wp2; go_ret2)
  rw [or01]
  exact ⟨rfl, rfl⟩

/-- A page's four numbers, n times; then the bytes taken. -/
def pages0 : Nat → List Value
  | 0 => [.int .i64 0]
  | n + 1 => .int .i64 0 :: .int .u32 0 :: .int .i64 0 :: .int .i64 0 :: pages0 n
def slabZero : Array Value := ⟨.pointer none :: .pointer none :: pages0 128⟩
theorem pages0_size (n : Nat) : (pages0 n).length = 4 * n + 1 := by
  induction n with
  | zero => rfl
  | succ n ih => simp [pages0, ih]; omega
theorem size_slabZero : slabZero.size = 515 := by simp [slabZero, pages0_size]
theorem zero_slab : Tryz.zeroCells133 = slabZero := by kernel_rfl
theorem slabZero_0 : slabZero[0]? = some (.pointer none) := rfl
theorem slabZero_1 : slabZero[1]? = some (.pointer none) := rfl
/-- The slab's cells, its arena and its pool set. -/
def slabNew0 (a p : Value) : Array Value := (slabZero.setIfInBounds 0 a).setIfInBounds 1 p

/-- slab.New: four blocks: the slab, the arena's bytes, the arena, the pool, whose page 0 is taken. -/
theorem slabNew (n : Int) (w : World) (h0 : 1 ≤ n) (h1 : n ≤ 128) (hg : w.cell? ⟨0, 0, none⟩ = some (.int .u8 0)) :
    Calls Tryz.prog 27 #[.int .i64 n] w fun e w' => e = .returned (.tuple #[.pointer (some ⟨w.heap.size, 0, none⟩), .int .i64 0]) ∧
      Below w.heap.size w w' ∧ w'.heap.size = w.heap.size + 4 ∧
      w'.heap[w.heap.size]? = some (.cells (slabNew0 (.pointer (some ⟨w.heap.size + 2, 0, none⟩)) (.pointer (some ⟨w.heap.size + 3, 0, none⟩))) 133 (0, 0)) ∧
      w'.heap[w.heap.size + 1]? = some (.cells (zeroBytes (512 * n.toNat)) 5 (0, 0)) ∧
      w'.heap[w.heap.size + 2]? = some (.cells #[.slice (some ⟨w.heap.size + 1, 0, none⟩) (512 * n.toNat) (512 * n.toNat)] 174 (0, 0)) ∧
      w'.heap[w.heap.size + 3]? = some (.cells #[.int .i64 n, .int .u64 1, .int .u64 0] 177 (0, 0)) := by
  have hg0 : 0 < w.heap.size := block_lt_of_cell hg
  go_enter Tryz.func27, Tryz.ntmps27
  go_wp2_with (first
    | (go_at_call 47; refine (arenaNew _ _ (by omega) (by omega)).mono ?_; rintro e w' ⟨rfl, rfl⟩)
    | (go_at_call 48; refine (poolNew _ _ (by omega) (by omega)).mono ?_; rintro e w' ⟨rfl, rfl⟩))
  refine (poolTake_fresh _ n _ h0 ?_ ?_ ?_ ?_).mono ?_
  · have h2 : (0 : Nat) ≠ w.heap.size := by omega
    simp [go_sem]
    rw [World.cell?_alloc_old]
    · exact hg
    · exact h2
  · simp [go_sem]
  · simp [go_sem]
  · simp [go_sem]
  rintro e w' ⟨rfl, rfl⟩
  go_wp2
  go_ret2
  have hn : (n * 512).toNat = 512 * n.toNat := by omega
  refine ⟨rfl, ?_, ?_, ?_, ?_, ?_, ?_⟩
  · refine Below.drew ?_
    exact ((((Below.refl _ _).alloc (Nat.le_refl _) _).alloc (by simp) _).alloc (by simp; omega) _).alloc (by simp; omega) _
  · simp
  · rw [slabNew0, ← zero_slab]
    simp only [get_alloc, get_drew, World.size_alloc]
    repeat (first | rw [if_pos trivial] | rw [if_pos (by omega)] | rw [if_neg (by omega)])
  · simp only [get_alloc, get_drew, World.size_alloc, hn]
    repeat (first | rw [if_pos trivial] | rw [if_pos (by omega)] | rw [if_neg (by omega)])
  · simp only [get_alloc, get_drew, World.size_alloc, hn]
    repeat (first | rw [if_pos trivial] | rw [if_pos (by omega)] | rw [if_neg (by omega)])
  · simp only [get_alloc, get_drew, World.size_alloc]
    repeat (first | rw [if_pos trivial] | rw [if_pos (by omega)] | rw [if_neg (by omega)])
end Go.Proofs.YtkkfacgbfjmckaaGreatDoor

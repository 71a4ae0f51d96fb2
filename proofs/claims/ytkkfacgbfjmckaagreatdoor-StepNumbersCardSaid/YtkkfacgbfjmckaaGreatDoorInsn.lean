/- insn.Check, over its parts: the row of an operation, its words, whether a number is over. -/
import Derived.Test.YtkkfacgbfjmckaaGreatDoorProg
import Derived.Test.YtkkfacgbfjmckaaGreatDoorFr
namespace Go.Proofs.YtkkfacgbfjmckaaGreatDoor
open Go.RowKit
set_option maxHeartbeats 1000000
set_option maxRecDepth 20000

/-- The rows of operations: the greatest A, B, C, the least and the greatest Imm. -/
def rowTab : List (List Int) := [[0, 0, 0, 0, 0], [9, 9, 0, 0, 0], [9, 0, 0, 0, 4294967295], [9, 9, 11, 0, 0], [9, 0, 11, 0, 4294967295], [0, 0, 0, 1, 127],
  [9, 9, 9, 1, 127], [9, 255, 9, 1, 127], [9, 0, 7, 0, 0], [9, 0, 7, 0, 0], [9, 9, 11, 0, 4294967295], [9, 9, 11, 0, 9], [9, 9, 11, 0, 4294967295], [9, 9, 11, 0, 9],
  [0, 0, 22, 0, 4294967295], [0, 0, 0, 0, 0]]
def rowAt (op : Int) (i : Nat) : Int := (rowTab.getD op.toNat []).getD i 0
def rowIs (op : Int) : Bool := decide (1 ≤ op ∧ op ≤ 15)

theorem rowAt_out {op : Int} (h : op < 1 ∨ 15 < op) (h0 : 0 ≤ op) (i : Nat) : rowAt op i = 0 := by
  unfold rowAt
  by_cases hz : op = 0
  · subst hz
    have : i = 0 ∨ i = 1 ∨ i = 2 ∨ i = 3 ∨ i = 4 ∨ 5 ≤ i := by omega
    rcases this with rfl | rfl | rfl | rfl | rfl | h5
    · rfl
    · rfl
    · rfl
    · rfl
    · rfl
    · simp [rowTab, List.getD_eq_getElem?_getD]
      rw [List.getElem?_eq_none (by simpa using h5)]; rfl
  · have : rowTab.getD op.toNat [] = [] := by
      rw [List.getD_eq_getElem?_getD, List.getElem?_eq_none (by simp [rowTab]; omega)]; rfl
    rw [this]; rfl

/-- The array of rows, as it is built. -/
def rowCells : Array Value := ⟨(rowTab.flatten.map (Value.int .u32))⟩
theorem rowCells_at {op : Nat} (h0 : 1 ≤ op) (h1 : op ≤ 15) {i : Nat} (hi : i < 5) : rowCells[op * 5 + i]? = some (.int .u32 (rowAt op i)) := by
  have : ∀ op : Fin 16, ∀ i : Fin 5, rowCells[op.1 * 5 + i.1]? = some (.int .u32 (rowAt op.1 i.1)) := by
    intro op i
    unfold rowCells
    match op, i with
    | ⟨op, hop⟩, ⟨i, hi⟩ =>
      have : op = 0 ∨ op = 1 ∨ op = 2 ∨ op = 3 ∨ op = 4 ∨ op = 5 ∨ op = 6 ∨ op = 7 ∨ op = 8 ∨ op = 9 ∨ op = 10 ∨ op = 11 ∨ op = 12 ∨ op = 13 ∨ op = 14 ∨ op = 15 := by omega
      have hi' : i = 0 ∨ i = 1 ∨ i = 2 ∨ i = 3 ∨ i = 4 := by omega
      rcases this with rfl | rfl | rfl | rfl | rfl | rfl | rfl | rfl | rfl | rfl | rfl | rfl | rfl | rfl | rfl | rfl <;> rcases hi' with rfl | rfl | rfl | rfl | rfl <;> rfl
  exact this ⟨op, by omega⟩ ⟨i, hi⟩

theorem insnRow_out (op : Int) (h : op < 1 ∨ 15 < op) (w : World) :
    Calls Tryz.prog 58 #[.int .u8 op] w fun e w' => e = .returned (.tuple #[.agg #[.int .u32 0, .int .u32 0, .int .u32 0, .int .u32 0, .int .u32 0], .bool false]) ∧ Below w.heap.size w w' := by
  have hd : op < 1 ∨ ¬ op < 1 ∧ 15 < op := by omega
  clear h
  rcases hd with h | ⟨h, h'⟩
  all_goals
    go_enter Tryz.func58, Tryz.ntmps58
    go_wp2_with (first
      | (refine wpList_build_as rfl 186 _ rfl rowCells (by kernel_rfl) ?_)
      | (refine wpList_store_last rfl 186 (.tmp 4) (.tmp 21) rfl _ 186 Tryz.zeroCells186 rowCells rfl _ rfl (by simp) rfl (by kernel_rfl) (by kernel_rfl) (by kernel_rfl) ?_))
    refine bodyPost_ret (v := .tuple #[.agg #[.int .u32 0, .int .u32 0, .int .u32 0, .int .u32 0, .int .u32 0], .bool false]) (by simp [results, Tryz.results58, go_sem]) rfl ⟨rfl, ?_⟩
    exact ((Below.refl _ _).alloc (Nat.le_refl _) _).alloc (by simp) _

theorem insnRow_test (op : Nat) (h0 : 1 ≤ op) (h1 : op ≤ 15) (w : World) :
    Calls Tryz.prog 58 #[.int .u8 op] w fun e w' => e = .returned (.tuple #[.agg #[.int .u32 (rowAt op 0), .int .u32 (rowAt op 1), .int .u32 (rowAt op 2), .int .u32 (rowAt op 3), .int .u32 (rowAt op 4)], .bool true]) ∧ Below w.heap.size w w' := by
  have r0 : rowCells[op * 5]? = _ := rowCells_at h0 h1 (i := 0) (by omega)
  have r1 := rowCells_at h0 h1 (i := 1) (by omega)
  have r2 := rowCells_at h0 h1 (i := 2) (by omega)
  have r3 := rowCells_at h0 h1 (i := 3) (by omega)
  have r4 := rowCells_at h0 h1 (i := 4) (by omega)
  go_enter Tryz.func58, Tryz.ntmps58
  go_wp2_with (first
    | (refine wpList_build_as rfl 186 _ rfl rowCells (by kernel_rfl) ?_)
    | (refine wpList_store_last rfl 186 (.tmp 4) (.tmp 21) rfl _ 186 Tryz.zeroCells186 rowCells rfl _ rfl (by simp) rfl (by kernel_rfl) (by kernel_rfl) (by kernel_rfl) ?_))
  generalize rowAt op 0 = x0 at *
  generalize rowAt op 1 = x1 at *
  generalize rowAt op 2 = x2 at *
  generalize rowAt op 3 = x3 at *
  generalize rowAt op 4 = x4 at *
  refine bodyPost_ret (v := .tuple #[.agg #[.int .u32 x0, .int .u32 x1, .int .u32 x2, .int .u32 x3, .int .u32 x4], .bool true]) (by simp [results, Tryz.results58, go_sem]) rfl ⟨rfl, ?_⟩
  exact ((Below.refl _ _).alloc (Nat.le_refl _) _).alloc (by simp) _
end Go.Proofs.YtkkfacgbfjmckaaGreatDoor

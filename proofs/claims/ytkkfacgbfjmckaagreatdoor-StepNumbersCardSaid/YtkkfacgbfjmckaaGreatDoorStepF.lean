/- Inst.Step where the instance ended, or is nil; Done; Pc; alu.Do of 7 and 1. -/
import Derived.Test.YtkkfacgbfjmckaaGreatDoorProg
import Derived.Test.YtkkfacgbfjmckaaGreatDoorFr
import Derived.Test.YtkkfacgbfjmckaaGreatDoorStepA
namespace Go.Proofs.YtkkfacgbfjmckaaGreatDoor
open Go.RowKit Go.Shelf
set_option maxRecDepth 100000
set_option maxHeartbeats 2000000

theorem step_ended (bi bp cap n pc : Nat) (p : Nat → Ins) (r s : Nat → Int) (who : Int) (wv : Value) (w : World) (hI : InstAt w bi bp cap n p r s pc who false) :
    Calls Tryz.prog 9 #[.pointer (some ⟨bi, 0, none⟩), wv] w fun e w' => e = .returned (.agg #[.int .i64 who, .int .i64 pc, .int .u64 0, .bool false, .bool false, .int .i64 6]) ∧
      InstAt w' bi bp cap n p r s pc who false ∧ Kept (fun k => k = bi) w w' := by
  have c19 : w.cell? ⟨bi, 19, none⟩ = some (.int .i64 pc) := (cell_of_heap hI.block).trans rfl
  have c20 : w.cell? ⟨bi, 20, none⟩ = some (.int .i64 who) := (cell_of_heap hI.block).trans rfl
  have c21 : w.cell? ⟨bi, 21, none⟩ = some (.bool false) := (cell_of_heap hI.block).trans rfl
  have hlt := lt_of_heap hI.block
  have hlt1 : bi < w.heap.size + 1 := by omega
  have hlt2 : bi < w.heap.size + 1 + 1 := by omega
  have HI := Lib.hid hI
  clear hI
  go_enter Tryz.func9, Tryz.ntmps9
  go_wp2
  go_region
  go_wp2
  refine bodyPost_ret (v := _) (by simp [results, Tryz.results9, go_sem]) rfl ⟨rfl, ((HI.out.alloc _).alloc _).drew, (((Kept.refl (fun k => k = bi) w).alloc _).alloc _).drew⟩

theorem step_nil (wv : Value) (w : World) :
    Calls Tryz.prog 9 #[.pointer none, wv] w fun e w' => e = .returned (.agg #[.int .i64 0, .int .i64 0, .int .u64 0, .bool false, .bool false, .int .i64 6]) ∧ Below w.heap.size w w' := by
  go_enter Tryz.func9, Tryz.ntmps9
  go_wp2
  refine bodyPost_ret (v := _) (by simp [results, Tryz.results9, go_sem]) rfl ⟨rfl, (Below.refl _ _).alloc (Nat.le_refl _) _⟩

theorem done_any (bi : Nat) (g : Bool) (w : World) (h : w.cell? ⟨bi, 21, none⟩ = some (.bool g)) :
    Calls Tryz.prog 11 #[.pointer (some ⟨bi, 0, none⟩)] w fun e w' => e = .returned (.bool (!g)) ∧ w = w' := by
  go_enter Tryz.func11, Tryz.ntmps11
  go_wp2
  go_ret
  exact ⟨rfl, rfl⟩

theorem done_nil (w : World) :
    Calls Tryz.prog 11 #[.pointer none] w fun e w' => e = .returned (.bool true) ∧ w = w' := by
  go_enter Tryz.func11, Tryz.ntmps11
  go_wp2
  go_ret
  exact ⟨rfl, rfl⟩

theorem pc_any (bi : Nat) (pc : Int) (w : World) (h : w.cell? ⟨bi, 19, none⟩ = some (.int .i64 pc)) :
    Calls Tryz.prog 14 #[.pointer (some ⟨bi, 0, none⟩)] w fun e w' => e = .returned (.int .i64 pc) ∧ w = w' := by
  go_enter Tryz.func14, Tryz.ntmps14
  go_wp2
  go_ret
  exact ⟨rfl, rfl⟩

theorem pc_nil (w : World) :
    Calls Tryz.prog 14 #[.pointer none] w fun e w' => e = .returned (.int .i64 0) ∧ w = w' := by
  go_enter Tryz.func14, Tryz.ntmps14
  go_wp2
  go_ret
  exact ⟨rfl, rfl⟩

theorem alu_7_1 (w : World) : Calls Tryz.prog 10 #[.int .i64 1, .int .u64 7, .int .u64 1] w fun e w' => e = .returned (.tuple #[.int .u64 8, .int .i64 0]) ∧ w = w' := by
  go_enter Tryz.func10, Tryz.ntmps10
  go_wp2
  go_ret2
  exact ⟨rfl, rfl⟩
end Go.Proofs.YtkkfacgbfjmckaaGreatDoor

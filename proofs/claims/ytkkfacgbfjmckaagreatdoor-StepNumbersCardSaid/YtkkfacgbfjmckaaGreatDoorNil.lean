/- A world of no types and no maps is made: heap.New, grace.New and world.New over nil slices. -/
import Derived.Test.YtkkfacgbfjmckaaGreatDoorProg
import Derived.Test.YtkkfacgbfjmckaaGreatDoorFr
import Derived.Test.YtkkfacgbfjmckaaGreatDoorNew
namespace Go.Proofs.YtkkfacgbfjmckaaGreatDoor
open Go.RowKit
set_option maxHeartbeats 400000
set_option maxRecDepth 20000

theorem typesCheck_nil (w : World) : Calls Tryz.prog 26 #[.slice none 0 0] w fun e w' => e = .returned (.tuple #[.int .i64 0, .int .i64 0]) ∧ w = w' := by
  go_enter Tryz.func26, Tryz.ntmps26
  go_wp2
  go_rounds 1
  go_rounds 1
  go_ret2
  exact ⟨rfl, rfl⟩

theorem graceNew (w : World) : Calls Tryz.prog 16 #[] w fun e w' => e = .returned (.pointer (some ⟨w.heap.size, 0, none⟩)) ∧
    w.alloc (.cells #[.int .i64 0, .int .i64 0, .int .i64 0, .int .i64 0, .int .i64 0, .int .i64 0, .int .i64 0, .int .i64 0, .int .i64 0, .slice none 0 0] 98) = w' := by
  go_enter Tryz.func16, Tryz.ntmps16
  go_wp2
  go_ret
  exact ⟨rfl, rfl⟩

theorem heapNew_nil (n : Int) (w : World) (h0 : 1 ≤ n) (h1 : n ≤ 128) (hg : w.cell? ⟨0, 0, none⟩ = some (.int .u8 0)) :
    Calls Tryz.prog 15 #[.slice none 0 0, .int .i64 n] w fun e w' => (∃ b, e = .returned (.tuple #[.pointer (some ⟨b, 0, none⟩), .int .i64 0])) ∧ Below w.heap.size w w' := by
  have hmm := @run_makeMap Tryz.prog
  go_enter Tryz.func15, Tryz.ntmps15
  go_wp2_with (first
    | (go_at_call 26; refine (typesCheck_nil _).mono ?_; rintro e w' ⟨rfl, rfl⟩)
    | (go_at_call 27; refine (slabNew n _ h0 h1 hg).mono ?_; rintro e w1 ⟨rfl, hb, hs, -, -, -, -⟩))
  go_rounds 1
  go_ret2
  exact ⟨⟨_, rfl⟩, (hb.alloc (by omega) _).alloc (by simp; omega) _⟩

theorem worldNew_nil (n : Int) (w : World) (h0 : 1 ≤ n) (h1 : n ≤ 128) (hg : w.cell? ⟨0, 0, none⟩ = some (.int .u8 0)) :
    Calls Tryz.prog 7 #[.slice none 0 0, .slice none 0 0, .int .i64 n] w fun e w' => (∃ b, e = .returned (.tuple #[.pointer (some ⟨b, 0, none⟩), .int .i64 0])) ∧ Below w.heap.size w w' := by
  go_enter Tryz.func7, Tryz.ntmps7
  go_wp2_with (first
    | (go_at_call 15; refine (heapNew_nil n _ h0 h1 hg).mono ?_; rintro e w1 ⟨⟨b, rfl⟩, hb⟩)
    | (go_at_call 16; refine (graceNew _).mono ?_; rintro e w' ⟨rfl, rfl⟩))
  go_rounds 1
  go_ret2
  exact ⟨⟨_, rfl⟩, (hb.alloc hb.size _).alloc (by have := hb.size; simp; omega) _⟩
end Go.Proofs.YtkkfacgbfjmckaaGreatDoor

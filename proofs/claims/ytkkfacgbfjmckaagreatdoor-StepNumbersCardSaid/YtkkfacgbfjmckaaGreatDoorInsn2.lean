/- insn.Check, second part: words, over, Check. -/
import Derived.Test.YtkkfacgbfjmckaaGreatDoorProg
import Derived.Test.YtkkfacgbfjmckaaGreatDoorFr
import Derived.Test.YtkkfacgbfjmckaaGreatDoorInsn
namespace Go.Proofs.YtkkfacgbfjmckaaGreatDoor
open Go.RowKit
set_option maxHeartbeats 1000000
set_option maxRecDepth 20000

def hasWords (op : Int) : Bool := op == 3 || op == 4 || op == 6 || op == 7 || op == 14

theorem words_no (op : Int) (h3 : (op == 3) = false) (h4 : (op == 4) = false) (h6 : (op == 6) = false) (h7 : (op == 7) = false) (h14 : (op == 14) = false) (w : World) :
    Calls Tryz.prog 60 #[.int .u8 op] w fun e w' => e = .returned (.slice none 0 0) ∧ w = w' := by
  go_enter Tryz.func60, Tryz.ntmps60
  go_wp2
  go_ret
  exact ⟨rfl, rfl⟩

theorem words_yes (op : Int) (h : op = 3 ∨ op = 4 ∨ op = 6 ∨ op = 7 ∨ op = 14) (w : World) :
    Calls Tryz.prog 60 #[.int .u8 op] w fun e w' => (∃ a n c, e = .returned (.slice (some a) n c)) ∧ Below w.heap.size w w' := by
  rcases h with rfl | rfl | rfl | rfl | rfl
  all_goals
    go_enter Tryz.func60, Tryz.ntmps60
    go_wp2
    go_ret
    exact ⟨⟨_, _, _, rfl⟩, (Below.refl _ _).alloc (Nat.le_refl _) _⟩

def overB (v most : Int) : Bool := decide (most < v) && decide (0 < most)

theorem over_any (v m : Int) (w : World) : Calls Tryz.prog 59 #[.int .u32 v, .int .u32 m] w fun e w' => e = .returned (.bool (overB v m)) ∧ w = w' := by
  by_cases h1 : m < v <;> by_cases h2 : 0 < m
  all_goals
    go_enter Tryz.func59, Tryz.ntmps59
    go_wp2
    go_ret
    exact ⟨by simp [overB, h1, h2], rfl⟩
end Go.Proofs.YtkkfacgbfjmckaaGreatDoor

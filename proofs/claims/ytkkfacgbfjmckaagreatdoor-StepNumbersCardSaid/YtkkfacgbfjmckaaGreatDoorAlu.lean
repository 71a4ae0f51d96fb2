/- alu.Do and alu.Holds: each answers one thing for the same numbers, and leaves the world alone. -/
import Derived.Test.YtkkfacgbfjmckaaGreatDoorProg
import Derived.Test.YtkkfacgbfjmckaaGreatDoorFr
namespace Go.Proofs.YtkkfacgbfjmckaaGreatDoor
open Go.RowKit
set_option maxRecDepth 100000
set_option maxHeartbeats 2000000

theorem aluDo_ex (c : Int) (h0 : 1 ≤ c) (h1 : c ≤ 11) (a b : Int) (b0 : 0 ≤ b) (b1 : b < 18446744073709551616) : ∃ v : Int, ∀ w : World,
    Calls Tryz.prog 10 #[.int .i64 c, .int .u64 a, .int .u64 b] w fun e w' => e = .returned (.tuple #[.int .u64 v, .int .i64 0]) ∧ w = w' := by
  have hc : c = 1 ∨ c = 2 ∨ c = 3 ∨ c = 4 ∨ c = 5 ∨ c = 6 ∨ c = 7 ∨ c = 8 ∨ c = 9 ∨ c = 10 ∨ c = 11 := by omega
  have hk0 : 0 ≤ b % 64 := by omega
  have hk1 : b % 64 < 64 := by omega
  clear h0 h1
  rcases hc with rfl | rfl | rfl | rfl | rfl | rfl | rfl | rfl | rfl | rfl | rfl
  case inr.inr.inr.inl =>
    by_cases hb : b = 0
    · subst hb
      refine ⟨0, fun w => ?_⟩
      go_enter Tryz.func10, Tryz.ntmps10
      go_wp2
      go_ret2
      exact ⟨rfl, rfl⟩
    · have hb' : (b == 0) = false := by simpa using hb
      apply Exists.intro; intro w
      go_enter Tryz.func10, Tryz.ntmps10
      go_wp2
      go_ret2
      exact ⟨rfl, rfl⟩
  case inr.inr.inr.inr.inl =>
    by_cases hb : b = 0
    · subst hb
      refine ⟨a, fun w => ?_⟩
      go_enter Tryz.func10, Tryz.ntmps10
      go_wp2
      go_ret2
      exact ⟨rfl, rfl⟩
    · have hb' : (b != 0) = true := by simpa using hb
      apply Exists.intro; intro w
      go_enter Tryz.func10, Tryz.ntmps10
      go_wp2
      go_ret2
      exact ⟨rfl, rfl⟩
  all_goals
    apply Exists.intro; intro w
    go_enter Tryz.func10, Tryz.ntmps10
    go_wp2
    go_ret2
    exact ⟨rfl, rfl⟩

theorem aluHolds_ex (c : Int) (h0 : 1 ≤ c) (h1 : c ≤ 9) (a b : Int) : ∃ v : Bool, ∀ w : World,
    Calls Tryz.prog 12 #[.int .i64 c, .int .u64 a, .int .u64 b] w fun e w' => e = .returned (.tuple #[.bool v, .int .i64 0]) ∧ w = w' := by
  have hc : c = 1 ∨ c = 2 ∨ c = 3 ∨ c = 4 ∨ c = 5 ∨ c = 6 ∨ c = 7 ∨ c = 8 ∨ c = 9 := by omega
  clear h0 h1
  rcases hc with rfl | rfl | rfl | rfl | rfl | rfl | rfl | rfl | rfl
  all_goals
    apply Exists.intro; intro w
    go_enter Tryz.func12, Tryz.ntmps12
    go_wp2
    go_ret2
    exact ⟨rfl, rfl⟩
end Go.Proofs.YtkkfacgbfjmckaaGreatDoor

/- flow.Check, whole; step.New; Done, Pc. -/
import Derived.Test.YtkkfacgbfjmckaaGreatDoorProg
import Derived.Test.YtkkfacgbfjmckaaGreatDoorFr
import Derived.Test.YtkkfacgbfjmckaaGreatDoorFlow2
namespace Go.Proofs.YtkkfacgbfjmckaaGreatDoor
open Go.RowKit Go.Shelf
set_option maxRecDepth 100000
set_option maxHeartbeats 2000000

theorem flowCheck_out (a : Option Addr) (n cap : Nat) (w : World) (h : n = 0 ∨ 128 < n) :
    Calls Tryz.prog 18 #[.slice a n cap] w fun e w' => e = .returned (.tuple #[.int .i64 0, .int .i64 11]) ∧ Below w.heap.size w w' := by
  have hB : ∀ o1 o2 o3, Below w.heap.size w (((w.alloc o1).alloc o2).alloc o3) := fun _ _ _ => (((Below.refl _ _).alloc (Nat.le_refl _) _).alloc (by simp) _).alloc (by simp; omega) _
  rcases h with rfl | h
  · go_enter Tryz.func18, Tryz.ntmps18
    go_wp2
    refine bodyPost_ret (v := .tuple #[.int .i64 0, .int .i64 11]) (by simp [results, Tryz.results18, go_sem]) rfl ⟨rfl, hB _ _ _⟩
  · have h0 : ((n : Int) == 0) = false := by simp; omega
    go_enter Tryz.func18, Tryz.ntmps18
    go_wp2
    refine bodyPost_ret (v := .tuple #[.int .i64 0, .int .i64 11]) (by simp [results, Tryz.results18, go_sem]) rfl ⟨rfl, hB _ _ _⟩

theorem flowCheck_any (b off n cap : Nat) (p : Nat → Ins) (w : World) (hp : HasProg w b off n p) (hok : ∀ i, i < n → (p i).ok) (hb : b < w.heap.size) :
    Calls Tryz.prog 18 #[.slice (some ⟨b, off, none⟩) n cap] w fun e w' => e = .returned (.tuple #[.int .i64 (flowCheck p n).1, .int .i64 (flowCheck p n).2]) ∧ Below w.heap.size w w' := by
  unfold flowCheck
  by_cases h : n = 0 ∨ 128 < n
  · rw [if_pos h]; exact flowCheck_out _ n cap w h
  · rw [if_neg h]; exact flowCheck_yes b off n cap p w (by omega) (by omega) hp hok hb
end Go.Proofs.YtkkfacgbfjmckaaGreatDoor

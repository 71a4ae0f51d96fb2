/- Inst.Step: what a step of an instance does, by the operation: save, load, jcci. -/
import Derived.Test.YtkkfacgbfjmckaaGreatDoorProg
import Derived.Test.YtkkfacgbfjmckaaGreatDoorFr
import Derived.Test.YtkkfacgbfjmckaaGreatDoorStepA
import Derived.Deep.RegionWith
namespace Go.Proofs.YtkkfacgbfjmckaaGreatDoor
open Go.RowKit Go.Shelf
set_option maxRecDepth 100000
set_option maxHeartbeats 2000000

theorem setClosure5 (tb to : Nat) (v who pc : Int) (x : Value) (o1 : Array Value) (t1 : TypeId) (o3 : Array Value) (t3 : TypeId) (w : World) (ht : w.cell? ⟨tb, to, none⟩ = some x) (hf : w.frozen? ⟨tb, to, none⟩ = false) (hlt : tb < w.heap.size) (hlt1 : tb < w.heap.size + 1) (hlt2 : tb < w.heap.size + 1 + 1) :
    Calls Tryz.prog 19 #[.pointer (some ⟨tb, to, none⟩), .int .u64 v, .pointer (some ⟨w.heap.size + 1, 0, none⟩)]
      (((w.alloc (.cells o1 t1)).alloc (.cells #[.int .i64 who, .int .i64 pc, .int .u64 0, .bool false, .bool false, .int .i64 0] 38)).alloc (.cells o3 t3)).drew.drew.drew.drew.drew fun e w' => e = .returned (.tuple #[]) ∧
      ((((w.setCell ⟨tb, to, none⟩ (.int .u64 v)).alloc (.cells o1 t1)).alloc (.cells #[.int .i64 who, .int .i64 pc, .int .u64 v, .bool false, .bool false, .int .i64 0] 38)).alloc (.cells o3 t3)).drew.drew.drew.drew.drew = w' := by
  go_enter Tryz.func19, Tryz.ntmps19
  go_wp2
  go_end0
  exact ⟨rfl, rfl⟩

theorem step_save (bi bp cap n pc : Nat) (p : Nat → Ins) (r s : Nat → Int) (who : Int) (a b c : Nat) (wv : Value) (w : World) (hpc : pc < n) (hn : n ≤ 128) (ha : a < 10) (hb : b < 10) (hc : c < 8)
    (hI : InstAt w bi bp cap n p r s pc who true) (hx : p pc = ⟨8, a, b, c, 0⟩) :
    Calls Tryz.prog 9 #[.pointer (some ⟨bi, 0, none⟩), wv] w fun e w' => e = .returned (.agg #[.int .i64 who, .int .i64 pc, .int .u64 (r a), .bool false, .bool false, .int .i64 0]) ∧
      InstAt w' bi bp cap n p r (upd s c (r a)) (pc + 1) who true ∧ Kept (fun k => k = bi) w w' := by
  obtain ⟨c0, c19, c20, c21, p0, p1, p2, p3, p4, hreg, hslot, hfree, hlt, hplt⟩ := hI.meets hpc
  rw [hx] at p0 p1 p2 p3 p4
  dsimp only at p0 p1 p2 p3 p4
  have hra := hreg a ha
  have hrb := hreg b hb
  have hfa := hfree (1 + a)
  have hsc := hslot c hc
  have hfc := hfree (11 + c)
  have hf19 := hfree 19
  have hf21 := hfree 21
  have hlt1 : bi < w.heap.size + 1 := by omega
  have hlt2 : bi < w.heap.size + 1 + 1 := by omega
  have hlt3 : bi < w.heap.size + 1 + 1 + 1 := by omega
  have hplt1 : bp < w.heap.size + 1 := by omega
  have hplt2 : bp < w.heap.size + 1 + 1 := by omega
  have HI := Lib.hid hI
  clear hreg hslot hfree hI hx
  go_enter Tryz.func9, Tryz.ntmps9
  go_wp2
  go_region
  go_wp2
  go_region
  go_wp2
  go_region
  go_wp2
  go_region
  go_wp2
  go_region_with (go_at_call 19; refine (setClosure5 _ _ _ who pc _ _ _ _ _ _ hsc hfc hlt hlt1 hlt2).mono ?_; rintro e w' ⟨rfl, rfl⟩)
  all_goals
    go_wp2
    refine bodyPost_ret (v := _) (by simp [results, Tryz.results9, go_sem]) rfl ⟨rfl, (((((((HI.out.setSlot hc _).setPc _).setGoing _).alloc _).alloc _).alloc _)).drew.drew.drew.drew.drew, ((((((((Kept.refl (fun k => k = bi) w).setCell (fun _ => rfl) _).setCell (fun _ => rfl) _).setCell (fun _ => rfl) _).alloc _).alloc _).alloc _)).drew.drew.drew.drew.drew⟩

end Go.Proofs.YtkkfacgbfjmckaaGreatDoor

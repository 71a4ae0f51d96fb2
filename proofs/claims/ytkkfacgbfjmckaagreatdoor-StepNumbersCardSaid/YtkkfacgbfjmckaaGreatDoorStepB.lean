/- Inst.Step: what a step of an instance does, by the operation: imm, alui, exit. -/
import Derived.Test.YtkkfacgbfjmckaaGreatDoorProg
import Derived.Test.YtkkfacgbfjmckaaGreatDoorFr
import Derived.Test.YtkkfacgbfjmckaaGreatDoorStepA
namespace Go.Proofs.YtkkfacgbfjmckaaGreatDoor
open Go.RowKit Go.Shelf
set_option maxRecDepth 100000
set_option maxHeartbeats 2000000

theorem step_imm (bi bp cap n pc : Nat) (p : Nat → Ins) (r s : Nat → Int) (who : Int) (a b : Nat) (imm : Int) (wv : Value) (w : World) (hpc : pc < n) (hn : n ≤ 128) (ha : a < 10) (hb : b < 10) (i0 : 0 ≤ imm) (i1 : imm ≤ 4294967295)
    (hI : InstAt w bi bp cap n p r s pc who true) (hx : p pc = ⟨2, a, b, 0, imm⟩) :
    Calls Tryz.prog 9 #[.pointer (some ⟨bi, 0, none⟩), wv] w fun e w' => e = .returned (.agg #[.int .i64 who, .int .i64 pc, .int .u64 (imm), .bool false, .bool false, .int .i64 0]) ∧
      InstAt w' bi bp cap n p (upd r a imm) s (pc + 1) who true ∧ Kept (fun k => k = bi) w w' := by
  obtain ⟨c0, c19, c20, c21, p0, p1, p2, p3, p4, hreg, hslot, hfree, hlt, hplt⟩ := hI.meets hpc
  rw [hx] at p0 p1 p2 p3 p4
  dsimp only at p0 p1 p2 p3 p4
  have hra := hreg a ha
  have hrb := hreg b hb
  have hfa := hfree (1 + a)
  have hf19 := hfree 19
  have hf21 := hfree 21
  have hlt1 : bi < w.heap.size + 1 := by omega
  have hlt2 : bi < w.heap.size + 1 + 1 := by omega
  have hlt3 : bi < w.heap.size + 1 + 1 + 1 := by omega
  have hplt1 : bp < w.heap.size + 1 := by omega
  have hplt2 : bp < w.heap.size + 1 + 1 := by omega
  have HI := Lib.hid hI
  clear hreg hslot hfree hI hx
  go_enter Tryz.func9, Tryz.ntmps9
  go_wp2
  go_region
  go_wp2
  go_region
  go_wp2
  go_region
  go_wp2
  go_region
  go_wp2
  refine bodyPost_ret (v := _) (by simp [results, Tryz.results9, go_sem]) rfl ⟨rfl, (((((((HI.out.setReg ha _).setPc _).setGoing _).alloc _).alloc _).alloc _)).drew.drew.drew.drew, ((((((((Kept.refl (fun k => k = bi) w).setCell (fun _ => rfl) _).setCell (fun _ => rfl) _).setCell (fun _ => rfl) _).alloc _).alloc _).alloc _)).drew.drew.drew.drew⟩

theorem step_exit (bi bp cap n pc : Nat) (p : Nat → Ins) (r s : Nat → Int) (who : Int) (a b : Nat) (wv : Value) (w : World) (hpc : pc < n) (hn : n ≤ 128) (ha : a < 10) (hb : b < 10)
    (hI : InstAt w bi bp cap n p r s pc who true) (hx : p pc = ⟨15, a, b, 0, 0⟩) :
    Calls Tryz.prog 9 #[.pointer (some ⟨bi, 0, none⟩), wv] w fun e w' => e = .returned (.agg #[.int .i64 who, .int .i64 pc, .int .u64 (r 0), .bool false, .bool true, .int .i64 0]) ∧
      InstAt w' bi bp cap n p r s (pc) who false ∧ Kept (fun k => k = bi) w w' := by
  obtain ⟨c0, c19, c20, c21, p0, p1, p2, p3, p4, hreg, hslot, hfree, hlt, hplt⟩ := hI.meets hpc
  rw [hx] at p0 p1 p2 p3 p4
  dsimp only at p0 p1 p2 p3 p4
  have hra := hreg a ha
  have hrb := hreg b hb
  have hfa := hfree (1 + a)
  have hr0 := hreg 0 (by omega)
  have hf19 := hfree 19
  have hf21 := hfree 21
  have hlt1 : bi < w.heap.size + 1 := by omega
  have hlt2 : bi < w.heap.size + 1 + 1 := by omega
  have hlt3 : bi < w.heap.size + 1 + 1 + 1 := by omega
  have hplt1 : bp < w.heap.size + 1 := by omega
  have hplt2 : bp < w.heap.size + 1 + 1 := by omega
  have HI := Lib.hid hI
  clear hreg hslot hfree hI hx
  go_enter Tryz.func9, Tryz.ntmps9
  go_wp2
  go_region
  go_wp2
  go_region
  go_wp2
  go_region
  go_wp2
  go_region
  go_wp2
  refine bodyPost_ret (v := _) (by simp [results, Tryz.results9, go_sem]) rfl ⟨rfl, ((((((HI.out.setPc _).setGoing _).alloc _).alloc _).alloc _)).drew.drew.drew.drew, (((((((Kept.refl (fun k => k = bi) w).setCell (fun _ => rfl) _).setCell (fun _ => rfl) _).alloc _).alloc _).alloc _)).drew.drew.drew.drew⟩

theorem step_alui (bi bp cap n pc : Nat) (p : Nat → Ins) (r s : Nat → Int) (who : Int) (a b : Nat) (c imm v : Int) (wv : Value) (w : World) (hpc : pc < n) (hn : n ≤ 128) (ha : a < 10) (hb : b < 10) (k0 : 0 ≤ c) (k1 : c ≤ 255) (i0 : 0 ≤ imm) (i1 : imm ≤ 4294967295) (hA : ∀ w, Calls Tryz.prog 10 #[.int .i64 c, .int .u64 (r a), .int .u64 imm] w fun e w' => e = .returned (.tuple #[.int .u64 v, .int .i64 0]) ∧ w = w')
    (hI : InstAt w bi bp cap n p r s pc who true) (hx : p pc = ⟨4, a, b, c, imm⟩) :
    Calls Tryz.prog 9 #[.pointer (some ⟨bi, 0, none⟩), wv] w fun e w' => e = .returned (.agg #[.int .i64 who, .int .i64 pc, .int .u64 (v), .bool false, .bool false, .int .i64 0]) ∧
      InstAt w' bi bp cap n p (upd r a v) s (pc + 1) who true ∧ Kept (fun k => k = bi) w w' := by
  obtain ⟨c0, c19, c20, c21, p0, p1, p2, p3, p4, hreg, hslot, hfree, hlt, hplt⟩ := hI.meets hpc
  rw [hx] at p0 p1 p2 p3 p4
  dsimp only at p0 p1 p2 p3 p4
  have hra := hreg a ha
  have hrb := hreg b hb
  have hfa := hfree (1 + a)
  have HA := Lib.hid (fun w => (hA w).mono fun e w' h => (⟨h.1, h.2.symm⟩ : e = .returned (.tuple #[.int .u64 v, .int .i64 0]) ∧ w' = w))
  clear hA
  have hf19 := hfree 19
  have hf21 := hfree 21
  have hlt1 : bi < w.heap.size + 1 := by omega
  have hlt2 : bi < w.heap.size + 1 + 1 := by omega
  have hlt3 : bi < w.heap.size + 1 + 1 + 1 := by omega
  have hplt1 : bp < w.heap.size + 1 := by omega
  have hplt2 : bp < w.heap.size + 1 + 1 := by omega
  have HI := Lib.hid hI
  clear hreg hslot hfree hI hx
  go_enter Tryz.func9, Tryz.ntmps9
  go_wp2
  go_region
  go_wp2
  go_region
  go_wp2
  go_region
  go_wp2
  go_region
  go_wp2
  go_quiet ((go_at_call 10; exact (HA.out _).mono (fun _ _ h => ⟨h.1, _, h.2⟩)))
  go_wp2
  refine bodyPost_ret (v := _) (by simp [results, Tryz.results9, go_sem]) rfl ⟨rfl, (((((((HI.out.setReg ha _).setPc _).setGoing _).alloc _).alloc _).alloc _)).drewN _, ((((((((Kept.refl (fun k => k = bi) w).setCell (fun _ => rfl) _).setCell (fun _ => rfl) _).setCell (fun _ => rfl) _).alloc _).alloc _).alloc _)).drewN _⟩

end Go.Proofs.YtkkfacgbfjmckaaGreatDoor

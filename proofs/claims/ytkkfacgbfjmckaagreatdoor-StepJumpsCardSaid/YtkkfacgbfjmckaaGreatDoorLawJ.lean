/- turnbucklelaw21.StepJumps, walked. -/
import Derived.Test.YtkkfacgbfjmckaaGreatDoorProg
import Derived.Test.YtkkfacgbfjmckaaGreatDoorFr
import Derived.Test.YtkkfacgbfjmckaaGreatDoorNil
import Derived.Test.YtkkfacgbfjmckaaGreatDoorStepB
import Derived.Test.YtkkfacgbfjmckaaGreatDoorStepC
import Derived.Test.YtkkfacgbfjmckaaGreatDoorStepE
import Derived.Test.YtkkfacgbfjmckaaGreatDoorStepF
import Derived.Test.YtkkfacgbfjmckaaGreatDoorAlu
import Derived.Test.YtkkfacgbfjmckaaGreatDoorLaw0
namespace Go.Proofs.YtkkfacgbfjmckaaGreatDoor
open Go.RowKit Go.Shelf
set_option maxRecDepth 100000
set_option maxHeartbeats 0
set_option linter.unusedVariables false

def jumpsP (c k b : Int) (i : Nat) : Ins :=
  if i = 0 then ⟨8, 1, 0, k, 0⟩ else if i = 1 then ⟨2, 1, 0, 0, 0⟩ else if i = 2 then ⟨9, 3, 0, k, 0⟩ else if i = 3 then ⟨7, 3, b, c, 3⟩ else if i = 4 then ⟨2, 0, 0, 0, 1⟩
  else if i = 5 then ⟨15, 0, 0, 0, 0⟩ else if i = 6 then ⟨2, 0, 0, 0, 2⟩ else ⟨15, 0, 0, 0, 0⟩

theorem jumpsP_bad3 (c b : Int) (c0 : 1 ≤ c) (c1 : c ≤ 9) (b0 : 0 ≤ b) (b1 : b ≤ 255) : insnBad 7 3 b c 3 = 0 := by
  have e : (fun i => rowAt 7 i) = fun i => ([9, 255, 9, 1, 127] : List Int).getD i 0 := rfl
  have e0 : rowAt 7 0 = 9 := rfl
  have e1 : rowAt 7 1 = 255 := rfl
  have e2 : rowAt 7 2 = 9 := rfl
  have e3 : rowAt 7 3 = 1 := rfl
  have e4 : rowAt 7 4 = 127 := rfl
  have hc0 : ¬ c = 0 := by omega
  have hb : ¬ 255 < b := by omega
  have hc : ¬ 9 < c := by omega
  simp [insnBad, insnOf, e0, e1, e2, e3, e4, overB, hasWords, hc0, hb, hc]

theorem jumpsP_bad0 (k op a : Int) (k0 : 0 ≤ k) (k1 : k ≤ 7) (h : (op = 8 ∧ a = 1) ∨ (op = 9 ∧ a = 3)) : insnBad op a 0 k 0 = 0 := by
  have hc : ¬ 7 < k := by omega
  rcases h with ⟨rfl, rfl⟩ | ⟨rfl, rfl⟩
  · have e0 : rowAt 8 0 = 9 := rfl
    have e1 : rowAt 8 1 = 0 := rfl
    have e2 : rowAt 8 2 = 7 := rfl
    have e3 : rowAt 8 3 = 0 := rfl
    have e4 : rowAt 8 4 = 0 := rfl
    simp [insnBad, insnOf, e0, e1, e2, e3, e4, overB, hasWords, hc]
  · have e0 : rowAt 9 0 = 9 := rfl
    have e1 : rowAt 9 1 = 0 := rfl
    have e2 : rowAt 9 2 = 7 := rfl
    have e3 : rowAt 9 3 = 0 := rfl
    have e4 : rowAt 9 4 = 0 := rfl
    simp [insnBad, insnOf, e0, e1, e2, e3, e4, overB, hasWords, hc]

theorem jumpsP_at (c k b : Int) : jumpsP c k b 0 = ⟨8, 1, 0, k, 0⟩ ∧ jumpsP c k b 1 = ⟨2, 1, 0, 0, 0⟩ ∧ jumpsP c k b 2 = ⟨9, 3, 0, k, 0⟩ ∧ jumpsP c k b 3 = ⟨7, 3, b, c, 3⟩ ∧
    jumpsP c k b 4 = ⟨2, 0, 0, 0, 1⟩ ∧ jumpsP c k b 5 = ⟨15, 0, 0, 0, 0⟩ ∧ jumpsP c k b 6 = ⟨2, 0, 0, 0, 2⟩ ∧ jumpsP c k b 7 = ⟨15, 0, 0, 0, 0⟩ := ⟨rfl, rfl, rfl, rfl, rfl, rfl, rfl, rfl⟩

theorem jumpsP_on (c k b : Int) (i : Nat) (hi : i < 8) : ((jumpsP c k b i).on i) = ((jumpsP 1 0 0 i).on i) := by
  have : i = 0 ∨ i = 1 ∨ i = 2 ∨ i = 3 ∨ i = 4 ∨ i = 5 ∨ i = 6 ∨ i = 7 := by omega
  rcases this with rfl | rfl | rfl | rfl | rfl | rfl | rfl | rfl <;> rfl

theorem jumpsP_bad (c k b : Int) (c0 : 1 ≤ c) (c1 : c ≤ 9) (b0 : 0 ≤ b) (b1 : b ≤ 255) (k0 : 0 ≤ k) (k1 : k ≤ 7) (i : Nat) (hi : i < 8) : (jumpsP c k b i).bad = 0 := by
  have : i = 0 ∨ i = 1 ∨ i = 2 ∨ i = 3 ∨ i = 4 ∨ i = 5 ∨ i = 6 ∨ i = 7 := by omega
  rcases this with rfl | rfl | rfl | rfl | rfl | rfl | rfl | rfl
  · exact jumpsP_bad0 k 8 1 k0 k1 (.inl ⟨rfl, rfl⟩)
  · exact (by decide +kernel : (⟨2, 1, 0, 0, 0⟩ : Ins).bad = 0)
  · exact jumpsP_bad0 k 9 3 k0 k1 (.inr ⟨rfl, rfl⟩)
  · exact jumpsP_bad3 c b c0 c1 b0 b1
  · exact (by decide +kernel : (⟨2, 0, 0, 0, 1⟩ : Ins).bad = 0)
  · exact (by decide +kernel : (⟨15, 0, 0, 0, 0⟩ : Ins).bad = 0)
  · exact (by decide +kernel : (⟨2, 0, 0, 0, 2⟩ : Ins).bad = 0)
  · exact (by decide +kernel : (⟨15, 0, 0, 0, 0⟩ : Ins).bad = 0)

theorem flowGo_like (p q : Nat → Ins) (n : Nat) : ∀ (f pc : Nat) (R : Nat → Bool), pc + f ≤ n → (∀ i, i < n → (p i).bad = 0 ∧ (q i).bad = 0 ∧ (p i).on i = (q i).on i) → flowGo p n f pc R = flowGo q n f pc R
  | 0, _, _, _, _ => rfl
  | f + 1, pc, R, h, hb => by
    obtain ⟨h1, h2, h3⟩ := hb pc (by omega)
    rw [flowGo, flowGo, h1, h2, h3, flowGo_like p q n f (pc + 1) _ (by omega) hb]

theorem jumpsP_check (c k b : Int) (c0 : 1 ≤ c) (c1 : c ≤ 9) (b0 : 0 ≤ b) (b1 : b ≤ 255) (k0 : 0 ≤ k) (k1 : k ≤ 7) : (flowCheck (jumpsP c k b) 8).2 = 0 := by
  have e : (flowCheck (jumpsP 1 0 0) 8).2 = 0 := by decide +kernel
  rw [← e]
  unfold flowCheck
  rw [if_neg (by omega), if_neg (by omega), flowGo_like (jumpsP c k b) (jumpsP 1 0 0) 8 8 0 _ (by omega) (fun i hi => ⟨jumpsP_bad c k b c0 c1 b0 b1 k0 k1 i hi, jumpsP_bad 1 0 0 (by omega) (by omega) (by omega) (by omega) (by omega) (by omega) i hi, jumpsP_on c k b i hi⟩)]

theorem jumpsP_ok (c k b : Int) (c0 : 1 ≤ c) (c1 : c ≤ 9) (b0 : 0 ≤ b) (b1 : b ≤ 255) (k0 : 0 ≤ k) (k1 : k ≤ 7) (i : Nat) (hi : i < 8) : (jumpsP c k b i).ok := by
  have : i = 0 ∨ i = 1 ∨ i = 2 ∨ i = 3 ∨ i = 4 ∨ i = 5 ∨ i = 6 ∨ i = 7 := by omega
  rcases this with rfl | rfl | rfl | rfl | rfl | rfl | rfl | rfl <;> simp [jumpsP, Ins.ok] <;> omega

theorem jumps_1 (bi bp cap' k : Nat) (hk : k < 8) (c b a : Int) (c0 : 1 ≤ c) (c1 : c ≤ 9) (b0 : 0 ≤ b) (b1 : b ≤ 255) (r0 s0 : Nat → Int) (hr : r0 1 = a) (wv : Value) (w : World)
    (h : InstAt w bi bp cap' 8 (jumpsP c k b) (r0) (s0) 0 0 true) :
    Calls Tryz.prog 9 #[.pointer (some ⟨bi, 0, none⟩), wv] w fun e w' => e = .returned (.agg #[.int .i64 0, .int .i64 0, .int .u64 a, .bool false, .bool false, .int .i64 0]) ∧
      InstAt w' bi bp cap' 8 (jumpsP c k b) (r0) (upd s0 k a) 1 0 true ∧ Kept (fun k => k = bi) w w' := by
  have H := step_save bi bp cap' 8 0 (jumpsP c k b) r0 s0 0 1 0 k wv w (by omega) (by omega) (by omega) (by omega) (by omega) h (jumpsP_at c k b).1
  rw [hr] at H
  exact H

theorem jumps_2 (bi bp cap' k : Nat) (hk : k < 8) (c b a : Int) (c0 : 1 ≤ c) (c1 : c ≤ 9) (b0 : 0 ≤ b) (b1 : b ≤ 255) (r0 s0 : Nat → Int) (wv : Value) (w : World)
    (h : InstAt w bi bp cap' 8 (jumpsP c k b) (r0) (upd s0 k a) 1 0 true) :
    Calls Tryz.prog 9 #[.pointer (some ⟨bi, 0, none⟩), wv] w fun e w' => e = .returned (.agg #[.int .i64 0, .int .i64 1, .int .u64 0, .bool false, .bool false, .int .i64 0]) ∧
      InstAt w' bi bp cap' 8 (jumpsP c k b) (upd r0 1 0) (upd s0 k a) 2 0 true ∧ Kept (fun k => k = bi) w w' := by
  have H := step_imm bi bp cap' 8 1 (jumpsP c k b) r0 (upd s0 k a) 0 1 0 0 wv w (by omega) (by omega) (by omega) (by omega) (by omega) (by omega) h (jumpsP_at c k b).2.1
  exact H

theorem jumps_3 (bi bp cap' k : Nat) (hk : k < 8) (c b a : Int) (c0 : 1 ≤ c) (c1 : c ≤ 9) (b0 : 0 ≤ b) (b1 : b ≤ 255) (r0 s0 : Nat → Int) (wv : Value) (w : World)
    (h : InstAt w bi bp cap' 8 (jumpsP c k b) (upd r0 1 0) (upd s0 k a) 2 0 true) :
    Calls Tryz.prog 9 #[.pointer (some ⟨bi, 0, none⟩), wv] w fun e w' => e = .returned (.agg #[.int .i64 0, .int .i64 2, .int .u64 a, .bool false, .bool false, .int .i64 0]) ∧
      InstAt w' bi bp cap' 8 (jumpsP c k b) (upd (upd r0 1 0) 3 a) (upd s0 k a) 3 0 true ∧ Kept (fun k => k = bi) w w' := by
  have H := step_load bi bp cap' 8 2 (jumpsP c k b) (upd r0 1 0) (upd s0 k a) 0 3 0 k wv w (by omega) (by omega) (by omega) (by omega) (by omega) h (jumpsP_at c k b).2.2.1
  rw [show upd s0 k a k = a by simp [upd]] at H
  exact H

theorem jumps_4n (bi bp cap' k : Nat) (hk : k < 8) (c b a : Int) (c0 : 1 ≤ c) (c1 : c ≤ 9) (b0 : 0 ≤ b) (b1 : b ≤ 255) (r0 s0 : Nat → Int) (hA : ∀ w, Calls Tryz.prog 12 #[.int .i64 c, .int .u64 a, .int .u64 b] w fun e w' => e = .returned (.tuple #[.bool false, .int .i64 0]) ∧ w = w') (wv : Value) (w : World)
    (h : InstAt w bi bp cap' 8 (jumpsP c k b) (upd (upd r0 1 0) 3 a) (upd s0 k a) 3 0 true) :
    Calls Tryz.prog 9 #[.pointer (some ⟨bi, 0, none⟩), wv] w fun e w' => e = .returned (.agg #[.int .i64 0, .int .i64 3, .int .u64 0, .bool false, .bool false, .int .i64 0]) ∧
      InstAt w' bi bp cap' 8 (jumpsP c k b) (upd (upd r0 1 0) 3 a) (upd s0 k a) 4 0 true ∧ Kept (fun k => k = bi) w w' := by
  have H := step_jcci_no bi bp cap' 8 3 (jumpsP c k b) (upd (upd r0 1 0) 3 a) (upd s0 k a) 0 3 b c 3 wv w (by omega) (by omega) (by omega) (by omega) (by omega) (by omega) (by omega) (by omega) (by omega) (fun w => hA w) h (jumpsP_at c k b).2.2.2.1
  exact H

theorem jumps_4y (bi bp cap' k : Nat) (hk : k < 8) (c b a : Int) (c0 : 1 ≤ c) (c1 : c ≤ 9) (b0 : 0 ≤ b) (b1 : b ≤ 255) (r0 s0 : Nat → Int) (hA : ∀ w, Calls Tryz.prog 12 #[.int .i64 c, .int .u64 a, .int .u64 b] w fun e w' => e = .returned (.tuple #[.bool true, .int .i64 0]) ∧ w = w') (wv : Value) (w : World)
    (h : InstAt w bi bp cap' 8 (jumpsP c k b) (upd (upd r0 1 0) 3 a) (upd s0 k a) 3 0 true) :
    Calls Tryz.prog 9 #[.pointer (some ⟨bi, 0, none⟩), wv] w fun e w' => e = .returned (.agg #[.int .i64 0, .int .i64 3, .int .u64 1, .bool false, .bool false, .int .i64 0]) ∧
      InstAt w' bi bp cap' 8 (jumpsP c k b) (upd (upd r0 1 0) 3 a) (upd s0 k a) 6 0 true ∧ Kept (fun k => k = bi) w w' := by
  have H := step_jcci_yes bi bp cap' 8 3 (jumpsP c k b) (upd (upd r0 1 0) 3 a) (upd s0 k a) 0 3 b c 3 wv w (by omega) (by omega) (by omega) (by omega) (by omega) (by omega) (by omega) (by omega) (by omega) (fun w => hA w) h (jumpsP_at c k b).2.2.2.1
  exact H

theorem jumps_5n (bi bp cap' k : Nat) (hk : k < 8) (c b a : Int) (c0 : 1 ≤ c) (c1 : c ≤ 9) (b0 : 0 ≤ b) (b1 : b ≤ 255) (r0 s0 : Nat → Int) (wv : Value) (w : World)
    (h : InstAt w bi bp cap' 8 (jumpsP c k b) (upd (upd r0 1 0) 3 a) (upd s0 k a) 4 0 true) :
    Calls Tryz.prog 9 #[.pointer (some ⟨bi, 0, none⟩), wv] w fun e w' => e = .returned (.agg #[.int .i64 0, .int .i64 4, .int .u64 1, .bool false, .bool false, .int .i64 0]) ∧
      InstAt w' bi bp cap' 8 (jumpsP c k b) (upd (upd (upd r0 1 0) 3 a) 0 1) (upd s0 k a) 5 0 true ∧ Kept (fun k => k = bi) w w' := by
  have H := step_imm bi bp cap' 8 4 (jumpsP c k b) (upd (upd r0 1 0) 3 a) (upd s0 k a) 0 0 0 1 wv w (by omega) (by omega) (by omega) (by omega) (by omega) (by omega) h (jumpsP_at c k b).2.2.2.2.1
  exact H

theorem jumps_5y (bi bp cap' k : Nat) (hk : k < 8) (c b a : Int) (c0 : 1 ≤ c) (c1 : c ≤ 9) (b0 : 0 ≤ b) (b1 : b ≤ 255) (r0 s0 : Nat → Int) (wv : Value) (w : World)
    (h : InstAt w bi bp cap' 8 (jumpsP c k b) (upd (upd r0 1 0) 3 a) (upd s0 k a) 6 0 true) :
    Calls Tryz.prog 9 #[.pointer (some ⟨bi, 0, none⟩), wv] w fun e w' => e = .returned (.agg #[.int .i64 0, .int .i64 6, .int .u64 2, .bool false, .bool false, .int .i64 0]) ∧
      InstAt w' bi bp cap' 8 (jumpsP c k b) (upd (upd (upd r0 1 0) 3 a) 0 2) (upd s0 k a) 7 0 true ∧ Kept (fun k => k = bi) w w' := by
  have H := step_imm bi bp cap' 8 6 (jumpsP c k b) (upd (upd r0 1 0) 3 a) (upd s0 k a) 0 0 0 2 wv w (by omega) (by omega) (by omega) (by omega) (by omega) (by omega) h (jumpsP_at c k b).2.2.2.2.2.2.1
  exact H

theorem jumps_6n (bi bp cap' k : Nat) (hk : k < 8) (c b a : Int) (c0 : 1 ≤ c) (c1 : c ≤ 9) (b0 : 0 ≤ b) (b1 : b ≤ 255) (r0 s0 : Nat → Int) (wv : Value) (w : World)
    (h : InstAt w bi bp cap' 8 (jumpsP c k b) (upd (upd (upd r0 1 0) 3 a) 0 1) (upd s0 k a) 5 0 true) :
    Calls Tryz.prog 9 #[.pointer (some ⟨bi, 0, none⟩), wv] w fun e w' => e = .returned (.agg #[.int .i64 0, .int .i64 5, .int .u64 1, .bool false, .bool true, .int .i64 0]) ∧
      InstAt w' bi bp cap' 8 (jumpsP c k b) (upd (upd (upd r0 1 0) 3 a) 0 1) (upd s0 k a) 5 0 false ∧ Kept (fun k => k = bi) w w' := by
  have H := step_exit bi bp cap' 8 5 (jumpsP c k b) (upd (upd (upd r0 1 0) 3 a) 0 1) (upd s0 k a) 0 0 0 wv w (by omega) (by omega) (by omega) (by omega) h (jumpsP_at c k b).2.2.2.2.2.1
  exact H

theorem jumps_6y (bi bp cap' k : Nat) (hk : k < 8) (c b a : Int) (c0 : 1 ≤ c) (c1 : c ≤ 9) (b0 : 0 ≤ b) (b1 : b ≤ 255) (r0 s0 : Nat → Int) (wv : Value) (w : World)
    (h : InstAt w bi bp cap' 8 (jumpsP c k b) (upd (upd (upd r0 1 0) 3 a) 0 2) (upd s0 k a) 7 0 true) :
    Calls Tryz.prog 9 #[.pointer (some ⟨bi, 0, none⟩), wv] w fun e w' => e = .returned (.agg #[.int .i64 0, .int .i64 7, .int .u64 2, .bool false, .bool true, .int .i64 0]) ∧
      InstAt w' bi bp cap' 8 (jumpsP c k b) (upd (upd (upd r0 1 0) 3 a) 0 2) (upd s0 k a) 7 0 false ∧ Kept (fun k => k = bi) w w' := by
  have H := step_exit bi bp cap' 8 7 (jumpsP c k b) (upd (upd (upd r0 1 0) 3 a) 0 2) (upd s0 k a) 0 0 0 wv w (by omega) (by omega) (by omega) (by omega) h (jumpsP_at c k b).2.2.2.2.2.2.2
  exact H

theorem jumps_walk (cd a b sl : Int) (c0 : 0 ≤ cd) (c1 : cd ≤ 255) (b0 : 0 ≤ b) (b1 : b ≤ 255) (s0 : 0 ≤ sl) (s1 : sl ≤ 255) (w : World) (hg : w.cell? ⟨0, 0, none⟩ = some (.int .u8 0)) (hgl : 0 < w.heap.size) :
    Calls Tryz.prog 4 #[.int .u8 cd, .int .u64 a, .int .u8 b, .int .u8 sl] w fun e w' => e = .returned (.bool true) ∧ Below w.heap.size w w' := by
  obtain ⟨c, hc⟩ : ∃ c : Int, c = 1 + cd % 9 := ⟨_, rfl⟩
  obtain ⟨k, hk⟩ : ∃ k : Nat, (k : Int) = sl % 8 := ⟨(sl % 8).toNat, by omega⟩
  have hk0 : k < 8 := by omega
  have hc0 : 1 ≤ c := by omega
  have hc1 : c ≤ 9 := by omega
  subst hc
  obtain ⟨v, hv⟩ := aluHolds_ex (1 + cd % 9) hc0 hc1 a b
  have HV := Lib.hid fun w => (hv w).mono fun e w' h => (⟨h.1, h.2.symm⟩ : e = .returned (.tuple #[.bool v, .int .i64 0]) ∧ w' = w)
  have HV0 := Lib.hid hv
  clear hv
  go_enter Tryz.func4, Tryz.ntmps4
  go_wp2_with fail
  refine (shown_any _ hg).mono ?_
  rintro e w1 ⟨rfl, hb1⟩
  go_wp2_with fail
  have hb1s := hb1.size
  refine (worldNew_nil 1 _ (by omega) (by omega) ?_).mono ?_
  · exact ((World.cell?_alloc_old (a := ⟨0, 0, none⟩) _ _ (by simp; omega)).trans (hb1.cell (p := ⟨0, 0, none⟩) hgl)).trans hg
  rintro e w2 ⟨⟨bw, rfl⟩, hb2⟩
  have e2 := hb2.block w1.heap.size (by simp)
  rw [heap_alloc_at, ← hk] at e2
  have hb2s := hb2.size
  simp at hb2s
  go_wp2_with fail
  have hP : HasProg w2 w1.heap.size 0 8 (jumpsP (1 + cd % 9) k b) := by
    intro i hi
    have : i = 0 ∨ i = 1 ∨ i = 2 ∨ i = 3 ∨ i = 4 ∨ i = 5 ∨ i = 6 ∨ i = 7 := by omega
    rcases this with rfl | rfl | rfl | rfl | rfl | rfl | rfl | rfl <;> exact ⟨(cell_of_heap e2).trans rfl, (cell_of_heap e2).trans rfl, (cell_of_heap e2).trans rfl, (cell_of_heap e2).trans rfl, (cell_of_heap e2).trans rfl⟩
  have hB2 : Below w.heap.size w w2 := (hb1.alloc hb1s _).trans (hb2.mono (by simp; omega))
  refine (stepNew_yes _ 0 8 8 (jumpsP (1 + cd % 9) k b) 0 a _ hP (fun i hi => jumpsP_ok (1 + cd % 9) k b hc0 hc1 b0 b1 (by omega) (by omega) i hi) (by omega) (by omega) (by omega) (by omega) (by omega) (jumpsP_check (1 + cd % 9) k b hc0 hc1 b0 b1 (by omega) (by omega))).mono ?_
  rintro e w3 ⟨bi, bp, cap', rfl, hI3, hb3, hbi, hbp⟩
  have hb3s := hb3.size
  have hbiw : w.heap.size ≤ bi := by omega
  have hB3 : Below w.heap.size w w3 := hB2.trans (hb3.mono (by omega))
  clear hP e2 hB2 hb1 hb2 hb3
  obtain ⟨r0, hr0⟩ : ∃ r0 : Nat → Int, r0 = (fun i => if i = 1 then a else 0) := ⟨_, rfl⟩
  rw [← hr0] at hI3
  obtain ⟨t0, ht0⟩ : ∃ t0 : Nat → Int, t0 = (fun _ => 0) := ⟨_, rfl⟩
  rw [← ht0] at hI3
  have hr1 : r0 1 = a := by rw [hr0]; rfl
  clear hr0 ht0
  have HB3 := Lib.hid hB3
  clear hB3
  go_wp2_with fail
  refine (HV.out _).mono ?_
  rintro e w' ⟨rfl, rfl⟩
  go_wp2_with fail
  refine (jumps_1 bi bp cap' k hk0 (1 + cd % 9) b a hc0 hc1 b0 b1 r0 t0 hr1 _ _ hI3).mono ?_
  rintro e w4 ⟨rfl, hI4, hk4⟩
  go_wp2_with fail
  refine (jumps_2 bi bp cap' k hk0 (1 + cd % 9) b a hc0 hc1 b0 b1 r0 t0 _ _ hI4).mono ?_
  rintro e w5 ⟨rfl, hI5, hk5⟩
  go_wp2_with fail
  refine (jumps_3 bi bp cap' k hk0 (1 + cd % 9) b a hc0 hc1 b0 b1 r0 t0 _ _ hI5).mono ?_
  rintro e w6 ⟨rfl, hI6, hk6⟩
  clear hI3 hI4 hI5
  go_wp2_with fail
  cases v
  case false =>
    refine (jumps_4n bi bp cap' k hk0 (1 + cd % 9) b a hc0 hc1 b0 b1 r0 t0 HV0.out _ _ (hI6.alloc _)).mono ?_
    rintro e w7 ⟨rfl, hI7, hk7⟩
    go_wp2_with fail
    refine (jumps_5n bi bp cap' k hk0 (1 + cd % 9) b a hc0 hc1 b0 b1 r0 t0 _ _ (hI7.alloc _)).mono ?_
    rintro e w8 ⟨rfl, hI8, hk8⟩
    go_wp2_with fail
    refine (jumps_6n bi bp cap' k hk0 (1 + cd % 9) b a hc0 hc1 b0 b1 r0 t0 _ _ hI8).mono ?_
    rintro e w9 ⟨rfl, hI9, hk9⟩
    have n6 : w6.heap.size ≠ bi := by have := lt_of_heap hI6.block; omega
    have n7 : w7.heap.size ≠ bi := by have := lt_of_heap hI7.block; omega
    have e1 := hk9.heap (hk8.heap (heap_alloc_lt _ (hk7.heap (heap_alloc_at (w := w6) _) n6)) n6) n6
    have e2 := hk9.heap (hk8.heap (heap_alloc_at (w := w7) _) n7) n7
    have c1 : w9.cell? ⟨w6.heap.size, 2, none⟩ = some (.int .u64 a) := (cell_of_heap e1).trans rfl
    have c2 : w9.cell? ⟨w7.heap.size, 2, none⟩ = some (.int .u64 0) := (cell_of_heap e2).trans rfl
    have l1 := lt_of_heap e1
    have l2 := lt_of_heap e2
    have HK : Hid (Kept (fun k => k = bi) w' w4 ∧ Kept (fun k => k = bi) w4 w5 ∧ Kept (fun k => k = bi) w5 w6 ∧ Kept (fun k => k = bi) (w6.alloc _) w7 ∧ Kept (fun k => k = bi) (w7.alloc _) w8 ∧ Kept (fun k => k = bi) w8 w9) := Lib.hid ⟨hk4, hk5, hk6, hk7, hk8, hk9⟩
    clear e1 e2 n6 n7 hk4 hk5 hk6 hk7 hk8 hk9 hI6 hI7 hI8 hI9
    go_wp2_with fail
    refine bodyPost_ret (v := .bool true) (by simp [results, Tryz.results4, go_sem]) rfl ⟨rfl, ?_⟩
    have B := HB3.out
    obtain ⟨k4, k5, k6, k7, k8, k9⟩ := HK.out
    have z := B.size
    have K (k : Nat) (h : k < w.heap.size) : ¬ (k = bi) := by omega
    have B4 := B.trans (k4.below B.size K)
    have B5 := B4.trans (k5.below B4.size K)
    have B6 := B5.trans (k6.below B5.size K)
    have B7 := (B6.alloc B6.size _).trans (k7.below (B6.alloc B6.size _).size K)
    have B8 := (B7.alloc B7.size _).trans (k8.below (B7.alloc B7.size _).size K)
    have B9 := B8.trans (k9.below B8.size K)
    exact B9.alloc B9.size _
  case true =>
    refine (jumps_4y bi bp cap' k hk0 (1 + cd % 9) b a hc0 hc1 b0 b1 r0 t0 HV0.out _ _ (hI6.alloc _)).mono ?_
    rintro e w7 ⟨rfl, hI7, hk7⟩
    go_wp2_with fail
    refine (jumps_5y bi bp cap' k hk0 (1 + cd % 9) b a hc0 hc1 b0 b1 r0 t0 _ _ (hI7.alloc _)).mono ?_
    rintro e w8 ⟨rfl, hI8, hk8⟩
    go_wp2_with fail
    refine (jumps_6y bi bp cap' k hk0 (1 + cd % 9) b a hc0 hc1 b0 b1 r0 t0 _ _ hI8).mono ?_
    rintro e w9 ⟨rfl, hI9, hk9⟩
    have n6 : w6.heap.size ≠ bi := by have := lt_of_heap hI6.block; omega
    have n7 : w7.heap.size ≠ bi := by have := lt_of_heap hI7.block; omega
    have e1 := hk9.heap (hk8.heap (heap_alloc_lt _ (hk7.heap (heap_alloc_at (w := w6) _) n6)) n6) n6
    have e2 := hk9.heap (hk8.heap (heap_alloc_at (w := w7) _) n7) n7
    have c1 : w9.cell? ⟨w6.heap.size, 2, none⟩ = some (.int .u64 a) := (cell_of_heap e1).trans rfl
    have c2 : w9.cell? ⟨w7.heap.size, 2, none⟩ = some (.int .u64 1) := (cell_of_heap e2).trans rfl
    have l1 := lt_of_heap e1
    have l2 := lt_of_heap e2
    have HK : Hid (Kept (fun k => k = bi) w' w4 ∧ Kept (fun k => k = bi) w4 w5 ∧ Kept (fun k => k = bi) w5 w6 ∧ Kept (fun k => k = bi) (w6.alloc _) w7 ∧ Kept (fun k => k = bi) (w7.alloc _) w8 ∧ Kept (fun k => k = bi) w8 w9) := Lib.hid ⟨hk4, hk5, hk6, hk7, hk8, hk9⟩
    clear e1 e2 n6 n7 hk4 hk5 hk6 hk7 hk8 hk9 hI6 hI7 hI8 hI9
    go_wp2_with fail
    refine bodyPost_ret (v := .bool true) (by simp [results, Tryz.results4, go_sem]) rfl ⟨rfl, ?_⟩
    have B := HB3.out
    obtain ⟨k4, k5, k6, k7, k8, k9⟩ := HK.out
    have z := B.size
    have K (k : Nat) (h : k < w.heap.size) : ¬ (k = bi) := by omega
    have B4 := B.trans (k4.below B.size K)
    have B5 := B4.trans (k5.below B4.size K)
    have B6 := B5.trans (k6.below B5.size K)
    have B7 := (B6.alloc B6.size _).trans (k7.below (B6.alloc B6.size _).size K)
    have B8 := (B7.alloc B7.size _).trans (k8.below (B7.alloc B7.size _).size K)
    have B9 := B8.trans (k9.below B8.size K)
    exact B9.alloc B9.size _
end Go.Proofs.YtkkfacgbfjmckaaGreatDoor

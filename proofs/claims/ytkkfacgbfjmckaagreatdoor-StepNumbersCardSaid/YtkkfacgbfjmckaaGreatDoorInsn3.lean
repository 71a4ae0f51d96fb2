/- insn.Check: what it answers, for every instruction. -/
import Derived.Test.YtkkfacgbfjmckaaGreatDoorProg
import Derived.Test.YtkkfacgbfjmckaaGreatDoorFr
import Derived.Test.YtkkfacgbfjmckaaGreatDoorInsn
import Derived.Test.YtkkfacgbfjmckaaGreatDoorInsn2
namespace Go.Proofs.YtkkfacgbfjmckaaGreatDoor
open Go.RowKit
set_option maxHeartbeats 2000000
set_option maxRecDepth 20000

/-- What is answered, the row known. -/
def insnOf (x0 x1 x2 x3 x4 : Int) (hw : Bool) (a b c imm : Int) : Int :=
  if overB a x0 || overB b x1 || overB c x2 || (hw && (c == 0)) || (decide (0 < x4) && (decide (imm < x3) || decide (x4 < imm))) then 4
  else if ((x0 == 0) && decide (0 < a)) || ((x1 == 0) && decide (0 < b)) || ((x2 == 0) && decide (0 < c)) || ((x4 == 0) && decide (0 < imm)) then 1 else 0

def insnBad (op a b c imm : Int) : Int := if 1 ≤ op ∧ op ≤ 15 then insnOf (rowAt op 0) (rowAt op 1) (rowAt op 2) (rowAt op 3) (rowAt op 4) (hasWords op) a b c imm else 3

theorem insnCheck_no (op a b c imm : Int) (h : op < 1 ∨ 15 < op) (w : World) :
    Calls Tryz.prog 34 #[.agg #[.int .u8 op, .int .u8 a, .int .u8 b, .int .u8 c, .int .u32 imm]] w fun e w' => e = .returned (.int .i64 3) ∧ Below w.heap.size w w' := by
  go_enter Tryz.func34, Tryz.ntmps34
  go_wp2_with (go_at_call 58; go_must (refine (insnRow_out op h _).mono ?_); rintro e w1 ⟨rfl, hb⟩)
  go_ret
  refine ⟨rfl, ?_⟩
  exact (((Below.refl _ _).alloc (Nat.le_refl _) _).trans (hb.mono (by simp))).alloc (by have := hb.size; simp at this; omega) _

theorem insnCheck_yes0 (op a b c imm : Int) (h0 : 1 ≤ op) (h1 : op ≤ 15) (a0 : 0 ≤ a) (a1 : a ≤ 255) (b0 : 0 ≤ b) (b1 : b ≤ 255) (c0 : 0 ≤ c) (c1 : c ≤ 255) (hw : hasWords op = false) (w : World) :
    Calls Tryz.prog 34 #[.agg #[.int .u8 op, .int .u8 a, .int .u8 b, .int .u8 c, .int .u32 imm]] w fun e w' => e = .returned (.int .i64 (insnOf (rowAt op 0) (rowAt op 1) (rowAt op 2) (rowAt op 3) (rowAt op 4) false a b c imm)) ∧ Below w.heap.size w w' := by
  obtain ⟨k, rfl⟩ := Int.eq_ofNat_of_zero_le (show 0 ≤ op by omega)
  have hrow := fun w => insnRow_test k (by omega) (by omega) w
  have hwd : ∀ w, _ := fun w => words_no (k : Int) (by simp [hasWords] at hw ⊢; omega) (by simp [hasWords] at hw ⊢; omega) (by simp [hasWords] at hw ⊢; omega) (by simp [hasWords] at hw ⊢; omega) (by simp [hasWords] at hw ⊢; omega) w
  have hne := fun (w : World) (a : Option Addr) (n c : Nat) => run_neq_slice_nil_any (P := Tryz.prog) w 120 9 a n c 0 0 Tryz.underlying120
  generalize rowAt k 0 = x0 at *
  generalize rowAt k 1 = x1 at *
  generalize rowAt k 2 = x2 at *
  generalize rowAt k 3 = x3 at *
  generalize rowAt k 4 = x4 at *
  have HR := Lib.hid hrow
  have HW := Lib.hid hwd
  clear hrow hwd hw
  cases hA : overB a x0
  case true =>
    go_enter Tryz.func34, Tryz.ntmps34
    go_wp2_with (first
      | (go_at_call 58; refine (HR.out _).mono ?_; rintro e w1 ⟨rfl, hb⟩; obtain ⟨hc, hf⟩ := bcell hb; have hz : w.heap.size < w1.heap.size := by have := hb.size; simp at this; omega)
      | (go_at_call 60; refine (HW.out _).mono ?_; rintro e w' ⟨rfl, rfl⟩)
      | (go_at_call 59; refine (over_any _ _ _).mono ?_; rintro e w' ⟨rfl, rfl⟩))
    all_goals
      go_ret
      refine ⟨ret_int ?_, (((Below.refl _ _).alloc (Nat.le_refl _) _).trans (hb.mono (by simp))).alloc (by omega) _⟩
      clear hb hc hf hz HR HW hne
      first | (simp_all [insnOf]; done) | (simp_all [insnOf]; omega)
  cases hB : overB b x1
  case true =>
    go_enter Tryz.func34, Tryz.ntmps34
    go_wp2_with (first
      | (go_at_call 58; refine (HR.out _).mono ?_; rintro e w1 ⟨rfl, hb⟩; obtain ⟨hc, hf⟩ := bcell hb; have hz : w.heap.size < w1.heap.size := by have := hb.size; simp at this; omega)
      | (go_at_call 60; refine (HW.out _).mono ?_; rintro e w' ⟨rfl, rfl⟩)
      | (go_at_call 59; refine (over_any _ _ _).mono ?_; rintro e w' ⟨rfl, rfl⟩))
    all_goals
      go_ret
      refine ⟨ret_int ?_, (((Below.refl _ _).alloc (Nat.le_refl _) _).trans (hb.mono (by simp))).alloc (by omega) _⟩
      clear hb hc hf hz HR HW hne
      first | (simp_all [insnOf]; done) | (simp_all [insnOf]; omega)
  cases hC : overB c x2
  case true =>
    go_enter Tryz.func34, Tryz.ntmps34
    go_wp2_with (first
      | (go_at_call 58; refine (HR.out _).mono ?_; rintro e w1 ⟨rfl, hb⟩; obtain ⟨hc, hf⟩ := bcell hb; have hz : w.heap.size < w1.heap.size := by have := hb.size; simp at this; omega)
      | (go_at_call 60; refine (HW.out _).mono ?_; rintro e w' ⟨rfl, rfl⟩)
      | (go_at_call 59; refine (over_any _ _ _).mono ?_; rintro e w' ⟨rfl, rfl⟩))
    all_goals
      go_ret
      refine ⟨ret_int ?_, (((Below.refl _ _).alloc (Nat.le_refl _) _).trans (hb.mono (by simp))).alloc (by omega) _⟩
      clear hb hc hf hz HR HW hne
      first | (simp_all [insnOf]; done) | (simp_all [insnOf]; omega)
  by_cases hx4 : 0 < x4
  · by_cases hl : imm < x3
    · go_enter Tryz.func34, Tryz.ntmps34
      go_wp2_with (first
        | (go_at_call 58; refine (HR.out _).mono ?_; rintro e w1 ⟨rfl, hb⟩; obtain ⟨hc, hf⟩ := bcell hb; have hz : w.heap.size < w1.heap.size := by have := hb.size; simp at this; omega)
        | (go_at_call 60; refine (HW.out _).mono ?_; rintro e w' ⟨rfl, rfl⟩)
        | (go_at_call 59; refine (over_any _ _ _).mono ?_; rintro e w' ⟨rfl, rfl⟩))
      all_goals
        go_ret
        refine ⟨ret_int ?_, (((Below.refl _ _).alloc (Nat.le_refl _) _).trans (hb.mono (by simp))).alloc (by omega) _⟩
        clear hb hc hf hz HR HW hne
        first | (simp_all [insnOf]; done) | (simp_all [insnOf]; omega)
    · by_cases hg : x4 < imm
      · go_enter Tryz.func34, Tryz.ntmps34
        go_wp2_with (first
          | (go_at_call 58; refine (HR.out _).mono ?_; rintro e w1 ⟨rfl, hb⟩; obtain ⟨hc, hf⟩ := bcell hb; have hz : w.heap.size < w1.heap.size := by have := hb.size; simp at this; omega)
          | (go_at_call 60; refine (HW.out _).mono ?_; rintro e w' ⟨rfl, rfl⟩)
          | (go_at_call 59; refine (over_any _ _ _).mono ?_; rintro e w' ⟨rfl, rfl⟩))
        all_goals
          go_ret
          refine ⟨ret_int ?_, (((Below.refl _ _).alloc (Nat.le_refl _) _).trans (hb.mono (by simp))).alloc (by omega) _⟩
          clear hb hc hf hz HR HW hne
          first | (simp_all [insnOf]; done) | (simp_all [insnOf]; omega)
      · go_enter Tryz.func34, Tryz.ntmps34
        go_wp2_with (first
          | (go_at_call 58; refine (HR.out _).mono ?_; rintro e w1 ⟨rfl, hb⟩; obtain ⟨hc, hf⟩ := bcell hb; have hz : w.heap.size < w1.heap.size := by have := hb.size; simp at this; omega)
          | (go_at_call 60; refine (HW.out _).mono ?_; rintro e w' ⟨rfl, rfl⟩)
          | (go_at_call 59; refine (over_any _ _ _).mono ?_; rintro e w' ⟨rfl, rfl⟩))
        all_goals
          go_ret
          refine ⟨ret_int ?_, (((Below.refl _ _).alloc (Nat.le_refl _) _).trans (hb.mono (by simp))).alloc (by omega) _⟩
          clear hb hc hf hz HR HW hne
          first | (simp_all [insnOf]; done) | (simp_all [insnOf]; omega)
  · go_enter Tryz.func34, Tryz.ntmps34
    go_wp2_with (first
      | (go_at_call 58; refine (HR.out _).mono ?_; rintro e w1 ⟨rfl, hb⟩; obtain ⟨hc, hf⟩ := bcell hb; have hz : w.heap.size < w1.heap.size := by have := hb.size; simp at this; omega)
      | (go_at_call 60; refine (HW.out _).mono ?_; rintro e w' ⟨rfl, rfl⟩)
      | (go_at_call 59; refine (over_any _ _ _).mono ?_; rintro e w' ⟨rfl, rfl⟩))
    all_goals
      go_ret
      refine ⟨ret_int ?_, (((Below.refl _ _).alloc (Nat.le_refl _) _).trans (hb.mono (by simp))).alloc (by omega) _⟩
      clear hb hc hf hz HR HW hne
      first | (simp_all [insnOf]; done) | (simp_all [insnOf]; omega)
end Go.Proofs.YtkkfacgbfjmckaaGreatDoor

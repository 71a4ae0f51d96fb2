/- turnbucklelaw22.shown, run; what every run of the seat asks for. -/
import Derived.Test.YtcjlhjoobchabaaGreatDoorProg
import Derived.Test.YtcjlhjoobchabaaGreatDoorHook
import Derived.KernelRfl
namespace Go.Proofs.YtcjlhjoobchabaaGreatDoor
open Go.RowKit
set_option maxRecDepth 10000000
def tabB : List Nat := [0, 1, 56, 2, 57, 49, 28, 3, 61, 58, 42, 50, 38, 29, 17, 4, 62, 47, 59, 36, 45, 43, 51, 22, 53, 39, 33, 30, 24, 18, 12, 5, 63, 55, 48, 27, 60, 41, 37, 16, 46, 35, 44, 21, 52, 32, 23, 11, 54, 26, 40, 15, 34, 20, 31, 10, 25, 14, 19, 9, 13, 8, 7, 6]
noncomputable def rom1 : Rom := ⟨fun g off => tst (Nat.beq g 1) (ob (lget tabB off) fun n => some (.int .u8 (Int.ofNat n)))⟩
theorem rom1_ok {η : Nat → Int} {w : World} (h : ∀ i, w.cell? ⟨1, i, none⟩ = (tabB[i]?).map fun n => Value.int .u8 (Int.ofNat n)) : rom1.Ok η (Base.of w) := by
  refine ⟨fun g off v hv => ?_⟩
  obtain ⟨h1, hv⟩ := tst_some hv
  obtain ⟨n, hn, hv⟩ := ob_some hv
  cases hv
  have := Nat.eq_of_beq_eq_true h1
  subst this
  rw [lget_eq] at hn
  refine ⟨_, rfl, fun w2 hw2 => ?_⟩
  have hc := h off
  rw [hn] at hc
  unfold World.cell? at hc ⊢
  cases hb : w.heap[1]? with
  | none => simp [hb] at hc
  | some o =>
    have h2 := hw2 _ o hb
    rw [hb] at hc
    rw [h2]; exact hc
theorem names : NamesOk Tryz.prog := NamesOk.of (by kernel_rfl)
theorem mixed : Tryz.prog.follows .mixedOrders = true := by kernel_rfl
noncomputable def C22 (F : Facts) : Cfg := ⟨Tryz.prog, F, [61]⟩
theorem C22_ok {F : Facts} {η : Nat → Int} (h : F.Hold η) : (C22 F).Ok η := by
  refine ⟨h, fun t ht => ?_⟩
  have : t = 61 := by simpa [C22] using ht
  subst this
  refine ⟨by kernel_rfl, by kernel_rfl, fun fs hfs f hf => ?_⟩
  have hu : (C22 F).P.underlying 61 = Tryz.prog.underlying 61 := rfl
  rw [hu, Tryz.underlying61] at hfs
  cases hfs
  revert f
  decide
theorem noFacts {η : Nat → Int} : (⟨[], []⟩ : Facts).Hold η := ⟨fun v lo hi h => by simp at h, fun v u h => by simp at h⟩
noncomputable def shows (x : Option Res) : Bool := Option.rec false (fun p => (match p.1 with | .bool b => b | _ => false)) x
theorem shows_eq {x : Option Res} (h : shows x = true) : ∃ σ, x = some (.bool true, σ) := by
  cases x with
  | none => cases h
  | some p =>
    obtain ⟨v, σ⟩ := p
    cases v with
    | bool b => cases b with
      | false => cases h
      | true => exact ⟨σ, rfl⟩
    | _ => cases h
theorem shown22_run : shows (acall (C22 ⟨[], []⟩) rom1 (fun _ => none) 50 false 23 .nil ⟨.nil, 0⟩ (fun v σ => some (v, σ))) = true := by kernel_rfl
theorem shown22 {η : Nat → Int} {W0 : Base} (hM : rom1.Ok η W0) (σ : H) : CallsTo Tryz.prog W0 η 23 .nil σ (.bool true) σ := by
  obtain ⟨σ', h⟩ := shows_eq shown22_run
  exact closed_says (C := C22 ⟨[], []⟩) (fun η => C22_ok noFacts) mixed names h hM σ
noncomputable def hk22 : Nat → Option HookF := fun f => tst (Nat.beq f 23) (some (hookB true))
theorem hk22_ok {η : Nat → Int} : HookOk Tryz.prog rom1 η hk22 := by
  intro f h hf args σ k r hr
  obtain ⟨h1, hf⟩ := tst_some hf
  cases hf
  have := Nat.eq_of_beq_eq_true h1
  subst this
  exact hookB_ok (fun W0 hM σ => shown22 hM σ) hr
/-- What a run of the seat's says. -/
theorem says22 {F : Facts} {η : Nat → Int} (hF : F.Hold η) {w : World} (hw : ∀ i, w.cell? ⟨1, i, none⟩ = (tabB[i]?).map fun n => Value.int .u8 (Int.ofNat n)) {f : Nat} {args : AV} (h : shows (acall (C22 F) rom1 hk22 50 false f args ⟨.nil, 0⟩ (fun v σ => some (v, σ))) = true)
    {Vs : List Value} (ha : DL η LM.none_ args Vs) : Calls Tryz.prog f Vs.toArray w fun e w' => e = .returned (.bool true) ∧ Below w.heap.size w w' := by
  obtain ⟨σ, h⟩ := shows_eq h
  refine (run_says (C22_ok hF) (rom1_ok hw) mixed names hk22_ok h ha).mono ?_
  rintro e w' ⟨L, V, rfl, hD, hB⟩
  cases hD
  exact ⟨rfl, hB⟩
end Go.Proofs.YtcjlhjoobchabaaGreatDoor

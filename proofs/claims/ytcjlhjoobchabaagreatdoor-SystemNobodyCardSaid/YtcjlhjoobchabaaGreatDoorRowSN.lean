/- turnbucklelaw22.SystemNobody: the row, and the card: a system that is nil has no program, no instance, and no map; for every event and every number. -/
import Derived.Test.YtcjlhjoobchabaaGreatDoorRows
import Derived.Test.YtcjlhjoobchabaaGreatDoorCards
import Derived.Test.YtcjlhjoobchabaaGreatDoorTie
import Derived.Test.YtcjlhjoobchabaaGreatDoorLaid3
import Derived.Test.YtcjlhjoobchabaaGreatDoorLaw22N
import Derived.Test.YtcjlhjoobchabaaGreatDoorClose22N
import Derived.WalkKit
import Derived.ProofKit
import Derived.OpenShut
import Derived.SevenTiedAt
import Derived.Carry
import Derived.ChangeSlices
import Derived.Lib.SmallJoins
namespace Go.Proofs.YtcjlhjoobchabaaGreatDoor.systemNobody
open Go.ChangeShapes Go.WideShapes Go.ChangeAt Go.RowKit
set_option linter.unusedVariables false
set_option maxHeartbeats 2000000

theorem laidOut : laidOutB Tryz.prog = true := by kernel_rfl
theorem cEv : Tryz.prog.cellsOf 64 = 3 := by kernel_rfl

set_option maxRecDepth 100000 in
theorem lifted (os : Os) (started : os.Started) (H : Type) (enc : TypeId × Value → H) :
    ReturnsInHanded {} Tryz.checked os 9 .any (fun w args => (Rows.systemNobodySpec.pre enc Tryz.prog Tryz.f9 [] false w args ∧ laidMetH Tryz.prog laidL w) ∧ sizedMet enc Tryz.prog Tryz.f9 (OpenSpec.ofChange Rows.systemNobodySpec) false w args)
      (Rows.systemNobodySpec.post enc Tryz.prog Tryz.f9 false true false false) := by
  refine returnsInHanded_of_change_and (C := Tryz.checked) (X := fun w _ => laidMetH Tryz.prog laidL w) (fun _ _ _ hh h => h.of_heap hh) own started (by kernel_rfl) Tryz.func9
    (ChangeSpec.witness_shaped (enc := enc) (C := Tryz.checked) (os := os) (X := fun w _ => laidMetH Tryz.prog laidL w) false (World.doorLaid Tryz.prog 14 os) #[.agg #[.int .i64 0, .int .i64 0, .int .u64 0], .int .i64 0] 8 rfl (World.shaped_of_RefB (by kernel_rfl) (by kernel_rfl)) (by kernel_rfl) (by kernel_rfl) (by kernel_rfl) (door_met os _)) ?_
  intro W base args ds gs before hval0 hW _ _ hL _
  have hval : ∀ (j : Nat) t v, Tryz.f9.params[j]? = some t → args[j]? = some v → Value.okWide Tryz.prog W .any base t v := hval0
  have hW' := hW
  obtain ⟨p, q, hA0, hV, rfl, hfz, hnd⟩ := hW
  have hA : DataW.TrodAll enc Tryz.prog W 0 (fun _ => true) true Tryz.f9.params.toList args.toList ds p := hA0
  rw [Tryz.params9] at hA hval
  obtain ⟨v0, vs0, d0, ds0, p0, q0, hargs, rfl, rfl, h0, r0⟩ := trodAll_cons hA
  obtain ⟨v1, vs1, d1, ds1, p1, q1, rfl, rfl, rfl, h1, r1⟩ := trodAll_cons r0
  obtain ⟨rfl, rfl, rfl⟩ := trodAll_nil r1
  obtain rfl : args = #[v0, v1] := by cases args; simp_all
  obtain ⟨rfl, rfl⟩ := trodVars_none hV
  have h0k := h0
  obtain ⟨a1, rfl, rfl, rfl, w1⟩ := open_int Tryz.underlying3 (hval 1 3 v1 rfl rfl) h1
  obtain ⟨u0, u1, u2, y0, y1, y2, nn, rfl, rfl, rfl, t0, t1, t2⟩ := Joins.open_agg3 Tryz.underlying64 (by kernel_rfl) cEv (hval 0 64 v0 rfl rfl) h0
  obtain ⟨x0, e0, e0x, l0⟩ := DataW.trod_int Tryz.underlying3 t0
  obtain ⟨x1, e1, e1x, l1⟩ := DataW.trod_int Tryz.underlying3 t1
  obtain ⟨x2, e2, e2x, l2⟩ := DataW.trod_int Tryz.underlying22 t2
  cases e0; cases e1; cases e2
  subst e0x; subst e1x; subst e2x
  have z0 : kmin .i64 ≤ x0 ∧ x0 ≤ kmax .i64 := (show IntKind.i64.min ≤ x0 ∧ x0 ≤ IntKind.i64.max by simpa [Lit.wf] using l0)
  have z1 : kmin .i64 ≤ x1 ∧ x1 ≤ kmax .i64 := (show IntKind.i64.min ≤ x1 ∧ x1 ≤ IntKind.i64.max by simpa [Lit.wf] using l1)
  have z2 : 0 ≤ x2 ∧ x2 ≤ kmax .u64 := (show IntKind.u64.min ≤ x2 ∧ x2 ≤ IntKind.u64.max by simpa [Lit.wf] using l2)
  have z3 : kmin .i64 ≤ a1 ∧ a1 ≤ kmax .i64 := (show IntKind.i64.min ≤ a1 ∧ a1 ≤ IntKind.i64.max by simpa [Lit.wf] using w1)
  clear hA0 hval0
  have hg : ∀ i, W.cell? ⟨1, i, none⟩ = (tabB[i]?).map fun n => Value.int .u8 (Int.ofNat n) := fun i => (tab_of_laid hL i).trans (by
    rw [show bruijn.map (Value.int .u8) = tabB.map (fun n => Value.int .u8 (Int.ofNat n)) from rfl, List.getElem?_map])
  refine (nobody_walk x0 x1 x2 a1 z0 z1 z2 z3 W hg).mono fun e W' ⟨he, hB⟩ => ?_
  subst he
  refine ⟨_, rfl, _, _, _, [], [] ++ ([] ++ []), [], hW', ?_, ?_, ?_, hB.frame _, fun h => by cases h⟩
  · exact trodAll_cons_mk (shut_bool Tryz.underlying4 _) trodAll_mk0
  · exact trodAll_cons_mk (Joins.shut_agg3 Tryz.underlying64 (by kernel_rfl) cEv (shut_int Tryz.underlying3 l0) (shut_int Tryz.underlying3 l1) (shut_int Tryz.underlying22 l2)) (trodAll_cons_mk (shut_int Tryz.underlying3 w1) trodAll_mk0)
  · rfl

theorem over : Rows.systemNobodyRow.holds Tryz.pinned (OpenSpec.ofChange Rows.systemNobodySpec) :=
  OpenClaim.holds_of_wide 9 Tryz.f9 rfl rfl rfl rfl rfl rfl rfl ⟨rfl, rfl, rfl, rfl, rfl⟩ rfl rfl rfl rfl rfl kName Tryz.func9 closed inst wrap
    (fun os started H enc _ => lifted os started H enc)

theorem card : Rows.SystemNobodyCardSaid :=
  Claim7.holds_tied_plain_at .later [] [.data, .data, .data] true (true, "1d8c4c47f2efd0021f1c9f13f42a44c17c53c7ea1cfe77f327a272bef5d52ee1") true
    over (fun _ h => by cases h) cWf (fun _ h => by cases h) systemNobody_row_tie rfl ⟨rfl, rfl⟩ cMain rfl
    (fun f fn hf hfn => by
      obtain rfl : f = 9 := Option.some.inj (kName.symm.trans hf) |>.symm
      obtain rfl : fn = Tryz.f9 := (Option.some.inj (Tryz.func9.symm.trans hfn)).symm
      exact ⟨cLooks, fun j t ht => by
        rw [Tryz.params9] at ht
        have h3 : t = 64 ∨ t = 3 := by
          rcases j with _ | _ | j
          · left; simpa using ht.symm
          · right; simpa using ht.symm
          · simp at ht
        rcases h3 with rfl | rfl
        · exact (show Tryz.prog.wantsStandIn 64 = false by kernel_rfl)
        · exact (show Tryz.prog.wantsStandIn 3 = false by kernel_rfl)⟩)
    cGoes
#print axioms card
end Go.Proofs.YtcjlhjoobchabaaGreatDoor.systemNobody

/- turnbucklelaw21.StepNumbers: the row, and the card. -/
import Derived.Test.YtkkfacgbfjmckaaGreatDoorRows
import Derived.Test.YtkkfacgbfjmckaaGreatDoorCards
import Derived.Test.YtkkfacgbfjmckaaGreatDoorTie
import Derived.Test.YtkkfacgbfjmckaaGreatDoorLaid
import Derived.Test.YtkkfacgbfjmckaaGreatDoorLawN
import Derived.WalkKit
import Derived.ProofKit
import Derived.OpenShut
import Derived.SevenTiedAt
import Derived.Carry
import Derived.ChangeSlices
namespace Go.Proofs.YtkkfacgbfjmckaaGreatDoor.stepNumbers
open Go.ChangeShapes Go.WideShapes Go.ChangeAt Go.RowKit
set_option linter.unusedVariables false
set_option maxHeartbeats 2000000

theorem laidOut : laidOutB Tryz.prog = true := by kernel_rfl
theorem cU32 : Tryz.prog.cellsOf 26 = 1 := by kernel_rfl

set_option maxRecDepth 100000 in
theorem lifted (os : Os) (started : os.Started) (H : Type) (enc : TypeId × Value → H) :
    ReturnsInHanded {} Tryz.checked os 3 .any (fun w args => (Rows.stepNumbersSpec.pre enc Tryz.prog Tryz.f3 [] false w args ∧ laidMetH Tryz.prog laidL w) ∧ sizedMet enc Tryz.prog Tryz.f3 (OpenSpec.ofChange Rows.stepNumbersSpec) false w args)
      (Rows.stepNumbersSpec.post enc Tryz.prog Tryz.f3 false true false false) := by
  refine returnsInHanded_of_change_and (C := Tryz.checked) (X := fun w _ => laidMetH Tryz.prog laidL w) (fun _ _ _ hh h => h.of_heap hh) own started (by kernel_rfl) Tryz.func3
    (ChangeSpec.witness_shaped (enc := enc) (C := Tryz.checked) (os := os) (X := fun w _ => laidMetH Tryz.prog laidL w) false (World.doorLaid Tryz.prog 14 os) #[.slice none 0 0, .slice none 0 0, .int .u64 0] 8 rfl (World.shaped_of_RefB (by kernel_rfl) (by kernel_rfl)) (by kernel_rfl) (by kernel_rfl) (by kernel_rfl) (door_met os _)) ?_
  intro W base args ds gs before hval0 hW _ _ hL _
  have hval : ∀ (j : Nat) t v, Tryz.f3.params[j]? = some t → args[j]? = some v → Value.okWide Tryz.prog W .any base t v := hval0
  have hW' := hW
  obtain ⟨p, q, hA0, hV, rfl, hfz, hnd⟩ := hW
  have hA : DataW.TrodAll enc Tryz.prog W 0 (fun _ => true) true Tryz.f3.params.toList args.toList ds p := hA0
  rw [Tryz.params3] at hA hval
  obtain ⟨v0, vs0, d0, ds0, p0, q0, hargs, rfl, rfl, h0, r0⟩ := trodAll_cons hA
  obtain ⟨v1, vs1, d1, ds1, p1, q1, rfl, rfl, rfl, h1, r1⟩ := trodAll_cons r0
  obtain ⟨v2, vs2, d2, ds2, p2, q2, rfl, rfl, rfl, h2, r2⟩ := trodAll_cons r1
  obtain ⟨rfl, rfl, rfl⟩ := trodAll_nil r2
  obtain rfl : args = #[v0, v1, v2] := by cases args; simp_all
  obtain ⟨rfl, rfl⟩ := trodVars_none hV
  have h0k := h0
  have h1k := h1
  obtain ⟨a2, rfl, rfl, rfl, w2⟩ := open_int Tryz.underlying24 (hval 2 24 v2 rfl rfl) h2
  obtain ⟨ax, lx, cx, rfl⟩ := okWide_slice Tryz.underlying22 (hval 0 22 v0 rfl rfl)
  obtain ⟨ay, ly, cy, rfl⟩ := okWide_slice Tryz.underlying23 (hval 1 23 v1 rfl rfl)
  have hlt0 : ∀ x ∈ p0, x.block < W.heap.size := fun x hx => hW'.lt x (by simp [hx])
  have hlt1 : ∀ x ∈ p1, x.block < W.heap.size := fun x hx => hW'.lt x (by simp [hx])
  have s0 : ∃ (ao : Option Addr) (lo co : Nat) (o : Nat → Int), (Value.slice ax lx cx) = .slice ao lo co ∧ ∀ i, i < lo → ∃ b off, ao = some ⟨b, off, none⟩ ∧ W.cell? ⟨b, off + i, none⟩ = some (.int .u8 (o i)) ∧ 0 ≤ o i ∧ o i ≤ 255 := by
    obtain ⟨f0, h0⟩ := h0
    rcases open_ints Tryz.underlying22 Tryz.underlying5 cU8 h0 with ⟨hc, _⟩ | ⟨a, len, cap, zs, hc, _, hl, _, hz, _, hcell, hw⟩
    · exact ⟨none, 0, 0, fun _ => 0, by simpa [Value.cells] using hc, fun i h => by omega⟩
    · simp only [if_true] at hz
      refine ⟨some a, len, cap, fun i => zs.getD i 0, by simpa [Value.cells] using hc, fun i h => ?_⟩
      obtain ⟨b, off, rfl, hb⟩ := ints_at hcell (by omega)
      have hi : i < zs.length := by omega
      have hwi := hw (zs.getD i 0) (by simp [List.getD, hi])
      have hwi' : 0 ≤ zs.getD i 0 ∧ zs.getD i 0 ≤ 255 := (show IntKind.u8.min ≤ zs.getD i 0 ∧ zs.getD i 0 ≤ IntKind.u8.max by simpa [Lit.wf] using hwi)
      exact ⟨b, off, rfl, hb i hi, hwi'⟩
  have s1 : ∃ (ao : Option Addr) (lo co : Nat) (o : Nat → Int), (Value.slice ay ly cy) = .slice ao lo co ∧ ∀ i, i < lo → ∃ b off, ao = some ⟨b, off, none⟩ ∧ W.cell? ⟨b, off + i, none⟩ = some (.int .u32 (o i)) ∧ 0 ≤ o i ∧ o i ≤ 4294967295 := by
    obtain ⟨f1, h1⟩ := h1
    rcases open_ints Tryz.underlying23 Tryz.underlying26 cU32 h1 with ⟨hc, _⟩ | ⟨a, len, cap, zs, hc, _, hl, _, hz, _, hcell, hw⟩
    · exact ⟨none, 0, 0, fun _ => 0, by simpa [Value.cells] using hc, fun i h => by omega⟩
    · simp only [if_true] at hz
      refine ⟨some a, len, cap, fun i => zs.getD i 0, by simpa [Value.cells] using hc, fun i h => ?_⟩
      obtain ⟨b, off, rfl, hb⟩ := ints_at hcell (by omega)
      have hi : i < zs.length := by omega
      have hwi := hw (zs.getD i 0) (by simp [List.getD, hi])
      have hwi' : 0 ≤ zs.getD i 0 ∧ zs.getD i 0 ≤ 4294967295 := (show IntKind.u32.min ≤ zs.getD i 0 ∧ zs.getD i 0 ≤ IntKind.u32.max by simpa [Lit.wf] using hwi)
      exact ⟨b, off, rfl, hb i hi, hwi'⟩
  obtain ⟨ao, lo, co, o, e0, ho⟩ := s0
  obtain ⟨bo, li, ci, im, e1, hi⟩ := s1
  cases e0
  cases e1
  clear hA0 hval0
  have hg := tab_of_laid hL 0
  refine (nums_walk ax ay lx cx ly cy o im a2 W ho hi hg (ltOfCell hg)).mono fun e W' ⟨he, hB⟩ => ?_
  subst he
  refine ⟨_, rfl, _, _, _, [], p0 ++ (p1 ++ ([] ++ [])), [], hW', ?_, ?_, ?_, hB.frame _, fun h => by cases h⟩
  · exact trodAll_cons_mk (shut_bool Tryz.underlying4 _) trodAll_mk0
  · exact trodAll_cons_mk (Below.trod laidOut (by kernel_rfl) (of_decide_eq_true (by kernel_rfl)) h0k hB hlt0) (trodAll_cons_mk (Below.trod laidOut (by kernel_rfl) (of_decide_eq_true (by kernel_rfl)) h1k hB hlt1) (trodAll_cons_mk (shut_int Tryz.underlying24 w2) trodAll_mk0))
  · rfl

theorem over : Rows.stepNumbersRow.holds Tryz.pinned (OpenSpec.ofChange Rows.stepNumbersSpec) :=
  OpenClaim.holds_of_wide 3 Tryz.f3 rfl rfl rfl rfl rfl rfl rfl ⟨rfl, rfl, rfl, rfl, rfl⟩ rfl rfl rfl rfl rfl (by kernel_rfl) Tryz.func3 (by kernel_rfl)
    (of_decide_eq_true (by kernel_rfl)) (by unfold Func.isWrapper; first | (rw [if_pos (by decide +kernel)]; kernel_rfl) | (rw [if_neg (by decide +kernel)]; exact ⟨rfl, rfl⟩))
    (fun os started H enc _ => lifted os started H enc)

theorem card : Rows.StepNumbersCardSaid :=
  Claim7.holds_tied_plain_at .later [] [.data] true (true, "e371ad55bce2a54cd621b4dfcea8d51df93a62a09f035b9b6dcc52c1eb81c498") false
    over (fun _ h => by cases h) (by kernel_rfl) (fun _ h => by cases h) stepNumbers_row_tie rfl ⟨rfl, rfl⟩ (by kernel_rfl) rfl
    (fun f fn hf hfn => by
      obtain rfl : f = 3 := Option.some.inj ((show Tryz.prog.funcNamed "turnbuckle/turnbucklelaw21.StepNumbers" = some 3 by kernel_rfl).symm.trans hf) |>.symm
      obtain rfl : fn = Tryz.f3 := (Option.some.inj (Tryz.func3.symm.trans hfn)).symm
      exact ⟨by kernel_rfl, fun j t ht => by
        rw [Tryz.params3] at ht
        have h3 : t = 22 ∨ t = 23 ∨ t = 24 := by
          rcases j with _ | _ | _ | j
          · left; simpa using ht.symm
          · right; left; simpa using ht.symm
          · right; right; simpa using ht.symm
          · simp at ht
        rcases h3 with rfl | rfl | rfl
        · exact (show Tryz.prog.wantsStandIn 22 = false by kernel_rfl)
        · exact (show Tryz.prog.wantsStandIn 23 = false by kernel_rfl)
        · exact (show Tryz.prog.wantsStandIn 24 = false by kernel_rfl)⟩)
    (by kernel_rfl)
#print axioms card
end Go.Proofs.YtkkfacgbfjmckaaGreatDoor.stepNumbers

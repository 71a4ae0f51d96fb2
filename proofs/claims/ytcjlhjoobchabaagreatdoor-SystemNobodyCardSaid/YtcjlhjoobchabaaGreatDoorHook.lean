/- The engine, 26: a closed run, as a contract for other runs. -/
import Derived.Test.YtcjlhjoobchabaaGreatDoorEng25
namespace Go.Proofs.YtcjlhjoobchabaaGreatDoor
open Go.RowKit
set_option linter.unusedVariables false
variable {η : Nat → Int} {L L' : LM} {W0 : Base} {w w' : World} {σ σ' : H}

theorem Rom.Ok.of_rel {rom : Rom} (h : rom.Ok η W0) (hR : Rel W0 η L σ w) : rom.Ok η (Base.of w) :=
  ⟨fun g off v hv => let ⟨V, h1, h2⟩ := h.cell g off v hv; ⟨V, h1, fun w2 hw2 => h2 w2 fun k x hx => hw2 k x (hR.held k x hx)⟩⟩
theorem Rel.of_below (hR : Rel W0 η L σ w) (hB : Below w.heap.size w w') : Rel W0 η L σ w' := by
  refine ⟨hB.os.trans hR.os, hB.tape.trans hR.tape, hB.output.trans hR.output, fun k x hx => ?_, hR.free, hR.rsv, fun o x hx => ?_, hR.inj⟩
  · have h := hR.held k x hx
    exact (hB.block k (Array.getElem?_eq_some_iff.1 h).1).trans h
  · obtain ⟨b, g1, g2, g3⟩ := hR.obj o x hx
    exact ⟨b, g1, g2, g3.keep (LM.Le.refl _) (hB.block b g3.lt)⟩
/-- What a closed run says, in any run. -/
theorem closed_says {C : Cfg} (hC : ∀ η, C.Ok η) {rom : Rom} (hm : C.P.follows .mixedOrders = true) (hN : NamesOk C.P) {n f : Nat} {b : Bool} {σ' : H}
    (h : acall C rom (fun _ => none) n false f .nil ⟨.nil, 0⟩ (fun v σ => some (v, σ)) = some (.bool b, σ')) (hM : rom.Ok η W0) (σ : H) : CallsTo C.P W0 η f .nil σ (.bool b) σ := by
  intro L w Vs hVs hR
  obtain ⟨v2, σ2, hk2, hto⟩ := (acall_ok (hC η) hm hN (hk := fun _ => none) (fun _ _ h => by cases h) n).1 f .nil _ _ _ h
  cases hk2
  have := DL_nil_inv hVs
  subst this
  obtain ⟨hf, hc⟩ := hto (Base.of w) (hM.of_rel hR) LM.none_ w [] DL_nil (Rel.start w η)
  refine ⟨hf, hc.mono ?_⟩
  rintro e w' ⟨L2, V, _, rfl, hD, hR2⟩
  cases hD
  exact ⟨L, _, LM.Le.refl _, rfl, rfl, hR.of_below hR2.below⟩
/-- The contract, as a hook. -/
noncomputable def hookB (b : Bool) : HookF := fun args σ k => tst (isNil args) (k (.bool b) σ)
theorem hookB_ok {P : Program} {rom : Rom} {b : Bool} {f : Nat} (h : ∀ W0, rom.Ok η W0 → ∀ σ, CallsTo P W0 η f .nil σ (.bool b) σ) {args : AV} {σ : H} {k : AV → H → Option Res} {r : Res} (hk : hookB b args σ k = some r) :
    ∃ v σ', k v σ' = some r ∧ ∀ W0, rom.Ok η W0 → CallsTo P W0 η f args σ v σ' := by
  obtain ⟨h1, hk⟩ := tst_some hk
  have := isNil_true h1
  subst this
  exact ⟨_, σ, hk, fun W0 hM => h W0 hM σ⟩
theorem NamesOk.of {P : Program} (h : P.funcs.toList.all (fun fn => !(fn.name == "runtime.NumGoroutine")) = true) : NamesOk P := by
  intro f fn hf
  have := List.all_eq_true.1 h fn (by have := Array.mem_of_getElem? hf; simpa using this)
  simpa using this
end Go.Proofs.YtcjlhjoobchabaaGreatDoor

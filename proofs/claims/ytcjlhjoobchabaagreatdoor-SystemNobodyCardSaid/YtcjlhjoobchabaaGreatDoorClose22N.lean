/- turnbucklelaw22.SystemNobody: what the row's text says of the program: closed facts, one by one. -/
import Derived.Test.YtcjlhjoobchabaaGreatDoorRows
import Derived.Test.YtcjlhjoobchabaaGreatDoorCards
import Derived.JoinedOf
import Derived.ProofKit
import Derived.SevenTiedAt
import Derived.KernelRfl
namespace Go.Proofs.YtcjlhjoobchabaaGreatDoor.systemNobody
open Go.RowKit
set_option maxRecDepth 100000
theorem kPlace : (Rows.systemNobodyRow.inPlace == Tryz.pinned.checked.prog.inPlace 9) = true := by kernel_rfl
theorem kUnf : (Rows.systemNobodyRow.unfollowed == Tryz.pinned.checked.prog.unfollowed 9) = true := by kernel_rfl
theorem kRec : (Rows.systemNobodyRow.recurses == Tryz.pinned.checked.prog.recurses 9) = true := by kernel_rfl
theorem kVars : (Rows.systemNobodyRow.named == Tryz.pinned.checked.prog.varsNamed 9) = true := by kernel_rfl
theorem kName : Tryz.pinned.checked.prog.funcNamed Rows.systemNobodyRow.func = some 9 := by kernel_rfl
theorem closed : joinedFacts Tryz.pinned.checked.prog 9 Tryz.f9 Rows.systemNobodySpec Rows.systemNobodyRow = true := by
  unfold joinedFacts
  rw [kPlace, kUnf, kRec, kVars]
  kernel_rfl
theorem inst : (Tryz.f9).isInstance Tryz.pinned.checked.prog Rows.systemNobodyRow.origin Rows.systemNobodyRow.targs := of_decide_eq_true (by kernel_rfl)
theorem wrap : (Tryz.f9).isWrapper Tryz.pinned.checked.prog Rows.systemNobodyRow.wrapper Rows.systemNobodyRow.mainSum := by
  unfold Func.isWrapper; first | (rw [if_pos (by decide +kernel)]; kernel_rfl) | (rw [if_neg (by decide +kernel)]; exact ⟨rfl, rfl⟩)
theorem cWf : Rows.systemNobodyRow.wfByText (OpenSpec.ofChange Rows.systemNobodySpec) = true := by kernel_rfl
theorem cMain : Tryz.pinned.checked.prog.mainIs = some (true, "1d8c4c47f2efd0021f1c9f13f42a44c17c53c7ea1cfe77f327a272bef5d52ee1".toList) := by kernel_rfl
theorem cLooks : true = Tryz.pinned.checked.prog.looks [] := by kernel_rfl
theorem cGoes : false = Rows.systemNobodyRow.goesBy Tryz.pinned.checked.prog := by kernel_rfl
end Go.Proofs.YtcjlhjoobchabaaGreatDoor.systemNobody

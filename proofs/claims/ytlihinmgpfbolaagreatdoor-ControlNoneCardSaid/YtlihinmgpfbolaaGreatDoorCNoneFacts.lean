/-
  ControlNone: the closed facts of its row, one by one, by the kernel.
-/
import Derived.Test.YtlihinmgpfbolaaGreatDoorCards
import Derived.JoinedOf
import Derived.SevenTiedAt
import Derived.KernelRfl
namespace Go.Proofs.YtlihinmgpfbolaaGreatDoor
open Go
namespace ControlNoneFacts
theorem and_t {a b : Bool} (h : a = true) (k : b = true) : (a && b) = true := by rw [h, k]; rfl
theorem k0 : (Rows.controlNoneRow.wf (OpenSpec.ofChange Rows.controlNoneSpec)) = true := by kernel_rfl
theorem k1 : (laidOutB Tryz.pinned.checked.prog) = true := by kernel_rfl
theorem k2 : (mapsRowed Tryz.pinned.checked.prog) = true := by kernel_rfl
theorem k3 : (Tryz.f5.params.all (Program.readableRec Tryz.pinned.checked.prog ·)) = true := by kernel_rfl
theorem k4 : (namedTie Tryz.pinned.checked.prog Rows.controlNoneRow.named Rows.controlNoneSpec.vars) = true := by kernel_rfl
theorem k5 : ((Rows.controlNoneRow.stops == [])) = true := by kernel_rfl
theorem k6 : ((Program.stops Tryz.pinned.checked.prog == [])) = true := by kernel_rfl
theorem k7 : ((Rows.controlNoneRow.knobs == [])) = true := by kernel_rfl
theorem k8 : ((Program.stopKnobs Tryz.pinned.checked.prog == [])) = true := by kernel_rfl
theorem k9 : ((Rows.controlNoneRow.inPlace == Program.inPlace Tryz.pinned.checked.prog 5)) = true := by kernel_rfl
theorem k10 : ((Rows.controlNoneRow.unfollowed == Program.unfollowed Tryz.pinned.checked.prog 5)) = true := by kernel_rfl
theorem k11 : ((Rows.controlNoneRow.recurses == Program.recurses Tryz.pinned.checked.prog 5)) = true := by kernel_rfl
theorem k12 : ((Rows.controlNoneRow.named == Program.varsNamed Tryz.pinned.checked.prog 5)) = true := by kernel_rfl
theorem k13 : ((Rows.controlNoneRow.maps == (Tryz.f5.params.toList ++ Rows.controlNoneSpec.plain.varTypes Tryz.pinned.checked.prog).any (Program.mapsRec Tryz.pinned.checked.prog ·))) = true := by kernel_rfl
theorem k14 : ((Rows.controlNoneRow.ifaces == (Tryz.f5.params.toList ++ Rows.controlNoneSpec.plain.varTypes Tryz.pinned.checked.prog).any (Program.ifacesRec Tryz.pinned.checked.prog ·))) = true := by kernel_rfl
theorem k15 : ((Rows.controlNoneRow.mapsOut == Program.mapsAmong Tryz.pinned.checked.prog Tryz.f5.resultTypes.toList)) = true := by kernel_rfl
theorem k16 : ((Rows.controlNoneRow.loops == (Tryz.f5.params.toList ++ Rows.controlNoneSpec.plain.varTypes Tryz.pinned.checked.prog).any (Program.loopsFrom Tryz.pinned.checked.prog ·))) = true := by kernel_rfl
theorem k17 : ((Rows.controlNoneRow.wideKeys == (Tryz.f5.params.toList ++ Rows.controlNoneSpec.plain.varTypes Tryz.pinned.checked.prog ++ Tryz.f5.resultTypes.toList).any (Program.wideKeysFrom Tryz.pinned.checked.prog ·))) = true := by kernel_rfl
theorem k18 : (Rows.controlNoneSpec.vars.all (Program.varReadable Tryz.pinned.checked.prog ·)) = true := by kernel_rfl
theorem k19 : (Tryz.f5.resultTypes.all (fun t => Program.readableRec Tryz.pinned.checked.prog t && decide (t < Tryz.pinned.checked.prog.types.size))) = true := by kernel_rfl
theorem k20 : ((Rows.controlNoneRow.ifacesOut == Tryz.f5.resultTypes.toList.any (Program.ifacesRec Tryz.pinned.checked.prog ·))) = true := by kernel_rfl
theorem k21 : ((Rows.controlNoneRow.loopsOut == Tryz.f5.resultTypes.toList.any (Program.loopsFrom Tryz.pinned.checked.prog ·))) = true := by kernel_rfl
theorem k22 : ((Rows.controlNoneRow.plainKeys == Program.plainKeys Tryz.pinned.checked.prog)) = true := by kernel_rfl
theorem k23 : (Rows.controlNoneRow.shortTexts.isNone) = true := by kernel_rfl
theorem k24 : (Program.stopsHeard Tryz.pinned.checked.prog) = true := by kernel_rfl
theorem k25 : (Program.mayEnter Tryz.pinned.checked.prog) = true := by kernel_rfl
theorem k26 : ((Rows.controlNoneRow.lifted == Program.liftsFinal Tryz.pinned.checked.prog)) = true := by kernel_rfl
theorem k27 : ((Program.make Tryz.pinned.checked.prog == some Rows.controlNoneRow.make)) = true := by kernel_rfl
theorem k29 : ((Rows.controlNoneRow.pinned == Rows.controlNoneRow.pinnedBy)) = true := by kernel_rfl
theorem k30 : ((Rows.controlNoneRow.veiled == (Tryz.f5.params.toList ++ Rows.controlNoneSpec.plain.varTypes Tryz.pinned.checked.prog ++ Tryz.f5.resultTypes.toList).any (Program.veiledRec Tryz.pinned.checked.prog ·))) = true := by kernel_rfl
theorem k31 : (Rows.controlNoneRow.veiledFits Tryz.pinned.checked.prog Tryz.f5.params.toList (Tryz.f5.params.toList ++ Rows.controlNoneSpec.plain.varTypes Tryz.pinned.checked.prog ++ Tryz.f5.resultTypes.toList)) = true := by kernel_rfl
theorem named : Tryz.pinned.checked.prog.funcNamed Rows.controlNoneRow.func = some 5 := by kernel_rfl
theorem inst : decide (Tryz.f5.isInstance Tryz.pinned.checked.prog Rows.controlNoneRow.origin Rows.controlNoneRow.targs) = true := by kernel_rfl
theorem wrap : Tryz.f5.isWrapper Tryz.pinned.checked.prog Rows.controlNoneRow.wrapper Rows.controlNoneRow.mainSum := by
  unfold Func.isWrapper; first | (rw [if_pos (by decide +kernel)]; kernel_rfl) | (rw [if_neg (by decide +kernel)]; exact ⟨rfl, rfl⟩)
end ControlNoneFacts
end Go.Proofs.YtlihinmgpfbolaaGreatDoor

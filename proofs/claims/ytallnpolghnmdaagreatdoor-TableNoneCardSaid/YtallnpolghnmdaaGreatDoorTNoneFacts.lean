/-
  TableNone: the closed facts of its row, one by one, by the kernel.
-/
import Derived.Test.YtallnpolghnmdaaGreatDoorCards
import Derived.JoinedOf
import Derived.SevenTiedAt
import Derived.KernelRfl
namespace Go.Proofs.YtallnpolghnmdaaGreatDoor
open Go
namespace TableNoneFacts
theorem and_t {a b : Bool} (h : a = true) (k : b = true) : (a && b) = true := by rw [h, k]; rfl
theorem k0 : (Rows.tableNoneRow.wf (OpenSpec.ofChange Rows.tableNoneSpec)) = true := by kernel_rfl
theorem k1 : (laidOutB Tryz.pinned.checked.prog) = true := by kernel_rfl
theorem k2 : (mapsRowed Tryz.pinned.checked.prog) = true := by kernel_rfl
theorem k3 : (Tryz.f10.params.all (Program.readableRec Tryz.pinned.checked.prog ·)) = true := by kernel_rfl
theorem k4 : (namedTie Tryz.pinned.checked.prog Rows.tableNoneRow.named Rows.tableNoneSpec.vars) = true := by kernel_rfl
theorem k5 : ((Rows.tableNoneRow.stops == [])) = true := by kernel_rfl
theorem k6 : ((Program.stops Tryz.pinned.checked.prog == [])) = true := by kernel_rfl
theorem k7 : ((Rows.tableNoneRow.knobs == [])) = true := by kernel_rfl
theorem k8 : ((Program.stopKnobs Tryz.pinned.checked.prog == [])) = true := by kernel_rfl
theorem k9 : ((Rows.tableNoneRow.inPlace == Program.inPlace Tryz.pinned.checked.prog 10)) = true := by kernel_rfl
theorem k10 : ((Rows.tableNoneRow.unfollowed == Program.unfollowed Tryz.pinned.checked.prog 10)) = true := by kernel_rfl
theorem k11 : ((Rows.tableNoneRow.recurses == Program.recurses Tryz.pinned.checked.prog 10)) = true := by kernel_rfl
theorem k12 : ((Rows.tableNoneRow.named == Program.varsNamed Tryz.pinned.checked.prog 10)) = true := by kernel_rfl
theorem k13 : ((Rows.tableNoneRow.maps == (Tryz.f10.params.toList ++ Rows.tableNoneSpec.plain.varTypes Tryz.pinned.checked.prog).any (Program.mapsRec Tryz.pinned.checked.prog ·))) = true := by kernel_rfl
theorem k14 : ((Rows.tableNoneRow.ifaces == (Tryz.f10.params.toList ++ Rows.tableNoneSpec.plain.varTypes Tryz.pinned.checked.prog).any (Program.ifacesRec Tryz.pinned.checked.prog ·))) = true := by kernel_rfl
theorem k15 : ((Rows.tableNoneRow.mapsOut == Program.mapsAmong Tryz.pinned.checked.prog Tryz.f10.resultTypes.toList)) = true := by kernel_rfl
theorem k16 : ((Rows.tableNoneRow.loops == (Tryz.f10.params.toList ++ Rows.tableNoneSpec.plain.varTypes Tryz.pinned.checked.prog).any (Program.loopsFrom Tryz.pinned.checked.prog ·))) = true := by kernel_rfl
theorem k17 : ((Rows.tableNoneRow.wideKeys == (Tryz.f10.params.toList ++ Rows.tableNoneSpec.plain.varTypes Tryz.pinned.checked.prog ++ Tryz.f10.resultTypes.toList).any (Program.wideKeysFrom Tryz.pinned.checked.prog ·))) = true := by kernel_rfl
theorem k18 : (Rows.tableNoneSpec.vars.all (Program.varReadable Tryz.pinned.checked.prog ·)) = true := by kernel_rfl
theorem k19 : (Tryz.f10.resultTypes.all (fun t => Program.readableRec Tryz.pinned.checked.prog t && decide (t < Tryz.pinned.checked.prog.types.size))) = true := by kernel_rfl
theorem k20 : ((Rows.tableNoneRow.ifacesOut == Tryz.f10.resultTypes.toList.any (Program.ifacesRec Tryz.pinned.checked.prog ·))) = true := by kernel_rfl
theorem k21 : ((Rows.tableNoneRow.loopsOut == Tryz.f10.resultTypes.toList.any (Program.loopsFrom Tryz.pinned.checked.prog ·))) = true := by kernel_rfl
theorem k22 : ((Rows.tableNoneRow.plainKeys == Program.plainKeys Tryz.pinned.checked.prog)) = true := by kernel_rfl
theorem k23 : (Rows.tableNoneRow.shortTexts.isNone) = true := by kernel_rfl
theorem k24 : (Program.stopsHeard Tryz.pinned.checked.prog) = true := by kernel_rfl
theorem k25 : (Program.mayEnter Tryz.pinned.checked.prog) = true := by kernel_rfl
theorem k26 : ((Rows.tableNoneRow.lifted == Program.liftsFinal Tryz.pinned.checked.prog)) = true := by kernel_rfl
theorem k27 : ((Program.make Tryz.pinned.checked.prog == some Rows.tableNoneRow.make)) = true := by kernel_rfl
theorem k29 : ((Rows.tableNoneRow.pinned == Rows.tableNoneRow.pinnedBy)) = true := by kernel_rfl
theorem k30 : ((Rows.tableNoneRow.veiled == (Tryz.f10.params.toList ++ Rows.tableNoneSpec.plain.varTypes Tryz.pinned.checked.prog ++ Tryz.f10.resultTypes.toList).any (Program.veiledRec Tryz.pinned.checked.prog ·))) = true := by kernel_rfl
theorem k31 : (Rows.tableNoneRow.veiledFits Tryz.pinned.checked.prog Tryz.f10.params.toList (Tryz.f10.params.toList ++ Rows.tableNoneSpec.plain.varTypes Tryz.pinned.checked.prog ++ Tryz.f10.resultTypes.toList)) = true := by kernel_rfl
theorem named : Tryz.pinned.checked.prog.funcNamed Rows.tableNoneRow.func = some 10 := by kernel_rfl
theorem inst : decide (Tryz.f10.isInstance Tryz.pinned.checked.prog Rows.tableNoneRow.origin Rows.tableNoneRow.targs) = true := by kernel_rfl
theorem wrap : Tryz.f10.isWrapper Tryz.pinned.checked.prog Rows.tableNoneRow.wrapper Rows.tableNoneRow.mainSum := by
  unfold Func.isWrapper; first | (rw [if_pos (by decide +kernel)]; kernel_rfl) | (rw [if_neg (by decide +kernel)]; exact ⟨rfl, rfl⟩)
end TableNoneFacts
end Go.Proofs.YtallnpolghnmdaaGreatDoor

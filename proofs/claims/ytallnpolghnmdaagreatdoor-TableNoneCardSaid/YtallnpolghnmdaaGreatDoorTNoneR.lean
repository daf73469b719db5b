/-
  TableNone: the runs of the law, its two calls known.
-/
import Derived.Test.YtallnpolghnmdaaGreatDoorTNoneA
import Derived.Test.YtallnpolghnmdaaGreatDoorDLaw
namespace Go.Dx.Tryz
noncomputable def Gn (r : Bool) (ib : Int × Int) : Ctx := { base with bnd := [ib], orc := (PM.nil.set 11 { pat := .args [], ans := .bool true }).set 13 { pat := .row 1 evCells, ans := .bool r } }
theorem none_f : retIs (calls (Gn false (-9223372036854775808, 9223372036854775807)) 100000 10 [.agg evCells, .int .i64 (.a 0 0)] { heap := .nil, next := 0 }) isTr = true := by kernel_rfl
theorem none_lo : retIs (calls (Gn true (-9223372036854775808, 0)) 100000 10 [.agg evCells, .int .i64 (.a 0 0)] { heap := .nil, next := 0 }) isTr = true := by kernel_rfl
theorem none_hi : retIs (calls (Gn true (1, 9223372036854775807)) 100000 10 [.agg evCells, .int .i64 (.a 0 0)] { heap := .nil, next := 0 }) isTr = true := by kernel_rfl
end Go.Dx.Tryz

/-
  'awake' of the Table seat, in the kernel.
-/
import Derived.Test.YtallnpolghnmdaaGreatDoorCtxT
import Derived.Test.YtallnpolghnmdaaGreatDoorDLaw
namespace Go.Dx.Tryz
theorem awake_run : retIs (calls base 100000 11 [] { heap := .nil, next := 0 }) isTr = true := by kernel_rfl
end Go.Dx.Tryz

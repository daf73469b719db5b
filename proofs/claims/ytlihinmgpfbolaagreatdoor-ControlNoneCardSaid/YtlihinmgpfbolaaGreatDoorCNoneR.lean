/-
  ControlNone: the runs of the law in the kernel: 'awake'; the law where 'awake' is known, by the body's length and the tick.
-/
import Derived.Test.YtlihinmgpfbolaaGreatDoorCtxC
import Derived.Test.YtlihinmgpfbolaaGreatDoorDMsg
namespace Go.Dx.Co
def halves : List Int := [0, 498536548, 997073096, 651767980, 1994146192, 1802195444, 1303535960, 1342533948, 3988292384, 4027552580, 3604390888, 3412177804, 2607071920, 2262029012, 2685067896, 3183342108]
noncomputable def sC : St := glbSt 1 16 .u32 halves 282
def msgCells : List SV := (List.range 21).map .opq
def lensC : List (Option SI) := [none, none, none, none, none, none, none, none, none, none, none, none, none, none, none, none, none, some (.a 1 0)]
noncomputable def Ca : Ctx := { base with glb := PM.nil.set 1 16, dq := PM.nil.set 51 1 }
noncomputable def Cn (lb nb : Int × Int) : Ctx := { base with
  glb := PM.nil.set 1 16, dq := PM.nil.set 51 1, bnd := [nb, lb], lens := lensC
  orc := PM.nil.set 6 { pat := .args [], ans := .bool true } }
theorem awake_run : retIs (calls Ca 100000 6 [] sC) isTr = true := by kernel_rfl
theorem none_long : retIs (calls (Cn (401, 9223372036854775807) (-9223372036854775808, 9223372036854775807)) 100000 5 [.agg msgCells, .int .i64 (.a 0 0)] sC) isTr = true := by kernel_rfl
theorem none_lo : retIs (calls (Cn (0, 400) (-9223372036854775808, 5)) 100000 5 [.agg msgCells, .int .i64 (.a 0 0)] sC) isTr = true := by kernel_rfl
theorem none_mid : retIs (calls (Cn (0, 400) (6, 1099511627775)) 100000 5 [.agg msgCells, .int .i64 (.a 0 0)] sC) isTr = true := by kernel_rfl
theorem none_hi : retIs (calls (Cn (0, 400) (1099511627776, 9223372036854775807)) 100000 5 [.agg msgCells, .int .i64 (.a 0 0)] sC) isTr = true := by kernel_rfl
end Go.Dx.Co

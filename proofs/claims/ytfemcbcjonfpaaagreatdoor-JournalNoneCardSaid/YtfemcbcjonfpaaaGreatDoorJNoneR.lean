/-
  JournalNone: the runs of the law in the kernel: 'awake'; the law where 'small' is known, by intervals of the room.
-/
import Derived.Test.YtfemcbcjonfpaaaGreatDoorCtxJ
import Derived.Test.YtfemcbcjonfpaaaGreatDoorDLaw
namespace Go.Dx.Jo
def halves : List Int := [0, 498536548, 997073096, 651767980, 1994146192, 1802195444, 1303535960, 1342533948, 3988292384, 4027552580, 3604390888, 3412177804, 2607071920, 2262029012, 2685067896, 3183342108]
noncomputable def sJ : St := { heap := PM.nil.set 0 (.blk 16 (wr .nil 0 (halves.map fun n => .int .u32 (.c n))) 96 false true), next := 1 }
noncomputable def Ja : Ctx := { base with glb := PM.nil.set 0 16, dq := PM.nil.set 46 1 }
noncomputable def Jn (r : Bool) (ib : Int × Int) : Ctx := { base with
  glb := PM.nil.set 0 16, dq := PM.nil.set 46 1, bnd := [(-9223372036854775808, 9223372036854775807), ib]
  orc := (PM.nil.set 6 { pat := .args [], ans := .bool true }).set 7 { pat := .row 1 evCells, ans := .bool r }
  tab := [{ op := .and, k := .i64, x := .a 0 0, y := .c 63, z := .a 1 0 }] }
theorem awake_run : retIs (calls Ja 100000 6 [] sJ) isTr = true := by kernel_rfl
theorem none_f : retIs (calls (Jn false (0, 63)) 100000 5 [.agg evCells, .int .i64 (.a 0 0)] sJ) isTr = true := by kernel_rfl
theorem none_0 : retIs (calls (Jn true (0, 10)) 100000 5 [.agg evCells, .int .i64 (.a 0 0)] sJ) isTr = true := by kernel_rfl
theorem none_1 : retIs (calls (Jn true (11, 21)) 100000 5 [.agg evCells, .int .i64 (.a 0 0)] sJ) isTr = true := by kernel_rfl
theorem none_2 : retIs (calls (Jn true (22, 32)) 100000 5 [.agg evCells, .int .i64 (.a 0 0)] sJ) isTr = true := by kernel_rfl
theorem none_3 : retIs (calls (Jn true (33, 43)) 100000 5 [.agg evCells, .int .i64 (.a 0 0)] sJ) isTr = true := by kernel_rfl
theorem none_4 : retIs (calls (Jn true (44, 54)) 100000 5 [.agg evCells, .int .i64 (.a 0 0)] sJ) isTr = true := by kernel_rfl
theorem none_5 : retIs (calls (Jn true (55, 63)) 100000 5 [.agg evCells, .int .i64 (.a 0 0)] sJ) isTr = true := by kernel_rfl
end Go.Dx.Jo

/-
  TableNone: whatever the event and the number, the law answers true, and nothing that was there has changed.
-/
import Derived.Test.YtallnpolghnmdaaGreatDoorTNoneR
import Derived.Test.YtallnpolghnmdaaGreatDoorTSmall
namespace Go.Dx.Tryz
open Go.Proofs

theorem awake_any (W : World) (n : Nat) (w : World) (_ : Calm W w) : CallsIn Fence.wide n Tryz.prog 11 #[] w (fun e w' => e = .returned (.bool true) ∧ Calm w w') :=
  callsIn_wide.2 (law_run (gok rfl rfl rfl rfl) (bok_bare bare rfl Env.zero) awake_run (Rep.empty 0) nil_frz (gf_of rfl rfl rfl fun e he => by cases he) .nil)
theorem none_any {E : Nat → Value} {sa : Option Addr} {L cap : Nat} {W : World} (h1 : ∀ j, j < 10 → (E j).oneCell' = true) (h9 : E 9 = .slice sa L cap) (hLm : (L : Int) ≤ 9223372036854775807) (hS : ∀ k, k < L → ∀ bad, W.heap.size ≤ bad → SpecAt W bad sa (specN W sa) k) (i : Int) (hi : -9223372036854775808 ≤ i ∧ i ≤ 9223372036854775807) :
    Calls Tryz.prog 10 #[.agg #[E 0, E 1, E 2, E 3, E 4, E 5, E 6, E 7, E 8, E 9], .int .i64 i] W (fun e w' => e = .returned (.bool true) ∧ Calm W w') := by
  have hsm : ∀ n w b o, EvAt w b o E → W.heap.size ≤ b → Calm W w → CallsIn Fence.wide n Tryz.prog 13 #[.slice (some ⟨b, o, none⟩) 1 1] w (fun e w' => e = .returned (.bool ((specN W sa).small 16 L)) ∧ Calm w w') := fun n w b o hE hb hc =>
    small_ok hE h9 hLm fun _ k hk => (hS k hk b hb).calm hc
  have hargs : VRL (envL E fun _ => i) (fun _ => none) [.agg evCells, .int .i64 (.a 0 0)] (#[.agg #[E 0, E 1, E 2, E 3, E 4, E 5, E 6, E 7, E 8, E 9], .int .i64 i] : Array Value).toList := by
    refine .cons (ev_args fun j hj => one1_eq (h1 j hj)) (.cons ?_ .nil)
    have h := VR.int (η := envL E fun _ => i) (ρ := fun _ => none) .i64 (.a 0 0)
    have e : (SI.a 0 0).den (envL E fun _ => i) = i := by show i + 0 = i; omega
    rw [e] at h; exact h
  have hb : ∀ (r : Bool) (lo hi : Int), lo ≤ i → i ≤ hi → BOK (Gn r (lo, hi)) (envL E fun _ => i) := fun r lo hi h1 h2 => bok_bnd (l := [(lo, hi)]) rfl rfl rfl rfl rfl fun j a b h => by
    cases j with
    | zero => cases h; exact ⟨h1, h2⟩
    | succ j => simp at h
  cases hr : (specN W sa).small 16 L with
  | false =>
    rw [hr] at hsm
    exact law_run (gok rfl rfl rfl rfl) (hb false _ _ hi.1 hi.2) none_f (Rep.empty 0) nil_frz (gf_law (fa := 11) (no_glb rfl) nil_frz rfl (no_dq rfl) rfl h1 (awake_any W) hsm) hargs
  | true =>
    rw [hr] at hsm
    by_cases h0 : i ≤ 0
    · exact law_run (gok rfl rfl rfl rfl) (hb true _ _ hi.1 h0) none_lo (Rep.empty 0) nil_frz (gf_law (fa := 11) (no_glb rfl) nil_frz rfl (no_dq rfl) rfl h1 (awake_any W) hsm) hargs
    · exact law_run (gok rfl rfl rfl rfl) (hb true _ _ (by omega) hi.2) none_hi (Rep.empty 0) nil_frz (gf_law (fa := 11) (no_glb rfl) nil_frz rfl (no_dq rfl) rfl h1 (awake_any W) hsm) hargs
#print axioms none_any
end Go.Dx.Tryz

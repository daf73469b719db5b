/-
  JournalNone: whatever the event and the room, the law answers true, and nothing that was there has changed.
-/
import Derived.Test.YtfemcbcjonfpaaaGreatDoorJNoneR
import Derived.Test.YtfemcbcjonfpaaaGreatDoorJSmall
import Derived.Test.YtfemcbcjonfpaaaGreatDoorDGlb
import Derived.RecoverIn
import Derived.WalkKit
namespace Go.Dx.Jo
open Go.Proofs

theorem rng2 {α : Type} (x y : α) : List.range (#[x, y] : Array α).size = [0, 1] := rfl
theorem bin_nili (w : World) : (binOp BinOp.neq 20 .nilIface .nilIface).run Tryz.prog w = .ok (.bool false) w := by kernel_rfl
set_option maxRecDepth 100000 in
theorem quiet46 (A : Array Value) (n : Nat) (w : World) : CallsDIn Fence.wide n Tryz.prog 46 A .returning w (fun e u w2 => ∃ V, e = .returned V ∧ u = .returning ∧ w2 = w) := by
  refine callsDIn_of_wpSIn Tryz.func46 (by unfold Tryz.f46; rfl) trivial fun c₀ cs hu => ?_
  have hr : recoverD (c₀ :: cs) = none := by simp [recoverD, hu]
  have b4 : 4 < A.size + (8 - A.size) := by omega
  have b5 : 5 < A.size + (8 - A.size) := by omega
  have b6 : 6 < A.size + (8 - A.size) := by omega
  have b7 : 7 < A.size + (8 - A.size) := by omega
  refine wpSIn_seq (wpSIn_region ?_)
  rw [rng2]
  simp only [wpOpsSIn]
  refine And.intro (fun _ _ => trivial) ?_
  simp [go_sem, Region.wanted, hr, Act.put, b5]
  simp only [Exit.thenS]
  refine wpSIn_seq (wpSIn_region ?_)
  rw [rng2]
  simp only [wpOpsSIn]
  refine And.intro (fun _ _ => trivial) ?_
  simp [go_sem, Region.wanted, Act.put, b4, b6, bin_nili]
  simp only [Exit.thenS]
  refine wpSIn_cond (t := false) (by simp [go_sem, b7]) ?_
  refine wpSIn_of_wpIn rfl (wpIn_skip ?_)
  exact ⟨rfl, .returning, by cases c₀; simp_all, .tuple #[], by simp [results, go_sem, Tryz.f46], ⟨_, rfl⟩, rfl, rfl⟩

theorem dqJ : ∀ {G : Ctx}, G.dq = PM.nil.set 46 1 → ∀ f x, G.dq.get f = some x → ∀ (A : Array Value) (n : Nat) (w' : World), CallsDIn Fence.wide n Tryz.prog f A .returning w' (fun e u w2 => ∃ V, e = .returned V ∧ u = .returning ∧ w2 = w') := by
  intro G h f x hx
  rw [h, PM.get_set] at hx
  split at hx
  · rename_i e; subst e; exact quiet46
  · rw [PM.get_nil] at hx; cases hx

theorem awake_any {W : World} (hH : IntsAt W 0 16 .u32 halves) (n : Nat) (w : World) (hc : Calm W w) : CallsIn Fence.wide n Tryz.prog 6 #[] w (fun e w' => e = .returned (.bool true) ∧ Calm w w') :=
  callsIn_wide.2 (law_run (η := Env.zero) (gok rfl rfl rfl rfl) (bok_bnd (l := []) rfl rfl rfl rfl rfl fun i lo hi h => by simp at h) awake_run (glb_rep (hH.calm hc) rfl) glb_frz
    ⟨⟨one_glb rfl, fun e he => by cases he⟩, fun ρ' s' w' _ _ f o h => (by have h' : (PM.nil : PM Orc).get f = some o := h; rw [PM.get_nil] at h'; cases h'), dqJ rfl⟩ .nil)

/-- room & 63 -/
def low6 (room : Int) : Int := IntKind.i64.wrap ((BitVec.ofInt 64 room &&& BitVec.ofInt 64 63).toNat : Int)
theorem low6_bd (room : Int) : 0 ≤ low6 room ∧ low6 room ≤ 63 := by
  have h : (BitVec.ofInt 64 room &&& BitVec.ofInt 64 63).toNat ≤ 63 := by
    rw [BitVec.toNat_and]
    exact Nat.le_trans Nat.and_le_right (by decide)
  unfold low6
  rw [wrap_small (by omega) (by omega)]
  omega
def ints2 (room : Int) : Nat → Int
  | 0 => room
  | 1 => low6 room
  | _ => 0

theorem none_any {E : Nat → Value} {sa : Option Addr} {L cap : Nat} {W : World} (hH : IntsAt W 0 16 .u32 halves) (h1 : ∀ j, j < 10 → (E j).oneCell' = true) (h9 : E 9 = .slice sa L cap) (hLm : (L : Int) ≤ 9223372036854775807) (hS : ∀ k, k < L → ∀ bad, W.heap.size ≤ bad → SpecAt W bad sa (specN W sa) k) (i : Int) (hi : -9223372036854775808 ≤ i ∧ i ≤ 9223372036854775807) :
    Calls Tryz.prog 5 #[.agg #[E 0, E 1, E 2, E 3, E 4, E 5, E 6, E 7, E 8, E 9], .int .i64 i] W (fun e w' => e = .returned (.bool true) ∧ Calm W w') := by
  have hsm : ∀ n w b o, EvAt w b o E → W.heap.size ≤ b → Calm W w → CallsIn Fence.wide n Tryz.prog 7 #[.slice (some ⟨b, o, none⟩) 1 1] w (fun e w' => e = .returned (.bool ((specN W sa).small 14 L)) ∧ Calm w w') := fun n w b o hE hb hc =>
    small_ok hE h9 hLm fun _ k hk => (hS k hk b hb).calm hc
  have hargs : VRL (envL E (ints2 i)) (Pls.upd (fun _ => none) 0 ⟨0, 0, 16⟩) [.agg evCells, .int .i64 (.a 0 0)] (#[.agg #[E 0, E 1, E 2, E 3, E 4, E 5, E 6, E 7, E 8, E 9], .int .i64 i] : Array Value).toList := by
    refine .cons (ev_args fun j hj => one1_eq (h1 j hj)) (.cons ?_ .nil)
    have h := VR.int (η := envL E (ints2 i)) (ρ := Pls.upd (fun _ => none) 0 ⟨0, 0, 16⟩) .i64 (.a 0 0)
    have e : (SI.a 0 0).den (envL E (ints2 i)) = i := by show i + 0 = i; omega
    rw [e] at h; exact h
  have hb : ∀ (r : Bool) (lo hi' : Int), lo ≤ low6 i → low6 i ≤ hi' → BOK (Jn r (lo, hi')) (envL E (ints2 i)) := fun r lo hi' h1 h2 => {
    bnd := fun j a b h => by
      have h' : nth [(-9223372036854775808, 9223372036854775807), (lo, hi')] j = some (a, b) := h
      rw [nth_eq] at h'
      match j, h' with
      | 0, h' => cases h'; exact hi
      | 1, h' => cases h'; exact ⟨h1, h2⟩
      | j + 2, h' => simp at h'
    lens := fun j z h => by have h' : nth ([] : List (Option SI)) j = some (some z) := h; rw [nth_eq] at h'; simp at h'
    slens := fun j z h => by have h' : nth ([] : List (Option SI)) j = some (some z) := h; rw [nth_eq] at h'; simp at h'
    tab := fun e he P w t => by
      have he' : e ∈ [{ op := .and, k := .i64, x := .a 0 0, y := .c 63, z := SI.a 1 0 : TabE }] := he
      rw [List.mem_singleton] at he'
      subst he'
      rw [binOp_and]
      show Result.ok (Value.int .i64 (IntKind.i64.wrap ((BitVec.ofInt 64 (i + 0) &&& BitVec.ofInt 64 63).toNat : Int))) w = .ok (.int .i64 (low6 i + 0)) w
      rw [Int.add_zero, Int.add_zero]; rfl
    btab := fun e he => by cases he }
  have go : ∀ (r : Bool) (lo hi' : Int), (specN W sa).small 14 L = r → lo ≤ low6 i → low6 i ≤ hi' → retIs (calls (Jn r (lo, hi')) 100000 5 [.agg evCells, .int .i64 (.a 0 0)] sJ) isTr = true →
      Calls Tryz.prog 5 #[.agg #[E 0, E 1, E 2, E 3, E 4, E 5, E 6, E 7, E 8, E 9], .int .i64 i] W (fun e w' => e = .returned (.bool true) ∧ Calm W w') := fun r lo hi' hr h2 h3 hrun =>
    law_run (gok rfl rfl rfl rfl) (hb r lo hi' h2 h3) hrun (glb_rep hH rfl) glb_frz (gf_law (fa := 6) (fs := 7) (r := r) (one_glb rfl) glb_frz rfl (dqJ rfl) rfl h1 (awake_any hH) (by rw [← hr]; exact hsm)) hargs
  have hlow := low6_bd i
  cases hr : (specN W sa).small 14 L with
  | false => exact go false 0 63 hr hlow.1 hlow.2 none_f
  | true =>
    by_cases c1 : low6 i ≤ 10
    · exact go true 0 10 hr hlow.1 c1 none_0
    · by_cases c2 : low6 i ≤ 21
      · exact go true 11 21 hr (by omega) c2 none_1
      · by_cases c3 : low6 i ≤ 32
        · exact go true 22 32 hr (by omega) c3 none_2
        · by_cases c4 : low6 i ≤ 43
          · exact go true 33 43 hr (by omega) c4 none_3
          · by_cases c5 : low6 i ≤ 54
            · exact go true 44 54 hr (by omega) c5 none_4
            · exact go true 55 63 hr (by omega) hlow.2 none_5
#print axioms none_any
end Go.Dx.Jo

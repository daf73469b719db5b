/-
  ControlNone: whatever the message and the tick, the law answers true, and nothing that was there has changed.
-/
import Derived.Test.YtlihinmgpfbolaaGreatDoorCNoneR
import Derived.RecoverIn
import Derived.WalkKit
namespace Go.Dx.Co
open Go.Proofs

theorem rng2 {α : Type} (x y : α) : List.range (#[x, y] : Array α).size = [0, 1] := rfl
theorem bin_nili (w : World) : (binOp BinOp.neq 20 .nilIface .nilIface).run Tryz.prog w = .ok (.bool false) w := by kernel_rfl
set_option maxRecDepth 100000 in
theorem quietF (A : Array Value) (n : Nat) (w : World) : CallsDIn Fence.wide n Tryz.prog 51 A .returning w (fun e u w2 => ∃ V, e = .returned V ∧ u = .returning ∧ w2 = w) := by
  refine callsDIn_of_wpSIn Tryz.func51 (by unfold Tryz.f51; rfl) trivial fun c₀ cs hu => ?_
  have hr : recoverD (c₀ :: cs) = none := by simp [recoverD, hu]
  have b4 : 4 < A.size + (8 - A.size) := by omega
  have b5 : 5 < A.size + (8 - A.size) := by omega
  have b6 : 6 < A.size + (8 - A.size) := by omega
  have b7 : 7 < A.size + (8 - A.size) := by omega
  refine wpSIn_seq (wpSIn_region ?_)
  rw [rng2]
  simp only [wpOpsSIn]
  refine And.intro (fun _ _ => trivial) ?_
  simp [go_sem, Region.wanted, hr, Act.put, b5]
  simp only [Exit.thenS]
  refine wpSIn_seq (wpSIn_region ?_)
  rw [rng2]
  simp only [wpOpsSIn]
  refine And.intro (fun _ _ => trivial) ?_
  simp [go_sem, Region.wanted, Act.put, b4, b6, bin_nili]
  simp only [Exit.thenS]
  refine wpSIn_cond (t := false) (by simp [go_sem, b7]) ?_
  refine wpSIn_of_wpIn rfl (wpIn_skip ?_)
  exact ⟨rfl, .returning, by cases c₀; simp_all, .tuple #[], by simp [results, go_sem, Tryz.f51], ⟨_, rfl⟩, rfl, rfl⟩


theorem dqC : ∀ {G : Ctx}, G.dq = PM.nil.set 51 1 → ∀ f x, G.dq.get f = some x → ∀ (A : Array Value) (n : Nat) (w' : World), CallsDIn Fence.wide n Tryz.prog f A .returning w' (fun e u w2 => ∃ V, e = .returned V ∧ u = .returning ∧ w2 = w') := by
  intro G h f x hx
  rw [h, PM.get_set] at hx
  split at hx
  · rename_i e; subst e; exact quietF
  · rw [PM.get_nil] at hx; cases hx

theorem awake_any {W : World} (hH : IntsAt W 1 16 .u32 halves) (n : Nat) (w : World) (hc : Calm W w) : CallsIn Fence.wide n Tryz.prog 6 #[] w (fun e w' => e = .returned (.bool true) ∧ Calm w w') :=
  callsIn_wide.2 (law_run (η := Env.zero) (gok rfl rfl rfl rfl) (bok_bnd (l := []) rfl rfl rfl rfl rfl fun i lo hi h => by simp at h) awake_run (glb_rep (hH.calm hc) rfl) glb_frz
    ⟨⟨one_glb rfl, fun e he => by cases he⟩, fun ρ' s' w' _ _ f o h => (by have h' : (PM.nil : PM Orc).get f = some o := h; rw [PM.get_nil] at h'; cases h'), dqC rfl⟩ .nil)

def ints2 (now len : Int) : Nat → Int
  | 0 => now
  | 1 => len
  | _ => 0

theorem none_any {A : Array Value} {W : World} (hH : IntsAt W 1 16 .u32 halves) (hA : A.size = 21) (h1 : ∀ (j : Nat) (V : Value), A[j]? = some V → V.oneCell' = true) {p : Option Addr} {m c : Nat} (hb : A[17]? = some (.slice p m c)) (hm : m ≤ maxLen) (i : Int) (hi : -9223372036854775808 ≤ i ∧ i ≤ 9223372036854775807) :
    Calls Tryz.prog 5 #[.agg A, .int .i64 i] W (fun e w' => e = .returned (.bool true) ∧ Calm W w') := by
  unfold maxLen at hm
  have hargs : VRL (envA A (ints2 i m)) (Pls.upd (fun _ => none) 1 ⟨1, 0, 16⟩) [.agg msgCells, .int .i64 (.a 0 0)] (#[.agg A, .int .i64 i] : Array Value).toList := by
    refine .cons (agg_args h1 hA) (.cons ?_ .nil)
    have h := VR.int (η := envA A (ints2 i m)) (ρ := Pls.upd (fun _ => none) 1 ⟨1, 0, 16⟩) .i64 (.a 0 0)
    have e : (SI.a 0 0).den (envA A (ints2 i m)) = i := by show i + 0 = i; omega
    rw [e] at h; exact h
  have hB : ∀ (lb nb : Int × Int), lb.1 ≤ m ∧ (m : Int) ≤ lb.2 → nb.1 ≤ i ∧ i ≤ nb.2 → BOK (Cn lb nb) (envA A (ints2 i m)) := fun lb nb h2 h3 => {
    bnd := fun j a b h => by
      have h' : nth [nb, lb] j = some (a, b) := h
      rw [nth_eq] at h'
      match j, h' with
      | 0, h' => simp at h'; rw [h'] at h3; exact h3
      | 1, h' => simp at h'; rw [h'] at h2; exact h2
      | j + 2, h' => simp at h'
    lens := fun j z h => by
      have h' : nth lensC j = some (some z) := h
      rw [nth_eq] at h'
      have h' : [none, none, none, none, none, none, none, none, none, none, none, none, none, none, none, none, none, some (SI.a 1 0)][j]? = some (some z) := h'
      match j, h' with
      | 17, h' =>
        cases h'
        refine ⟨p, m, c, ?_, ?_⟩
        · show one1 (A.getD 17 (.bool true)) = _
          rw [Array.getD_eq_getD_getElem?, hb]; rfl
        · show (m : Int) = (m : Int) + 0; omega
      | 0, h' | 1, h' | 2, h' | 3, h' | 4, h' | 5, h' | 6, h' | 7, h' | 8, h' | 9, h' | 10, h' | 11, h' | 12, h' | 13, h' | 14, h' | 15, h' | 16, h' => simp at h'
      | j + 18, h' => simp at h'
    slens := fun j z h => by have h' : nth ([] : List (Option SI)) j = some (some z) := h; rw [nth_eq] at h'; simp at h'
    tab := fun e he => by cases he
    btab := fun e he => by cases he }
  have go : ∀ (lb nb : Int × Int), lb.1 ≤ m ∧ (m : Int) ≤ lb.2 → nb.1 ≤ i ∧ i ≤ nb.2 → retIs (calls (Cn lb nb) 100000 5 [.agg msgCells, .int .i64 (.a 0 0)] sC) isTr = true →
      Calls Tryz.prog 5 #[.agg A, .int .i64 i] W (fun e w' => e = .returned (.bool true) ∧ Calm W w') := fun lb nb h2 h3 hrun =>
    law_run (gok rfl rfl rfl rfl) (hB lb nb h2 h3) hrun (glb_rep hH rfl) glb_frz (gf_awake (fa := 6) (one_glb rfl) glb_frz rfl (dqC rfl) rfl (awake_any hH)) hargs
  by_cases c1 : (m : Int) ≤ 400
  · have hl : (0 : Int) ≤ m ∧ (m : Int) ≤ 400 := ⟨by omega, c1⟩
    by_cases c2 : i ≤ 5
    · exact go (0, 400) (-9223372036854775808, 5) hl ⟨hi.1, c2⟩ none_lo
    · by_cases c3 : i ≤ 1099511627775
      · exact go (0, 400) (6, 1099511627775) hl ⟨by show (6 : Int) ≤ i; omega, c3⟩ none_mid
      · exact go (0, 400) (1099511627776, 9223372036854775807) hl ⟨by show (1099511627776 : Int) ≤ i; omega, hi.2⟩ none_hi
  · exact go (401, 9223372036854775807) (-9223372036854775808, 9223372036854775807) ⟨by show (401 : Int) ≤ m; omega, by show (m : Int) ≤ 9223372036854775807; omega⟩ hi none_long
#print axioms none_any
end Go.Dx.Co

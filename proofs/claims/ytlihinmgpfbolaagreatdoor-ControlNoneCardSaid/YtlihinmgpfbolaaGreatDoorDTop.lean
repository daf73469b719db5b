/-
  The whole: a run of the evaluator is a call.
-/
import Derived.Test.YtlihinmgpfbolaaGreatDoorDCode
namespace Go.Dx
section
variable {G : Ctx} {P : Program} {η : Env}

theorem least {p : Nat → Prop} (h : ∃ m, p m) : ∃ m, p m ∧ ∀ k, p k → m ≤ k := by
  obtain ⟨m, hm⟩ := h
  induction m using Nat.strongRecOn with
  | _ m ih =>
    by_cases h : ∃ k, k < m ∧ p k
    · obtain ⟨k, h1, h2⟩ := h; exact ih k h1 h2
    · exact ⟨m, hm, fun k hk => Nat.le_of_not_lt fun hlt => h ⟨k, hlt, hk⟩⟩

theorem run_loop (k : Nat) (ih : ∀ m, m ≤ k → RecOK P G η (run G m)) : LoopOK P G η (run G k) := by
  intro rnd r fn nt c a df s A w ρ n hR hL hA hD hN
  refine cs_done fun x a' df' s' h Q hQ => ?_
  -- a run of the loop with so much fuel, ending like this one
  let I : Nat → Act → World → Prop := fun m A1 w1 => m ≤ k + 1 ∧ ∃ ρ1 a1 df1 s1, Rep η ρ1 s1 w1 ∧ TR η ρ1 nt a1 A1.tmps ∧ DF ρ1 df1 A1.defers ∧ Ext ρ s w ρ1 s1 w1 ∧ run G m rnd fn nt (.loop c) a1 df1 s1 = .done x a' df' s'
  have h0 : ∃ m, I m A w := ⟨k + 1, Nat.le_refl _, ρ, a, df, s, hR, hA, hD, .refl, h⟩
  classical
  refine wpIn_loop (fun A1 w1 => ∃ m, I m A1 w1) (fun A1 w1 => if h : ∃ m, I m A1 w1 then Classical.choose (least h) else 0) h0 fun A1 w1 h1 => ?_
  obtain ⟨⟨hm, ρ1, a1, df1, s1, k1, k2, k3, k4, k5⟩, _⟩ := Classical.choose_spec (least h1)
  generalize hmm : Classical.choose (least h1) = m at hm k5
  cases m with
  | zero => cases k5
  | succ m =>
    have k5' : (match run G m rnd fn nt c a1 df1 s1 with
      | .done .nor a df s => run G m rnd fn nt (.loop c) a df s
      | r => r) = .done x a' df' s' := k5
    have hx := ih m (by omega) rnd r fn nt c a1 df1 s1 A1 w1 ρ1 n k1 (hL.mono k4) k2 k3 (hN.mono k4.le)
    generalize run G m rnd fn nt c a1 df1 s1 = out at hx k5'
    cases out with
    | fail => cases k5'
    | done e a2 df2 s2 =>
      cases e with
      | nor =>
        refine hx _ fun ρ2 A2 w2 t1 t2 t3 t4 => ?_
        have hI : I m A2 w2 := ⟨by omega, ρ2, a2, df2, s2, t3, t1, t2, k4.trans t4, k5'⟩
        refine ⟨⟨m, hI⟩, ?_⟩
        have hex : ∃ m, I m A2 w2 := ⟨m, hI⟩
        rw [dif_pos hex, dif_pos h1, hmm]
        exact Nat.lt_succ_of_le ((Classical.choose_spec (least hex)).2 m hI)
      | exit i => simp only at k5'; cases k5'; exact hx _ fun ρ2 A2 w2 t1 t2 t3 t4 => hQ ρ2 A2 w2 t1 t2 t3 (k4.trans t4)
      | goto l => simp only at k5'; cases k5'; exact hx _ fun ρ2 A2 w2 t1 t2 t3 t4 => hQ ρ2 A2 w2 t1 t2 t3 (k4.trans t4)
      | ret => simp only at k5'; cases k5'; exact hx _ fun ρ2 A2 w2 t1 t2 t3 t4 => hQ ρ2 A2 w2 t1 t2 t3 (k4.trans t4)

theorem run_sound (hG : GOK G P) (hB : BOK G η) : ∀ k m, m ≤ k → RecOK P G η (run G m) := by
  have h0 : RecOK P G η (run G 0) := fun _ _ _ _ _ _ _ _ _ _ _ _ _ _ _ _ _ => trivial
  intro k
  induction k with
  | zero => intro m hm; rw [Nat.le_zero.1 hm]; exact h0
  | succ k ih =>
    intro m hm
    rcases Nat.lt_or_ge k m with hlt | hge
    · rw [show m = k + 1 by omega]
      exact step_sound hG hB (ih k (Nat.le_refl _)) (run_loop k ih)
    · exact ih m hge

/-- **A run of the evaluator is a call.** -/
theorem calls_ok (hG : GOK G P) (hB : BOK G η) {k : Nat} {f : FuncId} {args : List SV} {s s' : St} {v : SV} (h : calls G k f args s = .ret v s') {ρ : Pls} {w : World} (hR : Rep η ρ s w) (hL : GF G P η ρ s w) {A : Array Value} (hA : VRL η ρ args A.toList)
    {R : Ending → World → Prop} (hQ : ∀ ρ' V w', VR η ρ' v V → Rep η ρ' s' w' → Ext ρ s w ρ' s' w' → R (.returned V) w') : Calls P f A w R :=
  callsIn_wide (n := 0) |>.1 (call_ok hG (run_sound hG hB k k (Nat.le_refl _)) hR hL hA h 0 R hQ)
end
end Go.Dx
#print axioms Go.Dx.calls_ok

/-
  A structure of plain cells that is handed in, opened; a law's run where 'awake' alone is known.
-/
import Derived.Test.YtlihinmgpfbolaaGreatDoorDGlb
namespace Go.Dx
open Go.ChangeShapes Go.WideShapes Go.RowKit
section
variable {H : Type} {enc : TypeId × Value → H} {P : Program} {W : World}

def flatB (P : Program) : Nat → TypeId → Bool
  | 0, _ => false
  | n + 1, t => scal P t || match P.underlying t with
    | some (.struct fs) => (List.range (P.cellsOf t)).all fun j => (List.range fs.size).any fun i => match fs[i]? with
      | some f => decide (f.offset ≤ j) && decide (j < f.offset + P.cellsOf f.type) && flatB P n f.type
      | none => false
    | some (.array m e) => flatB P n e && decide (P.cellsOf t = m * P.cellsOf e) && decide (0 < P.cellsOf e)
    | _ => false
theorem flat_one {base : Nat} {sp : Nat → Bool} {held : Bool} : ∀ (fu n : Nat) (t : TypeId) (cs : List Value) (x : DataW H × List MemPlace), flatB P fu t = true → DataW.trod enc P W base sp held n t cs = some x → ∀ (j : Nat) (V : Value), cs[j]? = some V → V.oneCell' = true := by
  intro fu
  induction fu with
  | zero => intro n t cs x h; cases h
  | succ fu ih =>
    intro n t cs x hf h j V hV
    unfold flatB at hf
    rw [Bool.or_eq_true] at hf
    rcases hf with hs | hf
    · obtain ⟨v, rfl, hv⟩ := scal_one hs h
      cases j with
      | zero => cases hV; exact hv
      | succ j => simp at hV
    · split at hf
      · rename_i fs hu
        obtain ⟨xs, m, rfl, _, hl, hx, hall⟩ := DataW.trod_struct hu h
        have hj : j < P.cellsOf t := by rw [← hl]; exact (List.getElem?_eq_some_iff.1 hV).1
        have hc := List.all_eq_true.1 hf j (List.mem_range.2 hj)
        rw [List.any_eq_true] at hc
        obtain ⟨i, _, hi⟩ := hc
        split at hi
        · rename_i f hfi
          simp only [Bool.and_eq_true, decide_eq_true_eq] at hi
          obtain ⟨⟨h1, h2⟩, h3⟩ := hi
          have h4 := hall i f hfi
          have hlt : i < xs.length := by rw [hx]; exact (Array.getElem?_eq_some_iff.1 hfi).1
          rw [List.getElem?_eq_getElem hlt] at h4
          refine ih m f.type _ _ h3 h4 (j - f.offset) V ?_
          rw [List.getElem?_take, if_pos (by omega), List.getElem?_drop, ← hV]
          congr 1; omega
        · cases hi
      · rename_i m e hu
        simp only [Bool.and_eq_true, decide_eq_true_eq] at hf
        obtain ⟨⟨h1, h2⟩, h3⟩ := hf
        obtain ⟨xs, m', rfl, _, hl, hx, hall⟩ := DataW.trod_array hu h
        have hj : j < P.cellsOf t := by rw [← hl]; exact (List.getElem?_eq_some_iff.1 hV).1
        rw [h2] at hj
        have hi : j / P.cellsOf e < m := Nat.div_lt_of_lt_mul (by rw [Nat.mul_comm]; exact hj)
        have h4 := hall _ hi
        rw [List.getElem?_eq_getElem (by omega)] at h4
        have hmod := Nat.mod_lt j h3
        have hdm := Nat.div_add_mod j (P.cellsOf e)
        refine ih m' e _ _ h1 h4 (j % P.cellsOf e) V ?_
        rw [List.getElem?_take, if_pos hmod, List.getElem?_drop, ← hV]
        congr 1; rw [Nat.mul_comm]; exact hdm
      · cases hf

/-- A structure of n plain cells, whose field i at cell o is a slice. -/
theorem flat_open {sp : Nat → Bool} {held : Bool} {t : TypeId} {n fi o : Nat} {v : Value} {d : DataW H} {ps : List MemPlace} (hn : P.cellsOf t = n) (h2 : 2 ≤ n) (hf : flatB P 5 t = true) (hs : (match P.underlying t with | some (.struct fs) => fieldIs P fs fi o 1 (slT P) | _ => false) = true) (h : DataW.Trod enc P W 0 sp held t v d ps) :
    ∃ (A : Array Value), v = .agg A ∧ A.size = n ∧ (∀ (j : Nat) (V : Value), A[j]? = some V → V.oneCell' = true) ∧ ∃ p m c, A[o]? = some (.slice p m c) ∧ m ≤ maxLen := by
  obtain ⟨fu, h⟩ := h
  split at hs
  · rename_i fs hu
    obtain ⟨xs, m, rfl, _, hlen, hx, hall⟩ := DataW.trod_struct hu h
    rw [hn] at hlen
    have hagg : ∃ A : Array Value, v = .agg A ∧ A.size = n := by
      cases v <;> first | exact ⟨_, rfl, by simpa [Value.cells] using hlen⟩ | (simp [Value.cells] at hlen; omega)
    obtain ⟨A, rfl, hA⟩ := hagg
    refine ⟨A, rfl, hA, fun j V hV => flat_one 5 _ t _ _ hf h j V (by simpa [Value.cells] using hV), ?_⟩
    obtain ⟨t9, x9, p9, g9⟩ := field_one hx hall hs
    unfold slT at p9; split at p9
    · rename_i hu0
      rcases DataW.trod_slice hu0 g9 with ⟨e, _⟩ | ⟨a, len, cap, _, _, _, _, e, _, _, h1, h2, _⟩
      · exact ⟨_, _, _, by have := drop_take_one e; simpa [Value.cells] using this, Nat.zero_le _⟩
      · exact ⟨_, _, _, by have := drop_take_one e; simpa [Value.cells] using this, Nat.le_trans h1 h2⟩
    · cases p9
  · cases hs

/-- Letters for the cells of an array. -/
def envA (A : Array Value) (f : Nat → Int) : Env where
  int := f
  val j := one1 (A.getD j (.bool true))
  one _ := one1_one _
theorem agg_args {A : Array Value} {f : Nat → Int} {ρ : Pls} (h1 : ∀ (j : Nat) (V : Value), A[j]? = some V → V.oneCell' = true) {n : Nat} (hA : A.size = n) : VR (envA A f) ρ (.agg ((List.range n).map .opq)) (.agg A) := by
  subst hA
  refine .agg ?_
  refine VRL.of_get (by simp) fun j v V hv hV => ?_
  have hj : j < A.size := by have := (List.getElem?_eq_some_iff.1 hv).1; simpa using this
  rw [List.getElem?_map, List.getElem?_range hj] at hv
  cases hv
  have hV' : A[j]? = some V := by simpa using hV
  have e : (envA A f).val j = V := by
    show one1 (A.getD j (.bool true)) = V
    rw [Array.getD_eq_getD_getElem?, hV']
    exact one1_eq (h1 j V hV')
  rw [← e]; exact .opq j

/-- The law's run, where 'awake' is true. -/
theorem gf_awake {G : Ctx} {η : Env} {fa : FuncId} {ρ : Pls} {s : St} (hg : ∀ g n, G.glb.get g = some n → ρ g = some ⟨g, 0, n⟩) (hf : ∀ i o, s.heap.get i = some o → o.wrt = false) (hi : G.itab = [])
    (hd : ∀ f x, G.dq.get f = some x → ∀ (A : Array Value) (n : Nat) (w' : World), CallsDIn Fence.wide n P f A .returning w' (fun e u w2 => ∃ V, e = .returned V ∧ u = .returning ∧ w2 = w')) (ho : G.orc = PM.nil.set fa { pat := .args [], ans := .bool true })
    (hA : ∀ n w, Calm W w → CallsIn Fence.wide n P fa #[] w (fun e w' => e = .returned (.bool true) ∧ Calm w w')) : GF G P η ρ s W := by
  refine ⟨⟨hg, fun e he => by rw [hi] at he; cases he⟩, fun ρ' s' w' hE hR g o hgo args A n hVL hm => ?_, hd⟩
  have hcalm : Calm W w' := hE.calm hf
  rw [ho, PM.get_set] at hgo
  split at hgo
  · rename_i e
    cases hgo; subst e
    have : args = [] := by
      have h' : bL args [] = true := hm
      exact bL_eq h'
    subst this
    have hAe : A = #[] := by
      cases hA' : A.toList with
      | nil => exact Array.ext' (by rw [hA'])
      | cons V r => rw [hA'] at hVL; cases hVL
    subst hAe
    refine (hA n w' hcalm).mono fun e w2 he => ?_
    obtain ⟨rfl, hc⟩ := he
    exact ⟨_, rfl, .bool true, hR.calm hc, hc.ext⟩
  · rw [PM.get_nil] at hgo; cases hgo
end
end Go.Dx

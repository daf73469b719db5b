/-
  One operation: the evaluator's answer is the model's.
-/
import Derived.Test.YtlihinmgpfbolaaGreatDoorDExec3
namespace Go.Dx
section
variable {G : Ctx} {P : Program} {η : Env} {ρ : Pls} {s s' : St} {w w' : World}

theorem exec_sound (hG : GOK G P) (hB : BOK G η) (hR : Rep η ρ s w) (hL : GL G P η ρ) {nt : Nat} {a : PM SV} {A : Act} (hA : TR η ρ nt a A.tmps) (o : Oper) :
    OpSpec P η ρ s w (execD G a s o.op) ((execOp A.eval o).run P w) := by
  have hev : ∀ x, EV η ρ (ev G a x) (A.eval x) := fun x v h => ev_sound hL hA h
  have hevs : ∀ (xs : Array Operand) l, evs G a xs.toList = some l → VRL η ρ l (xs.map A.eval).toList := fun xs l h => by rw [Array.toList_map]; exact evs_sound hL hA h
  have hevp : ∀ (ps : Array (Nat × Operand)), EVP η ρ (evps G a ps.toList) (ps.map fun (i, x) => (i, A.eval x)) := fun ps l h => by
    have := evps_sound hL hA h
    rw [Array.toList_map]; exact this
  have hob : ∀ o : Option Operand, OB η ρ (omap G a o) (o.map A.eval) := fun o => by
    cases o with
    | none => trivial
    | some x =>
      show OB η ρ (some (ev G a x)) (some (A.eval x))
      cases h : ev G a x with
      | none => trivial
      | some v => exact hev x v h
  obtain ⟨dst, op, ty, pos, after, guard⟩ := o
  cases op
  case move x => exact spec_same (S := pure (A.eval x)) hR fun v hv => ⟨_, rfl, hev x v hv⟩
  case assign x => exact spec_same (S := pure (A.eval x)) hR fun v hv => ⟨_, rfl, hev x v hv⟩
  case pick c x y =>
    show OpSpec P η ρ s w (pickD s (ev G a c) (ev G a x) (ev G a y)) _
    unfold pickD
    split
    · rename_i hc
      have h1 := hev c _ hc
      generalize hcv : A.eval c = C at h1
      cases h1
      have : (execOp A.eval ⟨dst, .pick c x y, ty, pos, after, guard⟩).run P w = ((do pure (Next.value (← (pure (A.eval x) : Sem Value))) : Sem Next)).run P w := by
        simp only [execOp, Sem.run_bind, hcv, asBool, Sem.run_pure, Result.andThen_ok, if_true]
      rw [this]
      exact spec_same (S := pure (A.eval x)) hR fun v hv => ⟨_, rfl, hev x v hv⟩
    · rename_i hc
      have h1 := hev c _ hc
      generalize hcv : A.eval c = C at h1
      cases h1
      have : (execOp A.eval ⟨dst, .pick c x y, ty, pos, after, guard⟩).run P w = ((do pure (Next.value (← (pure (A.eval y) : Sem Value))) : Sem Next)).run P w := by
        simp only [execOp, Sem.run_bind, hcv, asBool, Sem.run_pure, Result.andThen_ok, Bool.false_eq_true, if_false]
      rw [this]
      exact spec_same (S := pure (A.eval y)) hR fun v hv => ⟨_, rfl, hev y v hv⟩
    · trivial
  case alloc t =>
    show OpSpec P η ρ s w (newVarD s t (G.zero t)) ((do pure (Next.value (← Instr.alloc t true (.tuple #[]))) : Sem Next).run P w)
    cases hz : G.zero t with
    | none => trivial
    | some z =>
      obtain ⟨Z, hZ, hZr⟩ := hG.run_zero (w := w) (η := η) (ρ := ρ) hz
      refine newVar_sound (V := Z) hR (fun v hv => by cases hv; exact hZr) ?_
      unfold Instr.alloc Instr.box
      simp only [Sem.run_bind, hZ, Result.andThen_ok]
  case box t x => exact newVar_sound (S := Instr.box t (A.eval x)) hR (hev x) rfl
  case build t parts => exact buildO_sound hG hR (hevp parts)
  case buildSlice t len parts => exact buildSlice_sound hG hR (hevp parts)
  case load t x => exact loadO_sound hG hR (hev x)
  case store t x y => exact storeO_sound hG hR (hev x) (hev y)
  case nilCheck x =>
    show OpSpec P η ρ s w (nilCheckD s (ev G a x)) _
    unfold nilCheckD
    split
    · rename_i b o hx
      have h1 := hev x _ hx
      generalize hcv : A.eval x = X at h1
      cases h1 with
      | @ptr _ _ p hp =>
        refine ⟨w, ρ, _, .inl ?_, .ptr hp, hR, .refl⟩
        simp only [execOp, hcv]; rfl
    · rename_i f l c hx
      have h1 := hev x _ hx
      generalize hcv : A.eval x = X at h1
      cases h1 with
      | fn hl hc =>
        refine ⟨w, ρ, _, .inl ?_, .fn hl hc, hR, .refl⟩
        simp only [execOp, hcv]; rfl
    · rename_i l hx
      have h1 := hev x _ hx
      generalize hcv : A.eval x = X at h1
      cases h1 with
      | @yld _ p hp =>
        refine ⟨w, ρ, _, .inl ?_, .yld hp, hR, .refl⟩
        simp only [execOp, hcv]; rfl
    · trivial
  case binOp op t x y t' => exact bin_sound hG hB hR x y (hev x) (hev y)
  case unOp op t x => exact un_sound hR (hev x)
  case convert src dst x => exact conv_sound hG hB hR (hev x)
  case makeInterface t x => exact iface_sound hG hR (hev x)
  case makeFunc fn first cap =>
    cases fn
    case func f =>
      show OpSpec P η ρ s w (funcD s f (evs G a first.toList) (evs G a cap.toList)) ((do pure (Next.value (← Instr.makeFunc (.func f) (first.map A.eval) (cap.map A.eval))) : Sem Next).run P w)
      unfold funcD
      split
      · rename_i l c hl hc
        exact spec_val ⟨_, w, ρ, rfl, .fn (hevs first l hl) (hevs cap c hc), hR, .refl⟩
      · trivial
    all_goals trivial
  case makeMap t r =>
    cases r with
    | some r => trivial
    | none =>
      show OpSpec P η ρ s w (makeMapD s) ((do pure (Next.value (← Instr.makeMap t none)) : Sem Next).run P w)
      have hn := hR.new (.map [] 0) (.map #[] 0) 0 (fun ρ' hle hs => ⟨#[], heap_push_new _ _, .nil⟩)
      refine spec_val ⟨.map (some w.heap.size), _, _, ?_, .map (p := ⟨w.heap.size, 0, 0⟩) (Pls.upd_self _ _ _), hn.1, hn.2⟩
      unfold Instr.makeMap
      simp only [Sem.run_bind, run_newObj, Result.andThen_ok, Sem.run_pure]
      rfl
  case makeSlice t l c => exact makeSlice_sound hG hR (hev l) (hev c)
  case slice t x lo hi mx =>
    show OpSpec P η ρ s w (sliceO G s t (ev G a x) (omap G a lo) (omap G a hi) (omap G a mx)) ((do pure (Next.value (← Instr.sliceAt t (A.eval x) (lo.map A.eval) (hi.map A.eval) (mx.map A.eval))) : Sem Next).run P w)
    unfold sliceO
    split
    · rename_i v hx
      have h1 := hev x _ hx
      have hlo := hob lo
      have hhi := hob hi
      have hmx := hob mx
      generalize omap G a lo = LO at hlo ⊢
      generalize omap G a hi = HI at hhi ⊢
      generalize omap G a mx = MX at hmx ⊢
      split
      · trivial
      · rename_i hne
        refine spec_same hR fun r hr => slice_sound hG hr h1 hlo hhi hmx ?_
        cases MX with
        | none => exact .inl rfl
        | some m => cases HI with
          | none => exact (hne _ rfl rfl).elim
          | some h => exact .inr (by simp)
    · trivial
  case fieldAddr t x f => exact fieldAddr_sound hG hR (hev x)
  case field t x f => exact field_sound hG hR (hev x)
  case indexAddr t x i => exact indexAddr_sound hG hL hR (hev x) (hev i)
  case index t x i => exact index_sound hG hR (hev x) (hev i)
  case lookup t x k ok =>
    show OpSpec P η ρ s w (lookupO G s t ok (ev G a x) (ev G a k)) ((do pure (Next.value (← Instr.lookup t (A.eval x) (A.eval k) ok)) : Sem Next).run P w)
    unfold lookupO
    split
    · rename_i m k' hm hk
      exact spec_same hR fun r hr => lookup_sound hG hR hr (hev x _ hm) (hev k _ hk)
    · trivial
  case mapUpdate t m k x =>
    show OpSpec P η ρ s w (updateO G s t (ev G a m) (ev G a k) (ev G a x)) ((do Instr.mapUpdate t (A.eval m) (A.eval k) (A.eval x); pure Next.skip : Sem Next).run P w)
    unfold updateO
    split
    · rename_i m' k' v hm hk hv
      exact spec_skip fun s' hs => update_sound hG hR hs (hev m _ hm) (hev k _ hk) (hev x _ hv)
    · trivial
  case range t x =>
    show OpSpec P η ρ s w (rangeO G s t (ev G a x)) ((do pure (Next.value (← Instr.range t (A.eval x))) : Sem Next).run P w)
    unfold rangeO
    split
    · rename_i v hx
      refine spec_res (fun r s' h => range_sound hG hR h (hev x _ hx)) ?_
      constructor <;> intro f a h <;> unfold rangeD at h <;> (repeat' split at h) <;> cases h
    · trivial
  case next it isStr =>
    show OpSpec P η ρ s w (nextO s isStr (ev G a it)) ((do pure (Next.value (← Instr.next (A.eval it) isStr ty)) : Sem Next).run P w)
    unfold nextO
    split
    · rename_i v hx
      refine spec_res (fun r s' h => ?_) ?_
      · obtain ⟨V, w', v1, v2, v3, v4⟩ := next_sound (P := P) (t := ty) hR h (hev it _ hx)
        exact ⟨V, w', ρ, v1, v2, v3, v4⟩
      · constructor <;> intro f a h <;> unfold nextD at h <;> (repeat' split at h) <;> cases h
    · trivial
  case entry it => exact entry_sound hR (hev it)
  case extract x i =>
    show OpSpec P η ρ s w (extractD s i (ev G a x)) ((do pure (Next.value (← Instr.extract (A.eval x) i)) : Sem Next).run P w)
    unfold extractD
    split
    · rename_i l hx
      have h1 := hev x _ hx
      generalize hcv : A.eval x = X at h1
      cases h1 with
      | @tup _ L hl =>
        refine spec_same hR fun r hr => ?_
        obtain ⟨V, v1, v2⟩ := hl.nth hr
        have v1' : L[i]? = some V := by simpa using v1
        exact ⟨V, by unfold Instr.extract; simp only [v1', Sem.run_pure], v2⟩
    · trivial
  case call c => exact call_sound hG hB hR hL hA c ty
  all_goals trivial
end
end Go.Dx

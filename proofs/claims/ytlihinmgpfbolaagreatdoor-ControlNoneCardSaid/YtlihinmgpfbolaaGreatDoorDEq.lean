/-
  Equality of values of one type.
-/
import Derived.Test.YtlihinmgpfbolaaGreatDoorDBin
namespace Go.Dx
section
variable {G : Ctx} {P : Program} (hG : GOK G P) {η : Env} (hB : BOK G η) {ρ : Pls} {w : World}

theorem beqB_eq (a b : Bool) : beqB a b = (a == b) := by cases a <;> cases b <;> rfl

include hG hB
theorem eq1_sound {t : TypeId} {x y : SV} {X Y : Value} {b : Bool} (d : Nat) (h : eq1 G t x y = some b) (hx : VR η ρ x X) (hy : VR η ρ y Y) :
    (Op.equalIn (d + 1) t X Y).run P w = .ok b w := by
  unfold eq1 at h
  split at h
  · rename_i p q hd; cases h; cases hx; cases hy
    rw [run_equalIn_bool w d t _ _ (hG.underlying hd), beqB_eq]
  · rename_i k a k' c hd
    split at h
    · rename_i hk
      have hkk := kn_inj hk
      subst hkk
      cases hx; cases hy
      rw [run_equalIn_int w d t _ _ _ _ (hG.underlying hd), eqI_sound hB h]
      congr 1
    · cases h
  · rename_i p q hd
    cases hx; cases hy
    rw [run_equalIn_string w d t _ _ (hG.underlying hd)]
    cases h; rw [leq_str]
  · cases h
omit hB in
theorem eq1_notAgg {t : TypeId} {x y : SV} {b : Bool} (h : eq1 G t x y = some b) : (isAgg t).run P w = .ok false w := by
  unfold eq1 at h
  split at h
  · rename_i hd; unfold isAgg; simp [hG.run_underlying hd]
  · rename_i hd; unfold isAgg; simp [hG.run_underlying hd]
  · rename_i hd; unfold isAgg; simp [hG.run_underlying hd]
  · cases h

omit hG hB in
theorem drop_cons {α : Type} {L : List α} {k : Nat} {a : α} {l : List α} (h : L.drop k = a :: l) : L[k]? = some a ∧ L.drop (k + 1) = l := by
  constructor
  · rw [← List.head?_drop, h]; rfl
  · rw [← List.tail_drop, h]; rfl

theorem eqF_sound {xs ys : Array Value} (d : Nat) : ∀ {fs : List Field} {k : Nat} {l m : List SV} {b : Bool} (_ : ∀ (i : Nat) (f : Field), fs[i]? = some f → f.name ≠ "_" ∧ f.offset = k + i)
    (_ : VRL η ρ l (xs.toList.drop k)) (_ : VRL η ρ m (ys.toList.drop k)), eqF G fs l m = some b → (Op.eqFields (d + 1) xs ys fs).run P w = .ok b w := by
  intro fs
  induction fs with
  | nil => intro k l m b _ _ _ h; simp only [eqF] at h; cases h; rfl
  | cons f fs ih =>
    intro k l m b hf hl hm h
    cases l with
    | nil => simp [eqF] at h
    | cons x l =>
      cases m with
      | nil => simp [eqF] at h
      | cons y m =>
        simp only [eqF] at h
        generalize hA : xs.toList.drop k = A at hl
        generalize hB' : ys.toList.drop k = B at hm
        cases hl with
        | @cons _ X _ A' hx hl =>
          cases hm with
          | @cons _ Y _ B' hy hm =>
            obtain ⟨a1, a2⟩ := drop_cons hA
            obtain ⟨b1, b2⟩ := drop_cons hB'
            obtain ⟨n1, n2⟩ := hf 0 f rfl
            simp only [Nat.add_zero] at n2
            have a1' : xs[k]? = some X := by simpa using a1
            have b1' : ys[k]? = some Y := by simpa using b1
            cases he : eq1 G f.type x y with
            | none => rw [he] at h; cases h
            | some c =>
              have hag := eq1_notAgg (w := w) hG he
              have hp1 : (Go.part f.type xs f.offset).run P w = .ok X w := by unfold Go.part; simp [hag, n2, a1']
              have hp2 : (Go.part f.type ys f.offset).run P w = .ok Y w := by unfold Go.part; simp [hag, n2, b1']
              have hq := eq1_sound (w := w) hG hB d he hx hy
              rw [he] at h
              rw [Op.eqFields]
              rw [if_pos n1]
              simp only [Sem.run_bind, hp1, hp2, Result.andThen_ok, hq]
              cases c with
              | false => simp only [] at h; cases h; simp
              | true =>
                simp only [] at h
                simp only [Bool.not_true, Bool.false_eq_true, if_false]
                refine ih (k := k + 1) (fun i g hg => ?_) (by rw [a2]; exact hl) (by rw [b2]; exact hm) h
                have := hf (i + 1) g (by simpa using hg)
                exact ⟨this.1, by omega⟩

theorem eqA_sound {xs ys : Array Value} {e : TypeId} (d : Nat) : ∀ {n k : Nat} {l m : List SV} {b : Bool}
    (_ : VRL η ρ l (xs.toList.drop k)) (_ : VRL η ρ m (ys.toList.drop k)), eqA G e n l m = some b →
    (forIn (List.range' k n) ((none, ()) : Option Bool × Unit) (fun j _ => do
      let a ← Go.part e xs (j * 1)
      let c ← Go.part e ys (j * 1)
      let r ← Op.equalIn (d + 1) e a c
      if (!r) = true then pure (ForInStep.done (some false, ())) else pure (ForInStep.yield (none, ()))) : Sem (Option Bool × Unit)).run P w =
      .ok (if b then none else some false, ()) w := by
  intro n
  induction n with
  | zero => intro k l m b _ _ h; simp only [eqA] at h; cases h; rfl
  | succ n ih =>
    intro k l m b hl hm h
    cases l with
    | nil => simp [eqA] at h
    | cons x l =>
      cases m with
      | nil => simp [eqA] at h
      | cons y m =>
        simp only [eqA] at h
        generalize hA : xs.toList.drop k = A at hl
        generalize hB' : ys.toList.drop k = B at hm
        cases hl with
        | @cons _ X _ A' hx hl =>
          cases hm with
          | @cons _ Y _ B' hy hm =>
            obtain ⟨a1, a2⟩ := drop_cons hA
            obtain ⟨b1, b2⟩ := drop_cons hB'
            have a1' : xs[k]? = some X := by simpa using a1
            have b1' : ys[k]? = some Y := by simpa using b1
            cases hq : eq1 G e x y with
            | none => rw [hq] at h; cases h
            | some c =>
              have hag := eq1_notAgg (w := w) hG hq
              have hp1 : (Go.part e xs (k * 1)).run P w = .ok X w := by unfold Go.part; simp [hag, a1']
              have hp2 : (Go.part e ys (k * 1)).run P w = .ok Y w := by unfold Go.part; simp [hag, b1']
              have hr := eq1_sound (w := w) hG hB d hq hx hy
              rw [hq] at h
              rw [List.range'_succ, List.forIn_cons]
              simp only [Sem.run_bind, hp1, hp2, Result.andThen_ok, hr]
              cases c with
              | false => simp only [] at h; cases h; simp
              | true =>
                simp only [] at h
                simp only [Bool.not_true, Bool.false_eq_true, if_false, Sem.run_pure, Result.andThen_ok]
                exact ih (k := k + 1) (by rw [a2]; exact hl) (by rw [b2]; exact hm) h

omit hG hB in
theorem eq_fin {op : BinOp} {t : TypeId} {X Y : Value} {b : Bool} {ox oy : Operand} (hg : ∀ o, eqGuard o t ox oy X Y = pure ())
    (h1 : binOp .eql t X Y = (do pure (.bool (← Op.equal t X Y)))) (h2 : binOp .neq t X Y = (do pure (.bool (!(← Op.equal t X Y))))) (hE : (Op.equal t X Y).run P w = .ok b w) (ho : op = .eql ∨ op = .neq) :
    (do eqGuard op t ox oy X Y; binOp op t X Y : Sem Value).run P w = .ok (.bool (if op = .eql then b else !b)) w := by
  rcases ho with rfl | rfl
  · rw [hg, h1]; simp only [Sem.run_bind, Sem.run_pure, Result.andThen_ok, hE, if_true]
  · rw [hg, h2]; simp only [Sem.run_bind, Sem.run_pure, Result.andThen_ok, hE]; simp
theorem eqv_sound {op : BinOp} {t : TypeId} {x y : SV} {X Y : Value} {b : Bool} (ox oy : Operand) (h : eqv G t x y = some b) (hx : VR η ρ x X) (hy : VR η ρ y Y) (ho : op = .eql ∨ op = .neq) :
    (do eqGuard op t ox oy X Y; binOp op t X Y : Sem Value).run P w = .ok (.bool (if op = .eql then b else !b)) w := by
  unfold eqv at h
  split at h
  · rename_i fs l m hd
    split at h
    · rename_i k hk
      cases hx with
      | @agg _ L hl =>
        cases hy with
        | @agg _ M hm =>
          obtain ⟨g1, g2, g3⟩ := hG.eqS t k fs hk (hG.underlying hd)
          have hfo : P.fieldsOf t = fs := by unfold Program.fieldsOf; rw [hG.underlying hd]
          have hF : (Op.eqFields 9999 L M fs.toList).run P w = .ok b w := eqF_sound hG hB 9998 (k := 0) (fun i f hf => by
            have := g3 i f (by simpa using hf); exact ⟨this.1, by omega⟩) (by simpa using hl) (by simpa using hm) h
          have hE : (Op.equalIn 10000 t (.agg L) (.agg M)).run P w = .ok b w := by
            rw [run_equalIn_struct w 9999 t L M (by rw [hfo]; exact hG.underlying hd) g2, hfo]; exact hF
          rcases ho with rfl | rfl
          · simp only [Sem.run_bind, run_eqGuard_agg w _ t ox oy L M g1, Result.andThen_ok, run_eql_struct, hE, if_true]
          · simp only [Sem.run_bind, run_eqGuard_agg w _ t ox oy L M g1, Result.andThen_ok, run_neq_struct, hE]; simp
    · cases h
  · rename_i n e l m hd
    split at h
    · rename_i k hk
      cases hx with
      | @agg _ L hl =>
        cases hy with
        | @agg _ M hm =>
          obtain ⟨g1, i, g2, g3⟩ := hG.eqAr t k n e hk (hG.underlying hd)
          have hsz : (sizeOf e).run P w = .ok 1 w := by unfold sizeOf typeInfo; simp [g2, g3]
          have hF := eqA_sound (w := w) hG hB (xs := L) (ys := M) 9998 (k := 0) (by simpa using hl) (by simpa using hm) h
          have hE : (Op.equalIn 10000 t (.agg L) (.agg M)).run P w = .ok b w := by
            rw [show (10000 : Nat) = 9999 + 1 from rfl, Op.equalIn]
            simp only [Sem.run_bind, hG.run_underlying hd, Result.andThen_ok, hsz]
            rw [Std.Legacy.Range.forIn_eq_forIn_range']
            have hsize : ([:n] : Std.Legacy.Range).size = n := by simp [Std.Legacy.Range.size]
            rw [hsize]
            show (Sem.run P (forIn (List.range' 0 n 1) _ _) w).andThen _ = _
            rw [show (9999 : Nat) = 9998 + 1 from rfl]
            rw [hF]
            cases b <;> simp
          rcases ho with rfl | rfl
          · simp only [Sem.run_bind, run_eqGuard_agg w _ t ox oy L M g1, Result.andThen_ok, run_eql_struct, hE, if_true]
          · simp only [Sem.run_bind, run_eqGuard_agg w _ t ox oy L M g1, Result.andThen_ok, run_neq_struct, hE]; simp
    · cases h
  all_goals (first | (cases h; done) | skip)
  all_goals (rename_i hd; have hu := hG.run_underlying (w := w) hd; cases h; clear hd)
  all_goals (cases hx <;> cases hy)
  all_goals (refine eq_fin ?_ rfl rfl ?_ ho)
  all_goals (first | (intro o; cases o <;> rfl) | skip)
  all_goals (show (Op.equalIn (9999 + 1) t _ _).run P w = _)
  all_goals (rw [Op.equalIn]; simp only [Sem.run_bind, hu, Result.andThen_ok, beqB_eq]; rfl)
end
end Go.Dx

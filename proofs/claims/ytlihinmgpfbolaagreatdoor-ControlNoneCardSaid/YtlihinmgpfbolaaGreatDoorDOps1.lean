/-
  copy, len, min, max, maps, conversions.
-/
import Derived.Test.YtlihinmgpfbolaaGreatDoorDApp2
namespace Go.Dx
section
variable {G : Ctx} {P : Program} {η : Env} {ρ : Pls} {s s' : St} {w w' : World}

/-- A slice's address, where it has an element. -/
theorem sl_addr {b o n : Nat} {cp : Cp} {X : Value} (h : VR η ρ (.sl b o n cp) X) : ∃ p o' c, ρ b = some p ∧ X = .slice (some ⟨p.b, o', none⟩) n c ∧ (0 < n → o' = p.base + o) := by
  cases h with
  | @slx _ _ _ c p hp => exact ⟨p, _, c, hp, rfl, fun _ => rfl⟩
  | @slp _ _ _ e c o' p hp hc ho hr => exact ⟨p, o', c, hp, rfl, fun h => ho (by omega)⟩

theorem first_sound (hR : Rep η ρ s w) {b o n k z o' c : Nat} {p : Pl} {l : List SV} (hp : ρ b = some p) (ho : 0 < n → o' = p.base + o) (h : readD s b o (n * z) = some l) :
    ∃ L : List Value, VRL η ρ l L ∧ (Builtin.firstCells z n (.slice (some ⟨p.b, o', none⟩) k c)).run P w = .ok L.toArray w := by
  obtain ⟨L, h1, h2, h3, h4⟩ := read_sound (P := P) hR h hp
  refine ⟨L, h1, ?_⟩
  show (loadCells ⟨p.b, o', none⟩ (n * z)).run P w = _
  rw [← h2]
  refine run_loadCells_list _ _ _ fun j v hj => ?_
  have hlt : j < L.length := by
    rcases Nat.lt_or_ge j L.length with hh | hh
    · exact hh
    · rw [List.getElem?_eq_none hh] at hj; cases hj
  have : 0 < n := by
    rcases Nat.eq_zero_or_pos n with e | e
    · rw [h2, e, Nat.zero_mul] at hlt; omega
    · exact e
  rw [add_plain, ho this]
  exact h3 j v hj

theorem str_take (b : ByteArray) (n : Nat) : VRL η ρ ((ltake n (bytesOfArr b)).map fun n => SV.int .u8 (.c (Int.ofNat n))) (((b.extract 0 n).data.map fun c => Value.int .u8 c.toNat).toList) := by
  have h := str_cells (η := η) (ρ := ρ) (b.extract 0 n)
  have e := bytes_extract b 0 n
  simp only [Nat.sub_zero, ldrop] at e
  rw [e] at h
  exact h

def dlen : SV → Option Nat
  | .nils => some 0
  | .sl _ _ n _ => some n
  | .str l => some l.length
  | _ => none

variable (hG : GOK G P)
include hG

theorem copy_sound (hR : Rep η ρ s w) {ts : Array TypeId} {ty : TypeId} {args : List SV} {A : Array Value} {v : SV} (h : copyD G s ts.toList args = .val v s') (hA : VRL η ρ args A.toList) :
    ∃ V w' ρ', (Builtin.copy_ ts ty A).run P w = .ok V w' ∧ VR η ρ' v V ∧ Rep η ρ' s' w' ∧ Ext ρ s w ρ' s' w' := by
  unfold copyD at h
  split at h
  · rename_i dt _ d src _ hts
    obtain ⟨ts⟩ := ts
    simp only at hts
    subst hts
    obtain ⟨A⟩ := A
    cases hA with
    | @cons _ D _ _ hd hA =>
      cases hA with
      | @cons _ S _ _ hs hA =>
        clear hA
        split at h
        · rename_i e hdt
          split at h
          · cases h
          · rename_i z hz
            simp only at h
            split at h
            · rename_i dn sn hdn hsn
              rw [nmin_eq] at h
              have h1 := fun w => hG.run_underlying (w := w) hdt
              have h2 := fun w => hG.run_sizeOf (w := w) hz
              split at h
              · cases h
              · rename_i cs hcs
                -- the source
                have hsrc : ∃ L : List Value, VRL η ρ cs L ∧ (Builtin.lenOf S).run P w = .ok sn w ∧ (Builtin.firstCells z (min sn dn) S).run P w = .ok L.toArray w := by
                  cases src with
                  | nils => cases hs; cases hcs; cases hsn; exact ⟨[], .nil, rfl, rfl⟩
                  | sl b o n cp =>
                    obtain ⟨p, o', c, hp, rfl, ho⟩ := sl_addr hs
                    simp only [Option.some.injEq] at hsn
                    subst hsn
                    obtain ⟨L, l1, l2⟩ := first_sound (P := P) hR (n := min n dn) (k := n) (c := c) hp (fun h0 => ho (by omega)) hcs
                    exact ⟨L, l1, rfl, l2⟩
                  | str l =>
                    cases hs with
                    | str b =>
                      simp only [Option.some.injEq] at hsn hcs
                      subst hsn hcs
                      refine ⟨_, str_take b _, ?_, ?_⟩
                      · rw [bytes_length]; rfl
                      · simp only [Builtin.firstCells, Sem.run_pure, Array.toArray_toList]
                  | _ => simp at hsn
                obtain ⟨L, l1, l2, l3⟩ := hsrc
                -- the destination
                cases d with
                | nils =>
                  cases hd
                  simp only [Option.some.injEq] at hdn
                  subst hdn
                  cases h
                  refine ⟨.int .i64 (Int.ofNat (min sn 0)), w, ρ, ?_, .int _ (.c _), hR, .refl⟩
                  unfold Builtin.copy_
                  simp only [List.getElem?_toArray, List.getElem?_cons_zero, List.getElem?_cons_succ, Sem.run_bind, h1, h2, l2, Result.andThen_ok]
                  rw [show Nat.min sn 0 = min sn 0 from rfl, l3]; rfl
                | sl b o n cp =>
                  obtain ⟨p, o', c, hp, rfl, ho⟩ := sl_addr hd
                  simp only [Option.some.injEq] at hdn
                  subst hdn
                  simp only at h
                  split at h
                  · rename_i h0
                    cases h
                    have : cs = [] := List.length_eq_zero_iff.1 (beq_t.1 h0)
                    subst this
                    cases l1
                    refine ⟨.int .i64 (Int.ofNat (min sn n)), w, ρ, ?_, .int _ (.c _), hR, .refl⟩
                    unfold Builtin.copy_
                    simp only [List.getElem?_toArray, List.getElem?_cons_zero, List.getElem?_cons_succ, Sem.run_bind, h1, h2, l2, Result.andThen_ok]
                    rw [show Nat.min sn n = min sn n from rfl, l3]; rfl
                  · rename_i h0
                    split at h
                    · rename_i s1 hw
                      cases h
                      have hne := beq_f.1 h0
                      have hpos : 0 < n := by
                        rcases Nat.eq_zero_or_pos n with e0 | e0
                        · exfalso
                          subst e0
                          apply hne
                          have hl := l1.length
                          have : L = [] := by
                            rw [Nat.min_zero] at l3
                            cases hs with
                            | str b => simp [Builtin.firstCells] at l3; exact l3
                            | nils => simp [Builtin.firstCells] at l3; exact l3
                            | slx hp => simp [Builtin.firstCells, loadCells, loadCellsFrom] at l3; exact l3
                            | slp hp => simp [Builtin.firstCells, loadCells, loadCellsFrom] at l3; exact l3
                            | _ => simp at hsn
                          rw [hl, this]; rfl
                        · exact e0
                      have ho' := ho hpos
                      subst ho'
                      obtain ⟨w', q1, q2, q3⟩ := write_sound (P := P) hR hw hp l1
                      refine ⟨.int .i64 (Int.ofNat (min sn n)), w', ρ, ?_, .int _ (.c _), q2, q3⟩
                      unfold Builtin.copy_
                      simp only [List.getElem?_toArray, List.getElem?_cons_zero, List.getElem?_cons_succ, Sem.run_bind, h1, h2, l2, Result.andThen_ok]
                      rw [show Nat.min sn n = min sn n from rfl, l3]
                      simp only [Result.andThen_ok, q1]; rfl
                    · cases h
                | _ => simp at hdn
            · cases h
        · cases h
  · cases h

theorem len_sound (hR : Rep η ρ s w) {ts : Array TypeId} {ty : TypeId} {args : List SV} {A : Array Value} {v : SV} (h : lenD G s ts.toList args = some v) (hB : BOK G η) (hA : VRL η ρ args A.toList) :
    ∃ V, (Builtin.len_ ts ty A).run P w = .ok V w ∧ VR η ρ v V := by
  unfold lenD at h
  split at h
  · rename_i t _ x _ hts
    obtain ⟨ts⟩ := ts
    simp only at hts
    subst hts
    obtain ⟨A⟩ := A
    cases hA with
    | @cons _ X _ _ hx hA =>
      clear hA
      split at h
      · rename_i l hd; cases h
        cases hx with
        | str b => refine ⟨goInt b.size, by simp [Builtin.len_, hG.run_underlying hd], ?_⟩; rw [bytes_length]; exact .int _ (.c _)
      · rename_i i hd
        split at h
        · rename_i z hz
          cases h
          cases hx
          obtain ⟨b, e1, e2⟩ := hB.slens i z hz
          exact ⟨goInt b.size, by rw [e1]; simp [Builtin.len_, hG.run_underlying hd], by unfold goInt; rw [e2]; exact .int _ _⟩
        · cases h
      · rename_i n e hd; cases h
        exact ⟨goInt n, by simp [Builtin.len_, hG.run_underlying hd], .int _ (.c _)⟩
      · rename_i hd; cases h; cases hx
        exact ⟨goInt 0, by simp [Builtin.len_, hG.run_underlying hd], .int _ (.c _)⟩
      · rename_i n _ hd; cases h
        obtain ⟨p, o', c, hp, rfl, ho⟩ := sl_addr hx
        exact ⟨goInt n, by simp [Builtin.len_, hG.run_underlying hd], .int _ (.c _)⟩
      · rename_i i hd
        split at h
        · rename_i z hz
          cases h
          cases hx
          obtain ⟨p, n, c, e1, e2⟩ := hB.lens i z hz
          exact ⟨goInt n, by rw [e1]; simp [Builtin.len_, hG.run_underlying hd], by unfold goInt; rw [e2]; exact .int _ _⟩
        · cases h
      · rename_i hd; cases h; cases hx
        exact ⟨goInt 0, by simp [Builtin.len_, hG.run_underlying hd], .int _ (.c _)⟩
      · rename_i b hd
        split at h
        · rename_i es clock hb
          cases h
          cases hx with
          | @map _ p hp =>
            obtain ⟨p', hp', E, h1, h2⟩ := hR.obj b _ hb
            rw [hp] at hp'; cases hp'
            have hl : es.length = E.size := by
              have : ∀ {l : List (SV × SV × Nat)} {L : List MapEntry}, ER η ρ l L → l.length = L.length := by
                intro l L h; induction h with
                | nil => rfl
                | cons _ _ _ ih => simp [ih]
              simpa using this h2
            refine ⟨goInt E.size, ?_, ?_⟩
            · simp [Builtin.len_, hG.run_underlying hd, getObj, Sem.run, h1]
            · rw [hl]; exact .int _ (.c _)
        · cases h
      · rename_i arr hd
        split at h
        · rename_i n e hd2
          cases h
          exact ⟨goInt n, by simp [Builtin.len_, hG.run_underlying hd, hG.run_underlying hd2], .int _ (.c _)⟩
        · cases h
      · cases h
  · cases h
end

section
variable {G : Ctx} {P : Program} {η : Env} {ρ : Pls} {s s' : St} {w w' : World} (hB : BOK G η)
include hB
theorem min_sound : ∀ {xs : List SV} {x v : SV} {X : Value} {XS : List Value}, minD G x xs = some v → VR η ρ x X → VRL η ρ xs XS → ∃ V, (XS.foldlM Builtin.min2 X : Sem Value).run P w = .ok V w ∧ VR η ρ v V := by
  intro xs
  induction xs with
  | nil => intro x v X XS h hx hl; simp only [minD] at h; cases h; cases hl; exact ⟨X, rfl, hx⟩
  | cons y ys ih =>
    intro x v X XS h hx hl
    cases hl with
    | @cons _ Y _ YS hy hl =>
      unfold minD at h
      split at h
      · rename_i e; cases e
      · rename_i k a k' b _ e
        cases e
        cases hx; cases hy
        rw [List.foldlM_cons]
        simp only [Builtin.min2, Sem.run_bind, Sem.run_pure, Result.andThen_ok]
        split at h
        · rename_i hlt
          have := lt_sound hB hlt
          symm at this; simp at this
          rw [if_pos this]
          exact ih h (.int _ _) hl
        · rename_i hlt
          have := lt_sound hB hlt
          symm at this; simp at this
          rw [if_neg (by omega)]
          exact ih h (.int _ _) hl
        · cases h
      · cases h
theorem max_sound : ∀ {xs : List SV} {x v : SV} {X : Value} {XS : List Value}, maxD G x xs = some v → VR η ρ x X → VRL η ρ xs XS → ∃ V, (XS.foldlM Builtin.max2 X : Sem Value).run P w = .ok V w ∧ VR η ρ v V := by
  intro xs
  induction xs with
  | nil => intro x v X XS h hx hl; simp only [maxD] at h; cases h; cases hl; exact ⟨X, rfl, hx⟩
  | cons y ys ih =>
    intro x v X XS h hx hl
    cases hl with
    | @cons _ Y _ YS hy hl =>
      unfold maxD at h
      split at h
      · rename_i e; cases e
      · rename_i k a k' b _ e
        cases e
        cases hx; cases hy
        rw [List.foldlM_cons]
        simp only [Builtin.max2, Sem.run_bind, Sem.run_pure, Result.andThen_ok]
        split at h
        · rename_i hlt
          have := lt_sound hB hlt
          symm at this; simp at this
          rw [if_pos this]
          exact ih h (.int _ _) hl
        · rename_i hlt
          have := lt_sound hB hlt
          symm at this; simp at this
          rw [if_neg (by omega)]
          exact ih h (.int _ _) hl
        · cases h
      · cases h
end
end Go.Dx

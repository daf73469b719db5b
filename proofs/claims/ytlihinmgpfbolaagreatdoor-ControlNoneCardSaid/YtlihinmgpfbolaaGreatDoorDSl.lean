/-
  Slice expressions.
-/
import Derived.Test.YtlihinmgpfbolaaGreatDoorDEq
namespace Go.Dx
section
variable {G : Ctx} {P : Program} (hG : GOK G P) {η : Env} {ρ : Pls} {w : World}

def OB (η : Env) (ρ : Pls) : Option (Option SV) → Option Value → Prop
  | none, none => True
  | some (some v), some V => VR η ρ v V
  | some none, some _ => True
  | _, _ => False

theorem getN_inv {v : SV} {V : Value} {n : Nat} (h : getN v = some n) (hv : VR η ρ v V) : ∃ k, V = .int k (n : Int) := by
  unfold getN at h
  split at h
  · cases h; cases hv; exact ⟨_, rfl⟩
  · cases h

theorem sliceBound_ok {V : Value} {k : IntKind} {n y : Nat} {code : BoundsCode} (hV : V = .int k (n : Int)) (h : n ≤ y) : (Instr.sliceBound V y code).run P w = .ok n w := by
  subst hV
  unfold Instr.sliceBound asIntOf
  simp only [Sem.run_bind, Sem.run_pure, Result.andThen_ok]
  rw [if_pos ⟨by omega, by omega⟩]
  simp

theorem bound_inv {d n : Nat} {o : Option (Option SV)} {O : Option Value} (h : bound d o = some n) (hO : OB η ρ o O) : (O = none ∧ o = none ∧ n = d) ∨ ∃ V k, O = some V ∧ o ≠ none ∧ V = .int k (n : Int) := by
  unfold bound at h
  split at h
  · cases h; cases O with
    | none => exact .inl ⟨rfl, rfl, rfl⟩
    | some V => exact hO.elim
  · cases O with
    | none => exact hO.elim
    | some V => obtain ⟨k, hk⟩ := getN_inv h hO; exact .inr ⟨V, k, rfl, by simp, hk⟩
  · cases h

theorem sliceBounds_ok {isS : Bool} {len cap l h m : Nat} {lo hi mx : Option (Option SV)} {LO HI MX : Option Value} (hlo : OB η ρ lo LO) (hhi : OB η ρ hi HI) (hmx : OB η ρ mx MX)
    (hb1 : bound cap mx = some m) (hb2 : bound len hi = some h) (hb3 : bound 0 lo = some l) (h1 : l ≤ h) (h2 : h ≤ m) (h3 : m ≤ cap) (hx : mx = none ∨ hi ≠ none) :
    (Instr.sliceBounds isS len cap LO HI MX).run P w = .ok (l, h, m) w := by
  unfold Instr.sliceBounds
  rcases bound_inv hb1 hmx with ⟨rfl, rfl, rfl⟩ | ⟨M, k, rfl, hmn, hM⟩
  · rcases bound_inv hb2 hhi with ⟨rfl, rfl, rfl⟩ | ⟨H, k2, rfl, _, hH⟩
    · rcases bound_inv hb3 hlo with ⟨rfl, rfl, rfl⟩ | ⟨L, k3, rfl, _, hL⟩
      · simp
      · simp [sliceBound_ok (P := P) (w := w) hL h1]
    · rcases bound_inv hb3 hlo with ⟨rfl, rfl, rfl⟩ | ⟨L, k3, rfl, _, hL⟩
      · simp [sliceBound_ok (P := P) (w := w) hH h2]
      · simp [sliceBound_ok (P := P) (w := w) hH h2, sliceBound_ok (P := P) (w := w) hL h1]
  · rcases bound_inv hb2 hhi with ⟨rfl, rfl, rfl⟩ | ⟨H, k2, rfl, _, hH⟩
    · rcases hx with hx | hx
      · exact absurd hx hmn
      · exact absurd rfl hx
    · rcases bound_inv hb3 hlo with ⟨rfl, rfl, rfl⟩ | ⟨L, k3, rfl, _, hL⟩
      · simp [sliceBound_ok (P := P) (w := w) hM h3, sliceBound_ok (P := P) (w := w) hH h2]
      · simp [sliceBound_ok (P := P) (w := w) hM h3, sliceBound_ok (P := P) (w := w) hH h2, sliceBound_ok (P := P) (w := w) hL h1]

theorem ltake_eq {α : Type} (n : Nat) (l : List α) : ltake n l = l.take n := by
  induction n generalizing l with
  | zero => rfl
  | succ n ih => cases l with
    | nil => rfl
    | cons x l => simp [ltake, ih]
theorem ldrop_eq {α : Type} (n : Nat) (l : List α) : ldrop n l = l.drop n := by
  induction n generalizing l with
  | zero => rfl
  | succ n ih => cases l with
    | nil => rfl
    | cons x l => simp [ldrop, ih]

theorem bytes_extract (s : ByteArray) (a h : Nat) : bytesOfArr (s.extract a h) = ltake (h - a) (ldrop a (bytesOfArr s)) := by
  unfold bytesOfArr
  rw [ltake_eq, ldrop_eq, ByteArray.data_extract, Array.toList_extract, List.extract_eq_take_drop, List.map_take, List.map_drop]

include hG in
theorem slice_sound {t : TypeId} {x v : SV} {X : Value} {lo hi mx : Option (Option SV)} {LO HI MX : Option Value} (h : sliceD G t x lo hi mx = some v) (hv : VR η ρ x X) (hlo : OB η ρ lo LO) (hhi : OB η ρ hi HI) (hmx : OB η ρ mx MX)
    (hx : mx = none ∨ hi ≠ none) : ∃ V, (Instr.sliceAt t X LO HI MX).run P w = .ok V w ∧ VR η ρ v V := by
  unfold sliceD at h
  split at h
  · -- a string
    rename_i l hd
    split at h
    · cases h
    · split at h
      · cases h
      · rename_i h' hb2
        split at h
        · cases h
        · rename_i a hb3
          split at h
          · rename_i c1 c2
            cases h
            cases hv with
            | str s =>
              have c1' := ble_t.1 c1
              have c2' := ble_t.1 c2
              rw [bytes_length] at hb2 c2'
              refine ⟨.string (s.extract a h'), ?_, ?_⟩
              · unfold Instr.sliceAt
                simp only [Sem.run_bind, hG.run_underlying hd, Result.andThen_ok]
                unfold Instr.slice
                simp only [Sem.run_bind, hG.run_underlying hd, Result.andThen_ok]
                cases MX with
                | some M => exact hmx.elim
                | none =>
                  have := sliceBounds_ok (P := P) (w := w) (isS := false) (len := s.size) (cap := s.size) (mx := none) (MX := none) hlo hhi trivial rfl hb2 hb3 c1' c2' (Nat.le_refl _) (.inl rfl)
                  simp [this]
              · rw [show Nat.sub h' a = h' - a from rfl, ← bytes_extract]; exact .str _
          · cases h
  · -- nil
    rename_i e hd
    split at h
    · rename_i z1 z2 z3
      split at h
      · rename_i z hz
        cases h
        cases hv
        refine ⟨_, ?_, .nils⟩
        unfold Instr.sliceAt
        simp only [Sem.run_bind, hG.run_underlying hd, Result.andThen_ok]
        unfold Instr.slice
        simp only [Sem.run_bind, hG.run_underlying hd, Result.andThen_ok]
        have := sliceBounds_ok (P := P) (w := w) (isS := true) (len := 0) (cap := 0) hlo hhi hmx z3 z2 z1 (Nat.le_refl _) (Nat.le_refl _) (Nat.le_refl _) hx
        simp [this, hG.run_sizeOf hz]
      · cases h
    · cases h
  · -- a slice
    rename_i e b o len cp hd
    split at h
    · cases h
    · rename_i z hz
      split at h
      · rename_i c
        split at h
        · cases h
        · rename_i m hb1
          split at h
          · cases h
          · rename_i h' hb2
            split at h
            · cases h
            · rename_i a hb3
              split at h
              · rename_i c1 c2 c3
                have c1' := ble_t.1 c1
                have c2' := ble_t.1 c2
                have c3' := ble_t.1 c3
                cases hv with
                | @slx _ _ _ _ p hp =>
                  have hs := sliceBounds_ok (P := P) (w := w) (isS := true) (len := len) (cap := c) hlo hhi hmx hb1 hb2 hb3 c1' c2' c3' hx
                  split at h
                  · rename_i hma
                    cases h
                    have hma' := beq_t.1 hma
                    refine ⟨_, ?_, .slx hp⟩
                    unfold Instr.sliceAt
                    simp only [Sem.run_bind, hG.run_underlying hd, Result.andThen_ok]
                    unfold Instr.slice
                    simp only [Sem.run_bind, hG.run_underlying hd, Result.andThen_ok, hs, hG.run_sizeOf hz]
                    rw [if_pos hma']; rfl
                  · rename_i hma
                    cases h
                    have hma' := beq_f.1 hma
                    refine ⟨_, ?_, .slx hp⟩
                    unfold Instr.sliceAt
                    simp only [Sem.run_bind, hG.run_underlying hd, Result.andThen_ok]
                    unfold Instr.slice
                    simp only [Sem.run_bind, hG.run_underlying hd, Result.andThen_ok, hs, hG.run_sizeOf hz]
                    rw [if_neg hma']
                    simp only [Option.map, add_plain, Nat.add_assoc]; rfl
              · cases h
      · rename_i e'
        split at h
        · -- no third index
          split at h
          · cases h
          · rename_i h' hb2
            split at h
            · cases h
            · rename_i a hb3
              split at h
              · rename_i c1 c2 c3
                cases h
                have c1' := ble_t.1 c1
                have c2' := ble_t.1 c2
                have c3' := beq_t.1 c3
                cases hv with
                | @slp _ _ _ _ c o' p hp hc ho hr =>
                  cases MX with
                  | some M => exact hmx.elim
                  | none =>
                    have hs := sliceBounds_ok (P := P) (w := w) (isS := true) (len := len) (cap := c) (mx := none) (MX := none) hlo hhi trivial rfl hb2 hb3 c1' (Nat.le_trans c2' hc) (Nat.le_refl _) (.inl rfl)
                    have hrun : (Instr.sliceAt t (.slice (some ⟨p.b, o', none⟩) len c) LO HI none).run P w = .ok (.slice (if c = a then some ⟨p.b, o', none⟩ else some ⟨p.b, o' + a * z, none⟩) (h' - a) (c - a)) w := by
                      unfold Instr.sliceAt
                      simp only [Sem.run_bind, hG.run_underlying hd, Result.andThen_ok]
                      unfold Instr.slice
                      simp only [Sem.run_bind, hG.run_underlying hd, Result.andThen_ok, hs, hG.run_sizeOf hz, Option.map, add_plain]
                      rfl
                    have hle : a * e' + (c - a) * e' = c * e' := by rw [← Nat.add_mul, Nat.add_sub_cancel' (by omega)]
                    by_cases hca : c = a
                    · rw [if_pos hca] at hrun
                      refine ⟨_, hrun, .slp hp (by show h' - a ≤ c - a; omega) (fun h0 => by omega) ?_⟩
                      have : (c - a) * e' = 0 := by rw [hca, Nat.sub_self, Nat.zero_mul]
                      omega
                    · rw [if_neg hca] at hrun
                      refine ⟨_, hrun, .slp hp (by show h' - a ≤ c - a; omega) (fun _ => ?_) ?_⟩
                      · rw [ho (by omega)]; simp only [Nat.add_eq, Nat.mul_eq]; omega
                      · rw [c3']; omega
              · cases h
        · -- three indexes
          rename_i m0
          split at h
          · cases h
          · rename_i m hb1
            split at h
            · cases h
            · rename_i h' hb2
              split at h
              · cases h
              · rename_i a hb3
                split at h
                · rename_i c1 c2 c3
                  have c1' := ble_t.1 c1
                  have c2' := ble_t.1 c2
                  have c3' := ble_t.1 c3
                  split at h
                  · cases h
                  · rename_i hma
                    cases h
                    have hma' := beq_f.1 hma
                    cases hv with
                    | @slp _ _ _ _ c o' p hp hc ho hr =>
                      have hb1' : bound c (some m0) = some m := by
                        unfold bound at hb1 ⊢; split <;> simp_all
                      have hs := sliceBounds_ok (P := P) (w := w) (isS := true) (len := len) (cap := c) hlo hhi hmx hb1' hb2 hb3 c1' c2' (Nat.le_trans c3' hc) hx
                      have hne : m ≠ a := hma'
                      have ho' : o' = p.base + o := ho (by omega)
                      subst ho'
                      refine ⟨_, ?_, .slx hp⟩
                      unfold Instr.sliceAt
                      simp only [Sem.run_bind, hG.run_underlying hd, Result.andThen_ok]
                      unfold Instr.slice
                      simp only [Sem.run_bind, hG.run_underlying hd, Result.andThen_ok, hs, hG.run_sizeOf hz]
                      rw [if_neg hne]
                      simp only [Option.map, add_plain, Nat.add_assoc]; rfl
                · cases h
  · -- an array
    rename_i n e b o hd
    split at h
    · cases h
    · rename_i z hz
      split at h
      · cases h
      · rename_i m hb1
        split at h
        · cases h
        · rename_i h' hb2
          split at h
          · cases h
          · rename_i a hb3
            split at h
            · rename_i c1 c2 c3
              have c1' := ble_t.1 c1
              have c2' := ble_t.1 c2
              have c3' := ble_t.1 c3
              cases hv with
              | @ptr _ _ p hp =>
                have hs := sliceBounds_ok (P := P) (w := w) (isS := false) (len := n) (cap := n) hlo hhi hmx hb1 hb2 hb3 c1' c2' c3' hx
                split at h
                · rename_i hma
                  cases h
                  have hma' := beq_t.1 hma
                  refine ⟨_, ?_, .slx hp⟩
                  unfold Instr.sliceAt Instr.sureAddr
                  simp only [Sem.run_bind, hG.run_underlying hd, Result.andThen_ok, Sem.run_pure, hs, hG.run_sizeOf hz]
                  rw [if_pos hma']; rfl
                · rename_i hma
                  cases h
                  have hma' := beq_f.1 hma
                  refine ⟨_, ?_, .slx hp⟩
                  unfold Instr.sliceAt Instr.sureAddr
                  simp only [Sem.run_bind, hG.run_underlying hd, Result.andThen_ok, Sem.run_pure, hs, hG.run_sizeOf hz]
                  rw [if_neg hma']
                  simp only [add_plain, Nat.add_assoc]; rfl
            · cases h
  · cases h
end
end Go.Dx

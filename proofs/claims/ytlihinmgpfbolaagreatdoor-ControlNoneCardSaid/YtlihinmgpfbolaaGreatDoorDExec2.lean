/-
  The kinds of operation, one by one.
-/
import Derived.Test.YtlihinmgpfbolaaGreatDoorDExec
namespace Go.Dx
section
variable {G : Ctx} {P : Program} {η : Env} {ρ : Pls} {s s' : St} {w w' : World}

theorem nth_toList {α : Type} (a : Array α) (i : Nat) : nth a.toList i = a[i]? := by rw [nth_eq]; simp

/-- An operand that may not be known. -/
def EV (η : Env) (ρ : Pls) (o : Option SV) (V : Value) : Prop := ∀ v, o = some v → VR η ρ v V
def EVP (η : Env) (ρ : Pls) (o : Option (List (Nat × SV))) (PS : Array (Nat × Value)) : Prop :=
  ∀ ps, o = some ps → ps.map (·.1) = PS.toList.map (·.1) ∧ VRL η ρ (ps.map (·.2)) (PS.toList.map (·.2))

theorem newVar_sound (hR : Rep η ρ s w) {t : TypeId} {o : Option SV} {S : Sem Value} {V : Value} (hv : EV η ρ o V) (hS : S.run P w = (Instr.box t V).run P w) :
    OpSpec P η ρ s w (newVarD s t o) ((do pure (Next.value (← S)) : Sem Next).run P w) := by
  unfold newVarD
  split
  · rename_i v
    have hn := hR.newArr t t (hv v rfl).cells
    refine spec_val ⟨.pointer (some ⟨w.heap.size, 0, none⟩), _, _, ?_, .ptr (p := ⟨w.heap.size, 0, V.cells.size⟩) (o := 0) (Pls.upd_self _ _ _), hn.1, hn.2⟩
    rw [hS]
    unfold Instr.box newVar
    simp only [Sem.run_bind, Result.andThen_ok, newVar_run, Sem.run_pure]
  · trivial

theorem buildO_sound (hG : GOK G P) (hR : Rep η ρ s w) {t : TypeId} {ps : Option (List (Nat × SV))} {PS : Array (Nat × Value)} (hp : EVP η ρ ps PS) :
    OpSpec P η ρ s w (buildD G s t (G.zero t) ps) ((do pure (Next.value (← Instr.build t PS)) : Sem Next).run P w) := by
  unfold buildD
  split
  · rename_i z ps hz
    obtain ⟨p1, p2⟩ := hp _ rfl
    split
    · rename_i fs hd
      split
      · rename_i pl hpl
        split
        · rename_i l hl
          obtain ⟨R, r1, r2⟩ := build_sound (w := w) hG hz hd (.inl ⟨fs, pl, rfl, hpl, rfl⟩) hl p1 p2
          exact spec_val ⟨_, w, ρ, r1, .agg r2, hR, .refl⟩
        · trivial
      · trivial
    · rename_i n e hd
      split
      · rename_i m hm
        split
        · rename_i l hl
          obtain ⟨R, r1, r2⟩ := build_sound (w := w) hG hz hd (.inr ⟨n, e, m, rfl, hm, rfl⟩) hl p1 p2
          exact spec_val ⟨_, w, ρ, r1, .agg r2, hR, .refl⟩
        · trivial
      · trivial
    · trivial
  · trivial

theorem zeroRow_sound (hG : GOK G P) {e : TypeId} {len n : Nat} {z : List SV} (h : zeroRow G e len n = some z) :
    ∃ Z : Array Value, (∀ K : Array Value → Sem Value, (if len * n = 0 then (do let z ← pure #[]; K z) else do
      let v ← zeroValue e
      let z ← pure v.cells
      K z : Sem Value).run P w = (K Z).run P w) ∧ VRL η ρ z ((Array.range (len * n)).map fun i => Z[i % Z.size]!).toList := by
  unfold zeroRow at h
  split at h
  · rename_i h0
    cases h
    have h0' : len * n = 0 := beq_t.1 h0
    refine ⟨#[], fun K => by rw [if_pos h0']; rfl, by rw [h0']; simp; exact .nil⟩
  · rename_i h0
    have h0' : len * n ≠ 0 := beq_f.1 h0
    split at h
    · rename_i zv hzv
      split at h
      · rename_i hl
        cases h
        obtain ⟨Z, hZ, hZr⟩ := hG.run_zero (w := w) (η := η) (ρ := ρ) hzv
        refine ⟨Z.cells, fun K => by rw [if_neg h0']; simp only [Sem.run_bind, hZ, Result.andThen_ok, Sem.run_pure], ?_⟩
        have : n = Z.cells.size := by rw [← cells_len hZr]; exact (beq_t.1 hl).symm
        rw [this]
        exact repl_sound hZr.cells len
      · cases h
    · cases h

theorem buildSlice_sound (hG : GOK G P) (hR : Rep η ρ s w) {t : TypeId} {len : Nat} {ps : Option (List (Nat × SV))} {PS : Array (Nat × Value)} (hp : EVP η ρ ps PS) :
    OpSpec P η ρ s w (buildSliceD G s t len ps) ((do pure (Next.value (← Instr.buildSlice t len PS)) : Sem Next).run P w) := by
  unfold buildSliceD
  split
  · rename_i e ps hd
    obtain ⟨p1, p2⟩ := hp _ rfl
    split
    · trivial
    · rename_i n hn
      split
      · rename_i z hle hz
        have hle' : len * n ≤ 16777216 := ble_t.1 hle
        split
        · rename_i l hl
          obtain ⟨Z, z1, z2⟩ := zeroRow_sound (w := w) (η := η) (ρ := ρ) hG hz
          obtain ⟨R, r1, r2⟩ := fill_sound hl z2 p1 p2
          rw [Array.toArray_toList] at r1
          have hnew := hR.newArr e e r2
          have hsz : R.size = l.length := by have := r2.length; simpa using this.symm
          refine spec_val ⟨.slice (some ⟨w.heap.size, 0, none⟩) len len, _, _, ?_, .slx (p := ⟨w.heap.size, 0, R.size⟩) (o := 0) (Pls.upd_self _ _ _), hnew.1, hnew.2⟩
          unfold Instr.buildSlice
          simp only [Sem.run_bind, hG.run_underlying hd, hG.run_sizeOf hn, Result.andThen_ok]
          rw [if_neg (by have : (2 : Nat) ^ 24 = 16777216 := by decide
                         omega)]
          rw [z1]
          have e1 : (fun i => some (i * n, n)) = (fun i => some (Nat.mul i n, n)) := rfl
          rw [e1, r1]
          simp only [Sem.run_bind, newVar_run, Result.andThen_ok, Sem.run_pure]
        · trivial
      · trivial
  · trivial

theorem makeSlice_sound (hG : GOK G P) (hR : Rep η ρ s w) {t : TypeId} {l c : Option SV} {L C : Value} (hl : EV η ρ l L) (hc : EV η ρ c C) :
    OpSpec P η ρ s w (makeSliceD G s t l c) ((do pure (Next.value (← Instr.makeSlice t L C)) : Sem Next).run P w) := by
  unfold makeSliceD
  split
  · rename_i e l c hd
    split
    · rename_i n m z by_ hn hm hz hb
      split
      · rename_i zr c1 c2 c3 hzr
        obtain ⟨k1, rfl⟩ := getN_inv hn (hl _ rfl)
        obtain ⟨k2, rfl⟩ := getN_inv hm (hc _ rfl)
        obtain ⟨i, hi, rfl⟩ := hG.run_bytes (w := w) hb
        have c1' : n ≤ m := ble_t.1 c1
        have c2' : i.bytes * m ≤ 281474976710656 := ble_t.1 c2
        have c3' : m ≤ 281474976710656 := ble_t.1 c3
        obtain ⟨Z, z1, z2⟩ := zeroRow_sound (w := w) (η := η) (ρ := ρ) hG hzr
        have hnew := hR.newArr e e z2
        refine spec_val ⟨.slice (some ⟨w.heap.size, 0, none⟩) n m, _, _, ?_, .slx (p := ⟨w.heap.size, 0, _⟩) (o := 0) (Pls.upd_self _ _ _), hnew.1, hnew.2⟩
        have hw1 : IntKind.i64.wrap (n : Int) = n := by simp [IntKind.wrap, IntKind.bits, IntKind.signed]; omega
        have hw2 : IntKind.i64.wrap (m : Int) = m := by simp [IntKind.wrap, IntKind.bits, IntKind.signed]; omega
        have hp48 : (2 : Int) ^ 48 = 281474976710656 := by decide
        have hmul : (i.bytes : Int) * (m : Int) = ((i.bytes * m : Nat) : Int) := by simp
        have ht : ((decide ((m : Int) < 0) || decide ((i.bytes : Int) * (m : Int) > 2 ^ 48)) || decide ((n : Int) < 0) || decide ((n : Int) > (m : Int))) = false := by
          rw [hp48, hmul]; simp; omega
        unfold Instr.makeSlice asInt asIntOf
        simp only [Sem.run_bind, hG.run_underlying hd, Result.andThen_ok, Sem.run_pure, hi, hw1, hw2, ht, Bool.false_eq_true, if_false, run_askRoom, hG.run_sizeOf hz, Int.toNat_natCast]
        rw [z1]
        simp only [Sem.run_bind, Result.andThen_ok, newVar_run, Sem.run_pure]
      · trivial
    · trivial
  · trivial
end
end Go.Dx

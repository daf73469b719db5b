/-
  Whole numbers: the evaluator's sums, comparisons and bits are the model's.
-/
import Derived.Test.YtlihinmgpfbolaaGreatDoorDTy
import Derived.IntWalk
namespace Go.Dx

theorem iadd (a b : Int) : Int.add a b = a + b := rfl
theorem isub (a b : Int) : Int.sub a b = a - b := rfl
theorem ile_eq (a b : Int) : ile a b = decide (a ≤ b) := by
  unfold ile
  have h : Int.sub b a = b - a := rfl
  rw [h]
  cases hc : b - a with
  | ofNat n => simp; have : b - a = (n : Int) := hc; omega
  | negSucc n => simp; have : b - a = -((n : Int) + 1) := by rw [hc]; rfl
                 omega
theorem ilt_eq (a b : Int) : ilt a b = decide (a < b) := by
  unfold ilt
  have h : Int.sub a b = a - b := rfl
  rw [h]
  cases hc : a - b with
  | ofNat n => simp; have : a - b = (n : Int) := hc; omega
  | negSucc n => simp; have : a - b = -((n : Int) + 1) := by rw [hc]; rfl
                 omega
theorem ieq_eq (a b : Int) : ieq a b = decide (a = b) := by
  unfold ieq
  cases a with
  | ofNat m => cases b with
    | ofNat n => simp only []; rw [Bool.eq_iff_iff, beq_t]; simp; omega
    | negSucc n => simp
  | negSucc m => cases b with
    | ofNat n => simp
    | negSucc n => simp only []; rw [Bool.eq_iff_iff, beq_t]; simp
theorem kn_inj {k j : IntKind} (h : Nat.beq (kn k) (kn j) = true) : k = j := by
  have := beq_t.1 h
  cases k <;> cases j <;> first | rfl | (simp [kn] at this)

theorem wrap_in {k : IntKind} {n : Int} (h : inK k n = true) : k.wrap n = n := by
  unfold inK at h
  cases k <;> cases n <;> simp at h <;> (try rw [blt_t] at h) <;> simp only [IntKind.wrap, IntKind.bits, IntKind.signed] <;> simp <;> first | omega | (split <;> omega) | skip
theorem wrapF_eq (k : IntKind) (n : Int) : wrapF k n = k.wrap n := by
  unfold wrapF
  cases h : inK k n with
  | true => exact (wrap_in h).symm
  | false => rfl

/-- The letters keep to their bounds. -/
structure BOK (G : Ctx) (η : Env) : Prop where
  bnd : ∀ i lo hi, nth G.bnd i = some (lo, hi) → lo ≤ η.int i ∧ η.int i ≤ hi
  lens : ∀ i x, nth G.lens i = some (some x) → ∃ p n c, η.val i = .slice p n c ∧ (n : Int) = x.den η
  slens : ∀ i x, nth G.slens i = some (some x) → ∃ b, η.val i = .string b ∧ (b.size : Int) = x.den η
  tab : ∀ e ∈ G.tab, ∀ (P : Program) (w : World) (t : TypeId), (binOp e.op t (.int e.k (e.x.den η)) (.int e.k (e.y.den η))).run P w = .ok (.int e.k (e.z.den η)) w
  btab : ∀ e ∈ G.btab, ∀ (P : Program) (w : World) (t : TypeId), (binOp e.op t (.int e.k (e.x.den η)) (.int e.k (e.y.den η))).run P w = .ok (.bool e.b) w

section
variable {G : Ctx} {η : Env} (hB : BOK G η)
include hB

theorem bounds_sound {x : SI} {lo hi : Int} (h : G.bounds x = some (lo, hi)) : lo ≤ x.den η ∧ x.den η ≤ hi := by
  cases x with
  | c n => simp only [Ctx.bounds] at h; cases h; exact ⟨Int.le_refl _, Int.le_refl _⟩
  | a i o =>
    simp only [Ctx.bounds] at h
    split at h
    · rename_i lo' hi' hn
      cases h
      have := hB.bnd i lo' hi' hn
      simp only [SI.den]
      show lo' + o ≤ _ ∧ _ ≤ hi' + o
      omega
    · cases h

omit hB in
theorem inK_mid {k : IntKind} {a b n : Int} (ha : inK k a = true) (hb : inK k b = true) (h1 : a ≤ n) (h2 : n ≤ b) : k.wrap n = n := by
  apply wrap_in
  unfold inK at *
  cases k <;> simp at ha hb ⊢ <;> (cases n <;> cases a <;> cases b <;> simp only [Int.ofNat_eq_natCast, Int.negSucc_eq] at ha hb h1 h2 ⊢ <;> simp at ha hb ⊢ <;> (try rw [blt_t] at *) <;> omega)

theorem plus_sound {k : IntKind} {i : Nat} {o : Int} {x : SI} (h : G.plus k i o = some x) : x.den η = k.wrap (η.int i + o) := by
  unfold Ctx.plus at h
  split at h
  · cases h
  · rename_i lo hi hb
    split at h
    · rename_i h1 h2
      cases h
      have := bounds_sound hB hb
      simp only [SI.den] at this ⊢
      exact (inK_mid h1 h2 this.1 this.2).symm
    · cases h

theorem add_sound {k : IntKind} {x y z : SI} (h : G.add k x y = some z) : z.den η = k.wrap (x.den η + y.den η) := by
  unfold Ctx.add at h
  split at h
  · cases h; simp only [SI.den]; rw [wrapF_eq]; rfl
  · rw [plus_sound hB h]; simp only [SI.den]; congr 1; rw [iadd]; omega
  · rw [plus_sound hB h]; simp only [SI.den]; congr 1; rw [iadd]; omega
  · cases h
theorem sub_sound {k : IntKind} {x y z : SI} (h : G.sub k x y = some z) : z.den η = k.wrap (x.den η - y.den η) := by
  unfold Ctx.sub at h
  split at h
  · cases h; simp only [SI.den]; rw [wrapF_eq]; rfl
  · rw [plus_sound hB h]; simp only [SI.den]; congr 1; rw [isub]; omega
  · split at h
    · rename_i hij; cases h; rw [beq_t.1 hij]; simp only [SI.den]; rw [wrapF_eq]; congr 1; rw [isub]; omega
    · cases h
  · cases h

theorem lt_sound {x y : SI} {b : Bool} (h : G.lt x y = some b) : b = decide (x.den η < y.den η) := by
  unfold Ctx.lt at h
  split at h
  · cases h; simp only [SI.den]; exact ilt_eq _ _
  · split at h
    · split at h
      · rename_i hij; cases h; rw [beq_t.1 hij]; simp only [SI.den]; rw [ilt_eq, Bool.eq_iff_iff]; simp
      · cases h
    · split at h
      · rename_i lx hx ly hy h1 h2
        have b1 := bounds_sound hB h1
        have b2 := bounds_sound hB h2
        rw [ilt_eq, ile_eq] at h
        split at h
        · rename_i hlt; cases h; simp at hlt; symm; simp; omega
        · split at h
          · rename_i hle; cases h; simp at hle; symm; simp; omega
          · cases h
      · cases h

theorem eqI_sound {x y : SI} {b : Bool} (h : G.eqI x y = some b) : b = decide (x.den η = y.den η) := by
  unfold Ctx.eqI at h
  split at h
  · cases h; simp only [SI.den]; exact ieq_eq _ _
  · split at h
    · rename_i hij; cases h; rw [beq_t.1 hij]; simp only [SI.den]; rw [ieq_eq, Bool.eq_iff_iff]; simp
    · cases h
  · split at h
    · rename_i h1; cases h; have := lt_sound hB h1; symm at this; simp at this; symm; simp; omega
    · split at h
      · rename_i h1; cases h; have := lt_sound hB h1; symm at this; simp at this; symm; simp; omega
      · cases h
end
end Go.Dx

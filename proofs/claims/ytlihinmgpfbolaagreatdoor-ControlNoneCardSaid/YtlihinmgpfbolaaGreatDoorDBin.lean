/-
  Binary operations: integers, strings, equality.
-/
import Derived.Test.YtlihinmgpfbolaaGreatDoorDInt
import Derived.Laws.StructEq
namespace Go.Dx

theorem bytes_inj {a b : ByteArray} (h : bytesOfArr a = bytesOfArr b) : a = b := by
  obtain ⟨⟨x⟩⟩ := a
  obtain ⟨⟨y⟩⟩ := b
  have : x = y := by
    have h' : x.map UInt8.toNat = y.map UInt8.toNat := h
    exact List.map_inj_right (fun _ _ e => UInt8.toNat_inj.1 e) |>.1 h'
  rw [this]
theorem leq_eq : ∀ (a b : List Nat), leq a b = decide (a = b) := by
  intro a
  induction a with
  | nil => intro b; cases b <;> simp [leq]
  | cons x xs ih =>
    intro b
    cases b with
    | nil => simp [leq]
    | cons y ys =>
      simp only [leq]
      cases h : Nat.beq x y with
      | true => rw [beq_t.1 h]; simp [ih]
      | false => have := beq_f.1 h; simp [this]
theorem llt_eq : ∀ (x y : List UInt8), llt (x.map UInt8.toNat) (y.map UInt8.toNat) = Op.bytesLess x y := by
  intro x
  induction x with
  | nil => intro y; cases y <;> rfl
  | cons a x ih =>
    intro y
    cases y with
    | nil => rfl
    | cons b y =>
      simp only [List.map_cons, llt, Op.bytesLess, ih]
      by_cases h : a < b
      · have h' : a.toNat < b.toNat := UInt8.lt_iff_toNat_lt.1 h
        rw [blt_t.2 h']; simp [h]
      · have h' : ¬ a.toNat < b.toNat := fun e => h (UInt8.lt_iff_toNat_lt.2 e)
        have hf : Nat.blt a.toNat b.toNat = false := by
          cases hc : Nat.blt a.toNat b.toNat with
          | true => exact absurd (blt_t.1 hc) h'
          | false => rfl
        rw [hf]
        by_cases he : a = b
        · subst he; simp
        · have hn : a.toNat ≠ b.toNat := fun e => he (UInt8.toNat_inj.1 e)
          rw [beq_f.2 hn]; simp [h, he]

section
variable {G : Ctx} {P : Program} {η : Env} {ρ : Pls} {w : World}

theorem bsome_inv {o : Option Bool} {v : SV} (h : bsome o = some v) : ∃ b, o = some b ∧ v = .bool b := by
  unfold bsome at h; split at h
  · cases h; exact ⟨_, rfl, rfl⟩
  · cases h
theorem bnot_inv {o : Option Bool} {v : SV} (h : bnot o = some v) : ∃ b, o = some b ∧ v = .bool (!b) := by
  unfold bnot at h; split at h
  · rename_i b; cases h; exact ⟨b, rfl, by cases b <;> rfl⟩
  · cases h
theorem isome_inv {k : IntKind} {o : Option SI} {v : SV} (h : isome k o = some v) : ∃ x, o = some x ∧ v = .int k x := by
  unfold isome at h; split at h
  · cases h; exact ⟨_, rfl, rfl⟩
  · cases h

theorem bitsOf_eq (k : IntKind) (n : Int) : bitsOf k n = (BitVec.ofInt k.bits n).toNat := by
  unfold bitsOf
  rw [BitVec.toNat_ofInt]
  rfl

theorem intOp_sound (hB : BOK G η) {op : BinOp} {k : IntKind} {x y : SI} {v : SV} (t : TypeId) (hs : op ≠ .shl) (hr : op ≠ .shr) (h : intOp G op k x y = some v) :
    ∃ V, (binOp op t (.int k (x.den η)) (.int k (y.den η))).run P w = .ok V w ∧ VR η ρ v V := by
  unfold intOp at h
  split at h
  · obtain ⟨z, hz, rfl⟩ := isome_inv h
    exact ⟨_, by rw [binOp_add]; rfl, by rw [← add_sound hB hz]; exact .int _ _⟩
  · obtain ⟨z, hz, rfl⟩ := isome_inv h
    exact ⟨_, by rw [binOp_sub]; rfl, by rw [← sub_sound hB hz]; exact .int _ _⟩
  · obtain ⟨b, hb, rfl⟩ := bsome_inv h
    have := eqI_sound hB hb
    refine ⟨_, by rw [binOp_eql]; rfl, ?_⟩
    rw [this, show decide (x.den η = y.den η) = (x.den η == y.den η) from by rw [Bool.eq_iff_iff]; simp]
    exact .bool _
  · obtain ⟨b, hb, rfl⟩ := bnot_inv h
    have := eqI_sound hB hb
    refine ⟨_, by rw [binOp_neq]; rfl, ?_⟩
    rw [this, show (!decide (x.den η = y.den η)) = (x.den η != y.den η) from by rw [Bool.eq_iff_iff]; simp [bne]]
    exact .bool _
  · obtain ⟨b, hb, rfl⟩ := bsome_inv h
    have := lt_sound hB hb
    exact ⟨_, by rw [binOp_lss]; rfl, by rw [this]; exact .bool _⟩
  · obtain ⟨b, hb, rfl⟩ := bnot_inv h
    have := lt_sound hB hb
    refine ⟨_, by rw [binOp_geq]; rfl, ?_⟩
    rw [this, show (!decide (x.den η < y.den η)) = decide (x.den η ≥ y.den η) from by rw [Bool.eq_iff_iff]; simp]
    exact .bool _
  · obtain ⟨b, hb, rfl⟩ := bsome_inv h
    have := lt_sound hB hb
    exact ⟨_, by rw [binOp_gtr]; rfl, by rw [this]; exact .bool _⟩
  · obtain ⟨b, hb, rfl⟩ := bnot_inv h
    have := lt_sound hB hb
    refine ⟨_, by rw [binOp_leq]; rfl, ?_⟩
    rw [this, show (!decide (y.den η < x.den η)) = decide (x.den η ≤ y.den η) from by rw [Bool.eq_iff_iff]; simp]
    exact .bool _
  · split at h
    · rename_i m n
      simp only [SI.den]
      split at h
      · cases h; exact ⟨_, by rw [binOp_mul]; rfl, by rw [wrapF_eq]; exact .int _ (.c _)⟩
      · split at h
        · cases h
        · rename_i hz
          cases h
          rw [ieq_eq] at hz; simp at hz
          refine ⟨_, by rw [binOp_quo]; simp only [Op.intDiv]; rw [if_neg hz]; rfl, by rw [wrapF_eq]; exact .int _ (.c _)⟩
      · split at h
        · cases h
        · rename_i hz
          cases h
          rw [ieq_eq] at hz; simp at hz
          refine ⟨_, by rw [binOp_rem]; simp only [Op.intDiv]; rw [if_neg hz]; rfl, .int _ (.c _)⟩
      · cases h
        refine ⟨_, by rw [binOp_and]; rfl, ?_⟩
        rw [wrapF_eq, bitsOf_eq, bitsOf_eq, BitVec.toNat_and]; exact .int _ (.c _)
      · cases h
        refine ⟨_, by rw [binOp_or]; rfl, ?_⟩
        rw [wrapF_eq, bitsOf_eq, bitsOf_eq, BitVec.toNat_or]; exact .int _ (.c _)
      · cases h
        refine ⟨_, by rw [binOp_xor]; rfl, ?_⟩
        rw [wrapF_eq, bitsOf_eq, bitsOf_eq, BitVec.toNat_xor]; exact .int _ (.c _)
      · cases h
    · cases h

theorem bn_inj {a b : BinOp} (h : Nat.beq (bn a) (bn b) = true) : a = b := by
  have := beq_t.1 h
  cases a <;> cases b <;> first | rfl | (simp [bn] at this)
theorem seq_eq {x y : SI} (h : seq x y = true) : x = y := by
  cases x <;> cases y <;> simp only [seq] at h
  · rw [ieq_eq] at h; rw [of_decide_eq_true h]
  · cases h
  · cases h
  · split at h
    · rename_i hb; rw [ieq_eq] at h; rw [beq_t.1 hb, of_decide_eq_true h]
    · cases h
theorem findTab_in {op : BinOp} {k : IntKind} {x y z : SI} : ∀ {l : List TabE}, findTab op k x y l = some z → ∃ e ∈ l, e.op = op ∧ e.k = k ∧ e.x = x ∧ e.y = y ∧ e.z = z
  | [], h => by simp only [findTab] at h; cases h
  | e :: es, h => by
    simp only [findTab] at h
    split at h
    · rename_i h1 h2 h3 h4
      cases h
      exact ⟨e, List.mem_cons_self, bn_inj h1, kn_inj h2, seq_eq h3, seq_eq h4, rfl⟩
    · obtain ⟨e', he, hh⟩ := findTab_in h
      exact ⟨e', List.mem_cons_of_mem _ he, hh⟩
theorem findB_in {op : BinOp} {k : IntKind} {x y : SI} {v : SV} : ∀ {l : List BTabE}, findB op k x y l = some v → ∃ e ∈ l, e.op = op ∧ e.k = k ∧ e.x = x ∧ e.y = y ∧ v = .bool e.b
  | [], h => by simp only [findB] at h; cases h
  | e :: es, h => by
    simp only [findB] at h
    split at h
    · rename_i h1 h2 h3 h4
      cases h
      exact ⟨e, List.mem_cons_self, bn_inj h1, kn_inj h2, seq_eq h3, seq_eq h4, rfl⟩
    · obtain ⟨e', he, hh⟩ := findB_in h
      exact ⟨e', List.mem_cons_of_mem _ he, hh⟩
theorem intOpT_sound (hB : BOK G η) {op : BinOp} {k : IntKind} {x y : SI} {v : SV} (t : TypeId) (hs : op ≠ .shl) (hr : op ≠ .shr) (h : intOpT G op k x y = some v) :
    ∃ V, (binOp op t (.int k (x.den η)) (.int k (y.den η))).run P w = .ok V w ∧ VR η ρ v V := by
  unfold intOpT at h
  split at h
  · rename_i u hu; cases h; exact intOp_sound hB t hs hr hu
  · split at h
    · rename_i z hz
      cases h
      obtain ⟨e, he, rfl, rfl, rfl, rfl, rfl⟩ := findTab_in hz
      exact ⟨_, hB.tab e he P w t, .int _ _⟩
    · obtain ⟨e, he, rfl, rfl, rfl, rfl, rfl⟩ := findB_in h
      exact ⟨_, hB.btab e he P w t, .bool _⟩

theorem nmin_eq (a b : Nat) : nmin a b = min a b := by
  unfold nmin
  cases hb : Nat.ble a b with
  | true => have := ble_t.1 hb; simp only []; omega
  | false => have := ble_f.1 hb; simp only []; omega
theorem shift_sound {op : BinOp} {k k' : IntKind} {m n : Int} {v : SV} (t : TypeId) (h : shiftOp op k m n = some v) (ho : op = .shl ∨ op = .shr) :
    ∃ V, (binOp op t (.int k m) (.int k' n)).run P w = .ok V w ∧ VR η ρ v V := by
  unfold shiftOp at h
  split at h
  · cases h
  · rename_i n
    rw [nmin_eq] at h
    have hn : ¬ (Int.ofNat n < 0) := by simp
    rcases ho with rfl | rfl
    · simp only [] at h
      cases h
      refine ⟨_, by rw [binOp_shl]; simp only [Op.shift]; rw [if_neg hn]; rfl, ?_⟩
      rw [wrapF_eq]
      have : Int.mul m (Int.ofNat (Nat.pow 2 (min n k.bits))) = m * 2 ^ (min (Int.ofNat n).toNat k.bits) := by
        show m * ((2 ^ (min n k.bits) : Nat) : Int) = _
        rw [Int.natCast_pow]; rfl
      rw [this]; exact .int _ (.c _)
    · simp only [] at h
      cases h
      refine ⟨_, by rw [binOp_shr]; simp only [Op.shift]; rw [if_neg hn]; rfl, ?_⟩
      have : Int.ofNat (Nat.pow 2 (min n k.bits)) = 2 ^ (min (Int.ofNat n).toNat k.bits) := by
        show ((2 ^ (min n k.bits) : Nat) : Int) = _
        rw [Int.natCast_pow]; rfl
      rw [this]; exact .int _ (.c _)

theorem bytes_append (a b : ByteArray) : bytesOfArr (a ++ b) = bytesOfArr a ++ bytesOfArr b := by
  unfold bytesOfArr; simp
theorem bytes_length (a : ByteArray) : (bytesOfArr a).length = a.size := by
  unfold bytesOfArr; simp

theorem leq_str (a b : ByteArray) : leq (bytesOfArr a) (bytesOfArr b) = (a.toList == b.toList) := by
  rw [leq_eq, ByteArray.toList_eq, ByteArray.toList_eq, Bool.eq_iff_iff]
  simp only [decide_eq_true_eq, beq_iff_eq]
  exact ⟨fun h => by rw [bytes_inj h], fun h => by unfold bytesOfArr; rw [h]⟩
theorem llt_str (a b : ByteArray) : llt (bytesOfArr a) (bytesOfArr b) = Op.bytesLess a.toList b.toList := by
  rw [ByteArray.toList_eq, ByteArray.toList_eq]; exact llt_eq _ _

theorem strOp_sound {op : BinOp} {a b : ByteArray} {v : SV} (t : TypeId) (h : strOp op (bytesOfArr a) (bytesOfArr b) = some v) :
    ∃ V, (binOp op t (.string a) (.string b)).run P w = .ok V w ∧ VR η ρ v V := by
  unfold strOp at h
  split at h
  · split at h
    · rename_i hle
      cases h
      have h1 := ble_t.1 hle
      rw [bytes_length, bytes_length] at h1
      have h2 : ¬ (((a.size + b.size : Nat) : Int) > IntKind.i64.max) := by
        have : IntKind.i64.max = 9223372036854775807 := by decide
        rw [this]
        have h3 : a.size + b.size ≤ 9223372036854775807 := h1
        omega
      refine ⟨.string (a ++ b), ?_, ?_⟩
      · show ((Op.stringOp .add a b).run P w) = _
        simp only [Op.stringOp]; rw [if_neg h2]; rfl
      · rw [← bytes_append]; exact .str _
    · cases h
  · cases h; rw [leq_str]; exact ⟨_, rfl, .bool _⟩
  · obtain ⟨x, hx, rfl⟩ := bnot_inv h; cases hx; rw [leq_str]; exact ⟨_, rfl, .bool _⟩
  · cases h; rw [llt_str]; exact ⟨_, rfl, .bool _⟩
  · obtain ⟨x, hx, rfl⟩ := bnot_inv h; cases hx; rw [llt_str]; exact ⟨_, rfl, .bool _⟩
  · cases h
    rw [llt_str]
    refine ⟨_, rfl, ?_⟩
    have : Op.bytesLess b.toList a.toList = !(Op.bytesLess a.toList b.toList || a.toList == b.toList) := bytesLess_flip _ _
    rw [this]; exact .bool _
  · obtain ⟨x, hx, rfl⟩ := bnot_inv h; cases hx
    rw [llt_str]
    refine ⟨_, rfl, ?_⟩
    have : Op.bytesLess b.toList a.toList = !(Op.bytesLess a.toList b.toList || a.toList == b.toList) := bytesLess_flip _ _
    rw [this, Bool.not_not]; exact .bool _
  · cases h
where
  bytesLess_flip : ∀ (x y : List UInt8), Op.bytesLess y x = !(Op.bytesLess x y || x == y)
    | [], [] => rfl
    | [], _ :: _ => rfl
    | _ :: _, [] => rfl
    | a :: x, b :: y => by
      simp only [Op.bytesLess, bytesLess_flip x y]
      by_cases h1 : a < b
      · have : ¬ b < a := fun h => by simp only [UInt8.lt_iff_toNat_lt] at *; omega
        have h2 : ¬ b = a := fun h => by subst h; exact this h1
        simp [h1, this, h2]
      · by_cases h2 : b < a
        · have h3 : ¬ a = b := fun h => by subst h; exact h1 h2
          simp [h1, h2, h3]
        · have h3 : a = b := by
            apply UInt8.toNat_inj.1
            simp only [UInt8.lt_iff_toNat_lt] at *; omega
          subst h3; simp [h1]
end
end Go.Dx

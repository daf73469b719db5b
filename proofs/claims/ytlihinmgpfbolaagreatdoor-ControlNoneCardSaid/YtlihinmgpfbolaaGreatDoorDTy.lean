/-
  Types, zero values, variables: what the evaluator reads off the program's tables is what the model reads.
-/
import Derived.Test.YtlihinmgpfbolaaGreatDoorDMem
namespace Go.Dx

/-- What the context says is so of the program. -/
structure GOK (G : Ctx) (P : Program) : Prop where
  tys : ∀ t i, G.tys.get t = some i → P.info? t = some i
  fns : ∀ f fn, G.fns.get f = some fn → P.funcs[f]? = some fn ∧ fn.body.isSome = true ∧ (fn.name == "runtime.NumGoroutine") = false
  ext1 : ∀ f, G.ext.get f = some 1 → ∀ (args : Array Value) (w : World), (callFunc f args).run P w = ((Extern.BytealgIndexByte.indexByte args).run P w).andThen fun v w' => .ok (.value v) w'
  ext2 : ∀ f, G.ext.get f = some 2 → ∀ (args : Array Value) (w : World), (callFunc f args).run P w = ((Extern.BytealgCount.count args).run P w).andThen fun v w' => .ok (.value v) w'
  mixed : P.follows .mixedOrders = true
  eqS : ∀ t k fs, G.eqt.get t = some k → P.underlying t = some (.struct fs) → P.eqGuardType P.depth t = false ∧ P.stoodInHeld t = false ∧ ∀ (i : Nat) (f : Field), fs[i]? = some f → f.name ≠ "_" ∧ f.offset = i
  eqAr : ∀ t k n e, G.eqt.get t = some k → P.underlying t = some (.array n e) → P.eqGuardType P.depth t = false ∧ ∃ i, P.info? e = some i ∧ i.size = 1

section
variable {G : Ctx} {P : Program} (hG : GOK G P) {η : Env} {ρ : Pls} {s s' : St} {w : World}
include hG

theorem GOK.underlying {t : TypeId} {d : TypeDesc} (h : G.desc t = some d) : P.underlying t = some d := by
  unfold Ctx.desc at h
  cases hi : G.tys.get t with
  | none => rw [hi] at h; cases h
  | some i =>
    rw [hi] at h; simp only at h
    have hp := hG.tys t i hi
    unfold Program.underlying
    rw [hp]
    obtain ⟨desc, _⟩ := i
    simp only at h ⊢
    cases desc with
    | named n u =>
      simp only at h ⊢
      cases hu : G.tys.get u with
      | none => rw [hu] at h; cases h
      | some j => rw [hu] at h; rw [hG.tys u j hu]; simpa using h
    | _ => simpa using h
theorem GOK.run_underlying {t : TypeId} {d : TypeDesc} (h : G.desc t = some d) : (Go.underlying t).run P w = .ok d w := by
  unfold Go.underlying
  simp [hG.underlying h]
theorem GOK.run_typeInfo {t : TypeId} {i : TypeInfo} (h : G.tys.get t = some i) : (typeInfo t).run P w = .ok i w := by
  unfold typeInfo
  simp [hG.tys t i h]
theorem GOK.run_sizeOf {t : TypeId} {n : Nat} (h : G.size t = some n) : (sizeOf t).run P w = .ok n w := by
  unfold Ctx.size at h
  split at h
  · rename_i i hi; cases h
    unfold sizeOf; simp [hG.run_typeInfo hi]
  · cases h
theorem GOK.run_bytes {t : TypeId} {n : Nat} (h : G.bytes t = some n) : ∃ i, (typeInfo t).run P w = .ok i w ∧ i.bytes = n := by
  unfold Ctx.bytes at h
  split at h
  · rename_i i hi; cases h
    exact ⟨i, hG.run_typeInfo hi, rfl⟩
  · cases h
theorem GOK.run_isAgg {t : TypeId} {b : Bool} (h : G.isAgg t = some b) : (isAgg t).run P w = .ok b w := by
  unfold Ctx.isAgg at h
  cases hd : G.desc t with
  | none => rw [hd] at h; cases h
  | some d =>
    rw [hd] at h
    unfold isAgg
    simp only [Sem.run_bind, hG.run_underlying hd, Result.andThen_ok]
    cases d <;> simp at h ⊢ <;> exact h
end

theorem cv1_sound {η : Env} {ρ : Pls} {V : Value} {v : SV} (h : cv1 V = some v) : VR η ρ v V := by
  unfold cv1 at h
  split at h
  · cases h; exact .bool _
  · cases h; exact .int _ (.c _)
  · cases h; exact .str _
  · cases h; exact .nilp
  · split at h
    · rename_i h1 h2; cases h; rw [beq_t.1 h1, beq_t.1 h2]; exact .nils
    · cases h
  · cases h; exact .nilm
  · cases h; exact .nilf
  · cases h; exact .nili
  · cases h
theorem cvs_sound {η : Env} {ρ : Pls} : ∀ {L : List Value} {l : List SV}, cvs L = some l → VRL η ρ l L := by
  intro L
  induction L with
  | nil => intro l h; cases h; exact .nil
  | cons V L ih =>
    intro l h
    simp only [cvs] at h
    split at h
    · cases h
    · rename_i x hx
      split at h
      · cases h
      · rename_i xs hxs; cases h; exact .cons (cv1_sound hx) (ih hxs)
theorem cv_sound {η : Env} {ρ : Pls} {V : Value} {v : SV} (h : cv V = some v) : VR η ρ v V := by
  unfold cv at h
  split at h
  · split at h
    · rename_i l hl; cases h; exact .agg (cvs_sound hl)
    · cases h
  · split at h
    · rename_i x hx; cases h; exact .ifc (cv1_sound hx)
    · cases h
  · exact cv1_sound h

section
variable {G : Ctx} {P : Program} (hG : GOK G P) {η : Env} {ρ : Pls} {s s' : St} {w : World}
include hG

theorem GOK.run_zero {t : TypeId} {z : SV} (h : G.zero t = some z) : ∃ Z, (zeroValue t).run P w = .ok Z w ∧ VR η ρ z Z := by
  unfold Ctx.zero at h
  split at h
  · cases h
  · rename_i i hi
    split at h
    · cases h
    · rename_i v hv
      refine ⟨v, ?_, cv_sound h⟩
      unfold zeroValue
      simp [hG.run_typeInfo hi, hv]

theorem load_sound (hR : Rep η ρ s w) {t : TypeId} {b o : Nat} {v : SV} (h : loadD G s t b o = some v) {p : Pl} (hp : ρ b = some p) :
    ∃ V, (loadVar t ⟨p.b, p.base + o, none⟩).run P w = .ok V w ∧ VR η ρ v V := by
  unfold loadD at h
  unfold loadVar
  split at h
  · rename_i ha
    split at h
    · rename_i n hn
      split at h
      · rename_i l hl
        cases h
        obtain ⟨L, h1, h2, _, h4⟩ := read_sound (P := P) hR hl hp
        refine ⟨.agg L.toArray, ?_, .agg (by simpa using h1)⟩
        simp [hG.run_isAgg ha, hG.run_sizeOf hn, h4]
      · cases h
    · cases h
  · rename_i ha
    split at h
    · rename_i x hx
      cases h
      obtain ⟨L, h1, h2, h3, _⟩ := read_sound (P := P) hR hx hp
      cases h1 with
      | @cons _ V _ _ hv hl =>
        cases hl
        refine ⟨V, ?_, hv⟩
        have := h3 0 V rfl
        simp at this
        simp [hG.run_isAgg ha, this]
    · cases h
  · cases h

theorem storeVar_sound (hR : Rep η ρ s w) {t : TypeId} {b o : Nat} {v : SV} {V : Value} (h : storeD G s t b o v = some s') {p : Pl} (hp : ρ b = some p) (hv : VR η ρ v V) :
    ∃ w', (storeVar t ⟨p.b, p.base + o, none⟩ V).run P w = .ok () w' ∧ Rep η ρ s' w' ∧ Ext ρ s w ρ s' w' := by
  unfold storeD at h
  split at h
  · rename_i n hn
    split at h
    · rename_i hb
      obtain ⟨w', h1, h2, h3⟩ := write_sound (P := P) hR h hp hv.cells
      refine ⟨w', ?_, h2, h3⟩
      unfold storeVar
      have hlen := hv.cells.length
      have hsz : V.cells.size = n := by rw [← beq_t.1 hb, hlen]; simp
      simp only [Sem.run_bind, hG.run_sizeOf hn, Result.andThen_ok, hsz]
      simpa using h1
    · cases h
  · cases h

theorem part_sound {t : TypeId} {l : List SV} {L : Array Value} {off : Nat} {v : SV} (h : part G t l off = some v) (hl : VRL η ρ l L.toList) :
    ∃ V, (Go.part t L off).run P w = .ok V w ∧ VR η ρ v V := by
  unfold Dx.part at h
  unfold Go.part
  split at h
  · rename_i ha
    split at h
    · rename_i n hn
      split at h
      · rename_i hle
        cases h
        refine ⟨.agg (L.extract off (off + n)), by simp [hG.run_isAgg ha, hG.run_sizeOf hn], .agg ?_⟩
        have := (hl.drop off).take n
        rw [Array.toList_extract]
        have e : L.toList.extract off (off + n) = (L.toList.drop off).take n := by rw [List.extract_eq_take_drop]; congr 1; omega
        rw [e]; exact this
      · cases h
    · cases h
  · rename_i ha
    obtain ⟨V, hV, hr⟩ := hl.nth h
    refine ⟨V, ?_, hr⟩
    have hV' : L[off]? = some V := by simpa using hV
    simp [hG.run_isAgg ha, hV']
  · cases h
end
end Go.Dx

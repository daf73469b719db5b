/-
  Conversions, literals, new memory, addresses, the model's own functions.
-/
import Derived.Test.YtlihinmgpfbolaaGreatDoorDOps3
namespace Go.Dx
section
variable {G : Ctx} {P : Program} {η : Env} {ρ : Pls} {s s' : St} {w w' : World}

theorem byteList_sound : ∀ {l : List SV} {L : List Value} {r : List Nat}, byteList l = some r → VRL η ρ l L → ∀ (acc : ByteArray), ∃ b : ByteArray, bytesOfArr b = bytesOfArr acc ++ r ∧
    ∀ F : Value → ByteArray → Sem (ForInStep ByteArray), (∀ n a, F (.int .u8 n) a = pure (ForInStep.yield (a.push (UInt8.ofNat n.toNat)))) → (forIn L acc F : Sem ByteArray).run P w = .ok b w := by
  intro l
  induction l with
  | nil => intro L r h hl acc; cases hl; simp only [byteList] at h; cases h; exact ⟨acc, by simp, fun _ _ => rfl⟩
  | cons v l ih =>
    intro L r h hl acc
    cases hl with
    | @cons _ V _ L hv hl =>
      unfold byteList at h
      split at h
      · rename_i e; cases e
      · rename_i n rest e
        cases e
        split at h
        · cases h
        · rename_i hlt
          split at h
          · cases h
          · rename_i l' hl'
            cases h
            cases hv
            obtain ⟨b, b1, b2⟩ := ih hl' hl (acc.push (UInt8.ofNat n))
            refine ⟨b, ?_, ?_⟩
            · rw [b1]
              have : n % 256 = n := Nat.mod_eq_of_lt (blt_t.1 hlt)
              unfold bytesOfArr
              simp [this]
            · intro F hF
              rw [List.forIn_cons]
              simp only [Sem.run_bind, SI.den, hF, Sem.run_pure, Result.andThen_ok]
              exact b2 F hF
      · cases h

variable (hG : GOK G P) (hB : BOK G η)

include hG hB in
theorem convert_sound (hR : Rep η ρ s w) {src dst : TypeId} {x v : SV} {X : Value} (h : convertD G s src dst x = .val v s') (hx : VR η ρ x X) :
    s' = s ∧ ∃ V, (Go.convert src dst X).run P w = .ok V w ∧ VR η ρ v V := by
  have hs := fun d (h : G.desc src = some d) => hG.run_underlying (w := w) h
  have hd := fun d (h : G.desc dst = some d) => hG.run_underlying (w := w) h
  unfold convertD at h
  split at h
  · rename_i d k k' n h1 h2
    cases h; cases hx
    refine ⟨rfl, .int k (k.wrap n), ?_, by rw [wrapF_eq]; exact .int _ (.c _)⟩
    unfold Go.convert
    simp only [Sem.run_bind, hs _ h1, hd _ h2, Result.andThen_ok, SI.den]
    rfl
  · rename_i d k k' i o h1 h2
    unfold ofV at h
    split at h
    · rename_i u hu
      cases h; cases hx
      obtain ⟨z, hz, rfl⟩ := isome_inv hu
      refine ⟨rfl, .int k (k.wrap (η.int i + o)), ?_, by rw [← plus_sound hB hz]; exact .int _ _⟩
      unfold Go.convert
      simp only [Sem.run_bind, hs _ h1, hd _ h2, Result.andThen_ok, SI.den]
      rfl
    · cases h
  · rename_i d l h1 h2
    cases h; cases hx with
    | str b =>
      refine ⟨rfl, .string b, ?_, .str b⟩
      unfold Go.convert
      simp only [Sem.run_bind, hs _ h1, hd _ h2, Result.andThen_ok]
      cases d <;> rfl
  · rename_i e h1 h2
    split at h
    · rename_i h3
      cases h; cases hx
      refine ⟨rfl, .string .empty, ?_, show VR η ρ (.str (bytesOfArr ByteArray.empty)) _ from .str _⟩
      unfold Go.convert
      simp only [Sem.run_bind, hs _ h1, hd _ h2, Result.andThen_ok, hG.run_underlying h3]
      rfl
    · cases h
  · rename_i e b o n cp h1 h2
    split at h
    · rename_i h3
      split at h
      · cases h
      · rename_i cs hcs
        split at h
        · rename_i l hl
          cases h
          obtain ⟨p, o', c, hp, rfl, ho⟩ := sl_addr hx
          obtain ⟨L, l1, l2⟩ := first_sound (P := P) hR (z := 1) (k := n) (c := c) hp ho (by rw [Nat.mul_one]; exact hcs)
          obtain ⟨bb, b1, b2⟩ := byteList_sound (P := P) (w := w) hl l1 ByteArray.empty
          refine ⟨rfl, .string bb, ?_, ?_⟩
          · unfold Go.convert
            simp only [Sem.run_bind, hs _ h1, hd _ h2, Result.andThen_ok, hG.run_underlying h3]
            unfold Conv.bytesToString
            have l2' : (loadCells ⟨p.b, o', none⟩ n).run P w = .ok L.toArray w := by
              have : (loadCells ⟨p.b, o', none⟩ (n * 1)).run P w = .ok L.toArray w := l2
              rwa [Nat.mul_one] at this
            simp only [Sem.run_bind, l2', Result.andThen_ok]
            rw [← Array.forIn_toList, List.toList_toArray, b2 _ (fun _ _ => rfl)]
            rfl
          · have : bytesOfArr bb = l := by rw [b1]; rfl
            rw [← this]; exact .str bb
        · cases h
    · cases h
  · cases h

/-! ### Literals -/
theorem laid_sound : ∀ {vs l r : List SV} {VS L : List Value} {off : Nat}, laid off l vs = some r → VRL η ρ l L → VRL η ρ vs VS → off + VS.length ≤ L.length ∨ VS = [] →
    VRL η ρ r (L.take off ++ VS ++ L.drop (off + VS.length)) := by
  intro vs l
  induction l generalizing vs with
  | nil =>
    intro r VS L off h hl hv ho
    cases hl
    cases hv with
    | nil => simp only [laid] at h; cases h; simp; exact .nil
    | cons a b => cases off <;> simp [laid] at h
  | cons x l ih =>
    intro r VS L off h hl hv ho
    cases hl with
    | @cons _ X _ L hx hl =>
      cases hv with
      | nil =>
        have : r = x :: l := by cases off <;> (simp only [laid] at h; cases h; rfl)
        subst this
        simp only [List.append_nil, List.length_nil, Nat.add_zero, List.take_append_drop]
        exact .cons hx hl
      | @cons v V vs VS a b =>
        cases off with
        | zero =>
          simp only [laid] at h
          split at h
          · rename_i r' hr'
            cases h
            have := ih hr' hl b (by
              rcases ho with ho | ho
              · simp at ho; exact .inl (by omega)
              · cases ho)
            simp only [List.take_zero, List.nil_append, Nat.zero_add] at this
            simp only [List.take_zero, List.nil_append, Nat.zero_add, List.length_cons, List.drop_succ_cons]
            exact .cons a this
          · cases h
        | succ n =>
          simp only [laid] at h
          split at h
          · rename_i r' hr'
            cases h
            have := ih hr' hl (.cons a b) (by
              rcases ho with ho | ho
              · simp at ho; simp; omega
              · cases ho)
            rw [show n + 1 + (V :: VS).length = n + (V :: VS).length + 1 by omega]
            simp only [List.take_succ_cons, List.drop_succ_cons]
            exact .cons hx this
          · cases h

theorem set_row : ∀ (VS : List Value) (L : List Value) (off k : Nat), off + k + VS.length ≤ L.length →
    (VS.zipIdx k).foldl (fun (cs : Array Value) (x : Value × Nat) => cs.setIfInBounds (off + x.2) x.1) L.toArray = (L.take (off + k) ++ VS ++ L.drop (off + k + VS.length)).toArray := by
  intro VS
  induction VS with
  | nil => intro L off k h; simp
  | cons V VS ih =>
    intro L off k h
    simp only [List.length_cons] at h
    rw [List.zipIdx_cons, List.foldl_cons]
    have e : (L.toArray).setIfInBounds (off + k) V = (L.set (off + k) V).toArray := by simp
    rw [e, ih (L.set (off + k) V) off (k + 1) (by simp; omega)]
    congr 1
    rw [show off + (k + 1) = off + k + 1 by omega]
    have hlt : off + k < L.length := by omega
    rw [List.take_set, List.drop_set]
    simp only [List.length_cons]
    rw [if_pos (by omega)]
    have ht : (L.take (off + k + 1)).set (off + k) V = L.take (off + k) ++ [V] := by
      rw [List.take_succ_eq_append_getElem hlt, List.set_append_right _ _ (by rw [List.length_take]; omega)]
      have : off + k - (L.take (off + k)).length = 0 := by rw [List.length_take]; omega
      rw [this]; rfl
    rw [ht]
    simp only [List.append_assoc, List.singleton_append]
    congr 2
    congr 1; omega

theorem fill_sound {pl : Nat → Option (Nat × Nat)} : ∀ {ps : List (Nat × SV)} {PS : List (Nat × Value)} {l r : List SV} {L : List Value}, fillD pl l ps = some r → VRL η ρ l L →
    ps.map (·.1) = PS.map (·.1) → VRL η ρ (ps.map (·.2)) (PS.map (·.2)) → ∃ R, Instr.fill pl L.toArray PS = some R ∧ VRL η ρ r R.toList := by
  intro ps
  induction ps with
  | nil =>
    intro PS l r L h hl hi hv
    cases PS with
    | nil => simp only [fillD] at h; cases h; exact ⟨_, rfl, by simpa using hl⟩
    | cons => simp at hi
  | cons q ps ih =>
    intro PS l r L h hl hi hv
    obtain ⟨i, v⟩ := q
    cases PS with
    | nil => simp at hi
    | cons Q PS =>
      obtain ⟨j, V⟩ := Q
      simp only [List.map_cons, List.cons.injEq] at hi
      obtain ⟨hij, hi⟩ := hi
      subst hij
      simp only [List.map_cons] at hv
      cases hv with
      | cons hv hvs =>
        simp only [fillD] at h
        split at h
        · cases h
        · rename_i off n hpl
          split at h
          · cases h
          · cases h
          · rename_i hn hbd
            have hoff : off + n ≤ l.length := ble_t.1 hbd
            split at h
            · cases h
            · rename_i l' hl'
              have hn' := beq_t.1 hn
              have hc := cells_len hv
              have hlen := hl.length
              have hVs : V.cells.size = n := by omega
              have hle : off + V.cells.size ≤ L.length := by omega
              have hlaid := laid_sound hl' hl hv.cells (.inl (by simpa using hle))
              obtain ⟨R, r1, r2⟩ := ih h hlaid hi hvs
              refine ⟨R, ?_, r2⟩
              simp only [Instr.fill, hpl]
              rw [if_neg (by simp; omega)]
              have := set_row V.cells.toList L off 0 (by simpa using hle)
              simp only [Nat.add_zero] at this
              rw [← Array.foldl_toList, Array.toList_zipIdx, this]
              exact r1
end
end Go.Dx

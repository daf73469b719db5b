/-
  Maps, iterators, conversions, literals, new memory.
-/
import Derived.Test.YtlihinmgpfbolaaGreatDoorDOps1
namespace Go.Dx
section
variable {G : Ctx} {P : Program} {η : Env} {ρ : Pls} {s s' : St} {w w' : World}

theorem getObj_ok {r : Nat} {o : Obj} (h : w.heap[r]? = some o) (hc : ∀ c e f, o ≠ .cells c e f) : (getObj r).run P w = .ok o w := by
  unfold getObj
  cases o <;> first | (exact absurd rfl (hc _ _ _)) | simp only [Sem.run, h]
def putO (w : World) (r : Nat) (o : Obj) : World := { w with heap := w.heap.setIfInBounds r o }
theorem setObj_ok {r : Nat} {o o' : Obj} (h : w.heap[r]? = some o) (hc : ∀ c e f, o ≠ .cells c e f) : (setObj r o').run P w = .ok () (putO w r o') := by
  unfold setObj
  cases o <;> first | (exact absurd rfl (hc _ _ _)) | (simp only [Sem.run, h]; rfl)
theorem putO_self {r : Nat} {o o' : Obj} (h : w.heap[r]? = some o) : (putO w r o').heap[r]? = some o' := by
  have hlt := (Array.getElem?_eq_some_iff.1 h).1
  show (w.heap.setIfInBounds r o')[r]? = _
  rw [Array.getElem?_setIfInBounds_self_of_lt hlt]
theorem near_putO (w : World) (r : Nat) (o : Obj) : Near w (putO w r o) r :=
  ⟨by simp [putO], fun c hc => by show (w.heap.setIfInBounds r o)[c]? = _; rw [Array.getElem?_setIfInBounds_ne (Ne.symm hc)], rfl, rfl, rfl⟩

/-! ### Keys -/
theorem keyEq_sound {x y : SV} {X Y : Value} {b : Bool} {d : TypeDesc} (h : keyEq x y = some b) (hx : VR η ρ x X) (hy : VR η ρ y Y) (hd : (∃ k, d = .int k ∧ ∃ n, x = .int .i64 n) ∨ (d = .string ∧ ∃ l, x = .str l)) :
    Instr.sameNow d X Y = some b := by
  unfold keyEq at h
  split at h
  · split at h
    · cases h; cases hx; cases hy
      rcases hd with ⟨k, rfl, _⟩ | ⟨_, l, hl⟩
      · simp only [Instr.sameNow, SI.den, ieq_eq, if_true]
        congr 1
      · cases hl
    · cases h
  · cases h; cases hx; cases hy
    rcases hd with ⟨k, _, n, hn⟩ | ⟨rfl, l, hl⟩
    · cases hn
    · rename_i a b
      simp only [Instr.sameNow]
      rw [leq_str, beq_toListBytes]
  · cases h

def KD (G : Ctx) (t : TypeId) (x : SV) (d : TypeDesc) : Prop := G.desc t = some d ∧ ((∃ k, d = .int k ∧ ∃ n, x = .int .i64 n) ∨ (d = .string ∧ ∃ l, x = .str l))
theorem keyOk_inv {t : TypeId} {k : SV} (h : keyOk G t k = true) : ∃ d, KD G t k d := by
  unfold keyOk at h
  split at h
  · rename_i n hd; exact ⟨_, hd, .inl ⟨_, rfl, _, rfl⟩⟩
  · rename_i l hd; exact ⟨_, hd, .inr ⟨rfl, _, rfl⟩⟩
  · cases h

theorem findD_sound {k : SV} {K : Value} {d : TypeDesc} (hk : VR η ρ k K) (hd : (∃ j, d = .int j ∧ ∃ n, k = .int .i64 n) ∨ (d = .string ∧ ∃ l, k = .str l)) : ∀ {es : List (SV × SV × Nat)} {E : List MapEntry} {i : Nat} {r : Option (Nat × SV)},
    ER η ρ es E → findD k es i = some r → ∃ R, Instr.findNow d K E i = some R ∧ (match r, R with
      | none, none => True
      | some (j, v), some (J, V) => j = J ∧ VR η ρ v V ∧ i ≤ j ∧ ∃ e e', es[j - i]? = some e ∧ E[j - i]? = some e' ∧ Instr.sameNow d K e'.key = some true
      | _, _ => False) := by
  intro es
  induction es with
  | nil => intro E i r he h; cases he; simp only [findD] at h; cases h; exact ⟨none, rfl, trivial⟩
  | cons e es ih =>
    intro E i r he h
    cases he with
    | @cons k' v' b' K' V' _ E' hk' hv' hl =>
      simp only [findD] at h
      cases hq : keyEq k k' with
      | none => rw [hq] at h; cases h
      | some c =>
        rw [hq] at h
        have hs := keyEq_sound hq hk hk' hd
        cases c with
        | true =>
          simp only [] at h; cases h
          refine ⟨some (i, V'), ?_, rfl, hv', Nat.le_refl _, (k', v', b'), ⟨K', V', b'⟩, by simp, by simp, hs⟩
          simp [Instr.findNow, hs]
        | false =>
          simp only [] at h
          obtain ⟨R, h1, h2⟩ := ih hl h
          refine ⟨R, by simp only [Instr.findNow, hs]; exact h1, ?_⟩
          cases r with
          | none => cases R with
            | none => trivial
            | some R => exact h2.elim
          | some jv => cases R with
            | none => exact h2.elim
            | some JV =>
              obtain ⟨g1, g2, g3, e1, e2, g4, g5, g6⟩ := h2
              refine ⟨g1, g2, by omega, e1, e2, ?_, ?_, g6⟩
              · rw [show jv.1 - i = (jv.1 - (i + 1)) + 1 by omega]; simpa using g4
              · rw [show jv.1 - i = (jv.1 - (i + 1)) + 1 by omega]; simpa using g5

variable (hG : GOK G P)
include hG

theorem checkKey_ok {b : Bool} {t : TypeId} {k : SV} {K : Value} {d : TypeDesc} (h : KD G t k d) (hk : VR η ρ k K) : (Instr.checkKey b 10000 t K).run P w = .ok () w := by
  rw [show (10000 : Nat) = 9999 + 1 from rfl, Instr.checkKey]
  simp only [Sem.run_bind, hG.run_underlying h.1, Result.andThen_ok]
  rcases h.2 with ⟨j, rfl, n, rfl⟩ | ⟨rfl, l, rfl⟩
  · cases hk; rfl
  · cases hk; rfl
theorem findKey_ok {t : TypeId} {k : SV} {K : Value} {d : TypeDesc} {E : List MapEntry} {R : Option (Nat × Value)} (h : KD G t k d) (hf : Instr.findNow d K E 0 = some R) : (Instr.findKey t K E).run P w = .ok R w := by
  unfold Instr.findKey
  simp only [Sem.run_bind, hG.run_underlying h.1, Result.andThen_ok, hf]
  rfl

theorem lookup_hit {t kt et : TypeId} {M K : Value} {ok : Bool} {E : Array MapEntry} {R : Nat × Value} (hd : G.desc t = some (.map kt et)) (hM : (M = .map none ∧ E = #[]) ∨ ∃ r clock, M = .map (some r) ∧ w.heap[r]? = some (.map E clock))
    (hc : ∀ b, (Instr.checkKey b 10000 kt K).run P w = .ok () w) (hf : (Instr.findKey kt K E.toList).run P w = .ok (some R) w) :
    (Instr.lookup t M K ok).run P w = .ok (if ok then .tuple #[R.2, .bool true] else R.2) w := by
  unfold Instr.lookup
  rcases hM with ⟨rfl, rfl⟩ | ⟨r, clock, rfl, hr⟩
  · simp only [Sem.run_bind, hG.run_underlying hd, Result.andThen_ok, Sem.run_pure, hc, hf]
  · simp only [Sem.run_bind, hG.run_underlying hd, Result.andThen_ok, getObj_ok hr (fun _ _ _ h => by cases h), Sem.run_pure, hc, hf]
theorem lookup_miss {t kt et : TypeId} {M K Z : Value} {ok : Bool} {E : Array MapEntry} (hd : G.desc t = some (.map kt et)) (hM : (M = .map none ∧ E = #[]) ∨ ∃ r clock, M = .map (some r) ∧ w.heap[r]? = some (.map E clock))
    (hc : ∀ b, (Instr.checkKey b 10000 kt K).run P w = .ok () w) (hf : (Instr.findKey kt K E.toList).run P w = .ok none w) (hz : (zeroValue et).run P w = .ok Z w) :
    (Instr.lookup t M K ok).run P w = .ok (if ok then .tuple #[Z, .bool false] else Z) w := by
  unfold Instr.lookup
  rcases hM with ⟨rfl, rfl⟩ | ⟨r, clock, rfl, hr⟩
  · simp only [Sem.run_bind, hG.run_underlying hd, Result.andThen_ok, Sem.run_pure, hc, hf, hz]
  · simp only [Sem.run_bind, hG.run_underlying hd, Result.andThen_ok, getObj_ok hr (fun _ _ _ h => by cases h), Sem.run_pure, hc, hf, hz]

theorem lookup_sound (hR : Rep η ρ s w) {t : TypeId} {m k v : SV} {M K : Value} {ok : Bool} (h : lookupD G s t m k ok = some v) (hm : VR η ρ m M) (hk : VR η ρ k K) :
    ∃ V, (Instr.lookup t M K ok).run P w = .ok V w ∧ VR η ρ v V := by
  unfold lookupD at h
  split at h
  · rename_i kt et hd
    split at h
    · cases h
    · rename_i hkey
      obtain ⟨d, hkd⟩ := keyOk_inv hkey
      simp only at h
      split at h
      · cases h
      · rename_i es hes
        have hE : ∃ E : Array MapEntry, ER η ρ es E.toList ∧ ((M = .map none ∧ E = #[]) ∨ ∃ r clock, M = .map (some r) ∧ w.heap[r]? = some (.map E clock)) := by
          cases m with
          | nilm => cases hm; cases hes; exact ⟨#[], .nil, .inl ⟨rfl, rfl⟩⟩
          | map b =>
            cases hm with
            | @map _ p hp =>
              simp only at hes
              split at hes
              · rename_i es' clock hb
                cases hes
                obtain ⟨p', hp', E, h1, h2⟩ := hR.obj b _ hb
                rw [hp] at hp'; cases hp'
                exact ⟨E, h2, .inr ⟨_, _, rfl, h1⟩⟩
              · cases hes
          | _ => simp at hes
        obtain ⟨E, hER, hM⟩ := hE
        have hck := fun b => checkKey_ok hG (w := w) (b := b) hkd hk
        split at h
        · cases h
        · rename_i i u hf
          obtain ⟨R, r1, r2⟩ := findD_sound hk hkd.2 hER hf
          cases R with
          | none => exact r2.elim
          | some R =>
            obtain ⟨_, hu, _⟩ := r2
            have hrun := lookup_hit hG (ok := ok) hd hM hck (findKey_ok hG hkd r1)
            split at h
            · cases h; exact ⟨_, hrun, .tup (.cons hu (.cons (.bool _) .nil))⟩
            · cases h; exact ⟨_, hrun, hu⟩
        · rename_i hf
          obtain ⟨R, r1, r2⟩ := findD_sound hk hkd.2 hER hf
          cases R with
          | some R => exact r2.elim
          | none =>
            split at h
            · cases h
            · rename_i z hz
              obtain ⟨Z, hZ, hZr⟩ := hG.run_zero (w := w) (η := η) (ρ := ρ) hz
              have hrun := lookup_miss hG (ok := ok) hd hM hck (findKey_ok hG hkd r1) hZ
              split at h
              · cases h; exact ⟨_, hrun, .tup (.cons hZr (.cons (.bool _) .nil))⟩
              · cases h; exact ⟨_, hrun, hZr⟩
  · cases h

omit hG in
theorem ER.push {es : List (SV × SV × Nat)} {E : List MapEntry} {k v : SV} {K V : Value} {b : Nat} (h : ER η ρ es E) (hk : VR η ρ k K) (hv : VR η ρ v V) : ER η ρ (es ++ [(k, v, b)]) (E ++ [⟨K, V, b⟩]) := by
  induction h with
  | nil => exact .cons hk hv .nil
  | cons a b _ ih => exact .cons a b ih
omit hG in
theorem ER.setVal {v : SV} {V K : Value} (hv : VR η ρ v V) : ∀ {es : List (SV × SV × Nat)} {E : List MapEntry} {i : Nat}, ER η ρ es E → (∀ e, es[i]? = some e → VR η ρ e.1 K) →
    ER η ρ (Dx.setVal v i es) (E.modify i fun e => { e with key := K, val := V }) := by
  intro es
  induction es with
  | nil => intro E i h _; cases h; cases i <;> exact .nil
  | cons e es ih =>
    intro E i h hk
    cases h with
    | cons a b hl =>
      cases i with
      | zero => exact .cons (hk _ (by simp)) hv hl
      | succ i => exact .cons a b (ih hl fun e he => hk e (by simpa using he))

omit hG in
theorem sameNow_key {d : TypeDesc} {k k' : SV} {K K' : Value} (hk : VR η ρ k K) (_hk' : VR η ρ k' K') (hd : (∃ j, d = .int j ∧ ∃ n, k = .int .i64 n) ∨ (d = .string ∧ ∃ l, k = .str l)) (h : Instr.sameNow d K K' = some true) : K = K' ∧ Instr.sameBits 10000 K' K = true := by
  rcases hd with ⟨j, rfl, n, rfl⟩ | ⟨rfl, l, rfl⟩
  · cases hk
    clear _hk'; cases K' <;> simp only [Instr.sameNow] at h <;> try (cases h)
    split at h
    · rename_i he; subst he; simp at h; rw [h]; exact ⟨rfl, by simp [Instr.sameBits]⟩
    · cases h
  · cases hk
    clear _hk'; cases K' <;> simp only [Instr.sameNow] at h <;> try (cases h)
    rename_i a b
    have hab : a = b := by
      have h1 : (a == b) = true := by simpa using h
      rw [beq_toListBytes] at h1
      have h2 : a.toList = b.toList := by simpa using h1
      rw [ByteArray.toList_eq, ByteArray.toList_eq] at h2
      exact bytes_inj (by unfold bytesOfArr; rw [h2])
    subst hab
    refine ⟨rfl, ?_⟩
    show (a == a) = true
    rw [beq_toListBytes]; simp

theorem update_sound (hR : Rep η ρ s w) {t : TypeId} {m k v : SV} {M K V : Value} (h : updateD G s t m k v = some s') (hm : VR η ρ m M) (hk : VR η ρ k K) (hv : VR η ρ v V) :
    ∃ w', (Instr.mapUpdate t M K V).run P w = .ok () w' ∧ Rep η ρ s' w' ∧ Ext ρ s w ρ s' w' := by
  unfold updateD at h
  split at h
  · rename_i kt et hd
    split at h
    · cases h
    · rename_i hkey
      obtain ⟨d, hkd⟩ := keyOk_inv hkey
      split at h
      · rename_i b
        cases hm with
        | @map _ p hp =>
          split at h
          · rename_i es clock hb
            obtain ⟨p', hp', E, h1, h2⟩ := hR.obj b _ hb
            rw [hp] at hp'; cases hp'
            have hck := fun b => checkKey_ok hG (w := w) (b := b) hkd hk
            have hget : (getObj p.b).run P w = .ok (.map E clock) w := getObj_ok h1 (fun _ _ _ h => by cases h)
            split at h
            · cases h
            · rename_i i u hf
              cases h
              obtain ⟨R, r1, r2⟩ := findD_sound hk hkd.2 h2 hf
              cases R with
              | none => exact r2.elim
              | some R =>
                obtain ⟨hi, hu, _, e, e', g1, g2, g3⟩ := r2
                simp only [Nat.sub_zero] at g1 g2
                subst hi
                have hek : VR η ρ e.1 e'.key := by
                  have : ∀ {es : List (SV × SV × Nat)} {E : List MapEntry} {i : Nat}, ER η ρ es E → es[i]? = some e → E[i]? = some e' → VR η ρ e.1 e'.key := by
                    intro es E i h
                    induction h generalizing i with
                    | nil => intro h; simp at h
                    | cons a b _ ih => cases i with
                      | zero => intro x y; simp at x y; subst x y; exact a
                      | succ i => intro x y; exact ih (by simpa using x) (by simpa using y)
                  exact this h2 g1 g2
                obtain ⟨hK, hbits⟩ := sameNow_key hk hek hkd.2 g3
                have hts : (Instr.keyThatStays e'.key K).run P w = .ok K w := by unfold Instr.keyThatStays; simp [hbits]
                have hmod : OR η ρ (.map (setVal v R.1 es) clock) p (putO w p.b (.map (E.modify R.1 fun e => { e with key := K, val := V }) clock)) := by
                  refine ⟨_, putO_self h1, ?_⟩
                  rw [Array.toList_modify]
                  exact ER.setVal hv h2 fun e0 he0 => by rw [g1] at he0; cases he0; rw [hK]; exact hek
                have hN := near_putO w p.b (.map (E.modify R.1 fun e => { e with key := K, val := V }) clock)
                have hT := hR.turn hb hp hN.size hN.other hN.os hN.out hN.tape hmod
                refine ⟨_, ?_, hT.1, hT.2⟩
                unfold Instr.mapUpdate
                have g2' : E[R.1]? = some e' := by simpa using g2
                simp only [Sem.run_bind, hG.run_underlying hd, Result.andThen_ok, hget, hck, findKey_ok hG hkd r1, g2', Option.map_some, Option.getD_some, hts]
                exact setObj_ok h1 (fun _ _ _ h => by cases h)
            · rename_i hf
              cases h
              obtain ⟨R, r1, r2⟩ := findD_sound hk hkd.2 h2 hf
              cases R with
              | some R => exact r2.elim
              | none =>
                have hmod : OR η ρ (.map (es ++ [(k, v, clock)]) (Nat.succ clock)) p (putO w p.b (.map (E.push { key := K, val := V, born := clock }) (clock + 1))) := by
                  refine ⟨_, putO_self h1, ?_⟩
                  rw [Array.toList_push]
                  exact h2.push hk hv
                have hN := near_putO w p.b (.map (E.push { key := K, val := V, born := clock }) (clock + 1))
                have hT := hR.turn hb hp hN.size hN.other hN.os hN.out hN.tape hmod
                refine ⟨_, ?_, hT.1, hT.2⟩
                unfold Instr.mapUpdate
                simp only [Sem.run_bind, hG.run_underlying hd, Result.andThen_ok, hget, hck, findKey_ok hG hkd r1]
                exact setObj_ok h1 (fun _ _ _ h => by cases h)
          · cases h
      · cases h
  · cases h
end
end Go.Dx

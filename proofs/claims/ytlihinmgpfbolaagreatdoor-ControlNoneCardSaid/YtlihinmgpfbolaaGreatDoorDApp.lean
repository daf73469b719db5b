/-
  append: in place, or into new memory whose capacity is drawn.
-/
import Derived.Test.YtlihinmgpfbolaaGreatDoorDSl
namespace Go.Dx

theorem wr_get : ∀ {l : List SV} {t : PM SV} {o k : Nat}, (wr t o l).get k = if o ≤ k ∧ k < o + l.length then l[k - o]? else t.get k := by
  intro l
  induction l with
  | nil => intro t o k; rw [if_neg (by simp)]; rfl
  | cons v l ih =>
    intro t o k
    show (wr (t.set o v) (o + 1) l).get k = _
    rw [ih, PM.get_set]
    by_cases h1 : k = o
    · subst h1
      rw [if_neg (by omega), if_pos rfl, if_pos (by simp)]; simp
    · by_cases h2 : o + 1 ≤ k ∧ k < o + 1 + l.length
      · rw [if_pos h2, if_pos (by simp; omega)]
        rw [show k - o = (k - (o + 1)) + 1 by omega]; simp
      · rw [if_neg h2, if_neg h1, if_neg (by simp at h2 ⊢; omega)]

section
variable {G : Ctx} {P : Program} {η : Env} {ρ : Pls} {s s' : St} {w w' : World}

/-- Storing a row of cells, as the concrete block sees it. -/
theorem store_row {b : Nat} {e : TypeId} {fr : Nat × Nat} : ∀ {L : List Value} {C : Array Value} {off i : Nat} {w : World}, w.heap[b]? = some (.cells C e fr) → (∀ V ∈ L, V.oneCell' = true) →
    off + i + L.length ≤ C.size → (∀ k, off + i ≤ k → k < off + i + L.length → fr.1 ≤ k → k < fr.2 → False) →
    ∃ w' C', (storeCells ⟨b, off, none⟩ L i).run P w = .ok () w' ∧ w'.heap[b]? = some (.cells C' e fr) ∧ C'.size = C.size ∧
      (∀ k, C'[k]? = if off + i ≤ k ∧ k < off + i + L.length then L[k - (off + i)]? else C[k]?) ∧ Near w w' b := by
  intro L
  induction L with
  | nil => intro C off i w h _ _ _; exact ⟨w, C, rfl, h, rfl, fun k => by rw [if_neg (by simp)], .refl _ _⟩
  | cons V L ih =>
    intro C off i w h hc hs hf
    simp only [List.length_cons] at hs hf
    have hlt : off + i < C.size := by omega
    have h1 : (store ⟨b, off + i, none⟩ V).run P w = .ok () (w.setCell ⟨b, off + i, none⟩ V) := by
      rw [run_store P w _ V .plain (hc V (by simp)), cell_of_block h, Array.getElem?_eq_getElem hlt]
      have hfz : w.frozen? ⟨b, off + i, none⟩ = false := by
        simp only [World.frozen?, h]
        cases hd : (decide (fr.1 ≤ off + i) && decide (off + i < fr.2)) with
        | false => rfl
        | true => simp at hd; exact (hf (off + i) (by omega) (by omega) hd.1 hd.2).elim
      simp [hfz]
    obtain ⟨w', C', h2, h3, h4, h5, h6⟩ := ih (C := C.setIfInBounds (off + i) V) (off := off) (i := i + 1) (heap_setCell_self V h) (fun U hU => hc U (by simp [hU])) (by simp; omega) (fun k a b => hf k (by omega) (by omega))
    refine ⟨w', C', ?_, h3, by rw [h4]; simp, fun k => ?_, (near_setCell w _ V).trans h6⟩
    · rw [storeCells]
      simp only [Sem.run_bind, add_plain, h1, Result.andThen_ok]
      exact h2
    · rw [h5 k]
      by_cases e1 : k = off + i
      · rw [if_neg (by omega), e1, Array.getElem?_setIfInBounds_self_of_lt hlt, if_pos (by simp)]; simp
      · by_cases e2 : off + (i + 1) ≤ k ∧ k < off + (i + 1) + L.length
        · rw [if_pos e2, if_pos (by simp; omega), show k - (off + i) = (k - (off + (i + 1))) + 1 by omega]; simp
        · rw [if_neg e2, if_neg (by simp at e2 ⊢; omega), Array.getElem?_setIfInBounds_ne (by omega)]

theorem scs_one {l : List SV} {L : List Value} (hl : VRL η ρ l L) (hs : scs l = true) : ∀ V ∈ L, V.oneCell' = true := by
  induction l generalizing L with
  | nil => cases hl; simp
  | cons v l ih =>
    cases hl with
    | cons hv hl =>
      simp only [scs] at hs
      have hs1 : v.sc = true := by cases hc : v.sc <;> simp [hc] at hs ⊢
      rw [hs1] at hs
      intro V hV
      rcases List.mem_cons.1 hV with rfl | hV
      · exact hv.oneCell hs1
      · exact ih hl hs V hV

theorem VRL.get {l : List SV} {L : List Value} (h : VRL η ρ l L) {i : Nat} {v : SV} (hv : l[i]? = some v) : ∃ V, L[i]? = some V ∧ VR η ρ v V := h.nth (by rw [nth_eq]; exact hv)

theorem Rep.drew (h : Rep η ρ s w) : Rep η ρ s w.drew := by
  refine ⟨fun i o hi => ?_, h.inj, h.fresh, h.dom⟩
  obtain ⟨p, hp, hO⟩ := h.obj i o hi
  exact ⟨p, hp, hO.mono ρ.le_refl rfl⟩
theorem Ext.drew : Ext ρ s w ρ s w.drew :=
  ⟨ρ.le_refl, Nat.le_refl _, Nat.le_refl _, fun _ _ _ => rfl, fun i o p h hp => .inr ⟨i, o, p, h, hp, rfl, fun h => h⟩, rfl, rfl, rfl, fun _ _ => rfl⟩

theorem Rep.del (h : Rep η ρ s w) (b : Nat) : Rep η ρ { heap := s.heap.del b, next := s.next } w ∧ Ext ρ s w ρ { heap := s.heap.del b, next := s.next } w := by
  have hany : ∀ j x, (s.heap.del b).get j = some x → s.heap.get j = some x := fun j x hx => by
    rw [PM.get_del] at hx; split at hx
    · cases hx
    · exact hx
  exact ⟨⟨fun i o hi => h.obj i o (hany i o hi), fun i j a c p q hi hj => h.inj i j a c p q (hany _ _ hi) (hany _ _ hj), h.fresh, h.dom⟩,
    ⟨ρ.le_refl, Nat.le_refl _, Nat.le_refl _, fun _ _ _ => rfl, fun i o p hi hp => .inr ⟨i, o, p, hany _ _ hi, hp, rfl, fun h => h⟩, rfl, rfl, rfl, fun _ _ => rfl⟩⟩

theorem blk_new {l : List SV} {L : List Value} {e e' : TypeId} {opn frz : Bool} {rest : Array Value} (hl : VRL η ρ l L) :
    OR η ρ (.blk l.length (wr .nil 0 l) e opn frz) ⟨w.heap.size, 0, (L.toArray ++ rest).size⟩ (w.alloc (.cells (L.toArray ++ rest) e')) := by
  have hlen := hl.length
  refine ⟨_, e', (0, 0), heap_push_new _ _, rfl, by simp [hlen], fun k v hk hn => ?_, fun _ k _ _ _ h => by simp at h⟩
  rw [wr_get, if_pos ⟨Nat.zero_le _, by omega⟩] at hk
  obtain ⟨V, hV, hr⟩ := hl.get hk
  refine ⟨V, ?_, hr⟩
  simp only [Nat.sub_zero] at hV
  have hlt : k < L.length := by rw [← hlen]; exact hn
  rw [Nat.zero_add, Array.getElem?_append_left (by simpa using hlt)]
  simpa using hV

/-- A new block of cells that read as l (more cells may follow). -/
theorem Rep.newRow (h : Rep η ρ s w) {l : List SV} {L : List Value} (e e' : TypeId) (opn : Bool) (rest : Array Value) (hl : VRL η ρ l L) :
    Rep η (ρ.upd s.next ⟨w.heap.size, 0, (L.toArray ++ rest).size⟩) (s.new (.blk l.length (wr .nil 0 l) e opn false)).2 (w.alloc (.cells (L.toArray ++ rest) e')) ∧
    Ext ρ s w (ρ.upd s.next ⟨w.heap.size, 0, (L.toArray ++ rest).size⟩) (s.new (.blk l.length (wr .nil 0 l) e opn false)).2 (w.alloc (.cells (L.toArray ++ rest) e')) :=
  h.new _ _ _ fun _ hle _ => blk_new (hl.mono hle)

theorem growBy_le (need : Nat) : ∀ (r c : Nat), c ≤ need + (need + 768) / 4 → Builtin.growBy need r c ≤ need + (need + 768) / 4 := by
  intro r
  induction r with
  | zero => intro c h; exact h
  | succ r ih =>
    intro c h
    simp only [Builtin.growBy]
    split
    · exact h
    · exact ih _ (by omega)
theorem nextcap_le {need c : Nat} (h : c < need) : Builtin.nextslicecap need c ≤ 2 * need + 1000 := by
  unfold Builtin.nextslicecap
  split
  · omega
  · split
    · omega
    · have := growBy_le need 4 c (by omega); omega

theorem cut_cap (need c : Nat) (e : TypeId) (t : Nat) : need ≤ Question.cut (.appendCap need c e) t := by
  simp [Question.cut]

theorem zeroCells_size (z : Array Value) (n : Nat) : (Builtin.zeroCells z n).size = n * z.size := by
  unfold Builtin.zeroCells; simp

theorem cells_len {η : Env} {ρ : Pls} {v : SV} {V : Value} (h : VR η ρ v V) : v.cells.length = V.cells.size := by
  have := h.cells.length; simpa using this

variable (hG : GOK G P)
include hG

theorem growOk_inv {e : TypeId} {n z len : Nat} (h : growOk G e n z len = true) : ∃ i zr, (typeInfo e).run P w = .ok i w ∧ (2 * n + 1000) * i.bytes ≤ 281474976710656 ∧ i.bytes ≠ 0 ∧ G.zero e = some zr ∧ zr.cells.length = z ∧ len = n * z := by
  unfold growOk at h
  split at h
  · rename_i by_ zr hb hz
    split at h
    · rename_i c1 c2 c3 c4
      obtain ⟨i, hi, hi2⟩ := hG.run_bytes (w := w) hb
      subst hi2
      exact ⟨i, zr, hi, ble_t.1 c1, beq_f.1 c2, hz, beq_t.1 c3, beq_t.1 c4⟩
    · cases h
  · cases h

/-- What is behind the branch of append that makes memory: from the draw on. -/
theorem grow_run {e : TypeId} {n z need cap : Nat} {old new : Sem (Array Value)} {A B : List Value} {i : TypeInfo} {zr : SV} (hi : ∀ w : World, (typeInfo e).run P w = .ok i w)
    (hbig : (2 * need + 1000) * i.bytes ≤ 281474976710656) (hnz : i.bytes ≠ 0) (hz : G.zero e = some zr) (hzl : zr.cells.length = z) (hcap : cap < need)
    (hold : old.run P w.drew = .ok A.toArray w.drew) (hnew : new.run P w.drew = .ok B.toArray w.drew) (hn : n = need) (base : Option Addr) (x : Value) (sLen size m : Nat) :
    ∃ (nc : Nat) (rest : Array Value), need ≤ nc ∧ rest.size = (nc - need) * z ∧
    (do
      if (need : Int) > IntKind.i64.max ∧ (False ∨ (← typeInfo e).bytes = 0) then runtimePanic (.error "growslice: len out of range")
      if Builtin.nextslicecap need cap * (← typeInfo e).bytes > 2 ^ 48 then (if (false : Bool) = true then runtimePanic (.error "growslice: len out of range") else do
        if !(← Builtin.mayShare size sLen m base x) then mark .noRoom
        unsupported (.resourceLimit "append: a slice or a string whose bytes no memory bears"))
      let newCap ← choose (.appendCap need cap e)
      askRoom (newCap * (← typeInfo e).bytes)
      let o ← old
      let nw ← new
      let rest := Builtin.zeroCells (← zeroValue e).cells (newCap - need)
      pure (.slice (some (← Go.newRow e (o ++ nw ++ rest))) n newCap) : Sem Value).run P w = .ok (.slice (some ⟨w.heap.size, 0, none⟩) n nc) (w.drew.alloc (.cells ((A ++ B).toArray ++ rest) e)) := by
  obtain ⟨Z, hZ, hZr⟩ := hG.run_zero (w := w.drew) (η := Env.zero) (ρ := fun _ => none) hz
  have hzs : Z.cells.size = z := by rw [← cells_len hZr, hzl]
  refine ⟨Question.cut (.appendCap need cap e) (w.tape w.drawn (.appendCap need cap e)), Builtin.zeroCells Z.cells (Question.cut (.appendCap need cap e) (w.tape w.drawn (.appendCap need cap e)) - need), cut_cap _ _ _ _, by rw [zeroCells_size, hzs], ?_⟩
  have h1 : ¬ ((need : Int) > IntKind.i64.max ∧ (False ∨ i.bytes = 0)) := fun h => by
    rcases h.2 with h | h
    · exact h
    · exact hnz h
  have h2 : ¬ (Builtin.nextslicecap need cap * i.bytes > 2 ^ 48) := by
    have := nextcap_le hcap
    have h3 : Builtin.nextslicecap need cap * i.bytes ≤ (2 * need + 1000) * i.bytes := Nat.mul_le_mul_right _ this
    have : (2 : Nat) ^ 48 = 281474976710656 := by decide
    omega
  simp only [Sem.run_bind, hi, Result.andThen_ok]
  rw [if_neg h1]
  simp only [Sem.run_bind, Result.andThen_ok, hi]
  rw [if_neg h2]
  simp only [Sem.run_bind, Sem.run_pure, Result.andThen_ok, hi, run_choose, Question.forced, Bool.false_eq_true, if_false, run_askRoom]
  have hw : ({ w with drawn := w.drawn + 1 } : World) = w.drew := rfl
  rw [hw, hold]
  simp only [Result.andThen_ok, hnew, hZ, hn]
  unfold Go.newRow
  simp only [Sem.run_bind, run_newObj, Result.andThen_ok, Sem.run_pure]
  have : (A.toArray ++ B.toArray) = (A ++ B).toArray := by simp
  rw [this]
  rfl
end
end Go.Dx

/-
  Reading and writing cells: what the evaluator does is what the model does.
-/
import Derived.Test.YtlihinmgpfbolaaGreatDoorDRel
import Derived.Laws.Rows
namespace Go.Dx
section
variable {η : Env} {ρ ρ' : Pls} {s s' : St} {w w' : World} {P : Program}

theorem rd_spec {t : PM SV} : ∀ {n o : Nat} {l : List SV}, rd t o n = some l → l.length = n ∧ ∀ j, j < n → ∃ v, t.get (o + j) = some v ∧ l[j]? = some v := by
  intro n
  induction n with
  | zero => intro o l h; simp only [rd] at h; cases h; exact ⟨rfl, fun j hj => by omega⟩
  | succ n ih =>
    intro o l h
    simp only [rd] at h
    cases hv : t.get o with
    | none => rw [hv] at h; cases h
    | some v =>
      rw [hv] at h; simp only at h
      cases hr : rd t (Nat.succ o) n with
      | none => rw [hr] at h; cases h
      | some r =>
        rw [hr] at h; simp only at h; cases h
        obtain ⟨h1, h2⟩ := ih hr
        refine ⟨by simp [h1], fun j hj => ?_⟩
        cases j with
        | zero => exact ⟨v, hv, rfl⟩
        | succ j =>
          obtain ⟨u, hu, hl⟩ := h2 j (by omega)
          exact ⟨u, by rw [← hu]; congr 1; omega, by simpa using hl⟩

theorem cell_of_block {p b : Nat} {C : Array Value} {e : TypeId} {fr : Nat × Nat} (h : w.heap[b]? = some (.cells C e fr)) : w.cell? ⟨b, p, none⟩ = C[p]? := by
  simp [World.cell?, h]

/-- The cells of a row that reads as l. -/
theorem blk_cells {n m o : Nat} {t : PM SV} {e : TypeId} {opn frz : Bool} {p : Pl} {l : List SV} (h : OR η ρ (.blk m t e opn frz) p w) (hr : rd t o n = some l) (hm : o + n ≤ m) :
    ∃ L : List Value, VRL η ρ l L ∧ L.length = n ∧ ∀ j V, L[j]? = some V → w.cell? ⟨p.b, p.base + o + j, none⟩ = some V := by
  obtain ⟨C, e', fr, h1, h2, h3, h4, h5⟩ := h
  obtain ⟨hl, hg⟩ := rd_spec hr
  clear hr
  induction n generalizing o l with
  | zero =>
    cases l with
    | nil => exact ⟨[], .nil, rfl, fun j V hj => by simp at hj⟩
    | cons => simp at hl
  | succ n ih =>
    cases l with
    | nil => simp at hl
    | cons v l =>
      obtain ⟨v', hv, hv'⟩ := hg 0 (by omega)
      simp at hv'; subst hv'
      obtain ⟨V, hV, hr⟩ := h4 o v (by simpa using hv) (by omega)
      obtain ⟨L, hL, hn, hc⟩ := ih (o := o + 1) (l := l) (by omega) (by simpa using hl) (fun j hj => by
        obtain ⟨u, hu, hu'⟩ := hg (j + 1) (by omega)
        exact ⟨u, by rw [← hu]; congr 1; omega, by simpa using hu'⟩)
      refine ⟨V :: L, .cons hr hL, by simp [hn], fun j W hj => ?_⟩
      cases j with
      | zero => simp at hj; subst hj; rw [cell_of_block h1]; simpa using hV
      | succ j =>
        have := hc j W (by simpa using hj)
        rw [show p.base + o + (j + 1) = p.base + (o + 1) + j by omega]; exact this

theorem add_plain (b o n : Nat) : Addr.add ⟨b, o, none⟩ n = ⟨b, o + n, none⟩ := by
  unfold Addr.add; split
  · rename_i h; subst h; rfl
  · rfl

theorem readD_inv {b o n : Nat} {l : List SV} (h : readD s b o n = some l) : ∃ m t e opn frz, s.heap.get b = some (.blk m t e opn frz) ∧ rd t o n = some l ∧ o + n ≤ m := by
  unfold readD at h
  split at h
  · rename_i m t e opn frz hb
    split at h
    · rename_i hle; exact ⟨m, t, e, opn, frz, hb, h, ble_t.1 hle⟩
    · cases h
  · cases h

theorem read_sound (hR : Rep η ρ s w) {b o n : Nat} {l : List SV} (h : readD s b o n = some l) {p : Pl} (hp : ρ b = some p) :
    ∃ L : List Value, VRL η ρ l L ∧ L.length = n ∧ (∀ j V, L[j]? = some V → w.cell? ⟨p.b, p.base + o + j, none⟩ = some V) ∧
      (loadCells ⟨p.b, p.base + o, none⟩ n).run P w = .ok L.toArray w := by
  obtain ⟨m, t, e, opn, frz, hb, hr, hle⟩ := readD_inv h
  obtain ⟨p', hp', hO⟩ := hR.obj b _ hb
  rw [hp] at hp'; cases hp'
  obtain ⟨L, hL, hn, hc⟩ := blk_cells hO hr hle
  refine ⟨L, hL, hn, hc, ?_⟩
  rw [← hn]
  exact run_loadCells_list _ _ _ fun j v hj => by rw [add_plain]; exact hc j v hj

/-- What a writing into block b leaves. -/
structure Near (w w' : World) (b : Nat) : Prop where
  size : w'.heap.size = w.heap.size
  other : ∀ c, c ≠ b → w'.heap[c]? = w.heap[c]?
  os : w'.os = w.os
  out : w'.output = w.output
  tape : w'.tape = w.tape
theorem Near.refl (w : World) (b : Nat) : Near w w b := ⟨rfl, fun _ _ => rfl, rfl, rfl, rfl⟩
theorem Near.trans {w1 w2 w3 : World} {b : Nat} (h : Near w1 w2 b) (k : Near w2 w3 b) : Near w1 w3 b :=
  ⟨k.size.trans h.size, fun c hc => (k.other c hc).trans (h.other c hc), k.os.trans h.os, k.out.trans h.out, k.tape.trans h.tape⟩
theorem near_setCell (w : World) (a : Addr) (v : Value) : Near w (w.setCell a v) a.block :=
  ⟨by simp, fun c hc => heap_setCell_other w a c v hc, rfl, rfl, rfl⟩

theorem heap_setCell_self {b i : Nat} {C : Array Value} {e : TypeId} {fr : Nat × Nat} (v : Value) (h : w.heap[b]? = some (.cells C e fr)) :
    (w.setCell ⟨b, i, none⟩ v).heap[b]? = some (.cells (C.setIfInBounds i v) e fr) := by
  simp only [World.setCell, Array.getElem?_modify]
  rw [h]; simp

/-- One cell. -/
theorem store_one {m o : Nat} {t : PM SV} {e : TypeId} {opn : Bool} {p : Pl} {v : SV} {V : Value} (h : OR η ρ (.blk m t e opn false) p w) (hv : VR η ρ v V) (hs : v.sc = true) (ho : o < m) :
    (store ⟨p.b, p.base + o, none⟩ V).run P w = .ok () (w.setCell ⟨p.b, p.base + o, none⟩ V) ∧ OR η ρ (.blk m (t.set o v) e opn false) p (w.setCell ⟨p.b, p.base + o, none⟩ V) := by
  obtain ⟨C, e', fr, h1, h2, h3, h4, h5⟩ := h
  have hlt : p.base + o < C.size := by omega
  constructor
  · rw [run_store P w _ V .plain (hv.oneCell hs), cell_of_block h1, Array.getElem?_eq_getElem hlt]
    have hf : w.frozen? ⟨p.b, p.base + o, none⟩ = false := by
      simp only [World.frozen?, h1]
      cases hd : (decide (fr.1 ≤ p.base + o) && decide (p.base + o < fr.2)) with
      | false => rfl
      | true =>
        simp at hd
        exact (h5 rfl (p.base + o) (by omega) (by omega) hd.1 hd.2).elim
    simp [hf]
  · refine ⟨C.setIfInBounds (p.base + o) V, e', fr, heap_setCell_self V h1, by simp [h2], h3, fun k u hu hk => ?_, h5⟩
    rw [PM.get_set] at hu
    by_cases ek : k = o
    · rw [if_pos ek] at hu; cases hu
      exact ⟨V, by rw [ek, Array.getElem?_setIfInBounds_self_of_lt hlt], hv⟩
    · rw [if_neg ek] at hu
      obtain ⟨U, a, b⟩ := h4 k u hu hk
      exact ⟨U, by rw [Array.getElem?_setIfInBounds_ne (by omega)]; exact a, b⟩

theorem store_cells {e : TypeId} {opn : Bool} {p : Pl} {m : Nat} : ∀ {l : List SV} {L : List Value} {t : PM SV} {o i : Nat} {w : World}, OR η ρ (.blk m t e opn false) p w → VRL η ρ l L → scs l = true → o + i + l.length ≤ m →
    ∃ w', (storeCells ⟨p.b, p.base + o, none⟩ L i).run P w = .ok () w' ∧ OR η ρ (.blk m (wr t (o + i) l) e opn false) p w' ∧ Near w w' p.b := by
  intro l
  induction l with
  | nil =>
    intro L t o i w h hl _ _
    cases hl
    exact ⟨w, rfl, h, .refl _ _⟩
  | cons v l ih =>
    intro L t o i w h hl hs hm
    cases hl with
    | cons hv hl =>
      rename_i V L
      simp only [List.length_cons] at hm
      simp only [scs] at hs
      have hs1 : v.sc = true := by cases hc : v.sc <;> simp [hc] at hs ⊢
      have hs2 : scs l = true := by rw [hs1] at hs; exact hs
      obtain ⟨h1, h2⟩ := store_one (P := P) (o := o + i) h hv hs1 (by omega)
      obtain ⟨w', h3, h4, h5⟩ := ih (t := t.set (o + i) v) (o := o) (i := i + 1) h2 hl hs2 (by omega)
      refine ⟨w', ?_, ?_, (near_setCell w _ V).trans h5⟩
      · rw [storeCells]
        simp only [Sem.run_bind, add_plain]
        rw [show p.base + o + i = p.base + (o + i) by omega, h1]
        simpa using h3
      · have : wr t (o + i) (v :: l) = wr (t.set (o + i) v) (o + (i + 1)) l := rfl
        rw [this]; exact h4

theorem writeD_inv {b o : Nat} {l : List SV} (h : writeD s b o l = some s') : ∃ m t e opn, s.heap.get b = some (.blk m t e opn false) ∧ o + l.length ≤ m ∧ scs l = true ∧ s' = { heap := s.heap.set b (.blk m (wr t o l) e opn false), next := s.next } := by
  unfold writeD at h
  split at h
  · rename_i m t e opn hb
    split at h
    · rename_i hle hs; cases h; exact ⟨m, t, e, opn, hb, ble_t.1 hle, hs, rfl⟩
    · cases h
  · cases h

theorem write_sound (hR : Rep η ρ s w) {b o : Nat} {l : List SV} {L : List Value} (h : writeD s b o l = some s') {p : Pl} (hp : ρ b = some p) (hl : VRL η ρ l L) :
    ∃ w', (storeCells ⟨p.b, p.base + o, none⟩ L).run P w = .ok () w' ∧ Rep η ρ s' w' ∧ Ext ρ s w ρ s' w' := by
  obtain ⟨m, t, e, opn, hb, hle, hs, rfl⟩ := writeD_inv h
  obtain ⟨p', hp', hO⟩ := hR.obj b _ hb
  rw [hp] at hp'; cases hp'
  obtain ⟨w', h1, h2, h3⟩ := store_cells (P := P) (o := o) (i := 0) hO hl hs (by omega)
  have hT := hR.turn (o' := .blk m (wr t o l) e opn false) hb hp h3.size h3.other h3.os h3.out h3.tape h2
  exact ⟨w', h1, hT.1, hT.2⟩

end
end Go.Dx

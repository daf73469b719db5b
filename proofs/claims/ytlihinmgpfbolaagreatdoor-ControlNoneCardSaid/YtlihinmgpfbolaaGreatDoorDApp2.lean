import Derived.Test.YtlihinmgpfbolaaGreatDoorDApp
namespace Go.Dx
section
variable {G : Ctx} {P : Program} {η : Env} {ρ : Pls} {s s' : St} {w w' : World}

theorem src_cases {d : TypeDesc} (h : srcKind d = true) : d = .string ∨ ∃ e, d = .slice e := by
  cases d <;> simp [srcKind] at h ⊢
theorem str_cells (b : ByteArray) : VRL η ρ ((bytesOfArr b).map fun n => SV.int .u8 (.c (Int.ofNat n))) ((b.data.map fun c => Value.int .u8 c.toNat).toList) := by
  unfold bytesOfArr
  rw [Array.toList_map, List.map_map]
  generalize b.data.toList = l
  induction l with
  | nil => exact .nil
  | cons c l ih => exact .cons (.int .u8 (.c _)) ih

theorem str_first (b : ByteArray) : ((b.extract 0 b.size).data.map fun c => Value.int .u8 c.toNat) = ((b.data.map fun c => Value.int .u8 c.toNat).toList).toArray := by
  obtain ⟨⟨l⟩⟩ := b; simp
/-- A source of cells. -/
theorem cells_sound (hR : Rep η ρ s w) {z n : Nat} {y : SV} {Y : Value} {l : List SV} (h : cellsOf s z y = some (n, l)) (hy : VR η ρ y Y) :
    ∃ L : List Value, VRL η ρ l L ∧ (Builtin.lenOf Y).run P w = .ok n w ∧ (Builtin.firstCells z n Y).run P w = .ok L.toArray w ∧ (∀ w' : World, w'.heap = w.heap → (Builtin.firstCells z n Y).run P w' = .ok L.toArray w') := by
  unfold cellsOf at h
  split at h
  · cases h; cases hy
    exact ⟨[], .nil, rfl, rfl, fun _ _ => rfl⟩
  · rename_i b o len cp
    split at h
    · rename_i l' hl
      obtain ⟨rfl, rfl⟩ : len = n ∧ l' = l := by simp only [Option.some.injEq, Prod.mk.injEq] at h; exact h
      clear h
      have main : ∀ (p : Pl) (o' c : Nat), ρ b = some p → (0 < len → o' = p.base + o) → ∃ L : List Value, VRL η ρ l' L ∧ (Builtin.lenOf (.slice (some ⟨p.b, o', none⟩) len c)).run P w = .ok len w ∧
          (Builtin.firstCells z len (.slice (some ⟨p.b, o', none⟩) len c)).run P w = .ok L.toArray w ∧ (∀ w' : World, w'.heap = w.heap → (Builtin.firstCells z len (.slice (some ⟨p.b, o', none⟩) len c)).run P w' = .ok L.toArray w') := by
        intro p o' c hp ho
        obtain ⟨L, h1, h2, h3, h4⟩ := read_sound (P := P) hR hl hp
        have all : ∀ w' : World, w'.heap = w.heap → (Builtin.firstCells z len (.slice (some ⟨p.b, o', none⟩) len c)).run P w' = .ok L.toArray w' := by
          intro w' hw
          show (loadCells ⟨p.b, o', none⟩ (len * z)).run P w' = _
          have h2' : L.length = len * z := h2
          rw [← h2']
          refine run_loadCells_list _ _ _ fun j v hj => ?_
          have hlt : j < L.length := by
            rcases Nat.lt_or_ge j L.length with hh | hh
            · exact hh
            · rw [List.getElem?_eq_none hh] at hj; cases hj
          have : 0 < len := by
            rcases Nat.eq_zero_or_pos len with e | e
            · rw [h2', e, Nat.zero_mul] at hlt; omega
            · exact e
          rw [add_plain, ho this]
          have := h3 j v hj
          simpa [World.cell?, hw] using this
        exact ⟨L, h1, rfl, all w rfl, all⟩
      cases hy with
      | @slx _ _ _ c p hp => exact main p _ c hp fun _ => rfl
      | @slp _ _ _ e c o' p hp hc ho hr => exact main p o' c hp fun h0 => ho (by omega)
    · cases h
  · rename_i l'
    cases h
    cases hy with
    | str b =>
      refine ⟨_, str_cells b, ?_, ?_, ?_⟩
      · rw [bytes_length]; rfl
      · rw [bytes_length]
        simp only [Builtin.firstCells, Sem.run_pure, str_first]
      · intro w' _
        rw [bytes_length]
        simp only [Builtin.firstCells, Sem.run_pure, str_first]
  · cases h

theorem cellsOf_zero {z : Nat} {y : SV} {l : List SV} (h : cellsOf s z y = some (0, l)) : l = [] := by
  unfold cellsOf at h
  split at h
  · cases h; rfl
  · split at h
    · rename_i l' hl
      simp only [Option.some.injEq, Prod.mk.injEq] at h
      obtain ⟨h1, h2⟩ := h
      subst h1 h2
      obtain ⟨_, _, _, _, _, _, hr, _⟩ := readD_inv hl
      have := (rd_spec hr).1
      simp only [Nat.mul_eq, Nat.zero_mul] at this
      exact List.length_eq_zero_iff.1 this
    · cases h
  · simp only [Option.some.injEq, Prod.mk.injEq] at h
    obtain ⟨h1, h2⟩ := h
    rw [List.length_eq_zero_iff.1 h1] at h2
    exact h2.symm
  · cases h

/-- A block's name is given up, and a new one takes its place (a window of it). -/
theorem Rep.move (h : Rep η ρ s w) {b : Nat} {ob o' : AObj} {p : Pl} (hb : s.heap.get b = some ob) (hp : ρ b = some p) (base' cs' : Nat) (hw : Near w w' p.b)
    (ho : ∀ ρ', ρ.le ρ' → OR η ρ' o' ⟨p.b, base', cs'⟩ w') (hwr : ob.wrt = true := by rfl) :
    Rep η (ρ.upd s.next ⟨p.b, base', cs'⟩) { heap := (s.heap.del b).set s.next o', next := Nat.succ s.next } w' ∧
    Ext ρ s w (ρ.upd s.next ⟨p.b, base', cs'⟩) { heap := (s.heap.del b).set s.next o', next := Nat.succ s.next } w' := by
  have hn : ρ s.next = none := h.fresh _ (Nat.le_refl _)
  have hle : ρ.le (ρ.upd s.next ⟨p.b, base', cs'⟩) := Pls.le_upd hn
  have hget : ∀ i, ((s.heap.del b).set s.next o').get i = if i = s.next then some o' else if i = b then none else s.heap.get i := fun i => by rw [PM.get_set, PM.get_del]
  have hold : ∀ i o, i ≠ s.next → ((s.heap.del b).set s.next o').get i = some o → i ≠ b ∧ s.heap.get i = some o := fun i o e hi => by
    rw [hget, if_neg e] at hi
    split at hi
    · cases hi
    · rename_i e2; exact ⟨e2, hi⟩
  refine ⟨⟨?_, ?_, ?_, ?_⟩, ⟨hle, Nat.le_succ _, by rw [hw.size]; exact Nat.le_refl _, ?_, ?_, hw.os, hw.out, hw.tape, fun i hi => Pls.upd_ne _ _ (Nat.ne_of_lt hi)⟩⟩
  · intro i o hi
    by_cases e : i = s.next
    · rw [hget, if_pos e] at hi; cases hi
      exact ⟨_, by rw [e]; exact Pls.upd_self _ _ _, ho _ hle⟩
    · obtain ⟨e2, hi⟩ := hold i o e hi
      obtain ⟨q, hq, hO⟩ := h.obj i o hi
      exact ⟨q, hle _ _ hq, hO.mono hle (hw.other _ fun e' => e2 (h.inj i b o ob q p hi hb hq hp e'))⟩
  · intro i j x y q r hi hj hq hr e
    by_cases ei : i = s.next
    · by_cases ej : j = s.next
      · rw [ei, ej]
      · obtain ⟨e2, hj⟩ := hold j y ej hj
        rw [ei, Pls.upd_self] at hq; cases hq
        rw [Pls.upd_ne _ _ ej] at hr
        exact absurd (h.inj b j ob y p r hb hj hp hr e) (Ne.symm e2)
    · obtain ⟨e1, hi⟩ := hold i x ei hi
      rw [Pls.upd_ne _ _ ei] at hq
      by_cases ej : j = s.next
      · rw [ej, Pls.upd_self] at hr; cases hr
        exact absurd (h.inj i b x ob q p hi hb hq hp e) e1
      · obtain ⟨e2, hj⟩ := hold j y ej hj
        rw [Pls.upd_ne _ _ ej] at hr
        exact h.inj i j x y q r hi hj hq hr e
  · intro i hi
    have hi' : s.next + 1 ≤ i := hi
    rw [Pls.upd_ne _ _ (by omega)]; exact h.fresh i (by omega)
  · intro i q hq
    rw [hw.size]
    by_cases e : i = s.next
    · rw [e, Pls.upd_self] at hq; cases hq; exact h.dom b p hp
    · rw [Pls.upd_ne _ _ e] at hq; exact h.dom i q hq
  · intro c hc hno; exact hw.other c (fun e => hno b ob p hb hp hwr e.symm)
  · intro i o q hi hq
    by_cases e : i = s.next
    · rw [e, Pls.upd_self] at hq; cases hq; exact .inr ⟨b, ob, p, hb, hp, rfl, fun _ => hwr⟩
    · obtain ⟨_, hi⟩ := hold i o e hi
      rw [Pls.upd_ne _ _ e] at hq; exact .inr ⟨i, o, q, hi, hq, rfl, fun h => h⟩

theorem blk_of {l : List SV} {L : List Value} {M : Nat} {T : PM SV} {e e' : TypeId} {opn frz : Bool} {rest : Array Value} (hl : VRL η ρ l L) (hM : M = l.length) (hT : ∀ k v, k < M → T.get k = some v → l[k]? = some v) :
    OR η ρ (.blk M T e opn frz) ⟨w.heap.size, 0, (L.toArray ++ rest).size⟩ (w.alloc (.cells (L.toArray ++ rest) e')) := by
  have hlen := hl.length
  refine ⟨_, e', (0, 0), heap_push_new _ _, rfl, by simp; omega, fun k v hk hn => ?_, fun _ k _ _ _ h => by simp at h⟩
  obtain ⟨V, hV, hr⟩ := hl.get (hT k v hn hk)
  refine ⟨V, ?_, hr⟩
  have hlt : k < L.length := by omega
  rw [Nat.zero_add, Array.getElem?_append_left (by simpa using hlt)]
  simpa using hV

variable (hG : GOK G P)
include hG
theorem append_fits_run {st xt e ty : TypeId} {r : List TypeId} {r' : List Value} {xd : TypeDesc} {z n sLen sCap : Nat} {base : Option Addr} {Y : Value} {N : List Value} (hd1 : G.desc st = some (.slice e)) (hd2 : G.desc xt = some xd)
    (hni : srcKind xd = true) (hz : G.size e = some z) (hlen : (Builtin.lenOf Y).run P w = .ok n w) (hcell : (Builtin.firstCells z n Y).run P w = .ok N.toArray w) (hfit : sLen + n ≤ sCap) :
    (Builtin.append_ ⟨st :: xt :: r⟩ ty ⟨.slice base sLen sCap :: Y :: r'⟩).run P w = (match base with
      | some a => ((storeCells (a.add (sLen * z)) N).run P w).andThen fun _ w' => .ok (.slice base (sLen + n) sCap) w'
      | none => .ok (.slice none (sLen + n) sCap) w) := by
  have h1 := fun w => hG.run_underlying (w := w) hd1
  have h2 := fun w => hG.run_underlying (w := w) hd2
  have h3 := fun w => hG.run_sizeOf (w := w) hz
  rcases src_cases hni with rfl | ⟨e', rfl⟩
  · cases base <;> simp [Builtin.append_, h1, h2, h3, hlen, hfit, hcell]
  · cases base <;> simp [Builtin.append_, h1, h2, h3, hlen, hfit, hcell]

theorem append_grow_run {st xt e ty : TypeId} {r : List TypeId} {r' : List Value} {xd : TypeDesc} {z n sLen sCap : Nat} {base : Option Addr} {Y : Value} {O N : List Value} (hd1 : G.desc st = some (.slice e)) (hd2 : G.desc xt = some xd)
    (hni : srcKind xd = true) (hz : G.size e = some z) (hlen : (Builtin.lenOf Y).run P w = .ok n w) (hgrow : sCap < sLen + n) {len : Nat} (hok : growOk G e (sLen + n) z len = true)
    (hold : (Builtin.firstCells z sLen (.slice base sLen sCap)).run P w.drew = .ok O.toArray w.drew) (hnew : (Builtin.firstCells z n Y).run P w.drew = .ok N.toArray w.drew) :
    ∃ (nc : Nat) (rest : Array Value), sLen + n ≤ nc ∧ rest.size = (nc - (sLen + n)) * z ∧
      (Builtin.append_ ⟨st :: xt :: r⟩ ty ⟨.slice base sLen sCap :: Y :: r'⟩).run P w = .ok (.slice (some ⟨w.heap.size, 0, none⟩) (sLen + n) nc) (w.drew.alloc (.cells ((O ++ N).toArray ++ rest) e)) := by
  have h1 := fun w => hG.run_underlying (w := w) hd1
  have h2 := fun w => hG.run_underlying (w := w) hd2
  have h3 := fun w => hG.run_sizeOf (w := w) hz
  obtain ⟨i, zr, hi, hbig, hnz, hzr, hzl, _⟩ := growOk_inv (w := w) hG hok
  have hi' : ∀ w : World, (typeInfo e).run P w = .ok i w := fun w' => by
    obtain ⟨i', zr', hi2, _⟩ := growOk_inv (w := w') hG hok
    have : i' = i := by
      unfold typeInfo at hi hi2
      cases hq : P.info? e with
      | none => simp [hq] at hi
      | some j => simp [hq] at hi hi2; rw [← hi, ← hi2]
    rw [hi2, this]
  obtain ⟨Z, hZ, hZr⟩ := hG.run_zero (w := w.drew) (η := Env.zero) (ρ := fun _ => none) hzr
  have hzs : Z.cells.size = z := by rw [← cells_len hZr, hzl]
  have hn : ¬ (sLen + n ≤ sCap) := by omega
  have hb2 : ¬ (281474976710656 < Builtin.nextslicecap (sLen + n) sCap * i.bytes) := by
    have h3 : Builtin.nextslicecap (sLen + n) sCap * i.bytes ≤ (2 * (sLen + n) + 1000) * i.bytes := Nat.mul_le_mul_right _ (nextcap_le hgrow)
    omega
  refine ⟨Question.cut (.appendCap (sLen + n) sCap e) (w.tape w.drawn (.appendCap (sLen + n) sCap e)), Builtin.zeroCells Z.cells (Question.cut (.appendCap (sLen + n) sCap e) (w.tape w.drawn (.appendCap (sLen + n) sCap e)) - (sLen + n)), cut_cap _ _ _ _, by rw [zeroCells_size, hzs], ?_⟩
  rcases src_cases hni with rfl | ⟨e', rfl⟩
  · simp [Builtin.append_, h1, h2, h3, hlen, hn, hi', hnz, hb2, Question.forced, hold, hnew, hZ, newRow]
    rw [← List.append_toArray, Array.append_assoc]
  · simp [Builtin.append_, h1, h2, h3, hlen, hn, hi', hnz, hb2, Question.forced, hold, hnew, hZ, newRow]
    rw [← List.append_toArray, Array.append_assoc]
theorem appendSp_sound (hR : Rep η ρ s w) {st xt e ty : TypeId} {r : List TypeId} {r' : List Value} {xd : TypeDesc} {z n b o len c o' : Nat} {p : Pl} {y v : SV} {Y : Value} {new : List SV} (hd1 : G.desc st = some (.slice e)) (hd2 : G.desc xt = some xd)
    (hni : srcKind xd = true) (hz : G.size e = some z) (hc : cellsOf s z y = some (n, new)) (hy : VR η ρ y Y) (hn0 : n ≠ 0)
    (hp : ρ b = some p) (hlc : len ≤ c) (ho : 0 < c → o' = p.base + o) (hr : o' + c * z ≤ p.cs) (h : appendSp G s e b o len n z new = .val v s') :
    ∃ V w' ρ', (Builtin.append_ ⟨st :: xt :: r⟩ ty ⟨.slice (some ⟨p.b, o', none⟩) len c :: Y :: r'⟩).run P w = .ok V w' ∧ VR η ρ' v V ∧ Rep η ρ' s' w' ∧ Ext ρ s w ρ' s' w' := by
  obtain ⟨N, hN, hlen, hcell, hcell'⟩ := cells_sound (P := P) hR hc hy
  unfold appendSp at h
  split at h
  · rename_i m t e' hb
    split at h
    · rename_i q1 q2
      split at h
      · cases h
      · rename_i old hold
        split at h
        · cases h
        · rename_i hok
          obtain ⟨p', hp', hO⟩ := hR.obj b _ hb
          rw [hp] at hp'; cases hp'
          have q1' : o + len * z = m := beq_t.1 q1
          have hold' : rd t o (len * z) = some old := hold
          obtain ⟨hol, hog⟩ := rd_spec hold'
          obtain ⟨OL, o1, o2, o3⟩ := blk_cells hO hold' (by omega)
          obtain ⟨_, _, _, _, _, _, _, hl⟩ := growOk_inv (w := w) hG hok
          simp only [Nat.add_eq] at hl hok
          have hNl := hN.length
          have hmul : (len + n) * z = len * z + n * z := Nat.add_mul _ _ _
          -- the block behind it, whichever way
          have key : ∃ M T, v = .sl s.next 0 (len + n) (.sp z) ∧ s' = { heap := (s.heap.del b).set s.next (.blk M T e' true false), next := Nat.succ s.next } ∧ M = (old ++ new).length ∧
              ∀ k u, k < M → T.get k = some u → (old ++ new)[k]? = some u := by
            split at h
            · rename_i h0
              have h0' := beq_t.1 h0
              subst h0'
              cases h
              refine ⟨_, _, rfl, rfl, by simp; omega, fun k u hk hu => ?_⟩
              rw [wr_get] at hu
              simp only [Nat.add_eq] at hk
              by_cases hkm : m ≤ k
              · rw [if_pos ⟨hkm, hk⟩] at hu
                rw [List.getElem?_append_right (by omega), ← hu]; congr 1; omega
              · rw [if_neg (by omega)] at hu
                rw [List.getElem?_append_left (by omega)]
                obtain ⟨u', hu1, hu2⟩ := hog k (by omega)
                rw [Nat.zero_add] at hu1; rw [hu1] at hu; rw [hu2, ← hu]
            · cases h
              refine ⟨_, _, rfl, rfl, by simp, fun k u hk hu => ?_⟩
              rw [wr_get, if_pos ⟨Nat.zero_le _, by simpa using hk⟩] at hu
              simpa using hu
          obtain ⟨M, T, rfl, rfl, hM, hT⟩ := key
          have hON := o1.append hN
          by_cases hfit : len + n ≤ c
          · -- in place
            have ho' : o' = p.base + o := ho (by omega)
            subst ho'
            obtain ⟨C, ce, fr, c1, c2, c3, c4, c5⟩ := hO
            have hcz : (len + n) * z ≤ c * z := Nat.mul_le_mul_right _ hfit
            obtain ⟨w', C', s1, s2, s3, s4, s5⟩ := store_row (P := P) (off := p.base + o + len * z) (i := 0) c1 (scs_one hN q2) (by omega) (fun k a b => c5 rfl k (by omega) (by omega))
            have hmv := hR.move (w' := w') (o' := .blk M T e' true false) hb hp (p.base + o) p.cs s5 (fun ρ' hle => ⟨C', ce, fr, s2, by rw [s3]; exact c2, by simp only [hM, List.length_append]; omega, fun k u hu hk => by
              have hku := hT k u hk hu
              simp only [hM, List.length_append] at hk
              show ∃ V, C'[p.base + o + k]? = some V ∧ _
              by_cases hkl : k < old.length
              · rw [List.getElem?_append_left hkl] at hku
                obtain ⟨u', hu1, hu2⟩ := hog k (by omega)
                rw [hu2] at hku
                have e0 := Option.some.inj hku
                subst e0
                obtain ⟨V, v1, v2⟩ := c4 (o + k) _ hu1 (by omega)
                refine ⟨V, ?_, v2.mono hle⟩
                rw [s4, if_neg (by omega), ← v1]; congr 1; omega
              · rw [List.getElem?_append_right (by omega)] at hku
                obtain ⟨V, v1, v2⟩ := hN.get hku
                refine ⟨V, ?_, v2.mono hle⟩
                rw [s4, if_pos (by omega), ← v1]; congr 1; omega, fun _ k (h1 : p.base + o ≤ k) (h2 : k < p.cs) h3 h4 => c5 rfl k (by omega) h2 h3 h4⟩)
            refine ⟨.slice (some ⟨p.b, p.base + o, none⟩) (len + n) c, w', _, ?_, ?_, hmv.1, hmv.2⟩
            · rw [append_fits_run hG hd1 hd2 hni hz hlen hcell hfit]
              simp only [add_plain, s1]
              rfl
            · refine .slp (p := ⟨p.b, p.base + o, p.cs⟩) (Pls.upd_self _ _ _) hfit (fun _ => rfl) hr
          · -- new memory
            have hOl : (Builtin.firstCells z len (.slice (some ⟨p.b, o', none⟩) len c)).run P w.drew = .ok OL.toArray w.drew := by
              show (loadCells ⟨p.b, o', none⟩ (len * z)).run P w.drew = _
              rw [← o2]
              refine run_loadCells_list _ _ _ fun j u hj => ?_
              have hlt : j < OL.length := by
                rcases Nat.lt_or_ge j OL.length with hh | hh
                · exact hh
                · rw [List.getElem?_eq_none hh] at hj; cases hj
              have h0 : 0 < len := by
                rcases Nat.eq_zero_or_pos len with e | e
                · rw [o2, e, Nat.zero_mul] at hlt; omega
                · exact e
              rw [add_plain, ho (by omega)]
              exact o3 j u hj
            obtain ⟨nc, rest, g1, g2, g3⟩ := append_grow_run hG hd1 hd2 hni hz hlen (by omega) hok hOl (hcell' w.drew rfl) (r := r) (r' := r') (ty := ty)
            have hD := hR.drew.del b
            have hNew := hD.1.new (.blk M T e' true false) (.cells ((OL ++ N).toArray ++ rest) e) ((OL ++ N).toArray ++ rest).size (fun ρ' hle _ => blk_of (hON.mono hle) hM hT)
            refine ⟨_, _, _, g3, ?_, hNew.1, (Ext.drew.trans hD.2).trans hNew.2⟩
            refine .slp (p := ⟨w.heap.size, 0, ((OL ++ N).toArray ++ rest).size⟩) (Pls.upd_self _ _ _) g1 (fun _ => rfl) ?_
            have hNl2 := hON.length
            simp only [Array.size_append, List.size_toArray, g2]
            rw [← hNl2, List.length_append, hl, Nat.sub_mul]
            have : (len + n) * z ≤ nc * z := Nat.mul_le_mul_right _ g1
            omega
    · cases h
  · cases h
theorem append_sound (hR : Rep η ρ s w) {ts : Array TypeId} {ty : TypeId} {args : List SV} {A : Array Value} {v : SV} (h : appendD G s ts.toList args = .val v s') (hA : VRL η ρ args A.toList) :
    ∃ V w' ρ', (Builtin.append_ ts ty A).run P w = .ok V w' ∧ VR η ρ' v V ∧ Rep η ρ' s' w' ∧ Ext ρ s w ρ' s' w' := by
  unfold appendD at h
  split at h
  · rename_i st xt _ x y _ hts
    obtain ⟨ts⟩ := ts
    simp only at hts
    subst hts
    obtain ⟨A⟩ := A
    cases hA with
    | @cons _ X _ _ hx hA =>
      cases hA with
      | @cons _ Y _ _ hy hA =>
        clear hA
        split at h
        · rename_i e xd hd1 hd2
          split at h
          · cases h
          · rename_i hnint
            split at h
            · cases h
            · rename_i z hz
              split at h
              · cases h
              · rename_i n new hc
                obtain ⟨N, hN, hlen, hcell, hcell'⟩ := cells_sound (P := P) hR hc hy
                have hN' := hcell' w.drew rfl
                split at h
                · -- nil
                  cases hx
                  split at h
                  · rename_i hn0
                    cases h
                    have hn0' := beq_t.1 hn0
                    subst hn0'
                    refine ⟨_, w, ρ, append_fits_run hG hd1 hd2 hnint hz hlen hcell (by omega), .nils, hR, .refl⟩
                  · rename_i hn0
                    have hn0' := beq_f.1 hn0
                    unfold grown at h
                    split at h
                    · rename_i hok
                      cases h
                      obtain ⟨nc, rest, g1, g2, g3⟩ := append_grow_run (O := []) hG hd1 hd2 hnint hz hlen (by omega) (r := _) (r' := _) (sLen := 0) (sCap := 0) (base := none) (by rw [Nat.zero_add]; exact hok) (by simp [Builtin.firstCells]) hN' (ty := ty)
                      rw [Nat.zero_add] at g1 g2 g3
                      rw [List.nil_append] at g3
                      have hR' := hR.drew.newRow e e true rest hN
                      refine ⟨_, _, _, g3, ?_, hR'.1, Ext.drew.trans hR'.2⟩
                      refine .slp (p := ⟨w.heap.size, 0, (N.toArray ++ rest).size⟩) (Pls.upd_self _ _ _) g1 (fun _ => rfl) ?_
                      obtain ⟨_, _, _, _, _, _, _, hl⟩ := growOk_inv (w := w) hG hok
                      have hNl := hN.length
                      simp only [Array.size_append, List.size_toArray, g2]
                      rw [← hNl, hl, Nat.sub_mul]
                      have : n * z ≤ nc * z := Nat.mul_le_mul_right _ g1
                      omega
                    · cases h
                · -- the capacity is known
                  rename_i b o len c
                  cases hx with
                  | @slx _ _ _ _ p hp =>
                    split at h
                    · rename_i hle
                      have hle' := ble_t.1 hle
                      split at h
                      · rename_i s1 hw
                        cases h
                        obtain ⟨w', q1, q2, q3⟩ := write_sound (P := P) hR hw hp hN
                        refine ⟨_, w', ρ, ?_, .slx hp, q2, q3⟩
                        rw [append_fits_run hG hd1 hd2 hnint hz hlen hcell hle']
                        simp only [add_plain]
                        rw [show p.base + o + len * z = p.base + (o.add (len.mul z)) from by simp only [Nat.add_eq, Nat.mul_eq]; omega, q1]
                        rfl
                      · cases h
                    · rename_i hle
                      have hle' := ble_f.1 hle
                      split at h
                      · rename_i old hold
                        unfold grown at h
                        split at h
                        · rename_i hok
                          cases h
                          obtain ⟨O, o1, o2, o3, o4⟩ := read_sound (P := P) hR hold hp
                          have hO : (Builtin.firstCells z len (.slice (some ⟨p.b, p.base + o, none⟩) len c)).run P w.drew = .ok O.toArray w.drew := by
                            show (loadCells ⟨p.b, p.base + o, none⟩ (len * z)).run P w.drew = _
                            have o2' : O.length = len * z := o2
                            rw [← o2']
                            exact run_loadCells_list _ _ _ fun j v hj => by rw [add_plain]; exact o3 j v hj
                          obtain ⟨nc, rest, g1, g2, g3⟩ := append_grow_run hG hd1 hd2 hnint hz hlen hle' hok hO hN' (r := _) (r' := _) (ty := ty)
                          have hON := o1.append hN
                          have hR' := hR.drew.newRow e e true rest hON
                          refine ⟨_, _, _, g3, ?_, hR'.1, Ext.drew.trans hR'.2⟩
                          refine .slp (p := ⟨w.heap.size, 0, ((O ++ N).toArray ++ rest).size⟩) (Pls.upd_self _ _ _) g1 (fun _ => rfl) ?_
                          obtain ⟨_, _, _, _, _, _, _, hl⟩ := growOk_inv (w := w) hG hok
                          have hNl := hON.length
                          simp only [Array.size_append, List.size_toArray, g2]
                          rw [← hNl, hl, Nat.sub_mul]
                          have : (len + n) * z ≤ nc * z := Nat.mul_le_mul_right _ g1
                          simp only [Nat.add_eq] at *
                          omega
                        · cases h
                      · cases h
                · -- it is not
                  rename_i b o len z'
                  cases hx with
                  | @slp _ _ _ _ c o' p hp hlc ho hr =>
                    split at h
                    · rename_i hn0
                      cases h
                      have hn0' := beq_t.1 hn0
                      subst hn0'
                      have hnew := cellsOf_zero hc
                      subst hnew
                      cases hN
                      refine ⟨_, w, ρ, ?_, .slp hp hlc ho hr, hR, .refl⟩
                      rw [append_fits_run hG hd1 hd2 hnint hz hlen hcell (by omega)]
                      rfl
                    · rename_i hn0
                      split at h
                      · rename_i hzz
                        have hzz' := beq_t.1 hzz
                        subst hzz'
                        exact appendSp_sound hG hR hd1 hd2 hnint hz hc hy (beq_f.1 hn0) hp hlc ho hr h
                      · cases h
                · cases h
        · cases h
  · cases h
end
end Go.Dx

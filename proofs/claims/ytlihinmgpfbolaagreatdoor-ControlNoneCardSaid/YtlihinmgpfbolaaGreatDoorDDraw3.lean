/-
  A region whose order is open: what is known of the run in the text's order.
-/
import Derived.Test.YtlihinmgpfbolaaGreatDoorDDraw2
namespace Go.Dx

structure Txt (rec : Rec) (G : Ctx) (nt : Nat) (all : List Oper) (bf : List Nat) (dT : Nat → Drawn) (a0 : PM SV) (s0 : St) (nx0 : Nat) : Prop where
  t0 : dT 0 = { a := a0, s := s0, pend := [], ts := [s0], ents := [], next := nx0 }
  step : ∀ j o, all[j]? = some o → StepIs rec G nt all bf o j (dT j) (dT (j + 1))

def cA : List Ent → Nat
  | [] => 0
  | e :: es => match isAnc e with
    | true => Nat.succ (cA es)
    | false => cA es
theorem cA_append : ∀ (l m : List Ent), cA (l ++ m) = cA l + cA m
  | [], m => by simp [cA]
  | e :: l, m => by
    simp only [List.cons_append, cA]
    split
    · rw [cA_append l m]; simp only [Nat.succ_eq_add_one]; omega
    · exact cA_append l m

theorem putD_ne {nt : Nat} {a : PM SV} {dst : Option Tmp} {v : SV} {x : Nat} (h : dst ≠ some x) : (putD nt a dst v).get x = a.get x := by
  cases dst with
  | none => rfl
  | some d =>
    simp only [putD]
    split
    · rw [PM.get_set, if_neg]; intro e; exact h (by rw [e])
    · rfl

theorem countA_cons (o : Oper) (os : List Oper) : countA os ≤ countA (o :: os) := by
  simp only [countA]; split <;> simp
theorem layBy_sub {G : Ctx} {sel : Nat → Bool} : ∀ {l : List (Nat × Nat × AK)} {s : St} {p : List (Nat × Nat × AK)} {u : St}, layBy G sel l s = some (p, u) → ∀ x ∈ p, x ∈ l ∧ sel x.1 = false := by
  intro l
  induction l with
  | nil => intro s p u h x hx; simp only [layBy] at h; cases h; cases hx
  | cons e l ih =>
    intro s p u h x hx
    obtain ⟨k, id, t⟩ := e
    simp only [layBy] at h
    split at h
    · split at h
      · exact ⟨List.mem_cons_of_mem _ (ih h x hx).1, (ih h x hx).2⟩
      · cases h
    · rename_i hsel
      split at h
      · rename_i r s' hr; cases h
        rcases List.mem_cons.1 hx with rfl | hx
        · exact ⟨List.mem_cons_self, hsel⟩
        · exact ⟨List.mem_cons_of_mem _ (ih hr x hx).1, (ih hr x hx).2⟩
      · cases h

section
variable {rec : Rec} {G : Ctx} {nt : Nat} {all : List Oper} {bf : List Nat} {dT : Nat → Drawn} {a0 : PM SV} {s0 : St} {nx0 : Nat}

theorem StepIs.a_of {o : Oper} {i : Nat} {d d' : Drawn} (h : StepIs rec G nt all bf o i d d') : ∃ v, d'.a = putD nt d.a o.dst v := by
  cases h <;> exact ⟨_, rfl⟩
theorem StepIs.ents_of {o : Oper} {i : Nat} {d d' : Drawn} (h : StepIs rec G nt all bf o i d d') : ∃ e, d'.ents = d.ents ++ [e] := by
  cases h <;> exact ⟨_, rfl⟩

variable (hT : Txt rec G nt all bf dT a0 s0 nx0)
include hT

theorem Txt.ind {p : Nat → Prop} (i : Nat) (h0 : p i) (h : ∀ j o, i ≤ j → all[j]? = some o → StepIs rec G nt all bf o j (dT j) (dT (j + 1)) → p j → p (j + 1)) : ∀ j, i ≤ j → j ≤ all.length → p j := by
  intro j hj hN
  obtain ⟨k, rfl⟩ := Nat.exists_eq_add_of_le hj
  clear hj
  induction k with
  | zero => exact h0
  | succ k ih =>
    have hlt : i + k < all.length := by omega
    exact h (i + k) all[i + k] (by omega) (List.getElem?_eq_getElem hlt) (hT.step _ _ (List.getElem?_eq_getElem hlt)) (ih (by omega))

theorem Txt.slot {x i : Nat} : ∀ j, i ≤ j → j ≤ all.length → (∀ k o, i ≤ k → k < j → all[k]? = some o → o.dst ≠ some x) → (dT j).a.get x = (dT i).a.get x := by
  refine hT.ind i (fun _ => rfl) fun j o hij ho hs ih h => ?_
  obtain ⟨v, hv⟩ := hs.a_of
  rw [hv, putD_ne (h j o hij (by omega) ho)]
  exact ih fun k o' h1 h2 h3 => h k o' h1 (by omega) h3

theorem Txt.len : ∀ j, j ≤ all.length → (dT j).ents.length = j := fun j hj => by
  refine hT.ind (p := fun j => (dT j).ents.length = j) 0 (by rw [hT.t0]; rfl) (fun j o _ _ hs ih => ?_) j (Nat.zero_le _) hj
  obtain ⟨e, he⟩ := hs.ents_of
  simp only [he, List.length_append, ih, List.length_singleton]
theorem Txt.take {i : Nat} : ∀ j, i ≤ j → j ≤ all.length → (dT i).ents = (dT j).ents.take i := by
  intro j hij hj
  have hi := hT.len i (by omega)
  refine hT.ind (p := fun j => (dT i).ents = (dT j).ents.take i) i ?_ (fun j o h1 h2 hs ih => ?_) j hij hj
  · exact (List.take_of_length_le (by omega)).symm
  · obtain ⟨e, he⟩ := hs.ents_of
    have hjl := hT.len j (by have := (List.getElem?_eq_some_iff.1 h2).1; omega)
    rw [he, List.take_append_of_le_length (by omega)]; exact ih
theorem Txt.entAt {i : Nat} {e : Ent} (hi : i < all.length) (he : (dT (i + 1)).ents = (dT i).ents ++ [e]) : nth (dT all.length).ents i = some e := by
  have h1 := hT.take (i := i + 1) all.length (by omega) (Nat.le_refl _)
  have hl := hT.len i (by omega)
  have h2 : ((dT (i + 1)).ents)[i]? = some e := by
    rw [he, List.getElem?_append_right (by omega), hl, Nat.sub_self]; rfl
  rw [h1, List.getElem?_take, if_pos (by omega)] at h2
  rw [nth_eq]; exact h2

theorem Txt.tsAt : ∀ i, i ≤ all.length → nth (dT all.length).ts (cA ((dT all.length).ents.take i)) = some (dT i).s := by
  have h1 : ∀ j, 0 ≤ j → j ≤ all.length → (dT j).ts.length = cA (dT j).ents + 1 ∧ nth (dT j).ts (cA (dT j).ents) = some (dT j).s := by
    refine hT.ind 0 ?_ fun j o _ _ hs ih => ?_
    · rw [hT.t0]; exact ⟨rfl, rfl⟩
    · obtain ⟨h1, h2⟩ := ih
      generalize dT (j + 1) = d' at hs
      cases hs with
      | anchor hw ht ha m hm p u hl v s' he =>
        simp only [cA_append, List.length_append, List.length_singleton]
        refine ⟨by rw [h1]; rfl, ?_⟩
        rw [nth_eq, show cA [Ent.anc v] = 1 from rfl, ← h1]; simp
      | skip => simp only [cA_append]; exact ⟨h1, h2⟩
      | alloc => simp only [cA_append]; exact ⟨h1, h2⟩
      | float => simp only [cA_append]; exact ⟨h1, h2⟩
  have h2 : ∀ i j, i ≤ j → j ≤ all.length → ∃ r, (dT j).ts = (dT i).ts ++ r := by
    intro i
    refine hT.ind i ⟨[], by simp⟩ fun j o _ _ hs ih => ?_
    obtain ⟨r, hr⟩ := ih
    generalize dT (j + 1) = d' at hs
    cases hs <;> first | exact ⟨r, hr⟩ | skip
    exact ⟨r ++ [_], by rw [hr, List.append_assoc]⟩
  intro i hi
  obtain ⟨r, hr⟩ := h2 i all.length hi (Nat.le_refl _)
  obtain ⟨h3, h4⟩ := h1 i (Nat.zero_le _) hi
  rw [← hT.take all.length hi (Nat.le_refl _), hr, nth_eq, List.getElem?_append_left (by omega), ← nth_eq]
  exact h4

theorem Txt.calm {q : Nat} : ∀ j, q ≤ j → j ≤ all.length → (∀ k v, q ≤ k → k < j → nth (dT all.length).ents k ≠ some (.anc v)) → (dT j).s = (dT q).s := by
  refine hT.ind q (fun _ => rfl) fun j o hij ho hs ih h => ?_
  rw [← ih fun k v h1 h2 => h k v h1 (by omega)]
  have hlt := (List.getElem?_eq_some_iff.1 ho).1
  have hE := fun e => hT.entAt (i := j) (e := e) hlt
  generalize dT (j + 1) = d' at hs hE
  cases hs <;> first | rfl | skip
  exact absurd (hE _ rfl) (h j _ hij (by omega))

theorem Txt.pendBack {q : Nat} {x : Nat × Nat × AK} : ∀ j, q ≤ j → j ≤ all.length → x ∈ (dT j).pend → q ≤ x.1 ∨ x ∈ (dT q).pend := by
  refine hT.ind q (fun h => .inr h) fun j o hij _ hs ih h => ?_
  generalize dT (j + 1) = d' at hs h
  cases hs with
  | skip => exact ih h
  | alloc hw t ht z hz =>
    rcases List.mem_append.1 h with h | h
    · exact ih h
    · rw [List.mem_singleton] at h; rw [h]; exact .inl hij
  | float => exact ih h
  | anchor hw ht ha m hm p u hl v s' he => exact ih (layBy_sub hl x h).1

theorem Txt.pendOk {x : Nat × Nat × AK} : ∀ j, j ≤ all.length → x ∈ (dT j).pend → x.1 < j ∧ nth (dT all.length).ents x.1 = some (.alc x.2.1) ∧ ∃ o, all[x.1]? = some o ∧ allocOp o.op = some x.2.2 := by
  intro j hj hx
  revert hx
  have : ∀ j, 0 ≤ j → j ≤ all.length → x ∈ (dT j).pend → x.1 < j ∧ nth (dT all.length).ents x.1 = some (.alc x.2.1) ∧ ∃ o, all[x.1]? = some o ∧ allocOp o.op = some x.2.2 := by
    refine hT.ind 0 (by rw [hT.t0]; intro h; cases h) fun j o _ ho hs ih h => ?_
    have hjl := (List.getElem?_eq_some_iff.1 ho).1
    have hE := fun e => hT.entAt (i := j) (e := e) hjl
    have hb := hT.pendBack (q := j) (x := x) (j + 1) (by omega) (by omega) h
    generalize dT (j + 1) = d' at hs hE h
    cases hs with
    | alloc hw t ht z hz =>
      rcases List.mem_append.1 h with h | h
      · have := ih h; exact ⟨by omega, this.2⟩
      · rw [List.mem_singleton] at h; subst h
        exact ⟨by show j < j + 1; omega, hE _ rfl, o, ho, ht⟩
    | skip => have := ih h; exact ⟨by omega, this.2⟩
    | float => have := ih h; exact ⟨by omega, this.2⟩
    | anchor hw ht ha m hm p u hl v s' he =>
      rcases hb with hb | hb
      · exfalso
        have := (ih (layBy_sub hl x h).1).1
        omega
      · have := ih hb; exact ⟨by omega, this.2⟩
  exact this j (Nat.zero_le _) hj

theorem Txt.idAt {k id : Nat} (hk : nth (dT all.length).ents k = some (.alc id)) : k < all.length ∧ id = (dT k).next ∧ (dT (k + 1)).next = id + 1 := by
  have hlt : k < all.length := by
    rw [nth_eq] at hk
    have := (List.getElem?_eq_some_iff.1 hk).1
    rwa [hT.len all.length (Nat.le_refl _)] at this
  refine ⟨hlt, ?_⟩
  have hs := hT.step k _ (List.getElem?_eq_getElem hlt)
  have hE := fun e => hT.entAt (i := k) (e := e) hlt
  generalize dT (k + 1) = d' at hs hE
  cases hs with
  | alloc hw t ht z hz =>
    have := hE _ rfl
    rw [hk] at this; cases this
    exact ⟨rfl, rfl⟩
  | skip => have := hE _ rfl; rw [hk] at this; cases this
  | float => have := hE _ rfl; rw [hk] at this; cases this
  | anchor => have := hE _ rfl; rw [hk] at this; cases this
theorem Txt.nextMono {i : Nat} : ∀ j, i ≤ j → j ≤ all.length → (dT i).next ≤ (dT j).next := by
  refine hT.ind i (Nat.le_refl _) fun j o _ _ hs ih => ?_
  generalize dT (j + 1) = d' at hs
  cases hs <;> first | exact ih | exact Nat.le_succ_of_le ih
theorem Txt.nextMax : ∀ j, 0 ≤ j → j ≤ all.length → (dT j).next + countA (all.drop j) ≤ nx0 + countA all := by
  refine hT.ind 0 ?_ fun j o _ ho hs ih => ?_
  · rw [hT.t0]; exact Nat.le_refl _
  · have hd : all.drop j = o :: all.drop (j + 1) := by
      obtain ⟨hlt, e⟩ := List.getElem?_eq_some_iff.1 ho
      rw [List.drop_eq_getElem_cons hlt, e]
    rw [hd] at ih
    have hc := countA_cons o (all.drop (j + 1))
    generalize dT (j + 1) = d' at hs
    cases hs with
    | alloc hw t ht z hz =>
      simp only [countA, ht] at ih
      simp only [Nat.succ_eq_add_one] at ih ⊢
      omega
    | skip => simp only; omega
    | float => simp only; omega
    | anchor => simp only; omega
theorem Txt.idLt {k id : Nat} (hk : nth (dT all.length).ents k = some (.alc id)) : nx0 ≤ id ∧ id < nx0 + countA all := by
  obtain ⟨h1, h2, h3⟩ := hT.idAt hk
  have h4 := hT.nextMono (i := 0) k (Nat.zero_le _) (by omega)
  rw [hT.t0] at h4
  have h5 := hT.nextMax (k + 1) (Nat.zero_le _) (by omega)
  simp only at h4
  omega
theorem Txt.idInj {k id k' id' : Nat} (hk : nth (dT all.length).ents k = some (.alc id)) (hk' : nth (dT all.length).ents k' = some (.alc id')) (h : id = id') : k = k' := by
  obtain ⟨a1, a2, a3⟩ := hT.idAt hk
  obtain ⟨b1, b2, b3⟩ := hT.idAt hk'
  rcases Nat.lt_trichotomy k k' with hlt | he | hlt
  · have := hT.nextMono (i := k + 1) k' (by omega) (by omega); omega
  · exact he
  · have := hT.nextMono (i := k' + 1) k (by omega) (by omega); omega
end

/-! ### How many anchors came before -/
theorem lo_le {m : Nat} : ∀ (es : List Ent) (k q : Nat), (∀ j v, nth es j = some (.anc v) → isIn m (k + j) = true → k + j < q) → loOf m es k ≤ cA (es.take (q - k))
  | [], k, q, _ => by simp [loOf]
  | e :: es, k, q, h => by
    have ih := lo_le es (k + 1) q fun j v hj hm => by
      have := h (j + 1) v hj (by rw [show k + (j + 1) = k + 1 + j by omega]; exact hm)
      omega
    simp only [loOf]
    by_cases hq : k < q
    · rw [show q - k = (q - (k + 1)) + 1 by omega, List.take_succ_cons]
      simp only [cA]
      split
      · rename_i h1 h2; rw [h1]; exact Nat.succ_le_succ ih
      · split
        · exact Nat.le_succ_of_le ih
        · exact ih
    · split
      · rename_i h1 h2
        exfalso
        cases e with
        | anc v => exact hq (h 0 v rfl h2)
        | _ => cases h1
      · rw [show q - k = 0 by omega]
        rw [show q - (k + 1) = 0 by omega] at ih
        exact ih
theorem le_hi {i : Nat} : ∀ (es : List Ent) (ms : List Nat) (q : Nat), es.length = ms.length → (∀ j v m, j < q → nth es j = some (.anc v) → nth ms j = some m → isIn m i = false) → cA (es.take q) ≤ hiOf i es ms
  | [], _, q, _, _ => by simp [cA]
  | e :: es, [], q, hl, _ => by simp at hl
  | e :: es, m :: ms, 0, _, _ => by simp [cA]
  | e :: es, m :: ms, q + 1, hl, h => by
    have ih := le_hi es ms q (by simpa using hl) fun j v m' hj h1 h2 => h (j + 1) v m' (by omega) h1 h2
    rw [List.take_succ_cons]
    simp only [cA, hiOf]
    split
    · rename_i h1
      rw [h1]
      cases e with
      | anc v => rw [h 0 v m (by omega) rfl rfl]; exact Nat.succ_le_succ ih
      | _ => cases h1
    · rename_i h1
      rw [h1]; exact ih

theorem same_at {G : Ctx} {a : PM SV} {op : Op} {v : SV} : ∀ (ts : List St), sameAt G a op v ts = true → ∀ (j : Nat) t, nth ts j = some t → ∃ s1, execD G a t op = .val v s1
  | [], _, j, t, h => by simp [nth] at h
  | t0 :: ts, h, j, t, hj => by
    simp only [sameAt] at h
    split at h
    · rename_i u s1 hu
      split at h
      · rename_i hb
        cases j with
        | zero => simp only [nth] at hj; cases hj; rw [bV_eq hb] at hu; exact ⟨s1, hu⟩
        | succ j => exact same_at ts h j t hj
      · cases h
    · cases h
theorem same_window {G : Ctx} {a : PM SV} {op : Op} {v : SV} {ts : List St} {lo hi c : Nat} {t : St} (h : sameAt G a op v (ltake (Nat.succ (Nat.sub hi lo)) (ldrop lo ts)) = true) (h1 : lo ≤ c) (h2 : c ≤ hi) (ht : nth ts c = some t) : ∃ s1, execD G a t op = .val v s1 := by
  refine same_at _ h (c - lo) t ?_
  rw [ltake_eq, ldrop_eq, nth_eq, List.getElem?_take, if_pos (by simp only [Nat.succ_eq_add_one, Nat.sub_eq]; omega), List.getElem?_drop, show lo + (c - lo) = c by omega, ← nth_eq]
  exact ht
theorem pass2_at {G : Ctx} {ts : List St} {ents : List Ent} {bf : List Nat} : ∀ (os : List Oper) (es : List Ent) (ms : List Nat) (i : Nat), pass2 G ts ents bf os es ms i = true → ∀ j o v a m, os[j]? = some o → nth es j = some (.flt v a) → nth ms j = some m → pureOp o.op = false →
    loOf m ents 0 = hiOf (i + j) ents bf ∨ sameAt G a o.op v (ltake (Nat.succ (Nat.sub (hiOf (i + j) ents bf) (loOf m ents 0))) (ldrop (loOf m ents 0) ts)) = true
  | [], _, _, _, _, j, o, v, a, m, h, _, _, _ => by simp at h
  | o :: os, [], _, _, _, j, o', v, a, m, _, h, _, _ => by simp [nth] at h
  | o :: os, e :: es, [], _, _, j, o', v, a, m, _, _, h, _ => by simp [nth] at h
  | o :: os, e :: es, m0 :: ms, i, h, j, o', v, a, m, ho, he, hm, hp => by
    have hrest : pass2 G ts ents bf os es ms (Nat.succ i) = true := by
      unfold pass2 at h
      split at h
      · rename_i v' a'
        split at h
        · exact h
        · simp only at h
          split at h
          · exact h
          · split at h
            · exact h
            · cases h
      · exact h
    cases j with
    | zero =>
      simp at ho; subst ho
      simp only [nth] at he hm; cases he; cases hm
      unfold pass2 at h
      simp only [hp] at h
      split at h
      · rename_i hb; exact .inl (beq_t.1 hb)
      · split at h
        · rename_i hs; exact .inr hs
        · cases h
    | succ j =>
      have := pass2_at os es ms (Nat.succ i) hrest j o' v a m (by simpa using ho) he hm hp
      rw [show i + (j + 1) = Nat.succ i + j by simp only [Nat.succ_eq_add_one]; omega]; exact this
end Go.Dx

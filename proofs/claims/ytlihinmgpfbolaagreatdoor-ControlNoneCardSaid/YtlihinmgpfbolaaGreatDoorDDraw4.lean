/-
  A region whose order is open: whatever is taken next, the run in the text's order tells what it does.
-/
import Derived.Test.YtlihinmgpfbolaaGreatDoorDDraw3
namespace Go.Dx
section
variable {G : Ctx} {P : Program} {η : Env}

/-- A new variable that no block of the state's is yet. -/
def Blank (G : Ctx) (η : Env) (ρ : Pls) (w : World) (id : Nat) (t : AK) (lo : Nat) : Prop :=
  ∃ p z, ρ id = some p ∧ akObj G t = some z ∧ OR η ρ z p w ∧ lo ≤ p.b
def Unown (ρ : Pls) (s : St) (id : Nat) : Prop := ∀ i o p q, s.heap.get i = some o → ρ i = some p → ρ id = some q → p.b ≠ q.b

theorem Rep.lay {ρ : Pls} {s : St} {w : World} (h : Rep η ρ s w) {id : Nat} {p : Pl} {o : AObj} (hp : ρ id = some p) (hO : OR η ρ o p w) (hu : ∀ i o' q, i ≠ id → s.heap.get i = some o' → ρ i = some q → q.b ≠ p.b) :
    Rep η ρ { heap := s.heap.set id o, next := s.next } w := by
  have hget : ∀ j, (s.heap.set id o).get j = if j = id then some o else s.heap.get j := fun j => PM.get_set _ _ _ _
  refine ⟨fun i x hx => ?_, fun i j x y q r hi hj hq hr e => ?_, h.fresh, h.dom⟩
  · rw [hget] at hx
    by_cases e : i = id
    · rw [if_pos e] at hx; cases hx; exact ⟨p, by rw [e]; exact hp, hO⟩
    · rw [if_neg e] at hx; exact h.obj i x hx
  · rw [hget] at hi hj
    by_cases ei : i = id
    · by_cases ej : j = id
      · rw [ei, ej]
      · rw [if_neg ej] at hj
        rw [ei, hp] at hq; cases hq
        exact absurd e.symm (hu j y r ej hj hr)
    · rw [if_neg ei] at hi
      by_cases ej : j = id
      · rw [ej, hp] at hr; cases hr
        exact absurd e (hu i x q ei hi hq)
      · rw [if_neg ej] at hj
        exact h.inj i j x y q r hi hj hq hr e
theorem Ext.lay {ρ0 ρ : Pls} {s0 s : St} {w0 w : World} (h : Ext ρ0 s0 w0 ρ s w) {id : Nat} {p : Pl} {o : AObj} (hp : ρ id = some p) (hlo : w0.heap.size ≤ p.b) : Ext ρ0 s0 w0 ρ { heap := s.heap.set id o, next := s.next } w := by
  refine ⟨h.le, h.next, h.size, h.frame, fun i x q hi hq => ?_, h.os, h.out, h.tape, h.old⟩
  have hi' : (s.heap.set id o).get i = some x := hi
  rw [PM.get_set] at hi'
  by_cases e : i = id
  · rw [e, hp] at hq; cases hq; exact .inl hlo
  · rw [if_neg e] at hi'; exact h.own i x q hi' hq

theorem lay_ok {ρ0 ρ : Pls} {s0 : St} {w0 w : World} {sel : Nat → Bool} : ∀ (l : List (Nat × Nat × AK)) (s : St) (r : List (Nat × Nat × AK)) (u : St), layBy G sel l s = some (r, u) → Rep η ρ s w → Ext ρ0 s0 w0 ρ s w →
    (∀ x ∈ l, sel x.1 = true → Blank G η ρ w x.2.1 x.2.2 w0.heap.size ∧ ∀ i o p q, i ≠ x.2.1 → s.heap.get i = some o → ρ i = some p → ρ x.2.1 = some q → p.b ≠ q.b) →
    (∀ x ∈ l, ∀ y ∈ l, sel x.1 = true → sel y.1 = true → x.2.1 ≠ y.2.1 → ∀ p q, ρ x.2.1 = some p → ρ y.2.1 = some q → p.b ≠ q.b) →
    Rep η ρ u w ∧ Ext ρ0 s0 w0 ρ u w ∧ u.next = s.next ∧ ∀ i o, u.heap.get i = some o → (∃ o', s.heap.get i = some o') ∨ ∃ x ∈ l, sel x.1 = true ∧ x.2.1 = i
  | [], s, r, u, h, hR, hE, _, _ => by
    simp only [layBy] at h; cases h
    exact ⟨hR, hE, rfl, fun i o h => .inl ⟨o, h⟩⟩
  | (k, id, t) :: l, s, r, u, h, hR, hE, hB, hD => by
    simp only [layBy] at h
    split at h
    · rename_i hs
      split at h
      · rename_i z hz hnone
        obtain ⟨⟨p, z', b1, b2, b3, b4⟩, b5⟩ := hB _ List.mem_cons_self hs
        rw [hz] at b2; cases b2
        have hR' := hR.lay b1 b3 fun i o' q hi ho hq => b5 i o' q p hi ho hq b1
        have hE' := hE.lay (o := z) b1 b4
        obtain ⟨c1, c2, c3, c4⟩ := lay_ok l _ r u h hR' hE' (fun x hx hsx => by
          obtain ⟨d1, d2⟩ := hB x (List.mem_cons_of_mem _ hx) hsx
          refine ⟨d1, fun i o p' q' hi ho hp' hq' => ?_⟩
          have ho' : (s.heap.set id z).get i = some o := ho
          rw [PM.get_set] at ho'
          by_cases e : i = id
          · rw [e] at hp' hi
            exact hD _ List.mem_cons_self x (List.mem_cons_of_mem _ hx) hs hsx hi p' q' hp' hq'
          · rw [if_neg e] at ho'; exact d2 i o p' q' hi ho' hp' hq') (fun x hx y hy => hD x (List.mem_cons_of_mem _ hx) y (List.mem_cons_of_mem _ hy))
        refine ⟨c1, c2, c3, fun i o hi => ?_⟩
        rcases c4 i o hi with ⟨o', ho'⟩ | ⟨x, hx, h1, h2⟩
        · have ho'' : (s.heap.set id z).get i = some o' := ho'
          rw [PM.get_set] at ho''
          by_cases e : i = id
          · exact .inr ⟨_, List.mem_cons_self, hs, e.symm⟩
          · rw [if_neg e] at ho''; exact .inl ⟨o', ho''⟩
        · exact .inr ⟨x, List.mem_cons_of_mem _ hx, h1, h2⟩
      · cases h
    · split at h
      · rename_i r' s' hr; cases h
        obtain ⟨c1, c2, c3, c4⟩ := lay_ok l _ r' u hr hR hE (fun x hx => hB x (List.mem_cons_of_mem _ hx)) (fun x hx y hy => hD x (List.mem_cons_of_mem _ hx) y (List.mem_cons_of_mem _ hy))
        exact ⟨c1, c2, c3, fun i o hi => (c4 i o hi).imp (fun h => h) fun ⟨x, hx, hh⟩ => ⟨x, List.mem_cons_of_mem _ hx, hh⟩⟩
      · cases h

theorem blank_keep {ρ ρ' : Pls} {s s' : St} {w w' : World} {id : Nat} {t : AK} {lo : Nat} (hR : Rep η ρ s w) (hE : Ext ρ s w ρ' s' w') (hB : Blank G η ρ w id t lo) (hU : Unown ρ s id) : Blank G η ρ' w' id t lo ∧ Unown ρ' s' id := by
  obtain ⟨p, z, b1, b2, b3, b4⟩ := hB
  have hd := hR.dom _ _ b1
  have hfr := hE.frame p.b hd fun i o q hi hq _ => hU i o q p hi hq b1
  refine ⟨⟨p, z, hE.le _ _ b1, b2, b3.mono hE.le hfr, b4⟩, fun i o p1 q hi hp1 hq => ?_⟩
  rw [hE.le _ _ b1] at hq; cases hq
  rcases hE.own i o p1 hi hp1 with h | ⟨j, o', q', hj, hq', e, _⟩
  · omega
  · rw [← e]; exact hU j o' q' p hj hq' b1

/-! ### Slots -/
noncomputable def restr (a : PM SV) : List Tmp → PM SV
  | [] => .nil
  | x :: xs => match a.get x with
    | some v => (restr a xs).set x v
    | none => restr a xs
theorem restr_get {a : PM SV} {x : Tmp} : ∀ {l : List Tmp}, x ∈ l → (restr a l).get x = a.get x
  | [], h => by cases h
  | y :: l, h => by
    simp only [restr]
    by_cases e : x = y
    · subst e
      cases hy : a.get x with
      | some v => simp only [PM.get_set, if_pos]
      | none =>
        simp only
        by_cases hm : x ∈ l
        · rw [restr_get hm, hy]
        · have : ∀ {l : List Tmp}, x ∉ l → (restr a l).get x = none := by
            intro l
            induction l with
            | nil => intro _; rfl
            | cons z l ih =>
              intro hn
              simp only [restr]
              cases a.get z with
              | some v => simp only [PM.get_set]; rw [if_neg fun e => hn (by rw [e]; exact List.mem_cons_self)]; exact ih fun h => hn (List.mem_cons_of_mem _ h)
              | none => exact ih fun h => hn (List.mem_cons_of_mem _ h)
          exact this hm
    · have hm : x ∈ l := (List.mem_cons.1 h).resolve_left e
      cases a.get y with
      | some v => simp only [PM.get_set, if_neg e]; exact restr_get hm
      | none => exact restr_get hm
theorem restr_sub {a : PM SV} {x : Tmp} {v : SV} : ∀ {l : List Tmp}, (restr a l).get x = some v → x ∈ l ∧ a.get x = some v
  | [], h => by cases h
  | y :: l, h => by
    have hx : x ∈ y :: l := by
      simp only [restr] at h
      by_cases e : x = y
      · rw [e]; exact List.mem_cons_self
      · cases hy : a.get y with
        | some u => rw [hy] at h; simp only [PM.get_set, if_neg e] at h; exact List.mem_cons_of_mem _ (restr_sub h).1
        | none => rw [hy] at h; exact List.mem_cons_of_mem _ (restr_sub h).1
    exact ⟨hx, by rw [← restr_get hx]; exact h⟩

theorem ev_restr {a a' : PM SV} {all : List Oper} {o : Oper} (h : ∀ x, x ∈ looks all o → a'.get x = a.get x) : ∀ x, x ∈ o.op.operands.toList → ev G a' x = ev G a x := by
  intro x hx
  cases x with
  | tmp t => exact h t (List.mem_append_left _ (List.mem_filterMap.2 ⟨.tmp t, hx, rfl⟩))
  | const c => rfl
  | global g => rfl
  | func f => rfl
theorem wanted_restr {a a' : PM SV} {all : List Oper} {o : Oper} (h : ∀ x, x ∈ looks all o → a'.get x = a.get x) : wantedD all a' o.guard = wantedD all a o.guard := by
  have hg : ∀ x, x ∈ guardTmp all o → a'.get x = a.get x := fun x hx => h x (List.mem_append_right _ hx)
  unfold guardTmp at hg
  unfold wantedD
  cases hgd : o.guard with
  | none => rfl
  | some jw =>
    obtain ⟨j, b⟩ := jw
    rw [hgd] at hg
    simp only at hg ⊢
    cases hj : nth all j with
    | none => rfl
    | some g =>
      rw [hj] at hg
      simp only at hg ⊢
      cases hd : g.dst with
      | none => rfl
      | some d =>
        rw [hd] at hg
        simp only
        rw [hg d (by simp)]
end
end Go.Dx

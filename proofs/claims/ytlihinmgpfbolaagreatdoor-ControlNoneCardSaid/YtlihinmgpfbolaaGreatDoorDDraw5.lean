/-
  A region whose order is open: the invariant.
-/
import Derived.Test.YtlihinmgpfbolaaGreatDoorDDraw4
namespace Go.Dx
section
variable {G : Ctx} {P : Program} {η : Env} {rec : Rec} {nt : Nat} {all : List Oper} {dT : Nat → Drawn} {a0 : PM SV} {s0 : St} {ρ0 : Pls} {si : St} {w0 : World}

def NL (dT : Nat → Drawn) (q k : Nat) : Prop := q ≤ k ∨ ∃ x ∈ (dT q).pend, x.1 = k

/-- Memory, when the operations in L are done. -/
structure MemI (G : Ctx) (η : Env) (all : List Oper) (dT : Nat → Drawn) (s0 : St) (ρ0 : Pls) (si : St) (w0 : World) (L : Nat → Prop) (q : Nat) (ρ : Pls) (w : World) : Prop where
  cut0 : q ≤ all.length
  cut1 : ∀ k v, k < q → nth (dT all.length).ents k = some (.anc v) → L k
  cut2 : ∀ k v, q ≤ k → nth (dT all.length).ents k = some (.anc v) → ¬ L k
  rep : Rep η ρ (dT q).s w
  nx : s0.next ≤ (dT q).s.next
  ext : Ext ρ0 si w0 ρ (dT q).s w
  early : ∀ k id o t, L k → nth (dT all.length).ents k = some (.alc id) → all[k]? = some o → allocOp o.op = some t → NL dT q k → Blank G η ρ w id t w0.heap.size ∧ Unown ρ (dT q).s id
  unr : ∀ k id, ¬ L k → nth (dT all.length).ents k = some (.alc id) → ρ id = none
  dist : ∀ k id k' id', k ≠ k' → L k → L k' → nth (dT all.length).ents k = some (.alc id) → nth (dT all.length).ents k' = some (.alc id') → NL dT q k → NL dT q k' → ∀ p p', ρ id = some p → ρ id' = some p' → p.b ≠ p'.b

/-- The slots, when the operations in L are done. -/
def aX (all : List Oper) (dT : Nat → Drawn) (a0 : PM SV) (L : Nat → Prop) (x : Nat) (v : SV) : Prop :=
  (∃ k o, L k ∧ all[k]? = some o ∧ o.dst = some x ∧ (dT all.length).a.get x = some v) ∨ ((∀ k o, L k → all[k]? = some o → o.dst ≠ some x) ∧ a0.get x = some v)
def SlotI (η : Env) (nt : Nat) (all : List Oper) (dT : Nat → Drawn) (a0 : PM SV) (L : Nat → Prop) (ρ : Pls) (A : Array Value) : Prop :=
  A.size = nt ∧ ∀ x v, aX all dT a0 L x v → ∃ V, A[x]? = some V ∧ VR η ρ v V

def Down (all : List Oper) (L : Nat → Prop) : Prop := ∀ k m l, L k → nth (befores all []) k = some m → isIn m l = true → L l

variable (hT : Txt rec G nt all (befores all []) dT a0 s0 si.next)
include hT

theorem SlotI.look (hsl : slotsOk all (befores all []) = true) (hed : edgesOk all = true) {L : Nat → Prop} (hL : Down all L) {ρ : Pls} {A : Array Value} (h : SlotI η nt all dT a0 L ρ A) {i m : Nat} {o : Oper} (ho : all[i]? = some o) (hm : nth (befores all []) i = some m)
    (hi : ¬ L i) (hr : ∀ l, isIn m l = true → L l) : TR η ρ nt (restr (dT i).a (looks all o)) A := by
  have hiN := (List.getElem?_eq_some_iff.1 ho).1
  refine ⟨h.1, fun x v hx => ?_⟩
  obtain ⟨hlk, hv⟩ := restr_sub hx
  refine h.2 x v ?_
  by_cases hw : ∃ (k : Nat) (p : Oper), all[k]? = some p ∧ p.dst = some x
  · obtain ⟨k, p, hk, hp⟩ := hw
    have huniq : ∀ k' p', all[k']? = some p' → p'.dst = some x → k' = k := fun k' p' h1 h2 => (slots_spec hsl h1 hk hp).2 h2
    have right : ¬ L k → i ≤ k → aX all dT a0 L x v := by
      intro hnL hik
      refine .inr ⟨fun k' p' h1 h2 h3 => hnL (by rw [← huniq k' p' h2 h3]; exact h1), ?_⟩
      have := hT.slot (x := x) (i := 0) i (Nat.zero_le _) (by omega) fun k' p' _ h1 h2 h3 => by
        have := huniq k' p' h2 h3; omega
      rw [hT.t0] at this
      rw [← this]; exact hv
    rcases (slots_spec hsl ho hk hp).1 hlk with h1 | ⟨m', h1, h2⟩ | ⟨m', h1, h2⟩
    · exact right (by rw [← h1]; exact hi) (by omega)
    · rw [hm] at h1; cases h1
      have hki := bf_lt hed i m k hm h2
      refine .inl ⟨k, p, hr k h2, hk, hp, ?_⟩
      rw [hT.slot (x := x) (i := i) all.length (by omega) (Nat.le_refl _) fun k' p' h1 _ h2 h3 => by
        have := huniq k' p' h2 h3; omega]
      exact hv
    · have hik := bf_lt hed k m' i h1 h2
      exact right (fun hLk => hi (hL k m' i hLk h1 h2)) (by omega)
  · refine .inr ⟨fun k p _ h1 h2 => hw ⟨k, p, h1, h2⟩, ?_⟩
    have := hT.slot (x := x) (i := 0) i (Nat.zero_le _) (by omega) fun k' p' _ _ h2 h3 => hw ⟨k', p', h2, h3⟩
    rw [hT.t0] at this
    rw [← this]; exact hv

theorem SlotI.put (hsl : slotsOk all (befores all []) = true) {L : Nat → Prop} {ρ ρ' : Pls} (hle : ρ.le ρ') {A : Act} (h : SlotI η nt all dT a0 L ρ A.tmps) {i : Nat} {o : Oper} (ho : all[i]? = some o) (hi : ¬ L i)
    {v : SV} {V : Value} (hv : VR η ρ' v V) (ha : (dT (i + 1)).a = putD nt (dT i).a o.dst v) : SlotI η nt all dT a0 (fun k => k = i ∨ L k) ρ' (A.put o.dst V).tmps := by
  have hiN := (List.getElem?_eq_some_iff.1 ho).1
  have hsz : (A.put o.dst V).tmps.size = nt := by
    rw [← h.1]
    cases o.dst with
    | none => rfl
    | some d => show (A.tmps.setIfInBounds d V).size = _; simp
  refine ⟨hsz, fun x u hx => ?_⟩
  have hsame : o.dst ≠ some x → (A.put o.dst V).tmps[x]? = A.tmps[x]? := by
    intro hne
    cases hd : o.dst with
    | none => rfl
    | some d =>
      show (A.tmps.setIfInBounds d V)[x]? = _
      rw [Array.getElem?_setIfInBounds_ne]
      intro e; exact hne (by rw [hd, e])
  by_cases hd : o.dst = some x
  · have huniq : ∀ k' p', all[k']? = some p' → p'.dst = some x → k' = i := fun k' p' h1 h2 => (slots_spec hsl h1 ho hd).2 h2
    rcases hx with ⟨k, p, hk, hp, hpd, hf⟩ | ⟨hn, _⟩
    · rw [hT.slot (x := x) (i := i + 1) all.length (by omega) (Nat.le_refl _) fun k' p' h1 _ h2 h3 => by
        have := huniq k' p' h2 h3; omega] at hf
      rw [ha, hd] at hf
      simp only [putD] at hf
      cases hb : Nat.blt x nt with
      | true =>
        rw [hb] at hf
        simp only [PM.get_set] at hf
        cases hf
        refine ⟨V, ?_, hv⟩
        rw [hd]
        show (A.tmps.setIfInBounds x V)[x]? = _
        rw [Array.getElem?_setIfInBounds_self_of_lt (by rw [h.1]; exact blt_t.1 hb)]
      | false =>
        rw [hb] at hf
        simp only at hf
        rw [hT.slot (x := x) (i := 0) i (Nat.zero_le _) (by omega) fun k' p' _ h1 h2 h3 => by
          have := huniq k' p' h2 h3; omega, hT.t0] at hf
        obtain ⟨U, u1, _⟩ := h.2 x u (.inr ⟨fun k' p' h1 h2 h3 => hi (by rw [← huniq k' p' h2 h3]; exact h1), hf⟩)
        exfalso
        have := (Array.getElem?_eq_some_iff.1 u1).1
        rw [h.1] at this
        rw [blt_t.2 this] at hb; cases hb
    · exact absurd hd (hn i o (.inl rfl) ho)
  · rw [hsame hd]
    have : aX all dT a0 L x u := by
      rcases hx with ⟨k, p, hk, hp, hpd, hf⟩ | ⟨hn, hf⟩
      · rcases hk with rfl | hk
        · rw [ho] at hp; cases hp; exact absurd hpd hd
        · exact .inl ⟨k, p, hk, hp, hpd, hf⟩
      · exact .inr ⟨fun k p hk => hn k p (.inr hk), hf⟩
    obtain ⟨U, u1, u2⟩ := h.2 x u this
    exact ⟨U, u1, u2.mono hle⟩

/-- An operation that is no anchor and no new variable. -/
theorem MemI.float {L : Nat → Prop} {q : Nat} {ρ ρ' : Pls} {w w' : World} (h : MemI G η all dT s0 ρ0 si w0 L q ρ w) {i : Nat} {e : Ent} (he : nth (dT all.length).ents i = some e) (h1 : ∀ v, e ≠ .anc v) (h2 : ∀ id, e ≠ .alc id) (hs0 : si.next + countA all ≤ s0.next)
    (hR : Rep η ρ' (dT q).s w') (hE : Ext ρ (dT q).s w ρ' (dT q).s w') : MemI G η all dT s0 ρ0 si w0 (fun k => k = i ∨ L k) q ρ' w' where
  cut0 := h.cut0
  cut1 k v hk hv := .inr (h.cut1 k v hk hv)
  cut2 k v hk hv hl := by
    rcases hl with rfl | hl
    · rw [he] at hv; cases hv; exact h1 v rfl
    · exact h.cut2 k v hk hv hl
  rep := hR
  nx := h.nx
  ext := h.ext.trans hE
  early k id o t hl hv ho ht hN := by
    rcases hl with rfl | hl
    · rw [he] at hv; cases hv; exact absurd rfl (h2 id)
    · obtain ⟨a, b⟩ := h.early k id o t hl hv ho ht hN
      exact blank_keep h.rep hE a b
  unr k id hl hv := by
    have := h.unr k id (fun x => hl (.inr x)) hv
    rw [hE.old id (by have := (hT.idLt hv).2; have := h.nx; omega)]
    exact this
  dist k id k' id' hne hl hl' hv hv' hN hN' p p' hp hp' := by
    rcases hl with rfl | hl
    · rw [he] at hv; cases hv; exact absurd rfl (h2 id)
    · rcases hl' with rfl | hl'
      · rw [he] at hv'; cases hv'; exact absurd rfl (h2 id')
      · have hlt := (hT.idLt hv).2
        have hlt' := (hT.idLt hv').2
        have hnx := h.nx
        rw [hE.old id (by omega)] at hp
        rw [hE.old id' (by omega)] at hp'
        exact h.dist k id k' id' hne hl hl' hv hv' hN hN' p p' hp hp'

/-- A new variable. -/
theorem MemI.alloc {L : Nat → Prop} {q : Nat} {ρ : Pls} {w : World} (h : MemI G η all dT s0 ρ0 si w0 L q ρ w) {i : Nat} {id : Nat} (he : nth (dT all.length).ents i = some (.alc id)) (hs0 : si.next + countA all ≤ s0.next) (hi : ¬ L i) {o : Oper} {t : AK} (ho : all[i]? = some o) (ht : allocOp o.op = some t)
    {z : AObj} (hz : akObj G t = some z) {O : Obj} {cs : Nat} (hO : ∀ ρ', ρ.le ρ' → OR η ρ' z ⟨w.heap.size, 0, cs⟩ (w.alloc O)) :
    MemI G η all dT s0 ρ0 si w0 (fun k => k = i ∨ L k) q (ρ.upd id ⟨w.heap.size, 0, cs⟩) (w.alloc O) := by
  have hn : ρ id = none := h.unr i id hi he
  have hle : ρ.le (ρ.upd id ⟨w.heap.size, 0, cs⟩) := Pls.le_upd hn
  have hold : ∀ j o', (dT q).s.heap.get j = some o' → j ≠ id := fun j o' hj e => by
    obtain ⟨p, hp, _⟩ := h.rep.obj j o' hj; rw [e, hn] at hp; cases hp
  have hid := hT.idLt he
  have hnx := h.nx
  have hblank : OR η (ρ.upd id ⟨w.heap.size, 0, cs⟩) z ⟨w.heap.size, 0, cs⟩ (w.alloc O) := hO _ hle
  refine ⟨h.cut0, fun k v hk hv => .inr (h.cut1 k v hk hv), ?_, ?_, h.nx, ?_, ?_, ?_, ?_⟩
  · intro k v hk hv hl
    rcases hl with rfl | hl
    · rw [he] at hv; cases hv
    · exact h.cut2 k v hk hv hl
  · refine ⟨fun j o' hj => ?_, fun j k a b p r hj hk hp hr e => ?_, fun j hj => ?_, fun j p hp => ?_⟩
    · obtain ⟨p, hp, hO⟩ := h.rep.obj j o' hj
      exact ⟨p, hle _ _ hp, hO.mono hle (heap_push_old w _ _ (h.rep.dom j p hp))⟩
    · rw [Pls.upd_ne _ _ (hold j a hj)] at hp
      rw [Pls.upd_ne _ _ (hold k b hk)] at hr
      exact h.rep.inj j k a b p r hj hk hp hr e
    · rw [Pls.upd_ne _ _ (by omega)]; exact h.rep.fresh j hj
    · rw [World.size_alloc]
      by_cases e : j = id
      · rw [e, Pls.upd_self] at hp; cases hp; simp
      · rw [Pls.upd_ne _ _ e] at hp; have := h.rep.dom j p hp; omega
  · have hx := h.ext
    refine ⟨hx.le.trans hle, hx.next, by rw [World.size_alloc]; have := hx.size; omega, fun b hb hu => ?_, fun j o' p hj hp => ?_, hx.os, hx.out, hx.tape, fun j hj => ?_⟩
    · rw [heap_push_old w _ b (by have := hx.size; omega)]; exact hx.frame b hb hu
    · rw [Pls.upd_ne _ _ (hold j o' hj)] at hp; exact hx.own j o' p hj hp
    · rw [Pls.upd_ne _ _ (by omega)]; exact hx.old j hj
  · intro k id' o' t' hl hv ho' ht' hN
    rcases hl with rfl | hl
    · rw [he] at hv; cases hv
      rw [ho] at ho'; cases ho'; rw [ht] at ht'; cases ht'
      refine ⟨⟨_, z, Pls.upd_self _ _ _, hz, hblank, h.ext.size⟩, fun j a p r hj hp hr => ?_⟩
      rw [Pls.upd_self] at hr; cases hr
      rw [Pls.upd_ne _ _ (hold j a hj)] at hp
      have := h.rep.dom j p hp; simp only; omega
    · obtain ⟨⟨p, z', b1, b2, b3, b4⟩, hu⟩ := h.early k id' o' t' hl hv ho' ht' hN
      refine ⟨⟨p, z', hle _ _ b1, b2, b3.mono hle (heap_push_old w _ _ (h.rep.dom _ _ b1)), b4⟩, fun j a p1 r hj hp1 hr => ?_⟩
      rw [Pls.upd_ne _ _ (hold j a hj)] at hp1
      rw [hle _ _ b1] at hr; cases hr
      exact hu j a p1 p hj hp1 b1
  · intro k id' hl hv
    have hne : id' ≠ id := fun e => hl (.inl (hT.idInj hv he e))
    rw [Pls.upd_ne _ _ hne]
    exact h.unr k id' (fun x => hl (.inr x)) hv
  · intro k id1 k' id2 hne hl hl' hv hv' hN hN' p p' hp hp'
    have key : ∀ k id1 p, L k → nth (dT all.length).ents k = some (.alc id1) → (ρ.upd id ⟨w.heap.size, 0, cs⟩) id1 = some p → ρ id1 = some p ∧ p.b < w.heap.size := by
      intro k id1 p hl hv hp
      have hne : id1 ≠ id := fun e => hi (by rw [← hT.idInj hv he e]; exact hl)
      rw [Pls.upd_ne _ _ hne] at hp
      exact ⟨hp, h.rep.dom _ _ hp⟩
    rcases hl with rfl | hl
    · rcases hl' with rfl | hl'
      · exact absurd rfl hne
      · have := key k' id2 p' hl' hv' hp'
        rw [he] at hv; cases hv
        rw [Pls.upd_self] at hp; cases hp
        simp only; omega
    · rcases hl' with rfl | hl'
      · have := key k id1 p hl hv hp
        rw [he] at hv'; cases hv'
        rw [Pls.upd_self] at hp'; cases hp'
        simp only; omega
      · exact h.dist k id1 k' id2 hne hl hl' hv hv' hN hN' p p' (key k id1 p hl hv hp).1 (key k' id2 p' hl' hv' hp').1

/-- An anchor: what lies before it. -/
theorem MemI.before {L : Nat → Prop} {q : Nat} {ρ : Pls} {w : World} (h : MemI G η all dT s0 ρ0 si w0 L q ρ w) {i : Nat} (hiN : i < all.length) {v0 : SV} (he : nth (dT all.length).ents i = some (.anc v0)) (hi : ¬ L i) (hpre : ∀ k v, k < i → nth (dT all.length).ents k = some (.anc v) → L k) :
    q ≤ i ∧ (dT i).s = (dT q).s := by
  have hq : q ≤ i := by
    rcases Nat.lt_or_ge i q with hlt | hge
    · exact absurd (h.cut1 i v0 hlt he) hi
    · exact hge
  exact ⟨hq, hT.calm i hq (by omega) fun k v h1 h2 h3 => h.cut2 k v h1 h3 (hpre k v h2 h3)⟩

theorem MemI.anchor {L : Nat → Prop} {q : Nat} {ρ ρ' : Pls} {w w' : World} (h : MemI G η all dT s0 ρ0 si w0 L q ρ w) {i m : Nat} (hiN : i < all.length) {v0 : SV} (he : nth (dT all.length).ents i = some (.anc v0)) (hi : ¬ L i) (hs0 : si.next + countA all ≤ s0.next) (hpre : ∀ k v, k < i → nth (dT all.length).ents k = some (.anc v) → L k)
    (hpost : ∀ k v, i < k → nth (dT all.length).ents k = some (.anc v) → ¬ L k) (hm : ∀ l, isIn m l = true → L l) {p : List (Nat × Nat × AK)} {u : St} (hl : layBy G (isIn m) (dT i).pend (dT i).s = some (p, u)) :
    Rep η ρ u w ∧ Ext ρ0 si w0 ρ u w ∧ s0.next ≤ u.next ∧ ∀ (s' : St), (dT (i + 1)).s = s' → (dT (i + 1)).pend = p → Rep η ρ' s' w' → Ext ρ u w ρ' s' w' → MemI G η all dT s0 ρ0 si w0 (fun k => k = i ∨ L k) (i + 1) ρ' w' := by
  obtain ⟨hqi, hsi⟩ := h.before hT hiN he hi hpre
  have hpend : ∀ x ∈ (dT i).pend, NL dT q x.1 := fun x hx => (hT.pendBack i hqi (by omega) hx).imp (fun h => h) fun h => ⟨x, h, rfl⟩
  rw [hsi] at hl
  have hEarly : ∀ x ∈ (dT i).pend, isIn m x.1 = true → Blank G η ρ w x.2.1 x.2.2 w0.heap.size ∧ Unown ρ (dT q).s x.2.1 := by
    intro x hx hs
    obtain ⟨h1, h2, o, h3, h4⟩ := hT.pendOk i (by omega) hx
    exact h.early x.1 x.2.1 o x.2.2 (hm _ hs) h2 h3 h4 (hpend x hx)
  obtain ⟨c1, c2, c3, c4⟩ := lay_ok (ρ0 := ρ0) (s0 := si) (w0 := w0) _ _ _ _ hl h.rep h.ext (fun x hx hs => ⟨(hEarly x hx hs).1, fun j o p1 q1 _ hj hp hq => (hEarly x hx hs).2 j o p1 q1 hj hp hq⟩) (fun x hx y hy hsx hsy hne p1 p2 hp1 hp2 => by
    have kx := hT.pendOk i (by omega) hx
    have ky := hT.pendOk i (by omega) hy
    refine h.dist x.1 x.2.1 y.1 y.2.1 (fun e => hne ?_) (hm _ hsx) (hm _ hsy) kx.2.1 ky.2.1 (hpend x hx) (hpend y hy) p1 p2 hp1 hp2
    have h1 := kx.2.1
    rw [e, ky.2.1] at h1
    injection h1 with h1; injection h1 with h1; exact h1.symm)
  refine ⟨c1, c2, by rw [c3]; exact h.nx, fun s' hs' hp' hR hE => ?_⟩
  -- who is not yet laid behind the anchor was not laid before it
  have hNL : ∀ k, NL dT (i + 1) k → NL dT q k ∧ ∀ x ∈ (dT i).pend, isIn m x.1 = true → x.1 ≠ k := by
    intro k hk
    rcases hk with hk | ⟨x, hx, rfl⟩
    · exact ⟨.inl (by omega), fun y hy _ e => by have := (hT.pendOk i (by omega) hy).1; omega⟩
    · rw [hp'] at hx
      obtain ⟨h1, h2⟩ := layBy_sub hl x hx
      exact ⟨hpend x h1, fun y hy hs e => by rw [e, h2] at hs; cases hs⟩
  have hold : ∀ k id, nth (dT all.length).ents k = some (.alc id) → ρ' id = ρ id := fun k id hv => hE.old id (by have := (hT.idLt hv).2; have := h.nx; omega)
  refine ⟨by omega, fun k v hk hv => ?_, fun k v hk hv hl' => ?_, by rw [hs']; exact hR, by rw [hs']; have := hE.next; have := h.nx; omega, by rw [hs']; exact c2.trans hE, ?_, ?_, ?_⟩
  · rcases Nat.lt_or_ge k i with hlt | hge
    · exact .inr (hpre k v hlt hv)
    · exact .inl (by omega)
  · rcases hl' with rfl | hl'
    · omega
    · exact hpost k v (by omega) hv hl'
  · intro k id o t hl' hv ho ht hN
    rcases hl' with rfl | hl'
    · rw [he] at hv; cases hv
    · obtain ⟨n1, n2⟩ := hNL k hN
      obtain ⟨hB, hU⟩ := h.early k id o t hl' hv ho ht n1
      rw [hs']
      refine blank_keep c1 hE hB fun j o' p1 p2 hj hp1 hp2 => ?_
      rcases c4 j o' hj with ⟨o2, ho2⟩ | ⟨x, hx, hsx, rfl⟩
      · exact hU j o2 p1 p2 ho2 hp1 hp2
      · have kx := hT.pendOk i (by omega) hx
        exact h.dist x.1 x.2.1 k id (n2 x hx hsx) (hm _ hsx) hl' kx.2.1 hv (hpend x hx) n1 p1 p2 hp1 hp2
  · intro k id hl' hv
    rw [hold k id hv]
    exact h.unr k id (fun x => hl' (.inr x)) hv
  · intro k id k' id' hne hl1 hl2 hv hv' hN hN' p1 p2 hp1 hp2
    rw [hold k id hv] at hp1
    rw [hold k' id' hv'] at hp2
    rcases hl1 with rfl | hl1
    · rw [he] at hv; cases hv
    · rcases hl2 with rfl | hl2
      · rw [he] at hv'; cases hv'
      · exact h.dist k id k' id' hne hl1 hl2 hv hv' (hNL k hN).1 (hNL k' hN').1 p1 p2 hp1 hp2
end
end Go.Dx

/-
  The evaluator in use: pieces of code, windows of memory, closed calls.
-/
import Derived.Test.YtlihinmgpfbolaaGreatDoorDTab
namespace Go.Dx
section
variable {G : Ctx} {P : Program} {η : Env}

/-- A piece of code that the evaluator runs. -/
theorem piece (hG : GOK G P) (hB : BOK G η) {k : Nat} {rnd r : Option Nat} {fn nt : Nat} {x : Code} {a a' : PM SV} {df df' : List DM} {s s' : St} {e : DX} (h : run G k rnd fn nt x a df s = .done e a' df' s') {ρ : Pls} {A : Act} {w : World} {n : Nat}
    (hR : Rep η ρ s w) (hL : GF G P η ρ s w) (hA : TR η ρ nt a A.tmps) (hD : DF ρ df A.defers) (hN : RN ρ rnd r) {Q : Exit → Act → World → Prop}
    (hQ : ∀ ρ' A' w', TR η ρ' nt a' A'.tmps → DF ρ' df' A'.defers → Rep η ρ' s' w' → Ext ρ s w ρ' s' w' → Q (exitOf e) A' w') : x.wpIn (FW r) n P Q A w := by
  have := run_sound hG hB k k (Nat.le_refl _) rnd r fn nt x a df s A w ρ n hR hL hA hD hN
  rw [h] at this; exact this Q hQ

def outIs (o : Out) (f : DX → PM SV → List DM → St → Bool) : Bool :=
  match o with
  | .fail => false
  | .done e a df s => f e a df s
theorem outIs_inv {o : Out} {f : DX → PM SV → List DM → St → Bool} (h : outIs o f = true) : ∃ e a df s, o = .done e a df s ∧ f e a df s = true := by
  cases o with
  | fail => cases h
  | done e a df s => exact ⟨e, a, df, s, rfl, h⟩
def retIs (o : CallR) (f : SV → St → Bool) : Bool :=
  match o with
  | .fail => false
  | .ret v s => f v s
theorem retIs_inv {o : CallR} {f : SV → St → Bool} (h : retIs o f = true) : ∃ v s, o = .ret v s ∧ f v s = true := by
  cases o with
  | fail => cases h
  | ret v s => exact ⟨v, s, rfl, h⟩

/-- A window that may be read alone. -/
theorem OR.window {ρ : Pls} {w : World} {b base : Nat} {C : Array Value} {e' : TypeId} {fr : Nat × Nat} {l : List SV} {L : List Value} (e : TypeId) (h : w.heap[b]? = some (.cells C e' fr)) (hl : VRL η ρ l L) (hle : base + l.length ≤ C.size) (hc : ∀ j V, L[j]? = some V → C[base + j]? = some V) :
    OR η ρ (.blk l.length (wr .nil 0 l) e false true) ⟨b, base, C.size⟩ w := by
  refine ⟨C, e', fr, h, rfl, hle, fun k v hv hk => ?_, fun h => by cases h⟩
  rw [wr_get] at hv
  split at hv
  · simp only [Nat.sub_zero] at hv
    obtain ⟨V, v1, v2⟩ := hl.get hv
    exact ⟨V, hc k V v1, v2⟩
  · cases hv
/-- No block. -/
theorem Rep.empty {w : World} (next : Nat) : Rep η (fun _ => none) { heap := .nil, next := next } w :=
  ⟨fun i o h => (by rw [PM.get_nil] at h; cases h), fun i j a b p q h => (by rw [PM.get_nil] at h; cases h), fun _ _ => rfl, fun i p h => (by cases h)⟩

/-- One block more, that stands in the world already. -/
theorem Rep.take {ρ : Pls} {s : St} {w : World} (h : Rep η ρ s w) {p : Pl} {o : AObj} (hO : ∀ ρ', ρ.le ρ' → OR η ρ' o p w) (hb : p.b < w.heap.size) (hu : ∀ i x q, s.heap.get i = some x → ρ i = some q → q.b ≠ p.b) :
    Rep η (ρ.upd s.next p) { heap := s.heap.set s.next o, next := Nat.succ s.next } w := by
  have hn : ρ s.next = none := h.fresh _ (Nat.le_refl _)
  have hle : ρ.le (ρ.upd s.next p) := Pls.le_upd hn
  have hget : ∀ i, (s.heap.set s.next o).get i = if i = s.next then some o else s.heap.get i := fun i => PM.get_set _ _ _ _
  refine ⟨fun i x hi => ?_, fun i j a b q r hi hj hq hr e => ?_, fun i hi => ?_, fun i q hq => ?_⟩
  · rw [hget] at hi
    by_cases e : i = s.next
    · rw [if_pos e] at hi; cases hi
      exact ⟨p, by rw [e]; exact Pls.upd_self _ _ _, hO _ hle⟩
    · rw [if_neg e] at hi
      obtain ⟨q, hq, hx⟩ := h.obj i x hi
      exact ⟨q, hle _ _ hq, hx.mono hle rfl⟩
  · rw [hget] at hi hj
    by_cases ei : i = s.next
    · by_cases ej : j = s.next
      · rw [ei, ej]
      · rw [if_neg ej] at hj
        rw [ei, Pls.upd_self] at hq; cases hq
        rw [Pls.upd_ne _ _ ej] at hr
        exact absurd e.symm (hu j b r hj hr)
    · rw [if_neg ei] at hi
      rw [Pls.upd_ne _ _ ei] at hq
      by_cases ej : j = s.next
      · rw [ej, Pls.upd_self] at hr; cases hr
        exact absurd e (hu i a q hi hq)
      · rw [if_neg ej] at hj
        rw [Pls.upd_ne _ _ ej] at hr
        exact h.inj i j a b q r hi hj hq hr e
  · have hi' : s.next + 1 ≤ i := hi
    rw [Pls.upd_ne _ _ (by omega)]; exact h.fresh i (by omega)
  · by_cases e : i = s.next
    · rw [e, Pls.upd_self] at hq; cases hq; exact hb
    · rw [Pls.upd_ne _ _ e] at hq; exact h.dom i q hq

/-- What was, stays (new blocks apart). -/
structure Calm (w w' : World) : Prop where
  size : w.heap.size ≤ w'.heap.size
  same : ∀ b, b < w.heap.size → w'.heap[b]? = w.heap[b]?
  os : w'.os = w.os
  out : w'.output = w.output
  tape : w'.tape = w.tape
theorem Calm.refl (w : World) : Calm w w := ⟨Nat.le_refl _, fun _ _ => rfl, rfl, rfl, rfl⟩
theorem Calm.trans {a b c : World} (h : Calm a b) (k : Calm b c) : Calm a c :=
  ⟨Nat.le_trans h.size k.size, fun i hi => (k.same i (Nat.lt_of_lt_of_le hi h.size)).trans (h.same i hi), k.os.trans h.os, k.out.trans h.out, k.tape.trans h.tape⟩
theorem Rep.calm {ρ : Pls} {s : St} {w w' : World} (h : Rep η ρ s w) (hc : Calm w w') : Rep η ρ s w' :=
  ⟨fun i o hi => let ⟨p, hp, hO⟩ := h.obj i o hi; ⟨p, hp, hO.mono ρ.le_refl (hc.same _ (h.dom i p hp))⟩, h.inj, h.fresh, fun i p hp => Nat.lt_of_lt_of_le (h.dom i p hp) hc.size⟩
theorem Calm.ext {ρ : Pls} {s : St} {w w' : World} (h : Calm w w') : Ext ρ s w ρ s w' :=
  ⟨ρ.le_refl, Nat.le_refl _, h.size, fun b hb _ => h.same b hb, fun i o p hi hp => .inr ⟨i, o, p, hi, hp, rfl, fun h => h⟩, h.os, h.out, h.tape, fun _ _ => rfl⟩

/-- A closed call from no memory at all: a letter that is known, in any state. -/
theorem closed_quiet (hG : GOK G P) (hB : BOK G η) (hg : G.glb = .nil) (hi : G.itab = []) (ho : G.orc = .nil) (hd : G.dq = .nil) {k nx : Nat} {f : FuncId} {b : Bool} (h : retIs (calls G k f [] { heap := .nil, next := nx }) (fun v _ => match v with | .bool c => beqB b c | _ => false) = true) (n : Nat) (w : World) :
    CallsIn Fence.wide n P f #[] w (fun e w' => e = .returned (.bool b) ∧ Calm w w') := by
  obtain ⟨v, s', h1, h2⟩ := retIs_inv h
  refine callsIn_wide.2 (calls_ok hG hB h1 (Rep.empty nx) ⟨⟨fun g n h => ?_, fun e h => ?_⟩, fun ρ' s' w' _ _ f o h => ?_, fun f x h => ?_⟩ .nil fun ρ' V w' v1 v2 v3 => ?_)
  · rw [hg, PM.get_nil] at h; cases h
  · rw [hi] at h; cases h
  · rw [ho, PM.get_nil] at h; cases h
  · rw [hd, PM.get_nil] at h; cases h
  · cases v with
    | bool c =>
      cases v1
      have : b = c := by cases b <;> cases c <;> first | rfl | cases h2
      subst this
      exact ⟨rfl, v3.size, fun i hi => v3.frame i hi fun j o p hj => (by rw [PM.get_nil] at hj; cases hj), v3.os, v3.out, v3.tape⟩
    | _ => cases h2
theorem TR.nil {ρ : Pls} {T : Array Value} : TR η ρ T.size .nil T := ⟨rfl, fun i v h => by rw [PM.get_nil] at h; cases h⟩
theorem TR.set {ρ : Pls} {nt : Nat} {t : PM SV} {T : Array Value} (h : TR η ρ nt t T) {i : Nat} {v : SV} {V : Value} (hi : T[i]? = some V) (hv : VR η ρ v V) : TR η ρ nt (t.set i v) T := by
  refine ⟨h.1, fun j u hj => ?_⟩
  rw [PM.get_set] at hj
  by_cases e : j = i
  · rw [if_pos e] at hj; cases hj; exact ⟨V, by rw [e]; exact hi, hv⟩
  · rw [if_neg e] at hj; exact h.2 j u hj
theorem VRL.of_get {ρ : Pls} : ∀ {l : List SV} {L : List Value}, l.length = L.length → (∀ (j : Nat) v V, l[j]? = some v → L[j]? = some V → VR η ρ v V) → VRL η ρ l L
  | [], [], _, _ => .nil
  | v :: l, V :: L, hl, h => .cons (h 0 v V rfl rfl) (VRL.of_get (by simpa using hl) fun j v V h1 h2 => h (j + 1) v V (by simpa using h1) (by simpa using h2))
  | [], _ :: _, hl, _ => by simp at hl
  | _ :: _, [], hl, _ => by simp at hl
end
end Go.Dx

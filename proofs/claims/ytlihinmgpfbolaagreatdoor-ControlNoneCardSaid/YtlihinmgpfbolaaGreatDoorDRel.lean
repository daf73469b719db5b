/-
  What it means that an abstract state stands for a world: values, objects, slots; what a step may change.
-/
import Derived.Test.YtlihinmgpfbolaaGreatDoorDPM
import Derived.Test.YtlihinmgpfbolaaGreatDoorDRun
import Derived.Laws.Sem
import Derived.Laws.World
import Derived.Laws.Cells
namespace Go.Dx

/-- Where an abstract block lies: the block, the place of its first cell, how many cells the block has. -/
structure Pl where
  b : Nat
  base : Nat
  cs : Nat
abbrev Pls := Nat → Option Pl
def Pls.le (ρ ρ' : Pls) : Prop := ∀ i p, ρ i = some p → ρ' i = some p
theorem Pls.le_refl (ρ : Pls) : ρ.le ρ := fun _ _ h => h
theorem Pls.le.trans {a b c : Pls} (h : a.le b) (k : b.le c) : a.le c := fun i p e => k i p (h i p e)
def Pls.upd (ρ : Pls) (i : Nat) (p : Pl) : Pls := fun j => if j = i then some p else ρ j
theorem Pls.le_upd {ρ : Pls} {i : Nat} {p : Pl} (h : ρ i = none) : ρ.le (ρ.upd i p) := by
  intro j q hj; unfold Pls.upd; split
  · rename_i e; rw [e, h] at hj; cases hj
  · exact hj
theorem Pls.upd_self (ρ : Pls) (i : Nat) (p : Pl) : ρ.upd i p i = some p := by simp [Pls.upd]
theorem Pls.upd_ne (ρ : Pls) {i j : Nat} (p : Pl) (h : j ≠ i) : ρ.upd i p j = ρ j := by simp [Pls.upd, h]

/-- What the letters stand for: integers; values of one cell. -/
structure Env where
  int : Nat → Int
  val : Nat → Value
  one : ∀ i, (val i).oneCell' = true

def Env.zero : Env := { int := fun _ => 0, val := fun _ => .bool true, one := fun _ => rfl }
def SI.den (η : Env) : SI → Int
  | .c n => n
  | .a i o => η.int i + o

mutual
inductive VR (η : Env) (ρ : Pls) : SV → Value → Prop
  | bool (b : Bool) : VR η ρ (.bool b) (.bool b)
  | int (k : IntKind) (x : SI) : VR η ρ (.int k x) (.int k (x.den η))
  | str (s : ByteArray) : VR η ρ (.str (bytesOfArr s)) (.string s)
  | nilp : VR η ρ .nilp (.pointer none)
  | ptr {b o : Nat} {p : Pl} (h : ρ b = some p) : VR η ρ (.ptr b o) (.pointer (some ⟨p.b, p.base + o, none⟩))
  | nils : VR η ρ .nils (.slice none 0 0)
  | slx {b o n c : Nat} {p : Pl} (h : ρ b = some p) : VR η ρ (.sl b o n (.ex c)) (.slice (some ⟨p.b, p.base + o, none⟩) n c)
  | slp {b o n e c o' : Nat} {p : Pl} (h : ρ b = some p) (hc : n ≤ c) (ho : 0 < c → o' = p.base + o) (hr : o' + c * e ≤ p.cs) : VR η ρ (.sl b o n (.sp e)) (.slice (some ⟨p.b, o', none⟩) n c)
  | nilm : VR η ρ .nilm (.map none)
  | map {b : Nat} {p : Pl} (h : ρ b = some p) : VR η ρ (.map b) (.map (some p.b))
  | nilf : VR η ρ .nilf .nilFunc
  | fn {f : FuncId} {l c : List SV} {L C : Array Value} (hl : VRL η ρ l L.toList) (hc : VRL η ρ c C.toList) : VR η ρ (.fn f l c) (.func (.func f) L C)
  | yld {l : Nat} {p : Pl} (h : ρ l = some p) : VR η ρ (.yld l) (.func (.yield p.b) #[] #[])
  | nili : VR η ρ .nili .nilIface
  | ifc {t : TypeId} {v : SV} {V : Value} (h : VR η ρ v V) : VR η ρ (.ifc t v) (.iface t V)
  | agg {l : List SV} {L : Array Value} (h : VRL η ρ l L.toList) : VR η ρ (.agg l) (.agg L)
  | tup {l : List SV} {L : Array Value} (h : VRL η ρ l L.toList) : VR η ρ (.tup l) (.tuple L)
  | opq (i : Nat) : VR η ρ (.opq i) (η.val i)
inductive VRL (η : Env) (ρ : Pls) : List SV → List Value → Prop
  | nil : VRL η ρ [] []
  | cons {v : SV} {V : Value} {l : List SV} {L : List Value} (h : VR η ρ v V) (hl : VRL η ρ l L) : VRL η ρ (v :: l) (V :: L)
end

section
variable {η : Env} {ρ ρ' : Pls}
mutual
theorem VR.mono (hle : ρ.le ρ') : ∀ {v : SV} {V : Value}, VR η ρ v V → VR η ρ' v V
  | _, _, .bool b => .bool b
  | _, _, .int k x => .int k x
  | _, _, .str s => .str s
  | _, _, .nilp => .nilp
  | _, _, .ptr h => .ptr (hle _ _ h)
  | _, _, .nils => .nils
  | _, _, .slx h => .slx (hle _ _ h)
  | _, _, .slp h hc ho hr => .slp (hle _ _ h) hc ho hr
  | _, _, .nilm => .nilm
  | _, _, .map h => .map (hle _ _ h)
  | _, _, .nilf => .nilf
  | _, _, .fn hl hc => .fn (VRL.mono hle hl) (VRL.mono hle hc)
  | _, _, .yld h => .yld (hle _ _ h)
  | _, _, .nili => .nili
  | _, _, .ifc h => .ifc (VR.mono hle h)
  | _, _, .agg h => .agg (VRL.mono hle h)
  | _, _, .tup h => .tup (VRL.mono hle h)
  | _, _, .opq i => .opq i
theorem VRL.mono (hle : ρ.le ρ') : ∀ {l : List SV} {L : List Value}, VRL η ρ l L → VRL η ρ' l L
  | _, _, .nil => .nil
  | _, _, .cons h hl => .cons (VR.mono hle h) (VRL.mono hle hl)
end

theorem VRL.length {l : List SV} {L : List Value} : VRL η ρ l L → l.length = L.length := by
  intro h
  induction l generalizing L with
  | nil => cases h; rfl
  | cons v l ih => cases h with | cons h hl => simp [ih hl]
theorem VRL.append {l m : List SV} {L M : List Value} (h : VRL η ρ l L) (k : VRL η ρ m M) : VRL η ρ (l ++ m) (L ++ M) := by
  induction l generalizing L with
  | nil => cases h; exact k
  | cons v l ih => cases h with | cons h hl => exact .cons h (ih hl)
theorem VRL.nth {l : List SV} {L : List Value} (h : VRL η ρ l L) {i : Nat} {v : SV} (hv : nth l i = some v) : ∃ V, L[i]? = some V ∧ VR η ρ v V := by
  induction l generalizing L i with
  | nil => simp [Dx.nth] at hv
  | cons x l ih =>
    cases h with
    | cons h hl =>
      cases i with
      | zero => simp only [Dx.nth] at hv; cases hv; exact ⟨_, rfl, h⟩
      | succ i => simp only [Dx.nth] at hv; obtain ⟨V, hV, r⟩ := ih hl hv; exact ⟨V, by simpa using hV, r⟩
theorem VRL.take {l : List SV} {L : List Value} (h : VRL η ρ l L) (n : Nat) : VRL η ρ (ltake n l) (L.take n) := by
  induction n generalizing l L with
  | zero => simp only [ltake, List.take_zero]; exact .nil
  | succ n ih => cases h with
    | nil => exact .nil
    | cons h hl => exact .cons h (ih hl)
theorem VRL.drop {l : List SV} {L : List Value} (h : VRL η ρ l L) (n : Nat) : VRL η ρ (ldrop n l) (L.drop n) := by
  induction n generalizing l L with
  | zero => exact h
  | succ n ih => cases h with
    | nil => exact .nil
    | cons h hl => exact ih hl
theorem cells_one {V : Value} (h : V.oneCell' = true) : V.cells = #[V] := by
  cases V <;> first | rfl | cases h
theorem VR.cells {v : SV} {V : Value} (h : VR η ρ v V) : VRL η ρ v.cells V.cells.toList := by
  cases h <;> first | (rename_i i; rw [cells_one (η.one i)]; exact .cons (.opq i) .nil) | (rename_i h; exact h) | exact .cons (by constructor <;> assumption) .nil | skip
  all_goals first | exact .cons (.bool _) .nil | exact .cons (.int _ _) .nil | exact .cons (.str _) .nil
theorem VR.oneCell {v : SV} {V : Value} (h : VR η ρ v V) (hs : v.sc = true) : V.oneCell' = true := by
  cases h <;> first | rfl | (simp [SV.sc] at hs; done) | exact η.one _
theorem nth_eq {α : Type} (l : List α) (i : Nat) : nth l i = l[i]? := by
  induction l generalizing i with
  | nil => rfl
  | cons x l ih => cases i with
    | zero => rfl
    | succ i => simp [Dx.nth, ih]
end

/-- Slots. -/
def TR (η : Env) (ρ : Pls) (nt : Nat) (t : PM SV) (A : Array Value) : Prop :=
  A.size = nt ∧ ∀ i v, t.get i = some v → ∃ V, A[i]? = some V ∧ VR η ρ v V
/-- Entries of a map. -/
inductive ER (η : Env) (ρ : Pls) : List (SV × SV × Nat) → List MapEntry → Prop
  | nil : ER η ρ [] []
  | cons {k v : SV} {b : Nat} {K V : Value} {l : List (SV × SV × Nat)} {L : List MapEntry} (hk : VR η ρ k K) (hv : VR η ρ v V) (hl : ER η ρ l L) : ER η ρ ((k, v, b) :: l) (⟨K, V, b⟩ :: L)

def OR (η : Env) (ρ : Pls) (o : AObj) (p : Pl) (w : World) : Prop :=
  match o with
  | .blk n t _ _ frz => ∃ C e fr, w.heap[p.b]? = some (.cells C e fr) ∧ C.size = p.cs ∧ p.base + n ≤ p.cs ∧
      (∀ k v, t.get k = some v → k < n → ∃ V, C[p.base + k]? = some V ∧ VR η ρ v V) ∧
      (frz = false → ∀ k, p.base ≤ k → k < p.cs → fr.1 ≤ k → k < fr.2 → False)
  | .map es clock => ∃ E : Array MapEntry, w.heap[p.b]? = some (.map E clock) ∧ ER η ρ es E.toList
  | .siter _ _ => False
  | .miter m since seen stepped => p.base = 0 ∧ ∃ M, w.heap[p.b]? = some (.mapIter M since seen.toArray stepped) ∧
      (match m with | none => M = none | some i => ∃ q, ρ i = some q ∧ M = some q.b)
  | .loop st pend _ nt t ps asg body d => p.base = 0 ∧ ∃ L : Loop, w.heap[p.b]? = some (.loop L) ∧ L.state = st ∧ L.pending = pend ∧
      TR η ρ nt t L.tmps ∧ L.params.toList = ps ∧ L.assign = asg ∧ L.body = body ∧ ∃ q, ρ d = some q ∧ L.defers = q.b
  | .dfr there => w.heap[p.b]? = some (.deferred (if there then some [] else none))

structure Rep (η : Env) (ρ : Pls) (s : St) (w : World) : Prop where
  obj : ∀ i o, s.heap.get i = some o → ∃ p, ρ i = some p ∧ OR η ρ o p w
  inj : ∀ i j o o' p q, s.heap.get i = some o → s.heap.get j = some o' → ρ i = some p → ρ j = some q → p.b = q.b → i = j
  fresh : ∀ i, s.next ≤ i → ρ i = none
  dom : ∀ i p, ρ i = some p → p.b < w.heap.size

/-- May it be written? -/
def AObj.wrt : AObj → Bool
  | .blk _ _ _ _ frz => !frz
  | _ => true

/-- What a step keeps: old names; what nobody of the state's blocks is; the rest of the world. -/
structure Ext (ρ : Pls) (s : St) (w : World) (ρ' : Pls) (s' : St) (w' : World) : Prop where
  le : ρ.le ρ'
  next : s.next ≤ s'.next
  size : w.heap.size ≤ w'.heap.size
  frame : ∀ b, b < w.heap.size → (∀ i o p, s.heap.get i = some o → ρ i = some p → o.wrt = true → p.b ≠ b) → w'.heap[b]? = w.heap[b]?
  own : ∀ i o p, s'.heap.get i = some o → ρ' i = some p → w.heap.size ≤ p.b ∨ ∃ j o' q, s.heap.get j = some o' ∧ ρ j = some q ∧ q.b = p.b ∧ (o.wrt = true → o'.wrt = true)
  os : w'.os = w.os
  out : w'.output = w.output
  tape : w'.tape = w.tape
  old : ∀ i, i < s.next → ρ' i = ρ i

section
variable {η : Env} {ρ ρ' ρ'' : Pls} {s s' s'' : St} {w w' w'' : World}

theorem Ext.refl : Ext ρ s w ρ s w :=
  ⟨ρ.le_refl, Nat.le_refl _, Nat.le_refl _, fun _ _ _ => rfl, fun i o p h hp => .inr ⟨i, o, p, h, hp, rfl, fun h => h⟩, rfl, rfl, rfl, fun _ _ => rfl⟩
theorem Ext.trans (h : Ext ρ s w ρ' s' w') (k : Ext ρ' s' w' ρ'' s'' w'') : Ext ρ s w ρ'' s'' w'' where
  le := h.le.trans k.le
  next := Nat.le_trans h.next k.next
  size := Nat.le_trans h.size k.size
  frame b hb hn := by
    rw [k.frame b (Nat.lt_of_lt_of_le hb h.size) ?_, h.frame b hb hn]
    intro i o p hi hp ho e
    rcases h.own i o p hi hp with h1 | ⟨j, o', q, hj, hq, hqb, how⟩
    · omega
    · exact hn j o' q hj hq (how ho) (hqb.trans e)
  own i o p hi hp := by
    rcases k.own i o p hi hp with h1 | ⟨j, o', q, hj, hq, hqb, how⟩
    · exact .inl (Nat.le_trans h.size h1)
    · rcases h.own j o' q hj hq with h2 | ⟨m, o2, r, hm, hr, hrb, how2⟩
      · exact .inl (by omega)
      · exact .inr ⟨m, o2, r, hm, hr, hrb.trans hqb, fun h => how2 (how h)⟩
  os := k.os.trans h.os
  out := k.out.trans h.out
  tape := k.tape.trans h.tape
  old i hi := (k.old i (Nat.lt_of_lt_of_le hi h.next)).trans (h.old i hi)

theorem TR.mono {nt : Nat} {t : PM SV} {A : Array Value} (hle : ρ.le ρ') (h : TR η ρ nt t A) : TR η ρ' nt t A :=
  ⟨h.1, fun i v hv => let ⟨V, a, b⟩ := h.2 i v hv; ⟨V, a, b.mono hle⟩⟩
theorem ER.mono (hle : ρ.le ρ') {l : List (SV × SV × Nat)} {L : List MapEntry} (h : ER η ρ l L) : ER η ρ' l L := by
  induction h with
  | nil => exact .nil
  | cons hk hv _ ih => exact .cons (hk.mono hle) (hv.mono hle) ih

theorem OR.mono {o : AObj} {p : Pl} (hle : ρ.le ρ') (hw : w'.heap[p.b]? = w.heap[p.b]?) (h : OR η ρ o p w) : OR η ρ' o p w' := by
  cases o with
  | blk n t e opn frz =>
    obtain ⟨C, e, fr, h1, h2, h3, h4, h5⟩ := h
    exact ⟨C, e, fr, hw.trans h1, h2, h3, fun k v hv hk => let ⟨V, a, b⟩ := h4 k v hv hk; ⟨V, a, b.mono hle⟩, h5⟩
  | map es clock => obtain ⟨E, h1, h2⟩ := h; exact ⟨E, hw.trans h1, h2.mono hle⟩
  | siter l p => exact h
  | miter m since seen stepped =>
    obtain ⟨h0, M, h1, h2⟩ := h
    refine ⟨h0, M, hw.trans h1, ?_⟩
    cases m with
    | none => exact h2
    | some i => obtain ⟨q, a, b⟩ := h2; exact ⟨q, hle _ _ a, b⟩
  | loop st pend fn nt t ps asg body d =>
    obtain ⟨h0, L, h1, h2, h3, h5, h6, h7, h8, q, a, b⟩ := h
    exact ⟨h0, L, hw.trans h1, h2, h3, h5.mono hle, h6, h7, h8, q, hle _ _ a, b⟩
  | dfr there => exact hw.trans h

theorem heap_push_old (w : World) (o : Obj) (b : Nat) (h : b < w.heap.size) : (w.alloc o).heap[b]? = w.heap[b]? := by
  show (w.heap.push o)[b]? = _
  rw [Array.getElem?_push, if_neg (Nat.ne_of_lt h)]
theorem heap_push_new (w : World) (o : Obj) : (w.alloc o).heap[w.heap.size]? = some o := by
  show (w.heap.push o)[w.heap.size]? = _
  rw [Array.getElem?_push, if_pos rfl]

/-- A new object. -/
theorem Rep.new (h : Rep η ρ s w) (o : AObj) (O : Obj) (cs : Nat)
    (ho : ∀ ρ', ρ.le ρ' → ρ' s.next = some ⟨w.heap.size, 0, cs⟩ → OR η ρ' o ⟨w.heap.size, 0, cs⟩ (w.alloc O)) :
    Rep η (ρ.upd s.next ⟨w.heap.size, 0, cs⟩) (s.new o).2 (w.alloc O) ∧ Ext ρ s w (ρ.upd s.next ⟨w.heap.size, 0, cs⟩) (s.new o).2 (w.alloc O) := by
  have hn : ρ s.next = none := h.fresh _ (Nat.le_refl _)
  have hle : ρ.le (ρ.upd s.next ⟨w.heap.size, 0, cs⟩) := Pls.le_upd hn
  have hget : ∀ i, (s.new o).2.heap.get i = if i = s.next then some o else s.heap.get i := fun i => PM.get_set _ _ _ _
  have hold : ∀ i o', s.heap.get i = some o' → i ≠ s.next := fun i o' hi e => by
    obtain ⟨p, hp, _⟩ := h.obj i o' hi; rw [e, hn] at hp; cases hp
  refine ⟨⟨?_, ?_, ?_, ?_⟩, ⟨hle, Nat.le_succ _, by simp, ?_, ?_, rfl, rfl, rfl, fun i hi => Pls.upd_ne _ _ (Nat.ne_of_lt hi)⟩⟩
  · intro i o' hi
    rw [hget] at hi
    by_cases e : i = s.next
    · rw [if_pos e] at hi; cases hi
      exact ⟨_, by rw [e]; exact Pls.upd_self _ _ _, ho _ hle (Pls.upd_self _ _ _)⟩
    · rw [if_neg e] at hi
      obtain ⟨p, hp, hO⟩ := h.obj i o' hi
      exact ⟨p, hle _ _ hp, hO.mono hle (heap_push_old w O _ (h.dom i p hp))⟩
  · intro i j a b p q hi hj hp hq e
    rw [hget] at hi hj
    by_cases ei : i = s.next
    · by_cases ej : j = s.next
      · rw [ei, ej]
      · rw [ei, Pls.upd_self] at hp; cases hp
        rw [Pls.upd_ne _ _ ej] at hq
        have := h.dom j q hq; simp only at e; omega
    · rw [Pls.upd_ne _ _ ei] at hp
      by_cases ej : j = s.next
      · rw [ej, Pls.upd_self] at hq; cases hq
        have := h.dom i p hp; simp only at e; omega
      · rw [Pls.upd_ne _ _ ej] at hq
        rw [if_neg ei] at hi; rw [if_neg ej] at hj
        exact h.inj i j a b p q hi hj hp hq e
  · intro i hi
    have hi' : s.next + 1 ≤ i := hi
    rw [Pls.upd_ne _ _ (by omega)]; exact h.fresh i (by omega)
  · intro i p hp
    rw [World.size_alloc]
    by_cases e : i = s.next
    · rw [e, Pls.upd_self] at hp; cases hp; simp
    · rw [Pls.upd_ne _ _ e] at hp; have := h.dom i p hp; omega
  · intro b hb _; exact heap_push_old w O b hb
  · intro i o' p hi hp
    rw [hget] at hi
    by_cases e : i = s.next
    · rw [e, Pls.upd_self] at hp; cases hp; exact .inl (Nat.le_refl _)
    · rw [if_neg e] at hi; rw [Pls.upd_ne _ _ e] at hp; exact .inr ⟨i, o', p, hi, hp, rfl, fun h => h⟩

/-- One object's turn, where it lies. -/
theorem Rep.turn (h : Rep η ρ s w) {i : Nat} {o o' : AObj} {p : Pl} (hi : s.heap.get i = some o) (hp : ρ i = some p)
    (hs : w'.heap.size = w.heap.size) (hw : ∀ b, b ≠ p.b → w'.heap[b]? = w.heap[b]?) (hos : w'.os = w.os) (hout : w'.output = w.output) (ht : w'.tape = w.tape) (ho : OR η ρ o' p w') (hwr : o.wrt = true := by rfl) :
    Rep η ρ { heap := s.heap.set i o', next := s.next } w' ∧ Ext ρ s w ρ { heap := s.heap.set i o', next := s.next } w' := by
  have hget : ∀ j, (s.heap.set i o').get j = if j = i then some o' else s.heap.get j := fun j => PM.get_set _ _ _ _
  have hany : ∀ j x, (s.heap.set i o').get j = some x → ∃ y, s.heap.get j = some y := fun j x hx => by
    rw [hget] at hx; split at hx
    · rename_i e; rw [e]; exact ⟨o, hi⟩
    · exact ⟨x, hx⟩
  refine ⟨⟨?_, ?_, h.fresh, fun j q hq => by rw [hs]; exact h.dom j q hq⟩, ⟨ρ.le_refl, Nat.le_refl _, by rw [hs]; exact Nat.le_refl _, ?_, ?_, hos, hout, ht, fun _ _ => rfl⟩⟩
  · intro j x hx
    rw [hget] at hx
    by_cases e : j = i
    · rw [if_pos e] at hx; cases hx; exact ⟨p, by rw [e]; exact hp, ho⟩
    · rw [if_neg e] at hx
      obtain ⟨q, hq, hO⟩ := h.obj j x hx
      exact ⟨q, hq, hO.mono ρ.le_refl (hw _ fun e' => e (h.inj j i x o q p hx hi hq hp e'))⟩
  · intro j k a b q r hj hk hq hr e
    obtain ⟨y, hy⟩ := hany j a hj
    obtain ⟨z, hz⟩ := hany k b hk
    exact h.inj j k y z q r hy hz hq hr e
  · intro b hb hn; exact hw b (fun e => hn i o p hi hp hwr e.symm)
  · intro j x q hj hq
    have hj' := hj
    rw [hget] at hj'
    by_cases e : j = i
    · rw [if_pos e] at hj'; cases hj'
      exact .inr ⟨j, o, q, by rw [e]; exact hi, hq, rfl, fun _ => hwr⟩
    · rw [if_neg e] at hj'
      exact .inr ⟨j, x, q, hj', hq, rfl, fun h => h⟩
end

end Go.Dx

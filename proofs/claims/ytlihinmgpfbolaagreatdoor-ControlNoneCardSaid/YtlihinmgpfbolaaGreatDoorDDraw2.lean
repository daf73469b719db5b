/-
  A region whose order is open: the edges; the run in the text's order.
-/
import Derived.Test.YtlihinmgpfbolaaGreatDoorDDraw1
namespace Go.Dx
section

/-! ### The operations before each -/
def foldB (acc : List Nat) (o : Oper) : Nat := o.after.toList.foldl (fun s e => match Region.binds .any e with
  | true => Nat.lor (Nat.lor s (Nat.pow 2 e.on)) (match nth acc e.on with | some m => m | none => 0)
  | false => s) 0
theorem befores_cons (o : Oper) (os : List Oper) (acc : List Nat) : befores (o :: os) acc = befores os (acc ++ [foldB acc o]) := rfl
theorem befores_pre : ∀ (os : List Oper) (acc : List Nat), ∃ e, befores os acc = acc ++ e ∧ e.length = os.length
  | [], acc => ⟨[], by simp [befores], rfl⟩
  | o :: os, acc => by
    obtain ⟨e, h1, h2⟩ := befores_pre os (acc ++ [foldB acc o])
    exact ⟨foldB acc o :: e, by rw [befores_cons, h1]; simp, by simp [h2]⟩
theorem befores_at : ∀ (os : List Oper) (acc : List Nat) (j : Nat) (o : Oper), os[j]? = some o → (befores os acc)[acc.length + j]? = some (foldB ((befores os acc).take (acc.length + j)) o)
  | [], _, _, _, h => by simp at h
  | o :: os, acc, 0, o', h => by
    simp at h; subst h
    obtain ⟨e, h1, _⟩ := befores_pre os (acc ++ [foldB acc o])
    rw [befores_cons, h1]; simp
  | o :: os, acc, j + 1, o', h => by
    have := befores_at os (acc ++ [foldB acc o]) j o' (by simpa using h)
    rw [befores_cons]
    rw [List.length_append, List.length_singleton] at this
    rw [show acc.length + (j + 1) = acc.length + 1 + j by omega]
    exact this
theorem foldB_in {acc : List Nat} {o : Oper} {k : Nat} (h : isIn (foldB acc o) k = true) :
    ∃ e ∈ o.after.toList, Region.binds .any e = true ∧ (e.on = k ∨ ∃ m, nth acc e.on = some m ∧ isIn m k = true) := by
  have key : ∀ (es : List Edge) (s : Nat), isIn (es.foldl (fun s e => match Region.binds .any e with
      | true => Nat.lor (Nat.lor s (Nat.pow 2 e.on)) (match nth acc e.on with | some m => m | none => 0)
      | false => s) s) k = true → isIn s k = true ∨ ∃ e ∈ es, Region.binds .any e = true ∧ (e.on = k ∨ ∃ m, nth acc e.on = some m ∧ isIn m k = true) := by
    intro es
    induction es with
    | nil => exact fun s h => .inl h
    | cons e es ih =>
      intro s h
      rw [List.foldl_cons] at h
      rcases ih _ h with h | ⟨e', he', hb, hh⟩
      · split at h
        · rename_i hb
          unfold isIn at h
          have h' : Nat.testBit ((s ||| 2 ^ e.on) ||| (match nth acc e.on with | some m => m | none => 0)) k = true := h
          rw [Nat.testBit_or, Nat.testBit_or, Bool.or_eq_true, Bool.or_eq_true] at h'
          rcases h' with (h' | h') | h'
          · exact .inl h'
          · rw [Nat.testBit_two_pow] at h'
            exact .inr ⟨e, List.mem_cons_self, hb, .inl (by simpa using h')⟩
          · split at h'
            · rename_i m hm
              exact .inr ⟨e, List.mem_cons_self, hb, .inr ⟨m, hm, h'⟩⟩
            · simp at h'
        · exact .inl h
      · exact .inr ⟨e', List.mem_cons_of_mem _ he', hb, hh⟩
  rcases key _ 0 h with h | h
  · simp [isIn] at h
  · exact h

variable {all : List Oper}
theorem bf_len : (befores all []).length = all.length := by
  obtain ⟨e, h1, h2⟩ := befores_pre all []
  rw [h1]; simp [h2]
theorem bf_inv {i m k : Nat} {o : Oper} (ho : all[i]? = some o) (hm : nth (befores all []) i = some m) (h : isIn m k = true) :
    ∃ e ∈ o.after.toList, Region.binds .any e = true ∧ (e.on = k ∨ ∃ m', nth (befores all []) e.on = some m' ∧ isIn m' k = true) := by
  have h1 := befores_at all [] i o ho
  rw [List.length_nil, Nat.zero_add] at h1
  rw [nth_eq, h1] at hm
  cases hm
  obtain ⟨e, he, hb, hh⟩ := foldB_in h
  refine ⟨e, he, hb, hh.imp id fun ⟨m', h1, h2⟩ => ⟨m', ?_, h2⟩⟩
  rw [nth_eq] at h1 ⊢
  rw [List.getElem?_take] at h1
  split at h1
  · exact h1
  · cases h1
theorem edges_spec (h : edgesOk all = true) {i : Nat} {o : Oper} {e : Edge} (ho : all[i]? = some o) (he : e ∈ o.after.toList) (hb : Region.binds .any e = true) : e.on < i := by
  unfold edgesOk at h
  rw [List.all_eq_true] at h
  have h1 := h (o, i) (List.mem_zipIdx_iff_getElem?.2 ho)
  simp only at h1
  rw [List.all_eq_true] at h1
  have h2 := h1 e he
  rw [hb] at h2
  exact blt_t.1 h2
theorem bf_lt (h : edgesOk all = true) : ∀ (i m k : Nat), nth (befores all []) i = some m → isIn m k = true → k < i := by
  intro i
  induction i using Nat.strongRecOn with
  | _ i ih =>
    intro m k hm hk
    have hlt : i < all.length := by
      rw [nth_eq] at hm
      have := (List.getElem?_eq_some_iff.1 hm).1
      rwa [bf_len] at this
    obtain ⟨e, he, hb, hh⟩ := bf_inv (o := all[i]) (List.getElem?_eq_getElem hlt) hm hk
    have h1 := edges_spec h (List.getElem?_eq_getElem hlt) he hb
    rcases hh with rfl | ⟨m', h2, h3⟩
    · exact h1
    · have := ih _ h1 m' k h2 h3; omega
theorem slots_spec {bf : List Nat} (h : slotsOk all bf = true) {i k : Nat} {o p : Oper} {d : Tmp} (ho : all[i]? = some o) (hp : all[k]? = some p) (hd : p.dst = some d) :
    (d ∈ looks all o → i = k ∨ (∃ m, nth bf i = some m ∧ isIn m k = true) ∨ ∃ m, nth bf k = some m ∧ isIn m i = true) ∧ (o.dst = some d → i = k) := by
  unfold slotsOk at h
  rw [List.all_eq_true] at h
  have h1 := h (o, i) (List.mem_zipIdx_iff_getElem?.2 ho)
  simp only at h1
  rw [List.all_eq_true] at h1
  have h2 := h1 (p, k) (List.mem_zipIdx_iff_getElem?.2 hp)
  simp only [hd] at h2
  rw [Bool.and_eq_true, Bool.or_eq_true, Bool.or_eq_true, Bool.or_eq_true] at h2
  obtain ⟨h3, h4⟩ := h2
  constructor
  · intro hl
    rcases h3 with ((h3 | h3) | h3) | h3
    · have : (looks all o).contains d = true := by simpa using hl
      rw [this] at h3; cases h3
    · exact .inl (beq_t.1 h3)
    · split at h3
      · rename_i m hm; exact .inr (.inl ⟨m, hm, h3⟩)
      · cases h3
    · split at h3
      · rename_i m hm; exact .inr (.inr ⟨m, hm, h3⟩)
      · cases h3
  · intro hd'
    rw [Bool.or_eq_true] at h4
    rcases h4 with h4 | h4
    · exact beq_t.1 h4
    · rw [hd'] at h4; simp at h4
theorem row_spec {bf : List Nat} {L : Nat → Prop} (hL : ∀ k m l, L k → nth bf k = some m → isIn m l = true → L l) : ∀ (os : List Oper) (n : Nat) (last : Option Nat), rowOk bf (os.zipIdx n) last = true →
    ∀ j p, os[j]? = some p → anchorOp p.op = true → L (n + j) → (∀ k0, last = some k0 → L k0) ∧ ∀ i p', i < j → os[i]? = some p' → anchorOp p'.op = true → L (n + i)
  | [], _, _, _, _, _, h, _, _ => by simp at h
  | o :: os, n, last, h, j, p, hp, ha, hj => by
    rw [List.zipIdx_cons] at h
    simp only [rowOk] at h
    split at h
    · rename_i hna
      cases j with
      | zero => simp at hp; subst hp; rw [hna] at ha; cases ha
      | succ j =>
        obtain ⟨h1, h2⟩ := row_spec hL os (n + 1) last h j p (by simpa using hp) ha (by rw [show n + 1 + j = n + (j + 1) by omega]; exact hj)
        refine ⟨h1, fun i p' hi hp' ha' => ?_⟩
        cases i with
        | zero => simp at hp'; subst hp'; rw [hna] at ha'; cases ha'
        | succ i => rw [show n + (i + 1) = n + 1 + i by omega]; exact h2 i p' (by omega) (by simpa using hp') ha'
    · have hnL : ∀ k0, last = some k0 → L n → L k0 := by
        intro k0 hk hn
        subst hk
        simp only [Bool.and_eq_true] at h
        have h1 := h.1
        split at h1
        · rename_i m hm; exact hL n m k0 hn hm h1
        · cases h1
      have hrow : rowOk bf (os.zipIdx (n + 1)) (some n) = true := by
        cases last with
        | none => exact h
        | some k0 => simp only [Bool.and_eq_true] at h; exact h.2
      cases j with
      | zero => exact ⟨fun k0 hk => hnL k0 hk (by simpa using hj), fun i _ hi => by omega⟩
      | succ j =>
        obtain ⟨h1, h2⟩ := row_spec hL os (n + 1) (some n) hrow j p (by simpa using hp) ha (by rw [show n + 1 + j = n + (j + 1) by omega]; exact hj)
        refine ⟨fun k0 hk => hnL k0 hk (h1 n rfl), fun i p' hi hp' ha' => ?_⟩
        cases i with
        | zero => exact h1 n rfl
        | succ i => rw [show n + (i + 1) = n + 1 + i by omega]; exact h2 i p' (by omega) (by simpa using hp') ha'

/-! ### The run in the text's order -/
variable {rec : Rec} {G : Ctx} {nt : Nat} {bf : List Nat}
inductive StepIs (rec : Rec) (G : Ctx) (nt : Nat) (all : List Oper) (bf : List Nat) (o : Oper) (i : Nat) (d : Drawn) : Drawn → Prop
  | skip (hw : wantedD all d.a o.guard = some false) : StepIs rec G nt all bf o i d { a := putD nt d.a o.dst undefD, s := d.s, pend := d.pend, ts := d.ts, ents := d.ents ++ [.skip], next := d.next }
  | alloc (hw : wantedD all d.a o.guard = some true) (t : AK) (ht : allocOp o.op = some t) (z : AObj) (hz : akObj G t = some z) :
      StepIs rec G nt all bf o i d { a := putD nt d.a o.dst (akVal t d.next), s := d.s, pend := d.pend ++ [(i, d.next, t)], ts := d.ts, ents := d.ents ++ [.alc d.next], next := Nat.succ d.next }
  | float (hw : wantedD all d.a o.guard = some true) (ht : allocOp o.op = none) (ha : anchorOp o.op = false) (v : SV) (s1 : St) (he : execD G d.a d.s o.op = .val v s1) :
      StepIs rec G nt all bf o i d { a := putD nt d.a o.dst v, s := d.s, pend := d.pend, ts := d.ts, ents := d.ents ++ [.flt v d.a], next := d.next }
  | anchor (hw : wantedD all d.a o.guard = some true) (ht : allocOp o.op = none) (ha : anchorOp o.op = true) (m : Nat) (hm : nth bf i = some m) (p : List (Nat × Nat × AK)) (u : St) (hl : layBy G (isIn m) d.pend d.s = some (p, u)) (v : SV) (s' : St)
      (he : opD rec G d.a u o.op = .ret v s') : StepIs rec G nt all bf o i d { a := putD nt d.a o.dst v, s := s', pend := p, ts := d.ts ++ [s'], ents := d.ents ++ [.anc v], next := d.next }
theorem step_is {o : Oper} {i : Nat} {d d' : Drawn} (h : step1 rec G nt all bf o i d = some d') : StepIs rec G nt all bf o i d d' := by
  unfold step1 at h
  split at h
  · cases h
  · rename_i hw; cases h; exact .skip hw
  · rename_i hw
    split at h
    · rename_i t ht
      split at h
      · rename_i z hz; cases h; exact .alloc hw t ht z hz
      · cases h
    · rename_i ht
      split at h
      · rename_i ha
        split at h
        · rename_i v s1 he; cases h; exact .float hw ht ha v s1 he
        · cases h
      · rename_i ha
        split at h
        · cases h
        · rename_i m hm
          split at h
          · cases h
          · rename_i p u hl
            split at h
            · cases h
            · rename_i v s' he; cases h; exact .anchor hw ht ha m hm p u hl v s' he

theorem pass1_seq : ∀ (os : List Oper) (i : Nat) (d D : Drawn), pass1 rec G nt all bf os i d = some D →
    ∃ dT : Nat → Drawn, dT i = d ∧ dT (i + os.length) = D ∧ ∀ j o, os[j]? = some o → StepIs rec G nt all bf o (i + j) (dT (i + j)) (dT (i + j + 1))
  | [], i, d, D, h => by
    simp only [pass1] at h; cases h
    exact ⟨fun _ => d, rfl, rfl, fun j o h => by simp at h⟩
  | o :: os, i, d, D, h => by
    simp only [pass1] at h
    split at h
    · cases h
    · rename_i d1 h1
      obtain ⟨dT, t1, t2, t3⟩ := pass1_seq os (i + 1) d1 D h
      refine ⟨fun k => if k = i then d else dT k, if_pos rfl, ?_, fun j o' hj => ?_⟩
      · show (if i + (o :: os).length = i then d else dT (i + (o :: os).length)) = D
        rw [if_neg (by simp), List.length_cons, show i + (os.length + 1) = i + 1 + os.length by omega]; exact t2
      · show StepIs rec G nt all bf o' (i + j) (if i + j = i then d else dT (i + j)) (if i + j + 1 = i then d else dT (i + j + 1))
        rw [if_neg (show ¬ i + j + 1 = i by omega)]
        cases j with
        | zero => simp at hj; subst hj; rw [if_pos (by omega)]; rw [Nat.add_zero, t1]; exact step_is h1
        | succ j =>
          rw [if_neg (by omega)]
          have := t3 j o' (by simpa using hj)
          rw [show i + (j + 1) = i + 1 + j by omega]; exact this
end
end Go.Dx

/-
  Rows: from a quiet call to a row's word; an event that is handed in, opened.
-/
import Derived.Test.YtlihinmgpfbolaaGreatDoorDSmall
import Derived.Below
import Derived.ChangeSame
import Derived.ReadAgain
import Derived.ChangeArms
import Derived.OpenShut
import Derived.RowKit
namespace Go.Dx
open Go.ChangeShapes Go.WideShapes Go.RowKit
section
variable {H : Type} {enc : TypeId × Value → H} {P : Program} {W W' : World}

theorem Calm.below (h : Calm W W') : Below W.heap.size W W' := ⟨h.os, h.tape, h.out, h.size, h.same⟩
theorem Calm.sameAt (h : Calm W W') {p : MemPlace} (hp : p.block < W.heap.size) : W.sameAt W' p := by
  cases p with
  | cell b off => exact h.below.cell (p := ⟨b, off, none⟩) hp
  | map b => exact h.same b hp

theorem trodAll_calm (hc : Calm W W') {base : Nat} {sp : Nat → Bool} {held : Bool} : ∀ {ts : List TypeId} {vs : List Value} {ds : List (DataW H)} {ps : List MemPlace}, DataW.TrodAll enc P W base sp held ts vs ds ps → (∀ p ∈ ps, p.block < W.heap.size) → DataW.TrodAll enc P W' base sp held ts vs ds ps
  | [], [], [], _, h, _ => h
  | _ :: _, _ :: _, _ :: _, _, ⟨p, q, ⟨n, h1⟩, h2, e⟩, hs =>
    ⟨p, q, ⟨n, DataW.trod_carry n _ _ _ h1 fun x hx => hc.sameAt (hs x (by rw [e]; exact List.mem_append_left _ hx))⟩, trodAll_calm hc h2 (fun x hx => hs x (by rw [e]; exact List.mem_append_right _ hx)), e⟩

/-- The row's word of a quiet call that answers true. -/
theorem quiet_post (hl : laidOutB P = true) (hm : mapsRowed P = true) (hz : ((List.range P.types.size).all fun t => match P.underlying t with | some (.slice e) => decide (0 < P.cellsOf e) | _ => true) = true) {f : Func} {s : ChangeSpec} {apart fresh handsOn again : Bool} {args : Array Value} {ds : List (DataW H)} {before : List MemPlace}
    (hts : f.params.toList.all (fun t => decide (t < P.types.size)) = true) (hv : s.vars = []) (hfn : s.fn H ds = { results := [.lit (.bool true)], args := ds }) {tb : TypeId} (hr : f.resultTypes = #[tb]) (hb : P.underlying tb = some .bool)
    (hW : DataW.Whole enc P f.params.toList s.vars apart W args.toList ds [] before) (hc : Calm W W') : s.post enc P f apart fresh handsOn again W args (.bool true) W' := by
  have hlt : ∀ p ∈ before, p.block < W.heap.size := fun p hp => hW.lt p hp
  have hold : ∀ p ∈ before, (fun b => decide (b < W.heap.size)) p.block = true := fun p hp => by simpa using hlt p hp
  obtain ⟨p, q, hA, hV, rfl, hz', hn⟩ := hW
  have hW : DataW.Whole enc P f.params.toList s.vars apart W args.toList ds [] (p ++ q) := ⟨p, q, hA, hV, rfl, hz', hn⟩
  have hV' := hV
  rw [hv] at hV'
  obtain ⟨_, rfl⟩ := trodVars_none hV'
  rw [List.append_nil] at hlt hold hW hz' hn
  have hargs : ∀ sp : Nat → Bool, (∀ x ∈ p, sp x.block = true) → DataW.TrodAll enc P W' 0 sp true f.params.toList args.toList ds p := fun sp hsp =>
    DataW.TrodAll.respare (kids_rows hl hm) (slices_full_of P hz) (fun t ht => of_decide_eq_true (List.all_eq_true.1 hts t ht)) (trodAll_calm hc hA hlt) hsp
  have hres : ∀ (b : Nat) (sp : Nat → Bool) (hd : Bool), DataW.TrodAll enc P W' b sp hd f.resultTypes.toList ((Value.bool true).resultList f.resultTypes.size) [.lit (.bool true)] [] := fun b sp hd => by
    rw [hr]; exact trodAll_mk1 (shut_bool hb true)
  have hvars : ∀ sp : Nat → Bool, DataW.TrodVars enc P W' sp s.vars [] [] := fun sp => by rw [hv]; rfl
  have e1 : s.fn H (ds ++ []) = { results := [.lit (.bool true)], args := ds } := by rw [List.append_nil]; exact hfn
  refine ⟨ds, [], p, [], p, [], hW, by rw [e1]; exact hres _ _ _, by rw [e1]; exact hargs _ hold, by rw [e1]; exact hvars _, World.keptBut_mono (fun x hx => ⟨hx, ?_⟩) (hc.below.frame (· ∈ p)), fun _ => ?_⟩
  · exact .inr (by simpa using hx)
  · refine ⟨ok_one hr rfl (okWide_bool_mk hb true), _, _, ([] ++ p) ++ [], ⟨[] ++ p, [], trodAll_append (hargs _ (fun _ _ => rfl)) (hres _ _ _), hvars _, rfl, ?_, ?_⟩, ?_⟩
    · intro b off hp
      have hin : MemPlace.cell b off ∈ p := by simpa using hp
      rw [hc.below.frozen (hlt _ hin)]
      exact hz' b off hin
    · intro ha
      simpa using hn ha
    · intro x hx _; simpa using hx

/-! ### An event that is handed in -/
def scal (P : Program) (t : TypeId) : Bool := match P.underlying t with
  | some (.int _) | some .string | some .bool | some (.slice _) => true
  | _ => false
theorem scal_one {base : Nat} {sp : Nat → Bool} {held : Bool} {n : Nat} {t : TypeId} {cs : List Value} {x : DataW H × List MemPlace} (ht : scal P t = true) (h : DataW.trod enc P W base sp held n t cs = some x) : ∃ v, cs = [v] ∧ v.oneCell' = true := by
  unfold scal at ht
  split at ht
  · rename_i hu; obtain ⟨m, rfl, _⟩ := DataW.trod_int hu h; exact ⟨_, rfl, rfl⟩
  · rename_i hu; obtain ⟨m, rfl, _⟩ := DataW.trod_string hu h; exact ⟨_, rfl, rfl⟩
  · rename_i hu; obtain ⟨m, rfl, _⟩ := DataW.trod_bool hu h; exact ⟨_, rfl, rfl⟩
  · rename_i hu
    rcases DataW.trod_slice hu h with ⟨rfl, _⟩ | ⟨a, len, cap, _, _, _, _, rfl, _⟩ <;> exact ⟨_, rfl, rfl⟩
  · cases ht
/-- Field i of a structure lies at cell o, alone, of a type with that property. -/
def fieldIs (P : Program) (fs : Array Field) (i o n : Nat) (p : TypeId → Bool) : Bool := match fs[i]? with
  | some f => Nat.beq f.offset o && Nat.beq (P.cellsOf f.type) n && p f.type
  | none => false
theorem fieldIs_inv {fs : Array Field} {i o n : Nat} {p : TypeId → Bool} (h : fieldIs P fs i o n p = true) : ∃ f, fs[i]? = some f ∧ f.offset = o ∧ P.cellsOf f.type = n ∧ p f.type = true := by
  unfold fieldIs at h
  split at h
  · rename_i f hf
    simp only [Bool.and_eq_true] at h
    exact ⟨f, hf, beq_t.1 h.1.1, beq_t.1 h.1.2, h.2⟩
  · cases h
def evShape (P : Program) (te tl : TypeId) : Bool := match P.underlying te with
  | some (.struct fs) => Nat.beq (P.cellsOf te) 10 && (List.range 9).all (fun j => fieldIs P fs j j 1 (scal P)) && fieldIs P fs 9 9 1 (fun t => Nat.beq t tl)
  | _ => false
def intT (P : Program) (t : TypeId) : Bool := match P.underlying t with
  | some (.int .i64) => true
  | _ => false
def strT (P : Program) (t : TypeId) : Bool := match P.underlying t with
  | some .string => true
  | _ => false
def slT (P : Program) (t : TypeId) : Bool := match P.underlying t with
  | some (.slice _) => true
  | _ => false
def arr4 (P : Program) (t : TypeId) : Bool := match P.underlying t with
  | some (.array 4 e) => Nat.beq (P.cellsOf e) 1 && scal P e
  | _ => false
def spShape (P : Program) (ts : TypeId) : Bool := match P.underlying ts with
  | some (.struct fs) => Nat.beq (P.cellsOf ts) 13 && fieldIs P fs 0 0 1 (strT P) && fieldIs P fs 1 1 1 (strT P) && fieldIs P fs 2 2 1 (scal P) && fieldIs P fs 3 3 4 (arr4 P) && fieldIs P fs 4 7 1 (scal P) && fieldIs P fs 5 8 1 (scal P) &&
      fieldIs P fs 6 9 1 (intT P) && fieldIs P fs 7 10 1 (scal P) && fieldIs P fs 8 11 1 (scal P) && fieldIs P fs 9 12 1 (slT P)
  | _ => false

theorem drop_take_one {cs : List Value} {o : Nat} {v : Value} (h : (cs.drop o).take 1 = [v]) : cs[o]? = some v := by
  have := congrArg (fun l => l[0]?) h
  simpa [List.getElem?_take, List.getElem?_drop] using this
theorem field_one {base : Nat} {sp : Nat → Bool} {held : Bool} {n : Nat} {fs : Array Field} {cs : List Value} {xs : List (DataW H × List MemPlace)} (hx : xs.length = fs.size)
    (h : ∀ (i : Nat) (f : Field), fs[i]? = some f → DataW.trod enc P W base sp held n f.type ((cs.drop f.offset).take (P.cellsOf f.type)) = xs[i]?) {i o m : Nat} {p : TypeId → Bool} (hf : fieldIs P fs i o m p = true) :
    ∃ t x, p t = true ∧ DataW.trod enc P W base sp held n t ((cs.drop o).take m) = some x := by
  obtain ⟨f, h1, rfl, rfl, h4⟩ := fieldIs_inv hf
  have := h i f h1
  have hi : i < xs.length := by rw [hx]; exact (Array.getElem?_eq_some_iff.1 h1).1
  rw [List.getElem?_eq_getElem hi] at this
  exact ⟨f.type, _, h4, this⟩

theorem add_add (a : Addr) (m n : Nat) : (a.add m).add n = a.add (m + n) := by
  unfold Addr.add
  by_cases h1 : m = 0
  · subst h1; simp
  · by_cases h2 : n = 0
    · subst h2; simp [h1]
    · rw [if_neg h1, if_neg h2, if_neg (by omega)]; simp [Nat.add_assoc]
/-- What a spec in memory is. -/
theorem sp_open {base : Nat} {sp : Nat → Bool} {held : Bool} {n : Nat} {ts : TypeId} {cs : List Value} {x : DataW H × List MemPlace} (hs : spShape P ts = true) (h : DataW.trod enc P W base sp held n ts cs = some x) :
    cs.length = 13 ∧ (∀ j V, j < 13 → cs[j]? = some V → V.oneCell' = true) ∧ (∃ s : ByteArray, cs[0]? = some (.string s) ∧ s.size ≤ maxLen) ∧ (∃ s : ByteArray, cs[1]? = some (.string s) ∧ s.size ≤ maxLen) ∧
      (∃ x : Int, cs[9]? = some (.int .i64 x) ∧ (Lit.int .i64 x).wf = true) ∧ ∃ p m c, cs[12]? = some (.slice p m c) ∧ m ≤ maxLen := by
  unfold spShape at hs
  split at hs
  · rename_i fs hu
    simp only [Bool.and_eq_true] at hs
    obtain ⟨⟨⟨⟨⟨⟨⟨⟨⟨⟨k, k0⟩, k1⟩, k2⟩, k3⟩, k4⟩, k5⟩, k6⟩, k7⟩, k8⟩, k9⟩ := hs
    obtain ⟨xs, m, rfl, _, hl, hx, hf⟩ := DataW.trod_struct hu h
    rw [beq_t.1 k] at hl
    obtain ⟨t0, _, p0, g0⟩ := field_one hx hf k0
    obtain ⟨t1, _, p1, g1⟩ := field_one hx hf k1
    obtain ⟨t2, _, p2, g2⟩ := field_one hx hf k2
    obtain ⟨t3, x3, p3, g3⟩ := field_one hx hf k3
    obtain ⟨t4, _, p4, g4⟩ := field_one hx hf k4
    obtain ⟨t5, _, p5, g5⟩ := field_one hx hf k5
    obtain ⟨t6, _, p6, g6⟩ := field_one hx hf k6
    obtain ⟨t7, _, p7, g7⟩ := field_one hx hf k7
    obtain ⟨t8, _, p8, g8⟩ := field_one hx hf k8
    obtain ⟨t9, _, p9, g9⟩ := field_one hx hf k9
    have c0 : ∃ s : ByteArray, cs[0]? = some (.string s) ∧ s.size ≤ maxLen := by
      unfold strT at p0; split at p0
      · rename_i hu0; obtain ⟨s, e, _, hm⟩ := DataW.trod_string hu0 g0; exact ⟨s, drop_take_one e, hm⟩
      · cases p0
    have c1 : ∃ s : ByteArray, cs[1]? = some (.string s) ∧ s.size ≤ maxLen := by
      unfold strT at p1; split at p1
      · rename_i hu0; obtain ⟨s, e, _, hm⟩ := DataW.trod_string hu0 g1; exact ⟨s, drop_take_one e, hm⟩
      · cases p1
    have c9 : ∃ x : Int, cs[9]? = some (.int .i64 x) ∧ (Lit.int .i64 x).wf = true := by
      unfold intT at p6; split at p6
      · rename_i hu0; obtain ⟨s, e, _, hm⟩ := DataW.trod_int hu0 g6; exact ⟨s, drop_take_one e, hm⟩
      · cases p6
    have c12 : ∃ p m c, cs[12]? = some (.slice p m c) ∧ m ≤ maxLen := by
      unfold slT at p9; split at p9
      · rename_i hu0
        rcases DataW.trod_slice hu0 g9 with ⟨e, _⟩ | ⟨a, len, cap, _, _, _, _, e, _, _, h1, h2, _⟩
        · exact ⟨_, _, _, drop_take_one e, Nat.zero_le _⟩
        · exact ⟨_, _, _, drop_take_one e, Nat.le_trans h1 h2⟩
      · cases p9
    have one : ∀ {t o x}, scal P t = true → DataW.trod enc P W base sp held m t ((cs.drop o).take 1) = some x → ∀ V, cs[o]? = some V → V.oneCell' = true := fun p g V hV => by
      obtain ⟨v, e, hv⟩ := scal_one p g
      rw [drop_take_one e] at hV; cases hV; exact hv
    have four : ∀ j, j < 4 → ∀ V, cs[3 + j]? = some V → V.oneCell' = true := by
      unfold arr4 at p3; split at p3
      · rename_i e hu3
        simp only [Bool.and_eq_true] at p3
        obtain ⟨ys, m', rfl, _, _, hy, hz⟩ := DataW.trod_array hu3 g3
        intro j hj V hV
        have hz' := hz j hj
        rw [beq_t.1 p3.1, List.getElem?_eq_getElem (by omega)] at hz'
        obtain ⟨v, e, hv⟩ := scal_one p3.2 hz'
        have := drop_take_one e
        rw [List.getElem?_take, if_pos (by omega), List.getElem?_drop, Nat.mul_one] at this
        rw [this] at hV; cases hV; exact hv
      · cases p3
    refine ⟨hl, fun j V hj hV => ?_, c0, c1, c9, c12⟩
    match j, hj, hV with
    | 0, _, hV => obtain ⟨s, e, _⟩ := c0; rw [e] at hV; cases hV; rfl
    | 1, _, hV => obtain ⟨s, e, _⟩ := c1; rw [e] at hV; cases hV; rfl
    | 2, _, hV => exact one p2 g2 V hV
    | 3, _, hV => exact four 0 (by omega) V hV
    | 4, _, hV => exact four 1 (by omega) V hV
    | 5, _, hV => exact four 2 (by omega) V hV
    | 6, _, hV => exact four 3 (by omega) V hV
    | 7, _, hV => exact one p4 g4 V hV
    | 8, _, hV => exact one p5 g5 V hV
    | 9, _, hV => obtain ⟨s, e, _⟩ := c9; rw [e] at hV; cases hV; rfl
    | 10, _, hV => exact one p7 g7 V hV
    | 11, _, hV => exact one p8 g8 V hV
    | 12, _, hV => obtain ⟨p, m, c, e, _⟩ := c12; rw [e] at hV; cases hV; rfl
    | j + 13, hj, _ => exact absurd hj (by omega)
  · cases hs

/-- The numbers of the specs behind a slice. -/
noncomputable def specN (w : World) (sa : Option Addr) : SpecN :=
  let c : Nat → Nat → Value := fun k j => match sa with
    | some a => match w.cell? (a.add (k * 13 + j)) with
      | some v => v
      | none => .bool true
    | none => .bool true
  { la := fun k => match c k 12 with | .slice _ n _ => n | _ => 0
    lu := fun k => match c k 0 with | .string s => s.size | _ => 0
    lp := fun k => match c k 1 with | .string s => s.size | _ => 0
    x := fun k => match c k 9 with | .int _ n => n | _ => 0 }

/-- An event that is handed in: ten cells; its specs. -/
theorem ev_open {sp : Nat → Bool} {held : Bool} {te tl ts : TypeId} {v : Value} {d : DataW H} {ps : List MemPlace} (he : evShape P te tl = true) (hl : P.underlying tl = some (.slice ts)) (hs : spShape P ts = true) (h : DataW.Trod enc P W 0 sp held te v d ps) :
    ∃ (E : Nat → Value) (sa : Option Addr) (L cap : Nat), v = .agg #[E 0, E 1, E 2, E 3, E 4, E 5, E 6, E 7, E 8, E 9] ∧ (∀ j, j < 10 → (E j).oneCell' = true) ∧ E 9 = .slice sa L cap ∧ (L : Int) ≤ 9223372036854775807 ∧
      ∀ k, k < L → ∀ bad, W.heap.size ≤ bad → SpecAt W bad sa (specN W sa) k := by
  obtain ⟨n, h⟩ := h
  unfold evShape at he
  split at he
  · rename_i fs hu
    simp only [Bool.and_eq_true] at he
    obtain ⟨⟨k, k0⟩, k9⟩ := he
    obtain ⟨xs, m, rfl, _, hlen, hx, hf⟩ := DataW.trod_struct hu h
    rw [beq_t.1 k] at hlen
    have hagg : ∃ A : Array Value, v = .agg A ∧ A.size = 10 := by
      cases v <;> first | exact ⟨_, rfl, by simpa [Value.cells] using hlen⟩ | (simp [Value.cells] at hlen)
    obtain ⟨A, rfl, hA⟩ := hagg
    have hcs : (Value.agg A).cells.toList = A.toList := rfl
    rw [hcs] at hf
    have hget : ∀ j, j < 10 → A.toList[j]? = some (A.getD j undef) := fun j hj => by
      rw [Array.getD_eq_getD_getElem?, Array.getElem?_toList, Array.getElem?_eq_getElem (by omega)]; rfl
    obtain ⟨t9, x9, p9, g9⟩ := field_one hx hf k9
    rw [beq_t.1 p9] at g9
    have e9 : ∃ sa L cap, A.toList[9]? = some (.slice sa L cap) ∧ L ≤ maxLen ∧ ∀ i, i < L → ∃ a cs n' y, sa = some a ∧ W.cells? 0 (a.add (i * P.cellsOf ts)) (P.cellsOf ts) = some cs ∧ DataW.trod enc P W 0 sp held n' ts cs = some y := by
      rcases DataW.trod_slice hl g9 with ⟨e, _⟩ | ⟨a, len, cap, elems, _, n', _, e, _, _, h1, h2, h3, h4, _⟩
      · exact ⟨none, 0, 0, drop_take_one e, Nat.zero_le _, fun i hi => by omega⟩
      · refine ⟨some a, len, cap, drop_take_one e, Nat.le_trans h1 h2, fun i hi => ?_⟩
        have := h4 i hi
        rw [List.getElem?_eq_getElem (by omega), Option.bind_eq_some_iff] at this
        obtain ⟨cs, c1, c2⟩ := this
        exact ⟨a, cs, n', _, rfl, c1, c2⟩
    obtain ⟨sa, L, cap, e9, hLm, hel⟩ := e9
    have hE : ∀ j, j < 10 → (A.getD j undef).oneCell' = true := fun j hj => by
      by_cases e : j = 9
      · have := hget 9 (by omega); rw [e9] at this; rw [e]; cases this' : A.getD 9 undef <;> simp [this'] at this <;> rfl
      · have hj' : fieldIs P fs j j 1 (scal P) = true := List.all_eq_true.1 k0 j (List.mem_range.2 (by omega))
        obtain ⟨t, x, p, g⟩ := field_one hx hf hj'
        obtain ⟨v, e, hv⟩ := scal_one p g
        have h1 := drop_take_one e
        rw [hget j hj] at h1; cases h1; exact hv
    refine ⟨fun j => A.getD j undef, sa, L, cap, ?_, hE, ?_, ?_, fun k hk bad hbad => ?_⟩
    · congr 1
      apply Array.ext
      · simp [hA]
      · intro i h1 h2
        have h10 : i < 10 := by omega
        have := hget i h10
        rw [Array.getElem?_toList, Array.getElem?_eq_getElem h1] at this
        have e := Option.some.inj this
        rw [e]
        match i, h10 with
        | 0, _ | 1, _ | 2, _ | 3, _ | 4, _ | 5, _ | 6, _ | 7, _ | 8, _ | 9, _ => rfl
        | i + 10, h => exact absurd h (by omega)
    · have := hget 9 (by omega); rw [e9] at this; exact (Option.some.inj this).symm
    · unfold maxLen at hLm; omega
    · obtain ⟨a, cs, n', y, rfl, c1, c2⟩ := hel k hk
      obtain ⟨q1, q2, ⟨s0, g0, m0⟩, ⟨s1, g1, m1⟩, ⟨x9, g9, m9⟩, p12, n12, c12, g12, m12⟩ := sp_open hs c2
      have hc13 : P.cellsOf ts = 13 := by
        unfold spShape at hs; split at hs
        · simp only [Bool.and_eq_true] at hs; exact beq_t.1 hs.1.1.1.1.1.1.1.1.1.1
        · cases hs
      rw [hc13] at c1
      have hcell : ∀ j v, cs[j]? = some v → W.cell? (a.add (k * 13 + j)) = some v := fun j v hj => by
        have hj13 : j < 13 := by rw [← q1]; exact (List.getElem?_eq_some_iff.1 hj).1
        have := ((World.cells?_some c1).2.2 j hj13).trans hj
        have e : (a.add (k * 13)).add j = a.add (k * 13 + j) := add_add a _ _
        rw [← e]; exact this
      have h0 := hcell 0 _ g0
      have hspot : a.spot = none := by
        obtain ⟨a', cs', n'', y', e', c1', c2'⟩ := hel 0 (by omega)
        cases e'
        obtain ⟨q1', _⟩ := sp_open hs c2'
        rw [hc13] at c1'
        have hz := (World.cells?_some c1').2.2 0 (by omega)
        rw [List.getElem?_eq_getElem (by omega)] at hz
        unfold World.cell? at hz
        simp only [Addr.add, Nat.zero_mul, if_true] at hz
        split at hz
        · split at hz
          · cases hz
          · rename_i hsp; simpa using hsp
        · cases hz
      have hin : ∃ C e fr, W.heap[a.block]? = some (.cells C e fr) := by
        unfold World.cell? at h0
        split at h0
        · rename_i C e fr hb
          have hb' : W.heap[a.block]? = some (.cells C e fr) := by
            rw [← hb]; congr 1; unfold Addr.add; split <;> rfl
          exact ⟨C, e, fr, hb'⟩
        · cases h0
      obtain ⟨C, e, fr, hb⟩ := hin
      have hC : ∀ j v, cs[j]? = some v → C[a.off + k * 13 + j]? = some v := fun j v hj => by
        have := hcell j v hj
        have e : a.add (k * 13 + j) = ⟨a.block, a.off + k * 13 + j, none⟩ := by
          unfold Addr.add; split
          · rename_i h0; rw [← hspot]; have : k * 13 = 0 := by omega
            have : j = 0 := by omega
            cases a; simp_all
          · rw [Nat.add_assoc]
        rw [e, cell_of_block hb] at this
        exact this
      have hC' : ∀ j V, j < 13 → C[a.off + k * 13 + j]? = some V → cs[j]? = some V := fun j V hj hV => by
        have hj' : j < cs.length := by rw [q1]; exact hj
        have := hC j _ (List.getElem?_eq_getElem hj')
        rw [hV] at this; cases this; exact List.getElem?_eq_getElem hj'
      have hblk : a.block < W.heap.size := (Array.getElem?_eq_some_iff.1 hb).1
      have hsize : a.off + k * 13 + 13 ≤ C.size := by
        have := (Array.getElem?_eq_some_iff.1 (hC 12 _ g12)).1; omega
      have w12 := hcell 12 _ g12
      have w9 := hcell 9 _ g9
      have w1 := hcell 1 _ g1
      have wf : -9223372036854775808 ≤ x9 ∧ x9 ≤ 9223372036854775807 := by simpa [Lit.wf, IntKind.min, IntKind.max, IntKind.signed, IntKind.bits] using m9
      unfold maxLen at m0 m1 m12
      refine ⟨a.block, a.off, C, e, fr, by rw [← hspot], by omega, hb, hsize, fun j V hj hV => q2 j V hj (hC' j V hj hV), ⟨s0, hC 0 _ g0, ?_⟩, ⟨s1, hC 1 _ g1, ?_⟩, ⟨?_, ?_, ?_⟩, ⟨p12, n12, c12, hC 12 _ g12, ?_⟩, ?_⟩
      · simp only [specN, h0]
      · simp only [specN, w1]
      · have : (specN W (some a)).x k = x9 := by simp only [specN, w9]
        rw [this]; exact hC 9 _ g9
      · simp only [specN, w9]; exact wf.1
      · simp only [specN, w9]; exact wf.2
      · simp only [specN, w12]
      · simp only [specN, h0, w1, w12]; omega
  · cases he

/-! ### 'awake' and 'small' as known answers -/
def envL (E : Nat → Value) (f : Nat → Int) : Env where
  int := f
  val j := one1 (E j)
  one _ := one1_one _

theorem evAt_of_row {η : Env} {ρ : Pls} {s : St} {w : World} (hR : Rep η ρ s w) {E : Nat → Value} (hE : ∀ j, j < 10 → η.val j = E j) (h1 : ∀ j, j < 10 → (E j).oneCell' = true) {args : List SV} {A : Array Value} (hA : VRL η ρ args A.toList)
    (hm : orcMatch s args (.row 1 evCells) = true) : ∃ b o p i x, A = #[.slice (some ⟨b, o, none⟩) 1 1] ∧ EvAt w b o E ∧ s.heap.get i = some x ∧ x.wrt = true ∧ ρ i = some p ∧ p.b = b := by
  unfold orcMatch at hm
  simp only at hm
  split at hm
  · rename_i i o m c
    split at hm
    · rename_i cs _ _ _ _ hm1 hc1 hcs hblk
      have hb := bL_eq hm
      rw [hb] at hcs
      obtain ⟨mm, t, e, opn, frz, g1, g2, g3⟩ := readD_inv hcs
      obtain ⟨p, hp, hO⟩ := hR.obj i _ g1
      obtain ⟨L, l1, l2, l3⟩ := blk_cells hO g2 g3
      obtain rfl := beq_t.1 hm1
      obtain rfl := beq_t.1 hc1
      obtain ⟨CC, e', fr, k1, k2, k3, _⟩ := hO
      cases hA' : A.toList with
      | nil => rw [hA'] at hA; cases hA
      | cons V r =>
        rw [hA'] at hA
        cases hA with
        | cons hv hr =>
          cases hr
          obtain ⟨q, hq, rfl⟩ := hv.sl_inv
          rw [hp] at hq; cases hq
          refine ⟨p.b, p.base + o, p, i, _, Array.ext' hA', ⟨⟨CC, e', fr, k1, ?_, fun j hj => ?_⟩, h1⟩, hblk, rfl, hp, rfl⟩
          · have : evCells.length = 10 := rfl
            omega
          · have hev : evCells[j]? = some (.opq j) := by
              match j, hj with
              | 0, _ | 1, _ | 2, _ | 3, _ | 4, _ | 5, _ | 6, _ | 7, _ | 8, _ | 9, _ => rfl
              | j + 10, h => exact absurd h (by omega)
            obtain ⟨V, v1, v2⟩ := l1.get hev
            have hc := l3 j V v1
            rw [cell_of_block k1] at hc
            have : V = η.val j := by cases v2; rfl
            rw [this, hE j hj] at hc
            exact hc
    · cases hm
  · cases hm

/-- The law's run, where 'awake' is true and 'small' is r. -/
theorem gf_law {G : Ctx} {P : Program} {E : Nat → Value} {f : Nat → Int} {r : Bool} {fa fs : FuncId} {ρ : Pls} {s : St} (hg : ∀ g n, G.glb.get g = some n → ρ g = some ⟨g, 0, n⟩) (hf : ∀ i o, s.heap.get i = some o → o.wrt = false) (hi : G.itab = []) (hd : ∀ f x, G.dq.get f = some x → ∀ (A : Array Value) (n : Nat) (w' : World), CallsDIn Fence.wide n P f A .returning w' (fun e u w2 => ∃ V, e = .returned V ∧ u = .returning ∧ w2 = w')) (ho : G.orc = (PM.nil.set fa { pat := .args [], ans := .bool true }).set fs { pat := .row 1 evCells, ans := .bool r }) (h1 : ∀ j, j < 10 → (E j).oneCell' = true)
    {W : World} (hA : ∀ n w, Calm W w → CallsIn Fence.wide n P fa #[] w (fun e w' => e = .returned (.bool true) ∧ Calm w w'))
    (hS : ∀ n w b o, EvAt w b o E → W.heap.size ≤ b → Calm W w → CallsIn Fence.wide n P fs #[.slice (some ⟨b, o, none⟩) 1 1] w (fun e w' => e = .returned (.bool r) ∧ Calm w w')) :
    GF G P (envL E f) ρ s W := by
  refine ⟨⟨hg, fun e he => by rw [hi] at he; cases he⟩, fun ρ' s' w' hE hR g o hgo args A n hVL hm => ?_, hd⟩
  have hcalm : Calm W w' := hE.calm hf
  rw [ho, PM.get_set] at hgo
  split at hgo
  · rename_i e
    cases hgo; subst e
    obtain ⟨b, oo, p, i, x, rfl, hEv, hx, hw, hp, hpb⟩ := evAt_of_row (E := E) hR (fun j hj => one1_eq (h1 j hj)) h1 hVL hm
    have hb : W.heap.size ≤ b := by
      rcases hE.own i x p hx hp with h | ⟨j, o', q, hj, _, _, ho'⟩
      · omega
      · have := ho' hw
        rw [hf j o' hj] at this; cases this
    refine (hS n w' b oo hEv hb hcalm).mono fun e w2 he => ?_
    obtain ⟨rfl, hc⟩ := he
    exact ⟨_, rfl, .bool r, hR.calm hc, hc.ext⟩
  · rw [PM.get_set] at hgo
    split at hgo
    · rename_i e
      cases hgo; subst e
      have : args = [] := by
        have h' : bL args [] = true := hm
        exact bL_eq h'
      subst this
      have hAe : A = #[] := by
        cases hA' : A.toList with
        | nil => exact Array.ext' (by rw [hA'])
        | cons V r => rw [hA'] at hVL; cases hVL
      subst hAe
      refine (hA n w' hcalm).mono fun e w2 he => ?_
      obtain ⟨rfl, hc⟩ := he
      exact ⟨_, rfl, .bool true, hR.calm hc, hc.ext⟩
    · rw [PM.get_nil] at hgo; cases hgo
theorem no_dq {G : Ctx} {P : Program} (h : G.dq = .nil) : ∀ f x, G.dq.get f = some x → ∀ (A : Array Value) (n : Nat) (w' : World), CallsDIn Fence.wide n P f A .returning w' (fun e u w2 => ∃ V, e = .returned V ∧ u = .returning ∧ w2 = w') := fun f x hx => by rw [h, PM.get_nil] at hx; cases hx
theorem no_glb {G : Ctx} {ρ : Pls} (h : G.glb = .nil) : ∀ g n, G.glb.get g = some n → ρ g = some ⟨g, 0, n⟩ := fun f x hx => by rw [h, PM.get_nil] at hx; cases hx
theorem bok_bare {B : Ctx} (hB : Bare B) (hb : B.bnd = []) (η : Env) : BOK B η where
  bnd i lo hi h := by rw [hb, nth_eq] at h; simp at h
  lens i z h := by rw [hB.lens, nth_eq] at h; simp at h
  slens i z h := by rw [hB.slens, nth_eq] at h; simp at h
  tab e he := by rw [hB.tab] at he; simp at he
  btab e he := by rw [hB.btab] at he; simp at he
/-- Letters that are bounded, and nothing else is known. -/
theorem bok_bnd {G : Ctx} {η : Env} {l : List (Int × Int)} (hb : G.bnd = l) (hl : G.lens = []) (hs : G.slens = []) (ht : G.tab = []) (hbt : G.btab = []) (h : ∀ i lo hi, l[i]? = some (lo, hi) → lo ≤ η.int i ∧ η.int i ≤ hi) : BOK G η where
  bnd i lo hi h' := by rw [hb, nth_eq] at h'; exact h i lo hi h'
  lens i z h := by rw [hl, nth_eq] at h; simp at h
  slens i z h := by rw [hs, nth_eq] at h; simp at h
  tab e he := by rw [ht] at he; simp at he
  btab e he := by rw [hbt] at he; simp at he
theorem ev_args {η : Env} {ρ : Pls} {E : Nat → Value} (hE : ∀ j, j < 10 → η.val j = E j) : VR η ρ (.agg evCells) (.agg #[E 0, E 1, E 2, E 3, E 4, E 5, E 6, E 7, E 8, E 9]) := by
  have h : ∀ j, j < 10 → VR η ρ (.opq j) (E j) := fun j hj => by rw [← hE j hj]; exact .opq j
  exact .agg (.cons (h 0 (by omega)) (.cons (h 1 (by omega)) (.cons (h 2 (by omega)) (.cons (h 3 (by omega)) (.cons (h 4 (by omega)) (.cons (h 5 (by omega)) (.cons (h 6 (by omega)) (.cons (h 7 (by omega)) (.cons (h 8 (by omega)) (.cons (h 9 (by omega)) .nil))))))))))

def isTr : SV → St → Bool
  | .bool c, _ => beqB true c
  | _, _ => false
/-- A run from windows alone that answers true. -/
theorem law_run {G : Ctx} {P : Program} {η : Env} (hG : GOK G P) (hB : BOK G η) {k f : Nat} {args : List SV} {A : Array Value} {W : World} {s : St} (h : retIs (calls G k f args s) isTr = true) {ρ : Pls} (hR : Rep η ρ s W) (hf : ∀ i o, s.heap.get i = some o → o.wrt = false)
    (hL : GF G P η ρ s W) (hA : VRL η ρ args A.toList) : Calls P f A W (fun e w' => e = .returned (.bool true) ∧ Calm W w') := by
  obtain ⟨v, s', h1, h2⟩ := retIs_inv h
  refine calls_ok hG hB h1 hR hL hA fun ρ' V w' v1 v2 v3 => ?_
  cases v with
  | bool c =>
    cases v1
    have : c = true := by cases c <;> first | rfl | cases h2
    subst this
    exact ⟨rfl, v3.calm hf⟩
  | _ => cases h2
theorem nil_frz {nx : Nat} (i : Nat) (o : AObj) (h : ({ heap := .nil, next := nx } : St).heap.get i = some o) : o.wrt = false := by
  have : (PM.nil : PM AObj).get i = some o := h
  rw [PM.get_nil] at this; cases this
end
end Go.Dx

/-
  'small' of one event, over any program: what it answers, as a plain function; letters and windows; a piece of code by a run.
-/
import Derived.Test.YtlihinmgpfbolaaGreatDoorDUse
namespace Go.Dx
section
variable {G : Ctx} {P : Program} {η : Env}

theorem Ext.calm {ρ ρ' : Pls} {s s' : St} {w w' : World} (h : Ext ρ s w ρ' s' w') (hf : ∀ i o, s.heap.get i = some o → o.wrt = false) : Calm w w' :=
  ⟨h.size, fun b hb => h.frame b hb fun i o p hi _ ho => absurd ho (by rw [hf i o hi]; simp), h.os, h.out, h.tape⟩

/-- The way out, and some of the slots. -/
def sameX : DX → DX → Bool
  | .nor, .nor => true
  | .ret, .ret => true
  | .exit i, .exit j => Nat.beq i j
  | _, _ => false
theorem sameX_eq {x y : DX} (h : sameX x y = true) : x = y := by
  cases x <;> cases y <;> first | rfl | cases h | (rw [beq_t.1 h])
noncomputable def chkL (a : PM SV) : List (Nat × SV) → Bool
  | [] => true
  | (i, v) :: l => match a.get i with
    | some u => match b1 u v with
      | true => chkL a l
      | false => false
    | none => false
theorem chkL_at {a : PM SV} : ∀ {l : List (Nat × SV)}, chkL a l = true → ∀ x ∈ l, a.get x.1 = some x.2
  | [], _, x, hx => by simp at hx
  | (i, v) :: l, h, x, hx => by
    simp only [chkL] at h
    split at h
    · rename_i u hu
      split at h
      · rename_i hb
        rcases List.mem_cons.1 hx with rfl | hx
        · rw [← b1_eq hb]; exact hu
        · exact chkL_at h x hx
      · cases h
    · cases h
noncomputable def chk (x : DX) (l : List (Nat × SV)) (e : DX) (a : PM SV) (df : List DM) (_ : St) : Bool :=
  match df with
  | [] => match sameX e x with
    | true => chkL a l
    | false => false
  | _ :: _ => false

/-- A piece of code by a run, where memory is windows alone. -/
theorem by_run (hG : GOK G P) (hB : BOK G η) {k fn nt : Nat} {c : Code} {a : PM SV} {s : St} {x : DX} {l : List (Nat × SV)} (h : outIs (run G k none fn nt c a [] s) (chk x l) = true) {ρ : Pls} {A : Act} {w : World} {n : Nat}
    (hR : Rep η ρ s w) (hL : GF G P η ρ s w) (hA : TR η ρ nt a A.tmps) (hD : A.defers = []) (hf : ∀ i o, s.heap.get i = some o → o.wrt = false) {Q : Exit → Act → World → Prop}
    (hQ : ∀ A' w' ρ', A'.tmps.size = nt → (∀ y ∈ l, ∃ V, A'.tmps[y.1]? = some V ∧ VR η ρ' y.2 V) → A'.defers = [] → ρ.le ρ' → Calm w w' → Q (exitOf x) A' w') : c.wpIn Fence.wide n P Q A w := by
  obtain ⟨e, a', df, s', h1, h2⟩ := outIs_inv h
  cases df with
  | cons => simp [chk] at h2
  | nil =>
    unfold chk at h2
    simp only at h2
    split at h2
    · rename_i hx
      obtain rfl := sameX_eq hx
      refine piece (r := none) hG hB h1 hR hL hA (by rw [hD]; trivial) trivial fun ρ' A' w' t1 t2 t3 t4 => ?_
      refine hQ A' w' ρ' t1.1 (fun y hy => t1.2 y.1 y.2 (chkL_at h2 y hy)) ?_ t4.le (t4.calm hf)
      cases hd : A'.defers with
      | nil => rfl
      | cons d D => rw [hd] at t2; exact t2.elim
    · cases h2

/-! ### What it answers -/
def clip (x : Int) : Int := if x < 0 then 0 else if x ≤ 50 then x else 50
def sumTo (x : Nat → Int) : Nat → Int
  | 0 => 0
  | k + 1 => sumTo x k + clip (x k)
theorem sumTo_bd (x : Nat → Int) : ∀ k, 0 ≤ sumTo x k ∧ sumTo x k ≤ 50 * k
  | 0 => ⟨Int.le_refl _, by simp [sumTo]⟩
  | k + 1 => by
    have := sumTo_bd x k
    have h : 0 ≤ clip (x k) ∧ clip (x k) ≤ 50 := by unfold clip; split <;> (try split) <;> omega
    simp only [sumTo]; omega
/-- What is known of an event's specs: the lengths of After, User, Part; Array. -/
structure SpecN where
  la : Nat → Int
  lu : Nat → Int
  lp : Nat → Int
  x : Nat → Int
def SpecN.bad (S : SpecN) (k : Nat) : Prop := 20 < S.la k ∨ 100 < S.lu k ∨ 100 < S.lp k
def SpecN.good (S : SpecN) (most : Int) (L : Nat) : Prop := L ≤ 8 ∧ (∀ k, k < L → ¬ S.bad k) ∧ sumTo S.x L ≤ most
open Classical in
noncomputable def SpecN.small (S : SpecN) (most : Int) (L : Nat) : Bool := decide (S.good most L)
theorem SpecN.small_t {S : SpecN} {most : Int} {L : Nat} (h : S.good most L) : S.small most L = true := by
  unfold SpecN.small; simp only [h, decide_true]
theorem SpecN.small_f {S : SpecN} {most : Int} {L : Nat} (h : ¬ S.good most L) : S.small most L = false := by
  unfold SpecN.small; simp only [h, decide_false]

/-- The specs lie in a block of their own. -/
def SpecAt (w : World) (bad : Nat) (sa : Option Addr) (S : SpecN) (k : Nat) : Prop :=
  ∃ bs os C e fr, sa = some ⟨bs, os, none⟩ ∧ bs ≠ bad ∧ w.heap[bs]? = some (.cells C e fr) ∧ os + k * 13 + 13 ≤ C.size ∧ (∀ j V, j < 13 → C[os + k * 13 + j]? = some V → V.oneCell' = true) ∧
    (∃ s : ByteArray, C[os + k * 13]? = some (.string s) ∧ (s.size : Int) = S.lu k) ∧ (∃ s : ByteArray, C[os + k * 13 + 1]? = some (.string s) ∧ (s.size : Int) = S.lp k) ∧
    (C[os + k * 13 + 9]? = some (.int .i64 (S.x k)) ∧ -9223372036854775808 ≤ S.x k ∧ S.x k ≤ 9223372036854775807) ∧ (∃ p n c, C[os + k * 13 + 12]? = some (.slice p n c) ∧ (n : Int) = S.la k) ∧
    0 ≤ S.lu k ∧ S.lu k ≤ 9223372036854775807 ∧ 0 ≤ S.lp k ∧ S.lp k ≤ 9223372036854775807 ∧ 0 ≤ S.la k ∧ S.la k ≤ 9223372036854775807
theorem SpecAt.calm {w w' : World} {bad : Nat} {sa : Option Addr} {S : SpecN} {k : Nat} (h : SpecAt w bad sa S k) (hc : Calm w w') : SpecAt w' bad sa S k := by
  obtain ⟨bs, os, C, e, fr, h1, h2, h3, h4⟩ := h
  exact ⟨bs, os, C, e, fr, h1, h2, by rw [hc.same bs (Array.getElem?_eq_some_iff.1 h3).1]; exact h3, h4⟩

theorem index_run {P : Program} {w : World} {t e : TypeId} (h41 : P.underlying t = some (.slice e)) (hs : ∃ i, P.info? e = some i ∧ i.size = 13) {bs os L c : Nat} {k : Nat} (hk : k < L) :
    (Instr.indexAt t (.slice (some ⟨bs, os, none⟩) L c) (.int .i64 (k : Int))).run P w = .ok (.pointer (some ⟨bs, os + k * 13, none⟩)) w := by
  obtain ⟨i, h1, h2⟩ := hs
  have hu : (Go.underlying t).run P w = .ok (.slice e) w := by unfold Go.underlying; simp [h41]
  have hz : (sizeOf e).run P w = .ok 13 w := by unfold sizeOf typeInfo; simp [h1, h2]
  unfold Instr.indexAt asIntOf
  simp only [Sem.run_bind, hu, Result.andThen_ok, Sem.run_pure]
  rw [if_pos ⟨by omega, by omega⟩]
  simp only [Sem.run_bind, hz, Result.andThen_ok, add_plain, Int.toNat_natCast, Sem.run_pure]

/-! ### What the letters stand for -/
def one1 (v : Value) : Value := if v.oneCell' = true then v else .bool true
theorem one1_one (v : Value) : (one1 v).oneCell' = true := by
  unfold one1; split
  · assumption
  · rfl
theorem one1_eq {v : Value} (h : v.oneCell' = true) : one1 v = v := by unfold one1; rw [if_pos h]

/-- 0 k, 1 the number of specs, 2 n, 3 Array, 4 5 6 the lengths of After, User, Part, 7 the next n. -/
def intAt (k L n x la lu lp n' : Int) : Nat → Int
  | 0 => k | 1 => L | 2 => n | 3 => x | 4 => la | 5 => lu | 6 => lp | 7 => n' | _ => 0
/-- Which cell of the spec a letter stands for. -/
def cellOf : Nat → Nat
  | 10 => 0 | 11 => 1 | 12 => 12 | 13 => 2 | 14 => 3 | 15 => 4 | 16 => 5 | 17 => 6 | 18 => 7 | 19 => 8 | 20 => 10 | 21 => 11 | _ => 0
def env13 (E S : Nat → Value) (k L n x la lu lp n' : Int) : Env where
  int := intAt k L n x la lu lp n'
  val i := if i < 10 then one1 (E i) else one1 (S (cellOf i))
  one i := by split <;> exact one1_one _
def evCells : List SV := [.opq 0, .opq 1, .opq 2, .opq 3, .opq 4, .opq 5, .opq 6, .opq 7, .opq 8, .opq 9]
def spCells : List SV := [.opq 10, .opq 11, .opq 13, .opq 14, .opq 15, .opq 16, .opq 17, .opq 18, .opq 19, .int .i64 (.a 3 0), .opq 20, .opq 21, .opq 12]

theorem ev_rel {E S : Nat → Value} {k L n x la lu lp n' : Int} {ρ : Pls} (hE : ∀ j, j < 10 → (E j).oneCell' = true) : VRL (env13 E S k L n x la lu lp n') ρ evCells [E 0, E 1, E 2, E 3, E 4, E 5, E 6, E 7, E 8, E 9] := by
  have h : ∀ i, i < 10 → VR (env13 E S k L n x la lu lp n') ρ (.opq i) (E i) := fun i hi => by
    have : (env13 E S k L n x la lu lp n').val i = E i := by
      show (if i < 10 then one1 (E i) else _) = _
      rw [if_pos hi, one1_eq (hE i hi)]
    rw [← this]; exact .opq i
  exact .cons (h 0 (by omega)) (.cons (h 1 (by omega)) (.cons (h 2 (by omega)) (.cons (h 3 (by omega)) (.cons (h 4 (by omega)) (.cons (h 5 (by omega)) (.cons (h 6 (by omega)) (.cons (h 7 (by omega)) (.cons (h 8 (by omega)) (.cons (h 9 (by omega)) .nil)))))))))
theorem sp_rel {E S : Nat → Value} {k L n x la lu lp n' : Int} {ρ : Pls} (hS : ∀ j, j < 13 → (S j).oneCell' = true) (h9 : S 9 = .int .i64 x) :
    VRL (env13 E S k L n x la lu lp n') ρ spCells [S 0, S 1, S 2, S 3, S 4, S 5, S 6, S 7, S 8, S 9, S 10, S 11, S 12] := by
  have h : ∀ i, 10 ≤ i → cellOf i < 13 → VR (env13 E S k L n x la lu lp n') ρ (.opq i) (S (cellOf i)) := fun i hi hc => by
    have : (env13 E S k L n x la lu lp n').val i = S (cellOf i) := by
      show (if i < 10 then one1 (E i) else _) = _
      rw [if_neg (by omega), one1_eq (hS _ hc)]
    rw [← this]; exact .opq i
  have hx : VR (env13 E S k L n x la lu lp n') ρ (.int .i64 (.a 3 0)) (S 9) := by
    rw [h9]
    have h := VR.int (η := env13 E S k L n x la lu lp n') (ρ := ρ) .i64 (.a 3 0)
    have e : (SI.a 3 0).den (env13 E S k L n x la lu lp n') = x := by show x + 0 = x; omega
    rw [e] at h; exact h
  exact .cons (h 10 (by omega) (by decide)) (.cons (h 11 (by omega) (by decide)) (.cons (h 13 (by omega) (by decide)) (.cons (h 14 (by omega) (by decide)) (.cons (h 15 (by omega) (by decide)) (.cons (h 16 (by omega) (by decide)) (.cons (h 17 (by omega) (by decide)) (.cons (h 18 (by omega) (by decide)) (.cons (h 19 (by omega) (by decide)) (.cons hx (.cons (h 20 (by omega) (by decide)) (.cons (h 21 (by omega) (by decide)) (.cons (h 12 (by omega) (by decide)) .nil))))))))))))

/-- Nothing but the event is known. -/
def Gev (B : Ctx) (lb nb : Int × Int) : Ctx := { B with bnd := [(0, 8), lb, nb], lens := [none, none, none, none, none, none, none, none, none, some (.a 1 0)] }
def Gsp (B : Ctx) (it : List ITab) (lt : Bool) (arr aft usr prt : Int × Int) : Ctx := { B with
  bnd := [(0, 8), (0, 8), (0, 400), arr, aft, usr, prt]
  lens := [none, none, none, none, none, none, none, none, none, some (.a 1 0), none, none, some (.a 4 0)]
  slens := [none, none, none, none, none, none, none, none, none, none, some (.a 5 0), some (.a 6 0)]
  tab := [{ op := .add, k := .i64, x := .a 2 0, y := .a 3 0, z := .a 7 0 }]
  btab := [{ op := .lss, k := .i64, x := .a 0 0, y := .a 1 0, b := lt }]
  itab := it }
/-- Of the program alone. -/
structure Bare (B : Ctx) : Prop where
  tab : B.tab = []
  btab : B.btab = []
  lens : B.lens = []
  slens : B.slens = []
  itab : B.itab = []
  glb : B.glb = .nil
  orc : B.orc = .nil
  dq : B.dq = .nil

theorem bokEv {B : Ctx} (hB : Bare B) {E S : Nat → Value} {k L n x la lu lp n' : Int} {lb nb : Int × Int} (hk : 0 ≤ k ∧ k ≤ 8) (hL : lb.1 ≤ L ∧ L ≤ lb.2) (hn : nb.1 ≤ n ∧ n ≤ nb.2) (h9 : ∃ p m c, E 9 = .slice p m c ∧ (m : Int) = L) :
    BOK (Gev B lb nb) (env13 E S k L n x la lu lp n') where
  bnd i lo hi h := by
    have h' : nth [(0, 8), lb, nb] i = some (lo, hi) := h
    rw [nth_eq] at h'
    match i, h' with
    | 0, h' => cases h'; exact hk
    | 1, h' => simp at h'; rw [h'] at hL; exact hL
    | 2, h' => simp at h'; rw [h'] at hn; exact hn
    | i + 3, h' => simp at h'
  lens i z h := by
    have h' : nth [none, none, none, none, none, none, none, none, none, some (SI.a 1 0)] i = some (some z) := h
    rw [nth_eq] at h'
    match i, h' with
    | 9, h' =>
      cases h'
      obtain ⟨p, m, c, e1, e2⟩ := h9
      refine ⟨p, m, c, ?_, ?_⟩
      · show (if 9 < 10 then one1 (E 9) else one1 (S (cellOf 9))) = _
        rw [if_pos (by omega), e1]; rfl
      · rw [e2]; show L = L + 0; omega
    | 0, h' | 1, h' | 2, h' | 3, h' | 4, h' | 5, h' | 6, h' | 7, h' | 8, h' => simp at h'
    | i + 10, h' => simp at h'
  slens i z h := by
    have h' : nth B.slens i = some (some z) := h
    rw [hB.slens, nth_eq] at h'; simp at h'
  tab e he P w t := by
    have he' : e ∈ B.tab := he
    rw [hB.tab] at he'; simp at he'
  btab e he P w t := by
    have he' : e ∈ B.btab := he
    rw [hB.btab] at he'; simp at he'

theorem bokSp {B : Ctx} {E S : Nat → Value} {k L n x la lu lp : Int} {it : List ITab} {lt : Bool} {arr aft usr prt : Int × Int} (hk : 0 ≤ k ∧ k ≤ 8) (hL : 0 ≤ L ∧ L ≤ 8) (hn : 0 ≤ n ∧ n ≤ 400)
    (hx : arr.1 ≤ x ∧ x ≤ arr.2) (ha : aft.1 ≤ la ∧ la ≤ aft.2) (hu : usr.1 ≤ lu ∧ lu ≤ usr.2) (hp : prt.1 ≤ lp ∧ lp ≤ prt.2) (h9 : ∃ p m c, E 9 = .slice p m c ∧ (m : Int) = L) (h12 : ∃ p m c, S 12 = .slice p m c ∧ (m : Int) = la)
    (h0 : ∃ b : ByteArray, S 0 = .string b ∧ (b.size : Int) = lu) (h1 : ∃ b : ByteArray, S 1 = .string b ∧ (b.size : Int) = lp) (hlt : lt = decide (k < L)) :
    BOK (Gsp B it lt arr aft usr prt) (env13 E S k L n x la lu lp (IntKind.i64.wrap (n + x))) where
  bnd i lo hi h := by
    have h' : nth [(0, 8), (0, 8), (0, 400), arr, aft, usr, prt] i = some (lo, hi) := h
    rw [nth_eq] at h'
    match i, h' with
    | 0, h' => cases h'; exact hk
    | 1, h' => cases h'; exact hL
    | 2, h' => cases h'; exact hn
    | 3, h' => simp at h'; rw [h'] at hx; exact hx
    | 4, h' => simp at h'; rw [h'] at ha; exact ha
    | 5, h' => simp at h'; rw [h'] at hu; exact hu
    | 6, h' => simp at h'; rw [h'] at hp; exact hp
    | i + 7, h' => simp at h'
  lens i z h := by
    have h' : nth [none, none, none, none, none, none, none, none, none, some (.a 1 0), none, none, some (SI.a 4 0)] i = some (some z) := h
    rw [nth_eq] at h'
    match i, h' with
    | 9, h' =>
      cases h'
      obtain ⟨p, m, c, e1, e2⟩ := h9
      refine ⟨p, m, c, ?_, ?_⟩
      · show (if 9 < 10 then one1 (E 9) else one1 (S (cellOf 9))) = _
        rw [if_pos (by omega), e1]; rfl
      · rw [e2]; show L = L + 0; omega
    | 12, h' =>
      cases h'
      obtain ⟨p, m, c, e1, e2⟩ := h12
      refine ⟨p, m, c, ?_, ?_⟩
      · show (if 12 < 10 then one1 (E 12) else one1 (S 12)) = _
        rw [if_neg (by omega), e1]; rfl
      · rw [e2]; show la = la + 0; omega
    | 0, h' | 1, h' | 2, h' | 3, h' | 4, h' | 5, h' | 6, h' | 7, h' | 8, h' | 10, h' | 11, h' => simp at h'
    | i + 13, h' => simp at h'
  slens i z h := by
    have h' : nth [none, none, none, none, none, none, none, none, none, none, some (.a 5 0), some (SI.a 6 0)] i = some (some z) := h
    rw [nth_eq] at h'
    match i, h' with
    | 10, h' =>
      cases h'
      obtain ⟨b, e1, e2⟩ := h0
      refine ⟨b, ?_, ?_⟩
      · show (if 10 < 10 then one1 (E 10) else one1 (S 0)) = _
        rw [if_neg (by omega), e1]; rfl
      · rw [e2]; show lu = lu + 0; omega
    | 11, h' =>
      cases h'
      obtain ⟨b, e1, e2⟩ := h1
      refine ⟨b, ?_, ?_⟩
      · show (if 11 < 10 then one1 (E 11) else one1 (S 1)) = _
        rw [if_neg (by omega), e1]; rfl
      · rw [e2]; show lp = lp + 0; omega
    | 0, h' | 1, h' | 2, h' | 3, h' | 4, h' | 5, h' | 6, h' | 7, h' | 8, h' | 9, h' => simp at h'
    | i + 12, h' => simp at h'
  tab e he P w t := by
    have he' : e ∈ [{ op := .add, k := .i64, x := .a 2 0, y := .a 3 0, z := SI.a 7 0 : TabE }] := he
    rw [List.mem_singleton] at he'
    subst he'
    rw [binOp_add]
    show Result.ok (Value.int .i64 (IntKind.i64.wrap ((n + 0) + (x + 0)))) w = .ok (.int .i64 (IntKind.i64.wrap (n + x) + 0)) w
    rw [Int.add_zero, Int.add_zero, Int.add_zero]
  btab e he P w t := by
    have he' : e ∈ [{ op := .lss, k := .i64, x := .a 0 0, y := .a 1 0, b := lt : BTabE }] := he
    rw [List.mem_singleton] at he'
    subst he'
    rw [binOp_lss]
    show Result.ok (Value.bool (decide (k + 0 < L + 0))) w = .ok (.bool lt) w
    rw [Int.add_zero, Int.add_zero, hlt]

/-! ### Code, taken apart -/
def fstC : Code → Code
  | .seq a _ => a
  | _ => .skip
def sndC : Code → Code
  | .seq _ b => b
  | _ => .skip
def inC : Code → Code
  | .block _ c => c
  | .loop c => c
  | _ => .skip

noncomputable def st1 (te : TypeId) : St := { heap := (PM.nil.set 0 (.blk 10 (wr .nil 0 evCells) te false true)), next := 1 }
noncomputable def st2 (te ts : TypeId) : St := { heap := (st1 te).heap.set 1 (.blk 13 (wr .nil 0 spCells) ts false true), next := 2 }
theorem st1_frz {te : TypeId} (i : Nat) (o : AObj) (h : (st1 te).heap.get i = some o) : o.wrt = false := by
  unfold st1 at h; simp only [PM.get_set, PM.get_nil] at h
  split at h
  · cases h; rfl
  · cases h
theorem st2_frz {te ts : TypeId} (i : Nat) (o : AObj) (h : (st2 te ts).heap.get i = some o) : o.wrt = false := by
  unfold st2 at h; simp only [PM.get_set] at h
  split at h
  · cases h; rfl
  · exact st1_frz i o h

/-- An event's place: its cells in a block. -/
structure EvAt (w : World) (b o : Nat) (E : Nat → Value) : Prop where
  cells : ∃ (C : Array Value) (e : TypeId) (fr : Nat × Nat), w.heap[b]? = some (.cells C e fr) ∧ o + 10 ≤ C.size ∧ ∀ j, j < 10 → C[o + j]? = some (E j)
  one : ∀ j, j < 10 → (E j).oneCell' = true
theorem EvAt.calm {w w' : World} {b o : Nat} {E : Nat → Value} (h : EvAt w b o E) (hc : Calm w w') : EvAt w' b o E := by
  obtain ⟨⟨C, e, fr, h1, h2⟩, h3⟩ := h
  exact ⟨⟨C, e, fr, by rw [hc.same b (Array.getElem?_eq_some_iff.1 h1).1]; exact h1, h2⟩, h3⟩
/-- The event's window. -/
theorem EvAt.rep {w : World} {b o : Nat} {E S : Nat → Value} {k L n x la lu lp n' : Int} {te : TypeId} (h : EvAt w b o E) : ∃ ρ cs, ρ 0 = some ⟨b, o, cs⟩ ∧ (∀ i, i ≠ 0 → ρ i = none) ∧ Rep (env13 E S k L n x la lu lp n') ρ (st1 te) w := by
  obtain ⟨C, e, fr, h1, h2, h3⟩ := h.cells
  refine ⟨Pls.upd (fun _ => none) 0 ⟨b, o, C.size⟩, C.size, Pls.upd_self _ _ _, fun i hi => Pls.upd_ne _ _ hi, ?_⟩
  refine (Rep.empty (η := env13 E S k L n x la lu lp n') (w := w) 0).take (p := ⟨b, o, C.size⟩) (o := .blk 10 (wr .nil 0 evCells) te false true) (fun ρ' _ => ?_) (Array.getElem?_eq_some_iff.1 h1).1 (fun i x q hi => by
    have : (PM.nil : PM AObj).get i = some x := hi
    rw [PM.get_nil] at this; cases this)
  refine OR.window (l := evCells) (L := [E 0, E 1, E 2, E 3, E 4, E 5, E 6, E 7, E 8, E 9]) te h1 (ev_rel h.one) (by show o + 10 ≤ _; exact h2) fun j V hj => ?_
  match j, hj with
  | 0, hj | 1, hj | 2, hj | 3, hj | 4, hj | 5, hj | 6, hj | 7, hj | 8, hj | 9, hj => cases hj; exact h3 _ (by omega)
  | j + 10, hj => simp at hj
/-- The spec's window besides. -/
theorem SpecAt.rep {w : World} {b o : Nat} {E : Nat → Value} {sa : Option Addr} {N : SpecN} {k0 : Nat} {k L n n' : Int} {te ts : TypeId} (h : EvAt w b o E) (hs : SpecAt w b sa N k0) :
    ∃ (S : Nat → Value) (bs os cs cs' : Nat) (ρ : Pls), sa = some ⟨bs, os, none⟩ ∧ ρ 0 = some ⟨b, o, cs⟩ ∧ ρ 1 = some ⟨bs, os + k0 * 13, cs'⟩ ∧ Rep (env13 E S k L n (N.x k0) (N.la k0) (N.lu k0) (N.lp k0) n') ρ (st2 te ts) w ∧
      (∃ p m c, S 12 = .slice p m c ∧ (m : Int) = N.la k0) ∧ (∃ b : ByteArray, S 0 = .string b ∧ (b.size : Int) = N.lu k0) ∧ (∃ b : ByteArray, S 1 = .string b ∧ (b.size : Int) = N.lp k0) := by
  obtain ⟨bs, os, C, e, fr, h1, h2, h3, h4, h5, ⟨s0, g0, g0'⟩, ⟨s1, g1, g1'⟩, ⟨g9, g9a, g9b⟩, ⟨p, m, c, g12, g12'⟩, _⟩ := hs
  have hget : ∀ j, j < 13 → C[os + k0 * 13 + j]? = some (C.getD (os + k0 * 13 + j) undef) := fun j hj => by
    rw [Array.getD_eq_getD_getElem?, Array.getElem?_eq_getElem (by omega)]; rfl
  obtain ⟨ρ, cs, r0, rn, hR⟩ := h.rep (S := fun j => C.getD (os + k0 * 13 + j) undef) (k := k) (L := L) (n := n) (x := N.x k0) (la := N.la k0) (lu := N.lu k0) (lp := N.lp k0) (n' := n') (te := te)
  have e0 : C.getD (os + k0 * 13 + 0) undef = .string s0 := by rw [Array.getD_eq_getD_getElem?, Nat.add_zero, g0]; rfl
  have e1 : C.getD (os + k0 * 13 + 1) undef = .string s1 := by rw [Array.getD_eq_getD_getElem?, g1]; rfl
  have e9 : C.getD (os + k0 * 13 + 9) undef = .int .i64 (N.x k0) := by rw [Array.getD_eq_getD_getElem?, g9]; rfl
  have e12 : C.getD (os + k0 * 13 + 12) undef = .slice p m c := by rw [Array.getD_eq_getD_getElem?, g12]; rfl
  refine ⟨fun j => C.getD (os + k0 * 13 + j) undef, bs, os, cs, C.size, ρ.upd 1 ⟨bs, os + k0 * 13, C.size⟩, h1, by rw [Pls.upd_ne _ _ (by omega)]; exact r0, Pls.upd_self _ _ _, ?_, ⟨p, m, c, e12, g12'⟩, ⟨s0, e0, g0'⟩, ⟨s1, e1, g1'⟩⟩
  refine hR.take (p := ⟨bs, os + k0 * 13, C.size⟩) (o := .blk 13 (wr .nil 0 spCells) ts false true) (fun ρ' _ => ?_) (Array.getElem?_eq_some_iff.1 h3).1 (fun i x q hi hq => ?_)
  · refine OR.window (l := spCells) (L := [C.getD (os + k0 * 13 + 0) undef, C.getD (os + k0 * 13 + 1) undef, C.getD (os + k0 * 13 + 2) undef, C.getD (os + k0 * 13 + 3) undef, C.getD (os + k0 * 13 + 4) undef, C.getD (os + k0 * 13 + 5) undef, C.getD (os + k0 * 13 + 6) undef, C.getD (os + k0 * 13 + 7) undef, C.getD (os + k0 * 13 + 8) undef, C.getD (os + k0 * 13 + 9) undef, C.getD (os + k0 * 13 + 10) undef, C.getD (os + k0 * 13 + 11) undef, C.getD (os + k0 * 13 + 12) undef]) ts h3
      (sp_rel (S := fun j => C.getD (os + k0 * 13 + j) undef) (fun j hj => h5 j _ hj (hget j hj)) e9) (by show os + k0 * 13 + 13 ≤ _; exact h4) fun j V hj => ?_
    match j, hj with
    | 0, hj | 1, hj | 2, hj | 3, hj | 4, hj | 5, hj | 6, hj | 7, hj | 8, hj | 9, hj | 10, hj | 11, hj | 12, hj => cases hj; exact hget _ (by omega)
    | j + 13, hj => simp at hj
  · by_cases e : i = 0
    · rw [e, r0] at hq; cases hq; exact fun e => h2 e.symm
    · rw [rn i e] at hq; cases hq

theorem gf_of {ρ : Pls} {s : St} {w : World} (hg : G.glb = .nil) (ho : G.orc = .nil) (hd : G.dq = .nil) (hi : ∀ e ∈ G.itab, ∃ p, ρ e.id = some p ∧ ∀ w : World, (Instr.indexAt e.t (η.val e.j) (.int .i64 (e.i.den η))).run P w = .ok (.pointer (some ⟨p.b, p.base + e.o, none⟩)) w) : GF G P η ρ s w :=
  ⟨⟨fun g n h => (by rw [hg, PM.get_nil] at h; cases h), hi⟩, fun ρ' s' w' _ _ f o h => (by rw [ho, PM.get_nil] at h; cases h), fun f x h => (by rw [hd, PM.get_nil] at h; cases h)⟩
theorem VR.sl_inv {ρ : Pls} {b o n c : Nat} {V : Value} (h : VR η ρ (.sl b o n (.ex c)) V) : ∃ p, ρ b = some p ∧ V = .slice (some ⟨p.b, p.base + o, none⟩) n c := by
  cases h with
  | slx h => exact ⟨_, h, rfl⟩
theorem VR.bool_inv {ρ : Pls} {b : Bool} {V : Value} (h : VR η ρ (.bool b) V) : V = .bool b := by cases h; rfl
theorem VR.int_inv {ρ : Pls} {k : IntKind} {x : SI} {V : Value} (h : VR η ρ (.int k x) V) : V = .int k (x.den η) := by cases h; rfl

/-! ### Slots by lists -/
noncomputable def mkA : List (Nat × SV) → PM SV
  | [] => .nil
  | (i, v) :: l => (mkA l).set i v
theorem TR.of_list {ρ : Pls} {T : Array Value} {nt : Nat} (hs : T.size = nt) : ∀ {l : List (Nat × SV)}, (∀ y ∈ l, ∃ V, T[y.1]? = some V ∧ VR η ρ y.2 V) → TR η ρ nt (mkA l) T
  | [], _ => ⟨hs, fun i v h => by simp only [mkA, PM.get_nil] at h; cases h⟩
  | (i, v) :: l, h => by
    obtain ⟨V, h1, h2⟩ := h (i, v) List.mem_cons_self
    exact (TR.of_list hs fun y hy => h y (List.mem_cons_of_mem _ hy)).set h1 h2
/-- What a slot's value is, plainly: block 0 lies at (b, o). -/
def SVal (b o : Nat) (f : Nat → Int) : SV → Value → Prop
  | .sl 0 0 m (.ex c), V => V = .slice (some ⟨b, o, none⟩) m c
  | .bool x, V => V = .bool x
  | .int k (.c n), V => V = .int k n
  | .int k (.a i n), V => V = .int k (f i + n)
  | _, _ => False
def okSV : SV → Bool
  | .sl 0 0 _ (.ex _) => true
  | .bool _ => true
  | .int _ _ => true
  | _ => false
theorem SVal.vr {ρ : Pls} {b o cs : Nat} {v : SV} {V : Value} (h : SVal b o η.int v V) (h0 : ρ 0 = some ⟨b, o, cs⟩) : VR η ρ v V := by
  unfold SVal at h
  split at h
  · rw [h]; exact VR.slx (p := ⟨b, o, cs⟩) (o := 0) h0
  · rw [h]; exact .bool _
  · rw [h]; exact VR.int (x := .c _) ..
  · rw [h]; exact VR.int (x := .a _ _) ..
  · exact h.elim
theorem SVal.of {ρ : Pls} {b o cs : Nat} {v : SV} {V : Value} (h : VR η ρ v V) (hk : okSV v = true) (h0 : ρ 0 = some ⟨b, o, cs⟩) : SVal b o η.int v V := by
  unfold okSV at hk
  split at hk
  · obtain ⟨p, h1, h2⟩ := h.sl_inv
    rw [h0] at h1; cases h1
    exact h2
  · exact h.bool_inv
  · rename_i k x
    have := h.int_inv
    cases x <;> exact this
  · cases hk

/-- A piece of code around the event alone. -/
theorem ev_piece {B : Ctx} (hB : Bare B) {lb nb : Int × Int} (hG : GOK (Gev B lb nb) P) {te : TypeId} {n fn nt fu : Nat} {w : World} {b o : Nat} {E : Nat → Value} (hE : EvAt w b o E) {L nn : Int} (hL : lb.1 ≤ L ∧ L ≤ lb.2) (hn : nb.1 ≤ nn ∧ nn ≤ nb.2)
    (h9 : ∃ p m c, E 9 = .slice p m c ∧ (m : Int) = L) {c : Code} {x : DX} {l l0 : List (Nat × SV)} (h : outIs (run (Gev B lb nb) fu none fn nt c (mkA l0) [] (st1 te)) (chk x l) = true) (hk : l.all (fun y => okSV y.2) = true) {A : Act} (hs : A.tmps.size = nt) (hd : A.defers = [])
    (h0 : ∀ y ∈ l0, ∃ V, A.tmps[y.1]? = some V ∧ SVal b o (intAt 0 L nn 0 0 0 0 0) y.2 V) {Q : Exit → Act → World → Prop}
    (hQ : ∀ A' w', A'.tmps.size = nt → A'.defers = [] → (∀ y ∈ l, ∃ V, A'.tmps[y.1]? = some V ∧ SVal b o (intAt 0 L nn 0 0 0 0 0) y.2 V) → Calm w w' → Q (exitOf x) A' w') : c.wpIn Fence.wide n P Q A w := by
  obtain ⟨ρ, cs, r0, _, hR⟩ := hE.rep (S := fun _ => .bool true) (k := 0) (L := L) (n := nn) (x := 0) (la := 0) (lu := 0) (lp := 0) (n' := 0) (te := te)
  refine by_run hG (bokEv hB (E := E) (S := fun _ => .bool true) (k := 0) (x := 0) (la := 0) (lu := 0) (lp := 0) (n' := 0) ⟨by omega, by omega⟩ hL hn h9) h hR (gf_of hB.glb hB.orc hB.dq fun e he => ?_) (.of_list hs fun y hy => ?_) hd st1_frz fun A' w' ρ' q1 q2 q3 q4 q5 => ?_
  · have : e ∈ B.itab := he
    rw [hB.itab] at this; simp at this
  · obtain ⟨V, v1, v2⟩ := h0 y hy
    exact ⟨V, v1, SVal.vr v2 r0⟩
  · refine hQ A' w' q1 q3 (fun y hy => ?_) q5
    obtain ⟨V, v1, v2⟩ := q2 y hy
    exact ⟨V, v1, SVal.of v2 (List.all_eq_true.1 hk y hy) (q4 _ _ r0)⟩
/-- A piece of code around the event and one of its specs. -/
theorem sp_piece {B : Ctx} (hB : Bare B) {tl ts te : TypeId} {lt : Bool} {arr aft usr prt : Int × Int} (hG : GOK (Gsp B [{ t := tl, j := 9, i := .a 0 0, id := 1, o := 0 }] lt arr aft usr prt) P) (h41 : P.underlying tl = some (.slice ts)) (h49 : ∃ i, P.info? ts = some i ∧ i.size = 13)
    {n fn nt fu : Nat} {w : World} {b o : Nat} {E : Nat → Value} (hE : EvAt w b o E) {sa : Option Addr} {N : SpecN} {k L cap : Nat} (hS : SpecAt w b sa N k) (h9 : E 9 = .slice sa L cap) (hkL : k < L) (hL8 : L ≤ 8) {nn : Int} (hn : 0 ≤ nn ∧ nn ≤ 400)
    (hx : arr.1 ≤ N.x k ∧ N.x k ≤ arr.2) (ha : aft.1 ≤ N.la k ∧ N.la k ≤ aft.2) (hu : usr.1 ≤ N.lu k ∧ N.lu k ≤ usr.2) (hp : prt.1 ≤ N.lp k ∧ N.lp k ≤ prt.2) (hlt : lt = true)
    {c : Code} {x : DX} {l l0 : List (Nat × SV)} (h : outIs (run (Gsp B [{ t := tl, j := 9, i := .a 0 0, id := 1, o := 0 }] lt arr aft usr prt) fu none fn nt c (mkA l0) [] (st2 te ts)) (chk x l) = true) (hk : l.all (fun y => okSV y.2) = true) {A : Act} (hs : A.tmps.size = nt) (hd : A.defers = [])
    (h0 : ∀ y ∈ l0, ∃ V, A.tmps[y.1]? = some V ∧ SVal b o (intAt k L nn (N.x k) (N.la k) (N.lu k) (N.lp k) (IntKind.i64.wrap (nn + N.x k))) y.2 V) {Q : Exit → Act → World → Prop}
    (hQ : ∀ A' w', A'.tmps.size = nt → A'.defers = [] → (∀ y ∈ l, ∃ V, A'.tmps[y.1]? = some V ∧ SVal b o (intAt k L nn (N.x k) (N.la k) (N.lu k) (N.lp k) (IntKind.i64.wrap (nn + N.x k))) y.2 V) → Calm w w' → Q (exitOf x) A' w') : c.wpIn Fence.wide n P Q A w := by
  obtain ⟨S, bs, os, cs, cs', ρ, hsa, r0, r1, hR, g12, g0, g1⟩ := SpecAt.rep (k := k) (L := L) (n := nn) (n' := IntKind.i64.wrap (nn + N.x k)) (te := te) (ts := ts) hE hS
  refine by_run hG (bokSp (E := E) (S := S) (k := k) (L := L) (n := nn) ⟨by omega, by omega⟩ ⟨by omega, by omega⟩ hn hx ha hu hp ⟨sa, L, cap, h9, rfl⟩ g12 g0 g1 (by rw [hlt]; symm; exact decide_eq_true (by omega))) h hR (gf_of hB.glb hB.orc hB.dq fun e he => ?_) (.of_list hs fun y hy => ?_) hd st2_frz fun A' w' ρ' q1 q2 q3 q4 q5 => ?_
  · have he' : e ∈ [({ t := tl, j := 9, i := .a 0 0, id := 1, o := 0 } : ITab)] := he
    rw [List.mem_singleton] at he'
    subst he'
    refine ⟨_, r1, fun w => ?_⟩
    have e1 : (env13 E S k L nn (N.x k) (N.la k) (N.lu k) (N.lp k) (IntKind.i64.wrap (nn + N.x k))).val 9 = E 9 := by
      show (if 9 < 10 then one1 (E 9) else one1 (S (cellOf 9))) = _
      rw [if_pos (by omega), one1_eq (hE.one 9 (by omega))]
    show (Instr.indexAt tl ((env13 E S k L nn (N.x k) (N.la k) (N.lu k) (N.lp k) (IntKind.i64.wrap (nn + N.x k))).val 9) (.int .i64 ((k : Int) + 0))).run P w = _
    rw [e1, h9, hsa, Int.add_zero]
    exact index_run (e := ts) (c := cap) h41 h49 hkL
  · obtain ⟨V, v1, v2⟩ := h0 y hy
    exact ⟨V, v1, SVal.vr v2 r0⟩
  · refine hQ A' w' q1 q3 (fun y hy => ?_) q5
    obtain ⟨V, v1, v2⟩ := q2 y hy
    exact ⟨V, v1, SVal.of v2 (List.all_eq_true.1 hk y hy) (q4 _ _ r0)⟩
end
end Go.Dx

/-
  What a call comes to, and an operation with what it calls.
-/
import Derived.Test.YtlihinmgpfbolaaGreatDoorDExec4
import Derived.RangeFuncIn
import Derived.RangeFuncLeaves
import Derived.OrdersIn
namespace Go.Dx

def FW : Option Nat → Fence
  | none => Fence.wide
  | some l => Fence.wide.inRound l
theorem FW_fn (r : Option Nat) (f : FuncId) : (FW r).fn f := by cases r <;> trivial
theorem FW_depth (r : Option Nat) : (FW r).depth = none := by cases r <;> rfl
theorem FW_round (r : Option Nat) : (FW r).round = r := by cases r <;> rfl
theorem FW_room (r : Option Nat) (n : Nat) : (FW r).room n := fun d h => by rw [FW_depth] at h; cases h
theorem FW_n (r : Option Nat) (n : Nat) : (FW r).depth.isSome = true → 1 ≤ n := fun h => by rw [FW_depth] at h; cases h
theorem callsIn_FW {r : Option Nat} {n : Nat} {P : Program} {f : FuncId} {A : Array Value} {w : World} {R : Ending → World → Prop} (h : CallsIn Fence.wide n P f A w R) : CallsIn (FW r) n P f A w R := by
  cases r with
  | none => exact h
  | some l => exact h

def exitOf : DX → Exit
  | .nor => .normal
  | .exit id => .exit id
  | .goto l => .goto l
  | .ret => .ret

/-- The marks of the ranges over functions. -/
def DF (ρ : Pls) : List DM → List Deferred → Prop
  | [], [] => True
  | .mark r :: rs, d :: ds => (∃ p, ρ r = some p ∧ d = { target := .collected p.b, args := #[] }) ∧ DF ρ rs ds
  | .quiet f :: rs, d :: ds => (∃ C A, d = { target := .fn (.func f) C, args := A }) ∧ DF ρ rs ds
  | _, _ => False
theorem DF.mono {ρ ρ' : Pls} (h : ρ.le ρ') : ∀ {l : List DM} {L : List Deferred}, DF ρ l L → DF ρ' l L
  | [], [], _ => trivial
  | .mark _ :: _, _ :: _, ⟨⟨p, a, b⟩, c⟩ => ⟨⟨p, h _ _ a, b⟩, DF.mono h c⟩
  | .quiet _ :: _, _ :: _, ⟨a, c⟩ => ⟨a, DF.mono h c⟩
  | [], _ :: _, h => h.elim
  | .mark _ :: _, [], h => h.elim
  | .quiet _ :: _, [], h => h.elim
theorem DF.append {ρ : Pls} : ∀ {l m : List DM} {L M : List Deferred}, DF ρ l L → DF ρ m M → DF ρ (l ++ m) (L ++ M)
  | [], _, [], _, _, k => k
  | .mark _ :: _, _, _ :: _, _, ⟨a, b⟩, k => ⟨a, DF.append b k⟩
  | .quiet _ :: _, _, _ :: _, _, ⟨a, b⟩, k => ⟨a, DF.append b k⟩
  | [], _, _ :: _, _, h, _ => h.elim
  | .mark _ :: _, _, [], _, h, _ => h.elim
  | .quiet _ :: _, _, [], _, h, _ => h.elim

/-- Whose round it is. -/
def RN (ρ : Pls) : Option Nat → Option Nat → Prop
  | none, none => True
  | some l, some b => ∃ p, ρ l = some p ∧ p.b = b
  | _, _ => False
theorem RN.mono {ρ ρ' : Pls} (h : ρ.le ρ') {a b : Option Nat} (k : RN ρ a b) : RN ρ' a b := by
  cases a <;> cases b <;> first | exact k | (obtain ⟨p, x, y⟩ := k; exact ⟨p, h _ _ x, y⟩)

section
variable {G : Ctx} {P : Program} {η : Env}

/-- What is said of a piece of code. -/
def CS (P : Program) (η : Env) (ρ : Pls) (F : Fence) (n : Nat) (c : Code) (A : Act) (w : World) (nt : Nat) (s : St) : Out → Prop
  | .fail => True
  | .done x a' df' s' => ∀ Q : Exit → Act → World → Prop, (∀ ρ' A' w', TR η ρ' nt a' A'.tmps → DF ρ' df' A'.defers → Rep η ρ' s' w' → Ext ρ s w ρ' s' w' → Q (exitOf x) A' w') → c.wpIn F n P Q A w

/-- The variables that may be looked at; the calls whose answer is known. -/
structure GF (G : Ctx) (P : Program) (η : Env) (ρ : Pls) (s : St) (w : World) : Prop where
  glb : GL G P η ρ
  orc : ∀ ρ' s' w', Ext ρ s w ρ' s' w' → Rep η ρ' s' w' → ∀ f o, G.orc.get f = some o → ∀ (args : List SV) (A : Array Value) (n : Nat), VRL η ρ' args A.toList → orcMatch s' args o.pat = true →
    CallsIn Fence.wide n P f A w' (fun e w2 => ∃ V, e = .returned V ∧ VR η ρ' o.ans V ∧ Rep η ρ' s' w2 ∧ Ext ρ' s' w' ρ' s' w2)
  dq : ∀ f x, G.dq.get f = some x → ∀ (A : Array Value) (n : Nat) (w' : World), CallsDIn Fence.wide n P f A .returning w' (fun e u w2 => ∃ V, e = .returned V ∧ u = .returning ∧ w2 = w')
theorem GF.mono {G : Ctx} {P : Program} {η : Env} {ρ ρ' : Pls} {s s' : St} {w w' : World} (h : GF G P η ρ s w) (e : Ext ρ s w ρ' s' w') : GF G P η ρ' s' w' :=
  ⟨h.glb.mono e.le, fun ρ2 s2 w2 k => h.orc ρ2 s2 w2 (e.trans k), h.dq⟩

def RecOK (P : Program) (G : Ctx) (η : Env) (rec : Rec) : Prop :=
  ∀ (rnd r : Option Nat) (fn nt : Nat) (c : Code) (a : PM SV) (df : List DM) (s : St) (A : Act) (w : World) (ρ : Pls) (n : Nat),
    Rep η ρ s w → GF G P η ρ s w → TR η ρ nt a A.tmps → DF ρ df A.defers → RN ρ rnd r → CS P η ρ (FW r) n c A w nt s (rec rnd fn nt c a df s)

theorem TR.put {ρ : Pls} {nt : Nat} {a : PM SV} {A : Act} {v : SV} {V : Value} (h : TR η ρ nt a A.tmps) (hv : VR η ρ v V) (dst : Option Tmp) : TR η ρ nt (putD nt a dst v) (A.put dst V).tmps := by
  cases dst with
  | none => exact h
  | some d =>
    refine ⟨by show (A.tmps.setIfInBounds d V).size = nt; rw [Array.size_setIfInBounds]; exact h.1, fun i u hu => ?_⟩
    simp only [putD] at hu
    show ∃ W, (A.tmps.setIfInBounds d V)[i]? = some W ∧ _
    cases hb : Nat.blt d nt with
    | true =>
      rw [hb] at hu
      simp only [PM.get_set] at hu
      have hlt : d < A.tmps.size := by rw [h.1]; exact blt_t.1 hb
      by_cases e : i = d
      · rw [if_pos e] at hu; cases hu
        exact ⟨V, by rw [e, Array.getElem?_setIfInBounds_self_of_lt hlt], hv⟩
      · rw [if_neg e] at hu
        obtain ⟨U, a1, a2⟩ := h.2 i u hu
        exact ⟨U, by rw [Array.getElem?_setIfInBounds_ne (Ne.symm e)]; exact a1, a2⟩
    | false =>
      rw [hb] at hu
      simp only at hu
      obtain ⟨U, a1, a2⟩ := h.2 i u hu
      have hge : ¬ d < A.tmps.size := by rw [h.1]; intro hlt; rw [blt_t.2 hlt] at hb; cases hb
      have : A.tmps.setIfInBounds d V = A.tmps := by
        unfold Array.setIfInBounds; rw [dif_neg hge]
      exact ⟨U, by rw [this]; exact a1, a2⟩
theorem put_defers (A : Act) (dst : Option Tmp) (V : Value) : (A.put dst V).defers = A.defers := by cases dst <;> rfl

/-! ### A call -/
theorem leave_sound (hG : GOK G P) (hq : ∀ f x, G.dq.get f = some x → ∀ (A : Array Value) (n : Nat) (w' : World), CallsDIn Fence.wide n P f A .returning w' (fun e u w2 => ∃ V, e = .returned V ∧ u = .returning ∧ w2 = w')) {ρ : Pls} : ∀ {df : List DM} {D : List Deferred} {s s' : St} {w : World}, Rep η ρ s w → DF ρ df D → leaveD G df s = some s' → ∃ w', Rep η ρ s' w' ∧ Ext ρ s w ρ s' w' ∧
    ∀ (n : Nat) (fn : Func) (tmps : Array Value) (R : Ending → World → Prop), LeavesInM Fence.wide n P fn tmps R [] .returning w' → LeavesInM Fence.wide n P fn tmps R D .returning w := by
  intro df
  induction df with
  | nil =>
    intro D s s' w hR hD h
    cases D with
    | nil => simp only [leaveD] at h; cases h; exact ⟨w, hR, .refl, fun _ _ _ _ h => h⟩
    | cons => exact hD.elim
  | cons r df ih =>
    intro D s s' w hR hD h
    cases r with
    | quiet f =>
     cases D with
     | nil => exact hD.elim
     | cons d D =>
      obtain ⟨⟨C, AA, rfl⟩, hD⟩ := hD
      simp only [leaveD] at h
      split at h
      · rename_i x fn0 hx hfn0
        obtain ⟨k1, k2, k3⟩ := hG.fns f fn0 hfn0
        obtain ⟨w', g1, g2, g3⟩ := ih hR hD h
        refine ⟨w', g1, g2, fun n fn tmps R hl => ⟨by simp, .inr ⟨(fun h => by cases h), .func f, C, f, AA ++ C, rfl, ?_, fun _ _ => trivial, (hq f x hx _ _ _).mono fun e u w2 he => ?_⟩⟩⟩
        · simp only [invoke]
          unfold callFunc
          simp only [Sem.run_bind, run_program, Result.andThen_ok, k1]
          have : fn0.body.isNone = false := by cases hb : fn0.body <;> simp [hb] at k2 ⊢
          simp [k3, this]
        · obtain ⟨V, rfl, rfl, rfl⟩ := he
          exact g3 n fn tmps R hl
      · cases h
    | mark r =>
    cases D with
    | nil => exact hD.elim
    | cons d D =>
      obtain ⟨⟨p, hp, rfl⟩, hD⟩ := hD
      simp only [leaveD] at h
      split at h
      · rename_i hr
        obtain ⟨p', hp', hO⟩ := hR.obj r _ hr
        rw [hp] at hp'; cases hp'
        have h1 : w.heap[p.b]? = some (.deferred (some [])) := hO
        have hN := near_putO w p.b (.deferred none)
        have hT := hR.turn (o' := .dfr false) hr hp hN.size hN.other hN.os hN.out hN.tape (putO_self h1)
        obtain ⟨w', g1, g2, g3⟩ := ih hT.1 hD h
        refine ⟨w', g1, hT.2.trans g2, fun n fn tmps R hl => ⟨by simp, .inl ⟨p.b, putO w p.b (.deferred none), rfl, ?_, g3 n fn tmps R hl⟩⟩⟩
        unfold Instr.takeDeferred
        simp only [Sem.run_bind, getObj_ok h1 (fun _ _ _ h => by cases h), Result.andThen_ok, setObj_ok h1 (fun _ _ _ h => by cases h), Sem.run_pure]
      · cases h

theorem resultsL_sound (hG : GOK G P) {ρ : Pls} {nt : Nat} {a : PM SV} {A : Array Value} {s : St} {w : World} (hR : Rep η ρ s w) (hA : TR η ρ nt a A) : ∀ {rs : List ResultVar} {l : List SV}, resultsD G a s rs = some l →
    ∃ L : List Value, (rs.mapM (fun
      | .tmp t => pure (A.getD t undef)
      | .cell a t => do loadVar t (← asAddr (A.getD a undef))) : Sem (List Value)).run P w = .ok L w ∧ VRL η ρ l L := by
  intro rs
  induction rs with
  | nil => intro l h; simp only [resultsD] at h; cases h; exact ⟨[], rfl, .nil⟩
  | cons x rs ih =>
    intro l h
    cases x with
    | tmp t =>
      simp only [resultsD] at h
      split at h
      · cases h
      · rename_i v hv
        split at h
        · cases h
        · rename_i l' hl
          cases h
          obtain ⟨L, h1, h2⟩ := ih hl
          obtain ⟨V, v1, v2⟩ := hA.2 t v hv
          refine ⟨V :: L, ?_, .cons v2 h2⟩
          rw [List.mapM_cons]
          have : A.getD t undef = V := by rw [Array.getD_eq_getD_getElem?, v1]; rfl
          simp only [Sem.run_bind, Sem.run_pure, Result.andThen_ok, h1, this]
    | cell x t =>
      simp only [resultsD] at h
      split at h
      · rename_i b o hx
        split at h
        · cases h
        · rename_i v hv
          split at h
          · cases h
          · rename_i l' hl
            cases h
            obtain ⟨L, h1, h2⟩ := ih hl
            obtain ⟨X, x1, x2⟩ := hA.2 x _ hx
            cases x2 with
            | @ptr _ _ p hp =>
              obtain ⟨V, v1, v2⟩ := load_sound hG hR hv hp
              refine ⟨V :: L, ?_, .cons v2 h2⟩
              rw [List.mapM_cons]
              have e0 : A.getD x undef = .pointer (some ⟨p.b, p.base + o, none⟩) := by rw [Array.getD_eq_getD_getElem?, x1]; rfl
              have e1 : (asAddr (.pointer (some ⟨p.b, p.base + o, none⟩))).run P w = .ok ⟨p.b, p.base + o, none⟩ w := rfl
              simp only [Sem.run_bind, Sem.run_pure, Result.andThen_ok, h1, e0, e1, v1]
      · cases h
theorem results_sound (hG : GOK G P) {ρ : Pls} {nt : Nat} {a : PM SV} {A : Array Value} {s : St} {w : World} (hR : Rep η ρ s w) (hA : TR η ρ nt a A) {fn : Func} {l : List SV} (h : resultsD G a s fn.results.toList = some l) :
    ∃ V, (results fn A).run P w = .ok V w ∧ VR η ρ (one l) V := by
  obtain ⟨L, h1, h2⟩ := resultsL_sound hG hR hA h
  unfold results
  rw [Array.mapM_eq_mapM_toList]
  refine ⟨if h : L.toArray.size = 1 then L.toArray[0] else .tuple L.toArray, ?_, ?_⟩
  · simp only [Sem.run_bind, Sem.run_map, Sem.run_pure]
    erw [h1]
    rfl
  · cases h2 with
    | nil => exact .tup .nil
    | cons a b =>
      cases b with
      | nil => exact a
      | cons c d => exact .tup (.cons a (.cons c d))

theorem enter_ok (hG : GOK G P) {rec : Rec} (hrec : RecOK P G η rec) {ρ : Pls} {s s' : St} {w : World} (hR : Rep η ρ s w) (hL : GF G P η ρ s w) {f : FuncId} {args : List SV} {A : Array Value} {v : SV} (hA : VRL η ρ args A.toList)
    (h : enterFn rec G f args s = .ret v s') (n : Nat) (R : Ending → World → Prop) (hQ : ∀ ρ' V w', VR η ρ' v V → Rep η ρ' s' w' → Ext ρ s w ρ' s' w' → R (.returned V) w') : CallsIn Fence.wide n P f A w R := by
  unfold enterFn at h
  split at h
  · cases h
  · rename_i fn hfn
    obtain ⟨h1, _, _⟩ := hG.fns f fn hfn
    split at h
    · cases h
    · rename_i c hc
      split at h
      · rename_i hle
        have hle' := ble_t.1 hle
        have hAl := hA.length
        have hTR : TR η ρ fn.ntmps (wr .nil 0 args) (A ++ Array.replicate (fn.ntmps - A.size) undef) := by
          have hsz : args.length = A.size := by simpa using hAl
          refine ⟨by simp; omega, fun i v hv => ?_⟩
          rw [wr_get] at hv
          split at hv
          · rename_i hi
            simp only [Nat.sub_zero] at hv
            obtain ⟨V, v1, v2⟩ := hA.get hv
            refine ⟨V, ?_, v2⟩
            rw [Array.getElem?_append_left (by omega)]
            simpa using v1
          · cases hv
        have hc' := hrec none none f fn.ntmps c (wr .nil 0 args) [] s { tmps := A ++ Array.replicate (fn.ntmps - A.size) undef, defers := [] } w ρ n hR hL hTR trivial trivial
        refine callsIn_of_wp_marks h1 hc trivial ?_
        generalize rec none f fn.ntmps c (wr .nil 0 args) [] s = out at hc' h
        have fin : ∀ {a df s1}, (match leaveD G df s1 with
            | none => CallR.fail
            | some s => match resultsD G a s fn.results.toList with
              | some l => .ret (one l) s
              | none => .fail) = .ret v s' → ∀ ρ' (A' : Act) w', TR η ρ' fn.ntmps a A'.tmps → DF ρ' df A'.defers → Rep η ρ' s1 w' → Ext ρ s w ρ' s1 w' → LeavesInM Fence.wide n P fn A'.tmps R A'.defers .returning w' := by
          intro a df s1 h ρ' A' w' t1 t2 t3 t4
          split at h
          · cases h
          · rename_i s2 hs2
            split at h
            · rename_i l hl
              cases h
              obtain ⟨w2, g1, g2, g3⟩ := leave_sound hG hL.dq t3 t2 hs2
              obtain ⟨V, r1, r2⟩ := results_sound hG g1 t1 hl
              exact g3 _ _ _ _ ⟨V, r1, hQ ρ' V w2 r2 g1 (t4.trans g2)⟩
            · cases h
        unfold finishD at h
        split at h
        · exact hc' _ (fin h)
        · exact hc' _ (fin h)
        · cases h
      · cases h
theorem call_ok (hG : GOK G P) {rec : Rec} (hrec : RecOK P G η rec) {ρ : Pls} {s s' : St} {w : World} (hR : Rep η ρ s w) (hL : GF G P η ρ s w) {f : FuncId} {args : List SV} {A : Array Value} {v : SV} (hA : VRL η ρ args A.toList)
    (h : callD rec G f args s = .ret v s') (n : Nat) (R : Ending → World → Prop) (hQ : ∀ ρ' V w', VR η ρ' v V → Rep η ρ' s' w' → Ext ρ s w ρ' s' w' → R (.returned V) w') : CallsIn Fence.wide n P f A w R := by
  unfold callD at h
  split at h
  · rename_i o ho
    split at h
    · rename_i hm
      cases h
      refine (hL.orc ρ s w .refl hR f o ho args A n hA hm).mono fun e w2 he => ?_
      obtain ⟨V, rfl, h1, h2, h3⟩ := he
      exact hQ ρ V w2 h1 h2 h3
    · cases h
  · exact enter_ok hG hrec hR hL hA h n R hQ
end
end Go.Dx

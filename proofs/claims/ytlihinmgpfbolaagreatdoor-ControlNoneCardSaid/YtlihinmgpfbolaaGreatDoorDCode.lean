/-
  Code: what the evaluator answers is what the model does; the whole.
-/
import Derived.Test.YtlihinmgpfbolaaGreatDoorDDraw6
import Derived.Scope
import Derived.ScopeJumps
namespace Go.Dx
section
variable {G : Ctx} {P : Program} {η : Env}

theorem cs_done {ρ : Pls} {F : Fence} {n : Nat} {c : Code} {A : Act} {w : World} {nt : Nat} {s : St} {o : Out} (h : ∀ x a' df' s', o = .done x a' df' s' → CS P η ρ F n c A w nt s (.done x a' df' s')) : CS P η ρ F n c A w nt s o := by
  cases o with
  | fail => trivial
  | done x a' df' s' => exact h x a' df' s' rfl

theorem enter_sound {rnd r : Option Nat} {fn nt : Nat} {a : PM SV} {ps : Array Tmp} {asg body : Code} {s s' : St} {A : Act} {w : World} {ρ : Pls} {l : Nat} {mark : List DM} (hR : Rep η ρ s w) (hA : TR η ρ nt a A.tmps) (hN : RN ρ rnd r)
    (h : enterD rnd fn nt a ps.toList asg body s = some (l, mark, s')) (fn' : FuncId) :
    ∃ (lb : Nat) (M : List Deferred) (w' : World) (ρ' : Pls) (p : Pl), (Instr.enterLoop fn' A.tmps ps asg body r).run P w = .ok (lb, M) w' ∧ ρ' l = some p ∧ p.b = lb ∧ DF ρ' mark M ∧ Rep η ρ' s' w' ∧ Ext ρ s w ρ' s' w' := by
  unfold enterD at h
  cases rnd with
  | none =>
    cases r with
    | some _ => exact hN.elim
    | none =>
      simp only at h
      cases h
      have h1 := hR.new (.dfr true) (.deferred (some [])) 0 (fun ρ' _ _ => heap_push_new _ _)
      have hTR := hA.mono h1.2.le
      have hself : (ρ.upd s.next ⟨w.heap.size, 0, 0⟩) s.next = some ⟨w.heap.size, 0, 0⟩ := Pls.upd_self _ _ _
      have h2 := h1.1.new (.loop .ready none fn nt a ps.toList asg body s.next) (.loop { state := .ready, pending := none, fn := fn', tmps := A.tmps, params := ps, assign := asg, body := body, defers := w.heap.size }) 0
        (fun ρ' hle _ => ⟨rfl, _, heap_push_new _ _, rfl, rfl, hTR.mono hle, rfl, rfl, rfl, _, hle _ _ hself, rfl⟩)
      have hDF : DF ((ρ.upd s.next ⟨w.heap.size, 0, 0⟩).upd (s.new (.dfr true)).2.next ⟨(w.alloc (.deferred (some []))).heap.size, 0, 0⟩) [.mark s.next] [{ target := .collected w.heap.size, args := #[] }] :=
        ⟨⟨_, h2.2.le _ _ hself, rfl⟩, trivial⟩
      refine ⟨_, _, _, _, _, ?_, Pls.upd_self _ _ _, rfl, hDF, h2.1, h1.2.trans h2.2⟩
      unfold Instr.enterLoop
      simp only [Sem.run_bind, run_newObj, Result.andThen_ok, Sem.run_pure]
      rfl
  | some l0 =>
    cases r with
    | none => exact hN.elim
    | some b =>
      obtain ⟨p0, hp0, rfl⟩ := hN
      simp only at h
      split at h
      · rename_i d hl0
        cases h
        obtain ⟨p0', hp0', k0, L, k1, k2, k3, k4, k5, k6, k7, q, k8, k9⟩ := hR.obj l0 _ hl0
        rw [hp0] at hp0'; cases hp0'
        have h2 := hR.new (.loop .ready none fn nt a ps.toList asg body d) (.loop { state := .ready, pending := none, fn := fn', tmps := A.tmps, params := ps, assign := asg, body := body, defers := L.defers }) 0
          (fun ρ' hle _ => ⟨rfl, _, heap_push_new _ _, rfl, rfl, hA.mono hle, rfl, rfl, rfl, _, hle _ _ k8, k9⟩)
        refine ⟨_, [], _, _, _, ?_, Pls.upd_self _ _ _, rfl, trivial, h2.1, h2.2⟩
        unfold Instr.enterLoop
        simp only [Sem.run_bind, getLoop_ok k1, run_newObj, Result.andThen_ok, Sem.run_pure]
        rfl
      · cases h

def LoopOK (P : Program) (G : Ctx) (η : Env) (rec : Rec) : Prop :=
  ∀ (rnd r : Option Nat) (fn nt : Nat) (c : Code) (a : PM SV) (df : List DM) (s : St) (A : Act) (w : World) (ρ : Pls) (n : Nat),
    Rep η ρ s w → GF G P η ρ s w → TR η ρ nt a A.tmps → DF ρ df A.defers → RN ρ rnd r → CS P η ρ (FW r) n (.loop c) A w nt s (stepCode G rec rnd fn nt (.loop c) a df s)

theorem step_sound (hG : GOK G P) (hB : BOK G η) {rec : Rec} (hrec : RecOK P G η rec) (hloop : LoopOK P G η rec) : RecOK P G η (stepCode G rec) := by
  intro rnd r fn nt c a df s A w ρ n hR hL hA hD hN
  cases c with
  | skip => exact fun Q hQ => wpIn_skip (hQ ρ A w hA hD hR .refl)
  | label l => exact fun Q hQ => wpIn_label (hQ ρ A w hA hD hR .refl)
  | ret => exact fun Q hQ => wpIn_ret (hQ ρ A w hA hD hR .refl)
  | exit id => exact fun Q hQ => wpIn_exit (hQ ρ A w hA hD hR .refl)
  | goto l => exact fun Q hQ => wpIn_goto (hQ ρ A w hA hD hR .refl)
  | refuse m => trivial
  | region id ops draw =>
    cases draw with
    | false =>
      show CS P η ρ (FW r) n _ A w nt s (runOps rec G rnd nt ops.toList ops.toList a df s)
      refine cs_done fun x a' df' s' h Q hQ => wpIn_region ?_
      rw [List.range_eq_range']
      exact runOps_ok hG hB hrec rnd r n nt ops ops.toList 0 rfl df ρ a s A w hR hL hA hD hN x a' df' s' h Q hQ
    | true =>
      show CS P η ρ (FW r) n _ A w nt s (runDraw rec G nt ops.toList a df s)
      exact cs_done fun x a' df' s' h Q hQ => runDraw_ok hG hB hrec r n hR hL hA hD h Q hQ
  | seq x y =>
    have hx := hrec rnd r fn nt x a df s A w ρ n hR hL hA hD hN
    show CS P η ρ (FW r) n _ A w nt s (match rec rnd fn nt x a df s with
      | .done .nor a df s => rec rnd fn nt y a df s
      | r => r)
    generalize rec rnd fn nt x a df s = out at hx
    cases out with
    | fail => trivial
    | done e a1 df1 s1 =>
      cases e with
      | nor =>
        refine cs_done fun e2 a2 df2 s2 h2 Q hQ => wpIn_seq (hx _ fun ρ1 A1 w1 t1 t2 t3 t4 => ?_)
        have hy := hrec rnd r fn nt y a1 df1 s1 A1 w1 ρ1 n t3 (hL.mono t4) t1 t2 (hN.mono t4.le)
        simp only at h2
        rw [h2] at hy
        exact hy Q fun ρ' A' w' u1 u2 u3 u4 => hQ ρ' A' w' u1 u2 u3 (t4.trans u4)
      | exit i => exact fun Q hQ => wpIn_seq (hx _ fun ρ1 A1 w1 t1 t2 t3 t4 => hQ ρ1 A1 w1 t1 t2 t3 t4)
      | goto l => exact fun Q hQ => wpIn_seq (hx _ fun ρ1 A1 w1 t1 t2 t3 t4 => hQ ρ1 A1 w1 t1 t2 t3 t4)
      | ret => exact fun Q hQ => wpIn_seq (hx _ fun ρ1 A1 w1 t1 t2 t3 t4 => hQ ρ1 A1 w1 t1 t2 t3 t4)
  | cond c x y =>
    show CS P η ρ (FW r) n _ A w nt s (match ev G a c with
      | some (.bool true) => rec rnd fn nt x a df s
      | some (.bool false) => rec rnd fn nt y a df s
      | _ => .fail)
    split
    · rename_i hc
      have hv := ev_sound hL.glb hA hc
      generalize hcv : A.eval c = C at hv
      cases hv
      refine cs_done fun e2 a2 df2 s2 h2 Q hQ => wpIn_cond_true hcv ?_
      have hx := hrec rnd r fn nt x a df s A w ρ n hR hL hA hD hN
      rw [h2] at hx
      exact hx Q hQ
    · rename_i hc
      have hv := ev_sound hL.glb hA hc
      generalize hcv : A.eval c = C at hv
      cases hv
      refine cs_done fun e2 a2 df2 s2 h2 Q hQ => wpIn_cond_false hcv ?_
      have hx := hrec rnd r fn nt y a df s A w ρ n hR hL hA hD hN
      rw [h2] at hx
      exact hx Q hQ
    · trivial
  | block id x =>
    have hx := hrec rnd r fn nt x a df s A w ρ n hR hL hA hD hN
    show CS P η ρ (FW r) n _ A w nt s (match rec rnd fn nt x a df s with
      | .done (.exit i) a df s => match Nat.beq i id with
        | true => .done .nor a df s
        | false => .done (.exit i) a df s
      | r => r)
    generalize rec rnd fn nt x a df s = out at hx
    cases out with
    | fail => trivial
    | done e a1 df1 s1 =>
      cases e with
      | nor => exact fun Q hQ => wpIn_block (hx _ fun ρ1 A1 w1 t1 t2 t3 t4 => hQ ρ1 A1 w1 t1 t2 t3 t4)
      | exit i =>
        simp only
        split
        · rename_i hb
          refine fun Q hQ => wpIn_block (hx _ fun ρ1 A1 w1 t1 t2 t3 t4 => ?_)
          show Exit.inBlock id Q (.exit i) A1 w1
          simp only [Exit.inBlock]
          rw [if_pos (beq_t.1 hb)]
          exact hQ ρ1 A1 w1 t1 t2 t3 t4
        · rename_i hb
          refine fun Q hQ => wpIn_block (hx _ fun ρ1 A1 w1 t1 t2 t3 t4 => ?_)
          show Exit.inBlock id Q (.exit i) A1 w1
          simp only [Exit.inBlock]
          rw [if_neg (beq_f.1 hb)]
          exact hQ ρ1 A1 w1 t1 t2 t3 t4
      | goto l => exact fun Q hQ => wpIn_block (hx _ fun ρ1 A1 w1 t1 t2 t3 t4 => hQ ρ1 A1 w1 t1 t2 t3 t4)
      | ret => exact fun Q hQ => wpIn_block (hx _ fun ρ1 A1 w1 t1 t2 t3 t4 => hQ ρ1 A1 w1 t1 t2 t3 t4)
  | loop x => exact hloop rnd r fn nt x a df s A w ρ n hR hL hA hD hN
  | scope x =>
    cases rnd with
    | some _ => trivial
    | none =>
      cases r with
      | some _ => exact hN.elim
      | none =>
        have hx := hrec none none fn nt x a df s A w ρ n hR hL hA hD hN
        show CS P η ρ (FW none) n _ A w nt s (match rec none fn nt x a df s with
          | .done (.goto l) a df s => match findLabel x l with
            | some rest => match rec none fn nt rest a df s with
              | .done (.goto _) _ _ _ => .fail
              | r => r
            | none => .fail
          | r => r)
        generalize rec none fn nt x a df s = out at hx
        cases out with
        | fail => trivial
        | done e a1 df1 s1 =>
          cases e with
          | nor => exact fun Q hQ => wpIn_wide.2 (wp_scope_straight (wpIn_wide.1 (hx _ fun ρ1 A1 w1 t1 t2 t3 t4 => hQ ρ1 A1 w1 t1 t2 t3 t4)))
          | exit i => exact fun Q hQ => wpIn_wide.2 (wp_scope_straight (wpIn_wide.1 (hx _ fun ρ1 A1 w1 t1 t2 t3 t4 => hQ ρ1 A1 w1 t1 t2 t3 t4)))
          | ret => exact fun Q hQ => wpIn_wide.2 (wp_scope_straight (wpIn_wide.1 (hx _ fun ρ1 A1 w1 t1 t2 t3 t4 => hQ ρ1 A1 w1 t1 t2 t3 t4)))
          | goto l =>
            simp only
            split
            · rename_i rest hrest
              refine cs_done fun e2 a2 df2 s2 h2 Q hQ => wpIn_wide.2 (wp_scope_jumps l (fun A1 w1 => ∃ ρ1, TR η ρ1 nt a1 A1.tmps ∧ DF ρ1 df1 A1.defers ∧ Rep η ρ1 s1 w1 ∧ Ext ρ s w ρ1 s1 w1) (fun _ _ => 0) hrest
                ((wpIn_wide (n := n)).1 (hx _ fun ρ1 A1 w1 t1 t2 t3 t4 => ⟨rfl, ρ1, t1, t2, t3, t4⟩)) fun A1 w1 ⟨ρ1, t1, t2, t3, t4⟩ => (wpIn_wide (n := n)).1 ?_)
              have hy := hrec none none fn nt rest a1 df1 s1 A1 w1 ρ1 n t3 (hL.mono t4) t1 t2 trivial
              generalize rec none fn nt rest a1 df1 s1 = out2 at hy h2
              cases out2 with
              | fail => cases h2
              | done e3 a3 df3 s3 =>
                cases e3 with
                | goto l' => simp only at h2; cases h2
                | nor => simp only at h2; cases h2; exact hy _ fun ρ' A' w' u1 u2 u3 u4 => hQ ρ' A' w' u1 u2 u3 (t4.trans u4)
                | exit i => simp only at h2; cases h2; exact hy _ fun ρ' A' w' u1 u2 u3 u4 => hQ ρ' A' w' u1 u2 u3 (t4.trans u4)
                | ret => simp only at h2; cases h2; exact hy _ fun ρ' A' w' u1 u2 u3 u4 => hQ ρ' A' w' u1 u2 u3 (t4.trans u4)
            · trivial
  | rangeFunc f ps asg body =>
    refine cs_done fun x a' df' s' h Q hQ => wpIn_rangeFunc fun fn' _ => ?_
    have h' : (match enterD rnd fn nt a ps.toList asg body s with
      | none => Out.fail
      | some (l, mark, s) => match ev G a f with
        | some (.fn g first cap) => match enterFn rec G g (first ++ [SV.yld l] ++ cap) s with
          | .fail => .fail
          | .ret _ s => match s.heap.get l with
            | some (.loop st pend fn' nt' tmps ps asg body dfr) => match st with
              | .busy => .fail
              | _ =>
                let s := { s with heap := s.heap.set l (.loop .exhausted pend fn' nt' tmps ps asg body dfr) }
                match pend with
                | none => .done .nor a (mark ++ df) s
                | some j => rec rnd fn nt j a (mark ++ df) s
            | _ => .fail
        | _ => .fail) = .done x a' df' s' := h
    clear h
    split at h'
    · cases h'
    · rename_i l mark s1 hen
      split at h'
      · rename_i g first cap hf
        split at h'
        · cases h'
        · rename_i v s2 hcall
          obtain ⟨lb, M, w1, ρ1, p, e1, e2, e3, e4, e5, e6⟩ := enter_sound (P := P) hR hA hN hen fn'
          have hfv := ev_sound (hL.mono e6).glb (hA.mono e6.le) hf
          generalize hF : A.eval f = FV at hfv
          cases hfv with
          | @fn _ _ _ LL CC hl hc =>
            have hro : (FW r).round = r := FW_round r
            have hresolve : (resolve A.eval (rangeCall f lb) 0).run P w1 = .ok { target := .fn (.func g) CC, args := LL ++ #[Value.func (.yield lb) #[] #[]] } w1 := by
              simp only [resolve, hF, Deferred.ofValue, Sem.run_pure]
              simp [Act.eval]
            have hargs : VRL η ρ1 (first ++ [SV.yld l] ++ cap) (LL ++ #[Value.func (.yield lb) #[] #[]] ++ CC).toList := by
              simp only [Array.toList_append]
              refine VRL.append (hl.append (.cons ?_ .nil)) hc
              rw [← e3]; exact .yld e2
            have hcf : G.fns.get g ≠ none := by
              intro e
              unfold enterFn at hcall
              rw [e] at hcall; cases hcall
            cases hgf : G.fns.get g with
            | none => exact absurd hgf hcf
            | some fnn =>
              obtain ⟨g1, g2, g3⟩ := hG.fns g fnn hgf
              refine ⟨lb, M, w1, _, w1, g, _, w1, by rw [hro]; exact e1, hresolve, fun f' _ => FW_fn r f', ?_, FW_n r n, callsIn_FW (enter_ok hG hrec e5 (hL.mono e6) hargs hcall (n - 1) _ fun ρ2 V w2 v1 v2 v3 => ?_)⟩
              · simp only [invoke]
                unfold callFunc
                simp only [Sem.run_bind, run_program, Result.andThen_ok, g1]
                have : fnn.body.isNone = false := by cases hb : fnn.body <;> simp [hb] at g2 ⊢
                simp [g3, this]
              · simp only [rangePost]
                split at h'
                · rename_i st pend fn2 nt2 tm2 ps2 as2 b2 d2 hl2
                  obtain ⟨p', hp', k0, L2, k1, k2, k3, k4, k5, k6, k7, k8⟩ := v2.obj l _ hl2
                  have e2' := v3.le _ _ e2
                  rw [e2'] at hp'; cases hp'
                  have hnb : st ≠ .busy := by intro e; rw [e] at h'; simp only at h'; cases h'
                  have hN1 := near_putO w2 p.b (.loop { L2 with state := .exhausted })
                  have hself := putO_self (o' := .loop { L2 with state := .exhausted }) k1
                  have hT3 := v2.turn (o' := .loop .exhausted pend fn2 nt2 tm2 ps2 as2 b2 d2) hl2 e2' hN1.size hN1.other hN1.os hN1.out hN1.tape
                    ⟨k0, _, hself, rfl, k3, k4, k5, k6, k7, k8⟩
                  have hend : (Instr.endLoop lb).run P w2 = .ok pend (putO w2 p.b (.loop { L2 with state := .exhausted })) := by
                    rw [← e3]
                    unfold Instr.endLoop
                    have hnb' : (L2.state == .busy) = false := by rw [k2]; cases st <;> first | rfl | exact absurd rfl hnb
                    simp only [Sem.run_bind, getLoop_ok k1, Result.andThen_ok, hnb', Bool.false_eq_true, if_false, Sem.run_pure, setObj_ok k1 (fun _ _ _ h => by cases h), k3]
                  refine ⟨pend, _, hend, ?_⟩
                  have hExt := (e6.trans v3).trans hT3.2
                  have hDF : DF ρ2 (mark ++ df) (M ++ A.defers) := (e4.mono v3.le).append (hD.mono (e6.le.trans v3.le))
                  have hTR : TR η ρ2 nt a A.tmps := hA.mono (e6.le.trans v3.le)
                  cases pend with
                  | none =>
                    have : Out.done .nor a (mark ++ df) { heap := s2.heap.set l (.loop .exhausted none fn2 nt2 tm2 ps2 as2 b2 d2), next := s2.next } = .done x a' df' s' := by
                      rw [← h']; cases st <;> first | rfl | exact absurd rfl hnb
                    cases this
                    exact hQ ρ2 { A with defers := M ++ A.defers } _ hTR hDF hT3.1 hExt
                  | some j =>
                    have : rec rnd fn nt j a (mark ++ df) { heap := s2.heap.set l (.loop .exhausted (some j) fn2 nt2 tm2 ps2 as2 b2 d2), next := s2.next } = .done x a' df' s' := by
                      rw [← h']; cases st <;> first | rfl | exact absurd rfl hnb
                    have hj := hrec rnd r fn nt j a (mark ++ df) _ { A with defers := M ++ A.defers } _ ρ2 n hT3.1 (hL.mono hExt) hTR hDF (hN.mono (e6.le.trans v3.le))
                    rw [this] at hj
                    exact hj Q fun ρ' A' w' u1 u2 u3 u4 => hQ ρ' A' w' u1 u2 u3 (hExt.trans u4)
                · cases h'
      · cases h'
end
end Go.Dx

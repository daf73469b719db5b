/-
  A round of a range over a function; an operation; a region in the text's order.
-/
import Derived.Test.YtlihinmgpfbolaaGreatDoorDCall
namespace Go.Dx

theorem FW_in (r : Option Nat) (l : Nat) : (FW r).inRound l = FW (some l) := by cases r <;> rfl

section
variable {G : Ctx} {P : Program} {η : Env}

theorem TR.params {ρ : Pls} {nt : Nat} : ∀ (ps : List Tmp) (args : List SV) (A : List Value) (t : PM SV) (T : Array Value), VRL η ρ args A → TR η ρ nt t T →
    TR η ρ nt ((ps.zip args).foldl (fun t p => putD nt t (some p.1) p.2) t) ((ps.zip A).foldl (fun tmps (t, a) => tmps.setIfInBounds t a) T)
  | [], _, _, _, _, _, h => h
  | p :: ps, [], _, _, _, hA, h => by cases hA; exact h
  | p :: ps, v :: args, _, t, T, hA, h => by
    cases hA with
    | cons hv hl =>
      have := TR.put (A := { tmps := T, defers := [] }) h hv (some p)
      exact TR.params ps args _ _ _ hl this

theorem getLoop_ok {w : World} {b : Nat} {L : Loop} (h : w.heap[b]? = some (.loop L)) : (Instr.getLoop b).run P w = .ok L w := by
  unfold Instr.getLoop
  simp only [Sem.run_bind, getObj_ok h (fun _ _ _ h => by cases h), Result.andThen_ok, Sem.run_pure]

theorem round_ok {rec : Rec} (hrec : RecOK P G η rec) {ρ : Pls} {s s' : St} {w : World} (hR : Rep η ρ s w) (hL : GF G P η ρ s w) {l : Nat} {p : Pl} (hp : ρ l = some p) {args : List SV} {A : Array Value} {v : SV} (hA : VRL η ρ args A.toList)
    (h : roundD rec l args s = .ret v s') (r : Option Nat) (n : Nat) :
    ∃ (f : FuncId) (tmps : Array Value) (asg body : Code), (Instr.yield p.b A).run P w = .ok (.round p.b f tmps asg body) w ∧
      ∀ R : Ending → World → Prop, (∀ ρ' V w', VR η ρ' v V → Rep η ρ' s' w' → Ext ρ s w ρ' s' w' → R (.returned V) w') → RoundIn (FW r) n P p.b f tmps asg body w R := by
  unfold roundD at h
  split at h
  · rename_i pend fn nt tm ps asg body dfr hl
    split at h
    · cases h
    · rename_i hlen
      obtain ⟨p0, hp0, h0, L, hL1, hst, hpe, hT, hps, hasg, hbody, q, hq, hdq⟩ := hR.obj l _ hl
      rw [hp] at hp0; cases hp0
      refine ⟨L.fn, (L.params.zip A).foldl (fun tmps (t, a) => tmps.setIfInBounds t a) L.tmps, L.assign, L.body, ?_, ?_⟩
      · have hsz : A.size = L.params.size := by
          have h1 := hA.length
          have h2 := beq_t.1 hlen
          rw [← hps] at h2
          simp at h1 h2; omega
        unfold Instr.yield
        simp only [Sem.run_bind, getLoop_ok hL1, Result.andThen_ok]
        rw [if_neg (by simp [hsz])]
        simp only [Sem.run_pure]
      · intro R hQ
        have hTR : TR η ρ nt ((ps.zip args).foldl (fun t p => putD nt t (some p.1) p.2) tm) ((L.params.zip A).foldl (fun tmps (t, a) => tmps.setIfInBounds t a) L.tmps) := by
          rw [← Array.foldl_toList, Array.toList_zip, hps]
          exact TR.params ps args A.toList tm L.tmps hA hT
        refine roundIn_of_wpIn (FW_fn _ _) ?_
        rw [FW_in, hasg, hbody]
        have hc := hrec (some l) (some p.b) fn nt asg _ [] s { tmps := (L.params.zip A).foldl (fun tmps (t, a) => tmps.setIfInBounds t a) L.tmps, defers := [] } w ρ n hR hL hTR trivial ⟨p, hp, rfl⟩
        generalize rec (some l) fn nt asg _ [] s = out at hc h
        split at h
        · rename_i a1 s1
          refine hc _ fun ρ1 A1 w1 t1 t2 t3 t4 => ?_
          split at h
          · rename_i q1 f1 n1 tm1 p1 as1 b1 d1 hl1
            obtain ⟨p', hp', k0, L1, k1, k2, k3, k4, k5, k6, k7, k8⟩ := t3.obj l _ hl1
            have e := t4.le _ _ hp; rw [e] at hp'; cases hp'
            have hD1 : A1.defers = [] := by
              revert t2
              cases A1.defers with
              | nil => exact fun _ => rfl
              | cons x xs => exact fun h => h.elim
            have hN := near_putO w1 p.b (.loop { L1 with state := .busy })
            have hself := putO_self (o' := .loop { L1 with state := .busy }) k1
            have hT2 := t3.turn (o' := .loop .busy q1 f1 n1 tm1 p1 as1 b1 d1) hl1 e hN.size hN.other hN.os hN.out hN.tape
              ⟨k0, _, hself, rfl, k3, k4, k5, k6, k7, k8⟩
            refine ⟨putO w1 p.b (.loop { L1 with state := .busy }), ?_, ?_⟩
            · unfold Instr.beginRound
              simp only [Sem.run_bind, getLoop_ok k1, Result.andThen_ok, setObj_ok k1 (fun _ _ _ h => by cases h), k2, Sem.run_pure]
            · have hc2 := hrec (some l) (some p.b) fn nt body a1 [] _ A1 _ ρ1 n hT2.1 (hL.mono (t4.trans hT2.2)) t1 (by rw [hD1]; trivial) ⟨p, e, rfl⟩
              generalize rec (some l) fn nt body a1 [] _ = out2 at hc2 h
              split at h
              · rename_i x a2 s2
                refine hc2 _ fun ρ2 A2 w2 u1 u2 u3 u4 => ?_
                split at h
                · rename_i st2 q2 f2 n2 tm2 p2 as2 b2 d2 hl2
                  cases h
                  obtain ⟨p', hp', k0, L2, k1, k2, k3, k4, k5, k6, k7, k8⟩ := u3.obj l _ hl2
                  have e2 := u4.le _ _ e; rw [e2] at hp'; cases hp'
                  have hend : ∃ V w', (Instr.endRound p.b (jumpOf x)).run P w2 = .ok V w' ∧ R (.returned V) w' := by
                    have hN := near_putO w2 p.b (.loop { L2 with state := if (jumpOf x).isNone then .ready else .done, pending := jumpOf x })
                    have hself := putO_self (o' := .loop { L2 with state := if (jumpOf x).isNone then .ready else .done, pending := jumpOf x }) k1
                    have hT3 := u3.turn (o' := .loop (match (jumpOf x).isNone with | true => .ready | false => .done) (jumpOf x) f2 n2 tm2 p2 as2 b2 d2) hl2 e2 hN.size hN.other hN.os hN.out hN.tape
                      ⟨k0, _, hself, by cases (jumpOf x).isNone <;> rfl, rfl, k4, k5, k6, k7, k8⟩
                    refine ⟨.bool (jumpOf x).isNone, _, ?_, hQ ρ2 _ _ (.bool _) hT3.1 (((t4.trans hT2.2).trans u4).trans hT3.2)⟩
                    unfold Instr.endRound
                    simp only [Sem.run_bind, getLoop_ok k1, Result.andThen_ok, setObj_ok k1 (fun _ _ _ h => by cases h), Sem.run_pure]
                  cases x with
                  | nor => exact hend
                  | exit id => exact hend
                  | goto t => exact hend
                  | ret => exact hend
                · cases h
              · cases h
          · cases h
        · cases h
  · cases h

theorem op_ok (hG : GOK G P) (hB : BOK G η) {rec : Rec} (hrec : RecOK P G η rec) {ρ : Pls} {s s' : St} {w : World} (hR : Rep η ρ s w) (hL : GF G P η ρ s w) {nt : Nat} {a : PM SV} {A : Act} (hA : TR η ρ nt a A.tmps) {o : Oper} {v : SV}
    (h : opD rec G a s o.op = .ret v s') (r : Option Nat) (n : Nat) (next : Act → World → Prop) (Q : Exit → Act → World → Prop)
    (hQ : ∀ ρ' V w', VR η ρ' v V → Rep η ρ' s' w' → Ext ρ s w ρ' s' w' → next (A.put o.dst V) w') : o.wpIn (FW r) n P A w next Q := by
  refine ⟨fun f _ => FW_fn r f, ?_⟩
  have hd : ∀ c, o.op ≠ .defer c := fun c e => by rw [e] at h; simp only [opD, execD] at h; cases h
  rw [Oper.semAt_eq _ _ _ hd]
  have hS := exec_sound hG hB hR hL.glb hA o
  unfold opD at h
  generalize execD G a s o.op = x at h hS
  generalize (execOp A.eval o).run P w = res at hS
  cases x with
  | fail => cases h
  | val v0 s0 =>
    cases h
    obtain ⟨w', ρ', V, h1, h2, h3, h4⟩ := hS
    rcases h1 with rfl | ⟨rfl, rfl⟩
    · exact hQ ρ' V w' h2 h3 h4
    · exact hQ ρ' undef w' h2 h3 h4
  | call f args =>
    obtain ⟨AA, rfl, h2⟩ := hS
    exact ⟨FW_n r n, callsIn_FW (call_ok hG hrec hR hL h2 h (n - 1) _ fun ρ' V w' h1 h2 h3 => hQ ρ' V w' h1 h2 h3)⟩
  | round l args =>
    obtain ⟨p, AA, hp, rfl, h2⟩ := hS
    obtain ⟨f, tmps, asg, body, h3, h4⟩ := round_ok hrec hR hL hp h2 h r (n - 1)
    rw [h3]
    exact ⟨FW_n r n, h4 _ fun ρ' V w' h1 h2 h3 => hQ ρ' V w' h1 h2 h3⟩

theorem wanted_sound {ρ : Pls} {nt : Nat} {a : PM SV} {A : Act} (hA : TR η ρ nt a A.tmps) {ops : Array Oper} {o : Oper} {b : Bool} (h : wantedD ops.toList a o.guard = some b) : Region.wanted o (yielded ops A.tmps) = b := by
  unfold wantedD at h
  unfold Region.wanted
  split at h
  · rename_i hg; cases h; rw [hg]
  · rename_i j wnt hg
    rw [hg]
    simp only
    split at h
    · cases h
    · rename_i o' ho
      rw [nth_eq] at ho
      have ho' : ops[j]? = some o' := by simpa using ho
      split at h
      · cases h
      · rename_i d hd
        unfold yielded
        split at h
        · rename_i b' hb
          obtain ⟨V, v1, v2⟩ := hA.2 d _ hb
          cases v2
          simp only [ho', Option.bind_some, hd, v1]
          cases b' <;> cases wnt <;> (cases h; rfl)
        · rename_i hb
          obtain ⟨V, v1, v2⟩ := hA.2 d _ hb
          cases v2
          simp only [ho', Option.bind_some, hd, v1]
          cases h; cases wnt <;> rfl
        · cases h

theorem runOps_ok (hG : GOK G P) (hB : BOK G η) {rec : Rec} (hrec : RecOK P G η rec) (rnd r : Option Nat) (n nt : Nat) (ops : Array Oper) : ∀ (os : List Oper) (k : Nat), ops.toList.drop k = os →
    ∀ (df : List DM) (ρ : Pls) (a : PM SV) (s : St) (A : Act) (w : World), Rep η ρ s w → GF G P η ρ s w → TR η ρ nt a A.tmps → DF ρ df A.defers → RN ρ rnd r →
    ∀ x a' df' s', runOps rec G rnd nt ops.toList os a df s = .done x a' df' s' → ∀ Q : Exit → Act → World → Prop,
      (∀ ρ' A' w', TR η ρ' nt a' A'.tmps → DF ρ' df' A'.defers → Rep η ρ' s' w' → Ext ρ s w ρ' s' w' → Q (exitOf x) A' w') → wpOpsIn (FW r) n P ops Q (List.range' k os.length) A w := by
  intro os
  induction os with
  | nil =>
    intro k hk df ρ a s A w hR hL hA hD hN x a' df' s' h Q hQ
    simp only [runOps] at h
    cases h
    exact hQ ρ A w hA hD hR .refl
  | cons o os ih =>
    intro k hk df ρ a s A w hR hL hA hD hN x a' df' s' h Q hQ
    have hk1 : ops.toList.drop (k + 1) = os := by rw [← List.drop_drop, hk]; rfl
    have hko : ops[k]? = some o := by
      have : (ops.toList.drop k)[0]? = some o := by rw [hk]; rfl
      rw [List.getElem?_drop] at this
      simpa using this
    rw [List.length_cons, List.range'_succ]
    simp only [wpOpsIn, hko]
    simp only [runOps] at h
    split at h
    · cases h
    · rename_i hw
      rw [wanted_sound hA hw]
      refine ⟨fun f _ => FW_fn r f, ?_⟩
      exact ih (k + 1) hk1 df ρ _ s _ w hR hL (TR.put hA (.tup .nil) o.dst) (by rw [put_defers]; exact hD) hN x a' df' s' h Q hQ
    · rename_i hw
      rw [wanted_sound hA hw]
      split at h
      · rename_i f hdef
        rw [if_pos rfl]
        unfold deferD at hdef
        split at hdef
        · rename_i c hop
          split at hdef
          · rename_i f0 hc
            split at hdef
            · rename_i g fl fc hev
              cases hdef
              cases r with
              | some l => exact hN.elim
              | none =>
                have v2 := ev_sound hL.glb hA hev
                generalize hv1 : A.eval f0 = V at v2
                have v1 : A.eval f0 = V := hv1
                cases v2 with
                | @fn _ _ _ L C hl hcc =>
                  refine ⟨fun f _ => FW_fn none f, ?_⟩
                  have hsem : (o.semAt (FW none).round A.eval).run P w = .ok (.defer { target := .fn (.func f) C, args := L ++ c.args.map A.eval }) w := by
                    show (execOp A.eval o).run P w = _
                    unfold execOp
                    rw [hop]
                    simp only [resolve, hc, v1, Deferred.ofValue, Sem.run_bind, Sem.run_pure, Result.andThen_ok]
                  rw [hsem]
                  refine ih (k + 1) hk1 (.quiet f :: df) ρ _ s _ w hR hL (TR.put (A := { A with defers := _ :: A.defers }) hA (.tup .nil) o.dst) (by rw [put_defers]; exact ⟨⟨_, _, rfl⟩, hD⟩) hN x a' df' s' h Q hQ
            · cases hdef
          · cases hdef
        · cases hdef
      · cases h
      · split at h
        · cases h
        · rename_i v s1 hop
          rw [if_pos rfl]
          refine op_ok hG hB hrec hR hL hA hop r n _ Q fun ρ1 V w1 v1 v2 v3 => ?_
          exact ih (k + 1) hk1 df ρ1 _ s1 _ w1 v2 (hL.mono v3) (TR.put (hA.mono v3.le) v1 o.dst) (by rw [put_defers]; exact hD.mono v3.le) (hN.mono v3.le) x a' df' s' h Q
           fun ρ' A' w' q1 q2 q3 q4 => hQ ρ' A' w' q1 q2 q3 (v3.trans q4)
end
end Go.Dx

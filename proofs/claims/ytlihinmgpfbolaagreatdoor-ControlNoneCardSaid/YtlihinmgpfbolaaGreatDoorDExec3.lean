/-
  One operation, of every kind.
-/
import Derived.Test.YtlihinmgpfbolaaGreatDoorDExec2
namespace Go.Dx
section
variable {G : Ctx} {P : Program} {η : Env} {ρ : Pls} {s s' : St} {w w' : World}

theorem loadO_sound (hG : GOK G P) (hR : Rep η ρ s w) {t : TypeId} {x : Option SV} {X : Value} (hx : EV η ρ x X) :
    OpSpec P η ρ s w (loadO G s t x) ((do pure (Next.value (← Instr.loadAt t X)) : Sem Next).run P w) := by
  unfold loadO
  split
  · rename_i b o
    cases hx _ rfl with
    | @ptr _ _ p hp =>
      refine spec_same hR fun v hv => ?_
      obtain ⟨V, v1, v2⟩ := load_sound hG hR hv hp
      exact ⟨V, by unfold Instr.loadAt Instr.sureAddr; simp only [Sem.run_bind, Sem.run_pure, Result.andThen_ok, v1], v2⟩
  · trivial
theorem storeO_sound (hG : GOK G P) (hR : Rep η ρ s w) {t : TypeId} {x y : Option SV} {X Y : Value} (hx : EV η ρ x X) (hy : EV η ρ y Y) :
    OpSpec P η ρ s w (storeO G s t x y) ((do Instr.storeAt t X Y; pure Next.skip : Sem Next).run P w) := by
  unfold storeO
  split
  · rename_i b o v
    cases hx _ rfl with
    | @ptr _ _ p hp =>
      refine spec_skip fun s' hs => ?_
      obtain ⟨w', v1, v2, v3⟩ := storeVar_sound hG hR hs hp (hy _ rfl)
      exact ⟨w', by unfold Instr.storeAt Instr.sureAddr; simp only [Sem.run_bind, Sem.run_pure, Result.andThen_ok, v1], v2, v3⟩
  · trivial
theorem bin_sound (hG : GOK G P) (hB : BOK G η) (hR : Rep η ρ s w) {op : BinOp} {t : TypeId} {x y : Option SV} {X Y : Value} (ox oy : Operand) (hx : EV η ρ x X) (hy : EV η ρ y Y) :
    OpSpec P η ρ s w (binO G s op t x y) ((do pure (Next.value (← (do eqGuard op t ox oy X Y; binOp op t X Y : Sem Value))) : Sem Next).run P w) := by
  unfold binO
  split
  · rename_i v u
    refine spec_same hR fun r hr => ?_
    have h1 := hx _ rfl
    have h2 := hy _ rfl
    unfold binOpD at hr
    split at hr
    · rename_i k a k' b
      cases h1; cases h2
      have hg : ∀ o, eqGuard o t ox oy (.int k (a.den η)) (.int k' (b.den η)) = pure () := fun o => by cases o <;> rfl
      split at hr
      · split at hr
        · obtain ⟨V, v1, v2⟩ := shift_sound (P := P) (w := w) (η := η) (ρ := ρ) (k' := k') t hr (.inl rfl)
          exact ⟨V, by rw [hg]; simp only [Sem.run_bind, Sem.run_pure, Result.andThen_ok]; exact v1, v2⟩
        · cases hr
      · split at hr
        · obtain ⟨V, v1, v2⟩ := shift_sound (P := P) (w := w) (η := η) (ρ := ρ) (k' := k') t hr (.inr rfl)
          exact ⟨V, by rw [hg]; simp only [Sem.run_bind, Sem.run_pure, Result.andThen_ok]; exact v1, v2⟩
        · cases hr
      · rename_i hs1 hs2
        split at hr
        · rename_i hk
          have := kn_inj hk
          subst this
          obtain ⟨V, v1, v2⟩ := intOpT_sound (P := P) (w := w) (ρ := ρ) hB t (fun e => hs1 e) (fun e => hs2 e) hr
          exact ⟨V, by rw [hg]; simp only [Sem.run_bind, Sem.run_pure, Result.andThen_ok]; exact v1, v2⟩
        · cases hr
    · cases h1; cases h2
      rename_i a b
      have hg : ∀ o, eqGuard o t ox oy (.string a) (.string b) = pure () := fun o => by cases o <;> rfl
      obtain ⟨V, v1, v2⟩ := strOp_sound (P := P) (w := w) (η := η) (ρ := ρ) t hr
      exact ⟨V, by rw [hg]; simp only [Sem.run_bind, Sem.run_pure, Result.andThen_ok]; exact v1, v2⟩
    · split at hr
      · obtain ⟨b, hb, rfl⟩ := bsome_inv hr
        have := eqv_sound (w := w) hG hB (op := .eql) ox oy hb h1 h2 (.inl rfl)
        exact ⟨_, this, by rw [if_pos rfl]; exact .bool _⟩
      · obtain ⟨b, hb, rfl⟩ := bnot_inv hr
        have := eqv_sound (w := w) hG hB (op := .neq) ox oy hb h1 h2 (.inr rfl)
        exact ⟨_, this, by rw [if_neg (by simp)]; exact .bool _⟩
      · cases hr
  · trivial
theorem un_sound (hR : Rep η ρ s w) {op : UnOp} {x : Option SV} {X : Value} (hx : EV η ρ x X) :
    OpSpec P η ρ s w (unD s op x) ((do pure (Next.value (← Op.unary op X)) : Sem Next).run P w) := by
  unfold unD
  split
  · rename_i b
    cases hx _ rfl
    refine spec_val ⟨.bool (!b), w, ρ, rfl, ?_, hR, .refl⟩
    cases b <;> exact .bool _
  · rename_i k n
    cases hx _ rfl
    refine spec_val ⟨.int k (k.wrap (0 - n)), w, ρ, rfl, ?_, hR, .refl⟩
    rw [wrapF_eq]; exact .int _ (.c _)
  · rename_i k n
    cases hx _ rfl
    refine spec_val ⟨_, w, ρ, rfl, ?_, hR, .refl⟩
    rw [wrapF_eq, bitsOf_eq, bitsOf_eq, BitVec.toNat_xor]
    have : ones k = if k.signed then -1 else k.max := by unfold ones; cases k.signed <;> rfl
    rw [this]; exact .int _ (.c _)
  · trivial
theorem conv_sound (hG : GOK G P) (hB : BOK G η) (hR : Rep η ρ s w) {src dst : TypeId} {x : Option SV} {X : Value} (hx : EV η ρ x X) :
    OpSpec P η ρ s w (convO G s src dst x) ((do pure (Next.value (← Go.convert src dst X)) : Sem Next).run P w) := by
  unfold convO
  split
  · rename_i v
    cases h : convertD G s src dst v with
    | fail => trivial
    | val r s' =>
      obtain ⟨rfl, V, v1, v2⟩ := convert_sound hG hB hR h (hx _ rfl)
      exact spec_val ⟨V, w, ρ, v1, v2, hR, .refl⟩
    | call f a => exfalso; unfold convertD ofV at h; (repeat' split at h) <;> cases h
    | round f a => exfalso; unfold convertD ofV at h; (repeat' split at h) <;> cases h
  · trivial
theorem iface_sound (hG : GOK G P) (hR : Rep η ρ s w) {t : TypeId} {x : Option SV} {X : Value} (hx : EV η ρ x X) :
    OpSpec P η ρ s w (ifaceD G s t x) ((do pure (Next.value (← Instr.makeInterface t X)) : Sem Next).run P w) := by
  unfold ifaceD
  split
  · rename_i d v hd
    split
    · trivial
    · rename_i hni
      refine spec_val ⟨.iface t X, w, ρ, ?_, .ifc (hx _ rfl), hR, .refl⟩
      unfold Instr.makeInterface
      simp only [Sem.run_bind, hG.run_underlying hd, Result.andThen_ok]
      first | rfl | (split <;> first | (exact absurd rfl (hni _)) | rfl)
  · trivial
theorem fieldAddr_sound (hG : GOK G P) (hR : Rep η ρ s w) {t : TypeId} {x : Option SV} {X : Value} {f : Nat} (hx : EV η ρ x X) :
    OpSpec P η ρ s w (fieldAddrD G s t x f) ((do pure (Next.value (← Instr.fieldAt t X f)) : Sem Next).run P w) := by
  unfold fieldAddrD
  split
  · rename_i fs b o hd
    split
    · rename_i fl hfl
      split
      · rename_i n hn
        rw [nth_toList] at hfl
        cases hx _ rfl with
        | @ptr _ _ p hp =>
          refine spec_val ⟨.pointer (some ⟨p.b, p.base + o + fl.offset, none⟩), w, ρ, ?_, ?_, hR, .refl⟩
          · unfold Instr.fieldAt Instr.sureAddr
            simp only [Sem.run_bind, hG.run_underlying hd, Result.andThen_ok, hfl, Sem.run_pure]
            unfold fieldPlace
            simp only [Sem.run_bind, hG.run_sizeOf hn, Result.andThen_ok]
            rw [if_neg (by omega)]
            simp only [add_plain, Sem.run_pure, Result.andThen_ok]
          · rw [Nat.add_assoc]; exact .ptr hp
      · trivial
    · trivial
  · trivial
theorem field_sound (hG : GOK G P) (hR : Rep η ρ s w) {t : TypeId} {x : Option SV} {X : Value} {f : Nat} (hx : EV η ρ x X) :
    OpSpec P η ρ s w (fieldD G s t x f) ((do pure (Next.value (← Instr.field t X f)) : Sem Next).run P w) := by
  unfold fieldD
  split
  · rename_i fs l hd
    split
    · rename_i fl hfl
      rw [nth_toList] at hfl
      cases hx _ rfl with
      | agg hl =>
        refine spec_same hR fun v hv => ?_
        obtain ⟨V, v1, v2⟩ := part_sound (w := w) hG hv hl
        refine ⟨V, ?_, v2⟩
        unfold Instr.field asAgg
        simp only [Sem.run_bind, hG.run_underlying hd, Result.andThen_ok, hfl, Sem.run_pure, v1]
    · trivial
  · trivial
theorem findI_in {t : TypeId} {j : Nat} {i : SI} {v : SV} : ∀ {l : List ITab}, findI t j i l = some v → ∃ e ∈ l, e.t = t ∧ e.j = j ∧ e.i = i ∧ v = .ptr e.id e.o
  | [], h => by simp only [findI] at h; cases h
  | e :: es, h => by
    simp only [findI] at h
    split at h
    · rename_i h1 h2 h3
      cases h
      exact ⟨e, List.mem_cons_self, beq_t.1 h1, beq_t.1 h2, seq_eq h3, rfl⟩
    · obtain ⟨e', he, hh⟩ := findI_in h
      exact ⟨e', List.mem_cons_of_mem _ he, hh⟩
theorem indexAddr_sound (hG : GOK G P) (hL : GL G P η ρ) (hR : Rep η ρ s w) {t : TypeId} {x i : Option SV} {X I : Value} (hx : EV η ρ x X) (hi : EV η ρ i I) :
    OpSpec P η ρ s w (indexAddrD G s t x i) ((do pure (Next.value (← Instr.indexAt t X I)) : Sem Next).run P w) := by
  unfold indexAddrD
  split
  · rename_i n e b o i hd
    unfold elemAddr
    split
    · rename_i j z hj hz
      split
      · rename_i hlt
        have hlt' := blt_t.1 hlt
        obtain ⟨k, rfl⟩ := getN_inv hj (hi _ rfl)
        cases hx _ rfl with
        | @ptr _ _ p hp =>
          refine spec_val ⟨.pointer (some ⟨p.b, p.base + o + j * z, none⟩), w, ρ, ?_, ?_, hR, .refl⟩
          · unfold Instr.indexAt asIntOf Instr.sureAddr
            simp only [Sem.run_bind, hG.run_underlying hd, Result.andThen_ok, Sem.run_pure]
            rw [if_pos ⟨by omega, by omega⟩]
            simp only [Sem.run_bind, hG.run_sizeOf hz, Result.andThen_ok, add_plain, Int.toNat_natCast, Sem.run_pure]
          · rw [Nat.add_assoc]; exact .ptr hp
      · trivial
    · trivial
  · rename_i e b o n cp i hd
    unfold elemAddr
    split
    · rename_i j z hj hz
      split
      · rename_i hlt
        have hlt' := blt_t.1 hlt
        obtain ⟨k, rfl⟩ := getN_inv hj (hi _ rfl)
        obtain ⟨p, o', c, hp, rfl, ho⟩ := sl_addr (hx _ rfl)
        have := ho (by omega)
        subst this
        refine spec_val ⟨.pointer (some ⟨p.b, p.base + o + j * z, none⟩), w, ρ, ?_, ?_, hR, .refl⟩
        · unfold Instr.indexAt asIntOf
          simp only [Sem.run_bind, hG.run_underlying hd, Result.andThen_ok, Sem.run_pure]
          rw [if_pos ⟨by omega, by omega⟩]
          simp only [Sem.run_bind, hG.run_sizeOf hz, Result.andThen_ok, add_plain, Int.toNat_natCast, Sem.run_pure]
        · rw [Nat.add_assoc]; exact .ptr hp
      · trivial
    · trivial
  · rename_i e j i hd
    refine spec_same hR fun v hv => ?_
    obtain ⟨en, he, rfl, rfl, rfl, rfl⟩ := findI_in hv
    obtain ⟨p, hp, hrun⟩ := hL.itab en he
    cases hx _ rfl
    cases hi _ rfl
    exact ⟨_, hrun w, .ptr hp⟩
  · trivial

theorem index_sound (hG : GOK G P) (hR : Rep η ρ s w) {t : TypeId} {x i : Option SV} {X I : Value} (hx : EV η ρ x X) (hi : EV η ρ i I) :
    OpSpec P η ρ s w (indexD G s t x i) ((do pure (Next.value (← Instr.index t X I)) : Sem Next).run P w) := by
  unfold indexD
  split
  · rename_i n e l i hd
    split
    · rename_i j z hj hz
      split
      · rename_i hlt
        have hlt' := blt_t.1 hlt
        obtain ⟨k, rfl⟩ := getN_inv hj (hi _ rfl)
        cases hx _ rfl with
        | agg hl =>
          refine spec_same hR fun v hv => ?_
          obtain ⟨V, v1, v2⟩ := part_sound (w := w) hG hv hl
          refine ⟨V, ?_, v2⟩
          unfold Instr.index asIntOf
          simp only [Sem.run_bind, hG.run_underlying hd, Result.andThen_ok, Sem.run_pure]
          rw [if_pos ⟨by omega, by omega⟩]
          simp only [Sem.run_bind, hG.run_sizeOf hz, Result.andThen_ok, Int.toNat_natCast]
          exact v1
      · trivial
    · trivial
  · rename_i l i hd
    split
    · rename_i j hj
      split
      · rename_i b hb
        obtain ⟨k, rfl⟩ := getN_inv hj (hi _ rfl)
        cases hx _ rfl with
        | str s0 =>
          rw [nth_eq] at hb
          have hlen : (bytesOfArr s0).length = s0.size := bytes_length s0
          have hlt : j < s0.size := by
            rw [← hlen]; exact (List.getElem?_eq_some_iff.1 hb).1
          have hval : b = (s0[j]'hlt).toNat := by
            have h2 := (List.getElem?_eq_some_iff.1 hb).2
            rw [← h2]
            unfold bytesOfArr
            simp; rfl
          refine spec_val ⟨.int .u8 (b : Int), w, ρ, ?_, .int _ (.c _), hR, .refl⟩
          unfold Instr.index asIntOf
          simp only [Sem.run_bind, hG.run_underlying hd, Result.andThen_ok, Sem.run_pure]
          rw [if_pos (by omega : (0 : Int) ≤ (j : Int))]
          have : s0[(j : Int).toNat]? = some (s0[j]'hlt) := by
            rw [Int.toNat_natCast]
            exact getElem?_pos s0 j hlt
          rw [this, hval]
          rfl
      · trivial
    · trivial
  · trivial

theorem born_sound {n : Nat} {e : SV × SV} : ∀ {es : List (SV × SV × Nat)} {E : List MapEntry}, ER η ρ es E → born n es = some e → ∃ m, E.find? (fun x => x.born == n) = some m ∧ VR η ρ e.1 m.key ∧ VR η ρ e.2 m.val := by
  intro es
  induction es with
  | nil => intro E _ h; cases h
  | cons x es ih =>
    intro E he h
    cases he with
    | cons a b hl =>
      simp only [born] at h
      rw [List.find?_cons]
      split at h
      · rename_i hb
        cases h
        simp only [beq_iff_eq.2 (beq_t.1 hb)]
        exact ⟨_, rfl, a, b⟩
      · rename_i hb
        have := beq_f.1 hb
        have h2 : ∀ {q : Nat}, q ≠ n → (q == n) = false := fun h => by simpa using h
        simp only [h2 this]
        exact ih hl h
theorem lastOf_eq : ∀ l : List Nat, lastOf l = l.getLast?
  | [] => rfl
  | [x] => rfl
  | x :: y :: l => by rw [lastOf, lastOf_eq (y :: l), List.getLast?_cons_cons]
theorem entry_sound (hR : Rep η ρ s w) {x : Option SV} {X : Value} (hx : EV η ρ x X) :
    OpSpec P η ρ s w (entryD s x) ((do pure (Next.value (← Instr.entry X)) : Sem Next).run P w) := by
  unfold entryD
  split
  · rename_i r
    cases hx _ rfl with
    | @ptr _ _ p hp =>
      split
      · rename_i m since seen stepped hr
        split
        · rename_i es clock hm
          split
          · rename_i last c1 hlast
            split
            · rename_i e he
              obtain ⟨p', hp', hb0, M, h1, q, hq, rfl⟩ := hR.obj r _ hr
              rw [hp] at hp'; cases hp'
              obtain ⟨q', hq', E, h2, h3⟩ := hR.obj m _ hm
              rw [hq] at hq'; cases hq'
              obtain ⟨m, m1, m2, m3⟩ := born_sound h3 he
              rw [lastOf_eq] at hlast
              refine spec_val ⟨.tuple #[m.key, m.val], w, ρ, ?_, .tup (.cons m2 (.cons m3 .nil)), hR, .refl⟩
              unfold Instr.entry
              have hg1 : (getObj p.b).run P w = .ok (.mapIter (some q.b) since seen.toArray stepped) w := getObj_ok h1 (fun _ _ _ h => by cases h)
              have hg2 : (getObj q.b).run P w = .ok (.map E clock) w := getObj_ok h2 (fun _ _ _ h => by cases h)
              have hback : seen.toArray.back? = some last := by rw [List.back?_toArray]; exact hlast
              have hcl : (clock != stepped) = false := by simpa using beq_t.1 c1
              have hfind : E.find? (fun x => x.born == last) = some m := by rw [← Array.find?_toList]; exact m1
              simp only [hb0, Nat.add_zero, Sem.run_bind, hg1, hg2, Result.andThen_ok, hback, hcl, Bool.false_eq_true, if_false, hfind, Sem.run_pure]
            · trivial
          · trivial
        · trivial
      · trivial
  · trivial

theorem call_sound (hG : GOK G P) (hB : BOK G η) (hR : Rep η ρ s w) (hL : GL G P η ρ) {nt : Nat} {a : PM SV} {A : Act} (hA : TR η ρ nt a A.tmps) (c : Call) (ty : TypeId) :
    OpSpec P η ρ s w (callO G a s c.callee c.argTypes.toList (evs G a c.args.toList)) ((do let d ← resolve A.eval c ty; invoke d.target d.args : Sem Next).run P w) := by
  unfold callO
  split
  · trivial
  · rename_i args hargs
    have hVA := evs_sound hL hA hargs
    rw [← Array.toList_map] at hVA
    obtain ⟨callee, cargs, ats⟩ := c
    cases callee with
    | invoke r n => trivial
    | value f =>
      simp only
      split
      · rename_i v hv
        have hf := ev_sound hL hA hv
        unfold callV
        split
        · rename_i g first cap
          generalize hfv : A.eval f = F at hf
          cases hf with
          | @fn _ _ _ L C hl hc =>
            have : (do let d ← resolve A.eval ⟨.value f, cargs, ats⟩ ty; invoke d.target d.args : Sem Next).run P w = (callFunc g (L ++ cargs.map A.eval ++ C)).run P w := by
              simp only [resolve, hfv, Deferred.ofValue, Sem.run_bind, Sem.run_pure, Result.andThen_ok, invoke]
            rw [this]
            exact callF_sound hG hR (by simp only [Array.toList_append]; exact (hl.append hVA).append hc)
        · rename_i l
          generalize hfv : A.eval f = F at hf
          cases hf with
          | @yld _ p hp =>
            refine ⟨p, cargs.map A.eval, hp, ?_, hVA⟩
            simp only [resolve, hfv, Deferred.ofValue, Sem.run_bind, Sem.run_pure, Result.andThen_ok, invoke]
            simp
        · trivial
      · trivial
    | builtin b =>
      have : (do let d ← resolve A.eval ⟨.builtin b, cargs, ats⟩ ty; invoke d.target d.args : Sem Next).run P w = (builtin b ats ty (cargs.map fun | .const _ => true | _ => false) (cargs.map A.eval)).run P w := by
        simp only [resolve, Sem.run_bind, Sem.run_pure, Result.andThen_ok, invoke]
        rfl
      rw [this]
      show OpSpec P η ρ s w (builtinD G s b ats.toList args) _
      generalize hCA : cargs.map A.eval = CA at hVA ⊢
      generalize (cargs.map fun | .const _ => true | _ => false) = consts
      cases b
      case len => exact spec_same (S := Builtin.len_ ats ty CA) hR fun v hv => len_sound hG hR hv hB hVA
      case append =>
        refine spec_res (S := Builtin.append_ ats ty CA) (fun v s' h => append_sound hG hR h hVA) ?_
        constructor <;> intro f a h <;> (change appendD G s ats.toList args = _ at h) <;> unfold appendD appendSp grown at h <;> (repeat' split at h) <;> cases h
      case copy =>
        refine spec_res (S := Builtin.copy_ ats ty CA) (fun v s' h => copy_sound hG hR h hVA) ?_
        constructor <;> intro f a h <;> (change copyD G s ats.toList args = _ at h) <;> unfold copyD at h <;> (dsimp only at h) <;> (repeat' split at h) <;> cases h
      case min =>
        clear hargs
        cases args with
        | cons x xs =>
          refine spec_same (S := Builtin.min_ ats ty CA) hR fun v hv => ?_
          obtain ⟨CA⟩ := CA
          cases hVA with
          | cons hx hxs => exact min_sound hB hv hx hxs
        | nil => trivial
      case max =>
        clear hargs
        cases args with
        | cons x xs =>
          refine spec_same (S := Builtin.max_ ats ty CA) hR fun v hv => ?_
          obtain ⟨CA⟩ := CA
          cases hVA with
          | cons hx hxs => exact max_sound hB hv hx hxs
        | nil => trivial
      all_goals trivial
end
end Go.Dx

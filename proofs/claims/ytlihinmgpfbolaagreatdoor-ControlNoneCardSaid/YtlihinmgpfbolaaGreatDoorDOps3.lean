/-
  Iterators, conversions, literals, addresses, calls of the model's own functions.
-/
import Derived.Test.YtlihinmgpfbolaaGreatDoorDOps2
namespace Go.Dx
section
variable {G : Ctx} {P : Program} {η : Env} {ρ : Pls} {s s' : St} {w w' : World}

theorem ER.len {l : List (SV × SV × Nat)} {L : List MapEntry} (h : ER η ρ l L) : l.length = L.length := by
  induction h with
  | nil => rfl
  | cons _ _ _ ih => simp [ih]
theorem memb_eq (x : Nat) (l : List Nat) : memb x l = l.contains x := by
  induction l with
  | nil => rfl
  | cons y ys ih =>
    simp only [memb, List.contains_cons]
    cases h : Nat.beq x y with
    | true => rw [beq_t.1 h]; simp
    | false => have := beq_f.1 h; simp [ih, this]
theorem ER.notSeen (seen : List Nat) {l : List (SV × SV × Nat)} {L : List MapEntry} (h : ER η ρ l L) : ER η ρ (Dx.notSeen seen l) (L.filter fun e => !seen.contains e.born) := by
  induction h with
  | nil => exact .nil
  | cons a b hl ih =>
    rename_i k v b' K V l L
    simp only [Dx.notSeen, memb_eq, List.filter_cons]
    cases hc : seen.contains b' with
    | true => simp only [Bool.not_true, Bool.false_eq_true, if_false]; exact ih
    | false => simp only [Bool.not_false, if_true]; exact .cons a b ih

variable (hG : GOK G P)
include hG

theorem range_sound (hR : Rep η ρ s w) {t : TypeId} {x v : SV} {X : Value} (h : rangeD G s t x = .val v s') (hx : VR η ρ x X) :
    ∃ V w' ρ', (Instr.range t X).run P w = .ok V w' ∧ VR η ρ' v V ∧ Rep η ρ' s' w' ∧ Ext ρ s w ρ' s' w' := by
  unfold rangeD at h
  split at h
  · rename_i k e hd
    cases h; cases hx
    have hn := hR.new (.miter none 0 [] 0) (.mapIter none 0 #[] 0) 0 (fun ρ' hle hs => ⟨rfl, none, heap_push_new _ _, rfl⟩)
    refine ⟨.pointer (some ⟨w.heap.size, 0, none⟩), _, _, ?_, .ptr (o := 0) (Pls.upd_self _ _ _), hn.1, hn.2⟩
    unfold Instr.range
    simp [hG.run_underlying hd]
  · rename_i k e m hd
    split at h
    · rename_i es clock hm
      cases h
      cases hx with
      | @map _ p hp =>
        obtain ⟨p', hp', E, h1, h2⟩ := hR.obj m _ hm
        rw [hp] at hp'; cases hp'
        have hn := hR.new (.miter (some m) clock [] clock) (.mapIter (some p.b) clock #[] clock) 0 (fun ρ' hle hs => ⟨rfl, _, heap_push_new _ _, p, hle _ _ hp, rfl⟩)
        refine ⟨.pointer (some ⟨w.heap.size, 0, none⟩), _, _, ?_, .ptr (o := 0) (Pls.upd_self _ _ _), hn.1, hn.2⟩
        unfold Instr.range
        simp only [Sem.run_bind, hG.run_underlying hd, Result.andThen_ok, getObj_ok h1 (fun _ _ _ h => by cases h), Sem.run_pure, run_newObj]
        rfl
    · cases h
  · cases h

omit hG in
theorem older_spec {c : Nat} {l : List (SV × SV × Nat)} {L : List MapEntry} (h : ER η ρ l L) (ho : older c l = true) : ∀ e ∈ L, e.born < c := by
  induction h with
  | nil => simp
  | cons a b hl ih =>
    simp only [older] at ho
    split at ho
    · rename_i hb
      intro e he
      rcases List.mem_cons.1 he with rfl | he
      · exact blt_t.1 hb
      · exact ih ho e he
    · cases ho

omit hG in
theorem next_sound (hR : Rep η ρ s w) {t : TypeId} {x v : SV} {X : Value} {isStr : Bool} (h : nextD s x isStr = .val v s') (hx : VR η ρ x X) :
    ∃ V w', (Instr.next X isStr t).run P w = .ok V w' ∧ VR η ρ v V ∧ Rep η ρ s' w' ∧ Ext ρ s w ρ s' w' := by
  unfold nextD at h
  split at h
  · rename_i r
    cases hx with
    | @ptr _ _ p hp =>
      split at h
      · rename_i since seen stepped hr
        cases h
        obtain ⟨p', hp', hb0, M, h1, h2⟩ := hR.obj r _ hr
        rw [hp] at hp'; cases hp'
        simp only at h2; subst h2
        refine ⟨.tuple #[.bool false], w, ?_, .tup (.cons (.bool _) .nil), hR, .refl⟩
        unfold Instr.next
        simp only [hb0, Nat.add_zero, Sem.run_bind, getObj_ok h1 (fun _ _ _ h => by cases h), Result.andThen_ok, Sem.run_pure]
      · rename_i m since seen stepped hr
        split at h
        · rename_i es clock hm
          split at h
          · rename_i c1 c2 c3
            have c1' := beq_t.1 c1
            have c2' := (beq_t.1 c2).symm
            subst c1'
            subst c2'
            obtain ⟨p', hp', hb0, M, h1, q, hq, rfl⟩ := hR.obj r _ hr
            rw [hp] at hp'; cases hp'
            obtain ⟨q', hq', E, h2, h3⟩ := hR.obj m _ hm
            rw [hq] at hq'; cases hq'
            have hold := older_spec h3 c3
            have hns := h3.notSeen seen
            have hg1 : (getObj p.b).run P w = .ok (.mapIter (some q.b) clock seen.toArray clock) w := getObj_ok h1 (fun _ _ _ h => by cases h)
            have hg2 : (getObj q.b).run P w = .ok (.map E clock) w := getObj_ok h2 (fun _ _ _ h => by cases h)
            have hall : (!seen.toArray.isEmpty && !E.isEmpty && E.all fun e => decide (e.born ≥ clock)) = false := by
              obtain ⟨E⟩ := E
              cases E with
              | nil => simp
              | cons e E =>
                have : e.born < clock := hold e (by simp)
                have hn : ¬ clock ≤ e.born := by omega
                simp [hn]
            have hleft : (E.filter fun e => !seen.toArray.contains e.born).toList = E.toList.filter fun e => !seen.contains e.born := by
              rw [Array.toList_filter]; simp
            split at h
            · rename_i hnil
              cases h
              rw [hnil] at hns
              cases hF : (E.toList.filter fun e => !seen.contains e.born) with
              | cons => rw [hF] at hns; cases hns
              | nil =>
                rw [hF] at hleft
                have hleft' : (E.filter fun e => !seen.toArray.contains e.born) = #[] := Array.ext' (by rw [hleft])
                refine ⟨.tuple #[.bool false], w, ?_, .tup (.cons (.bool _) .nil), hR, .refl⟩
                unfold Instr.next
                simp only [hb0, Nat.add_zero, Sem.run_bind, hg1, hg2, Result.andThen_ok, hall, Bool.false_eq_true, if_false, hleft']
                simp [Question.forced]
            · rename_i e hone
              cases h
              rw [hone] at hns
              cases hF : (E.toList.filter fun e => !seen.contains e.born) with
              | nil => rw [hF] at hns; cases hns
              | cons a b =>
                rw [hF] at hns
                cases hns with
                | @cons k u bb K U _ _ hk hu hl =>
                  cases hl
                  rw [hF] at hleft
                  have hleft' : (E.filter fun e => !seen.toArray.contains e.born) = #[⟨K, U, bb⟩] := Array.ext' (by rw [hleft])
                  have hbb : bb < clock := hold ⟨K, U, bb⟩ (List.mem_filter (p := fun e => !seen.contains e.born) |>.1 (by rw [hF]; simp)).1
                  have hnb : ¬ clock ≤ bb := by omega
                  have hmod : OR η ρ (.miter (some m) clock (seen ++ [bb]) clock) p (putO w p.b (.mapIter (some q.b) clock (seen ++ [bb]).toArray clock)) :=
                    ⟨hb0, _, putO_self h1, q, hq, rfl⟩
                  have hN := near_putO w p.b (.mapIter (some q.b) clock (seen ++ [bb]).toArray clock)
                  have hT := hR.turn hr hp hN.size hN.other hN.os hN.out hN.tape hmod
                  refine ⟨.tuple #[.bool true, K, U], _, ?_, .tup (.cons (.bool _) (.cons hk (.cons hu .nil))), hT.1, hT.2⟩
                  unfold Instr.next
                  simp only [hb0, Nat.add_zero, Sem.run_bind, hg1, hg2, Result.andThen_ok, hall, Bool.false_eq_true, if_false, hleft']
                  have hset : (setObj p.b (.mapIter (some q.b) clock ((seen ++ [bb]).toArray) clock)).run P w = .ok () (putO w p.b (.mapIter (some q.b) clock ((seen ++ [bb]).toArray) clock)) := setObj_ok h1 (fun _ _ _ h => by cases h)
                  simp [Question.forced, hbb, hnb, hset]
            · cases h
          · cases h
        · cases h
      · cases h
  · cases h
end
end Go.Dx

/-
  A region whose order is open: whatever the order, it ends as the run in the text's order does.
-/
import Derived.Test.YtlihinmgpfbolaaGreatDoorDDraw5
namespace Go.Dx
section
variable {G : Ctx} {P : Program} {η : Env} {rec : Rec} {nt : Nat} {dT : Nat → Drawn} {a0 : PM SV} {s0 : St} {ρ0 : Pls} {si : St} {w0 : World} {ops : Array Oper}

theorem var_run (hG : GOK G P) {t : TypeId} {z : SV} (hz : G.zero t = some z) {o : Oper} (hop : o.op = .alloc t) (A : Act) (w : World) :
    ∃ C : Array Value, (execOp A.eval o).run P w = .ok (.value (.pointer (some ⟨w.heap.size, 0, none⟩))) (w.alloc (.cells C t)) ∧ ∀ ρ, VRL η ρ z.cells C.toList := by
  obtain ⟨Z, hZ, _⟩ := hG.run_zero (w := w) (η := η) (ρ := fun _ => none) hz
  refine ⟨Z.cells, ?_, fun ρ => ?_⟩
  · obtain ⟨dst, op, ty, pos, after, guard⟩ := o
    simp only at hop; subst hop
    show ((do pure (Next.value (← Instr.alloc t true (.tuple #[]))) : Sem Next).run P w) = _
    unfold Instr.alloc newVar
    simp only [Sem.run_bind, hZ, Result.andThen_ok, newVar_run, Sem.run_pure]
  · obtain ⟨Z', hZ', h2⟩ := hG.run_zero (w := w) (η := η) (ρ := ρ) hz
    rw [hZ] at hZ'; cases hZ'; exact h2.cells

theorem alloc_run (hG : GOK G P) {t : AK} {z : AObj} (hz : akObj G t = some z) {o : Oper} (ht : allocOp o.op = some t) (A : Act) (w : World) :
    ∃ (V : Value) (O : Obj) (cs : Nat), (execOp A.eval o).run P w = .ok (.value V) (w.alloc O) ∧ (∀ ρ, OR η ρ z ⟨w.heap.size, 0, cs⟩ (w.alloc O)) ∧ ∀ ρ id, ρ id = some ⟨w.heap.size, 0, cs⟩ → VR η ρ (akVal t id) V := by
  have hop : (∃ u, t = .var u ∧ o.op = .alloc u) ∨ (∃ u, t = .map ∧ o.op = .makeMap u none) := by
    revert ht
    unfold allocOp
    split
    · rename_i u _; intro h; cases h; exact .inl ⟨u, rfl, by assumption⟩
    · rename_i u _; intro h; cases h; exact .inr ⟨u, rfl, by assumption⟩
    · intro h; cases h
  rcases hop with ⟨u, rfl, hop⟩ | ⟨u, rfl, hop⟩
  · simp only [akObj] at hz
    split at hz
    · rename_i zz hzz
      cases hz
      obtain ⟨C, c1, c2⟩ := var_run (η := η) hG hzz hop A w
      refine ⟨_, _, C.size, c1, fun ρ => ?_, fun ρ id h => .ptr (o := 0) h⟩
      have := blk_new (w := w) (e := u) (e' := u) (opn := false) (frz := false) (rest := #[]) (c2 ρ)
      simpa using this
    · cases hz
  · cases hz
    refine ⟨.map (some w.heap.size), .map #[] 0, 0, ?_, fun ρ => ⟨#[], heap_push_new _ _, .nil⟩, fun ρ id h => .map h⟩
    obtain ⟨dst, op, ty, pos, after, guard⟩ := o
    simp only at hop; subst hop
    show ((do pure (Next.value (← Instr.makeMap u none)) : Sem Next).run P w) = _
    rfl

theorem op_restr {a a' : PM SV} {o : Oper} {all : List Oper} (h : ∀ x, x ∈ looks all o → a'.get x = a.get x) (s : St) : opD rec G a' s o.op = opD rec G a s o.op := by
  unfold opD
  rw [execD_congr (a := a') (a' := a) o.op (ev_restr h)]

theorem Txt.ancOp (hT : Txt rec G nt ops.toList (befores ops.toList []) dT a0 s0 si.next) {k : Nat} {v : SV} {o : Oper} (ho : ops.toList[k]? = some o) (hk : nth (dT ops.toList.length).ents k = some (.anc v)) : anchorOp o.op = true := by
  have hlt := (List.getElem?_eq_some_iff.1 ho).1
  have hs := hT.step k o ho
  have hE := fun e => hT.entAt (i := k) (e := e) hlt
  generalize dT (k + 1) = d' at hs hE
  cases hs with
  | anchor hw ht ha => exact ha
  | skip => have := hE _ rfl; rw [hk] at this; cases this
  | alloc => have := hE _ rfl; rw [hk] at this; cases this
  | float => have := hE _ rfl; rw [hk] at this; cases this

theorem step_ok (hG : GOK G P) (hB : BOK G η) (hrec : RecOK P G η rec) (hT : Txt rec G nt ops.toList (befores ops.toList []) dT a0 s0 si.next) (hed : edgesOk ops.toList = true) (hsl : slotsOk ops.toList (befores ops.toList []) = true)
    (hrow : rowOk (befores ops.toList []) ops.toList.zipIdx none = true)
    (hp2 : pass2 G (dT ops.toList.length).ts (dT ops.toList.length).ents (befores ops.toList []) ops.toList (dT ops.toList.length).ents (befores ops.toList []) 0 = true) (hs0 : si.next + countA ops.toList ≤ s0.next) (hL0 : GF G P η ρ0 si w0)
    (r : Option Nat) (n : Nat) {df : List DM} {L : Nat → Prop} {q : Nat} {ρ : Pls} {A : Act} {w : World} (hdown : Down ops.toList L) (hM : MemI G η ops.toList dT s0 ρ0 si w0 L q ρ w) (hS : SlotI η nt ops.toList dT a0 L ρ A.tmps) (hD : DF ρ df A.defers)
    {i : Nat} {o : Oper} (ho : ops.toList[i]? = some o) (hi : ¬ L i) (hready : ∀ e ∈ o.after.toList, Region.binds .any e = true → L e.on) (K : Act → World → Prop) (Q : Exit → Act → World → Prop)
    (hK : ∀ q' ρ' A' w', Down ops.toList (fun k => k = i ∨ L k) → MemI G η ops.toList dT s0 ρ0 si w0 (fun k => k = i ∨ L k) q' ρ' w' → SlotI η nt ops.toList dT a0 (fun k => k = i ∨ L k) ρ' A'.tmps → DF ρ' df A'.defers → K A' w') :
    wpOpIn (FW r) n P ops Q i K A w := by
  have hiN := (List.getElem?_eq_some_iff.1 ho).1
  obtain ⟨m, hm⟩ : ∃ m, nth (befores ops.toList []) i = some m := by
    rw [nth_eq]
    have : i < (befores ops.toList []).length := by rw [bf_len]; exact hiN
    exact ⟨_, List.getElem?_eq_getElem this⟩
  have hr : ∀ l, isIn m l = true → L l := by
    intro l hl
    obtain ⟨e, he, hb, hh⟩ := bf_inv ho hm hl
    have h1 := hready e he hb
    rcases hh with rfl | ⟨m', h2, h3⟩
    · exact h1
    · exact hdown _ m' l h1 h2 h3
  have hdown' : Down ops.toList (fun k => k = i ∨ L k) := by
    intro k m' l hk hm' hl
    rcases hk with rfl | hk
    · rw [hm] at hm'; cases hm'; exact .inr (hr l hl)
    · exact .inr (hdown k m' l hk hm' hl)
  have hTR := hS.look hT hsl hed hdown ho hm hi hr
  have hag : ∀ x, x ∈ looks ops.toList o → (restr (dT i).a (looks ops.toList o)).get x = (dT i).a.get x := fun x hx => restr_get hx
  have hwd := wanted_restr hag
  have hoi : ops[i]? = some o := by simpa using ho
  have hLr : GF G P η ρ (dT q).s w := hL0.mono hM.ext
  unfold wpOpIn
  simp only [hoi]
  have hstep := hT.step i o ho
  have hE := fun e => hT.entAt (i := i) (e := e) hiN
  have hda : ∀ d', dT (i + 1) = d' → (dT (i + 1)).a = d'.a ∧ (dT (i + 1)).s = d'.s ∧ (dT (i + 1)).pend = d'.pend := fun d' h => by rw [h]; exact ⟨rfl, rfl, rfl⟩
  generalize hd' : dT (i + 1) = d' at hstep hE
  have hda := hda d' hd'
  cases hstep with
  | skip hw =>
    rw [wanted_sound hTR (hwd.trans hw)]
    exact ⟨fun f _ => FW_fn r f, hK q ρ _ w hdown' (hM.float hT (hE _ rfl) (fun v h => by cases h) (fun v h => by cases h) hs0 hM.rep .refl) (hS.put hT hsl ρ.le_refl ho hi (.tup .nil) hda.1) (by rw [put_defers]; exact hD)⟩
  | alloc hw t ht z hz =>
    rw [wanted_sound hTR (hwd.trans hw), if_pos rfl]
    have hd : ∀ c, o.op ≠ .defer c := fun c e => by rw [e] at ht; cases ht
    obtain ⟨V, O, cs, c1, c2, c3⟩ := alloc_run (η := η) hG hz ht A w
    refine ⟨fun f _ => FW_fn r f, ?_⟩
    rw [Oper.semAt_eq _ _ _ hd, c1]
    have hent := hE _ rfl
    have hM' := hM.alloc hT hent hs0 hi ho ht hz fun ρ' _ => c2 ρ'
    have hle : ρ.le (ρ.upd (dT i).next ⟨w.heap.size, 0, cs⟩) := Pls.le_upd (hM.unr i _ hi hent)
    exact hK q _ _ _ hdown' hM' (hS.put hT hsl hle ho hi (c3 _ _ (Pls.upd_self _ _ _)) hda.1) (by rw [put_defers]; exact hD.mono hle)
  | float hw ht ha v s1 he =>
    rw [wanted_sound hTR (hwd.trans hw), if_pos rfl]
    have hent := hE _ rfl
    have hex : execD G (dT i).a (dT q).s o.op = .val v (dT q).s := by
      cases hp : pureOp o.op with
      | true => exact pure_exec hp he _
      | false =>
        have h1 := pass2_at _ _ _ 0 hp2 i o v _ m ho hent hm hp
        rw [Nat.zero_add] at h1
        have hlo : loOf m (dT ops.toList.length).ents 0 ≤ cA ((dT ops.toList.length).ents.take q) := by
          have := lo_le (m := m) (dT ops.toList.length).ents 0 q fun j v hj hmj => by
            rw [Nat.zero_add] at hmj ⊢
            rcases Nat.lt_or_ge j q with h | h
            · exact h
            · exact absurd (hr j hmj) (hM.cut2 j v h hj)
          rwa [Nat.sub_zero] at this
        have hhi : cA ((dT ops.toList.length).ents.take q) ≤ hiOf i (dT ops.toList.length).ents (befores ops.toList []) :=
          le_hi _ _ q (by rw [hT.len _ (Nat.le_refl _), bf_len]) fun j v m' hj hv hm' => by
            cases hin : isIn m' i with
            | false => rfl
            | true => exact absurd (hdown j m' i (hM.cut1 j v hj hv) hm' hin) hi
        have hwin : ∃ s2, execD G (dT i).a (dT q).s o.op = .val v s2 := by
          rcases h1 with h1 | h1
          · have hlo' : loOf m (dT ops.toList.length).ents 0 ≤ cA ((dT ops.toList.length).ents.take i) := by
              have := lo_le (m := m) (dT ops.toList.length).ents 0 i fun j v hj hmj => by
                rw [Nat.zero_add] at hmj ⊢
                exact bf_lt hed i m j hm hmj
              rwa [Nat.sub_zero] at this
            have hhi' : cA ((dT ops.toList.length).ents.take i) ≤ hiOf i (dT ops.toList.length).ents (befores ops.toList []) :=
              le_hi _ _ i (by rw [hT.len _ (Nat.le_refl _), bf_len]) fun j v m' hj hv hm' => by
                cases hin : isIn m' i with
                | false => rfl
                | true => have := bf_lt hed j m' i hm' hin; omega
            have e : cA ((dT ops.toList.length).ents.take i) = cA ((dT ops.toList.length).ents.take q) := by omega
            have t1 := hT.tsAt i (by omega)
            have t2 := hT.tsAt q hM.cut0
            rw [e, t2] at t1
            injection t1 with t1
            exact ⟨s1, by rw [t1]; exact he⟩
          · exact same_window h1 hlo hhi (hT.tsAt q hM.cut0)
        obtain ⟨s2, h2⟩ := hwin
        have := float_same ha ht h2
        rw [this] at h2; exact h2
    have hop : opD rec G (restr (dT i).a (looks ops.toList o)) (dT q).s o.op = .ret v (dT q).s := by
      rw [op_restr hag]; unfold opD; rw [hex]
    refine op_ok hG hB hrec hM.rep hLr hTR hop r n _ Q fun ρ' V w' v1 v2 v3 => ?_
    exact hK q ρ' _ w' hdown' (hM.float hT hent (fun v h => by cases h) (fun v h => by cases h) hs0 v2 v3) (hS.put hT hsl v3.le ho hi v1 hda.1) (by rw [put_defers]; exact hD.mono v3.le)
  | anchor hw ht ha m' hm' p u hl v s' he =>
    rw [wanted_sound hTR (hwd.trans hw), if_pos rfl]
    rw [hm] at hm'; cases hm'
    have hent := hE _ rfl
    have hpre : ∀ k v, k < i → nth (dT ops.toList.length).ents k = some (.anc v) → L k := by
      intro k v hk hv
      have hkN : k < ops.toList.length := by omega
      have hko := List.getElem?_eq_getElem hkN
      have := (row_spec hdown' ops.toList 0 none hrow i o ho ha (by rw [Nat.zero_add]; exact .inl rfl)).2 k _ hk hko (hT.ancOp hko hv)
      rw [Nat.zero_add] at this
      rcases this with h | h
      · omega
      · exact h
    have hpost : ∀ k v, i < k → nth (dT ops.toList.length).ents k = some (.anc v) → ¬ L k := by
      intro k v hk hv hLk
      have hkN : k < ops.toList.length := by
        rw [nth_eq] at hv
        have := (List.getElem?_eq_some_iff.1 hv).1
        rwa [hT.len _ (Nat.le_refl _)] at this
      have hko := List.getElem?_eq_getElem hkN
      have := (row_spec hdown ops.toList 0 none hrow k _ hko (hT.ancOp hko hv) (by rw [Nat.zero_add]; exact hLk)).2 i o hk ho ha
      rw [Nat.zero_add] at this
      exact hi this
    obtain ⟨c1, c2, c3⟩ := hM.anchor (ρ' := ρ) (w' := w) hT hiN hent hi hs0 hpre hpost hr hl
    have hop : opD rec G (restr (dT i).a (looks ops.toList o)) u o.op = .ret v s' := by rw [op_restr hag]; exact he
    refine op_ok hG hB hrec c1 (hL0.mono c2) hTR hop r n _ Q fun ρ' V w' v1 v2 v3 => ?_
    obtain ⟨_, _, _, c4⟩ := hM.anchor (ρ' := ρ') (w' := w') hT hiN hent hi hs0 hpre hpost hr hl
    exact hK (i + 1) ρ' _ w' hdown' (c4 s' hda.2.1 hda.2.2 v2 v3) (hS.put hT hsl v3.le ho hi v1 hda.1) (by rw [put_defers]; exact hD.mono v3.le)

theorem set_listed {listed : Array Bool} {i k : Nat} (hi : i < listed.size) : (listed.setIfInBounds i true)[k]? = some true ↔ k = i ∨ listed[k]? = some true := by
  by_cases e : k = i
  · subst e; simp [hi]
  · rw [Array.getElem?_setIfInBounds_ne (Ne.symm e)]; simp [e]
theorem count_set {l : List Bool} {i : Nat} (h : l[i]? = some false) : (l.set i true).count false + 1 = l.count false := by
  induction l generalizing i with
  | nil => simp at h
  | cons b l ih =>
    cases i with
    | zero => simp at h; subst h; simp
    | succ i =>
      have := ih (i := i) (by simpa using h)
      rw [List.set_cons_succ]
      cases b <;> simp <;> omega

theorem any_ok (hG : GOK G P) (hB : BOK G η) (hrec : RecOK P G η rec) (hT : Txt rec G nt ops.toList (befores ops.toList []) dT a0 s0 si.next) (hed : edgesOk ops.toList = true) (hsl : slotsOk ops.toList (befores ops.toList []) = true)
    (hrow : rowOk (befores ops.toList []) ops.toList.zipIdx none = true)
    (hp2 : pass2 G (dT ops.toList.length).ts (dT ops.toList.length).ents (befores ops.toList []) ops.toList (dT ops.toList.length).ents (befores ops.toList []) 0 = true) (hs0 : si.next + countA ops.toList ≤ s0.next) (hL0 : GF G P η ρ0 si w0)
    (r : Option Nat) (n : Nat) {df : List DM} (Q : Exit → Act → World → Prop)
    (hQ : ∀ q ρ A w, MemI G η ops.toList dT s0 ρ0 si w0 (fun k => k < ops.toList.length) q ρ w → SlotI η nt ops.toList dT a0 (fun k => k < ops.toList.length) ρ A.tmps → DF ρ df A.defers → Q .normal A w) :
    ∀ (fuel : Nat) (listed : Array Bool) (q : Nat) (ρ : Pls) (A : Act) (w : World), listed.size = ops.size → listed.toList.count false ≤ fuel → Down ops.toList (fun k => listed[k]? = some true) →
      MemI G η ops.toList dT s0 ρ0 si w0 (fun k => listed[k]? = some true) q ρ w → SlotI η nt ops.toList dT a0 (fun k => listed[k]? = some true) ρ A.tmps → DF ρ df A.defers → wpAnyIn (FW r) n P .any ops Q fuel listed A w := by
  -- nothing is ready: all is done
  have hdone : ∀ (listed : Array Bool) (q : Nat) (ρ : Pls) (A : Act) (w : World), listed.size = ops.size → Region.ready .any ops listed = [] →
      MemI G η ops.toList dT s0 ρ0 si w0 (fun k => listed[k]? = some true) q ρ w → SlotI η nt ops.toList dT a0 (fun k => listed[k]? = some true) ρ A.tmps → DF ρ df A.defers → Q .normal A w := by
    intro listed q ρ A w hsz hnil hM hS hD
    have hall : ∀ k, k < ops.size → listed[k]? = some true := by
      intro k
      induction k using Nat.strongRecOn with
      | _ k ih =>
        intro hk
        have hkl : k < listed.size := by omega
        cases hb : listed[k] with
        | true => rw [Array.getElem?_eq_getElem hkl, hb]
        | false =>
          exfalso
          have : k ∈ Region.ready .any ops listed := by
            refine mem_ready.2 ⟨?_, ops[k], Array.getElem?_eq_getElem hk, fun e he hbd => ?_⟩
            · rw [Array.getD_eq_getD_getElem?, Array.getElem?_eq_getElem hkl, hb]; rfl
            · have hlt : e.on < k := edges_spec hed (o := ops[k]) (by simp [hk]) (by simpa using he) hbd
              rw [Array.getD_eq_getD_getElem?, ih e.on hlt (by omega)]; rfl
          rw [hnil] at this; cases this
    have hLeq : (fun k => listed[k]? = some true) = (fun k => k < ops.toList.length) := by
      funext k
      apply propext
      constructor
      · intro h
        have := (Array.getElem?_eq_some_iff.1 h).1
        simp; omega
      · intro h; exact hall k (by simpa using h)
    rw [hLeq] at hM hS
    exact hQ q ρ A w hM hS hD
  intro fuel
  induction fuel with
  | zero =>
    intro listed q ρ A w hsz hc hdown hM hS hD
    have hnil : Region.ready .any ops listed = [] := by
      cases hrd : Region.ready .any ops listed with
      | nil => rfl
      | cons j js =>
        exfalso
        have hj : j ∈ Region.ready .any ops listed := by rw [hrd]; exact List.mem_cons_self
        obtain ⟨h1, _⟩ := mem_ready.1 hj
        have h2 : listed[j]? = some false := by
          rw [Array.getD_eq_getD_getElem?] at h1
          cases hg : listed[j]? with
          | none => rw [hg] at h1; cases h1
          | some b => rw [hg] at h1; cases b with
            | false => rfl
            | true => cases h1
        have h3 : listed.toList[j]? = some false := by simpa using h2
        have := count_set h3
        omega
    exact ⟨hnil, hdone listed q ρ A w hsz hnil hM hS hD⟩
  | succ fuel ih =>
    intro listed q ρ A w hsz hc hdown hM hS hD
    refine ⟨fun hnil => hdone listed q ρ A w hsz hnil hM hS hD, fun i hir => ?_⟩
    obtain ⟨h1, o, ho, hall⟩ := mem_ready.1 hir
    have h2 : listed[i]? = some false := by
      rw [Array.getD_eq_getD_getElem?] at h1
      cases hg : listed[i]? with
      | none => rw [hg] at h1; cases h1
      | some b => rw [hg] at h1; cases b with
        | false => rfl
        | true => cases h1
    have hil := (Array.getElem?_eq_some_iff.1 h2).1
    have hL' : (fun k => (listed.setIfInBounds i true)[k]? = some true) = (fun k => k = i ∨ listed[k]? = some true) := by
      funext k; exact propext (set_listed hil)
    refine step_ok hG hB hrec hT hed hsl hrow hp2 hs0 hL0 r n hdown hM hS hD (by simpa using ho) (by rw [h2]; simp) (fun e he hb => ?_) _ Q fun q' ρ' A' w' k1 k2 k3 k4 => ?_
    · have := hall e (by simpa using he) hb
      rw [Array.getD_eq_getD_getElem?] at this
      cases hg : listed[e.on]? with
      | none => rw [hg] at this; cases this
      | some b => rw [hg] at this; simp only [Option.getD_some] at this; rw [this]
    · refine ih _ q' ρ' A' w' (by simpa using hsz) ?_ (by rw [hL']; exact k1) (by rw [hL']; exact k2) (by rw [hL']; exact k3) k4
      have h3 : listed.toList[i]? = some false := by simpa using h2
      have := count_set h3
      rw [Array.toList_setIfInBounds]
      omega

theorem runDraw_ok (hG : GOK G P) (hB : BOK G η) (hrec : RecOK P G η rec) (r : Option Nat) (n : Nat) {id : Nat} {df : List DM} {ρ : Pls} {a : PM SV} {s : St} {A : Act} {w : World} (hR : Rep η ρ s w) (hL : GF G P η ρ s w) (hA : TR η ρ nt a A.tmps) (hD : DF ρ df A.defers)
    {x : DX} {a' : PM SV} {df' : List DM} {s' : St} (h : runDraw rec G nt ops.toList a df s = .done x a' df' s') (Q : Exit → Act → World → Prop)
    (hQ : ∀ ρ' A' w', TR η ρ' nt a' A'.tmps → DF ρ' df' A'.defers → Rep η ρ' s' w' → Ext ρ s w ρ' s' w' → Q (exitOf x) A' w') : (Code.region id ops true).wpIn (FW r) n P Q A w := by
  unfold runDraw at h
  simp only at h
  split at h
  · rename_i hed hsl hrow
    split at h
    · cases h
    · rename_i D hp1
      split at h
      · cases h
      · rename_i hp2
        split at h
        · rename_i rest s2 hlay
          cases h
          obtain ⟨dT, t1, t2, t3⟩ := pass1_seq _ _ _ _ hp1
          rw [Nat.zero_add] at t2
          subst t2
          have hT : Txt rec G nt ops.toList (befores ops.toList []) dT a { heap := s.heap, next := Nat.add s.next (countA ops.toList) } s.next :=
            ⟨t1, fun j o hj => by have := t3 j o hj; simpa using this⟩
          refine wpIn_region_any hG.mixed ?_
          have hw0 : Ext ρ s w ρ { heap := s.heap, next := Nat.add s.next (countA ops.toList) } { w with drawn := w.drawn + 1 } :=
            ⟨ρ.le_refl, Nat.le_add_right _ _, Nat.le_refl _, fun _ _ _ => rfl, fun i o p hi hp => .inr ⟨i, o, p, hi, hp, rfl, fun h => h⟩, rfl, rfl, rfl, fun _ _ => rfl⟩
          have hR0 : Rep η ρ { heap := s.heap, next := Nat.add s.next (countA ops.toList) } { w with drawn := w.drawn + 1 } :=
            ⟨fun i o hi => let ⟨p, hp, hO⟩ := hR.obj i o hi; ⟨p, hp, hO.mono ρ.le_refl rfl⟩, hR.inj, fun i hi => hR.fresh i (Nat.le_trans (Nat.le_add_right _ _) hi), hR.dom⟩
          have hno : ∀ k : Nat, ¬ (Array.replicate ops.size false)[k]? = some true := by
            intro k hk
            rw [Array.getElem?_replicate] at hk
            split at hk <;> cases hk
          refine any_ok (ρ0 := ρ) (si := s) (w0 := w) (df := df) hG hB hrec hT hed hsl hrow hp2 (Nat.le_refl _) hL r n Q ?_ _ _ 0 ρ A _ (by simp) (by simp) (fun k m l hk => absurd hk (hno k)) ?_ ?_ hD
          · intro q ρ1 A1 w1 hM hS hD1
            have hsq : (dT ops.toList.length).s = (dT q).s := by
              refine hT.calm _ hM.cut0 (Nat.le_refl _) fun k v h1 h2 h3 => hM.cut2 k v h1 h3 h2
            have hpend : ∀ y ∈ (dT ops.toList.length).pend, NL dT q y.1 := fun y hy => (hT.pendBack _ hM.cut0 (Nat.le_refl _) hy).imp (fun h => h) fun h => ⟨y, h, rfl⟩
            have hlay' := hlay
            rw [hsq] at hlay'
            obtain ⟨c1, c2, _, _⟩ := lay_ok (ρ0 := ρ) (s0 := s) (w0 := w) _ _ _ _ hlay' hM.rep hM.ext (fun y hy _ => by
              obtain ⟨k1, k2, o, k3, k4⟩ := hT.pendOk _ (Nat.le_refl _) hy
              obtain ⟨e1, e2⟩ := hM.early y.1 y.2.1 o y.2.2 k1 k2 k3 k4 (hpend y hy)
              exact ⟨e1, fun j o p1 q1 _ hj hp hq => e2 j o p1 q1 hj hp hq⟩) (fun y hy z hz _ _ hne p1 p2 hp1 hp2 => by
              have ky := hT.pendOk _ (Nat.le_refl _) hy
              have kz := hT.pendOk _ (Nat.le_refl _) hz
              refine hM.dist y.1 y.2.1 z.1 z.2.1 (fun e => hne ?_) ky.1 kz.1 ky.2.1 kz.2.1 (hpend y hy) (hpend z hz) p1 p2 hp1 hp2
              have h1 := ky.2.1
              rw [e, kz.2.1] at h1
              injection h1 with h1; injection h1 with h1; exact h1.symm)
            refine hQ ρ1 A1 w1 ⟨hS.1, fun y v hy => hS.2 y v ?_⟩ hD1 c1 c2
            by_cases hw : ∃ (k : Nat) (p : Oper), ops.toList[k]? = some p ∧ p.dst = some y
            · obtain ⟨k, p, k1, k2⟩ := hw
              exact .inl ⟨k, p, (List.getElem?_eq_some_iff.1 k1).1, k1, k2, hy⟩
            · refine .inr ⟨fun k p _ k1 k2 => hw ⟨k, p, k1, k2⟩, ?_⟩
              have := hT.slot (x := y) (i := 0) _ (Nat.zero_le _) (Nat.le_refl _) fun k p _ _ k1 k2 => hw ⟨k, p, k1, k2⟩
              rw [hT.t0] at this
              rw [← this]; exact hy
          · have hs : (dT 0).s = { heap := s.heap, next := Nat.add s.next (countA ops.toList) } := by rw [hT.t0]
            refine ⟨Nat.zero_le _, fun k v hk => absurd hk (Nat.not_lt_zero _), fun k v _ _ hk => hno k hk, by rw [hs]; exact hR0, by rw [hs]; exact Nat.le_refl _, by rw [hs]; exact hw0, fun k id o t hk => absurd hk (hno k), ?_, fun k id k' id' _ hk => absurd hk (hno k)⟩
            intro k id' _ hv
            exact hR.fresh id' (hT.idLt hv).1
          · refine ⟨hA.1, fun y v hy => ?_⟩
            rcases hy with ⟨k, o, hk, _⟩ | ⟨_, hy⟩
            · exact absurd hk (hno k)
            · exact hA.2 y v hy
        · cases h
  · cases h
end
end Go.Dx

/-
  One operation: what the evaluator answers is what the model does.
-/
import Derived.Test.YtlihinmgpfbolaaGreatDoorDOps4
import Derived.Control
import Derived.Lib.Bytealg
namespace Go.Dx
/-- The variables that may be looked at lie at their own numbers. -/
structure GL (G : Ctx) (P : Program) (η : Env) (ρ : Pls) : Prop where
  glb : ∀ g n, G.glb.get g = some n → ρ g = some ⟨g, 0, n⟩
  itab : ∀ e ∈ G.itab, ∃ p, ρ e.id = some p ∧ ∀ w : World, (Instr.indexAt e.t (η.val e.j) (.int .i64 (e.i.den η))).run P w = .ok (.pointer (some ⟨p.b, p.base + e.o, none⟩)) w
theorem GL.mono {G : Ctx} {P : Program} {η : Env} {ρ ρ' : Pls} (h : GL G P η ρ) (hle : ρ.le ρ') : GL G P η ρ' :=
  ⟨fun g n hg => hle _ _ (h.glb g n hg), fun e he => let ⟨p, a, b⟩ := h.itab e he; ⟨p, hle _ _ a, b⟩⟩

section
variable {G : Ctx} {P : Program} {η : Env} {ρ : Pls} {s s' : St} {w w' : World}

theorem ev_sound {nt : Nat} {a : PM SV} {A : Act} (hL : GL G P η ρ) (hA : TR η ρ nt a A.tmps) {x : Operand} {v : SV} (h : ev G a x = some v) : VR η ρ v (A.eval x) := by
  cases x with
  | tmp t =>
    obtain ⟨V, h1, h2⟩ := hA.2 t v h
    show VR η ρ v (A.tmps.getD t undef)
    rw [Array.getD_eq_getD_getElem?, h1]; exact h2
  | const c => exact cv_sound h
  | global g =>
    simp only [ev] at h
    split at h
    · rename_i n hn; cases h
      exact .ptr (p := ⟨g, 0, n⟩) (o := 0) (hL.glb g n hn)
    · cases h
  | func f => simp only [ev] at h; cases h; exact .fn .nil .nil
theorem evs_sound {nt : Nat} {a : PM SV} {A : Act} (hL : GL G P η ρ) (hA : TR η ρ nt a A.tmps) : ∀ {xs : List Operand} {l : List SV}, evs G a xs = some l → VRL η ρ l (xs.map A.eval) := by
  intro xs
  induction xs with
  | nil => intro l h; simp only [evs] at h; cases h; exact .nil
  | cons x xs ih =>
    intro l h
    simp only [evs] at h
    split at h
    · cases h
    · rename_i v hv
      split at h
      · cases h
      · rename_i l' hl; cases h; exact .cons (ev_sound hL hA hv) (ih hl)
theorem evps_sound {nt : Nat} {a : PM SV} {A : Act} (hL : GL G P η ρ) (hA : TR η ρ nt a A.tmps) : ∀ {xs : List (Nat × Operand)} {l : List (Nat × SV)}, evps G a xs = some l →
    l.map (·.1) = (xs.map fun x => (x.1, A.eval x.2)).map (·.1) ∧ VRL η ρ (l.map (·.2)) ((xs.map fun x => (x.1, A.eval x.2)).map (·.2)) := by
  intro xs
  induction xs with
  | nil => intro l h; simp only [evps] at h; cases h; exact ⟨rfl, .nil⟩
  | cons x xs ih =>
    intro l h
    obtain ⟨i, x⟩ := x
    simp only [evps] at h
    split at h
    · cases h
    · rename_i v hv
      split at h
      · cases h
      · rename_i l' hl; cases h
        obtain ⟨h1, h2⟩ := ih hl
        exact ⟨by simp only [List.map_cons, h1], .cons (ev_sound hL hA hv) h2⟩

def OpSpec (P : Program) (η : Env) (ρ : Pls) (s : St) (w : World) (r : OpR) (res : Result Next) : Prop :=
  match r with
  | .fail => True
  | .val v s' => ∃ w' ρ' V, (res = .ok (.value V) w' ∨ (res = .ok .skip w' ∧ V = undef)) ∧ VR η ρ' v V ∧ Rep η ρ' s' w' ∧ Ext ρ s w ρ' s' w'
  | .call f args => ∃ A : Array Value, res = .ok (.enter f A) w ∧ VRL η ρ args A.toList
  | .round l args => ∃ (p : Pl) (A : Array Value), ρ l = some p ∧ res = (Instr.yield p.b A).run P w ∧ VRL η ρ args A.toList

theorem spec_same {o : Option SV} {S : Sem Value} (hR : Rep η ρ s w) (h : ∀ v, o = some v → ∃ V, S.run P w = .ok V w ∧ VR η ρ v V) :
    OpSpec P η ρ s w (ofV s o) ((do pure (Next.value (← S)) : Sem Next).run P w) := by
  cases o with
  | none => trivial
  | some v =>
    obtain ⟨V, h1, h2⟩ := h v rfl
    exact ⟨w, ρ, V, .inl (by simp only [Sem.run_bind, h1, Result.andThen_ok, Sem.run_pure]), h2, hR, .refl⟩
theorem spec_val {v : SV} {S : Sem Value} (h : ∃ V w' ρ', S.run P w = .ok V w' ∧ VR η ρ' v V ∧ Rep η ρ' s' w' ∧ Ext ρ s w ρ' s' w') :
    OpSpec P η ρ s w (.val v s') ((do pure (Next.value (← S)) : Sem Next).run P w) := by
  obtain ⟨V, w', ρ', h1, h2, h3, h4⟩ := h
  exact ⟨w', ρ', V, .inl (by simp only [Sem.run_bind, h1, Result.andThen_ok, Sem.run_pure]), h2, h3, h4⟩
theorem spec_skip {o : Option St} {S : Sem Unit} (h : ∀ s', o = some s' → ∃ w', S.run P w = .ok () w' ∧ Rep η ρ s' w' ∧ Ext ρ s w ρ s' w') :
    OpSpec P η ρ s w (ofS o) ((do S; pure Next.skip : Sem Next).run P w) := by
  cases o with
  | none => trivial
  | some s' =>
    obtain ⟨w', h1, h2, h3⟩ := h s' rfl
    exact ⟨w', ρ, undef, .inr ⟨by simp only [Sem.run_bind, h1, Result.andThen_ok, Sem.run_pure], rfl⟩, .tup .nil, h2, h3⟩
theorem spec_res {r : OpR} {S : Sem Value} (h : ∀ v s', r = .val v s' → ∃ V w' ρ', S.run P w = .ok V w' ∧ VR η ρ' v V ∧ Rep η ρ' s' w' ∧ Ext ρ s w ρ' s' w') (hn : (∀ f a, r ≠ .call f a) ∧ ∀ l a, r ≠ .round l a) :
    OpSpec P η ρ s w r ((do pure (Next.value (← S)) : Sem Next).run P w) := by
  cases r with
  | fail => trivial
  | val v s' => exact spec_val (h v s' rfl)
  | call f a => exact absurd rfl (hn.1 f a)
  | round l a => exact absurd rfl (hn.2 l a)

theorem Rep.newArr (h : Rep η ρ s w) {l : List SV} {C : Array Value} (e e' : TypeId) (hl : VRL η ρ l C.toList) :
    Rep η (ρ.upd s.next ⟨w.heap.size, 0, C.size⟩) (s.newBlk l e).2 (w.alloc (.cells C e')) ∧ Ext ρ s w (ρ.upd s.next ⟨w.heap.size, 0, C.size⟩) (s.newBlk l e).2 (w.alloc (.cells C e')) := by
  have := h.newRow e e' false #[] hl
  unfold St.newBlk
  simpa using this

theorem newVar_run {t : TypeId} {C : Array Value} : (newRow t C).run P w = .ok ⟨w.heap.size, 0, none⟩ (w.alloc (.cells C t)) := by
  unfold newRow
  simp only [Sem.run_bind, run_newObj, Result.andThen_ok, Sem.run_pure]
  rfl

theorem repl_sound {z : List SV} {Z : Array Value} (h : VRL η ρ z Z.toList) : ∀ n, VRL η ρ (repl n z) ((Array.range (n * Z.size)).map fun i => Z[i % Z.size]!).toList := by
  intro n
  have key : ∀ n, ((Array.range (n * Z.size)).map fun i => Z[i % Z.size]!).toList = (List.replicate n Z.toList).flatten := by
    intro n
    simp only [Array.toList_map, Array.toList_range]
    induction n with
    | zero => simp
    | succ n ih =>
      rw [Nat.add_mul, Nat.one_mul, List.range_add, List.map_append, ih, List.replicate_succ', List.flatten_append]
      congr 1
      simp only [List.map_map, List.flatten_cons, List.flatten_nil, List.append_nil]
      apply List.ext_getElem?
      intro i
      by_cases hi : i < Z.size
      · simp only [List.getElem?_map, List.getElem?_range hi, Option.map_some, Function.comp]
        have : (n * Z.size + i) % Z.size = i := by rw [Nat.mul_comm, Nat.mul_add_mod, Nat.mod_eq_of_lt hi]
        rw [this]
        simp [hi]
      · rw [List.getElem?_eq_none (by simp; omega), List.getElem?_eq_none (by simp; omega)]
  rw [key]
  induction n with
  | zero => exact .nil
  | succ n ih =>
    rw [List.replicate_succ, List.flatten_cons]
    exact h.append ih

theorem part_list {pl : List (Nat × Nat)} : ∀ i, nth pl i = (pl.toArray)[i]? := fun i => by rw [nth_eq]; simp

theorem sizes_sound (hG : GOK G P) : ∀ {fs : List Field} {pl : List (Nat × Nat)}, sizes G fs = some pl → ∀ w : World, (fs.mapM (fun f => do pure (f.offset, ← sizeOf f.type)) : Sem (List (Nat × Nat))).run P w = .ok pl w := by
  intro fs
  induction fs with
  | nil => intro pl h w; simp only [sizes] at h; cases h; rfl
  | cons f fs ih =>
    intro pl h w
    simp only [sizes] at h
    split at h
    · cases h
    · rename_i n hn
      split at h
      · cases h
      · rename_i l hl
        cases h
        rw [List.mapM_cons]
        simp only [Sem.run_bind, hG.run_sizeOf hn, Result.andThen_ok, Sem.run_pure, ih hl]

theorem build_sound (hG : GOK G P) {t : TypeId} {z : SV} {ps : List (Nat × SV)} {PS : Array (Nat × Value)} {l : List SV} {d : TypeDesc} {pl : Nat → Option (Nat × Nat)} (hz : G.zero t = some z) (hd : G.desc t = some d)
    (hpl : (∃ fs q, d = .struct fs ∧ sizes G fs.toList = some q ∧ pl = nth q) ∨ (∃ n e m, d = .array n e ∧ G.size e = some m ∧ pl = fun i => some (Nat.mul i m, m)))
    (h : fillD pl z.cells ps = some l) (h1 : ps.map (·.1) = PS.toList.map (·.1)) (h2 : VRL η ρ (ps.map (·.2)) (PS.toList.map (·.2))) :
    ∃ R : Array Value, (Instr.build t PS).run P w = .ok (.agg R) w ∧ VRL η ρ l R.toList := by
  obtain ⟨Z, hZ, hZr⟩ := hG.run_zero (w := w) (η := η) (ρ := ρ) hz
  obtain ⟨R, r1, r2⟩ := fill_sound (L := Z.cells.toList) h hZr.cells h1 h2
  refine ⟨R, ?_, r2⟩
  rw [Array.toArray_toList] at r1
  unfold Instr.build
  rcases hpl with ⟨fs, q, rfl, hq, rfl⟩ | ⟨n, e, m, rfl, hm, rfl⟩
  · have hs := sizes_sound hG hq w
    have hs' : (fs.mapM (fun f => do pure (f.offset, ← sizeOf f.type)) : Sem (Array (Nat × Nat))).run P w = .ok q.toArray w := by
      rw [Array.mapM_eq_mapM_toList]
      simp only [Sem.run_map, hs, Result.andThen_ok]
    simp only [Sem.run_bind, hZ, Result.andThen_ok, hG.run_underlying hd, hs']
    have e : (fun x => q.toArray[x]?) = nth q := funext fun i => (part_list i).symm
    rw [e, r1]
    rfl
  · simp only [Sem.run_bind, hZ, Result.andThen_ok, hG.run_underlying hd, hG.run_sizeOf hm]
    have e : (fun i => some (i * m, m)) = (fun i => some (Nat.mul i m, m)) := rfl
    rw [e, r1]
    rfl

theorem findByte_sound (c : UInt8) (b : ByteArray) : ∀ (l pre : List UInt8), b.data.toList = pre ++ l →
    (match (List.range' pre.length l.length).find? fun i => b[i]! == c with | some i => (Int.ofNat i) | none => Int.negSucc 0) = findByte c.toNat (l.map UInt8.toNat) pre.length := by
  intro l
  induction l with
  | nil => intro pre h; rfl
  | cons x l ih =>
    intro pre h
    have hx : b[pre.length]! = x := by
      have h0 : b.data.toList[pre.length]? = some x := by rw [h]; simp
      have h1 : b.data[pre.length]? = some x := by simpa using h0
      have hlt : pre.length < b.data.size := (Array.getElem?_eq_some_iff.1 h1).1
      have hlt' : pre.length < b.size := hlt
      rw [getElem!_pos b pre.length hlt']
      exact (Array.getElem?_eq_some_iff.1 h1).2
    rw [List.length_cons, List.range'_succ, List.find?_cons, hx]
    simp only [List.map_cons, findByte]
    by_cases e : x = c
    · subst e
      simp
    · have hn : x.toNat ≠ c.toNat := fun h => e (UInt8.toNat_inj.1 h)
      rw [beq_f.2 hn]
      have : (x == c) = false := by simpa using e
      rw [this]
      have := ih (pre ++ [x]) (by rw [h]; simp)
      rw [List.length_append] at this
      exact this
theorem countByte_sound (c : UInt8) : ∀ (l : List UInt8) (n : Nat), l.foldl (fun (n : Int) x => if x == c then n + 1 else n) (n : Int) = Int.ofNat (countByte c.toNat (l.map UInt8.toNat) n) := by
  intro l
  induction l with
  | nil => intro n; rfl
  | cons x l ih =>
    intro n
    simp only [List.foldl_cons, List.map_cons, countByte]
    by_cases e : x = c
    · subst e
      have h1 : (x == x) = true := by simp
      rw [h1, if_pos rfl, beq_t.2 rfl]; exact ih (n + 1)
    · have hn : x.toNat ≠ c.toNat := fun h => e (UInt8.toNat_inj.1 h)
      rw [beq_f.2 hn]
      have : (x == c) = false := by simpa using e
      rw [this]; exact ih _

theorem str_byte {args : List SV} {A : Array Value} {l : List Nat} {c : Nat} (h : args = [.str l, .int .u8 (.c (.ofNat c))]) (hA : VRL η ρ args A.toList) : ∃ bb : ByteArray, l = bytesOfArr bb ∧ A = #[.string bb, .int .u8 (c : Int)] := by
  subst h
  obtain ⟨A⟩ := A
  cases hA with
  | cons a b =>
    cases b with
    | cons c' d =>
      cases d
      cases a with
      | str bb => cases c'; exact ⟨bb, rfl, rfl⟩

theorem callF_sound (hG : GOK G P) (hR : Rep η ρ s w) {f : FuncId} {args : List SV} {A : Array Value} (hA : VRL η ρ args A.toList) : OpSpec P η ρ s w (callF G s f args) ((callFunc f A).run P w) := by
  unfold callF
  split
  · rename_i fn hf
    obtain ⟨h1, h2, h3⟩ := hG.fns f fn hf
    refine ⟨A, ?_, hA⟩
    unfold callFunc
    simp only [Sem.run_bind, run_program, Result.andThen_ok, h1]
    have : fn.body.isNone = false := by cases hb : fn.body <;> simp [hb] at h2 ⊢
    simp [h3, this]
  · split
    · rename_i k hk
      unfold extD
      split
      · rename_i l c
        split
        · rename_i hlt
          have hlt' := blt_t.1 hlt
          obtain ⟨bb, rfl, rfl⟩ := str_byte rfl hA
          rw [hG.ext1 f hk]
          have hc : (UInt8.ofNat c).toNat = c := by simp [Nat.mod_eq_of_lt hlt']
          have hfb := findByte_sound (UInt8.ofNat c) bb bb.data.toList [] rfl
          rw [hc, List.length_nil] at hfb
          refine ⟨w, ρ, .int .i64 (findByte c (bytesOfArr bb) 0), .inl ?_, .int _ (.c _), hR, .refl⟩
          have e : Extern.BytealgIndexByte.indexByte #[.string bb, .int .u8 (c : Int)] = (do
            let b ← Extern.Bytes.bytesOf (.string bb)
            let c ← Extern.Bytes.asByte (.int .u8 (c : Int))
            match (List.range b.size).find? fun i => b[i]! == c with
            | some i => pure (goInt i)
            | none => pure (goInt (-1))) := rfl
          rw [e]
          unfold Extern.Bytes.bytesOf Extern.Bytes.asByte
          simp only [Sem.run_bind, Sem.run_pure, Result.andThen_ok]
          have hcc : (Int.toNat (c : Int)).toUInt8 = UInt8.ofNat c := rfl
          rw [hcc]
          have hr : List.range bb.size = List.range' 0 bb.data.toList.length := by rw [List.range_eq_range']; rfl
          rw [hr]
          unfold bytesOfArr
          rw [← hfb]
          cases (List.range' 0 bb.data.toList.length).find? fun i => bb[i]! == UInt8.ofNat c <;> rfl
        · trivial
      · rename_i l c
        split
        · rename_i hlt
          have hlt' := blt_t.1 hlt
          obtain ⟨bb, rfl, rfl⟩ := str_byte rfl hA
          rw [hG.ext2 f hk]
          have hc : (UInt8.ofNat c).toNat = c := by simp [Nat.mod_eq_of_lt hlt']
          have hfb := countByte_sound (UInt8.ofNat c) bb.data.toList 0
          rw [hc] at hfb
          refine ⟨w, ρ, .int .i64 (Int.ofNat (countByte c (bytesOfArr bb) 0)), .inl ?_, .int _ (.c _), hR, .refl⟩
          have e : Extern.BytealgCount.count #[.string bb, .int .u8 (c : Int)] = (do
            let b ← Extern.Bytes.bytesOf (.string bb)
            let c ← Extern.Bytes.asByte (.int .u8 (c : Int))
            pure (goInt (b.foldl (fun n x => if x == c then n + 1 else n) (0 : Nat)))) := rfl
          rw [e]
          unfold Extern.Bytes.bytesOf Extern.Bytes.asByte
          simp only [Sem.run_bind, Sem.run_pure, Result.andThen_ok]
          have hcc : (Int.toNat (c : Int)).toUInt8 = UInt8.ofNat c := rfl
          rw [hcc]
          unfold bytesOfArr
          rw [← hfb]
          rw [Lib.foldl_data]
          rfl
        · trivial
      · trivial
    · trivial
end
end Go.Dx

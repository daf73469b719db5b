/-
  A program's tables: what is asked of them once, by the kernel.
-/
import Derived.Test.YtlihinmgpfbolaaGreatDoorDTop
namespace Go.Dx

/-- Above every key. -/
def PM.top {α : Type} : PM α → Nat
  | .nil => 0
  | .node _ l r => Nat.succ (Nat.add (Nat.mul 2 (l.top)) (Nat.mul 2 (r.top)))
theorem PM.lt_top {α : Type} : ∀ (t : PM α) (i : Nat) (x : α), t.get i = some x → i < t.top
  | .nil, i, x, h => by rw [PM.get_nil] at h; cases h
  | .node v l r, i, x, h => by
    rw [PM.get_node] at h
    show i < 2 * l.top + 2 * r.top + 1
    split at h
    · omega
    · split at h
      · have := PM.lt_top l _ x h; omega
      · have := PM.lt_top r _ x h; omega

theorem list_at {α : Type} {N : Nat} {f g : Nat → α} (h : (List.range N).map f = (List.range N).map g) {i : Nat} (hi : i < N) : f i = g i := by
  have h1 : ((List.range N).map f)[i]? = ((List.range N).map g)[i]? := by rw [h]
  simpa [hi] using h1

/-- A structure or an array whose values may be compared cell by cell. -/
def eqFine (P : Program) (t : TypeId) : Bool :=
  !P.eqGuardType P.depth t && !P.stoodInHeld t && match P.underlying t with
    | some (.struct fs) => fs.toList.zipIdx.all fun (f, i) => !(f.name == "_") && Nat.beq f.offset i
    | some (.array _ e) => match P.info? e with
      | some i => Nat.beq i.size 1
      | none => false
    | _ => true
def fnFine (P : Program) (i : Nat) : Option Func :=
  match P.funcs[i]? with
  | some f => match f.body, f.name == "runtime.NumGoroutine" with
    | some _, false => some f
    | _, _ => none
  | none => none

theorem ext_run {P : Program} {f : FuncId} {fn : Func} (h1 : P.funcs[f]? = some fn) (h2 : (fn.name == "runtime.NumGoroutine") = false) (h3 : fn.body.isNone = true) (h4 : Extern.findNext fn = none) {e : Array Value → Sem Value} (h5 : Extern.find fn = some e) (args : Array Value) (w : World) :
    (callFunc f args).run P w = ((e args).run P w).andThen fun v w' => .ok (.value v) w' := by
  unfold callFunc
  simp only [Sem.run_bind, run_program, Result.andThen_ok, h1, h2, Bool.false_eq_true, if_false, h3, if_true, run_mark, h4, h5, Sem.run_pure]

theorem gok_of {G : Ctx} {P : Program} {T F E : Nat} (hT : G.tys.top ≤ T) (hF : G.fns.top ≤ F) (hE : G.eqt.top ≤ E) (h1 : (List.range T).map G.tys.get = (List.range T).map P.info?) (h2 : (List.range F).map G.fns.get = (List.range F).map (fnFine P))
    (h3 : (List.range E).all (fun t => match G.eqt.get t with | none => true | some _ => eqFine P t) = true) (hm : P.follows .mixedOrders = true)
    (e1 : ∀ f, G.ext.get f = some 1 → ∀ (args : Array Value) (w : World), (callFunc f args).run P w = ((Extern.BytealgIndexByte.indexByte args).run P w).andThen fun v w' => .ok (.value v) w')
    (e2 : ∀ f, G.ext.get f = some 2 → ∀ (args : Array Value) (w : World), (callFunc f args).run P w = ((Extern.BytealgCount.count args).run P w).andThen fun v w' => .ok (.value v) w') : GOK G P := by
  have heq : ∀ t k, G.eqt.get t = some k → eqFine P t = true := by
    intro t k h
    have hlt := PM.lt_top _ _ _ h
    rw [List.all_eq_true] at h3
    have := h3 t (List.mem_range.2 (by omega))
    rw [h] at this; exact this
  refine ⟨fun t i h => ?_, fun f fn h => ?_, e1, e2, hm, fun t k fs h hu => ?_, fun t k n e h hu => ?_⟩
  · have hlt := PM.lt_top _ _ _ h
    have := list_at h1 (i := t) (by omega)
    rw [h] at this; exact this.symm
  · have hlt := PM.lt_top _ _ _ h
    have := list_at h2 (i := f) (by omega)
    rw [h] at this
    unfold fnFine at this
    split at this
    · rename_i g hg
      split at this
      · rename_i c hc hn
        cases this
        exact ⟨hg, by rw [hc]; rfl, hn⟩
      · cases this
    · cases this
  · have := heq t k h
    unfold eqFine at this
    rw [hu] at this
    simp only [Bool.and_eq_true, Bool.not_eq_true'] at this
    obtain ⟨⟨a, b⟩, c⟩ := this
    refine ⟨a, b, fun i f hf => ?_⟩
    rw [List.all_eq_true] at c
    have := c (f, i) (List.mem_zipIdx_iff_getElem?.2 (by simpa using hf))
    simp only [Bool.and_eq_true, Bool.not_eq_true'] at this
    exact ⟨by simpa using this.1, beq_t.1 this.2⟩
  · have := heq t k h
    unfold eqFine at this
    rw [hu] at this
    simp only [Bool.and_eq_true, Bool.not_eq_true'] at this
    obtain ⟨⟨a, b⟩, c⟩ := this
    refine ⟨a, ?_⟩
    split at c
    · rename_i i hi; exact ⟨i, hi, beq_t.1 c⟩
    · cases c
end Go.Dx

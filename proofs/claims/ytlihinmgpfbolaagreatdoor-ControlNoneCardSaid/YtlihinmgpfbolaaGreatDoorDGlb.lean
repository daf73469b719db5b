/-
  A package-level array of integers that reads as listed, as a window of the evaluator's memory.
-/
import Derived.Test.YtlihinmgpfbolaaGreatDoorDLaw
import Derived.Lib.LaidU8
namespace Go.Dx
section
variable {P : Program} {η : Env}

theorem ints_of_array {H : Type} {enc : TypeId × Value → H} {w : World} {base : Nat} {sp : Nat → Bool} {held : Bool} {fuel : Nat} {t e : TypeId} {n : Nat} {k : IntKind} {cs : List Value} {zs : List Int} {p : List MemPlace} (ht : P.underlying t = some (.array n e)) (he : P.underlying e = some (.int k)) (hc : P.cellsOf e = 1) (hct : P.cellsOf t = n)
    (h : DataW.trod enc P w base sp held fuel t cs = some (.agg (zs.map fun z => .lit (.int k z)), p)) : cs.length = n ∧ ∀ (i : Nat) z, zs[i]? = some z → cs[i]? = some (.int k z) := by
  obtain ⟨xs, m, rfl, hx, hl, hxl, hall⟩ := DataW.trod_array ht h
  rw [hct] at hl
  have hxs : xs.map (·.1) = zs.map fun z => (DataW.lit (.int k z) : DataW H) := by
    have := congrArg Prod.fst hx
    simpa using this.symm
  refine ⟨hl, fun i z hz => ?_⟩
  have hlen : zs.length = n := by
    have := congrArg List.length hxs
    simp at this; omega
  have hi : i < n := by rw [← hlen]; exact (List.getElem?_eq_some_iff.1 hz).1
  have h1 := hall i hi
  obtain ⟨b, hb⟩ : ∃ b, xs[i]? = some b := ⟨xs[i]'(by omega), List.getElem?_eq_getElem (by omega)⟩
  rw [hb, hc, Nat.mul_one] at h1
  obtain ⟨z', hcz, rfl, _⟩ := DataW.trod_int he h1
  have h2 := drop_take_one hcz
  have h3 : (xs.map (·.1))[i]? = some (DataW.lit (.int k z') : DataW H) := by simp [hb]
  rw [hxs, List.getElem?_map, hz] at h3
  simp only [Option.map_some, Option.some.injEq, DataW.lit.injEq, Lit.int.injEq, true_and] at h3
  rw [h3]; exact h2

structure IntsAt (w : World) (g n : Nat) (k : IntKind) (zs : List Int) : Prop where
  at_ : ∃ (C : Array Value) (e : TypeId) (fr : Nat × Nat), w.heap[g]? = some (.cells C e fr) ∧ C.size = n ∧ ∀ (i : Nat) z, zs[i]? = some z → C[i]? = some (.int k z)
theorem IntsAt.calm {w w' : World} {g n : Nat} {k : IntKind} {zs : List Int} (h : IntsAt w g n k zs) (hc : Calm w w') : IntsAt w' g n k zs := by
  obtain ⟨C, e, fr, h1, h2⟩ := h.at_
  exact ⟨C, e, fr, by rw [hc.same g (Array.getElem?_eq_some_iff.1 h1).1]; exact h1, h2⟩
theorem ints_laid {w : World} {l : List (String × DataW Unit)} (h : laidMet P l w) {name : String} {k : IntKind} {zs : List Int} (hm : (name, (.agg (zs.map fun z => .lit (.int k z)) : DataW Unit)) ∈ l) {g : Nat} (hg : P.globalNamed name = some g) {t e : TypeId} {n : Nat} (ht : (P.globals[g]?).map (·.type) = some t)
    (hu : P.underlying t = some (.array n e)) (he : P.underlying e = some (.int k)) (hc : P.cellsOf e = 1) (hct : P.cellsOf t = n) : IntsAt w g n k zs := by
  obtain ⟨g', t', cs, fuel, p, q1, q2, q3, q4⟩ := Lib.laidMet.reads h hm
  obtain rfl := Option.some.inj (hg.symm.trans q1)
  obtain rfl := Option.some.inj (ht.symm.trans q2)
  obtain ⟨a1, a2⟩ := ints_of_array hu he hc hct q4
  unfold World.var? at q3
  rw [hg] at q3
  simp only [Option.bind_some] at q3
  split at q3
  · rename_i C e' fr hb
    cases q3
    exact ⟨cs, e', fr, hb, by simpa using a1, fun i z hz => by have := a2 i z hz; simpa using this⟩
  · cases q3

theorem vrl_ints {ρ : Pls} (k : IntKind) : ∀ zs : List Int, VRL η ρ (zs.map fun z => .int k (.c z)) (zs.map fun z => Value.int k z)
  | [] => .nil
  | z :: zs => .cons (VR.int k (.c z)) (vrl_ints k zs)
/-- The state that knows one package-level array of integers. -/
noncomputable def glbSt (g n : Nat) (k : IntKind) (zs : List Int) (te : TypeId) : St := { heap := PM.nil.set g (.blk n (wr .nil 0 (zs.map fun z => .int k (.c z))) te false true), next := Nat.succ g }
theorem glb_rep {w : World} {g n : Nat} {k : IntKind} {zs : List Int} {te : TypeId} (h : IntsAt w g n k zs) (hl : zs.length = n) : Rep η (Pls.upd (fun _ => none) g ⟨g, 0, n⟩) (glbSt g n k zs te) w := by
  obtain ⟨C, e, fr, h1, h2, h3⟩ := h.at_
  subst h2
  refine (Rep.empty (η := η) (w := w) g).take (p := ⟨g, 0, C.size⟩) (o := .blk C.size (wr .nil 0 (zs.map fun z => .int k (.c z))) te false true) (fun ρ' _ => ?_) (Array.getElem?_eq_some_iff.1 h1).1 (fun i x q hi => by
    have : (PM.nil : PM AObj).get i = some x := hi
    rw [PM.get_nil] at this; cases this)
  have := OR.window (η := η) (ρ := ρ') (l := zs.map fun z => .int k (.c z)) (L := zs.map fun z => Value.int k z) (base := 0) te h1 (vrl_ints k zs) (by simp [hl]) fun j V hj => by
    rw [List.getElem?_map, Option.map_eq_some_iff] at hj
    obtain ⟨z, hz, rfl⟩ := hj
    rw [Nat.zero_add]; exact h3 j z hz
  rw [List.length_map, hl] at this
  exact this
theorem glb_frz {g n : Nat} {k : IntKind} {zs : List Int} {te : TypeId} (i : Nat) (o : AObj) (h : (glbSt g n k zs te).heap.get i = some o) : o.wrt = false := by
  unfold glbSt at h; simp only [PM.get_set, PM.get_nil] at h
  split at h
  · cases h; rfl
  · cases h
theorem one_glb {G : Ctx} {g n : Nat} (h : G.glb = PM.nil.set g n) : ∀ g' n', G.glb.get g' = some n' → Pls.upd (fun _ => none) g ⟨g, 0, n⟩ g' = some ⟨g', 0, n'⟩ := fun g' n' hx => by
  rw [h, PM.get_set] at hx
  split at hx
  · rename_i e; subst e; cases hx; exact Pls.upd_self _ _ _
  · rw [PM.get_nil] at hx; cases hx
end
end Go.Dx

/-
  ControlNone of the Control seat: the law answers true for every message and every tick, and what it was handed reads as before; the tied card.
-/
import Derived.Test.YtlihinmgpfbolaaGreatDoorCNone
import Derived.Test.YtlihinmgpfbolaaGreatDoorCNoneFacts
import Derived.Test.YtlihinmgpfbolaaGreatDoorCards
import Derived.Test.YtlihinmgpfbolaaGreatDoorTie
import Derived.Lay
import Derived.LaidLaws
import Derived.JoinedOf
import Derived.SevenTiedAt
namespace Go.Proofs.YtlihinmgpfbolaaGreatDoor
open Go.ChangeShapes Go.WideShapes Go.RowKit Go.Dx Go.Dx.Co

theorem own : ownKnob Tryz.prog.godebug = none := by kernel_rfl
theorem flatM : flatB Tryz.prog 5 48 = true := by kernel_rfl
theorem cellsM : Tryz.prog.cellsOf 48 = 21 := by kernel_rfl
theorem bodyM : (match Tryz.prog.underlying 48 with | some (.struct fs) => fieldIs Tryz.prog fs 14 17 1 (slT Tryz.prog) | _ => false) = true := by kernel_rfl
theorem laidOut : laidOutB Tryz.prog = true := by kernel_rfl
theorem rowed : mapsRowed Tryz.prog = true := by kernel_rfl
theorem full : ((List.range Tryz.prog.types.size).all fun t => match Tryz.prog.underlying t with | some (.slice e) => decide (0 < Tryz.prog.cellsOf e) | _ => true) = true := by kernel_rfl
theorem laid_plain (W : World) : laidMetH Tryz.prog Rows.controlNoneRow.laid W = laidMet Tryz.prog Rows.controlNoneRow.laid W := MakeChecks.laidMetH_plain _ _ _ (by kernel_rfl)
theorem halves_named : Tryz.prog.globalNamed "corvee/frame.halves" = some 1 := by kernel_rfl
theorem halves_type : (Tryz.prog.globals[1]?).map (·.type) = some 340 := by kernel_rfl
theorem u32_cells : Tryz.prog.cellsOf 282 = 1 := by kernel_rfl
theorem arr_cells : Tryz.prog.cellsOf 340 = 16 := by kernel_rfl
theorem halves_is : (.agg (halves.map fun z => .lit (.int .u32 z)) : DataW Unit) = Rows.laid_corvee_frame_halves := by kernel_rfl
theorem halves_in : ("corvee/frame.halves", (.agg (halves.map fun z => .lit (.int .u32 z)) : DataW Unit)) ∈ Rows.controlNoneRow.laid := by
  rw [halves_is]; simp [Rows.controlNoneRow]

set_option maxRecDepth 100000 in
theorem none_lifted (os : Os) (started : os.Started) (H : Type) (enc : TypeId × Value → H) :
    ReturnsInHanded {} Tryz.checked os 5 .any (fun w args => (Rows.controlNoneSpec.pre enc Tryz.prog Tryz.f5 [] false w args ∧ laidMetH Tryz.prog Rows.controlNoneRow.laid w) ∧ sizedMet enc Tryz.prog Tryz.f5 (OpenSpec.ofChange Rows.controlNoneSpec) false w args)
      (Rows.controlNoneSpec.post enc Tryz.prog Tryz.f5 false true false false) := by
  refine returnsInHanded_of_change_and (C := Tryz.checked) (X := fun w _ => laidMetH Tryz.prog Rows.controlNoneRow.laid w) (fun _ _ _ hh h => h.of_heap hh) own started (by kernel_rfl) Tryz.func5
    (ChangeSpec.witness_shaped (enc := enc) (C := Tryz.checked) (os := os) (X := fun w _ => laidMetH Tryz.prog Rows.controlNoneRow.laid w) false (World.laidAll Tryz.prog os Rows.controlNoneRow.laid) #[.agg #[.int .i64 0, .int .i64 0, .int .i64 0, .int .i64 0, .int .i64 0, .int .i64 0, .int .i64 0, .int .i64 0, .int .i64 0, .int .i64 0, .int .i64 0, .int .i64 0, .int .i64 0, .int .i64 0, .int .i64 0, .int .i64 0, .int .i64 0, .slice none 0 0, .int .i64 0, .int .i64 0, .int .i64 0], .int .i64 0] 8 (World.laidAll_os _ _ _)
      (World.shaped_of_ZipB (by kernel_rfl) (by kernel_rfl)) (by kernel_rfl) (by kernel_rfl) (by kernel_rfl)
      (by rw [laid_plain]; exact laidMet_laidAll _ (by kernel_rfl) (by kernel_rfl))) ?_
  intro W base args ds gs before hval0 hW _ _ hX _
  have hval : ∀ (j : Nat) t v, Tryz.f5.params[j]? = some t → args[j]? = some v → Value.okWide Tryz.prog W .any base t v := hval0
  have hW' := hW
  obtain ⟨p, q, hA0, hV, rfl, _, _⟩ := hW
  have hA : DataW.TrodAll enc Tryz.prog W 0 (fun _ => true) true Tryz.f5.params.toList args.toList ds p := hA0
  rw [Tryz.params5] at hA hval
  obtain ⟨rfl, rfl⟩ := trodVars_none hV
  obtain ⟨v0, v1, d0, d1, p0, p1, rfl, rfl, rfl, h0, h1⟩ := trodAll_two hA
  obtain ⟨A, rfl, hsz, hone, pb, mb, cb, hb, hmb⟩ := flat_open cellsM (by decide) flatM bodyM h0
  obtain ⟨i, rfl, rfl, rfl, wi⟩ := open_int Tryz.underlying3 (hval 1 3 v1 rfl rfl) h1
  have hi : -9223372036854775808 ≤ i ∧ i ≤ 9223372036854775807 := by simpa [Lit.wf, IntKind.min, IntKind.max, IntKind.signed, IntKind.bits] using wi
  have hX' : laidMet Tryz.prog Rows.controlNoneRow.laid W := by rw [← laid_plain]; exact hX
  have hH : IntsAt W 1 16 .u32 halves := ints_laid hX' halves_in halves_named halves_type Tryz.underlying340 Tryz.underlying282 u32_cells arr_cells
  refine (none_any hH hsz hone hb hmb i hi).mono fun e W' ⟨he, hc⟩ => ?_
  subst he
  exact ⟨_, rfl, quiet_post laidOut rowed full (by kernel_rfl) rfl rfl (tb := 4) (by kernel_rfl) Tryz.underlying4 hW' hc⟩

theorem and_t {a b : Bool} (h : a = true) (k : b = true) : (a && b) = true := by rw [h, k]; rfl
set_option maxRecDepth 100000 in
theorem controlNone_facts : joinedFacts Tryz.pinned.checked.prog 5 Tryz.f5 Rows.controlNoneSpec Rows.controlNoneRow = true := and_t (and_t (and_t (and_t (and_t (and_t (and_t (and_t (and_t (and_t (and_t (and_t (and_t (and_t (and_t (and_t (and_t (and_t (and_t (and_t (and_t (and_t (and_t (and_t (and_t (and_t (and_t (and_t (and_t (and_t (and_t (ControlNoneFacts.k0) ControlNoneFacts.k1) ControlNoneFacts.k2) ControlNoneFacts.k3) ControlNoneFacts.k4) ControlNoneFacts.k5) ControlNoneFacts.k6) ControlNoneFacts.k7) ControlNoneFacts.k8) ControlNoneFacts.k9) ControlNoneFacts.k10) ControlNoneFacts.k11) ControlNoneFacts.k12) ControlNoneFacts.k13) ControlNoneFacts.k14) ControlNoneFacts.k15) ControlNoneFacts.k16) ControlNoneFacts.k17) ControlNoneFacts.k18) ControlNoneFacts.k19) ControlNoneFacts.k20) ControlNoneFacts.k21) ControlNoneFacts.k22) ControlNoneFacts.k23) ControlNoneFacts.k24) ControlNoneFacts.k25) ControlNoneFacts.k26) ControlNoneFacts.k27) (by kernel_rfl)) ControlNoneFacts.k29) ControlNoneFacts.k30) ControlNoneFacts.k31
theorem controlNone_holds : Rows.ControlNoneSaid :=
  OpenClaim.holds_of_wide 5 Tryz.f5 rfl rfl rfl rfl rfl rfl rfl ⟨rfl, rfl, rfl, rfl, rfl⟩ rfl rfl rfl rfl rfl ControlNoneFacts.named Tryz.func5 controlNone_facts
    (of_decide_eq_true ControlNoneFacts.inst) ControlNoneFacts.wrap
    (fun os started H enc _ => none_lifted os started H enc)

theorem cn_wf : Rows.controlNoneRow.wfByText (OpenSpec.ofChange Rows.controlNoneSpec) = true := by kernel_rfl
theorem cn_main : Tryz.pinned.checked.prog.mainIs = some (true, "21db3087c63c55b6fc51e834ba6c2564483edf6e0a36211ad571a59f5f7eda3e".toList) := by kernel_rfl
theorem cn_looks : false = Tryz.pinned.checked.prog.looks [] := by kernel_rfl
theorem cn_goes : false = Rows.controlNoneRow.goesBy Tryz.pinned.checked.prog := by kernel_rfl
theorem cn_stand : ([48, 3].all fun u => !Tryz.pinned.checked.prog.wantsStandIn u) = true := by kernel_rfl
theorem controlNone_card_holds : Rows.ControlNoneCardSaid :=
  Claim7.holds_tied_plain_at .later [] [.data, .data, .data, .data, .data, .pinned] true (true, "21db3087c63c55b6fc51e834ba6c2564483edf6e0a36211ad571a59f5f7eda3e") false controlNone_holds (fun _ h => by cases h) cn_wf (fun _ h => by cases h) controlNone_row_tie rfl ⟨rfl, rfl⟩ cn_main rfl
    (fun f fn hf hfn => by
      obtain rfl : f = 5 := Option.some.inj (ControlNoneFacts.named.symm.trans hf) |>.symm
      obtain rfl : fn = Tryz.f5 := (Option.some.inj (Tryz.func5.symm.trans hfn)).symm
      exact ⟨cn_looks, fun j t ht => by
        rw [Tryz.params5] at ht
        have hm : t ∈ [48, 3] := by simpa using Array.mem_of_getElem? ht
        simpa using List.all_eq_true.1 cn_stand t hm⟩)
    cn_goes
#print axioms controlNone_card_holds
end Go.Proofs.YtlihinmgpfbolaaGreatDoor

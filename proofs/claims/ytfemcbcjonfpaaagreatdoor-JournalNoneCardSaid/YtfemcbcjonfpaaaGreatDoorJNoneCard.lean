/-
  JournalNone of the Journal seat: the law answers true for every event and every number, and what it was handed reads as before; the tied card.
-/
import Derived.Test.YtfemcbcjonfpaaaGreatDoorJNone
import Derived.Test.YtfemcbcjonfpaaaGreatDoorJNoneFacts
import Derived.Test.YtfemcbcjonfpaaaGreatDoorCards
import Derived.Test.YtfemcbcjonfpaaaGreatDoorTie
import Derived.Lay
import Derived.LaidLaws
import Derived.JoinedOf
import Derived.SevenTiedAt
namespace Go.Proofs.YtfemcbcjonfpaaaGreatDoor
open Go.ChangeShapes Go.WideShapes Go.RowKit Go.Dx Go.Dx.Jo

theorem own : ownKnob Tryz.prog.godebug = none := by kernel_rfl
theorem evS : evShape Tryz.prog 24 22 = true := by kernel_rfl
theorem spS : spShape Tryz.prog 67 = true := by kernel_rfl
theorem laidOut : laidOutB Tryz.prog = true := by kernel_rfl
theorem rowed : mapsRowed Tryz.prog = true := by kernel_rfl
theorem full : ((List.range Tryz.prog.types.size).all fun t => match Tryz.prog.underlying t with | some (.slice e) => decide (0 < Tryz.prog.cellsOf e) | _ => true) = true := by kernel_rfl
theorem laid_plain (W : World) : laidMetH Tryz.prog Rows.journalNoneRow.laid W = laidMet Tryz.prog Rows.journalNoneRow.laid W := MakeChecks.laidMetH_plain _ _ _ (by kernel_rfl)
theorem halves_named : Tryz.prog.globalNamed "corvee/frame.halves" = some 0 := by kernel_rfl
theorem halves_type : (Tryz.prog.globals[0]?).map (·.type) = some 157 := by kernel_rfl
theorem u32_cells : Tryz.prog.cellsOf 96 = 1 := by kernel_rfl
theorem arr_cells : Tryz.prog.cellsOf 157 = 16 := by kernel_rfl
theorem halves_is : (.agg (halves.map fun z => .lit (.int .u32 z)) : DataW Unit) = Rows.laid_corvee_frame_halves := by kernel_rfl
theorem halves_in : ("corvee/frame.halves", (.agg (halves.map fun z => .lit (.int .u32 z)) : DataW Unit)) ∈ Rows.journalNoneRow.laid := by
  rw [halves_is]; simp [Rows.journalNoneRow]

set_option maxRecDepth 100000 in
theorem none_lifted (os : Os) (started : os.Started) (H : Type) (enc : TypeId × Value → H) :
    ReturnsInHanded {} Tryz.checked os 5 .any (fun w args => (Rows.journalNoneSpec.pre enc Tryz.prog Tryz.f5 [] false w args ∧ laidMetH Tryz.prog Rows.journalNoneRow.laid w) ∧ sizedMet enc Tryz.prog Tryz.f5 (OpenSpec.ofChange Rows.journalNoneSpec) false w args)
      (Rows.journalNoneSpec.post enc Tryz.prog Tryz.f5 false true false false) := by
  refine returnsInHanded_of_change_and (C := Tryz.checked) (X := fun w _ => laidMetH Tryz.prog Rows.journalNoneRow.laid w) (fun _ _ _ hh h => h.of_heap hh) own started (by kernel_rfl) Tryz.func5
    (ChangeSpec.witness_shaped (enc := enc) (C := Tryz.checked) (os := os) (X := fun w _ => laidMetH Tryz.prog Rows.journalNoneRow.laid w) false (World.laidAll Tryz.prog os Rows.journalNoneRow.laid) #[.agg #[.int .i64 0, .int .i64 0, .int .i64 0, .int .i64 0, .int .i64 0, .int .i64 0, .int .i64 0, .int .i64 0, .int .i64 0, .slice none 0 0], .int .i64 0] 8 (World.laidAll_os _ _ _)
      (World.shaped_of_ZipB (by kernel_rfl) (by kernel_rfl)) (by kernel_rfl) (by kernel_rfl) (by kernel_rfl)
      (by rw [laid_plain]; exact laidMet_laidAll _ (by kernel_rfl) (by kernel_rfl))) ?_
  intro W base args ds gs before hval0 hW _ _ hX _
  have hval : ∀ (j : Nat) t v, Tryz.f5.params[j]? = some t → args[j]? = some v → Value.okWide Tryz.prog W .any base t v := hval0
  have hW' := hW
  obtain ⟨p, q, hA0, hV, rfl, _, _⟩ := hW
  have hA : DataW.TrodAll enc Tryz.prog W 0 (fun _ => true) true Tryz.f5.params.toList args.toList ds p := hA0
  rw [Tryz.params5] at hA hval
  obtain ⟨rfl, rfl⟩ := trodVars_none hV
  obtain ⟨v0, v1, d0, d1, p0, p1, rfl, rfl, rfl, h0, h1⟩ := trodAll_two hA
  obtain ⟨E, sa, L, cap, rfl, hone, h9, hL, hS⟩ := ev_open evS Tryz.underlying22 spS h0
  obtain ⟨i, rfl, rfl, rfl, wi⟩ := open_int Tryz.underlying3 (hval 1 3 v1 rfl rfl) h1
  have hi : -9223372036854775808 ≤ i ∧ i ≤ 9223372036854775807 := by simpa [Lit.wf, IntKind.min, IntKind.max, IntKind.signed, IntKind.bits] using wi
  have hX' : laidMet Tryz.prog Rows.journalNoneRow.laid W := by rw [← laid_plain]; exact hX
  have hH : IntsAt W 0 16 .u32 halves := ints_laid hX' halves_in halves_named halves_type Tryz.underlying157 Tryz.underlying96 u32_cells arr_cells
  refine (none_any hH hone h9 hL hS i hi).mono fun e W' ⟨he, hc⟩ => ?_
  subst he
  exact ⟨_, rfl, quiet_post laidOut rowed full (by kernel_rfl) rfl rfl (tb := 4) (by kernel_rfl) Tryz.underlying4 hW' hc⟩

theorem and_t {a b : Bool} (h : a = true) (k : b = true) : (a && b) = true := by rw [h, k]; rfl
set_option maxRecDepth 100000 in
theorem journalNone_facts : joinedFacts Tryz.pinned.checked.prog 5 Tryz.f5 Rows.journalNoneSpec Rows.journalNoneRow = true := and_t (and_t (and_t (and_t (and_t (and_t (and_t (and_t (and_t (and_t (and_t (and_t (and_t (and_t (and_t (and_t (and_t (and_t (and_t (and_t (and_t (and_t (and_t (and_t (and_t (and_t (and_t (and_t (and_t (and_t (and_t (JournalNoneFacts.k0) JournalNoneFacts.k1) JournalNoneFacts.k2) JournalNoneFacts.k3) JournalNoneFacts.k4) JournalNoneFacts.k5) JournalNoneFacts.k6) JournalNoneFacts.k7) JournalNoneFacts.k8) JournalNoneFacts.k9) JournalNoneFacts.k10) JournalNoneFacts.k11) JournalNoneFacts.k12) JournalNoneFacts.k13) JournalNoneFacts.k14) JournalNoneFacts.k15) JournalNoneFacts.k16) JournalNoneFacts.k17) JournalNoneFacts.k18) JournalNoneFacts.k19) JournalNoneFacts.k20) JournalNoneFacts.k21) JournalNoneFacts.k22) JournalNoneFacts.k23) JournalNoneFacts.k24) JournalNoneFacts.k25) JournalNoneFacts.k26) JournalNoneFacts.k27) (by kernel_rfl)) JournalNoneFacts.k29) JournalNoneFacts.k30) JournalNoneFacts.k31
theorem journalNone_holds : Rows.JournalNoneSaid :=
  OpenClaim.holds_of_wide 5 Tryz.f5 rfl rfl rfl rfl rfl rfl rfl ⟨rfl, rfl, rfl, rfl, rfl⟩ rfl rfl rfl rfl rfl JournalNoneFacts.named Tryz.func5 journalNone_facts
    (of_decide_eq_true JournalNoneFacts.inst) JournalNoneFacts.wrap
    (fun os started H enc _ => none_lifted os started H enc)

theorem jn_wf : Rows.journalNoneRow.wfByText (OpenSpec.ofChange Rows.journalNoneSpec) = true := by kernel_rfl
theorem jn_main : Tryz.pinned.checked.prog.mainIs = some (true, "eeb57e768a40768234148a0385093f974d7ffec5890eb1db69a369e49375905e".toList) := by kernel_rfl
theorem jn_looks : false = Tryz.pinned.checked.prog.looks [] := by kernel_rfl
theorem jn_goes : false = Rows.journalNoneRow.goesBy Tryz.pinned.checked.prog := by kernel_rfl
theorem jn_stand : ([24, 3].all fun u => !Tryz.pinned.checked.prog.wantsStandIn u) = true := by kernel_rfl
theorem journalNone_card_holds : Rows.JournalNoneCardSaid :=
  Claim7.holds_tied_plain_at .later [] [.data, .data, .data, .data, .data, .pinned] true (true, "eeb57e768a40768234148a0385093f974d7ffec5890eb1db69a369e49375905e") false journalNone_holds (fun _ h => by cases h) jn_wf (fun _ h => by cases h) journalNone_row_tie rfl ⟨rfl, rfl⟩ jn_main rfl
    (fun f fn hf hfn => by
      obtain rfl : f = 5 := Option.some.inj (JournalNoneFacts.named.symm.trans hf) |>.symm
      obtain rfl : fn = Tryz.f5 := (Option.some.inj (Tryz.func5.symm.trans hfn)).symm
      exact ⟨jn_looks, fun j t ht => by
        rw [Tryz.params5] at ht
        have hm : t ∈ [24, 3] := by simpa using Array.mem_of_getElem? ht
        simpa using List.all_eq_true.1 jn_stand t hm⟩)
    jn_goes
#print axioms journalNone_card_holds
end Go.Proofs.YtfemcbcjonfpaaaGreatDoor

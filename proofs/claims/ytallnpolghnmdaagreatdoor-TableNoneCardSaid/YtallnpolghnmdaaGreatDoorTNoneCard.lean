/-
  TableNone of the Table seat: the law answers true for every event and every number, and what it was handed reads as before; the tied card.
-/
import Derived.Test.YtallnpolghnmdaaGreatDoorTNone
import Derived.Test.YtallnpolghnmdaaGreatDoorTNoneFacts
import Derived.Test.YtallnpolghnmdaaGreatDoorCards
import Derived.Test.YtallnpolghnmdaaGreatDoorTie
import Derived.Lay
import Derived.LaidLaws
import Derived.JoinedOf
import Derived.SevenTiedAt
namespace Go.Proofs.YtallnpolghnmdaaGreatDoor
open Go.ChangeShapes Go.WideShapes Go.RowKit Go.Dx Go.Dx.Tryz

theorem own : ownKnob Tryz.prog.godebug = none := by kernel_rfl
theorem ev43 : evShape Tryz.prog 43 41 = true := by kernel_rfl
theorem sp49 : spShape Tryz.prog 49 = true := by kernel_rfl
theorem laidOut : laidOutB Tryz.prog = true := by kernel_rfl
theorem rowed : mapsRowed Tryz.prog = true := by kernel_rfl
theorem full : ((List.range Tryz.prog.types.size).all fun t => match Tryz.prog.underlying t with | some (.slice e) => decide (0 < Tryz.prog.cellsOf e) | _ => true) = true := by kernel_rfl

set_option maxRecDepth 100000 in
theorem none_lifted (os : Os) (started : os.Started) (H : Type) (enc : TypeId × Value → H) :
    ReturnsInHanded {} Tryz.checked os 10 .any (fun w args => (Rows.tableNoneSpec.pre enc Tryz.prog Tryz.f10 [] false w args ∧ laidMetH Tryz.prog Rows.tableNoneRow.laid w) ∧ sizedMet enc Tryz.prog Tryz.f10 (OpenSpec.ofChange Rows.tableNoneSpec) false w args)
      (Rows.tableNoneSpec.post enc Tryz.prog Tryz.f10 false true false false) := by
  refine returnsInHanded_of_change_and (C := Tryz.checked) (X := fun w _ => laidMetH Tryz.prog Rows.tableNoneRow.laid w) (fun _ _ _ hh h => h.of_heap hh) own started (by kernel_rfl) Tryz.func10
    (ChangeSpec.witness_shaped (enc := enc) (C := Tryz.checked) (os := os) (X := fun w _ => laidMetH Tryz.prog Rows.tableNoneRow.laid w) false (World.laidAll Tryz.prog os Rows.tableNoneRow.laid) #[.agg #[.int .i64 0, .int .i64 0, .int .i64 0, .int .i64 0, .int .i64 0, .int .i64 0, .int .i64 0, .int .i64 0, .int .i64 0, .slice none 0 0], .int .i64 0] 8 (World.laidAll_os _ _ _)
      (World.shaped_of_ZipB (by kernel_rfl) (by kernel_rfl)) (by kernel_rfl) (by kernel_rfl) (by kernel_rfl)
      (by rw [MakeChecks.laidMetH_plain _ _ _ (by kernel_rfl)]; exact laidMet_laidAll _ (by kernel_rfl) (by kernel_rfl))) ?_
  intro W base args ds gs before hval0 hW _ _ _ _
  have hval : ∀ (j : Nat) t v, Tryz.f10.params[j]? = some t → args[j]? = some v → Value.okWide Tryz.prog W .any base t v := hval0
  have hW' := hW
  obtain ⟨p, q, hA0, hV, rfl, _, _⟩ := hW
  have hA : DataW.TrodAll enc Tryz.prog W 0 (fun _ => true) true Tryz.f10.params.toList args.toList ds p := hA0
  rw [Tryz.params10] at hA hval
  obtain ⟨rfl, rfl⟩ := trodVars_none hV
  obtain ⟨v0, v1, d0, d1, p0, p1, rfl, rfl, rfl, h0, h1⟩ := trodAll_two hA
  obtain ⟨E, sa, L, cap, rfl, hone, h9, hL, hS⟩ := ev_open ev43 Tryz.underlying41 sp49 h0
  obtain ⟨i, rfl, rfl, rfl, wi⟩ := open_int Tryz.underlying3 (hval 1 3 v1 rfl rfl) h1
  have hi : -9223372036854775808 ≤ i ∧ i ≤ 9223372036854775807 := by simpa [Lit.wf, IntKind.min, IntKind.max, IntKind.signed, IntKind.bits] using wi
  refine (none_any hone h9 hL hS i hi).mono fun e W' ⟨he, hc⟩ => ?_
  subst he
  exact ⟨_, rfl, quiet_post laidOut rowed full (by kernel_rfl) rfl rfl (tb := 4) (by kernel_rfl) Tryz.underlying4 hW' hc⟩

theorem and_t {a b : Bool} (h : a = true) (k : b = true) : (a && b) = true := by rw [h, k]; rfl
set_option maxRecDepth 100000 in
theorem tableNone_facts : joinedFacts Tryz.pinned.checked.prog 10 Tryz.f10 Rows.tableNoneSpec Rows.tableNoneRow = true := and_t (and_t (and_t (and_t (and_t (and_t (and_t (and_t (and_t (and_t (and_t (and_t (and_t (and_t (and_t (and_t (and_t (and_t (and_t (and_t (and_t (and_t (and_t (and_t (and_t (and_t (and_t (and_t (and_t (and_t (and_t (TableNoneFacts.k0) TableNoneFacts.k1) TableNoneFacts.k2) TableNoneFacts.k3) TableNoneFacts.k4) TableNoneFacts.k5) TableNoneFacts.k6) TableNoneFacts.k7) TableNoneFacts.k8) TableNoneFacts.k9) TableNoneFacts.k10) TableNoneFacts.k11) TableNoneFacts.k12) TableNoneFacts.k13) TableNoneFacts.k14) TableNoneFacts.k15) TableNoneFacts.k16) TableNoneFacts.k17) TableNoneFacts.k18) TableNoneFacts.k19) TableNoneFacts.k20) TableNoneFacts.k21) TableNoneFacts.k22) TableNoneFacts.k23) TableNoneFacts.k24) TableNoneFacts.k25) TableNoneFacts.k26) TableNoneFacts.k27) (by kernel_rfl)) TableNoneFacts.k29) TableNoneFacts.k30) TableNoneFacts.k31
theorem tableNone_holds : Rows.TableNoneSaid :=
  OpenClaim.holds_of_wide 10 Tryz.f10 rfl rfl rfl rfl rfl rfl rfl ⟨rfl, rfl, rfl, rfl, rfl⟩ rfl rfl rfl rfl rfl TableNoneFacts.named Tryz.func10 tableNone_facts
    (of_decide_eq_true TableNoneFacts.inst) TableNoneFacts.wrap
    (fun os started H enc _ => none_lifted os started H enc)
theorem tn_wf : Rows.tableNoneRow.wfByText (OpenSpec.ofChange Rows.tableNoneSpec) = true := by kernel_rfl
theorem tn_main : Tryz.pinned.checked.prog.mainIs = some (true, "b506d90c4b17921034b91e1d3b72fa8e7cf7c30f14bc828c4a340d5a42b904a5".toList) := by kernel_rfl
theorem tn_looks : false = Tryz.pinned.checked.prog.looks [] := by kernel_rfl
theorem tn_goes : false = Rows.tableNoneRow.goesBy Tryz.pinned.checked.prog := by kernel_rfl
theorem tn_stand : ([43, 3].all fun u => !Tryz.pinned.checked.prog.wantsStandIn u) = true := by kernel_rfl
theorem tableNone_card_holds : Rows.TableNoneCardSaid :=
  Claim7.holds_tied_plain_at .later [] [.data, .data, .data, .data, .pinned] true (true, "b506d90c4b17921034b91e1d3b72fa8e7cf7c30f14bc828c4a340d5a42b904a5") false tableNone_holds (fun _ h => by cases h) tn_wf (fun _ h => by cases h) tableNone_row_tie rfl ⟨rfl, rfl⟩ tn_main rfl
    (fun f fn hf hfn => by
      obtain rfl : f = 10 := Option.some.inj (TableNoneFacts.named.symm.trans hf) |>.symm
      obtain rfl : fn = Tryz.f10 := (Option.some.inj (Tryz.func10.symm.trans hfn)).symm
      exact ⟨tn_looks, fun j t ht => by
        rw [Tryz.params10] at ht
        have hm : t ∈ [43, 3] := by simpa using Array.mem_of_getElem? ht
        simpa using List.all_eq_true.1 tn_stand t hm⟩)
    tn_goes
#print axioms tableNone_card_holds
end Go.Proofs.YtallnpolghnmdaaGreatDoor

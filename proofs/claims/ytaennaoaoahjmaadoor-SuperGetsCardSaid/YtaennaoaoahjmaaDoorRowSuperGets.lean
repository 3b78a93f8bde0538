/-
  Which record any bytes are is the document's answer, and their digest; the call returns true.
-/
import Derived.Test.YtaennaoaoahjmaaDoorRows
import Derived.Test.YtaennaoaoahjmaaDoorTie
import Derived.Test.YtaennaoaoahjmaaDoorCards
import Derived.SevenTiedAt
import Derived.Test.YtaennaoaoahjmaaDoorDetY
import Derived.Test.YtaennaoaoahjmaaDoorSM
namespace Go.Proofs.YtaennaoaoahjmaaDoor
open Go.Det
set_option maxRecDepth 100000

theorem own_SuperGets : ownKnob Tryd.prog.godebug = none := by kernel_rfl
theorem laid_SuperGets : laidOutB Tryd.prog = true := by kernel_rfl
theorem plain_SuperGets : (Rows.superGetsRow.laid.all fun x => x.2.handleName?.isNone) = true := by kernel_rfl

theorem lifted_SuperGets (os : Os) (started : os.Started) (H : Type) (enc : TypeId × Value → H) :
    ReturnsInHanded {} Tryd.checked os 7 .any (fun w args => (Rows.superGetsSpec.pre enc Tryd.prog Tryd.f7 Rows.superGetsRow.domain false w args ∧ laidMetH Tryd.prog Rows.superGetsRow.laid w) ∧ sizedMet enc Tryd.prog Tryd.f7 (OpenSpec.ofChange Rows.superGetsSpec) false w args)
      (Rows.superGetsSpec.post enc Tryd.prog Tryd.f7 false true false false) := by
  refine change_laid (C := Tryd.checked) (X := fun w => laidMetH Tryd.prog Rows.superGetsRow.laid w) (fun _ _ hh h => h.of_heap hh) own_SuperGets started (by kernel_rfl) Tryd.func7
    (ChangeSpec.witness_shaped (enc := enc) (C := Tryd.checked) (os := os) (X := fun w _ => laidMetH Tryd.prog Rows.superGetsRow.laid w) false (World.laidAll Tryd.prog os Rows.superGetsRow.laid) #[.string ByteArray.empty] 8 (World.laidAll_os _ _ _)
      (World.shaped_of_ZipB (by kernel_rfl) (by kernel_rfl)) (by kernel_rfl) (by kernel_rfl) (by kernel_rfl)
      (by rw [MakeChecks.laidMetH_plain _ _ _ plain_SuperGets]; exact laidMet_laidAll _ (by kernel_rfl) (by kernel_rfl))) ?_
  intro W base args ds gs before hval hW hsz hsh hL
  exact law_contract (C := Tryd.checked) (ys := [.str]) comp laid_SuperGets rfl (fun ds h => by
    match ds, h with
    | [d0], _ => rfl) (by kernel_rfl) (by kernel_rfl) rfl (by rfl) ev_SuperGets W
    (globs_laid Rows.superGetsRow.laid G4 hsh (by kernel_rfl : hasRows Tryd.prog = true) hL plain_SuperGets (by kernel_rfl) (by kernel_rfl)) base args ds gs before hval hW hsz

/-- The row. -/
theorem superGets_row : Rows.SuperGetsSaid :=
  OpenClaim.holds_of_wide 7 Tryd.f7 rfl rfl rfl rfl rfl rfl rfl ⟨rfl, rfl, rfl, rfl, rfl⟩ rfl rfl rfl rfl rfl (by kernel_rfl) Tryd.func7 (by kernel_rfl)
    (of_decide_eq_true (by kernel_rfl)) (by unfold Func.isWrapper; first | (rw [if_pos (by decide +kernel)]; kernel_rfl) | (rw [if_neg (by decide +kernel)]; exact ⟨rfl, rfl⟩))
    (fun os started H enc _ => lifted_SuperGets os started H enc)

/-- The tied card. -/
theorem superGets_holds : Rows.SuperGetsCardSaid :=
  Claim7.holds_tied_plain_at .later [] [.data, .data, .data, .data] true (true, "470d10cd1933b1a46a68e6e84f3bc12684a6d4ce32c1f38a0bbc4ddcbe619c19") false
    superGets_row (fun _ h => by cases h) (by kernel_rfl) (fun _ h => by cases h) superGets_row_tie rfl ⟨rfl, rfl⟩ (by kernel_rfl) rfl
    (fun f fn hf hfn => by
      obtain rfl : f = 7 := Option.some.inj ((show Tryd.prog.funcNamed "cofferdam/cofferdamlaw14.SuperGets" = some 7 by kernel_rfl).symm.trans hf) |>.symm
      obtain rfl : fn = Tryd.f7 := (Option.some.inj (Tryd.func7.symm.trans hfn)).symm
      exact ⟨by kernel_rfl, fun j t ht => by
        rw [Tryd.params7] at ht
        have hm : t ∈ [9] := by simpa using Array.mem_of_getElem? ht
        have hall : ([9].all fun u => !Tryd.prog.wantsStandIn u) = true := by kernel_rfl
        exact (show Tryd.prog.wantsStandIn t = false by simpa using List.all_eq_true.1 hall t hm)⟩)
    (by kernel_rfl)

#print axioms superGets_holds
end Go.Proofs.YtaennaoaoahjmaaDoor

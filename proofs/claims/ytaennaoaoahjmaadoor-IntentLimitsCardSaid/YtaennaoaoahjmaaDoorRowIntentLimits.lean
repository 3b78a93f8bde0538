/-
  What a log refuses: too many writes, a cell that is too long, a number that is out of bounds; the call returns true.
-/
import Derived.Test.YtaennaoaoahjmaaDoorRows
import Derived.Test.YtaennaoaoahjmaaDoorTie
import Derived.Test.YtaennaoaoahjmaaDoorCards
import Derived.SevenTiedAt
import Derived.Test.YtaennaoaoahjmaaDoorDetY
import Derived.Test.YtaennaoaoahjmaaDoorHL
namespace Go.Proofs.YtaennaoaoahjmaaDoor
open Go.Det
set_option maxRecDepth 100000

theorem own_IntentLimits : ownKnob Tryd.prog.godebug = none := by kernel_rfl
theorem laid_IntentLimits : laidOutB Tryd.prog = true := by kernel_rfl
theorem plain_IntentLimits : (Rows.intentLimitsRow.laid.all fun x => x.2.handleName?.isNone) = true := by kernel_rfl

theorem lifted_IntentLimits (os : Os) (started : os.Started) (H : Type) (enc : TypeId × Value → H) :
    ReturnsInHanded {} Tryd.checked os 5 .any (fun w args => (Rows.intentLimitsSpec.pre enc Tryd.prog Tryd.f5 Rows.intentLimitsRow.domain false w args ∧ laidMetH Tryd.prog Rows.intentLimitsRow.laid w) ∧ sizedMet enc Tryd.prog Tryd.f5 (OpenSpec.ofChange Rows.intentLimitsSpec) false w args)
      (Rows.intentLimitsSpec.post enc Tryd.prog Tryd.f5 false true false false) := by
  refine change_laid (C := Tryd.checked) (X := fun w => laidMetH Tryd.prog Rows.intentLimitsRow.laid w) (fun _ _ hh h => h.of_heap hh) own_IntentLimits started (by kernel_rfl) Tryd.func5
    (ChangeSpec.witness_shaped (enc := enc) (C := Tryd.checked) (os := os) (X := fun w _ => laidMetH Tryd.prog Rows.intentLimitsRow.laid w) false (World.laidAll Tryd.prog os Rows.intentLimitsRow.laid) #[.int .i64 0, .int .i64 0, .int .i64 0] 8 (World.laidAll_os _ _ _)
      (World.shaped_of_ZipB (by kernel_rfl) (by kernel_rfl)) (by kernel_rfl) (by kernel_rfl) (by kernel_rfl)
      (by rw [MakeChecks.laidMetH_plain _ _ _ plain_IntentLimits]; exact laidMet_laidAll _ (by kernel_rfl) (by kernel_rfl))) ?_
  intro W base args ds gs before hval hW hsz hsh hL
  exact law_contract (C := Tryd.checked) (ys := [.int .i64, .int .i64, .int .i64]) comp laid_IntentLimits rfl (fun ds h => by
    match ds, h with
    | [d0, d1, d2], _ => rfl) (by kernel_rfl) (by kernel_rfl) rfl (by rfl) ev_IntentLimits W
    (globs_laid Rows.intentLimitsRow.laid G2 hsh (by kernel_rfl : hasRows Tryd.prog = true) hL plain_IntentLimits (by kernel_rfl) (by kernel_rfl)) base args ds gs before hval hW hsz

/-- The row. -/
theorem intentLimits_row : Rows.IntentLimitsSaid :=
  OpenClaim.holds_of_wide 5 Tryd.f5 rfl rfl rfl rfl rfl rfl rfl ⟨rfl, rfl, rfl, rfl, rfl⟩ rfl rfl rfl rfl rfl (by kernel_rfl) Tryd.func5 (by kernel_rfl)
    (of_decide_eq_true (by kernel_rfl)) (by unfold Func.isWrapper; first | (rw [if_pos (by decide +kernel)]; kernel_rfl) | (rw [if_neg (by decide +kernel)]; exact ⟨rfl, rfl⟩))
    (fun os started H enc _ => lifted_IntentLimits os started H enc)

/-- The tied card. -/
theorem intentLimits_holds : Rows.IntentLimitsCardSaid :=
  Claim7.holds_tied_plain_at .later [] [.data, .data] true (true, "470d10cd1933b1a46a68e6e84f3bc12684a6d4ce32c1f38a0bbc4ddcbe619c19") false
    intentLimits_row (fun _ h => by cases h) (by kernel_rfl) (fun _ h => by cases h) intentLimits_row_tie rfl ⟨rfl, rfl⟩ (by kernel_rfl) rfl
    (fun f fn hf hfn => by
      obtain rfl : f = 5 := Option.some.inj ((show Tryd.prog.funcNamed "cofferdam/cofferdamlaw15.IntentLimits" = some 5 by kernel_rfl).symm.trans hf) |>.symm
      obtain rfl : fn = Tryd.f5 := (Option.some.inj (Tryd.func5.symm.trans hfn)).symm
      exact ⟨by kernel_rfl, fun j t ht => by
        rw [Tryd.params5] at ht
        have hm : t ∈ [3, 3, 3] := by simpa using Array.mem_of_getElem? ht
        have hall : ([3, 3, 3].all fun u => !Tryd.prog.wantsStandIn u) = true := by kernel_rfl
        exact (show Tryd.prog.wantsStandIn t = false by simpa using List.all_eq_true.1 hall t hm)⟩)
    (by kernel_rfl)

#print axioms intentLimits_holds
end Go.Proofs.YtaennaoaoahjmaaDoor

/-
  The cells and the digest of every writes are the document's, or its error; so is the digest of none; the call returns true.
-/
import Derived.Test.YtaennaoaoahjmaaDoorRows
import Derived.Test.YtaennaoaoahjmaaDoorTie
import Derived.Test.YtaennaoaoahjmaaDoorCards
import Derived.SevenTiedAt
import Derived.Test.YtaennaoaoahjmaaDoorDetY
import Derived.Test.YtaennaoaoahjmaaDoorHJ
namespace Go.Proofs.YtaennaoaoahjmaaDoor
open Go.Det
set_option maxRecDepth 100000

theorem own_IntentPuts : ownKnob Tryd.prog.godebug = none := by kernel_rfl
theorem laid_IntentPuts : laidOutB Tryd.prog = true := by kernel_rfl
theorem plain_IntentPuts : (Rows.intentPutsRow.laid.all fun x => x.2.handleName?.isNone) = true := by kernel_rfl

theorem lifted_IntentPuts (os : Os) (started : os.Started) (H : Type) (enc : TypeId × Value → H) :
    ReturnsInHanded {} Tryd.checked os 6 .any (fun w args => (Rows.intentPutsSpec.pre enc Tryd.prog Tryd.f6 Rows.intentPutsRow.domain false w args ∧ laidMetH Tryd.prog Rows.intentPutsRow.laid w) ∧ sizedMet enc Tryd.prog Tryd.f6 (OpenSpec.ofChange Rows.intentPutsSpec) false w args)
      (Rows.intentPutsSpec.post enc Tryd.prog Tryd.f6 false true false false) := by
  refine change_laid (C := Tryd.checked) (X := fun w => laidMetH Tryd.prog Rows.intentPutsRow.laid w) (fun _ _ hh h => h.of_heap hh) own_IntentPuts started (by kernel_rfl) Tryd.func6
    (ChangeSpec.witness_shaped (enc := enc) (C := Tryd.checked) (os := os) (X := fun w _ => laidMetH Tryd.prog Rows.intentPutsRow.laid w) false (World.laidAll Tryd.prog os Rows.intentPutsRow.laid) #[.slice none 0 0] 8 (World.laidAll_os _ _ _)
      (World.shaped_of_ZipB (by kernel_rfl) (by kernel_rfl)) (by kernel_rfl) (by kernel_rfl) (by kernel_rfl)
      (by rw [MakeChecks.laidMetH_plain _ _ _ plain_IntentPuts]; exact laidMet_laidAll _ (by kernel_rfl) (by kernel_rfl))) ?_
  intro W base args ds gs before hval hW hsz hsh hL
  exact law_contract (C := Tryd.checked) (ys := [.sl writeTy]) comp laid_IntentPuts rfl (fun ds h => by
    match ds, h with
    | [d0], _ => rfl) (by kernel_rfl) (by kernel_rfl) rfl (by rfl) ev_IntentPuts W
    (globs_laid Rows.intentPutsRow.laid G4 hsh (by kernel_rfl : hasRows Tryd.prog = true) hL plain_IntentPuts (by kernel_rfl) (by kernel_rfl)) base args ds gs before hval hW hsz

/-- The row. -/
theorem intentPuts_row : Rows.IntentPutsSaid :=
  OpenClaim.holds_of_wide 6 Tryd.f6 rfl rfl rfl rfl rfl rfl rfl ⟨rfl, rfl, rfl, rfl, rfl⟩ rfl rfl rfl rfl rfl (by kernel_rfl) Tryd.func6 (by kernel_rfl)
    (of_decide_eq_true (by kernel_rfl)) (by unfold Func.isWrapper; first | (rw [if_pos (by decide +kernel)]; kernel_rfl) | (rw [if_neg (by decide +kernel)]; exact ⟨rfl, rfl⟩))
    (fun os started H enc _ => lifted_IntentPuts os started H enc)

/-- The tied card. -/
theorem intentPuts_holds : Rows.IntentPutsCardSaid :=
  Claim7.holds_tied_plain_at .later [] [.data, .data, .data, .data] true (true, "470d10cd1933b1a46a68e6e84f3bc12684a6d4ce32c1f38a0bbc4ddcbe619c19") false
    intentPuts_row (fun _ h => by cases h) (by kernel_rfl) (fun _ h => by cases h) intentPuts_row_tie rfl ⟨rfl, rfl⟩ (by kernel_rfl) rfl
    (fun f fn hf hfn => by
      obtain rfl : f = 6 := Option.some.inj ((show Tryd.prog.funcNamed "cofferdam/cofferdamlaw15.IntentPuts" = some 6 by kernel_rfl).symm.trans hf) |>.symm
      obtain rfl : fn = Tryd.f6 := (Option.some.inj (Tryd.func6.symm.trans hfn)).symm
      exact ⟨by kernel_rfl, fun j t ht => by
        rw [Tryd.params6] at ht
        have hm : t ∈ [38] := by simpa using Array.mem_of_getElem? ht
        have hall : ([38].all fun u => !Tryd.prog.wantsStandIn u) = true := by kernel_rfl
        exact (show Tryd.prog.wantsStandIn t = false by simpa using List.all_eq_true.1 hall t hm)⟩)
    (by kernel_rfl)

#print axioms intentPuts_holds
end Go.Proofs.YtaennaoaoahjmaaDoor

/-
  What was logged is read back, whatever cells stand behind; fewer cells are refused; another digest is refused; the call returns true.
-/
import Derived.Test.YtaennaoaoahjmaaDoorRows
import Derived.Test.YtaennaoaoahjmaaDoorTie
import Derived.Test.YtaennaoaoahjmaaDoorCards
import Derived.SevenTiedAt
import Derived.Test.YtaennaoaoahjmaaDoorDetY
import Derived.Test.YtaennaoaoahjmaaDoorHO
namespace Go.Proofs.YtaennaoaoahjmaaDoor
open Go.Det
set_option maxRecDepth 100000

theorem own_IntentBack : ownKnob Tryd.prog.godebug = none := by kernel_rfl
theorem laid_IntentBack : laidOutB Tryd.prog = true := by kernel_rfl
theorem plain_IntentBack : (Rows.intentBackRow.laid.all fun x => x.2.handleName?.isNone) = true := by kernel_rfl

theorem lifted_IntentBack (os : Os) (started : os.Started) (H : Type) (enc : TypeId × Value → H) :
    ReturnsInHanded {} Tryd.checked os 4 .any (fun w args => (Rows.intentBackSpec.pre enc Tryd.prog Tryd.f4 Rows.intentBackRow.domain false w args ∧ laidMetH Tryd.prog Rows.intentBackRow.laid w) ∧ sizedMet enc Tryd.prog Tryd.f4 (OpenSpec.ofChange Rows.intentBackSpec) false w args)
      (Rows.intentBackSpec.post enc Tryd.prog Tryd.f4 false true false false) := by
  refine change_laid (C := Tryd.checked) (X := fun w => laidMetH Tryd.prog Rows.intentBackRow.laid w) (fun _ _ hh h => h.of_heap hh) own_IntentBack started (by kernel_rfl) Tryd.func4
    (ChangeSpec.witness_shaped (enc := enc) (C := Tryd.checked) (os := os) (X := fun w _ => laidMetH Tryd.prog Rows.intentBackRow.laid w) false (World.laidAll Tryd.prog os Rows.intentBackRow.laid) #[.slice none 0 0, .slice none 0 0, .string ByteArray.empty] 8 (World.laidAll_os _ _ _)
      (World.shaped_of_ZipB (by kernel_rfl) (by kernel_rfl)) (by kernel_rfl) (by kernel_rfl) (by kernel_rfl)
      (by rw [MakeChecks.laidMetH_plain _ _ _ plain_IntentBack]; exact laidMet_laidAll _ (by kernel_rfl) (by kernel_rfl))) ?_
  intro W base args ds gs before hval hW hsz hsh hL
  exact law_contract (C := Tryd.checked) (ys := [.sl writeTy, .sl .str, .str]) comp laid_IntentBack rfl (fun ds h => by
    match ds, h with
    | [d0, d1, d2], _ => rfl) (by kernel_rfl) (by kernel_rfl) rfl (by rfl) ev_IntentBack W
    (globs_laid Rows.intentBackRow.laid G2 hsh (by kernel_rfl : hasRows Tryd.prog = true) hL plain_IntentBack (by kernel_rfl) (by kernel_rfl)) base args ds gs before hval hW hsz

/-- The row. -/
theorem intentBack_row : Rows.IntentBackSaid :=
  OpenClaim.holds_of_wide 4 Tryd.f4 rfl rfl rfl rfl rfl rfl rfl ⟨rfl, rfl, rfl, rfl, rfl⟩ rfl rfl rfl rfl rfl (by kernel_rfl) Tryd.func4 (by kernel_rfl)
    (of_decide_eq_true (by kernel_rfl)) (by unfold Func.isWrapper; first | (rw [if_pos (by decide +kernel)]; kernel_rfl) | (rw [if_neg (by decide +kernel)]; exact ⟨rfl, rfl⟩))
    (fun os started H enc _ => lifted_IntentBack os started H enc)

/-- The tied card. -/
theorem intentBack_holds : Rows.IntentBackCardSaid :=
  Claim7.holds_tied_plain_at .later [] [.data, .data] true (true, "470d10cd1933b1a46a68e6e84f3bc12684a6d4ce32c1f38a0bbc4ddcbe619c19") false
    intentBack_row (fun _ h => by cases h) (by kernel_rfl) (fun _ h => by cases h) intentBack_row_tie rfl ⟨rfl, rfl⟩ (by kernel_rfl) rfl
    (fun f fn hf hfn => by
      obtain rfl : f = 4 := Option.some.inj ((show Tryd.prog.funcNamed "cofferdam/cofferdamlaw15.IntentBack" = some 4 by kernel_rfl).symm.trans hf) |>.symm
      obtain rfl : fn = Tryd.f4 := (Option.some.inj (Tryd.func4.symm.trans hfn)).symm
      exact ⟨by kernel_rfl, fun j t ht => by
        rw [Tryd.params4] at ht
        have hm : t ∈ [38, 22, 9] := by simpa using Array.mem_of_getElem? ht
        have hall : ([38, 22, 9].all fun u => !Tryd.prog.wantsStandIn u) = true := by kernel_rfl
        exact (show Tryd.prog.wantsStandIn t = false by simpa using List.all_eq_true.1 hall t hm)⟩)
    (by kernel_rfl)

#print axioms intentBack_holds
end Go.Proofs.YtaennaoaoahjmaaDoor

/-
  Digests have 32 bytes, and are the standard's, at every length about a block's end; the call returns true.
-/
import Derived.Test.YtjfdcfolinphnaaDoorRows
import Derived.Test.YtjfdcfolinphnaaDoorTie
import Derived.Test.YtjfdcfolinphnaaDoorCards
import Derived.SevenTiedAt
import Derived.Test.YtjfdcfolinphnaaDoorDetY
import Derived.Test.YtjfdcfolinphnaaDoorB
namespace Go.Proofs.YtjfdcfolinphnaaDoor
open Go.Det
set_option maxRecDepth 100000

theorem own_ShaLengths : ownKnob Tryd.prog.godebug = none := by kernel_rfl
theorem laid_ShaLengths : laidOutB Tryd.prog = true := by kernel_rfl
theorem plain_ShaLengths : (Rows.shaLengthsRow.laid.all fun x => x.2.handleName?.isNone) = true := by kernel_rfl

theorem lifted_ShaLengths (os : Os) (started : os.Started) (H : Type) (enc : TypeId × Value → H) :
    ReturnsInHanded {} Tryd.checked os 4 .any (fun w args => (Rows.shaLengthsSpec.pre enc Tryd.prog Tryd.f4 Rows.shaLengthsRow.domain false w args ∧ laidMetH Tryd.prog Rows.shaLengthsRow.laid w) ∧ sizedMet enc Tryd.prog Tryd.f4 (OpenSpec.ofChange Rows.shaLengthsSpec) false w args)
      (Rows.shaLengthsSpec.post enc Tryd.prog Tryd.f4 false true false false) := by
  refine change_laid (C := Tryd.checked) (X := fun w => laidMetH Tryd.prog Rows.shaLengthsRow.laid w) (fun _ _ hh h => h.of_heap hh) own_ShaLengths started (by kernel_rfl) Tryd.func4
    (ChangeSpec.witness_shaped (enc := enc) (C := Tryd.checked) (os := os) (X := fun w _ => laidMetH Tryd.prog Rows.shaLengthsRow.laid w) false (World.laidAll Tryd.prog os Rows.shaLengthsRow.laid) #[.string ByteArray.empty, .int .i64 0] 8 (World.laidAll_os _ _ _)
      (World.shaped_of_ZipB (by kernel_rfl) (by kernel_rfl)) (by kernel_rfl) (by kernel_rfl) (by kernel_rfl)
      (by rw [MakeChecks.laidMetH_plain _ _ _ plain_ShaLengths]; exact laidMet_laidAll _ (by kernel_rfl) (by kernel_rfl))) ?_
  intro W base args ds gs before hval hW hsz hsh hL
  exact law_contract (C := Tryd.checked) (ys := [.str, .int .i64]) comp laid_ShaLengths rfl (fun ds h => by
    match ds, h with
    | [d0, d1], _ => rfl) (by kernel_rfl) (by kernel_rfl) rfl (by rfl) ev_ShaLengths W
    (globs_laid Rows.shaLengthsRow.laid G4 hsh (by kernel_rfl : hasRows Tryd.prog = true) hL plain_ShaLengths (by kernel_rfl) (by kernel_rfl)) base args ds gs before hval hW hsz

/-- The row. -/
theorem shaLengths_row : Rows.ShaLengthsSaid :=
  OpenClaim.holds_of_wide 4 Tryd.f4 rfl rfl rfl rfl rfl rfl rfl ⟨rfl, rfl, rfl, rfl, rfl⟩ rfl rfl rfl rfl rfl (by kernel_rfl) Tryd.func4 (by kernel_rfl)
    (of_decide_eq_true (by kernel_rfl)) (by unfold Func.isWrapper; first | (rw [if_pos (by decide +kernel)]; kernel_rfl) | (rw [if_neg (by decide +kernel)]; exact ⟨rfl, rfl⟩))
    (fun os started H enc _ => lifted_ShaLengths os started H enc)

/-- The tied card. -/
theorem shaLengths_holds : Rows.ShaLengthsCardSaid :=
  Claim7.holds_tied_plain_at .later [] [.data, .data, .data, .data] true (true, "a9b6c5651c575f6b85ab47be9d6ed415a429a2328f9db856bfd8120bb194d8f8") false
    shaLengths_row (fun _ h => by cases h) (by kernel_rfl) (fun _ h => by cases h) shaLengths_row_tie rfl ⟨rfl, rfl⟩ (by kernel_rfl) rfl
    (fun f fn hf hfn => by
      obtain rfl : f = 4 := Option.some.inj ((show Tryd.prog.funcNamed "cofferdam/cofferdamlaw05.ShaLengths" = some 4 by kernel_rfl).symm.trans hf) |>.symm
      obtain rfl : fn = Tryd.f4 := (Option.some.inj (Tryd.func4.symm.trans hfn)).symm
      exact ⟨by kernel_rfl, fun j t ht => by
        rw [Tryd.params4] at ht
        have hm : t ∈ [9, 3] := by simpa using Array.mem_of_getElem? ht
        have hall : ([9, 3].all fun u => !Tryd.prog.wantsStandIn u) = true := by kernel_rfl
        exact (show Tryd.prog.wantsStandIn t = false by simpa using List.all_eq_true.1 hall t hm)⟩)
    (by kernel_rfl)

#print axioms shaLengths_holds
end Go.Proofs.YtjfdcfolinphnaaDoor

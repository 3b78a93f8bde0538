/-
  The digest of every text as a leaf, a node, a record is the document's; the call returns true.
-/
import Derived.Test.YtjfdcfolinphnaaDoorRows
import Derived.Test.YtjfdcfolinphnaaDoorTie
import Derived.Test.YtjfdcfolinphnaaDoorCards
import Derived.SevenTiedAt
import Derived.Test.YtjfdcfolinphnaaDoorDetY
import Derived.Test.YtjfdcfolinphnaaDoorB
namespace Go.Proofs.YtjfdcfolinphnaaDoor
open Go.Det
set_option maxRecDepth 100000

theorem own_ShaKinds : ownKnob Tryd.prog.godebug = none := by kernel_rfl
theorem laid_ShaKinds : laidOutB Tryd.prog = true := by kernel_rfl
theorem plain_ShaKinds : (Rows.shaKindsRow.laid.all fun x => x.2.handleName?.isNone) = true := by kernel_rfl

theorem lifted_ShaKinds (os : Os) (started : os.Started) (H : Type) (enc : TypeId × Value → H) :
    ReturnsInHanded {} Tryd.checked os 5 .any (fun w args => (Rows.shaKindsSpec.pre enc Tryd.prog Tryd.f5 Rows.shaKindsRow.domain false w args ∧ laidMetH Tryd.prog Rows.shaKindsRow.laid w) ∧ sizedMet enc Tryd.prog Tryd.f5 (OpenSpec.ofChange Rows.shaKindsSpec) false w args)
      (Rows.shaKindsSpec.post enc Tryd.prog Tryd.f5 false true false false) := by
  refine change_laid (C := Tryd.checked) (X := fun w => laidMetH Tryd.prog Rows.shaKindsRow.laid w) (fun _ _ hh h => h.of_heap hh) own_ShaKinds started (by kernel_rfl) Tryd.func5
    (ChangeSpec.witness_shaped (enc := enc) (C := Tryd.checked) (os := os) (X := fun w _ => laidMetH Tryd.prog Rows.shaKindsRow.laid w) false (World.laidAll Tryd.prog os Rows.shaKindsRow.laid) #[.string ByteArray.empty] 8 (World.laidAll_os _ _ _)
      (World.shaped_of_ZipB (by kernel_rfl) (by kernel_rfl)) (by kernel_rfl) (by kernel_rfl) (by kernel_rfl)
      (by rw [MakeChecks.laidMetH_plain _ _ _ plain_ShaKinds]; exact laidMet_laidAll _ (by kernel_rfl) (by kernel_rfl))) ?_
  intro W base args ds gs before hval hW hsz hsh hL
  exact law_contract (C := Tryd.checked) (ys := [.str]) comp laid_ShaKinds rfl (fun ds h => by
    match ds, h with
    | [d0], _ => rfl) (by kernel_rfl) (by kernel_rfl) rfl (by rfl) ev_ShaKinds W
    (globs_laid Rows.shaKindsRow.laid G4 hsh (by kernel_rfl : hasRows Tryd.prog = true) hL plain_ShaKinds (by kernel_rfl) (by kernel_rfl)) base args ds gs before hval hW hsz

/-- The row. -/
theorem shaKinds_row : Rows.ShaKindsSaid :=
  OpenClaim.holds_of_wide 5 Tryd.f5 rfl rfl rfl rfl rfl rfl rfl ⟨rfl, rfl, rfl, rfl, rfl⟩ rfl rfl rfl rfl rfl (by kernel_rfl) Tryd.func5 (by kernel_rfl)
    (of_decide_eq_true (by kernel_rfl)) (by unfold Func.isWrapper; first | (rw [if_pos (by decide +kernel)]; kernel_rfl) | (rw [if_neg (by decide +kernel)]; exact ⟨rfl, rfl⟩))
    (fun os started H enc _ => lifted_ShaKinds os started H enc)

/-- The tied card. -/
theorem shaKinds_holds : Rows.ShaKindsCardSaid :=
  Claim7.holds_tied_plain_at .later [] [.data, .data, .data, .data] true (true, "a9b6c5651c575f6b85ab47be9d6ed415a429a2328f9db856bfd8120bb194d8f8") false
    shaKinds_row (fun _ h => by cases h) (by kernel_rfl) (fun _ h => by cases h) shaKinds_row_tie rfl ⟨rfl, rfl⟩ (by kernel_rfl) rfl
    (fun f fn hf hfn => by
      obtain rfl : f = 5 := Option.some.inj ((show Tryd.prog.funcNamed "cofferdam/cofferdamlaw05.ShaKinds" = some 5 by kernel_rfl).symm.trans hf) |>.symm
      obtain rfl : fn = Tryd.f5 := (Option.some.inj (Tryd.func5.symm.trans hfn)).symm
      exact ⟨by kernel_rfl, fun j t ht => by
        rw [Tryd.params5] at ht
        have hm : t ∈ [9] := by simpa using Array.mem_of_getElem? ht
        have hall : ([9].all fun u => !Tryd.prog.wantsStandIn u) = true := by kernel_rfl
        exact (show Tryd.prog.wantsStandIn t = false by simpa using List.all_eq_true.1 hall t hm)⟩)
    (by kernel_rfl)

#print axioms shaKinds_holds
end Go.Proofs.YtjfdcfolinphnaaDoor

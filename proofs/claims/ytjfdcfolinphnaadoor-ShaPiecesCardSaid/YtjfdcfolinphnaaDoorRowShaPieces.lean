/-
  In whatever pieces a text comes, its digest is the same, and so is each beginning's on the way; the call returns true.
-/
import Derived.Test.YtjfdcfolinphnaaDoorRows
import Derived.Test.YtjfdcfolinphnaaDoorTie
import Derived.Test.YtjfdcfolinphnaaDoorCards
import Derived.SevenTiedAt
import Derived.Test.YtjfdcfolinphnaaDoorDetY
import Derived.Test.YtjfdcfolinphnaaDoorE
namespace Go.Proofs.YtjfdcfolinphnaaDoor
open Go.Det
set_option maxRecDepth 100000

theorem own_ShaPieces : ownKnob Tryd.prog.godebug = none := by kernel_rfl
theorem laid_ShaPieces : laidOutB Tryd.prog = true := by kernel_rfl
theorem plain_ShaPieces : (Rows.shaPiecesRow.laid.all fun x => x.2.handleName?.isNone) = true := by kernel_rfl

theorem lifted_ShaPieces (os : Os) (started : os.Started) (H : Type) (enc : TypeId × Value → H) :
    ReturnsInHanded {} Tryd.checked os 6 .any (fun w args => (Rows.shaPiecesSpec.pre enc Tryd.prog Tryd.f6 Rows.shaPiecesRow.domain false w args ∧ laidMetH Tryd.prog Rows.shaPiecesRow.laid w) ∧ sizedMet enc Tryd.prog Tryd.f6 (OpenSpec.ofChange Rows.shaPiecesSpec) false w args)
      (Rows.shaPiecesSpec.post enc Tryd.prog Tryd.f6 false true false false) := by
  refine change_laid (C := Tryd.checked) (X := fun w => laidMetH Tryd.prog Rows.shaPiecesRow.laid w) (fun _ _ hh h => h.of_heap hh) own_ShaPieces started (by kernel_rfl) Tryd.func6
    (ChangeSpec.witness_shaped (enc := enc) (C := Tryd.checked) (os := os) (X := fun w _ => laidMetH Tryd.prog Rows.shaPiecesRow.laid w) false (World.laidAll Tryd.prog os Rows.shaPiecesRow.laid) #[.string ByteArray.empty, .slice none 0 0] 8 (World.laidAll_os _ _ _)
      (World.shaped_of_ZipB (by kernel_rfl) (by kernel_rfl)) (by kernel_rfl) (by kernel_rfl) (by kernel_rfl)
      (by rw [MakeChecks.laidMetH_plain _ _ _ plain_ShaPieces]; exact laidMet_laidAll _ (by kernel_rfl) (by kernel_rfl))) ?_
  intro W base args ds gs before hval hW hsz hsh hL
  exact law_contract (C := Tryd.checked) (ys := [.str, .sl (.int .i64)]) comp laid_ShaPieces rfl (fun ds h => by
    match ds, h with
    | [d0, d1], _ => rfl) (by kernel_rfl) (by kernel_rfl) rfl (by rfl) ev_ShaPieces W
    (globs_laid Rows.shaPiecesRow.laid G2 hsh (by kernel_rfl : hasRows Tryd.prog = true) hL plain_ShaPieces (by kernel_rfl) (by kernel_rfl)) base args ds gs before hval hW hsz

/-- The row. -/
theorem shaPieces_row : Rows.ShaPiecesSaid :=
  OpenClaim.holds_of_wide 6 Tryd.f6 rfl rfl rfl rfl rfl rfl rfl ⟨rfl, rfl, rfl, rfl, rfl⟩ rfl rfl rfl rfl rfl (by kernel_rfl) Tryd.func6 (by kernel_rfl)
    (of_decide_eq_true (by kernel_rfl)) (by unfold Func.isWrapper; first | (rw [if_pos (by decide +kernel)]; kernel_rfl) | (rw [if_neg (by decide +kernel)]; exact ⟨rfl, rfl⟩))
    (fun os started H enc _ => lifted_ShaPieces os started H enc)

/-- The tied card. -/
theorem shaPieces_holds : Rows.ShaPiecesCardSaid :=
  Claim7.holds_tied_plain_at .later [] [.data, .data] true (true, "a9b6c5651c575f6b85ab47be9d6ed415a429a2328f9db856bfd8120bb194d8f8") false
    shaPieces_row (fun _ h => by cases h) (by kernel_rfl) (fun _ h => by cases h) shaPieces_row_tie rfl ⟨rfl, rfl⟩ (by kernel_rfl) rfl
    (fun f fn hf hfn => by
      obtain rfl : f = 6 := Option.some.inj ((show Tryd.prog.funcNamed "cofferdam/cofferdamlaw05.ShaPieces" = some 6 by kernel_rfl).symm.trans hf) |>.symm
      obtain rfl : fn = Tryd.f6 := (Option.some.inj (Tryd.func6.symm.trans hfn)).symm
      exact ⟨by kernel_rfl, fun j t ht => by
        rw [Tryd.params6] at ht
        have hm : t ∈ [9, 28] := by simpa using Array.mem_of_getElem? ht
        have hall : ([9, 28].all fun u => !Tryd.prog.wantsStandIn u) = true := by kernel_rfl
        exact (show Tryd.prog.wantsStandIn t = false by simpa using List.all_eq_true.1 hall t hm)⟩)
    (by kernel_rfl)

#print axioms shaPieces_holds
end Go.Proofs.YtjfdcfolinphnaaDoor

/-
  Two digests under way have nothing to do with one another, and each kind is the digest of its byte and the text; the call returns true.
-/
import Derived.Test.YtjfdcfolinphnaaDoorRows
import Derived.Test.YtjfdcfolinphnaaDoorTie
import Derived.Test.YtjfdcfolinphnaaDoorCards
import Derived.SevenTiedAt
import Derived.Test.YtjfdcfolinphnaaDoorDetY
import Derived.Test.YtjfdcfolinphnaaDoorD
namespace Go.Proofs.YtjfdcfolinphnaaDoor
open Go.Det
set_option maxRecDepth 100000

theorem own_ShaApart : ownKnob Tryd.prog.godebug = none := by kernel_rfl
theorem laid_ShaApart : laidOutB Tryd.prog = true := by kernel_rfl
theorem plain_ShaApart : (Rows.shaApartRow.laid.all fun x => x.2.handleName?.isNone) = true := by kernel_rfl

theorem lifted_ShaApart (os : Os) (started : os.Started) (H : Type) (enc : TypeId × Value → H) :
    ReturnsInHanded {} Tryd.checked os 7 .any (fun w args => (Rows.shaApartSpec.pre enc Tryd.prog Tryd.f7 Rows.shaApartRow.domain false w args ∧ laidMetH Tryd.prog Rows.shaApartRow.laid w) ∧ sizedMet enc Tryd.prog Tryd.f7 (OpenSpec.ofChange Rows.shaApartSpec) false w args)
      (Rows.shaApartSpec.post enc Tryd.prog Tryd.f7 false true false false) := by
  refine change_laid (C := Tryd.checked) (X := fun w => laidMetH Tryd.prog Rows.shaApartRow.laid w) (fun _ _ hh h => h.of_heap hh) own_ShaApart started (by kernel_rfl) Tryd.func7
    (ChangeSpec.witness_shaped (enc := enc) (C := Tryd.checked) (os := os) (X := fun w _ => laidMetH Tryd.prog Rows.shaApartRow.laid w) false (World.laidAll Tryd.prog os Rows.shaApartRow.laid) #[.string ByteArray.empty, .string ByteArray.empty] 8 (World.laidAll_os _ _ _)
      (World.shaped_of_ZipB (by kernel_rfl) (by kernel_rfl)) (by kernel_rfl) (by kernel_rfl) (by kernel_rfl)
      (by rw [MakeChecks.laidMetH_plain _ _ _ plain_ShaApart]; exact laidMet_laidAll _ (by kernel_rfl) (by kernel_rfl))) ?_
  intro W base args ds gs before hval hW hsz hsh hL
  exact law_contract (C := Tryd.checked) (ys := [.str, .str]) comp laid_ShaApart rfl (fun ds h => by
    match ds, h with
    | [d0, d1], _ => rfl) (by kernel_rfl) (by kernel_rfl) rfl (by rfl) ev_ShaApart W
    (globs_laid Rows.shaApartRow.laid G2 hsh (by kernel_rfl : hasRows Tryd.prog = true) hL plain_ShaApart (by kernel_rfl) (by kernel_rfl)) base args ds gs before hval hW hsz

/-- The row. -/
theorem shaApart_row : Rows.ShaApartSaid :=
  OpenClaim.holds_of_wide 7 Tryd.f7 rfl rfl rfl rfl rfl rfl rfl ⟨rfl, rfl, rfl, rfl, rfl⟩ rfl rfl rfl rfl rfl (by kernel_rfl) Tryd.func7 (by kernel_rfl)
    (of_decide_eq_true (by kernel_rfl)) (by unfold Func.isWrapper; first | (rw [if_pos (by decide +kernel)]; kernel_rfl) | (rw [if_neg (by decide +kernel)]; exact ⟨rfl, rfl⟩))
    (fun os started H enc _ => lifted_ShaApart os started H enc)

/-- The tied card. -/
theorem shaApart_holds : Rows.ShaApartCardSaid :=
  Claim7.holds_tied_plain_at .later [] [.data, .data] true (true, "a9b6c5651c575f6b85ab47be9d6ed415a429a2328f9db856bfd8120bb194d8f8") false
    shaApart_row (fun _ h => by cases h) (by kernel_rfl) (fun _ h => by cases h) shaApart_row_tie rfl ⟨rfl, rfl⟩ (by kernel_rfl) rfl
    (fun f fn hf hfn => by
      obtain rfl : f = 7 := Option.some.inj ((show Tryd.prog.funcNamed "cofferdam/cofferdamlaw05.ShaApart" = some 7 by kernel_rfl).symm.trans hf) |>.symm
      obtain rfl : fn = Tryd.f7 := (Option.some.inj (Tryd.func7.symm.trans hfn)).symm
      exact ⟨by kernel_rfl, fun j t ht => by
        rw [Tryd.params7] at ht
        have hm : t ∈ [9, 9] := by simpa using Array.mem_of_getElem? ht
        have hall : ([9, 9].all fun u => !Tryd.prog.wantsStandIn u) = true := by kernel_rfl
        exact (show Tryd.prog.wantsStandIn t = false by simpa using List.all_eq_true.1 hall t hm)⟩)
    (by kernel_rfl)

#print axioms shaApart_holds
end Go.Proofs.YtjfdcfolinphnaaDoor

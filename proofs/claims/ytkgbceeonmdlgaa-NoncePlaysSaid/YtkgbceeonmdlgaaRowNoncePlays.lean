/-
  Every source, from every number on, tells the document's numbers, or its error; the call returns true.
-/
import Derived.Test.YtkgbceeonmdlgaaRows
import Derived.Test.YtkgbceeonmdlgaaDetS
import Derived.HandedShaped
import Derived.Test.YtkgbceeonmdlgaaS
namespace Go.Proofs.Ytkgbceeonmdlgaa
open Go.Det
set_option maxRecDepth 100000

theorem own_NoncePlays : ownKnob Try.prog.godebug = none := by kernel_rfl
theorem laid_NoncePlays : laidOutB Try.prog = true := by kernel_rfl

theorem lifted_NoncePlays (os : Os) (started : os.Started) (H : Type) (enc : TypeId × Value → H) :
    ReturnsInHanded {} Try.checked os 3 .any (Rows.noncePlaysSpec.pre6 enc Try.prog Try.f3 Rows.noncePlaysRow.domain false) (Rows.noncePlaysSpec.post enc Try.prog Try.f3 false true false false) := by
  refine returnsInHanded_of_change_shaped (C := Try.checked) own_NoncePlays started (by kernel_rfl) Try.func3
    (ChangeSpec.witness6 (enc := enc) (C := Try.checked) false ⟨#[], #[.int .u64 0, .int .u64 0, .int .i64 0], []⟩ 8 (by kernel_rfl) (by kernel_rfl) (by kernel_rfl) (by kernel_rfl)) ?_
  intro W base args ds gs before hval hW _ hsz hsh _
  exact law_contract (C := Try.checked) (ys := [.int .u64, .int .u64, .int .i64]) comp laid_NoncePlays rfl (fun ds h => by
    match ds, h with
    | [d0, d1, d2], _ => rfl) (by kernel_rfl) (by kernel_rfl) rfl (by rfl) ev_NoncePlays W (globs_none rfl W) base args ds gs before hval hW hsz

/-- The row. -/
theorem noncePlays_holds : Rows.NoncePlaysSaid :=
  OpenClaim.holds_of_wide 3 Try.f3 rfl rfl rfl rfl rfl rfl rfl ⟨rfl, rfl, rfl, rfl, rfl⟩ rfl rfl rfl rfl rfl (by kernel_rfl) Try.func3 (by kernel_rfl)
    (of_decide_eq_true (by kernel_rfl)) (by unfold Func.isWrapper; first | (rw [if_pos (by decide +kernel)]; kernel_rfl) | (rw [if_neg (by decide +kernel)]; exact ⟨rfl, rfl⟩))
    (fun os started H enc _ => lifted_NoncePlays os started H enc)

#print axioms noncePlays_holds
end Go.Proofs.Ytkgbceeonmdlgaa

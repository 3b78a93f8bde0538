/-
  Numbers at the ends of what the accumulator may be have the standard's tag; the call returns true.
-/
import Derived.Test.YtpaagjjgmlmngaaRows
import Derived.Test.YtpaagjjgmlmngaaDetS
import Derived.HandedShaped
import Derived.Test.YtpaagjjgmlmngaaF
namespace Go.Proofs.Ytpaagjjgmlmngaa
open Go.Det
set_option maxRecDepth 100000

theorem own_PolyEnds : ownKnob Try.prog.godebug = none := by kernel_rfl
theorem laid_PolyEnds : laidOutB Try.prog = true := by kernel_rfl

theorem lifted_PolyEnds (os : Os) (started : os.Started) (H : Type) (enc : TypeId × Value → H) :
    ReturnsInHanded {} Try.checked os 6 .any (Rows.polyEndsSpec.pre6 enc Try.prog Try.f6 Rows.polyEndsRow.domain false) (Rows.polyEndsSpec.post enc Try.prog Try.f6 false true false false) := by
  refine returnsInHanded_of_change_shaped (C := Try.checked) own_PolyEnds started (by kernel_rfl) Try.func6
    (ChangeSpec.witness6 (enc := enc) (C := Try.checked) false ⟨#[], #[.agg #[.int .u8 0, .int .u8 0, .int .u8 0, .int .u8 0, .int .u8 0, .int .u8 0, .int .u8 0, .int .u8 0, .int .u8 0, .int .u8 0, .int .u8 0, .int .u8 0, .int .u8 0, .int .u8 0, .int .u8 0, .int .u8 0, .int .u8 0, .int .u8 0, .int .u8 0, .int .u8 0, .int .u8 0, .int .u8 0, .int .u8 0, .int .u8 0, .int .u8 0, .int .u8 0, .int .u8 0, .int .u8 0, .int .u8 0, .int .u8 0, .int .u8 0, .int .u8 0], .int .i64 0, .int .u8 0], []⟩ 8 (by kernel_rfl) (by kernel_rfl) (by kernel_rfl) (by kernel_rfl)) ?_
  intro W base args ds gs before hval hW _ hsz hsh _
  exact law_contract (C := Try.checked) (ys := [.arr 32 (.int .u8), .int .i64, .int .u8]) comp laid_PolyEnds rfl (fun ds h => by
    match ds, h with
    | [d0, d1, d2], _ => rfl) (by kernel_rfl) (by kernel_rfl) rfl (by rfl) ev_PolyEnds W (globs_shaped hsh (by kernel_rfl : hasRows Try.prog = true)) base args ds gs before hval hW hsz

/-- The row. -/
theorem polyEnds_holds : Rows.PolyEndsSaid :=
  OpenClaim.holds_of_wide 6 Try.f6 rfl rfl rfl rfl rfl rfl rfl ⟨rfl, rfl, rfl, rfl, rfl⟩ rfl rfl rfl rfl rfl (by kernel_rfl) Try.func6 (by kernel_rfl)
    (of_decide_eq_true (by kernel_rfl)) (by unfold Func.isWrapper; first | (rw [if_pos (by decide +kernel)]; kernel_rfl) | (rw [if_neg (by decide +kernel)]; exact ⟨rfl, rfl⟩))
    (fun os started H enc _ => lifted_PolyEnds os started H enc)

#print axioms polyEnds_holds
end Go.Proofs.Ytpaagjjgmlmngaa

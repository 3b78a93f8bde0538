/-
  A text's parts of whole blocks may be combined one by one, each from its own counter on; the call returns true.
-/
import Derived.Test.YtemjbimaghdokaaRows
import Derived.Test.YtemjbimaghdokaaDetS
import Derived.HandedShaped
import Derived.Test.YtemjbimaghdokaaC
namespace Go.Proofs.Ytemjbimaghdokaa
open Go.Det
set_option maxRecDepth 100000

theorem own_ChachaParts : ownKnob Try.prog.godebug = none := by kernel_rfl
theorem laid_ChachaParts : laidOutB Try.prog = true := by kernel_rfl

theorem lifted_ChachaParts (os : Os) (started : os.Started) (H : Type) (enc : TypeId × Value → H) :
    ReturnsInHanded {} Try.checked os 7 .any (Rows.chachaPartsSpec.pre6 enc Try.prog Try.f7 Rows.chachaPartsRow.domain false) (Rows.chachaPartsSpec.post enc Try.prog Try.f7 false true false false) := by
  refine returnsInHanded_of_change_shaped (C := Try.checked) own_ChachaParts started (by kernel_rfl) Try.func7
    (ChangeSpec.witness6 (enc := enc) (C := Try.checked) false ⟨#[], #[.agg #[.int .u8 0, .int .u8 0, .int .u8 0, .int .u8 0, .int .u8 0, .int .u8 0, .int .u8 0, .int .u8 0, .int .u8 0, .int .u8 0, .int .u8 0, .int .u8 0, .int .u8 0, .int .u8 0, .int .u8 0, .int .u8 0, .int .u8 0, .int .u8 0, .int .u8 0, .int .u8 0, .int .u8 0, .int .u8 0, .int .u8 0, .int .u8 0, .int .u8 0, .int .u8 0, .int .u8 0, .int .u8 0, .int .u8 0, .int .u8 0, .int .u8 0, .int .u8 0, .int .u8 0, .int .u8 0, .int .u8 0, .int .u8 0, .int .u8 0, .int .u8 0, .int .u8 0, .int .u8 0, .int .u8 0, .int .u8 0, .int .u8 0, .int .u8 0, .int .i64 0], .int .u32 0, .string ByteArray.empty], []⟩ 8 (by kernel_rfl) (by kernel_rfl) (by kernel_rfl) (by kernel_rfl)) ?_
  intro W base args ds gs before hval hW _ hsz hsh _
  exact law_contract (C := Try.checked) (ys := [.st [.arr 32 (.int .u8), .arr 12 (.int .u8), .int .i64], .int .u32, .str]) comp laid_ChachaParts rfl (fun ds h => by
    match ds, h with
    | [d0, d1, d2], _ => rfl) (by kernel_rfl) (by kernel_rfl) rfl (by rfl) ev_ChachaParts W (globs_none rfl W) base args ds gs before hval hW hsz

/-- The row. -/
theorem chachaParts_holds : Rows.ChachaPartsSaid :=
  OpenClaim.holds_of_wide 7 Try.f7 rfl rfl rfl rfl rfl rfl rfl ⟨rfl, rfl, rfl, rfl, rfl⟩ rfl rfl rfl rfl rfl (by kernel_rfl) Try.func7 (by kernel_rfl)
    (of_decide_eq_true (by kernel_rfl)) (by unfold Func.isWrapper; first | (rw [if_pos (by decide +kernel)]; kernel_rfl) | (rw [if_neg (by decide +kernel)]; exact ⟨rfl, rfl⟩))
    (fun os started H enc _ => lifted_ChachaParts os started H enc)

#print axioms chachaParts_holds
end Go.Proofs.Ytemjbimaghdokaa

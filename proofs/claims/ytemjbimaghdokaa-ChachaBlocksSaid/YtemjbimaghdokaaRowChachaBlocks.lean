/-
  The key stream of every key, nonce and counter is the standard's, or the document's error; the call returns true.
-/
import Derived.Test.YtemjbimaghdokaaRows
import Derived.Test.YtemjbimaghdokaaDetS
import Derived.HandedShaped
import Derived.Test.YtemjbimaghdokaaB
namespace Go.Proofs.Ytemjbimaghdokaa
open Go.Det
set_option maxRecDepth 100000

theorem own_ChachaBlocks : ownKnob Try.prog.godebug = none := by kernel_rfl
theorem laid_ChachaBlocks : laidOutB Try.prog = true := by kernel_rfl

theorem lifted_ChachaBlocks (os : Os) (started : os.Started) (H : Type) (enc : TypeId × Value → H) :
    ReturnsInHanded {} Try.checked os 4 .any (Rows.chachaBlocksSpec.pre6 enc Try.prog Try.f4 Rows.chachaBlocksRow.domain false) (Rows.chachaBlocksSpec.post enc Try.prog Try.f4 false true false false) := by
  refine returnsInHanded_of_change_shaped (C := Try.checked) own_ChachaBlocks started (by kernel_rfl) Try.func4
    (ChangeSpec.witness6 (enc := enc) (C := Try.checked) false ⟨#[], #[.agg #[.int .u8 0, .int .u8 0, .int .u8 0, .int .u8 0, .int .u8 0, .int .u8 0, .int .u8 0, .int .u8 0, .int .u8 0, .int .u8 0, .int .u8 0, .int .u8 0, .int .u8 0, .int .u8 0, .int .u8 0, .int .u8 0, .int .u8 0, .int .u8 0, .int .u8 0, .int .u8 0, .int .u8 0, .int .u8 0, .int .u8 0, .int .u8 0, .int .u8 0, .int .u8 0, .int .u8 0, .int .u8 0, .int .u8 0, .int .u8 0, .int .u8 0, .int .u8 0, .int .u8 0, .int .u8 0, .int .u8 0, .int .u8 0, .int .u8 0, .int .u8 0, .int .u8 0, .int .u8 0, .int .u8 0, .int .u8 0, .int .u8 0, .int .u8 0, .int .i64 0], .int .u32 0, .string ByteArray.empty], []⟩ 8 (by kernel_rfl) (by kernel_rfl) (by kernel_rfl) (by kernel_rfl)) ?_
  intro W base args ds gs before hval hW _ hsz hsh _
  exact law_contract (C := Try.checked) (ys := [.st [.arr 32 (.int .u8), .arr 12 (.int .u8), .int .i64], .int .u32, .str]) comp laid_ChachaBlocks rfl (fun ds h => by
    match ds, h with
    | [d0, d1, d2], _ => rfl) (by kernel_rfl) (by kernel_rfl) rfl (by rfl) ev_ChachaBlocks W (globs_none rfl W) base args ds gs before hval hW hsz

/-- The row. -/
theorem chachaBlocks_holds : Rows.ChachaBlocksSaid :=
  OpenClaim.holds_of_wide 4 Try.f4 rfl rfl rfl rfl rfl rfl rfl ⟨rfl, rfl, rfl, rfl, rfl⟩ rfl rfl rfl rfl rfl (by kernel_rfl) Try.func4 (by kernel_rfl)
    (of_decide_eq_true (by kernel_rfl)) (by unfold Func.isWrapper; first | (rw [if_pos (by decide +kernel)]; kernel_rfl) | (rw [if_neg (by decide +kernel)]; exact ⟨rfl, rfl⟩))
    (fun os started H enc _ => lifted_ChachaBlocks os started H enc)

#print axioms chachaBlocks_holds
end Go.Proofs.Ytemjbimaghdokaa

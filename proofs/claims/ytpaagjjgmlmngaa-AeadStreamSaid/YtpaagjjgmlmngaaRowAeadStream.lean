/-
  What two plain texts of one length differ in, their sealed bytes differ in, under one key and nonce; the call returns true.
-/
import Derived.Test.YtpaagjjgmlmngaaRows
import Derived.Test.YtpaagjjgmlmngaaDetS
import Derived.HandedShaped
import Derived.Test.YtpaagjjgmlmngaaM
namespace Go.Proofs.Ytpaagjjgmlmngaa
open Go.Det
set_option maxRecDepth 100000

theorem own_AeadStream : ownKnob Try.prog.godebug = none := by kernel_rfl
theorem laid_AeadStream : laidOutB Try.prog = true := by kernel_rfl

theorem lifted_AeadStream (os : Os) (started : os.Started) (H : Type) (enc : TypeId × Value → H) :
    ReturnsInHanded {} Try.checked os 13 .any (Rows.aeadStreamSpec.pre6 enc Try.prog Try.f13 Rows.aeadStreamRow.domain false) (Rows.aeadStreamSpec.post enc Try.prog Try.f13 false true false false) := by
  refine returnsInHanded_of_change_shaped (C := Try.checked) own_AeadStream started (by kernel_rfl) Try.func13
    (ChangeSpec.witness6 (enc := enc) (C := Try.checked) false ⟨#[], #[.agg #[.int .u8 0, .int .u8 0, .int .u8 0, .int .u8 0, .int .u8 0, .int .u8 0, .int .u8 0, .int .u8 0, .int .u8 0, .int .u8 0, .int .u8 0, .int .u8 0, .int .u8 0, .int .u8 0, .int .u8 0, .int .u8 0, .int .u8 0, .int .u8 0, .int .u8 0, .int .u8 0, .int .u8 0, .int .u8 0, .int .u8 0, .int .u8 0, .int .u8 0, .int .u8 0, .int .u8 0, .int .u8 0, .int .u8 0, .int .u8 0, .int .u8 0, .int .u8 0, .int .u8 0, .int .u8 0, .int .u8 0, .int .u8 0, .int .u8 0, .int .u8 0, .int .u8 0, .int .u8 0, .int .u8 0, .int .u8 0, .int .u8 0, .int .u8 0, .int .u8 0, .int .u8 0], .string ByteArray.empty, .string ByteArray.empty], []⟩ 8 (by kernel_rfl) (by kernel_rfl) (by kernel_rfl) (by kernel_rfl)) ?_
  intro W base args ds gs before hval hW _ hsz hsh _
  exact law_contract (C := Try.checked) (ys := [.st [.arr 32 (.int .u8), .arr 12 (.int .u8), .arr 2 (.int .u8)], .str, .str]) comp laid_AeadStream rfl (fun ds h => by
    match ds, h with
    | [d0, d1, d2], _ => rfl) (by kernel_rfl) (by kernel_rfl) rfl (by rfl) ev_AeadStream W (globs_shaped hsh (by kernel_rfl : hasRows Try.prog = true)) base args ds gs before hval hW hsz

/-- The row. -/
theorem aeadStream_holds : Rows.AeadStreamSaid :=
  OpenClaim.holds_of_wide 13 Try.f13 rfl rfl rfl rfl rfl rfl rfl ⟨rfl, rfl, rfl, rfl, rfl⟩ rfl rfl rfl rfl rfl (by kernel_rfl) Try.func13 (by kernel_rfl)
    (of_decide_eq_true (by kernel_rfl)) (by unfold Func.isWrapper; first | (rw [if_pos (by decide +kernel)]; kernel_rfl) | (rw [if_neg (by decide +kernel)]; exact ⟨rfl, rfl⟩))
    (fun os started H enc _ => lifted_AeadStream os started H enc)

#print axioms aeadStream_holds
end Go.Proofs.Ytpaagjjgmlmngaa

/-
  A text combined with another one twice is as it was, in whichever order, for every three texts; the call returns true.
-/
import Derived.Test.YtjaloajnlpepcaaRows
import Derived.Test.YtjaloajnlpepcaaDetS
import Derived.Test.YtjaloajnlpepcaaRing
namespace Go.Proofs.Ytjaloajnlpepcaa
open Go.Det
set_option maxRecDepth 100000

theorem own_WordsRing : ownKnob Try.prog.godebug = none := by kernel_rfl
theorem laid_WordsRing : laidOutB Try.prog = true := by kernel_rfl

theorem lifted_WordsRing (os : Os) (started : os.Started) (H : Type) (enc : TypeId × Value → H) :
    ReturnsInHanded {} Try.checked os 4 .any (Rows.wordsRingSpec.pre6 enc Try.prog Try.f4 Rows.wordsRingRow.domain false) (Rows.wordsRingSpec.post enc Try.prog Try.f4 false true false false) := by
  refine returnsInHanded_of_change_sized (C := Try.checked) own_WordsRing started (by kernel_rfl) Try.func4
    (ChangeSpec.witness6 (enc := enc) (C := Try.checked) false ⟨#[], #[.string ByteArray.empty, .string ByteArray.empty, .string ByteArray.empty], []⟩ 8 (by kernel_rfl) (by kernel_rfl) (by kernel_rfl) (by kernel_rfl)) ?_
  intro W base args ds gs before hval hW _ _ _
  exact law_contract (C := Try.checked) (ys := [.str, .str, .str]) comp rfl laid_WordsRing rfl (fun ds h => by
    match ds, h with
    | [d0, d1, d2], _ => rfl) (by kernel_rfl) (by kernel_rfl) rfl (by rfl) ev_WordsRing W base args ds gs before hval hW

/-- The row. -/
theorem wordsRing_holds : Rows.WordsRingSaid :=
  OpenClaim.holds_of_wide 4 Try.f4 rfl rfl rfl rfl rfl rfl rfl ⟨rfl, rfl, rfl, rfl, rfl⟩ rfl rfl rfl rfl rfl (by kernel_rfl) Try.func4 (by kernel_rfl)
    (of_decide_eq_true (by kernel_rfl)) (by unfold Func.isWrapper; first | (rw [if_pos (by decide +kernel)]; kernel_rfl) | (rw [if_neg (by decide +kernel)]; exact ⟨rfl, rfl⟩))
    (fun os started H enc _ => lifted_WordsRing os started H enc)

#print axioms wordsRing_holds
end Go.Proofs.Ytjaloajnlpepcaa

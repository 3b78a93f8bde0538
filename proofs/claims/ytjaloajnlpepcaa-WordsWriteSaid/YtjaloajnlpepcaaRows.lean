/-
  No cell of these rows narrows 'for every input' (looked for: loops, veiled, ifaces, maps, wideKeys, modest, calm, conditions, laid).
  DERIVED. THE GIVEN ROWS OF THIS SEAT. 7 by the template 'for every input the law returns true; each argument reads behind the call as it read before'; 0 by the template 'total and deterministic' (their statements: YtjaloajnlpepcaaTotals.lean).
  GIVEN WITH THE SEED: the statements are not yours to turn. If you find one false, say at which input.
  Laid BY PROGRAM, IN A SANDBOX (cutbox-rows.mjs): the forced cells as the released guide's own fill.sh prints them over the translation e65876a56b1a251c… (all of the seat's roots in one cut). By AI agents, Wed Nov 11 2026. No macro, syntax, notation, axiom, sorry.
-/
import Derived.Test.YtjaloajnlpepcaaChecked
import GoSem.Claim
import GoSem.ClaimJoined
import GoSem.ClaimMapViews
import Derived.JoinedTies
import Derived.KernelRfl
namespace Go.Proofs.Ytjaloajnlpepcaa
/- THE CELL 'sum', in the pinned program and in every row, IS THE sha256 OF THE DUMP (.gsa) THAT YtjaloajnlpepcaaProg.lean LOADS. Nothing in Lean hashes anything: it is a label: what it is worth is what the hold of that sum in a sandbox is worth. -/
noncomputable def Try.pinned : Pinned := { name := "ytjaloajnlpepcaa", sum := "e65876a56b1a251ca52e4b5c2693d99b355668713649b5e1bc289eff48b3deea", checked := Try.checked }
namespace Rows
def none {H : Type} : Left H := { results := [], args := [] }

/-- 'cofferdamlaw01.WordsXor': WHATEVER THE INPUT: true; the input reads as it did. -/
def wordsXorSpec : ChangeSpec := { name := "wordsXor", fn := fun _ => fun
  | [d1, d2] => { results := [.lit (.bool true)], args := [d1, d2] }
  | _ => none }
def wordsXorRow : OpenClaim := { program := "ytjaloajnlpepcaa", sum := "e65876a56b1a251ca52e4b5c2693d99b355668713649b5e1bc289eff48b3deea", func := "cofferdam/cofferdamlaw01.WordsXor", spec := "wordsXor", apart := false }
def WordsXorSaid : Prop := wordsXorRow.holds Try.pinned (OpenSpec.ofChange wordsXorSpec)

/-- ITS FALSE NEIGHBOUR: 'it returns false'. Refute it at one input. -/
def wordsXorWrong : ChangeSpec := { name := "wordsXor", fn := fun _ => fun
  | [d1, d2] => { results := [.lit (.bool false)], args := [d1, d2] }
  | _ => none }
def WordsXorWrongFalsely : Prop := wordsXorRow.holds Try.pinned (OpenSpec.ofChange wordsXorWrong)

/-- 'cofferdamlaw01.WordsRing': WHATEVER THE INPUT: true; the input reads as it did. -/
def wordsRingSpec : ChangeSpec := { name := "wordsRing", fn := fun _ => fun
  | [d1, d2, d3] => { results := [.lit (.bool true)], args := [d1, d2, d3] }
  | _ => none }
def wordsRingRow : OpenClaim := { program := "ytjaloajnlpepcaa", sum := "e65876a56b1a251ca52e4b5c2693d99b355668713649b5e1bc289eff48b3deea", func := "cofferdam/cofferdamlaw01.WordsRing", spec := "wordsRing", apart := false }
def WordsRingSaid : Prop := wordsRingRow.holds Try.pinned (OpenSpec.ofChange wordsRingSpec)

/-- ITS FALSE NEIGHBOUR: 'it returns false'. Refute it at one input. -/
def wordsRingWrong : ChangeSpec := { name := "wordsRing", fn := fun _ => fun
  | [d1, d2, d3] => { results := [.lit (.bool false)], args := [d1, d2, d3] }
  | _ => none }
def WordsRingWrongFalsely : Prop := wordsRingRow.holds Try.pinned (OpenSpec.ofChange wordsRingWrong)

/-- 'cofferdamlaw01.WordsRead': WHATEVER THE INPUT: true; the input reads as it did. -/
def wordsReadSpec : ChangeSpec := { name := "wordsRead", fn := fun _ => fun
  | [d] => { results := [.lit (.bool true)], args := [d] }
  | _ => none }
def wordsReadRow : OpenClaim := { program := "ytjaloajnlpepcaa", sum := "e65876a56b1a251ca52e4b5c2693d99b355668713649b5e1bc289eff48b3deea", func := "cofferdam/cofferdamlaw01.WordsRead", spec := "wordsRead", unfollowed := true, recurses := true, apart := false }
def WordsReadSaid : Prop := wordsReadRow.holds Try.pinned (OpenSpec.ofChange wordsReadSpec)

/-- ITS FALSE NEIGHBOUR: 'it returns false'. Refute it at one input. -/
def wordsReadWrong : ChangeSpec := { name := "wordsRead", fn := fun _ => fun
  | [d] => { results := [.lit (.bool false)], args := [d] }
  | _ => none }
def WordsReadWrongFalsely : Prop := wordsReadRow.holds Try.pinned (OpenSpec.ofChange wordsReadWrong)

/-- 'cofferdamlaw01.WordsTurn': WHATEVER THE INPUT: true; the input reads as it did. -/
def wordsTurnSpec : ChangeSpec := { name := "wordsTurn", fn := fun _ => fun
  | [d1, d2] => { results := [.lit (.bool true)], args := [d1, d2] }
  | _ => none }
def wordsTurnRow : OpenClaim := { program := "ytjaloajnlpepcaa", sum := "e65876a56b1a251ca52e4b5c2693d99b355668713649b5e1bc289eff48b3deea", func := "cofferdam/cofferdamlaw01.WordsTurn", spec := "wordsTurn", unfollowed := true, recurses := true, apart := false }
def WordsTurnSaid : Prop := wordsTurnRow.holds Try.pinned (OpenSpec.ofChange wordsTurnSpec)

/-- ITS FALSE NEIGHBOUR: 'it returns false'. Refute it at one input. -/
def wordsTurnWrong : ChangeSpec := { name := "wordsTurn", fn := fun _ => fun
  | [d1, d2] => { results := [.lit (.bool false)], args := [d1, d2] }
  | _ => none }
def WordsTurnWrongFalsely : Prop := wordsTurnRow.holds Try.pinned (OpenSpec.ofChange wordsTurnWrong)

/-- 'cofferdamlaw01.WordsTurns': WHATEVER THE INPUT: true; the input reads as it did. -/
def wordsTurnsSpec : ChangeSpec := { name := "wordsTurns", fn := fun _ => fun
  | [d1, d2, d3] => { results := [.lit (.bool true)], args := [d1, d2, d3] }
  | _ => none }
def wordsTurnsRow : OpenClaim := { program := "ytjaloajnlpepcaa", sum := "e65876a56b1a251ca52e4b5c2693d99b355668713649b5e1bc289eff48b3deea", func := "cofferdam/cofferdamlaw01.WordsTurns", spec := "wordsTurns", unfollowed := true, recurses := true, apart := false }
def WordsTurnsSaid : Prop := wordsTurnsRow.holds Try.pinned (OpenSpec.ofChange wordsTurnsSpec)

/-- ITS FALSE NEIGHBOUR: 'it returns false'. Refute it at one input. -/
def wordsTurnsWrong : ChangeSpec := { name := "wordsTurns", fn := fun _ => fun
  | [d1, d2, d3] => { results := [.lit (.bool false)], args := [d1, d2, d3] }
  | _ => none }
def WordsTurnsWrongFalsely : Prop := wordsTurnsRow.holds Try.pinned (OpenSpec.ofChange wordsTurnsWrong)

/-- 'cofferdamlaw01.WordsWrite': WHATEVER THE INPUT: true; the input reads as it did. -/
def wordsWriteSpec : ChangeSpec := { name := "wordsWrite", fn := fun _ => fun
  | [d] => { results := [.lit (.bool true)], args := [d] }
  | _ => none }
def wordsWriteRow : OpenClaim := { program := "ytjaloajnlpepcaa", sum := "e65876a56b1a251ca52e4b5c2693d99b355668713649b5e1bc289eff48b3deea", func := "cofferdam/cofferdamlaw01.WordsWrite", spec := "wordsWrite", unfollowed := true, recurses := true, apart := false }
def WordsWriteSaid : Prop := wordsWriteRow.holds Try.pinned (OpenSpec.ofChange wordsWriteSpec)

/-- ITS FALSE NEIGHBOUR: 'it returns false'. Refute it at one input. -/
def wordsWriteWrong : ChangeSpec := { name := "wordsWrite", fn := fun _ => fun
  | [d] => { results := [.lit (.bool false)], args := [d] }
  | _ => none }
def WordsWriteWrongFalsely : Prop := wordsWriteRow.holds Try.pinned (OpenSpec.ofChange wordsWriteWrong)

/-- 'cofferdamlaw01.WordsBack': WHATEVER THE INPUT: true; the input reads as it did. -/
def wordsBackSpec : ChangeSpec := { name := "wordsBack", fn := fun _ => fun
  | [d1, d2, d3] => { results := [.lit (.bool true)], args := [d1, d2, d3] }
  | _ => none }
def wordsBackRow : OpenClaim := { program := "ytjaloajnlpepcaa", sum := "e65876a56b1a251ca52e4b5c2693d99b355668713649b5e1bc289eff48b3deea", func := "cofferdam/cofferdamlaw01.WordsBack", spec := "wordsBack", unfollowed := true, recurses := true, apart := false }
def WordsBackSaid : Prop := wordsBackRow.holds Try.pinned (OpenSpec.ofChange wordsBackSpec)

/-- ITS FALSE NEIGHBOUR: 'it returns false'. Refute it at one input. -/
def wordsBackWrong : ChangeSpec := { name := "wordsBack", fn := fun _ => fun
  | [d1, d2, d3] => { results := [.lit (.bool false)], args := [d1, d2, d3] }
  | _ => none }
def WordsBackWrongFalsely : Prop := wordsBackRow.holds Try.pinned (OpenSpec.ofChange wordsBackWrong)

/- THE SECOND FORM. 'bulk': how many values and letters a reading holds, each counted each time it is reached (what is shared counts as often as it is met; a slice's spare places count too). A statement '..UptoSaid' is the law's where the arguments, and the package variables that the reading takes, are together of bulk at most 1048576: NARROWER than '..Said'. Prove '..Said' where nothing that the law and all that it calls make is longer than what came in: it says more and counts as full. Else prove '..UptoSaid'. A law counts once. -/
mutual
def uptoBulk {H : Type} : DataW H → Nat
  | .lit (.string bytes) => bytes.length + 1
  | .lit _ => 1
  | .nil => 1
  | .ptr d => uptoBulk d + 1
  | .slice elems spare => uptoBulkAll elems + uptoBulkAll spare + 1
  | .agg parts => uptoBulkAll parts + 1
  | .iface _ d => uptoBulk d + 1
  | .map entries => uptoBulkEntries entries + 1
  | .held _ => 1
def uptoBulkAll {H : Type} : List (DataW H) → Nat
  | [] => 0
  | d :: r => uptoBulk d + uptoBulkAll r
def uptoBulkEntries {H : Type} : List (Lit × DataW H) → Nat
  | [] => 0
  | x :: r => uptoBulkEntry x + uptoBulkEntries r
def uptoBulkEntry {H : Type} : Lit × DataW H → Nat
  | (.string bytes, d) => bytes.length + uptoBulk d + 1
  | (_, d) => uptoBulk d + 1
 end
def uptoSmall : (H : Type) → List (DataW H) → Bool := fun _ ds => decide (uptoBulkAll ds ≤ 1048576)
def OpenSpec.upto (s : _root_.Go.ChangeSpec) : _root_.Go.OpenSpec := { _root_.Go.OpenSpec.ofChange s with cond := some uptoSmall }

/-- 'cofferdamlaw01.WordsXor', WHERE WHAT IT READS IS OF BULK AT MOST 1048576: true; the input reads as it did. -/
def wordsXorUptoRow : OpenClaim := { program := "ytjaloajnlpepcaa", sum := "e65876a56b1a251ca52e4b5c2693d99b355668713649b5e1bc289eff48b3deea", func := "cofferdam/cofferdamlaw01.WordsXor", spec := "wordsXor", apart := false, narrowed := true }
def WordsXorUptoSaid : Prop := wordsXorUptoRow.holds Try.pinned (OpenSpec.upto wordsXorSpec)

/-- 'cofferdamlaw01.WordsRing', WHERE WHAT IT READS IS OF BULK AT MOST 1048576: true; the input reads as it did. -/
def wordsRingUptoRow : OpenClaim := { program := "ytjaloajnlpepcaa", sum := "e65876a56b1a251ca52e4b5c2693d99b355668713649b5e1bc289eff48b3deea", func := "cofferdam/cofferdamlaw01.WordsRing", spec := "wordsRing", apart := false, narrowed := true }
def WordsRingUptoSaid : Prop := wordsRingUptoRow.holds Try.pinned (OpenSpec.upto wordsRingSpec)

/-- 'cofferdamlaw01.WordsRead', WHERE WHAT IT READS IS OF BULK AT MOST 1048576: true; the input reads as it did. -/
def wordsReadUptoRow : OpenClaim := { program := "ytjaloajnlpepcaa", sum := "e65876a56b1a251ca52e4b5c2693d99b355668713649b5e1bc289eff48b3deea", func := "cofferdam/cofferdamlaw01.WordsRead", spec := "wordsRead", unfollowed := true, recurses := true, apart := false, narrowed := true }
def WordsReadUptoSaid : Prop := wordsReadUptoRow.holds Try.pinned (OpenSpec.upto wordsReadSpec)

/-- 'cofferdamlaw01.WordsTurn', WHERE WHAT IT READS IS OF BULK AT MOST 1048576: true; the input reads as it did. -/
def wordsTurnUptoRow : OpenClaim := { program := "ytjaloajnlpepcaa", sum := "e65876a56b1a251ca52e4b5c2693d99b355668713649b5e1bc289eff48b3deea", func := "cofferdam/cofferdamlaw01.WordsTurn", spec := "wordsTurn", unfollowed := true, recurses := true, apart := false, narrowed := true }
def WordsTurnUptoSaid : Prop := wordsTurnUptoRow.holds Try.pinned (OpenSpec.upto wordsTurnSpec)

/-- 'cofferdamlaw01.WordsTurns', WHERE WHAT IT READS IS OF BULK AT MOST 1048576: true; the input reads as it did. -/
def wordsTurnsUptoRow : OpenClaim := { program := "ytjaloajnlpepcaa", sum := "e65876a56b1a251ca52e4b5c2693d99b355668713649b5e1bc289eff48b3deea", func := "cofferdam/cofferdamlaw01.WordsTurns", spec := "wordsTurns", unfollowed := true, recurses := true, apart := false, narrowed := true }
def WordsTurnsUptoSaid : Prop := wordsTurnsUptoRow.holds Try.pinned (OpenSpec.upto wordsTurnsSpec)

/-- 'cofferdamlaw01.WordsWrite', WHERE WHAT IT READS IS OF BULK AT MOST 1048576: true; the input reads as it did. -/
def wordsWriteUptoRow : OpenClaim := { program := "ytjaloajnlpepcaa", sum := "e65876a56b1a251ca52e4b5c2693d99b355668713649b5e1bc289eff48b3deea", func := "cofferdam/cofferdamlaw01.WordsWrite", spec := "wordsWrite", unfollowed := true, recurses := true, apart := false, narrowed := true }
def WordsWriteUptoSaid : Prop := wordsWriteUptoRow.holds Try.pinned (OpenSpec.upto wordsWriteSpec)

/-- 'cofferdamlaw01.WordsBack', WHERE WHAT IT READS IS OF BULK AT MOST 1048576: true; the input reads as it did. -/
def wordsBackUptoRow : OpenClaim := { program := "ytjaloajnlpepcaa", sum := "e65876a56b1a251ca52e4b5c2693d99b355668713649b5e1bc289eff48b3deea", func := "cofferdam/cofferdamlaw01.WordsBack", spec := "wordsBack", unfollowed := true, recurses := true, apart := false, narrowed := true }
def WordsBackUptoSaid : Prop := wordsBackUptoRow.holds Try.pinned (OpenSpec.upto wordsBackSpec)

end Rows
end Go.Proofs.Ytjaloajnlpepcaa

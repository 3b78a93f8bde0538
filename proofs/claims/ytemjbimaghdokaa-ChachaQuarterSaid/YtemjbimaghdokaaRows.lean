/-
  No cell of these rows narrows 'for every input' (looked for: loops, veiled, ifaces, maps, wideKeys, modest, calm, conditions, laid).
  DERIVED. THE GIVEN ROWS OF THIS SEAT. 7 by the template 'for every input the law returns true; each argument reads behind the call as it read before'; 0 by the template 'total and deterministic' (their statements: YtemjbimaghdokaaTotals.lean).
  GIVEN WITH THE SEED: the statements are not yours to turn. If you find one false, say at which input.
  Laid BY PROGRAM, IN A SANDBOX (cutbox-rows.mjs): the forced cells as the released guide's own fill.sh prints them over the translation 47644ee173d475e9… (all of the seat's roots in one cut). By AI agents, Wed Nov 11 2026. No macro, syntax, notation, axiom, sorry.
-/
import Derived.Test.YtemjbimaghdokaaChecked
import GoSem.Claim
import GoSem.ClaimJoined
import GoSem.ClaimMapViews
import Derived.JoinedTies
import Derived.KernelRfl
namespace Go.Proofs.Ytemjbimaghdokaa
/- THE CELL 'sum', in the pinned program and in every row, IS THE sha256 OF THE DUMP (.gsa) THAT YtemjbimaghdokaaProg.lean LOADS. Nothing in Lean hashes anything: it is a label: what it is worth is what the hold of that sum in a sandbox is worth. -/
noncomputable def Try.pinned : Pinned := { name := "ytemjbimaghdokaa", sum := "47644ee173d475e9679de53815c115bb3e496a2f045079bd3e45d8265de5ff1d", checked := Try.checked }
namespace Rows
def none {H : Type} : Left H := { results := [], args := [] }

/-- 'cofferdamlaw06.ChachaQuarter': WHATEVER THE INPUT: true; the input reads as it did. -/
def chachaQuarterSpec : ChangeSpec := { name := "chachaQuarter", fn := fun _ => fun
  | [d] => { results := [.lit (.bool true)], args := [d] }
  | _ => none }
def chachaQuarterRow : OpenClaim := { program := "ytemjbimaghdokaa", sum := "47644ee173d475e9679de53815c115bb3e496a2f045079bd3e45d8265de5ff1d", func := "cofferdam/cofferdamlaw06.ChachaQuarter", spec := "chachaQuarter", unfollowed := true, recurses := true, apart := false }
def ChachaQuarterSaid : Prop := chachaQuarterRow.holds Try.pinned (OpenSpec.ofChange chachaQuarterSpec)

/-- ITS FALSE NEIGHBOUR: 'it returns false'. Refute it at one input. -/
def chachaQuarterWrong : ChangeSpec := { name := "chachaQuarter", fn := fun _ => fun
  | [d] => { results := [.lit (.bool false)], args := [d] }
  | _ => none }
def ChachaQuarterWrongFalsely : Prop := chachaQuarterRow.holds Try.pinned (OpenSpec.ofChange chachaQuarterWrong)

/-- 'cofferdamlaw06.ChachaBlocks': WHATEVER THE INPUT: true; the input reads as it did. -/
def chachaBlocksSpec : ChangeSpec := { name := "chachaBlocks", fn := fun _ => fun
  | [d1, d2, d3] => { results := [.lit (.bool true)], args := [d1, d2, d3] }
  | _ => none }
def chachaBlocksRow : OpenClaim := { program := "ytemjbimaghdokaa", sum := "47644ee173d475e9679de53815c115bb3e496a2f045079bd3e45d8265de5ff1d", func := "cofferdam/cofferdamlaw06.ChachaBlocks", spec := "chachaBlocks", unfollowed := true, recurses := true, apart := false }
def ChachaBlocksSaid : Prop := chachaBlocksRow.holds Try.pinned (OpenSpec.ofChange chachaBlocksSpec)

/-- ITS FALSE NEIGHBOUR: 'it returns false'. Refute it at one input. -/
def chachaBlocksWrong : ChangeSpec := { name := "chachaBlocks", fn := fun _ => fun
  | [d1, d2, d3] => { results := [.lit (.bool false)], args := [d1, d2, d3] }
  | _ => none }
def ChachaBlocksWrongFalsely : Prop := chachaBlocksRow.holds Try.pinned (OpenSpec.ofChange chachaBlocksWrong)

/-- 'cofferdamlaw06.ChachaCrypts': WHATEVER THE INPUT: true; the input reads as it did. -/
def chachaCryptsSpec : ChangeSpec := { name := "chachaCrypts", fn := fun _ => fun
  | [d1, d2, d3] => { results := [.lit (.bool true)], args := [d1, d2, d3] }
  | _ => none }
def chachaCryptsRow : OpenClaim := { program := "ytemjbimaghdokaa", sum := "47644ee173d475e9679de53815c115bb3e496a2f045079bd3e45d8265de5ff1d", func := "cofferdam/cofferdamlaw06.ChachaCrypts", spec := "chachaCrypts", unfollowed := true, recurses := true, apart := false }
def ChachaCryptsSaid : Prop := chachaCryptsRow.holds Try.pinned (OpenSpec.ofChange chachaCryptsSpec)

/-- ITS FALSE NEIGHBOUR: 'it returns false'. Refute it at one input. -/
def chachaCryptsWrong : ChangeSpec := { name := "chachaCrypts", fn := fun _ => fun
  | [d1, d2, d3] => { results := [.lit (.bool false)], args := [d1, d2, d3] }
  | _ => none }
def ChachaCryptsWrongFalsely : Prop := chachaCryptsRow.holds Try.pinned (OpenSpec.ofChange chachaCryptsWrong)

/-- 'cofferdamlaw06.ChachaBack': WHATEVER THE INPUT: true; the input reads as it did. -/
def chachaBackSpec : ChangeSpec := { name := "chachaBack", fn := fun _ => fun
  | [d1, d2, d3] => { results := [.lit (.bool true)], args := [d1, d2, d3] }
  | _ => none }
def chachaBackRow : OpenClaim := { program := "ytemjbimaghdokaa", sum := "47644ee173d475e9679de53815c115bb3e496a2f045079bd3e45d8265de5ff1d", func := "cofferdam/cofferdamlaw06.ChachaBack", spec := "chachaBack", unfollowed := true, recurses := true, apart := false }
def ChachaBackSaid : Prop := chachaBackRow.holds Try.pinned (OpenSpec.ofChange chachaBackSpec)

/-- ITS FALSE NEIGHBOUR: 'it returns false'. Refute it at one input. -/
def chachaBackWrong : ChangeSpec := { name := "chachaBack", fn := fun _ => fun
  | [d1, d2, d3] => { results := [.lit (.bool false)], args := [d1, d2, d3] }
  | _ => none }
def ChachaBackWrongFalsely : Prop := chachaBackRow.holds Try.pinned (OpenSpec.ofChange chachaBackWrong)

/-- 'cofferdamlaw06.ChachaParts': WHATEVER THE INPUT: true; the input reads as it did. -/
def chachaPartsSpec : ChangeSpec := { name := "chachaParts", fn := fun _ => fun
  | [d1, d2, d3] => { results := [.lit (.bool true)], args := [d1, d2, d3] }
  | _ => none }
def chachaPartsRow : OpenClaim := { program := "ytemjbimaghdokaa", sum := "47644ee173d475e9679de53815c115bb3e496a2f045079bd3e45d8265de5ff1d", func := "cofferdam/cofferdamlaw06.ChachaParts", spec := "chachaParts", unfollowed := true, recurses := true, apart := false }
def ChachaPartsSaid : Prop := chachaPartsRow.holds Try.pinned (OpenSpec.ofChange chachaPartsSpec)

/-- ITS FALSE NEIGHBOUR: 'it returns false'. Refute it at one input. -/
def chachaPartsWrong : ChangeSpec := { name := "chachaParts", fn := fun _ => fun
  | [d1, d2, d3] => { results := [.lit (.bool false)], args := [d1, d2, d3] }
  | _ => none }
def ChachaPartsWrongFalsely : Prop := chachaPartsRow.holds Try.pinned (OpenSpec.ofChange chachaPartsWrong)

/-- 'cofferdamlaw06.ChachaStream': WHATEVER THE INPUT: true; the input reads as it did. -/
def chachaStreamSpec : ChangeSpec := { name := "chachaStream", fn := fun _ => fun
  | [d1, d2, d3] => { results := [.lit (.bool true)], args := [d1, d2, d3] }
  | _ => none }
def chachaStreamRow : OpenClaim := { program := "ytemjbimaghdokaa", sum := "47644ee173d475e9679de53815c115bb3e496a2f045079bd3e45d8265de5ff1d", func := "cofferdam/cofferdamlaw06.ChachaStream", spec := "chachaStream", unfollowed := true, recurses := true, apart := false }
def ChachaStreamSaid : Prop := chachaStreamRow.holds Try.pinned (OpenSpec.ofChange chachaStreamSpec)

/-- ITS FALSE NEIGHBOUR: 'it returns false'. Refute it at one input. -/
def chachaStreamWrong : ChangeSpec := { name := "chachaStream", fn := fun _ => fun
  | [d1, d2, d3] => { results := [.lit (.bool false)], args := [d1, d2, d3] }
  | _ => none }
def ChachaStreamWrongFalsely : Prop := chachaStreamRow.holds Try.pinned (OpenSpec.ofChange chachaStreamWrong)

/-- 'cofferdamlaw06.ChachaLong': WHATEVER THE INPUT: true; the input reads as it did. -/
def chachaLongSpec : ChangeSpec := { name := "chachaLong", fn := fun _ => fun
  | [d1, d2] => { results := [.lit (.bool true)], args := [d1, d2] }
  | _ => none }
def chachaLongRow : OpenClaim := { program := "ytemjbimaghdokaa", sum := "47644ee173d475e9679de53815c115bb3e496a2f045079bd3e45d8265de5ff1d", func := "cofferdam/cofferdamlaw06.ChachaLong", spec := "chachaLong", unfollowed := true, recurses := true, apart := false }
def ChachaLongSaid : Prop := chachaLongRow.holds Try.pinned (OpenSpec.ofChange chachaLongSpec)

/-- ITS FALSE NEIGHBOUR: 'it returns false'. Refute it at one input. -/
def chachaLongWrong : ChangeSpec := { name := "chachaLong", fn := fun _ => fun
  | [d1, d2] => { results := [.lit (.bool false)], args := [d1, d2] }
  | _ => none }
def ChachaLongWrongFalsely : Prop := chachaLongRow.holds Try.pinned (OpenSpec.ofChange chachaLongWrong)

/- THE SECOND FORM. 'bulk': how many values and letters a reading holds, each counted each time it is reached (what is shared counts as often as it is met; a slice's spare places count too). A statement '..UptoSaid' is the law's where the arguments, and the package variables that the reading takes, are together of bulk at most 1048576: NARROWER than '..Said'. Prove '..Said' where nothing that the law and all that it calls make is longer than what came in: it says more and counts as full. Else prove '..UptoSaid'. A law counts once. -/
mutual
def uptoBulk {H : Type} : DataW H → Nat
  | .lit (.string bytes) => bytes.length + 1
  | .lit _ => 1
  | .nil => 1
  | .ptr d => uptoBulk d + 1
  | .slice elems spare => uptoBulkAll elems + uptoBulkAll spare + 1
  | .agg parts => uptoBulkAll parts + 1
  | .iface _ d => uptoBulk d + 1
  | .map entries => uptoBulkEntries entries + 1
  | .held _ => 1
def uptoBulkAll {H : Type} : List (DataW H) → Nat
  | [] => 0
  | d :: r => uptoBulk d + uptoBulkAll r
def uptoBulkEntries {H : Type} : List (Lit × DataW H) → Nat
  | [] => 0
  | x :: r => uptoBulkEntry x + uptoBulkEntries r
def uptoBulkEntry {H : Type} : Lit × DataW H → Nat
  | (.string bytes, d) => bytes.length + uptoBulk d + 1
  | (_, d) => uptoBulk d + 1
 end
def uptoSmall : (H : Type) → List (DataW H) → Bool := fun _ ds => decide (uptoBulkAll ds ≤ 1048576)
def OpenSpec.upto (s : _root_.Go.ChangeSpec) : _root_.Go.OpenSpec := { _root_.Go.OpenSpec.ofChange s with cond := some uptoSmall }

/-- 'cofferdamlaw06.ChachaQuarter', WHERE WHAT IT READS IS OF BULK AT MOST 1048576: true; the input reads as it did. -/
def chachaQuarterUptoRow : OpenClaim := { program := "ytemjbimaghdokaa", sum := "47644ee173d475e9679de53815c115bb3e496a2f045079bd3e45d8265de5ff1d", func := "cofferdam/cofferdamlaw06.ChachaQuarter", spec := "chachaQuarter", unfollowed := true, recurses := true, apart := false, narrowed := true }
def ChachaQuarterUptoSaid : Prop := chachaQuarterUptoRow.holds Try.pinned (OpenSpec.upto chachaQuarterSpec)

/-- 'cofferdamlaw06.ChachaBlocks', WHERE WHAT IT READS IS OF BULK AT MOST 1048576: true; the input reads as it did. -/
def chachaBlocksUptoRow : OpenClaim := { program := "ytemjbimaghdokaa", sum := "47644ee173d475e9679de53815c115bb3e496a2f045079bd3e45d8265de5ff1d", func := "cofferdam/cofferdamlaw06.ChachaBlocks", spec := "chachaBlocks", unfollowed := true, recurses := true, apart := false, narrowed := true }
def ChachaBlocksUptoSaid : Prop := chachaBlocksUptoRow.holds Try.pinned (OpenSpec.upto chachaBlocksSpec)

/-- 'cofferdamlaw06.ChachaCrypts', WHERE WHAT IT READS IS OF BULK AT MOST 1048576: true; the input reads as it did. -/
def chachaCryptsUptoRow : OpenClaim := { program := "ytemjbimaghdokaa", sum := "47644ee173d475e9679de53815c115bb3e496a2f045079bd3e45d8265de5ff1d", func := "cofferdam/cofferdamlaw06.ChachaCrypts", spec := "chachaCrypts", unfollowed := true, recurses := true, apart := false, narrowed := true }
def ChachaCryptsUptoSaid : Prop := chachaCryptsUptoRow.holds Try.pinned (OpenSpec.upto chachaCryptsSpec)

/-- 'cofferdamlaw06.ChachaBack', WHERE WHAT IT READS IS OF BULK AT MOST 1048576: true; the input reads as it did. -/
def chachaBackUptoRow : OpenClaim := { program := "ytemjbimaghdokaa", sum := "47644ee173d475e9679de53815c115bb3e496a2f045079bd3e45d8265de5ff1d", func := "cofferdam/cofferdamlaw06.ChachaBack", spec := "chachaBack", unfollowed := true, recurses := true, apart := false, narrowed := true }
def ChachaBackUptoSaid : Prop := chachaBackUptoRow.holds Try.pinned (OpenSpec.upto chachaBackSpec)

/-- 'cofferdamlaw06.ChachaParts', WHERE WHAT IT READS IS OF BULK AT MOST 1048576: true; the input reads as it did. -/
def chachaPartsUptoRow : OpenClaim := { program := "ytemjbimaghdokaa", sum := "47644ee173d475e9679de53815c115bb3e496a2f045079bd3e45d8265de5ff1d", func := "cofferdam/cofferdamlaw06.ChachaParts", spec := "chachaParts", unfollowed := true, recurses := true, apart := false, narrowed := true }
def ChachaPartsUptoSaid : Prop := chachaPartsUptoRow.holds Try.pinned (OpenSpec.upto chachaPartsSpec)

/-- 'cofferdamlaw06.ChachaStream', WHERE WHAT IT READS IS OF BULK AT MOST 1048576: true; the input reads as it did. -/
def chachaStreamUptoRow : OpenClaim := { program := "ytemjbimaghdokaa", sum := "47644ee173d475e9679de53815c115bb3e496a2f045079bd3e45d8265de5ff1d", func := "cofferdam/cofferdamlaw06.ChachaStream", spec := "chachaStream", unfollowed := true, recurses := true, apart := false, narrowed := true }
def ChachaStreamUptoSaid : Prop := chachaStreamUptoRow.holds Try.pinned (OpenSpec.upto chachaStreamSpec)

/-- 'cofferdamlaw06.ChachaLong', WHERE WHAT IT READS IS OF BULK AT MOST 1048576: true; the input reads as it did. -/
def chachaLongUptoRow : OpenClaim := { program := "ytemjbimaghdokaa", sum := "47644ee173d475e9679de53815c115bb3e496a2f045079bd3e45d8265de5ff1d", func := "cofferdam/cofferdamlaw06.ChachaLong", spec := "chachaLong", unfollowed := true, recurses := true, apart := false, narrowed := true }
def ChachaLongUptoSaid : Prop := chachaLongUptoRow.holds Try.pinned (OpenSpec.upto chachaLongSpec)

end Rows
end Go.Proofs.Ytemjbimaghdokaa

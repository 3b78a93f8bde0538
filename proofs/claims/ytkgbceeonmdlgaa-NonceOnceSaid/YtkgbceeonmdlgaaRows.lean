/-
  No cell of these rows narrows 'for every input' (looked for: loops, veiled, ifaces, maps, wideKeys, modest, calm, conditions, laid).
  DERIVED. THE GIVEN ROWS OF THIS SEAT. 10 by the template 'for every input the law returns true; each argument reads behind the call as it read before'; 0 by the template 'total and deterministic' (their statements: YtkgbceeonmdlgaaTotals.lean).
  GIVEN WITH THE SEED: the statements are not yours to turn. If you find one false, say at which input.
  Laid BY PROGRAM, IN A SANDBOX (cutbox-rows.mjs): the forced cells as the released guide's own fill.sh prints them over the translation 1c810f32d00c9eb7… (all of the seat's roots in one cut). By AI agents, Wed Nov 11 2026. No macro, syntax, notation, axiom, sorry.
-/
import Derived.Test.YtkgbceeonmdlgaaChecked
import GoSem.Claim
import GoSem.ClaimJoined
import GoSem.ClaimMapViews
import Derived.JoinedTies
import Derived.KernelRfl
namespace Go.Proofs.Ytkgbceeonmdlgaa
/- THE CELL 'sum', in the pinned program and in every row, IS THE sha256 OF THE DUMP (.gsa) THAT YtkgbceeonmdlgaaProg.lean LOADS. Nothing in Lean hashes anything: it is a label: what it is worth is what the hold of that sum in a sandbox is worth. -/
noncomputable def Try.pinned : Pinned := { name := "ytkgbceeonmdlgaa", sum := "1c810f32d00c9eb7c9d2717885dda0124a347163b222f6e1f69169ac2cff7f2f", checked := Try.checked }
namespace Rows
def none {H : Type} : Left H := { results := [], args := [] }

/-- 'cofferdamlaw16.NoncePlays': WHATEVER THE INPUT: true; the input reads as it did. -/
def noncePlaysSpec : ChangeSpec := { name := "noncePlays", fn := fun _ => fun
  | [d1, d2, d3] => { results := [.lit (.bool true)], args := [d1, d2, d3] }
  | _ => none }
def noncePlaysRow : OpenClaim := { program := "ytkgbceeonmdlgaa", sum := "1c810f32d00c9eb7c9d2717885dda0124a347163b222f6e1f69169ac2cff7f2f", func := "cofferdam/cofferdamlaw16.NoncePlays", spec := "noncePlays", apart := false }
def NoncePlaysSaid : Prop := noncePlaysRow.holds Try.pinned (OpenSpec.ofChange noncePlaysSpec)

/-- ITS FALSE NEIGHBOUR: 'it returns false'. Refute it at one input. -/
def noncePlaysWrong : ChangeSpec := { name := "noncePlays", fn := fun _ => fun
  | [d1, d2, d3] => { results := [.lit (.bool false)], args := [d1, d2, d3] }
  | _ => none }
def NoncePlaysWrongFalsely : Prop := noncePlaysRow.holds Try.pinned (OpenSpec.ofChange noncePlaysWrong)

/-- 'cofferdamlaw16.NonceEnds': WHATEVER THE INPUT: true; the input reads as it did. -/
def nonceEndsSpec : ChangeSpec := { name := "nonceEnds", fn := fun _ => fun
  | [d1, d2] => { results := [.lit (.bool true)], args := [d1, d2] }
  | _ => none }
def nonceEndsRow : OpenClaim := { program := "ytkgbceeonmdlgaa", sum := "1c810f32d00c9eb7c9d2717885dda0124a347163b222f6e1f69169ac2cff7f2f", func := "cofferdam/cofferdamlaw16.NonceEnds", spec := "nonceEnds", apart := false }
def NonceEndsSaid : Prop := nonceEndsRow.holds Try.pinned (OpenSpec.ofChange nonceEndsSpec)

/-- ITS FALSE NEIGHBOUR: 'it returns false'. Refute it at one input. -/
def nonceEndsWrong : ChangeSpec := { name := "nonceEnds", fn := fun _ => fun
  | [d1, d2] => { results := [.lit (.bool false)], args := [d1, d2] }
  | _ => none }
def NonceEndsWrongFalsely : Prop := nonceEndsRow.holds Try.pinned (OpenSpec.ofChange nonceEndsWrong)

/-- 'cofferdamlaw13.CodecWrites': WHATEVER THE INPUT: true; the input reads as it did. -/
def codecWritesSpec : ChangeSpec := { name := "codecWrites", fn := fun _ => fun
  | [d1, d2] => { results := [.lit (.bool true)], args := [d1, d2] }
  | _ => none }
def codecWritesRow : OpenClaim := { program := "ytkgbceeonmdlgaa", sum := "1c810f32d00c9eb7c9d2717885dda0124a347163b222f6e1f69169ac2cff7f2f", func := "cofferdam/cofferdamlaw13.CodecWrites", spec := "codecWrites", unfollowed := true, recurses := true, apart := false }
def CodecWritesSaid : Prop := codecWritesRow.holds Try.pinned (OpenSpec.ofChange codecWritesSpec)

/-- ITS FALSE NEIGHBOUR: 'it returns false'. Refute it at one input. -/
def codecWritesWrong : ChangeSpec := { name := "codecWrites", fn := fun _ => fun
  | [d1, d2] => { results := [.lit (.bool false)], args := [d1, d2] }
  | _ => none }
def CodecWritesWrongFalsely : Prop := codecWritesRow.holds Try.pinned (OpenSpec.ofChange codecWritesWrong)

/-- 'cofferdamlaw13.CodecBack': WHATEVER THE INPUT: true; the input reads as it did. -/
def codecBackSpec : ChangeSpec := { name := "codecBack", fn := fun _ => fun
  | [d1, d2] => { results := [.lit (.bool true)], args := [d1, d2] }
  | _ => none }
def codecBackRow : OpenClaim := { program := "ytkgbceeonmdlgaa", sum := "1c810f32d00c9eb7c9d2717885dda0124a347163b222f6e1f69169ac2cff7f2f", func := "cofferdam/cofferdamlaw13.CodecBack", spec := "codecBack", unfollowed := true, recurses := true, apart := false }
def CodecBackSaid : Prop := codecBackRow.holds Try.pinned (OpenSpec.ofChange codecBackSpec)

/-- ITS FALSE NEIGHBOUR: 'it returns false'. Refute it at one input. -/
def codecBackWrong : ChangeSpec := { name := "codecBack", fn := fun _ => fun
  | [d1, d2] => { results := [.lit (.bool false)], args := [d1, d2] }
  | _ => none }
def CodecBackWrongFalsely : Prop := codecBackRow.holds Try.pinned (OpenSpec.ofChange codecBackWrong)

/-- 'cofferdamlaw13.CodecApart': WHATEVER THE INPUT: true; the input reads as it did. -/
def codecApartSpec : ChangeSpec := { name := "codecApart", fn := fun _ => fun
  | [d1, d2] => { results := [.lit (.bool true)], args := [d1, d2] }
  | _ => none }
def codecApartRow : OpenClaim := { program := "ytkgbceeonmdlgaa", sum := "1c810f32d00c9eb7c9d2717885dda0124a347163b222f6e1f69169ac2cff7f2f", func := "cofferdam/cofferdamlaw13.CodecApart", spec := "codecApart", unfollowed := true, recurses := true, apart := false }
def CodecApartSaid : Prop := codecApartRow.holds Try.pinned (OpenSpec.ofChange codecApartSpec)

/-- ITS FALSE NEIGHBOUR: 'it returns false'. Refute it at one input. -/
def codecApartWrong : ChangeSpec := { name := "codecApart", fn := fun _ => fun
  | [d1, d2] => { results := [.lit (.bool false)], args := [d1, d2] }
  | _ => none }
def CodecApartWrongFalsely : Prop := codecApartRow.holds Try.pinned (OpenSpec.ofChange codecApartWrong)

/-- 'cofferdamlaw13.CodecReads': WHATEVER THE INPUT: true; the input reads as it did. -/
def codecReadsSpec : ChangeSpec := { name := "codecReads", fn := fun _ => fun
  | [d1, d2, d3] => { results := [.lit (.bool true)], args := [d1, d2, d3] }
  | _ => none }
def codecReadsRow : OpenClaim := { program := "ytkgbceeonmdlgaa", sum := "1c810f32d00c9eb7c9d2717885dda0124a347163b222f6e1f69169ac2cff7f2f", func := "cofferdam/cofferdamlaw13.CodecReads", spec := "codecReads", unfollowed := true, recurses := true, apart := false }
def CodecReadsSaid : Prop := codecReadsRow.holds Try.pinned (OpenSpec.ofChange codecReadsSpec)

/-- ITS FALSE NEIGHBOUR: 'it returns false'. Refute it at one input. -/
def codecReadsWrong : ChangeSpec := { name := "codecReads", fn := fun _ => fun
  | [d1, d2, d3] => { results := [.lit (.bool false)], args := [d1, d2, d3] }
  | _ => none }
def CodecReadsWrongFalsely : Prop := codecReadsRow.holds Try.pinned (OpenSpec.ofChange codecReadsWrong)

/-- 'cofferdamlaw13.CodecCut': WHATEVER THE INPUT: true; the input reads as it did. -/
def codecCutSpec : ChangeSpec := { name := "codecCut", fn := fun _ => fun
  | [d1, d2] => { results := [.lit (.bool true)], args := [d1, d2] }
  | _ => none }
def codecCutRow : OpenClaim := { program := "ytkgbceeonmdlgaa", sum := "1c810f32d00c9eb7c9d2717885dda0124a347163b222f6e1f69169ac2cff7f2f", func := "cofferdam/cofferdamlaw13.CodecCut", spec := "codecCut", unfollowed := true, recurses := true, apart := false }
def CodecCutSaid : Prop := codecCutRow.holds Try.pinned (OpenSpec.ofChange codecCutSpec)

/-- ITS FALSE NEIGHBOUR: 'it returns false'. Refute it at one input. -/
def codecCutWrong : ChangeSpec := { name := "codecCut", fn := fun _ => fun
  | [d1, d2] => { results := [.lit (.bool false)], args := [d1, d2] }
  | _ => none }
def CodecCutWrongFalsely : Prop := codecCutRow.holds Try.pinned (OpenSpec.ofChange codecCutWrong)

/-- 'cofferdamlaw13.CodecNil': WHATEVER THE INPUT: true; the input reads as it did. -/
def codecNilSpec : ChangeSpec := { name := "codecNil", fn := fun _ => fun
  | [d] => { results := [.lit (.bool true)], args := [d] }
  | _ => none }
def codecNilRow : OpenClaim := { program := "ytkgbceeonmdlgaa", sum := "1c810f32d00c9eb7c9d2717885dda0124a347163b222f6e1f69169ac2cff7f2f", func := "cofferdam/cofferdamlaw13.CodecNil", spec := "codecNil", unfollowed := true, recurses := true, apart := false }
def CodecNilSaid : Prop := codecNilRow.holds Try.pinned (OpenSpec.ofChange codecNilSpec)

/-- ITS FALSE NEIGHBOUR: 'it returns false'. Refute it at one input. -/
def codecNilWrong : ChangeSpec := { name := "codecNil", fn := fun _ => fun
  | [d] => { results := [.lit (.bool false)], args := [d] }
  | _ => none }
def CodecNilWrongFalsely : Prop := codecNilRow.holds Try.pinned (OpenSpec.ofChange codecNilWrong)

/-- 'cofferdamlaw16.NonceReads': WHATEVER THE INPUT: true; the input reads as it did. -/
def nonceReadsSpec : ChangeSpec := { name := "nonceReads", fn := fun _ => fun
  | [d1, d2] => { results := [.lit (.bool true)], args := [d1, d2] }
  | _ => none }
def nonceReadsRow : OpenClaim := { program := "ytkgbceeonmdlgaa", sum := "1c810f32d00c9eb7c9d2717885dda0124a347163b222f6e1f69169ac2cff7f2f", func := "cofferdam/cofferdamlaw16.NonceReads", spec := "nonceReads", unfollowed := true, recurses := true, apart := false }
def NonceReadsSaid : Prop := nonceReadsRow.holds Try.pinned (OpenSpec.ofChange nonceReadsSpec)

/-- ITS FALSE NEIGHBOUR: 'it returns false'. Refute it at one input. -/
def nonceReadsWrong : ChangeSpec := { name := "nonceReads", fn := fun _ => fun
  | [d1, d2] => { results := [.lit (.bool false)], args := [d1, d2] }
  | _ => none }
def NonceReadsWrongFalsely : Prop := nonceReadsRow.holds Try.pinned (OpenSpec.ofChange nonceReadsWrong)

/-- 'cofferdamlaw16.NonceOnce': WHATEVER THE INPUT: true; the input reads as it did. -/
def nonceOnceSpec : ChangeSpec := { name := "nonceOnce", fn := fun _ => fun
  | [d1, d2, d3] => { results := [.lit (.bool true)], args := [d1, d2, d3] }
  | _ => none }
def nonceOnceRow : OpenClaim := { program := "ytkgbceeonmdlgaa", sum := "1c810f32d00c9eb7c9d2717885dda0124a347163b222f6e1f69169ac2cff7f2f", func := "cofferdam/cofferdamlaw16.NonceOnce", spec := "nonceOnce", unfollowed := true, recurses := true, apart := false }
def NonceOnceSaid : Prop := nonceOnceRow.holds Try.pinned (OpenSpec.ofChange nonceOnceSpec)

/-- ITS FALSE NEIGHBOUR: 'it returns false'. Refute it at one input. -/
def nonceOnceWrong : ChangeSpec := { name := "nonceOnce", fn := fun _ => fun
  | [d1, d2, d3] => { results := [.lit (.bool false)], args := [d1, d2, d3] }
  | _ => none }
def NonceOnceWrongFalsely : Prop := nonceOnceRow.holds Try.pinned (OpenSpec.ofChange nonceOnceWrong)

/- THE SECOND FORM. 'bulk': how many values and letters a reading holds, each counted each time it is reached (what is shared counts as often as it is met; a slice's spare places count too). A statement '..UptoSaid' is the law's where the arguments, and the package variables that the reading takes, are together of bulk at most 1048576: NARROWER than '..Said'. Prove '..Said' where nothing that the law and all that it calls make is longer than what came in: it says more and counts as full. Else prove '..UptoSaid'. A law counts once. -/
mutual
def uptoBulk {H : Type} : DataW H → Nat
  | .lit (.string bytes) => bytes.length + 1
  | .lit _ => 1
  | .nil => 1
  | .ptr d => uptoBulk d + 1
  | .slice elems spare => uptoBulkAll elems + uptoBulkAll spare + 1
  | .agg parts => uptoBulkAll parts + 1
  | .iface _ d => uptoBulk d + 1
  | .map entries => uptoBulkEntries entries + 1
  | .held _ => 1
def uptoBulkAll {H : Type} : List (DataW H) → Nat
  | [] => 0
  | d :: r => uptoBulk d + uptoBulkAll r
def uptoBulkEntries {H : Type} : List (Lit × DataW H) → Nat
  | [] => 0
  | x :: r => uptoBulkEntry x + uptoBulkEntries r
def uptoBulkEntry {H : Type} : Lit × DataW H → Nat
  | (.string bytes, d) => bytes.length + uptoBulk d + 1
  | (_, d) => uptoBulk d + 1
 end
def uptoSmall : (H : Type) → List (DataW H) → Bool := fun _ ds => decide (uptoBulkAll ds ≤ 1048576)
def OpenSpec.upto (s : _root_.Go.ChangeSpec) : _root_.Go.OpenSpec := { _root_.Go.OpenSpec.ofChange s with cond := some uptoSmall }

/-- 'cofferdamlaw16.NoncePlays', WHERE WHAT IT READS IS OF BULK AT MOST 1048576: true; the input reads as it did. -/
def noncePlaysUptoRow : OpenClaim := { program := "ytkgbceeonmdlgaa", sum := "1c810f32d00c9eb7c9d2717885dda0124a347163b222f6e1f69169ac2cff7f2f", func := "cofferdam/cofferdamlaw16.NoncePlays", spec := "noncePlays", apart := false, narrowed := true }
def NoncePlaysUptoSaid : Prop := noncePlaysUptoRow.holds Try.pinned (OpenSpec.upto noncePlaysSpec)

/-- 'cofferdamlaw16.NonceEnds', WHERE WHAT IT READS IS OF BULK AT MOST 1048576: true; the input reads as it did. -/
def nonceEndsUptoRow : OpenClaim := { program := "ytkgbceeonmdlgaa", sum := "1c810f32d00c9eb7c9d2717885dda0124a347163b222f6e1f69169ac2cff7f2f", func := "cofferdam/cofferdamlaw16.NonceEnds", spec := "nonceEnds", apart := false, narrowed := true }
def NonceEndsUptoSaid : Prop := nonceEndsUptoRow.holds Try.pinned (OpenSpec.upto nonceEndsSpec)

/-- 'cofferdamlaw13.CodecWrites', WHERE WHAT IT READS IS OF BULK AT MOST 1048576: true; the input reads as it did. -/
def codecWritesUptoRow : OpenClaim := { program := "ytkgbceeonmdlgaa", sum := "1c810f32d00c9eb7c9d2717885dda0124a347163b222f6e1f69169ac2cff7f2f", func := "cofferdam/cofferdamlaw13.CodecWrites", spec := "codecWrites", unfollowed := true, recurses := true, apart := false, narrowed := true }
def CodecWritesUptoSaid : Prop := codecWritesUptoRow.holds Try.pinned (OpenSpec.upto codecWritesSpec)

/-- 'cofferdamlaw13.CodecBack', WHERE WHAT IT READS IS OF BULK AT MOST 1048576: true; the input reads as it did. -/
def codecBackUptoRow : OpenClaim := { program := "ytkgbceeonmdlgaa", sum := "1c810f32d00c9eb7c9d2717885dda0124a347163b222f6e1f69169ac2cff7f2f", func := "cofferdam/cofferdamlaw13.CodecBack", spec := "codecBack", unfollowed := true, recurses := true, apart := false, narrowed := true }
def CodecBackUptoSaid : Prop := codecBackUptoRow.holds Try.pinned (OpenSpec.upto codecBackSpec)

/-- 'cofferdamlaw13.CodecApart', WHERE WHAT IT READS IS OF BULK AT MOST 1048576: true; the input reads as it did. -/
def codecApartUptoRow : OpenClaim := { program := "ytkgbceeonmdlgaa", sum := "1c810f32d00c9eb7c9d2717885dda0124a347163b222f6e1f69169ac2cff7f2f", func := "cofferdam/cofferdamlaw13.CodecApart", spec := "codecApart", unfollowed := true, recurses := true, apart := false, narrowed := true }
def CodecApartUptoSaid : Prop := codecApartUptoRow.holds Try.pinned (OpenSpec.upto codecApartSpec)

/-- 'cofferdamlaw13.CodecReads', WHERE WHAT IT READS IS OF BULK AT MOST 1048576: true; the input reads as it did. -/
def codecReadsUptoRow : OpenClaim := { program := "ytkgbceeonmdlgaa", sum := "1c810f32d00c9eb7c9d2717885dda0124a347163b222f6e1f69169ac2cff7f2f", func := "cofferdam/cofferdamlaw13.CodecReads", spec := "codecReads", unfollowed := true, recurses := true, apart := false, narrowed := true }
def CodecReadsUptoSaid : Prop := codecReadsUptoRow.holds Try.pinned (OpenSpec.upto codecReadsSpec)

/-- 'cofferdamlaw13.CodecCut', WHERE WHAT IT READS IS OF BULK AT MOST 1048576: true; the input reads as it did. -/
def codecCutUptoRow : OpenClaim := { program := "ytkgbceeonmdlgaa", sum := "1c810f32d00c9eb7c9d2717885dda0124a347163b222f6e1f69169ac2cff7f2f", func := "cofferdam/cofferdamlaw13.CodecCut", spec := "codecCut", unfollowed := true, recurses := true, apart := false, narrowed := true }
def CodecCutUptoSaid : Prop := codecCutUptoRow.holds Try.pinned (OpenSpec.upto codecCutSpec)

/-- 'cofferdamlaw13.CodecNil', WHERE WHAT IT READS IS OF BULK AT MOST 1048576: true; the input reads as it did. -/
def codecNilUptoRow : OpenClaim := { program := "ytkgbceeonmdlgaa", sum := "1c810f32d00c9eb7c9d2717885dda0124a347163b222f6e1f69169ac2cff7f2f", func := "cofferdam/cofferdamlaw13.CodecNil", spec := "codecNil", unfollowed := true, recurses := true, apart := false, narrowed := true }
def CodecNilUptoSaid : Prop := codecNilUptoRow.holds Try.pinned (OpenSpec.upto codecNilSpec)

/-- 'cofferdamlaw16.NonceReads', WHERE WHAT IT READS IS OF BULK AT MOST 1048576: true; the input reads as it did. -/
def nonceReadsUptoRow : OpenClaim := { program := "ytkgbceeonmdlgaa", sum := "1c810f32d00c9eb7c9d2717885dda0124a347163b222f6e1f69169ac2cff7f2f", func := "cofferdam/cofferdamlaw16.NonceReads", spec := "nonceReads", unfollowed := true, recurses := true, apart := false, narrowed := true }
def NonceReadsUptoSaid : Prop := nonceReadsUptoRow.holds Try.pinned (OpenSpec.upto nonceReadsSpec)

/-- 'cofferdamlaw16.NonceOnce', WHERE WHAT IT READS IS OF BULK AT MOST 1048576: true; the input reads as it did. -/
def nonceOnceUptoRow : OpenClaim := { program := "ytkgbceeonmdlgaa", sum := "1c810f32d00c9eb7c9d2717885dda0124a347163b222f6e1f69169ac2cff7f2f", func := "cofferdam/cofferdamlaw16.NonceOnce", spec := "nonceOnce", unfollowed := true, recurses := true, apart := false, narrowed := true }
def NonceOnceUptoSaid : Prop := nonceOnceUptoRow.holds Try.pinned (OpenSpec.upto nonceOnceSpec)

end Rows
end Go.Proofs.Ytkgbceeonmdlgaa

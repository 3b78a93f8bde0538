/-
  No cell of these rows narrows 'for every input' (looked for: loops, veiled, ifaces, maps, wideKeys, modest, calm, conditions, laid).
  DERIVED. THE GIVEN ROWS OF THIS SEAT. 12 by the template 'for every input the law returns true; each argument reads behind the call as it read before'; 0 by the template 'total and deterministic' (their statements: YtpaagjjgmlmngaaTotals.lean).
  GIVEN WITH THE SEED: the statements are not yours to turn. If you find one false, say at which input.
  Laid BY PROGRAM, IN A SANDBOX (cutbox-rows.mjs): the forced cells as the released guide's own fill.sh prints them over the translation 289ec212c60e03a4… (all of the seat's roots in one cut). By AI agents, Wed Nov 11 2026. No macro, syntax, notation, axiom, sorry.
-/
import Derived.Test.YtpaagjjgmlmngaaChecked
import GoSem.Claim
import GoSem.ClaimJoined
import GoSem.ClaimMapViews
import Derived.JoinedTies
import Derived.KernelRfl
namespace Go.Proofs.Ytpaagjjgmlmngaa
/- THE CELL 'sum', in the pinned program and in every row, IS THE sha256 OF THE DUMP (.gsa) THAT YtpaagjjgmlmngaaProg.lean LOADS. Nothing in Lean hashes anything: it is a label: what it is worth is what the hold of that sum in a sandbox is worth. -/
noncomputable def Try.pinned : Pinned := { name := "ytpaagjjgmlmngaa", sum := "289ec212c60e03a4929efc325bbedf57cc36ab54a2575618a1ea93b810a4ff2e", checked := Try.checked }
namespace Rows
def none {H : Type} : Left H := { results := [], args := [] }

/-- 'cofferdamlaw07.PolyEqual': WHATEVER THE INPUT: true; the input reads as it did. -/
def polyEqualSpec : ChangeSpec := { name := "polyEqual", fn := fun _ => fun
  | [d1, d2] => { results := [.lit (.bool true)], args := [d1, d2] }
  | _ => none }
def polyEqualRow : OpenClaim := { program := "ytpaagjjgmlmngaa", sum := "289ec212c60e03a4929efc325bbedf57cc36ab54a2575618a1ea93b810a4ff2e", func := "cofferdam/cofferdamlaw07.PolyEqual", spec := "polyEqual", apart := false }
def PolyEqualSaid : Prop := polyEqualRow.holds Try.pinned (OpenSpec.ofChange polyEqualSpec)

/-- ITS FALSE NEIGHBOUR: 'it returns false'. Refute it at one input. -/
def polyEqualWrong : ChangeSpec := { name := "polyEqual", fn := fun _ => fun
  | [d1, d2] => { results := [.lit (.bool false)], args := [d1, d2] }
  | _ => none }
def PolyEqualWrongFalsely : Prop := polyEqualRow.holds Try.pinned (OpenSpec.ofChange polyEqualWrong)

/-- 'cofferdamlaw07.PolyClamps': WHATEVER THE INPUT: true; the input reads as it did. -/
def polyClampsSpec : ChangeSpec := { name := "polyClamps", fn := fun _ => fun
  | [d1, d2] => { results := [.lit (.bool true)], args := [d1, d2] }
  | _ => none }
def polyClampsRow : OpenClaim := { program := "ytpaagjjgmlmngaa", sum := "289ec212c60e03a4929efc325bbedf57cc36ab54a2575618a1ea93b810a4ff2e", func := "cofferdam/cofferdamlaw07.PolyClamps", spec := "polyClamps", unfollowed := true, recurses := true, apart := false }
def PolyClampsSaid : Prop := polyClampsRow.holds Try.pinned (OpenSpec.ofChange polyClampsSpec)

/-- ITS FALSE NEIGHBOUR: 'it returns false'. Refute it at one input. -/
def polyClampsWrong : ChangeSpec := { name := "polyClamps", fn := fun _ => fun
  | [d1, d2] => { results := [.lit (.bool false)], args := [d1, d2] }
  | _ => none }
def PolyClampsWrongFalsely : Prop := polyClampsRow.holds Try.pinned (OpenSpec.ofChange polyClampsWrong)

/-- 'cofferdamlaw07.PolySums': WHATEVER THE INPUT: true; the input reads as it did. -/
def polySumsSpec : ChangeSpec := { name := "polySums", fn := fun _ => fun
  | [d1, d2, d3] => { results := [.lit (.bool true)], args := [d1, d2, d3] }
  | _ => none }
def polySumsRow : OpenClaim := { program := "ytpaagjjgmlmngaa", sum := "289ec212c60e03a4929efc325bbedf57cc36ab54a2575618a1ea93b810a4ff2e", func := "cofferdam/cofferdamlaw07.PolySums", spec := "polySums", unfollowed := true, recurses := true, apart := false }
def PolySumsSaid : Prop := polySumsRow.holds Try.pinned (OpenSpec.ofChange polySumsSpec)

/-- ITS FALSE NEIGHBOUR: 'it returns false'. Refute it at one input. -/
def polySumsWrong : ChangeSpec := { name := "polySums", fn := fun _ => fun
  | [d1, d2, d3] => { results := [.lit (.bool false)], args := [d1, d2, d3] }
  | _ => none }
def PolySumsWrongFalsely : Prop := polySumsRow.holds Try.pinned (OpenSpec.ofChange polySumsWrong)

/-- 'cofferdamlaw07.PolyEnds': WHATEVER THE INPUT: true; the input reads as it did. -/
def polyEndsSpec : ChangeSpec := { name := "polyEnds", fn := fun _ => fun
  | [d1, d2, d3] => { results := [.lit (.bool true)], args := [d1, d2, d3] }
  | _ => none }
def polyEndsRow : OpenClaim := { program := "ytpaagjjgmlmngaa", sum := "289ec212c60e03a4929efc325bbedf57cc36ab54a2575618a1ea93b810a4ff2e", func := "cofferdam/cofferdamlaw07.PolyEnds", spec := "polyEnds", unfollowed := true, recurses := true, apart := false }
def PolyEndsSaid : Prop := polyEndsRow.holds Try.pinned (OpenSpec.ofChange polyEndsSpec)

/-- ITS FALSE NEIGHBOUR: 'it returns false'. Refute it at one input. -/
def polyEndsWrong : ChangeSpec := { name := "polyEnds", fn := fun _ => fun
  | [d1, d2, d3] => { results := [.lit (.bool false)], args := [d1, d2, d3] }
  | _ => none }
def PolyEndsWrongFalsely : Prop := polyEndsRow.holds Try.pinned (OpenSpec.ofChange polyEndsWrong)

/-- 'cofferdamlaw07.PolySecond': WHATEVER THE INPUT: true; the input reads as it did. -/
def polySecondSpec : ChangeSpec := { name := "polySecond", fn := fun _ => fun
  | [d1, d2, d3] => { results := [.lit (.bool true)], args := [d1, d2, d3] }
  | _ => none }
def polySecondRow : OpenClaim := { program := "ytpaagjjgmlmngaa", sum := "289ec212c60e03a4929efc325bbedf57cc36ab54a2575618a1ea93b810a4ff2e", func := "cofferdam/cofferdamlaw07.PolySecond", spec := "polySecond", unfollowed := true, recurses := true, apart := false }
def PolySecondSaid : Prop := polySecondRow.holds Try.pinned (OpenSpec.ofChange polySecondSpec)

/-- ITS FALSE NEIGHBOUR: 'it returns false'. Refute it at one input. -/
def polySecondWrong : ChangeSpec := { name := "polySecond", fn := fun _ => fun
  | [d1, d2, d3] => { results := [.lit (.bool false)], args := [d1, d2, d3] }
  | _ => none }
def PolySecondWrongFalsely : Prop := polySecondRow.holds Try.pinned (OpenSpec.ofChange polySecondWrong)

/-- 'cofferdamlaw07.PolyUnused': WHATEVER THE INPUT: true; the input reads as it did. -/
def polyUnusedSpec : ChangeSpec := { name := "polyUnused", fn := fun _ => fun
  | [d1, d2, d3] => { results := [.lit (.bool true)], args := [d1, d2, d3] }
  | _ => none }
def polyUnusedRow : OpenClaim := { program := "ytpaagjjgmlmngaa", sum := "289ec212c60e03a4929efc325bbedf57cc36ab54a2575618a1ea93b810a4ff2e", func := "cofferdam/cofferdamlaw07.PolyUnused", spec := "polyUnused", unfollowed := true, recurses := true, apart := false }
def PolyUnusedSaid : Prop := polyUnusedRow.holds Try.pinned (OpenSpec.ofChange polyUnusedSpec)

/-- ITS FALSE NEIGHBOUR: 'it returns false'. Refute it at one input. -/
def polyUnusedWrong : ChangeSpec := { name := "polyUnused", fn := fun _ => fun
  | [d1, d2, d3] => { results := [.lit (.bool false)], args := [d1, d2, d3] }
  | _ => none }
def PolyUnusedWrongFalsely : Prop := polyUnusedRow.holds Try.pinned (OpenSpec.ofChange polyUnusedWrong)

/-- 'cofferdamlaw08.AeadSeals': WHATEVER THE INPUT: true; the input reads as it did. -/
def aeadSealsSpec : ChangeSpec := { name := "aeadSeals", fn := fun _ => fun
  | [d1, d2, d3] => { results := [.lit (.bool true)], args := [d1, d2, d3] }
  | _ => none }
def aeadSealsRow : OpenClaim := { program := "ytpaagjjgmlmngaa", sum := "289ec212c60e03a4929efc325bbedf57cc36ab54a2575618a1ea93b810a4ff2e", func := "cofferdam/cofferdamlaw08.AeadSeals", spec := "aeadSeals", inPlace := ["internal/abi.NoEscape", "internal/bytealg.MakeNoZero"], unfollowed := true, recurses := true, apart := false }
def AeadSealsSaid : Prop := aeadSealsRow.holds Try.pinned (OpenSpec.ofChange aeadSealsSpec)

/-- ITS FALSE NEIGHBOUR: 'it returns false'. Refute it at one input. -/
def aeadSealsWrong : ChangeSpec := { name := "aeadSeals", fn := fun _ => fun
  | [d1, d2, d3] => { results := [.lit (.bool false)], args := [d1, d2, d3] }
  | _ => none }
def AeadSealsWrongFalsely : Prop := aeadSealsRow.holds Try.pinned (OpenSpec.ofChange aeadSealsWrong)

/-- 'cofferdamlaw08.AeadOpens': WHATEVER THE INPUT: true; the input reads as it did. -/
def aeadOpensSpec : ChangeSpec := { name := "aeadOpens", fn := fun _ => fun
  | [d1, d2, d3] => { results := [.lit (.bool true)], args := [d1, d2, d3] }
  | _ => none }
def aeadOpensRow : OpenClaim := { program := "ytpaagjjgmlmngaa", sum := "289ec212c60e03a4929efc325bbedf57cc36ab54a2575618a1ea93b810a4ff2e", func := "cofferdam/cofferdamlaw08.AeadOpens", spec := "aeadOpens", inPlace := ["internal/abi.NoEscape", "internal/bytealg.MakeNoZero"], unfollowed := true, recurses := true, apart := false }
def AeadOpensSaid : Prop := aeadOpensRow.holds Try.pinned (OpenSpec.ofChange aeadOpensSpec)

/-- ITS FALSE NEIGHBOUR: 'it returns false'. Refute it at one input. -/
def aeadOpensWrong : ChangeSpec := { name := "aeadOpens", fn := fun _ => fun
  | [d1, d2, d3] => { results := [.lit (.bool false)], args := [d1, d2, d3] }
  | _ => none }
def AeadOpensWrongFalsely : Prop := aeadOpensRow.holds Try.pinned (OpenSpec.ofChange aeadOpensWrong)

/-- 'cofferdamlaw08.AeadBack': WHATEVER THE INPUT: true; the input reads as it did. -/
def aeadBackSpec : ChangeSpec := { name := "aeadBack", fn := fun _ => fun
  | [d1, d2, d3] => { results := [.lit (.bool true)], args := [d1, d2, d3] }
  | _ => none }
def aeadBackRow : OpenClaim := { program := "ytpaagjjgmlmngaa", sum := "289ec212c60e03a4929efc325bbedf57cc36ab54a2575618a1ea93b810a4ff2e", func := "cofferdam/cofferdamlaw08.AeadBack", spec := "aeadBack", inPlace := ["internal/abi.NoEscape", "internal/bytealg.MakeNoZero"], unfollowed := true, recurses := true, apart := false }
def AeadBackSaid : Prop := aeadBackRow.holds Try.pinned (OpenSpec.ofChange aeadBackSpec)

/-- ITS FALSE NEIGHBOUR: 'it returns false'. Refute it at one input. -/
def aeadBackWrong : ChangeSpec := { name := "aeadBack", fn := fun _ => fun
  | [d1, d2, d3] => { results := [.lit (.bool false)], args := [d1, d2, d3] }
  | _ => none }
def AeadBackWrongFalsely : Prop := aeadBackRow.holds Try.pinned (OpenSpec.ofChange aeadBackWrong)

/-- 'cofferdamlaw08.AeadTag': WHATEVER THE INPUT: true; the input reads as it did. -/
def aeadTagSpec : ChangeSpec := { name := "aeadTag", fn := fun _ => fun
  | [d1, d2, d3] => { results := [.lit (.bool true)], args := [d1, d2, d3] }
  | _ => none }
def aeadTagRow : OpenClaim := { program := "ytpaagjjgmlmngaa", sum := "289ec212c60e03a4929efc325bbedf57cc36ab54a2575618a1ea93b810a4ff2e", func := "cofferdam/cofferdamlaw08.AeadTag", spec := "aeadTag", inPlace := ["internal/abi.NoEscape", "internal/bytealg.MakeNoZero"], unfollowed := true, recurses := true, apart := false }
def AeadTagSaid : Prop := aeadTagRow.holds Try.pinned (OpenSpec.ofChange aeadTagSpec)

/-- ITS FALSE NEIGHBOUR: 'it returns false'. Refute it at one input. -/
def aeadTagWrong : ChangeSpec := { name := "aeadTag", fn := fun _ => fun
  | [d1, d2, d3] => { results := [.lit (.bool false)], args := [d1, d2, d3] }
  | _ => none }
def AeadTagWrongFalsely : Prop := aeadTagRow.holds Try.pinned (OpenSpec.ofChange aeadTagWrong)

/-- 'cofferdamlaw08.AeadStream': WHATEVER THE INPUT: true; the input reads as it did. -/
def aeadStreamSpec : ChangeSpec := { name := "aeadStream", fn := fun _ => fun
  | [d1, d2, d3] => { results := [.lit (.bool true)], args := [d1, d2, d3] }
  | _ => none }
def aeadStreamRow : OpenClaim := { program := "ytpaagjjgmlmngaa", sum := "289ec212c60e03a4929efc325bbedf57cc36ab54a2575618a1ea93b810a4ff2e", func := "cofferdam/cofferdamlaw08.AeadStream", spec := "aeadStream", inPlace := ["internal/abi.NoEscape", "internal/bytealg.MakeNoZero"], unfollowed := true, recurses := true, apart := false }
def AeadStreamSaid : Prop := aeadStreamRow.holds Try.pinned (OpenSpec.ofChange aeadStreamSpec)

/-- ITS FALSE NEIGHBOUR: 'it returns false'. Refute it at one input. -/
def aeadStreamWrong : ChangeSpec := { name := "aeadStream", fn := fun _ => fun
  | [d1, d2, d3] => { results := [.lit (.bool false)], args := [d1, d2, d3] }
  | _ => none }
def AeadStreamWrongFalsely : Prop := aeadStreamRow.holds Try.pinned (OpenSpec.ofChange aeadStreamWrong)

/-- 'cofferdamlaw08.AeadLong': WHATEVER THE INPUT: true; the input reads as it did. -/
def aeadLongSpec : ChangeSpec := { name := "aeadLong", fn := fun _ => fun
  | [d1, d2, d3] => { results := [.lit (.bool true)], args := [d1, d2, d3] }
  | _ => none }
def aeadLongRow : OpenClaim := { program := "ytpaagjjgmlmngaa", sum := "289ec212c60e03a4929efc325bbedf57cc36ab54a2575618a1ea93b810a4ff2e", func := "cofferdam/cofferdamlaw08.AeadLong", spec := "aeadLong", inPlace := ["internal/abi.NoEscape", "internal/bytealg.MakeNoZero"], unfollowed := true, recurses := true, apart := false }
def AeadLongSaid : Prop := aeadLongRow.holds Try.pinned (OpenSpec.ofChange aeadLongSpec)

/-- ITS FALSE NEIGHBOUR: 'it returns false'. Refute it at one input. -/
def aeadLongWrong : ChangeSpec := { name := "aeadLong", fn := fun _ => fun
  | [d1, d2, d3] => { results := [.lit (.bool false)], args := [d1, d2, d3] }
  | _ => none }
def AeadLongWrongFalsely : Prop := aeadLongRow.holds Try.pinned (OpenSpec.ofChange aeadLongWrong)

/- THE SECOND FORM. 'bulk': how many values and letters a reading holds, each counted each time it is reached (what is shared counts as often as it is met; a slice's spare places count too). A statement '..UptoSaid' is the law's where the arguments, and the package variables that the reading takes, are together of bulk at most 1048576: NARROWER than '..Said'. Prove '..Said' where nothing that the law and all that it calls make is longer than what came in: it says more and counts as full. Else prove '..UptoSaid'. A law counts once. -/
mutual
def uptoBulk {H : Type} : DataW H → Nat
  | .lit (.string bytes) => bytes.length + 1
  | .lit _ => 1
  | .nil => 1
  | .ptr d => uptoBulk d + 1
  | .slice elems spare => uptoBulkAll elems + uptoBulkAll spare + 1
  | .agg parts => uptoBulkAll parts + 1
  | .iface _ d => uptoBulk d + 1
  | .map entries => uptoBulkEntries entries + 1
  | .held _ => 1
def uptoBulkAll {H : Type} : List (DataW H) → Nat
  | [] => 0
  | d :: r => uptoBulk d + uptoBulkAll r
def uptoBulkEntries {H : Type} : List (Lit × DataW H) → Nat
  | [] => 0
  | x :: r => uptoBulkEntry x + uptoBulkEntries r
def uptoBulkEntry {H : Type} : Lit × DataW H → Nat
  | (.string bytes, d) => bytes.length + uptoBulk d + 1
  | (_, d) => uptoBulk d + 1
 end
def uptoSmall : (H : Type) → List (DataW H) → Bool := fun _ ds => decide (uptoBulkAll ds ≤ 1048576)
def OpenSpec.upto (s : _root_.Go.ChangeSpec) : _root_.Go.OpenSpec := { _root_.Go.OpenSpec.ofChange s with cond := some uptoSmall }

/-- 'cofferdamlaw07.PolyEqual', WHERE WHAT IT READS IS OF BULK AT MOST 1048576: true; the input reads as it did. -/
def polyEqualUptoRow : OpenClaim := { program := "ytpaagjjgmlmngaa", sum := "289ec212c60e03a4929efc325bbedf57cc36ab54a2575618a1ea93b810a4ff2e", func := "cofferdam/cofferdamlaw07.PolyEqual", spec := "polyEqual", apart := false, narrowed := true }
def PolyEqualUptoSaid : Prop := polyEqualUptoRow.holds Try.pinned (OpenSpec.upto polyEqualSpec)

/-- 'cofferdamlaw07.PolyClamps', WHERE WHAT IT READS IS OF BULK AT MOST 1048576: true; the input reads as it did. -/
def polyClampsUptoRow : OpenClaim := { program := "ytpaagjjgmlmngaa", sum := "289ec212c60e03a4929efc325bbedf57cc36ab54a2575618a1ea93b810a4ff2e", func := "cofferdam/cofferdamlaw07.PolyClamps", spec := "polyClamps", unfollowed := true, recurses := true, apart := false, narrowed := true }
def PolyClampsUptoSaid : Prop := polyClampsUptoRow.holds Try.pinned (OpenSpec.upto polyClampsSpec)

/-- 'cofferdamlaw07.PolySums', WHERE WHAT IT READS IS OF BULK AT MOST 1048576: true; the input reads as it did. -/
def polySumsUptoRow : OpenClaim := { program := "ytpaagjjgmlmngaa", sum := "289ec212c60e03a4929efc325bbedf57cc36ab54a2575618a1ea93b810a4ff2e", func := "cofferdam/cofferdamlaw07.PolySums", spec := "polySums", unfollowed := true, recurses := true, apart := false, narrowed := true }
def PolySumsUptoSaid : Prop := polySumsUptoRow.holds Try.pinned (OpenSpec.upto polySumsSpec)

/-- 'cofferdamlaw07.PolyEnds', WHERE WHAT IT READS IS OF BULK AT MOST 1048576: true; the input reads as it did. -/
def polyEndsUptoRow : OpenClaim := { program := "ytpaagjjgmlmngaa", sum := "289ec212c60e03a4929efc325bbedf57cc36ab54a2575618a1ea93b810a4ff2e", func := "cofferdam/cofferdamlaw07.PolyEnds", spec := "polyEnds", unfollowed := true, recurses := true, apart := false, narrowed := true }
def PolyEndsUptoSaid : Prop := polyEndsUptoRow.holds Try.pinned (OpenSpec.upto polyEndsSpec)

/-- 'cofferdamlaw07.PolySecond', WHERE WHAT IT READS IS OF BULK AT MOST 1048576: true; the input reads as it did. -/
def polySecondUptoRow : OpenClaim := { program := "ytpaagjjgmlmngaa", sum := "289ec212c60e03a4929efc325bbedf57cc36ab54a2575618a1ea93b810a4ff2e", func := "cofferdam/cofferdamlaw07.PolySecond", spec := "polySecond", unfollowed := true, recurses := true, apart := false, narrowed := true }
def PolySecondUptoSaid : Prop := polySecondUptoRow.holds Try.pinned (OpenSpec.upto polySecondSpec)

/-- 'cofferdamlaw07.PolyUnused', WHERE WHAT IT READS IS OF BULK AT MOST 1048576: true; the input reads as it did. -/
def polyUnusedUptoRow : OpenClaim := { program := "ytpaagjjgmlmngaa", sum := "289ec212c60e03a4929efc325bbedf57cc36ab54a2575618a1ea93b810a4ff2e", func := "cofferdam/cofferdamlaw07.PolyUnused", spec := "polyUnused", unfollowed := true, recurses := true, apart := false, narrowed := true }
def PolyUnusedUptoSaid : Prop := polyUnusedUptoRow.holds Try.pinned (OpenSpec.upto polyUnusedSpec)

/-- 'cofferdamlaw08.AeadSeals', WHERE WHAT IT READS IS OF BULK AT MOST 1048576: true; the input reads as it did. -/
def aeadSealsUptoRow : OpenClaim := { program := "ytpaagjjgmlmngaa", sum := "289ec212c60e03a4929efc325bbedf57cc36ab54a2575618a1ea93b810a4ff2e", func := "cofferdam/cofferdamlaw08.AeadSeals", spec := "aeadSeals", inPlace := ["internal/abi.NoEscape", "internal/bytealg.MakeNoZero"], unfollowed := true, recurses := true, apart := false, narrowed := true }
def AeadSealsUptoSaid : Prop := aeadSealsUptoRow.holds Try.pinned (OpenSpec.upto aeadSealsSpec)

/-- 'cofferdamlaw08.AeadOpens', WHERE WHAT IT READS IS OF BULK AT MOST 1048576: true; the input reads as it did. -/
def aeadOpensUptoRow : OpenClaim := { program := "ytpaagjjgmlmngaa", sum := "289ec212c60e03a4929efc325bbedf57cc36ab54a2575618a1ea93b810a4ff2e", func := "cofferdam/cofferdamlaw08.AeadOpens", spec := "aeadOpens", inPlace := ["internal/abi.NoEscape", "internal/bytealg.MakeNoZero"], unfollowed := true, recurses := true, apart := false, narrowed := true }
def AeadOpensUptoSaid : Prop := aeadOpensUptoRow.holds Try.pinned (OpenSpec.upto aeadOpensSpec)

/-- 'cofferdamlaw08.AeadBack', WHERE WHAT IT READS IS OF BULK AT MOST 1048576: true; the input reads as it did. -/
def aeadBackUptoRow : OpenClaim := { program := "ytpaagjjgmlmngaa", sum := "289ec212c60e03a4929efc325bbedf57cc36ab54a2575618a1ea93b810a4ff2e", func := "cofferdam/cofferdamlaw08.AeadBack", spec := "aeadBack", inPlace := ["internal/abi.NoEscape", "internal/bytealg.MakeNoZero"], unfollowed := true, recurses := true, apart := false, narrowed := true }
def AeadBackUptoSaid : Prop := aeadBackUptoRow.holds Try.pinned (OpenSpec.upto aeadBackSpec)

/-- 'cofferdamlaw08.AeadTag', WHERE WHAT IT READS IS OF BULK AT MOST 1048576: true; the input reads as it did. -/
def aeadTagUptoRow : OpenClaim := { program := "ytpaagjjgmlmngaa", sum := "289ec212c60e03a4929efc325bbedf57cc36ab54a2575618a1ea93b810a4ff2e", func := "cofferdam/cofferdamlaw08.AeadTag", spec := "aeadTag", inPlace := ["internal/abi.NoEscape", "internal/bytealg.MakeNoZero"], unfollowed := true, recurses := true, apart := false, narrowed := true }
def AeadTagUptoSaid : Prop := aeadTagUptoRow.holds Try.pinned (OpenSpec.upto aeadTagSpec)

/-- 'cofferdamlaw08.AeadStream', WHERE WHAT IT READS IS OF BULK AT MOST 1048576: true; the input reads as it did. -/
def aeadStreamUptoRow : OpenClaim := { program := "ytpaagjjgmlmngaa", sum := "289ec212c60e03a4929efc325bbedf57cc36ab54a2575618a1ea93b810a4ff2e", func := "cofferdam/cofferdamlaw08.AeadStream", spec := "aeadStream", inPlace := ["internal/abi.NoEscape", "internal/bytealg.MakeNoZero"], unfollowed := true, recurses := true, apart := false, narrowed := true }
def AeadStreamUptoSaid : Prop := aeadStreamUptoRow.holds Try.pinned (OpenSpec.upto aeadStreamSpec)

/-- 'cofferdamlaw08.AeadLong', WHERE WHAT IT READS IS OF BULK AT MOST 1048576: true; the input reads as it did. -/
def aeadLongUptoRow : OpenClaim := { program := "ytpaagjjgmlmngaa", sum := "289ec212c60e03a4929efc325bbedf57cc36ab54a2575618a1ea93b810a4ff2e", func := "cofferdam/cofferdamlaw08.AeadLong", spec := "aeadLong", inPlace := ["internal/abi.NoEscape", "internal/bytealg.MakeNoZero"], unfollowed := true, recurses := true, apart := false, narrowed := true }
def AeadLongUptoSaid : Prop := aeadLongUptoRow.holds Try.pinned (OpenSpec.upto aeadLongSpec)

end Rows
end Go.Proofs.Ytpaagjjgmlmngaa

/-
  NARROWER THAN 'FOR EVERY INPUT', by the rows' own cells (each row's printed sentence says how): ShaSums: laid · ShaLengths: laid · ShaKinds: laid · ShaPieces: laid · ShaApart: laid · TreePaths: laid · TreeBuilds: laid · TreeFollows: laid · TreeOpens: laid · TreePuts: laid · TreeChanges: laid · TreeBinds: laid.
  DERIVED. THE GIVEN ROWS OF THIS SEAT. 12 by the template 'for every input the law returns true; each argument reads behind the call as it read before'; 0 by the template 'total and deterministic' (their statements: YtjfdcfolinphnaaDoorTotals.lean).
  GIVEN WITH THE SEED: the statements are not yours to turn. If you find one false, say at which input.
  Laid BY PROGRAM, IN A SANDBOX (cutbox-rows.mjs): the forced cells as the released guide's own fill.sh prints them over the translation 747001c210403bfd… (all of the seat's roots in one cut). By AI agents, Wed Nov 11 2026. No macro, syntax, notation, axiom, sorry.
-/
import Derived.Test.YtjfdcfolinphnaaDoorChecked
import GoSem.Claim
import GoSem.ClaimJoined
import GoSem.ClaimMapViews
import Derived.JoinedTies
import Derived.KernelRfl
namespace Go.Proofs.YtjfdcfolinphnaaDoor
/- THE CELL 'sum', in the pinned program and in every row, IS THE sha256 OF THE DUMP (.gsa) THAT YtjfdcfolinphnaaDoorProg.lean LOADS. Nothing in Lean hashes anything: it is a label: what it is worth is what the hold of that sum in a sandbox is worth. -/
noncomputable def Tryd.pinned : Pinned := { name := "ytjfdcfolinphnaadoor", sum := "747001c210403bfde87df54f37e00c02c42ec201599769d7a98d44c250faff6b", checked := Tryd.checked }
namespace Rows
def none {H : Type} : Left H := { results := [], args := [] }

/- WHAT THE LISTED PACKAGE-LEVEL VARIABLES READ AS WHEN THE CALL BEGINS. Each datum BY PROGRAM (the guide's laid-datum.mjs) off the statement by which the dump's own 'gosem.cut.vars' lays the variable. In a bare row this is a premise. The card (YtjfdcfolinphnaaDoorCards.lean) ties it to the program's text. -/
def laid_cofferdam_cofferdamref05_first {H : Type} : DataW H := .agg [.lit (.int .u32 1779033703), .lit (.int .u32 3144134277), .lit (.int .u32 1013904242), .lit (.int .u32 2773480762), .lit (.int .u32 1359893119), .lit (.int .u32 2600822924), .lit (.int .u32 528734635), .lit (.int .u32 1541459225)]
def laid_cofferdam_cofferdamref05_round {H : Type} : DataW H := .agg [.lit (.int .u32 1116352408), .lit (.int .u32 1899447441), .lit (.int .u32 3049323471), .lit (.int .u32 3921009573), .lit (.int .u32 961987163), .lit (.int .u32 1508970993), .lit (.int .u32 2453635748), .lit (.int .u32 2870763221), .lit (.int .u32 3624381080), .lit (.int .u32 310598401), .lit (.int .u32 607225278), .lit (.int .u32 1426881987), .lit (.int .u32 1925078388), .lit (.int .u32 2162078206), .lit (.int .u32 2614888103), .lit (.int .u32 3248222580), .lit (.int .u32 3835390401), .lit (.int .u32 4022224774), .lit (.int .u32 264347078), .lit (.int .u32 604807628), .lit (.int .u32 770255983), .lit (.int .u32 1249150122), .lit (.int .u32 1555081692), .lit (.int .u32 1996064986), .lit (.int .u32 2554220882), .lit (.int .u32 2821834349), .lit (.int .u32 2952996808), .lit (.int .u32 3210313671), .lit (.int .u32 3336571891), .lit (.int .u32 3584528711), .lit (.int .u32 113926993), .lit (.int .u32 338241895), .lit (.int .u32 666307205), .lit (.int .u32 773529912), .lit (.int .u32 1294757372), .lit (.int .u32 1396182291), .lit (.int .u32 1695183700), .lit (.int .u32 1986661051), .lit (.int .u32 2177026350), .lit (.int .u32 2456956037), .lit (.int .u32 2730485921), .lit (.int .u32 2820302411), .lit (.int .u32 3259730800), .lit (.int .u32 3345764771), .lit (.int .u32 3516065817), .lit (.int .u32 3600352804), .lit (.int .u32 4094571909), .lit (.int .u32 275423344), .lit (.int .u32 430227734), .lit (.int .u32 506948616), .lit (.int .u32 659060556), .lit (.int .u32 883997877), .lit (.int .u32 958139571), .lit (.int .u32 1322822218), .lit (.int .u32 1537002063), .lit (.int .u32 1747873779), .lit (.int .u32 1955562222), .lit (.int .u32 2024104815), .lit (.int .u32 2227730452), .lit (.int .u32 2361852424), .lit (.int .u32 2428436474), .lit (.int .u32 2756734187), .lit (.int .u32 3204031479), .lit (.int .u32 3329325298)]
def laid_cofferdam_sha_first {H : Type} : DataW H := .agg [.lit (.int .u32 1779033703), .lit (.int .u32 3144134277), .lit (.int .u32 1013904242), .lit (.int .u32 2773480762), .lit (.int .u32 1359893119), .lit (.int .u32 2600822924), .lit (.int .u32 528734635), .lit (.int .u32 1541459225)]
def laid_cofferdam_sha_round {H : Type} : DataW H := .agg [.lit (.int .u32 1116352408), .lit (.int .u32 1899447441), .lit (.int .u32 3049323471), .lit (.int .u32 3921009573), .lit (.int .u32 961987163), .lit (.int .u32 1508970993), .lit (.int .u32 2453635748), .lit (.int .u32 2870763221), .lit (.int .u32 3624381080), .lit (.int .u32 310598401), .lit (.int .u32 607225278), .lit (.int .u32 1426881987), .lit (.int .u32 1925078388), .lit (.int .u32 2162078206), .lit (.int .u32 2614888103), .lit (.int .u32 3248222580), .lit (.int .u32 3835390401), .lit (.int .u32 4022224774), .lit (.int .u32 264347078), .lit (.int .u32 604807628), .lit (.int .u32 770255983), .lit (.int .u32 1249150122), .lit (.int .u32 1555081692), .lit (.int .u32 1996064986), .lit (.int .u32 2554220882), .lit (.int .u32 2821834349), .lit (.int .u32 2952996808), .lit (.int .u32 3210313671), .lit (.int .u32 3336571891), .lit (.int .u32 3584528711), .lit (.int .u32 113926993), .lit (.int .u32 338241895), .lit (.int .u32 666307205), .lit (.int .u32 773529912), .lit (.int .u32 1294757372), .lit (.int .u32 1396182291), .lit (.int .u32 1695183700), .lit (.int .u32 1986661051), .lit (.int .u32 2177026350), .lit (.int .u32 2456956037), .lit (.int .u32 2730485921), .lit (.int .u32 2820302411), .lit (.int .u32 3259730800), .lit (.int .u32 3345764771), .lit (.int .u32 3516065817), .lit (.int .u32 3600352804), .lit (.int .u32 4094571909), .lit (.int .u32 275423344), .lit (.int .u32 430227734), .lit (.int .u32 506948616), .lit (.int .u32 659060556), .lit (.int .u32 883997877), .lit (.int .u32 958139571), .lit (.int .u32 1322822218), .lit (.int .u32 1537002063), .lit (.int .u32 1747873779), .lit (.int .u32 1955562222), .lit (.int .u32 2024104815), .lit (.int .u32 2227730452), .lit (.int .u32 2361852424), .lit (.int .u32 2428436474), .lit (.int .u32 2756734187), .lit (.int .u32 3204031479), .lit (.int .u32 3329325298)]
def laid_math_bits_deBruijn32tab {H : Type} : DataW H := .agg [.lit (.int .u8 0), .lit (.int .u8 1), .lit (.int .u8 28), .lit (.int .u8 2), .lit (.int .u8 29), .lit (.int .u8 14), .lit (.int .u8 24), .lit (.int .u8 3), .lit (.int .u8 30), .lit (.int .u8 22), .lit (.int .u8 20), .lit (.int .u8 15), .lit (.int .u8 25), .lit (.int .u8 17), .lit (.int .u8 4), .lit (.int .u8 8), .lit (.int .u8 31), .lit (.int .u8 27), .lit (.int .u8 13), .lit (.int .u8 23), .lit (.int .u8 21), .lit (.int .u8 19), .lit (.int .u8 16), .lit (.int .u8 7), .lit (.int .u8 26), .lit (.int .u8 12), .lit (.int .u8 18), .lit (.int .u8 6), .lit (.int .u8 11), .lit (.int .u8 5), .lit (.int .u8 10), .lit (.int .u8 9)]
def laid_math_bits_deBruijn64tab {H : Type} : DataW H := .agg [.lit (.int .u8 0), .lit (.int .u8 1), .lit (.int .u8 56), .lit (.int .u8 2), .lit (.int .u8 57), .lit (.int .u8 49), .lit (.int .u8 28), .lit (.int .u8 3), .lit (.int .u8 61), .lit (.int .u8 58), .lit (.int .u8 42), .lit (.int .u8 50), .lit (.int .u8 38), .lit (.int .u8 29), .lit (.int .u8 17), .lit (.int .u8 4), .lit (.int .u8 62), .lit (.int .u8 47), .lit (.int .u8 59), .lit (.int .u8 36), .lit (.int .u8 45), .lit (.int .u8 43), .lit (.int .u8 51), .lit (.int .u8 22), .lit (.int .u8 53), .lit (.int .u8 39), .lit (.int .u8 33), .lit (.int .u8 30), .lit (.int .u8 24), .lit (.int .u8 18), .lit (.int .u8 12), .lit (.int .u8 5), .lit (.int .u8 63), .lit (.int .u8 55), .lit (.int .u8 48), .lit (.int .u8 27), .lit (.int .u8 60), .lit (.int .u8 41), .lit (.int .u8 37), .lit (.int .u8 16), .lit (.int .u8 46), .lit (.int .u8 35), .lit (.int .u8 44), .lit (.int .u8 21), .lit (.int .u8 52), .lit (.int .u8 32), .lit (.int .u8 23), .lit (.int .u8 11), .lit (.int .u8 54), .lit (.int .u8 26), .lit (.int .u8 40), .lit (.int .u8 15), .lit (.int .u8 34), .lit (.int .u8 20), .lit (.int .u8 31), .lit (.int .u8 10), .lit (.int .u8 25), .lit (.int .u8 14), .lit (.int .u8 19), .lit (.int .u8 9), .lit (.int .u8 13), .lit (.int .u8 8), .lit (.int .u8 7), .lit (.int .u8 6)]

/-- 'cofferdamlaw05.ShaSums': WHATEVER THE INPUT: true; the input reads as it did. -/
def shaSumsSpec : ChangeSpec := { name := "shaSums", fn := fun _ => fun
  | [d] => { results := [.lit (.bool true)], args := [d] }
  | _ => none }
def shaSumsRow : OpenClaim := { program := "ytjfdcfolinphnaadoor", sum := "747001c210403bfde87df54f37e00c02c42ec201599769d7a98d44c250faff6b", func := "cofferdam/cofferdamlaw05.ShaSums", spec := "shaSums", inPlace := ["internal/abi.NoEscape", "internal/bytealg.MakeNoZero"], unfollowed := true, recurses := true, named := ["cofferdam/sha.first", "cofferdam/sha.round", "cofferdam/cofferdamref05.first", "cofferdam/cofferdamref05.round"], apart := false, laid := [("cofferdam/cofferdamref05.first", laid_cofferdam_cofferdamref05_first), ("cofferdam/cofferdamref05.round", laid_cofferdam_cofferdamref05_round), ("cofferdam/sha.first", laid_cofferdam_sha_first), ("cofferdam/sha.round", laid_cofferdam_sha_round)] }
def ShaSumsSaid : Prop := shaSumsRow.holds Tryd.pinned (OpenSpec.ofChange shaSumsSpec)

/-- ITS FALSE NEIGHBOUR: 'it returns false'. Refute it at one input. -/
def shaSumsWrong : ChangeSpec := { name := "shaSums", fn := fun _ => fun
  | [d] => { results := [.lit (.bool false)], args := [d] }
  | _ => none }
def ShaSumsWrongFalsely : Prop := shaSumsRow.holds Tryd.pinned (OpenSpec.ofChange shaSumsWrong)

/-- 'cofferdamlaw05.ShaLengths': WHATEVER THE INPUT: true; the input reads as it did. -/
def shaLengthsSpec : ChangeSpec := { name := "shaLengths", fn := fun _ => fun
  | [d1, d2] => { results := [.lit (.bool true)], args := [d1, d2] }
  | _ => none }
def shaLengthsRow : OpenClaim := { program := "ytjfdcfolinphnaadoor", sum := "747001c210403bfde87df54f37e00c02c42ec201599769d7a98d44c250faff6b", func := "cofferdam/cofferdamlaw05.ShaLengths", spec := "shaLengths", inPlace := ["internal/abi.NoEscape", "internal/bytealg.MakeNoZero"], unfollowed := true, recurses := true, named := ["cofferdam/sha.first", "cofferdam/sha.round", "cofferdam/cofferdamref05.first", "cofferdam/cofferdamref05.round"], apart := false, laid := [("cofferdam/cofferdamref05.first", laid_cofferdam_cofferdamref05_first), ("cofferdam/cofferdamref05.round", laid_cofferdam_cofferdamref05_round), ("cofferdam/sha.first", laid_cofferdam_sha_first), ("cofferdam/sha.round", laid_cofferdam_sha_round)] }
def ShaLengthsSaid : Prop := shaLengthsRow.holds Tryd.pinned (OpenSpec.ofChange shaLengthsSpec)

/-- ITS FALSE NEIGHBOUR: 'it returns false'. Refute it at one input. -/
def shaLengthsWrong : ChangeSpec := { name := "shaLengths", fn := fun _ => fun
  | [d1, d2] => { results := [.lit (.bool false)], args := [d1, d2] }
  | _ => none }
def ShaLengthsWrongFalsely : Prop := shaLengthsRow.holds Tryd.pinned (OpenSpec.ofChange shaLengthsWrong)

/-- 'cofferdamlaw05.ShaKinds': WHATEVER THE INPUT: true; the input reads as it did. -/
def shaKindsSpec : ChangeSpec := { name := "shaKinds", fn := fun _ => fun
  | [d] => { results := [.lit (.bool true)], args := [d] }
  | _ => none }
def shaKindsRow : OpenClaim := { program := "ytjfdcfolinphnaadoor", sum := "747001c210403bfde87df54f37e00c02c42ec201599769d7a98d44c250faff6b", func := "cofferdam/cofferdamlaw05.ShaKinds", spec := "shaKinds", inPlace := ["internal/abi.NoEscape", "internal/bytealg.MakeNoZero"], unfollowed := true, recurses := true, named := ["cofferdam/sha.first", "cofferdam/sha.round", "cofferdam/cofferdamref05.first", "cofferdam/cofferdamref05.round"], apart := false, laid := [("cofferdam/cofferdamref05.first", laid_cofferdam_cofferdamref05_first), ("cofferdam/cofferdamref05.round", laid_cofferdam_cofferdamref05_round), ("cofferdam/sha.first", laid_cofferdam_sha_first), ("cofferdam/sha.round", laid_cofferdam_sha_round)] }
def ShaKindsSaid : Prop := shaKindsRow.holds Tryd.pinned (OpenSpec.ofChange shaKindsSpec)

/-- ITS FALSE NEIGHBOUR: 'it returns false'. Refute it at one input. -/
def shaKindsWrong : ChangeSpec := { name := "shaKinds", fn := fun _ => fun
  | [d] => { results := [.lit (.bool false)], args := [d] }
  | _ => none }
def ShaKindsWrongFalsely : Prop := shaKindsRow.holds Tryd.pinned (OpenSpec.ofChange shaKindsWrong)

/-- 'cofferdamlaw05.ShaPieces': WHATEVER THE INPUT: true; the input reads as it did. -/
def shaPiecesSpec : ChangeSpec := { name := "shaPieces", fn := fun _ => fun
  | [d1, d2] => { results := [.lit (.bool true)], args := [d1, d2] }
  | _ => none }
def shaPiecesRow : OpenClaim := { program := "ytjfdcfolinphnaadoor", sum := "747001c210403bfde87df54f37e00c02c42ec201599769d7a98d44c250faff6b", func := "cofferdam/cofferdamlaw05.ShaPieces", spec := "shaPieces", inPlace := ["internal/abi.NoEscape", "internal/bytealg.MakeNoZero"], unfollowed := true, recurses := true, named := ["cofferdam/sha.first", "cofferdam/sha.round"], apart := false, laid := [("cofferdam/sha.first", laid_cofferdam_sha_first), ("cofferdam/sha.round", laid_cofferdam_sha_round)] }
def ShaPiecesSaid : Prop := shaPiecesRow.holds Tryd.pinned (OpenSpec.ofChange shaPiecesSpec)

/-- ITS FALSE NEIGHBOUR: 'it returns false'. Refute it at one input. -/
def shaPiecesWrong : ChangeSpec := { name := "shaPieces", fn := fun _ => fun
  | [d1, d2] => { results := [.lit (.bool false)], args := [d1, d2] }
  | _ => none }
def ShaPiecesWrongFalsely : Prop := shaPiecesRow.holds Tryd.pinned (OpenSpec.ofChange shaPiecesWrong)

/-- 'cofferdamlaw05.ShaApart': WHATEVER THE INPUT: true; the input reads as it did. -/
def shaApartSpec : ChangeSpec := { name := "shaApart", fn := fun _ => fun
  | [d1, d2] => { results := [.lit (.bool true)], args := [d1, d2] }
  | _ => none }
def shaApartRow : OpenClaim := { program := "ytjfdcfolinphnaadoor", sum := "747001c210403bfde87df54f37e00c02c42ec201599769d7a98d44c250faff6b", func := "cofferdam/cofferdamlaw05.ShaApart", spec := "shaApart", inPlace := ["internal/abi.NoEscape", "internal/bytealg.MakeNoZero"], unfollowed := true, recurses := true, named := ["cofferdam/sha.first", "cofferdam/sha.round"], apart := false, laid := [("cofferdam/sha.first", laid_cofferdam_sha_first), ("cofferdam/sha.round", laid_cofferdam_sha_round)] }
def ShaApartSaid : Prop := shaApartRow.holds Tryd.pinned (OpenSpec.ofChange shaApartSpec)

/-- ITS FALSE NEIGHBOUR: 'it returns false'. Refute it at one input. -/
def shaApartWrong : ChangeSpec := { name := "shaApart", fn := fun _ => fun
  | [d1, d2] => { results := [.lit (.bool false)], args := [d1, d2] }
  | _ => none }
def ShaApartWrongFalsely : Prop := shaApartRow.holds Tryd.pinned (OpenSpec.ofChange shaApartWrong)

/-- 'cofferdamlaw12.TreePaths': WHATEVER THE INPUT: true; the input reads as it did. -/
def treePathsSpec : ChangeSpec := { name := "treePaths", fn := fun _ => fun
  | [d1, d2] => { results := [.lit (.bool true)], args := [d1, d2] }
  | _ => none }
def treePathsRow : OpenClaim := { program := "ytjfdcfolinphnaadoor", sum := "747001c210403bfde87df54f37e00c02c42ec201599769d7a98d44c250faff6b", func := "cofferdam/cofferdamlaw12.TreePaths", spec := "treePaths", inPlace := ["internal/abi.NoEscape", "internal/bytealg.MakeNoZero"], unfollowed := true, recurses := true, named := ["math/bits.deBruijn32tab", "math/bits.deBruijn64tab", "cofferdam/sha.first", "cofferdam/sha.round"], apart := false, laid := [("math/bits.deBruijn32tab", laid_math_bits_deBruijn32tab), ("math/bits.deBruijn64tab", laid_math_bits_deBruijn64tab), ("cofferdam/sha.first", laid_cofferdam_sha_first), ("cofferdam/sha.round", laid_cofferdam_sha_round)] }
def TreePathsSaid : Prop := treePathsRow.holds Tryd.pinned (OpenSpec.ofChange treePathsSpec)

/-- ITS FALSE NEIGHBOUR: 'it returns false'. Refute it at one input. -/
def treePathsWrong : ChangeSpec := { name := "treePaths", fn := fun _ => fun
  | [d1, d2] => { results := [.lit (.bool false)], args := [d1, d2] }
  | _ => none }
def TreePathsWrongFalsely : Prop := treePathsRow.holds Tryd.pinned (OpenSpec.ofChange treePathsWrong)

/-- 'cofferdamlaw12.TreeBuilds': WHATEVER THE INPUT: true; the input reads as it did. -/
def treeBuildsSpec : ChangeSpec := { name := "treeBuilds", fn := fun _ => fun
  | [d1, d2, d3] => { results := [.lit (.bool true)], args := [d1, d2, d3] }
  | _ => none }
def treeBuildsRow : OpenClaim := { program := "ytjfdcfolinphnaadoor", sum := "747001c210403bfde87df54f37e00c02c42ec201599769d7a98d44c250faff6b", func := "cofferdam/cofferdamlaw12.TreeBuilds", spec := "treeBuilds", inPlace := ["internal/abi.NoEscape", "internal/bytealg.MakeNoZero"], unfollowed := true, recurses := true, named := ["cofferdam/sha.first", "cofferdam/sha.round", "math/bits.deBruijn32tab", "math/bits.deBruijn64tab", "cofferdam/cofferdamref05.first", "cofferdam/cofferdamref05.round"], apart := false, laid := [("cofferdam/cofferdamref05.first", laid_cofferdam_cofferdamref05_first), ("cofferdam/cofferdamref05.round", laid_cofferdam_cofferdamref05_round), ("math/bits.deBruijn32tab", laid_math_bits_deBruijn32tab), ("math/bits.deBruijn64tab", laid_math_bits_deBruijn64tab), ("cofferdam/sha.first", laid_cofferdam_sha_first), ("cofferdam/sha.round", laid_cofferdam_sha_round)] }
def TreeBuildsSaid : Prop := treeBuildsRow.holds Tryd.pinned (OpenSpec.ofChange treeBuildsSpec)

/-- ITS FALSE NEIGHBOUR: 'it returns false'. Refute it at one input. -/
def treeBuildsWrong : ChangeSpec := { name := "treeBuilds", fn := fun _ => fun
  | [d1, d2, d3] => { results := [.lit (.bool false)], args := [d1, d2, d3] }
  | _ => none }
def TreeBuildsWrongFalsely : Prop := treeBuildsRow.holds Tryd.pinned (OpenSpec.ofChange treeBuildsWrong)

/-- 'cofferdamlaw12.TreeFollows': WHATEVER THE INPUT: true; the input reads as it did. -/
def treeFollowsSpec : ChangeSpec := { name := "treeFollows", fn := fun _ => fun
  | [d1, d2, d3] => { results := [.lit (.bool true)], args := [d1, d2, d3] }
  | _ => none }
def treeFollowsRow : OpenClaim := { program := "ytjfdcfolinphnaadoor", sum := "747001c210403bfde87df54f37e00c02c42ec201599769d7a98d44c250faff6b", func := "cofferdam/cofferdamlaw12.TreeFollows", spec := "treeFollows", inPlace := ["internal/abi.NoEscape", "internal/bytealg.MakeNoZero"], unfollowed := true, recurses := true, named := ["cofferdam/sha.first", "cofferdam/sha.round", "cofferdam/cofferdamref05.first", "cofferdam/cofferdamref05.round", "math/bits.deBruijn32tab", "math/bits.deBruijn64tab"], apart := false, laid := [("cofferdam/cofferdamref05.first", laid_cofferdam_cofferdamref05_first), ("cofferdam/cofferdamref05.round", laid_cofferdam_cofferdamref05_round), ("math/bits.deBruijn32tab", laid_math_bits_deBruijn32tab), ("math/bits.deBruijn64tab", laid_math_bits_deBruijn64tab), ("cofferdam/sha.first", laid_cofferdam_sha_first), ("cofferdam/sha.round", laid_cofferdam_sha_round)] }
def TreeFollowsSaid : Prop := treeFollowsRow.holds Tryd.pinned (OpenSpec.ofChange treeFollowsSpec)

/-- ITS FALSE NEIGHBOUR: 'it returns false'. Refute it at one input. -/
def treeFollowsWrong : ChangeSpec := { name := "treeFollows", fn := fun _ => fun
  | [d1, d2, d3] => { results := [.lit (.bool false)], args := [d1, d2, d3] }
  | _ => none }
def TreeFollowsWrongFalsely : Prop := treeFollowsRow.holds Tryd.pinned (OpenSpec.ofChange treeFollowsWrong)

/-- 'cofferdamlaw12.TreeOpens': WHATEVER THE INPUT: true; the input reads as it did. -/
def treeOpensSpec : ChangeSpec := { name := "treeOpens", fn := fun _ => fun
  | [d1, d2, d3] => { results := [.lit (.bool true)], args := [d1, d2, d3] }
  | _ => none }
def treeOpensRow : OpenClaim := { program := "ytjfdcfolinphnaadoor", sum := "747001c210403bfde87df54f37e00c02c42ec201599769d7a98d44c250faff6b", func := "cofferdam/cofferdamlaw12.TreeOpens", spec := "treeOpens", inPlace := ["internal/abi.NoEscape", "internal/bytealg.MakeNoZero"], unfollowed := true, recurses := true, named := ["cofferdam/sha.first", "cofferdam/sha.round", "math/bits.deBruijn32tab", "math/bits.deBruijn64tab"], apart := false, laid := [("math/bits.deBruijn32tab", laid_math_bits_deBruijn32tab), ("math/bits.deBruijn64tab", laid_math_bits_deBruijn64tab), ("cofferdam/sha.first", laid_cofferdam_sha_first), ("cofferdam/sha.round", laid_cofferdam_sha_round)] }
def TreeOpensSaid : Prop := treeOpensRow.holds Tryd.pinned (OpenSpec.ofChange treeOpensSpec)

/-- ITS FALSE NEIGHBOUR: 'it returns false'. Refute it at one input. -/
def treeOpensWrong : ChangeSpec := { name := "treeOpens", fn := fun _ => fun
  | [d1, d2, d3] => { results := [.lit (.bool false)], args := [d1, d2, d3] }
  | _ => none }
def TreeOpensWrongFalsely : Prop := treeOpensRow.holds Tryd.pinned (OpenSpec.ofChange treeOpensWrong)

/-- 'cofferdamlaw12.TreePuts': WHATEVER THE INPUT: true; the input reads as it did. -/
def treePutsSpec : ChangeSpec := { name := "treePuts", fn := fun _ => fun
  | [d1, d2, d3] => { results := [.lit (.bool true)], args := [d1, d2, d3] }
  | _ => none }
def treePutsRow : OpenClaim := { program := "ytjfdcfolinphnaadoor", sum := "747001c210403bfde87df54f37e00c02c42ec201599769d7a98d44c250faff6b", func := "cofferdam/cofferdamlaw12.TreePuts", spec := "treePuts", inPlace := ["internal/abi.NoEscape", "internal/bytealg.MakeNoZero"], unfollowed := true, recurses := true, named := ["cofferdam/sha.first", "cofferdam/sha.round", "cofferdam/cofferdamref05.first", "cofferdam/cofferdamref05.round", "math/bits.deBruijn32tab", "math/bits.deBruijn64tab"], apart := false, laid := [("cofferdam/cofferdamref05.first", laid_cofferdam_cofferdamref05_first), ("cofferdam/cofferdamref05.round", laid_cofferdam_cofferdamref05_round), ("math/bits.deBruijn32tab", laid_math_bits_deBruijn32tab), ("math/bits.deBruijn64tab", laid_math_bits_deBruijn64tab), ("cofferdam/sha.first", laid_cofferdam_sha_first), ("cofferdam/sha.round", laid_cofferdam_sha_round)] }
def TreePutsSaid : Prop := treePutsRow.holds Tryd.pinned (OpenSpec.ofChange treePutsSpec)

/-- ITS FALSE NEIGHBOUR: 'it returns false'. Refute it at one input. -/
def treePutsWrong : ChangeSpec := { name := "treePuts", fn := fun _ => fun
  | [d1, d2, d3] => { results := [.lit (.bool false)], args := [d1, d2, d3] }
  | _ => none }
def TreePutsWrongFalsely : Prop := treePutsRow.holds Tryd.pinned (OpenSpec.ofChange treePutsWrong)

/-- 'cofferdamlaw12.TreeChanges': WHATEVER THE INPUT: true; the input reads as it did. -/
def treeChangesSpec : ChangeSpec := { name := "treeChanges", fn := fun _ => fun
  | [d1, d2, d3] => { results := [.lit (.bool true)], args := [d1, d2, d3] }
  | _ => none }
def treeChangesRow : OpenClaim := { program := "ytjfdcfolinphnaadoor", sum := "747001c210403bfde87df54f37e00c02c42ec201599769d7a98d44c250faff6b", func := "cofferdam/cofferdamlaw12.TreeChanges", spec := "treeChanges", inPlace := ["internal/abi.NoEscape", "internal/bytealg.MakeNoZero"], unfollowed := true, recurses := true, named := ["cofferdam/sha.first", "cofferdam/sha.round", "math/bits.deBruijn32tab", "math/bits.deBruijn64tab"], apart := false, laid := [("math/bits.deBruijn32tab", laid_math_bits_deBruijn32tab), ("math/bits.deBruijn64tab", laid_math_bits_deBruijn64tab), ("cofferdam/sha.first", laid_cofferdam_sha_first), ("cofferdam/sha.round", laid_cofferdam_sha_round)] }
def TreeChangesSaid : Prop := treeChangesRow.holds Tryd.pinned (OpenSpec.ofChange treeChangesSpec)

/-- ITS FALSE NEIGHBOUR: 'it returns false'. Refute it at one input. -/
def treeChangesWrong : ChangeSpec := { name := "treeChanges", fn := fun _ => fun
  | [d1, d2, d3] => { results := [.lit (.bool false)], args := [d1, d2, d3] }
  | _ => none }
def TreeChangesWrongFalsely : Prop := treeChangesRow.holds Tryd.pinned (OpenSpec.ofChange treeChangesWrong)

/-- 'cofferdamlaw12.TreeBinds': WHATEVER THE INPUT: true; the input reads as it did. -/
def treeBindsSpec : ChangeSpec := { name := "treeBinds", fn := fun _ => fun
  | [d1, d2, d3] => { results := [.lit (.bool true)], args := [d1, d2, d3] }
  | _ => none }
def treeBindsRow : OpenClaim := { program := "ytjfdcfolinphnaadoor", sum := "747001c210403bfde87df54f37e00c02c42ec201599769d7a98d44c250faff6b", func := "cofferdam/cofferdamlaw12.TreeBinds", spec := "treeBinds", inPlace := ["internal/abi.NoEscape", "internal/bytealg.MakeNoZero"], unfollowed := true, recurses := true, named := ["cofferdam/sha.first", "cofferdam/sha.round", "math/bits.deBruijn32tab", "math/bits.deBruijn64tab"], apart := false, laid := [("math/bits.deBruijn32tab", laid_math_bits_deBruijn32tab), ("math/bits.deBruijn64tab", laid_math_bits_deBruijn64tab), ("cofferdam/sha.first", laid_cofferdam_sha_first), ("cofferdam/sha.round", laid_cofferdam_sha_round)] }
def TreeBindsSaid : Prop := treeBindsRow.holds Tryd.pinned (OpenSpec.ofChange treeBindsSpec)

/-- ITS FALSE NEIGHBOUR: 'it returns false'. Refute it at one input. -/
def treeBindsWrong : ChangeSpec := { name := "treeBinds", fn := fun _ => fun
  | [d1, d2, d3] => { results := [.lit (.bool false)], args := [d1, d2, d3] }
  | _ => none }
def TreeBindsWrongFalsely : Prop := treeBindsRow.holds Tryd.pinned (OpenSpec.ofChange treeBindsWrong)

/- THE SECOND FORM. 'bulk': how many values and letters a reading holds, each counted each time it is reached (what is shared counts as often as it is met; a slice's spare places count too). A statement '..UptoSaid' is the law's where the arguments, and the package variables that the reading takes, are together of bulk at most 1048576: NARROWER than '..Said'. Prove '..Said' where nothing that the law and all that it calls make is longer than what came in: it says more and counts as full. Else prove '..UptoSaid'. A law counts once. -/
mutual
def uptoBulk {H : Type} : DataW H → Nat
  | .lit (.string bytes) => bytes.length + 1
  | .lit _ => 1
  | .nil => 1
  | .ptr d => uptoBulk d + 1
  | .slice elems spare => uptoBulkAll elems + uptoBulkAll spare + 1
  | .agg parts => uptoBulkAll parts + 1
  | .iface _ d => uptoBulk d + 1
  | .map entries => uptoBulkEntries entries + 1
  | .held _ => 1
def uptoBulkAll {H : Type} : List (DataW H) → Nat
  | [] => 0
  | d :: r => uptoBulk d + uptoBulkAll r
def uptoBulkEntries {H : Type} : List (Lit × DataW H) → Nat
  | [] => 0
  | x :: r => uptoBulkEntry x + uptoBulkEntries r
def uptoBulkEntry {H : Type} : Lit × DataW H → Nat
  | (.string bytes, d) => bytes.length + uptoBulk d + 1
  | (_, d) => uptoBulk d + 1
 end
def uptoSmall : (H : Type) → List (DataW H) → Bool := fun _ ds => decide (uptoBulkAll ds ≤ 1048576)
def OpenSpec.upto (s : _root_.Go.ChangeSpec) : _root_.Go.OpenSpec := { _root_.Go.OpenSpec.ofChange s with cond := some uptoSmall }

/-- 'cofferdamlaw05.ShaSums', WHERE WHAT IT READS IS OF BULK AT MOST 1048576: true; the input reads as it did. -/
def shaSumsUptoRow : OpenClaim := { program := "ytjfdcfolinphnaadoor", sum := "747001c210403bfde87df54f37e00c02c42ec201599769d7a98d44c250faff6b", func := "cofferdam/cofferdamlaw05.ShaSums", spec := "shaSums", inPlace := ["internal/abi.NoEscape", "internal/bytealg.MakeNoZero"], unfollowed := true, recurses := true, named := ["cofferdam/sha.first", "cofferdam/sha.round", "cofferdam/cofferdamref05.first", "cofferdam/cofferdamref05.round"], apart := false, laid := [("cofferdam/cofferdamref05.first", laid_cofferdam_cofferdamref05_first), ("cofferdam/cofferdamref05.round", laid_cofferdam_cofferdamref05_round), ("cofferdam/sha.first", laid_cofferdam_sha_first), ("cofferdam/sha.round", laid_cofferdam_sha_round)], narrowed := true }
def ShaSumsUptoSaid : Prop := shaSumsUptoRow.holds Tryd.pinned (OpenSpec.upto shaSumsSpec)

/-- 'cofferdamlaw05.ShaLengths', WHERE WHAT IT READS IS OF BULK AT MOST 1048576: true; the input reads as it did. -/
def shaLengthsUptoRow : OpenClaim := { program := "ytjfdcfolinphnaadoor", sum := "747001c210403bfde87df54f37e00c02c42ec201599769d7a98d44c250faff6b", func := "cofferdam/cofferdamlaw05.ShaLengths", spec := "shaLengths", inPlace := ["internal/abi.NoEscape", "internal/bytealg.MakeNoZero"], unfollowed := true, recurses := true, named := ["cofferdam/sha.first", "cofferdam/sha.round", "cofferdam/cofferdamref05.first", "cofferdam/cofferdamref05.round"], apart := false, laid := [("cofferdam/cofferdamref05.first", laid_cofferdam_cofferdamref05_first), ("cofferdam/cofferdamref05.round", laid_cofferdam_cofferdamref05_round), ("cofferdam/sha.first", laid_cofferdam_sha_first), ("cofferdam/sha.round", laid_cofferdam_sha_round)], narrowed := true }
def ShaLengthsUptoSaid : Prop := shaLengthsUptoRow.holds Tryd.pinned (OpenSpec.upto shaLengthsSpec)

/-- 'cofferdamlaw05.ShaKinds', WHERE WHAT IT READS IS OF BULK AT MOST 1048576: true; the input reads as it did. -/
def shaKindsUptoRow : OpenClaim := { program := "ytjfdcfolinphnaadoor", sum := "747001c210403bfde87df54f37e00c02c42ec201599769d7a98d44c250faff6b", func := "cofferdam/cofferdamlaw05.ShaKinds", spec := "shaKinds", inPlace := ["internal/abi.NoEscape", "internal/bytealg.MakeNoZero"], unfollowed := true, recurses := true, named := ["cofferdam/sha.first", "cofferdam/sha.round", "cofferdam/cofferdamref05.first", "cofferdam/cofferdamref05.round"], apart := false, laid := [("cofferdam/cofferdamref05.first", laid_cofferdam_cofferdamref05_first), ("cofferdam/cofferdamref05.round", laid_cofferdam_cofferdamref05_round), ("cofferdam/sha.first", laid_cofferdam_sha_first), ("cofferdam/sha.round", laid_cofferdam_sha_round)], narrowed := true }
def ShaKindsUptoSaid : Prop := shaKindsUptoRow.holds Tryd.pinned (OpenSpec.upto shaKindsSpec)

/-- 'cofferdamlaw05.ShaPieces', WHERE WHAT IT READS IS OF BULK AT MOST 1048576: true; the input reads as it did. -/
def shaPiecesUptoRow : OpenClaim := { program := "ytjfdcfolinphnaadoor", sum := "747001c210403bfde87df54f37e00c02c42ec201599769d7a98d44c250faff6b", func := "cofferdam/cofferdamlaw05.ShaPieces", spec := "shaPieces", inPlace := ["internal/abi.NoEscape", "internal/bytealg.MakeNoZero"], unfollowed := true, recurses := true, named := ["cofferdam/sha.first", "cofferdam/sha.round"], apart := false, laid := [("cofferdam/sha.first", laid_cofferdam_sha_first), ("cofferdam/sha.round", laid_cofferdam_sha_round)], narrowed := true }
def ShaPiecesUptoSaid : Prop := shaPiecesUptoRow.holds Tryd.pinned (OpenSpec.upto shaPiecesSpec)

/-- 'cofferdamlaw05.ShaApart', WHERE WHAT IT READS IS OF BULK AT MOST 1048576: true; the input reads as it did. -/
def shaApartUptoRow : OpenClaim := { program := "ytjfdcfolinphnaadoor", sum := "747001c210403bfde87df54f37e00c02c42ec201599769d7a98d44c250faff6b", func := "cofferdam/cofferdamlaw05.ShaApart", spec := "shaApart", inPlace := ["internal/abi.NoEscape", "internal/bytealg.MakeNoZero"], unfollowed := true, recurses := true, named := ["cofferdam/sha.first", "cofferdam/sha.round"], apart := false, laid := [("cofferdam/sha.first", laid_cofferdam_sha_first), ("cofferdam/sha.round", laid_cofferdam_sha_round)], narrowed := true }
def ShaApartUptoSaid : Prop := shaApartUptoRow.holds Tryd.pinned (OpenSpec.upto shaApartSpec)

/-- 'cofferdamlaw12.TreePaths', WHERE WHAT IT READS IS OF BULK AT MOST 1048576: true; the input reads as it did. -/
def treePathsUptoRow : OpenClaim := { program := "ytjfdcfolinphnaadoor", sum := "747001c210403bfde87df54f37e00c02c42ec201599769d7a98d44c250faff6b", func := "cofferdam/cofferdamlaw12.TreePaths", spec := "treePaths", inPlace := ["internal/abi.NoEscape", "internal/bytealg.MakeNoZero"], unfollowed := true, recurses := true, named := ["math/bits.deBruijn32tab", "math/bits.deBruijn64tab", "cofferdam/sha.first", "cofferdam/sha.round"], apart := false, laid := [("math/bits.deBruijn32tab", laid_math_bits_deBruijn32tab), ("math/bits.deBruijn64tab", laid_math_bits_deBruijn64tab), ("cofferdam/sha.first", laid_cofferdam_sha_first), ("cofferdam/sha.round", laid_cofferdam_sha_round)], narrowed := true }
def TreePathsUptoSaid : Prop := treePathsUptoRow.holds Tryd.pinned (OpenSpec.upto treePathsSpec)

/-- 'cofferdamlaw12.TreeBuilds', WHERE WHAT IT READS IS OF BULK AT MOST 1048576: true; the input reads as it did. -/
def treeBuildsUptoRow : OpenClaim := { program := "ytjfdcfolinphnaadoor", sum := "747001c210403bfde87df54f37e00c02c42ec201599769d7a98d44c250faff6b", func := "cofferdam/cofferdamlaw12.TreeBuilds", spec := "treeBuilds", inPlace := ["internal/abi.NoEscape", "internal/bytealg.MakeNoZero"], unfollowed := true, recurses := true, named := ["cofferdam/sha.first", "cofferdam/sha.round", "math/bits.deBruijn32tab", "math/bits.deBruijn64tab", "cofferdam/cofferdamref05.first", "cofferdam/cofferdamref05.round"], apart := false, laid := [("cofferdam/cofferdamref05.first", laid_cofferdam_cofferdamref05_first), ("cofferdam/cofferdamref05.round", laid_cofferdam_cofferdamref05_round), ("math/bits.deBruijn32tab", laid_math_bits_deBruijn32tab), ("math/bits.deBruijn64tab", laid_math_bits_deBruijn64tab), ("cofferdam/sha.first", laid_cofferdam_sha_first), ("cofferdam/sha.round", laid_cofferdam_sha_round)], narrowed := true }
def TreeBuildsUptoSaid : Prop := treeBuildsUptoRow.holds Tryd.pinned (OpenSpec.upto treeBuildsSpec)

/-- 'cofferdamlaw12.TreeFollows', WHERE WHAT IT READS IS OF BULK AT MOST 1048576: true; the input reads as it did. -/
def treeFollowsUptoRow : OpenClaim := { program := "ytjfdcfolinphnaadoor", sum := "747001c210403bfde87df54f37e00c02c42ec201599769d7a98d44c250faff6b", func := "cofferdam/cofferdamlaw12.TreeFollows", spec := "treeFollows", inPlace := ["internal/abi.NoEscape", "internal/bytealg.MakeNoZero"], unfollowed := true, recurses := true, named := ["cofferdam/sha.first", "cofferdam/sha.round", "cofferdam/cofferdamref05.first", "cofferdam/cofferdamref05.round", "math/bits.deBruijn32tab", "math/bits.deBruijn64tab"], apart := false, laid := [("cofferdam/cofferdamref05.first", laid_cofferdam_cofferdamref05_first), ("cofferdam/cofferdamref05.round", laid_cofferdam_cofferdamref05_round), ("math/bits.deBruijn32tab", laid_math_bits_deBruijn32tab), ("math/bits.deBruijn64tab", laid_math_bits_deBruijn64tab), ("cofferdam/sha.first", laid_cofferdam_sha_first), ("cofferdam/sha.round", laid_cofferdam_sha_round)], narrowed := true }
def TreeFollowsUptoSaid : Prop := treeFollowsUptoRow.holds Tryd.pinned (OpenSpec.upto treeFollowsSpec)

/-- 'cofferdamlaw12.TreeOpens', WHERE WHAT IT READS IS OF BULK AT MOST 1048576: true; the input reads as it did. -/
def treeOpensUptoRow : OpenClaim := { program := "ytjfdcfolinphnaadoor", sum := "747001c210403bfde87df54f37e00c02c42ec201599769d7a98d44c250faff6b", func := "cofferdam/cofferdamlaw12.TreeOpens", spec := "treeOpens", inPlace := ["internal/abi.NoEscape", "internal/bytealg.MakeNoZero"], unfollowed := true, recurses := true, named := ["cofferdam/sha.first", "cofferdam/sha.round", "math/bits.deBruijn32tab", "math/bits.deBruijn64tab"], apart := false, laid := [("math/bits.deBruijn32tab", laid_math_bits_deBruijn32tab), ("math/bits.deBruijn64tab", laid_math_bits_deBruijn64tab), ("cofferdam/sha.first", laid_cofferdam_sha_first), ("cofferdam/sha.round", laid_cofferdam_sha_round)], narrowed := true }
def TreeOpensUptoSaid : Prop := treeOpensUptoRow.holds Tryd.pinned (OpenSpec.upto treeOpensSpec)

/-- 'cofferdamlaw12.TreePuts', WHERE WHAT IT READS IS OF BULK AT MOST 1048576: true; the input reads as it did. -/
def treePutsUptoRow : OpenClaim := { program := "ytjfdcfolinphnaadoor", sum := "747001c210403bfde87df54f37e00c02c42ec201599769d7a98d44c250faff6b", func := "cofferdam/cofferdamlaw12.TreePuts", spec := "treePuts", inPlace := ["internal/abi.NoEscape", "internal/bytealg.MakeNoZero"], unfollowed := true, recurses := true, named := ["cofferdam/sha.first", "cofferdam/sha.round", "cofferdam/cofferdamref05.first", "cofferdam/cofferdamref05.round", "math/bits.deBruijn32tab", "math/bits.deBruijn64tab"], apart := false, laid := [("cofferdam/cofferdamref05.first", laid_cofferdam_cofferdamref05_first), ("cofferdam/cofferdamref05.round", laid_cofferdam_cofferdamref05_round), ("math/bits.deBruijn32tab", laid_math_bits_deBruijn32tab), ("math/bits.deBruijn64tab", laid_math_bits_deBruijn64tab), ("cofferdam/sha.first", laid_cofferdam_sha_first), ("cofferdam/sha.round", laid_cofferdam_sha_round)], narrowed := true }
def TreePutsUptoSaid : Prop := treePutsUptoRow.holds Tryd.pinned (OpenSpec.upto treePutsSpec)

/-- 'cofferdamlaw12.TreeChanges', WHERE WHAT IT READS IS OF BULK AT MOST 1048576: true; the input reads as it did. -/
def treeChangesUptoRow : OpenClaim := { program := "ytjfdcfolinphnaadoor", sum := "747001c210403bfde87df54f37e00c02c42ec201599769d7a98d44c250faff6b", func := "cofferdam/cofferdamlaw12.TreeChanges", spec := "treeChanges", inPlace := ["internal/abi.NoEscape", "internal/bytealg.MakeNoZero"], unfollowed := true, recurses := true, named := ["cofferdam/sha.first", "cofferdam/sha.round", "math/bits.deBruijn32tab", "math/bits.deBruijn64tab"], apart := false, laid := [("math/bits.deBruijn32tab", laid_math_bits_deBruijn32tab), ("math/bits.deBruijn64tab", laid_math_bits_deBruijn64tab), ("cofferdam/sha.first", laid_cofferdam_sha_first), ("cofferdam/sha.round", laid_cofferdam_sha_round)], narrowed := true }
def TreeChangesUptoSaid : Prop := treeChangesUptoRow.holds Tryd.pinned (OpenSpec.upto treeChangesSpec)

/-- 'cofferdamlaw12.TreeBinds', WHERE WHAT IT READS IS OF BULK AT MOST 1048576: true; the input reads as it did. -/
def treeBindsUptoRow : OpenClaim := { program := "ytjfdcfolinphnaadoor", sum := "747001c210403bfde87df54f37e00c02c42ec201599769d7a98d44c250faff6b", func := "cofferdam/cofferdamlaw12.TreeBinds", spec := "treeBinds", inPlace := ["internal/abi.NoEscape", "internal/bytealg.MakeNoZero"], unfollowed := true, recurses := true, named := ["cofferdam/sha.first", "cofferdam/sha.round", "math/bits.deBruijn32tab", "math/bits.deBruijn64tab"], apart := false, laid := [("math/bits.deBruijn32tab", laid_math_bits_deBruijn32tab), ("math/bits.deBruijn64tab", laid_math_bits_deBruijn64tab), ("cofferdam/sha.first", laid_cofferdam_sha_first), ("cofferdam/sha.round", laid_cofferdam_sha_round)], narrowed := true }
def TreeBindsUptoSaid : Prop := treeBindsUptoRow.holds Tryd.pinned (OpenSpec.upto treeBindsSpec)

end Rows
end Go.Proofs.YtjfdcfolinphnaaDoor

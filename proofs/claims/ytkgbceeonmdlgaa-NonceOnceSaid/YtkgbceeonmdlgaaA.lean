/-
  CODEC, part A: what each function comes to, here. And the fixed words.
-/
import Derived.Test.YtkgbceeonmdlgaaG
import Derived.Test.YtkgbceeonmdlgaaLibKB
set_option maxRecDepth 100000
set_option maxHeartbeats 4000000
set_option linter.unusedSimpArgs false
set_option linter.unusedVariables false
namespace Go.Proofs.Ytkgbceeonmdlgaa
open Go.Det Go.Det.K

abbrev num (k M n) := num_ev (SP := SP) (n20 := 20) (n38 := 38) rfl rfl k M n
abbrev text (k M s hs) := text_ev (SP := SP) (n20 := 20) (n22 := 22) (n38 := 38) rfl rfl rfl k M s hs
abbrev rfnum (k M n) := refnum_ev (SP := SP) (n21 := 21) rfl k M n
abbrev rftext (k M s hs) := reftext_ev (SP := SP) (n21 := 21) (n23 := 23) rfl rfl k M s hs
abbrev newr (k M s) := new_ev (SP := SP) (n24 := 24) rfl k M s
abbrev rnm (k M d id r fl hd hr hg) := rnum_ev (SP := SP) (n26 := 26) (n40 := 40) (n41 := 41) (n43 := 43) (n44 := 44) rfl rfl rfl rfl rfl k M d id r fl hd hr hg
abbrev rtx (k M d id r fl hd hr hg) := rtext_ev (SP := SP) (n25 := 25) (n26 := 26) (n40 := 40) (n41 := 41) (n43 := 43) (n44 := 44) rfl rfl rfl rfl rfl rfl k M d id r fl hd hr hg
abbrev lft (k M d id r fl hd hg) := left_ev (SP := SP) (n34 := 34) rfl k M d id r fl hd hg
abbrev dne (k M d id r fl hd hg) := done_ev (SP := SP) (n27 := 27) rfl k M d id r fl hd hg
abbrev blw (k M d id r fl b hd hr hg) := below_ev (SP := SP) (n26 := 26) (n30 := 30) (n40 := 40) (n41 := 41) (n43 := 43) (n44 := 44) rfl rfl rfl rfl rfl rfl k M d id r fl b hd hr hg
abbrev xnm (k M S x d id fl hd hx hl hg) := number_ev (SP := SP) (n29 := 29) rfl k M S x d id fl hd hx hl hg
abbrev xbl (k M S x d id fl b hd hx hl hg) := refbelow_ev (SP := SP) (n29 := 29) (n31 := 31) rfl rfl k M S x d id fl b hd hx hl hg
abbrev xdn (k M S x d id fl hd hg) := refdone_ev (SP := SP) (n33 := 33) rfl k M S x d id fl hd hg
abbrev xwd (k M S x d id fl hd hx hl hg) := refwords_ev (SP := SP) (n29 := 29) (n32 := 32) rfl rfl k M S x d id fl hd hx hl hg

abbrev rnmT (k M id t b fl l ht) := rnum_top (SP := SP) (n26 := 26) (n40 := 40) (n41 := 41) (n43 := 43) (n44 := 44) rfl rfl rfl rfl rfl k M id t b fl l ht
abbrev rtxT (k M id t b fl l ht) := rtext_top (SP := SP) (n25 := 25) (n26 := 26) (n40 := 40) (n41 := 41) (n43 := 43) (n44 := 44) rfl rfl rfl rfl rfl rfl k M id t b fl l ht
abbrev blwT (k M id t b bd fl l ht) := rbelow_top (SP := SP) (n30 := 30) (n26 := 26) (n40 := 40) (n41 := 41) (n43 := 43) (n44 := 44) rfl rfl rfl rfl rfl rfl k M id t b bd fl l ht
abbrev lftT (k M d id t b rw fl l hd) := left_top (SP := SP) (n34 := 34) rfl k M d id t b rw fl l hd
abbrev dneT (k M d id t b rw fl l hd) := done_top (SP := SP) (n27 := 27) rfl k M d id t b rw fl l hd
abbrev xnmT (k M i0 id c0 S a b fl l hi ha hl) := xnum_snd (SP := SP) (n29 := 29) rfl k M i0 id c0 S a b fl l hi ha hl
abbrev xwdT (k M i0 id c0 S a b fl l hi ha hl) := xwords_snd (SP := SP) (n29 := 29) (n32 := 32) rfl rfl k M i0 id c0 S a b fl l hi ha hl
abbrev xblT (k M i0 id c0 S a b bd fl l hi ha hl) := xbelow_snd (SP := SP) (n29 := 29) (n31 := 31) rfl rfl k M i0 id c0 S a b bd fl l hi ha hl
abbrev xdnT (k M d i0 id c0 S a b rw fl l hi hd) := xdone_snd (SP := SP) (n33 := 33) rfl k M d i0 id c0 S a b rw fl l hi hd

/-- The fixed words. -/
theorem wakes (k : Nat) (M : Mem) : callFn SP (k + 6) 19 [] M = some (.bool true, [], M) := by
  have h1 : rtext (be8 2#64 ++ [97, 98], 0) = ([97, 98], ([], 0)) := by decide +kernel
  have h2 : be8 2#64 ++ [97, 98] = [0, 0, 0, 0, 0, 0, 0, 2, 97, 98] := by decide +kernel
  rw [h2] at h1
  rw [call_fn (by rfl) (by simp)]
  simp (disch := first | omega | (simp; done) | (simp; omega)) [text, newr, h2, rtxT, h1, rc, lftT, dneT, rdone]

end Go.Proofs.Ytkgbceeonmdlgaa

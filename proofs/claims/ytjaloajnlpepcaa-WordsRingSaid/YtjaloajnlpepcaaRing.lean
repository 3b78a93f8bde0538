/-
  The ring's law on combined texts.
-/
import Derived.Test.YtjaloajnlpepcaaY
namespace Go.Proofs.Ytjaloajnlpepcaa
open Go.Det
set_option maxRecDepth 100000
set_option linter.unusedSimpArgs false
set_option linter.unusedVariables false

theorem xorT_nth (a b : List UInt8) (i : Nat) (h : i < min a.length b.length) : nth (xorT a b) i = nth a i ^^^ nth b i := nth_range _ _ _ h

theorem xorT_cancel (a b : List UInt8) (h : a.length = b.length) : xorT (xorT a b) b = a := by
  have hl := xorT_len a b
  refine nth_ext (by rw [xorT_len, xorT_len]; omega) fun i hi => ?_
  rw [xorT_len] at hi
  rw [xorT_nth _ _ _ (by omega), xorT_nth _ _ _ (by omega), UInt8.xor_assoc, UInt8.xor_self, UInt8.xor_zero]

theorem xorT_assoc (a b c : List UInt8) (h : a.length = b.length) (h2 : b.length = c.length) : xorT (xorT a b) c = xorT a (xorT b c) := by
  have hl := xorT_len a b
  have hl2 := xorT_len b c
  refine nth_ext (by rw [xorT_len, xorT_len, xorT_len, xorT_len]; omega) fun i hi => ?_
  rw [xorT_len] at hi
  rw [xorT_nth _ _ _ (by omega), xorT_nth _ _ _ (by omega), xorT_nth _ _ _ (by omega), xorT_nth _ _ _ (by omega), UInt8.xor_assoc]

/-- 'cofferdamlaw01.WordsRing'. -/
theorem law4 (k : Nat) (M : Mem) (s : Scope) (a b c : List UInt8) : callFn SP (k + 3) 4 [.str a, .str b, .str c] (s :: M) = some (.bool true, [], s :: M) := by
  rw [call_fn (by rfl) (by simp)]
  have e1 : xorT [15] [5] = [10] := by decide
  generalize hn : (min (a.length : Int) (min b.length (min c.length 2000))).toNat = n
  have h1 : n ≤ a.length := by omega
  have h2 : n ≤ b.length := by omega
  have h3 : n ≤ c.length := by omega
  have h4 : n ≤ 2000 := by omega
  have la : (a.take n).length = n := by simp [h1]
  have lb : (b.take n).length = n := by simp [h2]
  have lc : (c.take n).length = n := by simp [h3]
  have f1 := xorT_cancel (a.take n) (b.take n) (by omega)
  have f2 := xorT_comm (b.take n) (a.take n)
  have f3 := xorT_assoc (a.take n) (b.take n) (c.take n) (by omega) (by omega)
  have lxy := xorT_len (a.take n) (b.take n)
  have lyz := xorT_len (b.take n) (c.take n)
  simp (disch := first | omega | (simp; done) | (simp; omega)) [if_pos, xor_ev, e1, hn, f1, f2, f3]

theorem ev_WordsRing (s : Scope) (args : List AV) (h : ArgsShp s [.str, .str, .str] args) : ∃ k M', callFn SP k 4 args [s] = some (.bool true, [], M') := by
  obtain ⟨_, _, rfl, h1, _, _, rfl, h2, _, _, rfl, h3, rfl⟩ := h
  obtain ⟨a, rfl, _⟩ := ArgShp_str h1
  obtain ⟨b, rfl, _⟩ := ArgShp_str h2
  obtain ⟨c, rfl, _⟩ := ArgShp_str h3
  exact ⟨3, _, law4 0 [] s a b c⟩

end Go.Proofs.Ytjaloajnlpepcaa

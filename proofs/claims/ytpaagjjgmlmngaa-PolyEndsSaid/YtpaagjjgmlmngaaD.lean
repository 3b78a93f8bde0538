/-
  POLY, part D: the tag of every text is the standard's.
-/
import Derived.Test.YtpaagjjgmlmngaaA
import Derived.Test.YtpaagjjgmlmngaaLibPM
set_option maxRecDepth 100000
set_option maxHeartbeats 1000000
set_option linter.unusedSimpArgs false
set_option linter.unusedVariables false
namespace Go.Proofs.Ytpaagjjgmlmngaa
open Go.Det Go.Det.P Go.Det.PR

abbrev rsumC (k M key s hs) := refsum_ev (SP := SP) (n17 := 17) (n20 := 20) (n33 := 33) (n34 := 34) (n43 := 43) (n55 := 55) rfl rfl rfl rfl rfl rfl k M key s hs

theorem law5 (k : Nat) (M : Mem) (key s other : List UInt8) (hk : key.length = 32) : callFn SP (k + 7) 5 [.agg (key.map byteAV), .str s, .str other] M = some (.bool true, [], M) := by
  obtain ⟨N, e1, e2, e3, e4⟩ : ∃ N : Nat, min (s.length : Int) 200 = N ∧ N ≤ s.length ∧ min s.length 200 = N ∧ N ≤ 200 := ⟨min 200 s.length, by omega, by omega, by omega, by omega⟩
  obtain ⟨S, hS⟩ : ∃ S, s.take N = S := ⟨_, rfl⟩
  have e5 : S.length = N := by rw [← hS, List.length_take]; omega
  have h1 := fun k M => sumC k M key S (by omega)
  have h2 := fun k M => rsumC k M key S (by omega)
  have h3 := fun k M => sumC k M other S (by omega)
  have h4 := fun k M => rsumC k M other S (by omega)
  generalize sumR key S = P1 at *
  generalize sumR other S = P2 at *
  have b1 : ∀ (x : List UInt8) (n : Nat), bytesOf ((x.map byteAV).take n) = some (x.take n) := fun x n => by rw [← List.map_take, bytesOf_map]
  have tk : key.take 32 = key := List.take_of_length_le (by omega)
  rw [call_fn (by rfl) (by simp)]
  simp (disch := omega) [hk, e1, e2, e3, hS, b1, tk, h1, h2, h3, h4, wakes, if_pos]

theorem ev_PolySums (s : Scope) (args : List AV) (h : ArgsShp s [.arr 32 (.int .u8), .str, .str] args) : ∃ k M', callFn SP k 5 args [s, mk []] = some (.bool true, [], M') := by
  obtain ⟨_, _, rfl, h1, _, _, rfl, h2, _, _, rfl, h3, rfl⟩ := h
  obtain ⟨key, hk, rfl⟩ := ArgShp_arr8 h1
  obtain ⟨x, rfl, hx⟩ := ArgShp_str h2
  obtain ⟨o, rfl, ho⟩ := ArgShp_str h3
  exact ⟨7, _, law5 0 [s, mk []] key x o hk⟩
end Go.Proofs.Ytpaagjjgmlmngaa

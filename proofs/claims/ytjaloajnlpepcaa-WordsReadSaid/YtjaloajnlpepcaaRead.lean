/-
  The words of a text: the law.
-/
import Derived.Test.YtjaloajnlpepcaaR
import Derived.Test.YtjaloajnlpepcaaDetU
namespace Go.Proofs.Ytjaloajnlpepcaa
open Go.Det
set_option maxRecDepth 100000
set_option maxHeartbeats 4000000
set_option linter.unusedSimpArgs false
set_option linter.unusedVariables false

theorem same_nil (k : Nat) (M : Mem) (e e' : Nat) : callFn SP (k + 1) 16 [.slice none 0 e, .slice none 0 e'] M = some (.bool true, [], M) := by
  rw [same_ev k M _ _ [] [] WS.nil WS.nil (by simp)]
  rfl

theorem law5 (k : Nat) (M : Mem) (s : Scope) (x : List UInt8) : callFn SP (k + 6) 5 [.str x] (s :: M) = some (.bool true, [], s :: M) := by
  rw [call_fn (by rfl) (by simp)]
  obtain ⟨t, ht⟩ : ∃ t, List.take (min x.length 4000) x = t := ⟨_, rfl⟩
  have hl : t.length ≤ 4000 := by rw [← ht, List.length_take]; omega
  by_cases h4 : t.length % 4 = 0
  · obtain ⟨N, hN⟩ : ∃ N, t.length = 4 * N := ⟨t.length / 4, by omega⟩
    have h1 := fun k M => little_ev k M t N hN (by omega)
    have h2 := fun k M => big_ev k M t N hN (by omega)
    by_cases h0 : N = 0
    · subst h0
      obtain rfl : t = [] := List.eq_nil_of_length_eq_zero (by omega)
      simp (disch := first | omega | (simp; done) | (simp; omega)) [if_pos, ht, wakes_ev, h1, h2, refwords_nil]
      rw [same_ev]
      case hv => exact WS.top' (l := []) rfl (by simp) (by simp) (by simp)
      case hw => exact WS.nil
      case hl => simp
      simp (disch := first | omega | (simp; done) | (simp; omega)) [if_pos]
      rw [same_ev]
      case hv => exact WS.top' (l := []) rfl (by simp) (by simp) (by simp)
      case hw => exact WS.nil
      case hl => simp
      simp (disch := first | omega | (simp; done) | (simp; omega)) [if_pos]
    · have h3 := fun k M b => refwords_ev k M b t N hN (by omega) (by omega)
      simp (disch := first | omega | (simp; done) | (simp; omega)) [if_pos, ht, wakes_ev, h1, h2, h3]
      rw [same_ev]
      case hv => exact WS.top' rfl (by simp) (by simp) (by simp)
      case hw => exact WS.top' rfl (by simp) (by simp) (by simp)
      case hl => (simp; omega)
      simp (disch := first | omega | (simp; done) | (simp; omega)) [if_pos]
      rw [same_ev]
      case hv => exact WS.top' rfl (by simp) (by simp) (by simp)
      case hw => exact WS.top' rfl (by simp) (by simp) (by simp)
      case hl => (simp; omega)
      simp (disch := first | omega | (simp; done) | (simp; omega)) [if_pos]
  · simp (disch := first | omega | (simp; done) | (simp; omega)) [if_pos, ht, wakes_ev, little_bad _ _ _ h4, big_bad _ _ _ h4, refwords_bad _ _ _ _ h4, same_nil]

theorem ev_WordsRead (s : Scope) (args : List AV) (h : ArgsShp s [.str] args) : ∃ k M', callFn SP k 5 args [s] = some (.bool true, [], M') := by
  obtain ⟨_, _, rfl, h1, rfl⟩ := h
  obtain ⟨x, rfl, _⟩ := ArgShp_str h1
  exact ⟨6, _, law5 0 [] s x⟩
end Go.Proofs.Ytjaloajnlpepcaa

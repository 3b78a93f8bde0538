/-
  The text of words: the law.
-/
import Derived.Test.YtjaloajnlpepcaaN
namespace Go.Proofs.Ytjaloajnlpepcaa
open Go.Det
set_option maxRecDepth 100000
set_option maxHeartbeats 4000000
set_option linter.unusedSimpArgs false
set_option linter.unusedVariables false

theorem law8 (k : Nat) (M : Mem) (s : Scope) (v : AV) (l : List (BitVec 32)) (hv : WS (s :: M) u32 v l) (hl : l.length ≤ maxLen) : callFn SP (k + 6) 8 [v] (s :: M) = some (.bool true, [], s :: M) := by
  have hm : maxLen = 9223372036854775807 := rfl
  have m0 : min (0 : Int) 1000 = 0 := rfl
  rw [call_fn (by rfl) (by simp)]
  have go : ∀ v', (∀ s', WS (s' :: roScope s :: ro M) u32 v' (l.take 1000)) → (∀ k s', callFn SP (k + 1) 21 [v'] (s' :: roScope s :: ro M) = some (.str (tx false (l.take 1000)), [], s' :: roScope s :: ro M)) ∧
      (∀ k s', callFn SP (k + 1) 23 [v'] (s' :: roScope s :: ro M) = some (.str (tx true (l.take 1000)), [], s' :: roScope s :: ro M)) ∧
      (∀ k s' b, callFn SP (k + 1) 22 [v', .bool b] (s' :: roScope s :: ro M) = some (.str (tx b (l.take 1000)), [], s' :: roScope s :: ro M)) := by
    intro v' hw
    have hn : (l.take 1000).length < 2 ^ 40 := by rw [List.length_take]; omega
    exact ⟨fun k s' => fromlittle_ev k _ v' _ (hw s') hn, fun k s' => frombig_ev k _ v' _ (hw s') hn, fun k s' b => reftext_ev k _ v' b _ (hw s') hn⟩
  rcases hv with ⟨w, rfl, rfl⟩ | ⟨w, rfl, rfl⟩ | ⟨d, id, z, rw1, fl, r, rfl, h3, h4⟩
  · obtain ⟨g1, g2, g3⟩ := go (.slice none 0 1) (fun s' => .inl ⟨1, rfl, rfl⟩)
    simp (disch := first | omega | (simp; done) | (simp; omega)) [if_pos, wakes_ev, g1, g2, g3, m0]
  · obtain ⟨g1, g2, g3⟩ := go (.slice0 1) (fun s' => .inr (.inl ⟨1, rfl, rfl⟩))
    simp (disch := first | omega | (simp; done) | (simp; omega)) [if_pos, wakes_ev, g1, g2, g3, m0]
  · have hw : ∀ s', WS (s' :: roScope s :: ro M) u32 (.slice (some ⟨d, id, z, 0⟩) (min l.length 1000) 1) (l.take 1000) := by
      intro s'
      have := WS.take (M := s :: M) 1000 h3 h4 (Nat.min_comm l.length 1000)
      exact (this.ro).cons s'
    obtain ⟨g1, g2, g3⟩ := go _ hw
    simp (disch := first | omega | (simp; done) | (simp; omega)) [if_pos, wakes_ev, g1, g2, g3]

theorem ev_WordsWrite (s : Scope) (args : List AV) (h : ArgsShp s [.sl (.int .u32)] args) : ∃ k M', callFn SP k 8 args [s] = some (.bool true, [], M') := by
  obtain ⟨_, _, rfl, h1, rfl⟩ := h
  obtain ⟨l, hl, hn⟩ := ArgShp_slu32 h1
  exact ⟨6, _, law8 0 [] s _ l hl hn⟩

/-! ### words read back from their text -/
theorem low_w8 (x : BitVec 32) (k : Nat) : (low8 (x >>> k)).toNat = x.toNat / 2 ^ k % 256 := by
  rw [low8_toNat, BitVec.toNat_ushiftRight, Nat.shiftRight_eq_div_pow]

theorem back4 (x : BitVec 32) : wd (low8 x) (low8 (x >>> 8)) (low8 (x >>> 16)) (low8 (x >>> 24)) = x := by
  apply BitVec.eq_of_toNat_eq
  have hx := x.isLt
  rw [wd_nat, low_w8, low_w8, low_w8, low8_toNat]
  omega

theorem tx_nth (big : Bool) : ∀ (l : List (BitVec 32)) (i j : Nat), i < l.length → j < 4 → nth (tx big l) (4 * i + j) = nth (by4 big (nth l i)) j
  | [], i, j, h, hj => by simp at h
  | x :: l, 0, j, h, hj => by
    rw [tx, nth_append_left _ _ _ (by rw [by4_len]; omega)]
    simp [nth]
  | x :: l, i + 1, j, h, hj => by
    rw [tx, nth_append_right _ _ _ (by rw [by4_len]; omega), by4_len, show 4 * (i + 1) + j - 4 = 4 * i + j by omega, tx_nth big l i j (by simpa using h) hj]
    simp [nth]

theorem wat_tx (big : Bool) (l : List (BitVec 32)) (i : Nat) (h : i < l.length) : wat big (tx big l) i = nth l i := by
  have h0 := tx_nth big l i 0 h (by omega)
  have h1 := tx_nth big l i 1 h (by omega)
  have h2 := tx_nth big l i 2 h (by omega)
  have h3 := tx_nth big l i 3 h (by omega)
  rw [Nat.add_zero] at h0
  unfold wat
  rw [h0, h1, h2, h3]
  cases big
  · exact back4 _
  · exact back4 _

theorem tab_back (big : Bool) (l : List (BitVec 32)) : tab (wat big (tx big l)) l.length = l :=
  tab_eq _ _ _ rfl fun i hi => (wat_tx big l i hi).symm

theorem law9 (k : Nat) (M : Mem) (s : Scope) (x : BitVec 32) (n : Int) (v : AV) (l : List (BitVec 32)) (hv : WS (s :: M) u32 v l) (hl : l.length ≤ maxLen) : callFn SP (k + 6) 9 [u32 x, .int .i64 n, v] (s :: M) = some (.bool true, [], s :: M) := by
  have hm : maxLen = 9223372036854775807 := rfl
  have m0 : min (0 : Int) 1000 = 0 := rfl
  have e1 : rot x (tn n + (32 - tn n)) = x := by
    have := tn_lt n
    rw [rot_eq x _ 0 (by omega), rot_zero]
  have e2 : rot x (tn n + tn (32 - n % 32)) = x := by
    rw [rot_eq x _ 0 (by unfold tn; omega), rot_zero]
  rw [call_fn (by rfl) (by simp)]
  obtain ⟨t, ht⟩ : ∃ t, t = l.take 1000 := ⟨_, rfl⟩
  have hn : t.length ≤ 1000 := by rw [ht, List.length_take]; omega
  have go : ∀ v', (∀ s', WS (s' :: roScope s :: ro M) u32 v' t) → (∀ k s', callFn SP (k + 1) 21 [v'] (s' :: roScope s :: ro M) = some (.str (tx false t), [], s' :: roScope s :: ro M)) ∧
      (∀ k s', callFn SP (k + 1) 23 [v'] (s' :: roScope s :: ro M) = some (.str (tx true t), [], s' :: roScope s :: ro M)) := by
    intro v' hw
    exact ⟨fun k s' => fromlittle_ev k _ v' _ (hw s') (by omega), fun k s' => frombig_ev k _ v' _ (hw s') (by omega)⟩
  have b1 := fun k M => little_ev k M (tx false t) t.length (tx_len _ _) (by omega)
  have b2 := fun k M => big_ev k M (tx true t) t.length (tx_len _ _) (by omega)
  rw [tab_back] at b1 b2
  rcases hv with ⟨w, rfl, rfl⟩ | ⟨w, rfl, rfl⟩ | ⟨d, id, z, rw1, fl, r, rfl, h3, h4⟩
  · have hw : ∀ s', WS (s' :: roScope s :: ro M) u32 (.slice none 0 1) t := (fun s' => .inl ⟨1, rfl, ht⟩)
    obtain ⟨g1, g2⟩ := go _ hw
    obtain rfl : t = [] := ht
    simp (disch := first | omega | (simp; done) | (simp; omega)) [if_pos, wakes_ev, g1, g2, b1, b2, left_ev, right_ev, and_31, IntWalk.i64_in, rot_rot, e1, e2, m0]
    rw [same_ev]
    case hv => exact WS.top' (l := []) rfl (by simp) (by simp) (by simp)
    case hw => exact hw _
    case hl => simp
    simp (disch := first | omega | (simp; done) | (simp; omega)) [if_pos]
    rw [same_ev]
    case hv => exact WS.top' (l := []) rfl (by simp) (by simp) (by simp)
    case hw => exact hw _
    case hl => simp
    simp (disch := first | omega | (simp; done) | (simp; omega)) [if_pos]
  · have hw : ∀ s', WS (s' :: roScope s :: ro M) u32 (.slice0 1) t := (fun s' => .inr (.inl ⟨1, rfl, ht⟩))
    obtain ⟨g1, g2⟩ := go _ hw
    obtain rfl : t = [] := ht
    simp (disch := first | omega | (simp; done) | (simp; omega)) [if_pos, wakes_ev, g1, g2, b1, b2, left_ev, right_ev, and_31, IntWalk.i64_in, rot_rot, e1, e2, m0]
    rw [same_ev]
    case hv => exact WS.top' (l := []) rfl (by simp) (by simp) (by simp)
    case hw => exact hw _
    case hl => simp
    simp (disch := first | omega | (simp; done) | (simp; omega)) [if_pos]
    rw [same_ev]
    case hv => exact WS.top' (l := []) rfl (by simp) (by simp) (by simp)
    case hw => exact hw _
    case hl => simp
    simp (disch := first | omega | (simp; done) | (simp; omega)) [if_pos]
  · have hw : ∀ s', WS (s' :: roScope s :: ro M) u32 (.slice (some ⟨d, id, z, 0⟩) (min l.length 1000) 1) t := by
      intro s'
      have := WS.take (M := s :: M) 1000 h3 h4 (Nat.min_comm l.length 1000)
      rw [← ht] at this
      exact (this.ro).cons s'
    obtain ⟨g1, g2⟩ := go _ hw
    simp (disch := first | omega | (simp; done) | (simp; omega)) [if_pos, wakes_ev, g1, g2, b1, b2, left_ev, right_ev, and_31, IntWalk.i64_in, rot_rot, e1, e2]
    rw [same_ev]
    case hv => exact WS.top' rfl (by simp) (by simp) (by simp)
    case hw => exact hw _
    case hl => omega
    simp (disch := first | omega | (simp; done) | (simp; omega)) [if_pos]
    rw [same_ev]
    case hv => exact WS.top' rfl (by simp) (by simp) (by simp)
    case hw => exact hw _
    case hl => omega
    simp (disch := first | omega | (simp; done) | (simp; omega)) [if_pos]

theorem ev_WordsBack (s : Scope) (args : List AV) (h : ArgsShp s [.int .u32, .int .i64, .sl (.int .u32)] args) : ∃ k M', callFn SP k 9 args [s] = some (.bool true, [], M') := by
  obtain ⟨_, _, rfl, h1, _, _, rfl, h2, _, _, rfl, h3, rfl⟩ := h
  obtain ⟨x, rfl⟩ := ArgShp_u32 h1
  obtain ⟨n, rfl, _⟩ := ArgShp_i64 h2
  obtain ⟨l, hl, hn⟩ := ArgShp_slu32 h3
  exact ⟨6, _, law9 0 [] s x n _ l hl hn⟩

end Go.Proofs.Ytjaloajnlpepcaa

/-
  A text in pieces: ShaPieces.
-/
import Derived.Test.YtjfdcfolinphnaaDoorC
import Derived.Test.YtjfdcfolinphnaaDoorDetU
set_option maxRecDepth 100000
set_option maxHeartbeats 4000000
set_option linter.unusedSimpArgs false
set_option linter.unusedVariables false
namespace Go.Proofs.YtjfdcfolinphnaaDoor
open Go.Det Go.Det.S

/-- So many are taken by a piece. -/
def pc (x : Int) (p n : Nat) : Nat := min ((max 0 x).tmod 100).toNat (n - p)
def pcs (n : Nat) (l : List Int) (p : Nat) : Nat → Nat → Nat
  | _, 0 => p
  | i, j + 1 => pcs n l (p + pc (nth l i) p n) (i + 1) j

theorem l6 (k : Nat) (M : Mem) (hG : Gl kv v0 1 3 M) (S : List UInt8) (hS : S.length < 2 ^ 40) (v : AV) (l : List Int) (hv : WS M i64 v l) (hl : l.length < 2 ^ 48) (j : Nat) : ∀ (i n p : Nat), i + j = l.length → j < n → p ≤ S.length →
    ∃ q, q ≤ S.length ∧ fgt a6_0 (rnd0 (some (e6_0 (.str S) (.ptr (some ⟨M.length, 8000, 10, 0⟩)) (.int .i64 p) v (.int .i64 l.length) (.int .i64 i), mk [(8000, .cells (st kv v0 (S.take p)) true true)] :: M)) k6_0 (callFn SP (k + 9)) s6_b0 n) =
      some (.exit 0, x6_0 (.str S) .dead (.ptr (some ⟨M.length, 8000, 10, 0⟩)) (.int .i64 q), mk [(8000, .cells (st kv v0 (S.take q)) true true)] :: M) := by
  induction j with
  | zero =>
    intro i n p h hn hp
    obtain rfl : i = l.length := by omega
    obtain ⟨n, rfl⟩ : ∃ m, n = m + 1 := ⟨n - 1, by omega⟩
    refine ⟨p, hp, ?_⟩
    generalize st kv v0 = ST at *
    rw [rnd0_some]
    conv => lhs; arg 2; arg 1; rw [s6_b0]
    simp (disch := omega) []
  | succ j ih0 =>
    intro i n p h hn hp
    obtain ⟨n, rfl⟩ : ∃ m, n = m + 1 := ⟨n - 1, by omega⟩
    have hi : i < l.length := by omega
    rcases hv with ⟨w, rfl, rfl⟩ | ⟨w, rfl, rfl⟩ | ⟨d, id, z, rw_, fl, r, rfl, hd, hg⟩
    · simp at hi
    · simp at hi
    have ga := map_app_get i64 l r i hi
    have hn1 : d ≠ M.length := by omega
    obtain ⟨m, hm, hm1⟩ : ∃ m : Nat, (max 0 (nth l i)).tmod 100 = (m : Int) ∧ m < 100 := ⟨((max 0 (nth l i)).tmod 100).toNat, by
      rw [Int.tmod_eq_emod_of_nonneg (by omega)]; omega, by rw [Int.tmod_eq_emod_of_nonneg (by omega)]; omega⟩
    have hm2 : (max 0 (nth l i)) % 100 = (m : Int) := by rw [← hm, Int.tmod_eq_emod_of_nonneg (by omega)]
    have e1 : IntKind.wrap .i64 ((S.length : Int) - p) = ((S.length - p : Nat) : Int) := by rw [IntWalk.i64_in _ (by omega)]; omega
    obtain ⟨c, hc, hc1⟩ : ∃ c : Nat, min m (S.length - p) = c ∧ p + c ≤ S.length := ⟨_, rfl, by omega⟩
    have e2 : min (m : Int) ((S.length : Int) - p) = (c : Int) := by omega
    have e3 : IntKind.wrap .i64 ((p : Int) + c) = (p : Int) + c := IntWalk.i64_in _ (by omega)
    have e4 : ((p : Int) + c).toNat = p + c := by omega
    have e5 : IntKind.wrap .i64 ((i : Int) + 1) = (i : Int) + 1 := IntWalk.i64_in _ (by omega)
    obtain ⟨q, hq, ih⟩ := ih0 (i + 1) n (p + c) (by omega) (by omega) hc1
    refine ⟨q, hq, ?_⟩
    have tk : S.take p ++ (S.take (p + c)).drop p = S.take (p + c) := by
      rw [List.take_add, List.drop_append_of_le_length (by rw [List.length_take]; omega), List.drop_of_length_le (by rw [List.length_take]; omega), List.nil_append]
    have h2 := fun k => w_e k M hG [(8000, .cells (st kv v0 (S.take p)) true true)] 8000 (S.take p) ((S.take (p + c)).drop p) (by rw [List.length_take]; omega) (by rw [List.length_drop, List.length_take]; omega) rfl
    rw [tk] at h2
    have h3 := fun k => q_e k (ro M) hG.ro [(8000, .cells (st kv v0 (S.take (p + c))) false true)] 8000 (S.take (p + c)) (by rw [List.length_take]; omega) false true rfl
    have h4 := fun k => len_e k (ro M) [(8000, .cells (st kv v0 (S.take (p + c))) false true)] 8000 (S.take (p + c)) false true rfl
    have h5 := fun k L => sum_e k (mk L :: ro M) (hG.ro.cons (mk L)) (S.take (p + c)) (by rw [List.length_take]; omega)
    have lt : (S.take (p + c)).length = p + c := by rw [List.length_take]; omega
    rw [lt] at h4
    simp only [ups, ro_length, if_pos] at h2 h3 h4
    have s1 := fun a => st_len a
    generalize dg kv v0 = DG at *
    generalize st kv v0 = ST at *
    rw [rnd0_some]
    conv => lhs; arg 2; arg 1; rw [s6_b0]
    simp (disch := first | omega | (simp; done) | (simp; omega)) [hi, get_low, hd, hg, ga, if_pos, hn1, i64, getElem_nth l, hm, hm2, e1, e2, e3, e4, e5, hc, h2, h3, h4, h5, s1, hc1]
    simpa using ih

theorem pieces_e (k : Nat) (M : Mem) (hG : Gl kv v0 1 3 M) (s : List UInt8) (v : AV) (l : List Int) (hv : WS M i64 v l) (hl : l.length < 2 ^ 48) : callFn SP (k + 11) 6 [.str s, v] M = some (.bool true, [], M) := by
  have hS2 : (s.take (min s.length 2000)).length ≤ 2000 := by rw [List.length_take]; omega
  generalize hS : s.take (min s.length 2000) = S at *
  have h1 := fun k L => n_e k (mk L :: ro M) (hG.ro.cons _)
  have h6 := fun k L => goes_e k (mk L :: ro M) (hG.ro.cons _)
  have h5 := fun k L => sum_e k (mk L :: ro M) (hG.ro.cons (mk L)) S (by omega)
  have h2 : ∀ k q, q ≤ S.length → callFn SP (k + 6) 23 [.ptr (some ⟨M.length, 8000, 10, 0⟩), .str (S.drop q)] (mk [(8000, .cells (st kv v0 (S.take q)) true true)] :: M) = some (.undef, [], mk [(8000, .cells (st kv v0 S) true true)] :: M) := by
    intro k q hq
    have := w_e k M hG [(8000, .cells (st kv v0 (S.take q)) true true)] 8000 (S.take q) (S.drop q) (by rw [List.length_take]; omega) (by rw [List.length_drop]; omega) rfl
    rw [List.take_append_drop] at this
    simpa only [ups, if_pos] using this
  have h3 := fun k => q_e k (ro M) hG.ro [(8000, .cells (st kv v0 S) false true)] 8000 S (by omega) false true rfl
  have h4 := fun k => len_e k (ro M) [(8000, .cells (st kv v0 S) false true)] 8000 S false true rfl
  have st0 : st kv v0 [] = st kv v0 (S.take 0) := rfl
  rw [st0] at h1
  simp only [ro_length] at h3 h4
  have s1 := fun a => st_len a
  have hlp := fun (v : AV) (l : List Int) (hv : WS M i64 v l) (hl : l.length < 2 ^ 48) => l6 (k + 1) M hG S (by omega) v l hv hl l.length 0 (l.length + 1) 0 (by omega) (by omega) (by omega)
  generalize dg kv v0 = DG at *
  generalize st kv v0 = ST at *
  rw [call_fn (f := 6) (by rfl) (by simp)]
  rcases hv with ⟨w, rfl, rfl⟩ | ⟨w, rfl, rfl⟩ | ⟨d, id, z, rw_, fl, r, rfl, hd, hg⟩
  · obtain ⟨q, hq, hlp⟩ := hlp (.slice none 0 1) [] (.inl ⟨1, rfl, rfl⟩) (by simp)
    have h2 := fun k => h2 k q hq
    simp (disch := first | omega | (simp; omega)) [hS, h1, s1, if_pos, show min (0 : Int) 40 = 0 from rfl]
    rw [ev_loop 1 (by simp) hlp (by omega)]
    simp (disch := first | omega | (simp; omega)) [h2, h3, h4, h5, h6, s1, hq, if_pos]
  · obtain ⟨q, hq, hlp⟩ := hlp (.slice0 1) [] (.inr (.inl ⟨1, rfl, rfl⟩)) (by simp)
    have h2 := fun k => h2 k q hq
    simp (disch := first | omega | (simp; omega)) [hS, h1, s1, if_pos, show min (0 : Int) 40 = 0 from rfl]
    rw [ev_loop 1 (by simp) hlp (by omega)]
    simp (disch := first | omega | (simp; omega)) [h2, h3, h4, h5, h6, s1, hq, if_pos]
  · have hv := WS.take (l := l) (M := M) (f := i64) (d := d) (id := id) (z := z) 40 hd hg rfl
    obtain ⟨q, hq, hlp⟩ := hlp _ (l.take 40) hv (by rw [List.length_take]; omega)
    have h2 := fun k => h2 k q hq
    rw [show min 40 l.length = (l.take 40).length from (List.length_take).symm] at hlp
    by_cases h : l.length < 40
    · simp (disch := first | omega | (simp; omega)) [hS, h1, s1, if_pos, h, hd, hg, get_low]
      rw [List.take_of_length_le (by omega)] at hlp
      rw [ev_loop (l.length + 1) (by simp [show d ≠ M.length by omega]) hlp (by omega)]
      simp (disch := first | omega | (simp; omega)) [h2, h3, h4, h5, h6, s1, hq, if_pos]
    · simp (disch := first | omega | (simp; omega)) [hS, h1, s1, if_pos, h, hd, hg, get_low]
      rw [show (l.take 40).length = 40 by rw [List.length_take]; omega] at hlp
      rw [ev_loop 41 (by simp [show d ≠ M.length by omega]) hlp (by omega)]
      simp (disch := first | omega | (simp; omega)) [h2, h3, h4, h5, h6, s1, hq, if_pos]

theorem ev_ShaPieces (s : Scope) (args : List AV) (h : ArgsShp s [.str, .sl (.int .i64)] args) : ∃ k M', callFn SP k 6 args [s, gScope G2] = some (.bool true, [], M') := by
  obtain ⟨v, _, rfl, hv, u, _, rfl, hu, rfl⟩ := h
  obtain ⟨t, rfl, _⟩ := ArgShp_str hv
  obtain ⟨l, hl, hll⟩ := ArgShp_sli64 (gScope G2) hu
  unfold reachBytes at hll
  exact ⟨11, _, pieces_e 0 _ (gl_sha2 s) t _ l hl (by omega)⟩
end Go.Proofs.YtjfdcfolinphnaaDoor

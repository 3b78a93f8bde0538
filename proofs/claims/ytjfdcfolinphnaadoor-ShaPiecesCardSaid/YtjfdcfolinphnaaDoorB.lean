/-
  ShaLengths, ShaKinds.
-/
import Derived.Test.YtjfdcfolinphnaaDoorA
set_option maxRecDepth 100000
set_option maxHeartbeats 1000000
set_option linter.unusedSimpArgs false
set_option linter.unusedVariables false
namespace Go.Proofs.YtjfdcfolinphnaaDoor
open Go.Det Go.Det.S

/-! ### the kinds -/
theorem leaf_e (k : Nat) (M : Mem) (hG : Gl kv v0 1 3 M) (s : List UInt8) (hs : s.length < 2 ^ 44) : callFn SP (k + 9) 18 [.str s] M = some (.str (dg kv v0 (0 :: s)), [], M) := by
  have h1 := fun k l => sum_e k (mk l :: ro M) (hG.ro.cons (mk l)) (0 :: s) (by rw [List.length_cons]; omega)
  rw [call_fn (f := 18) (by rfl) (by simp)]
  simp (disch := first | omega | (simp; omega)) [h1, if_pos]
theorem node_e (k : Nat) (M : Mem) (hG : Gl kv v0 1 3 M) (s : List UInt8) (hs : s.length < 2 ^ 44) : callFn SP (k + 9) 20 [.str s] M = some (.str (dg kv v0 (1 :: s)), [], M) := by
  have h1 := fun k l => sum_e k (mk l :: ro M) (hG.ro.cons (mk l)) (1 :: s) (by rw [List.length_cons]; omega)
  rw [call_fn (f := 20) (by rfl) (by simp)]
  simp (disch := first | omega | (simp; omega)) [h1, if_pos]
theorem top_e (k : Nat) (M : Mem) (hG : Gl kv v0 1 3 M) (s : List UInt8) (hs : s.length < 2 ^ 44) : callFn SP (k + 9) 21 [.str s] M = some (.str (dg kv v0 (2 :: s)), [], M) := by
  have h1 := fun k l => sum_e k (mk l :: ro M) (hG.ro.cons (mk l)) (2 :: s) (by rw [List.length_cons]; omega)
  rw [call_fn (f := 21) (by rfl) (by simp)]
  simp (disch := first | omega | (simp; omega)) [h1, if_pos]
theorem kind_e (k : Nat) (M : Mem) (hR : Gl kv v0 0 2 M) (x : UInt8) (s : List UInt8) (hs : s.length < 2 ^ 38) : callFn SP (k + 6) 19 [byteAV x, .str s] M = some (.str (dg kv v0 (x :: s)), [], M) := by
  have h1 := fun k l => ref_e k (mk l :: ro M) (hR.ro.cons (mk l)) (x :: s) (by rw [List.length_cons]; omega)
  have hb : bytesOf [byteAV x] = some [x] := bytesOf_map [x]
  rw [call_fn (f := 19) (by rfl) (by simp)]
  simp (disch := first | omega | (simp; omega)) [h1, hb, if_pos]

theorem kinds_e (k : Nat) (M : Mem) (hG : Gl kv v0 1 3 M) (hR : Gl kv v0 0 2 M) (s : List UInt8) : callFn SP (k + 10) 5 [.str s] M = some (.bool true, [], M) := by
  have hl : (s.take (min s.length 500)).length ≤ 500 := by rw [List.length_take]; omega
  have hw := fun k l => wakes_e k (mk l :: ro M) (hG.ro.cons (mk l))
  have h1 := fun k l => leaf_e k (mk l :: ro M) (hG.ro.cons (mk l)) (s.take (min s.length 500)) (by omega)
  have h2 := fun k l => node_e k (mk l :: ro M) (hG.ro.cons (mk l)) (s.take (min s.length 500)) (by omega)
  have h3 := fun k l => top_e k (mk l :: ro M) (hG.ro.cons (mk l)) (s.take (min s.length 500)) (by omega)
  have h4 := fun k l x => kind_e k (mk l :: ro M) (hR.ro.cons (mk l)) x (s.take (min s.length 500)) (by omega)
  rw [call_fn (f := 5) (by rfl) (by simp)]
  simp (disch := first | omega | (simp; omega)) [h1, h2, h3, h4, hw, if_pos]

theorem ev_ShaKinds (s : Scope) (args : List AV) (h : ArgsShp s [.str] args) : ∃ k M', callFn SP k 5 args [s, gScope G4] = some (.bool true, [], M') := by
  obtain ⟨v, _, rfl, hv, rfl⟩ := h
  obtain ⟨t, rfl, _⟩ := ArgShp_str hv
  exact ⟨10, _, kinds_e 0 _ (gl_sha s) (gl_ref s) t⟩

/-! ### the lengths -/
theorem l4 (k : Nat) (M : Mem) (hG : Gl kv v0 1 3 M) (hR : Gl kv v0 0 2 M) (t : List UInt8) (ht : t.length < 2 ^ 30) (m : Nat) (hm : m + 12 ≤ t.length) (j : Nat) : ∀ (i n : Nat), i + j = 12 → j < n →
    fgt a4_0 (rnd0 (some (e4_0 (.str t) (.int .i64 m) (.int .i64 i), mk [] :: M)) k4_0 (callFn SP (k + 9)) s4_b0 n) = some (.exit 0, x4_0 .dead, mk [] :: M) := by
  induction j with
  | zero =>
    intro i n h hn
    obtain rfl : i = 12 := by omega
    obtain ⟨n, rfl⟩ : ∃ m, n = m + 1 := ⟨n - 1, by omega⟩
    rw [rnd0_some]
    conv => lhs; arg 2; arg 1; rw [s4_b0]
    simp (disch := omega) []
  | succ j ih0 =>
    intro i n h hn
    obtain ⟨n, rfl⟩ : ∃ m, n = m + 1 := ⟨n - 1, by omega⟩
    have ih := ih0 (i + 1) n (by omega) (by omega)
    have hi : i < 12 := by omega
    have e1 : IntKind.wrap .i64 ((m : Int) + i) = (m : Int) + i := IntWalk.i64_in _ (by omega)
    have e2 : ((m : Int) + i).toNat = m + i := by omega
    have e3 : IntKind.wrap .i64 ((i : Int) + 1) = (i : Int) + 1 := IntWalk.i64_in _ (by omega)
    have h1 := fun k l => sum_e k (mk l :: ro M) (hG.ro.cons (mk l)) (t.take (m + i)) (by rw [List.length_take]; omega)
    have h2 := fun k l => ref_e k (mk l :: ro M) (hR.ro.cons (mk l)) (t.take (m + i)) (by rw [List.length_take]; omega)
    have hl := dg_len kv v0 (t.take (m + i))
    have hmi : m + i ≤ t.length := by omega
    generalize dg kv v0 (t.take (m + i)) = D at *
    rw [rnd0_some]
    conv => lhs; arg 2; arg 1; rw [s4_b0]
    simp (disch := first | omega | (simp; omega)) [hi, e1, e2, e3, h1, h2, hl, if_pos]
    simpa using ih

theorem lengths_e (k : Nat) (M : Mem) (hG : Gl kv v0 1 3 M) (hR : Gl kv v0 0 2 M) (s : List UInt8) (v : Int) (hv : (Lit.int .i64 v).wf = true) : callFn SP (k + 10) 4 [.str s, .int .i64 v] M = some (.bool true, [], M) := by
  obtain ⟨m, hm, hm5⟩ : ∃ m : Nat, (max 0 v).tmod 500 = (m : Int) ∧ m < 500 := ⟨((max 0 v).tmod 500).toNat, by
    rw [Int.tmod_eq_emod_of_nonneg (by omega)]; omega, by rw [Int.tmod_eq_emod_of_nonneg (by omega)]; omega⟩
  have hm2 : (max 0 v) % 500 = (m : Int) := by rw [← hm, Int.tmod_eq_emod_of_nonneg (by omega)]
  have hq := l4 k M hG hR (s.take (min s.length 600) ++ List.replicate 600 0) (by rw [List.length_append, List.length_take, List.length_replicate]; omega) m (by rw [List.length_append, List.length_take, List.length_replicate]; omega) 12 0 13 rfl (by omega)
  have hw := fun k l => wakes_e k (mk l :: ro M) (hG.ro.cons (mk l))
  have hb : bytesOf (List.replicate 600 (byteAV 0)) = some (List.replicate 600 0) := by rw [show List.replicate 600 (byteAV 0) = (List.replicate 600 (0 : UInt8)).map byteAV by rw [List.map_replicate]]; exact bytesOf_map _
  have hZ : (List.replicate 600 (0 : UInt8)).length = 600 := List.length_replicate
  generalize List.replicate 600 (0 : UInt8) = Z at *
  have hle : min s.length 600 + Z.length ≤ 4611686018427387904 := by omega
  have hr : ∀ n, List.replicate (n + 1) AV.undef = AV.undef :: List.replicate n AV.undef := fun n => rfl
  have hr0 : List.replicate 0 AV.undef = [] := rfl
  rw [call_fn (f := 4) (by rfl) (by simp)]
  simp (disch := first | omega | (simp; omega)) [-List.reduceReplicate, hr, hr0, hle, hm, hm2, hb, hw, if_pos]
  rw [ev_loop 13 (by simp) hq (by omega)]
  simp (disch := first | omega | (simp; omega)) [hw, if_pos]

theorem ev_ShaLengths (s : Scope) (args : List AV) (h : ArgsShp s [.str, .int .i64] args) : ∃ k M', callFn SP k 4 args [s, gScope G4] = some (.bool true, [], M') := by
  obtain ⟨v, _, rfl, hv, u, _, rfl, hu, rfl⟩ := h
  obtain ⟨t, rfl, _⟩ := ArgShp_str hv
  obtain ⟨n, rfl, hn⟩ := ArgShp_int hu
  exact ⟨10, _, lengths_e 0 _ (gl_sha s) (gl_ref s) t n hn⟩
end Go.Proofs.YtjfdcfolinphnaaDoor

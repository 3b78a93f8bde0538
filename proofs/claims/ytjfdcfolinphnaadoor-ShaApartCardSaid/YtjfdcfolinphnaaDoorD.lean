/-
  Two digests under way: ShaApart.
-/
import Derived.Test.YtjfdcfolinphnaaDoorC
set_option maxRecDepth 100000
set_option maxHeartbeats 8000000
set_option linter.unusedSimpArgs false
set_option linter.unusedVariables false
namespace Go.Proofs.YtjfdcfolinphnaaDoor
open Go.Det Go.Det.S

/-! ### ShaApart -/
theorem apart_e (k : Nat) (M : Mem) (hG : Gl kv v0 1 3 M) (a b : List UInt8) : callFn SP (k + 11) 7 [.str a, .str b] M = some (.bool true, [], M) := by
  have hla : (a.take (min a.length 300)).length ≤ 300 := by rw [List.length_take]; omega
  have hlb : (b.take (min b.length 300)).length ≤ 300 := by rw [List.length_take]; omega
  generalize hA : a.take (min a.length 300) = A at *
  generalize hB : b.take (min b.length 300) = B at *
  have h1 := fun k l => n_e k (mk l :: ro M) (hG.ro.cons _)
  have h2 := fun k => w_e k M hG [(8000, .cells (st kv v0 []) true true), (8004, .cells (st kv v0 []) true true)] 8000 [] A (by simp) (by omega) rfl
  have h3 := fun k => w_e k M hG [(8000, .cells (st kv v0 A) true true), (8004, .cells (st kv v0 []) true true)] 8004 [] B (by simp) (by omega) rfl
  have h4 := fun k => w_e k M hG [(8000, .cells (st kv v0 A) true true), (8004, .cells (st kv v0 B) true true)] 8000 A [120] (by omega) (by simp) rfl
  have h5 := fun k => q_e k (ro M) hG.ro [(8000, .cells (st kv v0 (A ++ [120])) false true), (8004, .cells (st kv v0 B) false true)] 8000 (A ++ [120]) (by rw [List.length_append]; simp; omega) false true rfl
  have h6 := fun k => q_e k (ro M) hG.ro [(8000, .cells (st kv v0 (A ++ [120])) false true), (8004, .cells (st kv v0 B) false true)] 8004 B (by omega) false true rfl
  have h7 := fun k l => goes_e k (mk l :: ro M) (hG.ro.cons _)
  have c1 := fun k l => sum_e k (mk l :: ro M) (hG.ro.cons (mk l)) (A ++ [120]) (by rw [List.length_append]; simp; omega)
  have c2 := fun k l => sum_e k (mk l :: ro M) (hG.ro.cons (mk l)) B (by omega)
  have c3 := fun k l => sum_e k (mk l :: ro M) (hG.ro.cons (mk l)) (0 :: A) (by rw [List.length_cons]; omega)
  have c4 := fun k l => sum_e k (mk l :: ro M) (hG.ro.cons (mk l)) (1 :: A) (by rw [List.length_cons]; omega)
  have c5 := fun k l => sum_e k (mk l :: ro M) (hG.ro.cons (mk l)) (2 :: A) (by rw [List.length_cons]; omega)
  have d3 := fun k l => leaf_e k (mk l :: ro M) (hG.ro.cons (mk l)) A (by omega)
  have d4 := fun k l => node_e k (mk l :: ro M) (hG.ro.cons (mk l)) A (by omega)
  have d5 := fun k l => top_e k (mk l :: ro M) (hG.ro.cons (mk l)) A (by omega)
  have w0 := fun k M s => write_nil (SP := SP) (n23 := 23) (n43 := 43) rfl k M s
  have q0 := fun k M => sum_nil (SP := SP) (n24 := 24) (n23 := 23) (n44 := 44) (n45 := 45) rfl k M
  have l0 := fun k M => len_nil (SP := SP) (n25 := 25) rfl k M
  simp only [ups, ro_length, if_pos, List.nil_append, show ¬ (8000 : Nat) = 8004 by decide, if_neg, not_false_eq_true] at h2 h3 h4 h5 h6
  have s0 := st_len []
  have s1 := st_len A
  have s2 := st_len B
  have s3 := st_len (A ++ [120])
  have ap : A ++ [120] = A ++ [120] := rfl
  have la : A.length + 1 ≤ 4611686018427387904 := by omega
  have lc : A.length ≤ 4611686018427387903 := by omega
  generalize dg kv v0 = DG at *
  generalize st kv v0 = ST at *
  rw [call_fn (f := 7) (by rfl) (by simp)]
  simp (disch := first | omega | (simp; omega)) [hA, hB, h1, h2, h3, h4, h5, h6, h7, c1, c2, c3, c4, c5, d3, d4, d5, w0, q0, l0, s0, s1, s2, s3, la, lc, if_pos]

theorem ev_ShaApart (s : Scope) (args : List AV) (h : ArgsShp s [.str, .str] args) : ∃ k M', callFn SP k 7 args [s, gScope G2] = some (.bool true, [], M') := by
  obtain ⟨v, _, rfl, hv, u, _, rfl, hu, rfl⟩ := h
  obtain ⟨t, rfl, _⟩ := ArgShp_str hv
  obtain ⟨t2, rfl, _⟩ := ArgShp_str hu
  exact ⟨11, _, apart_e 0 _ (gl_sha2 s) t t2⟩
end Go.Proofs.YtjfdcfolinphnaaDoor

/-
  Digests under way: ShaPieces, ShaApart.
-/
import Derived.Test.YtjfdcfolinphnaaDoorB
set_option maxRecDepth 100000
set_option maxHeartbeats 1000000
set_option linter.unusedSimpArgs false
set_option linter.unusedVariables false
namespace Go.Proofs.YtjfdcfolinphnaaDoor
open Go.Det Go.Det.S

theorem n_e (k : Nat) (M : Mem) (hG : Gl kv v0 1 3 M) : callFn SP (k + 1) 22 [] M = some (.ptr (some ⟨M.length, 0, 10, 0⟩), [.cells (st kv v0 []) true true], M) := by
  rw [st_nil]
  exact new_ev (SP := SP) (n22 := 22) (g3 := 3) rfl k M kv v0 hG

theorem w_e (k : Nat) (M : Mem) (hG : Gl kv v0 1 3 M) (L : List (Nat × Con)) (id : Nat) (a s : List UInt8) (ha : a.length < 2 ^ 46) (hs : s.length < 2 ^ 46) (hL : mk L id = some (.cells (st kv v0 a) true true)) :
    callFn SP (k + 6) 23 [.ptr (some ⟨M.length, id, 10, 0⟩), .str s] (mk L :: M) = some (.undef, [], mk (ups id (.cells (st kv v0 (a ++ s)) true true) L) :: M) := by
  have h := write_ev (SP := SP) (n23 := 23) (n43 := 43) (n60 := 60) (n61 := 61) (n71 := 71) (n72 := 72) (n80 := 80) (n81 := 81) (g1 := 1) (g3 := 3) rfl rfl rfl rfl rfl rfl rfl rfl k (mk L :: M) kv kv_len v0 (hG.cons _) M.length id (by simp) hG.1 a s ha hs (fun o => by
    rw [get_top, hL]; rfl)
  rw [h, put_top, setAt_mk]

theorem q_e (k : Nat) (M : Mem) (hG : Gl kv v0 1 3 M) (L : List (Nat × Con)) (id : Nat) (a : List UInt8) (ha : a.length < 2 ^ 45) (rw_ fl : Bool) (hL : mk L id = some (.cells (st kv v0 a) rw_ fl)) :
    callFn SP (k + 7) 24 [.ptr (some ⟨M.length, id, 10, 0⟩)] (mk L :: M) = some (.str (dg kv v0 a), [], mk L :: M) :=
  sum_ev (SP := SP) (n24 := 24) (n23 := 23) (n43 := 43) (n44 := 44) (n45 := 45) (n60 := 60) (n61 := 61) (n71 := 71) (n72 := 72) (n80 := 80) (n81 := 81) (g1 := 1) (g3 := 3) rfl rfl rfl rfl rfl rfl rfl rfl rfl rfl rfl rfl k (mk L :: M) kv kv_len v0 (hG.cons _) M.length id (by simp) a ha rw_ fl (fun o => by
    rw [get_top, hL]; rfl)

theorem len_e (k : Nat) (M : Mem) (L : List (Nat × Con)) (id : Nat) (a : List UInt8) (rw_ fl : Bool) (hL : mk L id = some (.cells (st kv v0 a) rw_ fl)) :
    callFn SP (k + 1) 25 [.ptr (some ⟨M.length, id, 10, 0⟩)] (mk L :: M) = some (.int .i64 a.length, [], mk L :: M) :=
  len_ev (SP := SP) (n25 := 25) rfl k (mk L :: M) M.length id _ _ _ (by simp) rw_ fl (fun o => by
    rw [get_top, hL]; rfl)

theorem st_len (a : List UInt8) : (st kv v0 a).length = 10 := rfl

theorem goes_e (k : Nat) (M : Mem) (hG : Gl kv v0 1 3 M) : callFn SP (k + 10) 26 [] M = some (.bool true, [], M) := by
  have h1 := fun k l => n_e k (mk l :: ro M) (hG.ro.cons _)
  have h2 := fun k => w_e k M hG [(4000, .cells (st kv v0 []) true true)] 4000 [] [97] (by simp) (by simp) rfl
  have h3 := fun k => w_e k M hG [(4000, .cells (st kv v0 ([] ++ [97])) true true)] 4000 ([] ++ [97]) [98, 99] (by simp) (by simp) rfl
  have h4 := fun k => q_e k (ro M) hG.ro [(4000, .cells (st kv v0 ([] ++ [97] ++ [98, 99])) false true)] 4000 _ (by simp) false true rfl
  have h5 := fun k => len_e k (ro M) [(4000, .cells (st kv v0 ([] ++ [97] ++ [98, 99])) false true)] 4000 _ false true rfl
  have h6 := fun k l => wakes_e k (mk l :: ro M) (hG.ro.cons _)
  have hd : dg kv v0 ([] ++ [97] ++ [98, 99]) = _ := dg_abc
  rw [hd] at h4
  simp only [ups, ro_length, if_pos] at h2 h3 h4 h5
  have s0 := st_len []
  have s1 := st_len ([] ++ [97])
  have s2 := st_len ([] ++ [97] ++ [98, 99])
  generalize st kv v0 [] = S0 at *
  generalize st kv v0 ([] ++ [97]) = S1 at *
  generalize st kv v0 ([] ++ [97] ++ [98, 99]) = S2 at *
  rw [call_fn (f := 26) (by rfl) (by simp)]
  simp (disch := first | omega | (simp; omega)) [h1, h2, h3, h4, h5, h6, s0, s1, s2, if_pos]

end Go.Proofs.YtjfdcfolinphnaaDoor

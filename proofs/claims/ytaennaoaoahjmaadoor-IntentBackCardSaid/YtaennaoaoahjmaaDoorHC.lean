/-
  The log's law: the cells of a log, its digest: the call; the document's.
-/
import Derived.Test.YtaennaoaoahjmaaDoorHB
set_option maxRecDepth 100000
set_option linter.unusedSimpArgs false
set_option linter.unusedVariables false
namespace Go.Proofs.YtaennaoaoahjmaaDoor
open Go.Det Go.Det.S

/-- The cells of a log. -/
def putC (l : List Wr) : List (List UInt8) := K.be8 (BitVec.ofNat 64 l.length) :: l.map wT
/-- Its error. -/
def putE (l : List Wr) : Int := if 96 ≤ l.length then 10 else match pgo l with | some e => e | none => 0
def dgC (l : List Wr) : List UInt8 := dg kv v0 (2 :: cat (putC l))

theorem pgo_ne : ∀ (l : List Wr) (e : Int), pgo l = some e → e ≠ 0
  | [], e, h => by cases h
  | w :: l, e, h => by
    simp only [pgo] at h
    by_cases hw : mayE w = 0
    · rw [if_pos hw] at h; exact pgo_ne l e h
    · rw [if_neg hw] at h; cases h; exact hw

theorem cat_map_len : ∀ l : List Wr, (∀ w ∈ l, mayE w = 0) → (cat (l.map wT)).length ≤ 2056 * l.length
  | [], _ => by simp [cat]
  | w :: l, h => by
    have h1 := (may_cell (h w (by simp))).1
    have h2 := cat_map_len l fun x hx => h x (by simp [hx])
    rw [List.map_cons, cat_cons, List.length_append, et_len, wT, List.length_append, K.be8_len, et_len, List.length_cons]
    omega

theorem cat_put_len (l : List Wr) (h : pgo l = none) (hl : l.length < 96) : (cat (putC l)).length ≤ 2056 * 96 + 16 := by
  have := cat_map_len l (pgo_all l h)
  rw [putC, cat_cons, List.length_append, et_len, K.be8_len]
  omega

def putOut (D : Nat) (l : List Wr) : AV × List Con :=
  if putE l = 0 then (.tuple [oV D 0 (putC l), .str (dgC l), .int .i64 0], [oC (putC l)]) else (.tuple [.slice none 0 0, .str [], .int .i64 (putE l)], [])

set_option maxHeartbeats 4000000 in
theorem put_ev (k : Nat) (M : Mem) (hG : Gl kv v0 2 3 M) (v : AV) (l : List Wr) (hv : WM M 2 wc v l) (hN : l.length < 2 ^ 40) : callFn SP (k + 11) 16 [v] M = some ((putOut M.length l).1, (putOut M.length l).2, M) := by
  have i1 := WM_ids hv
  have n1 := hv.len
  unfold putOut putE
  by_cases h96 : 96 ≤ l.length
  · have h96' : (96 : Int) ≤ l.length := by omega
    simp only [if_pos h96, show ¬ (10 : Int) = 0 by decide, if_false]
    rw [call_fn (f := 16) (by rfl) (by simp)]
    simp [n1, h96']
  · have h96' : ¬ (96 : Int) ≤ l.length := by omega
    have hlp := l16 (k + 7) M v l l.length rfl (by omega) hv l.length 0 (l.length + 1) [K.be8 (BitVec.ofNat 64 l.length)] (by omega) (by omega) rfl
    rw [List.drop_zero] at hlp
    have hnum := fun L => num_e (k + 8) (mk L :: ro M) (BitVec.ofNat 64 l.length)
    simp only [if_neg h96]
    rw [call_fn (f := 16) (by rfl) (by simp)]
    simp [n1, h96', hnum]
    cases hp : pgo l with
    | some e =>
      have he := pgo_ne l e hp
      rw [hp] at hlp
      simp only [r16] at hlp
      rw [ev_loop (l.length + 1) (by simp [i1, oV, oC]) hlp (by omega)]
      simp [he, oV, oC]
    | none =>
      have hcl := cat_put_len l hp (by omega)
      have hall := pcs_all l hp
      rw [hp, hall, show [K.be8 (BitVec.ofNat 64 l.length)] ++ l.map wT = putC l from rfl] at hlp
      simp only [r16] at hlp
      have hdg : ∀ L, mk L 12016 = some (oC (putC l)).ro → callFn SP (k + 10) 29 [oV M.length 12016 (putC l)] (mk L :: ro M) = some (.str (dgC l), [], mk L :: ro M) := fun L hL =>
        digest_e k (mk L :: ro M) (hG.ro.cons _) _ (putC l) (WS.top' (rw_ := false) (fl := true) hL (by rw [ro_length]) rfl rfl) (by simp [putC]; omega) (by omega)
      rw [ev_loop (l.length + 1) (by simp [i1, oV, oC]) hlp (by omega)]
      simp only [oV, oC, Con.ro] at hdg
      generalize dgC l = DD at *
      generalize putC l = PC at *
      simp [oV, oC, hdg]

end Go.Proofs.YtaennaoaoahjmaaDoor

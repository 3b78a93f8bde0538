/-
  The log's law: what was logged is read back; the log that is written and read.
-/
import Derived.Test.YtaennaoaoahjmaaDoorHH
set_option maxRecDepth 100000
set_option linter.unusedSimpArgs false
set_option linter.unusedVariables false
namespace Go.Proofs.YtaennaoaoahjmaaDoor
open Go.Det Go.Det.S

theorem below_app (bound x : Int) (t : List UInt8) (h1 : 0 ≤ x) (h2 : x < bound) (h3 : bound < 2 ^ 60) : K.rbelow bound (b8 x ++ t, 0) = (x, (t, 0)) := by
  have hx : (BitVec.ofInt 64 x).toNat = x.toNat := ofInt64_nat x h1 (by omega)
  unfold K.rbelow
  rw [show b8 x = K.be8 (BitVec.ofInt 64 x) from rfl, K.rnum_app]
  simp only [if_true]
  rw [if_neg, hx, IntWalk.i64_in _ (by omega)]
  · simp only [Prod.mk.injEq, and_true]
    omega
  · rw [not_or, BitVec.le_def, ofInt64_nat bound (by omega) h3, hx]
    omega

theorem be8_nat (n : Nat) : K.be8 (BitVec.ofNat 64 n) = b8 (n : Int) := by
  show K.be8 _ = K.be8 (BitVec.ofInt 64 (n : Int))
  rw [BitVec.ofInt_natCast]

theorem size_be8 (n : Nat) (h : n < 96) : sizeE (K.be8 (BitVec.ofNat 64 n)) = 0 ∧ sizeN (K.be8 (BitVec.ofNat 64 n)) = n + 1 := by
  have := below_app 96 n [] (by omega) (by omega) (by omega)
  rw [List.append_nil, ← be8_nat] at this
  unfold sizeE sizeN
  rw [this]
  exact ⟨rfl, rfl⟩

theorem rdW_wT (w : Wr) (h : mayE w = 0) : rdW (wT w) = some w := by
  obtain ⟨hc, h1, h2⟩ := may_cell h
  have hb := below_app 140 w.at_ (et w.cell) (by omega) (by omega) (by omega)
  have ht : K.rtext (et w.cell, 0) = (w.cell, ([], 0)) := by
    have := K.rtext_app w.cell [] (by omega)
    rwa [List.append_nil] at this
  unfold rdW
  rw [show wT w = b8 w.at_ ++ et w.cell from rfl, hb]
  simp only
  rw [ht]
  simp only
  rw [if_pos ⟨rfl, h⟩]

theorem rd_all : ∀ l : List Wr, (∀ w ∈ l, mayE w = 0) → rdL (l.map wT) = l ∧ rdA (l.map wT) = true
  | [], _ => ⟨rfl, rfl⟩
  | w :: l, h => by
    obtain ⟨h1, h2⟩ := rd_all l fun x hx => h x (by simp [hx])
    simp only [List.map_cons, rdL, rdA, rdW_wT w (h w (by simp)), h1, h2, and_self]

theorem putE_ok {l : List Wr} (h : putE l = 0) : l.length < 96 ∧ pgo l = none ∧ ∀ w ∈ l, mayE w = 0 := by
  unfold putE at h
  by_cases h96 : 96 ≤ l.length
  · rw [if_pos h96] at h; cases h
  · rw [if_neg h96] at h
    cases hp : pgo l with
    | some e => rw [hp] at h; exact absurd h (pgo_ne l e hp)
    | none => exact ⟨by omega, rfl, pgo_all l hp⟩

theorem nW_put (l : List Wr) (more : List (List UInt8)) (h : l.length < 96) : nW (putC l ++ more) = l.length := by
  unfold nW
  rw [show nth (putC l ++ more) 0 = K.be8 (BitVec.ofNat 64 l.length) from rfl, (size_be8 _ h).2]
  omega

/-- What was logged is read back, whatever cells stand behind. -/
theorem get_put {l : List Wr} (h : putE l = 0) (more : List (List UInt8)) : gE (putC l ++ more) (dgC l) = 0 ∧ gL (putC l ++ more) = l := by
  obtain ⟨h1, h2, h3⟩ := putE_ok h
  obtain ⟨r1, r2⟩ := rd_all l h3
  have hn := nW_put l more h1
  have hs := size_be8 l.length h1
  have hlen : (putC l).length = l.length + 1 := by simp [putC]
  have ht : (putC l ++ more).take (l.length + 1) = putC l := by rw [List.take_append_of_le_length (by omega), List.take_of_length_le (by omega)]
  have hd : ((putC l ++ more).drop 1).take l.length = l.map wT := by
    rw [show (putC l ++ more).drop 1 = l.map wT ++ more from rfl, List.take_append_of_le_length (by simp), List.take_of_length_le (by simp)]
  have hne : putC l ++ more ≠ [] := by simp [putC]
  unfold gE gL
  rw [hn, hd, ht, r1, r2, if_neg hne, show nth (putC l ++ more) 0 = K.be8 (BitVec.ofNat 64 l.length) from rfl, hs.1]
  have hl2 : ¬ (putC l ++ more).length < l.length + 1 := by rw [List.length_append]; omega
  rw [if_neg (by decide), if_neg hl2, if_neg (by rw [show dgC l = dg kv v0 (2 :: cat (putC l)) from rfl]; exact fun h => h rfl)]
  exact ⟨rfl, rfl⟩

theorem cells_len {l : List Wr} (h : putE l = 0) : (∀ t ∈ putC l, t.length < 2 ^ 12) ∧ (cat (putC l)).length ≤ 2056 * 96 + 16 := by
  obtain ⟨h1, h2, h3⟩ := putE_ok h
  refine ⟨fun t ht => ?_, cat_put_len l h2 h1⟩
  unfold putC at ht
  rcases List.mem_cons.1 ht with rfl | ht
  · rw [K.be8_len]; omega
  · obtain ⟨w, hw, rfl⟩ := List.mem_map.1 ht
    have := (may_cell (h3 w hw)).1
    rw [wT, List.length_append, K.be8_len, et_len]; omega

set_option maxHeartbeats 4000000 in
theorem wakes_e (k : Nat) (M : Mem) (hG : Gl kv v0 2 3 M) : callFn SP (k + 12) 13 [] M = some (.bool true, [], M) := by
  have hp : ∀ L, mk L 4004 = some (.cells [.int .i64 120, .str [120]] false true) → callFn SP (k + 11) 16 [.slice (some ⟨M.length, 4004, 2, 0⟩) 1 2] (mk L :: ro M) =
      some (.tuple [oV (M.length + 1) 0 (putC [⟨120, [120]⟩]), .str (dgC [⟨120, [120]⟩]), .int .i64 0], [oC (putC [⟨120, [120]⟩])], mk L :: ro M) := by
    intro L hL
    have := put_ev k (mk L :: ro M) (hG.ro.cons _) (.slice (some ⟨M.length, 4004, 2, 0⟩) 1 2) [⟨120, [120]⟩] (WM.top (rw_ := false) (fl := true) hL (by rw [ro_length]) rfl rfl) (by simp)
    simpa [putOut, show putE [⟨120, [120]⟩] = 0 from rfl, ro_length] using this
  have hb := get_put (l := [⟨120, [120]⟩]) rfl []
  have hc := cells_len (l := [⟨120, [120]⟩]) rfl
  rw [List.append_nil] at hb
  have hg : ∀ L i, mk L i = some (oC (putC [⟨120, [120]⟩])).ro → callFn SP (k + 11) 10 [oV M.length i (putC [⟨120, [120]⟩]), .str (dgC [⟨120, [120]⟩])] (mk L :: ro M) =
      some (.tuple [.slice (some ⟨M.length + 1, 0, 2, 0⟩) 1 2, .int .i64 0], [.cells [.int .i64 120, .str [120]] true true], mk L :: ro M) := by
    intro L i hL
    have := get_ev k (mk L :: ro M) (hG.ro.cons _) (oV M.length i (putC [⟨120, [120]⟩])) (putC [⟨120, [120]⟩]) (dgC [⟨120, [120]⟩]) (WS.top' (rw_ := false) (fl := true) hL (by rw [ro_length]) rfl rfl) (by simp [putC]) (fun t ht => Nat.lt_trans (hc.1 t ht) (by omega)) (by have := cat_take_le (putC [⟨120, [120]⟩]) (nW (putC [⟨120, [120]⟩]) + 1); omega)
    simpa [getOut, hb.1, hb.2, gV, gC, wc, ro_length] using this
  have hs : ∀ L, callFn SP (k + 11) 12 [.str [0, 0, 0, 0, 0, 0, 0, 1]] (mk L :: ro M) = some (.tuple [.int .i64 2, .int .i64 0], [], mk L :: ro M) := by
    intro L
    have := size_ev (k + 5) (mk L :: ro M) (K.be8 (BitVec.ofNat 64 1)) (by rw [K.be8_len]; omega)
    rw [(size_be8 1 (by omega)).1, (size_be8 1 (by omega)).2, show K.be8 (BitVec.ofNat 64 1) = [0, 0, 0, 0, 0, 0, 0, 1] by decide] at this
    exact this
  have hl2 : (putC [(⟨120, [120]⟩ : Wr)]).length = 2 := rfl
  simp only [oV, oC, hl2, Con.ro] at hp hg
  have hml : ((putC [(⟨120, [120]⟩ : Wr)]).map AV.str).length = 2 := by rw [List.length_map, hl2]
  generalize dgC [⟨120, [120]⟩] = DD at *
  generalize (putC [(⟨120, [120]⟩ : Wr)]).map AV.str = PC at *
  rw [call_fn (f := 13) (by rfl) (by simp)]
  have hr : ∀ f : Nat → AV, List.drop 2 (List.map f (List.range 2)) = [] := fun f => rfl
  simp [hp, hg, hs, hml, ro_length, rep, hr]

end Go.Proofs.YtaennaoaoahjmaaDoor

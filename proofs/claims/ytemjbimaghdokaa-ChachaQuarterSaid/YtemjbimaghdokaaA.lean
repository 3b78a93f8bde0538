/-
  CHACHA, part A: what each function comes to, here; the fixed words; the keys.
-/
import Derived.Test.YtemjbimaghdokaaG
import Derived.Test.YtemjbimaghdokaaLibCB
import Derived.Test.YtemjbimaghdokaaDetV
set_option maxRecDepth 100000
set_option maxHeartbeats 4000000
set_option linter.unusedSimpArgs false
set_option linter.unusedVariables false
namespace Go.Proofs.Ytemjbimaghdokaa
open Go.Det Go.Det.C

abbrev qrt (k M a b c d) := quarter_ev (SP := SP) (n10 := 10) (n19 := 19) rfl rfl k M a b c d
abbrev blkC (k M key nonce c) := block_ev (SP := SP) (n10 := 10) (n14 := 14) (n19 := 19) (n21 := 21) (n22 := 22) (n27 := 27) (n28 := 28) (n29 := 29) (n31 := 31) (n32 := 32) rfl rfl rfl rfl rfl rfl rfl rfl rfl rfl k M key nonce c
abbrev cryC (k M key nonce c s hs) := crypt_ev (SP := SP) (n10 := 10) (n16 := 16) (n18 := 18) (n19 := 19) (n21 := 21) (n22 := 22) (n27 := 27) (n28 := 28) (n29 := 29) (n31 := 31) (n32 := 32) rfl rfl rfl rfl rfl rfl rfl rfl rfl rfl rfl k M key nonce c s hs
abbrev rblkC (k M key nonce c) := refblock_ev (SP := SP) (n12 := 12) (n15 := 15) (n20 := 20) (n23 := 23) (n24 := 24) (n25 := 25) rfl rfl rfl rfl rfl rfl k M key nonce c
abbrev rcryC (k M key nonce c s hs) := refcrypt_ev (SP := SP) (n12 := 12) (n15 := 15) (n17 := 17) (n20 := 20) (n23 := 23) (n24 := 24) (n25 := 25) (n26 := 26) (n30 := 30) rfl rfl rfl rfl rfl rfl rfl rfl rfl k M key nonce c s hs
abbrev xorC (k M a b h) := W.xor_ev (SP := SP) (n10 := 18) rfl k M a b h

/-- The fixed words. -/
theorem wakes (k : Nat) (M : Mem) : callFn SP (k + 6) 11 [] M = some (.bool true, [], M) := by
  have h1 : q4 0x11111111#32 0x01020304#32 0x9b8d6f43#32 0x01234567#32 = (0xea2a92f4#32, 0xcb1cf8ce#32, 0x4581472e#32, 0x5881c4bb#32) := by decide +kernel
  have h2 : (stream (List.replicate 32 0) (List.replicate 12 0) 0#32).take 2 = [118, 184] := by decide +kernel
  have hs := stream_len (List.replicate 32 0) (List.replicate 12 0) 0#32
  have h3 : crypt (List.replicate 32 0) (List.replicate 12 0) 0#32 [0, 0] = [118, 184] := by decide +kernel
  have e1 : blockR (List.replicate 32 0) (List.replicate 12 0) 0#32 = (stream (List.replicate 32 0) (List.replicate 12 0) 0#32, 0) := if_pos (by simp)
  have e2 : cryptR (List.replicate 32 0) (List.replicate 12 0) 0#32 [0, 0] = ([118, 184], 0) := by rw [cryptR, if_pos (by simp), if_pos (by simp), h3]
  have b1 := fun k M => qrt k M 0x11111111#32 0x01020304#32 0x9b8d6f43#32 0x01234567#32
  have b2 := fun k M => blkC k M (List.replicate 32 0) (List.replicate 12 0) 0#32
  have b3 := fun k M => cryC k M (List.replicate 32 0) (List.replicate 12 0) 0#32 [0, 0] (by simp)
  rw [h1] at b1
  rw [e1] at b2
  rw [e2] at b3
  generalize stream (List.replicate 32 0) (List.replicate 12 0) 0#32 = S at *
  have z1 := bytesOf_rep 32
  have z2 := bytesOf_rep 12
  simp only [List.reduceReplicate] at z1 z2 b2 b3
  rw [call_fn (by rfl) (by simp)]
  simp (disch := omega) [z1, z2, b1, b2, b3, if_pos, hs, h2]

/-- The key that is told. -/
def keyOf (a : List UInt8) (n : Int) : List UInt8 := if n < 0 then a.take (min n.natAbs 31) else a
theorem keyOf_zero (a : List UInt8) : keyOf a 0 = a := rfl

theorem texts_ev (k : Nat) (M : Mem) (a b : List UInt8) (n : Int) (ha : a.length = 32) (hb : b.length = 12) :
    callFn SP (k + 1) 13 [.agg (a.map byteAV ++ (b.map byteAV ++ [.int .i64 n]))] M = some (.tuple [.str (keyOf a n), .str b], [], M) := by
  obtain ⟨C, hC⟩ : ∃ C, a.map byteAV ++ (b.map byteAV ++ [.int .i64 n]) = C := ⟨_, rfl⟩
  have h1 : C.length = 45 := by rw [← hC]; simp [ha, hb]
  have h2 : C.take 32 = a.map byteAV := by rw [← hC]; exact List.take_left' (by simp [ha])
  have h3 : (C.drop 32).take 12 = b.map byteAV := by rw [← hC, List.drop_left' (by simp [ha])]; exact List.take_left' (by simp [hb])
  have h4 : C[44]? = some (.int .i64 n) := by
    rw [← hC, List.getElem?_append_right (by simp [ha]), List.getElem?_append_right (by simp [ha, hb])]
    simp [ha, hb]
  have h5 : AV.unders 0 C = true := by rw [← hC]; simp [AV.unders]
  have h5n : AV.noNils C = true := by rw [← hC]; simp [AV.noNils]
  rw [hC]
  rw [call_fn (by rfl) (by simp)]
  unfold keyOf
  have h6 : ∀ h : 44 < C.length, C[44] = AV.int .i64 n := fun h => by
    rw [List.getElem?_eq_getElem h] at h4
    exact Option.some.inj h4
  by_cases hn : n < 0
  · by_cases hm : n < -31
    · have e1 : max n (-31) = -31 := by omega
      have e2 : min n.natAbs 31 = 31 := by omega
      simp (disch := omega) [h1, h2, h3, h4, h5, h5n, h6, hn, if_pos, ha, e1, e2, show IntKind.wrap .i64 31 = 31 from rfl]
    · have e1 : max n (-31) = n := by omega
      have e2 : min n.natAbs 31 = n.natAbs := by omega
      have e3 : (-n).toNat = n.natAbs := by omega
      have e4 : 0 - n = -n := by omega
      simp (disch := omega) [h1, h2, h3, h4, h5, h5n, h6, hn, if_pos, ha, e1, e2, e3, e4, IntWalk.i64_in]
  · simp (disch := omega) [h1, h2, h3, h4, h5, h5n, h6, hn, if_pos]

/-- What the keys are. -/
structure KeysOf (v : AV) where
  a : List UInt8
  b : List UInt8
  n : Int
  ha : a.length = 32
  hb : b.length = 12
  hv : v = .agg (a.map byteAV ++ (b.map byteAV ++ [.int .i64 n]))

theorem keys_open {s : Scope} {v : AV} (h : ArgShp s (.st [.arr 32 (.int .u8), .arr 12 (.int .u8), .int .i64]) v) : ∃ (a b : List UInt8) (n : Int), a.length = 32 ∧ b.length = 12 ∧ v = .agg (a.map byteAV ++ (b.map byteAV ++ [.int .i64 n])) := by
  obtain ⟨l, rfl, hl⟩ := ArgShp_agg rfl h
  obtain ⟨_, _, rfl, h1, _, _, rfl, h2, _, _, rfl, h3, rfl⟩ := hl
  obtain ⟨a, ha, rfl⟩ := Shp_arr8 h1
  obtain ⟨b, hb, rfl⟩ := Shp_arr8 h2
  obtain ⟨n, rfl, _⟩ := h3
  exact ⟨a, b, n, ha, hb, by simp⟩

end Go.Proofs.Ytemjbimaghdokaa

/-
  The digests of this seat: the program's and the document's.
-/
import Derived.Test.YtjfdcfolinphnaaDoorG
import Derived.Test.YtjfdcfolinphnaaDoorLibSF
import Derived.Test.YtjfdcfolinphnaaDoorDetY
set_option maxRecDepth 100000
set_option maxHeartbeats 1000000
set_option linter.unusedSimpArgs false
set_option linter.unusedVariables false
namespace Go.Proofs.YtjfdcfolinphnaaDoor
open Go.Det Go.Det.S

/-! ### the constants -/
def kv : List (BitVec 32) := [1116352408#32, 1899447441#32, 3049323471#32, 3921009573#32, 961987163#32, 1508970993#32, 2453635748#32, 2870763221#32, 3624381080#32, 310598401#32, 607225278#32, 1426881987#32, 1925078388#32, 2162078206#32, 2614888103#32, 3248222580#32, 3835390401#32, 4022224774#32, 264347078#32, 604807628#32, 770255983#32, 1249150122#32, 1555081692#32, 1996064986#32, 2554220882#32, 2821834349#32, 2952996808#32, 3210313671#32, 3336571891#32, 3584528711#32, 113926993#32, 338241895#32, 666307205#32, 773529912#32, 1294757372#32, 1396182291#32, 1695183700#32, 1986661051#32, 2177026350#32, 2456956037#32, 2730485921#32, 2820302411#32, 3259730800#32, 3345764771#32, 3516065817#32, 3600352804#32, 4094571909#32, 275423344#32, 430227734#32, 506948616#32, 659060556#32, 883997877#32, 958139571#32, 1322822218#32, 1537002063#32, 1747873779#32, 1955562222#32, 2024104815#32, 2227730452#32, 2361852424#32, 2428436474#32, 2756734187#32, 3204031479#32, 3329325298#32]
def v0 : H8 := ⟨1779033703#32, 3144134277#32, 1013904242#32, 2773480762#32, 1359893119#32, 2600822924#32, 528734635#32, 1541459225#32⟩
theorem kv_len : kv.length = 64 := rfl
def G4 : List (Nat × List AV) := [(0, v0.l.map u32), (2, kv.map u32), (1, v0.l.map u32), (3, kv.map u32)]
def G2 : List (Nat × List AV) := [(1, v0.l.map u32), (3, kv.map u32)]

theorem gl_ref (s : Scope) : Gl kv v0 0 2 [s, gScope G4] := ⟨by simp, fun o => rfl, fun o => rfl⟩
theorem gl_sha (s : Scope) : Gl kv v0 1 3 [s, gScope G4] := ⟨by simp, fun o => rfl, fun o => rfl⟩
theorem gl_sha2 (s : Scope) : Gl kv v0 1 3 [s, gScope G2] := ⟨by simp, fun o => rfl, fun o => rfl⟩

/-! ### the sums -/
theorem sum_e (k : Nat) (M : Mem) (hG : Gl kv v0 1 3 M) (s : List UInt8) (hs : s.length < 2 ^ 45) : callFn SP (k + 8) 16 [.str s] M = some (.str (dg kv v0 s), [], M) :=
  shasum_ev (SP := SP) (n16 := 16) (n22 := 22) (n23 := 23) (n24 := 24) (n43 := 43) (n44 := 44) (n45 := 45) (n60 := 60) (n61 := 61) (n71 := 71) (n72 := 72) (n80 := 80) (n81 := 81) rfl rfl rfl rfl rfl rfl rfl rfl rfl rfl rfl rfl rfl rfl k M kv kv_len v0 hG s hs
theorem ref_e (k : Nat) (M : Mem) (hG : Gl kv v0 0 2 M) (s : List UInt8) (hs : s.length < 2 ^ 40) : callFn SP (k + 5) 17 [.str s] M = some (.str (dg kv v0 s), [], M) :=
  refsum_ev (SP := SP) (n17 := 17) (n40 := 40) (n41 := 41) (n42 := 42) (n55 := 55) (n56 := 56) (n57 := 57) (n58 := 58) (n59 := 59) (n70 := 70) rfl rfl rfl rfl rfl rfl rfl rfl rfl rfl k M kv kv_len v0 hG s hs

/-- Of 'abc'. -/
theorem dg_abc : dg kv v0 [97, 98, 99] = [186, 120, 22, 191, 143, 1, 207, 234, 65, 65, 64, 222, 93, 174, 34, 35, 176, 3, 97, 163, 150, 23, 122, 156, 180, 16, 255, 97, 242, 0, 21, 173] := by decide +kernel

theorem wakes_e (k : Nat) (M : Mem) (hG : Gl kv v0 1 3 M) : callFn SP (k + 9) 15 [] M = some (.bool true, [], M) := by
  have h := fun k l => sum_e k (mk l :: ro M) (hG.ro.cons (mk l)) [97, 98, 99] (by simp)
  rw [dg_abc] at h
  rw [call_fn (f := 15) (by rfl) (by simp)]
  simp (disch := first | omega | (simp; omega)) [h, if_pos]

/-! ### ShaSums -/
theorem sums_e (k : Nat) (M : Mem) (hG : Gl kv v0 1 3 M) (hR : Gl kv v0 0 2 M) (s : List UInt8) : callFn SP (k + 10) 3 [.str s] M = some (.bool true, [], M) := by
  have hw := fun k l => wakes_e k (mk l :: ro M) (hG.ro.cons (mk l))
  have h1 := fun k l => sum_e k (mk l :: ro M) (hG.ro.cons (mk l)) (s.take (min s.length 1000)) (by rw [List.length_take]; omega)
  have h2 := fun k l => ref_e k (mk l :: ro M) (hR.ro.cons (mk l)) (s.take (min s.length 1000)) (by rw [List.length_take]; omega)
  rw [call_fn (f := 3) (by rfl) (by simp)]
  simp (disch := first | omega | (simp; omega)) [h1, h2, hw, if_pos]

theorem ev_ShaSums (s : Scope) (args : List AV) (h : ArgsShp s [.str] args) : ∃ k M', callFn SP k 3 args [s, gScope G4] = some (.bool true, [], M') := by
  obtain ⟨v, _, rfl, hv, rfl⟩ := h
  obtain ⟨t, rfl, _⟩ := ArgShp_str hv
  exact ⟨10, _, sums_e 0 _ (gl_sha s) (gl_ref s) t⟩
end Go.Proofs.YtjfdcfolinphnaaDoor

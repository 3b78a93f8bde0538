/-
  DET, part U: what a law's arguments look like, in the walk's words.
-/
import Derived.Test.YtaennaoaoahjmaaDoorDetS
import Derived.Test.YtaennaoaoahjmaaDoorDetT
set_option linter.unusedSimpArgs false
set_option linter.unusedVariables false
namespace Go.Det

theorem int_u32 {n : Int} (h : (Lit.int .u32 n).wf = true) : ∃ x, AV.int .u32 n = u32 x := by
  simp only [Lit.wf, Bool.and_eq_true, decide_eq_true_eq] at h
  have h1 : (0 : Int) ≤ n := h.1
  have h2 : n ≤ 4294967295 := h.2
  refine ⟨BitVec.ofNat 32 n.toNat, ?_⟩
  unfold u32
  congr 1
  rw [BitVec.toNat_ofNat]
  have : n.toNat % 2 ^ 32 = n.toNat := Nat.mod_eq_of_lt (by omega)
  rw [this]
  omega
theorem int_u64 {n : Int} (h : (Lit.int .u64 n).wf = true) : ∃ x, AV.int .u64 n = u64 x := by
  simp only [Lit.wf, Bool.and_eq_true, decide_eq_true_eq] at h
  have h1 : (0 : Int) ≤ n := h.1
  have h2 : n ≤ 18446744073709551615 := h.2
  refine ⟨BitVec.ofNat 64 n.toNat, ?_⟩
  unfold u64
  congr 1
  rw [BitVec.toNat_ofNat]
  have : n.toNat % 2 ^ 64 = n.toNat := Nat.mod_eq_of_lt (by omega)
  rw [this]
  omega
theorem int_u8 {n : Int} (h : (Lit.int .u8 n).wf = true) : ∃ x, AV.int .u8 n = byteAV x := by
  simp only [Lit.wf, Bool.and_eq_true, decide_eq_true_eq] at h
  have h1 : (0 : Int) ≤ n := h.1
  have h2 : n ≤ 255 := h.2
  refine ⟨UInt8.ofNat n.toNat, ?_⟩
  unfold byteAV
  congr 1
  rw [UInt8.toNat_ofNat']
  have : n.toNat % 2 ^ 8 = n.toNat := Nat.mod_eq_of_lt (by omega)
  rw [this]
  omega

theorem ArgShp_u32 {s : Scope} {v : AV} (h : ArgShp s (.int .u32) v) : ∃ x, v = u32 x := by
  obtain ⟨n, rfl, hw⟩ := ArgShp_int h
  exact int_u32 hw
theorem ArgShp_u64 {s : Scope} {v : AV} (h : ArgShp s (.int .u64) v) : ∃ x, v = u64 x := by
  obtain ⟨n, rfl, hw⟩ := ArgShp_int h
  exact int_u64 hw
theorem ArgShp_u8 {s : Scope} {v : AV} (h : ArgShp s (.int .u8) v) : ∃ x, v = byteAV x := by
  obtain ⟨n, rfl, hw⟩ := ArgShp_int h
  exact int_u8 hw
theorem ArgShp_i64 {s : Scope} {v : AV} (h : ArgShp s (.int .i64) v) : ∃ n, v = .int .i64 n ∧ -9223372036854775808 ≤ n ∧ n ≤ 9223372036854775807 := by
  obtain ⟨n, rfl, hw⟩ := ArgShp_int h
  simp only [Lit.wf, Bool.and_eq_true, decide_eq_true_eq] at hw
  exact ⟨n, rfl, hw⟩

theorem flat_map {α : Type} (f : α → AV) : ∀ (ls : List (List AV)), (∀ x ∈ ls, ∃ y, x = [f y]) → ∃ l : List α, ls.flatten = l.map f ∧ l.length = ls.length
  | [], _ => ⟨[], rfl, rfl⟩
  | x :: ls, h => by
    obtain ⟨y, rfl⟩ := h x (by simp)
    obtain ⟨l, h1, h2⟩ := flat_map f ls (fun x hx => h x (by simp [hx]))
    exact ⟨y :: l, by simp [h1], by simp [h2]⟩

/-- A slice whose elements are single cells. -/
theorem ArgShp_ws {α : Type} (f : α → AV) (g : Scope) {s : Scope} {e : Ty} {v : AV} (he : e.size = 1) (hf : ∀ x, Shp s e x → ∃ y, x = [f y]) (h : ArgShp s (.sl e) v) : ∃ l, WS [s, g] f v l ∧ l.length ≤ reachBytes := by
  rcases ArgShp_sl h with rfl | rfl | ⟨id, ls, fl, rfl, h1, h2, h3⟩
  · exact ⟨[], .inl ⟨_, rfl, rfl⟩, Nat.zero_le _⟩
  · exact ⟨[], .inr (.inl ⟨_, rfl, rfl⟩), Nat.zero_le _⟩
  · obtain ⟨l, k1, k2⟩ := flat_map f ls (fun x hx => hf x (h3 x hx))
    refine ⟨l, ?_, by omega⟩
    rw [k1] at h1 ⊢
    rw [he, ← k2, List.length_map]
    exact WS.top (M := [g]) h1

theorem ArgShp_slu32 (g : Scope) {s : Scope} {v : AV} (h : ArgShp s (.sl (.int .u32)) v) : ∃ l, WS [s, g] u32 v l ∧ l.length ≤ reachBytes :=
  ArgShp_ws u32 g (by simp [Ty.size]) (fun x hx => by obtain ⟨n, rfl, hw⟩ := hx; obtain ⟨y, hy⟩ := int_u32 hw; exact ⟨y, by rw [hy]⟩) h
theorem ArgShp_slu8 (g : Scope) {s : Scope} {v : AV} (h : ArgShp s (.sl (.int .u8)) v) : ∃ l, WS [s, g] byteAV v l ∧ l.length ≤ reachBytes :=
  ArgShp_ws byteAV g (by simp [Ty.size]) (fun x hx => by obtain ⟨n, rfl, hw⟩ := hx; obtain ⟨y, hy⟩ := int_u8 hw; exact ⟨y, by rw [hy]⟩) h
theorem ArgShp_slu64 (g : Scope) {s : Scope} {v : AV} (h : ArgShp s (.sl (.int .u64)) v) : ∃ l, WS [s, g] u64 v l ∧ l.length ≤ reachBytes :=
  ArgShp_ws u64 g (by simp [Ty.size]) (fun x hx => by obtain ⟨n, rfl, hw⟩ := hx; obtain ⟨y, hy⟩ := int_u64 hw; exact ⟨y, by rw [hy]⟩) h
theorem ArgShp_sli64 (g : Scope) {s : Scope} {v : AV} (h : ArgShp s (.sl (.int .i64)) v) : ∃ l, WS [s, g] i64 v l ∧ l.length ≤ reachBytes :=
  ArgShp_ws i64 g (by simp [Ty.size]) (fun x hx => by obtain ⟨n, rfl, hw⟩ := hx; exact ⟨n, rfl⟩) h
theorem ArgShp_slstr (g : Scope) {s : Scope} {v : AV} (h : ArgShp s (.sl .str) v) : ∃ l, WS [s, g] AV.str v l ∧ l.length ≤ reachBytes :=
  ArgShp_ws AV.str g (by simp [Ty.size]) (fun x hx => by obtain ⟨n, rfl, hw⟩ := hx; exact ⟨n, rfl⟩) h

/-- A number's last bits. -/
theorem and_low (n : Int) (k : Nat) (hk : k ≤ 62) : aint .and .i64 n ((2 ^ k - 1 : Nat) : Int) = some (.int .i64 (n % (2 ^ k : Nat))) := by
  have hp : (2 : Nat) ^ k ≤ 2 ^ 62 := Nat.pow_le_pow_right (by omega) hk
  have hp0 : 0 < (2 : Nat) ^ k := Nat.pow_pos (by omega)
  have hb : (BitVec.ofInt 64 n &&& BitVec.ofInt 64 ((2 ^ k - 1 : Nat) : Int)).toNat = (BitVec.ofInt 64 n).toNat % 2 ^ k := by
    rw [BitVec.toNat_and, BitVec.toNat_ofInt ((2 ^ k - 1 : Nat) : Int)]
    have : ((((2 ^ k - 1 : Nat) : Int) % ((2 ^ 64 : Nat) : Int)).toNat) = 2 ^ k - 1 := by omega
    rw [this, Nat.and_two_pow_sub_one_eq_mod]
  have hd : (2 ^ k : Nat) ∣ 2 ^ 64 := Nat.pow_dvd_pow 2 (by omega)
  have h2 : ((BitVec.ofInt 64 n).toNat % 2 ^ k : Nat) = (n % (2 ^ k : Nat)).toNat := by
    rw [BitVec.toNat_ofInt]
    have e : ((n % ((2 ^ 64 : Nat) : Int)) % ((2 ^ k : Nat) : Int)) = n % ((2 ^ k : Nat) : Int) := Int.emod_emod_of_dvd _ (by exact_mod_cast hd)
    have : 0 ≤ n % ((2 ^ 64 : Nat) : Int) := Int.emod_nonneg _ (by decide)
    rw [← e]
    generalize n % ((2 ^ 64 : Nat) : Int) = m at this
    obtain ⟨m, rfl⟩ := Int.eq_ofNat_of_zero_le this
    rw [Int.toNat_natCast, ← Int.natCast_emod, Int.toNat_natCast]
  have h3 : (0 : Int) ≤ n % ((2 ^ k : Nat) : Int) := Int.emod_nonneg _ (by omega)
  have h4 : n % ((2 ^ k : Nat) : Int) < ((2 ^ k : Nat) : Int) := Int.emod_lt_of_pos _ (by omega)
  simp only [aint]
  show some (AV.int .i64 (IntKind.wrap .i64 ((BitVec.ofInt 64 n &&& BitVec.ofInt 64 ((2 ^ k - 1 : Nat) : Int)).toNat : Int))) = _
  rw [hb, h2, Int.toNat_of_nonneg h3]
  have h5 := IntWalk.i64_in (n % ((2 ^ k : Nat) : Int)) ⟨by omega, by omega⟩
  rw [h5]

theorem and_31 (n : Int) : abin .and (.int .i64 n) (.int .i64 31) = some (.int .i64 (n % 32)) := by
  rw [ab_and]
  exact and_low n 5 (by omega)

end Go.Det

/-
  The record's law: the plain data that a law is given.
-/
import Derived.Test.YtaennaoaoahjmaaD
import Derived.Test.YtaennaoaoahjmaaG1
import Derived.Test.YtaennaoaoahjmaaG2
set_option maxRecDepth 100000
set_option linter.unusedSimpArgs false
set_option linter.unusedVariables false
namespace Go.Proofs.Ytaennaoaoahjmaa
open Go.Det

abbrev diskTy : Ty := .st [.int .i64, .int .u8, .int .u8, .bool]
abbrev rawTy : Ty := .st [.int .u64, .int .u64, .int .i64, .int .i64, .int .i64, .int .i64, .bool, .sl (.int .i64), .sl diskTy]

theorem Shps_cons {s : Scope} {y : Ty} {ys : List Ty} {l : List AV} (h : Shps s (y :: ys) l) : ∃ a b, l = a ++ b ∧ Shp s y a ∧ Shps s ys b := h
theorem Shps_nil {s : Scope} {l : List AV} (h : Shps s [] l) : l = [] := h

theorem one_shp {s : Scope} {y : Ty} {a : List AV} (hy : y.agg = false) (h : Shp s y a) (h1 : ∃ v, a = [v]) : ∃ v, a = [v] ∧ ArgShp s y v := by
  obtain ⟨v, rfl⟩ := h1
  exact ⟨v, rfl, [v], h, .inr ⟨hy, rfl⟩⟩

theorem Shp_int {s : Scope} {k : IntKind} {a : List AV} (h : Shp s (.int k) a) : ∃ v, a = [v] ∧ ArgShp s (.int k) v := by
  obtain ⟨n, rfl, hw⟩ := h
  exact ⟨_, rfl, _, ⟨n, rfl, hw⟩, .inr ⟨rfl, rfl⟩⟩
theorem Shp_bool {s : Scope} {a : List AV} (h : Shp s .bool a) : ∃ v, a = [v] ∧ ArgShp s .bool v := by
  obtain ⟨n, rfl⟩ := h
  exact ⟨_, rfl, _, ⟨n, rfl⟩, .inr ⟨rfl, rfl⟩⟩
theorem Shp_sl {s : Scope} {e : Ty} {a : List AV} (h : Shp s (.sl e) a) : ∃ v, a = [v] ∧ ArgShp s (.sl e) v := by
  have h' := h
  rcases h with rfl | rfl | ⟨id, ls, fl, rfl, h2⟩
  · exact ⟨_, rfl, _, h', .inr ⟨rfl, rfl⟩⟩
  · exact ⟨_, rfl, _, h', .inr ⟨rfl, rfl⟩⟩
  · exact ⟨_, rfl, _, h', .inr ⟨rfl, rfl⟩⟩

theorem disk_shp {s : Scope} {x : List AV} (h : Shp s diskTy x) : ∃ d, x = dc d := by
  obtain ⟨a, b, rfl, h1, h⟩ := Shps_cons h
  obtain ⟨a2, b2, rfl, h2, h⟩ := Shps_cons h
  obtain ⟨a3, b3, rfl, h3, h⟩ := Shps_cons h
  obtain ⟨a4, b4, rfl, h4, h⟩ := Shps_cons h
  have := Shps_nil h
  subst this
  obtain ⟨v1, rfl, k1⟩ := Shp_int h1
  obtain ⟨v2, rfl, k2⟩ := Shp_int h2
  obtain ⟨v3, rfl, k3⟩ := Shp_int h3
  obtain ⟨v4, rfl, k4⟩ := Shp_bool h4
  obtain ⟨n, rfl, _⟩ := ArgShp_i64 k1
  obtain ⟨t, rfl⟩ := ArgShp_u8 k2
  obtain ⟨u, rfl⟩ := ArgShp_u8 k3
  obtain ⟨q, rfl⟩ := ArgShp_bool k4
  exact ⟨⟨n, t, u, q⟩, rfl⟩

theorem disks_flat {s : Scope} : ∀ (ls : List (List AV)), (∀ x ∈ ls, Shp s diskTy x) → ∃ ds : List Dk, ls.flatten = ds.flatMap dc ∧ ds.length = ls.length
  | [], _ => ⟨[], rfl, rfl⟩
  | x :: ls, h => by
    obtain ⟨d, rfl⟩ := disk_shp (h x (by simp))
    obtain ⟨ds, h1, h2⟩ := disks_flat ls (fun x hx => h x (by simp [hx]))
    exact ⟨d :: ds, by simp [h1], by simp [h2]⟩

theorem disks_shp (g : Scope) {s : Scope} {v : AV} (h : ArgShp s (.sl diskTy) v) : ∃ ds, WM [s, g] 4 dc v ds ∧ ds.length ≤ reachBytes := by
  rcases ArgShp_sl h with rfl | rfl | ⟨id, ls, fl, rfl, h1, h2, h3⟩
  · exact ⟨[], .inl ⟨_, rfl, rfl⟩, Nat.zero_le _⟩
  · exact ⟨[], .inr (.inl ⟨_, rfl, rfl⟩), Nat.zero_le _⟩
  · obtain ⟨ds, k1, k2⟩ := disks_flat ls h3
    refine ⟨ds, ?_, by omega⟩
    rw [k1] at h1 ⊢
    exact WM.top h1 rfl rfl k2.symm

theorem raw_shp (g : Scope) {s : Scope} {v : AV} (h : ArgShp s rawTy v) : ∃ (r : Rec) (sv dv : AV) (seats : List Int) (ds : List Dk), v = recV r sv dv ∧ WS [s, g] (AV.int .i64) sv seats ∧ WM [s, g] 4 dc dv ds ∧ seats.length ≤ reachBytes ∧ ds.length ≤ reachBytes := by
  obtain ⟨l, hv, hh⟩ := ArgShp_agg rfl h
  subst hv
  clear h
  obtain ⟨a1, b, rfl, h1, h⟩ := Shps_cons hh
  obtain ⟨a2, b2, rfl, h2, h⟩ := Shps_cons h
  obtain ⟨a3, b3, rfl, h3, h⟩ := Shps_cons h
  obtain ⟨a4, b4, rfl, h4, h⟩ := Shps_cons h
  obtain ⟨a5, b5, rfl, h5, h⟩ := Shps_cons h
  obtain ⟨a6, b6, rfl, h6, h⟩ := Shps_cons h
  obtain ⟨a7, b7, rfl, h7, h⟩ := Shps_cons h
  obtain ⟨a8, b8, rfl, h8, h⟩ := Shps_cons h
  obtain ⟨a9, b9, rfl, h9, h⟩ := Shps_cons h
  have := Shps_nil h
  subst this
  obtain ⟨v1, rfl, k1⟩ := Shp_int h1
  obtain ⟨v2, rfl, k2⟩ := Shp_int h2
  obtain ⟨v3, rfl, k3⟩ := Shp_int h3
  obtain ⟨v4, rfl, k4⟩ := Shp_int h4
  obtain ⟨v5, rfl, k5⟩ := Shp_int h5
  obtain ⟨v6, rfl, k6⟩ := Shp_int h6
  obtain ⟨v7, rfl, k7⟩ := Shp_bool h7
  obtain ⟨v8, rfl, k8⟩ := Shp_sl h8
  obtain ⟨v9, rfl, k9⟩ := Shp_sl h9
  obtain ⟨x1, rfl⟩ := ArgShp_u64 k1
  obtain ⟨x2, rfl⟩ := ArgShp_u64 k2
  obtain ⟨x3, rfl, _⟩ := ArgShp_i64 k3
  obtain ⟨x4, rfl, _⟩ := ArgShp_i64 k4
  obtain ⟨x5, rfl, _⟩ := ArgShp_i64 k5
  obtain ⟨x6, rfl, _⟩ := ArgShp_i64 k6
  obtain ⟨x7, rfl⟩ := ArgShp_bool k7
  obtain ⟨l8, w8, n8⟩ := ArgShp_sli64 g k8
  obtain ⟨l9, w9, n9⟩ := disks_shp g k9
  exact ⟨⟨x1, x2, x3, x4, x5, x6, x7, [], []⟩, v8, v9, l8, l9, rfl, w8, w9, n8, n9⟩

/-! ### seats and disks of a law's own scope -/
theorem rec_top {M : Mem} {l : List (Nat × Con)} {R : Rec} {i j d d2 z1 z2 n1 n2 : Nat} {r1 r2 f1 f2 : Bool} (h1 : mk l i = some (.cells (R.seats.map (AV.int .i64)) r1 f1)) (h2 : mk l j = some (.cells (R.mems.flatMap mc) r2 f2))
    (hs : R.seats.length ≤ 30) (hm : R.mems.length ≤ 20) (hd : d = M.length) (hd2 : d2 = M.length) (hz1 : z1 = R.seats.length) (hz2 : z2 = 3 * R.mems.length) (hn1 : n1 = R.seats.length) (hn2 : n2 = R.mems.length) :
    IsRec (mk l :: M) R (.slice (some ⟨d, i, z1, 0⟩) n1 1) (.slice (some ⟨d2, j, z2, 0⟩) n2 3) :=
  ⟨WS.top' h1 hd hz1 hn1, WM.top h2 hd2 (by rw [hz2, flat_len mc_len]; omega) hn2, by omega, by omega⟩

end Go.Proofs.Ytaennaoaoahjmaa

/-
  DET, part V: arrays and structs among a law's arguments.
-/
import Derived.Test.YtpaagjjgmlmngaaDetU
set_option linter.unusedSimpArgs false
set_option linter.unusedVariables false
namespace Go.Det

theorem Shp_arr {α : Type} (f : α → AV) {s : Scope} {n : Nat} {e : Ty} {l : List AV} (hf : ∀ x, Shp s e x → ∃ y, x = [f y]) (h : Shp s (.arr n e) l) : ∃ ys : List α, ys.length = n ∧ l = ys.map f := by
  obtain ⟨ls, h1, h2, h3⟩ := h
  rw [h2, ← h1]
  clear h1 h2
  induction ls with
  | nil => exact ⟨[], rfl, rfl⟩
  | cons x ls ih =>
    obtain ⟨ys, h4, h5⟩ := ih (fun y hy => h3 y (by simp [hy]))
    obtain ⟨y, hy⟩ := hf x (h3 x (by simp))
    exact ⟨y :: ys, by simp [h4], by simp [hy, h5]⟩

theorem Shp_u8 {s : Scope} {x : List AV} (h : Shp s (.int .u8) x) : ∃ y, x = [byteAV y] := by
  obtain ⟨b, hb⟩ := ArgShp_u8 (s := s) (v := x.headD .dead) ⟨x, h, .inr ⟨rfl, by obtain ⟨n, rfl, _⟩ := h; rfl⟩⟩
  obtain ⟨n, rfl, _⟩ := h
  exact ⟨b, by rw [← hb]; rfl⟩
theorem Shp_u32 {s : Scope} {x : List AV} (h : Shp s (.int .u32) x) : ∃ y, x = [u32 y] := by
  obtain ⟨b, hb⟩ := ArgShp_u32 (s := s) (v := x.headD .dead) ⟨x, h, .inr ⟨rfl, by obtain ⟨n, rfl, _⟩ := h; rfl⟩⟩
  obtain ⟨n, rfl, _⟩ := h
  exact ⟨b, by rw [← hb]; rfl⟩
theorem Shp_arr8 {s : Scope} {n : Nat} {l : List AV} (h : Shp s (.arr n (.int .u8)) l) : ∃ ys : List UInt8, ys.length = n ∧ l = ys.map byteAV := Shp_arr byteAV (fun _ h => Shp_u8 h) h
theorem Shp_arr32 {s : Scope} {n : Nat} {l : List AV} (h : Shp s (.arr n (.int .u32)) l) : ∃ ys : List (BitVec 32), ys.length = n ∧ l = ys.map u32 := Shp_arr u32 (fun _ h => Shp_u32 h) h
theorem ArgShp_arr8 {s : Scope} {n : Nat} {v : AV} (h : ArgShp s (.arr n (.int .u8)) v) : ∃ ys : List UInt8, ys.length = n ∧ v = .agg (ys.map byteAV) := by
  obtain ⟨l, rfl, hl⟩ := ArgShp_agg rfl h
  obtain ⟨ys, h1, rfl⟩ := Shp_arr8 hl
  exact ⟨ys, h1, rfl⟩
theorem ArgShp_arr32 {s : Scope} {n : Nat} {v : AV} (h : ArgShp s (.arr n (.int .u32)) v) : ∃ ys : List (BitVec 32), ys.length = n ∧ v = .agg (ys.map u32) := by
  obtain ⟨l, rfl, hl⟩ := ArgShp_agg rfl h
  obtain ⟨ys, h1, rfl⟩ := Shp_arr32 hl
  exact ⟨ys, h1, rfl⟩

theorem bytesOf_rep (n : Nat) : bytesOf (List.replicate n (byteAV 0)) = some (List.replicate n 0) := by
  have h := bytesOf_map (List.replicate n 0)
  rwa [List.map_replicate] at h

end Go.Det

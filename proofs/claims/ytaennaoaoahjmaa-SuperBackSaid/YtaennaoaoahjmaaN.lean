/-
  The record's law: two good records have the same bytes just if they are the same.
-/
import Derived.Test.YtaennaoaoahjmaaM2
import Derived.Test.YtaennaoaoahjmaaLibKB
set_option maxRecDepth 100000
set_option linter.unusedSimpArgs false
set_option linter.unusedVariables false
namespace Go.Proofs.Ytaennaoaoahjmaa
open Go.Det

theorem be8_inj {x y : BitVec 64} (h : K.be8 x = K.be8 y) : x = y := by
  have := congrArg K.two h
  rwa [K.two_be8, K.two_be8] at this

theorem b8_inj {x y : Int} (hx : 0 ≤ x) (hx2 : x < 2 ^ 63) (hy : 0 ≤ y) (hy2 : y < 2 ^ 63) (h : b8 x = b8 y) : x = y := by
  have h1 := be8_inj h
  have h2 := congrArg BitVec.toNat h1
  rw [BitVec.toNat_ofInt, BitVec.toNat_ofInt] at h2
  omega

theorem app8 {a b c d : List UInt8} (h : a ++ b = c ++ d) (hl : a.length = c.length) : a = c ∧ b = d := List.append_inj h hl

def small (l : List Int) : Prop := ∀ x ∈ l, 0 ≤ x ∧ x < 2 ^ 63

theorem nums_inj : ∀ (l m : List Int) (a b : List UInt8), l.length = m.length → small l → small m → nums l ++ a = nums m ++ b → l = m ∧ a = b
  | [], [], a, b, _, _, _, h => ⟨rfl, h⟩
  | [], _ :: _, _, _, h, _, _, _ => by simp at h
  | _ :: _, [], _, _, h, _, _, _ => by simp at h
  | x :: l, y :: m, a, b, h, hl, hm, he => by
    have e1 : nums (x :: l) ++ a = b8 x ++ (nums l ++ a) := by simp [nums]
    have e2 : nums (y :: m) ++ b = b8 y ++ (nums m ++ b) := by simp [nums]
    rw [e1, e2] at he
    obtain ⟨h1, h2⟩ := app8 he (by rw [K.be8_len, K.be8_len])
    obtain ⟨k1, k2⟩ := nums_inj l m a b (by simpa using h) (fun z hz => hl z (by simp [hz])) (fun z hz => hm z (by simp [hz])) h2
    have hx := hl x (by simp)
    have hy := hm y (by simp)
    exact ⟨by rw [b8_inj hx.1 hx.2 hy.1 hy.2 h1, k1], k2⟩

theorem mTs_inj : ∀ (l m : List Mb), (∀ x ∈ l, x.st ≥ 0 ∧ x.st < 4 ∧ x.top.length = 32 ∧ x.log.length = 32) → (∀ x ∈ m, x.st ≥ 0 ∧ x.st < 4 ∧ x.top.length = 32 ∧ x.log.length = 32) → l.length = m.length → mTs l = mTs m → l = m
  | [], [], _, _, _, _ => rfl
  | [], _ :: _, _, _, h, _ => by simp at h
  | _ :: _, [], _, _, h, _ => by simp at h
  | x :: l, y :: m, hl, hm, h, he => by
    have hx := hl x (by simp)
    have hy := hm y (by simp)
    have e1 : mTs (x :: l) = b8 x.st ++ (K.be8 (BitVec.ofNat 64 x.top.length) ++ (x.top ++ (K.be8 (BitVec.ofNat 64 x.log.length) ++ (x.log ++ mTs l)))) := by simp [mTs, mT, et]
    have e2 : mTs (y :: m) = b8 y.st ++ (K.be8 (BitVec.ofNat 64 y.top.length) ++ (y.top ++ (K.be8 (BitVec.ofNat 64 y.log.length) ++ (y.log ++ mTs m)))) := by simp [mTs, mT, et]
    rw [e1, e2] at he
    obtain ⟨h1, he⟩ := app8 he (by rw [K.be8_len, K.be8_len])
    obtain ⟨_, he⟩ := app8 he (by rw [K.be8_len, K.be8_len])
    obtain ⟨h2, he⟩ := app8 he (by rw [hx.2.2.1, hy.2.2.1])
    obtain ⟨_, he⟩ := app8 he (by rw [K.be8_len, K.be8_len])
    obtain ⟨h3, he⟩ := app8 he (by rw [hx.2.2.2, hy.2.2.2])
    have h4 := b8_inj (by omega) (by omega) (by omega) (by omega) h1
    have ih := mTs_inj l m (fun z hz => hl z (by simp [hz])) (fun z hz => hm z (by simp [hz])) (by simpa using h) he
    rw [ih]
    cases x; cases y
    simp only at h2 h3 h4
    rw [h2, h3, h4]

/-- What a good record's numbers are. -/
structure Small (r : Rec) : Prop where
  data : 2 ≤ r.data ∧ r.data ≤ 8
  slots : 0 ≤ r.slots ∧ r.slots ≤ 16
  mark : 0 ≤ r.mark ∧ r.mark ≤ r.slots
  built : 0 ≤ r.built ∧ r.built ≤ r.slots
  seats : ∀ x ∈ r.seats, 0 ≤ x ∧ x < 2 ^ 63
  mems : ∀ m ∈ r.mems, m.st ≥ 0 ∧ m.st < 4 ∧ m.top.length = 32 ∧ m.log.length = 32
  nmem : r.mems.length ≤ 12

theorem sgo_small (n : Nat) (hn : n < 2 ^ 40) : ∀ (l seen s : List Int), sgo n l seen = some s → ∀ x ∈ l, 0 ≤ x ∧ x < 2 ^ 63
  | [], _, _, _, x, hx => by simp at hx
  | y :: l, seen, s, h, x, hx => by
    simp only [sgo] at h
    split at h
    · cases h
    · split at h
      · cases h
      · split at h
        · cases h
        · rcases List.mem_cons.1 hx with rfl | hx
          · omega
          · exact sgo_small n hn l _ s h x hx

theorem good_small {r : Rec} (h : goodP r = true) : Small r := by
  have hm := good_mems h
  simp only [goodP, Bool.and_eq_true] at h
  obtain ⟨h1, h2, h3⟩ := h
  unfold sizesP at h1
  split at h1
  · cases h1
  · split at h1
    · cases h1
    · split at h1
      · cases h1
      · rename_i a1 a2 a3
        simp only [decide_eq_true_eq] at h1
        have hf : four r.slots = true := by simpa using a2
        simp only [four, decide_eq_true_eq, List.mem_cons, List.not_mem_nil, or_false] at hf
        unfold seatsP at h3
        rw [ite_not] at h3
        by_cases hA : (r.seats.length : Int) = (if r.growing then IntKind.wrap .i64 (IntKind.wrap .i64 (r.data + 2) + 1) else IntKind.wrap .i64 (r.data + 2))
        · rw [if_pos hA] at h3
          cases hc : sgo r.mems.length r.seats [] with
          | none => rw [hc] at h3; cases h3
          | some s =>
            exact ⟨by omega, by omega, by omega, by omega, sgo_small _ (by omega) _ _ _ hc, hm, by omega⟩
        · rw [if_neg hA] at h3; cases h3

theorem putT_inj {r s : Rec} (hr : goodP r = true) (hs : goodP s = true) (hlr : r.seats.length ≤ 30) (hls : s.seats.length ≤ 30) (h : putT r = putT s) : r = s := by
  have a := good_small hr
  have b := good_small hs
  unfold putT at h
  simp only [List.append_assoc] at h
  obtain ⟨h1, h⟩ := app8 h (by rw [K.be8_len, K.be8_len])
  obtain ⟨h2, h⟩ := app8 h (by rw [K.be8_len, K.be8_len])
  have e1 : ∀ (r : Rec) (t : List UInt8), nums (head6 r ++ (r.seats ++ [(r.mems.length : Int)])) ++ t = nums (head6 r) ++ (nums r.seats ++ (nums [(r.mems.length : Int)] ++ t)) := fun r t => by simp [nums]
  rw [e1, e1] at h
  have hone : ∀ g, 0 ≤ one g ∧ one g ≤ 1 := fun g => by cases g <;> simp [one]
  have o1 := hone r.growing
  have o2 := hone s.growing
  have s1 : small (head6 r) := by
    have := a.data; have := a.slots; have := a.mark; have := a.built
    intro x hx
    simp only [head6, List.mem_cons, List.not_mem_nil, or_false] at hx
    omega
  have s2 : small (head6 s) := by
    have := b.data; have := b.slots; have := b.mark; have := b.built
    intro x hx
    simp only [head6, List.mem_cons, List.not_mem_nil, or_false] at hx
    omega
  obtain ⟨h3, h⟩ := nums_inj _ _ _ _ (by simp [head6]) s1 s2 h
  simp only [head6, List.cons.injEq, and_true] at h3
  obtain ⟨k1, k2, k3, k4, k5, k6⟩ := h3
  obtain ⟨h4, h⟩ := nums_inj _ _ _ _ (by omega) a.seats b.seats h
  have n1 := a.nmem
  have n2 := b.nmem
  have q1 : ∀ n : Nat, n ≤ 12 → small [(n : Int)] := fun n hn x hx => by
    rw [List.mem_singleton] at hx
    omega
  obtain ⟨h5, h⟩ := nums_inj [(r.mems.length : Int)] [(s.mems.length : Int)] _ _ rfl (q1 _ n1) (q1 _ n2) h
  simp only [List.cons.injEq, and_true] at h5
  have h6 := mTs_inj _ _ a.mems b.mems (by omega) h
  have k7 : r.growing = s.growing := by
    cases hg : r.growing <;> cases hg2 : s.growing <;> rw [hg, hg2] at k5 <;> first | rfl | exact absurd k5 (by decide)
  have h1 := be8_inj h1
  have h2 := be8_inj h2
  cases r; cases s
  simp only at *
  subst h1 h2 k1 k2 k3 k4 k7 h4 h6
  rfl

end Go.Proofs.Ytaennaoaoahjmaa

/-
  The record's law: which records are good, as the document says: the plain law.
-/
import Derived.Test.YtaennaoaoahjmaaDoorV0
import Derived.Test.YtaennaoaoahjmaaDoorM2
set_option maxRecDepth 100000
set_option linter.unusedSimpArgs false
set_option linter.unusedVariables false
namespace Go.Proofs.YtaennaoaoahjmaaDoor
open Go.Det


def okgo (S : List Int) : List Mb → Nat → Bool
  | [], _ => true
  | m :: l, i => decide (tms i S ≤ 1 ∧ ¬ (tms i S = 1 ∧ m.st = 0) ∧ ¬ (tms i S = 0 ∧ (m.st = 1 ∨ m.st = 3))) && okgo S l (i + 1)

theorem okgo_t (S : List Int) (m : Mb) (l : List Mb) (i : Nat) (h : tms i S ≤ 1 ∧ ¬ (tms i S = 1 ∧ m.st = 0) ∧ ¬ (tms i S = 0 ∧ (m.st = 1 ∨ m.st = 3))) : okgo S (m :: l) i = okgo S l (i + 1) := by
  rw [okgo, decide_eq_true h, Bool.true_and]
theorem okgo_f (S : List Int) (m : Mb) (l : List Mb) (i : Nat) (h : ¬ (tms i S ≤ 1 ∧ ¬ (tms i S = 1 ∧ m.st = 0) ∧ ¬ (tms i S = 0 ∧ (m.st = 1 ∨ m.st = 3)))) : okgo S (m :: l) i = false := by
  rw [okgo, decide_eq_false h, Bool.false_and]

theorem dgo_eq (S : List Int) : ∀ (l : List Mb) (i : Nat) (b : Int), dgo S l i b = if okgo S l i = true then cnt l b else none
  | [], i, b => by simp [dgo, okgo, cnt]
  | m :: l, i, b => by
    have ih := dgo_eq S l (i + 1) (if m.st = 3 then b + 1 else b)
    by_cases h1 : badM m = true
    · rw [dgo, cnt, if_pos h1, if_pos h1]; split <;> rfl
    by_cases h2 : 1 < tms i S
    · rw [okgo_f S m l i (by omega), dgo, if_neg h1, if_pos h2]; rfl
    by_cases h3 : tms i S = 1 ∧ m.st = 0
    · rw [okgo_f S m l i (fun h => h.2.1 h3), dgo, if_neg h1, if_neg h2, if_pos h3]; rfl
    by_cases h4 : tms i S = 0 ∧ (m.st = 1 ∨ m.st = 3)
    · rw [okgo_f S m l i (fun h => h.2.2 h4), dgo, if_neg h1, if_neg h2, if_neg h3, if_pos h4]; rfl
    rw [okgo_t S m l i ⟨by omega, h3, h4⟩, dgo, cnt, if_neg h1, if_neg h1, if_neg h2, if_neg h3, if_neg h4, ih]

theorem tms_mem (x : Int) : ∀ l, 0 < tms x l ↔ x ∈ l
  | [] => by simp [tms]
  | y :: l => by
    have := tms_mem x l
    simp only [tms, List.mem_cons]
    by_cases h : y = x
    · simp [h]; omega
    · have h' : ¬ x = y := fun e => h e.symm
      simp [h, h', this]

def nd : List Int → List Int → Bool
  | [], _ => true
  | x :: l, seen => decide (¬ x ∈ seen) && nd l (seen ++ [x])

theorem sgo_eq (n : Nat) : ∀ l seen, sgo n l seen = if (inR n l && nd l seen) = true then some (seen ++ l) else none
  | [], seen => by simp [sgo, inR, nd]
  | x :: l, seen => by
    have ih := sgo_eq n l (seen ++ [x])
    have e0 : ¬ (0 ≤ x ∧ x < n) → inR n (x :: l) = false := fun h => by simp only [inR, List.all_cons, decide_eq_false h, Bool.false_and]
    by_cases h1 : x < 0
    · rw [e0 (by omega), sgo, if_pos h1]; rfl
    by_cases h2 : (n : Int) ≤ x
    · rw [e0 (by omega), sgo, if_neg h1, if_pos h2]; rfl
    have e : inR n (x :: l) = inR n l := by
      have h : decide (0 ≤ x ∧ x < n) = true := decide_eq_true ⟨by omega, by omega⟩
      simp only [inR, List.all_cons, h, Bool.true_and]
    by_cases h3 : x ∈ seen
    · rw [sgo, if_neg h1, if_neg h2, if_pos h3, nd, decide_eq_false (fun h => h h3), Bool.false_and, Bool.and_false]; rfl
    rw [sgo, if_neg h1, if_neg h2, if_neg h3, ih, e, nd, decide_eq_true h3, Bool.true_and, List.append_assoc]; rfl

theorem nd_iff : ∀ l seen, nd l seen = true ↔ (∀ x ∈ l, ¬ x ∈ seen) ∧ ∀ x, tms x l ≤ 1
  | [], seen => by simp [nd, tms]
  | x :: l, seen => by
    have ih := nd_iff l (seen ++ [x])
    simp only [nd, Bool.and_eq_true, decide_eq_true_eq, ih, List.mem_cons, List.mem_append, List.not_mem_nil, or_false, tms]
    constructor
    · rintro ⟨h1, h2, h3⟩
      refine ⟨fun y hy => ?_, fun y => ?_⟩
      · rcases hy with rfl | hy
        · exact h1
        · exact fun hs => h2 y hy (.inl hs)
      · by_cases e : x = y
        · subst e
          have : ¬ 0 < tms x l := fun h => h2 x ((tms_mem x l).1 h) (.inr rfl)
          simp; omega
        · simp [e]; exact h3 y
    · rintro ⟨h1, h2⟩
      refine ⟨h1 x (.inl rfl), fun y hy hs => ?_, fun y => ?_⟩
      · rcases hs with hs | rfl
        · exact h1 y (.inr hy) hs
        · have := h2 y
          have h3 := (tms_mem y l).2 hy
          simp at this; omega
      · have := h2 y
        omega

theorem okgo_iff (S : List Int) : ∀ (l : List Mb) (i : Nat), (∀ m ∈ l, m.st ≥ 0 ∧ m.st < 4) → (okgo S l i = true ↔ (∀ k, k < l.length → tms ((i + k : Nat) : Int) S ≤ 1) ∧ mgo S l i = true)
  | [], i, _ => by simp [okgo, mgo]
  | m :: l, i, hm => by
    have ih := okgo_iff S l (i + 1) (fun x hx => hm x (by simp [hx]))
    have h4 := hm m (by simp)
    simp only [okgo, mgo, Bool.and_eq_true, decide_eq_true_eq, ih]
    have hmm := tms_mem i S
    have hsplit : (∀ k, k < (m :: l).length → tms ((i + k : Nat) : Int) S ≤ 1) ↔ tms i S ≤ 1 ∧ ∀ k, k < l.length → tms ((i + 1 + k : Nat) : Int) S ≤ 1 := by
      constructor
      · intro h
        exact ⟨h 0 (by simp), fun k hk => by have := h (k + 1) (by simp; omega); rwa [show i + (k + 1) = i + 1 + k by omega] at this⟩
      · rintro ⟨h0, h⟩ k hk
        cases k with
        | zero => exact h0
        | succ k => have := h k (by simpa using hk); rwa [show i + (k + 1) = i + 1 + k by omega]
    rw [hsplit]
    by_cases hi : (i : Int) ∈ S
    · have h1 := hmm.2 hi
      by_cases h0 : m.st = 0
      · have e : (¬ m.st = 2 ∧ decide ((i : Int) ∈ S) = decide (m.st = 0)) := ⟨by omega, by simp [hi, h0]⟩
        rw [if_pos e]
        constructor
        · rintro ⟨⟨a, b, c⟩, d⟩; exact absurd ⟨by omega, h0⟩ b
        · rintro ⟨_, h⟩; cases h
      · have e : ¬ (¬ m.st = 2 ∧ decide ((i : Int) ∈ S) = decide (m.st = 0)) := by rintro ⟨_, h⟩; simp [hi, h0] at h
        rw [if_neg e]
        constructor
        · rintro ⟨⟨a, b, c⟩, d, e⟩; exact ⟨⟨a, d⟩, e⟩
        · rintro ⟨⟨a, d⟩, e⟩; exact ⟨⟨a, fun h => h0 h.2, fun h => by omega⟩, d, e⟩
    · have h1 : tms i S = 0 := by
        have : ¬ 0 < tms i S := fun h => hi (hmm.1 h)
        omega
      by_cases h02 : m.st = 0 ∨ m.st = 2
      · have e : ¬ (¬ m.st = 2 ∧ decide ((i : Int) ∈ S) = decide (m.st = 0)) := by
          rintro ⟨h2, h⟩
          rcases h02 with h0 | h0
          · simp [hi, h0] at h
          · exact h2 h0
        rw [if_neg e]
        constructor
        · rintro ⟨⟨a, b, c⟩, d, e⟩; exact ⟨⟨a, d⟩, e⟩
        · rintro ⟨⟨a, d⟩, e⟩; exact ⟨⟨a, fun h => by omega, fun h => by omega⟩, d, e⟩
      · have e : (¬ m.st = 2 ∧ decide ((i : Int) ∈ S) = decide (m.st = 0)) := ⟨by omega, by
          have : ¬ m.st = 0 := fun h => h02 (.inl h)
          simp [hi, this]⟩
        rw [if_pos e]
        constructor
        · rintro ⟨⟨a, b, c⟩, d⟩; exact absurd ⟨h1, by omega⟩ c
        · rintro ⟨_, h⟩; cases h

theorem tms_out {n : Nat} {l : List Int} (h : inR n l = true) (x : Int) (hx : ¬ (0 ≤ x ∧ x < n)) : tms x l = 0 := by
  have : ¬ 0 < tms x l := fun hp => by
    have := List.all_eq_true.1 h x ((tms_mem x l).1 hp)
    simp at this; omega
  omega

theorem nd_inR {n : Nat} {l : List Int} (h : inR n l = true) : nd l [] = true ↔ ∀ k, k < n → tms ((0 + k : Nat) : Int) l ≤ 1 := by
  rw [nd_iff]
  constructor
  · rintro ⟨_, h2⟩ k _; exact h2 _
  · intro hk
    refine ⟨fun x _ hx => (by cases hx), fun x => ?_⟩
    by_cases hx : 0 ≤ x ∧ x < n
    · have := hk x.toNat (by omega)
      rwa [show ((0 + x.toNat : Nat) : Int) = x by omega] at this
    · rw [tms_out h x hx]; omega

/-- What the loops say of seats and disks. -/
theorem loops_law (S : List Int) (ms : List Mb) (b0 : Int) (hm : ∀ (l : List Mb) (b b' : Int), cnt l b = some b' → ∀ m ∈ l, m.st ≥ 0 ∧ m.st < 4) (f : Int → Bool) :
    (match dgo S ms 0 b0 with | none => false | some b => inR ms.length S && f b) = ((match cnt ms b0 with | none => false | some b => f b) && match sgo ms.length S [] with | none => false | some seen => mgo seen ms 0) := by
  rw [dgo_eq, sgo_eq]
  cases hc : cnt ms b0 with
  | none => simp
  | some b =>
    have h4 := hm _ _ _ hc
    have hok := okgo_iff S ms 0 h4
    cases hr : inR ms.length S
    · simp
      split <;> simp_all
    · have hn := nd_inR hr
      simp only [Bool.true_and]
      by_cases hd : nd S [] = true
      · rw [if_pos hd]
        simp only [List.nil_append]
        cases hg : mgo S ms 0
        · have : ¬ okgo S ms 0 = true := fun h => absurd (hg.symm.trans (hok.1 h).2) (by simp)
          rw [if_neg this]; simp
        · have : okgo S ms 0 = true := hok.2 ⟨hn.1 hd, hg⟩
          rw [if_pos this]; simp
      · rw [if_neg hd]
        have : ¬ okgo S ms 0 = true := fun h => hd (hn.2 (hok.1 h).1)
        rw [if_neg this]; simp

def rszP (r : Rec) : Bool :=
  if r.data < 2 ∨ r.data > (if r.growing then 7 else 8) ∨ ¬ (r.seats.length : Int) = r.data + (if r.growing then 3 else 2) then false else
  if four r.slots = false then false else
  if r.mark < 0 ∨ r.mark > r.slots ∨ (r.mark > 0 ∧ r.growing = false) then false else
  decide (r.built ≥ 0 ∧ r.built ≤ r.slots ∧ r.mems.length ≥ 1 ∧ r.mems.length ≤ 12)

def okB (r : Rec) (b : Int) : Bool := decide (b = 1) || (decide (b = 0) && decide (r.built = 0))

/-- Which records are good, as the document says. -/
def rgoodP (r : Rec) : Bool :=
  rszP r && match dgo r.seats r.mems 0 0 with
    | none => false
    | some b => inR r.mems.length r.seats && okB r b

theorem rszP_eq (r : Rec) : rszP r = (sizesP r && decide ((r.seats.length : Int) = (if r.growing then IntKind.wrap .i64 (IntKind.wrap .i64 (r.data + 2) + 1) else IntKind.wrap .i64 (r.data + 2)))) := by
  obtain ⟨count, epoch, data, slots, mark, built, growing, seats, mems⟩ := r
  unfold rszP sizesP
  simp only
  by_cases c1 : data < 2
  · rw [if_pos (.inl c1), if_pos (.inl c1)]; rfl
  by_cases c2 : data > 8
  · rw [if_pos (.inr (.inl (by split <;> omega))), if_pos (.inr (.inl c2))]; rfl
  have w1 : IntKind.wrap .i64 (data + 2) = data + 2 := IntWalk.i64_in _ (by omega)
  have w2 : IntKind.wrap .i64 (data + 2 + 1) = data + 2 + 1 := IntWalk.i64_in _ (by omega)
  rw [w1, w2]
  cases growing
  · simp only [Bool.false_eq_true, if_false, false_and, or_false]
    by_cases c3 : (seats.length : Int) = data + 2
    · have n1 : ¬ (data < 2 ∨ data > 8 ∨ ¬ (seats.length : Int) = data + 2) := by omega
      have n2 : ¬ (data < 2 ∨ data > 8) := by omega
      rw [if_neg n1, if_neg n2, decide_eq_true c3, Bool.and_true]
    · rw [if_pos (.inr (.inr c3)), decide_eq_false c3, Bool.and_false]
  · simp only [if_true, true_and]
    by_cases c4 : data = 8
    · rw [if_pos (.inr (.inl (by omega))), if_pos (.inr (.inr c4))]; rfl
    by_cases c3 : (seats.length : Int) = data + 2 + 1
    · have n1 : ¬ (data < 2 ∨ data > 7 ∨ ¬ (seats.length : Int) = data + 3) := by omega
      have n2 : ¬ (data < 2 ∨ data > 8 ∨ data = 8) := by omega
      rw [if_neg n1, if_neg n2, decide_eq_true c3, Bool.and_true]
    · rw [if_pos (.inr (.inr (by omega))), decide_eq_false c3, Bool.and_false]

/-- The program's answer is the document's. -/
theorem rgood_good (r : Rec) : rgoodP r = goodP r := by
  have hl := loops_law r.seats r.mems 0 (fun l b b' h m hm => let h := cnt_good l b b' h m hm; ⟨h.1, h.2.1⟩) (okB r)
  unfold rgoodP goodP
  rw [hl, rszP_eq]
  have e1 : (match cnt r.mems 0 with | none => false | some b => okB r b) = membersP r := rfl
  rw [e1]
  unfold seatsP
  cases hs : sizesP r
  · rfl
  simp only [Bool.true_and]
  by_cases h : (r.seats.length : Int) = (if r.growing then IntKind.wrap .i64 (IntKind.wrap .i64 (r.data + 2) + 1) else IntKind.wrap .i64 (r.data + 2))
  · rw [decide_eq_true h, if_neg (fun hn => hn h), Bool.true_and]
    rfl
  · rw [decide_eq_false h, if_pos h, Bool.and_false, Bool.false_and]

end Go.Proofs.YtaennaoaoahjmaaDoor

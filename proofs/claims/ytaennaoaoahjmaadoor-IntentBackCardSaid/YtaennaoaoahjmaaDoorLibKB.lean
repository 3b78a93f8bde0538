/-
  LIB, codec: the reader and the document's one go together.
-/
import Derived.Test.YtaennaoaoahjmaaDoorLibK
set_option maxRecDepth 100000
set_option maxHeartbeats 4000000
set_option linter.unusedSimpArgs false
set_option linter.unusedVariables false
namespace Go.Det.K
open Go.Det

/-- What the reader is when the document's is that. -/
def rOf (S : List UInt8) (x : Xd) : Rd := (S.drop x.1, x.2)

theorem nth_take_drop (S : List UInt8) (a n k : Nat) (h : k < n) : nth ((S.drop a).take n) k = nth S (a + k) := by
  simp [nth, List.getD, List.getElem?_take, h, List.getElem?_drop]

theorem two_nat (t : List UInt8) : (two t).toNat = (W.wat true t 0).toNat * 4294967296 + (W.wat true t 1).toNat := by
  have h0 := (W.wat true t 0).isLt
  have h1 := (W.wat true t 1).isLt
  rw [two, BitVec.toNat_or, BitVec.toNat_shiftLeft, BitVec.toNat_setWidth, BitVec.toNat_setWidth, Nat.mod_eq_of_lt (a := (W.wat true t 0).toNat) (by omega), Nat.mod_eq_of_lt (a := (W.wat true t 1).toNat) (by omega),
    Nat.shiftLeft_eq, Nat.mod_eq_of_lt (by omega), ← Nat.shiftLeft_eq, ← Nat.shiftLeft_add_eq_or_of_lt h1, Nat.shiftLeft_eq]

theorem two_hor (S : List UInt8) (a : Nat) : two ((S.drop a).take 8) = hor8 S a 8 := by
  apply BitVec.eq_of_toNat_eq
  rw [two_nat]
  simp only [W.wat, if_true, W.wd_nat]
  rw [nth_take_drop S a 8 _ (by omega), nth_take_drop S a 8 _ (by omega), nth_take_drop S a 8 _ (by omega), nth_take_drop S a 8 _ (by omega), nth_take_drop S a 8 _ (by omega), nth_take_drop S a 8 _ (by omega), nth_take_drop S a 8 _ (by omega), nth_take_drop S a 8 _ (by omega)]
  simp only [hor8, BitVec.toNat_add, BitVec.toNat_mul, BitVec.toNat_setWidth, UInt8.toNat_toBitVec, Nat.mul_zero, Nat.mul_one, Nat.zero_add, Nat.add_zero, Nat.reduceAdd]
  have h0 := (nth S a).toNat_lt
  have h1 := (nth S (a + 1)).toNat_lt
  have h2 := (nth S (a + 2)).toNat_lt
  have h3 := (nth S (a + 3)).toNat_lt
  have h4 := (nth S (a + 4)).toNat_lt
  have h5 := (nth S (a + 5)).toNat_lt
  have h6 := (nth S (a + 6)).toNat_lt
  have h7 := (nth S (a + 7)).toNat_lt
  generalize (nth S a).toNat = b0 at *
  generalize (nth S (a + 1)).toNat = b1 at *
  generalize (nth S (a + 2)).toNat = b2 at *
  generalize (nth S (a + 3)).toNat = b3 at *
  generalize (nth S (a + 4)).toNat = b4 at *
  generalize (nth S (a + 5)).toNat = b5 at *
  generalize (nth S (a + 6)).toNat = b6 at *
  generalize (nth S (a + 7)).toNat = b7 at *
  simp only [show (256#64 : BitVec 64).toNat = 256 from rfl, show (0#64 : BitVec 64).toNat = 0 from rfl]
  omega

theorem rnum_eq (S : List UInt8) (x : Xd) (h : x.1 ≤ S.length) : rnum (rOf S x) = ((xnum S x).1, rOf S (xnum S x).2) := by
  obtain ⟨a, bad⟩ := x
  simp only at h
  unfold rnum xnum rtake rOf
  simp only [List.length_drop, show (8#64 : BitVec 64).toNat = 8 from rfl]
  by_cases h1 : bad = 0
  · simp only [if_pos h1]
    by_cases h2 : S.length < a + 8
    · have h3 : S.length - a < 8 := by omega
      simp only [if_pos h2, if_pos h3, if_true]
    · have h3 : ¬ S.length - a < 8 := by omega
      have hne : (S.drop a).take 8 ≠ [] := by
        intro h3
        have := congrArg List.length h3
        simp at this
        omega
      simp only [if_neg h2, if_neg h3, if_neg hne, two_hor, List.drop_drop]
  · simp only [if_neg h1, if_true]

theorem rtext_eq (S : List UInt8) (x : Xd) (h : x.1 ≤ S.length) : rtext (rOf S x) = ((xwords S x).1, rOf S (xwords S x).2) := by
  have hle := xnum_le S x h
  unfold rtext
  rw [rnum_eq S x h]
  unfold xwords
  obtain ⟨n, ⟨a, bad⟩, he⟩ : ∃ n r', xnum S x = (n, r') := ⟨_, _, rfl⟩
  rw [he] at hle ⊢
  simp only at hle ⊢
  unfold rtake rOf
  simp only [List.length_drop]
  by_cases h1 : bad = 0
  · simp only [if_pos h1]
    by_cases h2 : S.length - a < n.toNat
    · simp only [if_pos h2]
    · simp only [if_neg h2, List.drop_drop]
  · simp only [if_neg h1]

theorem rbelow_eq (S : List UInt8) (x : Xd) (bound : Int) (h : x.1 ≤ S.length) : rbelow bound (rOf S x) = ((xbelow S bound x).1, rOf S (xbelow S bound x).2) := by
  unfold rbelow
  rw [rnum_eq S x h]
  unfold xbelow
  obtain ⟨n, ⟨a, bad⟩, he⟩ : ∃ n r', xnum S x = (n, r') := ⟨_, _, rfl⟩
  rw [he]
  by_cases h1 : bad = 0
  · by_cases h2 : bound < 1 ∨ BitVec.ofInt 64 bound ≤ n
    · simp only [rOf, h1, h2, if_true]
    · simp only [rOf, h1, h2, if_true, if_false]
  · simp only [rOf, h1, if_false]

theorem rdone_eq (S : List UInt8) (x : Xd) (h : x.1 ≤ S.length) : rdone (rOf S x) = xdone S x := by
  obtain ⟨a, bad⟩ := x
  simp only at h
  unfold rdone xdone rOf
  by_cases h1 : bad = 0
  · simp only [h1, if_true]
    by_cases h2 : a < S.length
    · rw [if_pos h2, if_neg]
      intro h3
      have := congrArg List.length h3
      simp at this
      omega
    · rw [if_neg h2, if_pos (List.drop_eq_nil_of_le (by omega))]
  · simp only [h1, if_false]

theorem xwords_le (S : List UInt8) (x : Xd) (h : x.1 ≤ S.length) : (xwords S x).2.1 ≤ S.length := by
  have hle := xnum_le S x h
  unfold xwords
  split
  · split
    · exact hle
    · simp only; omega
  · exact hle
theorem xbelow_le (S : List UInt8) (bound : Int) (x : Xd) (h : x.1 ≤ S.length) : (xbelow S bound x).2.1 ≤ S.length := by
  have hle := xnum_le S x h
  unfold xbelow
  split
  · split
    · exact hle
    · exact hle
  · exact hle

/-! ### of no reader -/
theorem take_nil {SP : SProg} {n40 : Nat} (h40 : SP.fn n40 = some s40) (k : Nat) (M : Mem) (n : BitVec 64) : callFn SP (k + 1) n40 [.ptr none, u64 n] M = some (.str [], [], M) := by
  rw [call_fn (h40.trans rfl) (by simp)]
  simp (disch := omega) [if_pos]

theorem num_nil {SP : SProg} {n26 n40 n41 n43 n44 : Nat} (h26 : SP.fn n26 = some (s26 n40 n41)) (h40 : SP.fn n40 = some s40) (h41 : SP.fn n41 = some (W.s14 n43 n44)) (h43 : SP.fn n43 = some W.s25) (h44 : SP.fn n44 = some W.s27)
    (k : Nat) (M : Mem) : callFn SP (k + 4) n26 [.ptr none] M = some (u64 0#64, [], M) := by
  have hb := fun M => W.big_ev h41 h43 h44 k M [] 0 rfl (by omega)
  rw [call_fn (h26.trans rfl) (by simp)]
  simp (disch := omega) [take_nil h40, hb]

theorem text_nil {SP : SProg} {n25 n26 n40 n41 n43 n44 : Nat} (h25 : SP.fn n25 = some (s25 n26 n40)) (h26 : SP.fn n26 = some (s26 n40 n41)) (h40 : SP.fn n40 = some s40) (h41 : SP.fn n41 = some (W.s14 n43 n44)) (h43 : SP.fn n43 = some W.s25) (h44 : SP.fn n44 = some W.s27)
    (k : Nat) (M : Mem) : callFn SP (k + 5) n25 [.ptr none] M = some (.str [], [], M) := by
  rw [call_fn (h25.trans rfl) (by simp)]
  simp (disch := omega) [num_nil h26 h40 h41 h43 h44, take_nil h40]

theorem left_nil {SP : SProg} {n34 : Nat} (h34 : SP.fn n34 = some s34) (k : Nat) (M : Mem) : callFn SP (k + 1) n34 [.ptr none] M = some (.int .i64 0, [], M) := by
  rw [call_fn (h34.trans rfl) (by simp)]
  simp (disch := omega) [if_pos]

theorem done_nil {SP : SProg} {n27 : Nat} (h27 : SP.fn n27 = some s27) (k : Nat) (M : Mem) : callFn SP (k + 1) n27 [.ptr none] M = some (.int .i64 1, [], M) := by
  rw [call_fn (h27.trans rfl) (by simp)]
  simp (disch := omega) [if_pos]

theorem below_nil {SP : SProg} {n26 n30 n40 n41 n43 n44 : Nat} (h26 : SP.fn n26 = some (s26 n40 n41)) (h30 : SP.fn n30 = some (s30 n26)) (h40 : SP.fn n40 = some s40) (h41 : SP.fn n41 = some (W.s14 n43 n44)) (h43 : SP.fn n43 = some W.s25) (h44 : SP.fn n44 = some W.s27)
    (k : Nat) (M : Mem) (bound : Int) : callFn SP (k + 5) n30 [.ptr none, .int .i64 bound] M = some (.int .i64 0, [], M) := by
  rw [call_fn (h30.trans rfl) (by simp)]
  simp (disch := omega) [num_nil h26 h40 h41 h43 h44]

/-! ### what is written is read back -/
/-- A text, its length ahead. -/
def enc (s : List UInt8) : List UInt8 := be8 (BitVec.ofNat 64 s.length) ++ s
theorem enc_len (s : List UInt8) : (enc s).length = 8 + s.length := by simp [enc, be8_len]

theorem two_be8 (n : BitVec 64) : two (be8 n) = n := by
  apply BitVec.eq_of_toNat_eq
  rw [two_nat, be8, W.wat_tx true _ 0 (by simp), W.wat_tx true _ 1 (by simp)]
  have hn := n.isLt
  simp only [nth, List.getD, List.getElem?_cons_zero, List.getElem?_cons_succ, Option.getD_some, BitVec.toNat_setWidth, BitVec.toNat_ushiftRight, Nat.shiftRight_eq_div_pow]
  omega

theorem rtake_app (n : BitVec 64) (a b : List UInt8) (h : a.length = n.toNat) : rtake n (a ++ b, 0) = (a, (b, 0)) := by
  unfold rtake
  simp only [if_true, List.length_append]
  rw [if_neg (by omega), List.take_left' h, List.drop_left' h]

theorem rnum_app (n : BitVec 64) (b : List UInt8) : rnum (be8 n ++ b, 0) = (n, (b, 0)) := by
  have hne : be8 n ≠ [] := fun h => by have := be8_len n; rw [h] at this; simp at this
  unfold rnum
  rw [rtake_app 8#64 _ _ (be8_len n)]
  simp only [if_neg hne, two_be8]

theorem rtext_app (s b : List UInt8) (h : s.length < 2 ^ 64) : rtext (enc s ++ b, 0) = (s, (b, 0)) := by
  unfold rtext enc
  rw [List.append_assoc, rnum_app]
  exact rtake_app _ _ _ (by rw [BitVec.toNat_ofNat, Nat.mod_eq_of_lt h])

/-- Behind an error nothing is read. -/
theorem rtake_bad (n : BitVec 64) (s : List UInt8) (e : Int) (he : e ≠ 0) : rtake n (s, e) = ([], (s, e)) := by
  unfold rtake; simp only [if_neg he]
theorem rnum_bad (s : List UInt8) (e : Int) (he : e ≠ 0) : rnum (s, e) = (0, (s, e)) := by
  unfold rnum; rw [rtake_bad _ _ _ he]; rfl
theorem rtext_bad (s : List UInt8) (e : Int) (he : e ≠ 0) : rtext (s, e) = ([], (s, e)) := by
  unfold rtext; rw [rnum_bad _ _ he]; exact rtake_bad _ _ _ he
theorem rbelow_bad (bound : Int) (s : List UInt8) (e : Int) (he : e ≠ 0) : rbelow bound (s, e) = (0, (s, e)) := by
  unfold rbelow; rw [rnum_bad _ _ he]; simp only [if_neg he]

/-- Texts, one behind the other. -/
def joined : List (List UInt8) → List UInt8
  | [] => []
  | t :: l => enc t ++ joined l
theorem joined_app (a b : List (List UInt8)) : joined (a ++ b) = joined a ++ joined b := by
  induction a with
  | nil => rfl
  | cons t a ih => simp [joined, ih]

/-- So many texts read. -/
def rds : Nat → Rd → Rd
  | 0, r => r
  | n + 1, r => rds n (rtext r).2
theorem rds_bad (s : List UInt8) (e : Int) (he : e ≠ 0) : ∀ n, rds n (s, e) = (s, e)
  | 0 => rfl
  | n + 1 => by rw [rds, rtext_bad _ _ he]; exact rds_bad s e he n

theorem rtext_cut (t b : List UInt8) (p : Nat) (ht : t.length < 2 ^ 64) (h : p < (enc t).length) : (rtext ((enc t ++ b).take p, 0)).2.2 = 3 := by
  rw [enc_len] at h
  rw [List.take_append_of_le_length (by rw [enc_len]; omega)]
  by_cases h8 : p < 8
  · have h1 : rnum ((enc t).take p, 0) = (0, ((enc t).take p, 3)) := by
      have h2 : ((enc t).take p).length < (8#64).toNat := by rw [List.length_take]; show min p _ < 8; omega
      have h3 : rtake 8#64 ((enc t).take p, 0) = ([], ((enc t).take p, 3)) := by
        unfold rtake
        simp only [if_true, if_pos h2]
      unfold rnum
      rw [h3]
      rfl
    unfold rtext
    rw [h1, rtake_bad _ _ _ (by omega)]
  · have h1 : (enc t).take p = be8 (BitVec.ofNat 64 t.length) ++ t.take (p - 8) := by
      rw [enc, List.take_append, be8_len, List.take_of_length_le (by rw [be8_len]; omega)]
    unfold rtext
    rw [h1, rnum_app]
    unfold rtake
    rw [if_pos rfl, if_pos]
    show (t.take (p - 8)).length < (BitVec.ofNat 64 t.length).toNat
    rw [BitVec.toNat_ofNat, Nat.mod_eq_of_lt ht, List.length_take]
    omega

theorem rds_cut : ∀ (l : List (List UInt8)) (p : Nat), (∀ t ∈ l, t.length < 2 ^ 64) → p < (joined l).length → (rds l.length ((joined l).take p, 0)).2 = 3
  | [], p, _, h => by simp [joined] at h
  | t :: l, p, hl, h => by
    have ht : t.length < 2 ^ 64 := hl t (by simp)
    rw [joined] at h ⊢
    rw [List.length_cons, rds]
    by_cases h1 : p < (enc t).length
    · have h2 := rtext_cut t (joined l) p ht h1
      obtain ⟨x, ⟨s, e⟩, he⟩ : ∃ x r, rtext ((enc t ++ joined l).take p, 0) = (x, r) := ⟨_, _, rfl⟩
      rw [he] at h2 ⊢
      simp only at h2
      subst h2
      rw [rds_bad _ _ (by omega)]
    · rw [List.take_append, List.take_of_length_le (by omega), rtext_app _ _ ht]
      exact rds_cut l _ (fun t h => hl t (by simp [h])) (by rw [List.length_append] at h; omega)

theorem joined_inj : ∀ (a b : List (List UInt8)), (∀ t ∈ a, t.length < 2 ^ 64) → (∀ t ∈ b, t.length < 2 ^ 64) → joined a = joined b → a = b
  | [], [], _, _, _ => rfl
  | [], t :: b, _, _, h => by
    have := congrArg List.length h
    simp [joined, enc_len] at this
    omega
  | t :: a, [], _, _, h => by
    have := congrArg List.length h
    simp [joined, enc_len] at this
  | t :: a, u :: b, ha, hb, h => by
    have h1 := congrArg (fun s => rtext (s, 0)) h
    simp only [joined] at h1
    rw [rtext_app _ _ (ha t (by simp)), rtext_app _ _ (hb u (by simp))] at h1
    injection h1 with h2 h3
    injection h3 with h4 h5
    rw [h2, joined_inj a b (fun t h => ha t (by simp [h])) (fun t h => hb t (by simp [h])) h4]

/-! ### a reader that lies in the uppermost scope -/
theorem top_get (M : Mem) (id z : Nat) (c : Con) (l : List (Nat × Con)) (h : c.size = z) : ∀ o, get (mk ((id, c) :: l) :: M) ⟨M.length, id, z, o⟩ = some c := fun o => by
  rw [get_top, mk_cons, if_pos rfl]
  simp only [h, if_true]
theorem top_put (M : Mem) (id : Nat) (c x : Con) (l : List (Nat × Con)) : put (mk ((id, c) :: l) :: M) M.length id x = mk ((id, x) :: l) :: M := by
  rw [put_top, setAt_mk]
  simp [ups]
theorem snd_get (M : Mem) (i0 id z : Nat) (c0 c : Con) (l : List (Nat × Con)) (hi : id ≠ i0) (h : c.size = z) : ∀ o, get (mk ((i0, c0) :: (id, c) :: l) :: M) ⟨M.length, id, z, o⟩ = some c := fun o => by
  rw [get_top, mk_cons, if_neg hi, mk_cons, if_pos rfl]
  simp only [h, if_true]
theorem snd_put (M : Mem) (i0 id : Nat) (c0 c x : Con) (l : List (Nat × Con)) (hi : id ≠ i0) : put (mk ((i0, c0) :: (id, c) :: l) :: M) M.length id x = mk ((i0, c0) :: (id, x) :: l) :: M := by
  rw [put_top, setAt_mk]
  simp [ups, hi, Ne.symm hi]
theorem rnum_top {SP : SProg} {n26 n40 n41 n43 n44 : Nat} (h26 : SP.fn n26 = some (s26 n40 n41)) (h40 : SP.fn n40 = some s40) (h41 : SP.fn n41 = some (W.s14 n43 n44)) (h43 : SP.fn n43 = some W.s25) (h44 : SP.fn n44 = some W.s27)
    (k : Nat) (M : Mem) (id : Nat) (t : List UInt8) (b : Int) (fl : Bool) (l : List (Nat × Con)) (ht : t.length < 2 ^ 48) :
    callFn SP (k + 4) n26 [.ptr (some ⟨M.length, id, 2, 0⟩)] (mk ((id, .cells [.str t, .int .i64 b] true fl) :: l) :: M) = some (u64 (rnum (t, b)).1, [], mk ((id, .cells [.str (rnum (t, b)).2.1, .int .i64 (rnum (t, b)).2.2] true fl) :: l) :: M) := by
  have h := rnum_ev h26 h40 h41 h43 h44 k _ _ id (t, b) fl (by simp) ht (top_get M id 2 _ l rfl)
  rwa [top_put] at h
theorem rtext_top {SP : SProg} {n25 n26 n40 n41 n43 n44 : Nat} (h25 : SP.fn n25 = some (s25 n26 n40)) (h26 : SP.fn n26 = some (s26 n40 n41)) (h40 : SP.fn n40 = some s40) (h41 : SP.fn n41 = some (W.s14 n43 n44)) (h43 : SP.fn n43 = some W.s25) (h44 : SP.fn n44 = some W.s27)
    (k : Nat) (M : Mem) (id : Nat) (t : List UInt8) (b : Int) (fl : Bool) (l : List (Nat × Con)) (ht : t.length < 2 ^ 48) :
    callFn SP (k + 5) n25 [.ptr (some ⟨M.length, id, 2, 0⟩)] (mk ((id, .cells [.str t, .int .i64 b] true fl) :: l) :: M) = some (.str (rtext (t, b)).1, [], mk ((id, .cells [.str (rtext (t, b)).2.1, .int .i64 (rtext (t, b)).2.2] true fl) :: l) :: M) := by
  have h := rtext_ev h25 h26 h40 h41 h43 h44 k _ _ id (t, b) fl (by simp) ht (top_get M id 2 _ l rfl)
  rwa [top_put] at h
theorem rbelow_top {SP : SProg} {n26 n30 n40 n41 n43 n44 : Nat} (h26 : SP.fn n26 = some (s26 n40 n41)) (h30 : SP.fn n30 = some (s30 n26)) (h40 : SP.fn n40 = some s40) (h41 : SP.fn n41 = some (W.s14 n43 n44)) (h43 : SP.fn n43 = some W.s25) (h44 : SP.fn n44 = some W.s27)
    (k : Nat) (M : Mem) (id : Nat) (t : List UInt8) (b : Int) (bound : Int) (fl : Bool) (l : List (Nat × Con)) (ht : t.length < 2 ^ 48) :
    callFn SP (k + 5) n30 [.ptr (some ⟨M.length, id, 2, 0⟩), .int .i64 bound] (mk ((id, .cells [.str t, .int .i64 b] true fl) :: l) :: M) = some (.int .i64 (rbelow bound (t, b)).1, [], mk ((id, .cells [.str (rbelow bound (t, b)).2.1, .int .i64 (rbelow bound (t, b)).2.2] true fl) :: l) :: M) := by
  have h := below_ev h26 h30 h40 h41 h43 h44 k _ _ id (t, b) fl bound (by simp) ht (top_get M id 2 _ l rfl)
  rwa [top_put] at h
theorem left_top {SP : SProg} {n34 : Nat} (h34 : SP.fn n34 = some s34) (k : Nat) (M : Mem) (d : Nat) (id : Nat) (t : List UInt8) (b : Int) (rw_ fl : Bool) (l : List (Nat × Con)) (hdm : d = M.length) :
    callFn SP (k + 1) n34 [.ptr (some ⟨d, id, 2, 0⟩)] (mk ((id, .cells [.str t, .int .i64 b] rw_ fl) :: l) :: M) = some (.int .i64 t.length, [], mk ((id, .cells [.str t, .int .i64 b] rw_ fl) :: l) :: M) := by
  subst hdm
  have hg := top_get M id 2 (.cells [.str t, .int .i64 b] rw_ fl) l rfl
  have hd : M.length < (mk ((id, .cells [.str t, .int .i64 b] rw_ fl) :: l) :: M).length := by simp
  generalize mk ((id, .cells [.str t, .int .i64 b] rw_ fl) :: l) :: M = M1 at *
  rw [call_fn (h34.trans rfl) (by simp)]
  simp (disch := omega) [if_pos, get_low, hg, hd]
theorem done_top {SP : SProg} {n27 : Nat} (h27 : SP.fn n27 = some s27) (k : Nat) (M : Mem) (d : Nat) (id : Nat) (t : List UInt8) (b : Int) (rw_ fl : Bool) (l : List (Nat × Con)) (hdm : d = M.length) :
    callFn SP (k + 1) n27 [.ptr (some ⟨d, id, 2, 0⟩)] (mk ((id, .cells [.str t, .int .i64 b] rw_ fl) :: l) :: M) = some (.int .i64 (rdone (t, b)), [], mk ((id, .cells [.str t, .int .i64 b] rw_ fl) :: l) :: M) := by
  subst hdm
  have hg := top_get M id 2 (.cells [.str t, .int .i64 b] rw_ fl) l rfl
  have hd : M.length < (mk ((id, .cells [.str t, .int .i64 b] rw_ fl) :: l) :: M).length := by simp
  generalize mk ((id, .cells [.str t, .int .i64 b] rw_ fl) :: l) :: M = M1 at *
  rw [call_fn (h27.trans rfl) (by simp)]
  unfold rdone
  by_cases h1 : b = 0
  · by_cases h2 : t = []
    · simp (disch := omega) [h1, h2, get_low, hg, hd]
    · simp (disch := omega) [h1, h2, get_low, hg, hd]
  · simp (disch := omega) [h1, get_low, hg, hd]
theorem xnum_snd {SP : SProg} {n29 : Nat} (h29 : SP.fn n29 = some s29)
    (k : Nat) (M : Mem) (i0 id : Nat) (c0 : Con) (S : List UInt8) (a : Nat) (b : Int) (fl : Bool) (l : List (Nat × Con)) (hi : id ≠ i0) (ha : a ≤ S.length) (hl : S.length < 2 ^ 48) :
    callFn SP (k + 1) n29 [.ptr (some ⟨M.length, id, 3, 0⟩)] (mk ((i0, c0) :: (id, .cells [.str S, .int .i64 (a : Nat), .int .i64 b] true fl) :: l) :: M) = some (u64 (xnum S (a, b)).1, [], mk ((i0, c0) :: (id, .cells [.str S, .int .i64 ((xnum S (a, b)).2.1 : Nat), .int .i64 (xnum S (a, b)).2.2] true fl) :: l) :: M) := by
  have h := number_ev h29 k _ S (a, b) _ id fl (by simp) ha hl (snd_get M i0 id 3 c0 _ l hi rfl)
  rwa [snd_put _ _ _ _ _ _ _ hi] at h
theorem xwords_snd {SP : SProg} {n29 n32 : Nat} (h29 : SP.fn n29 = some s29) (h32 : SP.fn n32 = some (s32 n29))
    (k : Nat) (M : Mem) (i0 id : Nat) (c0 : Con) (S : List UInt8) (a : Nat) (b : Int) (fl : Bool) (l : List (Nat × Con)) (hi : id ≠ i0) (ha : a ≤ S.length) (hl : S.length < 2 ^ 48) :
    callFn SP (k + 2) n32 [.ptr (some ⟨M.length, id, 3, 0⟩)] (mk ((i0, c0) :: (id, .cells [.str S, .int .i64 (a : Nat), .int .i64 b] true fl) :: l) :: M) = some (.str (xwords S (a, b)).1, [], mk ((i0, c0) :: (id, .cells [.str S, .int .i64 ((xwords S (a, b)).2.1 : Nat), .int .i64 (xwords S (a, b)).2.2] true fl) :: l) :: M) := by
  have h := refwords_ev h29 h32 k _ S (a, b) _ id fl (by simp) ha hl (snd_get M i0 id 3 c0 _ l hi rfl)
  rwa [snd_put _ _ _ _ _ _ _ hi] at h
theorem xbelow_snd {SP : SProg} {n29 n31 : Nat} (h29 : SP.fn n29 = some s29) (h31 : SP.fn n31 = some (s31 n29))
    (k : Nat) (M : Mem) (i0 id : Nat) (c0 : Con) (S : List UInt8) (a : Nat) (b : Int) (bound : Int) (fl : Bool) (l : List (Nat × Con)) (hi : id ≠ i0) (ha : a ≤ S.length) (hl : S.length < 2 ^ 48) :
    callFn SP (k + 2) n31 [.ptr (some ⟨M.length, id, 3, 0⟩), .int .i64 bound] (mk ((i0, c0) :: (id, .cells [.str S, .int .i64 (a : Nat), .int .i64 b] true fl) :: l) :: M) = some (.int .i64 (xbelow S bound (a, b)).1, [], mk ((i0, c0) :: (id, .cells [.str S, .int .i64 ((xbelow S bound (a, b)).2.1 : Nat), .int .i64 (xbelow S bound (a, b)).2.2] true fl) :: l) :: M) := by
  have h := refbelow_ev h29 h31 k _ S (a, b) _ id fl bound (by simp) ha hl (snd_get M i0 id 3 c0 _ l hi rfl)
  rwa [snd_put _ _ _ _ _ _ _ hi] at h
theorem xdone_snd {SP : SProg} {n33 : Nat} (h33 : SP.fn n33 = some s33) (k : Nat) (M : Mem) (d : Nat) (i0 id : Nat) (c0 : Con) (S : List UInt8) (a : Nat) (b : Int) (rw_ fl : Bool) (l : List (Nat × Con)) (hi : id ≠ i0) (hdm : d = M.length) :
    callFn SP (k + 1) n33 [.ptr (some ⟨d, id, 3, 0⟩)] (mk ((i0, c0) :: (id, .cells [.str S, .int .i64 (a : Nat), .int .i64 b] rw_ fl) :: l) :: M) = some (.int .i64 (xdone S (a, b)), [], mk ((i0, c0) :: (id, .cells [.str S, .int .i64 (a : Nat), .int .i64 b] rw_ fl) :: l) :: M) := by
  subst hdm
  have hg := snd_get M i0 id 3 c0 (.cells [.str S, .int .i64 (a : Nat), .int .i64 b] rw_ fl) l hi rfl
  have hd : M.length < (mk ((i0, c0) :: (id, .cells [.str S, .int .i64 (a : Nat), .int .i64 b] rw_ fl) :: l) :: M).length := by simp
  generalize mk ((i0, c0) :: (id, .cells [.str S, .int .i64 (a : Nat), .int .i64 b] rw_ fl) :: l) :: M = M1 at *
  rw [call_fn (h33.trans rfl) (by simp)]
  unfold xdone
  by_cases h1 : b = 0
  · by_cases h2 : a < S.length
    · simp (disch := omega) [h1, h2, get_low, hg, hd]
    · simp (disch := omega) [h1, h2, get_low, hg, hd]
  · simp (disch := omega) [h1, get_low, hg, hd]

end Go.Det.K

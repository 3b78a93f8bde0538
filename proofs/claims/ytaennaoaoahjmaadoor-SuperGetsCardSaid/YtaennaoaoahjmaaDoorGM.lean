/-
  The record's law: what Get reads is what the document's reads.
-/
import Derived.Test.YtaennaoaoahjmaaDoorE
import Derived.Test.YtaennaoaoahjmaaDoorA
import Derived.Test.YtaennaoaoahjmaaDoorL
import Derived.Test.YtaennaoaoahjmaaDoorLibKB
import Derived.Test.YtaennaoaoahjmaaDoorB6
import Derived.Test.YtaennaoaoahjmaaDoorM2
set_option maxRecDepth 100000
set_option linter.unusedSimpArgs false
set_option linter.unusedVariables false
namespace Go.Proofs.YtaennaoaoahjmaaDoor
open Go.Det

theorem rec_top {M : Mem} {l : List (Nat × Con)} {R : Rec} {i j d d2 z1 z2 n1 n2 : Nat} {r1 r2 f1 f2 : Bool} (h1 : mk l i = some (.cells (R.seats.map (AV.int .i64)) r1 f1)) (h2 : mk l j = some (.cells (R.mems.flatMap mc) r2 f2))
    (hs : R.seats.length ≤ 30) (hm : R.mems.length ≤ 20) (hd : d = M.length) (hd2 : d2 = M.length) (hz1 : z1 = R.seats.length) (hz2 : z2 = 3 * R.mems.length) (hn1 : n1 = R.seats.length) (hn2 : n2 = R.mems.length) :
    IsRec (mk l :: M) R (.slice (some ⟨d, i, z1, 0⟩) n1 1) (.slice (some ⟨d2, j, z2, 0⟩) n2 3) :=
  ⟨WS.top' h1 hd hz1 hn1, WM.top h2 hd2 (by rw [hz2, flat_len mc_len]; omega) hn2, by omega, by omega⟩

theorem rec_topM {M : Mem} {l : List (Nat × Con)} {R : Rec} {e j d2 z2 n2 : Nat} {r2 f2 : Bool} (h0 : R.seats = []) (h2 : mk l j = some (.cells (R.mems.flatMap mc) r2 f2))
    (hm : R.mems.length ≤ 20) (hd2 : d2 = M.length) (hz2 : z2 = 3 * R.mems.length) (hn2 : n2 = R.mems.length) :
    IsRec (mk l :: M) R (.slice none 0 e) (.slice (some ⟨d2, j, z2, 0⟩) n2 3) :=
  ⟨by rw [h0]; exact WS.nil, WM.top h2 hd2 (by rw [hz2, flat_len mc_len]; omega) hn2, by rw [h0]; simp, by omega⟩
theorem rec_topS {M : Mem} {l : List (Nat × Con)} {R : Rec} {e i d z1 n1 : Nat} {r1 f1 : Bool} (h0 : R.mems = []) (h1 : mk l i = some (.cells (R.seats.map (AV.int .i64)) r1 f1))
    (hs : R.seats.length ≤ 30) (hd : d = M.length) (hz1 : z1 = R.seats.length) (hn1 : n1 = R.seats.length) :
    IsRec (mk l :: M) R (.slice (some ⟨d, i, z1, 0⟩) n1 1) (.slice none 0 e) :=
  ⟨WS.top' h1 hd hz1 hn1, by rw [h0]; exact WM.nil, by omega, by rw [h0]; simp⟩
theorem rec_topN {M : Mem} {R : Rec} {e e' : Nat} (h0 : R.seats = []) (h1 : R.mems = []) : IsRec M R (.slice none 0 e) (.slice none 0 e') :=
  ⟨by rw [h0]; exact WS.nil, by rw [h1]; exact WM.nil, by rw [h0]; simp, by rw [h1]; simp⟩

end Go.Proofs.YtaennaoaoahjmaaDoor

namespace Go.Proofs.YtaennaoaoahjmaaDoor
open Go.Det

/-- A disk as plain data. -/
structure Dk where
  st : Int
  top : UInt8
  log : UInt8
  short : Bool
  deriving Inhabited

def dc (d : Dk) : List AV := [.int .i64 d.st, byteAV d.top, byteAV d.log, .bool d.short]
theorem dc_len (d : Dk) : (dc d).length = 4 := rfl

def mOf (d : Dk) : Mb := ⟨d.st, d.top :: List.replicate (if d.short then 30 else 31) 0, d.log :: List.replicate 31 0⟩

/-- Seats and disks in the scope of depth d, from the name id on. -/
def sV (d id : Nat) (l : List Int) : AV := if l = [] then .slice none 0 1 else .slice (some ⟨d, id, l.length, 0⟩) l.length 1
def mV (d id : Nat) (l : List Mb) : AV := if l = [] then .slice none 0 0 else .slice (some ⟨d, id, 3 * l.length, 0⟩) l.length 3

/-- What grows: the block, if there is one. -/
def mB (id : Nat) (l : List Mb) : List (Nat × Con) := if l = [] then [] else [(id, .cells (l.flatMap mc) true true)]

theorem mV_snoc (d id : Nat) (l : List Mb) (x : Mb) : mV d id (l ++ [x]) = .slice (some ⟨d, id, 3 * l.length + 3, 0⟩) (l.length + 1) 3 := by simp [mV, Nat.mul_add]
theorem mB_snoc (id : Nat) (l : List Mb) (x : Mb) : mB id (l ++ [x]) = [(id, .cells (l.flatMap mc ++ mc x) true true)] := by simp [mB]

def z9 : Con := .cells [u64 0#64, u64 0#64, .int .i64 0, .int .i64 0, .int .i64 0, .int .i64 0, .bool false, .slice none 0 0, .slice none 0 0] true false

def rC (r : Rec) (sv mv : AV) : Con := .cells (rcells r sv mv) true false

/-- The scope of 'records', under way. -/
def L7 (D : Nat) (r : Rec) (sv : AV) (sb : List (Nat × Con)) (ms : List Mb) : List (Nat × Con) :=
  (4, z9) :: (8, z9) :: (sb ++ ((8068, rC r sv (mV D 44032 ms)) :: (12068, rC r sv (mV D 48032 ms)) :: (mB 44032 ms ++ mB 48032 ms)))

theorem bytes_zero (n : Nat) : bytesOf (List.replicate n (byteAV 0)) = some (List.replicate n 0) := by
  have := bytesOf_map (List.replicate n (0 : UInt8))
  rwa [List.map_replicate] at this
theorem bytes_one (x : UInt8) : bytesOf [byteAV x] = some [x] := bytesOf_map [x]

set_option maxHeartbeats 2000000 in
theorem l7 (C : Det.Calls) (M : Mem) (v : AV) (ds : List Dk) (N : Nat) (h1 : ds.length = N) (hN : N < 2 ^ 30) (hv : WM M 4 dc v ds) (r : Rec) (sv : AV) (sb : List (Nat × Con))
    (hsb : (sb = [] ∧ sv = .slice none 0 1) ∨ ∃ n c, sb = [(4028, .cells c true true)] ∧ sv = .slice (some ⟨M.length, 4028, n, 0⟩) n 1) (j : Nat) : ∀ (i n : Nat), i + j = N → j < n →
    fgt a45_0 (rnd0 (some (e45_0 (.ptr (some ⟨M.length, 4, 9, 0⟩)) (.ptr (some ⟨M.length, 8, 9, 0⟩)) (.ptr (some ⟨M.length, 8068, 9, 0⟩)) (.ptr (some ⟨M.length, 12068, 9, 0⟩)) v (.int .i64 N) (.int .i64 i), mk (L7 M.length r sv sb ((ds.take i).map mOf)) :: M)) k45_0 C s45_b0 n) =
      some (.exit 0, x45_0 (.ptr (some ⟨M.length, 4, 9, 0⟩)) (.ptr (some ⟨M.length, 8, 9, 0⟩)) (.ptr (some ⟨M.length, 8068, 9, 0⟩)) (.ptr (some ⟨M.length, 12068, 9, 0⟩)), mk (L7 M.length r sv sb (ds.map mOf)) :: M) := by
  induction j with
  | zero =>
    intro i n h hn
    obtain rfl : i = N := by omega
    rw [rnd0_some, List.take_of_length_le (by omega)]
    conv => lhs; arg 2; arg 1; rw [s45_b0]
    generalize ds.map mOf = ms
    by_cases hms : ms = []
    · rcases hsb with ⟨rfl, rfl⟩ | ⟨m, c, rfl, rfl⟩
      · simp [L7, z9, rC, rcells, mV, mB, hms]
      · simp [L7, z9, rC, rcells, mV, mB, hms]
    · rcases hsb with ⟨rfl, rfl⟩ | ⟨m, c, rfl, rfl⟩
      · simp [L7, z9, rC, rcells, mV, mB, hms]
      · simp [L7, z9, rC, rcells, mV, mB, hms]
  | succ j ih0 =>
    intro i n h hn
    obtain ⟨n, rfl⟩ : ∃ m, n = m + 1 := ⟨n - 1, by omega⟩
    have hi : i < N := by omega
    have ih := ih0 (i + 1) n (by omega) (by omega)
    obtain ⟨d, id, z, rw_, fl, r', hvv, hd, hg⟩ := hv.block (by omega)
    subst hvv
    have hn1 : d ≠ M.length := by omega
    have hseg := flat_seg dc_len r' ds i (by omega)
    have hfl : i * 4 + 4 ≤ (ds.flatMap dc ++ r').length := by rw [List.length_append, flat_len dc_len]; omega
    have hnx : (ds.take (i + 1)).map mOf = (ds.take i).map mOf ++ [mOf (nth ds i)] := by
      rw [List.take_add_one, getElem?_nth ds i (by omega)]; simp
    rw [hnx] at ih
    have hmi : ((ds.take i).map mOf).length = i := by simp; omega
    generalize (ds.take i).map mOf = ms at ih hmi ⊢
    rw [rnd0_some]
    conv => lhs; arg 2; arg 1; rw [s45_b0]
    have hx : dc (nth ds i) = [.int .i64 (nth ds i).st, byteAV (nth ds i).top, byteAV (nth ds i).log, .bool (nth ds i).short] := rfl
    have hm : mOf (nth ds i) = ⟨(nth ds i).st, (nth ds i).top :: List.replicate (if (nth ds i).short then 30 else 31) 0, (nth ds i).log :: List.replicate 31 0⟩ := rfl
    rw [hx] at hseg
    rw [hm] at ih
    clear hx hm hnx hv ih0
    generalize ds.flatMap dc ++ r' = BB at hseg hfl hg
    generalize (nth ds i).st = st at *
    generalize (nth ds i).top = tp at *
    generalize (nth ds i).log = lg at *
    have hml : (ms.flatMap mc).length = 3 * ms.length := by rw [flat_len mc_len]; omega
    have hfa : ∀ x : Mb, (ms ++ [x]).flatMap mc = ms.flatMap mc ++ [.int .i64 x.st, .str x.top, .str x.log] := fun x => by simp [mc]
    generalize hFF : ms.flatMap mc = FF at hml hfa
    by_cases hms : ms = []
    · subst hms
      cases hsh : (nth ds i).short <;> rw [hsh] at hseg ih <;> (rcases hsb with ⟨rfl, rfl⟩ | ⟨m, c, rfl, rfl⟩) <;>
        simpa (disch := first | omega | (simp; done) | (simp; omega)) [-List.reduceReplicate, hi, get_low, hd, hg, hseg, hfl, h1, if_pos, hn1, IntWalk.i64_in, bytes_zero, bytes_one, L7, z9, rC, rcells, mV, mB, mc, rep] using ih
    · cases hsh : (nth ds i).short <;> rw [hsh] at hseg ih <;> (rcases hsb with ⟨rfl, rfl⟩ | ⟨m, c, rfl, rfl⟩) <;>
        simpa (disch := first | omega | (simp; done) | (simp; omega)) [-List.reduceReplicate, -List.flatMap_append, hi, get_low, hd, hg, hseg, hfl, h1, if_pos, hn1, IntWalk.i64_in, bytes_zero, bytes_one, L7, z9, rC, rcells, mV, mB, rep, hms, hFF, hml, hfa, Nat.mul_add] using ih

theorem WM_take {α : Type} {M : Mem} {m d id z N : Nat} {f : α → List AV} {rw_ fl : Bool} {r : List AV} {l : List α} (n : Nat) (hd : d < M.length) (hg : ∀ o, get M ⟨d, id, z, o⟩ = some (.cells (l.flatMap f ++ r) rw_ fl)) (hN : N = min n l.length) :
    WM M m f (.slice (some ⟨d, id, z, 0⟩) N m) (l.take n) := by
  subst hN
  refine .inr (.inr ⟨d, id, z, rw_, fl, (l.drop n).flatMap f ++ r, by rw [List.length_take], hd, fun o => ?_⟩)
  rw [hg, ← List.append_assoc, ← List.flatMap_append, List.take_append_drop]

end Go.Proofs.YtaennaoaoahjmaaDoor

namespace Go.Proofs.YtaennaoaoahjmaaDoor
open Go.Det

theorem rnum_len' (r : K.Rd) : (K.rnum r).2.1.length ≤ r.1.length := K.rnum_len r
theorem rtext_len (r : K.Rd) : (K.rtext r).2.1.length ≤ r.1.length := by
  unfold K.rtext
  exact Nat.le_trans (K.rtake_len _ _) (K.rnum_len r)
theorem rbelow_len (b : Int) (r : K.Rd) : (K.rbelow b r).2.1.length ≤ r.1.length := by
  unfold K.rbelow
  have := K.rnum_len r
  split
  · split <;> exact this
  · exact this

theorem get_tp (s : Scope) (M : Mem) (d id : Nat) (X : Con) (i z o : Nat) : Det.get (s :: put M d id X) ⟨M.length, i, z, o⟩ = match s i with | some c => if c.size = z then some c else none | none => none := by
  have := Det.get_top s (put M d id X) i z o
  rwa [put_length] at this
theorem put_tp (s : Scope) (M : Mem) (d id : Nat) (X x : Con) (i : Nat) : put (s :: put M d id X) M.length i x = Det.setAt s i (some x) :: put M d id X := by
  have := put_top s (put M d id X) i x
  rwa [put_length] at this

/-- A member that is read. -/
def rm (r : K.Rd) : Mb × K.Rd := (⟨(K.rbelow 4 r).1, (K.rtext (K.rbelow 4 r).2).1, (K.rtext (K.rtext (K.rbelow 4 r).2).2).1⟩, (K.rtext (K.rtext (K.rbelow 4 r).2).2).2)
theorem rm_len (r : K.Rd) : (rm r).2.1.length ≤ r.1.length :=
  Nat.le_trans (rtext_len _) (Nat.le_trans (rtext_len _) (rbelow_len 4 r))

theorem below_e (k : Nat) (M : Mem) (d id : Nat) (r : K.Rd) (fl : Bool) (bound : Int) (hd : d < M.length) (hr : r.1.length < 2 ^ 48) (hg : ∀ o, get M ⟨d, id, 2, o⟩ = some (K.rc r fl)) :
    callFn SP (k + 5) 31 [.ptr (some ⟨d, id, 2, 0⟩), .int .i64 bound] M = some (.int .i64 (K.rbelow bound r).1, [], put M d id (K.rc (K.rbelow bound r).2 fl)) :=
  K.below_ev (SP := SP) (n26 := 40) (n30 := 31) (n40 := 51) (n41 := 53) (n43 := 64) (n44 := 65) rfl rfl rfl rfl rfl rfl k M d id r fl bound hd hr hg
theorem num_e (k : Nat) (M : Mem) (d id : Nat) (r : K.Rd) (fl : Bool) (hd : d < M.length) (hr : r.1.length < 2 ^ 48) (hg : ∀ o, get M ⟨d, id, 2, o⟩ = some (K.rc r fl)) :
    callFn SP (k + 4) 40 [.ptr (some ⟨d, id, 2, 0⟩)] M = some (u64 (K.rnum r).1, [], put M d id (K.rc (K.rnum r).2 fl)) :=
  K.rnum_ev (SP := SP) (n26 := 40) (n40 := 51) (n41 := 53) (n43 := 64) (n44 := 65) rfl rfl rfl rfl rfl k M d id r fl hd hr hg
theorem text_e (k : Nat) (M : Mem) (d id : Nat) (r : K.Rd) (fl : Bool) (hd : d < M.length) (hr : r.1.length < 2 ^ 48) (hg : ∀ o, get M ⟨d, id, 2, o⟩ = some (K.rc r fl)) :
    callFn SP (k + 5) 32 [.ptr (some ⟨d, id, 2, 0⟩)] M = some (.str (K.rtext r).1, [], put M d id (K.rc (K.rtext r).2 fl)) :=
  K.rtext_ev (SP := SP) (n25 := 32) (n26 := 40) (n40 := 51) (n41 := 53) (n43 := 64) (n44 := 65) rfl rfl rfl rfl rfl rfl k M d id r fl hd hr hg

set_option maxHeartbeats 2000000 in
theorem member_ev (k : Nat) (M : Mem) (d id : Nat) (r : K.Rd) (fl : Bool) (hd : d < M.length) (hr : r.1.length < 2 ^ 48) (hg : ∀ o, get M ⟨d, id, 2, o⟩ = some (K.rc r fl)) :
    callFn SP (k + 6) 41 [.ptr (some ⟨d, id, 2, 0⟩)] M = some (.agg (mc (rm r).1), [], put M d id (K.rc (rm r).2 fl)) := by
  have hn1 : d ≠ M.length := by omega
  have h1 := fun s => below_e k (s :: M) d id r fl 4 (by simp; omega) hr (fun o => by rw [get_low (by exact hd)]; exact hg o)
  have l1 := rbelow_len 4 r
  have h2 := fun s => text_e k (s :: put M d id (K.rc (K.rbelow 4 r).2 fl)) d id (K.rbelow 4 r).2 fl (by rw [List.length_cons, put_length]; omega) (by omega) (fun o => by rw [get_sput hd]; exact if_pos rfl)
  have l2 := rtext_len (K.rbelow 4 r).2
  have h3 := fun s => text_e k (s :: put M d id (K.rc (K.rtext (K.rbelow 4 r).2).2 fl)) d id (K.rtext (K.rbelow 4 r).2).2 fl (by rw [List.length_cons, put_length]; omega) (by omega) (fun o => by rw [get_sput hd]; exact if_pos rfl)
  simp only [put_low hd, put_sput hd] at h1 h2 h3
  rw [call_fn (f := 41) (by rfl) (by simp)]
  simp (disch := omega) [h1, h2, h3, rm, mc, get_tp, put_tp]

end Go.Proofs.YtaennaoaoahjmaaDoor

namespace Go.Proofs.YtaennaoaoahjmaaDoor
open Go.Det

def rseats : Nat → K.Rd → List Int × K.Rd
  | 0, r => ([], r)
  | n + 1, r => ((K.rbelow 12 r).1 :: (rseats n (K.rbelow 12 r).2).1, (rseats n (K.rbelow 12 r).2).2)
def rmems : Nat → K.Rd → List Mb × K.Rd
  | 0, r => ([], r)
  | n + 1, r => ((rm r).1 :: (rmems n (rm r).2).1, (rmems n (rm r).2).2)

theorem rseats_len : ∀ (n : Nat) (r : K.Rd), (rseats n r).2.1.length ≤ r.1.length
  | 0, r => Nat.le_refl _
  | n + 1, r => Nat.le_trans (rseats_len n _) (rbelow_len 12 r)
theorem rmems_len : ∀ (n : Nat) (r : K.Rd), (rmems n r).2.1.length ≤ r.1.length
  | 0, r => Nat.le_refl _
  | n + 1, r => Nat.le_trans (rmems_len n _) (rm_len r)
theorem rseats_n : ∀ (n : Nat) (r : K.Rd), (rseats n r).1.length = n
  | 0, r => rfl
  | n + 1, r => by simp [rseats, rseats_n n]
theorem rmems_n : ∀ (n : Nat) (r : K.Rd), (rmems n r).1.length = n
  | 0, r => rfl
  | n + 1, r => by simp [rmems, rmems_n n]

/-- The seats that were read; the block they lie in. -/
def sW (D : Nat) (l : List Int) : AV := if l = [] then .slice none 0 0 else .slice (some ⟨D, 52020, l.length, 0⟩) l.length 1
def sB (l : List Int) : List (Nat × Con) := if l = [] then [] else [(52020, .cells (l.map (AV.int .i64)) true true)]

def rdC (r : K.Rd) : Con := .cells [.str r.1, .int .i64 r.2] true true

/-- The scope of Get, under way. -/
def L13 (D : Nat) (r : Rec) (S : List Int) (Ms : List Mb) (rd : K.Rd) : List (Nat × Con) :=
  (8000, rC r (sW D S) (mV D 68020 Ms)) :: (0, z9) :: (4004, rdC rd) :: (sB S ++ mB 68020 Ms)

/-- A call that reads, in the scope of Get. -/
theorem below_at (k : Nat) (M : Mem) (b : Int) (r : K.Rd) (hr : r.1.length < 2 ^ 48) : ∀ l, mk l 4004 = some (rdC r) →
    callFn SP (k + 5) 31 [.ptr (some ⟨M.length, 4004, 2, 0⟩), .int .i64 b] (mk l :: M) = some (.int .i64 (K.rbelow b r).1, [], mk (ups 4004 (rdC (K.rbelow b r).2) l) :: M) := by
  intro l h
  have := below_e k (mk l :: M) M.length 4004 r true b (by simp) hr (fun o => by rw [get_top, h]; rfl)
  rwa [put_top, setAt_mk] at this
theorem num_at (k : Nat) (M : Mem) (r : K.Rd) (hr : r.1.length < 2 ^ 48) : ∀ l, mk l 4004 = some (rdC r) →
    callFn SP (k + 4) 40 [.ptr (some ⟨M.length, 4004, 2, 0⟩)] (mk l :: M) = some (u64 (K.rnum r).1, [], mk (ups 4004 (rdC (K.rnum r).2) l) :: M) := by
  intro l h
  have := num_e k (mk l :: M) M.length 4004 r true (by simp) hr (fun o => by rw [get_top, h]; rfl)
  rwa [put_top, setAt_mk] at this
theorem member_at (k : Nat) (M : Mem) (r : K.Rd) (hr : r.1.length < 2 ^ 48) : ∀ l, mk l 4004 = some (rdC r) →
    callFn SP (k + 6) 41 [.ptr (some ⟨M.length, 4004, 2, 0⟩)] (mk l :: M) = some (.agg (mc (rm r).1), [], mk (ups 4004 (rdC (rm r).2) l) :: M) := by
  intro l h
  have := member_ev k (mk l :: M) M.length 4004 r true (by simp) hr (fun o => by rw [get_top, h]; rfl)
  rwa [put_top, setAt_mk] at this

set_option maxHeartbeats 2000000 in
theorem l13a (k : Nat) (M : Mem) (r : Rec) (N : Nat) (hN : N < 2 ^ 30) (j : Nat) : ∀ (i n : Nat) (S : List Int) (rd : K.Rd), S.length = i → rd.1.length < 2 ^ 48 → i + j = N → j < n →
    fgt a20_1 (rnd0 (some (e20_1 (P0 M 0) (.ptr (some ⟨M.length, 4004, 2, 0⟩)) (.ptr (some ⟨M.length, 8000, 9, 0⟩)) (.int .i64 N) (.int .i64 i), mk (L13 M.length r S [] rd) :: M)) k20_1 (callFn SP (k + 5)) s20_b1 n) =
      some (.exit 2, x20_1 (P0 M 0) (.ptr (some ⟨M.length, 4004, 2, 0⟩)) (.ptr (some ⟨M.length, 8000, 9, 0⟩)), mk (L13 M.length r (S ++ (rseats j rd).1) [] (rseats j rd).2) :: M) := by
  induction j with
  | zero =>
    intro i n S rd hS hr h hn
    obtain rfl : i = N := by omega
    rw [rnd0_some]
    conv => lhs; arg 2; arg 1; rw [s20_b1]
    simp only [rseats, List.append_nil]
    by_cases hs : S = []
    · simp [L13, P0, z9, rC, rcells, sW, sB, mV, mB, hs, rdC]
    · simp [L13, P0, z9, rC, rcells, sW, sB, mV, mB, hs, rdC]
  | succ j ih0 =>
    intro i n S rd hS hr h hn
    obtain ⟨n, rfl⟩ : ∃ m, n = m + 1 := ⟨n - 1, by omega⟩
    have hi : i < N := by omega
    have ih := ih0 (i + 1) n (S ++ [(K.rbelow 12 rd).1]) (K.rbelow 12 rd).2 (by simp [hS]) (Nat.lt_of_le_of_lt (rbelow_len 12 rd) hr) (by omega) (by omega)
    have hb := below_at k M 12 rd hr
    rw [List.append_assoc, List.singleton_append] at ih
    simp only [rseats]
    generalize (rseats j (K.rbelow 12 rd).2).1 = SS at ih ⊢
    generalize (rseats j (K.rbelow 12 rd).2).2 = RR at ih ⊢
    generalize K.rbelow 12 rd = q at *
    obtain ⟨x, rd'⟩ := q
    simp only at ih hb ⊢
    rw [rnd0_some]
    conv => lhs; arg 2; arg 1; rw [s20_b1]
    generalize hR : mk (L13 M.length r (S ++ x :: SS) [] RR) = RM at ih ⊢
    by_cases hs : S = []
    · subst hs
      simp only [List.length_nil] at hS
      subst hS
      simp only [rdC] at hb ih ⊢
      simpa (disch := first | omega | (simp; done) | (simp; omega)) [hi, hb, if_pos, IntWalk.i64_in, L13, P0, z9, rC, rcells, sW, sB, mV, mB, rdC] using ih
    · subst hS
      simp only [rdC] at hb ih ⊢
      simpa (disch := first | omega | (simp; done) | (simp; omega)) [hi, hb, if_pos, IntWalk.i64_in, L13, P0, z9, rC, rcells, sW, sB, mV, mB, rdC, hs] using ih

set_option maxHeartbeats 2000000 in
theorem l13b (k : Nat) (M : Mem) (r : Rec) (S : List Int) (N : Nat) (hN : N < 2 ^ 30) (j : Nat) : ∀ (i n : Nat) (Ms : List Mb) (rd : K.Rd), Ms.length = i → rd.1.length < 2 ^ 48 → i + j = N → j < n →
    fgt a20_2 (rnd0 (some (e20_2 (P0 M 0) (.ptr (some ⟨M.length, 4004, 2, 0⟩)) (.ptr (some ⟨M.length, 8000, 9, 0⟩)) (.int .i64 N) (.int .i64 i), mk (L13 M.length r S Ms rd) :: M)) k20_2 (callFn SP (k + 6)) s20_b2 n) =
      some (.exit 4, x20_2 (P0 M 0) (.ptr (some ⟨M.length, 4004, 2, 0⟩)) (.ptr (some ⟨M.length, 8000, 9, 0⟩)), mk (L13 M.length r S (Ms ++ (rmems j rd).1) (rmems j rd).2) :: M) := by
  induction j with
  | zero =>
    intro i n Ms rd hS hr h hn
    obtain rfl : i = N := by omega
    rw [rnd0_some]
    conv => lhs; arg 2; arg 1; rw [s20_b2]
    simp only [rmems, List.append_nil]
    by_cases hs : S = [] <;> by_cases hm : Ms = []
    · simp [L13, P0, z9, rC, rcells, sW, sB, mV, mB, hs, hm, rdC]
    · simp [L13, P0, z9, rC, rcells, sW, sB, mV, mB, hs, hm, rdC]
    · simp [L13, P0, z9, rC, rcells, sW, sB, mV, mB, hs, hm, rdC]
    · simp [L13, P0, z9, rC, rcells, sW, sB, mV, mB, hs, hm, rdC]
  | succ j ih0 =>
    intro i n Ms rd hS hr h hn
    obtain ⟨n, rfl⟩ : ∃ m, n = m + 1 := ⟨n - 1, by omega⟩
    have hi : i < N := by omega
    have ih := ih0 (i + 1) n (Ms ++ [(rm rd).1]) (rm rd).2 (by simp [hS]) (Nat.lt_of_le_of_lt (rm_len rd) hr) (by omega) (by omega)
    have hb := member_at k M rd hr
    rw [List.append_assoc, List.singleton_append] at ih
    simp only [rmems]
    generalize (rmems j (rm rd).2).1 = SS at ih ⊢
    generalize (rmems j (rm rd).2).2 = RR at ih ⊢
    generalize rm rd = q at *
    obtain ⟨x, rd'⟩ := q
    simp only at ih hb ⊢
    rw [rnd0_some]
    conv => lhs; arg 2; arg 1; rw [s20_b2]
    generalize hR : mk (L13 M.length r S (Ms ++ x :: SS) RR) = RM at ih ⊢
    have hml : (Ms.flatMap mc).length = 3 * Ms.length := by rw [flat_len mc_len]; omega
    have hfa : (Ms ++ [x]).flatMap mc = Ms.flatMap mc ++ mc x := by simp
    have hne : Ms ++ [x] ≠ [] := by simp
    clear hR
    by_cases hs : S = [] <;> by_cases hm : Ms = []
    · subst hs hm
      simp only [List.length_nil] at hS
      subst hS
      simp only [rdC] at hb ih ⊢
      simpa (disch := first | omega | (simp; done) | (simp; omega)) [hi, hb, if_pos, IntWalk.i64_in, L13, P0, z9, rC, rcells, sW, sB, mV, mB, mc, rep, rdC] using ih
    · subst hs hS
      simp only [rdC] at hb ih ⊢
      generalize hFF : Ms.flatMap mc = FF at *
      simpa (disch := first | omega | (simp; done) | (simp; omega)) [-List.flatMap_append, hi, hb, if_pos, IntWalk.i64_in, L13, P0, z9, rC, rcells, sW, sB, mV, mB, mc, rep, rdC, hm, hFF, hml, hfa, Nat.mul_add] using ih
    · subst hm
      simp only [List.length_nil] at hS
      subst hS
      simp only [rdC] at hb ih ⊢
      simpa (disch := first | omega | (simp; done) | (simp; omega)) [hi, hb, if_pos, IntWalk.i64_in, L13, P0, z9, rC, rcells, sW, sB, mV, mB, mc, rep, rdC, hs] using ih
    · subst hS
      simp only [rdC] at hb ih ⊢
      generalize hFF : Ms.flatMap mc = FF at *
      simpa (disch := first | omega | (simp; done) | (simp; omega)) [-List.flatMap_append, hi, hb, if_pos, IntWalk.i64_in, L13, P0, z9, rC, rcells, sW, sB, mV, mB, mc, rep, rdC, hs, hm, hFF, hml, hfa, Nat.mul_add] using ih

end Go.Proofs.YtaennaoaoahjmaaDoor

namespace Go.Proofs.YtaennaoaoahjmaaDoor
open Go.Det

theorem ofInt64_nat (b : Int) (h1 : 0 ≤ b) (h2 : b < 2 ^ 60) : (BitVec.ofInt 64 b).toNat = b.toNat := by
  rw [BitVec.toNat_ofInt]
  omega

theorem rbelow_lt (b : Int) (r : K.Rd) (h1 : 0 < b) (h2 : b < 2 ^ 60) : 0 ≤ (K.rbelow b r).1 ∧ (K.rbelow b r).1 < b := by
  unfold K.rbelow
  split
  · split
    · exact ⟨Int.le_refl _, h1⟩
    · rename_i h
      rw [not_or] at h
      have h3 := h.2
      rw [BitVec.le_def, ofInt64_nat b (by omega) h2] at h3
      rw [IntWalk.i64_in _ (by omega)]
      simp only
      omega
  · exact ⟨Int.le_refl _, h1⟩

theorem done_at (k : Nat) (M : Mem) (r : K.Rd) (rw_ fl : Bool) : ∀ l, mk l 4004 = some (.cells [.str r.1, .int .i64 r.2] rw_ fl) →
    callFn SP (k + 1) 33 [.ptr (some ⟨M.length, 4004, 2, 0⟩)] (mk l :: M) = some (.int .i64 (K.rdone r), [], mk l :: M) := by
  intro l h
  obtain ⟨t, b⟩ := r
  have hg : ∀ o, Det.get (mk l :: M) ⟨M.length, 4004, 2, o⟩ = some (.cells [.str t, .int .i64 b] rw_ fl) := fun o => by rw [get_top, h]; rfl
  have hd : M.length < (mk l :: M).length := by simp
  generalize mk l :: M = M1 at *
  rw [call_fn (f := 33) (by rfl) (by simp)]
  unfold K.rdone
  by_cases h1 : b = 0
  · by_cases h2 : t = []
    · simp (disch := omega) [h1, h2, get_low, hg, hd]
    · simp (disch := omega) [h1, h2, get_low, hg, hd]
  · simp (disch := omega) [h1, get_low, hg, hd]

theorem rec_read (M : Mem) (R : Rec) (h1 : R.seats.length ≤ 30) (h2 : R.mems.length ≤ 20) (rw_ : Bool) (l : List (Nat × Con)) (hs : R.seats ≠ [] → mk l 52020 = some (.cells (R.seats.map (AV.int .i64)) rw_ true))
    (hm : R.mems ≠ [] → mk l 68020 = some (.cells (R.mems.flatMap mc) rw_ true)) : IsRec (mk l :: M) R (sW M.length R.seats) (mV M.length 68020 R.mems) := by
  unfold sW mV
  by_cases hS : R.seats = [] <;> by_cases hM : R.mems = []
  · rw [if_pos hS, if_pos hM]
    exact rec_topN hS hM
  · rw [if_pos hS, if_neg hM]
    exact rec_topM hS (hm hM) h2 rfl rfl rfl
  · rw [if_neg hS, if_pos hM]
    exact rec_topS hM (hs hS) h1 rfl rfl rfl
  · rw [if_neg hS, if_neg hM]
    exact rec_top (hs hS) (hm hM) h1 h2 rfl rfl rfl rfl rfl rfl

/-- The record that bytes are, and the reader behind it. -/
def getR (t : List UInt8) : Rec × K.Rd :=
  let a1 := K.rnum (t, 0)
  let a2 := K.rnum a1.2
  let b1 := K.rbelow 17 a2.2
  let b2 := K.rbelow 17 b1.2
  let b3 := K.rbelow 17 b2.2
  let b4 := K.rbelow 17 b3.2
  let g := K.rbelow 2 b4.2
  let n := K.rbelow 13 g.2
  let s := rseats n.1.toNat n.2
  let m := K.rbelow 13 s.2
  let ms := rmems m.1.toNat m.2
  (⟨a1.1, a2.1, b1.1, b2.1, b3.1, b4.1, decide (g.1 = 1), s.1, ms.1⟩, ms.2)

def zeroR : Rec := ⟨0#64, 0#64, 0, 0, 0, 0, false, [], []⟩

/-- What Get returns. -/
def getOut (D : Nat) (t : List UInt8) : AV × List Con :=
  if K.rdone (getR t).2 = 0 ∧ goodP (getR t).1 = true then
    (.tuple [recV (getR t).1 (.slice (some ⟨D, 0, (getR t).1.seats.length, 0⟩) (getR t).1.seats.length 1) (.slice (some ⟨D, 1, 3 * (getR t).1.mems.length, 0⟩) (getR t).1.mems.length 3), .int .i64 0],
      [.cells ((getR t).1.seats.map (AV.int .i64)) true true, .cells ((getR t).1.mems.flatMap mc) true true])
  else (.tuple [recV zeroR (.slice none 0 0) (.slice none 0 0), .int .i64 4], [])

theorem good_ne' {r : Rec} (h : goodP r = true) : r.seats ≠ [] ∧ r.mems ≠ [] := by
  simp only [goodP, Bool.and_eq_true] at h
  obtain ⟨h1, _, h3⟩ := h
  unfold sizesP at h1
  unfold seatsP at h3
  split at h1
  · cases h1
  rename_i hd
  split at h1
  · cases h1
  split at h1
  · cases h1
  have hl := of_decide_eq_true h1
  refine ⟨?_, fun hn => by rw [hn] at hl; simp at hl⟩
  intro hn
  have w1 : IntKind.wrap .i64 (r.data + 2) = r.data + 2 := IntWalk.i64_in _ (by omega)
  have w2 : IntKind.wrap .i64 (r.data + 2 + 1) = r.data + 2 + 1 := IntWalk.i64_in _ (by omega)
  rw [ite_not] at h3
  by_cases hA : (r.seats.length : Int) = (if r.growing then IntKind.wrap .i64 (IntKind.wrap .i64 (r.data + 2) + 1) else IntKind.wrap .i64 (r.data + 2))
  · rw [w1, w2, hn] at hA
    cases hg : r.growing <;> simp [hg] at hA <;> omega
  · rw [if_neg hA] at h3; cases h3

set_option maxHeartbeats 16000000 in
theorem get_ev (k : Nat) (M : Mem) (t : List UInt8) (ht : t.length < 2 ^ 48) :
    callFn SP (k + 7) 20 [.str t] M = some ((getOut M.length t).1, (getOut M.length t).2, M) := by
  unfold getOut getR
  simp only
  have hnew := fun s => K.new_ev (SP := SP) (n24 := 30) rfl (k + 5) (s :: ro M) t
  obtain ⟨c, r1, e1⟩ : ∃ c r, K.rnum (t, 0) = (c, r) := ⟨_, _, rfl⟩
  have g1 : r1.1.length < 2 ^ 48 := by have := K.rnum_len (t, 0); rw [e1] at this; exact Nat.lt_of_le_of_lt this ht
  have h1 := num_at (k + 2) M (t, 0) ht
  rw [e1] at h1 ⊢
  simp only at h1 ⊢
  obtain ⟨e, r2, e2⟩ : ∃ c r, K.rnum r1 = (c, r) := ⟨_, _, rfl⟩
  have g2 : r2.1.length < 2 ^ 48 := by have := K.rnum_len r1; rw [e2] at this; exact Nat.lt_of_le_of_lt this g1
  have h2 := num_at (k + 2) M r1 g1
  rw [e2] at h2 ⊢
  simp only at h2 ⊢
  obtain ⟨d, r3, e3⟩ : ∃ c r, K.rbelow 17 r2 = (c, r) := ⟨_, _, rfl⟩
  have g3 : r3.1.length < 2 ^ 48 := by have := rbelow_len 17 r2; rw [e3] at this; exact Nat.lt_of_le_of_lt this g2
  have h3 := below_at (k + 1) M 17 r2 g2
  rw [e3] at h3 ⊢
  simp only at h3 ⊢
  obtain ⟨sl, r4, e4⟩ : ∃ c r, K.rbelow 17 r3 = (c, r) := ⟨_, _, rfl⟩
  have g4 : r4.1.length < 2 ^ 48 := by have := rbelow_len 17 r3; rw [e4] at this; exact Nat.lt_of_le_of_lt this g3
  have h4 := below_at (k + 1) M 17 r3 g3
  rw [e4] at h4 ⊢
  simp only at h4 ⊢
  obtain ⟨mk_, r5, e5⟩ : ∃ c r, K.rbelow 17 r4 = (c, r) := ⟨_, _, rfl⟩
  have g5 : r5.1.length < 2 ^ 48 := by have := rbelow_len 17 r4; rw [e5] at this; exact Nat.lt_of_le_of_lt this g4
  have h5 := below_at (k + 1) M 17 r4 g4
  rw [e5] at h5 ⊢
  simp only at h5 ⊢
  obtain ⟨bu, r6, e6⟩ : ∃ c r, K.rbelow 17 r5 = (c, r) := ⟨_, _, rfl⟩
  have g6 : r6.1.length < 2 ^ 48 := by have := rbelow_len 17 r5; rw [e6] at this; exact Nat.lt_of_le_of_lt this g5
  have h6 := below_at (k + 1) M 17 r5 g5
  rw [e6] at h6 ⊢
  simp only at h6 ⊢
  obtain ⟨gr, r7, e7⟩ : ∃ c r, K.rbelow 2 r6 = (c, r) := ⟨_, _, rfl⟩
  have g7 : r7.1.length < 2 ^ 48 := by have := rbelow_len 2 r6; rw [e7] at this; exact Nat.lt_of_le_of_lt this g6
  have h7 := below_at (k + 1) M 2 r6 g6
  rw [e7] at h7 ⊢
  simp only at h7 ⊢
  obtain ⟨n, r8, e8⟩ : ∃ c r, K.rbelow 13 r7 = (c, r) := ⟨_, _, rfl⟩
  have g8 : r8.1.length < 2 ^ 48 := by have := rbelow_len 13 r7; rw [e8] at this; exact Nat.lt_of_le_of_lt this g7
  have h8 := below_at (k + 1) M 13 r7 g7
  have b8 := rbelow_lt 13 r7 (by omega) (by omega)
  rw [e8] at h8 b8 ⊢
  simp only at h8 b8 ⊢
  obtain ⟨N, rfl⟩ : ∃ N : Nat, n = N := ⟨n.toNat, by omega⟩
  rw [Int.toNat_natCast]
  have sn := rseats_n N r8
  have la := fun r => l13a (k + 1) M r N (by omega) N 0 (N + 1) [] r8 rfl g8 (by omega) (by omega)
  have g9 := Nat.lt_of_le_of_lt (rseats_len N r8) g8
  obtain ⟨S, r9, e9⟩ : ∃ c r, rseats N r8 = (c, r) := ⟨_, _, rfl⟩
  rw [e9] at la sn g9 ⊢
  simp only [List.nil_append] at la sn g9 ⊢
  obtain ⟨m, r10, e10⟩ : ∃ c r, K.rbelow 13 r9 = (c, r) := ⟨_, _, rfl⟩
  have g10 : r10.1.length < 2 ^ 48 := by have := rbelow_len 13 r9; rw [e10] at this; exact Nat.lt_of_le_of_lt this g9
  have h10 := below_at (k + 1) M 13 r9 g9
  have b10 := rbelow_lt 13 r9 (by omega) (by omega)
  rw [e10] at h10 b10 ⊢
  simp only at h10 b10 ⊢
  obtain ⟨Q, rfl⟩ : ∃ N : Nat, m = N := ⟨m.toNat, by omega⟩
  rw [Int.toNat_natCast]
  have sm := rmems_n Q r10
  have lb := fun r => l13b k M r S Q (by omega) Q 0 (Q + 1) [] r10 rfl g10 (by omega) (by omega)
  obtain ⟨Ms, r11, e11⟩ : ∃ c r, rmems Q r10 = (c, r) := ⟨_, _, rfl⟩
  rw [e11] at lb sm ⊢
  simp only [List.nil_append] at lb sm ⊢
  have hdone := done_at (k + 5) (ro M) r11 false true
  have hR := rec_read (ro M) ⟨c, e, d, sl, mk_, bu, decide (gr = 1), S, Ms⟩ (by simp only; omega) (by simp only; omega) false
  have hgood := fun l hs hm => good_ev (k + 2) (mk l :: ro M) _ _ _ (hR l hs hm)
  simp only [ro_length, List.length_cons] at hnew hdone hgood
  clear e1 e2 e3 e4 e5 e6 e7 e8 e9 e10 e11 hR
  have hperm : ∀ a b c l, mk ((0, a) :: (4004, b) :: (8000, c) :: l) = mk ((8000, c) :: (0, a) :: (4004, b) :: l) := by
    intro a b c l
    funext j
    simp only [mk]
    by_cases j1 : j = 0
    · subst j1; rfl
    · by_cases j2 : j = 4004
      · subst j2; rfl
      · by_cases j3 : j = 8000
        · subst j3; rfl
        · simp only [if_neg j1, if_neg j2, if_neg j3]
  simp only [rdC, K.rc] at h1 h2 h3 h4 h5 h6 h7 h8 h10 hdone hnew
  rw [call_fn (f := 20) (by rfl) (by simp)]
  simp (disch := first | omega | (simp; done) | (simp; omega)) [hnew, h1, h2, ro_length]
  have l0 : fgt a20_0 (rnd0 (some (e20_0 (P0 M 0) (.ptr (some ⟨M.length, 4004, 2, 0⟩)) (P0 M 8000) (.agg [.ptr (some ⟨M.length, 8000, 9, 2⟩), .ptr (some ⟨M.length, 8000, 9, 3⟩), .ptr (some ⟨M.length, 8000, 9, 4⟩), .ptr (some ⟨M.length, 8000, 9, 5⟩)]) (.int .i64 0),
      mk [(0, z9), (4004, rdC r2), (8000, rC ⟨c, e, 0, 0, 0, 0, false, [], []⟩ (.slice none 0 0) (.slice none 0 0))] :: M)) k20_0 (callFn SP (k + 6)) s20_b0 5) =
      some (.exit 0, x20_0 (P0 M 0) (.ptr (some ⟨M.length, 4004, 2, 0⟩)) (P0 M 8000), mk (L13 M.length ⟨c, e, d, sl, mk_, bu, false, [], []⟩ [] [] r6) :: M) := by
    simp only [P0, L13, rdC, rC, rcells, z9, mV, mB, sW, sB]
    rw [rnd0_some]
    conv => lhs; arg 2; arg 1; rw [s20_b0]
    simp (disch := first | omega | (simp; done) | (simp; omega)) [IntWalk.i64_in, h3, h4, h5, h6]
    rw [rnd0_some]
    conv => lhs; arg 2; arg 1; rw [s20_b0]
    simp (disch := first | omega | (simp; done) | (simp; omega)) [IntWalk.i64_in, h3, h4, h5, h6]
    rw [rnd0_some]
    conv => lhs; arg 2; arg 1; rw [s20_b0]
    simp (disch := first | omega | (simp; done) | (simp; omega)) [IntWalk.i64_in, h3, h4, h5, h6]
    rw [rnd0_some]
    conv => lhs; arg 2; arg 1; rw [s20_b0]
    simp (disch := first | omega | (simp; done) | (simp; omega)) [IntWalk.i64_in, h3, h4, h5, h6]
    rw [rnd0_some]
    conv => lhs; arg 2; arg 1; rw [s20_b0]
    simp (disch := first | omega | (simp; done) | (simp; omega)) [IntWalk.i64_in, h3, h4, h5, h6, hperm]
  rw [ev_loop 5 (by simp [P0, z9, rC, rcells, rdC]) l0 (by omega)]
  simp (disch := first | omega | (simp; done) | (simp; omega)) [L13, P0, z9, rC, rcells, rdC, sW, sB, mV, mB, h7, h8]
  rw [ev_loop (N + 1) (by simp [L13, P0, z9, rC, rcells, rdC, sW, sB, mV, mB]) (la ⟨c, e, d, sl, mk_, bu, decide (gr = 1), [], []⟩) (by omega)]
  by_cases hS : S = []
  · subst hS
    simp (disch := first | omega | (simp; done) | (simp; omega)) [L13, P0, z9, rC, rcells, rdC, sW, sB, mV, mB, h10]
    by_cases hM : Ms = []
    · subst hM
      rw [ev_loop (Q + 1) (by simp [L13, P0, z9, rC, rcells, rdC, sW, sB, mV, mB]) (lb ⟨c, e, d, sl, mk_, bu, decide (gr = 1), [], []⟩) (by omega)]
      have hgood' := hgood
      simp [recV, rcells, sW, mV] at hgood'
      have hml : ∀ Ms : List Mb, (Ms.flatMap mc).length = 3 * Ms.length := fun Ms => by rw [flat_len mc_len]; omega
      by_cases hd : K.rdone r11 = 0
      · cases hg : goodP ⟨c, e, d, sl, mk_, bu, decide (gr = 1), [], []⟩
        · rw [hg] at hgood'
          simp (disch := first | omega | (simp; done) | (simp; omega)) [L13, P0, z9, rC, rcells, rdC, sW, sB, mV, mB, hdone, hgood', hd, hg, hml, ro_length, recV, zeroR]
        · exact absurd rfl (good_ne' hg).1
      · simp (disch := first | omega | (simp; done) | (simp; omega)) [L13, P0, z9, rC, rcells, rdC, sW, sB, mV, mB, hdone, hd, hml, ro_length, recV, zeroR]
    · rw [ev_loop (Q + 1) (by simp [L13, P0, z9, rC, rcells, rdC, sW, sB, mV, mB]) (lb ⟨c, e, d, sl, mk_, bu, decide (gr = 1), [], []⟩) (by omega)]
      have hgood' := hgood
      simp [recV, rcells, sW, mV, hM] at hgood'
      have hml : ∀ Ms : List Mb, (Ms.flatMap mc).length = 3 * Ms.length := fun Ms => by rw [flat_len mc_len]; omega
      by_cases hd : K.rdone r11 = 0
      · cases hg : goodP ⟨c, e, d, sl, mk_, bu, decide (gr = 1), [], Ms⟩
        · rw [hg] at hgood'
          have hml := hml Ms; generalize hFF : Ms.flatMap mc = FF at *
          simp (disch := first | omega | (simp; done) | (simp; omega)) [L13, P0, z9, rC, rcells, rdC, sW, sB, mV, mB, hdone, hgood', hd, hg, hml, ro_length, recV, zeroR, hM, hFF, -List.flatMap_append]
        · exact absurd rfl (good_ne' hg).1
      · have hml := hml Ms; generalize hFF : Ms.flatMap mc = FF at *
        simp (disch := first | omega | (simp; done) | (simp; omega)) [L13, P0, z9, rC, rcells, rdC, sW, sB, mV, mB, hdone, hd, hml, ro_length, recV, zeroR, hM, hFF, -List.flatMap_append]
  · simp (disch := first | omega | (simp; done) | (simp; omega)) [L13, P0, z9, rC, rcells, rdC, sW, sB, mV, mB, h10, hS]
    by_cases hM : Ms = []
    · subst hM
      rw [ev_loop (Q + 1) (by simp [L13, P0, z9, rC, rcells, rdC, sW, sB, mV, mB, hS]) (lb ⟨c, e, d, sl, mk_, bu, decide (gr = 1), [], []⟩) (by omega)]
      have hgood' := hgood
      simp [recV, rcells, sW, mV, hS] at hgood'
      have hml : ∀ Ms : List Mb, (Ms.flatMap mc).length = 3 * Ms.length := fun Ms => by rw [flat_len mc_len]; omega
      by_cases hd : K.rdone r11 = 0
      · cases hg : goodP ⟨c, e, d, sl, mk_, bu, decide (gr = 1), S, []⟩
        · rw [hg] at hgood'
          simp (disch := first | omega | (simp; done) | (simp; omega)) [L13, P0, z9, rC, rcells, rdC, sW, sB, mV, mB, hdone, hgood', hd, hg, hml, ro_length, recV, zeroR, hS]
        · exact absurd rfl (good_ne' hg).2
      · simp (disch := first | omega | (simp; done) | (simp; omega)) [L13, P0, z9, rC, rcells, rdC, sW, sB, mV, mB, hdone, hd, hml, ro_length, recV, zeroR, hS]
    · rw [ev_loop (Q + 1) (by simp [L13, P0, z9, rC, rcells, rdC, sW, sB, mV, mB, hS]) (lb ⟨c, e, d, sl, mk_, bu, decide (gr = 1), [], []⟩) (by omega)]
      have hgood' := hgood
      simp [recV, rcells, sW, mV, hS, hM] at hgood'
      have hml : ∀ Ms : List Mb, (Ms.flatMap mc).length = 3 * Ms.length := fun Ms => by rw [flat_len mc_len]; omega
      by_cases hd : K.rdone r11 = 0
      · cases hg : goodP ⟨c, e, d, sl, mk_, bu, decide (gr = 1), S, Ms⟩
        · rw [hg] at hgood'
          have hml := hml Ms; generalize hFF : Ms.flatMap mc = FF at *
          simp (disch := first | omega | (simp; done) | (simp; omega)) [L13, P0, z9, rC, rcells, rdC, sW, sB, mV, mB, hdone, hgood', hd, hg, hml, ro_length, recV, zeroR, hS, hM, hFF, -List.flatMap_append]
        · rw [hg] at hgood'
          have hml := hml Ms; generalize hFF : Ms.flatMap mc = FF at *
          simp (disch := first | omega | (simp; done) | (simp; omega)) [L13, P0, z9, rC, rcells, rdC, sW, sB, mV, mB, hdone, hgood', hd, hg, hml, ro_length, recV, zeroR, hS, hM, hFF, -List.flatMap_append]
      · have hml := hml Ms; generalize hFF : Ms.flatMap mc = FF at *
        simp (disch := first | omega | (simp; done) | (simp; omega)) [L13, P0, z9, rC, rcells, rdC, sW, sB, mV, mB, hdone, hd, hml, ro_length, recV, zeroR, hS, hM, hFF, -List.flatMap_append]

end Go.Proofs.YtaennaoaoahjmaaDoor

namespace Go.Proofs.YtaennaoaoahjmaaDoor
open Go.Det

theorem be8_inj {x y : BitVec 64} (h : K.be8 x = K.be8 y) : x = y := by
  have := congrArg K.two h
  rwa [K.two_be8, K.two_be8] at this

theorem b8_inj {x y : Int} (hx : 0 ≤ x) (hx2 : x < 2 ^ 63) (hy : 0 ≤ y) (hy2 : y < 2 ^ 63) (h : b8 x = b8 y) : x = y := by
  have h1 := be8_inj h
  have h2 := congrArg BitVec.toNat h1
  rw [BitVec.toNat_ofInt, BitVec.toNat_ofInt] at h2
  omega

theorem app8 {a b c d : List UInt8} (h : a ++ b = c ++ d) (hl : a.length = c.length) : a = c ∧ b = d := List.append_inj h hl

def small (l : List Int) : Prop := ∀ x ∈ l, 0 ≤ x ∧ x < 2 ^ 63

theorem nums_inj : ∀ (l m : List Int) (a b : List UInt8), l.length = m.length → small l → small m → nums l ++ a = nums m ++ b → l = m ∧ a = b
  | [], [], a, b, _, _, _, h => ⟨rfl, h⟩
  | [], _ :: _, _, _, h, _, _, _ => by simp at h
  | _ :: _, [], _, _, h, _, _, _ => by simp at h
  | x :: l, y :: m, a, b, h, hl, hm, he => by
    have e1 : nums (x :: l) ++ a = b8 x ++ (nums l ++ a) := by simp [nums]
    have e2 : nums (y :: m) ++ b = b8 y ++ (nums m ++ b) := by simp [nums]
    rw [e1, e2] at he
    obtain ⟨h1, h2⟩ := app8 he (by rw [K.be8_len, K.be8_len])
    obtain ⟨k1, k2⟩ := nums_inj l m a b (by simpa using h) (fun z hz => hl z (by simp [hz])) (fun z hz => hm z (by simp [hz])) h2
    have hx := hl x (by simp)
    have hy := hm y (by simp)
    exact ⟨by rw [b8_inj hx.1 hx.2 hy.1 hy.2 h1, k1], k2⟩

theorem mTs_inj : ∀ (l m : List Mb), (∀ x ∈ l, x.st ≥ 0 ∧ x.st < 4 ∧ x.top.length = 32 ∧ x.log.length = 32) → (∀ x ∈ m, x.st ≥ 0 ∧ x.st < 4 ∧ x.top.length = 32 ∧ x.log.length = 32) → l.length = m.length → mTs l = mTs m → l = m
  | [], [], _, _, _, _ => rfl
  | [], _ :: _, _, _, h, _ => by simp at h
  | _ :: _, [], _, _, h, _ => by simp at h
  | x :: l, y :: m, hl, hm, h, he => by
    have hx := hl x (by simp)
    have hy := hm y (by simp)
    have e1 : mTs (x :: l) = b8 x.st ++ (K.be8 (BitVec.ofNat 64 x.top.length) ++ (x.top ++ (K.be8 (BitVec.ofNat 64 x.log.length) ++ (x.log ++ mTs l)))) := by simp [mTs, mT, et]
    have e2 : mTs (y :: m) = b8 y.st ++ (K.be8 (BitVec.ofNat 64 y.top.length) ++ (y.top ++ (K.be8 (BitVec.ofNat 64 y.log.length) ++ (y.log ++ mTs m)))) := by simp [mTs, mT, et]
    rw [e1, e2] at he
    obtain ⟨h1, he⟩ := app8 he (by rw [K.be8_len, K.be8_len])
    obtain ⟨_, he⟩ := app8 he (by rw [K.be8_len, K.be8_len])
    obtain ⟨h2, he⟩ := app8 he (by rw [hx.2.2.1, hy.2.2.1])
    obtain ⟨_, he⟩ := app8 he (by rw [K.be8_len, K.be8_len])
    obtain ⟨h3, he⟩ := app8 he (by rw [hx.2.2.2, hy.2.2.2])
    have h4 := b8_inj (by omega) (by omega) (by omega) (by omega) h1
    have ih := mTs_inj l m (fun z hz => hl z (by simp [hz])) (fun z hz => hm z (by simp [hz])) (by simpa using h) he
    rw [ih]
    cases x; cases y
    simp only at h2 h3 h4
    rw [h2, h3, h4]

/-- What a good record's numbers are. -/
structure Small (r : Rec) : Prop where
  data : 2 ≤ r.data ∧ r.data ≤ 8
  slots : 0 ≤ r.slots ∧ r.slots ≤ 16
  mark : 0 ≤ r.mark ∧ r.mark ≤ r.slots
  built : 0 ≤ r.built ∧ r.built ≤ r.slots
  seats : ∀ x ∈ r.seats, 0 ≤ x ∧ x < 2 ^ 63
  mems : ∀ m ∈ r.mems, m.st ≥ 0 ∧ m.st < 4 ∧ m.top.length = 32 ∧ m.log.length = 32
  nmem : r.mems.length ≤ 12

theorem sgo_small (n : Nat) (hn : n < 2 ^ 40) : ∀ (l seen s : List Int), sgo n l seen = some s → ∀ x ∈ l, 0 ≤ x ∧ x < 2 ^ 63
  | [], _, _, _, x, hx => by simp at hx
  | y :: l, seen, s, h, x, hx => by
    simp only [sgo] at h
    split at h
    · cases h
    · split at h
      · cases h
      · split at h
        · cases h
        · rcases List.mem_cons.1 hx with rfl | hx
          · omega
          · exact sgo_small n hn l _ s h x hx

theorem good_small {r : Rec} (h : goodP r = true) : Small r := by
  have hm := good_mems h
  simp only [goodP, Bool.and_eq_true] at h
  obtain ⟨h1, h2, h3⟩ := h
  unfold sizesP at h1
  split at h1
  · cases h1
  · split at h1
    · cases h1
    · split at h1
      · cases h1
      · rename_i a1 a2 a3
        simp only [decide_eq_true_eq] at h1
        have hf : four r.slots = true := by simpa using a2
        simp only [four, decide_eq_true_eq, List.mem_cons, List.not_mem_nil, or_false] at hf
        unfold seatsP at h3
        rw [ite_not] at h3
        by_cases hA : (r.seats.length : Int) = (if r.growing then IntKind.wrap .i64 (IntKind.wrap .i64 (r.data + 2) + 1) else IntKind.wrap .i64 (r.data + 2))
        · rw [if_pos hA] at h3
          cases hc : sgo r.mems.length r.seats [] with
          | none => rw [hc] at h3; cases h3
          | some s =>
            exact ⟨by omega, by omega, by omega, by omega, sgo_small _ (by omega) _ _ _ hc, hm, by omega⟩
        · rw [if_neg hA] at h3; cases h3

theorem putT_inj {r s : Rec} (hr : goodP r = true) (hs : goodP s = true) (hlr : r.seats.length ≤ 30) (hls : s.seats.length ≤ 30) (h : putT r = putT s) : r = s := by
  have a := good_small hr
  have b := good_small hs
  unfold putT at h
  simp only [List.append_assoc] at h
  obtain ⟨h1, h⟩ := app8 h (by rw [K.be8_len, K.be8_len])
  obtain ⟨h2, h⟩ := app8 h (by rw [K.be8_len, K.be8_len])
  have e1 : ∀ (r : Rec) (t : List UInt8), nums (head6 r ++ (r.seats ++ [(r.mems.length : Int)])) ++ t = nums (head6 r) ++ (nums r.seats ++ (nums [(r.mems.length : Int)] ++ t)) := fun r t => by simp [nums]
  rw [e1, e1] at h
  have hone : ∀ g, 0 ≤ one g ∧ one g ≤ 1 := fun g => by cases g <;> simp [one]
  have o1 := hone r.growing
  have o2 := hone s.growing
  have s1 : small (head6 r) := by
    have := a.data; have := a.slots; have := a.mark; have := a.built
    intro x hx
    simp only [head6, List.mem_cons, List.not_mem_nil, or_false] at hx
    omega
  have s2 : small (head6 s) := by
    have := b.data; have := b.slots; have := b.mark; have := b.built
    intro x hx
    simp only [head6, List.mem_cons, List.not_mem_nil, or_false] at hx
    omega
  obtain ⟨h3, h⟩ := nums_inj _ _ _ _ (by simp [head6]) s1 s2 h
  simp only [head6, List.cons.injEq, and_true] at h3
  obtain ⟨k1, k2, k3, k4, k5, k6⟩ := h3
  obtain ⟨h4, h⟩ := nums_inj _ _ _ _ (by omega) a.seats b.seats h
  have n1 := a.nmem
  have n2 := b.nmem
  have q1 : ∀ n : Nat, n ≤ 12 → small [(n : Int)] := fun n hn x hx => by
    rw [List.mem_singleton] at hx
    omega
  obtain ⟨h5, h⟩ := nums_inj [(r.mems.length : Int)] [(s.mems.length : Int)] _ _ rfl (q1 _ n1) (q1 _ n2) h
  simp only [List.cons.injEq, and_true] at h5
  have h6 := mTs_inj _ _ a.mems b.mems (by omega) h
  have k7 : r.growing = s.growing := by
    cases hg : r.growing <;> cases hg2 : s.growing <;> rw [hg, hg2] at k5 <;> first | rfl | exact absurd k5 (by decide)
  have h1 := be8_inj h1
  have h2 := be8_inj h2
  cases r; cases s
  simp only at *
  subst h1 h2 k1 k2 k3 k4 k7 h4 h6
  rfl

end Go.Proofs.YtaennaoaoahjmaaDoor

namespace Go.Proofs.YtaennaoaoahjmaaDoor
open Go.Det

/-! ### a reading that goes well does not look at what stands behind -/
def Ext {α : Type} (f : K.Rd → α × K.Rd) : Prop := ∀ t e v s, f (t, e) = (v, (s, 0)) → e = 0 ∧ ∀ b, f (t ++ b, 0) = (v, (s ++ b, 0))

def bnd {α β : Type} (f : K.Rd → α × K.Rd) (g : α → K.Rd → β × K.Rd) (r : K.Rd) : β × K.Rd := g (f r).1 (f r).2
def ret {α : Type} (v : α) (r : K.Rd) : α × K.Rd := (v, r)

theorem Ext_ret {α : Type} (v : α) : Ext (ret v) := by
  intro t e v' s h
  simp only [ret, Prod.mk.injEq] at h
  obtain ⟨rfl, rfl, rfl⟩ := h
  exact ⟨rfl, fun b => rfl⟩

theorem Ext_bnd {α β : Type} {f : K.Rd → α × K.Rd} {g : α → K.Rd → β × K.Rd} (hf : Ext f) (hg : ∀ v, Ext (g v)) : Ext (bnd f g) := by
  intro t e v s h
  unfold bnd at h
  obtain ⟨x, ⟨t1, e1⟩, he⟩ : ∃ x r, f (t, e) = (x, r) := ⟨_, _, rfl⟩
  rw [he] at h
  obtain ⟨h1, h2⟩ := hg x t1 e1 v s h
  subst h1
  obtain ⟨h3, h4⟩ := hf t e x t1 he
  refine ⟨h3, fun b => ?_⟩
  unfold bnd
  rw [h4 b]
  exact h2 b

theorem Ext_take (n : BitVec 64) : Ext (K.rtake n) := by
  intro t e v s h
  unfold K.rtake at h
  simp only at h
  by_cases he : e = 0
  · subst he
    refine ⟨rfl, fun b => ?_⟩
    simp only [if_true] at h
    by_cases hl : t.length < n.toNat
    · rw [if_pos hl] at h
      simp only [Prod.mk.injEq] at h
      exact absurd h.2.2 (by decide)
    · rw [if_neg hl] at h
      simp only [Prod.mk.injEq] at h
      obtain ⟨rfl, rfl, _⟩ := h
      unfold K.rtake
      simp only [if_true]
      rw [if_neg (by rw [List.length_append]; omega), List.take_append_of_le_length (by omega), List.drop_append_of_le_length (by omega)]
  · rw [if_neg he] at h
    simp only [Prod.mk.injEq] at h
    exact absurd h.2.2 he

theorem Ext_num : Ext K.rnum := by
  have h : K.rnum = bnd (K.rtake 8#64) (fun x => ret (if x = [] then 0 else K.two x)) := rfl
  rw [h]
  exact Ext_bnd (Ext_take _) fun _ => Ext_ret _

theorem Ext_text : Ext K.rtext := by
  have h : K.rtext = bnd K.rnum (fun x => K.rtake x) := rfl
  rw [h]
  exact Ext_bnd Ext_num fun _ => Ext_take _

theorem Ext_below (bound : Int) : Ext (K.rbelow bound) := by
  have h : K.rbelow bound = bnd K.rnum (fun x r => if r.2 = 0 then (if bound < 1 ∨ BitVec.ofInt 64 bound ≤ x then (0, (r.1, 4)) else (IntKind.wrap .i64 (x.toNat : Int), r)) else (0, r)) := rfl
  rw [h]
  refine Ext_bnd Ext_num fun x => ?_
  intro t e v s h
  simp only at h
  by_cases he : e = 0
  · subst he
    refine ⟨rfl, fun b => ?_⟩
    simp only [if_true] at h ⊢
    by_cases hb : bound < 1 ∨ BitVec.ofInt 64 bound ≤ x
    · rw [if_pos hb] at h
      simp only [Prod.mk.injEq] at h
      exact absurd h.2.2 (by decide)
    · rw [if_neg hb] at h ⊢
      simp only [Prod.mk.injEq] at h ⊢
      exact ⟨h.1, by rw [h.2.1], trivial⟩
  · rw [if_neg he] at h
    simp only [Prod.mk.injEq] at h
    exact absurd h.2.2 he

theorem Ext_rm : Ext rm := by
  have h : rm = bnd (K.rbelow 4) (fun a => bnd K.rtext fun b => bnd K.rtext fun c => ret ⟨a, b, c⟩) := rfl
  rw [h]
  exact Ext_bnd (Ext_below _) fun _ => Ext_bnd Ext_text fun _ => Ext_bnd Ext_text fun _ => Ext_ret _

theorem Ext_seats : ∀ n, Ext (rseats n)
  | 0 => Ext_ret []
  | n + 1 => by
    have h : rseats (n + 1) = bnd (K.rbelow 12) (fun a => bnd (rseats n) fun l => ret (a :: l)) := rfl
    rw [h]
    exact Ext_bnd (Ext_below _) fun _ => Ext_bnd (Ext_seats n) fun _ => Ext_ret _
theorem Ext_mems : ∀ n, Ext (rmems n)
  | 0 => Ext_ret []
  | n + 1 => by
    have h : rmems (n + 1) = bnd rm (fun a => bnd (rmems n) fun l => ret (a :: l)) := rfl
    rw [h]
    exact Ext_bnd Ext_rm fun _ => Ext_bnd (Ext_mems n) fun _ => Ext_ret _

/-- The reading of a record. -/
def getF : K.Rd → Rec × K.Rd :=
  bnd K.rnum fun c => bnd K.rnum fun e => bnd (K.rbelow 17) fun d => bnd (K.rbelow 17) fun s => bnd (K.rbelow 17) fun m => bnd (K.rbelow 17) fun b => bnd (K.rbelow 2) fun g =>
    bnd (K.rbelow 13) fun n => bnd (rseats n.toNat) fun S => bnd (K.rbelow 13) fun q => bnd (rmems q.toNat) fun Ms => ret ⟨c, e, d, s, m, b, decide (g = 1), S, Ms⟩
theorem getF_eq (t : List UInt8) : getR t = getF (t, 0) := rfl
theorem Ext_get : Ext getF :=
  Ext_bnd Ext_num fun _ => Ext_bnd Ext_num fun _ => Ext_bnd (Ext_below _) fun _ => Ext_bnd (Ext_below _) fun _ => Ext_bnd (Ext_below _) fun _ => Ext_bnd (Ext_below _) fun _ => Ext_bnd (Ext_below _) fun _ =>
    Ext_bnd (Ext_below _) fun _ => Ext_bnd (Ext_seats _) fun _ => Ext_bnd (Ext_below _) fun _ => Ext_bnd (Ext_mems _) fun _ => Ext_ret _

/-! ### what was written is read -/
def App {α : Type} (f : K.Rd → α × K.Rd) (t : List UInt8) (v : α) : Prop := ∀ b, f (t ++ b, 0) = (v, (b, 0))

theorem App_ret {α : Type} (v : α) : App (ret v) [] v := fun b => rfl
theorem App_bnd {α β : Type} {f : K.Rd → α × K.Rd} {g : α → K.Rd → β × K.Rd} {t u : List UInt8} {v : α} {w : β} (hf : App f t v) (hg : App (g v) u w) : App (bnd f g) (t ++ u) w := by
  intro b
  unfold bnd
  rw [List.append_assoc, hf]
  exact hg b

theorem App_num (n : BitVec 64) : App K.rnum (K.be8 n) n := fun b => K.rnum_app n b
theorem App_text (s : List UInt8) (h : s.length < 2 ^ 64) : App K.rtext (et s) s := fun b => K.rtext_app s b h
theorem App_below (bound x : Int) (h1 : 0 ≤ x) (h2 : x < bound) (h3 : bound < 2 ^ 60) : App (K.rbelow bound) (b8 x) x := by
  intro b
  have hx : (BitVec.ofInt 64 x).toNat = x.toNat := ofInt64_nat x h1 (by omega)
  unfold K.rbelow
  rw [show b8 x = K.be8 (BitVec.ofInt 64 x) from rfl, K.rnum_app]
  simp only [if_true]
  rw [if_neg, hx, IntWalk.i64_in _ (by omega)]
  · simp only [Prod.mk.injEq, and_true]
    omega
  · rw [not_or, BitVec.le_def, ofInt64_nat bound (by omega) h3, hx]
    omega

theorem App_rm (m : Mb) (h : m.st ≥ 0 ∧ m.st < 4 ∧ m.top.length = 32 ∧ m.log.length = 32) : App rm (mT m) m := by
  have e : rm = bnd (K.rbelow 4) (fun a => bnd K.rtext fun b => bnd K.rtext fun c => ret ⟨a, b, c⟩) := rfl
  have ht : mT m = b8 m.st ++ (et m.top ++ (et m.log ++ [])) := by simp [mT]
  rw [e, ht]
  exact App_bnd (App_below 4 _ (by omega) (by omega) (by omega)) (App_bnd (App_text _ (by omega)) (App_bnd (App_text _ (by omega)) (App_ret _)))

theorem App_seats : ∀ l : List Int, (∀ x ∈ l, 0 ≤ x ∧ x < 12) → App (rseats l.length) (nums l) l
  | [], _ => App_ret []
  | x :: l, h => by
    have e : rseats (x :: l).length = bnd (K.rbelow 12) (fun a => bnd (rseats l.length) fun l => ret (a :: l)) := rfl
    have ht : nums (x :: l) = b8 x ++ (nums l ++ []) := by simp [nums]
    rw [e, ht]
    have hx := h x (by simp)
    exact App_bnd (App_below 12 _ hx.1 hx.2 (by omega)) (App_bnd (App_seats l fun y hy => h y (by simp [hy])) (App_ret _))
theorem App_mems : ∀ l : List Mb, (∀ m ∈ l, m.st ≥ 0 ∧ m.st < 4 ∧ m.top.length = 32 ∧ m.log.length = 32) → App (rmems l.length) (mTs l) l
  | [], _ => App_ret []
  | x :: l, h => by
    have e : rmems (x :: l).length = bnd rm (fun a => bnd (rmems l.length) fun l => ret (a :: l)) := rfl
    have ht : mTs (x :: l) = mT x ++ (mTs l ++ []) := by simp [mTs]
    rw [e, ht]
    exact App_bnd (App_rm x (h x (by simp))) (App_bnd (App_mems l fun y hy => h y (by simp [hy])) (App_ret _))

theorem sgo_lt (n : Nat) (hn : n < 2 ^ 40) : ∀ (l seen s : List Int), sgo n l seen = some s → ∀ x ∈ l, 0 ≤ x ∧ x < n
  | [], _, _, _, x, hx => by simp at hx
  | y :: l, seen, s, h, x, hx => by
    simp only [sgo] at h
    split at h
    · cases h
    · split at h
      · cases h
      · split at h
        · cases h
        · rcases List.mem_cons.1 hx with rfl | hx
          · omega
          · exact sgo_lt n hn l _ s h x hx

theorem good_seats {r : Rec} (h : goodP r = true) : r.seats.length ≤ 11 ∧ ∀ x ∈ r.seats, 0 ≤ x ∧ x < 12 := by
  have hsm := good_small h
  simp only [goodP, Bool.and_eq_true] at h
  obtain ⟨h1, h2, h3⟩ := h
  have hd := hsm.data
  have hm := hsm.nmem
  unfold seatsP at h3
  rw [ite_not] at h3
  have w1 : IntKind.wrap .i64 (r.data + 2) = r.data + 2 := IntWalk.i64_in _ (by omega)
  have w2 : IntKind.wrap .i64 (r.data + 2 + 1) = r.data + 2 + 1 := IntWalk.i64_in _ (by omega)
  by_cases hA : (r.seats.length : Int) = (if r.growing then IntKind.wrap .i64 (IntKind.wrap .i64 (r.data + 2) + 1) else IntKind.wrap .i64 (r.data + 2))
  · rw [if_pos hA] at h3
    cases hc : sgo r.mems.length r.seats [] with
    | none => rw [hc] at h3; cases h3
    | some s =>
      refine ⟨?_, fun x hx => ?_⟩
      · rw [w1, w2] at hA
        cases hg : r.growing <;> rw [hg] at hA <;> simp at hA <;> omega
      · have := sgo_lt _ (by omega) _ _ _ hc x hx
        omega
  · rw [if_neg hA] at h3; cases h3

theorem App_get {r : Rec} (h : goodP r = true) : App getF (putT r) r := by
  have hs := good_small h
  have hq := good_seats h
  have hd := hs.data
  have h1 := hs.slots
  have h2 := hs.mark
  have h3 := hs.built
  have h4 := hs.nmem
  obtain ⟨c, e, d, s, m, b, g, S, Ms⟩ := r
  simp only at hd h1 h2 h3 h4 hq
  have ht : putT ⟨c, e, d, s, m, b, g, S, Ms⟩ = K.be8 c ++ (K.be8 e ++ (b8 d ++ (b8 s ++ (b8 m ++ (b8 b ++ (b8 (one g) ++ (b8 S.length ++ (nums S ++ (b8 Ms.length ++ (mTs Ms ++ [])))))))))) := by
    simp [putT, head6, nums]
  rw [ht]
  unfold getF
  have hone : 0 ≤ one g ∧ one g < 2 := by cases g <;> simp [one]
  have hg : decide (one g = 1) = g := by cases g <;> rfl
  refine App_bnd (App_num _) (App_bnd (App_num _) (App_bnd (App_below 17 _ (by omega) (by omega) (by omega)) (App_bnd (App_below 17 _ (by omega) (by omega) (by omega)) (App_bnd (App_below 17 _ (by omega) (by omega) (by omega))
    (App_bnd (App_below 17 _ (by omega) (by omega) (by omega)) (App_bnd (App_below 2 _ hone.1 hone.2 (by omega)) (App_bnd (App_below 13 _ (by omega) (by omega) (by omega)) ?_)))))))
  rw [Int.toNat_natCast]
  refine App_bnd (App_seats S hq.2) (App_bnd (App_below 13 _ (by omega) (by omega) (by omega)) ?_)
  rw [Int.toNat_natCast, hg]
  exact App_bnd (App_mems Ms hs.mems) (App_ret _)

/-- What was written is read back. -/
theorem get_put {r : Rec} (h : goodP r = true) : getR (putT r) = (r, ([], 0)) := by
  have := App_get h []
  rw [List.append_nil] at this
  rw [getF_eq]
  exact this
/-- Nothing is read of more. -/
theorem get_more {r : Rec} (h : goodP r = true) (x : UInt8) : K.rdone (getR (putT r ++ [x])).2 = 5 := by
  rw [getF_eq, App_get h [x]]
  rfl
/-- Nothing is read of fewer. -/
theorem get_cut {r : Rec} (h : goodP r = true) (p : Nat) (hp : p < (putT r).length) : K.rdone (getR ((putT r).take p)).2 ≠ 0 := by
  intro hd
  obtain ⟨v, ⟨s, e⟩, he⟩ : ∃ v q, getR ((putT r).take p) = (v, q) := ⟨_, _, rfl⟩
  rw [he] at hd
  unfold K.rdone at hd
  simp only at hd
  by_cases h0 : e = 0
  · subst h0
    simp only [if_true] at hd
    by_cases hs : s = []
    · subst hs
      rw [getF_eq] at he
      have h2 := (Ext_get _ _ _ _ he).2 ((putT r).drop p)
      rw [List.take_append_drop, ← getF_eq, get_put h] at h2
      simp only [List.nil_append, Prod.mk.injEq, and_true] at h2
      have := congrArg List.length h2.2
      rw [List.length_drop] at this
      simp at this
      omega
    · rw [if_neg hs] at hd
      exact absurd hd (by decide)
  · rw [if_neg h0] at hd
    exact h0 hd

theorem mTs_len : ∀ l : List Mb, (∀ m ∈ l, m.st ≥ 0 ∧ m.st < 4 ∧ m.top.length = 32 ∧ m.log.length = 32) → (mTs l).length = 88 * l.length
  | [], _ => rfl
  | x :: l, h => by
    have hx := h x (by simp)
    have ih := mTs_len l fun y hy => h y (by simp [hy])
    have ht : mTs (x :: l) = mT x ++ mTs l := by simp [mTs]
    rw [ht, List.length_append, ih]
    have : (mT x).length = 88 := by simp [mT, et, b8, K.be8_len, hx.2.2.1, hx.2.2.2]
    rw [this, List.length_cons]
    omega

theorem putT_len {r : Rec} (h : goodP r = true) : 0 < (putT r).length ∧ (putT r).length ≤ 2048 := by
  have h1 := good_seats h
  have h2 := good_small h
  have h3 := h2.nmem
  have h4 : (putT r).length = 16 + 8 * (6 + r.seats.length + 1) + 88 * r.mems.length := by
    simp only [putT, List.length_append, K.be8_len, nums_len, mTs_len _ h2.mems, head6, List.length_cons, List.length_nil]
  omega

end Go.Proofs.YtaennaoaoahjmaaDoor

namespace Go.Proofs.YtaennaoaoahjmaaDoor
open Go.Det

end Go.Proofs.YtaennaoaoahjmaaDoor

namespace Go.Proofs.YtaennaoaoahjmaaDoor
open Go.Det

/-- The next number, if it isn't above 100; else -1. -/
def xsmall (S : List UInt8) (x : K.Xd) : Int × K.Xd := (if 100#64 < (K.xnum S x).1 then -1 else (((K.xnum S x).1).toNat : Int), (K.xnum S x).2)

theorem xsmall_le (S : List UInt8) (x : K.Xd) (h : x.1 ≤ S.length) : (xsmall S x).2.1 ≤ S.length := K.xnum_le S x h
theorem xsmall_lt (S : List UInt8) (x : K.Xd) : -1 ≤ (xsmall S x).1 ∧ (xsmall S x).1 ≤ 100 := by
  unfold xsmall
  simp only
  split
  · omega
  · rename_i h
    rw [BitVec.lt_def] at h
    simp at h
    omega

theorem number_e (k : Nat) (M : Mem) (S : List UInt8) (x : K.Xd) (d id : Nat) (fl : Bool) (hd : d < M.length) (hx : x.1 ≤ S.length) (hl : S.length < 2 ^ 48) (hg : ∀ o, get M ⟨d, id, 3, o⟩ = some (K.xc S x.1 x.2 fl)) :
    callFn SP (k + 1) 35 [.ptr (some ⟨d, id, 3, 0⟩)] M = some (u64 (K.xnum S x).1, [], put M d id (K.xc S (K.xnum S x).2.1 (K.xnum S x).2.2 fl)) :=
  K.number_ev (SP := SP) (n29 := 35) rfl k M S x d id fl hd hx hl hg
theorem words_e (k : Nat) (M : Mem) (S : List UInt8) (x : K.Xd) (d id : Nat) (fl : Bool) (hd : d < M.length) (hx : x.1 ≤ S.length) (hl : S.length < 2 ^ 48) (hg : ∀ o, get M ⟨d, id, 3, o⟩ = some (K.xc S x.1 x.2 fl)) :
    callFn SP (k + 2) 36 [.ptr (some ⟨d, id, 3, 0⟩)] M = some (.str (K.xwords S x).1, [], put M d id (K.xc S (K.xwords S x).2.1 (K.xwords S x).2.2 fl)) :=
  K.refwords_ev (SP := SP) (n29 := 35) (n32 := 36) rfl rfl k M S x d id fl hd hx hl hg
theorem small_e (k : Nat) (M : Mem) (S : List UInt8) (x : K.Xd) (d id : Nat) (fl : Bool) (hd : d < M.length) (hx : x.1 ≤ S.length) (hl : S.length < 2 ^ 48) (hg : ∀ o, get M ⟨d, id, 3, o⟩ = some (K.xc S x.1 x.2 fl)) :
    callFn SP (k + 2) 43 [.ptr (some ⟨d, id, 3, 0⟩)] M = some (.int .i64 (xsmall S x).1, [], put M d id (K.xc S (xsmall S x).2.1 (xsmall S x).2.2 fl)) := by
  have ht := number_e k (mk [] :: M) S x d id fl (by simp; omega) hx hl (fun o => by rw [get_low (by exact hd)]; exact hg o)
  rw [put_low hd] at ht
  rw [call_fn (f := 43) (by rfl) (by simp)]
  unfold xsmall
  generalize K.xnum S x = q at *
  obtain ⟨n, r⟩ := q
  simp only at ht ⊢
  by_cases h : 100#64 < n
  · simp [ht, h]
  · have hw : IntKind.wrap .i64 (n.toNat : Int) = n.toNat := by
      rw [BitVec.lt_def] at h
      simp at h
      exact IntWalk.i64_in _ (by omega)
    simp [ht, h, hw]

theorem number_at (k : Nat) (M : Mem) (S : List UInt8) (x : K.Xd) (hx : x.1 ≤ S.length) (hl : S.length < 2 ^ 48) : ∀ l, mk l 4008 = some (K.xc S x.1 x.2 true) →
    callFn SP (k + 1) 35 [.ptr (some ⟨M.length, 4008, 3, 0⟩)] (mk l :: M) = some (u64 (K.xnum S x).1, [], mk (ups 4008 (K.xc S (K.xnum S x).2.1 (K.xnum S x).2.2 true) l) :: M) := by
  intro l h
  have := number_e k (mk l :: M) S x M.length 4008 true (by simp) hx hl (fun o => by rw [get_top, h]; rfl)
  rwa [put_top, setAt_mk] at this
theorem words_at (k : Nat) (M : Mem) (S : List UInt8) (x : K.Xd) (hx : x.1 ≤ S.length) (hl : S.length < 2 ^ 48) : ∀ l, mk l 4008 = some (K.xc S x.1 x.2 true) →
    callFn SP (k + 2) 36 [.ptr (some ⟨M.length, 4008, 3, 0⟩)] (mk l :: M) = some (.str (K.xwords S x).1, [], mk (ups 4008 (K.xc S (K.xwords S x).2.1 (K.xwords S x).2.2 true) l) :: M) := by
  intro l h
  have := words_e k (mk l :: M) S x M.length 4008 true (by simp) hx hl (fun o => by rw [get_top, h]; rfl)
  rwa [put_top, setAt_mk] at this
theorem small_at (k : Nat) (M : Mem) (S : List UInt8) (x : K.Xd) (hx : x.1 ≤ S.length) (hl : S.length < 2 ^ 48) : ∀ l, mk l 4008 = some (K.xc S x.1 x.2 true) →
    callFn SP (k + 2) 43 [.ptr (some ⟨M.length, 4008, 3, 0⟩)] (mk l :: M) = some (.int .i64 (xsmall S x).1, [], mk (ups 4008 (K.xc S (xsmall S x).2.1 (xsmall S x).2.2 true) l) :: M) := by
  intro l h
  have := small_e k (mk l :: M) S x M.length 4008 true (by simp) hx hl (fun o => by rw [get_top, h]; rfl)
  rwa [put_top, setAt_mk] at this

/-- Seats, a member, members, as they are read. -/
def xseats (S : List UInt8) : Nat → K.Xd → List Int × K.Xd
  | 0, x => ([], x)
  | n + 1, x => ((xsmall S x).1 :: (xseats S n (xsmall S x).2).1, (xseats S n (xsmall S x).2).2)
def xm (S : List UInt8) (x : K.Xd) : Mb × K.Xd := (⟨(xsmall S x).1, (K.xwords S (xsmall S x).2).1, (K.xwords S (K.xwords S (xsmall S x).2).2).1⟩, (K.xwords S (K.xwords S (xsmall S x).2).2).2)
def xmems (S : List UInt8) : Nat → K.Xd → List Mb × K.Xd
  | 0, x => ([], x)
  | n + 1, x => ((xm S x).1 :: (xmems S n (xm S x).2).1, (xmems S n (xm S x).2).2)
theorem xm_le (S : List UInt8) (x : K.Xd) (h : x.1 ≤ S.length) : (xm S x).2.1 ≤ S.length := K.xwords_le S _ (K.xwords_le S _ (xsmall_le S x h))
theorem xseats_le (S : List UInt8) : ∀ (n : Nat) (x : K.Xd), x.1 ≤ S.length → (xseats S n x).2.1 ≤ S.length
  | 0, x, h => h
  | n + 1, x, h => xseats_le S n _ (xsmall_le S x h)
theorem xmems_le (S : List UInt8) : ∀ (n : Nat) (x : K.Xd), x.1 ≤ S.length → (xmems S n x).2.1 ≤ S.length
  | 0, x, h => h
  | n + 1, x, h => xmems_le S n _ (xm_le S x h)
theorem xseats_n (S : List UInt8) : ∀ (n : Nat) (x : K.Xd), (xseats S n x).1.length = n
  | 0, x => rfl
  | n + 1, x => by simp [xseats, xseats_n S n]
theorem xmems_n (S : List UInt8) : ∀ (n : Nat) (x : K.Xd), (xmems S n x).1.length = n
  | 0, x => rfl
  | n + 1, x => by simp [xmems, xmems_n S n]

/-- The seats that were read; the block they lie in. -/
def tW (D : Nat) (l : List Int) : AV := if l = [] then .slice none 0 0 else .slice (some ⟨D, 64016, l.length, 0⟩) l.length 1
def tB (l : List Int) : List (Nat × Con) := if l = [] then [] else [(64016, .cells (l.map (AV.int .i64)) true true)]
def xdC (S : List UInt8) (x : K.Xd) : Con := .cells [.str S, .int .i64 x.1, .int .i64 x.2] true true

/-- The scope of the document's Get, under way. -/
def L21 (D : Nat) (S : List UInt8) (r : Rec) (T : List Int) (Ms : List Mb) (x : K.Xd) : List (Nat × Con) :=
  (0, z9) :: (4008, xdC S x) :: (8000, rC r (tW D T) (mV D 100016 Ms)) :: (tB T ++ mB 100016 Ms)

set_option maxHeartbeats 4000000 in
theorem l21a (k : Nat) (M : Mem) (S : List UInt8) (hS : S.length < 2 ^ 48) (r : Rec) (N : Int) (hN : N ≤ 100) (j : Nat) : ∀ (i n : Nat) (T : List Int) (x : K.Xd), T.length = i → x.1 ≤ S.length → (N.toNat = i + j) → j < n →
    fgt a21_0 (rnd0 (some (e21_0 (.str S) (P0 M 0) (.ptr (some ⟨M.length, 4008, 3, 0⟩)) (P0 M 8000) (.int .i64 N) (.int .i64 i), mk (L21 M.length S r T [] x) :: M)) k21_0 (callFn SP (k + 2)) s21_b0 n) =
      some (.exit 0, x21_0 (.str S) (P0 M 0) (.ptr (some ⟨M.length, 4008, 3, 0⟩)) (P0 M 8000), mk (L21 M.length S r (T ++ (xseats S j x).1) [] (xseats S j x).2) :: M) := by
  induction j with
  | zero =>
    intro i n T x hT hx h hn
    have hi : ¬ (i : Int) < N := by omega
    rw [rnd0_some]
    conv => lhs; arg 2; arg 1; rw [s21_b0]
    simp only [xseats, List.append_nil]
    by_cases hs : T = []
    · simp [hi, L21, P0, z9, rC, rcells, tW, tB, mV, mB, hs, xdC]
    · simp [hi, L21, P0, z9, rC, rcells, tW, tB, mV, mB, hs, xdC]
  | succ j ih0 =>
    intro i n T x hT hx h hn
    obtain ⟨n, rfl⟩ : ∃ m, n = m + 1 := ⟨n - 1, by omega⟩
    have hi : (i : Int) < N := by omega
    have hi2 : i ≤ 100 := by omega
    have ih := ih0 (i + 1) n (T ++ [(xsmall S x).1]) (xsmall S x).2 (by simp [hT]) (xsmall_le S x hx) (by omega) (by omega)
    have hb := small_at k M S x hx hS
    rw [List.append_assoc, List.singleton_append] at ih
    simp only [xseats]
    generalize (xseats S j (xsmall S x).2).1 = SS at ih ⊢
    generalize (xseats S j (xsmall S x).2).2 = RR at ih ⊢
    generalize xsmall S x = q at *
    obtain ⟨y, a, b⟩ := q
    obtain ⟨xa, xb⟩ := x
    simp only at ih hb ⊢
    have wi : IntKind.wrap .i64 ((i : Int) + 1) = (i : Int) + 1 := IntWalk.i64_in _ (by omega)
    have w1 : IntKind.wrap .i64 1 = 1 := by decide
    rw [rnd0_some]
    conv => lhs; arg 2; arg 1; rw [s21_b0]
    generalize hR : mk (L21 M.length S r (T ++ y :: SS) [] RR) = RM at ih ⊢
    by_cases hs : T = []
    · subst hs
      simp only [List.length_nil] at hT
      subst hT
      simp only [xdC, K.xc] at hb ih ⊢
      simpa (disch := first | omega | (simp; done) | (simp; omega)) [hi, hb, if_pos, wi, w1, L21, P0, z9, rC, rcells, tW, tB, mV, mB, xdC] using ih
    · subst hT
      simp only [xdC, K.xc] at hb ih ⊢
      simpa (disch := first | omega | (simp; done) | (simp; omega)) [hi, hb, if_pos, wi, w1, L21, P0, z9, rC, rcells, tW, tB, mV, mB, xdC, hs] using ih

end Go.Proofs.YtaennaoaoahjmaaDoor

namespace Go.Proofs.YtaennaoaoahjmaaDoor
open Go.Det

set_option maxHeartbeats 8000000 in
theorem l21b (k : Nat) (M : Mem) (S : List UInt8) (hS : S.length < 2 ^ 48) (r : Rec) (T : List Int) (N : Int) (hN : N ≤ 100) (j : Nat) : ∀ (i n : Nat) (Ms : List Mb) (x : K.Xd), Ms.length = i → x.1 ≤ S.length → (N.toNat = i + j) → j < n →
    fgt a21_1 (rnd0 (some (e21_1 (.str S) (P0 M 0) (.ptr (some ⟨M.length, 4008, 3, 0⟩)) (P0 M 8000) (.int .i64 N) (.int .i64 i), mk (L21 M.length S r T Ms x) :: M)) k21_1 (callFn SP (k + 2)) s21_b1 n) =
      some (.exit 2, x21_1 (.str S) (P0 M 0) (P0 M 8000), mk ((0, z9) :: (8000, rC r (tW M.length T) (mV M.length 100016 (Ms ++ (xmems S j x).1))) :: (tB T ++ mB 100016 (Ms ++ (xmems S j x).1))) :: M) := by
  induction j with
  | zero =>
    intro i n Ms x hT hx h hn
    have hi : ¬ (i : Int) < N := by omega
    rw [rnd0_some]
    conv => lhs; arg 2; arg 1; rw [s21_b1]
    simp only [xmems, List.append_nil]
    by_cases hs : T = [] <;> by_cases hm : Ms = []
    · simp [hi, L21, P0, z9, rC, rcells, tW, tB, mV, mB, hs, hm, xdC]
    · simp [hi, L21, P0, z9, rC, rcells, tW, tB, mV, mB, hs, hm, xdC]
    · simp [hi, L21, P0, z9, rC, rcells, tW, tB, mV, mB, hs, hm, xdC]
    · simp [hi, L21, P0, z9, rC, rcells, tW, tB, mV, mB, hs, hm, xdC]
  | succ j ih0 =>
    intro i n Ms x hT hx h hn
    obtain ⟨n, rfl⟩ : ∃ m, n = m + 1 := ⟨n - 1, by omega⟩
    have hi : (i : Int) < N := by omega
    have hi2 : i ≤ 100 := by omega
    have l1 := xsmall_le S x hx
    have l2 := K.xwords_le S _ l1
    have l3 := K.xwords_le S _ l2
    have ih := ih0 (i + 1) n (Ms ++ [(xm S x).1]) (xm S x).2 (by simp [hT]) (xm_le S x hx) (by omega) (by omega)
    have h1 := small_at k M S x hx hS
    have h2 := words_at k M S (xsmall S x).2 l1 hS
    have h3 := words_at k M S (K.xwords S (xsmall S x).2).2 l2 hS
    rw [List.append_assoc, List.singleton_append] at ih
    simp only [xmems]
    generalize (xmems S j (xm S x).2).1 = SS at ih ⊢
    simp only [xm] at ih ⊢
    clear ih0 l1 l2 l3
    generalize xsmall S x = q at *
    obtain ⟨y1, a1, b1⟩ := q
    simp only at h1 h2 h3 ih ⊢
    generalize K.xwords S (a1, b1) = q at *
    obtain ⟨y2, a2, b2⟩ := q
    simp only at h1 h2 h3 ih ⊢
    generalize K.xwords S (a2, b2) = q at *
    obtain ⟨y3, a3, b3⟩ := q
    obtain ⟨xa, xb⟩ := x
    simp only at h1 h2 h3 ih ⊢
    have wi : IntKind.wrap .i64 ((i : Int) + 1) = (i : Int) + 1 := IntWalk.i64_in _ (by omega)
    have w1 : IntKind.wrap .i64 1 = 1 := by decide
    have hml : (Ms.flatMap mc).length = 3 * Ms.length := by rw [flat_len mc_len]; omega
    have hfa : ∀ x, (Ms ++ [x]).flatMap mc = Ms.flatMap mc ++ mc x := fun x => by simp
    rw [rnd0_some]
    conv => lhs; arg 2; arg 1; rw [s21_b1]
    generalize hR : some (Ex.exit 2, x21_1 (.str S) (P0 M 0) (P0 M 8000), _) = RM at ih ⊢
    clear hR
    by_cases hs : T = [] <;> by_cases hm : Ms = []
    · subst hs hm
      simp only [List.length_nil] at hT
      subst hT
      simp only [xdC, K.xc] at h1 h2 h3 ih ⊢
      simpa (disch := first | omega | (simp; done) | (simp; omega)) [hi, h1, h2, h3, if_pos, wi, w1, L21, P0, z9, rC, rcells, tW, tB, mV, mB, mc, rep, xdC] using ih
    · subst hs hT
      simp only [xdC, K.xc] at h1 h2 h3 ih ⊢
      generalize hFF : Ms.flatMap mc = FF at *
      simpa (disch := first | omega | (simp; done) | (simp; omega)) [-List.flatMap_append, hi, h1, h2, h3, if_pos, wi, w1, L21, P0, z9, rC, rcells, tW, tB, mV, mB, mc, rep, xdC, hm, hFF, hml, hfa, Nat.mul_add] using ih
    · subst hm
      simp only [List.length_nil] at hT
      subst hT
      simp only [xdC, K.xc] at h1 h2 h3 ih ⊢
      simpa (disch := first | omega | (simp; done) | (simp; omega)) [hi, h1, h2, h3, if_pos, wi, w1, L21, P0, z9, rC, rcells, tW, tB, mV, mB, mc, rep, xdC, hs] using ih
    · subst hT
      simp only [xdC, K.xc] at h1 h2 h3 ih ⊢
      generalize hFF : Ms.flatMap mc = FF at *
      simpa (disch := first | omega | (simp; done) | (simp; omega)) [-List.flatMap_append, hi, h1, h2, h3, if_pos, wi, w1, L21, P0, z9, rC, rcells, tW, tB, mV, mB, mc, rep, xdC, hs, hm, hFF, hml, hfa, Nat.mul_add] using ih

end Go.Proofs.YtaennaoaoahjmaaDoor

namespace Go.Proofs.YtaennaoaoahjmaaDoor
open Go.Det

/-! ### eight bytes are those of their number -/
theorem u8_eq {a b : UInt8} (h : a.toNat = b.toNat) : a = b := UInt8.toNat_inj.1 h

theorem by4_wd (a b c d : UInt8) : W.by4 true (W.wd d c b a) = [a, b, c, d] := by
  have ha := a.toNat_lt
  have hb := b.toNat_lt
  have hc := c.toNat_lt
  have hd := d.toNat_lt
  have hw := W.wd_nat d c b a
  simp only [W.by4, if_true]
  have e1 : low8 (W.wd d c b a >>> 24) = a := u8_eq (by rw [W.low_w8, hw]; omega)
  have e2 : low8 (W.wd d c b a >>> 16) = b := u8_eq (by rw [W.low_w8, hw]; omega)
  have e3 : low8 (W.wd d c b a >>> 8) = c := u8_eq (by rw [W.low_w8, hw]; omega)
  have e4 : low8 (W.wd d c b a) = d := u8_eq (by rw [low8_toNat, hw]; omega)
  rw [e1, e2, e3, e4]

theorem be8_two : ∀ l : List UInt8, l.length = 8 → K.be8 (K.two l) = l
  | [a, b, c, d, e, f, g, h], _ => by
    have e1 : (K.two [a, b, c, d, e, f, g, h] >>> 32).setWidth 32 = W.wd d c b a := by
      apply BitVec.eq_of_toNat_eq
      have h0 := (W.wd d c b a).isLt
      have h1 := (W.wd h g f e).isLt
      rw [BitVec.toNat_setWidth, BitVec.toNat_ushiftRight, Nat.shiftRight_eq_div_pow, K.two_nat]
      show ((W.wd d c b a).toNat * 4294967296 + (W.wd h g f e).toNat) / 2 ^ 32 % 2 ^ 32 = _
      omega
    have e2 : (K.two [a, b, c, d, e, f, g, h]).setWidth 32 = W.wd h g f e := by
      apply BitVec.eq_of_toNat_eq
      have h0 := (W.wd d c b a).isLt
      have h1 := (W.wd h g f e).isLt
      rw [BitVec.toNat_setWidth, K.two_nat]
      show ((W.wd d c b a).toNat * 4294967296 + (W.wd h g f e).toNat) % 2 ^ 32 = _
      omega
    rw [K.be8, e1, e2, W.tx, W.tx, W.tx, by4_wd, by4_wd]
    rfl

/-! ### a reading that goes well is the document's, and what was read is what stood there -/
def Rds {α : Type} (f g : K.Rd → α × K.Rd) (W : α → List UInt8 → Prop) : Prop := ∀ t e v s, f (t, e) = (v, (s, 0)) → e = 0 ∧ g (t, 0) = (v, (s, 0)) ∧ ∃ u, t = u ++ s ∧ W v u

theorem Rds_ret {α : Type} (v : α) : Rds (ret v) (ret v) (fun w u => w = v ∧ u = []) := by
  intro t e v' s h
  simp only [ret, Prod.mk.injEq] at h
  obtain ⟨rfl, rfl, rfl⟩ := h
  exact ⟨rfl, rfl, [], rfl, rfl, rfl⟩

theorem Rds_bnd {α β : Type} {f f' : K.Rd → α × K.Rd} {g g' : α → K.Rd → β × K.Rd} {W : α → List UInt8 → Prop} {V : α → β → List UInt8 → Prop} (hf : Rds f f' W) (hg : ∀ v, Rds (g v) (g' v) (V v)) :
    Rds (bnd f g) (bnd f' g') (fun w u => ∃ v u1 u2, u = u1 ++ u2 ∧ W v u1 ∧ V v w u2) := by
  intro t e w s h
  unfold bnd at h
  obtain ⟨x, ⟨t1, e1⟩, he⟩ : ∃ x r, f (t, e) = (x, r) := ⟨_, _, rfl⟩
  rw [he] at h
  obtain ⟨h0, k1, u2, k2, k3⟩ := hg x t1 e1 w s h
  subst h0
  obtain ⟨h0, j1, u1, j2, j3⟩ := hf t e x t1 he
  refine ⟨h0, ?_, u1 ++ u2, by rw [j2, k2, List.append_assoc], x, u1, u2, rfl, j3, k3⟩
  unfold bnd
  rw [j1]
  exact k1

theorem Rds_mono {α : Type} {f g : K.Rd → α × K.Rd} {W V : α → List UInt8 → Prop} (h : Rds f g W) (hv : ∀ v u, W v u → V v u) : Rds f g V := by
  intro t e v s hs
  obtain ⟨h0, h1, u, h2, h3⟩ := h t e v s hs
  exact ⟨h0, h1, u, h2, hv _ _ h3⟩

theorem take_parts (n : BitVec 64) (t : List UInt8) (v s : List UInt8) (h : K.rtake n (t, 0) = (v, (s, 0))) : t = v ++ s ∧ v.length = n.toNat := by
  unfold K.rtake at h
  simp only [if_true] at h
  by_cases hl : t.length < n.toNat
  · rw [if_pos hl] at h
    simp only [Prod.mk.injEq] at h
    exact absurd h.2.2 (by decide)
  · rw [if_neg hl] at h
    simp only [Prod.mk.injEq] at h
    obtain ⟨rfl, rfl, _⟩ := h
    exact ⟨(List.take_append_drop _ _).symm, by rw [List.length_take]; omega⟩

theorem Rds_num : Rds K.rnum K.rnum (fun n u => u = K.be8 n) := by
  intro t e v s h
  have h0 := (Ext_num t e v s h).1
  subst h0
  refine ⟨rfl, h, K.be8 v, ?_, rfl⟩
  unfold K.rnum at h
  obtain ⟨x, r, hx⟩ : ∃ x r, K.rtake 8#64 (t, 0) = (x, r) := ⟨_, _, rfl⟩
  rw [hx] at h
  simp only [Prod.mk.injEq] at h
  obtain ⟨h1, rfl⟩ := h
  obtain ⟨h2, h3⟩ := take_parts 8#64 t x s hx
  have hl : x.length = 8 := h3
  have hne : x ≠ [] := fun hh => by rw [hh] at hl; cases hl
  rw [if_neg hne] at h1
  rw [← h1, be8_two x hl]
  exact h2

theorem Rds_text : Rds K.rtext K.rtext (fun v u => u = et v) := by
  intro t e v s h
  have h0 := (Ext_text t e v s h).1
  subst h0
  refine ⟨rfl, h, et v, ?_, rfl⟩
  unfold K.rtext at h
  obtain ⟨n, ⟨t1, e1⟩, hn⟩ : ∃ n r, K.rnum (t, 0) = (n, r) := ⟨_, _, rfl⟩
  rw [hn] at h
  simp only at h
  have h1 := (Ext_take n t1 e1 v s h).1
  subst h1
  obtain ⟨_, _, u, hu1, rfl⟩ := Rds_num t 0 n t1 hn
  obtain ⟨h2, h3⟩ := take_parts n t1 v s h
  rw [hu1, h2, et, List.append_assoc, h3]
  congr 2
  apply BitVec.eq_of_toNat_eq
  rw [BitVec.toNat_ofNat, Nat.mod_eq_of_lt n.isLt]

/-- The next number, if it isn't above 100. -/
def rsm (r : K.Rd) : Int × K.Rd := (if 100#64 < (K.rnum r).1 then -1 else (((K.rnum r).1).toNat : Int), (K.rnum r).2)

theorem Rds_below (b : Int) (hb : b ≤ 101) : Rds (K.rbelow b) rsm (fun x u => u = b8 x ∧ 0 ≤ x ∧ x < b) := by
  intro t e v s h
  have h0 := (Ext_below b t e v s h).1
  subst h0
  unfold K.rbelow at h
  obtain ⟨n, ⟨t1, e1⟩, hn⟩ : ∃ n r, K.rnum (t, 0) = (n, r) := ⟨_, _, rfl⟩
  rw [hn] at h
  simp only at h
  by_cases h1 : e1 = 0
  · subst h1
    simp only [if_true] at h
    by_cases h2 : b < 1 ∨ BitVec.ofInt 64 b ≤ n
    · rw [if_pos h2] at h
      simp only [Prod.mk.injEq] at h
      exact absurd h.2.2 (by decide)
    · rw [if_neg h2] at h
      simp only [Prod.mk.injEq, and_true] at h
      obtain ⟨hv, rfl⟩ := h
      rw [not_or] at h2
      have h3 := h2.2
      rw [BitVec.le_def, ofInt64_nat b (by omega) (by omega)] at h3
      rw [IntWalk.i64_in _ (by omega)] at hv
      subst hv
      obtain ⟨_, _, u, hu1, rfl⟩ := Rds_num t 0 n t1 hn
      refine ⟨rfl, ?_, K.be8 n, hu1, ?_, by omega, by omega⟩
      · unfold rsm
        rw [hn]
        simp only
        rw [if_neg (by rw [BitVec.lt_def]; simp; omega)]
      · show K.be8 n = K.be8 (BitVec.ofInt 64 (n.toNat : Int))
        congr 1
        apply BitVec.eq_of_toNat_eq
        rw [ofInt64_nat _ (by omega) (by omega)]
        omega
  · rw [if_neg h1] at h
    simp only [Prod.mk.injEq] at h
    exact absurd h.2.2 h1

/-! ### the document's readings -/
def rsseats : Nat → K.Rd → List Int × K.Rd
  | 0, r => ([], r)
  | n + 1, r => ((rsm r).1 :: (rsseats n (rsm r).2).1, (rsseats n (rsm r).2).2)
def rsmm (r : K.Rd) : Mb × K.Rd := (⟨(rsm r).1, (K.rtext (rsm r).2).1, (K.rtext (K.rtext (rsm r).2).2).1⟩, (K.rtext (K.rtext (rsm r).2).2).2)
def rsmems : Nat → K.Rd → List Mb × K.Rd
  | 0, r => ([], r)
  | n + 1, r => ((rsmm r).1 :: (rsmems n (rsmm r).2).1, (rsmems n (rsmm r).2).2)

theorem Rds_rm : Rds rm rsmm (fun m u => u = mT m) := by
  have e : rm = bnd (K.rbelow 4) (fun a => bnd K.rtext fun b => bnd K.rtext fun c => ret ⟨a, b, c⟩) := rfl
  have e2 : rsmm = bnd rsm (fun a => bnd K.rtext fun b => bnd K.rtext fun c => ret ⟨a, b, c⟩) := rfl
  rw [e, e2]
  refine Rds_mono (Rds_bnd (Rds_below 4 (by omega)) fun a => Rds_bnd Rds_text fun b => Rds_bnd Rds_text fun c => Rds_ret _) ?_
  rintro m u ⟨a, u1, u2, rfl, ⟨rfl, _⟩, b, u3, u4, rfl, rfl, c, u5, u6, rfl, rfl, rfl, rfl⟩
  simp [mT]

theorem Rds_seats : ∀ n, Rds (rseats n) (rsseats n) (fun l u => u = nums l ∧ l.length = n)
  | 0 => Rds_mono (Rds_ret []) (by rintro v u ⟨rfl, rfl⟩; exact ⟨rfl, rfl⟩)
  | n + 1 => by
    have e : rseats (n + 1) = bnd (K.rbelow 12) (fun a => bnd (rseats n) fun l => ret (a :: l)) := rfl
    have e2 : rsseats (n + 1) = bnd rsm (fun a => bnd (rsseats n) fun l => ret (a :: l)) := rfl
    rw [e, e2]
    refine Rds_mono (Rds_bnd (Rds_below 12 (by omega)) fun a => Rds_bnd (Rds_seats n) fun l => Rds_ret _) ?_
    rintro m u ⟨a, u1, u2, rfl, ⟨rfl, _⟩, l, u3, u4, rfl, ⟨rfl, rfl⟩, rfl, rfl⟩
    exact ⟨by simp [nums], rfl⟩
theorem Rds_mems : ∀ n, Rds (rmems n) (rsmems n) (fun l u => u = mTs l ∧ l.length = n)
  | 0 => Rds_mono (Rds_ret []) (by rintro v u ⟨rfl, rfl⟩; exact ⟨rfl, rfl⟩)
  | n + 1 => by
    have e : rmems (n + 1) = bnd rm (fun a => bnd (rmems n) fun l => ret (a :: l)) := rfl
    have e2 : rsmems (n + 1) = bnd rsmm (fun a => bnd (rsmems n) fun l => ret (a :: l)) := rfl
    rw [e, e2]
    refine Rds_mono (Rds_bnd Rds_rm fun a => Rds_bnd (Rds_mems n) fun l => Rds_ret _) ?_
    rintro m u ⟨a, u1, u2, rfl, rfl, l, u3, u4, rfl, ⟨rfl, rfl⟩, rfl, rfl⟩
    exact ⟨by simp [mTs], rfl⟩

def sgetF : K.Rd → Rec × K.Rd :=
  bnd K.rnum fun c => bnd K.rnum fun e => bnd rsm fun d => bnd rsm fun s => bnd rsm fun m => bnd rsm fun b => bnd rsm fun g =>
    bnd rsm fun n => bnd (rsseats n.toNat) fun S => bnd rsm fun q => bnd (rsmems q.toNat) fun Ms => ret ⟨c, e, d, s, m, b, decide (g = 1), S, Ms⟩

theorem Rds_get : Rds getF sgetF (fun R u => u = putT R) := by
  unfold getF sgetF
  refine Rds_mono (Rds_bnd Rds_num fun c => Rds_bnd Rds_num fun e => Rds_bnd (Rds_below 17 (by omega)) fun d => Rds_bnd (Rds_below 17 (by omega)) fun s => Rds_bnd (Rds_below 17 (by omega)) fun m => Rds_bnd (Rds_below 17 (by omega)) fun b =>
    Rds_bnd (Rds_below 2 (by omega)) fun g => Rds_bnd (Rds_below 13 (by omega)) fun n => Rds_bnd (Rds_seats n.toNat) fun S => Rds_bnd (Rds_below 13 (by omega)) fun q => Rds_bnd (Rds_mems q.toNat) fun Ms => Rds_ret _) ?_
  rintro R u ⟨c, _, _, rfl, rfl, e, _, _, rfl, rfl, d, _, _, rfl, ⟨rfl, _⟩, s, _, _, rfl, ⟨rfl, _⟩, m, _, _, rfl, ⟨rfl, _⟩, b, _, _, rfl, ⟨rfl, _⟩, g, _, _, rfl, ⟨rfl, hg⟩, n, _, _, rfl, ⟨rfl, hn⟩,
    S, _, _, rfl, ⟨rfl, hS⟩, q, _, _, rfl, ⟨rfl, hq⟩, Ms, _, _, rfl, ⟨rfl, hM⟩, rfl, rfl⟩
  have e1 : one (decide (g = 1)) = g := by
    have : g = 0 ∨ g = 1 := by omega
    rcases this with rfl | rfl <;> rfl
  have e2 : (S.length : Int) = n := by omega
  have e3 : (Ms.length : Int) = q := by omega
  simp [putT, head6, nums, e1, e2, e3]

theorem rsm_eq (S : List UInt8) (x : K.Xd) (h : x.1 ≤ S.length) : rsm (K.rOf S x) = ((xsmall S x).1, K.rOf S (xsmall S x).2) := by
  unfold rsm xsmall
  rw [K.rnum_eq S x h]
theorem rsseats_eq (S : List UInt8) : ∀ (n : Nat) (x : K.Xd), x.1 ≤ S.length → rsseats n (K.rOf S x) = ((xseats S n x).1, K.rOf S (xseats S n x).2)
  | 0, x, h => rfl
  | n + 1, x, h => by
    simp only [rsseats, xseats]
    rw [rsm_eq S x h]
    simp only
    rw [rsseats_eq S n _ (xsmall_le S x h)]
theorem rsmm_eq (S : List UInt8) (x : K.Xd) (h : x.1 ≤ S.length) : rsmm (K.rOf S x) = ((xm S x).1, K.rOf S (xm S x).2) := by
  unfold rsmm xm
  have h1 := xsmall_le S x h
  have h2 := K.xwords_le S _ h1
  rw [rsm_eq S x h]
  simp only
  rw [K.rtext_eq S _ h1]
  simp only
  rw [K.rtext_eq S _ h2]
theorem rsmems_eq (S : List UInt8) : ∀ (n : Nat) (x : K.Xd), x.1 ≤ S.length → rsmems n (K.rOf S x) = ((xmems S n x).1, K.rOf S (xmems S n x).2)
  | 0, x, h => rfl
  | n + 1, x, h => by
    simp only [rsmems, xmems]
    rw [rsmm_eq S x h]
    simp only
    rw [rsmems_eq S n _ (xm_le S x h)]

/-- The record that bytes are, as the document reads it. -/
def xgetR (S : List UInt8) : Rec :=
  let a1 := K.xnum S (0, 0)
  let a2 := K.xnum S a1.2
  let b1 := xsmall S a2.2
  let b2 := xsmall S b1.2
  let b3 := xsmall S b2.2
  let b4 := xsmall S b3.2
  let g := xsmall S b4.2
  let n := xsmall S g.2
  let s := xseats S n.1.toNat n.2
  let m := xsmall S s.2
  let ms := xmems S m.1.toNat m.2
  ⟨a1.1, a2.1, b1.1, b2.1, b3.1, b4.1, decide (g.1 = 1), s.1, ms.1⟩

theorem xget_eq (t : List UInt8) : (sgetF (t, 0)).1 = xgetR t := by
  have l1 := K.xnum_le t (0, 0) (Nat.zero_le _)
  have l2 := K.xnum_le t _ l1
  have l3 := xsmall_le t _ l2
  have l4 := xsmall_le t _ l3
  have l5 := xsmall_le t _ l4
  have l6 := xsmall_le t _ l5
  have l7 := xsmall_le t _ l6
  have l8 := xsmall_le t _ l7
  have l9 := xseats_le t (xsmall t (xsmall t (xsmall t (xsmall t (xsmall t (xsmall t (K.xnum t (K.xnum t (0, 0)).2).2).2).2).2).2).2).1.toNat _ l8
  have l10 := xsmall_le t _ l9
  rw [show ((t, 0) : K.Rd) = K.rOf t (0, 0) by simp [K.rOf]]
  unfold sgetF xgetR bnd ret
  simp only
  rw [K.rnum_eq t _ (Nat.zero_le _)]
  simp only
  rw [K.rnum_eq t _ l1]
  simp only
  rw [rsm_eq t _ l2]
  simp only
  rw [rsm_eq t _ l3]
  simp only
  rw [rsm_eq t _ l4]
  simp only
  rw [rsm_eq t _ l5]
  simp only
  rw [rsm_eq t _ l6]
  simp only
  rw [rsm_eq t _ l7]
  simp only
  rw [rsseats_eq t _ _ l8]
  simp only
  rw [rsm_eq t _ l9]
  simp only
  rw [rsmems_eq t _ _ l10]

/-- What is read is good just if the document says so; it is the same record. -/
theorem get_law (t : List UInt8) : ((K.rdone (getR t).2 = 0 ∧ goodP (getR t).1 = true) ↔ (goodP (xgetR t) = true ∧ putT (xgetR t) = t)) ∧ (K.rdone (getR t).2 = 0 → (getR t).1 = xgetR t) := by
  have key : K.rdone (getR t).2 = 0 → (getR t).1 = xgetR t ∧ putT (xgetR t) = t := by
    intro hd
    obtain ⟨R, ⟨s, e⟩, he⟩ : ∃ v q, getR t = (v, q) := ⟨_, _, rfl⟩
    rw [he] at hd ⊢
    unfold K.rdone at hd
    simp only at hd
    by_cases h0 : e = 0
    · subst h0
      rw [if_pos rfl] at hd
      by_cases hs : s = []
      · subst hs
        rw [getF_eq] at he
        obtain ⟨_, h1, u, h2, h3⟩ := Rds_get t 0 R [] he
        have h4 := xget_eq t
        rw [h1] at h4
        simp only at h4
        rw [List.append_nil] at h2
        exact ⟨h4, by rw [← h4, ← h3, h2]⟩
      · rw [if_neg hs] at hd; cases hd
    · rw [if_neg h0] at hd; exact absurd hd h0
  refine ⟨⟨fun h => ?_, fun h => ?_⟩, fun h => (key h).1⟩
  · obtain ⟨h1, h2⟩ := key h.1
    exact ⟨by rw [← h1]; exact h.2, h2⟩
  · have := get_put h.1
    rw [h.2] at this
    rw [this]
    exact ⟨rfl, h.1⟩

end Go.Proofs.YtaennaoaoahjmaaDoor

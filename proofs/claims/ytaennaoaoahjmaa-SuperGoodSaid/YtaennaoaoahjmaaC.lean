/-
  The record's law: the records that are made of plain data; copies; records held against each other.
-/
import Derived.Test.YtaennaoaoahjmaaA
set_option maxRecDepth 100000
set_option linter.unusedSimpArgs false
set_option linter.unusedVariables false
namespace Go.Proofs.Ytaennaoaoahjmaa
open Go.Det

/-- A disk as plain data. -/
structure Dk where
  st : Int
  top : UInt8
  log : UInt8
  short : Bool
  deriving Inhabited

def dc (d : Dk) : List AV := [.int .i64 d.st, byteAV d.top, byteAV d.log, .bool d.short]
theorem dc_len (d : Dk) : (dc d).length = 4 := rfl

def mOf (d : Dk) : Mb := ⟨d.st, d.top :: List.replicate (if d.short then 30 else 31) 0, d.log :: List.replicate 31 0⟩

/-- Seats and disks in the scope of depth d, from the name id on. -/
def sV (d id : Nat) (l : List Int) : AV := if l = [] then .slice none 0 1 else .slice (some ⟨d, id, l.length, 0⟩) l.length 1
def mV (d id : Nat) (l : List Mb) : AV := if l = [] then .slice none 0 0 else .slice (some ⟨d, id, 3 * l.length, 0⟩) l.length 3

/-- What grows: the block, if there is one. -/
def mB (id : Nat) (l : List Mb) : List (Nat × Con) := if l = [] then [] else [(id, .cells (l.flatMap mc) true true)]

theorem mV_snoc (d id : Nat) (l : List Mb) (x : Mb) : mV d id (l ++ [x]) = .slice (some ⟨d, id, 3 * l.length + 3, 0⟩) (l.length + 1) 3 := by simp [mV, Nat.mul_add]
theorem mB_snoc (id : Nat) (l : List Mb) (x : Mb) : mB id (l ++ [x]) = [(id, .cells (l.flatMap mc ++ mc x) true true)] := by simp [mB]

def z9 : Con := .cells [u64 0#64, u64 0#64, .int .i64 0, .int .i64 0, .int .i64 0, .int .i64 0, .bool false, .slice none 0 0, .slice none 0 0] true false

def rC (r : Rec) (sv mv : AV) : Con := .cells (rcells r sv mv) true false

/-- The scope of 'records', under way. -/
def L7 (D : Nat) (r : Rec) (sv : AV) (sb : List (Nat × Con)) (ms : List Mb) : List (Nat × Con) :=
  (4, z9) :: (8, z9) :: (sb ++ ((8068, rC r sv (mV D 44032 ms)) :: (12068, rC r sv (mV D 48032 ms)) :: (mB 44032 ms ++ mB 48032 ms)))

theorem bytes_zero (n : Nat) : bytesOf (List.replicate n (byteAV 0)) = some (List.replicate n 0) := by
  have := bytesOf_map (List.replicate n (0 : UInt8))
  rwa [List.map_replicate] at this
theorem bytes_one (x : UInt8) : bytesOf [byteAV x] = some [x] := bytesOf_map [x]

set_option maxHeartbeats 2000000 in
theorem l7 (C : Det.Calls) (M : Mem) (v : AV) (ds : List Dk) (N : Nat) (h1 : ds.length = N) (hN : N < 2 ^ 30) (hv : WM M 4 dc v ds) (r : Rec) (sv : AV) (sb : List (Nat × Con))
    (hsb : (sb = [] ∧ sv = .slice none 0 1) ∨ ∃ n c, sb = [(4028, .cells c true true)] ∧ sv = .slice (some ⟨M.length, 4028, n, 0⟩) n 1) (j : Nat) : ∀ (i n : Nat), i + j = N → j < n →
    fgt a7_0 (rnd0 (some (e7_0 (.ptr (some ⟨M.length, 4, 9, 0⟩)) (.ptr (some ⟨M.length, 8, 9, 0⟩)) (.ptr (some ⟨M.length, 8068, 9, 0⟩)) (.ptr (some ⟨M.length, 12068, 9, 0⟩)) v (.int .i64 N) (.int .i64 i), mk (L7 M.length r sv sb ((ds.take i).map mOf)) :: M)) k7_0 C s7_b0 n) =
      some (.exit 0, x7_0 (.ptr (some ⟨M.length, 4, 9, 0⟩)) (.ptr (some ⟨M.length, 8, 9, 0⟩)) (.ptr (some ⟨M.length, 8068, 9, 0⟩)) (.ptr (some ⟨M.length, 12068, 9, 0⟩)), mk (L7 M.length r sv sb (ds.map mOf)) :: M) := by
  induction j with
  | zero =>
    intro i n h hn
    obtain rfl : i = N := by omega
    rw [rnd0_some, List.take_of_length_le (by omega)]
    conv => lhs; arg 2; arg 1; rw [s7_b0]
    generalize ds.map mOf = ms
    by_cases hms : ms = []
    · rcases hsb with ⟨rfl, rfl⟩ | ⟨m, c, rfl, rfl⟩
      · simp [L7, z9, rC, rcells, mV, mB, hms]
      · simp [L7, z9, rC, rcells, mV, mB, hms]
    · rcases hsb with ⟨rfl, rfl⟩ | ⟨m, c, rfl, rfl⟩
      · simp [L7, z9, rC, rcells, mV, mB, hms]
      · simp [L7, z9, rC, rcells, mV, mB, hms]
  | succ j ih0 =>
    intro i n h hn
    obtain ⟨n, rfl⟩ : ∃ m, n = m + 1 := ⟨n - 1, by omega⟩
    have hi : i < N := by omega
    have ih := ih0 (i + 1) n (by omega) (by omega)
    obtain ⟨d, id, z, rw_, fl, r', hvv, hd, hg⟩ := hv.block (by omega)
    subst hvv
    have hn1 : d ≠ M.length := by omega
    have hseg := flat_seg dc_len r' ds i (by omega)
    have hfl : i * 4 + 4 ≤ (ds.flatMap dc ++ r').length := by rw [List.length_append, flat_len dc_len]; omega
    have hnx : (ds.take (i + 1)).map mOf = (ds.take i).map mOf ++ [mOf (nth ds i)] := by
      rw [List.take_add_one, getElem?_nth ds i (by omega)]; simp
    rw [hnx] at ih
    have hmi : ((ds.take i).map mOf).length = i := by simp; omega
    generalize (ds.take i).map mOf = ms at ih hmi ⊢
    rw [rnd0_some]
    conv => lhs; arg 2; arg 1; rw [s7_b0]
    have hx : dc (nth ds i) = [.int .i64 (nth ds i).st, byteAV (nth ds i).top, byteAV (nth ds i).log, .bool (nth ds i).short] := rfl
    have hm : mOf (nth ds i) = ⟨(nth ds i).st, (nth ds i).top :: List.replicate (if (nth ds i).short then 30 else 31) 0, (nth ds i).log :: List.replicate 31 0⟩ := rfl
    rw [hx] at hseg
    rw [hm] at ih
    clear hx hm hnx hv ih0
    generalize ds.flatMap dc ++ r' = BB at hseg hfl hg
    generalize (nth ds i).st = st at *
    generalize (nth ds i).top = tp at *
    generalize (nth ds i).log = lg at *
    have hml : (ms.flatMap mc).length = 3 * ms.length := by rw [flat_len mc_len]; omega
    have hfa : ∀ x : Mb, (ms ++ [x]).flatMap mc = ms.flatMap mc ++ [.int .i64 x.st, .str x.top, .str x.log] := fun x => by simp [mc]
    generalize hFF : ms.flatMap mc = FF at hml hfa
    by_cases hms : ms = []
    · subst hms
      cases hsh : (nth ds i).short <;> rw [hsh] at hseg ih <;> (rcases hsb with ⟨rfl, rfl⟩ | ⟨m, c, rfl, rfl⟩) <;>
        simpa (disch := first | omega | (simp; done) | (simp; omega)) [-List.reduceReplicate, hi, get_low, hd, hg, hseg, hfl, h1, if_pos, hn1, IntWalk.i64_in, bytes_zero, bytes_one, L7, z9, rC, rcells, mV, mB, mc, rep] using ih
    · cases hsh : (nth ds i).short <;> rw [hsh] at hseg ih <;> (rcases hsb with ⟨rfl, rfl⟩ | ⟨m, c, rfl, rfl⟩) <;>
        simpa (disch := first | omega | (simp; done) | (simp; omega)) [-List.reduceReplicate, -List.flatMap_append, hi, get_low, hd, hg, hseg, hfl, h1, if_pos, hn1, IntWalk.i64_in, bytes_zero, bytes_one, L7, z9, rC, rcells, mV, mB, rep, hms, hFF, hml, hfa, Nat.mul_add] using ih

theorem WM_take {α : Type} {M : Mem} {m d id z N : Nat} {f : α → List AV} {rw_ fl : Bool} {r : List AV} {l : List α} (n : Nat) (hd : d < M.length) (hg : ∀ o, get M ⟨d, id, z, o⟩ = some (.cells (l.flatMap f ++ r) rw_ fl)) (hN : N = min n l.length) :
    WM M m f (.slice (some ⟨d, id, z, 0⟩) N m) (l.take n) := by
  subst hN
  refine .inr (.inr ⟨d, id, z, rw_, fl, (l.drop n).flatMap f ++ r, by rw [List.length_take], hd, fun o => ?_⟩)
  rw [hg, ← List.append_assoc, ← List.flatMap_append, List.take_append_drop]

end Go.Proofs.Ytaennaoaoahjmaa

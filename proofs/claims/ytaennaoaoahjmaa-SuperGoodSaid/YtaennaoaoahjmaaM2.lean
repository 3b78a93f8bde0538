/-
  The record's law: a record's bytes: the call.
-/
import Derived.Test.YtaennaoaoahjmaaB6
import Derived.Test.YtaennaoaoahjmaaM1
set_option maxRecDepth 100000
set_option linter.unusedSimpArgs false
set_option linter.unusedVariables false
namespace Go.Proofs.Ytaennaoaoahjmaa
open Go.Det

theorem cnt_good : ∀ (l : List Mb) (b b' : Int), cnt l b = some b' → ∀ m ∈ l, m.st ≥ 0 ∧ m.st < 4 ∧ m.top.length = 32 ∧ m.log.length = 32
  | [], b, b', _, m, hm => by simp at hm
  | x :: l, b, b', h, m, hm => by
    simp only [cnt] at h
    split at h
    · cases h
    · rename_i hb
      rcases List.mem_cons.1 hm with rfl | hm
      · simp only [badM, Bool.or_eq_true, decide_eq_true_eq, not_or] at hb
        obtain ⟨h1, h2, h3, h4⟩ := hb
        refine ⟨by omega, by omega, by omega, by omega⟩
      · exact cnt_good l _ b' h m hm

theorem good_mems {r : Rec} (h : goodP r = true) : ∀ m ∈ r.mems, m.st ≥ 0 ∧ m.st < 4 ∧ m.top.length = 32 ∧ m.log.length = 32 := by
  simp only [goodP, Bool.and_eq_true] at h
  have h2 := h.2.1
  unfold membersP at h2
  cases hc : cnt r.mems 0 with
  | none => rw [hc] at h2; cases h2
  | some b => exact cnt_good _ _ _ hc

def one (g : Bool) : Int := if g then 1 else 0
def head6 (r : Rec) : List Int := [r.data, r.slots, r.mark, r.built, one r.growing, (r.seats.length : Int)]
def putT (r : Rec) : List UInt8 := K.be8 r.count ++ K.be8 r.epoch ++ nums (head6 r ++ r.seats ++ [(r.mems.length : Int)]) ++ mTs r.mems

theorem one_ev (k : Nat) (M : Mem) (g : Bool) : callFn SP (k + 1) 18 [.bool g] M = some (.int .i64 (one g), [], M) := by
  rw [call_fn (f := 18) (by rfl) (by simp)]
  cases g <;> simp [one]

set_option maxHeartbeats 16000000 in
theorem put_ev (k : Nat) (M : Mem) (r : Rec) (sv mv : AV) (h : IsRec M r sv mv) (hs30 : r.seats.length ≤ 30) (hm20 : r.mems.length ≤ 20) :
    callFn SP (k + 5) 8 [recV r sv mv] M = some (.tuple [.str (if goodP r then putT r else []), .int .i64 (if goodP r then 0 else 4)], [], M) := by
  have hgood := fun l => good_ev k (mk l :: ro M) r sv mv (h.ro.cons _)
  have i1 := WS_ids h.s
  have i2 := WM_ids h.m
  have n1 := h.s.len
  have n2 := h.m.len
  have hmm := h.m
  have hss := h.s
  cases hgd : goodP r
  · rw [hgd] at hgood
    obtain ⟨count, epoch, data, slots, mark, built, growing, seats, mems⟩ := r
    rw [call_fn (f := 8) (by rfl) (by simp)]
    simp only [recV, rcells] at hgood ⊢
    simp [hgood]
  · have hg32 : ∀ m ∈ r.mems, m.top.length = 32 ∧ m.log.length = 32 := fun m hm => (good_mems hgd m hm).2.2
    rw [hgd] at hgood
    have ha := fun t => l8a (k + 2) M r sv mv (AV.under 0 sv && AV.under 0 mv && (sv.noNil && mv.noNil)) i1 i2 (head6 r ++ r.seats ++ [(r.mems.length : Int)]) 24056 (6 + r.seats.length + 1) (6 + r.seats.length + 1) (by simp [head6]; omega) rfl (by omega) rfl (6 + r.seats.length + 1) 0 (6 + r.seats.length + 2) t (by omega) (by omega)
    have hb := fun t => l8b (k + 1) M mv r.mems r.mems.length rfl (by omega) hmm hg32 r.mems.length 0 (r.mems.length + 1) t (by omega) (by omega)
    simp only [List.drop_zero] at ha hb
    have hn1 := fun l => num_ev (k + 2) (mk l :: ro M) r.count
    have hn2 := fun l => num_ev (k + 2) (mk l :: ro M) r.epoch
    have hone := fun l => one_ev (k + 3) (mk l :: ro M) r.growing
    have hl1 := K.be8_len r.count
    have hl2 := K.be8_len r.epoch
    have ha := ha (K.be8 r.count ++ K.be8 r.epoch) (by rw [List.length_append]; omega) (by rw [List.length_append]; omega)
    have hln := nums_len (head6 r ++ r.seats ++ [(r.mems.length : Int)])
    have hb := hb (K.be8 r.count ++ K.be8 r.epoch ++ nums (head6 r ++ r.seats ++ [(r.mems.length : Int)])) (by simp only [List.length_append]; omega) (by simp only [List.length_append]; rw [hln]; simp [head6] <;> omega)
    have hput : putT r = K.be8 r.count ++ K.be8 r.epoch ++ nums (head6 r ++ r.seats ++ [(r.mems.length : Int)]) ++ mTs r.mems := rfl
    have hcs : (head6 r ++ r.seats ++ [(r.mems.length : Int)]).map (AV.int .i64) = [.int .i64 r.data, .int .i64 r.slots, .int .i64 r.mark, .int .i64 r.built, .int .i64 (one r.growing), .int .i64 r.seats.length] ++ r.seats.map (AV.int .i64) ++ [.int .i64 r.mems.length] := by simp [head6]
    rw [hcs] at ha
    have hmt : (mTs r.mems).length < 2 ^ 40 := by
      have : ∀ l : List Mb, (∀ m ∈ l, m.top.length = 32 ∧ m.log.length = 32) → (mTs l).length = 88 * l.length := by
        intro l
        induction l with
        | nil => intro _; rfl
        | cons x l ih =>
          intro hx
          have h1 := hx x (by simp)
          have := ih (fun m hm => hx m (by simp [hm]))
          simp only [mTs, List.map_cons, List.flatten_cons, List.length_append, List.length_cons, mT, et_len, K.be8_len] at this ⊢
          rw [this, h1.1, h1.2]; omega
      rw [this _ hg32]; omega
    rw [hput]
    have hln2 : (nums (head6 r ++ r.seats ++ [(r.mems.length : Int)])).length < 2 ^ 40 := by rw [hln]; simp [head6]; omega
    generalize nums (head6 r ++ r.seats ++ [(r.mems.length : Int)]) = NN at *
    generalize mTs r.mems = TT at *
    obtain ⟨count, epoch, data, slots, mark, built, growing, seats, mems⟩ := r
    simp only at *
    rw [call_fn (f := 8) (by rfl) (by simp)]
    simp only [recV, rcells] at hgood ⊢
    generalize K.be8 count = c1 at *
    generalize K.be8 epoch = c2 at *
    have hun : AV.unders 0 (seats.map (AV.int .i64)) = true := unders_map _ _ (fun x => rfl) seats
    rcases hss with ⟨es, rfl, h0⟩ | ⟨es, rfl, h0⟩ | ⟨d1, id1, z1, rw1, fl1, r1, rfl, hd1, hg1⟩
    · subst h0
      simp (disch := omega) [hgood, hn1, hn2, hone, hl1, hl2, n1, n2, if_pos]
      rw [ev_loop (6 + 0 + 2) (by simp [i1, i2, P0, bV, wV, bB, rcells, hl1, hl2]) ha (by omega)]
      simp (disch := omega) [n2, P0, bV, wV, bB, rcells]
      rw [ev_loop (mems.length + 1) (by simp [i1, i2, P0, bV, wV, bB, hl1, hl2]) hb (by omega)]
      have hfin : 0 < c1.length + (c2.length + (NN.length + TT.length)) ∧ c1.length + (c2.length + (NN.length + TT.length)) ≤ 35184372088832 := by omega
      simp (disch := omega) [P0, bV, wV, bB, hfin]
    · subst h0
      simp (disch := omega) [hgood, hn1, hn2, hone, hl1, hl2, n1, n2, if_pos]
      rw [ev_loop (6 + 0 + 2) (by simp [i1, i2, P0, bV, wV, bB, rcells, hl1, hl2]) ha (by omega)]
      simp (disch := omega) [n2, P0, bV, wV, bB, rcells]
      rw [ev_loop (mems.length + 1) (by simp [i1, i2, P0, bV, wV, bB, hl1, hl2]) hb (by omega)]
      have hfin : 0 < c1.length + (c2.length + (NN.length + TT.length)) ∧ c1.length + (c2.length + (NN.length + TT.length)) ≤ 35184372088832 := by omega
      simp (disch := omega) [P0, bV, wV, bB, hfin]
    · have hq1 : d1 ≠ M.length := by omega
      have hseg : List.take seats.length (seats.map (AV.int .i64) ++ r1) = seats.map (AV.int .i64) := by rw [List.take_append_of_le_length (by simp), List.take_of_length_le (by simp)]
      simp (disch := omega) [hgood, hn1, hn2, hone, hl1, hl2, n1, n2, if_pos, get_low, hd1, hg1, hq1, hseg, hun]
      rw [ev_loop (6 + seats.length + 2) (by simp [i1, i2, P0, bV, wV, bB, rcells, hl1, hl2, hq1]; omega) ha (by omega)]
      simp (disch := omega) [n2, P0, bV, wV, bB, rcells]
      rw [ev_loop (mems.length + 1) (by simp [i1, i2, P0, bV, wV, bB, hl1, hl2]) hb (by omega)]
      have hfin : 0 < c1.length + (c2.length + (NN.length + TT.length)) ∧ c1.length + (c2.length + (NN.length + TT.length)) ≤ 35184372088832 := by omega
      simp (disch := omega) [P0, bV, wV, bB, hfin]

end Go.Proofs.Ytaennaoaoahjmaa

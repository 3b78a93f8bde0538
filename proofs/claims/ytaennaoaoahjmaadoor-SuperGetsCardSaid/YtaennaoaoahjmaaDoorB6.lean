/-
  The record's law: which seats are good, which records are: the calls.
-/
import Derived.Test.YtaennaoaoahjmaaDoorB
import Derived.Test.YtaennaoaoahjmaaDoorB3
import Derived.Test.YtaennaoaoahjmaaDoorB5
set_option maxRecDepth 100000
set_option linter.unusedSimpArgs false
set_option linter.unusedVariables false
namespace Go.Proofs.YtaennaoaoahjmaaDoor
open Go.Det

def seatsP (r : Rec) : Bool :=
  if ¬ (r.seats.length : Int) = (if r.growing then IntKind.wrap .i64 (IntKind.wrap .i64 (r.data + 2) + 1) else IntKind.wrap .i64 (r.data + 2)) then false else
  match sgo r.mems.length r.seats [] with
  | none => false
  | some seen => mgo seen r.mems 0

set_option maxHeartbeats 8000000 in
theorem seats_ev (k : Nat) (M : Mem) (r : Rec) (sv mv : AV) (h : IsRec M r sv mv) : callFn SP (k + 1) 56 [recV r sv mv] M = some (.bool (seatsP r), [], M) := by
  have ha := l25a (callFn SP k) M r sv mv (AV.under 0 sv && AV.under 0 mv && (sv.noNil && mv.noNil)) h r.seats.length rfl r.seats.length 0 (r.seats.length + 1) [] (by omega) (by omega)
  have hb := fun seen => l25b (callFn SP k) M mv r.mems seen r.mems.length rfl h.hm h.m r.mems.length 0 (r.mems.length + 1) (by omega) (by omega)
  rw [List.drop_zero] at ha
  simp only [List.drop_zero] at hb
  have i1 := WS_ids h.s
  have i2 := WM_ids h.m
  have n1 := h.s.len
  have n2 := h.m.len
  have hsl := h.hs
  have hml := h.hm
  obtain ⟨es, ha⟩ := ha
  obtain ⟨count, epoch, data, slots, mark, built, growing, seats, mems⟩ := r
  simp only at ha hb n1 n2 hml hsl
  rw [call_fn (f := 56) (by rfl) (by simp)]
  simp only [recV, rcells, seatsP]
  cases growing
  · simp only [Bool.false_eq_true, if_false]
    generalize hw : IntKind.wrap .i64 (data + 2) = w
    by_cases c1 : (seats.length : Int) = w
    · simp only [c1, not_true, if_false]
      simp [hw, n1, c1]
      cases hc : sgo mems.length seats [] with
      | none =>
        rw [hc] at ha
        simp only [r25a] at ha
        rw [ev_loop (seats.length + 1) (by simp [i1, i2, P0, MP, rCell, rcells, pm, ← c1]) ha (by omega)]
        simp
      | some seen =>
        have hb := hb seen
        rw [hc] at ha
        simp only [r25a] at ha
        rw [ev_loop (seats.length + 1) (by simp [i1, i2, P0, MP, rCell, rcells, pm, ← c1]) ha (by omega)]
        cases hg : mgo seen mems 0
        · rw [hg] at hb
          simp only [r25b, Bool.false_eq_true, if_false] at hb
          simp [P0, MP, rCell, rcells, n2]
          rw [ev_loop (mems.length + 1) (by simp [i1, i2, P0, MP, rCell, rcells, pm]) hb (by omega)]
          simp [hg]
        · rw [hg] at hb
          simp only [r25b, if_true] at hb
          simp [P0, MP, rCell, rcells, n2]
          rw [ev_loop (mems.length + 1) (by simp [i1, i2, P0, MP, rCell, rcells, pm]) hb (by omega)]
          simp [hg]
    · simp [hw, n1, c1]
  · simp only [if_true]
    generalize hw : IntKind.wrap .i64 (IntKind.wrap .i64 (data + 2) + 1) = w
    by_cases c1 : (seats.length : Int) = w
    · simp only [c1, not_true, if_false]
      simp [hw, n1, c1]
      cases hc : sgo mems.length seats [] with
      | none =>
        rw [hc] at ha
        simp only [r25a] at ha
        rw [ev_loop (seats.length + 1) (by simp [i1, i2, P0, MP, rCell, rcells, pm, ← c1]) ha (by omega)]
        simp
      | some seen =>
        have hb := hb seen
        rw [hc] at ha
        simp only [r25a] at ha
        rw [ev_loop (seats.length + 1) (by simp [i1, i2, P0, MP, rCell, rcells, pm, ← c1]) ha (by omega)]
        cases hg : mgo seen mems 0
        · rw [hg] at hb
          simp only [r25b, Bool.false_eq_true, if_false] at hb
          simp [P0, MP, rCell, rcells, n2]
          rw [ev_loop (mems.length + 1) (by simp [i1, i2, P0, MP, rCell, rcells, pm]) hb (by omega)]
          simp [hg]
        · rw [hg] at hb
          simp only [r25b, if_true] at hb
          simp [P0, MP, rCell, rcells, n2]
          rw [ev_loop (mems.length + 1) (by simp [i1, i2, P0, MP, rCell, rcells, pm]) hb (by omega)]
          simp [hg]
    · simp [hw, n1, c1]

def goodP (r : Rec) : Bool := sizesP r && (membersP r && seatsP r)

set_option maxHeartbeats 2000000 in
theorem good_ev (k : Nat) (M : Mem) (r : Rec) (sv mv : AV) (h : IsRec M r sv mv) : callFn SP (k + 4) 42 [recV r sv mv] M = some (.bool (goodP r), [], M) := by
  have e1 := fun l => sizes_ev k (mk l :: ro M) r sv mv (h.ro.cons _)
  have e2 := fun l => members_ev (k + 2) (mk l :: ro M) r sv mv (h.ro.cons _)
  have e3 := fun l => seats_ev (k + 2) (mk l :: ro M) r sv mv (h.ro.cons _)
  unfold goodP
  rw [call_fn (f := 42) (by rfl) (by simp)]
  simp only [recV, rcells] at e1 e2 e3 ⊢
  cases h1 : sizesP r
  · simp [e1, h1]
  · cases h2 : membersP r
    · simp [e1, e2, h1, h2]
    · simp [e1, e2, e3, h1, h2]

end Go.Proofs.YtaennaoaoahjmaaDoor

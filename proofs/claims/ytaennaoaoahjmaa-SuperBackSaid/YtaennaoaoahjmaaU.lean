/-
  The record's law SuperBack, evaluated.
-/
import Derived.Test.YtaennaoaoahjmaaS
import Derived.Test.YtaennaoaoahjmaaN
import Derived.Test.YtaennaoaoahjmaaP
set_option maxRecDepth 100000
set_option linter.unusedSimpArgs false
set_option linter.unusedVariables false
namespace Go.Proofs.Ytaennaoaoahjmaa
open Go.Det

/-! ### a reading that goes well does not look at what stands behind -/
def Ext {α : Type} (f : K.Rd → α × K.Rd) : Prop := ∀ t e v s, f (t, e) = (v, (s, 0)) → e = 0 ∧ ∀ b, f (t ++ b, 0) = (v, (s ++ b, 0))

def bnd {α β : Type} (f : K.Rd → α × K.Rd) (g : α → K.Rd → β × K.Rd) (r : K.Rd) : β × K.Rd := g (f r).1 (f r).2
def ret {α : Type} (v : α) (r : K.Rd) : α × K.Rd := (v, r)

theorem Ext_ret {α : Type} (v : α) : Ext (ret v) := by
  intro t e v' s h
  simp only [ret, Prod.mk.injEq] at h
  obtain ⟨rfl, rfl, rfl⟩ := h
  exact ⟨rfl, fun b => rfl⟩

theorem Ext_bnd {α β : Type} {f : K.Rd → α × K.Rd} {g : α → K.Rd → β × K.Rd} (hf : Ext f) (hg : ∀ v, Ext (g v)) : Ext (bnd f g) := by
  intro t e v s h
  unfold bnd at h
  obtain ⟨x, ⟨t1, e1⟩, he⟩ : ∃ x r, f (t, e) = (x, r) := ⟨_, _, rfl⟩
  rw [he] at h
  obtain ⟨h1, h2⟩ := hg x t1 e1 v s h
  subst h1
  obtain ⟨h3, h4⟩ := hf t e x t1 he
  refine ⟨h3, fun b => ?_⟩
  unfold bnd
  rw [h4 b]
  exact h2 b

theorem Ext_take (n : BitVec 64) : Ext (K.rtake n) := by
  intro t e v s h
  unfold K.rtake at h
  simp only at h
  by_cases he : e = 0
  · subst he
    refine ⟨rfl, fun b => ?_⟩
    simp only [if_true] at h
    by_cases hl : t.length < n.toNat
    · rw [if_pos hl] at h
      simp only [Prod.mk.injEq] at h
      exact absurd h.2.2 (by decide)
    · rw [if_neg hl] at h
      simp only [Prod.mk.injEq] at h
      obtain ⟨rfl, rfl, _⟩ := h
      unfold K.rtake
      simp only [if_true]
      rw [if_neg (by rw [List.length_append]; omega), List.take_append_of_le_length (by omega), List.drop_append_of_le_length (by omega)]
  · rw [if_neg he] at h
    simp only [Prod.mk.injEq] at h
    exact absurd h.2.2 he

theorem Ext_num : Ext K.rnum := by
  have h : K.rnum = bnd (K.rtake 8#64) (fun x => ret (if x = [] then 0 else K.two x)) := rfl
  rw [h]
  exact Ext_bnd (Ext_take _) fun _ => Ext_ret _

theorem Ext_text : Ext K.rtext := by
  have h : K.rtext = bnd K.rnum (fun x => K.rtake x) := rfl
  rw [h]
  exact Ext_bnd Ext_num fun _ => Ext_take _

theorem Ext_below (bound : Int) : Ext (K.rbelow bound) := by
  have h : K.rbelow bound = bnd K.rnum (fun x r => if r.2 = 0 then (if bound < 1 ∨ BitVec.ofInt 64 bound ≤ x then (0, (r.1, 4)) else (IntKind.wrap .i64 (x.toNat : Int), r)) else (0, r)) := rfl
  rw [h]
  refine Ext_bnd Ext_num fun x => ?_
  intro t e v s h
  simp only at h
  by_cases he : e = 0
  · subst he
    refine ⟨rfl, fun b => ?_⟩
    simp only [if_true] at h ⊢
    by_cases hb : bound < 1 ∨ BitVec.ofInt 64 bound ≤ x
    · rw [if_pos hb] at h
      simp only [Prod.mk.injEq] at h
      exact absurd h.2.2 (by decide)
    · rw [if_neg hb] at h ⊢
      simp only [Prod.mk.injEq] at h ⊢
      exact ⟨h.1, by rw [h.2.1], trivial⟩
  · rw [if_neg he] at h
    simp only [Prod.mk.injEq] at h
    exact absurd h.2.2 he

theorem Ext_rm : Ext rm := by
  have h : rm = bnd (K.rbelow 4) (fun a => bnd K.rtext fun b => bnd K.rtext fun c => ret ⟨a, b, c⟩) := rfl
  rw [h]
  exact Ext_bnd (Ext_below _) fun _ => Ext_bnd Ext_text fun _ => Ext_bnd Ext_text fun _ => Ext_ret _

theorem Ext_seats : ∀ n, Ext (rseats n)
  | 0 => Ext_ret []
  | n + 1 => by
    have h : rseats (n + 1) = bnd (K.rbelow 12) (fun a => bnd (rseats n) fun l => ret (a :: l)) := rfl
    rw [h]
    exact Ext_bnd (Ext_below _) fun _ => Ext_bnd (Ext_seats n) fun _ => Ext_ret _
theorem Ext_mems : ∀ n, Ext (rmems n)
  | 0 => Ext_ret []
  | n + 1 => by
    have h : rmems (n + 1) = bnd rm (fun a => bnd (rmems n) fun l => ret (a :: l)) := rfl
    rw [h]
    exact Ext_bnd Ext_rm fun _ => Ext_bnd (Ext_mems n) fun _ => Ext_ret _

/-- The reading of a record. -/
def getF : K.Rd → Rec × K.Rd :=
  bnd K.rnum fun c => bnd K.rnum fun e => bnd (K.rbelow 17) fun d => bnd (K.rbelow 17) fun s => bnd (K.rbelow 17) fun m => bnd (K.rbelow 17) fun b => bnd (K.rbelow 2) fun g =>
    bnd (K.rbelow 13) fun n => bnd (rseats n.toNat) fun S => bnd (K.rbelow 13) fun q => bnd (rmems q.toNat) fun Ms => ret ⟨c, e, d, s, m, b, decide (g = 1), S, Ms⟩
theorem getF_eq (t : List UInt8) : getR t = getF (t, 0) := rfl
theorem Ext_get : Ext getF :=
  Ext_bnd Ext_num fun _ => Ext_bnd Ext_num fun _ => Ext_bnd (Ext_below _) fun _ => Ext_bnd (Ext_below _) fun _ => Ext_bnd (Ext_below _) fun _ => Ext_bnd (Ext_below _) fun _ => Ext_bnd (Ext_below _) fun _ =>
    Ext_bnd (Ext_below _) fun _ => Ext_bnd (Ext_seats _) fun _ => Ext_bnd (Ext_below _) fun _ => Ext_bnd (Ext_mems _) fun _ => Ext_ret _

/-! ### what was written is read -/
def App {α : Type} (f : K.Rd → α × K.Rd) (t : List UInt8) (v : α) : Prop := ∀ b, f (t ++ b, 0) = (v, (b, 0))

theorem App_ret {α : Type} (v : α) : App (ret v) [] v := fun b => rfl
theorem App_bnd {α β : Type} {f : K.Rd → α × K.Rd} {g : α → K.Rd → β × K.Rd} {t u : List UInt8} {v : α} {w : β} (hf : App f t v) (hg : App (g v) u w) : App (bnd f g) (t ++ u) w := by
  intro b
  unfold bnd
  rw [List.append_assoc, hf]
  exact hg b

theorem App_num (n : BitVec 64) : App K.rnum (K.be8 n) n := fun b => K.rnum_app n b
theorem App_text (s : List UInt8) (h : s.length < 2 ^ 64) : App K.rtext (et s) s := fun b => K.rtext_app s b h
theorem App_below (bound x : Int) (h1 : 0 ≤ x) (h2 : x < bound) (h3 : bound < 2 ^ 60) : App (K.rbelow bound) (b8 x) x := by
  intro b
  have hx : (BitVec.ofInt 64 x).toNat = x.toNat := ofInt64_nat x h1 (by omega)
  unfold K.rbelow
  rw [show b8 x = K.be8 (BitVec.ofInt 64 x) from rfl, K.rnum_app]
  simp only [if_true]
  rw [if_neg, hx, IntWalk.i64_in _ (by omega)]
  · simp only [Prod.mk.injEq, and_true]
    omega
  · rw [not_or, BitVec.le_def, ofInt64_nat bound (by omega) h3, hx]
    omega

theorem App_rm (m : Mb) (h : m.st ≥ 0 ∧ m.st < 4 ∧ m.top.length = 32 ∧ m.log.length = 32) : App rm (mT m) m := by
  have e : rm = bnd (K.rbelow 4) (fun a => bnd K.rtext fun b => bnd K.rtext fun c => ret ⟨a, b, c⟩) := rfl
  have ht : mT m = b8 m.st ++ (et m.top ++ (et m.log ++ [])) := by simp [mT]
  rw [e, ht]
  exact App_bnd (App_below 4 _ (by omega) (by omega) (by omega)) (App_bnd (App_text _ (by omega)) (App_bnd (App_text _ (by omega)) (App_ret _)))

theorem App_seats : ∀ l : List Int, (∀ x ∈ l, 0 ≤ x ∧ x < 12) → App (rseats l.length) (nums l) l
  | [], _ => App_ret []
  | x :: l, h => by
    have e : rseats (x :: l).length = bnd (K.rbelow 12) (fun a => bnd (rseats l.length) fun l => ret (a :: l)) := rfl
    have ht : nums (x :: l) = b8 x ++ (nums l ++ []) := by simp [nums]
    rw [e, ht]
    have hx := h x (by simp)
    exact App_bnd (App_below 12 _ hx.1 hx.2 (by omega)) (App_bnd (App_seats l fun y hy => h y (by simp [hy])) (App_ret _))
theorem App_mems : ∀ l : List Mb, (∀ m ∈ l, m.st ≥ 0 ∧ m.st < 4 ∧ m.top.length = 32 ∧ m.log.length = 32) → App (rmems l.length) (mTs l) l
  | [], _ => App_ret []
  | x :: l, h => by
    have e : rmems (x :: l).length = bnd rm (fun a => bnd (rmems l.length) fun l => ret (a :: l)) := rfl
    have ht : mTs (x :: l) = mT x ++ (mTs l ++ []) := by simp [mTs]
    rw [e, ht]
    exact App_bnd (App_rm x (h x (by simp))) (App_bnd (App_mems l fun y hy => h y (by simp [hy])) (App_ret _))

theorem sgo_lt (n : Nat) (hn : n < 2 ^ 40) : ∀ (l seen s : List Int), sgo n l seen = some s → ∀ x ∈ l, 0 ≤ x ∧ x < n
  | [], _, _, _, x, hx => by simp at hx
  | y :: l, seen, s, h, x, hx => by
    simp only [sgo] at h
    split at h
    · cases h
    · split at h
      · cases h
      · split at h
        · cases h
        · rcases List.mem_cons.1 hx with rfl | hx
          · omega
          · exact sgo_lt n hn l _ s h x hx

theorem good_seats {r : Rec} (h : goodP r = true) : r.seats.length ≤ 11 ∧ ∀ x ∈ r.seats, 0 ≤ x ∧ x < 12 := by
  have hsm := good_small h
  simp only [goodP, Bool.and_eq_true] at h
  obtain ⟨h1, h2, h3⟩ := h
  have hd := hsm.data
  have hm := hsm.nmem
  unfold seatsP at h3
  rw [ite_not] at h3
  have w1 : IntKind.wrap .i64 (r.data + 2) = r.data + 2 := IntWalk.i64_in _ (by omega)
  have w2 : IntKind.wrap .i64 (r.data + 2 + 1) = r.data + 2 + 1 := IntWalk.i64_in _ (by omega)
  by_cases hA : (r.seats.length : Int) = (if r.growing then IntKind.wrap .i64 (IntKind.wrap .i64 (r.data + 2) + 1) else IntKind.wrap .i64 (r.data + 2))
  · rw [if_pos hA] at h3
    cases hc : sgo r.mems.length r.seats [] with
    | none => rw [hc] at h3; cases h3
    | some s =>
      refine ⟨?_, fun x hx => ?_⟩
      · rw [w1, w2] at hA
        cases hg : r.growing <;> rw [hg] at hA <;> simp at hA <;> omega
      · have := sgo_lt _ (by omega) _ _ _ hc x hx
        omega
  · rw [if_neg hA] at h3; cases h3

theorem App_get {r : Rec} (h : goodP r = true) : App getF (putT r) r := by
  have hs := good_small h
  have hq := good_seats h
  have hd := hs.data
  have h1 := hs.slots
  have h2 := hs.mark
  have h3 := hs.built
  have h4 := hs.nmem
  obtain ⟨c, e, d, s, m, b, g, S, Ms⟩ := r
  simp only at hd h1 h2 h3 h4 hq
  have ht : putT ⟨c, e, d, s, m, b, g, S, Ms⟩ = K.be8 c ++ (K.be8 e ++ (b8 d ++ (b8 s ++ (b8 m ++ (b8 b ++ (b8 (one g) ++ (b8 S.length ++ (nums S ++ (b8 Ms.length ++ (mTs Ms ++ [])))))))))) := by
    simp [putT, head6, nums]
  rw [ht]
  unfold getF
  have hone : 0 ≤ one g ∧ one g < 2 := by cases g <;> simp [one]
  have hg : decide (one g = 1) = g := by cases g <;> rfl
  refine App_bnd (App_num _) (App_bnd (App_num _) (App_bnd (App_below 17 _ (by omega) (by omega) (by omega)) (App_bnd (App_below 17 _ (by omega) (by omega) (by omega)) (App_bnd (App_below 17 _ (by omega) (by omega) (by omega))
    (App_bnd (App_below 17 _ (by omega) (by omega) (by omega)) (App_bnd (App_below 2 _ hone.1 hone.2 (by omega)) (App_bnd (App_below 13 _ (by omega) (by omega) (by omega)) ?_)))))))
  rw [Int.toNat_natCast]
  refine App_bnd (App_seats S hq.2) (App_bnd (App_below 13 _ (by omega) (by omega) (by omega)) ?_)
  rw [Int.toNat_natCast, hg]
  exact App_bnd (App_mems Ms hs.mems) (App_ret _)

/-- What was written is read back. -/
theorem get_put {r : Rec} (h : goodP r = true) : getR (putT r) = (r, ([], 0)) := by
  have := App_get h []
  rw [List.append_nil] at this
  rw [getF_eq]
  exact this
/-- Nothing is read of more. -/
theorem get_more {r : Rec} (h : goodP r = true) (x : UInt8) : K.rdone (getR (putT r ++ [x])).2 = 5 := by
  rw [getF_eq, App_get h [x]]
  rfl
/-- Nothing is read of fewer. -/
theorem get_cut {r : Rec} (h : goodP r = true) (p : Nat) (hp : p < (putT r).length) : K.rdone (getR ((putT r).take p)).2 ≠ 0 := by
  intro hd
  obtain ⟨v, ⟨s, e⟩, he⟩ : ∃ v q, getR ((putT r).take p) = (v, q) := ⟨_, _, rfl⟩
  rw [he] at hd
  unfold K.rdone at hd
  simp only at hd
  by_cases h0 : e = 0
  · subst h0
    simp only [if_true] at hd
    by_cases hs : s = []
    · subst hs
      rw [getF_eq] at he
      have h2 := (Ext_get _ _ _ _ he).2 ((putT r).drop p)
      rw [List.take_append_drop, ← getF_eq, get_put h] at h2
      simp only [List.nil_append, Prod.mk.injEq, and_true] at h2
      have := congrArg List.length h2.2
      rw [List.length_drop] at this
      simp at this
      omega
    · rw [if_neg hs] at hd
      exact absurd hd (by decide)
  · rw [if_neg h0] at hd
    exact h0 hd

theorem mTs_len : ∀ l : List Mb, (∀ m ∈ l, m.st ≥ 0 ∧ m.st < 4 ∧ m.top.length = 32 ∧ m.log.length = 32) → (mTs l).length = 88 * l.length
  | [], _ => rfl
  | x :: l, h => by
    have hx := h x (by simp)
    have ih := mTs_len l fun y hy => h y (by simp [hy])
    have ht : mTs (x :: l) = mT x ++ mTs l := by simp [mTs]
    rw [ht, List.length_append, ih]
    have : (mT x).length = 88 := by simp [mT, et, b8, K.be8_len, hx.2.2.1, hx.2.2.2]
    rw [this, List.length_cons]
    omega

theorem putT_len {r : Rec} (h : goodP r = true) : 0 < (putT r).length ∧ (putT r).length ≤ 2048 := by
  have h1 := good_seats h
  have h2 := good_small h
  have h3 := h2.nmem
  have h4 : (putT r).length = 16 + 8 * (6 + r.seats.length + 1) + 88 * r.mems.length := by
    simp only [putT, List.length_append, K.be8_len, nums_len, mTs_len _ h2.mems, head6, List.length_cons, List.length_nil]
  omega

end Go.Proofs.Ytaennaoaoahjmaa

namespace Go.Proofs.Ytaennaoaoahjmaa
open Go.Det

/-- Get, of what was written, of less, of more. -/
theorem get_at (M : Mem) (R : Rec) (hg : goodP R = true) : ∀ l, callFn SP 12 13 [.str (putT R)] (mk l :: ro M) =
    some (.tuple [recV R (.slice (some ⟨M.length + 1, 0, R.seats.length, 0⟩) R.seats.length 1) (.slice (some ⟨M.length + 1, 1, 3 * R.mems.length, 0⟩) R.mems.length 3), .int .i64 0],
      [.cells (R.seats.map (AV.int .i64)) true true, .cells (R.mems.flatMap mc) true true], mk l :: ro M) := by
  intro l
  have hl := putT_len hg
  have := get_ev 5 (mk l :: ro M) (putT R) (by omega)
  rw [this]
  unfold getOut
  rw [get_put hg]
  simp only [K.rdone, if_true, hg, and_self, List.length_cons, ro_length]
theorem get_bad (M : Mem) (t : List UInt8) (ht : t.length < 2 ^ 48) (h : K.rdone (getR t).2 ≠ 0) : ∀ l, callFn SP 12 13 [.str t] (mk l :: ro M) =
    some (.tuple [recV zeroR (.slice none 0 0) (.slice none 0 0), .int .i64 4], [], mk l :: ro M) := by
  intro l
  rw [get_ev 5 (mk l :: ro M) t ht]
  unfold getOut
  rw [if_neg (fun hh => h hh.1)]

theorem good_at (M : Mem) (R : Rec) (sv mv : AV) (l : List (Nat × Con)) (h : IsRec (mk l :: ro M) R sv mv) (hg : goodP R = false) : callFn SP 12 11 [recV R sv mv] (mk l :: ro M) = some (.bool false, [], mk l :: ro M) := by
  have := good_ev 8 (mk l :: ro M) R sv mv h
  rw [hg] at this
  exact this

set_option maxHeartbeats 16000000 in
theorem back_good (M : Mem) (hw : ∀ l, callFn SP 12 10 [] (mk l :: ro M) = some (.bool true, [], mk l :: ro M)) (r : Rec) (sv dv : AV) (seats : List Int) (ds : List Dk) (cut : Int)
    (hs : WS M (AV.int .i64) sv seats) (hd : WM M 4 dc dv ds) (hcut : -2 ^ 63 ≤ cut ∧ cut < 2 ^ 63) (hg : goodP (recOf r seats ds) = true) : callFn SP 13 4 [recV r sv dv, .int .i64 cut] M = some (.bool true, [], M) := by
  have hrec := fun l => records_ev 11 (mk l :: ro M) r sv dv seats ds (hs.ro.cons _) (hd.ro.cons _)
  have hRs : (recOf r seats ds).seats.length ≤ 30 := by simp [recOf]; omega
  have hRm : (recOf r seats ds).mems.length ≤ 20 := by simp [recOf]; omega
  generalize recOf r seats ds = R at hrec hRs hRm hg
  have hne := good_ne hg
  have hlen := putT_len hg
  have hgA := get_at M R hg
  have hgB := fun p (hp : p < (putT R).length) => get_bad M ((putT R).take p) (by rw [List.length_take]; omega) (get_cut hg p hp)
  have hgC := get_bad M (putT R ++ [120]) (by rw [List.length_append]; simp; omega) (by rw [get_more hg]; decide)
  obtain ⟨count, epoch, data, slots, mark, built, growing, seats0, mems0⟩ := r
  have hA := put_at M R.seats R.mems R.seats.length R.mems.length rfl rfl hRs hRm R.count R.epoch R.data R.slots R.mark R.built R.growing (putT R) 0 (by rw [show (⟨R.count, R.epoch, R.data, R.slots, R.mark, R.built, R.growing, R.seats, R.mems⟩ : Rec) = R from rfl, hg]; rfl) (by rw [show (⟨R.count, R.epoch, R.data, R.slots, R.mark, R.built, R.growing, R.seats, R.mems⟩ : Rec) = R from rfl, hg]; rfl)
  have hQ := same_at M R.seats R.seats R.mems R.mems R.seats.length R.mems.length R.seats.length R.mems.length rfl rfl rfl rfl hRs hRm hRs hRm R.count R.epoch R.count R.epoch R.data R.slots R.mark R.built R.data R.slots R.mark R.built R.growing R.growing true (by simp)
  rw [call_fn (f := 4) (by rfl) (by simp)]
  simp only [recV, rcells, sV, mV, hsN, outC, if_neg hne.1, if_neg hne.2, zeroR] at hrec hgA hgB hgC
  have hml : (R.mems.flatMap mc).length = 3 * R.mems.length := by rw [flat_len mc_len]; omega
  generalize R.mems.flatMap mc = FF at *
  generalize putT R = T at *
  have hT : T ≠ [] := fun h => by rw [h] at hlen; simp at hlen
  obtain ⟨p, htm, hp⟩ : ∃ p : Nat, (max 0 cut).tmod (T.length : Int) = p ∧ p < T.length := by
    refine ⟨(max 0 cut).toNat % T.length, ?_, Nat.mod_lt _ hlen.1⟩
    obtain ⟨q, hq⟩ : ∃ q : Nat, max 0 cut = q := ⟨(max 0 cut).toNat, by omega⟩
    rw [hq, Int.toNat_natCast]
    exact (Int.ofNat_tmod _ _).symm
  have hgB := hgB p hp
  have hp2 : p ≤ T.length := Nat.le_of_lt hp
  have hl2 : T.length ≤ 4611686018427387903 := by omega
  have hl3 : (T.length : Int) ≤ 2048 := by omega
  simp (disch := first | omega | (simp; done) | (simp; omega)) [recV, rcells, hrec, hw, ro_length, hml, hA, hQ, hgA, hgB, hgC, hlen, hT, htm, hp, hp2, hl2, hl3]

theorem put_no (M : Mem) (R : Rec) (sv mv : AV) (h : IsRec M R sv mv) (h1 : R.seats.length ≤ 30) (h2 : R.mems.length ≤ 20) (hg : goodP R = false) :
    callFn SP 12 8 [recV R sv mv] M = some (.tuple [.str [], .int .i64 4], [], M) := by
  have := put_ev 7 M R sv mv h h1 h2
  rw [hg] at this
  exact this

set_option maxHeartbeats 16000000 in
theorem back_bad (M : Mem) (hw : ∀ l, callFn SP 12 10 [] (mk l :: ro M) = some (.bool true, [], mk l :: ro M)) (r : Rec) (sv dv : AV) (seats : List Int) (ds : List Dk) (cut : Int)
    (hs : WS M (AV.int .i64) sv seats) (hd : WM M 4 dc dv ds) (hg : goodP (recOf r seats ds) = false) : callFn SP 13 4 [recV r sv dv, .int .i64 cut] M = some (.bool true, [], M) := by
  have hrec := fun l => records_ev 11 (mk l :: ro M) r sv dv seats ds (hs.ro.cons _) (hd.ro.cons _)
  have hRs : (recOf r seats ds).seats.length ≤ 30 := by simp [recOf]; omega
  have hRm : (recOf r seats ds).mems.length ≤ 20 := by simp [recOf]; omega
  generalize recOf r seats ds = R at hrec hRs hRm hg
  obtain ⟨count, epoch, data, slots, mark, built, growing, seats0, mems0⟩ := r
  rw [call_fn (f := 4) (by rfl) (by simp)]
  have hml : (R.mems.flatMap mc).length = 3 * R.mems.length := by rw [flat_len mc_len]; omega
  by_cases hS : R.seats = []
  · by_cases hM : R.mems = []
    · have hI : ∀ l e e', IsRec (mk l :: ro M) R (.slice none 0 e) (.slice none 0 e') := fun l e e' => rec_topN hS hM
      have hA := fun l e e' => put_no _ R _ _ (hI l e e') hRs hRm hg
      have hB := fun l e e' => good_at M R _ _ l (hI l e e') hg
      simp only [recV, rcells, sV, mV, hsN, outC, if_pos hS, if_pos hM] at hrec hA hB
      generalize R.mems.flatMap mc = FF at *
      simp (disch := first | omega | (simp; done) | (simp; omega)) [recV, rcells, hrec, hw, ro_length, hml, hA, hB]
    · have hI : ∀ l j e z, mk l j = some (.cells (R.mems.flatMap mc) false true) → z = 3 * R.mems.length → IsRec (mk l :: ro M) R (.slice none 0 e) (.slice (some ⟨M.length, j, z, 0⟩) R.mems.length 3) := fun l j e z h hz => rec_topM hS h hRm (by rw [ro_length]) hz rfl
      have hA := fun l j e z h hz => put_no _ R _ _ (hI l j e z h hz) hRs hRm hg
      have hB := fun l j e z h hz => good_at M R _ _ l (hI l j e z h hz) hg
      simp only [recV, rcells, sV, mV, hsN, outC, if_pos hS, if_neg hM] at hrec hA hB
      generalize R.mems.flatMap mc = FF at *
      simp (disch := first | omega | (simp; done) | (simp; omega)) [recV, rcells, hrec, hw, ro_length, hml, hA, hB]
  · by_cases hM : R.mems = []
    · have hI : ∀ l i e, mk l i = some (.cells (R.seats.map (AV.int .i64)) false true) → IsRec (mk l :: ro M) R (.slice (some ⟨M.length, i, R.seats.length, 0⟩) R.seats.length 1) (.slice none 0 e) := fun l i e h => rec_topS hM h hRs (by rw [ro_length]) rfl rfl
      have hA := fun l i e h => put_no _ R _ _ (hI l i e h) hRs hRm hg
      have hB := fun l i e h => good_at M R _ _ l (hI l i e h) hg
      simp only [recV, rcells, sV, mV, hsN, outC, if_neg hS, if_pos hM] at hrec hA hB
      generalize R.mems.flatMap mc = FF at *
      simp (disch := first | omega | (simp; done) | (simp; omega)) [recV, rcells, hrec, hw, ro_length, hml, hA, hB]
    · have hI : ∀ l i j, mk l i = some (.cells (R.seats.map (AV.int .i64)) false true) → mk l j = some (.cells (R.mems.flatMap mc) false true) →
          IsRec (mk l :: ro M) R (.slice (some ⟨M.length, i, R.seats.length, 0⟩) R.seats.length 1) (.slice (some ⟨M.length, j, 3 * R.mems.length, 0⟩) R.mems.length 3) := fun l i j h h' => rec_top h h' hRs hRm (by rw [ro_length]) (by rw [ro_length]) rfl rfl rfl rfl
      have hA := fun l i j h h' => put_no _ R _ _ (hI l i j h h') hRs hRm hg
      have hB := fun l i j h h' => good_at M R _ _ l (hI l i j h h') hg
      simp only [recV, rcells, sV, mV, hsN, outC, if_neg hS, if_neg hM] at hrec hA hB
      generalize R.mems.flatMap mc = FF at *
      simp (disch := first | omega | (simp; done) | (simp; omega)) [recV, rcells, hrec, hw, ro_length, hml, hA, hB]

theorem back_core (M : Mem) (hw : ∀ l, callFn SP 12 10 [] (mk l :: ro M) = some (.bool true, [], mk l :: ro M)) (r : Rec) (sv dv : AV) (seats : List Int) (ds : List Dk) (cut : Int)
    (hs : WS M (AV.int .i64) sv seats) (hd : WM M 4 dc dv ds) (hcut : -2 ^ 63 ≤ cut ∧ cut < 2 ^ 63) : callFn SP 13 4 [recV r sv dv, .int .i64 cut] M = some (.bool true, [], M) := by
  cases hg : goodP (recOf r seats ds)
  · exact back_bad M hw r sv dv seats ds cut hs hd hg
  · exact back_good M hw r sv dv seats ds cut hs hd hcut hg

theorem ev_SuperBack (s : Scope) (args : List AV) (h : ArgsShp s [rawTy, .int .i64] args) : ∃ k M', callFn SP k 4 args [s, mk []] = some (.bool true, [], M') := by
  obtain ⟨v, vs, rfl, hv, h⟩ := h
  obtain ⟨b, vs, rfl, hb, h⟩ := h
  have h0 : vs = [] := h
  subst h0
  obtain ⟨r, sv, dv, seats, ds, rfl, hs, hd, hsl, hdl⟩ := raw_shp (mk []) hv
  obtain ⟨by_, rfl, hby⟩ := ArgShp_i64 hb
  exact ⟨13, [s, mk []], back_core [s, mk []] (fun l => wakes_ev (mk l) (roScope s) (roScope (mk []))) r sv dv seats ds by_ hs hd (by omega)⟩

end Go.Proofs.Ytaennaoaoahjmaa

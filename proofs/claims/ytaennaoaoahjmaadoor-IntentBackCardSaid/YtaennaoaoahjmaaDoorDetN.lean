/-
  DET, part N: how the evaluator is walked: one operation at a time, what is not yet decided stays as it is.
-/
import Derived.Test.YtaennaoaoahjmaaDoorDetM
set_option linter.unusedSimpArgs false
set_option linter.unusedVariables false
namespace Go.Det

/-- An equation that simp takes as a rule with a proof, not as an unfolding. -/
theorem nodef {α : Type} {a b : α} (h : a = b) : a = b := h

/- What comes behind is kept as data: a walk that stands still at something undecided does not look into what comes behind. -/

def andOps (r : Option (Env × Mem)) (C : Calls) (l : List SOper) : Option (Env × Mem) :=
  match r with
  | some (e, M) => evOps C l e M
  | none => none
theorem andOps_some (e : Env) (M : Mem) (C : Calls) (l : List SOper) : andOps (some (e, M)) C l = evOps C l e M := nodef rfl

def andCode (r : Option (Ex × Env × Mem)) (C : Calls) (b : SCode) : Option (Ex × Env × Mem) :=
  match r with
  | some (.normal, e, M) => evC C b e M
  | r => r
theorem andCode_normal (e : Env) (M : Mem) (C : Calls) (b : SCode) : andCode (some (.normal, e, M)) C b = evC C b e M := nodef rfl
theorem andCode_exit (i : Nat) (e : Env) (M : Mem) (C : Calls) (b : SCode) : andCode (some (.exit i, e, M)) C b = some (.exit i, e, M) := nodef rfl
theorem andCode_ret (e : Env) (M : Mem) (C : Calls) (b : SCode) : andCode (some (.ret, e, M)) C b = some (.ret, e, M) := nodef rfl

def tst (v : AV) (C : Calls) (x y : SCode) (e : Env) (M : Mem) : Option (Ex × Env × Mem) :=
  match v with
  | .bool true => evC C x e M
  | .bool false => evC C y e M
  | _ => none
theorem tst_true (C : Calls) (x y : SCode) (e : Env) (M : Mem) : tst (.bool true) C x y e M = evC C x e M := nodef rfl
theorem tst_false (C : Calls) (x y : SCode) (e : Env) (M : Mem) : tst (.bool false) C x y e M = evC C y e M := nodef rfl

def blk (id : Nat) (r : Option (Ex × Env × Mem)) : Option (Ex × Env × Mem) :=
  match r with
  | some (.exit i, e, M) => if i = id then some (.normal, e, M) else some (.exit i, e, M)
  | r => r
theorem blk_normal (id : Nat) (e : Env) (M : Mem) : blk id (some (.normal, e, M)) = some (.normal, e, M) := nodef rfl
theorem blk_exit (id i : Nat) (e : Env) (M : Mem) : blk id (some (.exit i, e, M)) = if i = id then some (.normal, e, M) else some (.exit i, e, M) := nodef rfl
theorem blk_ret (id : Nat) (e : Env) (M : Mem) : blk id (some (.ret, e, M)) = some (.ret, e, M) := nodef rfl

def toC (r : Option (Env × Mem)) : Option (Ex × Env × Mem) :=
  match r with
  | some (e, M) => some (.normal, e, M)
  | none => none
theorem toC_some (e : Env) (M : Mem) : toC (some (e, M)) = some (.normal, e, M) := nodef rfl

/-- A value goes where it belongs. -/
def putV (r : Option AV) (e : Env) (d : Option Nat) (M : Mem) : Option (Env × Mem) :=
  match r with
  | some v => some (setDst e d v, M)
  | none => none
theorem putV_some (v : AV) (e : Env) (d : Nat) (M : Mem) : putV (some v) e (some d) M = some (e.set d v, M) := nodef rfl
theorem putV_none (v : AV) (e : Env) (M : Mem) : putV (some v) e none M = some (e, M) := nodef rfl

def putW (r : Option (AV × Mem)) (e : Env) (d : Option Nat) : Option (Env × Mem) :=
  match r with
  | some (v, M) => some (setDst e d v, M)
  | none => none
theorem putW_some (v : AV) (e : Env) (d : Nat) (M : Mem) : putW (some (v, M)) e (some d) = some (e.set d v, M) := nodef rfl
theorem putW_none (v : AV) (e : Env) (M : Mem) : putW (some (v, M)) e none = some (e, M) := nodef rfl

def wthV (r : Option AV) (M : Mem) : Option (AV × Mem) :=
  match r with
  | some v => some (v, M)
  | none => none
theorem wthV_some (v : AV) (M : Mem) : wthV (some v) M = some (v, M) := nodef rfl

def mkB (r : Option (Con × (AAddr → AV))) (id : Nat) (M : Mem) : Option (AV × Mem) :=
  match r with
  | some (c, f) => match allocTop id c M with
    | some (a, M) => some (f a, M)
    | none => none
  | none => none

def hidW (r : Option (AV × Mem)) (h : List Nat) (s : Scope) (e : Env) (d : Option Nat) : Option (Env × Mem) :=
  match r with
  | some (v, s' :: M0) => some (setDst e d v, join h s s' :: M0)
  | _ => none
theorem hidW_some (v : AV) (s' : Scope) (M0 : Mem) (h : List Nat) (s : Scope) (e : Env) (d : Nat) : hidW (some (v, s' :: M0)) h s e (some d) = some (e.set d v, join h s s' :: M0) := nodef rfl
theorem hidW_none (v : AV) (s' : Scope) (M0 : Mem) (h : List Nat) (s : Scope) (e : Env) : hidW (some (v, s' :: M0)) h s e none = some (e, join h s s' :: M0) := nodef rfl

section
variable (C : Calls) (e : Env) (M : Mem)

theorem ev_skip : evC C .skip e M = some (.normal, e, M) := nodef rfl
theorem ev_ret : evC C .ret e M = some (.ret, e, M) := nodef rfl
theorem ev_exit (i : Nat) : evC C (.exit i) e M = some (.exit i, e, M) := nodef rfl
theorem ev_seq (a b : SCode) : evC C (.seq a b) e M = andCode (evC C a e M) C b := nodef rfl
theorem ev_cond (c : Opd) (a b : SCode) : evC C (.cond c a b) e M = tst (opd e c) C a b e M := nodef rfl
theorem ev_block (i : Nat) (c : SCode) : evC C (.block i c) e M = blk i (evC C c e M) := nodef rfl
theorem ev_region (l : List SOper) : evC C (.region l) e M = toC (evOps C l e M) := by
  simp only [evC, toC]
  cases evOps C l e M <;> rfl

/-- A region's end, where blocks are told apart. -/
def toF (r : Option (Env × Mem)) (far : List (Nat × Nat)) : Option (Ex × Env × Mem) :=
  match r with
  | some (e, M) => if farOk e far = true then some (.normal, e, M) else none
  | none => none
theorem ev_regionF (l : List SOper) (far : List (Nat × Nat)) : evC C (.regionF l far) e M = toF (evOps C l e M) far := by
  simp only [evC, toF]
  cases evOps C l e M <;> rfl
theorem toF_some (far : List (Nat × Nat)) : toF (some (e, M)) far = if farOk e far = true then some (.normal, e, M) else none := nodef rfl

theorem ev_nil : evOps C [] e M = some (e, M) := nodef rfl
theorem ev_cons (o : SOper) (l : List SOper) : evOps C (o :: l) e M = andOps (evOper C o e M) C l := by
  simp only [evOps, andOps]
  cases evOper C o e M <;> rfl

/-- An operation that moves a value. -/
theorem ev_mv (d : Nat) (x : Opd) (l : List SOper) : evOps C (⟨some d, none, [], .p (.mv x)⟩ :: l) e M = evOps C l (e.set d (opd e x)) M := by
  simp only [evOps, evOper, wants, evOp, evP, setDst]

theorem ev_p (d : Option Nat) (p : POp) : evOper C ⟨d, none, [], .p p⟩ e M = putV (evP p e) e d M := by
  simp only [evOper, wants, evOp, putV]
  cases evP p e <;> rfl
theorem ev_r (d : Option Nat) (r : ROp) : evOper C ⟨d, none, [], .r r⟩ e M = putV (evR r e M) e d M := by
  simp only [evOper, wants, evOp, putV]
  cases evR r e M <;> rfl
theorem ev_w (d : Option Nat) (r : WOp) : evOper C ⟨d, none, [], .w r⟩ e M = putW (evW r e M) e d := by
  simp only [evOper, wants, evOp, putW]
  cases evW r e M <;> rfl
theorem ev_a (d : Option Nat) (id : Nat) (o : AOp) : evOper C ⟨d, none, [], .a id o⟩ e M = putW (mkB (evA o e) id M) e d := by
  simp only [evOper, wants, evOp, putW, mkB]
  cases evA o e with
  | none => rfl
  | some p => obtain ⟨c, f⟩ := p; simp only; cases allocTop id c M <;> rfl
theorem ev_call (d : Option Nat) (id n : Nat) (q : Bool) (f : Opd) (args : List Opd) : evOper C ⟨d, none, [], .call id n q f args⟩ e M = putW (callOp C id n q (opd e f) (opds e args) M) e d := by
  simp only [evOper, wants, evOp, putW]
  cases callOp C id n q (opd e f) (opds e args) M <;> rfl

theorem ev_hide (d : Option Nat) (x : Nat) (h : List Nat) (op : SOp) (s : Scope) (M0 : Mem) : evOper C ⟨d, none, x :: h, op⟩ e (s :: M0) = hidW (evOp C op e (without (x :: h) s :: M0)) (x :: h) s e d := by
  simp only [evOper, wants, hidW]
  cases evOp C op e (without (x :: h) s :: M0) with
  | none => rfl
  | some p => obtain ⟨v, M'⟩ := p; cases M' <;> rfl
theorem evo_p (p : POp) : evOp C (.p p) e M = wthV (evP p e) M := by
  simp only [evOp, wthV]; cases evP p e <;> rfl
theorem evo_r (r : ROp) : evOp C (.r r) e M = wthV (evR r e M) M := by
  simp only [evOp, wthV]; cases evR r e M <;> rfl
theorem evo_w (r : WOp) : evOp C (.w r) e M = evW r e M := nodef rfl
theorem evo_a (id : Nat) (o : AOp) : evOp C (.a id o) e M = mkB (evA o e) id M := by
  simp only [evOp, mkB]
  rfl
theorem evo_call (id n : Nat) (q : Bool) (f : Opd) (args : List Opd) : evOp C (.call id n q f args) e M = callOp C id n q (opd e f) (opds e args) M := nodef rfl

/-- Under a guard. -/
def gd (w : Option Bool) (C : Calls) (o : SOper) (e : Env) (M : Mem) : Option (Env × Mem) :=
  match w with
  | some true => evOper C o e M
  | some false => some (setDst e o.dst .undef, M)
  | none => none
theorem ev_guard (d : Option Nat) (t : Nat) (b : Bool) (h : List Nat) (op : SOp) : evOper C ⟨d, some (t, b), h, op⟩ e M = gd (wants e (some (t, b))) C ⟨d, none, h, op⟩ e M := by
  cases hw : wants e (some (t, b)) with
  | none => unfold evOper gd; simp only [hw]
  | some w => cases w <;> (unfold evOper gd; simp only [hw]; try rfl)
theorem gd_true (o : SOper) : gd (some true) C o e M = evOper C o e M := nodef rfl
theorem gd_false (d : Nat) (g) (h : List Nat) (op : SOp) : gd (some false) C ⟨some d, g, h, op⟩ e M = some (e.set d .undef, M) := nodef rfl
end

theorem bin_int (op : BinOp) (k : IntKind) (a b : Int) (h : op ≠ .shl ∧ op ≠ .shr) : abin op (.int k a) (.int k b) = aint op k a b := by
  cases op <;> simp [abin] at h ⊢

theorem ab_add (k : IntKind) (a b : Int) : abin .add (.int k a) (.int k b) = some (.int k (k.wrap (a + b))) := by simp [abin, aint]
theorem ab_sub (k : IntKind) (a b : Int) : abin .sub (.int k a) (.int k b) = some (.int k (k.wrap (a - b))) := by simp [abin, aint]
theorem ab_mul (k : IntKind) (a b : Int) : abin .mul (.int k a) (.int k b) = some (.int k (k.wrap (a * b))) := by simp [abin, aint]
theorem ab_quo (k : IntKind) (a b : Int) : abin .quo (.int k a) (.int k b) = if b = 0 then none else some (.int k (k.wrap (a.tdiv b))) := by simp [abin, aint]
theorem ab_rem (k : IntKind) (a b : Int) : abin .rem (.int k a) (.int k b) = if b = 0 then none else some (.int k (a.tmod b)) := by simp [abin, aint]
theorem ab_lss (k : IntKind) (a b : Int) : abin .lss (.int k a) (.int k b) = some (.bool (decide (a < b))) := by simp [abin, aint]
theorem ab_leq (k : IntKind) (a b : Int) : abin .leq (.int k a) (.int k b) = some (.bool (decide (a ≤ b))) := by simp [abin, aint]
theorem ab_gtr (k : IntKind) (a b : Int) : abin .gtr (.int k a) (.int k b) = some (.bool (decide (a > b))) := by simp [abin, aint]
theorem ab_geq (k : IntKind) (a b : Int) : abin .geq (.int k a) (.int k b) = some (.bool (decide (a ≥ b))) := by simp [abin, aint]
theorem ab_eql (k : IntKind) (a b : Int) : abin .eql (.int k a) (.int k b) = some (.bool (decide (a = b))) := by simp [abin, aint]; rfl
theorem ab_neq (k : IntKind) (a b : Int) : abin .neq (.int k a) (.int k b) = some (.bool (decide (a ≠ b))) := by
  simp [abin, aint, bne]
  by_cases h : a = b <;> simp [h]

/-! ### memory that is told -/

theorem mk_nil (i : Nat) : mk [] i = none := nodef rfl
theorem mk_cons (i j : Nat) (c : Con) (l : List (Nat × Con)) : mk ((j, c) :: l) i = if i = j then some c else mk l i := nodef rfl

def ups (i : Nat) (c : Con) : List (Nat × Con) → List (Nat × Con)
  | [] => [(i, c)]
  | (j, x) :: l => if j = i then (i, c) :: l else (j, x) :: ups i c l

theorem setAt_mk (i : Nat) (c : Con) (l : List (Nat × Con)) : setAt (mk l) i (some c) = mk (ups i c l) := by
  induction l with
  | nil => funext j; simp [setAt, mk, ups]
  | cons p l ih =>
    obtain ⟨k, x⟩ := p
    funext j
    have h := congrFun ih j
    simp only [setAt, ups] at h ⊢
    by_cases hk : k = i
    · subst hk
      simp only [mk, if_true]
      by_cases hj : j = k <;> simp [hj]
    · simp only [hk, if_false, mk]
      by_cases hj : j = i
      · subst hj
        simp only [if_true] at h ⊢
        rw [if_neg (fun h => hk h.symm)]
        exact h
      · simp only [hj, if_false] at h ⊢
        by_cases hjk : j = k
        · simp [hjk]
        · simp only [hjk, if_false]; exact h

theorem only_mk (h : List Nat) (l : List (Nat × Con)) : only h (mk l) = mk (l.filter fun p => h.contains p.1) := by
  induction l with
  | nil => funext j; simp [only, mk]
  | cons p l ih =>
    obtain ⟨k, x⟩ := p
    funext j
    have hh := congrFun ih j
    simp only [only, List.filter_cons] at hh ⊢
    by_cases hk : h.contains k = true
    · simp only [hk, if_true, mk]
      by_cases hj : j = k
      · subst hj; simp only [hk, if_true]
      · simp only [hj, if_false]; exact hh
    · simp only [hk, Bool.false_eq_true, if_false, mk]
      by_cases hj : j = k
      · subst hj
        simp only [hk, Bool.false_eq_true, if_false, if_true] at hh ⊢
        exact hh
      · simp only [hj, if_false]; exact hh

theorem without_mk (h : List Nat) (l : List (Nat × Con)) : without h (mk l) = mk (l.filter fun p => !h.contains p.1) := by
  induction l with
  | nil => funext j; simp [without, mk]
  | cons p l ih =>
    obtain ⟨k, x⟩ := p
    funext j
    have hh := congrFun ih j
    simp only [without, List.filter_cons] at hh ⊢
    by_cases hk : h.contains k = true
    · simp only [hk, Bool.not_true, Bool.false_eq_true, if_false, mk]
      by_cases hj : j = k
      · subst hj
        simp only [hk, if_true] at hh ⊢
        exact hh
      · simp only [hj, if_false]; exact hh
    · simp only [hk, Bool.not_false, if_true, mk]
      by_cases hj : j = k
      · subst hj; simp only [hk, Bool.false_eq_true, if_false, if_true]
      · simp only [hj, if_false]; exact hh

theorem mk_append (l m : List (Nat × Con)) (j : Nat) : mk (l ++ m) j = match mk l j with | some c => some c | none => mk m j := by
  induction l with
  | nil => rfl
  | cons p l ih =>
    obtain ⟨k, x⟩ := p
    simp only [List.cons_append, mk]
    by_cases hj : j = k <;> simp [hj, ih]

theorem join_mk (h : List Nat) (l m : List (Nat × Con)) : join h (mk l) (mk m) = mk ((l.filter fun p => h.contains p.1) ++ m.filter fun p => !h.contains p.1) := by
  funext j
  rw [mk_append, ← only_mk, ← without_mk]
  simp only [join, only, without]
  by_cases hj : h.contains j = true
  · simp only [hj, if_true]; cases mk l j <;> rfl
  · simp only [hj, Bool.false_eq_true, if_false]

theorem alloc_top (id : Nat) (c : Con) (s : Scope) (M : Mem) : allocTop id c (s :: M) = match s id with | some _ => none | none => some (⟨M.length, id, c.size, 0⟩, setAt s id (some c) :: M) := nodef rfl

theorem get_top (s : Scope) (M : Mem) (id sz off : Nat) : get (s :: M) ⟨M.length, id, sz, off⟩ = match s id with | some c => if c.size = sz then some c else none | none => none := by
  simp only [get, ent, if_true]
  cases s id <;> rfl

theorem put_top (s : Scope) (M : Mem) (id : Nat) (x : Con) : put (s :: M) M.length id x = setAt s id (some x) :: M := by
  simp only [put, if_true]

theorem get_lt {M : Mem} {a : AAddr} {c : Con} (h : get M a = some c) : a.dep < M.length := by
  unfold get at h
  split at h
  · rename_i c1 hc; exact ent_lt (by rw [hc]; simp)
  · cases h

theorem get_low {s : Scope} {M : Mem} {a : AAddr} (h : a.dep < M.length) : get (s :: M) a = get M a := by
  simp only [get, ent]
  rw [if_neg (by omega)]

theorem put_low {s : Scope} {M : Mem} {e id : Nat} {x : Con} (h : e < M.length) : put (s :: M) e id x = s :: put M e id x := by
  simp only [put]
  rw [if_neg (by omega)]

/-- What stands behind an address, whether it may be written or not. -/
def Has (M : Mem) (a : AAddr) (c : List AV) : Prop := ∃ rw fl, get M a = some (.cells c rw fl)

theorem Has.cons {M : Mem} {a : AAddr} {c : List AV} (h : Has M a c) (s : Scope) : Has (s :: M) a c := by
  obtain ⟨r, f, h⟩ := h
  exact ⟨r, f, by rw [get_low (get_lt h)]; exact h⟩

theorem get_ro {M : Mem} {a : AAddr} : get (ro M) a = (get M a).map Con.ro := by
  unfold get
  rw [ent_ro]
  cases ent M a.dep a.id with
  | none => rfl
  | some c =>
    simp only [Option.map_some]
    have : c.ro.size = c.size := by cases c <;> rfl
    rw [this]
    split <;> rfl

theorem Has.ro {M : Mem} {a : AAddr} {c : List AV} (h : Has M a c) : Has (Det.ro M) a c := by
  obtain ⟨r, f, h⟩ := h
  exact ⟨false, f, by rw [get_ro, h]; rfl⟩

theorem Has.lt {M : Mem} {a : AAddr} {c : List AV} (h : Has M a c) : a.dep < M.length := by obtain ⟨r, f, h⟩ := h; exact get_lt h

/-! ### loops -/

theorem loop_mono {keep : List Nat} {body : Env → Mem → Option (Ex × Env × Mem)} {r : Ex × Env × Mem} : ∀ (n m : Nat) (e : Env) (M : Mem), n ≤ m → evLoop keep body n e M = some r → evLoop keep body m e M = some r
  | 0, m, e, M, _, h => by simp [evLoop] at h
  | n + 1, m, e, M, hm, h => by
    obtain ⟨m, rfl⟩ : ∃ k, m = k + 1 := ⟨m - 1, by omega⟩
    simp only [evLoop] at h ⊢
    split at h
    · cases h
    · rename_i e1 M1 hg
      split at h
      · rename_i e2 M2 hb
        exact loop_mono n m e2 M2 (by omega) h
      · exact h

/-- A round. -/
def rnd (r : Option (Ex × Env × Mem)) (keep : List Nat) (C : Calls) (c : SCode) (n : Nat) : Option (Ex × Env × Mem) :=
  match r with
  | some (.normal, e, M) => evLoop keep (evC C c) n e M
  | r => r
theorem rnd_normal (keep : List Nat) (C c) (n : Nat) (e : Env) (M : Mem) : rnd (some (.normal, e, M)) keep C c n = evLoop keep (evC C c) n e M := nodef rfl
theorem rnd_exit (keep : List Nat) (C c) (n i : Nat) (e : Env) (M : Mem) : rnd (some (.exit i, e, M)) keep C c n = some (.exit i, e, M) := nodef rfl
theorem rnd_ret (keep : List Nat) (C c) (n : Nat) (e : Env) (M : Mem) : rnd (some (.ret, e, M)) keep C c n = some (.ret, e, M) := nodef rfl

def rnd0 (r : Option (Env × Mem)) (keep : List Nat) (C : Calls) (c : SCode) (n : Nat) : Option (Ex × Env × Mem) :=
  match r with
  | some (e, M) => rnd (evC C c e M) keep C c n
  | none => none
theorem rnd0_some (e : Env) (M : Mem) (keep : List Nat) (C : Calls) (c : SCode) (n : Nat) : rnd0 (some (e, M)) keep C c n = rnd (evC C c e M) keep C c n := nodef rfl

theorem loop_round (keep : List Nat) (C : Calls) (c : SCode) (n : Nat) (e : Env) (M : Mem) : evLoop keep (evC C c) (n + 1) e M = rnd0 (gc keep e M) keep C c n := by
  simp only [evLoop, rnd0]
  cases gc keep e M with
  | none => rfl
  | some p => obtain ⟨e, M⟩ := p; simp only [rnd]; split <;> simp_all

theorem fgt_some (after : List Nat) (ex : Ex) (e : Env) (M : Mem) : fgt after (some (ex, e, M)) = match gc after e M with | some (e, M) => some (ex, e, M) | none => none := nodef rfl

theorem ev_loop {C : Calls} {keep after : List Nat} {c : SCode} {e : Env} {M : Mem} {p : Env × Mem} {r : Ex × Env × Mem} (n : Nat) (hg : gc keep e M = some p) (h : fgt after (rnd0 (some p) keep C c n) = some r) (hn : n < 2 ^ 50) :
    evC C (.loop keep after c) e M = some r := by
  have h1 : evLoop keep (evC C c) (n + 1) e M = rnd0 (some p) keep C c n := by rw [loop_round, hg]
  cases h2 : rnd0 (some p) keep C c n with
  | none => rw [h2] at h; cases h
  | some q =>
    have h3 := loop_mono (n + 1) rounds e M hn (h1.trans h2)
    simp only [evC]
    rw [h3, ← h2]
    exact h

theorem gc_eq (keep : List Nat) (e : Env) (l : List (Nat × Con)) (M0 : Mem) (r1 r2 : List Nat) (h1 : envIds M0.length e keep = r1) (h2 : r1 ++ scopeIds M0.length (mk l) r1 = r2) (h3 : (scopeIds M0.length (mk l) r2).all r2.contains = true) :
    gc keep e (mk l :: M0) = some (keepEnv keep 0 e, mk (l.filter fun p => r2.contains p.1) :: M0) := by
  simp only [gc]
  rw [h1, h2, if_pos h3, only_mk]

/-! ### calls -/

def fin (id n : Nat) (s : Scope) (M0 : Mem) (v : AV) (cs : List Con) : Option (AV × Mem) :=
  if cs.length ≤ n then match takeC id cs s with
    | some s' => some (takeV M0.length id v, s' :: M0)
    | none => none
  else none

def backQ (r : Option (AV × List Con × Mem)) (id n : Nat) (s : Scope) (M0 : Mem) : Option (AV × Mem) :=
  match r with
  | some (v, cs, _) => fin id n s M0 v cs
  | none => none
theorem backQ_some (v : AV) (cs : List Con) (M' : Mem) (id n : Nat) (s : Scope) (M0 : Mem) : backQ (some (v, cs, M')) id n s M0 = fin id n s M0 v cs := nodef rfl

theorem call_quiet (C : Calls) (id n i : Nat) (f c args : List AV) (s : Scope) (M0 : Mem) : callOp C id n true (.func i f c) args (s :: M0) = backQ (C i (f ++ args ++ c) (ro (s :: M0))) id n s M0 := by
  simp only [callOp, if_true, backQ, fin]
  cases C i (f ++ args ++ c) (ro (s :: M0)) with
  | none => rfl
  | some p =>
    obtain ⟨v, cs, M'⟩ := p
    simp only [List.length_cons, and_true]
    split
    · cases takeC id cs s <;> rfl
    · rfl

def backL (r : Option (AV × List Con × Mem)) (id n L : Nat) : Option (AV × Mem) :=
  match r with
  | some (v, cs, s :: M0) => if M0.length + 1 = L then fin id n s M0 v cs else none
  | _ => none
theorem backL_some (v : AV) (cs : List Con) (id n L : Nat) (s : Scope) (M0 : Mem) (h : M0.length + 1 = L) : backL (some (v, cs, s :: M0)) id n L = fin id n s M0 v cs := nodef (if_pos h)

theorem call_loud (C : Calls) (id n i : Nat) (f c args : List AV) (M : Mem) : callOp C id n false (.func i f c) args M = backL (C i (f ++ args ++ c) M) id n M.length := by
  simp only [callOp, Bool.false_eq_true, if_false, backL, fin]
  cases C i (f ++ args ++ c) M with
  | none => rfl
  | some p =>
    obtain ⟨v, cs, M'⟩ := p
    cases M' with
    | nil => rfl
    | cons s M0 =>
      simp only
      by_cases hl : M0.length + 1 = M.length
      · simp only [hl, and_true, if_true]
        split
        · cases takeC id cs s <;> rfl
        · rfl
      · simp only [hl, and_false, if_false]

theorem fin_nil (id n : Nat) (s : Scope) (M0 : Mem) (v : AV) : fin id n s M0 v [] = some (takeV M0.length id v, s :: M0) := by simp [fin, takeC]
def tk (r : Option Con) (base : Nat) (c : Con) (cs : List Con) (s : Scope) : Option Scope :=
  match r with
  | some _ => none
  | none => takeC (base + 1) cs (setAt s base (some c))
theorem tk_none (base : Nat) (c : Con) (cs : List Con) (s : Scope) : tk none base c cs s = takeC (base + 1) cs (setAt s base (some c)) := nodef rfl
theorem takeC_nil (base : Nat) (s : Scope) : takeC base [] s = some s := nodef rfl
theorem takeC_cons (base : Nat) (c : Con) (cs : List Con) (s : Scope) : takeC base (c :: cs) s = tk (s base) base c cs s := by
  simp only [takeC, tk]
  cases s base <;> rfl
def fin2 (r : Option Scope) (v : AV) (M0 : Mem) : Option (AV × Mem) :=
  match r with
  | some s' => some (v, s' :: M0)
  | none => none
theorem fin2_some (s' : Scope) (v : AV) (M0 : Mem) : fin2 (some s') v M0 = some (v, s' :: M0) := nodef rfl
theorem fin_cons (id n : Nat) (s : Scope) (M0 : Mem) (v : AV) (c : Con) (cs : List Con) : fin id n s M0 v (c :: cs) = if (c :: cs).length ≤ n then fin2 (tk (s id) id c cs s) (takeV M0.length id v) M0 else none := by
  simp only [fin, takeC, tk, fin2]
  split
  · cases s id <;> rfl
  · rfl

def lv1 (r : Option AV) (s : Scope) (M : Mem) : Option (AV × List Con × Mem) :=
  match r with
  | some v => match expAll M.length s v with
    | some (v, cs) => some (v, cs, M)
    | none => none
  | none => none
def lv2 (r : Option (AV × List Con)) (M : Mem) : Option (AV × List Con × Mem) :=
  match r with
  | some (v, cs) => some (v, cs, M)
  | none => none
theorem lv1_some (v : AV) (s : Scope) (M : Mem) : lv1 (some v) s M = lv2 (expAll M.length s v) M := nodef rfl
theorem lv2_some (v : AV) (cs : List Con) (M : Mem) : lv2 (some (v, cs)) M = some (v, cs, M) := nodef rfl
theorem leave_eq (res) (e : Env) (s : Scope) (M : Mem) : leave res e (s :: M) = lv1 (resOf e (s :: M) res) s M := nodef rfl

/-- A function's end. -/
def endF (res : List (Sum Nat (Nat × Nat × Bool))) (r : Option (Ex × Env × Mem)) : Option (AV × List Con × Mem) :=
  match r with
  | some (.normal, e, M) | some (.ret, e, M) => leave res e M
  | _ => none
theorem endF_normal (res) (e : Env) (M : Mem) : endF res (some (.normal, e, M)) = leave res e M := nodef rfl
theorem endF_ret (res) (e : Env) (M : Mem) : endF res (some (.ret, e, M)) = leave res e M := nodef rfl

theorem call_fn {SP : SProg} {k f : Nat} {body : SCode} {nt : Nat} {res} {args : List AV} {M : Mem} (hf : SP.fn f = some ⟨body, nt, res⟩) (hn : args.length ≤ nt) :
    callFn SP (k + 1) f args M = endF res (evC (callFn SP k) body (args ++ List.replicate (nt - args.length) .undef) (mk [] :: M)) := by
  simp only [callFn, hf, runFn]
  rw [if_neg (by omega)]
  unfold endF
  split <;> simp_all

/-! ### a program out of a list -/

def look (f : Nat) : List (Nat × SFunc) → Option SFunc
  | [] => none
  | (k, s) :: l => if f = k then some s else look f l

def tabP (tab : List (Nat × SFunc)) : SProg := ⟨fun f => look f tab, fun _ _ _ => none⟩

def AllC (P : Program) : List (Nat × SFunc) → Prop
  | [] => True
  | p :: l => (∃ (q : Qs) (fn : Func) (hints : List (List Nat)), P.funcs[p.1]? = some fn ∧ cFunc P q fn hints = some p.2) ∧ AllC P l

theorem look_all {P : Program} {f : Nat} {sf : SFunc} : ∀ {tab : List (Nat × SFunc)}, AllC P tab → look f tab = some sf → ∃ (q : Qs) (fn : Func) (hints : List (List Nat)), P.funcs[f]? = some fn ∧ cFunc P q fn hints = some sf
  | [], _, h => by simp [look] at h
  | (k, s) :: l, ha, h => by
    simp only [look] at h
    split at h
    · rename_i hk
      subst hk
      cases h
      exact ha.1
    · exact look_all ha.2 h

theorem comp_of {P : Program} {tab : List (Nat × SFunc)} (h1 : P.follows .mixedOrders = true) (hb : BldOk P) (h2 : AllC P tab) : Comp P (tabP tab) :=
  ⟨h1, fun f sf h => look_all h2 h, hb, fun f args M r cs M' h => by simp [tabP] at h⟩

end Go.Det

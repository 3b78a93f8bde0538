/-
  DET, part Q: the walk's rules, for simp.
-/
import Derived.Test.YtaennaoaoahjmaaDoorDetP
set_option linter.unusedVariables false
namespace Go.Det

/-- A number as a bare number. -/
def toI (v : AV) : AV := v
theorem toI_int (k : IntKind) (n : Int) : toI (.int k n) = .int k n := nodef rfl
theorem toI_u64 (n : BitVec 64) : toI (u64 n) = .int .u64 (n.toNat : Int) := nodef rfl
theorem toI_u32 (n : BitVec 32) : toI (u32 n) = .int .u32 (n.toNat : Int) := nodef rfl
theorem toI_u8 (n : UInt8) : toI (byteAV n) = .int .u8 (n.toNat : Int) := nodef rfl

theorem ev_iaddrA (e : Env) (len esz : Nat) (x i : Opd) : evP (.iaddrA len esz x i) e = match opd e x, toI (opd e i) with
    | .ptr (some a), .int _ i => if 0 ≤ i ∧ i < (len : Int) then some (.ptr (some { a with off := a.off + i.toNat * esz })) else none
    | _, _ => none := nodef rfl
theorem ev_iaddrS (e : Env) (esz : Nat) (x i : Opd) : evP (.iaddrS esz x i) e = match opd e x, toI (opd e i) with
    | .slice (some a) n s, .int _ i => if s = esz ∧ 0 ≤ i ∧ i < (n : Int) then some (.ptr (some { a with off := a.off + i.toNat * esz })) else none
    | _, _ => none := nodef rfl
def byteAt (s : List UInt8) (n : Nat) : Option AV := match s[n]? with
  | some b => some (byteAV b)
  | none => none
theorem byteAt_lt (s : List UInt8) (n : Nat) (h : n < s.length) : byteAt s n = some (byteAV (nth s n)) := by
  simp only [byteAt, getElem?_nth s n h]
theorem ev_idxStr2 (e : Env) (x i : Opd) : evP (.idxStr x i) e = match opd e x, toI (opd e i) with
    | .str s, .int _ i => if 0 ≤ i then byteAt s i.toNat else none
    | _, _ => none := nodef rfl
theorem ev_idxA (e : Env) (len : Nat) (x i : Opd) : evP (.idxA len x i) e = match opd e x, toI (opd e i) with
    | .agg cs, .int _ i => if 0 ≤ i ∧ i < (len : Int) then cs[i.toNat]? else none
    | _, _ => none := nodef rfl
theorem ev_idxAN (e : Env) (len esz : Nat) (x i : Opd) : evP (.idxAN len esz x i) e = match opd e x, toI (opd e i) with
    | .agg cs, .int _ i => if 0 ≤ i ∧ i < (len : Int) ∧ i.toNat * esz + esz ≤ cs.length then some (.agg ((cs.drop (i.toNat * esz)).take esz)) else none
    | _, _ => none := nodef rfl
theorem bound_none (e : Env) (m d : Nat) : bound e m none d = some d := nodef rfl
theorem bound_some (e : Env) (m d : Nat) (x : Opd) : bound e m (some x) d = match toI (opd e x) with
    | .int _ i => if 0 ≤ i ∧ i ≤ m then some i.toNat else none
    | _ => none := nodef rfl

/-- A new block. -/
def mkB2 (c0 : Option Con) (c : Con) (f : AAddr → AV) (id : Nat) (s : Scope) (M : Mem) : Option (AV × Mem) :=
  match c0 with
  | some _ => none
  | none => some (f ⟨M.length, id, c.size, 0⟩, setAt s id (some c) :: M)
theorem mkB_some (c : Con) (f : AAddr → AV) (id : Nat) (s : Scope) (M : Mem) : mkB (some (c, f)) id (s :: M) = mkB2 (s id) c f id s M := by
  simp only [mkB, allocTop, mkB2]
  cases s id <;> rfl
theorem mkB2_none (c : Con) (f : AAddr → AV) (id : Nat) (s : Scope) (M : Mem) : mkB2 none c f id s M = some (f ⟨M.length, id, c.size, 0⟩, setAt s id (some c) :: M) := nodef rfl
def alT (c0 : Option Con) (c : Con) (id : Nat) (s : Scope) (M : Mem) : Option (AAddr × Mem) :=
  match c0 with
  | some _ => none
  | none => some (⟨M.length, id, c.size, 0⟩, setAt s id (some c) :: M)
theorem alT_eq (id : Nat) (c : Con) (s : Scope) (M : Mem) : allocTop id c (s :: M) = alT (s id) c id s M := nodef rfl
theorem alT_none (id : Nat) (c : Con) (s : Scope) (M : Mem) : alT none c id s M = some (⟨M.length, id, c.size, 0⟩, setAt s id (some c) :: M) := nodef rfl
theorem amm_min (k : IntKind) (a b : Int) : amm false (some (.int k a)) (.int k b) = some (.int k (min a b)) := amin_gen k a b
theorem amm_max (k : IntKind) (a b : Int) : amm true (some (.int k a)) (.int k b) = some (.int k (max a b)) := amax_gen k a b
theorem size_cells (c : List AV) (r f : Bool) : (Con.cells c r f).size = c.length := nodef rfl
theorem size_map (es : List (AV × AV)) (r : Bool) : (Con.map es r).size = 0 := nodef rfl

theorem ab_str_add (a b : List UInt8) : abin .add (.str a) (.str b) = if a.length + b.length ≤ 2 ^ 62 then some (.str (a ++ b)) else none := nodef rfl
theorem ab_str_eql (a b : List UInt8) : abin .eql (.str a) (.str b) = some (.bool (decide (a = b))) := by
  simp only [abin, astr, Option.some.injEq, AV.bool.injEq]
  rw [Bool.eq_iff_iff]; simp
theorem ab_str_neq (a b : List UInt8) : abin .neq (.str a) (.str b) = some (.bool (decide (a ≠ b))) := by
  simp only [abin, astr, Option.some.injEq, AV.bool.injEq]
  rw [Bool.eq_iff_iff]; simp

theorem ab_and (k : IntKind) (a b : Int) : abin .and (.int k a) (.int k b) = aint .and k a b := by simp [abin]
theorem ab_or (k : IntKind) (a b : Int) : abin .or (.int k a) (.int k b) = aint .or k a b := by simp [abin]
theorem ab_xor (k : IntKind) (a b : Int) : abin .xor (.int k a) (.int k b) = aint .xor k a b := by simp [abin]
theorem ab_shl (k k' : IntKind) (a b : Int) : abin .shl (.int k a) (.int k' b) = ashift .shl k a b := nodef rfl
theorem ab_shr (k k' : IntKind) (a b : Int) : abin .shr (.int k a) (.int k' b) = ashift .shr k a b := nodef rfl

def apick (c a b : AV) : Option AV :=
  match c with
  | .bool t => some (if t then a else b)
  | _ => none
theorem ev_pick (e : Env) (c a b : Opd) : evP (.pick c a b) e = apick (opd e c) (opd e a) (opd e b) := nodef rfl
theorem apick_true (a b : AV) : apick (.bool true) a b = some a := nodef rfl
theorem apick_false (a b : AV) : apick (.bool false) a b = some b := nodef rfl
theorem apick_bool (c a b : Bool) : apick (.bool c) (.bool a) (.bool b) = some (.bool (if c then a else b)) := by cases c <;> rfl

theorem tst_pos {p : Prop} [Decidable p] (h : p) (C : Calls) (x y : SCode) (e : Env) (M : Mem) : tst (.bool (decide p)) C x y e M = evC C x e M := by simp [h, tst]
theorem tst_neg {p : Prop} [Decidable p] (h : ¬ p) (C : Calls) (x y : SCode) (e : Env) (M : Mem) : tst (.bool (decide p)) C x y e M = evC C y e M := by simp [h, tst]
theorem gd_pos {p : Prop} [Decidable p] (h : p) (C : Calls) (o : SOper) (e : Env) (M : Mem) : gd (some (decide p)) C o e M = evOper C o e M := by simp [h, gd]
theorem gd_neg {p : Prop} [Decidable p] (h : ¬ p) (C : Calls) (d : Nat) (g) (hd : List Nat) (op : SOp) (e : Env) (M : Mem) : gd (some (decide p)) C ⟨some d, g, hd, op⟩ e M = some (e.set d .undef, M) := by simp [h, gd, setDst]
theorem gd_npos {p : Prop} [Decidable p] (h : ¬ p) (C : Calls) (o : SOper) (e : Env) (M : Mem) : gd (some (!decide p)) C o e M = evOper C o e M := by simp [h, gd]
theorem gd_nneg {p : Prop} [Decidable p] (h : p) (C : Calls) (d : Nat) (g) (hd : List Nat) (op : SOp) (e : Env) (M : Mem) : gd (some (!decide p)) C ⟨some d, g, hd, op⟩ e M = some (e.set d .undef, M) := by simp [h, gd, setDst]
theorem apick_pos {p : Prop} [Decidable p] (h : p) (a b : AV) : apick (.bool (decide p)) a b = some a := by simp [h, apick]
theorem apick_neg {p : Prop} [Decidable p] (h : ¬ p) (a b : AV) : apick (.bool (decide p)) a b = some b := by simp [h, apick]
attribute [simp] tst_pos tst_neg gd_pos gd_neg gd_npos gd_nneg apick_pos apick_neg

def alen (sl : Bool) (v : AV) : Option AV :=
  match sl, v with
  | true, .slice _ n _ => some (.int .i64 n)
  | true, .slice0 _ => some (.int .i64 0)
  | false, .str s => some (.int .i64 s.length)
  | _, _ => none
theorem ev_lenV (e : Env) (sl : Bool) (x : Opd) : evP (.lenV sl x) e = alen sl (opd e x) := nodef rfl
theorem alen_slice (a : Option AAddr) (n s : Nat) : alen true (.slice a n s) = some (.int .i64 n) := nodef rfl
theorem alen_slice0 (s : Nat) : alen true (.slice0 s) = some (.int .i64 0) := nodef rfl
theorem alen_str (s : List UInt8) : alen false (.str s) = some (.int .i64 s.length) := nodef rfl
attribute [simp] ev_lenV alen_slice alen_slice0 alen_str

theorem roScope_mk (l : List (Nat × Con)) : roScope (mk l) = mk (l.map fun p => (p.1, p.2.ro)) := by
  funext j
  induction l with
  | nil => rfl
  | cons p l ih =>
    obtain ⟨k, c⟩ := p
    simp only [roScope, mk_cons, List.map_cons] at ih ⊢
    split
    · rfl
    · exact ih

/-- What a round begins with. -/
theorem gc_mk (keep : List Nat) (e : Env) (l : List (Nat × Con)) (M0 : Mem) : gc keep e (mk l :: M0) =
    (if ((scopeIds M0.length (mk l) (envIds M0.length e keep ++ scopeIds M0.length (mk l) (envIds M0.length e keep))).all (envIds M0.length e keep ++ scopeIds M0.length (mk l) (envIds M0.length e keep)).contains) = true then
      some (keepEnv keep 0 e, mk (l.filter fun p => (envIds M0.length e keep ++ scopeIds M0.length (mk l) (envIds M0.length e keep)).contains p.1) :: M0) else none) := by
  simp only [gc, only_mk]

theorem ro_cons (s : Scope) (M : Mem) : ro (s :: M) = roScope s :: ro M := nodef rfl
theorem ro_cells (c : List AV) (r f : Bool) : (Con.cells c r f).ro = .cells c false f := nodef rfl
theorem ro_map (es : List (AV × AV)) (r : Bool) : (Con.map es r).ro = .map es false := nodef rfl

theorem sc_bool (b : Bool) : scalar (.bool b) = true := nodef rfl
theorem sc_int (k : IntKind) (n : Int) : scalar (.int k n) = true := nodef rfl
theorem sc_str (s : List UInt8) : scalar (.str s) = true := nodef rfl
theorem sc_ptr (a : Option AAddr) : scalar (.ptr a) = true := nodef rfl
theorem sc_slice (a : Option AAddr) (n e : Nat) : scalar (.slice a n e) = true := nodef rfl
theorem sc_slice0 (e : Nat) : scalar (.slice0 e) = true := nodef rfl
theorem sc_map (a : Option AAddr) : scalar (.map a) = true := nodef rfl
theorem sc_func (f : Nat) (l m : List AV) : scalar (.func f l m) = true := nodef rfl
theorem ce_bool (b : Bool) : cellsOf (.bool b) = some [.bool b] := nodef rfl
theorem ce_int (k : IntKind) (n : Int) : cellsOf (.int k n) = some [.int k n] := nodef rfl
theorem ce_str (s : List UInt8) : cellsOf (.str s) = some [.str s] := nodef rfl
theorem ce_ptr (a : Option AAddr) : cellsOf (.ptr a) = some [.ptr a] := nodef rfl
theorem ce_slice (a : Option AAddr) (n e : Nat) : cellsOf (.slice a n e) = some [.slice a n e] := nodef rfl
theorem ce_slice0 (e : Nat) : cellsOf (.slice0 e) = some [.slice0 e] := nodef rfl
theorem ce_map (a : Option AAddr) : cellsOf (.map a) = some [.map a] := nodef rfl
theorem ce_func (f : Nat) (l m : List AV) : cellsOf (.func f l m) = some [.func f l m] := nodef rfl
theorem ce_agg (l : List AV) : cellsOf (.agg l) = some l := nodef rfl
theorem ok_bool (b : Bool) : okRes (.bool b) = true := nodef rfl
theorem ok_int (k : IntKind) (n : Int) : okRes (.int k n) = true := nodef rfl
theorem ok_str (s : List UInt8) : okRes (.str s) = true := nodef rfl
theorem ok_ptr (a : Option AAddr) : okRes (.ptr a) = true := nodef rfl
theorem ok_slice (a : Option AAddr) (n e : Nat) : okRes (.slice a n e) = true := nodef rfl
theorem ok_slice0 (e : Nat) : okRes (.slice0 e) = true := nodef rfl
theorem ok_agg (l : List AV) : okRes (.agg l) = true := nodef rfl
theorem ok_map (a : Option AAddr) : okRes (.map a) = true := nodef rfl

/- What is handed over, one cell at a time. -/
theorem ec_bool (d : Nat) (s : Scope) (cs : List Con) (b : Bool) : expC d s cs (.bool b) = some (.bool b, s, cs) := nodef rfl
theorem ec_int (d : Nat) (s : Scope) (cs : List Con) (k : IntKind) (n : Int) : expC d s cs (.int k n) = some (.int k n, s, cs) := nodef rfl
theorem ec_str (d : Nat) (s : Scope) (cs : List Con) (t : List UInt8) : expC d s cs (.str t) = some (.str t, s, cs) := nodef rfl
theorem ec_u8 (d : Nat) (s : Scope) (cs : List Con) (b : UInt8) : expC d s cs (byteAV b) = some (byteAV b, s, cs) := nodef rfl
theorem ec_u32 (d : Nat) (s : Scope) (cs : List Con) (b : BitVec 32) : expC d s cs (u32 b) = some (u32 b, s, cs) := nodef rfl
theorem ec_u64 (d : Nat) (s : Scope) (cs : List Con) (b : BitVec 64) : expC d s cs (u64 b) = some (u64 b, s, cs) := nodef rfl
theorem ec_i64 (d : Nat) (s : Scope) (cs : List Con) (b : Int) : expC d s cs (i64 b) = some (i64 b, s, cs) := nodef rfl
theorem ec_ptr0 (d : Nat) (s : Scope) (cs : List Con) : expC d s cs (.ptr none) = some (.ptr none, s, cs) := nodef rfl
theorem ec_slice00 (d : Nat) (s : Scope) (cs : List Con) (n e : Nat) : expC d s cs (.slice none n e) = some (.slice none n e, s, cs) := nodef rfl
theorem ec_slice0 (d : Nat) (s : Scope) (cs : List Con) (e : Nat) : expC d s cs (.slice0 e) = some (.slice0 e, s, cs) := nodef rfl
theorem ec_map0 (d : Nat) (s : Scope) (cs : List Con) : expC d s cs (.map none) = some (.map none, s, cs) := nodef rfl
theorem ec_ptr (d : Nat) (s : Scope) (cs : List Con) (a : AAddr) : expC d s cs (.ptr (some a)) = match exp1 d s cs a with | some (b, s, cs) => some (.ptr (some b), s, cs) | none => none := nodef rfl
theorem ec_slice (d : Nat) (s : Scope) (cs : List Con) (a : AAddr) (n e : Nat) : expC d s cs (.slice (some a) n e) = match exp1 d s cs a with | some (b, s, cs) => some (.slice (some b) n e, s, cs) | none => none := nodef rfl
theorem expL_map {α : Type} (f : α → AV) (hf : ∀ d s cs x, expC d s cs (f x) = some (f x, s, cs)) (d : Nat) (s : Scope) (cs : List Con) : ∀ l : List α, expL d s cs (l.map f) = some (l.map f, s, cs)
  | [] => rfl
  | x :: l => by simp only [List.map_cons, expL, hf, expL_map f hf d s cs l]
theorem ev_agg (d : Nat) (s : Scope) (cs : List Con) (l : List AV) : expV d s cs (.agg l) = match expL d s cs l with | some (l, s, cs) => some (.agg l, s, cs) | none => none := nodef rfl
theorem ev_bool (d : Nat) (s : Scope) (cs : List Con) (b : Bool) : expV d s cs (.bool b) = some (.bool b, s, cs) := nodef rfl
theorem ev_int (d : Nat) (s : Scope) (cs : List Con) (k : IntKind) (n : Int) : expV d s cs (.int k n) = some (.int k n, s, cs) := nodef rfl
theorem ev_str (d : Nat) (s : Scope) (cs : List Con) (t : List UInt8) : expV d s cs (.str t) = some (.str t, s, cs) := nodef rfl
theorem ev_u8 (d : Nat) (s : Scope) (cs : List Con) (b : UInt8) : expV d s cs (byteAV b) = some (byteAV b, s, cs) := nodef rfl
theorem ev_u32 (d : Nat) (s : Scope) (cs : List Con) (b : BitVec 32) : expV d s cs (u32 b) = some (u32 b, s, cs) := nodef rfl
theorem ev_u64 (d : Nat) (s : Scope) (cs : List Con) (b : BitVec 64) : expV d s cs (u64 b) = some (u64 b, s, cs) := nodef rfl
theorem ev_i64 (d : Nat) (s : Scope) (cs : List Con) (b : Int) : expV d s cs (i64 b) = some (i64 b, s, cs) := nodef rfl
theorem ev_ptr (d : Nat) (s : Scope) (cs : List Con) (a : Option AAddr) : expV d s cs (.ptr a) = expC d s cs (.ptr a) := nodef rfl
theorem ev_slice (d : Nat) (s : Scope) (cs : List Con) (a : Option AAddr) (n e : Nat) : expV d s cs (.slice a n e) = expC d s cs (.slice a n e) := nodef rfl
theorem ev_slice0 (d : Nat) (s : Scope) (cs : List Con) (e : Nat) : expV d s cs (.slice0 e) = expC d s cs (.slice0 e) := nodef rfl
theorem ev_map (d : Nat) (s : Scope) (cs : List Con) (a : Option AAddr) : expV d s cs (.map a) = expC d s cs (.map a) := nodef rfl
def exp1v (r : Option (AV × Scope × List Con)) : Option (AV × List Con) := match r with | some (v, _, cs) => some (v, cs) | none => none
theorem exp1v_some (v : AV) (s : Scope) (cs : List Con) : exp1v (some (v, s, cs)) = some (v, cs) := nodef rfl
theorem ea_tuple (d : Nat) (s : Scope) (l : List AV) : expAll d s (.tuple l) = match expVL d s [] l with | some (l, _, cs) => some (.tuple l, cs) | none => none := nodef rfl
theorem ea_bool (d : Nat) (s : Scope) (b : Bool) : expAll d s (.bool b) = some (.bool b, []) := nodef rfl
theorem ea_int (d : Nat) (s : Scope) (k : IntKind) (n : Int) : expAll d s (.int k n) = some (.int k n, []) := nodef rfl
theorem ea_str (d : Nat) (s : Scope) (t : List UInt8) : expAll d s (.str t) = some (.str t, []) := nodef rfl
theorem ea_u8 (d : Nat) (s : Scope) (b : UInt8) : expAll d s (byteAV b) = some (byteAV b, []) := nodef rfl
theorem ea_u32 (d : Nat) (s : Scope) (b : BitVec 32) : expAll d s (u32 b) = some (u32 b, []) := nodef rfl
theorem ea_u64 (d : Nat) (s : Scope) (b : BitVec 64) : expAll d s (u64 b) = some (u64 b, []) := nodef rfl
theorem ea_i64 (d : Nat) (s : Scope) (b : Int) : expAll d s (i64 b) = some (i64 b, []) := nodef rfl
theorem ea_agg (d : Nat) (s : Scope) (l : List AV) : expAll d s (.agg l) = exp1v (expV d s [] (.agg l)) := by
  simp only [expAll, exp1v]
  cases expV d s [] (.agg l) <;> rfl
theorem ea_ptr (d : Nat) (s : Scope) (a : Option AAddr) : expAll d s (.ptr a) = exp1v (expC d s [] (.ptr a)) := by
  simp only [expAll, exp1v, expV]
  cases expC d s [] (.ptr a) <;> rfl
theorem ea_slice (d : Nat) (s : Scope) (a : Option AAddr) (n e : Nat) : expAll d s (.slice a n e) = exp1v (expC d s [] (.slice a n e)) := by
  simp only [expAll, exp1v, expV]
  cases expC d s [] (.slice a n e) <;> rfl
theorem ea_slice0 (d : Nat) (s : Scope) (e : Nat) : expAll d s (.slice0 e) = exp1v (expC d s [] (.slice0 e)) := nodef rfl

theorem set_bytes (l : List UInt8) (i : Nat) (x : UInt8) : (l.map byteAV).set i (byteAV x) = (l.set i x).map byteAV := by rw [List.map_set]
theorem set_u32 (l : List (BitVec 32)) (i : Nat) (x : BitVec 32) : (l.map u32).set i (u32 x) = (l.set i x).map u32 := by rw [List.map_set]
theorem set_u64 (l : List (BitVec 64)) (i : Nat) (x : BitVec 64) : (l.map u64).set i (u64 x) = (l.set i x).map u64 := by rw [List.map_set]
theorem set_i64 (l : List Int) (i : Nat) (x : Int) : (l.map i64).set i (.int .i64 x) = (l.set i x).map i64 := by rw [List.map_set]; rfl
theorem set_str (l : List (List UInt8)) (i : Nat) (x : List UInt8) : (l.map AV.str).set i (.str x) = (l.set i x).map AV.str := by rw [List.map_set]


/- The evaluator's arms, as rules that are no mere unfolding. -/
theorem evP_q1 : ∀ (e : Env) (x : Opd), evP (POp.mv x) e = some (opd e x) := by intros; exact nodef (evP.eq_1 ..)
theorem evP_q2 : ∀ (e : Env) (x : Opd),
  evP (POp.mvStr x) e =
    match opd e x with
    | AV.str s => some (AV.str s)
    | x => none := by intros; exact nodef (evP.eq_2 ..)
theorem evP_q4 : ∀ (e : Env) (op_2 : BinOp) (x y : Opd), evP (POp.bin op_2 x y) e = abin op_2 (opd e x) (opd e y) := by intros; exact nodef (evP.eq_4 ..)
theorem evP_q5 : ∀ (e : Env) (neg : Bool) (x y : Opd),
  evP (POp.eqb neg x y) e =
    match opd e x, opd e y with
    | AV.bool a, AV.bool b => some (AV.bool (if neg = true then !a == b else a == b))
    | x, x_1 => none := by intros; exact nodef (evP.eq_5 ..)
theorem evP_q6 : ∀ (e : Env) (k : NilK) (neg : Bool) (x y : Opd),
  evP (POp.eqn k neg x y) e =
    match anil k (opd e x) (opd e y) with
    | some b => some (AV.bool (if neg = true then !b else b))
    | none => none := by intros; exact nodef (evP.eq_6 ..)
theorem evP_q7 : ∀ (e : Env) (ks : List Nat) (neg : Bool) (x y : Opd),
  evP (POp.eqa ks neg x y) e =
    match opd e x, opd e y with
    | AV.agg a, AV.agg b =>
      if a.map avK = ks then
        match acells a b with
        | some r => some (AV.bool (if neg = true then !r else r))
        | none => none
      else none
    | x, x_1 => none := by intros; exact nodef (evP.eq_7 ..)
theorem evP_q8 : ∀ (e : Env) (op_2 : UnOp) (x : Opd), evP (POp.un op_2 x) e = aun op_2 (opd e x) := by intros; exact nodef (evP.eq_8 ..)
theorem evP_q10 : ∀ (e : Env) (zero : List AV) (parts : List (Nat × Nat × Opd)),
  evP (POp.build zero parts) e =
    match fillA e zero parts with
    | some cs => some (AV.agg cs)
    | none => none := by intros; exact nodef (evP.eq_10 ..)
theorem evP_q11 : ∀ (e : Env) (off : Nat) (x : Opd),
  evP (POp.faddr off x) e =
    match opd e x with
    | AV.ptr (some a) => some (AV.ptr (some { dep := a.dep, id := a.id, sz := a.sz, off := a.off + off }))
    | x => none := by intros; exact nodef (evP.eq_11 ..)
theorem evP_q12 : ∀ (e : Env) (off : Nat) (x : Opd),
  evP (POp.field1 off x) e =
    match opd e x with
    | AV.agg cs => cs[off]?
    | x => none := by intros; exact nodef (evP.eq_12 ..)
theorem evP_q13 : ∀ (e : Env) (off n : Nat) (x : Opd),
  evP (POp.fieldN off n x) e =
    match opd e x with
    | AV.agg cs => if off + n ≤ cs.length then some (AV.agg (List.take n (List.drop off cs))) else none
    | x => none := by intros; exact nodef (evP.eq_13 ..)
theorem evP_q19 : ∀ (e : Env) (x : Opd) (lo hi : Option Opd),
  evP (POp.slcStr x lo hi) e =
    match opd e x with
    | AV.str s =>
      match bound e s.length hi s.length with
      | some h =>
        match bound e h lo 0 with
        | some l => some (AV.str (List.drop l (List.take h s)))
        | none => none
      | none => none
    | x => none := by intros; exact nodef (evP.eq_19 ..)
theorem evP_q20 : ∀ (e : Env) (esz : Nat) (x : Opd) (lo hi mx : Option Opd),
  evP (POp.slcS esz x lo hi mx) e =
    match opd e x with
    | AV.slice (some a) n s =>
      if s = esz then
        match mx with
        | some val =>
          match bound e 0 lo 0, bound e 0 hi 1, bound e 0 mx 1 with
          | some 0, some 0, some 0 => some (AV.slice0 esz)
          | x, x_1, x_2 => none
        | none =>
          match bound e n hi n with
          | some h =>
            match bound e h lo 0 with
            | some l =>
              some (AV.slice (some { dep := a.dep, id := a.id, sz := a.sz, off := a.off + l * esz }) (h - l) esz)
            | none => none
          | none => none
      else none
    | AV.slice none len esz_1 =>
      match bound e 0 lo 0, bound e 0 hi (if mx.isSome = true then 1 else 0), bound e 0 mx 0 with
      | some 0, some 0, some 0 => some (AV.slice none 0 esz)
      | x, x_1, x_2 => none
    | AV.slice0 esz_1 =>
      match bound e 0 lo 0, bound e 0 hi (if mx.isSome = true then 1 else 0), bound e 0 mx 0 with
      | some 0, some 0, some 0 => some (AV.slice0 esz)
      | x, x_1, x_2 => none
    | x => none := by intros; exact nodef (evP.eq_20 ..)
theorem evP_q21 : ∀ (e : Env) (n esz : Nat) (x : Opd) (lo hi : Option Opd),
  evP (POp.slcA n esz x lo hi) e =
    match opd e x with
    | AV.ptr (some a) =>
      match bound e n hi n with
      | some h =>
        match bound e h lo 0 with
        | some l =>
          if a.off + n * esz ≤ a.sz then
            some (AV.slice (some { dep := a.dep, id := a.id, sz := a.sz, off := a.off + l * esz }) (h - l) esz)
          else none
        | none => none
      | none => none
    | x => none := by intros; exact nodef (evP.eq_21 ..)
theorem evP_q22 : ∀ (e : Env) (x : Opd) (i : Nat),
  evP (POp.extract x i) e =
    match opd e x with
    | AV.tuple l => l[i]?
    | x => none := by intros; exact nodef (evP.eq_22 ..)
theorem evP_q23 : ∀ (e : Env) (f : Nat) (first captured : List Opd),
  evP (POp.mkFunc f first captured) e =
    if (opds e first).all scalar = true ∧ (opds e captured).all scalar = true then
      some (AV.func f (opds e first) (opds e captured))
    else none := by intros; exact nodef (evP.eq_23 ..)
theorem evP_q28 : ∀ (e : Env) (v : AV), evP (POp.konst v) e = some v := by intros; exact nodef (evP.eq_28 ..)
theorem evP_q30 : ∀ (e : Env) (mx : Bool) (x y z : Opd),
  evP (POp.minmax3 mx x y z) e = amm mx (amm mx (some (opd e x)) (opd e y)) (opd e z) := by intros; exact nodef (evP.eq_30 ..)
theorem evP_q31 : ∀ (e : Env) (mx : Bool) (x y z u : Opd),
  evP (POp.minmax4 mx x y z u) e = amm mx (amm mx (amm mx (some (opd e x)) (opd e y)) (opd e z)) (opd e u) := by intros; exact nodef (evP.eq_31 ..)
theorem evP_q32 : ∀ (e : Env) (n : Nat) (x : Opd),
  evP (POp.arrPtr n x) e =
    match opd e x with
    | AV.slice (some a) m esz => if n ≤ m ∧ 0 < n then some (AV.ptr (some a)) else none
    | x => none := by intros; exact nodef (evP.eq_32 ..)
theorem evP_q33 : ∀ (e : Env) (x : Opd),
  evP (POp.nilChk x) e =
    match opd e x with
    | AV.ptr (some a) => some (AV.ptr (some a))
    | AV.func f a b => some (AV.func f a b)
    | x => none := by intros; exact nodef (evP.eq_33 ..)
theorem evA_q1 : ∀ (e : Env) (x : Opd),
  evA (AOp.toBytes x) e =
    match opd e x with
    | AV.str s =>
      if s.length ≤ 2 ^ 45 then
        some (Con.cells (List.map byteAV s) true true, fun (a : AAddr) => AV.slice (some a) s.length 1)
      else none
    | x => none := by intros; exact nodef (evA.eq_1 ..)
theorem evA_q2 : ∀ (e : Env) (cells : List AV),
  evA (AOp.alloc cells) e = some (mkCellsA cells, fun (a : AAddr) => AV.ptr (some a)) := by intros; exact nodef (evA.eq_2 ..)
theorem evA_q3 : ∀ (e : Env) (x : Opd),
  evA (AOp.box x) e =
    match cellsOf (opd e x) with
    | some cs => some (mkCellsA cs, fun (a : AAddr) => AV.ptr (some a))
    | none => none := by intros; exact nodef (evA.eq_3 ..)
theorem evA_q4 : ∀ (e : Env) (esz len : Nat) (zero : List AV) (parts : List (Nat × Nat × Opd)),
  evA (AOp.buildS esz len zero parts) e =
    match fillA e (rep len zero) parts with
    | some cs => if cs.length = len * esz then some (mkCells cs, fun (a : AAddr) => AV.slice (some a) len esz) else none
    | none => none := by intros; exact nodef (evA.eq_4 ..)
theorem evA_q5 : ∀ (e : Env) (esz bytes : Nat) (zero : List AV) (len cap : Opd),
  evA (AOp.mkSlice esz bytes zero len cap) e =
    match opd e len, opd e cap with
    | AV.int IntKind.i64 n, AV.int IntKind.i64 c =>
      if 0 ≤ n ∧ n ≤ c ∧ c ≤ 2 ^ 45 ∧ c * ↑bytes ≤ 2 ^ 45 ∧ zero.length = esz ∧ 0 < esz then
        some (mkCells (rep n.toNat zero), fun (a : AAddr) => AV.slice (some a) n.toNat esz)
      else none
    | x, x_1 => none := by intros; exact nodef (evA.eq_5 ..)
theorem evA_q6 : ∀ (e : Env), evA AOp.mkMap e = some (Con.map [] true, fun (a : AAddr) => AV.map (some a)) := by intros; exact nodef (evA.eq_6 ..)
theorem evR_q1 : ∀ (e : Env) (M : Mem) (x : Opd),
  evR (ROp.load1 x) e M =
    match opd e x with
    | AV.ptr (some a) =>
      match get M a with
      | some (Con.cells c rw flat) => c[a.off]?
      | x => none
    | x => none := by intros; exact nodef (evR.eq_1 ..)
theorem evR_q2 : ∀ (e : Env) (M : Mem) (n : Nat) (x : Opd),
  evR (ROp.loadN n x) e M =
    match opd e x with
    | AV.ptr (some a) =>
      match get M a with
      | some (Con.cells c rw flat) =>
        if a.off + n ≤ c.length then some (AV.agg (List.take n (List.drop a.off c))) else none
      | x => none
    | x => none := by intros; exact nodef (evR.eq_2 ..)
theorem evR_q3 : ∀ (e : Env) (M : Mem) (x : Opd),
  evR (ROp.toStr x) e M =
    match opd e x with
    | AV.slice none len esz => some (AV.str [])
    | AV.slice (some a) n s =>
      match srcCells M n 1 (AV.slice (some a) n s) with
      | some c =>
        match bytesOf c with
        | some s => some (AV.str s)
        | none => none
      | none => none
    | x => none := by intros; exact nodef (evR.eq_3 ..)
theorem evR_q4 : ∀ (e : Env) (M : Mem) (sk : Bool) (zero : AV) (x k : Opd) (ok : Bool),
  evR (ROp.lookup sk zero x k ok) e M =
    if keyOk sk (opd e k) = false then none
    else
      match opd e x with
      | AV.map none => some (if ok = true then AV.tuple [zero, AV.bool false] else zero)
      | AV.map (some a) =>
        match get M a with
        | some (Con.map es rw) =>
          match findIn (opd e k) es with
          | some (some v) => some (if ok = true then AV.tuple [v, AV.bool true] else v)
          | some none => some (if ok = true then AV.tuple [zero, AV.bool false] else zero)
          | none => none
        | x => none
      | x => none := by intros; exact nodef (evR.eq_4 ..)
theorem evR_q5 : ∀ (e : Env) (M : Mem) (x : Opd),
  evR (ROp.lenM x) e M =
    match opd e x with
    | AV.map none => some (AV.int IntKind.i64 0)
    | AV.map (some a) =>
      match get M a with
      | some (Con.map es rw) => some (AV.int IntKind.i64 ↑es.length)
      | x => none
    | x => none := by intros; exact nodef (evR.eq_5 ..)
theorem evW_q1 : ∀ (e : Env) (M : Mem) (x v : Opd),
  evW (WOp.store1 x v) e M =
    match opd e x with
    | AV.ptr (some a) =>
      match get M a with
      | some (Con.cells c true fl) =>
        if scalar (opd e v) = true ∧ a.off < c.length ∧ AV.under (lim fl a.dep) (opd e v) = true then
          some (AV.undef, put M a.dep a.id (Con.cells (c.set a.off (opd e v)) true fl))
        else none
      | x => none
    | x => none := by intros; exact nodef (evW.eq_1 ..)
theorem evW_q2 : ∀ (e : Env) (M : Mem) (n : Nat) (x v : Opd),
  evW (WOp.storeN n x v) e M =
    match opd e x with
    | AV.ptr (some a) =>
      match get M a with
      | some (Con.cells c true fl) =>
        match opd e v with
        | AV.agg cs =>
          if cs.length = n ∧ a.off + n ≤ c.length ∧ AV.unders (lim fl a.dep) cs = true then
            some (AV.undef, put M a.dep a.id (Con.cells (List.take a.off c ++ cs ++ List.drop (a.off + n) c) true fl))
          else none
        | x => none
      | x => none
    | x => none := by intros; exact nodef (evW.eq_2 ..)
theorem evW_q3 : ∀ (e : Env) (M : Mem) (id esz bytes : Nat) (x y : Opd),
  evW (WOp.append id esz bytes x y) e M =
    match lenA (opd e y) with
    | none => none
    | some m =>
      match srcCells M m esz (opd e y) with
      | none => none
      | some new =>
        match opd e x with
        | AV.slice none len esz_1 =>
          if m = 0 then some (AV.slice none 0 esz, M)
          else
            if m * bytes ≤ 2 ^ 45 ∧ m ≤ 2 ^ 45 then
              match allocTop id (mkCells new) M with
              | some (a, M) => some (AV.slice (some a) m esz, M)
              | none => none
            else none
        | AV.slice0 esz_1 =>
          if m = 0 then some (AV.slice0 esz, M)
          else
            if m * bytes ≤ 2 ^ 45 ∧ m ≤ 2 ^ 45 then
              match allocTop id (mkCells new) M with
              | some (a, M) => some (AV.slice (some a) m esz, M)
              | none => none
            else none
        | AV.slice (some a) n s =>
          match get M a with
          | some (Con.cells c true fl) =>
            if
                s = esz ∧
                  a.off = 0 ∧
                    n * esz = c.length ∧
                      (n + m) * bytes ≤ 2 ^ 45 ∧ n + m ≤ 2 ^ 45 ∧ AV.unders (lim fl a.dep) new = true then
              some
                (AV.slice (some { dep := a.dep, id := a.id, sz := c.length + new.length, off := a.off }) (n + m) esz,
                  put M a.dep a.id (Con.cells (c ++ new) true fl))
            else none
          | x => none
        | x => none := by intros; exact nodef (evW.eq_3 ..)
theorem evW_q4 : ∀ (e : Env) (M : Mem) (esz : Nat) (x y : Opd),
  evW (WOp.copy esz x y) e M =
    match lenA (opd e x), lenA (opd e y) with
    | some n, some m =>
      match srcCells M (min m n) esz (opd e y) with
      | some new =>
        match opd e x with
        | AV.slice (some a) len s =>
          match get M a with
          | some (Con.cells c true fl) =>
            if s = esz ∧ a.off + min m n * esz ≤ c.length ∧ AV.unders (lim fl a.dep) new = true then
              some
                (AV.int IntKind.i64 ↑(min m n),
                  put M a.dep a.id (Con.cells (List.take a.off c ++ new ++ List.drop (a.off + new.length) c) true fl))
            else none
          | x => none
        | AV.slice none len esz => some (AV.int IntKind.i64 0, M)
        | AV.slice0 esz => some (AV.int IntKind.i64 0, M)
        | x => none
      | none => none
    | x, x_1 => none := by intros; exact nodef (evW.eq_4 ..)
theorem evW_q5 : ∀ (e : Env) (M : Mem) (sk : Bool) (m k v : Opd),
  evW (WOp.mapSet sk m k v) e M =
    if keyOk sk (opd e k) = false then none
    else
      match opd e m with
      | AV.map (some a) =>
        match get M a with
        | some (Con.map es true) =>
          match findIn (opd e k) es with
          | some val =>
            if scalar (opd e v) = true ∧ AV.under 0 (opd e v) = true then
              some (AV.undef, put M a.dep a.id (Con.map (setIn (opd e k) (opd e v) es) true))
            else none
          | none => none
        | x => none
      | x => none := by intros; exact nodef (evW.eq_5 ..)

/-! ### the builder; loads of the uppermost scope -/

theorem ev_b (C : Calls) (e : Env) (M : Mem) (d : Option Nat) (id : Nat) (o : BOp) : evOper C ⟨d, none, [], .b id o⟩ e M = putW (evB id o e M) e d := by
  simp only [evOper, wants, evOp, putW]
  cases evB id o e M <;> rfl
theorem evo_b (C : Calls) (e : Env) (M : Mem) (id : Nat) (o : BOp) : evOp C (.b id o) e M = evB id o e M := nodef rfl

def bNew (r : Option Con) (id T : Nat) (s : Scope) (M : Mem) : Option (AV × Mem) :=
  match r with
  | some _ => none
  | none => some (.ptr (some ⟨M.length, id, 2, 0⟩), setAt s id (some (.bld T (.slice none 0 1) true)) :: M)
theorem bNew_none (id T : Nat) (s : Scope) (M : Mem) : bNew none id T s M = some (.ptr (some ⟨M.length, id, 2, 0⟩), setAt s id (some (.bld T (.slice none 0 1) true)) :: M) := nodef rfl
theorem evB_new (id T : Nat) (e : Env) (s : Scope) (M : Mem) : evB id (.new T) e (s :: M) = bNew (s id) id T s M := by
  simp only [evB, allocTop, bNew]
  cases s id <;> rfl

def bW1 (r : Option (List AV)) (id T E : Nat) (M : Mem) : Option (AV × Mem) :=
  match r with
  | some l => bWrite id T E l M
  | none => none
theorem bW1_some (l : List AV) (id T E : Nat) (M : Mem) : bW1 (some l) id T E M = bWrite id T E l M := nodef rfl
theorem evB_write (id i T E : Nat) (f : Opd) (args : List Opd) (e : Env) (M : Mem) : evB id (.write i T E f args) e M = bW1 (bArgs i (opd e f) (opds e args)) id T E M := by
  simp only [evB, bW1]
  cases bArgs i (opd e f) (opds e args) <;> rfl

def bS1 (r : Option (List AV)) (T E : Nat) (M : Mem) : Option (AV × Mem) :=
  match r with
  | some l => wthV (bStr T E l M) M
  | none => none
theorem bS1_some (l : List AV) (T E : Nat) (M : Mem) : bS1 (some l) T E M = wthV (bStr T E l M) M := nodef rfl
theorem evB_str (id i T E : Nat) (f : Opd) (args : List Opd) (e : Env) (M : Mem) : evB id (.str i T E f args) e M = bS1 (bArgs i (opd e f) (opds e args)) T E M := by
  simp only [evB, bS1]
  cases bArgs i (opd e f) (opds e args) with
  | none => rfl
  | some l => simp only [wthV]; cases bStr T E l M <;> rfl

theorem bArgs_eq (i j : Nat) (f c args : List AV) : bArgs i (.func j f c) args = if j = i then some (f ++ args ++ c) else none := nodef rfl

/-- What becomes of a builder whose buffer is this. -/
def bPut (r : Option (AV × Mem)) (p : AAddr) (T : Nat) : Option (AV × Mem) :=
  match r with
  | some (b, M) => if AV.under (p.dep + 1) b = true then some (.dead, put M p.dep p.id (.bld T b true)) else none
  | none => none
theorem bPut_some (b : AV) (M : Mem) (p : AAddr) (T : Nat) : bPut (some (b, M)) p T = if AV.under (p.dep + 1) b = true then some (.dead, put M p.dep p.id (.bld T b true)) else none := nodef rfl

/-- A write to a builder of the uppermost scope. -/
def bAt (r : Option Con) (p : AAddr) (id T E : Nat) (s : List UInt8) (M : Mem) : Option (AV × Mem) :=
  match r with
  | some (.bld T' buf true) => if T' = T ∧ p.off = 0 then bPut (bApp id E buf s M) p T else none
  | _ => none
theorem bAt_some (T' : Nat) (buf : AV) (p : AAddr) (id T E : Nat) (s : List UInt8) (M : Mem) : bAt (some (.bld T' buf true)) p id T E s M = if T' = T ∧ p.off = 0 then bPut (bApp id E buf s M) p T else none := nodef rfl
theorem bWrite_eq (id T E : Nat) (p : AAddr) (s : List UInt8) (M : Mem) : bWrite id T E [.ptr (some p), .str s] M = bAt (get M p) p id T E s M := by
  simp only [bWrite]
  cases get M p with
  | none => rfl
  | some c =>
    cases c with
    | cells c r f => rfl
    | map es r => rfl
    | buf E s r => rfl
    | bld T' buf r =>
      cases r with
      | false => rfl
      | true =>
        simp only [bAt, bPut]
        cases bApp id E buf s M <;> rfl

def bGo (r : Option Con) (id E : Nat) (sl : List UInt8) (s : Scope) (M : Mem) : Option (AV × Mem) :=
  match r with
  | some _ => none
  | none => some (.slice (some ⟨M.length, id, sl.length, 0⟩) sl.length 1, setAt s id (some (.buf E sl true)) :: M)
theorem bGo_none (id E : Nat) (sl : List UInt8) (s : Scope) (M : Mem) : bGo none id E sl s M = some (.slice (some ⟨M.length, id, sl.length, 0⟩) sl.length 1, setAt s id (some (.buf E sl true)) :: M) := nodef rfl
theorem bApp_nil (id E n e : Nat) (sl : List UInt8) (s : Scope) (M : Mem) : bApp id E (.slice none n e) sl (s :: M) = if sl.length = 0 then some (.slice none 0 1, s :: M) else if sl.length ≤ 2 ^ 45 then bGo (s id) id E sl s M else none := by
  simp only [bApp, allocTop, bGo]
  cases s id <;> rfl
def bIn (r : Option Con) (a : AAddr) (n e E : Nat) (sl : List UInt8) (M : Mem) : Option (AV × Mem) :=
  match r with
  | some (.buf E' c true) => if E' = E ∧ e = 1 ∧ a.off = 0 ∧ n = c.length ∧ 0 < n ∧ c.length + sl.length ≤ 2 ^ 45 then
      some (.slice (some { a with sz := c.length + sl.length }) (n + sl.length) 1, put M a.dep a.id (.buf E (c ++ sl) true))
    else none
  | _ => none
theorem bIn_some (E' : Nat) (c : List UInt8) (a : AAddr) (n e E : Nat) (sl : List UInt8) (M : Mem) : bIn (some (.buf E' c true)) a n e E sl M = if E' = E ∧ e = 1 ∧ a.off = 0 ∧ n = c.length ∧ 0 < n ∧ c.length + sl.length ≤ 2 ^ 45 then
      some (.slice (some { a with sz := c.length + sl.length }) (n + sl.length) 1, put M a.dep a.id (.buf E (c ++ sl) true))
    else none := nodef rfl
theorem bApp_some (id E n e : Nat) (a : AAddr) (sl : List UInt8) (M : Mem) : bApp id E (.slice (some a) n e) sl M = bIn (get M a) a n e E sl M := nodef rfl

theorem bStr_eq (T E : Nat) (p : AAddr) (M : Mem) : bStr T E [.ptr (some p)] M = match get M p with
    | some (.bld T' buf _) => if T' = T ∧ p.off = 0 then
        match buf with
        | .slice none _ _ => some (.str [])
        | .slice (some a) n e => match get M a with
          | some (.buf E' c true) => if E' = E ∧ e = 1 ∧ a.off = 0 ∧ n = c.length ∧ 0 < n ∧ n ≤ 2 ^ 45 then some (.str c) else none
          | _ => none
        | _ => none
      else none
    | _ => none := nodef rfl

theorem unmark_cells (c : List AV) (r f : Bool) : unmark (.cells c r f) = none := nodef rfl
theorem unmark_mark' (n : Nat) : unmark (mark n) = some n := nodef (unmark_mark n)
theorem size_bld (T : Nat) (b : AV) (r : Bool) : Con.size (.bld T b r) = 2 := nodef rfl
theorem size_buf (E : Nat) (s : List UInt8) (r : Bool) : Con.size (.buf E s r) = s.length := nodef rfl
theorem ro_bld (T : Nat) (b : AV) (r : Bool) : (Con.bld T b r).ro = .bld T b false := nodef rfl
theorem ro_buf (E : Nat) (s : List UInt8) (r : Bool) : (Con.buf E s r).ro = .buf E s false := nodef rfl

theorem evR_q6 : ∀ (e : Env) (M : Mem) (i : Nat) (x : Opd), evR (.loadT i x) e M = match opd e x with
    | .ptr (some a) => if a.id = i ∧ a.dep + 1 = M.length then match get M a with
      | some (.cells c _ _) => c[a.off]?
      | _ => none
      else none
    | _ => none := by intros; exact nodef rfl

attribute [simp] sc_bool sc_int sc_str sc_ptr sc_slice sc_slice0 sc_map sc_func ce_bool ce_int ce_str ce_ptr ce_slice ce_slice0 ce_map ce_func ce_agg ok_bool ok_int ok_str ok_ptr ok_slice ok_slice0 ok_agg ok_map
attribute [simp] ec_bool ec_int ec_str ec_u8 ec_u32 ec_u64 ec_i64 ec_ptr0 ec_slice00 ec_slice0 ec_map0 ec_ptr ec_slice ev_agg ev_bool ev_int ev_str ev_u8 ev_u32 ev_u64 ev_i64 ev_ptr ev_slice ev_slice0 ev_map exp1v_some ea_tuple ea_bool ea_int ea_str ea_u8 ea_u32 ea_u64 ea_i64 ea_agg ea_ptr ea_slice ea_slice0 set_bytes set_u32 set_u64 set_i64 set_str
attribute [simp] ev_skip ev_ret ev_exit ev_seq ev_cond ev_block ev_region ev_regionF toF_some farOk apartO adr ev_nil ev_cons ev_mv ev_p ev_r ev_w ev_a ev_call ev_hide ev_guard evo_p evo_r evo_w evo_a evo_call
attribute [simp] andOps_some andCode_normal andCode_exit andCode_ret tst_true tst_false blk_normal blk_exit blk_ret toC_some putV_some putV_none putW_some putW_none wthV_some hidW_some hidW_none gd_true gd_false
attribute [simp] alT_eq alT_none toI_int toI_u64 toI_u32 toI_u8 ev_iaddrA ev_iaddrS ev_idxStr2 ev_idxA ev_idxAN bound_none bound_some ev_conv ev_minmax amin_nat ev_pick apick_true apick_false
attribute [simp] evP_q1 evP_q2 evP_q4 evP_q5 evP_q6 evP_q7 evP_q8 evP_q10 evP_q11 evP_q12 evP_q13 evP_q19 evP_q20 evP_q21 evP_q22 evP_q23 evP_q28 evP_q30 evP_q31 evP_q32 evP_q33
attribute [simp] evA_q1 evA_q2 evA_q3 evA_q4 evA_q5 evA_q6 evR_q1 evR_q2 evR_q3 evR_q4 evR_q5 evW_q1 evW_q2 evW_q3 evW_q4 evW_q5
attribute [simp] opd opds Env.get setDst ab_add ab_sub ab_mul ab_quo ab_rem ab_lss ab_leq ab_gtr ab_geq ab_eql ab_neq ab_str_add ab_str_eql ab_str_neq rnd_normal rnd_exit rnd_ret wants loop_round List.getElem?_cons_zero List.getElem?_cons_succ List.filter_cons
attribute [simp] endF_normal endF_ret leave_eq lv1_some lv2_some resOf resVs resV expVL expL exp1 AV.under AV.ret mkB_some mkB2_none mkCells mkCellsA AV.noNils AV.unders size_cells size_map Con.flat Con.rw get_top put_top mk_nil mk_cons setAt_mk ups amm_min amm_max srcCells lenA
attribute [simp] call_quiet call_loud backQ_some backL_some fin_nil fin_cons tk_none takeC_nil takeC_cons fin2_some takeV takeVL take1 fillA isNil anil lim only_mk without_mk join_mk ent_cons_top get_ro ro_cons ro_cells ro_map ro_length roScope_mk
attribute [simp] fgt_some keepEnv AV.ids AV.idss envIds scopeIds conIds without_nil gc_mk

attribute [simp] exp2 unmark_cells unmark_mark' ev_b evo_b bNew_none evB_new bW1_some evB_write bS1_some evB_str bArgs_eq bPut_some bAt_some bWrite_eq bGo_none bApp_nil bIn_some bApp_some bStr_eq size_bld size_buf ro_bld ro_buf evR_q6

end Go.Det

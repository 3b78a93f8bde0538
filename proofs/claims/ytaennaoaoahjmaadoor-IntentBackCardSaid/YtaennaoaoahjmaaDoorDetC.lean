/-
  DET, part C: the compiler from the model's code into the small language, and the pure operations' soundness.
-/
import Derived.Test.YtaennaoaoahjmaaDoorDetB
import Derived.Orders
import Derived.Laws.StructEq
import Derived.ChangeKeysEq
namespace Go.Det

/-- Words for the compiler. q: is a call of this function quiet? h: the block of the uppermost scope from which the operation of that name loads. (A wrong word makes nothing wrong: it only makes less provable.) -/
structure Qs where
  q : Nat → Bool
  h : Nat → Option Nat

instance : CoeFun Qs (fun _ => Nat → Bool) := ⟨Qs.q⟩

def cScal : Value → Option AV
  | .bool b => some (.bool b)
  | .int k n => some (.int k n)
  | .string s => some (.str s.data.toList)
  | .pointer none => some (.ptr none)
  | .slice none 0 0 => some (.slice none 0 0)
  | .map none => some (.map none)
  | .nilFunc => some .nilFunc
  | _ => none

def cScals : List Value → Option (List AV)
  | [] => some []
  | v :: l => match cScal v, cScals l with
    | some a, some m => some (a :: m)
    | _, _ => none

def cVal : Value → Option AV
  | .agg cs => (cScals cs.toList).map .agg
  | .tuple ⟨[]⟩ => some .undef
  | v => cScal v

def cOpd (P : Program) : Operand → Option Opd
  | .tmp t => some (.t t)
  | .const v => (cVal v).map .c
  | .global g => (P.globals[g]?).bind fun gl => (P.info? gl.type).map fun i => .g g i.size
  | .func f => some (.f f)

def cOpds (P : Program) : List Operand → Option (List Opd)
  | [] => some []
  | x :: l => match cOpd P x, cOpds P l with
    | some a, some m => some (a :: m)
    | _, _ => none

def cOpt (P : Program) : Option Operand → Option (Option Opd)
  | none => some none
  | some x => (cOpd P x).map some

def szOf (P : Program) (t : TypeId) : Option Nat := (P.info? t).map (·.size)

def bytOf (P : Program) (t : TypeId) : Option Nat := (P.info? t).map (·.bytes)

/-- Is it a struct or an array? -/
def isAggT (P : Program) (t : TypeId) : Option Bool :=
  match P.underlying t with
  | some (.struct _) | some (.array _ _) => some true
  | some _ => some false
  | none => none

def zeroOf (P : Program) (t : TypeId) : Option (List AV) := (P.info? t).bind fun i => i.zero.bind fun z => (cVal z).bind cellsOf

/-- The zero of a type of one cell. -/
def zero1 (P : Program) (t : TypeId) : Option AV := (P.info? t).bind fun i => i.zero.bind cScal

def isU8 (P : Program) (t : TypeId) : Bool :=
  match P.underlying t with
  | some (.int .u8) => true
  | _ => false

/-- A type of one cell that is held against another one by sight. -/
def eqT (P : Program) (t : TypeId) : Bool :=
  (match P.underlying t with
   | some (.int _) | some .string | some .bool => true
   | _ => false) && szOf P t == some 1

/-- A map's keys: whole numbers or texts. -/
def keyT (P : Program) (t : TypeId) : Option Bool :=
  match P.underlying t with
  | some (.int _) => some false
  | some .string => some true
  | _ => none

def cParts (P : Program) (place : Nat → Option (Nat × Nat)) : List (Nat × Operand) → Option (List (Nat × Nat × Opd))
  | [] => some []
  | (i, x) :: l => match place i, cOpd P x, cParts P place l with
    | some (off, size), some y, some m => some ((off, size, y) :: m)
    | _, _, _ => none

def fieldPl (P : Program) (fs : Array Field) (i : Nat) : Option (Nat × Nat) :=
  match fs[i]? with
  | some f => (szOf P f.type).map fun s => (f.offset, s)
  | none => none

/-- Every field's type is there. -/
def fieldsOk (P : Program) (fs : List Field) : Bool := fs.all fun f => (szOf P f.type).isSome

/-- The kind of a type of one cell that is held against another one by sight. -/
def kindOf (P : Program) (t : TypeId) : Option Nat :=
  if szOf P t = some 1 then
    match P.underlying t with
    | some (.int _) => some 0
    | some .string => some 1
    | some .bool => some 2
    | _ => none
  else none

def fieldKinds (P : Program) : List Field → Nat → Option (List Nat)
  | [], _ => some []
  | f :: l, i => if f.name ≠ "_" ∧ f.offset = i then
      match kindOf P f.type, fieldKinds P l (i + 1) with
      | some k, some m => some (k :: m)
      | _, _ => none
    else none

/-- Structs and arrays that are held against one another cell by cell. -/
def eqKinds (P : Program) (t : TypeId) : Option (List Nat) :=
  if P.eqGuardType P.depth t = true then none else
  match P.underlying t with
  | some (.struct fs) => if P.stoodInHeld t = true then none else fieldKinds P fs.toList 0
  | some (.array n e) => (kindOf P e).map fun k => List.replicate n k
  | _ => none

def cBin (P : Program) (op : BinOp) (t : TypeId) (x y : Opd) : Option SOp :=
  match op with
  | .eql | .neq =>
    match P.underlying t with
    | some (.int _) | some .string => some (.p (.bin op x y))
    | some .bool => some (.p (.eqb (op == .neq) x y))
    | some (.pointer _) => some (.p (.eqn .ptr (op == .neq) x y))
    | some (.slice _) => some (.p (.eqn .slice (op == .neq) x y))
    | some (.map _ _) => some (.p (.eqn .map (op == .neq) x y))
    | some (.func _ _ _) => some (.p (.eqn .func (op == .neq) x y))
    | some (.struct _) | some (.array _ _) => (eqKinds P t).map fun ks => .p (.eqa ks (op == .neq) x y)
    | _ => none
  | _ => some (.p (.bin op x y))

def cMM (mx : Bool) : List Opd → Option SOp
  | [x, y] => some (.p (.minmax mx x y))
  | [x, y, z] => some (.p (.minmax3 mx x y z))
  | [x, y, z, u] => some (.p (.minmax4 mx x y z u))
  | _ => none

def cBuiltin (P : Program) (base : Nat) (b : Builtin) (ts : List TypeId) (args : List Opd) : Option SOp :=
  match b, ts, args with
  | .len, t :: _, x :: _ =>
    match P.underlying t with
    | some .string => some (.p (.lenV false x))
    | some (.slice _) => some (.p (.lenV true x))
    | some (.array n _) => some (.p (.konst (.int .i64 n)))
    | some (.pointer a) => match P.underlying a with
      | some (.array n _) => some (.p (.konst (.int .i64 n)))
      | _ => none
    | some (.map _ _) => some (.r (.lenM x))
    | _ => none
  | .min, _, xs => cMM false xs
  | .max, _, xs => cMM true xs
  | .append, t :: t2 :: _, [x, y] =>
    match P.underlying t, P.underlying t2 with
    | some (.slice e), some (.slice _) | some (.slice e), some .string => match szOf P e, bytOf P e with
      | some s, some b => if 0 < s ∧ (zeroOf P e).map List.length = some s ∧ 0 < b then some (.w (.append base s b x y)) else none
      | _, _ => none
    | _, _ => none
  | .copy, t :: _, [x, y] =>
    match P.underlying t with
    | some (.slice e) => match szOf P e with
      | some s => if 0 < s then some (.w (.copy s x y)) else none
      | none => none
    | _ => none
  | _, _, _ => none

/-- 'q': does a call of this function leave all that was there alone? (A wrong word makes nothing wrong: it only makes less provable.) -/
def cOp (P : Program) (q : Qs) (base : Nat) (o : Oper) : Option SOp :=
  match o.op with
  | .move x | .assign x => (cOpd P x).map fun x => .p (.mv x)
  | .pick c a b => match cOpd P c, cOpd P a, cOpd P b with
    | some c, some a, some b => some (.p (.pick c a b))
    | _, _, _ => none
  | .binOp op t x y _ => match cOpd P x, cOpd P y with
    | some x, some y => cBin P op t x y
    | _, _ => none
  | .unOp op _ x => (cOpd P x).map fun x => .p (.un op x)
  | .convert src dst x => (cOpd P x).bind fun x =>
    match P.underlying src, P.underlying dst with
    | some (.int _), some (.int k) => some (.p (.conv k x))
    | some .string, some .string => some (.p (.mvStr x))
    | some .string, some (.slice e) => if isU8 P e then some (.a base (.toBytes x)) else none
    | some (.slice e), some .string => if isU8 P e then some (.r (.toStr x)) else none
    | _, _ => none
  | .alloc elem => (zeroOf P elem).map fun z => .a base (.alloc z)
  | .box _ x => (cOpd P x).map fun x => .a base (.box x)
  | .build t parts =>
    match zeroOf P t, P.underlying t with
    | some z, some (.struct fs) => if fieldsOk P fs.toList then (cParts P (fieldPl P fs) parts.toList).map fun ps => .p (.build z ps) else none
    | some z, some (.array _ e) => (szOf P e).bind fun s => (cParts P (fun i => some (i * s, s)) parts.toList).map fun ps => .p (.build z ps)
    | _, _ => none
  | .buildSlice t len parts =>
    match P.underlying t with
    | some (.slice e) => match szOf P e, zeroOf P e with
      | some s, some z => if 0 < s ∧ z.length = s ∧ len * s ≤ 2 ^ 24 then (cParts P (fun i => some (i * s, s)) parts.toList).map fun ps => .a base (.buildS s len z ps) else none
      | _, _ => none
    | _ => none
  | .load t x => match isAggT P t, szOf P t, cOpd P x with
    | some true, some n, some x => some (.r (.loadN n x))
    | some false, some _, some x => some (.r (.load1 x))
    | _, _, _ => none
  | .store t x v => match isAggT P t, szOf P t, cOpd P x, cOpd P v with
    | some true, some n, some x, some v => some (.w (.storeN n x v))
    | some false, some n, some x, some v => if n = 1 then some (.w (.store1 x v)) else none
    | _, _, _, _ => none
  | .fieldAddr s x f => match P.underlying s, cOpd P x with
    | some (.struct fs), some x => match fs[f]? with
      | some fd => match szOf P fd.type with
        | some n => if 0 < n then some (.p (.faddr fd.offset x)) else none
        | none => none
      | none => none
    | _, _ => none
  | .field t x f => match P.underlying t, cOpd P x with
    | some (.struct fs), some x => match fs[f]? with
      | some fd => match isAggT P fd.type, szOf P fd.type with
        | some true, some n => some (.p (.fieldN fd.offset n x))
        | some false, some _ => some (.p (.field1 fd.offset x))
        | _, _ => none
      | none => none
    | _, _ => none
  | .indexAddr t x i => match P.underlying t, cOpd P x, cOpd P i with
    | some (.array len e), some x, some i => (szOf P e).map fun s => .p (.iaddrA len s x i)
    | some (.slice e), some x, some i => (szOf P e).map fun s => .p (.iaddrS s x i)
    | _, _, _ => none
  | .index t x i => match P.underlying t, cOpd P x, cOpd P i with
    | some .string, some x, some i => some (.p (.idxStr x i))
    | some (.array len e), some x, some i => match isAggT P e, szOf P e with
      | some true, some n => some (.p (.idxAN len n x i))
      | some false, some n => if n = 1 then some (.p (.idxA len x i)) else none
      | _, _ => none
    | _, _, _ => none
  | .slice t x lo hi mx => match P.underlying t, cOpd P x, cOpt P lo, cOpt P hi, cOpt P mx with
    | some .string, some x, some lo, some hi, some none => some (.p (.slcStr x lo hi))
    | some (.array n e), some x, some lo, some hi, some none => (szOf P e).bind fun s => if 0 < s then some (.p (.slcA n s x lo hi)) else none
    | some (.slice e), some x, some lo, some hi, some mx => (szOf P e).bind fun s => if 0 < s then some (.p (.slcS s x lo hi mx)) else none
    | _, _, _, _, _ => none
  | .extract x i => (cOpd P x).map fun x => .p (.extract x i)
  | .makeFunc (.func f) first captured => match cOpds P first.toList, cOpds P captured.toList with
    | some a, some b => some (.p (.mkFunc f a b))
    | _, _ => none
  | .makeSlice t l c => match P.underlying t with
    | some (.slice e) => match szOf P e, bytOf P e, zeroOf P e, cOpd P l, cOpd P c with
      | some s, some b, some z, some l, some c => some (.a base (.mkSlice s b z l c))
      | _, _, _, _, _ => none
    | _ => none
  | .makeMap t none => match P.underlying t with
    | some (.map _ _) => some (.a base .mkMap)
    | _ => none
  | .lookup t x k ok => match P.underlying t with
    | some (.map kt et) => match keyT P kt, zero1 P et, cOpd P x, cOpd P k with
      | some sk, some z, some x, some k => some (.r (.lookup sk z x k ok))
      | _, _, _, _ => none
    | _ => none
  | .mapUpdate t m k v => match P.underlying t, cOpd P m, cOpd P k, cOpd P v with
    | some (.map kt _), some m, some k, some v => (keyT P kt).map fun sk => .w (.mapSet sk m k v)
    | _, _, _, _ => none
  | .sliceToArrayPointer t x => match P.underlying t with
    | some (.array n _) => (cOpd P x).map fun x => .p (.arrPtr n x)
    | _ => none
  | .nilCheck x => (cOpd P x).map fun x => .p (.nilChk x)
  | .call c => match cOpds P c.args.toList with
    | some args => match c.callee with
      | .builtin b => cBuiltin P base b c.argTypes.toList args
      | .value (.func f) => some (.call base 4 (q f) (.f f) args)
      | .value x => (cOpd P x).map fun x => .call base 4 (q (3000000 + base)) x args
      | _ => none
    | none => none
  | _ => none

/-! ### operands -/

theorem cScal_rel {γ : Gam} {v : Value} {a : AV} (h : cScal v = some a) : SRel γ a v := by
  unfold cScal at h
  split at h <;> first | (cases h; constructor) | cases h

theorem cScals_rel {γ : Gam} {l : List Value} {m : List AV} (h : cScals l = some m) : Pw (SRel γ) m l := by
  induction l generalizing m with
  | nil => simp [cScals] at h; subst h; exact Pw.nil
  | cons v l ih =>
    simp only [cScals] at h
    split at h
    · rename_i a b ha hb; cases h; exact Pw.cons (cScal_rel ha) (ih hb)
    · cases h

theorem cVal_rel {γ : Gam} {v : Value} {a : AV} (h : cVal v = some a) : VRel γ a v := by
  unfold cVal at h
  split at h
  · rename_i cs
    cases hc : cScals cs.toList with
    | none => simp [hc] at h
    | some m =>
      simp [hc] at h
      subst h
      exact VRel.agg (l' := cs.toList) (cScals_rel hc)
  · cases h; exact VRel.undef γ
  · exact .sc (cScal_rel h)

/-- The global variables' blocks. -/
def GRel (P : Program) (γ : Gam) : Prop := ∀ n gl i, P.globals[n]? = some gl → P.info? gl.type = some i → PRel γ ⟨0, gid n, i.size, 0⟩ ⟨n, 0, none⟩

theorem GRel.ext {P : Program} {γ γ' : Gam} (h : GRel P γ) (x : Ext γ γ') : GRel P γ' := fun n gl i a b => (h n gl i a b).ext x

section
variable {P : Program} {γ : Gam} {e : Env} {a : Act}

theorem opd_rel (hG : GRel P γ) (hE : ERel γ e a.tmps) {x : Operand} {y : Opd} (h : cOpd P x = some y) : VRel γ (opd e y) (a.eval x) := by
  cases x with
  | tmp t => simp [cOpd] at h; subst h; exact hE.get t
  | const v =>
    simp [cOpd] at h
    obtain ⟨b, hb, rfl⟩ := h
    exact cVal_rel hb
  | global g =>
    simp [cOpd, Option.bind_eq_some_iff] at h
    obtain ⟨gl, hgl, i, hi, rfl⟩ := h
    exact .sc (.ptr (hG g gl i hgl hi))
  | func f =>
    simp [cOpd] at h
    subst h
    exact .sc (SRel.func f (l := []) (m := []) (l' := []) (m' := []) rfl rfl (fun i v r h => by simp at h) (fun i v r h => by simp at h))

theorem opds_rel (hG : GRel P γ) (hE : ERel γ e a.tmps) {l : List Operand} {m : List Opd} (h : cOpds P l = some m) : Pw (VRel γ) (opds e m) (l.map a.eval) := by
  induction l generalizing m with
  | nil => simp [cOpds] at h; subst h; exact Pw.nil
  | cons x l ih =>
    simp only [cOpds] at h
    split at h
    · rename_i y n hy hn; cases h; exact Pw.cons (opd_rel hG hE hy) (ih hn)
    · cases h

end

/-! ### what a value's relation says of its shape -/

section
variable {γ : Gam} {r : Value}
theorem VRel.bool_inv {b : Bool} (h : VRel γ (.bool b) r) : r = .bool b := by cases h with | sc h => cases h; rfl
theorem VRel.int_inv {k : IntKind} {n : Int} (h : VRel γ (.int k n) r) : r = .int k n := by cases h with | sc h => cases h; rfl
theorem VRel.str_inv {s : List UInt8} (h : VRel γ (.str s) r) : ∃ b, r = .string b ∧ b.data.toList = s := by cases h with | sc h => cases h; exact ⟨_, rfl, rfl⟩
theorem VRel.ptr_inv {x : AAddr} (h : VRel γ (.ptr (some x)) r) : ∃ p, r = .pointer (some p) ∧ PRel γ x p := by cases h with | sc h => cases h; rename_i h; exact ⟨_, rfl, h⟩
theorem VRel.slice_inv {x : AAddr} {n e : Nat} (h : VRel γ (.slice (some x) n e) r) : ∃ p c, r = .slice (some p) n c ∧ LRel γ x n e p c := by cases h with | sc h => cases h; rename_i h; exact ⟨_, _, rfl, h⟩
theorem VRel.nilslice_inv {n e : Nat} (h : VRel γ (.slice none n e) r) : n = 0 ∧ r = .slice none 0 0 := by cases h with | sc h => cases h; exact ⟨rfl, rfl⟩
theorem VRel.room0_inv {e : Nat} (h : VRel γ (.slice0 e) r) : ∃ p, r = .slice (some p) 0 0 := by cases h with | sc h => cases h; exact ⟨_, rfl⟩
theorem VRel.nilmap_inv (h : VRel γ (.map none) r) : r = .map none := by cases h with | sc h => cases h; rfl
theorem VRel.map_inv {x : AAddr} (h : VRel γ (.map (some x)) r) : ∃ p, r = .map (some p) ∧ MPRel γ x p := by cases h with | sc h => cases h; rename_i h; exact ⟨_, rfl, h⟩
theorem VRel.agg_inv {l : List AV} (h : VRel γ (.agg l) r) : ∃ l', r = .agg (List.toArray l') ∧ Pw (SRel γ) l l' := by
  cases h with
  | sc h => cases h
  | agg h => exact ⟨_, rfl, h⟩
theorem VRel.tuple_inv {l : List AV} (h : VRel γ (.tuple l) r) : ∃ l', r = .tuple (List.toArray l') ∧ Pw (WRel γ) l l' := by
  cases h with
  | sc h => cases h
  | tuple h => exact ⟨_, rfl, h⟩
theorem VRel.func_inv {f : Nat} {l m : List AV} (h : VRel γ (.func f l m) r) : ∃ l' m', r = .func (.func f) (List.toArray l') (List.toArray m') ∧ Pw (SRel γ) l l' ∧ Pw (SRel γ) m m' := by
  cases h with
  | sc h => cases h; rename_i hl pl hm pm; exact ⟨_, _, rfl, ⟨hl, pl⟩, ⟨hm, pm⟩⟩

/-- The cells of a value. -/
theorem VRel.cells {v : AV} {c : List AV} (h : VRel γ v r) (hc : cellsOf v = some c) : Pw (SRel γ) c r.cells.toList := by
  cases h with
  | sc h =>
    cases h <;> simp only [cellsOf, Option.some.injEq] at hc <;> subst hc <;>
      (simp only [Value.cells]; refine Pw.cons ?_ Pw.nil)
    · exact .bool _
    · exact .int _ _
    · exact .str _
    · exact .ptr0
    · rename_i h; exact .ptr h
    · exact .slice0 _
    · rename_i h; exact .slice h
    · exact .room0 _ _
    · exact .map0
    · rename_i h; exact .map h
    · rename_i hl hm pl pm; exact .func _ hl hm pl pm
    · exact .nilFunc
  | agg h => simp only [cellsOf, Option.some.injEq] at hc; subst hc; simpa [Value.cells] using h
  | tuple h => simp [cellsOf] at hc
  | dead r => simp [cellsOf] at hc

theorem VRel.scalar_inv {v : AV} (h : VRel γ v r) (hs : scalar v = true) : SRel γ v r := by
  cases h with
  | sc h => exact h
  | agg h => simp [scalar] at hs
  | tuple h => simp [scalar] at hs
  | dead r => simp [scalar] at hs

theorem SRel.scalar {v : AV} (h : SRel γ v r) : scalar v = true ∧ r.cells = #[r] ∧ (∀ c, r ≠ .agg c) ∧ (∀ c, r ≠ .tuple c) := by
  cases h <;> exact ⟨rfl, rfl, (fun _ h => by cases h), (fun _ h => by cases h)⟩
end

end Go.Det

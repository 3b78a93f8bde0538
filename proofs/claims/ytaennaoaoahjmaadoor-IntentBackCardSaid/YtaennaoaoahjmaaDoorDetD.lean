/-
  DET, part D: the pure operations' soundness.
-/
import Derived.Test.YtaennaoaoahjmaaDoorDetC
import Derived.Laws.Strings
import Derived.Laws.Sem
import Derived.Laws.Entries
set_option linter.unusedSimpArgs false
set_option linter.unusedVariables false
namespace Go.Det

theorem r_info {P : Program} {t : TypeId} {i : TypeInfo} (h : P.info? t = some i) (w : World) : (typeInfo t).run P w = .ok i w := by
  simp only [typeInfo, Sem.run_bind, Go.run_program, Result.andThen_ok, h, Sem.run_pure]
theorem r_size {P : Program} {t : TypeId} {n : Nat} (h : szOf P t = some n) (w : World) : (sizeOf t).run P w = .ok n w := by
  unfold szOf at h
  cases hi : P.info? t with
  | none => rw [hi] at h; cases h
  | some i =>
    rw [hi] at h; cases h
    simp only [sizeOf, Sem.run_bind, r_info hi, Result.andThen_ok, Sem.run_pure]
theorem r_und {P : Program} {t : TypeId} {d : TypeDesc} (h : P.underlying t = some d) (w : World) : (underlying t).run P w = .ok d w := run_underlying h w
theorem r_isAgg {P : Program} {t : TypeId} {b : Bool} (h : isAggT P t = some b) (w : World) : (isAgg t).run P w = .ok b w := by
  unfold isAggT at h
  split at h
  · rename_i hu; cases h; simp only [isAgg, Sem.run_bind, r_und hu, Result.andThen_ok, Sem.run_pure]
  · rename_i hu; cases h; simp only [isAgg, Sem.run_bind, r_und hu, Result.andThen_ok, Sem.run_pure]
  · rename_i d h1 h2 hu
    cases h
    simp only [isAgg, Sem.run_bind, r_und hu, Result.andThen_ok]
    rfl
  · cases h

section
variable {P : Program} {t yt : TypeId} {x y z u : Operand} (w : World) {dst : Option Tmp} {ty : TypeId} {pos : String} {after : Array Edge} {guard : Option (Nat × Bool)} {ρ : Operand → Value}

theorem run_guard_int {op : BinOp} {k k' : IntKind} {n m : Int} : (eqGuard op t x y (.int k n) (.int k' m)).run P w = .ok () w := by
  cases op <;> rfl

theorem run_bin_int {op : BinOp} {k k' : IntKind} {n m : Int} {v : AV} (h : abin op (.int k n) (.int k' m) = some v) :
    ∃ r, (∀ γ, VRel γ v r) ∧ ∀ w, (binOp op t (.int k n) (.int k' m)).run P w = .ok r w := by
  cases op <;> simp only [abin, ashift, aint] at h <;> (repeat' split at h) <;> first
    | (cases h; done)
    | (rename_i hneg
       cases h
       refine ⟨_, fun γ => .sc (by first | exact SRel.int _ _ | exact SRel.bool _), fun w => ?_⟩
       simp only [binOp, Op.shift, if_neg hneg]
       rfl)
    | (rename_i hk hz
       cases h
       refine ⟨_, fun γ => .sc (by first | exact SRel.int _ _ | exact SRel.bool _), fun w => ?_⟩
       subst hk
       simp only [binOp, Op.intDiv, if_neg hz, ne_eq, not_true_eq_false, if_false]
       rfl)
    | (rename_i hk
       cases h
       refine ⟨_, fun γ => .sc (by first | exact SRel.int _ _ | exact SRel.bool _), fun w => ?_⟩
       subst hk
       simp only [binOp, Op.intArith, Op.intBits, Op.intCmp, ne_eq, not_true_eq_false, if_false]
       rfl)

theorem run_bin_str {op : BinOp} {a b : ByteArray} {v : AV} (h : abin op (.str a.data.toList) (.str b.data.toList) = some v) :
    ∃ r, (∀ γ, VRel γ v r) ∧ ∀ w, (binOp op t (.string a) (.string b)).run P w = .ok r w := by
  cases op <;> simp only [abin, astr] at h <;> (try cases h; done)
  · split at h
    · rename_i hl
      cases h
      have hl' : ¬ (((a.size + b.size : Nat) : Int) > IntKind.max .i64) := by
        simp only [IntKind.max, IntKind.signed, IntKind.bits]
        have e1 : a.size = a.data.toList.length := by rw [Array.length_toList]; rfl
        have e2 : b.size = b.data.toList.length := by rw [Array.length_toList]; rfl
        rw [e1, e2]
        have : ((if True then 2 ^ (64 - 1) - 1 else 2 ^ 64 - 1 : Int)) = 9223372036854775807 := by decide
        rw [this]
        have h2 : (2 : Nat) ^ 62 = 4611686018427387904 := by decide
        rw [h2] at hl
        omega
      refine ⟨.string (a ++ b), fun γ => .sc ?_, fun w => ?_⟩
      · have := SRel.str (γ := γ) (a ++ b)
        rwa [ByteArray.data_append, Array.toList_append] at this
      · simp only [binOp, Op.stringOp, if_neg hl']
        rfl
    · cases h
  · cases h
    refine ⟨_, fun γ => .sc (SRel.bool _), fun w => ?_⟩
    simp only [binOp, Op.stringOp, ByteArray.toList_eq]
    rfl
  · cases h
    refine ⟨_, fun γ => .sc (SRel.bool _), fun w => ?_⟩
    simp only [binOp, Op.stringOp, ByteArray.toList_eq]
    rfl

theorem run_equal_of {p q : Value} {b : Bool} (h : ∀ n, (Op.equalIn (n + 1) t p q).run P w = .ok b w) : (Op.equal t p q).run P w = .ok b w := h 9999

theorem run_eqb {neg : BinOp} {a b : Bool} (hn : neg = .eql ∨ neg = .neq) (hu : P.underlying t = some .bool) :
    (binOp neg t (.bool a) (.bool b)).run P w = .ok (.bool (if neg == .neq then !(a == b) else a == b)) w := by
  have h1 : (Op.equal t (.bool a) (.bool b)).run P w = .ok (a == b) w := run_equal_of w fun n => by
    simp only [Op.equalIn, Sem.run_bind, r_und hu, Result.andThen_ok]
    rfl
  rcases hn with rfl | rfl <;> (simp only [binOp, Sem.run_bind, h1, Result.andThen_ok]; rfl)

theorem isNil_inv {γ : Gam} {k : NilK} {p : AV} {X : Value} {c : Bool} (h : isNil k p = some c) (hx : VRel γ p X) :
    match k with
    | .ptr => ∃ a, X = .pointer a ∧ a.isNone = c
    | .slice => ∃ a n m, X = .slice a n m ∧ a.isNone = c
    | .map => ∃ a, X = .map a ∧ a.isNone = c
    | .func => (X = .nilFunc ∧ c = true) ∨ ((∃ a b d, X = .func a b d) ∧ c = false) := by
  unfold isNil at h
  split at h
  · rename_i a
    cases a with
    | none => cases h; cases hx with | sc hx => cases hx; exact ⟨_, rfl, rfl⟩
    | some a => cases h; cases hx with | sc hx => cases hx; exact ⟨_, rfl, rfl⟩
  · rename_i a n e
    cases a with
    | none => cases h; cases hx with | sc hx => cases hx; exact ⟨_, _, _, rfl, rfl⟩
    | some a => cases h; cases hx with | sc hx => cases hx; exact ⟨_, _, _, rfl, rfl⟩
  · cases h; cases hx with | sc hx => cases hx; exact ⟨_, _, _, rfl, rfl⟩
  · rename_i a
    cases a with
    | none => cases h; cases hx with | sc hx => cases hx; exact ⟨_, rfl, rfl⟩
    | some a => cases h; cases hx with | sc hx => cases hx; exact ⟨_, rfl, rfl⟩
  · cases h; cases hx with | sc hx => cases hx; exact .inl ⟨rfl, rfl⟩
  · cases h; cases hx with | sc hx => cases hx; exact .inr ⟨⟨_, _, _, rfl⟩, rfl⟩
  · cases h

theorem anil_inv {k : NilK} {p q : AV} {b : Bool} (h : anil k p q = some b) : (isNil k p = some true ∧ isNil k q = some b) ∨ (isNil k q = some true ∧ isNil k p = some b) := by
  unfold anil at h
  split at h
  · rename_i c h1 h2; cases h; exact .inl ⟨h1, h2⟩
  · rename_i c _ h1 h2; cases h; exact .inr ⟨h2, h1⟩
  · cases h

theorem run_eqn {γ : Gam} {neg : BinOp} {p q : AV} {b : Bool} {k : NilK} {X Y : Value} (hn : neg = .eql ∨ neg = .neq)
    (hu : match k with
      | .ptr => ∃ e, P.underlying t = some (.pointer e)
      | .slice => ∃ e, P.underlying t = some (.slice e)
      | .map => ∃ k e, P.underlying t = some (.map k e)
      | .func => ∃ a b c, P.underlying t = some (.func a b c))
    (hx : VRel γ p X) (hy : VRel γ q Y) (h : anil k p q = some b) :
    (binOp neg t X Y).run P w = .ok (.bool (if neg == .neq then !b else b)) w := by
  have key : (Op.equal t X Y).run P w = .ok b w ∧
      binOp neg t X Y = (if neg = .eql then (do pure (.bool (← Op.equal t X Y))) else (do pure (.bool (!(← Op.equal t X Y))))) := by
    cases k with
    | ptr =>
      obtain ⟨e, hu⟩ := hu
      rcases anil_inv h with ⟨h1, h2⟩ | ⟨h1, h2⟩
      · obtain ⟨a, rfl, ha⟩ := isNil_inv h1 hx
        obtain ⟨c, rfl, hc⟩ := isNil_inv h2 hy
        cases a with
        | some a => cases ha
        | none =>
          refine ⟨run_equal_of w fun n => by simp only [Op.equalIn, Sem.run_bind, r_und hu, Result.andThen_ok, hc]; rfl, ?_⟩
          rcases hn with rfl | rfl <;> cases c <;> rfl
      · obtain ⟨a, rfl, ha⟩ := isNil_inv h1 hy
        obtain ⟨c, rfl, hc⟩ := isNil_inv h2 hx
        cases a with
        | some a => cases ha
        | none =>
          cases c with
          | none => cases hc; exact ⟨run_equal_of w fun n => by simp only [Op.equalIn, Sem.run_bind, r_und hu, Result.andThen_ok]; rfl, by rcases hn with rfl | rfl <;> rfl⟩
          | some c => cases hc; exact ⟨run_equal_of w fun n => by simp only [Op.equalIn, Sem.run_bind, r_und hu, Result.andThen_ok]; rfl, by rcases hn with rfl | rfl <;> rfl⟩
    | slice =>
      obtain ⟨e, hu⟩ := hu
      rcases anil_inv h with ⟨h1, h2⟩ | ⟨h1, h2⟩
      · obtain ⟨a, n1, m1, rfl, ha⟩ := isNil_inv h1 hx
        obtain ⟨c, n2, m2, rfl, hc⟩ := isNil_inv h2 hy
        cases a with
        | some a => cases ha
        | none =>
          refine ⟨run_equal_of w fun n => by simp only [Op.equalIn, Sem.run_bind, r_und hu, Result.andThen_ok, hc]; rfl, ?_⟩
          rcases hn with rfl | rfl <;> cases c <;> rfl
      · obtain ⟨a, n1, m1, rfl, ha⟩ := isNil_inv h1 hy
        obtain ⟨c, n2, m2, rfl, hc⟩ := isNil_inv h2 hx
        cases a with
        | some a => cases ha
        | none =>
          cases c with
          | none => cases hc; exact ⟨run_equal_of w fun n => by simp only [Op.equalIn, Sem.run_bind, r_und hu, Result.andThen_ok]; rfl, by rcases hn with rfl | rfl <;> rfl⟩
          | some c => cases hc; exact ⟨run_equal_of w fun n => by simp only [Op.equalIn, Sem.run_bind, r_und hu, Result.andThen_ok]; rfl, by rcases hn with rfl | rfl <;> rfl⟩
    | map =>
      obtain ⟨k, e, hu⟩ := hu
      rcases anil_inv h with ⟨h1, h2⟩ | ⟨h1, h2⟩
      · obtain ⟨a, rfl, ha⟩ := isNil_inv h1 hx
        obtain ⟨c, rfl, hc⟩ := isNil_inv h2 hy
        cases a with
        | some a => cases ha
        | none =>
          refine ⟨run_equal_of w fun n => by simp only [Op.equalIn, Sem.run_bind, r_und hu, Result.andThen_ok, hc]; rfl, ?_⟩
          rcases hn with rfl | rfl <;> cases c <;> rfl
      · obtain ⟨a, rfl, ha⟩ := isNil_inv h1 hy
        obtain ⟨c, rfl, hc⟩ := isNil_inv h2 hx
        cases a with
        | some a => cases ha
        | none =>
          cases c with
          | none => cases hc; exact ⟨run_equal_of w fun n => by simp only [Op.equalIn, Sem.run_bind, r_und hu, Result.andThen_ok]; rfl, by rcases hn with rfl | rfl <;> rfl⟩
          | some c => cases hc; exact ⟨run_equal_of w fun n => by simp only [Op.equalIn, Sem.run_bind, r_und hu, Result.andThen_ok]; rfl, by rcases hn with rfl | rfl <;> rfl⟩
    | func =>
      obtain ⟨x1, x2, x3, hu⟩ := hu
      rcases anil_inv h with ⟨h1, h2⟩ | ⟨h1, h2⟩
      · rcases isNil_inv h1 hx with ⟨rfl, _⟩ | ⟨_, hf⟩
        · rcases isNil_inv h2 hy with ⟨rfl, rfl⟩ | ⟨⟨_, _, _, rfl⟩, rfl⟩
          · exact ⟨run_equal_of w fun n => by simp only [Op.equalIn, Sem.run_bind, r_und hu, Result.andThen_ok]; rfl, by rcases hn with rfl | rfl <;> rfl⟩
          · exact ⟨run_equal_of w fun n => by simp only [Op.equalIn, Sem.run_bind, r_und hu, Result.andThen_ok]; rfl, by rcases hn with rfl | rfl <;> rfl⟩
        · cases hf
      · rcases isNil_inv h1 hy with ⟨rfl, _⟩ | ⟨_, hf⟩
        · rcases isNil_inv h2 hx with ⟨rfl, rfl⟩ | ⟨⟨_, _, _, rfl⟩, rfl⟩
          · exact ⟨run_equal_of w fun n => by simp only [Op.equalIn, Sem.run_bind, r_und hu, Result.andThen_ok]; rfl, by rcases hn with rfl | rfl <;> rfl⟩
          · exact ⟨run_equal_of w fun n => by simp only [Op.equalIn, Sem.run_bind, r_und hu, Result.andThen_ok]; rfl, by rcases hn with rfl | rfl <;> rfl⟩
        · cases hf
  obtain ⟨k1, k2⟩ := key
  rw [k2]
  rcases hn with rfl | rfl
  · simp only [if_true, Sem.run_bind, k1, Result.andThen_ok, Sem.run_pure]; rfl
  · simp only [reduceCtorEq, if_false, Sem.run_bind, k1, Result.andThen_ok, Sem.run_pure]; rfl

end

/-! ### every pure operation -/

/-- The operation comes to a value that the abstract one stands for; the world stays as it is. -/
def POk (P : Program) (γ : Gam) (a : Act) (o : Oper) (v : AV) : Prop := ∃ r, VRel γ v r ∧ ∀ w, (execOp a.eval o).run P w = .ok (.value r) w

section
variable {P : Program} {γ : Gam} {e : Env} {a : Act} {q : Qs} {base : Nat} {dst : Option Tmp} {ty : TypeId} {pos : String} {after : Array Edge} {guard : Option (Nat × Bool)}

theorem exec_v {α : Type} (s : Sem Value) (r : Value) (w : World) (h : s.run P w = .ok r w) : (do pure (Next.value (← s)) : Sem Next).run P w = .ok (.value r) w := by
  simp only [Sem.run_bind, h, Result.andThen_ok, Sem.run_pure]

theorem exec_v' (s : Sem Value) (r : Value) (w w' : World) (h : s.run P w = .ok r w') : (do pure (Next.value (← s)) : Sem Next).run P w = .ok (.value r) w' := by
  simp only [Sem.run_bind, h, Result.andThen_ok, Sem.run_pure]

theorem s_pick {c x y : Operand} {c' x' y' : Opd} {v : AV} (hG : GRel P γ) (hE : ERel γ e a.tmps) (hc : cOpd P c = some c') (hx : cOpd P x = some x') (hy : cOpd P y = some y')
    (h : evP (.pick c' x' y') e = some v) : POk P γ a ⟨dst, .pick c x y, ty, pos, after, guard⟩ v := by
  simp only [evP] at h
  have rc := opd_rel hG hE hc
  split at h
  · rename_i t ht
    rw [ht] at rc
    have := rc.bool_inv
    cases h
    refine ⟨if t then a.eval x else a.eval y, ?_, fun w => ?_⟩
    · cases t
      · exact opd_rel hG hE hy
      · exact opd_rel hG hE hx
    · simp only [execOp, this, asBool, Sem.run_bind, Sem.run_pure, Result.andThen_ok]
  · cases h

theorem guard_ok {op : BinOp} {t : TypeId} {x y : Operand} {p q : Value} (w : World) (hp : ∀ c, p ≠ .agg c) (hn : p ≠ .nilIface) : (eqGuard op t x y p q).run P w = .ok () w := by
  cases p <;> first
    | exact absurd rfl hn
    | exact absurd rfl (hp _)
    | (cases op <;> cases q <;> rfl)

theorem bin_of {op : BinOp} {t yt : TypeId} {x y : Operand} {p q r : Value} {v : AV} (hx : a.eval x = p) (hy : a.eval y = q) (hp : ∀ c, p ≠ .agg c) (hn : p ≠ .nilIface)
    (hr : VRel γ v r) (h : ∀ w, (binOp op t p q).run P w = .ok r w) : POk P γ a ⟨dst, .binOp op t x y yt, ty, pos, after, guard⟩ v := by
  refine ⟨r, hr, fun w => ?_⟩
  simp only [execOp]
  refine exec_v (α := Unit) _ r w ?_
  rw [hx, hy]
  simp only [Sem.run_bind, guard_ok w hp hn, Result.andThen_ok, h]

theorem s_bin {op : BinOp} {t yt : TypeId} {x y : Operand} {x' y' : Opd} {v : AV} (hG : GRel P γ) (hE : ERel γ e a.tmps) (hx : cOpd P x = some x') (hy : cOpd P y = some y')
    (h : abin op (opd e x') (opd e y') = some v) : POk P γ a ⟨dst, .binOp op t x y yt, ty, pos, after, guard⟩ v := by
  have rx := opd_rel hG hE hx
  have ry := opd_rel hG hE hy
  generalize opd e x' = p at *
  generalize opd e y' = q at *
  cases p <;> cases q <;> simp only [abin] at h <;> (try (cases h; done))
  · obtain ⟨r, hr, hrun⟩ := run_bin_int (P := P) (t := t) (op := op) (by simp only [abin]; exact h)
    exact bin_of rx.int_inv ry.int_inv (by simp) (by simp) (hr γ) hrun
  · obtain ⟨b, eb, hb⟩ := rx.str_inv
    obtain ⟨c, ec, hc⟩ := ry.str_inv
    subst hb; subst hc
    obtain ⟨r, hr, hrun⟩ := run_bin_str (P := P) (t := t) (op := op) (by simp only [abin]; exact h)
    exact bin_of eb ec (by simp) (by simp) (hr γ) hrun

theorem nil_shape {k : NilK} {p : AV} {X : Value} {c : Bool} (h : isNil k p = some c) (hx : VRel γ p X) : (∀ c, X ≠ .agg c) ∧ X ≠ .nilIface := by
  have := isNil_inv h hx
  cases k with
  | ptr => obtain ⟨_, rfl, _⟩ := this; simp
  | slice => obtain ⟨_, _, _, rfl, _⟩ := this; simp
  | map => obtain ⟨_, rfl, _⟩ := this; simp
  | func => rcases this with ⟨rfl, _⟩ | ⟨⟨_, _, _, rfl⟩, _⟩ <;> simp

theorem s_eqn {op : BinOp} {t yt : TypeId} {x y : Operand} {x' y' : Opd} {v : AV} {k : NilK} (hop : op = .eql ∨ op = .neq) (hG : GRel P γ) (hE : ERel γ e a.tmps) (hx : cOpd P x = some x') (hy : cOpd P y = some y')
    (hu : match k with
      | .ptr => ∃ e, P.underlying t = some (.pointer e)
      | .slice => ∃ e, P.underlying t = some (.slice e)
      | .map => ∃ k e, P.underlying t = some (.map k e)
      | .func => ∃ a b c, P.underlying t = some (.func a b c))
    (h : evP (.eqn k (op == .neq) x' y') e = some v) : POk P γ a ⟨dst, .binOp op t x y yt, ty, pos, after, guard⟩ v := by
  have rx := opd_rel hG hE hx
  have ry := opd_rel hG hE hy
  simp only [evP] at h
  split at h
  · rename_i b hb
    cases h
    have hs : ∃ c, isNil k (opd e x') = some c := by
      rcases anil_inv hb with ⟨h1, _⟩ | ⟨_, h2⟩
      · exact ⟨_, h1⟩
      · exact ⟨_, h2⟩
    obtain ⟨c, hs⟩ := hs
    obtain ⟨n1, n2⟩ := nil_shape hs rx
    exact bin_of rfl rfl n1 n2 (.sc (.bool _)) fun w => run_eqn w hop hu rx ry hb
  · cases h

theorem s_eqb {op : BinOp} {t yt : TypeId} {x y : Operand} {x' y' : Opd} {v : AV} (hop : op = .eql ∨ op = .neq) (hG : GRel P γ) (hE : ERel γ e a.tmps) (hx : cOpd P x = some x') (hy : cOpd P y = some y')
    (hu : P.underlying t = some .bool) (h : evP (.eqb (op == .neq) x' y') e = some v) : POk P γ a ⟨dst, .binOp op t x y yt, ty, pos, after, guard⟩ v := by
  have rx := opd_rel hG hE hx
  have ry := opd_rel hG hE hy
  simp only [evP] at h
  split at h
  · rename_i b c hb hc
    rw [hb] at rx; rw [hc] at ry
    cases h
    exact bin_of rx.bool_inv ry.bool_inv (by simp) (by simp) (.sc (.bool _)) fun w => run_eqb w hop hu
  · cases h

/-! ### aggregates held against one another -/
theorem kindOf_inv {P : Program} {t : TypeId} {k : Nat} (h : kindOf P t = some k) : szOf P t = some 1 ∧ isAggT P t = some false ∧
    ((∃ q, P.underlying t = some (.int q)) ∧ k = 0 ∨ P.underlying t = some .string ∧ k = 1 ∨ P.underlying t = some .bool ∧ k = 2) := by
  unfold kindOf at h
  split at h
  · rename_i hs
    refine ⟨hs, ?_⟩
    unfold isAggT
    split at h
    · rename_i q hu; cases h; rw [hu]; exact ⟨rfl, .inl ⟨⟨_, rfl⟩, rfl⟩⟩
    · rename_i hu; cases h; rw [hu]; exact ⟨rfl, .inr (.inl ⟨rfl, rfl⟩)⟩
    · rename_i hu; cases h; rw [hu]; exact ⟨rfl, .inr (.inr ⟨rfl, rfl⟩)⟩
    · cases h
  · cases h

theorem run_cell {γ : Gam} {t : TypeId} {k : Nat} (h : kindOf P t = some k) {x y : AV} {X Y : Value} {b : Bool} (hx : SRel γ x X) (hy : SRel γ y Y) (hk : avK x = k) (hc : acell x y = some b) (d : Nat) (w : World) :
    (Op.equalIn (d + 1) t X Y).run P w = .ok b w := by
  obtain ⟨_, _, hu⟩ := kindOf_inv h
  unfold acell at hc
  split at hc
  · rename_i k1 a k2 c
    split at hc
    · rename_i hkk
      cases hc
      subst hkk
      rcases hu with ⟨⟨q, hu⟩, _⟩ | ⟨_, h1⟩ | ⟨_, h1⟩
      · cases hx; cases hy
        exact run_equalIn_int w d t _ _ _ _ hu
      · rw [h1] at hk; cases hk
      · rw [h1] at hk; cases hk
    · cases hc
  · cases hc
    rcases hu with ⟨_, h1⟩ | ⟨_, h1⟩ | ⟨hu, _⟩
    · rw [h1] at hk; cases hk
    · rw [h1] at hk; cases hk
    · cases hx; cases hy
      exact run_equalIn_bool' w d t _ _ hu
  · cases hc
    rcases hu with ⟨_, h1⟩ | ⟨hu, _⟩ | ⟨_, h1⟩
    · rw [h1] at hk; cases hk
    · cases hx with | str s1 => cases hy with | str s2 =>
      have := run_equalIn_string w d t s1 s2 hu
      rwa [ByteArray.toList_eq, ByteArray.toList_eq] at this
    · rw [h1] at hk; cases hk
  · cases hc

theorem run_part1 {t : TypeId} (h1 : isAggT P t = some false) {xs : List Value} {i : Nat} {X : Value} (hx : xs[i]? = some X) (w : World) : (part t xs.toArray i).run P w = .ok X w := by
  simp only [part, Sem.run_bind, r_isAgg h1, Result.andThen_ok, Bool.false_eq_true, if_false, List.getElem?_toArray, hx]
  rfl

theorem acells_cons {x y : AV} {l m : List AV} {b : Bool} (h : acells (x :: l) (y :: m) = some b) : ∃ p q, acell x y = some p ∧ acells l m = some q ∧ b = (p && q) := by
  simp only [acells] at h
  split at h
  · rename_i p q hp hq; cases h; exact ⟨p, q, hp, hq, rfl⟩
  · cases h

theorem run_fields {γ : Gam} (d : Nat) (w : World) : ∀ (fs : List Field) (i : Nat) (ks : List Nat) (l m : List AV) (xs ys : List Value) (b : Bool), fieldKinds P fs i = some ks → l.map avK = ks → acells l m = some b →
    (∀ (j : Nat) x, l[j]? = some x → ∃ X, xs[i + j]? = some X ∧ SRel γ x X) → (∀ (j : Nat) y, m[j]? = some y → ∃ Y, ys[i + j]? = some Y ∧ SRel γ y Y) → (Op.eqFields (d + 1) xs.toArray ys.toArray fs).run P w = .ok b w
  | [], i, ks, l, m, xs, ys, b, hk, hl, hc, _, _ => by
    simp only [fieldKinds, Option.some.injEq] at hk
    subst hk
    rw [List.map_eq_nil_iff] at hl
    subst hl
    cases m with
    | nil => simp only [acells, Option.some.injEq] at hc; subst hc; rfl
    | cons y m => simp [acells] at hc
  | f :: fs, i, ks, l, m, xs, ys, b, hk, hl, hc, hx, hy => by
    simp only [fieldKinds] at hk
    split at hk
    · rename_i hf
      split at hk
      · rename_i k ks' h1 h2
        cases hk
        cases l with
        | nil => simp at hl
        | cons x l =>
          cases m with
          | nil => simp [acells] at hc
          | cons y m =>
            simp only [List.map_cons, List.cons.injEq] at hl
            obtain ⟨p, q, hp, hq, rfl⟩ := acells_cons hc
            obtain ⟨X, eX, rX⟩ := hx 0 x rfl
            obtain ⟨Y, eY, rY⟩ := hy 0 y rfl
            rw [Nat.add_zero] at eX eY
            obtain ⟨_, hag, _⟩ := kindOf_inv h1
            have ih := run_fields d w fs (i + 1) ks' l m xs ys q h2 hl.2 hq
              (fun j z hz => by have := hx (j + 1) z (by simpa using hz); rwa [show i + (j + 1) = i + 1 + j by omega] at this)
              (fun j z hz => by have := hy (j + 1) z (by simpa using hz); rwa [show i + (j + 1) = i + 1 + j by omega] at this)
            simp only [Op.eqFields, hf.1, ne_eq, not_false_eq_true, if_true, hf.2, Sem.run_bind, run_part1 hag eX, run_part1 hag eY, Result.andThen_ok, run_cell h1 rX rY hl.1 hp]
            cases p with
            | false => rfl
            | true => simpa using ih
      · cases hk
    · cases hk

theorem run_items {γ : Gam} (d : Nat) {e : TypeId} {k : Nat} (he : kindOf P e = some k) (w : World) : ∀ (n i : Nat) (l m : List AV) (xs ys : List Value) (b : Bool), l.map avK = List.replicate n k → acells l m = some b →
    (∀ (j : Nat) x, l[j]? = some x → ∃ X, xs[i + j]? = some X ∧ SRel γ x X) → (∀ (j : Nat) y, m[j]? = some y → ∃ Y, ys[i + j]? = some Y ∧ SRel γ y Y) → (Op.eqItems (d + 1) e 1 xs.toArray ys.toArray (List.range' i n)).run P w = .ok b w
  | 0, i, l, m, xs, ys, b, hl, hc, _, _ => by
    simp only [List.replicate_zero, List.map_eq_nil_iff] at hl
    subst hl
    cases m with
    | nil => simp only [acells, Option.some.injEq] at hc; subst hc; rfl
    | cons y m => simp [acells] at hc
  | n + 1, i, l, m, xs, ys, b, hl, hc, hx, hy => by
    cases l with
    | nil => simp [List.replicate_succ] at hl
    | cons x l =>
      cases m with
      | nil => simp [acells] at hc
      | cons y m =>
        simp only [List.map_cons, List.replicate_succ, List.cons.injEq] at hl
        obtain ⟨p, q, hp, hq, rfl⟩ := acells_cons hc
        obtain ⟨X, eX, rX⟩ := hx 0 x rfl
        obtain ⟨Y, eY, rY⟩ := hy 0 y rfl
        rw [Nat.add_zero] at eX eY
        obtain ⟨_, hag, _⟩ := kindOf_inv he
        have ih := run_items d he w n (i + 1) l m xs ys q hl.2 hq
          (fun j z hz => by have := hx (j + 1) z (by simpa using hz); rwa [show i + (j + 1) = i + 1 + j by omega] at this)
          (fun j z hz => by have := hy (j + 1) z (by simpa using hz); rwa [show i + (j + 1) = i + 1 + j by omega] at this)
        simp only [List.range'_succ, Op.eqItems, Nat.mul_one, Sem.run_bind, run_part1 hag eX, run_part1 hag eY, Result.andThen_ok, run_cell he rX rY hl.1 hp]
        cases p with
        | false => rfl
        | true => simpa using ih

theorem s_eqa {op : BinOp} {t yt : TypeId} {x y : Operand} {x' y' : Opd} {v : AV} {ks : List Nat} (hop : op = .eql ∨ op = .neq) (hG : GRel P γ) (hE : ERel γ e a.tmps) (hx : cOpd P x = some x') (hy : cOpd P y = some y')
    (hk : eqKinds P t = some ks) (h : evP (.eqa ks (op == .neq) x' y') e = some v) : POk P γ a ⟨dst, .binOp op t x y yt, ty, pos, after, guard⟩ v := by
  have rx := opd_rel hG hE hx
  have ry := opd_rel hG hE hy
  simp only [evP] at h
  split at h
  · rename_i l m hl hm
    rw [hl] at rx; rw [hm] at ry
    split at h
    · rename_i hkk
      split at h
      · rename_i r hr
        cases h
        obtain ⟨xs, ex, px⟩ := rx.agg_inv
        obtain ⟨ys, ey, py⟩ := ry.agg_inv
        unfold eqKinds at hk
        split at hk
        · cases hk
        rename_i hgt
        have hgt' : P.eqGuardType P.depth t = false := by simpa using hgt
        have key : ∀ w, (Op.equalIn 10000 t (.agg xs.toArray) (.agg ys.toArray)).run P w = .ok r w := by
          intro w
          split at hk
          · rename_i fs hu
            split at hk
            · cases hk
            rename_i hst
            have hfs : P.fieldsOf t = fs := by simp [Program.fieldsOf, hu]
            rw [show (10000 : Nat) = 9999 + 1 from rfl, run_equalIn_struct w 9999 t _ _ (by rw [hfs]; exact hu) (by simpa using hst), hfs]
            exact run_fields 9998 w fs.toList 0 ks l m xs ys r hk hkk hr (fun j z hz => by rw [Nat.zero_add]; exact px.get hz) (fun j z hz => by rw [Nat.zero_add]; exact py.get hz)
          · rename_i n el hu
            simp only [Option.map_eq_some_iff] at hk
            obtain ⟨k, hk, rfl⟩ := hk
            obtain ⟨hsz, _, _⟩ := kindOf_inv hk
            obtain ⟨i, hi, hi1⟩ : ∃ i, P.info? el = some i ∧ i.size = 1 := by
              unfold szOf at hsz
              cases hi : P.info? el with
              | none => rw [hi] at hsz; cases hsz
              | some i => rw [hi] at hsz; simp at hsz; exact ⟨i, rfl, hsz⟩
            have hco : P.cellsOf el = 1 := by simp [Program.cellsOf, hi, hi1]
            rw [show (10000 : Nat) = 9999 + 1 from rfl, run_equalIn_array w 9999 _ _ hu hi, hco, List.range_eq_range']
            exact run_items 9998 hk w n 0 l m xs ys r hkk hr (fun j z hz => by rw [Nat.zero_add]; exact px.get hz) (fun j z hz => by rw [Nat.zero_add]; exact py.get hz)
          · cases hk
        refine ⟨_, .sc (SRel.bool _), fun w => ?_⟩
        simp only [execOp]
        refine exec_v (α := Unit) _ _ w ?_
        rw [ex, ey]
        have hg := run_eqGuard_agg w op t x y xs.toArray ys.toArray hgt'
        rcases hop with rfl | rfl
        · simp only [Sem.run_bind, hg, Result.andThen_ok, run_eql_struct, key]
          rfl
        · simp only [Sem.run_bind, hg, Result.andThen_ok, run_neq_struct, key]
          rfl
      · cases h
    · cases h
  · cases h

theorem s_un {op : UnOp} {t : TypeId} {x : Operand} {x' : Opd} {v : AV} (hG : GRel P γ) (hE : ERel γ e a.tmps) (hx : cOpd P x = some x')
    (h : aun op (opd e x') = some v) : POk P γ a ⟨dst, .unOp op t x, ty, pos, after, guard⟩ v := by
  have rx := opd_rel hG hE hx
  unfold aun at h
  split at h
  · rename_i k n hk
    rw [hk] at rx; cases h
    refine ⟨_, .sc (.int _ _), fun w => ?_⟩
    simp only [execOp]
    refine exec_v (α := Unit) _ _ w ?_
    rw [rx.int_inv]; rfl
  · rename_i k n hk
    rw [hk] at rx; cases h
    refine ⟨_, .sc (.int _ _), fun w => ?_⟩
    simp only [execOp]
    refine exec_v (α := Unit) _ _ w ?_
    rw [rx.int_inv]; rfl
  · rename_i b hk
    rw [hk] at rx; cases h
    refine ⟨_, .sc (.bool _), fun w => ?_⟩
    simp only [execOp]
    refine exec_v (α := Unit) _ _ w ?_
    rw [rx.bool_inv]; rfl
  · cases h

theorem s_conv {src dt : TypeId} {k k0 : IntKind} {x : Operand} {x' : Opd} {v : AV} (hG : GRel P γ) (hE : ERel γ e a.tmps) (hx : cOpd P x = some x')
    (hs : P.underlying src = some (.int k0)) (hd : P.underlying dt = some (.int k)) (h : evP (.conv k x') e = some v) : POk P γ a ⟨dst, .convert src dt x, ty, pos, after, guard⟩ v := by
  have rx := opd_rel hG hE hx
  simp only [evP] at h
  split at h
  · rename_i k1 n hk
    rw [hk] at rx; cases h
    refine ⟨_, .sc (.int _ _), fun w => ?_⟩
    simp only [execOp]
    refine exec_v (α := Unit) _ _ w ?_
    rw [rx.int_inv]
    simp only [convert, Sem.run_bind, r_und hs, r_und hd, Result.andThen_ok]
    rfl
  · cases h

theorem s_convStr {src dt : TypeId} {x : Operand} {x' : Opd} {v : AV} (hG : GRel P γ) (hE : ERel γ e a.tmps) (hx : cOpd P x = some x')
    (hs : P.underlying src = some .string) (hd : P.underlying dt = some .string) (h : evP (.mvStr x') e = some v) : POk P γ a ⟨dst, .convert src dt x, ty, pos, after, guard⟩ v := by
  have rx := opd_rel hG hE hx
  simp only [evP] at h
  split at h
  · rename_i s hk
    rw [hk] at rx; cases h
    obtain ⟨b, eb, hb⟩ := rx.str_inv
    refine ⟨_, rx, fun w => ?_⟩
    simp only [execOp]
    refine exec_v (α := Unit) _ _ w ?_
    rw [eb]
    simp only [convert, Sem.run_bind, r_und hs, r_und hd, Result.andThen_ok]
    rfl
  · cases h

theorem s_extract {x : Operand} {x' : Opd} {i : Nat} {v : AV} (hG : GRel P γ) (hE : ERel γ e a.tmps) (hx : cOpd P x = some x')
    (h : evP (.extract x' i) e = some v) : POk P γ a ⟨dst, .extract x i, ty, pos, after, guard⟩ v := by
  have rx := opd_rel hG hE hx
  simp only [evP] at h
  split at h
  · rename_i l hk
    rw [hk] at rx
    obtain ⟨l', el, hl⟩ := rx.tuple_inv
    obtain ⟨r, hr, hv⟩ := hl.get h
    refine ⟨r, hv.toV, fun w => ?_⟩
    simp only [execOp]
    refine exec_v (α := Unit) _ _ w ?_
    rw [el]
    simp only [Instr.extract, List.getElem?_toArray, hr]
    rfl
  · cases h

theorem s_mkFunc {f : Nat} {l m : Array Operand} {l' m' : List Opd} {v : AV} (hG : GRel P γ) (hE : ERel γ e a.tmps) (hl : cOpds P l.toList = some l') (hm : cOpds P m.toList = some m')
    (h : evP (.mkFunc f l' m') e = some v) : POk P γ a ⟨dst, .makeFunc (.func f) l m, ty, pos, after, guard⟩ v := by
  have rl := opds_rel hG hE hl
  have rm := opds_rel hG hE hm
  simp only [evP] at h
  split at h
  · rename_i hs
    cases h
    have sc : ∀ (p : List AV) (p' : List Value), p.all scalar = true → Pw (VRel γ) p p' → Pw (SRel γ) p p' := fun p p' hp hh =>
      ⟨hh.1, fun i x r hx hr => (hh.2 i x r hx hr).scalar_inv (List.all_eq_true.1 hp x (List.mem_of_getElem? hx))⟩
    have sl := sc _ _ hs.1 rl
    have sm := sc _ _ hs.2 rm
    refine ⟨.func (.func f) (l.map a.eval) (m.map a.eval), ?_, fun w => ?_⟩
    · have := SRel.func (γ := γ) f sl.1 sm.1 sl.2 sm.2
      rw [show (l.toList.map a.eval).toArray = l.map a.eval from Array.ext' (by rw [Array.toList_map]), show (m.toList.map a.eval).toArray = m.map a.eval from Array.ext' (by rw [Array.toList_map])] at this
      exact .sc this
    · simp only [execOp, Instr.makeFunc, Sem.run_bind, Sem.run_pure, Result.andThen_ok]
  · cases h

theorem add_off (r : Addr) (n : Nat) (h : r.spot = none) : r.add n = ⟨r.block, r.off + n, none⟩ := by
  unfold Addr.add
  split
  · rename_i hn; subst hn; cases r; simp at h; subst h; rfl
  · cases r; rfl

theorem PRel.off {x : AAddr} {r : Addr} (h : PRel γ x r) (n : Nat) : PRel γ { x with off := x.off + n } (r.add n) := by
  obtain ⟨g, hg, hs, hr⟩ := h
  refine ⟨g, hg, hs, fun e => ?_⟩
  obtain ⟨h1, h2, h3⟩ := hr e
  rw [add_off _ _ h2]
  exact ⟨h1, rfl, by simp [h3, Nat.add_assoc]⟩

theorem s_faddr {t : TypeId} {x : Operand} {x' : Opd} {f : Nat} {fs : Array Field} {fd : Field} {n : Nat} {v : AV} (hG : GRel P γ) (hE : ERel γ e a.tmps) (hx : cOpd P x = some x')
    (hu : P.underlying t = some (.struct fs)) (hf : fs[f]? = some fd) (hn : szOf P fd.type = some n) (h0 : 0 < n)
    (h : evP (.faddr fd.offset x') e = some v) : POk P γ a ⟨dst, .fieldAddr t x f, ty, pos, after, guard⟩ v := by
  have rx := opd_rel hG hE hx
  simp only [evP] at h
  split at h
  · rename_i p hk
    rw [hk] at rx; cases h
    obtain ⟨r, er, hr⟩ := rx.ptr_inv
    refine ⟨_, .sc (.ptr (hr.off fd.offset)), fun w => ?_⟩
    simp only [execOp]
    refine exec_v (α := Unit) _ _ w ?_
    rw [er]
    simp only [Instr.fieldAt, Instr.sureAddr, Sem.run_bind, r_und hu, hf, Result.andThen_ok, Sem.run_pure, fieldPlace, r_size hn]
    rw [if_neg (by omega)]
    rfl
  · cases h

theorem s_field1 {t : TypeId} {x : Operand} {x' : Opd} {f : Nat} {fs : Array Field} {fd : Field} {v : AV} (hG : GRel P γ) (hE : ERel γ e a.tmps) (hx : cOpd P x = some x')
    (hu : P.underlying t = some (.struct fs)) (hf : fs[f]? = some fd) (ha : isAggT P fd.type = some false)
    (h : evP (.field1 fd.offset x') e = some v) : POk P γ a ⟨dst, .field t x f, ty, pos, after, guard⟩ v := by
  have rx := opd_rel hG hE hx
  simp only [evP] at h
  split at h
  · rename_i l hk
    rw [hk] at rx
    obtain ⟨l', el, hl⟩ := rx.agg_inv
    obtain ⟨r, hr, hv⟩ := hl.get h
    refine ⟨r, .sc hv, fun w => ?_⟩
    simp only [execOp]
    refine exec_v (α := Unit) _ _ w ?_
    rw [el]
    simp only [Instr.field, asAgg, part, Sem.run_bind, r_und hu, hf, Result.andThen_ok, Sem.run_pure, r_isAgg ha, Bool.false_eq_true, if_false, List.getElem?_toArray, hr]
  · cases h

theorem extract_list (l' : List Value) (o n : Nat) : (l'.toArray.extract o (o + n)) = ((l'.drop o).take n).toArray := by
  apply Array.ext'
  simp [List.extract_eq_take_drop]

theorem s_fieldN {t : TypeId} {x : Operand} {x' : Opd} {f n : Nat} {fs : Array Field} {fd : Field} {v : AV} (hG : GRel P γ) (hE : ERel γ e a.tmps) (hx : cOpd P x = some x')
    (hu : P.underlying t = some (.struct fs)) (hf : fs[f]? = some fd) (ha : isAggT P fd.type = some true) (hn : szOf P fd.type = some n)
    (h : evP (.fieldN fd.offset n x') e = some v) : POk P γ a ⟨dst, .field t x f, ty, pos, after, guard⟩ v := by
  have rx := opd_rel hG hE hx
  simp only [evP] at h
  split at h
  · rename_i l hk
    rw [hk] at rx
    split at h
    · rename_i hle
      cases h
      obtain ⟨l', el, hl⟩ := rx.agg_inv
      refine ⟨_, .agg (hl.pre.slice _ _ hle), fun w => ?_⟩
      simp only [execOp]
      refine exec_v (α := Unit) _ _ w ?_
      rw [el]
      simp only [Instr.field, asAgg, part, Sem.run_bind, r_und hu, hf, Result.andThen_ok, Sem.run_pure, r_isAgg ha, if_true, r_size hn, extract_list]
    · cases h
  · cases h

theorem s_iaddrA {t el : TypeId} {x i : Operand} {x' i' : Opd} {len n : Nat} {v : AV} (hG : GRel P γ) (hE : ERel γ e a.tmps) (hx : cOpd P x = some x') (hi : cOpd P i = some i')
    (hu : P.underlying t = some (.array len el)) (hn : szOf P el = some n)
    (h : evP (.iaddrA len n x' i') e = some v) : POk P γ a ⟨dst, .indexAddr t x i, ty, pos, after, guard⟩ v := by
  have rx := opd_rel hG hE hx
  have ri := opd_rel hG hE hi
  simp only [evP] at h
  split at h
  · rename_i p k j hp hj
    rw [hp] at rx; rw [hj] at ri
    split at h
    · rename_i hb
      cases h
      obtain ⟨r, er, hr⟩ := rx.ptr_inv
      refine ⟨_, .sc (.ptr (hr.off (j.toNat * n))), fun w => ?_⟩
      simp only [execOp]
      refine exec_v (α := Unit) _ _ w ?_
      rw [er, ri.int_inv]
      simp only [Instr.indexAt, asIntOf, Instr.sureAddr, Sem.run_bind, r_und hu, Result.andThen_ok, Sem.run_pure, hb, and_self, if_true, r_size hn]
    · cases h
  · cases h

theorem s_iaddrS {t el : TypeId} {x i : Operand} {x' i' : Opd} {n : Nat} {v : AV} (hG : GRel P γ) (hE : ERel γ e a.tmps) (hx : cOpd P x = some x') (hi : cOpd P i = some i')
    (hu : P.underlying t = some (.slice el)) (hn : szOf P el = some n)
    (h : evP (.iaddrS n x' i') e = some v) : POk P γ a ⟨dst, .indexAddr t x i, ty, pos, after, guard⟩ v := by
  have rx := opd_rel hG hE hx
  have ri := opd_rel hG hE hi
  simp only [evP] at h
  split at h
  · rename_i p m s k j hp hj
    rw [hp] at rx; rw [hj] at ri
    split at h
    · rename_i hb
      cases h
      obtain ⟨r, c, er, hl⟩ := rx.slice_inv
      have hr : PRel γ { p with off := p.off + j.toNat * n } (r.add (j.toNat * n)) := by
        obtain ⟨hc, g, hg, hs, hr⟩ := hl
        refine ⟨g, hg, hs, fun e => ?_⟩
        obtain ⟨h1, h2, h3⟩ := hr e
        have : 0 < c := by omega
        obtain ⟨h4, h5⟩ := h3 this
        rw [add_off _ _ h2]
        exact ⟨h1, rfl, by simp [h4, Nat.add_assoc]⟩
      refine ⟨_, .sc (.ptr hr), fun w => ?_⟩
      simp only [execOp]
      refine exec_v (α := Unit) _ _ w ?_
      rw [er, ri.int_inv]
      simp only [Instr.indexAt, asIntOf, Sem.run_bind, r_und hu, Result.andThen_ok, Sem.run_pure, hb, and_self, if_true, r_size hn]
    · cases h
  · cases h

theorem s_idxStr {t : TypeId} {x i : Operand} {x' i' : Opd} {v : AV} (hG : GRel P γ) (hE : ERel γ e a.tmps) (hx : cOpd P x = some x') (hi : cOpd P i = some i')
    (hu : P.underlying t = some .string) (h : evP (.idxStr x' i') e = some v) : POk P γ a ⟨dst, .index t x i, ty, pos, after, guard⟩ v := by
  have rx := opd_rel hG hE hx
  have ri := opd_rel hG hE hi
  simp only [evP] at h
  split at h
  · rename_i s k j hp hj
    rw [hp] at rx; rw [hj] at ri
    split at h
    · rename_i hb
      split at h
      · rename_i b hb2
        cases h
        obtain ⟨s', es, hs⟩ := rx.str_inv
        refine ⟨_, .sc (.int .u8 b.toNat), fun w => ?_⟩
        simp only [execOp]
        refine exec_v (α := Unit) _ _ w ?_
        rw [es, ri.int_inv]
        have : s'[j.toNat]? = some b := by
          rw [← hs] at hb2
          obtain ⟨hl, hb3⟩ := List.getElem?_eq_some_iff.1 hb2
          have hl' : j.toNat < s'.size := by rw [Array.length_toList] at hl; exact hl
          rw [getElem?_pos s' j.toNat hl']
          rw [Array.getElem_toList] at hb3
          exact congrArg some hb3
        simp only [Instr.index, asIntOf, Sem.run_bind, r_und hu, Result.andThen_ok, Sem.run_pure, hb, if_true, this]
      · cases h
    · cases h
  · cases h

theorem s_idxA {t el : TypeId} {x i : Operand} {x' i' : Opd} {len : Nat} {v : AV} (hG : GRel P γ) (hE : ERel γ e a.tmps) (hx : cOpd P x = some x') (hi : cOpd P i = some i')
    (hu : P.underlying t = some (.array len el)) (ha : isAggT P el = some false) (hn : szOf P el = some 1)
    (h : evP (.idxA len x' i') e = some v) : POk P γ a ⟨dst, .index t x i, ty, pos, after, guard⟩ v := by
  have rx := opd_rel hG hE hx
  have ri := opd_rel hG hE hi
  simp only [evP] at h
  split at h
  · rename_i l k j hp hj
    rw [hp] at rx; rw [hj] at ri
    split at h
    · rename_i hb
      obtain ⟨l', el', hl⟩ := rx.agg_inv
      obtain ⟨r, hr, hv⟩ := hl.get h
      refine ⟨r, .sc hv, fun w => ?_⟩
      simp only [execOp]
      refine exec_v (α := Unit) _ _ w ?_
      rw [el', ri.int_inv]
      simp only [Instr.index, asIntOf, part, Sem.run_bind, r_und hu, Result.andThen_ok, Sem.run_pure, hb, and_self, if_true, r_size hn, r_isAgg ha, Bool.false_eq_true, if_false, Nat.mul_one, List.getElem?_toArray, hr]
    · cases h
  · cases h

theorem s_idxAN {t el : TypeId} {x i : Operand} {x' i' : Opd} {len n : Nat} {v : AV} (hG : GRel P γ) (hE : ERel γ e a.tmps) (hx : cOpd P x = some x') (hi : cOpd P i = some i')
    (hu : P.underlying t = some (.array len el)) (ha : isAggT P el = some true) (hn : szOf P el = some n)
    (h : evP (.idxAN len n x' i') e = some v) : POk P γ a ⟨dst, .index t x i, ty, pos, after, guard⟩ v := by
  have rx := opd_rel hG hE hx
  have ri := opd_rel hG hE hi
  simp only [evP] at h
  split at h
  · rename_i l k j hp hj
    rw [hp] at rx; rw [hj] at ri
    split at h
    · rename_i hb
      obtain ⟨hb1, hb2, hb3⟩ := hb
      cases h
      obtain ⟨l', el', hl⟩ := rx.agg_inv
      refine ⟨_, .agg (hl.pre.slice _ _ hb3), fun w => ?_⟩
      simp only [execOp]
      refine exec_v (α := Unit) _ _ w ?_
      rw [el', ri.int_inv]
      simp only [Instr.index, asIntOf, part, Sem.run_bind, r_und hu, Result.andThen_ok, Sem.run_pure, hb1, hb2, and_self, if_true, r_size hn, r_isAgg ha, extract_list]
    · cases h
  · cases h

/-- A bound, as it is asked for. -/
def BRel (γ : Gam) (a : Act) (x : Option Operand) (most dflt k : Nat) : Prop :=
  match x with
  | none => k = dflt
  | some x => k ≤ most ∧ ∀ y, k ≤ y → ∀ (code : BoundsCode) (P : Program) (w : World), (Instr.sliceBound (a.eval x) y code).run P w = .ok k w

theorem bound_rel {x : Option Operand} {x' : Option Opd} {most dflt k : Nat} (hG : GRel P γ) (hE : ERel γ e a.tmps) (hx : cOpt P x = some x') (h : bound e most x' dflt = some k) :
    BRel γ a x most dflt k := by
  cases x with
  | none => simp only [cOpt, Option.some.injEq] at hx; subst hx; simp only [bound, Option.some.injEq] at h; exact h.symm
  | some x =>
    simp only [cOpt, Option.map_eq_some_iff] at hx
    obtain ⟨y, hy, rfl⟩ := hx
    have ry := opd_rel hG hE hy
    simp only [bound] at h
    split at h
    · rename_i k0 i hi
      rw [hi] at ry
      split at h
      · rename_i hb
        cases h
        refine ⟨by omega, fun y hy code P w => ?_⟩
        rw [ry.int_inv]
        simp only [Instr.sliceBound, asIntOf, Sem.run_bind, Sem.run_pure, Result.andThen_ok]
        rw [if_pos (by omega)]
        rfl
      · cases h
    · cases h

theorem s_slcStr {t : TypeId} {x : Operand} {lo hi : Option Operand} {x' : Opd} {lo' hi' : Option Opd} {v : AV} (hG : GRel P γ) (hE : ERel γ e a.tmps) (hx : cOpd P x = some x')
    (hl : cOpt P lo = some lo') (hh : cOpt P hi = some hi') (hu : P.underlying t = some .string)
    (h : evP (.slcStr x' lo' hi') e = some v) : POk P γ a ⟨dst, .slice t x lo hi none, ty, pos, after, guard⟩ v := by
  have rx := opd_rel hG hE hx
  simp only [evP] at h
  split at h
  · rename_i s hs
    rw [hs] at rx
    obtain ⟨b, eb, hb⟩ := rx.str_inv
    have hsz : b.size = s.length := by rw [← hb, Array.length_toList]; rfl
    split at h
    · rename_i m hm
      split at h
      · rename_i l hl2
        cases h
        have bm := bound_rel hG hE hh hm
        have bl := bound_rel hG hE hl hl2
        have hmle : m ≤ s.length := by
          cases hi with
          | none => simp only [BRel] at bm; omega
          | some _ => exact bm.1
        have hlle : l ≤ m := by
          cases lo with
          | none => simp only [BRel] at bl; omega
          | some _ => exact bl.1
        refine ⟨.string (b.extract l m), ?_, fun w => ?_⟩
        · have := SRel.str (γ := γ) (b.extract l m)
          rw [show (b.extract l m).data.toList = (s.take m).drop l from by
            rw [ByteArray.data_extract, Array.toList_extract, hb, List.extract_eq_take_drop, List.drop_take]] at this
          exact .sc this
        · simp only [execOp]
          refine exec_v (α := Unit) _ _ w ?_
          rw [eb]
          simp only [Instr.sliceAt, Instr.slice, Sem.run_bind, r_und hu, Result.andThen_ok, Option.map_none, Option.isSome_none, Bool.false_eq_true, if_false, Sem.run_pure, Instr.sliceBounds]
          rw [hsz]
          cases hi with
          | none =>
            simp only [BRel] at bm
            cases lo with
            | none => simp only [BRel] at bl; subst bl; subst bm; rfl
            | some lo => simp only [Option.map_some, Option.map_none, Sem.run_bind, Sem.run_pure, Result.andThen_ok, Option.isSome_none, Bool.false_eq_true, if_false]; subst bm; rw [bl.2 _ hlle]; rfl
          | some hi =>
            simp only [Option.map_some, Option.map_none, Sem.run_bind, Bool.false_eq_true, if_false, Sem.run_pure, Result.andThen_ok]
            rw [bm.2 _ hmle]
            cases lo with
            | none => simp only [BRel] at bl; subst bl; rfl
            | some lo => simp only [Option.map_some, Sem.run_bind, Sem.run_pure, Result.andThen_ok, Option.isSome_none, Bool.false_eq_true, if_false]; rw [bl.2 _ hlle]; rfl
      · cases h
    · cases h
  · cases h

/-- The bounds of a slice expression without a third one. -/
theorem run_bounds {lo hi : Option Operand} {most cap len l h : Nat} (sl : Bool) (w : World) (bh : BRel γ a hi most len h) (bl : BRel γ a lo h 0 l) (hm : most ≤ cap) (hlen : len ≤ cap) :
    (Instr.sliceBounds sl len cap (lo.map a.eval) (hi.map a.eval) none).run P w = .ok (l, h, cap) w := by
  have hlle : l ≤ h := by
    cases lo with
    | none => simp only [BRel] at bl; omega
    | some _ => exact bl.1
  cases hi with
  | none =>
    simp only [BRel] at bh
    subst bh
    cases lo with
    | none => simp only [BRel] at bl; subst bl; rfl
    | some lo =>
      simp only [Instr.sliceBounds, Option.map_some, Option.map_none, Sem.run_bind, Sem.run_pure, Result.andThen_ok, Option.isSome_none, Bool.false_eq_true, if_false]
      rw [bl.2 _ hlle]; rfl
  | some hi =>
    have hle : h ≤ cap := by have := bh.1; omega
    cases lo with
    | none =>
      simp only [BRel] at bl
      subst bl
      cases sl <;>
        (simp only [Instr.sliceBounds, Option.map_some, Option.map_none, Sem.run_bind, Sem.run_pure, Result.andThen_ok, Option.isSome_none, Bool.false_eq_true, if_false, if_true]
         rw [bh.2 _ hle]; rfl)
    | some lo =>
      cases sl <;>
        (simp only [Instr.sliceBounds, Option.map_some, Option.map_none, Sem.run_bind, Sem.run_pure, Result.andThen_ok, Option.isSome_none, Bool.false_eq_true, if_false, if_true]
         rw [bh.2 _ hle]
         simp only [Result.andThen_ok]
         rw [bl.2 _ hlle]; rfl)

theorem s_slcA {t el : TypeId} {x : Operand} {lo hi : Option Operand} {x' : Opd} {lo' hi' : Option Opd} {n s : Nat} {v : AV} (hG : GRel P γ) (hE : ERel γ e a.tmps) (hx : cOpd P x = some x')
    (hR : ∀ e id g, γ e id = some g → g.o + g.s ≤ g.r)
    (hl : cOpt P lo = some lo') (hh : cOpt P hi = some hi') (hu : P.underlying t = some (.array n el)) (hs : szOf P el = some s)
    (h : evP (.slcA n s x' lo' hi') e = some v) : POk P γ a ⟨dst, .slice t x lo hi none, ty, pos, after, guard⟩ v := by
  have rx := opd_rel hG hE hx
  simp only [evP] at h
  split at h
  · rename_i p hp
    rw [hp] at rx
    obtain ⟨r, er, hr⟩ := rx.ptr_inv
    split at h
    · rename_i m hm
      split at h
      · rename_i l hl2
        split at h
        · rename_i hfit
          cases h
          have bm := bound_rel hG hE hh hm
          have bl := bound_rel hG hE hl hl2
          have hmle : m ≤ n := by
            cases hi with
            | none => simp only [BRel] at bm; omega
            | some _ => exact bm.1
          have hlle : l ≤ m := by
            cases lo with
            | none => simp only [BRel] at bl; omega
            | some _ => exact bl.1
          refine ⟨.slice (some (if n = l then r else r.add (l * s))) (m - l) (n - l), .sc (.slice ⟨by omega, ?_⟩), fun w => ?_⟩
          · obtain ⟨g, hg, hgs, hgr⟩ := hr
            refine ⟨g, hg, hgs, fun ez => ?_⟩
            obtain ⟨h1, h2, h3⟩ := hgr ez
            have hgR := hR _ _ _ hg
            simp only at ez
            split
            · exact ⟨h1, h2, fun h => by omega⟩
            · rw [add_off _ _ h2]
              refine ⟨h1, rfl, fun h => ⟨by simp [h3, Nat.add_assoc], ?_⟩⟩
              have : l * s + (n - l) * s = n * s := by rw [← Nat.add_mul]; congr 1; omega
              simp only
              omega
          · simp only [execOp]
            refine exec_v (α := Unit) _ _ w ?_
            rw [er]
            simp only [Instr.sliceAt, Instr.sureAddr, Sem.run_bind, r_und hu, Result.andThen_ok, Option.map_none, Sem.run_pure, run_bounds false w bm bl (Nat.le_refl _) (Nat.le_refl _), r_size hs]
        · cases h
      · cases h
    · cases h
  · cases h

theorem exec_builtin {b : Builtin} {ts : Array TypeId} {xs : Array Operand} (s : Sem Value) (w : World) {r : Value} {w' : World}
    (hb : ∀ cs, builtin b ts ty cs (xs.map a.eval) = (do pure (Next.value (← s)))) (h : s.run P w = .ok r w') :
    (execOp a.eval ⟨dst, .call { callee := .builtin b, args := xs, argTypes := ts }, ty, pos, after, guard⟩).run P w = .ok (.value r) w' := by
  simp only [execOp, resolve, Sem.run_bind, Sem.run_pure, Result.andThen_ok, invoke, hb, h]

theorem s_lenV {t : TypeId} {x : Operand} {x' : Opd} {ts : Array TypeId} {xs : Array Operand} {sl : Bool} {v : AV} (hG : GRel P γ) (hE : ERel γ e a.tmps) (hx : cOpd P x = some x')
    (ht : ts[0]? = some t) (hxs : xs[0]? = some x) (hu : match sl with | true => ∃ el, P.underlying t = some (.slice el) | false => P.underlying t = some .string)
    (h : evP (.lenV sl x') e = some v) : POk P γ a ⟨dst, .call { callee := .builtin .len, args := xs, argTypes := ts }, ty, pos, after, guard⟩ v := by
  have rx := opd_rel hG hE hx
  have h0 : (xs.map a.eval)[0]? = some (a.eval x) := by simp [hxs]
  simp only [evP] at h
  split at h
  · rename_i p n el hp
    rw [hp] at rx; cases h
    obtain ⟨el2, hu⟩ := hu
    refine ⟨_, .sc (.int .i64 n), fun w => exec_builtin _ w (fun cs => rfl) ?_⟩
    have : ∃ p' c, a.eval x = .slice p' n c := by
      cases p with
      | none => obtain ⟨h1, h2⟩ := rx.nilslice_inv; subst h1; exact ⟨_, _, h2⟩
      | some p => obtain ⟨r, c, h1, _⟩ := rx.slice_inv; exact ⟨_, _, h1⟩
    obtain ⟨p', c, hv⟩ := this
    simp only [Builtin.len_, ht, h0, hv, Sem.run_bind, r_und hu, Result.andThen_ok]
    rfl
  · rename_i el hp
    rw [hp] at rx; cases h
    obtain ⟨el2, hu⟩ := hu
    refine ⟨_, .sc (.int .i64 0), fun w => exec_builtin _ w (fun cs => rfl) ?_⟩
    obtain ⟨p', hv⟩ := rx.room0_inv
    simp only [Builtin.len_, ht, h0, hv, Sem.run_bind, r_und hu, Result.andThen_ok]
    rfl
  · rename_i s hp
    rw [hp] at rx; cases h
    refine ⟨_, .sc (.int .i64 s.length), fun w => exec_builtin _ w (fun cs => rfl) ?_⟩
    obtain ⟨b, hv, hb⟩ := rx.str_inv
    simp only [Builtin.len_, ht, h0, hv, Sem.run_bind, r_und hu, Result.andThen_ok]
    rw [← hb, Array.length_toList]
    rfl
  · cases h

theorem s_lenArr {t : TypeId} {x : Operand} {n : Nat} {el : TypeId} {ts : Array TypeId} {xs : Array Operand} 
    (ht : ts[0]? = some t) (hxs : xs[0]? = some x) (hu : P.underlying t = some (.array n el)) :
    POk P γ a ⟨dst, .call { callee := .builtin .len, args := xs, argTypes := ts }, ty, pos, after, guard⟩ (.int .i64 n) := by
  have h0 : (xs.map a.eval)[0]? = some (a.eval x) := by simp [hxs]
  refine ⟨_, .sc (.int .i64 n), fun w => exec_builtin _ w (fun cs => rfl) ?_⟩
  simp only [Builtin.len_, ht, h0, Sem.run_bind, r_und hu, Result.andThen_ok]
  rfl

theorem s_lenPtr {t t2 : TypeId} {x : Operand} {n : Nat} {el : TypeId} {ts : Array TypeId} {xs : Array Operand} 
    (ht : ts[0]? = some t) (hxs : xs[0]? = some x) (hu : P.underlying t = some (.pointer t2)) (hu2 : P.underlying t2 = some (.array n el)) :
    POk P γ a ⟨dst, .call { callee := .builtin .len, args := xs, argTypes := ts }, ty, pos, after, guard⟩ (.int .i64 n) := by
  have h0 : (xs.map a.eval)[0]? = some (a.eval x) := by simp [hxs]
  refine ⟨_, .sc (.int .i64 n), fun w => exec_builtin _ w (fun cs => rfl) ?_⟩
  simp only [Builtin.len_, ht, h0, Sem.run_bind, r_und hu, r_und hu2, Result.andThen_ok]
  rfl

theorem amm_inv {mx : Bool} {p : Option AV} {q v : AV} (h : amm mx p q = some v) : ∃ k m n, p = some (.int k m) ∧ q = .int k n ∧ v = .int k (if mx then (if m < n then n else m) else if n < m then n else m) := by
  unfold amm at h
  split at h
  · rename_i k m k' n
    split at h
    · rename_i hk; cases h; subst hk; exact ⟨_, _, _, rfl, rfl, rfl⟩
    · cases h
  · cases h

theorem run_mm {mx : Bool} {k : IntKind} {m n : Int} (w : World) :
    (if mx then Builtin.max2 (.int k m) (.int k n) else Builtin.min2 (.int k m) (.int k n)).run P w = .ok (.int k (if mx then (if m < n then n else m) else if n < m then n else m)) w := by
  cases mx
  · simp only [Bool.false_eq_true, if_false, Builtin.min2]; rfl
  · simp only [if_true, Builtin.max2]
    first | rfl | (congr 2; split <;> split <;> first | rfl | omega)

theorem run_fold {mx : Bool} (w : World) (p q v : Value) (l : List Value) (h : (if mx then Builtin.max2 p q else Builtin.min2 p q).run P w = .ok v w) :
    ((q :: l).foldlM (if mx then Builtin.max2 else Builtin.min2) p).run P w = (l.foldlM (if mx then Builtin.max2 else Builtin.min2) v).run P w := by
  cases mx
  · simp only [Bool.false_eq_true, if_false] at h ⊢
    simp only [List.foldlM_cons, Sem.run_bind, h, Result.andThen_ok]
  · simp only [if_true] at h ⊢
    simp only [List.foldlM_cons, Sem.run_bind, h, Result.andThen_ok]

theorem exec_mm {mx : Bool} {ts : Array TypeId} {xs : Array Operand} (w : World) {p : Value} {l : List Value} {r : Value} (hl : xs.toList.map a.eval = p :: l)
    (h : (l.foldlM (if mx then Builtin.max2 else Builtin.min2) p).run P w = .ok r w) :
    (execOp a.eval ⟨dst, .call { callee := .builtin (if mx then .max else .min), args := xs, argTypes := ts }, ty, pos, after, guard⟩).run P w = .ok (.value r) w := by
  have hl' : (xs.map a.eval).toList = p :: l := by rw [Array.toList_map]; exact hl
  cases mx
  · simp only [Bool.false_eq_true, if_false] at h ⊢
    refine exec_builtin (Builtin.min_ ts ty (xs.map a.eval)) w (fun cs => rfl) ?_
    simp only [Builtin.min_, hl', h]
  · simp only [if_true] at h ⊢
    refine exec_builtin (Builtin.max_ ts ty (xs.map a.eval)) w (fun cs => rfl) ?_
    simp only [Builtin.max_, hl', h]

theorem s_mm {mx : Bool} {ts : Array TypeId} {xs : Array Operand} {l : List Opd} {p : POp} {v : AV} (hG : GRel P γ) (hE : ERel γ e a.tmps) (hl : cOpds P xs.toList = some l) (hc : cMM mx l = some (.p p))
    (h : evP p e = some v) : POk P γ a ⟨dst, .call { callee := .builtin (if mx then .max else .min), args := xs, argTypes := ts }, ty, pos, after, guard⟩ v := by
  have rl := opds_rel hG hE hl
  unfold cMM at hc
  split at hc
  · rename_i x y
    cases hc
    simp only [opds] at rl
    obtain ⟨x', l1, e1, rx, rl⟩ := rl.of_cons
    obtain ⟨y', l2, e2, ry, rl⟩ := rl.of_cons
    have e3 := rl.of_nil
    subst e3; subst e2
    simp only [evP] at h
    obtain ⟨k, m, n, h1, h2, h3⟩ := amm_inv h
    injection h1 with h1
    rw [h1] at rx; rw [h2] at ry
    rw [rx.int_inv, ry.int_inv] at e1
    subst h3
    refine ⟨_, .sc (.int _ _), fun w => exec_mm w e1 ?_⟩
    rw [run_fold w _ _ _ [] (run_mm w)]
    rfl
  · rename_i x y z
    cases hc
    simp only [opds] at rl
    obtain ⟨x', l1, e1, rx, rl⟩ := rl.of_cons
    obtain ⟨y', l2, e2, ry, rl⟩ := rl.of_cons
    obtain ⟨z', l3, e3, rz, rl⟩ := rl.of_cons
    have e4 := rl.of_nil
    subst e4; subst e3; subst e2
    simp only [evP] at h
    obtain ⟨k, m, n, h1, h2, h3⟩ := amm_inv h
    obtain ⟨k', m', n', g1, g2, g3⟩ := amm_inv h1
    injection g1 with g1
    injection g3 with g3 g4
    subst g3
    rw [g1] at rx; rw [g2] at ry; rw [h2] at rz
    rw [rx.int_inv, ry.int_inv, rz.int_inv] at e1
    subst h3
    refine ⟨_, .sc (.int _ _), fun w => exec_mm w e1 ?_⟩
    rw [run_fold w _ _ _ _ (run_mm w), ← g4, run_fold w _ _ _ [] (run_mm w)]
    rfl
  · rename_i x y z u
    cases hc
    simp only [opds] at rl
    obtain ⟨x', l1, e1, rx, rl⟩ := rl.of_cons
    obtain ⟨y', l2, e2, ry, rl⟩ := rl.of_cons
    obtain ⟨z', l3, e3, rz, rl⟩ := rl.of_cons
    obtain ⟨u', l4, e4, ru, rl⟩ := rl.of_cons
    have e5 := rl.of_nil
    subst e5; subst e4; subst e3; subst e2
    simp only [evP] at h
    obtain ⟨k, m, n, h1, h2, h3⟩ := amm_inv h
    obtain ⟨k', m', n', g1, g2, g3⟩ := amm_inv h1
    obtain ⟨k'', m'', n'', f1, f2, f3⟩ := amm_inv g1
    injection f1 with f1
    injection f3 with f3 f4
    injection g3 with g3 g4
    subst f3; subst g3
    rw [f1] at rx; rw [f2] at ry; rw [g2] at rz; rw [h2] at ru
    rw [rx.int_inv, ry.int_inv, rz.int_inv, ru.int_inv] at e1
    subst h3
    refine ⟨_, .sc (.int _ _), fun w => exec_mm w e1 ?_⟩
    rw [run_fold w _ _ _ _ (run_mm w), ← f4, run_fold w _ _ _ _ (run_mm w), ← g4, run_fold w _ _ _ [] (run_mm w)]
    rfl
  · cases hc

theorem s_arrPtr {t el : TypeId} {x : Operand} {x' : Opd} {n : Nat} {v : AV} (hG : GRel P γ) (hE : ERel γ e a.tmps) (hx : cOpd P x = some x')
    (hu : P.underlying t = some (.array n el)) (h : evP (.arrPtr n x') e = some v) : POk P γ a ⟨dst, .sliceToArrayPointer t x, ty, pos, after, guard⟩ v := by
  have rx := opd_rel hG hE hx
  simp only [evP] at h
  split at h
  · rename_i p m s hp
    rw [hp] at rx
    split at h
    · rename_i hb
      cases h
      obtain ⟨r, c, er, hl⟩ := rx.slice_inv
      refine ⟨.pointer (some r), .sc (.ptr ?_), fun w => ?_⟩
      · obtain ⟨hc, g, hg, hgs, hr⟩ := hl
        refine ⟨g, hg, hgs, fun ez => ?_⟩
        obtain ⟨h1, h2, h3⟩ := hr ez
        exact ⟨h1, h2, (h3 (by omega)).1⟩
      · simp only [execOp]
        refine exec_v (α := Unit) _ _ w ?_
        rw [er]
        simp only [Instr.arrayAt, Sem.run_bind, r_und hu, Result.andThen_ok]
        rw [if_neg (by omega)]
        rfl
    · cases h
  · cases h

theorem s_nilChk {x : Operand} {x' : Opd} {v : AV} (hG : GRel P γ) (hE : ERel γ e a.tmps) (hx : cOpd P x = some x')
    (h : evP (.nilChk x') e = some v) : POk P γ a ⟨dst, .nilCheck x, ty, pos, after, guard⟩ v := by
  have rx := opd_rel hG hE hx
  simp only [evP] at h
  split at h
  · rename_i p hp
    rw [hp] at rx
    cases h
    obtain ⟨r, er, hl⟩ := rx.ptr_inv
    refine ⟨_, rx, fun w => ?_⟩
    simp only [execOp]
    rw [er]
    rfl
  · rename_i f l m hp
    rw [hp] at rx
    cases h
    obtain ⟨l', m', er, _, _⟩ := rx.func_inv
    refine ⟨_, rx, fun w => ?_⟩
    simp only [execOp]
    rw [er]
    rfl
  · cases h

theorem s_slcS {t el : TypeId} {x : Operand} {lo hi mx : Option Operand} {x' : Opd} {lo' hi' mx' : Option Opd} {s : Nat} {v : AV} (hG : GRel P γ) (hE : ERel γ e a.tmps) (hx : cOpd P x = some x')
    (hl : cOpt P lo = some lo') (hh : cOpt P hi = some hi') (hm : cOpt P mx = some mx') (hu : P.underlying t = some (.slice el)) (hs : szOf P el = some s)
    (h : evP (.slcS s x' lo' hi' mx') e = some v) : POk P γ a ⟨dst, .slice t x lo hi mx, ty, pos, after, guard⟩ v := by
  have rx := opd_rel hG hE hx
  have zero : ∀ (d2 d3 : Nat) (p : Option Addr) (n c : Nat), bound e 0 lo' 0 = some 0 → bound e 0 hi' d2 = some 0 → bound e 0 mx' d3 = some 0 →
      (hi = none → n = 0) → (mx = none → c = 0) → (hi = none → mx = none) → n ≤ c → ∀ w, (Instr.sliceBounds true n c (lo.map a.eval) (hi.map a.eval) (mx.map a.eval)).run P w = .ok (0, 0, 0) w := by
    intro d2 d3 p n c b1 b2 b3 z1 z2 z3 z4 w
    have r1 := bound_rel hG hE hl b1
    have r2 := bound_rel hG hE hh b2
    have r3 := bound_rel hG hE hm b3
    cases mx with
    | none =>
      have := z2 rfl
      subst this
      cases hi with
      | none =>
        have := z1 rfl
        subst this
        cases lo with
        | none => rfl
        | some lo =>
          simp only [Instr.sliceBounds, Option.map_some, Option.map_none, Sem.run_bind, Sem.run_pure, Result.andThen_ok, Option.isSome_none, Bool.false_eq_true, if_false]
          rw [r1.2 _ (Nat.le_refl _)]; rfl
      | some hi =>
        cases lo with
        | none =>
          simp only [Instr.sliceBounds, Option.map_some, Option.map_none, Sem.run_bind, Sem.run_pure, Result.andThen_ok, Option.isSome_none, Bool.false_eq_true, if_false, if_true]
          rw [r2.2 _ (Nat.zero_le _)]; rfl
        | some lo =>
          simp only [Instr.sliceBounds, Option.map_some, Option.map_none, Sem.run_bind, Sem.run_pure, Result.andThen_ok, Option.isSome_none, Bool.false_eq_true, if_false, if_true]
          rw [r2.2 _ (Nat.zero_le _)]
          simp only [Result.andThen_ok]
          rw [r1.2 _ (Nat.le_refl _)]; rfl
    | some mx =>
      cases hi with
      | none => exact absurd (z3 rfl) (by simp)
      | some hi =>
        cases lo with
        | none =>
          simp only [Instr.sliceBounds, Option.map_some, Option.map_none, Sem.run_bind, Sem.run_pure, Result.andThen_ok, Option.isSome_none, Option.isSome_some, Bool.false_eq_true, if_false, if_true]
          rw [r3.2 _ (Nat.zero_le _)]
          simp only [Result.andThen_ok]
          rw [r2.2 _ (Nat.le_refl _)]; rfl
        | some lo =>
          simp only [Instr.sliceBounds, Option.map_some, Option.map_none, Sem.run_bind, Sem.run_pure, Result.andThen_ok, Option.isSome_none, Option.isSome_some, Bool.false_eq_true, if_false, if_true]
          rw [r3.2 _ (Nat.zero_le _)]
          simp only [Result.andThen_ok]
          rw [r2.2 _ (Nat.le_refl _)]
          simp only [Result.andThen_ok]
          rw [r1.2 _ (Nat.le_refl _)]; rfl
  simp only [evP] at h
  split at h
  · rename_i p n s' hp
    rw [hp] at rx
    obtain ⟨r, c, er, hlr⟩ := rx.slice_inv
    split at h
    · rename_i hse
      subst hse
      split at h
      · rename_i m3
        split at h
        · rename_i b1 b2 b3
          cases h
          refine ⟨.slice (some r) 0 0, .sc (.room0 _ _), fun w => ?_⟩
          simp only [execOp]
          refine exec_v (α := Unit) _ _ w ?_
          rw [er]
          simp only [Instr.sliceAt, Instr.slice, Sem.run_bind, r_und hu, Result.andThen_ok]
          have hmx : mx ≠ none := by intro hc; subst hc; simp [cOpt] at hm
          have hhi : hi ≠ none := by intro hc; subst hc; simp only [cOpt, Option.some.injEq] at hh; subst hh; simp [bound] at b2
          rw [zero 1 1 (some r) n c b1 b2 b3 (fun h => absurd h hhi) (fun h => absurd h hmx) (fun h => absurd h hhi) hlr.1 w]
          simp only [Result.andThen_ok, Sem.run_bind, r_size hs]
          rfl
        · cases h
      · split at h
        · rename_i m hmb
          split at h
          · rename_i l hlb
            cases h
            have hmx : mx = none := by cases mx with | none => rfl | some mx => simp [cOpt, Option.map_eq_some_iff] at hm
            subst hmx
            have bm := bound_rel hG hE hh hmb
            have bl := bound_rel hG hE hl hlb
            have hmle : m ≤ n := by
              cases hi with
              | none => simp only [BRel] at bm; omega
              | some _ => exact bm.1
            have hlle : l ≤ m := by
              cases lo with
              | none => simp only [BRel] at bl; omega
              | some _ => exact bl.1
            obtain ⟨hnc, g, hg, hgs, hgr⟩ := hlr
            refine ⟨.slice (some (if c = l then r else r.add (l * s'))) (m - l) (c - l), .sc (.slice ⟨by omega, g, hg, hgs, fun ez => ?_⟩), fun w => ?_⟩
            · obtain ⟨h1, h2, h3⟩ := hgr ez
              split
              · exact ⟨h1, h2, fun h => by omega⟩
              · rw [add_off _ _ h2]
                refine ⟨h1, rfl, fun h => ?_⟩
                obtain ⟨h4, h5⟩ := h3 (by omega)
                refine ⟨by simp [h4, Nat.add_assoc], ?_⟩
                have : l * s' + (c - l) * s' = c * s' := by rw [← Nat.add_mul]; congr 1; omega
                simp only
                omega
            · simp only [execOp]
              refine exec_v (α := Unit) _ _ w ?_
              rw [er]
              simp only [Instr.sliceAt, Instr.slice, Sem.run_bind, r_und hu, Result.andThen_ok, Option.map_none]
              rw [run_bounds true w bm bl hnc hnc]
              simp only [Result.andThen_ok, Sem.run_bind, r_size hs, Sem.run_pure]
              congr 2
              split <;> simp
          · cases h
        · cases h
    · cases h
  · rename_i n s' hp
    rw [hp] at rx
    obtain ⟨h1, h2⟩ := rx.nilslice_inv
    split at h
    · rename_i b1 b2 b3
      cases h
      refine ⟨.slice none 0 0, .sc (.slice0 _), fun w => ?_⟩
      simp only [execOp]
      refine exec_v (α := Unit) _ _ w ?_
      rw [h2]
      simp only [Instr.sliceAt, Instr.slice, Sem.run_bind, r_und hu, Result.andThen_ok]
      by_cases hz : hi = none ∧ mx ≠ none
      · exfalso
        obtain ⟨z1, z2⟩ := hz
        subst z1
        simp only [cOpt, Option.some.injEq] at hh
        subst hh
        cases mx with
        | none => exact z2 rfl
        | some m =>
          simp only [cOpt, Option.map_eq_some_iff] at hm
          obtain ⟨m', _, rfl⟩ := hm
          simp [bound] at b2
      · rw [zero _ 0 none 0 0 b1 b2 b3 (fun h => rfl) (fun h => rfl) (fun h => by
          cases mx with
          | none => rfl
          | some m => exact absurd ⟨h, by simp⟩ hz) (Nat.le_refl _) w]
        simp only [Result.andThen_ok, Sem.run_bind, r_size hs]
        rfl
    · cases h
  · rename_i s' hp
    rw [hp] at rx
    obtain ⟨p, h2⟩ := rx.room0_inv
    split at h
    · rename_i b1 b2 b3
      cases h
      refine ⟨.slice (some p) 0 0, .sc (.room0 _ _), fun w => ?_⟩
      simp only [execOp]
      refine exec_v (α := Unit) _ _ w ?_
      rw [h2]
      simp only [Instr.sliceAt, Instr.slice, Sem.run_bind, r_und hu, Result.andThen_ok]
      by_cases hz : hi = none ∧ mx ≠ none
      · exfalso
        obtain ⟨z1, z2⟩ := hz
        subst z1
        simp only [cOpt, Option.some.injEq] at hh
        subst hh
        cases mx with
        | none => exact z2 rfl
        | some m =>
          simp only [cOpt, Option.map_eq_some_iff] at hm
          obtain ⟨m', _, rfl⟩ := hm
          simp [bound] at b2
      · rw [zero _ 0 none 0 0 b1 b2 b3 (fun h => rfl) (fun h => rfl) (fun h => by
          cases mx with
          | none => rfl
          | some m => exact absurd ⟨h, by simp⟩ hz) (Nat.le_refl _) w]
        simp only [Result.andThen_ok, Sem.run_bind, r_size hs]
        rfl
    · cases h
  · cases h

theorem fold_set (off : Nat) : ∀ (vs : List Value) (k : Nat) (C : Array Value), off + k + vs.length ≤ C.size →
    ((vs.zipIdx k).foldl (fun cs (x : Value × Nat) => cs.setIfInBounds (off + x.2) x.1) C).toList = over C.toList (off + k) vs := by
  intro vs
  induction vs with
  | nil => intro k C h; simp [over]
  | cons v vs ih =>
    intro k C h
    simp only [List.zipIdx_cons, List.foldl_cons, List.length_cons] at h ⊢
    rw [ih (k + 1) (C.setIfInBounds (off + k) v) (by simp; omega)]
    rw [Array.toList_setIfInBounds]
    unfold over
    have hlt : off + k < C.toList.length := by simp; omega
    apply List.ext_getElem?
    intro i
    simp only [List.append_assoc, List.getElem?_append, List.length_take, List.length_set, List.getElem?_take, List.getElem?_set, List.getElem?_drop, List.length_append, List.length_cons]
    have e1 : min (off + (k + 1)) C.toList.length = off + k + 1 := by omega
    have e2 : min (off + k) C.toList.length = off + k := by omega
    rw [e1, e2]
    by_cases h1 : i < off + k
    · have a1 : i < off + k + 1 := by omega
      have a2 : i < off + (k + 1) := by omega
      have a3 : ¬ off + k = i := by omega
      simp only [h1, a1, a2, a3, if_true, if_false]
    · by_cases h2 : i = off + k
      · subst h2
        have a1 : off + k < off + k + 1 := by omega
        have a2 : off + k < off + (k + 1) := by omega
        have a7 : off + k < C.size := by simpa using hlt
        simp [a1, a2, a7]
      · have a1 : ¬ i < off + k + 1 := by omega
        simp only [h1, a1, if_false]
        have a4 : ∃ j, i - (off + k) = j + 1 := ⟨i - (off + k) - 1, by omega⟩
        obtain ⟨j, hj⟩ := a4
        have a5 : i - (off + k + 1) = j := by omega
        rw [hj, a5]
        simp only [List.getElem?_cons_succ, Nat.add_lt_add_iff_right]
        split
        · rfl
        · have a6 : ¬ off + k = off + (k + 1) + vs.length + (j - vs.length) := by omega
          rw [if_neg a6]
          congr 1
          omega
theorem fold_arr (off : Nat) (vs C : Array Value) (h : off + vs.size ≤ C.size) :
    (vs.zipIdx.foldl (fun cs (x : Value × Nat) => cs.setIfInBounds (off + x.2) x.1) C).toList = over C.toList off vs.toList := by
  have := fold_set off vs.toList 0 C (by simpa using h)
  rw [← Array.foldl_toList, Array.toList_zipIdx]
  simpa using this
theorem fill_rel {place : Nat → Option (Nat × Nat)} {parts : List (Nat × Operand)} {ps : List (Nat × Nat × Opd)} (hG : GRel P γ) (hE : ERel γ e a.tmps) (hc : cParts P place parts = some ps) :
    ∀ {cells : List AV} {cells' : List Value} {out : List AV}, Pw (SRel γ) cells cells' → fillA e cells ps = some out →
      ∃ out', Instr.fill place cells'.toArray (parts.map fun x => (x.1, a.eval x.2)) = some (List.toArray out') ∧ Pw (SRel γ) out out' := by
  induction parts generalizing ps with
  | nil => 
    simp only [cParts, Option.some.injEq] at hc
    subst hc
    intro cells cells' out hp h
    simp only [fillA, Option.some.injEq] at h
    subst h
    exact ⟨cells', rfl, hp⟩
  | cons x l ih =>
    obtain ⟨i, x⟩ := x
    simp only [cParts] at hc
    split at hc
    · rename_i off size y m h1 h2 h3
      cases hc
      intro cells cells' out hp h
      simp only [fillA] at h
      split at h
      · rename_i cs hcs
        split at h
        · rename_i hb
          have rc := (opd_rel hG hE h2).cells hcs
          have hlen : (a.eval x).cells.size = size := by rw [← Array.length_toList, ← rc.1]; exact hb.1
          have hp2 : Pw (SRel γ) (cells.take off ++ cs ++ cells.drop (off + size)) (over cells' off (a.eval x).cells.toList) := by
            have := hp.pre.over rc off (by rw [hb.1]; exact hb.2)
            rw [hb.1] at this
            refine ⟨?_, this.2⟩
            rw [over_length]
            · have := hp.1; simp; omega
            · rw [← rc.1, hb.1, ← hp.1]; exact hb.2
          obtain ⟨out', ho, hr⟩ := ih h3 hp2 h
          refine ⟨out', ?_, hr⟩
          simp only [List.map_cons, Instr.fill, h1]
          rw [if_neg]
          · rw [← ho]
            congr 1
            apply Array.ext'
            refine fold_arr off (a.eval x).cells cells'.toArray ?_
            rw [hlen]
            have := hp.1
            simp; omega
          · simp only [Bool.or_eq_true, decide_eq_true_eq, ne_eq, not_or, Decidable.not_not, Nat.not_lt]
            refine ⟨by simp [hlen], ?_⟩
            have := hp.1
            simp [hlen]; omega
        · cases h
      · cases h
    · cases hc

theorem zero_rel {t : TypeId} {z : List AV} (h : zeroOf P t = some z) : ∃ v i, P.info? t = some i ∧ i.zero = some v ∧ ∀ γ, Pw (SRel γ) z v.cells.toList := by
  unfold zeroOf at h
  simp only [Option.bind_eq_some_iff] at h
  obtain ⟨i, hi, v, hv, c, hc, hz⟩ := h
  exact ⟨v, i, hi, hv, fun γ => (cVal_rel hc).cells hz⟩

theorem r_zero {t : TypeId} {i : TypeInfo} {v : Value} (hi : P.info? t = some i) (hv : i.zero = some v) (w : World) : (zeroValue t).run P w = .ok v w := by
  simp only [zeroValue, Sem.run_bind, r_info hi, Result.andThen_ok, hv, Sem.run_pure]

theorem run_mapML (w : World) (fs : List Field) (h : fieldsOk P fs = true) :
    (fs.mapM fun f => (do pure (f.offset, ← sizeOf f.type) : Sem (Nat × Nat))).run P w = .ok (fs.map fun f => (f.offset, (szOf P f.type).getD 0)) w := by
  induction fs with
  | nil => rfl
  | cons f fs ih =>
    simp only [fieldsOk, List.all_cons, Bool.and_eq_true] at h
    obtain ⟨h1, h2⟩ := h
    cases hs : szOf P f.type with
    | none => rw [hs] at h1; cases h1
    | some s =>
      have ih' := ih h2
      rw [List.mapM_cons]
      simp only [Sem.run_bind, r_size hs, Result.andThen_ok, Sem.run_pure] at ih' ⊢
      rw [ih']
      simp [hs]

theorem run_mapM (w : World) (fs : Array Field) (h : fieldsOk P fs.toList = true) :
    (fs.mapM fun f => (do pure (f.offset, ← sizeOf f.type) : Sem (Nat × Nat))).run P w = .ok (fs.map fun f => (f.offset, (szOf P f.type).getD 0)) w := by
  rw [Array.mapM_eq_mapM_toList, map_eq_pure_bind, Sem.run_bind, run_mapML w fs.toList h]
  simp only [Result.andThen_ok, Sem.run_pure]
  congr 1
  apply Array.ext'
  simp

theorem s_buildArr {t el : TypeId} {n s : Nat} {z : List AV} {parts : Array (Nat × Operand)} {ps : List (Nat × Nat × Opd)} {v : AV} (hG : GRel P γ) (hE : ERel γ e a.tmps)
    (hz : zeroOf P t = some z) (hu : P.underlying t = some (.array n el)) (hs : szOf P el = some s) (hc : cParts P (fun i => some (i * s, s)) parts.toList = some ps)
    (h : evP (.build z ps) e = some v) : POk P γ a ⟨dst, .build t parts, ty, pos, after, guard⟩ v := by
  simp only [evP] at h
  split at h
  · rename_i cs hcs
    cases h
    obtain ⟨zv, i, hi, hv, hzr⟩ := zero_rel hz
    obtain ⟨out', ho, hr⟩ := fill_rel hG hE hc (hzr γ) hcs
    refine ⟨_, .agg hr, fun w => ?_⟩
    simp only [execOp]
    refine exec_v (α := Unit) _ _ w ?_
    simp only [Instr.build, Sem.run_bind, r_zero hi hv, Result.andThen_ok, r_und hu, r_size hs, Array.toList_map]
    rw [show zv.cells = zv.cells.toList.toArray from by simp, ho]
    rfl
  · cases h

theorem s_buildStruct {t : TypeId} {fs : Array Field} {z : List AV} {parts : Array (Nat × Operand)} {ps : List (Nat × Nat × Opd)} {v : AV} (hG : GRel P γ) (hE : ERel γ e a.tmps)
    (hz : zeroOf P t = some z) (hu : P.underlying t = some (.struct fs)) (hf : fieldsOk P fs.toList = true) (hc : cParts P (fieldPl P fs) parts.toList = some ps)
    (h : evP (.build z ps) e = some v) : POk P γ a ⟨dst, .build t parts, ty, pos, after, guard⟩ v := by
  simp only [evP] at h
  split at h
  · rename_i cs hcs
    cases h
    obtain ⟨zv, i, hi, hv, hzr⟩ := zero_rel hz
    obtain ⟨out', ho, hr⟩ := fill_rel hG hE hc (hzr γ) hcs
    refine ⟨_, .agg hr, fun w => ?_⟩
    simp only [execOp]
    refine exec_v (α := Unit) _ _ w ?_
    simp only [Instr.build, Sem.run_bind, r_zero hi hv, Result.andThen_ok, r_und hu, run_mapM w fs hf, Array.toList_map]
    have : (fun i => (fs.map fun f => (f.offset, (szOf P f.type).getD 0))[i]?) = fieldPl P fs := by
      funext i
      unfold fieldPl
      rw [Array.getElem?_map]
      cases hfi : fs[i]? with
      | none => rfl
      | some f =>
        have hm : f ∈ fs.toList := by
          rw [← Array.getElem?_toList] at hfi
          exact List.mem_of_getElem? hfi
        have := List.all_eq_true.1 hf f hm
        cases hsz : szOf P f.type with
        | none => rw [hsz] at this; cases this
        | some s => simp [hsz]
    rw [this, show zv.cells = zv.cells.toList.toArray from by simp, ho]
    rfl
  · cases h

theorem s_mv {x : Operand} {x' : Opd} {v : AV} (hG : GRel P γ) (hE : ERel γ e a.tmps) (hx : cOpd P x = some x') (h : evP (.mv x') e = some v) :
    POk P γ a ⟨dst, .move x, ty, pos, after, guard⟩ v ∧ POk P γ a ⟨dst, .assign x, ty, pos, after, guard⟩ v := by
  simp only [evP, Option.some.injEq] at h
  subst h
  exact ⟨⟨_, opd_rel hG hE hx, fun w => rfl⟩, ⟨_, opd_rel hG hE hx, fun w => rfl⟩⟩

theorem cOpds_cons {l : List Operand} {x : Opd} {m : List Opd} (h : cOpds P l = some (x :: m)) : ∃ y k, l = y :: k ∧ cOpd P y = some x ∧ cOpds P k = some m := by
  cases l with
  | nil => simp [cOpds] at h
  | cons y k =>
    simp only [cOpds] at h
    split at h
    · rename_i a b ha hb; cases h; exact ⟨y, k, rfl, ha, hb⟩
    · cases h

theorem evP_call {b : Builtin} {ts : Array TypeId} {xs : Array Operand} {args : List Opd} {p : POp} {v : AV} (hG : GRel P γ) (hE : ERel γ e a.tmps) (hargs : cOpds P xs.toList = some args)
    (hc : cBuiltin P base b ts.toList args = some (.p p)) (h : evP p e = some v) : POk P γ a ⟨dst, .call { callee := .builtin b, args := xs, argTypes := ts }, ty, pos, after, guard⟩ v := by
  unfold cBuiltin at hc
  split at hc
  · rename_i t tr x xr ht
    obtain ⟨y, k, hy1, hy2, hy3⟩ := cOpds_cons hargs
    have h0 : xs[0]? = some y := by rw [← Array.getElem?_toList, hy1]; rfl
    have ht0 : ts[0]? = some t := by rw [← Array.getElem?_toList, ht]; rfl
    split at hc
    · rename_i hu; cases hc; exact s_lenV (sl := false) hG hE hy2 ht0 h0 hu h
    · rename_i el hu; cases hc; exact s_lenV (sl := true) hG hE hy2 ht0 h0 ⟨_, hu⟩ h
    · rename_i n el hu; cases hc; simp only [evP, Option.some.injEq] at h; subst h; exact s_lenArr ht0 h0 hu
    · rename_i t2 hu
      split at hc
      · rename_i n el hu2; cases hc; simp only [evP, Option.some.injEq] at h; subst h; exact s_lenPtr ht0 h0 hu hu2
      · cases hc
    · cases hc
    · cases hc
  · exact s_mm (mx := false) hG hE hargs hc h
  · exact s_mm (mx := true) hG hE hargs hc h
  · split at hc
    · split at hc
      · split at hc <;> cases hc
      · cases hc
    · split at hc
      · split at hc <;> cases hc
      · cases hc
    · cases hc
  · split at hc
    · split at hc
      · split at hc <;> cases hc
      · cases hc
    · cases hc
  · cases hc

theorem evP_sound {o : Oper} {p : POp} {v : AV} (hG : GRel P γ) (hE : ERel γ e a.tmps) (hR : ∀ e id g, γ e id = some g → g.o + g.s ≤ g.r) (hc : cOp P q base o = some (.p p)) (h : evP p e = some v) : POk P γ a o v := by
  obtain ⟨dst, op, ty, pos, after, guard⟩ := o
  unfold cOp at hc
  split at hc
  · -- move
    rename_i x ho; simp only at ho; subst ho
    simp only [Option.map_eq_some_iff] at hc
    obtain ⟨x', hx, hp⟩ := hc; cases hp
    exact (s_mv hG hE hx h).1
  · rename_i x ho; simp only at ho; subst ho
    simp only [Option.map_eq_some_iff] at hc
    obtain ⟨x', hx, hp⟩ := hc; cases hp
    exact (s_mv hG hE hx h).2
  · -- pick
    rename_i c x y ho; simp only at ho; subst ho
    split at hc
    · rename_i c' x' y' h1 h2 h3; cases hc; exact s_pick hG hE h1 h2 h3 h
    · cases hc
  · -- binOp
    rename_i op t x y yt ho; simp only at ho; subst ho
    split at hc
    · rename_i x' y' hx hy
      unfold cBin at hc
      split at hc
      · split at hc
        · cases hc; exact s_bin hG hE hx hy h
        · cases hc; exact s_bin hG hE hx hy h
        · rename_i hu; cases hc; exact s_eqb (.inl rfl) hG hE hx hy hu h
        · rename_i hu; cases hc; exact s_eqn (k := .ptr) (.inl rfl) hG hE hx hy ⟨_, hu⟩ h
        · rename_i hu; cases hc; exact s_eqn (k := .slice) (.inl rfl) hG hE hx hy ⟨_, hu⟩ h
        · rename_i hu; cases hc; exact s_eqn (k := .map) (.inl rfl) hG hE hx hy ⟨_, _, hu⟩ h
        · rename_i hu; cases hc; exact s_eqn (k := .func) (.inl rfl) hG hE hx hy ⟨_, _, _, hu⟩ h
        · simp only [Option.map_eq_some_iff] at hc; obtain ⟨ks, hks, hc⟩ := hc; cases hc; exact s_eqa (.inl rfl) hG hE hx hy hks h
        · simp only [Option.map_eq_some_iff] at hc; obtain ⟨ks, hks, hc⟩ := hc; cases hc; exact s_eqa (.inl rfl) hG hE hx hy hks h
        · cases hc
      · split at hc
        · cases hc; exact s_bin hG hE hx hy h
        · cases hc; exact s_bin hG hE hx hy h
        · rename_i hu; cases hc; exact s_eqb (.inr rfl) hG hE hx hy hu h
        · rename_i hu; cases hc; exact s_eqn (k := .ptr) (.inr rfl) hG hE hx hy ⟨_, hu⟩ h
        · rename_i hu; cases hc; exact s_eqn (k := .slice) (.inr rfl) hG hE hx hy ⟨_, hu⟩ h
        · rename_i hu; cases hc; exact s_eqn (k := .map) (.inr rfl) hG hE hx hy ⟨_, _, hu⟩ h
        · rename_i hu; cases hc; exact s_eqn (k := .func) (.inr rfl) hG hE hx hy ⟨_, _, _, hu⟩ h
        · simp only [Option.map_eq_some_iff] at hc; obtain ⟨ks, hks, hc⟩ := hc; cases hc; exact s_eqa (.inr rfl) hG hE hx hy hks h
        · simp only [Option.map_eq_some_iff] at hc; obtain ⟨ks, hks, hc⟩ := hc; cases hc; exact s_eqa (.inr rfl) hG hE hx hy hks h
        · cases hc
      · cases hc; exact s_bin hG hE hx hy h
    · cases hc
  · -- unOp
    rename_i op t x ho; simp only at ho; subst ho
    simp only [Option.map_eq_some_iff] at hc
    obtain ⟨x', hx, hp⟩ := hc; cases hp
    exact s_un hG hE hx h
  · -- convert
    rename_i src dt x ho; simp only at ho; subst ho
    simp only [Option.bind_eq_some_iff] at hc
    obtain ⟨x', hx, hc⟩ := hc
    split at hc
    · rename_i k0 k hs hd; cases hc; exact s_conv hG hE hx hs hd h
    · rename_i hs hd; cases hc; exact s_convStr hG hE hx hs hd h
    · split at hc <;> cases hc
    · split at hc <;> cases hc
    · cases hc
  · -- alloc
    simp only [Option.map_eq_some_iff] at hc; obtain ⟨_, _, hp⟩ := hc; cases hp
  · simp only [Option.map_eq_some_iff] at hc; obtain ⟨_, _, hp⟩ := hc; cases hp
  · -- build
    rename_i t parts ho; simp only at ho; subst ho
    split at hc
    · rename_i z fs hz hu
      split at hc
      · rename_i hf
        simp only [Option.map_eq_some_iff] at hc
        obtain ⟨ps, hps, hp⟩ := hc; cases hp
        exact s_buildStruct hG hE hz hu hf hps h
      · cases hc
    · rename_i z n el hz hu
      simp only [Option.bind_eq_some_iff, Option.map_eq_some_iff] at hc
      obtain ⟨s, hs, ps, hps, hp⟩ := hc; cases hp
      exact s_buildArr hG hE hz hu hs hps h
    · cases hc
  · -- buildSlice
    split at hc
    · split at hc
      · split at hc
        · simp only [Option.map_eq_some_iff] at hc; obtain ⟨_, _, hp⟩ := hc; cases hp
        · cases hc
      · cases hc
    · cases hc
  · -- load
    split at hc <;> cases hc
  · -- store
    split at hc
    · cases hc
    · split at hc <;> cases hc
    · cases hc
  · -- fieldAddr
    rename_i s x f ho; simp only at ho; subst ho
    split at hc
    · rename_i fs x' hu hx
      split at hc
      · rename_i fd hf
        split at hc
        · rename_i n hn
          split at hc
          · rename_i h0; cases hc; exact s_faddr hG hE hx hu hf hn h0 h
          · cases hc
        · cases hc
      · cases hc
    · cases hc
  · -- field
    rename_i t x f ho; simp only at ho; subst ho
    split at hc
    · rename_i fs x' hu hx
      split at hc
      · rename_i fd hf
        split at hc
        · rename_i n ha hn; cases hc; exact s_fieldN hG hE hx hu hf ha hn h
        · rename_i n ha hn; cases hc; exact s_field1 hG hE hx hu hf ha h
        · cases hc
      · cases hc
    · cases hc
  · -- indexAddr
    rename_i t x i ho; simp only at ho; subst ho
    split at hc
    · rename_i len el x' i' hu hx hi
      simp only [Option.map_eq_some_iff] at hc
      obtain ⟨s, hs, hp⟩ := hc; cases hp
      exact s_iaddrA hG hE hx hi hu hs h
    · rename_i el x' i' hu hx hi
      simp only [Option.map_eq_some_iff] at hc
      obtain ⟨s, hs, hp⟩ := hc; cases hp
      exact s_iaddrS hG hE hx hi hu hs h
    · cases hc
  · -- index
    rename_i t x i ho; simp only at ho; subst ho
    split at hc
    · rename_i x' i' hu hx hi; cases hc; exact s_idxStr hG hE hx hi hu h
    · rename_i len el x' i' hu hx hi
      split at hc
      · rename_i n ha hn; cases hc; exact s_idxAN hG hE hx hi hu ha hn h
      · rename_i n ha hn
        split at hc
        · rename_i h1; subst h1; cases hc; exact s_idxA hG hE hx hi hu ha hn h
        · cases hc
      · cases hc
    · cases hc
  · -- slice
    rename_i t x lo hi mx ho; simp only at ho; subst ho
    split at hc
    · rename_i x' lo' hi' hu hx hl hh hm
      cases hc
      have : mx = none := by cases mx with | none => rfl | some m => simp [cOpt, Option.map_eq_some_iff] at hm
      subst this
      exact s_slcStr hG hE hx hl hh hu h
    · rename_i n el x' lo' hi' hu hx hl hh hm
      have : mx = none := by cases mx with | none => rfl | some m => simp [cOpt, Option.map_eq_some_iff] at hm
      subst this
      simp only [Option.bind_eq_some_iff] at hc
      obtain ⟨s, hs, hc⟩ := hc
      split at hc
      · cases hc; exact s_slcA hG hE hx hR hl hh hu hs h
      · cases hc
    · rename_i el x' lo' hi' mx' hu hx hl hh hm
      simp only [Option.bind_eq_some_iff] at hc
      obtain ⟨s, hs, hc⟩ := hc
      split at hc
      · cases hc; exact s_slcS hG hE hx hl hh hm hu hs h
      · cases hc
    · cases hc
  · -- extract
    rename_i x i ho; simp only at ho; subst ho
    simp only [Option.map_eq_some_iff] at hc
    obtain ⟨x', hx, hp⟩ := hc; cases hp
    exact s_extract hG hE hx h
  · -- makeFunc
    rename_i f l m ho; simp only at ho; subst ho
    split at hc
    · rename_i l' m' h1 h2; cases hc; exact s_mkFunc hG hE h1 h2 h
    · cases hc
  · -- makeSlice
    split at hc
    · split at hc <;> cases hc
    · cases hc
  · split at hc <;> cases hc
  · -- lookup
    split at hc
    · split at hc <;> cases hc
    · cases hc
  · split at hc
    · simp only [Option.map_eq_some_iff] at hc; obtain ⟨_, _, hp⟩ := hc; cases hp
    · cases hc
  · -- sliceToArrayPointer
    rename_i t x ho; simp only at ho; subst ho
    split at hc
    · rename_i n el hu
      simp only [Option.map_eq_some_iff] at hc
      obtain ⟨x', hx, hp⟩ := hc; cases hp
      exact s_arrPtr hG hE hx hu h
    · cases hc
  · -- nilCheck
    rename_i x ho; simp only at ho; subst ho
    simp only [Option.map_eq_some_iff] at hc
    obtain ⟨x', hx, hp⟩ := hc; cases hp
    exact s_nilChk hG hE hx h
  · -- call
    rename_i c ho; simp only at ho; subst ho
    obtain ⟨callee, xs, ts⟩ := c
    split at hc
    · rename_i args hargs
      split at hc
      · rename_i b hb; simp only at hb; subst hb; exact evP_call hG hE hargs hc h
      · cases hc
      · simp only [Option.map_eq_some_iff] at hc; obtain ⟨_, _, hp⟩ := hc; cases hp
      · cases hc
    · cases hc
  · cases hc

end

end Go.Det

/-
  DET, part J: what an operation looks at; operations that commute; regions.
-/
import Derived.Test.YtkgbceeonmdlgaaDetI
set_option linter.unusedSimpArgs false
set_option linter.unusedVariables false
namespace Go.Det

def optL : Option Opd → List Opd
  | none => []
  | some x => [x]

def POp.opds : POp → List Opd
  | .mv x | .mvStr x | .un _ x | .conv _ x | .faddr _ x | .field1 _ x | .fieldN _ _ x | .extract x _ | .lenV _ x | .arrPtr _ x | .nilChk x => [x]
  | .pick c a b => [c, a, b]
  | .bin _ x y | .eqb _ x y | .eqn _ _ x y | .eqa _ x y | .iaddrA _ _ x y | .iaddrS _ x y | .idxStr x y | .idxA _ x y | .idxAN _ _ x y | .minmax _ x y => [x, y]
  | .build _ ps => ps.map (·.2.2)
  | .slcStr x lo hi | .slcA _ _ x lo hi => x :: (optL lo ++ optL hi)
  | .slcS _ x lo hi mx => x :: (optL lo ++ (optL hi ++ optL mx))
  | .mkFunc _ f c => f ++ c
  | .konst _ => []
  | .minmax3 _ x y z => [x, y, z]
  | .minmax4 _ x y z u => [x, y, z, u]

def AOp.opds : AOp → List Opd
  | .toBytes x | .box x => [x]
  | .alloc _ | .mkMap => []
  | .buildS _ _ _ ps => ps.map (·.2.2)
  | .mkSlice _ _ _ l c => [l, c]

def ROp.opds : ROp → List Opd
  | .load1 x | .loadN _ x | .toStr x | .lenM x => [x]
  | .lookup _ _ x k _ => [x, k]

def WOp.opds : WOp → List Opd
  | .store1 x v | .storeN _ x v | .append _ _ _ x v | .copy _ x v => [x, v]
  | .mapSet _ m k v => [m, k, v]

def SOp.opds : SOp → List Opd
  | .p o => o.opds
  | .a _ o => o.opds
  | .r o => o.opds
  | .w o => o.opds
  | .call _ _ _ f args => f :: args

section
variable {e e' : Env}

theorem bound_congr {m d : Nat} {o : Option Opd} (h : ∀ x ∈ optL o, opd e x = opd e' x) : bound e m o d = bound e' m o d := by
  cases o with
  | none => rfl
  | some x => simp only [bound, h x (by simp [optL])]

theorem fillA_congr : ∀ (ps : List (Nat × Nat × Opd)) (cells : List AV), (∀ x ∈ ps.map (·.2.2), opd e x = opd e' x) → fillA e cells ps = fillA e' cells ps
  | [], _, _ => rfl
  | (o, s, x) :: ps, cells, h => by
    have h1 := h x (by simp)
    simp only [fillA, h1]
    split
    · split
      · exact fillA_congr ps _ fun y hy => h y (by simp only [List.map_cons, List.mem_cons]; exact .inr hy)
      · rfl
    · rfl

theorem opds_congr : ∀ (l : List Opd), (∀ x ∈ l, opd e x = opd e' x) → opds e l = opds e' l
  | [], _ => rfl
  | x :: l, h => by simp only [opds, h x (by simp), opds_congr l fun y hy => h y (by simp [hy])]

theorem evP_congr {p : POp} (h : ∀ x ∈ p.opds, opd e x = opd e' x) : evP p e = evP p e' := by
  cases p <;> simp only [POp.opds] at h
  case build z ps => simp only [evP, fillA_congr ps z h]
  case mkFunc f l m =>
    have h1 := opds_congr l fun x hx => h x (by simp [hx])
    have h2 := opds_congr m fun x hx => h x (by simp [hx])
    simp only [evP, h1, h2]
  case slcStr x lo hi =>
    have h0 := h x (by simp)
    have h1 : ∀ m d, bound e m lo d = bound e' m lo d := fun m d => bound_congr fun x hx => h x (by simp [hx])
    have h2 : ∀ m d, bound e m hi d = bound e' m hi d := fun m d => bound_congr fun x hx => h x (by simp [hx])
    simp only [evP, h0, h1, h2]
  case slcA n s x lo hi =>
    have h0 := h x (by simp)
    have h1 : ∀ m d, bound e m lo d = bound e' m lo d := fun m d => bound_congr fun x hx => h x (by simp [hx])
    have h2 : ∀ m d, bound e m hi d = bound e' m hi d := fun m d => bound_congr fun x hx => h x (by simp [hx])
    simp only [evP, h0, h1, h2]
  case slcS s x lo hi mx =>
    have h0 := h x (by simp)
    have h1 : ∀ m d, bound e m lo d = bound e' m lo d := fun m d => bound_congr fun x hx => h x (by simp [hx])
    have h2 : ∀ m d, bound e m hi d = bound e' m hi d := fun m d => bound_congr fun x hx => h x (by simp [hx])
    have h3 : ∀ m d, bound e m mx d = bound e' m mx d := fun m d => bound_congr fun x hx => h x (by simp [hx])
    simp only [evP, h0, h1, h2, h3]
  all_goals first
    | rfl
    | (simp only [List.mem_cons, List.not_mem_nil, or_false, forall_eq_or_imp, forall_eq] at h; simp only [evP, h])

theorem evA_congr {o : AOp} (h : ∀ x ∈ o.opds, opd e x = opd e' x) : evA o e = evA o e' := by
  cases o <;> simp only [AOp.opds] at h
  case buildS s n z ps => simp only [evA, fillA_congr ps _ h]
  all_goals first
    | rfl
    | (simp only [List.mem_cons, List.not_mem_nil, or_false, forall_eq_or_imp, forall_eq] at h; simp only [evA, h])

theorem evR_congr {o : ROp} {M : Mem} (h : ∀ x ∈ o.opds, opd e x = opd e' x) : evR o e M = evR o e' M := by
  cases o <;> simp only [ROp.opds] at h
  all_goals first
    | rfl
    | (simp only [List.mem_cons, List.not_mem_nil, or_false, forall_eq_or_imp, forall_eq] at h; simp only [evR, h])

theorem evW_congr {o : WOp} {M : Mem} (h : ∀ x ∈ o.opds, opd e x = opd e' x) : evW o e M = evW o e' M := by
  cases o <;> simp only [WOp.opds] at h
  all_goals first
    | rfl
    | (simp only [List.mem_cons, List.not_mem_nil, or_false, forall_eq_or_imp, forall_eq] at h; simp only [evW, h])

theorem evOp_congr {C : Det.Calls} {o : SOp} {M : Mem} (h : ∀ x ∈ o.opds, opd e x = opd e' x) : evOp C o e M = evOp C o e' M := by
  cases o with
  | p o => simp only [evOp, evP_congr h]
  | a id o => simp only [evOp, evA_congr h]
  | r o => simp only [evOp, evR_congr h]
  | w o => simp only [evOp, evW_congr h]
  | call id n q f args =>
    have h1 := h f (by simp [SOp.opds])
    have h2 := opds_congr args fun x hx => h x (by simp [SOp.opds, hx])
    simp only [evOp, h1, h2]
end

def Opd.tmp? : Opd → Option Nat
  | .t n => some n
  | _ => none

def SOper.looks (o : SOper) : List Nat := o.op.opds.filterMap Opd.tmp? ++ (match o.guard with | some (t, _) => [t] | none => [])

theorem agree_opds {o : SOper} {e e' : Env} (h : ∀ t ∈ o.looks, e.get t = e'.get t) : (∀ x ∈ o.op.opds, opd e x = opd e' x) ∧ wants e o.guard = wants e' o.guard := by
  constructor
  · intro x hx
    cases x with
    | t n => exact h n (List.mem_append_left _ (List.mem_filterMap.2 ⟨.t n, hx, rfl⟩))
    | c v => rfl
    | g n s => rfl
    | f n => rfl
  · cases hg : o.guard with
    | none => rfl
    | some p =>
      obtain ⟨t, b⟩ := p
      simp only [wants, h t (by simp [SOper.looks, hg])]

/-! ### values first -/

def evV (C : Det.Calls) (o : SOper) (e : Env) (M : Mem) : Option (AV × Mem) :=
  match wants e o.guard with
  | some true =>
    match o.hide with
    | [] => evOp C o.op e M
    | x :: h => match M with
      | [] => none
      | s :: M0 => match evOp C o.op e (without (x :: h) s :: M0) with
        | some (v, s' :: M0') => some (v, join (x :: h) s s' :: M0')
        | _ => none
  | some false => some (.undef, M)
  | none => none

theorem evOper_eq {C : Det.Calls} {o : SOper} {e : Env} {M : Mem} : evOper C o e M = (evV C o e M).map fun p => (setDst e o.dst p.1, p.2) := by
  unfold evOper evV
  cases wants e o.guard with
  | none => rfl
  | some b =>
    cases b with
    | false => rfl
    | true =>
      simp only
      cases o.hide with
      | nil => simp only; cases evOp C o.op e M <;> rfl
      | cons x h =>
        cases M with
        | nil => rfl
        | cons s M0 =>
          simp only
          cases evOp C o.op e (without (x :: h) s :: M0) with
          | none => rfl
          | some p => obtain ⟨v, M'⟩ := p; cases M' <;> rfl

theorem evOper_some {C : Det.Calls} {o : SOper} {e e' : Env} {M M' : Mem} : evOper C o e M = some (e', M') ↔ ∃ v, evV C o e M = some (v, M') ∧ e' = setDst e o.dst v := by
  rw [evOper_eq]
  cases evV C o e M with
  | none => simp
  | some p =>
    obtain ⟨v, M1⟩ := p
    simp only [Option.map_some, Option.some.injEq, Prod.mk.injEq]
    constructor
    · rintro ⟨rfl, rfl⟩; exact ⟨v, ⟨rfl, rfl⟩, rfl⟩
    · rintro ⟨v', ⟨rfl, rfl⟩, rfl⟩; exact ⟨rfl, rfl⟩

theorem allocTop_len {id : Nat} {c : Con} {M M' : Mem} {a : AAddr} (h : allocTop id c M = some (a, M')) : M'.length = M.length := by
  unfold allocTop at h
  split at h
  · cases h
  · split at h
    · cases h
    · cases h; simp

theorem evW_len {o : WOp} {e : Env} {M M' : Mem} {v : AV} (h : evW o e M = some (v, M')) : M'.length = M.length := by
  cases o <;> simp only [evW] at h
  all_goals
    repeat' split at h
    all_goals first
      | (cases h; done)
      | (cases h; simp only [put_length]; done)
      | (cases h; exact allocTop_len (by assumption))
      | (cases h; rfl)

theorem evOp_ne {C : Det.Calls} {o : SOp} {e : Env} {s : Scope} {M0 M' : Mem} {v : AV} (h : evOp C o e (s :: M0) = some (v, M')) : ∃ s' M0', M' = s' :: M0' := by
  cases o with
  | p o => simp only [evOp] at h; split at h <;> cases h; exact ⟨_, _, rfl⟩
  | a id o =>
    simp only [evOp] at h
    split at h
    · split at h
      · rename_i hal
        cases h
        have := allocTop_len hal
        cases M' with
        | nil => simp at this
        | cons s' M0' => exact ⟨_, _, rfl⟩
      · cases h
    · cases h
  | r o => simp only [evOp] at h; split at h <;> cases h; exact ⟨_, _, rfl⟩
  | w o =>
    have := evW_len h
    cases M' with
    | nil => simp at this
    | cons s' M0' => exact ⟨_, _, rfl⟩
  | call id n q f args =>
    simp only [evOp, callOp] at h
    split at h
    · split at h
      · split at h
        · split at h
          · split at h
            · cases h; exact ⟨_, _, rfl⟩
            · cases h
          · cases h
        · cases h
      · cases h
    · cases h

theorem without_nil (s : Scope) : without [] s = s := by funext j; simp [without]
theorem join_nil (s s' : Scope) : join [] s s' = s' := by funext j; simp [join]

theorem evV_true {C : Det.Calls} {o : SOper} {e : Env} {s : Scope} {M0 : Mem} (hw : wants e o.guard = some true) : evV C o e (s :: M0) = match evOp C o.op e (without o.hide s :: M0) with
    | some (v, s' :: M0') => some (v, join o.hide s s' :: M0')
    | _ => none := by
  unfold evV
  rw [hw]
  simp only
  cases hh : o.hide with
  | nil =>
    simp only [without_nil, join_nil]
    cases h : evOp C o.op e (s :: M0) with
    | none => rfl
    | some p =>
      obtain ⟨v, M'⟩ := p
      obtain ⟨s', M0', rfl⟩ := evOp_ne h
      rfl
  | cons x l => rfl

theorem evV_ne {C : Det.Calls} {o : SOper} {e : Env} {s : Scope} {M0 M' : Mem} {v : AV} (h : evV C o e (s :: M0) = some (v, M')) : ∃ s' M0', M' = s' :: M0' := by
  cases hw : wants e o.guard with
  | none => unfold evV at h; rw [hw] at h; cases h
  | some b =>
    cases b with
    | false => unfold evV at h; rw [hw] at h; cases h; exact ⟨_, _, rfl⟩
    | true =>
      rw [evV_true hw] at h
      split at h
      · cases h; exact ⟨_, _, rfl⟩
      · cases h

/-- The same operation in temporaries that agree on what it looks at. -/
theorem evV_congr {C : Det.Calls} {o : SOper} {e e' : Env} {M : Mem} (h : ∀ t ∈ o.looks, e.get t = e'.get t) : evV C o e M = evV C o e' M := by
  obtain ⟨h1, h2⟩ := agree_opds h
  have h3 : ∀ M, evOp C o.op e M = evOp C o.op e' M := fun M => evOp_congr h1
  unfold evV
  rw [h2]
  simp only [h3]

/-! ### operations that leave alone what is there -/

def SOp.quiet : SOp → Bool
  | .w _ => false
  | .call _ _ q _ _ => q
  | _ => true

def SOp.pure : SOp → Bool
  | .p _ => true
  | _ => false

def SOp.own : SOp → List Nat
  | .a id _ => [id]
  | .call id n _ _ _ => (List.range n).map (id + ·)
  | .w (.append id _ _ _ _) => [id]
  | _ => []

def lay (s add : Scope) : Scope := fun j => match add j with
  | some c => some c
  | none => s j

theorem lay_none (s : Scope) : lay s (fun _ => none) = s := rfl

theorem evOp_quiet {C : Det.Calls} {o : SOp} {e : Env} {s : Scope} {M0 M' : Mem} {v : AV} (hq : o.quiet = true) (h : evOp C o e (s :: M0) = some (v, M')) :
    ∃ add : Scope, M' = lay s add :: M0 ∧ ∀ j, add j ≠ none → j ∈ o.own ∧ s j = none := by
  cases o with
  | p o => simp only [evOp] at h; split at h <;> cases h; exact ⟨fun _ => none, rfl, fun j hj => absurd rfl hj⟩
  | a id o =>
    simp only [evOp] at h
    split at h
    · rename_i c f _
      simp only [allocTop] at h
      cases hs : s id with
      | some c0 => rw [hs] at h; cases h
      | none =>
        rw [hs] at h
        simp only [Option.some.injEq, Prod.mk.injEq] at h
        obtain ⟨rfl, rfl⟩ := h
        refine ⟨fun j => if j = id then some c else none, ?_, fun j hj => ?_⟩
        · congr 1
          funext j
          simp only [setAt, lay]
          by_cases hj : j = id <;> simp [hj]
        · by_cases hji : j = id
          · subst hji; exact ⟨by simp [SOp.own], hs⟩
          · simp [hji] at hj
    · cases h
  | r o => simp only [evOp] at h; split at h <;> cases h; exact ⟨fun _ => none, rfl, fun j hj => absurd rfl hj⟩
  | w o => cases hq
  | call id n q f args =>
    simp only [SOp.quiet] at hq
    subst hq
    simp only [evOp, callOp, if_true] at h
    split at h
    · split at h
      · rename_i u cs M1 _
        split at h
        · rename_i hle
          split at h
          · rename_i s2 htk
            cases h
            obtain ⟨t1, t2⟩ := takeC_spec htk
            refine ⟨fun j => if id ≤ j ∧ j < id + cs.length then cs[j - id]? else none, ?_, fun j hj => ?_⟩
            · congr 1
              funext j
              rw [t1 j]
              simp only [lay]
              by_cases hj : id ≤ j ∧ j < id + cs.length
              · rw [if_pos hj, if_pos hj, List.getElem?_eq_getElem (by omega)]
              · rw [if_neg hj, if_neg hj]
            · simp only at hj
              split at hj
              · rename_i hh
                refine ⟨?_, t2 j hh.1 hh.2⟩
                simp only [SOp.own, List.mem_map, List.mem_range]
                exact ⟨j - id, by omega, by omega⟩
              · exact absurd rfl hj
          · cases h
        · cases h
      · cases h
    · cases h

theorem evV_quiet {C : Det.Calls} {o : SOper} {e : Env} {s : Scope} {M0 M' : Mem} {v : AV} (hq : o.op.quiet = true) (hoh : ∀ j ∈ o.op.own, o.hide.contains j = false) (h : evV C o e (s :: M0) = some (v, M')) :
    ∃ add : Scope, M' = lay s add :: M0 ∧ (∀ j, add j ≠ none → j ∈ o.op.own ∧ s j = none) ∧
      ∀ (e2 : Env) (s2 : Scope), (∀ t ∈ o.looks, e.get t = e2.get t) → (∀ j, o.hide.contains j = false → s2 j = s j) → evV C o e2 (s2 :: M0) = some (v, lay s2 add :: M0) := by
  cases hw : wants e o.guard with
  | none => unfold evV at h; rw [hw] at h; cases h
  | some b =>
    cases b with
    | false =>
      unfold evV at h
      rw [hw] at h
      cases h
      refine ⟨fun _ => none, rfl, fun j hj => absurd rfl hj, fun e2 s2 h1 h2 => ?_⟩
      unfold evV
      rw [← (agree_opds h1).2, hw]
      rfl
    | true =>
      rw [evV_true hw] at h
      split at h
      · rename_i v1 s' M0' hev
        cases h
        obtain ⟨add, hM, hadd⟩ := evOp_quiet hq hev
        cases hM
        have hadd2 : ∀ j, add j ≠ none → o.hide.contains j = false := fun j hj => hoh j (hadd j hj).1
        have key : ∀ s2 : Scope, (∀ j, o.hide.contains j = false → s2 j = s j) → join o.hide s2 (lay (without o.hide s) add) = lay s2 add := by
          intro s2 h2
          funext j
          simp only [join, lay, without]
          by_cases hj : o.hide.contains j = true
          · rw [if_pos hj]
            have : add j = none := by
              cases ha : add j with
              | none => rfl
              | some c => have := hadd2 j (by rw [ha]; simp); rw [hj] at this; cases this
            rw [this]
          · rw [if_neg hj, if_neg hj, h2 j (by simpa using hj)]
        refine ⟨add, by rw [key s (fun _ _ => rfl)], fun j hj => ⟨(hadd j hj).1, ?_⟩, fun e2 s2 h1 h2 => ?_⟩
        · have h3 := (hadd j hj).2
          have h4 := hadd2 j hj
          simp only [without, h4, Bool.false_eq_true, if_false] at h3
          exact h3
        · have hww : without o.hide s2 = without o.hide s := by
            funext j
            simp only [without]
            by_cases hj : o.hide.contains j = true
            · rw [if_pos hj, if_pos hj]
            · rw [if_neg hj, if_neg hj, h2 j (by simpa using hj)]
          obtain ⟨a1, a2⟩ := agree_opds h1
          rw [evV_true (a2 ▸ hw), hww, ← evOp_congr a1, hev]
          simp only [key s2 h2]
      · cases h

/-! ### two operations that commute -/

def apartT (x y : SOper) : Bool :=
  (match x.dst with
   | some d => !y.looks.contains d && y.dst != some d
   | none => true) &&
  (match y.dst with
   | some d => !x.looks.contains d
   | none => true)

def SOper.calm (x : SOper) : Bool := x.op.quiet && x.op.own.all fun j => !x.hide.contains j

def indep (x y : SOper) : Bool :=
  apartT x y && ((x.op.pure && x.hide.isEmpty) || (y.op.pure && y.hide.isEmpty) ||
    (x.calm && y.calm && (x.op.own.all fun j => y.hide.contains j) && (y.op.own.all fun j => x.hide.contains j) && (x.op.own.all fun j => !y.op.own.contains j)))

theorem get_setDst {e : Env} {d : Option Nat} {v : AV} {t : Nat} (h : ∀ n, d = some n → t ≠ n) : (setDst e d v).get t = e.get t := by
  cases d with
  | none => rfl
  | some n =>
    have := h n rfl
    simp only [setDst, Env.get]
    rw [List.getElem?_set_ne (fun h => this h.symm)]

theorem setDst_comm {e : Env} {d d' : Option Nat} {v u : AV} (h : ∀ n, d = some n → d' ≠ some n) : setDst (setDst e d v) d' u = setDst (setDst e d' u) d v := by
  cases d with
  | none => rfl
  | some n =>
    cases d' with
    | none => rfl
    | some m =>
      have hne : n ≠ m := fun hh => h n rfl (by rw [hh])
      simp only [setDst]
      exact List.set_comm _ _ hne

theorem pure_any {C : Det.Calls} {x : SOper} {e : Env} {M M' : Mem} {v : AV} (hp : x.op.pure = true) (hh : x.hide = []) (h : evV C x e M = some (v, M')) : M' = M ∧ ∀ M2, evV C x e M2 = some (v, M2) := by
  obtain ⟨dst, guard, hide, op⟩ := x
  simp only at hp hh
  subst hh
  cases op <;> simp only [SOp.pure, Bool.false_eq_true] at hp
  rename_i p
  simp only [evV, evOp] at h ⊢
  split at h
  · rename_i hw
    split at h
    · rename_i u hu
      cases h
      exact ⟨rfl, fun M2 => rfl⟩
    · cases h
  · cases h; exact ⟨rfl, fun M2 => rfl⟩
  · cases h

theorem swap {C : Det.Calls} {x y : SOper} {e e1 e2 : Env} {s : Scope} {M0 M1 M2 : Mem} (hi : indep x y = true) (hx : evOper C x e (s :: M0) = some (e1, M1)) (hy : evOper C y e1 M1 = some (e2, M2)) :
    ∃ e1' M1', evOper C y e (s :: M0) = some (e1', M1') ∧ evOper C x e1' M1' = some (e2, M2) := by
  obtain ⟨vx, hvx, rfl⟩ := evOper_some.1 hx
  obtain ⟨vy, hvy, rfl⟩ := evOper_some.1 hy
  simp only [indep, Bool.and_eq_true] at hi
  obtain ⟨hap, hi⟩ := hi
  have a1 : ∀ t ∈ y.looks, (setDst e x.dst vx).get t = e.get t := by
    intro t ht
    refine get_setDst fun n hn htn => ?_
    subst htn
    simp only [apartT, hn, Bool.and_eq_true, Bool.not_eq_true'] at hap
    have := hap.1.1
    rw [List.contains_eq_mem] at this
    simp [ht] at this
  have a2 : ∀ t ∈ x.looks, e.get t = (setDst e y.dst vy).get t := by
    intro t ht
    refine (get_setDst fun n hn htn => ?_).symm
    subst htn
    simp only [apartT, hn, Bool.and_eq_true, Bool.not_eq_true'] at hap
    have := hap.2
    rw [List.contains_eq_mem] at this
    simp [ht] at this
  have a3 : ∀ n, x.dst = some n → y.dst ≠ some n := by
    intro n hn
    simp only [apartT, hn, Bool.and_eq_true, bne_iff_ne, ne_eq] at hap
    exact hap.1.2
  rw [evV_congr a1] at hvy
  have hcm : setDst (setDst e x.dst vx) y.dst vy = setDst (setDst e y.dst vy) x.dst vx := setDst_comm a3
  rw [hcm]
  simp only [Bool.or_eq_true, Bool.and_eq_true] at hi
  rcases hi with (⟨hp, hh⟩ | ⟨hp, hh⟩) | hi
  · have hh' : x.hide = [] := by simpa using hh
    obtain ⟨rfl, hall⟩ := pure_any hp hh' hvx
    refine ⟨_, _, evOper_some.2 ⟨vy, hvy, rfl⟩, evOper_some.2 ⟨vx, ?_, rfl⟩⟩
    rw [← evV_congr a2]
    exact hall M2
  · have hh' : y.hide = [] := by simpa using hh
    obtain ⟨rfl, hall⟩ := pure_any hp hh' hvy
    refine ⟨_, _, evOper_some.2 ⟨vy, hall (s :: M0), rfl⟩, evOper_some.2 ⟨vx, ?_, rfl⟩⟩
    rw [← evV_congr a2]
    exact hvx
  · obtain ⟨⟨⟨⟨cx, cy⟩, hxy⟩, hyx⟩, hdis⟩ := hi
    simp only [SOper.calm, Bool.and_eq_true, List.all_eq_true, Bool.not_eq_true'] at cx cy
    simp only [List.all_eq_true, Bool.not_eq_true'] at hxy hyx hdis
    obtain ⟨ax, hMx, hax, hlx⟩ := evV_quiet cx.1 cx.2 hvx
    subst hMx
    obtain ⟨ay, hMy, hay, hly⟩ := evV_quiet cy.1 cy.2 hvy
    subst hMy
    have y1 := hly e s (fun _ _ => rfl) (fun j hj => by
      simp only [lay]
      cases ha : ax j with
      | none => rfl
      | some c => have := hxy j (hax j (by rw [ha]; simp)).1; rw [hj] at this; cases this)
    refine ⟨_, _, evOper_some.2 ⟨vy, y1, rfl⟩, evOper_some.2 ⟨vx, ?_, rfl⟩⟩
    have x1 := hlx (setDst e y.dst vy) (lay s ay) a2 (fun j hj => by
      simp only [lay]
      cases ha : ay j with
      | none => rfl
      | some c => have := hyx j (hay j (by rw [ha]; simp)).1; rw [hj] at this; cases this)
    rw [x1]
    congr 3
    funext j
    simp only [lay]
    cases hx1 : ax j with
    | none => cases hy1 : ay j <;> rfl
    | some c =>
      cases hy1 : ay j with
      | none => rfl
      | some c' =>
        have b1 := (hax j (by rw [hx1]; simp)).1
        have b2 := (hay j (by rw [hy1]; simp)).1
        have := hdis j b1
        rw [List.contains_eq_mem] at this
        simp [b2] at this

theorem evOper_ne {C : Det.Calls} {o : SOper} {e e' : Env} {s : Scope} {M0 M' : Mem} (h : evOper C o e (s :: M0) = some (e', M')) : ∃ s' M0', M' = s' :: M0' := by
  obtain ⟨v, hv, _⟩ := evOper_some.1 h
  exact evV_ne hv

theorem evOps_cons {C : Det.Calls} {o : SOper} {l : List SOper} {e : Env} {M : Mem} {r : Env × Mem} : evOps C (o :: l) e M = some r ↔ ∃ e1 M1, evOper C o e M = some (e1, M1) ∧ evOps C l e1 M1 = some r := by
  simp only [evOps]
  cases h : evOper C o e M with
  | none => simp
  | some p =>
    obtain ⟨e1, M1⟩ := p
    constructor
    · intro h; exact ⟨e1, M1, rfl, h⟩
    · rintro ⟨e2, M2, h1, h2⟩; cases h1; exact h2

theorem to_front {C : Det.Calls} {y : SOper} {t2 : List SOper} {r : Env × Mem} : ∀ (t1 : List SOper) (e : Env) (s : Scope) (M0 : Mem), (∀ k ∈ t1, indep k y = true) → evOps C (t1 ++ y :: t2) e (s :: M0) = some r →
    ∃ e1 M1, evOper C y e (s :: M0) = some (e1, M1) ∧ evOps C (t1 ++ t2) e1 M1 = some r
  | [], e, s, M0, _, h => evOps_cons.1 h
  | x :: t1, e, s, M0, hi, h => by
    obtain ⟨ex, Mx, hx, h1⟩ := evOps_cons.1 h
    obtain ⟨sx, Mx0, rfl⟩ := evOper_ne hx
    obtain ⟨e1, M1, hy, h2⟩ := to_front t1 ex sx Mx0 (fun k hk => hi k (by simp [hk])) h1
    obtain ⟨e1', M1', hy', hx'⟩ := swap (hi x (by simp)) hx hy
    exact ⟨e1', M1', hy', evOps_cons.2 ⟨e1, M1, hx', h2⟩⟩

end Go.Det

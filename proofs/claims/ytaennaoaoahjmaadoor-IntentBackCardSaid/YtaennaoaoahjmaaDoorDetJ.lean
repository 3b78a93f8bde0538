/-
  DET, part J: what an operation looks at; operations that commute; regions.
-/
import Derived.Test.YtaennaoaoahjmaaDoorDetI
set_option linter.unusedSimpArgs false
set_option linter.unusedVariables false
namespace Go.Det

def optL : Option Opd → List Opd
  | none => []
  | some x => [x]

def POp.opds : POp → List Opd
  | .mv x | .mvStr x | .un _ x | .conv _ x | .faddr _ x | .field1 _ x | .fieldN _ _ x | .extract x _ | .lenV _ x | .arrPtr _ x | .nilChk x => [x]
  | .pick c a b => [c, a, b]
  | .bin _ x y | .eqb _ x y | .eqn _ _ x y | .eqa _ _ x y | .iaddrA _ _ x y | .iaddrS _ x y | .idxStr x y | .idxA _ x y | .idxAN _ _ x y | .minmax _ x y => [x, y]
  | .build _ ps => ps.map (·.2.2)
  | .slcStr x lo hi | .slcA _ _ x lo hi => x :: (optL lo ++ optL hi)
  | .slcS _ x lo hi mx => x :: (optL lo ++ (optL hi ++ optL mx))
  | .mkFunc _ f c => f ++ c
  | .konst _ | .bad => []
  | .minmax3 _ x y z => [x, y, z]
  | .minmax4 _ x y z u => [x, y, z, u]

def AOp.opds : AOp → List Opd
  | .toBytes x | .box x => [x]
  | .alloc _ | .mkMap => []
  | .buildS _ _ _ ps => ps.map (·.2.2)
  | .mkSlice _ _ _ l c => [l, c]

def ROp.opds : ROp → List Opd
  | .load1 x | .loadN _ x | .toStr x | .lenM x | .loadT _ x => [x]
  | .lookup _ _ x k _ => [x, k]

def WOp.opds : WOp → List Opd
  | .store1 x v | .storeN _ x v | .append _ _ _ x v | .copy _ x v => [x, v]
  | .mapSet _ m k v => [m, k, v]

def BOp.opds : BOp → List Opd
  | .new _ => []
  | .write _ _ _ f args | .str _ _ _ f args => f :: args

def SOp.opds : SOp → List Opd
  | .p o => o.opds
  | .a _ o => o.opds
  | .r o => o.opds
  | .w o => o.opds
  | .call _ _ _ f args => f :: args
  | .b _ o => o.opds

section
variable {e e' : Env}

theorem bound_congr {m d : Nat} {o : Option Opd} (h : ∀ x ∈ optL o, opd e x = opd e' x) : bound e m o d = bound e' m o d := by
  cases o with
  | none => rfl
  | some x => simp only [bound, h x (by simp [optL])]

theorem fillA_congr : ∀ (ps : List (Nat × Nat × Opd)) (cells : List AV), (∀ x ∈ ps.map (·.2.2), opd e x = opd e' x) → fillA e cells ps = fillA e' cells ps
  | [], _, _ => rfl
  | (o, s, x) :: ps, cells, h => by
    have h1 := h x (by simp)
    simp only [fillA, h1]
    split
    · split
      · exact fillA_congr ps _ fun y hy => h y (by simp only [List.map_cons, List.mem_cons]; exact .inr hy)
      · rfl
    · rfl

theorem opds_congr : ∀ (l : List Opd), (∀ x ∈ l, opd e x = opd e' x) → opds e l = opds e' l
  | [], _ => rfl
  | x :: l, h => by simp only [opds, h x (by simp), opds_congr l fun y hy => h y (by simp [hy])]

theorem evP_congr {p : POp} (h : ∀ x ∈ p.opds, opd e x = opd e' x) : evP p e = evP p e' := by
  cases p <;> simp only [POp.opds] at h
  case build z ps => simp only [evP, fillA_congr ps z h]
  case mkFunc f l m =>
    have h1 := opds_congr l fun x hx => h x (by simp [hx])
    have h2 := opds_congr m fun x hx => h x (by simp [hx])
    simp only [evP, h1, h2]
  case slcStr x lo hi =>
    have h0 := h x (by simp)
    have h1 : ∀ m d, bound e m lo d = bound e' m lo d := fun m d => bound_congr fun x hx => h x (by simp [hx])
    have h2 : ∀ m d, bound e m hi d = bound e' m hi d := fun m d => bound_congr fun x hx => h x (by simp [hx])
    simp only [evP, h0, h1, h2]
  case slcA n s x lo hi =>
    have h0 := h x (by simp)
    have h1 : ∀ m d, bound e m lo d = bound e' m lo d := fun m d => bound_congr fun x hx => h x (by simp [hx])
    have h2 : ∀ m d, bound e m hi d = bound e' m hi d := fun m d => bound_congr fun x hx => h x (by simp [hx])
    simp only [evP, h0, h1, h2]
  case slcS s x lo hi mx =>
    have h0 := h x (by simp)
    have h1 : ∀ m d, bound e m lo d = bound e' m lo d := fun m d => bound_congr fun x hx => h x (by simp [hx])
    have h2 : ∀ m d, bound e m hi d = bound e' m hi d := fun m d => bound_congr fun x hx => h x (by simp [hx])
    have h3 : ∀ m d, bound e m mx d = bound e' m mx d := fun m d => bound_congr fun x hx => h x (by simp [hx])
    simp only [evP, h0, h1, h2, h3]
  all_goals first
    | rfl
    | (simp only [List.mem_cons, List.not_mem_nil, or_false, forall_eq_or_imp, forall_eq] at h; simp only [evP, h])

theorem evA_congr {o : AOp} (h : ∀ x ∈ o.opds, opd e x = opd e' x) : evA o e = evA o e' := by
  cases o <;> simp only [AOp.opds] at h
  case buildS s n z ps => simp only [evA, fillA_congr ps _ h]
  all_goals first
    | rfl
    | (simp only [List.mem_cons, List.not_mem_nil, or_false, forall_eq_or_imp, forall_eq] at h; simp only [evA, h])

theorem evR_congr {o : ROp} {M : Mem} (h : ∀ x ∈ o.opds, opd e x = opd e' x) : evR o e M = evR o e' M := by
  cases o <;> simp only [ROp.opds] at h
  all_goals first
    | rfl
    | (simp only [List.mem_cons, List.not_mem_nil, or_false, forall_eq_or_imp, forall_eq] at h; simp only [evR, h])

theorem evW_congr {o : WOp} {M : Mem} (h : ∀ x ∈ o.opds, opd e x = opd e' x) : evW o e M = evW o e' M := by
  cases o <;> simp only [WOp.opds] at h
  all_goals first
    | rfl
    | (simp only [List.mem_cons, List.not_mem_nil, or_false, forall_eq_or_imp, forall_eq] at h; simp only [evW, h])

theorem evOp_congr {C : Det.Calls} {o : SOp} {M : Mem} (h : ∀ x ∈ o.opds, opd e x = opd e' x) : evOp C o e M = evOp C o e' M := by
  cases o with
  | p o => simp only [evOp, evP_congr h]
  | a id o => simp only [evOp, evA_congr h]
  | r o => simp only [evOp, evR_congr h]
  | w o => simp only [evOp, evW_congr h]
  | call id n q f args =>
    have h1 := h f (by simp [SOp.opds])
    have h2 := opds_congr args fun x hx => h x (by simp [SOp.opds, hx])
    simp only [evOp, h1, h2]
  | b id o =>
    cases o with
    | new T => rfl
    | write i T E f args =>
      have h1 := h f (by simp [SOp.opds, BOp.opds])
      have h2 := opds_congr args fun x hx => h x (by simp [SOp.opds, BOp.opds, hx])
      simp only [evOp, evB, h1, h2]
    | str i T E f args =>
      have h1 := h f (by simp [SOp.opds, BOp.opds])
      have h2 := opds_congr args fun x hx => h x (by simp [SOp.opds, BOp.opds, hx])
      simp only [evOp, evB, h1, h2]
end

def Opd.tmp? : Opd → Option Nat
  | .t n => some n
  | _ => none

def SOper.looks (o : SOper) : List Nat := o.op.opds.filterMap Opd.tmp? ++ (match o.guard with | some (t, _) => [t] | none => [])

theorem agree_opds {o : SOper} {e e' : Env} (h : ∀ t ∈ o.looks, e.get t = e'.get t) : (∀ x ∈ o.op.opds, opd e x = opd e' x) ∧ wants e o.guard = wants e' o.guard := by
  constructor
  · intro x hx
    cases x with
    | t n => exact h n (List.mem_append_left _ (List.mem_filterMap.2 ⟨.t n, hx, rfl⟩))
    | c v => rfl
    | g n s => rfl
    | f n => rfl
  · cases hg : o.guard with
    | none => rfl
    | some p =>
      obtain ⟨t, b⟩ := p
      simp only [wants, h t (by simp [SOper.looks, hg])]

/-! ### values first -/

def evV (C : Det.Calls) (o : SOper) (e : Env) (M : Mem) : Option (AV × Mem) :=
  match wants e o.guard with
  | some true =>
    match o.hide with
    | [] => evOp C o.op e M
    | x :: h => match M with
      | [] => none
      | s :: M0 => match evOp C o.op e (without (x :: h) s :: M0) with
        | some (v, s' :: M0') => some (v, join (x :: h) s s' :: M0')
        | _ => none
  | some false => some (.undef, M)
  | none => none

theorem evOper_eq {C : Det.Calls} {o : SOper} {e : Env} {M : Mem} : evOper C o e M = (evV C o e M).map fun p => (setDst e o.dst p.1, p.2) := by
  unfold evOper evV
  cases wants e o.guard with
  | none => rfl
  | some b =>
    cases b with
    | false => rfl
    | true =>
      simp only
      cases o.hide with
      | nil => simp only; cases evOp C o.op e M <;> rfl
      | cons x h =>
        cases M with
        | nil => rfl
        | cons s M0 =>
          simp only
          cases evOp C o.op e (without (x :: h) s :: M0) with
          | none => rfl
          | some p => obtain ⟨v, M'⟩ := p; cases M' <;> rfl

theorem evOper_some {C : Det.Calls} {o : SOper} {e e' : Env} {M M' : Mem} : evOper C o e M = some (e', M') ↔ ∃ v, evV C o e M = some (v, M') ∧ e' = setDst e o.dst v := by
  rw [evOper_eq]
  cases evV C o e M with
  | none => simp
  | some p =>
    obtain ⟨v, M1⟩ := p
    simp only [Option.map_some, Option.some.injEq, Prod.mk.injEq]
    constructor
    · rintro ⟨rfl, rfl⟩; exact ⟨v, ⟨rfl, rfl⟩, rfl⟩
    · rintro ⟨v', ⟨rfl, rfl⟩, rfl⟩; exact ⟨rfl, rfl⟩

theorem allocTop_len {id : Nat} {c : Con} {M M' : Mem} {a : AAddr} (h : allocTop id c M = some (a, M')) : M'.length = M.length := by
  unfold allocTop at h
  split at h
  · cases h
  · split at h
    · cases h
    · cases h; simp

theorem evW_len {o : WOp} {e : Env} {M M' : Mem} {v : AV} (h : evW o e M = some (v, M')) : M'.length = M.length := by
  cases o <;> simp only [evW] at h
  all_goals
    repeat' split at h
    all_goals first
      | (cases h; done)
      | (cases h; simp only [put_length]; done)
      | (cases h; exact allocTop_len (by assumption))
      | (cases h; rfl)

theorem bApp_len {id E : Nat} {b : AV} {s : List UInt8} {M M' : Mem} {v : AV} (h : bApp id E b s M = some (v, M')) : M'.length = M.length := by
  unfold bApp at h
  repeat' first
    | (cases h; done)
    | (cases h; simp only [put_length]; done)
    | (cases h; exact allocTop_len (by assumption))
    | (cases h; rfl)
    | split at h

theorem evB_len {id : Nat} {o : BOp} {e : Env} {M M' : Mem} {v : AV} (h : evB id o e M = some (v, M')) : M'.length = M.length := by
  unfold evB at h
  split at h
  · split at h
    · rename_i hal; cases h; exact allocTop_len hal
    · cases h
  · split at h
    · unfold bWrite at h
      split at h
      · split at h
        · split at h
          · split at h
            · rename_i hb
              split at h
              · cases h; rw [put_length]; exact bApp_len hb
              · cases h
            · cases h
          · cases h
        · cases h
      · cases h
    · cases h
  · split at h
    · split at h
      · cases h; rfl
      · cases h
    · cases h

theorem evOp_ne {C : Det.Calls} {o : SOp} {e : Env} {s : Scope} {M0 M' : Mem} {v : AV} (h : evOp C o e (s :: M0) = some (v, M')) : ∃ s' M0', M' = s' :: M0' := by
  cases o with
  | p o => simp only [evOp] at h; split at h <;> cases h; exact ⟨_, _, rfl⟩
  | a id o =>
    simp only [evOp] at h
    split at h
    · split at h
      · rename_i hal
        cases h
        have := allocTop_len hal
        cases M' with
        | nil => simp at this
        | cons s' M0' => exact ⟨_, _, rfl⟩
      · cases h
    · cases h
  | r o => simp only [evOp] at h; split at h <;> cases h; exact ⟨_, _, rfl⟩
  | w o =>
    have := evW_len h
    cases M' with
    | nil => simp at this
    | cons s' M0' => exact ⟨_, _, rfl⟩
  | b id o =>
    have := evB_len h
    cases M' with
    | nil => simp at this
    | cons s' M0' => exact ⟨_, _, rfl⟩
  | call id n q f args =>
    simp only [evOp, callOp] at h
    split at h
    · split at h
      · split at h
        · split at h
          · split at h
            · cases h; exact ⟨_, _, rfl⟩
            · cases h
          · cases h
        · cases h
      · cases h
    · cases h

theorem without_nil (s : Scope) : without [] s = s := by funext j; simp [without]
theorem join_nil (s s' : Scope) : join [] s s' = s' := by funext j; simp [join]

theorem evV_true {C : Det.Calls} {o : SOper} {e : Env} {s : Scope} {M0 : Mem} (hw : wants e o.guard = some true) : evV C o e (s :: M0) = match evOp C o.op e (without o.hide s :: M0) with
    | some (v, s' :: M0') => some (v, join o.hide s s' :: M0')
    | _ => none := by
  unfold evV
  rw [hw]
  simp only
  cases hh : o.hide with
  | nil =>
    simp only [without_nil, join_nil]
    cases h : evOp C o.op e (s :: M0) with
    | none => rfl
    | some p =>
      obtain ⟨v, M'⟩ := p
      obtain ⟨s', M0', rfl⟩ := evOp_ne h
      rfl
  | cons x l => rfl

theorem evV_ne {C : Det.Calls} {o : SOper} {e : Env} {s : Scope} {M0 M' : Mem} {v : AV} (h : evV C o e (s :: M0) = some (v, M')) : ∃ s' M0', M' = s' :: M0' := by
  cases hw : wants e o.guard with
  | none => unfold evV at h; rw [hw] at h; cases h
  | some b =>
    cases b with
    | false => unfold evV at h; rw [hw] at h; cases h; exact ⟨_, _, rfl⟩
    | true =>
      rw [evV_true hw] at h
      split at h
      · cases h; exact ⟨_, _, rfl⟩
      · cases h

/-- The same operation in temporaries that agree on what it looks at. -/
theorem evV_congr {C : Det.Calls} {o : SOper} {e e' : Env} {M : Mem} (h : ∀ t ∈ o.looks, e.get t = e'.get t) : evV C o e M = evV C o e' M := by
  obtain ⟨h1, h2⟩ := agree_opds h
  have h3 : ∀ M, evOp C o.op e M = evOp C o.op e' M := fun M => evOp_congr h1
  unfold evV
  rw [h2]
  simp only [h3]

/-! ### operations that leave alone what is there -/

def SOp.quiet : SOp → Bool
  | .w _ => false
  | .call _ _ q _ _ => q
  | .b _ _ => false
  | _ => true

def SOp.pure : SOp → Bool
  | .p _ => true
  | _ => false

def SOp.own : SOp → List Nat
  | .a id _ => [id]
  | .call id n _ _ _ => (List.range n).map (id + ·)
  | .w (.append id _ _ _ _) => [id]
  | .b id _ => [id]
  | .r (.loadT i _) => [i]
  | _ => []

def lay (s add : Scope) : Scope := fun j => match add j with
  | some c => some c
  | none => s j

theorem lay_none (s : Scope) : lay s (fun _ => none) = s := rfl

theorem evOp_quiet {C : Det.Calls} {o : SOp} {e : Env} {s : Scope} {M0 M' : Mem} {v : AV} (hq : o.quiet = true) (h : evOp C o e (s :: M0) = some (v, M')) :
    ∃ add : Scope, M' = lay s add :: M0 ∧ ∀ j, add j ≠ none → j ∈ o.own ∧ s j = none := by
  cases o with
  | p o => simp only [evOp] at h; split at h <;> cases h; exact ⟨fun _ => none, rfl, fun j hj => absurd rfl hj⟩
  | a id o =>
    simp only [evOp] at h
    split at h
    · rename_i c f _
      simp only [allocTop] at h
      cases hs : s id with
      | some c0 => rw [hs] at h; cases h
      | none =>
        rw [hs] at h
        simp only [Option.some.injEq, Prod.mk.injEq] at h
        obtain ⟨rfl, rfl⟩ := h
        refine ⟨fun j => if j = id then some c else none, ?_, fun j hj => ?_⟩
        · congr 1
          funext j
          simp only [setAt, lay]
          by_cases hj : j = id <;> simp [hj]
        · by_cases hji : j = id
          · subst hji; exact ⟨by simp [SOp.own], hs⟩
          · simp [hji] at hj
    · cases h
  | r o => simp only [evOp] at h; split at h <;> cases h; exact ⟨fun _ => none, rfl, fun j hj => absurd rfl hj⟩
  | w o => cases hq
  | b id o => cases hq
  | call id n q f args =>
    simp only [SOp.quiet] at hq
    subst hq
    simp only [evOp, callOp, if_true] at h
    split at h
    · split at h
      · rename_i u cs M1 _
        split at h
        · rename_i hle
          have hle := hle.1
          split at h
          · rename_i s2 htk
            cases h
            obtain ⟨t1, t2⟩ := takeC_spec htk
            refine ⟨fun j => if id ≤ j ∧ j < id + cs.length then cs[j - id]? else none, ?_, fun j hj => ?_⟩
            · congr 1
              funext j
              rw [t1 j]
              simp only [lay]
              by_cases hj : id ≤ j ∧ j < id + cs.length
              · rw [if_pos hj, if_pos hj, List.getElem?_eq_getElem (by omega)]
              · rw [if_neg hj, if_neg hj]
            · simp only at hj
              split at hj
              · rename_i hh
                refine ⟨?_, t2 j hh.1 hh.2⟩
                simp only [SOp.own, List.mem_map, List.mem_range]
                exact ⟨j - id, by omega, by omega⟩
              · exact absurd rfl hj
          · cases h
        · cases h
      · cases h
    · cases h

theorem evV_quiet {C : Det.Calls} {o : SOper} {e : Env} {s : Scope} {M0 M' : Mem} {v : AV} (hq : o.op.quiet = true) (hoh : ∀ j ∈ o.op.own, o.hide.contains j = false) (h : evV C o e (s :: M0) = some (v, M')) :
    ∃ add : Scope, M' = lay s add :: M0 ∧ (∀ j, add j ≠ none → j ∈ o.op.own ∧ s j = none) ∧
      ∀ (e2 : Env) (s2 : Scope), (∀ t ∈ o.looks, e.get t = e2.get t) → (∀ j, o.hide.contains j = false → s2 j = s j) → evV C o e2 (s2 :: M0) = some (v, lay s2 add :: M0) := by
  cases hw : wants e o.guard with
  | none => unfold evV at h; rw [hw] at h; cases h
  | some b =>
    cases b with
    | false =>
      unfold evV at h
      rw [hw] at h
      cases h
      refine ⟨fun _ => none, rfl, fun j hj => absurd rfl hj, fun e2 s2 h1 h2 => ?_⟩
      unfold evV
      rw [← (agree_opds h1).2, hw]
      rfl
    | true =>
      rw [evV_true hw] at h
      split at h
      · rename_i v1 s' M0' hev
        cases h
        obtain ⟨add, hM, hadd⟩ := evOp_quiet hq hev
        cases hM
        have hadd2 : ∀ j, add j ≠ none → o.hide.contains j = false := fun j hj => hoh j (hadd j hj).1
        have key : ∀ s2 : Scope, (∀ j, o.hide.contains j = false → s2 j = s j) → join o.hide s2 (lay (without o.hide s) add) = lay s2 add := by
          intro s2 h2
          funext j
          simp only [join, lay, without]
          by_cases hj : o.hide.contains j = true
          · rw [if_pos hj]
            have : add j = none := by
              cases ha : add j with
              | none => rfl
              | some c => have := hadd2 j (by rw [ha]; simp); rw [hj] at this; cases this
            rw [this]
          · rw [if_neg hj, if_neg hj, h2 j (by simpa using hj)]
        refine ⟨add, by rw [key s (fun _ _ => rfl)], fun j hj => ⟨(hadd j hj).1, ?_⟩, fun e2 s2 h1 h2 => ?_⟩
        · have h3 := (hadd j hj).2
          have h4 := hadd2 j hj
          simp only [without, h4, Bool.false_eq_true, if_false] at h3
          exact h3
        · have hww : without o.hide s2 = without o.hide s := by
            funext j
            simp only [without]
            by_cases hj : o.hide.contains j = true
            · rw [if_pos hj, if_pos hj]
            · rw [if_neg hj, if_neg hj, h2 j (by simpa using hj)]
          obtain ⟨a1, a2⟩ := agree_opds h1
          rw [evV_true (a2 ▸ hw), hww, ← evOp_congr a1, hev]
          simp only [key s2 h2]
      · cases h

/-! ### a load of a block that another operation does not see -/

theorem evOp_len {C : Det.Calls} {o : SOp} {e : Env} {M M' : Mem} {v : AV} (h : evOp C o e M = some (v, M')) : M'.length = M.length := by
  cases o with
  | p o => simp only [evOp] at h; split at h <;> cases h; rfl
  | a id o =>
    simp only [evOp] at h
    split at h
    · split at h
      · rename_i hal; cases h; exact allocTop_len hal
      · cases h
    · cases h
  | r o => simp only [evOp] at h; split at h <;> cases h; rfl
  | w o => exact evW_len h
  | b id o => exact evB_len h
  | call id n q f args =>
    simp only [evOp, callOp] at h
    split at h
    · split at h
      · split at h
        · split at h
          · rename_i hle
            split at h
            · cases h; exact hle.2
            · cases h
          · cases h
        · cases h
      · cases h
    · cases h

theorem evV_hides {C : Det.Calls} {o : SOper} {e : Env} {s : Scope} {M0 M' : Mem} {v : AV} {i : Nat} (hi : o.hide.contains i = true) (h : evV C o e (s :: M0) = some (v, M')) : ∃ s2 M02, M' = s2 :: M02 ∧ M02.length = M0.length ∧ s2 i = s i := by
  cases hw : wants e o.guard with
  | none => unfold evV at h; rw [hw] at h; cases h
  | some b =>
    cases b with
    | false => unfold evV at h; rw [hw] at h; cases h; exact ⟨s, M0, rfl, rfl, rfl⟩
    | true =>
      rw [evV_true hw] at h
      split at h
      · rename_i v1 s' M0' hev
        cases h
        have := evOp_len hev
        refine ⟨_, _, rfl, by simpa using this, ?_⟩
        simp only [join]
        rw [if_pos hi]
      · cases h

theorem evR_loadT {e : Env} {i : Nat} {x : Opd} {s s2 : Scope} {M0 M02 : Mem} (hl : M02.length = M0.length) (hs : s2 i = s i) : evR (.loadT i x) e (s2 :: M02) = evR (.loadT i x) e (s :: M0) := by
  simp only [evR]
  cases opd e x with
  | ptr a =>
    cases a with
    | none => rfl
    | some a =>
      simp only [List.length_cons, hl]
      by_cases hc : a.id = i ∧ a.dep + 1 = M0.length + 1
      · have hd : a.dep = M0.length := by omega
        have hg : get (s2 :: M02) a = get (s :: M0) a := by
          unfold get
          rw [hd, ent_cons_top, ← hl, ent_cons_top, hc.1, hs]
        rw [if_pos hc, if_pos hc, hg]
      · rw [if_neg hc, if_neg hc]
  | _ => rfl

theorem evV_loadT {C : Det.Calls} {o : SOper} {e : Env} {s : Scope} {M0 M' : Mem} {v : AV} {i : Nat} {x : Opd} (ho : o.op = .r (.loadT i x)) (hi : o.hide.contains i = false) (h : evV C o e (s :: M0) = some (v, M')) :
    M' = s :: M0 ∧ ∀ (s2 : Scope) (M02 : Mem), M02.length = M0.length → s2 i = s i → evV C o e (s2 :: M02) = some (v, s2 :: M02) := by
  cases hw : wants e o.guard with
  | none => unfold evV at h; rw [hw] at h; cases h
  | some b =>
    cases b with
    | false =>
      unfold evV at h; rw [hw] at h; cases h
      refine ⟨rfl, fun s2 M02 _ _ => ?_⟩
      unfold evV; rw [hw]
    | true =>
      rw [evV_true hw, ho] at h
      have hj : ∀ s : Scope, join o.hide s (without o.hide s) = s := by
        intro s
        funext j
        simp only [join, without]
        split <;> rfl
      simp only [evOp] at h
      cases hr : evR (.loadT i x) e (without o.hide s :: M0) with
      | none => rw [hr] at h; cases h
      | some u =>
        rw [hr] at h
        simp only [Option.some.injEq, Prod.mk.injEq] at h
        obtain ⟨rfl, rfl⟩ := h
        refine ⟨by rw [hj], fun s2 M02 hl hs => ?_⟩
        rw [evV_true hw, ho]
        simp only [evOp]
        rw [evR_loadT (s := without o.hide s) (M0 := M0) hl (by simp only [without, hi, Bool.false_eq_true, if_false]; exact hs), hr]
        simp only [hj]

/-! ### two operations that commute -/

def apartT (x y : SOper) : Bool :=
  (match x.dst with
   | some d => !y.looks.contains d && y.dst != some d
   | none => true) &&
  (match y.dst with
   | some d => !x.looks.contains d
   | none => true)

def SOper.calm (x : SOper) : Bool := x.op.quiet && x.op.own.all fun j => !x.hide.contains j

/-- A load of a block of the uppermost scope, beside an operation that does not see that block. -/
def topP (x y : SOper) : Bool :=
  match x.op with
  | .r (.loadT i _) => y.hide.contains i && !x.hide.contains i
  | _ => false

def indep (x y : SOper) : Bool :=
  apartT x y && (topP x y || (x.op.pure && x.hide.isEmpty) || (y.op.pure && y.hide.isEmpty) ||
    (x.calm && y.calm && (x.op.own.all fun j => y.hide.contains j) && (y.op.own.all fun j => x.hide.contains j) && (x.op.own.all fun j => !y.op.own.contains j)))

theorem get_setDst {e : Env} {d : Option Nat} {v : AV} {t : Nat} (h : ∀ n, d = some n → t ≠ n) : (setDst e d v).get t = e.get t := by
  cases d with
  | none => rfl
  | some n =>
    have := h n rfl
    simp only [setDst, Env.get]
    rw [List.getElem?_set_ne (fun h => this h.symm)]

theorem setDst_comm {e : Env} {d d' : Option Nat} {v u : AV} (h : ∀ n, d = some n → d' ≠ some n) : setDst (setDst e d v) d' u = setDst (setDst e d' u) d v := by
  cases d with
  | none => rfl
  | some n =>
    cases d' with
    | none => rfl
    | some m =>
      have hne : n ≠ m := fun hh => h n rfl (by rw [hh])
      simp only [setDst]
      exact List.set_comm _ _ hne

theorem pure_any {C : Det.Calls} {x : SOper} {e : Env} {M M' : Mem} {v : AV} (hp : x.op.pure = true) (hh : x.hide = []) (h : evV C x e M = some (v, M')) : M' = M ∧ ∀ M2, evV C x e M2 = some (v, M2) := by
  obtain ⟨dst, guard, hide, op⟩ := x
  simp only at hp hh
  subst hh
  cases op <;> simp only [SOp.pure, Bool.false_eq_true] at hp
  rename_i p
  simp only [evV, evOp] at h ⊢
  split at h
  · rename_i hw
    split at h
    · rename_i u hu
      cases h
      exact ⟨rfl, fun M2 => rfl⟩
    · cases h
  · cases h; exact ⟨rfl, fun M2 => rfl⟩
  · cases h

theorem swap {C : Det.Calls} {x y : SOper} {e e1 e2 : Env} {s : Scope} {M0 M1 M2 : Mem} (hi : indep x y = true) (hx : evOper C x e (s :: M0) = some (e1, M1)) (hy : evOper C y e1 M1 = some (e2, M2)) :
    ∃ e1' M1', evOper C y e (s :: M0) = some (e1', M1') ∧ evOper C x e1' M1' = some (e2, M2) := by
  obtain ⟨vx, hvx, rfl⟩ := evOper_some.1 hx
  obtain ⟨vy, hvy, rfl⟩ := evOper_some.1 hy
  simp only [indep, Bool.and_eq_true] at hi
  obtain ⟨hap, hi⟩ := hi
  have a1 : ∀ t ∈ y.looks, (setDst e x.dst vx).get t = e.get t := by
    intro t ht
    refine get_setDst fun n hn htn => ?_
    subst htn
    simp only [apartT, hn, Bool.and_eq_true, Bool.not_eq_true'] at hap
    have := hap.1.1
    rw [List.contains_eq_mem] at this
    simp [ht] at this
  have a2 : ∀ t ∈ x.looks, e.get t = (setDst e y.dst vy).get t := by
    intro t ht
    refine (get_setDst fun n hn htn => ?_).symm
    subst htn
    simp only [apartT, hn, Bool.and_eq_true, Bool.not_eq_true'] at hap
    have := hap.2
    rw [List.contains_eq_mem] at this
    simp [ht] at this
  have a3 : ∀ n, x.dst = some n → y.dst ≠ some n := by
    intro n hn
    simp only [apartT, hn, Bool.and_eq_true, bne_iff_ne, ne_eq] at hap
    exact hap.1.2
  rw [evV_congr a1] at hvy
  have hcm : setDst (setDst e x.dst vx) y.dst vy = setDst (setDst e y.dst vy) x.dst vx := setDst_comm a3
  rw [hcm]
  simp only [Bool.or_eq_true, Bool.and_eq_true] at hi
  rcases hi with ((htop | ⟨hp, hh⟩) | ⟨hp, hh⟩) | hi
  · unfold topP at htop
    split at htop
    · rename_i i xo hxo
      simp only [Bool.and_eq_true, Bool.not_eq_true'] at htop
      obtain ⟨rfl, hall⟩ := evV_loadT hxo htop.2 hvx
      obtain ⟨s2, M02, rfl, hl2, hi2⟩ := evV_hides htop.1 hvy
      refine ⟨_, _, evOper_some.2 ⟨vy, hvy, rfl⟩, evOper_some.2 ⟨vx, ?_, rfl⟩⟩
      rw [← evV_congr a2]
      exact hall s2 M02 hl2 hi2
    · cases htop
  · have hh' : x.hide = [] := by simpa using hh
    obtain ⟨rfl, hall⟩ := pure_any hp hh' hvx
    refine ⟨_, _, evOper_some.2 ⟨vy, hvy, rfl⟩, evOper_some.2 ⟨vx, ?_, rfl⟩⟩
    rw [← evV_congr a2]
    exact hall M2
  · have hh' : y.hide = [] := by simpa using hh
    obtain ⟨rfl, hall⟩ := pure_any hp hh' hvy
    refine ⟨_, _, evOper_some.2 ⟨vy, hall (s :: M0), rfl⟩, evOper_some.2 ⟨vx, ?_, rfl⟩⟩
    rw [← evV_congr a2]
    exact hvx
  · obtain ⟨⟨⟨⟨cx, cy⟩, hxy⟩, hyx⟩, hdis⟩ := hi
    simp only [SOper.calm, Bool.and_eq_true, List.all_eq_true, Bool.not_eq_true'] at cx cy
    simp only [List.all_eq_true, Bool.not_eq_true'] at hxy hyx hdis
    obtain ⟨ax, hMx, hax, hlx⟩ := evV_quiet cx.1 cx.2 hvx
    subst hMx
    obtain ⟨ay, hMy, hay, hly⟩ := evV_quiet cy.1 cy.2 hvy
    subst hMy
    have y1 := hly e s (fun _ _ => rfl) (fun j hj => by
      simp only [lay]
      cases ha : ax j with
      | none => rfl
      | some c => have := hxy j (hax j (by rw [ha]; simp)).1; rw [hj] at this; cases this)
    refine ⟨_, _, evOper_some.2 ⟨vy, y1, rfl⟩, evOper_some.2 ⟨vx, ?_, rfl⟩⟩
    have x1 := hlx (setDst e y.dst vy) (lay s ay) a2 (fun j hj => by
      simp only [lay]
      cases ha : ay j with
      | none => rfl
      | some c => have := hyx j (hay j (by rw [ha]; simp)).1; rw [hj] at this; cases this)
    rw [x1]
    congr 3
    funext j
    simp only [lay]
    cases hx1 : ax j with
    | none => cases hy1 : ay j <;> rfl
    | some c =>
      cases hy1 : ay j with
      | none => rfl
      | some c' =>
        have b1 := (hax j (by rw [hx1]; simp)).1
        have b2 := (hay j (by rw [hy1]; simp)).1
        have := hdis j b1
        rw [List.contains_eq_mem] at this
        simp [b2] at this

theorem evOper_ne {C : Det.Calls} {o : SOper} {e e' : Env} {s : Scope} {M0 M' : Mem} (h : evOper C o e (s :: M0) = some (e', M')) : ∃ s' M0', M' = s' :: M0' := by
  obtain ⟨v, hv, _⟩ := evOper_some.1 h
  exact evV_ne hv

theorem evOps_cons {C : Det.Calls} {o : SOper} {l : List SOper} {e : Env} {M : Mem} {r : Env × Mem} : evOps C (o :: l) e M = some r ↔ ∃ e1 M1, evOper C o e M = some (e1, M1) ∧ evOps C l e1 M1 = some r := by
  simp only [evOps]
  cases h : evOper C o e M with
  | none => simp
  | some p =>
    obtain ⟨e1, M1⟩ := p
    constructor
    · intro h; exact ⟨e1, M1, rfl, h⟩
    · rintro ⟨e2, M2, h1, h2⟩; cases h1; exact h2

theorem to_front {C : Det.Calls} {y : SOper} {t2 : List SOper} {r : Env × Mem} : ∀ (t1 : List SOper) (e : Env) (s : Scope) (M0 : Mem), (∀ k ∈ t1, indep k y = true) → evOps C (t1 ++ y :: t2) e (s :: M0) = some r →
    ∃ e1 M1, evOper C y e (s :: M0) = some (e1, M1) ∧ evOps C (t1 ++ t2) e1 M1 = some r
  | [], e, s, M0, _, h => evOps_cons.1 h
  | x :: t1, e, s, M0, hi, h => by
    obtain ⟨ex, Mx, hx, h1⟩ := evOps_cons.1 h
    obtain ⟨sx, Mx0, rfl⟩ := evOper_ne hx
    obtain ⟨e1, M1, hy, h2⟩ := to_front t1 ex sx Mx0 (fun k hk => hi k (by simp [hk])) h1
    obtain ⟨e1', M1', hy', hx'⟩ := swap (hi x (by simp)) hx hy
    exact ⟨e1', M1', hy', evOps_cons.2 ⟨e1, M1, hx', h2⟩⟩

/-! ### operations that look at a few blocks only -/

/-- The temporaries that name the blocks at which an operation looks; 'none': it may look at others. -/
def SOp.addrs : SOp → Option (List Nat)
  | .r (.load1 (.t n)) => some [n]
  | .r (.loadN _ (.t n)) => some [n]
  | .w (.store1 (.t n) _) => some [n]
  | .w (.storeN _ (.t n) _) => some [n]
  | .w (.append _ _ _ (.t n) (.t m)) => some [n, m]
  | .a _ _ => some []
  | _ => none

def foot (op : SOp) (e : Env) (l : List Nat) (d b i : Nat) : Prop := (∃ n ∈ l, adr (e.get n) = some (b, i)) ∨ (b = d ∧ i ∈ op.own)

theorem mem_ext : ∀ {M M2 : Mem}, M.length = M2.length → (∀ b i, ent M b i = ent M2 b i) → M = M2
  | [], [], _, _ => rfl
  | [], _ :: _, h, _ => by simp at h
  | _ :: _, [], h, _ => by simp at h
  | s :: M, s2 :: M2, hl, h => by
    have hl' : M.length = M2.length := by simpa using hl
    have h1 : s = s2 := by
      funext i
      have := h M.length i
      rw [ent_cons_top] at this
      rw [this, hl', ent_cons_top]
    have h2 : M = M2 := mem_ext hl' fun b i => by
      by_cases hb : b = M.length
      · have e1 : ent M b i = none := by
          cases he : ent M b i with
          | none => rfl
          | some c => have := ent_lt (M := M) (e := b) (id := i) (by rw [he]; simp); omega
        have e2 : ent M2 b i = none := by
          cases he : ent M2 b i with
          | none => rfl
          | some c => have := ent_lt (M := M2) (e := b) (id := i) (by rw [he]; simp); omega
        rw [e1, e2]
      · have := h b i
        rwa [ent_cons_old hb, ent_cons_old (by omega)] at this
    rw [h1, h2]

theorem get_congr {M M2 : Mem} {a : AAddr} (h : ent M a.dep a.id = ent M2 a.dep a.id) : get M a = get M2 a := by
  unfold get; rw [h]

theorem get_lt' {M : Mem} {a : AAddr} {c : Con} (h : get M a = some c) : a.dep < M.length := by
  unfold get at h
  split at h
  · rename_i c1 hc; exact ent_lt (by rw [hc]; simp)
  · cases h

/-- What a local operation does in one memory it does in another one that is alike where it looks. -/
def Loc (K : Nat → Nat → Prop) (M M2 M' M2' : Mem) : Prop :=
  M'.length = M.length ∧ M2'.length = M2.length ∧ (∀ b i, K b i → ent M' b i = ent M2' b i) ∧ ∀ b i, ¬ K b i → ent M' b i = ent M b i ∧ ent M2' b i = ent M2 b i

theorem Loc.same {K : Nat → Nat → Prop} {M M2 : Mem} (h : ∀ b i, K b i → ent M b i = ent M2 b i) : Loc K M M2 M M2 := ⟨rfl, rfl, h, fun _ _ _ => ⟨rfl, rfl⟩⟩

theorem Loc.put {K : Nat → Nat → Prop} {M M2 : Mem} {d id : Nat} {x : Con} (hl : M2.length = M.length) (h : ∀ b i, K b i → ent M b i = ent M2 b i) (hk : K d id) (hd : d < M.length) : Loc K M M2 (put M d id x) (put M2 d id x) := by
  refine ⟨put_length, put_length, fun b i hb => ?_, fun b i hb => ?_⟩
  · rw [ent_put hd, ent_put (by omega), h b i hb]
  · have : ¬ (b = d ∧ i = id) := fun hh => hb (by rw [hh.1, hh.2]; exact hk)
    rw [ent_put hd, ent_put (by omega), if_neg this, if_neg this]
    exact ⟨rfl, rfl⟩

theorem Loc.alloc {K : Nat → Nat → Prop} {s s2 : Scope} {M M2 M' : Mem} {id : Nat} {c : Con} {a : AAddr} (hl : M2.length = M.length) (h : ∀ b i, K b i → ent (s :: M) b i = ent (s2 :: M2) b i) (hk : K M.length id) (ha : allocTop id c (s :: M) = some (a, M')) :
    ∃ M2', allocTop id c (s2 :: M2) = some (a, M2') ∧ Loc K (s :: M) (s2 :: M2) M' M2' := by
  have h0 := h _ _ hk
  rw [ent_cons_top] at h0
  have h1 : ent (s2 :: M2) M.length id = s2 id := by rw [← hl, ent_cons_top]
  rw [h1] at h0
  simp only [allocTop] at ha ⊢
  rw [← h0]
  cases hs : s id with
  | some c => rw [hs] at ha; cases ha
  | none =>
    rw [hs] at ha
    simp only [Option.some.injEq, Prod.mk.injEq] at ha
    obtain ⟨rfl, rfl⟩ := ha
    refine ⟨_, by rw [hl], by simp, by simp, fun b i hb => ?_, fun b i hb => ?_⟩
    · have := h b i hb
      simp only [ent, setAt] at this ⊢
      by_cases hb2 : b = M.length
      · have hb3 : b = M2.length := by omega
        simp only [if_pos hb2, if_pos hb3] at this ⊢
        split
        · rfl
        · exact this
      · have hb3 : b ≠ M2.length := by omega
        simp only [if_neg hb2, if_neg hb3] at this ⊢
        exact this
    · simp only [ent, setAt]
      by_cases hb2 : b = M.length
      · have : i ≠ id := fun hh => hb (by rw [hb2, hh]; exact hk)
        have hb3 : b = M2.length := by omega
        simp only [if_pos hb2, if_pos hb3, if_neg this, and_self]
      · have hb3 : b ≠ M2.length := by omega
        simp only [if_neg hb2, if_neg hb3, and_self]

theorem opd_t (e : Env) (n : Nat) : opd e (.t n) = e.get n := rfl

theorem loc_op {C : Det.Calls} {op : SOp} {e : Env} {s s2 : Scope} {M0 M02 M' : Mem} {v : AV} {l : List Nat} (ha : op.addrs = some l) (hl : M02.length = M0.length)
    (hK : ∀ b i, foot op e l M0.length b i → ent (s :: M0) b i = ent (s2 :: M02) b i) (h : evOp C op e (s :: M0) = some (v, M')) :
    ∃ M2', evOp C op e (s2 :: M02) = some (v, M2') ∧ Loc (foot op e l M0.length) (s :: M0) (s2 :: M02) M' M2' := by
  have hlen : (s2 :: M02).length = (s :: M0).length := by simp [hl]
  have hget : ∀ n a, n ∈ l → adr (e.get n) = some (a.dep, a.id) → get (s2 :: M02) a = get (s :: M0) a := fun n a hn hna => (get_congr (hK _ _ (.inl ⟨n, hn, hna⟩))).symm
  unfold SOp.addrs at ha
  split at ha
  · rename_i n
    cases ha
    simp only [evOp, evR, opd_t] at h ⊢
    split at h
    · rename_i u hu
      cases h
      split at hu
      · rename_i a hna
        rw [hget n a (by simp) (by rw [hna]; rfl), hu]
        exact ⟨_, rfl, Loc.same hK⟩
      · cases hu
    · cases h
  · rename_i k n
    cases ha
    simp only [evOp, evR, opd_t] at h ⊢
    split at h
    · rename_i u hu
      cases h
      split at hu
      · rename_i a hna
        rw [hget n a (by simp) (by rw [hna]; rfl), hu]
        exact ⟨_, rfl, Loc.same hK⟩
      · cases hu
    · cases h
  · rename_i n x
    cases ha
    simp only [evOp, evW, opd_t] at h ⊢
    split at h
    · rename_i a hna
      have hna' : adr (e.get n) = some (a.dep, a.id) := by rw [hna]; rfl
      rw [hget n a (by simp) hna']
      split at h
      · rename_i c fl hg
        split at h
        · rename_i hc
          cases h
          refine ⟨_, if_pos hc, Loc.put hlen hK (.inl ⟨n, by simp, hna'⟩) (get_lt' hg)⟩
        · cases h
      · cases h
    · cases h
  · rename_i k n x
    cases ha
    simp only [evOp, evW, opd_t] at h ⊢
    split at h
    · rename_i a hna
      have hna' : adr (e.get n) = some (a.dep, a.id) := by rw [hna]; rfl
      rw [hget n a (by simp) hna']
      split at h
      · rename_i c fl hg
        split at h
        · rename_i cs hcs
          split at h
          · rename_i hc
            cases h
            refine ⟨_, if_pos hc, Loc.put hlen hK (.inl ⟨n, by simp, hna'⟩) (get_lt' hg)⟩
          · cases h
        · cases h
      · cases h
    · cases h
  · rename_i id esz bytes n m
    cases ha
    simp only [evOp, evW, opd_t] at h ⊢
    have hsrc : ∀ k z, srcCells (s2 :: M02) k z (e.get m) = srcCells (s :: M0) k z (e.get m) := by
      intro k z
      unfold srcCells
      split
      · rename_i a x y hm
        rw [hget m a (by simp) (by rw [hm]; rfl)]
      all_goals rfl
    have hk : foot (.w (.append id esz bytes (.t n) (.t m))) e [n, m] M0.length M0.length id := .inr ⟨rfl, by simp [SOp.own]⟩
    simp only [hsrc]
    split at h
    · cases h
    · rename_i k hk1
      split at h
      · cases h
      · rename_i new hnew
        split at h
        · split at h
          · rename_i h0; cases h; exact ⟨_, if_pos h0, Loc.same hK⟩
          · rename_i h0
            rw [if_neg h0]
            split at h
            · rename_i h1
              rw [if_pos h1]
              split at h
              · rename_i a M1 hal
                cases h
                obtain ⟨M2', q1, q2⟩ := Loc.alloc hl hK hk hal
                exact ⟨M2', by rw [q1], q2⟩
              · cases h
            · cases h
        · split at h
          · rename_i h0; cases h; exact ⟨_, if_pos h0, Loc.same hK⟩
          · rename_i h0
            rw [if_neg h0]
            split at h
            · rename_i h1
              rw [if_pos h1]
              split at h
              · rename_i a M1 hal
                cases h
                obtain ⟨M2', q1, q2⟩ := Loc.alloc hl hK hk hal
                exact ⟨M2', by rw [q1], q2⟩
              · cases h
            · cases h
        · rename_i a k2 z hna
          have hna' : adr (e.get n) = some (a.dep, a.id) := by rw [hna]; rfl
          rw [hget n a (by simp) hna']
          split at h
          · rename_i c fl hg
            split at h
            · rename_i hc
              cases h
              refine ⟨_, if_pos hc, Loc.put hlen hK (.inl ⟨n, by simp, hna'⟩) (get_lt' hg)⟩
            · cases h
          · cases h
        · cases h
  · rename_i id o
    cases ha
    simp only [evOp] at h ⊢
    split at h
    · rename_i c f hcf
      split at h
      · rename_i a M1 hal
        cases h
        obtain ⟨M2', q1, q2⟩ := Loc.alloc hl hK (.inr ⟨rfl, by simp [SOp.own]⟩) hal
        exact ⟨M2', by rw [q1], q2⟩
      · cases h
    · cases h
  · cases ha

def footH (o : SOper) (e : Env) (l : List Nat) (d b i : Nat) : Prop := foot o.op e l d b i ∧ ¬ (b = d ∧ o.hide.contains i = true)

theorem loc_evV {C : Det.Calls} {o : SOper} {e : Env} {s s2 : Scope} {M0 M02 M' : Mem} {v : AV} {l : List Nat} (ha : o.op.addrs = some l) (hl : M02.length = M0.length)
    (hK : ∀ b i, footH o e l M0.length b i → ent (s :: M0) b i = ent (s2 :: M02) b i) (h : evV C o e (s :: M0) = some (v, M')) :
    ∃ M2', evV C o e (s2 :: M02) = some (v, M2') ∧ Loc (footH o e l M0.length) (s :: M0) (s2 :: M02) M' M2' := by
  cases hw : wants e o.guard with
  | none => unfold evV at h; rw [hw] at h; cases h
  | some b =>
    cases b with
    | false =>
      unfold evV at h ⊢
      rw [hw] at h ⊢
      cases h
      exact ⟨_, rfl, Loc.same hK⟩
    | true =>
      rw [evV_true hw] at h ⊢
      split at h
      · rename_i v1 s' M0' hev
        cases h
        obtain ⟨M2', q1, q2, q3, q4, q5⟩ := loc_op (s2 := without o.hide s2) (M02 := M02) ha hl (fun b i hb => by
          rw [ent_without, ent_without, hl]
          by_cases hh : b = M0.length ∧ o.hide.contains i = true
          · rw [if_pos hh, if_pos hh]
          · rw [if_neg hh, if_neg hh]; exact hK b i ⟨hb, hh⟩) hev
        have hne : ∃ s2' M02', M2' = s2' :: M02' := by
          cases M2' with
          | nil => simp at q3
          | cons a b => exact ⟨_, _, rfl⟩
        obtain ⟨s2', M02', rfl⟩ := hne
        have l1 : M0'.length = M0.length := by simpa using q2
        have l2 : M02'.length = M02.length := by simpa using q3
        rw [q1]
        refine ⟨_, rfl, by simp [l1], by simp [l2], fun b i hb => ?_, fun b i hb => ?_⟩
        · rw [ent_join, ent_join, l1, l2, hl, if_neg hb.2, if_neg hb.2]
          exact q4 b i hb.1
        · rw [ent_join, ent_join, l1, l2, hl]
          by_cases hh : b = M0.length ∧ o.hide.contains i = true
          · rw [if_pos hh, if_pos hh, hh.1, ent_cons_top, ← hl, ent_cons_top]
            exact ⟨rfl, rfl⟩
          · rw [if_neg hh, if_neg hh]
            have hf : ¬ foot o.op e l M0.length b i := fun hf => hb ⟨hf, hh⟩
            obtain ⟨r1, r2⟩ := q5 b i hf
            rw [ent_without, if_neg hh] at r1
            rw [ent_without, hl, if_neg hh] at r2
            exact ⟨r1, r2⟩
      · cases h

theorem apartO_ne {v w : AV} {p : Nat × Nat} (h : apartO v w = true) (hv : adr v = some p) (hw : adr w = some p) : False := by
  unfold apartO at h
  rw [hv, hw] at h
  simp at h

/-- Two local operations at unlike blocks. -/
theorem swapL {C : Det.Calls} {x y : SOper} {lx ly : List Nat} {e e1 e2 : Env} {s : Scope} {M0 M1 M2 : Mem} (hap : apartT x y = true) (hax : x.op.addrs = some lx) (hay : y.op.addrs = some ly)
    (hox : ∀ j ∈ x.op.own, y.hide.contains j = true) (hoy : ∀ j ∈ y.op.own, x.hide.contains j = true) (hfar : ∀ a ∈ lx, ∀ b ∈ ly, apartO (e.get a) (e.get b) = true)
    (hx : evOper C x e (s :: M0) = some (e1, M1)) (hy : evOper C y e1 M1 = some (e2, M2)) : ∃ e1' M1', evOper C y e (s :: M0) = some (e1', M1') ∧ evOper C x e1' M1' = some (e2, M2) := by
  obtain ⟨vx, hvx, rfl⟩ := evOper_some.1 hx
  obtain ⟨vy, hvy, rfl⟩ := evOper_some.1 hy
  have a1 : ∀ t ∈ y.looks, (setDst e x.dst vx).get t = e.get t := by
    intro t ht
    refine get_setDst fun n hn htn => ?_
    subst htn
    simp only [apartT, hn, Bool.and_eq_true, Bool.not_eq_true'] at hap
    have := hap.1.1
    rw [List.contains_eq_mem] at this
    simp [ht] at this
  have a2 : ∀ t ∈ x.looks, e.get t = (setDst e y.dst vy).get t := by
    intro t ht
    refine (get_setDst fun n hn htn => ?_).symm
    subst htn
    simp only [apartT, hn, Bool.and_eq_true, Bool.not_eq_true'] at hap
    have := hap.2
    rw [List.contains_eq_mem] at this
    simp [ht] at this
  have a3 : ∀ n, x.dst = some n → y.dst ≠ some n := by
    intro n hn
    simp only [apartT, hn, Bool.and_eq_true, bne_iff_ne, ne_eq] at hap
    exact hap.1.2
  rw [evV_congr a1] at hvy
  have hcm : setDst (setDst e x.dst vx) y.dst vy = setDst (setDst e y.dst vy) x.dst vx := setDst_comm a3
  rw [hcm]
  have dis : ∀ b i, footH x e lx M0.length b i → footH y e ly M0.length b i → False := by
    rintro b i ⟨hx1, hx2⟩ ⟨hy1, hy2⟩
    rcases hx1 with ⟨n, hn, hna⟩ | ⟨hb, hi⟩
    · rcases hy1 with ⟨m, hm, hma⟩ | ⟨hb, hi⟩
      · exact apartO_ne (hfar n hn m hm) hna hma
      · exact hx2 ⟨hb, hoy i hi⟩
    · exact hy2 ⟨hb, hox i hi⟩
  obtain ⟨s1, M01, rfl⟩ := evV_ne hvx
  obtain ⟨_, hvx0, q1, _, _, q4⟩ := loc_evV (s2 := s) (M02 := M0) hax rfl (fun _ _ _ => rfl) hvx
  have l1 : M01.length = M0.length := by simpa using q1
  have hKy : ∀ b i, footH y e ly M01.length b i → ent (s1 :: M01) b i = ent (s :: M0) b i := fun b i hb => by
    rw [l1] at hb
    exact (q4 b i fun hx => dis b i hx hb).1
  obtain ⟨M1', hy', r1, r2, r3, r4⟩ := loc_evV (s2 := s) (M02 := M0) hay l1.symm hKy hvy
  rw [l1] at r3 r4
  obtain ⟨s1', M01', rfl⟩ := evV_ne hy'
  have l2 : M01'.length = M0.length := by simpa using r2
  have hKx : ∀ b i, footH x e lx M0.length b i → ent (s :: M0) b i = ent (s1' :: M01') b i := fun b i hb => ((r4 b i fun hy => dis b i hb hy).2).symm
  obtain ⟨M2x, hx', t1, t2, t3, t4⟩ := loc_evV (s2 := s1') (M02 := M01') hax l2 hKx hvx
  refine ⟨_, _, evOper_some.2 ⟨vy, hy', rfl⟩, evOper_some.2 ⟨vx, ?_, rfl⟩⟩
  rw [← evV_congr a2, hx']
  congr 2
  refine mem_ext (by rw [t2, r1]; simp [l1, l2]) fun b i => ?_
  by_cases hbx : footH x e lx M0.length b i
  · rw [← t3 b i hbx, (r4 b i fun hy => dis b i hbx hy).1]
  · rw [(t4 b i hbx).2]
    by_cases hby : footH y e ly M0.length b i
    · rw [← r3 b i hby]
    · rw [(r4 b i hby).2, (r4 b i hby).1, (q4 b i hbx).1]

/-- A pair of local operations whose blocks are told apart at the end. -/
def locPair (far : List (Nat × Nat)) (x y : SOper) : Bool :=
  match x.op.addrs, y.op.addrs with
  | some lx, some ly => apartT x y && (x.op.own.all fun j => y.hide.contains j) && (y.op.own.all fun j => x.hide.contains j) && (lx.all fun a => ly.all fun b => far.contains (a, b))
  | _, _ => false

def SOp.addrsL (o : SOp) : List Nat := o.addrs.getD []

/-- No temporary that names a block is written once an operation looks at it. -/
def steady : List SOper → Bool
  | [] => true
  | x :: l => (x.op.addrsL.all fun a => x.dst != some a && l.all fun z => z.dst != some a) && steady l

theorem steady_cons {x : SOper} {l : List SOper} (h : steady (x :: l) = true) : (∀ a ∈ x.op.addrsL, x.dst ≠ some a ∧ ∀ z ∈ l, z.dst ≠ some a) ∧ steady l = true := by
  simp only [steady, Bool.and_eq_true, List.all_eq_true, bne_iff_ne, ne_eq] at h
  exact h

theorem steady_sub {l m : List SOper} (hs : List.Sublist l m) (h : steady m = true) : steady l = true := by
  induction hs with
  | slnil => rfl
  | cons x _ ih => exact ih (steady_cons h).2
  | cons_cons x hs ih =>
    obtain ⟨h1, h2⟩ := steady_cons h
    simp only [steady, Bool.and_eq_true, List.all_eq_true, bne_iff_ne, ne_eq]
    exact ⟨fun a ha => ⟨(h1 a ha).1, fun z hz => (h1 a ha).2 z (hs.subset hz)⟩, ih h2⟩

theorem evOper_get {C : Det.Calls} {o : SOper} {e e' : Env} {M M' : Mem} {t : Nat} (h : evOper C o e M = some (e', M')) (ht : o.dst ≠ some t) : e'.get t = e.get t := by
  obtain ⟨v, _, rfl⟩ := evOper_some.1 h
  exact get_setDst fun n hn htn => ht (by rw [hn, htn])

theorem evOps_get {C : Det.Calls} {t : Nat} : ∀ {l : List SOper} {e : Env} {M : Mem} {r : Env × Mem}, evOps C l e M = some r → (∀ o ∈ l, o.dst ≠ some t) → r.1.get t = e.get t
  | [], e, M, r, h, _ => by simp only [evOps, Option.some.injEq] at h; subst h; rfl
  | o :: l, e, M, r, h, hn => by
    obtain ⟨e1, M1, h1, h2⟩ := evOps_cons.1 h
    rw [evOps_get h2 fun o ho => hn o (by simp [ho]), evOper_get h1 (hn o (by simp))]

theorem apartT_dst {x y : SOper} {t : Nat} (h : apartT x y = true) (ht : t ∈ y.looks) : x.dst ≠ some t := by
  intro hd
  simp only [apartT, hd, Bool.and_eq_true, Bool.not_eq_true'] at h
  have := h.1.1
  rw [List.contains_eq_mem] at this
  simp [ht] at this

theorem addrs_looks {o : SOper} {l : List Nat} (h : o.op.addrs = some l) : ∀ a ∈ l, a ∈ o.looks := by
  intro a ha
  refine List.mem_append_left _ (List.mem_filterMap.2 ⟨.t a, ?_, rfl⟩)
  generalize o.op = op at h
  unfold SOp.addrs at h
  split at h <;> first | (cases h; done) | (cases h; simp [SOp.opds, ROp.opds, WOp.opds] at ha ⊢; first | done | exact ha | (rcases ha with rfl | rfl <;> simp) | omega | exact .inl ha.symm) | (cases h; simp at ha)

theorem to_frontL {C : Det.Calls} {far : List (Nat × Nat)} {y : SOper} {t2 : List SOper} {r : Env × Mem} (hfar : farOk r.1 far = true) : ∀ (t1 : List SOper) (e : Env) (s : Scope) (M0 : Mem), (∀ k ∈ t1, indep k y = true ∨ locPair far k y = true) → steady (t1 ++ y :: t2) = true →
    evOps C (t1 ++ y :: t2) e (s :: M0) = some r → ∃ e1 M1, evOper C y e (s :: M0) = some (e1, M1) ∧ evOps C (t1 ++ t2) e1 M1 = some r
  | [], e, s, M0, _, _, h => evOps_cons.1 h
  | x :: t1, e, s, M0, hi, hst, h => by
    obtain ⟨ex, Mx, hx, h1⟩ := evOps_cons.1 h
    obtain ⟨sx, Mx0, rfl⟩ := evOper_ne hx
    obtain ⟨st1, st2⟩ := steady_cons hst
    obtain ⟨e1, M1, hy, h2⟩ := to_frontL hfar t1 ex sx Mx0 (fun k hk => hi k (by simp [hk])) st2 h1
    have hsw : ∃ e1' M1', evOper C y e (s :: M0) = some (e1', M1') ∧ evOper C x e1' M1' = some (e1, M1) := by
      rcases hi x (by simp) with hxy | hxy
      · exact swap hxy hx hy
      · unfold locPair at hxy
        split at hxy
        · rename_i lx ly hax hay
          simp only [Bool.and_eq_true, List.all_eq_true] at hxy
          obtain ⟨⟨⟨p1, p2⟩, p3⟩, p4⟩ := hxy
          refine swapL p1 hax hay p2 p3 (fun a ha b hb => ?_) hx hy
          have hf := p4 a ha b hb
          rw [List.contains_iff_mem] at hf
          have hf2 := List.all_eq_true.1 hfar _ hf
          simp only at hf2
          have ga : r.1.get a = e.get a := by
            obtain ⟨n1, n2⟩ := st1 a (by simp [SOp.addrsL, hax]; exact ha)
            rw [evOps_get h2 (fun o ho => n2 o (by
              rcases List.mem_append.1 ho with ho | ho
              · simp [ho]
              · simp [ho])), evOper_get hy (n2 y (by simp)), evOper_get hx n1]
          have gb : r.1.get b = e.get b := by
            have hlk := addrs_looks hay b hb
            have hsuf : steady (y :: t2) = true := steady_sub (List.sublist_append_right _ _) st2
            obtain ⟨m1, _⟩ := steady_cons hsuf
            obtain ⟨n1, n2⟩ := m1 b (by simp [SOp.addrsL, hay]; exact hb)
            rw [evOps_get h2 (fun o ho => by
              rcases List.mem_append.1 ho with ho | ho
              · have hap : apartT o y = true := by
                  rcases hi o (by simp [ho]) with hh | hh
                  · simp only [indep, Bool.and_eq_true] at hh; exact hh.1
                  · unfold locPair at hh
                    split at hh
                    · simp only [Bool.and_eq_true] at hh; exact hh.1.1.1
                    · cases hh
                exact apartT_dst hap hlk
              · exact n2 o ho), evOper_get hy n1, evOper_get hx (apartT_dst p1 hlk)]
          rw [ga, gb] at hf2
          exact hf2
        · cases hxy
    obtain ⟨e1', M1', hy', hx'⟩ := hsw
    exact ⟨e1', M1', hy', evOps_cons.2 ⟨e1, M1, hx', h2⟩⟩

end Go.Det

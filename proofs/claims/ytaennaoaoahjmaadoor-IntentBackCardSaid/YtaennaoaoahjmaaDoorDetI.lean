/-
  DET, part I: the state of a call; an operation under its guard, beside what it must not see; operations that commute.
-/
import Derived.Test.YtaennaoaoahjmaaDoorDetH
set_option linter.unusedSimpArgs false
set_option linter.unusedVariables false
namespace Go.Det

/-- The state of a call: how it stands to the state in which it began. -/
structure St (P : Program) (M0 : Mem) (γ0 : Gam) (w0 : World) (e : Env) (M : Mem) (γ : Gam) (a : Act) (w : World) : Prop where
  mrel : MRel M γ w
  grel : GRel P γ
  erel : ERel γ e a.tmps
  dom : DomH (fun _ => False) M γ
  stp : Stp (fun e _ => e = M0.length) (mk [] :: M0) γ0 w0 M γ w
  defers : a.defers = []

theorem St.len {P : Program} {M0 M : Mem} {γ0 γ : Gam} {w0 w : World} {e : Env} {a : Act} (h : St P M0 γ0 w0 e M γ a w) : M.length = M0.length + 1 := by
  have := h.stp.len; simpa using this

theorem St.cons {P : Program} {M0 M : Mem} {γ0 γ : Gam} {w0 w : World} {e : Env} {a : Act} (h : St P M0 γ0 w0 e M γ a w) : ∃ s M1, M = s :: M1 ∧ M1.length = M0.length := by
  have := h.len
  cases M with
  | nil => simp at this
  | cons s M1 => exact ⟨s, M1, rfl, by simpa using this⟩

theorem put_tmps (a : Act) (dst : Option Nat) (r : Value) (ha : a.defers = []) : a.put dst r = ({ tmps := a.tmps, defers := [] } : Act).put dst r := by
  cases a; simp at ha; subst ha; rfl

theorem St.step {P : Program} {M0 M1 M' : Mem} {s : Scope} {γ0 γ γ' : Gam} {w0 w w' : World} {e : Env} {a : Act} {v : AV} {r : Value} {base : Nat}
    (h : St P M0 γ0 w0 e (s :: M1) γ a w) (hv : VRel γ' v r) (hm : MRel M' γ' w') (hs : Stp (fun e id => e = M1.length ∧ Own base id) (s :: M1) γ w M' γ' w') (dst : Option Nat) :
    St P M0 γ0 w0 (setDst e dst v) M' γ' (a.put dst r) w' := by
  have hl : M1.length = M0.length := by have := h.len; simpa using this
  refine ⟨hm, h.grel.ext hs.toExt, ?_, fun e' id hne => ?_, h.stp.trans (stp_own (fun e i hh => by rw [← hl]; exact hh.1) hs), ?_⟩
  · rw [put_tmps a dst r h.defers]
    exact (h.erel.ext hs.toExt).put hv dst
  · cases hg : γ e' id with
    | none =>
      have h1 := hs.newM e' id hg hne
      exact ⟨ent_lt h1, fun _ => .inl h1⟩
    | some g =>
      obtain ⟨d1, d2⟩ := h.dom e' id (by rw [hg]; simp)
      refine ⟨by rw [hs.len]; exact d1, fun he => ?_⟩
      rw [hs.len] at he
      rcases d2 he with h1 | h1
      · cases hc : ent (s :: M1) e' id with
        | none => exact absurd hc h1
        | some c => obtain ⟨c', hc', _⟩ := hs.rwk e' id c hc; left; rw [hc']; simp
      · exact h1.elim
  · cases dst <;> simpa [Act.put] using h.defers

/-! ### hidden blocks -/

theorem ent_without {h : List Nat} {s : Scope} {M0 : Mem} (e i : Nat) : ent (without h s :: M0) e i = if e = M0.length ∧ h.contains i = true then none else ent (s :: M0) e i := by
  simp only [ent, without]
  by_cases he : e = M0.length
  · simp only [he, if_true, true_and]
  · simp only [he, if_false, false_and]

theorem ent_join {h : List Nat} {s s' : Scope} {M0 : Mem} (e i : Nat) : ent (join h s s' :: M0) e i = if e = M0.length ∧ h.contains i = true then s i else ent (s' :: M0) e i := by
  simp only [ent, join]
  by_cases he : e = M0.length
  · simp only [he, if_true, true_and]
  · simp only [he, if_false, false_and]

theorem mrel_without {h : List Nat} {s : Scope} {M0 : Mem} {γ : Gam} {w : World} (hM : MRel (s :: M0) γ w) : MRel (without h s :: M0) γ w := by
  have key : ∀ {e i c}, ent (without h s :: M0) e i = some c → ent (s :: M0) e i = some c := by
    intro e i c hc
    rw [ent_without] at hc
    split at hc
    · cases hc
    · exact hc
  exact ⟨fun e i c hc => hM.ent e i c (key hc), fun e i c e' i' c' g g' h1 h2 h3 => hM.inj e i c e' i' c' g g' (key h1) h2 (key h3), hM.bnd⟩

theorem unhide_step {h : List Nat} {s s' : Scope} {M0 M0' : Mem} {γ γ' : Gam} {w w' : World} {own : Nat → Nat → Prop} (hM : MRel (s :: M0) γ w) (hM1 : MRel (s' :: M0') γ' w')
    (hS : Stp own (without h s :: M0) γ w (s' :: M0') γ' w') (hown : ∀ i, own M0.length i → h.contains i = false) :
    MRel (join h s s' :: M0') γ' w' ∧ Stp own (s :: M0) γ w (join h s s' :: M0') γ' w' := by
  have hlen : M0'.length = M0.length := by have := hS.len; simpa using this
  have hW := fun e i => ent_without (h := h) (s := s) (M0 := M0) e i
  have hJ : ∀ e i, ent (join h s s' :: M0') e i = if e = M0.length ∧ h.contains i = true then s i else ent (s' :: M0') e i := fun e i => by rw [ent_join, hlen]
  have hs : ∀ e i, e = M0.length → ent (s :: M0) e i = s i := fun e i he => by subst he; exact ent_cons_top
  -- a hidden block stands as it stood
  have hid : ∀ e i c, e = M0.length ∧ h.contains i = true → s i = some c → ∃ g, γ e i = some g ∧ γ' e i = some g ∧ CRel γ e c g w ∧ w'.heap[g.b]? = w.heap[g.b]? := by
    intro e i c hh hc
    have hc' : ent (s :: M0) e i = some c := by rw [hs e i hh.1]; exact hc
    obtain ⟨g, hg, hcr⟩ := hM.ent e i c hc'
    have h1 := hS.hid e i (by rw [hW, if_pos hh]) (by rw [hg]; simp)
    refine ⟨g, hg, by rw [h1, hg], hcr, hS.frame _ (hM.bnd _ _ _ hg).1 fun e2 i2 c2 g2 hc2 hrw hg2 hb => ?_⟩
    rw [hW] at hc2
    split at hc2
    · cases hc2
    · rename_i hn
      obtain ⟨q1, q2⟩ := hM.inj e2 i2 c2 e i c g2 g hc2 hrw hc' hg2 hg hb
      subst q1; subst q2
      exact hn hh
  -- a block that is seen, and one that is hidden, are two
  have apart : ∀ e i c e2 i2 c2 g g2, e = M0.length ∧ h.contains i = true → s i = some c → ¬ (e2 = M0.length ∧ h.contains i2 = true) → ent (s' :: M0') e2 i2 = some c2 → (c.rw = true ∨ c2.rw = true) → γ' e i = some g → γ' e2 i2 = some g2 → g.b ≠ g2.b := by
    intro e i c e2 i2 c2 g g2 hh hc hn hc2 hrw hg hg2 hb
    obtain ⟨g0, hg0, hg0', _, _⟩ := hid e i c hh hc
    rw [hg0'] at hg; cases hg
    have hc' : ent (s :: M0) e i = some c := by rw [hs e i hh.1]; exact hc
    rcases hS.fresh e2 i2 g2 hg2 with ⟨g3, hg3, hb3⟩ | hge
    · rcases hS.dom e2 i2 (by rw [hc2]; simp) with hd | hd
      · rw [hW, if_neg hn] at hd
        cases hc3 : ent (s :: M0) e2 i2 with
        | none => exact hd hc3
        | some c3 =>
          obtain ⟨c4, hc4, hrw4⟩ := hS.rwk e2 i2 c3 (by rw [hW, if_neg hn]; exact hc3)
          rw [hc2] at hc4; cases hc4
          have : e = e2 ∧ i = i2 := by
            rcases hrw with hrw | hrw
            · exact hM.inj e i c e2 i2 c3 _ g3 hc' hrw hc3 hg0 hg3 (hb.trans hb3.symm)
            · obtain ⟨a, b⟩ := hM.inj e2 i2 c3 e i c g3 _ hc3 (hrw4 hrw) hc' hg3 hg0 (hb3.trans hb.symm)
              exact ⟨a.symm, b.symm⟩
          obtain ⟨rfl, rfl⟩ := this
          exact hn hh
      · rw [hg3] at hd; cases hd
    · have := (hM.bnd _ _ _ hg0).1
      omega
  constructor
  · refine ⟨fun e i c hc => ?_, fun e i c e' i' c' g g' h1 h2 h3 h4 h5 h6 => ?_, hM1.bnd⟩
    · rw [hJ] at hc
      split at hc
      · rename_i hh
        obtain ⟨g, hg, hg', hcr, hheap⟩ := hid e i c hh hc
        exact ⟨g, hg', hcr.ext hS.toExt hheap⟩
      · exact hM1.ent e i c hc
    · rw [hJ] at h1 h3
      split at h1
      · rename_i hh
        split at h3
        · rename_i hh'
          obtain ⟨g0, hg0, hg0', _, _⟩ := hid e i c hh h1
          obtain ⟨g1, hg1, hg1', _, _⟩ := hid e' i' c' hh' h3
          rw [hg0'] at h4; cases h4
          rw [hg1'] at h5; cases h5
          exact hM.inj e i c e' i' c' _ _ (by rw [hs e i hh.1]; exact h1) h2 (by rw [hs e' i' hh'.1]; exact h3) hg0 hg1 h6
        · rename_i hh'
          exact absurd h6 (apart e i c e' i' c' g g' hh h1 hh' h3 (.inl h2) h4 h5)
      · rename_i hh
        split at h3
        · rename_i hh'
          exact absurd h6.symm (apart e' i' c' e i c g' g hh' h3 hh h1 (.inr h2) h5 h4)
        · exact hM1.inj e i c e' i' c' g g' h1 h2 h3 h4 h5 h6
  · refine ⟨hS.os, hS.tape, hS.output, hS.size, fun b hb hn => hS.frame b hb fun e i c g hc => hn e i c g ?_, hS.ext, fun e i h1 h2 => hS.hid e i ?_ h2, fun e i c h1 h2 => ?_, hS.fresh, by simp [hlen], fun e i h1 => ?_,
      fun e i c h1 => ?_, hS.new, fun e i h1 h2 => ?_, fun e i h1 h2 => ?_⟩
    · rw [hW] at hc
      split at hc
      · cases hc
      · exact hc
    · rw [hW]; split
      · rfl
      · exact h1
    · by_cases hh : e = M0.length ∧ h.contains i = true
      · rw [hs e i hh.1] at h1
        obtain ⟨g, hg, hg', _, _⟩ := hid e i c hh h1
        exact ⟨by rw [hg, hg'], by rw [hJ, if_pos hh]; exact h1⟩
      · obtain ⟨k1, k2⟩ := hS.keep e i c (by rw [hW, if_neg hh]; exact h1) h2
        exact ⟨k1, by rw [hJ, if_neg hh]; exact k2⟩
    · by_cases hh : e = M0.length ∧ h.contains i = true
      · rw [hJ, if_pos hh] at h1
        exact .inl (by rw [hs e i hh.1]; exact h1)
      · rw [hJ, if_neg hh] at h1
        rcases hS.dom e i h1 with h2 | h2
        · rw [hW, if_neg hh] at h2; exact .inl h2
        · exact .inr h2
    · by_cases hh : e = M0.length ∧ h.contains i = true
      · rw [hs e i hh.1] at h1
        exact ⟨c, by rw [hJ, if_pos hh]; exact h1, fun x => x⟩
      · obtain ⟨c', hc', hrw⟩ := hS.rwk e i c (by rw [hW, if_neg hh]; exact h1)
        exact ⟨c', by rw [hJ, if_neg hh]; exact hc', hrw⟩
    · by_cases hh : e = M0.length ∧ h.contains i = true
      · rw [hJ, if_pos hh] at h2
        rw [hs e i hh.1] at h1
        exact absurd h1 h2
      · rw [hJ, if_neg hh] at h2
        exact hS.newE e i (by rw [hW, if_neg hh]; exact h1) h2
    · have ho := hS.new e i h1 h2
      have h3 := hS.newM e i h1 h2
      rw [hJ]
      split
      · rename_i hh
        have := hown i (by rw [← hh.1]; exact ho)
        rw [this] at hh; simp at hh
      · exact h3

/-! ### an operation under its guard -/

/-- An operation that is not compiled may stand where it is never reached. -/
def cOpB (P : Program) (q : Qs) (base : Nat) (o : Oper) : SOp :=
  match cOpX P q base o with
  | some op => op
  | none => .p .bad

theorem cOpB_ev {P : Program} {q : Qs} {base : Nat} {o : Oper} {C : Det.Calls} {e : Env} {M : Mem} {r : AV × Mem} (h : evOp C (cOpB P q base o) e M = some r) : cOpX P q base o = some (cOpB P q base o) := by
  unfold cOpB at h ⊢
  cases hc : cOpX P q base o with
  | some op => rfl
  | none => rw [hc] at h; simp [evOp, evP] at h

def cOper (P : Program) (q : Qs) (ops : Array Oper) (base : Nat) (hide : List Nat) (o : Oper) : Option SOper :=
  if (hide.contains base || hide.contains (base + 1) || hide.contains (base + 2) || hide.contains (base + 3)) = true then none else
  match o.guard with
  | none => some ⟨o.dst, none, hide, cOpB P q base o⟩
  | some (j, want) => match (ops[j]?).bind (·.dst) with
    | some t => some ⟨o.dst, some (t, want), hide, cOpB P q base o⟩
    | none => none

theorem wanted_rel {γ : Gam} {e : Env} {a : Act} {ops : Array Oper} {o : Oper} {g : Option (Nat × Bool)} {b : Bool} (hE : ERel γ e a.tmps)
    (hg : match o.guard with | none => g = none | some (j, want) => ∃ t, (ops[j]?).bind (·.dst) = some t ∧ g = some (t, want)) (hw : wants e g = some b) : Region.wanted o (yielded ops a.tmps) = b := by
  unfold Region.wanted
  cases ho : o.guard with
  | none =>
    rw [ho] at hg
    simp only at hg
    subst hg
    simp only [wants, Option.some.injEq] at hw
    simpa using hw
  | some p =>
    obtain ⟨j, want⟩ := p
    rw [ho] at hg
    obtain ⟨t, ht, rfl⟩ := hg
    have hr := hE.get t
    simp only [wants] at hw
    simp only [yielded, ht, Option.bind_some]
    rw [Array.getD_eq_getD_getElem?] at hr
    split at hw
    · rename_i b1 hb1
      rw [hb1] at hr
      have h1 := hr.bool_inv
      cases h2 : a.tmps[t]? with
      | none => rw [h2] at h1; cases h1
      | some x =>
        rw [h2] at h1
        simp only [Option.getD_some] at h1
        subst h1
        simp only [Option.some.injEq] at hw
        subst hw
        simp only [Option.some_beq_some]
    · rename_i hb1
      rw [hb1] at hr
      obtain ⟨l', h1, h2⟩ := hr.tuple_inv
      have h3 := h2.of_nil
      subst h3
      cases hw
      cases h2 : a.tmps[t]? with
      | none => rfl
      | some x =>
        rw [h2] at h1
        simp only [Option.getD_some] at h1
        subst h1
        rfl
    · cases hw

theorem oper_sound {P : Program} {q : Qs} {C : Det.Calls} {ops : Array Oper} {base : Nat} {hide : List Nat} {o : Oper} {so : SOper} {M0 M1 M' : Mem} {s : Scope} {γ0 γ : Gam} {w0 w : World} {e e' : Env} {a : Act}
    (hco : cOper P q ops base hide o = some so) (hev : evOper C so e (s :: M1) = some (e', M')) (hst : St P M0 γ0 w0 e (s :: M1) γ a w) (hC : CallsOk P C) {K : Act → World → Prop} {Q : Exit → Act → World → Prop}
    (hK : ∀ a' w' γ', St P M0 γ0 w0 e' M' γ' a' w' → K a' w') : if Region.wanted o (yielded ops a.tmps) = true then o.wp P a w K Q else K (a.put o.dst undef) w := by
  unfold cOper at hco
  · obtain ⟨op, hopB⟩ : ∃ op, cOpB P q base o = op := ⟨_, rfl⟩
    have hop : ∀ {e : Env} {M : Mem} {r : AV × Mem}, evOp C op e M = some r → cOpX P q base o = some op := fun h => by rw [← hopB] at h ⊢; exact cOpB_ev h
    rw [hopB] at hco
    split at hco
    · cases hco
    · rename_i hnh
      have hso : so.dst = o.dst ∧ so.hide = hide ∧ so.op = op ∧ (match o.guard with | none => so.guard = none | some (j, want) => ∃ t, (ops[j]?).bind (·.dst) = some t ∧ so.guard = some (t, want)) := by
        split at hco
        · rename_i hg; cases hco; exact ⟨rfl, rfl, rfl, rfl⟩
        · rename_i j want hg
          split at hco
          · rename_i t ht; cases hco; exact ⟨rfl, rfl, rfl, t, ht, rfl⟩
          · cases hco
      obtain ⟨s1, s2, s3, s4⟩ := hso
      have hnot : ∀ id, Own base id → hide.contains id = false := by
        intro id ⟨i1, i2⟩
        simp only [Bool.or_eq_true, not_or, Bool.not_eq_true] at hnh
        obtain ⟨⟨⟨n1, n2⟩, n3⟩, n4⟩ := hnh
        have : id = base ∨ id = base + 1 ∨ id = base + 2 ∨ id = base + 3 := by omega
        rcases this with rfl | rfl | rfl | rfl <;> assumption
      unfold evOper at hev
      split at hev
      · rename_i hw
        rw [wanted_rel hst.erel s4 hw]
        simp only [if_true]
        split at hev
        · rename_i hh
          rw [s3, s1] at hev
          split at hev
          · rename_i v M2 hv
            cases hev
            exact op_sound (H := fun _ => False) (hop hv) hv hst.mrel hst.grel hst.erel hst.dom (fun _ _ h => h) hC fun r w' γ' h1 h2 h3 => hK _ _ γ' (hst.step h1 h2 h3 _)
          · cases hev
        · rename_i x l hh
          rw [s2] at hh
          rw [s3, s1, ← hh] at hev
          split at hev
          · rename_i heq; cases heq
          · rename_i sx Mx heq
            cases heq
            split at hev
            · rename_i v s' M0' hv
              cases hev
              refine op_sound (H := fun id => hide.contains id = true) (hop hv) hv (mrel_without hst.mrel) hst.grel hst.erel ?_ (fun id h1 h2 => by rw [hnot id h1] at h2; cases h2) hC fun r w' γ' h1 h2 h3 => ?_
              · intro e1 i1 hne
                obtain ⟨d1, d2⟩ := hst.dom e1 i1 hne
                refine ⟨by simpa using d1, fun h1 => ?_⟩
                simp only [List.length_cons] at h1 d2
                rcases d2 h1 with d2 | d2
                · rw [ent_without]
                  by_cases hc : hide.contains i1 = true
                  · exact .inr hc
                  · left; rw [if_neg (fun h => hc h.2)]; exact d2
                · exact d2.elim
              · obtain ⟨k1, k2⟩ := unhide_step hst.mrel h2 h3 (fun i hi => hnot i hi.2)
                exact hK _ _ γ' (hst.step h1 k1 k2 _)
            · cases hev
      · rename_i hw
        rw [wanted_rel hst.erel s4 hw]
        simp only [Bool.false_eq_true, if_false]
        rw [s1] at hev
        cases hev
        exact hK _ _ γ (hst.step (base := base) (VRel.undef γ) hst.mrel (Stp.refl _ _ _ _) _)
      · cases hev

end Go.Det

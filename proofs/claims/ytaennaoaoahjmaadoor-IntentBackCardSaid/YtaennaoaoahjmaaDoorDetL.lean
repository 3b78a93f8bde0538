/-
  DET, part L: a round's beginning; code.
-/
import Derived.Test.YtaennaoaoahjmaaDoorDetK
set_option linter.unusedSimpArgs false
set_option linter.unusedVariables false
namespace Go.Det

/-! ### what is forgotten at a round's beginning -/

mutual
theorem srel_ids_ {γ γ' : Gam} {d : Nat} (hk : ∀ e id, e ≠ d → γ' e id = γ e id) : ∀ {v : AV} {r : Value}, SRel γ v r → (∀ id ∈ AV.ids d v, γ' d id = γ d id) → SRel γ' v r
  | _, _, .bool b, _ => .bool b
  | _, _, .int k n, _ => .int k n
  | _, _, .str s, _ => .str s
  | _, _, .ptr0, _ => .ptr0
  | _, _, @SRel.ptr _ a r h, hi => by
    obtain ⟨g, hg, hs, hr⟩ := h
    refine .ptr ⟨g, ?_, hs, hr⟩
    by_cases hd : a.dep = d
    · rw [hd, hi a.id (by simp [AV.ids, hd]), ← hd, hg]
    · rw [hk _ _ hd, hg]
  | _, _, .slice0 e, _ => .slice0 e
  | _, _, @SRel.slice _ a n e r c h, hi => by
    obtain ⟨hn, g, hg, hs, hr⟩ := h
    refine .slice ⟨hn, g, ?_, hs, hr⟩
    by_cases hd : a.dep = d
    · rw [hd, hi a.id (by simp [AV.ids, hd]), ← hd, hg]
    · rw [hk _ _ hd, hg]
  | _, _, .room0 e r, _ => .room0 e r
  | _, _, .map0, _ => .map0
  | _, _, @SRel.map _ a r h, hi => by
    obtain ⟨g, hg, hs, hr⟩ := h
    refine .map ⟨g, ?_, hs, hr⟩
    by_cases hd : a.dep = d
    · rw [hd, hi a.id (by simp [AV.ids, hd]), ← hd, hg]
    · rw [hk _ _ hd, hg]
  | _, _, @SRel.func _ f l m l' m' hl hm pl pm, hi => by
    refine .func f hl hm (fun i v r a b => srel_ids_ hk (pl i v r a b) fun id hid => hi id ?_) (fun i v r a b => srel_ids_ hk (pm i v r a b) fun id hid => hi id ?_)
    · simp only [AV.ids, List.mem_append]; exact .inl (mem_idss (List.mem_of_getElem? a) hid)
    · simp only [AV.ids, List.mem_append]; exact .inr (mem_idss (List.mem_of_getElem? a) hid)
  | _, _, .nilFunc, _ => .nilFunc
theorem mem_idss {d id : Nat} : ∀ {l : List AV} {v : AV}, v ∈ l → id ∈ AV.ids d v → id ∈ AV.idss d l
  | [], v, h, _ => by simp at h
  | u :: l, v, h, hi => by
    simp only [AV.idss, List.mem_append]
    rcases List.mem_cons.1 h with rfl | h
    · exact .inl hi
    · exact .inr (mem_idss h hi)
end

section
variable {γ γ' : Gam} {d : Nat} (hk : ∀ e id, e ≠ d → γ' e id = γ e id)
include hk

theorem pw_ids {l : List AV} {l' : List Value} (h : Pw (SRel γ) l l') (hi : ∀ id ∈ AV.idss d l, γ' d id = γ d id) : Pw (SRel γ') l l' :=
  ⟨h.1, fun i v r a b => srel_ids_ hk (h.2 i v r a b) fun id hid => hi id (mem_idss (List.mem_of_getElem? a) hid)⟩

theorem wrel_ids {v : AV} {r : Value} (h : WRel γ v r) (hi : ∀ id ∈ AV.ids d v, γ' d id = γ d id) : WRel γ' v r := by
  cases h with
  | sc h => exact .sc (srel_ids_ hk h hi)
  | agg h => exact .agg (pw_ids hk h (by simpa [AV.ids] using hi))

theorem vrel_ids {v : AV} {r : Value} (h : VRel γ v r) (hi : ∀ id ∈ AV.ids d v, γ' d id = γ d id) : VRel γ' v r := by
  cases h with
  | sc h => exact .sc (srel_ids_ hk h hi)
  | agg h => exact .agg (pw_ids hk h (by simpa [AV.ids] using hi))
  | tuple h =>
    refine .tuple ⟨h.1, fun i v r a b => wrel_ids hk (h.2 i v r a b) fun id hid => hi id ?_⟩
    simp only [AV.ids]
    exact mem_idss (List.mem_of_getElem? a) hid
  | dead r => exact .dead r
end

theorem mem_envIds {d : Nat} {e : Env} {id : Nat} : ∀ {l : List Nat} {t : Nat}, t ∈ l → id ∈ AV.ids d (e.get t) → id ∈ envIds d e l
  | [], t, h, _ => by simp at h
  | u :: l, t, h, hi => by
    simp only [envIds, List.mem_append]
    rcases List.mem_cons.1 h with rfl | h
    · exact .inl hi
    · exact .inr (mem_envIds h hi)

theorem mem_scopeIds {d : Nat} {s : Scope} {id r : Nat} {c : Con} (hc : s r = some c) (hi : id ∈ conIds d c) : ∀ {l : List Nat}, r ∈ l → id ∈ scopeIds d s l
  | [], h => by simp at h
  | u :: l, h => by
    simp only [scopeIds]
    rcases List.mem_cons.1 h with rfl | h
    · rw [hc]; exact List.mem_append_left _ hi
    · cases hu : s u with
      | none => exact mem_scopeIds hc hi h
      | some c' => exact List.mem_append_right _ (mem_scopeIds hc hi h)

theorem keepEnv_get {keep : List Nat} : ∀ {n : Nat} {e : Env} {i : Nat} {v : AV}, (keepEnv keep n e)[i]? = some v → ∃ u, e[i]? = some u ∧ (v = .dead ∨ (v = u ∧ n + i ∈ keep))
  | n, [], i, v, h => by simp [keepEnv] at h
  | n, u :: e, i, v, h => by
    simp only [keepEnv] at h
    cases i with
    | zero =>
      simp only [List.getElem?_cons_zero, Option.some.injEq] at h
      refine ⟨u, rfl, ?_⟩
      split at h
      · rename_i hc; exact .inr ⟨h.symm, by simpa using hc⟩
      · exact .inl h.symm
    | succ i =>
      simp only [List.getElem?_cons_succ] at h
      obtain ⟨w, hw, hv⟩ := keepEnv_get h
      refine ⟨w, by simpa using hw, ?_⟩
      rw [show n + (i + 1) = n + 1 + i by omega]; exact hv

theorem keepEnv_len {keep : List Nat} : ∀ {n : Nat} {e : Env}, (keepEnv keep n e).length = e.length
  | n, [] => rfl
  | n, u :: e => by simp [keepEnv, keepEnv_len]

theorem keepEnv_rel {keep : List Nat} {γ γ' : Gam} {e : Env} {tmps : Array Value} (h : ERel γ e tmps) (hv : ∀ t v r, t ∈ keep → e.get t = v → VRel γ v r → VRel γ' v r) : ERel γ' (keepEnv keep 0 e) tmps := by
  refine ⟨by rw [keepEnv_len]; exact h.1, fun i v r a b => ?_⟩
  obtain ⟨u, hu, hor⟩ := keepEnv_get a
  rcases hor with rfl | ⟨rfl, hm⟩
  · exact .dead r
  · refine hv i v r (by simpa using hm) ?_ (h.2 i v r hu b)
    simp [Env.get, hu]

theorem gc_sound {P : Program} {keep : List Nat} {M0 M1 M' : Mem} {s : Scope} {γ0 γ : Gam} {w0 w : World} {e e' : Env} {a : Act} (hst : St P M0 γ0 w0 e (s :: M1) γ a w) (hne : M0 ≠ []) (hd0 : ∀ e id, γ0 e id ≠ none → e < M0.length) (h : gc keep e (s :: M1) = some (e', M')) :
    ∃ γ', St P M0 γ0 w0 e' M' γ' a w := by
  have hlen : M1.length = M0.length := by have := hst.len; simpa using this
  simp only [gc] at h
  generalize hr1 : envIds M1.length e keep = r1 at h
  generalize hr2 : r1 ++ scopeIds M1.length s r1 = r2 at h
  split at h
  · rename_i hcl
    cases h
    have hsub : ∀ id ∈ r1, id ∈ r2 := fun id h => by rw [← hr2]; exact List.mem_append_left _ h
    let γ' : Gam := fun e id => if e = M1.length ∧ ¬ id ∈ r2 then none else γ e id
    have hg' : ∀ e id, γ' e id = if e = M1.length ∧ ¬ id ∈ r2 then none else γ e id := fun _ _ => rfl
    have hk : ∀ e id, e ≠ M1.length → γ' e id = γ e id := fun e id h => by rw [hg', if_neg (fun hh => h hh.1)]
    have hk2 : ∀ id ∈ r2, γ' M1.length id = γ M1.length id := fun id h => by rw [hg', if_neg (fun hh => hh.2 h)]
    have hkk : ∀ e id, γ' e id ≠ none → γ' e id = γ e id := fun e id h => by
      rw [hg'] at h ⊢
      split
      · rename_i hh; rw [if_pos hh] at h; exact absurd rfl h
      · rfl
    have hent : ∀ e i, ent (only r2 s :: M1) e i = if e = M1.length ∧ ¬ i ∈ r2 then none else ent (s :: M1) e i := by
      intro e i
      simp only [ent, only]
      by_cases he : e = M1.length
      · simp only [he, if_true, true_and]
        by_cases hi : i ∈ r2 <;> simp [hi]
      · simp only [he, if_false, false_and]
    have hent2 : ∀ {e i c}, ent (only r2 s :: M1) e i = some c → ent (s :: M1) e i = some c ∧ γ' e i = γ e i := by
      intro e i c hc
      rw [hent] at hc
      split at hc
      · cases hc
      · rename_i hh; exact ⟨hc, by rw [hg', if_neg hh]⟩
    have hlow : ∀ e id, e < M1.length → γ e id ≠ none → γ' e id = γ e id := fun e id h _ => hk e id (by omega)
    refine ⟨γ', ⟨?_, ?_, fun e1 i1 hne1 => ?_⟩, ?_, ?_, fun e1 i1 hne1 => ?_, ?_, hst.defers⟩
    · intro e1 i1 c hc
      obtain ⟨h1, h2⟩ := hent2 hc
      obtain ⟨g, hg, hcr⟩ := hst.mrel.ent e1 i1 c h1
      refine ⟨g, by rw [h2]; exact hg, ?_⟩
      by_cases he : e1 = M1.length
      · subst he
        have hi : i1 ∈ r2 := by
          rw [hent] at hc
          split at hc
          · cases hc
          · rename_i hh; exact Decidable.byContradiction fun hi => hh ⟨rfl, hi⟩
        rw [ent_cons_top] at h1
        cases c with
        | cells c rw_ fl =>
          obtain ⟨cs, t, lo, hi', h3, h4, h5, h6, h7, h8⟩ := hcr
          refine ⟨cs, t, lo, hi', h3, h4, h5, ⟨h6.1, fun i v r hv hr => ?_⟩, h7, h8⟩
          cases fl with
          | true =>
            simp only [if_true] at h8
            exact srel_under (n := 0) (fun e id h _ => absurd h (Nat.not_lt_zero _)) (h6.2 i v r hv hr) (unders_iff.1 h8 v (List.mem_of_getElem? hv))
          | false =>
            refine srel_ids_ hk (h6.2 i v r hv hr) fun id hid => hk2 id ?_
            have h9 : id ∈ scopeIds M1.length s r2 := mem_scopeIds h1 (by simp only [conIds]; exact mem_idss (List.mem_of_getElem? hv) hid) hi
            have := List.all_eq_true.1 hcl id h9
            simpa using this
        | bld T b rw_ =>
          obtain ⟨p, v, h3, h4, h5, h6, h7, h8, h9⟩ := hcr
          refine ⟨p, v, h3, h4, h5, h6, h7, srel_ids_ hk h8 fun id hid => hk2 id ?_, h9⟩
          have h10 : id ∈ scopeIds M1.length s r2 := mem_scopeIds h1 (by simpa only [conIds] using hid) hi
          have := List.all_eq_true.1 hcl id h10
          simpa using this
        | buf E s rw_ => exact hcr
        | map es rw_ =>
          obtain ⟨es', clk, h3, h4, h5, h6⟩ := hcr
          refine ⟨es', clk, h3, h4, h5, fun i k v x a b => ?_⟩
          obtain ⟨a1, a2, a3, a4⟩ := h6 i k v x a b
          exact ⟨srel_under (n := 0) (fun e id h _ => absurd h (Nat.not_lt_zero _)) a1 a3, srel_under (n := 0) (fun e id h _ => absurd h (Nat.not_lt_zero _)) a2 a4, a3, a4⟩
      · have hlt := ent_lt (M := s :: M1) (by rw [h1]; simp)
        simp only [List.length_cons] at hlt
        exact crel_under hlow (by omega) hcr
    · intro e1 i1 c1 e2 i2 c2 g1 g2 h1 h2 h3 h4 h5 h6
      obtain ⟨a1, a2⟩ := hent2 h1
      obtain ⟨b1, b2⟩ := hent2 h3
      rw [a2] at h4
      rw [b2] at h5
      exact hst.mrel.inj _ _ _ _ _ _ _ _ a1 h2 b1 h4 h5 h6
    · intro hg1
      rw [hkk e1 i1 (by rw [hg1]; simp)] at hg1
      exact hst.mrel.bnd _ _ _ hg1
    · intro n gl i h1 h2
      obtain ⟨g, hg, hs, hr⟩ := hst.grel n gl i h1 h2
      refine ⟨g, ?_, hs, hr⟩
      rw [hk _ _ ?_, hg]
      have : 0 < M0.length := List.length_pos_iff.2 hne
      simp only
      omega
    · refine keepEnv_rel hst.erel fun t v r ht hv hr => vrel_ids hk hr fun id hid => hk2 id (hsub id ?_)
      rw [← hr1]
      exact mem_envIds ht (by rw [hv]; exact hid)
    · have hgg := hkk e1 i1 hne1
      obtain ⟨d1, d2⟩ := hst.dom e1 i1 (by rw [← hgg]; exact hne1)
      refine ⟨by simpa using d1, fun he => ?_⟩
      rcases d2 (by simpa using he) with d2 | d2
      · left
        rw [hent, if_neg]
        · exact d2
        · intro hh
          rw [hg', if_pos hh] at hne1
          exact hne1 rfl
      · exact d2.elim
    · have hS := hst.stp
      have hz : ∀ e id, ent (mk [] :: M0) e id ≠ none → e < M0.length := fun e id h => by rw [ent_empty] at h; exact ent_lt h
      have hdrop : ∀ e id, γ0 e id ≠ none → e ≠ M1.length → γ' e id = γ e id := fun e id _ h => hk e id h
      refine ⟨hS.os, hS.tape, hS.output, hS.size, hS.frame, ?_, ?_, ?_, ?_, by simpa using hS.len, ?_, ?_, ?_, ?_, ?_⟩
      · intro e id g hg
        have := hd0 e id (by rw [hg]; simp)
        rw [hk e id (by omega)]
        exact hS.ext e id g hg
      · intro e id h1 h2
        have := hd0 e id h2
        rw [hk e id (by omega)]
        exact hS.hid e id h1 h2
      · intro e id c h1 h2
        have := hz e id (by rw [h1]; simp)
        rw [hk e id (by omega), hent, if_neg (fun h => by omega)]
        exact hS.keep e id c h1 h2
      · intro e id g' h1
        rw [hkk e id (by rw [h1]; simp)] at h1
        exact hS.fresh e id g' h1
      · intro e id h1
        refine hS.dom e id ?_
        rw [hent] at h1
        split at h1
        · exact absurd rfl h1
        · exact h1
      · intro e id c h1
        have := hz e id (by rw [h1]; simp)
        rw [hent, if_neg (fun h => by omega)]
        exact hS.rwk e id c h1
      · intro e id h1 h2
        exact hS.new e id h1 (by rw [← hkk e id h2]; exact h2)
      · intro e id h1 h2
        refine hS.newE e id h1 ?_
        rw [hent] at h2
        split at h2
        · exact absurd rfl h2
        · exact h2
      · intro e id h1 h2
        have h3 := hS.newM e id h1 (by rw [← hkk e id h2]; exact h2)
        rw [hent, if_neg]
        · exact h3
        · intro hh
          rw [hg', if_pos hh] at h2
          exact h2 rfl
  · cases h

/-! ### code -/

def cCode (P : Program) (q : Qs) : Code → List (List Nat) → Option (SCode × List (List Nat))
  | .skip, hs => some (.skip, hs)
  | .region id ops draw, hs => match cRegion P q id ops draw with
    | some (l, none) => some (.region l, hs)
    | some (l, some far) => some (.regionF l far, hs)
    | none => none
  | .seq a b, hs => match cCode P q a hs with
    | some (x, hs) => match cCode P q b hs with
      | some (y, hs) => some (.seq x y, hs)
      | none => none
    | none => none
  | .cond c a b, hs => match cOpd P c with
    | some c => match cCode P q a hs with
      | some (x, hs) => match cCode P q b hs with
        | some (y, hs) => some (.cond c x y, hs)
        | none => none
      | none => none
    | none => none
  | .block id c, hs => match cCode P q c hs with
    | some (x, hs) => some (.block id x, hs)
    | none => none
  | .loop c, h :: h' :: hs => match cCode P q c hs with
    | some (x, hs) => some (.loop h h' x, hs)
    | none => none
  | .exit id, hs => some (.exit id, hs)
  | .ret, hs => some (.ret, hs)
  | _, _ => none

def Ex.to : Ex → Exit
  | .normal => .normal
  | .exit id => .exit id
  | .ret => .ret

/-- A loop, round by round. -/
theorem wp_loop_n {P : Program} {c : Code} {Q : Exit → Act → World → Prop} (I : Nat → Act → World → Prop) (zero : ∀ a w, ¬ I 0 a w)
    (round : ∀ n a w, I (n + 1) a w → c.wp P (Exit.then (fun a' w' => I n a' w') Q) a w) {n : Nat} {a : Act} {w : World} (h₀ : I n a w) : (Code.loop c).wp P Q a w := by
  intro b k cs
  have key : ∀ n a w, I n a w → ∃ e a' w', Q e a' w' ∧ Arrives P (lone (b.at a (.code c :: .inLoop c :: k)) cs w) b k cs e a' w' := by
    intro n
    induction n with
    | zero => intro a w h; exact absurd h (zero a w)
    | succ n ih =>
      intro a w hI
      obtain ⟨e, a₁, w₁, hq, harr⟩ := round n a w hI b (.inLoop c :: k) cs
      cases e with
      | normal =>
        obtain ⟨e₂, a₂, w₂, hq₂, harr₂⟩ := ih a₁ w₁ hq
        exact ⟨e₂, a₂, w₂, hq₂, .of_steps (Steps.trans harr (.one step_inLoop)) harr₂⟩
      | exit id => exact ⟨_, a₁, w₁, hq, .pass (x := .inLoop c) rfl (fun _ _ => .inl (by simp)) harr⟩
      | goto l => exact ⟨_, a₁, w₁, hq, .pass (x := .inLoop c) rfl (fun _ _ => .inl (by simp)) harr⟩
      | ret => exact ⟨_, a₁, w₁, hq, .pass (x := .inLoop c) rfl (fun _ _ => .inl (by simp)) harr⟩
      | panic ch => exact ⟨_, a₁, w₁, hq, .pass (x := .inLoop c) rfl (fun _ _ => .inl (by simp)) harr⟩
      | outgrown => exact ⟨_, a₁, w₁, hq, .pass (x := .inLoop c) rfl (fun _ _ => .inl (by simp)) harr⟩
  obtain ⟨e, a', w', hq, harr⟩ := key _ a w h₀
  exact ⟨e, a', w', hq, .of_steps (.one step_loop) harr⟩

section
variable {P : Program} {q : Qs} {C : Det.Calls} {M0 : Mem} {γ0 : Gam} {w0 : World}

theorem code_sound (hm : P.follows .mixedOrders = true) (hC : CallsOk P C) (hne : M0 ≠ []) (hd0 : ∀ e id, γ0 e id ≠ none → e < M0.length) :
    ∀ (c : Code) (hs : List (List Nat)) (sc : SCode) (hs' : List (List Nat)), cCode P q c hs = some (sc, hs') →
    ∀ (e : Env) (s : Scope) (M1 : Mem) (ex : Ex) (e' : Env) (M' : Mem) (γ : Gam) (a : Act) (w : World) (Q : Exit → Act → World → Prop), evC C sc e (s :: M1) = some (ex, e', M') → St P M0 γ0 w0 e (s :: M1) γ a w →
      (∀ a' w' γ', St P M0 γ0 w0 e' M' γ' a' w' → Q ex.to a' w') → c.wp P Q a w := by
  intro c
  induction c with
  | skip =>
    intro hs sc hs' hc e s M1 ex e' M' γ a w Q hev hst hQ
    cases hc
    simp only [evC, Option.some.injEq, Prod.mk.injEq] at hev
    obtain ⟨rfl, rfl, rfl⟩ := hev
    exact wp_skip (hQ a w γ hst)
  | region id ops draw =>
    intro hs sc hs' hc e s M1 ex e' M' γ a w Q hev hst hQ
    simp only [cCode] at hc
    split at hc
    · rename_i l hl
      cases hc
      simp only [evC] at hev
      split at hev
      · rename_i e2 M2 h2
        cases hev
        exact region_sound hm hC hl h2 (fun far h => by cases h) hst hQ
      · cases hev
    · rename_i l far hl
      cases hc
      simp only [evC] at hev
      split at hev
      · rename_i e2 M2 h2
        split at hev
        · rename_i hfar
          cases hev
          exact region_sound hm hC hl h2 (fun far' h => by cases h; exact hfar) hst hQ
        · cases hev
      · cases hev
    · cases hc
  | seq x y ihx ihy =>
    intro hs sc hs' hc e s M1 ex e' M' γ a w Q hev hst hQ
    simp only [cCode] at hc
    split at hc
    · rename_i sx hs1 hx
      split at hc
      · rename_i sy hs2 hy
        cases hc
        simp only [evC] at hev
        refine wp_seq ?_
        split at hev
        · rename_i e1 M2 h1
          refine ihx _ _ _ hx e s M1 _ _ _ γ a w _ h1 hst fun a' w' γ' hst' => ?_
          obtain ⟨s1, M3, rfl, _⟩ := hst'.cons
          exact ihy _ _ _ hy e1 s1 M3 ex e' M' γ' a' w' Q hev hst' hQ
        · rename_i hnn
          refine ihx _ _ _ hx e s M1 ex e' M' γ a w _ hev hst fun a' w' γ' hst' => ?_
          have := hQ a' w' γ' hst'
          cases ex with
          | normal => exact absurd hev (hnn _ _)
          | exit id => exact this
          | ret => exact this
      · cases hc
    · cases hc
  | cond cc x y ihx ihy =>
    intro hs sc hs' hc e s M1 ex e' M' γ a w Q hev hst hQ
    simp only [cCode] at hc
    split at hc
    · rename_i c' hcc
      split at hc
      · rename_i sx hs1 hx
        split at hc
        · rename_i sy hs2 hy
          cases hc
          simp only [evC] at hev
          have ro := opd_rel hst.grel hst.erel hcc
          split at hev
          · rename_i hb
            rw [hb] at ro
            exact wp_cond_true ro.bool_inv (ihx _ _ _ hx e s M1 ex e' M' γ a w Q hev hst hQ)
          · rename_i hb
            rw [hb] at ro
            exact wp_cond_false ro.bool_inv (ihy _ _ _ hy e s M1 ex e' M' γ a w Q hev hst hQ)
          · cases hev
        · cases hc
      · cases hc
    · cases hc
  | block id x ih =>
    intro hs sc hs' hc e s M1 ex e' M' γ a w Q hev hst hQ
    simp only [cCode] at hc
    split at hc
    · rename_i sx hs1 hx
      cases hc
      simp only [evC] at hev
      refine wp_block ?_
      split at hev
      · rename_i i e1 M2 h1
        refine ih _ _ _ hx e s M1 _ _ _ γ a w _ h1 hst fun a' w' γ' hst' => ?_
        split at hev
        · rename_i hi
          cases hev
          simp only [Ex.to, Exit.inBlock, hi, if_true]
          exact hQ a' w' γ' hst'
        · rename_i hi
          cases hev
          simp only [Ex.to, Exit.inBlock, hi, if_false]
          exact hQ a' w' γ' hst'
      · rename_i hnn
        refine ih _ _ _ hx e s M1 ex e' M' γ a w _ hev hst fun a' w' γ' hst' => ?_
        have := hQ a' w' γ' hst'
        cases ex with
        | normal => exact this
        | exit i => exact absurd hev (hnn _ _ _)
        | ret => exact this
    · cases hc
  | loop x ih =>
    intro hs sc hs' hc e s M1 ex e' M' γ a w Q hev hst hQ
    match hs, hc with
    | [], hc => simp [cCode] at hc
    | [_], hc => simp [cCode] at hc
    | keep :: after :: hs, hc =>
      simp only [cCode] at hc
      split at hc
      · rename_i sx hs1 hx
        cases hc
        simp only [evC, fgt] at hev
        split at hev
        · rename_i ex0 e0 Mz hlp
          split at hev
          · rename_i e9 M9 hgc9
            cases hev
            have hQ0 : ∀ a' w' γ', St P M0 γ0 w0 e0 Mz γ' a' w' → Q ex.to a' w' := by
              intro a' w' γ' hst'
              obtain ⟨s9, M8, rfl, _⟩ := hst'.cons
              obtain ⟨γ9, hst9⟩ := gc_sound hst' hne hd0 hgc9
              exact hQ a' w' γ9 hst9
            refine wp_loop_n (fun n a w => ∃ e s M1 γ, evLoop keep (evC C sx) n e (s :: M1) = some (ex, e0, Mz) ∧ St P M0 γ0 w0 e (s :: M1) γ a w) ?_ ?_ ⟨e, s, M1, γ, hlp, hst⟩
            · rintro a w ⟨e, s, M1, γ, h, _⟩
              simp [evLoop] at h
            · rintro n a w ⟨e, s, M1, γ, h, hst⟩
              simp only [evLoop] at h
              split at h
              · cases h
              · rename_i e1 M2 hgc
                obtain ⟨γ1, hst1⟩ := gc_sound hst hne hd0 hgc
                obtain ⟨s1, M3, rfl, _⟩ := hst1.cons
                split at h
                · rename_i e2 M4 hb
                  refine ih _ _ _ hx e1 s1 M3 _ _ _ γ1 a w _ hb hst1 fun a' w' γ' hst' => ?_
                  obtain ⟨s2, M5, rfl, _⟩ := hst'.cons
                  exact ⟨e2, s2, M5, γ', h, hst'⟩
                · rename_i hnn
                  refine ih _ _ _ hx e1 s1 M3 ex e0 Mz γ1 a w _ h hst1 fun a' w' γ' hst' => ?_
                  have := hQ0 a' w' γ' hst'
                  cases ex with
                  | normal => exact absurd h (hnn _ _)
                  | exit id => exact this
                  | ret => exact this
          · cases hev
        · cases hev
      · cases hc
  | exit id =>
    intro hs sc hs' hc e s M1 ex e' M' γ a w Q hev hst hQ
    cases hc
    simp only [evC, Option.some.injEq, Prod.mk.injEq] at hev
    obtain ⟨rfl, rfl, rfl⟩ := hev
    exact wp_exit (hQ a w γ hst)
  | ret =>
    intro hs sc hs' hc e s M1 ex e' M' γ a w Q hev hst hQ
    cases hc
    simp only [evC, Option.some.injEq, Prod.mk.injEq] at hev
    obtain ⟨rfl, rfl, rfl⟩ := hev
    exact wp_ret (hQ a w γ hst)
  | rangeFunc f ps x y _ _ => intro hs sc hs' hc; simp [cCode] at hc
  | scope x _ => intro hs sc hs' hc; simp [cCode] at hc
  | label l => intro hs sc hs' hc; simp [cCode] at hc
  | goto l => intro hs sc hs' hc; simp [cCode] at hc
  | refuse y => intro hs sc hs' hc; simp [cCode] at hc
end

end Go.Det

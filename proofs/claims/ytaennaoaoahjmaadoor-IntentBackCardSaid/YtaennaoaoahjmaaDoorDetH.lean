/-
  DET, part H: one operation, calls among them.
-/
import Derived.Test.YtaennaoaoahjmaaDoorDetZ
set_option linter.unusedSimpArgs false
set_option linter.unusedVariables false
namespace Go.Det

/-- The scope of what is handed over. -/
def exS (cs : List Con) : Scope := fun j => cs[j]?

/-- What the calls' evaluator says holds of the model's calls. -/
def CallsOk (P : Program) (C : Det.Calls) : Prop :=
  BldOk P ∧ ∀ f args M r cs M', C f args M = some (r, cs, M') →
    (∃ fn, P.funcs[f]? = some fn ∧ (fn.name == "runtime.NumGoroutine") = false ∧ fn.body.isNone = false) ∧
    ∀ γ w (vs : Array Value), M ≠ [] → Pw (VRel γ) args vs.toList → MRel M γ w → GRel P γ → (∀ e id, γ e id ≠ none → e < M.length) →
      Go.Calls P f vs w fun e w' => ∃ v γ', e = .returned v ∧ VRel γ' r v ∧ MRel (exS cs :: M') γ' w' ∧ AV.ret M.length r = true ∧ (∀ c ∈ cs, c.flat = true) ∧
        Stp (fun e _ => e = M.length) (mk [] :: M) γ w (exS cs :: M') γ' w' ∧ (∀ e id, γ' e id ≠ none → e < M.length ∨ (e = M.length ∧ id < cs.length))

def Own (base : Nat) (id : Nat) : Prop := base ≤ id ∧ id < base + 4

/-- Every abstract block that stands for one is one of memory; of the uppermost scope: it is there, or hidden. -/
def DomH (H : Nat → Prop) (M : Mem) (γ : Gam) : Prop := ∀ e id, γ e id ≠ none → e < M.length ∧ (e + 1 = M.length → ent M e id ≠ none ∨ H id)

theorem ro_length {M : Mem} : (ro M).length = M.length := by
  induction M with
  | nil => rfl
  | cons s M ih => simp [ro, ih]

theorem ent_ro {M : Mem} {e id : Nat} : ent (ro M) e id = (ent M e id).map Con.ro := by
  induction M with
  | nil => rfl
  | cons s M ih =>
    simp only [ro, ent, ro_length]
    split
    · rfl
    · exact ih

theorem mrel_ro {M : Mem} {γ : Gam} {w : World} (h : MRel M γ w) : MRel (ro M) γ w := by
  refine ⟨fun e id c hc => ?_, fun e id c e' id' c' g g' hc hrw => ?_, h.bnd⟩
  · rw [ent_ro] at hc
    cases h0 : ent M e id with
    | none => rw [h0] at hc; cases hc
    | some c0 =>
      rw [h0] at hc
      cases hc
      obtain ⟨g, hg, hcr⟩ := h.ent e id c0 h0
      refine ⟨g, hg, ?_⟩
      cases c0 with
      | cells c rw fl =>
        obtain ⟨cs, t, lo, hi, h1, h2, h3, h4, h5, h6⟩ := hcr
        exact ⟨cs, t, lo, hi, h1, h2, h3, h4, (fun h => by cases h), h6⟩
      | map es rw => exact hcr
      | bld T b rw => exact hcr
      | buf E s rw => exact hcr
  · rw [ent_ro] at hc
    cases h0 : ent M e id with
    | none => rw [h0] at hc; cases hc
    | some c0 =>
      rw [h0] at hc
      cases hc
      cases c0 <;> simp [Con.ro, Con.rw] at hrw

/-- An empty scope above. -/
theorem ent_empty {M : Mem} {e id : Nat} : ent (mk [] :: M) e id = ent M e id := by
  simp only [ent]
  split
  · rename_i h
    subst h
    cases h0 : ent M M.length id with
    | none => rfl
    | some c => exact absurd (ent_lt (by rw [h0]; simp)) (Nat.lt_irrefl _)
  · rfl

theorem mrel_empty {M : Mem} {γ : Gam} {w : World} (h : MRel M γ w) : MRel (mk [] :: M) γ w :=
  ⟨fun e id c hc => h.ent e id c (by rw [ent_empty] at hc; exact hc), fun e id c e' id' c' g g' h1 h2 h3 => h.inj e id c e' id' c' g g' (by rw [ent_empty] at h1; exact h1) h2 (by rw [ent_empty] at h3; exact h3), h.bnd⟩

theorem mrel_unempty {M : Mem} {γ : Gam} {w : World} (h : MRel (mk [] :: M) γ w) : MRel M γ w :=
  ⟨fun e id c hc => h.ent e id c (by rw [ent_empty]; exact hc), fun e id c e' id' c' g g' h1 h2 h3 => h.inj e id c e' id' c' g g' (by rw [ent_empty]; exact h1) h2 (by rw [ent_empty]; exact h3), h.bnd⟩

/-- What takeC lays. -/
theorem takeC_spec {base : Nat} {cs : List Con} {s s' : Scope} (h : takeC base cs s = some s') :
    (∀ j, s' j = if base ≤ j ∧ j < base + cs.length then cs[j - base]? else s j) ∧ ∀ j, base ≤ j → j < base + cs.length → s j = none := by
  induction cs generalizing base s with
  | nil => simp [takeC] at h; subst h; exact ⟨fun j => by simp; intro h1 h2; omega, fun j h1 h2 => by simp at h2; omega⟩
  | cons c cs ih =>
    simp only [takeC] at h
    split at h
    · cases h
    · rename_i hs
      obtain ⟨h1, h2⟩ := ih h
      refine ⟨fun j => ?_, fun j hj1 hj2 => ?_⟩
      · rw [h1 j]
        simp only [setAt, List.length_cons]
        by_cases hj : j = base
        · subst hj
          rw [if_neg (by omega), if_pos rfl, if_pos (by omega)]
          simp
        · by_cases hj2 : base + 1 ≤ j ∧ j < base + 1 + cs.length
          · rw [if_pos hj2, if_pos (by omega)]
            have : j - base = (j - (base + 1)) + 1 := by omega
            rw [this, List.getElem?_cons_succ]
          · rw [if_neg hj2, if_neg hj, if_neg (by omega)]
      · simp only [List.length_cons] at hj2
        by_cases hj : j = base
        · subst hj; exact hs
        · have := h2 j (by omega) (by omega)
          simpa [setAt, hj] using this

/-- What stands for the blocks that the caller takes over. -/
def takeG (γ : Gam) (d base n : Nat) : Gam := fun e i =>
  if e = d ∧ base ≤ i ∧ i < base + n then γ (d + 1) (i - base) else if e = d + 1 then none else γ e i

mutual
theorem under_mono {n m : Nat} (h : n ≤ m) : ∀ {v : AV}, AV.under n v = true → AV.under m v = true
  | .bool _, _ => rfl
  | .int _ _, _ => rfl
  | .str _, _ => rfl
  | .ptr none, _ => rfl
  | .ptr (some a), hu => by simp only [AV.under, decide_eq_true_eq] at hu ⊢; omega
  | .slice none _ _, _ => rfl
  | .slice (some a) _ _, hu => by simp only [AV.under, decide_eq_true_eq] at hu ⊢; omega
  | .slice0 _, _ => rfl
  | .map none, _ => rfl
  | .map (some a), hu => by simp only [AV.under, decide_eq_true_eq] at hu ⊢; omega
  | .func _ l k, hu => by
    simp only [AV.under, Bool.and_eq_true] at hu ⊢
    exact ⟨unders_mono h hu.1, unders_mono h hu.2⟩
  | .nilFunc, _ => rfl
  | .agg l, hu => by simp only [AV.under] at hu ⊢; exact unders_mono h hu
  | .tuple l, hu => by simp only [AV.under] at hu ⊢; exact unders_mono h hu
  | .dead, _ => rfl
theorem unders_mono {n m : Nat} (h : n ≤ m) : ∀ {l : List AV}, AV.unders n l = true → AV.unders m l = true
  | [], _ => rfl
  | v :: l, hu => by
    simp only [AV.unders, Bool.and_eq_true] at hu ⊢
    exact ⟨under_mono h hu.1, unders_mono h hu.2⟩
end

section
variable {γ : Gam} {d base n : Nat}

theorem takeG_addr (hfree : ∀ i, base ≤ i → i < base + n → γ d i = none) (hdom : ∀ i, γ (d + 1) i ≠ none → i < n) (x : AAddr) (h : γ x.dep x.id ≠ none) :
    takeG γ d base n (take1 d base x).dep (take1 d base x).id = γ x.dep x.id := by
  unfold take1
  split
  · rename_i hd
    rw [hd] at h
    have := hdom _ h
    simp only [takeG]
    rw [if_pos ⟨trivial, by omega, by omega⟩, hd]
    congr 1
    omega
  · rename_i hd
    simp only [takeG]
    rw [if_neg, if_neg hd]
    rintro ⟨h1, h2, h3⟩
    rw [h1] at h
    exact h (hfree _ h2 h3)

theorem take1_sz (x : AAddr) : (take1 d base x).sz = x.sz ∧ (take1 d base x).off = x.off := by
  unfold take1; split <;> exact ⟨rfl, rfl⟩

theorem takeS_rel (hfree : ∀ i, base ≤ i → i < base + n → γ d i = none) (hdom : ∀ i, γ (d + 1) i ≠ none → i < n) {v : AV} {r : Value} (hnf : ∀ f l m, v ≠ .func f l m) (hnm : ∀ x, v = .map (some x) → x.dep ≠ d + 1) (h : SRel γ v r) :
    SRel (takeG γ d base n) (takeV d base v) r := by
  cases h with
  | bool b => exact .bool b
  | int k n => exact .int k n
  | str s => exact .str s
  | ptr0 => exact .ptr0
  | @ptr a r h =>
    obtain ⟨g, hg, hs, hr⟩ := h
    have := takeG_addr hfree hdom a (by rw [hg]; simp)
    obtain ⟨s1, s2⟩ := take1_sz (d := d) (base := base) a
    exact .ptr ⟨g, by rw [this, hg], by rw [s1]; exact hs, by rw [s1, s2]; exact hr⟩
  | slice0 e => exact .slice0 e
  | @slice a n e r c h =>
    obtain ⟨hn, g, hg, hs, hr⟩ := h
    have := takeG_addr hfree hdom a (by rw [hg]; simp)
    obtain ⟨s1, s2⟩ := take1_sz (d := d) (base := base) a
    exact .slice ⟨hn, g, by rw [this, hg], by rw [s1]; exact hs, by rw [s1, s2]; exact hr⟩
  | room0 e r => exact .room0 e r
  | map0 => exact .map0
  | @map a r h =>
    obtain ⟨g, hg, hs, hr⟩ := h
    have := takeG_addr hfree hdom a (by rw [hg]; simp)
    have hd := hnm a rfl
    have e1 : take1 d base a = a := by unfold take1; rw [if_neg hd]
    rw [e1] at this
    exact .map ⟨g, by rw [this, hg], hs, hr⟩
  | func f hl hm pl pm => exact absurd rfl (hnf _ _ _)
  | nilFunc => exact .nilFunc
theorem rets_iff {n : Nat} : ∀ {l : List AV}, AV.rets n l = true ↔ ∀ v ∈ l, AV.ret n v = true
  | [] => by simp [AV.rets]
  | v :: l => by simp [AV.rets, rets_iff (l := l)]

theorem takeVL_map : ∀ (l : List AV), takeVL d base l = l.map (takeV d base)
  | [] => rfl
  | v :: l => by simp [takeVL, takeVL_map l]

theorem takeS_rel' (hfree : ∀ i, base ≤ i → i < base + n → γ d i = none) (hdom : ∀ i, γ (d + 1) i ≠ none → i < n) {v : AV} {r : Value} (hret : AV.ret (d + 1) v = true) (h : SRel γ v r) :
    SRel (takeG γ d base n) (takeV d base v) r := by
  refine takeS_rel hfree hdom (fun f l m hv => ?_) (fun x hv => ?_) h
  · subst hv; simp [AV.ret] at hret
  · subst hv; simp only [AV.ret, decide_eq_true_eq] at hret; omega

theorem takeP_rel {R S : AV → Value → Prop} {l : List AV} {l' : List Value} (h : Pw R l l') (hret : AV.rets (d + 1) l = true) (hRS : ∀ v r, AV.ret (d + 1) v = true → R v r → S (takeV d base v) r) : Pw S (takeVL d base l) l' := by
  rw [takeVL_map]
  refine ⟨by simp [h.1], fun i v r hv hr => ?_⟩
  rw [List.getElem?_map] at hv
  cases hx : l[i]? with
  | none => rw [hx] at hv; cases hv
  | some x =>
    rw [hx] at hv
    cases hv
    exact hRS x r (rets_iff.1 hret x (List.mem_of_getElem? hx)) (h.2 i x r hx hr)

theorem takeV_rel (hfree : ∀ i, base ≤ i → i < base + n → γ d i = none) (hdom : ∀ i, γ (d + 1) i ≠ none → i < n) {v : AV} {r : Value} (hret : AV.ret (d + 1) v = true) (h : VRel γ v r) :
    VRel (takeG γ d base n) (takeV d base v) r := by
  cases h with
  | sc h => exact .sc (takeS_rel' hfree hdom hret h)
  | agg h =>
    simp only [AV.ret] at hret
    simp only [takeV]
    exact .agg (takeP_rel h hret fun v r a b => takeS_rel' hfree hdom a b)
  | tuple h =>
    simp only [AV.ret] at hret
    simp only [takeV]
    refine .tuple (takeP_rel h hret fun v r a b => ?_)
    cases b with
    | sc b => exact .sc (takeS_rel' hfree hdom a b)
    | agg b =>
      simp only [AV.ret] at a
      simp only [takeV]
      exact .agg (takeP_rel b a fun v r a b => takeS_rel' hfree hdom a b)
  | dead r => exact .dead r

/-- What names blocks below depth n alone lives on where these stand as they stood. -/
theorem srel_under {γ γ' : Gam} {n : Nat} (hk : ∀ e id, e < n → γ e id ≠ none → γ' e id = γ e id) {v : AV} {r : Value} (h : SRel γ v r) (hu : AV.under n v = true) : SRel γ' v r := by
  induction h with
  | bool b => exact .bool b
  | int k n => exact .int k n
  | str s => exact .str s
  | ptr0 => exact .ptr0
  | @ptr a r h =>
    obtain ⟨g, hg, hs, hr⟩ := h
    simp only [AV.under, decide_eq_true_eq] at hu
    exact .ptr ⟨g, by rw [hk _ _ hu (by rw [hg]; simp), hg], hs, hr⟩
  | slice0 e => exact .slice0 e
  | @slice a n e r c h =>
    obtain ⟨hn, g, hg, hs, hr⟩ := h
    simp only [AV.under, decide_eq_true_eq] at hu
    exact .slice ⟨hn, g, by rw [hk _ _ hu (by rw [hg]; simp), hg], hs, hr⟩
  | room0 e r => exact .room0 e r
  | map0 => exact .map0
  | @map a r h =>
    obtain ⟨g, hg, hs, hr⟩ := h
    simp only [AV.under, decide_eq_true_eq] at hu
    exact .map ⟨g, by rw [hk _ _ hu (by rw [hg]; simp), hg], hs, hr⟩
  | @func f l m l' m' hl hm pl pm ih1 ih2 =>
    simp only [AV.under, Bool.and_eq_true] at hu
    exact .func f hl hm (fun i v r a b => ih1 i v r a b (unders_iff.1 hu.1 v (List.mem_of_getElem? a))) (fun i v r a b => ih2 i v r a b (unders_iff.1 hu.2 v (List.mem_of_getElem? a)))
  | nilFunc => exact .nilFunc

theorem crel_under {γ γ' : Gam} {n e : Nat} (hk : ∀ e id, e < n → γ e id ≠ none → γ' e id = γ e id) (he : e + 1 ≤ n) {c : Con} {g : G} {w : World} (h : CRel γ e c g w) : CRel γ' e c g w := by
  cases c with
  | cells c rw fl =>
    obtain ⟨cs, t, lo, hi, h1, h2, h3, h4, h5, h6⟩ := h
    refine ⟨cs, t, lo, hi, h1, h2, h3, ⟨h4.1, fun i v r hv hr => srel_under hk (h4.2 i v r hv hr) ?_⟩, h5, h6⟩
    have hu := unders_iff.1 h6 v (List.mem_of_getElem? hv)
    exact under_mono (by split <;> omega) hu
  | map es rw =>
    obtain ⟨es', clk, h1, h2, h3, h4⟩ := h
    refine ⟨es', clk, h1, h2, h3, fun i k v x a b => ?_⟩
    obtain ⟨a1, a2, a3, a4⟩ := h4 i k v x a b
    exact ⟨srel_under hk a1 (under_mono (Nat.zero_le _) a3), srel_under hk a2 (under_mono (Nat.zero_le _) a4), a3, a4⟩
  | bld T b rw =>
    obtain ⟨p, v, h1, h2, h3, h4, h5, h6, h7⟩ := h
    exact ⟨p, v, h1, h2, h3, h4, h5, srel_under hk h6 (under_mono he h7), h7⟩
  | buf E s rw => exact h

end

theorem ro_rw (c : Con) : c.ro.rw = false := by cases c <;> rfl

theorem quiet_step {M M1 : Mem} {γ γ1 : Gam} {w w1 : World} {cs : List Con} (hM : MRel M γ w) (hdom : ∀ e id, γ e id ≠ none → e < M.length) (hM1 : MRel (exS cs :: M1) γ1 w1)
    (hS : Stp (fun e _ => e = M.length) (mk [] :: ro M) γ w (exS cs :: M1) γ1 w1) :
    MRel (exS cs :: M) γ1 w1 ∧ Stp (fun e _ => e = M.length) (mk [] :: M) γ w (exS cs :: M) γ1 w1 := by
  have hlen : M1.length = M.length := by have := hS.len; simp [ro_length] at this; exact this
  have hro : ∀ e id c, ent M e id = some c → γ1 e id = γ e id := fun e id c hc => (hS.keep e id c.ro (by rw [ent_empty, ent_ro, hc]; rfl) (ro_rw c)).1
  have hheap : ∀ b, b < w.heap.size → w1.heap[b]? = w.heap[b]? := fun b hb => hS.frame b hb (fun e id c g hc hrw _ => by
    rw [ent_empty, ent_ro] at hc
    cases h0 : ent M e id with
    | none => rw [h0] at hc; cases hc
    | some c0 => rw [h0] at hc; cases hc; rw [ro_rw] at hrw; cases hrw)
  have htop : ∀ id, ent (exS cs :: M) M.length id = exS cs id := fun id => ent_cons_top
  have htop1 : ∀ id, ent (exS cs :: M1) M.length id = exS cs id := fun id => by rw [← hlen]; exact ent_cons_top
  have hold : ∀ e id, e ≠ M.length → ent (exS cs :: M) e id = ent M e id := fun e id h => ent_cons_old h
  have hfr : ∀ id g, γ1 M.length id = some g → w.heap.size ≤ g.b := fun id g hg => by
    rcases hS.fresh _ _ _ hg with ⟨g0, hg0, _⟩ | h
    · exact absurd (hdom _ _ (by rw [hg0]; simp)) (Nat.lt_irrefl _)
    · exact h
  have hne : ∀ {e id c}, ent M e id = some c → e ≠ M.length := fun h hh => by
    have := ent_lt (M := M) (by rw [h]; simp); omega
  constructor
  · refine ⟨fun e id c hc => ?_, fun e id c e' id' c' g g' h1 h2 h3 h4 h5 h6 => ?_, hM1.bnd⟩
    · by_cases he : e = M.length
      · subst he
        rw [htop] at hc
        exact hM1.ent _ id c (by rw [htop1]; exact hc)
      · rw [hold _ _ he] at hc
        obtain ⟨g, hg, hcr⟩ := hM.ent e id c hc
        exact ⟨g, by rw [hro _ _ _ hc]; exact hg, hcr.ext hS.toExt (hheap _ (hM.bnd _ _ _ hg).1)⟩
    · by_cases he : e = M.length <;> by_cases he' : e' = M.length
      · subst he; subst he'
        rw [htop] at h1 h3
        exact hM1.inj _ _ c _ _ c' g g' (by rw [htop1]; exact h1) h2 (by rw [htop1]; exact h3) h4 h5 h6
      · subst he
        rw [hold _ _ he'] at h3
        have a1 := hfr _ _ h4
        rw [hro _ _ _ h3] at h5
        have := (hM.bnd _ _ _ h5).1
        omega
      · subst he'
        rw [hold _ _ he] at h1
        have a1 := hfr _ _ h5
        rw [hro _ _ _ h1] at h4
        have := (hM.bnd _ _ _ h4).1
        omega
      · rw [hold _ _ he] at h1
        rw [hold _ _ he'] at h3
        rw [hro _ _ _ h1] at h4
        rw [hro _ _ _ h3] at h5
        exact hM.inj _ _ c _ _ c' g g' h1 h2 h3 h4 h5 h6
  · refine ⟨hS.os, hS.tape, hS.output, hS.size, fun b hb _ => hheap b hb, hS.ext, fun e id h1 h2 => ?_, fun e id c h1 h2 => ?_, hS.fresh, by simp, fun e id h1 => ?_, fun e id c h1 => ?_, hS.new, fun e id h1 h2 => ?_, fun e id h1 h2 => ?_⟩
    · rw [ent_empty] at h1
      exact hS.hid e id (by rw [ent_empty, ent_ro, h1]; rfl) h2
    · rw [ent_empty] at h1
      exact ⟨hro _ _ _ h1, by rw [hold _ _ (hne h1)]; exact h1⟩
    · by_cases he : e = M.length
      · subst he
        right
        cases hg : γ M.length id with
        | none => rfl
        | some g => exact absurd (hdom _ _ (by rw [hg]; simp)) (Nat.lt_irrefl _)
      · rw [hold _ _ he] at h1
        left; rw [ent_empty]; exact h1
    · rw [ent_empty] at h1
      exact ⟨c, by rw [hold _ _ (hne h1)]; exact h1, fun x => x⟩
    · by_cases he : e = M.length
      · exact he
      · rw [hold _ _ he] at h2
        rw [ent_empty] at h1
        exact absurd h1 h2
    · have he := hS.new e id h1 h2
      have h3 := hS.newM e id h1 h2
      subst he
      rw [htop1] at h3
      rw [htop]
      exact h3

theorem take_step {M0 M0' : Mem} {s s1 s' : Scope} {γ γ1 : Gam} {w w1 : World} {cs : List Con} {base : Nat} (hM : MRel (s :: M0) γ w) (hdom : ∀ e id, γ e id ≠ none → e < M0.length + 1)
    (hM1 : MRel (exS cs :: s1 :: M0') γ1 w1) (hS : Stp (fun e _ => e = M0.length + 1) (mk [] :: s :: M0) γ w (exS cs :: s1 :: M0') γ1 w1)
    (hdom1 : ∀ i, γ1 (M0.length + 1) i ≠ none → i < cs.length) (hfree : ∀ i, base ≤ i → i < base + cs.length → γ M0.length i = none) (hflat : ∀ c ∈ cs, c.flat = true) (ht : takeC base cs s1 = some s') :
    MRel (s' :: M0') (takeG γ1 M0.length base cs.length) w1 ∧ Stp (fun e id => e = M0.length ∧ base ≤ id ∧ id < base + cs.length) (s :: M0) γ w (s' :: M0') (takeG γ1 M0.length base cs.length) w1 := by
  have hlen : M0'.length = M0.length := by have := hS.len; simpa using this
  obtain ⟨ht1, ht2⟩ := takeC_spec ht
  let d := M0.length
  let n := cs.length
  have hfree1 : ∀ i, base ≤ i → i < base + cs.length → γ1 M0.length i = none := fun i h1 h2 => by
    cases hg : γ1 M0.length i with
    | none => rfl
    | some g => exact absurd (hS.new _ _ (hfree i h1 h2) (by rw [hg]; simp)) (by simp)
  have hG : ∀ e i, takeG γ1 M0.length base cs.length e i = if e = M0.length ∧ base ≤ i ∧ i < base + cs.length then γ1 (M0.length + 1) (i - base) else if e = M0.length + 1 then none else γ1 e i := fun e i => rfl
  have hk : ∀ e id, e < M0.length + 1 → γ1 e id ≠ none → takeG γ1 M0.length base cs.length e id = γ1 e id := by
    intro e id he hne
    rw [hG, if_neg, if_neg (by omega)]
    rintro ⟨h1, h2, h3⟩
    subst h1
    exact hne (hfree1 _ h2 h3)
  have hent : ∀ e i, ent (s' :: M0') e i = if e = M0.length ∧ base ≤ i ∧ i < base + cs.length then cs[i - base]? else ent (s1 :: M0') e i := by
    intro e i
    simp only [ent, hlen]
    by_cases he : e = M0.length
    · simp only [he, if_true, true_and]; exact ht1 i
    · simp only [he, if_false, false_and]
  have hex : ∀ j, ent (exS cs :: s1 :: M0') (M0.length + 1) j = cs[j]? := fun j => by
    have : (s1 :: M0').length = M0.length + 1 := by simp [hlen]
    rw [← this]; exact ent_cons_top
  have hexo : ∀ e j, e ≠ M0.length + 1 → ent (exS cs :: s1 :: M0') e j = ent (s1 :: M0') e j := fun e j h => ent_cons_old (by simpa [hlen] using h)
  have hlt1 : ∀ {e i}, ent (s1 :: M0') e i ≠ none → e < M0.length + 1 := fun h => by have := ent_lt h; simpa [hlen] using this
  have hfr : ∀ id g, γ1 (M0.length + 1) id = some g → w.heap.size ≤ g.b := fun id g hg => by
    rcases hS.fresh _ _ _ hg with ⟨g0, hg0, _⟩ | h
    · exact absurd (hdom _ _ (by rw [hg0]; simp)) (Nat.lt_irrefl _)
    · exact h
  -- where an entry of the new memory comes from
  have hsrc : ∀ e i c, ent (s' :: M0') e i = some c → ∃ e1 i1, ent (exS cs :: s1 :: M0') e1 i1 = some c ∧ γ1 e1 i1 = takeG γ1 M0.length base cs.length e i ∧
      ((e1 = M0.length + 1 ∧ e = M0.length ∧ i1 + base = i ∧ base ≤ i ∧ i < base + cs.length) ∨ (e1 = e ∧ i1 = i ∧ e < M0.length + 1 ∧ ¬ (e = M0.length ∧ base ≤ i ∧ i < base + cs.length))) := by
    intro e i c hc
    rw [hent] at hc
    split at hc
    · rename_i hh
      refine ⟨M0.length + 1, i - base, by rw [hex]; exact hc, by rw [hG, if_pos hh], .inl ⟨rfl, hh.1, by omega, hh.2⟩⟩
    · rename_i hh
      have he := hlt1 (by rw [hc]; simp)
      refine ⟨e, i, by rw [hexo _ _ (by omega)]; exact hc, by rw [hG, if_neg hh, if_neg (by omega)], .inr ⟨rfl, rfl, he, hh⟩⟩
  constructor
  · refine ⟨fun e i c hc => ?_, fun e i c e' i' c' g g' h1 h2 h3 h4 h5 h6 => ?_, fun e i g hg => ?_⟩
    · obtain ⟨e1, i1, he1, hg1, hcase⟩ := hsrc e i c hc
      obtain ⟨g, hg, hcr⟩ := hM1.ent e1 i1 c he1
      refine ⟨g, by rw [← hg1]; exact hg, ?_⟩
      rcases hcase with ⟨rfl, rfl, hi, hb⟩ | ⟨rfl, rfl, hlt, hn⟩
      · have hfl : c.flat = true := by
          rw [hex] at he1
          exact hflat c (List.mem_of_getElem? he1)
        cases c with
        | map es rw => simp [Con.flat] at hfl
        | bld T b rw => simp [Con.flat] at hfl
        | buf E s rw => simp [Con.flat] at hfl
        | cells c rw fl =>
          simp only [Con.flat] at hfl
          subst hfl
          obtain ⟨cs2, t, lo, hi2, h1, h2, h3, h4, h5, h6⟩ := hcr
          simp only [if_true] at h6
          refine ⟨cs2, t, lo, hi2, h1, h2, h3, ⟨h4.1, fun j v r hv hr => srel_under hk (h4.2 j v r hv hr) ?_⟩, h5, by simpa using h6⟩
          exact under_mono (Nat.zero_le _) (unders_iff.1 h6 v (List.mem_of_getElem? hv))
      · exact crel_under hk (by omega) hcr
    · obtain ⟨e1, i1, he1, hg1, hc1⟩ := hsrc e i c h1
      obtain ⟨e2, i2, he2, hg2, hc2⟩ := hsrc e' i' c' h3
      have := hM1.inj e1 i1 c e2 i2 c' g g' he1 h2 he2 (by rw [hg1]; exact h4) (by rw [hg2]; exact h5) h6
      obtain ⟨q1, q2⟩ := this
      rcases hc1 with ⟨a1, a2, a3, a4⟩ | ⟨a1, a2, a3, a4⟩ <;> rcases hc2 with ⟨b1, b2, b3, b4⟩ | ⟨b1, b2, b3, b4⟩ <;> constructor <;> omega
    · rw [hG] at hg
      split at hg
      · exact hM1.bnd _ _ _ hg
      · split at hg
        · cases hg
        · exact hM1.bnd _ _ _ hg
  · have hgold : ∀ e i, γ e i ≠ none → takeG γ1 M0.length base cs.length e i = γ1 e i := by
      intro e i hne
      have he := hdom e i hne
      rw [hG, if_neg, if_neg (by omega)]
      rintro ⟨h1, h2, h3⟩
      subst h1
      exact hne (hfree _ h2 h3)
    have hentold : ∀ e i, ent (s :: M0) e i ≠ none → ent (s' :: M0') e i = ent (exS cs :: s1 :: M0') e i := by
      intro e i hne
      have he := ent_lt hne
      simp only [List.length_cons] at he
      rw [hexo _ _ (by omega), hent, if_neg]
      rintro ⟨h1, h2, h3⟩
      subst h1
      cases h0 : ent (s :: M0) M0.length i with
      | none => exact hne h0
      | some c =>
        obtain ⟨g, hg, _⟩ := hM.ent _ _ _ h0
        rw [hfree i h2 h3] at hg; cases hg
    refine ⟨hS.os, hS.tape, hS.output, hS.size, fun b hb hn => hS.frame b hb (fun e id c g hc => hn e id c g (by rw [ent_empty] at hc; exact hc)), fun e i g hg => ?_, fun e i h1 h2 => ?_, fun e i c h1 h2 => ?_, fun e i g hg => ?_,
      by simp [hlen], fun e i h1 => ?_, fun e i c h1 => ?_, fun e i h1 h2 => ?_, fun e i h1 h2 => ?_, fun e i h1 h2 => ?_⟩
    · rw [hgold e i (by rw [hg]; simp)]; exact hS.ext e i g hg
    · rw [hgold e i h2]; exact hS.hid e i (by rw [ent_empty]; exact h1) h2
    · obtain ⟨k1, k2⟩ := hS.keep e i c (by rw [ent_empty]; exact h1) h2
      obtain ⟨g, hg, _⟩ := hM.ent _ _ _ h1
      exact ⟨by rw [hgold e i (by rw [hg]; simp)]; exact k1, by rw [hentold e i (by rw [h1]; simp)]; exact k2⟩
    · rw [hG] at hg
      split at hg
      · exact .inr (hfr _ _ hg)
      · split at hg
        · cases hg
        · exact hS.fresh _ _ _ hg
    · by_cases hh : e = M0.length ∧ base ≤ i ∧ i < base + cs.length
      · right
        obtain ⟨h2, h3, h4⟩ := hh
        subst h2
        exact hfree i h3 h4
      · rw [hent, if_neg hh] at h1
        have he := hlt1 h1
        rw [← hexo _ _ (by omega)] at h1
        rcases hS.dom e i h1 with h | h
        · left; rw [ent_empty] at h; exact h
        · exact .inr h
    · obtain ⟨c', hc', hrw⟩ := hS.rwk e i c (by rw [ent_empty]; exact h1)
      exact ⟨c', by rw [hentold e i (by rw [h1]; simp)]; exact hc', hrw⟩
    · rw [hG] at h2
      split at h2
      · assumption
      · split at h2
        · exact absurd rfl h2
        · have := hS.new e i h1 h2
          omega
    · by_cases hh : e = M0.length ∧ base ≤ i ∧ i < base + cs.length
      · exact hh
      · rw [hent, if_neg hh] at h2
        have he := hlt1 h2
        rw [← hexo _ _ (by omega)] at h2
        have := hS.newE e i (by rw [ent_empty]; exact h1) h2
        omega
    · rw [hG] at h2
      split at h2
      · rename_i hh
        rw [hent, if_pos hh, List.getElem?_eq_getElem (by omega)]; simp
      · split at h2
        · exact absurd rfl h2
        · have := hS.new e i h1 h2
          omega

section
variable {P : Program} {q : Qs} {base : Nat}

theorem cOp_call {o : Oper} {id n : Nat} {quiet : Bool} {f : Opd} {args : List Opd} (hc : cOp P q base o = some (.call id n quiet f args)) :
    id = base ∧ n = 4 ∧ ∃ g xs ts, o.op = .call { callee := .value g, args := xs, argTypes := ts } ∧ cOpd P g = some f ∧ cOpds P xs.toList = some args := by
  obtain ⟨dst, op, ty, pos, after, guard⟩ := o
  unfold cOp at hc
  split at hc
  · simp only [Option.map_eq_some_iff] at hc; obtain ⟨_, _, hp⟩ := hc; cases hp
  · simp only [Option.map_eq_some_iff] at hc; obtain ⟨_, _, hp⟩ := hc; cases hp
  · split at hc <;> cases hc
  · split at hc
    · unfold cBin at hc
      split at hc
      all_goals
        (try split at hc)
        all_goals first
          | (cases hc; done)
          | (simp only [Option.map_eq_some_iff] at hc; obtain ⟨_, _, hp⟩ := hc; cases hp; done)
    · cases hc
  · simp only [Option.map_eq_some_iff] at hc; obtain ⟨_, _, hp⟩ := hc; cases hp
  · simp only [Option.bind_eq_some_iff] at hc
    obtain ⟨x', hx, hc⟩ := hc
    split at hc
    · cases hc
    · cases hc
    · split at hc <;> cases hc
    · split at hc <;> cases hc
    · cases hc
  · simp only [Option.map_eq_some_iff] at hc; obtain ⟨_, _, hp⟩ := hc; cases hp
  · simp only [Option.map_eq_some_iff] at hc; obtain ⟨_, _, hp⟩ := hc; cases hp
  · split at hc
    · split at hc
      · simp only [Option.map_eq_some_iff] at hc; obtain ⟨_, _, hp⟩ := hc; cases hp
      · cases hc
    · simp only [Option.bind_eq_some_iff, Option.map_eq_some_iff] at hc; obtain ⟨_, _, _, _, hp⟩ := hc; cases hp
    · cases hc
  · split at hc
    · split at hc
      · split at hc
        · simp only [Option.map_eq_some_iff] at hc; obtain ⟨_, _, hp⟩ := hc; cases hp
        · cases hc
      · cases hc
    · cases hc
  · split at hc <;> cases hc
  · split at hc
    · cases hc
    · split at hc <;> cases hc
    · cases hc
  · split at hc
    · split at hc
      · split at hc
        · split at hc <;> cases hc
        · cases hc
      · cases hc
    · cases hc
  · split at hc
    · split at hc
      · split at hc <;> cases hc
      · cases hc
    · cases hc
  · split at hc
    · simp only [Option.map_eq_some_iff] at hc; obtain ⟨_, _, hp⟩ := hc; cases hp
    · simp only [Option.map_eq_some_iff] at hc; obtain ⟨_, _, hp⟩ := hc; cases hp
    · cases hc
  · split at hc
    · cases hc
    · split at hc
      · cases hc
      · split at hc <;> cases hc
      · cases hc
    · cases hc
  · split at hc
    · cases hc
    · simp only [Option.bind_eq_some_iff] at hc; obtain ⟨_, _, hc⟩ := hc; split at hc <;> cases hc
    · simp only [Option.bind_eq_some_iff] at hc; obtain ⟨_, _, hc⟩ := hc; split at hc <;> cases hc
    · cases hc
  · simp only [Option.map_eq_some_iff] at hc; obtain ⟨_, _, hp⟩ := hc; cases hp
  · split at hc <;> cases hc
  · split at hc
    · split at hc <;> cases hc
    · cases hc
  · split at hc <;> cases hc
  · split at hc
    · split at hc <;> cases hc
    · cases hc
  · split at hc
    · simp only [Option.map_eq_some_iff] at hc; obtain ⟨_, _, hp⟩ := hc; cases hp
    · cases hc
  · split at hc
    · simp only [Option.map_eq_some_iff] at hc; obtain ⟨_, _, hp⟩ := hc; cases hp
    · cases hc
  · simp only [Option.map_eq_some_iff] at hc; obtain ⟨_, _, hp⟩ := hc; cases hp
  · rename_i c ho; simp only at ho; subst ho
    obtain ⟨callee, xs, ts⟩ := c
    split at hc
    · rename_i args' hargs
      split at hc
      · unfold cBuiltin at hc
        split at hc
        · split at hc <;> (try cases hc)
          split at hc <;> cases hc
        · unfold cMM at hc; split at hc <;> cases hc
        · unfold cMM at hc; split at hc <;> cases hc
        · split at hc
          · split at hc
            · split at hc <;> cases hc
            · cases hc
          · split at hc
            · split at hc <;> cases hc
            · cases hc
          · cases hc
        · split at hc
          · split at hc
            · split at hc <;> cases hc
            · cases hc
          · cases hc
        · cases hc
      · rename_i g hg
        simp only at hg; subst hg
        cases hc
        exact ⟨rfl, rfl, _, _, _, rfl, rfl, hargs⟩
      · rename_i g hng hg
        simp only at hg; subst hg
        simp only [Option.map_eq_some_iff] at hc
        obtain ⟨x', hx, hp⟩ := hc
        cases hp
        exact ⟨rfl, rfl, _, _, _, rfl, hx, hargs⟩
      · cases hc
    · cases hc
  · cases hc

theorem own_free {H : Nat → Prop} {s : Scope} {M0 : Mem} {γ : Gam} (hdom : DomH H (s :: M0) γ) {id : Nat} (hH : ¬ H id) (hs : s id = none) : γ M0.length id = none := by
  cases hg : γ M0.length id with
  | none => rfl
  | some g =>
    rcases (hdom M0.length id (by rw [hg]; simp)).2 (by simp) with h | h
    · rw [ent_cons_top, hs] at h; exact absurd rfl h
    · exact absurd h hH

theorem stp_own {own own' : Nat → Nat → Prop} (h : ∀ e i, own e i → own' e i) {M M' : Mem} {γ γ' : Gam} {w w' : World} (hS : Stp own M γ w M' γ' w') : Stp own' M γ w M' γ' w' :=
  ⟨hS.os, hS.tape, hS.output, hS.size, hS.frame, hS.ext, hS.hid, hS.keep, hS.fresh, hS.len, hS.dom, hS.rwk, fun e i a b => h _ _ (hS.new e i a b), fun e i a b => h _ _ (hS.newE e i a b), hS.newM⟩

/-- The operation that o comes to: the builder's first. -/
def cOpX (P : Program) (q : Qs) (base : Nat) (o : Oper) : Option SOp :=
  match cBld P q base o with
  | some b => some (.b base b)
  | none => match cOp P q base o with
    | some (.r (.load1 x)) => match q.h base with
      | some i => some (.r (.loadT i x))
      | none => some (.r (.load1 x))
    | r => r

theorem loadT_ev {C : Det.Calls} {e : Env} {M : Mem} {i : Nat} {x : Opd} {r : AV × Mem} (h : evOp C (.r (.loadT i x)) e M = some r) : evOp C (.r (.load1 x)) e M = some r := by
  simp only [evOp, evR] at h ⊢
  cases hx : opd e x with
  | ptr a =>
    cases a with
    | none => rw [hx] at h; cases h
    | some a =>
      rw [hx] at h
      simp only at h ⊢
      by_cases hc : a.id = i ∧ a.dep + 1 = M.length
      · rw [if_pos hc] at h; exact h
      · rw [if_neg hc] at h; cases h
  | _ => rw [hx] at h; cases h

theorem builtin_notb {base : Nat} {b : Builtin} {ts : List TypeId} {args : List Opd} {id : Nat} {B : BOp} (hc : cBuiltin P base b ts args = some (.b id B)) : False := by
  unfold cBuiltin at hc
  split at hc
  · split at hc <;> (try cases hc)
    split at hc <;> cases hc
  · unfold cMM at hc; split at hc <;> cases hc
  · unfold cMM at hc; split at hc <;> cases hc
  · split at hc
    · split at hc
      · split at hc <;> cases hc
      · cases hc
    · split at hc
      · split at hc <;> cases hc
      · cases hc
    · cases hc
  · split at hc
    · split at hc
      · split at hc <;> cases hc
      · cases hc
    · cases hc
  · cases hc

theorem bin_notb {op : BinOp} {t : TypeId} {x y : Opd} {id : Nat} {B : BOp} (hc : cBin P op t x y = some (.b id B)) : False := by
  unfold cBin at hc
  split at hc
  all_goals
    (try split at hc)
    all_goals first
      | (cases hc; done)
      | (simp only [Option.map_eq_some_iff] at hc; obtain ⟨_, _, hp⟩ := hc; cases hp; done)

theorem cOp_notb {o : Oper} {id : Nat} {B : BOp} (hc : cOp P q base o = some (.b id B)) : False := by
  unfold cOp at hc
  split at hc
  all_goals
    repeat' first
      | (cases hc; done)
      | exact builtin_notb hc
      | exact bin_notb hc
      | (simp only [Option.map_eq_some_iff] at hc; obtain ⟨_, _, hp⟩ := hc; cases hp; done)
      | (simp only [Option.bind_eq_some_iff] at hc; obtain ⟨_, _, hc⟩ := hc)
      | split at hc

/-- The builder's operation, in the model: a new block, or a call. -/
theorem cBld_inv {o : Oper} {B : BOp} (hc : cBld P q base o = some B) :
    (∃ T, B = .new T ∧ o.op = .alloc T ∧ zeroOf P T = some [.ptr none, .slice none 0 0]) ∨
    (∃ i j T E g f xs ts args, o.op = .call { callee := .value g, args := xs, argTypes := ts } ∧ cOpd P g = some f ∧ cOpds P xs.toList = some args ∧ bInfo P = some (i, j, T, E) ∧ (B = .write i T E f args ∨ B = .str j T E f args)) := by
  obtain ⟨dst, op, ty, pos, after, guard⟩ := o
  unfold cBld at hc
  split at hc
  · rename_i elem ho; simp only at ho; subst ho
    split at hc
    · split at hc
      · rename_i hz; cases hc; exact .inl ⟨_, rfl, rfl, hz⟩
      · cases hc
    · cases hc
  · rename_i c ho; simp only at ho; subst ho
    obtain ⟨callee, xs, ts⟩ := c
    right
    split at hc
    · rename_i f hf; simp only at hf; subst hf
      split at hc
      · split at hc
        · rename_i i j T E args hb ha; cases hc; exact ⟨i, j, T, E, _, _, xs, ts, args, rfl, rfl, ha, hb, .inl rfl⟩
        · cases hc
      · split at hc
        · split at hc
          · rename_i i j T E args hb ha; cases hc; exact ⟨i, j, T, E, _, _, xs, ts, args, rfl, rfl, ha, hb, .inr rfl⟩
          · cases hc
        · cases hc
    · rename_i x hnx hx; simp only at hx; subst hx
      split at hc
      · split at hc
        · rename_i i j T E x' args hb hx ha; cases hc; exact ⟨i, j, T, E, _, _, xs, ts, args, rfl, hx, ha, hb, .inl rfl⟩
        · cases hc
      · cases hc
    · cases hc
  · cases hc

theorem bArgs_inv {i : Nat} {f : AV} {args l : List AV} (h : bArgs i f args = some l) : ∃ first captured, f = .func i first captured ∧ l = first ++ args ++ captured := by
  unfold bArgs at h
  split at h
  · split at h
    · rename_i hj; cases h; subst hj; exact ⟨_, _, rfl, rfl⟩
    · cases h
  · cases h

theorem op_sound {o : Oper} {sop : SOp} {C : Det.Calls} {e : Env} {s : Scope} {M0 M' : Mem} {v : AV} {γ : Gam} {w : World} {a : Act} {H : Nat → Prop} (hcopX : cOpX P q base o = some sop) (hev : evOp C sop e (s :: M0) = some (v, M'))
    (hM : MRel (s :: M0) γ w) (hG : GRel P γ) (hE : ERel γ e a.tmps) (hdom : DomH H (s :: M0) γ) (hH : ∀ id, Own base id → ¬ H id) (hC : CallsOk P C) {K : Act → World → Prop} {Q : Exit → Act → World → Prop}
    (hK : ∀ r w' γ', VRel γ' v r → MRel M' γ' w' → Stp (fun e id => e = M0.length ∧ Own base id) (s :: M0) γ w M' γ' w' → K (a.put o.dst r) w') : o.wp P a w K Q := by
  have hd1 : ∀ e i, γ e i ≠ none → e < M0.length + 1 := fun e i h => by have := (hdom e i h).1; simpa using this
  have hown : Own base base := ⟨Nat.le_refl _, by omega⟩
  have hfree : s base = none → γ M0.length base = none := own_free hdom (hH base hown)
  have hcop : (∃ B, sop = .b base B ∧ cBld P q base o = some B) ∨ ∃ sop', cOp P q base o = some sop' ∧ evOp C sop' e (s :: M0) = some (v, M') := by
    unfold cOpX at hcopX
    split at hcopX
    · rename_i B hB; cases hcopX; exact .inl ⟨B, rfl, hB⟩
    · right
      split at hcopX
      · rename_i x hc
        split at hcopX
        · cases hcopX; exact ⟨_, hc, loadT_ev hev⟩
        · cases hcopX; exact ⟨_, hc, hev⟩
      · exact ⟨_, hcopX, hev⟩
  clear hcopX
  obtain ⟨B, rfl, hB⟩ | ⟨sop', hcop, hev'⟩ := hcop
  · simp only [evOp] at hev
    rcases cBld_inv hB with ⟨T, rfl, hop, hz⟩ | ⟨i, j, T, E, g, f, xs, ts, args, hop, hg, hxs, hbi, hcase⟩
    · simp only [evB, allocTop] at hev
      cases hs : s base with
      | some c0 => rw [hs] at hev; cases hev
      | none =>
        rw [hs] at hev
        simp only [Option.some.injEq, Prod.mk.injEq] at hev
        obtain ⟨rfl, rfl⟩ := hev
        obtain ⟨zv, i, hi, hzv, hzr⟩ := zero_rel hz
        obtain ⟨r1, m1, e1, h1, k1⟩ := (hzr γ).of_cons
        obtain ⟨r2, m2, e2, h2, k2⟩ := k1.of_cons
        have e3 := k2.of_nil
        subst e3; subst e2
        have hr1 : r1 = .pointer none := by cases h1; rfl
        have hr2 : r2 = .slice none 0 0 := by cases h2; rfl
        subst hr1; subst hr2
        have hcs : zv.cells = #[.pointer none, .slice none 0 0] := Array.ext' e1
        obtain ⟨m1, m2⟩ := alloc_step (own := fun e i => e = M0.length ∧ Own base i) (c := .bld T (.slice none 0 1) true) (obj := .cells zv.cells T) (dr := w.drawn) hM hs (hfree hs) (g := ⟨w.heap.size, 2, 2, 0⟩) rfl (Nat.le_refl _)
          (fun γ' hx => ⟨_, _, by rw [← hcs]; exact grow_new _ _ _, rfl, rfl, rfl, .inl rfl, .slice0 _, rfl⟩) ⟨rfl, hown⟩
        have hrun : (execOp a.eval o).run P w = .ok (.value (.pointer (some ⟨w.heap.size, 0, none⟩))) (World.grow w (.cells zv.cells T) w.drawn) := by
          obtain ⟨dst, op, ty, pos, after, guard⟩ := o
          simp only at hop
          subst hop
          simp only [execOp]
          refine exec_v' _ _ w _ ?_
          simp only [Instr.alloc, Sem.run_bind, r_zero hi hzv, Result.andThen_ok]
          rfl
        unfold Oper.wp
        rw [hrun]
        exact hK _ _ _ (ptr_new (addG_new _ _ _ _) rfl) m1 m2
    · have rf := opd_rel hG hE hg
      have rargs := opds_rel hG hE hxs
      have hcall : ∀ (n : Nat) (l : List AV), FnThere P n → bArgs n (opd e f) (opds e args) = some l →
          ∃ vs : List Value, Pw (VRel γ) l vs ∧ (execOp a.eval o).run P w = .ok (.enter n vs.toArray) w := by
        intro n l hn hl
        obtain ⟨first, captured, hf, rfl⟩ := bArgs_inv hl
        rw [hf] at rf
        obtain ⟨l', m', er, hl, hm⟩ := rf.func_inv
        obtain ⟨fn, hfn, hname, hbody⟩ := hn
        refine ⟨l' ++ xs.toList.map a.eval ++ m', Pw.append (Pw.append (hl.mono fun _ _ h => .sc h) rargs) (hm.mono fun _ _ h => .sc h), ?_⟩
        obtain ⟨dst, op, ty, pos, after, guard⟩ := o
        simp only at hop
        subst hop
        have hfirst : (l'.toArray ++ xs.map a.eval ++ m'.toArray) = (l' ++ xs.toList.map a.eval ++ m').toArray := Array.ext' (by simp)
        simp only [execOp, resolve, er, Deferred.ofValue, Sem.run_bind, Sem.run_pure, Result.andThen_ok, invoke, callFunc, Go.run_program, hfn, hname, Bool.false_eq_true, if_false, hbody, hfirst]
      obtain ⟨hW, hS⟩ := hC.1 i j T E hbi
      rcases hcase with rfl | rfl <;> simp only [evB] at hev
      · split at hev
        · rename_i l hl
          obtain ⟨vs, hvs, hrun⟩ := hcall i l hW.fn hl
          unfold Oper.wp
          rw [hrun, Oper.upon_enter]
          refine (bWrite_sound (own := fun e id => e = M0.length ∧ Own base id) hW hM hfree ⟨rfl, hown⟩ hvs hev).mono ?_
          rintro ee w1 ⟨r, γ1, rfl, h1, h2, h3⟩
          exact hK r w1 γ1 h1 h2 h3
        · cases hev
      · split at hev
        · rename_i l hl
          split at hev
          · rename_i u hu
            cases hev
            obtain ⟨vs, hvs, hrun⟩ := hcall j l hS.fn hl
            unfold Oper.wp
            rw [hrun, Oper.upon_enter]
            refine (bStr_sound (own := fun e id => e = M0.length ∧ Own base id) hS hM hvs hu).mono ?_
            rintro ee w1 ⟨r, rfl, h1, h2, h3⟩
            exact hK r w1 γ h1 h2 h3
          · cases hev
        · cases hev
  clear hev
  have hev := hev'
  clear hev'
  revert hev hcop
  generalize sop' = sop
  intro hcop hev
  cases sop with
  | b id B => exact (cOp_notb hcop).elim
  | p p =>
    simp only [evOp] at hev
    split at hev
    · rename_i u hu
      cases hev
      obtain ⟨r, hr, hrun⟩ := evP_sound hG hE (fun e id g hg => (hM.bnd e id g hg).2) hcop hu
      unfold Oper.wp
      rw [hrun w]
      exact hK r w γ hr hM (Stp.refl _ _ _ _)
    · cases hev
  | a id A =>
    simp only [evOp] at hev
    split at hev
    · rename_i c f hcf
      obtain ⟨hid, hA⟩ := evA_sound hG hE hcop hcf
      subst hid
      simp only [allocTop] at hev
      cases hs : s id with
      | some c0 => rw [hs] at hev; simp at hev
      | none =>
        rw [hs] at hev
        simp only [Option.some.injEq, Prod.mk.injEq] at hev
        obtain ⟨rfl, rfl⟩ := hev
        obtain ⟨obj, dr, g, r, hrun, hgb, hgr, hgs, hCR, hV⟩ := hA w M0.length id hd1
        obtain ⟨m1, m2⟩ := alloc_step (own := fun e i => e = M0.length ∧ Own id i) hM hs (hfree hs) hgb hgr hCR ⟨rfl, hown⟩
        unfold Oper.wp
        rw [hrun]
        exact hK r _ _ (hV _ (addG_new _ _ _ _)) m1 m2
    · cases hev
  | r R =>
    simp only [evOp] at hev
    split at hev
    · rename_i u hu
      cases hev
      obtain ⟨r, hr, hrun⟩ := evR_sound hM hG hE hcop hu
      unfold Oper.wp
      rw [hrun]
      exact hK r w γ hr hM (Stp.refl _ _ _ _)
    · cases hev
  | w W =>
    simp only [evOp] at hev
    obtain ⟨nx, r, w', γ', hrun, hnx, hv, m1, m2⟩ := evW_sound (own := fun e i => e = M0.length ∧ Own base i) hM hG hE hd1 hfree ⟨rfl, hown⟩ hcop hev
    unfold Oper.wp
    rw [hrun]
    rcases hnx with rfl | ⟨rfl, rfl⟩
    · exact hK r w' γ' hv m1 m2
    · exact hK _ w' γ' hv m1 m2
  | call id n quiet f args =>
    obtain ⟨rfl, rfl, g, xs, ts, hop, hg, hxs⟩ := cOp_call hcop
    have rf := opd_rel hG hE hg
    have rargs := opds_rel hG hE hxs
    simp only [evOp, callOp] at hev
    split at hev
    · rename_i i first captured hf
      rw [hf] at rf
      obtain ⟨l', m', er, hl, hm⟩ := rf.func_inv
      split at hev
      · rename_i u cs M1 hCall
        have hargs : Pw (VRel γ) (first ++ opds e args ++ captured) (l' ++ xs.toList.map a.eval ++ m') :=
          (Pw.append (Pw.append (hl.mono fun _ _ h => .sc h) rargs) (hm.mono fun _ _ h => .sc h))
        obtain ⟨⟨fn, hfn, hname, hbody⟩, hcalls⟩ := hC.2 _ _ _ _ _ _ hCall
        have hrun : (execOp a.eval o).run P w = .ok (.enter i (l' ++ xs.toList.map a.eval ++ m').toArray) w := by
          obtain ⟨dst, op, ty, pos, after, guard⟩ := o
          simp only at hop
          subst hop
          have hfirst : (l'.toArray ++ xs.map a.eval ++ m'.toArray) = (l' ++ xs.toList.map a.eval ++ m').toArray := Array.ext' (by simp)
          simp only [execOp, resolve, er, Deferred.ofValue, Sem.run_bind, Sem.run_pure, Result.andThen_ok, invoke, callFunc, Go.run_program, hfn, hname, Bool.false_eq_true, if_false, hbody, hfirst]
        have finish : ∀ (s1 : Scope) (M0' : Mem) (s' : Scope) (γ1 : Gam) (w1 : World) (r : Value), MRel (exS cs :: s1 :: M0') γ1 w1 → Stp (fun e _ => e = (s :: M0).length) (mk [] :: s :: M0) γ w (exS cs :: s1 :: M0') γ1 w1 →
            (∀ e id, γ1 e id ≠ none → e < (s :: M0).length ∨ (e = (s :: M0).length ∧ id < cs.length)) → VRel γ1 u r → AV.ret (s :: M0).length u = true → (∀ c ∈ cs, c.flat = true) → cs.length ≤ 4 → takeC id cs s1 = some s' →
            v = takeV M0.length id u → M' = s' :: M0' → s1 = s1 → (∀ j, id ≤ j → j < id + cs.length → s1 j = none) → K (a.put o.dst r) w1 := by
          intro s1 M0' s' γ1 w1 r hM1 hS1 hdom1 hv hret hflat hle htk hveq hMeq _ hs1none
          have hlen : M0'.length = M0.length := by have := hS1.len; simpa using this
          have hfree2 : ∀ j, id ≤ j → j < id + cs.length → γ M0.length j = none := by
            intro j h1 h2
            have hOj : Own id j := ⟨h1, by omega⟩
            refine own_free hdom (hH j hOj) ?_
            cases hsj : s j with
            | none => rfl
            | some c0 =>
              obtain ⟨c1, hc1, _⟩ := hS1.rwk M0.length j c0 (by rw [ent_empty, ent_cons_top]; exact hsj)
              rw [ent_cons_old (by simp [hlen])] at hc1
              rw [← hlen, ent_cons_top] at hc1
              rw [hs1none j h1 h2] at hc1; cases hc1
          have hdomx : ∀ i, γ1 (M0.length + 1) i ≠ none → i < cs.length := fun i h => by
            rcases hdom1 _ _ h with h | h
            · simp at h
            · exact h.2
          obtain ⟨t1, t2⟩ := take_step hM hd1 hM1 hS1 hdomx hfree2 hflat htk
          have hfree1 : ∀ i, id ≤ i → i < id + cs.length → γ1 M0.length i = none := fun i h1 h2 => by
            cases hg : γ1 M0.length i with
            | none => rfl
            | some g => have := hS1.new _ _ (hfree2 i h1 h2) (by rw [hg]; simp); simp at this
          have hv2 := takeV_rel (d := M0.length) (base := id) (n := cs.length) hfree1 hdomx (by simpa using hret) hv
          subst hveq
          subst hMeq
          exact hK r w1 _ hv2 t1 (stp_own (fun e i h => ⟨h.1, h.2.1, by have := h.2.2; omega⟩) t2)
        unfold Oper.wp
        rw [hrun, Oper.upon_enter]
        cases quiet with
        | true =>
          simp only [if_true] at hev hCall hcalls
          split at hev
          · rename_i hle
            have hle := hle.1
            split at hev
            · rename_i s2 htk
              cases hev
              refine (hcalls γ w _ (by simp [ro]) (by simpa using hargs) (mrel_ro hM) hG (fun e id h => by rw [ro_length]; exact hd1 e id h)).mono ?_
              rintro ee w1 ⟨r, γ1, rfl, hv, hM1, hret, hflat, hS1, hdom1⟩
              rw [ro_length] at hret hdom1
              have hS1' : Stp (fun e _ => e = (s :: M0).length) (mk [] :: Det.ro (s :: M0)) γ w (exS cs :: M1) γ1 w1 := by rw [ro_length] at hS1; exact hS1
              obtain ⟨k1, k2⟩ := quiet_step hM (fun e i h => hd1 e i h) hM1 hS1'
              exact finish s M0 s2 γ1 w1 r k1 k2 hdom1 hv hret hflat hle htk rfl rfl rfl (takeC_spec htk).2
            · cases hev
          · cases hev
        | false =>
          simp only [Bool.false_eq_true, if_false] at hev hCall hcalls
          split at hev
          · rename_i s' M0x
            split at hev
            · rename_i hle
              have hle := hle.1
              split at hev
              · rename_i s2 htk
                cases hev
                refine (hcalls γ w _ (by simp) (by simpa using hargs) hM hG (fun e id h => hd1 e id h)).mono ?_
                rintro ee w1 ⟨r, γ1, rfl, hv, hM1, hret, hflat, hS1, hdom1⟩
                have hlen : M0x.length = M0.length := by have := hS1.len; simpa using this
                exact finish s' M0x s2 γ1 w1 r hM1 hS1 hdom1 hv hret hflat hle htk (by rw [hlen]) rfl rfl (takeC_spec htk).2
              · cases hev
            · cases hev
          · cases hev
      · cases hev
    · cases hev

end

end Go.Det

/-
  DET, part K: regions.
-/
import Derived.Test.YtaennaoaoahjmaaDoorDetJ
set_option linter.unusedSimpArgs false
set_option linter.unusedVariables false
namespace Go.Det

/-- The names of an operation's blocks: the region's number, the operation's place. -/
def bs (id i : Nat) : Nat := 4000 * id + 4 * i

def binding (o : Oper) : List Nat := (o.after.toList.filter (Region.binds .any)).map (·.on)

theorem mem_binding {o : Oper} {k : Nat} : k ∈ binding o ↔ ∃ e ∈ o.after, Region.binds .any e = true ∧ e.on = k := by
  unfold binding
  simp only [List.mem_map, List.mem_filter, Array.mem_toList_iff]
  constructor
  · rintro ⟨e, ⟨h1, h2⟩, h3⟩; exact ⟨e, h1, h2, h3⟩
  · rintro ⟨e, h1, h2, h3⟩; exact ⟨e, ⟨h1, h2⟩, h3⟩

def nub : List Nat → List Nat
  | [] => []
  | x :: l => let m := nub l; if m.contains x then m else x :: m

/-- For each operation those that come before it on each road. -/
def ancs : List Oper → List (List Nat) → List (List Nat)
  | [], acc => acc
  | o :: l, acc => ancs l (acc ++ [nub ((binding o).flatMap fun k => k :: acc.getD k [])])

def edgesOk : List Oper → Nat → Bool
  | [], _ => true
  | o :: l, i => ((binding o).all fun k => decide (k < i)) && edgesOk l (i + 1)

def ancOk (T : List (List Nat)) : List Oper → Nat → Bool
  | [], _ => true
  | o :: l, i => ((T.getD i []).all fun k => (binding o).any fun e => e == k || (T.getD e []).contains k) && ancOk T l (i + 1)

def cOpers (P : Program) (q : Qs) (ops : Array Oper) (id : Nat) (H : List (List Nat)) : List Oper → Nat → Option (List SOper)
  | [], _ => some []
  | o :: l, i => match cOper P q ops (bs id i) (H.getD i []) o, cOpers P q ops id H l (i + 1) with
    | some x, some m => some (x :: m)
    | _, _ => none

def hides (T : List (List Nat)) (l : List SOper) : List (List Nat) :=
  l.zipIdx.map fun (x, i) => if x.op.pure then [] else
    l.zipIdx.flatMap fun (y, j) => if i == j || (T.getD i []).contains j || (T.getD j []).contains i then [] else y.op.own

/-- A pair that stands in no order: it commutes, or it does so where its blocks are told apart at the end. -/
def okF (F : Option (List (Nat × Nat))) (x y : SOper) : Bool :=
  indep x y || (match F with
    | some far => locPair far x y
    | none => false)

def pairsOkF (F : Option (List (Nat × Nat))) (T : List (List Nat)) : List SOper → Nat → Bool
  | [], _ => true
  | x :: l, k => go x k l (k + 1) && pairsOkF F T l (k + 1)
where
  go (x : SOper) (k : Nat) : List SOper → Nat → Bool
    | [], _ => true
    | y :: l, i => ((T.getD i []).contains k || okF F x y) && go x k l (i + 1)

/-- The blocks that are to be told apart. -/
def fars (T : List (List Nat)) : List SOper → Nat → List (Nat × Nat)
  | [], _ => []
  | x :: l, k => go x k l (k + 1) ++ fars T l (k + 1)
where
  go (x : SOper) (k : Nat) : List SOper → Nat → List (Nat × Nat)
    | [], _ => []
    | y :: l, i => (if ((T.getD i []).contains k || indep x y) = true then [] else x.op.addrsL.flatMap fun a => y.op.addrsL.map fun b => (a, b)) ++ go x k l (i + 1)

def cRegion (P : Program) (q : Qs) (id : Nat) (ops : Array Oper) (draw : Bool) : Option (List SOper × Option (List (Nat × Nat))) :=
  match draw with
  | false => (cOpers P q ops id [] ops.toList 0).map fun l => (l, none)
  | true =>
    let T := ancs ops.toList []
    match cOpers P q ops id [] ops.toList 0 with
    | none => none
    | some l0 => match cOpers P q ops id (hides T l0) ops.toList 0 with
      | none => none
      | some l =>
        if (edgesOk ops.toList 0 && ancOk T ops.toList 0 && pairsOkF none T l 0) = true then some (l, none) else
        let far := some (fars T l 0)
        if (edgesOk ops.toList 0 && ancOk T ops.toList 0 && pairsOkF far T l 0) = true ∧ steady l = true then some (l, far) else none

section
variable {P : Program} {q : Qs} {ops : Array Oper} {id : Nat} {H T : List (List Nat)} {F : Option (List (Nat × Nat))}

theorem cOpers_get : ∀ {l : List Oper} {i : Nat} {m : List SOper}, cOpers P q ops id H l i = some m → m.length = l.length ∧
    ∀ (k : Nat) (o : Oper), l[k]? = some o → ∃ x, m[k]? = some x ∧ cOper P q ops (bs id (i + k)) (H.getD (i + k) []) o = some x
  | [], i, m, h => by simp [cOpers] at h; subst h; exact ⟨rfl, fun k o h => by simp at h⟩
  | o :: l, i, m, h => by
    simp only [cOpers] at h
    split at h
    · rename_i x m' hx hm
      cases h
      obtain ⟨h1, h2⟩ := cOpers_get hm
      refine ⟨by simp [h1], fun k o' hk => ?_⟩
      cases k with
      | zero => simp at hk; subst hk; exact ⟨x, rfl, hx⟩
      | succ k =>
        simp only [List.getElem?_cons_succ] at hk
        obtain ⟨y, hy, hc⟩ := h2 k o' hk
        refine ⟨y, by simpa using hy, ?_⟩
        have e : i + 1 + k = i + (k + 1) := by omega
        rw [e] at hc
        exact hc
    · cases h

theorem edgesOk_get : ∀ {l : List Oper} {i : Nat}, edgesOk l i = true → ∀ (k : Nat) (o : Oper), l[k]? = some o → ∀ j ∈ binding o, j < i + k
  | [], i, _, k, o, h => by simp at h
  | o :: l, i, h, k, o', hk => by
    simp only [edgesOk, Bool.and_eq_true, List.all_eq_true, decide_eq_true_eq] at h
    cases k with
    | zero => simp at hk; subst hk; intro j hj; have := h.1 j hj; omega
    | succ k =>
      simp only [List.getElem?_cons_succ] at hk
      intro j hj
      have := edgesOk_get h.2 k o' hk j hj
      omega

theorem ancOk_get : ∀ {l : List Oper} {i : Nat}, ancOk T l i = true → ∀ (k : Nat) (o : Oper), l[k]? = some o → ∀ j ∈ T.getD (i + k) [], ∃ e ∈ binding o, e = j ∨ j ∈ T.getD e []
  | [], i, _, k, o, h => by simp at h
  | o :: l, i, h, k, o', hk => by
    simp only [ancOk, Bool.and_eq_true, List.all_eq_true, List.any_eq_true, Bool.or_eq_true, beq_iff_eq, List.contains_iff_mem] at h
    cases k with
    | zero => simp at hk; subst hk; intro j hj; exact h.1 j hj
    | succ k =>
      simp only [List.getElem?_cons_succ] at hk
      intro j hj
      have e : i + (k + 1) = i + 1 + k := by omega
      rw [e] at hj
      exact ancOk_get h.2 k o' hk j hj

/-- The pairs as a list of its own. -/
def Fits (F : Option (List (Nat × Nat))) (T : List (List Nat)) (l : List (Nat × SOper)) : Prop := l.Pairwise fun x y => x.1 < y.1 ∧ (x.1 ∈ T.getD y.1 [] ∨ okF F x.2 y.2 = true)

def number : List SOper → Nat → List (Nat × SOper)
  | [], _ => []
  | x :: l, i => (i, x) :: number l (i + 1)

theorem mem_number : ∀ {l : List SOper} {i : Nat} {p : Nat × SOper}, p ∈ number l i ↔ i ≤ p.1 ∧ l[p.1 - i]? = some p.2
  | [], i, p => by simp [number]
  | x :: l, i, p => by
    obtain ⟨k, y⟩ := p
    simp only [number, List.mem_cons, mem_number, Prod.mk.injEq]
    constructor
    · rintro (⟨rfl, rfl⟩ | ⟨h1, h2⟩)
      · simp
      · refine ⟨by omega, ?_⟩
        have : k - i = (k - (i + 1)) + 1 := by omega
        rw [this, List.getElem?_cons_succ]; exact h2
    · rintro ⟨h1, h2⟩
      by_cases hk : k = i
      · subst hk; simp at h2; exact .inl ⟨rfl, h2.symm⟩
      · right
        refine ⟨by omega, ?_⟩
        have : k - i = (k - (i + 1)) + 1 := by omega
        rw [this, List.getElem?_cons_succ] at h2; exact h2

theorem number_map : ∀ (l : List SOper) (i : Nat), (number l i).map (·.2) = l
  | [], _ => rfl
  | x :: l, i => by simp [number, number_map l]

theorem number_length : ∀ (l : List SOper) (i : Nat), (number l i).length = l.length
  | [], _ => rfl
  | x :: l, i => by simp [number, number_length l]

theorem pairsGo_get {x : SOper} {k : Nat} : ∀ {l : List SOper} {i : Nat}, pairsOkF.go F T x k l i = true → ∀ p ∈ number l i, k ∈ T.getD p.1 [] ∨ okF F x p.2 = true
  | [], i, _, p, h => by simp [number] at h
  | y :: l, i, h, p, hp => by
    rw [pairsOkF.go, Bool.and_eq_true, Bool.or_eq_true, List.contains_iff_mem] at h
    simp only [number, List.mem_cons] at hp
    rcases hp with rfl | hp
    · exact h.1
    · exact pairsGo_get h.2 p hp

theorem pairsOk_fits : ∀ {l : List SOper} {i : Nat}, pairsOkF F T l i = true → Fits F T (number l i)
  | [], i, _ => by simp [Fits, number]
  | x :: l, i, h => by
    simp only [pairsOkF, Bool.and_eq_true] at h
    simp only [Fits, number, List.pairwise_cons]
    refine ⟨fun p hp => ⟨?_, pairsGo_get h.1 p hp⟩, pairsOk_fits h.2⟩
    have := (mem_number.1 hp).1
    omega

/-- What has been done is closed under what comes before. -/
def Closed (ops : Array Oper) (listed : Array Bool) : Prop := ∀ (j : Nat) (o : Oper), ops[j]? = some o → listed.getD j true = true → ∀ k ∈ binding o, listed.getD k false = true

theorem anc_listed {listed : Array Bool} (he : edgesOk ops.toList 0 = true) (ha : ancOk T ops.toList 0 = true) (hcl : Closed ops listed) (hsz : listed.size = ops.size) :
    ∀ (n i : Nat) (o : Oper), i < n → ops[i]? = some o → (∀ k ∈ binding o, listed.getD k false = true) → ∀ j ∈ T.getD i [], listed.getD j false = true := by
  intro n
  induction n with
  | zero => intro i o hi; omega
  | succ n ih =>
    intro i o hi ho hb j hj
    have ho' : ops.toList[i]? = some o := by rw [Array.getElem?_toList]; exact ho
    obtain ⟨e, heb, hej⟩ := ancOk_get ha i o ho' j (by simpa using hj)
    have hlt : e < i := by have := edgesOk_get he i o ho' e heb; omega
    rcases hej with rfl | hej
    · exact hb _ heb
    · have hie : i < ops.size := (Array.getElem?_eq_some_iff.1 ho).1
      have hoe : ops[e]? = some (ops[e]'(by omega)) := Array.getElem?_eq_getElem (by omega)
      have hle := hb e heb
      have hle' : listed.getD e true = true := by
        have : e < listed.size := by omega
        simp only [Array.getD, this, dif_pos] at hle ⊢
        exact hle
      exact ih e _ (by omega) hoe (hcl e _ hoe hle') j hej

theorem getD_set {listed : Array Bool} {i k : Nat} {d : Bool} (hi : i < listed.size) : (listed.setIfInBounds i true).getD k d = if k = i then true else listed.getD k d := by
  simp only [Array.getD_eq_getD_getElem?, Array.getElem?_setIfInBounds]
  by_cases hk : i = k
  · subst hk; simp [hi]
  · rw [if_neg hk, if_neg (fun h => hk h.symm)]

variable {C : Det.Calls} {M0 : Mem} {γ0 : Gam} {w0 : World}

theorem wpOp_sound {base i : Nat} {hide : List Nat} {o : Oper} {so : SOper} {s : Scope} {M1 M' : Mem} {γ : Gam} {w : World} {e e' : Env} {a : Act} (hi : ops[i]? = some o)
    (hco : cOper P q ops base hide o = some so) (hev : evOper C so e (s :: M1) = some (e', M')) (hst : St P M0 γ0 w0 e (s :: M1) γ a w) (hC : CallsOk P C) {K : Act → World → Prop} {Q : Exit → Act → World → Prop}
    (hK : ∀ a' w' γ', St P M0 γ0 w0 e' M' γ' a' w' → K a' w') : wpOp P ops Q i K a w := by
  have h := oper_sound (Q := Q) hco hev hst hC hK
  unfold wpOp
  rw [hi]
  simp only
  split
  · rename_i hw; rw [if_pos hw] at h; exact .inl h
  · rename_i hw; rw [if_neg hw] at h; exact h

theorem any_sound (he : edgesOk ops.toList 0 = true) (ha : ancOk T ops.toList 0 = true) (hC : CallsOk P C) {l : List SOper} (hl : cOpers P q ops id H ops.toList 0 = some l) {Q : Exit → Act → World → Prop} {e' : Env} {M' : Mem}
    (hQ : ∀ a' w' γ', St P M0 γ0 w0 e' M' γ' a' w' → Q .normal a' w') (hF : ∀ far, F = some far → farOk e' far = true ∧ steady l = true) :
    ∀ (fuel : Nat) (listed : Array Bool) (rem : List (Nat × SOper)) (e : Env) (s : Scope) (M1 : Mem) (γ : Gam) (a : Act) (w : World), rem.length = fuel → listed.size = ops.size → Closed ops listed → Fits F T rem → (∀ far, F = some far → steady (rem.map (·.2)) = true) →
      (∀ i, i < ops.size → (listed.getD i true = false ↔ i ∈ rem.map (·.1))) → (∀ p ∈ rem, l[p.1]? = some p.2) → evOps C (rem.map (·.2)) e (s :: M1) = some (e', M') → St P M0 γ0 w0 e (s :: M1) γ a w →
      wpAny P .any ops Q fuel listed a w := by
  have hll : l.length = ops.size := by have := (cOpers_get hl).1; simpa using this
  intro fuel
  induction fuel with
  | zero =>
    intro listed rem e s M1 γ a w hlen hsz hcl hfit hsd hA hB hev hst
    have hr : rem = [] := List.length_eq_zero_iff.1 hlen
    subst hr
    refine ⟨?_, ?_⟩
    · rw [List.eq_nil_iff_forall_not_mem]
      intro i hi
      obtain ⟨h1, o, ho, _⟩ := mem_ready.1 hi
      have := (hA i (Array.getElem?_eq_some_iff.1 ho).1).1 h1
      simp at this
    · simp only [List.map_nil, evOps, Option.some.injEq, Prod.mk.injEq] at hev
      obtain ⟨rfl, rfl⟩ := hev
      exact hQ a w γ hst
  | succ fuel ih =>
    intro listed rem e s M1 γ a w hlen hsz hcl hfit hsd hA hB hev hst
    have hidx : ∀ p ∈ rem, p.1 < ops.size := fun p hp => by
      have := (List.getElem?_eq_some_iff.1 (hB p hp)).1; omega
    have hopB : ∀ p ∈ rem, ∃ o, ops[p.1]? = some o ∧ cOper P q ops (bs id p.1) (H.getD p.1 []) o = some p.2 := fun p hp => by
      have h1 : ops[p.1]? = some (ops[p.1]'(hidx p hp)) := Array.getElem?_eq_getElem (hidx p hp)
      obtain ⟨x, hx, hc⟩ := (cOpers_get hl).2 p.1 _ (by rw [Array.getElem?_toList]; exact h1)
      rw [hB p hp] at hx
      cases hx
      rw [Nat.zero_add] at hc
      exact ⟨_, h1, hc⟩
    have hdone : ∀ k, k < ops.size → k ∉ rem.map (·.1) → listed.getD k false = true := fun k hk hn => by
      have h1 : listed.getD k true = true := by
        cases hb : listed.getD k true with
        | true => rfl
        | false => exact absurd ((hA k hk).1 hb) hn
      have : k < listed.size := by omega
      simp only [Array.getD, this, dif_pos] at h1 ⊢
      exact h1
    refine ⟨fun hempty => ?_, fun i hi => ?_⟩
    · -- the first one is ready
      cases rem with
      | nil => simp at hlen
      | cons p rem =>
        exfalso
        obtain ⟨o, ho, _⟩ := hopB p (by simp)
        have hp : p.1 ∈ Region.ready .any ops listed := by
          refine mem_ready.2 ⟨(hA p.1 (hidx p (by simp))).2 (by simp), o, ho, fun ed hed hbd => ?_⟩
          have hb : ed.on ∈ binding o := mem_binding.2 ⟨ed, hed, hbd, rfl⟩
          have hlt := edgesOk_get he p.1 o (by rw [Array.getElem?_toList]; exact ho) _ hb
          refine hdone _ (by have := hidx p (by simp); omega) fun hmem => ?_
          simp only [List.map_cons, List.mem_cons] at hmem
          rcases hmem with hmem | hmem
          · omega
          · obtain ⟨p2, hp2, hpe⟩ := List.mem_map.1 hmem
            have := (List.pairwise_cons.1 hfit).1 p2 hp2
            omega
        rw [hempty] at hp
        simp at hp
    · obtain ⟨h1, o, ho, hed⟩ := mem_ready.1 hi
      have his : i < ops.size := (Array.getElem?_eq_some_iff.1 ho).1
      obtain ⟨p, hp, hpi⟩ := List.mem_map.1 ((hA i his).1 h1)
      subst hpi
      obtain ⟨t1, t2, hrem⟩ := List.append_of_mem hp
      obtain ⟨o2, ho2, hc⟩ := hopB p hp
      rw [ho] at ho2; cases ho2
      have hbl : ∀ k ∈ binding o, listed.getD k false = true := fun k hk => by
        obtain ⟨ed, h2, h3, h4⟩ := mem_binding.1 hk
        rw [← h4]; exact hed ed h2 h3
      have hanc := anc_listed he ha hcl hsz (p.1 + 1) p.1 o (by omega) ho hbl
      have hfit' := hfit
      rw [hrem] at hfit'
      have hpw := List.pairwise_append.1 hfit'
      have hind : ∀ k ∈ t1.map (·.2), okF F k p.2 = true := by
        intro k hk
        obtain ⟨x, hx, rfl⟩ := List.mem_map.1 hk
        obtain ⟨_, hor⟩ := hpw.2.2 x hx p (by simp)
        rcases hor with hor | hor
        · exfalso
          have h5 := hanc x.1 hor
          have hxr : x ∈ rem := by rw [hrem]; simp [hx]
          have h6 := (hA x.1 (hidx x hxr)).2 (List.mem_map.2 ⟨x, hxr, rfl⟩)
          have : x.1 < listed.size := by have := hidx x hxr; omega
          simp only [Array.getD, this, dif_pos] at h5 h6
          rw [h5] at h6; cases h6
        · exact hor
      rw [hrem, List.map_append, List.map_cons] at hev
      have hfr : ∃ e1 Mx, evOper C p.2 e (s :: M1) = some (e1, Mx) ∧ evOps C (t1.map (·.2) ++ t2.map (·.2)) e1 Mx = some (e', M') := by
        cases hFF : F with
        | none =>
          refine to_front (t1.map (·.2)) e s M1 (fun k hk => ?_) hev
          have := hind k hk
          simpa [okF, hFF] using this
        | some far =>
          refine to_frontL (far := far) (hF far hFF).1 (t1.map (·.2)) e s M1 (fun k hk => ?_) ?_ hev
          · have := hind k hk
            simpa [okF, hFF] using this
          · have := hsd far hFF
            rwa [hrem, List.map_append, List.map_cons] at this
      obtain ⟨e1, Mx, hy, hrest⟩ := hfr
      refine wpOp_sound ho hc hy hst hC fun a' w' γ' hst' => ?_
      obtain ⟨s1, M2, rfl, _⟩ := hst'.cons
      have hls : p.1 < listed.size := by omega
      have hsub : List.Sublist (t1 ++ t2) rem := by rw [hrem]; exact List.Sublist.append_left (List.sublist_cons_self _ _) _
      refine ih (listed.setIfInBounds p.1 true) (t1 ++ t2) e1 s1 M2 γ' a' w' ?_ (by simpa using hsz) ?_ (hfit.sublist hsub) (fun far hf => steady_sub (hsub.map _) (hsd far hf)) ?_ (fun x hx => hB x (hsub.subset hx)) (by rw [List.map_append]; exact hrest) hst'
      · have : rem.length = (t1 ++ t2).length + 1 := by rw [hrem]; simp; omega
        omega
      · intro j oj hoj hlj k hk
        rw [getD_set hls]
        split
        · rfl
        · by_cases hj : j = p.1
          · subst hj
            rw [ho] at hoj; cases hoj
            exact hbl k hk
          · rw [getD_set hls, if_neg hj] at hlj
            exact hcl j oj hoj hlj k hk
      · intro j hj
        rw [getD_set hls]
        have hnd : ∀ x ∈ t1 ++ t2, x.1 ≠ p.1 := by
          intro x hx
          rcases List.mem_append.1 hx with hx | hx
          · have := (hpw.2.2 x hx p (by simp)).1; omega
          · have := ((List.pairwise_cons.1 hpw.2.1).1 x hx).1; omega
        by_cases hjp : j = p.1
        · subst hjp
          rw [if_pos rfl]
          constructor
          · intro h; cases h
          · intro h
            obtain ⟨x, hx, hxe⟩ := List.mem_map.1 h
            exact absurd hxe (hnd x hx)
        · rw [if_neg hjp, hA j hj, hrem]
          simp only [List.map_append, List.map_cons, List.mem_append, List.mem_cons]
          constructor
          · rintro (h | h | h)
            · exact .inl h
            · exact absurd h hjp
            · exact .inr h
          · rintro (h | h)
            · exact .inl h
            · exact .inr (.inr h)

theorem text_sound (hC : CallsOk P C) {Q : Exit → Act → World → Prop} {e' : Env} {M' : Mem} (hQ : ∀ a' w' γ', St P M0 γ0 w0 e' M' γ' a' w' → Q .normal a' w') :
    ∀ (lo : List Oper) (i : Nat) (l : List SOper) (e : Env) (s : Scope) (M1 : Mem) (γ : Gam) (a : Act) (w : World), (∀ (k : Nat) (o : Oper), lo[k]? = some o → ops[i + k]? = some o) → cOpers P q ops id H lo i = some l →
      evOps C l e (s :: M1) = some (e', M') → St P M0 γ0 w0 e (s :: M1) γ a w → wpOps P ops Q (List.range' i lo.length) a w
  | [], i, l, e, s, M1, γ, a, w, _, hc, hev, hst => by
    simp only [cOpers, Option.some.injEq] at hc
    subst hc
    simp only [evOps, Option.some.injEq, Prod.mk.injEq] at hev
    obtain ⟨rfl, rfl⟩ := hev
    exact hQ a w γ hst
  | o :: lo, i, l, e, s, M1, γ, a, w, hg, hc, hev, hst => by
    simp only [cOpers] at hc
    split at hc
    · rename_i x m hx hm
      cases hc
      obtain ⟨e1, Mx, h1, h2⟩ := evOps_cons.1 hev
      rw [List.length_cons, List.range'_succ, wpOps_cons]
      refine wpOp_sound (by simpa using hg 0 o rfl) hx h1 hst hC fun a' w' γ' hst' => ?_
      obtain ⟨s1, M2, rfl, _⟩ := hst'.cons
      exact text_sound hC hQ lo (i + 1) m e1 s1 M2 γ' a' w' (fun k o' hk => by
        have := hg (k + 1) o' (by simpa using hk)
        rw [show i + 1 + k = i + (k + 1) by omega]; exact this) hm h2 hst'
    · cases hc

theorem St.draw {e : Env} {M : Mem} {γ : Gam} {a : Act} {w : World} (h : St P M0 γ0 w0 e M γ a w) (n : Nat) : St P M0 γ0 w0 e M γ a { w with drawn := n } :=
  ⟨h.mrel.draw n, h.grel, h.erel, h.dom, ⟨h.stp.os, h.stp.tape, h.stp.output, h.stp.size, h.stp.frame, h.stp.ext, h.stp.hid, h.stp.keep, h.stp.fresh, h.stp.len, h.stp.dom, h.stp.rwk, h.stp.new, h.stp.newE, h.stp.newM⟩, h.defers⟩

theorem region_sound {draw : Bool} (hm : P.follows .mixedOrders = true) (hC : CallsOk P C) {l : List SOper} {F : Option (List (Nat × Nat))} (hc : cRegion P q id ops draw = some (l, F)) {e e' : Env} {s : Scope} {M1 M' : Mem} {γ : Gam} {a : Act} {w : World}
    (hev : evOps C l e (s :: M1) = some (e', M')) (hF : ∀ far, F = some far → farOk e' far = true) (hst : St P M0 γ0 w0 e (s :: M1) γ a w) {Q : Exit → Act → World → Prop} (hQ : ∀ a' w' γ', St P M0 γ0 w0 e' M' γ' a' w' → Q .normal a' w') : (Code.region id ops draw).wp P Q a w := by
  unfold cRegion at hc
  cases draw with
  | false =>
    simp only [Option.map_eq_some_iff, Prod.mk.injEq] at hc
    obtain ⟨l', hc, rfl, _⟩ := hc
    refine wp_region ?_
    have := text_sound (ops := ops) (H := []) hC hQ ops.toList 0 l' e s M1 γ a w (fun k o h => by rw [Nat.zero_add, ← Array.getElem?_toList]; exact h) hc hev hst
    rw [Array.length_toList, ← List.range_eq_range'] at this
    exact this
  | true =>
    simp only at hc
    split at hc
    · cases hc
    · rename_i l0 _
      split at hc
      · cases hc
      · rename_i l1 hl1
        have main : ∀ F : Option (List (Nat × Nat)), (∀ far, F = some far → farOk e' far = true ∧ steady l1 = true) → (edgesOk ops.toList 0 && ancOk (ancs ops.toList []) ops.toList 0 && pairsOkF F (ancs ops.toList []) l1 0) = true → evOps C l1 e (s :: M1) = some (e', M') → (Code.region id ops true).wp P Q a w := by
          intro F hF hok hev
          simp only [Bool.and_eq_true] at hok
          obtain ⟨⟨o1, o2⟩, o3⟩ := hok
          have hll : l1.length = ops.size := by have := (cOpers_get hl1).1; simpa using this
          refine wp_region_any hm ?_
          refine any_sound (F := F) o1 o2 hC hl1 hQ hF ops.size _ (number l1 0) e s M1 γ a _ (by rw [number_length, hll]) (by simp) ?_ (pairsOk_fits o3) (fun far hf => by rw [number_map]; exact (hF far hf).2) ?_ ?_ (by rw [number_map]; exact hev) (hst.draw _)
          · intro j o hj hlj
            have hjs : j < ops.size := (Array.getElem?_eq_some_iff.1 hj).1
            simp only [Array.getD, Array.size_replicate, hjs, dif_pos, Array.getInternal_eq_getElem, Array.getElem_replicate] at hlj
            cases hlj
          · intro i hi
            simp only [Array.getD, Array.size_replicate, hi, dif_pos, Array.getInternal_eq_getElem, Array.getElem_replicate, true_iff]
            refine List.mem_map.2 ⟨(i, l1[i]'(by omega)), mem_number.2 ⟨Nat.zero_le _, ?_⟩, rfl⟩
            simp only [Nat.sub_zero]
            exact List.getElem?_eq_getElem (by omega)
          · intro p hp
            have := (mem_number.1 hp).2
            simpa using this
        split at hc
        · rename_i hok
          cases hc
          exact main none (fun far h => by cases h) hok hev
        · split at hc
          · rename_i hok
            simp only [Option.some.injEq, Prod.mk.injEq] at hc
            obtain ⟨rfl, rfl⟩ := hc
            exact main _ (fun far h => ⟨hF far h, hok.2⟩) hok.1 hev
          · cases hc
end

end Go.Det

/-
  DET, part M: calls.
-/
import Derived.Test.YtaennaoaoahjmaaDoorDetL
set_option linter.unusedSimpArgs false
set_option linter.unusedVariables false
namespace Go.Det

/-! ### results -/

def cRes (P : Program) : List ResultVar → Option (List (Sum Nat (Nat × Nat × Bool)))
  | [] => some []
  | .tmp t :: l => (cRes P l).map (.inl t :: ·)
  | .cell a t :: l => match isAggT P t, szOf P t with
    | some b, some n => (cRes P l).map (.inr (a, n, b) :: ·)
    | _, _ => none

def resM (tmps : Array Value) : ResultVar → Sem Value
  | .tmp t => pure (tmps.getD t undef)
  | .cell a t => do loadVar t (← asAddr (tmps.getD a undef))

section
variable {P : Program} {M : Mem} {γ : Gam} {w : World} {e : Env} {tmps : Array Value}

theorem run_res1 (hM : MRel M γ w) (hE : ERel γ e tmps) {r : ResultVar} {x : Sum Nat (Nat × Nat × Bool)} {v : AV} (hc : cRes P [r] = some [x]) (h : resV e M x = some v) : ∃ y, (resM tmps r).run P w = .ok y w ∧ VRel γ v y := by
  cases r with
  | tmp t =>
    simp only [cRes, Option.map_some, Option.some.injEq, List.cons.injEq, and_true] at hc
    subst hc
    simp only [resV, Option.some.injEq] at h
    subst h
    exact ⟨_, rfl, hE.get t⟩
  | cell t ty =>
    simp only [cRes] at hc
    split at hc
    · rename_i b n hb hn
      simp only [Option.map_some, Option.some.injEq, List.cons.injEq, and_true] at hc
      subst hc
      simp only [resV] at h
      have re := hE.get t
      split at h
      · rename_i p hp
        rw [hp] at re
        obtain ⟨r, er, hr⟩ := re.ptr_inv
        split at h
        · rename_i c rw_ fl hget
          obtain ⟨g, hent, hg, hcr, hsz, hgs⟩ := get_rel hM hget
          obtain ⟨cs, t2, lo, hi, hheap, h1, h2, hpre, h3, h4⟩ := hcr
          have := ptr_here hr hg hgs
          subst this
          cases b with
          | true =>
            simp only [if_true] at h
            split at h
            · rename_i hle
              cases h
              refine ⟨.agg (((cs.toList.drop g.o).drop p.off).take n).toArray, ?_, .agg (hpre.slice _ _ hle)⟩
              have hp1 := hpre.1
              simp only [resM, er, asAddr, Sem.run_bind, Sem.run_pure, Result.andThen_ok, loadVar, r_isAgg hb, if_true, r_size hn]
              by_cases hn0 : n = 0
              · subst hn0; simp only [List.take_zero]; rfl
              · rw [run_loads hheap (by simp at hp1; omega), ← List.drop_drop]; rfl
            · cases h
          | false =>
            simp only [Bool.false_eq_true, if_false] at h
            obtain ⟨r2, hr2, hv⟩ := hpre.get h
            refine ⟨r2, ?_, .sc hv⟩
            simp only [resM, er, asAddr, Sem.run_bind, Sem.run_pure, Result.andThen_ok, loadVar, r_isAgg hb, Bool.false_eq_true, if_false]
            exact run_load hheap (by rw [← Array.getElem?_toList, ← List.getElem?_drop]; exact hr2)
        · cases h
      · cases h
    · cases hc

theorem cRes_cons {r : ResultVar} {l : List ResultVar} {xs : List (Sum Nat (Nat × Nat × Bool))} (hc : cRes P (r :: l) = some xs) : ∃ x m, xs = x :: m ∧ cRes P [r] = some [x] ∧ cRes P l = some m := by
  cases r with
  | tmp t =>
    simp only [cRes, Option.map_eq_some_iff] at hc
    obtain ⟨m, hm, rfl⟩ := hc
    exact ⟨_, m, rfl, rfl, hm⟩
  | cell t ty =>
    simp only [cRes] at hc
    split at hc
    · rename_i b n hb hn
      simp only [Option.map_eq_some_iff] at hc
      obtain ⟨m, hm, rfl⟩ := hc
      exact ⟨_, m, rfl, by simp only [cRes, hb, hn]; rfl, hm⟩
    · cases hc

theorem run_resL (hM : MRel M γ w) (hE : ERel γ e tmps) : ∀ {l : List ResultVar} {xs : List (Sum Nat (Nat × Nat × Bool))} {vs : List AV}, cRes P l = some xs → resVs e M xs = some vs →
    ∃ ys, (l.mapM (resM tmps)).run P w = .ok ys w ∧ Pw (VRel γ) vs ys
  | [], xs, vs, hc, h => by
    simp only [cRes, Option.some.injEq] at hc
    subst hc
    simp only [resVs, Option.some.injEq] at h
    subst h
    exact ⟨[], rfl, Pw.nil⟩
  | r :: l, xs, vs, hc, h => by
    obtain ⟨x, m, rfl, hx, hm⟩ := cRes_cons hc
    simp only [resVs] at h
    split at h
    · rename_i v vs' hv hvs
      cases h
      obtain ⟨y, hy, ry⟩ := run_res1 hM hE hx hv
      obtain ⟨ys, hys, rys⟩ := run_resL hM hE hm hvs
      refine ⟨y :: ys, ?_, Pw.cons ry rys⟩
      rw [List.mapM_cons]
      simp only [Sem.run_bind, hy, Result.andThen_ok, hys, Sem.run_pure]
    · cases h

theorem okRes_w {v : AV} {r : Value} (h : VRel γ v r) (ho : okRes v = true) : WRel γ v r := by
  cases h with
  | sc h => exact .sc h
  | agg h => exact .agg h
  | tuple h => simp [okRes] at ho
  | dead r => simp [okRes] at ho

theorem results_sound (hM : MRel M γ w) (hE : ERel γ e tmps) {fn : Func} {xs : List (Sum Nat (Nat × Nat × Bool))} {v : AV} (hc : cRes P fn.results.toList = some xs) (h : resOf e M xs = some v) :
    ∃ y, (results fn tmps).run P w = .ok y w ∧ VRel γ v y := by
  unfold resOf at h
  have hres : ∀ ys : List Value, (fn.results.toList.mapM (resM tmps)).run P w = .ok ys w → (results fn tmps).run P w = .ok (if h : ys.toArray.size = 1 then ys.toArray[0] else .tuple ys.toArray) w := by
    intro ys hys
    have hf : results fn tmps = (fn.results.mapM (resM tmps) >>= fun vs => pure (if h : vs.size = 1 then vs[0] else .tuple vs)) := rfl
    have hm : (fn.results.mapM (resM tmps)).run P w = .ok ys.toArray w := by
      rw [Array.mapM_eq_mapM_toList, map_eq_pure_bind, Sem.run_bind, hys]
      rfl
    rw [hf, Sem.run_bind, hm]
    rfl
  cases hvs : resVs e M xs with
  | none => rw [hvs] at h; cases h
  | some vs =>
    obtain ⟨ys, hys, rys⟩ := run_resL hM hE hc hvs
    have hr := hres ys hys
    rw [hvs] at h
    match vs, h, rys with
    | [u], h, rys =>
      simp only [Option.some.injEq] at h
      subst h
      obtain ⟨y, m, rfl, hy, hm⟩ := rys.of_cons
      have := hm.of_nil
      subst this
      exact ⟨y, hr, hy⟩
    | [], h, rys =>
      simp only [List.all_nil, if_true, Option.some.injEq] at h
      subst h
      have := rys.of_nil
      subst this
      exact ⟨_, hr, .tuple Pw.nil⟩
    | u :: u2 :: us, h, rys =>
      simp only at h
      split at h
      · rename_i hall
        cases h
        refine ⟨.tuple ys.toArray, ?_, .tuple ⟨rys.1, fun i v r a b => okRes_w (rys.2 i v r a b) (List.all_eq_true.1 hall v (List.mem_of_getElem? a))⟩⟩
        rw [hr]
        have : ¬ ys.toArray.size = 1 := by
          have := rys.1
          simp at this ⊢
          omega
        rw [dif_neg this]
      · cases h
end

/-! ### what is handed over -/

/-- What has been handed over so far: the names of the blocks, in order. -/
structure Exp (s0 s : Scope) (cs : List Con) (ids : List Nat) : Prop where
  len : cs.length = ids.length
  src : ∀ (k : Nat) i c, ids[k]? = some i → cs[k]? = some c → s0 i = some c ∧ c.flat = true
  left : ∀ j, j ∉ ids → s j = s0 j
  marked : ∀ (k : Nat) i, ids[k]? = some i → s i = some (mark k)
  clean : ∀ i c, s0 i = some c → unmark c = none
  nd : ids.Nodup

theorem unmark_mark (n : Nat) : unmark (mark n) = some n := by simp [unmark, mark]

theorem clean_of {s : Scope} {M : Mem} {γ : Gam} {w : World} (hM : MRel (s :: M) γ w) : ∀ i c, s i = some c → unmark c = none := by
  intro i c hc
  obtain ⟨g, _, hcr⟩ := hM.ent M.length i c (by rw [ent_cons_top]; exact hc)
  unfold unmark
  split
  · rename_i n es rw_
    obtain ⟨es', clk, _, _, hl, hp⟩ := hcr
    have : 0 < es'.size := by rw [← hl]; simp
    obtain ⟨_, h2, _⟩ := hp 0 _ _ (es'[0]) rfl (Array.getElem?_eq_getElem this)
    cases h2
  · rfl

/-- The blocks that stand for what is handed over. -/
def exG (γ : Gam) (d : Nat) (ids : List Nat) : Gam := fun e id => if e = d then (match ids[id]? with | some i => γ d i | none => none) else γ e id

theorem Exp.nil {s : Scope} (hc : ∀ i c, s i = some c → unmark c = none) : Exp s s [] [] := ⟨rfl, fun k i c h => by simp at h, fun j _ => rfl, fun k i h => by simp at h, hc, List.nodup_nil⟩

section
variable {s0 : Scope} {γ : Gam} {d : Nat}

theorem exp1_sound {s s' : Scope} {cs cs' : List Con} {ids : List Nat} {a b : AAddr} (hx : Exp s0 s cs ids) (h : exp1 d s cs a = some (b, s', cs')) :
    ∃ ids', Exp s0 s' cs' ids' ∧ (∃ m, ids' = ids ++ m) ∧ b.sz = a.sz ∧ b.off = a.off ∧ ∀ m, exG γ d (ids' ++ m) b.dep b.id = γ a.dep a.id := by
  unfold exp1 at h
  split at h
  · rename_i hlt
    cases h
    exact ⟨ids, hx, ⟨[], by simp⟩, rfl, rfl, fun m => by simp only [exG]; rw [if_neg (by omega)]⟩
  · split at h
    · rename_i hd
      split at h
      · rename_i c hc
        by_cases hmem : a.id ∈ ids
        · obtain ⟨k, hk⟩ := List.getElem?_of_mem hmem
          have hm := hx.marked k _ hk
          rw [hc] at hm; cases hm
          rw [unmark_mark] at h
          simp only [exp2] at h
          split at h
          · split at h
            · cases h
              refine ⟨ids, hx, ⟨[], by simp⟩, rfl, rfl, fun m => ?_⟩
              simp only [exG, if_true]
              rw [List.getElem?_append_left (List.getElem?_eq_some_iff.1 hk).1, hk, hd]
            · cases h
          · cases h
        · have hs0 : s0 a.id = some c := by rw [← hx.left _ hmem]; exact hc
          rw [hx.clean _ _ hs0] at h
          simp only [exp2] at h
          split at h
          · rename_i hh
            cases h
            refine ⟨ids ++ [a.id], ⟨by simp [hx.len], fun k i c' h1 h2 => ?_, fun j hj => ?_, fun k i h1 => ?_, hx.clean, ?_⟩, ⟨[a.id], rfl⟩, rfl, rfl, fun m => ?_⟩
            · by_cases hk : k < ids.length
              · rw [List.getElem?_append_left hk] at h1
                rw [List.getElem?_append_left (by rw [hx.len]; exact hk)] at h2
                exact hx.src k i c' h1 h2
              · have hk1 := (List.getElem?_eq_some_iff.1 h1).1
                simp at hk1
                have hke : k = ids.length := by omega
                subst hke
                rw [List.getElem?_append_right (Nat.le_refl _)] at h1
                rw [List.getElem?_append_right (by rw [hx.len]; exact Nat.le_refl _), hx.len] at h2
                simp at h1 h2
                subst h1; subst h2
                exact ⟨hs0, hh.2⟩
            · simp only [List.mem_append, List.mem_singleton, not_or] at hj
              simp only [setAt]
              rw [if_neg hj.2]
              exact hx.left j hj.1
            · simp only [setAt]
              by_cases hk : k < ids.length
              · rw [List.getElem?_append_left hk] at h1
                rw [if_neg]
                · exact hx.marked k i h1
                · rintro rfl; exact hmem (List.mem_of_getElem? h1)
              · have hk1 := (List.getElem?_eq_some_iff.1 h1).1
                simp at hk1
                have hke : k = ids.length := by omega
                subst hke
                rw [List.getElem?_append_right (Nat.le_refl _)] at h1
                simp at h1
                subst h1
                rw [if_pos rfl, hx.len]
            · rw [List.nodup_append]
              exact ⟨hx.nd, by simp, fun x h1 y h2 => by simp at h2; subst h2; intro hxy; subst hxy; exact hmem h1⟩
            · simp only [exG, if_true, hx.len]
              rw [List.append_assoc, List.getElem?_append_right (Nat.le_refl _)]
              simp [hd]
          · cases h
      · cases h
    · cases h

theorem srel_addr {γ γ' : Gam} {a b : AAddr} {r : Addr} (h : PRel γ a r) (h1 : b.sz = a.sz) (h2 : b.off = a.off) (h3 : γ' b.dep b.id = γ a.dep a.id) : PRel γ' b r := by
  obtain ⟨g, hg, hs, hr⟩ := h
  exact ⟨g, by rw [h3, hg], by rw [h1]; exact hs, by rw [h1, h2]; exact hr⟩

theorem srel_laddr {γ γ' : Gam} {a b : AAddr} {n e c : Nat} {r : Addr} (h : LRel γ a n e r c) (h1 : b.sz = a.sz) (h2 : b.off = a.off) (h3 : γ' b.dep b.id = γ a.dep a.id) : LRel γ' b n e r c := by
  obtain ⟨hn, g, hg, hs, hr⟩ := h
  exact ⟨hn, g, by rw [h3, hg], by rw [h1]; exact hs, by rw [h1, h2]; exact hr⟩

/-- A value whose addresses lie below the call's depth. -/
theorem low_sound {v : AV} {r : Value} {ids : List Nat} (hv : SRel γ v r) (hu : AV.under d v = true) : SRel (exG γ d ids) v r :=
  srel_under (n := d) (fun e id he _ => by simp only [exG]; rw [if_neg (by omega)]) hv hu

theorem expC_sound {s s' : Scope} {cs cs' : List Con} {ids : List Nat} {v v' : AV} {r : Value} (hx : Exp s0 s cs ids) (hv : SRel γ v r) (h : expC d s cs v = some (v', s', cs')) :
    ∃ ids', Exp s0 s' cs' ids' ∧ (∃ m, ids' = ids ++ m) ∧ AV.ret d v' = true ∧ ∀ m, SRel (exG γ d (ids' ++ m)) v' r := by
  unfold expC at h
  split at h
  · rename_i a
    split at h
    · rename_i b s1 cs1 h1
      cases h
      obtain ⟨ids', k1, k2, k3, k4, k5⟩ := exp1_sound (γ := γ) hx h1
      refine ⟨ids', k1, k2, rfl, fun m => ?_⟩
      cases hv with
      | ptr hv => exact .ptr (srel_addr hv k3 k4 (k5 m))
    · cases h
  · rename_i a n e
    split at h
    · rename_i b s1 cs1 h1
      cases h
      obtain ⟨ids', k1, k2, k3, k4, k5⟩ := exp1_sound (γ := γ) hx h1
      refine ⟨ids', k1, k2, rfl, fun m => ?_⟩
      cases hv with
      | slice hv => exact .slice (srel_laddr hv k3 k4 (k5 m))
    · cases h
  · cases h
  · rename_i hnp hns hnf
    split at h
    · rename_i hu
      cases h
      refine ⟨ids, hx, ⟨[], by simp⟩, ?_, fun m => low_sound hv hu⟩
      cases hv <;> first | rfl | skip
      · simpa [AV.ret, AV.under] using hu
      · exact absurd rfl (hnf _ _ _)
    · cases h

theorem expL_sound : ∀ {l l' : List AV} {rs : List Value} {s s' : Scope} {cs cs' : List Con} {ids : List Nat}, Exp s0 s cs ids → Pw (SRel γ) l rs → expL d s cs l = some (l', s', cs') →
    ∃ ids', Exp s0 s' cs' ids' ∧ (∃ m, ids' = ids ++ m) ∧ AV.rets d l' = true ∧ ∀ m, Pw (SRel (exG γ d (ids' ++ m))) l' rs
  | [], l', rs, s, s', cs, cs', ids, hx, hp, h => by
    simp only [expL, Option.some.injEq, Prod.mk.injEq] at h
    obtain ⟨rfl, rfl, rfl⟩ := h
    have := hp.of_nil
    subst this
    exact ⟨ids, hx, ⟨[], by simp⟩, rfl, fun m => Pw.nil⟩
  | v :: l, l', rs, s, s', cs, cs', ids, hx, hp, h => by
    obtain ⟨r, rs', rfl, hv, hp'⟩ := hp.of_cons
    simp only [expL] at h
    split at h
    · rename_i v1 s1 cs1 h1
      split at h
      · rename_i l1 s2 cs2 h2
        cases h
        obtain ⟨ids1, a1, ⟨m1, a2⟩, a3, a4⟩ := expC_sound hx hv h1
        obtain ⟨ids2, b1, ⟨m2, b2⟩, b3, b4⟩ := expL_sound a1 hp' h2
        refine ⟨ids2, b1, ⟨m1 ++ m2, by rw [b2, a2, List.append_assoc]⟩, by simp [AV.rets, a3, b3], fun m => Pw.cons ?_ (b4 m)⟩
        rw [b2, List.append_assoc]
        exact a4 (m2 ++ m)
      · cases h
    · cases h

theorem expV_sound {s s' : Scope} {cs cs' : List Con} {ids : List Nat} {v v' : AV} {r : Value} (hx : Exp s0 s cs ids) (hv : WRel γ v r) (h : expV d s cs v = some (v', s', cs')) :
    ∃ ids', Exp s0 s' cs' ids' ∧ (∃ m, ids' = ids ++ m) ∧ AV.ret d v' = true ∧ ∀ m, WRel (exG γ d (ids' ++ m)) v' r := by
  unfold expV at h
  split at h
  · rename_i l
    split at h
    · rename_i l1 s1 cs1 h1
      cases h
      cases hv with
      | sc hv => cases hv
      | agg hv =>
        obtain ⟨ids', k1, k2, k3, k4⟩ := expL_sound hx hv h1
        exact ⟨ids', k1, k2, by simpa [AV.ret] using k3, fun m => .agg (k4 m)⟩
    · cases h
  · rename_i hna
    cases hv with
    | sc hv =>
      obtain ⟨ids', k1, k2, k3, k4⟩ := expC_sound hx hv h
      exact ⟨ids', k1, k2, k3, fun m => .sc (k4 m)⟩
    | agg hv => exact absurd rfl (hna _)

theorem expVL_sound : ∀ {l l' : List AV} {rs : List Value} {s s' : Scope} {cs cs' : List Con} {ids : List Nat}, Exp s0 s cs ids → Pw (WRel γ) l rs → expVL d s cs l = some (l', s', cs') →
    ∃ ids', Exp s0 s' cs' ids' ∧ (∃ m, ids' = ids ++ m) ∧ AV.rets d l' = true ∧ ∀ m, Pw (WRel (exG γ d (ids' ++ m))) l' rs
  | [], l', rs, s, s', cs, cs', ids, hx, hp, h => by
    simp only [expVL, Option.some.injEq, Prod.mk.injEq] at h
    obtain ⟨rfl, rfl, rfl⟩ := h
    have := hp.of_nil
    subst this
    exact ⟨ids, hx, ⟨[], by simp⟩, rfl, fun m => Pw.nil⟩
  | v :: l, l', rs, s, s', cs, cs', ids, hx, hp, h => by
    obtain ⟨r, rs', rfl, hv, hp'⟩ := hp.of_cons
    simp only [expVL] at h
    split at h
    · rename_i v1 s1 cs1 h1
      split at h
      · rename_i l1 s2 cs2 h2
        cases h
        obtain ⟨ids1, a1, ⟨m1, a2⟩, a3, a4⟩ := expV_sound hx hv h1
        obtain ⟨ids2, b1, ⟨m2, b2⟩, b3, b4⟩ := expVL_sound a1 hp' h2
        refine ⟨ids2, b1, ⟨m1 ++ m2, by rw [b2, a2, List.append_assoc]⟩, by simp [AV.rets, a3, b3], fun m => Pw.cons ?_ (b4 m)⟩
        rw [b2, List.append_assoc]
        exact a4 (m2 ++ m)
      · cases h
    · cases h

theorem expAll_sound {cs' : List Con} {v v' : AV} {r : Value} (hcl : ∀ i c, s0 i = some c → unmark c = none) (hv : VRel γ v r) (hnd : v ≠ .dead) (h : expAll d s0 v = some (v', cs')) :
    ∃ s' ids', Exp s0 s' cs' ids' ∧ AV.ret d v' = true ∧ VRel (exG γ d ids') v' r := by
  unfold expAll at h
  split at h
  · rename_i l
    split at h
    · rename_i l1 s1 cs1 h1
      cases h
      cases hv with
      | sc hv => cases hv
      | tuple hv =>
        obtain ⟨ids', k1, k2, k3, k4⟩ := expVL_sound (Exp.nil hcl) hv h1
        have := k4 []
        rw [List.append_nil] at this
        exact ⟨s1, ids', k1, by simpa [AV.ret] using k3, .tuple this⟩
    · cases h
  · rename_i hnt
    split at h
    · rename_i v1 s1 cs1 h1
      cases h
      have hw : WRel γ v r := by
        cases hv with
        | sc hv => exact .sc hv
        | agg hv => exact .agg hv
        | tuple hv => exact absurd rfl (hnt _)
        | dead r => exact absurd rfl hnd
      obtain ⟨ids', k1, k2, k3, k4⟩ := expV_sound (Exp.nil hcl) hw h1
      have := k4 []
      rw [List.append_nil] at this
      exact ⟨s1, ids', k1, k3, this.toV⟩
    · cases h
end

/-- The end of a call: what is handed over stands as it stood. -/
theorem leave_step {M0 M1 : Mem} {s s' : Scope} {γ0 γ : Gam} {w0 w : World} {cs : List Con} {ids : List Nat} (hd0 : ∀ e id, γ0 e id ≠ none → e < M0.length) (hM : MRel (s :: M1) γ w)
    (hdom : DomH (fun _ => False) (s :: M1) γ) (hS : Stp (fun e _ => e = M0.length) (mk [] :: M0) γ0 w0 (s :: M1) γ w) (hx : Exp s s' cs ids) :
    MRel (exS cs :: M1) (exG γ M1.length ids) w ∧ Stp (fun e _ => e = M0.length) (mk [] :: M0) γ0 w0 (exS cs :: M1) (exG γ M1.length ids) w ∧
      (∀ e id, exG γ M1.length ids e id ≠ none → e < M0.length ∨ (e = M0.length ∧ id < cs.length)) ∧ ∀ c ∈ cs, c.flat = true := by
  have hlen : M1.length = M0.length := by have := hS.len; simpa using this
  have hlow : ∀ e id, e ≠ M1.length → exG γ M1.length ids e id = γ e id := fun e id h => by simp only [exG]; rw [if_neg h]
  have htop : ∀ id, exG γ M1.length ids M1.length id = match ids[id]? with | some i => γ M1.length i | none => none := fun id => by simp only [exG, if_true]
  have hents : ∀ e i, ent (exS cs :: M1) e i = if e = M1.length then cs[i]? else ent M1 e i := fun e i => rfl
  have hz : ∀ e id, ent (mk [] :: M0) e id ≠ none → e < M0.length := fun e id h => by rw [ent_empty] at h; exact ent_lt h
  have hpos : ∀ k c, cs[k]? = some c → ∃ i, ids[k]? = some i ∧ s i = some c ∧ c.flat = true := fun k c hc => by
    have hk : k < ids.length := by rw [← hx.len]; exact (List.getElem?_eq_some_iff.1 hc).1
    obtain ⟨a, b⟩ := hx.src k _ c (List.getElem?_eq_getElem hk) hc
    exact ⟨_, List.getElem?_eq_getElem hk, a, b⟩
  have hget : ∀ k g, exG γ M1.length ids M1.length k = some g → ∃ i, ids[k]? = some i ∧ γ M1.length i = some g ∧ k < cs.length := fun k g h => by
    rw [htop] at h
    cases hi : ids[k]? with
    | none => rw [hi] at h; cases h
    | some i => rw [hi] at h; exact ⟨i, rfl, h, by rw [hx.len]; exact (List.getElem?_eq_some_iff.1 hi).1⟩
  have hnd : ∀ k k' i, ids[k]? = some i → ids[k']? = some i → k = k' := fun k k' i h h' => by
    obtain ⟨h1, h2⟩ := List.getElem?_eq_some_iff.1 h
    obtain ⟨h3, h4⟩ := List.getElem?_eq_some_iff.1 h'
    have hp := List.pairwise_iff_getElem.1 hx.nd
    rcases Nat.lt_trichotomy k k' with hlt | heq | hgt
    · exact absurd (h2.trans h4.symm) (hp k k' h1 h3 hlt)
    · exact heq
    · exact absurd (h4.trans h2.symm) (hp k' k h3 h1 hgt)
  -- where an entry comes from
  have hsrc : ∀ e i c, ent (exS cs :: M1) e i = some c → ∃ i1, ent (s :: M1) e i1 = some c ∧ exG γ M1.length ids e i = γ e i1 ∧ (e = M1.length ∧ ids[i]? = some i1 ∧ c.flat = true ∨ (e ≠ M1.length ∧ i1 = i ∧ e < M1.length)) := by
    intro e i c hc
    rw [hents] at hc
    by_cases he : e = M1.length
    · subst he
      rw [if_pos rfl] at hc
      obtain ⟨j, h1, h2, h3⟩ := hpos i c hc
      exact ⟨j, by rw [ent_cons_top]; exact h2, by rw [htop, h1], .inl ⟨rfl, h1, h3⟩⟩
    · rw [if_neg he] at hc
      exact ⟨i, by rw [ent_cons_old he]; exact hc, hlow e i he, .inr ⟨he, rfl, ent_lt (by rw [hc]; simp)⟩⟩
  refine ⟨⟨fun e i c hc => ?_, fun e i c e' i' c' g g' h1 h2 h3 h4 h5 h6 => ?_, fun e i g hg => ?_⟩, ?_, fun e id hne => ?_, fun c hc => ?_⟩
  · obtain ⟨i1, h1, h2, h3⟩ := hsrc e i c hc
    obtain ⟨g, hg, hcr⟩ := hM.ent e i1 c h1
    refine ⟨g, by rw [h2]; exact hg, ?_⟩
    rcases h3 with ⟨he, _, hfl⟩ | ⟨he, _, hlt⟩
    · cases c with
      | map es rw_ => simp [Con.flat] at hfl
      | bld T b rw_ => simp [Con.flat] at hfl
      | buf E s rw_ => simp [Con.flat] at hfl
      | cells c rw_ fl =>
        simp only [Con.flat] at hfl
        subst hfl
        obtain ⟨cs2, t, lo, hi2, k1, k2, k3, k4, k5, k6⟩ := hcr
        simp only [if_true] at k6
        exact ⟨cs2, t, lo, hi2, k1, k2, k3, ⟨k4.1, fun j v r hv hr => srel_under (n := 0) (fun e id h _ => absurd h (Nat.not_lt_zero _)) (k4.2 j v r hv hr) (unders_iff.1 k6 v (List.mem_of_getElem? hv))⟩, k5, by simpa using k6⟩
    · exact crel_under (n := M1.length) (fun e id he _ => hlow e id (by omega)) (by omega) hcr
  · obtain ⟨i1, a1, a2, a3⟩ := hsrc e i c h1
    obtain ⟨i2, b1, b2, b3⟩ := hsrc e' i' c' h3
    obtain ⟨q1, q2⟩ := hM.inj e i1 c e' i2 c' g g' a1 h2 b1 (by rw [← a2]; exact h4) (by rw [← b2]; exact h5) h6
    subst q1; subst q2
    refine ⟨rfl, ?_⟩
    rcases a3 with ⟨he, k1, _⟩ | ⟨he, k1, _⟩ <;> rcases b3 with ⟨he', k2, _⟩ | ⟨he', k2, _⟩
    · exact hnd _ _ _ k1 k2
    · exact absurd he he'
    · exact absurd he' he
    · rw [← k1, ← k2]
  · by_cases he : e = M1.length
    · subst he
      obtain ⟨j, _, hj, _⟩ := hget i g hg
      exact hM.bnd _ _ _ hj
    · rw [hlow _ _ he] at hg
      exact hM.bnd _ _ _ hg
  · refine ⟨hS.os, hS.tape, hS.output, hS.size, hS.frame, fun e id g hg => ?_, fun e id h1 h2 => ?_, fun e id c h1 h2 => ?_, fun e id g' hg' => ?_, by simp [hlen], fun e id h1 => ?_, fun e id c h1 => ?_, fun e id h1 h2 => ?_, fun e id h1 h2 => ?_, fun e id h1 h2 => ?_⟩
    · have := hd0 e id (by rw [hg]; simp)
      rw [hlow _ _ (by omega)]
      exact hS.ext e id g hg
    · have := hd0 e id h2
      rw [hlow _ _ (by omega)]
      exact hS.hid e id h1 h2
    · have := hz e id (by rw [h1]; simp)
      rw [hlow _ _ (by omega), hents, if_neg (by omega), ← ent_cons_old (s := s) (by omega)]
      exact hS.keep e id c h1 h2
    · by_cases he : e = M1.length
      · subst he
        obtain ⟨j, _, hj, _⟩ := hget id g' hg'
        rcases hS.fresh _ _ _ hj with ⟨g, hg, _⟩ | h
        · have := hd0 _ _ (by rw [hg]; simp); omega
        · exact .inr h
      · rw [hlow _ _ he] at hg'
        exact hS.fresh _ _ _ hg'
    · by_cases he : e = M1.length
      · right
        cases hg : γ0 e id with
        | none => rfl
        | some g => have := hd0 _ _ (by rw [hg]; simp); omega
      · rw [hents, if_neg he, ← ent_cons_old (s := s) he] at h1
        exact hS.dom e id h1
    · have := hz e id (by rw [h1]; simp)
      rw [hents, if_neg (by omega), ← ent_cons_old (s := s) (by omega)]
      exact hS.rwk e id c h1
    · by_cases he : e = M1.length
      · simp only [he, hlen]
      · rw [hlow _ _ he] at h2
        exact hS.new e id h1 h2
    · by_cases he : e = M1.length
      · simp only [he, hlen]
      · rw [hents, if_neg he, ← ent_cons_old (s := s) he] at h2
        exact hS.newE e id h1 h2
    · by_cases he : e = M1.length
      · subst he
        rw [hents, if_pos rfl]
        cases hg : exG γ M1.length ids M1.length id with
        | none => exact absurd hg h2
        | some g =>
          obtain ⟨_, _, _, hlt⟩ := hget id g hg
          rw [List.getElem?_eq_getElem hlt]; simp
      · rw [hlow _ _ he] at h2
        rw [hents, if_neg he, ← ent_cons_old (s := s) he]
        exact hS.newM e id h1 h2
  · by_cases he : e = M1.length
    · subst he
      cases hg : exG γ M1.length ids M1.length id with
      | none => exact absurd hg hne
      | some g => obtain ⟨_, _, _, hlt⟩ := hget id g hg; exact .inr ⟨hlen, hlt⟩
    · rw [hlow _ _ he] at hne
      have := (hdom e id hne).1
      simp only [List.length_cons] at this
      exact .inl (by omega)
  · obtain ⟨k, hk⟩ := List.getElem?_of_mem hc
    obtain ⟨_, _, _, h⟩ := hpos k c hk
    exact h

/-! ### functions -/

def cFunc (P : Program) (q : Qs) (fn : Func) (hints : List (List Nat)) : Option SFunc :=
  match fn.body with
  | none => none
  | some c => match cCode P q c hints, cRes P fn.results.toList with
    | some (sc, []), some res => if (fn.name == "runtime.NumGoroutine") = true then none else some ⟨sc, fn.ntmps, res⟩
    | _, _ => none

/-- What CallsOk says of one function. -/
def FnOk (P : Program) (f : Nat) (run : List AV → Mem → Option (AV × List Con × Mem)) : Prop :=
  ∀ args M r cs M', run args M = some (r, cs, M') →
    (∃ fn, P.funcs[f]? = some fn ∧ (fn.name == "runtime.NumGoroutine") = false ∧ fn.body.isNone = false) ∧
    ∀ γ w (vs : Array Value), M ≠ [] → Pw (VRel γ) args vs.toList → MRel M γ w → GRel P γ → (∀ e id, γ e id ≠ none → e < M.length) →
      Go.Calls P f vs w fun e w' => ∃ v γ', e = .returned v ∧ VRel γ' r v ∧ MRel (exS cs :: M') γ' w' ∧ AV.ret M.length r = true ∧ (∀ c ∈ cs, c.flat = true) ∧
        Stp (fun e _ => e = M.length) (mk [] :: M) γ w (exS cs :: M') γ' w' ∧ (∀ e id, γ' e id ≠ none → e < M.length ∨ (e = M.length ∧ id < cs.length))

theorem callsOk_iff {P : Program} {C : Det.Calls} : CallsOk P C ↔ BldOk P ∧ ∀ f, FnOk P f (C f) :=
  ⟨fun h => ⟨h.1, fun f args M r cs M' => h.2 f args M r cs M'⟩, fun h => ⟨h.1, fun f args M r cs M' => h.2 f args M r cs M'⟩⟩

theorem expAll_dead {d : Nat} {s : Scope} {v : AV} {cs : List Con} {v' : AV} (h : expAll d s v = some (v', cs)) : v = .dead ∨ v ≠ .dead := by
  cases v <;> first | exact .inl rfl | exact .inr (by intro h; cases h)

theorem fn_sound {P : Program} {q : Qs} {f : Nat} {fn : Func} {hints : List (List Nat)} {sf : SFunc} {C : Det.Calls} (hm : P.follows .mixedOrders = true) (hf : P.funcs[f]? = some fn) (hc : cFunc P q fn hints = some sf) (hC : CallsOk P C) :
    FnOk P f (runFn C sf) := by
  intro args M r cs M' h
  unfold cFunc at hc
  split at hc
  · cases hc
  · rename_i c hb
    split at hc
    · rename_i sc res hsc hres
      split at hc
      · cases hc
      · rename_i hname
        cases hc
        refine ⟨⟨fn, hf, by simpa using hname, by simp [hb]⟩, fun γ w vs hne hargs hM hG hd => ?_⟩
        unfold runFn at h
        split at h
        · cases h
        · rename_i hnt
          simp only at h hnt
          have hal : args.length = vs.size := by have := hargs.1; simpa using this
          refine calls_of_wp hf hb ?_
          have hst : St P M γ w (args ++ List.replicate (fn.ntmps - args.length) .undef) (mk [] :: M) γ { tmps := vs ++ Array.replicate (fn.ntmps - vs.size) undef, defers := [] } w := by
            refine ⟨mrel_empty hM, hG, ?_, fun e id hne => ?_, Stp.refl _ _ _ _, rfl⟩
            · unfold ERel
              simp only [Array.toList_append, Array.toList_replicate]
              refine Pw.append hargs ⟨by simp [hal], fun i v r a b => ?_⟩
              rw [List.getElem?_replicate] at a b
              split at a
              · split at b
                · cases a; cases b; exact VRel.undef γ
                · cases b
              · cases a
            · have := hd e id hne
              exact ⟨by simp; omega, fun h => by simp at h; omega⟩
          have fin : ∀ ex e1 M1, evC C sc (args ++ List.replicate (fn.ntmps - args.length) .undef) (mk [] :: M) = some (ex, e1, M1) → (ex = .normal ∨ ex = .ret) → leave res e1 M1 = some (r, cs, M') →
              Code.wp P c (bodyPost P fn fun e w' => ∃ v γ', e = .returned v ∧ VRel γ' r v ∧ MRel (exS cs :: M') γ' w' ∧ AV.ret M.length r = true ∧ (∀ c ∈ cs, c.flat = true) ∧
                Stp (fun e _ => e = M.length) (mk [] :: M) γ w (exS cs :: M') γ' w' ∧ (∀ e id, γ' e id ≠ none → e < M.length ∨ (e = M.length ∧ id < cs.length)))
                { tmps := vs ++ Array.replicate (fn.ntmps - vs.size) undef, defers := [] } w := by
            intro ex e1 M1 hev hex hlv
            refine code_sound hm hC hne hd c hints sc [] hsc _ _ _ ex e1 M1 γ _ w _ hev hst fun a' w' γ' hst' => ?_
            obtain ⟨s, M2, rfl, hl2⟩ := hst'.cons
            simp only [leave] at hlv
            split at hlv
            · rename_i v hv
              split at hlv
              · rename_i v2 cs2 hx
                cases hlv
                obtain ⟨y, hy, ry⟩ := results_sound hst'.mrel hst'.erel hres hv
                by_cases hdead : v = .dead
                · subst hdead
                  simp only [expAll, expV, expC, AV.under, if_true, Option.some.injEq, Prod.mk.injEq] at hx
                  obtain ⟨rfl, rfl⟩ := hx
                  obtain ⟨k1, k2, k3, k4⟩ := leave_step hd hst'.mrel hst'.dom hst'.stp (Exp.nil (clean_of hst'.mrel))
                  have : bodyPost P fn (fun e w' => ∃ v γ', e = .returned v ∧ VRel γ' .dead v ∧ MRel (exS [] :: M') γ' w' ∧ AV.ret M.length .dead = true ∧ (∀ c ∈ ([] : List Con), c.flat = true) ∧
                    Stp (fun e _ => e = M.length) (mk [] :: M) γ w (exS [] :: M') γ' w' ∧ (∀ e id, γ' e id ≠ none → e < M.length ∨ (e = M.length ∧ id < ([] : List Con).length))) .ret a' w' :=
                    ⟨hst'.defers, y, hy, y, _, rfl, .dead y, k1, rfl, k4, k2, k3⟩
                  rcases hex with rfl | rfl
                  · exact this
                  · exact this
                · obtain ⟨s', ids, hX, hret, hvv⟩ := expAll_sound (clean_of hst'.mrel) ry hdead hx
                  obtain ⟨k1, k2, k3, k4⟩ := leave_step hd hst'.mrel hst'.dom hst'.stp hX
                  have : bodyPost P fn (fun e w' => ∃ v γ', e = .returned v ∧ VRel γ' r v ∧ MRel (exS cs :: M') γ' w' ∧ AV.ret M.length r = true ∧ (∀ c ∈ cs, c.flat = true) ∧
                    Stp (fun e _ => e = M.length) (mk [] :: M) γ w (exS cs :: M') γ' w' ∧ (∀ e id, γ' e id ≠ none → e < M.length ∨ (e = M.length ∧ id < cs.length))) .ret a' w' :=
                    ⟨hst'.defers, y, hy, y, _, rfl, hvv, k1, by rw [← hl2]; exact hret, k4, k2, k3⟩
                  rcases hex with rfl | rfl
                  · exact this
                  · exact this
              · cases hlv
            · cases hlv
          split at h
          · rename_i e1 M1 hev; exact fin _ _ _ hev (.inl rfl) h
          · rename_i e1 M1 hev; exact fin _ _ _ hev (.inr rfl) h
          · cases h
    · cases hc

/-- The program's functions, as they are compiled. -/
structure Comp (P : Program) (SP : SProg) : Prop where
  orders : P.follows .mixedOrders = true
  fns : ∀ f sf, SP.fn f = some sf → ∃ (q : Qs) (fn : Func) (hints : List (List Nat)), P.funcs[f]? = some fn ∧ cFunc P q fn hints = some sf
  ora : CallsOk P SP.ora

theorem callFn_ok {P : Program} {SP : SProg} (h : Comp P SP) : ∀ k, CallsOk P (callFn SP k) := by
  intro k
  induction k with
  | zero => exact ⟨h.ora.1, by intro f args M r cs M' hc; cases hc⟩
  | succ k ih =>
    rw [callsOk_iff]
    refine ⟨h.ora.1, ?_⟩
    intro f
    intro args M r cs M' hc
    simp only [callFn] at hc
    split at hc
    · exact h.ora.2 f args M r cs M' hc
    · rename_i sf hsf
      obtain ⟨q, fn, hints, h1, h2⟩ := h.fns f sf hsf
      exact fn_sound h.orders h1 h2 ih args M r cs M' hc

end Go.Det

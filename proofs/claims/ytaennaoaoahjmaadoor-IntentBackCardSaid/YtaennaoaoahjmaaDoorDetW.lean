/-
  DET, part W: calls whose summary is proved elsewhere: texts repeated.
-/
import Derived.Test.YtaennaoaoahjmaaDoorDetN
import Derived.Below
set_option linter.unusedSimpArgs false
set_option linter.unusedVariables false
namespace Go.Det

/-- A call that gives a value and leaves all that was there alone. -/
theorem fnok_still {P : Program} {f : Nat} {run : List AV → Mem → Option (AV × List Con × Mem)} (hfn : ∃ fn, P.funcs[f]? = some fn ∧ (fn.name == "runtime.NumGoroutine") = false ∧ fn.body.isNone = false)
    (h : ∀ args M r cs M', run args M = some (r, cs, M') → cs = [] ∧ M' = M ∧ (∀ d, AV.ret d r = true) ∧
      ∀ γ w (vs : Array Value), Pw (VRel γ) args vs.toList → Go.Calls P f vs w fun e w' => (∃ v, e = .returned v ∧ ∀ γ, VRel γ r v) ∧ Go.RowKit.Below w.heap.size w w') : FnOk P f run := by
  intro args M r cs M' hr
  obtain ⟨rfl, rfl, hret, hc⟩ := h args M r cs M' hr
  refine ⟨hfn, fun γ w vs hne hargs hM hG hd => (hc γ w vs hargs).mono ?_⟩
  rintro e w' ⟨⟨v, rfl, hv⟩, bel⟩
  have hex : exS [] = mk [] := by funext j; simp [exS, mk]
  have hz : ∀ e i, ent (mk [] :: M') e i = ent M' e i := fun e i => ent_empty
  refine ⟨v, γ, rfl, hv γ, ?_, hret _, by simp, ?_, fun e id h => .inl (hd e id h)⟩
  · rw [hex]
    refine ⟨fun e i c hc => ?_, fun e i c e' i' c' g g' h1 h2 h3 => ?_, fun e i g hg => ?_⟩
    · rw [hz] at hc
      obtain ⟨g, hg, hcr⟩ := hM.ent e i c hc
      exact ⟨g, hg, hcr.ext (Stp.refl (fun _ _ => True) M' γ w).toExt (bel.block _ (hM.bnd e i g hg).1)⟩
    · rw [hz] at h1 h3
      exact hM.inj e i c e' i' c' g g' h1 h2 h3
    · obtain ⟨b1, b2⟩ := hM.bnd e i g hg
      exact ⟨Nat.lt_of_lt_of_le b1 bel.size, b2⟩
  · rw [hex]
    exact ⟨bel.os, bel.tape, bel.output, bel.size, fun b hb _ => bel.block b hb, fun e id g hg => ⟨g, hg, Nat.le_refl _, fun _ => rfl⟩, fun _ _ _ _ => rfl, fun e id c hc _ => ⟨rfl, hc⟩,
      fun e id g hg => .inl ⟨g, hg, rfl⟩, rfl, fun e id h => .inl h, fun e id c hc => ⟨c, hc, fun x => x⟩, fun e id h h' => absurd h h', fun e id h h' => absurd h h', fun e id h h' => absurd h h'⟩

/-- A byte repeated, by the function number n. -/
def repO (n : Nat) : Det.Calls := fun f args M =>
  if f = n then
    match args with
    | [.str [b], .int .i64 c] => if 0 ≤ c ∧ c ≤ 2 ^ 40 then some (.str (List.replicate c.toNat b), [], M) else none
    | _ => none
  else none

structure RepGives (P : Program) (n : Nat) : Prop where
  fn : ∃ fn, P.funcs[n]? = some fn ∧ (fn.name == "runtime.NumGoroutine") = false ∧ fn.body.isNone = false
  gives : ∀ (s : ByteArray) (b : UInt8) (c : Nat) (w : World), s.data.toList = [b] → c ≤ 2 ^ 40 →
    Go.Calls P n #[.string s, .int .i64 c] w fun e w' => (∃ t : ByteArray, e = .returned (.string t) ∧ t.data.toList = List.replicate c b) ∧ Go.RowKit.Below w.heap.size w w'

theorem repO_ok {P : Program} {n : Nat} (hb : BldOk P) (h : RepGives P n) : CallsOk P (repO n) := by
  rw [callsOk_iff]
  refine ⟨hb, ?_⟩
  intro f
  by_cases hf : f = n
  · subst hf
    refine fnok_still h.fn fun args M r cs M' hr => ?_
    simp only [repO, if_true] at hr
    split at hr
    · rename_i b c
      split at hr
      · rename_i hc
        cases hr
        refine ⟨rfl, rfl, fun d => rfl, fun γ w vs hargs => ?_⟩
        obtain ⟨r1, m1, e1, h1, k1⟩ := hargs.of_cons
        obtain ⟨r2, m2, e2, h2, k2⟩ := k1.of_cons
        have e3 := k2.of_nil
        subst e3
        subst e2
        obtain ⟨s, rfl, hs⟩ := h1.str_inv
        have := h2.int_inv
        subst this
        obtain ⟨c, rfl⟩ := Int.eq_ofNat_of_zero_le hc.1
        have hvs : vs = #[.string s, .int .i64 (c : Int)] := Array.toList_inj.1 e1
        rw [hvs]
        refine (h.gives s b c w hs (by omega)).mono ?_
        rintro e w' ⟨⟨t, rfl, ht⟩, bel⟩
        refine ⟨⟨_, rfl, fun γ => ?_⟩, bel⟩
        rw [Int.toNat_natCast, ← ht]
        exact .sc (.str t)
      · cases hr
    · cases hr
  · intro args M r cs M' hr
    simp only [repO, if_neg hf] at hr
    cases hr

def tabO (tab : List (Nat × SFunc)) (o : Det.Calls) : SProg := ⟨fun f => look f tab, o⟩

theorem comp_ofO {P : Program} {tab : List (Nat × SFunc)} {o : Det.Calls} (h1 : P.follows .mixedOrders = true) (h2 : AllC P tab) (ho : CallsOk P o) : Comp P (tabO tab o) :=
  ⟨h1, fun f sf h => look_all h2 h, ho⟩

/-- A byte repeated. -/
theorem rep_ev {SP : SProg} {n : Nat} (hf : SP.fn n = none) (ho : SP.ora = repO n) (k : Nat) (M : Mem) (b : UInt8) (c : Int) (h0 : 0 ≤ c) (h1 : c ≤ 2 ^ 40) : callFn SP (k + 1) n [.str [b], .int .i64 c] M = some (.str (List.replicate c.toNat b), [], M) := by
  simp only [callFn, hf, ho, repO, if_true]
  rw [if_pos ⟨h0, h1⟩]

end Go.Det

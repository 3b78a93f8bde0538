/-
  DET, part Y: package variables that are laid: arrays of numbers.
-/
import Derived.Test.YtaennaoaoahjmaaDoorDetS
import Derived.HandedShaped
import Derived.OpenShut
import Derived.Lay
import Derived.LaidMore
import Derived.MakeChecks
set_option linter.unusedSimpArgs false
set_option linter.unusedVariables false
namespace Go.Det

/-- What a cell's number is in a datum. -/
def litOf : AV → DataW Unit
  | .int k n => .lit (.int k n)
  | _ => .nil
def isK (k : IntKind) : AV → Bool
  | .int k' _ => k' == k
  | _ => false
def listOf : DataW Unit → List (DataW Unit)
  | .agg l => l
  | _ => []

/-- The variables' names, numbers and types. -/
def gFit (P : Program) : List String → List (Nat × List AV) → Bool
  | [], [] => true
  | nm :: r, (n, C) :: s => P.globalNamed nm == some n &&
    (match P.globals[n]? with
     | some gl =>
       (match P.underlying gl.type with
        | some (.array m e) =>
          (match P.underlying e with
           | some (.int k) => m == C.length && P.cellsOf e == 1 && P.cellsOf gl.type == C.length && C.all (isK k) && (P.info? gl.type).map (·.size) == some C.length
           | _ => false)
        | _ => false)
     | none => false) && gFit P r s
  | _, _ => false

def gScope (L : List (Nat × List AV)) : Scope := mk (L.map fun x => (gid x.1, .cells x.2 false true))

theorem mk_mem : ∀ {l : List (Nat × Con)} {id : Nat} {c : Con}, mk l id = some c → (id, c) ∈ l
  | [], id, c, h => by cases h
  | (j, x) :: l, id, c, h => by
    simp only [mk] at h
    split at h
    · rename_i e
      cases h
      rw [e]
      exact List.mem_cons_self
    · exact List.mem_cons_of_mem _ (mk_mem h)

theorem under_isK {k : IntKind} : ∀ {l : List AV} (e : Nat), l.all (isK k) = true → AV.unders e l = true
  | [], e, _ => rfl
  | v :: l, e, h => by
    rw [List.all_cons, Bool.and_eq_true] at h
    have h2 := under_isK e h.2
    have h1 := h.1
    cases v <;> simp [isK] at h1
    simp [AV.unders, AV.under, h2]

/-- The cells of an array of numbers. -/
theorem ints_laid {P : Program} {w : World} {fuel : Nat} {t e : TypeId} {k : IntKind} {cs : List Value} {C : List AV} {p : List MemPlace} (ht : P.underlying t = some (.array C.length e)) (he : P.underlying e = some (.int k)) (hce : P.cellsOf e = 1)
    (hC : C.all (isK k) = true) (h : DataW.trod (fun _ => ()) P w 0 (fun _ => true) false fuel t cs = some (.agg (C.map litOf), p)) : cs.length = P.cellsOf t ∧ ∀ (γ : Gam) (i : Nat) (v : AV) (r : Value), C[i]? = some v → cs[i]? = some r → SRel γ v r := by
  obtain ⟨xs, m, _, ex, hl0, hl, hel⟩ := DataW.trod_array ht h
  refine ⟨hl0, fun γ i v r hv hr => ?_⟩
  obtain ⟨hi, hvv⟩ := List.getElem?_eq_some_iff.1 hv
  have hE := hel i hi
  rw [hce, Nat.mul_one, List.getElem?_eq_getElem (by omega)] at hE
  obtain ⟨z, e1, e2, _⟩ := DataW.trod_int he hE
  have e3 : (xs.map (·.1)) = C.map litOf := (DataW.agg.inj (Prod.mk.inj ex).1).symm
  have e4 : (xs.map (·.1))[i]? = (C.map litOf)[i]? := by rw [e3]
  rw [List.getElem?_map, List.getElem?_map, List.getElem?_eq_getElem (by omega : i < xs.length), hv, e2] at e4
  simp only [Option.map_some, Option.some.injEq] at e4
  have hk := List.all_eq_true.1 hC v (by rw [← hvv]; exact List.getElem_mem hi)
  cases v <;> simp [isK] at hk
  obtain rfl := hk
  simp only [litOf, DataW.lit.injEq, Lit.int.injEq, true_and] at e4
  subst e4
  have h0 := congrArg (fun l => l[0]?) e1
  simp at h0
  rw [hr] at h0
  cases h0
  exact .int _ _

/-- The variables, out of what is laid. -/
theorem vars_laid {P : Program} {w : World} : ∀ (laid : List (String × DataW Unit)) (L : List (Nat × List AV)) (ps : List MemPlace), DataW.LaidVars P w laid ps → gFit P (laid.map (·.1)) L = true → laid.map (·.2) = L.map (fun x => .agg (x.2.map litOf)) →
    ∀ n C, (n, C) ∈ L → ∃ cs : Array Value, ∃ gl i, P.globals[n]? = some gl ∧ P.info? gl.type = some i ∧ i.size = C.length ∧ w.var? P ((laid.map (·.1)).getD (L.findIdx fun x => x.1 == n) "") = w.var? P ((laid.map (·.1)).getD (L.findIdx fun x => x.1 == n) "") ∧
      (∃ t ss, w.heap[n]? = some (.cells cs t ss)) ∧ cs.size = C.length ∧ (∀ (γ : Gam) (i : Nat) (v : AV) (r : Value), C[i]? = some v → cs.toList[i]? = some r → SRel γ v r) ∧ ∃ k, C.all (isK k) = true
  | [], [], ps, _, _, _, n, C, hm => nomatch hm
  | [], _ :: _, ps, _, h, _, n, C, hm => by simp [gFit] at h
  | _ :: _, [], ps, _, h, _, n, C, hm => nomatch hm
  | (nm, d) :: laid, (n', C') :: L, ps, hL, hf, hd, n, C, hm => by
    obtain ⟨g, t, cs, fuel, p, q, hg, ht, hv, htr, hr, _⟩ := hL
    simp only [List.map_cons, List.cons.injEq] at hd
    simp only [List.map_cons, gFit, Bool.and_eq_true, beq_iff_eq] at hf
    obtain ⟨⟨hnm, hty⟩, hf2⟩ := hf
    rcases List.mem_cons.1 hm with e | hm'
    · obtain ⟨rfl, rfl⟩ := Prod.mk.inj e
      rw [hnm] at hg
      obtain rfl := Option.some.inj hg
      cases hgl : P.globals[n]? with
      | none => rw [hgl] at hty; simp at hty
      | some gl =>
        rw [hgl] at hty ht
        simp only [Option.map_some, Option.some.injEq] at ht
        subst ht
        simp only at hty
        split at hty
        · rename_i m e hu
          split at hty
          · rename_i k hk
            simp only [Bool.and_eq_true, beq_iff_eq] at hty
            obtain ⟨⟨⟨⟨h1, h2⟩, h3⟩, h4⟩, h5⟩ := hty
            subst h1
            rw [hd.1] at htr
            obtain ⟨k1, k2⟩ := ints_laid hu hk h2 h4 htr
            cases hi : P.info? gl.type with
            | none => rw [hi] at h5; simp at h5
            | some i =>
              rw [hi] at h5
              simp only [Option.map_some, Option.some.injEq] at h5
              refine ⟨cs, gl, i, rfl, hi, h5, rfl, ?_, by rw [← h3, ← k1]; simp, k2, k, h4⟩
              unfold World.var? at hv
              rw [hnm] at hv
              simp only [Option.bind_some] at hv
              split at hv
              · rename_i c2 t2 s2 hh
                cases hv
                exact ⟨t2, s2, hh⟩
              · cases hv
          · cases hty
        · cases hty
    · obtain ⟨cs, gl, i, q1, q2, q3, _, q4⟩ := vars_laid laid L q hr hf2 hd.2 n C hm'
      exact ⟨cs, gl, i, q1, q2, q3, rfl, q4⟩

/-- The variables' blocks. -/
def zOf (P : Program) (id : Nat) : Option G :=
  if 1000000 ≤ id ∧ id - 1000000 < P.globals.size then
    match P.globals[id - 1000000]? with
    | some gl => match P.info? gl.type with
      | some i => some ⟨id - 1000000, i.size, i.size, 0⟩
      | none => none
    | none => none
  else none

theorem zOf_gid {P : Program} {n : Nat} {gl} {i} (h1 : P.globals[n]? = some gl) (h2 : P.info? gl.type = some i) : zOf P (gid n) = some ⟨n, i.size, i.size, 0⟩ := by
  have hn : n < P.globals.size := (Array.getElem?_eq_some_iff.1 h1).1
  have e : gid n - 1000000 = n := by unfold gid; omega
  unfold zOf
  rw [e, if_pos ⟨by unfold gid; omega, hn⟩, h1]
  simp only [h2]

theorem zOf_bnd {P : Program} {w : World} (h : w.ShapedOpen P) (hr : hasRows P = true) (id : Nat) (g : G) (hg : zOf P id = some g) : g.b < w.heap.size ∧ g.o + g.s ≤ g.r := by
  have hb : ∀ n, n < P.globals.size → n < w.heap.size := by
    intro n hn
    have h1 := List.all_eq_true.1 hr n (List.mem_range.2 hn)
    obtain ⟨x, hx⟩ := Option.isSome_iff_exists.1 h1
    obtain ⟨zero, t⟩ := x
    obtain ⟨cs, hcs, _⟩ := h.1 n zero t hn hx
    exact (Array.getElem?_eq_some_iff.1 hcs).1
  unfold zOf at hg
  split at hg
  · rename_i hc
    split at hg
    · split at hg
      · have e := Option.some.inj hg
        rw [← e]
        exact ⟨hb _ hc.2, by simp⟩
      · exact nomatch hg
    · exact nomatch hg
  · exact nomatch hg

theorem globs_laid {P : Program} {w : World} (laid : List (String × DataW Unit)) (L : List (Nat × List AV)) (h : w.ShapedOpen P) (hr : hasRows P = true) (hL : laidMetH P laid w) (hp : (laid.all fun x => x.2.handleName?.isNone) = true)
    (hf : gFit P (laid.map (·.1)) L = true) (hd : laid.map (·.2) = L.map (fun x => .agg (x.2.map litOf))) : ∃ z, Globs P z (gScope L) w := by
  rw [MakeChecks.laidMetH_plain _ _ _ hp] at hL
  obtain ⟨ps, hps, _, hcell⟩ := hL
  have hv := vars_laid laid L ps hps hf hd
  refine ⟨zOf P, ⟨fun id c hc => ?_, zOf_bnd h hr, fun n gl i h1 h2 => ⟨_, zOf_gid h1 h2⟩⟩⟩
  have hm := mk_mem hc
  obtain ⟨⟨n, C⟩, hm2, he⟩ := List.mem_map.1 hm
  simp only [Prod.mk.injEq] at he
  obtain ⟨rfl, rfl⟩ := he
  obtain ⟨cs, gl, i, q1, q2, q3, _, ⟨t, ss, q4⟩, q5, q6, k, q7⟩ := hv n C hm2
  refine ⟨rfl, _, zOf_gid q1 q2, fun γ => ⟨cs, t, ss.1, ss.2, q4, q3, q3.trans q5.symm, ⟨?_, fun i v r a b => q6 γ i v r a (by simpa using b)⟩, fun h => (nomatch h), under_isK _ q7⟩⟩
  simp [q5]

/-- The wrap, with what is laid. -/
theorem change_laid {H : Type} {enc : TypeId × Value → H} {a : Assume} {C : Checked} {os : Os} {f : FuncId} {fn : Func} {s : ChangeSpec} {conds : List PathCond} {apart fresh handsOn again : Bool} {X : World → Prop}
    (hX : ∀ (w w' : World), w.heap = w'.heap → X w → X w')
    (own : ownKnob C.prog.godebug = none) (started : os.Started) (noInit : C.prog.inits.idxOf? f = none) (hfn : C.prog.funcs[f]? = some fn)
    (witness : ∃ (w : World) (tape : Tape) (i : Input), w.os = os ∧ (w.forCall tape i).Shaped C.prog ∧ i.vars = [] ∧ Input.okWide C.prog (w.forCall tape i) .any w.heap.size f i ∧
      ((s.pre enc C.prog fn conds apart (w.forCall tape i).memory i.args ∧ X (w.forCall tape i).memory) ∧ sizedMet enc C.prog fn (OpenSpec.ofChange s) apart (w.forCall tape i).memory i.args) ∧ a.holds C.prog (lone (Frame.enter C.prog f i.args .normal) [] (w.forCall tape i)))
    (contract : ∀ (W : World) (base : Nat) (args : Array Value) (ds gs : List (DataW H)) (before : List MemPlace),
      (∀ (j : Nat) t v, fn.params[j]? = some t → args[j]? = some v → Value.okWide C.prog W .any base t v) →
      DataW.Whole enc C.prog fn.params.toList s.vars apart W args.toList ds gs before →
      (DataW.weightsEach C.prog (fn.params.toList ++ s.plain.varTypes C.prog) (ds ++ gs)).all (· ≤ reachBytes) = true → W.ShapedOpen C.prog → X W →
      Go.Calls C.prog f args W fun e W' => ∃ v, e = .returned v ∧ s.post enc C.prog fn apart fresh handsOn again W args v W') :
    ReturnsInHanded a C os f .any (fun w args => (s.pre enc C.prog fn conds apart w args ∧ X w) ∧ sizedMet enc C.prog fn (OpenSpec.ofChange s) apart w args) (s.post enc C.prog fn apart fresh handsOn again) := by
  refine returnsInHanded_of_calls own started noInit witness ?_
  intro w tape i _ hsh _ hok hpre hholds
  obtain ⟨_, _, _, fn', hfn', _, _, _, _, hval⟩ := hok
  have e : fn' = fn := Option.some.inj (hfn'.symm.trans hfn)
  subst e
  obtain ⟨⟨⟨ds, gs, before, hw, hc⟩, hx⟩, hz⟩ := hpre
  have hw' := DataW.Whole.of_heap (w' := w.forCall tape i) (by rfl) hw
  refine (contract (w.forCall tape i) w.heap.size i.args ds gs before hval hw' (hz.weights hw) hsh (hX _ _ (by rfl) hx)).mono fun e W' ⟨v, he, hp⟩ => ?_
  subst he
  exact ChangeSpec.post_blind hp
end Go.Det

/-
  DET, part S: a law's row, out of what the evaluator says.
-/
import Derived.Test.YtaennaoaoahjmaaDoorDetR
import Derived.ShutString
import Derived.SizedLaws
set_option linter.unusedSimpArgs false
set_option linter.unusedVariables false
namespace Go.Det

/-- Is a value of that type an aggregate? -/
def Ty.agg : Ty → Bool
  | .arr _ _ | .st _ => true
  | _ => false

def ArgShp (s : Scope) (y : Ty) (v : AV) : Prop := ∃ l, Shp s y l ∧ ((y.agg = true ∧ v = .agg l) ∨ (y.agg = false ∧ l = [v]))

def ArgsShp (s : Scope) : List Ty → List AV → Prop
  | [], vs => vs = []
  | y :: ys, vs => ∃ v vs', vs = v :: vs' ∧ ArgShp s y v ∧ ArgsShp s ys vs'

def tysFit (P : Program) : List TypeId → List Ty → Bool
  | [], [] => true
  | t :: ts, y :: ys => tyOk P t y && tysFit P ts ys
  | _, _ => false

section
variable {H : Type} {enc : TypeId × Value → H} {P : Program} {w : World} {z : Nat → Option G}

theorem open_value {fuel : Nat} {y : Ty} {t : TypeId} {v : Value} {d : DataW H} {ps : List MemPlace} {base : Nat} {B : List (Con × G)} (ht : tyOk P t y = true) (hok : Value.okWide P w .any base t v)
    (h : DataW.trod enc P w 0 (fun _ => true) true fuel t v.cells.toList = some (d, ps)) (hwt : Lt P t d) (hB : Blocks z w B) :
    ∃ (a : AV) (m : List (Con × G)), Blocks z w (B ++ m) ∧ (∀ m', VRel (gamB z (B ++ m ++ m')) a v) ∧ ∀ m', ArgShp (scB (B ++ m ++ m')) y a := by
  obtain ⟨l, m, k1, k2, k3, k4⟩ := open_cells fuel y t _ d ps B ht h hwt hB
  have one : ∀ c, v = c → v.cells = #[c] → y.agg = false → y.size = 1 → (∃ (a : AV) (m : List (Con × G)), Blocks z w (B ++ m) ∧ (∀ m', VRel (gamB z (B ++ m ++ m')) a v) ∧ ∀ m', ArgShp (scB (B ++ m ++ m')) y a) := by
    intro c hc hcc hagg hsz
    rw [hsz] at k2
    match l, k2 with
    | [a], _ =>
      refine ⟨a, m, k1, fun m' => ?_, fun m' => ⟨[a], k4 m', .inr ⟨hagg, rfl⟩⟩⟩
      have := (k3 m').2 0 a c rfl (by rw [hcc]; rfl)
      rw [hc]
      exact .sc this
  cases y with
  | int k =>
    simp only [tyOk] at ht
    split at ht
    · rename_i k' hu
      obtain ⟨n, rfl⟩ := Go.WideShapes.okWide_int hu hok
      exact one _ rfl rfl rfl rfl
    · cases ht
  | bool =>
    simp only [tyOk] at ht
    split at ht
    · rename_i hu
      obtain ⟨n, rfl⟩ := Go.WideShapes.okWide_bool hu hok
      exact one _ rfl rfl rfl rfl
    · cases ht
  | str =>
    simp only [tyOk] at ht
    split at ht
    · rename_i hu
      obtain ⟨n, rfl⟩ := Go.WideShapes.okWide_string hu hok
      exact one _ rfl rfl rfl rfl
    · cases ht
  | sl e =>
    simp only [tyOk] at ht
    split at ht
    · rename_i u hu
      obtain ⟨a, len, cap, rfl⟩ := Go.WideShapes.okWide_slice hu hok
      exact one _ rfl rfl rfl rfl
    · cases ht
  | arr n e =>
    simp only [tyOk] at ht
    split at ht
    · rename_i m2 u hu
      unfold Value.okWide at hok
      rw [hu] at hok
      obtain ⟨cs, rfl, _, _⟩ := hok
      refine ⟨.agg l, m, k1, fun m' => ?_, fun m' => ⟨l, k4 m', .inl ⟨rfl, rfl⟩⟩⟩
      have := VRel.agg (k3 m')
      simpa [Value.cells] using this
    · cases ht
  | st fs =>
    simp only [tyOk] at ht
    split at ht
    · rename_i l2 hu
      unfold Value.okWide at hok
      rw [hu] at hok
      obtain ⟨cs, rfl, _, _⟩ := hok
      refine ⟨.agg l, m, k1, fun m' => ?_, fun m' => ⟨l, k4 m', .inl ⟨rfl, rfl⟩⟩⟩
      have := VRel.agg (k3 m')
      simpa [Value.cells] using this
    · cases ht

theorem open_args {base : Nat} : ∀ (ts : List TypeId) (ys : List Ty) (vs : List Value) (ds : List (DataW H)) (ps : List MemPlace) (B : List (Con × G)), tysFit P ts ys = true →
    DataW.TrodAll enc P w 0 (fun _ => true) true ts vs ds ps → (∀ (j : Nat) t v, ts[j]? = some t → vs[j]? = some v → Value.okWide P w .any base t v) → (∀ n ∈ DataW.weightsEach P ts ds, n ≤ reachBytes) → Blocks z w B →
    ∃ (l : List AV) (m : List (Con × G)), Blocks z w (B ++ m) ∧ (∀ m', Pw (VRel (gamB z (B ++ m ++ m'))) l vs) ∧ ∀ m', ArgsShp (scB (B ++ m ++ m')) ys l
  | [], ys, vs, ds, ps, B, hf, h, hok, hwt, hB => by
    cases ys with
    | cons y ys => simp [tysFit] at hf
    | nil =>
      obtain ⟨rfl, _, _⟩ := Go.ChangeShapes.trodAll_nil h
      exact ⟨[], [], by simpa using hB, fun m' => Pw.nil, fun m' => rfl⟩
  | t :: ts, ys, vs, ds, ps, B, hf, h, hok, hwt, hB => by
    cases ys with
    | nil => simp [tysFit] at hf
    | cons y ys =>
      simp only [tysFit, Bool.and_eq_true] at hf
      cases vs with
      | nil => cases ds <;> simp [DataW.TrodAll] at h
      | cons v vs =>
        cases ds with
        | nil => simp [DataW.TrodAll] at h
        | cons d ds =>
          simp only [DataW.TrodAll] at h
          obtain ⟨p, q, ⟨fuel, h1⟩, h2, _⟩ := h
          simp only [DataW.weightsEach, List.mem_append] at hwt
          obtain ⟨a, m, k1, k2, k3⟩ := open_value hf.1 (hok 0 t v rfl rfl) h1 (fun n hn => hwt n (.inl hn)) hB
          obtain ⟨l, m2, j1, j2, j3⟩ := open_args ts ys vs ds q (B ++ m) hf.2 h2 (fun j t' v' a b => hok (j + 1) t' v' (by simpa using a) (by simpa using b)) (fun n hn => hwt n (.inr hn)) k1
          refine ⟨a :: l, m ++ m2, by rw [← List.append_assoc]; exact j1, fun m' => Pw.cons ?_ ?_, fun m' => ⟨a, l, rfl, ?_, ?_⟩⟩
          · have := k2 (m2 ++ m'); simpa [List.append_assoc] using this
          · have := j2 m'; simpa [List.append_assoc] using this
          · have := k3 (m2 ++ m'); simpa [List.append_assoc] using this
          · have := j3 m'; simpa [List.append_assoc] using this

/-- What stands for the program's variables: the blocks at depth 0. -/
structure Globs (P : Program) (z : Nat → Option G) (g0 : Scope) (w : World) : Prop where
  ent : ∀ id c, g0 id = some c → c.rw = false ∧ ∃ g, z id = some g ∧ ∀ γ, CRel γ 0 c g w
  bnd : ∀ id g, z id = some g → g.b < w.heap.size ∧ g.o + g.s ≤ g.r
  rel : ∀ n gl i, P.globals[n]? = some gl → P.info? gl.type = some i → ∃ r, z (gid n) = some ⟨n, i.size, r, 0⟩

theorem globs_none {P : Program} (h : P.globals = #[]) (w : World) : ∃ z, Globs P z (mk []) w :=
  ⟨fun _ => none, ⟨fun id c h => (nomatch h), fun id g h => (nomatch h), fun n gl i h1 _ => by rw [h] at h1; simp at h1⟩⟩

/-- The program's variables, of which nothing is known. -/
def hasRows (P : Program) : Bool := (List.range P.globals.size).all fun n => (((begin P (fun _ _ => 0) default).world.heap[n]?).bind Obj.row?).isSome

theorem globs_shaped {P : Program} {w : World} (h : w.ShapedOpen P) (hr : hasRows P = true) : ∃ z, Globs P z (mk []) w := by
  have hb : ∀ n, n < P.globals.size → n < w.heap.size := by
    intro n hn
    have h1 := List.all_eq_true.1 hr n (List.mem_range.2 hn)
    obtain ⟨x, hx⟩ := Option.isSome_iff_exists.1 h1
    obtain ⟨zero, t⟩ := x
    obtain ⟨cs, hcs, _⟩ := h.1 n zero t hn hx
    exact (Array.getElem?_eq_some_iff.1 hcs).1
  refine ⟨fun id => if 1000000 ≤ id ∧ id - 1000000 < P.globals.size then
      match P.globals[id - 1000000]? with
      | some gl => match P.info? gl.type with
        | some i => some ⟨id - 1000000, i.size, i.size, 0⟩
        | none => none
      | none => none
    else none, ⟨fun id c h => (nomatch h), fun id g hg => ?_, fun n gl i h1 h2 => ?_⟩⟩
  · split at hg
    · rename_i hc
      split at hg
      · split at hg
        · have e := Option.some.inj hg
          rw [← e]
          exact ⟨hb _ hc.2, by simp⟩
        · exact nomatch hg
      · exact nomatch hg
    · exact nomatch hg
  · have hn : n < P.globals.size := (Array.getElem?_eq_some_iff.1 h1).1
    refine ⟨i.size, ?_⟩
    have e : gid n - 1000000 = n := by unfold gid; omega
    rw [e, if_pos ⟨by unfold gid; omega, hn⟩, h1]
    simp only [h2]

/-- The memory that the arguments make. -/
theorem mrel_blocks {B : List (Con × G)} {g0 : Scope} (hB : Blocks z w B) (hz : Globs P z g0 w) : MRel [scB B, g0] (gamB z B) w := by
  have hent : ∀ e id c, ent [scB B, g0] e id = some c → (e = 1 ∧ ∃ g, B[id]? = some (c, g)) ∨ (e = 0 ∧ g0 id = some c) := by
    intro e id c h
    simp only [ent, List.length_nil, List.length_cons] at h
    split at h
    · rename_i he
      refine .inl ⟨by omega, ?_⟩
      unfold scB at h
      cases hb : B[id]? with
      | none => rw [hb] at h; cases h
      | some p => rw [hb] at h; obtain ⟨c', g⟩ := p; cases h; exact ⟨g, rfl⟩
    · split at h
      · rename_i he
        exact .inr ⟨he, h⟩
      · cases h
  refine ⟨fun e id c h => ?_, fun e id c e' id' c' g g' h1 h2 => ?_, fun e id g h => ?_⟩
  · rcases hent e id c h with ⟨rfl, g, hb⟩ | ⟨rfl, hg⟩
    · obtain ⟨q1, _⟩ := hB id c g hb
      refine ⟨g, by simp [gamB, hb], ?_⟩
      have := q1 []
      simpa using this
    · obtain ⟨_, g, k1, k2⟩ := hz.ent id c hg
      exact ⟨g, by simp [gamB, k1], k2 _⟩
  · rcases hent e id c h1 with ⟨rfl, g, hb⟩ | ⟨rfl, hg⟩
    · obtain ⟨_, q2, _⟩ := hB id _ _ hb
      rw [q2] at h2; cases h2
    · obtain ⟨q2, _⟩ := hz.ent id c hg
      rw [q2] at h2; cases h2
  · unfold gamB at h
    split at h
    · cases hb : B[id]? with
      | none => rw [hb] at h; cases h
      | some p =>
        rw [hb] at h
        obtain ⟨c', g'⟩ := p
        cases h
        obtain ⟨_, _, q3, q4⟩ := hB id _ _ hb
        exact ⟨q3, q4⟩
    · split at h
      · exact hz.bnd id g h
      · cases h

/-- What the evaluator says of a law, said of the model's call. -/
theorem law_calls {SP : SProg} (hc : Comp P SP) {k f : Nat} {args : Array Value} {l : List AV} {B : List (Con × G)} {M' : Mem} {g0 : Scope} (hz : Globs P z g0 w) (hB : Blocks z w B) (hargs : Pw (VRel (gamB z B)) l args.toList)
    (hev : callFn SP k f l [scB B, g0] = some (.bool true, [], M')) : Go.Calls P f args w fun e w' => e = .returned (.bool true) ∧ Go.RowKit.Below w.heap.size w w' := by
  obtain ⟨_, h⟩ := (callFn_ok hc k).2 f l [scB B, g0] _ _ _ hev
  have hM := mrel_blocks hB hz
  refine (h (gamB z B) w args (by simp) hargs hM (fun n gl i h1 h2 => ?_) (fun e id h => gamB_dom z B e id h)).mono ?_
  · obtain ⟨r, hr⟩ := hz.rel n gl i h1 h2
    exact ⟨_, by simp only [gamB]; rw [if_neg (by decide)]; simpa using hr, Nat.le_refl _, fun _ => ⟨rfl, rfl, rfl⟩⟩
  rintro e w' ⟨v, γ', rfl, hv, hM', _, _, hS, _⟩
  have hv' := hv.bool_inv
  subst hv'
  refine ⟨rfl, hS.os, hS.tape, hS.output, hS.size, fun b hb => hS.frame b hb fun e id c g hcc hrw _ => ?_⟩
  exfalso
  rw [ent_empty] at hcc
  simp only [ent, List.length_nil, List.length_cons] at hcc
  split at hcc
  · unfold scB at hcc
    cases hb' : B[id]? with
    | none => rw [hb'] at hcc; cases hcc
    | some p =>
      rw [hb'] at hcc
      obtain ⟨c', g'⟩ := p
      cases hcc
      obtain ⟨_, q2, _⟩ := hB id _ _ hb'
      rw [q2] at hrw; cases hrw
  · split at hcc
    · obtain ⟨q2, _⟩ := hz.ent id c hcc
      rw [q2] at hrw; cases hrw
    · cases hcc

theorem below_all {w' : World} (hl : laidOutB P = true) (bel : Go.RowKit.Below w.heap.size w w') : ∀ (ts : List TypeId) (vs : List Value) (ds : List (DataW H)) (ps : List MemPlace), (ts.all fun t => P.readableRec t && decide (t < P.types.size)) = true →
    DataW.TrodAll enc P w 0 (fun _ => true) true ts vs ds ps → DataW.TrodAll enc P w' 0 (fun b => decide (b < w.heap.size)) true ts vs ds ps
  | [], vs, ds, ps, _, h => by
    obtain ⟨rfl, rfl, rfl⟩ := Go.ChangeShapes.trodAll_nil h
    exact Go.ChangeShapes.trodAll_mk0
  | t :: ts, vs, ds, ps, ht, h => by
    simp only [List.all_cons, Bool.and_eq_true, decide_eq_true_eq] at ht
    obtain ⟨v, vs', d, ds', p, q, rfl, rfl, rfl, h1, h2⟩ := Go.ChangeShapes.trodAll_cons h
    refine Go.trodAll_cons_mk ?_ (below_all hl bel ts vs' ds' q ht.2 h2)
    refine Go.RowKit.Below.trod hl ht.1.1 ht.1.2 h1 bel ?_
    obtain ⟨m, hm⟩ := h1
    exact DataW.trod_lt m _ _ _ hm
end

theorem weights_left {H : Type} {P : Program} : ∀ {ts us : List TypeId} {ds gs : List (DataW H)} {n : Nat}, n ∈ DataW.weightsEach P ts ds → n ∈ DataW.weightsEach P (ts ++ us) (ds ++ gs)
  | [], us, ds, gs, n, h => by simp [DataW.weightsEach] at h
  | t :: ts, us, [], gs, n, h => by simp [DataW.weightsEach] at h
  | t :: ts, us, d :: ds, gs, n, h => by
    simp only [DataW.weightsEach, List.cons_append, List.mem_append] at h ⊢
    rcases h with h | h
    · exact .inl h
    · exact .inr (weights_left h)

/-- A law's contract, out of what the evaluator says for all arguments of its types. -/
theorem law_contract {C : Checked} {SP : SProg} {H : Type} {enc : TypeId × Value → H} {f : Nat} {fn : Func} {s : ChangeSpec} {ys : List Ty} {rt : TypeId} (hc : Comp C.prog SP) {g0 : Scope} (hlaid : laidOutB C.prog = true)
    (hvars : s.vars = []) (hspec : ∀ ds : List (DataW H), ds.length = ys.length → s.fn H ds = { results := [.lit (.bool true)], args := ds }) (hfit : tysFit C.prog fn.params.toList ys = true)
    (hread : (fn.params.toList.all fun t => C.prog.readableRec t && decide (t < C.prog.types.size)) = true) (hrt : fn.resultTypes = #[rt]) (hrb : C.prog.underlying rt = some .bool)
    (hev : ∀ (s : Scope) (args : List AV), ArgsShp s ys args → ∃ k M', callFn SP k f args [s, g0] = some (.bool true, [], M'))
    (W : World) (hglob : ∃ z, Globs C.prog z g0 W) (base : Nat) (args : Array Value) (ds gs : List (DataW H)) (before : List MemPlace) (hval : ∀ (j : Nat) t v, fn.params[j]? = some t → args[j]? = some v → Value.okWide C.prog W .any base t v)
    (hW : DataW.Whole enc C.prog fn.params.toList s.vars false W args.toList ds gs before) :
    (DataW.weightsEach C.prog (fn.params.toList ++ s.plain.varTypes C.prog) (ds ++ gs)).all (· ≤ reachBytes) = true →
    Go.Calls C.prog f args W fun e W' => ∃ v, e = .returned v ∧ s.post enc C.prog fn false true false false W args v W' := by
  intro hwt0
  obtain ⟨z, hz⟩ := hglob
  have hW' := hW
  obtain ⟨p, q, hA, hV, rfl, hfz, hnd⟩ := hW
  rw [hvars] at hV
  obtain ⟨rfl, rfl⟩ := Go.ChangeShapes.trodVars_none hV
  have hlen : ds.length = ys.length := by
    have h1 : ∀ (ts : List TypeId) (ys : List Ty) (vs : List Value) (ds : List (DataW H)) (ps : List MemPlace), tysFit C.prog ts ys = true → DataW.TrodAll enc C.prog W 0 (fun _ => true) true ts vs ds ps → ds.length = ys.length := by
      intro ts
      induction ts with
      | nil =>
        intro ys vs ds ps hf h
        obtain ⟨_, rfl, _⟩ := Go.ChangeShapes.trodAll_nil h
        cases ys with
        | nil => rfl
        | cons y ys => simp [tysFit] at hf
      | cons t ts ih =>
        intro ys vs ds ps hf h
        obtain ⟨v, vs', d, ds', p, q, rfl, rfl, rfl, h1, h2⟩ := Go.ChangeShapes.trodAll_cons h
        cases ys with
        | nil => simp [tysFit] at hf
        | cons y ys =>
          simp only [tysFit, Bool.and_eq_true] at hf
          simp [ih ys vs' ds' q hf.2 h2]
    exact h1 _ _ _ _ _ hfit hA
  obtain ⟨l, m, k1, k2, k3⟩ := open_args (z := z) (base := base) fn.params.toList ys args.toList ds p [] hfit hA (fun j t v a b => hval j t v (by rw [← Array.getElem?_toList]; exact a) (by rw [← Array.getElem?_toList]; exact b)) (fun n hn => by
    have := List.all_eq_true.1 hwt0 n (weights_left hn)
    simpa using this) (fun i c g h => by simp at h)
  simp only [List.nil_append] at k1 k2 k3
  have k2' := k2 []
  have k3' := k3 []
  rw [List.append_nil] at k2' k3'
  obtain ⟨k, M', hk⟩ := hev (scB m) l k3'
  refine (law_calls hc hz k1 k2' hk).mono ?_
  rintro e W' ⟨rfl, bel⟩
  have hsp := hspec ds hlen
  refine ⟨_, rfl, ds, [], p ++ [], [], p, [], hW', ?_, ?_, ?_, bel.frame _, fun h => by cases h⟩
  · rw [List.append_nil, hsp, hrt]
    exact Go.ChangeShapes.trodAll_mk1 (Go.RowKit.shut_bool hrb _)
  · rw [List.append_nil, hsp]
    exact below_all hlaid bel _ _ _ _ hread hA
  · rw [hvars, List.append_nil, hsp]
    rfl

/-! ### what arguments of plain types look like -/
theorem ArgShp_str {s : Scope} {v : AV} (h : ArgShp s .str v) : ∃ t, v = .str t ∧ t.length ≤ reachBytes := by
  obtain ⟨l, ⟨t, rfl, ht⟩, h⟩ := h
  rcases h with ⟨h, _⟩ | ⟨_, h⟩
  · cases h
  · cases h; exact ⟨t, rfl, ht⟩
theorem ArgShp_bool {s : Scope} {v : AV} (h : ArgShp s .bool v) : ∃ b, v = .bool b := by
  obtain ⟨l, ⟨t, rfl⟩, h⟩ := h
  rcases h with ⟨h, _⟩ | ⟨_, h⟩
  · cases h
  · cases h; exact ⟨t, rfl⟩
theorem ArgShp_int {s : Scope} {k : IntKind} {v : AV} (h : ArgShp s (.int k) v) : ∃ n, v = .int k n ∧ (Lit.int k n).wf = true := by
  obtain ⟨l, ⟨t, rfl, ht⟩, h⟩ := h
  rcases h with ⟨h, _⟩ | ⟨_, h⟩
  · cases h
  · cases h; exact ⟨t, rfl, ht⟩
theorem ArgShp_sl {s : Scope} {e : Ty} {v : AV} (h : ArgShp s (.sl e) v) : v = .slice none 0 e.size ∨ v = .slice0 e.size ∨ ∃ (id : Nat) (ls : List (List AV)) (fl : Bool),
    v = .slice (some ⟨1, id, ls.flatten.length, 0⟩) ls.length e.size ∧ s id = some (.cells ls.flatten false fl) ∧ ls.length ≤ reachBytes ∧ ∀ x ∈ ls, Shp s e x := by
  obtain ⟨l, hl, h⟩ := h
  rcases h with ⟨h, _⟩ | ⟨_, rfl⟩
  · cases h
  · rcases hl with hl | hl | ⟨id, ls, fl, hl, h1, h2, h3⟩
    · cases hl; exact .inl rfl
    · cases hl; exact .inr (.inl rfl)
    · cases hl; exact .inr (.inr ⟨id, ls, fl, rfl, h1, h2, h3⟩)
theorem ArgShp_agg {s : Scope} {y : Ty} {v : AV} (hy : y.agg = true) (h : ArgShp s y v) : ∃ l, v = .agg l ∧ Shp s y l := by
  obtain ⟨l, hl, h⟩ := h
  rcases h with ⟨_, rfl⟩ | ⟨h, _⟩
  · exact ⟨l, rfl, hl⟩
  · rw [hy] at h; cases h

end Go.Det

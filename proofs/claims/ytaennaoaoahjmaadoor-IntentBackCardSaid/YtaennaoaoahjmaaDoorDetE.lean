/-
  DET, part E: new blocks.
-/
import Derived.Test.YtaennaoaoahjmaaDoorDetD
import Derived.IntWalk
set_option linter.unusedSimpArgs false
set_option linter.unusedVariables false
namespace Go.Det

theorem unders_iff {n : Nat} : ∀ {l : List AV}, AV.unders n l = true ↔ ∀ v ∈ l, AV.under n v = true
  | [] => by simp [AV.unders]
  | v :: l => by simp [AV.unders, unders_iff (l := l)]

theorem under_of_rel {γ : Gam} {n : Nat} (hd : ∀ e id, γ e id ≠ none → e < n) {v : AV} {r : Value} (h : SRel γ v r) : AV.under n v = true := by
  induction h with
  | bool b => rfl
  | int k n => rfl
  | str s => rfl
  | ptr0 => rfl
  | @ptr a r h => obtain ⟨g, hg, _⟩ := h; simp only [AV.under, decide_eq_true_eq]; exact hd _ _ (by rw [hg]; simp)
  | slice0 e => rfl
  | @slice a n e r c h => obtain ⟨_, g, hg, _⟩ := h; simp only [AV.under, decide_eq_true_eq]; exact hd _ _ (by rw [hg]; simp)
  | room0 e r => rfl
  | map0 => rfl
  | @map a r h => obtain ⟨g, hg, _⟩ := h; simp only [AV.under, decide_eq_true_eq]; exact hd _ _ (by rw [hg]; simp)
  | @func f l m l' m' hl hm pl pm ih1 ih2 =>
    simp only [AV.under, Bool.and_eq_true]
    refine ⟨unders_iff.2 fun v hv => ?_, unders_iff.2 fun v hv => ?_⟩
    · obtain ⟨i, hi⟩ := List.getElem?_of_mem hv
      have h1 : i < l.length := (List.getElem?_eq_some_iff.1 hi).1
      exact ih1 i v _ hi (List.getElem?_eq_getElem (by omega))
    · obtain ⟨i, hi⟩ := List.getElem?_of_mem hv
      have h1 : i < m.length := (List.getElem?_eq_some_iff.1 hi).1
      exact ih2 i v _ hi (List.getElem?_eq_getElem (by omega))
  | nilFunc => rfl

theorem unders_of_rel {γ : Gam} {n : Nat} (hd : ∀ e id, γ e id ≠ none → e < n) {l : List AV} {l' : List Value} (h : Pw (SRel γ) l l') : AV.unders n l = true := by
  refine unders_iff.2 fun v hv => ?_
  obtain ⟨i, hi⟩ := List.getElem?_of_mem hv
  obtain ⟨r, hr, hh⟩ := h.get hi
  exact under_of_rel hd hh

def World.grow (w : World) (o : Obj) (d : Nat) : World := { w with heap := w.heap.push o, drawn := d }

theorem grow_old (w : World) (o : Obj) (d b : Nat) (h : b < w.heap.size) : (World.grow w o d).heap[b]? = w.heap[b]? := by
  simp only [World.grow, Array.getElem?_push]
  rw [if_neg (by omega)]

theorem grow_new (w : World) (o : Obj) (d : Nat) : (World.grow w o d).heap[w.heap.size]? = some o := by
  simp [World.grow, Array.getElem?_push]

/-- A block more in what stands for the abstract ones. -/
def addG (γ : Gam) (e0 id0 : Nat) (g : G) : Gam := fun e id => if e = e0 ∧ id = id0 then some g else γ e id

theorem addG_new (γ : Gam) (e id : Nat) (g : G) : addG γ e id g e id = some g := by simp [addG]

theorem addG_ext {γ : Gam} {e0 id0 : Nat} {g : G} (h : γ e0 id0 = none) : Ext γ (addG γ e0 id0 g) := by
  intro e id x hx
  refine ⟨x, ?_, Nat.le_refl _, fun _ => rfl⟩
  unfold addG
  split
  · rename_i hh; obtain ⟨rfl, rfl⟩ := hh; rw [h] at hx; cases hx
  · exact hx

theorem ent_cons_top {s : Scope} {M : Mem} {id : Nat} : ent (s :: M) M.length id = s id := by simp [ent]
theorem ent_cons_old {s : Scope} {M : Mem} {e id : Nat} (h : e ≠ M.length) : ent (s :: M) e id = ent M e id := by simp [ent, h]

theorem ent_lt {M : Mem} {e id : Nat} (h : ent M e id ≠ none) : e < M.length := by
  induction M with
  | nil => simp [ent] at h
  | cons s M ih =>
    simp only [ent] at h
    split at h
    · simp; omega
    · have := ih h; simp; omega

theorem alloc_step {s : Scope} {M0 : Mem} {γ : Gam} {w : World} {id : Nat} {c : Con} {obj : Obj} {dr : Nat} {g : G} {own : Nat → Nat → Prop}
    (hM : MRel (s :: M0) γ w) (hs : s id = none) (hγ : γ M0.length id = none) (hgb : g.b = w.heap.size) (hgr : g.o + g.s ≤ g.r)
    (hC : ∀ γ', Ext γ γ' → CRel γ' M0.length c g (World.grow w obj dr)) (hown : own M0.length id) :
    MRel (setAt s id (some c) :: M0) (addG γ M0.length id g) (World.grow w obj dr) ∧
      Stp own (s :: M0) γ w (setAt s id (some c) :: M0) (addG γ M0.length id g) (World.grow w obj dr) := by
  have hx := addG_ext (g := g) hγ
  have hent : ∀ e i, ent (setAt s id (some c) :: M0) e i = if e = M0.length ∧ i = id then some c else ent (s :: M0) e i := by
    intro e i
    simp only [ent, setAt]
    by_cases h1 : e = M0.length
    · simp only [h1, if_true, true_and]
    · simp only [h1, if_false, false_and]
  have hgam : ∀ e i, addG γ M0.length id g e i = if e = M0.length ∧ i = id then some g else γ e i := fun e i => rfl
  have hold : ent (s :: M0) M0.length id = none := by simp [ent, hs]
  constructor
  · refine ⟨fun e i c' hc' => ?_, fun e i c1 e' i' c2 g1 g2 h1 h2 h3 h4 h5 h6 => ?_, fun e i g1 h1 => ?_⟩
    · rw [hent] at hc'
      split at hc'
      · rename_i hh
        obtain ⟨rfl, rfl⟩ := hh
        cases hc'
        exact ⟨g, addG_new _ _ _ _, hC _ hx⟩
      · rename_i hh
        obtain ⟨g1, hg1, hcr⟩ := hM.ent e i c' hc'
        refine ⟨g1, by rw [hgam, if_neg hh]; exact hg1, hcr.ext hx (grow_old w obj dr g1.b (hM.bnd _ _ _ hg1).1)⟩
    · rw [hent] at h1 h3
      rw [hgam] at h4 h5
      split at h1
      · rename_i hh
        rw [if_pos hh] at h4
        cases h4
        split at h3
        · rename_i hh'; exact ⟨hh.1.trans hh'.1.symm, hh.2.trans hh'.2.symm⟩
        · rename_i hh'
          rw [if_neg hh'] at h5
          have := (hM.bnd _ _ _ h5).1
          omega
      · rename_i hh
        rw [if_neg hh] at h4
        split at h3
        · rename_i hh'
          rw [if_pos hh'] at h5
          cases h5
          have := (hM.bnd _ _ _ h4).1
          omega
        · rename_i hh'
          rw [if_neg hh'] at h5
          exact hM.inj e i c1 e' i' c2 g1 g2 h1 h2 h3 h4 h5 h6
    · rw [hgam] at h1
      split at h1
      · cases h1; exact ⟨by simp [World.grow]; omega, hgr⟩
      · have := hM.bnd _ _ _ h1; exact ⟨by simp [World.grow]; omega, this.2⟩
  · refine ⟨rfl, rfl, rfl, by simp [World.grow], fun b hb _ => grow_old w obj dr b hb, hx, fun e i h1 h2 => ?_, fun e i c1 h1 h2 => ?_, fun e i g1 h1 => ?_, rfl, fun e i h1 => ?_, fun e i c1 h1 => ?_, fun e i h1 h2 => ?_, fun e i h1 h2 => ?_, fun e i h1 h2 => ?_⟩
    · rw [hgam]
      split
      · rename_i hh; obtain ⟨rfl, rfl⟩ := hh; exact absurd hγ h2
      · rfl
    · have hh : ¬ (e = M0.length ∧ i = id) := by rintro ⟨rfl, rfl⟩; rw [hold] at h1; cases h1
      exact ⟨by rw [hgam, if_neg hh], by rw [hent, if_neg hh]; exact h1⟩
    · rw [hgam] at h1
      split at h1
      · cases h1; exact .inr (by omega)
      · exact .inl ⟨g1, h1, rfl⟩
    · rw [hent] at h1
      split at h1
      · rename_i hh; obtain ⟨rfl, rfl⟩ := hh; exact .inr hγ
      · exact .inl h1
    · have hh : ¬ (e = M0.length ∧ i = id) := by rintro ⟨rfl, rfl⟩; rw [hold] at h1; cases h1
      exact ⟨c1, by rw [hent, if_neg hh]; exact h1, fun x => x⟩
    · rw [hgam] at h2
      split at h2
      · rename_i hh; obtain ⟨rfl, rfl⟩ := hh; exact hown
      · exact absurd h1 h2
    · rw [hent] at h2
      split at h2
      · rename_i hh; obtain ⟨rfl, rfl⟩ := hh; exact hown
      · exact absurd h1 h2
    · rw [hgam] at h2
      split at h2
      · rename_i hh; rw [hent, if_pos hh]; simp
      · exact absurd h1 h2

/-- What an allocating operation comes to. -/
def AOk (P : Program) (γ : Gam) (a : Act) (o : Oper) (c : Con) (f : AAddr → AV) : Prop :=
  ∀ (w : World) (d id : Nat), (∀ e i, γ e i ≠ none → e < d + 1) → ∃ obj dr g r, (execOp a.eval o).run P w = .ok (.value r) (World.grow w obj dr) ∧ g.b = w.heap.size ∧ g.o + g.s ≤ g.r ∧ g.s = c.size ∧
    (∀ γ', Ext γ γ' → CRel γ' d c g (World.grow w obj dr)) ∧ (∀ γ', γ' d id = some g → VRel γ' (f ⟨d, id, c.size, 0⟩) r)

section
variable {P : Program} {γ : Gam} {e : Env} {a : Act} {q : Qs} {base : Nat} {dst : Option Tmp} {ty : TypeId} {pos : String} {after : Array Edge} {guard : Option (Nat × Bool)}

theorem run_newRow (t : TypeId) (cs : Array Value) (w : World) : (newRow t cs).run P w = .ok ⟨w.heap.size, 0, none⟩ (World.grow w (.cells cs t) w.drawn) := rfl

/-- New cells, of which the first ones are told. -/
theorem cells_newF {c : List AV} {cs : Array Value} {t : TypeId} {w : World} {d dr lo hi : Nat} (fl : Bool) (hfl : fl = true → AV.unders 0 c = true) (hd : ∀ e i, γ e i ≠ none → e < d + 1) (h : Pw (SRel γ) c (cs.toList.take c.length)) (hlt : c.length ≤ cs.size)
    (hz : ∀ i, i < cs.size → ¬ (lo ≤ i ∧ i < hi)) (γ' : Gam) (hx : Ext γ γ') :
    CRel γ' d (.cells c true fl) ⟨w.heap.size, c.length, cs.size, 0⟩ (World.grow w (.cells cs t (lo, hi)) dr) := by
  refine ⟨cs, t, lo, hi, grow_new _ _ _, rfl, rfl, ⟨by simpa using hlt, fun i v r hv hr => ?_⟩, fun _ => ⟨rfl, hz⟩, ?_⟩
  · refine (h.2 i v r hv ?_).ext hx
    rw [List.getElem?_take, if_pos (List.getElem?_eq_some_iff.1 hv).1]
    exact hr
  · cases fl with
    | true => simpa using hfl rfl
    | false => simpa using unders_of_rel hd h

theorem cells_newA {c : List AV} {cs : Array Value} {t : TypeId} {w : World} {d dr lo hi : Nat} (hd : ∀ e i, γ e i ≠ none → e < d + 1) (h : Pw (SRel γ) c (cs.toList.take c.length)) (hlt : c.length ≤ cs.size)
    (hz : ∀ i, i < cs.size → ¬ (lo ≤ i ∧ i < hi)) (γ' : Gam) (hx : Ext γ γ') :
    CRel γ' d (mkCellsA c) ⟨w.heap.size, c.length, cs.size, 0⟩ (World.grow w (.cells cs t (lo, hi)) dr) :=
  cells_newF _ (fun h => (Bool.and_eq_true_iff.1 h).1) hd h hlt hz γ' hx

theorem cells_new {c : List AV} {cs : Array Value} {t : TypeId} {w : World} {d dr lo hi : Nat} (hd : ∀ e i, γ e i ≠ none → e < d + 1) (h : Pw (SRel γ) c (cs.toList.take c.length)) (hlt : c.length ≤ cs.size)
    (hz : ∀ i, i < cs.size → ¬ (lo ≤ i ∧ i < hi)) (γ' : Gam) (hx : Ext γ γ') :
    CRel γ' d (mkCells c) ⟨w.heap.size, c.length, cs.size, 0⟩ (World.grow w (.cells cs t (lo, hi)) dr) := by
  refine ⟨cs, t, lo, hi, grow_new _ _ _, rfl, rfl, ⟨by simpa using hlt, fun i v r hv hr => ?_⟩, fun _ => ⟨rfl, hz⟩, ?_⟩
  · refine (h.2 i v r hv ?_).ext hx
    rw [List.getElem?_take, if_pos (List.getElem?_eq_some_iff.1 hv).1]
    exact hr
  · by_cases hf : AV.unders 0 c = true
    · rw [hf]; simpa using hf
    · have : AV.unders 0 c = false := by simpa using hf
      rw [this]
      simpa using unders_of_rel hd h

theorem take_self {l : List AV} {l' : List Value} (h : Pw (SRel γ) l l') : Pw (SRel γ) l (l'.take l.length) := by
  rw [List.take_of_length_le (by rw [h.1]; exact Nat.le_refl _)]; exact h

theorem ptr_new {γ' : Gam} {d id n : Nat} {g : G} (hg : γ' d id = some g) (hn : g.s = n) (ho : g.o = 0 := by rfl) : VRel γ' (.ptr (some ⟨d, id, n, 0⟩)) (.pointer (some ⟨g.b, 0, none⟩)) :=
  .sc (.ptr ⟨g, hg, by simp [hn], fun _ => ⟨rfl, rfl, by simp [ho]⟩⟩)

theorem slice_new {γ' : Gam} {d id n m s c : Nat} {g : G} (hg : γ' d id = some g) (hn : g.s = n) (hm : m ≤ c) (hc : c * s ≤ g.r) (ho : g.o = 0 := by rfl) :
    VRel γ' (.slice (some ⟨d, id, n, 0⟩) m s) (.slice (some ⟨g.b, 0, none⟩) m c) :=
  .sc (.slice ⟨hm, g, hg, by simp [hn], fun _ => ⟨rfl, rfl, fun _ => ⟨by simp [ho], by simpa [ho] using hc⟩⟩⟩)

theorem s_alloc {t : TypeId} {z : List AV} (hz : zeroOf P t = some z) : AOk P γ a ⟨dst, .alloc t, ty, pos, after, guard⟩ (mkCellsA z) (fun x => .ptr (some x)) := by
  intro w d id hd
  obtain ⟨v, i, hi, hv, hr⟩ := zero_rel hz
  refine ⟨.cells v.cells t, w.drawn, ⟨w.heap.size, z.length, v.cells.size, 0⟩, .pointer (some ⟨w.heap.size, 0, none⟩), ?_, rfl, by simp [(hr γ).1], rfl, fun γ' hx => ?_, fun γ' hg => ptr_new hg rfl⟩
  · simp only [execOp]
    refine exec_v' _ _ w _ ?_
    simp only [Instr.alloc, Sem.run_bind, r_zero hi hv, Result.andThen_ok]
    rfl
  · exact cells_newA hd (take_self (hr γ)) (by simp [(hr γ).1]) (by intro i _ h; omega) γ' hx

theorem s_box {t : TypeId} {x : Operand} {x' : Opd} {cs : List AV} (hG : GRel P γ) (hE : ERel γ e a.tmps) (hx : cOpd P x = some x') (hc : cellsOf (opd e x') = some cs) :
    AOk P γ a ⟨dst, .box t x, ty, pos, after, guard⟩ (mkCellsA cs) (fun x => .ptr (some x)) := by
  intro w d id hd
  have rc := (opd_rel hG hE hx).cells hc
  refine ⟨.cells (a.eval x).cells t, w.drawn, ⟨w.heap.size, cs.length, (a.eval x).cells.size, 0⟩, .pointer (some ⟨w.heap.size, 0, none⟩), ?_, rfl, by simp [rc.1], rfl, fun γ' hx => ?_, fun γ' hg => ptr_new hg rfl⟩
  · simp only [execOp]
    exact exec_v' _ _ w _ rfl
  · exact cells_newA hd (take_self rc) (by simp [rc.1]) (by intro i _ h; omega) γ' hx

theorem rep_get {n : Nat} {z : List AV} {i : Nat} (hi : i < n * z.length) : (rep n z)[i]? = z[i % z.length]? := by
  unfold rep
  split
  · rename_i x
    simp at hi
    rw [List.getElem?_replicate, if_pos hi]
    simp [Nat.mod_one]
  · rw [List.getElem?_map, List.getElem?_range hi]
    have hz : 0 < z.length := by
      rcases Nat.eq_zero_or_pos z.length with h | h
      · rw [h] at hi; omega
      · exact h
    have hlt := Nat.mod_lt i hz
    simp [List.getElem?_eq_getElem hlt]

theorem rep_length {n : Nat} {z : List AV} : (rep n z).length = n * z.length := by
  unfold rep
  split <;> simp

theorem rep_rel {n m : Nat} {z : List AV} {zs : Array Value} (h : Pw (SRel γ) z zs.toList) (hz : 0 < z.length) (hn : n ≤ m) :
    Pw (SRel γ) (rep n z) ((((Array.range (m * zs.size)).map (zs[· % zs.size]!)).toList).take (n * z.length)) := by
  have hsz : zs.size = z.length := by rw [h.1]; simp
  refine ⟨?_, fun i v r hv hr => ?_⟩
  · rw [rep_length, List.length_take]
    have : n * z.length ≤ m * zs.size := by rw [hsz]; exact Nat.mul_le_mul_right _ hn
    simp only [Array.toList_map, List.length_map, Array.length_toList, Array.size_range]
    omega
  · have hi : i < n * z.length := by
      have := (List.getElem?_eq_some_iff.1 hv).1
      rwa [rep_length] at this
    rw [rep_get hi] at hv
    rw [List.getElem?_take, if_pos hi, Array.getElem?_toList, Array.getElem?_map] at hr
    have hi2 : i < m * zs.size := by
      rw [hsz]; exact Nat.lt_of_lt_of_le hi (Nat.mul_le_mul_right _ hn)
    rw [Array.getElem?_range, if_pos hi2] at hr
    simp only [Option.map_some, Option.some.injEq] at hr
    have hlt := Nat.mod_lt i hz
    refine h.2 (i % z.length) v r hv ?_
    rw [Array.getElem?_toList, ← hr, hsz]
    rw [Array.getElem?_eq_getElem (by omega), getElem!_pos zs (i % z.length) (by omega)]

theorem wrap_small {n : Int} (h0 : 0 ≤ n) (h1 : n ≤ 2 ^ 62) : IntKind.wrap .i64 n = n := by
  have : (2:Int)^62 = 4611686018427387904 := by decide
  rw [this] at h1
  exact IntWalk.i64_in n (by omega)

theorem s_mkSlice {t el : TypeId} {l c : Operand} {l' c' : Opd} {s bt : Nat} {z : List AV} {con : Con} {f : AAddr → AV} (hG : GRel P γ) (hE : ERel γ e a.tmps) (hl : cOpd P l = some l') (hc : cOpd P c = some c')
    (hu : P.underlying t = some (.slice el)) (hs : szOf P el = some s) (hb : bytOf P el = some bt) (hz : zeroOf P el = some z) (h : evA (.mkSlice s bt z l' c') e = some (con, f)) :
    AOk P γ a ⟨dst, .makeSlice t l c, ty, pos, after, guard⟩ con f := by
  have rl := opd_rel hG hE hl
  have rc := opd_rel hG hE hc
  simp only [evA] at h
  split at h
  · rename_i n m hn hm
    rw [hn] at rl; rw [hm] at rc
    split at h
    · rename_i hcond
      obtain ⟨c1, c2, c3, c4, c5, c6⟩ := hcond
      cases h
      intro w d id hd
      obtain ⟨v, i, hi, hv, hr⟩ := zero_rel hz
      have hbt : i.bytes = bt := by
        unfold bytOf at hb; rw [hi] at hb; simpa using hb
      have hp45 : (2:Int)^45 = 35184372088832 := by decide
      have hp48 : (2:Int)^48 = 281474976710656 := by decide
      rw [hp45] at c3 c4
      have hwn : IntKind.wrap .i64 n = n := wrap_small c1 (by have : (2:Int)^62 = 4611686018427387904 := by decide
                                                              omega)
      have hwm : IntKind.wrap .i64 m = m := wrap_small (by omega) (by have : (2:Int)^62 = 4611686018427387904 := by decide
                                                                      omega)
      have hvs : v.cells.size = s := by rw [← c5, (hr γ).1]; simp
      have hlen : n.toNat * z.length ≤ m.toNat * v.cells.size := by rw [hvs, c5]; exact Nat.mul_le_mul_right _ (by omega)
      refine ⟨.cells ((Array.range (m.toNat * s)).map (v.cells[· % v.cells.size]!)) el, w.drawn, ⟨w.heap.size, (rep n.toNat z).length, m.toNat * s, 0⟩, .slice (some ⟨w.heap.size, 0, none⟩) n.toNat m.toNat,
        ?_, rfl, ?_, rfl, fun γ' hx => ?_, fun γ' hg => ?_⟩
      · simp only [execOp]
        refine exec_v' _ _ w _ ?_
        rw [rl.int_inv, rc.int_inv]
        simp only [Instr.makeSlice, asInt, asIntOf, Sem.run_bind, r_und hu, Result.andThen_ok, Sem.run_pure, r_info hi, hwn, hwm, hbt]
        have g1 : ¬ ((decide (m < 0) || decide ((bt : Int) * m > 2 ^ 48)) = true) := by
          simp only [Bool.or_eq_true, decide_eq_true_eq, not_or, hp48]
          rw [Int.mul_comm]
          constructor <;> omega
        have g2 : ¬ n < 0 := by omega
        have g3 : ¬ n > m := by omega
        simp only [g1, g2, g3, decide_false, Bool.or_false, Bool.false_eq_true, if_false, Sem.run_bind, Go.run_askRoom, Result.andThen_ok, r_size hs]
        split
        · rename_i h0
          have hr0 : ∀ f : Nat → Value, (Array.range 0).map f = #[] := fun f => by apply Array.eq_empty_of_size_eq_zero; simp
          simp only [Sem.run_pure, Result.andThen_ok, h0, Sem.run_bind, run_newRow, hr0]
        · simp only [Sem.run_bind, r_zero hi hv, Sem.run_pure, Result.andThen_ok, run_newRow]
      · simp only [rep_length, Nat.zero_add]; rw [c5]; exact Nat.mul_le_mul_right _ (by omega)
      · have h1 := rep_rel (γ := γ) (n := n.toNat) (m := m.toNat) (hr γ) (by omega) (by omega)
        rw [hvs] at h1
        have h2 := cells_new (w := w) (t := el) (dr := w.drawn) (lo := 0) (hi := 0) (cs := (Array.range (m.toNat * s)).map (v.cells[· % v.cells.size]!)) hd (by rw [rep_length, hvs]; exact h1) (by rw [rep_length]; simp; rw [c5]; exact Nat.mul_le_mul_right _ (by omega)) (by intro i _ h; omega) γ' hx
        simpa using h2
      · exact slice_new hg rfl (by omega) (by simp)
    · cases h
  · cases h

theorem s_mkMap {t k v : TypeId} (hu : P.underlying t = some (.map k v)) : AOk P γ a ⟨dst, .makeMap t none, ty, pos, after, guard⟩ (.map [] true) (fun x => .map (some x)) := by
  intro w d id hd
  refine ⟨.map #[] 0, w.drawn, ⟨w.heap.size, 0, 0, 0⟩, .map (some w.heap.size), ?_, rfl, Nat.le_refl _, rfl, fun γ' hx => ?_, fun γ' hg => .sc (.map ⟨_, hg, Nat.zero_le _, fun _ => rfl⟩)⟩
  · simp only [execOp]
    exact exec_v' _ _ w _ rfl
  · exact ⟨#[], 0, grow_new _ _ _, rfl, rfl, fun i k v x h => by simp at h⟩

theorem s_toBytes {src dt el : TypeId} {x : Operand} {x' : Opd} {con : Con} {f : AAddr → AV} (hG : GRel P γ) (hE : ERel γ e a.tmps) (hx : cOpd P x = some x')
    (hs : P.underlying src = some .string) (hd : P.underlying dt = some (.slice el)) (hel : isU8 P el = true) (h : evA (.toBytes x') e = some (con, f)) :
    AOk P γ a ⟨dst, .convert src dt x, ty, pos, after, guard⟩ con f := by
  have rx := opd_rel hG hE hx
  have hu8 : P.underlying el = some (.int .u8) := by
    unfold isU8 at hel
    split at hel
    · assumption
    · cases hel
  simp only [evA] at h
  split at h
  · rename_i l hl
    rw [hl] at rx
    obtain ⟨b, eb, hb⟩ := rx.str_inv
    split at h
    · rename_i hlen
      cases h
      intro w d id hdd
      have hbl : b.size = l.length := by rw [← hb, Array.length_toList]; rfl
      let cap := (Question.appendCap b.size 0 el).cut (w.tape w.drawn (.appendCap b.size 0 el))
      have hcap : b.size ≤ cap := by simp only [cap, Question.cut]; omega
      let cs : Array Value := (b.data.map fun x => .int .u8 x.toNat) ++ Array.replicate (cap - b.size) (.int .u8 0)
      have hcs : cs.size = cap := by
        simp only [cs, Array.size_append, Array.size_map, Array.size_replicate]
        have : b.data.size = b.size := rfl
        omega
      refine ⟨.cells cs el (cap, cap + 1), w.drawn + 1, ⟨w.heap.size, l.length, cap, 0⟩, .slice (some ⟨w.heap.size, 0, none⟩) l.length cap, ?_, rfl, by simp only; omega, by simp [Con.size], fun γ' hx => ?_, fun γ' hg => ?_⟩
      · simp only [execOp]
        refine exec_v' _ _ w _ ?_
        rw [eb]
        simp only [convert, Sem.run_bind, r_und hs, r_und hd, r_und hu8, Result.andThen_ok]
        simp only [Conv.stringToBytes, Sem.run_bind]
        have hch : (choose (.appendCap b.size 0 el)).run P w = .ok cap { w with drawn := w.drawn + 1 } := rfl
        rw [hch]
        simp only [Result.andThen_ok, run_newRow]
        have hcs' : (b.data.map fun x => Value.int .u8 x.toNat) ++ Array.replicate (cap - b.size) (.int .u8 0) = cs := rfl
        rw [hcs']
        have hsh : (shape w.heap.size).run P (World.grow { w with drawn := w.drawn + 1 } (.cells cs el) (w.drawn + 1)) = .ok (some (el, cs.size)) (World.grow { w with drawn := w.drawn + 1 } (.cells cs el) (w.drawn + 1)) := by
          show Result.ok _ _ = _
          congr 1
          simp only [World.shape?, World.grow, Array.getElem?_push, if_true]
        have hmk : (markStringish ⟨w.heap.size, 0, none⟩).run P (World.grow { w with drawn := w.drawn + 1 } (.cells cs el) (w.drawn + 1)) = .ok () (World.grow w (.cells cs el (cap, cap + 1)) (w.drawn + 1)) := by
          simp only [markStringish, Sem.run_bind, hsh, Result.andThen_ok, Go.run_freeze]
          congr 1
          simp only [World.freeze, Nat.one_ne_zero, if_false, World.grow, hcs]
          congr 1
          apply Array.ext_getElem?
          intro i
          simp only [Array.getElem?_modify, Array.getElem?_push]
          by_cases hi : i = w.heap.size
          · subst hi; simp
          · rw [if_neg (fun h => hi h.symm), if_neg hi, if_neg hi]
        rw [hmk]
        simp only [Result.andThen_ok, Sem.run_pure, hbl]
      · refine ⟨cs, el, cap, cap + 1, grow_new _ _ _, by simp, by simp [hcs], ⟨by simp; omega, fun i v r hv hr => ?_⟩, fun _ => ⟨rfl, fun i hi h => by omega⟩, ?_⟩
        · have hi : i < l.length := by
            have := (List.getElem?_eq_some_iff.1 hv).1
            simpa using this
          have hi2 : i < b.data.size := by have : b.data.size = b.size := rfl; omega
          simp only [List.drop_zero] at hr
          rw [Array.getElem?_toList, Array.getElem?_append_left (by simp; exact hi2), Array.getElem?_map] at hr
          rw [List.getElem?_map, ← hb, Array.getElem?_toList] at hv
          rw [Array.getElem?_eq_getElem hi2] at hv hr
          simp only [Option.map_some, Option.some.injEq] at hv hr
          rw [← hv, ← hr]
          exact .int _ _
        · simp only [if_true]
          refine unders_iff.2 fun v hv => ?_
          simp only [List.mem_map] at hv
          obtain ⟨x, _, rfl⟩ := hv
          rfl
      · simp only [Con.size, List.length_map]
        exact slice_new hg rfl (by omega) (by simp)
    · cases h
  · cases h

theorem s_buildS {t el : TypeId} {len s : Nat} {z : List AV} {parts : Array (Nat × Operand)} {ps : List (Nat × Nat × Opd)} {con : Con} {f : AAddr → AV} (hG : GRel P γ) (hE : ERel γ e a.tmps)
    (hu : P.underlying t = some (.slice el)) (hs : szOf P el = some s) (hz : zeroOf P el = some z) (h0 : 0 < s) (hzs : z.length = s) (hlen : len * s ≤ 2 ^ 24)
    (hc : cParts P (fun i => some (i * s, s)) parts.toList = some ps) (h : evA (.buildS s len z ps) e = some (con, f)) :
    AOk P γ a ⟨dst, .buildSlice t len parts, ty, pos, after, guard⟩ con f := by
  simp only [evA] at h
  split at h
  · rename_i cs hcs
    split at h
    · rename_i hl
      cases h
      intro w d id hd
      obtain ⟨v, i, hi, hv, hr⟩ := zero_rel hz
      have hvs : v.cells.size = s := by rw [← hzs, (hr γ).1]; simp
      have hp := rep_rel (γ := γ) (n := len) (m := len) (hr γ) (by omega) (Nat.le_refl _)
      have hfull : (((Array.range (len * v.cells.size)).map (v.cells[· % v.cells.size]!)).toList).take (len * z.length) = ((Array.range (len * s)).map (v.cells[· % v.cells.size]!)).toList := by
        rw [List.take_of_length_le, hvs]
        simp [hvs, hzs]
      rw [hfull] at hp
      obtain ⟨out', ho, hor⟩ := fill_rel hG hE hc hp hcs
      have hlo : out'.length = len * s := by rw [← hor.1]; exact hl
      refine ⟨.cells out'.toArray el, w.drawn, ⟨w.heap.size, cs.length, out'.length, 0⟩, .slice (some ⟨w.heap.size, 0, none⟩) len len, ?_, rfl, by simp only; omega, rfl, fun γ' hx => ?_, fun γ' hg => ?_⟩
      · simp only [execOp]
        refine exec_v' _ _ w _ ?_
        simp only [Instr.buildSlice, Sem.run_bind, r_und hu, Result.andThen_ok, r_size hs]
        rw [if_neg (by omega)]
        rw [show ((Array.range (len * s)).map (v.cells[· % v.cells.size]!)).toList.toArray = (Array.range (len * s)).map (v.cells[· % v.cells.size]!) from Array.toArray_toList] at ho
        by_cases hz0 : len * s = 0
        · have hr0 : ∀ f : Nat → Value, (Array.range 0).map f = #[] := fun f => by apply Array.eq_empty_of_size_eq_zero; simp
          rw [hz0, hr0] at ho
          simp only [hz0, if_true, Sem.run_bind, Sem.run_pure, Result.andThen_ok, hr0, Array.toList_map, ho, run_newRow]
        · simp only [hz0, if_false, Sem.run_bind, r_zero hi hv, Sem.run_pure, Result.andThen_ok, Array.toList_map, ho, run_newRow]
      · have := cells_new (w := w) (t := el) (dr := w.drawn) (lo := 0) (hi := 0) (c := cs) (cs := out'.toArray) hd (take_self hor) (by simp [hor.1]) (by intro i _ h; omega) γ' hx
        simpa using this
      · exact slice_new hg rfl (Nat.le_refl _) (by simp [hlo])
    · cases h
  · cases h

theorem evA_sound {o : Oper} {id : Nat} {A : AOp} {c : Con} {f : AAddr → AV} (hG : GRel P γ) (hE : ERel γ e a.tmps) (hc : cOp P q base o = some (.a id A)) (h : evA A e = some (c, f)) : id = base ∧ AOk P γ a o c f := by
  obtain ⟨dst, op, ty, pos, after, guard⟩ := o
  unfold cOp at hc
  split at hc
  · simp only [Option.map_eq_some_iff] at hc; obtain ⟨_, _, hp⟩ := hc; cases hp
  · simp only [Option.map_eq_some_iff] at hc; obtain ⟨_, _, hp⟩ := hc; cases hp
  · split at hc <;> cases hc
  · split at hc
    · unfold cBin at hc
      split at hc
      all_goals
        (try split at hc)
        all_goals first
          | (cases hc; done)
          | (simp only [Option.map_eq_some_iff] at hc; obtain ⟨_, _, hp⟩ := hc; cases hp; done)
    · cases hc
  · simp only [Option.map_eq_some_iff] at hc; obtain ⟨_, _, hp⟩ := hc; cases hp
  · rename_i src dt x ho; simp only at ho; subst ho
    simp only [Option.bind_eq_some_iff] at hc
    obtain ⟨x', hx, hc⟩ := hc
    split at hc
    · cases hc
    · cases hc
    · rename_i el hs hd
      split at hc
      · rename_i h8; cases hc; exact ⟨rfl, s_toBytes hG hE hx hs hd h8 h⟩
      · cases hc
    · split at hc <;> cases hc
    · cases hc
  · rename_i t ho; simp only at ho; subst ho
    simp only [Option.map_eq_some_iff] at hc; obtain ⟨z, hz, hp⟩ := hc; cases hp
    simp only [evA, Option.some.injEq, Prod.mk.injEq] at h
    obtain ⟨rfl, rfl⟩ := h
    exact ⟨rfl, s_alloc hz⟩
  · rename_i t x ho; simp only at ho; subst ho
    simp only [Option.map_eq_some_iff] at hc; obtain ⟨x', hx, hp⟩ := hc; cases hp
    simp only [evA] at h
    split at h
    · rename_i cs hcs; cases h; exact ⟨rfl, s_box hG hE hx hcs⟩
    · cases h
  · split at hc
    · split at hc
      · simp only [Option.map_eq_some_iff] at hc; obtain ⟨_, _, hp⟩ := hc; cases hp
      · cases hc
    · simp only [Option.bind_eq_some_iff, Option.map_eq_some_iff] at hc; obtain ⟨_, _, _, _, hp⟩ := hc; cases hp
    · cases hc
  · rename_i t len parts ho; simp only at ho; subst ho
    split at hc
    · rename_i el hu
      split at hc
      · rename_i s z hs hz
        split at hc
        · rename_i hcnd
          simp only [Option.map_eq_some_iff] at hc; obtain ⟨ps, hps, hp⟩ := hc; cases hp
          exact ⟨rfl, s_buildS hG hE hu hs hz hcnd.1 hcnd.2.1 hcnd.2.2 hps h⟩
        · cases hc
      · cases hc
    · cases hc
  · split at hc <;> cases hc
  · split at hc
    · cases hc
    · split at hc <;> cases hc
    · cases hc
  · split at hc
    · split at hc
      · split at hc
        · split at hc <;> cases hc
        · cases hc
      · cases hc
    · cases hc
  · split at hc
    · split at hc
      · split at hc <;> cases hc
      · cases hc
    · cases hc
  · split at hc
    · simp only [Option.map_eq_some_iff] at hc; obtain ⟨_, _, hp⟩ := hc; cases hp
    · simp only [Option.map_eq_some_iff] at hc; obtain ⟨_, _, hp⟩ := hc; cases hp
    · cases hc
  · split at hc
    · cases hc
    · split at hc
      · cases hc
      · split at hc <;> cases hc
      · cases hc
    · cases hc
  · split at hc
    · cases hc
    · simp only [Option.bind_eq_some_iff] at hc; obtain ⟨_, _, hc⟩ := hc; split at hc <;> cases hc
    · simp only [Option.bind_eq_some_iff] at hc; obtain ⟨_, _, hc⟩ := hc; split at hc <;> cases hc
    · cases hc
  · simp only [Option.map_eq_some_iff] at hc; obtain ⟨_, _, hp⟩ := hc; cases hp
  · split at hc <;> cases hc
  · rename_i t l c ho; simp only at ho; subst ho
    split at hc
    · rename_i el hu
      split at hc
      · rename_i s b z l' c' hs hb hz hl hcc; cases hc; exact ⟨rfl, s_mkSlice hG hE hl hcc hu hs hb hz h⟩
      · cases hc
    · cases hc
  · rename_i t ho; simp only at ho; subst ho
    split at hc
    · rename_i k v hu
      cases hc
      simp only [evA, Option.some.injEq, Prod.mk.injEq] at h
      obtain ⟨rfl, rfl⟩ := h
      exact ⟨rfl, s_mkMap hu⟩
    · cases hc
  · split at hc
    · split at hc <;> cases hc
    · cases hc
  · split at hc
    · simp only [Option.map_eq_some_iff] at hc; obtain ⟨_, _, hp⟩ := hc; cases hp
    · cases hc
  · split at hc
    · simp only [Option.map_eq_some_iff] at hc; obtain ⟨_, _, hp⟩ := hc; cases hp
    · cases hc
  · simp only [Option.map_eq_some_iff] at hc; obtain ⟨_, _, hp⟩ := hc; cases hp
  · split at hc
    · split at hc
      · unfold cBuiltin at hc
        split at hc
        · split at hc <;> (try cases hc)
          split at hc <;> cases hc
        · unfold cMM at hc; split at hc <;> cases hc
        · unfold cMM at hc; split at hc <;> cases hc
        · split at hc
          · split at hc
            · split at hc <;> cases hc
            · cases hc
          · split at hc
            · split at hc <;> cases hc
            · cases hc
          · cases hc
        · split at hc
          · split at hc
            · split at hc <;> cases hc
            · cases hc
          · cases hc
        · cases hc
      · cases hc
      · simp only [Option.map_eq_some_iff] at hc; obtain ⟨_, _, hp⟩ := hc; cases hp
      · cases hc
    · cases hc
  · cases hc

end

end Go.Det

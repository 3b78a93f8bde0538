/-
  DET, part F: memory that is read and written.
-/
import Derived.Test.YtaennaoaoahjmaaDoorDetE
import Derived.Laws.Cells
import Derived.Laws.CopyRow
import Derived.Laws.Tables
import Derived.Laws.BytesString
set_option linter.unusedSimpArgs false
set_option linter.unusedVariables false
namespace Go.Det

theorem put_length {M : Mem} {e id : Nat} {x : Con} : (put M e id x).length = M.length := by
  induction M with
  | nil => rfl
  | cons s M ih => simp only [put]; split <;> simp [ih]

theorem ent_put {M : Mem} {e id : Nat} {x : Con} (h : e < M.length) (e' id' : Nat) : ent (put M e id x) e' id' = if e' = e ∧ id' = id then some x else ent M e' id' := by
  induction M with
  | nil => simp at h
  | cons s M ih =>
    simp only [put]
    split
    · rename_i he
      subst he
      simp only [ent, setAt]
      by_cases h1 : e' = M.length
      · simp only [h1, if_true, true_and]
      · simp only [h1, if_false, false_and]
    · rename_i he
      have hlt : e < M.length := by simp at h; omega
      simp only [ent, put_length]
      by_cases h1 : e' = M.length
      · have : ¬ (e' = e ∧ id' = id) := by rintro ⟨rfl, _⟩; exact he h1
        rw [if_pos h1, if_pos h1, if_neg this]
      · rw [if_neg h1, if_neg h1, ih hlt]

theorem upd_step {M : Mem} {γ : Gam} {w w' : World} {e id : Nat} {c c' : Con} {g g' : G} {own : Nat → Nat → Prop} (hM : MRel M γ w) (hc : ent M e id = some c) (hrw : c.rw = true) (hg : γ e id = some g)
    (hos : w'.os = w.os) (htape : w'.tape = w.tape) (hout : w'.output = w.output) (hsize : w.heap.size ≤ w'.heap.size) (hframe : ∀ b, b < w.heap.size → b ≠ g.b → w'.heap[b]? = w.heap[b]?)
    (hb : g'.b = g.b ∨ w.heap.size ≤ g'.b) (hb' : g'.b < w'.heap.size) (hs : g.s ≤ g'.s) (hse : g.s = g'.s → g' = g) (hsr : g'.o + g'.s ≤ g'.r) (hc' : c'.rw = true)
    (hC : ∀ γ', Ext γ γ' → CRel γ' e c' g' w') :
    MRel (put M e id c') (addG γ e id g') w' ∧ Stp own M γ w (put M e id c') (addG γ e id g') w' := by
  have hlt : e < M.length := ent_lt (by rw [hc]; simp)
  have hent := fun e' id' => ent_put (x := c') (id := id) hlt e' id'
  have hgam : ∀ e' i', addG γ e id g' e' i' = if e' = e ∧ i' = id then some g' else γ e' i' := fun _ _ => rfl
  have hx : Ext γ (addG γ e id g') := by
    intro e1 i1 g1 h1
    by_cases hh : e1 = e ∧ i1 = id
    · obtain ⟨rfl, rfl⟩ := hh
      rw [hg] at h1; cases h1
      exact ⟨g', addG_new _ _ _ _, hs, hse⟩
    · exact ⟨g1, by rw [hgam, if_neg hh]; exact h1, Nat.le_refl _, fun _ => rfl⟩
  constructor
  · refine ⟨fun e1 i1 c1 h1 => ?_, fun e1 i1 c1 e2 i2 c2 g1 g2 h1 h2 h3 h4 h5 h6 => ?_, fun e1 i1 g1 h1 => ?_⟩
    · rw [hent] at h1
      split at h1
      · rename_i hh
        obtain ⟨rfl, rfl⟩ := hh
        cases h1
        exact ⟨g', addG_new _ _ _ _, hC _ hx⟩
      · rename_i hh
        obtain ⟨g1, hg1, hcr⟩ := hM.ent e1 i1 c1 h1
        refine ⟨g1, by rw [hgam, if_neg hh]; exact hg1, hcr.ext hx ?_⟩
        refine hframe _ (hM.bnd _ _ _ hg1).1 (fun hb1 => hh ?_)
        have := hM.inj e id c e1 i1 c1 g g1 hc hrw h1 hg hg1 hb1.symm
        exact ⟨this.1.symm, this.2.symm⟩
    · rw [hent] at h1 h3
      rw [hgam] at h4 h5
      split at h1
      · rename_i hh
        rw [if_pos hh] at h4
        cases h4
        split at h3
        · rename_i hh'; exact ⟨hh.1.trans hh'.1.symm, hh.2.trans hh'.2.symm⟩
        · rename_i hh'
          rw [if_neg hh'] at h5
          rcases hb with hb | hb
          · obtain ⟨rfl, rfl⟩ := hh
            have := hM.inj e1 i1 c e2 i2 c2 g g2 hc hrw h3 hg h5 (hb.symm.trans h6)
            exact this
          · have := (hM.bnd _ _ _ h5).1
            omega
      · rename_i hh
        rw [if_neg hh] at h4
        split at h3
        · rename_i hh'
          rw [if_pos hh'] at h5
          cases h5
          rcases hb with hb | hb
          · obtain ⟨rfl, rfl⟩ := hh'
            exact hM.inj e1 i1 c1 e2 i2 c g1 g h1 h2 hc h4 hg (h6.trans hb)
          · have := (hM.bnd _ _ _ h4).1
            omega
        · rename_i hh'
          rw [if_neg hh'] at h5
          exact hM.inj e1 i1 c1 e2 i2 c2 g1 g2 h1 h2 h3 h4 h5 h6
    · rw [hgam] at h1
      split at h1
      · cases h1; exact ⟨hb', hsr⟩
      · have := hM.bnd _ _ _ h1; exact ⟨by omega, this.2⟩
  · refine ⟨hos, htape, hout, hsize, fun b hb1 hn => hframe b hb1 (fun h => hn e id c g hc hrw hg h.symm), hx, fun e1 i1 h1 h2 => ?_, fun e1 i1 c1 h1 h2 => ?_, fun e1 i1 g1 h1 => ?_, put_length, fun e1 i1 h1 => ?_, fun e1 i1 c1 h1 => ?_, fun e1 i1 h1 h2 => ?_, fun e1 i1 h1 h2 => ?_, fun e1 i1 h1 h2 => ?_⟩
    · rw [hgam]
      split
      · rename_i hh; obtain ⟨rfl, rfl⟩ := hh; rw [hc] at h1; cases h1
      · rfl
    · have hh : ¬ (e1 = e ∧ i1 = id) := by rintro ⟨rfl, rfl⟩; rw [hc] at h1; cases h1; rw [hrw] at h2; cases h2
      exact ⟨by rw [hgam, if_neg hh], by rw [hent, if_neg hh]; exact h1⟩
    · rw [hgam] at h1
      split at h1
      · rename_i hh
        obtain ⟨rfl, rfl⟩ := hh
        cases h1
        rcases hb with hb | hb
        · exact .inl ⟨g, hg, hb.symm⟩
        · exact .inr hb
      · exact .inl ⟨g1, h1, rfl⟩
    · rw [hent] at h1
      split at h1
      · rename_i hh; obtain ⟨rfl, rfl⟩ := hh; exact .inl (by rw [hc]; simp)
      · exact .inl h1
    · by_cases hh : e1 = e ∧ i1 = id
      · obtain ⟨rfl, rfl⟩ := hh
        rw [hc] at h1; cases h1
        exact ⟨c', by rw [hent, if_pos ⟨rfl, rfl⟩], fun _ => hrw⟩
      · exact ⟨c1, by rw [hent, if_neg hh]; exact h1, fun x => x⟩
    · rw [hgam] at h2
      split at h2
      · rename_i hh; obtain ⟨rfl, rfl⟩ := hh; rw [hg] at h1; cases h1
      · exact absurd h1 h2
    · rw [hent] at h2
      split at h2
      · rename_i hh; obtain ⟨rfl, rfl⟩ := hh; rw [hc] at h1; cases h1
      · exact absurd h1 h2
    · rw [hgam] at h2
      split at h2
      · rename_i hh; rw [hent, if_pos hh]; simp
      · exact absurd h1 h2

/-- The block behind an address of today. -/
theorem get_rel {M : Mem} {γ : Gam} {w : World} {x : AAddr} {c : Con} (hM : MRel M γ w) (h : get M x = some c) :
    ∃ g, ent M x.dep x.id = some c ∧ γ x.dep x.id = some g ∧ CRel γ x.dep c g w ∧ c.size = x.sz ∧ g.s = x.sz := by
  unfold get at h
  split at h
  · rename_i c1 hc1
    split at h
    · rename_i hsz
      cases h
      obtain ⟨g, hg, hcr⟩ := hM.ent _ _ _ hc1
      refine ⟨g, hc1, hg, hcr, hsz, ?_⟩
      rw [← hsz]
      cases c with
      | cells c rw fl => obtain ⟨_, _, _, _, _, h2, _⟩ := hcr; exact h2
      | map es rw => obtain ⟨_, _, _, h2, _⟩ := hcr; exact h2
      | bld T b rw => obtain ⟨_, _, _, h2, _⟩ := hcr; exact h2
      | buf E s rw => obtain ⟨_, _, _, _, h2, _⟩ := hcr; exact h2
    · cases h
  · cases h

theorem ptr_here {γ : Gam} {x : AAddr} {r : Addr} {g : G} (h : PRel γ x r) (hg : γ x.dep x.id = some g) (hs : g.s = x.sz) : r = ⟨g.b, g.o + x.off, none⟩ := by
  obtain ⟨g', hg', _, hr⟩ := h
  rw [hg] at hg'; cases hg'
  obtain ⟨h1, h2, h3⟩ := hr hs.symm
  cases r; simp at h1 h2 h3; subst h1; subst h2; subst h3; rfl

theorem slice_here {γ : Gam} {x : AAddr} {n e c : Nat} {r : Addr} {g : G} (h : LRel γ x n e r c) (hg : γ x.dep x.id = some g) (hs : g.s = x.sz) (hc : 0 < c) : r = ⟨g.b, g.o + x.off, none⟩ ∧ g.o + x.off + c * e ≤ g.r := by
  obtain ⟨_, g', hg', _, hr⟩ := h
  rw [hg] at hg'; cases hg'
  obtain ⟨h1, h2, h3⟩ := hr hs.symm
  obtain ⟨h4, h5⟩ := h3 hc
  cases r; simp at h1 h2 h4; subst h1; subst h2; subst h4; exact ⟨rfl, h5⟩

theorem run_load {P : Program} {w : World} {b o : Nat} {cs : Array Value} {t : TypeId} {fz : Nat × Nat} {v : Value} (h : w.heap[b]? = some (.cells cs t fz)) (hv : cs[o]? = some v) :
    (load ⟨b, o, none⟩).run P w = .ok v w := by
  have : w.cell? ⟨b, o, none⟩ = some v := by simp [World.cell?, h, hv]
  simp only [load, Sem.run, this]

theorem run_loads {P : Program} {w : World} {b o n : Nat} {cs : Array Value} {t : TypeId} {fz : Nat × Nat} (h : w.heap[b]? = some (.cells cs t fz)) (hn : o + n ≤ cs.size) :
    (loadCells ⟨b, o, none⟩ n).run P w = .ok ((cs.toList.drop o).take n).toArray w := by
  have hl : ((cs.toList.drop o).take n).length = n := by simp; omega
  have := run_loadCells_list (P := P) (w := w) ⟨b, o, none⟩ ((cs.toList.drop o).take n) (fun j v hj => by
    rw [List.getElem?_take] at hj
    split at hj
    · rw [List.getElem?_drop] at hj
      rw [add_off _ _ rfl]
      simp only [World.cell?, h, Option.isSome_none, Bool.false_eq_true, if_false]
      rw [← Array.getElem?_toList]
      exact hj
    · cases hj)
  rw [hl] at this
  exact this

theorem run_stores {P : Program} {b o : Nat} {t : TypeId} {lo hi : Nat} : ∀ (vs : List Value) (i : Nat) (cs : Array Value) (w : World), w.heap[b]? = some (.cells cs t (lo, hi)) →
    (∀ j, j < cs.size → ¬ (lo ≤ j ∧ j < hi)) → o + i + vs.length ≤ cs.size → (∀ v ∈ vs, v.oneCell' = true) →
    (storeCells ⟨b, o, none⟩ vs i).run P w = .ok () (w.setRow b (over cs.toList (o + i) vs).toArray)
  | [], i, cs, w, hg, _, _, _ => by
    simp only [storeCells, over, List.append_nil, List.length_nil, Nat.add_zero, List.take_append_drop, Array.toArray_toList]
    rw [setRow_self w b cs t (lo, hi) hg]
    rfl
  | v :: rest, i, cs, w, hg, hnf, hl, h1 => by
    have hi' : o + i < cs.size := by simp at hl; omega
    have hadd : (⟨b, o, none⟩ : Addr).add i = ⟨b, o + i, none⟩ := add_off _ _ rfl
    have hcell : w.cell? ⟨b, o + i, none⟩ = some cs[o + i] := by simp [World.cell?, hg, hi']
    have hfro : w.frozen? ⟨b, o + i, none⟩ = false := by
      simp only [World.frozen?, hg]
      have := hnf _ hi'
      simp only [Bool.and_eq_false_iff, decide_eq_false_iff_not]
      by_cases h : lo ≤ o + i
      · right; intro h2; exact this ⟨h, h2⟩
      · left; exact h
    have hst : (store ((⟨b, o, none⟩ : Addr).add i) v).run P w = .ok () (w.setRow b (cs.setIfInBounds (o + i) v)) := by
      rw [hadd, run_store P w _ v _ (h1 v (by simp)), hcell]
      simp [hfro, setCell_eq_setRow w b (o + i) cs t (lo, hi) v hg]
    have ih := run_stores (P := P) (b := b) (o := o) (t := t) (lo := lo) (hi := hi) rest (i + 1) (cs.setIfInBounds (o + i) v) (w.setRow b (cs.setIfInBounds (o + i) v)) (setRow_heap w b cs _ t _ hg)
      (fun j hj => hnf j (by simpa using hj)) (by simp at hl ⊢; omega) (fun x hx => h1 x (by simp [hx]))
    simp only [storeCells, Sem.run_bind, hst, Result.andThen_ok, ih, setRow_setRow]
    congr 3
    have e := list_seg_step cs.toList (o + i) v rest (by simp at hl ⊢; omega)
    simpa [over, Array.toList_setIfInBounds, Nat.add_assoc] using e

theorem SRel.oneCell {γ : Gam} {v : AV} {r : Value} (h : SRel γ v r) : r.oneCell' = true := by cases h <;> rfl

theorem Pw.oneCell {γ : Gam} {l : List AV} {l' : List Value} (h : Pw (SRel γ) l l') : ∀ v ∈ l', v.oneCell' = true := by
  intro v hv
  obtain ⟨i, hi⟩ := List.getElem?_of_mem hv
  have h1 : i < l'.length := (List.getElem?_eq_some_iff.1 hi).1
  have h2 : i < l.length := by rw [h.1]; exact h1
  exact (h.2 i l[i] v (List.getElem?_eq_getElem h2) hi).oneCell

section
variable {P : Program} {M : Mem} {γ : Gam} {w : World} {e : Env} {a : Act} {q : Qs} {base : Nat} {dst : Option Tmp} {ty : TypeId} {pos : String} {after : Array Edge} {guard : Option (Nat × Bool)}

/-- What is appended or copied. -/
theorem src_rel (hM : MRel M γ w) {n esz : Nat} {v : AV} {r : Value} {c : List AV} (hv : VRel γ v r) (h : srcCells M n esz v = some c) :
    ∃ cs : List Value, (Builtin.firstCells esz n r).run P w = .ok cs.toArray w ∧ Pw (SRel γ) c cs ∧ c.length = n * esz := by
  unfold srcCells at h
  split at h
  · rename_i x m s
    split at h
    · rename_i c0 rw fl hget
      split at h
      · rename_i hb
        obtain ⟨b1, b2, b3⟩ := hb
        cases h
        obtain ⟨p, cap, er, hl⟩ := hv.slice_inv
        obtain ⟨g, hent, hg, hcr, hsz, hgs⟩ := get_rel hM hget
        obtain ⟨cs, t, lo, hi, hheap, h1, h2, hpre, h3, h4⟩ := hcr
        subst er
        by_cases h0 : n * esz = 0
        · refine ⟨[], ?_, ?_, by simp [h0]⟩
          · simp only [Builtin.firstCells, h0]; rfl
          · rw [h0, List.take_zero]; exact Pw.nil
        · have hn : 0 < n := Nat.pos_of_ne_zero (fun h => h0 (by simp [h]))
          have hcap : 0 < cap := by have := hl.1; omega
          obtain ⟨ep, hfit⟩ := slice_here hl hg hgs hcap
          subst ep
          refine ⟨((cs.toList.drop g.o).drop x.off).take (n * esz), ?_, hpre.slice _ _ b3, by simp; omega⟩
          simp only [Builtin.firstCells]
          have := hpre.1
          have h0' : 0 < n * esz := Nat.pos_of_ne_zero h0
          rw [run_loads hheap (by simp at this; omega), ← List.drop_drop]
      · cases h
    · cases h
  · split at h
    · rename_i hn
      cases h
      obtain ⟨_, er⟩ := hv.nilslice_inv
      subst er
      exact ⟨[], rfl, Pw.nil, by simp [hn]⟩
    · cases h
  · split at h
    · rename_i hn
      cases h
      obtain ⟨p, er⟩ := hv.room0_inv
      subst er
      refine ⟨[], ?_, Pw.nil, by simp [hn]⟩
      simp only [Builtin.firstCells, hn, Nat.zero_mul]; rfl
    · cases h
  · rename_i s
    split at h
    · rename_i hb
      cases h
      obtain ⟨b, er, hb2⟩ := hv.str_inv
      subst er
      refine ⟨((b.extract 0 n).data.map fun x => Value.int .u8 x.toNat).toList, by simp only [Builtin.firstCells, Array.toArray_toList]; rfl, ?_, by simp only [List.length_map, List.length_take, hb.1, Nat.mul_one]; omega⟩
      rw [Array.toList_map, ByteArray.data_extract, Array.toList_extract, hb2]
      simp only [List.extract_eq_take_drop, List.drop_zero, Nat.sub_zero]
      refine ⟨by simp, fun i v r hv hr => ?_⟩
      rw [List.getElem?_map] at hv hr
      cases hx : (s.take n)[i]? with
      | none => rw [hx] at hv; cases hv
      | some x => rw [hx] at hv hr; cases hv; cases hr; exact .int _ _
    · cases h
  · cases h

/-- The operation comes to a value, the world stays as it is. -/
def ROk (P : Program) (γ : Gam) (w : World) (a : Act) (o : Oper) (v : AV) : Prop := ∃ r, VRel γ v r ∧ (execOp a.eval o).run P w = .ok (.value r) w

theorem s_load1 {t : TypeId} {x : Operand} {x' : Opd} {v : AV} (hM : MRel M γ w) (hG : GRel P γ) (hE : ERel γ e a.tmps) (hx : cOpd P x = some x') (ha : isAggT P t = some false)
    (h : evR (.load1 x') e M = some v) : ROk P γ w a ⟨dst, .load t x, ty, pos, after, guard⟩ v := by
  have rx := opd_rel hG hE hx
  simp only [evR] at h
  split at h
  · rename_i p hp
    rw [hp] at rx
    obtain ⟨r, er, hr⟩ := rx.ptr_inv
    split at h
    · rename_i c rw fl hget
      obtain ⟨g, hent, hg, hcr, hsz, hgs⟩ := get_rel hM hget
      obtain ⟨cs, t2, lo, hi, hheap, h1, h2, hpre, h3, h4⟩ := hcr
      obtain ⟨r2, hr2, hv⟩ := hpre.get h
      have := ptr_here hr hg hgs
      subst this
      refine ⟨r2, .sc hv, ?_⟩
      simp only [execOp]
      refine exec_v' _ _ w _ ?_
      rw [er]
      simp only [Instr.loadAt, Instr.sureAddr, loadVar, Sem.run_bind, Sem.run_pure, Result.andThen_ok, r_isAgg ha, Bool.false_eq_true, if_false]
      exact run_load hheap (by rw [← Array.getElem?_toList, ← List.getElem?_drop]; exact hr2)
    · cases h
  · cases h

theorem s_loadN {t : TypeId} {x : Operand} {x' : Opd} {n : Nat} {v : AV} (hM : MRel M γ w) (hG : GRel P γ) (hE : ERel γ e a.tmps) (hx : cOpd P x = some x') (ha : isAggT P t = some true) (hn : szOf P t = some n)
    (h : evR (.loadN n x') e M = some v) : ROk P γ w a ⟨dst, .load t x, ty, pos, after, guard⟩ v := by
  have rx := opd_rel hG hE hx
  simp only [evR] at h
  split at h
  · rename_i p hp
    rw [hp] at rx
    obtain ⟨r, er, hr⟩ := rx.ptr_inv
    split at h
    · rename_i c rw fl hget
      split at h
      · rename_i hb
        cases h
        obtain ⟨g, hent, hg, hcr, hsz, hgs⟩ := get_rel hM hget
        obtain ⟨cs, t2, lo, hi, hheap, h1, h2, hpre, h3, h4⟩ := hcr
        have := ptr_here hr hg hgs
        subst this
        refine ⟨_, .agg (hpre.slice _ _ hb), ?_⟩
        simp only [execOp]
        refine exec_v' _ _ w _ ?_
        rw [er]
        have := hpre.1
        simp only [Instr.loadAt, Instr.sureAddr, loadVar, Sem.run_bind, Sem.run_pure, Result.andThen_ok, r_isAgg ha, if_true, r_size hn]
        by_cases hn0 : n = 0
        · subst hn0; simp only [List.take_zero]; rfl
        · rw [run_loads hheap (by simp at this; omega), ← List.drop_drop]; rfl
      · cases h
    · cases h
  · cases h

theorem bytes_rel {c : List AV} {cs : List Value} {s : List UInt8} (h : Pw (SRel γ) c cs) (hb : bytesOf c = some s) : ∃ ns : List Int, cs = ns.map (Value.int .u8) ∧ s = ns.map fun n => UInt8.ofNat n.toNat := by
  induction c generalizing cs s with
  | nil => cases h.of_nil; simp [bytesOf] at hb; subst hb; exact ⟨[], rfl, rfl⟩
  | cons v c ih =>
    obtain ⟨r, m, rfl, hr, hm⟩ := h.of_cons
    simp only [bytesOf] at hb
    split at hb
    · rename_i b l hb1 hl
      cases hb
      obtain ⟨ns, e1, e2⟩ := ih hm hl
      unfold byteOf at hb1
      split at hb1
      · cases hb1; cases hr; exact ⟨_ :: ns, by rw [e1]; rfl, by rw [e2]; rfl⟩
      · cases hb1
    · cases hb

theorem foldl_push (ns : List Int) : ∀ b : ByteArray, (ns.foldl (fun r n => r.push (UInt8.ofNat n.toNat)) b).data.toList = b.data.toList ++ ns.map fun n => UInt8.ofNat n.toNat := by
  induction ns with
  | nil => intro b; simp
  | cons n ns ih => intro b; rw [List.foldl_cons, ih]; simp [ByteArray.push]

theorem s_toStr {src dt el : TypeId} {x : Operand} {x' : Opd} {v : AV} (hM : MRel M γ w) (hG : GRel P γ) (hE : ERel γ e a.tmps) (hx : cOpd P x = some x')
    (hs : P.underlying src = some (.slice el)) (hd : P.underlying dt = some .string) (hel : isU8 P el = true) (h : evR (.toStr x') e M = some v) :
    ROk P γ w a ⟨dst, .convert src dt x, ty, pos, after, guard⟩ v := by
  have rx := opd_rel hG hE hx
  have hu8 : P.underlying el = some (.int .u8) := by
    unfold isU8 at hel
    split at hel
    · assumption
    · cases hel
  simp only [evR] at h
  split at h
  · rename_i n s hp
    rw [hp] at rx; cases h
    obtain ⟨_, er⟩ := rx.nilslice_inv
    refine ⟨.string .empty, .sc (.str .empty), ?_⟩
    simp only [execOp]
    refine exec_v' _ _ w _ ?_
    rw [er]
    simp only [convert, Sem.run_bind, r_und hs, r_und hd, r_und hu8, Result.andThen_ok]
    rfl
  · rename_i p n s hp
    rw [hp] at rx
    split at h
    · rename_i c hc
      split at h
      · rename_i bs hbs
        cases h
        obtain ⟨r, cap, er, hl⟩ := rx.slice_inv
        rw [er] at rx
        obtain ⟨cs, hrun, hpw, _⟩ := src_rel (P := P) hM rx hc
        obtain ⟨ns, e1, e2⟩ := bytes_rel hpw hbs
        simp only [Builtin.firstCells, Nat.mul_one] at hrun
        rw [e1] at hrun
        refine ⟨.string (ns.foldl (fun r n => r.push (UInt8.ofNat n.toNat)) ByteArray.empty), ?_, ?_⟩
        · have := SRel.str (γ := γ) (ns.foldl (fun r n => r.push (UInt8.ofNat n.toNat)) ByteArray.empty)
          rw [foldl_push] at this
          rw [e2]
          exact .sc this
        · simp only [execOp]
          refine exec_v' _ _ w _ ?_
          rw [er]
          simp only [convert, Sem.run_bind, r_und hs, r_und hd, r_und hu8, Result.andThen_ok]
          rw [run_bytesToString w r n cap ns hrun]
      · cases h
    · cases h
  · cases h

/-! ### maps -/

theorem ba_beq (s t : ByteArray) : (s == t) = (s.data.toList == t.data.toList) := by
  have h0 : (s == t) = (s.data == t.data) := rfl
  rw [h0, Bool.eq_iff_iff, beq_iff_eq, beq_iff_eq]
  constructor
  · intro h; rw [h]
  · intro h; exact Array.ext' h

/-- The type's shape of a map's keys. -/
def KeyD (sk : Bool) (d : TypeDesc) : Prop := match sk with | true => d = .string | false => ∃ q, d = .int q

theorem keyT_inv {t : TypeId} {sk : Bool} (h : keyT P t = some sk) : ∃ d, P.underlying t = some d ∧ KeyD sk d := by
  unfold keyT at h
  split at h
  · rename_i k hu; cases h; exact ⟨_, hu, _, rfl⟩
  · rename_i hu; cases h; exact ⟨_, hu, rfl⟩
  · cases h

theorem keyEq {sk : Bool} {k x : AV} {k' x' : Value} {b : Bool} {d : TypeDesc} (hk : SRel γ k k') (hx : SRel γ x x') (h : sameKey k x = some b) (hd : KeyD sk d) (ho : keyOk sk k = true) :
    Instr.sameNow d k' x' = some b ∧ (b = true → Instr.sameBits 10000 x' k' = true) := by
  unfold sameKey at h
  split at h
  · rename_i q n q' m
    split at h
    · rename_i hq
      cases h
      subst hq
      cases hk; cases hx
      cases sk
      · obtain ⟨q, rfl⟩ := hd
        refine ⟨by simp [Instr.sameNow], fun hb => ?_⟩
        simp only [beq_iff_eq] at hb
        subst hb
        simp [Instr.sameBits]
      · simp [keyOk] at ho
    · cases h
  · rename_i s t
    cases h
    cases hk; cases hx
    rename_i s t
    cases sk
    · simp [keyOk] at ho
    · simp only [KeyD] at hd
      subst hd
      refine ⟨by simp only [Instr.sameNow, ba_beq], fun hb => ?_⟩
      simp only [Instr.sameBits, ba_beq]
      simp only [beq_iff_eq] at hb ⊢
      exact hb.symm
  · cases h

/-- A map's entries. -/
def MPw (γ : Gam) (es : List (AV × AV)) (es' : List MapEntry) : Prop := es.length = es'.length ∧
  ∀ (i : Nat) k v x, es[i]? = some (k, v) → es'[i]? = some x → SRel γ k x.key ∧ SRel γ v x.val ∧ AV.under 0 k = true ∧ AV.under 0 v = true

theorem find_rel {sk : Bool} {d : TypeDesc} {k : AV} {k' : Value} (hk : SRel γ k k') (hd : KeyD sk d) (ho : keyOk sk k = true) : ∀ (es : List (AV × AV)) (es' : List MapEntry) (n : Nat) (r : Option AV), MPw γ es es' → findIn k es = some r →
    (r = none → Instr.findNow d k' es' n = some none ∧ ∀ u, setIn k u es = es ++ [(k, u)]) ∧
    (∀ v, r = some v → ∃ j x, es'[j]? = some x ∧ Instr.findNow d k' es' n = some (some (n + j, x.val)) ∧ SRel γ v x.val ∧ Instr.sameBits 10000 x.key k' = true ∧ ∀ u, setIn k u es = es.set j (k, u))
  | [], es', n, r, hp, h => by
    have : es' = [] := List.length_eq_zero_iff.1 hp.1.symm
    subst this
    simp only [findIn, Option.some.injEq] at h
    subst h
    exact ⟨(fun _ => ⟨rfl, fun u => rfl⟩), (fun v hv => by cases hv)⟩
  | (x, v) :: es, [], n, r, hp, h => absurd hp.1 (by simp)
  | (x, v) :: es, y :: es', n, r, hp, h => by
    obtain ⟨h1, h2, h3, h4⟩ := hp.2 0 x v y rfl rfl
    have hp' : MPw γ es es' := ⟨by simpa using hp.1, fun i k v x a b => hp.2 (i + 1) k v x (by simpa using a) (by simpa using b)⟩
    simp only [findIn] at h
    split at h
    · rename_i hs
      cases h
      obtain ⟨e1, e2⟩ := keyEq hk h1 hs hd ho
      refine ⟨(fun h => by cases h), fun u hu => ?_⟩
      cases hu
      exact ⟨0, y, rfl, by simp [Instr.findNow, e1], h2, e2 rfl, fun u => by simp [setIn, hs]⟩
    · rename_i hs
      obtain ⟨e1, e2⟩ := keyEq hk h1 hs hd ho
      obtain ⟨g1, g2⟩ := find_rel hk hd ho es es' (n + 1) r hp' h
      refine ⟨fun hr => ?_, fun u hu => ?_⟩
      · obtain ⟨g3, g4⟩ := g1 hr
        exact ⟨by simp [Instr.findNow, e1, g3], fun u => by simp [setIn, hs, g4 u]⟩
      · obtain ⟨j, z, g3, g4, g5, g6, g7⟩ := g2 u hu
        exact ⟨j + 1, z, by simpa using g3, by simp only [Instr.findNow, e1, g4]; congr 3; omega, g5, g6, fun u => by simp [setIn, hs, g7 u]⟩
    · cases h

theorem run_checkKey {t : TypeId} {d : TypeDesc} {sk : Bool} {b : Bool} {v : Value} (hu : P.underlying t = some d) (hd : KeyD sk d) : (Instr.checkKey b 10000 t v).run P w = .ok () w := by
  have key : ∀ n, (Instr.checkKey b (n + 1) t v).run P w = .ok () w := by
    intro n
    simp only [Instr.checkKey, Sem.run_bind, r_und hu, Result.andThen_ok]
    cases sk
    · obtain ⟨q, rfl⟩ := hd; rfl
    · simp only [KeyD] at hd; subst hd; rfl
  exact key 9999

theorem run_findKey {t : TypeId} {d : TypeDesc} {k : Value} {es : List MapEntry} {r : Option (Nat × Value)} (hu : P.underlying t = some d) (h : Instr.findNow d k es 0 = some r) :
    (Instr.findKey t k es).run P w = .ok r w := by
  simp only [Instr.findKey, Sem.run_bind, r_und hu, Result.andThen_ok, h, Sem.run_pure]

theorem keySc {sk : Bool} {k : AV} {r : Value} (h : VRel γ k r) (ho : keyOk sk k = true) : SRel γ k r := by
  refine h.scalar_inv ?_
  cases sk <;> cases k <;> first | rfl | (simp [keyOk] at ho)

theorem run_getMap {b : Nat} {es : Array MapEntry} {clk : Nat} (h : w.heap[b]? = some (.map es clk)) : (getObj b).run P w = .ok (.map es clk) w := by
  simp only [getObj, Sem.run, h]

theorem s_lookup {t kt et : TypeId} {x k : Operand} {x' k' : Opd} {sk ok : Bool} {z v : AV} (hM : MRel M γ w) (hG : GRel P γ) (hE : ERel γ e a.tmps) (hx : cOpd P x = some x') (hk : cOpd P k = some k')
    (hu : P.underlying t = some (.map kt et)) (hkt : keyT P kt = some sk) (hz : zero1 P et = some z)
    (h : evR (.lookup sk z x' k' ok) e M = some v) : ROk P γ w a ⟨dst, .lookup t x k ok, ty, pos, after, guard⟩ v := by
  have rx := opd_rel hG hE hx
  have rk := opd_rel hG hE hk
  obtain ⟨zi, zv, hzi, hzv, hzr⟩ : ∃ zi zv, P.info? et = some zi ∧ zi.zero = some zv ∧ cScal zv = some z := by
    unfold zero1 at hz
    simp only [Option.bind_eq_some_iff] at hz
    obtain ⟨i, hi, zv, hv, hc⟩ := hz
    exact ⟨i, zv, hi, hv, hc⟩
  have hzs : SRel γ z zv := cScal_rel hzr
  obtain ⟨d, hud, hd⟩ := keyT_inv hkt
  simp only [evR] at h
  split at h
  · cases h
  · rename_i hko
    have hko : keyOk sk (opd e k') = true := by simpa using hko
    have hks := keySc rk hko
    split at h
    · rename_i hp
      rw [hp] at rx
      have er := rx.nilmap_inv
      have hrun : (execOp a.eval ⟨dst, .lookup t x k ok, ty, pos, after, guard⟩).run P w = .ok (.value (if ok then .tuple #[zv, .bool false] else zv)) w := by
        simp only [execOp]
        refine exec_v' _ _ w _ ?_
        rw [er]
        simp only [Instr.lookup, Sem.run_bind, r_und hu, Result.andThen_ok, Sem.run_pure, run_checkKey hud hd, run_findKey (r := none) hud (es := #[].toList) rfl, r_zero hzi hzv]
      cases ok
      · cases h; exact ⟨_, .sc hzs, hrun⟩
      · cases h; exact ⟨_, .tuple (l' := [zv, .bool false]) (Pw.cons (.sc hzs) (Pw.cons (.sc (.bool _)) Pw.nil)), hrun⟩
    · rename_i p hp
      rw [hp] at rx
      obtain ⟨r, er, g0, hg0, hg1, hg2⟩ := rx.map_inv
      split at h
      · rename_i es rw hget
        obtain ⟨g, hent, hg, hcr, hsz, hgs⟩ := get_rel hM hget
        rw [hg] at hg0; cases hg0
        have er2 := hg2 hgs.symm
        subst er2
        obtain ⟨es', clk, hheap, hs0, hlen, hpw⟩ := hcr
        have hmp : MPw γ es es'.toList := ⟨by simpa using hlen, fun i k v x h1 h2 => hpw i k v x h1 (by simpa using h2)⟩
        split at h
        · rename_i u hf
          obtain ⟨_, g4⟩ := find_rel hks hd hko es es'.toList 0 _ hmp hf
          obtain ⟨j, y, _, hfn, hv, _⟩ := g4 u rfl
          have hrun : (execOp a.eval ⟨dst, .lookup t x k ok, ty, pos, after, guard⟩).run P w = .ok (.value (if ok then .tuple #[y.val, .bool true] else y.val)) w := by
            simp only [execOp]
            refine exec_v' _ _ w _ ?_
            rw [er]
            simp only [Instr.lookup, Sem.run_bind, r_und hu, Result.andThen_ok, Sem.run_pure, run_getMap hheap, run_checkKey hud hd, run_findKey hud hfn]
          cases ok
          · cases h; exact ⟨_, .sc hv, hrun⟩
          · cases h; exact ⟨_, .tuple (l' := [y.val, .bool true]) (Pw.cons (.sc hv) (Pw.cons (.sc (.bool _)) Pw.nil)), hrun⟩
        · rename_i hf
          obtain ⟨g4, _⟩ := find_rel hks hd hko es es'.toList 0 _ hmp hf
          obtain ⟨hfn, _⟩ := g4 rfl
          have hrun : (execOp a.eval ⟨dst, .lookup t x k ok, ty, pos, after, guard⟩).run P w = .ok (.value (if ok then .tuple #[zv, .bool false] else zv)) w := by
            simp only [execOp]
            refine exec_v' _ _ w _ ?_
            rw [er]
            simp only [Instr.lookup, Sem.run_bind, r_und hu, Result.andThen_ok, Sem.run_pure, run_getMap hheap, run_checkKey hud hd, run_findKey hud hfn, r_zero hzi hzv]
          cases ok
          · cases h; exact ⟨_, .sc hzs, hrun⟩
          · cases h; exact ⟨_, .tuple (l' := [zv, .bool false]) (Pw.cons (.sc hzs) (Pw.cons (.sc (.bool _)) Pw.nil)), hrun⟩
        · cases h
      · cases h
    · cases h

theorem s_lenM {t k el : TypeId} {x : Operand} {x' : Opd} {ts : Array TypeId} {xs : Array Operand} {v : AV} (hM : MRel M γ w) (hG : GRel P γ) (hE : ERel γ e a.tmps) (hx : cOpd P x = some x')
    (ht : ts[0]? = some t) (hxs : xs[0]? = some x) (hu : P.underlying t = some (.map k el)) (h : evR (.lenM x') e M = some v) :
    ROk P γ w a ⟨dst, .call { callee := .builtin .len, args := xs, argTypes := ts }, ty, pos, after, guard⟩ v := by
  have rx := opd_rel hG hE hx
  have h0 : (xs.map a.eval)[0]? = some (a.eval x) := by simp [hxs]
  simp only [evR] at h
  split at h
  · rename_i hp
    rw [hp] at rx; cases h
    have er := rx.nilmap_inv
    refine ⟨_, .sc (.int .i64 0), exec_builtin _ w (fun cs => rfl) ?_⟩
    simp only [Builtin.len_, ht, h0, er, Sem.run_bind, r_und hu, Result.andThen_ok]
    rfl
  · rename_i p hp
    rw [hp] at rx
    obtain ⟨r, er, g0, hg0, hg1, hg2⟩ := rx.map_inv
    split at h
    · rename_i es rw hget
      cases h
      obtain ⟨g, hent, hg, hcr, hsz, hgs⟩ := get_rel hM hget
      rw [hg] at hg0; cases hg0
      have er2 := hg2 hgs.symm
      subst er2
      obtain ⟨es', clk, hheap, hs0, hlen, hpw⟩ := hcr
      refine ⟨_, .sc (.int .i64 es.length), exec_builtin _ w (fun cs => rfl) ?_⟩
      simp only [Builtin.len_, ht, h0, er, Sem.run_bind, r_und hu, Result.andThen_ok, run_getMap hheap]
      rw [hlen]
      rfl
    · cases h
  · cases h

theorem evR_sound {o : Oper} {R : ROp} {v : AV} (hM : MRel M γ w) (hG : GRel P γ) (hE : ERel γ e a.tmps) (hc : cOp P q base o = some (.r R)) (h : evR R e M = some v) : ROk P γ w a o v := by
  obtain ⟨dst, op, ty, pos, after, guard⟩ := o
  unfold cOp at hc
  split at hc
  · simp only [Option.map_eq_some_iff] at hc; obtain ⟨_, _, hp⟩ := hc; cases hp
  · simp only [Option.map_eq_some_iff] at hc; obtain ⟨_, _, hp⟩ := hc; cases hp
  · split at hc <;> cases hc
  · split at hc
    · unfold cBin at hc
      split at hc
      all_goals
        (try split at hc)
        all_goals first
          | (cases hc; done)
          | (simp only [Option.map_eq_some_iff] at hc; obtain ⟨_, _, hp⟩ := hc; cases hp; done)
    · cases hc
  · simp only [Option.map_eq_some_iff] at hc; obtain ⟨_, _, hp⟩ := hc; cases hp
  · rename_i src dt x ho; simp only at ho; subst ho
    simp only [Option.bind_eq_some_iff] at hc
    obtain ⟨x', hx, hc⟩ := hc
    split at hc
    · cases hc
    · cases hc
    · split at hc <;> cases hc
    · rename_i el hs hd
      split at hc
      · rename_i h8; cases hc; exact s_toStr hM hG hE hx hs hd h8 h
      · cases hc
    · cases hc
  · simp only [Option.map_eq_some_iff] at hc; obtain ⟨_, _, hp⟩ := hc; cases hp
  · simp only [Option.map_eq_some_iff] at hc; obtain ⟨_, _, hp⟩ := hc; cases hp
  · split at hc
    · split at hc
      · simp only [Option.map_eq_some_iff] at hc; obtain ⟨_, _, hp⟩ := hc; cases hp
      · cases hc
    · simp only [Option.bind_eq_some_iff, Option.map_eq_some_iff] at hc; obtain ⟨_, _, _, _, hp⟩ := hc; cases hp
    · cases hc
  · split at hc
    · split at hc
      · split at hc
        · simp only [Option.map_eq_some_iff] at hc; obtain ⟨_, _, hp⟩ := hc; cases hp
        · cases hc
      · cases hc
    · cases hc
  · rename_i t x ho; simp only at ho; subst ho
    split at hc
    · rename_i n x' ha hn hx; cases hc; exact s_loadN hM hG hE hx ha hn h
    · rename_i n x' ha hn hx; cases hc; exact s_load1 hM hG hE hx ha h
    · cases hc
  · split at hc
    · cases hc
    · split at hc <;> cases hc
    · cases hc
  · split at hc
    · split at hc
      · split at hc
        · split at hc <;> cases hc
        · cases hc
      · cases hc
    · cases hc
  · split at hc
    · split at hc
      · split at hc <;> cases hc
      · cases hc
    · cases hc
  · split at hc
    · simp only [Option.map_eq_some_iff] at hc; obtain ⟨_, _, hp⟩ := hc; cases hp
    · simp only [Option.map_eq_some_iff] at hc; obtain ⟨_, _, hp⟩ := hc; cases hp
    · cases hc
  · split at hc
    · cases hc
    · split at hc
      · cases hc
      · split at hc <;> cases hc
      · cases hc
    · cases hc
  · split at hc
    · cases hc
    · simp only [Option.bind_eq_some_iff] at hc; obtain ⟨_, _, hc⟩ := hc; split at hc <;> cases hc
    · simp only [Option.bind_eq_some_iff] at hc; obtain ⟨_, _, hc⟩ := hc; split at hc <;> cases hc
    · cases hc
  · simp only [Option.map_eq_some_iff] at hc; obtain ⟨_, _, hp⟩ := hc; cases hp
  · split at hc <;> cases hc
  · split at hc
    · split at hc <;> cases hc
    · cases hc
  · split at hc <;> cases hc
  · rename_i t x k ok ho; simp only at ho; subst ho
    split at hc
    · rename_i kt et hu
      split at hc
      · rename_i sk z x' k' hkt hz hx hk; cases hc; exact s_lookup hM hG hE hx hk hu hkt hz h
      · cases hc
    · cases hc
  · split at hc
    · simp only [Option.map_eq_some_iff] at hc; obtain ⟨_, _, hp⟩ := hc; cases hp
    · cases hc
  · split at hc
    · simp only [Option.map_eq_some_iff] at hc; obtain ⟨_, _, hp⟩ := hc; cases hp
    · cases hc
  · simp only [Option.map_eq_some_iff] at hc; obtain ⟨_, _, hp⟩ := hc; cases hp
  · rename_i c ho; simp only at ho; subst ho
    obtain ⟨callee, xs, ts⟩ := c
    split at hc
    · rename_i args hargs
      split at hc
      · rename_i b hb
        simp only at hb; subst hb
        unfold cBuiltin at hc
        split at hc
        · rename_i t tr x xr ht
          obtain ⟨y, k, hy1, hy2, hy3⟩ := cOpds_cons hargs
          have h0 : xs[0]? = some y := by rw [← Array.getElem?_toList, hy1]; rfl
          have ht0 : ts[0]? = some t := by rw [← Array.getElem?_toList, ht]; rfl
          split at hc
          · cases hc
          · cases hc
          · cases hc
          · split at hc <;> cases hc
          · rename_i k el hu; cases hc; exact s_lenM hM hG hE hy2 ht0 h0 hu h
          · cases hc
        · unfold cMM at hc; split at hc <;> cases hc
        · unfold cMM at hc; split at hc <;> cases hc
        · split at hc
          · split at hc
            · split at hc <;> cases hc
            · cases hc
          · split at hc
            · split at hc <;> cases hc
            · cases hc
          · cases hc
        · split at hc
          · split at hc
            · split at hc <;> cases hc
            · cases hc
          · cases hc
        · cases hc
      · cases hc
      · simp only [Option.map_eq_some_iff] at hc; obtain ⟨_, _, hp⟩ := hc; cases hp
      · cases hc
    · cases hc
  · cases hc

end

end Go.Det

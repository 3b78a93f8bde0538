/-
  DET, part G: the writing operations.
-/
import Derived.Test.YtaennaoaoahjmaaDoorDetF
set_option linter.unusedSimpArgs false
set_option linter.unusedVariables false
namespace Go.Det

/-- A writing operation comes to a value, or to none. -/
def WOk (P : Program) (own : Nat → Nat → Prop) (M : Mem) (γ : Gam) (w : World) (a : Act) (o : Oper) (v : AV) (M' : Mem) : Prop :=
  ∃ nx r w' γ', (execOp a.eval o).run P w = .ok nx w' ∧ (nx = .value r ∨ (nx = .skip ∧ r = undef)) ∧ VRel γ' v r ∧ MRel M' γ' w' ∧ Stp own M γ w M' γ' w'

theorem heap_setRow_other (w : World) (b k : Nat) (cs : Array Value) (h : k ≠ b) : (w.setRow b cs).heap[k]? = w.heap[k]? := by
  simp only [World.setRow, Array.getElem?_modify]
  rw [if_neg (fun hh => h hh.symm)]

theorem size_setRow (w : World) (b : Nat) (cs : Array Value) : (w.setRow b cs).heap.size = w.heap.size := by
  simp [World.setRow]

/-- Cells of a block are written over, or more of them come to be known. -/
theorem write_step {M : Mem} {γ : Gam} {w : World} {e id : Nat} {c c' : List AV} {fl : Bool} {g : G} {own : Nat → Nat → Prop} {cs : Array Value} {t : TypeId} {lo hi : Nat} {l' : List Value}
    (hM : MRel M γ w) (hc : ent M e id = some (.cells c true fl)) (hg : γ e id = some g)
    (hheap : w.heap[g.b]? = some (.cells cs t (lo, hi))) (hnf : ∀ i, i < cs.size → ¬ (lo ≤ i ∧ i < hi)) (hr : g.r = cs.size) (hgs : g.s = c.length) (hgo : g.o = 0)
    (hlen : l'.length = cs.size) (hle : c.length ≤ c'.length) (hpre : Pre (SRel γ) c' l') (hu : AV.unders (if fl then 0 else e + 1) c' = true) :
    MRel (put M e id (.cells c' true fl)) (addG γ e id ⟨g.b, c'.length, g.r, 0⟩) (w.setRow g.b l'.toArray) ∧
      Stp own M γ w (put M e id (.cells c' true fl)) (addG γ e id ⟨g.b, c'.length, g.r, 0⟩) (w.setRow g.b l'.toArray) := by
  refine upd_step hM hc rfl hg rfl rfl rfl (by rw [size_setRow]; exact Nat.le_refl _) (fun b _ hb => heap_setRow_other _ _ _ _ hb) (.inl rfl) ?_ (by simp only; omega) (fun h => ?_) ?_ rfl (fun γ' hx => ?_)
  · rw [size_setRow]; exact (hM.bnd _ _ _ hg).1
  · simp only at h; cases g; simp at h hgo; simp [h, hgo]
  · have := hpre.1; simp only; omega
  · exact ⟨l'.toArray, t, lo, hi, setRow_heap w g.b cs _ t _ hheap, rfl, by simp only [hr, List.size_toArray]; exact hlen.symm, by simpa using hpre.mono fun _ _ k => k.ext hx,
      fun _ => ⟨rfl, fun i hi => hnf i (by simpa [hlen] using hi)⟩, hu⟩

section
variable {P : Program} {M : Mem} {γ : Gam} {w : World} {e : Env} {a : Act} {q : Qs} {base : Nat} {dst : Option Tmp} {ty : TypeId} {pos : String} {after : Array Edge} {guard : Option (Nat × Bool)} {own : Nat → Nat → Prop}

theorem exec_u (s : Sem Unit) (w w' : World) (h : s.run P w = .ok () w') : (do s; pure Next.skip : Sem Next).run P w = .ok .skip w' := by
  simp only [Sem.run_bind, h, Result.andThen_ok, Sem.run_pure]

theorem set_over (l : List AV) (v : AV) (n : Nat) (h : n < l.length) : l.set n v = l.take n ++ [v] ++ l.drop (n + 1) := by
  rw [List.set_eq_take_append_cons_drop, if_pos h]; simp

theorem s_storeN {t : TypeId} {x v : Operand} {x' v' : Opd} {n : Nat} {u : AV} {M' : Mem} (hM : MRel M γ w) (hG : GRel P γ) (hE : ERel γ e a.tmps) (hx : cOpd P x = some x') (hv : cOpd P v = some v')
    (hn : szOf P t = some n) (h : evW (.storeN n x' v') e M = some (u, M')) : WOk P own M γ w a ⟨dst, .store t x v, ty, pos, after, guard⟩ u M' := by
  have rx := opd_rel hG hE hx
  have rv := opd_rel hG hE hv
  simp only [evW] at h
  split at h
  · rename_i p hp
    rw [hp] at rx
    obtain ⟨r, er, hr⟩ := rx.ptr_inv
    split at h
    · rename_i c fl hget
      split at h
      · rename_i l hl
        rw [hl] at rv
        split at h
        · rename_i hb
          obtain ⟨b1, b2, b3⟩ := hb
          cases h
          obtain ⟨g, hent, hg, hcr, hsz, hgs⟩ := get_rel hM hget
          obtain ⟨cs, t2, lo, hi, hheap, h1, h2, hpre, h3, h4⟩ := hcr
          obtain ⟨hgo, hnf⟩ := h3 rfl
          have := ptr_here hr hg hgs
          rw [hgo, Nat.zero_add] at this
          rw [hgo, List.drop_zero] at hpre
          subst this
          obtain ⟨l', el, hpl⟩ := rv.agg_inv
          have hpl1 := hpl.1
          have hpre1 := hpre.1
          have hrun := run_stores (P := P) (o := p.off) l' 0 cs w hheap hnf (by simp at hpre1; omega) hpl.oneCell
          have hpo := hpre.over hpl p.off (by omega)
          obtain ⟨m1, m2⟩ := write_step (own := own) (c' := c.take p.off ++ l ++ c.drop (p.off + l.length)) (l' := over cs.toList p.off l') hM hent hg hheap hnf h2 h1 hgo (by rw [over_length (by simp at hpre1 ⊢; omega)]; simp)
            (by simp; omega) hpo (by
              refine unders_iff.2 fun z hz => ?_
              simp only [List.append_assoc, List.mem_append] at hz
              rcases hz with hz | hz | hz
              · exact unders_iff.1 h4 z (List.mem_of_mem_take hz)
              · exact unders_iff.1 b3 z hz
              · exact unders_iff.1 h4 z (List.mem_of_mem_drop hz))
          rw [b1] at m1 m2
          refine ⟨.skip, undef, _, _, ?_, .inr ⟨rfl, rfl⟩, VRel.undef _, m1, m2⟩
          simp only [execOp]
          refine exec_u _ w _ ?_
          rw [er, el]
          have hsz2 : (Value.agg l'.toArray).cells.size = n := by show l'.toArray.size = n; simp [← hpl1, b1]
          simp only [Instr.storeAt, Instr.sureAddr, storeVar, Sem.run_bind, Sem.run_pure, Result.andThen_ok, r_size hn]
          rw [if_neg (fun h => h hsz2)]
          rw [Nat.add_zero] at hrun
          exact hrun
        · cases h
      · cases h
    · cases h
  · cases h

theorem s_store1 {t : TypeId} {x v : Operand} {x' v' : Opd} {u : AV} {M' : Mem} (hM : MRel M γ w) (hG : GRel P γ) (hE : ERel γ e a.tmps) (hx : cOpd P x = some x') (hv : cOpd P v = some v')
    (hn : szOf P t = some 1) (h : evW (.store1 x' v') e M = some (u, M')) : WOk P own M γ w a ⟨dst, .store t x v, ty, pos, after, guard⟩ u M' := by
  have rx := opd_rel hG hE hx
  have rv := opd_rel hG hE hv
  simp only [evW] at h
  split at h
  · rename_i p hp
    rw [hp] at rx
    obtain ⟨r, er, hr⟩ := rx.ptr_inv
    split at h
    · rename_i c fl hget
      split at h
      · rename_i hb
        obtain ⟨b1, b2, b3⟩ := hb
        cases h
        obtain ⟨g, hent, hg, hcr, hsz, hgs⟩ := get_rel hM hget
        obtain ⟨cs, t2, lo, hi, hheap, h1, h2, hpre, h3, h4⟩ := hcr
        obtain ⟨hgo, hnf⟩ := h3 rfl
        have := ptr_here hr hg hgs
        rw [hgo, Nat.zero_add] at this
        rw [hgo, List.drop_zero] at hpre
        subst this
        have hsv := rv.scalar_inv b1
        obtain ⟨_, hcells, _, _⟩ := hsv.scalar
        have hpl : Pw (SRel γ) [opd e v'] [a.eval v] := Pw.cons hsv Pw.nil
        have hpre1 := hpre.1
        have hrun := run_stores (P := P) (o := p.off) [a.eval v] 0 cs w hheap hnf (by simp at hpre1 ⊢; omega) hpl.oneCell
        have hpo := hpre.over hpl p.off (by simp; omega)
        obtain ⟨m1, m2⟩ := write_step (own := own) (c' := c.set p.off (opd e v')) (l' := over cs.toList p.off [a.eval v]) hM hent hg hheap hnf h2 h1 hgo (by rw [over_length (by simp at hpre1 ⊢; omega)]; simp)
          (by simp) (by rw [set_over _ _ _ b2]; exact hpo) (by
            refine unders_iff.2 fun z hz => ?_
            rcases List.mem_or_eq_of_mem_set hz with hz | hz
            · exact unders_iff.1 h4 z hz
            · rw [hz]; exact b3)
        refine ⟨.skip, undef, _, _, ?_, .inr ⟨rfl, rfl⟩, VRel.undef _, m1, m2⟩
        simp only [execOp]
        refine exec_u _ w _ ?_
        rw [er]
        simp only [Instr.storeAt, Instr.sureAddr, storeVar, Sem.run_bind, Sem.run_pure, Result.andThen_ok, r_size hn, hcells]
        rw [if_neg (by simp)]
        rw [Nat.add_zero] at hrun
        exact hrun
      · cases h
    · cases h
  · cases h

theorem len_rel {v : AV} {r : Value} {m : Nat} (hv : VRel γ v r) (h : lenA v = some m) : (Builtin.lenOf r).run P w = .ok m w := by
  unfold lenA at h
  split at h
  · rename_i p n s
    cases h
    cases p with
    | none => obtain ⟨h1, h2⟩ := hv.nilslice_inv; subst h1; subst h2; rfl
    | some p => obtain ⟨r, c, h1, _⟩ := hv.slice_inv; subst h1; rfl
  · cases h; obtain ⟨r, h1⟩ := hv.room0_inv; subst h1; rfl
  · rename_i s
    cases h
    obtain ⟨b, h1, h2⟩ := hv.str_inv
    subst h1
    rw [← h2, Array.length_toList]
    rfl
  · cases h

theorem s_copy {t el : TypeId} {x y : Operand} {x' y' : Opd} {ts : Array TypeId} {xs : Array Operand} {s : Nat} {u : AV} {M' : Mem} (hM : MRel M γ w) (hG : GRel P γ) (hE : ERel γ e a.tmps)
    (hx : cOpd P x = some x') (hy : cOpd P y = some y') (ht : ts[0]? = some t) (hxs : xs[0]? = some x) (hys : xs[1]? = some y) (hu : P.underlying t = some (.slice el)) (hs : szOf P el = some s)
    (h : evW (.copy s x' y') e M = some (u, M')) : WOk P own M γ w a ⟨dst, .call { callee := .builtin .copy, args := xs, argTypes := ts }, ty, pos, after, guard⟩ u M' := by
  have rx := opd_rel hG hE hx
  have ry := opd_rel hG hE hy
  have h0 : (xs.map a.eval)[0]? = some (a.eval x) := by simp [hxs]
  have h1 : (xs.map a.eval)[1]? = some (a.eval y) := by simp [hys]
  simp only [evW] at h
  split at h
  · rename_i n m hn hm
    split at h
    · rename_i new hnew
      obtain ⟨cs', hfc, hpw, hnl⟩ := src_rel (P := P) hM ry hnew
      have hlen := len_rel (P := P) (w := w) ry hm
      have hpw1 := hpw.1
      split at h
      · rename_i p n2 s2 hp
        rw [hp] at rx hn
        have hn2 : n2 = n := by simpa [lenA] using hn
        subst hn2
        obtain ⟨r, cap, er, hl⟩ := rx.slice_inv
        split at h
        · rename_i c fl hget
          split at h
          · rename_i hb
            obtain ⟨b1, b2, b3⟩ := hb
            cases h
            obtain ⟨g, hent, hg, hcr, hsz, hgs⟩ := get_rel hM hget
            obtain ⟨cs, t2, lo, hi, hheap, e1, e2, hpre, e3, e4⟩ := hcr
            obtain ⟨hgo, hnf⟩ := e3 rfl
            rw [hgo, List.drop_zero] at hpre
            have hpre1 := hpre.1
            have hpo := hpre.over hpw p.off (by omega)
            obtain ⟨m1, m2⟩ := write_step (own := own) (c' := c.take p.off ++ new ++ c.drop (p.off + new.length)) (l' := over cs.toList p.off cs') hM hent hg hheap hnf e2 e1 hgo
              (by rw [over_length (by simp at hpre1 ⊢; omega)]; simp) (by simp; omega) hpo (by
                refine unders_iff.2 fun z hz => ?_
                simp only [List.append_assoc, List.mem_append] at hz
                rcases hz with hz | hz | hz
                · exact unders_iff.1 e4 z (List.mem_of_mem_take hz)
                · exact unders_iff.1 b3 z hz
                · exact unders_iff.1 e4 z (List.mem_of_mem_drop hz))
            have hst : (storeCells r cs').run P w = .ok () (w.setRow g.b (over cs.toList p.off cs').toArray) := by
              by_cases hz : min m n2 * s = 0
              · have hc0 : cs' = [] := List.length_eq_zero_iff.1 (by omega)
                subst hc0
                simp only [storeCells, over, List.append_nil, List.length_nil, Nat.add_zero, List.take_append_drop, Array.toArray_toList]
                rw [setRow_self w g.b cs t2 (lo, hi) hheap]
                rfl
              · have hcap : 0 < cap := by
                  have h1 := hl.1
                  have : 0 < min m n2 := Nat.pos_of_ne_zero (fun h => hz (by simp [h]))
                  omega
                obtain ⟨ep, _⟩ := slice_here hl hg hgs hcap
                rw [hgo, Nat.zero_add] at ep
                subst ep
                have hrun := run_stores (P := P) (o := p.off) cs' 0 cs w hheap hnf (by simp at hpre1; omega) hpw.oneCell
                rw [Nat.add_zero] at hrun
                exact hrun
            refine ⟨_, .int .i64 (min m n2 : Nat), _, _, ?_, .inl rfl, .sc (.int _ _), m1, m2⟩
            refine exec_builtin (Builtin.copy_ ts ty (xs.map a.eval)) w (fun cs => rfl) ?_
            simp only [Builtin.copy_, ht, h0, h1, er, Sem.run_bind, r_und hu, Result.andThen_ok, hlen, r_size hs]
            rw [show Nat.min m n2 = min m n2 from rfl, hfc]
            simp only [Result.andThen_ok, Sem.run_bind, hst, Sem.run_pure]
            rfl
          · cases h
        · cases h
      · rename_i n2 s2 hp
        rw [hp] at rx hn
        cases h
        obtain ⟨hz, er⟩ := rx.nilslice_inv
        have hn2 : n2 = n := by simpa [lenA] using hn
        subst hn2; subst hz
        refine ⟨_, .int .i64 0, w, γ, ?_, .inl rfl, .sc (.int _ _), hM, Stp.refl _ _ _ _⟩
        refine exec_builtin (Builtin.copy_ ts ty (xs.map a.eval)) w (fun cs => rfl) ?_
        rw [Nat.min_zero] at hfc
        simp only [Builtin.copy_, ht, h0, h1, er, Sem.run_bind, r_und hu, Result.andThen_ok, hlen, r_size hs]
        rw [show Nat.min m 0 = 0 from Nat.min_zero m, hfc]
        simp only [Result.andThen_ok, Sem.run_pure]
        rfl
      · rename_i s2 hp
        rw [hp] at rx hn
        cases h
        obtain ⟨r, er⟩ := rx.room0_inv
        have hn2 : n = 0 := by simpa [lenA] using hn.symm
        subst hn2
        refine ⟨_, .int .i64 0, w, γ, ?_, .inl rfl, .sc (.int _ _), hM, Stp.refl _ _ _ _⟩
        refine exec_builtin (Builtin.copy_ ts ty (xs.map a.eval)) w (fun cs => rfl) ?_
        rw [Nat.min_zero] at hfc
        have hc0 : cs' = [] := List.length_eq_zero_iff.1 (by rw [Nat.min_zero] at hnl; omega)
        subst hc0
        simp only [Builtin.copy_, ht, h0, h1, er, Sem.run_bind, r_und hu, Result.andThen_ok, hlen, r_size hs]
        rw [show Nat.min m 0 = 0 from Nat.min_zero m, hfc]
        simp only [Result.andThen_ok, Sem.run_pure, storeCells]
        rfl
      · cases h
    · cases h
  · cases h

theorem growBy_le (need : Nat) : ∀ (r c : Nat), c ≤ need + (need + 768) / 4 → Builtin.growBy need r c ≤ need + (need + 768) / 4
  | 0, c, h => by simpa [Builtin.growBy] using h
  | r + 1, c, h => by
    simp only [Builtin.growBy]
    split
    · exact h
    · refine growBy_le need r _ ?_
      omega

theorem nextcap_le {need c : Nat} (h : c < need) : Builtin.nextslicecap need c ≤ 3 * need := by
  unfold Builtin.nextslicecap
  split
  · omega
  · split
    · omega
    · have := growBy_le need 4 c (by omega)
      omega

theorem zeros_rel {t : TypeId} {i : TypeInfo} {v : Value} (hi : P.info? t = some i) (hv : i.zero = some v) : (zeroValue t).run P w = .ok v w := r_zero hi hv w

/-- The store into the room of a slice, or into no room at all. -/
theorem append_room {t el t2 : TypeId} {d2 : TypeDesc} {ts : Array TypeId} {s n m cap : Nat} {p : Option Addr} {Y : Value} {w' : World} {cs' : List Value} (ht : ts[0]? = some t) (ht2 : ts[1]? = some t2)
    (hu : P.underlying t = some (.slice el)) (hu2 : P.underlying t2 = some d2) (hd2 : ∀ k, d2 ≠ .int k) (hs : szOf P el = some s) (hlen : (Builtin.lenOf Y).run P w = .ok m w) (hle : n + m ≤ cap)
    (hfc : (Builtin.firstCells s m Y).run P w = .ok cs'.toArray w) (hst : match p with | some p => (storeCells (p.add (n * s)) cs').run P w = .ok () w' | none => w' = w) :
    (Builtin.append_ ts ty #[.slice p n cap, Y]).run P w = .ok (.slice p (n + m) cap) w' := by
  simp only [Builtin.append_, ht, ht2, List.getElem?_toArray, List.getElem?_cons_zero, List.getElem?_cons_succ, Sem.run_bind, r_und hu, Result.andThen_ok, r_size hs, r_und hu2, Sem.run_pure]
  cases d2 <;> first | exact absurd rfl (hd2 _) | skip
  all_goals
    simp only [Bool.false_eq_true, if_false, hlen, Result.andThen_ok, Bool.not_false, if_true, hle, Sem.run_bind, hfc]
    cases p with
    | none => subst hst; rfl
    | some p => simp only [hst, Sem.run_bind, Result.andThen_ok, Sem.run_pure]

theorem MRel.draw (hM : MRel M γ w) (d : Nat) : MRel M γ { w with drawn := d } := by
  refine ⟨fun e id c h => ?_, hM.inj, hM.bnd⟩
  obtain ⟨g, hg, hc⟩ := hM.ent e id c h
  exact ⟨g, hg, hc.ext (Ext.refl _) rfl⟩

/-- The append that makes a new block. -/
theorem append_grow {t el t2 : TypeId} {d2 : TypeDesc} {ts : Array TypeId} {s n m cap : Nat} {p : Option Addr} {Y : Value} {old new : List Value} {i : TypeInfo} {zv : Value} (ht : ts[0]? = some t) (ht2 : ts[1]? = some t2)
    (hu : P.underlying t = some (.slice el)) (hu2 : P.underlying t2 = some d2) (hd2 : ∀ k, d2 ≠ .int k) (hs : szOf P el = some s) (hi : P.info? el = some i) (hz : i.zero = some zv) (hlen : (Builtin.lenOf Y).run P w = .ok m w) (hgt : cap < n + m)
    (hb : (n + m) * i.bytes ≤ 2 ^ 45) (hb2 : n + m ≤ 2 ^ 45)
    (hold : (Builtin.firstCells s n (.slice p n cap)).run P { w with drawn := w.drawn + 1 } = .ok old.toArray { w with drawn := w.drawn + 1 })
    (hnew : (Builtin.firstCells s m Y).run P { w with drawn := w.drawn + 1 } = .ok new.toArray { w with drawn := w.drawn + 1 }) :
    ∃ nc, n + m ≤ nc ∧ (Builtin.append_ ts ty #[.slice p n cap, Y]).run P w =
      .ok (.slice (some ⟨w.heap.size, 0, none⟩) (n + m) nc) (World.grow w (.cells (old.toArray ++ new.toArray ++ Builtin.zeroCells zv.cells (nc - (n + m))) el) (w.drawn + 1)) := by
  let nc := (Question.appendCap (n + m) cap el).cut (w.tape w.drawn (.appendCap (n + m) cap el))
  have hnc : n + m ≤ nc := by simp only [nc, Question.cut]; omega
  refine ⟨nc, hnc, ?_⟩
  have hch : (choose (.appendCap (n + m) cap el)).run P w = .ok nc { w with drawn := w.drawn + 1 } := rfl
  have hp45 : (2:Nat)^45 = 35184372088832 := by decide
  have hp48 : (2:Nat)^48 = 281474976710656 := by decide
  have g1 : ¬ ((((n + m : Nat) : Int) > IntKind.i64.max ∧ (false = true ∨ i.bytes = 0))) := by
    rintro ⟨h, _⟩
    have : IntKind.i64.max = 9223372036854775807 := by decide
    rw [this] at h
    omega
  have g2 : ¬ (Builtin.nextslicecap (n + m) cap * i.bytes > 2 ^ 48) := by
    have h1 := Nat.mul_le_mul_right i.bytes (nextcap_le hgt)
    have h2 : 3 * (n + m) * i.bytes = 3 * ((n + m) * i.bytes) := Nat.mul_assoc _ _ _
    rw [h2] at h1
    rw [hp45] at hb
    rw [hp48]
    omega
  have g3 : ¬ n + m ≤ cap := by omega
  simp only [Builtin.append_, ht, ht2, List.getElem?_toArray, List.getElem?_cons_zero, List.getElem?_cons_succ, Sem.run_bind, r_und hu, Result.andThen_ok, r_size hs, r_und hu2, Sem.run_pure]
  cases d2 <;> first | exact absurd rfl (hd2 _) | skip
  all_goals
    simp only [Bool.false_eq_true, if_false, hlen, Result.andThen_ok, Bool.not_false, if_true, g3, Sem.run_bind, r_info hi]
    rw [if_neg (by simpa using g1)]
    simp only [Sem.run_bind, r_info hi, Result.andThen_ok]
    rw [if_neg g2]
    simp only [Sem.run_bind, hch, r_info hi, Result.andThen_ok, Go.run_askRoom, hold, hnew, r_zero hi hz, run_newRow, Sem.run_pure]
    rfl

theorem append_new {t el t2 : TypeId} {s m : Nat} {ts : Array TypeId} {xs : Array Operand} {y : Operand} {new : List AV} {p : Option Addr} {cs' : List Value} {sc : Scope} {M0 : Mem} {A : AAddr} {M' : Mem} {d2 : TypeDesc} {i : TypeInfo} {zv : Value}
    (hM : MRel (sc :: M0) γ w) (hdom : ∀ e i, γ e i ≠ none → e < M0.length + 1) (hfree : sc base = none → γ M0.length base = none) (hown : own M0.length base)
    (ht : ts[0]? = some t) (ht2 : ts[1]? = some t2) (hu : P.underlying t = some (.slice el)) (hu2 : P.underlying t2 = some d2) (hd2 : ∀ k, d2 ≠ .int k) (hs : szOf P el = some s)
    (hi : P.info? el = some i) (hz : i.zero = some zv) (hzs : zv.cells.size = s) (hargs : xs.map a.eval = #[.slice p 0 0, a.eval y]) (hlen : (Builtin.lenOf (a.eval y)).run P w = .ok m w) (hm : m ≠ 0)
    (hb : m * i.bytes ≤ 2 ^ 45) (hb2 : m ≤ 2 ^ 45) (hnew : (Builtin.firstCells s m (a.eval y)).run P { w with drawn := w.drawn + 1 } = .ok cs'.toArray { w with drawn := w.drawn + 1 })
    (hpw : Pw (SRel γ) new cs') (hnl : new.length = m * s) (hal : allocTop base (mkCells new) (sc :: M0) = some (A, M')) :
    WOk P own (sc :: M0) γ w a ⟨dst, .call { callee := .builtin .append, args := xs, argTypes := ts }, ty, pos, after, guard⟩ (.slice (some A) m s) M' := by
  simp only [allocTop] at hal
  split at hal
  · cases hal
  · rename_i hsc
    cases hal
    have hold : (Builtin.firstCells s 0 (.slice p 0 0)).run P { w with drawn := w.drawn + 1 } = .ok ([] : List Value).toArray { w with drawn := w.drawn + 1 } := by
      cases p <;> (simp only [Builtin.firstCells, Nat.zero_mul]; rfl)
    obtain ⟨nc, hnc, hrun⟩ := append_grow (P := P) (w := w) (ty := ty) (p := p) ht ht2 hu hu2 hd2 hs hi hz hlen (n := 0) (cap := 0) (by omega) (by simpa using hb) (by simpa using hb2) hold hnew
    have hcl := hpw.1
    let cs : Array Value := (([] : List Value).toArray ++ cs'.toArray ++ Builtin.zeroCells zv.cells (nc - (0 + m)))
    have hcs : cs.size = nc * s := by
      simp only [cs, Builtin.zeroCells, Array.size_append, Array.size_map, Array.size_range, List.size_toArray, List.length_nil, hzs, ← hcl, hnl, Nat.zero_add]
      rw [← Nat.add_mul]; congr 1; omega
    have hC : ∀ γ', Ext γ γ' → CRel γ' M0.length (mkCells new) ⟨w.heap.size, new.length, cs.size, 0⟩ (World.grow w (.cells cs el) (w.drawn + 1)) := fun γ' hx => by
      refine cells_new (t := el) (lo := 0) (hi := 0) hdom ?_ ?_ (by intro i _ h; omega) γ' hx
      · have : cs.toList.take new.length = cs' := by
          simp only [cs, Array.toList_append, List.nil_append]
          rw [hcl, List.take_left]
        rw [this]; exact hpw
      · rw [hcs, hnl]; exact Nat.mul_le_mul_right _ (by omega)
    obtain ⟨m1, m2⟩ := alloc_step (own := own) hM hsc (hfree hsc) (g := ⟨w.heap.size, new.length, cs.size, 0⟩) rfl (by simp only; rw [hcs, hnl, Nat.zero_add]; exact Nat.mul_le_mul_right _ (by omega)) hC hown
    refine ⟨_, .slice (some ⟨w.heap.size, 0, none⟩) (0 + m) nc, _, _, ?_, .inl rfl, ?_, m1, m2⟩
    · refine exec_builtin (Builtin.append_ ts ty (xs.map a.eval)) w (fun cs => rfl) ?_
      rw [hargs]
      exact hrun
    · have := slice_new (γ' := addG γ M0.length base ⟨w.heap.size, new.length, cs.size, 0⟩) (d := M0.length) (id := base) (n := new.length) (m := m) (s := s) (c := nc) (addG_new _ _ _ _) rfl (by omega) (by simp only; rw [hcs]; exact Nat.le_refl _)
      simpa [mkCells, Con.size] using this

theorem s_append {t el t2 : TypeId} {d2 : TypeDesc} {x y : Operand} {x' y' : Opd} {ts : Array TypeId} {xs : Array Operand} {s bt : Nat} {u : AV} {sc : Scope} {M0 M' : Mem} {i : TypeInfo} {zv : Value} {z : List AV}
    (hM : MRel (sc :: M0) γ w) (hG : GRel P γ) (hE : ERel γ e a.tmps) (hdom : ∀ e i, γ e i ≠ none → e < M0.length + 1) (hfree : sc base = none → γ M0.length base = none) (hown : own M0.length base)
    (hx : cOpd P x = some x') (hy : cOpd P y = some y') (ht : ts[0]? = some t) (ht2 : ts[1]? = some t2) (hxs : xs = #[x, y]) (hu : P.underlying t = some (.slice el)) (hu2 : P.underlying t2 = some d2) (hd2 : ∀ k, d2 ≠ .int k)
    (hs : szOf P el = some s) (hb : bytOf P el = some bt) (h0 : 0 < s) (hz : (zeroOf P el).map List.length = some s)
    (h : evW (.append base s bt x' y') e (sc :: M0) = some (u, M')) : WOk P own (sc :: M0) γ w a ⟨dst, .call { callee := .builtin .append, args := xs, argTypes := ts }, ty, pos, after, guard⟩ u M' := by
  have rx := opd_rel hG hE hx
  have ry := opd_rel hG hE hy
  obtain ⟨z, hz1, hz2⟩ : ∃ z, zeroOf P el = some z ∧ z.length = s := by
    cases hzz : zeroOf P el with
    | none => rw [hzz] at hz; cases hz
    | some z => rw [hzz] at hz; exact ⟨z, rfl, by simpa using hz⟩
  obtain ⟨zv, i, hi, hzv, hzr⟩ := zero_rel hz1
  have hzs : zv.cells.size = s := by rw [← hz2, (hzr γ).1]; simp
  have hbt : i.bytes = bt := by unfold bytOf at hb; rw [hi] at hb; simpa using hb
  have hargs : ∀ X, a.eval x = X → xs.map a.eval = #[X, a.eval y] := by intro X hX; rw [hxs]; simp [hX]
  simp only [evW] at h
  split at h
  · cases h
  · rename_i m hm
    have hlen := len_rel (P := P) (w := w) ry hm
    split at h
    · cases h
    · rename_i new hnew
      obtain ⟨cs', hfc, hpw, hnl⟩ := src_rel (P := P) hM ry hnew
      obtain ⟨cs2, hfc2, hpw2, _⟩ := src_rel (P := P) (hM.draw (w.drawn + 1)) ry hnew
      split at h
      · -- nil
        rename_i n0 s0 hp
        rw [hp] at rx
        obtain ⟨_, er⟩ := rx.nilslice_inv
        split at h
        · rename_i hm0
          cases h
          subst hm0
          refine ⟨_, .slice none 0 0, w, γ, ?_, .inl rfl, .sc (.slice0 _), hM, Stp.refl _ _ _ _⟩
          refine exec_builtin (Builtin.append_ ts ty (xs.map a.eval)) w (fun cs => rfl) ?_
          rw [hargs _ er]
          exact append_room ht ht2 hu hu2 hd2 hs hlen (Nat.le_refl _) hfc rfl
        · rename_i hm0
          split at h
          · rename_i hbb
            split at h
            · rename_i A M1 hal
              cases h
              exact append_new hM hdom hfree hown ht ht2 hu hu2 hd2 hs hi hzv hzs (hargs _ er) hlen hm0 (by rw [hbt]; exact hbb.1) hbb.2 hfc2 hpw2 hnl hal
            · cases h
          · cases h
      · -- no room
        rename_i s0 hp
        rw [hp] at rx
        obtain ⟨p, er⟩ := rx.room0_inv
        split at h
        · rename_i hm0
          cases h
          subst hm0
          refine ⟨_, .slice (some p) 0 0, w, γ, ?_, .inl rfl, .sc (.room0 _ _), hM, Stp.refl _ _ _ _⟩
          refine exec_builtin (Builtin.append_ ts ty (xs.map a.eval)) w (fun cs => rfl) ?_
          rw [hargs _ er]
          have hc0 : cs' = [] := List.length_eq_zero_iff.1 (by have := hpw.1; omega)
          subst hc0
          exact append_room ht ht2 hu hu2 hd2 hs hlen (Nat.le_refl _) hfc (by simp only [storeCells]; rfl)
        · rename_i hm0
          split at h
          · rename_i hbb
            split at h
            · rename_i A M1 hal
              cases h
              exact append_new hM hdom hfree hown ht ht2 hu hu2 hd2 hs hi hzv hzs (hargs _ er) hlen hm0 (by rw [hbt]; exact hbb.1) hbb.2 hfc2 hpw2 hnl hal
            · cases h
          · cases h
      · rename_i p n s' hp
        rw [hp] at rx
        obtain ⟨r, cap, er, hl⟩ := rx.slice_inv
        split at h
        · rename_i c fl hget
          split at h
          · rename_i hb2
            obtain ⟨b1, b2, b3, b4, b5, b6⟩ := hb2
            subst b1
            cases h
            obtain ⟨g, hent, hg, hcr, hsz, hgs⟩ := get_rel hM hget
            obtain ⟨cs, t3, lo, hi', hheap, e1, e2, hpre, e3, e4⟩ := hcr
            obtain ⟨hgo, hnf⟩ := e3 rfl
            rw [hgo, List.drop_zero] at hpre
            have hpre1 := hpre.1
            have hgsr : g.s = c.length := e1
            by_cases hroom : n + m ≤ cap
            · -- in place
              have hpw1 := hpw.1
              by_cases hcap : 0 < cap
              · obtain ⟨ep, hfit⟩ := slice_here hl hg hgs hcap
                rw [hgo, Nat.zero_add] at ep
                rw [hgo, Nat.zero_add] at hfit
                subst ep
                have hfit2 : c.length + new.length ≤ cs.size := by
                  have h1 : (n + m) * s' ≤ cap * s' := Nat.mul_le_mul_right _ hroom
                  rw [Nat.add_mul] at h1
                  omega
                have hrun := run_stores (P := P) (o := c.length) cs' 0 cs w hheap hnf (by omega) hpw.oneCell
                rw [Nat.add_zero] at hrun
                obtain ⟨m1, m2⟩ := write_step (own := own) (c' := c ++ new) (l' := over cs.toList c.length cs') hM hent hg hheap hnf e2 e1 hgo (by rw [over_length (by simp; omega)]; simp) (by simp) (hpre.grow hpw (by simp; omega)) (by
                  refine unders_iff.2 fun z hz => ?_
                  rcases List.mem_append.1 hz with hz | hz
                  · exact unders_iff.1 e4 z hz
                  · exact unders_iff.1 b6 z hz)
                refine ⟨_, .slice (some ⟨g.b, p.off, none⟩) (n + m) cap, _, _, ?_, .inl rfl, ?_, m1, m2⟩
                · refine exec_builtin (Builtin.append_ ts ty (xs.map a.eval)) w (fun cs => rfl) ?_
                  rw [hargs _ er]
                  refine append_room ht ht2 hu hu2 hd2 hs hlen hroom hfc ?_
                  simp only
                  rw [add_off _ _ rfl, b2, Nat.zero_add, b3]
                  exact hrun
                · refine .sc (.slice ⟨hroom, _, addG_new _ _ _ _, by simp, fun _ => ⟨rfl, rfl, fun _ => ⟨by simp, by simpa using hfit⟩⟩⟩)
              · have hn0 : n = 0 := by have := hl.1; omega
                have hm0 : m = 0 := by omega
                subst hn0; subst hm0
                have hnew0 : new = [] := List.length_eq_zero_iff.1 (by omega)
                have hcs0 : cs' = [] := List.length_eq_zero_iff.1 (by have := hpw.1; omega)
                subst hnew0; subst hcs0
                obtain ⟨m1, m2⟩ := write_step (own := own) (c' := c ++ []) (l' := cs.toList) hM hent hg hheap hnf e2 e1 hgo (by simp) (by simp) (by simpa using hpre) (by simpa using e4)
                rw [Array.toArray_toList, setRow_self w g.b cs t3 (lo, hi') hheap] at m1 m2
                refine ⟨_, .slice (some r) (0 + 0) cap, _, _, ?_, .inl rfl, ?_, m1, m2⟩
                · refine exec_builtin (Builtin.append_ ts ty (xs.map a.eval)) w (fun cs => rfl) ?_
                  rw [hargs _ er]
                  exact append_room ht ht2 hu hu2 hd2 hs hlen hroom hfc (by simp only [storeCells]; rfl)
                · obtain ⟨hl1, g', hg', hl3, hl4⟩ := hl
                  rw [hg] at hg'; cases hg'
                  obtain ⟨k1, k2, k3⟩ := hl4 (by omega)
                  exact .sc (.slice ⟨by omega, _, addG_new _ _ _ _, by simp, fun _ => ⟨k1, k2, fun h => absurd h hcap⟩⟩)
            · -- a new block
              have hcapn : cap < n + m := by omega
              have hold : ∃ old : List Value, (Builtin.firstCells s' n (.slice (some r) n cap)).run P { w with drawn := w.drawn + 1 } = .ok old.toArray { w with drawn := w.drawn + 1 } ∧ Pw (SRel γ) c old := by
                have hs1 : srcCells (sc :: M0) n s' (.slice (some p) n s') = some c := by
                  simp only [srcCells, hget]
                  rw [if_pos (by refine ⟨Nat.le_refl _, ?_, by omega⟩; first | rfl | trivial), b2, b3, List.drop_zero, List.take_length]
                obtain ⟨old, o1, o2, _⟩ := src_rel (P := P) (hM.draw (w.drawn + 1)) rx hs1
                rw [er] at o1
                exact ⟨old, o1, o2⟩
              obtain ⟨old, ho1, ho2⟩ := hold
              obtain ⟨nc, hnc, hrun⟩ := append_grow (P := P) (w := w) (ty := ty) (p := some r) ht ht2 hu hu2 hd2 hs hi hzv hlen hcapn (by rw [hbt]; exact b4) b5 ho1 hfc2
              have hpwa := ho2.append hpw2
              let cs3 : Array Value := (old.toArray ++ cs2.toArray ++ Builtin.zeroCells zv.cells (nc - (n + m)))
              have hal := hpwa.1
              have hcl : (c ++ new).length = (n + m) * s' := by simp [← b3, hnl, Nat.add_mul]
              have hcs : cs3.size = nc * s' := by
                have h1 : old.length + cs2.length = (n + m) * s' := by rw [← hcl, hal]; simp
                simp only [cs3, Builtin.zeroCells, Array.size_append, Array.size_map, Array.size_range, List.size_toArray, hzs, h1]
                rw [← Nat.add_mul]; congr 1; omega
              have hle1 : (n + m) * s' ≤ nc * s' := Nat.mul_le_mul_right _ hnc
              have hm1 : 0 < m := by
                have := hl.1; omega
              have hgrow : g.s < (c ++ new).length := by
                rw [hgsr]
                have : 0 < m * s' := Nat.mul_pos hm1 h0
                have h9 : (c ++ new).length = c.length + m * s' := by rw [List.length_append, hnl]
                omega
              have hstep := upd_step (own := own) (w' := World.grow w (.cells cs3 el) (w.drawn + 1)) (c' := .cells (c ++ new) true fl) (g' := ⟨w.heap.size, (c ++ new).length, cs3.size, 0⟩) hM hent rfl hg rfl rfl rfl
                (by simp [World.grow]) (fun b hb _ => grow_old w _ _ b hb) (.inr (Nat.le_refl _)) (by simp [World.grow]) (by simp only; omega) (by simp only; intro h; omega) (by simp only; rw [hcl, hcs, Nat.zero_add]; exact hle1) rfl (fun γ' hxx => by
                  refine ⟨cs3, el, 0, 0, grow_new _ _ _, rfl, rfl, ⟨?_, fun k v r hv hr => ?_⟩, fun _ => ⟨rfl, fun i _ h => by omega⟩, ?_⟩
                  · rw [hcl]; simp only [List.drop_zero, Array.length_toList, hcs]; exact hle1
                  · refine (hpwa.2 k v r hv ?_).ext hxx
                    have hk : k < (old ++ cs2).length := by rw [← hal]; exact (List.getElem?_eq_some_iff.1 hv).1
                    simp only [cs3, Array.toList_append, List.drop_zero] at hr
                    rw [List.getElem?_append_left hk] at hr
                    exact hr
                  · refine unders_iff.2 fun z hz => ?_
                    rcases List.mem_append.1 hz with hz | hz
                    · exact unders_iff.1 e4 z hz
                    · exact unders_iff.1 b6 z hz)
              obtain ⟨m1, m2⟩ := hstep
              refine ⟨_, .slice (some ⟨w.heap.size, 0, none⟩) (n + m) nc, _, _, ?_, .inl rfl, ?_, m1, m2⟩
              · refine exec_builtin (Builtin.append_ ts ty (xs.map a.eval)) w (fun cs => rfl) ?_
                rw [hargs _ er]
                exact hrun
              · refine .sc (.slice ⟨hnc, _, addG_new _ _ _ _, by simp, fun _ => ⟨rfl, rfl, fun _ => ⟨by simp [b2], ?_⟩⟩⟩)
                simp only [b2, Nat.zero_add, hcs]
                exact Nat.le_refl _
          · cases h
        · cases h
      · cases h

theorem run_setMap {b : Nat} {es : Array MapEntry} {clk : Nat} {o : Obj} (h : w.heap[b]? = some (.map es clk)) : (setObj b o).run P w = .ok () { w with heap := w.heap.setIfInBounds b o } := by
  simp only [setObj, Sem.run, h]

theorem MPw.set {es : List (AV × AV)} {es' : List MapEntry} (h : MPw γ es es') {j : Nat} {k v : AV} {x : MapEntry} (hk : SRel γ k x.key) (hv : SRel γ v x.val) (h1 : AV.under 0 k = true) (h2 : AV.under 0 v = true) :
    MPw γ (es.set j (k, v)) (es'.set j x) := by
  refine ⟨by simp [h.1], fun i k1 v1 x1 a b => ?_⟩
  rw [List.getElem?_set] at a b
  rw [← h.1] at b
  split at a
  · rename_i hj
    rw [if_pos hj] at b
    split at a
    · rename_i hl; rw [if_pos hl] at b; cases a; cases b; exact ⟨hk, hv, h1, h2⟩
    · cases a
  · rename_i hj; rw [if_neg hj] at b; exact h.2 i k1 v1 x1 a b

theorem MPw.snoc {es : List (AV × AV)} {es' : List MapEntry} (h : MPw γ es es') {k v : AV} {x : MapEntry} (hk : SRel γ k x.key) (hv : SRel γ v x.val) (h1 : AV.under 0 k = true) (h2 : AV.under 0 v = true) :
    MPw γ (es ++ [(k, v)]) (es' ++ [x]) := by
  refine ⟨by simp [h.1], fun i k1 v1 x1 a b => ?_⟩
  rw [List.getElem?_append] at a b
  rw [← h.1] at b
  split at a
  · rename_i hi; rw [if_pos hi] at b; exact h.2 i k1 v1 x1 a b
  · rename_i hi
    rw [if_neg hi] at b
    rw [List.getElem?_singleton] at a b
    split at a
    · rename_i hz; rw [if_pos hz] at b; cases a; cases b; exact ⟨hk, hv, h1, h2⟩
    · cases a

theorem key_under {sk : Bool} {k : AV} (h : keyOk sk k = true) : AV.under 0 k = true := by
  cases sk <;> cases k <;> first | rfl | (simp [keyOk] at h)

theorem s_mapSet {t kt et : TypeId} {m k v : Operand} {m' k' v' : Opd} {sk : Bool} {u : AV} {M' : Mem} (hM : MRel M γ w) (hG : GRel P γ) (hE : ERel γ e a.tmps) (hm : cOpd P m = some m') (hk : cOpd P k = some k') (hv : cOpd P v = some v')
    (hu : P.underlying t = some (.map kt et)) (hkt : keyT P kt = some sk) (h : evW (.mapSet sk m' k' v') e M = some (u, M')) : WOk P own M γ w a ⟨dst, .mapUpdate t m k v, ty, pos, after, guard⟩ u M' := by
  have rm := opd_rel hG hE hm
  have rk := opd_rel hG hE hk
  have rv := opd_rel hG hE hv
  obtain ⟨d, hud, hd⟩ := keyT_inv hkt
  simp only [evW] at h
  split at h
  · cases h
  · rename_i hko
    have hko : keyOk sk (opd e k') = true := by simpa using hko
    have hks := keySc rk hko
    split at h
    · rename_i p hp
      rw [hp] at rm
      obtain ⟨r, er, g0, hg0, hg1, hg2⟩ := rm.map_inv
      split at h
      · rename_i es hget
        obtain ⟨g, hent, hg, hcr, hsz, hgs⟩ := get_rel hM hget
        rw [hg] at hg0; cases hg0
        have er2 := hg2 hgs.symm
        subst er2
        obtain ⟨es', clk, hheap, hs0, hlen, hpw⟩ := hcr
        have hmp : MPw γ es es'.toList := ⟨by simpa using hlen, fun i k v x h1 h2 => hpw i k v x h1 (by simpa using h2)⟩
        split at h
        · rename_i r0 hf
          split at h
          · rename_i hb
            cases h
            have hvs := rv.scalar_inv hb.1
            -- the step in memory
            have step : ∀ (es2 : List (AV × AV)) (es2' : Array MapEntry) (clk' : Nat), MPw γ es2 es2'.toList →
                MRel (put M p.dep p.id (.map es2 true)) (addG γ p.dep p.id g0) { w with heap := w.heap.setIfInBounds g0.b (.map es2' clk') } ∧
                Stp own M γ w (put M p.dep p.id (.map es2 true)) (addG γ p.dep p.id g0) { w with heap := w.heap.setIfInBounds g0.b (.map es2' clk') } := by
              intro es2 es2' clk' hp2
              have hbn := hM.bnd _ _ _ hg
              refine upd_step hM hent rfl hg rfl rfl rfl (by simp) (fun b _ hbb => ?_) (.inl rfl) (by simpa using hbn.1) (Nat.le_refl _) (fun _ => rfl) hbn.2 rfl (fun γ' hx => ?_)
              · rw [Array.getElem?_setIfInBounds_ne (fun hh => hbb hh.symm)]
              · refine ⟨es2', clk', by rw [Array.getElem?_setIfInBounds_self_of_lt hbn.1], hs0, by simpa using hp2.1, fun i k v x h1 h2 => ?_⟩
                obtain ⟨a1, a2, a3, a4⟩ := hp2.2 i k v x h1 (by simpa using h2)
                exact ⟨a1.ext hx, a2.ext hx, a3, a4⟩
            cases r0 with
            | some v0 =>
              obtain ⟨_, g4⟩ := find_rel hks hd hko es es'.toList 0 _ hmp hf
              obtain ⟨j, y, hy, hfn, hv0, hsb, hset⟩ := g4 v0 rfl
              have hj : j < es'.size := by have := (List.getElem?_eq_some_iff.1 hy).1; simpa using this
              have hyj : es'[j]? = some y := by rw [← Array.getElem?_toList]; exact hy
              have hyj2 : es'[j] = y := by rw [Array.getElem?_eq_getElem hj] at hyj; simpa using hyj
              obtain ⟨m1, m2⟩ := step (setIn (opd e k') (opd e v') es) (es'.modify j fun e => { e with key := a.eval k, val := a.eval v }) clk (by
                rw [hset]
                have := hmp.set (j := j) (k := opd e k') (v := opd e v') (x := { y with key := a.eval k, val := a.eval v }) hks hvs (key_under hko) hb.2
                rw [Array.toList_modify]
                rw [show es'.toList.modify j (fun e => { e with key := a.eval k, val := a.eval v }) = es'.toList.set j { y with key := a.eval k, val := a.eval v } from by
                  apply List.ext_getElem?
                  intro i
                  rw [List.getElem?_modify, List.getElem?_set]
                  by_cases hij : j = i
                  · subst hij
                    rw [if_pos rfl, if_pos (by simpa using hj), hy]
                    simp
                  · simp [hij]]
                exact this)
              refine ⟨.skip, undef, _, _, ?_, .inr ⟨rfl, rfl⟩, VRel.undef _, m1, m2⟩
              simp only [execOp]
              refine exec_u _ w _ ?_
              rw [er]
              have hkeep : (Instr.keyThatStays y.key (a.eval k)).run P w = .ok (a.eval k) w := by
                simp only [Instr.keyThatStays, hsb, if_true, Sem.run_pure]
              simp only [Instr.mapUpdate, Sem.run_bind, r_und hu, Result.andThen_ok, run_getMap hheap, run_checkKey hud hd, run_findKey hud hfn, Nat.zero_add, hyj, Option.map_some, Option.getD_some, hkeep, run_setMap hheap]
            | none =>
              obtain ⟨g4, _⟩ := find_rel hks hd hko es es'.toList 0 _ hmp hf
              obtain ⟨hfn, hset⟩ := g4 rfl
              obtain ⟨m1, m2⟩ := step (setIn (opd e k') (opd e v') es) (es'.push { key := a.eval k, val := a.eval v, born := clk }) (clk + 1) (by
                rw [hset, Array.toList_push]
                exact hmp.snoc hks hvs (key_under hko) hb.2)
              refine ⟨.skip, undef, _, _, ?_, .inr ⟨rfl, rfl⟩, VRel.undef _, m1, m2⟩
              simp only [execOp]
              refine exec_u _ w _ ?_
              rw [er]
              simp only [Instr.mapUpdate, Sem.run_bind, r_und hu, Result.andThen_ok, run_getMap hheap, run_checkKey hud hd, run_findKey hud hfn, run_setMap hheap]
          · cases h
        · cases h
      · cases h
    · cases h

theorem evW_sound {o : Oper} {W : WOp} {u : AV} {sc : Scope} {M0 M' : Mem} (hM : MRel (sc :: M0) γ w) (hG : GRel P γ) (hE : ERel γ e a.tmps) (hdom : ∀ e i, γ e i ≠ none → e < M0.length + 1)
    (hfree : sc base = none → γ M0.length base = none) (hown : own M0.length base) (hc : cOp P q base o = some (.w W)) (h : evW W e (sc :: M0) = some (u, M')) : WOk P own (sc :: M0) γ w a o u M' := by
  obtain ⟨dst, op, ty, pos, after, guard⟩ := o
  unfold cOp at hc
  split at hc
  · simp only [Option.map_eq_some_iff] at hc; obtain ⟨_, _, hp⟩ := hc; cases hp
  · simp only [Option.map_eq_some_iff] at hc; obtain ⟨_, _, hp⟩ := hc; cases hp
  · split at hc <;> cases hc
  · split at hc
    · unfold cBin at hc
      split at hc
      all_goals
        (try split at hc)
        all_goals first
          | (cases hc; done)
          | (simp only [Option.map_eq_some_iff] at hc; obtain ⟨_, _, hp⟩ := hc; cases hp; done)
    · cases hc
  · simp only [Option.map_eq_some_iff] at hc; obtain ⟨_, _, hp⟩ := hc; cases hp
  · simp only [Option.bind_eq_some_iff] at hc
    obtain ⟨x', hx, hc⟩ := hc
    split at hc
    · cases hc
    · cases hc
    · split at hc <;> cases hc
    · split at hc <;> cases hc
    · cases hc
  · simp only [Option.map_eq_some_iff] at hc; obtain ⟨_, _, hp⟩ := hc; cases hp
  · simp only [Option.map_eq_some_iff] at hc; obtain ⟨_, _, hp⟩ := hc; cases hp
  · split at hc
    · split at hc
      · simp only [Option.map_eq_some_iff] at hc; obtain ⟨_, _, hp⟩ := hc; cases hp
      · cases hc
    · simp only [Option.bind_eq_some_iff, Option.map_eq_some_iff] at hc; obtain ⟨_, _, _, _, hp⟩ := hc; cases hp
    · cases hc
  · split at hc
    · split at hc
      · split at hc
        · simp only [Option.map_eq_some_iff] at hc; obtain ⟨_, _, hp⟩ := hc; cases hp
        · cases hc
      · cases hc
    · cases hc
  · split at hc <;> cases hc
  · rename_i t x v ho; simp only at ho; subst ho
    split at hc
    · rename_i n x' v' ha hn hx hv; cases hc; exact s_storeN hM hG hE hx hv hn h
    · rename_i n x' v' ha hn hx hv
      split at hc
      · rename_i h1; subst h1; cases hc; exact s_store1 hM hG hE hx hv hn h
      · cases hc
    · cases hc
  · split at hc
    · split at hc
      · split at hc
        · split at hc <;> cases hc
        · cases hc
      · cases hc
    · cases hc
  · split at hc
    · split at hc
      · split at hc <;> cases hc
      · cases hc
    · cases hc
  · split at hc
    · simp only [Option.map_eq_some_iff] at hc; obtain ⟨_, _, hp⟩ := hc; cases hp
    · simp only [Option.map_eq_some_iff] at hc; obtain ⟨_, _, hp⟩ := hc; cases hp
    · cases hc
  · split at hc
    · cases hc
    · split at hc
      · cases hc
      · split at hc <;> cases hc
      · cases hc
    · cases hc
  · split at hc
    · cases hc
    · simp only [Option.bind_eq_some_iff] at hc; obtain ⟨_, _, hc⟩ := hc; split at hc <;> cases hc
    · simp only [Option.bind_eq_some_iff] at hc; obtain ⟨_, _, hc⟩ := hc; split at hc <;> cases hc
    · cases hc
  · simp only [Option.map_eq_some_iff] at hc; obtain ⟨_, _, hp⟩ := hc; cases hp
  · split at hc <;> cases hc
  · split at hc
    · split at hc <;> cases hc
    · cases hc
  · split at hc <;> cases hc
  · split at hc
    · split at hc <;> cases hc
    · cases hc
  · rename_i t m k v ho; simp only at ho; subst ho
    split at hc
    · rename_i kt et m' k' v' hu hm hk hv
      simp only [Option.map_eq_some_iff] at hc; obtain ⟨sk, hsk, hp⟩ := hc; cases hp
      exact s_mapSet hM hG hE hm hk hv hu hsk h
    · cases hc
  · split at hc
    · simp only [Option.map_eq_some_iff] at hc; obtain ⟨_, _, hp⟩ := hc; cases hp
    · cases hc
  · simp only [Option.map_eq_some_iff] at hc; obtain ⟨_, _, hp⟩ := hc; cases hp
  · rename_i c ho; simp only at ho; subst ho
    obtain ⟨callee, xs, ts⟩ := c
    split at hc
    · rename_i args hargs
      split at hc
      · rename_i b hb
        simp only at hb; subst hb
        unfold cBuiltin at hc
        split at hc
        · split at hc <;> (try cases hc)
          split at hc <;> cases hc
        · unfold cMM at hc; split at hc <;> cases hc
        · unfold cMM at hc; split at hc <;> cases hc
        · rename_i t t2 tr x y hts
          obtain ⟨x1, l1, e1, hx, hl1⟩ := cOpds_cons hargs
          obtain ⟨y1, l2, e2, hy, hl2⟩ := cOpds_cons hl1
          have e3 : l2 = [] := by cases l2 with | nil => rfl | cons z l => simp only [cOpds] at hl2; split at hl2 <;> cases hl2
          subst e3; subst e2
          have hxs : xs = #[x1, y1] := Array.ext' e1
          have ht0 : ts[0]? = some t := by rw [← Array.getElem?_toList, hts]; rfl
          have ht1 : ts[1]? = some t2 := by rw [← Array.getElem?_toList, hts]; rfl
          split at hc
          · rename_i el el2 hu hu2
            split at hc
            · rename_i s bt hs hb
              split at hc
              · rename_i hcnd; cases hc
                exact s_append (z := []) (i := default) (zv := undef) hM hG hE hdom hfree hown hx hy ht0 ht1 hxs hu hu2 (by simp) hs hb hcnd.1 hcnd.2.1 h
              · cases hc
            · cases hc
          · rename_i el hu hu2
            split at hc
            · rename_i s bt hs hb
              split at hc
              · rename_i hcnd; cases hc
                exact s_append (z := []) (i := default) (zv := undef) hM hG hE hdom hfree hown hx hy ht0 ht1 hxs hu hu2 (by simp) hs hb hcnd.1 hcnd.2.1 h
              · cases hc
            · cases hc
          · cases hc
        · rename_i t tr x y hts
          obtain ⟨x1, l1, e1, hx, hl1⟩ := cOpds_cons hargs
          obtain ⟨y1, l2, e2, hy, hl2⟩ := cOpds_cons hl1
          have ht0 : ts[0]? = some t := by rw [← Array.getElem?_toList, hts]; rfl
          have hx0 : xs[0]? = some x1 := by rw [← Array.getElem?_toList, e1]; rfl
          have hx1 : xs[1]? = some y1 := by rw [← Array.getElem?_toList, e1, e2]; rfl
          split at hc
          · rename_i el hu
            split at hc
            · rename_i s hs
              split at hc
              · cases hc; exact s_copy hM hG hE hx hy ht0 hx0 hx1 hu hs h
              · cases hc
            · cases hc
          · cases hc
        · cases hc
      · cases hc
      · simp only [Option.map_eq_some_iff] at hc; obtain ⟨_, _, hp⟩ := hc; cases hp
      · cases hc
    · cases hc
  · cases hc

end

end Go.Det

/-
  DET, part Z: strings.Builder: what its two functions do to a world, and what its operations say of one.
-/
import Derived.Test.YtaennaoaoahjmaaDoorDetG
import Derived.Lib.FrozenHead
set_option linter.unusedSimpArgs false
set_option linter.unusedVariables false
namespace Go.Det

/-! ### which function, which type -/

def fnd (n : String) : List Func → Nat → Option Nat
  | [], _ => none
  | f :: l, k => if (f.name == n) = true then some k else fnd n l (k + 1)

def isBT (P : Program) (T : TypeId) : Bool :=
  match P.info? T with
  | some i => match i.desc with
    | .named n _ => n == "strings.Builder"
    | _ => false
  | none => false

def fndT (P : Program) : Nat → Nat → Option Nat
  | 0, _ => none
  | n + 1, k => if isBT P k = true then some k else fndT P n (k + 1)

/-- WriteString, String, the builder's type, its bytes' type. -/
def bInfo (P : Program) : Option (Nat × Nat × Nat × Nat) :=
  match fnd "(*strings.Builder).WriteString" P.funcs.toList 0, fnd "(*strings.Builder).String" P.funcs.toList 0, fndT P P.types.size 0 with
  | some i, some j, some T => match P.underlying T with
    | some (.struct fs) => match fs[1]? with
      | some f => match P.underlying f.type with
        | some (.slice E) => some (i, j, T, E)
        | _ => none
      | none => none
    | _ => none
  | _, _, _ => none

def nameOf (P : Program) (f : Nat) : String := match P.funcs[f]? with
  | some fn => fn.name
  | none => ""

/-- A builder's operation. A call through a value is one where q says no. -/
def cBld (P : Program) (q : Qs) (base : Nat) (o : Oper) : Option BOp :=
  match o.op with
  | .alloc elem => if isBT P elem = true then match zeroOf P elem with
      | some [.ptr none, .slice none 0 0] => some (.new elem)
      | _ => none
    else none
  | .call c => match c.callee with
    | .value (.func f) =>
      if (nameOf P f == "(*strings.Builder).WriteString") = true then match bInfo P, cOpds P c.args.toList with
        | some (i, _, T, E), some args => some (.write i T E (.f f) args)
        | _, _ => none
      else if (nameOf P f == "(*strings.Builder).String") = true then match bInfo P, cOpds P c.args.toList with
        | some (_, j, T, E), some args => some (.str j T E (.f f) args)
        | _, _ => none
      else none
    | .value x => if q (5000000 + base) = false then match bInfo P, cOpd P x, cOpds P c.args.toList with
        | some (i, _, T, E), some x, some args => some (.write i T E x args)
        | _, _, _ => none
      else none
    | _ => none
  | _ => none

/-! ### what the functions do -/

def selfP (b : Nat) : Value := .pointer (some ⟨b, 0, none⟩)

def FnThere (P : Program) (i : Nat) : Prop := ∃ fn, P.funcs[i]? = some fn ∧ (fn.name == "runtime.NumGoroutine") = false ∧ fn.body.isNone = false

/-- WriteString appends as 'append' does. -/
structure WrOk (P : Program) (i T E : Nat) : Prop where
  fn : FnThere P i
  size : szOf P E = some 1
  info : ∃ j, P.info? E = some j ∧ j.zero = some (.int .u8 0) ∧ j.bytes = 1
  run : ∃ (ts : Array TypeId) (ty t t2 : TypeId), ts[0]? = some t ∧ ts[1]? = some t2 ∧ P.underlying t = some (.slice E) ∧ P.underlying t2 = some .string ∧
    ∀ (w : World) (b : Nat) (p v : Value) (s : ByteArray) (v' : Value) (w1 : World), w.heap[b]? = some (.cells #[p, v] T (0, 0)) → (p = .pointer none ∨ p = selfP b) →
      (Builtin.append_ ts ty #[v, .string s]).run P (w.setCell ⟨b, 0, none⟩ (selfP b)) = .ok v' w1 → w1.heap[b]? = some (.cells #[selfP b, v] T (0, 0)) → (∃ o n c, v' = .slice o n c) →
      Go.Calls P i #[selfP b, .string s] w fun e w' => (∃ r, e = .returned r) ∧ w' = w1.setCell ⟨b, 1, none⟩ v'

def bytesV (l : List UInt8) : List Value := l.map fun x => .int .u8 x.toNat

/-- String tells the bytes, and freezes them. -/
structure StOk (P : Program) (i T E : Nat) : Prop where
  fn : FnThere P i
  nil : ∀ (w : World) (b : Nat) (p : Value), w.heap[b]? = some (.cells #[p, .slice none 0 0] T (0, 0)) →
    Go.Calls P i #[selfP b] w fun e w' => e = .returned (.string ⟨#[]⟩) ∧ ∃ d, w' = { w with drawn := d }
  full : ∀ (w : World) (b : Nat) (p : Value) (l : List UInt8) (g cap : Nat) (cur : Array Value) (fz : Nat × Nat), w.heap[b]? = some (.cells #[p, .slice (some ⟨g, 0, none⟩) l.length cap] T (0, 0)) → g ≠ b →
    w.heap[g]? = some (.cells cur E fz) → l ≠ [] → l.length ≤ cap → cap ≤ cur.size → l.length ≤ 2 ^ 45 → cur.toList.take l.length = bytesV l →
    Go.Calls P i #[selfP b] w fun e w' => e = .returned (.string ⟨l.toArray⟩) ∧ ∃ d, w' = ({ w with drawn := d } : World).freeze ⟨g, 0, none⟩ l.length

/-- What the program's builder does, if it has one. -/
def BldOk (P : Program) : Prop := ∀ i j T E, bInfo P = some (i, j, T, E) → WrOk P i T E ∧ StOk P j T E

theorem bldOk_none {P : Program} (h : bInfo P = none) : BldOk P := fun i j T E hb => by rw [h] at hb; cases hb

theorem bldOk_some {P : Program} {i j T E : Nat} (h : bInfo P = some (i, j, T, E)) (h1 : WrOk P i T E) (h2 : StOk P j T E) : BldOk P := fun i' j' T' E' hb => by
  rw [h] at hb
  cases hb
  exact ⟨h1, h2⟩

/-! ### steps in memory -/

theorem put_same {M : Mem} {e id : Nat} {c : Con} (h : ent M e id = some c) : put M e id c = M := by
  induction M with
  | nil => rfl
  | cons s M ih =>
    simp only [put]
    split
    · rename_i he
      subst he
      rw [ent_cons_top] at h
      congr 1
      funext j
      simp only [setAt]
      split
      · rename_i hj; subst hj; exact h.symm
      · rfl
    · rename_i he
      rw [ent_cons_old he] at h
      rw [ih h]

theorem addG_same {γ : Gam} {e id : Nat} {g : G} (h : γ e id = some g) : addG γ e id g = γ := by
  funext e' id'
  unfold addG
  split
  · rename_i hh; obtain ⟨rfl, rfl⟩ := hh; exact h.symm
  · rfl

theorem bld_step {M : Mem} {γ : Gam} {w : World} {e id T : Nat} {buf buf' : AV} {g : G} {own : Nat → Nat → Prop} {p v p' v' : Value} (hM : MRel M γ w) (hc : ent M e id = some (.bld T buf true)) (hg : γ e id = some g)
    (hheap : w.heap[g.b]? = some (.cells #[p, v] T (0, 0))) (hs : g.s = 2) (hr : g.r = 2) (ho : g.o = 0) (hp : p' = .pointer none ∨ p' = selfP g.b) (hv : SRel γ buf' v') (hu : AV.under (e + 1) buf' = true) :
    MRel (put M e id (.bld T buf' true)) γ (w.setRow g.b #[p', v']) ∧ Stp own M γ w (put M e id (.bld T buf' true)) γ (w.setRow g.b #[p', v']) := by
  have := upd_step (own := own) (w' := w.setRow g.b #[p', v']) (c' := .bld T buf' true) (g' := g) hM hc rfl hg rfl rfl rfl (by rw [size_setRow]; exact Nat.le_refl _) (fun b _ hb => heap_setRow_other _ _ _ _ hb) (.inl rfl)
    (by rw [size_setRow]; exact (hM.bnd _ _ _ hg).1) (Nat.le_refl _) (fun _ => rfl) (hM.bnd _ _ _ hg).2 rfl (fun γ' hx => ⟨p', v', setRow_heap w g.b _ _ T _ hheap, hs, hr, ho, hp, hv.ext hx, hu⟩)
  rwa [addG_same hg] at this

section
variable {P : Program} {γ : Gam} {w : World} {own : Nat → Nat → Prop}

theorem bytes_first {S : ByteArray} {s : List UInt8} (hS : S.data.toList = s) (w : World) : (Builtin.firstCells 1 s.length (.string S)).run P w = .ok (bytesV s).toArray w := by
  have h : ((S.extract 0 s.length).data.map fun x => Value.int .u8 x.toNat).toList = bytesV s := by
    rw [Array.toList_map, ByteArray.data_extract, Array.toList_extract, hS]
    simp [bytesV, List.extract_eq_take_drop]
  rw [← h]
  simp only [Builtin.firstCells, Array.toArray_toList]
  rfl

theorem bytesV_length (l : List UInt8) : (bytesV l).length = l.length := by simp [bytesV]

theorem bytesV_append (a b : List UInt8) : bytesV (a ++ b) = bytesV a ++ bytesV b := by simp [bytesV]

theorem bytesV_one (l : List UInt8) : ∀ v ∈ bytesV l, v.oneCell' = true := by
  intro v hv
  simp only [bytesV, List.mem_map] at hv
  obtain ⟨x, _, rfl⟩ := hv
  rfl

/-- What an append to a buffer comes to. -/
theorem bApp_sound {sc : Scope} {M0 M' : Mem} {id E : Nat} {buf buf' : AV} {s : List UInt8} {v : Value} {S : ByteArray} {ts : Array TypeId} {ty t t2 : TypeId} {i : TypeInfo} (hM : MRel (sc :: M0) γ w) (hv : SRel γ buf v)
    (hfree : sc id = none → γ M0.length id = none) (hown : own M0.length id) (ht : ts[0]? = some t) (ht2 : ts[1]? = some t2) (hu : P.underlying t = some (.slice E)) (hu2 : P.underlying t2 = some .string)
    (hs1 : szOf P E = some 1) (hi : P.info? E = some i) (hz : i.zero = some (.int .u8 0)) (hby : i.bytes = 1) (hS : S.data.toList = s) (h : bApp id E buf s (sc :: M0) = some (buf', M')) :
    ∃ v' w1 γ', (Builtin.append_ ts ty #[v, .string S]).run P w = .ok v' w1 ∧ SRel γ' buf' v' ∧ MRel M' γ' w1 ∧ Stp own (sc :: M0) γ w M' γ' w1 ∧ (∃ o n c, v' = .slice o n c) ∧
      (∀ k, k < w.heap.size → (∀ d i g E c, ent (sc :: M0) d i = some (.buf E c true) → γ d i = some g → g.b ≠ k) → w1.heap[k]? = w.heap[k]?) ∧
      (∀ e i T b rw, ent (sc :: M0) e i = some (.bld T b rw) → ent M' e i = some (.bld T b rw)) := by
  have hlen : ∀ w : World, (Builtin.lenOf (.string S)).run P w = .ok s.length w := fun w => by
    rw [← hS, Array.length_toList]; rfl
  have hfc := fun w => bytes_first (P := P) hS w
  have hp45 : (2:Nat)^45 = 35184372088832 := by decide
  unfold bApp at h
  split at h
  · -- nil
    rename_i n0 e0
    have er : n0 = 0 ∧ v = .slice none 0 0 := (VRel.sc hv).nilslice_inv
    obtain ⟨_, er⟩ := er
    subst er
    split at h
    · rename_i hs0
      cases h
      refine ⟨_, w, γ, append_room (n := 0) (m := s.length) ht ht2 hu hu2 (by simp) hs1 (hlen w) (by omega) (hfc w) rfl, ?_, hM, Stp.refl _ _ _ _, ⟨_, _, _, rfl⟩, fun k _ _ => rfl, fun e i T b rw h => h⟩
      rw [hs0]
      exact .slice0 _
    · rename_i hs0
      split at h
      · rename_i hle
        simp only [allocTop] at h
        cases hsc : sc id with
        | some c0 => rw [hsc] at h; cases h
        | none =>
          rw [hsc] at h
          simp only [Option.some.injEq, Prod.mk.injEq] at h
          obtain ⟨rfl, rfl⟩ := h
          have hold : (Builtin.firstCells 1 0 (.slice none 0 0)).run P { w with drawn := w.drawn + 1 } = .ok ([] : List Value).toArray { w with drawn := w.drawn + 1 } := by
            simp only [Builtin.firstCells, Nat.zero_mul]; rfl
          obtain ⟨nc, hnc, hrun⟩ := append_grow (P := P) (w := w) (ty := ty) (p := none) ht ht2 hu hu2 (by simp) hs1 hi hz (hlen w) (n := 0) (cap := 0) (by omega) (by rw [hby]; omega) (by omega) hold (hfc _)
          have hcs : (([] : List Value).toArray ++ (bytesV s).toArray ++ Builtin.zeroCells (Value.int .u8 0).cells (nc - (0 + s.length))).size = nc := by
            simp only [Builtin.zeroCells, Array.size_append, Array.size_map, Array.size_range, List.size_toArray, List.length_nil, bytesV_length, Value.cells]
            simp; omega
          generalize hcsd : (([] : List Value).toArray ++ (bytesV s).toArray ++ Builtin.zeroCells (Value.int .u8 0).cells (nc - (0 + s.length))) = cs at hrun hcs
          have hc : Con.size (.buf E s true) = s.length := rfl
          obtain ⟨m1, m2⟩ := alloc_step (own := own) (c := .buf E s true) (obj := .cells cs E) (dr := w.drawn + 1) hM hsc (hfree hsc) (g := ⟨w.heap.size, s.length, cs.size, 0⟩) rfl (by simp only; omega) (fun γ' hx => by
            refine ⟨cs, 0, 0, grow_new _ _ _, rfl, rfl, rfl, by omega, Nat.zero_le _, ?_⟩
            rw [← hcsd]
            simp only [Array.toList_append, List.nil_append]
            rw [List.take_append_of_le_length (by rw [bytesV_length]; exact Nat.le_refl _)]
            rw [List.take_of_length_le (by rw [bytesV_length]; exact Nat.le_refl _)]
            rfl) hown
          refine ⟨_, _, _, hrun, ?_, m1, m2, ⟨_, _, _, rfl⟩, fun k hk _ => grow_old w _ _ k hk, fun e i T b rw h1 => ?_⟩
          · rw [hc]
            have hfit : 0 + 0 + nc * 1 ≤ cs.size := by omega
            have hz0 : s.length = 0 + s.length := (Nat.zero_add _).symm
            rw [show AV.slice (some ⟨M0.length, id, s.length, 0⟩) s.length 1 = AV.slice (some ⟨M0.length, id, s.length, 0⟩) (0 + s.length) 1 from by rw [Nat.zero_add]]
            exact SRel.slice (a := ⟨M0.length, id, s.length, 0⟩) (r := ⟨w.heap.size, 0, none⟩) (c := nc) ⟨by omega, ⟨w.heap.size, s.length, cs.size, 0⟩, addG_new _ _ _ _, Nat.le_refl _, fun _ => ⟨rfl, rfl, fun _ => ⟨rfl, hfit⟩⟩⟩
          · by_cases he : e = M0.length
            · subst he
              rw [ent_cons_top] at h1 ⊢
              simp only [setAt]
              rw [if_neg]
              · exact h1
              · rintro rfl; rw [hsc] at h1; cases h1
            · rw [ent_cons_old he] at h1 ⊢
              exact h1
      · cases h
  · rename_i a n e0
    split at h
    · rename_i E' c hget
      split at h
      · rename_i hb
        obtain ⟨b1, b2, b3, b4, b5, b6⟩ := hb
        subst b1; subst b2
        cases h
        obtain ⟨r, cap, er, hl⟩ := (VRel.sc hv).slice_inv
        subst er
        obtain ⟨g, hent, hg, hcr, hsz, hgs⟩ := get_rel hM hget
        obtain ⟨cs, lo, hi', hheap, e1, e2, e3, e4, e5, e6⟩ := hcr
        have hcap : 0 < cap := by have := hl.1; omega
        obtain ⟨ep, hfit⟩ := slice_here hl hg hgs hcap
        rw [e3, b3] at ep hfit
        subst ep
        have hlt : a.dep < (sc :: M0).length := ent_lt (by rw [hent]; simp)
        have hkeepB : ∀ e i T b rw, ent (sc :: M0) e i = some (.bld T b rw) → ent (put (sc :: M0) a.dep a.id (.buf E' (c ++ s) true)) e i = some (.bld T b rw) := by
          intro e i T b rw h1
          rw [ent_put hlt, if_neg]
          · exact h1
          · rintro ⟨rfl, rfl⟩; rw [hent] at h1; cases h1
        by_cases hroom : n + s.length ≤ cap
        · have hst : (storeCells ((⟨g.b, 0 + 0, none⟩ : Addr).add (n * 1)) (bytesV s)).run P w = .ok () (w.setRow g.b (over cs.toList c.length (bytesV s)).toArray) := by
            have hadd : (⟨g.b, 0 + 0, none⟩ : Addr).add (n * 1) = ⟨g.b, c.length, none⟩ := by
              rw [add_off _ _ rfl]; simp [b4]
            rw [hadd]
            have := run_storeCells_atF P g.b c.length E' (lo, hi') (bytesV s) 0 cs w hheap (by simpa using e5) (by rw [bytesV_length]; omega) (bytesV_one s)
            simpa [over] using this
          have hrun := append_room (P := P) (ty := ty) (p := some ⟨g.b, 0 + 0, none⟩) (n := n) (m := s.length) ht ht2 hu hu2 (by simp) hs1 (hlen w) hroom (hfc w) hst
          have hovl : (over cs.toList c.length (bytesV s)).length = cs.size := by
            rw [over_length (by rw [bytesV_length]; simp; omega)]; simp
          obtain ⟨m1, m2⟩ := upd_step (own := own) (w' := w.setRow g.b (over cs.toList c.length (bytesV s)).toArray) (c' := .buf E' (c ++ s) true) (g' := ⟨g.b, (c ++ s).length, g.r, 0⟩) hM hent rfl hg rfl rfl rfl
            (by rw [size_setRow]; exact Nat.le_refl _) (fun b _ hb => heap_setRow_other _ _ _ _ hb) (.inl rfl) (by rw [size_setRow]; exact (hM.bnd _ _ _ hg).1) (by simp only [List.length_append]; omega)
            (fun h => by simp only at h; cases g; simp at h e3 e1; simp [e3, h]) (by simp only [List.length_append]; omega) rfl (fun γ' hx => by
              refine ⟨(over cs.toList c.length (bytesV s)).toArray, lo, hi', setRow_heap w g.b cs _ E' _ hheap, rfl, by simp [hovl, e2], rfl, by simp [hovl]; omega, by simp; omega, ?_⟩
              have h1 : (cs.toList.take c.length).length = c.length := by simp; omega
              simp only [over]
              rw [List.take_append_of_le_length (by simp [bytesV_length]; omega), List.take_of_length_le (by simp [bytesV_length]; omega), e6]
              exact (bytesV_append c s).symm)
          refine ⟨_, _, _, hrun, ?_, m1, m2, ⟨_, _, _, rfl⟩, fun k hk hn => ?_, hkeepB⟩
          · refine .slice ⟨hroom, _, addG_new _ _ _ _, by simp, fun _ => ⟨rfl, rfl, fun _ => ⟨by simp [b3], ?_⟩⟩⟩
            simp only [b3]
            omega
          · exact heap_setRow_other _ _ _ _ (fun hh => hn _ _ _ _ _ hent hg hh.symm)
        · have hm1 : 0 < s.length := by have := hl.1; omega
          have hold : (Builtin.firstCells 1 n (.slice (some ⟨g.b, 0 + 0, none⟩) n cap)).run P { w with drawn := w.drawn + 1 } = .ok (bytesV c).toArray { w with drawn := w.drawn + 1 } := by
            simp only [Builtin.firstCells, Nat.mul_one]
            have h1 := run_loads (P := P) (w := { w with drawn := w.drawn + 1 }) (b := g.b) (o := 0) (n := n) (cs := cs) (t := E') (fz := (lo, hi')) hheap (by omega)
            rw [List.drop_zero, b4, e6] at h1
            rw [b4]
            exact h1
          obtain ⟨nc, hnc, hrun⟩ := append_grow (P := P) (w := w) (ty := ty) (p := some ⟨g.b, 0 + 0, none⟩) (n := n) (cap := cap) ht ht2 hu hu2 (by simp) hs1 hi hz (hlen w) (by omega) (by rw [hby]; omega) (by omega) hold (hfc _)
          have hcs : ((bytesV c).toArray ++ (bytesV s).toArray ++ Builtin.zeroCells (Value.int .u8 0).cells (nc - (n + s.length))).size = nc := by
            simp only [Builtin.zeroCells, Array.size_append, Array.size_map, Array.size_range, List.size_toArray, bytesV_length, Value.cells]
            simp; omega
          generalize hcsd : ((bytesV c).toArray ++ (bytesV s).toArray ++ Builtin.zeroCells (Value.int .u8 0).cells (nc - (n + s.length))) = cs3 at hrun hcs
          obtain ⟨m1, m2⟩ := upd_step (own := own) (w' := World.grow w (.cells cs3 E') (w.drawn + 1)) (c' := .buf E' (c ++ s) true) (g' := ⟨w.heap.size, (c ++ s).length, cs3.size, 0⟩) hM hent rfl hg rfl rfl rfl
            (by simp [World.grow]) (fun b hb _ => grow_old w _ _ b hb) (.inr (Nat.le_refl _)) (by simp [World.grow]) (by simp only [List.length_append]; omega) (by simp only [List.length_append]; intro h; omega)
            (by simp only [List.length_append]; omega) rfl (fun γ' hx => by
              refine ⟨cs3, 0, 0, grow_new _ _ _, rfl, rfl, rfl, by simp only [List.length_append]; omega, Nat.zero_le _, ?_⟩
              rw [← hcsd]
              simp only [Array.toList_append]
              rw [List.take_append_of_le_length (by simp [bytesV_length]), List.take_of_length_le (by simp [bytesV_length])]
              exact (bytesV_append c s).symm)
          refine ⟨_, _, _, hrun, ?_, m1, m2, ⟨_, _, _, rfl⟩, fun k hk _ => grow_old w _ _ k hk, hkeepB⟩
          refine .slice ⟨hnc, _, addG_new _ _ _ _, by simp, fun _ => ⟨rfl, rfl, fun _ => ⟨by simp [b3], ?_⟩⟩⟩
          simp only [b3]
          omega
      · cases h
    · cases h
  · cases h

/-- The call of WriteString. -/
theorem bWrite_sound {i T E id : Nat} {sc : Scope} {M0 M' : Mem} {l : List AV} {vs : List Value} {r : AV} (hB : WrOk P i T E) (hM : MRel (sc :: M0) γ w) (hfree : sc id = none → γ M0.length id = none) (hown : own M0.length id)
    (hargs : Pw (VRel γ) l vs) (h : bWrite id T E l (sc :: M0) = some (r, M')) :
    Go.Calls P i vs.toArray w fun e w' => ∃ v γ', e = .returned v ∧ VRel γ' r v ∧ MRel M' γ' w' ∧ Stp own (sc :: M0) γ w M' γ' w' := by
  unfold bWrite at h
  split at h
  · rename_i p s
    obtain ⟨r1, m1, rfl, hp, hl1⟩ := hargs.of_cons
    obtain ⟨r2, m2, rfl, hs, hl2⟩ := hl1.of_cons
    have := hl2.of_nil
    subst this
    obtain ⟨q, rfl, hq⟩ := hp.ptr_inv
    obtain ⟨S, rfl, hS⟩ := hs.str_inv
    split at h
    · rename_i T' buf hget
      split at h
      · rename_i hb
        obtain ⟨b1, b2⟩ := hb
        subst b1
        split at h
        · rename_i buf' M1 happ
          split at h
          · rename_i hund
            cases h
            obtain ⟨g, hent, hg, hcr, hsz, hgs⟩ := get_rel hM hget
            obtain ⟨p0, v0, hheap, e1, e2, e3, e4, e5, e6⟩ := hcr
            have hqe := ptr_here hq hg hgs
            rw [e3, b2] at hqe
            subst hqe
            -- the builder names itself
            have hset : w.setCell ⟨g.b, 0, none⟩ (selfP g.b) = w.setRow g.b #[selfP g.b, v0] := by
              rw [setCell_eq_setRow w g.b 0 _ _ _ _ hheap]; rfl
            obtain ⟨k1, k2⟩ := bld_step (own := own) (p' := selfP g.b) (v' := v0) hM hent hg hheap e1 e2 e3 (.inr rfl) e5 e6
            rw [put_same hent] at k1 k2
            -- the append
            obtain ⟨j, hj, hjz, hjb⟩ := hB.info
            obtain ⟨ts, ty, t, t2, ht, ht2, hu, hu2, hrun⟩ := hB.run
            obtain ⟨v', w1, γ1, happ1, a1, a2, a3, a4, a5, a6⟩ := bApp_sound (own := own) (ty := ty) k1 e5 hfree hown ht ht2 hu hu2 hB.size hj hjz hjb hS happ
            have hbl : g.b < (w.setRow g.b #[selfP g.b, v0]).heap.size := by rw [size_setRow]; exact (hM.bnd _ _ _ hg).1
            have hheap1 : w1.heap[g.b]? = some (.cells #[selfP g.b, v0] T' (0, 0)) := by
              rw [a5 g.b hbl fun d i g1 E1 c1 h1 h2 h3 => ?_]
              · exact setRow_heap w g.b _ _ _ _ hheap
              · obtain ⟨q1, q2⟩ := hM.inj d i _ _ _ _ g1 g h1 rfl hent h2 hg h3
                subst q1; subst q2
                rw [hent] at h1; cases h1
            have hent1 := a6 _ _ _ _ _ hent
            obtain ⟨g1, hg1, hcr1⟩ := a2.ent _ _ _ hent1
            have hg1e : g1 = g := by
              obtain ⟨g2, hg2, _, hse⟩ := a3.ext _ _ _ hg
              rw [hg1] at hg2; cases hg2
              obtain ⟨_, _, _, f1, _⟩ := hcr1
              exact hse (by rw [e1, f1])
            subst hg1e
            obtain ⟨c1, c2⟩ := bld_step (own := own) (p' := selfP g1.b) (v' := v') a2 hent1 hg1 hheap1 e1 e2 e3 (.inr rfl) a1 hund
            have hset1 : w1.setCell ⟨g1.b, 1, none⟩ v' = w1.setRow g1.b #[selfP g1.b, v'] := by
              rw [setCell_eq_setRow w1 g1.b 1 _ _ _ _ hheap1]; rfl
            refine (hrun w g1.b p0 v0 S v' w1 hheap e4 (by rw [hset]; exact happ1) hheap1 a4).mono ?_
            rintro e w' ⟨⟨x, rfl⟩, rfl⟩
            rw [hset1]
            exact ⟨x, γ1, rfl, .dead x, c1, (k2.trans a3).trans c2⟩
          · cases h
        · cases h
      · cases h
    · cases h
  · cases h

theorem MRel.drawn {M : Mem} (hM : MRel M γ w) (d : Nat) : MRel M γ { w with drawn := d } := by
  refine ⟨fun e id c h => ?_, hM.inj, hM.bnd⟩
  obtain ⟨g, hg, hc⟩ := hM.ent e id c h
  exact ⟨g, hg, hc.ext (Ext.refl _) rfl⟩

theorem stp_drawn {M : Mem} (d : Nat) : Stp own M γ w M γ { w with drawn := d } :=
  ⟨rfl, rfl, rfl, Nat.le_refl _, fun _ _ _ => rfl, fun _ _ g h => ⟨g, h, Nat.le_refl _, fun _ => rfl⟩, fun _ _ _ _ => rfl, fun _ _ _ h _ => ⟨rfl, h⟩,
    fun _ _ g h => .inl ⟨g, h, rfl⟩, rfl, fun _ _ h => .inl h, fun _ _ c h => ⟨c, h, fun x => x⟩, fun _ _ h h' => absurd h h', fun _ _ h h' => absurd h h', fun _ _ h h' => absurd h h'⟩

theorem freeze_heap {w : World} {g n : Nat} {cs : Array Value} {t : TypeId} {lo hi : Nat} (hn : n ≠ 0) (h : w.heap[g]? = some (.cells cs t (lo, hi))) :
    (∃ lo' hi', (w.freeze ⟨g, 0, none⟩ n).heap[g]? = some (.cells cs t (lo', hi')) ∧ (hi ≤ n → hi' ≤ n)) ∧ (∀ k, k ≠ g → (w.freeze ⟨g, 0, none⟩ n).heap[k]? = w.heap[k]?) ∧ (w.freeze ⟨g, 0, none⟩ n).heap.size = w.heap.size := by
  unfold World.freeze
  rw [if_neg hn]
  refine ⟨?_, fun k hk => ?_, by simp⟩
  · simp only [Array.getElem?_modify, if_true, h, Option.map_some]
    by_cases hl : (lo == hi) = true
    · refine ⟨0, 0 + n, by simp only [hl, if_true], fun _ => by omega⟩
    · refine ⟨min lo 0, max hi (0 + n), by simp only [hl, Bool.false_eq_true, if_false], fun h => by omega⟩
  · simp only [Array.getElem?_modify]
    rw [if_neg (fun hh => hk hh.symm)]

/-- The call of String. -/
theorem bStr_sound {i T E : Nat} {M : Mem} {l : List AV} {vs : List Value} {r : AV} (hB : StOk P i T E) (hM : MRel M γ w) (hargs : Pw (VRel γ) l vs) (h : bStr T E l M = some r) :
    Go.Calls P i vs.toArray w fun e w' => ∃ v, e = .returned v ∧ VRel γ r v ∧ MRel M γ w' ∧ Stp own M γ w M γ w' := by
  unfold bStr at h
  split at h
  · rename_i p
    obtain ⟨r1, m1, rfl, hp, hl1⟩ := hargs.of_cons
    have := hl1.of_nil
    subst this
    obtain ⟨q, rfl, hq⟩ := hp.ptr_inv
    split at h
    · rename_i T' buf rw_ hget
      split at h
      · rename_i hb
        obtain ⟨b1, b2⟩ := hb
        subst b1
        obtain ⟨g, hent, hg, hcr, hsz, hgs⟩ := get_rel hM hget
        obtain ⟨p0, v0, hheap, e1, e2, e3, e4, e5, e6⟩ := hcr
        have hqe := ptr_here hq hg hgs
        rw [e3, b2] at hqe
        subst hqe
        split at h
        · rename_i n0 e0
          cases h
          obtain ⟨_, er⟩ := (VRel.sc e5).nilslice_inv
          subst er
          refine (hB.nil w g.b p0 hheap).mono ?_
          rintro e w' ⟨rfl, d, rfl⟩
          exact ⟨_, rfl, .sc (.str ⟨#[]⟩), hM.drawn d, stp_drawn d⟩
        · rename_i a n e0
          split at h
          · rename_i E' c hget2
            split at h
            · rename_i hb2
              obtain ⟨c1, c2, c3, c4, c5, c6⟩ := hb2
              subst c1; subst c2; subst c4
              cases h
              obtain ⟨r2, cap, er, hl⟩ := (VRel.sc e5).slice_inv
              subst er
              obtain ⟨g2, hent2, hg2, hcr2, hsz2, hgs2⟩ := get_rel hM hget2
              obtain ⟨cs, lo, hi', hheap2, f1, f2, f3, f4, f5, f6⟩ := hcr2
              have hcap : 0 < cap := by have := hl.1; omega
              obtain ⟨ep, hfit⟩ := slice_here hl hg2 hgs2 hcap
              rw [f3, c3] at ep hfit
              subst ep
              have hne : g2.b ≠ g.b := by
                intro hh
                obtain ⟨q1, q2⟩ := hM.inj _ _ _ _ _ _ g2 g hent2 rfl hent hg2 hg hh
                rw [q1, q2] at hent2
                rw [hent] at hent2; cases hent2
              have hl1' := hl.1
              have hcne : c ≠ [] := by intro hh; rw [hh] at c5; simp at c5
              refine (hB.full w g.b p0 c g2.b cap cs (lo, hi') hheap hne hheap2 hcne hl1' (by omega) c6 f6).mono ?_
              rintro e w' ⟨rfl, d, rfl⟩
              obtain ⟨⟨lo2, hi2, z1, z2⟩, z3, z4⟩ := freeze_heap (w := { w with drawn := d }) (n := c.length) (by omega) hheap2
              have hdr := hM.drawn d
              have hos : ((({ w with drawn := d } : World).freeze ⟨g2.b, 0, none⟩ c.length).os = w.os) ∧ ((({ w with drawn := d } : World).freeze ⟨g2.b, 0, none⟩ c.length).tape = w.tape) ∧ ((({ w with drawn := d } : World).freeze ⟨g2.b, 0, none⟩ c.length).output = w.output) := by
                unfold World.freeze
                rw [if_neg (by omega)]
                exact ⟨rfl, rfl, rfl⟩
              obtain ⟨k1, k2⟩ := upd_step (own := own) (w' := ({ w with drawn := d } : World).freeze ⟨g2.b, 0, none⟩ c.length) (c' := .buf E' c true) (g' := g2) hM hent2 rfl hg2 hos.1 hos.2.1 hos.2.2 (by rw [z4]; exact Nat.le_refl _)
                (fun b _ hb => z3 b hb) (.inl rfl) (by rw [z4]; exact (hM.bnd _ _ _ hg2).1) (Nat.le_refl _) (fun _ => rfl) (hM.bnd _ _ _ hg2).2 rfl (fun γ' hx => ⟨cs, lo2, hi2, z1, f1, f2, f3, f4, z2 f5, f6⟩)
              rw [put_same hent2, addG_same hg2] at k1 k2
              exact ⟨_, rfl, .sc (.str ⟨c.toArray⟩), k1, k2⟩
            · cases h
          · cases h
        · cases h
      · cases h
    · cases h
  · cases h

end

end Go.Det

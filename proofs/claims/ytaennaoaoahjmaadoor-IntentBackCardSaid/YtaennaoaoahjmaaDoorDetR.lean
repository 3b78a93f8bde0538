/-
  DET, part R: a call's arguments, as a row reads them, in abstract memory.
-/
import Derived.Test.YtaennaoaoahjmaaDoorDetM
import Derived.ProofKit
import Derived.HandedShaped
import Derived.Below
import Derived.Carry
import Derived.OpenShut
import Derived.SizedLaws
set_option linter.unusedSimpArgs false
set_option linter.unusedVariables false
namespace Go.Det

inductive Ty where
  | int (k : IntKind)
  | bool
  | str
  | arr (n : Nat) (e : Ty)
  | st (fs : List Ty)
  | sl (e : Ty)

mutual
def Ty.size : Ty → Nat
  | .arr n e => n * e.size
  | .st fs => Ty.sizes fs
  | _ => 1
def Ty.sizes : List Ty → Nat
  | [] => 0
  | y :: l => y.size + Ty.sizes l
end

mutual
/-- Is it such a type? -/
def tyOk (P : Program) (t : TypeId) : Ty → Bool
  | .int k => match P.underlying t with | some (.int k') => decide (k' = k) | _ => false
  | .bool => match P.underlying t with | some .bool => true | _ => false
  | .str => match P.underlying t with | some .string => true | _ => false
  | .arr n e => match P.underlying t with | some (.array m u) => decide (m = n) && tyOk P u e && decide (P.cellsOf u = e.size) && decide (P.cellsOf t = n * e.size) | _ => false
  | .st fs => match P.underlying t with | some (.struct l) => tysOk P 0 l.toList fs && decide (P.cellsOf t = Ty.sizes fs) | _ => false
  | .sl e => match P.underlying t with | some (.slice u) => tyOk P u e && decide (P.cellsOf u = e.size) && decide (0 < e.size) && decide (0 < P.bytesOf u) | _ => false
def tysOk (P : Program) (off : Nat) : List Field → List Ty → Bool
  | [], [] => true
  | f :: l, y :: ys => decide (f.offset = off) && tyOk P f.type y && decide (P.cellsOf f.type = y.size) && tysOk P (off + y.size) l ys
  | _, _ => false
end

/- What the cells of such a type look like, over memory. -/
mutual
def Shp (s : Scope) : Ty → List AV → Prop
  | .int k, l => ∃ n, l = [.int k n] ∧ (Lit.int k n).wf = true
  | .bool, l => ∃ b, l = [.bool b]
  | .str, l => ∃ t, l = [.str t] ∧ t.length ≤ reachBytes
  | .arr n e, l => ∃ ls : List (List AV), ls.length = n ∧ l = ls.flatten ∧ ∀ x ∈ ls, Shp s e x
  | .st fs, l => Shps s fs l
  | .sl e, l => l = [.slice none 0 e.size] ∨ l = [.slice0 e.size] ∨ ∃ (id : Nat) (ls : List (List AV)) (fl : Bool),
      l = [.slice (some ⟨1, id, ls.flatten.length, 0⟩) ls.length e.size] ∧ s id = some (.cells ls.flatten false fl) ∧ ls.length ≤ reachBytes ∧ ∀ x ∈ ls, Shp s e x
def Shps (s : Scope) : List Ty → List AV → Prop
  | [], l => l = []
  | y :: ys, l => ∃ a b, l = a ++ b ∧ Shp s y a ∧ Shps s ys b
end

/-- Blocks by their numbers. -/
def scB (B : List (Con × G)) : Scope := fun j => (B[j]?).map (·.1)
def gamB (z : Nat → Option G) (B : List (Con × G)) : Gam := fun e id => if e = 1 then (B[id]?).map (·.2) else if e = 0 then z id else none

def Blocks (z : Nat → Option G) (w : World) (B : List (Con × G)) : Prop :=
  ∀ (i : Nat) (c : Con) (g : G), B[i]? = some (c, g) → (∀ m, CRel (gamB z (B ++ m)) 1 c g w) ∧ c.rw = false ∧ g.b < w.heap.size ∧ g.o + g.s ≤ g.r

theorem mapM_some {α β : Type} {f : α → Option β} : ∀ {l : List α} {ys : List β}, l.mapM f = some ys → ys.length = l.length ∧ ∀ (i : Nat) x, l[i]? = some x → ∃ y, ys[i]? = some y ∧ f x = some y
  | [], ys, h => by
    simp at h
    subst h
    exact ⟨rfl, fun i x h => by simp at h⟩
  | a :: l, ys, h => by
    rw [List.mapM_cons] at h
    cases hf : f a with
    | none => rw [hf] at h; simp at h
    | some b =>
      rw [hf] at h
      cases hm : l.mapM f with
      | none => rw [hm] at h; simp at h
      | some bs =>
        rw [hm] at h
        simp at h
        subst h
        obtain ⟨h1, h2⟩ := mapM_some hm
        refine ⟨by simp [h1], fun i x hi => ?_⟩
        cases i with
        | zero => simp at hi; subst hi; exact ⟨b, rfl, hf⟩
        | succ i => simp only [List.getElem?_cons_succ] at hi ⊢; exact h2 i x hi

theorem cells_some {w : World} {a : Addr} {n : Nat} {cs : List Value} (h : w.cells? 0 a n = some cs) : cs.length = n ∧ ∀ i, i < n → ∃ v, cs[i]? = some v ∧ w.cell? (a.add i) = some v := by
  simp only [World.cells?, Nat.zero_le, if_true] at h
  obtain ⟨h1, h2⟩ := mapM_some h
  refine ⟨by simpa using h1, fun i hi => ?_⟩
  exact h2 i i (by rw [List.getElem?_range hi])

theorem cell_row {w : World} {a : Addr} {v : Value} (h : w.cell? a = some v) : a.spot = none ∧ ∃ cs t fz, w.heap[a.block]? = some (.cells cs t fz) ∧ cs[a.off]? = some v := by
  unfold World.cell? at h
  split at h
  · rename_i cs t fz hh
    split at h
    · cases h
    · rename_i hs
      refine ⟨?_, cs, t, fz, hh, h⟩
      cases hsp : a.spot with
      | none => rfl
      | some x => rw [hsp] at hs; simp at hs
  · cases h

section
variable {H : Type} {enc : TypeId × Value → H} {P : Program} {w : World} {z : Nat → Option G}

/-- No part weighs more than may be. -/
def Lt (P : Program) (t : TypeId) (d : DataW H) : Prop := ∀ n ∈ d.weights P t, n ≤ reachBytes

theorem Lt.all {e : TypeId} : ∀ {l : List (DataW H)}, (∀ n ∈ DataW.weightsAll P e l, n ≤ reachBytes) → ∀ d ∈ l, Lt P e d
  | [], _, d, hd => by simp at hd
  | x :: l, h, d, hd => by
    simp only [DataW.weightsAll, List.mem_append] at h
    rcases List.mem_cons.1 hd with rfl | hd
    · exact fun n hn => h n (.inl hn)
    · exact Lt.all (fun n hn => h n (.inr hn)) d hd

/-- What opening comes to: further blocks, the abstract cells. -/
def Opens (z : Nat → Option G) (w : World) (y : Ty) (cs : List Value) (B : List (Con × G)) : Prop :=
  ∃ (l : List AV) (m : List (Con × G)), Blocks z w (B ++ m) ∧ l.length = y.size ∧ (∀ m', Pw (SRel (gamB z (B ++ m ++ m'))) l cs) ∧ ∀ m', Shp (scB (B ++ m ++ m')) y l

theorem Opens.plain {y : Ty} {c : Value} {v : AV} {B : List (Con × G)} (hB : Blocks z w B) (hy : y.size = 1) (hv : ∀ γ, SRel γ v c) (hs : ∀ s, Shp s y [v]) : Opens z w y [c] B :=
  ⟨[v], [], by simpa using hB, by simp [hy], fun m' => Pw.cons (hv _) Pw.nil, fun m' => hs _⟩

/-- Many, one behind the other. -/
theorem opens_list {y : Ty} {f : List Value → Prop} (hf : ∀ cs B, f cs → Blocks z w B → Opens z w y cs B) : ∀ (css : List (List Value)) (B : List (Con × G)), (∀ cs ∈ css, f cs) → Blocks z w B →
    ∃ (ls : List (List AV)) (m : List (Con × G)), Blocks z w (B ++ m) ∧ ls.length = css.length ∧ (∀ x ∈ ls, x.length = y.size) ∧ (∀ m', Pw (SRel (gamB z (B ++ m ++ m'))) ls.flatten css.flatten) ∧ ∀ m', ∀ x ∈ ls, Shp (scB (B ++ m ++ m')) y x
  | [], B, _, hB => ⟨[], [], by simpa using hB, rfl, by simp, fun m' => Pw.nil, by simp⟩
  | cs :: css, B, h, hB => by
    obtain ⟨l, m, h1, h2, h3, h4⟩ := hf cs B (h cs (by simp)) hB
    obtain ⟨ls, m2, k1, k2, k3, k4, k5⟩ := opens_list hf css (B ++ m) (fun c hc => h c (by simp [hc])) h1
    refine ⟨l :: ls, m ++ m2, by rw [← List.append_assoc]; exact k1, by simp [k2], ?_, fun m' => ?_, fun m' x hx => ?_⟩
    · intro x hx
      rcases List.mem_cons.1 hx with rfl | hx
      · exact h2
      · exact k3 x hx
    · simp only [List.flatten_cons]
      refine Pw.append ?_ ?_
      · have := h3 (m2 ++ m'); simpa [List.append_assoc] using this
      · have := k4 m'; simpa [List.append_assoc] using this
    · rcases List.mem_cons.1 hx with rfl | hx
      · have := h4 (m2 ++ m'); simpa [List.append_assoc] using this
      · have := k5 m' x hx; simpa [List.append_assoc] using this

theorem flatten_len {α : Type} {ls : List (List α)} {k : Nat} (h : ∀ x ∈ ls, x.length = k) : ls.flatten.length = ls.length * k := by
  induction ls with
  | nil => simp
  | cons l ls ih =>
    simp only [List.flatten_cons, List.length_append, List.length_cons, h l (by simp), ih fun x hx => h x (by simp [hx]), Nat.add_mul, Nat.one_mul]
    omega

theorem flatten_get {α : Type} {ls : List (List α)} {k : Nat} (h : ∀ x ∈ ls, x.length = k) {i r : Nat} {x : List α} (hi : ls[i]? = some x) (hr : r < k) : ls.flatten[i * k + r]? = x[r]? := by
  induction ls generalizing i with
  | nil => simp at hi
  | cons l ls ih =>
    have hl := h l (by simp)
    simp only [List.flatten_cons]
    cases i with
    | zero =>
      simp at hi
      subst hi
      rw [Nat.zero_mul, Nat.zero_add, List.getElem?_append_left (by omega)]
    | succ i =>
      simp only [List.getElem?_cons_succ] at hi
      rw [List.getElem?_append_right (by rw [hl, Nat.add_mul]; omega), ← ih (fun x hx => h x (by simp [hx])) hi]
      congr 1
      rw [hl, Nat.add_mul]; omega

/-- A slice's row, out of its elements' cells. -/
theorem slice_row {a : Addr} {k n : Nat} {css : List (List Value)} (hk : 0 < k) (hn : 0 < n) (hlen : css.length = n) (hcs : ∀ i x, css[i]? = some x → w.cells? 0 (a.add (i * k)) k = some x) :
    a.spot = none ∧ ∃ row t fz, w.heap[a.block]? = some (.cells row t fz) ∧ a.off + n * k ≤ row.size ∧ ∀ j v, css.flatten[j]? = some v → row[a.off + j]? = some v := by
  have hel : ∀ x ∈ css, x.length = k := fun x hx => by
    obtain ⟨i, hi⟩ := List.getElem?_of_mem hx
    exact (cells_some (hcs i x hi)).1
  obtain ⟨x0, hx0⟩ : ∃ x, css[0]? = some x := ⟨css[0]'(by omega), List.getElem?_eq_getElem (by omega)⟩
  obtain ⟨v0, _, hv0⟩ := (cells_some (hcs 0 x0 hx0)).2 0 hk
  have ha0 : (a.add (0 * k)).add 0 = a := by simp [Addr.add]
  rw [ha0] at hv0
  obtain ⟨hsp, row, t, fz, hrow, _⟩ := cell_row hv0
  have hadd : ∀ i r, (a.add (i * k)).add r = ⟨a.block, a.off + i * k + r, none⟩ := fun i r => by
    rw [add_off _ _ (by rw [add_off _ _ hsp]), add_off _ _ hsp]
  have hget : ∀ i r, i < n → r < k → ∃ v, css.flatten[i * k + r]? = some v ∧ row[a.off + i * k + r]? = some v := fun i r hi hr => by
    have hx : css[i]? = some (css[i]'(by omega)) := List.getElem?_eq_getElem (by omega)
    obtain ⟨v, h1, h2⟩ := (cells_some (hcs i _ hx)).2 r hr
    rw [hadd] at h2
    obtain ⟨_, row2, t2, fz2, hrow2, h3⟩ := cell_row h2
    simp only at hrow2 h3
    rw [hrow] at hrow2
    cases hrow2
    exact ⟨v, by rw [flatten_get hel hx hr]; exact h1, h3⟩
  refine ⟨hsp, row, t, fz, hrow, ?_, fun j v hj => ?_⟩
  · obtain ⟨v, _, h2⟩ := hget (n - 1) (k - 1) (by omega) (by omega)
    have := (Array.getElem?_eq_some_iff.1 h2).1
    have e : (n - 1) * k + k = n * k := by
      have : n = (n - 1) + 1 := by omega
      conv => rhs; rw [this]
      rw [Nat.add_mul]; omega
    omega
  · have hjl := (List.getElem?_eq_some_iff.1 hj).1
    rw [flatten_len hel, hlen] at hjl
    have hq : j / k < n := Nat.div_lt_of_lt_mul (by rw [Nat.mul_comm]; exact hjl)
    obtain ⟨v', h1, h2⟩ := hget (j / k) (j % k) hq (Nat.mod_lt _ hk)
    have e : j / k * k + j % k = j := by rw [Nat.mul_comm]; exact Nat.div_add_mod j k
    rw [e, hj] at h1
    cases h1
    rw [Nat.add_assoc, e] at h2
    exact h2

theorem gamB_dom (z : Nat → Option G) (B : List (Con × G)) (e i : Nat) (h : gamB z B e i ≠ none) : e < 2 := by
  unfold gamB at h
  split at h
  · omega
  · split at h
    · omega
    · exact absurd rfl h

theorem fields_open {fuel : Nat} (ih : ∀ (y : Ty) (t : TypeId) (cs : List Value) (d : DataW H) (ps : List MemPlace) (B : List (Con × G)), tyOk P t y = true → DataW.trod enc P w 0 (fun _ => true) true fuel t cs = some (d, ps) → Lt P t d → Blocks z w B → Opens z w y cs B) :
    ∀ (fl : List Field) (ys : List Ty) (off : Nat) (cs : List Value) (B : List (Con × G)), tysOk P off fl ys = true → cs.length = off + Ty.sizes ys →
      (∀ f ∈ fl, ∃ x, DataW.trod enc P w 0 (fun _ => true) true fuel f.type ((cs.drop f.offset).take (P.cellsOf f.type)) = some x ∧ Lt P f.type x.1) → Blocks z w B →
      ∃ (l : List AV) (m : List (Con × G)), Blocks z w (B ++ m) ∧ l.length = Ty.sizes ys ∧ (∀ m', Pw (SRel (gamB z (B ++ m ++ m'))) l (cs.drop off)) ∧ ∀ m', Shps (scB (B ++ m ++ m')) ys l
  | [], ys, off, cs, B, ht, hl, hm, hB => by
    cases ys with
    | nil => exact ⟨[], [], by simpa using hB, rfl, fun m' => by rw [List.drop_of_length_le (by simp [Ty.sizes] at hl; omega)]; exact Pw.nil, fun m' => by simp [Shps]⟩
    | cons y ys => simp [tysOk] at ht
  | f :: fl, ys, off, cs, B, ht, hl, hm, hB => by
    cases ys with
    | nil => simp [tysOk] at ht
    | cons y ys =>
      simp only [tysOk, Bool.and_eq_true, decide_eq_true_eq] at ht
      obtain ⟨⟨⟨h1, h2⟩, h3⟩, h4⟩ := ht
      simp only [Ty.sizes] at hl
      obtain ⟨x, hx, hwx⟩ := hm f (by simp)
      obtain ⟨l, m, k1, k2, k3, k4⟩ := ih y f.type _ x.1 x.2 B h2 hx hwx hB
      obtain ⟨l2, m2, j1, j2, j3, j4⟩ := fields_open ih fl ys (off + y.size) cs (B ++ m) h4 (by omega) (fun g hg => hm g (by simp [hg])) k1
      refine ⟨l ++ l2, m ++ m2, by rw [← List.append_assoc]; exact j1, by simp [Ty.sizes, k2, j2], fun m' => ?_, fun m' => ?_⟩
      · have e : cs.drop off = (cs.drop off).take y.size ++ cs.drop (off + y.size) := by rw [← List.drop_drop, List.take_append_drop]
        rw [e]
        rw [h1, h3] at k3
        refine Pw.append ?_ ?_
        · have := k3 (m2 ++ m'); simpa [List.append_assoc] using this
        · have := j3 m'; simpa [List.append_assoc] using this
      · refine ⟨l, l2, rfl, ?_, ?_⟩
        · have := k4 (m2 ++ m'); simpa [List.append_assoc] using this
        · have := j4 m'; simpa [List.append_assoc] using this

theorem chunks {α : Type} (k : Nat) : ∀ (n : Nat) (cs : List α), cs.length = n * k → ((List.range n).map fun i => (cs.drop (i * k)).take k).flatten = cs
  | 0, cs, h => by simp at h; simp [h]
  | n + 1, cs, h => by
    rw [Nat.add_mul, Nat.one_mul] at h
    rw [List.range_succ_eq_map, List.map_cons, List.flatten_cons, List.map_map, Nat.zero_mul, List.drop_zero]
    have e : ((fun i => (cs.drop (i * k)).take k) ∘ Nat.succ) = fun i => ((cs.drop k).drop (i * k)).take k := by
      funext i
      simp only [Function.comp, List.drop_drop]
      congr 2
      rw [Nat.succ_mul]; omega
    rw [e, chunks k n (cs.drop k) (by simp; omega), List.take_append_drop]

theorem open_cells : ∀ (fuel : Nat) (y : Ty) (t : TypeId) (cs : List Value) (d : DataW H) (ps : List MemPlace) (B : List (Con × G)), tyOk P t y = true → DataW.trod enc P w 0 (fun _ => true) true fuel t cs = some (d, ps) → Lt P t d → Blocks z w B → Opens z w y cs B := by
  intro fuel
  induction fuel with
  | zero => intro y t cs d ps B _ h; simp [DataW.trod] at h
  | succ fuel ih =>
    intro y t cs d ps B ht h hwt hB
    cases y with
    | int k =>
      simp only [tyOk] at ht
      split at ht
      · rename_i k' hu
        simp only [decide_eq_true_eq] at ht
        subst ht
        obtain ⟨n, rfl, _, hw⟩ := DataW.trod_int hu h
        exact Opens.plain hB rfl (fun γ => .int _ _) (fun s => ⟨n, rfl, hw⟩)
      · cases ht
    | bool =>
      simp only [tyOk] at ht
      split at ht
      · rename_i hu
        obtain ⟨b, rfl, _⟩ := DataW.trod_bool hu h
        exact Opens.plain hB rfl (fun γ => .bool _) (fun s => ⟨b, rfl⟩)
      · cases ht
    | str =>
      simp only [tyOk] at ht
      split at ht
      · rename_i hu
        obtain ⟨b, rfl, hd, hb⟩ := DataW.trod_string hu h
        cases hd
        exact Opens.plain hB rfl (fun γ => .str b) (fun s => ⟨b.data.toList, rfl, hwt _ (by simp [DataW.weights])⟩)
      · cases ht
    | arr n e =>
      simp only [tyOk] at ht
      split at ht
      · rename_i m u hu
        simp only [Bool.and_eq_true, decide_eq_true_eq] at ht
        obtain ⟨⟨⟨rfl, h2⟩, h3⟩, h4⟩ := ht
        obtain ⟨xs, fu, hfu, hd, hcl, hxl, hel⟩ := DataW.trod_array hu h
        cases hfu
        cases hd
        have hwa : ∀ x ∈ xs, Lt P u x.1 := fun x hx => Lt.all (fun n hn => hwt n (by simpa only [DataW.weights, hu] using hn)) x.1 (List.mem_map.2 ⟨x, hx, rfl⟩)
        rw [h4] at hcl
        rw [h3] at hel
        obtain ⟨ls, mm, k1, k2, k3, k4, k5⟩ := opens_list (y := e) (f := fun c => ∃ x, DataW.trod enc P w 0 (fun _ => true) true fuel u c = some x ∧ Lt P u x.1) (fun c B' hc hB' => by
          obtain ⟨x, hx, hwx⟩ := hc; exact ih e u c x.1 x.2 B' h2 hx hwx hB') ((List.range m).map fun i => (cs.drop (i * e.size)).take e.size) B (fun c hc => by
            obtain ⟨i, hi, rfl⟩ := List.mem_map.1 hc
            have hi' := List.mem_range.1 hi
            have hx : xs[i]? = some (xs[i]'(by omega)) := List.getElem?_eq_getElem (by omega)
            exact ⟨_, (hel i hi').trans hx, hwa _ (List.mem_of_getElem? hx)⟩) hB
        rw [chunks e.size m cs hcl] at k4
        refine ⟨ls.flatten, mm, k1, ?_, k4, fun m' => ⟨ls, by simpa using k2, rfl, k5 m'⟩⟩
        rw [flatten_len k3, k2]; simp [Ty.size]
      · cases ht
    | st fs =>
      simp only [tyOk] at ht
      split at ht
      · rename_i l hu
        simp only [Bool.and_eq_true, decide_eq_true_eq] at ht
        obtain ⟨xs, fu, hfu, hd, hcl, hxl, hel⟩ := DataW.trod_struct hu h
        cases hfu
        cases hd
        rw [ht.2] at hcl
        obtain ⟨l', m, k1, k2, k3, k4⟩ := fields_open (fuel := fuel) ih l.toList fs 0 cs B ht.1 (by omega) (fun f hf => by
          obtain ⟨i, hi⟩ := List.getElem?_of_mem hf
          rw [Array.getElem?_toList] at hi
          have hil := (Array.getElem?_eq_some_iff.1 hi).1
          have hx : xs[i]? = some (xs[i]'(by omega)) := List.getElem?_eq_getElem (by omega)
          refine ⟨_, (hel i f hi).trans hx, fun n hn => hwt n ?_⟩
          simp only [DataW.weights, hu]
          exact DataW.weights_mem_each (j := i) (t := f.type) (d := xs[i].1) (by rw [List.getElem?_map, Array.getElem?_toList, hi]; rfl) (by rw [List.getElem?_map, hx]; rfl) n hn) hB
        exact ⟨l', m, k1, k2, by simpa using k3, k4⟩
      · cases ht
    | sl e =>
      simp only [tyOk] at ht
      split at ht
      · rename_i u hu
        simp only [Bool.and_eq_true, decide_eq_true_eq] at ht
        obtain ⟨⟨⟨h2, h3⟩, h4⟩, h4b⟩ := ht
        rcases DataW.trod_slice hu h with ⟨rfl, _⟩ | ⟨a, len, cap, elems, rest, fu, hfu, rfl, hd, _, hlc, hcm, hel, he, hr, _⟩
        · exact Opens.plain hB rfl (fun γ => .slice0 _) (fun s => .inl rfl)
        · cases hfu
          cases hd
          simp only [Lt, DataW.weights, hu, List.mem_cons, List.mem_append] at hwt
          have hwe : ∀ x ∈ elems, Lt P u x.1 := fun x hx => Lt.all (fun n hn => hwt n (.inr (.inl hn))) x.1 (List.mem_map.2 ⟨x, hx, rfl⟩)
          have hwr : ∀ x ∈ rest, Lt P u x.1 := fun x hx => Lt.all (fun n hn => hwt n (.inr (.inr hn))) x.1 (List.mem_map.2 ⟨x, hx, rfl⟩)
          have hwl : len ≤ reachBytes := by
            have h5 := hwt _ (.inl rfl)
            rw [List.length_map, List.length_map, hel] at h5
            have h6 : len + rest.length ≤ (len + rest.length) * P.bytesOf u := Nat.le_mul_of_pos_right _ h4b
            omega
          obtain ⟨hrl, hr⟩ := hr rfl
          rw [h3] at he hr
          by_cases hc0 : cap = 0
          · subst hc0
            obtain rfl : len = 0 := by omega
            exact Opens.plain hB rfl (fun γ => .room0 _ _) (fun s => .inr (.inl rfl))
          · -- every element's cells
            have hall : ∀ i, i < cap → ∃ c, w.cells? 0 (a.add (i * e.size)) e.size = some c ∧ ∃ x, DataW.trod enc P w 0 (fun _ => true) true fuel u c = some x ∧ Lt P u x.1 := by
              intro i hi
              have : ∃ x, (w.cells? 0 (a.add (i * e.size)) e.size).bind (DataW.trod enc P w 0 (fun _ => true) true fuel u) = some x ∧ Lt P u x.1 := by
                by_cases hil : i < len
                · have hx : elems[i]? = some (elems[i]'(by omega)) := List.getElem?_eq_getElem (by omega)
                  exact ⟨_, (he i hil).trans hx, hwe _ (List.mem_of_getElem? hx)⟩
                · have hx : rest[i - len]? = some (rest[i - len]'(by omega)) := List.getElem?_eq_getElem (by omega)
                  have := hr (i - len) (by omega)
                  rw [show len + (i - len) = i by omega] at this
                  exact ⟨_, this.trans hx, hwr _ (List.mem_of_getElem? hx)⟩
              obtain ⟨x, hx, hwx⟩ := this
              obtain ⟨c, h5, h6⟩ := Option.bind_eq_some_iff.1 hx
              exact ⟨c, h5, x, h6, hwx⟩
            let css : List (List Value) := (List.range cap).map fun i => (w.cells? 0 (a.add (i * e.size)) e.size).getD []
            have hcg : ∀ i, i < cap → ∃ c, css[i]? = some c ∧ w.cells? 0 (a.add (i * e.size)) e.size = some c ∧ ∃ x, DataW.trod enc P w 0 (fun _ => true) true fuel u c = some x ∧ Lt P u x.1 := by
              intro i hi
              obtain ⟨c, h5, h6⟩ := hall i hi
              refine ⟨c, ?_, h5, h6⟩
              simp only [css, List.getElem?_map, List.getElem?_range hi, Option.map_some, h5, Option.getD_some]
            have hcl : css.length = cap := by simp [css]
            obtain ⟨hsp, row, ty, fz, hrow, hfit, hflat⟩ := slice_row (w := w) (a := a) (k := e.size) (n := cap) (css := css) h4 (by omega) hcl (fun i x hx => by
              have hi : i < cap := by rw [← hcl]; exact (List.getElem?_eq_some_iff.1 hx).1
              obtain ⟨c, h5, h6, _⟩ := hcg i hi
              rw [hx] at h5; cases h5; exact h6)
            obtain ⟨lo, hi'⟩ := fz
            obtain ⟨ls, mm, k1, k2, k3, k4, k5⟩ := opens_list (y := e) (f := fun c => ∃ x, DataW.trod enc P w 0 (fun _ => true) true fuel u c = some x ∧ Lt P u x.1) (fun c B' hc hB' => by
              obtain ⟨x, hx, hwx⟩ := hc; exact ih e u c x.1 x.2 B' h2 hx hwx hB') (css.take len) B (fun c hc => by
                obtain ⟨i, hi⟩ := List.getElem?_of_mem hc
                rw [List.getElem?_take] at hi
                split at hi
                · rename_i hil
                  obtain ⟨c', h5, _, h6⟩ := hcg i (by omega)
                  rw [hi] at h5; cases h5; exact h6
                · cases hi) hB
            have hlsl : ls.length = len := by rw [k2, List.length_take, hcl]; omega
            have hfl : ls.flatten.length = len * e.size := by rw [flatten_len k3, hlsl]
            have hblk : w.heap[a.block]? = some (.cells row ty (lo, hi')) := hrow
            have hbl : a.block < w.heap.size := (Array.getElem?_eq_some_iff.1 hblk).1
            have hle : len * e.size ≤ cap * e.size := Nat.mul_le_mul_right _ hlc
            -- the cells known
            have hpre : ∀ m', Pre (SRel (gamB z (B ++ mm ++ m'))) ls.flatten (row.toList.drop a.off) := by
              intro m'
              refine ⟨by rw [hfl, List.length_drop, Array.length_toList]; omega, fun j v r hv hr' => ?_⟩
              have hj : j < len * e.size := by rw [← hfl]; exact (List.getElem?_eq_some_iff.1 hv).1
              obtain ⟨r2, hr2, hrel⟩ := (k4 m').get hv
              have hct : (css.take len).flatten = css.flatten.take (len * e.size) := by
                have hel' : ∀ x ∈ css, x.length = e.size := fun x hx => by
                  obtain ⟨i, hi⟩ := List.getElem?_of_mem hx
                  have hic : i < cap := by rw [← hcl]; exact (List.getElem?_eq_some_iff.1 hi).1
                  obtain ⟨c, h5, h6, _⟩ := hcg i hic
                  rw [hi] at h5; cases h5
                  exact (cells_some h6).1
                have e1 : css.flatten = (css.take len).flatten ++ (css.drop len).flatten := by rw [← List.flatten_append, List.take_append_drop]
                have e2 : (css.take len).flatten.length = len * e.size := by
                  rw [flatten_len (fun x hx => hel' x (List.mem_of_mem_take hx)), List.length_take, hcl, Nat.min_eq_left hlc]
                rw [e1, ← e2, List.take_left]
              rw [hct, List.getElem?_take, if_pos hj] at hr2
              have h7 := hflat j r2 hr2
              rw [List.getElem?_drop, Array.getElem?_toList, h7] at hr'
              cases hr'
              exact hrel
            let g : G := ⟨a.block, ls.flatten.length, row.size, a.off⟩
            let fl : Bool := AV.unders 0 ls.flatten
            have hnew : ∀ m', CRel (gamB z (B ++ mm ++ m')) 1 (.cells ls.flatten false fl) g w := by
              intro m'
              refine ⟨row, ty, lo, hi', hblk, rfl, rfl, hpre m', (fun h => by cases h), ?_⟩
              by_cases hf : AV.unders 0 ls.flatten = true
              · simp only [fl, hf, if_true]
              · have hf' : AV.unders 0 ls.flatten = false := by simpa using hf
                simp only [fl, hf', Bool.false_eq_true, if_false]
                exact unders_of_rel (γ := gamB z (B ++ mm ++ m')) (fun e i h => gamB_dom _ _ e i h) (k4 m')
            refine ⟨[.slice (some ⟨1, (B ++ mm).length, ls.flatten.length, 0⟩) ls.length e.size], mm ++ [(.cells ls.flatten false fl, g)], ?_, rfl, fun m' => ?_, fun m' => ?_⟩
            · intro i c g' hi
              rw [← List.append_assoc] at hi
              by_cases hlt : i < (B ++ mm).length
              · rw [List.getElem?_append_left hlt] at hi
                obtain ⟨q1, q2, q3, q4⟩ := k1 i c g' hi
                refine ⟨fun m' => ?_, q2, q3, q4⟩
                have := q1 ([(.cells ls.flatten false fl, g)] ++ m')
                simpa [List.append_assoc] using this
              · have hil : i = (B ++ mm).length := by
                  have := (List.getElem?_eq_some_iff.1 hi).1
                  simp only [List.length_append, List.length_cons, List.length_nil] at this hlt ⊢
                  omega
                subst hil
                rw [List.getElem?_append_right (Nat.le_refl _), Nat.sub_self] at hi
                simp only [List.getElem?_cons_zero, Option.some.injEq, Prod.mk.injEq] at hi
                obtain ⟨rfl, rfl⟩ := hi
                refine ⟨fun m' => ?_, rfl, hbl, ?_⟩
                · have := hnew ([(.cells ls.flatten false fl, g)] ++ m')
                  simpa [List.append_assoc] using this
                · show a.off + ls.flatten.length ≤ row.size
                  omega
            · rw [hlsl]
              refine Pw.cons (.slice ⟨hlc, g, ?_, Nat.le_refl _, fun _ => ⟨rfl, hsp, fun _ => ⟨rfl, ?_⟩⟩⟩) Pw.nil
              · simp only [gamB, if_true, ← List.append_assoc]
                rw [List.getElem?_append_left (by simp), List.getElem?_append_right (Nat.le_refl _), Nat.sub_self]
                rfl
              · show a.off + 0 + cap * e.size ≤ row.size
                omega
            · refine .inr (.inr ⟨(B ++ mm).length, ls, fl, rfl, ?_, by omega, fun x hx => ?_⟩)
              · simp only [scB, ← List.append_assoc]
                rw [List.getElem?_append_left (by simp), List.getElem?_append_right (Nat.le_refl _), Nat.sub_self]
                rfl
              · have := k5 ([(.cells ls.flatten false fl, g)] ++ m') x hx
                simpa [List.append_assoc] using this
      · cases ht
end

end Go.Det

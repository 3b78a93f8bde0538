/-
  DET, part B: what abstract values and abstract memory say of the model's values and worlds.
-/
import Derived.Test.YtaennaoaoahjmaaDoorDetA
import Derived.Calls
namespace Go.Det

/-- A block that stands for an abstract one: its number, the abstract size, its size, the place of the abstract one's first cell. -/
structure G where
  b : Nat
  s : Nat
  r : Nat
  o : Nat

abbrev Gam := Nat → Nat → Option G

def PRel (γ : Gam) (a : AAddr) (r : Addr) : Prop :=
  ∃ g, γ a.dep a.id = some g ∧ a.sz ≤ g.s ∧ (a.sz = g.s → r.block = g.b ∧ r.spot = none ∧ r.off = g.o + a.off)

def LRel (γ : Gam) (a : AAddr) (n e : Nat) (r : Addr) (c : Nat) : Prop :=
  n ≤ c ∧ ∃ g, γ a.dep a.id = some g ∧ a.sz ≤ g.s ∧ (a.sz = g.s → r.block = g.b ∧ r.spot = none ∧ (0 < c → r.off = g.o + a.off ∧ g.o + a.off + c * e ≤ g.r))

def MPRel (γ : Gam) (a : AAddr) (r : Nat) : Prop := ∃ g, γ a.dep a.id = some g ∧ a.sz ≤ g.s ∧ (a.sz = g.s → r = g.b)

inductive SRel (γ : Gam) : AV → Value → Prop
  | bool (b : Bool) : SRel γ (.bool b) (.bool b)
  | int (k : IntKind) (n : Int) : SRel γ (.int k n) (.int k n)
  | str (s : ByteArray) : SRel γ (.str s.data.toList) (.string s)
  | ptr0 : SRel γ (.ptr none) (.pointer none)
  | ptr {a r} (h : PRel γ a r) : SRel γ (.ptr (some a)) (.pointer (some r))
  | slice0 (e : Nat) : SRel γ (.slice none 0 e) (.slice none 0 0)
  | slice {a n e r c} (h : LRel γ a n e r c) : SRel γ (.slice (some a) n e) (.slice (some r) n c)
  | room0 (e : Nat) (r : Addr) : SRel γ (.slice0 e) (.slice (some r) 0 0)
  | map0 : SRel γ (.map none) (.map none)
  | map {a r} (h : MPRel γ a r) : SRel γ (.map (some a)) (.map (some r))
  | func (f : Nat) {l m : List AV} {l' m' : List Value} (hl : l.length = l'.length) (hm : m.length = m'.length)
      (pl : ∀ (i : Nat) (v : AV) (r : Value), l[i]? = some v → l'[i]? = some r → SRel γ v r) (pm : ∀ (i : Nat) (v : AV) (r : Value), m[i]? = some v → m'[i]? = some r → SRel γ v r) :
      SRel γ (.func f l m) (.func (.func f) l'.toArray m'.toArray)
  | nilFunc : SRel γ .nilFunc .nilFunc

/-- Lists whose members stand to each other, one by one. -/
def Pw (R : AV → Value → Prop) (l : List AV) (l' : List Value) : Prop :=
  l.length = l'.length ∧ ∀ (i : Nat) (v : AV) (r : Value), l[i]? = some v → l'[i]? = some r → R v r

/-- What an aggregate's cells, or a scalar, are. -/
inductive WRel (γ : Gam) : AV → Value → Prop
  | sc {v r} (h : SRel γ v r) : WRel γ v r
  | agg {l : List AV} {l' : List Value} (h : Pw (SRel γ) l l') : WRel γ (.agg l) (.agg l'.toArray)

inductive VRel (γ : Gam) : AV → Value → Prop
  | sc {v r} (h : SRel γ v r) : VRel γ v r
  | agg {l : List AV} {l' : List Value} (h : Pw (SRel γ) l l') : VRel γ (.agg l) (.agg l'.toArray)
  | tuple {l : List AV} {l' : List Value} (h : Pw (WRel γ) l l') : VRel γ (.tuple l) (.tuple l'.toArray)
  | dead (r : Value) : VRel γ .dead r

theorem Pw.mono {R S : AV → Value → Prop} {l : List AV} {l' : List Value} (h : Pw R l l') (hs : ∀ v r, R v r → S v r) : Pw S l l' :=
  ⟨h.1, fun i v r a b => hs _ _ (h.2 i v r a b)⟩

theorem Pw.nil {R : AV → Value → Prop} : Pw R [] [] := ⟨rfl, fun i v r h => by simp at h⟩

theorem Pw.cons {R : AV → Value → Prop} {v : AV} {r : Value} {l : List AV} {l' : List Value} (h : R v r) (hl : Pw R l l') : Pw R (v :: l) (r :: l') := by
  refine ⟨by simp [hl.1], fun i x y hx hy => ?_⟩
  cases i with
  | zero => simp at hx hy; subst hx; subst hy; exact h
  | succ i => simp at hx hy; exact hl.2 i x y hx hy

theorem Pw.of_cons {R : AV → Value → Prop} {v : AV} {l : List AV} {l' : List Value} (h : Pw R (v :: l) l') : ∃ r m, l' = r :: m ∧ R v r ∧ Pw R l m := by
  cases l' with
  | nil => exact absurd h.1 (by simp)
  | cons r m => exact ⟨r, m, rfl, h.2 0 v r rfl rfl, by simpa using h.1, fun i x y hx hy => h.2 (i + 1) x y (by simpa using hx) (by simpa using hy)⟩

theorem Pw.of_nil {R : AV → Value → Prop} {l' : List Value} (h : Pw R [] l') : l' = [] := by
  cases l' with
  | nil => rfl
  | cons r m => exact absurd h.1 (by simp)

theorem Pw.append {R : AV → Value → Prop} {l m : List AV} {l' m' : List Value} (h : Pw R l l') (k : Pw R m m') : Pw R (l ++ m) (l' ++ m') := by
  refine ⟨by simp [h.1, k.1], fun i v r hv hr => ?_⟩
  rw [List.getElem?_append] at hv hr
  rw [← h.1] at hr
  split at hv
  · rename_i hi; rw [if_pos hi] at hr; exact h.2 _ _ _ hv hr
  · rename_i hi; rw [if_neg hi] at hr; exact k.2 _ _ _ hv hr

theorem Pw.get {R : AV → Value → Prop} {l : List AV} {l' : List Value} (h : Pw R l l') {i : Nat} {v : AV} (hv : l[i]? = some v) : ∃ r, l'[i]? = some r ∧ R v r := by
  have hi : i < l.length := (List.getElem?_eq_some_iff.1 hv).1
  have hi' : i < l'.length := h.1 ▸ hi
  exact ⟨l'[i], List.getElem?_eq_getElem hi', h.2 i v _ hv (List.getElem?_eq_getElem hi')⟩

theorem Pw.take {R : AV → Value → Prop} {l : List AV} {l' : List Value} (h : Pw R l l') (n : Nat) : Pw R (l.take n) (l'.take n) := by
  refine ⟨by simp [h.1], fun i v r hv hr => ?_⟩
  rw [List.getElem?_take] at hv hr
  split at hv
  · rename_i hi; rw [if_pos hi] at hr; exact h.2 _ _ _ hv hr
  · cases hv

theorem Pw.drop {R : AV → Value → Prop} {l : List AV} {l' : List Value} (h : Pw R l l') (n : Nat) : Pw R (l.drop n) (l'.drop n) := by
  refine ⟨by simp [h.1], fun i v r hv hr => ?_⟩
  rw [List.getElem?_drop] at hv hr
  exact h.2 _ _ _ hv hr

theorem Pw.set {R : AV → Value → Prop} {l : List AV} {l' : List Value} (h : Pw R l l') {v : AV} {r : Value} (hv : R v r) (n : Nat) : Pw R (l.set n v) (l'.set n r) := by
  refine ⟨by simp [h.1], fun i x y hx hy => ?_⟩
  rw [List.getElem?_set] at hx hy
  rw [← h.1] at hy
  split at hx
  · rename_i hi
    rw [if_pos hi] at hy
    split at hx
    · rename_i hn; rw [if_pos hn] at hy; cases hx; cases hy; exact hv
    · cases hx
  · rename_i hi; rw [if_neg hi] at hy; exact h.2 _ _ _ hx hy

/-- Cells with room behind them: the first ones are known. -/
def Pre (R : AV → Value → Prop) (l : List AV) (l' : List Value) : Prop :=
  l.length ≤ l'.length ∧ ∀ (i : Nat) (v : AV) (r : Value), l[i]? = some v → l'[i]? = some r → R v r

theorem Pw.pre {R : AV → Value → Prop} {l : List AV} {l' : List Value} (h : Pw R l l') : Pre R l l' := ⟨Nat.le_of_eq h.1, h.2⟩

theorem Pre.mono {R S : AV → Value → Prop} {l : List AV} {l' : List Value} (h : Pre R l l') (hs : ∀ v r, R v r → S v r) : Pre S l l' :=
  ⟨h.1, fun i v r a b => hs _ _ (h.2 i v r a b)⟩

theorem Pre.get {R : AV → Value → Prop} {l : List AV} {l' : List Value} (h : Pre R l l') {i : Nat} {v : AV} (hv : l[i]? = some v) : ∃ r, l'[i]? = some r ∧ R v r := by
  have hi : i < l.length := (List.getElem?_eq_some_iff.1 hv).1
  have hi' : i < l'.length := Nat.lt_of_lt_of_le hi h.1
  exact ⟨l'[i], List.getElem?_eq_getElem hi', h.2 i v _ hv (List.getElem?_eq_getElem hi')⟩

theorem Pre.slice {R : AV → Value → Prop} {l : List AV} {l' : List Value} (h : Pre R l l') (o n : Nat) (hn : o + n ≤ l.length) : Pw R ((l.drop o).take n) ((l'.drop o).take n) := by
  have h1 := h.1
  refine ⟨by simp; omega, fun i v r hv hr => ?_⟩
  rw [List.getElem?_take] at hv hr
  split at hv
  · rename_i hi
    rw [if_pos hi] at hr
    rw [List.getElem?_drop] at hv hr
    exact h.2 _ _ _ hv hr
  · cases hv

theorem Pre.set {R : AV → Value → Prop} {l : List AV} {l' : List Value} (h : Pre R l l') {v : AV} {r : Value} (hv : R v r) (n : Nat) (hn : n < l.length) : Pre R (l.set n v) (l'.set n r) := by
  refine ⟨by simp [h.1], fun i x y hx hy => ?_⟩
  have h1 := h.1
  rw [List.getElem?_set] at hx hy
  by_cases hi : n = i
  · subst hi
    rw [if_pos rfl, if_pos (by omega)] at hx hy
    cases hx; cases hy; exact hv
  · rw [if_neg hi] at hx hy
    exact h.2 _ _ _ hx hy

/-- Cells from place o on are written over. -/
def over (l' : List Value) (o : Nat) (m : List Value) : List Value := l'.take o ++ m ++ l'.drop (o + m.length)

theorem over_length {l' m : List Value} {o : Nat} (h : o + m.length ≤ l'.length) : (over l' o m).length = l'.length := by
  simp [over]; omega

theorem Pre.over {R : AV → Value → Prop} {l : List AV} {l' : List Value} (h : Pre R l l') {c : List AV} {m : List Value} (hc : Pw R c m) (o : Nat) (hn : o + c.length ≤ l.length) :
    Pre R (l.take o ++ c ++ l.drop (o + c.length)) (Det.over l' o m) := by
  have h1 := h.1
  have hc1 := hc.1
  refine ⟨by simp [Det.over]; omega, fun i x y hx hy => ?_⟩
  unfold Det.over at hy
  rw [List.append_assoc, List.getElem?_append] at hx hy
  have e1 : (l.take o).length = o := by simp; omega
  have e2 : (l'.take o).length = o := by simp; omega
  rw [e1] at hx; rw [e2] at hy
  split at hx
  · rename_i hi
    rw [if_pos hi] at hy
    rw [List.getElem?_take, if_pos hi] at hx hy
    exact h.2 _ _ _ hx hy
  · rename_i hi
    rw [if_neg hi] at hy
    rw [List.getElem?_append] at hx hy
    rw [← hc1] at hy
    split at hx
    · rename_i hj; rw [if_pos hj] at hy; exact hc.2 _ _ _ hx hy
    · rename_i hj
      rw [if_neg hj] at hy
      rw [List.getElem?_drop] at hx hy
      exact h.2 _ _ _ hx hy

/-- Cells appended where there is room for them. -/
theorem Pre.grow {R : AV → Value → Prop} {l : List AV} {l' : List Value} (h : Pre R l l') {c : List AV} {m : List Value} (hc : Pw R c m) (hn : l.length + c.length ≤ l'.length) :
    Pre R (l ++ c) (Det.over l' l.length m) := by
  have h1 := h.1
  have hc1 := hc.1
  refine ⟨by simp [Det.over]; omega, fun i x y hx hy => ?_⟩
  unfold Det.over at hy
  rw [List.append_assoc, List.getElem?_append] at hy
  rw [List.getElem?_append] at hx
  have e2 : (l'.take l.length).length = l.length := by simp; omega
  rw [e2] at hy
  split at hx
  · rename_i hi
    rw [if_pos hi] at hy
    rw [List.getElem?_take, if_pos hi] at hy
    exact h.2 _ _ _ hx hy
  · rename_i hi
    rw [if_neg hi] at hy
    rw [List.getElem?_append] at hy
    rw [← hc1] at hy
    rw [if_pos (List.getElem?_eq_some_iff.1 hx).1] at hy
    exact hc.2 _ _ _ hx hy

/-! ### worlds -/

/-- A block and its abstract one, which belongs to depth e. -/
def CRel (γ : Gam) (e : Nat) (c : Con) (g : G) (w : World) : Prop :=
  match c with
  | .cells c rw fl => ∃ cs t lo hi, w.heap[g.b]? = some (.cells cs t (lo, hi)) ∧ g.s = c.length ∧ g.r = cs.size ∧ Pre (SRel γ) c (cs.toList.drop g.o) ∧
      (rw = true → g.o = 0 ∧ ∀ i, i < cs.size → ¬ (lo ≤ i ∧ i < hi)) ∧ AV.unders (if fl then 0 else e + 1) c = true
  | .map es _ => ∃ es' clk, w.heap[g.b]? = some (.map es' clk) ∧ g.s = 0 ∧ es.length = es'.size ∧
      ∀ (i : Nat) k v x, es[i]? = some (k, v) → es'[i]? = some x → SRel γ k x.key ∧ SRel γ v x.val ∧ AV.under 0 k = true ∧ AV.under 0 v = true
  | .bld T b _ => ∃ p v, w.heap[g.b]? = some (.cells #[p, v] T (0, 0)) ∧ g.s = 2 ∧ g.r = 2 ∧ g.o = 0 ∧ (p = .pointer none ∨ p = .pointer (some ⟨g.b, 0, none⟩)) ∧ SRel γ b v ∧ AV.under (e + 1) b = true
  | .buf E s _ => ∃ cs lo hi, w.heap[g.b]? = some (.cells cs E (lo, hi)) ∧ g.s = s.length ∧ g.r = cs.size ∧ g.o = 0 ∧ s.length ≤ cs.size ∧ hi ≤ s.length ∧ cs.toList.take s.length = s.map fun x => Value.int .u8 x.toNat

structure MRel (M : Mem) (γ : Gam) (w : World) : Prop where
  ent : ∀ e id c, Det.ent M e id = some c → ∃ g, γ e id = some g ∧ CRel γ e c g w
  inj : ∀ e id c e' id' c' g g', Det.ent M e id = some c → c.rw = true → Det.ent M e' id' = some c' → γ e id = some g → γ e' id' = some g' → g.b = g'.b → e = e' ∧ id = id'
  bnd : ∀ e id g, γ e id = some g → g.b < w.heap.size ∧ g.o + g.s ≤ g.r

/-- What may become of a world, and of what stands for it. 'own': the abstract blocks that may be new. -/
structure Stp (own : Nat → Nat → Prop) (M : Mem) (γ : Gam) (w : World) (M' : Mem) (γ' : Gam) (w' : World) : Prop where
  os : w'.os = w.os
  tape : w'.tape = w.tape
  output : w'.output = w.output
  size : w.heap.size ≤ w'.heap.size
  frame : ∀ b, b < w.heap.size → (∀ e id c g, Det.ent M e id = some c → c.rw = true → γ e id = some g → g.b ≠ b) → w'.heap[b]? = w.heap[b]?
  ext : ∀ e id g, γ e id = some g → ∃ g', γ' e id = some g' ∧ g.s ≤ g'.s ∧ (g.s = g'.s → g' = g)
  hid : ∀ e id, Det.ent M e id = none → γ e id ≠ none → γ' e id = γ e id
  keep : ∀ e id c, Det.ent M e id = some c → c.rw = false → γ' e id = γ e id ∧ Det.ent M' e id = some c
  fresh : ∀ e id g', γ' e id = some g' → (∃ g, γ e id = some g ∧ g.b = g'.b) ∨ w.heap.size ≤ g'.b
  len : M'.length = M.length
  dom : ∀ e id, Det.ent M' e id ≠ none → Det.ent M e id ≠ none ∨ γ e id = none
  rwk : ∀ e id c, Det.ent M e id = some c → ∃ c', Det.ent M' e id = some c' ∧ (c'.rw = true → c.rw = true)
  new : ∀ e id, γ e id = none → γ' e id ≠ none → own e id
  newE : ∀ e id, Det.ent M e id = none → Det.ent M' e id ≠ none → own e id
  newM : ∀ e id, γ e id = none → γ' e id ≠ none → Det.ent M' e id ≠ none

theorem Stp.refl (own : Nat → Nat → Prop) (M : Mem) (γ : Gam) (w : World) : Stp own M γ w M γ w :=
  ⟨rfl, rfl, rfl, Nat.le_refl _, fun _ _ _ => rfl, fun _ _ g h => ⟨g, h, Nat.le_refl _, fun _ => rfl⟩, fun _ _ _ _ => rfl, fun _ _ _ h _ => ⟨rfl, h⟩,
    fun _ _ g h => .inl ⟨g, h, rfl⟩, rfl, fun _ _ h => .inl h, fun _ _ c h => ⟨c, h, fun x => x⟩, fun _ _ h h' => absurd h h', fun _ _ h h' => absurd h h', fun _ _ h h' => absurd h h'⟩

theorem Stp.trans {own : Nat → Nat → Prop} {M M' M'' : Mem} {γ γ' γ'' : Gam} {w w' w'' : World} (h : Stp own M γ w M' γ' w') (k : Stp own M' γ' w' M'' γ'' w'') :
    Stp own M γ w M'' γ'' w'' where
  os := k.os.trans h.os
  tape := k.tape.trans h.tape
  output := k.output.trans h.output
  size := Nat.le_trans h.size k.size
  frame := by
    intro b hb hn
    rw [k.frame b (Nat.lt_of_lt_of_le hb h.size) ?_, h.frame b hb hn]
    intro e id c g' hc hrw hg' hbb
    rcases h.fresh e id g' hg' with ⟨g, hg, hgb⟩ | hle
    · rcases h.dom e id (by rw [hc]; simp) with hm | hz
      · cases hm' : Det.ent M e id with
        | none => exact hm hm'
        | some c0 =>
          obtain ⟨c1, hc1, hrw1⟩ := h.rwk e id c0 hm'
          rw [hc] at hc1
          cases hc1
          exact hn e id c0 g hm' (hrw1 hrw) hg (hgb.trans hbb)
      · rw [hz] at hg; cases hg
    · omega
  ext := by
    intro e id g hg
    obtain ⟨g', hg', hs, he⟩ := h.ext e id g hg
    obtain ⟨g'', hg'', hs', he'⟩ := k.ext e id g' hg'
    refine ⟨g'', hg'', Nat.le_trans hs hs', fun hss => ?_⟩
    have h1 : g.s = g'.s := Nat.le_antisymm hs (hss ▸ hs')
    rw [he' (h1 ▸ hss), he h1]
  hid := by
    intro e id hm hg
    have h1 := h.hid e id hm hg
    rw [k.hid e id ?_ (by rw [h1]; exact hg), h1]
    cases hm' : Det.ent M' e id with
    | none => rfl
    | some c =>
      rcases h.dom e id (by rw [hm']; simp) with a | a
      · exact absurd hm a
      · exact absurd a hg
  keep := by
    intro e id c hc hrw
    obtain ⟨h1, h2⟩ := h.keep e id c hc hrw
    obtain ⟨k1, k2⟩ := k.keep e id c h2 hrw
    exact ⟨k1.trans h1, k2⟩
  fresh := by
    intro e id g'' hg''
    rcases k.fresh e id g'' hg'' with ⟨g', hg', hb'⟩ | hle
    · rcases h.fresh e id g' hg' with ⟨g, hg, hb⟩ | hle
      · exact .inl ⟨g, hg, hb.trans hb'⟩
      · exact .inr (hb' ▸ hle)
    · exact .inr (Nat.le_trans h.size hle)
  len := k.len.trans h.len
  dom := by
    intro e id hne
    rcases k.dom e id hne with a | a
    · exact h.dom e id a
    · refine .inr ?_
      cases hg : γ e id with
      | none => rfl
      | some g => obtain ⟨g', hg', _⟩ := h.ext e id g hg; rw [a] at hg'; cases hg'
  rwk := by
    intro e id c hc
    obtain ⟨c', hc', h1⟩ := h.rwk e id c hc
    obtain ⟨c'', hc'', h2⟩ := k.rwk e id c' hc'
    exact ⟨c'', hc'', fun x => h1 (h2 x)⟩
  new := by
    intro e id hz hn
    cases hg : γ' e id with
    | none => exact k.new e id hg hn
    | some g => exact h.new e id hz (by rw [hg]; simp)
  newE := by
    intro e id hz hn
    cases hg : Det.ent M' e id with
    | none => exact k.newE e id hg hn
    | some g => exact h.newE e id hz (by rw [hg]; simp)
  newM := by
    intro e id hz hn
    cases hg : γ' e id with
    | none => exact k.newM e id hg hn
    | some g =>
      have h1 := h.newM e id hz (by rw [hg]; simp)
      cases hc : Det.ent M' e id with
      | none => exact absurd hc h1
      | some c => obtain ⟨c', hc', _⟩ := k.rwk e id c hc; rw [hc']; simp

/-! ### relations live on -/

def Ext (γ γ' : Gam) : Prop := ∀ e id g, γ e id = some g → ∃ g', γ' e id = some g' ∧ g.s ≤ g'.s ∧ (g.s = g'.s → g' = g)

theorem Stp.toExt {own : Nat → Nat → Prop} {M M' : Mem} {γ γ' : Gam} {w w' : World} (h : Stp own M γ w M' γ' w') : Ext γ γ' := h.ext

theorem Ext.refl (γ : Gam) : Ext γ γ := fun _ _ g h => ⟨g, h, Nat.le_refl _, fun _ => rfl⟩

theorem PRel.ext {γ γ' : Gam} {a : AAddr} {r : Addr} (h : PRel γ a r) (x : Ext γ γ') : PRel γ' a r := by
  obtain ⟨g, hg, hs, hr⟩ := h
  obtain ⟨g', hg', hs', he⟩ := x _ _ _ hg
  refine ⟨g', hg', Nat.le_trans hs hs', fun ha => ?_⟩
  have h1 : g.s = g'.s := by omega
  have h2 := he h1
  subst h2
  exact hr ha

theorem LRel.ext {γ γ' : Gam} {a : AAddr} {n e c : Nat} {r : Addr} (h : LRel γ a n e r c) (x : Ext γ γ') : LRel γ' a n e r c := by
  obtain ⟨hn, g, hg, hs, hr⟩ := h
  obtain ⟨g', hg', hs', he⟩ := x _ _ _ hg
  refine ⟨hn, g', hg', Nat.le_trans hs hs', fun ha => ?_⟩
  have h1 : g.s = g'.s := by omega
  have h2 := he h1
  subst h2
  exact hr ha

theorem MPRel.ext {γ γ' : Gam} {a : AAddr} {r : Nat} (h : MPRel γ a r) (x : Ext γ γ') : MPRel γ' a r := by
  obtain ⟨g, hg, hs, hr⟩ := h
  obtain ⟨g', hg', hs', he⟩ := x _ _ _ hg
  refine ⟨g', hg', Nat.le_trans hs hs', fun ha => ?_⟩
  have h1 : g.s = g'.s := by omega
  have h2 := he h1
  subst h2
  exact hr ha

theorem SRel.ext {γ γ' : Gam} {v : AV} {r : Value} (h : SRel γ v r) (x : Ext γ γ') : SRel γ' v r := by
  induction h with
  | bool b => exact .bool b
  | int k n => exact .int k n
  | str s => exact .str s
  | ptr0 => exact .ptr0
  | ptr h => exact .ptr (h.ext x)
  | slice0 e => exact .slice0 e
  | slice h => exact .slice (h.ext x)
  | room0 e r => exact .room0 e r
  | map0 => exact .map0
  | map h => exact .map (h.ext x)
  | func f hl hm _ _ ih1 ih2 => exact .func f hl hm ih1 ih2
  | nilFunc => exact .nilFunc

theorem WRel.ext {γ γ' : Gam} {v : AV} {r : Value} (h : WRel γ v r) (x : Ext γ γ') : WRel γ' v r := by
  cases h with
  | sc h => exact .sc (h.ext x)
  | agg h => exact .agg (h.mono fun _ _ k => k.ext x)

theorem VRel.ext {γ γ' : Gam} {v : AV} {r : Value} (h : VRel γ v r) (x : Ext γ γ') : VRel γ' v r := by
  cases h with
  | sc h => exact .sc (h.ext x)
  | agg h => exact .agg (h.mono fun _ _ k => k.ext x)
  | tuple h => exact .tuple (h.mono fun _ _ k => k.ext x)
  | dead r => exact .dead r

theorem WRel.toV {γ : Gam} {v : AV} {r : Value} (h : WRel γ v r) : VRel γ v r := by
  cases h with
  | sc h => exact .sc h
  | agg h => exact .agg h

theorem CRel.ext {γ γ' : Gam} {e : Nat} {c : Con} {g : G} {w w' : World} (h : CRel γ e c g w) (x : Ext γ γ') (hw : w'.heap[g.b]? = w.heap[g.b]?) : CRel γ' e c g w' := by
  cases c with
  | cells c rw fl =>
    obtain ⟨cs, t, lo, hi, h1, h2, h3, h4, h5, h6⟩ := h
    exact ⟨cs, t, lo, hi, hw.trans h1, h2, h3, h4.mono fun _ _ k => k.ext x, h5, h6⟩
  | map es rw =>
    obtain ⟨es', clk, h1, h2, h3, h4⟩ := h
    refine ⟨es', clk, hw.trans h1, h2, h3, fun i k v y hk hy => ?_⟩
    obtain ⟨a, b, c, d⟩ := h4 i k v y hk hy
    exact ⟨a.ext x, b.ext x, c, d⟩
  | bld T b rw =>
    obtain ⟨p, v, h1, h2, h3, h4, h5, h6, h7⟩ := h
    exact ⟨p, v, hw.trans h1, h2, h3, h4, h5, h6.ext x, h7⟩
  | buf E s rw =>
    obtain ⟨cs, lo, hi, h1, h2⟩ := h
    exact ⟨cs, lo, hi, hw.trans h1, h2⟩

/-! ### temporaries -/

def ERel (γ : Gam) (e : Env) (tmps : Array Value) : Prop := Pw (VRel γ) e tmps.toList

theorem ERel.ext {γ γ' : Gam} {e : Env} {tmps : Array Value} (h : ERel γ e tmps) (x : Ext γ γ') : ERel γ' e tmps := h.mono fun _ _ k => k.ext x

theorem VRel.undef (γ : Gam) : VRel γ .undef Go.undef := .tuple (l := []) (l' := []) Pw.nil

theorem ERel.get {γ : Gam} {e : Env} {tmps : Array Value} (h : ERel γ e tmps) (t : Nat) : VRel γ (e.get t) (tmps.getD t Go.undef) := by
  unfold Env.get
  cases he : e[t]? with
  | none =>
    have h1 : tmps[t]? = none := by
      have := h.1
      have h2 := List.getElem?_eq_none_iff.1 he
      simp at this
      exact Array.getElem?_eq_none (by omega)
    simp only [Option.getD_none]
    rw [Array.getD_eq_getD_getElem?, h1]
    exact VRel.undef γ
  | some v =>
    obtain ⟨r, hr, hv⟩ := Pw.get h he
    simp only [Option.getD_some]
    rw [Array.getElem?_toList] at hr
    rw [Array.getD_eq_getD_getElem?, hr]
    exact hv

theorem ERel.put {γ : Gam} {e : Env} {tmps : Array Value} (h : ERel γ e tmps) {v : AV} {r : Value} (hv : VRel γ v r) (dst : Option Nat) :
    ERel γ (setDst e dst v) (({ tmps := tmps, defers := [] } : Act).put dst r).tmps := by
  cases dst with
  | none => exact h
  | some d =>
    simp only [setDst, Act.put]
    unfold ERel
    rw [Array.toList_setIfInBounds]
    exact Pw.set h hv d

end Go.Det

/-
  The log's law: the cells of a log, its digest: the document's.
-/
import Derived.Test.YtaennaoaoahjmaaDoorHC
set_option maxRecDepth 100000
set_option linter.unusedSimpArgs false
set_option linter.unusedVariables false
namespace Go.Proofs.YtaennaoaoahjmaaDoor
open Go.Det Go.Det.S

theorem l8 (k : Nat) (M : Mem) (v : AV) (l : List (List UInt8)) (N : Nat) (h1 : l.length = N) (hN : N < 2 ^ 30) (hv : WS M AV.str v l) (j : Nat) : ∀ (i n : Nat) (t : List UInt8), i + j = N → j < n → t.length + (cat (l.drop i)).length < 2 ^ 44 →
    fgt a8_0 (rnd0 (some (e8_0 v (.str t) (.int .i64 i), mk [] :: M)) k8_0 (callFn SP (k + 2)) s8_b0 n) = some (.exit 0, x8_0 (.str (t ++ cat (l.drop i))), mk [] :: M) := by
  have i1 := WS_ids hv
  have n1 := hv.len
  rw [h1] at n1
  induction j with
  | zero =>
    intro i n t h hn hb
    obtain rfl : i = N := by omega
    rw [rnd0_some, List.drop_of_length_le (by omega)]
    conv => lhs; arg 2; arg 1; rw [s8_b0]
    simp [cat, i1, n1]
  | succ j ih0 =>
    intro i n t h hn hb
    obtain ⟨n, rfl⟩ : ∃ m, n = m + 1 := ⟨n - 1, by omega⟩
    have hi : i < N := by omega
    obtain ⟨d, id, z, rw_, fl, r, hvv, hd, hg⟩ := hv.block (by omega)
    subst hvv
    have ga := map_app_get AV.str l r i (by omega)
    have hn1 : d ≠ M.length := by omega
    rw [drop_nth l i (by omega), cat_cons] at hb ⊢
    rw [List.length_append] at hb
    have ih := ih0 (i + 1) n (t ++ et (nth l i)) (by omega) (by omega) (by rw [List.length_append]; omega)
    rw [List.append_assoc] at ih
    have hxl := et_len (nth l i)
    have htx := fun L => rtext_e k (mk L :: ro M) (nth l i) (by omega)
    clear ih0 hv
    generalize cat (l.drop (i + 1)) = rest at *
    generalize et (nth l i) = X at *
    generalize nth l i = y at *
    have hlt : (i : Int) < N := by omega
    have wi : IntKind.wrap .i64 ((i : Int) + 1) = (i : Int) + 1 := IntWalk.i64_in _ (by omega)
    have hlim : t.length + X.length ≤ 4611686018427387904 := by omega
    rw [rnd0_some]
    conv => lhs; arg 2; arg 1; rw [s8_b0]
    simpa [hi, hlt, wi, hlim, get_low, hd, hg, ga, h1, hn1, i1, n1, htx] using ih

theorem refdigest_e (k : Nat) (M : Mem) (hR : Gl kv v0 0 1 M) (v : AV) (l : List (List UInt8)) (hv : WS M AV.str v l) (hN : l.length < 2 ^ 30) (hl : (cat l).length < 2 ^ 37) : callFn SP (k + 7) 8 [v] M = some (.str (dg kv v0 (2 :: cat l)), [], M) := by
  have hlp := l8 (k + 4) M v l l.length rfl hN hv l.length 0 (l.length + 1) [] (by omega) (by omega) (by simp; omega)
  rw [List.drop_zero, List.nil_append] at hlp
  have h1 := fun L => kind_e k (mk L :: ro M) (hR.ro.cons _) 2 (cat l) (by omega)
  have i1 := WS_ids hv
  generalize dg kv v0 (2 :: cat l) = DG at *
  generalize cat l = X at *
  rw [call_fn (f := 8) (by rfl) (by simp)]
  simp
  rw [ev_loop (l.length + 1) (by simp [i1]) hlp (by omega)]
  simp [h1]

def r17 (M : Mem) (o : List (List UInt8)) : Option Int → Option (Ex × Env × Mem)
  | some e => some (.ret, x17_0 (.slice none 0 0) (.str []) (.int .i64 e) (oV M.length 20012 o), mk [(20012, oC o)] :: M)
  | none => some (.exit 0, x17_0 .dead .dead .dead (oV M.length 20012 o), mk [(20012, oC o)] :: M)

set_option maxHeartbeats 4000000 in
theorem l17 (k : Nat) (M : Mem) (v : AV) (l : List Wr) (N : Nat) (h1 : l.length = N) (hN : N < 100) (hv : WM M 2 wc v l) (j : Nat) : ∀ (i n : Nat) (o : List (List UInt8)), i + j = N → j < n → o.length = i + 1 →
    fgt a17_0 (rnd0 (some (e17_0 v (oV M.length 20012 o) (.int .i64 i), mk [(20012, oC o)] :: M)) k17_0 (callFn SP (k + 2)) s17_b0 n) =
      r17 M (o ++ pcs (l.drop i)) (pgo (l.drop i)) := by
  have i1 := WM_ids hv
  have n1 := hv.len
  rw [h1] at n1
  induction j with
  | zero =>
    intro i n o h hn ho
    obtain rfl : i = N := by omega
    rw [rnd0_some, List.drop_of_length_le (by omega)]
    conv => lhs; arg 2; arg 1; rw [s17_b0]
    simp [oV, oC, r17, pcs, pgo, i1, n1]
  | succ j ih0 =>
    intro i n o h hn ho
    obtain ⟨n, rfl⟩ : ∃ m, n = m + 1 := ⟨n - 1, by omega⟩
    have hi : i < N := by omega
    obtain ⟨d, id, z, rw_, fl, r, hvv, hd, hg⟩ := hv.block (by omega)
    subst hvv
    have ga0 := flat_cell wc_len r l i 0 (by omega) (by omega)
    have ga1 := flat_cell wc_len r l i 1 (by omega) (by omega)
    have la : i * 2 + 2 ≤ (l.flatMap wc ++ r).length := by rw [List.length_append, flat_len wc_len]; omega
    have hn1 : d ≠ M.length := by omega
    rw [drop_nth l i (by omega)]
    have ih := ih0 (i + 1) n (o ++ [wT (nth l i)]) (by omega) (by omega) (by simp; omega)
    clear ih0 hv
    simp only [pgo, pcs]
    generalize l.drop (i + 1) = rest at *
    generalize l.flatMap wc ++ r = BA at ga0 ga1 la hg
    generalize nth l i = w at *
    obtain ⟨a, c⟩ := w
    simp only [wc, wT, Nat.add_zero, List.getElem?_cons_zero, List.getElem?_cons_succ] at ga0 ga1 ih ⊢
    have hlt : (i : Int) < N := by omega
    have hnum := fun L => rnum_e (k + 1) (mk L :: ro M) (BitVec.ofInt 64 a)
    have wi : IntKind.wrap .i64 ((i : Int) + 1) = (i : Int) + 1 := IntWalk.i64_in _ (by omega)
    have lb : i * 2 < BA.length := by omega
    have lc : i * 2 + 1 < BA.length := by omega
    have gb0 := cell_at ga0 lb
    have gb1 := cell_at ga1 lc
    have hiN : ((i : Nat) : Int).toNat = i := Int.toNat_natCast i
    rw [rnd0_some]
    conv => lhs; arg 2; arg 1; rw [s17_b0]
    by_cases c1 : a < 100
    · have hE : mayE ⟨a, c⟩ = 2 := by unfold mayE; rw [if_pos (.inl c1)]
      rw [hE]
      simp only [show ¬ (2 : Int) = 0 by decide, if_false, List.append_nil]
      simp [hi, hlt, get_low, hd, hg, ga0, gb0, lb, h1, hn1, wi, oV, oC, i1, n1, c1, r17]
    by_cases c2 : 140 ≤ a
    · have hE : mayE ⟨a, c⟩ = 2 := by unfold mayE; rw [if_pos (.inr c2)]
      have c2' : 139 < a := by omega
      rw [hE]
      simp only [show ¬ (2 : Int) = 0 by decide, if_false, List.append_nil]
      simp [hi, hlt, get_low, hd, hg, ga0, gb0, lb, h1, hn1, wi, oV, oC, i1, n1, c1, c2', r17]
    have c2' : ¬ 139 < a := by omega
    by_cases c3 : 2032 < c.length
    · have hE : mayE ⟨a, c⟩ = 5 := by unfold mayE; rw [if_neg (by simp only; omega), if_pos c3]
      have c3' : (2032 : Int) < c.length := by omega
      rw [hE]
      simp only [show ¬ (5 : Int) = 0 by decide, if_false, List.append_nil]
      simp [hi, hlt, get_low, hd, hg, ga0, ga1, gb0, gb1, lb, lc, h1, hn1, wi, oV, oC, i1, n1, c1, c2', c3', r17]
    have c3' : ¬ (2032 : Int) < c.length := by omega
    have hE : mayE ⟨a, c⟩ = 0 := by unfold mayE; rw [if_neg (by simp only; omega), if_neg c3]
    rw [hE]
    have htx := fun L => rtext_e k (mk L :: ro M) c (by omega)
    have hl8 := K.be8_len (BitVec.ofInt 64 a)
    have hlc := et_len c
    simp only [if_true, b8] at ih ⊢
    generalize K.be8 (BitVec.ofInt 64 a) = A at *
    generalize et c = C at *
    rw [show o ++ (A ++ C) :: pcs rest = o ++ [A ++ C] ++ pcs rest by simp]
    generalize hR : r17 M (o ++ [A ++ C] ++ pcs rest) (pgo rest) = RR at *
    clear hR
    have hlen : (o ++ [A ++ C]).length = o.length + 1 := by simp
    have hmap : (o ++ [A ++ C]).map AV.str = o.map AV.str ++ [AV.str (A ++ C)] := by simp
    simp only [oV, oC, hlen, hmap] at ih
    simp only [oV, oC]
    have hml : (o.map AV.str).length = o.length := List.length_map _
    have hlim : (o.length + 1) * 16 ≤ 35184372088832 ∧ o.length ≤ 35184372088831 := by omega
    have hac : A.length + C.length ≤ 4611686018427387904 := by omega
    generalize o.map AV.str = OM at *
    generalize o.length = OL at *
    simpa [hi, hlt, get_low, hd, hg, ga0, ga1, gb0, gb1, lb, lc, h1, hn1, wi, i1, n1, c1, c2', c3', hnum, htx, hml, hlim, hac] using ih

set_option maxHeartbeats 4000000 in
theorem refput_ev (k : Nat) (M : Mem) (hR : Gl kv v0 0 1 M) (v : AV) (l : List Wr) (hv : WM M 2 wc v l) (hN : l.length < 2 ^ 40) : callFn SP (k + 8) 17 [v] M = some ((putOut M.length l).1, (putOut M.length l).2, M) := by
  have i1 := WM_ids hv
  have n1 := hv.len
  unfold putOut putE
  by_cases h96 : 96 ≤ l.length
  · have h96' : (95 : Int) < l.length := by omega
    simp only [if_pos h96, show ¬ (10 : Int) = 0 by decide, if_false]
    rw [call_fn (f := 17) (by rfl) (by simp)]
    simp [n1, h96']
  · have h96' : ¬ (95 : Int) < l.length := by omega
    have hlp := l17 (k + 5) M v l l.length rfl (by omega) hv l.length 0 (l.length + 1) [K.be8 (BitVec.ofNat 64 l.length)] (by omega) (by omega) rfl
    rw [List.drop_zero] at hlp
    have hnum := fun L => rnum_e (k + 6) (mk L :: ro M) (BitVec.ofNat 64 l.length)
    simp only [if_neg h96]
    rw [call_fn (f := 17) (by rfl) (by simp)]
    simp [n1, h96', hnum]
    cases hp : pgo l with
    | some e =>
      have he := pgo_ne l e hp
      rw [hp] at hlp
      simp only [r17] at hlp
      rw [ev_loop (l.length + 1) (by simp [i1, oV, oC]) hlp (by omega)]
      simp [he, oV, oC]
    | none =>
      have hcl := cat_put_len l hp (by omega)
      have hall := pcs_all l hp
      rw [hp, hall, show [K.be8 (BitVec.ofNat 64 l.length)] ++ l.map wT = putC l from rfl] at hlp
      simp only [r17] at hlp
      have hdg : ∀ L, mk L 20012 = some (oC (putC l)).ro → callFn SP (k + 7) 8 [oV M.length 20012 (putC l)] (mk L :: ro M) = some (.str (dgC l), [], mk L :: ro M) := fun L hL =>
        refdigest_e k (mk L :: ro M) (hR.ro.cons _) _ (putC l) (WS.top' (rw_ := false) (fl := true) hL (by rw [ro_length]) rfl rfl) (by simp [putC]; omega) (by omega)
      rw [ev_loop (l.length + 1) (by simp [i1, oV, oC]) hlp (by omega)]
      simp only [oV, oC, Con.ro] at hdg
      generalize dgC l = DD at *
      generalize putC l = PC at *
      simp [oV, oC, hdg]

end Go.Proofs.YtaennaoaoahjmaaDoor

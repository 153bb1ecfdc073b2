/- The library's rotate over spots. Conditions: a slice that may be written. -/
import Derived.Test.YtpppphalacojjaaPlanS
namespace Go.Proofs.Ytpppphalacojjaa
open Go.RowKit Go.Wh

theorem swapL_get (l : List Spot) (p q : Nat) (hp : p < l.length) (hq : q < l.length) (hpq : p ≠ q) (j : Nat) : (swapL l p q)[j]? = if j = p then l[q]? else if j = q then l[p]? else l[j]? := by
  rw [swapL_perm l p q hp hq, List.getElem?_set, List.getElem?_set]
  by_cases h1 : j = p
  · subst h1
    rw [if_neg (Ne.symm hpq), if_pos rfl, if_pos rfl, if_pos hp, List.getElem?_eq_getElem hq]
  · rw [if_neg h1, if_neg (show ¬ p = j from fun e => h1 e.symm)]
    by_cases h2 : j = q
    · subst h2
      rw [if_pos rfl, if_pos rfl, if_pos (by simpa using hq), List.getElem?_eq_getElem hp]
    · rw [if_neg h2, if_neg (show ¬ q = j from fun e => h2 e.symm)]

theorem swapsL_get (l : List Spot) (a b : Nat) : ∀ m, a + m ≤ b → b + m ≤ l.length → ∀ j, (swapsL l a b m)[j]? = if a ≤ j ∧ j < a + m then l[j - a + b]? else if b ≤ j ∧ j < b + m then l[j - b + a]? else l[j]?
  | 0, _, _, j => by
    rw [if_neg (by omega), if_neg (by omega)]
    rfl
  | m + 1, h1, h2, j => by
    have ih := swapsL_get l a b m (by omega) (by omega)
    have hl := swapsL_len l a b m
    rw [swapsL_succ, swapL_get _ _ _ (by omega) (by omega) (by omega), ih, ih, ih]
    repeat' split
    all_goals first
      | omega
      | rfl
      | (congr 1; omega)

theorem swapsL_app (A X B Y C : List Spot) (h : X.length = Y.length) : swapsL (A ++ X ++ B ++ Y ++ C) A.length (A.length + X.length + B.length) X.length = A ++ Y ++ B ++ X ++ C := by
  apply List.ext_getElem?
  intro j
  rw [swapsL_get _ _ _ _ (by omega) (by simp; omega)]
  simp only [List.getElem?_append, List.length_append]
  repeat' split
  all_goals first
    | omega
    | rfl
    | (congr 1; omega)

structure RotRel (w : World) (g o n cap : Nat) (A R C : List Spot) (m : Nat) (i j : Nat) (wr : World) : Prop where
  ex : ∃ P X Y Q : List Spot, X.length = i ∧ Y.length = j ∧ 0 < i ∧ 0 < j ∧ m = A.length + P.length + i ∧ P ++ Y ++ X ++ Q = R ∧ VecAt wr 3 g o n cap (flat (A ++ (P ++ X ++ Y ++ Q) ++ C))
  only : Only (fun k => k = g) w wr

theorem RotRel.pos {w : World} {g o n cap : Nat} {A R C : List Spot} {m i j : Nat} {wr : World} (h : RotRel w g o n cap A R C m i j wr) : 0 < i ∧ 0 < j ∧ i ≤ m ∧ m + j ≤ n := by
  obtain ⟨P, X, Y, Q, h1, h2, h3, h4, h5, h6, h7⟩ := h.ex
  have hl := h7.len
  rw [flat_length] at hl
  simp at hl
  omega

/-- A step of rotate: what swapRange is called with, and what holds behind it. -/
theorem RotRel.gt {w : World} {g o n cap : Nat} {A R C : List Spot} {m i j : Nat} {wr : World} (h : RotRel w g o n cap A R C m i j wr) (hij : j < i) :
    ∃ l, VecAt wr 3 g o n cap (flat l) ∧ ∀ w', VecAt w' 3 g o n cap (flat (swapsL l (m - i) m j)) → Only (fun k => k = g) wr w' → RotRel w g o n cap A R C m (i - j) j w' := by
  obtain ⟨P, X, Y, Q, h1, h2, h3, h4, h5, h6, h7⟩ := h.ex
  refine ⟨_, h7, fun w' hv ho => ⟨⟨P ++ Y, X.drop j, X.take j, Q, by simp; omega, by simp; omega, by omega, h4, by simp; omega, ?_, ?_⟩, h.only.trans ho⟩⟩
  · rw [← h6]
    simp only [List.append_assoc]
    rw [← List.append_assoc (X.take j), List.take_append_drop]
  · have e : A ++ (P ++ X ++ Y ++ Q) ++ C = (A ++ P) ++ X.take j ++ X.drop j ++ Y ++ (Q ++ C) := by
      simp only [List.append_assoc]
      rw [← List.append_assoc (X.take j), List.take_append_drop]
    have e2 := swapsL_app (A ++ P) (X.take j) (X.drop j) Y (Q ++ C) (by simp; omega)
    rw [show (A ++ P).length = m - i by simp; omega, show m - i + (X.take j).length + (X.drop j).length = m by simp; omega, show (X.take j).length = j by simp; omega] at e2
    rw [e, e2] at hv
    have e3 : A ++ (P ++ Y ++ X.drop j ++ X.take j ++ Q) ++ C = A ++ P ++ Y ++ X.drop j ++ X.take j ++ (Q ++ C) := by simp only [List.append_assoc]
    rw [e3]
    exact hv

theorem RotRel.lt {w : World} {g o n cap : Nat} {A R C : List Spot} {m i j : Nat} {wr : World} (h : RotRel w g o n cap A R C m i j wr) (hij : i < j) :
    ∃ l, VecAt wr 3 g o n cap (flat l) ∧ ∀ w', VecAt w' 3 g o n cap (flat (swapsL l (m - i) (m + j - i) i)) → Only (fun k => k = g) wr w' → RotRel w g o n cap A R C m i (j - i) w' := by
  obtain ⟨P, X, Y, Q, h1, h2, h3, h4, h5, h6, h7⟩ := h.ex
  refine ⟨_, h7, fun w' hv ho => ⟨⟨P, Y.drop (j - i), Y.take (j - i), X ++ Q, by simp; omega, by simp; omega, h3, by omega, h5, ?_, ?_⟩, h.only.trans ho⟩⟩
  · rw [← h6]
    simp only [List.append_assoc]
    rw [← List.append_assoc (Y.take (j - i)), List.take_append_drop]
  · have e : A ++ (P ++ X ++ Y ++ Q) ++ C = (A ++ P) ++ X ++ Y.take (j - i) ++ Y.drop (j - i) ++ (Q ++ C) := by
      simp only [List.append_assoc]
      rw [← List.append_assoc (Y.take (j - i)), List.take_append_drop]
    have e2 := swapsL_app (A ++ P) X (Y.take (j - i)) (Y.drop (j - i)) (Q ++ C) (by simp; omega)
    rw [show (A ++ P).length = m - i by simp; omega, show m - i + X.length + (Y.take (j - i)).length = m + j - i by simp; omega, h1] at e2
    rw [e, e2] at hv
    have e3 : A ++ (P ++ Y.drop (j - i) ++ Y.take (j - i) ++ (X ++ Q)) ++ C = A ++ P ++ Y.drop (j - i) ++ Y.take (j - i) ++ X ++ (Q ++ C) := by simp only [List.append_assoc]
    rw [e3]
    exact hv

theorem RotRel.done {w : World} {g o n cap : Nat} {A R C : List Spot} {m i : Nat} {wr : World} (h : RotRel w g o n cap A R C m i i wr) :
    ∃ l, VecAt wr 3 g o n cap (flat l) ∧ ∀ w', VecAt w' 3 g o n cap (flat (swapsL l (m - i) m i)) → Only (fun k => k = g) wr w' → VecAt w' 3 g o n cap (flat (A ++ R ++ C)) ∧ Only (fun k => k = g) w w' := by
  obtain ⟨P, X, Y, Q, h1, h2, h3, h4, h5, h6, h7⟩ := h.ex
  refine ⟨_, h7, fun w' hv ho => ⟨?_, h.only.trans ho⟩⟩
  have e : A ++ (P ++ X ++ Y ++ Q) ++ C = (A ++ P) ++ X ++ [] ++ Y ++ (Q ++ C) := by simp only [List.append_assoc, List.nil_append]
  have e2 := swapsL_app (A ++ P) X [] Y (Q ++ C) (by omega)
  rw [show (A ++ P).length = m - i by simp; omega, show m - i + X.length + ([] : List Spot).length = m by simp; omega, h1] at e2
  rw [e, e2] at hv
  have e3 : A ++ R ++ C = A ++ P ++ Y ++ [] ++ X ++ (Q ++ C) := by rw [← h6]; simp only [List.append_assoc, List.nil_append]
  rw [e3]
  exact hv

set_option maxRecDepth 100000 in
set_option maxHeartbeats 2000000 in
theorem rotate_any (g o n cap : Nat) (A X Y C : List Spot) (w : World) (cmp : Value) (h : VecAt w 3 g o n cap (flat (A ++ (X ++ Y) ++ C))) (hx : 0 < X.length) (hy : 0 < Y.length) (hn : n ≤ 10000) (a m b : Nat) (ha : a = A.length) (hm : m = a + X.length) (hb : b = m + Y.length) :
    Calls Try.prog 23 #[.slice (some ⟨g, o, none⟩) n cap, .int .i64 a, .int .i64 m, .int .i64 b, cmp] w (RowPost w g o n cap (A ++ (Y ++ X) ++ C)) := by
  have h0 : RotRel w g o n cap A (Y ++ X) C m X.length Y.length w := ⟨⟨[], X, Y, [], rfl, rfl, hx, hy, by simp; omega, by simp, by simpa using h⟩, Only.refl _ _⟩
  have H0 := Lib.hid h0
  have hp := h0.pos
  have hxm : (m : Int) - (a : Int) = (X.length : Int) := by omega
  have hyb : (b : Int) - (m : Int) = (Y.length : Int) := by omega
  have hmn : m ≤ n := by omega
  have hXn : X.length ≤ n := by omega
  have hYn : Y.length ≤ n := by omega
  have hbn : b ≤ n := by omega
  clear h h0 hp hx hy ha hm hb
  generalize Y ++ X = R at *
  generalize X.length = i0 at *
  generalize Y.length = j0 at *
  go_enter Try.func23, Try.ntmps23
  go_wp2_with fail
  go_loopw [10, 11] (fun si sj wr => ∃ i j : Nat, si = .int .i64 i ∧ sj = .int .i64 j ∧ i ≤ 20000 ∧ j ≤ 20000 ∧ RotRel w g o n cap A R C m i j wr) (fun si sj _ => (intOf si).toNat + (intOf sj).toNat)
  case atStart => exact ⟨i0, j0, rfl, rfl, by omega, by omega, H0.out⟩
  case round =>
    clear H0
    obtain ⟨i, j, rfl, rfl, hi, hj, hr⟩ := hrel
    obtain ⟨i1, j1, him, hmj⟩ := hr.pos
    rcases Nat.lt_trichotomy j i with hij | rfl | hij
    · obtain ⟨l, hv, hnx⟩ := hr.gt hij
      have C1 := Lib.hid (swapRange_any g o n cap l (m - i) m j wr cmp hv (by omega) (by omega) (by omega) hn)
      have HN := Lib.hid hnx
      clear hv hnx hr
      have e1 : (m : Int) - (i : Int) = ((m - i : Nat) : Int) := by omega
      have e2 : (i : Int) - (j : Int) = ((i - j : Nat) : Int) := by omega
      have e3 : ((i : Int) != (j : Int)) = true := by simp; omega
      go_wp2_with fail
      refine C1.out.mono ?_
      clear C1
      rintro e w1 ⟨rfl, hv, ho⟩
      have HR := Lib.hid (HN.out w1 hv ho)
      clear hv ho HN
      go_wp2_with fail
      go_roundw
      case rel => exact ⟨i - j, j, rfl, rfl, by omega, by omega, HR.out⟩
      case measure => simp [intOf]; omega
    · obtain ⟨l, hv, hnx⟩ := hr.done
      have C1 := Lib.hid (swapRange_any g o n cap l (m - j) m j wr cmp hv (by omega) (by omega) (by omega) hn)
      have HN := Lib.hid hnx
      clear hv hnx hr
      have e1 : (m : Int) - (j : Int) = ((m - j : Nat) : Int) := by omega
      go_wp2_with fail
      refine C1.out.mono ?_
      clear C1
      rintro e w1 ⟨rfl, hv, ho⟩
      obtain ⟨h1, h2⟩ := HN.out w1 hv ho
      have F := Lib.hid (show RowPost w g o n cap (A ++ R ++ C) (.returned (.tuple #[])) w1 from ⟨rfl, h1, h2⟩)
      clear hv ho h1 h2 HN
      go_wp2_with fail
      go_end0
      exact F.out
    · obtain ⟨l, hv, hnx⟩ := hr.lt hij
      have C1 := Lib.hid (swapRange_any g o n cap l (m - i) (m + j - i) i wr cmp hv (by omega) (by omega) (by omega) hn)
      have HN := Lib.hid hnx
      clear hv hnx hr
      have e1 : (m : Int) - (i : Int) = ((m - i : Nat) : Int) := by omega
      have e2 : (j : Int) - (i : Int) = ((j - i : Nat) : Int) := by omega
      have e3 : ((i : Int) != (j : Int)) = true := by simp; omega
      have e4 : (m : Int) + (j : Int) - (i : Int) = ((m + j - i : Nat) : Int) := by omega
      go_wp2_with fail
      refine C1.out.mono ?_
      clear C1
      rintro e w1 ⟨rfl, hv, ho⟩
      have HR := Lib.hid (HN.out w1 hv ho)
      clear hv ho HN
      go_wp2_with fail
      go_roundw
      case rel => exact ⟨i, j - i, rfl, rfl, by omega, by omega, HR.out⟩
      case measure => simp [intOf]; omega
end Go.Proofs.Ytpppphalacojjaa

/- symMerge of two sorted rows of two spots or more: the parts without the program. No conditions. -/
import Derived.Test.YtpppphalacojjaaPlanX
namespace Go.Proofs.Ytpppphalacojjaa
open Go.RowKit Go.Wh

/-- While the place of the cut is looked for. -/
structure Bis (w : World) (g o n cap : Nat) (A X Y C : List Spot) (a m N lo hi s r : Nat) (wr : World) : Prop where
  los : lo ≤ s
  sr : s ≤ r
  rhi : r ≤ hi
  c1 : ∀ x y, lo < s → X[s - 1 - a]? = some x → Y[N - s - m]? = some y → le x y
  c2 : ∀ x y, r < hi → X[r - a]? = some x → Y[N - 1 - r - m]? = some y → le y x
  vec : VecAt wr 3 g o n cap (flat (A ++ (X ++ Y) ++ C))
  only : Only (fun k => k = g) w wr

theorem Bis.same {w : World} {g o n cap : Nat} {A X Y C : List Spot} {a m N lo hi s r : Nat} {wr w1 : World} (h : Bis w g o n cap A X Y C a m N lo hi s r wr) (hx : 0 < X.length) (hb : Below wr.heap.size wr w1) : Bis w g o n cap A X Y C a m N lo hi s r w1 := by
  have hl := h.vec.len
  rw [flat_length] at hl
  simp at hl
  have h1 := h.vec.le
  exact ⟨h.los, h.sr, h.rhi, h.c1, h.c2, h.vec.block (hb.block g (h.vec.lt (by omega))), h.only.andThen (Only.ofBelow (S := fun _ => False) hb) (fun _ _ h => h.elim)⟩

/-- The bounds of the search. -/
structure Bnd (a m b mid N lo hi : Nat) : Prop where
  mid_ : mid = (a + b) / 2
  N_ : N = mid + m
  am : a < m
  mb : m < b
  or_ : (mid < m ∧ lo = N - b ∧ hi = mid) ∨ (m ≤ mid ∧ lo = a ∧ hi = m)

theorem Bis.at {w : World} {g o n cap : Nat} {A X Y C : List Spot} {a m b mid N lo hi s r : Nat} {wr : World} (h : Bis w g o n cap A X Y C a m N lo hi s r wr) (hB : Bnd a m b mid N lo hi) (ha : a = A.length) (hm : m = a + X.length) (hb : b = m + Y.length) {c q : Nat} (h1 : s ≤ c) (h2 : c < r) (hq : q + c + 1 = N) :
    ∃ x y, X[c - a]? = some x ∧ Y[q - m]? = some y ∧ At2 wr g o q c y x := by
  obtain ⟨e1, e2, e3, e4, e5⟩ := hB
  have h3 := h.los
  have h4 := h.rhi
  have hc : c - a < X.length := by omega
  have hy : q - m < Y.length := by omega
  have hac : a ≤ c := by omega
  have hqm : m ≤ q := by omega
  refine ⟨_, _, List.getElem?_eq_getElem hc, List.getElem?_eq_getElem hy, ?_⟩
  have hq' : q < (A ++ (X ++ Y) ++ C).length := by simp; omega
  have hc' : c < (A ++ (X ++ Y) ++ C).length := by simp; omega
  have := at2_of h.vec q c hq' hc'
  have ex : (A ++ (X ++ Y) ++ C)[c]'hc' = X[c - a] := by
    apply Option.some.inj
    rw [← List.getElem?_eq_getElem hc', ← List.getElem?_eq_getElem hc, List.append_assoc, List.getElem?_append_right (by omega), List.append_assoc, List.getElem?_append_left (by omega), ha]
  have ey : (A ++ (X ++ Y) ++ C)[q]'hq' = Y[q - m] := by
    apply Option.some.inj
    rw [← List.getElem?_eq_getElem hq', ← List.getElem?_eq_getElem hy, List.append_assoc, List.getElem?_append_right (by omega), List.append_assoc, List.getElem?_append_right (by omega), List.getElem?_append_left (by omega)]
    congr 1
    omega
  rw [ex, ey] at this
  exact this

theorem Bis.up {w : World} {g o n cap : Nat} {A X Y C : List Spot} {a m N lo hi s r : Nat} {wr : World} (h : Bis w g o n cap A X Y C a m N lo hi s r wr) {c q : Nat} {x y : Spot} (h1 : s ≤ c) (h2 : c < r) (hq : q + c + 1 = N) (hx : X[c - a]? = some x) (hy : Y[q - m]? = some y) (hb : bl y.key x.key = false) : Bis w g o n cap A X Y C a m N lo hi (c + 1) r wr := by
  have h3 := h.los
  refine ⟨by omega, by omega, h.rhi, fun x' y' _ hx' hy' => ?_, h.c2, h.vec, h.only⟩
  rw [show c + 1 - 1 - a = c - a by omega, hx] at hx'
  rw [show N - (c + 1) - m = q - m by omega, hy] at hy'
  injection hx' with hx'
  injection hy' with hy'
  subst hx' hy'
  exact hb
theorem Bis.down {w : World} {g o n cap : Nat} {A X Y C : List Spot} {a m N lo hi s r : Nat} {wr : World} (h : Bis w g o n cap A X Y C a m N lo hi s r wr) {c q : Nat} {x y : Spot} (h1 : s ≤ c) (h2 : c < r) (hq : q + c + 1 = N) (hx : X[c - a]? = some x) (hy : Y[q - m]? = some y) (hb : bl y.key x.key = true) : Bis w g o n cap A X Y C a m N lo hi s c wr := by
  have h3 := h.rhi
  refine ⟨h.los, h1, by omega, h.c1, fun x' y' _ hx' hy' => ?_, h.vec, h.only⟩
  rw [hx] at hx'
  rw [show N - 1 - c - m = q - m by omega, hy] at hy'
  injection hx' with hx'
  injection hy' with hy'
  subst hx' hy'
  exact le_of_lt hb

/-- The cut that was found. -/
structure Cut (w : World) (g o n cap : Nat) (A X Y C : List Spot) (a m b mid s e : Nat) (X1 X2 Y1 Y2 : List Spot) (wr : World) : Prop where
  eX : X = X1 ++ X2
  eY : Y = Y1 ++ Y2
  l1 : s = a + X1.length
  l2 : m = s + X2.length
  l3 : e = m + Y1.length
  l4 : b = e + Y2.length
  l5 : mid = s + Y1.length
  l6 : e = mid + X2.length
  cross : ∀ u ∈ X1 ++ Y1, ∀ v ∈ X2 ++ Y2, le u v
  vec : VecAt wr 3 g o n cap (flat (A ++ (X1 ++ X2 ++ (Y1 ++ Y2)) ++ C))
  only : Only (fun k => k = g) w wr

theorem Bis.cut {w : World} {g o n cap : Nat} {A X Y C : List Spot} {a m b mid N lo hi s : Nat} {wr : World} (h : Bis w g o n cap A X Y C a m N lo hi s s wr) (hB : Bnd a m b mid N lo hi) (hX : Sorted X) (hY : Sorted Y) (hm : m = a + X.length) (hb : b = m + Y.length) :
    ∃ e X1 X2 Y1 Y2, e + s = N ∧ Cut w g o n cap A X Y C a m b mid s e X1 X2 Y1 Y2 wr := by
  obtain ⟨e1, e2, e3, e4, e5⟩ := hB
  have h3 := h.los
  have h4 := h.rhi
  have q1 : a ≤ s := by omega
  have q2 : s ≤ m := by omega
  have q3 : m ≤ N - s := by omega
  have q4 : N - s ≤ b := by omega
  have hx1 : (X.take (s - a)).length = s - a := by simp; omega
  have hy1 : (Y.take (N - s - m)).length = N - s - m := by simp; omega
  refine ⟨N - s, X.take (s - a), X.drop (s - a), Y.take (N - s - m), Y.drop (N - s - m), by omega, ⟨(List.take_append_drop _ _).symm, (List.take_append_drop _ _).symm, by omega, by simp; omega, by omega, by simp; omega, by omega, by simp; omega, ?_, ?_, h.only⟩⟩
  · refine cross_of (by rwa [List.take_append_drop]) (by rwa [List.take_append_drop]) (fun p1 p2 => ?_) (fun p1 p2 => ?_)
    · simp only [List.length_drop] at p2
      refine h.c1 _ _ (by omega) ?_ ?_
      · rw [List.getElem_take, List.getElem?_eq_getElem (by omega)]
        congr 2
        omega
      · rw [List.getElem_drop, List.getElem?_eq_getElem (by omega)]
        rfl
    · simp only [List.length_drop] at p2
      refine h.c2 _ _ (by omega) ?_ ?_
      · rw [List.getElem_drop, List.getElem?_eq_getElem (by omega)]
        rfl
      · rw [List.getElem_take, List.getElem?_eq_getElem (by omega)]
        congr 2
        omega
  · rw [List.take_append_drop, List.take_append_drop]
    exact h.vec
end Go.Proofs.Ytpppphalacojjaa

/- Merging sorted rows: what symMerge's search gives. No conditions. -/
import Derived.Test.YtpppphalacojjaaPlanT
namespace Go.Proofs.Ytpppphalacojjaa
open Go.RowKit Go.Wh

/-- Not behind. -/
def le (a b : Spot) : Prop := bl b.key a.key = false
theorem le.refl (a : Spot) : le a a := bl_irrefl a.key
theorem le.trans {a b c : Spot} (h1 : le a b) (h2 : le b c) : le a c := bl_ge h1 h2
theorem le_of_lt {a b : Spot} (h : bl a.key b.key = true) : le a b := bl_asymm h

theorem sorted_le_at {l : List Spot} (h : Sorted l) {i j : Nat} (hij : i ≤ j) (hj : j < l.length) : le (l[i]'(by omega)) l[j] := by
  rcases Nat.lt_or_eq_of_le hij with h1 | rfl
  · exact (List.pairwise_iff_getElem.1 h) i j (by omega) hj h1
  · exact le.refl _

theorem sorted_app {l m : List Spot} (h1 : Sorted l) (h2 : Sorted m) (h : ∀ u ∈ l, ∀ v ∈ m, le u v) : Sorted (l ++ m) := List.pairwise_append.2 ⟨h1, h2, h⟩
theorem sorted_left {l m : List Spot} (h : Sorted (l ++ m)) : Sorted l := (List.pairwise_append.1 h).1
theorem sorted_right {l m : List Spot} (h : Sorted (l ++ m)) : Sorted m := (List.pairwise_append.1 h).2.1
theorem sorted_cross {l m : List Spot} (h : Sorted (l ++ m)) : ∀ u ∈ l, ∀ v ∈ m, le u v := (List.pairwise_append.1 h).2.2

/-- What stands ahead of a cut is not behind what stands after it, if that holds at the cut. -/
theorem cut_le {l m : List Spot} (hl : Sorted l) (hm : Sorted m) (h : ∀ (hl : 0 < l.length) (hm : 0 < m.length), le (l[l.length - 1]) m[0]) : ∀ u ∈ l, ∀ v ∈ m, le u v := by
  intro u hu v hv
  obtain ⟨i, hi, rfl⟩ := List.mem_iff_getElem.1 hu
  obtain ⟨j, hj, rfl⟩ := List.mem_iff_getElem.1 hv
  exact ((sorted_le_at hl (show i ≤ l.length - 1 by omega) (by omega)).trans (h (by omega) (by omega))).trans (sorted_le_at hm (Nat.zero_le j) hj)

theorem Sorted.of_perm_cross {l m l' m' : List Spot} (h1 : Sorted l') (h2 : Sorted m') (p1 : l'.Perm l) (p2 : m'.Perm m) (h : ∀ u ∈ l, ∀ v ∈ m, le u v) : Sorted (l' ++ m') :=
  sorted_app h1 h2 fun u hu v hv => h u (p1.mem_iff.1 hu) v (p2.mem_iff.1 hv)

/-- The search's end: X1 ++ X2 and Y1 ++ Y2 are cut so that all of X1, Y1 is not behind all of X2, Y2. -/
theorem cross_of {X1 X2 Y1 Y2 : List Spot} (hX : Sorted (X1 ++ X2)) (hY : Sorted (Y1 ++ Y2))
    (h1 : ∀ (hl : 0 < X1.length) (hm : 0 < Y2.length), le (X1[X1.length - 1]) Y2[0]) (h2 : ∀ (hl : 0 < Y1.length) (hm : 0 < X2.length), le (Y1[Y1.length - 1]) X2[0]) :
    ∀ u ∈ X1 ++ Y1, ∀ v ∈ X2 ++ Y2, le u v := by
  intro u hu v hv
  rcases List.mem_append.1 hu with hu | hu <;> rcases List.mem_append.1 hv with hv | hv
  · exact sorted_cross hX u hu v hv
  · exact cut_le (sorted_left hX) (sorted_right hY) h1 u hu v hv
  · exact cut_le (sorted_left hY) (sorted_right hX) h2 u hu v hv
  · exact sorted_cross hY u hu v hv

/-- One is laid into a sorted row. -/
theorem sorted_mid {Y1 Y2 : List Spot} {x : Spot} (hY : Sorted (Y1 ++ Y2)) (h1 : ∀ (hl : 0 < Y1.length), le (Y1[Y1.length - 1]) x) (h2 : ∀ (hl : 0 < Y2.length), le x Y2[0]) : Sorted (Y1 ++ [x] ++ Y2) := by
  have hx : Sorted [x] := List.pairwise_singleton _ _
  have s1 : Sorted (Y1 ++ [x]) := sorted_app (sorted_left hY) hx (cut_le (sorted_left hY) hx (fun hl _ => h1 hl))
  refine sorted_app s1 (sorted_right hY) fun u hu v hv => ?_
  rcases List.mem_append.1 hu with hu | hu
  · exact sorted_cross hY u hu v hv
  · rw [List.mem_singleton.1 hu]
    exact cut_le hx (sorted_right hY) (fun _ hm => h2 hm) x (List.mem_singleton.2 rfl) v hv

/-- What the comparing of two spots of the row answers: cmpOf < 0. -/
theorem lt_dec (a b : Spot) : (decide (cmpOf a.key b.key < 0)) = bl a.key b.key := cmp_neg _ _
end Go.Proofs.Ytpppphalacojjaa

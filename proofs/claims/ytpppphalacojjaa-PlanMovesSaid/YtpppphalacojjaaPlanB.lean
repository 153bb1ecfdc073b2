/- The library's insertion sort over spots, by keys. Conditions: a slice that may be written. -/
import Derived.Test.YtpppphalacojjaaPlanA
import Derived.BigRegion
namespace Go.Proofs.Ytpppphalacojjaa
open Go.RowKit Go.Wh

def SortPost (w : World) (v : Value) (n : Nat) (A M C : List Spot) (e : Ending) (w' : World) : Prop :=
  e = .returned (.tuple #[]) ∧ ∃ M', M'.Perm M ∧ Sorted M' ∧ Vec w' 3 v n (flat (A ++ M' ++ C)) ∧ Only (fun k => v.ownBlock = some k) w w'

/-- The six cells of two spots that stand side by side. -/
structure Two (w : World) (g o q : Nat) (y x : Spot) : Prop where
  c0 : w.cell? ⟨g, o + q * 3, none⟩ = some (.string y.key)
  c1 : w.cell? ⟨g, o + q * 3 + 1, none⟩ = some (.int .i64 y.p)
  c2 : w.cell? ⟨g, o + q * 3 + 2, none⟩ = some (.int .i64 y.c)
  d0 : w.cell? ⟨g, o + (q + 1) * 3, none⟩ = some (.string x.key)
  d1 : w.cell? ⟨g, o + (q + 1) * 3 + 1, none⟩ = some (.int .i64 x.p)
  d2 : w.cell? ⟨g, o + (q + 1) * 3 + 2, none⟩ = some (.int .i64 x.c)
  e0 : w.frozen? ⟨g, o + q * 3, none⟩ = false
  e1 : w.frozen? ⟨g, o + q * 3 + 1, none⟩ = false
  e2 : w.frozen? ⟨g, o + q * 3 + 2, none⟩ = false
  f0 : w.frozen? ⟨g, o + (q + 1) * 3, none⟩ = false
  f1 : w.frozen? ⟨g, o + (q + 1) * 3 + 1, none⟩ = false
  f2 : w.frozen? ⟨g, o + (q + 1) * 3 + 2, none⟩ = false

theorem two_of {w : World} {g o n cap : Nat} {F G : List Spot} {y x : Spot} (h : VecAt w 3 g o n cap (flat (F ++ y :: x :: G))) : Two w g o F.length y x := by
  have hl := h.len
  rw [flat_length] at hl
  have hn : F.length + 2 ≤ n := by simp at hl; omega
  have a := flat_at F y (x :: G)
  have b := flat_at (F ++ [y]) x G
  rw [List.append_assoc] at b
  have e : (F ++ [y]).length = F.length + 1 := by simp
  rw [e] at b
  have C : ∀ j, j < n * 3 → w.cell? ⟨g, o + j, none⟩ = (flat (F ++ y :: x :: G))[j]? := h.cells
  have R : ∀ j, j < n * 3 → w.frozen? ⟨g, o + j, none⟩ = false := fun j hj => h.free j hj
  refine ⟨?_, ?_, ?_, ?_, ?_, ?_, ?_, ?_, ?_, ?_, ?_, ?_⟩
  · rw [C _ (by omega)]; exact a.1
  · rw [Nat.add_assoc, C _ (by omega)]; exact a.2.1
  · rw [Nat.add_assoc, C _ (by omega)]; exact a.2.2
  · rw [C _ (by omega)]; exact b.1
  · rw [Nat.add_assoc, C _ (by omega)]; exact b.2.1
  · rw [Nat.add_assoc, C _ (by omega)]; exact b.2.2
  · exact R _ (by omega)
  · rw [Nat.add_assoc]; exact R _ (by omega)
  · rw [Nat.add_assoc]; exact R _ (by omega)
  · exact R _ (by omega)
  · rw [Nat.add_assoc]; exact R _ (by omega)
  · rw [Nat.add_assoc]; exact R _ (by omega)

theorem Two.below {w w' : World} {g o q : Nat} {y x : Spot} (h : Two w g o q y x) (hb : Below w.heap.size w w') : Two w' g o q y x := by
  have hg : g < w.heap.size := lt_of_cell h.c0
  have C : ∀ j v, w.cell? ⟨g, j, none⟩ = some v → w'.cell? ⟨g, j, none⟩ = some v := fun j v hv => (hb.cell (p := ⟨g, j, none⟩) hg).trans hv
  have R : ∀ j, w.frozen? ⟨g, j, none⟩ = false → w'.frozen? ⟨g, j, none⟩ = false := fun j hv => (hb.frozen (p := ⟨g, j, none⟩) hg).trans hv
  exact ⟨C _ _ h.c0, C _ _ h.c1, C _ _ h.c2, C _ _ h.d0, C _ _ h.d1, C _ _ h.d2, R _ h.e0, R _ h.e1, R _ h.e2, R _ h.f0, R _ h.f1, R _ h.f2⟩

theorem set_behind0 (A B : List Value) (n : Nat) (v : Value) (h : A.length = n) : (A ++ B).set n v = A ++ B.set 0 v := by
  have := set_behind A B n 0 v h
  simpa using this

/-- They change places. -/
theorem swapped {w : World} {g o n cap : Nat} {F G : List Spot} {y x : Spot} (h : VecAt w 3 g o n cap (flat (F ++ y :: x :: G))) :
    VecAt ((((((w.setCell ⟨g, o + (F.length + 1) * 3, none⟩ (.string y.key)).setCell ⟨g, o + (F.length + 1) * 3 + 1, none⟩ (.int .i64 y.p)).setCell ⟨g, o + (F.length + 1) * 3 + 2, none⟩ (.int .i64 y.c)).setCell ⟨g, o + F.length * 3, none⟩ (.string x.key)).setCell ⟨g, o + F.length * 3 + 1, none⟩ (.int .i64 x.p)).setCell ⟨g, o + F.length * 3 + 2, none⟩ (.int .i64 x.c))
      3 g o n cap (flat (F ++ x :: y :: G)) := by
  have hl := h.len
  rw [flat_length] at hl
  have hn : F.length + 2 ≤ n := by simp at hl; omega
  have h1 := h.set ((F.length + 1) * 3) (by omega) (.string y.key)
  have h2 := h1.set ((F.length + 1) * 3 + 1) (by omega) (.int .i64 y.p)
  have h3 := h2.set ((F.length + 1) * 3 + 2) (by omega) (.int .i64 y.c)
  have h4 := h3.set (F.length * 3) (by omega) (.string x.key)
  have h5 := h4.set (F.length * 3 + 1) (by omega) (.int .i64 x.p)
  have h6 := h5.set (F.length * 3 + 2) (by omega) (.int .i64 x.c)
  simp only [← Nat.add_assoc] at h6
  have e := flat_length F
  have e3 : (F.length + 1) * 3 = F.length * 3 + 3 := by omega
  rw [e3, flat_append, flat_cons, flat_cons] at h6
  rw [e3, flat_append, flat_cons, flat_cons]
  simp only [Nat.add_assoc, Nat.reduceAdd] at h6 ⊢
  rw [set_behind _ _ _ _ _ e, set_behind _ _ _ _ _ e, set_behind _ _ _ _ _ e, set_behind0 _ _ _ _ e, set_behind _ _ _ _ _ e, set_behind _ _ _ _ _ e] at h6
  exact h6

/-- Between the rounds of the outer loop. -/
structure OutRel (w : World) (g o n cap : Nat) (A M C : List Spot) (i : Nat) (X Y : List Spot) (wr : World) : Prop where
  at_ : i = A.length + X.length
  one : 1 ≤ X.length
  over : X.length + Y.length = M.length
  perm : (X ++ Y).Perm M
  sorted : Sorted X
  vec : VecAt wr 3 g o n cap (flat (A ++ (X ++ Y) ++ C))
  only : Only (fun k => k = g) w wr

/-- Between the rounds of the inner one: x goes down. -/
structure InRel (w : World) (g o n cap : Nat) (A M C : List Spot) (i j : Nat) (P Q : List Spot) (x : Spot) (Y : List Spot) (wr : World) : Prop where
  at_ : j = A.length + P.length
  is : i = A.length + P.length + Q.length
  over : P.length + Q.length + 1 + Y.length = M.length
  perm : (P ++ x :: Q ++ Y).Perm M
  sorted : Sorted (P ++ Q)
  less : ∀ q ∈ Q, bl x.key q.key = true
  vec : VecAt wr 3 g o n cap (flat (A ++ (P ++ x :: Q ++ Y) ++ C))
  only : Only (fun k => k = g) w wr

theorem InRel.start {w : World} {g o n cap : Nat} {A M C : List Spot} {i : Nat} {X Y : List Spot} {x : Spot} {wr : World} (h : OutRel w g o n cap A M C i X (x :: Y) wr) : InRel w g o n cap A M C i i X [] x Y wr :=
  ⟨h.at_, by simpa using h.at_, by have := h.over; simp at this ⊢; omega, by have := h.perm; simpa using this, by simpa using h.sorted, by simp, by have := h.vec; simpa using this, h.only⟩

theorem InRel.end_ {w : World} {g o n cap : Nat} {A M C : List Spot} {i j : Nat} {P Q : List Spot} {x : Spot} {Y : List Spot} {wr : World} (h : InRel w g o n cap A M C i j P Q x Y wr) (h2 : ∀ y P', P = P' ++ [y] → bl x.key y.key = false) : OutRel w g o n cap A M C (i + 1) (P ++ x :: Q) Y wr :=
  ⟨by rw [h.is]; simp; omega, by simp; omega, by have := h.over; simp; omega, h.perm, h.sorted.insert h.less h2, h.vec, h.only⟩

theorem InRel.two {w : World} {g o n cap : Nat} {A M C : List Spot} {i j : Nat} {P Q : List Spot} {x y : Spot} {Y : List Spot} {wr : World} (h : InRel w g o n cap A M C i j (P ++ [y]) Q x Y wr) : Two wr g o (A.length + P.length) y x := by
  have hv := h.vec
  rw [show A ++ (P ++ [y] ++ x :: Q ++ Y) ++ C = (A ++ P) ++ y :: x :: (Q ++ Y ++ C) by simp] at hv
  have := two_of hv
  simpa using this

theorem InRel.same {w : World} {g o n cap : Nat} {A M C : List Spot} {i j : Nat} {P Q : List Spot} {x : Spot} {Y : List Spot} {wr w1 : World} (h : InRel w g o n cap A M C i j P Q x Y wr) (hb : Below wr.heap.size wr w1) : InRel w g o n cap A M C i j P Q x Y w1 := by
  refine ⟨h.at_, h.is, h.over, h.perm, h.sorted, h.less, ?_, h.only.andThen (Only.ofBelow (S := fun _ => False) hb) (fun _ _ h => h.elim)⟩
  have hl := h.vec.len
  rw [flat_length] at hl
  have h1 := h.vec.le
  exact h.vec.block (hb.block g (h.vec.lt (by simp at hl; omega)))

theorem InRel.down {w : World} {g o n cap : Nat} {A M C : List Spot} {i j q : Nat} {P Q : List Spot} {x y : Spot} {Y : List Spot} {wr : World} (h : InRel w g o n cap A M C i j (P ++ [y]) Q x Y wr) (hq : q = A.length + P.length) (hb : bl x.key y.key = true) :
    InRel w g o n cap A M C i q P (y :: Q) x Y
      ((((((wr.setCell ⟨g, o + (q + 1) * 3, none⟩ (.string y.key)).setCell ⟨g, o + (q + 1) * 3 + 1, none⟩ (.int .i64 y.p)).setCell ⟨g, o + (q + 1) * 3 + 2, none⟩ (.int .i64 y.c)).setCell ⟨g, o + q * 3, none⟩ (.string x.key)).setCell ⟨g, o + q * 3 + 1, none⟩ (.int .i64 x.p)).setCell ⟨g, o + q * 3 + 2, none⟩ (.int .i64 x.c)) := by
  have hv := h.vec
  rw [show A ++ (P ++ [y] ++ x :: Q ++ Y) ++ C = (A ++ P) ++ y :: x :: (Q ++ Y ++ C) by simp] at hv
  have hs := swapped hv
  rw [List.length_append, ← hq] at hs
  refine ⟨hq, by rw [h.is]; simp; omega, by have := h.over; simp at this ⊢; omega, ?_, by have := h.sorted; simpa using this, fun z hz => ?_, ?_,
    (((((h.only.setCell (by left; rfl) _).setCell (by left; rfl) _).setCell (by left; rfl) _).setCell (by left; rfl) _).setCell (by left; rfl) _).setCell (by left; rfl) _⟩
  · refine List.Perm.trans ?_ h.perm
    simp only [List.append_assoc, List.cons_append, List.nil_append]
    exact List.Perm.append_left P (List.Perm.swap _ _ _)
  · rcases List.mem_cons.1 hz with rfl | hz
    · exact hb
    · exact h.less z hz
  · rw [show A ++ (P ++ x :: (y :: Q) ++ Y) ++ C = (A ++ P) ++ x :: y :: (Q ++ Y ++ C) by simp]
    exact hs

theorem OutRel.same {w : World} {g o n cap : Nat} {A M C : List Spot} {i : Nat} {X Y : List Spot} {wr w1 : World} (h : OutRel w g o n cap A M C i X Y wr) (hb : Below wr.heap.size wr w1) : OutRel w g o n cap A M C i X Y w1 := by
  refine ⟨h.at_, h.one, h.over, h.perm, h.sorted, ?_, h.only.andThen (Only.ofBelow (S := fun _ => False) hb) (fun _ _ h => h.elim)⟩
  have hl := h.vec.len
  rw [flat_length] at hl
  have h1 := h.vec.le
  have h2 := h.one
  exact h.vec.block (hb.block g (h.vec.lt (by simp at hl; omega)))

theorem OutRel.done {w : World} {g o n cap : Nat} {A M C : List Spot} {i : Nat} {X Y : List Spot} {wr : World} (h : OutRel w g o n cap A M C i X Y wr) (hi : A.length + M.length ≤ i) : SortPost w (.slice (some ⟨g, o, none⟩) n cap) n A M C (.returned (.tuple #[])) wr := by
  have hy : Y = [] := by
    have h1 := h.at_
    have h2 := h.over
    exact List.eq_nil_of_length_eq_zero (by omega)
  subst hy
  refine ⟨rfl, X, by simpa using h.perm, h.sorted, .inr ⟨g, o, cap, rfl, by simpa using h.vec⟩, h.only.mono fun i hi => by rw [hi]; rfl⟩
end Go.Proofs.Ytpppphalacojjaa

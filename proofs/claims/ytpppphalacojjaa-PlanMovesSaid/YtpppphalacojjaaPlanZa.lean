/- symMerge of two sorted rows of two spots or more: what rotate and the two calls of itself leave. No conditions. -/
import Derived.Test.YtpppphalacojjaaPlanY
namespace Go.Proofs.Ytpppphalacojjaa
open Go.RowKit Go.Wh

def MergeOk (k : Nat) : Prop := ∀ (g o n cap : Nat) (A X Y C : List Spot) (w : World), VecAt w 3 g o n cap (flat (A ++ (X ++ Y) ++ C)) → Sorted X → Sorted Y → 0 < X.length → 0 < Y.length → n ≤ 10000 → X.length + Y.length < k →
  ∀ a m b : Nat, a = A.length → m = a + X.length → b = m + Y.length →
  Calls Try.prog 22 #[.slice (some ⟨g, o, none⟩) n cap, .int .i64 a, .int .i64 m, .int .i64 b, .func (.func 17) #[] #[]] w (MergePost w g o n cap A (X ++ Y) C)

/-- Behind the turn of the two middle parts. -/
structure Rotd (w : World) (g o n cap : Nat) (A X1 X2 Y1 Y2 C : List Spot) (wc : World) : Prop where
  vec : VecAt wc 3 g o n cap (flat (A ++ ((X1 ++ Y1) ++ (X2 ++ Y2)) ++ C))
  only : Only (fun k => k = g) w wc

/-- Behind the first call of itself. -/
structure LeftD (w : World) (g o n cap : Nat) (A X1 X2 Y1 Y2 C : List Spot) (wc : World) : Prop where
  ex : ∃ M, M.Perm (X1 ++ Y1) ∧ Sorted M ∧ VecAt wc 3 g o n cap (flat (A ++ (M ++ (X2 ++ Y2)) ++ C))
  only : Only (fun k => k = g) w wc

theorem only_refl' {w w1 : World} {g : Nat} (h : Only (fun k => k = g) w w1) : Only (fun k => k = g) w w1 := h

/-- What rotate is called with. -/
theorem Cut.rot {w : World} {g o n cap : Nat} {A X Y C : List Spot} {a m b mid s e : Nat} {X1 X2 Y1 Y2 : List Spot} {wr : World} (h : Cut w g o n cap A X Y C a m b mid s e X1 X2 Y1 Y2 wr) (ha : a = A.length) (hsm : s < m) (hme : m < e) (hn : n ≤ 10000) (cmp : Value) :
    Calls Try.prog 23 #[.slice (some ⟨g, o, none⟩) n cap, .int .i64 s, .int .i64 m, .int .i64 e, cmp] wr fun en w' => en = .returned (.tuple #[]) ∧ Rotd w g o n cap A X1 X2 Y1 Y2 C w' := by
  have h1 := h.l1
  have h2 := h.l2
  have h3 := h.l3
  have hv := h.vec
  have e1 : A ++ (X1 ++ X2 ++ (Y1 ++ Y2)) ++ C = (A ++ X1) ++ (X2 ++ Y1) ++ (Y2 ++ C) := by simp only [List.append_assoc]
  rw [e1] at hv
  refine (rotate_any g o n cap (A ++ X1) X2 Y1 (Y2 ++ C) wr cmp hv (by omega) (by omega) hn s m e (by simp; omega) h2 h3).mono ?_
  rintro en w' ⟨rfl, hv', ho⟩
  refine ⟨rfl, ?_, h.only.trans ho⟩
  have e2 : A ++ ((X1 ++ Y1) ++ (X2 ++ Y2)) ++ C = (A ++ X1) ++ (Y1 ++ X2) ++ (Y2 ++ C) := by simp only [List.append_assoc]
  rw [e2]
  exact hv'

theorem Cut.norot {w : World} {g o n cap : Nat} {A X Y C : List Spot} {a m b mid s e : Nat} {X1 X2 Y1 Y2 : List Spot} {wr : World} (h : Cut w g o n cap A X Y C a m b mid s e X1 X2 Y1 Y2 wr) (hn : ¬ (s < m ∧ m < e)) : Rotd w g o n cap A X1 X2 Y1 Y2 C wr := by
  have h2 := h.l2
  have h3 := h.l3
  refine ⟨?_, h.only⟩
  have hv := h.vec
  have e1 : A ++ (X1 ++ X2 ++ (Y1 ++ Y2)) ++ C = A ++ ((X1 ++ Y1) ++ (X2 ++ Y2)) ++ C := by
    rcases Nat.eq_zero_or_pos X2.length with hz | hz
    · rw [List.length_eq_zero_iff.1 hz]
      simp only [List.append_assoc, List.nil_append]
    · have hz : Y1.length = 0 := by omega
      rw [List.length_eq_zero_iff.1 hz]
      simp only [List.append_assoc, List.nil_append]
  rw [e1] at hv
  exact hv

theorem Cut.left {w : World} {g o n cap : Nat} {A X Y C : List Spot} {a m b mid s e : Nat} {X1 X2 Y1 Y2 : List Spot} {wr wc : World} (h : Cut w g o n cap A X Y C a m b mid s e X1 X2 Y1 Y2 wr) (hr : Rotd w g o n cap A X1 X2 Y1 Y2 C wc) (IH : MergeOk (X.length + Y.length)) (hX : Sorted X) (hY : Sorted Y) (ha : a = A.length) (hb : mid < b) (h1 : a < s) (h2 : s < mid) (hn : n ≤ 10000) :
    Calls Try.prog 22 #[.slice (some ⟨g, o, none⟩) n cap, .int .i64 a, .int .i64 s, .int .i64 mid, .func (.func 17) #[] #[]] wc fun en w' => en = .returned (.tuple #[]) ∧ LeftD w g o n cap A X1 X2 Y1 Y2 C w' := by
  have l1 := h.l1
  have l5 := h.l5
  have l2 := h.l2
  have l3 := h.l3
  have l4 := h.l4
  have eX := congrArg List.length h.eX
  have eY := congrArg List.length h.eY
  rw [List.length_append] at eX eY
  have hv := hr.vec
  have e1 : A ++ ((X1 ++ Y1) ++ (X2 ++ Y2)) ++ C = A ++ (X1 ++ Y1) ++ ((X2 ++ Y2) ++ C) := by simp only [List.append_assoc]
  rw [e1] at hv
  have hX' := hX
  have hY' := hY
  rw [h.eX] at hX'
  rw [h.eY] at hY'
  refine (IH g o n cap A X1 Y1 ((X2 ++ Y2) ++ C) wc hv (sorted_left hX') (sorted_left hY') (by omega) (by omega) hn (by omega) a s mid ha l1 l5).mono ?_
  rintro en w' ⟨rfl, M, hp, hs, hv', ho⟩
  refine ⟨rfl, ⟨M, hp, hs, ?_⟩, hr.only.trans ho⟩
  have e2 : A ++ (M ++ (X2 ++ Y2)) ++ C = A ++ M ++ ((X2 ++ Y2) ++ C) := by simp only [List.append_assoc]
  rw [e2]
  exact hv'

theorem Cut.noleft {w : World} {g o n cap : Nat} {A X Y C : List Spot} {a m b mid s e : Nat} {X1 X2 Y1 Y2 : List Spot} {wr wc : World} (h : Cut w g o n cap A X Y C a m b mid s e X1 X2 Y1 Y2 wr) (hr : Rotd w g o n cap A X1 X2 Y1 Y2 C wc) (hX : Sorted X) (hY : Sorted Y) (hn : ¬ (a < s ∧ s < mid)) : LeftD w g o n cap A X1 X2 Y1 Y2 C wc := by
  have l1 := h.l1
  have l5 := h.l5
  have hX' := hX
  have hY' := hY
  rw [h.eX] at hX'
  rw [h.eY] at hY'
  refine ⟨⟨X1 ++ Y1, List.Perm.refl _, ?_, hr.vec⟩, hr.only⟩
  rcases Nat.eq_zero_or_pos X1.length with hz | hz
  · rw [List.length_eq_zero_iff.1 hz]
    exact sorted_left hY'
  · have hz : Y1.length = 0 := by omega
    rw [List.length_eq_zero_iff.1 hz, List.append_nil]
    exact sorted_left hX'

theorem Cut.join {w : World} {g o n cap : Nat} {A X Y C : List Spot} {a m b mid s e : Nat} {X1 X2 Y1 Y2 : List Spot} {wr : World} (h : Cut w g o n cap A X Y C a m b mid s e X1 X2 Y1 Y2 wr) {M N : List Spot} (hM : M.Perm (X1 ++ Y1)) (hN : N.Perm (X2 ++ Y2)) : (M ++ N).Perm (X ++ Y) := by
  rw [h.eX, h.eY]
  refine (hM.append hN).trans ?_
  have e1 : X1 ++ Y1 ++ (X2 ++ Y2) = X1 ++ ((Y1 ++ X2) ++ Y2) := by simp only [List.append_assoc]
  have e2 : X1 ++ X2 ++ (Y1 ++ Y2) = X1 ++ ((X2 ++ Y1) ++ Y2) := by simp only [List.append_assoc]
  rw [e1, e2]
  exact List.Perm.append_left X1 (List.Perm.append_right Y2 List.perm_append_comm)

theorem Cut.right {w : World} {g o n cap : Nat} {A X Y C : List Spot} {a m b mid s e : Nat} {X1 X2 Y1 Y2 : List Spot} {wr wc : World} (h : Cut w g o n cap A X Y C a m b mid s e X1 X2 Y1 Y2 wr) (hr : LeftD w g o n cap A X1 X2 Y1 Y2 C wc) (IH : MergeOk (X.length + Y.length)) (hX : Sorted X) (hY : Sorted Y) (ha : a = A.length) (hb : a < mid) (h1 : mid < e) (h2 : e < b) (hn : n ≤ 10000) :
    Calls Try.prog 22 #[.slice (some ⟨g, o, none⟩) n cap, .int .i64 mid, .int .i64 e, .int .i64 b, .func (.func 17) #[] #[]] wc fun en w' => en = .returned (.tuple #[]) ∧ MergePost w g o n cap A (X ++ Y) C (.returned (.tuple #[])) w' := by
  have l1 := h.l1
  have l5 := h.l5
  have l2 := h.l2
  have l3 := h.l3
  have l4 := h.l4
  have l6 := h.l6
  have eX := congrArg List.length h.eX
  have eY := congrArg List.length h.eY
  rw [List.length_append] at eX eY
  obtain ⟨M, hp, hs, hv⟩ := hr.ex
  have hpl := hp.length_eq
  rw [List.length_append] at hpl
  have e1 : A ++ (M ++ (X2 ++ Y2)) ++ C = (A ++ M) ++ (X2 ++ Y2) ++ C := by simp only [List.append_assoc]
  rw [e1] at hv
  have hX' := hX
  have hY' := hY
  rw [h.eX] at hX'
  rw [h.eY] at hY'
  refine (IH g o n cap (A ++ M) X2 Y2 C wc hv (sorted_right hX') (sorted_right hY') (by omega) (by omega) hn (by omega) mid e b (by simp; omega) l6 l4).mono ?_
  rintro en w' ⟨rfl, N, hp', hs', hv', ho⟩
  refine ⟨rfl, rfl, M ++ N, h.join hp hp', Sorted.of_perm_cross hs hs' hp hp' h.cross, ?_, hr.only.trans ho⟩
  have e2 : A ++ (M ++ N) ++ C = A ++ M ++ N ++ C := by simp only [List.append_assoc]
  rw [e2]
  exact hv'

theorem Cut.noright {w : World} {g o n cap : Nat} {A X Y C : List Spot} {a m b mid s e : Nat} {X1 X2 Y1 Y2 : List Spot} {wr wc : World} (h : Cut w g o n cap A X Y C a m b mid s e X1 X2 Y1 Y2 wr) (hr : LeftD w g o n cap A X1 X2 Y1 Y2 C wc) (hX : Sorted X) (hY : Sorted Y) (hn : ¬ (mid < e ∧ e < b)) : MergePost w g o n cap A (X ++ Y) C (.returned (.tuple #[])) wc := by
  have l6 := h.l6
  have l4 := h.l4
  have hX' := hX
  have hY' := hY
  rw [h.eX] at hX'
  rw [h.eY] at hY'
  obtain ⟨M, hp, hs, hv⟩ := hr.ex
  refine ⟨rfl, M ++ (X2 ++ Y2), h.join hp (List.Perm.refl _), Sorted.of_perm_cross hs ?_ hp (List.Perm.refl _) h.cross, hv, hr.only⟩
  rcases Nat.eq_zero_or_pos X2.length with hz | hz
  · rw [List.length_eq_zero_iff.1 hz]
    exact sorted_right hY'
  · have hz : Y2.length = 0 := by omega
    rw [List.length_eq_zero_iff.1 hz, List.append_nil]
    exact sorted_right hX'
end Go.Proofs.Ytpppphalacojjaa

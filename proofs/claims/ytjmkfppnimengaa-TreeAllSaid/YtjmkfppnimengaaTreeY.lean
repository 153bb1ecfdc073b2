/- A tree as it is held: its cells, its root, all that it has in order. New, Len. Conditions: a tree in memory. -/
import Derived.Test.YtjmkfppnimengaaTreeX
import Derived.Test.YtjmkfppnimengaaTreeW
namespace Go.Proofs.Ytjmkfppnimengaa
open Go.RowKit Go.Wh

/-- A tree at t that has l, in order, and is made of the blocks F. -/
def TreeAt (w : World) (t : Nat) (l : Nd 0) (F : List Nat) : Prop :=
  ∃ d r, ∃ x : Nd d, ∃ G, cellsAt w t [ptr r, .int .i64 l.length] ∧ At d w r x G ∧ F = t :: G ∧ t ∉ G ∧ Good d x ∧ flat d x = l

theorem TreeAt.only {w w' : World} {t : Nat} {l : Nd 0} {F : List Nat} {S : Nat → Prop} (h : TreeAt w t l F) (ho : Only S w w') (hs : ∀ b ∈ F, ¬ S b) : TreeAt w' t l F := by
  obtain ⟨d, r, x, G, h1, h2, rfl, h4, h5, h6⟩ := h
  exact ⟨d, r, x, G, h1.only ho (hs t (by simp)), h2.only ho fun b hb => hs b (by simp [hb]), rfl, h4, h5, h6⟩
theorem TreeAt.still {w w' : World} {t : Nat} {l : Nd 0} {F : List Nat} (h : TreeAt w t l F) (ho : Still w w') : TreeAt w' t l F := h.only ho fun _ _ e => e
theorem TreeAt.lt {w : World} {t : Nat} {l : Nd 0} {F : List Nat} (h : TreeAt w t l F) : ∀ b ∈ F, b < w.heap.size := by
  obtain ⟨d, r, x, G, h1, h2, rfl, h4, h5, h6⟩ := h
  intro b hb
  rcases List.mem_cons.1 hb with rfl | hb
  · exact h1.lt
  · exact h2.lt b hb
theorem TreeAt.ks {w : World} {t : Nat} {l : Nd 0} {F : List Nat} (h : TreeAt w t l F) : KS (keys l) := by
  obtain ⟨d, r, x, G, h1, h2, h3, h4, h5, rfl⟩ := h
  exact h5.ks
theorem TreeAt.self {w : World} {t : Nat} {l : Nd 0} {F : List Nat} (h : TreeAt w t l F) : t ∈ F := by
  obtain ⟨d, r, x, G, h1, h2, rfl, h4, h5, h6⟩ := h
  simp

def NewPost (w : World) (e : Ending) (w' : World) : Prop := ∃ t F, e = .returned (ptr t) ∧ TreeAt w' t [] F ∧ Still w w' ∧ ∀ b ∈ F, w.heap.size ≤ b

theorem new_at (w : World) (t1 t2 : TypeId) : TreeAt ((w.alloc (.cells #[.slice none 0 0, .slice none 0 0, .slice none 0 0] t1)).alloc (.cells #[ptr w.heap.size, .int .i64 0] t2)) (w.heap.size + 1) [] [w.heap.size + 1, w.heap.size] := by
  have h1 := NodeAt.new (w := w) (ks := []) (kv := .slice none 0 0) t1 (Vec.nil _ _)
  have h2 := Raw.of h1 (Apt.new (by intro b e; cases e)) (by intro b hb; simp [foot, ownL, Value.ownBlock] at hb; simp [hb])
  refine ⟨0, w.heap.size, [], [w.heap.size], ?_, ?_, rfl, by simp, ⟨trivial, by simp, .inl rfl, List.Pairwise.nil⟩, rfl⟩
  · have := cellsAt_new (w.alloc (.cells #[.slice none 0 0, .slice none 0 0, .slice none 0 0] t1)) [ptr w.heap.size, .int .i64 0] t2
    simpa using this
  · have h3 : Raw (w.alloc (.cells #[.slice none 0 0, .slice none 0 0, .slice none 0 0] t1)) w.heap.size [] [] [] [w.heap.size] := by simpa [foot, ownL, Value.ownBlock] using h2
    exact h3.still ((Still.refl _).alloc _)

theorem make_any (w : World) : Calls Try.prog 24 #[] w (NewPost w) := by
  have H := Lib.hid (fun t1 t2 => new_at w t1 t2)
  go_enter Try.func24, Try.ntmps24
  go_wp2_with fail
  go_ret
  refine ⟨_, _, rfl, H.out _ _, ((Still.refl _).alloc _).alloc _, ?_⟩
  intro b hb
  simp at hb
  omega

theorem new_any (w : World) : Calls Try.prog 10 #[] w (NewPost w) := by
  have H := Lib.hid (make_any w)
  go_enter Try.func10, Try.ntmps10
  go_wp2_with fail
  refine H.out.mono ?_
  rintro e w' ⟨t, F, rfl, h1, h2, h3⟩
  have FIN := Lib.hid (show NewPost w (.returned (ptr t)) w' from ⟨t, F, rfl, h1, h2, h3⟩)
  clear h1 h2 h3
  unfold ptr
  go_wp2_with fail
  go_ret
  exact FIN.out

theorem len_any (w : World) (t : Nat) (l : Nd 0) (F : List Nat) (h : TreeAt w t l F) : Calls Try.prog 18 #[ptr t] w (fun e w' => e = .returned (.int .i64 l.length) ∧ w' = w) := by
  obtain ⟨d, r, x, G, h1, -, -, -, -, -⟩ := h
  have c1 : w.cell? ⟨t, 1, none⟩ = some (.int .i64 l.length) := h1.cell 1
  clear h1
  unfold ptr
  go_enter Try.func18, Try.ntmps18
  go_wp2_with fail
  go_ret
  exact ⟨rfl, rfl⟩
end Go.Proofs.Ytjmkfppnimengaa

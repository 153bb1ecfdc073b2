/- Slices that are read: they lie in blocks of a set. No conditions. -/
import Derived.Test.YtojkggppcmdepaaGreatTrA
import Derived.Test.YtojkggppcmdepaaGreatChain
namespace Go.Proofs.YtojkggppcmdepaaGreat
open Go.RowKit Go.Wh Go.Maps

/-- The slice dv of m elements of sz cells reads as xs; it lies in a block of Q (an empty one anywhere). -/
def Sl (w : World) (Q : Nat → Prop) (sz : Nat) (dv : Value) (m : Nat) (xs : List Value) : Prop :=
  xs.length = m * sz ∧ (((dv = .slice none 0 0 ∨ ∃ a c, dv = .slice (some a) 0 c) ∧ m = 0) ∨ ∃ g o c, dv = .slice (some ⟨g, o, none⟩) m c ∧ (0 < m → Q g ∧ g < w.heap.size) ∧ ∀ j u, xs[j]? = some u → w.cell? ⟨g, o + j, none⟩ = some u)
section
variable {w w' : World} {Q X : Nat → Prop} {sz m : Nat} {dv : Value} {xs : List Value}
theorem Sl.only (h : Sl w Q sz dv m xs) (ho : Only X w w') (hq : ∀ g, Q g → ¬ X g) : Sl w' Q sz dv m xs := by
  refine ⟨h.1, h.2.imp id ?_⟩
  rintro ⟨g, o, c, rfl, h1, h2⟩
  refine ⟨g, o, c, rfl, fun hm => ⟨(h1 hm).1, Nat.lt_of_lt_of_le (h1 hm).2 ho.size⟩, fun j u hj => ?_⟩
  have hm : 0 < m := by
    rcases Nat.eq_zero_or_pos m with e | e
    · have := h.1
      rw [e, Nat.zero_mul, List.length_eq_zero_iff] at this
      rw [this] at hj
      cases hj
    · exact e
  exact (ho.cell (p := ⟨g, o + j, none⟩) (h1 hm).2 (hq g (h1 hm).1)).trans (h2 j u hj)
theorem Sl.still (h : Sl w Q sz dv m xs) (hs : Still w w') : Sl w' Q sz dv m xs := h.only hs fun _ _ e => e
theorem Sl.mono {R : Nat → Prop} (h : Sl w Q sz dv m xs) (hr : ∀ g, Q g → R g) : Sl w R sz dv m xs := by
  refine ⟨h.1, h.2.imp id ?_⟩
  rintro ⟨g, o, c, rfl, h1, h2⟩
  exact ⟨g, o, c, rfl, fun hm => ⟨hr g (h1 hm).1, (h1 hm).2⟩, h2⟩
theorem Sl.reads (h : Sl w Q sz dv m xs) : Reads w sz dv m xs := by
  refine ⟨h.1, ?_⟩
  rcases h.2 with ⟨h1 | ⟨a, c, rfl⟩, h2⟩ | h1
  · exact .inl ⟨h1, h2⟩
  · subst h2
    have h0 := h.1
    rw [Nat.zero_mul, List.length_eq_zero_iff] at h0
    exact .inr ⟨a, c, rfl, fun j u hj => by rw [h0] at hj; cases hj⟩
  right
  obtain ⟨g, o, c, rfl, h1, h2⟩ := h1
  exact ⟨_, _, rfl, fun j u hj => by rw [Addr.add_lit]; exact h2 j u hj⟩
theorem Sl.form (h : Sl w Q sz dv m xs) : ∃ a c, dv = .slice a m c := by
  rcases h.2 with ⟨rfl | ⟨a, c, rfl⟩, rfl⟩ | ⟨g, o, c, rfl, _⟩
  · exact ⟨_, _, rfl⟩
  · exact ⟨_, _, rfl⟩
  · exact ⟨_, _, rfl⟩
theorem Sl.pos (h : Sl w Q sz dv m xs) (hm : 0 < m) : ∃ g o c, dv = .slice (some ⟨g, o, none⟩) m c ∧ Q g ∧ g < w.heap.size ∧ ∀ j u, xs[j]? = some u → w.cell? ⟨g, o + j, none⟩ = some u := by
  rcases h.2 with ⟨_, rfl⟩ | ⟨g, o, c, e, h1, h2⟩
  · omega
  · exact ⟨g, o, c, e, (h1 hm).1, (h1 hm).2, h2⟩
theorem Vec.sl (h : Vec w sz dv m xs) (hq : ∀ g, dv.ownBlock = some g → Q g ∧ g < w.heap.size) : Sl w Q sz dv m xs := by
  refine ⟨h.len, ?_⟩
  rcases h with ⟨rfl, rfl, _⟩ | ⟨g, o, c, rfl, h⟩
  · exact .inl ⟨.inl rfl, rfl⟩
  · refine .inr ⟨g, o, c, rfl, fun hm => hq g rfl, fun j u hj => ?_⟩
    rw [h.cells j (by rw [← h.len]; exact (List.getElem?_eq_some_iff.1 hj).1)]
    exact hj
theorem Vec.sl0 (h : Vec w sz dv m xs) (hz : 0 < sz) : Sl w (fun _ => True) sz dv m xs := by
  refine ⟨h.len, ?_⟩
  rcases h with ⟨rfl, rfl, _⟩ | ⟨g, o, c, rfl, h⟩
  · exact .inl ⟨.inl rfl, rfl⟩
  · refine .inr ⟨g, o, c, rfl, fun hm => ⟨trivial, h.lt (Nat.mul_pos (by have := h.le; omega) hz)⟩, fun j u hj => ?_⟩
    rw [h.cells j (by rw [← h.len]; exact (List.getElem?_eq_some_iff.1 hj).1)]
    exact hj
theorem Sl.low (h : Sl w Q sz dv m xs) : Sl w (fun g => Q g ∧ g < w.heap.size) sz dv m xs := by
  refine ⟨h.1, h.2.imp id ?_⟩
  rintro ⟨g, o, c, rfl, h1, h2⟩
  exact ⟨g, o, c, rfl, fun hm => ⟨h1 hm, (h1 hm).2⟩, h2⟩
theorem Sl.nil : Sl w Q sz (.slice none 0 0) 0 [] := ⟨by simp, .inl ⟨.inl rfl, rfl⟩⟩
/-- An empty one, wherever it points. -/
theorem Sl.empty {a : Option Addr} {c : Nat} (h : a = none → c = 0) : Sl w Q sz (.slice a 0 c) 0 [] := by
  refine ⟨by simp, .inl ⟨?_, rfl⟩⟩
  cases a with
  | none => rw [h rfl]; exact .inl rfl
  | some a => exact .inr ⟨a, c, rfl⟩
end

/-- There is room for its elements. -/
def Cap (m : Nat) (dv : Value) : Prop := ∃ a c, dv = .slice a m c ∧ m ≤ c
theorem Vec.capOf {w : World} {sz m : Nat} {dv : Value} {xs : List Value} (h : Vec w sz dv m xs) : Cap m dv := by
  rcases h with ⟨rfl, rfl, _⟩ | ⟨g, o, c, rfl, h⟩
  · exact ⟨_, _, rfl, Nat.le_refl _⟩
  · exact ⟨_, _, rfl, h.le⟩
theorem Sl.part {P : Program} {size m : Nat} {v : Value} {xs : List Value} (t : TypeId) (ht : P.underlying t = some (.slice (P.elem t))) (hz : ∀ w, (sizeOf (P.elem t)).run P w = .ok size w) {w0 : World} {Q0 : Nat → Prop} (h0 : Sl w0 Q0 size v m xs) (hc : Cap m v) {lo hi : Nat} (h1 : lo ≤ hi) (h2 : hi ≤ m) :
    ∃ v', (∀ w, (Instr.slice t v (some (.int .i64 (lo : Int))) (some (.int .i64 (hi : Int))) none).run P w = .ok v' w) ∧ (lo = 0 → ∀ w, (Instr.slice t v none (some (.int .i64 (hi : Int))) none).run P w = .ok v' w) ∧ (hi = m → ∀ w, (Instr.slice t v (some (.int .i64 (lo : Int))) none none).run P w = .ok v' w) ∧ Cap (hi - lo) v' ∧
      ∀ w Q, Sl w Q size v m xs → Sl w Q size v' (hi - lo) ((xs.drop (lo * size)).take ((hi - lo) * size)) := by
  obtain ⟨hl, h0⟩ := h0
  have e1 : lo * size + (hi - lo) * size = hi * size := by rw [← Nat.add_mul]; congr 1; omega
  have e2 := Nat.mul_le_mul_right size h2
  have hlen : ((xs.drop (lo * size)).take ((hi - lo) * size)).length = (hi - lo) * size := by rw [List.length_take, List.length_drop]; omega
  rcases h0 with ⟨rfl | ⟨a, c, rfl⟩, rfl⟩ | ⟨g, o, c, rfl, -, -⟩
  rotate_left
  · have n1 : hi = 0 := by omega
    have n2 : lo = 0 := by omega
    subst n1 n2
    have e : ∃ a' c', sliced (some a) 0 0 c size = .slice (some a') 0 c' := by
      unfold sliced
      split <;> exact ⟨_, _, rfl⟩
    obtain ⟨a', c', e⟩ := e
    refine ⟨sliced (some a) 0 0 c size, fun w => ?_, fun _ w => ?_, fun _ w => ?_, ⟨_, _, e, by simp⟩, fun w Q _ => ⟨hlen, .inl ⟨.inr ⟨a', c', e⟩, by simp⟩⟩⟩
    · rw [run_slice_lh w t _ _ _ ht .i64 .i64 _ _ (by omega) (by omega) (by omega), hz]
      rfl
    · rw [run_slice_h w t _ _ _ ht .i64 _ (by omega) (by omega), hz]
      rfl
    · rw [run_slice_l w t _ _ _ ht .i64 _ (by omega) (by omega), hz]
      rfl
  rotate_left
  · have n1 : hi = 0 := by omega
    have n2 : lo = 0 := by omega
    subst n1 n2
    refine ⟨.slice none 0 0, fun w => ?_, fun _ w => ?_, fun _ w => ?_, ⟨_, _, rfl, Nat.le_refl _⟩, fun w Q _ => ⟨hlen, .inl ⟨.inl rfl, rfl⟩⟩⟩
    · rw [run_slice_lh w t none 0 0 ht .i64 .i64 _ _ (by omega) (by omega) (by omega), hz]
      simp [Result.andThen, sliced]
    · rw [run_slice_h w t none 0 0 ht .i64 _ (by omega) (by omega), hz]
      simp [Result.andThen, sliced]
    · rw [run_slice_l w t none 0 0 ht .i64 _ (by omega) (by omega), hz]
      simp [Result.andThen, sliced]
  · have hle : m ≤ c := by
      obtain ⟨a, c', e, h⟩ := hc
      injection e with _ _ e
      omega
    have e : sliced (some ⟨g, o, none⟩) lo hi c size = .slice (some (cutAddr size g o lo c)) (hi - lo) (c - lo) := by
      unfold sliced cutAddr
      split <;> simp
    refine ⟨sliced (some ⟨g, o, none⟩) lo hi c size, fun w => ?_, fun e w => ?_, fun e w => ?_, ⟨_, _, e, by omega⟩, fun w Q hw => ⟨hlen, ?_⟩⟩
    · rw [run_slice_lh w t _ _ _ ht .i64 .i64 _ _ (by omega) (by omega) (by omega), hz]
      rfl
    · subst e
      rw [run_slice_h w t _ _ _ ht .i64 _ (by omega) (by omega), hz]
      rfl
    · subst e
      rw [run_slice_l w t _ _ _ ht .i64 _ (by omega) (by omega), hz]
      rfl
    · by_cases hm : c = lo
      · refine .inr ⟨g, o, c - lo, by rw [e]; unfold cutAddr; rw [if_pos hm], fun h => by omega, fun j u hj => ?_⟩
        have := (List.getElem?_eq_some_iff.1 hj).1
        rw [hlen, show hi - lo = 0 by omega, Nat.zero_mul] at this
        omega
      · refine .inr ⟨g, o + lo * size, c - lo, by rw [e, cutAddr_eq _ _ _ _ _ hm], fun h => ?_, fun j u hj => ?_⟩
        · obtain ⟨g', o', c', e', h3, h4, _⟩ := hw.pos (by omega)
          injection e' with e' _ _
          injection e' with e'
          injection e' with e' _ _
          rw [e']
          exact ⟨h3, h4⟩
        · have hj' := (List.getElem?_eq_some_iff.1 hj).1
          rw [hlen] at hj'
          rw [List.getElem?_take, if_pos hj', List.getElem?_drop] at hj
          have hmp : 0 < m := by
            rcases Nat.eq_zero_or_pos m with e0 | e0
            · rw [show hi - lo = 0 by omega, Nat.zero_mul] at hj'
              omega
            · exact e0
          obtain ⟨g', o', c', e', _, _, h5⟩ := hw.pos hmp
          injection e' with e' _ _
          injection e' with e'
          injection e' with e1' e2' _
          rw [e1', e2', Nat.add_assoc]
          exact h5 _ _ hj

end Go.Proofs.YtojkggppcmdepaaGreat

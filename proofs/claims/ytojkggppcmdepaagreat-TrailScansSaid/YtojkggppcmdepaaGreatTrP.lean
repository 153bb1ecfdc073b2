/- Which numbers, places, moves fit. Conditions: they lie in memory. -/
import Derived.Test.YtojkggppcmdepaaGreatTrO
namespace Go.Proofs.YtojkggppcmdepaaGreat
open Go.RowKit Go.Wh Go.Maps

theorem contains_int (w : World) (dv : Value) (m : Nat) (l : List Int) (nb n : Nat) (hd : Sl w (fun _ => True) 1 dv m (ic l)) (hl : l.length = m) (hc : w.cell? ⟨nb, 0, none⟩ = some (.int .i64 n)) (hn : n ≤ 3) (hm : m ≤ 10) :
    Calls Tryz.prog 123 #[dv, .func (.func 124) #[] #[.pointer (some ⟨nb, 0, none⟩)]] w (StPost w (.bool (!fitsB n l))) := by
  have HI := Lib.hid (idx_int w dv m l nb n hd hl hc hn hm)
  obtain ⟨q, hq⟩ : ∃ q, (!fitsB n l) = q := ⟨_, rfl⟩
  rw [hq] at HI ⊢
  clear hd hl hc hn hm hq
  go_enter Tryz.func123, Tryz.ntmps123
  go_wp2_with fail
  refine HI.out.mono ?_
  rintro e w' ⟨z, rfl, hz, hs⟩
  have F := Lib.hid (show StPost w (.bool q) (.returned (.bool (decide (0 ≤ z)))) w' from ⟨by rw [hz], hs⟩)
  clear hz hs
  go_wp2_with fail
  go_ret
  exact F.out

theorem fits_any (w : World) (dv : Value) (m : Nat) (l : List Int) (n : Nat) (hd : Sl w (fun _ => True) 1 dv m (ic l)) (hl : l.length = m) (hn : n ≤ 3) (hm : m ≤ 10) :
    Calls Tryz.prog 97 #[.int .i64 n, dv] w (StPost w (.bool (fitsB n l))) := by
  have HI := Lib.hid (contains_int (w.alloc (.cells #[.int .i64 n] 3)) dv m l w.heap.size n (hd.still ((Still.refl w).alloc _)) hl ((cellsAt_new w [.int .i64 n] 3).cell 0) hn hm)
  obtain ⟨q, hq⟩ : ∃ q, fitsB n l = q := ⟨_, rfl⟩
  rw [hq] at HI ⊢
  clear hd hl hn hm hq
  go_enter Tryz.func97, Tryz.ntmps97
  go_wp2_with fail
  refine HI.out.mono ?_
  rintro e w' ⟨rfl, hs⟩
  have F := Lib.hid (show StPost w (.bool q) (.returned (.bool q)) w' from ⟨rfl, ((Still.refl w).alloc _).trans hs⟩)
  clear hs
  cases q
  all_goals
    go_wp2_with fail
    go_ret
    exact F.out

theorem fit_new {w : World} (n m : Nat) {N : Int} (hN : (n : Int) = N) (l : List Int) (tt : TypeId) {B : Nat} (hB : w.heap.size = B) (hl : l.length = m) (hn : n ≤ 3) (hm : m ≤ 10) {W : World} (hs : Still W w) :
    Calls Tryz.prog 97 #[.int .i64 N, .slice (some ⟨B, 0, none⟩) m m] (w.alloc (.cells (ic l).toArray tt)) (StPost W (.bool (fitsB n l))) := by
  subst hN
  subst hB
  have hc := cellsAt_new w (ic l) tt
  refine (fits_any _ (.slice (some ⟨w.heap.size, 0, none⟩) m m) m l n ⟨by unfold ic; rw [List.length_map]; omega, .inr ⟨_, _, _, rfl, fun _ => ⟨trivial, by simp⟩, fun j u hj => by rw [Nat.zero_add, hc.cell]; exact hj⟩⟩ hl hn hm).mono ?_
  rintro e w' ⟨rfl, h⟩
  exact ⟨rfl, (hs.alloc _).trans h⟩

theorem spot_may (w : World) (p c : Int) : Calls Tryz.prog 102 #[.agg #[.int .i64 p, .int .i64 c]] w (StPost w (.bool (fitsB 1 [p, c]))) := by
  have HN := Lib.hid (fun t tt => fit_new (w := w.alloc (.cells #[.int .i64 p, .int .i64 c] t)) 1 2 rfl [p, c] tt (B := w.heap.size + 1) (by simp) rfl (by omega) (by omega) (W := w) ((Still.refl w).alloc _))
  obtain ⟨q, hq⟩ : ∃ q, fitsB 1 [p, c] = q := ⟨_, rfl⟩
  rw [hq] at HN ⊢
  clear hq
  go_enter Tryz.func102, Tryz.ntmps102
  go_wp2_with fail
  refine (HN.out _ _).mono ?_
  rintro e w' ⟨rfl, hs⟩
  have F := Lib.hid (show StPost w (.bool q) (.returned (.bool q)) w' from ⟨rfl, hs⟩)
  clear hs
  go_wp2_with fail
  go_ret
  exact F.out

theorem move_may (w : World) (m : PMv) : Calls Tryz.prog 101 #[.agg #[.int .i64 m.fp, .int .i64 m.fc, .int .i64 m.tp, .int .i64 m.tc]] w (StPost w (.bool (mvMay m))) := by
  obtain ⟨a, b, c, d⟩ := m
  have hq : mvMay ⟨a, b, c, d⟩ = (fitsB 1 [a, b] && fitsB 1 [c, d]) := rfl
  rw [hq]
  have hst : Still w (w.alloc (.cells #[.int .i64 a, .int .i64 b, .int .i64 c, .int .i64 d] 119)) := (Still.refl w).alloc _
  have hbx := cellsAt_new w [.int .i64 a, .int .i64 b, .int .i64 c, .int .i64 d] 119
  have HN := Lib.hid (fun w' => spot_may w' a b)
  have HM := Lib.hid (fun w' => spot_may w' c d)
  have HK := Lib.hid (fun w' (hs : Still (w.alloc (.cells #[.int .i64 a, .int .i64 b, .int .i64 c, .int .i64 d] 119)) w') => show Still w w' ∧ cellsAt w' w.heap.size [.int .i64 a, .int .i64 b, .int .i64 c, .int .i64 d] from ⟨hst.trans hs, hbx.only hs fun e => e⟩)
  generalize fitsB 1 [a, b] = q1 at *
  generalize fitsB 1 [c, d] = q2 at *
  clear hq hst hbx
  cases q1
  all_goals
    go_enter Tryz.func101, Tryz.ntmps101
    go_wp2_with fail
    refine (HN.out _).mono ?_
    rintro e w2 ⟨rfl, hs⟩
    obtain ⟨h1, h2⟩ := HK.out _ hs
    have c2 : w2.cell? ⟨w.heap.size, 2, none⟩ = some (.int .i64 c) := h2.cell 2
    have c3 : w2.cell? ⟨w.heap.size, 3, none⟩ = some (.int .i64 d) := h2.cell 3
    have HS := Lib.hid h1
    clear h1 h2 hs
    go_wp2_with fail
  · go_ret
    exact ⟨rfl, HS.out⟩
  · refine (HM.out _).mono ?_
    rintro e w3 ⟨rfl, hs⟩
    have F := Lib.hid (show StPost w (.bool (true && q2)) (.returned (.bool q2)) w3 from ⟨by rw [Bool.true_and], HS.out.trans hs⟩)
    clear hs
    go_wp2_with fail
    go_ret
    exact F.out
theorem image_may (w : World) (Q : Nat → Prop) (dv : Value) (m : Nat) (l : List Int) (hd : Sl w Q 1 dv m (bc l)) : Calls Tryz.prog 103 #[dv] w (StPost w (.bool (imgB l))) := by
  have hl : l.length = m := by have := hd.1; rw [bc_length] at this; omega
  obtain ⟨da, dc, rfl⟩ := hd.form
  have hq : imgB l = (decide (m = 0) || decide (m = 26)) := by unfold imgB; rw [hl]
  rw [hq]
  clear hd hl hq
  by_cases h0 : m = 0
  · subst h0
    go_enter Tryz.func103, Tryz.ntmps103
    go_wp2_with fail
    go_ret
    exact ⟨rfl, Still.refl _⟩
  · have e1 : ((m : Int) == 0) = false := by simp; exact h0
    have e2 : decide (m = 0) = false := decide_eq_false h0
    rw [e2]
    by_cases h1 : m = 26
    · subst h1
      go_enter Tryz.func103, Tryz.ntmps103
      go_wp2_with fail
      go_ret
      exact ⟨rfl, Still.refl _⟩
    · have e3 : ((m : Int) == 26) = false := by simp; omega
      have e4 : decide (m = 26) = false := decide_eq_false h1
      rw [e4]
      clear h0 h1 e2 e4
      go_enter Tryz.func103, Tryz.ntmps103
      go_wp2_with fail
      go_ret
      exact ⟨rfl, Still.refl _⟩
end Go.Proofs.YtojkggppcmdepaaGreat

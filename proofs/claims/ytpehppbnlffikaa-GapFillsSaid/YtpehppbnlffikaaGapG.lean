/- The law's own first look at package gap: it does something. No conditions. -/
import Derived.Test.YtpehppbnlffikaaGapF
namespace Go.Proofs.Ytpehppbnlffikaa
open Go.RowKit Go.Wh Go.Maps

theorem fits_small (p c : Int) (h1 : -100 ≤ p) (h2 : p ≤ 100) (h3 : -100 ≤ c) (h4 : c ≤ 100) : Fits (p, c) := ⟨WalkArith.wf_i64 (by omega), WalkArith.wf_i64 (by omega)⟩

theorem b1 : firstFree (upd (fun _ => false) (0, 0) true) (upd (fun _ => none) (0, 1) (some 1)) 2 (cellsOf 0 2 4) = some (0, 2) := by decide
theorem b2 : firstFree (upd (fun _ => false) (0, 0) true) (upd (fun _ => none) (0, 1) (some 1)) 1 (cellsOf 0 2 4) = some (0, 1) := by decide
theorem b3 : cnt (upd (fun _ => false) (0, 0) true) (cellsOf 0 2 4) = 1 := by decide
theorem b4 : cnt (heldOnly (upd (fun _ => false) (0, 0) true) (upd (fun _ => none) (0, 1) (some 1))) (cellsOf 0 2 4) = 1 := by decide

theorem grown_below {w w' : World} {B r : Nat} (h : w.grownBy w' (some r)) (hr : B ≤ r) (hB : B ≤ w.heap.size) : Below B w w' :=
  ⟨h.os, h.tape, h.output, h.size, fun k hk => h.block k (by omega) (fun e => by injection e with e; omega)⟩

set_option maxHeartbeats 2000000 in
theorem begun_any (w : World) : Calls Try.prog 5 #[] w fun e w' => e = .returned (.bool true) ∧ Below w.heap.size w w' := by
  go_enter Try.func5, Try.ntmps5
  go_wp2_with fail
  refine (new_any 2 _).mono ?_
  rintro e w1 ⟨hB1, mb, ub, hb, rfl, hm, hu, hh, g1⟩
  go_wp2_with fail
  refine (use_in mb ub hb _ 0 0 _ _ true _ g1 (fits_small _ _ (by omega) (by omega) (by omega) (by omega)) (by decide)).mono ?_
  rintro e w2 ⟨rfl, g2, hg2⟩
  have hB2 := hB1.trans (grown_below hg2 hu hB1.size)
  clear hB1 hg2
  go_wp2_with fail
  refine (hold_in mb ub hb _ 0 1 1 _ _ _ g2 (fits_small _ _ (by omega) (by omega) (by omega) (by omega)) (by decide) (by decide)).mono ?_
  rintro e w3 ⟨rfl, g3, hg3⟩
  have hB3 := hB2.trans (grown_below hg3 hh hB2.size)
  clear hB2 hg3
  go_wp2_with fail
  refine (next_any mb ub hb _ 0 2 4 2 _ _ _ g3 (by decide) (by decide) (by decide) (by decide) (by decide)).mono ?_
  rintro e w4 ⟨rfl, hb4⟩
  have g4 := g3.below hb4
  have hB4 := hB3.trans (hb4.mono hB3.size)
  clear hB3 hb4 g3
  rw [b1]
  unfold nextVal
  go_wp2_with fail
  have h4 := box2_new w4 (.int .i64 0) (.int .i64 2) 28
  refine (next_any mb ub hb _ 0 2 4 1 _ _ _ (g4.alloc _) (by decide) (by decide) (by decide) (by decide) (by decide)).mono ?_
  rintro e w5 ⟨rfl, hb5⟩
  have g5 := (g4.alloc (Obj.cells #[Value.int IntKind.i64 0, Value.int IntKind.i64 2] 28)).below hb5
  have hB5 := (hB4.alloc hB4.size (Obj.cells #[Value.int IntKind.i64 0, Value.int IntKind.i64 2] 28)).trans (hb5.mono (by have := hB4.size; simp; omega))
  have h5 := h4.below hb5
  have hs5 := hb5.size
  clear hB4 hb5 g4 h4
  rw [b2]
  unfold nextVal
  have c0 : (w5.alloc (Obj.cells #[Value.int IntKind.i64 0, Value.int IntKind.i64 1] 28)).cell? ⟨w4.heap.size, 1, none⟩ = some (.int .i64 2) := by
    rw [World.cell?_alloc_lt _ _ _ (by simp at hs5 ⊢; omega)]
    exact h5.c1
  clear h5 hs5
  go_wp2_with fail
  refine (used_any mb ub hb _ 0 2 _ _ _ (g5.alloc _) (by decide) (by decide) (by decide)).mono ?_
  rintro e w6 ⟨rfl, hb6⟩
  have g6 := (g5.alloc (Obj.cells #[Value.int IntKind.i64 0, Value.int IntKind.i64 1] 28)).below hb6
  have hB6 := (hB5.alloc hB5.size (Obj.cells #[Value.int IntKind.i64 0, Value.int IntKind.i64 1] 28)).trans (hb6.mono (by have := hB5.size; simp; omega))
  clear hb6 g5 hB5 c0
  rw [b3]
  go_wp2_with fail
  refine (held_any mb ub hb _ 0 2 _ _ _ g6 (by decide) (by decide) (by decide)).mono ?_
  rintro e w7 ⟨rfl, hb7⟩
  have hB7 := Lib.hid (hB6.trans (hb7.mono hB6.size))
  clear hb7 hB6 g6
  rw [b4]
  go_wp2_with fail
  go_ret
  exact ⟨rfl, hB7.out⟩
end Go.Proofs.Ytpehppbnlffikaa

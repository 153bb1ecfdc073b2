/- The reader of bytes: so many, a number. Conditions: it lies in memory, apart from its bytes. -/
import Derived.Test.YtojkggppcmdepaaGreatTrR
namespace Go.Proofs.YtojkggppcmdepaaGreat
open Go.RowKit Go.Wh Go.Maps

/-- The reader at r: what is left, whether it was too short. Since W nothing but X has turned; its bytes lie in Q. -/
structure RAt (W : World) (X Q : Nat → Prop) (r : Nat) (s : RS) (w : World) : Prop where
  only : Only X W w
  rx : X r
  rl : r < W.heap.size
  qx : ∀ g, Q g → ¬ X g ∧ g < W.heap.size
  b : ∃ bv, cellsAt w r [bv, .bool s.2] ∧ Sl w Q 1 bv s.1.length (bc s.1) ∧ Cap s.1.length bv
  byt : Byt s.1
section
variable {W w w' : World} {X Q : Nat → Prop} {r : Nat} {s s' : RS}
theorem RAt.still (h : RAt W X Q r s w) (hs : Still w w') : RAt W X Q r s w' := by
  obtain ⟨bv, h1, h2, h3⟩ := h.b
  exact ⟨h.only.trans (hs.mono fun _ e => e.elim), h.rx, h.rl, h.qx, ⟨bv, h1.only hs (fun e => e), h2.still hs, h3⟩, h.byt⟩
theorem RAt.base (h : RAt W X Q r s w) : RAt w (fun b => b = r) Q r s w := by
  obtain ⟨bv, h1, h2⟩ := h.b
  exact ⟨Only.refl _ _, rfl, h1.lt, fun g hg => ⟨fun e => (h.qx g hg).1 (e ▸ h.rx), Nat.lt_of_lt_of_le (h.qx g hg).2 h.only.size⟩, ⟨bv, h1, h2⟩, h.byt⟩
theorem RAt.back (h : RAt W X Q r s w) (k : RAt w (fun b => b = r) Q r s' w') : RAt W X Q r s' w' :=
  ⟨h.only.trans (k.only.mono fun b e => by rw [e]; exact h.rx), h.rx, h.rl, h.qx, k.b, k.byt⟩
end
/-- What is taken of it, and what is left. -/
def TkPost (W : World) (X Q : Nat → Prop) (r : Nat) (n : Nat) (t : List Int × RS) (e : Ending) (w' : World) : Prop := ∃ v, e = .returned v ∧ Sl w' (fun _ => True) 1 v n (bc t.1) ∧ RAt W X Q r t.2 w'

theorem make_b (n : Nat) (hn : n ≤ 255) (w : World) : (Instr.makeSlice 23 (.int .i64 n) (.int .i64 n)).run Tryz.prog w = .ok (.slice (some ⟨w.heap.size, 0, none⟩) n n) (w.alloc (.cells (bc (List.replicate n 0)).toArray 5)) := by
  obtain ⟨i, hi, hz0, hz1, hz2⟩ := info_parts info_b
  have h := run_makeSlice (P := Tryz.prog) (w := w) 23 5 i (.int .u8 0) Tryz.underlying23 hi hz0 .i64 .i64 n n (by omega) (by omega) (by rw [hz1, Int.toNat_natCast]; omega) (by rw [hz2]; omega) (by omega)
  rw [hz1, Int.toNat_natCast] at h
  have e : madeCells (Value.int .u8 0).cells (n * 1) = (bc (List.replicate n 0)).toArray := by
    apply Array.ext
    · simp [madeCells, bc]
    · intro j h1 h2
      simp [madeCells, bc, Value.cells, Nat.mod_one]
  rw [e] at h
  exact h
set_option maxHeartbeats 1000000 in
set_option maxRecDepth 100000 in
theorem take_any (W w : World) (X Q : Nat → Prop) (r n : Nat) (s : RS) (h : RAt W X Q r s w) (hn : n ≤ 255) (hl : s.1.length ≤ 100000) :
    Calls Tryz.prog 133 #[.pointer (some ⟨r, 0, none⟩), .int .i64 n] w (TkPost W X Q r n (tkS n s)) := by
  obtain ⟨l, sh⟩ := s
  obtain ⟨bv, hc, hb, hcap⟩ := h.b
  dsimp only at hc hb hl hcap
  have f0 := hc.free 0
  have f1 := hc.free 1
  have c1 : w.cell? ⟨r, 1, none⟩ = some (.bool sh) := hc.cell 1
  by_cases hlt : l.length < n
  · have d1 : decide ((l.length : Int) < (n : Int)) = true := decide_eq_true (by omega)
    have d2 : decide (l.length < n) = true := decide_eq_true hlt
    have hmk := make_b n hn
    have F := Lib.hid (fun t => show TkPost W X Q r n (tkS n (l, sh)) (.returned (.slice (some ⟨w.heap.size, 0, none⟩) n n)) (((w.setCell ⟨r, 0, none⟩ (.slice none 0 0)).setCell ⟨r, 1, none⟩ (.bool true)).alloc (.cells (bc (List.replicate n 0)).toArray t)) from by
      have hts : tkS n (l, sh) = (List.replicate n 0, ([], true)) := by unfold tkS; rw [if_pos hlt]
      rw [hts]
      have hs1 := setCell_only w ⟨r, 0, none⟩ (.slice none 0 0)
      have hs2 := setCell_only (w.setCell ⟨r, 0, none⟩ (.slice none 0 0)) ⟨r, 1, none⟩ (.bool true)
      have hs : Only (fun b => b = r) w ((w.setCell ⟨r, 0, none⟩ (.slice none 0 0)).setCell ⟨r, 1, none⟩ (.bool true)) := hs1.trans hs2
      have hz : ((w.setCell ⟨r, 0, none⟩ (.slice none 0 0)).setCell ⟨r, 1, none⟩ (.bool true)).heap.size = w.heap.size := by simp [World.setCell]
      have hcc := ((hc.setCell 0 (.slice none 0 0)).setCell 1 (.bool true) : cellsAt _ r _)
      have hnew := cellsAt_new ((w.setCell ⟨r, 0, none⟩ (.slice none 0 0)).setCell ⟨r, 1, none⟩ (.bool true)) (bc (List.replicate n 0)) t
      rw [hz] at hnew
      refine ⟨_, rfl, ⟨by rw [bc_length, List.length_replicate, Nat.mul_one], .inr ⟨_, _, _, rfl, fun _ => ⟨trivial, hnew.lt⟩, fun j u hj => by rw [Nat.zero_add, hnew.cell]; exact hj⟩⟩, ?_⟩
      exact ⟨(h.only.trans (hs.mono fun b e => by rw [show b = r from e]; exact h.rx)).alloc _, h.rx, h.rl, h.qx, ⟨.slice none 0 0, hcc.alloc _, Sl.nil, ⟨_, _, rfl, Nat.le_refl _⟩⟩, fun z hz => by cases hz⟩)
    obtain ⟨ba, bcp, rfl⟩ := hb.form
    have c0 : w.cell? ⟨r, 0, none⟩ = some (.slice ba l.length bcp) := hc.cell 0
    generalize tkS n (l, sh) = TK at *
    generalize l.length = L at *
    clear hc hlt hn hl h hb hcap
    go_enter Tryz.func133, Tryz.ntmps133
    go_wp2_with fail
    go_ret
    exact F.out _
  · have d1 : decide ((l.length : Int) < (n : Int)) = false := decide_eq_false (by omega)
    have d2 : decide (l.length < n) = false := decide_eq_false hlt
    obtain ⟨pv, -, r1, -, hp1, hp2⟩ := hb.part (P := Tryz.prog) (size := 1) 23 Tryz.underlying23 (fun w => rfl) hcap (Nat.zero_le n) (show n ≤ l.length by omega)
    obtain ⟨qv, -, -, r2, hq1, hq2⟩ := hb.part (P := Tryz.prog) (size := 1) 23 Tryz.underlying23 (fun w => rfl) hcap (show n ≤ l.length by omega) (Nat.le_refl _)
    have r1' := r1 rfl
    have r2' := r2 rfl
    have F := Lib.hid (show TkPost W X Q r n (tkS n (l, sh)) (.returned pv) (w.setCell ⟨r, 0, none⟩ qv) from by
      have hts : tkS n (l, sh) = (l.take n, (l.drop n, sh)) := by unfold tkS; rw [if_neg hlt]
      rw [hts]
      have hs := setCell_only w ⟨r, 0, none⟩ qv
      have hcc := (hc.setCell 0 qv : cellsAt _ r _)
      have hqr : ∀ g, Q g → ¬ g = r := fun g hg e => (h.qx g hg).1 (e ▸ h.rx)
      have hps := (hp2 w Q hb).only hs hqr
      have hqs := (hq2 w Q hb).only hs hqr
      refine ⟨_, rfl, ?_, h.only.trans (hs.mono fun b e => by rw [show b = r from e]; exact h.rx), h.rx, h.rl, h.qx, ⟨qv, hcc, ?_, ?_⟩, h.byt.drop n⟩
      · have := hps.mono (R := fun _ => True) fun _ _ => trivial
        rw [Nat.zero_mul, List.drop_zero, Nat.sub_zero, Nat.mul_one, bc_take] at this
        exact this
      · rw [Nat.mul_one, Nat.mul_one, bc_drop, List.take_of_length_le (by rw [bc_length, List.length_drop]; omega)] at hqs
        rw [List.length_drop]
        exact hqs
      · rw [List.length_drop]
        exact hq1)
    obtain ⟨ba, bcp, rfl⟩ := hb.form
    have c0 : w.cell? ⟨r, 0, none⟩ = some (.slice ba l.length bcp) := hc.cell 0
    generalize tkS n (l, sh) = TK at *
    generalize l.length = L at *
    obtain ⟨pa, pc, rfl, -⟩ := hp1
    obtain ⟨qa, qc, rfl, -⟩ := hq1
    clear hc hlt hn hl h hb hcap hp2 hq2 r1 r2
    go_enter Tryz.func133, Tryz.ntmps133
    go_wp2_with fail
    go_ret
    exact F.out
end Go.Proofs.YtojkggppcmdepaaGreat

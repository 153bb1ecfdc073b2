/- The reader of bytes: units; lists of lives, dirty pages. Conditions: it lies in memory, apart from its bytes. -/
import Derived.Test.YtojkggppcmdepaaGreatTrY
namespace Go.Proofs.YtojkggppcmdepaaGreat
open Go.RowKit Go.Wh Go.Maps

/-- A unit that is read. -/
def UnPost (W w : World) (X Q : Nat → Prop) (r : Nat) (o : POp) (s : RS) (e : Ending) (w' : World) : Prop :=
  ∃ ma mc, e = .returned (.agg #[.int .i64 o.unit, .slice ma o.moves.length mc, .int .i64 o.done]) ∧ Sl w' (fun g => w.heap.size ≤ g) 4 (.slice ma o.moves.length mc) o.moves.length (o.moves.flatMap mvC) ∧ RAt W X Q r s w'
theorem loopS_len {α : Type} {f : RS → α × RS} {k : Nat} (hf : ∀ s : RS, s.1.length ≤ k → (f s).2.1.length ≤ k) : ∀ (n : Nat) (s : RS), s.1.length ≤ k → (loopS f n s).2.1.length ≤ k
  | 0, _, h => h
  | n + 1, s, h => by
    unfold loopS
    split
    · exact h
    · exact loopS_len hf n _ (hf s h)
theorem readsS_len {α : Type} {f : RS → α × RS} {k : Nat} (hf : ∀ s : RS, s.1.length ≤ k → (f s).2.1.length ≤ k) {s : RS} (h : s.1.length ≤ k) : (readsS f s).2.1.length ≤ k := loopS_len hf _ _ (numS_len h)
theorem opS_len {s : RS} {k : Nat} (h : s.1.length ≤ k) : (opS s).2.1.length ≤ k := readsS_len (fun _ => mvS_len) (numS_len (numS_len h))
set_option maxHeartbeats 2000000 in
set_option maxRecDepth 100000 in
theorem rop_any {W w : World} {X Q : Nat → Prop} {r : Nat} {s : RS} (h : RAt W X Q r s w) (hl : s.1.length ≤ 100000) :
    Calls Tryz.prog 117 #[.pointer (some ⟨r, 0, none⟩)] w (UnPost W w X Q r (opS s).1 (opS s).2) := by
  have hst : Still w (w.alloc (.cells #[.int .i64 0, .slice none 0 0, .int .i64 0] 112)) := (Still.refl w).alloc _
  have HN := Lib.hid (rnum_any 2 rfl (h.still hst).base (by omega) hl)
  have HS := Lib.hid (fun q w' (k : RAt (w.alloc (.cells #[.int .i64 0, .slice none 0 0, .int .i64 0] 112)) (fun b => b = r) Q r q w') u => BxSt.start h [.int .i64 0, .slice none 0 0, .int .i64 0] (u :: [.slice none 0 0, .int .i64 0]) 112 112 k)
  unfold opS
  dsimp only
  generalize hq0 : numS 2 s = q0 at *
  have hl0 : q0.2.1.length ≤ 100000 := by rw [← hq0]; exact numS_len hl
  generalize hq1 : numS 1 q0.2 = q1 at *
  have hl1 : q1.2.1.length ≤ 100000 := by rw [← hq1]; exact numS_len hl0
  generalize hq2 : readsS mvS q1.2 = q2 at *
  have HM1 := Lib.hid (fun (W2 : World) (X2 : Nat → Prop) w2 (k : RAt W2 X2 Q r q0.2 w2) => rnum_any 1 rfl k (by omega) hl0)
  rw [hq1] at HM1
  have HM2 := Lib.hid (fun (W2 : World) (X2 : Nat → Prop) w2 (k : RAt W2 X2 Q r q1.2 w2) => reads_mv k hl1)
  rw [hq2] at HM2
  clear h hl hst hl0 hq0 hl1 hq1 hq2
  go_enter Tryz.func117, Tryz.ntmps117
  go_wp2_with fail
  refine HN.out.mono ?_
  rintro e w2 ⟨rfl, k2⟩
  have HB0 := Lib.hid (HS.out _ _ k2 (.int .i64 q0.1))
  have HZ2 := Lib.hid (show w.heap.size < w2.heap.size from by have := k2.only.size; simp at this; omega)
  clear k2 HN HS
  go_wp2_with fail
  refine (HM1.out _ _ _ HB0.out.rd.base).mono ?_
  rintro e w3 ⟨rfl, k1⟩
  have hb1 := HB0.out.call k1
  have e1 := hb1.c.cell 2
  have f1 := hb1.c.free 2
  have HB1 := Lib.hid (hb1.store 2 (.int .i64 q1.1))
  have HZ3 := Lib.hid (show w2.heap.size < (w3.setCell ⟨w2.heap.size, 2, none⟩ (.int .i64 q1.1)).heap.size from by have := hb1.c.lt; simpa [World.setCell] using this)
  clear hb1 k1
  go_wp2_with fail
  refine (HM2.out _ _ _ HB1.out.rd.base).mono ?_
  rintro e w4 ⟨mv, rfl, hmv, k2⟩
  have hb2 := HB1.out.call k2
  obtain ⟨ma, mc, rfl⟩ := hmv.form
  have e2 := hb2.c.cell 1
  have f2 := hb2.c.free 1
  have HB2 := Lib.hid (hb2.store 1 (.slice ma q2.1.length mc))
  have HMV := Lib.hid hmv
  have c0 := hb2.c.cell 0
  have z0 := hb2.z.cell 0
  have y0 := hb2.z.free 0
  have c1 := hb2.c.cell 1
  have z1 := hb2.z.cell 1
  have y1 := hb2.z.free 1
  have c2 := hb2.c.cell 2
  have z2 := hb2.z.cell 2
  have y2 := hb2.z.free 2
  have hne : w.heap.size ≠ w2.heap.size := hb2.ne
  clear hb2 k2 hmv
  have F := Lib.hid (show UnPost W w X Q r ⟨q0.1, q2.1, q1.1⟩ q2.2 (.returned (.agg #[.int .i64 q0.1, .slice ma q2.1.length mc, .int .i64 q1.1])) ((((w4.setCell ⟨w2.heap.size, 1, none⟩ (.slice ma q2.1.length mc)).setCell ⟨w.heap.size, 0, none⟩ (.int .i64 q0.1)).setCell ⟨w.heap.size, 1, none⟩ (.slice ma q2.1.length mc)).setCell ⟨w.heap.size, 2, none⟩ (.int .i64 q1.1)) from ⟨ma, mc, rfl, by
    have hz2 := HZ2.out
    have hz3 := HZ3.out
    have s1 := HMV.out.only (setCell_only w4 ⟨w2.heap.size, 1, none⟩ (.slice ma q2.1.length mc)) fun g hg e => by have e' : g = w2.heap.size := e; omega
    have s2 := s1.only (setCell_only _ ⟨w.heap.size, 0, none⟩ (.int .i64 q0.1)) fun g hg e => by have e' : g = w.heap.size := e; omega
    have s3 := s2.only (setCell_only _ ⟨w.heap.size, 1, none⟩ (.slice ma q2.1.length mc)) fun g hg e => by have e' : g = w.heap.size := e; omega
    have s4 := s3.only (setCell_only _ ⟨w.heap.size, 2, none⟩ (.int .i64 q1.1)) fun g hg e => by have e' : g = w.heap.size := e; omega
    exact s4.mono fun g hg => by omega, ((HB2.out.rd.setNew HB2.out.z2 _).setNew HB2.out.z2 _).setNew HB2.out.z2 _⟩)
  go_wp2_with fail
  exact bodyPost_ret (v := .agg #[.int .i64 q0.1, .slice ma q2.1.length mc, .int .i64 q1.1]) (by simp [results, Tryz.results117, go_sem, z0, z1, z2]) rfl F.out
end Go.Proofs.YtojkggppcmdepaaGreat

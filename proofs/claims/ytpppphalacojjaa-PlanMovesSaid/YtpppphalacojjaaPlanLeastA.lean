/- PlanLeast: what holds between the rounds of its first loop. No conditions. -/
import Derived.Test.YtpppphalacojjaaPlanLeastM
namespace Go.Proofs.Ytpppphalacojjaa
open Go.RowKit Go.Wh

theorem zero256 : ∀ w : World, (zeroValue 41).run Try.prog w = .ok (.agg (List.replicate 256 (.bool false)).toArray) w := fun w => by kernel_rfl

/-- A row of truths in block r. -/
def Flags (w : World) (r n : Nat) (f : Nat → Bool) : Prop := ∀ j, j < n → w.cell? ⟨r, j, none⟩ = some (.bool (f j)) ∧ w.frozen? ⟨r, j, none⟩ = false

theorem Flags.new (w : World) (n : Nat) (t : TypeId) : Flags (w.alloc (.cells (List.replicate n (.bool false)).toArray t)) w.heap.size n (fun _ => false) := fun j hj => by
  have h := cellsAt_new w (List.replicate n (.bool false)) t
  refine ⟨?_, h.free j⟩
  rw [h.cell]
  simp [hj]
theorem Flags.kept {w w' : World} {r n : Nat} {f : Nat → Bool} (h : Flags w r n f) (hb : w'.heap[r]? = w.heap[r]?) : Flags w' r n f := fun j hj => by
  rw [World.cell?_of_block (a := ⟨r, j, none⟩) (w := w) (w' := w') hb, World.frozen?_of_block (a := ⟨r, j, none⟩) (w := w) (w' := w') hb]
  exact h j hj
theorem Flags.lt {w : World} {r n : Nat} {f : Nat → Bool} (h : Flags w r n f) (hn : 0 < n) : r < w.heap.size := lt_of_cell (h 0 hn).1
theorem Flags.same {w : World} {r n : Nat} {f g : Nat → Bool} (h : Flags w r n f) (e : ∀ j, j < n → f j = g j) : Flags w r n g := fun j hj => by rw [← e j hj]; exact h j hj
theorem Flags.set {w : World} {r n : Nat} {f : Nat → Bool} (h : Flags w r n f) {i : Nat} (hi : i < n) (b : Bool) : Flags (w.setCell ⟨r, i, none⟩ (.bool b)) r n (fun j => if j = i then b else f j) := fun j hj => by
  rw [World.frozen?_setCell]
  refine ⟨?_, (h j hj).2⟩
  by_cases e : j = i
  · subst e
    simp only [if_true]
    exact World.cell?_setCell_same _ _ _ (h j hj).1
  · simp only [if_neg e]
    rw [World.cell?_setCell_other]
    · exact (h j hj).1
    · intro e2
      injection e2 with _ e3 _
      exact e e3.symm

structure L1 (W : World) (r : Nat) (zs : List Int) (i : Nat) (v : Value) (wr : World) : Prop where
  flags : Flags wr r 256 (fun j => decide ((j : Int) ∈ zs.take i))
  vec : Vec wr 3 v (fsts zs i).length (flat (fsts zs i))
  below : Below W.heap.size W wr
  r0 : W.heap.size ≤ r
  own : ∀ g, v.ownBlock = some g → W.heap.size ≤ g ∧ g ≠ r

theorem take_next {zs : List Int} {i : Nat} (hi : i < zs.length) (z : Int) : z ∈ zs.take (i + 1) ↔ z ∈ zs.take i ∨ z = zs.getD i 0 := by
  rw [List.take_succ_eq_append_getElem hi, List.mem_append, List.mem_singleton, List.getD_eq_getElem?_getD, List.getElem?_eq_getElem hi]
  rfl

theorem Below.set {B : Nat} {w w' : World} (h : Below B w w') {p : Addr} (hp : B ≤ p.block) (u : Value) : Below B w (w'.setCell p u) :=
  ⟨h.os, h.tape, h.output, by simpa [World.setCell] using h.size, fun i hi => (Below.heap_setCell w' p u i (by omega)).trans (h.block i hi)⟩

theorem L1.flag {W : World} {r : Nat} {zs : List Int} {i : Nat} {v : Value} {wr : World} (h : L1 W r zs i v wr) {z : Int} (z0 : 0 ≤ z) (z1 : z < 256) : wr.cell? ⟨r, z.toNat, none⟩ = some (.bool (decide (z ∈ zs.take i))) ∧ wr.frozen? ⟨r, z.toNat, none⟩ = false := by
  have := h.flags z.toNat (by omega)
  simp only [show ((z.toNat : Nat) : Int) = z by omega] at this
  exact this

theorem flags_next {w : World} {r : Nat} {zs : List Int} {i : Nat} {z : Int} (z0 : 0 ≤ z) (z1 : z < 256) (hi : i < zs.length) (e : zs.getD i 0 = z) (h : Flags w r 256 (fun j => decide ((j : Int) ∈ zs.take i))) : Flags (w.setCell ⟨r, z.toNat, none⟩ (.bool true)) r 256 (fun j => decide ((j : Int) ∈ zs.take (i + 1))) := by
  refine (h.set (i := z.toNat) (by omega) true).same fun j hj => ?_
  have := take_next hi (j : Int)
  by_cases hj2 : j = z.toNat
  · have e2 : (j : Int) = z := by omega
    rw [if_pos hj2, e2]
    rw [e2] at this
    simp [this.2 (.inr e.symm)]
  · rw [if_neg hj2]
    have hne : ¬ (j : Int) = z := by omega
    rw [e] at this
    simp [this, hne]

theorem L1.seen {W : World} {r : Nat} {zs : List Int} {i : Nat} {v : Value} {wr : World} (h : L1 W r zs i v wr) {z : Int} (z0 : 0 ≤ z) (z1 : z < 256) (hi : i < zs.length) (e : zs.getD i 0 = z) (hz : z ∈ zs.take i) : L1 W r zs (i + 1) v (wr.setCell ⟨r, z.toNat, none⟩ (.bool true)) := by
  have ef : fsts zs (i + 1) = fsts zs i := by
    show fsts zs i ++ _ = _
    rw [e, if_pos hz, List.append_nil]
  refine ⟨flags_next z0 z1 hi e h.flags, ?_, Below.set h.below (by exact h.r0) _, h.r0, h.own⟩
  rw [ef]
  exact h.vec.kept fun g hg _ => Below.heap_setCell _ _ _ _ (h.own g hg).2

structure L1App (T U : TypeId) (W : World) (r : Nat) (zs : List Int) (i : Nat) (v : Value) (wr : World) (z : Int) : Prop where
  old : Vec ((wr.alloc (.cells #[.int .u8 z] T)).alloc (.cells #[.string (kz z), .int .i64 i, .int .i64 0] U)) 3 v (fsts zs i).length (flat (fsts zs i))
  new : Reads ((wr.alloc (.cells #[.int .u8 z] T)).alloc (.cells #[.string (kz z), .int .i64 i, .int .i64 0] U)) 3 (.slice (some ⟨wr.heap.size + 1, 0, none⟩) 1 1) 1 [.string (kz z), .int .i64 i, .int .i64 0]
  next : ∀ v' w', Vec w' 3 v' ((fsts zs i).length + 1) (flat (fsts zs i) ++ [.string (kz z), .int .i64 i, .int .i64 0]) → Only (fun k => v.ownBlock = some k) ((wr.alloc (.cells #[.int .u8 z] T)).alloc (.cells #[.string (kz z), .int .i64 i, .int .i64 0] U)) w' →
    (v'.ownBlock = v.ownBlock ∨ ∃ g, v'.ownBlock = some g ∧ ((wr.alloc (.cells #[.int .u8 z] T)).alloc (.cells #[.string (kz z), .int .i64 i, .int .i64 0] U)).heap.size ≤ g ∧ g < w'.heap.size) →
    Below wr.heap.size wr w' ∨ True → w'.cell? ⟨r, z.toNat, none⟩ = some (.bool false) ∧ w'.frozen? ⟨r, z.toNat, none⟩ = false ∧ Below W.heap.size W w' ∧ L1 W r zs (i + 1) v' (w'.setCell ⟨r, z.toNat, none⟩ (.bool true))

theorem L1.app (T U : TypeId) {W : World} {r : Nat} {zs : List Int} {i : Nat} {v : Value} {wr : World} (h : L1 W r zs i v wr) {z : Int} (z0 : 0 ≤ z) (z1 : z < 256) (hi : i < zs.length) (e : zs.getD i 0 = z) (hz : ¬ z ∈ zs.take i) : L1App T U W r zs i v wr z := by
  have ef : fsts zs (i + 1) = fsts zs i ++ [⟨kz z, i, 0⟩] := by
    show fsts zs i ++ _ = _
    rw [e, if_neg hz]
  have hbl : Below W.heap.size W ((wr.alloc (.cells #[.int .u8 z] T)).alloc (.cells #[.string (kz z), .int .i64 i, .int .i64 0] U)) := (h.below.alloc h.below.size _).alloc (by have := h.below.size; simp; omega) _
  refine ⟨(h.vec.alloc _).alloc _, ?_, fun v' w' hv ho hb _ => ?_⟩
  · have := reads_block (n := 1) (size := 3) (c := 1) (heap_alloc_new (wr.alloc (.cells #[.int .u8 z] T)) (.cells #[.string (kz z), .int .i64 i, .int .i64 0] U)) rfl
    simp only [World.size_alloc] at this
    exact this
  · have hr := h.flags.lt (by omega)
    have hf : Flags w' r 256 (fun j => decide ((j : Int) ∈ zs.take i)) := h.flags.kept ((ho.block r (by simp; omega) (fun e => (h.own r e).2 rfl)).trans ((heap_alloc_old _ _ (by simp; omega)).trans (heap_alloc_old _ _ hr)))
    have hbw : Below W.heap.size W w' := hbl.trans (ho.below hbl.size (fun i hi e => by have := (h.own i e).1; omega))
    have hown : ∀ g, v'.ownBlock = some g → W.heap.size ≤ g ∧ g ≠ r := fun g hg => by
      rcases hb with e | ⟨g', e, h1, _⟩
      · exact h.own g (e.symm.trans hg)
      · rw [e] at hg
        injection hg with hg
        have := h.below.size
        simp at h1
        omega
    have hc := hf z.toNat (by omega)
    simp only [show ((z.toNat : Nat) : Int) = z by omega] at hc
    simp only [hz, decide_false] at hc
    refine ⟨hc.1, hc.2, hbw, flags_next z0 z1 hi e hf, ?_, Below.set hbw (by exact h.r0) _, h.r0, hown⟩
    have hv2 : Vec w' 3 v' (fsts zs (i + 1)).length (flat (fsts zs (i + 1))) := by
      rw [ef, flat_append, List.length_append]
      exact hv
    exact hv2.kept fun g hg _ => Below.heap_setCell w' ⟨r, z.toNat, none⟩ _ g (hown g hg).2
end Go.Proofs.Ytpppphalacojjaa

/- PlanLeast: what holds behind its first part. No conditions. -/
import Derived.Test.YtpppphalacojjaaPlanLeastA
namespace Go.Proofs.Ytpppphalacojjaa
open Go.RowKit Go.Wh

/-- The same spots, in another order. -/
def CutB (zs : List Int) (n : Nat) (w : World) (vb : Value) (wc : World) : Prop :=
  ∃ B : List Spot, B.Perm (fsts zs n) ∧ Vec wc 3 vb B.length (flat B) ∧ Below w.heap.size w wc

structure Rot (A : List Spot) (w : World) (g o m cap k : Nat) : Prop where
  x1 : Reads w.drew 3 (.slice (some ⟨g, o + k * 3, none⟩) (m - k) (cap - k)) (m - k) (flat (A.drop k))
  x2 : ∀ w', Only (fun j => (Value.slice none 0 0).ownBlock = some j) w.drew w' → Reads w' 3 (.slice (some ⟨g, o, none⟩) k cap) k (flat (A.take k))

theorem flat_take (A : List Spot) (k : Nat) : (flat A).take (k * 3) = flat (A.take k) := by
  by_cases h : k ≤ A.length
  · have e : A = A.take k ++ A.drop k := (List.take_append_drop k A).symm
    have e2 : flat A = flat (A.take k) ++ flat (A.drop k) := by rw [← flat_append, ← e]
    rw [e2, List.take_left']
    rw [flat_length]
    simp
    omega
  · rw [List.take_of_length_le (by rw [flat_length]; omega), List.take_of_length_le (by omega)]
theorem flat_drop (A : List Spot) (k : Nat) : (flat A).drop (k * 3) = flat (A.drop k) := by
  by_cases h : k ≤ A.length
  · have e2 : flat A = flat (A.take k) ++ flat (A.drop k) := by rw [← flat_append, List.take_append_drop]
    rw [e2, List.drop_left']
    rw [flat_length]
    simp
    omega
  · rw [List.drop_of_length_le (by rw [flat_length]; omega), List.drop_of_length_le (by omega)]
    rfl

theorem rot_of {A : List Spot} {w : World} {g o m cap k : Nat} (h : VecAt w 3 g o m cap (flat A)) (hm : A.length = m) (hk : k < m) : Rot A w g o m cap k := by
  have hc := h.le
  have hg := h.lt (by omega)
  refine ⟨?_, fun w' ho => ?_⟩
  · have := (VecAt.cut (h.block (w' := w.drew) rfl) k m cap (by omega) (Nat.le_refl _) hc (Nat.le_refl _)).reads
    rw [cutAddr_eq _ _ _ _ _ (by omega), List.take_of_length_le (by simp [flat_length]; omega), flat_drop] at this
    exact this
  · have hb := ho.block g hg (fun e => by cases e)
    have := (VecAt.cut (h.block hb) 0 k cap (by omega) (by omega) (by omega) (Nat.le_refl _)).reads
    rw [cutAddr_eq _ _ _ _ _ (by omega)] at this
    simp only [Nat.zero_mul, Nat.add_zero, Nat.sub_zero, List.drop_zero, flat_take] at this
    exact this

theorem Rot.done {zs : List Int} {n : Nat} {w : World} {m k : Nat} (hm : (fsts zs n).length = m) (hk : k < m) {v1 v2 : Value} {w1 w2 : World}
    (ho1 : Only (fun j => (Value.slice none 0 0).ownBlock = some j) w.drew w1) (hb1 : v1.ownBlock = (Value.slice none 0 0).ownBlock ∨ ∃ g, v1.ownBlock = some g ∧ w.drew.heap.size ≤ g ∧ g < w1.heap.size)
    (hv2 : Vec w2 3 v2 (0 + (m - k) + k) (([] ++ flat ((fsts zs n).drop k)) ++ flat ((fsts zs n).take k))) (ho2 : Only (fun j => v1.ownBlock = some j) w1 w2) : CutB zs n w v2 w2 := by
  refine ⟨(fsts zs n).drop k ++ (fsts zs n).take k, ?_, ?_, ?_⟩
  · exact List.perm_append_comm.trans (by rw [List.take_append_drop])
  · have e : ((fsts zs n).drop k ++ (fsts zs n).take k).length = 0 + (m - k) + k := by simp; omega
    rw [e, flat_append]
    simpa using hv2
  · have h1 : Below w.heap.size w w1 := ⟨ho1.os, ho1.tape, ho1.output, ho1.size, fun i hi => ho1.block i hi (fun e => by cases e)⟩
    refine h1.trans (ho2.below h1.size (fun i hi e => ?_))
    rcases hb1 with e2 | ⟨g, e2, h2, _⟩
    · rw [e2] at e
      cases e
    · rw [e2] at e
      injection e with e
      have : w.heap.size ≤ g := h2
      omega

def rids (j : Nat) : List Rid := (List.range j).map fun (i : Nat) => (⟨20, (i : Int)⟩ : Rid)
theorem rids_len (j : Nat) : (rids j).length = j := by simp [rids]
theorem rids_next (j : Nat) : rids (j + 1) = rids j ++ [⟨20, j⟩] := by simp [rids, List.range_succ]
theorem rids_at (j i : Nat) (h : i < (rids j).length) : (rids j)[i] = ⟨20, i⟩ := by simp [rids]

structure Cells (f : Int) (w : World) (j : Nat) (v : Value) (wr : World) : Prop where
  le : (j : Int) ≤ f
  vec : Vec wr 2 v j (flatR (rids j))
  below : Below w.heap.size w wr
  own : ∀ g, v.ownBlock = some g → w.heap.size ≤ g

theorem Cells.start {f : Int} (h : 0 ≤ f) (w : World) : Cells f w 0 (.slice none 0 0) w := ⟨by omega, Vec.nil _ _, Below.refl _ _, fun g hg => by cases hg⟩

theorem infoRid : (Try.prog.info? 26).map (fun i => (i.zero, i.size, i.bytes)) = some (some (.agg #[.int .i64 0, .int .i64 0]), 2, 16) := by kernel_rfl
theorem rc_one (l : List Rid) : ∀ u ∈ flatR l, u.oneCell' = true := by
  induction l with
  | nil => intro u hu; cases hu
  | cons s l ih =>
    intro u hu
    rw [flatR_cons] at hu
    simp only [List.mem_cons] at hu
    rcases hu with rfl | rfl | hu
    · rfl
    · rfl
    · exact ih u hu

structure CellsApp (T : TypeId) (f : Int) (w : World) (j : Nat) (v : Value) (wr : World) : Prop where
  old : Vec (wr.alloc (.cells #[.int .i64 20, .int .i64 j] T)) 2 v j (flatR (rids j))
  new : Reads (wr.alloc (.cells #[.int .i64 20, .int .i64 j] T)) 2 (.slice (some ⟨wr.heap.size, 0, none⟩) 1 1) 1 [.int .i64 20, .int .i64 j]
  next : ∀ v' w', Vec w' 2 v' (j + 1) (flatR (rids j) ++ [.int .i64 20, .int .i64 j]) → Only (fun k => v.ownBlock = some k) (wr.alloc (.cells #[.int .i64 20, .int .i64 j] T)) w' →
    (v'.ownBlock = v.ownBlock ∨ ∃ g, v'.ownBlock = some g ∧ (wr.alloc (.cells #[.int .i64 20, .int .i64 j] T)).heap.size ≤ g ∧ g < w'.heap.size) → Cells f w (j + 1) v' w'

theorem Cells.app (T : TypeId) {f : Int} {w : World} {j : Nat} {v : Value} {wr : World} (h : Cells f w j v wr) (hj : (j : Int) < f) : CellsApp T f w j v wr := by
  have hbl : Below w.heap.size w (wr.alloc (.cells #[.int .i64 20, .int .i64 j] T)) := h.below.alloc h.below.size _
  refine ⟨h.vec.alloc _, reads_block (n := 1) (size := 2) (c := 1) (heap_alloc_new wr _) rfl, fun v' w' hv ho hb => ⟨by omega, ?_, hbl.trans (ho.below hbl.size (fun i hi e => by have := h.own i e; omega)), fun g hg => ?_⟩⟩
  · rw [rids_next, flatR_append]
    exact hv
  · rcases hb with e | ⟨g', e, h1, _⟩
    · exact h.own g (e.symm.trans hg)
    · rw [e] at hg
      injection hg with hg
      have := hbl.size
      omega
end Go.Proofs.Ytpppphalacojjaa

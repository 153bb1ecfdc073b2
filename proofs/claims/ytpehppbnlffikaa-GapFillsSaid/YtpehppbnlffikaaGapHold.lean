/- The law GapHolds of package gap returns true, whatever it is given. Conditions: those of the row alone. -/
import Derived.Test.YtpehppbnlffikaaGapG
import Derived.Test.YtpehppbnlffikaaRow
import Derived.Deep.RegionHeld3
namespace Go.Proofs.Ytpehppbnlffikaa
open Go.RowKit Go.Wh Go.Maps

/-- Who holds which of sixteen cells, by numbers: 0 is nobody. -/
def Hof (own : Nat → Int) (x : Int × Int) : Option Int :=
  if 0 ≤ x.1 ∧ x.1 < 4 ∧ 0 ≤ x.2 ∧ x.2 < 4 then (if own (4 * x.1 + x.2).toNat = 0 then none else some (own (4 * x.1 + x.2).toNat)) else none
def cellNo (k : Nat) : Int × Int := ((k : Int) / 4, (k : Int) % 4)

theorem Hof_cell (own : Nat → Int) (k : Nat) (hk : k < 16) : Hof own (cellNo k) = if own k = 0 then none else some (own k) := by
  unfold Hof cellNo
  have h : 0 ≤ (k : Int) / 4 ∧ (k : Int) / 4 < 4 ∧ 0 ≤ (k : Int) % 4 ∧ (k : Int) % 4 < 4 := by omega
  rw [if_pos h]
  have e : (4 * ((k : Int) / 4) + (k : Int) % 4).toNat = k := by omega
  simp only [e]

theorem Hof_upd (own : Nat → Int) (k : Nat) (hk : k < 16) (v : Int) (hv : v ≠ 0) : upd (Hof own) (cellNo k) (some v) = Hof (upd own k v) := by
  funext x
  by_cases hx : x = cellNo k
  · subst hx
    rw [upd_same, Hof_cell _ _ hk, upd_same, if_neg hv]
  · rw [upd_other _ _ hx]
    unfold Hof
    by_cases h : 0 ≤ x.1 ∧ x.1 < 4 ∧ 0 ≤ x.2 ∧ x.2 < 4
    · have hne : (4 * x.1 + x.2).toNat ≠ k := by
        intro e
        apply hx
        unfold cellNo
        ext
        · show x.1 = (k : Int) / 4; omega
        · show x.2 = (k : Int) % 4; omega
      rw [upd_other _ _ hne]
    · rw [if_neg h, if_neg h]

theorem Hof_start : Hof (fun _ => 0) = fun _ => none := by
  funext x
  unfold Hof
  simp

def ownCells (own : Nat → Int) : List Value := (List.range 16).map fun k => .int .i64 (own k)
theorem ownCells_get (own : Nat → Int) (k : Nat) (hk : k < 16) : (ownCells own)[k]? = some (.int .i64 (own k)) := by
  unfold ownCells
  simp [hk]
theorem ownCells_set (own : Nat → Int) (k : Nat) (v : Int) : (ownCells own).set k (.int .i64 v) = ownCells (upd own k v) := by
  unfold ownCells
  apply List.ext_getElem?
  intro i
  rw [List.getElem?_set]
  by_cases hik : k = i
  · subst hik
    by_cases hk : k < 16
    · simp [hk, upd_same]
    · simp [hk]
  · rw [if_neg hik]
    by_cases hi : i < 16
    · simp [hi, upd_other own v (Ne.symm hik)]
    · simp [hi]

/-- Half way through GapHolds. -/
structure HState (W : World) (mb ub hb ob : Nat) (own : Nat → Int) (wr : World) : Prop where
  gap : GapAt wr mb ub hb 4 (fun _ => false) (Hof own)
  cells : cellsAt wr ob (ownCells own)
  below : Below W.heap.size W wr
  lm : W.heap.size ≤ mb
  lu : W.heap.size ≤ ub
  lh : W.heap.size ≤ hb
  lo : W.heap.size ≤ ob
  ne : ob ≠ mb
  three : ∀ k, own k = 0 ∨ own k = 1 ∨ own k = 2

theorem HState.put {W : World} {mb ub hb ob k : Nat} {v : Int} {own : Nat → Int} {wr : World} (h : HState W mb ub hb ob own wr) {w1 : World} (hg : GapAt w1 mb ub hb 4 (fun _ => false) (upd (Hof own) (cellNo k) (some v))) (hw : wr.grownBy w1 (some hb)) (hk : k < 16) (hv : v = 1 ∨ v = 2) :
    HState W mb ub hb ob (upd own k v) (w1.setCell ⟨ob, k, none⟩ (.int .i64 v)) := by
  have a1 := h.gap.apart h.cells
  have c1 : cellsAt w1 ob (ownCells own) := h.cells.block (hw.block ob h.cells.lt (by simp; exact a1.2))
  have hn : v ≠ 0 := by omega
  refine ⟨?_, by rw [← ownCells_set]; exact c1.setCell k _, (h.below.trans (grown_below hw h.lh h.below.size)).setCell h.lo _, h.lm, h.lu, h.lh, h.lo, h.ne, fun j => ?_⟩
  · rw [← Hof_upd own k hk v hn]
    have a2 := hg.apart c1
    exact hg.kept (Below.heap_setCell _ _ _ _ (Ne.symm h.ne)) (Below.heap_setCell _ _ _ _ (Ne.symm a2.1)) (Below.heap_setCell _ _ _ _ (Ne.symm a2.2))
  · by_cases hj : j = k
    · subst hj
      rw [upd_same]
      omega
    · rw [upd_other _ _ hj]
      exact h.three j

theorem HState.same {W : World} {mb ub hb ob : Nat} {own : Nat → Int} {wr w1 : World} (h : HState W mb ub hb ob own wr) (hw : Below wr.heap.size wr w1) : HState W mb ub hb ob own w1 :=
  ⟨h.gap.below hw, h.cells.below hw h.cells.lt, h.below.trans (hw.mono h.below.size), h.lm, h.lu, h.lh, h.lo, h.ne, h.three⟩


theorem HState.drew {W : World} {mb ub hb ob : Nat} {own : Nat → Int} {wr : World} (h : HState W mb ub hb ob own wr) : HState W mb ub hb ob own wr.drew := h.same ⟨rfl, rfl, rfl, Nat.le_refl _, fun _ _ => rfl⟩
theorem HState.drewN {W : World} {mb ub hb ob : Nat} {own : Nat → Int} {wr : World} (h : HState W mb ub hb ob own wr) (n : Nat) : HState W mb ub hb ob own (wr.drewN n) := h.same ⟨rfl, rfl, rfl, Nat.le_refl _, fun _ _ => rfl⟩
theorem HState.own {W : World} {mb ub hb ob : Nat} {own : Nat → Int} {wr : World} (h : HState W mb ub hb ob own wr) (k : Nat) (hk : k < 16) : wr.cell? ⟨ob, k, none⟩ = some (.int .i64 (own k)) := (h.cells.cell k).trans (ownCells_get own k hk)
theorem HState.ownFree {W : World} {mb ub hb ob : Nat} {own : Nat → Int} {wr : World} (h : HState W mb ub hb ob own wr) (k : Nat) : wr.frozen? ⟨ob, k, none⟩ = false := h.cells.free k

theorem hold_yes {W : World} {mb ub hb ob : Nat} {own : Nat → Int} {wr : World} (h : HState W mb ub hb ob own wr) (k : Nat) (hk : k < 16) (who v : Int) (hv : own k = v) (hm : v = 0 ∨ v = who) :
    Calls Try.prog 7 #[.pointer (some ⟨mb, 0, none⟩), .int .i64 who, .agg #[.int .i64 ((k : Int) / 4), .int .i64 ((k : Int) % 4)]] wr
      fun e w' => e = .returned (.bool true) ∧ w'.cell? ⟨ob, k, none⟩ = some (.int .i64 v) ∧ w'.frozen? ⟨ob, k, none⟩ = false ∧ GapAt w' mb ub hb 4 (fun _ => false) (upd (Hof own) (cellNo k) (some who)) ∧ wr.grownBy w' (some hb) := by
  subst hv
  refine (hold_in mb ub hb 4 _ _ who _ _ wr h.gap (fits_small _ _ (by omega) (by omega) (by omega) (by omega)) (by unfold inGap; simp; omega) ?_).mono ?_
  · show mayHold (Hof own) (cellNo k) who = true
    unfold mayHold
    rw [Hof_cell own k hk]
    rcases hm with e | e
    · simp [e]
    · by_cases h0 : own k = 0
      · simp [h0]
      · rw [if_neg h0]
        simp [e]
  · rintro e w' ⟨rfl, hg, hw⟩
    have a1 := h.gap.apart h.cells
    have c1 : cellsAt w' ob (ownCells own) := h.cells.block (hw.block ob h.cells.lt (by simp; exact a1.2))
    exact ⟨rfl, (c1.cell k).trans (ownCells_get own k hk), c1.free k, hg, hw⟩

theorem hold_no {W : World} {mb ub hb ob : Nat} {own : Nat → Int} {wr : World} (h : HState W mb ub hb ob own wr) (k : Nat) (hk : k < 16) (who v : Int) (hv : own k = v) (h0 : v ≠ 0) (hm : v ≠ who) :
    Calls Try.prog 7 #[.pointer (some ⟨mb, 0, none⟩), .int .i64 who, .agg #[.int .i64 ((k : Int) / 4), .int .i64 ((k : Int) % 4)]] wr
      fun e w' => e = .returned (.bool false) ∧ w'.cell? ⟨ob, k, none⟩ = some (.int .i64 v) ∧ w'.frozen? ⟨ob, k, none⟩ = false ∧ HState W mb ub hb ob own w' := by
  subst hv
  refine (hold_not mb ub hb 4 _ _ who _ _ wr h.gap (fits_small _ _ (by omega) (by omega) (by omega) (by omega)) (by unfold inGap; simp; omega) ?_).mono ?_
  · show mayHold (Hof own) (cellNo k) who = false
    unfold mayHold
    rw [Hof_cell own k hk, if_neg h0]
    simp [hm]
  · rintro e w' ⟨rfl, hw⟩
    have h1 := h.same hw
    exact ⟨rfl, h1.own k hk, h1.ownFree k, h1⟩

theorem HState.keep {W : World} {mb ub hb ob k : Nat} {v : Int} {own : Nat → Int} {wr : World} (h : HState W mb ub hb ob own wr) {w1 : World} (hg : GapAt w1 mb ub hb 4 (fun _ => false) (upd (Hof own) (cellNo k) (some v))) (hw : wr.grownBy w1 (some hb)) (hk : k < 16) (hv : own k = v) (hv0 : v ≠ 0) :
    HState W mb ub hb ob own w1 := by
  have a1 := h.gap.apart h.cells
  have e : upd own k v = own := by
    funext j
    by_cases hj : j = k
    · subst hj; rw [upd_same, hv]
    · rw [upd_other _ _ hj]
  rw [Hof_upd own k hk v hv0, e] at hg
  exact ⟨hg, h.cells.block (hw.block ob h.cells.lt (by simp; exact a1.2)), h.below.trans (grown_below hw h.lh h.below.size), h.lm, h.lu, h.lh, h.lo, h.ne, h.three⟩
end Go.Proofs.Ytpehppbnlffikaa

/- Plain facts of sixteen cells: which one comes first, how many are held, and nobody's when both are free. No conditions. -/
import Derived.Test.YtpehppbnlffikaaGapHold
namespace Go.Proofs.Ytpehppbnlffikaa
open Go.RowKit Go.Wh Go.Maps

def wantOf (q : Nat → Bool) : Nat → Int
  | 0 => -1
  | m + 1 => if q (15 - m) then ((15 - m : Nat) : Int) else wantOf q m

def mine (own : Nat → Int) (who : Int) (k : Nat) : Bool := decide (own k = 0 ∨ own k = who)

theorem free_cell (own : Nat → Int) (who : Int) (k : Nat) (hk : k < 16) : freeFor (fun _ => false) (Hof own) who (cellNo k) = mine own who k := by
  unfold freeFor mayHold mine
  rw [Hof_cell own k hk]
  by_cases h : own k = 0
  · simp [h]
  · simp [h]

theorem grid44 : cellsOf 0 4 4 = (List.range' 0 16).map cellNo := by decide

theorem find_want (own : Nat → Int) (who : Int) : ∀ (m : Nat), m ≤ 16 →
    (wantOf (mine own who) m = -1 ∧ ((List.range' (16 - m) m).map cellNo).find? (freeFor (fun _ => false) (Hof own) who) = none) ∨
    ∃ k : Nat, k < 16 ∧ wantOf (mine own who) m = (k : Int) ∧ ((List.range' (16 - m) m).map cellNo).find? (freeFor (fun _ => false) (Hof own) who) = some (cellNo k)
  | 0, _ => .inl ⟨rfl, rfl⟩
  | m + 1, hm => by
    have e : 16 - (m + 1) + 1 = 16 - m := by omega
    rw [List.range'_succ, e, List.map_cons, List.find?_cons, free_cell own who _ (by omega)]
    have e2 : 16 - (m + 1) = 15 - m := by omega
    rw [e2]
    unfold wantOf
    cases hq : mine own who (15 - m) with
    | true => exact .inr ⟨15 - m, by omega, by simp, by simp⟩
    | false =>
      rcases find_want own who m (by omega) with ⟨h1, h2⟩ | ⟨k, hk, h1, h2⟩
      · exact .inl ⟨by simpa using h1, by simpa using h2⟩
      · exact .inr ⟨k, hk, by simpa using h1, by simpa using h2⟩

/-- The first one, in pages and cells. -/
theorem first_want (own : Nat → Int) (who : Int) :
    (wantOf (mine own who) 16 = -1 ∧ firstFree (fun _ => false) (Hof own) who (cellsOf 0 4 4) = none) ∨
    ∃ p c : Int, 0 ≤ p ∧ p < 4 ∧ 0 ≤ c ∧ c < 4 ∧ wantOf (mine own who) 16 = 4 * p + c ∧ firstFree (fun _ => false) (Hof own) who (cellsOf 0 4 4) = some (p, c) := by
  unfold firstFree
  rw [grid44]
  rcases find_want own who 16 (by omega) with ⟨h1, h2⟩ | ⟨k, hk, h1, h2⟩
  · exact .inl ⟨h1, h2⟩
  · exact .inr ⟨(k : Int) / 4, (k : Int) % 4, by omega, by omega, by omega, by omega, by rw [h1]; omega, h2⟩

def heldTo (own : Nat → Int) : Nat → Int
  | 0 => 0
  | k + 1 => heldTo own k + b2i (own k != 0)

theorem heldTo_le (own : Nat → Int) : ∀ k, 0 ≤ heldTo own k ∧ heldTo own k ≤ k
  | 0 => by simp [heldTo]
  | k + 1 => by
    have := heldTo_le own k
    unfold heldTo b2i
    split <;> omega

theorem held_cell (own : Nat → Int) (k : Nat) (hk : k < 16) : heldOnly (fun _ => false) (Hof own) (cellNo k) = (own k != 0) := by
  unfold heldOnly
  rw [Hof_cell own k hk]
  by_cases h : own k = 0
  · simp [h]
  · simp [h]

theorem cnt_held (own : Nat → Int) : ∀ m, m ≤ 16 → cnt (heldOnly (fun _ => false) (Hof own)) ((List.range m).map cellNo) = heldTo own m
  | 0, _ => rfl
  | m + 1, hm => by
    rw [List.range_succ, List.map_append, heldTo, ← cnt_held own m (by omega)]
    unfold cnt b2i
    rw [List.countP_append]
    simp only [List.map_cons, List.map_nil, List.countP_cons, List.countP_nil, held_cell own m (by omega)]
    cases own m != 0 <;> simp

theorem all_held (own : Nat → Int) : cnt (heldOnly (fun _ => false) (Hof own)) (cellsOf 0 4 4) = heldTo own 16 := by
  rw [show cellsOf 0 4 4 = (List.range 16).map cellNo from by decide]
  exact cnt_held own 16 (by omega)

theorem none_used : cnt (fun _ => false) (cellsOf 0 4 4) = 0 := by decide

theorem all_freed (own : Nat → Int) (h : ∀ k, own k = 0 ∨ own k = 1 ∨ own k = 2) : freed (freed (Hof own) 1) 2 = fun _ => none := by
  funext x
  unfold freed Hof
  by_cases hx : 0 ≤ x.1 ∧ x.1 < 4 ∧ 0 ≤ x.2 ∧ x.2 < 4
  · rw [if_pos hx]
    rcases h (4 * x.1 + x.2).toNat with e | e | e <;> simp [e]
  · rw [if_neg hx]

theorem end_first : firstFree (fun _ => false) (fun _ => none) 3 (cellsOf 0 4 4) = some (0, 0) := by decide
theorem end_held : cnt (heldOnly (fun _ => false) (fun _ => none)) (cellsOf 0 4 4) = 0 := by decide

theorem wantOf_step (q : Nat → Bool) (k : Nat) (hk : k < 16) : wantOf q (15 - ((k : Int) - 1)).toNat = if q k then (k : Int) else wantOf q (15 - (k : Int)).toNat := by
  rw [show (15 - ((k : Int) - 1)).toNat = (15 - (k : Int)).toNat + 1 by omega]
  show (if q (15 - (15 - (k : Int)).toNat) then _ else _) = _
  rw [show 15 - (15 - (k : Int)).toNat = k by omega]
end Go.Proofs.Ytpehppbnlffikaa

/- Plain facts for the law GapFills: which cell is told first, and when none is; the state half way through. No conditions. -/
import Derived.Test.YtpehppbnlffikaaGapHoldP
namespace Go.Proofs.Ytpehppbnlffikaa
open Go.RowKit Go.Wh Go.Maps

theorem cellNo_inj {j k : Nat} (h : cellNo j = cellNo k) : j = k := by
  unfold cellNo at h
  injection h with h1 h2
  omega

/-- A cell's place in a row of a page. -/
theorem rowFrom_split (p q : Int) : ∀ (k : Nat) (c : Int), c ≤ q → q < c + k → ∃ la lb, rowFrom p k c = la ++ (p, q) :: lb ∧ ∀ a ∈ la, a.1 = p ∧ c ≤ a.2 ∧ a.2 < q
  | 0, c, h1, h2 => by omega
  | k + 1, c, h1, h2 => by
    by_cases e : c = q
    · subst e
      exact ⟨[], rowFrom p k (c + 1), rfl, by simp⟩
    · obtain ⟨la, lb, h, ha⟩ := rowFrom_split p q k (c + 1) (by omega) (by omega)
      refine ⟨(p, c) :: la, lb, by simp [rowFrom, h], fun a hm => ?_⟩
      rcases List.mem_cons.1 hm with rfl | hm
      · exact ⟨rfl, by simp, by show c < q; omega⟩
      · have := ha a hm
        exact ⟨this.1, by omega, this.2.2⟩
theorem rowFrom_mem (p : Int) : ∀ (k : Nat) (c : Int) (a : Int × Int), a ∈ rowFrom p k c → a.1 = p ∧ c ≤ a.2 ∧ a.2 < c + k
  | 0, c, a, h => by simp [rowFrom] at h
  | k + 1, c, a, h => by
    simp only [rowFrom, List.mem_cons] at h
    rcases h with rfl | h
    · exact ⟨rfl, by simp, by show c < c + ((k + 1 : Nat) : Int); omega⟩
    · have := rowFrom_mem p k (c + 1) a h
      exact ⟨this.1, by omega, by omega⟩
theorem gridFrom_mem (k : Nat) : ∀ (m : Nat) (p : Int) (a : Int × Int), a ∈ gridFrom k m p → p ≤ a.1 ∧ a.1 < p + m ∧ 0 ≤ a.2 ∧ a.2 < k
  | 0, p, a, h => by simp [gridFrom] at h
  | m + 1, p, a, h => by
    simp only [gridFrom, List.mem_append] at h
    rcases h with h | h
    · have := rowFrom_mem p k 0 a h
      omega
    · have := gridFrom_mem k m (p + 1) a h
      omega
theorem gridFrom_split (k : Nat) (x : Int × Int) (hx0 : 0 ≤ x.2) (hx1 : x.2 < k) : ∀ (m : Nat) (p : Int), p ≤ x.1 → x.1 < p + m →
    ∃ la lb, gridFrom k m p = la ++ x :: lb ∧ ∀ a ∈ la, p ≤ a.1 ∧ 0 ≤ a.2 ∧ a.2 < k ∧ (a.1 < x.1 ∨ a.1 = x.1 ∧ a.2 < x.2)
  | 0, p, h1, h2 => by omega
  | m + 1, p, h1, h2 => by
    by_cases e : p = x.1
    · subst e
      obtain ⟨la, lb, h, ha⟩ := rowFrom_split x.1 x.2 k 0 hx0 (by omega)
      refine ⟨la, lb ++ gridFrom k m (x.1 + 1), by simp [gridFrom, h], fun a hm => ?_⟩
      have := ha a hm
      omega
    · obtain ⟨la, lb, h, ha⟩ := gridFrom_split k x hx0 hx1 m (p + 1) (by omega) (by omega)
      refine ⟨rowFrom p k 0 ++ la, lb, by simp [gridFrom, h], fun a hm => ?_⟩
      rcases List.mem_append.1 hm with hm | hm
      · have := rowFrom_mem p k 0 a hm
        omega
      · have := ha a hm
        omega

/-- The first one is told. -/
theorem told_first (U : Int × Int → Bool) (H : Int × Int → Option Int) (who n c : Int) (k : Nat) (hn : 0 ≤ n) (hc0 : 0 ≤ c) (hc : c ≤ 4) (hk : (k : Int) / 4 < n) (hk2 : (k : Int) % 4 < c) (hfree : freeFor U H who (cellNo k) = true)
    (hb : ∀ j, j < k → (j : Int) / 4 < n → (j : Int) % 4 < c → freeFor U H who (cellNo j) = false) : firstFree U H who (cellsOf 0 n c) = some (cellNo k) := by
  unfold firstFree cellsOf
  obtain ⟨la, lb, h, ha⟩ := gridFrom_split c.toNat (cellNo k) (by show 0 ≤ (k : Int) % 4; omega) (by show (k : Int) % 4 < _; omega) (n - 0).toNat 0 (by show 0 ≤ (k : Int) / 4; omega) (by show (k : Int) / 4 < _; omega)
  rw [h, List.find?_append]
  have hno : la.find? (freeFor U H who) = none := by
    rw [List.find?_eq_none]
    intro a hm
    obtain ⟨h1, h2, h3, h4⟩ := ha a hm
    have hkk : a.1 < (k : Int) / 4 ∨ a.1 = (k : Int) / 4 ∧ a.2 < (k : Int) % 4 := h4
    have ea : a = cellNo (4 * a.1 + a.2).toNat := by
      unfold cellNo
      ext
      · show a.1 = _; omega
      · show a.2 = _; omega
    rw [ea, hb _ (by omega) (by omega) (by omega)]
    simp
  rw [hno]
  simp [hfree]

/-- None is told. -/
theorem told_none (U : Int × Int → Bool) (H : Int × Int → Option Int) (who n c : Int) (hn : n ≤ 8) (hc : c ≤ 4)
    (hb : ∀ j : Nat, j < 32 → (j : Int) / 4 < n → (j : Int) % 4 < c → freeFor U H who (cellNo j) = false) : firstFree U H who (cellsOf 0 n c) = none := by
  unfold firstFree cellsOf
  rw [List.find?_eq_none]
  intro a hm
  have h := gridFrom_mem _ _ _ a hm
  have ea : a = cellNo (4 * a.1 + a.2).toNat := by
    unfold cellNo
    ext
    · show a.1 = _; omega
    · show a.2 = _; omega
  rw [ea, hb _ (by omega) (by omega) (by omega)]
  simp

def offCells (off : Nat → Bool) : List Value := (List.range 40).map fun k => .bool (off k)
theorem offCells_get (off : Nat → Bool) (k : Nat) (hk : k < 40) : (offCells off)[k]? = some (.bool (off k)) := by
  unfold offCells
  simp [hk]
theorem offCells_set (off : Nat → Bool) (k : Nat) (v : Bool) : (offCells off).set k (.bool v) = offCells (upd off k v) := by
  unfold offCells
  apply List.ext_getElem?
  intro i
  rw [List.getElem?_set]
  by_cases hik : k = i
  · subst hik
    by_cases hk : k < 40
    · simp [hk, upd_same]
    · simp [hk]
  · rw [if_neg hik]
    by_cases hi : i < 40
    · simp [hi, upd_other off v (Ne.symm hik)]
    · simp [hi]

/-- Is a cell taken? -/
def takenAt (U : Int × Int → Bool) (H : Int × Int → Option Int) (k : Nat) : Bool := U (cellNo k) || (H (cellNo k)).isSome

/-- Half way through GapFills. -/
structure FState (W : World) (mb ub hb ob : Nat) (n : Int) (U : Int × Int → Bool) (H : Int × Int → Option Int) (off : Nat → Bool) (wr : World) : Prop where
  gap : GapAt wr mb ub hb n U H
  cells : cellsAt wr ob (offCells off)
  below : Below W.heap.size W wr
  lm : W.heap.size ≤ mb
  lu : W.heap.size ≤ ub
  lh : W.heap.size ≤ hb
  lo : W.heap.size ≤ ob
  ne : ob ≠ mb
  seven : ∀ x, H x = none ∨ H x = some 7

theorem FState.same {W : World} {mb ub hb ob : Nat} {n : Int} {U : Int × Int → Bool} {H : Int × Int → Option Int} {off : Nat → Bool} {wr w1 : World} (h : FState W mb ub hb ob n U H off wr) (hw : Below wr.heap.size wr w1) : FState W mb ub hb ob n U H off w1 :=
  ⟨h.gap.below hw, h.cells.below hw h.cells.lt, h.below.trans (hw.mono h.below.size), h.lm, h.lu, h.lh, h.lo, h.ne, h.seven⟩

theorem FState.off1 {W : World} {mb ub hb ob : Nat} {n : Int} {U : Int × Int → Bool} {H : Int × Int → Option Int} {off : Nat → Bool} {wr : World} (h : FState W mb ub hb ob n U H off wr) (k : Nat) (b : Bool) : FState W mb ub hb ob n U H (upd off k b) (wr.setCell ⟨ob, k, none⟩ (.bool b)) := by
  have a1 := h.gap.apart h.cells
  exact ⟨h.gap.kept (Below.heap_setCell _ _ _ _ (Ne.symm h.ne)) (Below.heap_setCell _ _ _ _ (Ne.symm a1.1)) (Below.heap_setCell _ _ _ _ (Ne.symm a1.2)), by rw [← offCells_set]; exact h.cells.setCell k _, h.below.setCell h.lo _, h.lm, h.lu, h.lh, h.lo, h.ne, h.seven⟩

theorem FState.used {W : World} {mb ub hb ob : Nat} {n : Int} {U U' : Int × Int → Bool} {H : Int × Int → Option Int} {off : Nat → Bool} {wr w1 : World} (h : FState W mb ub hb ob n U H off wr) (hg : GapAt w1 mb ub hb n U' H) (hw : wr.grownBy w1 (some ub)) : FState W mb ub hb ob n U' H off w1 := by
  have a1 := h.gap.apart h.cells
  exact ⟨hg, h.cells.block (hw.block ob h.cells.lt (by simp; exact a1.1)), h.below.trans (grown_below hw h.lu h.below.size), h.lm, h.lu, h.lh, h.lo, h.ne, h.seven⟩

theorem FState.held {W : World} {mb ub hb ob : Nat} {n : Int} {U : Int × Int → Bool} {H H' : Int × Int → Option Int} {off : Nat → Bool} {wr w1 : World} (h : FState W mb ub hb ob n U H off wr) (hg : GapAt w1 mb ub hb n U H') (hw : wr.grownBy w1 (some hb)) (h7 : ∀ x, H' x = none ∨ H' x = some 7) : FState W mb ub hb ob n U H' off w1 := by
  have a1 := h.gap.apart h.cells
  exact ⟨hg, h.cells.block (hw.block ob h.cells.lt (by simp; exact a1.2)), h.below.trans (grown_below hw h.lh h.below.size), h.lm, h.lu, h.lh, h.lo, h.ne, h7⟩

theorem taken_used (U : Int × Int → Bool) (H : Int × Int → Option Int) (k j : Nat) : takenAt (upd U (cellNo k) true) H j = (decide (j = k) || takenAt U H j) := by
  unfold takenAt
  by_cases h : j = k
  · subst h; rw [upd_same]; simp
  · rw [upd_other _ _ (fun e => h (cellNo_inj e))]; simp [h]
theorem taken_held (U : Int × Int → Bool) (H : Int × Int → Option Int) (k j : Nat) (v : Int) : takenAt U (upd H (cellNo k) (some v)) j = (decide (j = k) || takenAt U H j) := by
  unfold takenAt
  by_cases h : j = k
  · subst h; rw [upd_same]; simp
  · rw [upd_other _ _ (fun e => h (cellNo_inj e))]; simp [h]

theorem free_taken {U : Int × Int → Bool} {H : Int × Int → Option Int} (h7 : ∀ x, H x = none ∨ H x = some 7) (k : Nat) : freeFor U H 1 (cellNo k) = !takenAt U H k := by
  unfold freeFor takenAt mayHold
  rcases h7 (cellNo k) with e | e <;> rw [e] <;> simp

theorem seven_upd {H : Int × Int → Option Int} (h7 : ∀ x, H x = none ∨ H x = some 7) (y : Int × Int) : ∀ x, upd H y (some 7) x = none ∨ upd H y (some 7) x = some 7 := fun x => by
  by_cases h : x = y
  · subst h; rw [upd_same]; exact .inr rfl
  · rw [upd_other _ _ h]; exact h7 x

theorem seven_may {H : Int × Int → Option Int} (h7 : ∀ x, H x = none ∨ H x = some 7) (x : Int × Int) : mayHold H x 7 = true := by
  unfold mayHold
  rcases h7 x with e | e <;> rw [e] <;> simp

/-- The state of loop one: what is off is what is taken. -/
def Off1 (U : Int × Int → Bool) (H : Int × Int → Option Int) (off : Nat → Bool) : Prop := ∀ k, k < 32 → off k = takenAt U H k
/-- The state of loop two, at k. -/
def Off2 (n c : Int) (U : Int × Int → Bool) (H : Int × Int → Option Int) (off : Nat → Bool) (k : Nat) : Prop :=
  (∀ j, k ≤ j → j < 32 → off j = takenAt U H j) ∧ ∀ j : Nat, j < k → (j : Int) / 4 < n → (j : Int) % 4 < c → takenAt U H j = true

theorem Off1.used {U : Int × Int → Bool} {H : Int × Int → Option Int} {off : Nat → Bool} (h : Off1 U H off) (k : Nat) : Off1 (upd U (cellNo k) true) H (upd off k true) := fun j hj => by
  rw [taken_used]
  by_cases e : j = k
  · subst e; rw [upd_same]; simp
  · rw [upd_other _ _ e, h j hj]; simp [e]
theorem Off1.held {U : Int × Int → Bool} {H : Int × Int → Option Int} {off : Nat → Bool} (h : Off1 U H off) (k : Nat) (v : Int) : Off1 U (upd H (cellNo k) (some v)) (upd off k true) := fun j hj => by
  rw [taken_held]
  by_cases e : j = k
  · subst e; rw [upd_same]; simp
  · rw [upd_other _ _ e, h j hj]; simp [e]
theorem Off1.same {U : Int × Int → Bool} {H : Int × Int → Option Int} {off : Nat → Bool} (h : Off1 U H off) (k : Nat) : Off1 U H (upd off k (off k)) := fun j hj => by
  by_cases e : j = k
  · subst e; rw [upd_same]; exact h j hj
  · rw [upd_other _ _ e]; exact h j hj
theorem Off1.toTwo {n c : Int} {U : Int × Int → Bool} {H : Int × Int → Option Int} {off : Nat → Bool} (h : Off1 U H off) : Off2 n c U H off 0 := ⟨fun j _ hj => h j hj, fun j hj => by omega⟩
theorem Off2.skip {n c : Int} {U : Int × Int → Bool} {H : Int × Int → Option Int} {off : Nat → Bool} {k : Nat} (h : Off2 n c U H off k) (hk : k < 32) (hs : n ≤ (k : Int) / 4 ∨ c ≤ (k : Int) % 4 ∨ off k = true) : Off2 n c U H off (k + 1) :=
  ⟨fun j h1 h2 => h.1 j (by omega) h2, fun j h1 h2 h3 => by
    by_cases e : j = k
    · subst e
      rcases hs with hs | hs | hs
      · omega
      · omega
      · rw [← h.1 j (Nat.le_refl _) hk]; exact hs
    · exact h.2 j (by omega) h2 h3⟩
theorem Off2.take {n c : Int} {U : Int × Int → Bool} {H : Int × Int → Option Int} {off : Nat → Bool} {k : Nat} (h : Off2 n c U H off k) : Off2 n c (upd U (cellNo k) true) H off (k + 1) :=
  ⟨fun j h1 h2 => by rw [taken_used, h.1 j (by omega) h2]; simp; intro e; omega, fun j h1 h2 h3 => by
    rw [taken_used]
    by_cases e : j = k
    · simp [e]
    · rw [h.2 j (by omega) h2 h3]; simp⟩

set_option maxHeartbeats 1000000 in
theorem hold_out (mb ub hb : Nat) (n p c who : Int) (U : Int × Int → Bool) (H : Int × Int → Option Int) (w : World) (h : GapAt w mb ub hb n U H) (hin : inGap n p c = false) :
    Calls Try.prog 7 #[.pointer (some ⟨mb, 0, none⟩), .int .i64 who, .agg #[.int .i64 p, .int .i64 c]] w fun e w' => e = .returned (.bool false) ∧ Below w.heap.size w w' := by
  have HIN := Lib.hid hin
  clear hin
  have hA := h.alloc (Obj.cells #[Value.int IntKind.i64 p, Value.int IntKind.i64 c] 28)
  go_enter Try.func7, Try.ntmps7
  go_wp2_with fail
  refine (may_any mb n p c _ hA.c0 hA.lt.1).mono ?_
  rintro e w1 ⟨rfl, hB⟩
  rw [HIN.out]
  go_wp2_with fail
  go_ret
  exact ⟨rfl, ((Below.refl _ _).alloc (Nat.le_refl _) _).trans (hB.mono (by simp))⟩

/-- Hold and Use of a numbered cell, by the state. -/
theorem fhold_yes {W : World} {mb ub hb ob : Nat} {n : Int} {U : Int × Int → Bool} {H : Int × Int → Option Int} {off : Nat → Bool} {wr : World} (h : FState W mb ub hb ob n U H off wr) (k : Nat) (hk : k < 32) (hv : (k : Int) / 4 < n) :
    Calls Try.prog 7 #[.pointer (some ⟨mb, 0, none⟩), .int .i64 7, .agg #[.int .i64 ((k : Int) / 4), .int .i64 ((k : Int) % 4)]] wr
      fun e w' => e = .returned (.bool true) ∧ FState W mb ub hb ob n U (upd H (cellNo k) (some 7)) off w' := by
  refine (hold_in mb ub hb n _ _ 7 _ _ wr h.gap (fits_small _ _ (by omega) (by omega) (by omega) (by omega)) (by unfold inGap; simp; omega) (seven_may h.seven _)).mono ?_
  rintro e w' ⟨rfl, hg, hw⟩
  exact ⟨rfl, h.held hg hw (seven_upd h.seven _)⟩
theorem fuse_yes {W : World} {mb ub hb ob : Nat} {n : Int} {U : Int × Int → Bool} {H : Int × Int → Option Int} {off : Nat → Bool} {wr : World} (h : FState W mb ub hb ob n U H off wr) (k : Nat) (hk : k < 32) (hv : (k : Int) / 4 < n) :
    Calls Try.prog 8 #[.pointer (some ⟨mb, 0, none⟩), .agg #[.int .i64 ((k : Int) / 4), .int .i64 ((k : Int) % 4)], .bool true] wr
      fun e w' => e = .returned (.bool true) ∧ FState W mb ub hb ob n (upd U (cellNo k) true) H off w' := by
  refine (use_in mb ub hb n _ _ _ _ true wr h.gap (fits_small _ _ (by omega) (by omega) (by omega) (by omega)) (by unfold inGap; simp; omega)).mono ?_
  rintro e w' ⟨rfl, hg, hw⟩
  exact ⟨rfl, h.used hg hw⟩
theorem fhold_no {W : World} {mb ub hb ob : Nat} {n : Int} {U : Int × Int → Bool} {H : Int × Int → Option Int} {off : Nat → Bool} {wr : World} (h : FState W mb ub hb ob n U H off wr) (k : Nat) (hv : ¬ (k : Int) / 4 < n) :
    Calls Try.prog 7 #[.pointer (some ⟨mb, 0, none⟩), .int .i64 7, .agg #[.int .i64 ((k : Int) / 4), .int .i64 ((k : Int) % 4)]] wr
      fun e w' => e = .returned (.bool false) ∧ FState W mb ub hb ob n U H off w' := by
  refine (hold_out mb ub hb n _ _ 7 _ _ wr h.gap (by unfold inGap; simp; omega)).mono ?_
  rintro e w' ⟨rfl, hw⟩
  exact ⟨rfl, h.same hw⟩
theorem fuse_no {W : World} {mb ub hb ob : Nat} {n : Int} {U : Int × Int → Bool} {H : Int × Int → Option Int} {off : Nat → Bool} {wr : World} (h : FState W mb ub hb ob n U H off wr) (k : Nat) (hv : ¬ (k : Int) / 4 < n) :
    Calls Try.prog 8 #[.pointer (some ⟨mb, 0, none⟩), .agg #[.int .i64 ((k : Int) / 4), .int .i64 ((k : Int) % 4)], .bool true] wr
      fun e w' => e = .returned (.bool false) ∧ FState W mb ub hb ob n U H off w' := by
  refine (use_out mb ub hb n _ _ _ _ true wr h.gap (by unfold inGap; simp; omega)).mono ?_
  rintro e w' ⟨rfl, hw⟩
  exact ⟨rfl, h.same hw⟩

theorem FState.off_at {W : World} {mb ub hb ob : Nat} {n : Int} {U : Int × Int → Bool} {H : Int × Int → Option Int} {off : Nat → Bool} {wr : World} (h : FState W mb ub hb ob n U H off wr) (k : Nat) (hk : k < 40) : wr.cell? ⟨ob, k, none⟩ = some (.bool (off k)) := (h.cells.cell k).trans (offCells_get off k hk)
theorem FState.off_free {W : World} {mb ub hb ob : Nat} {n : Int} {U : Int × Int → Bool} {H : Int × Int → Option Int} {off : Nat → Bool} {wr : World} (h : FState W mb ub hb ob n U H off wr) (k : Nat) : wr.frozen? ⟨ob, k, none⟩ = false := h.cells.free k
theorem FState.alloc {W : World} {mb ub hb ob : Nat} {n : Int} {U : Int × Int → Bool} {H : Int × Int → Option Int} {off : Nat → Bool} {wr : World} (h : FState W mb ub hb ob n U H off wr) (o : Obj) : FState W mb ub hb ob n U H off (wr.alloc o) := h.same ((Below.refl _ _).alloc (Nat.le_refl _) _)
end Go.Proofs.Ytpehppbnlffikaa

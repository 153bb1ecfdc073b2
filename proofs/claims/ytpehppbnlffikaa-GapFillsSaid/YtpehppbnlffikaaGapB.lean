/- The cells of package gap: New, may, Use, Hold. Conditions: the map was made by New, and numbers fit their kind. -/
import Derived.Test.YtpehppbnlffikaaGapA
import Derived.Lib.Hide
import Derived.WalkSmall
namespace Go.Proofs.Ytpehppbnlffikaa
open Go.RowKit Go.Wh Go.Maps

def usedV (U : Int × Int → Bool) (x : Int × Int) : Option Value := if U x then some (.bool true) else none
def heldV (H : Int × Int → Option Int) (x : Int × Int) : Option Value := (H x).map (.int .i64)

/-- A map of cells in memory: its block, the two maps' blocks; how many pages; which are used; who holds which. -/
structure GapAt (w : World) (mb ub hb : Nat) (n : Int) (U : Int × Int → Bool) (H : Int × Int → Option Int) : Prop where
  c0 : w.cell? ⟨mb, 0, none⟩ = some (.int .i64 n)
  c1 : w.cell? ⟨mb, 1, none⟩ = some (.map (some ub))
  c2 : w.cell? ⟨mb, 2, none⟩ = some (.map (some hb))
  mu : kmap w Try.prog 28 rid ub (usedV U)
  mh : kmap w Try.prog 28 rid hb (heldV H)
  uh : ub ≠ hb

theorem GapAt.lt {w : World} {mb ub hb : Nat} {n : Int} {U : Int × Int → Bool} {H : Int × Int → Option Int} (h : GapAt w mb ub hb n U H) : mb < w.heap.size ∧ ub < w.heap.size ∧ hb < w.heap.size :=
  ⟨World.block_lt_of_cell? _ _ h.c0, h.mu.lt, h.mh.lt⟩

theorem GapAt.kept {w w' : World} {mb ub hb : Nat} {n : Int} {U : Int × Int → Bool} {H : Int × Int → Option Int} (h : GapAt w mb ub hb n U H) (hb1 : w'.heap[mb]? = w.heap[mb]?) (hb2 : w'.heap[ub]? = w.heap[ub]?) (hb3 : w'.heap[hb]? = w.heap[hb]?) : GapAt w' mb ub hb n U H :=
  ⟨(World.cell?_of_block (a := ⟨mb, 0, none⟩) hb1).trans h.c0, (World.cell?_of_block (a := ⟨mb, 1, none⟩) hb1).trans h.c1, (World.cell?_of_block (a := ⟨mb, 2, none⟩) hb1).trans h.c2, h.mu.block hb2, h.mh.block hb3, h.uh⟩

theorem GapAt.below {w w' : World} {mb ub hb : Nat} {n : Int} {U : Int × Int → Bool} {H : Int × Int → Option Int} (h : GapAt w mb ub hb n U H) (hB : Below w.heap.size w w') : GapAt w' mb ub hb n U H :=
  h.kept (hB.block _ h.lt.1) (hB.block _ h.lt.2.1) (hB.block _ h.lt.2.2)

theorem gap_made (w : World) (k : Int) : GapAt (((w.alloc (Obj.map #[] 0)).alloc (Obj.map #[] 0)).alloc (Obj.cells #[Value.int IntKind.i64 k, Value.map (some w.heap.size), Value.map (some (w.heap.size + 1))] 41))
    (w.heap.size + 1 + 1) w.heap.size (w.heap.size + 1) k (fun _ => false) (fun _ => none) := by
  have h1 := kmap_made w Try.prog 28 rid
  have h2 := kmap_made (w.alloc (Obj.map #[] 0)) Try.prog 28 rid
  rw [World.size_alloc] at h2
  have g2 := World.grownBy_alloc (w.alloc (Obj.map #[] 0)) (Obj.map #[] 0) none
  have g3 := World.grownBy_alloc ((w.alloc (Obj.map #[] 0)).alloc (Obj.map #[] 0)) (Obj.cells #[Value.int IntKind.i64 k, Value.map (some w.heap.size), Value.map (some (w.heap.size + 1))] 41) none
  refine ⟨?_, ?_, ?_, ((h1.kept g2 (by simp)).kept g3 (by simp)).ext (fun _ => rfl), (h2.kept g3 (by simp)).ext (fun _ => rfl), by omega⟩ <;> simp [go_sem]

def NewPost (w : World) (n : Int) (e : Ending) (w' : World) : Prop :=
  Below w.heap.size w w' ∧ ∃ mb ub hb, e = .returned (.pointer (some ⟨mb, 0, none⟩)) ∧ w.heap.size ≤ mb ∧ w.heap.size ≤ ub ∧ w.heap.size ≤ hb ∧ GapAt w' mb ub hb (min (max n 0) 32) (fun _ => false) (fun _ => none)

theorem new_post (w : World) (n k : Int) (hk : k = min (max n 0) 32) : NewPost w n (.returned (.pointer (some ⟨w.heap.size + 1 + 1, 0, none⟩))) (((w.alloc (Obj.map #[] 0)).alloc (Obj.map #[] 0)).alloc (Obj.cells #[Value.int IntKind.i64 k, Value.map (some w.heap.size), Value.map (some (w.heap.size + 1))] 41)) := by
  subst hk
  exact ⟨(((Below.refl _ _).alloc (Nat.le_refl _) _).alloc (by simp) _).alloc (by simp; omega) _, _, _, _, rfl, by omega, by omega, by omega, gap_made w _⟩

set_option maxHeartbeats 400000 in
theorem new_any (n : Int) (w : World) : Calls Try.prog 6 #[.int .i64 n] w (NewPost w n) := by
  have hmm := @run_makeMap Try.prog
  go_enter Try.func6, Try.ntmps6
  go_wp2
  all_goals
    go_ret
    exact new_post w n _ (by omega)

def inGap (n p c : Int) : Bool := decide (0 ≤ p ∧ p < n ∧ 0 ≤ c ∧ c < 4)

set_option maxHeartbeats 400000 in
theorem may_nil (p c : Int) (w : World) :
    Calls Try.prog 13 #[.pointer none, .agg #[.int .i64 p, .int .i64 c]] w fun e w' => e = .returned (.bool false) ∧ Below w.heap.size w w' := by
  go_enter Try.func13, Try.ntmps13
  go_wp2
  go_quiet (fail)
  go_wp2
  go_ret
  exact ⟨rfl, below_drewN ((Below.refl _ _).alloc (Nat.le_refl _) _) _⟩

set_option maxHeartbeats 1000000 in
theorem may_any (mb : Nat) (n p c : Int) (w : World) (h : w.cell? ⟨mb, 0, none⟩ = some (.int .i64 n)) (hlt : mb < w.heap.size) :
    Calls Try.prog 13 #[.pointer (some ⟨mb, 0, none⟩), .agg #[.int .i64 p, .int .i64 c]] w fun e w' => e = .returned (.bool (inGap n p c)) ∧ Below w.heap.size w w' := by
  have fin : ∀ (b : Bool) (k : Nat), b = inGap n p c → (Ending.returned (.bool b) = .returned (.bool (inGap n p c)) ∧ Below w.heap.size w ((w.alloc (Obj.cells #[Value.int IntKind.i64 p, Value.int IntKind.i64 c] 28)).drewN k)) := fun b k hb =>
    ⟨by rw [hb], below_drewN ((Below.refl _ _).alloc (Nat.le_refl _) _) _⟩
  have FIN := Lib.hid fin
  clear fin
  by_cases h0 : 0 ≤ p
  · by_cases h1 : p < n
    · by_cases h2 : 0 ≤ c
      · by_cases h3 : c < 4
        · go_enter Try.func13, Try.ntmps13
          go_wp2
          go_quiet (fail)
          go_wp2
          go_ret
          exact FIN.out _ _ (by unfold inGap; simp; omega)
        · have h3' : decide (c < 4) = false := by simpa using h3
          go_enter Try.func13, Try.ntmps13
          go_wp2
          go_quiet (fail)
          go_wp2
          go_ret
          exact FIN.out _ _ (by unfold inGap; simp; omega)
      · have h2' : decide (0 ≤ c) = false := by simpa using h2
        go_enter Try.func13, Try.ntmps13
        go_wp2
        go_quiet (fail)
        go_wp2
        go_ret
        exact FIN.out _ _ (by unfold inGap; simp; omega)
    · have h1' : decide (p < n) = false := by simpa using h1
      go_enter Try.func13, Try.ntmps13
      go_wp2
      go_quiet (fail)
      go_wp2
      go_ret
      exact FIN.out _ _ (by unfold inGap; simp; omega)
  · have h0' : decide (0 ≤ p) = false := by simpa using h0
    go_enter Try.func13, Try.ntmps13
    go_wp2
    go_quiet (fail)
    go_wp2
    go_ret
    exact FIN.out _ _ (by unfold inGap; simp; omega)

end Go.Proofs.Ytpehppbnlffikaa

/- The law's own begun: package plan does what it should on two spots. No conditions. -/
import Derived.Test.YtpppphalacojjaaPlanG
namespace Go.Proofs.Ytpppphalacojjaa
open Go.RowKit Go.Wh

def kb : ByteArray := ⟨#[98]⟩
def ka : ByteArray := ⟨#[97]⟩
def L2 : List Spot := [⟨kb, 5, 0⟩, ⟨ka, 6, 0⟩]
def L2s : List Spot := [⟨ka, 6, 0⟩, ⟨kb, 5, 0⟩]
def R2 : List Rid := [⟨16, 0⟩, ⟨16, 1⟩]
theorem kab : bl kb ka = false := by decide +kernel
theorem kne : kb ≠ ka := fun h => by
  have : kb.data = ka.data := by rw [h]
  revert this
  decide
theorem L2d : Distinct L2 := by
  unfold Distinct L2
  simp [kne]
theorem L2s_of {l : List Spot} (hp : l.Perm L2) (hs : Sorted l) : l = L2s := by
  refine (sorted_unique (l := L2s) (m := l) ((List.Perm.swap _ _ _).trans hp.symm) ?_ hs ?_).symm
  · unfold Sorted L2s
    simp [kab]
  · unfold Distinct L2s
    simp [Ne.symm kne]

def BNext (w : World) (e : Ending) (w' : World) : Prop :=
  ∃ g o cap, e = .returned (.slice (some ⟨g, o, none⟩) 2 cap) ∧ w'.cell? ⟨g, o, none⟩ = some (.int .i64 6) ∧ Below w.heap.size w w'
theorem begun_next (v fv : Value) (w : World) (hv : Vec w 3 v 2 (flat L2)) (hf : Vec w 2 fv 2 (flatR R2)) : Calls Try.prog 11 #[v, fv] w (BNext w) := by
  refine (next_of L2 R2 v fv w (sorted_small v 2 L2 w hv.reads (by omega)) L2d (by decide) (by decide) hf).mono ?_
  rintro e w' ⟨v', l', rfl, hp, hs, hv', hb, hfr⟩
  rw [L2s_of hp hs] at hv'
  obtain ⟨g, o, cap, he, hva⟩ := hv'.form (by decide)
  refine ⟨g, o, cap, ?_, ?_, hb⟩
  · rw [he]; rfl
  · have := hva.cells 0 (by decide)
    exact this

def BTrue (w : World) (e : Ending) (w' : World) : Prop := e = .returned (.bool true) ∧ Below w.heap.size w w'
def BFalse (w : World) (e : Ending) (w' : World) : Prop := e = .returned (.bool false) ∧ Below w.heap.size w w'
theorem begun_nil (w : World) : Calls Try.prog 10 #[.slice none 0 0, .int .i64 0] w (BTrue w) := by
  refine (right_of [] (.slice none 0 0) 0 w (.inl rfl) (sorted_small _ 0 [] w ⟨rfl, .inl ⟨rfl, rfl⟩⟩ (by omega)) List.Pairwise.nil (by decide)).mono ?_
  rintro e w' ⟨l', hp, hs, hb, h⟩
  rcases h with ⟨rfl, _⟩ | ⟨rfl, h⟩
  · exact ⟨rfl, hb⟩
  · refine absurd ?_ h
    rw [hp.eq_nil]
    intro i s hi
    simp at hi
theorem begun_two (v : Value) (w : World) (hv : Vec w 3 v 2 (flat L2)) : Calls Try.prog 10 #[v, .int .i64 0] w (BFalse w) := by
  refine (right_of L2 v 0 w (.inl rfl) (sorted_small v 2 L2 w hv.reads (by omega)) L2d (by decide)).mono ?_
  rintro e w' ⟨l', hp, hs, hb, h⟩
  rw [L2s_of hp hs] at h
  rcases h with ⟨rfl, h⟩ | ⟨rfl, _⟩
  · have := (h 0 ⟨ka, 6, 0⟩ rfl).1
    simp at this
  · exact ⟨rfl, hb⟩

set_option maxRecDepth 100000 in
set_option maxHeartbeats 2000000 in
theorem begun_any (w : World) : Calls Try.prog 7 #[] w (BTrue w) := by
  go_enter Try.func7, Try.ntmps7
  have HL := Lib.hid (show Vec _ 3 (.slice (some ⟨w.heap.size, 0, none⟩) 2 2) 2 (flat L2) from vec_block (n := 2) (size := 3) (heap_alloc_new w (.cells #[.string kb, .int .i64 5, .int .i64 0, .string ka, .int .i64 6, .int .i64 0] 31)) rfl (by decide))
  have HR := Lib.hid (show Vec _ 2 (.slice (some ⟨w.heap.size + 1, 0, none⟩) 2 2) 2 (flatR R2) from by
    have := vec_block (n := 2) (size := 2) (heap_alloc_new (w.alloc (.cells #[.string kb, .int .i64 5, .int .i64 0, .string ka, .int .i64 6, .int .i64 0] 31)) (.cells #[.int .i64 16, .int .i64 0, .int .i64 16, .int .i64 1] 26)) rfl (by decide)
    simp only [World.size_alloc] at this
    exact this)
  have HB := Lib.hid (((Below.refl w.heap.size w).alloc (Nat.le_refl _) (.cells #[.string kb, .int .i64 5, .int .i64 0, .string ka, .int .i64 6, .int .i64 0] 31)).alloc (by simp) (.cells #[.int .i64 16, .int .i64 0, .int .i64 16, .int .i64 1] 26))
  have HL2 := Lib.hid (HL.out.alloc (.cells #[.int .i64 16, .int .i64 0, .int .i64 16, .int .i64 1] 26))
  go_wp2_with fail
  refine (begun_next _ _ _ HL2.out HR.out).mono ?_
  rintro e w1 ⟨g, o, cap, rfl, hc, hb1⟩
  have HC := Lib.hid hc
  have HL1 := Lib.hid (HL2.out.belowAll hb1)
  have HB1 := Lib.hid (HB.out.trans (Below.mono hb1 HB.out.size))
  clear hc hb1 HL HR HL2 HB
  go_wp2_with fail
  refine (place_yes 1 4 _ (by omega) (by omega) (by omega) (by omega)).mono ?_
  rintro e w2 ⟨rfl, hb2⟩
  have HC2 := Lib.hid ((hb2.cell (lt_of_cell HC.out)).trans HC.out)
  have HL3 := Lib.hid (HL1.out.belowAll hb2)
  have HB2 := Lib.hid (HB1.out.trans (Below.mono hb2 HB1.out.size))
  clear hb2 HC HL1 HB1
  have c0 : (w2.alloc (.cells #[.int .i64 17, .int .i64 1] 26)).cell? ⟨g, o, none⟩ = some (.int .i64 6) := by
    rw [World.cell?_alloc_old _ _ _ (by have := lt_of_cell HC2.out; simp; omega)]
    exact HC2.out
  have hcf : cellsAt (w2.alloc (.cells #[.int .i64 17, .int .i64 1] 26)) w2.heap.size [.int .i64 17, .int .i64 1] := cellsAt_new w2 _ _
  have f0 := hcf.cell 0
  have f1 := hcf.cell 1
  simp only [List.getElem?_cons_zero, List.getElem?_cons_succ] at f0 f1
  have HL4 := Lib.hid (HL3.out.alloc (.cells #[.int .i64 17, .int .i64 1] 26))
  have HB3 := Lib.hid (HB2.out.alloc HB2.out.size (.cells #[.int .i64 17, .int .i64 1] 26))
  clear hcf HL3 HC2
  go_wp2_with fail
  clear c0 f0 f1
  refine (begun_nil _).mono ?_
  rintro e w3 ⟨rfl, hb3⟩
  have HL5 := Lib.hid (HL4.out.belowAll hb3)
  have HB4 := Lib.hid (HB3.out.trans (Below.mono hb3 HB3.out.size))
  clear hb3 HL4 HB3
  go_wp2_with fail
  refine (begun_two _ _ HL5.out).mono ?_
  rintro e w4 ⟨rfl, hb4⟩
  have HB5 := Lib.hid (HB4.out.trans (Below.mono hb4 HB4.out.size))
  clear hb4 HL5 HB4
  have F := Lib.hid (show BTrue w (.returned (.bool true)) w4 from ⟨rfl, HB5.out⟩)
  clear HB5
  go_wp2_with fail
  refine (most_any _).mono ?_
  rintro e w' ⟨rfl, rfl⟩
  go_wp2_with fail
  go_ret
  exact F.out
end Go.Proofs.Ytpppphalacojjaa

/- Frames: nothing but blocks of a set, and new ones, has turned. No conditions. -/
import Derived.WalkKit
import Derived.WalkSmall
namespace Go.Wh
open Go.RowKit

structure Only (S : Nat → Prop) (w w' : World) : Prop where
 os : w'.os = w.os
 tape : w'.tape = w.tape
 output : w'.output = w.output
 size : w.heap.size ≤ w'.heap.size
 block : ∀ k, k < w.heap.size → ¬ S k → w'.heap[k]? = w.heap[k]?

theorem Only.refl (S : Nat → Prop) (w : World) : Only S w w := ⟨rfl, rfl, rfl, Nat.le_refl _, fun _ _ _ => rfl⟩
theorem Only.trans {S : Nat → Prop} {a b c : World} (h : Only S a b) (k : Only S b c) : Only S a c :=
 ⟨k.os.trans h.os, k.tape.trans h.tape, k.output.trans h.output, Nat.le_trans h.size k.size, fun i hi hs => (k.block i (Nat.lt_of_lt_of_le hi h.size) hs).trans (h.block i hi hs)⟩
theorem Only.andThen {S T : Nat → Prop} {a b c : World} (h : Only S a b) (k : Only T b c) (ht : ∀ i, i < a.heap.size → T i → S i) : Only S a c :=
 ⟨k.os.trans h.os, k.tape.trans h.tape, k.output.trans h.output, Nat.le_trans h.size k.size, fun i hi hs => (k.block i (Nat.lt_of_lt_of_le hi h.size) (fun t => hs (ht i hi t))).trans (h.block i hi hs)⟩
theorem Only.mono {S T : Nat → Prop} {a b : World} (h : Only S a b) (ht : ∀ i, S i → T i) : Only T a b :=
 ⟨h.os, h.tape, h.output, h.size, fun i hi hs => h.block i hi (fun s => hs (ht i s))⟩
theorem Only.drew {S : Nat → Prop} {a b : World} (h : Only S a b) : Only S a b.drew := ⟨h.os, h.tape, h.output, h.size, h.block⟩
theorem Only.undrew {S : Nat → Prop} {a b : World} (h : Only S a.drew b) : Only S a b := ⟨h.os, h.tape, h.output, h.size, h.block⟩
theorem Only.drewN {S : Nat → Prop} {a b : World} (h : Only S a b) (n : Nat) : Only S a (b.drewN n) := ⟨h.os, h.tape, h.output, h.size, h.block⟩
theorem Only.alloc {S : Nat → Prop} {a b : World} (h : Only S a b) (o : Obj) : Only S a (b.alloc o) :=
 ⟨h.os, h.tape, h.output, Nat.le_trans h.size (by simp), fun i hi hs => (Below.heap_alloc b o i (Nat.lt_of_lt_of_le hi h.size)).trans (h.block i hi hs)⟩
theorem Only.setCell {S : Nat → Prop} {a b : World} (h : Only S a b) {p : Addr} (hp : S p.block ∨ a.heap.size ≤ p.block) (u : Value) : Only S a (b.setCell p u) :=
 ⟨h.os, h.tape, h.output, by simpa [World.setCell] using h.size, fun i hi hs => (Below.heap_setCell b p u i (by
  rintro rfl
  rcases hp with hp | hp
  · exact hs hp
  · omega)).trans (h.block i hi hs)⟩
theorem Only.grown {S : Nat → Prop} {a b : World} {row : Option Nat} (h : a.grownBy b row) (hr : ∀ j, row = some j → S j) : Only S a b :=
 ⟨h.os, h.tape, h.output, h.size, fun i hi hs => h.block i hi (fun e => hs (hr i e.symm))⟩
theorem Only.ofBelow {S : Nat → Prop} {a b : World} (h : Below a.heap.size a b) : Only S a b := ⟨h.os, h.tape, h.output, h.size, fun i hi _ => h.block i hi⟩
theorem Only.below {S : Nat → Prop} {a b : World} (h : Only S a b) {B : Nat} (hB : B ≤ a.heap.size) (hs : ∀ i, i < B → ¬ S i) : Below B a b :=
 ⟨h.os, h.tape, h.output, h.size, fun i hi => h.block i (Nat.lt_of_lt_of_le hi hB) (hs i hi)⟩
theorem Only.cell {S : Nat → Prop} {a b : World} (h : Only S a b) {p : Addr} (hp : p.block < a.heap.size) (hs : ¬ S p.block) : b.cell? p = a.cell? p := World.cell?_of_block (w := a) (h.block p.block hp hs)
theorem Only.frozen {S : Nat → Prop} {a b : World} (h : Only S a b) {p : Addr} (hp : p.block < a.heap.size) (hs : ¬ S p.block) : b.frozen? p = a.frozen? p := World.frozen?_of_block (w := a) (h.block p.block hp hs)

theorem lt_of_cell {w : World} {r o : Nat} {v : Value} (h : w.cell? ⟨r, o, none⟩ = some v) : r < w.heap.size := World.block_lt_of_cell? _ _ h

def cellsAt (w : World) (r : Nat) (l : List Value) : Prop := ∃ t, w.heap[r]? = some (.cells l.toArray t (0, 0))
theorem cellsAt.lt {w : World} {r : Nat} {l : List Value} (h : cellsAt w r l) : r < w.heap.size := by
 obtain ⟨t, h⟩ := h
 exact (Array.getElem?_eq_some_iff.1 h).1
theorem cellsAt.cell {w : World} {r : Nat} {l : List Value} (h : cellsAt w r l) (i : Nat) : w.cell? ⟨r, i, none⟩ = l[i]? := by
 obtain ⟨t, h⟩ := h
 simp [World.cell?, h]
theorem cellsAt.free {w : World} {r : Nat} {l : List Value} (h : cellsAt w r l) (i : Nat) : w.frozen? ⟨r, i, none⟩ = false := by
 obtain ⟨t, h⟩ := h
 simp [World.frozen?, h]
theorem cellsAt.block {w w' : World} {r : Nat} {l : List Value} (h : cellsAt w r l) (hb : w'.heap[r]? = w.heap[r]?) : cellsAt w' r l := by
 obtain ⟨t, h⟩ := h
 exact ⟨t, hb.trans h⟩
theorem cellsAt.only {S : Nat → Prop} {w w' : World} {r : Nat} {l : List Value} (h : cellsAt w r l) (ho : Only S w w') (hs : ¬ S r) : cellsAt w' r l := h.block (ho.block r h.lt hs)
theorem cellsAt.below {B : Nat} {w w' : World} {r : Nat} {l : List Value} (h : cellsAt w r l) (ho : Below B w w') (hs : r < B) : cellsAt w' r l := h.block (ho.block r hs)
theorem cellsAt.drew {w : World} {r : Nat} {l : List Value} (h : cellsAt w r l) : cellsAt w.drew r l := h
theorem cellsAt_new (w : World) (l : List Value) (t : TypeId) : cellsAt (w.alloc (.cells l.toArray t)) w.heap.size l := ⟨t, heap_alloc_new w _⟩
theorem alloc_kept (w : World) (o : Obj) {r : Nat} (h : r < w.heap.size) : (w.alloc o).heap[r]? = w.heap[r]? := by
 show (w.heap.push o)[r]? = _
 rw [Array.getElem?_push_lt h, Array.getElem?_eq_getElem h]
theorem cellsAt.alloc {w : World} {r : Nat} {l : List Value} (h : cellsAt w r l) (o : Obj) : cellsAt (w.alloc o) r l := h.block (alloc_kept w o h.lt)
theorem cellsAt.setCell {w : World} {r : Nat} {l : List Value} (h : cellsAt w r l) (i : Nat) (u : Value) : cellsAt (w.setCell ⟨r, i, none⟩ u) r (l.set i u) := by
 obtain ⟨t, h⟩ := h
 refine ⟨t, ?_⟩
 have hr := (Array.getElem?_eq_some_iff.1 h)
 simp [World.setCell, Array.getElem?_modify, h]
theorem cellsAt.setOther {w : World} {r : Nat} {l : List Value} (h : cellsAt w r l) {p : Addr} (hp : r ≠ p.block) (u : Value) : cellsAt (w.setCell p u) r l := h.block (Below.heap_setCell w p u r hp)

theorem below_undrew {w w1 : World} (h : Below w.drew.heap.size w.drew w1) : Below w.heap.size w w1 := ⟨h.os, h.tape, h.output, h.size, h.block⟩
theorem below_drew {w : World} : Below w.heap.size w w.drew := ⟨rfl, rfl, rfl, Nat.le_refl _, fun _ _ => rfl⟩

end Go.Wh

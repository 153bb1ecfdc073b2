/- A struct of many cells stored or loaded at once: what becomes of the memory, by its words. No conditions. -/
import Derived.Test.YtojkggppcmdepaaGreatVec
import Derived.Laws.Tables
namespace Go.Wh
open Go.RowKit
def aggB : TypeDesc → Bool
  | .struct _ => true
  | .array _ _ => true
  | _ => false
section
variable {P : Program} {w : World} {ops : Array Oper} {rest : List Oper} {o : Oper} {a : Act} {Q : Exit → Act → World → Prop}
theorem setRow_words {g : Nat} {old : List Value} (cells : Array Value) (hc : cellsAt w g old) : cellsAt (w.setRow g cells) g cells.toList ∧ Only (fun b => b = g) w (w.setRow g cells) ∧ (w.setRow g cells).heap.size = w.heap.size := by
  obtain ⟨t, h⟩ := hc
  have hlt := (Array.getElem?_eq_some_iff.1 h).1
  refine ⟨⟨t, ?_⟩, ⟨rfl, rfl, rfl, ?_, fun k hk hn => ?_⟩, ?_⟩
  · simp [World.setRow, Array.getElem?_modify, h]
  · simp [World.setRow]
  · simp [World.setRow, Array.getElem?_modify]
    intro e
    exact absurd e.symm hn
  · simp [World.setRow]
theorem wpList_storeAgg (hgd : o.guard = none) (ty : TypeId) (x y : Operand) (ho : o.op = .store ty x y) (g : Nat) (cells : Array Value) (hx : a.eval x = .pointer (some ⟨g, 0, none⟩)) (hy : a.eval y = .agg cells)
    {old : List Value} (hc : cellsAt w g old) (hi : (P.info? ty).map (·.size) = some cells.size) (hold : old.length = cells.size) (h1 : cells.toList.all (·.oneCell') = true)
    (hK : ∀ w', cellsAt w' g cells.toList → Only (fun b => b = g) w w' → w'.heap.size = w.heap.size → wpList P ops Q rest (a.put o.dst undef) w') : wpList P ops Q (o :: rest) a w := by
  have hc' := hc
  obtain ⟨t, h⟩ := hc'
  obtain ⟨k1, k2, k3⟩ := setRow_words cells hc
  exact wpList_store_row hgd ty x y ho g cells hx hy t old.toArray h hi (by simpa using hold) (by rw [← Array.all_toList]; exact h1) (hK _ k1 k2 k3)
theorem wpList_loadAgg (hgd : o.guard = none) (ty : TypeId) (x : Operand) (ho : o.op = .load ty x) (g : Nat) (cells : Array Value) (hx : a.eval x = .pointer (some ⟨g, 0, none⟩)) (hc : cellsAt w g cells.toList)
    (d : TypeDesc) (hu : P.underlying ty = some d) (hd : aggB d = true) (hi : (P.info? ty).map (·.size) = some cells.size)
    (hK : wpList P ops Q rest (a.put o.dst (.agg cells)) w) : wpList P ops Q (o :: rest) a w := by
  obtain ⟨t, h⟩ := hc
  exact wpList_load_row hgd ty x ho g hx t cells (0, 0) d (by simpa using h) hu (by cases d <;> first | rfl | (simp [aggB] at hd)) hi hK
theorem loadVar_agg (ty : TypeId) (g : Nat) (cells : Array Value) (hc : cellsAt w g cells.toList) (d : TypeDesc) (hu : P.underlying ty = some d) (hd : aggB d = true) (hi : (P.info? ty).map (·.size) = some cells.size) :
    (loadVar ty ⟨g, 0, none⟩).run P w = .ok (.agg cells) w := by
  obtain ⟨t, h⟩ := hc
  exact run_loadVar_row w g t ty cells (0, 0) d (by simpa using h) hu (by cases d <;> first | rfl | (simp [aggB] at hd)) hi
end
end Go.Wh

/- A slice in memory as the list of its cells, wherever it lies in its block: read, written, cut, appended to. No conditions. append of a slice as the list of its cells, at a step of a region that draws its order. No conditions. More of a slice as the list of its cells: many cells written at once, a longer cut, copy, clear, an append of a make, overlaps. No conditions. A map in memory as a function from its keys to its elements: looked up, laid into, cut, gone through. Conditions: the key's type is one of which the kit knows 'Keyed'. Trail: bytes, sums, tiles: plain. No program. No conditions. The library's Clone of bytes; the disk in memory; its small calls: Tiles, Dead, may, Read. Conditions: they lie in memory. -/
import Derived.Test.YtlcfoeikamkpmaaGreatPr01
import Derived.Maps.Range
import Derived.Deep.MidRow
import Derived.ArgAppend
import Derived.Deep.AppendLies
import Derived.Deep.RegionLaw
import Derived.Deep.RegionHeld3
import Derived.Lib.AppendZerosOnto
import Derived.Lib.SliceRun
import Derived.Lib.Overlaps
import Derived.Laws.IdiomCopy
import Derived.Laws.Externs
import Derived.Deep.AppendSrc
import Derived.Maps.RangeWalk
import Derived.WalkKit
import Derived.Test.YtlcfoeikamkpmaaGreatRows
import Derived.WalkSpells
import Derived.WalkLawsBesides
import Derived.Deep.QuietTactic
import Derived.BigQuiet
import Derived.StillTailTactics
import Derived.Lib.Walk
import Derived.Lib.Hide
namespace Go.Wh
open Go.RowKit

structure VecAt (w : World) (size g o n cap : Nat) (xs : List Value) : Prop where
 len : xs.length = n * size
 le : n ≤ cap
 small : cap ≤ maxLen
 cells : ∀ j, j < n * size → w.cell? ⟨g, o + j, none⟩ = xs[j]?
 room : ∀ j, j < cap * size → (w.cell? ⟨g, o + j, none⟩).isSome = true ∧ w.frozen? ⟨g, o + j, none⟩ = false

def Vec (w : World) (size : Nat) (v : Value) (n : Nat) (xs : List Value) : Prop :=
 (v = .slice none 0 0 ∧ n = 0 ∧ xs = []) ∨ ∃ g o cap, v = .slice (some ⟨g, o, none⟩) n cap ∧ VecAt w size g o n cap xs

section
variable {w w' : World} {size g o n cap : Nat} {xs : List Value} {v : Value}

theorem VecAt.block (h : VecAt w size g o n cap xs) (hb : w'.heap[g]? = w.heap[g]?) : VecAt w' size g o n cap xs :=
 ⟨h.len, h.le, h.small, fun j hj => (World.cell?_of_block (a := ⟨g, o + j, none⟩) hb).trans (h.cells j hj), fun j hj => by
  have h1 := h.room j hj
  rw [World.cell?_of_block (a := ⟨g, o + j, none⟩) (w := w) (w' := w') hb, World.frozen?_of_block (a := ⟨g, o + j, none⟩) (w := w) (w' := w') hb]
  exact h1⟩

theorem VecAt.lt (h : VecAt w size g o n cap xs) (hc : 0 < cap * size) : g < w.heap.size := by
 have := (h.room 0 hc).1
 rw [Option.isSome_iff_exists] at this
 obtain ⟨u, hu⟩ := this
 exact lt_of_cell hu

theorem Vec.nil (w : World) (size : Nat) : Vec w size (.slice none 0 0) 0 [] := .inl ⟨rfl, rfl, rfl⟩

theorem Vec.none_ (w : World) (size g o : Nat) : Vec w size (.slice (some ⟨g, o, none⟩) 0 0) 0 [] := .inr ⟨g, o, 0, rfl, ⟨by simp, Nat.le_refl _, Nat.zero_le _, fun j hj => by omega, fun j hj => by omega⟩⟩

theorem Vec.len (h : Vec w size v n xs) : xs.length = n * size := by
 rcases h with ⟨_, rfl, rfl⟩ | ⟨g, o, cap, _, h⟩
 · simp
 · exact h.len

theorem Vec.small (h : Vec w size v n xs) : n ≤ maxLen := by
 rcases h with ⟨_, rfl, rfl⟩ | ⟨g, o, cap, _, h⟩
 · exact Nat.zero_le _
 · exact Nat.le_trans h.le h.small

theorem Vec.kept (h : Vec w size v n xs) (hb : ∀ g, v.ownBlock = some g → g < w.heap.size → w'.heap[g]? = w.heap[g]?) : Vec w' size v n xs := by
 rcases h with h | ⟨g, o, cap, rfl, h⟩
 · exact .inl h
 · refine .inr ⟨g, o, cap, rfl, ?_⟩
   by_cases hc : 0 < cap * size
   · exact h.block (hb g rfl (h.lt hc))
   · have h0 : cap * size = 0 := by omega
     have hn : n * size = 0 := by
      have := Nat.mul_le_mul_right size h.le
      omega
     exact ⟨h.len, h.le, h.small, fun j hj => by omega, fun j hj => by omega⟩

theorem Vec.only {S : Nat → Prop} (h : Vec w size v n xs) (ho : Only S w w') (hs : ∀ g, v.ownBlock = some g → ¬ S g) : Vec w' size v n xs := h.kept fun g hg hl => ho.block g hl (hs g hg)
theorem Vec.below {B : Nat} (h : Vec w size v n xs) (ho : Below B w w') (hs : ∀ g, v.ownBlock = some g → g < B) : Vec w' size v n xs := h.kept fun g hg _ => ho.block g (hs g hg)
theorem Vec.belowAll (h : Vec w size v n xs) (ho : Below w.heap.size w w') : Vec w' size v n xs := h.kept fun g _ hl => ho.block g hl
theorem Vec.alloc (h : Vec w size v n xs) (ob : Obj) : Vec (w.alloc ob) size v n xs := h.belowAll ((Below.refl _ _).alloc (Nat.le_refl _) _)
theorem Vec.drew (h : Vec w size v n xs) : Vec w.drew size v n xs := h.kept fun _ _ _ => rfl
theorem Vec.grown {row : Option Nat} (h : Vec w size v n xs) (hg : w.grownBy w' row) (hne : v.ownBlock = none ∨ v.ownBlock ≠ row) : Vec w' size v n xs :=
 h.kept fun g e hl => hg.block g hl (by rw [e] at hne; exact hne.elim (fun h => by cases h) id)

theorem Vec.form (h : Vec w size v n xs) (hn : 0 < n) : ∃ g o cap, v = .slice (some ⟨g, o, none⟩) n cap ∧ VecAt w size g o n cap xs := by
 rcases h with ⟨_, rfl, _⟩ | h
 · omega
 · exact h
theorem Vec.form' (h : Vec w size v n xs) : ∃ a cap, v = .slice a n cap := by
 rcases h with ⟨rfl, rfl, _⟩ | ⟨g, o, cap, rfl, h⟩
 · exact ⟨_, _, rfl⟩
 · exact ⟨_, _, rfl⟩

theorem Vec.at (h : Vec w size (.slice (some ⟨g, o, none⟩) n cap) n xs) : VecAt w size g o n cap xs := by
 rcases h with ⟨h, _⟩ | ⟨g', o', cap', he, h⟩
 · cases h
 · cases he
   exact h

theorem VecAt.cell (h : VecAt w size g o n cap xs) (j : Nat) (hj : j < n * size) : w.cell? ⟨g, o + j, none⟩ = xs[j]? := h.cells j hj
theorem VecAt.free (h : VecAt w size g o n cap xs) (j : Nat) (hj : j < n * size) : w.frozen? ⟨g, o + j, none⟩ = false :=
 (h.room j (Nat.lt_of_lt_of_le hj (Nat.mul_le_mul_right _ h.le))).2

theorem VecAt.set (h : VecAt w size g o n cap xs) (j : Nat) (hj : j < n * size) (u : Value) : VecAt (w.setCell ⟨g, o + j, none⟩ u) size g o n cap (xs.set j u) := by
 have hsome : ∃ x, w.cell? ⟨g, o + j, none⟩ = some x := by
  have := (h.room j (Nat.lt_of_lt_of_le hj (Nat.mul_le_mul_right _ h.le))).1
  rwa [Option.isSome_iff_exists] at this
 obtain ⟨x, hx⟩ := hsome
 have hcell : ∀ i, (w.setCell ⟨g, o + j, none⟩ u).cell? ⟨g, o + i, none⟩ = if i = j then some u else w.cell? ⟨g, o + i, none⟩ := fun i => by
  by_cases hi : i = j
  · subst hi
    rw [if_pos rfl, World.cell?_setCell_same _ _ _ hx]
  · rw [if_neg hi, World.cell?_setCell_other]
    intro e
    injection e with _ e _
    omega
 refine ⟨by simpa using h.len, h.le, h.small, fun i hi => ?_, fun i hi => ?_⟩
 · rw [hcell, List.getElem?_set]
   by_cases hij : i = j
   · subst hij
     rw [if_pos rfl, if_pos rfl, if_pos (by rw [h.len]; exact hi)]
   · rw [if_neg hij, if_neg (Ne.symm hij)]
     exact h.cells i hi
 · rw [hcell, World.frozen?_setCell]
   refine ⟨?_, (h.room i hi).2⟩
   by_cases hij : i = j
   · rw [if_pos hij]; rfl
   · rw [if_neg hij]; exact (h.room i hi).1

theorem VecAt.sub (h : VecAt w size g o n cap xs) (lo hi mx : Nat) (h1 : lo ≤ hi) (h2 : hi ≤ n) (h3 : hi ≤ mx) (h4 : mx ≤ cap) :
 VecAt w size g (o + lo * size) (hi - lo) (mx - lo) ((xs.drop (lo * size)).take ((hi - lo) * size)) := by
 have e1 : lo * size + (hi - lo) * size = hi * size := by rw [← Nat.add_mul]; congr 1; omega
 have e2 : lo * size + (mx - lo) * size = mx * size := by rw [← Nat.add_mul]; congr 1; omega
 have b1 := Nat.mul_le_mul_right size h2
 have b2 := Nat.mul_le_mul_right size h4
 refine ⟨by simp [h.len]; omega, by omega, by have := h.small; omega, fun j hj => ?_, fun j hj => ?_⟩
 · rw [List.getElem?_take, if_pos hj, List.getElem?_drop, Nat.add_assoc]
   exact h.cells _ (by omega)
 · rw [Nat.add_assoc]
   exact h.room _ (by omega)

def cutAddr (size g o lo mx : Nat) : Addr := if mx = lo then ⟨g, o, none⟩ else (⟨g, o, none⟩ : Addr).add (lo * size)
theorem cutAddr_eq (size g o lo mx : Nat) (h : mx ≠ lo) : cutAddr size g o lo mx = ⟨g, o + lo * size, none⟩ := by
 unfold cutAddr
 rw [if_neg h, Addr.add_lit]

theorem VecAt.cut (h : VecAt w size g o n cap xs) (lo hi mx : Nat) (h1 : lo ≤ hi) (h2 : hi ≤ n) (h3 : hi ≤ mx) (h4 : mx ≤ cap) :
 Vec w size (.slice (some (cutAddr size g o lo mx)) (hi - lo) (mx - lo)) (hi - lo) ((xs.drop (lo * size)).take ((hi - lo) * size)) := by
 by_cases hm : mx = lo
 · have e0 : hi - lo = 0 := by omega
   refine .inr ⟨g, o, mx - lo, by unfold cutAddr; rw [if_pos hm], ⟨by simp [e0], by omega, by have := h.small; omega, fun j hj => ?_, fun j hj => ?_⟩⟩
   · rw [e0] at hj; omega
   · rw [hm] at hj; simp at hj
 · exact .inr ⟨g, o + lo * size, mx - lo, by rw [cutAddr_eq _ _ _ _ _ hm], h.sub lo hi mx h1 h2 h3 h4⟩

def Reads (w : World) (size : Nat) (v : Value) (m : Nat) (news : List Value) : Prop :=
 news.length = m * size ∧ ((v = .slice none 0 0 ∧ m = 0) ∨ ∃ a c, v = .slice (some a) m c ∧ ∀ j u, news[j]? = some u → w.cell? (a.add j) = some u)

theorem Reads.belowAll {news : List Value} (h : Reads w size v n news) (hb : Below w.heap.size w w') : Reads w' size v n news := by
 refine ⟨h.1, h.2.imp id ?_⟩
 rintro ⟨a, c, rfl, hc⟩
 exact ⟨a, c, rfl, fun j u hj => (hb.cell (World.block_lt_of_cell? _ _ (hc j u hj))).trans (hc j u hj)⟩

theorem Vec.reads (h : Vec w size v n xs) : Reads w size v n xs := by
 refine ⟨h.len, ?_⟩
 rcases h with ⟨h1, h2, _⟩ | ⟨g, o, cap, rfl, h⟩
 · exact .inl ⟨h1, h2⟩
 · refine .inr ⟨_, _, rfl, fun j u hj => ?_⟩
   rw [Addr.add_lit]
   rw [h.cells j (by rw [← h.len]; exact (List.getElem?_eq_some_iff.1 hj).1)]
   exact hj

theorem vec_block {t : TypeId} {cs : Array Value} (hb : w.heap[g]? = some (.cells cs t (0, 0))) (hm : cs.size = n * size) (hn : n ≤ maxLen) : Vec w size (.slice (some ⟨g, 0, none⟩) n n) n cs.toList := by
 refine .inr ⟨g, 0, n, rfl, ⟨by simpa using hm, Nat.le_refl _, hn, fun j hj => ?_, fun j hj => ?_⟩⟩
 · simp [World.cell?, hb]
 · simp [World.cell?, World.frozen?, hb, hm, hj]

theorem vec_of_owns {base : Nat} {e : TypeId} (h : w.ownsRow base e size v n xs) : Vec w size v n xs := by
 obtain ⟨hl, h⟩ := h
 rcases h with ⟨hv, hn⟩ | ⟨g, cap, cur, rfl, hb, hh, hle, hm, hs, ht⟩
 · subst hn
   simp at hl
   exact .inl ⟨hv, rfl, hl⟩
 · refine .inr ⟨g, 0, cap, rfl, ⟨hl, hle, hm, fun j hj => ?_, fun j hj => ?_⟩⟩
   · rw [← ht, List.getElem?_take, if_pos hj]
     simp [World.cell?, hh]
   · simp [World.cell?, World.frozen?, hh, hs, hj]

theorem setCells_grown (w : World) (g : Nat) : ∀ (vs : List Value) (o : Nat), w.grownBy (w.setCells g o vs) (some g)
 | [], _ => World.grownBy.refl w _
 | v :: vs, o => by
  have h1 : w.grownBy (w.setCell ⟨g, o, none⟩ v) (some g) := ⟨rfl, rfl, rfl, by simp [World.setCell], fun i _ hi => Below.heap_setCell _ _ _ _ (fun e => hi (by rw [e]))⟩
  have h2 := setCells_grown (w.setCell ⟨g, o, none⟩ v) g vs (o + 1)
  exact h1.andThen h2 (fun j hj => .inr hj)

theorem VecAt.more (h : VecAt w size g o n cap xs) (m : Nat) (news : List Value) (hn : news.length = m * size) (hroom : n + m ≤ cap) : VecAt (w.setCells g (o + n * size) news) size g o (n + m) cap (xs ++ news) := by
 have e1 : n * size + m * size = (n + m) * size := by rw [Nat.add_mul]
 have b1 := Nat.mul_le_mul_right size hroom
 have hs : ∀ j, j < news.length → (w.cell? ⟨g, o + n * size + j, none⟩).isSome = true := fun j hj => by
  rw [Nat.add_assoc]
  exact (h.room _ (by omega)).1
 have hout : ∀ j, j < n * size → (w.setCells g (o + n * size) news).cell? ⟨g, o + j, none⟩ = w.cell? ⟨g, o + j, none⟩ := fun j hj =>
  World.cell?_setCells_out g news _ w ⟨g, o + j, none⟩ (fun _ _ => .inl (by show o + j < _; omega))
 refine ⟨by simp [h.len, hn, Nat.add_mul], hroom, h.small, fun j hj => ?_, fun j hj => ?_⟩
 · by_cases hjn : j < n * size
   · rw [hout j hjn, List.getElem?_append_left (by rw [h.len]; exact hjn)]
     exact h.cells j hjn
   · obtain ⟨k, rfl⟩ : ∃ k, j = n * size + k := ⟨j - n * size, by omega⟩
     have hk : k < news.length := by omega
     rw [List.getElem?_append_right (by rw [h.len]; omega), h.len, Nat.add_sub_cancel_left, ← Nat.add_assoc, World.cell?_setCells_in g news _ w hs k hk, List.getElem?_eq_getElem hk]
 · rw [World.frozen?_setCells]
   exact ⟨World.isSome_setCells g news _ w _ (h.room j hj).1, (h.room j hj).2⟩

end

section
variable {P : Program} {w : World} {ops : Array Oper} {rest : List Oper} {o : Oper} {a : Act} {Q : Exit → Act → World → Prop}

theorem run_append_vec (t ty e : TypeId) (i : TypeInfo) (z : Value) (size bytes : Nat) (h1 : P.underlying t = some (.slice e)) (h2 : P.info? e = some i) (h3 : i.zero = some z) (h4 : i.size = size) (h5 : i.bytes = bytes) (h6 : z.cells.size = size) (h7 : 0 < size)
 {v : Value} {n : Nat} {xs : List Value} (hv : Vec w size v n xs) {vx : Value} {m : Nat} {news : List Value} (hx : Reads w size vx m news) (h1c : ∀ u ∈ news, u.oneCell' = true) (b1 : n + m ≤ maxLen) (b2 : (n + m) * bytes ≤ 140737488355328) :
 ∃ v' w', (Builtin.append_ #[t, t] ty #[v, vx]).run P w = .ok v' w' ∧ Vec w' size v' (n + m) (xs ++ news) ∧ Only (fun k => v.ownBlock = some k) w w' ∧ (v'.ownBlock = v.ownBlock ∨ ∃ g, v'.ownBlock = some g ∧ w.heap.size ≤ g ∧ g < w'.heap.size) := by
 obtain ⟨hl, hx⟩ := hx
 rcases hx with ⟨rfl, rfl⟩ | ⟨ad, c, rfl, hc⟩
 · have hn : news = [] := by simpa using hl
   subst hn
   subst h4
   obtain ⟨aa, cap, rfl⟩ := hv.form'
   have hle : n ≤ cap := by
    rcases hv with ⟨he, rfl, _⟩ | ⟨g, o, cap', he, h⟩
    · omega
    · cases he; exact h.le
   refine ⟨.slice aa n cap, w, ?_, by simpa using hv, Only.refl _ _, .inl rfl⟩
   have hst : ∀ b, (storeCells b ([] : List Value)).run P w = Result.ok () w := fun b => rfl
   cases aa with
   | none => simp [Builtin.append_, run_underlying h1, sizeOf, typeInfo, h2, Builtin.lenOf, hle, Builtin.firstCells]
   | some b => simp [Builtin.append_, run_underlying h1, sizeOf, typeInfo, h2, Builtin.lenOf, hle, Builtin.firstCells, hst]
 · rcases hv with ⟨rfl, rfl, rfl⟩ | ⟨g, o, cap, rfl, h⟩
   · obtain ⟨v', w', hrun, hown, hg, _⟩ := run_append_own (P := P) w w.heap.size t ty e i z size bytes h1 h2 h3 h4 h5 h6 h7 (.slice none 0 0) 0 [] (World.ownsRow_nil _ _ _ _) ad m c news hl hc h1c b1 b2 (Nat.le_refl _)
     refine ⟨v', w', hrun, vec_of_owns hown, Only.grown hg (fun j hj => by cases hj), ?_⟩
     cases hvb : v'.ownBlock with
     | none => exact .inl rfl
     | some g => exact .inr ⟨g, rfl, hown.lt g hvb⟩
   · by_cases hr : n + m ≤ cap
     · subst h4
       have hsp : ∀ j, j < news.length → (w.cell? ⟨g, o + n * i.size + j, none⟩).isSome = true ∧ w.frozen? ⟨g, o + n * i.size + j, none⟩ = false := fun j hj => by
        have e1 : n * i.size + m * i.size = (n + m) * i.size := by rw [Nat.add_mul]
        have e2 := Nat.mul_le_mul_right i.size hr
        rw [Nat.add_assoc]
        exact h.room _ (by omega)
       exact ⟨_, _, run_append_room_cells (P := P) w t ty e i h1 h2 g o n cap ad m c news hl hc h1c hr (fun j hj => (hsp j hj).1) (fun j hj => (hsp j hj).2),
        .inr ⟨g, o, cap, rfl, h.more m news hl hr⟩, Only.grown (setCells_grown w g news _) (fun j hj => hj), .inl rfl⟩
     · obtain ⟨v', w', hrun, hown, hg⟩ := run_append_arg_grows (P := P) w t ty e i z size bytes h1 h2 h3 h4 h5 h6 h7 ⟨g, o, none⟩ n cap xs h.len (fun j u hj => by
        rw [Addr.add_lit, h.cells j (by rw [← h.len]; exact (List.getElem?_eq_some_iff.1 hj).1)]
        exact hj) ad m c news hl hc (by omega) b1 b2
       refine ⟨v', w', hrun, vec_of_owns hown, Only.grown hg (fun j hj => by cases hj), ?_⟩
       obtain ⟨g', cap', hv', _⟩ := hown.form (by omega)
       refine .inr ⟨g', ?_, hown.lt g' ?_⟩ <;> rw [hv'] <;> rfl

theorem wpList_append_vec (hgd : o.guard = none) (s x : Operand) (t : TypeId) (hop : o.op = Op.call { callee := Callee.builtin Builtin.append, args := #[s, x], argTypes := #[t, t] })
 (e : TypeId) (i : TypeInfo) (z : Value) (size bytes : Nat) (h1 : P.underlying t = some (.slice e)) (h2 : P.info? e = some i) (h3 : i.zero = some z) (h4 : i.size = size) (h5 : i.bytes = bytes) (h6 : z.cells.size = size) (h7 : 0 < size)
 (v : Value) (n : Nat) (xs : List Value) (hs : a.eval s = v) (hv : Vec w size v n xs) (vx : Value) (m : Nat) (news : List Value) (hxv : a.eval x = vx) (hx : Reads w size vx m news) (h1c : ∀ u ∈ news, u.oneCell' = true) (b1 : n + m ≤ maxLen) (b2 : (n + m) * bytes ≤ 140737488355328)
 (hK : ∀ v' w', Vec w' size v' (n + m) (xs ++ news) → Only (fun k => v.ownBlock = some k) w w' → (v'.ownBlock = v.ownBlock ∨ ∃ g, v'.ownBlock = some g ∧ w.heap.size ≤ g ∧ g < w'.heap.size) → wpList P ops Q rest (a.put o.dst v') w') :
 wpList P ops Q (o :: rest) a w := by
 refine wpList_plain hgd fun K hK' => ?_
 obtain ⟨v', w', hrun, r1, r2, r3⟩ := run_append_vec (P := P) t o.type e i z size bytes h1 h2 h3 h4 h5 h6 h7 hv hx h1c b1 b2
 unfold Oper.wp
 simp [execOp, hop, resolve, invoke, builtin, hs, hxv, hrun, Result.andThen]
 exact hK' _ _ (hK v' w' r1 r2 r3)

end
end Go.Wh

namespace Go.Wh
open Go.RowKit
section
variable {P : Program} {w : World} {ops : Array Oper} {o : Oper} {a : Act} {Q : Exit → Act → World → Prop} {K : Act → World → Prop} {E : Prop}

theorem step_append_vec (hgd : o.guard = none) (s x : Operand) (t : TypeId) (hop : o.op = Op.call { callee := Callee.builtin Builtin.append, args := #[s, x], argTypes := #[t, t] })
 (e : TypeId) (i : TypeInfo) (z : Value) (size bytes : Nat) (h1 : P.underlying t = some (.slice e)) (h2 : P.info? e = some i) (h3 : i.zero = some z) (h4 : i.size = size) (h5 : i.bytes = bytes) (h6 : z.cells.size = size) (h7 : 0 < size)
 (v : Value) (n : Nat) (xs : List Value) (hs : a.eval s = v) (hv : Vec w size v n xs) (vx : Value) (m : Nat) (news : List Value) (hxv : a.eval x = vx) (hx : Reads w size vx m news) (h1c : ∀ u ∈ news, u.oneCell' = true) (b1 : n + m ≤ maxLen) (b2 : (n + m) * bytes ≤ 140737488355328)
 (hK : ∀ v' w', Vec w' size v' (n + m) (xs ++ news) → Only (fun k => v.ownBlock = some k) w w' → (v'.ownBlock = v.ownBlock ∨ ∃ g, v'.ownBlock = some g ∧ w.heap.size ≤ g ∧ g < w'.heap.size) → K (a.put o.dst v') w') :
 if Region.wanted o (yielded ops a.tmps) = true then Oper.wp P o a w K Q else E := by
 have hw : Region.wanted o (yielded ops a.tmps) = true := by simp [Region.wanted, hgd]
 rw [if_pos hw]
 obtain ⟨v', w', hrun, r1, r2, r3⟩ := run_append_vec (P := P) t o.type e i z size bytes h1 h2 h3 h4 h5 h6 h7 hv hx h1c b1 b2
 unfold Oper.wp
 simp [execOp, hop, resolve, invoke, builtin, hs, hxv, hrun, Result.andThen]
 exact hK v' w' r1 r2 r3
end
end Go.Wh

namespace Go.Wh
open Go.RowKit

section
variable {P : Program} {w w' : World} {size g o n cap : Nat} {xs : List Value} {v : Value}

theorem VecAt.put (h : VecAt w size g o n cap xs) (p : Nat) (news : List Value) (hp : p + news.length ≤ n * size) :
 VecAt (w.setCells g (o + p) news) size g o n cap (xs.take p ++ news ++ xs.drop (p + news.length)) := by
 have hl := h.len
 have b1 := Nat.mul_le_mul_right size h.le
 have hs : ∀ j, j < news.length → (w.cell? ⟨g, o + p + j, none⟩).isSome = true := fun j hj => by
  rw [Nat.add_assoc]
  exact (h.room _ (by omega)).1
 have ht : (xs.take p).length = p := by rw [List.length_take]; omega
 refine ⟨by simp [hl]; omega, h.le, h.small, fun j hj => ?_, fun j hj => ?_⟩
 · by_cases h1 : j < p
   · rw [World.cell?_setCells_out g news _ w ⟨g, o + j, none⟩ (fun _ _ => .inl (by show o + j < _; omega)), List.append_assoc, List.getElem?_append_left (by omega), List.getElem?_take, if_pos h1]
     exact h.cells j hj
   · by_cases h2 : j < p + news.length
     · obtain ⟨k, rfl⟩ : ∃ k, j = p + k := ⟨j - p, by omega⟩
       rw [← Nat.add_assoc, World.cell?_setCells_in g news _ w hs k (by omega), List.append_assoc, List.getElem?_append_right (by omega), List.getElem?_append_left (by omega)]
       have e : p + k - (xs.take p).length = k := by omega
       rw [e, List.getElem?_eq_getElem (by omega)]
     · rw [World.cell?_setCells_out g news _ w ⟨g, o + j, none⟩ (fun _ _ => .inr (by show o + p + news.length ≤ o + j; omega)), List.getElem?_append_right (by rw [List.length_append]; omega), List.getElem?_drop]
       have e : p + news.length + (j - (xs.take p ++ news).length) = j := by rw [List.length_append]; omega
       rw [e]
       exact h.cells j hj
 · rw [World.frozen?_setCells]
   exact ⟨World.isSome_setCells g news _ w _ (h.room j hj).1, (h.room j hj).2⟩

theorem VecAt.head {w : World} {size g o n cap : Nat} {xs : List Value} (h : VecAt w size g o n cap xs) (m : Nat) (hm : m ≤ n) : VecAt w size g o m m (xs.take (m * size)) := by
 have := h.sub 0 m m (Nat.zero_le _) hm (Nat.le_refl _) (Nat.le_trans hm h.le)
 simpa using this

theorem VecAt.beyond (h : VecAt w size g o n cap xs) (p : Nat) (news : List Value) (hp : n * size ≤ p) : VecAt (w.setCells g (o + p) news) size g o n cap xs :=
 ⟨h.len, h.le, h.small, fun j hj => by rw [World.cell?_setCells_out g news _ w ⟨g, o + j, none⟩ (fun _ _ => .inl (by show o + j < _; omega))]; exact h.cells j hj, fun j hj => by
  rw [World.frozen?_setCells]
  exact ⟨World.isSome_setCells g news _ w _ (h.room j hj).1, (h.room j hj).2⟩⟩

theorem setCells_only (w : World) (g o : Nat) (vs : List Value) : Only (fun k => k = g) w (w.setCells g o vs) :=
 Only.grown (setCells_grown w g vs o) (fun _ hj => (Option.some.inj hj).symm)

theorem VecAt.wide (h : VecAt w size g o n cap xs) (m : Nat) (hm : n ≤ m) (hc : m ≤ cap) : ∃ junk, junk.length = (m - n) * size ∧ VecAt w size g o m cap (xs ++ junk) := by
 have e1 : n * size + (m - n) * size = m * size := by rw [← Nat.add_mul]; congr 1; omega
 have b1 := Nat.mul_le_mul_right size hc
 refine ⟨(List.range ((m - n) * size)).map fun j => (w.cell? ⟨g, o + n * size + j, none⟩).getD undef, by simp, ?_⟩
 refine ⟨by simp [h.len]; omega, hc, h.small, fun j hj => ?_, h.room⟩
 by_cases h1 : j < n * size
 · rw [List.getElem?_append_left (by rw [h.len]; exact h1)]
   exact h.cells j h1
 · obtain ⟨k, rfl⟩ : ∃ k, j = n * size + k := ⟨j - n * size, by omega⟩
   rw [List.getElem?_append_right (by rw [h.len]; omega), h.len, Nat.add_sub_cancel_left]
   have h2 := (h.room (n * size + k) (by omega)).1
   rw [Option.isSome_iff_exists] at h2
   obtain ⟨u, hu⟩ := h2
   simp only [List.getElem?_map]
   rw [List.getElem?_range (by omega)]
   simp only [Option.map_some, Nat.add_assoc, hu, Option.getD_some]

theorem VecAt.short (h : VecAt w size g o n cap xs) (m : Nat) (hm : m ≤ n) : VecAt w size g o m cap (xs.take (m * size)) := by
 have b1 := Nat.mul_le_mul_right size hm
 refine ⟨by rw [List.length_take, h.len]; omega, by have := h.le; omega, h.small, fun j hj => ?_, h.room⟩
 rw [List.getElem?_take, if_pos hj]
 exact h.cells j (by omega)

theorem cellsAt.reads {r m c : Nat} {l : List Value} (h : cellsAt w r l) (hl : l.length = m * size) : Reads w size (.slice (some ⟨r, 0, none⟩) m c) m l :=
 ⟨hl, .inr ⟨_, _, rfl, fun j u hj => by rw [Addr.add_lit, Nat.zero_add, h.cell]; exact hj⟩⟩

theorem run_copy_size (dT sT ty elem : TypeId) (b o dLen dCap : Nat) (a : Addr) (sLen sCap : Nat) (cs : List Value)
 (hu : P.underlying dT = some (.slice elem)) (hs : (P.info? elem).map (·.size) = some size) (hn : cs.length = (Nat.min sLen dLen) * size)
 (hsrc : ∀ j v, cs[j]? = some v → w.cell? (a.add j) = some v) (hc : ∀ j, j < cs.length → (w.cell? ⟨b, o + j, none⟩).isSome = true) (hf : ∀ j, j < cs.length → w.frozen? ⟨b, o + j, none⟩ = false) (h1 : ∀ v ∈ cs, v.oneCell' = true) :
 (Builtin.copy_ #[dT, sT] ty #[.slice (some ⟨b, o, none⟩) dLen dCap, .slice (some a) sLen sCap]).run P w = .ok (goInt (Nat.min sLen dLen)) (w.setCells b o cs) := by
 have hl := run_loadCells_list (P := P) w a cs hsrc
 have hst := run_storeCells_cells (P := P) b o cs 0 w (by simpa using hc) (by simpa using hf) h1
 cases hq : P.info? elem with
 | none => simp [hq] at hs
 | some i =>
  have hi : i.size = size := by simpa [hq] using hs
  simp [Builtin.copy_, run_underlying hu, Builtin.lenOf, Builtin.firstCells, sizeOf, typeInfo, hq, hi, ← hn, hl, hst]

theorem run_copy_at (dT sT ty elem : TypeId) (hu : P.underlying dT = some (.slice elem)) (hs : (P.info? elem).map (·.size) = some size) (h : VecAt w size g o n cap xs)
 (p dLen dCap : Nat) (a : Addr) (sLen sCap : Nat) (cs : List Value) (hn : cs.length = (Nat.min sLen dLen) * size) (hp : p + Nat.min sLen dLen ≤ n)
 (hsrc : ∀ j v, cs[j]? = some v → w.cell? (a.add j) = some v) (h1 : ∀ v ∈ cs, v.oneCell' = true) :
 (Builtin.copy_ #[dT, sT] ty #[.slice (some ⟨g, o + p * size, none⟩) dLen dCap, .slice (some a) sLen sCap]).run P w = .ok (goInt (Nat.min sLen dLen)) (w.setCells g (o + p * size) cs) ∧
  VecAt (w.setCells g (o + p * size) cs) size g o n cap (xs.take (p * size) ++ cs ++ xs.drop ((p + Nat.min sLen dLen) * size)) := by
 have e1 : p * size + Nat.min sLen dLen * size = (p + Nat.min sLen dLen) * size := by rw [Nat.add_mul]
 have b1 := Nat.mul_le_mul_right size hp
 have b2 := Nat.mul_le_mul_right size h.le
 refine ⟨run_copy_size dT sT ty elem g _ dLen dCap a sLen sCap cs hu hs hn hsrc (fun j hj => ?_) (fun j hj => ?_) h1, ?_⟩
 · rw [Nat.add_assoc]; exact (h.room _ (by omega)).1
 · rw [Nat.add_assoc]; exact (h.room _ (by omega)).2
 · have := h.put (p * size) cs (by omega)
   rwa [hn, e1] at this

end

theorem vecAt_block {w : World} {size g n cap : Nat} {t : TypeId} {cs : Array Value} (hb : w.heap[g]? = some (.cells cs t (0, 0))) (hm : cs.size = cap * size) (hn : n ≤ cap) (hc : cap ≤ maxLen) : VecAt w size g 0 n cap (cs.toList.take (n * size)) := by
 have b1 := Nat.mul_le_mul_right size hn
 refine ⟨by rw [List.length_take]; simp; omega, hn, hc, fun j hj => ?_, fun j hj => ?_⟩
 · rw [List.getElem?_take, if_pos hj]
   simp [World.cell?, hb]
 · simp [World.cell?, World.frozen?, hb, hm, hj]


theorem step_append_run {P : Program} {ops : Array Oper} {o : Oper} {a : Act} {w : World} {K : Act → World → Prop} {Q : Exit → Act → World → Prop} {E : Prop}
 (hg : o.guard = none) (d x : Operand) (dT sT : TypeId) (hop : o.op = Op.call { callee := Callee.builtin Builtin.append, args := #[d, x], argTypes := #[dT, sT] })
 (v u : Value) (hd : a.eval d = v) (hx : a.eval x = u) {v' : Value} {w' : World} (hr : (Builtin.append_ #[dT, sT] o.type #[v, u]).run P w = .ok v' w') (hK : K (a.put o.dst v') w') :
 if Region.wanted o (yielded ops a.tmps) = true then Oper.wp P o a w K Q else E := by
 have hw : Region.wanted o (yielded ops a.tmps) = true := by simp [Region.wanted, hg]
 rw [if_pos hw]
 unfold Oper.wp
 simp [execOp, hop, resolve, invoke, builtin, hd, hx, hr, Result.andThen]
 exact hK

def FreshPost (w : World) (size n : Nat) (xs : List Value) (e : Ending) (w' : World) : Prop :=
 ∃ v', e = .returned v' ∧ Vec w' size v' n xs ∧ Below w.heap.size w w' ∧ ∀ g, v'.ownBlock = some g → w.heap.size ≤ g ∧ g < w'.heap.size

def TurnedPost (w : World) (v : Value) (size n : Nat) (xs : List Value) (e : Ending) (w' : World) : Prop :=
 ∃ v', e = .returned v' ∧ Vec w' size v' n xs ∧ Only (fun k => v.ownBlock = some k) w w' ∧ (v'.ownBlock = v.ownBlock ∨ ∃ g, v'.ownBlock = some g ∧ w.heap.size ≤ g ∧ g < w'.heap.size)

def CatRel (w : World) (size n : Nat) (xs : List Value) (v : Value) (w' : World) : Prop :=
 Vec w' size v n xs ∧ Below w.heap.size w w' ∧ ∀ g, v.ownBlock = some g → w.heap.size ≤ g ∧ g < w'.heap.size
theorem CatRel.next {w w1 w2 : World} {size n m : Nat} {xs ys : List Value} {v v' : Value} (h : CatRel w size n xs v w1) (hv : Vec w2 size v' (n + m) (xs ++ ys)) (ho : Only (fun k => v.ownBlock = some k) w1 w2)
 (hb : v'.ownBlock = v.ownBlock ∨ ∃ g, v'.ownBlock = some g ∧ w1.heap.size ≤ g ∧ g < w2.heap.size) : CatRel w size (n + m) (xs ++ ys) v' w2 := by
 obtain ⟨_, h2, h3⟩ := h
 refine ⟨hv, h2.trans (ho.below h2.size (fun i hi e => by have := (h3 i e).1; omega)), fun g hg => ?_⟩
 rcases hb with e | ⟨g', e, h1, _⟩
 · exact ⟨(h3 g (e.symm.trans hg)).1, Nat.lt_of_lt_of_le (h3 g (e.symm.trans hg)).2 ho.size⟩
 · rw [e] at hg
   injection hg with hg
   have := h2.size
   omega
end Go.Wh

namespace Go.Wh
open Go.ChangeMaps (setBlock heap_setBlock_same heap_setBlock_other)
open Go.MapKept Go.RowKit
open Go.Maps (Keyed)

def upd {α β : Type} [DecidableEq α] (V : α → β) (a : α) (v : β) : α → β := fun x => if x = a then v else V x
theorem upd_same {α β : Type} [DecidableEq α] (V : α → β) (a : α) (v : β) : upd V a v a = v := by simp [upd]
theorem upd_other {α β : Type} [DecidableEq α] (V : α → β) {a x : α} (v : β) (h : x ≠ a) : upd V a v x = V x := by simp [upd, h]

section
variable {P : Program} {k : TypeId} {α : Type} {E : α → Value} {w : World} {b : Nat} {V : α → Option Value}

def kmap (w : World) (P : Program) (k : TypeId) (E : α → Value) (b : Nat) (V : α → Option Value) : Prop :=
 ∃ es clock, w.heap[b]? = some (.map es clock) ∧ Stamped es clock ∧ (∀ x ∈ es.toList, ∃ l, keyOf P k x.key = some l) ∧ (∀ x ∈ es.toList, ∃ a, x.key = E a) ∧
  ∀ a v, V a = some v ↔ ∃ x ∈ es.toList, x.key = E a ∧ x.val = v

theorem kmap.lt (h : kmap w P k E b V) : b < w.heap.size := by
 obtain ⟨es, clock, hb, _⟩ := h
 exact (Array.getElem?_eq_some_iff.1 hb).1

theorem kmap_made (w : World) (P : Program) (k : TypeId) (E : α → Value) : kmap (w.alloc (.map #[] 0)) P k E w.heap.size (fun _ => none) :=
 ⟨#[], 0, (MapKept.heap_alloc w _).1, stamped_empty 0, by simp, by simp, by simp⟩

theorem kmap.block {w' : World} (h : kmap w P k E b V) (hg : w'.heap[b]? = w.heap[b]?) : kmap w' P k E b V := by
 obtain ⟨es, clock, hb, r⟩ := h
 exact ⟨es, clock, hg.trans hb, r⟩

theorem kmap.kept {w' : World} {row : Option Nat} (h : kmap w P k E b V) (hg : w.grownBy w' row) (hne : some b ≠ row) : kmap w' P k E b V :=
 h.block (hg.block b h.lt hne)

theorem kmap.ext {V' : α → Option Value} (h : kmap w P k E b V) (hv : ∀ a, V a = V' a) : kmap w P k E b V' := by
 have : V = V' := funext hv
 rw [← this]
 exact h

theorem key_unique {es : Array MapEntry} {clock : Nat} (hst : Stamped es clock) {x y : MapEntry} (hx : x ∈ es.toList) (hy : y ∈ es.toList) (h : x.key = y.key) : x = y :=
 entry_eq_of_key ((stamped_iff es clock).1 hst).2.2 hx hy h

theorem kmap.lookup {t e : TypeId} (h : kmap w P k E b V) (K : Keyed P k) (ht : P.underlying t = some (.map k e)) {a : α} {l : Lit} (hkey : keyOf P k (E a) = some l) {z : Value} (hz : (zeroValue e).run P w = .ok z w) (c : Bool) :
 (Instr.lookup t (.map (some b)) (E a) c).run P w = .ok (if c then .tuple #[(V a).getD z, .bool (V a).isSome] else (V a).getD z) w := by
 obtain ⟨es, clock, hb, hst, hks, hE, hV⟩ := h
 rcases K.find w hkey es.toList hks with ⟨h1, h2⟩ | ⟨j, e0, h1, h2, h3⟩
 · have hn : V a = none := by
    cases hva : V a with
    | none => rfl
    | some v =>
     obtain ⟨x, hx, hxk, _⟩ := (hV a v).1 hva
     exact absurd hxk (h2 x hx)
   simp [Instr.lookup, run_underlying ht, MapKept.run_getObj_map hb, K.check w _ hkey, h1, hz, Result.andThen, hn]
 · have hs : V a = some e0.val := (hV a e0.val).2 ⟨e0, List.mem_of_getElem? h2, h3, rfl⟩
   simp [Instr.lookup, run_underlying ht, MapKept.run_getObj_map hb, K.check w _ hkey, h1, Result.andThen, hs]

theorem kmap.update [DecidableEq α] {t e : TypeId} (h : kmap w P k E b V) (K : Keyed P k) (hE : ∀ x y, E x = E y → x = y) (ht : P.underlying t = some (.map k e)) {a : α} {l : Lit} (hkey : keyOf P k (E a) = some l) (val : Value) :
 ∃ w', (Instr.mapUpdate t (.map (some b)) (E a) val).run P w = .ok () w' ∧ kmap w' P k E b (upd V a (some val)) ∧ w.grownBy w' (some b) ∧ w'.heap.size = w.heap.size := by
 obtain ⟨es, clock, hb, hst, hks, hEs, hV⟩ := h
 have hgrow : ∀ es' clock', w.grownBy (setBlock w b (.map es' clock')) (some b) := fun es' clock' =>
  ⟨rfl, rfl, rfl, by simp [setBlock], fun i _ hi => heap_setBlock_other hb _ (fun e => hi (by rw [e]))⟩
 rcases K.find w hkey es.toList hks with ⟨h1, h2⟩ | ⟨j, e0, h1, h2, h3⟩
 · refine ⟨setBlock w b (.map (es.push ⟨E a, val, clock⟩) (clock + 1)), ?_, ⟨es.push ⟨E a, val, clock⟩, clock + 1, heap_setBlock_same hb _, stamped_push hst h2, ?_, ?_, ?_⟩, hgrow _ _, by simp [setBlock]⟩
   · simp [Instr.mapUpdate, run_underlying ht, MapKept.run_getObj_map hb, K.check w false hkey, h1, MapKept.run_setObj_map _ hb, Result.andThen, setBlock]
   · intro x hx
     simp only [Array.toList_push, List.mem_append, List.mem_singleton] at hx
     rcases hx with hx | rfl
     · exact hks x hx
     · exact ⟨l, hkey⟩
   · intro x hx
     simp only [Array.toList_push, List.mem_append, List.mem_singleton] at hx
     rcases hx with hx | rfl
     · exact hEs x hx
     · exact ⟨a, rfl⟩
   · intro x v
     simp only [Array.toList_push, List.mem_append, List.mem_singleton]
     by_cases hxa : x = a
     · subst hxa
       simp only [upd_same]
       constructor
       · intro hv
         exact ⟨_, .inr rfl, rfl, by simpa using hv⟩
       · rintro ⟨y, hy | rfl, hyk, rfl⟩
         · exact absurd hyk (h2 y hy)
         · rfl
     · rw [upd_other V _ hxa]
       rw [hV x v]
       constructor
       · rintro ⟨y, hy, r⟩
         exact ⟨y, .inl hy, r⟩
       · rintro ⟨y, hy | rfl, hyk, hyv⟩
         · exact ⟨y, hy, hyk, hyv⟩
         · exact absurd (hE _ _ hyk).symm hxa
 · have hj : es[j]? = some e0 := by simpa using h2
   have hjl : j < es.size := (Array.getElem?_eq_some_iff.1 hj).1
   have hkeep : (Instr.keyThatStays (((es[j]?).map (·.key)).getD (E a)) (E a)).run P w = .ok (E a) w := by
    rw [hj]
    show (Instr.keyThatStays e0.key (E a)).run P w = _
    rw [h3]
    exact K.stays w hkey
   have hmod : ∀ x, x ∈ (es.modify j fun e => { e with key := E a, val := val }).toList ↔ (x ∈ es.toList ∧ x.key ≠ E a) ∨ x = { e0 with key := E a, val := val } := by
    intro x
    rw [show (es.modify j fun e => { e with key := E a, val := val }).toList = es.toList.set j { e0 with key := E a, val := val } from by
     apply List.ext_getElem?
     intro i
     rw [Array.getElem?_toList, Array.getElem?_modify, List.getElem?_set, Array.getElem?_toList]
     by_cases hij : j = i
     · subst hij
       simp [hjl, (Array.getElem?_eq_some_iff.1 hj).2]
     · simp [hij]]
    constructor
    · intro hx
      obtain ⟨i, hi⟩ := List.getElem?_of_mem hx
      rw [List.getElem?_set] at hi
      by_cases hij : j = i
      · subst hij
        simp [hjl] at hi
        exact .inr hi.symm
      · rw [if_neg hij] at hi
        refine .inl ⟨List.mem_of_getElem? hi, fun hk => ?_⟩
        have hxe : x = e0 := key_unique hst (List.mem_of_getElem? hi) (List.mem_of_getElem? h2) (hk.trans h3.symm)
        subst hxe
        have hn := ((stamped_iff es clock).1 hst).2.1
        obtain ⟨hi1, hi2⟩ := List.getElem?_eq_some_iff.1 hi
        obtain ⟨hj1, hj2⟩ := List.getElem?_eq_some_iff.1 h2
        have hb1 : (es.toList.map (·.born))[j]'(by simpa using hj1) = (es.toList.map (·.born))[i]'(by simpa using hi1) := by
         rw [List.getElem_map, List.getElem_map, hi2, hj2]
        exact hij ((List.getElem_inj hn).1 hb1)
    · rintro (⟨hx, hk⟩ | rfl)
      · obtain ⟨i, hi⟩ := List.getElem?_of_mem hx
        refine List.mem_of_getElem? (i := i) ?_
        rw [List.getElem?_set]
        by_cases hij : j = i
        · subst hij
          rw [h2] at hi
          cases hi
          exact absurd h3 hk
        · rw [if_neg hij]
          exact hi
      · refine List.mem_of_getElem? (i := j) ?_
        rw [List.getElem?_set]
        simp [hjl]
   refine ⟨setBlock w b (.map (es.modify j fun e => { e with key := E a, val := val }) clock), ?_, ⟨_, clock, heap_setBlock_same hb _, ?_, ?_, ?_, ?_⟩, hgrow _ _, by simp [setBlock]⟩
   · simp [Instr.mapUpdate, run_underlying ht, MapKept.run_getObj_map hb, K.check w false hkey, h1, hkeep, MapKept.run_setObj_map _ hb, Result.andThen, setBlock]
   · exact stamped_modify hst j _ (fun _ _ => rfl) (fun e he hje => by
      rw [hj] at hje
      cases hje
      exact h3.symm)
   · intro x hx
     rcases (hmod x).1 hx with ⟨hx, _⟩ | rfl
     · exact hks x hx
     · exact ⟨l, hkey⟩
   · intro x hx
     rcases (hmod x).1 hx with ⟨hx, _⟩ | rfl
     · exact hEs x hx
     · exact ⟨a, rfl⟩
   · intro x v
     by_cases hxa : x = a
     · subst hxa
       simp only [upd_same]
       constructor
       · intro hv
         exact ⟨_, (hmod _).2 (.inr rfl), rfl, by simpa using hv⟩
       · rintro ⟨y, hy, hyk, rfl⟩
         rcases (hmod y).1 hy with ⟨_, hk⟩ | rfl
         · exact absurd hyk hk
         · rfl
     · rw [upd_other V _ hxa]
       rw [hV x v]
       constructor
       · rintro ⟨y, hy, hyk, hyv⟩
         exact ⟨y, (hmod y).2 (.inl ⟨hy, fun hk => hxa (hE _ _ (hyk.symm.trans hk))⟩), hyk, hyv⟩
       · rintro ⟨y, hy, hyk, hyv⟩
         rcases (hmod y).1 hy with ⟨hy, _⟩ | rfl
         · exact ⟨y, hy, hyk, hyv⟩
         · exact absurd (hE _ _ hyk).symm hxa

theorem drop_who {t e ty : TypeId} {es : Array MapEntry} {clock : Nat} (K : Keyed P k) (ht : P.underlying t = some (.map k e)) (hb : w.heap[b]? = some (.map es clock)) (hst : Stamped es clock) (hks : ∀ x ∈ es.toList, ∃ l, keyOf P k x.key = some l) {key : Value} {kl : Lit} (hkey : keyOf P k key = some kl) :
 ∃ es', (Builtin.delete_ #[t, k] ty #[.map (some b), key]).run P w = .ok (.tuple #[]) (setBlock w b (.map es' clock)) ∧ Stamped es' clock ∧ es'.toList.Sublist es.toList ∧ ∀ x, x ∈ es'.toList ↔ (x ∈ es.toList ∧ x.key ≠ key) := by
 rcases K.find w hkey es.toList hks with ⟨h1, h2⟩ | ⟨j, e0, h1, h2, h3⟩
 · refine ⟨es, ?_, hst, List.Sublist.refl _, fun x => ⟨fun hx => ⟨hx, h2 x hx⟩, fun hx => hx.1⟩⟩
   simp [Builtin.delete_, run_underlying ht, MapKept.run_getObj_map hb, K.check w _ hkey, h1, MapKept.run_setObj_map _ hb, Result.andThen, setBlock]
 · have hjl : j < es.toList.length := (List.getElem?_eq_some_iff.1 h2).1
   have hjs : j < es.size := by simpa using hjl
   have hsub : (es.eraseIdxIfInBounds j).toList = es.toList.eraseIdx j := by
    unfold Array.eraseIdxIfInBounds
    rw [dif_pos hjs]
    simp
   refine ⟨es.eraseIdxIfInBounds j, ?_, stamped_erase hst j, by rw [hsub]; exact List.eraseIdx_sublist _ _, fun x => ?_⟩
   · simp [Builtin.delete_, run_underlying ht, MapKept.run_getObj_map hb, K.check w _ hkey, h1, MapKept.run_setObj_map _ hb, Result.andThen, setBlock]
   · rw [hsub, List.mem_eraseIdx_iff_getElem?]
     constructor
     · rintro ⟨i, hne, hi⟩
       refine ⟨List.mem_of_getElem? hi, fun hk => ?_⟩
       have hxe : x = e0 := key_unique hst (List.mem_of_getElem? hi) (List.mem_of_getElem? h2) (hk.trans h3.symm)
       subst hxe
       have hn := ((stamped_iff es clock).1 hst).2.1
       obtain ⟨hi1, hi2⟩ := List.getElem?_eq_some_iff.1 hi
       obtain ⟨hj1, hj2⟩ := List.getElem?_eq_some_iff.1 h2
       have hb1 : (es.toList.map (·.born))[i]'(by simpa using hi1) = (es.toList.map (·.born))[j]'(by simpa using hj1) := by
        rw [List.getElem_map, List.getElem_map, hi2, hj2]
       exact hne ((List.getElem_inj hn).1 hb1)
     · rintro ⟨hx, hne⟩
       obtain ⟨i, hi⟩ := List.getElem?_of_mem hx
       refine ⟨i, fun e1 => hne ?_, hi⟩
       rw [e1, h2] at hi
       cases hi
       exact h3

theorem kmap.delete [DecidableEq α] {t e ty : TypeId} (h : kmap w P k E b V) (K : Keyed P k) (hE : ∀ x y, E x = E y → x = y) (ht : P.underlying t = some (.map k e)) {a : α} {l : Lit} (hkey : keyOf P k (E a) = some l) :
 ∃ w', (Builtin.delete_ #[t, k] ty #[.map (some b), E a]).run P w = .ok (.tuple #[]) w' ∧ kmap w' P k E b (upd V a none) ∧ w.grownBy w' (some b) ∧ w'.heap.size = w.heap.size := by
 obtain ⟨es, clock, hb, hst, hks, hEs, hV⟩ := h
 obtain ⟨es', hrun, hst', _, hwho⟩ := drop_who (ty := ty) K ht hb hst hks hkey
 refine ⟨_, hrun, ⟨es', clock, heap_setBlock_same hb _, hst', fun x hx => hks x ((hwho x).1 hx).1, fun x hx => hEs x ((hwho x).1 hx).1, fun x v => ?_⟩,
  ⟨rfl, rfl, rfl, by simp [setBlock], fun i _ hi => heap_setBlock_other hb _ (fun e => hi (by rw [e]))⟩, by simp [setBlock]⟩
 by_cases hxa : x = a
 · subst hxa
   simp only [upd_same]
   constructor
   · intro h; cases h
   · rintro ⟨y, hy, hyk, _⟩
     exact absurd hyk ((hwho y).1 hy).2
 · rw [upd_other V _ hxa]
   rw [hV x v]
   constructor
   · rintro ⟨y, hy, hyk, hyv⟩
     exact ⟨y, (hwho y).2 ⟨hy, fun hk => hxa (hE _ _ (hyk.symm.trans hk))⟩, hyk, hyv⟩
   · rintro ⟨y, hy, hyk, hyv⟩
     exact ⟨y, ((hwho y).1 hy).1, hyk, hyv⟩

/-! Going through a map. -/

def kranges (w : World) (P : Program) (k : TypeId) (E : α → Value) (b r : Nat) (V : α → Option Value) (left : α → Prop) (cnt : Nat) : Prop :=
 ∃ es clock since seen c0, w.heap[b]? = some (.map es clock) ∧ Stamped es clock ∧ (∀ x ∈ es.toList, ∃ l, keyOf P k x.key = some l) ∧ (∀ x ∈ es.toList, ∃ a, x.key = E a) ∧
  (∀ a v, V a = some v ↔ ∃ x ∈ es.toList, x.key = E a ∧ x.val = v) ∧
  w.heap[r]? = some (.mapIter (some b) since seen c0) ∧ (∀ x ∈ es.toList, x.born < since) ∧ (leftOf es seen).size = cnt ∧
  (∀ a, left a ↔ ∃ x ∈ es.toList, x.key = E a ∧ seen.contains x.born = false) ∧ since ≤ c0 ∧ since ≤ clock

theorem kranges.kmap {r cnt : Nat} {left : α → Prop} (h : kranges w P k E b r V left cnt) : kmap w P k E b V := by
 obtain ⟨es, clock, since, seen, c0, hb, h1, h2, h3, h4, _⟩ := h
 exact ⟨es, clock, hb, h1, h2, h3, h4⟩

theorem kranges.ne {r cnt : Nat} {left : α → Prop} (h : kranges w P k E b r V left cnt) : r ≠ b := by
 obtain ⟨es, clock, since, seen, c0, hb, _, _, _, _, hr, _⟩ := h
 intro e
 rw [e, hb] at hr
 cases hr

theorem kranges.lt {r cnt : Nat} {left : α → Prop} (h : kranges w P k E b r V left cnt) : r < w.heap.size := by
 obtain ⟨es, clock, since, seen, c0, hb, _, _, _, _, hr, _⟩ := h
 exact (Array.getElem?_eq_some_iff.1 hr).1

theorem kranges.kept {w' : World} {row : Option Nat} {r cnt : Nat} {left : α → Prop} (h : kranges w P k E b r V left cnt) (hg : w.grownBy w' row) (hb' : some b ≠ row) (hr' : some r ≠ row) : kranges w' P k E b r V left cnt := by
 have h1 := h.kmap.lt
 have h2 := h.lt
 obtain ⟨es, clock, since, seen, c0, hb, a1, a2, a3, a4, hr, rest⟩ := h
 exact ⟨es, clock, since, seen, c0, (hg.block b h1 hb').trans hb, a1, a2, a3, a4, (hg.block r h2 hr').trans hr, rest⟩

theorem kmap.range {t e : TypeId} (h : kmap w P k E b V) (ht : P.underlying t = some (.map k e)) :
 ∃ w' cnt, (Instr.range t (.map (some b))).run P w = .ok (.pointer (some ⟨w.heap.size, 0, none⟩)) w' ∧ kranges w' P k E b w.heap.size V (fun a => ∃ v, V a = some v) cnt ∧ w.grownBy w' none ∧ w'.heap.size = w.heap.size + 1 := by
 have hlt := h.lt
 obtain ⟨es, clock, hb, hst, hks, hEs, hV⟩ := h
 refine ⟨_, _, run_range_map w t k e b es clock ht hb, ⟨es, clock, clock, #[], clock, ((MapKept.heap_alloc w _).2 b hlt).trans hb, hst, hks, hEs, hV, (MapKept.heap_alloc w _).1, hst.1, rfl, ?_, Nat.le_refl _, Nat.le_refl _⟩, World.grownBy_alloc w _ none, by simp⟩
 intro a
 constructor
 · rintro ⟨v, hv⟩
   obtain ⟨x, hx, hxk, _⟩ := (hV a v).1 hv
   exact ⟨x, hx, hxk, by simp⟩
 · rintro ⟨x, hx, hxk, _⟩
   exact ⟨x.val, (hV a x.val).2 ⟨x, hx, hxk, rfl⟩⟩

theorem kranges.next {r cnt : Nat} {left : α → Prop} (h : kranges w P k E b r V left cnt) (hE : ∀ x y, E x = E y → x = y) (ty : TypeId) :
 (cnt = 0 ∧ (∀ a, ¬ left a) ∧ (Instr.next (.pointer (some ⟨r, 0, none⟩)) false ty).run P w = .ok (.tuple #[.bool false]) w) ∨
 ∃ a v l w' cnt', keyOf P k (E a) = some l ∧ left a ∧ V a = some v ∧ (Instr.next (.pointer (some ⟨r, 0, none⟩)) false ty).run P w = .ok (.tuple #[.bool true, E a, v]) w' ∧
  kranges w' P k E b r V (fun x => left x ∧ x ≠ a) cnt' ∧ cnt' < cnt ∧ w.grownBy w' (some r) ∧ w'.heap.size = w.heap.size ∧ (Instr.entry (.pointer (some ⟨r, 0, none⟩))).run P w' = .ok (.tuple #[E a, v]) w' := by
 have hne := h.ne
 obtain ⟨es, clock, since, seen, c0, hb, hst, hks, hEs, hV, hr, hold, rfl, hl, hsc, hsk⟩ := h
 rcases run_next_at (P := P) w ty r b since c0 seen es clock hr hb hold hsc with ⟨h0, hrun⟩ | ⟨e, he, w1, hal, hrun⟩
 · refine Or.inl ⟨h0, fun a ha => ?_, hrun⟩
   obtain ⟨x, hx, _, hs⟩ := (hl a).1 ha
   rw [all_seen es seen h0 x hx] at hs
   cases hs
 · obtain ⟨hem, hes⟩ := mem_left he
   obtain ⟨a, hea⟩ := hEs e hem
   obtain ⟨l, hkl⟩ := hks e hem
   have hr1 : w1.heap[r]? = some (.mapIter (some b) since seen c0) := by rcases hal with rfl | rfl <;> exact hr
   have hb1 : w1.heap[b]? = some (.map es clock) := by rcases hal with rfl | rfl <;> exact hb
   have hset := heap_set (o' := .mapIter (some b) since (seen.push e.born) clock) hr1
   have hb' : (setBlock w1 r (.mapIter (some b) since (seen.push e.born) clock)).heap[b]? = some (.map es clock) := (hset.2 b (fun e1 => hne e1.symm)).trans hb1
   refine Or.inr ⟨a, e.val, l, _, _, by rw [← hea]; exact hkl, (hl a).2 ⟨e, hem, hea, hes⟩, (hV a e.val).2 ⟨e, hem, hea, rfl⟩, by rw [← hea]; exact hrun,
    ⟨es, clock, since, seen.push e.born, clock, hb', hst, hks, hEs, hV, hset.1, hold, rfl, fun x => ?_, hsk, hsk⟩, left_shrinks es seen e he, ?_, ?_,
    by rw [← hea]; exact run_entry_at _ r b since seen es clock e hset.1 hb' hem ((stamped_iff es clock).1 hst).2.1⟩
   · constructor
     · rintro ⟨hlx, hxa⟩
       obtain ⟨y, hy, hyk, hys⟩ := (hl x).1 hlx
       refine ⟨y, hy, hyk, ?_⟩
       rw [contains_push, hys, Bool.false_or, beq_eq_false_iff_ne]
       intro hbe
       have := born_inj ((stamped_iff es clock).1 hst).2.1 hy hem hbe
       subst this
       exact hxa (hE _ _ (hyk.symm.trans hea))
     · rintro ⟨y, hy, hyk, hys⟩
       rw [contains_push, Bool.or_eq_false_iff, beq_eq_false_iff_ne] at hys
       refine ⟨(hl x).2 ⟨y, hy, hyk, hys.1⟩, fun hxa => hys.2 ?_⟩
       subst hxa
       rw [key_unique hst hy hem (hyk.trans hea.symm)]
   · rcases hal with rfl | rfl <;> exact ⟨rfl, rfl, rfl, by simp [setBlock], fun i _ hi => hset.2 i (fun e1 => hi (by rw [e1]))⟩
   · rcases hal with rfl | rfl <;> simp [setBlock]

theorem leftOf_sub_le {es es' : Array MapEntry} (seen : Array Nat) (h : es'.toList.Sublist es.toList) : (leftOf es' seen).size ≤ (leftOf es seen).size := by
 have h1 : (leftOf es' seen).toList.Sublist (leftOf es seen).toList := by
  unfold leftOf
  rw [Array.toList_filter, Array.toList_filter]
  exact h.filter _
 simpa using h1.length_le

theorem kranges.drop [DecidableEq α] {t e ty : TypeId} {r cnt : Nat} {left : α → Prop} (h : kranges w P k E b r V left cnt) (K : Keyed P k) (hE : ∀ x y, E x = E y → x = y) (ht : P.underlying t = some (.map k e)) {a : α} {l : Lit} (hkey : keyOf P k (E a) = some l) :
 ∃ w' cnt', (Builtin.delete_ #[t, k] ty #[.map (some b), E a]).run P w = .ok (.tuple #[]) w' ∧ kranges w' P k E b r (upd V a none) (fun x => left x ∧ x ≠ a) cnt' ∧ cnt' ≤ cnt ∧ w.grownBy w' (some b) ∧ w'.heap.size = w.heap.size := by
 have hne := h.ne
 obtain ⟨es, clock, since, seen, c0, hb, hst, hks, hEs, hV, hr, hold, rfl, hl, hsc, hsk⟩ := h
 obtain ⟨es', hrun, hst', hsub, hwho⟩ := drop_who (ty := ty) K ht hb hst hks hkey
 refine ⟨_, _, hrun, ⟨es', clock, since, seen, c0, heap_setBlock_same hb _, hst', fun x hx => hks x ((hwho x).1 hx).1, fun x hx => hEs x ((hwho x).1 hx).1, fun x v => ?_,
  (heap_setBlock_other hb _ hne).trans hr, fun x hx => hold x ((hwho x).1 hx).1, rfl, fun x => ?_, hsc, hsk⟩, leftOf_sub_le seen hsub,
  ⟨rfl, rfl, rfl, by simp [setBlock], fun i _ hi => heap_setBlock_other hb _ (fun e => hi (by rw [e]))⟩, by simp [setBlock]⟩
 · by_cases hxa : x = a
   · subst hxa
     simp only [upd_same]
     constructor
     · intro h; cases h
     · rintro ⟨y, hy, hyk, _⟩
       exact absurd hyk ((hwho y).1 hy).2
   · rw [upd_other V _ hxa]
     rw [hV x v]
     constructor
     · rintro ⟨y, hy, hyk, hyv⟩
       exact ⟨y, (hwho y).2 ⟨hy, fun hk => hxa (hE _ _ (hyk.symm.trans hk))⟩, hyk, hyv⟩
     · rintro ⟨y, hy, hyk, hyv⟩
       exact ⟨y, ((hwho y).1 hy).1, hyk, hyv⟩
 · constructor
   · rintro ⟨hlx, hxa⟩
     obtain ⟨y, hy, hyk, hys⟩ := (hl x).1 hlx
     exact ⟨y, (hwho y).2 ⟨hy, fun hk => hxa (hE _ _ (hyk.symm.trans hk))⟩, hyk, hys⟩
   · rintro ⟨y, hy, hyk, hys⟩
     exact ⟨(hl x).2 ⟨y, ((hwho y).1 hy).1, hyk, hys⟩, fun hxa => ((hwho y).1 hy).2 (by rw [hyk, hxa])⟩

/-! At an operation of a walk. -/
section
variable {ops : Array Oper} {rest : List Oper} {o : Oper} {a : Act} {Q : Exit → Act → World → Prop}

theorem wpList_mapUpdate_k [DecidableEq α] (hg : o.guard = none) (m x v : Operand) (t : TypeId) (hop : o.op = Op.mapUpdate t m x v) (e : TypeId) (K : Keyed P k) (hE : ∀ x y, E x = E y → x = y) (ht : P.underlying t = some (.map k e))
 (hm : a.eval m = .map (some b)) (h : kmap w P k E b V) (key : α) (hx : a.eval x = E key) (hkey : ∃ l, keyOf P k (E key) = some l) (val : Value) (hv : a.eval v = val)
 (hK : ∀ w', kmap w' P k E b (upd V key (some val)) → w.grownBy w' (some b) → w'.heap.size = w.heap.size → wpList P ops Q rest (a.put o.dst undef) w') : wpList P ops Q (o :: rest) a w := by
 obtain ⟨l, hkey⟩ := hkey
 refine wpList_plain hg fun K' hK' => ?_
 obtain ⟨w', hrun, r1, r2, r3⟩ := h.update K hE ht hkey val
 unfold Oper.wp
 simp [execOp, hop, hm, hx, hv, hrun, Result.andThen]
 exact hK' _ _ (hK w' r1 r2 r3)

end
end
end Go.Wh

namespace Go.Proofs.YtlcfoeikamkpmaaGreat

def Byt (l : List Int) : Prop := ∀ z ∈ l, 0 ≤ z ∧ z ≤ 255
theorem Byt.append {a b : List Int} (ha : Byt a) (hb : Byt b) : Byt (a ++ b) := fun z hz => (List.mem_append.1 hz).elim (ha z) (hb z)
theorem Byt.left {a b : List Int} (h : Byt (a ++ b)) : Byt a := fun z hz => h z (List.mem_append_left _ hz)
theorem Byt.right {a b : List Int} (h : Byt (a ++ b)) : Byt b := fun z hz => h z (List.mem_append_right _ hz)
theorem Byt.drop {a : List Int} (h : Byt a) (n : Nat) : Byt (a.drop n) := fun z hz => h z (List.mem_of_mem_drop hz)
theorem Byt.take {a : List Int} (h : Byt a) (n : Nat) : Byt (a.take n) := fun z hz => h z (List.mem_of_mem_take hz)
theorem Byt.zeros (n : Nat) : Byt (List.replicate n 0) := fun z hz => by
 rw [(List.mem_replicate.1 hz).2]
 omega

def numB : Nat → Int → List Int
 | 0, _ => []
 | n + 1, v => v / 256 ^ n % 256 :: numB n v
theorem numB_length (n : Nat) (v : Int) : (numB n v).length = n := by
 induction n with
 | zero => rfl
 | succ n ih => simp [numB, ih]
theorem numB_byt (n : Nat) (v : Int) : Byt (numB n v) := by
 induction n with
 | zero => intro z hz; cases hz
 | succ n ih =>
  intro z hz
  rcases List.mem_cons.1 hz with rfl | hz
  · omega
  · exact ih z hz
def numsB (n : Nat) (l : List Int) : List Int := l.flatMap (numB n)
theorem numsB_length (n : Nat) (l : List Int) : (numsB n l).length = l.length * n := by
 induction l with
 | nil => simp [numsB]
 | cons a l ih =>
  have : numsB n (a :: l) = numB n a ++ numsB n l := rfl
  rw [this, List.length_append, numB_length, ih, List.length_cons, Nat.add_mul]
  omega
theorem numsB_byt (n : Nat) (l : List Int) : Byt (numsB n l) := fun z hz => by
 obtain ⟨v, _, h⟩ := List.mem_flatMap.1 hz
 exact numB_byt n v z h

def sumB : List Int → Int × Int → Int × Int
 | [], s => s
 | c :: l, (x, y) => sumB l ((x + c) % 255, (y + (x + c) % 255) % 255)
def chkB (b : List Int) : List Int := [(sumB b (0, 0)).1, (sumB b (0, 0)).2]
theorem sumB_range (b : List Int) : ∀ s : Int × Int, 0 ≤ s.1 ∧ s.1 < 255 → 0 ≤ s.2 ∧ s.2 < 255 → (0 ≤ (sumB b s).1 ∧ (sumB b s).1 < 255) ∧ 0 ≤ (sumB b s).2 ∧ (sumB b s).2 < 255 := by
 induction b with
 | nil => intro s h1 h2; exact ⟨h1, h2⟩
 | cons c l ih =>
  intro s h1 h2
  obtain ⟨x, y⟩ := s
  unfold sumB
  exact ih _ (by simp only; omega) (by simp only; omega)
def partB (S : List Int) (i : Nat) : List Int := (S.drop (i * 63)).take 63
def tileB (S : List Int) (i : Nat) : List Int := ((partB S i).length : Int) :: (partB S i ++ List.replicate (63 - (partB S i).length) 0)
theorem partB_length (S : List Int) (i : Nat) : (partB S i).length = min 63 (S.length - i * 63) := by
 unfold partB
 rw [List.length_take, List.length_drop]
def readB : List (List Int) → List Int
 | [] => []
 | s :: l => if 63 < s.headD 0 then [] else (s.drop 1).take (s.headD 0).toNat ++ (if s.headD 0 < 63 then [] else readB l)
def decB (l : List Int) : Int := l.foldl (fun v x => v * 256 + x) 0
end Go.Proofs.YtlcfoeikamkpmaaGreat

namespace Go.Proofs.YtlcfoeikamkpmaaGreat
open Go.RowKit Go.Wh Go.Maps

abbrev Still (w w' : World) : Prop := Only (fun _ => False) w w'
theorem Still.cell {w w' : World} {p : Addr} {u : Value} (h : Still w w') (hc : w.cell? p = some u) : w'.cell? p = some u := (Only.cell h (World.block_lt_of_cell? _ _ hc) fun e => e).trans hc
theorem Still.refl (w : World) : Still w w := Only.refl _ _
theorem still_drew (w : World) : Still w w.drew := Only.drew (Only.refl _ _)
theorem info_b : (Tryz.prog.info? 5).map (fun i => (i.zero, i.size, i.bytes)) = some (some (.int .u8 0), 1, 1) := by kernel_rfl

set_option maxHeartbeats 400000 in
theorem clone_b (v : Value) (n : Nat) (xs : List Value) (w : World) (h : Reads w 1 v n xs) (h1c : ∀ u ∈ xs, u.oneCell' = true) (hn : n ≤ 10000) :
 Calls Tryz.prog 36 #[v] w (FreshPost w 1 n xs) := by
 rcases id h with ⟨hl, ⟨rfl, rfl⟩ | ⟨a, c, rfl, hc⟩⟩
 · have hnil : xs = [] := by simpa using hl
   have F := Lib.hid (show FreshPost w 1 0 xs (.returned (.slice none 0 0)) w from ⟨_, rfl, by rw [hnil]; exact Vec.nil _ _, Below.refl _ _, fun g hg => by cases hg⟩)
   clear h hl hnil
   have hnn := fun W : World => Lib.run_eql_slice_nil (P := Tryz.prog) W 22 5 none 0 0 0 0 Tryz.underlying22
   go_enter Tryz.func36, Tryz.ntmps36
   go_wp2_with fail
   go_ret
   exact F.out
 · obtain ⟨i0, hi, hz0, hz1, hz2⟩ := info_parts info_b
   have H := Lib.hid h
   have HC := Lib.hid h1c
   clear h hl hc h1c
   have hnn := fun W : World => Lib.run_eql_slice_nil (P := Tryz.prog) W 22 5 (some a) n c 0 0 Tryz.underlying22
   go_enter Tryz.func36, Tryz.ntmps36
   have H1 := Lib.hid (H.out.belowAll ((Below.refl _ _).alloc (Nat.le_refl _) (Obj.cells #[] 5)))
   go_wp2_with (at_builtin; refine wpList_append_vec rfl _ _ 22 rfl 5 i0 _ 1 1 Tryz.underlying22 hi hz0 hz1 hz2 rfl (by decide) _ 0 [] rfl (Vec.none_ _ _ _ _) _ n xs rfl H1.out HC.out (by simp only [maxLen]; omega) (by omega) ?_; intro v' w' hv' ho' hb')
   have F := Lib.hid (show FreshPost w 1 n xs (.returned v') w' from by
    have hbel := (Below.refl w.heap.size w).alloc (Nat.le_refl _) (Obj.cells #[] 5)
    refine ⟨v', rfl, by simpa using hv', hbel.trans (ho'.below (by simp) (fun i hi e => ?_)), fun g hg => ?_⟩
    · have e2 : w.heap.size = i := Option.some.inj e
      omega
    · rcases hb' with e | ⟨g', e, h1, h2⟩
      · have e2 : w.heap.size = g := Option.some.inj (e.symm.trans hg)
        have h3 := ho'.size
        simp at h3
        omega
      · rw [e] at hg
        injection hg with hg
        simp at h1
        omega)
   clear hv' ho' hb' H H1 HC
   go_wp2_with fail
   go_ret
   exact F.out

def bc (l : List Int) : List Value := l.map fun z => .int .u8 z
theorem bc_one (l : List Int) : ∀ u ∈ bc l, u.oneCell' = true := fun u hu => by
 obtain ⟨z, _, rfl⟩ := List.mem_map.1 hu
 rfl
theorem bc_length (l : List Int) : (bc l).length = l.length := List.length_map _
theorem bc_append (a b : List Int) : bc (a ++ b) = bc a ++ bc b := List.map_append
theorem bc_take (l : List Int) (n : Nat) : (bc l).take n = bc (l.take n) := (List.map_take ..).symm
theorem bc_drop (l : List Int) (n : Nat) : (bc l).drop n = bc (l.drop n) := (List.map_drop ..).symm
theorem bc_get {l : List Int} {i : Nat} {z : Int} (h : l[i]? = some z) : (bc l)[i]? = some (.int .u8 z) := by
 unfold bc
 rw [List.getElem?_map, h]
 rfl

section
variable {w w' : World} {size m n : Nat} {v : Value} {xs : List Value}
theorem Reads.only {S : Nat → Prop} (h : Reads w size v m xs) (ho : Only S w w') (hs : ∀ g, v.ownBlock = some g → ¬ S g) : Reads w' size v m xs := by
 refine ⟨h.1, h.2.imp id ?_⟩
 rintro ⟨a, c, rfl, hc⟩
 refine ⟨a, c, rfl, fun j u hj => ?_⟩
 have h1 := hc j u hj
 refine (ho.cell (World.block_lt_of_cell? _ _ h1) ?_).trans h1
 have h2 : (a.add j).block = a.block := by unfold Addr.add; split <;> rfl
 rw [h2]
 exact hs a.block rfl
theorem Reads.still (h : Reads w size v m xs) (ho : Still w w') : Reads w' size v m xs := Reads.only h ho fun _ _ e => e
theorem Reads.form (h : Reads w size v m xs) : ∃ a c, v = .slice a m c := by
 rcases h.2 with ⟨rfl, rfl⟩ | ⟨a, c, rfl, _⟩
 · exact ⟨_, _, rfl⟩
 · exact ⟨_, _, rfl⟩
end

structure DkAt (w : World) (d : Nat) (T : List (List Int)) (tv : Value) (mb : Nat) (vs : List Value) : Prop where
 cells : cellsAt w d [tv, .map (some mb), .bool false, .pointer none]
 t : Vec w 1 tv T.length vs
 ins : ∀ (i : Nat) (l : List Int), T[i]? = some l → ∃ v, vs[i]? = some v ∧ Reads w 1 v 64 (bc l)
 m : ∃ V, kmap w Tryz.prog 3 (fun z : Int => .int .i64 z) mb V
 dm : d ≠ mb
 td : ∀ g, tv.ownBlock = some g → g ≠ d ∧ g ≠ mb ∧ g < w.heap.size
 ia : ∀ v ∈ vs, ∀ g, v.ownBlock = some g → g ≠ d ∧ g ≠ mb ∧ tv.ownBlock ≠ some g ∧ g < w.heap.size
 one : ∀ u ∈ vs, u.oneCell' = true
section
variable {w w' : World} {d mb : Nat} {T : List (List Int)} {tv : Value} {vs : List Value}
theorem DkAt.lt (h : DkAt w d T tv mb vs) : d < w.heap.size ∧ mb < w.heap.size := by
 obtain ⟨V, hm⟩ := h.m
 exact ⟨h.cells.lt, hm.lt⟩
theorem DkAt.only {S : Nat → Prop} (h : DkAt w d T tv mb vs) (ho : Only S w w') (h1 : ¬ S d) (h2 : ¬ S mb) (h3 : ∀ g, tv.ownBlock = some g → ¬ S g) (h4 : ∀ v ∈ vs, ∀ g, v.ownBlock = some g → ¬ S g) : DkAt w' d T tv mb vs := by
 refine ⟨h.cells.only ho h1, h.t.only ho h3, fun i l hi => ?_, ?_, h.dm, fun g hg => ?_, fun v hv g hg => ?_, h.one⟩
 · obtain ⟨v, hv, hr⟩ := h.ins i l hi
   exact ⟨v, hv, Reads.only hr ho (h4 v (List.mem_of_getElem? hv))⟩
 · obtain ⟨V, hm⟩ := h.m
   exact ⟨V, hm.block (ho.block mb hm.lt h2)⟩
 · have := h.td g hg
   exact ⟨this.1, this.2.1, Nat.lt_of_lt_of_le this.2.2 ho.size⟩
 · have := h.ia v hv g hg
   exact ⟨this.1, this.2.1, this.2.2.1, Nat.lt_of_lt_of_le this.2.2.2 ho.size⟩
theorem DkAt.still (h : DkAt w d T tv mb vs) (hs : Still w w') : DkAt w' d T tv mb vs := h.only hs (fun e => e) (fun e => e) (fun _ _ e => e) (fun _ _ _ _ e => e)
theorem DkAt.form (h : DkAt w d T tv mb vs) : ∃ a c, tv = .slice a T.length c := h.t.form'
theorem DkAt.lens (h : DkAt w d T tv mb vs) {i : Nat} {l : List Int} (hi : T[i]? = some l) : l.length = 64 := by
 obtain ⟨v, _, hr⟩ := h.ins i l hi
 have := hr.1
 rw [bc_length] at this
 omega
end

def SamePost (w : World) (v : Value) (e : Ending) (w' : World) : Prop := e = .returned v ∧ w' = w

end Go.Proofs.YtlcfoeikamkpmaaGreat

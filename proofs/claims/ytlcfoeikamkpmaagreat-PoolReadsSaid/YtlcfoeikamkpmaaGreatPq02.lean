/- A slice in memory as the list of its cells, wherever it lies in its block: read, written, cut, appended to. No conditions. append of a slice as the list of its cells, at a step of a region that draws its order. No conditions. More of a slice as the list of its cells: many cells written at once, a longer cut, copy, clear, an append of a make, overlaps. No conditions. -/
import Derived.Test.YtlcfoeikamkpmaaGreatPq01
import Derived.Maps.Range
import Derived.Deep.MidRow
import Derived.ArgAppend
import Derived.Deep.AppendLies
import Derived.Deep.RegionLaw
import Derived.Deep.RegionHeld3
import Derived.Lib.AppendZerosOnto
import Derived.Lib.SliceRun
import Derived.Lib.Overlaps
import Derived.Laws.IdiomCopy
import Derived.Laws.Externs
import Derived.Deep.AppendSrc
namespace Go.Wh
open Go.RowKit

structure VecAt (w : World) (size g o n cap : Nat) (xs : List Value) : Prop where
 len : xs.length = n * size
 le : n ≤ cap
 small : cap ≤ maxLen
 cells : ∀ j, j < n * size → w.cell? ⟨g, o + j, none⟩ = xs[j]?
 room : ∀ j, j < cap * size → (w.cell? ⟨g, o + j, none⟩).isSome = true ∧ w.frozen? ⟨g, o + j, none⟩ = false

def Vec (w : World) (size : Nat) (v : Value) (n : Nat) (xs : List Value) : Prop :=
 (v = .slice none 0 0 ∧ n = 0 ∧ xs = []) ∨ ∃ g o cap, v = .slice (some ⟨g, o, none⟩) n cap ∧ VecAt w size g o n cap xs

section
variable {w w' : World} {size g o n cap : Nat} {xs : List Value} {v : Value}

theorem VecAt.block (h : VecAt w size g o n cap xs) (hb : w'.heap[g]? = w.heap[g]?) : VecAt w' size g o n cap xs :=
 ⟨h.len, h.le, h.small, fun j hj => (World.cell?_of_block (a := ⟨g, o + j, none⟩) hb).trans (h.cells j hj), fun j hj => by
  have h1 := h.room j hj
  rw [World.cell?_of_block (a := ⟨g, o + j, none⟩) (w := w) (w' := w') hb, World.frozen?_of_block (a := ⟨g, o + j, none⟩) (w := w) (w' := w') hb]
  exact h1⟩

theorem VecAt.lt (h : VecAt w size g o n cap xs) (hc : 0 < cap * size) : g < w.heap.size := by
 have := (h.room 0 hc).1
 rw [Option.isSome_iff_exists] at this
 obtain ⟨u, hu⟩ := this
 exact lt_of_cell hu

theorem Vec.nil (w : World) (size : Nat) : Vec w size (.slice none 0 0) 0 [] := .inl ⟨rfl, rfl, rfl⟩

theorem Vec.none_ (w : World) (size g o : Nat) : Vec w size (.slice (some ⟨g, o, none⟩) 0 0) 0 [] := .inr ⟨g, o, 0, rfl, ⟨by simp, Nat.le_refl _, Nat.zero_le _, fun j hj => by omega, fun j hj => by omega⟩⟩

theorem Vec.len (h : Vec w size v n xs) : xs.length = n * size := by
 rcases h with ⟨_, rfl, rfl⟩ | ⟨g, o, cap, _, h⟩
 · simp
 · exact h.len

theorem Vec.small (h : Vec w size v n xs) : n ≤ maxLen := by
 rcases h with ⟨_, rfl, rfl⟩ | ⟨g, o, cap, _, h⟩
 · exact Nat.zero_le _
 · exact Nat.le_trans h.le h.small

theorem Vec.kept (h : Vec w size v n xs) (hb : ∀ g, v.ownBlock = some g → g < w.heap.size → w'.heap[g]? = w.heap[g]?) : Vec w' size v n xs := by
 rcases h with h | ⟨g, o, cap, rfl, h⟩
 · exact .inl h
 · refine .inr ⟨g, o, cap, rfl, ?_⟩
   by_cases hc : 0 < cap * size
   · exact h.block (hb g rfl (h.lt hc))
   · have h0 : cap * size = 0 := by omega
     have hn : n * size = 0 := by
      have := Nat.mul_le_mul_right size h.le
      omega
     exact ⟨h.len, h.le, h.small, fun j hj => by omega, fun j hj => by omega⟩

theorem Vec.only {S : Nat → Prop} (h : Vec w size v n xs) (ho : Only S w w') (hs : ∀ g, v.ownBlock = some g → ¬ S g) : Vec w' size v n xs := h.kept fun g hg hl => ho.block g hl (hs g hg)
theorem Vec.below {B : Nat} (h : Vec w size v n xs) (ho : Below B w w') (hs : ∀ g, v.ownBlock = some g → g < B) : Vec w' size v n xs := h.kept fun g hg _ => ho.block g (hs g hg)
theorem Vec.belowAll (h : Vec w size v n xs) (ho : Below w.heap.size w w') : Vec w' size v n xs := h.kept fun g _ hl => ho.block g hl
theorem Vec.alloc (h : Vec w size v n xs) (ob : Obj) : Vec (w.alloc ob) size v n xs := h.belowAll ((Below.refl _ _).alloc (Nat.le_refl _) _)
theorem Vec.drew (h : Vec w size v n xs) : Vec w.drew size v n xs := h.kept fun _ _ _ => rfl
theorem Vec.grown {row : Option Nat} (h : Vec w size v n xs) (hg : w.grownBy w' row) (hne : v.ownBlock = none ∨ v.ownBlock ≠ row) : Vec w' size v n xs :=
 h.kept fun g e hl => hg.block g hl (by rw [e] at hne; exact hne.elim (fun h => by cases h) id)

theorem Vec.form (h : Vec w size v n xs) (hn : 0 < n) : ∃ g o cap, v = .slice (some ⟨g, o, none⟩) n cap ∧ VecAt w size g o n cap xs := by
 rcases h with ⟨_, rfl, _⟩ | h
 · omega
 · exact h
theorem Vec.form' (h : Vec w size v n xs) : ∃ a cap, v = .slice a n cap := by
 rcases h with ⟨rfl, rfl, _⟩ | ⟨g, o, cap, rfl, h⟩
 · exact ⟨_, _, rfl⟩
 · exact ⟨_, _, rfl⟩

theorem Vec.at (h : Vec w size (.slice (some ⟨g, o, none⟩) n cap) n xs) : VecAt w size g o n cap xs := by
 rcases h with ⟨h, _⟩ | ⟨g', o', cap', he, h⟩
 · cases h
 · cases he
   exact h

theorem VecAt.cell (h : VecAt w size g o n cap xs) (j : Nat) (hj : j < n * size) : w.cell? ⟨g, o + j, none⟩ = xs[j]? := h.cells j hj
theorem VecAt.free (h : VecAt w size g o n cap xs) (j : Nat) (hj : j < n * size) : w.frozen? ⟨g, o + j, none⟩ = false :=
 (h.room j (Nat.lt_of_lt_of_le hj (Nat.mul_le_mul_right _ h.le))).2

theorem VecAt.set (h : VecAt w size g o n cap xs) (j : Nat) (hj : j < n * size) (u : Value) : VecAt (w.setCell ⟨g, o + j, none⟩ u) size g o n cap (xs.set j u) := by
 have hsome : ∃ x, w.cell? ⟨g, o + j, none⟩ = some x := by
  have := (h.room j (Nat.lt_of_lt_of_le hj (Nat.mul_le_mul_right _ h.le))).1
  rwa [Option.isSome_iff_exists] at this
 obtain ⟨x, hx⟩ := hsome
 have hcell : ∀ i, (w.setCell ⟨g, o + j, none⟩ u).cell? ⟨g, o + i, none⟩ = if i = j then some u else w.cell? ⟨g, o + i, none⟩ := fun i => by
  by_cases hi : i = j
  · subst hi
    rw [if_pos rfl, World.cell?_setCell_same _ _ _ hx]
  · rw [if_neg hi, World.cell?_setCell_other]
    intro e
    injection e with _ e _
    omega
 refine ⟨by simpa using h.len, h.le, h.small, fun i hi => ?_, fun i hi => ?_⟩
 · rw [hcell, List.getElem?_set]
   by_cases hij : i = j
   · subst hij
     rw [if_pos rfl, if_pos rfl, if_pos (by rw [h.len]; exact hi)]
   · rw [if_neg hij, if_neg (Ne.symm hij)]
     exact h.cells i hi
 · rw [hcell, World.frozen?_setCell]
   refine ⟨?_, (h.room i hi).2⟩
   by_cases hij : i = j
   · rw [if_pos hij]; rfl
   · rw [if_neg hij]; exact (h.room i hi).1

theorem VecAt.sub (h : VecAt w size g o n cap xs) (lo hi mx : Nat) (h1 : lo ≤ hi) (h2 : hi ≤ n) (h3 : hi ≤ mx) (h4 : mx ≤ cap) :
 VecAt w size g (o + lo * size) (hi - lo) (mx - lo) ((xs.drop (lo * size)).take ((hi - lo) * size)) := by
 have e1 : lo * size + (hi - lo) * size = hi * size := by rw [← Nat.add_mul]; congr 1; omega
 have e2 : lo * size + (mx - lo) * size = mx * size := by rw [← Nat.add_mul]; congr 1; omega
 have b1 := Nat.mul_le_mul_right size h2
 have b2 := Nat.mul_le_mul_right size h4
 refine ⟨by simp [h.len]; omega, by omega, by have := h.small; omega, fun j hj => ?_, fun j hj => ?_⟩
 · rw [List.getElem?_take, if_pos hj, List.getElem?_drop, Nat.add_assoc]
   exact h.cells _ (by omega)
 · rw [Nat.add_assoc]
   exact h.room _ (by omega)

def cutAddr (size g o lo mx : Nat) : Addr := if mx = lo then ⟨g, o, none⟩ else (⟨g, o, none⟩ : Addr).add (lo * size)
theorem cutAddr_eq (size g o lo mx : Nat) (h : mx ≠ lo) : cutAddr size g o lo mx = ⟨g, o + lo * size, none⟩ := by
 unfold cutAddr
 rw [if_neg h, Addr.add_lit]

theorem VecAt.cut (h : VecAt w size g o n cap xs) (lo hi mx : Nat) (h1 : lo ≤ hi) (h2 : hi ≤ n) (h3 : hi ≤ mx) (h4 : mx ≤ cap) :
 Vec w size (.slice (some (cutAddr size g o lo mx)) (hi - lo) (mx - lo)) (hi - lo) ((xs.drop (lo * size)).take ((hi - lo) * size)) := by
 by_cases hm : mx = lo
 · have e0 : hi - lo = 0 := by omega
   refine .inr ⟨g, o, mx - lo, by unfold cutAddr; rw [if_pos hm], ⟨by simp [e0], by omega, by have := h.small; omega, fun j hj => ?_, fun j hj => ?_⟩⟩
   · rw [e0] at hj; omega
   · rw [hm] at hj; simp at hj
 · exact .inr ⟨g, o + lo * size, mx - lo, by rw [cutAddr_eq _ _ _ _ _ hm], h.sub lo hi mx h1 h2 h3 h4⟩

def Reads (w : World) (size : Nat) (v : Value) (m : Nat) (news : List Value) : Prop :=
 news.length = m * size ∧ ((v = .slice none 0 0 ∧ m = 0) ∨ ∃ a c, v = .slice (some a) m c ∧ ∀ j u, news[j]? = some u → w.cell? (a.add j) = some u)

theorem Reads.belowAll {news : List Value} (h : Reads w size v n news) (hb : Below w.heap.size w w') : Reads w' size v n news := by
 refine ⟨h.1, h.2.imp id ?_⟩
 rintro ⟨a, c, rfl, hc⟩
 exact ⟨a, c, rfl, fun j u hj => (hb.cell (World.block_lt_of_cell? _ _ (hc j u hj))).trans (hc j u hj)⟩

theorem Vec.reads (h : Vec w size v n xs) : Reads w size v n xs := by
 refine ⟨h.len, ?_⟩
 rcases h with ⟨h1, h2, _⟩ | ⟨g, o, cap, rfl, h⟩
 · exact .inl ⟨h1, h2⟩
 · refine .inr ⟨_, _, rfl, fun j u hj => ?_⟩
   rw [Addr.add_lit]
   rw [h.cells j (by rw [← h.len]; exact (List.getElem?_eq_some_iff.1 hj).1)]
   exact hj

theorem reads_block {c : Nat} {t : TypeId} {cs : Array Value} {fr : Nat × Nat} (hb : w.heap[g]? = some (.cells cs t fr)) (hm : cs.size = n * size) : Reads w size (.slice (some ⟨g, 0, none⟩) n c) n cs.toList :=
 ⟨by simpa using hm, .inr ⟨_, _, rfl, World.news_of_block hb⟩⟩

theorem vec_block {t : TypeId} {cs : Array Value} (hb : w.heap[g]? = some (.cells cs t (0, 0))) (hm : cs.size = n * size) (hn : n ≤ maxLen) : Vec w size (.slice (some ⟨g, 0, none⟩) n n) n cs.toList := by
 refine .inr ⟨g, 0, n, rfl, ⟨by simpa using hm, Nat.le_refl _, hn, fun j hj => ?_, fun j hj => ?_⟩⟩
 · simp [World.cell?, hb]
 · simp [World.cell?, World.frozen?, hb, hm, hj]

theorem vec_of_owns {base : Nat} {e : TypeId} (h : w.ownsRow base e size v n xs) : Vec w size v n xs := by
 obtain ⟨hl, h⟩ := h
 rcases h with ⟨hv, hn⟩ | ⟨g, cap, cur, rfl, hb, hh, hle, hm, hs, ht⟩
 · subst hn
   simp at hl
   exact .inl ⟨hv, rfl, hl⟩
 · refine .inr ⟨g, 0, cap, rfl, ⟨hl, hle, hm, fun j hj => ?_, fun j hj => ?_⟩⟩
   · rw [← ht, List.getElem?_take, if_pos hj]
     simp [World.cell?, hh]
   · simp [World.cell?, World.frozen?, hh, hs, hj]

theorem setCells_grown (w : World) (g : Nat) : ∀ (vs : List Value) (o : Nat), w.grownBy (w.setCells g o vs) (some g)
 | [], _ => World.grownBy.refl w _
 | v :: vs, o => by
  have h1 : w.grownBy (w.setCell ⟨g, o, none⟩ v) (some g) := ⟨rfl, rfl, rfl, by simp [World.setCell], fun i _ hi => Below.heap_setCell _ _ _ _ (fun e => hi (by rw [e]))⟩
  have h2 := setCells_grown (w.setCell ⟨g, o, none⟩ v) g vs (o + 1)
  exact h1.andThen h2 (fun j hj => .inr hj)

theorem VecAt.more (h : VecAt w size g o n cap xs) (m : Nat) (news : List Value) (hn : news.length = m * size) (hroom : n + m ≤ cap) : VecAt (w.setCells g (o + n * size) news) size g o (n + m) cap (xs ++ news) := by
 have e1 : n * size + m * size = (n + m) * size := by rw [Nat.add_mul]
 have b1 := Nat.mul_le_mul_right size hroom
 have hs : ∀ j, j < news.length → (w.cell? ⟨g, o + n * size + j, none⟩).isSome = true := fun j hj => by
  rw [Nat.add_assoc]
  exact (h.room _ (by omega)).1
 have hout : ∀ j, j < n * size → (w.setCells g (o + n * size) news).cell? ⟨g, o + j, none⟩ = w.cell? ⟨g, o + j, none⟩ := fun j hj =>
  World.cell?_setCells_out g news _ w ⟨g, o + j, none⟩ (fun _ _ => .inl (by show o + j < _; omega))
 refine ⟨by simp [h.len, hn, Nat.add_mul], hroom, h.small, fun j hj => ?_, fun j hj => ?_⟩
 · by_cases hjn : j < n * size
   · rw [hout j hjn, List.getElem?_append_left (by rw [h.len]; exact hjn)]
     exact h.cells j hjn
   · obtain ⟨k, rfl⟩ : ∃ k, j = n * size + k := ⟨j - n * size, by omega⟩
     have hk : k < news.length := by omega
     rw [List.getElem?_append_right (by rw [h.len]; omega), h.len, Nat.add_sub_cancel_left, ← Nat.add_assoc, World.cell?_setCells_in g news _ w hs k hk, List.getElem?_eq_getElem hk]
 · rw [World.frozen?_setCells]
   exact ⟨World.isSome_setCells g news _ w _ (h.room j hj).1, (h.room j hj).2⟩

end

section
variable {P : Program} {w : World} {ops : Array Oper} {rest : List Oper} {o : Oper} {a : Act} {Q : Exit → Act → World → Prop}

theorem run_append_vec (t ty e : TypeId) (i : TypeInfo) (z : Value) (size bytes : Nat) (h1 : P.underlying t = some (.slice e)) (h2 : P.info? e = some i) (h3 : i.zero = some z) (h4 : i.size = size) (h5 : i.bytes = bytes) (h6 : z.cells.size = size) (h7 : 0 < size)
 {v : Value} {n : Nat} {xs : List Value} (hv : Vec w size v n xs) {vx : Value} {m : Nat} {news : List Value} (hx : Reads w size vx m news) (h1c : ∀ u ∈ news, u.oneCell' = true) (b1 : n + m ≤ maxLen) (b2 : (n + m) * bytes ≤ 140737488355328) :
 ∃ v' w', (Builtin.append_ #[t, t] ty #[v, vx]).run P w = .ok v' w' ∧ Vec w' size v' (n + m) (xs ++ news) ∧ Only (fun k => v.ownBlock = some k) w w' ∧ (v'.ownBlock = v.ownBlock ∨ ∃ g, v'.ownBlock = some g ∧ w.heap.size ≤ g ∧ g < w'.heap.size) := by
 obtain ⟨hl, hx⟩ := hx
 rcases hx with ⟨rfl, rfl⟩ | ⟨ad, c, rfl, hc⟩
 · have hn : news = [] := by simpa using hl
   subst hn
   subst h4
   obtain ⟨aa, cap, rfl⟩ := hv.form'
   have hle : n ≤ cap := by
    rcases hv with ⟨he, rfl, _⟩ | ⟨g, o, cap', he, h⟩
    · omega
    · cases he; exact h.le
   refine ⟨.slice aa n cap, w, ?_, by simpa using hv, Only.refl _ _, .inl rfl⟩
   have hst : ∀ b, (storeCells b ([] : List Value)).run P w = Result.ok () w := fun b => rfl
   cases aa with
   | none => simp [Builtin.append_, run_underlying h1, sizeOf, typeInfo, h2, Builtin.lenOf, hle, Builtin.firstCells]
   | some b => simp [Builtin.append_, run_underlying h1, sizeOf, typeInfo, h2, Builtin.lenOf, hle, Builtin.firstCells, hst]
 · rcases hv with ⟨rfl, rfl, rfl⟩ | ⟨g, o, cap, rfl, h⟩
   · obtain ⟨v', w', hrun, hown, hg, _⟩ := run_append_own (P := P) w w.heap.size t ty e i z size bytes h1 h2 h3 h4 h5 h6 h7 (.slice none 0 0) 0 [] (World.ownsRow_nil _ _ _ _) ad m c news hl hc h1c b1 b2 (Nat.le_refl _)
     refine ⟨v', w', hrun, vec_of_owns hown, Only.grown hg (fun j hj => by cases hj), ?_⟩
     cases hvb : v'.ownBlock with
     | none => exact .inl rfl
     | some g => exact .inr ⟨g, rfl, hown.lt g hvb⟩
   · by_cases hr : n + m ≤ cap
     · subst h4
       have hsp : ∀ j, j < news.length → (w.cell? ⟨g, o + n * i.size + j, none⟩).isSome = true ∧ w.frozen? ⟨g, o + n * i.size + j, none⟩ = false := fun j hj => by
        have e1 : n * i.size + m * i.size = (n + m) * i.size := by rw [Nat.add_mul]
        have e2 := Nat.mul_le_mul_right i.size hr
        rw [Nat.add_assoc]
        exact h.room _ (by omega)
       exact ⟨_, _, run_append_room_cells (P := P) w t ty e i h1 h2 g o n cap ad m c news hl hc h1c hr (fun j hj => (hsp j hj).1) (fun j hj => (hsp j hj).2),
        .inr ⟨g, o, cap, rfl, h.more m news hl hr⟩, Only.grown (setCells_grown w g news _) (fun j hj => hj), .inl rfl⟩
     · obtain ⟨v', w', hrun, hown, hg⟩ := run_append_arg_grows (P := P) w t ty e i z size bytes h1 h2 h3 h4 h5 h6 h7 ⟨g, o, none⟩ n cap xs h.len (fun j u hj => by
        rw [Addr.add_lit, h.cells j (by rw [← h.len]; exact (List.getElem?_eq_some_iff.1 hj).1)]
        exact hj) ad m c news hl hc (by omega) b1 b2
       refine ⟨v', w', hrun, vec_of_owns hown, Only.grown hg (fun j hj => by cases hj), ?_⟩
       obtain ⟨g', cap', hv', _⟩ := hown.form (by omega)
       refine .inr ⟨g', ?_, hown.lt g' ?_⟩ <;> rw [hv'] <;> rfl

theorem wpList_append_vec (hgd : o.guard = none) (s x : Operand) (t : TypeId) (hop : o.op = Op.call { callee := Callee.builtin Builtin.append, args := #[s, x], argTypes := #[t, t] })
 (e : TypeId) (i : TypeInfo) (z : Value) (size bytes : Nat) (h1 : P.underlying t = some (.slice e)) (h2 : P.info? e = some i) (h3 : i.zero = some z) (h4 : i.size = size) (h5 : i.bytes = bytes) (h6 : z.cells.size = size) (h7 : 0 < size)
 (v : Value) (n : Nat) (xs : List Value) (hs : a.eval s = v) (hv : Vec w size v n xs) (vx : Value) (m : Nat) (news : List Value) (hxv : a.eval x = vx) (hx : Reads w size vx m news) (h1c : ∀ u ∈ news, u.oneCell' = true) (b1 : n + m ≤ maxLen) (b2 : (n + m) * bytes ≤ 140737488355328)
 (hK : ∀ v' w', Vec w' size v' (n + m) (xs ++ news) → Only (fun k => v.ownBlock = some k) w w' → (v'.ownBlock = v.ownBlock ∨ ∃ g, v'.ownBlock = some g ∧ w.heap.size ≤ g ∧ g < w'.heap.size) → wpList P ops Q rest (a.put o.dst v') w') :
 wpList P ops Q (o :: rest) a w := by
 refine wpList_plain hgd fun K hK' => ?_
 obtain ⟨v', w', hrun, r1, r2, r3⟩ := run_append_vec (P := P) t o.type e i z size bytes h1 h2 h3 h4 h5 h6 h7 hv hx h1c b1 b2
 unfold Oper.wp
 simp [execOp, hop, resolve, invoke, builtin, hs, hxv, hrun, Result.andThen]
 exact hK' _ _ (hK v' w' r1 r2 r3)

end
end Go.Wh

namespace Go.Wh
open Go.RowKit
section
variable {P : Program} {w : World} {ops : Array Oper} {o : Oper} {a : Act} {Q : Exit → Act → World → Prop} {K : Act → World → Prop} {E : Prop}

theorem step_append_vec (hgd : o.guard = none) (s x : Operand) (t : TypeId) (hop : o.op = Op.call { callee := Callee.builtin Builtin.append, args := #[s, x], argTypes := #[t, t] })
 (e : TypeId) (i : TypeInfo) (z : Value) (size bytes : Nat) (h1 : P.underlying t = some (.slice e)) (h2 : P.info? e = some i) (h3 : i.zero = some z) (h4 : i.size = size) (h5 : i.bytes = bytes) (h6 : z.cells.size = size) (h7 : 0 < size)
 (v : Value) (n : Nat) (xs : List Value) (hs : a.eval s = v) (hv : Vec w size v n xs) (vx : Value) (m : Nat) (news : List Value) (hxv : a.eval x = vx) (hx : Reads w size vx m news) (h1c : ∀ u ∈ news, u.oneCell' = true) (b1 : n + m ≤ maxLen) (b2 : (n + m) * bytes ≤ 140737488355328)
 (hK : ∀ v' w', Vec w' size v' (n + m) (xs ++ news) → Only (fun k => v.ownBlock = some k) w w' → (v'.ownBlock = v.ownBlock ∨ ∃ g, v'.ownBlock = some g ∧ w.heap.size ≤ g ∧ g < w'.heap.size) → K (a.put o.dst v') w') :
 if Region.wanted o (yielded ops a.tmps) = true then Oper.wp P o a w K Q else E := by
 have hw : Region.wanted o (yielded ops a.tmps) = true := by simp [Region.wanted, hgd]
 rw [if_pos hw]
 obtain ⟨v', w', hrun, r1, r2, r3⟩ := run_append_vec (P := P) t o.type e i z size bytes h1 h2 h3 h4 h5 h6 h7 hv hx h1c b1 b2
 unfold Oper.wp
 simp [execOp, hop, resolve, invoke, builtin, hs, hxv, hrun, Result.andThen]
 exact hK v' w' r1 r2 r3
end
end Go.Wh

namespace Go.Wh
open Go.RowKit

section
variable {P : Program} {w w' : World} {size g o n cap : Nat} {xs : List Value} {v : Value}

theorem VecAt.put (h : VecAt w size g o n cap xs) (p : Nat) (news : List Value) (hp : p + news.length ≤ n * size) :
 VecAt (w.setCells g (o + p) news) size g o n cap (xs.take p ++ news ++ xs.drop (p + news.length)) := by
 have hl := h.len
 have b1 := Nat.mul_le_mul_right size h.le
 have hs : ∀ j, j < news.length → (w.cell? ⟨g, o + p + j, none⟩).isSome = true := fun j hj => by
  rw [Nat.add_assoc]
  exact (h.room _ (by omega)).1
 have ht : (xs.take p).length = p := by rw [List.length_take]; omega
 refine ⟨by simp [hl]; omega, h.le, h.small, fun j hj => ?_, fun j hj => ?_⟩
 · by_cases h1 : j < p
   · rw [World.cell?_setCells_out g news _ w ⟨g, o + j, none⟩ (fun _ _ => .inl (by show o + j < _; omega)), List.append_assoc, List.getElem?_append_left (by omega), List.getElem?_take, if_pos h1]
     exact h.cells j hj
   · by_cases h2 : j < p + news.length
     · obtain ⟨k, rfl⟩ : ∃ k, j = p + k := ⟨j - p, by omega⟩
       rw [← Nat.add_assoc, World.cell?_setCells_in g news _ w hs k (by omega), List.append_assoc, List.getElem?_append_right (by omega), List.getElem?_append_left (by omega)]
       have e : p + k - (xs.take p).length = k := by omega
       rw [e, List.getElem?_eq_getElem (by omega)]
     · rw [World.cell?_setCells_out g news _ w ⟨g, o + j, none⟩ (fun _ _ => .inr (by show o + p + news.length ≤ o + j; omega)), List.getElem?_append_right (by rw [List.length_append]; omega), List.getElem?_drop]
       have e : p + news.length + (j - (xs.take p ++ news).length) = j := by rw [List.length_append]; omega
       rw [e]
       exact h.cells j hj
 · rw [World.frozen?_setCells]
   exact ⟨World.isSome_setCells g news _ w _ (h.room j hj).1, (h.room j hj).2⟩

theorem VecAt.head {w : World} {size g o n cap : Nat} {xs : List Value} (h : VecAt w size g o n cap xs) (m : Nat) (hm : m ≤ n) : VecAt w size g o m m (xs.take (m * size)) := by
 have := h.sub 0 m m (Nat.zero_le _) hm (Nat.le_refl _) (Nat.le_trans hm h.le)
 simpa using this

theorem VecAt.beyond (h : VecAt w size g o n cap xs) (p : Nat) (news : List Value) (hp : n * size ≤ p) : VecAt (w.setCells g (o + p) news) size g o n cap xs :=
 ⟨h.len, h.le, h.small, fun j hj => by rw [World.cell?_setCells_out g news _ w ⟨g, o + j, none⟩ (fun _ _ => .inl (by show o + j < _; omega))]; exact h.cells j hj, fun j hj => by
  rw [World.frozen?_setCells]
  exact ⟨World.isSome_setCells g news _ w _ (h.room j hj).1, (h.room j hj).2⟩⟩

theorem setCells_only (w : World) (g o : Nat) (vs : List Value) : Only (fun k => k = g) w (w.setCells g o vs) :=
 Only.grown (setCells_grown w g vs o) (fun _ hj => (Option.some.inj hj).symm)

theorem VecAt.wide (h : VecAt w size g o n cap xs) (m : Nat) (hm : n ≤ m) (hc : m ≤ cap) : ∃ junk, junk.length = (m - n) * size ∧ VecAt w size g o m cap (xs ++ junk) := by
 have e1 : n * size + (m - n) * size = m * size := by rw [← Nat.add_mul]; congr 1; omega
 have b1 := Nat.mul_le_mul_right size hc
 refine ⟨(List.range ((m - n) * size)).map fun j => (w.cell? ⟨g, o + n * size + j, none⟩).getD undef, by simp, ?_⟩
 refine ⟨by simp [h.len]; omega, hc, h.small, fun j hj => ?_, h.room⟩
 by_cases h1 : j < n * size
 · rw [List.getElem?_append_left (by rw [h.len]; exact h1)]
   exact h.cells j h1
 · obtain ⟨k, rfl⟩ : ∃ k, j = n * size + k := ⟨j - n * size, by omega⟩
   rw [List.getElem?_append_right (by rw [h.len]; omega), h.len, Nat.add_sub_cancel_left]
   have h2 := (h.room (n * size + k) (by omega)).1
   rw [Option.isSome_iff_exists] at h2
   obtain ⟨u, hu⟩ := h2
   simp only [List.getElem?_map]
   rw [List.getElem?_range (by omega)]
   simp only [Option.map_some, Nat.add_assoc, hu, Option.getD_some]

theorem VecAt.short (h : VecAt w size g o n cap xs) (m : Nat) (hm : m ≤ n) : VecAt w size g o m cap (xs.take (m * size)) := by
 have b1 := Nat.mul_le_mul_right size hm
 refine ⟨by rw [List.length_take, h.len]; omega, by have := h.le; omega, h.small, fun j hj => ?_, h.room⟩
 rw [List.getElem?_take, if_pos hj]
 exact h.cells j (by omega)

theorem VecAt.shape (h : VecAt w size g o n cap xs) (hc : 0 < cap * size) : ∃ t k, w.shape? g = some (t, k) ∧ k ≠ 0 := by
 have h1 := (h.room 0 hc).1
 rw [Option.isSome_iff_exists] at h1
 obtain ⟨u, hu⟩ := h1
 have hb : g < w.heap.size := lt_of_cell hu
 cases hh : w.heap[g]? with
 | none => simp [World.cell?, hh] at hu
 | some ob =>
  cases ob with
  | cells cs t fr =>
   refine ⟨t, cs.size, by simp [World.shape?, hh], ?_⟩
   simp [World.cell?, hh] at hu
   obtain ⟨hlt, _⟩ := Array.getElem?_eq_some_iff.1 hu
   omega
  | _ => simp [World.cell?, hh] at hu

theorem cellsAt.shape {r : Nat} {l : List Value} (h : cellsAt w r l) : ∃ t, w.shape? r = some (t, l.length) := by
 obtain ⟨t, h⟩ := h
 exact ⟨t, by simp [World.shape?, h]⟩

theorem cellsAt.reads {r m c : Nat} {l : List Value} (h : cellsAt w r l) (hl : l.length = m * size) : Reads w size (.slice (some ⟨r, 0, none⟩) m c) m l :=
 ⟨hl, .inr ⟨_, _, rfl, fun j u hj => by rw [Addr.add_lit, Nat.zero_add, h.cell]; exact hj⟩⟩

theorem run_copy_size (dT sT ty elem : TypeId) (b o dLen dCap : Nat) (a : Addr) (sLen sCap : Nat) (cs : List Value)
 (hu : P.underlying dT = some (.slice elem)) (hs : (P.info? elem).map (·.size) = some size) (hn : cs.length = (Nat.min sLen dLen) * size)
 (hsrc : ∀ j v, cs[j]? = some v → w.cell? (a.add j) = some v) (hc : ∀ j, j < cs.length → (w.cell? ⟨b, o + j, none⟩).isSome = true) (hf : ∀ j, j < cs.length → w.frozen? ⟨b, o + j, none⟩ = false) (h1 : ∀ v ∈ cs, v.oneCell' = true) :
 (Builtin.copy_ #[dT, sT] ty #[.slice (some ⟨b, o, none⟩) dLen dCap, .slice (some a) sLen sCap]).run P w = .ok (goInt (Nat.min sLen dLen)) (w.setCells b o cs) := by
 have hl := run_loadCells_list (P := P) w a cs hsrc
 have hst := run_storeCells_cells (P := P) b o cs 0 w (by simpa using hc) (by simpa using hf) h1
 cases hq : P.info? elem with
 | none => simp [hq] at hs
 | some i =>
  have hi : i.size = size := by simpa [hq] using hs
  simp [Builtin.copy_, run_underlying hu, Builtin.lenOf, Builtin.firstCells, sizeOf, typeInfo, hq, hi, ← hn, hl, hst]

theorem run_copy_at (dT sT ty elem : TypeId) (hu : P.underlying dT = some (.slice elem)) (hs : (P.info? elem).map (·.size) = some size) (h : VecAt w size g o n cap xs)
 (p dLen dCap : Nat) (a : Addr) (sLen sCap : Nat) (cs : List Value) (hn : cs.length = (Nat.min sLen dLen) * size) (hp : p + Nat.min sLen dLen ≤ n)
 (hsrc : ∀ j v, cs[j]? = some v → w.cell? (a.add j) = some v) (h1 : ∀ v ∈ cs, v.oneCell' = true) :
 (Builtin.copy_ #[dT, sT] ty #[.slice (some ⟨g, o + p * size, none⟩) dLen dCap, .slice (some a) sLen sCap]).run P w = .ok (goInt (Nat.min sLen dLen)) (w.setCells g (o + p * size) cs) ∧
  VecAt (w.setCells g (o + p * size) cs) size g o n cap (xs.take (p * size) ++ cs ++ xs.drop ((p + Nat.min sLen dLen) * size)) := by
 have e1 : p * size + Nat.min sLen dLen * size = (p + Nat.min sLen dLen) * size := by rw [Nat.add_mul]
 have b1 := Nat.mul_le_mul_right size hp
 have b2 := Nat.mul_le_mul_right size h.le
 refine ⟨run_copy_size dT sT ty elem g _ dLen dCap a sLen sCap cs hu hs hn hsrc (fun j hj => ?_) (fun j hj => ?_) h1, ?_⟩
 · rw [Nat.add_assoc]; exact (h.room _ (by omega)).1
 · rw [Nat.add_assoc]; exact (h.room _ (by omega)).2
 · have := h.put (p * size) cs (by omega)
   rwa [hn, e1] at this

theorem run_clear_size (t e : TypeId) (z : Value) (ht : P.underlying t = some (.slice e)) (hv : ∀ w, (zeroValue e).run P w = .ok z w) (hz : z.cells.size = size) (h1 : ∀ u ∈ z.cells.toList, u.oneCell' = true) (b o k : Nat)
 (hc : ∀ j, j < k * size → (w.cell? ⟨b, o + j, none⟩).isSome = true) (hf : ∀ j, j < k * size → w.frozen? ⟨b, o + j, none⟩ = false) :
 ∃ zs, zs.length = k * size ∧ ∀ ty c, (Builtin.clear_ #[t] ty #[.slice (some ⟨b, o, none⟩) k c]).run P w = .ok (.tuple #[]) (w.setCells b o zs) := by
 cases k with
 | zero => exact ⟨[], by simp, fun ty c => by simp [Builtin.clear_, run_underlying ht, World.setCells]⟩
 | succ m =>
  have hl : (Builtin.zeroCells z.cells (m + 1)).toList.length = (m + 1) * size := by simp [Builtin.zeroCells, hz]
  have h1' : ∀ u ∈ (Builtin.zeroCells z.cells (m + 1)).toList, u.oneCell' = true := fun u hu => by
   simp only [Builtin.zeroCells, Array.toList_map, Array.toList_range, List.mem_map, List.mem_range] at hu
   obtain ⟨i, hi, rfl⟩ := hu
   apply h1
   have hpos : 0 < z.cells.size := by
    rcases Nat.eq_zero_or_pos z.cells.size with h0 | h0
    · simp [h0] at hi
    · exact h0
   have hmod : i % z.cells.size < z.cells.size := Nat.mod_lt _ hpos
   simp [hmod]
  have hst := run_storeCells_cells (P := P) b o (Builtin.zeroCells z.cells (m + 1)).toList 0 w (by rw [hl]; simpa using hc) (by rw [hl]; simpa using hf) h1'
  simp only [Nat.add_zero] at hst
  exact ⟨_, hl, fun ty c => by simp [Builtin.clear_, run_underlying ht, hv, hst]⟩
end

theorem shift_list (xs junk item : List Value) (n i size : Nat) (hx : xs.length = n * size) (hj : junk.length = (n + 1 - n) * size) (hi : i < n) (L : List Value)
 (hL : L = (xs ++ junk).take ((i + 1) * size) ++ xs.drop (i * size) ++ (xs ++ junk).drop ((i + 1 + (n - i)) * size)) :
 L.take (i * size) ++ item ++ L.drop ((i + 1) * size) = xs.take (i * size) ++ item ++ xs.drop (i * size) := by
 have e1 : (i + 1) * size = i * size + size := Nat.succ_mul _ _
 have e2 : (i + 1 + (n - i)) * size = n * size + size := by rw [show i + 1 + (n - i) = n + 1 by omega, Nat.succ_mul]
 have e3 : (i + 1) * size ≤ n * size := Nat.mul_le_mul_right _ hi
 have e4 : junk.length = size := by rw [hj, show n + 1 - n = 1 by omega, Nat.one_mul]
 have h0 : (xs ++ junk).drop ((i + 1 + (n - i)) * size) = [] := List.drop_eq_nil_of_le (by rw [List.length_append]; omega)
 have h1 : (xs ++ junk).take ((i + 1) * size) = xs.take ((i + 1) * size) := List.take_append_of_le_length (by omega)
 rw [h0, h1, List.append_nil] at hL
 have h2 : (xs.take ((i + 1) * size)).length = (i + 1) * size := by rw [List.length_take]; omega
 rw [hL, List.take_append_of_le_length (by omega), List.take_take, Nat.min_eq_left (by omega), List.drop_left' h2]

theorem grow_list (xs z item : List Value) (n i size : Nat) (hx : xs.length = n * size) (hz : z.length = (n + 1 - i) * size) (hi : i < n) (hl : item.length = size) (L0 L1 : List Value)
 (hL0 : L0 = xs.take (i * size) ++ z) (hL1 : L1 = L0.take (i * size) ++ item ++ L0.drop ((i + 1) * size)) :
 L1.take ((i + 1) * size) ++ xs.drop (i * size) ++ L1.drop ((i + 1 + (n - i)) * size) = xs.take (i * size) ++ item ++ xs.drop (i * size) := by
 have e1 : (i + 1) * size = i * size + size := Nat.succ_mul _ _
 have e2 : (i + 1 + (n - i)) * size = n * size + size := by rw [show i + 1 + (n - i) = n + 1 by omega, Nat.succ_mul]
 have e3 : (i + 1) * size ≤ n * size := Nat.mul_le_mul_right _ hi
 have e4 : i * size + z.length = n * size + size := by rw [hz, ← Nat.add_mul, show i + (n + 1 - i) = n + 1 by omega, Nat.succ_mul]
 have h1 : (xs.take (i * size)).length = i * size := by rw [List.length_take]; omega
 have h2 : L0.take (i * size) = xs.take (i * size) := by rw [hL0, List.take_left' h1]
 have h3 : L0.length = n * size + size := by rw [hL0, List.length_append, h1]; omega
 rw [h2] at hL1
 have h4 : (xs.take (i * size) ++ item).length = (i + 1) * size := by rw [List.length_append, h1]; omega
 have h5 : L1.length = n * size + size := by rw [hL1, List.length_append, h4, List.length_drop, h3]; omega
 have h6 : L1.drop ((i + 1 + (n - i)) * size) = [] := List.drop_eq_nil_of_le (by omega)
 rw [h6, List.append_nil, hL1, List.take_left' h4]

theorem vecAt_block {w : World} {size g n cap : Nat} {t : TypeId} {cs : Array Value} (hb : w.heap[g]? = some (.cells cs t (0, 0))) (hm : cs.size = cap * size) (hn : n ≤ cap) (hc : cap ≤ maxLen) : VecAt w size g 0 n cap (cs.toList.take (n * size)) := by
 have b1 := Nat.mul_le_mul_right size hn
 refine ⟨by rw [List.length_take]; simp; omega, hn, hc, fun j hj => ?_, fun j hj => ?_⟩
 · rw [List.getElem?_take, if_pos hj]
   simp [World.cell?, hb]
 · simp [World.cell?, World.frozen?, hb, hm, hj]


theorem step_append_run {P : Program} {ops : Array Oper} {o : Oper} {a : Act} {w : World} {K : Act → World → Prop} {Q : Exit → Act → World → Prop} {E : Prop}
 (hg : o.guard = none) (d x : Operand) (dT sT : TypeId) (hop : o.op = Op.call { callee := Callee.builtin Builtin.append, args := #[d, x], argTypes := #[dT, sT] })
 (v u : Value) (hd : a.eval d = v) (hx : a.eval x = u) {v' : Value} {w' : World} (hr : (Builtin.append_ #[dT, sT] o.type #[v, u]).run P w = .ok v' w') (hK : K (a.put o.dst v') w') :
 if Region.wanted o (yielded ops a.tmps) = true then Oper.wp P o a w K Q else E := by
 have hw : Region.wanted o (yielded ops a.tmps) = true := by simp [Region.wanted, hg]
 rw [if_pos hw]
 unfold Oper.wp
 simp [execOp, hop, resolve, invoke, builtin, hd, hx, hr, Result.andThen]
 exact hK

theorem wpList_clear_run {P : Program} (w : World) {ops : Array Oper} {rest : List Oper} {o : Oper} {a : Act} {Q : Exit → Act → World → Prop} (hgd : o.guard = none) (s : Operand) (t : TypeId)
 (ho : o.op = .call { callee := .builtin .clear, args := #[s], argTypes := #[t] }) (v : Value) (hs : a.eval s = v) {v' : Value} {w' : World}
 (hr : (Builtin.clear_ #[t] o.type #[v]).run P w = .ok v' w') (h : wpList P ops Q rest (a.put o.dst v') w') : wpList P ops Q (o :: rest) a w := by
 refine wpList_plain hgd fun K hK => ?_
 unfold Oper.wp execOp
 simp only [ho, resolve, invoke, builtin, Sem.run_bind, Sem.run_pure, Result.andThen_ok, List.map_toArray, List.map_cons, List.map_nil, hs, hr]
 exact hK _ _ h

def FreshPost (w : World) (size n : Nat) (xs : List Value) (e : Ending) (w' : World) : Prop :=
 ∃ v', e = .returned v' ∧ Vec w' size v' n xs ∧ Below w.heap.size w w' ∧ ∀ g, v'.ownBlock = some g → w.heap.size ≤ g ∧ g < w'.heap.size

def TurnedPost (w : World) (v : Value) (size n : Nat) (xs : List Value) (e : Ending) (w' : World) : Prop :=
 ∃ v', e = .returned v' ∧ Vec w' size v' n xs ∧ Only (fun k => v.ownBlock = some k) w w' ∧ (v'.ownBlock = v.ownBlock ∨ ∃ g, v'.ownBlock = some g ∧ w.heap.size ≤ g ∧ g < w'.heap.size)

def CatRel (w : World) (size n : Nat) (xs : List Value) (v : Value) (w' : World) : Prop :=
 Vec w' size v n xs ∧ Below w.heap.size w w' ∧ ∀ g, v.ownBlock = some g → w.heap.size ≤ g ∧ g < w'.heap.size
theorem CatRel.next {w w1 w2 : World} {size n m : Nat} {xs ys : List Value} {v v' : Value} (h : CatRel w size n xs v w1) (hv : Vec w2 size v' (n + m) (xs ++ ys)) (ho : Only (fun k => v.ownBlock = some k) w1 w2)
 (hb : v'.ownBlock = v.ownBlock ∨ ∃ g, v'.ownBlock = some g ∧ w1.heap.size ≤ g ∧ g < w2.heap.size) : CatRel w size (n + m) (xs ++ ys) v' w2 := by
 obtain ⟨_, h2, h3⟩ := h
 refine ⟨hv, h2.trans (ho.below h2.size (fun i hi e => by have := (h3 i e).1; omega)), fun g hg => ?_⟩
 rcases hb with e | ⟨g', e, h1, _⟩
 · exact ⟨(h3 g (e.symm.trans hg)).1, Nat.lt_of_lt_of_le (h3 g (e.symm.trans hg)).2 ho.size⟩
 · rw [e] at hg
   injection hg with hg
   have := h2.size
   omega
end Go.Wh

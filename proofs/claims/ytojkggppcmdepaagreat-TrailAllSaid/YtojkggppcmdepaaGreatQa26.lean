/- The document's disk: what its rows say, plain. No program. No conditions. The document's disk in memory: its rows; is this operation the one that is cut? Conditions: it lies in memory. The document's disk: Crash. Conditions: it lies in memory; at most two thousand tiles. The document's disk: done, Sync. Conditions: it lies in memory; at most two thousand tiles. -/
import Derived.Test.YtojkggppcmdepaaGreatQa25
import Derived.Deep.RegionHeld3
import Derived.Lib.Hide
namespace Go.Proofs.YtojkggppcmdepaaGreat
open Go.RowKit Go.Wh Go.Maps

def strV (l : List Int) : Value := .string (strOfNums l)
def nowL (D : PDk) : List Value := D.T.map strV
def wasL (D : PDk) : List Value := (List.range D.T.length).map fun i => strV ((D.was i).getD (D.T.getD i []))
def wetL (D : PDk) : List Value := (List.range D.T.length).map fun i => .bool (D.was i).isSome
theorem nowL_length (D : PDk) : (nowL D).length = D.T.length := by simp [nowL]
theorem wasL_length (D : PDk) : (wasL D).length = D.T.length := by simp [wasL]
theorem wetL_length (D : PDk) : (wetL D).length = D.T.length := by simp [wetL]
theorem nowL_get {D : PDk} {i : Nat} {l : List Int} (h : D.T[i]? = some l) : (nowL D)[i]? = some (strV l) := by
 unfold nowL
 rw [List.getElem?_map, h]
 rfl
theorem wasL_get {D : PDk} {i : Nat} (h : i < D.T.length) : (wasL D)[i]? = some (strV ((D.was i).getD (D.T.getD i []))) := by
 unfold wasL
 rw [List.getElem?_map, List.getElem?_range h]
 rfl
theorem wetL_get {D : PDk} {i : Nat} (h : i < D.T.length) : (wetL D)[i]? = some (.bool (D.was i).isSome) := by
 unfold wetL
 rw [List.getElem?_map, List.getElem?_range h]
 rfl
theorem laid_length {D : PDk} {i : Nat} {l : List Int} : (D.laid i l).T.length = D.T.length := by
 unfold PDk.laid PDk.wet
 simp
theorem laid_was {D : PDk} {i j : Nat} {l : List Int} : (D.laid i l).was j = if (D.was i).isSome = true then D.was j else upd D.was i D.T[i]? j := by
 unfold PDk.laid PDk.wet
 simp only
 split <;> rfl
theorem laid_now {D : PDk} {i : Nat} {l : List Int} : nowL (D.laid i l) = (nowL D).set i (strV l) := by
 unfold nowL PDk.laid PDk.wet
 simp only [List.map_set]
theorem laid_wasL {D : PDk} {i : Nat} {l : List Int} (hi : i < D.T.length) : wasL (D.laid i l) = wasL D := by
 apply List.ext_getElem?
 intro j
 by_cases hj : j < D.T.length
 · rw [wasL_get hj, wasL_get (by rw [laid_length]; exact hj), laid_was]
   congr 2
   have ht : (D.laid i l).T = D.T.set i l := by unfold PDk.laid PDk.wet; rfl
   rw [ht]
   by_cases hij : j = i
   · subst hij
     cases D.was j with
     | some o => simp
     | none =>
      simp only [Option.isSome_none, Bool.false_eq_true, if_false, Option.getD_none]
      unfold upd
      rw [if_pos rfl, List.getElem?_eq_getElem hj, Option.getD_some, List.getD_eq_getElem?_getD, List.getElem?_eq_getElem hj]
      rfl
   · have e1 : (D.T.set i l).getD j [] = D.T.getD j [] := by
      rw [List.getD_eq_getElem?_getD, List.getD_eq_getElem?_getD, List.getElem?_set, if_neg (fun e => hij e.symm)]
     rw [e1]
     split
     · rfl
     · unfold upd
       rw [if_neg hij]
 · rw [List.getElem?_eq_none (by rw [wasL_length, laid_length]; omega), List.getElem?_eq_none (by rw [wasL_length]; omega)]
theorem laid_wetL {D : PDk} {i : Nat} {l : List Int} : wetL (D.laid i l) = (wetL D).set i (.bool true) := by
 apply List.ext_getElem?
 intro j
 by_cases hj : j < D.T.length
 · by_cases hij : i = j
   · subst hij
     rw [List.getElem?_set_self (by rw [wetL_length]; exact hj), wetL_get (by rw [laid_length]; exact hj), laid_was]
     cases D.was i with
     | some o => simp
     | none =>
      simp only [Option.isSome_none, Bool.false_eq_true, if_false]
      unfold upd
      rw [if_pos rfl, List.getElem?_eq_getElem hj]
      rfl
   · rw [List.getElem?_set_ne hij, wetL_get (by rw [laid_length]; exact hj), laid_was, wetL_get hj]
     congr 2
     split
     · rfl
     · unfold upd
       rw [if_neg (fun e => hij e.symm)]
 · rw [List.getElem?_eq_none (by rw [wetL_length, laid_length]; omega), List.getElem?_eq_none (by rw [List.length_set, wetL_length]; omega)]
def rank (D : PDk) (i : Nat) : Nat := (looseL (fun i => (D.was i).isSome) i).length
def crT (D : PDk) (mask : List Int) (i : Nat) : List (List Int) := crashN D.was mask (looseL (fun i => (D.was i).isSome) i) D.T (rank D i)
theorem looseL_succ (q : Nat → Bool) (i : Nat) : looseL q (i + 1) = looseL q i ++ (if q i = true then [i] else []) := by
 unfold looseL
 rw [List.range_succ, List.filter_append]
 congr 1
 simp only [List.filter_cons, List.filter_nil]
theorem crashN_app {was : Nat → Option (List Int)} {mask : List Int} {L M : List Nat} {T : List (List Int)} : ∀ (i : Nat), i ≤ L.length → crashN was mask (L ++ M) T i = crashN was mask L T i
 | 0, _ => rfl
 | i + 1, h => by
  unfold crashN
  rw [crashN_app i (by omega), List.getD_eq_getElem?_getD, List.getElem?_append_left (by omega), ← List.getD_eq_getElem?_getD]
theorem crT_zero (D : PDk) (mask : List Int) : crT D mask 0 = D.T := rfl
theorem rank_succ (D : PDk) (i : Nat) : rank D (i + 1) = if (D.was i).isSome = true then rank D i + 1 else rank D i := by
 unfold rank
 rw [looseL_succ, List.length_append]
 split <;> simp
theorem rank_le (D : PDk) : ∀ (i : Nat), rank D i ≤ i
 | 0 => Nat.le_refl _
 | i + 1 => by
  have := rank_le D i
  rw [rank_succ]
  split <;> omega
theorem crT_dry {D : PDk} {mask : List Int} {i : Nat} (h : (D.was i).isSome = false) : crT D mask (i + 1) = crT D mask i := by
 unfold crT
 rw [rank_succ, looseL_succ, if_neg (by rw [h]; simp), if_neg (by rw [h]; simp), List.append_nil]
theorem crT_wet {D : PDk} {mask : List Int} {i : Nat} (h : (D.was i).isSome = true) : crT D mask (i + 1) = if mskB mask (rank D i) = true then crT D mask i else (crT D mask i).set i ((D.was i).getD []) := by
 unfold crT
 rw [rank_succ, looseL_succ, if_pos h, if_pos h]
 have e : crashN D.was mask (looseL (fun i => (D.was i).isSome) i ++ [i]) D.T (rank D i + 1) = (if mskB mask (rank D i) = true then crashN D.was mask (looseL (fun i => (D.was i).isSome) i ++ [i]) D.T (rank D i) else (crashN D.was mask (looseL (fun i => (D.was i).isSome) i ++ [i]) D.T (rank D i)).set ((looseL (fun i => (D.was i).isSome) i ++ [i]).getD (rank D i) 0) ((D.was ((looseL (fun i => (D.was i).isSome) i ++ [i]).getD (rank D i) 0)).getD [])) := rfl
 rw [e, crashN_app (rank D i) (Nat.le_refl _)]
 have e2 : (looseL (fun i => (D.was i).isSome) i ++ [i]).getD (rank D i) 0 = i := by
  rw [List.getD_eq_getElem?_getD, rank, List.getElem?_append_right (Nat.le_refl _), Nat.sub_self]
  rfl
 rw [e2]
theorem crT_length {D : PDk} {mask : List Int} {i : Nat} : (crT D mask i).length = D.T.length := crashN_length
theorem crT_all (D : PDk) (mask : List Int) : (D.crash mask).T = crT D mask D.T.length := rfl
theorem crT_ahead {D : PDk} {mask : List Int} : ∀ (i : Nat) {j : Nat}, i ≤ j → (crT D mask i)[j]? = D.T[j]?
 | 0, _, _ => rfl
 | i + 1, j, h => by
  have ih := crT_ahead (D := D) (mask := mask) i (j := j) (by omega)
  cases hw : (D.was i).isSome with
  | false => rw [crT_dry hw]; exact ih
  | true =>
   rw [crT_wet hw]
   split
   · exact ih
   · rw [List.getElem?_set, if_neg (by omega)]
     exact ih
def crWas (D : PDk) (mask : List Int) (i : Nat) : List Value := (List.range D.T.length).map fun j => if j < i then strV ((crT D mask i).getD j []) else strV ((D.was j).getD (D.T.getD j []))
def crWet (D : PDk) (i : Nat) : List Value := (List.range D.T.length).map fun j => .bool (if j < i then false else (D.was j).isSome)
theorem crWas_length (D : PDk) (mask : List Int) (i : Nat) : (crWas D mask i).length = D.T.length := by simp [crWas]
theorem crWet_length (D : PDk) (i : Nat) : (crWet D i).length = D.T.length := by simp [crWet]
theorem crWas_get {D : PDk} {mask : List Int} {i j : Nat} (h : j < D.T.length) : (crWas D mask i)[j]? = some (if j < i then strV ((crT D mask i).getD j []) else strV ((D.was j).getD (D.T.getD j []))) := by
 unfold crWas
 rw [List.getElem?_map, List.getElem?_range h]
 rfl
theorem crWet_get {D : PDk} {i j : Nat} (h : j < D.T.length) : (crWet D i)[j]? = some (.bool (if j < i then false else (D.was j).isSome)) := by
 unfold crWet
 rw [List.getElem?_map, List.getElem?_range h]
 rfl
theorem crWas_zero (D : PDk) (mask : List Int) : crWas D mask 0 = wasL D := by
 unfold crWas wasL
 simp
theorem crWet_zero (D : PDk) : crWet D 0 = wetL D := by
 unfold crWet wetL
 simp
theorem crT_keep {D : PDk} {mask : List Int} {i j : Nat} (h : j < i) : (crT D mask (i + 1)).getD j [] = (crT D mask i).getD j [] := by
 cases hw : (D.was i).isSome with
 | false => rw [crT_dry hw]
 | true =>
  rw [crT_wet hw]
  split
  · rfl
  · rw [List.getD_eq_getElem?_getD, List.getD_eq_getElem?_getD, List.getElem?_set, if_neg (by omega)]
theorem crWas_dry {D : PDk} {mask : List Int} {i : Nat} (h : (D.was i).isSome = false) : crWas D mask (i + 1) = crWas D mask i := by
 apply List.ext_getElem?
 intro j
 by_cases hj : j < D.T.length
 · rw [crWas_get hj, crWas_get hj]
   congr 1
   by_cases h1 : j < i
   · rw [if_pos (by omega), if_pos h1, crT_keep h1]
   · by_cases h2 : j = i
     · subst h2
       rw [if_pos (by omega), if_neg (by omega), crT_dry h]
       have hn : D.was j = none := by
        cases hw : D.was j with
        | none => rfl
        | some o => rw [hw] at h; cases h
       rw [hn, List.getD_eq_getElem?_getD, crT_ahead j (Nat.le_refl _), List.getD_eq_getElem?_getD]
       rfl
     · rw [if_neg (by omega), if_neg (by omega)]
 · rw [List.getElem?_eq_none (by rw [crWas_length]; omega), List.getElem?_eq_none (by rw [crWas_length]; omega)]
theorem crWet_dry {D : PDk} {i : Nat} (h : (D.was i).isSome = false) : crWet D (i + 1) = crWet D i := by
 apply List.ext_getElem?
 intro j
 by_cases hj : j < D.T.length
 · rw [crWet_get hj, crWet_get hj]
   congr 2
   by_cases h1 : j < i
   · rw [if_pos (by omega), if_pos h1]
   · by_cases h2 : j = i
     · subst h2
       rw [if_pos (by omega), if_neg (by omega), h]
     · rw [if_neg (by omega), if_neg (by omega)]
 · rw [List.getElem?_eq_none (by rw [crWet_length]; omega), List.getElem?_eq_none (by rw [crWet_length]; omega)]
theorem crWas_wet {D : PDk} {mask : List Int} {i : Nat} : crWas D mask (i + 1) = (crWas D mask i).set i (strV ((crT D mask (i + 1)).getD i [])) := by
 apply List.ext_getElem?
 intro j
 by_cases hj : j < D.T.length
 · by_cases h2 : i = j
   · subst h2
     rw [List.getElem?_set_self (by rw [crWas_length]; exact hj), crWas_get hj, if_pos (by omega)]
   · rw [List.getElem?_set_ne h2, crWas_get hj, crWas_get hj]
     congr 1
     by_cases h1 : j < i
     · rw [if_pos (by omega), if_pos h1, crT_keep h1]
     · rw [if_neg (by omega), if_neg h1]
 · rw [List.getElem?_eq_none (by rw [crWas_length]; omega), List.getElem?_eq_none (by rw [List.length_set, crWas_length]; omega)]
theorem crWet_wet {D : PDk} {i : Nat} : crWet D (i + 1) = (crWet D i).set i (.bool false) := by
 apply List.ext_getElem?
 intro j
 by_cases hj : j < D.T.length
 · by_cases h2 : i = j
   · subst h2
     rw [List.getElem?_set_self (by rw [crWet_length]; exact hj), crWet_get hj, if_pos (by omega)]
   · rw [List.getElem?_set_ne h2, crWet_get hj, crWet_get hj]
     congr 2
     by_cases h1 : j < i
     · rw [if_pos (by omega), if_pos h1]
     · rw [if_neg (by omega), if_neg h1]
 · rw [List.getElem?_eq_none (by rw [crWet_length]; omega), List.getElem?_eq_none (by rw [List.length_set, crWet_length]; omega)]
theorem crWas_all (D : PDk) (mask : List Int) : crWas D mask D.T.length = wasL (D.crash mask) := by
 apply List.ext_getElem?
 intro j
 have hl : (D.crash mask).T.length = D.T.length := by rw [crT_all, crT_length]
 by_cases hj : j < D.T.length
 · rw [crWas_get hj, wasL_get (by rw [hl]; exact hj), if_pos hj, crT_all]
   rfl
 · rw [List.getElem?_eq_none (by rw [crWas_length]; omega), List.getElem?_eq_none (by rw [wasL_length, hl]; omega)]
theorem crWet_all (D : PDk) (mask : List Int) : crWet D D.T.length = wetL (D.crash mask) := by
 apply List.ext_getElem?
 intro j
 have hl : (D.crash mask).T.length = D.T.length := by rw [crT_all, crT_length]
 by_cases hj : j < D.T.length
 · rw [crWet_get hj, wetL_get (by rw [hl]; exact hj), if_pos hj]
   rfl
 · rw [List.getElem?_eq_none (by rw [crWet_length]; omega), List.getElem?_eq_none (by rw [wetL_length, hl]; omega)]
def syWas (D : PDk) (i : Nat) : List Value := (List.range D.T.length).map fun j => if j < i then strV (D.T.getD j []) else strV ((D.was j).getD (D.T.getD j []))
theorem syWas_length (D : PDk) (i : Nat) : (syWas D i).length = D.T.length := by simp [syWas]
theorem syWas_get {D : PDk} {i j : Nat} (h : j < D.T.length) : (syWas D i)[j]? = some (if j < i then strV (D.T.getD j []) else strV ((D.was j).getD (D.T.getD j []))) := by
 unfold syWas
 rw [List.getElem?_map, List.getElem?_range h]
 rfl
theorem syWas_zero (D : PDk) : syWas D 0 = wasL D := by
 unfold syWas wasL
 simp
theorem syWas_next {D : PDk} {i : Nat} : syWas D (i + 1) = (syWas D i).set i (strV (D.T.getD i [])) := by
 apply List.ext_getElem?
 intro j
 by_cases hj : j < D.T.length
 · by_cases h2 : i = j
   · subst h2
     rw [List.getElem?_set_self (by rw [syWas_length]; exact hj), syWas_get hj, if_pos (by omega)]
   · rw [List.getElem?_set_ne h2, syWas_get hj, syWas_get hj]
     congr 1
     by_cases h1 : j < i
     · rw [if_pos (by omega), if_pos h1]
     · rw [if_neg (by omega), if_neg h1]
 · rw [List.getElem?_eq_none (by rw [syWas_length]; omega), List.getElem?_eq_none (by rw [List.length_set, syWas_length]; omega)]
theorem syWas_all (D : PDk) : syWas D D.T.length = wasL { D with was := fun _ => none } := by
 apply List.ext_getElem?
 intro j
 by_cases hj : j < D.T.length
 · rw [syWas_get hj, wasL_get (D := { D with was := fun _ => none }) hj, if_pos hj]
   rfl
 · rw [List.getElem?_eq_none (by rw [syWas_length]; omega), List.getElem?_eq_none (by rw [wasL_length]; show D.T.length ≤ j; omega)]
theorem syWet_all (D : PDk) : crWet D D.T.length = wetL { D with was := fun _ => none } := by
 apply List.ext_getElem?
 intro j
 by_cases hj : j < D.T.length
 · rw [crWet_get hj, wetL_get (D := { D with was := fun _ => none }) hj, if_pos hj]
   rfl
 · rw [List.getElem?_eq_none (by rw [crWet_length]; omega), List.getElem?_eq_none (by rw [wetL_length]; show D.T.length ≤ j; omega)]
end Go.Proofs.YtojkggppcmdepaaGreat

namespace Go.Proofs.YtojkggppcmdepaaGreat
open Go.RowKit Go.Wh Go.Maps

structure RdRaw (w : World) (d n g1 o1 c1 g2 o2 c2 g3 o3 c3 : Nat) (N Wa We : List Value) (off on : Bool) (k : Int) (mv : Value) : Prop where
 cells : cellsAt w d [.slice (some ⟨g1, o1, none⟩) n c1, .slice (some ⟨g2, o2, none⟩) n c2, .slice (some ⟨g3, o3, none⟩) n c3, .bool off, .bool on, .int .i64 k, mv]
 now : VecAt w 1 g1 o1 n c1 N
 was : VecAt w 1 g2 o2 n c2 Wa
 wet : VecAt w 1 g3 o3 n c3 We
 pos : 0 < n
 d1 : d ≠ g1
 d2 : d ≠ g2
 d3 : d ≠ g3
 n12 : g1 ≠ g2
 n13 : g1 ≠ g3
 n23 : g2 ≠ g3
section
variable {w w' : World} {d n g1 o1 c1 g2 o2 c2 g3 o3 c3 : Nat} {N Wa We : List Value} {off on : Bool} {k : Int} {mv : Value} {X : Nat → Prop}
theorem RdRaw.lt1 (h : RdRaw w d n g1 o1 c1 g2 o2 c2 g3 o3 c3 N Wa We off on k mv) : g1 < w.heap.size := h.now.lt (by have := h.now.le; have := h.pos; omega)
theorem RdRaw.lt2 (h : RdRaw w d n g1 o1 c1 g2 o2 c2 g3 o3 c3 N Wa We off on k mv) : g2 < w.heap.size := h.was.lt (by have := h.was.le; have := h.pos; omega)
theorem RdRaw.lt3 (h : RdRaw w d n g1 o1 c1 g2 o2 c2 g3 o3 c3 N Wa We off on k mv) : g3 < w.heap.size := h.wet.lt (by have := h.wet.le; have := h.pos; omega)
theorem RdRaw.only (h : RdRaw w d n g1 o1 c1 g2 o2 c2 g3 o3 c3 N Wa We off on k mv) (ho : Only X w w') (x0 : ¬ X d) (x1 : ¬ X g1) (x2 : ¬ X g2) (x3 : ¬ X g3) : RdRaw w' d n g1 o1 c1 g2 o2 c2 g3 o3 c3 N Wa We off on k mv :=
 ⟨h.cells.only ho x0, h.now.block (ho.block g1 h.lt1 x1), h.was.block (ho.block g2 h.lt2 x2), h.wet.block (ho.block g3 h.lt3 x3), h.pos, h.d1, h.d2, h.d3, h.n12, h.n13, h.n23⟩
theorem RdRaw.still (h : RdRaw w d n g1 o1 c1 g2 o2 c2 g3 o3 c3 N Wa We off on k mv) (hs : Still w w') : RdRaw w' d n g1 o1 c1 g2 o2 c2 g3 o3 c3 N Wa We off on k mv := h.only hs (fun e => e) (fun e => e) (fun e => e) fun e => e
theorem VecAt.other {w : World} {size g o n cap : Nat} {xs : List Value} (h : VecAt w size g o n cap xs) {p : Addr} (hp : g ≠ p.block) (u : Value) (hl : g < w.heap.size) : VecAt (w.setCell p u) size g o n cap xs := h.block ((setCell_only w p u).block g hl hp)
theorem RdRaw.setNow (h : RdRaw w d n g1 o1 c1 g2 o2 c2 g3 o3 c3 N Wa We off on k mv) {i : Nat} (hi : i < n) (u : Value) : RdRaw (w.setCell ⟨g1, o1 + i, none⟩ u) d n g1 o1 c1 g2 o2 c2 g3 o3 c3 (N.set i u) Wa We off on k mv :=
 ⟨h.cells.setOther h.d1 u, h.now.set i (by omega) u, VecAt.other h.was h.n12.symm u h.lt2, VecAt.other h.wet h.n13.symm u h.lt3, h.pos, h.d1, h.d2, h.d3, h.n12, h.n13, h.n23⟩
theorem RdRaw.setWas (h : RdRaw w d n g1 o1 c1 g2 o2 c2 g3 o3 c3 N Wa We off on k mv) {i : Nat} (hi : i < n) (u : Value) : RdRaw (w.setCell ⟨g2, o2 + i, none⟩ u) d n g1 o1 c1 g2 o2 c2 g3 o3 c3 N (Wa.set i u) We off on k mv :=
 ⟨h.cells.setOther h.d2 u, VecAt.other h.now h.n12 u h.lt1, h.was.set i (by omega) u, VecAt.other h.wet h.n23.symm u h.lt3, h.pos, h.d1, h.d2, h.d3, h.n12, h.n13, h.n23⟩
theorem RdRaw.setWet (h : RdRaw w d n g1 o1 c1 g2 o2 c2 g3 o3 c3 N Wa We off on k mv) {i : Nat} (hi : i < n) (u : Value) : RdRaw (w.setCell ⟨g3, o3 + i, none⟩ u) d n g1 o1 c1 g2 o2 c2 g3 o3 c3 N Wa (We.set i u) off on k mv :=
 ⟨h.cells.setOther h.d3 u, VecAt.other h.now h.n13 u h.lt1, VecAt.other h.was h.n23 u h.lt2, h.wet.set i (by omega) u, h.pos, h.d1, h.d2, h.d3, h.n12, h.n13, h.n23⟩
theorem RdRaw.setD (h : RdRaw w d n g1 o1 c1 g2 o2 c2 g3 o3 c3 N Wa We off on k mv) {off' on' : Bool} {k' : Int} {mv' : Value} (j : Nat) (u : Value)
 (hc : [.slice (some ⟨g1, o1, none⟩) n c1, .slice (some ⟨g2, o2, none⟩) n c2, .slice (some ⟨g3, o3, none⟩) n c3, .bool off, .bool on, .int .i64 k, mv].set j u = [.slice (some ⟨g1, o1, none⟩) n c1, .slice (some ⟨g2, o2, none⟩) n c2, .slice (some ⟨g3, o3, none⟩) n c3, .bool off', .bool on', .int .i64 k', mv']) :
 RdRaw (w.setCell ⟨d, j, none⟩ u) d n g1 o1 c1 g2 o2 c2 g3 o3 c3 N Wa We off' on' k' mv' :=
 ⟨by rw [← hc]; exact h.cells.setCell j u, VecAt.other h.now h.d1.symm u h.lt1, VecAt.other h.was h.d2.symm u h.lt2, VecAt.other h.wet h.d3.symm u h.lt3, h.pos, h.d1, h.d2, h.d3, h.n12, h.n13, h.n23⟩
end
def RMu (d g1 g2 g3 g : Nat) : Prop := g = d ∨ g = g1 ∨ g = g2 ∨ g = g3
structure RdAt (A : Nat → Prop) (w : World) (d : Nat) (D : PDk) (g1 o1 c1 g2 o2 c2 g3 o3 c3 : Nat) (k : Int) (mv : Value) : Prop where
 raw : RdRaw w d D.T.length g1 o1 c1 g2 o2 c2 g3 o3 c3 (nowL D) (wasL D) (wetL D) D.dead D.plan.isSome k mv
 pl : ∀ k' mask, D.plan = some (k', mask) → k = k' ∧ Sl w (fun g => A g ∧ ¬ RMu d g1 g2 g3 g) 1 mv mask.length (bc mask) ∧ Byt mask
 mf : ∃ a m c, mv = .slice a m c
 mu : ∀ g, RMu d g1 g2 g3 g → A g
 lt : ∀ g, A g → g < w.heap.size
def RdX (A : Nat → Prop) (d : Nat) (D : PDk) (w : World) : Prop := ∃ g1 o1 c1 g2 o2 c2 g3 o3 c3 k mv, RdAt A w d D g1 o1 c1 g2 o2 c2 g3 o3 c3 k mv
section
variable {A X : Nat → Prop} {w w' : World} {d g1 o1 c1 g2 o2 c2 g3 o3 c3 : Nat} {D : PDk} {k : Int} {mv : Value}
theorem RdAt.only (h : RdAt A w d D g1 o1 c1 g2 o2 c2 g3 o3 c3 k mv) (ho : Only X w w') (hx : ∀ g, A g → ¬ X g) : RdAt A w' d D g1 o1 c1 g2 o2 c2 g3 o3 c3 k mv :=
 ⟨h.raw.only ho (hx _ (h.mu _ (.inl rfl))) (hx _ (h.mu _ (.inr (.inl rfl)))) (hx _ (h.mu _ (.inr (.inr (.inl rfl))))) (hx _ (h.mu _ (.inr (.inr (.inr rfl))))),
  fun k' mask hp => by
   obtain ⟨e, h1, h2⟩ := h.pl k' mask hp
   exact ⟨e, h1.only ho fun g hg => hx g hg.1, h2⟩, h.mf, h.mu, fun g hg => Nat.lt_of_lt_of_le (h.lt g hg) ho.size⟩
theorem RdAt.still (h : RdAt A w d D g1 o1 c1 g2 o2 c2 g3 o3 c3 k mv) (hs : Still w w') : RdAt A w' d D g1 o1 c1 g2 o2 c2 g3 o3 c3 k mv := h.only hs fun _ _ e => e
theorem RdX.only (h : RdX A d D w) (ho : Only X w w') (hx : ∀ g, A g → ¬ X g) : RdX A d D w' := by
 obtain ⟨g1, o1, c1, g2, o2, c2, g3, o3, c3, k, mv, h⟩ := h
 exact ⟨g1, o1, c1, g2, o2, c2, g3, o3, c3, k, mv, h.only ho hx⟩
theorem RdX.still (h : RdX A d D w) (hs : Still w w') : RdX A d D w' := h.only hs fun _ _ e => e
theorem RdAt.turn {D' : PDk} {k' : Int} (h : RdAt A w d D g1 o1 c1 g2 o2 c2 g3 o3 c3 k mv) (hr : RdRaw w' d D'.T.length g1 o1 c1 g2 o2 c2 g3 o3 c3 (nowL D') (wasL D') (wetL D') D'.dead D'.plan.isSome k' mv) (ho : Only (RMu d g1 g2 g3) w w')
 (hp : ∀ k2 mask, D'.plan = some (k2, mask) → k' = k2 ∧ ∃ k1, D.plan = some (k1, mask)) : RdAt A w' d D' g1 o1 c1 g2 o2 c2 g3 o3 c3 k' mv :=
 ⟨hr, fun k2 mask e => by
  obtain ⟨e1, k1, e2⟩ := hp k2 mask e
  obtain ⟨_, h1, h2⟩ := h.pl k1 mask e2
  exact ⟨e1, h1.only ho fun g hg e => hg.2 e, h2⟩, h.mf, h.mu, fun g hg => Nat.lt_of_lt_of_le (h.lt g hg) ho.size⟩
end
def RkPost (A : Nat → Prop) (w : World) (d : Nat) (D' : PDk) (v : Value) (e : Ending) (w' : World) : Prop := e = .returned v ∧ RdX A d D' w' ∧ Only A w w'
set_option maxRecDepth 100000 in
theorem rdcut_at {A : Nat → Prop} {w : World} {d g1 o1 c1 g2 o2 c2 g3 o3 c3 : Nat} {D : PDk} {k : Int} {mv : Value} (h : RdAt A w d D g1 o1 c1 g2 o2 c2 g3 o3 c3 k mv) (hf : D.fine) :
 Calls Tryz.prog 51 #[.pointer (some ⟨d, 0, none⟩)] w (fun e w' => e = .returned (.bool D.cuts) ∧ (∃ k', RdAt A w' d D.less g1 o1 c1 g2 o2 c2 g3 o3 c3 k' mv) ∧ Only (RMu d g1 g2 g3) w w') := by
 have c4 : w.cell? ⟨d, 4, none⟩ = some (.bool D.plan.isSome) := h.raw.cells.cell 4
 have c5 : w.cell? ⟨d, 5, none⟩ = some (.int .i64 k) := h.raw.cells.cell 5
 have f5 := h.raw.cells.free 5
 cases hp : D.plan with
 | none =>
  rw [hp] at c4
  have F := Lib.hid (show Ending.returned (.bool false) = .returned (.bool D.cuts) ∧ (∃ k', RdAt A w d D.less g1 o1 c1 g2 o2 c2 g3 o3 c3 k' mv) ∧ Only (RMu d g1 g2 g3) w w from by
   have e1 : D.cuts = false := by unfold PDk.cuts; rw [hp]
   have e2 : D.less = D := by unfold PDk.less; rw [hp]; cases D; simp_all
   rw [e1, e2]
   exact ⟨rfl, ⟨k, h⟩, Only.refl _ _⟩)
  clear h hf hp
  go_enter Tryz.func51, Tryz.ntmps51
  go_wp2_with fail
  go_ret
  exact F.out
 | some p =>
  obtain ⟨k1, mask⟩ := p
  rw [hp] at c4
  obtain ⟨rfl, -, -⟩ := h.pl k1 mask hp
  have hk := hf k mask hp
  have u1 : IntKind.i64.wrap (k - 1) = k - 1 := IntWalk.i64_in _ (by omega)
  obtain ⟨q, hq⟩ : ∃ q, decide (k - 1 < 0) = q := ⟨_, rfl⟩
  have F := Lib.hid (show Ending.returned (.bool q) = .returned (.bool D.cuts) ∧ (∃ k', RdAt A (w.setCell ⟨d, 5, none⟩ (.int .i64 (k - 1))) d D.less g1 o1 c1 g2 o2 c2 g3 o3 c3 k' mv) ∧ Only (RMu d g1 g2 g3) w (w.setCell ⟨d, 5, none⟩ (.int .i64 (k - 1))) from by
   have e1 : D.cuts = q := by unfold PDk.cuts; rw [hp]; exact hq
   have ep : D.less.plan = some (k - 1, mask) := by unfold PDk.less; rw [hp]; rfl
   have ho : Only (RMu d g1 g2 g3) w (w.setCell ⟨d, 5, none⟩ (.int .i64 (k - 1))) := (setCell_only w _ _).mono fun g e => .inl e
   rw [e1]
   refine ⟨rfl, ⟨k - 1, h.turn ?_ ho fun k2 m2 e => ?_⟩, ho⟩
   · have hr := h.raw.setD (off' := D.dead) (on' := true) (k' := k - 1) (mv' := mv) 5 (.int .i64 (k - 1)) (by rw [hp]; rfl)
     have e2 : D.less.plan.isSome = true := by rw [ep]; rfl
     rw [e2]
     exact hr
   · rw [ep] at e
     injection e with e
     injection e with e1 e2
     exact ⟨e1, k, by rw [← e2]; exact hp⟩)
  clear h hf hp hk
  go_enter Tryz.func51, Tryz.ntmps51
  go_wp2_with fail
  go_ret
  exact F.out
end Go.Proofs.YtojkggppcmdepaaGreat

namespace Go.Proofs.YtojkggppcmdepaaGreat
open Go.RowKit Go.Wh Go.Maps

theorem mskB_eq {mask : List Int} {r q : Nat} {z : Int} (hz : mask[r / 8]? = some z) (hq : r % 8 = q) : mskB mask r = (z / 2 ^ q % 2 != 0) := by
 have hl := (List.getElem?_eq_some_iff.1 hz).1
 unfold mskB
 rw [decide_eq_true hl, Bool.true_and, List.getD_eq_getElem?_getD, hz, hq]
 rfl
set_option maxHeartbeats 4000000 in
set_option maxRecDepth 100000 in
theorem rdcrash_at {A Q : Nat → Prop} {w : World} {d g1 o1 c1 g2 o2 c2 g3 o3 c3 : Nat} {D : PDk} {k : Int} {mv : Value} (h : RdAt A w d D g1 o1 c1 g2 o2 c2 g3 o3 c3 k mv) (hT : D.T.length ≤ 2000) (ma : Option Addr) (m mc : Nat) (mask : List Int)
 (hm : 0 < m → Sl w Q 1 (.slice ma m mc) m (bc mask)) (hq : ∀ g, Q g → ¬ RMu d g1 g2 g3 g) (hl : mask.length = m) (hb : Byt mask) :
 Calls Tryz.prog 22 #[.pointer (some ⟨d, 0, none⟩), .slice ma m mc] w (fun e w' => e = .returned (.tuple #[]) ∧ RdAt A w' d (D.crash mask) g1 o1 c1 g2 o2 c2 g3 o3 c3 k mv ∧ Only (RMu d g1 g2 g3) w w') := by
 have H := Lib.hid (And.intro h (And.intro hm (And.intro hq (And.intro hl hb))))
 obtain ⟨n, hn⟩ : ∃ n, D.T.length = n := ⟨_, rfl⟩
 have HN := Lib.hid (And.intro hn (show n ≤ 2000 by omega))
 have HST := Lib.hid (show RdRaw w d n g1 o1 c1 g2 o2 c2 g3 o3 c3 ((crT D mask 0).map strV) (crWas D mask 0) (crWet D 0) D.dead D.plan.isSome k mv ∧ Only (RMu d g1 g2 g3) w w from by
  have := h.raw
  rw [hn] at this
  rw [crWas_zero, crWet_zero]
  exact ⟨this, Only.refl _ _⟩)
 have hk0 : rank D 0 = 0 := rfl
 have HK0 := Lib.hid hk0
 clear h hm hq hl hb hT hn hk0
 go_enter Tryz.func22, Tryz.ntmps22
 go_wp2_with fail
 go_loopw [4, 5] (fun s4 s5 wr => ∃ i : Nat, s5 = .int .i64 i ∧ s4 = .int .i64 (rank D i : Nat) ∧ i ≤ n ∧ RdRaw wr d n g1 o1 c1 g2 o2 c2 g3 o3 c3 ((crT D mask i).map strV) (crWas D mask i) (crWet D i) D.dead D.plan.isSome k mv ∧ Only (RMu d g1 g2 g3) w wr) (fun _ s5 _ => n - (intOf s5).toNat)
 case atStart => exact ⟨0, rfl, by rw [HK0.out]; rfl, Nat.zero_le _, HST.out.1, HST.out.2⟩
 clear HST
 obtain ⟨i, rfl, rfl, hin, hraw, ho⟩ := hrel
 have HR := Lib.hid (And.intro hraw (And.intro ho hin))
 have e0 : wr.cell? ⟨d, 0, none⟩ = some (.slice (some ⟨g1, o1, none⟩) n c1) := hraw.cells.cell 0
 have hrk := rank_le D i
 obtain ⟨r, hr⟩ : ∃ r, rank D i = r := ⟨_, rfl⟩
 have HRK := Lib.hid (And.intro hr (show r ≤ 2000 by have := HN.out; omega))
 rw [hr]
 have u1 : IntKind.i64.wrap ((i : Int) + 1) = (i : Int) + 1 := IntWalk.i64_in _ (by have := HN.out; omega)
 have u2 : IntKind.i64.wrap ((r : Int) + 1) = (r : Int) + 1 := IntWalk.i64_in _ (by have := HN.out; omega)
 by_cases hi : i < n
 rotate_left
 · have d1 : decide ((i : Int) < (n : Int)) = false := decide_eq_false (by omega)
   have d2 : decide (i < n) = false := decide_eq_false hi
   have f3 := hraw.cells.free 3
   have f4 := hraw.cells.free 4
   have e3 : wr.cell? ⟨d, 3, none⟩ = some (.bool D.dead) := hraw.cells.cell 3
   have e4 : wr.cell? ⟨d, 4, none⟩ = some (.bool D.plan.isSome) := hraw.cells.cell 4
   have F := Lib.hid (show RdAt A ((wr.setCell ⟨d, 4, none⟩ (.bool false)).setCell ⟨d, 3, none⟩ (.bool true)) d (D.crash mask) g1 o1 c1 g2 o2 c2 g3 o3 c3 k mv ∧ Only (RMu d g1 g2 g3) w ((wr.setCell ⟨d, 4, none⟩ (.bool false)).setCell ⟨d, 3, none⟩ (.bool true)) from by
    have hie : i = D.T.length := by have := HN.out.1; omega
    have ho2 : Only (RMu d g1 g2 g3) w ((wr.setCell ⟨d, 4, none⟩ (.bool false)).setCell ⟨d, 3, none⟩ (.bool true)) := (ho.setCell (p := ⟨d, 4, none⟩) (.inl (.inl rfl)) _).setCell (p := ⟨d, 3, none⟩) (.inl (.inl rfl)) _
    refine ⟨H.out.1.turn ?_ ho2 (fun k2 m2 e => by cases e), ho2⟩
    have hr2 := (hraw.setD (off' := D.dead) (on' := false) (k' := k) (mv' := mv) 4 (.bool false) rfl).setD (off' := true) (on' := false) (k' := k) (mv' := mv) 3 (.bool true) rfl
    rw [hie, crWas_all, crWet_all, ← HN.out.1] at hr2
    have hl2 : (D.crash mask).T.length = D.T.length := by rw [crT_all, crT_length]
    rw [hl2]
    exact hr2)
   clear hraw ho hin hr hrk hi
   go_wp2_with fail
   go_end0
   exact ⟨rfl, F.out⟩
 have d1 : decide ((i : Int) < (n : Int)) = true := decide_eq_true (by omega)
 have d2 : decide (i < n) = true := decide_eq_true hi
 have i0 : (0 : Int) ≤ (i : Int) := by omega
 have i1 : (i : Int) < (n : Int) := by omega
 have e2 : wr.cell? ⟨d, 2, none⟩ = some (.slice (some ⟨g3, o3, none⟩) n c3) := hraw.cells.cell 2
 have ew : wr.cell? ⟨g3, o3 + i, none⟩ = some (.bool (D.was i).isSome) := by
  rw [hraw.wet.cell i (by omega), crWet_get (by have := HN.out.1; omega), if_neg (by omega)]
 have HI := Lib.hid hi
 cases hw : (D.was i).isSome with
 | false =>
  rw [hw] at ew
  have HNX := Lib.hid (show RdRaw wr d n g1 o1 c1 g2 o2 c2 g3 o3 c3 ((crT D mask (i + 1)).map strV) (crWas D mask (i + 1)) (crWet D (i + 1)) D.dead D.plan.isSome k mv ∧ rank D (i + 1) = r from by
   rw [crT_dry hw, crWas_dry hw, crWet_dry hw, rank_succ, if_neg (by rw [hw]; simp)]
   exact ⟨hraw, hr⟩)
  clear hraw ho hin hr hrk hi hw
  go_wp2_with fail
  go_roundw
  case rel => exact ⟨i + 1, by go_num, by rw [HNX.out.2], by have := HI.out; omega, HNX.out.1, HR.out.2.1⟩
  case measure => first | (simp [intOf]; done) | (simp [intOf]; have := HI.out; omega)
 | true =>
  rw [hw] at ew
  obtain ⟨l, hl⟩ := Option.isSome_iff_exists.1 hw
  have HW := Lib.hid (And.intro hw hl)
  -- the bit of the mask
  obtain ⟨q, hq⟩ : ∃ q, r / 8 = q := ⟨_, rfl⟩
  obtain ⟨t, ht⟩ : ∃ t, r % 8 = t := ⟨_, rfl⟩
  have k0 : (0 : Int) ≤ (r : Int) := by omega
  have k1 : (r : Int) / 8 = (q : Int) := by omega
  have k2 : (r : Int) % 8 = (t : Int) := by omega
  have k3 : IntKind.i64.wrap (q : Int) = (q : Int) := IntWalk.i64_in _ (by have := HRK.out; omega)
  have k4 : (0 : Int) ≤ (t : Int) := by omega
  have k5 : (0 : Int) ≤ (q : Int) := by omega
  have ht8 : t < 8 := by omega
  obtain ⟨l', hl'⟩ : ∃ l', (crT D mask (i + 1)).getD i [] = l' := ⟨_, rfl⟩
  -- Was and Wet turn
  have HR7 := Lib.hid (fun w' (h7 : RdRaw w' d n g1 o1 c1 g2 o2 c2 g3 o3 c3 ((crT D mask (i + 1)).map strV) (crWas D mask i) (crWet D i) D.dead D.plan.isSome k mv) (ho7 : Only (RMu d g1 g2 g3) w w') => show RdRaw ((w'.setCell ⟨g2, o2 + i, none⟩ (Value.string (strOfNums l'))).setCell ⟨g3, o3 + i, none⟩ (.bool false)).drew d n g1 o1 c1 g2 o2 c2 g3 o3 c3 ((crT D mask (i + 1)).map strV) (crWas D mask (i + 1)) (crWet D (i + 1)) D.dead D.plan.isSome k mv ∧ Only (RMu d g1 g2 g3) w ((w'.setCell ⟨g2, o2 + i, none⟩ (Value.string (strOfNums l'))).setCell ⟨g3, o3 + i, none⟩ (.bool false)).drew from by
   rw [crWas_wet, crWet_wet, hl']
   exact ⟨((h7.setWas hi _).setWet hi _).still (still_drew _), ((ho7.setCell (p := ⟨g2, o2 + i, none⟩) (.inl (.inr (.inr (.inl rfl)))) _).setCell (p := ⟨g3, o3 + i, none⟩) (.inl (.inr (.inr (.inr rfl)))) _).trans ((still_drew _).mono fun _ e => e.elim)⟩)
  have HR7' := Lib.hid (fun w' (h7 : RdRaw w' d n g1 o1 c1 g2 o2 c2 g3 o3 c3 ((crT D mask (i + 1)).map strV) (crWas D mask i) (crWet D i) D.dead D.plan.isSome k mv) (ho7 : Only (RMu d g1 g2 g3) w w') => show RdRaw ((w'.setCell ⟨g3, o3 + i, none⟩ (.bool false)).setCell ⟨g2, o2 + i, none⟩ (Value.string (strOfNums l'))).drew d n g1 o1 c1 g2 o2 c2 g3 o3 c3 ((crT D mask (i + 1)).map strV) (crWas D mask (i + 1)) (crWet D (i + 1)) D.dead D.plan.isSome k mv ∧ Only (RMu d g1 g2 g3) w ((w'.setCell ⟨g3, o3 + i, none⟩ (.bool false)).setCell ⟨g2, o2 + i, none⟩ (Value.string (strOfNums l'))).drew from by
   rw [crWas_wet, crWet_wet, hl']
   exact ⟨((h7.setWet hi _).setWas hi _).still (still_drew _), ((ho7.setCell (p := ⟨g3, o3 + i, none⟩) (.inl (.inr (.inr (.inr rfl)))) _).setCell (p := ⟨g2, o2 + i, none⟩) (.inl (.inr (.inr (.inl rfl)))) _).trans ((still_drew _).mono fun _ e => e.elim)⟩)
  have HNR := Lib.hid (show rank D (i + 1) = r + 1 from by rw [rank_succ, if_pos hw, hr])
  have hS7 : ∀ w' Wa We, RdRaw w' d n g1 o1 c1 g2 o2 c2 g3 o3 c3 ((crT D mask (i + 1)).map strV) Wa We D.dead D.plan.isSome k mv → (w'.cell? ⟨d, 0, none⟩ = some (.slice (some ⟨g1, o1, none⟩) n c1) ∧ w'.cell? ⟨d, 1, none⟩ = some (.slice (some ⟨g2, o2, none⟩) n c2) ∧ w'.cell? ⟨d, 2, none⟩ = some (.slice (some ⟨g3, o3, none⟩) n c3) ∧ w'.cell? ⟨g1, o1 + i, none⟩ = some (.string (strOfNums l'))) := fun w' Wa We h7 => by
   have hnl := HN.out.1
   refine ⟨h7.cells.cell 0, h7.cells.cell 1, h7.cells.cell 2, ?_⟩
   rw [h7.now.cell i (by omega), List.getElem?_map, List.getElem?_eq_getElem (by rw [crT_length]; omega)]
   have : (crT D mask (i + 1))[i]'(by rw [crT_length]; omega) = l' := by
    rw [← hl', List.getD_eq_getElem?_getD, List.getElem?_eq_getElem (by rw [crT_length]; omega)]
    rfl
   rw [this]
   rfl
  have HC7 := Lib.hid (fun w' (h7 : RdRaw w' d n g1 o1 c1 g2 o2 c2 g3 o3 c3 ((crT D mask (i + 1)).map strV) (crWas D mask i) (crWet D i) D.dead D.plan.isSome k mv) => show (w'.cell? ⟨d, 0, none⟩ = some (.slice (some ⟨g1, o1, none⟩) n c1) ∧ w'.cell? ⟨d, 1, none⟩ = some (.slice (some ⟨g2, o2, none⟩) n c2) ∧ w'.cell? ⟨d, 2, none⟩ = some (.slice (some ⟨g3, o3, none⟩) n c3) ∧ w'.cell? ⟨g1, o1 + i, none⟩ = some (.string (strOfNums l'))) ∧ ((w'.setCell ⟨g2, o2 + i, none⟩ (Value.string (strOfNums l'))).drew.cell? ⟨d, 0, none⟩ = some (.slice (some ⟨g1, o1, none⟩) n c1) ∧ (w'.setCell ⟨g2, o2 + i, none⟩ (Value.string (strOfNums l'))).drew.cell? ⟨d, 1, none⟩ = some (.slice (some ⟨g2, o2, none⟩) n c2) ∧ (w'.setCell ⟨g2, o2 + i, none⟩ (Value.string (strOfNums l'))).drew.cell? ⟨d, 2, none⟩ = some (.slice (some ⟨g3, o3, none⟩) n c3) ∧ (w'.setCell ⟨g2, o2 + i, none⟩ (Value.string (strOfNums l'))).drew.cell? ⟨g1, o1 + i, none⟩ = some (.string (strOfNums l'))) ∧ ((w'.setCell ⟨g3, o3 + i, none⟩ (.bool false)).drew.cell? ⟨d, 0, none⟩ = some (.slice (some ⟨g1, o1, none⟩) n c1) ∧ (w'.setCell ⟨g3, o3 + i, none⟩ (.bool false)).drew.cell? ⟨d, 1, none⟩ = some (.slice (some ⟨g2, o2, none⟩) n c2) ∧ (w'.setCell ⟨g3, o3 + i, none⟩ (.bool false)).drew.cell? ⟨d, 2, none⟩ = some (.slice (some ⟨g3, o3, none⟩) n c3) ∧ (w'.setCell ⟨g3, o3 + i, none⟩ (.bool false)).drew.cell? ⟨g1, o1 + i, none⟩ = some (.string (strOfNums l'))) ∧ (((w'.setCell ⟨g2, o2 + i, none⟩ (Value.string (strOfNums l'))).setCell ⟨g3, o3 + i, none⟩ (.bool false)).drew.cell? ⟨d, 0, none⟩ = some (.slice (some ⟨g1, o1, none⟩) n c1) ∧ ((w'.setCell ⟨g2, o2 + i, none⟩ (Value.string (strOfNums l'))).setCell ⟨g3, o3 + i, none⟩ (.bool false)).drew.cell? ⟨d, 1, none⟩ = some (.slice (some ⟨g2, o2, none⟩) n c2) ∧ ((w'.setCell ⟨g2, o2 + i, none⟩ (Value.string (strOfNums l'))).setCell ⟨g3, o3 + i, none⟩ (.bool false)).drew.cell? ⟨d, 2, none⟩ = some (.slice (some ⟨g3, o3, none⟩) n c3) ∧ ((w'.setCell ⟨g2, o2 + i, none⟩ (Value.string (strOfNums l'))).setCell ⟨g3, o3 + i, none⟩ (.bool false)).drew.cell? ⟨g1, o1 + i, none⟩ = some (.string (strOfNums l'))) ∧ (((w'.setCell ⟨g3, o3 + i, none⟩ (.bool false)).setCell ⟨g2, o2 + i, none⟩ (Value.string (strOfNums l'))).drew.cell? ⟨d, 0, none⟩ = some (.slice (some ⟨g1, o1, none⟩) n c1) ∧ ((w'.setCell ⟨g3, o3 + i, none⟩ (.bool false)).setCell ⟨g2, o2 + i, none⟩ (Value.string (strOfNums l'))).drew.cell? ⟨d, 1, none⟩ = some (.slice (some ⟨g2, o2, none⟩) n c2) ∧ ((w'.setCell ⟨g3, o3 + i, none⟩ (.bool false)).setCell ⟨g2, o2 + i, none⟩ (Value.string (strOfNums l'))).drew.cell? ⟨d, 2, none⟩ = some (.slice (some ⟨g3, o3, none⟩) n c3) ∧ ((w'.setCell ⟨g3, o3 + i, none⟩ (.bool false)).setCell ⟨g2, o2 + i, none⟩ (Value.string (strOfNums l'))).drew.cell? ⟨g1, o1 + i, none⟩ = some (.string (strOfNums l'))) ∧ (∃ u, w'.cell? ⟨g2, o2 + i, none⟩ = some u) ∧ (∃ u, w'.cell? ⟨g3, o3 + i, none⟩ = some u) ∧ w'.frozen? ⟨g2, o2 + i, none⟩ = false ∧ w'.frozen? ⟨g3, o3 + i, none⟩ = false from by
   have hnl := HN.out.1
   refine ⟨hS7 _ _ _ h7, hS7 _ _ _ ((h7.setWas hi _).still (still_drew _)), hS7 _ _ _ ((h7.setWet hi _).still (still_drew _)), hS7 _ _ _ (((h7.setWas hi _).setWet hi _).still (still_drew _)), hS7 _ _ _ (((h7.setWet hi _).setWas hi _).still (still_drew _)), ⟨_, (h7.was.cell i (by omega)).trans (List.getElem?_eq_getElem (by rw [crWas_length]; omega))⟩, ⟨_, (h7.wet.cell i (by omega)).trans (List.getElem?_eq_getElem (by rw [crWet_length]; omega))⟩, h7.was.free i (by omega), h7.wet.free i (by omega)⟩)
  clear hS7
  -- Now turns where the bit is nought
  have HR6 := Lib.hid (show mskB mask r = false → RdRaw (wr.setCell ⟨g1, o1 + i, none⟩ (Value.string (strOfNums l))).drew d n g1 o1 c1 g2 o2 c2 g3 o3 c3 ((crT D mask (i + 1)).map strV) (crWas D mask i) (crWet D i) D.dead D.plan.isSome k mv from fun e => by
   rw [crT_wet hw, hr, if_neg (by rw [e]; simp), hl, Option.getD_some, List.map_set]
   exact (hraw.setNow hi _).still (still_drew _))
  have HR6' := Lib.hid (show mskB mask r = true → RdRaw wr d n g1 o1 c1 g2 o2 c2 g3 o3 c3 ((crT D mask (i + 1)).map strV) (crWas D mask i) (crWet D i) D.dead D.plan.isSome k mv from fun e => by
   rw [crT_wet hw, hr, if_pos e]
   exact hraw)
  have HO6 := Lib.hid (show Only (RMu d g1 g2 g3) w (wr.setCell ⟨g1, o1 + i, none⟩ (Value.string (strOfNums l))).drew from (ho.setCell (p := ⟨g1, o1 + i, none⟩) (.inl (.inr (.inl rfl))) _).trans ((still_drew _).mono fun _ e => e.elim))
  have x1 : wr.cell? ⟨d, 1, none⟩ = some (.slice (some ⟨g2, o2, none⟩) n c2) := hraw.cells.cell 1
  have x2 : wr.cell? ⟨g2, o2 + i, none⟩ = some (.string (strOfNums l)) := by
   rw [hraw.was.cell i (by omega), crWas_get (by have := HN.out.1; omega), if_neg (by omega), hl]
   rfl
  have SK6 := Lib.hid (show (wr.setCell ⟨g1, o1 + i, none⟩ (Value.string (strOfNums l))).drew.cell? ⟨d, 0, none⟩ = some (.slice (some ⟨g1, o1, none⟩) n c1) ∧ (wr.setCell ⟨g1, o1 + i, none⟩ (Value.string (strOfNums l))).drew.cell? ⟨d, 1, none⟩ = some (.slice (some ⟨g2, o2, none⟩) n c2) ∧ (wr.setCell ⟨g1, o1 + i, none⟩ (Value.string (strOfNums l))).drew.cell? ⟨g2, o2 + i, none⟩ = some (Value.string (strOfNums l)) from by
   have h6 := (hraw.setNow hi (Value.string (strOfNums l))).still (still_drew _)
   refine ⟨h6.cells.cell 0, h6.cells.cell 1, ?_⟩
   rw [h6.was.cell i (by omega), crWas_get (by have := HN.out.1; omega), if_neg (by omega), hl]
   rfl)
  have x3 : ∃ u, wr.cell? ⟨g1, o1 + i, none⟩ = some u := ⟨_, (hraw.now.cell i (by omega)).trans (List.getElem?_eq_getElem (by rw [List.length_map, crT_length]; have := HN.out.1; omega))⟩
  obtain ⟨u3, x3⟩ := x3
  have x4 := hraw.now.free i (by omega)
  have HNE := Lib.hid (show d ≠ g1 ∧ d ≠ g2 ∧ d ≠ g3 ∧ g1 ≠ g2 ∧ g1 ≠ g3 ∧ g2 ≠ g3 from ⟨hraw.d1, hraw.d2, hraw.d3, hraw.n12, hraw.n13, hraw.n23⟩)
  have HQ := Lib.hid (And.intro hq ht)
  have hmz : q < m → ∃ g o z, ma = some ⟨g, o, none⟩ ∧ mask[q]? = some z ∧ (0 ≤ z ∧ z ≤ 255) ∧ wr.cell? ⟨g, o + q, none⟩ = some (.int .u8 z) := fun hqm => by
   obtain ⟨g, o, c', hg, -, -, hcs⟩ := ((H.out.2.1 (by omega)).only ho H.out.2.2.1).pos (by omega)
   obtain ⟨z, hz⟩ : ∃ z, mask[q]? = some z := ⟨_, List.getElem?_eq_getElem (by have := H.out.2.2.2.1; omega)⟩
   cases hg
   exact ⟨g, o, z, rfl, hz, H.out.2.2.2.2 z (List.mem_of_getElem? hz), hcs q _ (bc_get hz)⟩
  clear hraw ho hin hr hrk hi hw hl hq ht hl'
  by_cases hqm : q < m
  · obtain ⟨g, o, z, rfl, hz, hzb, cz⟩ := hmz hqm
    have d3 : decide ((m : Int) ≤ (q : Int)) = false := decide_eq_false (by omega)
    have d4 : decide (m ≤ q) = false := decide_eq_false (by omega)
    have l0 : (0 : Int) ≤ (q : Int) := by omega
    have l1 : (q : Int) < (m : Int) := by omega
    have e5 := u8_bit (r := t) hzb
    have hmb : mskB mask r = (z / 2 ^ t % 2 != 0) := mskB_eq (by rw [HQ.out.1]; exact hz) HQ.out.2
    have HMB := Lib.hid hmb
    obtain ⟨b, hb⟩ : ∃ b : Int, z / 2 ^ t % 2 = b := ⟨_, rfl⟩
    clear hmz hz hzb hmb hqm
    by_cases hb0 : b = 0
    · have HB0 := Lib.hid (show mskB mask r = false from by rw [HMB.out, hb, hb0]; rfl)
      rw [hb0] at hb
      rw [hb] at e5
      clear hb0 HMB
      have H6 := Lib.hid (And.intro (HR6.out HB0.out) HO6.out)
      clear HR6 HR6' HO6
      obtain ⟨ne1, ne2, ne3, ne4, ne5, ne6⟩ := HNE.out
      go_wp2_with fail
      go_region_held3 (fun w' => w'.cell? ⟨d, 0, none⟩ = some (.slice (some ⟨g1, o1, none⟩) n c1) ∧ w'.cell? ⟨d, 1, none⟩ = some (.slice (some ⟨g2, o2, none⟩) n c2) ∧ w'.cell? ⟨g2, o2 + i, none⟩ = some (.string (strOfNums l))) (first | exact ⟨e0, x1, x2⟩ | exact SK6.out) (fail)
      clear SK6 e0 x1 x2 x3 x4 ew e2
      generalize (wr.setCell ⟨g1, o1 + i, none⟩ (Value.string (strOfNums l))).drew = w6 at *
      obtain ⟨⟨y0, y1, y2, y3⟩, HS2, HS3, HS4, HS5, ⟨u2, y4⟩, ⟨u4, y5⟩, y6, y7⟩ := HC7.out _ H6.out.1
      replace HS2 := Lib.hid HS2
      replace HS3 := Lib.hid HS3
      replace HS4 := Lib.hid HS4
      replace HS5 := Lib.hid HS5
      go_wp2_with fail
      go_region_held3 (fun w' => w'.cell? ⟨d, 0, none⟩ = some (.slice (some ⟨g1, o1, none⟩) n c1) ∧ w'.cell? ⟨d, 1, none⟩ = some (.slice (some ⟨g2, o2, none⟩) n c2) ∧ w'.cell? ⟨d, 2, none⟩ = some (.slice (some ⟨g3, o3, none⟩) n c3) ∧ w'.cell? ⟨g1, o1 + i, none⟩ = some (.string (strOfNums l'))) (first | exact ⟨y0, y1, y2, y3⟩ | exact HS2.out | exact HS3.out | exact HS4.out | exact HS5.out) (fail)
      all_goals go_wp2_with fail
      all_goals go_roundw
      case rel => exact ⟨i + 1, by go_num, by rw [HNR.out]; go_num, by have := HI.out; omega, (HR7.out _ H6.out.1 H6.out.2).1, (HR7.out _ H6.out.1 H6.out.2).2⟩
      case measure => first | (simp [intOf]; done) | (simp [intOf]; have := HI.out; omega)
    · have HB1 := Lib.hid (show mskB mask r = true from by rw [HMB.out, hb]; simp [hb0])
      rw [hb] at e5
      have d5 : decide (b = 0) = false := decide_eq_false hb0
      clear HMB
      have H6 := Lib.hid (And.intro (HR6'.out HB1.out) HR.out.2.1)
      clear HR6 HR6' HO6 SK6
      obtain ⟨⟨y0, y1, y2, y3⟩, HS2, HS3, HS4, HS5, ⟨u2, y4⟩, ⟨u4, y5⟩, y6, y7⟩ := HC7.out _ H6.out.1
      replace HS2 := Lib.hid HS2
      replace HS3 := Lib.hid HS3
      replace HS4 := Lib.hid HS4
      replace HS5 := Lib.hid HS5
      obtain ⟨ne1, ne2, ne3, ne4, ne5, ne6⟩ := HNE.out
      go_wp2_with fail
      go_region_held3 (fun w' => w'.cell? ⟨d, 0, none⟩ = some (.slice (some ⟨g1, o1, none⟩) n c1) ∧ w'.cell? ⟨d, 1, none⟩ = some (.slice (some ⟨g2, o2, none⟩) n c2) ∧ w'.cell? ⟨d, 2, none⟩ = some (.slice (some ⟨g3, o3, none⟩) n c3) ∧ w'.cell? ⟨g1, o1 + i, none⟩ = some (.string (strOfNums l'))) (first | exact ⟨y0, y1, y2, y3⟩ | exact HS2.out | exact HS3.out | exact HS4.out | exact HS5.out) (fail)
      all_goals go_wp2_with fail
      all_goals go_roundw
      case rel => exact ⟨i + 1, by go_num, by rw [HNR.out]; go_num, by have := HI.out; omega, (HR7.out _ H6.out.1 H6.out.2).1, (HR7.out _ H6.out.1 H6.out.2).2⟩
      case measure => first | (simp [intOf]; done) | (simp [intOf]; have := HI.out; omega)
  · have d3 : decide ((m : Int) ≤ (q : Int)) = true := decide_eq_true (by omega)
    have d4 : decide (m ≤ q) = true := decide_eq_true (by omega)
    have HB0 := Lib.hid (show mskB mask r = false from by
     unfold mskB
     rw [HQ.out.1, decide_eq_false (by have := H.out.2.2.2.1; omega), Bool.false_and])
    clear hmz hqm
    have H6 := Lib.hid (And.intro (HR6.out HB0.out) HO6.out)
    clear HR6 HR6' HO6
    obtain ⟨ne1, ne2, ne3, ne4, ne5, ne6⟩ := HNE.out
    go_wp2_with fail
    go_region_held3 (fun w' => w'.cell? ⟨d, 0, none⟩ = some (.slice (some ⟨g1, o1, none⟩) n c1) ∧ w'.cell? ⟨d, 1, none⟩ = some (.slice (some ⟨g2, o2, none⟩) n c2) ∧ w'.cell? ⟨g2, o2 + i, none⟩ = some (.string (strOfNums l))) (first | exact ⟨e0, x1, x2⟩ | exact SK6.out) (fail)
    clear SK6 e0 x1 x2 x3 x4 ew e2
    generalize (wr.setCell ⟨g1, o1 + i, none⟩ (Value.string (strOfNums l))).drew = w6 at *
    obtain ⟨⟨y0, y1, y2, y3⟩, HS2, HS3, HS4, HS5, ⟨u2, y4⟩, ⟨u4, y5⟩, y6, y7⟩ := HC7.out _ H6.out.1
    replace HS2 := Lib.hid HS2
    replace HS3 := Lib.hid HS3
    replace HS4 := Lib.hid HS4
    replace HS5 := Lib.hid HS5
    go_wp2_with fail
    go_region_held3 (fun w' => w'.cell? ⟨d, 0, none⟩ = some (.slice (some ⟨g1, o1, none⟩) n c1) ∧ w'.cell? ⟨d, 1, none⟩ = some (.slice (some ⟨g2, o2, none⟩) n c2) ∧ w'.cell? ⟨d, 2, none⟩ = some (.slice (some ⟨g3, o3, none⟩) n c3) ∧ w'.cell? ⟨g1, o1 + i, none⟩ = some (.string (strOfNums l'))) (first | exact ⟨y0, y1, y2, y3⟩ | exact HS2.out | exact HS3.out | exact HS4.out | exact HS5.out) (fail)
    all_goals go_wp2_with fail
    all_goals go_roundw
    case rel => exact ⟨i + 1, by go_num, by rw [HNR.out]; go_num, by have := HI.out; omega, (HR7.out _ H6.out.1 H6.out.2).1, (HR7.out _ H6.out.1 H6.out.2).2⟩
    case measure => first | (simp [intOf]; done) | (simp [intOf]; have := HI.out; omega)
end Go.Proofs.YtojkggppcmdepaaGreat

namespace Go.Proofs.YtojkggppcmdepaaGreat
open Go.RowKit Go.Wh Go.Maps

theorem rmu_sub {A : Nat → Prop} {w : World} {d g1 o1 c1 g2 o2 c2 g3 o3 c3 : Nat} {D : PDk} {k : Int} {mv : Value} {w1 w2 : World} (h : RdAt A w d D g1 o1 c1 g2 o2 c2 g3 o3 c3 k mv) (ho : Only (RMu d g1 g2 g3) w1 w2) : Only A w1 w2 := ho.mono fun g e => h.mu g e
set_option maxRecDepth 100000 in
theorem rddone_at {A : Nat → Prop} {w : World} {d g1 o1 c1 g2 o2 c2 g3 o3 c3 : Nat} {D : PDk} {k : Int} {mv : Value} (h : RdAt A w d D g1 o1 c1 g2 o2 c2 g3 o3 c3 k mv) (hT : D.T.length ≤ 2000) (c : Bool) (k1 : Int) (mask : List Int) (hc : c = true → D.plan = some (k1, mask)) :
 Calls Tryz.prog 52 #[.pointer (some ⟨d, 0, none⟩), .bool c] w (fun e w' => e = .returned (.int .i64 (if c = true then 2 else 0)) ∧ RdAt A w' d (if c = true then D.crash mask else D) g1 o1 c1 g2 o2 c2 g3 o3 c3 k mv ∧ Only (RMu d g1 g2 g3) w w') := by
 cases c with
 | false =>
  have F := Lib.hid (show RdAt A w d D g1 o1 c1 g2 o2 c2 g3 o3 c3 k mv ∧ Only (RMu d g1 g2 g3) w w from ⟨h, Only.refl _ _⟩)
  clear h hc hT
  go_enter Tryz.func52, Tryz.ntmps52
  go_wp2_with fail
  go_ret
  exact ⟨rfl, F.out⟩
 | true =>
  obtain ⟨rfl, hm, hb⟩ := h.pl k1 mask (hc rfl)
  obtain ⟨a, m, mc, rfl⟩ := h.mf
  have hml : mask.length = m := by
   obtain ⟨a', c', e⟩ := hm.form
   injection e with _ e _
   exact e.symm
  rw [hml] at hm
  have HC := Lib.hid (rdcrash_at h hT a m mc mask (fun _ => hm) (fun g hg => hg.2) hml hb)
  have c6 : w.cell? ⟨d, 6, none⟩ = some (.slice a m mc) := h.raw.cells.cell 6
  clear h hc hm hb
  go_enter Tryz.func52, Tryz.ntmps52
  go_wp2_with fail
  refine HC.out.mono ?_
  rintro e w' ⟨rfl, h1, h2⟩
  have F := Lib.hid (And.intro h1 h2)
  clear h1 h2 HC
  go_wp2_with fail
  go_ret
  exact ⟨rfl, F.out⟩
def RySync (A : Nat → Prop) (w : World) (d g1 g2 g3 : Nat) (r : Int × PDk) (e : Ending) (w' : World) : Prop := e = .returned (.int .i64 r.1) ∧ RdX A d r.2 w' ∧ Only (RMu d g1 g2 g3) w w'
set_option maxHeartbeats 4000000 in
set_option maxRecDepth 100000 in
theorem rdsync_at {A : Nat → Prop} {w : World} {d g1 o1 c1 g2 o2 c2 g3 o3 c3 : Nat} {D : PDk} {k : Int} {mv : Value} (h : RdAt A w d D g1 o1 c1 g2 o2 c2 g3 o3 c3 k mv) (hf : D.fine) (hT : D.T.length ≤ 2000) :
 Calls Tryz.prog 87 #[.pointer (some ⟨d, 0, none⟩)] w (RySync A w d g1 g2 g3 D.sync) := by
 have e3 : w.cell? ⟨d, 3, none⟩ = some (.bool D.dead) := h.raw.cells.cell 3
 cases hq : D.dead with
 | true =>
  rw [hq] at e3
  have F := Lib.hid (show RySync A w d g1 g2 g3 D.sync (.returned (.int .i64 2)) w from by
   unfold RySync PDk.sync
   rw [if_pos hq]
   exact ⟨rfl, ⟨_, _, _, _, _, _, _, _, _, _, _, h⟩, Only.refl _ _⟩)
  clear h hf hT hq
  go_enter Tryz.func87, Tryz.ntmps87
  go_wp2_with fail
  go_ret
  exact F.out
 | false =>
  rw [hq] at e3
  have HCUT := Lib.hid (rdcut_at h hf)
  have HF := Lib.hid (And.intro hf (And.intro hT hq))
  clear h hf hT hq
  go_enter Tryz.func87, Tryz.ntmps87
  go_wp2_with fail
  refine HCUT.out.mono ?_
  rintro e w1 ⟨rfl, ⟨k', h1⟩, h2⟩
  have hlen : D.less.T.length = D.T.length := rfl
  cases hcu : D.cuts with
  | true =>
   obtain ⟨k1, mask, hp⟩ : ∃ k1 mask, D.plan = some (k1, mask) := by
    cases hp : D.plan with
    | none => unfold PDk.cuts at hcu; rw [hp] at hcu; cases hcu
    | some p => exact ⟨p.1, p.2, rfl⟩
   have hp2 : D.less.plan = some (k1 - 1, mask) := by unfold PDk.less; rw [hp]; rfl
   have HD := Lib.hid (rddone_at h1 HF.out.2.1 true (k1 - 1) mask fun _ => hp2)
   have FF := Lib.hid (fun w2 (h3 : RdAt A w2 d (D.less.crash mask) g1 o1 c1 g2 o2 c2 g3 o3 c3 k' mv) (h4 : Only (RMu d g1 g2 g3) w1 w2) => show RySync A w d g1 g2 g3 D.sync (.returned (.int .i64 2)) w2 from by
    unfold RySync PDk.sync
    rw [if_neg (by rw [HF.out.2.2]; simp), if_pos hcu, hp]
    exact ⟨rfl, ⟨_, _, _, _, _, _, _, _, _, _, _, h3⟩, h2.trans h4⟩)
   clear h1 h2 hp hp2 hcu HCUT
   go_wp2_with fail
   refine HD.out.mono ?_
   rintro e w2 ⟨rfl, h3, h4⟩
   have F := Lib.hid (FF.out w2 h3 h4)
   clear h3 h4 FF HD
   simp only [if_true]
   go_wp2_with fail
   go_ret
   exact F.out
  | false =>
   have HC := Lib.hid hcu
   obtain ⟨n, hn⟩ : ∃ n, D.T.length = n := ⟨_, rfl⟩
   have HN := Lib.hid (And.intro hn (show n ≤ 2000 by have := HF.out.2.1; omega))
   have hr0 := h1.raw
   have hpl : D.less.plan.isSome = D.plan.isSome := by unfold PDk.less; cases D.plan <;> rfl
   have hnw : nowL D.less = nowL D := rfl
   have hws : wasL D.less = wasL D := rfl
   have hwe : wetL D.less = wetL D := rfl
   have hdd : D.less.dead = false := HF.out.2.2
   rw [hlen, hn, hpl, hnw, hws, hwe, hdd] at hr0
   have HST := Lib.hid (show RdRaw w1 d n g1 o1 c1 g2 o2 c2 g3 o3 c3 (nowL D) (syWas D 0) (crWet D 0) false D.plan.isSome k' mv ∧ Only (RMu d g1 g2 g3) w1 w1 from by
    rw [syWas_zero, crWet_zero]
    exact ⟨hr0, Only.refl _ _⟩)
   have H1 := Lib.hid (And.intro h1 h2)
   clear h1 h2 hr0 hpl hnw hws hwe hdd hlen hcu hn HCUT
   go_wp2_with fail
   go_loopw [3] (fun s3 wr => ∃ i : Nat, s3 = .int .i64 i ∧ i ≤ n ∧ RdRaw wr d n g1 o1 c1 g2 o2 c2 g3 o3 c3 (nowL D) (syWas D i) (crWet D i) false D.plan.isSome k' mv ∧ Only (RMu d g1 g2 g3) w1 wr) (fun s3 _ => n - (intOf s3).toNat)
   case atStart => exact ⟨0, rfl, Nat.zero_le _, HST.out.1, HST.out.2⟩
   clear HST
   obtain ⟨i, rfl, hin, hraw, ho⟩ := hrel
   have HR := Lib.hid (And.intro hraw (And.intro ho hin))
   have e0 : wr.cell? ⟨d, 0, none⟩ = some (.slice (some ⟨g1, o1, none⟩) n c1) := hraw.cells.cell 0
   have u1 : IntKind.i64.wrap ((i : Int) + 1) = (i : Int) + 1 := IntWalk.i64_in _ (by have := HN.out; omega)
   by_cases hi : i < n
   rotate_left
   · have d1 : decide ((i : Int) < (n : Int)) = false := decide_eq_false (by omega)
     have d2 : decide (i < n) = false := decide_eq_false hi
     have F := Lib.hid (show RySync A w d g1 g2 g3 D.sync (.returned (.int .i64 0)) wr from by
      have hie : i = D.T.length := by have := HN.out.1; omega
      unfold RySync PDk.sync
      rw [if_neg (by rw [HF.out.2.2]; simp), if_neg (by rw [HC.out]; simp)]
      refine ⟨rfl, ⟨_, _, _, _, _, _, _, _, _, _, _, H1.out.1.turn (D' := { D.less with was := fun _ => none }) (k' := k') ?_ ho fun k2 m2 e => ?_⟩, H1.out.2.trans ho⟩
      · have hr2 := hraw
        rw [hie, syWas_all, syWet_all, ← HN.out.1] at hr2
        have e1 : ({ D.less with was := fun _ => none } : PDk).T.length = D.T.length := rfl
        have e2 : ({ D.less with was := fun _ => none } : PDk).plan.isSome = D.plan.isSome := by unfold PDk.less; cases D.plan <;> rfl
        have e3 : ({ D.less with was := fun _ => none } : PDk).dead = false := HF.out.2.2
        rw [e1, e2, e3]
        exact hr2
      · obtain ⟨j1, j2, j3⟩ := H1.out.1.pl k2 m2 e
        exact ⟨j1, k2, e⟩)
     clear hraw ho hin hi
     go_wp2_with fail
     go_ret
     exact F.out
   have d1 : decide ((i : Int) < (n : Int)) = true := decide_eq_true (by omega)
   have d2 : decide (i < n) = true := decide_eq_true hi
   have i0 : (0 : Int) ≤ (i : Int) := by omega
   have i1 : (i : Int) < (n : Int) := by omega
   have HI := Lib.hid hi
   obtain ⟨l', hl'⟩ : ∃ l', D.T.getD i [] = l' := ⟨_, rfl⟩
   have HR7 := Lib.hid (show RdRaw ((wr.setCell ⟨g2, o2 + i, none⟩ (Value.string (strOfNums l'))).setCell ⟨g3, o3 + i, none⟩ (.bool false)).drew d n g1 o1 c1 g2 o2 c2 g3 o3 c3 (nowL D) (syWas D (i + 1)) (crWet D (i + 1)) false D.plan.isSome k' mv ∧ Only (RMu d g1 g2 g3) w1 ((wr.setCell ⟨g2, o2 + i, none⟩ (Value.string (strOfNums l'))).setCell ⟨g3, o3 + i, none⟩ (.bool false)).drew from by
    rw [syWas_next, crWet_wet, hl']
    exact ⟨((hraw.setWas hi _).setWet hi _).still (still_drew _), ((ho.setCell (p := ⟨g2, o2 + i, none⟩) (.inl (.inr (.inr (.inl rfl)))) _).setCell (p := ⟨g3, o3 + i, none⟩) (.inl (.inr (.inr (.inr rfl)))) _).trans ((still_drew _).mono fun _ e => e.elim)⟩)
   have hS7 : ∀ w' Wa We, RdRaw w' d n g1 o1 c1 g2 o2 c2 g3 o3 c3 (nowL D) Wa We false D.plan.isSome k' mv → (w'.cell? ⟨d, 0, none⟩ = some (.slice (some ⟨g1, o1, none⟩) n c1) ∧ w'.cell? ⟨d, 1, none⟩ = some (.slice (some ⟨g2, o2, none⟩) n c2) ∧ w'.cell? ⟨d, 2, none⟩ = some (.slice (some ⟨g3, o3, none⟩) n c3) ∧ w'.cell? ⟨g1, o1 + i, none⟩ = some (.string (strOfNums l'))) := fun w' Wa We h7 => by
    have hnl := HN.out.1
    refine ⟨h7.cells.cell 0, h7.cells.cell 1, h7.cells.cell 2, ?_⟩
    rw [h7.now.cell i (by omega), nowL, List.getElem?_map, List.getElem?_eq_getElem (by omega)]
    have : D.T[i]'(by omega) = l' := by
     rw [← hl', List.getD_eq_getElem?_getD, List.getElem?_eq_getElem (by omega)]
     rfl
    rw [this]
    rfl
   obtain ⟨y0, y1, y2, y3⟩ := hS7 _ _ _ hraw
   have HS2 := Lib.hid (hS7 _ _ _ ((hraw.setWas hi (Value.string (strOfNums l'))).still (still_drew _)))
   have HS3 := Lib.hid (hS7 _ _ _ ((hraw.setWet hi (.bool false)).still (still_drew _)))
   have HS4 := Lib.hid (hS7 _ _ _ (((hraw.setWas hi (Value.string (strOfNums l'))).setWet hi (.bool false)).still (still_drew _)))
   have y4 : ∃ u, wr.cell? ⟨g2, o2 + i, none⟩ = some u := ⟨_, (hraw.was.cell i (by omega)).trans (List.getElem?_eq_getElem (by rw [syWas_length]; have := HN.out.1; omega))⟩
   have y5 : ∃ u, wr.cell? ⟨g3, o3 + i, none⟩ = some u := ⟨_, (hraw.wet.cell i (by omega)).trans (List.getElem?_eq_getElem (by rw [crWet_length]; have := HN.out.1; omega))⟩
   have y6 : wr.frozen? ⟨g2, o2 + i, none⟩ = false := hraw.was.free i (by omega)
   have y7 : wr.frozen? ⟨g3, o3 + i, none⟩ = false := hraw.wet.free i (by omega)
   have ne1 : d ≠ g1 := hraw.d1
   have ne2 : d ≠ g2 := hraw.d2
   have ne3 : d ≠ g3 := hraw.d3
   have ne4 : g1 ≠ g2 := hraw.n12
   have ne5 : g1 ≠ g3 := hraw.n13
   have ne6 : g2 ≠ g3 := hraw.n23
   obtain ⟨u2, y4⟩ := y4
   obtain ⟨u4, y5⟩ := y5
   clear hS7 hraw ho hin hi hl' e0
   go_wp2_with fail
   go_region_held3 (fun w' => w'.cell? ⟨d, 0, none⟩ = some (.slice (some ⟨g1, o1, none⟩) n c1) ∧ w'.cell? ⟨d, 1, none⟩ = some (.slice (some ⟨g2, o2, none⟩) n c2) ∧ w'.cell? ⟨d, 2, none⟩ = some (.slice (some ⟨g3, o3, none⟩) n c3) ∧ w'.cell? ⟨g1, o1 + i, none⟩ = some (.string (strOfNums l'))) (first | exact ⟨y0, y1, y2, y3⟩ | exact HS2.out | exact HS3.out | exact HS4.out) (fail)
   all_goals go_wp2_with fail
   all_goals go_roundw
   case rel => exact ⟨i + 1, by go_num, by have := HI.out; omega, HR7.out.1, HR7.out.2⟩
   case measure => first | (simp [intOf]; done) | (simp [intOf]; have := HI.out; omega)
end Go.Proofs.YtojkggppcmdepaaGreat

/- The loose tiles of a disk: the keys of its map, sorted. Conditions: the map lies in memory, its keys are below a bound. A disk that may be dead, or armed: a mask's bits; what a crash leaves: plain; its small calls. Conditions: they lie in memory. A disk that may be dead, or armed, in memory; what a crash leaves. Conditions: it lies in memory. A crash of a disk. Conditions: it lies in memory. A disk that may be dead, or armed: may, cut, write. Conditions: it lies in memory; at most two thousand tiles. A disk that may be dead, or armed: write. Conditions: it lies in memory; at most two thousand tiles; the tile is there. -/
import Derived.Test.YtojkggppcmdepaaGreatQa22
namespace Go.Proofs.YtojkggppcmdepaaGreat
open Go.RowKit Go.Wh Go.Maps Go.Sort Go.Shelf

theorem sorts_int (m : Nat) : AnyZI.SortsIn Tryz.prog ls_sortedA_ren Fence.wide m :=
 ⟨fun blk off cap ss W hH hblk hsz => callsIn_wide.2 (AnyM.slices_Sort_int ls_sortA blk off cap ss W hH hblk hsz),
  fun p cap W => callsIn_wide.2 (AnyM.slices_Sort_int_none ls_sortA p cap W)⟩
theorem keys_any (mb : Option Nat) (W : World) : Calls Tryz.prog 89 #[.map mb] W fun e w' => e = .returned (.func (.func 122) #[] #[.pointer (some ⟨W.heap.size, 0, none⟩)]) ∧ w' = W.alloc (.cells #[.map mb] 81) :=
 (callsIn_wide (n := 5)).1 (AnyZI.keys_in ls_keysA Fence.wide 5 trivial rfl mb W)
def NumsPost (w : World) (l : List Nat) (e : Ending) (w' : World) : Prop :=
 ∃ v, e = .returned v ∧ Vec w' 1 v l.length (l.map fun i : Nat => Value.int .i64 (i : Int)) ∧ Still w w' ∧ ∀ g, v.ownBlock = some g → w.heap.size ≤ g ∧ g < w'.heap.size
theorem sorted_keys (w : World) (mb n : Nat) (V : Int → Option Value) (hk : kmap w Tryz.prog 3 (fun z : Int => .int .i64 z) mb V) (hn : n ≤ 100000) (hr : ∀ x v, V x = some v → 0 ≤ x ∧ x < n) :
 Calls Tryz.prog 88 #[.func (.func 122) #[] #[.pointer (some ⟨w.heap.size, 0, none⟩)]] (w.alloc (.cells #[.map (some mb)] 81)) (NumsPost w (looseL (fun i => (V (i : Int)).isSome) n)) := by
 have hlt := hk.lt
 obtain ⟨D, hown, hsz, hD⟩ := kmap_owns Tryz.underlying3 hk hn hr
 have hseq : SeqGives Fence.wide 2 Tryz.prog 122 #[.pointer (some ⟨w.heap.size, 0, none⟩)] encZ (fun ss => ss.Perm (intKeys D)) (Maps.size D) (w.alloc (.cells #[.map (some mb)] 81)) :=
  AnyZI.keys_gives (ρ := ls_keysA_ren) { ls_keysA with } Fence.wide _ trivial rfl (by omega) w.heap.size mb n D _ (by simp) (by simp) (by
   obtain ⟨es, clock, hb, Ft, hs, hD⟩ := hown
   exact ⟨es, clock, (Below.heap_alloc _ _ mb hlt).trans hb, Ft, hs, hD⟩)
 have cS := AnyZI.sorted_in ls_sortedA Fence.wide 5 trivial trivial trivial trivial rfl (by omega) (sorts_int _) (enters_of Tryz.func121 (by kernel_rfl) rfl) 122 #[.pointer (some ⟨w.heap.size, 0, none⟩)] trivial (enters_of Tryz.func122 (by kernel_rfl) rfl) _ _ (by simp only [maxLen]; omega) (by omega) _ hseq
 change CallsIn _ _ Tryz.prog 88 _ _ _ at cS
 refine ((callsIn_wide (n := 5)).1 cS).mono ?_
 rintro e w' ⟨v, ss, rfl, hS, hrow, -, hb⟩
 obtain ⟨hnd, hm⟩ := hD ss hS
 have hs := sort_loose (q := fun i => (V (i : Int)).isSome) (n := n) hnd fun x => by
  rw [hm x]
  constructor
  · intro hx
    obtain ⟨v, hv⟩ := Option.isSome_iff_exists.1 hx
    have := hr x v hv
    obtain ⟨i, rfl⟩ : ∃ i : Nat, x = i := ⟨x.toNat, by omega⟩
    exact ⟨i, by omega, hx, rfl⟩
  · rintro ⟨i, -, h2, rfl⟩
    exact h2
 have hlen : ss.length = (looseL (fun i => (V (i : Int)).isSome) n).length := by
  have := congrArg List.length hs
  rw [List.length_mergeSort, List.length_map] at this
  exact this
 have hrow2 := hrow
 rw [hs, List.map_map, hlen] at hrow2
 have hst : Still w (w.alloc (.cells #[.map (some mb)] 81)) := (Still.refl w).alloc _
 refine ⟨v, rfl, ?_, hst.trans (Only.ofBelow hb), fun g hg => ?_⟩
 · exact vec_of_owns hrow2
 · have h1 := hrow2.lt g hg
   have h2 := h1.1
   simp at h2
   exact ⟨by omega, h1.2⟩
theorem loose_any (w : World) (d mb n : Nat) (V : Int → Option Value) (c1 : w.cell? ⟨d, 1, none⟩ = some (.map (some mb))) (hk : kmap w Tryz.prog 3 (fun z : Int => .int .i64 z) mb V) (hn : n ≤ 100000) (hr : ∀ x v, V x = some v → 0 ≤ x ∧ x < n) :
 Calls Tryz.prog 47 #[.pointer (some ⟨d, 0, none⟩)] w (NumsPost w (looseL (fun i => (V (i : Int)).isSome) n)) := by
 have HK := Lib.hid (keys_any (some mb) w)
 have HS := Lib.hid (sorted_keys w mb n V hk hn hr)
 clear hk hr hn
 go_enter Tryz.func47, Tryz.ntmps47
 go_wp2_with fail
 refine HK.out.mono ?_
 rintro e w1 ⟨rfl, rfl⟩
 go_wp2_with fail
 refine HS.out.mono ?_
 intro e w2 h
 obtain ⟨v, rfl, h⟩ := h
 have F := Lib.hid (show NumsPost w (looseL (fun i => (V (i : Int)).isSome) n) (.returned v) w2 from ⟨v, rfl, h⟩)
 clear h
 go_wp2_with fail
 go_ret
 exact F.out
end Go.Proofs.YtojkggppcmdepaaGreat

namespace Go.Proofs.YtojkggppcmdepaaGreat
open Go.RowKit Go.Wh Go.Maps

def mskB (mask : List Int) (i : Nat) : Bool := decide (i / 8 < mask.length) && (mask.getD (i / 8) 0 / 2 ^ (i % 8) % 2 != 0)
theorem u8_and1 : ∀ n : Fin 256, bits BinOp.and IntKind.u8 (n.val : Int) 1 = (n.val : Int) % 2 := by decide +kernel
theorem u8_bit {z : Int} {r : Nat} (h : 0 ≤ z ∧ z ≤ 255) : bits BinOp.and IntKind.u8 (z / 2 ^ r) 1 = z / 2 ^ r % 2 := by
 have h1 : 0 ≤ z / 2 ^ r := Int.ediv_nonneg h.1 (Int.le_of_lt (Int.pow_pos (by decide)))
 have h2 : z / 2 ^ r ≤ z := Int.ediv_le_self _ h.1
 have := u8_and1 ⟨(z / 2 ^ r).toNat, by omega⟩
 simp only [Int.toNat_of_nonneg h1] at this
 exact this
set_option maxRecDepth 10000 in
theorem set_any (w : World) (Q : Nat → Prop) (a : Option Addr) (n c i : Nat) (mask : List Int) (h : 0 < n → Sl w Q 1 (.slice a n c) n (bc mask)) (hl : mask.length = n) (hb : Byt mask) (hi : i ≤ 100000) :
 Calls Tryz.prog 48 #[.slice a n c, .int .i64 i] w (SamePost w (.bool (mskB mask i))) := by
 obtain ⟨q, hq⟩ : ∃ q, i / 8 = q := ⟨_, rfl⟩
 obtain ⟨r, hr⟩ : ∃ r, i % 8 = r := ⟨_, rfl⟩
 have e0 : (0 : Int) ≤ (i : Int) := by omega
 have e1 : (i : Int) / 8 = (q : Int) := by omega
 have e2 : (i : Int) % 8 = (r : Int) := by omega
 have e3 : IntKind.i64.wrap (q : Int) = (q : Int) := IntWalk.i64_in _ (by omega)
 have e4 : (0 : Int) ≤ (r : Int) := by omega
 have hr8 : r < 8 := by omega
 unfold mskB
 rw [hq, hr, hl]
 by_cases hqn : q < n
 · obtain ⟨g, o, c', hg, -, -, hcs⟩ := (h (by omega)).pos (by omega)
   cases hg
   obtain ⟨z, hz⟩ : ∃ z, mask[q]? = some z := ⟨_, List.getElem?_eq_getElem (by omega)⟩
   have hzb := hb z (List.mem_of_getElem? hz)
   have cz : w.cell? ⟨g, o + q, none⟩ = some (.int .u8 z) := hcs q _ (bc_get hz)
   have d1 : decide ((q : Int) < (n : Int)) = true := decide_eq_true (by omega)
   have d2 : decide (q < n) = true := decide_eq_true hqn
   have l0 : (0 : Int) ≤ (q : Int) := by omega
   have l1 : (q : Int) < (n : Int) := by omega
   have hgd : mask.getD q 0 = z := by rw [List.getD_eq_getElem?_getD, hz]; rfl
   rw [hgd, d2, Bool.true_and]
   have e5 := u8_bit (r := r) hzb
   clear h hl hb hi hq hr hqn hcs hz hgd
   go_enter Tryz.func48, Tryz.ntmps48
   go_wp2_with fail
   go_ret
   exact ⟨rfl, rfl⟩
 · have d1 : decide ((q : Int) < (n : Int)) = false := decide_eq_false (by omega)
   have d2 : decide (q < n) = false := decide_eq_false hqn
   rw [d2, Bool.false_and]
   clear h hl hb hi hq hr hqn
   go_enter Tryz.func48, Tryz.ntmps48
   go_wp2_with fail
   go_ret
   exact ⟨rfl, rfl⟩
end Go.Proofs.YtojkggppcmdepaaGreat

namespace Go.Proofs.YtojkggppcmdepaaGreat
open Go.RowKit Go.Wh Go.Maps

structure PDk where
 T : List (List Int)
 was : Nat → Option (List Int)
 dead : Bool
 plan : Option (Int × List Int)
def PDk.loose (D : PDk) : List Nat := looseL (fun i => (D.was i).isSome) D.T.length
def crashN (was : Nat → Option (List Int)) (mask : List Int) (L : List Nat) (T : List (List Int)) : Nat → List (List Int)
 | 0 => T
 | i + 1 => if mskB mask i = true then crashN was mask L T i else (crashN was mask L T i).set (L.getD i 0) ((was (L.getD i 0)).getD [])
theorem crashN_length {was : Nat → Option (List Int)} {mask : List Int} {L : List Nat} {T : List (List Int)} : ∀ {i : Nat}, (crashN was mask L T i).length = T.length
 | 0 => rfl
 | i + 1 => by
  unfold crashN
  split
  · exact crashN_length
  · rw [List.length_set]
    exact crashN_length
def PDk.crash (D : PDk) (mask : List Int) : PDk := ⟨crashN D.was mask D.loose D.T D.loose.length, fun _ => none, true, none⟩

def ptrV : Option Nat → Value
 | none => .pointer none
 | some b => .pointer (some ⟨b, 0, none⟩)
def Mu (d mb : Nat) (tv : Value) (pp : Option Nat) (g : Nat) : Prop := g = d ∨ g = mb ∨ tv.ownBlock = some g ∨ pp = some g
structure DgAt (A : Nat → Prop) (w : World) (d : Nat) (D : PDk) (tv : Value) (mb : Nat) (vs : List Value) (V : Int → Option Value) (pp : Option Nat) : Prop where
 cells : cellsAt w d [tv, .map (some mb), .bool D.dead, ptrV pp]
 t : Vec w 1 tv D.T.length vs
 ins : ∀ (i : Nat) (l : List Int), D.T[i]? = some l → ∃ v, vs[i]? = some v ∧ Reads w 1 v 64 (bc l)
 m : kmap w Tryz.prog 3 (fun z : Int => .int .i64 z) mb V
 wi : ∀ x v, V x = some v → ∃ (i : Nat) (l : List Int), i < D.T.length ∧ x = i ∧ D.was i = some l ∧ Reads w 1 v 64 (bc l)
 wn : ∀ i : Nat, V i = none → D.was i = none
 pl : ∀ k mask, D.plan = some (k, mask) → ∃ b mv, pp = some b ∧ cellsAt w b [.int .i64 k, mv] ∧ Sl w (fun g => A g ∧ ¬ Mu d mb tv pp g) 1 mv mask.length (bc mask) ∧ Byt mask
 pn : D.plan = none → pp = none
 dm : d ≠ mb
 td : ∀ g, tv.ownBlock = some g → g ≠ d ∧ g ≠ mb
 pd : ∀ g, pp = some g → g ≠ d ∧ g ≠ mb ∧ tv.ownBlock ≠ some g
 mu : ∀ g, Mu d mb tv pp g → A g
 ct : ∀ v ∈ vs, v.oneCell' = true ∧ ∀ g, v.ownBlock = some g → A g ∧ ¬ Mu d mb tv pp g
 cw : ∀ x v, V x = some v → v.oneCell' = true ∧ ∀ g, v.ownBlock = some g → A g ∧ ¬ Mu d mb tv pp g
 lt : ∀ g, A g → g < w.heap.size
section
variable {A X : Nat → Prop} {w w' : World} {d mb : Nat} {D : PDk} {tv : Value} {vs : List Value} {V : Int → Option Value} {pp : Option Nat}
theorem DgAt.only (h : DgAt A w d D tv mb vs V pp) (ho : Only X w w') (hx : ∀ g, A g → ¬ X g) : DgAt A w' d D tv mb vs V pp where
 cells := h.cells.only ho (hx d (h.mu d (.inl rfl)))
 t := h.t.only ho fun g hg => hx g (h.mu g (.inr (.inr (.inl hg))))
 ins i l hi := by
  obtain ⟨v, hv, hr⟩ := h.ins i l hi
  exact ⟨v, hv, Reads.only hr ho fun g hg => hx g ((h.ct v (List.mem_of_getElem? hv)).2 g hg).1⟩
 m := h.m.block (ho.block mb h.m.lt (hx mb (h.mu mb (.inr (.inl rfl)))))
 wi x v hv := by
  obtain ⟨i, l, h1, h2, h3, h4⟩ := h.wi x v hv
  exact ⟨i, l, h1, h2, h3, Reads.only h4 ho fun g hg => hx g ((h.cw x v hv).2 g hg).1⟩
 wn := h.wn
 pl k mask hp := by
  obtain ⟨b, mv, h1, h2, h3, h4⟩ := h.pl k mask hp
  exact ⟨b, mv, h1, h2.only ho (hx b (h.mu b (.inr (.inr (.inr h1))))), h3.only ho fun g hg => hx g hg.1, h4⟩
 pn := h.pn
 dm := h.dm
 td := h.td
 pd := h.pd
 mu := h.mu
 ct := h.ct
 cw := h.cw
 lt g hg := Nat.lt_of_lt_of_le (h.lt g hg) ho.size
theorem DgAt.still (h : DgAt A w d D tv mb vs V pp) (hs : Still w w') : DgAt A w' d D tv mb vs V pp := h.only hs fun _ _ e => e
theorem DgAt.form (h : DgAt A w d D tv mb vs V pp) : ∃ a c, tv = .slice a D.T.length c := h.t.form'
theorem DgAt.inr (h : DgAt A w d D tv mb vs V pp) : ∀ x v, V x = some v → 0 ≤ x ∧ x < D.T.length := fun x v hv => by
 obtain ⟨i, l, h1, h2, -, -⟩ := h.wi x v hv
 omega
theorem DgAt.was (h : DgAt A w d D tv mb vs V pp) (i : Nat) : (V (i : Int)).isSome = (D.was i).isSome := by
 cases hv : V (i : Int) with
 | none =>
  rw [h.wn i hv]
  rfl
 | some v =>
  obtain ⟨j, l, -, h2, h3, -⟩ := h.wi i v hv
  obtain rfl : i = j := by omega
  rw [h3]
  rfl
theorem DgAt.put {g o c i : Nat} {l : List Int} {v : Value} (h : DgAt A w d D tv mb vs V pp) (htv : tv = .slice (some ⟨g, o, none⟩) D.T.length c) (hi : i < D.T.length) (hv : Reads w 1 v 64 (bc l)) (hf : ∀ g', v.ownBlock = some g' → A g' ∧ ¬ Mu d mb tv pp g') (h1 : v.oneCell' = true) :
 DgAt A (w.setCell ⟨g, o + i, none⟩ v) d { D with T := D.T.set i l } tv mb (vs.set i v) V pp := by
 subst htv
 have ho := setCell_only w ⟨g, o + i, none⟩ v
 have hz : (w.setCell ⟨g, o + i, none⟩ v).heap.size = w.heap.size := by simp [World.setCell]
 have hlen : vs.length = D.T.length := by have := h.t.len; omega
 have hg := h.td g rfl
 have hmu : ∀ g', ¬ Mu d mb (.slice (some ⟨g, o, none⟩) D.T.length c) pp g' → ¬ g' = g := fun g' hn e => hn (.inr (.inr (.inl (by rw [e]; rfl))))
 have htl : (D.T.set i l).length = D.T.length := List.length_set
 exact {
  cells := h.cells.only ho (fun e => hg.1 (show d = g from e).symm)
  t := by
   show Vec _ 1 _ (D.T.set i l).length _
   rw [htl]
   obtain ⟨g', o', c', he, ht⟩ := h.t.form (by omega)
   injection he with he _ hec
   injection he with he
   injection he with hg' ho'
   subst hg' ho' hec
   exact .inr ⟨_, _, _, rfl, ht.set i (by omega) v⟩
  ins := fun j l' hj => by
   by_cases e : i = j
   · subst e
     rw [List.getElem?_set_self hi] at hj
     cases hj
     exact ⟨v, List.getElem?_set_self (by omega), Reads.only hv ho fun g' hg' => hmu g' (hf g' hg').2⟩
   · rw [List.getElem?_set_ne e] at hj
     obtain ⟨u, hu, hr⟩ := h.ins j l' hj
     exact ⟨u, by rw [List.getElem?_set_ne e]; exact hu, Reads.only hr ho fun g' hg' => hmu g' ((h.ct u (List.mem_of_getElem? hu)).2 g' hg').2⟩
  m := h.m.block (ho.block mb h.m.lt fun e => hg.2 (show mb = g from e).symm)
  wi := fun x u hu => by
   obtain ⟨j, l', k1, k2, k3, k4⟩ := h.wi x u hu
   exact ⟨j, l', by rw [htl]; exact k1, k2, k3, Reads.only k4 ho fun g' hg' => hmu g' ((h.cw x u hu).2 g' hg').2⟩
  wn := h.wn
  pl := fun k mask hp => by
   obtain ⟨b, mv, k1, k2, k3, k4⟩ := h.pl k mask hp
   exact ⟨b, mv, k1, k2.only ho fun e => (h.pd b k1).2.2 (by rw [show b = g from e]; rfl), k3.only ho fun g' hg' => hmu g' hg'.2, k4⟩
  pn := h.pn
  dm := h.dm
  td := h.td
  pd := h.pd
  mu := h.mu
  ct := fun u hu => by
   rcases List.mem_or_eq_of_mem_set hu with hu | rfl
   · exact h.ct u hu
   · exact ⟨h1, hf⟩
  cw := h.cw
  lt := fun g' hg' => by rw [hz]; exact h.lt g' hg' }
end
end Go.Proofs.YtojkggppcmdepaaGreat

namespace Go.Proofs.YtojkggppcmdepaaGreat
open Go.RowKit Go.Wh Go.Maps

def DgX (A : Nat → Prop) (d : Nat) (D : PDk) (w : World) : Prop := ∃ tv mb vs V pp, DgAt A w d D tv mb vs V pp
def DgPost (A : Nat → Prop) (w : World) (d : Nat) (D' : PDk) (v : Value) (e : Ending) (w' : World) : Prop := e = .returned v ∧ DgX A d D' w' ∧ Only A w w'
theorem DgX.only {A X : Nat → Prop} {d : Nat} {D : PDk} {w w' : World} (h : DgX A d D w) (ho : Only X w w') (hx : ∀ g, A g → ¬ X g) : DgX A d D w' := by
 obtain ⟨tv, mb, vs, V, pp, h⟩ := h
 exact ⟨tv, mb, vs, V, pp, h.only ho hx⟩
theorem DgX.still {A : Nat → Prop} {d : Nat} {D : PDk} {w w' : World} (h : DgX A d D w) (hs : Still w w') : DgX A d D w' := h.only hs fun _ _ e => e
theorem DgAt.crashed {A : Nat → Prop} {w w1 : World} {d mb : Nat} {D : PDk} {tv : Value} {vs : List Value} {V : Int → Option Value} {pp : Option Nat} (h : DgAt A w d D tv mb vs V pp) (hk : kmap w1 Tryz.prog 3 (fun z : Int => .int .i64 z) mb (fun _ => none)) (ho : Only (fun b => b = mb) w w1) :
 DgAt A ((w1.setCell ⟨d, 2, none⟩ (.bool true)).setCell ⟨d, 3, none⟩ (.pointer none)) d ⟨D.T, fun _ => none, true, none⟩ tv mb vs (fun _ => none) none := by
 have o1 := setCell_only w1 ⟨d, 2, none⟩ (.bool true)
 have o2 := setCell_only (w1.setCell ⟨d, 2, none⟩ (.bool true)) ⟨d, 3, none⟩ (.pointer none)
 have o3 : Only (fun b => b = d) w1 ((w1.setCell ⟨d, 2, none⟩ (.bool true)).setCell ⟨d, 3, none⟩ (.pointer none)) := o1.trans o2
 have oo : Only (fun b => b = d ∨ b = mb) w ((w1.setCell ⟨d, 2, none⟩ (.bool true)).setCell ⟨d, 3, none⟩ (.pointer none)) := (ho.mono fun b e => .inr e).trans (o3.mono fun b e => .inl e)
 have hc := h.cells.only ho h.dm
 have hmu : ∀ g, Mu d mb tv none g → Mu d mb tv pp g := fun g hg => by
  rcases hg with e | e | e | e
  · exact .inl e
  · exact .inr (.inl e)
  · exact .inr (.inr (.inl e))
  · cases e
 exact {
  cells := by
   have := (hc.setCell 2 (.bool true)).setCell 3 (.pointer none)
   exact this
  t := h.t.only oo fun g hg e => e.elim (h.td g hg).1 (h.td g hg).2
  ins := fun i l hi => by
   obtain ⟨v, hv, hr⟩ := h.ins i l hi
   exact ⟨v, hv, Reads.only hr oo fun g hg e => ((h.ct v (List.mem_of_getElem? hv)).2 g hg).2 (e.elim .inl fun e => .inr (.inl e))⟩
  m := hk.block (o3.block mb hk.lt fun e => h.dm (show mb = d from e).symm)
  wi := fun x v hv => by cases hv
  wn := fun i _ => rfl
  pl := fun k mask hp => by cases hp
  pn := fun _ => rfl
  dm := h.dm
  td := h.td
  pd := fun g hg => by cases hg
  mu := fun g hg => h.mu g (hmu g hg)
  ct := fun v hv => ⟨(h.ct v hv).1, fun g hg => ⟨((h.ct v hv).2 g hg).1, fun e => ((h.ct v hv).2 g hg).2 (hmu g e)⟩⟩
  cw := fun x v hv => by cases hv
  lt := fun g hg => by have := h.lt g hg; have := oo.size; omega }

structure CrRel (A : Nat → Prop) (w1 : World) (d : Nat) (D : PDk) (mask : List Int) (tv : Value) (mb : Nat) (V : Int → Option Value) (pp : Option Nat) (i : Nat) (wr : World) : Prop where
 ex : ∃ vs, DgAt A wr d { D with T := crashN D.was mask D.loose D.T i } tv mb vs V pp
 ho : Only (fun b => tv.ownBlock = some b) w1 wr
set_option maxHeartbeats 4000000 in
set_option maxRecDepth 100000 in
theorem crash_at {A Q : Nat → Prop} {w : World} {d mb m : Nat} {D : PDk} {tv : Value} {vs : List Value} {V : Int → Option Value} {pp : Option Nat} (h : DgAt A w d D tv mb vs V pp) (hT : D.T.length ≤ 2000) (ma : Option Addr) (mc : Nat) (mask : List Int)
 (hm : 0 < m → Sl w Q 1 (.slice ma m mc) m (bc mask)) (hq : ∀ g, Q g → ¬ tv.ownBlock = some g) (hl : mask.length = m) (hb : Byt mask) :
 Calls Tryz.prog 21 #[.pointer (some ⟨d, 0, none⟩), .slice ma m mc] w (fun e w' => e = .returned (.tuple #[]) ∧ (∃ vs', DgAt A w' d (D.crash mask) tv mb vs' (fun _ => none) none) ∧ Only (fun b => b = d ∨ b = mb ∨ tv.ownBlock = some b) w w') := by
 have c1 : w.cell? ⟨d, 1, none⟩ = some (.map (some mb)) := h.cells.cell 1
 have HLO := Lib.hid (loose_any w d mb D.T.length V c1 h.m (by omega) h.inr)
 have hlo : looseL (fun i => (V (i : Int)).isSome) D.T.length = D.loose := by
  unfold PDk.loose
  congr 1
  exact funext fun i => h.was i
 rw [hlo] at HLO
 have H := Lib.hid (And.intro h (And.intro hm (And.intro hq (And.intro hl (And.intro hb hT)))))
 have HLN := Lib.hid (show D.loose.length ≤ 2000 from by
  unfold PDk.loose looseL
  have := List.length_filter_le (fun i => (D.was i).isSome) (List.range D.T.length)
  rw [List.length_range] at this
  omega)
 obtain ⟨ta, tc, htv⟩ := h.form
 clear h hm hq hl hb hlo c1
 go_enter Tryz.func21, Tryz.ntmps21
 go_wp2_with fail
 refine HLO.out.mono ?_
 intro e w1 hp
 obtain ⟨v, rfl, hv, hs1, hv1⟩ := hp
 obtain ⟨n, hn⟩ : ∃ n, D.loose.length = n := ⟨_, rfl⟩
 rw [hn] at hv
 obtain ⟨va, vc, rfl⟩ := hv.form'
 have HV := Lib.hid (And.intro hv (And.intro hs1 (And.intro hv1 hn)))
 have HREL := Lib.hid (show CrRel A w1 d D mask tv mb V pp 0 w1 from ⟨⟨vs, H.out.1.still hs1⟩, Only.refl _ _⟩)
 clear hv hs1 hv1 HLO hn
 go_wp2_with fail
 go_loopw [11] (fun s wr => ∃ i : Nat, s = .int .i64 i ∧ i ≤ n ∧ CrRel A w1 d D mask tv mb V pp i wr) (fun s _ => n - (intOf s).toNat)
 case atStart => exact ⟨0, rfl, Nat.zero_le _, HREL.out⟩
 case round =>
  clear HREL
  obtain ⟨i, rfl, hin, ⟨⟨us, hd⟩, ho⟩⟩ := hrel
  have hn2000 : n ≤ 2000 := by have := HLN.out; have := HV.out.2.2.2; omega
  have u1 : IntKind.i64.wrap ((i : Int) + 1) = (i : Int) + 1 := IntWalk.i64_in _ (by omega)
  by_cases hi : i < n
  · have d1 : decide ((i : Int) < (n : Int)) = true := decide_eq_true (by omega)
    have d2 : decide (i < n) = true := decide_eq_true hi
    have l0 : (0 : Int) ≤ (i : Int) := by omega
    have l1 : (i : Int) < (n : Int) := by omega
    obtain ⟨x, hx⟩ : ∃ x, D.loose[i]? = some x := ⟨_, List.getElem?_eq_getElem (by rw [HV.out.2.2.2]; exact hi)⟩
    have hxm := looseL_mem.1 (List.mem_of_getElem? hx)
    obtain ⟨g, o, c, hvs, hva⟩ := HV.out.1.form (by omega)
    cases hvs
    have hgo : ¬ tv.ownBlock = some g := fun e => by
     have e1 := H.out.1.lt g (H.out.1.mu g (.inr (.inr (.inl e))))
     have e2 := (HV.out.2.2.1 g rfl).1
     omega
    have cx : wr.cell? ⟨g, o + i, none⟩ = some (.int .i64 (x : Int)) := by
     refine (ho.cell (p := ⟨g, o + i, none⟩) (HV.out.2.2.1 g rfl).2 hgo).trans ?_
     rw [hva.cells i (by omega), List.getElem?_map, hx]
     rfl
    have hxl : x < D.T.length := hxm.1
    have HB := Lib.hid (set_any wr Q ma m mc i mask (fun hp => ((H.out.2.1 hp).still HV.out.2.1).only ho H.out.2.2.1) H.out.2.2.2.1 H.out.2.2.2.2.1 (by omega))
    have HX := Lib.hid (And.intro hd (And.intro ho (And.intro hx (And.intro hxm hi))))
    have hgd : D.loose.getD i 0 = x := by rw [List.getD_eq_getElem?_getD, hx]; rfl
    have HGD := Lib.hid hgd
    cases hbit : mskB mask i with
    | true =>
     rw [hbit] at HB
     have HNX := Lib.hid (show CrRel A w1 d D mask tv mb V pp (i + 1) wr from ⟨⟨us, by
      unfold crashN
      rw [if_pos hbit]
      exact hd⟩, ho⟩)
     clear hd ho hx hxm hi hva hgo hbit hgd hin hxl
     go_wp2_with fail
     refine HB.out.mono ?_
     rintro e w2 ⟨rfl, rfl⟩
     go_wp2_with fail
     go_roundw
     case rel => exact ⟨i + 1, by go_num, by have := HX.out.2.2.2.2; omega, HNX.out⟩
     case measure => simp [intOf]; have := HX.out.2.2.2.2; omega
    | false =>
     rw [hbit] at HB
     have hbf : ¬ mskB mask i = true := by rw [hbit]; decide
     obtain ⟨l, hwas⟩ := Option.isSome_iff_exists.1 hxm.2
     have hVs := hd.was x
     rw [hwas] at hVs
     obtain ⟨u, hu⟩ := Option.isSome_iff_exists.1 hVs
     obtain ⟨x2, l2, -, hx2, hw2, hru⟩ := hd.wi _ _ hu
     obtain rfl : x = x2 := by omega
     obtain ⟨ua, uc, rfl⟩ := Reads.form hru
     rw [hwas] at hw2
     injection hw2 with hw2
     subst hw2
     have hlen : (crashN D.was mask D.loose D.T i).length = D.T.length := crashN_length
     have hxl2 : x < (crashN D.was mask D.loose D.T i).length := by rw [hlen]; exact hxl
     obtain ⟨tg, tf, tcc, htv2, htt⟩ := hd.t.form (by show 0 < (crashN D.was mask D.loose D.T i).length; omega)
     have htv3 : tv = .slice (some ⟨tg, tf, none⟩) (crashN D.was mask D.loose D.T i).length tcc := htv2
     have hput := (hd.still (still_drew wr)).put htv3 hxl2 (Reads.still hru (still_drew wr)) (hd.cw _ _ hu).2 (hd.cw _ _ hu).1
     have HNX := Lib.hid (show CrRel A w1 d D mask tv mb V pp (i + 1) (wr.drew.setCell ⟨tg, tf + x, none⟩ (.slice ua 64 uc)) from ⟨⟨_, by
      have e : crashN D.was mask D.loose D.T (i + 1) = (crashN D.was mask D.loose D.T i).set x l := by
       show (if mskB mask i = true then _ else _) = _
       rw [if_neg hbf, hgd, hwas]
       rfl
      rw [e]
      exact hput⟩, ho.drew.setCell (p := ⟨tg, tf + x, none⟩) (.inl (by rw [htv3]; rfl)) _⟩)
     rw [hlen] at htv3
     have c0 : wr.cell? ⟨d, 0, none⟩ = some tv := hd.cells.cell 0
     rw [htv3] at c0
     have c1 : wr.cell? ⟨d, 1, none⟩ = some (.map (some mb)) := hd.cells.cell 1
     have hlk : (Instr.lookup 81 (.map (some mb)) (.int .i64 (x : Int)) false).run Tryz.prog wr = .ok (.slice ua 64 uc) wr := by
      have := hd.m.lookup (int_keyed Tryz.underlying3) Tryz.underlying81 (intK x (by have := H.out.2.2.2.2.2; omega)) (z := .slice none 0 0) (by kernel_rfl) false
      rw [hu] at this
      exact this
     have hlk2 : (Instr.lookup 81 (.map (some mb)) (.int .i64 (x : Int)) false).run Tryz.prog wr.drew = .ok (.slice ua 64 uc) wr.drew := by
      have := (hd.m.block rfl : kmap wr.drew _ _ _ _ _).lookup (int_keyed Tryz.underlying3) Tryz.underlying81 (intK x (by have := H.out.2.2.2.2.2; omega)) (z := .slice none 0 0) (by kernel_rfl) false
      rw [hu] at this
      exact this
     have ft : wr.frozen? ⟨tg, tf + x, none⟩ = false := htt.free x (by show x < (crashN D.was mask D.loose D.T i).length * 1; omega)
     have ct : ∃ u', wr.cell? ⟨tg, tf + x, none⟩ = some u' := by
      refine ⟨_, (htt.cells x (by show x < (crashN D.was mask D.loose D.T i).length * 1; omega)).trans (List.getElem?_eq_getElem (by have := htt.len; have e : us.length = (crashN D.was mask D.loose D.T i).length * 1 := this; omega))⟩
     obtain ⟨u', ct⟩ := ct
     have k0 : (0 : Int) ≤ (x : Int) := by omega
     have k1 : (x : Int) < (D.T.length : Int) := by omega
     obtain ⟨Tn, hTn⟩ : ∃ Tn, D.T.length = Tn := ⟨_, rfl⟩
     rw [hTn] at c0 k1
     clear hd ho hx hxm hi hva hgo hbit hgd hin hxl hbf hwas hVs hu hx2 hru hlen hxl2 htv2 htt htv3 hput hTn
     go_wp2_with fail
     refine HB.out.mono ?_
     rintro e w2 ⟨rfl, rfl⟩
     go_wp2_with fail
     go_still_tail 12, (by kernel_rfl)
     change wpList _ _ _ _ _ w2.drew
     go_wp2_with fail
     go_roundw
     case rel => exact ⟨i + 1, by go_num, by have := HX.out.2.2.2.2; omega, HNX.out⟩
     case measure => simp [intOf]; have := HX.out.2.2.2.2; omega
  · have d1 : decide ((i : Int) < (n : Int)) = false := decide_eq_false (by omega)
    have d2 : decide (i < n) = false := decide_eq_false hi
    have hie : i = n := by omega
    have c1 : wr.cell? ⟨d, 1, none⟩ = some (.map (some mb)) := hd.cells.cell 1
    obtain ⟨w3, hrun, hk3, hg3, hs3⟩ := kmap.clear (ty := 0) hd.m Tryz.underlying81
    have ho3 : Only (fun b => b = mb) wr w3 := Only.grown hg3 fun j e => (Option.some.inj e).symm
    have hcl := hd.cells.only ho3 hd.dm
    have hcr := hd.crashed hk3 ho3
    have x2 : w3.cell? ⟨d, 2, none⟩ = some (.bool D.dead) := hcl.cell 2
    have x3 : w3.cell? ⟨d, 3, none⟩ = some (ptrV pp) := hcl.cell 3
    have y2 : w3.frozen? ⟨d, 2, none⟩ = false := hcl.free 2
    have y3 : w3.frozen? ⟨d, 3, none⟩ = false := hcl.free 3
    have F := Lib.hid (show (Ending.returned (.tuple #[])) = .returned (.tuple #[]) ∧ (∃ vs', DgAt A ((w3.setCell ⟨d, 2, none⟩ (.bool true)).setCell ⟨d, 3, none⟩ (.pointer none)) d (D.crash mask) tv mb vs' (fun _ => none) none) ∧ Only (fun b => b = d ∨ b = mb ∨ tv.ownBlock = some b) w ((w3.setCell ⟨d, 2, none⟩ (.bool true)).setCell ⟨d, 3, none⟩ (.pointer none)) from ⟨rfl, ⟨us, by
     have e : D.crash mask = ⟨crashN D.was mask D.loose D.T i, fun _ => none, true, none⟩ := by
      unfold PDk.crash
      rw [HV.out.2.2.2, hie]
     rw [e]
     exact hcr⟩, by
     have q1 : Only (fun b => b = d ∨ b = mb ∨ tv.ownBlock = some b) w wr := (HV.out.2.1.mono fun _ e => e.elim).trans (ho.mono fun b e => .inr (.inr e))
     have q2 := q1.trans (ho3.mono fun b e => .inr (.inl e))
     exact (q2.setCell (p := ⟨d, 2, none⟩) (.inl (.inl rfl)) _).setCell (p := ⟨d, 3, none⟩) (.inl (.inl rfl)) _⟩)
    clear hd ho hin hi hie hk3 hg3 hs3 ho3 hcl hcr
    go_wp2_with fail
    go_end0
    subst htv
    exact ⟨rfl, F.out.2⟩
end Go.Proofs.YtojkggppcmdepaaGreat

namespace Go.Proofs.YtojkggppcmdepaaGreat
open Go.RowKit Go.Wh Go.Maps

def PDk.cuts (D : PDk) : Bool := match D.plan with
 | none => false
 | some (k, _) => decide (k - 1 < 0)
def PDk.less (D : PDk) : PDk := { D with plan := D.plan.map fun p => (p.1 - 1, p.2) }
def PDk.fine (D : PDk) : Prop := ∀ k mask, D.plan = some (k, mask) → 0 ≤ k ∧ k ≤ 1000000
def PDk.done (D : PDk) : Int × PDk := match D.plan with
 | none => (0, D)
 | some (k, mask) => if k - 1 < 0 then (2, D.crash mask) else (0, D.less)
def PDk.wet (D : PDk) (i : Nat) : PDk := { D with was := if (D.was i).isSome = true then D.was else upd D.was i D.T[i]? }
def PDk.laid (D : PDk) (i : Nat) (l : List Int) : PDk := { D.wet i with T := D.T.set i l }
section
variable {A X : Nat → Prop} {w w' : World} {d mb : Nat} {D : PDk} {tv : Value} {vs : List Value} {V : Int → Option Value} {pp : Option Nat}
theorem DgAt.tick {b : Nat} {k : Int} {mask : List Int} (h : DgAt A w d D tv mb vs V pp) (hp : D.plan = some (k, mask)) (hb : pp = some b) : DgAt A (w.setCell ⟨b, 0, none⟩ (.int .i64 (k - 1))) d D.less tv mb vs V pp := by
 have ho := setCell_only w ⟨b, 0, none⟩ (.int .i64 (k - 1))
 have hz : (w.setCell ⟨b, 0, none⟩ (.int .i64 (k - 1))).heap.size = w.heap.size := by simp [World.setCell]
 have hmu : ∀ g, ¬ Mu d mb tv pp g → ¬ g = b := fun g hn e => hn (.inr (.inr (.inr (by rw [hb, e]))))
 have hpd := h.pd b hb
 exact {
  cells := h.cells.only ho fun e => hpd.1 (show d = b from e).symm
  t := h.t.only ho fun g hg e => hpd.2.2 (by rw [← show g = b from e]; exact hg)
  ins := fun i l hi => by
   obtain ⟨v, hv, hr⟩ := h.ins i l hi
   exact ⟨v, hv, Reads.only hr ho fun g hg => hmu g ((h.ct v (List.mem_of_getElem? hv)).2 g hg).2⟩
  m := h.m.block (ho.block mb h.m.lt fun e => hpd.2.1 (show mb = b from e).symm)
  wi := fun x v hv => by
   obtain ⟨i, l, k1, k2, k3, k4⟩ := h.wi x v hv
   exact ⟨i, l, k1, k2, k3, Reads.only k4 ho fun g hg => hmu g ((h.cw x v hv).2 g hg).2⟩
  wn := h.wn
  pl := fun k' mask' hp' => by
   obtain ⟨b', mv, k1, k2, k3, k4⟩ := h.pl k mask hp
   have e : D.less.plan = some (k - 1, mask) := by unfold PDk.less; rw [hp]; rfl
   rw [e] at hp'
   injection hp' with hp'
   injection hp' with e1 e2
   subst e1 e2
   have hbb : b' = b := by rw [hb] at k1; exact (Option.some.inj k1).symm
   subst hbb
   refine ⟨b', mv, k1, ?_, k3.only ho fun g hg => hmu g hg.2, k4⟩
   have := k2.setCell 0 (.int .i64 (k - 1))
   exact this
  pn := fun hn => by
   have e : D.less.plan = some (k - 1, mask) := by unfold PDk.less; rw [hp]; rfl
   rw [e] at hn
   cases hn
  dm := h.dm
  td := h.td
  pd := h.pd
  mu := h.mu
  ct := h.ct
  cw := h.cw
  lt := fun g hg => by rw [hz]; exact h.lt g hg }
set_option maxRecDepth 10000 in
theorem cut_at (h : DgAt A w d D tv mb vs V pp) (hf : D.fine) :
 Calls Tryz.prog 50 #[.pointer (some ⟨d, 0, none⟩)] w (fun e w' => e = .returned (.bool D.cuts) ∧ DgAt A w' d D.less tv mb vs V pp ∧ Only (fun g => pp = some g) w w') := by
 have c3 : w.cell? ⟨d, 3, none⟩ = some (ptrV pp) := h.cells.cell 3
 cases hp : D.plan with
 | none =>
  have hpp := h.pn hp
  subst hpp
  have c3' : w.cell? ⟨d, 3, none⟩ = some (.pointer none) := c3
  have e1 : D.cuts = false := by unfold PDk.cuts; rw [hp]
  have e2 : D.less = D := by unfold PDk.less; rw [hp]; cases D; cases hp; rfl
  rw [e1, e2]
  have F := Lib.hid (show (Ending.returned (.bool false)) = .returned (.bool false) ∧ DgAt A w d D tv mb vs V none ∧ Only (fun g => (none : Option Nat) = some g) w w from ⟨rfl, h, Only.refl _ _⟩)
  clear h hf c3 hp e1 e2
  go_enter Tryz.func50, Tryz.ntmps50
  go_wp2_with fail
  go_ret
  exact ⟨rfl, F.out.2.1, Only.refl _ _⟩
 | some p =>
  obtain ⟨k, mask⟩ := p
  obtain ⟨b, mv, hb, hc, -, -⟩ := h.pl k mask hp
  have hk := hf k mask hp
  have htick := h.tick hp hb
  subst hb
  have c3' : w.cell? ⟨d, 3, none⟩ = some (.pointer (some ⟨b, 0, none⟩)) := c3
  have c0 : w.cell? ⟨b, 0, none⟩ = some (.int .i64 k) := hc.cell 0
  have f0 : w.frozen? ⟨b, 0, none⟩ = false := hc.free 0
  have hdb : d ≠ b := (h.pd b rfl).1.symm
  have c3'' : (w.setCell ⟨b, 0, none⟩ (.int .i64 (k - 1))).cell? ⟨d, 3, none⟩ = some (.pointer (some ⟨b, 0, none⟩)) := by
   have := (setCell_only w ⟨b, 0, none⟩ (.int .i64 (k - 1))).cell (p := ⟨d, 3, none⟩) h.cells.lt hdb
   rw [this]
   exact c3'
  have c0'' : (w.setCell ⟨b, 0, none⟩ (.int .i64 (k - 1))).cell? ⟨b, 0, none⟩ = some (.int .i64 (k - 1)) := (hc.setCell 0 (.int .i64 (k - 1))).cell 0
  have u1 : IntKind.i64.wrap (k - 1) = k - 1 := IntWalk.i64_in _ (by omega)
  have e1 : D.cuts = decide (k - 1 < 0) := by unfold PDk.cuts; rw [hp]
  rw [e1]
  have F := Lib.hid (show DgAt A (w.setCell ⟨b, 0, none⟩ (.int .i64 (k - 1))) d D.less tv mb vs V (some b) ∧ Only (fun g => (some b : Option Nat) = some g) w (w.setCell ⟨b, 0, none⟩ (.int .i64 (k - 1))) from ⟨htick, (setCell_only w ⟨b, 0, none⟩ _).mono fun g e => by rw [show g = b from e]⟩)
  obtain ⟨q, hq⟩ : ∃ q, decide (k - 1 < 0) = q := ⟨_, rfl⟩
  rw [hq]
  clear h hf c3 hp e1 hk htick hc
  go_enter Tryz.func50, Tryz.ntmps50
  go_wp2_with fail
  go_ret
  exact ⟨rfl, F.out⟩
theorem DgAt.keep {i : Nat} {v : Value} {l : List Int} (h : DgAt A w d D tv mb vs V pp) (hi : D.T[i]? = some l) (hv : vs[i]? = some v) (hw : V (i : Int) = none) (hk : kmap w' Tryz.prog 3 (fun z : Int => .int .i64 z) mb (upd V (i : Int) (some v))) (ho : Only (fun b => b = mb) w w') :
 DgAt A w' d (D.wet i) tv mb vs (upd V (i : Int) (some v)) pp := by
 have hmu : ∀ g, ¬ Mu d mb tv pp g → ¬ g = mb := fun g hn e => hn (.inr (.inl e))
 have hws : (D.was i).isSome = false := by rw [← h.was i, hw]; rfl
 have e : D.wet i = { D with was := upd D.was i (some l) } := by
  unfold PDk.wet
  rw [hws, hi]
  rfl
 have hil := (List.getElem?_eq_some_iff.1 hi).1
 obtain ⟨v', hv', hr⟩ := h.ins i l hi
 rw [hv] at hv'
 injection hv' with hv'
 subst hv'
 have hvm := List.mem_of_getElem? hv
 rw [e]
 exact {
  cells := h.cells.only ho h.dm
  t := h.t.only ho fun g hg e => (h.td g hg).2 e
  ins := fun j l' hj => by
   obtain ⟨u, hu, hr⟩ := h.ins j l' hj
   exact ⟨u, hu, Reads.only hr ho fun g hg => hmu g ((h.ct u (List.mem_of_getElem? hu)).2 g hg).2⟩
  m := hk
  wi := fun x u hu => by
   by_cases hx : x = (i : Int)
   · subst hx
     rw [upd_same] at hu
     injection hu with hu
     subst hu
     exact ⟨i, l, hil, rfl, upd_same _ _ _, Reads.only hr ho fun g hg => hmu g ((h.ct v hvm).2 g hg).2⟩
   · rw [upd_other _ _ hx] at hu
     obtain ⟨j, l', k1, k2, k3, k4⟩ := h.wi x u hu
     refine ⟨j, l', k1, k2, ?_, Reads.only k4 ho fun g hg => hmu g ((h.cw x u hu).2 g hg).2⟩
     show upd D.was i (some l) j = some l'
     rw [upd_other _ _ (fun e => hx (by rw [k2, e]))]
     exact k3
  wn := fun j hj => by
   show upd D.was i (some l) j = none
   by_cases hji : j = i
   · subst hji
     rw [upd_same] at hj
     cases hj
   · rw [upd_other _ _ (fun e => hji (by omega))] at hj
     rw [upd_other _ _ hji]
     exact h.wn j hj
  pl := fun k mask hp => by
   obtain ⟨b, mv, k1, k2, k3, k4⟩ := h.pl k mask hp
   exact ⟨b, mv, k1, k2.only ho (h.pd b k1).2.1, k3.only ho fun g hg => hmu g hg.2, k4⟩
  pn := h.pn
  dm := h.dm
  td := h.td
  pd := h.pd
  mu := h.mu
  ct := h.ct
  cw := fun x u hu => by
   by_cases hx : x = (i : Int)
   · subst hx
     rw [upd_same] at hu
     injection hu with hu
     subst hu
     exact h.ct v hvm
   · rw [upd_other _ _ hx] at hu
     exact h.cw x u hu
  lt := fun g hg => Nat.lt_of_lt_of_le (h.lt g hg) ho.size }
def PDk.may (D : PDk) (i : Int) : Int := if D.dead = true then 2 else if i < 0 ∨ (D.T.length : Int) ≤ i then 1 else 0
set_option maxRecDepth 10000 in
theorem may_at (h : DgAt A w d D tv mb vs V pp) (i : Int) :
 Calls Tryz.prog 49 #[.pointer (some ⟨d, 0, none⟩), .int .i64 i] w (SamePost w (.int .i64 (D.may i))) := by
 obtain ⟨a, c, rfl⟩ := h.form
 have c0 : w.cell? ⟨d, 0, none⟩ = some (.slice a D.T.length c) := h.cells.cell 0
 have c2 : w.cell? ⟨d, 2, none⟩ = some (.bool D.dead) := h.cells.cell 2
 unfold PDk.may
 generalize D.T.length = n at *
 clear h
 cases hq : D.dead with
 | true =>
  rw [hq] at c2
  rw [if_pos rfl]
  clear hq
  go_enter Tryz.func49, Tryz.ntmps49
  go_wp2_with fail
  go_ret
  exact ⟨rfl, rfl⟩
 | false =>
  rw [hq] at c2
  rw [if_neg (by decide)]
  clear hq
  by_cases h0 : i < 0
  · have b1 : decide (i < 0) = true := decide_eq_true h0
    rw [if_pos (.inl h0)]
    clear h0
    go_enter Tryz.func49, Tryz.ntmps49
    go_wp2_with fail
    go_ret
    exact ⟨rfl, rfl⟩
  · have b1 : decide (i < 0) = false := decide_eq_false h0
    by_cases h1 : (n : Int) ≤ i
    · have b2 : decide ((n : Int) ≤ i) = true := decide_eq_true h1
      rw [if_pos (.inr h1)]
      clear h0 h1
      go_enter Tryz.func49, Tryz.ntmps49
      go_wp2_with fail
      go_ret
      exact ⟨rfl, rfl⟩
    · have b2 : decide ((n : Int) ≤ i) = false := decide_eq_false h1
      rw [if_neg (by omega)]
      clear h0 h1
      go_enter Tryz.func49, Tryz.ntmps49
      go_wp2_with fail
      go_ret
      exact ⟨rfl, rfl⟩
end
end Go.Proofs.YtojkggppcmdepaaGreat

namespace Go.Proofs.YtojkggppcmdepaaGreat
open Go.RowKit Go.Wh Go.Maps

section
variable {A X : Nat → Prop} {w w' : World} {d mb : Nat} {D : PDk} {tv : Value} {vs : List Value} {V : Int → Option Value} {pp : Option Nat}
theorem DgAt.grow {A' : Nat → Prop} (h : DgAt A w d D tv mb vs V pp) (ha : ∀ g, A g → A' g) (hl : ∀ g, A' g → g < w.heap.size) : DgAt A' w d D tv mb vs V pp where
 cells := h.cells
 t := h.t
 ins := h.ins
 m := h.m
 wi := h.wi
 wn := h.wn
 pl k mask hp := by
  obtain ⟨b, mv, k1, k2, k3, k4⟩ := h.pl k mask hp
  exact ⟨b, mv, k1, k2, k3.mono fun g hg => ⟨ha g hg.1, hg.2⟩, k4⟩
 pn := h.pn
 dm := h.dm
 td := h.td
 pd := h.pd
 mu g hg := ha g (h.mu g hg)
 ct v hv := ⟨(h.ct v hv).1, fun g hg => ⟨ha g ((h.ct v hv).2 g hg).1, ((h.ct v hv).2 g hg).2⟩⟩
 cw x v hv := ⟨(h.cw x v hv).1, fun g hg => ⟨ha g ((h.cw x v hv).2 g hg).1, ((h.cw x v hv).2 g hg).2⟩⟩
 lt := hl
theorem DgAt.newer (h : DgAt A w d D tv mb vs V pp) (hs : Only X w w') (hx : ∀ g, A g → ¬ X g) : DgAt (Newer A w w') w' d D tv mb vs V pp :=
 (h.only hs hx).grow (fun _ hg => .inl hg) fun g hg => hg.elim (fun e => Nat.lt_of_lt_of_le (h.lt g e) hs.size) fun e => e.2
theorem PDk.wet_same {i : Nat} (h : (D.was i).isSome = true) : D.wet i = D := by
 unfold PDk.wet
 rw [if_pos h]
def DgPostN (A : Nat → Prop) (w : World) (d : Nat) (r : Int × PDk) (e : Ending) (w' : World) : Prop := e = .returned (.int .i64 r.1) ∧ DgX (Newer A w w') d r.2 w' ∧ Only A w w'
end
set_option maxHeartbeats 4000000 in
set_option maxRecDepth 100000 in
theorem write_at {A : Nat → Prop} {w : World} {d mb : Nat} {D : PDk} {tv : Value} {vs : List Value} {V : Int → Option Value} {pp : Option Nat} (h : DgAt A w d D tv mb vs V pp) (hq : D.dead = false) (hf : D.fine) (i : Nat) (l : List Int) (bv : Value) (hi : i < D.T.length) (hT : D.T.length ≤ 2000) (hb : Reads w 1 bv 64 (bc l)) (hbm : ∀ g, bv.ownBlock = some g → ¬ Mu d mb tv pp g) :
 Calls Tryz.prog 25 #[.pointer (some ⟨d, 0, none⟩), .int .i64 i, bv] w (DgPostN A w d (D.laid i l).done) := by
 have hmay : D.may i = 0 := by
  unfold PDk.may
  rw [hq, if_neg (by decide), if_neg (by omega)]
 have HM := Lib.hid (may_at h (i : Int))
 rw [hmay] at HM
 have H := Lib.hid h
 obtain ⟨ba, bcap, rfl⟩ := Reads.form hb
 have HB := Lib.hid (And.intro hb hbm)
 have HF := Lib.hid hf
 obtain ⟨g, o, c, htv, ht⟩ := h.t.form (by omega)
 have HI := Lib.hid (And.intro hi hT)
 subst htv
 have hm := h.m
 have HMB := Lib.hid hm
 have c0 : w.cell? ⟨d, 0, none⟩ = some (.slice (some ⟨g, o, none⟩) D.T.length c) := h.cells.cell 0
 have c1 : w.cell? ⟨d, 1, none⟩ = some (.map (some mb)) := h.cells.cell 1
 obtain ⟨v, hv⟩ : ∃ v, vs[i]? = some v := ⟨_, List.getElem?_eq_getElem (by have := ht.len; omega)⟩
 obtain ⟨lo, hlo⟩ : ∃ lo, D.T[i]? = some lo := ⟨_, List.getElem?_eq_getElem hi⟩
 have cv : w.cell? ⟨g, o + i, none⟩ = some v := by rw [ht.cells i (by omega)]; exact hv
 have b1 : (0 : Int) ≤ (i : Int) := by omega
 have b2 : (i : Int) < (D.T.length : Int) := by omega
 have hl : (Instr.lookup 81 (.map (some mb)) (.int .i64 (i : Int)) true).run Tryz.prog w = .ok (.tuple #[(V (i : Int)).getD (.slice none 0 0), .bool (V (i : Int)).isSome]) w :=
  hm.lookup (int_keyed Tryz.underlying3) Tryz.underlying81 (intK i (by omega)) (z := .slice none 0 0) (by kernel_rfl) true
 have HG := Lib.hid (show g ≠ mb ∧ g ≠ d ∧ d ≠ mb from ⟨(h.td g rfl).2, (h.td g rfl).1, h.dm⟩)
 have HVI := Lib.hid (And.intro hv hlo)
 obtain ⟨TL, hTL⟩ : ∃ TL, D.T.length = TL := ⟨_, rfl⟩
 have HTL := Lib.hid hTL
 rw [hTL] at c0 b2
 clear h hb hbm ht hm hv hi hT hlo hTL hf hq hmay
 go_enter Tryz.func25, Tryz.ntmps25
 go_wp2_with fail
 refine HM.out.mono ?_
 rintro e w1 ⟨rfl, rfl⟩
 go_upto_if 29 with fail
 go_cut [8, 9] (fun _ _ wc => ∃ V', DgAt A wc d (D.wet i) (.slice (some ⟨g, o, none⟩) D.T.length c) mb vs V' pp ∧ Only (fun b => b = mb) w1 wc)
 case first =>
  cases hov : V (i : Int) with
  | some u =>
   have FM := Lib.hid (show ∃ V', DgAt A w1 d (D.wet i) (.slice (some ⟨g, o, none⟩) D.T.length c) mb vs V' pp ∧ Only (fun b => b = mb) w1 w1 from ⟨V, by
    rw [PDk.wet_same (by rw [← H.out.was i, hov]; rfl)]
    exact H.out, Only.refl _ _⟩)
   clear hl hov
   go_wp2_with fail
   go_meet
   case rel => exact FM.out
  | none =>
   have HOV := Lib.hid hov
   clear hl hov
   go_wp2_with fail
   go_still_tail 12, (by kernel_rfl)
   change wpList _ _ _ _ _ w1.drew
   refine wpList_mapUpdate_k rfl _ _ _ _ rfl 23 (int_keyed Tryz.underlying3) (fun x y h => by injection h) Tryz.underlying81 rfl (HMB.out.block rfl : kmap w1.drew _ _ _ _ _) (i : Int) rfl ⟨_, intK i (by have := HI.out; omega)⟩ _ rfl ?_
   intro w3 hk3 hg3 hs3
   have F := Lib.hid (show ∃ V', DgAt A w3 d (D.wet i) (.slice (some ⟨g, o, none⟩) D.T.length c) mb vs V' pp ∧ Only (fun b => b = mb) w1 w3 from by
    have ho3 : Only (fun b => b = mb) w1 w3 := Only.undrew (Only.grown hg3 fun j e => (Option.some.inj e).symm)
    exact ⟨_, H.out.keep HVI.out.2 HVI.out.1 HOV.out hk3 ho3, ho3⟩)
   clear hk3 hg3 hs3
   go_wp2_with fail
   go_meet
   case rel => exact F.out
 case rest =>
  obtain ⟨V', h2, ho⟩ := hcut
  have H2 := Lib.hid h2
  have HO := Lib.hid ho
  have c0' : wc.cell? ⟨d, 0, none⟩ = some (.slice (some ⟨g, o, none⟩) TL c) := by rw [← HTL.out]; exact h2.cells.cell 0
  have hb2 : Reads wc 1 (.slice ba 64 bcap) 64 (bc l) := Reads.only HB.out.1 ho fun g' hg' e => HB.out.2 g' hg' (.inr (.inl e))
  have cv2 : wc.cell? ⟨g, o + i, none⟩ = some v := (Only.cell ho (World.block_lt_of_cell? _ _ cv) HG.out.1).trans cv
  have HCL := Lib.hid (fun w' (hs : Still wc w') => clone_b (.slice ba 64 bcap) 64 (bc l) w' (Reads.still hb2 hs) (bc_one l) (by omega))
  have SS := Lib.hid (fun w' (hs : Still wc w') => show w'.cell? ⟨d, 0, none⟩ = some (.slice (some ⟨g, o, none⟩) TL c) from Still.cell hs c0')
  have HCV := Lib.hid cv2
  have hwT : (D.wet i).T = D.T := rfl
  have hfr : ∀ w', Still wc w' → w'.frozen? ⟨g, o + i, none⟩ = false := fun w' hs => by
   obtain ⟨g', o', c', he, ht⟩ := (h2.still hs).t.form (by rw [hwT]; have := HI.out; omega)
   injection he with he _ _
   injection he with he
   injection he with e1 e2
   subst e1 e2
   exact ht.free i (by rw [hwT]; have := HI.out; omega)
  have HFR := Lib.hid hfr
  clear h2 ho hb2 hfr cv cv2 hl c0 c1 hwT
  go_wp2_with fail
  refine wp_region_D_drew (D := (fun i => [0, 1, 2, 4, 5, 7, 8].contains i)) (S := (fun w' => w'.cell? ⟨d, 0, none⟩ = some (.slice (some ⟨g, o, none⟩) TL c))) (by kernel_rfl) ?_ (fun hHeld => ?_)
  · exact SS.out _ (still_drew _)
  (refine takeD (i := 0) (some 42) (v := ?_) rfl (by rfl) (by rfl) (by kernel_rfl) (by rfl) (fun _ _ _ h => h) ?_ ?_; rotate_left; (intro w; go_simp; try with_reducible rfl); try go_frame)
  (refine takeD (i := 1) (some 43) (v := ?_) rfl (by rfl) (by rfl) (by kernel_rfl) (by rfl) (fun _ _ _ h => h) ?_ ?_; rotate_left; (intro w; go_simp; try with_reducible rfl); try go_frame)
  (refine takeD (i := 2) (some 44) (v := ?_) rfl (by rfl) (by rfl) (by kernel_rfl) (by rfl) (fun _ _ _ h => h) ?_ ?_; rotate_left; (intro w; go_simp; try with_reducible rfl); try go_frame)
  (refine takeD (i := 4) (some 46) (v := ?_) rfl (by rfl) (by rfl) (by kernel_rfl) (by rfl) (fun _ _ _ h => h) ?_ ?_; rotate_left; (intro w; go_simp; try with_reducible rfl); try go_frame)
  (refine takeD (i := 5) (some 47) (v := ?_) rfl (by rfl) (by rfl) (by kernel_rfl) (by rfl) (fun _ _ _ h => h) ?_ ?_; rotate_left; (intro w; go_simp; try with_reducible rfl); try go_frame)
  (refine takeS (i := 3) (some 45) (v := ?_) rfl (by rfl) (by rfl) (by kernel_rfl) (by rfl) (fun _ _ _ h => h) (by assumption) ?_ ?_; rotate_left; (intro w hSw; (try dsimp only at hSw); go_simp; try with_reducible rfl); try go_frame)
  refine wpAnyD_ready (rs := [6]) (by kernel_rfl) (by simp) ?_
  refine ReadyD.cons rfl (fun K hK => ?_) ?_
  go_simp
  (go_at_call 44; (with_reducible refine (HCL.out _ (still_drew wc)).mono ?_); rintro e w3 ⟨v3, rfl, hv3, hb3, hg3⟩)
  have hs3 : Still wc w3 := (still_drew wc).trans (Only.ofBelow hb3)
  go_wp2_with fail
  (refine hK.out _ _ ?_ (fun hNew => ?_); (focus (exact SS.out _ hs3)); clear hHeld; have hHeld := hNew; clear hNew)
  (clear hK K; try go_frame)
  have cv3 := Still.cell hs3 HCV.out
  have f3 := HFR.out _ hs3
  obtain ⟨a3, k3, hv3e⟩ := hv3.form'
  have HP := Lib.hid (show DgAt (Newer A w1 w3) (w3.setCell ⟨g, o + i, none⟩ v3) d (D.laid i l) (.slice (some ⟨g, o, none⟩) D.T.length c) mb (vs.set i v3) V' pp ∧ Only (fun b => b = mb ∨ b = g) w1 (w3.setCell ⟨g, o + i, none⟩ v3) ∧ (w3.setCell ⟨g, o + i, none⟩ v3).heap.size = w3.heap.size from by
   have hwz := HO.out.size
   have hsz3 := hs3.size
   have hA : ∀ g', A g' → g' < w1.heap.size := H.out.lt
   have hgr : DgAt (Newer A w1 w3) w3 d (D.wet i) (.slice (some ⟨g, o, none⟩) D.T.length c) mb vs V' pp := (H2.out.still hs3).grow (fun g' hg' => .inl hg') fun g' hg' => hg'.elim (fun e => by have := hA g' e; omega) fun e => e.2
   refine ⟨hgr.put rfl HI.out.1 hv3.reads (fun g' hg' => ?_) (by rw [hv3e]; rfl), ?_, by simp [World.setCell]⟩
   · have e1 := hg3 g' hg'
     have hz : wc.drew.heap.size = wc.heap.size := rfl
     exact ⟨.inr ⟨by omega, e1.2⟩, fun e => by have := hA g' (H.out.mu g' e); omega⟩
   · exact ((HO.out.mono fun b e => .inl e).trans (hs3.mono fun _ e => e.elim)).trans ((setCell_only w3 ⟨g, o + i, none⟩ v3).mono fun b e => .inr e))
  clear hv3 hb3 hg3 hs3 HFR
  subst hv3e
  (refine takeD (i := 7) (some 49) (v := ?_) rfl (by rfl) (by rfl) (by kernel_rfl) (by rfl) (fun _ _ _ h => h) ?_ ?_; rotate_left; (intro w; go_simp; try with_reducible rfl); try go_frame)
  refine wpAnyD_ready (rs := [8]) (by kernel_rfl) (by simp) ?_
  refine ReadyD.last rfl (by rfl) (fun K hK => ?_) ?_
  go_simp
  refine hK.out _ _ ?_
  (clear hK K; try go_frame)
  refine wpAnyD_done (by kernel_rfl) ?_ _
  rotate_left
  exact ReadyD.nil
  exact ReadyD.nil
  clear cv3 f3 hHeld
  obtain ⟨hp, hpo, hpz⟩ := HP.out
  have hfine : (D.laid i l).fine := HF.out
  have HCU := Lib.hid (cut_at hp hfine)
  have HPO := Lib.hid (And.intro hpo hpz)
  generalize (w3.setCell ⟨g, o + i, none⟩ (.slice a3 64 k3)) = w4 at *
  clear hp hpo hpz HP
  have HW := Lib.hid (show ∀ w' : World, Only (fun b => b = d ∨ b = mb ∨ b = g ∨ pp = some b) w4 w' → Only A w1 w' ∧ ∀ g', Newer A w1 w3 g' → Newer A w1 w' g' ∧ g' < w'.heap.size from fun w' hw' => by
   have hmu := H.out.mu
   have hsz := hw'.size
   have e3 : w4.heap.size = w3.heap.size := HPO.out.2
   refine ⟨(HPO.out.1.mono fun b e => e.elim (fun e => hmu b (.inr (.inl e))) fun e => hmu b (.inr (.inr (.inl (by rw [e]; rfl))))).trans (hw'.mono fun b e => ?_), fun g' hg' => ?_⟩
   · rcases e with e | e | e | e
     · exact hmu b (.inl e)
     · exact hmu b (.inr (.inl e))
     · exact hmu b (.inr (.inr (.inl (by rw [e]; rfl))))
     · exact hmu b (.inr (.inr (.inr e)))
   · have hA := H.out.lt
     have hz1 := HPO.out.1.size
     rcases hg' with e | e
     · have := hA g' e
       exact ⟨.inl e, by omega⟩
     · exact ⟨.inr ⟨e.1, by omega⟩, by omega⟩)
  go_wp2_with fail
  refine HCU.out.mono ?_
  rintro e w5 ⟨rfl, hp5, ho5⟩
  cases hpl : D.plan with
  | none =>
   have hc : (D.laid i l).cuts = false := by unfold PDk.cuts PDk.laid PDk.wet; dsimp only; rw [hpl]
   have hd : (D.laid i l).done = (0, (D.laid i l).less) := by
    unfold PDk.done PDk.less PDk.laid PDk.wet
    dsimp only
    rw [hpl]
    rfl
   have F := Lib.hid (show DgPostN A w1 d (D.laid i l).done (.returned (.int .i64 0)) w5 from by
    have hw := HW.out w5 (ho5.mono fun b e => .inr (.inr (.inr e)))
    rw [hd]
    exact ⟨rfl, ⟨_, _, _, _, _, hp5.grow (fun g' hg' => (hw.2 g' hg').1) fun g' hg' => hg'.elim (fun e => by have := H.out.lt g' e; have := hw.1.size; omega) fun e => e.2⟩, hw.1⟩)
   rw [hc]
   clear hp5 ho5 hc hd HCU hpl
   go_wp2_with fail
   go_ret
   exact F.out
  | some p =>
   obtain ⟨k, mask⟩ := p
   have hc : (D.laid i l).cuts = decide (k - 1 < 0) := by unfold PDk.cuts PDk.laid PDk.wet; dsimp only; rw [hpl]
   have hpl2 : (D.laid i l).less.plan = some (k - 1, mask) := by
    show D.plan.map _ = _
    rw [hpl]
    rfl
   by_cases hk : k - 1 < 0
   · have hd : (D.laid i l).done = (2, (D.laid i l).less.crash mask) := by
      unfold PDk.done PDk.laid PDk.wet
      dsimp only
      rw [hpl]
      dsimp only
      rw [if_pos hk]
      rfl
     rw [hc, decide_eq_true hk]
     obtain ⟨b, mv, hb, hbc, hsl, hby⟩ := hp5.pl _ _ hpl2
     obtain ⟨ma, mc, rfl⟩ := hsl.form
     have c3 : w5.cell? ⟨d, 3, none⟩ = some (.pointer (some ⟨b, 0, none⟩)) := by
      have := hp5.cells.cell 3
      rw [hb] at this
      exact this
     have cm : w5.cell? ⟨b, 1, none⟩ = some (.slice ma mask.length mc) := hbc.cell 1
     have HCR := Lib.hid (crash_at hp5 (by show (D.T.set i l).length ≤ 2000; rw [List.length_set]; exact HI.out.2) ma mc mask (fun _ => hsl) (fun g' hg' e => hg'.2 (.inr (.inr (.inl e)))) rfl hby)
     have HO5 := Lib.hid ho5
     have HD := Lib.hid hd
     clear hp5 ho5 hc hd HCU hpl hpl2 hk hb hbc hsl hby
     generalize mask.length = ml at *
     go_wp2_with fail
     refine HCR.out.mono ?_
     rintro e w6 ⟨rfl, ⟨vs6, hp6⟩, ho6⟩
     have F := Lib.hid (show DgPostN A w1 d (D.laid i l).done (.returned (.int .i64 2)) w6 from by
      rw [HD.out]
      have hw := HW.out w6 ((HO5.out.mono fun b e => .inr (.inr (.inr e))).trans (ho6.mono fun b e => e.elim .inl fun e => .inr (e.elim .inl fun e => .inr (.inl (Option.some.inj e).symm))))
      exact ⟨rfl, ⟨_, _, _, _, _, hp6.grow (fun g' hg' => (hw.2 g' hg').1) fun g' hg' => hg'.elim (fun e => by have := H.out.lt g' e; have := hw.1.size; omega) fun e => e.2⟩, hw.1⟩)
     clear hp6 ho6 HCR
     go_wp2_with fail
     go_ret
     exact F.out
   · have hd : (D.laid i l).done = (0, (D.laid i l).less) := by
      unfold PDk.done PDk.laid PDk.wet
      dsimp only
      rw [hpl]
      dsimp only
      rw [if_neg hk]
     have F := Lib.hid (show DgPostN A w1 d (D.laid i l).done (.returned (.int .i64 0)) w5 from by
      have hw := HW.out w5 (ho5.mono fun b e => .inr (.inr (.inr e)))
      rw [hd]
      exact ⟨rfl, ⟨_, _, _, _, _, hp5.grow (fun g' hg' => (hw.2 g' hg').1) fun g' hg' => hg'.elim (fun e => by have := H.out.lt g' e; have := hw.1.size; omega) fun e => e.2⟩, hw.1⟩)
     rw [hc, decide_eq_false hk]
     clear hp5 ho5 hc hd HCU hpl hpl2 hk
     go_wp2_with fail
     go_ret
     exact F.out
end Go.Proofs.YtojkggppcmdepaaGreat

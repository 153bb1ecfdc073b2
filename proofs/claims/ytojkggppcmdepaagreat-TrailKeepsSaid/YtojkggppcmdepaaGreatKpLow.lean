/- The keys of a map with numbers, sorted: plain. No program's function. Conditions: the numbers are below a bound. The library's contracts at this program, as the kit's tools have laid them: maps.Keys, slices.Sorted, slices.Sort of numbers. No conditions. The loose tiles of a disk: the keys of its map, sorted. Conditions: the map lies in memory, its keys are below a bound. A disk that may be dead, or armed: a mask's bits; what a crash leaves: plain; its small calls. Conditions: they lie in memory. A disk that may be dead, or armed, in memory; what a crash leaves. Conditions: it lies in memory. A crash of a disk. Conditions: it lies in memory. A disk that may be dead, or armed: may, cut, write. Conditions: it lies in memory; at most two thousand tiles. A disk that may be dead, or armed: write. Conditions: it lies in memory; at most two thousand tiles; the tile is there. A disk that may be dead, or armed: sync, arm, power, dead, read, tiles. Conditions: it lies in memory; at most two thousand tiles. A trail on a disk that may be armed: its tiles are laid. Conditions: both lie in memory; the disk is alive. A disk that is armed. Conditions: it lies in memory; a mask that lies in memory. A new disk. Conditions: at most two thousand tiles. What a cleaning leaves on a disk: plain. No program. No conditions. A trail opened, forced, on a disk that may be armed. Conditions: both lie in memory, the disk is alive; what is opened is not armed. What is read of tiles of which some are old: plain. No program. No conditions. -/
import Derived.Test.YtojkggppcmdepaaGreatKMap
import Derived.Lib.SlKeysI
import Derived.Shelf.SlIterI.Nil
import Derived.Shelf.SortM.Plain
import Derived.Shelf.SortM.SortNone
import Derived.Ground.GgzProg
import Derived.Ground.SlgmProg
import Derived.Test.YtojkggppcmdepaaGreatProg
import Derived.Test.YtojkggppcmdepaaGreatTrA
import Derived.Test.YtojkggppcmdepaaGreatSl
import Derived.Test.YtojkggppcmdepaaGreatTrB
import Derived.Test.YtojkggppcmdepaaGreatTrFo
import Derived.Test.YtojkggppcmdepaaGreatTrBe
namespace Go.Wh
open Go.MapKept Go.RowKit Go.Maps
open Go.WideElems (Fit rd rg rd_mk rg_of)

theorem nodup_below : ∀ (n : Nat) (l : List Int), l.Nodup → (∀ x ∈ l, 0 ≤ x ∧ x < n) → l.length ≤ n
  | 0, [], _, _ => Nat.le_refl _
  | 0, x :: l, _, h => by have := h x (by simp); omega
  | n + 1, l, hnd, h => by
    by_cases hm : (n : Int) ∈ l
    · have h1 := List.length_erase_of_mem hm
      have h2 := nodup_below n (l.erase (n : Int)) (hnd.erase _) fun x hx => by
        have h3 := (List.Nodup.mem_erase_iff hnd).1 hx
        have h4 := h x h3.2
        have h5 := h3.1
        omega
      have := List.length_pos_of_mem hm
      omega
    · have := nodup_below n l hnd fun x hx => by
        have h4 := h x hx
        have : x ≠ (n : Int) := fun e => hm (e ▸ hx)
        omega
      omega
/-- The numbers below n that are marked. -/
def looseL (q : Nat → Bool) (n : Nat) : List Nat := (List.range n).filter q
theorem looseL_mem {q : Nat → Bool} {n i : Nat} : i ∈ looseL q n ↔ i < n ∧ q i = true := by
  unfold looseL
  rw [List.mem_filter, List.mem_range]
theorem looseL_sorted (q : Nat → Bool) (n : Nat) : (looseL q n).Pairwise (· < ·) := (List.pairwise_lt_range (n := n)).filter _
theorem looseL_nodup (q : Nat → Bool) (n : Nat) : (looseL q n).Nodup := (looseL_sorted q n).imp fun h => Nat.ne_of_lt h
theorem sort_loose {q : Nat → Bool} {n : Nat} {ss : List Int} (hnd : ss.Nodup) (hm : ∀ x, x ∈ ss ↔ ∃ i : Nat, i < n ∧ q i = true ∧ x = i) : ss.mergeSort (fun x y => decide (x ≤ y)) = (looseL q n).map fun i : Nat => (i : Int) := by
  have tr : ∀ a b c : Int, leI a b = true → leI b c = true → leI a c = true := fun a b c h1 h2 => by simp only [leI, decide_eq_true_eq] at *; exact Int.le_trans h1 h2
  have tot : ∀ a b : Int, (leI a b || leI b a) = true := fun a b => by simp only [leI, Bool.or_eq_true, decide_eq_true_eq]; exact Int.le_total a b
  have hnd2 : ((looseL q n).map fun i : Nat => (i : Int)).Nodup := List.pairwise_map.2 ((looseL_nodup q n).imp fun {a b} h e => h (by have e' : (a : Int) = (b : Int) := e; omega))
  have hp : ss.Perm ((looseL q n).map fun i : Nat => (i : Int)) := (List.perm_ext_iff_of_nodup hnd hnd2).2 fun x => by
    rw [hm x, List.mem_map]
    constructor
    · rintro ⟨i, h1, h2, rfl⟩
      exact ⟨i, looseL_mem.2 ⟨h1, h2⟩, rfl⟩
    · rintro ⟨i, h1, rfl⟩
      exact ⟨i, (looseL_mem.1 h1).1, (looseL_mem.1 h1).2, rfl⟩
  refine List.Perm.eq_of_pairwise (le := fun a b => leI a b = true) (fun a b _ _ h1 h2 => ?_) (List.pairwise_mergeSort tr tot ss) (List.pairwise_map.2 ((looseL_sorted q n).imp fun {a b} h => ?_)) ((List.mergeSort_perm ss leI).trans hp)
  · simp only [leI, decide_eq_true_eq] at h1 h2
    exact Int.le_antisymm h1 h2
  · simp only [leI, decide_eq_true_eq]
    omega
/-- How a map's elements are read here: not at all. -/
def anyV (H : Type) : Value → Option (DataW H × List MemPlace) := fun _ => some (.lit (.bool true), [])
theorem kmap_owns {P : Program} {k : TypeId} (hk : P.underlying k = some (.int .i64)) {w : World} {b n : Nat} {V : Int → Option Value} (h : kmap w P k encZ b V) (hn : n ≤ 100000) (hr : ∀ x v, V x = some v → 0 ≤ x ∧ x < n) :
    ∃ D : DataW Unit, w.ownsMap P k (anyV Unit) b n D ∧ Maps.size D ≤ n ∧ ∀ ss : List Int, ss.Perm (intKeys D) → ss.Nodup ∧ ∀ x, x ∈ ss ↔ (V x).isSome = true := by
  obtain ⟨es, clock, hb, hst, hkey, hE, hV⟩ := h
  have hint : ∀ x ∈ es.toList, ∃ a : Int, x.key = encZ a ∧ rd P k (anyV Unit) x = some (.int .i64 a, .lit (.bool true)) := fun x hx => by
    obtain ⟨l, hl⟩ := hkey x hx
    obtain ⟨a, ha, hla, -⟩ := Maps.keyOf_i64 hk hl
    refine ⟨a, ha, ?_⟩
    unfold rd
    rw [hl, hla]
    rfl
  have hlen : es.size ≤ n := by
    have h1 : (es.toList.map fun x => intOf (rg P k (anyV Unit) x).1).length ≤ n := by
      refine nodup_below n _ ?_ fun z hz => ?_
      · refine List.pairwise_map.2 ((List.pairwise_map.1 hst.2.2).imp_of_mem fun {x y} hx hy hne e => hne ?_)
        obtain ⟨a, ha, hra⟩ := hint x hx
        obtain ⟨c, hc, hrc⟩ := hint y hy
        rw [rg_of hra, rg_of hrc] at e
        rw [ha, hc]
        exact congrArg encZ e
      · obtain ⟨x, hx, rfl⟩ := List.mem_map.1 hz
        obtain ⟨a, ha, hra⟩ := hint x hx
        rw [rg_of hra]
        exact hr a x.val ((hV a x.val).2 ⟨x, hx, ha, rfl⟩)
    rw [List.length_map, Array.length_toList] at h1
    exact h1
  have hfit : Fit P k (anyV Unit) es clock := ⟨by simp only [maxLen]; omega, hst, fun x hx => by
    obtain ⟨a, -, hra⟩ := hint x hx
    exact ⟨_, hra⟩⟩
  have hown : w.ownsMap P k (anyV Unit) b n (.map ((es.toList.map (rg P k (anyV Unit))).foldr DataW.insert [])) := ⟨es, clock, hb, hfit, hlen, rfl⟩
  refine ⟨_, hown, ?_, fun ss hp => ?_⟩
  · show ((es.toList.map (rg P k (anyV Unit))).foldr DataW.insert []).length ≤ n
    rw [(Go.WideShapes.sorted_perm _).length_eq, List.length_map, Array.length_toList]
    exact hlen
  · obtain ⟨es', he', hpw, -⟩ := hown.entries (int_keyed hk)
    injection he' with he'
    have hmem : ∀ x : Int, x ∈ intKeys (DataW.map ((es.toList.map (rg P k (anyV Unit))).foldr DataW.insert [])) ↔ (V x).isSome = true := fun x => by
      show x ∈ ((es.toList.map (rg P k (anyV Unit))).foldr DataW.insert []).map (fun p => intOf p.1) ↔ _
      rw [List.mem_map]
      constructor
      · rintro ⟨p, hp, rfl⟩
        obtain ⟨y, hy, rfl⟩ := List.mem_map.1 (mem_sorted.1 hp)
        obtain ⟨a, ha, hra⟩ := hint y hy
        rw [rg_of hra]
        show (V a).isSome = true
        rw [(hV a y.val).2 ⟨y, hy, ha, rfl⟩]
        rfl
      · intro hx
        obtain ⟨v, hv⟩ := Option.isSome_iff_exists.1 hx
        obtain ⟨y, hy, hyk, -⟩ := (hV x v).1 hv
        obtain ⟨a, ha, hra⟩ := hint y hy
        refine ⟨rg P k (anyV Unit) y, mem_sorted.2 (List.mem_map.2 ⟨y, hy, rfl⟩), ?_⟩
        rw [rg_of hra]
        exact encZ_inj (ha.symm.trans hyk)
    have hnd : (intKeys (DataW.map ((es.toList.map (rg P k (anyV Unit))).foldr DataW.insert []))).Nodup := by
      show (((es.toList.map (rg P k (anyV Unit))).foldr DataW.insert []).map (fun p => intOf p.1)).Nodup
      rw [he']
      refine List.pairwise_map.2 (hpw.imp_of_mem fun {p q} hp hq hne e => hne ?_)
      rw [← he'] at hp hq
      obtain ⟨y, hy, rfl⟩ := List.mem_map.1 (mem_sorted.1 hp)
      obtain ⟨z, hz, rfl⟩ := List.mem_map.1 (mem_sorted.1 hq)
      obtain ⟨a, ha, hra⟩ := hint y hy
      obtain ⟨c, hc, hrc⟩ := hint z hz
      rw [rg_of hra, rg_of hrc] at e ⊢
      have e' : a = c := e
      rw [e']
    exact ⟨hp.nodup_iff.2 hnd, fun x => (hp.mem_iff).trans (hmem x)⟩
end Go.Wh

namespace Go.Proofs.YtojkggppcmdepaaGreat
open Go.Shelf
def ls_keysA_ren : Go.Shelf.Ren := ⟨fun | 7 => 89 | 10 => 122 | n => n, fun | 23 => 81 | 26 => 3 | 3 => 23 | 28 => 145 | 0 => 0 | 27 => 144 | 33 => 176 | 4 => 4 | n => n, fun | n => n⟩
theorem ls_keysA : Go.Proofs.SlLaysZI.n7 Tryz.prog ls_keysA_ren := {
  mixed := by kernel_rfl
  f7 := ⟨Tryz.f89.name, by decide, Tryz.func89.trans (congrArg some (by kernel_rfl))⟩
  f10 := ⟨Tryz.f122.name, by decide, Tryz.func122.trans (congrArg some (by kernel_rfl))⟩
  t0 := Tryz.underlying0
  a0 := Tryz.isAgg0
  z0 := Tryz.sizeOf0
  v0 := Tryz.zeroValue0
  t4 := Tryz.underlying4
  a4 := Tryz.isAgg4
  z4 := Tryz.sizeOf4
  v4 := Tryz.zeroValue4
  t23 := Tryz.underlying81
  a23 := Tryz.isAgg81
  z23 := Tryz.sizeOf81
  v23 := Tryz.zeroValue81
  t26 := Tryz.underlying3
  a26 := Tryz.isAgg3
  z26 := Tryz.sizeOf3
  v26 := Tryz.zeroValue3
  t27 := Tryz.underlying144
  a27 := Tryz.isAgg144
  z27 := Tryz.sizeOf144
  v27 := Tryz.zeroValue144
  t28 := Tryz.underlying145
  a28 := Tryz.isAgg145
  z28 := Tryz.sizeOf145
  v28 := Tryz.zeroValue145
  t33 := Tryz.underlying176
  a33 := Tryz.isAgg176
  z33 := Tryz.sizeOf176
  v33 := Tryz.zeroValue176 }
def ls_sortedA_ren : Go.Shelf.Ren := ⟨fun | 6 => 88 | 8 => 120 | 9 => 121 | 11 => 134 | 13 => 136 | 12 => 135 | 23 => 151 | 24 => 152 | 14 => 142 | 15 => 143 | 16 => 144 | 17 => 145 | 18 => 146 | 19 => 147 | 20 => 148 | 21 => 149 | 22 => 150 | 25 => 153 | 26 => 154 | 27 => 155 | 28 => 156 | 29 => 157 | 30 => 158 | 31 => 159 | n => n, fun | 26 => 3 | 28 => 145 | 24 => 90 | 0 => 0 | 3 => 3 | 37 => 72 | 48 => 68 | 50 => 196 | 4 => 4 | 40 => 188 | 39 => 187 | 45 => 192 | 5 => 5 | 9 => 9 | 51 => 197 | 55 => 201 | 57 => 203 | 58 => 74 | 33 => 176 | n => n, fun | n => n⟩
theorem ls_sortedA : Go.Proofs.SlLaysZI.n6 Tryz.prog ls_sortedA_ren := {
  mixed := by kernel_rfl
  f6 := ⟨Tryz.f88.name, by decide, Tryz.func88.trans (congrArg some (by kernel_rfl))⟩
  f8 := ⟨Tryz.f120.name, by decide, Tryz.func120.trans (congrArg some (by kernel_rfl))⟩
  f11 := ⟨Tryz.f134.name, by decide, Tryz.func134.trans (congrArg some (by kernel_rfl))⟩
  t0 := Tryz.underlying0
  a0 := Tryz.isAgg0
  z0 := Tryz.sizeOf0
  v0 := Tryz.zeroValue0
  t24 := Tryz.underlying90
  a24 := Tryz.isAgg90
  z24 := Tryz.sizeOf90
  v24 := Tryz.zeroValue90
  t26 := Tryz.underlying3
  a26 := Tryz.isAgg3
  z26 := Tryz.sizeOf3
  v26 := Tryz.zeroValue3
  t28 := Tryz.underlying145
  a28 := Tryz.isAgg145
  z28 := Tryz.sizeOf145
  v28 := Tryz.zeroValue145
  i26 := by kernel_rfl }
def ls_sortA_ren : Go.Shelf.Ren := ⟨fun | 5 => 121 | 8 => 136 | 7 => 135 | 19 => 151 | 20 => 152 | 10 => 142 | 11 => 143 | 12 => 144 | 13 => 145 | 14 => 146 | 15 => 147 | 16 => 148 | 17 => 149 | 18 => 150 | 30 => 153 | 31 => 154 | 32 => 155 | 33 => 156 | 34 => 157 | 35 => 158 | 40 => 159 | n => n, fun | 23 => 90 | 25 => 3 | 3 => 3 | 32 => 72 | 22 => 90 | 0 => 0 | 44 => 68 | 46 => 196 | 4 => 4 | 36 => 188 | 35 => 187 | 41 => 192 | 5 => 5 | 9 => 9 | 53 => 197 | 57 => 201 | 63 => 203 | 64 => 74 | n => n, fun | n => n⟩
theorem ls_sortA : Go.Proofs.SlLaysM.n5 Tryz.prog ls_sortA_ren := {
  mixed := by kernel_rfl
  f5 := ⟨Tryz.f121.name, by decide, Tryz.func121.trans (congrArg some (by kernel_rfl))⟩
  f7 := ⟨Tryz.f135.name, by decide, Tryz.func135.trans (congrArg some (by kernel_rfl))⟩
  f8 := Tryz.func136.trans (congrArg some (by kernel_rfl))
  f10 := ⟨Tryz.f142.name, by decide, Tryz.func142.trans (congrArg some (by kernel_rfl))⟩
  f11 := ⟨Tryz.f143.name, by decide, Tryz.func143.trans (congrArg some (by kernel_rfl))⟩
  f12 := ⟨Tryz.f144.name, by decide, Tryz.func144.trans (congrArg some (by kernel_rfl))⟩
  f13 := ⟨Tryz.f145.name, by decide, Tryz.func145.trans (congrArg some (by kernel_rfl))⟩
  f14 := ⟨Tryz.f146.name, by decide, Tryz.func146.trans (congrArg some (by kernel_rfl))⟩
  f15 := ⟨Tryz.f147.name, by decide, Tryz.func147.trans (congrArg some (by kernel_rfl))⟩
  f16 := ⟨Tryz.f148.name, by decide, Tryz.func148.trans (congrArg some (by kernel_rfl))⟩
  f17 := ⟨Tryz.f149.name, by decide, Tryz.func149.trans (congrArg some (by kernel_rfl))⟩
  f18 := ⟨Tryz.f150.name, by decide, Tryz.func150.trans (congrArg some (by kernel_rfl))⟩
  f19 := Tryz.func151.trans (congrArg some (by kernel_rfl))
  f20 := Tryz.func152.trans (congrArg some (by kernel_rfl))
  f30 := ⟨Tryz.f153.name, by decide, Tryz.func153.trans (congrArg some (by kernel_rfl))⟩
  f31 := Tryz.func154.trans (congrArg some (by kernel_rfl))
  f32 := Tryz.func155.trans (congrArg some (by kernel_rfl))
  f33 := ⟨Tryz.f156.name, by decide, Tryz.func156.trans (congrArg some (by kernel_rfl))⟩
  f34 := ⟨Tryz.f157.name, by decide, Tryz.func157.trans (congrArg some (by kernel_rfl))⟩
  f35 := ⟨Tryz.f158.name, by decide, Tryz.func158.trans (congrArg some (by kernel_rfl))⟩
  f40 := ⟨Tryz.f159.name, by decide, Tryz.func159.trans (congrArg some (by kernel_rfl))⟩
  t0 := Tryz.underlying0
  a0 := Tryz.isAgg0
  z0 := Tryz.sizeOf0
  v0 := Tryz.zeroValue0
  t3 := Tryz.underlying3
  a3 := Tryz.isAgg3
  z3 := Tryz.sizeOf3
  v3 := Tryz.zeroValue3
  t4 := Tryz.underlying4
  a4 := Tryz.isAgg4
  z4 := Tryz.sizeOf4
  v4 := Tryz.zeroValue4
  t5 := Tryz.underlying5
  a5 := Tryz.isAgg5
  z5 := Tryz.sizeOf5
  v5 := Tryz.zeroValue5
  t9 := Tryz.underlying9
  a9 := Tryz.isAgg9
  z9 := Tryz.sizeOf9
  v9 := Tryz.zeroValue9
  t22 := Tryz.underlying90
  a22 := Tryz.isAgg90
  z22 := Tryz.sizeOf90
  v22 := Tryz.zeroValue90
  t23 := Tryz.underlying90
  a23 := Tryz.isAgg90
  z23 := Tryz.sizeOf90
  v23 := Tryz.zeroValue90
  t25 := Tryz.underlying3
  a25 := Tryz.isAgg3
  z25 := Tryz.sizeOf3
  v25 := Tryz.zeroValue3
  t32 := Tryz.underlying72
  a32 := Tryz.isAgg72
  z32 := Tryz.sizeOf72
  v32 := Tryz.zeroValue72
  t35 := Tryz.underlying187
  a35 := Tryz.isAgg187
  z35 := Tryz.sizeOf187
  v35 := Tryz.zeroValue187
  t36 := Tryz.underlying188
  a36 := Tryz.isAgg188
  z36 := Tryz.sizeOf188
  v36 := Tryz.zeroValue188
  t41 := Tryz.underlying192
  a41 := Tryz.isAgg192
  z41 := Tryz.sizeOf192
  v41 := Tryz.zeroValue192
  t44 := Tryz.underlying68
  a44 := Tryz.isAgg68
  z44 := Tryz.sizeOf68
  v44 := Tryz.zeroValue68
  t46 := Tryz.underlying196
  a46 := Tryz.isAgg196
  z46 := Tryz.sizeOf196
  v46 := Tryz.zeroValue196
  t53 := Tryz.underlying197
  a53 := Tryz.isAgg197
  z53 := Tryz.sizeOf197
  v53 := Tryz.zeroValue197
  t57 := Tryz.underlying201
  a57 := Tryz.isAgg201
  z57 := Tryz.sizeOf201
  v57 := Tryz.zeroValue201
  t63 := Tryz.underlying203
  a63 := Tryz.isAgg203
  z63 := Tryz.sizeOf203
  v63 := Tryz.zeroValue203
  t64 := Tryz.underlying74
  a64 := Tryz.isAgg74
  z64 := Tryz.sizeOf74
  v64 := Tryz.zeroValue74 }
end Go.Proofs.YtojkggppcmdepaaGreat

namespace Go.Proofs.YtojkggppcmdepaaGreat
open Go.RowKit Go.Wh Go.Maps Go.Sort Go.Shelf

theorem sorts_int (m : Nat) : AnyZI.SortsIn Tryz.prog ls_sortedA_ren Fence.wide m :=
  ⟨fun blk off cap ss W hH hblk hsz => callsIn_wide.2 (AnyM.slices_Sort_int ls_sortA blk off cap ss W hH hblk hsz),
   fun p cap W => callsIn_wide.2 (AnyM.slices_Sort_int_none ls_sortA p cap W)⟩
theorem keys_any (mb : Option Nat) (W : World) : Calls Tryz.prog 89 #[.map mb] W fun e w' => e = .returned (.func (.func 122) #[] #[.pointer (some ⟨W.heap.size, 0, none⟩)]) ∧ w' = W.alloc (.cells #[.map mb] 81) :=
  (callsIn_wide (n := 5)).1 (AnyZI.keys_in ls_keysA Fence.wide 5 trivial rfl mb W)
/-- What a call leaves that hands back numbers in a new row. -/
def NumsPost (w : World) (l : List Nat) (e : Ending) (w' : World) : Prop :=
  ∃ v, e = .returned v ∧ Vec w' 1 v l.length (l.map fun i : Nat => Value.int .i64 (i : Int)) ∧ Still w w' ∧ ∀ g, v.ownBlock = some g → w.heap.size ≤ g ∧ g < w'.heap.size
theorem sorted_keys (w : World) (mb n : Nat) (V : Int → Option Value) (hk : kmap w Tryz.prog 3 (fun z : Int => .int .i64 z) mb V) (hn : n ≤ 100000) (hr : ∀ x v, V x = some v → 0 ≤ x ∧ x < n) :
    Calls Tryz.prog 88 #[.func (.func 122) #[] #[.pointer (some ⟨w.heap.size, 0, none⟩)]] (w.alloc (.cells #[.map (some mb)] 81)) (NumsPost w (looseL (fun i => (V (i : Int)).isSome) n)) := by
  have hlt := hk.lt
  obtain ⟨D, hown, hsz, hD⟩ := kmap_owns Tryz.underlying3 hk hn hr
  have hseq : SeqGives Fence.wide 2 Tryz.prog 122 #[.pointer (some ⟨w.heap.size, 0, none⟩)] encZ (fun ss => ss.Perm (intKeys D)) (Maps.size D) (w.alloc (.cells #[.map (some mb)] 81)) :=
    AnyZI.keys_gives (ρ := ls_keysA_ren) { ls_keysA with } Fence.wide _ trivial rfl (by omega) w.heap.size mb n D _ (by simp) (by simp) (by
      obtain ⟨es, clock, hb, Ft, hs, hD⟩ := hown
      exact ⟨es, clock, (Below.heap_alloc _ _ mb hlt).trans hb, Ft, hs, hD⟩)
  have cS := AnyZI.sorted_in ls_sortedA Fence.wide 5 trivial trivial trivial trivial rfl (by omega) (sorts_int _) (enters_of Tryz.func121 (by kernel_rfl) rfl) 122 #[.pointer (some ⟨w.heap.size, 0, none⟩)] trivial (enters_of Tryz.func122 (by kernel_rfl) rfl) _ _ (by simp only [maxLen]; omega) (by omega) _ hseq
  change CallsIn _ _ Tryz.prog 88 _ _ _ at cS
  refine ((callsIn_wide (n := 5)).1 cS).mono ?_
  rintro e w' ⟨v, ss, rfl, hS, hrow, -, hb⟩
  obtain ⟨hnd, hm⟩ := hD ss hS
  have hs := sort_loose (q := fun i => (V (i : Int)).isSome) (n := n) hnd fun x => by
    rw [hm x]
    constructor
    · intro hx
      obtain ⟨v, hv⟩ := Option.isSome_iff_exists.1 hx
      have := hr x v hv
      obtain ⟨i, rfl⟩ : ∃ i : Nat, x = i := ⟨x.toNat, by omega⟩
      exact ⟨i, by omega, hx, rfl⟩
    · rintro ⟨i, -, h2, rfl⟩
      exact h2
  have hlen : ss.length = (looseL (fun i => (V (i : Int)).isSome) n).length := by
    have := congrArg List.length hs
    rw [List.length_mergeSort, List.length_map] at this
    exact this
  have hrow2 := hrow
  rw [hs, List.map_map, hlen] at hrow2
  have hst : Still w (w.alloc (.cells #[.map (some mb)] 81)) := (Still.refl w).alloc _
  refine ⟨v, rfl, ?_, hst.trans (Only.ofBelow hb), fun g hg => ?_⟩
  · exact vec_of_owns hrow2
  · have h1 := hrow2.lt g hg
    have h2 := h1.1
    simp at h2
    exact ⟨by omega, h1.2⟩
theorem loose_any (w : World) (d mb n : Nat) (V : Int → Option Value) (c1 : w.cell? ⟨d, 1, none⟩ = some (.map (some mb))) (hk : kmap w Tryz.prog 3 (fun z : Int => .int .i64 z) mb V) (hn : n ≤ 100000) (hr : ∀ x v, V x = some v → 0 ≤ x ∧ x < n) :
    Calls Tryz.prog 47 #[.pointer (some ⟨d, 0, none⟩)] w (NumsPost w (looseL (fun i => (V (i : Int)).isSome) n)) := by
  have HK := Lib.hid (keys_any (some mb) w)
  have HS := Lib.hid (sorted_keys w mb n V hk hn hr)
  clear hk hr hn
  go_enter Tryz.func47, Tryz.ntmps47
  go_wp2_with fail
  refine HK.out.mono ?_
  rintro e w1 ⟨rfl, rfl⟩
  go_wp2_with fail
  refine HS.out.mono ?_
  intro e w2 h
  obtain ⟨v, rfl, h⟩ := h
  have F := Lib.hid (show NumsPost w (looseL (fun i => (V (i : Int)).isSome) n) (.returned v) w2 from ⟨v, rfl, h⟩)
  clear h
  go_wp2_with fail
  go_ret
  exact F.out
end Go.Proofs.YtojkggppcmdepaaGreat

namespace Go.Proofs.YtojkggppcmdepaaGreat
open Go.RowKit Go.Wh Go.Maps

/-- A bit of a mask. -/
def mskB (mask : List Int) (i : Nat) : Bool := decide (i / 8 < mask.length) && (mask.getD (i / 8) 0 / 2 ^ (i % 8) % 2 != 0)
theorem u8_and1 : ∀ n : Fin 256, bits BinOp.and IntKind.u8 (n.val : Int) 1 = (n.val : Int) % 2 := by decide +kernel
theorem u8_bit {z : Int} {r : Nat} (h : 0 ≤ z ∧ z ≤ 255) : bits BinOp.and IntKind.u8 (z / 2 ^ r) 1 = z / 2 ^ r % 2 := by
  have h1 : 0 ≤ z / 2 ^ r := Int.ediv_nonneg h.1 (Int.le_of_lt (Int.pow_pos (by decide)))
  have h2 : z / 2 ^ r ≤ z := Int.ediv_le_self _ h.1
  have := u8_and1 ⟨(z / 2 ^ r).toNat, by omega⟩
  simp only [Int.toNat_of_nonneg h1] at this
  exact this
set_option maxRecDepth 10000 in
theorem set_any (w : World) (Q : Nat → Prop) (a : Option Addr) (n c i : Nat) (mask : List Int) (h : 0 < n → Sl w Q 1 (.slice a n c) n (bc mask)) (hl : mask.length = n) (hb : Byt mask) (hi : i ≤ 100000) :
    Calls Tryz.prog 48 #[.slice a n c, .int .i64 i] w (SamePost w (.bool (mskB mask i))) := by
  obtain ⟨q, hq⟩ : ∃ q, i / 8 = q := ⟨_, rfl⟩
  obtain ⟨r, hr⟩ : ∃ r, i % 8 = r := ⟨_, rfl⟩
  have e0 : (0 : Int) ≤ (i : Int) := by omega
  have e1 : (i : Int) / 8 = (q : Int) := by omega
  have e2 : (i : Int) % 8 = (r : Int) := by omega
  have e3 : IntKind.i64.wrap (q : Int) = (q : Int) := IntWalk.i64_in _ (by omega)
  have e4 : (0 : Int) ≤ (r : Int) := by omega
  have hr8 : r < 8 := by omega
  unfold mskB
  rw [hq, hr, hl]
  by_cases hqn : q < n
  · obtain ⟨g, o, c', hg, -, -, hcs⟩ := (h (by omega)).pos (by omega)
    cases hg
    obtain ⟨z, hz⟩ : ∃ z, mask[q]? = some z := ⟨_, List.getElem?_eq_getElem (by omega)⟩
    have hzb := hb z (List.mem_of_getElem? hz)
    have cz : w.cell? ⟨g, o + q, none⟩ = some (.int .u8 z) := hcs q _ (bc_get hz)
    have d1 : decide ((q : Int) < (n : Int)) = true := decide_eq_true (by omega)
    have d2 : decide (q < n) = true := decide_eq_true hqn
    have l0 : (0 : Int) ≤ (q : Int) := by omega
    have l1 : (q : Int) < (n : Int) := by omega
    have hgd : mask.getD q 0 = z := by rw [List.getD_eq_getElem?_getD, hz]; rfl
    rw [hgd, d2, Bool.true_and]
    have e5 := u8_bit (r := r) hzb
    clear h hl hb hi hq hr hqn hcs hz hgd
    go_enter Tryz.func48, Tryz.ntmps48
    go_wp2_with fail
    go_ret
    exact ⟨rfl, rfl⟩
  · have d1 : decide ((q : Int) < (n : Int)) = false := decide_eq_false (by omega)
    have d2 : decide (q < n) = false := decide_eq_false hqn
    rw [d2, Bool.false_and]
    clear h hl hb hi hq hr hqn
    go_enter Tryz.func48, Tryz.ntmps48
    go_wp2_with fail
    go_ret
    exact ⟨rfl, rfl⟩
end Go.Proofs.YtojkggppcmdepaaGreat

namespace Go.Proofs.YtojkggppcmdepaaGreat
open Go.RowKit Go.Wh Go.Maps

/-- A disk: its tiles; what the loose ones were; is it dead; which operation to come is cut, and what survives. -/
structure PDk where
  T : List (List Int)
  was : Nat → Option (List Int)
  dead : Bool
  plan : Option (Int × List Int)
def PDk.loose (D : PDk) : List Nat := looseL (fun i => (D.was i).isSome) D.T.length
/-- The tiles behind a crash: of the loose ones L the first i are looked at. -/
def crashN (was : Nat → Option (List Int)) (mask : List Int) (L : List Nat) (T : List (List Int)) : Nat → List (List Int)
  | 0 => T
  | i + 1 => if mskB mask i = true then crashN was mask L T i else (crashN was mask L T i).set (L.getD i 0) ((was (L.getD i 0)).getD [])
theorem crashN_length {was : Nat → Option (List Int)} {mask : List Int} {L : List Nat} {T : List (List Int)} : ∀ {i : Nat}, (crashN was mask L T i).length = T.length
  | 0 => rfl
  | i + 1 => by
    unfold crashN
    split
    · exact crashN_length
    · rw [List.length_set]
      exact crashN_length
def PDk.crash (D : PDk) (mask : List Int) : PDk := ⟨crashN D.was mask D.loose D.T D.loose.length, fun _ => none, true, none⟩

def ptrV : Option Nat → Value
  | none => .pointer none
  | some b => .pointer (some ⟨b, 0, none⟩)
/-- The disk's own blocks, which turn. -/
def Mu (d mb : Nat) (tv : Value) (pp : Option Nat) (g : Nat) : Prop := g = d ∨ g = mb ∨ tv.ownBlock = some g ∨ pp = some g
/-- The disk at d. A: its blocks, and those that it reads. -/
structure DgAt (A : Nat → Prop) (w : World) (d : Nat) (D : PDk) (tv : Value) (mb : Nat) (vs : List Value) (V : Int → Option Value) (pp : Option Nat) : Prop where
  cells : cellsAt w d [tv, .map (some mb), .bool D.dead, ptrV pp]
  t : Vec w 1 tv D.T.length vs
  ins : ∀ (i : Nat) (l : List Int), D.T[i]? = some l → ∃ v, vs[i]? = some v ∧ Reads w 1 v 64 (bc l)
  m : kmap w Tryz.prog 3 (fun z : Int => .int .i64 z) mb V
  wi : ∀ x v, V x = some v → ∃ (i : Nat) (l : List Int), i < D.T.length ∧ x = i ∧ D.was i = some l ∧ Reads w 1 v 64 (bc l)
  wn : ∀ i : Nat, V i = none → D.was i = none
  pl : ∀ k mask, D.plan = some (k, mask) → ∃ b mv, pp = some b ∧ cellsAt w b [.int .i64 k, mv] ∧ Sl w (fun g => A g ∧ ¬ Mu d mb tv pp g) 1 mv mask.length (bc mask) ∧ Byt mask
  pn : D.plan = none → pp = none
  dm : d ≠ mb
  td : ∀ g, tv.ownBlock = some g → g ≠ d ∧ g ≠ mb
  pd : ∀ g, pp = some g → g ≠ d ∧ g ≠ mb ∧ tv.ownBlock ≠ some g
  mu : ∀ g, Mu d mb tv pp g → A g
  ct : ∀ v ∈ vs, v.oneCell' = true ∧ ∀ g, v.ownBlock = some g → A g ∧ ¬ Mu d mb tv pp g
  cw : ∀ x v, V x = some v → v.oneCell' = true ∧ ∀ g, v.ownBlock = some g → A g ∧ ¬ Mu d mb tv pp g
  lt : ∀ g, A g → g < w.heap.size
section
variable {A X : Nat → Prop} {w w' : World} {d mb : Nat} {D : PDk} {tv : Value} {vs : List Value} {V : Int → Option Value} {pp : Option Nat}
theorem DgAt.only (h : DgAt A w d D tv mb vs V pp) (ho : Only X w w') (hx : ∀ g, A g → ¬ X g) : DgAt A w' d D tv mb vs V pp where
  cells := h.cells.only ho (hx d (h.mu d (.inl rfl)))
  t := h.t.only ho fun g hg => hx g (h.mu g (.inr (.inr (.inl hg))))
  ins i l hi := by
    obtain ⟨v, hv, hr⟩ := h.ins i l hi
    exact ⟨v, hv, Reads.only hr ho fun g hg => hx g ((h.ct v (List.mem_of_getElem? hv)).2 g hg).1⟩
  m := h.m.block (ho.block mb h.m.lt (hx mb (h.mu mb (.inr (.inl rfl)))))
  wi x v hv := by
    obtain ⟨i, l, h1, h2, h3, h4⟩ := h.wi x v hv
    exact ⟨i, l, h1, h2, h3, Reads.only h4 ho fun g hg => hx g ((h.cw x v hv).2 g hg).1⟩
  wn := h.wn
  pl k mask hp := by
    obtain ⟨b, mv, h1, h2, h3, h4⟩ := h.pl k mask hp
    exact ⟨b, mv, h1, h2.only ho (hx b (h.mu b (.inr (.inr (.inr h1))))), h3.only ho fun g hg => hx g hg.1, h4⟩
  pn := h.pn
  dm := h.dm
  td := h.td
  pd := h.pd
  mu := h.mu
  ct := h.ct
  cw := h.cw
  lt g hg := Nat.lt_of_lt_of_le (h.lt g hg) ho.size
theorem DgAt.still (h : DgAt A w d D tv mb vs V pp) (hs : Still w w') : DgAt A w' d D tv mb vs V pp := h.only hs fun _ _ e => e
theorem DgAt.form (h : DgAt A w d D tv mb vs V pp) : ∃ a c, tv = .slice a D.T.length c := h.t.form'
theorem DgAt.inr (h : DgAt A w d D tv mb vs V pp) : ∀ x v, V x = some v → 0 ≤ x ∧ x < D.T.length := fun x v hv => by
  obtain ⟨i, l, h1, h2, -, -⟩ := h.wi x v hv
  omega
theorem DgAt.was (h : DgAt A w d D tv mb vs V pp) (i : Nat) : (V (i : Int)).isSome = (D.was i).isSome := by
  cases hv : V (i : Int) with
  | none =>
    rw [h.wn i hv]
    rfl
  | some v =>
    obtain ⟨j, l, -, h2, h3, -⟩ := h.wi i v hv
    obtain rfl : i = j := by omega
    rw [h3]
    rfl
/-- A tile turned to bytes that lie elsewhere. -/
theorem DgAt.put {g o c i : Nat} {l : List Int} {v : Value} (h : DgAt A w d D tv mb vs V pp) (htv : tv = .slice (some ⟨g, o, none⟩) D.T.length c) (hi : i < D.T.length) (hv : Reads w 1 v 64 (bc l)) (hf : ∀ g', v.ownBlock = some g' → A g' ∧ ¬ Mu d mb tv pp g') (h1 : v.oneCell' = true) :
    DgAt A (w.setCell ⟨g, o + i, none⟩ v) d { D with T := D.T.set i l } tv mb (vs.set i v) V pp := by
  subst htv
  have ho := setCell_only w ⟨g, o + i, none⟩ v
  have hz : (w.setCell ⟨g, o + i, none⟩ v).heap.size = w.heap.size := by simp [World.setCell]
  have hlen : vs.length = D.T.length := by have := h.t.len; omega
  have hg := h.td g rfl
  have hmu : ∀ g', ¬ Mu d mb (.slice (some ⟨g, o, none⟩) D.T.length c) pp g' → ¬ g' = g := fun g' hn e => hn (.inr (.inr (.inl (by rw [e]; rfl))))
  have htl : (D.T.set i l).length = D.T.length := List.length_set
  exact {
    cells := h.cells.only ho (fun e => hg.1 (show d = g from e).symm)
    t := by
      show Vec _ 1 _ (D.T.set i l).length _
      rw [htl]
      obtain ⟨g', o', c', he, ht⟩ := h.t.form (by omega)
      injection he with he _ hec
      injection he with he
      injection he with hg' ho'
      subst hg' ho' hec
      exact .inr ⟨_, _, _, rfl, ht.set i (by omega) v⟩
    ins := fun j l' hj => by
      by_cases e : i = j
      · subst e
        rw [List.getElem?_set_self hi] at hj
        cases hj
        exact ⟨v, List.getElem?_set_self (by omega), Reads.only hv ho fun g' hg' => hmu g' (hf g' hg').2⟩
      · rw [List.getElem?_set_ne e] at hj
        obtain ⟨u, hu, hr⟩ := h.ins j l' hj
        exact ⟨u, by rw [List.getElem?_set_ne e]; exact hu, Reads.only hr ho fun g' hg' => hmu g' ((h.ct u (List.mem_of_getElem? hu)).2 g' hg').2⟩
    m := h.m.block (ho.block mb h.m.lt fun e => hg.2 (show mb = g from e).symm)
    wi := fun x u hu => by
      obtain ⟨j, l', k1, k2, k3, k4⟩ := h.wi x u hu
      exact ⟨j, l', by rw [htl]; exact k1, k2, k3, Reads.only k4 ho fun g' hg' => hmu g' ((h.cw x u hu).2 g' hg').2⟩
    wn := h.wn
    pl := fun k mask hp => by
      obtain ⟨b, mv, k1, k2, k3, k4⟩ := h.pl k mask hp
      exact ⟨b, mv, k1, k2.only ho fun e => (h.pd b k1).2.2 (by rw [show b = g from e]; rfl), k3.only ho fun g' hg' => hmu g' hg'.2, k4⟩
    pn := h.pn
    dm := h.dm
    td := h.td
    pd := h.pd
    mu := h.mu
    ct := fun u hu => by
      rcases List.mem_or_eq_of_mem_set hu with hu | rfl
      · exact h.ct u hu
      · exact ⟨h1, hf⟩
    cw := h.cw
    lt := fun g' hg' => by rw [hz]; exact h.lt g' hg' }
end
end Go.Proofs.YtojkggppcmdepaaGreat

namespace Go.Proofs.YtojkggppcmdepaaGreat
open Go.RowKit Go.Wh Go.Maps

/-- A disk in memory, its blocks given. -/
def DgX (A : Nat → Prop) (d : Nat) (D : PDk) (w : World) : Prop := ∃ tv mb vs V pp, DgAt A w d D tv mb vs V pp
/-- What a void call leaves that turns a disk. -/
def DgPost (A : Nat → Prop) (w : World) (d : Nat) (D' : PDk) (v : Value) (e : Ending) (w' : World) : Prop := e = .returned v ∧ DgX A d D' w' ∧ Only A w w'
theorem DgX.only {A X : Nat → Prop} {d : Nat} {D : PDk} {w w' : World} (h : DgX A d D w) (ho : Only X w w') (hx : ∀ g, A g → ¬ X g) : DgX A d D w' := by
  obtain ⟨tv, mb, vs, V, pp, h⟩ := h
  exact ⟨tv, mb, vs, V, pp, h.only ho hx⟩
theorem DgX.still {A : Nat → Prop} {d : Nat} {D : PDk} {w w' : World} (h : DgX A d D w) (hs : Still w w') : DgX A d D w' := h.only hs fun _ _ e => e
/-- The map is cleared; dead; nothing is to be cut. -/
theorem DgAt.crashed {A : Nat → Prop} {w w1 : World} {d mb : Nat} {D : PDk} {tv : Value} {vs : List Value} {V : Int → Option Value} {pp : Option Nat} (h : DgAt A w d D tv mb vs V pp) (hk : kmap w1 Tryz.prog 3 (fun z : Int => .int .i64 z) mb (fun _ => none)) (ho : Only (fun b => b = mb) w w1) :
    DgAt A ((w1.setCell ⟨d, 2, none⟩ (.bool true)).setCell ⟨d, 3, none⟩ (.pointer none)) d ⟨D.T, fun _ => none, true, none⟩ tv mb vs (fun _ => none) none := by
  have o1 := setCell_only w1 ⟨d, 2, none⟩ (.bool true)
  have o2 := setCell_only (w1.setCell ⟨d, 2, none⟩ (.bool true)) ⟨d, 3, none⟩ (.pointer none)
  have o3 : Only (fun b => b = d) w1 ((w1.setCell ⟨d, 2, none⟩ (.bool true)).setCell ⟨d, 3, none⟩ (.pointer none)) := o1.trans o2
  have oo : Only (fun b => b = d ∨ b = mb) w ((w1.setCell ⟨d, 2, none⟩ (.bool true)).setCell ⟨d, 3, none⟩ (.pointer none)) := (ho.mono fun b e => .inr e).trans (o3.mono fun b e => .inl e)
  have hc := h.cells.only ho h.dm
  have hmu : ∀ g, Mu d mb tv none g → Mu d mb tv pp g := fun g hg => by
    rcases hg with e | e | e | e
    · exact .inl e
    · exact .inr (.inl e)
    · exact .inr (.inr (.inl e))
    · cases e
  exact {
    cells := by
      have := (hc.setCell 2 (.bool true)).setCell 3 (.pointer none)
      exact this
    t := h.t.only oo fun g hg e => e.elim (h.td g hg).1 (h.td g hg).2
    ins := fun i l hi => by
      obtain ⟨v, hv, hr⟩ := h.ins i l hi
      exact ⟨v, hv, Reads.only hr oo fun g hg e => ((h.ct v (List.mem_of_getElem? hv)).2 g hg).2 (e.elim .inl fun e => .inr (.inl e))⟩
    m := hk.block (o3.block mb hk.lt fun e => h.dm (show mb = d from e).symm)
    wi := fun x v hv => by cases hv
    wn := fun i _ => rfl
    pl := fun k mask hp => by cases hp
    pn := fun _ => rfl
    dm := h.dm
    td := h.td
    pd := fun g hg => by cases hg
    mu := fun g hg => h.mu g (hmu g hg)
    ct := fun v hv => ⟨(h.ct v hv).1, fun g hg => ⟨((h.ct v hv).2 g hg).1, fun e => ((h.ct v hv).2 g hg).2 (hmu g e)⟩⟩
    cw := fun x v hv => by cases hv
    lt := fun g hg => by have := h.lt g hg; have := oo.size; omega }

/-- What stands at the head of a round: of the loose tiles i are looked at. -/
structure CrRel (A : Nat → Prop) (w1 : World) (d : Nat) (D : PDk) (mask : List Int) (tv : Value) (mb : Nat) (V : Int → Option Value) (pp : Option Nat) (i : Nat) (wr : World) : Prop where
  ex : ∃ vs, DgAt A wr d { D with T := crashN D.was mask D.loose D.T i } tv mb vs V pp
  ho : Only (fun b => tv.ownBlock = some b) w1 wr
set_option maxHeartbeats 4000000 in
set_option maxRecDepth 100000 in
theorem crash_at {A Q : Nat → Prop} {w : World} {d mb m : Nat} {D : PDk} {tv : Value} {vs : List Value} {V : Int → Option Value} {pp : Option Nat} (h : DgAt A w d D tv mb vs V pp) (hT : D.T.length ≤ 2000) (ma : Option Addr) (mc : Nat) (mask : List Int)
    (hm : 0 < m → Sl w Q 1 (.slice ma m mc) m (bc mask)) (hq : ∀ g, Q g → ¬ tv.ownBlock = some g) (hl : mask.length = m) (hb : Byt mask) :
    Calls Tryz.prog 21 #[.pointer (some ⟨d, 0, none⟩), .slice ma m mc] w (fun e w' => e = .returned (.tuple #[]) ∧ (∃ vs', DgAt A w' d (D.crash mask) tv mb vs' (fun _ => none) none) ∧ Only (fun b => b = d ∨ b = mb ∨ tv.ownBlock = some b) w w') := by
  have c1 : w.cell? ⟨d, 1, none⟩ = some (.map (some mb)) := h.cells.cell 1
  have HLO := Lib.hid (loose_any w d mb D.T.length V c1 h.m (by omega) h.inr)
  have hlo : looseL (fun i => (V (i : Int)).isSome) D.T.length = D.loose := by
    unfold PDk.loose
    congr 1
    exact funext fun i => h.was i
  rw [hlo] at HLO
  have H := Lib.hid (And.intro h (And.intro hm (And.intro hq (And.intro hl (And.intro hb hT)))))
  have HLN := Lib.hid (show D.loose.length ≤ 2000 from by
    unfold PDk.loose looseL
    have := List.length_filter_le (fun i => (D.was i).isSome) (List.range D.T.length)
    rw [List.length_range] at this
    omega)
  obtain ⟨ta, tc, htv⟩ := h.form
  clear h hm hq hl hb hlo c1
  go_enter Tryz.func21, Tryz.ntmps21
  go_wp2_with fail
  refine HLO.out.mono ?_
  intro e w1 hp
  obtain ⟨v, rfl, hv, hs1, hv1⟩ := hp
  obtain ⟨n, hn⟩ : ∃ n, D.loose.length = n := ⟨_, rfl⟩
  rw [hn] at hv
  obtain ⟨va, vc, rfl⟩ := hv.form'
  have HV := Lib.hid (And.intro hv (And.intro hs1 (And.intro hv1 hn)))
  have HREL := Lib.hid (show CrRel A w1 d D mask tv mb V pp 0 w1 from ⟨⟨vs, H.out.1.still hs1⟩, Only.refl _ _⟩)
  clear hv hs1 hv1 HLO hn
  go_wp2_with fail
  go_loopw [11] (fun s wr => ∃ i : Nat, s = .int .i64 i ∧ i ≤ n ∧ CrRel A w1 d D mask tv mb V pp i wr) (fun s _ => n - (intOf s).toNat)
  case atStart => exact ⟨0, rfl, Nat.zero_le _, HREL.out⟩
  case round =>
    clear HREL
    obtain ⟨i, rfl, hin, ⟨⟨us, hd⟩, ho⟩⟩ := hrel
    have hn2000 : n ≤ 2000 := by have := HLN.out; have := HV.out.2.2.2; omega
    have u1 : IntKind.i64.wrap ((i : Int) + 1) = (i : Int) + 1 := IntWalk.i64_in _ (by omega)
    by_cases hi : i < n
    · have d1 : decide ((i : Int) < (n : Int)) = true := decide_eq_true (by omega)
      have d2 : decide (i < n) = true := decide_eq_true hi
      have l0 : (0 : Int) ≤ (i : Int) := by omega
      have l1 : (i : Int) < (n : Int) := by omega
      obtain ⟨x, hx⟩ : ∃ x, D.loose[i]? = some x := ⟨_, List.getElem?_eq_getElem (by rw [HV.out.2.2.2]; exact hi)⟩
      have hxm := looseL_mem.1 (List.mem_of_getElem? hx)
      obtain ⟨g, o, c, hvs, hva⟩ := HV.out.1.form (by omega)
      cases hvs
      have hgo : ¬ tv.ownBlock = some g := fun e => by
        have e1 := H.out.1.lt g (H.out.1.mu g (.inr (.inr (.inl e))))
        have e2 := (HV.out.2.2.1 g rfl).1
        omega
      have cx : wr.cell? ⟨g, o + i, none⟩ = some (.int .i64 (x : Int)) := by
        refine (ho.cell (p := ⟨g, o + i, none⟩) (HV.out.2.2.1 g rfl).2 hgo).trans ?_
        rw [hva.cells i (by omega), List.getElem?_map, hx]
        rfl
      have hxl : x < D.T.length := hxm.1
      have HB := Lib.hid (set_any wr Q ma m mc i mask (fun hp => ((H.out.2.1 hp).still HV.out.2.1).only ho H.out.2.2.1) H.out.2.2.2.1 H.out.2.2.2.2.1 (by omega))
      have HX := Lib.hid (And.intro hd (And.intro ho (And.intro hx (And.intro hxm hi))))
      have hgd : D.loose.getD i 0 = x := by rw [List.getD_eq_getElem?_getD, hx]; rfl
      have HGD := Lib.hid hgd
      cases hbit : mskB mask i with
      | true =>
        rw [hbit] at HB
        have HNX := Lib.hid (show CrRel A w1 d D mask tv mb V pp (i + 1) wr from ⟨⟨us, by
          unfold crashN
          rw [if_pos hbit]
          exact hd⟩, ho⟩)
        clear hd ho hx hxm hi hva hgo hbit hgd hin hxl
        go_wp2_with fail
        refine HB.out.mono ?_
        rintro e w2 ⟨rfl, rfl⟩
        go_wp2_with fail
        go_roundw
        case rel => exact ⟨i + 1, by go_num, by have := HX.out.2.2.2.2; omega, HNX.out⟩
        case measure => simp [intOf]; have := HX.out.2.2.2.2; omega
      | false =>
        rw [hbit] at HB
        have hbf : ¬ mskB mask i = true := by rw [hbit]; decide
        obtain ⟨l, hwas⟩ := Option.isSome_iff_exists.1 hxm.2
        have hVs := hd.was x
        rw [hwas] at hVs
        obtain ⟨u, hu⟩ := Option.isSome_iff_exists.1 hVs
        obtain ⟨x2, l2, -, hx2, hw2, hru⟩ := hd.wi _ _ hu
        obtain rfl : x = x2 := by omega
        obtain ⟨ua, uc, rfl⟩ := Reads.form hru
        rw [hwas] at hw2
        injection hw2 with hw2
        subst hw2
        have hlen : (crashN D.was mask D.loose D.T i).length = D.T.length := crashN_length
        have hxl2 : x < (crashN D.was mask D.loose D.T i).length := by rw [hlen]; exact hxl
        obtain ⟨tg, tf, tcc, htv2, htt⟩ := hd.t.form (by show 0 < (crashN D.was mask D.loose D.T i).length; omega)
        have htv3 : tv = .slice (some ⟨tg, tf, none⟩) (crashN D.was mask D.loose D.T i).length tcc := htv2
        have hput := (hd.still (still_drew wr)).put htv3 hxl2 (Reads.still hru (still_drew wr)) (hd.cw _ _ hu).2 (hd.cw _ _ hu).1
        have HNX := Lib.hid (show CrRel A w1 d D mask tv mb V pp (i + 1) (wr.drew.setCell ⟨tg, tf + x, none⟩ (.slice ua 64 uc)) from ⟨⟨_, by
          have e : crashN D.was mask D.loose D.T (i + 1) = (crashN D.was mask D.loose D.T i).set x l := by
            show (if mskB mask i = true then _ else _) = _
            rw [if_neg hbf, hgd, hwas]
            rfl
          rw [e]
          exact hput⟩, ho.drew.setCell (p := ⟨tg, tf + x, none⟩) (.inl (by rw [htv3]; rfl)) _⟩)
        rw [hlen] at htv3
        have c0 : wr.cell? ⟨d, 0, none⟩ = some tv := hd.cells.cell 0
        rw [htv3] at c0
        have c1 : wr.cell? ⟨d, 1, none⟩ = some (.map (some mb)) := hd.cells.cell 1
        have hlk : (Instr.lookup 81 (.map (some mb)) (.int .i64 (x : Int)) false).run Tryz.prog wr = .ok (.slice ua 64 uc) wr := by
          have := hd.m.lookup (int_keyed Tryz.underlying3) Tryz.underlying81 (intK x (by have := H.out.2.2.2.2.2; omega)) (z := .slice none 0 0) (by kernel_rfl) false
          rw [hu] at this
          exact this
        have hlk2 : (Instr.lookup 81 (.map (some mb)) (.int .i64 (x : Int)) false).run Tryz.prog wr.drew = .ok (.slice ua 64 uc) wr.drew := by
          have := (hd.m.block rfl : kmap wr.drew _ _ _ _ _).lookup (int_keyed Tryz.underlying3) Tryz.underlying81 (intK x (by have := H.out.2.2.2.2.2; omega)) (z := .slice none 0 0) (by kernel_rfl) false
          rw [hu] at this
          exact this
        have ft : wr.frozen? ⟨tg, tf + x, none⟩ = false := htt.free x (by show x < (crashN D.was mask D.loose D.T i).length * 1; omega)
        have ct : ∃ u', wr.cell? ⟨tg, tf + x, none⟩ = some u' := by
          refine ⟨_, (htt.cells x (by show x < (crashN D.was mask D.loose D.T i).length * 1; omega)).trans (List.getElem?_eq_getElem (by have := htt.len; have e : us.length = (crashN D.was mask D.loose D.T i).length * 1 := this; omega))⟩
        obtain ⟨u', ct⟩ := ct
        have k0 : (0 : Int) ≤ (x : Int) := by omega
        have k1 : (x : Int) < (D.T.length : Int) := by omega
        obtain ⟨Tn, hTn⟩ : ∃ Tn, D.T.length = Tn := ⟨_, rfl⟩
        rw [hTn] at c0 k1
        clear hd ho hx hxm hi hva hgo hbit hgd hin hxl hbf hwas hVs hu hx2 hru hlen hxl2 htv2 htt htv3 hput hTn
        go_wp2_with fail
        refine HB.out.mono ?_
        rintro e w2 ⟨rfl, rfl⟩
        go_wp2_with fail
        go_still_tail 12, (by kernel_rfl)
        change wpList _ _ _ _ _ w2.drew
        go_wp2_with fail
        go_roundw
        case rel => exact ⟨i + 1, by go_num, by have := HX.out.2.2.2.2; omega, HNX.out⟩
        case measure => simp [intOf]; have := HX.out.2.2.2.2; omega
    · have d1 : decide ((i : Int) < (n : Int)) = false := decide_eq_false (by omega)
      have d2 : decide (i < n) = false := decide_eq_false hi
      have hie : i = n := by omega
      have c1 : wr.cell? ⟨d, 1, none⟩ = some (.map (some mb)) := hd.cells.cell 1
      obtain ⟨w3, hrun, hk3, hg3, hs3⟩ := kmap.clear (ty := 0) hd.m Tryz.underlying81
      have ho3 : Only (fun b => b = mb) wr w3 := Only.grown hg3 fun j e => (Option.some.inj e).symm
      have hcl := hd.cells.only ho3 hd.dm
      have hcr := hd.crashed hk3 ho3
      have x2 : w3.cell? ⟨d, 2, none⟩ = some (.bool D.dead) := hcl.cell 2
      have x3 : w3.cell? ⟨d, 3, none⟩ = some (ptrV pp) := hcl.cell 3
      have y2 : w3.frozen? ⟨d, 2, none⟩ = false := hcl.free 2
      have y3 : w3.frozen? ⟨d, 3, none⟩ = false := hcl.free 3
      have F := Lib.hid (show (Ending.returned (.tuple #[])) = .returned (.tuple #[]) ∧ (∃ vs', DgAt A ((w3.setCell ⟨d, 2, none⟩ (.bool true)).setCell ⟨d, 3, none⟩ (.pointer none)) d (D.crash mask) tv mb vs' (fun _ => none) none) ∧ Only (fun b => b = d ∨ b = mb ∨ tv.ownBlock = some b) w ((w3.setCell ⟨d, 2, none⟩ (.bool true)).setCell ⟨d, 3, none⟩ (.pointer none)) from ⟨rfl, ⟨us, by
        have e : D.crash mask = ⟨crashN D.was mask D.loose D.T i, fun _ => none, true, none⟩ := by
          unfold PDk.crash
          rw [HV.out.2.2.2, hie]
        rw [e]
        exact hcr⟩, by
        have q1 : Only (fun b => b = d ∨ b = mb ∨ tv.ownBlock = some b) w wr := (HV.out.2.1.mono fun _ e => e.elim).trans (ho.mono fun b e => .inr (.inr e))
        have q2 := q1.trans (ho3.mono fun b e => .inr (.inl e))
        exact (q2.setCell (p := ⟨d, 2, none⟩) (.inl (.inl rfl)) _).setCell (p := ⟨d, 3, none⟩) (.inl (.inl rfl)) _⟩)
      clear hd ho hin hi hie hk3 hg3 hs3 ho3 hcl hcr
      go_wp2_with fail
      go_end0
      subst htv
      exact ⟨rfl, F.out.2⟩
end Go.Proofs.YtojkggppcmdepaaGreat

namespace Go.Proofs.YtojkggppcmdepaaGreat
open Go.RowKit Go.Wh Go.Maps

def PDk.cuts (D : PDk) : Bool := match D.plan with
  | none => false
  | some (k, _) => decide (k - 1 < 0)
def PDk.less (D : PDk) : PDk := { D with plan := D.plan.map fun p => (p.1 - 1, p.2) }
/-- The operation to come that is cut is one that may be. -/
def PDk.fine (D : PDk) : Prop := ∀ k mask, D.plan = some (k, mask) → 0 ≤ k ∧ k ≤ 1000000
/-- What an operation leaves: cut, or not. -/
def PDk.done (D : PDk) : Int × PDk := match D.plan with
  | none => (0, D)
  | some (k, mask) => if k - 1 < 0 then (2, D.crash mask) else (0, D.less)
def PDk.wet (D : PDk) (i : Nat) : PDk := { D with was := if (D.was i).isSome = true then D.was else upd D.was i D.T[i]? }
def PDk.laid (D : PDk) (i : Nat) (l : List Int) : PDk := { D.wet i with T := D.T.set i l }
section
variable {A X : Nat → Prop} {w w' : World} {d mb : Nat} {D : PDk} {tv : Value} {vs : List Value} {V : Int → Option Value} {pp : Option Nat}
theorem DgAt.tick {b : Nat} {k : Int} {mask : List Int} (h : DgAt A w d D tv mb vs V pp) (hp : D.plan = some (k, mask)) (hb : pp = some b) : DgAt A (w.setCell ⟨b, 0, none⟩ (.int .i64 (k - 1))) d D.less tv mb vs V pp := by
  have ho := setCell_only w ⟨b, 0, none⟩ (.int .i64 (k - 1))
  have hz : (w.setCell ⟨b, 0, none⟩ (.int .i64 (k - 1))).heap.size = w.heap.size := by simp [World.setCell]
  have hmu : ∀ g, ¬ Mu d mb tv pp g → ¬ g = b := fun g hn e => hn (.inr (.inr (.inr (by rw [hb, e]))))
  have hpd := h.pd b hb
  exact {
    cells := h.cells.only ho fun e => hpd.1 (show d = b from e).symm
    t := h.t.only ho fun g hg e => hpd.2.2 (by rw [← show g = b from e]; exact hg)
    ins := fun i l hi => by
      obtain ⟨v, hv, hr⟩ := h.ins i l hi
      exact ⟨v, hv, Reads.only hr ho fun g hg => hmu g ((h.ct v (List.mem_of_getElem? hv)).2 g hg).2⟩
    m := h.m.block (ho.block mb h.m.lt fun e => hpd.2.1 (show mb = b from e).symm)
    wi := fun x v hv => by
      obtain ⟨i, l, k1, k2, k3, k4⟩ := h.wi x v hv
      exact ⟨i, l, k1, k2, k3, Reads.only k4 ho fun g hg => hmu g ((h.cw x v hv).2 g hg).2⟩
    wn := h.wn
    pl := fun k' mask' hp' => by
      obtain ⟨b', mv, k1, k2, k3, k4⟩ := h.pl k mask hp
      have e : D.less.plan = some (k - 1, mask) := by unfold PDk.less; rw [hp]; rfl
      rw [e] at hp'
      injection hp' with hp'
      injection hp' with e1 e2
      subst e1 e2
      have hbb : b' = b := by rw [hb] at k1; exact (Option.some.inj k1).symm
      subst hbb
      refine ⟨b', mv, k1, ?_, k3.only ho fun g hg => hmu g hg.2, k4⟩
      have := k2.setCell 0 (.int .i64 (k - 1))
      exact this
    pn := fun hn => by
      have e : D.less.plan = some (k - 1, mask) := by unfold PDk.less; rw [hp]; rfl
      rw [e] at hn
      cases hn
    dm := h.dm
    td := h.td
    pd := h.pd
    mu := h.mu
    ct := h.ct
    cw := h.cw
    lt := fun g hg => by rw [hz]; exact h.lt g hg }
set_option maxRecDepth 10000 in
theorem cut_at (h : DgAt A w d D tv mb vs V pp) (hf : D.fine) :
    Calls Tryz.prog 50 #[.pointer (some ⟨d, 0, none⟩)] w (fun e w' => e = .returned (.bool D.cuts) ∧ DgAt A w' d D.less tv mb vs V pp ∧ Only (fun g => pp = some g) w w') := by
  have c3 : w.cell? ⟨d, 3, none⟩ = some (ptrV pp) := h.cells.cell 3
  cases hp : D.plan with
  | none =>
    have hpp := h.pn hp
    subst hpp
    have c3' : w.cell? ⟨d, 3, none⟩ = some (.pointer none) := c3
    have e1 : D.cuts = false := by unfold PDk.cuts; rw [hp]
    have e2 : D.less = D := by unfold PDk.less; rw [hp]; cases D; cases hp; rfl
    rw [e1, e2]
    have F := Lib.hid (show (Ending.returned (.bool false)) = .returned (.bool false) ∧ DgAt A w d D tv mb vs V none ∧ Only (fun g => (none : Option Nat) = some g) w w from ⟨rfl, h, Only.refl _ _⟩)
    clear h hf c3 hp e1 e2
    go_enter Tryz.func50, Tryz.ntmps50
    go_wp2_with fail
    go_ret
    exact ⟨rfl, F.out.2.1, Only.refl _ _⟩
  | some p =>
    obtain ⟨k, mask⟩ := p
    obtain ⟨b, mv, hb, hc, -, -⟩ := h.pl k mask hp
    have hk := hf k mask hp
    have htick := h.tick hp hb
    subst hb
    have c3' : w.cell? ⟨d, 3, none⟩ = some (.pointer (some ⟨b, 0, none⟩)) := c3
    have c0 : w.cell? ⟨b, 0, none⟩ = some (.int .i64 k) := hc.cell 0
    have f0 : w.frozen? ⟨b, 0, none⟩ = false := hc.free 0
    have hdb : d ≠ b := (h.pd b rfl).1.symm
    have c3'' : (w.setCell ⟨b, 0, none⟩ (.int .i64 (k - 1))).cell? ⟨d, 3, none⟩ = some (.pointer (some ⟨b, 0, none⟩)) := by
      have := (setCell_only w ⟨b, 0, none⟩ (.int .i64 (k - 1))).cell (p := ⟨d, 3, none⟩) h.cells.lt hdb
      rw [this]
      exact c3'
    have c0'' : (w.setCell ⟨b, 0, none⟩ (.int .i64 (k - 1))).cell? ⟨b, 0, none⟩ = some (.int .i64 (k - 1)) := (hc.setCell 0 (.int .i64 (k - 1))).cell 0
    have u1 : IntKind.i64.wrap (k - 1) = k - 1 := IntWalk.i64_in _ (by omega)
    have e1 : D.cuts = decide (k - 1 < 0) := by unfold PDk.cuts; rw [hp]
    rw [e1]
    have F := Lib.hid (show DgAt A (w.setCell ⟨b, 0, none⟩ (.int .i64 (k - 1))) d D.less tv mb vs V (some b) ∧ Only (fun g => (some b : Option Nat) = some g) w (w.setCell ⟨b, 0, none⟩ (.int .i64 (k - 1))) from ⟨htick, (setCell_only w ⟨b, 0, none⟩ _).mono fun g e => by rw [show g = b from e]⟩)
    obtain ⟨q, hq⟩ : ∃ q, decide (k - 1 < 0) = q := ⟨_, rfl⟩
    rw [hq]
    clear h hf c3 hp e1 hk htick hc
    go_enter Tryz.func50, Tryz.ntmps50
    go_wp2_with fail
    go_ret
    exact ⟨rfl, F.out⟩
/-- The tile that is written is kept as it was. -/
theorem DgAt.keep {i : Nat} {v : Value} {l : List Int} (h : DgAt A w d D tv mb vs V pp) (hi : D.T[i]? = some l) (hv : vs[i]? = some v) (hw : V (i : Int) = none) (hk : kmap w' Tryz.prog 3 (fun z : Int => .int .i64 z) mb (upd V (i : Int) (some v))) (ho : Only (fun b => b = mb) w w') :
    DgAt A w' d (D.wet i) tv mb vs (upd V (i : Int) (some v)) pp := by
  have hmu : ∀ g, ¬ Mu d mb tv pp g → ¬ g = mb := fun g hn e => hn (.inr (.inl e))
  have hws : (D.was i).isSome = false := by rw [← h.was i, hw]; rfl
  have e : D.wet i = { D with was := upd D.was i (some l) } := by
    unfold PDk.wet
    rw [hws, hi]
    rfl
  have hil := (List.getElem?_eq_some_iff.1 hi).1
  obtain ⟨v', hv', hr⟩ := h.ins i l hi
  rw [hv] at hv'
  injection hv' with hv'
  subst hv'
  have hvm := List.mem_of_getElem? hv
  rw [e]
  exact {
    cells := h.cells.only ho h.dm
    t := h.t.only ho fun g hg e => (h.td g hg).2 e
    ins := fun j l' hj => by
      obtain ⟨u, hu, hr⟩ := h.ins j l' hj
      exact ⟨u, hu, Reads.only hr ho fun g hg => hmu g ((h.ct u (List.mem_of_getElem? hu)).2 g hg).2⟩
    m := hk
    wi := fun x u hu => by
      by_cases hx : x = (i : Int)
      · subst hx
        rw [upd_same] at hu
        injection hu with hu
        subst hu
        exact ⟨i, l, hil, rfl, upd_same _ _ _, Reads.only hr ho fun g hg => hmu g ((h.ct v hvm).2 g hg).2⟩
      · rw [upd_other _ _ hx] at hu
        obtain ⟨j, l', k1, k2, k3, k4⟩ := h.wi x u hu
        refine ⟨j, l', k1, k2, ?_, Reads.only k4 ho fun g hg => hmu g ((h.cw x u hu).2 g hg).2⟩
        show upd D.was i (some l) j = some l'
        rw [upd_other _ _ (fun e => hx (by rw [k2, e]))]
        exact k3
    wn := fun j hj => by
      show upd D.was i (some l) j = none
      by_cases hji : j = i
      · subst hji
        rw [upd_same] at hj
        cases hj
      · rw [upd_other _ _ (fun e => hji (by omega))] at hj
        rw [upd_other _ _ hji]
        exact h.wn j hj
    pl := fun k mask hp => by
      obtain ⟨b, mv, k1, k2, k3, k4⟩ := h.pl k mask hp
      exact ⟨b, mv, k1, k2.only ho (h.pd b k1).2.1, k3.only ho fun g hg => hmu g hg.2, k4⟩
    pn := h.pn
    dm := h.dm
    td := h.td
    pd := h.pd
    mu := h.mu
    ct := h.ct
    cw := fun x u hu => by
      by_cases hx : x = (i : Int)
      · subst hx
        rw [upd_same] at hu
        injection hu with hu
        subst hu
        exact h.ct v hvm
      · rw [upd_other _ _ hx] at hu
        exact h.cw x u hu
    lt := fun g hg => Nat.lt_of_lt_of_le (h.lt g hg) ho.size }
def PDk.may (D : PDk) (i : Int) : Int := if D.dead = true then 2 else if i < 0 ∨ (D.T.length : Int) ≤ i then 1 else 0
set_option maxRecDepth 10000 in
theorem may_at (h : DgAt A w d D tv mb vs V pp) (i : Int) :
    Calls Tryz.prog 49 #[.pointer (some ⟨d, 0, none⟩), .int .i64 i] w (SamePost w (.int .i64 (D.may i))) := by
  obtain ⟨a, c, rfl⟩ := h.form
  have c0 : w.cell? ⟨d, 0, none⟩ = some (.slice a D.T.length c) := h.cells.cell 0
  have c2 : w.cell? ⟨d, 2, none⟩ = some (.bool D.dead) := h.cells.cell 2
  unfold PDk.may
  generalize D.T.length = n at *
  clear h
  cases hq : D.dead with
  | true =>
    rw [hq] at c2
    rw [if_pos rfl]
    clear hq
    go_enter Tryz.func49, Tryz.ntmps49
    go_wp2_with fail
    go_ret
    exact ⟨rfl, rfl⟩
  | false =>
    rw [hq] at c2
    rw [if_neg (by decide)]
    clear hq
    by_cases h0 : i < 0
    · have b1 : decide (i < 0) = true := decide_eq_true h0
      rw [if_pos (.inl h0)]
      clear h0
      go_enter Tryz.func49, Tryz.ntmps49
      go_wp2_with fail
      go_ret
      exact ⟨rfl, rfl⟩
    · have b1 : decide (i < 0) = false := decide_eq_false h0
      by_cases h1 : (n : Int) ≤ i
      · have b2 : decide ((n : Int) ≤ i) = true := decide_eq_true h1
        rw [if_pos (.inr h1)]
        clear h0 h1
        go_enter Tryz.func49, Tryz.ntmps49
        go_wp2_with fail
        go_ret
        exact ⟨rfl, rfl⟩
      · have b2 : decide ((n : Int) ≤ i) = false := decide_eq_false h1
        rw [if_neg (by omega)]
        clear h0 h1
        go_enter Tryz.func49, Tryz.ntmps49
        go_wp2_with fail
        go_ret
        exact ⟨rfl, rfl⟩
end
end Go.Proofs.YtojkggppcmdepaaGreat

namespace Go.Proofs.YtojkggppcmdepaaGreat
open Go.RowKit Go.Wh Go.Maps

section
variable {A X : Nat → Prop} {w w' : World} {d mb : Nat} {D : PDk} {tv : Value} {vs : List Value} {V : Int → Option Value} {pp : Option Nat}
theorem DgAt.grow {A' : Nat → Prop} (h : DgAt A w d D tv mb vs V pp) (ha : ∀ g, A g → A' g) (hl : ∀ g, A' g → g < w.heap.size) : DgAt A' w d D tv mb vs V pp where
  cells := h.cells
  t := h.t
  ins := h.ins
  m := h.m
  wi := h.wi
  wn := h.wn
  pl k mask hp := by
    obtain ⟨b, mv, k1, k2, k3, k4⟩ := h.pl k mask hp
    exact ⟨b, mv, k1, k2, k3.mono fun g hg => ⟨ha g hg.1, hg.2⟩, k4⟩
  pn := h.pn
  dm := h.dm
  td := h.td
  pd := h.pd
  mu g hg := ha g (h.mu g hg)
  ct v hv := ⟨(h.ct v hv).1, fun g hg => ⟨ha g ((h.ct v hv).2 g hg).1, ((h.ct v hv).2 g hg).2⟩⟩
  cw x v hv := ⟨(h.cw x v hv).1, fun g hg => ⟨ha g ((h.cw x v hv).2 g hg).1, ((h.cw x v hv).2 g hg).2⟩⟩
  lt := hl
theorem DgAt.newer (h : DgAt A w d D tv mb vs V pp) (hs : Only X w w') (hx : ∀ g, A g → ¬ X g) : DgAt (Newer A w w') w' d D tv mb vs V pp :=
  (h.only hs hx).grow (fun _ hg => .inl hg) fun g hg => hg.elim (fun e => Nat.lt_of_lt_of_le (h.lt g e) hs.size) fun e => e.2
theorem PDk.wet_same {i : Nat} (h : (D.was i).isSome = true) : D.wet i = D := by
  unfold PDk.wet
  rw [if_pos h]
/-- What turns a disk leaves it. -/
def DgPostN (A : Nat → Prop) (w : World) (d : Nat) (r : Int × PDk) (e : Ending) (w' : World) : Prop := e = .returned (.int .i64 r.1) ∧ DgX (Newer A w w') d r.2 w' ∧ Only A w w'
end
set_option maxHeartbeats 4000000 in
set_option maxRecDepth 100000 in
theorem write_at {A : Nat → Prop} {w : World} {d mb : Nat} {D : PDk} {tv : Value} {vs : List Value} {V : Int → Option Value} {pp : Option Nat} (h : DgAt A w d D tv mb vs V pp) (hq : D.dead = false) (hf : D.fine) (i : Nat) (l : List Int) (bv : Value) (hi : i < D.T.length) (hT : D.T.length ≤ 2000) (hb : Reads w 1 bv 64 (bc l)) (hbm : ∀ g, bv.ownBlock = some g → ¬ Mu d mb tv pp g) :
    Calls Tryz.prog 25 #[.pointer (some ⟨d, 0, none⟩), .int .i64 i, bv] w (DgPostN A w d (D.laid i l).done) := by
  have hmay : D.may i = 0 := by
    unfold PDk.may
    rw [hq, if_neg (by decide), if_neg (by omega)]
  have HM := Lib.hid (may_at h (i : Int))
  rw [hmay] at HM
  have H := Lib.hid h
  obtain ⟨ba, bcap, rfl⟩ := Reads.form hb
  have HB := Lib.hid (And.intro hb hbm)
  have HF := Lib.hid hf
  obtain ⟨g, o, c, htv, ht⟩ := h.t.form (by omega)
  have HI := Lib.hid (And.intro hi hT)
  subst htv
  have hm := h.m
  have HMB := Lib.hid hm
  have c0 : w.cell? ⟨d, 0, none⟩ = some (.slice (some ⟨g, o, none⟩) D.T.length c) := h.cells.cell 0
  have c1 : w.cell? ⟨d, 1, none⟩ = some (.map (some mb)) := h.cells.cell 1
  obtain ⟨v, hv⟩ : ∃ v, vs[i]? = some v := ⟨_, List.getElem?_eq_getElem (by have := ht.len; omega)⟩
  obtain ⟨lo, hlo⟩ : ∃ lo, D.T[i]? = some lo := ⟨_, List.getElem?_eq_getElem hi⟩
  have cv : w.cell? ⟨g, o + i, none⟩ = some v := by rw [ht.cells i (by omega)]; exact hv
  have b1 : (0 : Int) ≤ (i : Int) := by omega
  have b2 : (i : Int) < (D.T.length : Int) := by omega
  have hl : (Instr.lookup 81 (.map (some mb)) (.int .i64 (i : Int)) true).run Tryz.prog w = .ok (.tuple #[(V (i : Int)).getD (.slice none 0 0), .bool (V (i : Int)).isSome]) w :=
    hm.lookup (int_keyed Tryz.underlying3) Tryz.underlying81 (intK i (by omega)) (z := .slice none 0 0) (by kernel_rfl) true
  have HG := Lib.hid (show g ≠ mb ∧ g ≠ d ∧ d ≠ mb from ⟨(h.td g rfl).2, (h.td g rfl).1, h.dm⟩)
  have HVI := Lib.hid (And.intro hv hlo)
  obtain ⟨TL, hTL⟩ : ∃ TL, D.T.length = TL := ⟨_, rfl⟩
  have HTL := Lib.hid hTL
  rw [hTL] at c0 b2
  clear h hb hbm ht hm hv hi hT hlo hTL hf hq hmay
  go_enter Tryz.func25, Tryz.ntmps25
  go_wp2_with fail
  refine HM.out.mono ?_
  rintro e w1 ⟨rfl, rfl⟩
  go_upto_if 29 with fail
  go_cut [8, 9] (fun _ _ wc => ∃ V', DgAt A wc d (D.wet i) (.slice (some ⟨g, o, none⟩) D.T.length c) mb vs V' pp ∧ Only (fun b => b = mb) w1 wc)
  case first =>
    cases hov : V (i : Int) with
    | some u =>
      have FM := Lib.hid (show ∃ V', DgAt A w1 d (D.wet i) (.slice (some ⟨g, o, none⟩) D.T.length c) mb vs V' pp ∧ Only (fun b => b = mb) w1 w1 from ⟨V, by
        rw [PDk.wet_same (by rw [← H.out.was i, hov]; rfl)]
        exact H.out, Only.refl _ _⟩)
      clear hl hov
      go_wp2_with fail
      go_meet
      case rel => exact FM.out
    | none =>
      have HOV := Lib.hid hov
      clear hl hov
      go_wp2_with fail
      go_still_tail 12, (by kernel_rfl)
      change wpList _ _ _ _ _ w1.drew
      refine wpList_mapUpdate_k rfl _ _ _ _ rfl 23 (int_keyed Tryz.underlying3) (fun x y h => by injection h) Tryz.underlying81 rfl (HMB.out.block rfl : kmap w1.drew _ _ _ _ _) (i : Int) rfl ⟨_, intK i (by have := HI.out; omega)⟩ _ rfl ?_
      intro w3 hk3 hg3 hs3
      have F := Lib.hid (show ∃ V', DgAt A w3 d (D.wet i) (.slice (some ⟨g, o, none⟩) D.T.length c) mb vs V' pp ∧ Only (fun b => b = mb) w1 w3 from by
        have ho3 : Only (fun b => b = mb) w1 w3 := Only.undrew (Only.grown hg3 fun j e => (Option.some.inj e).symm)
        exact ⟨_, H.out.keep HVI.out.2 HVI.out.1 HOV.out hk3 ho3, ho3⟩)
      clear hk3 hg3 hs3
      go_wp2_with fail
      go_meet
      case rel => exact F.out
  case rest =>
    obtain ⟨V', h2, ho⟩ := hcut
    have H2 := Lib.hid h2
    have HO := Lib.hid ho
    have c0' : wc.cell? ⟨d, 0, none⟩ = some (.slice (some ⟨g, o, none⟩) TL c) := by rw [← HTL.out]; exact h2.cells.cell 0
    have hb2 : Reads wc 1 (.slice ba 64 bcap) 64 (bc l) := Reads.only HB.out.1 ho fun g' hg' e => HB.out.2 g' hg' (.inr (.inl e))
    have cv2 : wc.cell? ⟨g, o + i, none⟩ = some v := (Only.cell ho (World.block_lt_of_cell? _ _ cv) HG.out.1).trans cv
    have HCL := Lib.hid (fun w' (hs : Still wc w') => clone_b (.slice ba 64 bcap) 64 (bc l) w' (Reads.still hb2 hs) (bc_one l) (by omega))
    have SS := Lib.hid (fun w' (hs : Still wc w') => show w'.cell? ⟨d, 0, none⟩ = some (.slice (some ⟨g, o, none⟩) TL c) from Still.cell hs c0')
    have HCV := Lib.hid cv2
    have hwT : (D.wet i).T = D.T := rfl
    have hfr : ∀ w', Still wc w' → w'.frozen? ⟨g, o + i, none⟩ = false := fun w' hs => by
      obtain ⟨g', o', c', he, ht⟩ := (h2.still hs).t.form (by rw [hwT]; have := HI.out; omega)
      injection he with he _ _
      injection he with he
      injection he with e1 e2
      subst e1 e2
      exact ht.free i (by rw [hwT]; have := HI.out; omega)
    have HFR := Lib.hid hfr
    clear h2 ho hb2 hfr cv cv2 hl c0 c1 hwT
    go_wp2_with fail
    refine wp_region_D_drew (D := (fun i => [0, 1, 2, 4, 5, 7, 8].contains i)) (S := (fun w' => w'.cell? ⟨d, 0, none⟩ = some (.slice (some ⟨g, o, none⟩) TL c))) (by kernel_rfl) ?_ (fun hHeld => ?_)
    · exact SS.out _ (still_drew _)
    (refine takeD (i := 0) (some 42) (v := ?_) rfl (by rfl) (by rfl) (by kernel_rfl) (by rfl) (fun _ _ _ h => h) ?_ ?_; rotate_left; (intro w; go_simp; try with_reducible rfl); try go_frame)
    (refine takeD (i := 1) (some 43) (v := ?_) rfl (by rfl) (by rfl) (by kernel_rfl) (by rfl) (fun _ _ _ h => h) ?_ ?_; rotate_left; (intro w; go_simp; try with_reducible rfl); try go_frame)
    (refine takeD (i := 2) (some 44) (v := ?_) rfl (by rfl) (by rfl) (by kernel_rfl) (by rfl) (fun _ _ _ h => h) ?_ ?_; rotate_left; (intro w; go_simp; try with_reducible rfl); try go_frame)
    (refine takeD (i := 4) (some 46) (v := ?_) rfl (by rfl) (by rfl) (by kernel_rfl) (by rfl) (fun _ _ _ h => h) ?_ ?_; rotate_left; (intro w; go_simp; try with_reducible rfl); try go_frame)
    (refine takeD (i := 5) (some 47) (v := ?_) rfl (by rfl) (by rfl) (by kernel_rfl) (by rfl) (fun _ _ _ h => h) ?_ ?_; rotate_left; (intro w; go_simp; try with_reducible rfl); try go_frame)
    (refine takeS (i := 3) (some 45) (v := ?_) rfl (by rfl) (by rfl) (by kernel_rfl) (by rfl) (fun _ _ _ h => h) (by assumption) ?_ ?_; rotate_left; (intro w hSw; (try dsimp only at hSw); go_simp; try with_reducible rfl); try go_frame)
    refine wpAnyD_ready (rs := [6]) (by kernel_rfl) (by simp) ?_
    refine ReadyD.cons rfl (fun K hK => ?_) ?_
    go_simp
    (go_at_call 44; (with_reducible refine (HCL.out _ (still_drew wc)).mono ?_); rintro e w3 ⟨v3, rfl, hv3, hb3, hg3⟩)
    have hs3 : Still wc w3 := (still_drew wc).trans (Only.ofBelow hb3)
    go_wp2_with fail
    (refine hK.out _ _ ?_ (fun hNew => ?_); (focus (exact SS.out _ hs3)); clear hHeld; have hHeld := hNew; clear hNew)
    (clear hK K; try go_frame)
    have cv3 := Still.cell hs3 HCV.out
    have f3 := HFR.out _ hs3
    obtain ⟨a3, k3, hv3e⟩ := hv3.form'
    have HP := Lib.hid (show DgAt (Newer A w1 w3) (w3.setCell ⟨g, o + i, none⟩ v3) d (D.laid i l) (.slice (some ⟨g, o, none⟩) D.T.length c) mb (vs.set i v3) V' pp ∧ Only (fun b => b = mb ∨ b = g) w1 (w3.setCell ⟨g, o + i, none⟩ v3) ∧ (w3.setCell ⟨g, o + i, none⟩ v3).heap.size = w3.heap.size from by
      have hwz := HO.out.size
      have hsz3 := hs3.size
      have hA : ∀ g', A g' → g' < w1.heap.size := H.out.lt
      have hgr : DgAt (Newer A w1 w3) w3 d (D.wet i) (.slice (some ⟨g, o, none⟩) D.T.length c) mb vs V' pp := (H2.out.still hs3).grow (fun g' hg' => .inl hg') fun g' hg' => hg'.elim (fun e => by have := hA g' e; omega) fun e => e.2
      refine ⟨hgr.put rfl HI.out.1 hv3.reads (fun g' hg' => ?_) (by rw [hv3e]; rfl), ?_, by simp [World.setCell]⟩
      · have e1 := hg3 g' hg'
        have hz : wc.drew.heap.size = wc.heap.size := rfl
        exact ⟨.inr ⟨by omega, e1.2⟩, fun e => by have := hA g' (H.out.mu g' e); omega⟩
      · exact ((HO.out.mono fun b e => .inl e).trans (hs3.mono fun _ e => e.elim)).trans ((setCell_only w3 ⟨g, o + i, none⟩ v3).mono fun b e => .inr e))
    clear hv3 hb3 hg3 hs3 HFR
    subst hv3e
    (refine takeD (i := 7) (some 49) (v := ?_) rfl (by rfl) (by rfl) (by kernel_rfl) (by rfl) (fun _ _ _ h => h) ?_ ?_; rotate_left; (intro w; go_simp; try with_reducible rfl); try go_frame)
    refine wpAnyD_ready (rs := [8]) (by kernel_rfl) (by simp) ?_
    refine ReadyD.last rfl (by rfl) (fun K hK => ?_) ?_
    go_simp
    refine hK.out _ _ ?_
    (clear hK K; try go_frame)
    refine wpAnyD_done (by kernel_rfl) ?_ _
    rotate_left
    exact ReadyD.nil
    exact ReadyD.nil
    clear cv3 f3 hHeld
    obtain ⟨hp, hpo, hpz⟩ := HP.out
    have hfine : (D.laid i l).fine := HF.out
    have HCU := Lib.hid (cut_at hp hfine)
    have HPO := Lib.hid (And.intro hpo hpz)
    generalize (w3.setCell ⟨g, o + i, none⟩ (.slice a3 64 k3)) = w4 at *
    clear hp hpo hpz HP
    have HW := Lib.hid (show ∀ w' : World, Only (fun b => b = d ∨ b = mb ∨ b = g ∨ pp = some b) w4 w' → Only A w1 w' ∧ ∀ g', Newer A w1 w3 g' → Newer A w1 w' g' ∧ g' < w'.heap.size from fun w' hw' => by
      have hmu := H.out.mu
      have hsz := hw'.size
      have e3 : w4.heap.size = w3.heap.size := HPO.out.2
      refine ⟨(HPO.out.1.mono fun b e => e.elim (fun e => hmu b (.inr (.inl e))) fun e => hmu b (.inr (.inr (.inl (by rw [e]; rfl))))).trans (hw'.mono fun b e => ?_), fun g' hg' => ?_⟩
      · rcases e with e | e | e | e
        · exact hmu b (.inl e)
        · exact hmu b (.inr (.inl e))
        · exact hmu b (.inr (.inr (.inl (by rw [e]; rfl))))
        · exact hmu b (.inr (.inr (.inr e)))
      · have hA := H.out.lt
        have hz1 := HPO.out.1.size
        rcases hg' with e | e
        · have := hA g' e
          exact ⟨.inl e, by omega⟩
        · exact ⟨.inr ⟨e.1, by omega⟩, by omega⟩)
    go_wp2_with fail
    refine HCU.out.mono ?_
    rintro e w5 ⟨rfl, hp5, ho5⟩
    cases hpl : D.plan with
    | none =>
      have hc : (D.laid i l).cuts = false := by unfold PDk.cuts PDk.laid PDk.wet; dsimp only; rw [hpl]
      have hd : (D.laid i l).done = (0, (D.laid i l).less) := by
        unfold PDk.done PDk.less PDk.laid PDk.wet
        dsimp only
        rw [hpl]
        rfl
      have F := Lib.hid (show DgPostN A w1 d (D.laid i l).done (.returned (.int .i64 0)) w5 from by
        have hw := HW.out w5 (ho5.mono fun b e => .inr (.inr (.inr e)))
        rw [hd]
        exact ⟨rfl, ⟨_, _, _, _, _, hp5.grow (fun g' hg' => (hw.2 g' hg').1) fun g' hg' => hg'.elim (fun e => by have := H.out.lt g' e; have := hw.1.size; omega) fun e => e.2⟩, hw.1⟩)
      rw [hc]
      clear hp5 ho5 hc hd HCU hpl
      go_wp2_with fail
      go_ret
      exact F.out
    | some p =>
      obtain ⟨k, mask⟩ := p
      have hc : (D.laid i l).cuts = decide (k - 1 < 0) := by unfold PDk.cuts PDk.laid PDk.wet; dsimp only; rw [hpl]
      have hpl2 : (D.laid i l).less.plan = some (k - 1, mask) := by
        show D.plan.map _ = _
        rw [hpl]
        rfl
      by_cases hk : k - 1 < 0
      · have hd : (D.laid i l).done = (2, (D.laid i l).less.crash mask) := by
          unfold PDk.done PDk.laid PDk.wet
          dsimp only
          rw [hpl]
          dsimp only
          rw [if_pos hk]
          rfl
        rw [hc, decide_eq_true hk]
        obtain ⟨b, mv, hb, hbc, hsl, hby⟩ := hp5.pl _ _ hpl2
        obtain ⟨ma, mc, rfl⟩ := hsl.form
        have c3 : w5.cell? ⟨d, 3, none⟩ = some (.pointer (some ⟨b, 0, none⟩)) := by
          have := hp5.cells.cell 3
          rw [hb] at this
          exact this
        have cm : w5.cell? ⟨b, 1, none⟩ = some (.slice ma mask.length mc) := hbc.cell 1
        have HCR := Lib.hid (crash_at hp5 (by show (D.T.set i l).length ≤ 2000; rw [List.length_set]; exact HI.out.2) ma mc mask (fun _ => hsl) (fun g' hg' e => hg'.2 (.inr (.inr (.inl e)))) rfl hby)
        have HO5 := Lib.hid ho5
        have HD := Lib.hid hd
        clear hp5 ho5 hc hd HCU hpl hpl2 hk hb hbc hsl hby
        generalize mask.length = ml at *
        go_wp2_with fail
        refine HCR.out.mono ?_
        rintro e w6 ⟨rfl, ⟨vs6, hp6⟩, ho6⟩
        have F := Lib.hid (show DgPostN A w1 d (D.laid i l).done (.returned (.int .i64 2)) w6 from by
          rw [HD.out]
          have hw := HW.out w6 ((HO5.out.mono fun b e => .inr (.inr (.inr e))).trans (ho6.mono fun b e => e.elim .inl fun e => .inr (e.elim .inl fun e => .inr (.inl (Option.some.inj e).symm))))
          exact ⟨rfl, ⟨_, _, _, _, _, hp6.grow (fun g' hg' => (hw.2 g' hg').1) fun g' hg' => hg'.elim (fun e => by have := H.out.lt g' e; have := hw.1.size; omega) fun e => e.2⟩, hw.1⟩)
        clear hp6 ho6 HCR
        go_wp2_with fail
        go_ret
        exact F.out
      · have hd : (D.laid i l).done = (0, (D.laid i l).less) := by
          unfold PDk.done PDk.laid PDk.wet
          dsimp only
          rw [hpl]
          dsimp only
          rw [if_neg hk]
        have F := Lib.hid (show DgPostN A w1 d (D.laid i l).done (.returned (.int .i64 0)) w5 from by
          have hw := HW.out w5 (ho5.mono fun b e => .inr (.inr (.inr e)))
          rw [hd]
          exact ⟨rfl, ⟨_, _, _, _, _, hp5.grow (fun g' hg' => (hw.2 g' hg').1) fun g' hg' => hg'.elim (fun e => by have := H.out.lt g' e; have := hw.1.size; omega) fun e => e.2⟩, hw.1⟩)
        rw [hc, decide_eq_false hk]
        clear hp5 ho5 hc hd HCU hpl hpl2 hk
        go_wp2_with fail
        go_ret
        exact F.out
end Go.Proofs.YtojkggppcmdepaaGreat

namespace Go.Proofs.YtojkggppcmdepaaGreat
open Go.RowKit Go.Wh Go.Maps

section
variable {A X : Nat → Prop} {w w' : World} {d mb : Nat} {D : PDk} {tv : Value} {vs : List Value} {V : Int → Option Value} {pp : Option Nat}
/-- No tile is loose any more. -/
theorem DgAt.dry (h : DgAt A w d D tv mb vs V pp) (hk : kmap w' Tryz.prog 3 (fun z : Int => .int .i64 z) mb (fun _ => none)) (ho : Only (fun b => b = mb) w w') : DgAt A w' d { D with was := fun _ => none } tv mb vs (fun _ => none) pp := by
  have hmu : ∀ g, ¬ Mu d mb tv pp g → ¬ g = mb := fun g hn e => hn (.inr (.inl e))
  exact {
    cells := h.cells.only ho h.dm
    t := h.t.only ho fun g hg e => (h.td g hg).2 e
    ins := fun j l' hj => by
      obtain ⟨u, hu, hr⟩ := h.ins j l' hj
      exact ⟨u, hu, Reads.only hr ho fun g hg => hmu g ((h.ct u (List.mem_of_getElem? hu)).2 g hg).2⟩
    m := hk
    wi := fun x u hu => by cases hu
    wn := fun j _ => rfl
    pl := fun k mask hp => by
      obtain ⟨b, mv, k1, k2, k3, k4⟩ := h.pl k mask hp
      exact ⟨b, mv, k1, k2.only ho (h.pd b k1).2.1, k3.only ho fun g hg => hmu g hg.2, k4⟩
    pn := h.pn
    dm := h.dm
    td := h.td
    pd := h.pd
    mu := h.mu
    ct := h.ct
    cw := fun x u hu => by cases hu
    lt := fun g hg => Nat.lt_of_lt_of_le (h.lt g hg) ho.size }
/-- What a Sync answers and leaves. -/
def PDk.sync (D : PDk) : Int × PDk := if D.dead = true then (2, D) else if D.cuts = true then (2, D.less.crash ((D.plan.map fun p => p.2).getD [])) else (0, { D.less with was := fun _ => none })
def SyPostG (A : Nat → Prop) (w : World) (d : Nat) (r : Int × PDk) (e : Ending) (w' : World) : Prop := e = .returned (.int .i64 r.1) ∧ DgX A d r.2 w' ∧ Only A w w'
set_option maxHeartbeats 2000000 in
set_option maxRecDepth 100000 in
theorem sync_at (h : DgAt A w d D tv mb vs V pp) (hf : D.fine) (hT : D.T.length ≤ 2000) :
    Calls Tryz.prog 85 #[.pointer (some ⟨d, 0, none⟩)] w (SyPostG A w d D.sync) := by
  have c2 : w.cell? ⟨d, 2, none⟩ = some (.bool D.dead) := h.cells.cell 2
  cases hq : D.dead with
  | true =>
    have F := Lib.hid (show SyPostG A w d D.sync (.returned (.int .i64 2)) w from by
      unfold PDk.sync
      rw [if_pos hq]
      exact ⟨rfl, ⟨_, _, _, _, _, h⟩, Only.refl _ _⟩)
    rw [hq] at c2
    clear h hq hf
    go_enter Tryz.func85, Tryz.ntmps85
    go_wp2_with fail
    go_ret
    exact F.out
  | false =>
    rw [hq] at c2
    have HCU := Lib.hid (cut_at h hf)
    have H := Lib.hid (And.intro h hT)
    have HQ := Lib.hid hq
    cases hc : D.cuts with
    | true =>
      have hcc := hc
      unfold PDk.cuts at hcc
      cases hpl : D.plan with
      | none => rw [hpl] at hcc; cases hcc
      | some p =>
        obtain ⟨k, mask⟩ := p
        have hpl2 : D.less.plan = some (k - 1, mask) := by
          show D.plan.map _ = _
          rw [hpl]
          rfl
        have HD := Lib.hid (show D.sync = (2, D.less.crash mask) from by
          unfold PDk.sync
          rw [if_neg (by rw [hq]; decide), if_pos hc, hpl]
          rfl)
        rw [hc] at HCU
        have HPL := Lib.hid hpl2
        clear h hf hq hc hcc hpl hpl2 hT
        go_enter Tryz.func85, Tryz.ntmps85
        go_wp2_with fail
        refine HCU.out.mono ?_
        rintro e w5 ⟨rfl, hp5, ho5⟩
        obtain ⟨b, mv, hb, hbc, hsl, hby⟩ := hp5.pl _ _ HPL.out
        obtain ⟨ma, mc, rfl⟩ := hsl.form
        have c3 : w5.cell? ⟨d, 3, none⟩ = some (.pointer (some ⟨b, 0, none⟩)) := by
          have := hp5.cells.cell 3
          rw [hb] at this
          exact this
        have cm : w5.cell? ⟨b, 1, none⟩ = some (.slice ma mask.length mc) := hbc.cell 1
        have HCR := Lib.hid (crash_at hp5 H.out.2 ma mc mask (fun _ => hsl) (fun g' hg' e => hg'.2 (.inr (.inr (.inl e)))) rfl hby)
        have HO5 := Lib.hid ho5
        clear hp5 ho5 HCU hb hbc hsl hby
        generalize mask.length = ml at *
        go_wp2_with fail
        refine HCR.out.mono ?_
        rintro e w6 ⟨rfl, ⟨vs6, hp6⟩, ho6⟩
        have F := Lib.hid (show SyPostG A w d D.sync (.returned (.int .i64 2)) w6 from by
          have hmu := H.out.1.mu
          rw [HD.out]
          exact ⟨rfl, ⟨_, _, _, _, _, hp6⟩, (HO5.out.mono fun b e => hmu b (.inr (.inr (.inr e)))).trans (ho6.mono fun b e => e.elim (fun e => hmu b (.inl e)) fun e => e.elim (fun e => hmu b (.inr (.inl e))) fun e => hmu b (.inr (.inr (.inl e))))⟩)
        clear hp6 ho6 HCR
        go_wp2_with fail
        go_ret
        exact F.out
    | false =>
      have HD := Lib.hid (show D.sync = (0, { D.less with was := fun _ => none }) from by
        unfold PDk.sync
        rw [if_neg (by rw [hq]; decide), if_neg (by rw [hc]; decide)])
      rw [hc] at HCU
      clear h hf hq hc hT
      go_enter Tryz.func85, Tryz.ntmps85
      go_wp2_with fail
      refine HCU.out.mono ?_
      rintro e w5 ⟨rfl, hp5, ho5⟩
      have c1 : w5.cell? ⟨d, 1, none⟩ = some (.map (some mb)) := hp5.cells.cell 1
      obtain ⟨w6, hrun, hk6, hg6, hs6⟩ := kmap.clear (ty := 0) hp5.m Tryz.underlying81
      have ho6 : Only (fun b => b = mb) w5 w6 := Only.grown hg6 fun j e => (Option.some.inj e).symm
      have F := Lib.hid (show SyPostG A w d D.sync (.returned (.int .i64 0)) w6 from by
        have hmu := H.out.1.mu
        rw [HD.out]
        exact ⟨rfl, ⟨_, _, _, _, _, hp5.dry hk6 ho6⟩, (ho5.mono fun b e => hmu b (.inr (.inr (.inr e)))).trans (ho6.mono fun b e => hmu b (.inr (.inl e)))⟩)
      clear hp5 ho5 HCU hk6 hg6 hs6 ho6
      go_wp2_with fail
      go_ret
      exact F.out
set_option maxRecDepth 10000 in
theorem dead_at (h : DgAt A w d D tv mb vs V pp) : Calls Tryz.prog 27 #[.pointer (some ⟨d, 0, none⟩)] w (SamePost w (.bool D.dead)) := by
  have c2 : w.cell? ⟨d, 2, none⟩ = some (.bool D.dead) := h.cells.cell 2
  generalize D.dead = q at *
  clear h
  go_enter Tryz.func27, Tryz.ntmps27
  go_wp2_with fail
  go_ret
  exact ⟨rfl, rfl⟩
theorem DgAt.cellD {k : Nat} {u : Value} {D' : PDk} {pp' : Option Nat} (h : DgAt A w d D tv mb vs V pp) (hT : D'.T = D.T) (hW : D'.was = D.was) (hc : [tv, .map (some mb), .bool D.dead, ptrV pp].set k u = [tv, .map (some mb), .bool D'.dead, ptrV pp'])
    (hpl : ∀ k mask, D'.plan = some (k, mask) → D.plan = some (k, mask)) (hpn : D'.plan = none → pp' = none) (hpp : ∀ g, pp' = some g → pp = some g) (hps : ∀ k mask, D'.plan = some (k, mask) → pp' = pp) : DgAt A (w.setCell ⟨d, k, none⟩ u) d D' tv mb vs V pp' := by
  have ho := setCell_only w ⟨d, k, none⟩ u
  have hz : (w.setCell ⟨d, k, none⟩ u).heap.size = w.heap.size := by simp [World.setCell]
  have hmu : ∀ g, ¬ Mu d mb tv pp g → ¬ g = d := fun g hn e => hn (.inl e)
  have hmm : ∀ g, Mu d mb tv pp' g → Mu d mb tv pp g := fun g hg => hg.imp id fun e => e.imp id fun e => e.imp id (hpp g)
  obtain ⟨T', was', dead', plan'⟩ := D'
  dsimp only at hT hW
  subst hT hW
  exact {
    cells := by
      have := h.cells.setCell k u
      rw [hc] at this
      exact this
    t := h.t.only ho fun g hg e => (h.td g hg).1 e
    ins := fun j l' hj => by
      obtain ⟨v, hv, hr⟩ := h.ins j l' hj
      exact ⟨v, hv, Reads.only hr ho fun g hg => hmu g ((h.ct v (List.mem_of_getElem? hv)).2 g hg).2⟩
    m := h.m.block (ho.block mb h.m.lt fun e => h.dm (show mb = d from e).symm)
    wi := fun x v hv => by
      obtain ⟨i, l, k1, k2, k3, k4⟩ := h.wi x v hv
      exact ⟨i, l, k1, k2, k3, Reads.only k4 ho fun g hg => hmu g ((h.cw x v hv).2 g hg).2⟩
    wn := h.wn
    pl := fun k' mask hp => by
      obtain ⟨b, mv, k1, k2, k3, k4⟩ := h.pl k' mask (hpl k' mask hp)
      exact ⟨b, mv, (hps k' mask hp).trans k1, k2.only ho (h.pd b k1).1, (k3.only ho fun g hg => hmu g hg.2).mono fun g hg => ⟨hg.1, fun e => hg.2 (hmm g e)⟩, k4⟩
    pn := hpn
    dm := h.dm
    td := h.td
    pd := fun g hg => h.pd g (hpp g hg)
    mu := fun g hg => h.mu g (hmm g hg)
    ct := fun v hv => ⟨(h.ct v hv).1, fun g hg => ⟨((h.ct v hv).2 g hg).1, fun e => ((h.ct v hv).2 g hg).2 (hmm g e)⟩⟩
    cw := fun x v hv => ⟨(h.cw x v hv).1, fun g hg => ⟨((h.cw x v hv).2 g hg).1, fun e => ((h.cw x v hv).2 g hg).2 (hmm g e)⟩⟩
    lt := fun g hg => by rw [hz]; exact h.lt g hg }
set_option maxRecDepth 10000 in
theorem power_at (h : DgAt A w d D tv mb vs V pp) : Calls Tryz.prog 28 #[.pointer (some ⟨d, 0, none⟩)] w (fun e w' => e = .returned (.tuple #[]) ∧ DgX A d { D with dead := false } w' ∧ Only A w w') := by
  have c2 : w.cell? ⟨d, 2, none⟩ = some (.bool D.dead) := h.cells.cell 2
  have f2 := h.cells.free 2
  have F := Lib.hid (show DgX A d { D with dead := false } (w.setCell ⟨d, 2, none⟩ (.bool false)) ∧ Only A w (w.setCell ⟨d, 2, none⟩ (.bool false)) from ⟨⟨_, _, _, _, pp, h.cellD rfl rfl rfl (fun _ _ e => e) h.pn (fun _ e => e) fun _ _ _ => rfl⟩, (setCell_only w ⟨d, 2, none⟩ _).mono fun b e => by rw [show b = d from e]; exact h.mu d (.inl rfl)⟩)
  clear h
  generalize D.dead = q at c2
  go_enter Tryz.func28, Tryz.ntmps28
  go_wp2_with fail
  go_end0
  exact ⟨rfl, F.out⟩
theorem tiles_at (h : DgAt A w d D tv mb vs V pp) : Calls Tryz.prog 42 #[.pointer (some ⟨d, 0, none⟩)] w (SamePost w (.int .i64 D.T.length)) := by
  obtain ⟨a, c, rfl⟩ := h.form
  have c0 : w.cell? ⟨d, 0, none⟩ = some (.slice a D.T.length c) := h.cells.cell 0
  generalize D.T.length = n at *
  clear h
  go_enter Tryz.func42, Tryz.ntmps42
  go_wp2_with fail
  go_ret
  exact ⟨rfl, rfl⟩
set_option maxHeartbeats 1000000 in
theorem read_at (h : DgAt A w d D tv mb vs V pp) (hq : D.dead = false) (i : Nat) (l : List Int) (hi : D.T[i]? = some l) :
    Calls Tryz.prog 83 #[.pointer (some ⟨d, 0, none⟩), .int .i64 i] w (fun e w' => ∃ v, e = .returned (.tuple #[v, .int .i64 0]) ∧ Vec w' 1 v 64 (bc l) ∧ Still w w' ∧ ∀ g, v.ownBlock = some g → w.heap.size ≤ g ∧ g < w'.heap.size) := by
  have hl := (List.getElem?_eq_some_iff.1 hi).1
  have HM := Lib.hid (may_at h (i : Int))
  have hmay : D.may i = 0 := by
    unfold PDk.may
    rw [hq, if_neg (by decide), if_neg (by omega)]
  rw [hmay] at HM
  obtain ⟨v, hv, hr⟩ := h.ins i l hi
  have HC := Lib.hid (clone_b v 64 (bc l) w hr (bc_one l) (by omega))
  obtain ⟨g, o, c, rfl, ht⟩ := h.t.form (by omega)
  have c0 : w.cell? ⟨d, 0, none⟩ = some (.slice (some ⟨g, o, none⟩) D.T.length c) := h.cells.cell 0
  have c1 : w.cell? ⟨g, o + i, none⟩ = some v := by
    rw [ht.cells i (by omega)]
    exact hv
  have b1 : (0 : Int) ≤ (i : Int) := by omega
  have b2 : (i : Int) < (D.T.length : Int) := by omega
  generalize D.T.length = n at *
  clear h hi hl hv hr ht hmay hq
  go_enter Tryz.func83, Tryz.ntmps83
  go_wp2_with fail
  refine HM.out.mono ?_
  rintro e w1 ⟨rfl, rfl⟩
  go_wp2_with fail
  refine HC.out.mono ?_
  rintro e w2 ⟨v2, rfl, hv2, hb2, hg2⟩
  have F := Lib.hid (show ∃ v, (Ending.returned (.tuple #[v2, .int .i64 0])) = .returned (.tuple #[v, .int .i64 0]) ∧ Vec w2 1 v 64 (bc l) ∧ Still w1 w2 ∧ ∀ g, v.ownBlock = some g → w1.heap.size ≤ g ∧ g < w2.heap.size from ⟨v2, rfl, hv2, Only.ofBelow hb2, hg2⟩)
  clear hv2 hb2 hg2 HC HM
  go_wp2_with fail
  go_ret2
  exact F.out
end
end Go.Proofs.YtojkggppcmdepaaGreat

namespace Go.Proofs.YtojkggppcmdepaaGreat
open Go.RowKit Go.Wh Go.Maps

section
variable {A A' X : Nat → Prop} {w w' w'' : World} {d : Nat} {D : PDk}
theorem DgX.grow (h : DgX A d D w) (ha : ∀ g, A g → A' g) (hl : ∀ g, A' g → g < w.heap.size) : DgX A' d D w := by
  obtain ⟨tv, mb, vs, V, pp, h⟩ := h
  exact ⟨tv, mb, vs, V, pp, h.grow ha hl⟩
theorem DgX.lt (h : DgX A d D w) : ∀ g, A g → g < w.heap.size := by
  obtain ⟨tv, mb, vs, V, pp, h⟩ := h
  exact h.lt
theorem DgX.lens (h : DgX A d D w) {i : Nat} {l : List Int} (hi : D.T[i]? = some l) : l.length = 64 := by
  obtain ⟨tv, mb, vs, V, pp, h⟩ := h
  obtain ⟨v, _, hr⟩ := h.ins i l hi
  have := hr.1
  rw [bc_length] at this
  omega
/-- What turns a disk, behind what has turned it. -/
theorem only_newer (ho : Only A w w') (h2 : Only (Newer A w w') w' w'') : Only A w w'' :=
  ho.andThen h2 fun i hi e => e.elim id fun e => by omega
theorem DgX.next (ho : Only A w w') (hl : ∀ g, A g → g < w.heap.size) (h : DgX (Newer (Newer A w w') w' w'') d D w'') (h2 : Only (Newer A w w') w' w'') : DgX (Newer A w w'') d D w'' := by
  have z1 := ho.size
  have z2 := h2.size
  refine h.grow (fun g hg => ?_) fun g hg => ?_
  · rcases hg with (e | e) | e
    · exact .inl e
    · exact .inr ⟨e.1, by omega⟩
    · exact .inr ⟨by omega, e.2⟩
  · rcases hg with e | e
    · have := hl g e
      omega
    · exact e.2
theorem DgX.fresh (h : DgX A d D w) (hs : Still w w') : DgX (Newer A w w') d D w' := by
  have z := hs.size
  have hl := h.lt
  exact (h.still hs).grow (fun _ hg => .inl hg) fun g hg => hg.elim (fun e => by have := hl g e; omega) fun e => e.2
end
/-- How far the tiles are laid: what was answered, the disk, whether any was written. -/
def clN (D : PDk) (at_ : Nat) (S : List Int) : Nat → Int × PDk × Bool
  | 0 => (0, D, false)
  | i + 1 => if (clN D at_ S i).1 ≠ 0 then clN D at_ S i else if (clN D at_ S i).2.1.T[at_ + i]? = some (tileB S i) then clN D at_ S i else
      ((((clN D at_ S i).2.1.laid (at_ + i) (tileB S i)).done).1, (((clN D at_ S i).2.1.laid (at_ + i) (tileB S i)).done).2, true)
def PDk.clean (D : PDk) (at_ : Nat) (S : List Int) (n : Nat) : Int × PDk :=
  if (clN D at_ S n).1 ≠ 0 then ((clN D at_ S n).1, (clN D at_ S n).2.1) else if (clN D at_ S n).2.2 = true then (clN D at_ S n).2.1.sync else (0, (clN D at_ S n).2.1)
theorem clN_err {D : PDk} {at_ : Nat} {S : List Int} {i : Nat} (h : (clN D at_ S i).1 ≠ 0) : ∀ j, clN D at_ S (i + j) = clN D at_ S i
  | 0 => rfl
  | j + 1 => by
    have ih := clN_err h j
    show (if (clN D at_ S (i + j)).1 ≠ 0 then clN D at_ S (i + j) else _) = _
    rw [if_pos (by rw [ih]; exact h)]
    exact ih
theorem PDk.done_ok {D : PDk} (hf : D.fine) (hq : D.dead = false) (h : D.done.1 = 0) : D.done.2.fine ∧ D.done.2.dead = false ∧ D.done.2.T = D.T ∧ D.done.2.was = D.was := by
  unfold PDk.done at h ⊢
  cases hp : D.plan with
  | none =>
    rw [hp] at h
    exact ⟨hf, hq, rfl, rfl⟩
  | some p =>
    obtain ⟨k, mask⟩ := p
    rw [hp] at h
    dsimp only at h ⊢
    split at h
    · cases h
    · rename_i hk
      rw [if_neg hk]
      refine ⟨fun k' mask' he => ?_, hq, rfl, rfl⟩
      have e : D.less.plan = some (k - 1, mask) := by unfold PDk.less; rw [hp]; rfl
      rw [e] at he
      injection he with he
      injection he with e1 e2
      have := hf k mask hp
      omega
theorem PDk.laid_fine {D : PDk} {i : Nat} {l : List Int} (hf : D.fine) : (D.laid i l).fine := hf
theorem PDk.done_T {D : PDk} : D.done.2.T.length = D.T.length := by
  unfold PDk.done
  cases hp : D.plan with
  | none => rfl
  | some p =>
    dsimp only
    split
    · exact crashN_length
    · rfl
theorem clN_len {D : PDk} {at_ : Nat} {S : List Int} : ∀ (i : Nat), (clN D at_ S i).2.1.T.length = D.T.length
  | 0 => rfl
  | i + 1 => by
    unfold clN
    split
    · exact clN_len i
    · split
      · exact clN_len i
      · show (((clN D at_ S i).2.1.laid (at_ + i) (tileB S i)).done).2.T.length = _
        rw [PDk.done_T]
        show ((clN D at_ S i).2.1.T.set _ _).length = _
        rw [List.length_set]
        exact clN_len i
theorem clN_ok {D : PDk} {at_ : Nat} {S : List Int} (hf : D.fine) (hq : D.dead = false) : ∀ (i : Nat), (clN D at_ S i).1 = 0 → (clN D at_ S i).2.1.fine ∧ (clN D at_ S i).2.1.dead = false
  | 0, _ => ⟨hf, hq⟩
  | i + 1, h => by
    unfold clN at h ⊢
    split at h
    · rename_i he
      exact absurd h he
    · rename_i he
      have he : (clN D at_ S i).1 = 0 := by
        by_cases hx : (clN D at_ S i).1 = 0
        · exact hx
        · exact absurd hx he
      have ih := clN_ok hf hq i he
      rw [if_neg (by rw [he]; decide)]
      split at h
      · rename_i hx
        rw [if_pos hx]
        exact ih
      · rename_i hx
        rw [if_neg hx]
        have := PDk.done_ok (D := (clN D at_ S i).2.1.laid (at_ + i) (tileB S i)) ih.1 ih.2 h
        exact ⟨this.1, this.2.1⟩
/-- What a cleaning leaves. -/
def ClPostG (A : Nat → Prop) (w : World) (d : Nat) (r : Int × PDk) (e : Ending) (w' : World) : Prop := e = .returned (.int .i64 r.1) ∧ DgX (Newer A w w') d r.2 w' ∧ Only A w w'
/-- What stands at the head of a round. -/
def ClRelG (A : Nat → Prop) (w : World) (d : Nat) (D : PDk) (wr : World) : Prop := DgX (Newer A w wr) d D wr ∧ Only A w wr
set_option maxHeartbeats 4000000 in
set_option maxRecDepth 100000 in
theorem clean_g {A : Nat → Prop} (w : World) (t d at_ n : Nat) (S : List Int) (sv : Value) (c st : Nat) (D : PDk) (h : TlAt w t d at_ n S sv c st) (hd : DgX A d D w) (hsep : ¬ A t ∧ ∀ g, sv.ownBlock = some g → ¬ A g) (hf : D.fine) (hq : D.dead = false) (hT : D.T.length ≤ 2000) (hn : at_ + n ≤ D.T.length) (hb : ∀ i l, (clN D at_ S i).2.1.T[at_ + i]? = some l → Byt l) (hS : S.length ≤ 1000000) :
    Calls Tryz.prog 45 #[.pointer (some ⟨t, 0, none⟩)] w (ClPostG A w d (D.clean at_ S n)) := by
  have H := Lib.hid h
  have HSEP := Lib.hid hsep
  have HB := Lib.hid (And.intro hT (And.intro hn (And.intro hb hS)))
  have HF := Lib.hid (And.intro hf hq)
  have HAL := Lib.hid hd.lt
  have c2 : w.cell? ⟨t, 2, none⟩ = some (.int .i64 n) := h.cells.cell 2
  have SS := Lib.hid (fun w' (ho : Only A w w') => show w'.cell? ⟨t, 0, none⟩ = some (.pointer (some ⟨d, 0, none⟩)) ∧ w'.cell? ⟨t, 1, none⟩ = some (.int .i64 at_) from ⟨(h.only ho hsep.1 hsep.2).cells.cell 0, (h.only ho hsep.1 hsep.2).cells.cell 1⟩)
  have H0 := Lib.hid (show ClRelG A w d (clN D at_ S 0).2.1 w from ⟨hd.fresh (Still.refl w), Only.refl _ _⟩)
  clear h hd hT hn hb hS hsep hf hq
  go_enter Tryz.func45, Tryz.ntmps45
  go_wp2_with fail
  go_loopw [3, 13] (fun s3 s13 wr => ∃ (i : Nat), s13 = .int .i64 i ∧ s3 = .bool (clN D at_ S i).2.2 ∧ i ≤ n ∧ (clN D at_ S i).1 = 0 ∧ ClRelG A w d (clN D at_ S i).2.1 wr) (fun _ s13 _ => n - (intOf s13).toNat)
  case atStart => exact ⟨0, rfl, rfl, Nat.zero_le _, rfl, H0.out⟩
  case round =>
    obtain ⟨i, rfl, rfl, hin, hce, hr⟩ := hrel
    have HR := Lib.hid hr
    have HCE := Lib.hid hce
    obtain ⟨hd1, ho1⟩ := hr
    obtain ⟨c0, c1⟩ := SS.out _ ho1
    have hok := clN_ok HF.out.1 HF.out.2 i hce
    have hlen := clN_len (D := D) (at_ := at_) (S := S) i
    have hbi := HB.out.2.2.1 i
    have hce1 : clN D at_ S (i + 1) = (if (clN D at_ S i).2.1.T[at_ + i]? = some (tileB S i) then clN D at_ S i else ((((clN D at_ S i).2.1.laid (at_ + i) (tileB S i)).done).1, (((clN D at_ S i).2.1.laid (at_ + i) (tileB S i)).done).2, true)) := by
      show (if (clN D at_ S i).1 ≠ 0 then _ else _) = _
      rw [if_neg (by rw [hce]; decide)]
    have HX := Lib.hid (And.intro hok (And.intro hlen (And.intro hbi hce1)))
    have hfin : i = n → D.clean at_ S n = if (clN D at_ S i).2.2 = true then (clN D at_ S i).2.1.sync else (0, (clN D at_ S i).2.1) := fun e => by
      subst e
      unfold PDk.clean
      rw [if_neg (by rw [hce]; decide)]
    have HFIN := Lib.hid hfin
    obtain ⟨Ci, hCi⟩ : ∃ C, C = clN D at_ S i := ⟨_, rfl⟩
    have HCI := Lib.hid hCi
    rw [← hCi] at HR HCE HX HFIN hd1
    rw [← hCi]
    obtain ⟨ei, Di, bi⟩ := Ci
    clear hCi hok hlen hbi hce1 hfin hce
    dsimp only at HR HCE HX HFIN hd1
    have HD1 := Lib.hid hd1
    obtain ⟨tv, mb, vs, V, pp, hda⟩ := hd1
    have HDA := Lib.hid hda
    clear hda
    by_cases hi : i < n
    · obtain ⟨l, hl⟩ : ∃ l, Di.T[at_ + i]? = some l := ⟨_, List.getElem?_eq_getElem (by have := HB.out.2.1; have := HX.out.2.1; omega)⟩
      have HL := Lib.hid hl
      have HRD := Lib.hid (fun w' (hs : Still wr w') => show Calls Tryz.prog 83 #[.pointer (some ⟨d, 0, none⟩), .int .i64 ((at_ : Int) + (i : Int))] w' (fun e w'' => ∃ v, e = .returned (.tuple #[v, .int .i64 0]) ∧ Vec w'' 1 v 64 (bc l) ∧ Still w' w'' ∧ ∀ g, v.ownBlock = some g → w'.heap.size ≤ g ∧ g < w''.heap.size) from by
        have := read_at (HDA.out.still hs) HX.out.1.2 (at_ + i) l hl
        rwa [Int.natCast_add] at this)
      have HLB := Lib.hid (show Byt l from HX.out.2.2.1 l hl)
      have b1 : decide ((i : Int) < (n : Int)) = true := by simp; omega
      have b2 : decide (i < n) = true := by simp; omega
      have u9 : IntKind.i64.wrap ((i : Int) + 1) = (i : Int) + 1 := IntWalk.i64_in _ (by have := HB.out; omega)
      have u8 : IntKind.i64.wrap ((at_ : Int) + (i : Int)) = (at_ : Int) + (i : Int) := IntWalk.i64_in _ (by have := HB.out; omega)
      have HS := Lib.hid (Still.refl wr)
      have SSR := Lib.hid (fun w' (hs : Still wr w') => SS.out w' (HR.out.2.trans (hs.mono fun _ e => e.elim)))
      have HIN := Lib.hid hin
      clear hl c2 hin
      go_wp2_with fail
      go_region_held3 (fun w' => w'.cell? ⟨t, 0, none⟩ = some (.pointer (some ⟨d, 0, none⟩)) ∧ w'.cell? ⟨t, 1, none⟩ = some (.int .i64 at_)) (first | exact ⟨c0, c1⟩ | exact SSR.out _ (by assumption))
        (first | (go_at_call 83; (with_reducible refine (HRD.out _ HS.out.drew).mono ?_); rintro e w3 ⟨v3, rfl, hv3, hs3, hg3⟩; have hs3' : Still wr w3 := HS.out.drew.trans hs3))
      have HT3 := Lib.hid (show TlAt w3 t d at_ n S sv c st from (H.out.only HR.out.2 HSEP.out.1 HSEP.out.2).still hs3')
      have hTI := tile_any w3 t d at_ n S sv c st i HT3.out (by have := HB.out; omega) HB.out.2.2.2
      have HV3 := Lib.hid (And.intro hv3 (And.intro hs3' hg3))
      obtain ⟨va, vc, rfl⟩ := hv3.form'
      clear hv3 hs3 hg3 hs3'
      go_wp2_with fail
      refine hTI.mono ?_
      rintro e w4 ⟨v4, rfl, hv4, hb4, hg4⟩
      have hs4 : Still w3 w4 := Only.ofBelow hb4
      have HV4 := Lib.hid (And.intro hv4 (And.intro hs4 hg4))
      have hEQ := equal_any w4 _ v4 64 64 l (tileB S i) (Vec.sl0 (HV3.out.1.only hs4 fun _ _ e => e) (by omega)) (Vec.sl0 hv4 (by omega)) HLB.out (tileB_byt H.out.byt)
      have HOO := Lib.hid (show Still wr w4 from HV3.out.2.1.trans hs4)
      obtain ⟨wa, wc, rfl⟩ := hv4.form'
      clear hv4 hb4 hg4 hs4 hTI
      go_wp2_with fail
      refine hEQ.mono ?_
      rintro e w5 ⟨rfl, rfl⟩
      clear hEQ
      by_cases hlt : l = tileB S i
      · have q : decide (l = tileB S i) = true := decide_eq_true hlt
        rw [q]
        have HN := Lib.hid (show (.bool bi : Value) = .bool (clN D at_ S (i + 1)).2.2 ∧ (clN D at_ S (i + 1)).1 = 0 ∧ ClRelG A w d (clN D at_ S (i + 1)).2.1 w5 from by
          have e := HX.out.2.2.2
          rw [if_pos (by rw [HL.out, hlt])] at e
          rw [e]
          refine ⟨rfl, HCE.out, ?_, HR.out.2.trans (HOO.out.mono fun _ e => e.elim)⟩
          have hz := HOO.out.size
          refine (HD1.out.still HOO.out).grow (fun g hg => hg.imp id fun e => ⟨e.1, by omega⟩) fun g hg => ?_
          rcases hg with e | e
          · have := HD1.out.lt g (.inl e)
            omega
          · exact e.2)
        clear hlt q
        go_wp2_with fail
        go_roundw
        case rel => exact ⟨i + 1, by go_num, HN.out.1, by omega, HN.out.2.1, HN.out.2.2⟩
        case measure => simp [intOf]; omega
      · have q : decide (l = tileB S i) = false := decide_eq_false hlt
        rw [q]
        have HC1 := Lib.hid (show clN D at_ S (i + 1) = (((Di.laid (at_ + i) (tileB S i)).done).1, ((Di.laid (at_ + i) (tileB S i)).done).2, true) from by
          have e := HX.out.2.2.2
          rw [if_neg (by rw [HL.out]; exact fun e => hlt (Option.some.inj e))] at e
          exact e)
        obtain ⟨R, hR⟩ : ∃ R, R = (Di.laid (at_ + i) (tileB S i)).done := ⟨_, rfl⟩
        rw [← hR] at HC1
        have HWR := Lib.hid (fun w' (hs : Still wr w') (hs4 : Still w5 w') => show Calls Tryz.prog 25 #[.pointer (some ⟨d, 0, none⟩), .int .i64 ((at_ : Int) + (i : Int)), .slice wa 64 wc] w' (DgPostN (Newer A w wr) w' d R) from by
          have hdk := HDA.out.still hs
          have hln := HX.out.2.1
          have := write_at hdk HX.out.1.2 HX.out.1.1 (at_ + i) (tileB S i) (.slice wa 64 wc) (by have := HB.out.2.1; omega) (by have := HB.out.1; omega) (HV4.out.1.only hs4 fun _ _ e => e).reads (fun g hg e => by
            have h1 := (HV4.out.2.2 g hg).1
            have h2 := HDA.out.lt g (HDA.out.mu g e)
            have h3 := HV3.out.2.1.size
            omega)
          rw [hR]
          rwa [Int.natCast_add] at this)
        have HFI := Lib.hid (fun w' w'' e (hs : Still wr w') (hp : DgPostN (Newer A w wr) w' d R e w'') => show e = .returned (.int .i64 R.1) ∧ ClRelG A w d R.2 w'' from by
          obtain ⟨h1, h2, h3⟩ := hp
          have hz := hs.size
          have ho3 : Only (Newer A w wr) wr w'' := (hs.mono fun _ e => e.elim).trans h3
          refine ⟨h1, DgX.next HR.out.2 HAL.out (h2.grow (fun g hg => hg.imp id fun e => ⟨by omega, e.2⟩) fun g hg => ?_) ho3, only_newer HR.out.2 ho3⟩
          have hzz := ho3.size
          rcases hg with e | e
          · have := HD1.out.lt g e
            omega
          · exact e.2)
        obtain ⟨k0, k1⟩ := SS.out _ (HR.out.2.trans (HOO.out.mono fun _ e => e.elim))
        have HSO := Lib.hid (fun w'' (hc : ClRelG A w d R.2 w'') => SS.out w'' hc.2)
        clear hlt q c0 c1 hR
        obtain ⟨r1, r2⟩ := R
        dsimp only at HC1 HFI HSO
        go_wp2_with fail
        go_region_held3 (fun w' => w'.cell? ⟨t, 0, none⟩ = some (.pointer (some ⟨d, 0, none⟩)) ∧ w'.cell? ⟨t, 1, none⟩ = some (.int .i64 at_)) (first | exact ⟨k0, k1⟩ | exact HSO.out _ (by assumption))
          (first | (go_at_call 25; (with_reducible refine (HWR.out _ (HOO.out.trans (still_drew _)) (still_drew _)).mono ?_); rintro e w6 hp6; obtain ⟨rfl, hcl⟩ := HFI.out _ _ _ (HOO.out.trans (still_drew _)) hp6; clear hp6))
        have HN := Lib.hid hcl
        clear hcl
        by_cases hr0 : r1 = 0
        · subst hr0
          have HM := Lib.hid (show (.bool true : Value) = .bool (clN D at_ S (i + 1)).2.2 ∧ (clN D at_ S (i + 1)).1 = 0 ∧ ClRelG A w d (clN D at_ S (i + 1)).2.1 w6 from by
            rw [HC1.out]
            exact ⟨rfl, rfl, HN.out⟩)
          go_wp2_with fail
          go_roundw
          case rel => exact ⟨i + 1, by go_num, HM.out.1, by omega, HM.out.2.1, HM.out.2.2⟩
          case measure => simp [intOf]; omega
        · have qe : (r1 == 0) = false := by rw [beq_eq_false_iff_ne]; exact hr0
          have F := Lib.hid (show ClPostG A w d (D.clean at_ S n) (.returned (.int .i64 r1)) w6 from by
            have e1 : (clN D at_ S (i + 1)).1 ≠ 0 := by rw [HC1.out]; exact hr0
            have e2 := clN_err e1 (n - (i + 1))
            rw [show i + 1 + (n - (i + 1)) = n by omega] at e2
            have e3 : D.clean at_ S n = (r1, r2) := by
              unfold PDk.clean
              rw [e2, if_pos e1, HC1.out]
            rw [e3]
            exact ⟨rfl, HN.out⟩)
          have hrn : ¬ r1 = 0 := hr0
          clear hr0
          go_wp2_with fail
          go_ret
          exact F.out
    · have hge : i = n := by omega
      have HGE := Lib.hid (HFIN.out hge)
      subst hge
      have b1 : decide ((i : Int) < (i : Int)) = false := by simp
      cases bi with
      | false =>
        have F := Lib.hid (show ClPostG A w d (D.clean at_ S i) (.returned (.int .i64 0)) wr from by
          rw [HGE.out]
          exact ⟨rfl, HR.out⟩)
        go_wp2_with fail
        go_ret
        exact F.out
      | true =>
        have hSY := sync_at HDA.out HX.out.1.1 (by have := HB.out.1; have := HX.out.2.1; omega)
        have HFS := Lib.hid (fun e w'' (hp : SyPostG (Newer A w wr) wr d Di.sync e w'') => show ClPostG A w d (D.clean at_ S i) e w'' from by
          obtain ⟨h1, h2, h3⟩ := hp
          rw [HGE.out]
          have hz := h3.size
          refine ⟨h1, h2.grow (fun g hg => hg.imp id fun e => ⟨e.1, by omega⟩) fun g hg => ?_, only_newer HR.out.2 h3⟩
          rcases hg with e | e
          · have := HD1.out.lt g (.inl e)
            omega
          · exact e.2)
        go_wp2_with fail
        refine hSY.mono ?_
        intro e w6 hp
        have F := Lib.hid (HFS.out _ _ hp)
        obtain ⟨rfl, -⟩ := hp
        clear hSY
        go_wp2_with fail
        go_ret
        exact F.out
end Go.Proofs.YtojkggppcmdepaaGreat

namespace Go.Proofs.YtojkggppcmdepaaGreat
open Go.RowKit Go.Wh Go.Maps

def PDk.arm (D : PDk) (k : Int) (mask : List Int) : PDk := { D with plan := if 0 ≤ k then some (k, mask) else none }
section
variable {A X : Nat → Prop} {w w' : World} {d mb : Nat} {D : PDk} {tv : Value} {vs : List Value} {V : Int → Option Value} {pp : Option Nat}
/-- Nothing is to be cut any more. -/
theorem DgAt.unplan (h : DgAt A w d D tv mb vs V pp) : DgAt A (w.setCell ⟨d, 3, none⟩ (.pointer none)) d { D with plan := none } tv mb vs V none :=
  h.cellD rfl rfl rfl (fun _ _ e => by cases e) (fun _ => rfl) (fun _ e => by cases e) fun _ _ e => by cases e
/-- A plan that was made. -/
theorem DgAt.replan {b : Nat} {k : Int} {mask : List Int} {mv : Value} (h : DgAt A w d { D with plan := none } tv mb vs V none) (hb : A b) (hbm : b ≠ d ∧ b ≠ mb ∧ tv.ownBlock ≠ some b) (hbc : ∀ v ∈ vs, v.ownBlock ≠ some b) (hbw : ∀ x v, V x = some v → v.ownBlock ≠ some b) (hc : cellsAt w b [.int .i64 k, mv])
    (hm : Sl w (fun g => A g ∧ ¬ Mu d mb tv (some b) g) 1 mv mask.length (bc mask)) (hby : Byt mask) : DgAt A (w.setCell ⟨d, 3, none⟩ (.pointer (some ⟨b, 0, none⟩))) d { D with plan := some (k, mask) } tv mb vs V (some b) := by
  have ho := setCell_only w ⟨d, 3, none⟩ (.pointer (some ⟨b, 0, none⟩))
  have hz : (w.setCell ⟨d, 3, none⟩ (.pointer (some ⟨b, 0, none⟩))).heap.size = w.heap.size := by simp [World.setCell]
  have hmu : ∀ g, ¬ Mu d mb tv none g → ¬ g = d := fun g hn e => hn (.inl e)
  have hmm : ∀ g, Mu d mb tv (some b) g → Mu d mb tv none g ∨ g = b := fun g hg => by
    rcases hg with e | e | e | e
    · exact .inl (.inl e)
    · exact .inl (.inr (.inl e))
    · exact .inl (.inr (.inr (.inl e)))
    · exact .inr (Option.some.inj e).symm
  exact {
    cells := by
      have := h.cells.setCell 3 (.pointer (some ⟨b, 0, none⟩))
      exact this
    t := h.t.only ho fun g hg e => (h.td g hg).1 e
    ins := fun j l' hj => by
      obtain ⟨v, hv, hr⟩ := h.ins j l' hj
      exact ⟨v, hv, Reads.only hr ho fun g hg => hmu g ((h.ct v (List.mem_of_getElem? hv)).2 g hg).2⟩
    m := h.m.block (ho.block mb h.m.lt fun e => h.dm (show mb = d from e).symm)
    wi := fun x v hv => by
      obtain ⟨i, l, k1, k2, k3, k4⟩ := h.wi x v hv
      exact ⟨i, l, k1, k2, k3, Reads.only k4 ho fun g hg => hmu g ((h.cw x v hv).2 g hg).2⟩
    wn := h.wn
    pl := fun k' mask' hp => by
      injection hp with hp
      injection hp with e1 e2
      subst e1 e2
      exact ⟨b, mv, rfl, hc.only ho hbm.1, hm.only ho fun g hg e => hg.2 (.inl e), hby⟩
    pn := fun hn => by cases hn
    dm := h.dm
    td := h.td
    pd := fun g hg => by
      injection hg with hg
      subst hg
      exact hbm
    mu := fun g hg => (hmm g hg).elim (h.mu g) fun e => e ▸ hb
    ct := fun v hv => ⟨(h.ct v hv).1, fun g hg => ⟨((h.ct v hv).2 g hg).1, fun e => (hmm g e).elim ((h.ct v hv).2 g hg).2 fun e => hbc v hv (e ▸ hg)⟩⟩
    cw := fun x v hv => ⟨(h.cw x v hv).1, fun g hg => ⟨((h.cw x v hv).2 g hg).1, fun e => (hmm g e).elim ((h.cw x v hv).2 g hg).2 fun e => hbw x v hv (e ▸ hg)⟩⟩
    lt := fun g hg => by rw [hz]; exact h.lt g hg }
/-- What Arm leaves. -/
def ArPost (A : Nat → Prop) (w : World) (d : Nat) (D' : PDk) (e : Ending) (w' : World) : Prop := e = .returned (.tuple #[]) ∧ DgX (Newer A w w') d D' w' ∧ Only A w w'
set_option maxHeartbeats 2000000 in
set_option maxRecDepth 100000 in
theorem arm_at (h : DgAt A w d D tv mb vs V pp) (k : Int) (ma : Option Addr) (m mc : Nat) (mask : List Int) (hm : Reads w 1 (.slice ma m mc) m (bc mask)) (hA : ∀ g, (Value.slice ma m mc).ownBlock = some g → ¬ A g) (hb : Byt mask) (h10 : m ≤ 10000) :
    Calls Tryz.prog 23 #[.pointer (some ⟨d, 0, none⟩), .int .i64 k, .slice ma m mc] w (ArPost A w d (D.arm k mask)) := by
  have hml : mask.length = m := by have := hm.1; rw [bc_length] at this; omega
  have c3 : w.cell? ⟨d, 3, none⟩ = some (ptrV pp) := h.cells.cell 3
  have f3 := h.cells.free 3
  have h1 := h.unplan
  have o1 := setCell_only w ⟨d, 3, none⟩ (.pointer none)
  have z1 : (w.setCell ⟨d, 3, none⟩ (.pointer none)).heap.size = w.heap.size := by simp [World.setCell]
  have hAd : A d := h.mu d (.inl rfl)
  have oA : Only A w (w.setCell ⟨d, 3, none⟩ (.pointer none)) := o1.mono fun b e => by rw [show b = d from e]; exact hAd
  have HAL := Lib.hid h.lt
  by_cases hk : 0 ≤ k
  · have q : decide (0 ≤ k) = true := decide_eq_true hk
    have HD := Lib.hid (show D.arm k mask = { D with plan := some (k, mask) } from by unfold PDk.arm; rw [if_pos hk])
    have HCL := Lib.hid (clone_b (.slice ma m mc) m (bc mask) (w.setCell ⟨d, 3, none⟩ (.pointer none)) (Reads.only hm o1 fun g hg e => hA g hg (by rw [show g = d from e]; exact hAd)) (bc_one mask) h10)
    have H1 := Lib.hid (And.intro h1 (And.intro z1 (And.intro oA (And.intro hb hml))))
    clear h h1 o1 z1 oA hm hA hb hml hk
    go_enter Tryz.func23, Tryz.ntmps23
    go_wp2_with fail
    refine HCL.out.mono ?_
    rintro e w2 ⟨v2, rfl, hv2, hb2, hg2⟩
    obtain ⟨va, vc, rfl⟩ := hv2.form'
    have hs2 : Still (w.setCell ⟨d, 3, none⟩ (.pointer none)) w2 := Only.ofBelow hb2
    have k2 := H1.out.1.still hs2
    have k2c := k2.cells.alloc (.cells #[.int .i64 k, .slice va m vc] 94)
    have g3 : (w2.alloc (.cells #[.int .i64 k, .slice va m vc] 94)).cell? ⟨d, 3, none⟩ = some (.pointer none) := k2c.cell 3
    have g3f : (w2.alloc (.cells #[.int .i64 k, .slice va m vc] 94)).frozen? ⟨d, 3, none⟩ = false := k2c.free 3
    have F := Lib.hid (show ArPost A w d (D.arm k mask) (.returned (.tuple #[])) ((w2.alloc (.cells #[.int .i64 k, .slice va m vc] 94)).setCell ⟨d, 3, none⟩ (.pointer (some ⟨w2.heap.size, 0, none⟩))) from by
      obtain ⟨h1, z1, oA, hb, hml⟩ := H1.out
      have hsz := hs2.size
      have hst : Still w2 (w2.alloc (.cells #[.int .i64 k, .slice va m vc] 94)) := (Still.refl w2).alloc _
      have hzz : (w2.alloc (.cells #[.int .i64 k, .slice va m vc] 94)).heap.size = w2.heap.size + 1 := by simp
      have hzf : ((w2.alloc (.cells #[.int .i64 k, .slice va m vc] 94)).setCell ⟨d, 3, none⟩ (.pointer (some ⟨w2.heap.size, 0, none⟩))).heap.size = w2.heap.size + 1 := by rw [← hzz]; simp [World.setCell]
      have hAl : ∀ g, A g → g < w.heap.size := HAL.out
      have hgr : DgAt (Newer A w (w2.alloc (.cells #[.int .i64 k, .slice va m vc] 94))) (w2.alloc (.cells #[.int .i64 k, .slice va m vc] 94)) d { D with plan := none } tv mb vs V none :=
        (k2.still hst).grow (fun _ hg => .inl hg) fun g hg => hg.elim (fun e => by have := hAl g e; omega) fun e => e.2
      have hne : ∀ g, A g → g ≠ w2.heap.size := fun g hg e => by have := hAl g hg; omega
      have hcn := cellsAt_new w2 [.int .i64 k, .slice va m vc] 94
      have hsl : Sl (w2.alloc (.cells #[.int .i64 k, .slice va m vc] 94)) (fun g => Newer A w (w2.alloc (.cells #[.int .i64 k, .slice va m vc] 94)) g ∧ ¬ Mu d mb tv (some w2.heap.size) g) 1 (.slice va m vc) mask.length (bc mask) := by
        rw [hml]
        refine Sl.still (Vec.sl hv2 fun g hg => ?_) hst
        have e1 := hg2 g hg
        refine ⟨⟨.inr ⟨by omega, by omega⟩, fun e => ?_⟩, e1.2⟩
        rcases e with e | e | e | e
        · have := hAl g (by rw [e]; exact hAd)
          omega
        · have := hAl g (h1.mu g (.inr (.inl e)))
          omega
        · have := hAl g (h1.mu g (.inr (.inr (.inl e))))
          omega
        · have := Option.some.inj e
          omega
      have hfin := hgr.replan (b := w2.heap.size) (k := k) (mask := mask) (mv := .slice va m vc) (.inr ⟨by omega, by omega⟩)
        ⟨fun e => hne d hAd e.symm, fun e => hne mb (h1.mu mb (.inr (.inl rfl))) e.symm, fun e => hne _ (h1.mu _ (.inr (.inr (.inl e)))) rfl⟩ (fun v hv e => hne _ ((h1.ct v hv).2 _ e).1 rfl) (fun x v hv e => hne _ ((h1.cw x v hv).2 _ e).1 rfl) hcn hsl hb
      rw [HD.out]
      refine ⟨rfl, DgX.grow ⟨_, _, _, _, _, hfin⟩ (fun g hg => hg.imp id fun e => ⟨e.1, by omega⟩) fun g hg => hg.elim (fun e => by have := hAl g e; omega) fun e => e.2, ?_⟩
      exact ((oA.trans (hs2.mono fun _ e => e.elim)).alloc _).setCell (p := ⟨d, 3, none⟩) (.inl hAd) _)
    clear hv2 hb2 hg2 hs2 k2 k2c HCL H1
    go_wp2_with fail
    go_end0
    exact F.out
  · have q : decide (0 ≤ k) = false := decide_eq_false hk
    have F := Lib.hid (show ArPost A w d (D.arm k mask) (.returned (.tuple #[])) (w.setCell ⟨d, 3, none⟩ (.pointer none)) from by
      unfold PDk.arm
      rw [if_neg hk]
      have hAl : ∀ g, A g → g < w.heap.size := HAL.out
      exact ⟨rfl, DgX.grow ⟨_, _, _, _, _, h1⟩ (fun _ hg => .inl hg) fun g hg => hg.elim (fun e => by have := hAl g e; omega) fun e => e.2, oA⟩)
    clear h h1 o1 z1 oA hm hA hb hml hk
    go_enter Tryz.func23, Tryz.ntmps23
    go_wp2_with fail
    go_end0
    exact F.out
end
end Go.Proofs.YtojkggppcmdepaaGreat

namespace Go.Proofs.YtojkggppcmdepaaGreat
open Go.RowKit Go.Wh Go.Maps

def NewRelK (w : World) (d mb i : Nat) (wr : World) : Prop := NewRel w d mb i wr ∧ kmap wr Tryz.prog 3 (fun z : Int => .int .i64 z) mb (fun _ => none)
set_option maxHeartbeats 2000000 in
set_option maxRecDepth 100000 in
theorem new_k (w : World) (n : Nat) (hn : n ≤ 2000) :
    Calls Tryz.prog 13 #[.int .i64 n] w (fun e w' => ∃ d mb, e = .returned (.pointer (some ⟨d, 0, none⟩)) ∧ w.heap.size ≤ d ∧ w.heap.size ≤ mb ∧ NewRelK w d mb n w') := by
  have HW := Lib.hid (fun t => show NewRelK w (w.heap.size + 1) w.heap.size 0 ((w.alloc (.map #[] 0)).alloc (.cells #[.slice none 0 0, .map (some w.heap.size), .bool false, .pointer none] t)) from by
    have hz : (w.alloc (.map #[] 0)).heap.size = w.heap.size + 1 := by simp
    have hk0 : kmap ((w.alloc (.map #[] 0)).alloc (.cells #[.slice none 0 0, .map (some w.heap.size), .bool false, .pointer none] t)) Tryz.prog 3 (fun z : Int => .int .i64 z) w.heap.size (fun _ => none) := (kmap_made w _ _ _).block (heap_alloc_old (w.alloc (.map #[] 0)) _ _ (by rw [hz]; omega))
    refine ⟨⟨.slice none 0 0, [], ⟨?_, Vec.nil _ _, fun i l hi => by simp at hi, ⟨_, hk0⟩, by omega, (fun g e => by cases e), (fun v hv => by cases hv), (fun v hv => by cases hv)⟩, ((Still.refl w).alloc _).alloc _, (fun g e => by cases e), (fun v hv => by cases hv)⟩, hk0⟩
    have := cellsAt_new (w.alloc (.map #[] 0)) [.slice none 0 0, .map (some w.heap.size), .bool false, .pointer none] t
    rw [hz] at this
    exact this)
  have hmk : ∀ w : World, (Instr.makeMap 81 none).run Tryz.prog w = .ok (.map (some w.heap.size)) (w.alloc (.map #[] 0)) := fun w => by kernel_rfl
  have e1 : max (n : Int) 0 = n := by omega
  have e2 : min (n : Int) 2000 = n := by omega
  have HN := Lib.hid hn
  clear hn
  go_enter Tryz.func13, Tryz.ntmps13
  go_wp2_with fail
  have hW := HW.out 85
  clear HW
  generalize ((w.alloc (.map #[] 0)).alloc (.cells #[.slice none 0 0, .map (some w.heap.size), .bool false, .pointer none] 85)) = w0 at hW ⊢
  have HD := Lib.hid (show w.heap.size ≤ w.heap.size + 1 ∧ w.heap.size ≤ w.heap.size from ⟨by omega, by omega⟩)
  obtain ⟨d, hd⟩ : ∃ d, w.heap.size + 1 = d := ⟨_, rfl⟩
  obtain ⟨mb, hmb⟩ : ∃ mb, w.heap.size = mb := ⟨_, rfl⟩
  have HD := Lib.hid (show w.heap.size ≤ d ∧ w.heap.size ≤ mb from ⟨by omega, by omega⟩)
  rw [hd, hmb] at hW
  rw [hd]
  have HW := Lib.hid hW
  clear hW hd hmb hmk
  go_loopw [10] (fun s wr => ∃ i : Nat, s = .int .i64 i ∧ i ≤ n ∧ NewRelK w d mb i wr) (fun s _ => n - (intOf s).toNat)
  case atStart => exact ⟨0, rfl, Nat.zero_le _, HW.out⟩
  case round =>
    clear HW
    obtain ⟨i, rfl, hin, ⟨tv, vs, h, hs, ht, hv⟩, hkm⟩ := hrel
    have HKM := Lib.hid hkm
    by_cases hi : i < n
    · have b1 : decide ((i : Int) < (n : Int)) = true := by simp; omega
      have b2 : decide (i < n) = true := by simp; omega
      have u9 : IntKind.i64.wrap ((i : Int) + 1) = (i : Int) + 1 := IntWalk.i64_in _ (by have := HN.out; omega)
      obtain ⟨ta, tc, htv⟩ := h.form
      rw [List.length_replicate] at htv
      subst htv
      have H := Lib.hid h
      have HH := Lib.hid (And.intro hs (And.intro ht hv))
      have SS := Lib.hid (fun w' (hst : Only (fun _ => False) wr w') => show w'.cell? ⟨d, 0, none⟩ = some (.slice ta i tc) from Still.cell hst (H.out.cells.cell 0))
      have hmk := make64
      obtain ⟨i0, hi0, hz0, hz1, hz2⟩ := info_parts info_bb
      have HI := Lib.hid (And.intro hi0 (And.intro hz0 (And.intro hz1 hz2)))
      have HVT := Lib.hid (fun A B => show Vec ((wr.drew.alloc A).alloc B) 1 (.slice ta i tc) i vs from by
        have := h.t
        rw [List.length_replicate] at this
        exact (this.drew.alloc A).alloc B)
      have HRX := Lib.hid (fun A => show Reads ((wr.drew.alloc A).alloc (.cells #[.slice (some ⟨wr.heap.size, 0, none⟩) 64 64] 23)) 1 (.slice (some ⟨wr.heap.size + 1, 0, none⟩) 1 1) 1 [.slice (some ⟨wr.heap.size, 0, none⟩) 64 64] from by
        have := cellsAt_new (wr.drew.alloc A) [.slice (some ⟨wr.heap.size, 0, none⟩) 64 64] 23
        rw [show (wr.drew.alloc A).heap.size = wr.heap.size + 1 from by simp] at this
        exact this.reads rfl)
      have HFIN := Lib.hid (fun v' w' (hv' : Vec w' 1 v' (i + 1) (vs ++ [.slice (some ⟨wr.heap.size, 0, none⟩) 64 64])) (ho' : Only (fun k => (Value.slice ta i tc).ownBlock = some k) ((wr.drew.alloc (.cells (bc (List.replicate 64 0)).toArray 5)).alloc (.cells #[.slice (some ⟨wr.heap.size, 0, none⟩) 64 64] 23)) w')
          (hb' : v'.ownBlock = (Value.slice ta i tc).ownBlock ∨ ∃ g, v'.ownBlock = some g ∧ ((wr.drew.alloc (.cells (bc (List.replicate 64 0)).toArray 5)).alloc (.cells #[.slice (some ⟨wr.heap.size, 0, none⟩) 64 64] 23)).heap.size ≤ g ∧ g < w'.heap.size) =>
          show w'.cell? ⟨d, 0, none⟩ = some (.slice ta i tc) ∧ w'.frozen? ⟨d, 0, none⟩ = false ∧ NewRelK w d mb (i + 1) (w'.setCell ⟨d, 0, none⟩ v') from by
        have hz : ((wr.drew.alloc (.cells (bc (List.replicate 64 0)).toArray 5)).alloc (.cells #[.slice (some ⟨wr.heap.size, 0, none⟩) 64 64] 23)).heap.size = wr.heap.size + 2 := by simp
        have hs0 : Still wr ((wr.drew.alloc (.cells (bc (List.replicate 64 0)).toArray 5)).alloc (.cells #[.slice (some ⟨wr.heap.size, 0, none⟩) 64 64] 23)) := ((still_drew wr).alloc _).alloc _
        have hO : Only (fun b => (Value.slice ta i tc).ownBlock = some b) wr w' := (hs0.mono fun _ e => e.elim).trans ho'
        have hdc := h.cells.only hO fun e => (h.td d e).1 rfl
        have hsz := ho'.size
        have hlt := h.lt
        have hw := hs.size
        rw [hz] at hsz hb'
        have hown : (Value.slice (some ⟨wr.heap.size, 0, none⟩) 64 64).ownBlock = some wr.heap.size := rfl
        refine ⟨hdc.cell 0, hdc.free 0, ?_⟩
        have hrd : Reads w' 1 (.slice (some ⟨wr.heap.size, 0, none⟩) 64 64) 64 (bc (List.replicate 64 0)) := by
          have h1 := cellsAt_new wr.drew (bc (List.replicate 64 0)) 5
          have h2 := (h1.alloc (.cells #[.slice (some ⟨wr.heap.size, 0, none⟩) 64 64] 23)).only ho' fun e => by
            have e2 := (h.td _ e).2.2
            have e3 : wr.drew.heap.size = wr.heap.size := rfl
            omega
          exact h2.reads (by rw [bc_length, List.length_replicate])
        have hp := h.push (l := List.replicate 64 0) hO (by rw [List.length_replicate]; exact hv') hrd (fun g hg => by rw [hown] at hg; injection hg with hg; omega) (fun g hg => by
          rcases hb' with e | ⟨g', e, e1, e2⟩
          · rw [e] at hg
            exact ⟨.inl hg, by have := (h.td g hg).2.2; omega⟩
          · rw [e] at hg
            injection hg with hg
            exact ⟨.inr (by omega), by omega⟩) (fun g hg e => by
          rw [hown] at hg
          injection hg with hg
          rcases hb' with e' | ⟨g', e', e1, e2⟩
          · rw [e'] at e
            have := (h.td g e).2.2
            omega
          · rw [e'] at e
            injection e with e
            omega) rfl
        have hkf : kmap (w'.setCell ⟨d, 0, none⟩ v') Tryz.prog 3 (fun z : Int => .int .i64 z) mb (fun _ => none) := (hkm.block (hO.block mb hkm.lt fun e => (h.td mb e).2.1 rfl)).block ((setCell_only w' ⟨d, 0, none⟩ v').block mb (by have := hO.size; have := hkm.lt; omega) fun e => h.dm (show mb = d from e).symm)
        refine ⟨⟨v', _, by rw [List.replicate_succ']; exact hp, ?_, fun g hg => ?_, fun u hu g hg => ?_⟩, hkf⟩
        · have h1 : Only (fun b => w.heap.size ≤ b) w w' := (hs.mono fun _ e => e.elim).trans (hO.mono fun b e => ht b e)
          have h2 := h1.setCell (p := ⟨d, 0, none⟩) (.inl HD.out.1) v'
          exact ⟨h2.os, h2.tape, h2.output, h2.size, fun b hb _ => h2.block b hb fun e => by omega⟩
        · rcases hb' with e | ⟨g', e, e1, e2⟩
          · rw [e] at hg
            exact ht g hg
          · rw [e] at hg
            injection hg with hg
            omega
        · rcases List.mem_append.1 hu with hu | hu
          · exact hv u hu g hg
          · rw [List.mem_singleton.1 hu, hown] at hg
            injection hg with hg
            omega)
      clear h hs ht hv hkm hi0 hz0 hz1 hz2
      go_wp2_with fail
      refine wp_region_D_drew (D := (fun i => [0, 1, 2, 3, 8, 9, 10].contains i)) (S := (fun w' => w'.cell? ⟨d, 0, none⟩ = some (.slice ta i tc))) (by kernel_rfl) ?_ (fun hHeld => ?_)
      · exact SS.out _ (still_drew _)
      (refine takeD (i := 0) (some 12) (v := ?_) rfl (by rfl) (by rfl) (by kernel_rfl) (by rfl) (fun _ _ _ h => h) ?_ ?_; rotate_left; (intro w; go_simp; try with_reducible rfl); try go_frame)
      (refine takeD (i := 1) (some 13) (v := ?_) rfl (by rfl) (by rfl) (by kernel_rfl) (by rfl) (fun _ _ _ h => h) ?_ ?_; rotate_left; (intro w; go_simp; try with_reducible rfl); try go_frame)
      (refine takeD (i := 2) (some 14) (v := ?_) rfl (by rfl) (by rfl) (by kernel_rfl) (by rfl) (fun _ _ _ h => h) ?_ ?_; rotate_left; (intro w; go_simp; try with_reducible rfl); try go_frame)
      (refine takeD (i := 3) (some 15) (v := ?_) rfl (by rfl) (by rfl) (by kernel_rfl) (by rfl) (fun _ _ _ h => h) ?_ ?_; rotate_left; (intro w; go_simp; try with_reducible rfl); try go_frame)
      (refine takeS (i := 4) (some 16) (v := ?_) rfl (by rfl) (by rfl) (by kernel_rfl) (by rfl) (fun _ _ _ h => h) (by assumption) ?_ ?_; rotate_left; (intro w hSw; (try dsimp only at hSw); go_simp; try with_reducible rfl); try go_frame)
      refine wpAnyD_ready (rs := [5]) (by kernel_rfl) (by simp) ?_
      refine ReadyD.cons rfl (fun K hK => ?_) ?_
      go_simp
      (refine hK.out _ _ ?_ (fun hNew => ?_); (focus (exact SS.out _ (Only.alloc (still_drew _) _))); clear hHeld; have hHeld := hNew; clear hNew)
      (clear hK K; try go_frame)
      refine wpAnyD_ready (rs := [6]) (by kernel_rfl) (by simp) ?_
      refine ReadyD.cons rfl (fun K hK => ?_) ?_
      go_simp
      (refine hK.out _ _ ?_ (fun hNew => ?_); (focus (exact SS.out _ (Only.alloc (Only.alloc (still_drew _) _) _))); clear hHeld; have hHeld := hNew; clear hNew)
      (clear hK K; try go_frame)
      refine wpAnyD_ready (rs := [7]) (by kernel_rfl) (by simp) ?_
      refine ReadyD.cons rfl (fun K hK => ?_) ?_
      refine step_append_vec rfl _ _ 82 rfl 23 i0 _ 1 24 Tryz.underlying82 HI.out.1 HI.out.2.1 HI.out.2.2.1 HI.out.2.2.2 rfl (by decide) (.slice ta i tc) i vs (by simp [Act.eval]) (HVT.out _ _) (.slice (some ⟨wr.heap.size + 1, 0, none⟩) 1 1) 1 [.slice (some ⟨wr.heap.size, 0, none⟩) 64 64] (by simp [Act.eval]) (HRX.out _) (by intro u hu; simp at hu; rw [hu]; rfl) (by have := HN.out; simp only [maxLen]; omega) (by have := HN.out; omega) ?_
      intro v' w' hv' ho' hb'
      have hfin := HFIN.out v' w' hv' ho' hb'
      obtain ⟨k1, k2, k3⟩ := hfin
      obtain ⟨va, vc, rfl⟩ := hv'.form'
      have HK3 := Lib.hid k3
      (refine hK.out _ _ ?_ (fun hNew => ?_); (focus (exact k1)); clear hHeld; have hHeld := hNew; clear hNew)
      (clear hK K hv' ho' hb' k3; try go_frame)
      (refine takeD (i := 8) (some 20) (v := ?_) rfl (by rfl) (by rfl) (by kernel_rfl) (by rfl) (fun _ _ _ h => h) ?_ ?_; rotate_left; (intro w; go_simp; try with_reducible rfl); try go_frame)
      (refine takeD (i := 9) (some 21) (v := ?_) rfl (by rfl) (by rfl) (by kernel_rfl) (by rfl) (fun _ _ _ h => h) ?_ ?_; rotate_left; (intro w; go_simp; try with_reducible rfl); try go_frame)
      refine wpAnyD_ready (rs := [10]) (by kernel_rfl) (by simp) ?_
      refine ReadyD.last rfl (by rfl) (fun K hK => ?_) ?_
      go_simp
      refine hK.out _ _ ?_
      (clear hK K; try go_frame)
      refine wpAnyD_done (by kernel_rfl) ?_ _
      rotate_left
      exact ReadyD.nil
      exact ReadyD.nil
      exact ReadyD.nil
      exact ReadyD.nil
      go_wp2_with fail
      go_roundw
      case rel => exact ⟨i + 1, by go_num, by omega, HK3.out⟩
      case measure => simp [intOf]; omega
    · have hge : i = n := by omega
      subst hge
      have b1 : decide ((i : Int) < (i : Int)) = false := by simp
      have F := Lib.hid (show ∃ d' mb, (Ending.returned (.pointer (some ⟨d, 0, none⟩))) = .returned (.pointer (some ⟨d', 0, none⟩)) ∧ w.heap.size ≤ d' ∧ w.heap.size ≤ mb ∧ NewRelK w d' mb i wr from ⟨d, mb, rfl, HD.out.1, HD.out.2, ⟨tv, vs, h, hs, ht, hv⟩, hkm⟩)
      clear h hs ht hv hkm
      go_wp2_with fail
      go_ret
      exact F.out

/-- A disk of which no tile is loose, nothing is to be cut. -/
theorem dg_of_dk {A : Nat → Prop} {w : World} {d mb : Nat} {T : List (List Int)} {tv : Value} {vs : List Value} (h : DkAt w d T tv mb vs) (hk : kmap w Tryz.prog 3 (fun z : Int => .int .i64 z) mb (fun _ => none)) (h1 : A d) (h2 : A mb) (h3 : ∀ g, tv.ownBlock = some g → A g) (h4 : ∀ v ∈ vs, ∀ g, v.ownBlock = some g → A g) (hl : ∀ g, A g → g < w.heap.size) :
    DgAt A w d ⟨T, fun _ => none, false, none⟩ tv mb vs (fun _ => none) none where
  cells := h.cells
  t := h.t
  ins := h.ins
  m := hk
  wi x v hv := by cases hv
  wn i _ := rfl
  pl k mask hp := by cases hp
  pn _ := rfl
  dm := h.dm
  td g hg := ⟨(h.td g hg).1, (h.td g hg).2.1⟩
  pd g hg := by cases hg
  mu g hg := by
    rcases hg with e | e | e | e
    · exact e ▸ h1
    · exact e ▸ h2
    · exact h3 g e
    · cases e
  ct v hv := ⟨h.one v hv, fun g hg => ⟨h4 v hv g hg, fun e => by
    have hi := h.ia v hv g hg
    rcases e with e | e | e | e
    · exact hi.1 e
    · exact hi.2.1 e
    · exact hi.2.2.1 e
    · cases e⟩⟩
  cw x v hv := by cases hv
  lt := hl
def newD (n : Nat) : PDk := ⟨zeroT n, fun _ => none, false, none⟩
theorem new_g (w : World) (n : Nat) (hn : n ≤ 2000) {N : Int} (hN : (n : Int) = N) :
    Calls Tryz.prog 13 #[.int .i64 N] w (fun e w' => ∃ d, e = .returned (.pointer (some ⟨d, 0, none⟩)) ∧ DgX (fun g => w.heap.size ≤ g ∧ g < w'.heap.size) d (newD n) w' ∧ Still w w') := by
  subst hN
  refine (new_k w n hn).mono fun e w' h => ?_
  obtain ⟨d, mb, rfl, h1, h2, ⟨tv, vs, hd, hs, ht, hv⟩, hk⟩ := h
  have hlt := hd.lt
  exact ⟨d, rfl, ⟨tv, mb, vs, _, none, dg_of_dk hd hk ⟨h1, hlt.1⟩ ⟨h2, hlt.2⟩ (fun g hg => ⟨ht g hg, (hd.td g hg).2.2⟩) (fun v hv' g hg => ⟨hv v hv' g hg, (hd.ia v hv' g hg).2.2.2⟩) fun g hg => hg.2⟩, hs⟩
end Go.Proofs.YtojkggppcmdepaaGreat

namespace Go.Proofs.YtojkggppcmdepaaGreat
open Go.Wh

/-- All that a disk has are bytes. -/
def PDk.byt (D : PDk) : Prop := (∀ l ∈ D.T, Byt l) ∧ ∀ i l, D.was i = some l → Byt l
theorem crashN_byt {was : Nat → Option (List Int)} {mask : List Int} {L : List Nat} {T : List (List Int)} (h1 : ∀ l ∈ T, Byt l) (h2 : ∀ i l, was i = some l → Byt l) : ∀ (i : Nat), ∀ l ∈ crashN was mask L T i, Byt l
  | 0 => h1
  | i + 1 => fun l hl => by
    unfold crashN at hl
    split at hl
    · exact crashN_byt h1 h2 i l hl
    · rcases List.mem_or_eq_of_mem_set hl with hl | rfl
      · exact crashN_byt h1 h2 i l hl
      · cases hw : was (L.getD i 0) with
        | none => exact fun z hz => by cases hz
        | some o => exact h2 _ _ hw
theorem PDk.byt_crash {D : PDk} (h : D.byt) (mask : List Int) : (D.crash mask).byt := ⟨crashN_byt h.1 h.2 _, fun i l e => by cases e⟩
theorem PDk.byt_less {D : PDk} (h : D.byt) : D.less.byt := h
theorem PDk.byt_done {D : PDk} (h : D.byt) : D.done.2.byt := by
  unfold PDk.done
  cases hp : D.plan with
  | none => exact h
  | some p =>
    dsimp only
    split
    · exact PDk.byt_crash h _
    · exact h
theorem PDk.byt_laid {D : PDk} (h : D.byt) {i : Nat} {l : List Int} (hl : Byt l) : (D.laid i l).byt := by
  refine ⟨fun x hx => (List.mem_or_eq_of_mem_set hx).elim (h.1 x) fun e => e ▸ hl, fun j o hj => ?_⟩
  have hj' : (D.wet i).was j = some o := hj
  unfold PDk.wet at hj'
  dsimp only at hj'
  split at hj'
  · exact h.2 j o hj'
  · by_cases hji : j = i
    · subst hji
      rw [upd_same] at hj'
      exact h.1 o (List.mem_of_getElem? hj')
    · rw [upd_other _ _ hji] at hj'
      exact h.2 j o hj'
theorem PDk.byt_sync {D : PDk} (h : D.byt) : D.sync.2.byt := by
  unfold PDk.sync
  split
  · exact h
  · split
    · exact PDk.byt_crash (PDk.byt_less h) _
    · exact ⟨h.1, fun i l e => by cases e⟩
theorem clN_byt {D : PDk} {at_ : Nat} {S : List Int} (h : D.byt) (hS : Byt S) : ∀ (i : Nat), (clN D at_ S i).2.1.byt
  | 0 => h
  | i + 1 => by
    unfold clN
    split
    · exact clN_byt h hS i
    · split
      · exact clN_byt h hS i
      · exact PDk.byt_done (PDk.byt_laid (clN_byt h hS i) (tileB_byt hS))
theorem PDk.byt_clean {D : PDk} {at_ n : Nat} {S : List Int} (h : D.byt) (hS : Byt S) : (D.clean at_ S n).2.byt := by
  unfold PDk.clean
  split
  · exact clN_byt h hS n
  · split
    · exact PDk.byt_sync (clN_byt h hS n)
    · exact clN_byt h hS n
theorem clN_byte {D : PDk} {at_ : Nat} {S : List Int} (h : D.byt) (hS : Byt S) (i : Nat) (l : List Int) (hl : (clN D at_ S i).2.1.T[at_ + i]? = some l) : Byt l := (clN_byt h hS i).1 l (List.mem_of_getElem? hl)
/-- Where nothing was cut the tiles say what they should. -/
theorem clN_T {D : PDk} {at_ : Nat} {S : List Int} (hf : D.fine) (hq : D.dead = false) : ∀ (i : Nat), (clN D at_ S i).1 = 0 → (clN D at_ S i).2.1.T = layB D.T at_ S i
  | 0, _ => rfl
  | i + 1, h => by
    by_cases he : (clN D at_ S i).1 = 0
    · have ih := clN_T (S := S) (at_ := at_) hf hq i he
      have hok := clN_ok (S := S) (at_ := at_) hf hq i he
      have e : clN D at_ S (i + 1) = (if (clN D at_ S i).2.1.T[at_ + i]? = some (tileB S i) then clN D at_ S i else ((((clN D at_ S i).2.1.laid (at_ + i) (tileB S i)).done).1, (((clN D at_ S i).2.1.laid (at_ + i) (tileB S i)).done).2, true)) := by
        show (if (clN D at_ S i).1 ≠ 0 then _ else _) = _
        rw [if_neg (by rw [he]; decide)]
      rw [e] at h ⊢
      show _ = (layB D.T at_ S i).set (at_ + i) (tileB S i)
      split at h
      · rename_i hx
        rw [if_pos hx, ih]
        rw [ih] at hx
        obtain ⟨h1, h2⟩ := List.getElem?_eq_some_iff.1 hx
        rw [← h2, List.set_getElem_self]
      · rename_i hx
        rw [if_neg hx]
        have := (PDk.done_ok (D := (clN D at_ S i).2.1.laid (at_ + i) (tileB S i)) hok.1 hok.2 h).2.2.1
        show (((clN D at_ S i).2.1.laid (at_ + i) (tileB S i)).done).2.T = _
        rw [this]
        show (clN D at_ S i).2.1.T.set _ _ = _
        rw [ih]
    · exfalso
      have e : clN D at_ S (i + 1) = clN D at_ S i := by
        show (if (clN D at_ S i).1 ≠ 0 then _ else _) = _
        rw [if_pos he]
      rw [e] at h
      exact he h
theorem PDk.sync_ok {D : PDk} (hf : D.fine) (hq : D.dead = false) (h : D.sync.1 = 0) : D.sync.2.fine ∧ D.sync.2.dead = false ∧ D.sync.2.T = D.T ∧ D.sync.2.was = fun _ => none := by
  unfold PDk.sync at h ⊢
  rw [if_neg (by rw [hq]; decide)] at h ⊢
  split at h
  · cases h
  · rename_i hc
    rw [if_neg hc]
    refine ⟨fun k mask he => ?_, hq, rfl, rfl⟩
    have he' : D.plan.map (fun p => (p.1 - 1, p.2)) = some (k, mask) := he
    cases hp : D.plan with
    | none => rw [hp] at he'; cases he'
    | some p =>
      obtain ⟨k', m'⟩ := p
      rw [hp] at he'
      injection he' with he'
      injection he' with e1 e2
      have h1 := hf k' m' hp
      have h2 : ¬ (k' - 1 < 0) := fun e => hc (by unfold PDk.cuts; rw [hp]; exact decide_eq_true e)
      dsimp only at e1
      omega
/-- A cleaning that is not cut. -/
theorem PDk.clean_ok {D : PDk} {at_ n : Nat} {S : List Int} (hf : D.fine) (hq : D.dead = false) (hw : D.was = fun _ => none) (h : (D.clean at_ S n).1 = 0) : (D.clean at_ S n).2.fine ∧ (D.clean at_ S n).2.dead = false ∧ (D.clean at_ S n).2.T = layB D.T at_ S n ∧ (D.clean at_ S n).2.was = fun _ => none := by
  unfold PDk.clean at h ⊢
  split at h
  · rename_i he
    exact absurd h he
  · rename_i he
    have he : (clN D at_ S n).1 = 0 := by
      by_cases hx : (clN D at_ S n).1 = 0
      · exact hx
      · exact absurd hx he
    have hok := clN_ok (S := S) (at_ := at_) hf hq n he
    have hT := clN_T (S := S) (at_ := at_) hf hq n he
    rw [if_neg (by rw [he]; decide)]
    split at h
    · rename_i ha
      rw [if_pos ha]
      have := PDk.sync_ok hok.1 hok.2 h
      exact ⟨this.1, this.2.1, this.2.2.1.trans hT, this.2.2.2⟩
    · rename_i ha
      rw [if_neg ha]
      refine ⟨hok.1, hok.2, hT, ?_⟩
      have key : ∀ i, (clN D at_ S i).2.2 = false → (clN D at_ S i).2.1.was = D.was := fun i => by
        induction i with
        | zero => intro _; rfl
        | succ i ih =>
          intro hf
          unfold clN at hf ⊢
          split
          · rename_i h1
            rw [if_pos h1] at hf
            exact ih hf
          · rename_i h1
            rw [if_neg h1] at hf
            split
            · rename_i h2
              rw [if_pos h2] at hf
              exact ih hf
            · rename_i h2
              rw [if_neg h2] at hf
              cases hf
      rw [key n (by simpa using ha), hw]
/-- Nothing is to be cut: nothing is. -/
theorem PDk.done_plain {D : PDk} (hp : D.plan = none) : D.done = (0, D) := by
  unfold PDk.done
  rw [hp]
theorem clN_plain {D : PDk} {at_ : Nat} {S : List Int} (hp : D.plan = none) : ∀ (i : Nat), (clN D at_ S i).1 = 0 ∧ (clN D at_ S i).2.1.plan = none
  | 0 => ⟨rfl, hp⟩
  | i + 1 => by
    have ih := clN_plain (S := S) (at_ := at_) hp i
    unfold clN
    rw [if_neg (by rw [ih.1]; decide)]
    split
    · exact ih
    · have : ((clN D at_ S i).2.1.laid (at_ + i) (tileB S i)).plan = none := ih.2
      rw [PDk.done_plain this]
      exact ⟨rfl, ih.2⟩
theorem PDk.clean_plain {D : PDk} {at_ n : Nat} {S : List Int} (hq : D.dead = false) (hp : D.plan = none) : (D.clean at_ S n).1 = 0 ∧ (D.clean at_ S n).2.plan = none := by
  have h := clN_plain (S := S) (at_ := at_) hp n
  have hf : D.fine := fun k mask e => by rw [hp] at e; cases e
  have hok := clN_ok (S := S) (at_ := at_) hf hq n h.1
  unfold PDk.clean
  rw [if_neg (by rw [h.1]; decide)]
  split
  · unfold PDk.sync PDk.cuts
    rw [if_neg (by rw [hok.2]; decide), h.2]
    refine ⟨rfl, ?_⟩
    show (clN D at_ S n).2.1.plan.map _ = none
    rw [h.2]
    rfl
  · exact ⟨rfl, h.2⟩
theorem PDk.fine_none {D : PDk} (hp : D.plan = none) : D.fine := fun k mask e => by rw [hp] at e; cases e
/-- What was cut is dead, and armed no more. -/
def PDk.down (D : PDk) : Prop := D.dead = true ∧ D.plan = none ∧ D.was = fun _ => none
theorem PDk.crash_down (D : PDk) (mask : List Int) : (D.crash mask).down := ⟨rfl, rfl, rfl⟩
theorem PDk.done_cut {D : PDk} (h : D.done.1 ≠ 0) : D.done.2.down := by
  unfold PDk.done at h ⊢
  cases hp : D.plan with
  | none => rw [hp] at h; exact absurd rfl h
  | some p =>
    rw [hp] at h
    dsimp only at h ⊢
    split at h
    · rename_i hk
      rw [if_pos hk]
      exact PDk.crash_down _ _
    · exact absurd rfl h
theorem clN_cut {D : PDk} {at_ : Nat} {S : List Int} : ∀ (i : Nat), (clN D at_ S i).1 ≠ 0 → (clN D at_ S i).2.1.down
  | 0, h => absurd rfl h
  | i + 1, h => by
    unfold clN at h ⊢
    split at h
    · rename_i he
      rw [if_pos he]
      exact clN_cut i he
    · rename_i he
      rw [if_neg he]
      split at h
      · exact absurd h he
      · rename_i hx
        rw [if_neg hx]
        exact PDk.done_cut h
theorem PDk.clean_cut {D : PDk} {at_ n : Nat} {S : List Int} (hf : D.fine) (hq : D.dead = false) (h : (D.clean at_ S n).1 ≠ 0) : (D.clean at_ S n).2.down := by
  unfold PDk.clean at h ⊢
  split at h
  · rename_i he
    rw [if_pos he]
    exact clN_cut n he
  · rename_i he
    rw [if_neg he]
    have he0 : (clN D at_ S n).1 = 0 := by
      by_cases hx : (clN D at_ S n).1 = 0
      · exact hx
      · exact absurd hx he
    have hok := clN_ok (S := S) (at_ := at_) hf hq n he0
    split at h
    · rename_i ha
      rw [if_pos ha]
      unfold PDk.sync at h ⊢
      rw [if_neg (by rw [hok.2]; decide)] at h ⊢
      split at h
      · rename_i hc
        rw [if_pos hc]
        exact PDk.crash_down _ _
      · exact absurd rfl h
    · exact absurd rfl h
end Go.Proofs.YtojkggppcmdepaaGreat

namespace Go.Proofs.YtojkggppcmdepaaGreat
open Go.RowKit Go.Wh Go.Maps

/-- A disk that is alive, and not armed. -/
theorem dk_of_dg {A : Nat → Prop} {w : World} {d : Nat} {D : PDk} (h : DgX A d D w) (hq : D.dead = false) (hp : D.plan = none) : ∃ tv mb vs, DkAt w d D.T tv mb vs := by
  obtain ⟨tv, mb, vs, V, pp, h⟩ := h
  have hpp := h.pn hp
  subst hpp
  refine ⟨tv, mb, vs, ?_, h.t, h.ins, ⟨V, h.m⟩, h.dm, fun g hg => ⟨(h.td g hg).1, (h.td g hg).2, h.lt g (h.mu g (.inr (.inr (.inl hg))))⟩, fun v hv g hg => ?_, fun u hu => (h.ct u hu).1⟩
  · have := h.cells
    rw [hq] at this
    exact this
  · have := (h.ct v hv).2 g hg
    exact ⟨fun e => this.2 (.inl e), fun e => this.2 (.inr (.inl e)), fun e => this.2 (.inr (.inr (.inl e))), h.lt g this.1⟩
/-- The same, its blocks told. -/
theorem dkx_of_dg {A : Nat → Prop} {w : World} {d : Nat} {D : PDk} (h : DgX A d D w) (hq : D.dead = false) (hp : D.plan = none) (hb : D.byt) (hT : D.T.length ≤ 2000) : DkX A d D.T w := by
  obtain ⟨tv, mb, vs, V, pp, h⟩ := h
  have hpp := h.pn hp
  subst hpp
  refine ⟨⟨tv, mb, vs, ⟨?_, h.t, h.ins, ⟨V, h.m⟩, h.dm, fun g hg => ⟨(h.td g hg).1, (h.td g hg).2, h.lt g (h.mu g (.inr (.inr (.inl hg))))⟩, fun v hv g hg => ?_, fun u hu => (h.ct u hu).1⟩, h.mu d (.inl rfl), h.mu mb (.inr (.inl rfl)), fun g hg => h.mu g (.inr (.inr (.inl hg))), fun v hv g hg => ((h.ct v hv).2 g hg).1⟩, h.lt, hb.1, hT⟩
  · have := h.cells
    rw [hq] at this
    exact this
  · have := (h.ct v hv).2 g hg
    exact ⟨fun e => this.2 (.inl e), fun e => this.2 (.inr (.inl e)), fun e => this.2 (.inr (.inr (.inl e))), h.lt g this.1⟩
/-- What an opening leaves. -/
def OpPostG (A : Nat → Prop) (w : World) (d at_ n : Nat) (D : PDk) (en : Ending) (w' : World) : Prop :=
  ∃ (t : Nat) (lv : Value) (es : List PE) (A' B C : Nat → Prop), en = .returned (.tuple #[.pointer (some ⟨t, 0, none⟩), lv, .int .i64 0]) ∧ es = (scanB ((readB (tls D.T at_ n)).length + 1) (readB (tls D.T at_ n))).1 ∧
    DgX A' d (D.clean at_ (streamB es) n).2 w' ∧ TlX B t d at_ n es es.length w' ∧ Ents w' C lv es ∧ Only A w w' ∧
    (∀ g, A' g → A g ∨ w.heap.size ≤ g) ∧ (∀ g, B g → w.heap.size ≤ g) ∧ (∀ g, C g → w.heap.size ≤ g ∧ g < w'.heap.size) ∧ (∀ g, A' g → ¬ B g) ∧ (∀ g, A' g → ¬ C g) ∧ ∀ g, B g → ¬ C g
set_option maxHeartbeats 4000000 in
set_option maxRecDepth 100000 in
theorem open_g {A : Nat → Prop} {w : World} {d at_ n : Nat} {D : PDk} (hd : DgX A d D w) (hq : D.dead = false) (hp : D.plan = none) (hby : D.byt) (hTl : D.T.length ≤ 2000) (hn : at_ + n ≤ D.T.length) (hk : n ≤ 1000) :
    Calls Tryz.prog 15 #[.pointer (some ⟨d, 0, none⟩), .int .i64 at_, .int .i64 n] w (OpPostG A w d at_ n D) := by
  obtain ⟨tv, mb, vs, V, pp, hdk⟩ := id hd
  have htt := tiles_at hdk
  obtain ⟨T, hTT⟩ : ∃ T, D.T = T := ⟨_, rfl⟩
  have HTT := Lib.hid hTT
  rw [hTT] at htt hTl hn
  have HT := Lib.hid (htt)
  have hdd := dead_at hdk
  rw [hq] at hdd
  have HDD := Lib.hid hdd
  have HQ := Lib.hid (And.intro hq (And.intro hp (And.intro hby hTl)))
  have HD := Lib.hid (And.intro hd (And.intro hn hk))
  have a1 : decide ((at_ : Int) < 0) = false := by simp
  have a2 : decide ((n : Int) < 0) = false := by simp
  have a3 : decide ((T.length : Int) < (at_ : Int)) = false := decide_eq_false (by omega)
  have a3' : decide (T.length < at_) = false := decide_eq_false (by omega)
  have a4 : decide ((T.length : Int) - (at_ : Int) < (n : Int)) = false := decide_eq_false (by omega)
  have u1 : IntKind.i64.wrap ((T.length : Int) - (at_ : Int)) = (T.length : Int) - (at_ : Int) := IntWalk.i64_in _ (by omega)
  clear hd hdk hdd hq hp hby hTT htt
  go_enter Tryz.func15, Tryz.ntmps15
  go_wp2_with fail
  refine HT.out.mono ?_
  rintro en w1 ⟨rfl, rfl⟩
  go_wp2_with fail
  refine HT.out.mono ?_
  rintro en w2 ⟨rfl, rfl⟩
  go_wp2_with fail
  refine HDD.out.mono ?_
  rintro en w3 ⟨rfl, rfl⟩
  clear HT HDD a1 a2 a3 a3' a4 u1
  go_upto_region 6 with fail
  have hst : Still w3 (w3.alloc (.cells #[.pointer (some ⟨d, 0, none⟩), .int .i64 at_, .int .i64 n, .slice none 0 0, .int .i64 0, .int .i64 0] 87)) := (Still.refl w3).alloc _
  have htl := tlx_new w3 d at_ n 87 (by omega)
  have hz0 : (w3.alloc (.cells #[.pointer (some ⟨d, 0, none⟩), .int .i64 at_, .int .i64 n, .slice none 0 0, .int .i64 0, .int .i64 0] 87)).heap.size = w3.heap.size + 1 := by simp
  generalize w3.alloc (.cells #[.pointer (some ⟨d, 0, none⟩), .int .i64 at_, .int .i64 n, .slice none 0 0, .int .i64 0, .int .i64 0] 87) = W at *
  obtain ⟨t, ht⟩ : ∃ t, w3.heap.size = t := ⟨_, rfl⟩
  rw [ht] at htl
  rw [ht]
  have hdW := HD.out.1.still hst
  obtain ⟨sv, t1, -, -⟩ := htl.tl
  obtain ⟨tv', mb', vs', hdk'⟩ := dk_of_dg hdW HQ.out.1 HQ.out.2.1
  rw [HTT.out] at hdk'
  have HRD := Lib.hid (readT_any W t d at_ n (streamB []) sv 0 0 T tv' mb' vs' t1 hdk' HQ.out.2.2.2 HD.out.2.1 (by have := HQ.out.2.2.1.1; rw [HTT.out] at this; exact this))
  have H0 := Lib.hid (And.intro hst (And.intro htl (And.intro hdW (And.intro ht hz0))))
  clear hst htl hdW ht hz0 t1 hdk'
  obtain ⟨b, hb⟩ : ∃ b, readB (tls T at_ n) = b := ⟨_, rfl⟩
  have hbl : b.length ≤ 63000 := by
    have h1 := readB_len (tls T at_ n)
    have h2 : (tls T at_ n).length ≤ n := by unfold tls; rw [List.length_take]; omega
    rw [hb] at h1
    have := HD.out.2.2
    omega
  rw [hb] at HRD
  have HB := Lib.hid hb
  clear hb
  go_wp2_with fail
  refine HRD.out.mono ?_
  rintro en w4 ⟨bv, rfl, hbv, hs4, ho4, hby⟩
  have HSC := Lib.hid (scan_any w4 (fun _ => True) bv b.length b (Vec.sl0 hbv (by omega)) (Vec.capOf hbv) hby (by omega))
  obtain ⟨ba, bcp, rfl⟩ := hbv.form'
  have H4 := Lib.hid (And.intro hbv (And.intro hs4 (And.intro hby ho4)))
  have HBL := Lib.hid hbl
  obtain ⟨es, hes⟩ : ∃ es, (scanB (b.length + 1) b).1 = es := ⟨_, rfl⟩
  obtain ⟨m, hm⟩ : ∃ m, (scanB (b.length + 1) b).2 = m := ⟨_, rfl⟩
  have hsi := scanB_is (b.length + 1) b hby
  have hsl := scanB_len (b.length + 1) b
  unfold ScanPost at HSC
  rw [hes, hm] at HSC hsi hsl
  have HSI := Lib.hid (And.intro hsi (And.intro hsl hes))
  have hmb : m ≤ b.length := hsl.1
  clear hbv hs4 ho4 hby HRD hsi hsl hes hm
  go_wp2_with fail
  refine HSC.out.mono ?_
  rintro en w5 ⟨lv, rfl, hen, hs5⟩
  obtain ⟨la, lc, rfl⟩ := hen.form
  have hbv5 := H4.out.1.only hs5 fun _ _ e => e
  obtain ⟨pv, -, r1, -, hpv⟩ := Go.Wh.Vec.part (P := Tryz.prog) (size := 1) 23 Tryz.underlying23 (fun w => rfl) hbv5 (Nat.zero_le m) hmb
  have r1' := r1 rfl
  have hp5 := hpv w5 hbv5
  have hpc : ((bc b).drop (0 * 1)).take ((m - 0) * 1) = bc (streamB es) := by
    rw [Nat.zero_mul, List.drop_zero, Nat.mul_one, Nat.sub_zero, bc_take, HSI.out.1.1]
  rw [hpc, Nat.sub_zero] at hp5
  obtain ⟨pa, pc, rfl⟩ := hp5.form'
  have HCL := Lib.hid (clone_big (.slice pa m pc) m (bc (streamB es)) w5 hp5.reads (bc_one _) (by have := HBL.out; omega))
  have H5 := Lib.hid (And.intro hen hs5)
  have htl5 := (H0.out.2.1.still H4.out.2.1).still hs5
  have HT5 := Lib.hid htl5
  clear hen hs5 hbv5 r1 hpv hp5 hpc HSC htl5
  go_wp2_with fail
  refine HCL.out.mono ?_
  rintro en w6 ⟨sv, rfl, hsv, hb6, ho6⟩
  have hs6 : Still w5 w6 := Only.ofBelow hb6
  obtain ⟨sa, sc, rfl⟩ := hsv.form'
  have htl6 := HT5.out.still hs6
  obtain ⟨sv0, t6, -, -⟩ := htl6.tl
  have c3 : ∃ u, w6.cell? ⟨t, 3, none⟩ = some u := ⟨_, t6.cells.cell 3⟩
  obtain ⟨u3, c3⟩ := c3
  have c4 : w6.cell? ⟨t, 4, none⟩ = some (.int .i64 ((0 : Nat) : Int)) := t6.cells.cell 4
  have c5 : w6.cell? ⟨t, 5, none⟩ = some (.int .i64 ((0 : Nat) : Int)) := t6.cells.cell 5
  have f3 := t6.cells.free 3
  have f4 := t6.cells.free 4
  have f5 := t6.cells.free 5
  have H6 := Lib.hid (And.intro hsv (And.intro hs6 (And.intro ho6 t6)))
  clear hsv hb6 ho6 hs6 htl6 t6 HCL HT5
  go_upto_region 11 with fail
  have hmS : (streamB es).length = m := by
    have := congrArg List.length HSI.out.1.1
    rw [List.length_take] at this
    omega
  have htX : TlX (fun g => g = t ∨ (Value.slice sa m sc).ownBlock = some g) t d at_ n es es.length (((w6.setCell ⟨t, 3, none⟩ (.slice sa m sc)).setCell ⟨t, 4, none⟩ (.int .i64 (es.length : Int))).setCell ⟨t, 5, none⟩ (.int .i64 (es.length : Int))) := by
    have t6 := H6.out.2.2.2
    have hzz : (((w6.setCell ⟨t, 3, none⟩ (.slice sa m sc)).setCell ⟨t, 4, none⟩ (.int .i64 (es.length : Int))).setCell ⟨t, 5, none⟩ (.int .i64 (es.length : Int))).heap.size = w6.heap.size := by simp [World.setCell]
    have hss : Only (fun b => b = t) w6 (((w6.setCell ⟨t, 3, none⟩ (.slice sa m sc)).setCell ⟨t, 4, none⟩ (.int .i64 (es.length : Int))).setCell ⟨t, 5, none⟩ (.int .i64 (es.length : Int))) := ((setCell_only w6 ⟨t, 3, none⟩ _).trans (setCell_only _ ⟨t, 4, none⟩ _)).trans (setCell_only _ ⟨t, 5, none⟩ _)
    have hlt := t6.cells.lt
    have ht5 : t < w5.heap.size := by
      have h1 := H0.out.2.2.2.1
      have h2 := H0.out.2.2.2.2
      have h3 := H4.out.2.1.size
      have h4 := H5.out.2.size
      omega
    refine ⟨⟨.slice sa m sc, ⟨((t6.cells.setCell 3 _).setCell 4 _).setCell 5 _, ?_, streamB_byt HSI.out.1.2.2, fun g hg => ?_⟩, .inl rfl, fun g hg => .inr hg⟩, fun g hg => ?_, ?_, by have := HD.out.2.2; omega, HSI.out.1.2.1, HSI.out.1.2.2, Nat.le_refl _⟩
    · rw [hmS]
      exact H6.out.1.only hss fun g hg e => by have := (H6.out.2.2.1 g hg).1; have e' : g = t := e; omega
    · rw [hzz]
      have := H6.out.2.2.1 g hg
      exact ⟨by omega, this.2⟩
    · rw [hzz]
      rcases hg with rfl | hg
      · exact hlt
      · exact (H6.out.2.2.1 g hg).2
    · rw [hmS]
      have h1 := readB_len (tls T at_ n)
      have h2 : (tls T at_ n).length ≤ n := by unfold tls; rw [List.length_take]; omega
      rw [HB.out] at h1
      have := HSI.out.2.1.1
      omega
  have hss : Still w3 (((w6.setCell ⟨t, 3, none⟩ (.slice sa m sc)).setCell ⟨t, 4, none⟩ (.int .i64 (es.length : Int))).setCell ⟨t, 5, none⟩ (.int .i64 (es.length : Int))) := by
    have h1 := ((H0.out.1.trans H4.out.2.1).trans H5.out.2).trans H6.out.2.1
    have ht := H0.out.2.2.2.1
    exact ((h1.setCell (.inr (by show w3.heap.size ≤ t; omega)) _).setCell (.inr (by show w3.heap.size ≤ t; omega)) _).setCell (.inr (by show w3.heap.size ≤ t; omega)) _
  have hz6 : (((w6.setCell ⟨t, 3, none⟩ (.slice sa m sc)).setCell ⟨t, 4, none⟩ (.int .i64 (es.length : Int))).setCell ⟨t, 5, none⟩ (.int .i64 (es.length : Int))).heap.size = w6.heap.size := by simp [World.setCell]
  have hne : Ents (((w6.setCell ⟨t, 3, none⟩ (.slice sa m sc)).setCell ⟨t, 4, none⟩ (.int .i64 (es.length : Int))).setCell ⟨t, 5, none⟩ (.int .i64 (es.length : Int))) (fun g => w4.heap.size ≤ g ∧ g < w5.heap.size) (.slice la es.length lc) es := by
    have ht4 : t < w4.heap.size := by
      have h1 := H0.out.2.2.2.1
      have h2 := H0.out.2.2.2.2
      have h3 := H4.out.2.1.size
      omega
    have hss2 : Only (fun b => b = t) w6 (((w6.setCell ⟨t, 3, none⟩ (.slice sa m sc)).setCell ⟨t, 4, none⟩ (.int .i64 (es.length : Int))).setCell ⟨t, 5, none⟩ (.int .i64 (es.length : Int))) := ((setCell_only w6 ⟨t, 3, none⟩ _).trans (setCell_only _ ⟨t, 4, none⟩ _)).trans (setCell_only _ ⟨t, 5, none⟩ _)
    exact (H5.out.1.low.still H6.out.2.1).only hss2 fun g hg e => by omega
  generalize (((w6.setCell ⟨t, 3, none⟩ (.slice sa m sc)).setCell ⟨t, 4, none⟩ (.int .i64 (es.length : Int))).setCell ⟨t, 5, none⟩ (.int .i64 (es.length : Int))) = wT at *
  have hdT := HD.out.1.still hss
  have hA3 : ∀ g, A g → g < w3.heap.size := HD.out.1.lt
  have hord : w3.heap.size = t ∧ t < w4.heap.size ∧ w4.heap.size ≤ w5.heap.size ∧ w5.heap.size ≤ w6.heap.size := by
    have h1 := H0.out.2.2.2.1
    have h2 := H0.out.2.2.2.2
    have h3 := H4.out.2.1.size
    have h4 := H5.out.2.size
    have h5 := H6.out.2.1.size
    exact ⟨h1, by omega, h4, h5⟩
  obtain ⟨sv7, e1, e2, e3⟩ := htX.tl
  have hsepA : ∀ g, (g = t ∨ (Value.slice sa m sc).ownBlock = some g) → ¬ A g := fun g e hg => by
    have := hA3 g hg
    rcases e with e | e
    · omega
    · have := (H6.out.2.2.1 g e).1
      omega
  have hc0 : (D.clean at_ (streamB es) n).1 = 0 := (PDk.clean_plain HQ.out.1 HQ.out.2.1).1
  have HCN := Lib.hid ((clean_g wT t d at_ n (streamB es) sv7 _ _ D e1 hdT ⟨hsepA t e2, fun g hg => hsepA g (e3 g hg)⟩ (PDk.fine_none HQ.out.2.1) HQ.out.1 (by rw [HTT.out]; exact HQ.out.2.2.2) (by rw [HTT.out]; exact HD.out.2.1) (clN_byte HQ.out.2.2.1 (streamB_byt HSI.out.1.2.2)) (by have := htX.len; have := HD.out.2.2; omega)).mono (fun e w' h => show e = .returned (.int .i64 0) ∧ DgX (Newer A wT w') d (D.clean at_ (streamB es) n).2 w' ∧ Only A wT w' from ⟨by rw [h.1, hc0], h.2⟩))
  have HF := Lib.hid (And.intro htX (And.intro hss (And.intro hz6 (And.intro hne (And.intro hA3 hord)))))
  clear htX hss hz6 hne hA3 hord hdT c3 c4 c5 f3 f4 f5 hmS e1 e2 e3 hsepA hc0
  go_wp2_with fail
  refine HCN.out.mono ?_
  rintro en w7 ⟨rfl, kd, ko⟩
  have F := Lib.hid (show OpPostG A w3 d at_ n D (.returned (.tuple #[.pointer (some ⟨t, 0, none⟩), .slice la es.length lc, .int .i64 0])) w7 from by
    obtain ⟨htX, hss, hz6, hne, hA3, o1, o2, o3, o4⟩ := HF.out
    have hz7 := ko.size
    refine ⟨t, _, es, Newer A wT w7, fun g => g = t ∨ (Value.slice sa m sc).ownBlock = some g, fun g => w4.heap.size ≤ g ∧ g < w5.heap.size, rfl, ?_, kd, ?_, ?_, ?_, ?_, ?_, ?_, ?_, ?_, ?_⟩
    · rw [HTT.out, HB.out, HSI.out.2.2]
    · refine htX.only ko fun g hg e => ?_
      have := hA3 g e
      rcases hg with hg | hg
      · omega
      · have := (H6.out.2.2.1 g hg).1
        omega
    · exact hne.only ko fun g hg e => by have := hA3 g e; omega
    · exact (hss.mono fun _ e => e.elim).trans ko
    · intro g hg
      rcases hg with hg | hg
      · exact .inl hg
      · exact .inr (by omega)
    · intro g hg
      rcases hg with hg | hg
      · omega
      · have := (H6.out.2.2.1 g hg).1
        omega
    · intro g hg
      exact ⟨by omega, by omega⟩
    · intro g hg e
      rcases hg with hg | hg
      · have := hA3 g hg
        rcases e with e | e
        · omega
        · have := (H6.out.2.2.1 g e).1
          omega
      · rcases e with e | e
        · omega
        · have := (H6.out.2.2.1 g e).2
          omega
    · intro g hg e
      rcases hg with hg | hg
      · have := hA3 g hg
        omega
      · omega
    · intro g hg e
      rcases hg with hg | hg
      · omega
      · have := (H6.out.2.2.1 g hg).1
        omega)
  clear kd ko HCN
  go_wp2_with fail
  go_ret3
  exact F.out

/-- What a Force answers and leaves. -/
def FoPostG (A B : Nat → Prop) (w : World) (t d at_ n st : Nat) (es : List PE) (r : Int × PDk) (en : Ending) (w' : World) : Prop :=
  en = .returned (.int .i64 r.1) ∧ TlX B t d at_ n es (if r.1 = 0 then es.length else st) w' ∧ DgX (Newer A w w') d r.2 w' ∧ Only (fun b => A b ∨ B b) w w'
set_option maxHeartbeats 2000000 in
set_option maxRecDepth 100000 in
theorem force_g {A B : Nat → Prop} {w : World} {t d at_ n st : Nat} {es : List PE} {D : PDk} (h : TlX B t d at_ n es st w) (hd : DgX A d D w) (hab : ∀ g, A g → ¬ B g) (hq : D.dead = false) (hf : D.fine) (hb : D.byt) (hT : D.T.length ≤ 2000) (hn : at_ + n ≤ D.T.length) (hs : ¬ st = es.length) :
    Calls Tryz.prog 19 #[.pointer (some ⟨t, 0, none⟩)] w (FoPostG A B w t d at_ n st es (D.clean at_ (streamB es) n)) := by
  obtain ⟨sv, h1, h2, h3⟩ := h.tl
  have c4 : w.cell? ⟨t, 4, none⟩ = some (.int .i64 es.length) := h1.cells.cell 4
  have c5 : w.cell? ⟨t, 5, none⟩ = some (.int .i64 st) := h1.cells.cell 5
  have H := Lib.hid (And.intro h (And.intro hd (And.intro hab h2)))
  have hqq : ((st : Int) == (es.length : Int)) = false := by simp; omega
  have hS : (streamB es).length ≤ 1000000 := by have := h.len; have := h.n_le; omega
  have HC := Lib.hid (fun w' (k : Still w w') => clean_g w' t d at_ n (streamB es) sv _ _ D (h1.still k) (hd.still k) ⟨fun e => hab t e h2, fun g hg e => hab g e (h3 g hg)⟩ hf hq hT hn (clN_byte hb (streamB_byt h.byt)) hS)
  obtain ⟨R, hR⟩ : ∃ R, R = D.clean at_ (streamB es) n := ⟨_, rfl⟩
  rw [← hR] at HC ⊢
  obtain ⟨r1, r2⟩ := R
  clear h hd hab hn h1 h2 h3 hs hq hf hb hT hS hR
  go_enter Tryz.func19, Tryz.ntmps19
  go_wp2_with fail
  go_quiet (fail)
  have hs2 : Still w (w.drewN nq) := (Still.refl w).drewN _
  have hzd : (w.drewN nq).heap.size = w.heap.size := rfl
  go_wp2_with fail
  refine (HC.out _ hs2).mono ?_
  rintro en w3 ⟨rfl, k1, k2⟩
  have ht3 := (H.out.1.still hs2).only k2 fun g hg e => H.out.2.2.1 g e hg
  have hN3 : Newer A (w.drewN nq) w3 = Newer A w w3 := by
    unfold Newer
    rw [hzd]
  rw [hN3] at k1
  by_cases hr : r1 = 0
  · subst hr
    obtain ⟨sv3, e1, e2, e3⟩ := ht3.tl
    have g4 : w3.cell? ⟨t, 4, none⟩ = some (.int .i64 es.length) := e1.cells.cell 4
    have g5 : w3.cell? ⟨t, 5, none⟩ = some (.int .i64 st) := e1.cells.cell 5
    have f5 := e1.cells.free 5
    have F := Lib.hid (show FoPostG A B w t d at_ n st es (0, r2) (.returned (.int .i64 0)) (w3.setCell ⟨t, 5, none⟩ (.int .i64 es.length)) from by
      have hs5 := setCell_only w3 ⟨t, 5, none⟩ (.int .i64 es.length)
      have hzz : (w3.setCell ⟨t, 5, none⟩ (.int .i64 es.length)).heap.size = w3.heap.size := by simp [World.setCell]
      have hAl := H.out.2.1.lt
      have htA : ¬ A t := fun e => H.out.2.2.1 t e H.out.2.2.2
      have htl : t < w.heap.size := H.out.1.lt t H.out.2.2.2
      refine ⟨rfl, ⟨⟨sv3, ⟨e1.cells.setCell 5 _, e1.s.only hs5 fun g hg e => (e1.st_ g hg).1 e, e1.byt, fun g hg => ⟨(e1.st_ g hg).1, by rw [hzz]; exact (e1.st_ g hg).2⟩⟩, e2, e3⟩, fun g hg => by rw [hzz]; exact ht3.lt g hg, ht3.len, ht3.n_le, ht3.may, ht3.byt, Nat.le_refl _⟩, ?_, ((hs2.mono fun _ e => e.elim).trans (k2.mono fun _ e => .inl e)).setCell (.inl (.inr H.out.2.2.2)) _⟩
      have := k1.only hs5 fun g hg e => by
        have e' : g = t := e
        rcases hg with hg | hg
        · exact htA (e' ▸ hg)
        · omega
      have heq : Newer A w (w3.setCell ⟨t, 5, none⟩ (.int .i64 es.length)) = Newer A w w3 := by
        unfold Newer
        rw [hzz]
      rw [heq]
      exact this)
    clear k1 k2 ht3 e1 e2 e3 hs2 HC hN3 hzd
    go_wp2_with fail
    go_ret
    exact F.out
  · have qe : (r1 == 0) = false := by rw [beq_eq_false_iff_ne]; exact hr
    have F := Lib.hid (show FoPostG A B w t d at_ n st es (r1, r2) (.returned (.int .i64 r1)) w3 from ⟨rfl, by rw [if_neg hr]; exact ht3, k1, (hs2.mono fun _ e => e.elim).trans (k2.mono fun _ e => .inl e)⟩)
    clear k1 k2 ht3 hs2 HC hN3 hzd
    go_wp2_with fail
    go_ret
    exact F.out
end Go.Proofs.YtojkggppcmdepaaGreat

namespace Go.Proofs.YtojkggppcmdepaaGreat
open Go.Wh

/-- Tiles that say an old stream or the new one that goes on from it: what is read is a beginning of the new one, no shorter than the old one. -/
theorem mix_read (S : List Int) (p : Nat) (hp : p ≤ S.length) : ∀ (L : List (List Int)) (i : Nat), S.length ≤ (i + L.length) * 63 → (∀ j l, L[j]? = some l → l = tileB (S.take p) (i + j) ∨ l = tileB S (i + j)) → ∃ k, readB L = (S.drop (i * 63)).take k ∧ p ≤ i * 63 + k
  | [], i, h, _ => ⟨0, by rw [List.take_zero]; rfl, by simp at h; omega⟩
  | s :: L, i, h, hm => by
    have hlen : (S.take p).length = p := by rw [List.length_take]; omega
    have key : ∀ part : List Int, part.length ≤ 63 → s = ((part.length : Nat) : Int) :: (part ++ List.replicate (63 - part.length) 0) → readB (s :: L) = part ++ (if part.length < 63 then [] else readB L) := fun part hpl hs => by
      subst hs
      rw [readB_cons, List.headD_cons, if_neg (by omega), Int.toNat_natCast, List.drop_succ_cons, List.drop_zero, List.take_left' rfl]
      congr 1
      by_cases h63 : part.length < 63
      · rw [if_pos (by omega), if_pos h63]
      · rw [if_neg (by omega), if_neg h63]
    have full : ∀ part : List Int, part = (S.drop (i * 63)).take 63 → part.length = 63 → s = ((part.length : Nat) : Int) :: (part ++ List.replicate (63 - part.length) 0) → ∃ k, readB (s :: L) = (S.drop (i * 63)).take k ∧ p ≤ i * 63 + k := fun part hpp hpl hs => by
      obtain ⟨k, h1, h2⟩ := mix_read S p hp L (i + 1) (by simp only [List.length_cons] at h; omega) fun j l hj => by
        have := hm (j + 1) l (by rw [List.getElem?_cons_succ]; exact hj)
        rw [show i + (j + 1) = i + 1 + j by omega] at this
        exact this
      refine ⟨63 + k, ?_, by omega⟩
      rw [key part (by omega) hs, if_neg (by omega), h1, hpp, show (i + 1) * 63 = i * 63 + 63 by omega, ← List.drop_drop, List.take_add]
    rcases hm 0 s (by rw [List.getElem?_cons_zero]) with hs | hs
    · rw [Nat.add_zero] at hs
      have hpl := partB_length (S.take p) i
      rw [hlen] at hpl
      have hpe : partB (S.take p) i = ((S.drop (i * 63)).take (p - i * 63)).take 63 := by
        unfold partB
        rw [List.drop_take]
      by_cases h63 : (partB (S.take p) i).length < 63
      · refine ⟨p - i * 63, ?_, by omega⟩
        rw [key (partB (S.take p) i) (by omega) hs, if_pos h63, List.append_nil, hpe, List.take_of_length_le]
        rw [List.length_take]
        omega
      · refine full (partB (S.take p) i) ?_ (by omega) hs
        rw [hpe, List.take_take]
        congr 1
        omega
    · rw [Nat.add_zero] at hs
      have hpl := partB_length S i
      by_cases h63 : (partB S i).length < 63
      · refine ⟨S.length, ?_, by omega⟩
        rw [key (partB S i) (by omega) hs, if_pos h63, List.append_nil]
        unfold partB
        rw [List.take_of_length_le (by rw [List.length_drop]; omega), List.take_of_length_le (by rw [List.length_drop]; omega)]
      · exact full (partB S i) rfl (by omega) hs
/-- Each tile, and what each loose one was, says the old stream or the new one. -/
def Mix (n : Nat) (S0 S : List Int) (D : PDk) : Prop := D.T.length = n ∧ (∀ j l, D.T[j]? = some l → l = tileB S0 j ∨ l = tileB S j) ∧ ∀ j l, D.was j = some l → l = tileB S0 j ∨ l = tileB S j
theorem Mix.laid {n : Nat} {S0 S : List Int} {D : PDk} (h : Mix n S0 S D) (i : Nat) : Mix n S0 S (D.laid i (tileB S i)) := by
  refine ⟨by show (D.T.set _ _).length = n; rw [List.length_set]; exact h.1, fun j l hj => ?_, fun j l hj => ?_⟩
  · have hj' : (D.T.set i (tileB S i))[j]? = some l := hj
    rw [List.getElem?_set] at hj'
    split at hj'
    · rename_i e
      split at hj'
      · injection hj' with hj'
        exact .inr (by rw [← hj', e])
      · cases hj'
    · exact h.2.1 j l hj'
  · have hj' : (D.wet i).was j = some l := hj
    unfold PDk.wet at hj'
    dsimp only at hj'
    split at hj'
    · exact h.2.2 j l hj'
    · by_cases hji : j = i
      · subst hji
        rw [upd_same] at hj'
        exact h.2.1 j l hj'
      · rw [upd_other _ _ hji] at hj'
        exact h.2.2 j l hj'
theorem Mix.crash {n : Nat} {S0 S : List Int} {D : PDk} (h : Mix n S0 S D) (mask : List Int) : Mix n S0 S (D.crash mask) := by
  have key : ∀ i, i ≤ D.loose.length → ∀ j l, (crashN D.was mask D.loose D.T i)[j]? = some l → l = tileB S0 j ∨ l = tileB S j := fun i => by
    induction i with
    | zero => intro _ j l hj; exact h.2.1 j l hj
    | succ i ih =>
      intro hi j l hj
      unfold crashN at hj
      split at hj
      · exact ih (by omega) j l hj
      · rw [List.getElem?_set] at hj
        split at hj
        · rename_i e
          split at hj
          · injection hj with hj
            have hm : D.loose.getD i 0 ∈ D.loose := by
              rw [List.getD_eq_getElem?_getD, List.getElem?_eq_getElem (by omega)]
              exact List.getElem_mem _
            obtain ⟨o, ho⟩ := Option.isSome_iff_exists.1 (looseL_mem.1 hm).2
            rw [ho] at hj
            have := h.2.2 _ _ ho
            rw [e] at this
            rw [← hj]
            exact this
          · cases hj
        · exact ih (by omega) j l hj
  exact ⟨by show (crashN _ _ _ _ _).length = n; rw [crashN_length]; exact h.1, key _ (Nat.le_refl _), fun j l e => by cases e⟩
theorem Mix.done {n : Nat} {S0 S : List Int} {D : PDk} (h : Mix n S0 S D) : Mix n S0 S D.done.2 := by
  unfold PDk.done
  cases hp : D.plan with
  | none => exact h
  | some p =>
    dsimp only
    split
    · exact h.crash _
    · exact h
theorem Mix.clN {n : Nat} {S0 S : List Int} {D : PDk} (h : Mix n S0 S D) : ∀ (i : Nat), Mix n S0 S (clN D 0 S i).2.1
  | 0 => h
  | i + 1 => by
    have ih := Mix.clN h i
    unfold Go.Proofs.YtojkggppcmdepaaGreat.clN
    split
    · exact ih
    · split
      · exact ih
      · have := (ih.laid (0 + i)).done
        rw [Nat.zero_add] at this ⊢
        exact this
theorem Mix.sync {n : Nat} {S0 S : List Int} {D : PDk} (h : Mix n S0 S D) : Mix n S0 S D.sync.2 := by
  unfold PDk.sync
  split
  · exact h
  · split
    · exact Mix.crash (D := D.less) h _
    · exact ⟨h.1, h.2.1, fun j l e => by cases e⟩
theorem Mix.clean {n m : Nat} {S0 S : List Int} {D : PDk} (h : Mix n S0 S D) : Mix n S0 S (D.clean 0 S m).2 := by
  unfold PDk.clean
  split
  · exact h.clN m
  · split
    · exact (h.clN m).sync
    · exact h.clN m
/-- What Open finds on tiles that are mixed so: the first entries, at least those that were stable. -/
theorem mix_scan {n st : Nat} {l : List PE} {T : List (List Int)} (hl : T.length = n) (hm : ∀ e ∈ l, e.may = true) (hst : st ≤ l.length) (hn : (streamB l).length ≤ n * 63) (hT : ∀ j x, T[j]? = some x → x = tileB (streamB (l.take st)) j ∨ x = tileB (streamB l) j) :
    ∃ m, st ≤ m ∧ m ≤ l.length ∧ (scanB ((readB (tls T 0 n)).length + 1) (readB (tls T 0 n))).1 = l.take m := by
  have ht : tls T 0 n = T := by
    unfold tls
    rw [List.drop_zero, List.take_of_length_le (by omega)]
  have hpre : streamB (l.take st) = (streamB l).take (streamB (l.take st)).length := by
    have : streamB l = streamB (l.take st) ++ streamB (l.drop st) := by rw [← streamB_append, List.take_append_drop]
    rw [this, List.take_left' rfl]
  obtain ⟨p, hp⟩ : ∃ p, (streamB (l.take st)).length = p := ⟨_, rfl⟩
  have hpl : p ≤ (streamB l).length := by
    have := congrArg List.length hpre
    rw [List.length_take, hp] at this
    omega
  rw [hp] at hpre
  obtain ⟨k, hk1, hk2⟩ := mix_read (streamB l) p hpl T 0 (by omega) fun j x hj => by
    rw [Nat.zero_add, ← hpre]
    exact hT j x hj
  rw [Nat.zero_mul, List.drop_zero] at hk1
  obtain ⟨m, r, h1, h2, h3, h4⟩ := stream_cut l k hm
  refine ⟨m, h4 st hst (by omega), h1, ?_⟩
  rw [ht, hk1, h2, scanB_stream h3 (l.take m) _ (fun e he => hm e (List.mem_of_mem_take he)) (by
    have := streamB_len (l.take m)
    rw [List.length_append]
    omega)]
/-- Tiles that are laid say the stream. -/
theorem laid_all {n : Nat} {S : List Int} {T : List (List Int)} (hl : T.length = n) : ∀ j x, (layB T 0 S n)[j]? = some x → x = tileB S j := fun j x hj => by
  have hjn : j < n := by
    have := (List.getElem?_eq_some_iff.1 hj).1
    rw [layB_length, hl] at this
    exact this
  have := layB_get (T := T) (a := 0) (S := S) (i := n) (j := j) (by omega) hjn
  rw [Nat.zero_add] at this
  rw [this] at hj
  exact (Option.some.inj hj).symm
end Go.Proofs.YtojkggppcmdepaaGreat

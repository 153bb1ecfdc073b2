/- From a law's walk to its row: the call returns true and below nothing has turned, so the row holds. Conditions: none but those of the row. The library's contracts at this program, as the kit's tools have laid them: maps.Keys, slices.Sorted, slices.Sort of numbers. No conditions. The keys of a map with numbers, sorted: plain. No program's function. Conditions: the numbers are below a bound. The loose tiles of a disk: the keys of its map, sorted. Conditions: the map lies in memory, its keys are below a bound. A disk that may be dead, or armed: a mask's bits; what a crash leaves: plain; its small calls. Conditions: they lie in memory. A disk that may be dead, or armed, in memory; what a crash leaves. Conditions: it lies in memory. A crash of a disk. Conditions: it lies in memory. A disk that may be dead, or armed: may, cut, write. Conditions: it lies in memory; at most two thousand tiles. -/
import Derived.Test.YtlcfoeikamkpmaaGreatPq17
import Derived.WalkKit
import Derived.ProofKit
import Derived.OpenShut
import Derived.ShutString
import Derived.ChangeOld
import Derived.Below
import Derived.Shelf.SlIterI.Nil
import Derived.Shelf.SortM.Plain
import Derived.Shelf.SortM.SortNone
import Derived.Ground.GgzProg
import Derived.Ground.SlgmProg
import Derived.Test.YtlcfoeikamkpmaaGreatProg
import Derived.Lib.SlKeysI
namespace Go.Wh
open Go.ChangeShapes Go.WideShapes Go.ChangeAt Go.RowKit

section
variable {H : Type} {enc : TypeId × Value → H} {P : Program}

theorem trodAll_stays (hl : laidOutB P = true) {W W' : World} (hb : Below W.heap.size W W') : ∀ (ts : List TypeId) (vs : List Value) (ds : List (DataW H)) (ps : List MemPlace), (∀ t ∈ ts, P.readableRec t = true ∧ t < P.types.size) →
 DataW.TrodAll enc P W 0 (fun _ => true) true ts vs ds ps → DataW.TrodAll enc P W' 0 (fun b => decide (b < W.heap.size)) true ts vs ds ps
 | [], [], [], _, _, h => h
 | t :: ts, v :: vs, d :: ds, _, hr, h => by
  obtain ⟨p, q, h1, h2, e⟩ := h
  refine ⟨p, q, ?_, trodAll_stays hl hb ts vs ds q (fun t ht => hr t (by simp [ht])) h2, e⟩
  obtain ⟨m, hm⟩ := id h1
  exact Below.trod hl (hr t (by simp)).1 (hr t (by simp)).2 h1 hb (fun x hx => DataW.trod_lt m _ _ _ hm x hx)
 | [], _ :: _, _, _, _, h => h.elim
 | [], [], _ :: _, _, _, h => h.elim
 | _ :: _, [], _, _, _, h => h.elim
 | _ :: _, _ :: _, [], _, _, h => h.elim

theorem law_post {f : Func} {s : ChangeSpec} {apart fresh handsOn : Bool} {W W' : World} {args : Array Value} {ds gs : List (DataW H)} {before : List MemPlace} {t : TypeId} (hl : laidOutB P = true) (hres : f.resultTypes = #[t]) (hbool : P.underlying t = some .bool) (hv : s.vars = [])
 (hp : ∀ t ∈ f.params.toList, P.readableRec t = true ∧ t < P.types.size) (hW : DataW.Whole enc P f.params.toList s.vars apart W args.toList ds gs before)
 (hsp : s.fn H ds = { results := [.lit (.bool true)], args := ds }) (hb : Below W.heap.size W W') : s.post enc P f apart fresh handsOn false W args (.bool true) W' := by
 have hW' := hW
 obtain ⟨p, q, hA, hV, rfl, hz, hn⟩ := hW
 rw [hv] at hV
 obtain ⟨rfl, rfl⟩ := trodVars_none hV
 refine ⟨ds, [], _, [], p, [], hW', ?_, ?_, ?_, hb.frame _, fun h => by cases h⟩
 · rw [List.append_nil, hsp, hres]
   exact trodAll_mk1 (RowKit.shut_bool hbool true)
 · rw [List.append_nil, hsp]
   exact trodAll_stays hl hb _ _ _ _ hp hA
 · rw [List.append_nil, hsp, hv]
   exact hV

def IsRow (k : IntKind) (w : World) (a : Option Addr) (len : Nat) (zs : List Int) : Prop :=
 (len = 0 ∧ zs = []) ∨
 ∃ b off, a = some ⟨b, off, none⟩ ∧ b < w.heap.size ∧ 0 < len ∧ len ≤ maxLen ∧ zs.length = len ∧ (∀ i, i < len → w.cell? ⟨b, off + i, none⟩ = some (.int k (zs.getD i 0))) ∧ ∀ n ∈ zs, (Lit.int k n).wf = true

theorem open_row {t e : TypeId} {k : IntKind} {W : World} {base : Nat} {v : Value} {d : DataW H} {p : List MemPlace} (ht : P.underlying t = some (.slice e)) (he : P.underlying e = some (.int k)) (hc : P.cellsOf e = 1)
 (hval : Value.okWide P W .any base t v) (h : DataW.Trod enc P W 0 (fun _ => true) true t v d p) : ∃ a len cap zs, v = .slice a len cap ∧ IsRow k W a len zs ∧ zs.length = len := by
 obtain ⟨a0, len0, cap0, rfl⟩ := okWide_slice ht hval
 refine ⟨a0, len0, cap0, ?_⟩
 obtain ⟨fuel, hf⟩ := h
 rcases open_ints ht he hc hf with ⟨hcs, _⟩ | ⟨x, l, c, zs, hcs, _, hl, hm, hz, _, hcell, hwz⟩
 · simp [Value.cells] at hcs
   obtain ⟨rfl, rfl, rfl⟩ := hcs
   exact ⟨[], rfl, .inl ⟨rfl, rfl⟩, rfl⟩
 · simp [Value.cells] at hcs
   obtain ⟨rfl, rfl, rfl⟩ := hcs
   simp only [if_true] at hz
   by_cases h0 : len0 = 0
   · exact ⟨[], rfl, .inl ⟨h0, rfl⟩, by simp [h0]⟩
   · have hc0 := hcell 0 (by omega)
     obtain ⟨b, off, spot⟩ := x
     have hspot : spot = none := by simpa [Addr.add] using World.cell?_spot hc0
     subst hspot
     refine ⟨zs.take len0, rfl, .inr ⟨b, off, rfl, World.block_lt_of_cell? _ _ (by simpa [Addr.add] using hc0), by omega, by omega, by simp; omega, fun i hi => ?_, fun n hn => hwz n (List.mem_of_mem_take hn)⟩, by simp; omega⟩
     have := hcell i (by omega)
     rw [show (⟨b, off, none⟩ : Addr).add i = ⟨b, off + i, none⟩ from by unfold Addr.add; split <;> simp_all] at this
     rw [this]
     simp [List.getD, hi]

end

theorem isRow_later {k : IntKind} {W wr : World} {a : Option Addr} {len : Nat} {zs : List Int} (h : IsRow k W a len zs) (hb : Below W.heap.size W wr) {i : Nat} (hi : i < len) :
 ∃ b off, a = some ⟨b, off, none⟩ ∧ wr.cell? ⟨b, off + i, none⟩ = some (.int k (zs.getD i 0)) ∧ (Lit.int k (zs.getD i 0)).wf = true := by
 rcases h with ⟨rfl, _⟩ | ⟨b, off, rfl, hbl, _, _, hz, hc, hw⟩
 · omega
 · refine ⟨b, off, rfl, (hb.cell (p := ⟨b, off + i, none⟩) hbl).trans (hc i hi), hw _ ?_⟩
   rw [List.getD_eq_getElem?_getD, List.getElem?_eq_getElem (by omega)]
   exact List.getElem_mem _

theorem byte_wf {z : Int} (h : (Lit.int .u8 z).wf = true) : 0 ≤ z ∧ z < 256 := by
 have e1 : IntKind.u8.min = 0 := by decide
 have e2 : IntKind.u8.max = 255 := by decide
 simp only [Lit.wf, e1, e2, Bool.and_eq_true, decide_eq_true_eq] at h
 omega
end Go.Wh

namespace Go.Proofs.YtlcfoeikamkpmaaGreat
open Go.Shelf
def ls_keysA_ren : Go.Shelf.Ren := ⟨fun | 7 => 91 | 10 => 128 | n => n, fun | 23 => 80 | 26 => 3 | 3 => 22 | 28 => 149 | 0 => 0 | 27 => 148 | 33 => 53 | 4 => 4 | n => n, fun | n => n⟩
theorem ls_keysA : Go.Proofs.SlLaysZI.n7 Tryz.prog ls_keysA_ren := {
 mixed := by kernel_rfl
 f7 := ⟨Tryz.f91.name, by decide, Tryz.func91.trans (congrArg some (by kernel_rfl))⟩
 f10 := ⟨Tryz.f128.name, by decide, Tryz.func128.trans (congrArg some (by kernel_rfl))⟩
 t0 := Tryz.underlying0
 a0 := Tryz.isAgg0
 z0 := Tryz.sizeOf0
 v0 := Tryz.zeroValue0
 t4 := Tryz.underlying4
 a4 := Tryz.isAgg4
 z4 := Tryz.sizeOf4
 v4 := Tryz.zeroValue4
 t23 := Tryz.underlying80
 a23 := Tryz.isAgg80
 z23 := Tryz.sizeOf80
 v23 := Tryz.zeroValue80
 t26 := Tryz.underlying3
 a26 := Tryz.isAgg3
 z26 := Tryz.sizeOf3
 v26 := Tryz.zeroValue3
 t27 := Tryz.underlying148
 a27 := Tryz.isAgg148
 z27 := Tryz.sizeOf148
 v27 := Tryz.zeroValue148
 t28 := Tryz.underlying149
 a28 := Tryz.isAgg149
 z28 := Tryz.sizeOf149
 v28 := Tryz.zeroValue149
 t33 := Tryz.underlying53
 a33 := Tryz.isAgg53
 z33 := Tryz.sizeOf53
 v33 := Tryz.zeroValue53 }
def ls_sortedA_ren : Go.Shelf.Ren := ⟨fun | 6 => 90 | 8 => 126 | 9 => 127 | 11 => 164 | 13 => 84 | 12 => 165 | 23 => 111 | 24 => 112 | 14 => 184 | 15 => 185 | 16 => 186 | 17 => 187 | 18 => 188 | 19 => 189 | 20 => 190 | 21 => 191 | 22 => 192 | 25 => 203 | 26 => 149 | 27 => 150 | 28 => 204 | 29 => 205 | 30 => 85 | 31 => 208 | n => n, fun | 26 => 3 | 28 => 149 | 24 => 112 | 0 => 0 | 3 => 3 | 37 => 145 | 48 => 71 | 50 => 171 | 4 => 4 | 40 => 163 | 39 => 162 | 45 => 167 | 5 => 5 | 9 => 9 | 51 => 214 | 55 => 218 | 57 => 234 | 58 => 235 | 33 => 53 | n => n, fun | n => n⟩
theorem ls_sortedA : Go.Proofs.SlLaysZI.n6 Tryz.prog ls_sortedA_ren := {
 mixed := by kernel_rfl
 f6 := ⟨Tryz.f90.name, by decide, Tryz.func90.trans (congrArg some (by kernel_rfl))⟩
 f8 := ⟨Tryz.f126.name, by decide, Tryz.func126.trans (congrArg some (by kernel_rfl))⟩
 f11 := ⟨Tryz.f164.name, by decide, Tryz.func164.trans (congrArg some (by kernel_rfl))⟩
 t0 := Tryz.underlying0
 a0 := Tryz.isAgg0
 z0 := Tryz.sizeOf0
 v0 := Tryz.zeroValue0
 t24 := Tryz.underlying112
 a24 := Tryz.isAgg112
 z24 := Tryz.sizeOf112
 v24 := Tryz.zeroValue112
 t26 := Tryz.underlying3
 a26 := Tryz.isAgg3
 z26 := Tryz.sizeOf3
 v26 := Tryz.zeroValue3
 t28 := Tryz.underlying149
 a28 := Tryz.isAgg149
 z28 := Tryz.sizeOf149
 v28 := Tryz.zeroValue149
 i26 := by kernel_rfl }
def ls_sortA_ren : Go.Shelf.Ren := ⟨fun | 5 => 127 | 8 => 84 | 7 => 165 | 19 => 111 | 20 => 112 | 10 => 184 | 11 => 185 | 12 => 186 | 13 => 187 | 14 => 188 | 15 => 189 | 16 => 190 | 17 => 191 | 18 => 192 | 30 => 203 | 31 => 149 | 32 => 150 | 33 => 204 | 34 => 205 | 35 => 85 | 40 => 208 | n => n, fun | 23 => 112 | 25 => 3 | 3 => 3 | 32 => 145 | 22 => 112 | 0 => 0 | 44 => 71 | 46 => 171 | 4 => 4 | 36 => 163 | 35 => 162 | 41 => 167 | 5 => 5 | 9 => 9 | 53 => 214 | 57 => 218 | 63 => 234 | 64 => 235 | n => n, fun | n => n⟩
theorem ls_sortA : Go.Proofs.SlLaysM.n5 Tryz.prog ls_sortA_ren := {
 mixed := by kernel_rfl
 f5 := ⟨Tryz.f127.name, by decide, Tryz.func127.trans (congrArg some (by kernel_rfl))⟩
 f7 := ⟨Tryz.f165.name, by decide, Tryz.func165.trans (congrArg some (by kernel_rfl))⟩
 f8 := Tryz.func84.trans (congrArg some (by kernel_rfl))
 f10 := ⟨Tryz.f184.name, by decide, Tryz.func184.trans (congrArg some (by kernel_rfl))⟩
 f11 := ⟨Tryz.f185.name, by decide, Tryz.func185.trans (congrArg some (by kernel_rfl))⟩
 f12 := ⟨Tryz.f186.name, by decide, Tryz.func186.trans (congrArg some (by kernel_rfl))⟩
 f13 := ⟨Tryz.f187.name, by decide, Tryz.func187.trans (congrArg some (by kernel_rfl))⟩
 f14 := ⟨Tryz.f188.name, by decide, Tryz.func188.trans (congrArg some (by kernel_rfl))⟩
 f15 := ⟨Tryz.f189.name, by decide, Tryz.func189.trans (congrArg some (by kernel_rfl))⟩
 f16 := ⟨Tryz.f190.name, by decide, Tryz.func190.trans (congrArg some (by kernel_rfl))⟩
 f17 := ⟨Tryz.f191.name, by decide, Tryz.func191.trans (congrArg some (by kernel_rfl))⟩
 f18 := ⟨Tryz.f192.name, by decide, Tryz.func192.trans (congrArg some (by kernel_rfl))⟩
 f19 := Tryz.func111.trans (congrArg some (by kernel_rfl))
 f20 := Tryz.func112.trans (congrArg some (by kernel_rfl))
 f30 := ⟨Tryz.f203.name, by decide, Tryz.func203.trans (congrArg some (by kernel_rfl))⟩
 f31 := Tryz.func149.trans (congrArg some (by kernel_rfl))
 f32 := Tryz.func150.trans (congrArg some (by kernel_rfl))
 f33 := ⟨Tryz.f204.name, by decide, Tryz.func204.trans (congrArg some (by kernel_rfl))⟩
 f34 := ⟨Tryz.f205.name, by decide, Tryz.func205.trans (congrArg some (by kernel_rfl))⟩
 f35 := ⟨Tryz.f85.name, by decide, Tryz.func85.trans (congrArg some (by kernel_rfl))⟩
 f40 := ⟨Tryz.f208.name, by decide, Tryz.func208.trans (congrArg some (by kernel_rfl))⟩
 t0 := Tryz.underlying0
 a0 := Tryz.isAgg0
 z0 := Tryz.sizeOf0
 v0 := Tryz.zeroValue0
 t3 := Tryz.underlying3
 a3 := Tryz.isAgg3
 z3 := Tryz.sizeOf3
 v3 := Tryz.zeroValue3
 t4 := Tryz.underlying4
 a4 := Tryz.isAgg4
 z4 := Tryz.sizeOf4
 v4 := Tryz.zeroValue4
 t5 := Tryz.underlying5
 a5 := Tryz.isAgg5
 z5 := Tryz.sizeOf5
 v5 := Tryz.zeroValue5
 t9 := Tryz.underlying9
 a9 := Tryz.isAgg9
 z9 := Tryz.sizeOf9
 v9 := Tryz.zeroValue9
 t22 := Tryz.underlying112
 a22 := Tryz.isAgg112
 z22 := Tryz.sizeOf112
 v22 := Tryz.zeroValue112
 t23 := Tryz.underlying112
 a23 := Tryz.isAgg112
 z23 := Tryz.sizeOf112
 v23 := Tryz.zeroValue112
 t25 := Tryz.underlying3
 a25 := Tryz.isAgg3
 z25 := Tryz.sizeOf3
 v25 := Tryz.zeroValue3
 t32 := Tryz.underlying145
 a32 := Tryz.isAgg145
 z32 := Tryz.sizeOf145
 v32 := Tryz.zeroValue145
 t35 := Tryz.underlying162
 a35 := Tryz.isAgg162
 z35 := Tryz.sizeOf162
 v35 := Tryz.zeroValue162
 t36 := Tryz.underlying163
 a36 := Tryz.isAgg163
 z36 := Tryz.sizeOf163
 v36 := Tryz.zeroValue163
 t41 := Tryz.underlying167
 a41 := Tryz.isAgg167
 z41 := Tryz.sizeOf167
 v41 := Tryz.zeroValue167
 t44 := Tryz.underlying71
 a44 := Tryz.isAgg71
 z44 := Tryz.sizeOf71
 v44 := Tryz.zeroValue71
 t46 := Tryz.underlying171
 a46 := Tryz.isAgg171
 z46 := Tryz.sizeOf171
 v46 := Tryz.zeroValue171
 t53 := Tryz.underlying214
 a53 := Tryz.isAgg214
 z53 := Tryz.sizeOf214
 v53 := Tryz.zeroValue214
 t57 := Tryz.underlying218
 a57 := Tryz.isAgg218
 z57 := Tryz.sizeOf218
 v57 := Tryz.zeroValue218
 t63 := Tryz.underlying234
 a63 := Tryz.isAgg234
 z63 := Tryz.sizeOf234
 v63 := Tryz.zeroValue234
 t64 := Tryz.underlying235
 a64 := Tryz.isAgg235
 z64 := Tryz.sizeOf235
 v64 := Tryz.zeroValue235 }
end Go.Proofs.YtlcfoeikamkpmaaGreat

namespace Go.Wh
open Go.MapKept Go.RowKit Go.Maps
open Go.WideElems (Fit rd rg rd_mk rg_of)

theorem nodup_below : ∀ (n : Nat) (l : List Int), l.Nodup → (∀ x ∈ l, 0 ≤ x ∧ x < n) → l.length ≤ n
 | 0, [], _, _ => Nat.le_refl _
 | 0, x :: l, _, h => by have := h x (by simp); omega
 | n + 1, l, hnd, h => by
  by_cases hm : (n : Int) ∈ l
  · have h1 := List.length_erase_of_mem hm
    have h2 := nodup_below n (l.erase (n : Int)) (hnd.erase _) fun x hx => by
     have h3 := (List.Nodup.mem_erase_iff hnd).1 hx
     have h4 := h x h3.2
     have h5 := h3.1
     omega
    have := List.length_pos_of_mem hm
    omega
  · have := nodup_below n l hnd fun x hx => by
     have h4 := h x hx
     have : x ≠ (n : Int) := fun e => hm (e ▸ hx)
     omega
    omega
def looseL (q : Nat → Bool) (n : Nat) : List Nat := (List.range n).filter q
theorem looseL_mem {q : Nat → Bool} {n i : Nat} : i ∈ looseL q n ↔ i < n ∧ q i = true := by
 unfold looseL
 rw [List.mem_filter, List.mem_range]
theorem looseL_sorted (q : Nat → Bool) (n : Nat) : (looseL q n).Pairwise (· < ·) := (List.pairwise_lt_range (n := n)).filter _
theorem looseL_nodup (q : Nat → Bool) (n : Nat) : (looseL q n).Nodup := (looseL_sorted q n).imp fun h => Nat.ne_of_lt h
theorem sort_loose {q : Nat → Bool} {n : Nat} {ss : List Int} (hnd : ss.Nodup) (hm : ∀ x, x ∈ ss ↔ ∃ i : Nat, i < n ∧ q i = true ∧ x = i) : ss.mergeSort (fun x y => decide (x ≤ y)) = (looseL q n).map fun i : Nat => (i : Int) := by
 have tr : ∀ a b c : Int, leI a b = true → leI b c = true → leI a c = true := fun a b c h1 h2 => by simp only [leI, decide_eq_true_eq] at *; exact Int.le_trans h1 h2
 have tot : ∀ a b : Int, (leI a b || leI b a) = true := fun a b => by simp only [leI, Bool.or_eq_true, decide_eq_true_eq]; exact Int.le_total a b
 have hnd2 : ((looseL q n).map fun i : Nat => (i : Int)).Nodup := List.pairwise_map.2 ((looseL_nodup q n).imp fun {a b} h e => h (by have e' : (a : Int) = (b : Int) := e; omega))
 have hp : ss.Perm ((looseL q n).map fun i : Nat => (i : Int)) := (List.perm_ext_iff_of_nodup hnd hnd2).2 fun x => by
  rw [hm x, List.mem_map]
  constructor
  · rintro ⟨i, h1, h2, rfl⟩
    exact ⟨i, looseL_mem.2 ⟨h1, h2⟩, rfl⟩
  · rintro ⟨i, h1, rfl⟩
    exact ⟨i, (looseL_mem.1 h1).1, (looseL_mem.1 h1).2, rfl⟩
 refine List.Perm.eq_of_pairwise (le := fun a b => leI a b = true) (fun a b _ _ h1 h2 => ?_) (List.pairwise_mergeSort tr tot ss) (List.pairwise_map.2 ((looseL_sorted q n).imp fun {a b} h => ?_)) ((List.mergeSort_perm ss leI).trans hp)
 · simp only [leI, decide_eq_true_eq] at h1 h2
   exact Int.le_antisymm h1 h2
 · simp only [leI, decide_eq_true_eq]
   omega
def anyV (H : Type) : Value → Option (DataW H × List MemPlace) := fun _ => some (.lit (.bool true), [])
theorem kmap_owns {P : Program} {k : TypeId} (hk : P.underlying k = some (.int .i64)) {w : World} {b n : Nat} {V : Int → Option Value} (h : kmap w P k encZ b V) (hn : n ≤ 100000) (hr : ∀ x v, V x = some v → 0 ≤ x ∧ x < n) :
 ∃ D : DataW Unit, w.ownsMap P k (anyV Unit) b n D ∧ Maps.size D ≤ n ∧ ∀ ss : List Int, ss.Perm (intKeys D) → ss.Nodup ∧ ∀ x, x ∈ ss ↔ (V x).isSome = true := by
 obtain ⟨es, clock, hb, hst, hkey, hE, hV⟩ := h
 have hint : ∀ x ∈ es.toList, ∃ a : Int, x.key = encZ a ∧ rd P k (anyV Unit) x = some (.int .i64 a, .lit (.bool true)) := fun x hx => by
  obtain ⟨l, hl⟩ := hkey x hx
  obtain ⟨a, ha, hla, -⟩ := Maps.keyOf_i64 hk hl
  refine ⟨a, ha, ?_⟩
  unfold rd
  rw [hl, hla]
  rfl
 have hlen : es.size ≤ n := by
  have h1 : (es.toList.map fun x => intOf (rg P k (anyV Unit) x).1).length ≤ n := by
   refine nodup_below n _ ?_ fun z hz => ?_
   · refine List.pairwise_map.2 ((List.pairwise_map.1 hst.2.2).imp_of_mem fun {x y} hx hy hne e => hne ?_)
     obtain ⟨a, ha, hra⟩ := hint x hx
     obtain ⟨c, hc, hrc⟩ := hint y hy
     rw [rg_of hra, rg_of hrc] at e
     rw [ha, hc]
     exact congrArg encZ e
   · obtain ⟨x, hx, rfl⟩ := List.mem_map.1 hz
     obtain ⟨a, ha, hra⟩ := hint x hx
     rw [rg_of hra]
     exact hr a x.val ((hV a x.val).2 ⟨x, hx, ha, rfl⟩)
  rw [List.length_map, Array.length_toList] at h1
  exact h1
 have hfit : Fit P k (anyV Unit) es clock := ⟨by simp only [maxLen]; omega, hst, fun x hx => by
  obtain ⟨a, -, hra⟩ := hint x hx
  exact ⟨_, hra⟩⟩
 have hown : w.ownsMap P k (anyV Unit) b n (.map ((es.toList.map (rg P k (anyV Unit))).foldr DataW.insert [])) := ⟨es, clock, hb, hfit, hlen, rfl⟩
 refine ⟨_, hown, ?_, fun ss hp => ?_⟩
 · show ((es.toList.map (rg P k (anyV Unit))).foldr DataW.insert []).length ≤ n
   rw [(Go.WideShapes.sorted_perm _).length_eq, List.length_map, Array.length_toList]
   exact hlen
 · obtain ⟨es', he', hpw, -⟩ := hown.entries (int_keyed hk)
   injection he' with he'
   have hmem : ∀ x : Int, x ∈ intKeys (DataW.map ((es.toList.map (rg P k (anyV Unit))).foldr DataW.insert [])) ↔ (V x).isSome = true := fun x => by
    show x ∈ ((es.toList.map (rg P k (anyV Unit))).foldr DataW.insert []).map (fun p => intOf p.1) ↔ _
    rw [List.mem_map]
    constructor
    · rintro ⟨p, hp, rfl⟩
      obtain ⟨y, hy, rfl⟩ := List.mem_map.1 (mem_sorted.1 hp)
      obtain ⟨a, ha, hra⟩ := hint y hy
      rw [rg_of hra]
      show (V a).isSome = true
      rw [(hV a y.val).2 ⟨y, hy, ha, rfl⟩]
      rfl
    · intro hx
      obtain ⟨v, hv⟩ := Option.isSome_iff_exists.1 hx
      obtain ⟨y, hy, hyk, -⟩ := (hV x v).1 hv
      obtain ⟨a, ha, hra⟩ := hint y hy
      refine ⟨rg P k (anyV Unit) y, mem_sorted.2 (List.mem_map.2 ⟨y, hy, rfl⟩), ?_⟩
      rw [rg_of hra]
      exact encZ_inj (ha.symm.trans hyk)
   have hnd : (intKeys (DataW.map ((es.toList.map (rg P k (anyV Unit))).foldr DataW.insert []))).Nodup := by
    show (((es.toList.map (rg P k (anyV Unit))).foldr DataW.insert []).map (fun p => intOf p.1)).Nodup
    rw [he']
    refine List.pairwise_map.2 (hpw.imp_of_mem fun {p q} hp hq hne e => hne ?_)
    rw [← he'] at hp hq
    obtain ⟨y, hy, rfl⟩ := List.mem_map.1 (mem_sorted.1 hp)
    obtain ⟨z, hz, rfl⟩ := List.mem_map.1 (mem_sorted.1 hq)
    obtain ⟨a, ha, hra⟩ := hint y hy
    obtain ⟨c, hc, hrc⟩ := hint z hz
    rw [rg_of hra, rg_of hrc] at e ⊢
    have e' : a = c := e
    rw [e']
   exact ⟨hp.nodup_iff.2 hnd, fun x => (hp.mem_iff).trans (hmem x)⟩
end Go.Wh

namespace Go.Proofs.YtlcfoeikamkpmaaGreat
open Go.RowKit Go.Wh Go.Maps Go.Sort Go.Shelf

theorem sorts_int (m : Nat) : AnyZI.SortsIn Tryz.prog ls_sortedA_ren Fence.wide m :=
 ⟨fun blk off cap ss W hH hblk hsz => callsIn_wide.2 (AnyM.slices_Sort_int ls_sortA blk off cap ss W hH hblk hsz),
  fun p cap W => callsIn_wide.2 (AnyM.slices_Sort_int_none ls_sortA p cap W)⟩
theorem keys_any (mb : Option Nat) (W : World) : Calls Tryz.prog 91 #[.map mb] W fun e w' => e = .returned (.func (.func 128) #[] #[.pointer (some ⟨W.heap.size, 0, none⟩)]) ∧ w' = W.alloc (.cells #[.map mb] 80) :=
 (callsIn_wide (n := 5)).1 (AnyZI.keys_in ls_keysA Fence.wide 5 trivial rfl mb W)
def NumsPost (w : World) (l : List Nat) (e : Ending) (w' : World) : Prop :=
 ∃ v, e = .returned v ∧ Vec w' 1 v l.length (l.map fun i : Nat => Value.int .i64 (i : Int)) ∧ Still w w' ∧ ∀ g, v.ownBlock = some g → w.heap.size ≤ g ∧ g < w'.heap.size
theorem sorted_keys (w : World) (mb n : Nat) (V : Int → Option Value) (hk : kmap w Tryz.prog 3 (fun z : Int => .int .i64 z) mb V) (hn : n ≤ 100000) (hr : ∀ x v, V x = some v → 0 ≤ x ∧ x < n) :
 Calls Tryz.prog 90 #[.func (.func 128) #[] #[.pointer (some ⟨w.heap.size, 0, none⟩)]] (w.alloc (.cells #[.map (some mb)] 80)) (NumsPost w (looseL (fun i => (V (i : Int)).isSome) n)) := by
 have hlt := hk.lt
 obtain ⟨D, hown, hsz, hD⟩ := kmap_owns Tryz.underlying3 hk hn hr
 have hseq : SeqGives Fence.wide 2 Tryz.prog 128 #[.pointer (some ⟨w.heap.size, 0, none⟩)] encZ (fun ss => ss.Perm (intKeys D)) (Maps.size D) (w.alloc (.cells #[.map (some mb)] 80)) :=
  AnyZI.keys_gives (ρ := ls_keysA_ren) { ls_keysA with } Fence.wide _ trivial rfl (by omega) w.heap.size mb n D _ (by simp) (by simp) (by
   obtain ⟨es, clock, hb, Ft, hs, hD⟩ := hown
   exact ⟨es, clock, (Below.heap_alloc _ _ mb hlt).trans hb, Ft, hs, hD⟩)
 have cS := AnyZI.sorted_in ls_sortedA Fence.wide 5 trivial trivial trivial trivial rfl (by omega) (sorts_int _) (enters_of Tryz.func127 (by kernel_rfl) rfl) 128 #[.pointer (some ⟨w.heap.size, 0, none⟩)] trivial (enters_of Tryz.func128 (by kernel_rfl) rfl) _ _ (by simp only [maxLen]; omega) (by omega) _ hseq
 change CallsIn _ _ Tryz.prog 90 _ _ _ at cS
 refine ((callsIn_wide (n := 5)).1 cS).mono ?_
 rintro e w' ⟨v, ss, rfl, hS, hrow, -, hb⟩
 obtain ⟨hnd, hm⟩ := hD ss hS
 have hs := sort_loose (q := fun i => (V (i : Int)).isSome) (n := n) hnd fun x => by
  rw [hm x]
  constructor
  · intro hx
    obtain ⟨v, hv⟩ := Option.isSome_iff_exists.1 hx
    have := hr x v hv
    obtain ⟨i, rfl⟩ : ∃ i : Nat, x = i := ⟨x.toNat, by omega⟩
    exact ⟨i, by omega, hx, rfl⟩
  · rintro ⟨i, -, h2, rfl⟩
    exact h2
 have hlen : ss.length = (looseL (fun i => (V (i : Int)).isSome) n).length := by
  have := congrArg List.length hs
  rw [List.length_mergeSort, List.length_map] at this
  exact this
 have hrow2 := hrow
 rw [hs, List.map_map, hlen] at hrow2
 have hst : Still w (w.alloc (.cells #[.map (some mb)] 80)) := (Still.refl w).alloc _
 refine ⟨v, rfl, ?_, hst.trans (Only.ofBelow hb), fun g hg => ?_⟩
 · exact vec_of_owns hrow2
 · have h1 := hrow2.lt g hg
   have h2 := h1.1
   simp at h2
   exact ⟨by omega, h1.2⟩
theorem loose_any (w : World) (d mb n : Nat) (V : Int → Option Value) (c1 : w.cell? ⟨d, 1, none⟩ = some (.map (some mb))) (hk : kmap w Tryz.prog 3 (fun z : Int => .int .i64 z) mb V) (hn : n ≤ 100000) (hr : ∀ x v, V x = some v → 0 ≤ x ∧ x < n) :
 Calls Tryz.prog 62 #[.pointer (some ⟨d, 0, none⟩)] w (NumsPost w (looseL (fun i => (V (i : Int)).isSome) n)) := by
 have HK := Lib.hid (keys_any (some mb) w)
 have HS := Lib.hid (sorted_keys w mb n V hk hn hr)
 clear hk hr hn
 go_enter Tryz.func62, Tryz.ntmps62
 go_wp2_with fail
 refine HK.out.mono ?_
 rintro e w1 ⟨rfl, rfl⟩
 go_wp2_with fail
 refine HS.out.mono ?_
 intro e w2 h
 obtain ⟨v, rfl, h⟩ := h
 have F := Lib.hid (show NumsPost w (looseL (fun i => (V (i : Int)).isSome) n) (.returned v) w2 from ⟨v, rfl, h⟩)
 clear h
 go_wp2_with fail
 go_ret
 exact F.out
end Go.Proofs.YtlcfoeikamkpmaaGreat

namespace Go.Proofs.YtlcfoeikamkpmaaGreat
open Go.RowKit Go.Wh Go.Maps

def mskB (mask : List Int) (i : Nat) : Bool := decide (i / 8 < mask.length) && (mask.getD (i / 8) 0 / 2 ^ (i % 8) % 2 != 0)
theorem u8_and1 : ∀ n : Fin 256, bits BinOp.and IntKind.u8 (n.val : Int) 1 = (n.val : Int) % 2 := by decide +kernel
theorem u8_bit {z : Int} {r : Nat} (h : 0 ≤ z ∧ z ≤ 255) : bits BinOp.and IntKind.u8 (z / 2 ^ r) 1 = z / 2 ^ r % 2 := by
 have h1 : 0 ≤ z / 2 ^ r := Int.ediv_nonneg h.1 (Int.le_of_lt (Int.pow_pos (by decide)))
 have h2 : z / 2 ^ r ≤ z := Int.ediv_le_self _ h.1
 have := u8_and1 ⟨(z / 2 ^ r).toNat, by omega⟩
 simp only [Int.toNat_of_nonneg h1] at this
 exact this
set_option maxRecDepth 10000 in
theorem set_any (w : World) (Q : Nat → Prop) (a : Option Addr) (n c i : Nat) (mask : List Int) (h : 0 < n → Sl w Q 1 (.slice a n c) n (bc mask)) (hl : mask.length = n) (hb : Byt mask) (hi : i ≤ 100000) :
 Calls Tryz.prog 63 #[.slice a n c, .int .i64 i] w (SamePost w (.bool (mskB mask i))) := by
 obtain ⟨q, hq⟩ : ∃ q, i / 8 = q := ⟨_, rfl⟩
 obtain ⟨r, hr⟩ : ∃ r, i % 8 = r := ⟨_, rfl⟩
 have e0 : (0 : Int) ≤ (i : Int) := by omega
 have e1 : (i : Int) / 8 = (q : Int) := by omega
 have e2 : (i : Int) % 8 = (r : Int) := by omega
 have e3 : IntKind.i64.wrap (q : Int) = (q : Int) := IntWalk.i64_in _ (by omega)
 have e4 : (0 : Int) ≤ (r : Int) := by omega
 have hr8 : r < 8 := by omega
 unfold mskB
 rw [hq, hr, hl]
 by_cases hqn : q < n
 · obtain ⟨g, o, c', hg, -, -, hcs⟩ := (h (by omega)).pos (by omega)
   cases hg
   obtain ⟨z, hz⟩ : ∃ z, mask[q]? = some z := ⟨_, List.getElem?_eq_getElem (by omega)⟩
   have hzb := hb z (List.mem_of_getElem? hz)
   have cz : w.cell? ⟨g, o + q, none⟩ = some (.int .u8 z) := hcs q _ (bc_get hz)
   have d1 : decide ((q : Int) < (n : Int)) = true := decide_eq_true (by omega)
   have d2 : decide (q < n) = true := decide_eq_true hqn
   have l0 : (0 : Int) ≤ (q : Int) := by omega
   have l1 : (q : Int) < (n : Int) := by omega
   have hgd : mask.getD q 0 = z := by rw [List.getD_eq_getElem?_getD, hz]; rfl
   rw [hgd, d2, Bool.true_and]
   have e5 := u8_bit (r := r) hzb
   clear h hl hb hi hq hr hqn hcs hz hgd
   go_enter Tryz.func63, Tryz.ntmps63
   go_wp2_with fail
   go_ret
   exact ⟨rfl, rfl⟩
 · have d1 : decide ((q : Int) < (n : Int)) = false := decide_eq_false (by omega)
   have d2 : decide (q < n) = false := decide_eq_false hqn
   rw [d2, Bool.false_and]
   clear h hl hb hi hq hr hqn
   go_enter Tryz.func63, Tryz.ntmps63
   go_wp2_with fail
   go_ret
   exact ⟨rfl, rfl⟩
end Go.Proofs.YtlcfoeikamkpmaaGreat

namespace Go.Proofs.YtlcfoeikamkpmaaGreat
open Go.RowKit Go.Wh Go.Maps

structure PDk where
 T : List (List Int)
 was : Nat → Option (List Int)
 dead : Bool
 plan : Option (Int × List Int)
def PDk.loose (D : PDk) : List Nat := looseL (fun i => (D.was i).isSome) D.T.length
def crashN (was : Nat → Option (List Int)) (mask : List Int) (L : List Nat) (T : List (List Int)) : Nat → List (List Int)
 | 0 => T
 | i + 1 => if mskB mask i = true then crashN was mask L T i else (crashN was mask L T i).set (L.getD i 0) ((was (L.getD i 0)).getD [])
theorem crashN_length {was : Nat → Option (List Int)} {mask : List Int} {L : List Nat} {T : List (List Int)} : ∀ {i : Nat}, (crashN was mask L T i).length = T.length
 | 0 => rfl
 | i + 1 => by
  unfold crashN
  split
  · exact crashN_length
  · rw [List.length_set]
    exact crashN_length
def PDk.crash (D : PDk) (mask : List Int) : PDk := ⟨crashN D.was mask D.loose D.T D.loose.length, fun _ => none, true, none⟩

def ptrV : Option Nat → Value
 | none => .pointer none
 | some b => .pointer (some ⟨b, 0, none⟩)
def Mu (d mb : Nat) (tv : Value) (pp : Option Nat) (g : Nat) : Prop := g = d ∨ g = mb ∨ tv.ownBlock = some g ∨ pp = some g
structure DgAt (A : Nat → Prop) (w : World) (d : Nat) (D : PDk) (tv : Value) (mb : Nat) (vs : List Value) (V : Int → Option Value) (pp : Option Nat) : Prop where
 cells : cellsAt w d [tv, .map (some mb), .bool D.dead, ptrV pp]
 t : Vec w 1 tv D.T.length vs
 ins : ∀ (i : Nat) (l : List Int), D.T[i]? = some l → ∃ v, vs[i]? = some v ∧ Reads w 1 v 64 (bc l)
 m : kmap w Tryz.prog 3 (fun z : Int => .int .i64 z) mb V
 wi : ∀ x v, V x = some v → ∃ (i : Nat) (l : List Int), i < D.T.length ∧ x = i ∧ D.was i = some l ∧ Reads w 1 v 64 (bc l)
 wn : ∀ i : Nat, V i = none → D.was i = none
 pl : ∀ k mask, D.plan = some (k, mask) → ∃ b mv, pp = some b ∧ cellsAt w b [.int .i64 k, mv] ∧ Sl w (fun g => A g ∧ ¬ Mu d mb tv pp g) 1 mv mask.length (bc mask) ∧ Byt mask
 pn : D.plan = none → pp = none
 dm : d ≠ mb
 td : ∀ g, tv.ownBlock = some g → g ≠ d ∧ g ≠ mb
 pd : ∀ g, pp = some g → g ≠ d ∧ g ≠ mb ∧ tv.ownBlock ≠ some g
 mu : ∀ g, Mu d mb tv pp g → A g
 ct : ∀ v ∈ vs, v.oneCell' = true ∧ ∀ g, v.ownBlock = some g → A g ∧ ¬ Mu d mb tv pp g
 cw : ∀ x v, V x = some v → v.oneCell' = true ∧ ∀ g, v.ownBlock = some g → A g ∧ ¬ Mu d mb tv pp g
 lt : ∀ g, A g → g < w.heap.size
section
variable {A X : Nat → Prop} {w w' : World} {d mb : Nat} {D : PDk} {tv : Value} {vs : List Value} {V : Int → Option Value} {pp : Option Nat}
theorem DgAt.only (h : DgAt A w d D tv mb vs V pp) (ho : Only X w w') (hx : ∀ g, A g → ¬ X g) : DgAt A w' d D tv mb vs V pp where
 cells := h.cells.only ho (hx d (h.mu d (.inl rfl)))
 t := h.t.only ho fun g hg => hx g (h.mu g (.inr (.inr (.inl hg))))
 ins i l hi := by
  obtain ⟨v, hv, hr⟩ := h.ins i l hi
  exact ⟨v, hv, Reads.only hr ho fun g hg => hx g ((h.ct v (List.mem_of_getElem? hv)).2 g hg).1⟩
 m := h.m.block (ho.block mb h.m.lt (hx mb (h.mu mb (.inr (.inl rfl)))))
 wi x v hv := by
  obtain ⟨i, l, h1, h2, h3, h4⟩ := h.wi x v hv
  exact ⟨i, l, h1, h2, h3, Reads.only h4 ho fun g hg => hx g ((h.cw x v hv).2 g hg).1⟩
 wn := h.wn
 pl k mask hp := by
  obtain ⟨b, mv, h1, h2, h3, h4⟩ := h.pl k mask hp
  exact ⟨b, mv, h1, h2.only ho (hx b (h.mu b (.inr (.inr (.inr h1))))), h3.only ho fun g hg => hx g hg.1, h4⟩
 pn := h.pn
 dm := h.dm
 td := h.td
 pd := h.pd
 mu := h.mu
 ct := h.ct
 cw := h.cw
 lt g hg := Nat.lt_of_lt_of_le (h.lt g hg) ho.size
theorem DgAt.still (h : DgAt A w d D tv mb vs V pp) (hs : Still w w') : DgAt A w' d D tv mb vs V pp := h.only hs fun _ _ e => e
theorem DgAt.form (h : DgAt A w d D tv mb vs V pp) : ∃ a c, tv = .slice a D.T.length c := h.t.form'
theorem DgAt.inr (h : DgAt A w d D tv mb vs V pp) : ∀ x v, V x = some v → 0 ≤ x ∧ x < D.T.length := fun x v hv => by
 obtain ⟨i, l, h1, h2, -, -⟩ := h.wi x v hv
 omega
theorem DgAt.was (h : DgAt A w d D tv mb vs V pp) (i : Nat) : (V (i : Int)).isSome = (D.was i).isSome := by
 cases hv : V (i : Int) with
 | none =>
  rw [h.wn i hv]
  rfl
 | some v =>
  obtain ⟨j, l, -, h2, h3, -⟩ := h.wi i v hv
  obtain rfl : i = j := by omega
  rw [h3]
  rfl
theorem DgAt.put {g o c i : Nat} {l : List Int} {v : Value} (h : DgAt A w d D tv mb vs V pp) (htv : tv = .slice (some ⟨g, o, none⟩) D.T.length c) (hi : i < D.T.length) (hv : Reads w 1 v 64 (bc l)) (hf : ∀ g', v.ownBlock = some g' → A g' ∧ ¬ Mu d mb tv pp g') (h1 : v.oneCell' = true) :
 DgAt A (w.setCell ⟨g, o + i, none⟩ v) d { D with T := D.T.set i l } tv mb (vs.set i v) V pp := by
 subst htv
 have ho := setCell_only w ⟨g, o + i, none⟩ v
 have hz : (w.setCell ⟨g, o + i, none⟩ v).heap.size = w.heap.size := by simp [World.setCell]
 have hlen : vs.length = D.T.length := by have := h.t.len; omega
 have hg := h.td g rfl
 have hmu : ∀ g', ¬ Mu d mb (.slice (some ⟨g, o, none⟩) D.T.length c) pp g' → ¬ g' = g := fun g' hn e => hn (.inr (.inr (.inl (by rw [e]; rfl))))
 have htl : (D.T.set i l).length = D.T.length := List.length_set
 exact {
  cells := h.cells.only ho (fun e => hg.1 (show d = g from e).symm)
  t := by
   show Vec _ 1 _ (D.T.set i l).length _
   rw [htl]
   obtain ⟨g', o', c', he, ht⟩ := h.t.form (by omega)
   injection he with he _ hec
   injection he with he
   injection he with hg' ho'
   subst hg' ho' hec
   exact .inr ⟨_, _, _, rfl, ht.set i (by omega) v⟩
  ins := fun j l' hj => by
   by_cases e : i = j
   · subst e
     rw [List.getElem?_set_self hi] at hj
     cases hj
     exact ⟨v, List.getElem?_set_self (by omega), Reads.only hv ho fun g' hg' => hmu g' (hf g' hg').2⟩
   · rw [List.getElem?_set_ne e] at hj
     obtain ⟨u, hu, hr⟩ := h.ins j l' hj
     exact ⟨u, by rw [List.getElem?_set_ne e]; exact hu, Reads.only hr ho fun g' hg' => hmu g' ((h.ct u (List.mem_of_getElem? hu)).2 g' hg').2⟩
  m := h.m.block (ho.block mb h.m.lt fun e => hg.2 (show mb = g from e).symm)
  wi := fun x u hu => by
   obtain ⟨j, l', k1, k2, k3, k4⟩ := h.wi x u hu
   exact ⟨j, l', by rw [htl]; exact k1, k2, k3, Reads.only k4 ho fun g' hg' => hmu g' ((h.cw x u hu).2 g' hg').2⟩
  wn := h.wn
  pl := fun k mask hp => by
   obtain ⟨b, mv, k1, k2, k3, k4⟩ := h.pl k mask hp
   exact ⟨b, mv, k1, k2.only ho fun e => (h.pd b k1).2.2 (by rw [show b = g from e]; rfl), k3.only ho fun g' hg' => hmu g' hg'.2, k4⟩
  pn := h.pn
  dm := h.dm
  td := h.td
  pd := h.pd
  mu := h.mu
  ct := fun u hu => by
   rcases List.mem_or_eq_of_mem_set hu with hu | rfl
   · exact h.ct u hu
   · exact ⟨h1, hf⟩
  cw := h.cw
  lt := fun g' hg' => by rw [hz]; exact h.lt g' hg' }
end
end Go.Proofs.YtlcfoeikamkpmaaGreat

namespace Go.Proofs.YtlcfoeikamkpmaaGreat
open Go.RowKit Go.Wh Go.Maps

def DgX (A : Nat → Prop) (d : Nat) (D : PDk) (w : World) : Prop := ∃ tv mb vs V pp, DgAt A w d D tv mb vs V pp
def DgPost (A : Nat → Prop) (w : World) (d : Nat) (D' : PDk) (v : Value) (e : Ending) (w' : World) : Prop := e = .returned v ∧ DgX A d D' w' ∧ Only A w w'
theorem DgX.only {A X : Nat → Prop} {d : Nat} {D : PDk} {w w' : World} (h : DgX A d D w) (ho : Only X w w') (hx : ∀ g, A g → ¬ X g) : DgX A d D w' := by
 obtain ⟨tv, mb, vs, V, pp, h⟩ := h
 exact ⟨tv, mb, vs, V, pp, h.only ho hx⟩
theorem DgX.still {A : Nat → Prop} {d : Nat} {D : PDk} {w w' : World} (h : DgX A d D w) (hs : Still w w') : DgX A d D w' := h.only hs fun _ _ e => e
theorem DgAt.crashed {A : Nat → Prop} {w w1 : World} {d mb : Nat} {D : PDk} {tv : Value} {vs : List Value} {V : Int → Option Value} {pp : Option Nat} (h : DgAt A w d D tv mb vs V pp) (hk : kmap w1 Tryz.prog 3 (fun z : Int => .int .i64 z) mb (fun _ => none)) (ho : Only (fun b => b = mb) w w1) :
 DgAt A ((w1.setCell ⟨d, 2, none⟩ (.bool true)).setCell ⟨d, 3, none⟩ (.pointer none)) d ⟨D.T, fun _ => none, true, none⟩ tv mb vs (fun _ => none) none := by
 have o1 := setCell_only w1 ⟨d, 2, none⟩ (.bool true)
 have o2 := setCell_only (w1.setCell ⟨d, 2, none⟩ (.bool true)) ⟨d, 3, none⟩ (.pointer none)
 have o3 : Only (fun b => b = d) w1 ((w1.setCell ⟨d, 2, none⟩ (.bool true)).setCell ⟨d, 3, none⟩ (.pointer none)) := o1.trans o2
 have oo : Only (fun b => b = d ∨ b = mb) w ((w1.setCell ⟨d, 2, none⟩ (.bool true)).setCell ⟨d, 3, none⟩ (.pointer none)) := (ho.mono fun b e => .inr e).trans (o3.mono fun b e => .inl e)
 have hc := h.cells.only ho h.dm
 have hmu : ∀ g, Mu d mb tv none g → Mu d mb tv pp g := fun g hg => by
  rcases hg with e | e | e | e
  · exact .inl e
  · exact .inr (.inl e)
  · exact .inr (.inr (.inl e))
  · cases e
 exact {
  cells := by
   have := (hc.setCell 2 (.bool true)).setCell 3 (.pointer none)
   exact this
  t := h.t.only oo fun g hg e => e.elim (h.td g hg).1 (h.td g hg).2
  ins := fun i l hi => by
   obtain ⟨v, hv, hr⟩ := h.ins i l hi
   exact ⟨v, hv, Reads.only hr oo fun g hg e => ((h.ct v (List.mem_of_getElem? hv)).2 g hg).2 (e.elim .inl fun e => .inr (.inl e))⟩
  m := hk.block (o3.block mb hk.lt fun e => h.dm (show mb = d from e).symm)
  wi := fun x v hv => by cases hv
  wn := fun i _ => rfl
  pl := fun k mask hp => by cases hp
  pn := fun _ => rfl
  dm := h.dm
  td := h.td
  pd := fun g hg => by cases hg
  mu := fun g hg => h.mu g (hmu g hg)
  ct := fun v hv => ⟨(h.ct v hv).1, fun g hg => ⟨((h.ct v hv).2 g hg).1, fun e => ((h.ct v hv).2 g hg).2 (hmu g e)⟩⟩
  cw := fun x v hv => by cases hv
  lt := fun g hg => by have := h.lt g hg; have := oo.size; omega }

structure CrRel (A : Nat → Prop) (w1 : World) (d : Nat) (D : PDk) (mask : List Int) (tv : Value) (mb : Nat) (V : Int → Option Value) (pp : Option Nat) (i : Nat) (wr : World) : Prop where
 ex : ∃ vs, DgAt A wr d { D with T := crashN D.was mask D.loose D.T i } tv mb vs V pp
 ho : Only (fun b => tv.ownBlock = some b) w1 wr
set_option maxHeartbeats 4000000 in
set_option maxRecDepth 100000 in
theorem crash_at {A Q : Nat → Prop} {w : World} {d mb m : Nat} {D : PDk} {tv : Value} {vs : List Value} {V : Int → Option Value} {pp : Option Nat} (h : DgAt A w d D tv mb vs V pp) (hT : D.T.length ≤ 2000) (ma : Option Addr) (mc : Nat) (mask : List Int)
 (hm : 0 < m → Sl w Q 1 (.slice ma m mc) m (bc mask)) (hq : ∀ g, Q g → ¬ tv.ownBlock = some g) (hl : mask.length = m) (hb : Byt mask) :
 Calls Tryz.prog 29 #[.pointer (some ⟨d, 0, none⟩), .slice ma m mc] w (fun e w' => e = .returned (.tuple #[]) ∧ (∃ vs', DgAt A w' d (D.crash mask) tv mb vs' (fun _ => none) none) ∧ Only (fun b => b = d ∨ b = mb ∨ tv.ownBlock = some b) w w') := by
 have c1 : w.cell? ⟨d, 1, none⟩ = some (.map (some mb)) := h.cells.cell 1
 have HLO := Lib.hid (loose_any w d mb D.T.length V c1 h.m (by omega) h.inr)
 have hlo : looseL (fun i => (V (i : Int)).isSome) D.T.length = D.loose := by
  unfold PDk.loose
  congr 1
  exact funext fun i => h.was i
 rw [hlo] at HLO
 have H := Lib.hid (And.intro h (And.intro hm (And.intro hq (And.intro hl (And.intro hb hT)))))
 have HLN := Lib.hid (show D.loose.length ≤ 2000 from by
  unfold PDk.loose looseL
  have := List.length_filter_le (fun i => (D.was i).isSome) (List.range D.T.length)
  rw [List.length_range] at this
  omega)
 obtain ⟨ta, tc, htv⟩ := h.form
 clear h hm hq hl hb hlo c1
 go_enter Tryz.func29, Tryz.ntmps29
 go_wp2_with fail
 refine HLO.out.mono ?_
 intro e w1 hp
 obtain ⟨v, rfl, hv, hs1, hv1⟩ := hp
 obtain ⟨n, hn⟩ : ∃ n, D.loose.length = n := ⟨_, rfl⟩
 rw [hn] at hv
 obtain ⟨va, vc, rfl⟩ := hv.form'
 have HV := Lib.hid (And.intro hv (And.intro hs1 (And.intro hv1 hn)))
 have HREL := Lib.hid (show CrRel A w1 d D mask tv mb V pp 0 w1 from ⟨⟨vs, H.out.1.still hs1⟩, Only.refl _ _⟩)
 clear hv hs1 hv1 HLO hn
 go_wp2_with fail
 go_loopw [11] (fun s wr => ∃ i : Nat, s = .int .i64 i ∧ i ≤ n ∧ CrRel A w1 d D mask tv mb V pp i wr) (fun s _ => n - (intOf s).toNat)
 case atStart => exact ⟨0, rfl, Nat.zero_le _, HREL.out⟩
 case round =>
  clear HREL
  obtain ⟨i, rfl, hin, ⟨⟨us, hd⟩, ho⟩⟩ := hrel
  have hn2000 : n ≤ 2000 := by have := HLN.out; have := HV.out.2.2.2; omega
  have u1 : IntKind.i64.wrap ((i : Int) + 1) = (i : Int) + 1 := IntWalk.i64_in _ (by omega)
  by_cases hi : i < n
  · have d1 : decide ((i : Int) < (n : Int)) = true := decide_eq_true (by omega)
    have d2 : decide (i < n) = true := decide_eq_true hi
    have l0 : (0 : Int) ≤ (i : Int) := by omega
    have l1 : (i : Int) < (n : Int) := by omega
    obtain ⟨x, hx⟩ : ∃ x, D.loose[i]? = some x := ⟨_, List.getElem?_eq_getElem (by rw [HV.out.2.2.2]; exact hi)⟩
    have hxm := looseL_mem.1 (List.mem_of_getElem? hx)
    obtain ⟨g, o, c, hvs, hva⟩ := HV.out.1.form (by omega)
    cases hvs
    have hgo : ¬ tv.ownBlock = some g := fun e => by
     have e1 := H.out.1.lt g (H.out.1.mu g (.inr (.inr (.inl e))))
     have e2 := (HV.out.2.2.1 g rfl).1
     omega
    have cx : wr.cell? ⟨g, o + i, none⟩ = some (.int .i64 (x : Int)) := by
     refine (ho.cell (p := ⟨g, o + i, none⟩) (HV.out.2.2.1 g rfl).2 hgo).trans ?_
     rw [hva.cells i (by omega), List.getElem?_map, hx]
     rfl
    have hxl : x < D.T.length := hxm.1
    have HB := Lib.hid (set_any wr Q ma m mc i mask (fun hp => ((H.out.2.1 hp).still HV.out.2.1).only ho H.out.2.2.1) H.out.2.2.2.1 H.out.2.2.2.2.1 (by omega))
    have HX := Lib.hid (And.intro hd (And.intro ho (And.intro hx (And.intro hxm hi))))
    have hgd : D.loose.getD i 0 = x := by rw [List.getD_eq_getElem?_getD, hx]; rfl
    have HGD := Lib.hid hgd
    cases hbit : mskB mask i with
    | true =>
     rw [hbit] at HB
     have HNX := Lib.hid (show CrRel A w1 d D mask tv mb V pp (i + 1) wr from ⟨⟨us, by
      unfold crashN
      rw [if_pos hbit]
      exact hd⟩, ho⟩)
     clear hd ho hx hxm hi hva hgo hbit hgd hin hxl
     go_wp2_with fail
     refine HB.out.mono ?_
     rintro e w2 ⟨rfl, rfl⟩
     go_wp2_with fail
     go_roundw
     case rel => exact ⟨i + 1, by go_num, by have := HX.out.2.2.2.2; omega, HNX.out⟩
     case measure => simp [intOf]; have := HX.out.2.2.2.2; omega
    | false =>
     rw [hbit] at HB
     have hbf : ¬ mskB mask i = true := by rw [hbit]; decide
     obtain ⟨l, hwas⟩ := Option.isSome_iff_exists.1 hxm.2
     have hVs := hd.was x
     rw [hwas] at hVs
     obtain ⟨u, hu⟩ := Option.isSome_iff_exists.1 hVs
     obtain ⟨x2, l2, -, hx2, hw2, hru⟩ := hd.wi _ _ hu
     obtain rfl : x = x2 := by omega
     obtain ⟨ua, uc, rfl⟩ := Reads.form hru
     rw [hwas] at hw2
     injection hw2 with hw2
     subst hw2
     have hlen : (crashN D.was mask D.loose D.T i).length = D.T.length := crashN_length
     have hxl2 : x < (crashN D.was mask D.loose D.T i).length := by rw [hlen]; exact hxl
     obtain ⟨tg, tf, tcc, htv2, htt⟩ := hd.t.form (by show 0 < (crashN D.was mask D.loose D.T i).length; omega)
     have htv3 : tv = .slice (some ⟨tg, tf, none⟩) (crashN D.was mask D.loose D.T i).length tcc := htv2
     have hput := (hd.still (still_drew wr)).put htv3 hxl2 (Reads.still hru (still_drew wr)) (hd.cw _ _ hu).2 (hd.cw _ _ hu).1
     have HNX := Lib.hid (show CrRel A w1 d D mask tv mb V pp (i + 1) (wr.drew.setCell ⟨tg, tf + x, none⟩ (.slice ua 64 uc)) from ⟨⟨_, by
      have e : crashN D.was mask D.loose D.T (i + 1) = (crashN D.was mask D.loose D.T i).set x l := by
       show (if mskB mask i = true then _ else _) = _
       rw [if_neg hbf, hgd, hwas]
       rfl
      rw [e]
      exact hput⟩, ho.drew.setCell (p := ⟨tg, tf + x, none⟩) (.inl (by rw [htv3]; rfl)) _⟩)
     rw [hlen] at htv3
     have c0 : wr.cell? ⟨d, 0, none⟩ = some tv := hd.cells.cell 0
     rw [htv3] at c0
     have c1 : wr.cell? ⟨d, 1, none⟩ = some (.map (some mb)) := hd.cells.cell 1
     have hlk : (Instr.lookup 80 (.map (some mb)) (.int .i64 (x : Int)) false).run Tryz.prog wr = .ok (.slice ua 64 uc) wr := by
      have := hd.m.lookup (int_keyed Tryz.underlying3) Tryz.underlying80 (intK x (by have := H.out.2.2.2.2.2; omega)) (z := .slice none 0 0) (by kernel_rfl) false
      rw [hu] at this
      exact this
     have hlk2 : (Instr.lookup 80 (.map (some mb)) (.int .i64 (x : Int)) false).run Tryz.prog wr.drew = .ok (.slice ua 64 uc) wr.drew := by
      have := (hd.m.block rfl : kmap wr.drew _ _ _ _ _).lookup (int_keyed Tryz.underlying3) Tryz.underlying80 (intK x (by have := H.out.2.2.2.2.2; omega)) (z := .slice none 0 0) (by kernel_rfl) false
      rw [hu] at this
      exact this
     have ft : wr.frozen? ⟨tg, tf + x, none⟩ = false := htt.free x (by show x < (crashN D.was mask D.loose D.T i).length * 1; omega)
     have ct : ∃ u', wr.cell? ⟨tg, tf + x, none⟩ = some u' := by
      refine ⟨_, (htt.cells x (by show x < (crashN D.was mask D.loose D.T i).length * 1; omega)).trans (List.getElem?_eq_getElem (by have := htt.len; have e : us.length = (crashN D.was mask D.loose D.T i).length * 1 := this; omega))⟩
     obtain ⟨u', ct⟩ := ct
     have k0 : (0 : Int) ≤ (x : Int) := by omega
     have k1 : (x : Int) < (D.T.length : Int) := by omega
     obtain ⟨Tn, hTn⟩ : ∃ Tn, D.T.length = Tn := ⟨_, rfl⟩
     rw [hTn] at c0 k1
     clear hd ho hx hxm hi hva hgo hbit hgd hin hxl hbf hwas hVs hu hx2 hru hlen hxl2 htv2 htt htv3 hput hTn
     go_wp2_with fail
     refine HB.out.mono ?_
     rintro e w2 ⟨rfl, rfl⟩
     go_wp2_with fail
     go_still_tail 12, (by kernel_rfl)
     change wpList _ _ _ _ _ w2.drew
     go_wp2_with fail
     go_roundw
     case rel => exact ⟨i + 1, by go_num, by have := HX.out.2.2.2.2; omega, HNX.out⟩
     case measure => simp [intOf]; have := HX.out.2.2.2.2; omega
  · have d1 : decide ((i : Int) < (n : Int)) = false := decide_eq_false (by omega)
    have d2 : decide (i < n) = false := decide_eq_false hi
    have hie : i = n := by omega
    have c1 : wr.cell? ⟨d, 1, none⟩ = some (.map (some mb)) := hd.cells.cell 1
    obtain ⟨w3, hrun, hk3, hg3, hs3⟩ := kmap.clear (ty := 0) hd.m Tryz.underlying80
    have ho3 : Only (fun b => b = mb) wr w3 := Only.grown hg3 fun j e => (Option.some.inj e).symm
    have hcl := hd.cells.only ho3 hd.dm
    have hcr := hd.crashed hk3 ho3
    have x2 : w3.cell? ⟨d, 2, none⟩ = some (.bool D.dead) := hcl.cell 2
    have x3 : w3.cell? ⟨d, 3, none⟩ = some (ptrV pp) := hcl.cell 3
    have y2 : w3.frozen? ⟨d, 2, none⟩ = false := hcl.free 2
    have y3 : w3.frozen? ⟨d, 3, none⟩ = false := hcl.free 3
    have F := Lib.hid (show (Ending.returned (.tuple #[])) = .returned (.tuple #[]) ∧ (∃ vs', DgAt A ((w3.setCell ⟨d, 2, none⟩ (.bool true)).setCell ⟨d, 3, none⟩ (.pointer none)) d (D.crash mask) tv mb vs' (fun _ => none) none) ∧ Only (fun b => b = d ∨ b = mb ∨ tv.ownBlock = some b) w ((w3.setCell ⟨d, 2, none⟩ (.bool true)).setCell ⟨d, 3, none⟩ (.pointer none)) from ⟨rfl, ⟨us, by
     have e : D.crash mask = ⟨crashN D.was mask D.loose D.T i, fun _ => none, true, none⟩ := by
      unfold PDk.crash
      rw [HV.out.2.2.2, hie]
     rw [e]
     exact hcr⟩, by
     have q1 : Only (fun b => b = d ∨ b = mb ∨ tv.ownBlock = some b) w wr := (HV.out.2.1.mono fun _ e => e.elim).trans (ho.mono fun b e => .inr (.inr e))
     have q2 := q1.trans (ho3.mono fun b e => .inr (.inl e))
     exact (q2.setCell (p := ⟨d, 2, none⟩) (.inl (.inl rfl)) _).setCell (p := ⟨d, 3, none⟩) (.inl (.inl rfl)) _⟩)
    clear hd ho hin hi hie hk3 hg3 hs3 ho3 hcl hcr
    go_wp2_with fail
    go_end0
    subst htv
    exact ⟨rfl, F.out.2⟩
end Go.Proofs.YtlcfoeikamkpmaaGreat

namespace Go.Proofs.YtlcfoeikamkpmaaGreat
open Go.RowKit Go.Wh Go.Maps

def PDk.cuts (D : PDk) : Bool := match D.plan with
 | none => false
 | some (k, _) => decide (k - 1 < 0)
def PDk.less (D : PDk) : PDk := { D with plan := D.plan.map fun p => (p.1 - 1, p.2) }
def PDk.fine (D : PDk) : Prop := ∀ k mask, D.plan = some (k, mask) → 0 ≤ k ∧ k ≤ 1000000
def PDk.done (D : PDk) : Int × PDk := match D.plan with
 | none => (0, D)
 | some (k, mask) => if k - 1 < 0 then (2, D.crash mask) else (0, D.less)
def PDk.wet (D : PDk) (i : Nat) : PDk := { D with was := if (D.was i).isSome = true then D.was else upd D.was i D.T[i]? }
def PDk.laid (D : PDk) (i : Nat) (l : List Int) : PDk := { D.wet i with T := D.T.set i l }
section
variable {A X : Nat → Prop} {w w' : World} {d mb : Nat} {D : PDk} {tv : Value} {vs : List Value} {V : Int → Option Value} {pp : Option Nat}
theorem DgAt.tick {b : Nat} {k : Int} {mask : List Int} (h : DgAt A w d D tv mb vs V pp) (hp : D.plan = some (k, mask)) (hb : pp = some b) : DgAt A (w.setCell ⟨b, 0, none⟩ (.int .i64 (k - 1))) d D.less tv mb vs V pp := by
 have ho := setCell_only w ⟨b, 0, none⟩ (.int .i64 (k - 1))
 have hz : (w.setCell ⟨b, 0, none⟩ (.int .i64 (k - 1))).heap.size = w.heap.size := by simp [World.setCell]
 have hmu : ∀ g, ¬ Mu d mb tv pp g → ¬ g = b := fun g hn e => hn (.inr (.inr (.inr (by rw [hb, e]))))
 have hpd := h.pd b hb
 exact {
  cells := h.cells.only ho fun e => hpd.1 (show d = b from e).symm
  t := h.t.only ho fun g hg e => hpd.2.2 (by rw [← show g = b from e]; exact hg)
  ins := fun i l hi => by
   obtain ⟨v, hv, hr⟩ := h.ins i l hi
   exact ⟨v, hv, Reads.only hr ho fun g hg => hmu g ((h.ct v (List.mem_of_getElem? hv)).2 g hg).2⟩
  m := h.m.block (ho.block mb h.m.lt fun e => hpd.2.1 (show mb = b from e).symm)
  wi := fun x v hv => by
   obtain ⟨i, l, k1, k2, k3, k4⟩ := h.wi x v hv
   exact ⟨i, l, k1, k2, k3, Reads.only k4 ho fun g hg => hmu g ((h.cw x v hv).2 g hg).2⟩
  wn := h.wn
  pl := fun k' mask' hp' => by
   obtain ⟨b', mv, k1, k2, k3, k4⟩ := h.pl k mask hp
   have e : D.less.plan = some (k - 1, mask) := by unfold PDk.less; rw [hp]; rfl
   rw [e] at hp'
   injection hp' with hp'
   injection hp' with e1 e2
   subst e1 e2
   have hbb : b' = b := by rw [hb] at k1; exact (Option.some.inj k1).symm
   subst hbb
   refine ⟨b', mv, k1, ?_, k3.only ho fun g hg => hmu g hg.2, k4⟩
   have := k2.setCell 0 (.int .i64 (k - 1))
   exact this
  pn := fun hn => by
   have e : D.less.plan = some (k - 1, mask) := by unfold PDk.less; rw [hp]; rfl
   rw [e] at hn
   cases hn
  dm := h.dm
  td := h.td
  pd := h.pd
  mu := h.mu
  ct := h.ct
  cw := h.cw
  lt := fun g hg => by rw [hz]; exact h.lt g hg }
set_option maxRecDepth 10000 in
theorem cut_at (h : DgAt A w d D tv mb vs V pp) (hf : D.fine) :
 Calls Tryz.prog 41 #[.pointer (some ⟨d, 0, none⟩)] w (fun e w' => e = .returned (.bool D.cuts) ∧ DgAt A w' d D.less tv mb vs V pp ∧ Only (fun g => pp = some g) w w') := by
 have c3 : w.cell? ⟨d, 3, none⟩ = some (ptrV pp) := h.cells.cell 3
 cases hp : D.plan with
 | none =>
  have hpp := h.pn hp
  subst hpp
  have c3' : w.cell? ⟨d, 3, none⟩ = some (.pointer none) := c3
  have e1 : D.cuts = false := by unfold PDk.cuts; rw [hp]
  have e2 : D.less = D := by unfold PDk.less; rw [hp]; cases D; cases hp; rfl
  rw [e1, e2]
  have F := Lib.hid (show (Ending.returned (.bool false)) = .returned (.bool false) ∧ DgAt A w d D tv mb vs V none ∧ Only (fun g => (none : Option Nat) = some g) w w from ⟨rfl, h, Only.refl _ _⟩)
  clear h hf c3 hp e1 e2
  go_enter Tryz.func41, Tryz.ntmps41
  go_wp2_with fail
  go_ret
  exact ⟨rfl, F.out.2.1, Only.refl _ _⟩
 | some p =>
  obtain ⟨k, mask⟩ := p
  obtain ⟨b, mv, hb, hc, -, -⟩ := h.pl k mask hp
  have hk := hf k mask hp
  have htick := h.tick hp hb
  subst hb
  have c3' : w.cell? ⟨d, 3, none⟩ = some (.pointer (some ⟨b, 0, none⟩)) := c3
  have c0 : w.cell? ⟨b, 0, none⟩ = some (.int .i64 k) := hc.cell 0
  have f0 : w.frozen? ⟨b, 0, none⟩ = false := hc.free 0
  have hdb : d ≠ b := (h.pd b rfl).1.symm
  have c3'' : (w.setCell ⟨b, 0, none⟩ (.int .i64 (k - 1))).cell? ⟨d, 3, none⟩ = some (.pointer (some ⟨b, 0, none⟩)) := by
   have := (setCell_only w ⟨b, 0, none⟩ (.int .i64 (k - 1))).cell (p := ⟨d, 3, none⟩) h.cells.lt hdb
   rw [this]
   exact c3'
  have c0'' : (w.setCell ⟨b, 0, none⟩ (.int .i64 (k - 1))).cell? ⟨b, 0, none⟩ = some (.int .i64 (k - 1)) := (hc.setCell 0 (.int .i64 (k - 1))).cell 0
  have u1 : IntKind.i64.wrap (k - 1) = k - 1 := IntWalk.i64_in _ (by omega)
  have e1 : D.cuts = decide (k - 1 < 0) := by unfold PDk.cuts; rw [hp]
  rw [e1]
  have F := Lib.hid (show DgAt A (w.setCell ⟨b, 0, none⟩ (.int .i64 (k - 1))) d D.less tv mb vs V (some b) ∧ Only (fun g => (some b : Option Nat) = some g) w (w.setCell ⟨b, 0, none⟩ (.int .i64 (k - 1))) from ⟨htick, (setCell_only w ⟨b, 0, none⟩ _).mono fun g e => by rw [show g = b from e]⟩)
  obtain ⟨q, hq⟩ : ∃ q, decide (k - 1 < 0) = q := ⟨_, rfl⟩
  rw [hq]
  clear h hf c3 hp e1 hk htick hc
  go_enter Tryz.func41, Tryz.ntmps41
  go_wp2_with fail
  go_ret
  exact ⟨rfl, F.out⟩
theorem DgAt.keep {i : Nat} {v : Value} {l : List Int} (h : DgAt A w d D tv mb vs V pp) (hi : D.T[i]? = some l) (hv : vs[i]? = some v) (hw : V (i : Int) = none) (hk : kmap w' Tryz.prog 3 (fun z : Int => .int .i64 z) mb (upd V (i : Int) (some v))) (ho : Only (fun b => b = mb) w w') :
 DgAt A w' d (D.wet i) tv mb vs (upd V (i : Int) (some v)) pp := by
 have hmu : ∀ g, ¬ Mu d mb tv pp g → ¬ g = mb := fun g hn e => hn (.inr (.inl e))
 have hws : (D.was i).isSome = false := by rw [← h.was i, hw]; rfl
 have e : D.wet i = { D with was := upd D.was i (some l) } := by
  unfold PDk.wet
  rw [hws, hi]
  rfl
 have hil := (List.getElem?_eq_some_iff.1 hi).1
 obtain ⟨v', hv', hr⟩ := h.ins i l hi
 rw [hv] at hv'
 injection hv' with hv'
 subst hv'
 have hvm := List.mem_of_getElem? hv
 rw [e]
 exact {
  cells := h.cells.only ho h.dm
  t := h.t.only ho fun g hg e => (h.td g hg).2 e
  ins := fun j l' hj => by
   obtain ⟨u, hu, hr⟩ := h.ins j l' hj
   exact ⟨u, hu, Reads.only hr ho fun g hg => hmu g ((h.ct u (List.mem_of_getElem? hu)).2 g hg).2⟩
  m := hk
  wi := fun x u hu => by
   by_cases hx : x = (i : Int)
   · subst hx
     rw [upd_same] at hu
     injection hu with hu
     subst hu
     exact ⟨i, l, hil, rfl, upd_same _ _ _, Reads.only hr ho fun g hg => hmu g ((h.ct v hvm).2 g hg).2⟩
   · rw [upd_other _ _ hx] at hu
     obtain ⟨j, l', k1, k2, k3, k4⟩ := h.wi x u hu
     refine ⟨j, l', k1, k2, ?_, Reads.only k4 ho fun g hg => hmu g ((h.cw x u hu).2 g hg).2⟩
     show upd D.was i (some l) j = some l'
     rw [upd_other _ _ (fun e => hx (by rw [k2, e]))]
     exact k3
  wn := fun j hj => by
   show upd D.was i (some l) j = none
   by_cases hji : j = i
   · subst hji
     rw [upd_same] at hj
     cases hj
   · rw [upd_other _ _ (fun e => hji (by omega))] at hj
     rw [upd_other _ _ hji]
     exact h.wn j hj
  pl := fun k mask hp => by
   obtain ⟨b, mv, k1, k2, k3, k4⟩ := h.pl k mask hp
   exact ⟨b, mv, k1, k2.only ho (h.pd b k1).2.1, k3.only ho fun g hg => hmu g hg.2, k4⟩
  pn := h.pn
  dm := h.dm
  td := h.td
  pd := h.pd
  mu := h.mu
  ct := h.ct
  cw := fun x u hu => by
   by_cases hx : x = (i : Int)
   · subst hx
     rw [upd_same] at hu
     injection hu with hu
     subst hu
     exact h.ct v hvm
   · rw [upd_other _ _ hx] at hu
     exact h.cw x u hu
  lt := fun g hg => Nat.lt_of_lt_of_le (h.lt g hg) ho.size }
def PDk.may (D : PDk) (i : Int) : Int := if D.dead = true then 2 else if i < 0 ∨ (D.T.length : Int) ≤ i then 1 else 0
set_option maxRecDepth 10000 in
theorem may_at (h : DgAt A w d D tv mb vs V pp) (i : Int) :
 Calls Tryz.prog 40 #[.pointer (some ⟨d, 0, none⟩), .int .i64 i] w (SamePost w (.int .i64 (D.may i))) := by
 obtain ⟨a, c, rfl⟩ := h.form
 have c0 : w.cell? ⟨d, 0, none⟩ = some (.slice a D.T.length c) := h.cells.cell 0
 have c2 : w.cell? ⟨d, 2, none⟩ = some (.bool D.dead) := h.cells.cell 2
 unfold PDk.may
 generalize D.T.length = n at *
 clear h
 cases hq : D.dead with
 | true =>
  rw [hq] at c2
  rw [if_pos rfl]
  clear hq
  go_enter Tryz.func40, Tryz.ntmps40
  go_wp2_with fail
  go_ret
  exact ⟨rfl, rfl⟩
 | false =>
  rw [hq] at c2
  rw [if_neg (by decide)]
  clear hq
  by_cases h0 : i < 0
  · have b1 : decide (i < 0) = true := decide_eq_true h0
    rw [if_pos (.inl h0)]
    clear h0
    go_enter Tryz.func40, Tryz.ntmps40
    go_wp2_with fail
    go_ret
    exact ⟨rfl, rfl⟩
  · have b1 : decide (i < 0) = false := decide_eq_false h0
    by_cases h1 : (n : Int) ≤ i
    · have b2 : decide ((n : Int) ≤ i) = true := decide_eq_true h1
      rw [if_pos (.inr h1)]
      clear h0 h1
      go_enter Tryz.func40, Tryz.ntmps40
      go_wp2_with fail
      go_ret
      exact ⟨rfl, rfl⟩
    · have b2 : decide ((n : Int) ≤ i) = false := decide_eq_false h1
      rw [if_neg (by omega)]
      clear h0 h1
      go_enter Tryz.func40, Tryz.ntmps40
      go_wp2_with fail
      go_ret
      exact ⟨rfl, rfl⟩
end
end Go.Proofs.YtlcfoeikamkpmaaGreat

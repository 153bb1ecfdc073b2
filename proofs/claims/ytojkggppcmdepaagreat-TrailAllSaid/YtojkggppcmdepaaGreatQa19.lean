/- A text, its length ahead, noughts behind. Conditions: it is shorter than its place. The document's May and Row of a row of short texts. Conditions: a key of 1 to 7 bytes, a second of at most 5, a value of at most 7. The document's frame of an entry. Conditions: the entry lies in memory. The document's trail: Append. Conditions: the trail and the entry lie in memory; a stream of at most a million bytes. -/
import Derived.Test.YtojkggppcmdepaaGreatQa18
import Derived.Deep.AppendSrc
import Derived.Lib.AppendZerosOnto
namespace Go.Proofs.YtojkggppcmdepaaGreat
open Go.RowKit Go.Wh Go.Maps

section
variable {P : Program} {w : World} {ops : Array Oper} {rest : List Oper} {o : Oper} {a : Act} {Q : Exit → Act → World → Prop}
theorem grown_vec (w : World) (n : Nat) (cap : Nat) (e : TypeId) (xs : List Value) (cells : Array Value) (hn : n ≤ maxLen) (hx : xs.length = n) (hs : cells.size = grownCap w n cap e) (ht : cells.toList.take n = xs) :
 Vec (w.drew.alloc (.cells cells e)) 1 (.slice (some ⟨w.heap.size, 0, none⟩) n (grownCap w n cap e)) n xs ∧ ∀ S, Only S w (w.drew.alloc (.cells cells e)) :=
 ⟨vec_of_owns (base := 0) (e := e) ⟨by omega, .inr ⟨w.heap.size, _, cells, rfl, Nat.zero_le _, heap_alloc_new w.drew _, grownCap_ge w n cap e, grownCap_le_maxLen w n cap e hn, by omega, by rw [Nat.mul_one]; exact ht⟩⟩,
  fun S => Only.alloc (Only.drew (Only.refl _ _)) _⟩
theorem zeroCells_list (k : Nat) : (Builtin.zeroCells (Value.int .u8 0).cells k).toList = List.replicate k (.int .u8 0) := by
 refine List.ext_getElem ?_ fun j h1 h2 => ?_
 · simp [Builtin.zeroCells, Value.cells]
 · simp [Builtin.zeroCells, Value.cells, Nat.mod_one]
theorem run_append_vec_src (t tx ty e : TypeId) (i : TypeInfo) (h1 : P.underlying t = some (.slice e)) (h2 : P.info? e = some i) (h3 : i.zero = some (.int .u8 0)) (h4 : i.size = 1) (h5 : i.bytes = 1)
 {v : Value} {n : Nat} {xs : List Value} (hv : Vec w 1 v n xs) (hn : 0 < n) {x : Value} {m : Nat} {news : List Value} (hs : Src P 1 tx x m news w) (b1 : n + m ≤ 100000) :
 ∃ v' w', (Builtin.append_ #[t, tx] ty #[v, x]).run P w = .ok v' w' ∧ Vec w' 1 v' (n + m) (xs ++ news) ∧ Only (fun k => v.ownBlock = some k) w w' ∧ (v'.ownBlock = v.ownBlock ∨ ∃ g, v'.ownBlock = some g ∧ w.heap.size ≤ g ∧ g < w'.heap.size) := by
 obtain ⟨g, o, cap, rfl, h⟩ := hv.form hn
 have hl := h.len
 have hnl := hs.newsLen
 by_cases hr : n + m ≤ cap
 · have hsp : ∀ j, j < news.length → (w.cell? ⟨g, o + n * 1 + j, none⟩).isSome = true ∧ w.frozen? ⟨g, o + n * 1 + j, none⟩ = false := fun j hj => by
    rw [Nat.add_assoc]
    exact h.room _ (by omega)
   exact ⟨_, _, run_append_room_src (P := P) w t tx ty e i h1 h2 g o n cap x m news (by rw [h4]; exact hs) hr (fun j hj => by rw [h4]; exact (hsp j hj).1) (fun j hj => by rw [h4]; exact (hsp j hj).2),
    .inr ⟨g, o, cap, rfl, by rw [h4]; exact h.more m news hnl hr⟩, Only.grown (by rw [h4]; exact setCells_grown w g news _) (fun j hj => hj), .inl rfl⟩
 · have hold : (Builtin.firstCells i.size n (.slice (some ⟨g, o, none⟩) n cap)).run P w.drew = .ok xs.toArray w.drew :=
    run_firstCells_some (P := P) w.drew i.size n ⟨g, o, none⟩ n cap xs (by rw [h4]; exact hl) (fun j u hj => by
     rw [Addr.add_lit]
     exact (h.cells j (by rw [← hl]; exact (List.getElem?_eq_some_iff.1 hj).1)).trans hj)
   have hrun := run_append_grow_src (P := P) w t tx ty e i (.int .u8 0) h1 h2 h3 (some ⟨g, o, none⟩) n cap xs hold x m news (by rw [h4]; exact hs) (by omega) (by omega) (by rw [h5]; exact growslice_fits (by omega) (by omega))
   have hge := grownCap_ge w (n + m) cap e
   have hg := grown_vec w (n + m) cap e (xs ++ news) (by simp only [maxLen]; omega) (by rw [List.length_append]; omega) (cells := ((xs ++ news).toArray ++ Builtin.zeroCells (Value.int .u8 0).cells (grownCap w (n + m) cap e - (n + m))))
    (by rw [Array.size_append, ← Array.length_toList (xs := Builtin.zeroCells _ _), zeroCells_list, List.length_replicate, List.size_toArray, List.length_append]; omega)
    (by rw [Array.toList_append, List.take_append_of_le_length (by rw [List.length_append]; omega), List.take_of_length_le (by rw [List.length_append]; omega)])
   exact ⟨_, _, hrun, hg.1, hg.2 _, .inr ⟨w.heap.size, rfl, Nat.le_refl _, by simp⟩⟩
theorem run_append_vec_zeros (t tn ty e : TypeId) (i : TypeInfo) (kq kn : IntKind) (h1 : P.underlying t = some (.slice e)) (htn : P.underlying tn = some (.int kn)) (h2 : P.info? e = some i) (h3 : i.zero = some (.int .u8 0)) (h4 : i.size = 1) (h5 : i.bytes = 1)
 {v : Value} {n : Nat} {xs : List Value} (hv : Vec w 1 v n xs) (hn : 0 < n) (k : Nat) (hk : 0 < k) (b1 : n + k ≤ 100000) :
 ∃ v' w', (Builtin.append_ #[t, tn] ty #[v, .int kq k]).run P w = .ok v' w' ∧ Vec w' 1 v' (n + k) (xs ++ List.replicate k (.int .u8 0)) ∧ Only (fun k => v.ownBlock = some k) w w' ∧ (v'.ownBlock = v.ownBlock ∨ ∃ g, v'.ownBlock = some g ∧ w.heap.size ≤ g ∧ g < w'.heap.size) := by
 obtain ⟨g, o, cap, rfl, h⟩ := hv.form hn
 have hl := h.len
 have hnl : (List.replicate k (Value.int .u8 0)).length = k * 1 := by rw [List.length_replicate, Nat.mul_one]
 by_cases hr : n + k ≤ cap
 · have hsp : ∀ j, j < (List.replicate k (Value.int .u8 0)).length → (w.cell? ⟨g, o + n * 1 + j, none⟩).isSome = true ∧ w.frozen? ⟨g, o + n * 1 + j, none⟩ = false := fun j hj => by
    rw [Nat.add_assoc]
    exact h.room _ (by omega)
   have hst := run_storeCells_cells (P := P) g (o + n * 1) (List.replicate k (Value.int .u8 0)) 0 w (fun j hj => (hsp j hj).1) (fun j hj => (hsp j hj).2) (fun u hu => by rw [List.eq_of_mem_replicate hu]; rfl)
   simp only [Nat.add_zero] at hst
   refine ⟨_, _, ?_, .inr ⟨g, o, cap, rfl, h.more k _ hnl hr⟩, Only.grown (setCells_grown w g _ _) (fun j hj => hj), .inl rfl⟩
   have hkn : k ≠ 0 := by omega
   have hw : IntKind.i64.wrap (k : Int) = k := by rw [IntKind.wrap_i64]; omega
   have h48i : ¬ (281474976710656 < (k : Int)) := by omega
   have hneg : ¬ ((k : Int) < 0) := by omega
   have hz := zeroCells_list k
   rw [Nat.mul_one] at hst
   simp [Builtin.append_, run_underlying h1, run_underlying htn, sizeOf, typeInfo, zeroValue, h2, h3, h4, h5, asInt, asIntOf, hw, hneg, hkn, hr, h48i, Addr.add_lit, hz, hst]
 · have hold : (Builtin.firstCells i.size n (.slice (some ⟨g, o, none⟩) n cap)).run P w.drew = .ok xs.toArray w.drew :=
    run_firstCells_some (P := P) w.drew i.size n ⟨g, o, none⟩ n cap xs (by rw [h4]; exact hl) (fun j u hj => by
     rw [Addr.add_lit]
     exact (h.cells j (by rw [← hl]; exact (List.getElem?_eq_some_iff.1 hj).1)).trans hj)
   have hrun := Lib.run_append_grow_zeros (P := P) w t tn ty e i (.int .u8 0) kq kn h1 htn h2 h3 (some ⟨g, o, none⟩) n cap xs hold k hk (by omega) (by omega) (by omega) (by rw [h5]; omega) (by rw [h5]; exact growslice_fits (by omega) (by omega))
   have hge := grownCap_ge w (n + k) cap e
   have hg := grown_vec w (n + k) cap e (xs ++ List.replicate k (.int .u8 0)) (by simp only [maxLen]; omega) (by rw [List.length_append]; omega) (cells := (xs.toArray ++ Builtin.zeroCells (Value.int .u8 0).cells k ++ Builtin.zeroCells (Value.int .u8 0).cells (grownCap w (n + k) cap e - (n + k))))
    (by rw [Array.size_append, Array.size_append, ← Array.length_toList (xs := Builtin.zeroCells _ (grownCap w (n + k) cap e - (n + k))), zeroCells_list, ← Array.length_toList (xs := Builtin.zeroCells _ k), zeroCells_list, List.length_replicate, List.length_replicate, List.size_toArray]; omega)
    (by rw [Array.toList_append, Array.toList_append, zeroCells_list, List.take_append_of_le_length (by rw [List.length_append]; simp; omega), List.take_of_length_le (by rw [List.length_append]; simp; omega)])
   exact ⟨_, _, hrun, hg.1, hg.2 _, .inr ⟨w.heap.size, rfl, Nat.le_refl _, by simp⟩⟩
theorem wpList_append_vec_src (hgd : o.guard = none) (s x : Operand) (t tx : TypeId) (hop : o.op = Op.call { callee := Callee.builtin Builtin.append, args := #[s, x], argTypes := #[t, tx] })
 (e : TypeId) (i : TypeInfo) (h1 : P.underlying t = some (.slice e)) (h2 : P.info? e = some i) (h3 : i.zero = some (.int .u8 0)) (h4 : i.size = 1) (h5 : i.bytes = 1)
 (v : Value) (n : Nat) (xs : List Value) (hs : a.eval s = v) (hv : Vec w 1 v n xs) (hn : 0 < n) (vx : Value) (m : Nat) (news : List Value) (hxv : a.eval x = vx) (hx : Src P 1 tx vx m news w) (b1 : n + m ≤ 100000)
 (hK : ∀ v' w', Vec w' 1 v' (n + m) (xs ++ news) → Only (fun k => v.ownBlock = some k) w w' → (v'.ownBlock = v.ownBlock ∨ ∃ g, v'.ownBlock = some g ∧ w.heap.size ≤ g ∧ g < w'.heap.size) → wpList P ops Q rest (a.put o.dst v') w') :
 wpList P ops Q (o :: rest) a w := by
 refine wpList_plain hgd fun K hK' => ?_
 obtain ⟨v', w', hrun, r1, r2, r3⟩ := run_append_vec_src (P := P) t tx o.type e i h1 h2 h3 h4 h5 hv hn hx b1
 unfold Oper.wp
 simp [execOp, hop, resolve, invoke, builtin, hs, hxv, hrun, Result.andThen]
 exact hK' _ _ (hK v' w' r1 r2 r3)
theorem wpList_append_vec_zeros (hgd : o.guard = none) (s x : Operand) (t tn : TypeId) (hop : o.op = Op.call { callee := Callee.builtin Builtin.append, args := #[s, x], argTypes := #[t, tn] })
 (e : TypeId) (i : TypeInfo) (kq kn : IntKind) (h1 : P.underlying t = some (.slice e)) (htn : P.underlying tn = some (.int kn)) (h2 : P.info? e = some i) (h3 : i.zero = some (.int .u8 0)) (h4 : i.size = 1) (h5 : i.bytes = 1)
 (v : Value) (n : Nat) (xs : List Value) (hs : a.eval s = v) (hv : Vec w 1 v n xs) (hn : 0 < n) (k : Nat) (hxv : a.eval x = .int kq k) (hk : 0 < k) (b1 : n + k ≤ 100000)
 (hK : ∀ v' w', Vec w' 1 v' (n + k) (xs ++ List.replicate k (.int .u8 0)) → Only (fun k => v.ownBlock = some k) w w' → (v'.ownBlock = v.ownBlock ∨ ∃ g, v'.ownBlock = some g ∧ w.heap.size ≤ g ∧ g < w'.heap.size) → wpList P ops Q rest (a.put o.dst v') w') :
 wpList P ops Q (o :: rest) a w := by
 refine wpList_plain hgd fun K hK' => ?_
 obtain ⟨v', w', hrun, r1, r2, r3⟩ := run_append_vec_zeros (P := P) t tn o.type e i kq kn h1 htn h2 h3 h4 h5 hv hn k hk b1
 unfold Oper.wp
 simp [execOp, hop, resolve, invoke, builtin, hs, hxv, hrun, Result.andThen]
 exact hK' _ _ (hK v' w' r1 r2 r3)
end

def txt (s : ByteArray) : List Int := s.data.toList.map fun b => (b.toNat : Int)
def padB (s : ByteArray) (k : Nat) : List Int := ((s.size : Int) :: txt s) ++ List.replicate (k - s.size) 0
theorem txt_length (s : ByteArray) : (txt s).length = s.size := by
 unfold txt
 rw [List.length_map, Array.length_toList]
 rfl
theorem txt_cells (s : ByteArray) : byteCells s = bc (txt s) := by
 unfold byteCells bc txt
 rw [List.map_map]
 rfl
set_option maxHeartbeats 400000 in
set_option maxRecDepth 10000 in
theorem pad_any (w : World) (s : ByteArray) (m k : Nat) (hs : s.size = m) (hmk : m < k) (hk : k ≤ 100) :
 Calls Tryz.prog 91 #[.string s, .int .i64 (k : Int)] w (FreshPost w 1 (k + 1) (bc (padB s k))) := by
 obtain ⟨i0, hi, hz0, hz1, hz2⟩ := info_parts info_b
 have HI := Lib.hid (And.intro hi (And.intro hz0 (And.intro hz1 hz2)))
 obtain ⟨N, hN⟩ : ∃ N, k - m = N := ⟨_, rfl⟩
 have HB := Lib.hid (And.intro hs (And.intro hmk (And.intro hk hN)))
 have hwr : IntKind.u8.wrap (m : Int) = (m : Int) := by rw [IntKind.wrap_u8]; omega
 have hwr2 : IntKind.i64.wrap ((k : Int) - (m : Int)) = (N : Int) := by rw [IntKind.wrap_i64]; omega
 clear hi hz0 hz1 hz2 hmk hk hN
 go_enter Tryz.func91, Tryz.ntmps91
 have HV := Lib.hid (show Vec (w.alloc (.cells #[.int .u8 (m : Int)] 5)) 1 (.slice (some ⟨w.heap.size, 0, none⟩) 1 1) 1 [.int .u8 (m : Int)] from vec_block (t := 5) (cs := #[.int .u8 (m : Int)]) (heap_alloc_new _ _) rfl (by decide))
 have HSR := Lib.hid (fun w => Src.ofString (P := Tryz.prog) (w := w) (tx := 9) Tryz.underlying9 s)
 go_wp2_with (at_builtin; first
  | (refine wpList_append_vec_src rfl _ _ 23 9 rfl 5 i0 Tryz.underlying23 HI.out.1 HI.out.2.1 HI.out.2.2.1 HI.out.2.2.2 (.slice (some ⟨w.heap.size, 0, none⟩) 1 1) 1 [.int .u8 (m : Int)] rfl HV.out (by decide) (.string s) m (byteCells s) rfl (by have := HSR.out; rw [HB.out.1] at this; exact this _) (by have := HB.out; omega) ?_; intro v1 w1 hv1 ho1 hb1; have HV1 := Lib.hid (And.intro hv1 (And.intro ho1 hb1)); clear hv1 ho1 hb1)
  | (refine wpList_append_vec_zeros rfl _ _ 23 3 rfl 5 i0 .i64 .i64 Tryz.underlying23 Tryz.underlying3 HI.out.1 HI.out.2.1 HI.out.2.2.1 HI.out.2.2.2 v1 (1 + m) ([.int .u8 (m : Int)] ++ byteCells s) rfl HV1.out.1 (by omega) N rfl (by have := HB.out; omega) (by have := HB.out; omega) ?_; intro v2 w2 hv2 ho2 hb2; have HV2 := Lib.hid (And.intro hv2 (And.intro ho2 hb2)); clear hv2 ho2 hb2))
 have F := Lib.hid (show FreshPost w 1 (k + 1) (bc (padB s k)) (.returned v2) w2 from by
  obtain ⟨hv1, ho1, hb1⟩ := HV1.out
  obtain ⟨hv2, ho2, hb2⟩ := HV2.out
  obtain ⟨h1, h2, h3, h4⟩ := HB.out
  have e : bc (padB s k) = [.int .u8 (m : Int)] ++ byteCells s ++ List.replicate N (.int .u8 0) := by
   unfold padB
   rw [bc_append, txt_cells, h1, h4]
   simp [bc]
  have hz : (w.alloc (.cells #[.int .u8 (m : Int)] 5)).heap.size = w.heap.size + 1 := by simp
  have ob : (Value.slice (some ⟨w.heap.size, 0, none⟩) 1 1).ownBlock = some w.heap.size := rfl
  have b1 : ∀ g, v1.ownBlock = some g → w.heap.size ≤ g ∧ g < w1.heap.size := fun g hg => by
   have := ho1.size
   rcases hb1 with hb | ⟨g', hb, h4, h5⟩
   · rw [hb, ob] at hg
     cases hg
     omega
   · rw [hb] at hg
     cases hg
     omega
  refine ⟨_, rfl, ?_, ?_, fun g hg => ?_⟩
  · rw [e, show k + 1 = 1 + m + N by omega]
    exact hv2
  · exact (((Below.refl w.heap.size w).alloc (Nat.le_refl _) _).trans (ho1.below (by omega) fun i hi hx => by rw [ob] at hx; cases hx; omega)).trans (ho2.below (by have := ho1.size; omega) fun i hi hx => by have := (b1 i hx).1; omega)
  · have := ho2.size
    rcases hb2 with hb | ⟨g', hb, h4, h5⟩
    · rw [hb] at hg
      have := b1 g hg
      omega
    · rw [hb] at hg
      cases hg
      have := ho1.size
      omega)
 clear HV1 HV2 HV HSR HI
 go_wp2_with fail
 go_ret
 exact F.out
end Go.Proofs.YtojkggppcmdepaaGreat

namespace Go.Proofs.YtojkggppcmdepaaGreat
open Go.RowKit Go.Wh Go.Maps

theorem step_append_vec {P : Program} {ops : Array Oper} {o : Oper} {a : Act} {w : World} {K : Act → World → Prop} {Q : Exit → Act → World → Prop} {E : Prop}
 (hg : o.guard = none) (s x : Operand) (t : TypeId) (hop : o.op = Op.call { callee := Callee.builtin Builtin.append, args := #[s, x], argTypes := #[t, t] })
 (e : TypeId) (i : TypeInfo) (z : Value) (size bytes : Nat) (h1 : P.underlying t = some (.slice e)) (h2 : P.info? e = some i) (h3 : i.zero = some z) (h4 : i.size = size) (h5 : i.bytes = bytes) (h6 : z.cells.size = size) (h7 : 0 < size)
 (v : Value) (n : Nat) (xs : List Value) (hs : a.eval s = v) (hv : Vec w size v n xs) (vx : Value) (m : Nat) (news : List Value) (hxv : a.eval x = vx) (hx : Reads w size vx m news) (h1c : ∀ u ∈ news, u.oneCell' = true) (b1 : n + m ≤ maxLen) (b2 : (n + m) * bytes ≤ 140737488355328)
 (hK : ∀ v' w', Vec w' size v' (n + m) (xs ++ news) → Only (fun k => v.ownBlock = some k) w w' → (v'.ownBlock = v.ownBlock ∨ ∃ g, v'.ownBlock = some g ∧ w.heap.size ≤ g ∧ g < w'.heap.size) → K (a.put o.dst v') w') :
 if Region.wanted o (yielded ops a.tmps) = true then Oper.wp P o a w K Q else E := by
 obtain ⟨v', w', hrun, r1, r2, r3⟩ := run_append_vec (P := P) t o.type e i z size bytes h1 h2 h3 h4 h5 h6 h7 hv hx h1c b1 b2
 exact step_append_run hg s x t t hop v vx hs hxv hrun (hK _ _ r1 r2 r3)

theorem Still.of {w w' : World} (h : Below w.heap.size w w') : Still w w' := ⟨h.os, h.tape, h.output, h.size, fun i hi _ => h.block i hi⟩
theorem append_fresh {a w w' : World} {v v' : Value} (hs : Still a w) (hf : ∀ g, v.ownBlock = some g → a.heap.size ≤ g ∧ g < w.heap.size) (ho : Only (fun k => v.ownBlock = some k) w w') (hb : v'.ownBlock = v.ownBlock ∨ ∃ g, v'.ownBlock = some g ∧ w.heap.size ≤ g ∧ g < w'.heap.size) :
 Still a w' ∧ ∀ g, v'.ownBlock = some g → a.heap.size ≤ g ∧ g < w'.heap.size := by
 have hz := ho.size
 have ha := hs.size
 refine ⟨hs.andThen ho fun i hi e => by have := (hf i e).1; omega, fun g hg => ?_⟩
 rcases hb with e | ⟨g', e, h1, h2⟩
 · rw [e] at hg
   have := hf g hg
   omega
 · rw [e] at hg
   cases hg
   omega
theorem padB_length {s : ByteArray} {k : Nat} (h : s.size ≤ k) : (padB s k).length = k + 1 := by
 unfold padB
 rw [List.length_append, List.length_cons, txt_length, List.length_replicate]
 omega

set_option maxHeartbeats 400000 in
set_option maxRecDepth 10000 in
theorem rmay_any (w : World) (key sec val : ByteArray) (a b c : Nat) (ha : key.size = a) (hb : sec.size = b) (hc : val.size = c) (h1 : 1 ≤ a) (h2 : a < 8) (h3 : b < 6) (h4 : c < 8) :
 Calls Tryz.prog 90 #[.agg #[.string key, .string sec, .string val]] w (StPost w (.bool true)) := by
 have F := Lib.hid (show StPost w (.bool true) (.returned (.bool true)) (w.alloc (.cells #[.string key, .string sec, .string val] 100)) from ⟨rfl, (Still.refl w).alloc _⟩)
 have d1 : decide ((a : Int) ≥ 1) = true := decide_eq_true (by omega)
 have d2 : decide ((a : Int) ≤ 8) = true := decide_eq_true (by omega)
 have d3 : decide ((b : Int) ≤ 6) = true := decide_eq_true (by omega)
 have d4 : decide ((c : Int) ≤ 8) = true := decide_eq_true (by omega)
 have e1 : (1 : Int) ≤ (a : Int) := by omega
 have e2 : (a : Int) ≤ 8 := by omega
 have e3 : (b : Int) ≤ 6 := by omega
 have e4 : (c : Int) ≤ 8 := by omega
 have e5 : a ≤ 8 := by omega
 have e6 : b ≤ 6 := by omega
 have e7 : c ≤ 8 := by omega
 clear h2 h3 h4
 go_enter Tryz.func90, Tryz.ntmps90
 go_wp2_with fail
 go_ret
 exact F.out

def rowB (key sec val : ByteArray) : List Int := 1 :: (padB key 8 ++ padB sec 6 ++ padB val 8)
def RowPost (w : World) (l : List Int) (en : Ending) (w' : World) : Prop :=
 ∃ v, en = .returned (.tuple #[v, .int .i64 0]) ∧ Vec w' 1 v 26 (bc l) ∧ Below w.heap.size w w' ∧ ∀ g, v.ownBlock = some g → w.heap.size ≤ g ∧ g < w'.heap.size

set_option maxHeartbeats 1000000 in
set_option maxRecDepth 10000 in
theorem row_any (w : World) (key sec val : ByteArray) (a b c : Nat) (ha : key.size = a) (hb : sec.size = b) (hc : val.size = c) (h1 : 1 ≤ a) (h2 : a < 8) (h3 : b < 6) (h4 : c < 8) :
 Calls Tryz.prog 53 #[.agg #[.string key, .string sec, .string val]] w (RowPost w (rowB key sec val)) := by
 obtain ⟨i0, hi, hz0, hz1, hz2⟩ := info_parts info_b
 have HI := Lib.hid (And.intro hi (And.intro hz0 (And.intro hz1 hz2)))
 have HM := Lib.hid (fun w' => rmay_any w' key sec val a b c ha hb hc h1 h2 h3 h4)
 have HP1 := Lib.hid (fun w' => show Calls Tryz.prog 91 #[.string key, .int .i64 8] w' (FreshPost w' 1 9 (bc (padB key 8))) from pad_any w' key a 8 ha h2 (by decide))
 have HP2 := Lib.hid (fun w' => show Calls Tryz.prog 91 #[.string sec, .int .i64 6] w' (FreshPost w' 1 7 (bc (padB sec 6))) from pad_any w' sec b 6 hb h3 (by decide))
 have HP3 := Lib.hid (fun w' => show Calls Tryz.prog 91 #[.string val, .int .i64 8] w' (FreshPost w' 1 9 (bc (padB val 8))) from pad_any w' val c 8 hc h4 (by decide))
 have S0 := Lib.hid (show Below w.heap.size w (w.alloc (.cells #[.string key, .string sec, .string val] 100)) from (Below.refl _ _).alloc (Nat.le_refl _) _)
 have HC0 := Lib.hid (cellsAt_new w [.string key, .string sec, .string val] 100)
 have hsz := show (w.alloc (.cells #[.string key, .string sec, .string val] 100)).heap.size = w.heap.size + 1 by simp
 clear hi hz0 hz1 hz2 ha hb hc h1 h2 h3 h4
 go_enter Tryz.func53, Tryz.ntmps53
 go_upto_region 1 with fail
 generalize (w.alloc (.cells #[.string key, .string sec, .string val] 100)) = w1 at *
 have HSZ := Lib.hid hsz
 clear hsz
 have q0 : w1.cell? ⟨w.heap.size, 0, none⟩ = some (.string key) := HC0.out.cell 0
 have q1 : w1.cell? ⟨w.heap.size, 1, none⟩ = some (.string sec) := HC0.out.cell 1
 have q2 : w1.cell? ⟨w.heap.size, 2, none⟩ = some (.string val) := HC0.out.cell 2
 go_wp2_with (first
  | (go_at_call 90; refine (HM.out _).mono ?_; rintro e w2 ⟨rfl, hs2⟩; (have p0 := Still.cell hs2 q0); (have p1 := Still.cell hs2 q1); (have p2 := Still.cell hs2 q2); have HS2 := Lib.hid hs2; clear hs2 q0 q1 q2; have HA := Lib.hid (show Vec (w2.alloc (.cells #[.int .u8 1] 5)) 1 (.slice (some ⟨w2.heap.size, 0, none⟩) 1 1) 1 [.int .u8 1] from vec_block (t := 5) (cs := #[.int .u8 1]) (heap_alloc_new _ _) rfl (by decide)); have SA := Lib.hid (show Still w2 (w2.alloc (.cells #[.int .u8 1] 5)) from (Still.refl _).alloc _); have ZA := Lib.hid (show (w2.alloc (.cells #[.int .u8 1] 5)).heap.size = w2.heap.size + 1 by simp); have p0' := Still.cell SA.out p0)
  | (go_at_call 91; (with_reducible refine (HP1.out _).mono ?_); rintro e w4 ⟨v4, rfl, hv4, hb4, hg4⟩; have HV4 := Lib.hid (And.intro hv4 (HA.out.belowAll hb4)); have hs4 := SA.out.trans (Still.of hb4); have HS4 := Lib.hid (And.intro hs4 hb4.size); clear hv4 hb4 hg4 hs4)
  | (at_builtin; refine wpList_append_vec rfl _ _ 23 rfl 5 i0 _ 1 1 Tryz.underlying23 HI.out.1 HI.out.2.1 HI.out.2.2.1 HI.out.2.2.2 rfl (by decide) (.slice (some ⟨w2.heap.size, 0, none⟩) 1 1) 1 [.int .u8 1] rfl HV4.out.2 v4 9 (bc (padB key 8)) rfl HV4.out.1.reads (bc_one _) (by decide) (by decide) ?_; intro v5 w5 hv5 ho5 hb5; have AF5 := append_fresh HS4.out.1 (fun g hg => by have e : w2.heap.size = g := Option.some.inj hg; have := HS4.out.2; have := ZA.out; omega) ho5 hb5; have HV5 := Lib.hid (And.intro hv5 AF5); clear hv5 ho5 hb5 AF5))
 have hs5 := HV5.out.2.1
 have HBX := Lib.hid (fun w' (hs : Still w2 w') => show Still w2 w' ∧ w'.cell? ⟨w.heap.size, 1, none⟩ = some (.string sec) ∧ w'.cell? ⟨w.heap.size, 2, none⟩ = some (.string val) from ⟨hs, Still.cell hs p1, Still.cell hs p2⟩)
 clear p0 p1 p2 p0'
 go_region_held3 (fun w' => Still w2 w' ∧ w'.cell? ⟨w.heap.size, 1, none⟩ = some (.string sec) ∧ w'.cell? ⟨w.heap.size, 2, none⟩ = some (.string val)) (first | exact HBX.out _ (by assumption) | exact HBX.out _ (Only.drew (by assumption)))
  (first
   | (go_at_call 91; (with_reducible refine (HP2.out _).mono ?_); rintro e w6 ⟨v6, rfl, hv6, hb6, hg6⟩; have hs6 : Still w2 w6 := HV5.out.2.1.drew.trans (Still.of hb6); have HV6 := Lib.hid (And.intro hv6 (And.intro (show Vec w6 1 v5 (1 + 9) ([.int .u8 1] ++ bc (padB key 8)) from HV5.out.1.drew.belowAll hb6) (show ∀ g, v5.ownBlock = some g → w2.heap.size ≤ g ∧ g < w6.heap.size from fun g hg => by have h1 := HV5.out.2.2 g hg; have h2 : w5.heap.size ≤ w6.heap.size := hb6.size; omega))); clear hv6 hb6 hg6)
   | (refine step_append_vec rfl _ _ 23 rfl 5 i0 _ 1 1 Tryz.underlying23 HI.out.1 HI.out.2.1 HI.out.2.2.1 HI.out.2.2.2 rfl (by decide) v5 (1 + 9) ([.int .u8 1] ++ bc (padB key 8)) (by simp [Act.eval]) HV6.out.2.1 v6 7 (bc (padB sec 6)) (by simp [Act.eval]) HV6.out.1.reads (bc_one _) (by decide) (by decide) ?_; intro v7 w7 hv7 ho7 hb7; have AF7 := append_fresh hs6 HV6.out.2.2 ho7 hb7; have hs7 := AF7.1; have HV7 := Lib.hid (And.intro hv7 AF7); clear hv7 ho7 hb7 AF7)
   | (go_at_call 91; (with_reducible refine (HP3.out _).mono ?_); rintro e w8 ⟨v8, rfl, hv8, hb8, hg8⟩; have hs8 : Still w2 w8 := HV7.out.2.1.trans (Still.of hb8); have HV8 := Lib.hid (And.intro hv8 (And.intro (show Vec w8 1 v7 (1 + 9 + 7) ([.int .u8 1] ++ bc (padB key 8) ++ bc (padB sec 6)) from HV7.out.1.belowAll hb8) (show ∀ g, v7.ownBlock = some g → w2.heap.size ≤ g ∧ g < w8.heap.size from fun g hg => by have h1 := HV7.out.2.2 g hg; have h2 : w7.heap.size ≤ w8.heap.size := hb8.size; omega))); clear hv8 hb8 hg8)
   | (refine step_append_vec rfl _ _ 23 rfl 5 i0 _ 1 1 Tryz.underlying23 HI.out.1 HI.out.2.1 HI.out.2.2.1 HI.out.2.2.2 rfl (by decide) v7 (1 + 9 + 7) ([.int .u8 1] ++ bc (padB key 8) ++ bc (padB sec 6)) (by simp [Act.eval]) HV8.out.2.1 v8 9 (bc (padB val 8)) (by simp [Act.eval]) HV8.out.1.reads (bc_one _) (by decide) (by decide) ?_; intro v9 w9 hv9 ho9 hb9; have AF9 := append_fresh hs8 HV8.out.2.2 ho9 hb9; have hs9 := AF9.1; have HV9 := Lib.hid (And.intro hv9 AF9); clear hv9 ho9 hb9 AF9))
 have F := Lib.hid (show RowPost w (rowB key sec val) (.returned (.tuple #[v9, .int .i64 0])) w9 from by
  obtain ⟨h1, h2, h3⟩ := HV9.out
  have hz := HSZ.out
  have hz2 := HS2.out.size
  refine ⟨_, rfl, ?_, S0.out.trans (Only.below (HS2.out.trans h2) (by omega) fun _ _ e => e), fun g hg => ⟨by have := (h3 g hg).1; omega, (h3 g hg).2⟩⟩
  have e : bc (rowB key sec val) = [.int .u8 1] ++ bc (padB key 8) ++ bc (padB sec 6) ++ bc (padB val 8) := by
   unfold rowB
   rw [show (1 : Int) :: (padB key 8 ++ padB sec 6 ++ padB val 8) = [1] ++ (padB key 8 ++ padB sec 6 ++ padB val 8) from rfl, bc_append, bc_append, bc_append, List.append_assoc, List.append_assoc, List.append_assoc]
   rfl
  rw [e]
  exact h1)
 clear HV5 HV6 HV7 HV8 HV9 HBX hs5 hs6 hs7 hs8 hs9 HS2 S0 HC0 HP1 HP2 HP3 HM HA SA ZA HV4 HS4
 go_wp2_with fail
 go_ret2
 exact F.out
end Go.Proofs.YtojkggppcmdepaaGreat

namespace Go.Proofs.YtojkggppcmdepaaGreat
open Go.RowKit Go.Wh Go.Maps

theorem fr_nums {p : Int} (h : 0 ≤ p ∧ p ≤ 255) : IntKind.i64.wrap p = p ∧ wrap64 p = p ∧ IntKind.u8.wrap p = p ∧ p % 256 = p :=
 ⟨IntWalk.i64_in _ (by omega), IntWalk.wrap64_in _ (by omega), IntWalk.u8_in _ (by omega), by omega⟩
theorem fr_len (n : Nat) (h : n ≤ 8000) : 2 + n ≤ maxLen ∧ (2 + n) * 1 ≤ 140737488355328 ∧ 2 + n + 2 ≤ maxLen ∧ (2 + n + 2) * 1 ≤ 140737488355328 := by
 simp only [maxLen]
 omega
theorem cellsAt.vec1 {w : World} {r n : Nat} {l : List Value} (h : cellsAt w r l) (hl : l.length = n) (hn : n ≤ maxLen) : Vec w 1 (.slice (some ⟨r, 0, none⟩) n n) n l := by
 obtain ⟨t, h⟩ := h
 have := vec_block (size := 1) (n := n) h (by simp; omega) hn
 simpa using this
set_option maxHeartbeats 4000000 in
set_option maxRecDepth 100000 in
theorem rframe_yes (w : World) (Q : Nat → Prop) (e : PE) (ov nv mv lv dv pv : Value) (h : EIs w Q e ov nv mv lv dv pv) (hm : e.may = true) : Calls Tryz.prog 9 #[.agg (eV e ov nv mv lv dv pv)] w (FreshPost w 1 (frameB e).length (bc (frameB e))) := by
 have hby := encB_byt e h.bo h.bn
 obtain ⟨oa, oc, na, nc, ma, mc, la, lc, da, dc, pa, pc, rfl, rfl, rfl, rfl, rfl, rfl⟩ := h.forms
 unfold eV
 have hst : Still w (w.alloc (.cells #[.int .i64 e.kind, .int .i64 e.txn, .int .i64 e.unit, .int .i64 e.half, .int .i64 e.prev, .int .i64 e.next, .int .i64 e.ap, .int .i64 e.ac, .int .i64 e.tp, .int .i64 e.tc, .slice oa e.old.length oc, .slice na e.new.length nc, .slice ma e.moves.length mc, .slice la e.lives.length lc, .slice da e.dirty.length dc, .slice pa e.opens.length pc] 34)) := (Still.refl w).alloc _
 have HPU := Lib.hid (rput_yes _ Q e _ _ _ _ _ _ (h.still hst) hm)
 unfold eV at HPU
 have HST := Lib.hid hst
 have hle := encB_le e hm
 have hfl := frameB_length e
 have hfe : frameB e = [((encB e).length : Int) / 256, ((encB e).length : Int) % 256] ++ encB e ++ [(sumB (encB e) (0, 0)).1, (sumB (encB e) (0, 0)).2] := by
  unfold frameB chkB
  rw [numsB2]
  congr 3
  omega
 have hsr := sumB_range (encB e) (0, 0) (by decide) (by decide)
 rw [hfl, hfe]
 generalize encB e = b at *
 obtain ⟨n, hn⟩ : ∃ n, b.length = n := ⟨_, rfl⟩
 rw [hn] at HPU hle ⊢
 obtain ⟨x, hx⟩ : ∃ x, (sumB b (0, 0)).1 = x := ⟨_, rfl⟩
 obtain ⟨y, hy⟩ : ∃ y, (sumB b (0, 0)).2 = y := ⟨_, rfl⟩
 have HSM := Lib.hid (fun w' a c (hsl : Sl w' (fun _ => True) 1 (.slice a n c) n (bc b)) => rsums w' (fun _ => True) a n c b hsl hby (by omega))
 rw [hx, hy] at hsr HSM ⊢
 have HX := Lib.hid (fr_nums (p := x) (by omega))
 have HY := Lib.hid (fr_nums (p := y) (by omega))
 have HP0 := Lib.hid (fr_nums (p := (n : Int) / 256) (by omega))
 have HQ0 := Lib.hid (fr_nums (p := (n : Int) % 256) (by omega))
 have HT := Lib.hid (show (n : Int).tdiv 256 = (n : Int) / 256 ∧ (n : Int).tmod 256 = (n : Int) % 256 from ⟨Int.tdiv_eq_ediv_of_nonneg (by omega), Int.tmod_eq_emod_of_nonneg (by omega)⟩)
 have hd0 : ((n : Int) == 0) = false ∧ (n == 0) = false := ⟨by simp; omega, by simp; omega⟩
 have HD0 := Lib.hid hd0
 obtain ⟨i0, hi0, hz0, hz1, hz2⟩ := info_parts info_b
 have HI := Lib.hid (And.intro hi0 (And.intro hz0 (And.intro hz1 hz2)))
 have HN := Lib.hid (And.intro hle hn)
 have HBY := Lib.hid hby
 obtain ⟨p, hp⟩ : ∃ p, (n : Int) / 256 = p := ⟨_, rfl⟩
 obtain ⟨q, hq⟩ : ∃ q, (n : Int) % 256 = q := ⟨_, rfl⟩
 rw [hp] at HT HP0 ⊢
 rw [hq] at HT HQ0 ⊢
 clear h hm hst hby hle hfl hfe hsr hn hx hy hi0 hz0 hz1 hz2 hp hq hd0
 have t1 := HT.out.1
 have t2 := HT.out.2
 obtain ⟨u1, u2, u3, u4⟩ := HP0.out
 obtain ⟨v1, v2, v3, v4⟩ := HQ0.out
 obtain ⟨x1, x2, x3, x4⟩ := HX.out
 obtain ⟨y1, y2, y3, y4⟩ := HY.out
 obtain ⟨d0, d1⟩ := HD0.out
 have HL1 := Lib.hid (show 2 + n ≤ maxLen ∧ (2 + n) * 1 ≤ 140737488355328 ∧ 2 + n + 2 ≤ maxLen ∧ (2 + n + 2) * 1 ≤ 140737488355328 from fr_len n HN.out.1.2)
 go_enter Tryz.func9, Tryz.ntmps9
 go_wp2_with fail
 refine HPU.out.mono ?_
 rintro en w2 ⟨pv, rfl, hpv, hpb, hpo⟩
 obtain ⟨pa', pc', rfl⟩ := hpv.form'
 have HP := Lib.hid (And.intro hpv (And.intro (HST.out.trans (Only.ofBelow hpb)) (fun g hg => hpo g hg)))
 have HS2 := Lib.hid (HSM.out w2 pa' pc' (Vec.sl0 hpv (by omega)))
 clear hpv hpb hpo HPU HSM
 go_wp2_with fail
 refine HS2.out.mono ?_
 rintro en w3 ⟨rfl, rfl⟩
 have HA1 := Lib.hid (fun tt => cellsAt_new w3 (bc [p, q]) tt)
 have HP1 := Lib.hid (fun ob => Reads.still HP.out.1.reads ((Still.refl w3).alloc ob))
 go_wp2_with (at_builtin; first
  | (refine wpList_append_vec rfl _ _ 23 rfl 5 i0 _ 1 1 Tryz.underlying23 HI.out.1 HI.out.2.1 HI.out.2.2.1 HI.out.2.2.2 rfl (by decide) (.slice (some ⟨w3.heap.size, 0, none⟩) 2 2) 2 (bc [p, q]) (by simp [Act.eval]) (cellsAt.vec1 (HA1.out _) rfl (by decide)) (.slice pa' n pc') n (bc b) (by simp [Act.eval]) (HP1.out _) (bc_one _) HL1.out.1 HL1.out.2.1 ?_; intro v4 w4 hv4 ho4 hb4; obtain ⟨va4, vc4, rfl⟩ := hv4.form'; have H4 := Lib.hid (And.intro hv4 (And.intro ho4 hb4)); clear hv4 ho4 hb4; have HA2 := Lib.hid (fun tt => cellsAt_new w4 (bc [x, y]) tt))
  | (refine wpList_append_vec rfl _ _ 23 rfl 5 i0 _ 1 1 Tryz.underlying23 HI.out.1 HI.out.2.1 HI.out.2.2.1 HI.out.2.2.2 rfl (by decide) (.slice va4 (2 + n) vc4) (2 + n) (bc [p, q] ++ bc b) (by simp [Act.eval]) (H4.out.1.alloc _) (.slice (some ⟨w4.heap.size, 0, none⟩) 2 2) 2 (bc [x, y]) (by simp [Act.eval]) (cellsAt.reads (HA2.out _) rfl) (bc_one _) HL1.out.2.2.1 HL1.out.2.2.2 ?_; intro v5 w5 hv5 ho5 hb5; obtain ⟨va5, vc5, rfl⟩ := hv5.form'; have H5 := Lib.hid (And.intro hv5 (And.intro ho5 hb5)); clear hv5 ho5 hb5))
 clear t1 t2 u1 u2 u3 u4 v1 v2 v3 v4 x1 x2 x3 x4 y1 y2 y3 y4 d0 d1
 have F := Lib.hid (show FreshPost w 1 (4 + n) (bc ([p, q] ++ b ++ [x, y])) (.returned (.slice va5 (2 + n + 2) vc5)) w5 from by
  obtain ⟨hv4, ho4, hb4⟩ := H4.out
  obtain ⟨hv5, ho5, hb5⟩ := H5.out
  have hs3 := HP.out.2.1
  have g4 := append_fresh (a := w) (hs3.alloc _) (fun g hg => by have e' : w3.heap.size = g := Option.some.inj hg; have := hs3.size; simp; omega) ho4 hb4
  have g5 := append_fresh (a := w) (g4.1.alloc _) (fun g hg => ⟨(g4.2 g hg).1, by have := (g4.2 g hg).2; simp; omega⟩) ho5 hb5
  refine ⟨_, rfl, ?_, g5.1.below (Nat.le_refl _) (fun i hi e => e), g5.2⟩
  rw [show 4 + n = 2 + n + 2 by omega, bc_append, bc_append]
  exact hv5)
 rw [show 4 + n = 2 + n + 2 by omega] at F ⊢
 clear H4 H5
 go_wp2_with fail
 go_ret
 exact F.out
set_option maxHeartbeats 1000000 in
set_option maxRecDepth 100000 in
theorem rframe_no (w : World) (Q : Nat → Prop) (e : PE) (ov nv mv lv dv pv : Value) (h : EIs w Q e ov nv mv lv dv pv) (hm : e.may = false) : Calls Tryz.prog 9 #[.agg (eV e ov nv mv lv dv pv)] w (FreshPost w 1 0 []) := by
 obtain ⟨oa, oc, na, nc, ma, mc, la, lc, da, dc, pa, pc, rfl, rfl, rfl, rfl, rfl, rfl⟩ := h.forms
 unfold eV
 have hst : Still w (w.alloc (.cells #[.int .i64 e.kind, .int .i64 e.txn, .int .i64 e.unit, .int .i64 e.half, .int .i64 e.prev, .int .i64 e.next, .int .i64 e.ap, .int .i64 e.ac, .int .i64 e.tp, .int .i64 e.tc, .slice oa e.old.length oc, .slice na e.new.length nc, .slice ma e.moves.length mc, .slice la e.lives.length lc, .slice da e.dirty.length dc, .slice pa e.opens.length pc] 34)) := (Still.refl w).alloc _
 have HPU := Lib.hid (rput_no _ Q e _ _ _ _ _ _ (h.still hst) hm)
 unfold eV at HPU
 have F := Lib.hid (fun w' (hs : Still (w.alloc (.cells #[.int .i64 e.kind, .int .i64 e.txn, .int .i64 e.unit, .int .i64 e.half, .int .i64 e.prev, .int .i64 e.next, .int .i64 e.ap, .int .i64 e.ac, .int .i64 e.tp, .int .i64 e.tc, .slice oa e.old.length oc, .slice na e.new.length nc, .slice ma e.moves.length mc, .slice la e.lives.length lc, .slice da e.dirty.length dc, .slice pa e.opens.length pc] 34)) w') => show FreshPost w 1 0 [] (.returned (.slice none 0 0)) w' from ⟨_, rfl, Vec.nil _ _, (hst.trans hs).below (Nat.le_refl _) (fun _ _ e => e), fun g hg => by cases hg⟩)
 clear h hm hst
 go_enter Tryz.func9, Tryz.ntmps9
 go_wp2_with fail
 refine HPU.out.mono ?_
 rintro en w2 ⟨pv, rfl, hpv, hpb, hpo⟩
 obtain ⟨pa', pc', rfl⟩ := hpv.form'
 have F2 := Lib.hid (F.out _ (Only.ofBelow hpb))
 clear hpv hpb hpo HPU F
 go_wp2_with fail
 go_ret
 exact F2.out
theorem rframe_any (w : World) (Q : Nat → Prop) (e : PE) (ov nv mv lv dv pv : Value) (h : EIs w Q e ov nv mv lv dv pv) : Calls Tryz.prog 9 #[.agg (eV e ov nv mv lv dv pv)] w (FreshPost w 1 (frB e).length (bc (frB e))) := by
 unfold frB
 cases hm : e.may with
 | true => exact rframe_yes w Q e ov nv mv lv dv pv h hm
 | false => exact rframe_no w Q e ov nv mv lv dv pv h hm
end Go.Proofs.YtojkggppcmdepaaGreat

namespace Go.Proofs.YtojkggppcmdepaaGreat
open Go.RowKit Go.Wh Go.Maps

def raX (c m k : Nat) (Lc ec Sc Fc : List Value) : ChS :=
 { I := [2, 7, 9, 10, 11, 16, 18], sz := fun j => if j < 11 then 16 else 1, n := fun j => if j = 7 then c else if j = 9 then 1 else if j = 10 then c + 1 else if j = 16 then m else if j = 18 then m + k else 0,
   cs := fun j => if j = 7 then Lc else if j = 9 then ec else if j = 10 then Lc ++ ec else if j = 16 then Sc else if j = 18 then Sc ++ Fc else [],
   use := fun j => if j = 2 then 7 else if j = 7 ∨ j = 9 then 10 else if j = 11 then 16 else if j = 16 then 18 else 999 }
theorem eV_one {w : World} {Q : Nat → Prop} {e : PE} {ov nv mv lv dv pv : Value} (h : EIs w Q e ov nv mv lv dv pv) : ∀ u ∈ (eV e ov nv mv lv dv pv).toList, u.oneCell' = true := by
 obtain ⟨oa, oc, na, nc, ma, mc, ka, kc, da, dc, va, vc, rfl, rfl, rfl, rfl, rfl, rfl⟩ := h.forms
 intro u hu
 unfold eV at hu
 simp only [List.mem_cons, List.not_mem_nil, or_false] at hu
 rcases hu with rfl | rfl | rfl | rfl | rfl | rfl | rfl | rfl | rfl | rfl | rfl | rfl | rfl | rfl | rfl | rfl <;> rfl
def RaYes (w : World) (t d at_ n : Nat) (S F : List Int) (c st : Nat) (en : Ending) (w' : World) : Prop :=
 ∃ lv av Lc, en = .returned (.tuple #[.int .i64 ((c + 1 : Nat) : Int), .int .i64 0]) ∧ RtAt (fun g => g = t ∨ w.heap.size ≤ g ∧ g < w'.heap.size) w' t d at_ n (S ++ F) lv av Lc (c + 1) st ∧ Only (fun g => g = t) w w'
def RaPost (w : World) (t d at_ n : Nat) (S F : List Int) (c st : Nat) (en : Ending) (w' : World) : Prop :=
 if F = [] then en = .returned (.tuple #[.int .i64 0, .int .i64 1]) ∧ Still w w' else if n * 63 < S.length + F.length then en = .returned (.tuple #[.int .i64 0, .int .i64 5]) ∧ Still w w' else RaYes w t d at_ n S F c st en w'
theorem RtAt.appended {B : Nat → Prop} {w w' : World} {t d at_ n c st : Nat} {S F : List Int} {lv av x y : Value} {Lc ec : List Value} (h : RtAt B w t d at_ n S lv av Lc c st) (hs : Still w w') (hx : Vec w' 16 x (c + 1) (Lc ++ ec)) (hy : Vec w' 1 y (S.length + F.length) (bc S ++ bc F)) (hF : Byt F) (he : ∀ u ∈ ec, u.oneCell' = true)
 (fx : ∀ g, x.ownBlock = some g → w.heap.size ≤ g ∧ g < w'.heap.size) (fy : ∀ g, y.ownBlock = some g → w.heap.size ≤ g ∧ g < w'.heap.size) :
 RtAt (fun g => g = t ∨ w.heap.size ≤ g ∧ g < ((w'.setCell ⟨t, 3, none⟩ x).setCell ⟨t, 4, none⟩ y).heap.size) ((w'.setCell ⟨t, 3, none⟩ x).setCell ⟨t, 4, none⟩ y) t d at_ n (S ++ F) x y (Lc ++ ec) (c + 1) st ∧ Only (fun g => g = t) w ((w'.setCell ⟨t, 3, none⟩ x).setCell ⟨t, 4, none⟩ y) := by
 have htl := h.cells.lt
 have hz : ((w'.setCell ⟨t, 3, none⟩ x).setCell ⟨t, 4, none⟩ y).heap.size = w'.heap.size := by simp [World.setCell]
 have ho : Only (fun g => g = t) w' ((w'.setCell ⟨t, 3, none⟩ x).setCell ⟨t, 4, none⟩ y) := (setCell_only w' ⟨t, 3, none⟩ x).trans (setCell_only _ ⟨t, 4, none⟩ y)
 have hc := h.cells.only hs fun e => e
 refine ⟨⟨(hc.setCell 3 _).setCell 4 _, Sl.only (Vec.sl hx fun g hg => ⟨⟨.inr ?_, ?_⟩, (fx g hg).2⟩) ho fun g hg e => hg.2 e, ?_, ?_, h.byt.append hF, .inl rfl, fun g hg => ?_⟩, (hs.mono fun _ e => e.elim).trans ho⟩
 · rw [hz]; exact fx g hg
 · have := (fx g hg).1; omega
 · intro u hu
   rcases List.mem_append.1 hu with hu | hu
   · exact h.one u hu
   · exact he u hu
 · rw [List.length_append, bc_append]
   refine Sl.only (Vec.sl hy fun g hg => ⟨⟨.inr ?_, ?_⟩, (fy g hg).2⟩) ho fun g hg e => hg.2 e
   · rw [hz]; exact fy g hg
   · have := (fy g hg).1; omega
 · rw [hz]
   have := hs.size
   rcases hg with rfl | hg
   · omega
   · rw [hz] at hg; exact hg.2
theorem RtAt.grow {B B' : Nat → Prop} {w : World} {t d at_ n c st : Nat} {S : List Int} {lv av : Value} {Lc : List Value} (h : RtAt B w t d at_ n S lv av Lc c st) (hb : ∀ g, B g → B' g) (hl : ∀ g, B' g → g < w.heap.size) : RtAt B' w t d at_ n S lv av Lc c st :=
 ⟨h.cells, h.l.mono fun g hg => ⟨hb g hg.1, hg.2⟩, h.one, h.a.mono fun g hg => ⟨hb g hg.1, hg.2⟩, h.byt, hb t h.bt, hl⟩
set_option maxHeartbeats 8000000 in
set_option maxRecDepth 100000 in
theorem rappend_at {B Q : Nat → Prop} (w : World) (t d at_ n : Nat) (S : List Int) (lv av : Value) (Lc : List Value) (c st : Nat) (e : PE) (ov nv mv kv dv pv : Value) (h : RtAt B w t d at_ n S lv av Lc c st) (he : EIs w Q e ov nv mv kv dv pv) (hn : n ≤ 2000) (hS : S.length ≤ 1000000) (hc : c ≤ 1000000) (hF : (frB e).length ≤ 1000000) (hFb : Byt (frB e)) :
 Calls Tryz.prog 18 #[.pointer (some ⟨t, 0, none⟩), .agg (eV e ov nv mv kv dv pv)] w (RaPost w t d at_ n S (frB e) c st) := by
 have H1 := Lib.hid (eV_one he)
 obtain ⟨oa, oc, na, nc, ma, mc, ka, kc, da, dc, va, vc, rfl, rfl, rfl, rfl, rfl, rfl⟩ := he.forms
 unfold eV at H1 ⊢
 obtain ⟨la, lc, rfl⟩ := h.l.form
 obtain ⟨aa, ac, rfl⟩ := h.a.form
 have hst : Still w (w.alloc (.cells #[.int .i64 e.kind, .int .i64 e.txn, .int .i64 e.unit, .int .i64 e.half, .int .i64 e.prev, .int .i64 e.next, .int .i64 e.ap, .int .i64 e.ac, .int .i64 e.tp, .int .i64 e.tc, .slice oa e.old.length oc, .slice na e.new.length nc, .slice ma e.moves.length mc, .slice ka e.lives.length kc, .slice da e.dirty.length dc, .slice va e.opens.length vc] 34)) := (Still.refl w).alloc _
 have hbx := cellsAt_new w (#[.int .i64 e.kind, .int .i64 e.txn, .int .i64 e.unit, .int .i64 e.half, .int .i64 e.prev, .int .i64 e.next, .int .i64 e.ap, .int .i64 e.ac, .int .i64 e.tp, .int .i64 e.tc, .slice oa e.old.length oc, .slice na e.new.length nc, .slice ma e.moves.length mc, .slice ka e.lives.length kc, .slice da e.dirty.length dc, .slice va e.opens.length vc] : Array Value).toList 34
 have HFR := Lib.hid (rframe_any _ Q e _ _ _ _ _ _ (he.still hst))
 unfold eV at HFR
 obtain ⟨F, hFe⟩ : ∃ F, frB e = F := ⟨_, rfl⟩
 rw [hFe] at HFR hF hFb ⊢
 have H := Lib.hid (And.intro h (And.intro hn (And.intro hS (And.intro hc (And.intro hF hFb)))))
 have HST := Lib.hid (And.intro hst hbx)
 clear h he hn hS hc hF hFb hFe hst hbx
 go_enter Tryz.func18, Tryz.ntmps18
 go_wp2_with fail
 refine HFR.out.mono ?_
 rintro en w2 ⟨fv, rfl, hfv, hfb, hfo⟩
 obtain ⟨fa, fc, rfl⟩ := hfv.form'
 obtain ⟨bx, hb⟩ : ∃ b, w.heap.size = b := ⟨_, rfl⟩
 rw [hb]
 have H2 := Lib.hid (And.intro hfv (And.intro (show Still w w2 from HST.out.1.trans (Only.ofBelow hfb)) (show cellsAt w2 bx (#[.int .i64 e.kind, .int .i64 e.txn, .int .i64 e.unit, .int .i64 e.half, .int .i64 e.prev, .int .i64 e.next, .int .i64 e.ap, .int .i64 e.ac, .int .i64 e.tp, .int .i64 e.tc, .slice oa e.old.length oc, .slice na e.new.length nc, .slice ma e.moves.length mc, .slice ka e.lives.length kc, .slice da e.dirty.length dc, .slice va e.opens.length vc] : Array Value).toList from hb ▸ HST.out.2.only (Only.ofBelow (S := fun _ => False) hfb) fun e => e)))
 have HLF := Lib.hid (rleft_any (H.out.1.still H2.out.2.1) H.out.2.1 H.out.2.2.1)
 have HBX := Lib.hid hb
 clear hfv hfb hfo HFR HST hb
 obtain ⟨k, hk⟩ : ∃ k, F.length = k := ⟨_, rfl⟩
 obtain ⟨m, hm⟩ : ∃ m, S.length = m := ⟨_, rfl⟩
 have HK := Lib.hid (And.intro hk hm)
 rw [hk] at H2 ⊢
 clear hk hm
 by_cases h0 : k = 0
 · have F0 := Lib.hid (show RaPost w t d at_ n S F c st (.returned (.tuple #[.int .i64 0, .int .i64 1])) w2 from by
    unfold RaPost
    rw [if_pos (List.eq_nil_of_length_eq_zero (by rw [HK.out.1, h0]))]
    exact ⟨rfl, H2.out.2.1⟩)
   subst h0
   go_wp2_with fail
   go_ret2
   exact F0.out
 have q1 : ((k : Int) == 0) = false := by simp; omega
 have q2 : ¬ (k : Int) = 0 := by omega
 have q3 : (k == 0) = false := by simp; omega
 have hne : ¬ F = [] := fun e => h0 (by rw [← HK.out.1, e]; rfl)
 have HNE := Lib.hid hne
 clear h0 hne
 obtain ⟨z, hz⟩ : ∃ z : Int, 63 * (n : Int) - (S.length : Int) = z := ⟨_, rfl⟩
 have HZ := Lib.hid hz
 rw [hz] at HLF
 clear hz
 go_wp2_with fail
 refine HLF.out.mono ?_
 rintro en w3 ⟨rfl, hs3⟩
 have HS3 := Lib.hid hs3
 clear hs3 HLF q1 q2 q3
 by_cases hfull : z < (k : Int)
 · have d1 : decide (z < (k : Int)) = true := decide_eq_true hfull
   have F0 := Lib.hid (show RaPost w t d at_ n S F c st (.returned (.tuple #[.int .i64 0, .int .i64 5])) w3 from by
    unfold RaPost
    rw [if_neg HNE.out, if_pos (by have := HZ.out; have := HK.out.1; omega)]
    exact ⟨rfl, H2.out.2.1.trans HS3.out⟩)
   go_wp2_with fail
   go_ret2
   exact F0.out
 have d1 : decide (z < (k : Int)) = false := decide_eq_false hfull
 have HFU := Lib.hid (show ¬ n * 63 < S.length + F.length from by have := HZ.out; have := HK.out.1; omega)
 have H3 := Lib.hid (And.intro (H.out.1.still (H2.out.2.1.trans HS3.out)) (H2.out.2.1.trans HS3.out))
 have HLN := Lib.hid (show c + 1 ≤ maxLen ∧ (c + 1) * 224 ≤ 140737488355328 ∧ m + k ≤ maxLen ∧ (m + k) * 1 ≤ 140737488355328 from by
  have := HK.out
  have := H.out.2.2
  simp only [maxLen]
  omega)
 have SS := Lib.hid (fun w' (hs : Still w3 w') => show w'.cell? ⟨t, 3, none⟩ = some (.slice la c lc) ∧ w'.cell? ⟨t, 4, none⟩ = some (.slice aa m ac) ∧ w'.frozen? ⟨t, 3, none⟩ = false ∧ w'.frozen? ⟨t, 4, none⟩ = false from by
  have := H3.out.1.still hs
  have c4 := this.cells.cell 4
  have c4' : w'.cell? ⟨t, 4, none⟩ = some (.slice aa S.length ac) := c4
  rw [HK.out.2] at c4'
  exact ⟨this.cells.cell 3, c4', this.cells.free 3, this.cells.free 4⟩)
 have SB := Lib.hid (fun w' (hs : Still w3 w') => show w'.cell? ⟨bx, 0, none⟩ = some (.int .i64 e.kind) ∧ w'.cell? ⟨bx, 1, none⟩ = some (.int .i64 e.txn) ∧ w'.cell? ⟨bx, 2, none⟩ = some (.int .i64 e.unit) ∧ w'.cell? ⟨bx, 3, none⟩ = some (.int .i64 e.half) ∧ w'.cell? ⟨bx, 4, none⟩ = some (.int .i64 e.prev) ∧ w'.cell? ⟨bx, 5, none⟩ = some (.int .i64 e.next) ∧ w'.cell? ⟨bx, 6, none⟩ = some (.int .i64 e.ap) ∧ w'.cell? ⟨bx, 7, none⟩ = some (.int .i64 e.ac) ∧ w'.cell? ⟨bx, 8, none⟩ = some (.int .i64 e.tp) ∧ w'.cell? ⟨bx, 9, none⟩ = some (.int .i64 e.tc) ∧ w'.cell? ⟨bx, 10, none⟩ = some (.slice oa e.old.length oc) ∧ w'.cell? ⟨bx, 11, none⟩ = some (.slice na e.new.length nc) ∧ w'.cell? ⟨bx, 12, none⟩ = some (.slice ma e.moves.length mc) ∧ w'.cell? ⟨bx, 13, none⟩ = some (.slice ka e.lives.length kc) ∧ w'.cell? ⟨bx, 14, none⟩ = some (.slice da e.dirty.length dc) ∧ w'.cell? ⟨bx, 15, none⟩ = some (.slice va e.opens.length vc) from by
  have hc := (H2.out.2.2.only HS3.out fun e => e).only hs fun e => e
  exact ⟨hc.cell 0, hc.cell 1, hc.cell 2, hc.cell 3, hc.cell 4, hc.cell 5, hc.cell 6, hc.cell 7, hc.cell 8, hc.cell 9, hc.cell 10, hc.cell 11, hc.cell 12, hc.cell 13, hc.cell 14, hc.cell 15⟩)
 have HLV := Lib.hid (fun w' (hs : Still w3 w') => show Reads w' 16 (.slice la c lc) c Lc from (H3.out.1.still hs).l.reads)
 have HAV := Lib.hid (fun w' (hs : Still w3 w') => show Reads w' 1 (.slice aa m ac) m (bc S) from by
  have := (H3.out.1.still hs).a.reads
  rw [HK.out.2] at this
  exact this)
 have HFV := Lib.hid (fun w' (hs : Still w3 w') => show Reads w' 1 (.slice fa k fc) k (bc F) from (H2.out.1.only (HS3.out.trans hs) fun _ _ e => e).reads)
 obtain ⟨i0, hi0, hz0, hz1, hz2⟩ := info_parts info_en
 obtain ⟨i1, hi1, hy0, hy1, hy2⟩ := info_parts info_b
 have HI := Lib.hid (And.intro hi0 (And.intro hz0 (And.intro hz1 hz2)))
 have HJ := Lib.hid (And.intro hi1 (And.intro hy0 (And.intro hy1 hy2)))
 clear hi0 hz0 hz1 hz2 hi1 hy0 hy1 hy2 hfull
 go_wp2_with fail
 refine wp_region_D_drew (D := (fun i => [0, 1, 3, 4, 5, 12, 13, 14, 17, 19, 20, 21, 22, 23, 24].contains i)) (S := (fun w' => Still w3 w')) (by kernel_rfl) ?_ (fun hHeld => ?_)
 · exact still_drew w3
 (refine takeD (i := 0) (some 17) (v := ?_) rfl (by rfl) (by rfl) (by kernel_rfl) (by rfl) (fun _ _ _ h => h) ?_ ?_; rotate_left; (intro w; go_simp; try with_reducible rfl); try go_frame)
 (refine takeD (i := 1) (some 18) (v := ?_) rfl (by rfl) (by rfl) (by kernel_rfl) (by rfl) (fun _ _ _ h => h) ?_ ?_; rotate_left; (intro w; go_simp; try with_reducible rfl); try go_frame)
 (refine takeD (i := 3) (some 20) (v := ?_) rfl (by rfl) (by rfl) (by kernel_rfl) (by rfl) (fun _ _ _ h => h) ?_ ?_; rotate_left; (intro w; go_simp; try with_reducible rfl); try go_frame)
 (refine takeD (i := 4) (some 21) (v := ?_) rfl (by rfl) (by rfl) (by kernel_rfl) (by rfl) (fun _ _ _ h => h) ?_ ?_; rotate_left; (intro w; go_simp; try with_reducible rfl); try go_frame)
 (refine takeD (i := 5) (some 22) (v := ?_) rfl (by rfl) (by rfl) (by kernel_rfl) (by rfl) (fun _ _ _ h => h) ?_ ?_; rotate_left; (intro w; go_simp; try with_reducible rfl); try go_frame)
 (refine takeD (i := 12) (some 29) (v := ?_) rfl (by rfl) (by rfl) (by kernel_rfl) (by rfl) (fun _ _ _ h => h) ?_ ?_; rotate_left; (intro w; go_simp; try with_reducible rfl); try go_frame)
 (refine takeD (i := 13) (some 30) (v := ?_) rfl (by rfl) (by rfl) (by kernel_rfl) (by rfl) (fun _ _ _ h => h) ?_ ?_; rotate_left; (intro w; go_simp; try with_reducible rfl); try go_frame)
 (refine takeD (i := 14) (some 31) (v := ?_) rfl (by rfl) (by rfl) (by kernel_rfl) (by rfl) (fun _ _ _ h => h) ?_ ?_; rotate_left; (intro w; go_simp; try with_reducible rfl); try go_frame)
 (refine takeD (i := 17) (some 34) (v := ?_) rfl (by rfl) (by rfl) (by kernel_rfl) (by rfl) (fun _ _ _ h => h) ?_ ?_; rotate_left; (intro w; go_simp; try with_reducible rfl); try go_frame)
 (refine takeS (i := 6) (some 23) (v := ?_) rfl (by rfl) (by rfl) (by kernel_rfl) (by rfl) (fun _ _ _ h => h) (by assumption) ?_ ?_; rotate_left; (intro w hSw; obtain ⟨p3, p4, p5, p6⟩ := SS.out w hSw; clear hSw; go_simp; try with_reducible rfl); try go_frame)
 (refine takeS (i := 15) (some 32) (v := ?_) rfl (by rfl) (by rfl) (by kernel_rfl) (by rfl) (fun _ _ _ h => h) (by assumption) ?_ ?_; rotate_left; (intro w hSw; obtain ⟨p3, p4, p5, p6⟩ := SS.out w hSw; clear hSw; go_simp; try with_reducible rfl); try go_frame)
 (refine takeS (i := 8) (some 25) (v := ?_) rfl (by rfl) (by rfl) (by kernel_rfl) (by rfl) (fun _ _ _ h => h) (by assumption) ?_ ?_; rotate_left; (intro w hSw; obtain ⟨c0, c1, c2, c3, c4, c5, c6, c7, c8, c9, c10, c11, c12, c13, c14, c15⟩ := SB.out w hSw; clear hSw; go_simp; try with_reducible rfl); try go_frame)
 refine wpAnyD_merged (J := ChJ w3 (raX c m k Lc (#[.int .i64 e.kind, .int .i64 e.txn, .int .i64 e.unit, .int .i64 e.half, .int .i64 e.prev, .int .i64 e.next, .int .i64 e.ap, .int .i64 e.ac, .int .i64 e.tp, .int .i64 e.tc, .slice oa e.old.length oc, .slice na e.new.length nc, .slice ma e.moves.length mc, .slice ka e.lives.length kc, .slice da e.dirty.length dc, .slice va e.opens.length vc] : Array Value).toList (bc S) (bc F))) [(2, 19), (7, 24), (9, 26), (10, 27), (11, 28), (16, 33), (18, 35)] (fun i => if i = 7 then [2] else if i = 10 then [7, 9] else if i = 16 then [11] else if i = 18 then [16] else []) #[true, true, true, true, true, true, true, true, true, true, true, true, true, true, true, true, true, true, true, false, false, false, false, false, false] rfl (by kernel_rfl) (by kernel_rfl) ?_ ?_ ?_ ?_
 · intro L xs w' hJ
   exact hJ.still
 · intro xs
   refine ChJ.start (Still.refl _).drew ?_
   intro j hj
   simp only [raX, List.mem_cons, List.not_mem_nil, or_false] at hj
   rcases hj with rfl | rfl | rfl | rfl | rfl | rfl | rfl <;> kernel_rfl
 · intro q hq
   simp only [List.mem_cons, List.not_mem_nil, or_false] at hq
   rcases hq with rfl | rfl | rfl | rfl | rfl | rfl | rfl
   · refine StepM.of rfl (fun L xs w' hd hl hJ K hK => ?_)
     (unfold fillA; simp only [List.foldl]; try go_frame)
     go_simp
     refine hK.out _ _ (hJ.build (v := .slice (some ⟨w'.heap.size, 0, none⟩) 0 0) _ (Vec.none_ _ _ _ _) (fun g e => by cases e; rfl)) _ (by kernel_rfl)
   · refine ChJ.stepApp 2 rfl rfl (.tmp 19) (.tmp 23) 22 rfl rfl 34 i0 _ 16 224 Tryz.underlying22 HI.out.1 HI.out.2.1 HI.out.2.2.1 HI.out.2.2.2 rfl (by decide) c Lc rfl rfl (by decide) rfl rfl (by first | rfl | exact (Nat.zero_add _).symm) rfl (fun u hu => H3.out.1.one u hu) (show 0 + c ≤ maxLen by have := HLN.out.1; omega) (show (0 + c) * 224 ≤ 140737488355328 by have := HLN.out.2.1; omega) ?_ ?_
     · intro xs
       (unfold fillA; simp only [List.foldl]; try go_frame)
       simp [Act.eval]
     · intro L xs w' hd hl hJ
       refine ⟨.slice la c lc, ?_, HLV.out _ hJ.still⟩
       (unfold fillA; simp only [List.foldl]; try go_frame)
       simp [Act.eval]
   · refine StepM.of rfl (fun L xs w' hd hl hJ K hK => ?_)
     (unfold fillA; simp only [List.foldl]; try go_frame)
     go_simp
     refine hK.out _ _ (hJ.build (v := .slice (some ⟨w'.heap.size, 0, none⟩) 1 1) _ (vec_block (n := 1) (heap_alloc_new _ _) rfl (by simp only [maxLen]; omega)) (fun g e => by cases e; rfl)) _ (by kernel_rfl)
   · refine ChJ.stepApp 7 rfl rfl (.tmp 24) (.tmp 26) 22 rfl rfl 34 i0 _ 16 224 Tryz.underlying22 HI.out.1 HI.out.2.1 HI.out.2.2.1 HI.out.2.2.2 rfl (by decide) 1 (#[.int .i64 e.kind, .int .i64 e.txn, .int .i64 e.unit, .int .i64 e.half, .int .i64 e.prev, .int .i64 e.next, .int .i64 e.ap, .int .i64 e.ac, .int .i64 e.tp, .int .i64 e.tc, .slice oa e.old.length oc, .slice na e.new.length nc, .slice ma e.moves.length mc, .slice ka e.lives.length kc, .slice da e.dirty.length dc, .slice va e.opens.length vc] : Array Value).toList rfl rfl (by decide) rfl rfl (by first | rfl | exact (Nat.zero_add _).symm) rfl H1.out (show c + 1 ≤ maxLen from HLN.out.1) (show (c + 1) * 224 ≤ 140737488355328 from HLN.out.2.1) ?_ ?_
     · intro xs
       (unfold fillA; simp only [List.foldl]; try go_frame)
       simp [Act.eval]
     · intro L xs w' hd hl hJ
       refine ⟨xs 9, ?_, (hJ.vec 9 (List.contains_iff_mem.1 rfl) (hd 9 (by simp)) hl).1.reads⟩
       (unfold fillA; simp only [List.foldl]; try go_frame)
       simp [Act.eval]
   · refine StepM.of rfl (fun L xs w' hd hl hJ K hK => ?_)
     (unfold fillA; simp only [List.foldl]; try go_frame)
     go_simp
     refine hK.out _ _ (hJ.build (v := .slice (some ⟨w'.heap.size, 0, none⟩) 0 0) _ (Vec.none_ _ _ _ _) (fun g e => by cases e; rfl)) _ (by kernel_rfl)
   · refine ChJ.stepApp 11 rfl rfl (.tmp 28) (.tmp 32) 23 rfl rfl 5 i1 _ 1 1 Tryz.underlying23 HJ.out.1 HJ.out.2.1 HJ.out.2.2.1 HJ.out.2.2.2 rfl (by decide) m (bc S) rfl rfl (by decide) rfl rfl (by first | rfl | exact (Nat.zero_add _).symm) rfl (bc_one S) (show 0 + m ≤ maxLen by have := HLN.out.2.2.1; omega) (show (0 + m) * 1 ≤ 140737488355328 by have := HLN.out.2.2.2; omega) ?_ ?_
     · intro xs
       (unfold fillA; simp only [List.foldl]; try go_frame)
       simp [Act.eval]
     · intro L xs w' hd hl hJ
       refine ⟨.slice aa m ac, ?_, HAV.out _ hJ.still⟩
       (unfold fillA; simp only [List.foldl]; try go_frame)
       simp [Act.eval]
   · refine ChJ.stepApp 16 rfl rfl (.tmp 33) (.tmp 34) 23 rfl rfl 5 i1 _ 1 1 Tryz.underlying23 HJ.out.1 HJ.out.2.1 HJ.out.2.2.1 HJ.out.2.2.2 rfl (by decide) k (bc F) rfl rfl (by decide) rfl rfl (by first | rfl | exact (Nat.zero_add _).symm) rfl (bc_one F) (show m + k ≤ maxLen from HLN.out.2.2.1) (show (m + k) * 1 ≤ 140737488355328 from HLN.out.2.2.2) ?_ ?_
     · intro xs
       (unfold fillA; simp only [List.foldl]; try go_frame)
       simp [Act.eval]
     · intro L xs w' hd hl hJ
       refine ⟨.slice fa k fc, ?_, HFV.out _ hJ.still⟩
       (unfold fillA; simp only [List.foldl]; try go_frame)
       simp [Act.eval]
 · intro xs w' hJ
   (unfold fillA; simp only [List.foldl]; try go_frame)
   obtain ⟨a1, b1⟩ := hJ.vec 10 (List.contains_iff_mem.1 rfl) (by kernel_rfl) (by kernel_rfl)
   obtain ⟨a2, b2⟩ := hJ.vec 18 (List.contains_iff_mem.1 rfl) (by kernel_rfl) (by kernel_rfl)
   change Vec w' 16 (xs 10) (c + 1) (Lc ++ (#[.int .i64 e.kind, .int .i64 e.txn, .int .i64 e.unit, .int .i64 e.half, .int .i64 e.prev, .int .i64 e.next, .int .i64 e.ap, .int .i64 e.ac, .int .i64 e.tp, .int .i64 e.tc, .slice oa e.old.length oc, .slice na e.new.length nc, .slice ma e.moves.length mc, .slice ka e.lives.length kc, .slice da e.dirty.length dc, .slice va e.opens.length vc] : Array Value).toList) at a1
   change Vec w' 1 (xs 18) (m + k) (bc S ++ bc F) at a2
   have hap := H3.out.1.appended (F := F) hJ.still a1 (by rw [HK.out.1, HK.out.2]; exact a2) H.out.2.2.2.2.2 H1.out b1 b2
   have FIN := Lib.hid (show RaPost w t d at_ n S F c st (.returned (.tuple #[.int .i64 ((c + 1 : Nat) : Int), .int .i64 0])) ((w'.setCell ⟨t, 3, none⟩ (xs 10)).setCell ⟨t, 4, none⟩ (xs 18)) from by
    unfold RaPost
    rw [if_neg HNE.out, if_neg HFU.out]
    have hz := H3.out.2.size
    have hgr : RtAt (fun g => g = t ∨ w.heap.size ≤ g ∧ g < ((w'.setCell ⟨t, 3, none⟩ (xs 10)).setCell ⟨t, 4, none⟩ (xs 18)).heap.size) _ t d at_ n (S ++ F) _ _ _ (c + 1) st := RtAt.grow hap.1 (fun g hg => Or.elim hg (fun e => Or.inl e) fun e => Or.inr ⟨by omega, e.2⟩) fun g hg => Or.elim hg (fun e => by rw [e]; exact hap.1.cells.lt) fun e => e.2
    exact ⟨_, _, _, rfl, hgr, (H3.out.2.mono fun _ e => e.elim).trans hap.2⟩)
   have hcl := hap.1.cells
   obtain ⟨s3, s4, s5, s6⟩ := SS.out _ hJ.still
   clear hap b1 b2 hJ
   generalize xs 10 = x1 at *
   generalize xs 18 = x2 at *
   obtain ⟨pa, pc, rfl⟩ := a1.form'
   obtain ⟨qa, qc, rfl⟩ := a2.form'
   have HCL := Lib.hid hcl
   clear a1 a2 hcl
   refine wpAnyD_ready (rs := [19]) (by kernel_rfl) (by simp) ?_
   refine ReadyD.last rfl (by rfl) (fun K hK => ?_) ?_
   go_simp
   refine hK.out _ _ ?_
   (clear hK K; try go_frame)
   refine wpAnyD_ready (rs := [20]) (by kernel_rfl) (by simp) ?_
   refine ReadyD.last rfl (by rfl) (fun K hK => ?_) ?_
   go_simp
   refine hK.out _ _ ?_
   (clear hK K; try go_frame)
   refine wpAnyD_ready (rs := [21]) (by kernel_rfl) (by simp) ?_
   refine ReadyD.last rfl (by rfl) (fun K hK => ?_) ?_
   go_simp
   refine hK.out _ _ ?_
   (clear hK K; try go_frame)
   refine wpAnyD_ready (rs := [22]) (by kernel_rfl) (by simp) ?_
   refine ReadyD.last rfl (by rfl) (fun K hK => ?_) ?_
   go_simp
   refine hK.out _ _ ?_
   (clear hK K; try go_frame)
   refine wpAnyD_ready (rs := [23]) (by kernel_rfl) (by simp) ?_
   refine ReadyD.last rfl (by rfl) (fun K hK => ?_) ?_
   go_simp
   refine hK.out _ _ ?_
   (clear hK K; try go_frame)
   refine wpAnyD_ready (rs := [24]) (by kernel_rfl) (by simp) ?_
   refine ReadyD.last rfl (by rfl) (fun K hK => ?_) ?_
   go_simp
   refine hK.out _ _ ?_
   (clear hK K; try go_frame)
   refine wpAnyD_done (by kernel_rfl) ?_ _
   rotate_left
   exact ReadyD.nil
   exact ReadyD.nil
   exact ReadyD.nil
   exact ReadyD.nil
   exact ReadyD.nil
   exact ReadyD.nil
   have k3 : ((w'.setCell ⟨t, 3, none⟩ (.slice pa (c + 1) pc)).setCell ⟨t, 4, none⟩ (.slice qa (m + k) qc)).cell? ⟨t, 3, none⟩ = some (.slice pa (c + 1) pc) := HCL.out.cell 3
   generalize (w'.setCell ⟨t, 3, none⟩ (.slice pa (c + 1) pc)).setCell ⟨t, 4, none⟩ (.slice qa (m + k) qc) = w4 at *
   clear s3 s4 s5 s6 HCL
   go_wp2_with fail
   go_ret2
   exact FIN.out
end Go.Proofs.YtojkggppcmdepaaGreat

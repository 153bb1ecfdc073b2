/- A text, its length ahead, noughts behind. Conditions: it is shorter than its place. The document's May and Row of a row of short texts. Conditions: a key of 1 to 7 bytes, a second of at most 5, a value of at most 7. -/
import Derived.Test.YtojkggppcmdepaaGreatTrA
import Derived.Deep.AppendSrc
import Derived.Lib.AppendZerosOnto
import Derived.Test.YtojkggppcmdepaaGreatTrE
namespace Go.Proofs.YtojkggppcmdepaaGreat
open Go.RowKit Go.Wh Go.Maps

section
variable {P : Program} {w : World} {ops : Array Oper} {rest : List Oper} {o : Oper} {a : Act} {Q : Exit → Act → World → Prop}
/-- A new row that begins with some cells. -/
theorem grown_vec (w : World) (n : Nat) (cap : Nat) (e : TypeId) (xs : List Value) (cells : Array Value) (hn : n ≤ maxLen) (hx : xs.length = n) (hs : cells.size = grownCap w n cap e) (ht : cells.toList.take n = xs) :
    Vec (w.drew.alloc (.cells cells e)) 1 (.slice (some ⟨w.heap.size, 0, none⟩) n (grownCap w n cap e)) n xs ∧ ∀ S, Only S w (w.drew.alloc (.cells cells e)) :=
  ⟨vec_of_owns (base := 0) (e := e) ⟨by omega, .inr ⟨w.heap.size, _, cells, rfl, Nat.zero_le _, heap_alloc_new w.drew _, grownCap_ge w n cap e, grownCap_le_maxLen w n cap e hn, by omega, by rw [Nat.mul_one]; exact ht⟩⟩,
    fun S => Only.alloc (Only.drew (Only.refl _ _)) _⟩
theorem zeroCells_list (k : Nat) : (Builtin.zeroCells (Value.int .u8 0).cells k).toList = List.replicate k (.int .u8 0) := by
  refine List.ext_getElem ?_ fun j h1 h2 => ?_
  · simp [Builtin.zeroCells, Value.cells]
  · simp [Builtin.zeroCells, Value.cells, Nat.mod_one]
theorem run_append_vec_src (t tx ty e : TypeId) (i : TypeInfo) (h1 : P.underlying t = some (.slice e)) (h2 : P.info? e = some i) (h3 : i.zero = some (.int .u8 0)) (h4 : i.size = 1) (h5 : i.bytes = 1)
    {v : Value} {n : Nat} {xs : List Value} (hv : Vec w 1 v n xs) (hn : 0 < n) {x : Value} {m : Nat} {news : List Value} (hs : Src P 1 tx x m news w) (b1 : n + m ≤ 100000) :
    ∃ v' w', (Builtin.append_ #[t, tx] ty #[v, x]).run P w = .ok v' w' ∧ Vec w' 1 v' (n + m) (xs ++ news) ∧ Only (fun k => v.ownBlock = some k) w w' ∧ (v'.ownBlock = v.ownBlock ∨ ∃ g, v'.ownBlock = some g ∧ w.heap.size ≤ g ∧ g < w'.heap.size) := by
  obtain ⟨g, o, cap, rfl, h⟩ := hv.form hn
  have hl := h.len
  have hnl := hs.newsLen
  by_cases hr : n + m ≤ cap
  · have hsp : ∀ j, j < news.length → (w.cell? ⟨g, o + n * 1 + j, none⟩).isSome = true ∧ w.frozen? ⟨g, o + n * 1 + j, none⟩ = false := fun j hj => by
      rw [Nat.add_assoc]
      exact h.room _ (by omega)
    exact ⟨_, _, run_append_room_src (P := P) w t tx ty e i h1 h2 g o n cap x m news (by rw [h4]; exact hs) hr (fun j hj => by rw [h4]; exact (hsp j hj).1) (fun j hj => by rw [h4]; exact (hsp j hj).2),
      .inr ⟨g, o, cap, rfl, by rw [h4]; exact h.more m news hnl hr⟩, Only.grown (by rw [h4]; exact setCells_grown w g news _) (fun j hj => hj), .inl rfl⟩
  · have hold : (Builtin.firstCells i.size n (.slice (some ⟨g, o, none⟩) n cap)).run P w.drew = .ok xs.toArray w.drew :=
      run_firstCells_some (P := P) w.drew i.size n ⟨g, o, none⟩ n cap xs (by rw [h4]; exact hl) (fun j u hj => by
        rw [Addr.add_lit]
        exact (h.cells j (by rw [← hl]; exact (List.getElem?_eq_some_iff.1 hj).1)).trans hj)
    have hrun := run_append_grow_src (P := P) w t tx ty e i (.int .u8 0) h1 h2 h3 (some ⟨g, o, none⟩) n cap xs hold x m news (by rw [h4]; exact hs) (by omega) (by omega) (by rw [h5]; exact growslice_fits (by omega) (by omega))
    have hge := grownCap_ge w (n + m) cap e
    have hg := grown_vec w (n + m) cap e (xs ++ news) (by simp only [maxLen]; omega) (by rw [List.length_append]; omega) (cells := ((xs ++ news).toArray ++ Builtin.zeroCells (Value.int .u8 0).cells (grownCap w (n + m) cap e - (n + m))))
      (by rw [Array.size_append, ← Array.length_toList (xs := Builtin.zeroCells _ _), zeroCells_list, List.length_replicate, List.size_toArray, List.length_append]; omega)
      (by rw [Array.toList_append, List.take_append_of_le_length (by rw [List.length_append]; omega), List.take_of_length_le (by rw [List.length_append]; omega)])
    exact ⟨_, _, hrun, hg.1, hg.2 _, .inr ⟨w.heap.size, rfl, Nat.le_refl _, by simp⟩⟩
theorem run_append_vec_zeros (t tn ty e : TypeId) (i : TypeInfo) (kq kn : IntKind) (h1 : P.underlying t = some (.slice e)) (htn : P.underlying tn = some (.int kn)) (h2 : P.info? e = some i) (h3 : i.zero = some (.int .u8 0)) (h4 : i.size = 1) (h5 : i.bytes = 1)
    {v : Value} {n : Nat} {xs : List Value} (hv : Vec w 1 v n xs) (hn : 0 < n) (k : Nat) (hk : 0 < k) (b1 : n + k ≤ 100000) :
    ∃ v' w', (Builtin.append_ #[t, tn] ty #[v, .int kq k]).run P w = .ok v' w' ∧ Vec w' 1 v' (n + k) (xs ++ List.replicate k (.int .u8 0)) ∧ Only (fun k => v.ownBlock = some k) w w' ∧ (v'.ownBlock = v.ownBlock ∨ ∃ g, v'.ownBlock = some g ∧ w.heap.size ≤ g ∧ g < w'.heap.size) := by
  obtain ⟨g, o, cap, rfl, h⟩ := hv.form hn
  have hl := h.len
  have hnl : (List.replicate k (Value.int .u8 0)).length = k * 1 := by rw [List.length_replicate, Nat.mul_one]
  by_cases hr : n + k ≤ cap
  · have hsp : ∀ j, j < (List.replicate k (Value.int .u8 0)).length → (w.cell? ⟨g, o + n * 1 + j, none⟩).isSome = true ∧ w.frozen? ⟨g, o + n * 1 + j, none⟩ = false := fun j hj => by
      rw [Nat.add_assoc]
      exact h.room _ (by omega)
    have hst := run_storeCells_cells (P := P) g (o + n * 1) (List.replicate k (Value.int .u8 0)) 0 w (fun j hj => (hsp j hj).1) (fun j hj => (hsp j hj).2) (fun u hu => by rw [List.eq_of_mem_replicate hu]; rfl)
    simp only [Nat.add_zero] at hst
    refine ⟨_, _, ?_, .inr ⟨g, o, cap, rfl, h.more k _ hnl hr⟩, Only.grown (setCells_grown w g _ _) (fun j hj => hj), .inl rfl⟩
    have hkn : k ≠ 0 := by omega
    have hw : IntKind.i64.wrap (k : Int) = k := by rw [IntKind.wrap_i64]; omega
    have h48i : ¬ (281474976710656 < (k : Int)) := by omega
    have hneg : ¬ ((k : Int) < 0) := by omega
    have hz := zeroCells_list k
    rw [Nat.mul_one] at hst
    simp [Builtin.append_, run_underlying h1, run_underlying htn, sizeOf, typeInfo, zeroValue, h2, h3, h4, h5, asInt, asIntOf, hw, hneg, hkn, hr, h48i, Addr.add_lit, hz, hst]
  · have hold : (Builtin.firstCells i.size n (.slice (some ⟨g, o, none⟩) n cap)).run P w.drew = .ok xs.toArray w.drew :=
      run_firstCells_some (P := P) w.drew i.size n ⟨g, o, none⟩ n cap xs (by rw [h4]; exact hl) (fun j u hj => by
        rw [Addr.add_lit]
        exact (h.cells j (by rw [← hl]; exact (List.getElem?_eq_some_iff.1 hj).1)).trans hj)
    have hrun := Lib.run_append_grow_zeros (P := P) w t tn ty e i (.int .u8 0) kq kn h1 htn h2 h3 (some ⟨g, o, none⟩) n cap xs hold k hk (by omega) (by omega) (by omega) (by rw [h5]; omega) (by rw [h5]; exact growslice_fits (by omega) (by omega))
    have hge := grownCap_ge w (n + k) cap e
    have hg := grown_vec w (n + k) cap e (xs ++ List.replicate k (.int .u8 0)) (by simp only [maxLen]; omega) (by rw [List.length_append]; omega) (cells := (xs.toArray ++ Builtin.zeroCells (Value.int .u8 0).cells k ++ Builtin.zeroCells (Value.int .u8 0).cells (grownCap w (n + k) cap e - (n + k))))
      (by rw [Array.size_append, Array.size_append, ← Array.length_toList (xs := Builtin.zeroCells _ (grownCap w (n + k) cap e - (n + k))), zeroCells_list, ← Array.length_toList (xs := Builtin.zeroCells _ k), zeroCells_list, List.length_replicate, List.length_replicate, List.size_toArray]; omega)
      (by rw [Array.toList_append, Array.toList_append, zeroCells_list, List.take_append_of_le_length (by rw [List.length_append]; simp; omega), List.take_of_length_le (by rw [List.length_append]; simp; omega)])
    exact ⟨_, _, hrun, hg.1, hg.2 _, .inr ⟨w.heap.size, rfl, Nat.le_refl _, by simp⟩⟩
theorem wpList_append_vec_src (hgd : o.guard = none) (s x : Operand) (t tx : TypeId) (hop : o.op = Op.call { callee := Callee.builtin Builtin.append, args := #[s, x], argTypes := #[t, tx] })
    (e : TypeId) (i : TypeInfo) (h1 : P.underlying t = some (.slice e)) (h2 : P.info? e = some i) (h3 : i.zero = some (.int .u8 0)) (h4 : i.size = 1) (h5 : i.bytes = 1)
    (v : Value) (n : Nat) (xs : List Value) (hs : a.eval s = v) (hv : Vec w 1 v n xs) (hn : 0 < n) (vx : Value) (m : Nat) (news : List Value) (hxv : a.eval x = vx) (hx : Src P 1 tx vx m news w) (b1 : n + m ≤ 100000)
    (hK : ∀ v' w', Vec w' 1 v' (n + m) (xs ++ news) → Only (fun k => v.ownBlock = some k) w w' → (v'.ownBlock = v.ownBlock ∨ ∃ g, v'.ownBlock = some g ∧ w.heap.size ≤ g ∧ g < w'.heap.size) → wpList P ops Q rest (a.put o.dst v') w') :
    wpList P ops Q (o :: rest) a w := by
  refine wpList_plain hgd fun K hK' => ?_
  obtain ⟨v', w', hrun, r1, r2, r3⟩ := run_append_vec_src (P := P) t tx o.type e i h1 h2 h3 h4 h5 hv hn hx b1
  unfold Oper.wp
  simp [execOp, hop, resolve, invoke, builtin, hs, hxv, hrun, Result.andThen]
  exact hK' _ _ (hK v' w' r1 r2 r3)
theorem wpList_append_vec_zeros (hgd : o.guard = none) (s x : Operand) (t tn : TypeId) (hop : o.op = Op.call { callee := Callee.builtin Builtin.append, args := #[s, x], argTypes := #[t, tn] })
    (e : TypeId) (i : TypeInfo) (kq kn : IntKind) (h1 : P.underlying t = some (.slice e)) (htn : P.underlying tn = some (.int kn)) (h2 : P.info? e = some i) (h3 : i.zero = some (.int .u8 0)) (h4 : i.size = 1) (h5 : i.bytes = 1)
    (v : Value) (n : Nat) (xs : List Value) (hs : a.eval s = v) (hv : Vec w 1 v n xs) (hn : 0 < n) (k : Nat) (hxv : a.eval x = .int kq k) (hk : 0 < k) (b1 : n + k ≤ 100000)
    (hK : ∀ v' w', Vec w' 1 v' (n + k) (xs ++ List.replicate k (.int .u8 0)) → Only (fun k => v.ownBlock = some k) w w' → (v'.ownBlock = v.ownBlock ∨ ∃ g, v'.ownBlock = some g ∧ w.heap.size ≤ g ∧ g < w'.heap.size) → wpList P ops Q rest (a.put o.dst v') w') :
    wpList P ops Q (o :: rest) a w := by
  refine wpList_plain hgd fun K hK' => ?_
  obtain ⟨v', w', hrun, r1, r2, r3⟩ := run_append_vec_zeros (P := P) t tn o.type e i kq kn h1 htn h2 h3 h4 h5 hv hn k hk b1
  unfold Oper.wp
  simp [execOp, hop, resolve, invoke, builtin, hs, hxv, hrun, Result.andThen]
  exact hK' _ _ (hK v' w' r1 r2 r3)
end

/-- A text of bytes. -/
def txt (s : ByteArray) : List Int := s.data.toList.map fun b => (b.toNat : Int)
/-- What pad makes. -/
def padB (s : ByteArray) (k : Nat) : List Int := ((s.size : Int) :: txt s) ++ List.replicate (k - s.size) 0
theorem txt_length (s : ByteArray) : (txt s).length = s.size := by
  unfold txt
  rw [List.length_map, Array.length_toList]
  rfl
theorem txt_cells (s : ByteArray) : byteCells s = bc (txt s) := by
  unfold byteCells bc txt
  rw [List.map_map]
  rfl
set_option maxHeartbeats 400000 in
set_option maxRecDepth 10000 in
theorem pad_any (w : World) (s : ByteArray) (m k : Nat) (hs : s.size = m) (hmk : m < k) (hk : k ≤ 100) :
    Calls Tryz.prog 91 #[.string s, .int .i64 (k : Int)] w (FreshPost w 1 (k + 1) (bc (padB s k))) := by
  obtain ⟨i0, hi, hz0, hz1, hz2⟩ := info_parts info_b
  have HI := Lib.hid (And.intro hi (And.intro hz0 (And.intro hz1 hz2)))
  obtain ⟨N, hN⟩ : ∃ N, k - m = N := ⟨_, rfl⟩
  have HB := Lib.hid (And.intro hs (And.intro hmk (And.intro hk hN)))
  have hwr : IntKind.u8.wrap (m : Int) = (m : Int) := by rw [IntKind.wrap_u8]; omega
  have hwr2 : IntKind.i64.wrap ((k : Int) - (m : Int)) = (N : Int) := by rw [IntKind.wrap_i64]; omega
  clear hi hz0 hz1 hz2 hmk hk hN
  go_enter Tryz.func91, Tryz.ntmps91
  have HV := Lib.hid (show Vec (w.alloc (.cells #[.int .u8 (m : Int)] 5)) 1 (.slice (some ⟨w.heap.size, 0, none⟩) 1 1) 1 [.int .u8 (m : Int)] from vec_block (t := 5) (cs := #[.int .u8 (m : Int)]) (heap_alloc_new _ _) rfl (by decide))
  have HSR := Lib.hid (fun w => Src.ofString (P := Tryz.prog) (w := w) (tx := 9) Tryz.underlying9 s)
  go_wp2_with (at_builtin; first
    | (refine wpList_append_vec_src rfl _ _ 23 9 rfl 5 i0 Tryz.underlying23 HI.out.1 HI.out.2.1 HI.out.2.2.1 HI.out.2.2.2 (.slice (some ⟨w.heap.size, 0, none⟩) 1 1) 1 [.int .u8 (m : Int)] rfl HV.out (by decide) (.string s) m (byteCells s) rfl (by have := HSR.out; rw [HB.out.1] at this; exact this _) (by have := HB.out; omega) ?_; intro v1 w1 hv1 ho1 hb1; have HV1 := Lib.hid (And.intro hv1 (And.intro ho1 hb1)); clear hv1 ho1 hb1)
    | (refine wpList_append_vec_zeros rfl _ _ 23 3 rfl 5 i0 .i64 .i64 Tryz.underlying23 Tryz.underlying3 HI.out.1 HI.out.2.1 HI.out.2.2.1 HI.out.2.2.2 v1 (1 + m) ([.int .u8 (m : Int)] ++ byteCells s) rfl HV1.out.1 (by omega) N rfl (by have := HB.out; omega) (by have := HB.out; omega) ?_; intro v2 w2 hv2 ho2 hb2; have HV2 := Lib.hid (And.intro hv2 (And.intro ho2 hb2)); clear hv2 ho2 hb2))
  have F := Lib.hid (show FreshPost w 1 (k + 1) (bc (padB s k)) (.returned v2) w2 from by
    obtain ⟨hv1, ho1, hb1⟩ := HV1.out
    obtain ⟨hv2, ho2, hb2⟩ := HV2.out
    obtain ⟨h1, h2, h3, h4⟩ := HB.out
    have e : bc (padB s k) = [.int .u8 (m : Int)] ++ byteCells s ++ List.replicate N (.int .u8 0) := by
      unfold padB
      rw [bc_append, txt_cells, h1, h4]
      simp [bc]
    have hz : (w.alloc (.cells #[.int .u8 (m : Int)] 5)).heap.size = w.heap.size + 1 := by simp
    have ob : (Value.slice (some ⟨w.heap.size, 0, none⟩) 1 1).ownBlock = some w.heap.size := rfl
    have b1 : ∀ g, v1.ownBlock = some g → w.heap.size ≤ g ∧ g < w1.heap.size := fun g hg => by
      have := ho1.size
      rcases hb1 with hb | ⟨g', hb, h4, h5⟩
      · rw [hb, ob] at hg
        cases hg
        omega
      · rw [hb] at hg
        cases hg
        omega
    refine ⟨_, rfl, ?_, ?_, fun g hg => ?_⟩
    · rw [e, show k + 1 = 1 + m + N by omega]
      exact hv2
    · exact (((Below.refl w.heap.size w).alloc (Nat.le_refl _) _).trans (ho1.below (by omega) fun i hi hx => by rw [ob] at hx; cases hx; omega)).trans (ho2.below (by have := ho1.size; omega) fun i hi hx => by have := (b1 i hx).1; omega)
    · have := ho2.size
      rcases hb2 with hb | ⟨g', hb, h4, h5⟩
      · rw [hb] at hg
        have := b1 g hg
        omega
      · rw [hb] at hg
        cases hg
        have := ho1.size
        omega)
  clear HV1 HV2 HV HSR HI
  go_wp2_with fail
  go_ret
  exact F.out
end Go.Proofs.YtojkggppcmdepaaGreat

namespace Go.Proofs.YtojkggppcmdepaaGreat
open Go.RowKit Go.Wh Go.Maps

theorem step_append_vec {P : Program} {ops : Array Oper} {o : Oper} {a : Act} {w : World} {K : Act → World → Prop} {Q : Exit → Act → World → Prop} {E : Prop}
    (hg : o.guard = none) (s x : Operand) (t : TypeId) (hop : o.op = Op.call { callee := Callee.builtin Builtin.append, args := #[s, x], argTypes := #[t, t] })
    (e : TypeId) (i : TypeInfo) (z : Value) (size bytes : Nat) (h1 : P.underlying t = some (.slice e)) (h2 : P.info? e = some i) (h3 : i.zero = some z) (h4 : i.size = size) (h5 : i.bytes = bytes) (h6 : z.cells.size = size) (h7 : 0 < size)
    (v : Value) (n : Nat) (xs : List Value) (hs : a.eval s = v) (hv : Vec w size v n xs) (vx : Value) (m : Nat) (news : List Value) (hxv : a.eval x = vx) (hx : Reads w size vx m news) (h1c : ∀ u ∈ news, u.oneCell' = true) (b1 : n + m ≤ maxLen) (b2 : (n + m) * bytes ≤ 140737488355328)
    (hK : ∀ v' w', Vec w' size v' (n + m) (xs ++ news) → Only (fun k => v.ownBlock = some k) w w' → (v'.ownBlock = v.ownBlock ∨ ∃ g, v'.ownBlock = some g ∧ w.heap.size ≤ g ∧ g < w'.heap.size) → K (a.put o.dst v') w') :
    if Region.wanted o (yielded ops a.tmps) = true then Oper.wp P o a w K Q else E := by
  obtain ⟨v', w', hrun, r1, r2, r3⟩ := run_append_vec (P := P) t o.type e i z size bytes h1 h2 h3 h4 h5 h6 h7 hv hx h1c b1 b2
  exact step_append_run hg s x t t hop v vx hs hxv hrun (hK _ _ r1 r2 r3)

theorem Still.of {w w' : World} (h : Below w.heap.size w w') : Still w w' := ⟨h.os, h.tape, h.output, h.size, fun i hi _ => h.block i hi⟩
theorem append_fresh {a w w' : World} {v v' : Value} (hs : Still a w) (hf : ∀ g, v.ownBlock = some g → a.heap.size ≤ g ∧ g < w.heap.size) (ho : Only (fun k => v.ownBlock = some k) w w') (hb : v'.ownBlock = v.ownBlock ∨ ∃ g, v'.ownBlock = some g ∧ w.heap.size ≤ g ∧ g < w'.heap.size) :
    Still a w' ∧ ∀ g, v'.ownBlock = some g → a.heap.size ≤ g ∧ g < w'.heap.size := by
  have hz := ho.size
  have ha := hs.size
  refine ⟨hs.andThen ho fun i hi e => by have := (hf i e).1; omega, fun g hg => ?_⟩
  rcases hb with e | ⟨g', e, h1, h2⟩
  · rw [e] at hg
    have := hf g hg
    omega
  · rw [e] at hg
    cases hg
    omega
theorem padB_length {s : ByteArray} {k : Nat} (h : s.size ≤ k) : (padB s k).length = k + 1 := by
  unfold padB
  rw [List.length_append, List.length_cons, txt_length, List.length_replicate]
  omega

set_option maxHeartbeats 400000 in
set_option maxRecDepth 10000 in
theorem rmay_any (w : World) (key sec val : ByteArray) (a b c : Nat) (ha : key.size = a) (hb : sec.size = b) (hc : val.size = c) (h1 : 1 ≤ a) (h2 : a < 8) (h3 : b < 6) (h4 : c < 8) :
    Calls Tryz.prog 90 #[.agg #[.string key, .string sec, .string val]] w (StPost w (.bool true)) := by
  have F := Lib.hid (show StPost w (.bool true) (.returned (.bool true)) (w.alloc (.cells #[.string key, .string sec, .string val] 100)) from ⟨rfl, (Still.refl w).alloc _⟩)
  have d1 : decide ((a : Int) ≥ 1) = true := decide_eq_true (by omega)
  have d2 : decide ((a : Int) ≤ 8) = true := decide_eq_true (by omega)
  have d3 : decide ((b : Int) ≤ 6) = true := decide_eq_true (by omega)
  have d4 : decide ((c : Int) ≤ 8) = true := decide_eq_true (by omega)
  have e1 : (1 : Int) ≤ (a : Int) := by omega
  have e2 : (a : Int) ≤ 8 := by omega
  have e3 : (b : Int) ≤ 6 := by omega
  have e4 : (c : Int) ≤ 8 := by omega
  have e5 : a ≤ 8 := by omega
  have e6 : b ≤ 6 := by omega
  have e7 : c ≤ 8 := by omega
  clear h2 h3 h4
  go_enter Tryz.func90, Tryz.ntmps90
  go_wp2_with fail
  go_ret
  exact F.out

/-- What Row makes. -/
def rowB (key sec val : ByteArray) : List Int := 1 :: (padB key 8 ++ padB sec 6 ++ padB val 8)
/-- A new slice of some bytes, OK. -/
def RowPost (w : World) (l : List Int) (en : Ending) (w' : World) : Prop :=
  ∃ v, en = .returned (.tuple #[v, .int .i64 0]) ∧ Vec w' 1 v 26 (bc l) ∧ Below w.heap.size w w' ∧ ∀ g, v.ownBlock = some g → w.heap.size ≤ g ∧ g < w'.heap.size

set_option maxHeartbeats 1000000 in
set_option maxRecDepth 10000 in
theorem row_any (w : World) (key sec val : ByteArray) (a b c : Nat) (ha : key.size = a) (hb : sec.size = b) (hc : val.size = c) (h1 : 1 ≤ a) (h2 : a < 8) (h3 : b < 6) (h4 : c < 8) :
    Calls Tryz.prog 53 #[.agg #[.string key, .string sec, .string val]] w (RowPost w (rowB key sec val)) := by
  obtain ⟨i0, hi, hz0, hz1, hz2⟩ := info_parts info_b
  have HI := Lib.hid (And.intro hi (And.intro hz0 (And.intro hz1 hz2)))
  have HM := Lib.hid (fun w' => rmay_any w' key sec val a b c ha hb hc h1 h2 h3 h4)
  have HP1 := Lib.hid (fun w' => show Calls Tryz.prog 91 #[.string key, .int .i64 8] w' (FreshPost w' 1 9 (bc (padB key 8))) from pad_any w' key a 8 ha h2 (by decide))
  have HP2 := Lib.hid (fun w' => show Calls Tryz.prog 91 #[.string sec, .int .i64 6] w' (FreshPost w' 1 7 (bc (padB sec 6))) from pad_any w' sec b 6 hb h3 (by decide))
  have HP3 := Lib.hid (fun w' => show Calls Tryz.prog 91 #[.string val, .int .i64 8] w' (FreshPost w' 1 9 (bc (padB val 8))) from pad_any w' val c 8 hc h4 (by decide))
  have S0 := Lib.hid (show Below w.heap.size w (w.alloc (.cells #[.string key, .string sec, .string val] 100)) from (Below.refl _ _).alloc (Nat.le_refl _) _)
  have HC0 := Lib.hid (cellsAt_new w [.string key, .string sec, .string val] 100)
  have hsz := show (w.alloc (.cells #[.string key, .string sec, .string val] 100)).heap.size = w.heap.size + 1 by simp
  clear hi hz0 hz1 hz2 ha hb hc h1 h2 h3 h4
  go_enter Tryz.func53, Tryz.ntmps53
  go_upto_region 1 with fail
  generalize (w.alloc (.cells #[.string key, .string sec, .string val] 100)) = w1 at *
  have HSZ := Lib.hid hsz
  clear hsz
  have q0 : w1.cell? ⟨w.heap.size, 0, none⟩ = some (.string key) := HC0.out.cell 0
  have q1 : w1.cell? ⟨w.heap.size, 1, none⟩ = some (.string sec) := HC0.out.cell 1
  have q2 : w1.cell? ⟨w.heap.size, 2, none⟩ = some (.string val) := HC0.out.cell 2
  go_wp2_with (first
    | (go_at_call 90; refine (HM.out _).mono ?_; rintro e w2 ⟨rfl, hs2⟩; (have p0 := Still.cell hs2 q0); (have p1 := Still.cell hs2 q1); (have p2 := Still.cell hs2 q2); have HS2 := Lib.hid hs2; clear hs2 q0 q1 q2; have HA := Lib.hid (show Vec (w2.alloc (.cells #[.int .u8 1] 5)) 1 (.slice (some ⟨w2.heap.size, 0, none⟩) 1 1) 1 [.int .u8 1] from vec_block (t := 5) (cs := #[.int .u8 1]) (heap_alloc_new _ _) rfl (by decide)); have SA := Lib.hid (show Still w2 (w2.alloc (.cells #[.int .u8 1] 5)) from (Still.refl _).alloc _); have ZA := Lib.hid (show (w2.alloc (.cells #[.int .u8 1] 5)).heap.size = w2.heap.size + 1 by simp); have p0' := Still.cell SA.out p0)
    | (go_at_call 91; (with_reducible refine (HP1.out _).mono ?_); rintro e w4 ⟨v4, rfl, hv4, hb4, hg4⟩; have HV4 := Lib.hid (And.intro hv4 (HA.out.belowAll hb4)); have hs4 := SA.out.trans (Still.of hb4); have HS4 := Lib.hid (And.intro hs4 hb4.size); clear hv4 hb4 hg4 hs4)
    | (at_builtin; refine wpList_append_vec rfl _ _ 23 rfl 5 i0 _ 1 1 Tryz.underlying23 HI.out.1 HI.out.2.1 HI.out.2.2.1 HI.out.2.2.2 rfl (by decide) (.slice (some ⟨w2.heap.size, 0, none⟩) 1 1) 1 [.int .u8 1] rfl HV4.out.2 v4 9 (bc (padB key 8)) rfl HV4.out.1.reads (bc_one _) (by decide) (by decide) ?_; intro v5 w5 hv5 ho5 hb5; have AF5 := append_fresh HS4.out.1 (fun g hg => by have e : w2.heap.size = g := Option.some.inj hg; have := HS4.out.2; have := ZA.out; omega) ho5 hb5; have HV5 := Lib.hid (And.intro hv5 AF5); clear hv5 ho5 hb5 AF5))
  have hs5 := HV5.out.2.1
  have HBX := Lib.hid (fun w' (hs : Still w2 w') => show Still w2 w' ∧ w'.cell? ⟨w.heap.size, 1, none⟩ = some (.string sec) ∧ w'.cell? ⟨w.heap.size, 2, none⟩ = some (.string val) from ⟨hs, Still.cell hs p1, Still.cell hs p2⟩)
  clear p0 p1 p2 p0'
  go_region_held3 (fun w' => Still w2 w' ∧ w'.cell? ⟨w.heap.size, 1, none⟩ = some (.string sec) ∧ w'.cell? ⟨w.heap.size, 2, none⟩ = some (.string val)) (first | exact HBX.out _ (by assumption) | exact HBX.out _ (Only.drew (by assumption)))
    (first
      | (go_at_call 91; (with_reducible refine (HP2.out _).mono ?_); rintro e w6 ⟨v6, rfl, hv6, hb6, hg6⟩; have hs6 : Still w2 w6 := HV5.out.2.1.drew.trans (Still.of hb6); have HV6 := Lib.hid (And.intro hv6 (And.intro (show Vec w6 1 v5 (1 + 9) ([.int .u8 1] ++ bc (padB key 8)) from HV5.out.1.drew.belowAll hb6) (show ∀ g, v5.ownBlock = some g → w2.heap.size ≤ g ∧ g < w6.heap.size from fun g hg => by have h1 := HV5.out.2.2 g hg; have h2 : w5.heap.size ≤ w6.heap.size := hb6.size; omega))); clear hv6 hb6 hg6)
      | (refine step_append_vec rfl _ _ 23 rfl 5 i0 _ 1 1 Tryz.underlying23 HI.out.1 HI.out.2.1 HI.out.2.2.1 HI.out.2.2.2 rfl (by decide) v5 (1 + 9) ([.int .u8 1] ++ bc (padB key 8)) (by simp [Act.eval]) HV6.out.2.1 v6 7 (bc (padB sec 6)) (by simp [Act.eval]) HV6.out.1.reads (bc_one _) (by decide) (by decide) ?_; intro v7 w7 hv7 ho7 hb7; have AF7 := append_fresh hs6 HV6.out.2.2 ho7 hb7; have hs7 := AF7.1; have HV7 := Lib.hid (And.intro hv7 AF7); clear hv7 ho7 hb7 AF7)
      | (go_at_call 91; (with_reducible refine (HP3.out _).mono ?_); rintro e w8 ⟨v8, rfl, hv8, hb8, hg8⟩; have hs8 : Still w2 w8 := HV7.out.2.1.trans (Still.of hb8); have HV8 := Lib.hid (And.intro hv8 (And.intro (show Vec w8 1 v7 (1 + 9 + 7) ([.int .u8 1] ++ bc (padB key 8) ++ bc (padB sec 6)) from HV7.out.1.belowAll hb8) (show ∀ g, v7.ownBlock = some g → w2.heap.size ≤ g ∧ g < w8.heap.size from fun g hg => by have h1 := HV7.out.2.2 g hg; have h2 : w7.heap.size ≤ w8.heap.size := hb8.size; omega))); clear hv8 hb8 hg8)
      | (refine step_append_vec rfl _ _ 23 rfl 5 i0 _ 1 1 Tryz.underlying23 HI.out.1 HI.out.2.1 HI.out.2.2.1 HI.out.2.2.2 rfl (by decide) v7 (1 + 9 + 7) ([.int .u8 1] ++ bc (padB key 8) ++ bc (padB sec 6)) (by simp [Act.eval]) HV8.out.2.1 v8 9 (bc (padB val 8)) (by simp [Act.eval]) HV8.out.1.reads (bc_one _) (by decide) (by decide) ?_; intro v9 w9 hv9 ho9 hb9; have AF9 := append_fresh hs8 HV8.out.2.2 ho9 hb9; have hs9 := AF9.1; have HV9 := Lib.hid (And.intro hv9 AF9); clear hv9 ho9 hb9 AF9))
  have F := Lib.hid (show RowPost w (rowB key sec val) (.returned (.tuple #[v9, .int .i64 0])) w9 from by
    obtain ⟨h1, h2, h3⟩ := HV9.out
    have hz := HSZ.out
    have hz2 := HS2.out.size
    refine ⟨_, rfl, ?_, S0.out.trans (Only.below (HS2.out.trans h2) (by omega) fun _ _ e => e), fun g hg => ⟨by have := (h3 g hg).1; omega, (h3 g hg).2⟩⟩
    have e : bc (rowB key sec val) = [.int .u8 1] ++ bc (padB key 8) ++ bc (padB sec 6) ++ bc (padB val 8) := by
      unfold rowB
      rw [show (1 : Int) :: (padB key 8 ++ padB sec 6 ++ padB val 8) = [1] ++ (padB key 8 ++ padB sec 6 ++ padB val 8) from rfl, bc_append, bc_append, bc_append, List.append_assoc, List.append_assoc, List.append_assoc]
      rfl
    rw [e]
    exact h1)
  clear HV5 HV6 HV7 HV8 HV9 HBX hs5 hs6 hs7 hs8 hs9 HS2 S0 HC0 HP1 HP2 HP3 HM HA SA ZA HV4 HS4
  go_wp2_with fail
  go_ret2
  exact F.out
end Go.Proofs.YtojkggppcmdepaaGreat

/- Rows of bytes, copied, filled up. Conditions: they lie in memory. Slices that are appended to in one region, in whatever order, some of which were there before: each is what it must be, all lie apart. No conditions. The document's disk: a new one. Conditions: at least one tile, at most two thousand. begun answers true. No conditions. An entry of few bytes. Conditions: it lies in memory. -/
import Derived.Test.YtojkggppcmdepaaGreatQa19
import Derived.Lib.Hide
namespace Go.Proofs.YtojkggppcmdepaaGreat
open Go.RowKit Go.Wh Go.Maps

section
variable {P : Program} {w : World}
theorem run_append_void (t ty e : TypeId) (i : TypeInfo) (h1 : P.underlying t = some (.slice e)) (h2 : P.info? e = some i) (aa ra : Option Addr) (n cap rc : Nat) (hle : n ≤ cap) :
 (Builtin.append_ #[t, t] ty #[.slice aa n cap, .slice ra 0 rc]).run P w = .ok (.slice aa n cap) w := by
 have hst : ∀ b, (storeCells b ([] : List Value)).run P w = Result.ok () w := fun b => rfl
 have hfc : (Builtin.firstCells i.size 0 (.slice ra 0 rc)).run P w = .ok #[] w := by
  cases ra with
  | none => simp [Builtin.firstCells]
  | some b => exact run_firstCells_some (P := P) w i.size 0 b 0 rc [] (by simp) (fun j u hj => by simp at hj)
 cases aa with
 | none => simp [Builtin.append_, run_underlying h1, sizeOf, typeInfo, h2, Builtin.lenOf, hle, hfc]
 | some b => simp [Builtin.append_, run_underlying h1, sizeOf, typeInfo, h2, Builtin.lenOf, hle, hfc, hst]
theorem run_append_at_zeros (t tn ty e : TypeId) (i : TypeInfo) (kq kn : IntKind) (h1 : P.underlying t = some (.slice e)) (htn : P.underlying tn = some (.int kn)) (h2 : P.info? e = some i) (h3 : i.zero = some (.int .u8 0)) (h4 : i.size = 1) (h5 : i.bytes = 1)
 {g o cap n : Nat} {xs : List Value} (h : VecAt w 1 g o n cap xs) (k : Nat) (b1 : n + k ≤ 100000) :
 ∃ v' w', (Builtin.append_ #[t, tn] ty #[.slice (some ⟨g, o, none⟩) n cap, .int kq k]).run P w = .ok v' w' ∧ Vec w' 1 v' (n + k) (xs ++ List.replicate k (.int .u8 0)) ∧ Only (fun k => k = g) w w' ∧ (v'.ownBlock = some g ∨ ∃ g, v'.ownBlock = some g ∧ w.heap.size ≤ g ∧ g < w'.heap.size) := by
 have hl := h.len
 rcases Nat.eq_zero_or_pos k with rfl | hk
 · refine ⟨.slice (some ⟨g, o, none⟩) n cap, w, ?_, by rw [List.replicate_zero, List.append_nil]; exact .inr ⟨g, o, cap, rfl, h⟩, Only.refl _ _, .inl rfl⟩
   have hle := h.le
   have hw : IntKind.i64.wrap 0 = 0 := rfl
   have hst : ∀ b, (storeCells b ([] : List Value)).run P w = Result.ok () w := fun b => rfl
   simp [Builtin.append_, run_underlying h1, run_underlying htn, sizeOf, typeInfo, zeroValue, h2, h3, h4, h5, asInt, asIntOf, hw, hle, hst]
 rcases Nat.eq_zero_or_pos n with rfl | hn
 · have hnl : xs = [] := by simpa using hl
   subst hnl
   by_cases hr : k ≤ cap
   · have hsp : ∀ j, j < (List.replicate k (Value.int .u8 0)).length → (w.cell? ⟨g, o + 0 * 1 + j, none⟩).isSome = true ∧ w.frozen? ⟨g, o + 0 * 1 + j, none⟩ = false := fun j hj => by
      rw [List.length_replicate] at hj
      rw [Nat.add_assoc]
      exact h.room _ (by omega)
     have hst := run_storeCells_cells (P := P) g (o + 0 * 1) (List.replicate k (Value.int .u8 0)) 0 w (fun j hj => (hsp j hj).1) (fun j hj => (hsp j hj).2) (fun u hu => by rw [List.eq_of_mem_replicate hu]; rfl)
     simp only [Nat.add_zero] at hst
     refine ⟨_, _, ?_, .inr ⟨g, o, cap, rfl, h.more k (List.replicate k (Value.int .u8 0)) (by rw [List.length_replicate, Nat.mul_one]) (by omega)⟩, Only.grown (setCells_grown w g _ _) (fun j hj => (Option.some.inj hj).symm), .inl rfl⟩
     have hkn : k ≠ 0 := by omega
     have hw : IntKind.i64.wrap (k : Int) = k := by rw [IntKind.wrap_i64]; omega
     have h48i : ¬ (281474976710656 < (k : Int)) := by omega
     have hneg : ¬ ((k : Int) < 0) := by omega
     have hz := zeroCells_list k
     rw [Nat.mul_one] at hst
     simp only [Nat.zero_mul, Nat.add_zero] at hst ⊢
     simp [Builtin.append_, run_underlying h1, run_underlying htn, sizeOf, typeInfo, zeroValue, h2, h3, h4, h5, asInt, asIntOf, hw, hneg, hkn, hr, h48i, Addr.add_lit, hz, hst]
   · have hold : (Builtin.firstCells i.size 0 (.slice (some ⟨g, o, none⟩) 0 cap)).run P w.drew = .ok ([] : List Value).toArray w.drew :=
      run_firstCells_some (P := P) w.drew i.size 0 ⟨g, o, none⟩ 0 cap [] (by simp) (fun j u hj => by simp at hj)
     have hrun := Lib.run_append_grow_zeros (P := P) w t tn ty e i (.int .u8 0) kq kn h1 htn h2 h3 (some ⟨g, o, none⟩) 0 cap [] hold k hk (by omega) (by omega) (by omega) (by rw [h5]; omega) (by rw [h5]; exact growslice_fits (by omega) (by omega))
     have hge := grownCap_ge w (0 + k) cap e
     have hg := grown_vec w (0 + k) cap e ([] ++ List.replicate k (.int .u8 0)) (by simp only [maxLen]; omega) (by rw [List.length_append, List.length_replicate]; rfl) (cells := (([] : List Value).toArray ++ Builtin.zeroCells (Value.int .u8 0).cells k ++ Builtin.zeroCells (Value.int .u8 0).cells (grownCap w (0 + k) cap e - (0 + k))))
      (by rw [Array.size_append, Array.size_append, ← Array.length_toList (xs := Builtin.zeroCells _ (grownCap w (0 + k) cap e - (0 + k))), zeroCells_list, ← Array.length_toList (xs := Builtin.zeroCells _ k), zeroCells_list, List.length_replicate, List.length_replicate, List.size_toArray, List.length_nil]; omega)
      (by rw [Array.toList_append, Array.toList_append, zeroCells_list, List.take_append_of_le_length (by rw [List.length_append]; simp), List.take_of_length_le (by rw [List.length_append]; simp)])
     exact ⟨_, _, hrun, hg.1, hg.2 _, .inr ⟨w.heap.size, rfl, Nat.le_refl _, by simp⟩⟩
 · obtain ⟨v', w', r1, r2, r3, r4⟩ := run_append_vec_zeros (P := P) (w := w) t tn ty e i kq kn h1 htn h2 h3 h4 h5 (.inr ⟨g, o, cap, rfl, h⟩) hn k hk b1
   exact ⟨v', w', r1, r2, r3.mono fun b e => by have e' : some g = some b := e; exact (Option.some.inj e').symm, r4⟩
end

theorem wpList_append_given {P : Program} {w : World} {ops : Array Oper} {rest : List Oper} {o : Oper} {a : Act} {Q : Exit → Act → World → Prop} (hw : Region.wanted o (yielded ops a.tmps) = true) (s x : Operand) (t tx : TypeId)
 (hop : o.op = Op.call { callee := Callee.builtin Builtin.append, args := #[s, x], argTypes := #[t, tx] }) (v vx : Value) (hs : a.eval s = v) (hx : a.eval x = vx) (v' : Value) (w' : World)
 (hrun : (Builtin.append_ #[t, tx] o.type #[v, vx]).run P w = .ok v' w') (hK : wpList P ops Q rest (a.put o.dst v') w') : wpList P ops Q (o :: rest) a w := by
 refine wpList_step fun K hK' => ?_
 rw [if_pos hw]
 unfold Oper.wp
 simp [execOp, hop, resolve, invoke, builtin, hs, hx, hrun, Result.andThen]
 exact hK' _ _ hK
theorem raw_row (w : World) (Q : Nat → Prop) (ra : Option Addr) (rc rn N : Nat) (R : List Int) (h : 0 < rn → Sl w Q 1 (.slice ra rn rc) rn (bc R)) (hl : R.length = rn) (h64 : rn ≤ 64) (hN : 64 - rn = N) :
 ∃ v1 w1 v2 w2, (Builtin.append_ #[23, 23] 23 #[.slice (some ⟨w.heap.size, 0, none⟩) 0 0, .slice ra rn rc]).run Tryz.prog (w.alloc (.cells #[] 5)) = .ok v1 w1 ∧
  (Builtin.append_ #[23, 3] 23 #[v1, .int .i64 (N : Int)]).run Tryz.prog w1 = .ok v2 w2 ∧ Reads w2 1 v2 64 (bc (R ++ List.replicate N 0)) ∧ Still w w2 ∧ (∀ g, v2.ownBlock = some g → w.heap.size ≤ g) ∧ Still w w1 := by
 obtain ⟨i0, hi, hz0, hz1, hz2⟩ := info_parts info_b
 have hz : (w.alloc (.cells #[] 5)).heap.size = w.heap.size + 1 := by simp
 have hs0 : Still w (w.alloc (.cells #[] 5)) := (Still.refl w).alloc _
 have hv0 : VecAt (w.alloc (.cells #[] 5)) 1 w.heap.size 0 0 0 [] := by
  have := Vec.none_ (w.alloc (.cells #[] 5)) 1 w.heap.size 0
  exact this.at
 have key : ∃ v1 w1, (Builtin.append_ #[23, 23] 23 #[.slice (some ⟨w.heap.size, 0, none⟩) 0 0, .slice ra rn rc]).run Tryz.prog (w.alloc (.cells #[] 5)) = .ok v1 w1 ∧ Still w w1 ∧
  ∃ g o cap, v1 = .slice (some ⟨g, o, none⟩) rn cap ∧ VecAt w1 1 g o rn cap (bc R) ∧ w.heap.size ≤ g := by
  rcases Nat.eq_zero_or_pos rn with rfl | hp
  · rw [List.length_eq_zero_iff.1 hl]
    exact ⟨_, _, run_append_void _ _ _ i0 Tryz.underlying23 hi _ _ _ _ _ (Nat.le_refl _), hs0, _, _, _, rfl, hv0, Nat.le_refl _⟩
  · obtain ⟨v1, w1, r1, r2, r3, r4⟩ := run_append_vec (P := Tryz.prog) (w := w.alloc (.cells #[] 5)) 23 23 5 i0 _ 1 1 Tryz.underlying23 hi hz0 hz1 hz2 rfl (by decide) (Vec.none_ _ _ _ _) ((h hp).still hs0).reads (bc_one R) (by simp only [maxLen]; omega) (by omega)
    rw [Nat.zero_add, List.nil_append] at r2
    have hst : Still w w1 := hs0.andThen r3 fun j hj e => by
     have e2 : w.heap.size = j := Option.some.inj e
     omega
    obtain ⟨g, o, cap, rfl, ht⟩ := r2.form hp
    refine ⟨_, w1, r1, hst, g, o, cap, rfl, ht, ?_⟩
    rcases r4 with e | ⟨g', e, e1, e2⟩
    · have e2 : some g = some w.heap.size := e
      injection e2 with e2
      omega
    · have e3 : some g = some g' := e
      injection e3 with e3
      omega
 obtain ⟨v1, w1, r1, hs1, g, o, cap, rfl, ht, hg⟩ := key
 obtain ⟨v2, w2, q1, q2, q3, q4⟩ := run_append_at_zeros (P := Tryz.prog) 23 3 23 5 i0 .i64 .i64 Tryz.underlying23 Tryz.underlying3 hi hz0 hz1 hz2 ht N (by omega)
 have e64 : rn + N = 64 := by omega
 rw [e64] at q2
 have hsz := hs1.size
 refine ⟨_, w1, v2, w2, r1, q1, ?_, hs1.andThen q3 fun j hj e => by omega, fun g' hg' => ?_, hs1⟩
 · rw [bc_append]
   have : bc (List.replicate N 0) = List.replicate N (.int .u8 0) := by
    unfold bc
    rw [List.map_replicate]
   rw [this]
   exact q2.reads
 · rcases q4 with e | ⟨g2, e, e1, e2⟩
   · rw [e] at hg'
     injection hg' with hg'
     omega
   · rw [e] at hg'
     injection hg' with hg'
     omega
theorem copy_row (w : World) (Q : Nat → Prop) (ra : Option Addr) (rc rn : Nat) (R : List Int) (h : 0 < rn → Sl w Q 1 (.slice ra rn rc) rn (bc R)) (hl : R.length = rn) (h64 : rn ≤ 10000) :
 ∃ g o cap w1, (Builtin.append_ #[23, 23] 23 #[.slice (some ⟨w.heap.size, 0, none⟩) 0 0, .slice ra rn rc]).run Tryz.prog (w.alloc (.cells #[] 5)) = .ok (.slice (some ⟨g, o, none⟩) rn cap) w1 ∧ Still w w1 ∧
  VecAt w1 1 g o rn cap (bc R) ∧ w.heap.size ≤ g ∧ g < w1.heap.size := by
 obtain ⟨i0, hi, hz0, hz1, hz2⟩ := info_parts info_b
 have hz : (w.alloc (.cells #[] 5)).heap.size = w.heap.size + 1 := by simp
 have hs0 : Still w (w.alloc (.cells #[] 5)) := (Still.refl w).alloc _
 have hv0 : VecAt (w.alloc (.cells #[] 5)) 1 w.heap.size 0 0 0 [] := by
  have := Vec.none_ (w.alloc (.cells #[] 5)) 1 w.heap.size 0
  exact this.at
 rcases Nat.eq_zero_or_pos rn with rfl | hp
 · rw [List.length_eq_zero_iff.1 hl]
   exact ⟨_, _, _, _, run_append_void _ _ _ i0 Tryz.underlying23 hi _ _ _ _ _ (Nat.le_refl _), hs0, hv0, Nat.le_refl _, by omega⟩
 · obtain ⟨v1, w1, r1, r2, r3, r4⟩ := run_append_vec (P := Tryz.prog) (w := w.alloc (.cells #[] 5)) 23 23 5 i0 _ 1 1 Tryz.underlying23 hi hz0 hz1 hz2 rfl (by decide) (Vec.none_ _ _ _ _) ((h hp).still hs0).reads (bc_one R) (by simp only [maxLen]; omega) (by omega)
   rw [Nat.zero_add, List.nil_append] at r2
   have hst : Still w w1 := hs0.andThen r3 fun j hj e => by
    have e2 : w.heap.size = j := Option.some.inj e
    omega
   have hz1 := r3.size
   obtain ⟨g, o, cap, rfl, ht⟩ := r2.form hp
   refine ⟨g, o, cap, w1, r1, hst, ht, ?_⟩
   rcases r4 with e | ⟨g', e, e1, e2⟩
   · have e2 : some g = some w.heap.size := e
     injection e2 with e2
     omega
   · have e3 : some g = some g' := e
     injection e3 with e3
     omega
end Go.Proofs.YtojkggppcmdepaaGreat

namespace Go.Wh
open Go.RowKit

structure ChT where
 I : List Nat
 sz : Nat → Nat
 n : Nat → Nat
 cs : Nat → List Value
 use : Nat → Nat
 old : Nat → Option Value
def ChT.val (X : ChT) (xs : Nat → Value) (i : Nat) : Value := (X.old i).getD (xs i)

structure ChO (W : World) (O : Nat → Prop) (X : ChT) (L : Nat → Bool) (xs : Nat → Value) (w : World) : Prop where
 still : Only O W w
 vec : ∀ i ∈ X.I, L i = true → L (X.use i) = false → Vec w (X.sz i) (X.val xs i) (X.n i) (X.cs i) ∧ ∀ g, (X.val xs i).ownBlock = some g → (O g ∨ W.heap.size ≤ g) ∧ g < w.heap.size
 apart : ∀ i ∈ X.I, ∀ j ∈ X.I, i ≠ j → L i = true → L j = true → L (X.use i) = false → L (X.use j) = false → ∀ g, (X.val xs i).ownBlock = some g → (X.val xs j).ownBlock ≠ some g

section
variable {W w w' : World} {O : Nat → Prop} {X : ChT} {L : Nat → Bool} {xs : Nat → Value} {i s : Nat} {v : Value}
theorem ChT.val_at (ho : X.old i = none) : X.val (upN xs i v) i = v := by
 unfold ChT.val
 rw [ho]
 exact if_pos rfl
theorem ChT.val_other {j : Nat} (h : j ≠ i) : X.val (upN xs i v) j = X.val xs j := by
 unfold ChT.val upN
 rw [if_neg h]
theorem up_at {α : Type} (f : Nat → α) (i : Nat) (v : α) : upN f i v i = v := if_pos rfl
theorem up_other {α : Type} (f : Nat → α) {i j : Nat} (v : α) (h : j ≠ i) : upN f i v j = f j := if_neg h
theorem up_false {L : Nat → Bool} {i j : Nat} (h : upN L i true j = false) : j ≠ i ∧ L j = false := by
 by_cases e : j = i
 · subst e
   rw [up_at] at h
   cases h
 · rw [up_other _ _ e] at h
   exact ⟨e, h⟩
theorem ChO.build (h : ChO W O X L xs w) (hold : X.old i = none) (ob : Obj) (hv : Vec (w.alloc ob) (X.sz i) v (X.n i) (X.cs i)) (hg : ∀ g, v.ownBlock = some g → g = w.heap.size) : ChO W O X (upN L i true) (upN xs i v) (w.alloc ob) := by
 have hz : (w.alloc ob).heap.size = w.heap.size + 1 := by simp
 have hsz := h.still.size
 refine ⟨h.still.alloc ob, fun j hj h1 h2 => ?_, fun j hj k hk hjk h1 h2 h3 h4 g hgj => ?_⟩
 · by_cases e : j = i
   · subst e
     rw [ChT.val_at hold]
     exact ⟨hv, fun g e => by rw [hg g e]; exact ⟨.inr (by omega), by omega⟩⟩
   · rw [up_other _ _ e] at h1
     rw [ChT.val_other e]
     obtain ⟨a, b⟩ := h.vec j hj h1 (up_false h2).2
     exact ⟨a.alloc ob, fun g hg => ⟨(b g hg).1, by have := (b g hg).2; omega⟩⟩
 · by_cases e : j = i
   · subst e
     rw [ChT.val_at hold] at hgj
     have e2 : k ≠ j := Ne.symm hjk
     rw [up_other _ _ e2] at h2
     rw [ChT.val_other e2]
     intro hgk
     have := ((h.vec k hk h2 (up_false h4).2).2 g hgk).2
     have := hg g hgj
     omega
   · rw [up_other _ _ e] at h1
     rw [ChT.val_other e] at hgj
     by_cases e2 : k = i
     · subst e2
       rw [ChT.val_at hold]
       intro hgk
       have := ((h.vec j hj h1 (up_false h3).2).2 g hgj).2
       have := hg g hgk
       omega
     · rw [up_other _ _ e2] at h2
       rw [ChT.val_other e2]
       exact h.apart j hj k hk hjk h1 h2 (up_false h3).2 (up_false h4).2 g hgj
theorem ChO.app (h : ChO W O X L xs w) (hs' : X.I.contains s = true) (hus : X.use s = i) (hls : L s = true) (hli : L i = false) (hold : X.old i = none) (hv : Vec w' (X.sz i) v (X.n i) (X.cs i)) (ho : Only (fun k => (X.val xs s).ownBlock = some k) w w')
 (hb : v.ownBlock = (X.val xs s).ownBlock ∨ ∃ g, v.ownBlock = some g ∧ w.heap.size ≤ g ∧ g < w'.heap.size) : ChO W O X (upN L i true) (upN xs i v) w' := by
 have hs : s ∈ X.I := List.contains_iff_mem.1 hs'
 have hsv := h.vec s hs hls (by rw [hus]; exact hli)
 have hsz := h.still.size
 have hoz := ho.size
 have hvb : ∀ g, v.ownBlock = some g → (O g ∨ W.heap.size ≤ g) ∧ g < w'.heap.size := fun g hg => by
  rcases hb with e | ⟨g', e, h1, h2⟩
  · have := hsv.2 g (e.symm.trans hg)
    exact ⟨this.1, by omega⟩
  · rw [e] at hg
    injection hg with hg
    exact ⟨.inr (by omega), by omega⟩
 have hne : ∀ j, j ∈ X.I → j ≠ i → L j = true → upN L i true (X.use j) = false → j ≠ s ∧ L (X.use j) = false := fun j _ _ _ h2 => by
  obtain ⟨e1, e2⟩ := up_false h2
  exact ⟨fun e => e1 (by rw [e]; exact hus), e2⟩
 have hap : ∀ j, j ∈ X.I → j ≠ i → L j = true → upN L i true (X.use j) = false → ∀ g, (X.val xs j).ownBlock = some g → v.ownBlock ≠ some g := fun j hj hji h1 h2 g hg hvg => by
  obtain ⟨e1, e2⟩ := hne j hj hji h1 h2
  rcases hb with e | ⟨g', e, h3, h4⟩
  · exact h.apart j hj s hs e1 h1 hls e2 (by rw [hus]; exact hli) g hg (e.symm.trans hvg)
  · have := ((h.vec j hj h1 e2).2 g hg).2
    rw [e] at hvg
    injection hvg with hvg
    omega
 refine ⟨h.still.andThen ho fun b hb e => ?_, fun j hj h1 h2 => ?_, fun j hj k hk hjk h1 h2 h3 h4 g hgj => ?_⟩
 · rcases (hsv.2 b e).1 with h | h
   · exact h
   · omega
 · by_cases e : j = i
   · subst e
     rw [ChT.val_at hold]
     exact ⟨hv, hvb⟩
   · rw [up_other _ _ e] at h1
     rw [ChT.val_other e]
     obtain ⟨e1, e2⟩ := hne j hj e h1 h2
     obtain ⟨a, b⟩ := h.vec j hj h1 e2
     exact ⟨a.only ho fun g hg => h.apart s hs j hj (Ne.symm e1) hls h1 (by rw [hus]; exact hli) e2 |> fun q e3 => q g e3 hg, fun g hg => ⟨(b g hg).1, by have := (b g hg).2; omega⟩⟩
 · by_cases e : j = i
   · subst e
     rw [ChT.val_at hold] at hgj
     have e2 : k ≠ j := Ne.symm hjk
     rw [up_other _ _ e2] at h2
     rw [ChT.val_other e2]
     exact fun hgk => hap k hk e2 h2 h4 g hgk hgj
   · rw [up_other _ _ e] at h1
     rw [ChT.val_other e] at hgj
     by_cases e2 : k = i
     · subst e2
       rw [ChT.val_at hold]
       exact hap j hj e h1 h3 g hgj
     · rw [up_other _ _ e2] at h2
       rw [ChT.val_other e2]
       exact h.apart j hj k hk hjk h1 h2 (hne j hj e h1 h3).2 (hne k hk e2 h2 h4).2 g hgj
end

section
variable {P : Program} {ops : Array Oper} {Q : Exit → Act → World → Prop} {W : World} {O : Nat → Prop} {X : ChT} {B : List (Nat × Nat)} {dep : Nat → List Nat} {a : Act} {i s tt : Nat} {o : Oper}
theorem ChO.stepApp (s : Nat) (ho : ops[i]? = some o) (hgd : o.guard = none) (ds dx : Operand) (t : TypeId) (hop : o.op = Op.call { callee := Callee.builtin Builtin.append, args := #[ds, dx], argTypes := #[t, t] }) (hdst : o.dst = some tt)
 (e : TypeId) (inf : TypeInfo) (z : Value) (size bytes : Nat) (h1 : P.underlying t = some (.slice e)) (h2 : P.info? e = some inf) (h3 : inf.zero = some z) (h4 : inf.size = size) (h5 : inf.bytes = bytes) (h6 : z.cells.size = size) (h7 : 0 < size)
 (m : Nat) (news : List Value) (hs : X.I.contains s = true) (hus : X.use s = i) (hold : X.old i = none) (hdep : ∀ L : Nat → Bool, (∀ j ∈ dep i, L j = true) → L s = true) (hsz : X.sz s = size) (hszi : X.sz i = size) (hn : X.n i = X.n s + m) (hc : X.cs i = X.cs s ++ news) (h1c : ∀ u ∈ news, u.oneCell' = true)
 (b1 : X.n s + m ≤ maxLen) (b2 : (X.n s + m) * bytes ≤ 140737488355328) (hev : ∀ xs, (fillA B xs a).eval ds = X.val xs s)
 (hx : ∀ L xs w, (∀ j ∈ dep i, L j = true) → L i = false → ChO W O X L xs w → ∃ vx, (fillA B xs a).eval dx = vx ∧ Reads w size vx m news) : StepM P ops Q (ChO W O X) B dep a i tt := by
 refine StepM.of ho fun L xs w hd hl hJ K hK => ?_
 obtain ⟨vx, e1, e2⟩ := hx L xs w hd hl hJ
 have hls := hdep L hd
 have hv := (hJ.vec s (List.contains_iff_mem.1 hs) hls (by rw [hus]; exact hl)).1
 refine step_append_vec hgd ds dx t hop e inf z size bytes h1 h2 h3 h4 h5 h6 h7 (X.val xs s) (X.n s) (X.cs s) (hev xs) (hsz ▸ hv) vx m news e1 e2 h1c b1 b2 ?_
 intro v' w' hv' ho' hb'
 exact hK _ _ (hJ.app hs hus hls hl hold (by rw [hszi, hn, hc]; exact hv') ho' hb') _ (by rw [hdst])
end
end Go.Wh

namespace Go.Proofs.YtojkggppcmdepaaGreat
open Go.RowKit Go.Wh Go.Maps

theorem info_str : (Tryz.prog.info? 9).map (fun i => (i.zero, i.size, i.bytes)) = some (some (.string ⟨#[]⟩), 1, 16) := by kernel_rfl
theorem info_bool : (Tryz.prog.info? 4).map (fun i => (i.zero, i.size, i.bytes)) = some (some (.bool false), 1, 1) := by kernel_rfl
def zStr : Value := .string (strOfNums (List.replicate 64 0))
structure RnRaw (w0 w : World) (d i : Nat) (v1 v2 v3 : Value) : Prop where
 cells : cellsAt w d [v1, v2, v3, .bool false, .bool false, .int .i64 0, .slice none 0 0]
 r1 : Vec w 1 v1 i (List.replicate i zStr)
 r2 : Vec w 1 v2 i (List.replicate i zStr)
 r3 : Vec w 1 v3 i (List.replicate i (.bool false))
 o1 : ∀ g, v1.ownBlock = some g → w0.heap.size ≤ g ∧ g < w.heap.size ∧ g ≠ d
 o2 : ∀ g, v2.ownBlock = some g → w0.heap.size ≤ g ∧ g < w.heap.size ∧ g ≠ d
 o3 : ∀ g, v3.ownBlock = some g → w0.heap.size ≤ g ∧ g < w.heap.size ∧ g ≠ d
 n12 : ∀ g, v1.ownBlock = some g → v2.ownBlock ≠ some g
 n13 : ∀ g, v1.ownBlock = some g → v3.ownBlock ≠ some g
 n23 : ∀ g, v2.ownBlock = some g → v3.ownBlock ≠ some g
 dn : w0.heap.size ≤ d
 still : Still w0 w
def RnRel (w0 : World) (d i : Nat) (w : World) : Prop := ∃ v1 v2 v3, RnRaw w0 w d i v1 v2 v3
theorem RnRaw.kept {w0 w w' : World} {d i : Nat} {v1 v2 v3 : Value} (h : RnRaw w0 w d i v1 v2 v3) (hs : Still w w') : RnRaw w0 w' d i v1 v2 v3 :=
 have hz := hs.size
 ⟨h.cells.only hs (fun e => e), h.r1.only hs (fun _ _ e => e), h.r2.only hs (fun _ _ e => e), h.r3.only hs (fun _ _ e => e), (fun g e => ⟨(h.o1 g e).1, by have := (h.o1 g e).2.1; omega, (h.o1 g e).2.2⟩), (fun g e => ⟨(h.o2 g e).1, by have := (h.o2 g e).2.1; omega, (h.o2 g e).2.2⟩), (fun g e => ⟨(h.o3 g e).1, by have := (h.o3 g e).2.1; omega, (h.o3 g e).2.2⟩), h.n12, h.n13, h.n23, h.dn, h.still.trans hs⟩
theorem RnRel.still {w0 w w' : World} {d i : Nat} (h : RnRel w0 d i w) (hs : Still w w') : RnRel w0 d i w' := by
 obtain ⟨v1, v2, v3, h⟩ := h
 exact ⟨v1, v2, v3, h.kept hs⟩
theorem RnRel.start (w : World) (t : TypeId) : RnRel w w.heap.size 0 (w.alloc (.cells #[.slice none 0 0, .slice none 0 0, .slice none 0 0, .bool false, .bool false, .int .i64 0, .slice none 0 0] t)) :=
 ⟨.slice none 0 0, .slice none 0 0, .slice none 0 0, cellsAt_new w [.slice none 0 0, .slice none 0 0, .slice none 0 0, .bool false, .bool false, .int .i64 0, .slice none 0 0] t, Vec.nil _ _, Vec.nil _ _, Vec.nil _ _, (fun g e => by cases e), (fun g e => by cases e), (fun g e => by cases e), (fun g e => by cases e), (fun g e => by cases e), (fun g e => by cases e), Nat.le_refl _, (Still.refl w).alloc _⟩
def rnX (i : Nat) (v1 v2 v3 : Value) : ChT :=
 { I := [6, 8, 9, 13, 15, 16, 20, 21, 22], sz := fun _ => 1, n := fun j => if j = 6 ∨ j = 13 ∨ j = 20 then i else if j = 8 ∨ j = 15 ∨ j = 21 then 1 else i + 1,
   cs := fun j => if j = 6 ∨ j = 13 then List.replicate i zStr else if j = 20 then List.replicate i (.bool false) else if j = 8 ∨ j = 15 then [zStr] else if j = 21 then [.bool false] else if j = 22 then List.replicate i (.bool false) ++ [.bool false] else List.replicate i zStr ++ [zStr],
   use := fun j => if j = 6 ∨ j = 8 then 9 else if j = 13 ∨ j = 15 then 16 else if j = 20 ∨ j = 21 then 22 else 999,
   old := fun j => if j = 6 then some v1 else if j = 13 then some v2 else if j = 20 then some v3 else none }
def rnO (v1 v2 v3 : Value) (g : Nat) : Prop := v1.ownBlock = some g ∨ v2.ownBlock = some g ∨ v3.ownBlock = some g
section
variable {w0 w w' : World} {d i : Nat} {v1 v2 v3 : Value}
theorem RnRaw.begun (h : RnRaw w0 w d i v1 v2 v3) {L : Nat → Bool} (h8 : L 8 = false) (h9 : L 9 = false) (h15 : L 15 = false) (h16 : L 16 = false) (h21 : L 21 = false) (h22 : L 22 = false) (xs : Nat → Value) : ChO w (rnO v1 v2 v3) (rnX i v1 v2 v3) L xs w.drew := by
 refine ⟨(Only.refl _ _).drew, fun j hj h1 _ => ?_, fun j hj k hk hjk h1 h2 _ _ g hgj hgk => ?_⟩
 · simp only [rnX, List.mem_cons, List.not_mem_nil, or_false] at hj
   rcases hj with rfl | rfl | rfl | rfl | rfl | rfl | rfl | rfl | rfl
   · exact ⟨h.r1.drew, fun g hg => ⟨.inl (.inl hg), (h.o1 g hg).2.1⟩⟩
   · rw [h8] at h1; cases h1
   · rw [h9] at h1; cases h1
   · exact ⟨h.r2.drew, fun g hg => ⟨.inl (.inr (.inl hg)), (h.o2 g hg).2.1⟩⟩
   · rw [h15] at h1; cases h1
   · rw [h16] at h1; cases h1
   · exact ⟨h.r3.drew, fun g hg => ⟨.inl (.inr (.inr hg)), (h.o3 g hg).2.1⟩⟩
   · rw [h21] at h1; cases h1
   · rw [h22] at h1; cases h1
 · have key : ∀ j, j ∈ (rnX i v1 v2 v3).I → L j = true → j = 6 ∨ j = 13 ∨ j = 20 := fun j hj h1 => by
    simp only [rnX, List.mem_cons, List.not_mem_nil, or_false] at hj
    rcases hj with rfl | rfl | rfl | rfl | rfl | rfl | rfl | rfl | rfl
    · exact .inl rfl
    · rw [h8] at h1; cases h1
    · rw [h9] at h1; cases h1
    · exact .inr (.inl rfl)
    · rw [h15] at h1; cases h1
    · rw [h16] at h1; cases h1
    · exact .inr (.inr rfl)
    · rw [h21] at h1; cases h1
    · rw [h22] at h1; cases h1
   rcases key j hj h1 with rfl | rfl | rfl <;> rcases key k hk h2 with rfl | rfl | rfl
   · exact hjk rfl
   · exact h.n12 g hgj hgk
   · exact h.n13 g hgj hgk
   · exact h.n12 g hgk hgj
   · exact hjk rfl
   · exact h.n23 g hgj hgk
   · exact h.n13 g hgk hgj
   · exact h.n23 g hgk hgj
   · exact hjk rfl
theorem RnRaw.next (h : RnRaw w0 w d i v1 v2 v3) {L : Nat → Bool} {xs : Nat → Value} (hJ : ChO w (rnO v1 v2 v3) (rnX i v1 v2 v3) L xs w') (h9 : L 9 = true) (h16 : L 16 = true) (h22 : L 22 = true) (h999 : L 999 = false) :
 RnRaw w0 (((w'.setCell ⟨d, 0, none⟩ (xs 9)).setCell ⟨d, 1, none⟩ (xs 16)).setCell ⟨d, 2, none⟩ (xs 22)) d (i + 1) (xs 9) (xs 16) (xs 22) ∧ Vec w' 1 (xs 9) (i + 1) (List.replicate i zStr ++ [zStr]) ∧ Vec w' 1 (xs 16) (i + 1) (List.replicate i zStr ++ [zStr]) ∧ Vec w' 1 (xs 22) (i + 1) (List.replicate i (.bool false) ++ [.bool false]) ∧ cellsAt w' d [v1, v2, v3, .bool false, .bool false, .int .i64 0, .slice none 0 0] := by
 obtain ⟨a1, b1⟩ := hJ.vec 9 (List.contains_iff_mem.1 rfl) h9 h999
 obtain ⟨a2, b2⟩ := hJ.vec 16 (List.contains_iff_mem.1 rfl) h16 h999
 obtain ⟨a3, b3⟩ := hJ.vec 22 (List.contains_iff_mem.1 rfl) h22 h999
 have n12 := hJ.apart 9 (List.contains_iff_mem.1 rfl) 16 (List.contains_iff_mem.1 rfl) (by decide) h9 h16 h999 h999
 have n13 := hJ.apart 9 (List.contains_iff_mem.1 rfl) 22 (List.contains_iff_mem.1 rfl) (by decide) h9 h22 h999 h999
 have n23 := hJ.apart 16 (List.contains_iff_mem.1 rfl) 22 (List.contains_iff_mem.1 rfl) (by decide) h16 h22 h999 h999
 change Vec w' 1 (xs 9) (i + 1) (List.replicate i zStr ++ [zStr]) at a1
 change Vec w' 1 (xs 16) (i + 1) (List.replicate i zStr ++ [zStr]) at a2
 change Vec w' 1 (xs 22) (i + 1) (List.replicate i (.bool false) ++ [.bool false]) at a3
 change ∀ g, (xs 9).ownBlock = some g → (rnO v1 v2 v3 g ∨ w.heap.size ≤ g) ∧ g < w'.heap.size at b1
 change ∀ g, (xs 16).ownBlock = some g → (rnO v1 v2 v3 g ∨ w.heap.size ≤ g) ∧ g < w'.heap.size at b2
 change ∀ g, (xs 22).ownBlock = some g → (rnO v1 v2 v3 g ∨ w.heap.size ≤ g) ∧ g < w'.heap.size at b3
 change ∀ g, (xs 9).ownBlock = some g → (xs 16).ownBlock ≠ some g at n12
 change ∀ g, (xs 9).ownBlock = some g → (xs 22).ownBlock ≠ some g at n13
 change ∀ g, (xs 16).ownBlock = some g → (xs 22).ownBlock ≠ some g at n23
 have hO : ∀ g, rnO v1 v2 v3 g → w0.heap.size ≤ g ∧ g ≠ d := fun g hg => by
  rcases hg with e | e | e
  · exact ⟨(h.o1 g e).1, (h.o1 g e).2.2⟩
  · exact ⟨(h.o2 g e).1, (h.o2 g e).2.2⟩
  · exact ⟨(h.o3 g e).1, (h.o3 g e).2.2⟩
 have hdl := h.cells.lt
 have hsz := h.still.size
 have hc := h.cells.only hJ.still fun e => (hO d e).2 rfl
 have hz : (((w'.setCell ⟨d, 0, none⟩ (xs 9)).setCell ⟨d, 1, none⟩ (xs 16)).setCell ⟨d, 2, none⟩ (xs 22)).heap.size = w'.heap.size := by simp [World.setCell]
 have hs : Only (fun b => b = d) w' (((w'.setCell ⟨d, 0, none⟩ (xs 9)).setCell ⟨d, 1, none⟩ (xs 16)).setCell ⟨d, 2, none⟩ (xs 22)) := ((setCell_only w' ⟨d, 0, none⟩ _).trans (setCell_only _ ⟨d, 1, none⟩ _)).trans (setCell_only _ ⟨d, 2, none⟩ _)
 have fr : ∀ g, (rnO v1 v2 v3 g ∨ w.heap.size ≤ g) ∧ g < w'.heap.size → w0.heap.size ≤ g ∧ g < w'.heap.size ∧ g ≠ d := fun g hg => by
  rcases hg.1 with e | e
  · exact ⟨(hO g e).1, hg.2, (hO g e).2⟩
  · exact ⟨by omega, hg.2, by omega⟩
 refine ⟨⟨((hc.setCell 0 _).setCell 1 _).setCell 2 _, ?_, ?_, ?_, ?_, ?_, ?_, n12, n13, n23, h.dn, ?_⟩, a1, a2, a3, hc⟩
 · rw [List.replicate_succ']
   exact a1.only hs fun g hg e => (fr g (b1 g hg)).2.2 e
 · rw [List.replicate_succ']
   exact a2.only hs fun g hg e => (fr g (b2 g hg)).2.2 e
 · rw [List.replicate_succ']
   exact a3.only hs fun g hg e => (fr g (b3 g hg)).2.2 e
 · rw [hz]; exact fun g hg => fr g (b1 g hg)
 · rw [hz]; exact fun g hg => fr g (b2 g hg)
 · rw [hz]; exact fun g hg => fr g (b3 g hg)
 · have h1 : Still w0 w' := h.still.andThen hJ.still fun g hg e => by have := (hO g e).1; omega
   exact h1.andThen hs fun g hg e => by have := h.dn; have e' : g = d := e; omega
end
set_option maxHeartbeats 4000000 in
set_option maxRecDepth 100000 in
theorem rnew_raw (w : World) (n : Nat) (hn : n ≤ 2000) :
 Calls Tryz.prog 14 #[.int .i64 n] w (fun e w' => ∃ d, e = .returned (.pointer (some ⟨d, 0, none⟩)) ∧ RnRel w d n w') := by
 have HW := Lib.hid (RnRel.start w)
 have hmk : ∀ w : World, (Instr.makeSlice 23 (.int .i64 64) (.int .i64 64)).run Tryz.prog w = .ok (.slice (some ⟨w.heap.size, 0, none⟩) 64 64) (w.alloc (.cells zeros64 5)) := make64
 have cv : ∀ w : World, (convert 23 9 (.slice (some ⟨w.heap.size, 0, none⟩) 64 64)).run Tryz.prog (w.alloc (.cells zeros64 5)) = .ok (.string (strOfNums (List.replicate 64 0))) (w.alloc (.cells zeros64 5)) := fun w => by
  have hc := cellsAt_new w (bc (List.replicate 64 0)) 5
  obtain ⟨tt, hb2⟩ := hc
  have hv := vecAt_block (size := 1) (n := 64) (cap := 64) hb2 (by simp [bc]) (by omega) (by simp only [maxLen]; omega)
  rw [List.take_of_length_le (by simp [bc])] at hv
  exact convB (Vec.sl (Q := fun _ => True) (.inr ⟨_, _, _, rfl, hv⟩) fun g e => by
   have e' : w.heap.size = g := Option.some.inj e
   exact ⟨trivial, by rw [← e']; simp [zeros64]⟩)
 have HN := Lib.hid hn
 obtain ⟨i0, hi0, hz0, hz1, hz2⟩ := info_parts info_str
 obtain ⟨i1, hi1, hy0, hy1, hy2⟩ := info_parts info_bool
 have HI := Lib.hid (And.intro hi0 (And.intro hz0 (And.intro hz1 hz2)))
 have HJ := Lib.hid (And.intro hi1 (And.intro hy0 (And.intro hy1 hy2)))
 clear hn hi0 hz0 hz1 hz2 hi1 hy0 hy1 hy2
 go_enter Tryz.func14, Tryz.ntmps14
 go_upto_region 2 with fail
 have hW := HW.out 63
 clear HW
 obtain ⟨d, hd⟩ : ∃ d, w.heap.size = d := ⟨_, rfl⟩
 have hzb : (w.alloc (.cells #[.slice none 0 0, .slice none 0 0, .slice none 0 0, .bool false, .bool false, .int .i64 0, .slice none 0 0] 63)).heap.size = d + 1 := by simp [hd]
 rw [hd] at hW ⊢
 clear hd
 generalize (w.alloc (.cells #[.slice none 0 0, .slice none 0 0, .slice none 0 0, .bool false, .bool false, .int .i64 0, .slice none 0 0] 63)) = w1 at *
 obtain ⟨b, hb⟩ : ∃ b, w1.heap.size = b := ⟨_, rfl⟩
 have cw := cv w1
 rw [hb] at cw
 have HW := Lib.hid (show RnRel w d 0 (w1.alloc (.cells zeros64 5)) from RnRel.still hW ((Still.refl w1).alloc _))
 clear hW cv hzb
 go_wp2_with fail
 clear hmk cw hb
 generalize w1.alloc (.cells zeros64 5) = w2 at *
 go_loopw [5] (fun s wr => ∃ i : Nat, s = .int .i64 i ∧ i ≤ n ∧ RnRel w d i wr) (fun s _ => n - (intOf s).toNat)
 case atStart => exact ⟨0, rfl, Nat.zero_le _, HW.out⟩
 clear HW
 obtain ⟨i, rfl, hin, v1, v2, v3, hr⟩ := hrel
 have HR := Lib.hid hr
 have HIN := Lib.hid hin
 by_cases hi : i < n
 rotate_left
 · have d1 : decide ((i : Int) < (n : Int)) = false := decide_eq_false (by omega)
   have d2 : decide (i < n) = false := decide_eq_false hi
   have hge : i = n := by omega
   have F := Lib.hid (show ∃ d', (Ending.returned (.pointer (some ⟨d, 0, none⟩))) = .returned (.pointer (some ⟨d', 0, none⟩)) ∧ RnRel w d' n wr from ⟨d, rfl, v1, v2, v3, hge ▸ hr⟩)
   clear hr hi hge
   go_wp2_with fail
   go_ret
   exact F.out
 · have d1 : decide ((i : Int) < (n : Int)) = true := decide_eq_true (by omega)
   have d2 : decide (i < n) = true := decide_eq_true hi
   have e1 : decide ((i : Int) < 2000) = true := decide_eq_true (by have := HN.out; omega)
   have e2 : decide (i < 2000) = true := decide_eq_true (by have := HN.out; omega)
   have u9 : IntKind.i64.wrap ((i : Int) + 1) = (i : Int) + 1 := IntWalk.i64_in _ (by have := HN.out; omega)
   obtain ⟨ta, tc, rfl⟩ := hr.r1.form'
   obtain ⟨ua, uc, rfl⟩ := hr.r2.form'
   obtain ⟨va, vc, rfl⟩ := hr.r3.form'
   have HI2 := Lib.hid hi
   have HS0 := Lib.hid (show (fun w' : World => w'.cell? ⟨d, 0, none⟩ = some (.slice ta i tc) ∧ w'.cell? ⟨d, 1, none⟩ = some (.slice ua i uc) ∧ w'.cell? ⟨d, 2, none⟩ = some (.slice va i vc) ∧ w'.frozen? ⟨d, 0, none⟩ = false ∧ w'.frozen? ⟨d, 1, none⟩ = false ∧ w'.frozen? ⟨d, 2, none⟩ = false) wr from ⟨hr.cells.cell 0, hr.cells.cell 1, hr.cells.cell 2, hr.cells.free 0, hr.cells.free 1, hr.cells.free 2⟩)
   have SS := Lib.hid (fun w' (hc : cellsAt w' d [.slice ta i tc, .slice ua i uc, .slice va i vc, .bool false, .bool false, .int .i64 0, .slice none 0 0]) => show w'.cell? ⟨d, 0, none⟩ = some (.slice ta i tc) ∧ w'.cell? ⟨d, 1, none⟩ = some (.slice ua i uc) ∧ w'.cell? ⟨d, 2, none⟩ = some (.slice va i vc) ∧ w'.frozen? ⟨d, 0, none⟩ = false ∧ w'.frozen? ⟨d, 1, none⟩ = false ∧ w'.frozen? ⟨d, 2, none⟩ = false from ⟨hc.cell 0, hc.cell 1, hc.cell 2, hc.free 0, hc.free 1, hc.free 2⟩)
   have SSO := Lib.hid (fun w' (ho : Only (rnO (.slice ta i tc) (.slice ua i uc) (.slice va i vc)) wr w') => show cellsAt w' d [.slice ta i tc, .slice ua i uc, .slice va i vc, .bool false, .bool false, .int .i64 0, .slice none 0 0] from HR.out.cells.only ho fun e => by
    rcases e with e | e | e
    · exact (HR.out.o1 d e).2.2 rfl
    · exact (HR.out.o2 d e).2.2 rfl
    · exact (HR.out.o3 d e).2.2 rfl)
   clear hr hi
   go_wp2_with fail
   refine wp_region_D_drew (D := (fun i => [0, 1, 2, 3, 4, 5, 7, 10, 11, 12, 14, 17, 18, 19, 23, 24, 25, 26, 27, 28, 29, 30, 31].contains i)) (S := (fun w' => w'.cell? ⟨d, 0, none⟩ = some (.slice ta i tc) ∧ w'.cell? ⟨d, 1, none⟩ = some (.slice ua i uc) ∧ w'.cell? ⟨d, 2, none⟩ = some (.slice va i vc) ∧ w'.frozen? ⟨d, 0, none⟩ = false ∧ w'.frozen? ⟨d, 1, none⟩ = false ∧ w'.frozen? ⟨d, 2, none⟩ = false)) (by kernel_rfl) ?_ (fun hHeld => ?_)
   · exact HS0.out
   (refine takeD (i := 0) (some 19) (v := ?_) rfl (by rfl) (by rfl) (by kernel_rfl) (by rfl) (fun _ _ _ h => h) ?_ ?_; rotate_left; (intro w; go_simp; try with_reducible rfl); try go_frame)
   (refine takeD (i := 1) (some 20) (v := ?_) rfl (by rfl) (by rfl) (by kernel_rfl) (by rfl) (fun _ _ _ h => h) ?_ ?_; rotate_left; (intro w; go_simp; try with_reducible rfl); try go_frame)
   (refine takeD (i := 2) (some 21) (v := ?_) rfl (by rfl) (by rfl) (by kernel_rfl) (by rfl) (fun _ _ _ h => h) ?_ ?_; rotate_left; (intro w; go_simp; try with_reducible rfl); try go_frame)
   (refine takeD (i := 3) (some 22) (v := ?_) rfl (by rfl) (by rfl) (by kernel_rfl) (by rfl) (fun _ _ _ h => h) ?_ ?_; rotate_left; (intro w; go_simp; try with_reducible rfl); try go_frame)
   (refine takeD (i := 4) (some 23) (v := ?_) rfl (by rfl) (by rfl) (by kernel_rfl) (by rfl) (fun _ _ _ h => h) ?_ ?_; rotate_left; (intro w; go_simp; try with_reducible rfl); try go_frame)
   (refine takeD (i := 5) (some 24) (v := ?_) rfl (by rfl) (by rfl) (by kernel_rfl) (by rfl) (fun _ _ _ h => h) ?_ ?_; rotate_left; (intro w; go_simp; try with_reducible rfl); try go_frame)
   (refine takeD (i := 7) (some 26) (v := ?_) rfl (by rfl) (by rfl) (by kernel_rfl) (by rfl) (fun _ _ _ h => h) ?_ ?_; rotate_left; (intro w; go_simp; try with_reducible rfl); try go_frame)
   (refine takeD (i := 10) (some 29) (v := ?_) rfl (by rfl) (by rfl) (by kernel_rfl) (by rfl) (fun _ _ _ h => h) ?_ ?_; rotate_left; (intro w; go_simp; try with_reducible rfl); try go_frame)
   (refine takeD (i := 11) (some 30) (v := ?_) rfl (by rfl) (by rfl) (by kernel_rfl) (by rfl) (fun _ _ _ h => h) ?_ ?_; rotate_left; (intro w; go_simp; try with_reducible rfl); try go_frame)
   (refine takeD (i := 12) (some 31) (v := ?_) rfl (by rfl) (by rfl) (by kernel_rfl) (by rfl) (fun _ _ _ h => h) ?_ ?_; rotate_left; (intro w; go_simp; try with_reducible rfl); try go_frame)
   (refine takeD (i := 14) (some 33) (v := ?_) rfl (by rfl) (by rfl) (by kernel_rfl) (by rfl) (fun _ _ _ h => h) ?_ ?_; rotate_left; (intro w; go_simp; try with_reducible rfl); try go_frame)
   (refine takeD (i := 17) (some 36) (v := ?_) rfl (by rfl) (by rfl) (by kernel_rfl) (by rfl) (fun _ _ _ h => h) ?_ ?_; rotate_left; (intro w; go_simp; try with_reducible rfl); try go_frame)
   (refine takeD (i := 18) (some 37) (v := ?_) rfl (by rfl) (by rfl) (by kernel_rfl) (by rfl) (fun _ _ _ h => h) ?_ ?_; rotate_left; (intro w; go_simp; try with_reducible rfl); try go_frame)
   (refine takeD (i := 19) (some 38) (v := ?_) rfl (by rfl) (by rfl) (by kernel_rfl) (by rfl) (fun _ _ _ h => h) ?_ ?_; rotate_left; (intro w; go_simp; try with_reducible rfl); try go_frame)
   (refine takeS (i := 6) (some 25) (v := ?_) rfl (by rfl) (by rfl) (by kernel_rfl) (by rfl) (fun _ _ _ h => h) (by assumption) ?_ ?_; rotate_left; (intro w hSw; (try dsimp only at hSw); go_simp; try with_reducible rfl); try go_frame)
   (refine takeS (i := 13) (some 32) (v := ?_) rfl (by rfl) (by rfl) (by kernel_rfl) (by rfl) (fun _ _ _ h => h) (by assumption) ?_ ?_; rotate_left; (intro w hSw; (try dsimp only at hSw); go_simp; try with_reducible rfl); try go_frame)
   (refine takeS (i := 20) (some 39) (v := ?_) rfl (by rfl) (by rfl) (by kernel_rfl) (by rfl) (fun _ _ _ h => h) (by assumption) ?_ ?_; rotate_left; (intro w hSw; (try dsimp only at hSw); go_simp; try with_reducible rfl); try go_frame)
   refine wpAnyD_merged (J := ChO wr (rnO (.slice ta i tc) (.slice ua i uc) (.slice va i vc)) (rnX i (.slice ta i tc) (.slice ua i uc) (.slice va i vc))) [(8, 27), (9, 28), (15, 34), (16, 35), (21, 40), (22, 41)] (fun i => if i = 9 then [6, 8] else if i = 16 then [13, 15] else if i = 22 then [20, 21] else []) #[true, true, true, true, true, true, true, true, true, true, true, true, true, true, true, true, true, true, true, true, true, true, true, false, false, false, false, false, false, false, false, false] rfl (by kernel_rfl) (by kernel_rfl) ?_ ?_ ?_ ?_
   · intro L xs w' hJ
     exact SS.out _ (SSO.out _ hJ.still)
   · intro xs
     exact HR.out.begun (by kernel_rfl) (by kernel_rfl) (by kernel_rfl) (by kernel_rfl) (by kernel_rfl) (by kernel_rfl) xs
   · intro q hq
     simp only [List.mem_cons, List.not_mem_nil, or_false] at hq
     rcases hq with rfl | rfl | rfl | rfl | rfl | rfl
     · refine StepM.of rfl (fun L xs w' hd hl hJ K hK => ?_)
       (unfold fillA; simp only [List.foldl]; try go_frame)
       go_simp
       refine hK.out _ _ (hJ.build (v := .slice (some ⟨w'.heap.size, 0, none⟩) 1 1) rfl _ (vec_block (n := 1) (heap_alloc_new _ _) rfl (by simp only [maxLen]; omega)) (fun g e => by cases e; rfl)) _ (by kernel_rfl)
     · refine ChO.stepApp 6 rfl rfl (.tmp 25) (.tmp 27) 60 rfl rfl 9 i0 _ 1 16 Tryz.underlying60 HI.out.1 HI.out.2.1 HI.out.2.2.1 HI.out.2.2.2 rfl (by decide) 1 [zStr] rfl rfl rfl (fun L h => h 6 (by simp)) rfl rfl rfl rfl (by intro u hu; simp at hu; rw [hu]; rfl) (show i + 1 ≤ maxLen by simp only [maxLen]; have := HN.out; omega) (show (i + 1) * 16 ≤ 140737488355328 by have := HN.out; omega) ?_ ?_
       · intro xs
         (unfold fillA; simp only [List.foldl]; try go_frame)
         simp [Act.eval, ChT.val, rnX]
       · intro L xs w' hd hl hJ
         refine ⟨xs 8, ?_, (hJ.vec 8 (List.contains_iff_mem.1 rfl) (hd 8 (by simp)) hl).1.reads⟩
         (unfold fillA; simp only [List.foldl]; try go_frame)
         simp [Act.eval]
     · refine StepM.of rfl (fun L xs w' hd hl hJ K hK => ?_)
       (unfold fillA; simp only [List.foldl]; try go_frame)
       go_simp
       refine hK.out _ _ (hJ.build (v := .slice (some ⟨w'.heap.size, 0, none⟩) 1 1) rfl _ (vec_block (n := 1) (heap_alloc_new _ _) rfl (by simp only [maxLen]; omega)) (fun g e => by cases e; rfl)) _ (by kernel_rfl)
     · refine ChO.stepApp 13 rfl rfl (.tmp 32) (.tmp 34) 60 rfl rfl 9 i0 _ 1 16 Tryz.underlying60 HI.out.1 HI.out.2.1 HI.out.2.2.1 HI.out.2.2.2 rfl (by decide) 1 [zStr] rfl rfl rfl (fun L h => h 13 (by simp)) rfl rfl rfl rfl (by intro u hu; simp at hu; rw [hu]; rfl) (show i + 1 ≤ maxLen by simp only [maxLen]; have := HN.out; omega) (show (i + 1) * 16 ≤ 140737488355328 by have := HN.out; omega) ?_ ?_
       · intro xs
         (unfold fillA; simp only [List.foldl]; try go_frame)
         simp [Act.eval, ChT.val, rnX]
       · intro L xs w' hd hl hJ
         refine ⟨xs 15, ?_, (hJ.vec 15 (List.contains_iff_mem.1 rfl) (hd 15 (by simp)) hl).1.reads⟩
         (unfold fillA; simp only [List.foldl]; try go_frame)
         simp [Act.eval]
     · refine StepM.of rfl (fun L xs w' hd hl hJ K hK => ?_)
       (unfold fillA; simp only [List.foldl]; try go_frame)
       go_simp
       refine hK.out _ _ (hJ.build (v := .slice (some ⟨w'.heap.size, 0, none⟩) 1 1) rfl _ (vec_block (n := 1) (heap_alloc_new _ _) rfl (by simp only [maxLen]; omega)) (fun g e => by cases e; rfl)) _ (by kernel_rfl)
     · refine ChO.stepApp 20 rfl rfl (.tmp 39) (.tmp 40) 61 rfl rfl 4 i1 _ 1 1 Tryz.underlying61 HJ.out.1 HJ.out.2.1 HJ.out.2.2.1 HJ.out.2.2.2 rfl (by decide) 1 [.bool false] rfl rfl rfl (fun L h => h 20 (by simp)) rfl rfl rfl rfl (by intro u hu; simp at hu; rw [hu]; rfl) (show i + 1 ≤ maxLen by simp only [maxLen]; have := HN.out; omega) (show (i + 1) * 1 ≤ 140737488355328 by have := HN.out; omega) ?_ ?_
       · intro xs
         (unfold fillA; simp only [List.foldl]; try go_frame)
         simp [Act.eval, ChT.val, rnX]
       · intro L xs w' hd hl hJ
         refine ⟨xs 21, ?_, (hJ.vec 21 (List.contains_iff_mem.1 rfl) (hd 21 (by simp)) hl).1.reads⟩
         (unfold fillA; simp only [List.foldl]; try go_frame)
         simp [Act.eval]
   · intro xs w' hJ
     (unfold fillA; simp only [List.foldl]; try go_frame)
     obtain ⟨hn1, a1, a2, a3, hc⟩ := HR.out.next hJ (by kernel_rfl) (by kernel_rfl) (by kernel_rfl) (by kernel_rfl)
     have HN1 := Lib.hid hn1
     obtain ⟨s0, s1, s2, t0, t1, t2⟩ := SS.out _ hc
     have HC := Lib.hid hc
     clear hn1 hJ hc
     generalize xs 9 = x1 at *
     generalize xs 16 = x2 at *
     generalize xs 22 = x3 at *
     obtain ⟨pa, pc, rfl⟩ := a1.form'
     obtain ⟨qa, qc, rfl⟩ := a2.form'
     obtain ⟨ra, rc, rfl⟩ := a3.form'
     clear a1 a2 a3
     refine wpAnyD_ready (rs := [23]) (by kernel_rfl) (by simp) ?_
     refine ReadyD.last rfl (by rfl) (fun K hK => ?_) ?_
     go_simp
     refine hK.out _ _ ?_
     (clear hK K; try go_frame)
     refine wpAnyD_ready (rs := [24]) (by kernel_rfl) (by simp) ?_
     refine ReadyD.last rfl (by rfl) (fun K hK => ?_) ?_
     go_simp
     refine hK.out _ _ ?_
     (clear hK K; try go_frame)
     refine wpAnyD_ready (rs := [25]) (by kernel_rfl) (by simp) ?_
     refine ReadyD.last rfl (by rfl) (fun K hK => ?_) ?_
     go_simp
     refine hK.out _ _ ?_
     (clear hK K; try go_frame)
     refine wpAnyD_ready (rs := [26]) (by kernel_rfl) (by simp) ?_
     refine ReadyD.last rfl (by rfl) (fun K hK => ?_) ?_
     go_simp
     refine hK.out _ _ ?_
     (clear hK K; try go_frame)
     refine wpAnyD_ready (rs := [27]) (by kernel_rfl) (by simp) ?_
     refine ReadyD.last rfl (by rfl) (fun K hK => ?_) ?_
     go_simp
     refine hK.out _ _ ?_
     (clear hK K; try go_frame)
     refine wpAnyD_ready (rs := [28]) (by kernel_rfl) (by simp) ?_
     refine ReadyD.last rfl (by rfl) (fun K hK => ?_) ?_
     go_simp
     refine hK.out _ _ ?_
     (clear hK K; try go_frame)
     refine wpAnyD_ready (rs := [29]) (by kernel_rfl) (by simp) ?_
     refine ReadyD.last rfl (by rfl) (fun K hK => ?_) ?_
     go_simp
     refine hK.out _ _ ?_
     (clear hK K; try go_frame)
     refine wpAnyD_ready (rs := [30]) (by kernel_rfl) (by simp) ?_
     refine ReadyD.last rfl (by rfl) (fun K hK => ?_) ?_
     go_simp
     refine hK.out _ _ ?_
     (clear hK K; try go_frame)
     refine wpAnyD_ready (rs := [31]) (by kernel_rfl) (by simp) ?_
     refine ReadyD.last rfl (by rfl) (fun K hK => ?_) ?_
     go_simp
     refine hK.out _ _ ?_
     (clear hK K; try go_frame)
     refine wpAnyD_done (by kernel_rfl) ?_ _
     rotate_left
     exact ReadyD.nil
     exact ReadyD.nil
     exact ReadyD.nil
     exact ReadyD.nil
     exact ReadyD.nil
     exact ReadyD.nil
     exact ReadyD.nil
     exact ReadyD.nil
     exact ReadyD.nil
     go_wp2_with fail
     go_roundw
     case rel => exact ⟨i + 1, by go_num, by have := HI2.out; omega, _, _, _, HN1.out⟩
     case measure => first | (simp [intOf]; done) | (simp [intOf]; have := HI2.out; omega)
end Go.Proofs.YtojkggppcmdepaaGreat

namespace Go.Proofs.YtojkggppcmdepaaGreat
open Go.RowKit Go.Wh Go.Maps

def BTrue (W : World) (e : Ending) (w' : World) : Prop := e = .returned (.bool true) ∧ Still W w'
theorem still_of {A : Nat → Prop} {W w w' : World} (h : Still W w) (ho : Only A w w') (ha : ∀ g, A g → W.heap.size ≤ g) : Still W w' := h.andThen ho fun i hi e => by have := ha i e; omega
set_option maxRecDepth 100000 in
theorem ap_n {B : Nat → Prop} {w : World} {t d at_ n st : Nat} {es : List PE} {k x : Int} (h : TlX B t d at_ n es st w) (hm : (nE k x).may = true) (hr : (streamB es).length + 25 ≤ n * 63) {N : Int} (hN : ((es.length + 1 : Nat) : Int) = N) :
 Calls Tryz.prog 17 #[.pointer (some ⟨t, 0, none⟩), .agg #[.int .i64 k, .int .i64 x, .int .i64 0, .int .i64 0, .int .i64 0, .int .i64 0, .int .i64 0, .int .i64 0, .int .i64 0, .int .i64 0, .slice none 0 0, .slice none 0 0, .slice none 0 0, .slice none 0 0, .slice none 0 0, .slice none 0 0]] w (fun en w' => en = .returned (.tuple #[.int .i64 N, .int .i64 0]) ∧ TlX (Newer B w w') t d at_ n (es ++ [nE k x]) st w' ∧ Only B w w') :=
 ap_ok (e := nE k x) (ov := .slice none 0 0) (nv := .slice none 0 0) (mv := .slice none 0 0) (lv := .slice none 0 0) (dv := .slice none 0 0) (pv := .slice none 0 0) h (nE_is w (fun _ => True) k x) hm (by rw [nE_len]; exact hr) hN
set_option maxRecDepth 100000 in
theorem ap_nfull {B : Nat → Prop} {w : World} {t d at_ n st : Nat} {es : List PE} {k x : Int} (h : TlX B t d at_ n es st w) (hm : (nE k x).may = true) (hr : n * 63 < (streamB es).length + 25) :
 Calls Tryz.prog 17 #[.pointer (some ⟨t, 0, none⟩), .agg #[.int .i64 k, .int .i64 x, .int .i64 0, .int .i64 0, .int .i64 0, .int .i64 0, .int .i64 0, .int .i64 0, .int .i64 0, .int .i64 0, .slice none 0 0, .slice none 0 0, .slice none 0 0, .slice none 0 0, .slice none 0 0, .slice none 0 0]] w (fun en w' => en = .returned (.tuple #[.int .i64 0, .int .i64 5]) ∧ TlX (Newer B w w') t d at_ n es st w' ∧ Only B w w') :=
 ap_full (e := nE k x) (ov := .slice none 0 0) (nv := .slice none 0 0) (mv := .slice none 0 0) (lv := .slice none 0 0) (dv := .slice none 0 0) (pv := .slice none 0 0) h (nE_is w (fun _ => True) k x) hm (by rw [nE_len]; exact hr)
set_option maxRecDepth 100000 in
theorem ap_nbad {B : Nat → Prop} {w : World} {t d at_ n st : Nat} {es : List PE} {x : Int} (h : TlX B t d at_ n es st w) :
 Calls Tryz.prog 17 #[.pointer (some ⟨t, 0, none⟩), .agg #[.int .i64 0, .int .i64 x, .int .i64 0, .int .i64 0, .int .i64 0, .int .i64 0, .int .i64 0, .int .i64 0, .int .i64 0, .int .i64 0, .slice none 0 0, .slice none 0 0, .slice none 0 0, .slice none 0 0, .slice none 0 0, .slice none 0 0]] w (fun en w' => en = .returned (.tuple #[.int .i64 0, .int .i64 1]) ∧ TlX (Newer B w w') t d at_ n es st w' ∧ Only B w w') :=
 ap_bad (e := nE 0 x) (ov := .slice none 0 0) (nv := .slice none 0 0) (mv := .slice none 0 0) (lv := .slice none 0 0) (dv := .slice none 0 0) (pv := .slice none 0 0) h (nE_is w (fun _ => True) 0 x) (nE_not x)
set_option maxRecDepth 100000 in
theorem frame_n (w : World) {k x : Int} (hm : (nE k x).may = true) : Calls Tryz.prog 8 #[.agg #[.int .i64 k, .int .i64 x, .int .i64 0, .int .i64 0, .int .i64 0, .int .i64 0, .int .i64 0, .int .i64 0, .int .i64 0, .int .i64 0, .slice none 0 0, .slice none 0 0, .slice none 0 0, .slice none 0 0, .slice none 0 0, .slice none 0 0]] w (FreshPost w 1 25 (bc (frameB (nE k x)))) := by
 have := frame_yes w (fun _ => True) (nE k x) _ _ _ _ _ _ (nE_is w (fun _ => True) k x) hm
 rw [nE_len] at this
 exact this

set_option maxHeartbeats 4000000 in
set_option maxRecDepth 100000 in
theorem begun_any (W : World) : Calls Tryz.prog 6 #[] W (BTrue W) := by
 have HN := Lib.hid (newx_any W 10 (by omega) rfl)
 have HM1 := Lib.hid (nE_may (k := 5) (t := 1) (by omega) (by omega))
 have HM0 := Lib.hid (nE_may (k := 5) (t := 0) (by omega) (by omega))
 go_enter Tryz.func6, Tryz.ntmps6
 go_wp2_with fail
 refine HN.out.mono ?_
 rintro en w1 ⟨d, rfl, hd1, hs1⟩
 have HO := Lib.hid (open_zero (at_ := 2) (n := 8) hd1 (by omega) (by omega) rfl rfl)
 have H1 := Lib.hid hs1
 clear hd1 hs1 HN
 go_wp2_with fail
 refine HO.out.mono ?_
 rintro en w2 ⟨t, la, lc, A2, B2, C2, rfl, hd2, ht2, -, ho2, ha2, hb2, -, hab2, -, -⟩
 have hs2 : Still W w2 := still_of H1.out ho2 fun g hg => hg.1
 have hA2 : ∀ g, A2 g → W.heap.size ≤ g := fun g hg => (ha2 g hg).elim (fun e => e.1) fun e => by have := H1.out.size; omega
 have hB2 : ∀ g, B2 g → W.heap.size ≤ g := fun g hg => by have := hb2 g hg; have := H1.out.size; omega
 have HAP := Lib.hid (ap_n (k := 5) (x := 1) ht2 HM1.out (by simp [streamB]) rfl)
 have H2 := Lib.hid (And.intro hd2 (And.intro ht2 (And.intro hs2 (And.intro hA2 (And.intro hB2 hab2)))))
 clear hd2 ht2 hs2 hA2 hB2 ho2 ha2 hb2 hab2 HO
 go_wp2_with fail
 refine HAP.out.mono ?_
 rintro en w3 ⟨rfl, ht3, ho3⟩
 have hd3 := H2.out.1.only ho3 fun g hg e => H2.out.2.2.2.2.2 g hg e
 have hs3 : Still W w3 := still_of H2.out.2.2.1 ho3 H2.out.2.2.2.2.1
 have hab3 : ∀ g, A2 g → ¬ Newer B2 w2 w3 g := fun g hg e => e.elim (H2.out.2.2.2.2.2 g hg) fun e => by have := H2.out.1.lt g hg; omega
 have HST := Lib.hid (stable_x ht3 (N := 0) rfl)
 have HFO := Lib.hid (force_any ht3 hd3 hab3 (by unfold zeroT; rw [List.length_replicate]; omega))
 have H3 := Lib.hid (And.intro hs3 (And.intro hab3 (And.intro (show w2.heap.size ≤ w3.heap.size from ho3.size) fun g (hg : Newer B2 w2 w3 g) => show W.heap.size ≤ g from hg.elim (H2.out.2.2.2.2.1 g) fun e => by have := H2.out.2.2.1.size; omega)))
 clear ht3 hd3 hs3 hab3 ho3 HAP
 go_wp2_with fail
 refine HST.out.mono ?_
 rintro en w3' ⟨rfl, rfl⟩
 go_wp2_with fail
 refine HFO.out.mono ?_
 rintro en w4 ⟨rfl, ht4, hd4, ho4⟩
 have hif : (if 0 = ([] ++ [nE 5 1] : List PE).length then zeroT 10 else layB (zeroT 10) 2 (streamB ([] ++ [nE 5 1])) 8) = layB (zeroT 10) 2 (streamB [nE 5 1]) 8 := rfl
 rw [show ([] : List PE).length = 0 from rfl, hif] at hd4
 have hA4 : ∀ g, Newer A2 w3' w4 g → W.heap.size ≤ g := fun g hg => hg.elim (H2.out.2.2.2.1 g) fun e => by have := H3.out.1.size; omega
 have hs4 : Still W w4 := H3.out.1.andThen ho4 fun i hi e => e.elim (fun e => by have := H2.out.2.2.2.1 i e; omega) fun e => by have := H3.out.2.2.2 i e; omega
 have hab4 : ∀ g, Newer A2 w3' w4 g → ¬ Newer B2 w2 w3' g := fun g hg e => hg.elim (fun h => H3.out.2.1 g h e) fun h => e.elim (fun e => by have := H2.out.2.1.lt g e; have := H3.out.2.2.1; omega) fun e => by omega
 have hsl : (streamB [nE 5 1]).length = 25 := by rw [streamB_one, nE_len]
 have HO2 := Lib.hid (open_laid (es := [nE 5 1]) hd4 (by unfold zeroT; rw [List.length_replicate]; omega) (by omega) (fun e he => by rw [List.mem_singleton.1 he]; exact HM1.out) (by rw [hsl]; omega) rfl rfl)
 have H4 := Lib.hid (And.intro ht4 (And.intro hs4 (And.intro hA4 (And.intro hab4 hsl))))
 clear ht4 hd4 ho4 hif hA4 hs4 hab4 hsl HFO HST
 go_wp2_with fail
 refine HO2.out.mono ?_
 rintro en w5 ⟨u, ua, uc, A5, B5, C5, rfl, hd5, hu5, -, ho5, -, -, -, -, -, -⟩
 have ht5 := H4.out.1.only ho5 fun g hg e => H4.out.2.2.2.1 g e hg
 have hs5 := still_of H4.out.2.1 ho5 H4.out.2.2.1
 have HFR := Lib.hid (frame_n w5 HM0.out)
 have H5 := Lib.hid (And.intro ht5 hs5)
 clear hd5 hu5 ho5 ht5 hs5 HO2
 go_wp2_with fail
 refine HFR.out.mono ?_
 rintro en w6 ⟨fv, rfl, hfv, hb6, ho6⟩
 have hs6 : Still w5 w6 := Only.ofBelow hb6
 have HSC := Lib.hid (scan_any w6 (fun _ => True) fv 25 (frameB (nE 5 0)) (Vec.sl0 hfv (by omega)) (Vec.capOf hfv) (frameB_byt _ (fun z hz => by cases hz) (fun z hz => by cases hz)) (by omega))
 have hsc : scanB ((frameB (nE 5 0)).length + 1) (frameB (nE 5 0)) = ([nE 5 0], 25) := by
  have := scanB_stream firstB_nil [nE 5 0] ((frameB (nE 5 0)).length + 1) (fun e he => by rw [List.mem_singleton.1 he]; exact HM0.out) (by rw [nE_len]; decide)
  rw [List.append_nil, streamB_one, nE_len] at this
  rw [nE_len]
  exact this
 unfold ScanPost at HSC
 rw [hsc] at HSC
 have H6 := Lib.hid (And.intro (H5.out.1.still hs6) (H5.out.2.trans hs6))
 obtain ⟨fa, fc, rfl⟩ := hfv.form'
 clear hfv hb6 ho6 hs6 hsc HFR
 go_wp2_with fail
 refine HSC.out.mono ?_
 rintro en w7 ⟨lv, rfl, hen, hs7⟩
 obtain ⟨ka, kc, rfl⟩ := hen.form
 have ht7 := H6.out.1.still hs7
 have HS7 := Lib.hid (H6.out.2.trans hs7)
 have HQ1 := Lib.hid (stable_x ht7 (N := 1) rfl)
 have HQ2 := Lib.hid (count_x ht7 (N := 1) rfl)
 have HQ3 := Lib.hid (left_x ht7 (N := 479) (by rw [show ([] ++ [nE 5 1] : List PE) = [nE 5 1] from rfl, H4.out.2.2.2.2]; rfl))
 clear hen hs7 ht7 HSC
 go_wp2_with fail
 refine HQ1.out.mono ?_
 rintro en w8 ⟨rfl, rfl⟩
 go_wp2_with fail
 refine HQ2.out.mono ?_
 rintro en w9 ⟨rfl, rfl⟩
 go_wp2_with fail
 refine HQ3.out.mono ?_
 rintro en w10 ⟨rfl, hs10⟩
 have F := Lib.hid (show BTrue W (.returned (.bool true)) w10 from ⟨rfl, HS7.out.trans hs10⟩)
 clear hs10 HQ1 HQ2 HQ3
 go_wp2_with fail
 go_ret
 exact F.out
end Go.Proofs.YtojkggppcmdepaaGreat

namespace Go.Proofs.YtojkggppcmdepaaGreat
open Go.RowKit Go.Wh Go.Maps

set_option maxRecDepth 100000 in
theorem short_any (w : World) (Q : Nat → Prop) (e : PE) (ov nv mv lv dv pv : Value) (h : EIs w Q e ov nv mv lv dv pv) : Calls Tryz.prog 7 #[.agg (eV e ov nv mv lv dv pv)] w (StPost w (.bool (decide ((putB e).length ≤ 150)))) := by
 obtain ⟨oa, oc, na, nc, ma, mc, ka, kc, da, dc, va, vc, rfl, rfl, rfl, rfl, rfl, rfl⟩ := h.forms
 unfold eV
 have hst : Still w (w.alloc (.cells #[.int .i64 e.kind, .int .i64 e.txn, .int .i64 e.unit, .int .i64 e.half, .int .i64 e.prev, .int .i64 e.next, .int .i64 e.ap, .int .i64 e.ac, .int .i64 e.tp, .int .i64 e.tc, .slice oa e.old.length oc, .slice na e.new.length nc, .slice ma e.moves.length mc, .slice ka e.lives.length kc, .slice da e.dirty.length dc, .slice va e.opens.length vc] 34)) := (Still.refl w).alloc _
 have HPU := Lib.hid (rput_any _ Q e _ _ _ _ _ _ (h.still hst))
 unfold eV at HPU
 have HS := Lib.hid hst
 obtain ⟨q, hq⟩ : ∃ q, decide ((putB e).length ≤ 150) = q := ⟨_, rfl⟩
 rw [hq]
 obtain ⟨L, hL⟩ : ∃ L, (putB e).length = L := ⟨_, rfl⟩
 rw [hL] at hq HPU
 have q1 : decide ((L : Int) ≤ 150) = q := by rw [← hq]; exact decide_eq_decide.2 (by omega)
 clear h hst hL
 go_enter Tryz.func7, Tryz.ntmps7
 go_wp2_with fail
 refine HPU.out.mono ?_
 rintro en w2 ⟨pv, rfl, hpv, hpb, -⟩
 obtain ⟨pa, pc, rfl⟩ := hpv.form'
 have F := Lib.hid (show StPost w (.bool q) (.returned (.bool q)) w2 from ⟨rfl, HS.out.trans (Only.ofBelow hpb)⟩)
 clear hpv hpb HPU
 go_wp2_with fail
 go_ret
 exact F.out
theorem frB_le {e : PE} (h : (putB e).length ≤ 150) : (frB e).length ≤ 154 := by
 unfold putB at h
 unfold frB
 split
 · rename_i hm
   rw [if_pos hm] at h
   rw [frameB_length]
   omega
 · simp
theorem frB_byt {e : PE} (h1 : Byt e.old) (h2 : Byt e.new) : Byt (frB e) := by
 unfold frB
 split
 · exact frameB_byt e h1 h2
 · intro z hz; cases hz
end Go.Proofs.YtojkggppcmdepaaGreat

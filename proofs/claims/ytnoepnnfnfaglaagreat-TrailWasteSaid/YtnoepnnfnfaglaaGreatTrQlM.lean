/- Tiles laid, and what they say: plain. No program. No conditions. Entries appended one by one behind others that are there. Conditions: they lie in memory. TrailFront answers true. Conditions: a slice of bytes that lies in memory, a byte. Bytes, and noughts behind them; entries of two rows, one behind the other. Conditions: they lie in memory. -/
import Derived.Test.YtnoepnnfnfaglaaGreatSameM
import Derived.Test.YtnoepnnfnfaglaaGreatRow
namespace Go.Proofs.YtnoepnnfnfaglaaGreat

theorem tls_length {T : List (List Int)} {a n : Nat} (h : a + n ≤ T.length) : (tls T a n).length = n := by
  unfold tls
  rw [List.length_take, List.length_drop]
  omega
theorem tls_at {T : List (List Int)} {a n j : Nat} (hj : j < n) : (tls T a n)[j]? = T[a + j]? := by
  unfold tls
  rw [List.getElem?_take_of_lt hj, List.getElem?_drop]
/-- The first tiles say a stream, the last one of them is not full: what is behind is not read. -/
theorem readB_front (S : List Int) : ∀ (k i : Nat) (L : List (List Int)), i + k = S.length / 63 → (∀ j, j ≤ k → L[j]? = some (tileB S (i + j))) → readB L = S.drop (i * 63)
  | k, i, [], _, h => by
    have := h 0 (Nat.zero_le _)
    simp at this
  | 0, i, s :: L, hk, h => by
    have hs : s = tileB S i := by
      have := h 0 (Nat.le_refl _)
      rw [List.getElem?_cons_zero] at this
      exact Option.some.inj this
    subst hs
    unfold readB
    have hp := partB_length S i
    have h1 : (tileB S i).headD 0 = ((partB S i).length : Int) := rfl
    have h2 : (tileB S i).drop 1 = partB S i ++ List.replicate (63 - (partB S i).length) 0 := rfl
    rw [h1, h2, if_neg (by omega), Int.toNat_natCast, List.take_left' rfl, if_pos (by omega), List.append_nil]
    unfold partB
    rw [List.take_of_length_le]
    rw [List.length_drop]
    omega
  | k + 1, i, s :: L, hk, h => by
    have hs : s = tileB S i := by
      have := h 0 (Nat.zero_le _)
      rw [List.getElem?_cons_zero] at this
      exact Option.some.inj this
    subst hs
    unfold readB
    have hp := partB_length S i
    have h1 : (tileB S i).headD 0 = ((partB S i).length : Int) := rfl
    have h2 : (tileB S i).drop 1 = partB S i ++ List.replicate (63 - (partB S i).length) 0 := rfl
    have h63 : (i + 1) * 63 ≤ S.length := by
      have := Nat.div_mul_le_self S.length 63
      have : (i + 1) * 63 ≤ S.length / 63 * 63 := Nat.mul_le_mul_right _ (by omega)
      omega
    rw [h1, h2, if_neg (by omega), Int.toNat_natCast, List.take_left' rfl, if_neg (by omega), readB_front S k (i + 1) L (by omega) (fun j hj => by
      have := h (j + 1) (by omega)
      rw [List.getElem?_cons_succ] at this
      rw [this, show i + 1 + j = i + (j + 1) by omega])]
    unfold partB
    rw [show (i + 1) * 63 = i * 63 + 63 by omega, ← List.drop_drop, List.take_append_drop]
/-- Tiles that say nothing are laid by an empty stream already. -/
theorem layB_void {T : List (List Int)} {a : Nat} : ∀ (n : Nat), (∀ j, j < n → T[a + j]? = some (List.replicate 64 0)) → layB T a [] n = T
  | 0, _ => rfl
  | n + 1, h => by
    show (layB T a [] n).set (a + n) (tileB [] n) = T
    rw [layB_void n fun j hj => h j (by omega), tileB_nil]
    apply List.ext_getElem?
    intro i
    rw [List.getElem?_set]
    split
    · rename_i hi
      subst hi
      rw [h n (by omega)]
      have := (List.getElem?_eq_some_iff.1 (h n (by omega))).1
      rw [if_pos this]
    · rfl
theorem tls_void {T : List (List Int)} {a n : Nat} (hn : a + n ≤ T.length) (h : ∀ j, j < n → T[a + j]? = some (List.replicate 64 0)) : tls T a n = zeroT n := by
  apply List.ext_getElem?
  intro j
  by_cases hj : j < n
  · rw [tls_at hj, h j hj]
    unfold zeroT
    rw [List.getElem?_replicate, if_pos hj]
  · rw [List.getElem?_eq_none (by rw [tls_length hn]; omega), List.getElem?_eq_none (by unfold zeroT; rw [List.length_replicate]; omega)]
theorem zeroT_get {m i : Nat} (h : i < m) : (zeroT m)[i]? = some (List.replicate 64 0) := by
  unfold zeroT
  rw [List.getElem?_replicate, if_pos h]
/-- The bytes that others' tiles have. -/
def patB : List Int := (List.range 64).map fun i => 200 + ((i % 50 : Nat) : Int)
theorem patB_byt : Byt patB := fun z hz => by
  obtain ⟨i, hi, rfl⟩ := List.mem_map.1 hz
  have := Nat.mod_lt i (show 50 > 0 by decide)
  omega
/-- The disk of TrailFront: its first tiles and its last one are others'. -/
def frT (n i : Nat) : List (List Int) := List.replicate i patB ++ zeroT (n + 33 - i)
theorem frT_length {n i : Nat} (h : i ≤ n) : (frT n i).length = n + 33 := by
  unfold frT zeroT
  rw [List.length_append, List.length_replicate, List.length_replicate]
  omega
theorem frT_next {n i : Nat} (h : i < n) : (frT n i).set i patB = frT n (i + 1) := by
  unfold frT zeroT
  generalize List.replicate 64 (0 : Int) = zz
  rw [List.set_append_right _ _ (by rw [List.length_replicate]; omega), List.length_replicate, Nat.sub_self, show n + 33 - i = (n + 33 - (i + 1)) + 1 by omega, List.replicate_succ, List.set_cons_zero, List.replicate_succ', List.append_assoc]
  rfl
theorem frT_zero (n : Nat) : frT n 0 = zeroT (n + 33) := rfl
def frE (n : Nat) : List (List Int) := (frT n n).set (n + 32) patB
theorem frE_length (n : Nat) : (frE n).length = n + 33 := by
  unfold frE
  rw [List.length_set, frT_length (Nat.le_refl _)]
theorem frE_first {n i : Nat} (h : i < n) : (frE n)[i]? = some patB := by
  unfold frE frT
  rw [List.getElem?_set_ne (by omega), List.getElem?_append_left (by rw [List.length_replicate]; exact h), List.getElem?_replicate, if_pos h]
theorem frE_last (n : Nat) : (frE n)[n + 32]? = some patB := by
  unfold frE
  rw [List.getElem?_set_self (by rw [frT_length (Nat.le_refl _)]; omega)]
theorem frE_mid {n j : Nat} (h : j < 32) : (frE n)[n + j]? = some (List.replicate 64 0) := by
  unfold frE frT
  rw [List.getElem?_set_ne (by omega), List.getElem?_append_right (by rw [List.length_replicate]; omega), List.length_replicate, zeroT_get (by omega)]
/-- What the tiles of the disk say at the end: others' are as they were. -/
theorem frL_get {n i : Nat} {S : List Int} (h : i < n + 33) : ∃ l, (layB (frE n) n S 32)[i]? = some l ∧ ((i < n ∨ i = n + 32) → l = patB) := by
  by_cases hi : i < n
  · exact ⟨patB, by rw [layB_other (.inl hi), frE_first hi], fun _ => rfl⟩
  · by_cases hl : i = n + 32
    · exact ⟨patB, by rw [layB_other (.inr (by omega)), hl, frE_last], fun _ => rfl⟩
    · refine ⟨tileB S (i - n), ?_, fun e => by omega⟩
      have := layB_get (T := frE n) (a := n) (S := S) (i := 32) (j := i - n) (by rw [frE_length]; omega) (by omega)
      rw [show n + (i - n) = i by omega] at this
      exact this
/-- A tile behind the last one in use is turned: the same entries are read. -/
theorem waste_scan {T : List (List Int)} {n k : Nat} {es : List PE} {b : List Int} (hl : n ≤ T.length) (hm : ∀ e ∈ es, e.may = true) (hk : (streamB es).length / 63 < k) (hn : (streamB es).length / 63 < n) :
    (scanB ((readB (tls ((layB T 0 (streamB es) n).set k b) 0 n)).length + 1) (readB (tls ((layB T 0 (streamB es) n).set k b) 0 n))).1 = es := by
  have h1 : readB (tls ((layB T 0 (streamB es) n).set k b) 0 n) = streamB es := by
    rw [readB_front (streamB es) _ 0 _ (Nat.zero_add _) fun j hj => by
      rw [tls_at (by omega), List.getElem?_set_ne (by omega), layB_get (by omega) (by omega), Nat.zero_add], Nat.zero_mul, List.drop_zero]
  rw [h1]
  have := scanB_stream firstB_nil es ((streamB es).length + 1) hm (by have := streamB_len es; omega)
  rw [List.append_nil] at this
  rw [this]
theorem layB_length' {T : List (List Int)} {a : Nat} {S : List Int} {i : Nat} : (layB T a S i).length = T.length := layB_length
end Go.Proofs.YtnoepnnfnfaglaaGreat

namespace Go.Proofs.YtnoepnnfnfaglaaGreat
open Go.RowKit Go.Wh Go.Maps

/-- What stands at the head of a round: behind pre the first i entries are noted; others (ks) lie where they lay. -/
structure LoS (W : World) (A : Nat → Prop) (d t at_ n : Nat) (T : List (List Int)) (C : Nat → Prop) (lv : Value) (es : List PE) (kv : Value) (ks pre : List PE) (s i : Nat) (wr : World) : Prop where
  ex : ∃ B : Nat → Prop, TlX B t d at_ n (pre ++ es.take i) s wr ∧ (∀ g, B g → W.heap.size ≤ g) ∧ (∀ g, A g → ¬ B g) ∧ ∀ g, C g → ¬ B g
  dk : DkX A d T wr
  en : Ents wr C lv es
  ke : Ents wr C kv ks
  cl : ∀ g, C g → g < wr.heap.size
  st : Still W wr
theorem LoS.next {W w w' : World} {A B C : Nat → Prop} {d t at_ n s i : Nat} {T : List (List Int)} {lv kv : Value} {es ks pre : List PE} {e : PE} (hd : DkX A d T w) (hen : Ents w C lv es) (hke : Ents w C kv ks) (hcl : ∀ g, C g → g < w.heap.size) (hs : Still W w) (hB : ∀ g, B g → W.heap.size ≤ g) (hA : ∀ g, A g → ¬ B g) (hC : ∀ g, C g → ¬ B g)
    (he : es[i]? = some e) (ht : TlX (Newer B w w') t d at_ n ((pre ++ es.take i) ++ [e]) s w') (ho : Only B w w') : LoS W A d t at_ n T C lv es kv ks pre s (i + 1) w' := by
  have hz := hs.size
  obtain ⟨hl, rfl⟩ := List.getElem?_eq_some_iff.1 he
  rw [List.append_assoc, List.take_append_getElem hl] at ht
  exact ⟨⟨_, ht, fun g hg => hg.elim (hB g) fun e => by omega, fun g hg e => e.elim (hA g hg) fun e => by have := hd.lt g hg; omega, fun g hg e => e.elim (hC g hg) fun e => by have := hcl g hg; omega⟩, hd.only ho fun g hg e => hA g hg e, hen.only ho fun g hg e => hC g hg e, hke.only ho fun g hg e => hC g hg e, fun g hg => Nat.lt_of_lt_of_le (hcl g hg) ho.size, still_of hs ho hB⟩
theorem LoS.len {es : List PE} {i : Nat} (h : ∀ e ∈ es, (frameB e).length = 51) (hi : i ≤ es.length) : (streamB (es.take i)).length = 51 * i := by
  rw [stream_51 fun x hx => h x (List.mem_of_mem_take hx), List.length_take, Nat.min_eq_left hi]
end Go.Proofs.YtnoepnnfnfaglaaGreat

namespace Go.Proofs.YtnoepnnfnfaglaaGreat
open Go.RowKit Go.Wh Go.Maps

theorem row_sl {W : World} {a : Option Addr} {m c : Nat} {zs : List Int} (h : IsRow .u8 W a m zs) (hm : 0 < m) : Sl W (fun _ => True) 1 (.slice a m c) m (bc zs) := by
  rcases h with ⟨h, _⟩ | ⟨b, off, rfl, hb, _, _, hl, hc, _⟩
  · omega
  · refine ⟨by rw [bc_length]; omega, .inr ⟨b, off, c, rfl, fun _ => ⟨trivial, hb⟩, fun j u hj => ?_⟩⟩
    have hjl := (List.getElem?_eq_some_iff.1 hj).1
    rw [bc_length] at hjl
    rw [hc j (by omega)]
    have e : (bc zs)[j]? = some (.int .u8 (zs.getD j 0)) := by
      unfold bc
      rw [List.getElem?_map, List.getD_eq_getElem?_getD, List.getElem?_eq_getElem hjl]
      rfl
    rw [← e]
    exact hj
theorem row_byt {W : World} {a : Option Addr} {m : Nat} {zs : List Int} (h : IsRow .u8 W a m zs) : Byt zs := by
  rcases h with ⟨_, rfl⟩ | ⟨b, off, rfl, hb, _, _, hl, hc, hw⟩
  · intro z hz; cases hz
  · intro z hz
    have := byte_wf (hw z hz)
    omega
theorem patB_length : patB.length = 64 := by unfold patB; rw [List.length_map, List.length_range]
/-- The first i bytes of the pattern, noughts behind. -/
def patN (i : Nat) : List Int := patB.take i ++ List.replicate (64 - i) 0
theorem patN_length {i : Nat} (h : i ≤ 64) : (patN i).length = 64 := by
  unfold patN
  rw [List.length_append, List.length_take, patB_length, List.length_replicate]
  omega
theorem patN_next {i : Nat} (h : i < 64) : (patN i).set i (200 + (i : Int) % 50) = patN (i + 1) := by
  have hl : (patB.take i).length = i := by rw [List.length_take, patB_length]; omega
  have hg : patB[i]? = some (200 + (i : Int) % 50) := by
    unfold patB
    rw [List.getElem?_map, List.getElem?_range h]
    show some (200 + ((i % 50 : Nat) : Int)) = _
    congr 1
  unfold patN
  rw [List.set_append_right _ _ (by omega), hl, Nat.sub_self, show 64 - i = (64 - (i + 1)) + 1 by omega, List.replicate_succ, List.set_cons_zero, List.take_add_one, hg, List.append_assoc]
  rfl
theorem patN_at {i : Nat} (h : i < 64) : (patN i)[i]? = some 0 := by
  have hl : (patB.take i).length = i := by rw [List.length_take, patB_length]; omega
  unfold patN
  rw [List.getElem?_append_right (by omega), hl, Nat.sub_self, List.getElem?_replicate, if_pos (by omega)]
theorem patN_all : patN 64 = patB := by
  unfold patN
  rw [List.take_of_length_le (by rw [patB_length]; omega), Nat.sub_self, List.replicate_zero, List.append_nil]
theorem bc_set (l : List Int) (i : Nat) (z : Int) : (bc l).set i (.int .u8 z) = bc (l.set i z) := by
  unfold bc
  rw [List.map_set]
/-- The row of the pattern in memory, and the disk: i tiles are written. -/
structure FrRel (W : World) (d b n i : Nat) (wr : World) : Prop where
  ex : ∃ A : Nat → Prop, DkX A d (frT n i) wr ∧ (∀ g, A g → W.heap.size ≤ g) ∧ ¬ A b
  c : cellsAt wr b (bc patB)
  st : Still W wr
theorem FrRel.next {W w w' : World} {d b n i : Nat} {A : Nat → Prop} (hc : cellsAt w b (bc patB)) (hs : Still W w) (hA : ∀ g, A g → W.heap.size ≤ g) (hb : ¬ A b) (hi : i < n) (hd : DkX (Newer A w w') d ((frT n i).set i patB) w') (ho : Only A w w') : FrRel W d b n (i + 1) w' := by
  rw [frT_next hi] at hd
  have := hs.size
  have := hc.lt
  exact ⟨⟨_, hd, fun g hg => hg.elim (hA g) fun e => by omega, fun e => e.elim hb fun e => by omega⟩, hc.only ho hb, still_of hs ho hA⟩
theorem cells_sl {w : World} {b n c : Nat} {l : List Int} (h : cellsAt w b (bc l)) (hn : l.length = n) : Sl w (fun _ => True) 1 (.slice (some ⟨b, 0, none⟩) n c) n (bc l) :=
  ⟨by rw [bc_length, Nat.mul_one]; exact hn, .inr ⟨b, 0, c, rfl, fun _ => ⟨trivial, h.lt⟩, fun j u hj => by rw [Nat.zero_add]; exact (h.cell j).trans hj⟩⟩
theorem fr_lay {n : Nat} {es : List PE} : (if 0 = es.length then frE n else layB (frE n) n (streamB es) 32) = layB (frE n) n (streamB es) 32 := by
  split
  · rename_i h
    rw [List.length_eq_zero_iff.1 h.symm]
    exact (layB_void 32 fun j hj => frE_mid hj).symm
  · rfl
theorem fr_open {A : Nat → Prop} {w : World} {d n : Nat} (hd : DkX A d (frE n) w) {a : Int} (ha : (n : Int) = a) :
    Calls Tryz.prog 17 #[.pointer (some ⟨d, 0, none⟩), .int .i64 a, .int .i64 32] w (OqPost A w d n 32 (frE n) []) := by
  have h1 : tls (frE n) n 32 = zeroT 32 := tls_void (by rw [frE_length]; omega) fun j hj => frE_mid hj
  have h2 : readB (tls (frE n) n 32) = [] := by rw [h1]; exact readB_zero 32
  have h3 : layB (frE n) n (streamB []) 32 = frE n := layB_void 32 fun j hj => frE_mid hj
  exact open_q hd (by rw [frE_length]; omega) (by decide) (by rw [h2]; rfl) h3 ha rfl
end Go.Proofs.YtnoepnnfnfaglaaGreat

namespace Go.Proofs.YtnoepnnfnfaglaaGreat
open Go.RowKit Go.Wh Go.Maps

section
variable {P : Program} {w : World}
/-- Nothing is appended. -/
theorem run_append_void (t ty e : TypeId) (i : TypeInfo) (h1 : P.underlying t = some (.slice e)) (h2 : P.info? e = some i) (aa ra : Option Addr) (n cap rc : Nat) (hle : n ≤ cap) :
    (Builtin.append_ #[t, t] ty #[.slice aa n cap, .slice ra 0 rc]).run P w = .ok (.slice aa n cap) w := by
  have hst : ∀ b, (storeCells b ([] : List Value)).run P w = Result.ok () w := fun b => rfl
  have hfc : (Builtin.firstCells i.size 0 (.slice ra 0 rc)).run P w = .ok #[] w := by
    cases ra with
    | none => simp [Builtin.firstCells]
    | some b => exact run_firstCells_some (P := P) w i.size 0 b 0 rc [] (by simp) (fun j u hj => by simp at hj)
  cases aa with
  | none => simp [Builtin.append_, run_underlying h1, sizeOf, typeInfo, h2, Builtin.lenOf, hle, hfc]
  | some b => simp [Builtin.append_, run_underlying h1, sizeOf, typeInfo, h2, Builtin.lenOf, hle, hfc, hst]
/-- Noughts, perhaps none, are appended to a row, perhaps an empty one. -/
theorem run_append_at_zeros (t tn ty e : TypeId) (i : TypeInfo) (kq kn : IntKind) (h1 : P.underlying t = some (.slice e)) (htn : P.underlying tn = some (.int kn)) (h2 : P.info? e = some i) (h3 : i.zero = some (.int .u8 0)) (h4 : i.size = 1) (h5 : i.bytes = 1)
    {g o cap n : Nat} {xs : List Value} (h : VecAt w 1 g o n cap xs) (k : Nat) (b1 : n + k ≤ 100000) :
    ∃ v' w', (Builtin.append_ #[t, tn] ty #[.slice (some ⟨g, o, none⟩) n cap, .int kq k]).run P w = .ok v' w' ∧ Vec w' 1 v' (n + k) (xs ++ List.replicate k (.int .u8 0)) ∧ Only (fun k => k = g) w w' ∧ (v'.ownBlock = some g ∨ ∃ g, v'.ownBlock = some g ∧ w.heap.size ≤ g ∧ g < w'.heap.size) := by
  have hl := h.len
  rcases Nat.eq_zero_or_pos k with rfl | hk
  · refine ⟨.slice (some ⟨g, o, none⟩) n cap, w, ?_, by rw [List.replicate_zero, List.append_nil]; exact .inr ⟨g, o, cap, rfl, h⟩, Only.refl _ _, .inl rfl⟩
    have hle := h.le
    have hw : IntKind.i64.wrap 0 = 0 := rfl
    have hst : ∀ b, (storeCells b ([] : List Value)).run P w = Result.ok () w := fun b => rfl
    simp [Builtin.append_, run_underlying h1, run_underlying htn, sizeOf, typeInfo, zeroValue, h2, h3, h4, h5, asInt, asIntOf, hw, hle, hst]
  rcases Nat.eq_zero_or_pos n with rfl | hn
  · have hnl : xs = [] := by simpa using hl
    subst hnl
    by_cases hr : k ≤ cap
    · have hsp : ∀ j, j < (List.replicate k (Value.int .u8 0)).length → (w.cell? ⟨g, o + 0 * 1 + j, none⟩).isSome = true ∧ w.frozen? ⟨g, o + 0 * 1 + j, none⟩ = false := fun j hj => by
        rw [List.length_replicate] at hj
        rw [Nat.add_assoc]
        exact h.room _ (by omega)
      have hst := run_storeCells_cells (P := P) g (o + 0 * 1) (List.replicate k (Value.int .u8 0)) 0 w (fun j hj => (hsp j hj).1) (fun j hj => (hsp j hj).2) (fun u hu => by rw [List.eq_of_mem_replicate hu]; rfl)
      simp only [Nat.add_zero] at hst
      refine ⟨_, _, ?_, .inr ⟨g, o, cap, rfl, h.more k (List.replicate k (Value.int .u8 0)) (by rw [List.length_replicate, Nat.mul_one]) (by omega)⟩, Only.grown (setCells_grown w g _ _) (fun j hj => (Option.some.inj hj).symm), .inl rfl⟩
      have hkn : k ≠ 0 := by omega
      have hw : IntKind.i64.wrap (k : Int) = k := by rw [IntKind.wrap_i64]; omega
      have h48i : ¬ (281474976710656 < (k : Int)) := by omega
      have hneg : ¬ ((k : Int) < 0) := by omega
      have hz := zeroCells_list k
      rw [Nat.mul_one] at hst
      simp only [Nat.zero_mul, Nat.add_zero] at hst ⊢
      simp [Builtin.append_, run_underlying h1, run_underlying htn, sizeOf, typeInfo, zeroValue, h2, h3, h4, h5, asInt, asIntOf, hw, hneg, hkn, hr, h48i, Addr.add_lit, hz, hst]
    · have hold : (Builtin.firstCells i.size 0 (.slice (some ⟨g, o, none⟩) 0 cap)).run P w.drew = .ok ([] : List Value).toArray w.drew :=
        run_firstCells_some (P := P) w.drew i.size 0 ⟨g, o, none⟩ 0 cap [] (by simp) (fun j u hj => by simp at hj)
      have hrun := Lib.run_append_grow_zeros (P := P) w t tn ty e i (.int .u8 0) kq kn h1 htn h2 h3 (some ⟨g, o, none⟩) 0 cap [] hold k hk (by omega) (by omega) (by omega) (by rw [h5]; omega) (by rw [h5]; exact growslice_fits (by omega) (by omega))
      have hge := grownCap_ge w (0 + k) cap e
      have hg := grown_vec w (0 + k) cap e ([] ++ List.replicate k (.int .u8 0)) (by simp only [maxLen]; omega) (by rw [List.length_append, List.length_replicate]; rfl) (cells := (([] : List Value).toArray ++ Builtin.zeroCells (Value.int .u8 0).cells k ++ Builtin.zeroCells (Value.int .u8 0).cells (grownCap w (0 + k) cap e - (0 + k))))
        (by rw [Array.size_append, Array.size_append, ← Array.length_toList (xs := Builtin.zeroCells _ (grownCap w (0 + k) cap e - (0 + k))), zeroCells_list, ← Array.length_toList (xs := Builtin.zeroCells _ k), zeroCells_list, List.length_replicate, List.length_replicate, List.size_toArray, List.length_nil]; omega)
        (by rw [Array.toList_append, Array.toList_append, zeroCells_list, List.take_append_of_le_length (by rw [List.length_append]; simp), List.take_of_length_le (by rw [List.length_append]; simp)])
      exact ⟨_, _, hrun, hg.1, hg.2 _, .inr ⟨w.heap.size, rfl, Nat.le_refl _, by simp⟩⟩
  · obtain ⟨v', w', r1, r2, r3, r4⟩ := run_append_vec_zeros (P := P) (w := w) t tn ty e i kq kn h1 htn h2 h3 h4 h5 (.inr ⟨g, o, cap, rfl, h⟩) hn k hk b1
    exact ⟨v', w', r1, r2, r3.mono fun b e => by have e' : some g = some b := e; exact (Option.some.inj e').symm, r4⟩
end

/-- An append whose run is known, guarded or not. -/
theorem wpList_append_given {P : Program} {w : World} {ops : Array Oper} {rest : List Oper} {o : Oper} {a : Act} {Q : Exit → Act → World → Prop} (hw : Region.wanted o (yielded ops a.tmps) = true) (s x : Operand) (t tx : TypeId)
    (hop : o.op = Op.call { callee := Callee.builtin Builtin.append, args := #[s, x], argTypes := #[t, tx] }) (v vx : Value) (hs : a.eval s = v) (hx : a.eval x = vx) (v' : Value) (w' : World)
    (hrun : (Builtin.append_ #[t, tx] o.type #[v, vx]).run P w = .ok v' w') (hK : wpList P ops Q rest (a.put o.dst v') w') : wpList P ops Q (o :: rest) a w := by
  refine wpList_step fun K hK' => ?_
  rw [if_pos hw]
  unfold Oper.wp
  simp [execOp, hop, resolve, invoke, builtin, hs, hx, hrun, Result.andThen]
  exact hK' _ _ hK
/-- A row of bytes, copied, and filled up to a tile. -/
theorem raw_row (w : World) (Q : Nat → Prop) (ra : Option Addr) (rc rn N : Nat) (R : List Int) (h : 0 < rn → Sl w Q 1 (.slice ra rn rc) rn (bc R)) (hl : R.length = rn) (h64 : rn ≤ 64) (hN : 64 - rn = N) :
    ∃ v1 w1 v2 w2, (Builtin.append_ #[23, 23] 23 #[.slice (some ⟨w.heap.size, 0, none⟩) 0 0, .slice ra rn rc]).run Tryz.prog (w.alloc (.cells #[] 5)) = .ok v1 w1 ∧
      (Builtin.append_ #[23, 3] 23 #[v1, .int .i64 (N : Int)]).run Tryz.prog w1 = .ok v2 w2 ∧ Reads w2 1 v2 64 (bc (R ++ List.replicate N 0)) ∧ Still w w2 ∧ ∀ g, v2.ownBlock = some g → w.heap.size ≤ g := by
  obtain ⟨i0, hi, hz0, hz1, hz2⟩ := info_parts info_b
  have hz : (w.alloc (.cells #[] 5)).heap.size = w.heap.size + 1 := by simp
  have hs0 : Still w (w.alloc (.cells #[] 5)) := (Still.refl w).alloc _
  have hv0 : VecAt (w.alloc (.cells #[] 5)) 1 w.heap.size 0 0 0 [] := by
    have := Vec.none_ (w.alloc (.cells #[] 5)) 1 w.heap.size 0
    exact this.at
  have key : ∃ v1 w1, (Builtin.append_ #[23, 23] 23 #[.slice (some ⟨w.heap.size, 0, none⟩) 0 0, .slice ra rn rc]).run Tryz.prog (w.alloc (.cells #[] 5)) = .ok v1 w1 ∧ Still w w1 ∧
      ∃ g o cap, v1 = .slice (some ⟨g, o, none⟩) rn cap ∧ VecAt w1 1 g o rn cap (bc R) ∧ w.heap.size ≤ g := by
    rcases Nat.eq_zero_or_pos rn with rfl | hp
    · rw [List.length_eq_zero_iff.1 hl]
      exact ⟨_, _, run_append_void _ _ _ i0 Tryz.underlying23 hi _ _ _ _ _ (Nat.le_refl _), hs0, _, _, _, rfl, hv0, Nat.le_refl _⟩
    · obtain ⟨v1, w1, r1, r2, r3, r4⟩ := run_append_vec (P := Tryz.prog) (w := w.alloc (.cells #[] 5)) 23 23 5 i0 _ 1 1 Tryz.underlying23 hi hz0 hz1 hz2 rfl (by decide) (Vec.none_ _ _ _ _) ((h hp).still hs0).reads (bc_one R) (by simp only [maxLen]; omega) (by omega)
      rw [Nat.zero_add, List.nil_append] at r2
      have hst : Still w w1 := hs0.andThen r3 fun j hj e => by
        have e2 : w.heap.size = j := Option.some.inj e
        omega
      obtain ⟨g, o, cap, rfl, ht⟩ := r2.form hp
      refine ⟨_, w1, r1, hst, g, o, cap, rfl, ht, ?_⟩
      rcases r4 with e | ⟨g', e, e1, e2⟩
      · have e2 : some g = some w.heap.size := e
        injection e2 with e2
        omega
      · have e3 : some g = some g' := e
        injection e3 with e3
        omega
  obtain ⟨v1, w1, r1, hs1, g, o, cap, rfl, ht, hg⟩ := key
  obtain ⟨v2, w2, q1, q2, q3, q4⟩ := run_append_at_zeros (P := Tryz.prog) 23 3 23 5 i0 .i64 .i64 Tryz.underlying23 Tryz.underlying3 hi hz0 hz1 hz2 ht N (by omega)
  have e64 : rn + N = 64 := by omega
  rw [e64] at q2
  have hsz := hs1.size
  refine ⟨_, w1, v2, w2, r1, q1, ?_, hs1.andThen q3 fun j hj e => by omega, fun g' hg' => ?_⟩
  · rw [bc_append]
    have : bc (List.replicate N 0) = List.replicate N (.int .u8 0) := by
      unfold bc
      rw [List.map_replicate]
    rw [this]
    exact q2.reads
  · rcases q4 with e | ⟨g2, e, e1, e2⟩
    · rw [e] at hg'
      injection hg' with hg'
      omega
    · rw [e] at hg'
      injection hg' with hg'
      omega

/-- Entries of two rows, one behind the other, copied. -/
theorem both_rows (w : World) {P Q : Nat → Prop} (xa ya : Option Addr) (xc yc n m : Nat) (es fs : List PE) (h : Ents w P (.slice xa n xc) es) (k : Ents w Q (.slice ya m yc) fs) (hn : es.length = n) (hm : fs.length = m) (b1 : n ≤ 1000) (b2 : m ≤ 1000) :
    ∃ v1 w1 v2 w2, (Builtin.append_ #[22, 22] 22 #[.slice (some ⟨w.heap.size, 0, none⟩) 0 0, .slice xa n xc]).run Tryz.prog (w.alloc (.cells #[] 34)) = .ok v1 w1 ∧
      (Builtin.append_ #[22, 22] 22 #[v1, .slice ya m yc]).run Tryz.prog w1 = .ok v2 w2 ∧ Ents w2 (fun _ => True) v2 (es ++ fs) ∧ Still w w2 := by
  obtain ⟨i0, hi, hz0, hz1, hz2⟩ := info_parts info_en
  obtain ⟨vs, a1, a2⟩ := h
  obtain ⟨us, c1, c2⟩ := k
  have one : ∀ {w' : World} {R : Nat → Prop} {l : List PE} {ws : List (List Value)}, EIall w' R l ws → ∀ u ∈ ws.flatten, u.oneCell' = true := fun {w' R l ws} hw u hu => by
    obtain ⟨c, hc, hu⟩ := List.mem_flatten.1 hu
    obtain ⟨j, hj, rfl⟩ := List.getElem_of_mem hc
    obtain ⟨ov, nv, mv, lv, dv, pv, he, h2⟩ := hw.2 j (l[j]'(by rw [← hw.1]; exact hj)) ws[j] (List.getElem?_eq_getElem _) (List.getElem?_eq_getElem _)
    obtain ⟨oa, oc, na, nc, ma, mc, la, lc, da, dc, pa, pc, rfl, rfl, rfl, rfl, rfl, rfl⟩ := h2.forms
    rw [he] at hu
    simp only [eV, List.mem_cons, List.not_mem_nil, or_false] at hu
    rcases hu with rfl | rfl | rfl | rfl | rfl | rfl | rfl | rfl | rfl | rfl | rfl | rfl | rfl | rfl | rfl | rfl <;> rfl
  have hz : (w.alloc (.cells #[] 34)).heap.size = w.heap.size + 1 := by simp
  have hs0 : Still w (w.alloc (.cells #[] 34)) := (Still.refl w).alloc _
  rw [hn] at a2
  rw [hm] at c2
  obtain ⟨v1, w1, r1, r2, r3, r4⟩ := run_append_vec (P := Tryz.prog) (w := w.alloc (.cells #[] 34)) 22 22 34 i0 _ 16 224 Tryz.underlying22 hi hz0 hz1 hz2 rfl (by decide) (Vec.none_ _ _ w.heap.size 0) (a2.still hs0).reads (one a1) (by simp only [maxLen]; omega) (by omega)
  have hst : Still w w1 := hs0.andThen r3 fun j hj e => by
    have e2 : w.heap.size = j := Option.some.inj e
    omega
  have hv1 : ∀ g, v1.ownBlock = some g → w.heap.size ≤ g := fun g hg => by
    rcases r4 with e | ⟨g', e, e1, e2⟩
    · have e2 : v1.ownBlock = some w.heap.size := e
      rw [e2] at hg
      injection hg with hg
      omega
    · rw [e] at hg
      injection hg with hg
      omega
  rw [Nat.zero_add, List.nil_append] at r2
  obtain ⟨v2, w2, q1, q2, q3, q4⟩ := run_append_vec (P := Tryz.prog) (w := w1) 22 22 34 i0 _ 16 224 Tryz.underlying22 hi hz0 hz1 hz2 rfl (by decide) r2 (c2.still hst).reads (one c1) (by simp only [maxLen]; omega) (by omega)
  have hst2 : Still w w2 := hst.andThen q3 fun j hj e => by have := hv1 j e; omega
  refine ⟨v1, w1, v2, w2, r1, q1, ⟨vs ++ us, ⟨by rw [List.length_append, List.length_append, a1.1, c1.1], fun j e c hj hc => ?_⟩, ?_⟩, hst2⟩
  · by_cases hjl : j < es.length
    · rw [List.getElem?_append_left hjl] at hj
      rw [List.getElem?_append_left (by rw [a1.1]; exact hjl)] at hc
      obtain ⟨ov, nv, mv, lv, dv, pv, e1, e2⟩ := a1.2 j e c hj hc
      exact ⟨ov, nv, mv, lv, dv, pv, e1, (EIs.mono e2 fun _ _ => trivial).still hst2⟩
    · rw [List.getElem?_append_right (by omega)] at hj
      rw [List.getElem?_append_right (by rw [a1.1]; omega), a1.1] at hc
      obtain ⟨ov, nv, mv, lv, dv, pv, e1, e2⟩ := c1.2 (j - es.length) e c hj hc
      exact ⟨ov, nv, mv, lv, dv, pv, e1, (EIs.mono e2 fun _ _ => trivial).still hst2⟩
  · rw [List.flatten_append, List.length_append, hn, hm]
    exact Vec.sl0 q2 (by decide)
end Go.Proofs.YtnoepnnfnfaglaaGreat

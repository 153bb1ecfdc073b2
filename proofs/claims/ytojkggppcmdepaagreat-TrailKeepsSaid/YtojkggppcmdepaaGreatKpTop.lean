/- Tiles laid, and what they say: plain. No program. No conditions. Entries appended one by one behind others that are there. Conditions: they lie in memory. TrailFront answers true. Conditions: a slice of bytes that lies in memory, a byte. Bytes, and noughts behind them; entries of two rows, one behind the other. Conditions: they lie in memory. A trail on a disk that is armed, entry by entry: what stands at the head of a round. Conditions: both lie in memory. A trail opened on a new disk, and on one behind a crash; the first ones of some entries. Conditions: they lie in memory. A slice that came in: where it lies, and that it reads its cells, empty or not. No conditions. TrailKeeps answers true. Conditions: three slices of bytes that lie in memory, two numbers. TrailKeeps: for every input the law returns true and its arguments read as before. No conditions beyond the row's. -/
import Derived.Test.YtojkggppcmdepaaGreatSameM
import Derived.Test.YtojkggppcmdepaaGreatRow
import Derived.Test.YtojkggppcmdepaaGreatKpLow
namespace Go.Proofs.YtojkggppcmdepaaGreat

theorem tls_length {T : List (List Int)} {a n : Nat} (h : a + n ≤ T.length) : (tls T a n).length = n := by
  unfold tls
  rw [List.length_take, List.length_drop]
  omega
theorem tls_at {T : List (List Int)} {a n j : Nat} (hj : j < n) : (tls T a n)[j]? = T[a + j]? := by
  unfold tls
  rw [List.getElem?_take_of_lt hj, List.getElem?_drop]
/-- The first tiles say a stream, the last one of them is not full: what is behind is not read. -/
theorem readB_front (S : List Int) : ∀ (k i : Nat) (L : List (List Int)), i + k = S.length / 63 → (∀ j, j ≤ k → L[j]? = some (tileB S (i + j))) → readB L = S.drop (i * 63)
  | k, i, [], _, h => by
    have := h 0 (Nat.zero_le _)
    simp at this
  | 0, i, s :: L, hk, h => by
    have hs : s = tileB S i := by
      have := h 0 (Nat.le_refl _)
      rw [List.getElem?_cons_zero] at this
      exact Option.some.inj this
    subst hs
    unfold readB
    have hp := partB_length S i
    have h1 : (tileB S i).headD 0 = ((partB S i).length : Int) := rfl
    have h2 : (tileB S i).drop 1 = partB S i ++ List.replicate (63 - (partB S i).length) 0 := rfl
    rw [h1, h2, if_neg (by omega), Int.toNat_natCast, List.take_left' rfl, if_pos (by omega), List.append_nil]
    unfold partB
    rw [List.take_of_length_le]
    rw [List.length_drop]
    omega
  | k + 1, i, s :: L, hk, h => by
    have hs : s = tileB S i := by
      have := h 0 (Nat.zero_le _)
      rw [List.getElem?_cons_zero] at this
      exact Option.some.inj this
    subst hs
    unfold readB
    have hp := partB_length S i
    have h1 : (tileB S i).headD 0 = ((partB S i).length : Int) := rfl
    have h2 : (tileB S i).drop 1 = partB S i ++ List.replicate (63 - (partB S i).length) 0 := rfl
    have h63 : (i + 1) * 63 ≤ S.length := by
      have := Nat.div_mul_le_self S.length 63
      have : (i + 1) * 63 ≤ S.length / 63 * 63 := Nat.mul_le_mul_right _ (by omega)
      omega
    rw [h1, h2, if_neg (by omega), Int.toNat_natCast, List.take_left' rfl, if_neg (by omega), readB_front S k (i + 1) L (by omega) (fun j hj => by
      have := h (j + 1) (by omega)
      rw [List.getElem?_cons_succ] at this
      rw [this, show i + 1 + j = i + (j + 1) by omega])]
    unfold partB
    rw [show (i + 1) * 63 = i * 63 + 63 by omega, ← List.drop_drop, List.take_append_drop]
/-- Tiles that say nothing are laid by an empty stream already. -/
theorem layB_void {T : List (List Int)} {a : Nat} : ∀ (n : Nat), (∀ j, j < n → T[a + j]? = some (List.replicate 64 0)) → layB T a [] n = T
  | 0, _ => rfl
  | n + 1, h => by
    show (layB T a [] n).set (a + n) (tileB [] n) = T
    rw [layB_void n fun j hj => h j (by omega), tileB_nil]
    apply List.ext_getElem?
    intro i
    rw [List.getElem?_set]
    split
    · rename_i hi
      subst hi
      rw [h n (by omega)]
      have := (List.getElem?_eq_some_iff.1 (h n (by omega))).1
      rw [if_pos this]
    · rfl
theorem tls_void {T : List (List Int)} {a n : Nat} (hn : a + n ≤ T.length) (h : ∀ j, j < n → T[a + j]? = some (List.replicate 64 0)) : tls T a n = zeroT n := by
  apply List.ext_getElem?
  intro j
  by_cases hj : j < n
  · rw [tls_at hj, h j hj]
    unfold zeroT
    rw [List.getElem?_replicate, if_pos hj]
  · rw [List.getElem?_eq_none (by rw [tls_length hn]; omega), List.getElem?_eq_none (by unfold zeroT; rw [List.length_replicate]; omega)]
theorem zeroT_get {m i : Nat} (h : i < m) : (zeroT m)[i]? = some (List.replicate 64 0) := by
  unfold zeroT
  rw [List.getElem?_replicate, if_pos h]
/-- The bytes that others' tiles have. -/
def patB : List Int := (List.range 64).map fun i => 200 + ((i % 50 : Nat) : Int)
theorem patB_byt : Byt patB := fun z hz => by
  obtain ⟨i, hi, rfl⟩ := List.mem_map.1 hz
  have := Nat.mod_lt i (show 50 > 0 by decide)
  omega
/-- The disk of TrailFront: its first tiles and its last one are others'. -/
def frT (n i : Nat) : List (List Int) := List.replicate i patB ++ zeroT (n + 33 - i)
theorem frT_length {n i : Nat} (h : i ≤ n) : (frT n i).length = n + 33 := by
  unfold frT zeroT
  rw [List.length_append, List.length_replicate, List.length_replicate]
  omega
theorem frT_next {n i : Nat} (h : i < n) : (frT n i).set i patB = frT n (i + 1) := by
  unfold frT zeroT
  generalize List.replicate 64 (0 : Int) = zz
  rw [List.set_append_right _ _ (by rw [List.length_replicate]; omega), List.length_replicate, Nat.sub_self, show n + 33 - i = (n + 33 - (i + 1)) + 1 by omega, List.replicate_succ, List.set_cons_zero, List.replicate_succ', List.append_assoc]
  rfl
theorem frT_zero (n : Nat) : frT n 0 = zeroT (n + 33) := rfl
def frE (n : Nat) : List (List Int) := (frT n n).set (n + 32) patB
theorem frE_length (n : Nat) : (frE n).length = n + 33 := by
  unfold frE
  rw [List.length_set, frT_length (Nat.le_refl _)]
theorem frE_first {n i : Nat} (h : i < n) : (frE n)[i]? = some patB := by
  unfold frE frT
  rw [List.getElem?_set_ne (by omega), List.getElem?_append_left (by rw [List.length_replicate]; exact h), List.getElem?_replicate, if_pos h]
theorem frE_last (n : Nat) : (frE n)[n + 32]? = some patB := by
  unfold frE
  rw [List.getElem?_set_self (by rw [frT_length (Nat.le_refl _)]; omega)]
theorem frE_mid {n j : Nat} (h : j < 32) : (frE n)[n + j]? = some (List.replicate 64 0) := by
  unfold frE frT
  rw [List.getElem?_set_ne (by omega), List.getElem?_append_right (by rw [List.length_replicate]; omega), List.length_replicate, zeroT_get (by omega)]
/-- What the tiles of the disk say at the end: others' are as they were. -/
theorem frL_get {n i : Nat} {S : List Int} (h : i < n + 33) : ∃ l, (layB (frE n) n S 32)[i]? = some l ∧ ((i < n ∨ i = n + 32) → l = patB) := by
  by_cases hi : i < n
  · exact ⟨patB, by rw [layB_other (.inl hi), frE_first hi], fun _ => rfl⟩
  · by_cases hl : i = n + 32
    · exact ⟨patB, by rw [layB_other (.inr (by omega)), hl, frE_last], fun _ => rfl⟩
    · refine ⟨tileB S (i - n), ?_, fun e => by omega⟩
      have := layB_get (T := frE n) (a := n) (S := S) (i := 32) (j := i - n) (by rw [frE_length]; omega) (by omega)
      rw [show n + (i - n) = i by omega] at this
      exact this
/-- A tile behind the last one in use is turned: the same entries are read. -/
theorem waste_scan {T : List (List Int)} {n k : Nat} {es : List PE} {b : List Int} (hl : n ≤ T.length) (hm : ∀ e ∈ es, e.may = true) (hk : (streamB es).length / 63 < k) (hn : (streamB es).length / 63 < n) :
    (scanB ((readB (tls ((layB T 0 (streamB es) n).set k b) 0 n)).length + 1) (readB (tls ((layB T 0 (streamB es) n).set k b) 0 n))).1 = es := by
  have h1 : readB (tls ((layB T 0 (streamB es) n).set k b) 0 n) = streamB es := by
    rw [readB_front (streamB es) _ 0 _ (Nat.zero_add _) fun j hj => by
      rw [tls_at (by omega), List.getElem?_set_ne (by omega), layB_get (by omega) (by omega), Nat.zero_add], Nat.zero_mul, List.drop_zero]
  rw [h1]
  have := scanB_stream firstB_nil es ((streamB es).length + 1) hm (by have := streamB_len es; omega)
  rw [List.append_nil] at this
  rw [this]
theorem layB_length' {T : List (List Int)} {a : Nat} {S : List Int} {i : Nat} : (layB T a S i).length = T.length := layB_length
end Go.Proofs.YtojkggppcmdepaaGreat

namespace Go.Proofs.YtojkggppcmdepaaGreat
open Go.RowKit Go.Wh Go.Maps

/-- What stands at the head of a round: behind pre the first i entries are noted; others (ks) lie where they lay. -/
structure LoS (W : World) (A : Nat → Prop) (d t at_ n : Nat) (T : List (List Int)) (C : Nat → Prop) (lv : Value) (es : List PE) (kv : Value) (ks pre : List PE) (s i : Nat) (wr : World) : Prop where
  ex : ∃ B : Nat → Prop, TlX B t d at_ n (pre ++ es.take i) s wr ∧ (∀ g, B g → W.heap.size ≤ g) ∧ (∀ g, A g → ¬ B g) ∧ ∀ g, C g → ¬ B g
  dk : DkX A d T wr
  en : Ents wr C lv es
  ke : Ents wr C kv ks
  cl : ∀ g, C g → g < wr.heap.size
  st : Still W wr
theorem LoS.next {W w w' : World} {A B C : Nat → Prop} {d t at_ n s i : Nat} {T : List (List Int)} {lv kv : Value} {es ks pre : List PE} {e : PE} (hd : DkX A d T w) (hen : Ents w C lv es) (hke : Ents w C kv ks) (hcl : ∀ g, C g → g < w.heap.size) (hs : Still W w) (hB : ∀ g, B g → W.heap.size ≤ g) (hA : ∀ g, A g → ¬ B g) (hC : ∀ g, C g → ¬ B g)
    (he : es[i]? = some e) (ht : TlX (Newer B w w') t d at_ n ((pre ++ es.take i) ++ [e]) s w') (ho : Only B w w') : LoS W A d t at_ n T C lv es kv ks pre s (i + 1) w' := by
  have hz := hs.size
  obtain ⟨hl, rfl⟩ := List.getElem?_eq_some_iff.1 he
  rw [List.append_assoc, List.take_append_getElem hl] at ht
  exact ⟨⟨_, ht, fun g hg => hg.elim (hB g) fun e => by omega, fun g hg e => e.elim (hA g hg) fun e => by have := hd.lt g hg; omega, fun g hg e => e.elim (hC g hg) fun e => by have := hcl g hg; omega⟩, hd.only ho fun g hg e => hA g hg e, hen.only ho fun g hg e => hC g hg e, hke.only ho fun g hg e => hC g hg e, fun g hg => Nat.lt_of_lt_of_le (hcl g hg) ho.size, still_of hs ho hB⟩
theorem LoS.len {es : List PE} {i : Nat} (h : ∀ e ∈ es, (frameB e).length = 51) (hi : i ≤ es.length) : (streamB (es.take i)).length = 51 * i := by
  rw [stream_51 fun x hx => h x (List.mem_of_mem_take hx), List.length_take, Nat.min_eq_left hi]
end Go.Proofs.YtojkggppcmdepaaGreat

namespace Go.Proofs.YtojkggppcmdepaaGreat
open Go.RowKit Go.Wh Go.Maps

theorem row_sl {W : World} {a : Option Addr} {m c : Nat} {zs : List Int} (h : IsRow .u8 W a m zs) (hm : 0 < m) : Sl W (fun _ => True) 1 (.slice a m c) m (bc zs) := by
  rcases h with ⟨h, _⟩ | ⟨b, off, rfl, hb, _, _, hl, hc, _⟩
  · omega
  · refine ⟨by rw [bc_length]; omega, .inr ⟨b, off, c, rfl, fun _ => ⟨trivial, hb⟩, fun j u hj => ?_⟩⟩
    have hjl := (List.getElem?_eq_some_iff.1 hj).1
    rw [bc_length] at hjl
    rw [hc j (by omega)]
    have e : (bc zs)[j]? = some (.int .u8 (zs.getD j 0)) := by
      unfold bc
      rw [List.getElem?_map, List.getD_eq_getElem?_getD, List.getElem?_eq_getElem hjl]
      rfl
    rw [← e]
    exact hj
theorem row_byt {W : World} {a : Option Addr} {m : Nat} {zs : List Int} (h : IsRow .u8 W a m zs) : Byt zs := by
  rcases h with ⟨_, rfl⟩ | ⟨b, off, rfl, hb, _, _, hl, hc, hw⟩
  · intro z hz; cases hz
  · intro z hz
    have := byte_wf (hw z hz)
    omega
theorem patB_length : patB.length = 64 := by unfold patB; rw [List.length_map, List.length_range]
/-- The first i bytes of the pattern, noughts behind. -/
def patN (i : Nat) : List Int := patB.take i ++ List.replicate (64 - i) 0
theorem patN_length {i : Nat} (h : i ≤ 64) : (patN i).length = 64 := by
  unfold patN
  rw [List.length_append, List.length_take, patB_length, List.length_replicate]
  omega
theorem patN_next {i : Nat} (h : i < 64) : (patN i).set i (200 + (i : Int) % 50) = patN (i + 1) := by
  have hl : (patB.take i).length = i := by rw [List.length_take, patB_length]; omega
  have hg : patB[i]? = some (200 + (i : Int) % 50) := by
    unfold patB
    rw [List.getElem?_map, List.getElem?_range h]
    show some (200 + ((i % 50 : Nat) : Int)) = _
    congr 1
  unfold patN
  rw [List.set_append_right _ _ (by omega), hl, Nat.sub_self, show 64 - i = (64 - (i + 1)) + 1 by omega, List.replicate_succ, List.set_cons_zero, List.take_add_one, hg, List.append_assoc]
  rfl
theorem patN_at {i : Nat} (h : i < 64) : (patN i)[i]? = some 0 := by
  have hl : (patB.take i).length = i := by rw [List.length_take, patB_length]; omega
  unfold patN
  rw [List.getElem?_append_right (by omega), hl, Nat.sub_self, List.getElem?_replicate, if_pos (by omega)]
theorem patN_all : patN 64 = patB := by
  unfold patN
  rw [List.take_of_length_le (by rw [patB_length]; omega), Nat.sub_self, List.replicate_zero, List.append_nil]
theorem bc_set (l : List Int) (i : Nat) (z : Int) : (bc l).set i (.int .u8 z) = bc (l.set i z) := by
  unfold bc
  rw [List.map_set]
/-- The row of the pattern in memory, and the disk: i tiles are written. -/
structure FrRel (W : World) (d b n i : Nat) (wr : World) : Prop where
  ex : ∃ A : Nat → Prop, DkX A d (frT n i) wr ∧ (∀ g, A g → W.heap.size ≤ g) ∧ ¬ A b
  c : cellsAt wr b (bc patB)
  st : Still W wr
theorem FrRel.next {W w w' : World} {d b n i : Nat} {A : Nat → Prop} (hc : cellsAt w b (bc patB)) (hs : Still W w) (hA : ∀ g, A g → W.heap.size ≤ g) (hb : ¬ A b) (hi : i < n) (hd : DkX (Newer A w w') d ((frT n i).set i patB) w') (ho : Only A w w') : FrRel W d b n (i + 1) w' := by
  rw [frT_next hi] at hd
  have := hs.size
  have := hc.lt
  exact ⟨⟨_, hd, fun g hg => hg.elim (hA g) fun e => by omega, fun e => e.elim hb fun e => by omega⟩, hc.only ho hb, still_of hs ho hA⟩
theorem cells_sl {w : World} {b n c : Nat} {l : List Int} (h : cellsAt w b (bc l)) (hn : l.length = n) : Sl w (fun _ => True) 1 (.slice (some ⟨b, 0, none⟩) n c) n (bc l) :=
  ⟨by rw [bc_length, Nat.mul_one]; exact hn, .inr ⟨b, 0, c, rfl, fun _ => ⟨trivial, h.lt⟩, fun j u hj => by rw [Nat.zero_add]; exact (h.cell j).trans hj⟩⟩
theorem fr_lay {n : Nat} {es : List PE} : (if 0 = es.length then frE n else layB (frE n) n (streamB es) 32) = layB (frE n) n (streamB es) 32 := by
  split
  · rename_i h
    rw [List.length_eq_zero_iff.1 h.symm]
    exact (layB_void 32 fun j hj => frE_mid hj).symm
  · rfl
theorem fr_open {A : Nat → Prop} {w : World} {d n : Nat} (hd : DkX A d (frE n) w) {a : Int} (ha : (n : Int) = a) :
    Calls Tryz.prog 15 #[.pointer (some ⟨d, 0, none⟩), .int .i64 a, .int .i64 32] w (OqPost A w d n 32 (frE n) []) := by
  have h1 : tls (frE n) n 32 = zeroT 32 := tls_void (by rw [frE_length]; omega) fun j hj => frE_mid hj
  have h2 : readB (tls (frE n) n 32) = [] := by rw [h1]; exact readB_zero 32
  have h3 : layB (frE n) n (streamB []) 32 = frE n := layB_void 32 fun j hj => frE_mid hj
  exact open_q hd (by rw [frE_length]; omega) (by decide) (by rw [h2]; rfl) h3 ha rfl
end Go.Proofs.YtojkggppcmdepaaGreat

namespace Go.Proofs.YtojkggppcmdepaaGreat
open Go.RowKit Go.Wh Go.Maps

section
variable {P : Program} {w : World}
/-- Nothing is appended. -/
theorem run_append_void (t ty e : TypeId) (i : TypeInfo) (h1 : P.underlying t = some (.slice e)) (h2 : P.info? e = some i) (aa ra : Option Addr) (n cap rc : Nat) (hle : n ≤ cap) :
    (Builtin.append_ #[t, t] ty #[.slice aa n cap, .slice ra 0 rc]).run P w = .ok (.slice aa n cap) w := by
  have hst : ∀ b, (storeCells b ([] : List Value)).run P w = Result.ok () w := fun b => rfl
  have hfc : (Builtin.firstCells i.size 0 (.slice ra 0 rc)).run P w = .ok #[] w := by
    cases ra with
    | none => simp [Builtin.firstCells]
    | some b => exact run_firstCells_some (P := P) w i.size 0 b 0 rc [] (by simp) (fun j u hj => by simp at hj)
  cases aa with
  | none => simp [Builtin.append_, run_underlying h1, sizeOf, typeInfo, h2, Builtin.lenOf, hle, hfc]
  | some b => simp [Builtin.append_, run_underlying h1, sizeOf, typeInfo, h2, Builtin.lenOf, hle, hfc, hst]
/-- Noughts, perhaps none, are appended to a row, perhaps an empty one. -/
theorem run_append_at_zeros (t tn ty e : TypeId) (i : TypeInfo) (kq kn : IntKind) (h1 : P.underlying t = some (.slice e)) (htn : P.underlying tn = some (.int kn)) (h2 : P.info? e = some i) (h3 : i.zero = some (.int .u8 0)) (h4 : i.size = 1) (h5 : i.bytes = 1)
    {g o cap n : Nat} {xs : List Value} (h : VecAt w 1 g o n cap xs) (k : Nat) (b1 : n + k ≤ 100000) :
    ∃ v' w', (Builtin.append_ #[t, tn] ty #[.slice (some ⟨g, o, none⟩) n cap, .int kq k]).run P w = .ok v' w' ∧ Vec w' 1 v' (n + k) (xs ++ List.replicate k (.int .u8 0)) ∧ Only (fun k => k = g) w w' ∧ (v'.ownBlock = some g ∨ ∃ g, v'.ownBlock = some g ∧ w.heap.size ≤ g ∧ g < w'.heap.size) := by
  have hl := h.len
  rcases Nat.eq_zero_or_pos k with rfl | hk
  · refine ⟨.slice (some ⟨g, o, none⟩) n cap, w, ?_, by rw [List.replicate_zero, List.append_nil]; exact .inr ⟨g, o, cap, rfl, h⟩, Only.refl _ _, .inl rfl⟩
    have hle := h.le
    have hw : IntKind.i64.wrap 0 = 0 := rfl
    have hst : ∀ b, (storeCells b ([] : List Value)).run P w = Result.ok () w := fun b => rfl
    simp [Builtin.append_, run_underlying h1, run_underlying htn, sizeOf, typeInfo, zeroValue, h2, h3, h4, h5, asInt, asIntOf, hw, hle, hst]
  rcases Nat.eq_zero_or_pos n with rfl | hn
  · have hnl : xs = [] := by simpa using hl
    subst hnl
    by_cases hr : k ≤ cap
    · have hsp : ∀ j, j < (List.replicate k (Value.int .u8 0)).length → (w.cell? ⟨g, o + 0 * 1 + j, none⟩).isSome = true ∧ w.frozen? ⟨g, o + 0 * 1 + j, none⟩ = false := fun j hj => by
        rw [List.length_replicate] at hj
        rw [Nat.add_assoc]
        exact h.room _ (by omega)
      have hst := run_storeCells_cells (P := P) g (o + 0 * 1) (List.replicate k (Value.int .u8 0)) 0 w (fun j hj => (hsp j hj).1) (fun j hj => (hsp j hj).2) (fun u hu => by rw [List.eq_of_mem_replicate hu]; rfl)
      simp only [Nat.add_zero] at hst
      refine ⟨_, _, ?_, .inr ⟨g, o, cap, rfl, h.more k (List.replicate k (Value.int .u8 0)) (by rw [List.length_replicate, Nat.mul_one]) (by omega)⟩, Only.grown (setCells_grown w g _ _) (fun j hj => (Option.some.inj hj).symm), .inl rfl⟩
      have hkn : k ≠ 0 := by omega
      have hw : IntKind.i64.wrap (k : Int) = k := by rw [IntKind.wrap_i64]; omega
      have h48i : ¬ (281474976710656 < (k : Int)) := by omega
      have hneg : ¬ ((k : Int) < 0) := by omega
      have hz := zeroCells_list k
      rw [Nat.mul_one] at hst
      simp only [Nat.zero_mul, Nat.add_zero] at hst ⊢
      simp [Builtin.append_, run_underlying h1, run_underlying htn, sizeOf, typeInfo, zeroValue, h2, h3, h4, h5, asInt, asIntOf, hw, hneg, hkn, hr, h48i, Addr.add_lit, hz, hst]
    · have hold : (Builtin.firstCells i.size 0 (.slice (some ⟨g, o, none⟩) 0 cap)).run P w.drew = .ok ([] : List Value).toArray w.drew :=
        run_firstCells_some (P := P) w.drew i.size 0 ⟨g, o, none⟩ 0 cap [] (by simp) (fun j u hj => by simp at hj)
      have hrun := Lib.run_append_grow_zeros (P := P) w t tn ty e i (.int .u8 0) kq kn h1 htn h2 h3 (some ⟨g, o, none⟩) 0 cap [] hold k hk (by omega) (by omega) (by omega) (by rw [h5]; omega) (by rw [h5]; exact growslice_fits (by omega) (by omega))
      have hge := grownCap_ge w (0 + k) cap e
      have hg := grown_vec w (0 + k) cap e ([] ++ List.replicate k (.int .u8 0)) (by simp only [maxLen]; omega) (by rw [List.length_append, List.length_replicate]; rfl) (cells := (([] : List Value).toArray ++ Builtin.zeroCells (Value.int .u8 0).cells k ++ Builtin.zeroCells (Value.int .u8 0).cells (grownCap w (0 + k) cap e - (0 + k))))
        (by rw [Array.size_append, Array.size_append, ← Array.length_toList (xs := Builtin.zeroCells _ (grownCap w (0 + k) cap e - (0 + k))), zeroCells_list, ← Array.length_toList (xs := Builtin.zeroCells _ k), zeroCells_list, List.length_replicate, List.length_replicate, List.size_toArray, List.length_nil]; omega)
        (by rw [Array.toList_append, Array.toList_append, zeroCells_list, List.take_append_of_le_length (by rw [List.length_append]; simp), List.take_of_length_le (by rw [List.length_append]; simp)])
      exact ⟨_, _, hrun, hg.1, hg.2 _, .inr ⟨w.heap.size, rfl, Nat.le_refl _, by simp⟩⟩
  · obtain ⟨v', w', r1, r2, r3, r4⟩ := run_append_vec_zeros (P := P) (w := w) t tn ty e i kq kn h1 htn h2 h3 h4 h5 (.inr ⟨g, o, cap, rfl, h⟩) hn k hk b1
    exact ⟨v', w', r1, r2, r3.mono fun b e => by have e' : some g = some b := e; exact (Option.some.inj e').symm, r4⟩
end

/-- An append whose run is known, guarded or not. -/
theorem wpList_append_given {P : Program} {w : World} {ops : Array Oper} {rest : List Oper} {o : Oper} {a : Act} {Q : Exit → Act → World → Prop} (hw : Region.wanted o (yielded ops a.tmps) = true) (s x : Operand) (t tx : TypeId)
    (hop : o.op = Op.call { callee := Callee.builtin Builtin.append, args := #[s, x], argTypes := #[t, tx] }) (v vx : Value) (hs : a.eval s = v) (hx : a.eval x = vx) (v' : Value) (w' : World)
    (hrun : (Builtin.append_ #[t, tx] o.type #[v, vx]).run P w = .ok v' w') (hK : wpList P ops Q rest (a.put o.dst v') w') : wpList P ops Q (o :: rest) a w := by
  refine wpList_step fun K hK' => ?_
  rw [if_pos hw]
  unfold Oper.wp
  simp [execOp, hop, resolve, invoke, builtin, hs, hx, hrun, Result.andThen]
  exact hK' _ _ hK
/-- A row of bytes, copied, and filled up to a tile. -/
theorem raw_row (w : World) (Q : Nat → Prop) (ra : Option Addr) (rc rn N : Nat) (R : List Int) (h : 0 < rn → Sl w Q 1 (.slice ra rn rc) rn (bc R)) (hl : R.length = rn) (h64 : rn ≤ 64) (hN : 64 - rn = N) :
    ∃ v1 w1 v2 w2, (Builtin.append_ #[23, 23] 23 #[.slice (some ⟨w.heap.size, 0, none⟩) 0 0, .slice ra rn rc]).run Tryz.prog (w.alloc (.cells #[] 5)) = .ok v1 w1 ∧
      (Builtin.append_ #[23, 3] 23 #[v1, .int .i64 (N : Int)]).run Tryz.prog w1 = .ok v2 w2 ∧ Reads w2 1 v2 64 (bc (R ++ List.replicate N 0)) ∧ Still w w2 ∧ ∀ g, v2.ownBlock = some g → w.heap.size ≤ g := by
  obtain ⟨i0, hi, hz0, hz1, hz2⟩ := info_parts info_b
  have hz : (w.alloc (.cells #[] 5)).heap.size = w.heap.size + 1 := by simp
  have hs0 : Still w (w.alloc (.cells #[] 5)) := (Still.refl w).alloc _
  have hv0 : VecAt (w.alloc (.cells #[] 5)) 1 w.heap.size 0 0 0 [] := by
    have := Vec.none_ (w.alloc (.cells #[] 5)) 1 w.heap.size 0
    exact this.at
  have key : ∃ v1 w1, (Builtin.append_ #[23, 23] 23 #[.slice (some ⟨w.heap.size, 0, none⟩) 0 0, .slice ra rn rc]).run Tryz.prog (w.alloc (.cells #[] 5)) = .ok v1 w1 ∧ Still w w1 ∧
      ∃ g o cap, v1 = .slice (some ⟨g, o, none⟩) rn cap ∧ VecAt w1 1 g o rn cap (bc R) ∧ w.heap.size ≤ g := by
    rcases Nat.eq_zero_or_pos rn with rfl | hp
    · rw [List.length_eq_zero_iff.1 hl]
      exact ⟨_, _, run_append_void _ _ _ i0 Tryz.underlying23 hi _ _ _ _ _ (Nat.le_refl _), hs0, _, _, _, rfl, hv0, Nat.le_refl _⟩
    · obtain ⟨v1, w1, r1, r2, r3, r4⟩ := run_append_vec (P := Tryz.prog) (w := w.alloc (.cells #[] 5)) 23 23 5 i0 _ 1 1 Tryz.underlying23 hi hz0 hz1 hz2 rfl (by decide) (Vec.none_ _ _ _ _) ((h hp).still hs0).reads (bc_one R) (by simp only [maxLen]; omega) (by omega)
      rw [Nat.zero_add, List.nil_append] at r2
      have hst : Still w w1 := hs0.andThen r3 fun j hj e => by
        have e2 : w.heap.size = j := Option.some.inj e
        omega
      obtain ⟨g, o, cap, rfl, ht⟩ := r2.form hp
      refine ⟨_, w1, r1, hst, g, o, cap, rfl, ht, ?_⟩
      rcases r4 with e | ⟨g', e, e1, e2⟩
      · have e2 : some g = some w.heap.size := e
        injection e2 with e2
        omega
      · have e3 : some g = some g' := e
        injection e3 with e3
        omega
  obtain ⟨v1, w1, r1, hs1, g, o, cap, rfl, ht, hg⟩ := key
  obtain ⟨v2, w2, q1, q2, q3, q4⟩ := run_append_at_zeros (P := Tryz.prog) 23 3 23 5 i0 .i64 .i64 Tryz.underlying23 Tryz.underlying3 hi hz0 hz1 hz2 ht N (by omega)
  have e64 : rn + N = 64 := by omega
  rw [e64] at q2
  have hsz := hs1.size
  refine ⟨_, w1, v2, w2, r1, q1, ?_, hs1.andThen q3 fun j hj e => by omega, fun g' hg' => ?_⟩
  · rw [bc_append]
    have : bc (List.replicate N 0) = List.replicate N (.int .u8 0) := by
      unfold bc
      rw [List.map_replicate]
    rw [this]
    exact q2.reads
  · rcases q4 with e | ⟨g2, e, e1, e2⟩
    · rw [e] at hg'
      injection hg' with hg'
      omega
    · rw [e] at hg'
      injection hg' with hg'
      omega

/-- Entries of two rows, one behind the other, copied. -/
theorem both_rows (w : World) {P Q : Nat → Prop} (xa ya : Option Addr) (xc yc n m : Nat) (es fs : List PE) (h : Ents w P (.slice xa n xc) es) (k : Ents w Q (.slice ya m yc) fs) (hn : es.length = n) (hm : fs.length = m) (b1 : n ≤ 1000) (b2 : m ≤ 1000) :
    ∃ v1 w1 v2 w2, (Builtin.append_ #[22, 22] 22 #[.slice (some ⟨w.heap.size, 0, none⟩) 0 0, .slice xa n xc]).run Tryz.prog (w.alloc (.cells #[] 34)) = .ok v1 w1 ∧
      (Builtin.append_ #[22, 22] 22 #[v1, .slice ya m yc]).run Tryz.prog w1 = .ok v2 w2 ∧ Ents w2 (fun _ => True) v2 (es ++ fs) ∧ Still w w2 := by
  obtain ⟨i0, hi, hz0, hz1, hz2⟩ := info_parts info_en
  obtain ⟨vs, a1, a2⟩ := h
  obtain ⟨us, c1, c2⟩ := k
  have one : ∀ {w' : World} {R : Nat → Prop} {l : List PE} {ws : List (List Value)}, EIall w' R l ws → ∀ u ∈ ws.flatten, u.oneCell' = true := fun {w' R l ws} hw u hu => by
    obtain ⟨c, hc, hu⟩ := List.mem_flatten.1 hu
    obtain ⟨j, hj, rfl⟩ := List.getElem_of_mem hc
    obtain ⟨ov, nv, mv, lv, dv, pv, he, h2⟩ := hw.2 j (l[j]'(by rw [← hw.1]; exact hj)) ws[j] (List.getElem?_eq_getElem _) (List.getElem?_eq_getElem _)
    obtain ⟨oa, oc, na, nc, ma, mc, la, lc, da, dc, pa, pc, rfl, rfl, rfl, rfl, rfl, rfl⟩ := h2.forms
    rw [he] at hu
    simp only [eV, List.mem_cons, List.not_mem_nil, or_false] at hu
    rcases hu with rfl | rfl | rfl | rfl | rfl | rfl | rfl | rfl | rfl | rfl | rfl | rfl | rfl | rfl | rfl | rfl <;> rfl
  have hz : (w.alloc (.cells #[] 34)).heap.size = w.heap.size + 1 := by simp
  have hs0 : Still w (w.alloc (.cells #[] 34)) := (Still.refl w).alloc _
  rw [hn] at a2
  rw [hm] at c2
  obtain ⟨v1, w1, r1, r2, r3, r4⟩ := run_append_vec (P := Tryz.prog) (w := w.alloc (.cells #[] 34)) 22 22 34 i0 _ 16 224 Tryz.underlying22 hi hz0 hz1 hz2 rfl (by decide) (Vec.none_ _ _ w.heap.size 0) (a2.still hs0).reads (one a1) (by simp only [maxLen]; omega) (by omega)
  have hst : Still w w1 := hs0.andThen r3 fun j hj e => by
    have e2 : w.heap.size = j := Option.some.inj e
    omega
  have hv1 : ∀ g, v1.ownBlock = some g → w.heap.size ≤ g := fun g hg => by
    rcases r4 with e | ⟨g', e, e1, e2⟩
    · have e2 : v1.ownBlock = some w.heap.size := e
      rw [e2] at hg
      injection hg with hg
      omega
    · rw [e] at hg
      injection hg with hg
      omega
  rw [Nat.zero_add, List.nil_append] at r2
  obtain ⟨v2, w2, q1, q2, q3, q4⟩ := run_append_vec (P := Tryz.prog) (w := w1) 22 22 34 i0 _ 16 224 Tryz.underlying22 hi hz0 hz1 hz2 rfl (by decide) r2 (c2.still hst).reads (one c1) (by simp only [maxLen]; omega) (by omega)
  have hst2 : Still w w2 := hst.andThen q3 fun j hj e => by have := hv1 j e; omega
  refine ⟨v1, w1, v2, w2, r1, q1, ⟨vs ++ us, ⟨by rw [List.length_append, List.length_append, a1.1, c1.1], fun j e c hj hc => ?_⟩, ?_⟩, hst2⟩
  · by_cases hjl : j < es.length
    · rw [List.getElem?_append_left hjl] at hj
      rw [List.getElem?_append_left (by rw [a1.1]; exact hjl)] at hc
      obtain ⟨ov, nv, mv, lv, dv, pv, e1, e2⟩ := a1.2 j e c hj hc
      exact ⟨ov, nv, mv, lv, dv, pv, e1, (EIs.mono e2 fun _ _ => trivial).still hst2⟩
    · rw [List.getElem?_append_right (by omega)] at hj
      rw [List.getElem?_append_right (by rw [a1.1]; omega), a1.1] at hc
      obtain ⟨ov, nv, mv, lv, dv, pv, e1, e2⟩ := c1.2 (j - es.length) e c hj hc
      exact ⟨ov, nv, mv, lv, dv, pv, e1, (EIs.mono e2 fun _ _ => trivial).still hst2⟩
  · rw [List.flatten_append, List.length_append, hn, hm]
    exact Vec.sl0 q2 (by decide)
end Go.Proofs.YtojkggppcmdepaaGreat

namespace Go.Proofs.YtojkggppcmdepaaGreat
open Go.RowKit Go.Wh Go.Maps

/-- The disk says the first st entries; or it was cut as i were noted. -/
def KOk (D : PDk) (es : List PE) (i st : Nat) : Prop := st ≤ i ∧ ((D.dead = false ∧ D.fine ∧ (D.was = fun _ => none) ∧ ∀ j x, D.T[j]? = some x → x = tileB (streamB (es.take st)) j) ∨ (D.down ∧ ∀ j x, D.T[j]? = some x → x = tileB (streamB (es.take st)) j ∨ x = tileB (streamB (es.take i)) j))
/-- All that is known of a disk. -/
def KDk (D : PDk) (es : List PE) (i st : Nat) : Prop := D.byt ∧ D.T.length = 60 ∧ KOk D es i st
theorem KDk.mix {D : PDk} {es : List PE} {i st : Nat} (h : KDk D es i st) : Mix 60 (streamB (es.take st)) (streamB (es.take i)) D := by
  obtain ⟨-, h1, -, h | h⟩ := h
  · refine ⟨h1, fun j l hj => .inl (h.2.2.2 j l hj), fun j l hj => ?_⟩
    rw [h.2.2.1] at hj
    cases hj
  · refine ⟨h1, h.2, fun j l hj => ?_⟩
    rw [h.1.2.2] at hj
    cases hj
/-- One more is noted; alive. -/
theorem KDk.noted {D : PDk} {es : List PE} {i st : Nat} (h : KDk D es i st) (hq : D.dead = false) : KDk D es (i + 1) st := by
  obtain ⟨h0, h1, hs, h | h⟩ := h
  · exact ⟨h0, h1, by omega, .inl h⟩
  · rw [h.1.1] at hq
    cases hq
theorem KDk.fine {D : PDk} {es : List PE} {i st : Nat} (h : KDk D es i st) (hq : D.dead = false) : D.fine ∧ D.was = fun _ => none := by
  obtain ⟨-, -, -, h | h⟩ := h
  · exact ⟨h.2.1, h.2.2.1⟩
  · rw [h.1.1] at hq
    cases hq
/-- They are forced: all of them are stable; or it was cut. -/
theorem KDk.forced {D : PDk} {es : List PE} {i st : Nat} (h : KDk D es i st) (hq : D.dead = false) (hb : Byt (streamB (es.take i))) :
    KDk (D.clean 0 (streamB (es.take i)) 60).2 es i (if (D.clean 0 (streamB (es.take i)) 60).1 = 0 then i else st) ∧ ((D.clean 0 (streamB (es.take i)) 60).1 ≠ 0 → (D.clean 0 (streamB (es.take i)) 60).2.dead = true) := by
  have hf := h.fine hq
  have hm := h.mix.clean (m := 60)
  refine ⟨⟨PDk.byt_clean h.1 hb, hm.1, ?_⟩, fun hr => (PDk.clean_cut hf.1 hq hr).1⟩
  by_cases hr : (D.clean 0 (streamB (es.take i)) 60).1 = 0
  · rw [if_pos hr]
    have := PDk.clean_ok hf.1 hq hf.2 hr
    refine ⟨Nat.le_refl _, .inl ⟨this.2.1, this.1, this.2.2.2, fun j x hj => ?_⟩⟩
    rw [this.2.2.1] at hj
    exact laid_all h.2.1 j x hj
  · rw [if_neg hr]
    exact ⟨h.2.2.1, .inr ⟨PDk.clean_cut hf.1 hq hr, hm.2.1⟩⟩
theorem loose_none {T : List (List Int)} {q : Bool} {p : Option (Int × List Int)} : PDk.loose ⟨T, fun _ => none, q, p⟩ = [] := by
  unfold PDk.loose looseL
  rw [List.filter_eq_nil_iff]
  intro i _ h
  cases h
/-- A disk behind a crash and power: what Open finds. -/
def UpD (D : PDk) (es : List PE) (i st : Nat) : Prop := D.byt ∧ D.dead = false ∧ D.plan = none ∧ Mix 60 (streamB (es.take st)) (streamB (es.take i)) D
theorem KDk.up {D : PDk} {es : List PE} {i st : Nat} (h : KDk D es i st) (hq : D.dead = true) : UpD { D with dead := false } es i st := by
  have hm := h.mix
  obtain ⟨h0, h1, hs, h | h⟩ := h
  · rw [h.1] at hq
    cases hq
  · exact ⟨h0, rfl, h.1.2.1, hm⟩
theorem KDk.upc {D : PDk} {es : List PE} {i st : Nat} (h : KDk D es i st) (mask : List Int) : UpD { D.crash mask with dead := false } es i st :=
  ⟨PDk.byt_crash h.1 mask, rfl, rfl, h.mix.crash mask⟩
theorem UpD.scan {D : PDk} {es : List PE} {i st : Nat} (h : UpD D es i st) (hi : i ≤ es.length) (hst : st ≤ i) (hm : ∀ e ∈ es, e.may = true) (hn : (streamB (es.take i)).length ≤ 60 * 63) :
    ∃ m, st ≤ m ∧ m ≤ i ∧ (scanB ((readB (tls D.T 0 60)).length + 1) (readB (tls D.T 0 60))).1 = es.take m := by
  have hl : (es.take i).length = i := by rw [List.length_take]; omega
  have hst2 : (es.take i).take st = es.take st := by rw [List.take_take]; congr 1; omega
  obtain ⟨m, h1, h2, h3⟩ := mix_scan (l := es.take i) (n := 60) (st := st) h.2.2.2.1 (fun e he => hm e (List.mem_of_mem_take he)) (by omega) hn (by rw [hst2]; exact h.2.2.2.2.1)
  rw [hl] at h2
  refine ⟨m, h1, h2, h3.trans ?_⟩
  rw [List.take_take]
  congr 1
  omega
/-- What stands at the head of a round. -/
structure KpRel (W : World) (d t : Nat) (C : Nat → Prop) (sv : Value) (es : List PE) (i st : Nat) (D : PDk) (wr : World) : Prop where
  ex : ∃ (A B : Nat → Prop), DgX A d D wr ∧ TlX B t d 0 60 (es.take i) st wr ∧ (∀ g, A g → W.heap.size ≤ g) ∧ (∀ g, B g → W.heap.size ≤ g) ∧ (∀ g, A g → ¬ B g) ∧ ∀ g, C g → ¬ A g ∧ ¬ B g
  ok : KDk D es i st
  en : Ents wr C sv es
  cl : ∀ g, C g → g < wr.heap.size
  st : Still W wr
theorem KpRel.noted {W w w' : World} {A B C : Nat → Prop} {d t i st : Nat} {D : PDk} {sv : Value} {es : List PE} {e : PE} (hd : DgX A d D w) (hA : ∀ g, A g → W.heap.size ≤ g) (hB : ∀ g, B g → W.heap.size ≤ g) (hab : ∀ g, A g → ¬ B g) (hC : ∀ g, C g → ¬ A g ∧ ¬ B g) (hok : KDk D es i st) (hq : D.dead = false) (hen : Ents w C sv es) (hcl : ∀ g, C g → g < w.heap.size) (hs : Still W w)
    (he : es[i]? = some e) (ht : TlX (Newer B w w') t d 0 60 (es.take i ++ [e]) st w') (ho : Only B w w') : KpRel W d t C sv es (i + 1) st D w' := by
  have hz := hs.size
  obtain ⟨hl, rfl⟩ := List.getElem?_eq_some_iff.1 he
  rw [List.take_append_getElem hl] at ht
  exact ⟨⟨A, _, hd.only ho fun g hg e => hab g hg e, ht, hA, fun g hg => hg.elim (hB g) fun e => by omega, fun g hg e => e.elim (hab g hg) fun e => by have := hd.lt g hg; omega, fun g hg => ⟨(hC g hg).1, fun e => e.elim (hC g hg).2 fun e => by have := hcl g hg; omega⟩⟩, hok.noted hq, hen.only ho fun g hg e => (hC g hg).2 e, fun g hg => Nat.lt_of_lt_of_le (hcl g hg) ho.size, still_of hs ho hB⟩
theorem KpRel.forced {W w w' : World} {d t i st : Nat} {C A B : Nat → Prop} {D : PDk} {sv : Value} {es : List PE} {en : Ending} (hA : ∀ g, A g → W.heap.size ≤ g) (hB : ∀ g, B g → W.heap.size ≤ g) (hab : ∀ g, A g → ¬ B g) (hC : ∀ g, C g → ¬ A g ∧ ¬ B g) (hok : KDk D es i st) (hq : D.dead = false) (hen : Ents w C sv es) (hcl : ∀ g, C g → g < w.heap.size) (hs : Still W w) (hbl : ∀ g, B g → g < w.heap.size)
    (hby : Byt (streamB (es.take i))) (hi : (es.take i).length = i) (h : FoPostG A B w t d 0 60 st (es.take i) (D.clean 0 (streamB (es.take i)) 60) en w') : KpRel W d t C sv es i (if (D.clean 0 (streamB (es.take i)) 60).1 = 0 then i else st) (D.clean 0 (streamB (es.take i)) 60).2 w' := by
  obtain ⟨-, h1, h2, h3⟩ := h
  have hz := hs.size
  have hcx : ∀ g, C g → ¬ (A g ∨ B g) := fun g hg e => e.elim (hC g hg).1 (hC g hg).2
  rw [hi] at h1
  exact ⟨⟨_, B, h2, h1, fun g hg => hg.elim (hA g) fun e => by omega, hB, fun g hg e => hg.elim (fun hg => hab g hg e) fun hg => by have := hbl g e; omega, fun g hg => ⟨fun e => e.elim (hC g hg).1 fun e => by have := hcl g hg; omega, (hC g hg).2⟩⟩, (hok.forced hq hby).1, hen.only h3 hcx, fun g hg => Nat.lt_of_lt_of_le (hcl g hg) h3.size, still_of hs h3 fun g hg => hg.elim (hA g) (hB g)⟩
end Go.Proofs.YtojkggppcmdepaaGreat

namespace Go.Proofs.YtojkggppcmdepaaGreat
open Go.RowKit Go.Wh Go.Maps

theorem newD_byt (n : Nat) : (newD n).byt := ⟨fun l hl => by
  have hl' : l ∈ List.replicate n (List.replicate 64 (0 : Int)) := hl
  rw [(List.mem_replicate.1 hl').2]
  exact Byt.zeros 64, fun i l e => by cases e⟩
theorem newD_length (n : Nat) : (newD n).T.length = n := by
  show (zeroT n).length = n
  unfold zeroT
  rw [List.length_replicate]
/-- What the first opening leaves. -/
def KoPost (A : Nat → Prop) (w : World) (d n : Nat) (en : Ending) (w' : World) : Prop :=
  ∃ (t : Nat) (la : Option Addr) (lc : Nat) (A' B : Nat → Prop) (D : PDk), en = .returned (.tuple #[.pointer (some ⟨t, 0, none⟩), .slice la 0 lc, .int .i64 0]) ∧ DgX A' d D w' ∧ TlX B t d 0 n [] 0 w' ∧ Only A w w' ∧
    (∀ g, A' g → A g ∨ w.heap.size ≤ g) ∧ (∀ g, B g → w.heap.size ≤ g) ∧ (∀ g, A' g → ¬ B g) ∧ D.byt ∧ D.T.length = n ∧ D.dead = false ∧ D.plan = none ∧ (D.was = fun _ => none) ∧ ∀ j x, D.T[j]? = some x → x = tileB [] j
theorem keeps_open {A : Nat → Prop} {w : World} {d n : Nat} (hd : DgX A d (newD n) w) (hn : n ≤ 1000) {N : Int} (hN : (n : Int) = N) :
    Calls Tryz.prog 15 #[.pointer (some ⟨d, 0, none⟩), .int .i64 0, .int .i64 N] w (KoPost A w d n) := by
  subst hN
  have hl := newD_length n
  have hb := newD_byt n
  obtain ⟨D, hD⟩ : ∃ D, D = newD n := ⟨_, rfl⟩
  have hT : D.T = zeroT n := by rw [hD]; rfl
  have h1 : D.dead = false := by rw [hD]; rfl
  have h2 : D.plan = none := by rw [hD]; rfl
  have h3 : D.was = fun _ => none := by rw [hD]; rfl
  rw [← hD] at hd hl hb
  refine (open_g (at_ := 0) (n := n) hd h1 h2 hb (by omega) (by omega) hn).mono fun en w' h => ?_
  obtain ⟨t, lv, es, A', B, C, rfl, he, k1, k2, k3, k4, k5, k6, -, k7, -, -⟩ := h
  have hes : es = [] := by
    rw [he, hT, tls_zero (by omega), readB_zero]
    rfl
  subst hes
  obtain ⟨la, lc, rfl⟩ := k3.form
  have hs : streamB [] = [] := rfl
  rw [hs] at k1
  have hc := PDk.clean_plain (D := D) (at_ := 0) (n := n) (S := []) h1 h2
  have hok := PDk.clean_ok (D := D) (at_ := 0) (n := n) (S := []) (PDk.fine_none h2) h1 h3 hc.1
  refine ⟨t, la, lc, A', B, _, rfl, k1, k2, k4, k5, k6, k7, PDk.byt_clean hb (fun z hz => by cases hz), ?_, hok.2.1, hc.2, hok.2.2.2, fun j x hj => ?_⟩
  · rw [hok.2.2.1, layB_length]
    exact hl
  · rw [hok.2.2.1] at hj
    exact laid_all hl j x hj
/-- What the opening behind a crash leaves. -/
def KrPost (A : Nat → Prop) (w : World) (d n : Nat) (es : List PE) (i st : Nat) (en : Ending) (w' : World) : Prop :=
  ∃ (t : Nat) (la : Option Addr) (lc : Nat) (A' B C : Nat → Prop) (T : List (List Int)) (k : Nat), st ≤ k ∧ k ≤ i ∧ T.length = n ∧ en = .returned (.tuple #[.pointer (some ⟨t, 0, none⟩), .slice la k lc, .int .i64 0]) ∧ DkX A' d (layB T 0 (streamB (es.take k)) n) w' ∧ TlX B t d 0 n (es.take k) k w' ∧ Ents w' C (.slice la k lc) (es.take k) ∧ Only A w w' ∧
    (∀ g, A' g → A g ∨ w.heap.size ≤ g) ∧ (∀ g, B g → w.heap.size ≤ g) ∧ (∀ g, C g → w.heap.size ≤ g ∧ g < w'.heap.size) ∧ (∀ g, A' g → ¬ B g) ∧ (∀ g, A' g → ¬ C g) ∧ ∀ g, B g → ¬ C g
theorem keeps_reopen {A : Nat → Prop} {w : World} {d i st : Nat} {D : PDk} {es : List PE} (hd : DgX A d D w) (hu : UpD D es i st) (hi : i ≤ es.length) (hst : st ≤ i) (hm : ∀ e ∈ es, e.may = true) (hn : (streamB (es.take i)).length ≤ 3780) {n : Nat} (hn60 : 60 = n) {N : Int} (hN : (n : Int) = N) :
    Calls Tryz.prog 15 #[.pointer (some ⟨d, 0, none⟩), .int .i64 0, .int .i64 N] w (KrPost A w d n es i st) := by
  subst hN
  obtain ⟨k, hk1, hk2, hk3⟩ := hu.scan hi hst hm (by omega)
  obtain ⟨hb, hq, hp, hmx⟩ := hu
  have hl : D.T.length = 60 := hmx.1
  rw [hn60] at hl hk3
  refine (open_g (at_ := 0) (n := n) hd hq hp hb (by omega) (by omega) (by omega)).mono fun en w' h => ?_
  obtain ⟨t, lv, fs, A', B, C, rfl, he, k1, k2, k3, k4, k5, k6, k7, k8, k9, k10⟩ := h
  have hes : fs = es.take k := he.trans hk3
  subst hes
  have hlen : (es.take k).length = k := by rw [List.length_take]; omega
  obtain ⟨la, lc, rfl⟩ := k3.form
  have hc := PDk.clean_plain (D := D) (at_ := 0) (n := n) (S := streamB (es.take k)) hq hp
  have hcl := clN_plain (D := D) (at_ := 0) (S := streamB (es.take k)) hp n
  have hTc : (D.clean 0 (streamB (es.take k)) n).2.T = layB D.T 0 (streamB (es.take k)) n ∧ (D.clean 0 (streamB (es.take k)) n).2.dead = false := by
    have hok := clN_ok (S := streamB (es.take k)) (at_ := 0) (PDk.fine_none hp) hq n hcl.1
    have hT := clN_T (S := streamB (es.take k)) (at_ := 0) (PDk.fine_none hp) hq n hcl.1
    unfold PDk.clean
    rw [if_neg (by rw [hcl.1]; decide)]
    split
    · unfold PDk.sync PDk.cuts
      rw [if_neg (by rw [hok.2]; decide), hcl.2]
      exact ⟨hT, hok.2⟩
    · exact ⟨hT, hok.2⟩
  have hle : (D.clean 0 (streamB (es.take k)) n).2.T.length ≤ 2000 := by
    rw [hTc.1, layB_length, hl, ← hn60]
    decide
  have hbb : (D.clean 0 (streamB (es.take k)) n).2.byt := PDk.byt_clean hb (streamB_byt k2.byt)
  have hdk := dkx_of_dg k1 hTc.2 hc.2 hbb hle
  rw [hTc.1] at hdk
  rw [hlen] at k2 k3
  refine ⟨t, la, lc, A', B, C, D.T, k, hk1, hk2, hl, by rw [hlen], hdk, k2, k3, k4, k5, k6, k7, k8, k9, k10⟩
set_option maxRecDepth 100000 in
/-- The first ones of some entries. -/
theorem ents_take {v : Value} {n k : Nat} {es : List PE} {w0 : World} {C0 : Nat → Prop} (h0 : Ents w0 C0 v es) (hc : Cap es.length v) (hn : es.length = n) (hk : k ≤ n) :
    ∃ a c, (∀ w, (Instr.slice 22 v none (some (.int .i64 (k : Int))) none).run Tryz.prog w = .ok (.slice a k c) w) ∧ Ents w0 C0 (.slice a k c) (es.take k) := by
  obtain ⟨i0, hi0, hz0, hz1, hz2⟩ := info_parts info_en
  obtain ⟨vs, b1, a2⟩ := h0
  have hcn := hc
  rw [hn] at a2 hcn
  obtain ⟨pv, -, r2, -, hcp, hpv⟩ := Sl.part (P := Tryz.prog) (size := 16) 22 Tryz.underlying22 (fun w => rfl) a2 hcn (Nat.zero_le k) hk
  have hr := r2 rfl
  obtain ⟨pa, pc, hpe, -⟩ := hcp
  rw [Nat.sub_zero] at hpe
  subst hpe
  refine ⟨pa, pc, hr, ?_⟩
  have hs := hpv w0 C0 a2
  have hlk : (es.take k).length = k := by rw [List.length_take]; omega
  have hsz := b1.sizes
  refine ⟨vs.take k, ⟨by rw [List.length_take, List.length_take, b1.1], fun j e c hj hcj => ?_⟩, ?_⟩
  · by_cases hjk : j < k
    · rw [List.getElem?_take_of_lt hjk] at hj hcj
      exact b1.2 j e c hj hcj
    · rw [List.getElem?_eq_none (by rw [hlk]; omega)] at hj
      cases hj
  · rw [hlk]
    have hfl : (vs.take k).flatten = vs.flatten.take (k * 16) := by
      have key : ∀ (us : List (List Value)) (j : Nat), (∀ v ∈ us, v.length = 16) → (us.take j).flatten = us.flatten.take (j * 16) := fun us => by
        induction us with
        | nil => intro j _; simp
        | cons u us ih =>
          intro j hu
          rcases j with _ | j
          · simp
          · rw [List.take_succ_cons, List.flatten_cons, List.flatten_cons, ih j fun v hv => hu v (by simp [hv]), List.take_append, hu u (by simp), List.take_of_length_le (l := u) (by rw [hu u (by simp)]; omega)]
            congr 2
            omega
      exact key vs k hsz
    rw [hfl]
    rw [Nat.sub_zero, Nat.zero_mul, List.drop_zero] at hs
    exact hs
theorem keeps_more {T : List (List Int)} {es fs : List PE} {k n : Nat} (hk : es.length = k) (h : T.length = n) : (if k = (es ++ fs).length then layB T 0 (streamB es) n else layB (layB T 0 (streamB es) n) 0 (streamB (es ++ fs)) n) = layB (layB T 0 (streamB es) n) 0 (streamB (es ++ fs)) n := by
  split
  · rename_i e
    rw [List.length_append] at e
    have hf : fs = [] := List.length_eq_zero_iff.1 (by omega)
    rw [hf, List.append_nil, layB_same (by omega) (Nat.le_refl _)]
  · rfl
end Go.Proofs.YtojkggppcmdepaaGreat

namespace Go.Proofs.YtojkggppcmdepaaGreat
open Go.RowKit Go.Wh Go.Maps Go.ChangeShapes Go.WideShapes Go.ChangeAt

theorem slice_in {P : Program} {W : World} {base : Nat} {t e : TypeId} {v : Value} (ht : P.underlying t = some (.slice e)) (hval : Value.okWide P W .any base t v) :
    v = .slice none 0 0 ∨ ∃ b o m c, v = .slice (some ⟨b, o, none⟩) m c ∧ b < W.heap.size := by
  obtain ⟨a, m, c, rfl⟩ := okWide_slice ht hval
  unfold Value.okWide at hval
  simp only [ht] at hval
  unfold Cell.okWide at hval
  simp only [ht] at hval
  unfold Cell.ok at hval
  simp only [ht] at hval
  rcases a with _ | ⟨b, o, sp⟩
  · left
    rcases m with _ | m
    · rcases c with _ | c
      · rfl
      · exact hval.elim
    · exact hval.elim
  · right
    have h3 := hval.2.2
    unfold World.has at h3
    obtain ⟨_, hs, row, cells, hsh, _⟩ := h3
    simp only at hs
    subst hs
    refine ⟨b, o, _, _, rfl, ?_⟩
    simp only [World.shape?] at hsh
    by_cases h : b < W.heap.size
    · exact h
    · rw [Array.getElem?_eq_none (by omega)] at hsh
      cases hsh

theorem row_reads {P : Program} {W : World} {base : Nat} {t e : TypeId} {a : Option Addr} {m c : Nat} {zs : List Int} (ht : P.underlying t = some (.slice e)) (hval : Value.okWide P W .any base t (.slice a m c)) (h : IsRow .u8 W a m zs) (hl : zs.length = m) :
    Reads W 1 (.slice a m c) m (bc zs) ∧ ∀ g, (Value.slice a m c).ownBlock = some g → g < W.heap.size := by
  rcases slice_in ht hval with e | ⟨b, o, m', c', e, hb⟩
  · cases e
    exact ⟨⟨by rw [bc_length]; omega, .inl ⟨rfl, rfl⟩⟩, fun g hg => by cases hg⟩
  · cases e
    refine ⟨⟨by rw [bc_length]; omega, .inr ⟨_, _, rfl, fun j u hj => ?_⟩⟩, fun g hg => by cases hg; exact hb⟩
    have hjl := (List.getElem?_eq_some_iff.1 hj).1
    rw [bc_length] at hjl
    rcases h with ⟨_, rfl⟩ | ⟨b', o', e1, _, _, _, _, hc, _⟩
    · simp at hjl
    · cases e1
      have e2 : (⟨b, o, none⟩ : Addr).add j = ⟨b, o + j, none⟩ := by unfold Addr.add; split <;> simp_all
      rw [e2, hc j (by omega)]
      have e : (bc zs)[j]? = some (.int .u8 (zs.getD j 0)) := by
        unfold bc
        rw [List.getElem?_map, List.getD_eq_getElem?_getD, List.getElem?_eq_getElem (by omega)]
        rfl
      rw [← e]
      exact hj

theorem u32_wf {z : Int} (h : (Lit.int .u32 z).wf = true) : 0 ≤ z ∧ z ≤ 4294967295 := by
  have e1 : IntKind.u32.min = 0 := by decide
  have e2 : IntKind.u32.max = 4294967295 := by decide
  simp only [Lit.wf, e1, e2, Bool.and_eq_true, decide_eq_true_eq] at h
  omega

theorem trodAll_five {H : Type} {enc : TypeId × Value → H} {P : Program} {w : World} {base : Nat} {spare : Nat → Bool} {held : Bool} {t t' t'' t3 t4 : TypeId} {args : Array Value} {ds : List (DataW H)} {ps : List MemPlace} (h : DataW.TrodAll enc P w base spare held [t, t', t'', t3, t4] args.toList ds ps) :
    ∃ v v' v'' v3 v4 d d' d'' d3 d4 p p' p'' p3 p4, args = #[v, v', v'', v3, v4] ∧ ds = [d, d', d'', d3, d4] ∧ ps = p ++ p' ++ p'' ++ p3 ++ p4 ∧ DataW.Trod enc P w base spare held t v d p ∧ DataW.Trod enc P w base spare held t' v' d' p' ∧ DataW.Trod enc P w base spare held t'' v'' d'' p'' ∧ DataW.Trod enc P w base spare held t3 v3 d3 p3 ∧ DataW.Trod enc P w base spare held t4 v4 d4 p4 := by
  obtain ⟨v, vs, d, ds', p, q, hargs, rfl, rfl, hd, hrest⟩ := trodAll_cons h
  obtain ⟨v', vs', d', ds'', p', q', rfl, rfl, rfl, hd', hrest'⟩ := trodAll_cons hrest
  obtain ⟨v'', vs'', d'', ds''', p'', q'', rfl, rfl, rfl, hd'', hrest''⟩ := trodAll_cons hrest'
  obtain ⟨v3, vs3, d3, ds3, p3, q3, rfl, rfl, rfl, hd3, hrest3⟩ := trodAll_cons hrest''
  obtain ⟨v4, vs4, d4, ds4, p4, q4, rfl, rfl, rfl, hd4, hrest4⟩ := trodAll_cons hrest3
  obtain ⟨rfl, rfl, rfl⟩ := trodAll_nil hrest4
  exact ⟨v, v', v'', v3, v4, d, d', d'', d3, d4, p, p', p'', p3, p4, by cases args; simp_all, rfl, by simp, hd, hd', hd'', hd3, hd4⟩
end Go.Proofs.YtojkggppcmdepaaGreat

namespace Go.Proofs.YtojkggppcmdepaaGreat
open Go.RowKit Go.Wh Go.Maps

/-- A disk behind a crash and power: its blocks. -/
def KxPost (W : World) (d : Nat) (C : Nat → Prop) (sv : Value) (es : List PE) (i st : Nat) (wc : World) : Prop :=
  ∃ (A : Nat → Prop) (D : PDk), DgX A d D wc ∧ (∀ g, A g → W.heap.size ≤ g) ∧ (∀ g, C g → ¬ A g) ∧ D.dead = true ∧ UpD { D with dead := false } es i st ∧ Ents wc C sv es ∧ (∀ g, C g → g < wc.heap.size) ∧ Still W wc
theorem KpRel.dead {W wr : World} {d t i st : Nat} {C : Nat → Prop} {D : PDk} {sv : Value} {es : List PE} (h : KpRel W d t C sv es i st D wr) (hq : D.dead = true) : KxPost W d C sv es i st wr := by
  obtain ⟨⟨A, B, h1, h2, h3, h4, h5, h6⟩, h7, h8, h9, h10⟩ := h
  exact ⟨A, D, h1, h3, fun g hg => (h6 g hg).1, hq, h7.up hq, h8, h9, h10⟩
theorem KpRel.crashed {W wr w' : World} {d t i st : Nat} {A C X : Nat → Prop} {D : PDk} {sv : Value} {es : List PE} {mask : List Int} (h : KpRel W d t C sv es i st D wr) (hA : ∀ g, A g → W.heap.size ≤ g) (hC : ∀ g, C g → ¬ A g) (hd : DgX A d (D.crash mask) w') (ho : Only X wr w') (hx : ∀ g, X g → A g) : KxPost W d C sv es i st w' := by
  obtain ⟨-, h7, h8, h9, h10⟩ := h
  exact ⟨A, _, hd, hA, hC, rfl, h7.upc mask, h8.only ho fun g hg e => hC g hg (hx g e), fun g hg => Nat.lt_of_lt_of_le (h9 g hg) ho.size, still_of h10 ho fun g hg => hA g (hx g hg)⟩

set_option maxHeartbeats 32000000 in
set_option maxRecDepth 100000 in
theorem keeps_walk (W : World) (Q R : Nat → Prop) (xa ya ka : Option Addr) (xc yc kc m m2 mm : Nat) (L M mask : List Int) (fz z : Int) (hl : L.length = m ∧ (0 < m → Sl W Q 1 (.slice xa m xc) m (bc L)) ∧ Byt L) (hm : M.length = m2 ∧ (0 < m2 → Sl W Q 1 (.slice ya m2 yc) m2 (bc M)) ∧ Byt M)
    (hk : mask.length = mm ∧ (0 < mm → Sl W R 1 (.slice ka mm kc) mm (bc mask)) ∧ Byt mask ∧ Reads W 1 (.slice ka mm kc) mm (bc mask)) (hkb : ∀ g, (Value.slice ka mm kc).ownBlock = some g → g < W.heap.size) (hR : ∀ g, R g → g < W.heap.size) (h0 : 0 ≤ z) (h1 : z ≤ 255) (_f0 : 0 ≤ fz) (_f1 : fz ≤ 4294967295) :
    Calls Tryz.prog 5 #[.slice xa m xc, .int .u32 fz, .int .u8 z, .slice ka mm kc, .slice ya m2 yc] W (BTrue W) := by
  have HBG := Lib.hid (begun_any W)
  have HL := Lib.hid (And.intro hl (And.intro hm (And.intro hk (And.intro hkb hR))))
  clear hl hm hk hkb hR
  obtain ⟨c, hc⟩ : ∃ c : Nat, z % 40 = (c : Int) := ⟨(z % 40).toNat, by omega⟩
  have HC := Lib.hid (show c ≤ 39 from by omega)
  by_cases hbad : 20 < m ∨ 8 < mm ∨ 10 < m2
  · obtain ⟨x1, e1⟩ : ∃ b, decide ((20 : Int) < (m : Int)) = b := ⟨_, rfl⟩
    obtain ⟨x2, e2⟩ : ∃ b, decide ((8 : Int) < (mm : Int)) = b := ⟨_, rfl⟩
    obtain ⟨x3, e3⟩ : ∃ b, decide ((10 : Int) < (m2 : Int)) = b := ⟨_, rfl⟩
    have f1 : decide (20 < m) = x1 := by rw [← e1]; exact decide_eq_decide.2 (by omega)
    have f2 : decide (8 < mm) = x2 := by rw [← e2]; exact decide_eq_decide.2 (by omega)
    have f3 : decide (10 < m2) = x3 := by rw [← e3]; exact decide_eq_decide.2 (by omega)
    have hx : x1 = true ∨ x2 = true ∨ x3 = true := by
      rcases hbad with h | h | h
      · left; rw [← f1]; exact decide_eq_true h
      · right; left; rw [← f2]; exact decide_eq_true h
      · right; right; rw [← f3]; exact decide_eq_true h
    have HX := Lib.hid hx
    clear hbad hc hx
    go_enter Tryz.func5, Tryz.ntmps5
    go_wp2_with fail
    refine HBG.out.mono ?_
    rintro en w1 ⟨rfl, hs1⟩
    have F := Lib.hid (show BTrue W (.returned (.bool true)) w1 from ⟨rfl, hs1⟩)
    clear hs1 HBG
    cases x1
    · cases x2
      · cases x3
        · exact absurd HX.out (by simp)
        · go_wp2_with fail
          go_ret
          exact F.out
      · go_wp2_with fail
        go_ret
        exact F.out
    · go_wp2_with fail
      go_ret
      exact F.out
  have b1 : decide ((20 : Int) < (m : Int)) = false := decide_eq_false (by omega)
  have b2 : decide ((8 : Int) < (mm : Int)) = false := decide_eq_false (by omega)
  have b3 : decide ((10 : Int) < (m2 : Int)) = false := decide_eq_false (by omega)
  have b4 : decide (20 < m) = false := decide_eq_false (by omega)
  have b5 : decide (8 < mm) = false := decide_eq_false (by omega)
  have b6 : decide (10 < m2) = false := decide_eq_false (by omega)
  have HM := Lib.hid (show m ≤ 20 ∧ m2 ≤ 10 ∧ mm ≤ 8 from by omega)
  clear hbad
  go_enter Tryz.func5, Tryz.ntmps5
  go_wp2_with fail
  refine HBG.out.mono ?_
  rintro en w1 ⟨rfl, hs1⟩
  have HN := Lib.hid (new_g w1 60 (by decide) (N := 60) rfl)
  have H1 := Lib.hid hs1
  clear hs1 HBG
  go_wp2_with fail
  refine HN.out.mono ?_
  rintro en w2 ⟨d, rfl, hd2, hs2⟩
  have HO := Lib.hid (keeps_open hd2 (by decide) (N := 60) rfl)
  have H2 := Lib.hid (H1.out.trans hs2)
  clear hd2 hs2 HN
  go_wp2_with fail
  refine HO.out.mono ?_
  rintro en w3 ⟨t, la, lc, A3, B3, D3, rfl, hd3, ht3, ho3, ha3, hb3, hab3, hby3, hl3, hq3, hp3, hw3, hT3⟩
  have hs3 : Still W w3 := still_of H2.out ho3 fun g hg => by have := hg.1; have := H1.out.size; omega
  have HSM := Lib.hid (some_cap w3 Q (.slice xa m xc) m L ⟨xa, xc, rfl, HL.out.1.1, fun h => (HL.out.1.2.1 h).still hs3⟩ HL.out.1.2.2 (by have := HM.out; omega))
  have HA3 := Lib.hid (show (∀ g, A3 g → W.heap.size ≤ g) ∧ ∀ g, B3 g → W.heap.size ≤ g from ⟨fun g hg => (ha3 g hg).elim (fun e => by have := e.1; have := H1.out.size; omega) fun e => by have := H2.out.size; omega, fun g hg => by have := hb3 g hg; have := H2.out.size; omega⟩)
  have H3 := Lib.hid (And.intro hd3 (And.intro ht3 (And.intro hs3 hab3)))
  have HD3 := Lib.hid (And.intro hby3 (And.intro hl3 (And.intro hq3 (And.intro hp3 (And.intro hw3 hT3)))))
  clear hd3 ht3 ho3 ha3 hb3 hab3 hs3 HO hby3 hl3 hq3 hp3 hw3 hT3
  go_wp2_with fail
  refine HSM.out.mono ?_
  rintro en w4 ⟨sv, rfl, hen, hcap, hs4⟩
  obtain ⟨sa, sc, rfl⟩ := hen.form
  have hlen : (someL L).length = m := by rw [someL_length]; exact HL.out.1.1
  have hd4 := H3.out.1.still hs4
  obtain ⟨tv4, mb4, vs4, V4, pp4, hda4⟩ := hd4
  have hs4W : Still W w4 := H3.out.2.2.1.trans hs4
  have HAR := Lib.hid (arm_at hda4 (c : Int) ka mm kc mask (Reads.still HL.out.2.2.1.2.2.2 hs4W) (fun g hg e => by
    have e1 := HL.out.2.2.2.1 g hg
    have e2 := HA3.out.1 g e
    omega) HL.out.2.2.1.2.2.1 (by have := HM.out; omega))
  have HES := Lib.hid (And.intro (someL_may (L := L) (by have := HL.out.1.1; have := HM.out; omega)) (And.intro (someL_51 L) hlen))
  have hen2 := hen
  rw [hlen] at hen hcap ⊢
  generalize someL L = es at *
  have H4 := Lib.hid (And.intro hen (And.intro hcap (And.intro hs4 hs4W)))
  clear hen hcap hs4 hs4W HSM hlen hda4 hen2
  go_wp2_with fail
  rw [hc]
  refine HAR.out.mono ?_
  rintro en w5 ⟨rfl, hd5, ho5⟩
  obtain ⟨D5, hD5⟩ : ∃ D, D = D3.arm (c : Int) mask := ⟨_, rfl⟩
  rw [← hD5] at hd5
  have hok5 : KDk D5 es 0 0 := by
    obtain ⟨q1, q2, q3, q4, q5, q6⟩ := HD3.out
    rw [hD5]
    refine ⟨q1, q2, Nat.le_refl _, .inl ⟨q3, fun k mk he => ?_, q5, q6⟩⟩
    have he' : (if (0 : Int) ≤ (c : Int) then some ((c : Int), mask) else none) = some (k, mk) := he
    rw [if_pos (by omega)] at he'
    injection he' with he'
    injection he' with e1 e2
    have := HC.out
    omega
  obtain ⟨C5, hC5⟩ : ∃ C, C = (fun g => w3.heap.size ≤ g ∧ g < w4.heap.size) := ⟨_, rfl⟩
  have hA34 : ∀ g, A3 g → g < w3.heap.size := H3.out.1.lt
  have HREL := Lib.hid (show KpRel W d t C5 (.slice sa m sc) es 0 0 D5 w5 from by
    rw [hC5]
    have hz4 := H4.out.2.2.1.size
    have hzW := H4.out.2.2.2.size
    have hz5 := ho5.size
    have hB3 : ∀ g, B3 g → g < w3.heap.size := H3.out.2.1.lt
    refine ⟨⟨_, B3, hd5, (H3.out.2.1.still H4.out.2.2.1).only ho5 fun g hg e => H3.out.2.2.2 g e hg, fun g hg => hg.elim (HA3.out.1 g) fun e => by omega, HA3.out.2, fun g hg e => hg.elim (fun hg => H3.out.2.2.2 g hg e) fun hg => by have := hB3 g e; omega, fun g hg => ⟨fun e => e.elim (fun e => by have := hA34 g e; omega) fun e => by omega, fun e => by have := hB3 g e; omega⟩⟩, hok5, H4.out.1.low.only ho5 fun g hg e => by have := hA34 g e; omega, fun g hg => by omega, still_of H4.out.2.2.2 ho5 HA3.out.1⟩)
  have HCAP := Lib.hid H4.out.2.1
  clear hd5 ho5 hD5 hok5 hC5 HAR hA34 H4 H3 HD3 HA3
  go_wp2_with fail
  go_loopw [16, 17] (fun s16 s17 wr => ∃ (i st : Nat) (D : PDk), s17 = .int .i64 i ∧ s16 = .int .i64 st ∧ i ≤ m ∧ st ≤ i ∧ KpRel W d t C5 (.slice sa m sc) es i st D wr) (fun _ s17 _ => m - (intOf s17).toNat)
  case atStart => exact ⟨0, 0, D5, rfl, rfl, Nat.zero_le _, Nat.le_refl _, HREL.out⟩
  case round =>
    clear HREL
    obtain ⟨i, st, D, rfl, rfl, him, hst, hrel⟩ := hrel
    have HR := Lib.hid hrel
    have HI := Lib.hid (And.intro him hst)
    have u1 : IntKind.i64.wrap ((i : Int) + 1) = (i : Int) + 1 := IntWalk.i64_in _ (by have := HM.out; omega)
    have i0 : (0 : Int) ≤ (i : Int) := by omega
    obtain ⟨⟨A, B, hd, ht, hA, hB, hab, hC⟩, hok, hen, hcl, hstl⟩ := hrel
    obtain ⟨tv, mb, vs, V, pp, hda⟩ := id hd
    have HDD := Lib.hid (dead_at hda)
    by_cases hgo : i < m ∧ D.dead = false
    ·
      as_aux_lemma =>
        obtain ⟨hi, hq⟩ := hgo
        have HQ := Lib.hid hq
        rw [hq] at HDD
        have d1 : decide ((i : Int) < (m : Int)) = true := decide_eq_true (by omega)
        have d2 : decide (i < m) = true := decide_eq_true hi
        have l1 : (i : Int) < (m : Int) := by omega
        obtain ⟨e, he⟩ : ∃ e, es[i]? = some e := ⟨_, List.getElem?_eq_getElem (by rw [HES.out.2.2]; exact hi)⟩
        obtain ⟨g, o, oa, oc, na, nc, ma, mc, ka', kc', da, dc, va, vc, hsa, -, hei, hcs⟩ := hen.at he
        have hmem := List.mem_of_getElem? he
        have hlen : (es.take i).length = i := by rw [List.length_take, HES.out.2.2]; omega
        have h51 : (streamB (es.take i)).length = 51 * i := LoS.len HES.out.2.1 (by rw [HES.out.2.2]; exact him)
        have HAP := Lib.hid (ap_ok ht hei (HES.out.1 e hmem) (by rw [h51, HES.out.2.1 e hmem]; have := HM.out; omega) (N := (i : Int) + 1) (by rw [hlen]; omega))
        have HNO := Lib.hid (fun w' (ht' : TlX (Newer B wr w') t d 0 60 (es.take i ++ [e]) st w') (ho' : Only B wr w') => show KpRel W d t C5 (.slice sa m sc) es (i + 1) st D w' from KpRel.noted hd hA hB hab hC hok hq hen hcl hstl he ht' ho')
        subst hsa
        have c0 : wr.cell? ⟨g, o + i * 16, none⟩ = some (.int .i64 e.kind) := hcs 0 _ (by decide) rfl
        have c1 : wr.cell? ⟨g, o + i * 16 + 1, none⟩ = some (.int .i64 e.txn) := by rw [Nat.add_assoc]; exact hcs 1 _ (by decide) rfl
        have c2 : wr.cell? ⟨g, o + i * 16 + 2, none⟩ = some (.int .i64 e.unit) := by rw [Nat.add_assoc]; exact hcs 2 _ (by decide) rfl
        have c3 : wr.cell? ⟨g, o + i * 16 + 3, none⟩ = some (.int .i64 e.half) := by rw [Nat.add_assoc]; exact hcs 3 _ (by decide) rfl
        have c4 : wr.cell? ⟨g, o + i * 16 + 4, none⟩ = some (.int .i64 e.prev) := by rw [Nat.add_assoc]; exact hcs 4 _ (by decide) rfl
        have c5 : wr.cell? ⟨g, o + i * 16 + 5, none⟩ = some (.int .i64 e.next) := by rw [Nat.add_assoc]; exact hcs 5 _ (by decide) rfl
        have c6 : wr.cell? ⟨g, o + i * 16 + 6, none⟩ = some (.int .i64 e.ap) := by rw [Nat.add_assoc]; exact hcs 6 _ (by decide) rfl
        have c7 : wr.cell? ⟨g, o + i * 16 + 7, none⟩ = some (.int .i64 e.ac) := by rw [Nat.add_assoc]; exact hcs 7 _ (by decide) rfl
        have c8 : wr.cell? ⟨g, o + i * 16 + 8, none⟩ = some (.int .i64 e.tp) := by rw [Nat.add_assoc]; exact hcs 8 _ (by decide) rfl
        have c9 : wr.cell? ⟨g, o + i * 16 + 9, none⟩ = some (.int .i64 e.tc) := by rw [Nat.add_assoc]; exact hcs 9 _ (by decide) rfl
        have c10 : wr.cell? ⟨g, o + i * 16 + 10, none⟩ = some (.slice oa e.old.length oc) := by rw [Nat.add_assoc]; exact hcs 10 _ (by decide) rfl
        have c11 : wr.cell? ⟨g, o + i * 16 + 11, none⟩ = some (.slice na e.new.length nc) := by rw [Nat.add_assoc]; exact hcs 11 _ (by decide) rfl
        have c12 : wr.cell? ⟨g, o + i * 16 + 12, none⟩ = some (.slice ma e.moves.length mc) := by rw [Nat.add_assoc]; exact hcs 12 _ (by decide) rfl
        have c13 : wr.cell? ⟨g, o + i * 16 + 13, none⟩ = some (.slice ka' e.lives.length kc') := by rw [Nat.add_assoc]; exact hcs 13 _ (by decide) rfl
        have c14 : wr.cell? ⟨g, o + i * 16 + 14, none⟩ = some (.slice da e.dirty.length dc) := by rw [Nat.add_assoc]; exact hcs 14 _ (by decide) rfl
        have c15 : wr.cell? ⟨g, o + i * 16 + 15, none⟩ = some (.slice va e.opens.length vc) := by rw [Nat.add_assoc]; exact hcs 15 _ (by decide) rfl
        unfold eV at HAP
        obtain ⟨q, hqb⟩ : ∃ q, (bits BinOp.and IntKind.u32 (fz / 2 ^ min i 32) 1 == 1) = q := ⟨_, rfl⟩
        have HE := Lib.hid (And.intro hi he)
        clear hd ht hA hB hab hC hok hen hcl hstl hda hei hcs hmem hlen h51 he him hst hi hq
        go_wp2_with fail
        refine HDD.out.mono ?_
        rintro en w6 ⟨rfl, rfl⟩
        go_wp2_with fail
        refine HAP.out.mono ?_
        rintro en w7 ⟨rfl, ht7, ho7⟩
        have HK7 := Lib.hid (HNO.out w7 ht7 ho7)
        clear ht7 ho7 HAP HNO
        cases q with
        | false =>
          go_wp2_with fail
          go_roundw
          case rel => exact ⟨i + 1, st, D, by go_num, rfl, by have := HE.out.1; omega, by have := HI.out.2; omega, HK7.out⟩
          case measure => simp [intOf]; have := HE.out.1; omega
        | true =>
          obtain ⟨⟨A7, B7, hd7, ht7, hA7, hB7, hab7, hC7⟩, hok7, hen7, hcl7, hst7⟩ := HK7.out
          have hf7 := hok7.fine HQ.out
          have hlen7 : (es.take (i + 1)).length = i + 1 := by rw [List.length_take, HES.out.2.2]; have := HE.out.1; omega
          have HFO := Lib.hid (force_g ht7 hd7 hab7 HQ.out hf7.1 hok7.1 (by rw [hok7.2.1]; decide) (by rw [hok7.2.1]; decide) (by rw [hlen7]; have := HI.out.2; omega))
          have HFF := Lib.hid (fun en w' (h : FoPostG A7 B7 w7 t d 0 60 st (es.take (i + 1)) (D.clean 0 (streamB (es.take (i + 1))) 60) en w') => show KpRel W d t C5 _ es (i + 1) _ _ w' from KpRel.forced hA7 hB7 hab7 hC7 hok7 HQ.out hen7 hcl7 hst7 ht7.lt (streamB_byt ht7.byt) hlen7 h)
          clear hd7 ht7 hA7 hB7 hab7 hC7 hok7 hen7 hcl7 hst7 hf7 hlen7
          obtain ⟨RR, hRR⟩ : ∃ r, r = D.clean 0 (streamB (es.take (i + 1))) 60 := ⟨_, rfl⟩
          rw [← hRR] at HFO HFF
          clear hRR
          obtain ⟨r1, r2⟩ := RR
          go_wp2_with fail
          refine HFO.out.mono ?_
          intro en w8 hp8
          have hk8 := HFF.out _ _ hp8
          obtain ⟨rfl, -⟩ := hp8
          dsimp only at hk8 ⊢
          by_cases hr0 : r1 = 0
          · subst hr0
            rw [if_pos rfl] at hk8
            have HK8 := Lib.hid hk8
            clear hk8 HFO HFF
            go_wp2_with fail
            go_roundw
            case rel => exact ⟨i + 1, i + 1, r2, by go_num, by go_num, by have := HE.out.1; omega, Nat.le_refl _, HK8.out⟩
            case measure => simp [intOf]; have := HE.out.1; omega
          · have qe : (r1 == 0) = false := by rw [beq_eq_false_iff_ne]; exact hr0
            rw [if_neg hr0] at hk8
            have HK8 := Lib.hid hk8
            clear hk8 HFO HFF
            go_wp2_with fail
            go_roundw
            case rel => exact ⟨i + 1, st, r2, by go_num, rfl, by have := HE.out.1; omega, by have := HI.out.2; omega, HK8.out⟩
            case measure => simp [intOf]; have := HE.out.1; omega
    · have hcase : (i < m ∧ D.dead = true) ∨ i = m := by
        by_cases hi : i < m
        · refine .inl ⟨hi, ?_⟩
          cases hq : D.dead with
          | true => rfl
          | false => exact absurd ⟨hi, hq⟩ hgo
        · exact .inr (by omega)
      have hTl : D.T.length ≤ 2000 := by rw [hok.2.1]; decide
      clear hgo
      rcases hcase with ⟨hi, hq⟩ | hie
      ·
        as_aux_lemma =>
          have d1 : decide ((i : Int) < (m : Int)) = true := decide_eq_true (by omega)
          have d2 : decide (i < m) = true := decide_eq_true hi
          rw [hq] at HDD
          have HX := Lib.hid (HR.out.dead hq)
          clear hd ht hA hB hab hC hok hen hcl hstl hda hi him hst hq hTl
          go_wp2_with fail
          refine HDD.out.mono ?_
          rintro en w6 ⟨rfl, rfl⟩
          go_wp2_with fail
          refine HDD.out.mono ?_
          rintro en w6 ⟨rfl, rfl⟩
          obtain ⟨A6, D6, hd6, hA6, hC6, hq6, hu6, hen6, hcl6, hst6⟩ := HX.out
          obtain ⟨tv6, mb6, vs6, V6, pp6, hda6⟩ := id hd6
          have HPW := Lib.hid (power_at hda6)
          have H6 := Lib.hid (And.intro hA6 (And.intro hC6 (And.intro hu6 (And.intro hen6 (And.intro hcl6 hst6)))))
          clear hd6 hA6 hC6 hq6 hu6 hen6 hcl6 hst6 hda6
          go_wp2_with fail
          refine HPW.out.mono ?_
          rintro en w7 ⟨rfl, hd7, ho7⟩
          have H7 := Lib.hid (show Still W w7 ∧ Ents w7 C5 (.slice sa m sc) es ∧ ∀ g, C5 g → g < w7.heap.size from ⟨still_of H6.out.2.2.2.2.2 ho7 H6.out.1, H6.out.2.2.2.1.only ho7 H6.out.2.1, fun g hg => Nat.lt_of_lt_of_le (H6.out.2.2.2.2.1 g hg) ho7.size⟩)
          have HRO := Lib.hid (keeps_reopen hd7 H6.out.2.2.1 (by rw [HES.out.2.2]; exact HI.out.1) HI.out.2 HES.out.1 (by rw [LoS.len HES.out.2.1 (by rw [HES.out.2.2]; exact HI.out.1)]; have := HI.out.1; have := HM.out; omega) (n := 60) rfl (N := 60) rfl)
          clear hd7 ho7 HPW
          go_wp2_with fail
          refine HRO.out.mono ?_
          rintro en w8 ⟨t2, la2, lc2, A8, B8, C8, T8, k, hk1, hk2, hT8, rfl, hd8, ht8, hen8, ho8, ha8, hb8, hc8, hab8, hac8, hbc8⟩
          have hs8 : Still W w8 := still_of H7.out.1 ho8 H6.out.1
          have hall8 := H7.out.2.1.only ho8 H6.out.2.1
          have hkm : k ≤ m := by have := HI.out.1; omega
          obtain ⟨ta, tc, hsl, htk⟩ := ents_take hall8 (by rw [HES.out.2.2]; exact HCAP.out) HES.out.2.2 hkm
          have hlk : (es.take k).length = k := by rw [List.length_take, HES.out.2.2]; omega
          have hmk : ∀ e ∈ es.take k, e.may = true := fun e he => HES.out.1 e (List.mem_of_mem_take he)
          have h5k : ∀ e ∈ es.take k, (frameB e).length = 51 := fun e he => HES.out.2.1 e (List.mem_of_mem_take he)
          have HSE := Lib.hid (same_entries (w := w8) _ _ (es.take k) hen8 htk hmk (by rw [hlk]; have := HM.out; omega))
          have g1 : decide ((k : Int) < (st : Int)) = false := decide_eq_false (by omega)
          have g2 : decide ((m : Int) < (k : Int)) = false := decide_eq_false (by omega)
          have g3 : decide (k < st) = false := decide_eq_false (by omega)
          have g4 : decide (m < k) = false := decide_eq_false (by omega)
          have HKK := Lib.hid (And.intro hlk (And.intro hmk (And.intro h5k (And.intro hkm hT8))))
          have H8 := Lib.hid (And.intro hs8 (And.intro hd8 (And.intro ht8 (And.intro hen8 (And.intro hab8 (And.intro (show (∀ g, A8 g → W.heap.size ≤ g) ∧ (∀ g, B8 g → W.heap.size ≤ g) from by
            have hz := H7.out.1.size
            exact ⟨fun g hg => (ha8 g hg).elim (H6.out.1 g) fun e => by omega, fun g hg => by have := hb8 g hg; omega⟩) (show ∀ g, C8 g → ¬ A8 g ∧ ¬ B8 g ∧ g < w8.heap.size from fun g hg => ⟨fun e => hac8 g e hg, fun e => hbc8 g e hg, (hc8 g hg).2⟩)))))))
          clear hs8 hall8 hd8 ht8 hen8 ho8 ha8 hb8 hc8 hab8 hac8 hbc8 htk hlk hmk h5k hk1 hk2 hkm hT8 HRO
          generalize es.take k = ek at *
          go_wp2_with fail
          refine HSE.out.mono ?_
          rintro en w9 ⟨rfl, hs9⟩
          have HS9 := Lib.hid hs9
          have HSM := Lib.hid (some_any w9 Q (.slice ya m2 yc) m2 M ⟨ya, yc, rfl, HL.out.2.1.1, fun h => (HL.out.2.1.2.1 h).still (H8.out.1.trans hs9)⟩ HL.out.2.1.2.2 (by have := HM.out; omega))
          clear hs9 HSE g1 g2 g3 g4 hsl
          go_wp2_with fail
          refine HSM.out.mono ?_
          rintro en w10 ⟨sv2, rfl, hen, hs10⟩
          obtain ⟨sa2, sc2, rfl⟩ := hen.form
          have hlen : (someL M).length = m2 := by rw [someL_length]; exact HL.out.2.1.1
          rw [hlen] at hen ⊢
          have hz9 := HS9.out.size
          have hz10 := hs10.size
          have hREL : LoS W A8 d t2 0 60 (layB T8 0 (streamB ek) 60) (fun g => C8 g ∨ (w9.heap.size ≤ g ∧ g < w10.heap.size)) (.slice sa2 m2 sc2) (someL M) (.slice la2 k lc2) ek ek k 0 w10 :=
            ⟨⟨B8, by rw [List.take_zero, List.append_nil]; exact (H8.out.2.2.1.still HS9.out).still hs10, H8.out.2.2.2.2.2.1.2, H8.out.2.2.2.2.1, fun g hg e => hg.elim (fun hg => (H8.out.2.2.2.2.2.2 g hg).2.1 e) fun hg => by have := H8.out.2.2.1.lt g e; omega⟩, (H8.out.2.1.still HS9.out).still hs10, hen.low.mono fun g hg => .inr hg, ((H8.out.2.2.2.1.still HS9.out).still hs10).mono fun g hg => .inl hg, fun g hg => hg.elim (fun hg => by have := (H8.out.2.2.2.2.2.2 g hg).2.2; omega) fun hg => hg.2, (H8.out.1.trans HS9.out).trans hs10⟩
          have HFS := Lib.hid (And.intro (someL_may (L := M) (by have := HL.out.2.1.1; have := HM.out; omega)) (And.intro (someL_51 M) hlen))
          generalize someL M = fs at *
          obtain ⟨C10, hC10⟩ : ∃ C, C = (fun g => C8 g ∨ (w9.heap.size ≤ g ∧ g < w10.heap.size)) := ⟨_, rfl⟩
          rw [← hC10] at hREL
          have HC10 := Lib.hid (show ∀ g, C10 g → ¬ A8 g from by
            rw [hC10]
            exact fun g hg e => hg.elim (fun hg => (H8.out.2.2.2.2.2.2 g hg).1 e) fun hg => by have := H8.out.2.1.lt g e; omega)
          have HREL := Lib.hid hREL
          clear hREL hen hs10 HSM hlen hC10 hz9 hz10
          go_wp2_with fail
          go_loopw [24] (fun s wr => ∃ i : Nat, s = .int .i64 i ∧ i ≤ m2 ∧ LoS W A8 d t2 0 60 (layB T8 0 (streamB ek) 60) C10 (.slice sa2 m2 sc2) fs (.slice la2 k lc2) ek ek k i wr) (fun s _ => m2 - (intOf s).toNat)
          case atStart => exact ⟨0, rfl, Nat.zero_le _, HREL.out⟩
          case round =>
            clear HREL
            obtain ⟨i, rfl, him, ⟨⟨B, ht, hB, hab, hcb⟩, hd, hen, hke, hcl, hst⟩⟩ := hrel
            have HH := Lib.hid (And.intro ht (And.intro hB (And.intro hab (And.intro hcb (And.intro hd (And.intro hen (And.intro hke (And.intro hcl hst))))))))
            have u1 : IntKind.i64.wrap ((i : Int) + 1) = (i : Int) + 1 := IntWalk.i64_in _ (by have := HM.out; omega)
            have u2 : IntKind.i64.wrap ((k : Int) + (i : Int)) = (k : Int) + (i : Int) := IntWalk.i64_in _ (by have := HM.out; have := HKK.out.2.2.2.1; omega)
            have u3 : IntKind.i64.wrap ((k : Int) + (i : Int) + 1) = (k : Int) + (i : Int) + 1 := IntWalk.i64_in _ (by have := HM.out; have := HKK.out.2.2.2.1; omega)
            by_cases hi : i < m2
            · have d1 : decide ((i : Int) < (m2 : Int)) = true := decide_eq_true (by omega)
              have d2 : decide (i < m2) = true := decide_eq_true hi
              have l0 : (0 : Int) ≤ (i : Int) := by omega
              have l1 : (i : Int) < (m2 : Int) := by omega
              obtain ⟨e, he⟩ : ∃ e, fs[i]? = some e := ⟨_, List.getElem?_eq_getElem (by rw [HFS.out.2.2]; exact hi)⟩
              obtain ⟨g, o, oa, oc, na, nc, ma, mc, ka', kc', da, dc, va, vc, hsa, -, hei, hcs⟩ := hen.at he
              subst hsa
              have hmem := List.mem_of_getElem? he
              have hlen : (ek ++ fs.take i).length = k + i := by rw [List.length_append, List.length_take, HFS.out.2.2, HKK.out.1]; omega
              have h51 : (streamB (ek ++ fs.take i)).length = 51 * (k + i) := by rw [streamB_append, List.length_append, LoS.len HFS.out.2.1 (by rw [HFS.out.2.2]; exact him), stream_51 HKK.out.2.2.1, HKK.out.1]; omega
              have HAP := Lib.hid (ap_ok ht hei (HFS.out.1 e hmem) (by rw [h51, HFS.out.2.1 e hmem]; have := HM.out; have := HKK.out.2.2.2.1; omega) (N := (k : Int) + (i : Int) + 1) (by rw [hlen]; omega))
              have HE := Lib.hid (And.intro he hi)
              have c0 : wr.cell? ⟨g, o + i * 16, none⟩ = some (.int .i64 e.kind) := hcs 0 _ (by decide) rfl
              have c1 : wr.cell? ⟨g, o + i * 16 + 1, none⟩ = some (.int .i64 e.txn) := by rw [Nat.add_assoc]; exact hcs 1 _ (by decide) rfl
              have c2 : wr.cell? ⟨g, o + i * 16 + 2, none⟩ = some (.int .i64 e.unit) := by rw [Nat.add_assoc]; exact hcs 2 _ (by decide) rfl
              have c3 : wr.cell? ⟨g, o + i * 16 + 3, none⟩ = some (.int .i64 e.half) := by rw [Nat.add_assoc]; exact hcs 3 _ (by decide) rfl
              have c4 : wr.cell? ⟨g, o + i * 16 + 4, none⟩ = some (.int .i64 e.prev) := by rw [Nat.add_assoc]; exact hcs 4 _ (by decide) rfl
              have c5 : wr.cell? ⟨g, o + i * 16 + 5, none⟩ = some (.int .i64 e.next) := by rw [Nat.add_assoc]; exact hcs 5 _ (by decide) rfl
              have c6 : wr.cell? ⟨g, o + i * 16 + 6, none⟩ = some (.int .i64 e.ap) := by rw [Nat.add_assoc]; exact hcs 6 _ (by decide) rfl
              have c7 : wr.cell? ⟨g, o + i * 16 + 7, none⟩ = some (.int .i64 e.ac) := by rw [Nat.add_assoc]; exact hcs 7 _ (by decide) rfl
              have c8 : wr.cell? ⟨g, o + i * 16 + 8, none⟩ = some (.int .i64 e.tp) := by rw [Nat.add_assoc]; exact hcs 8 _ (by decide) rfl
              have c9 : wr.cell? ⟨g, o + i * 16 + 9, none⟩ = some (.int .i64 e.tc) := by rw [Nat.add_assoc]; exact hcs 9 _ (by decide) rfl
              have c10 : wr.cell? ⟨g, o + i * 16 + 10, none⟩ = some (.slice oa e.old.length oc) := by rw [Nat.add_assoc]; exact hcs 10 _ (by decide) rfl
              have c11 : wr.cell? ⟨g, o + i * 16 + 11, none⟩ = some (.slice na e.new.length nc) := by rw [Nat.add_assoc]; exact hcs 11 _ (by decide) rfl
              have c12 : wr.cell? ⟨g, o + i * 16 + 12, none⟩ = some (.slice ma e.moves.length mc) := by rw [Nat.add_assoc]; exact hcs 12 _ (by decide) rfl
              have c13 : wr.cell? ⟨g, o + i * 16 + 13, none⟩ = some (.slice ka' e.lives.length kc') := by rw [Nat.add_assoc]; exact hcs 13 _ (by decide) rfl
              have c14 : wr.cell? ⟨g, o + i * 16 + 14, none⟩ = some (.slice da e.dirty.length dc) := by rw [Nat.add_assoc]; exact hcs 14 _ (by decide) rfl
              have c15 : wr.cell? ⟨g, o + i * 16 + 15, none⟩ = some (.slice va e.opens.length vc) := by rw [Nat.add_assoc]; exact hcs 15 _ (by decide) rfl
              unfold eV at HAP
              clear ht hB hab hcb hd hen hke hcl hst hei hcs hmem hlen h51 he him hi
              go_wp2_with fail
              refine HAP.out.mono ?_
              rintro en wx ⟨rfl, htx, hox⟩
              have HNX := Lib.hid (show LoS W A8 d t2 0 60 (layB T8 0 (streamB ek) 60) C10 (.slice (some ⟨g, o, none⟩) m2 sc2) fs (.slice la2 k lc2) ek ek k (i + 1) wx from LoS.next HH.out.2.2.2.2.1 HH.out.2.2.2.2.2.1 HH.out.2.2.2.2.2.2.1 HH.out.2.2.2.2.2.2.2.1 HH.out.2.2.2.2.2.2.2.2 HH.out.2.1 HH.out.2.2.1 HH.out.2.2.2.1 HE.out.1 htx hox)
              have hi := HE.out.2
              clear htx hox HAP
              go_wp2_with fail
              go_roundw
              case rel => exact ⟨i + 1, by go_num, by omega, HNX.out⟩
              case measure => simp [intOf]; omega
            · have d1 : decide ((i : Int) < (m2 : Int)) = false := decide_eq_false (by omega)
              have d2 : decide (i < m2) = false := decide_eq_false hi
              have hte : fs.take i = fs := List.take_of_length_le (by rw [HFS.out.2.2]; omega)
              rw [hte] at ht
              have hfo := force_any ht hd hab (by rw [layB_length', HKK.out.2.2.2.2]; decide)
              rw [keeps_more HKK.out.1 HKK.out.2.2.2.2] at hfo
              have HFO := Lib.hid hfo
              have HBX := Lib.hid (And.intro hB (And.intro hab (And.intro hcb (And.intro hen (And.intro hke (And.intro hst (And.intro hcl hd.lt)))))))
              clear ht hB hab hcb hd hen hke hcl hst him hfo hi hte
              go_wp2_with fail
              refine HFO.out.mono ?_
              rintro en w13 ⟨rfl, -, hd13, ho13⟩
              have H13 := Lib.hid (show Still W w13 ∧ Ents w13 C10 (.slice sa2 m2 sc2) fs ∧ Ents w13 C10 (.slice la2 k lc2) ek ∧ (∀ g, C10 g → ¬ Newer A8 wr w13 g) ∧ ∀ g, Newer A8 wr w13 g → W.heap.size ≤ g from by
                obtain ⟨hB, hab, hcb, hen, hke, hst, hcl, hdl⟩ := HBX.out
                have hz := hst.size
                have hz5 := ho13.size
                have hcx : ∀ g, C10 g → ¬ (A8 g ∨ B g) := fun g hg e => e.elim (HC10.out g hg) (hcb g hg)
                exact ⟨still_of hst ho13 fun g hg => hg.elim (H8.out.2.2.2.2.2.1.1 g) (hB g), hen.only ho13 hcx, hke.only ho13 hcx, fun g hg e => e.elim (HC10.out g hg) fun e => by have := hcl g hg; omega, fun g hg => hg.elim (H8.out.2.2.2.2.2.1.1 g) fun e => by omega⟩)
              have HO13 := Lib.hid (open_laid (at_ := 0) (n := 60) (a := 0) (k := 60) hd13 (by rw [layB_length', HKK.out.2.2.2.2]; decide) (by decide) (fun e he => (List.mem_append.1 he).elim (HKK.out.2.1 e) (HFS.out.1 e)) (by rw [streamB_append, List.length_append, stream_51 HKK.out.2.2.1, stream_51 HFS.out.2.1, HKK.out.1, HFS.out.2.2]; have := HM.out; have := HKK.out.2.2.2.1; omega) rfl rfl)
              clear hd13 ho13 HFO HBX
              generalize Newer A8 wr w13 = A13 at *
              go_wp2_with fail
              refine HO13.out.mono ?_
              rintro en w14 ⟨t3, la3, lc3, A14, B14, C14, rfl, -, -, hen14, ho14, -⟩
              have hs14 := still_of H13.out.1 ho14 H13.out.2.2.2.2
              obtain ⟨v15, w15, v16, w16, hr15, hr16, hen16, hs16⟩ := both_rows w14 la2 sa2 lc2 sc2 k m2 ek fs (H13.out.2.2.1.only ho14 H13.out.2.2.2.1) (H13.out.2.1.only ho14 H13.out.2.2.2.1) HKK.out.1 HFS.out.2.2 (by have := HM.out; have := HKK.out.2.2.2.1; omega) (by have := HM.out; omega)
              have HSE := Lib.hid (same_entries (w := w16) _ v16 (ek ++ fs) (hen14.still hs16) hen16 (fun e he => (List.mem_append.1 he).elim (HKK.out.2.1 e) (HFS.out.1 e)) (by rw [List.length_append, HKK.out.1, HFS.out.2.2]; have := HM.out; have := HKK.out.2.2.2.1; omega))
              have HS16 := Lib.hid (hs14.trans hs16)
              have HR15 := Lib.hid (And.intro hr15 hr16)
              clear hen14 ho14 hs14 hen16 hs16 HO13 hr15 hr16
              generalize (ek ++ fs).length = NN at *
              go_wp2_with (at_builtin; first
                | (refine wpList_append_given (by rfl) _ _ 22 22 rfl (.slice (some ⟨w14.heap.size, 0, none⟩) 0 0) (.slice la2 k lc2) rfl rfl v15 w15 HR15.out.1 ?_)
                | (refine wpList_append_given (by rfl) _ _ 22 22 rfl v15 (.slice sa2 m2 sc2) rfl rfl v16 w16 HR15.out.2 ?_))
              refine HSE.out.mono ?_
              rintro en w17 ⟨rfl, hs17⟩
              have F := Lib.hid (show BTrue W (.returned (.bool true)) w17 from ⟨rfl, HS16.out.trans hs17⟩)
              clear hs17 HSE
              go_wp2_with fail
              go_ret
              exact F.out
      · have d1 : decide ((i : Int) < (m : Int)) = false := decide_eq_false (by omega)
        have d2 : decide (i < m) = false := decide_eq_false (by omega)
        cases hq : D.dead with
        | true =>
          as_aux_lemma =>
            rw [hq] at HDD
            have HX := Lib.hid (HR.out.dead hq)
            clear hd ht hA hB hab hC hok hen hcl hstl hda hie him hst hq hTl
            go_wp2_with fail
            refine HDD.out.mono ?_
            rintro en w6 ⟨rfl, rfl⟩
            obtain ⟨A6, D6, hd6, hA6, hC6, hq6, hu6, hen6, hcl6, hst6⟩ := HX.out
            obtain ⟨tv6, mb6, vs6, V6, pp6, hda6⟩ := id hd6
            have HPW := Lib.hid (power_at hda6)
            have H6 := Lib.hid (And.intro hA6 (And.intro hC6 (And.intro hu6 (And.intro hen6 (And.intro hcl6 hst6)))))
            clear hd6 hA6 hC6 hq6 hu6 hen6 hcl6 hst6 hda6
            go_wp2_with fail
            refine HPW.out.mono ?_
            rintro en w7 ⟨rfl, hd7, ho7⟩
            have H7 := Lib.hid (show Still W w7 ∧ Ents w7 C5 (.slice sa m sc) es ∧ ∀ g, C5 g → g < w7.heap.size from ⟨still_of H6.out.2.2.2.2.2 ho7 H6.out.1, H6.out.2.2.2.1.only ho7 H6.out.2.1, fun g hg => Nat.lt_of_lt_of_le (H6.out.2.2.2.2.1 g hg) ho7.size⟩)
            have HRO := Lib.hid (keeps_reopen hd7 H6.out.2.2.1 (by rw [HES.out.2.2]; exact HI.out.1) HI.out.2 HES.out.1 (by rw [LoS.len HES.out.2.1 (by rw [HES.out.2.2]; exact HI.out.1)]; have := HI.out.1; have := HM.out; omega) (n := 60) rfl (N := 60) rfl)
            clear hd7 ho7 HPW
            go_wp2_with fail
            refine HRO.out.mono ?_
            rintro en w8 ⟨t2, la2, lc2, A8, B8, C8, T8, k, hk1, hk2, hT8, rfl, hd8, ht8, hen8, ho8, ha8, hb8, hc8, hab8, hac8, hbc8⟩
            have hs8 : Still W w8 := still_of H7.out.1 ho8 H6.out.1
            have hall8 := H7.out.2.1.only ho8 H6.out.2.1
            have hkm : k ≤ m := by have := HI.out.1; omega
            obtain ⟨ta, tc, hsl, htk⟩ := ents_take hall8 (by rw [HES.out.2.2]; exact HCAP.out) HES.out.2.2 hkm
            have hlk : (es.take k).length = k := by rw [List.length_take, HES.out.2.2]; omega
            have hmk : ∀ e ∈ es.take k, e.may = true := fun e he => HES.out.1 e (List.mem_of_mem_take he)
            have h5k : ∀ e ∈ es.take k, (frameB e).length = 51 := fun e he => HES.out.2.1 e (List.mem_of_mem_take he)
            have HSE := Lib.hid (same_entries (w := w8) _ _ (es.take k) hen8 htk hmk (by rw [hlk]; have := HM.out; omega))
            have g1 : decide ((k : Int) < (st : Int)) = false := decide_eq_false (by omega)
            have g2 : decide ((m : Int) < (k : Int)) = false := decide_eq_false (by omega)
            have g3 : decide (k < st) = false := decide_eq_false (by omega)
            have g4 : decide (m < k) = false := decide_eq_false (by omega)
            have HKK := Lib.hid (And.intro hlk (And.intro hmk (And.intro h5k (And.intro hkm hT8))))
            have H8 := Lib.hid (And.intro hs8 (And.intro hd8 (And.intro ht8 (And.intro hen8 (And.intro hab8 (And.intro (show (∀ g, A8 g → W.heap.size ≤ g) ∧ (∀ g, B8 g → W.heap.size ≤ g) from by
              have hz := H7.out.1.size
              exact ⟨fun g hg => (ha8 g hg).elim (H6.out.1 g) fun e => by omega, fun g hg => by have := hb8 g hg; omega⟩) (show ∀ g, C8 g → ¬ A8 g ∧ ¬ B8 g ∧ g < w8.heap.size from fun g hg => ⟨fun e => hac8 g e hg, fun e => hbc8 g e hg, (hc8 g hg).2⟩)))))))
            clear hs8 hall8 hd8 ht8 hen8 ho8 ha8 hb8 hc8 hab8 hac8 hbc8 htk hlk hmk h5k hk1 hk2 hkm hT8 HRO
            generalize es.take k = ek at *
            go_wp2_with fail
            refine HSE.out.mono ?_
            rintro en w9 ⟨rfl, hs9⟩
            have HS9 := Lib.hid hs9
            have HSM := Lib.hid (some_any w9 Q (.slice ya m2 yc) m2 M ⟨ya, yc, rfl, HL.out.2.1.1, fun h => (HL.out.2.1.2.1 h).still (H8.out.1.trans hs9)⟩ HL.out.2.1.2.2 (by have := HM.out; omega))
            clear hs9 HSE g1 g2 g3 g4 hsl
            go_wp2_with fail
            refine HSM.out.mono ?_
            rintro en w10 ⟨sv2, rfl, hen, hs10⟩
            obtain ⟨sa2, sc2, rfl⟩ := hen.form
            have hlen : (someL M).length = m2 := by rw [someL_length]; exact HL.out.2.1.1
            rw [hlen] at hen ⊢
            have hz9 := HS9.out.size
            have hz10 := hs10.size
            have hREL : LoS W A8 d t2 0 60 (layB T8 0 (streamB ek) 60) (fun g => C8 g ∨ (w9.heap.size ≤ g ∧ g < w10.heap.size)) (.slice sa2 m2 sc2) (someL M) (.slice la2 k lc2) ek ek k 0 w10 :=
              ⟨⟨B8, by rw [List.take_zero, List.append_nil]; exact (H8.out.2.2.1.still HS9.out).still hs10, H8.out.2.2.2.2.2.1.2, H8.out.2.2.2.2.1, fun g hg e => hg.elim (fun hg => (H8.out.2.2.2.2.2.2 g hg).2.1 e) fun hg => by have := H8.out.2.2.1.lt g e; omega⟩, (H8.out.2.1.still HS9.out).still hs10, hen.low.mono fun g hg => .inr hg, ((H8.out.2.2.2.1.still HS9.out).still hs10).mono fun g hg => .inl hg, fun g hg => hg.elim (fun hg => by have := (H8.out.2.2.2.2.2.2 g hg).2.2; omega) fun hg => hg.2, (H8.out.1.trans HS9.out).trans hs10⟩
            have HFS := Lib.hid (And.intro (someL_may (L := M) (by have := HL.out.2.1.1; have := HM.out; omega)) (And.intro (someL_51 M) hlen))
            generalize someL M = fs at *
            obtain ⟨C10, hC10⟩ : ∃ C, C = (fun g => C8 g ∨ (w9.heap.size ≤ g ∧ g < w10.heap.size)) := ⟨_, rfl⟩
            rw [← hC10] at hREL
            have HC10 := Lib.hid (show ∀ g, C10 g → ¬ A8 g from by
              rw [hC10]
              exact fun g hg e => hg.elim (fun hg => (H8.out.2.2.2.2.2.2 g hg).1 e) fun hg => by have := H8.out.2.1.lt g e; omega)
            have HREL := Lib.hid hREL
            clear hREL hen hs10 HSM hlen hC10 hz9 hz10
            go_wp2_with fail
            go_loopw [24] (fun s wr => ∃ i : Nat, s = .int .i64 i ∧ i ≤ m2 ∧ LoS W A8 d t2 0 60 (layB T8 0 (streamB ek) 60) C10 (.slice sa2 m2 sc2) fs (.slice la2 k lc2) ek ek k i wr) (fun s _ => m2 - (intOf s).toNat)
            case atStart => exact ⟨0, rfl, Nat.zero_le _, HREL.out⟩
            case round =>
              clear HREL
              obtain ⟨i, rfl, him, ⟨⟨B, ht, hB, hab, hcb⟩, hd, hen, hke, hcl, hst⟩⟩ := hrel
              have HH := Lib.hid (And.intro ht (And.intro hB (And.intro hab (And.intro hcb (And.intro hd (And.intro hen (And.intro hke (And.intro hcl hst))))))))
              have u1 : IntKind.i64.wrap ((i : Int) + 1) = (i : Int) + 1 := IntWalk.i64_in _ (by have := HM.out; omega)
              have u2 : IntKind.i64.wrap ((k : Int) + (i : Int)) = (k : Int) + (i : Int) := IntWalk.i64_in _ (by have := HM.out; have := HKK.out.2.2.2.1; omega)
              have u3 : IntKind.i64.wrap ((k : Int) + (i : Int) + 1) = (k : Int) + (i : Int) + 1 := IntWalk.i64_in _ (by have := HM.out; have := HKK.out.2.2.2.1; omega)
              by_cases hi : i < m2
              · have d1 : decide ((i : Int) < (m2 : Int)) = true := decide_eq_true (by omega)
                have d2 : decide (i < m2) = true := decide_eq_true hi
                have l0 : (0 : Int) ≤ (i : Int) := by omega
                have l1 : (i : Int) < (m2 : Int) := by omega
                obtain ⟨e, he⟩ : ∃ e, fs[i]? = some e := ⟨_, List.getElem?_eq_getElem (by rw [HFS.out.2.2]; exact hi)⟩
                obtain ⟨g, o, oa, oc, na, nc, ma, mc, ka', kc', da, dc, va, vc, hsa, -, hei, hcs⟩ := hen.at he
                subst hsa
                have hmem := List.mem_of_getElem? he
                have hlen : (ek ++ fs.take i).length = k + i := by rw [List.length_append, List.length_take, HFS.out.2.2, HKK.out.1]; omega
                have h51 : (streamB (ek ++ fs.take i)).length = 51 * (k + i) := by rw [streamB_append, List.length_append, LoS.len HFS.out.2.1 (by rw [HFS.out.2.2]; exact him), stream_51 HKK.out.2.2.1, HKK.out.1]; omega
                have HAP := Lib.hid (ap_ok ht hei (HFS.out.1 e hmem) (by rw [h51, HFS.out.2.1 e hmem]; have := HM.out; have := HKK.out.2.2.2.1; omega) (N := (k : Int) + (i : Int) + 1) (by rw [hlen]; omega))
                have HE := Lib.hid (And.intro he hi)
                have c0 : wr.cell? ⟨g, o + i * 16, none⟩ = some (.int .i64 e.kind) := hcs 0 _ (by decide) rfl
                have c1 : wr.cell? ⟨g, o + i * 16 + 1, none⟩ = some (.int .i64 e.txn) := by rw [Nat.add_assoc]; exact hcs 1 _ (by decide) rfl
                have c2 : wr.cell? ⟨g, o + i * 16 + 2, none⟩ = some (.int .i64 e.unit) := by rw [Nat.add_assoc]; exact hcs 2 _ (by decide) rfl
                have c3 : wr.cell? ⟨g, o + i * 16 + 3, none⟩ = some (.int .i64 e.half) := by rw [Nat.add_assoc]; exact hcs 3 _ (by decide) rfl
                have c4 : wr.cell? ⟨g, o + i * 16 + 4, none⟩ = some (.int .i64 e.prev) := by rw [Nat.add_assoc]; exact hcs 4 _ (by decide) rfl
                have c5 : wr.cell? ⟨g, o + i * 16 + 5, none⟩ = some (.int .i64 e.next) := by rw [Nat.add_assoc]; exact hcs 5 _ (by decide) rfl
                have c6 : wr.cell? ⟨g, o + i * 16 + 6, none⟩ = some (.int .i64 e.ap) := by rw [Nat.add_assoc]; exact hcs 6 _ (by decide) rfl
                have c7 : wr.cell? ⟨g, o + i * 16 + 7, none⟩ = some (.int .i64 e.ac) := by rw [Nat.add_assoc]; exact hcs 7 _ (by decide) rfl
                have c8 : wr.cell? ⟨g, o + i * 16 + 8, none⟩ = some (.int .i64 e.tp) := by rw [Nat.add_assoc]; exact hcs 8 _ (by decide) rfl
                have c9 : wr.cell? ⟨g, o + i * 16 + 9, none⟩ = some (.int .i64 e.tc) := by rw [Nat.add_assoc]; exact hcs 9 _ (by decide) rfl
                have c10 : wr.cell? ⟨g, o + i * 16 + 10, none⟩ = some (.slice oa e.old.length oc) := by rw [Nat.add_assoc]; exact hcs 10 _ (by decide) rfl
                have c11 : wr.cell? ⟨g, o + i * 16 + 11, none⟩ = some (.slice na e.new.length nc) := by rw [Nat.add_assoc]; exact hcs 11 _ (by decide) rfl
                have c12 : wr.cell? ⟨g, o + i * 16 + 12, none⟩ = some (.slice ma e.moves.length mc) := by rw [Nat.add_assoc]; exact hcs 12 _ (by decide) rfl
                have c13 : wr.cell? ⟨g, o + i * 16 + 13, none⟩ = some (.slice ka' e.lives.length kc') := by rw [Nat.add_assoc]; exact hcs 13 _ (by decide) rfl
                have c14 : wr.cell? ⟨g, o + i * 16 + 14, none⟩ = some (.slice da e.dirty.length dc) := by rw [Nat.add_assoc]; exact hcs 14 _ (by decide) rfl
                have c15 : wr.cell? ⟨g, o + i * 16 + 15, none⟩ = some (.slice va e.opens.length vc) := by rw [Nat.add_assoc]; exact hcs 15 _ (by decide) rfl
                unfold eV at HAP
                clear ht hB hab hcb hd hen hke hcl hst hei hcs hmem hlen h51 he him hi
                go_wp2_with fail
                refine HAP.out.mono ?_
                rintro en wx ⟨rfl, htx, hox⟩
                have HNX := Lib.hid (show LoS W A8 d t2 0 60 (layB T8 0 (streamB ek) 60) C10 (.slice (some ⟨g, o, none⟩) m2 sc2) fs (.slice la2 k lc2) ek ek k (i + 1) wx from LoS.next HH.out.2.2.2.2.1 HH.out.2.2.2.2.2.1 HH.out.2.2.2.2.2.2.1 HH.out.2.2.2.2.2.2.2.1 HH.out.2.2.2.2.2.2.2.2 HH.out.2.1 HH.out.2.2.1 HH.out.2.2.2.1 HE.out.1 htx hox)
                have hi := HE.out.2
                clear htx hox HAP
                go_wp2_with fail
                go_roundw
                case rel => exact ⟨i + 1, by go_num, by omega, HNX.out⟩
                case measure => simp [intOf]; omega
              · have d1 : decide ((i : Int) < (m2 : Int)) = false := decide_eq_false (by omega)
                have d2 : decide (i < m2) = false := decide_eq_false hi
                have hte : fs.take i = fs := List.take_of_length_le (by rw [HFS.out.2.2]; omega)
                rw [hte] at ht
                have hfo := force_any ht hd hab (by rw [layB_length', HKK.out.2.2.2.2]; decide)
                rw [keeps_more HKK.out.1 HKK.out.2.2.2.2] at hfo
                have HFO := Lib.hid hfo
                have HBX := Lib.hid (And.intro hB (And.intro hab (And.intro hcb (And.intro hen (And.intro hke (And.intro hst (And.intro hcl hd.lt)))))))
                clear ht hB hab hcb hd hen hke hcl hst him hfo hi hte
                go_wp2_with fail
                refine HFO.out.mono ?_
                rintro en w13 ⟨rfl, -, hd13, ho13⟩
                have H13 := Lib.hid (show Still W w13 ∧ Ents w13 C10 (.slice sa2 m2 sc2) fs ∧ Ents w13 C10 (.slice la2 k lc2) ek ∧ (∀ g, C10 g → ¬ Newer A8 wr w13 g) ∧ ∀ g, Newer A8 wr w13 g → W.heap.size ≤ g from by
                  obtain ⟨hB, hab, hcb, hen, hke, hst, hcl, hdl⟩ := HBX.out
                  have hz := hst.size
                  have hz5 := ho13.size
                  have hcx : ∀ g, C10 g → ¬ (A8 g ∨ B g) := fun g hg e => e.elim (HC10.out g hg) (hcb g hg)
                  exact ⟨still_of hst ho13 fun g hg => hg.elim (H8.out.2.2.2.2.2.1.1 g) (hB g), hen.only ho13 hcx, hke.only ho13 hcx, fun g hg e => e.elim (HC10.out g hg) fun e => by have := hcl g hg; omega, fun g hg => hg.elim (H8.out.2.2.2.2.2.1.1 g) fun e => by omega⟩)
                have HO13 := Lib.hid (open_laid (at_ := 0) (n := 60) (a := 0) (k := 60) hd13 (by rw [layB_length', HKK.out.2.2.2.2]; decide) (by decide) (fun e he => (List.mem_append.1 he).elim (HKK.out.2.1 e) (HFS.out.1 e)) (by rw [streamB_append, List.length_append, stream_51 HKK.out.2.2.1, stream_51 HFS.out.2.1, HKK.out.1, HFS.out.2.2]; have := HM.out; have := HKK.out.2.2.2.1; omega) rfl rfl)
                clear hd13 ho13 HFO HBX
                generalize Newer A8 wr w13 = A13 at *
                go_wp2_with fail
                refine HO13.out.mono ?_
                rintro en w14 ⟨t3, la3, lc3, A14, B14, C14, rfl, -, -, hen14, ho14, -⟩
                have hs14 := still_of H13.out.1 ho14 H13.out.2.2.2.2
                obtain ⟨v15, w15, v16, w16, hr15, hr16, hen16, hs16⟩ := both_rows w14 la2 sa2 lc2 sc2 k m2 ek fs (H13.out.2.2.1.only ho14 H13.out.2.2.2.1) (H13.out.2.1.only ho14 H13.out.2.2.2.1) HKK.out.1 HFS.out.2.2 (by have := HM.out; have := HKK.out.2.2.2.1; omega) (by have := HM.out; omega)
                have HSE := Lib.hid (same_entries (w := w16) _ v16 (ek ++ fs) (hen14.still hs16) hen16 (fun e he => (List.mem_append.1 he).elim (HKK.out.2.1 e) (HFS.out.1 e)) (by rw [List.length_append, HKK.out.1, HFS.out.2.2]; have := HM.out; have := HKK.out.2.2.2.1; omega))
                have HS16 := Lib.hid (hs14.trans hs16)
                have HR15 := Lib.hid (And.intro hr15 hr16)
                clear hen14 ho14 hs14 hen16 hs16 HO13 hr15 hr16
                generalize (ek ++ fs).length = NN at *
                go_wp2_with (at_builtin; first
                  | (refine wpList_append_given (by rfl) _ _ 22 22 rfl (.slice (some ⟨w14.heap.size, 0, none⟩) 0 0) (.slice la2 k lc2) rfl rfl v15 w15 HR15.out.1 ?_)
                  | (refine wpList_append_given (by rfl) _ _ 22 22 rfl v15 (.slice sa2 m2 sc2) rfl rfl v16 w16 HR15.out.2 ?_))
                refine HSE.out.mono ?_
                rintro en w17 ⟨rfl, hs17⟩
                have F := Lib.hid (show BTrue W (.returned (.bool true)) w17 from ⟨rfl, HS16.out.trans hs17⟩)
                clear hs17 HSE
                go_wp2_with fail
                go_ret
                exact F.out
        | false =>
          as_aux_lemma =>
            rw [hq] at HDD
            have hCR := crash_at hda hTl ka kc mask (fun h => (HL.out.2.2.1.2.1 h).still hstl) (fun g hg e => by
              have e1 := HL.out.2.2.2.2 g hg
              have e2 := hA g (hda.mu g (.inr (.inr (.inl e))))
              omega) HL.out.2.2.1.1 HL.out.2.2.1.2.2.1
            have HCR := Lib.hid hCR
            have HXF := Lib.hid (fun w' (h1 : DgX A d (D.crash mask) w') (h2 : Only (fun b => b = d ∨ b = mb ∨ tv.ownBlock = some b) wr w') => show KxPost W d C5 (.slice sa m sc) es i st w' from HR.out.crashed hA (fun g hg => (hC g hg).1) h1 h2 fun g hg => hda.mu g (hg.elim .inl fun e => .inr (e.elim .inl fun e => .inr (.inl e))))
            clear hd ht hA hB hab hC hok hen hcl hstl hda hie him hst hq hTl hCR
            go_wp2_with fail
            refine HDD.out.mono ?_
            rintro en w6 ⟨rfl, rfl⟩
            go_wp2_with fail
            refine HCR.out.mono ?_
            rintro en w6 ⟨rfl, ⟨vs6, hp6⟩, ho6⟩
            have HX := Lib.hid (HXF.out w6 ⟨_, _, _, _, _, hp6⟩ ho6)
            clear hp6 ho6 HCR HXF
            obtain ⟨A6, D6, hd6, hA6, hC6, hq6, hu6, hen6, hcl6, hst6⟩ := HX.out
            obtain ⟨tv6, mb6, vs6, V6, pp6, hda6⟩ := id hd6
            have HPW := Lib.hid (power_at hda6)
            have H6 := Lib.hid (And.intro hA6 (And.intro hC6 (And.intro hu6 (And.intro hen6 (And.intro hcl6 hst6)))))
            clear hd6 hA6 hC6 hq6 hu6 hen6 hcl6 hst6 hda6
            go_wp2_with fail
            refine HPW.out.mono ?_
            rintro en w7 ⟨rfl, hd7, ho7⟩
            have H7 := Lib.hid (show Still W w7 ∧ Ents w7 C5 (.slice sa m sc) es ∧ ∀ g, C5 g → g < w7.heap.size from ⟨still_of H6.out.2.2.2.2.2 ho7 H6.out.1, H6.out.2.2.2.1.only ho7 H6.out.2.1, fun g hg => Nat.lt_of_lt_of_le (H6.out.2.2.2.2.1 g hg) ho7.size⟩)
            have HRO := Lib.hid (keeps_reopen hd7 H6.out.2.2.1 (by rw [HES.out.2.2]; exact HI.out.1) HI.out.2 HES.out.1 (by rw [LoS.len HES.out.2.1 (by rw [HES.out.2.2]; exact HI.out.1)]; have := HI.out.1; have := HM.out; omega) (n := 60) rfl (N := 60) rfl)
            clear hd7 ho7 HPW
            go_wp2_with fail
            refine HRO.out.mono ?_
            rintro en w8 ⟨t2, la2, lc2, A8, B8, C8, T8, k, hk1, hk2, hT8, rfl, hd8, ht8, hen8, ho8, ha8, hb8, hc8, hab8, hac8, hbc8⟩
            have hs8 : Still W w8 := still_of H7.out.1 ho8 H6.out.1
            have hall8 := H7.out.2.1.only ho8 H6.out.2.1
            have hkm : k ≤ m := by have := HI.out.1; omega
            obtain ⟨ta, tc, hsl, htk⟩ := ents_take hall8 (by rw [HES.out.2.2]; exact HCAP.out) HES.out.2.2 hkm
            have hlk : (es.take k).length = k := by rw [List.length_take, HES.out.2.2]; omega
            have hmk : ∀ e ∈ es.take k, e.may = true := fun e he => HES.out.1 e (List.mem_of_mem_take he)
            have h5k : ∀ e ∈ es.take k, (frameB e).length = 51 := fun e he => HES.out.2.1 e (List.mem_of_mem_take he)
            have HSE := Lib.hid (same_entries (w := w8) _ _ (es.take k) hen8 htk hmk (by rw [hlk]; have := HM.out; omega))
            have g1 : decide ((k : Int) < (st : Int)) = false := decide_eq_false (by omega)
            have g2 : decide ((m : Int) < (k : Int)) = false := decide_eq_false (by omega)
            have g3 : decide (k < st) = false := decide_eq_false (by omega)
            have g4 : decide (m < k) = false := decide_eq_false (by omega)
            have HKK := Lib.hid (And.intro hlk (And.intro hmk (And.intro h5k (And.intro hkm hT8))))
            have H8 := Lib.hid (And.intro hs8 (And.intro hd8 (And.intro ht8 (And.intro hen8 (And.intro hab8 (And.intro (show (∀ g, A8 g → W.heap.size ≤ g) ∧ (∀ g, B8 g → W.heap.size ≤ g) from by
              have hz := H7.out.1.size
              exact ⟨fun g hg => (ha8 g hg).elim (H6.out.1 g) fun e => by omega, fun g hg => by have := hb8 g hg; omega⟩) (show ∀ g, C8 g → ¬ A8 g ∧ ¬ B8 g ∧ g < w8.heap.size from fun g hg => ⟨fun e => hac8 g e hg, fun e => hbc8 g e hg, (hc8 g hg).2⟩)))))))
            clear hs8 hall8 hd8 ht8 hen8 ho8 ha8 hb8 hc8 hab8 hac8 hbc8 htk hlk hmk h5k hk1 hk2 hkm hT8 HRO
            generalize es.take k = ek at *
            go_wp2_with fail
            refine HSE.out.mono ?_
            rintro en w9 ⟨rfl, hs9⟩
            have HS9 := Lib.hid hs9
            have HSM := Lib.hid (some_any w9 Q (.slice ya m2 yc) m2 M ⟨ya, yc, rfl, HL.out.2.1.1, fun h => (HL.out.2.1.2.1 h).still (H8.out.1.trans hs9)⟩ HL.out.2.1.2.2 (by have := HM.out; omega))
            clear hs9 HSE g1 g2 g3 g4 hsl
            go_wp2_with fail
            refine HSM.out.mono ?_
            rintro en w10 ⟨sv2, rfl, hen, hs10⟩
            obtain ⟨sa2, sc2, rfl⟩ := hen.form
            have hlen : (someL M).length = m2 := by rw [someL_length]; exact HL.out.2.1.1
            rw [hlen] at hen ⊢
            have hz9 := HS9.out.size
            have hz10 := hs10.size
            have hREL : LoS W A8 d t2 0 60 (layB T8 0 (streamB ek) 60) (fun g => C8 g ∨ (w9.heap.size ≤ g ∧ g < w10.heap.size)) (.slice sa2 m2 sc2) (someL M) (.slice la2 k lc2) ek ek k 0 w10 :=
              ⟨⟨B8, by rw [List.take_zero, List.append_nil]; exact (H8.out.2.2.1.still HS9.out).still hs10, H8.out.2.2.2.2.2.1.2, H8.out.2.2.2.2.1, fun g hg e => hg.elim (fun hg => (H8.out.2.2.2.2.2.2 g hg).2.1 e) fun hg => by have := H8.out.2.2.1.lt g e; omega⟩, (H8.out.2.1.still HS9.out).still hs10, hen.low.mono fun g hg => .inr hg, ((H8.out.2.2.2.1.still HS9.out).still hs10).mono fun g hg => .inl hg, fun g hg => hg.elim (fun hg => by have := (H8.out.2.2.2.2.2.2 g hg).2.2; omega) fun hg => hg.2, (H8.out.1.trans HS9.out).trans hs10⟩
            have HFS := Lib.hid (And.intro (someL_may (L := M) (by have := HL.out.2.1.1; have := HM.out; omega)) (And.intro (someL_51 M) hlen))
            generalize someL M = fs at *
            obtain ⟨C10, hC10⟩ : ∃ C, C = (fun g => C8 g ∨ (w9.heap.size ≤ g ∧ g < w10.heap.size)) := ⟨_, rfl⟩
            rw [← hC10] at hREL
            have HC10 := Lib.hid (show ∀ g, C10 g → ¬ A8 g from by
              rw [hC10]
              exact fun g hg e => hg.elim (fun hg => (H8.out.2.2.2.2.2.2 g hg).1 e) fun hg => by have := H8.out.2.1.lt g e; omega)
            have HREL := Lib.hid hREL
            clear hREL hen hs10 HSM hlen hC10 hz9 hz10
            go_wp2_with fail
            go_loopw [24] (fun s wr => ∃ i : Nat, s = .int .i64 i ∧ i ≤ m2 ∧ LoS W A8 d t2 0 60 (layB T8 0 (streamB ek) 60) C10 (.slice sa2 m2 sc2) fs (.slice la2 k lc2) ek ek k i wr) (fun s _ => m2 - (intOf s).toNat)
            case atStart => exact ⟨0, rfl, Nat.zero_le _, HREL.out⟩
            case round =>
              clear HREL
              obtain ⟨i, rfl, him, ⟨⟨B, ht, hB, hab, hcb⟩, hd, hen, hke, hcl, hst⟩⟩ := hrel
              have HH := Lib.hid (And.intro ht (And.intro hB (And.intro hab (And.intro hcb (And.intro hd (And.intro hen (And.intro hke (And.intro hcl hst))))))))
              have u1 : IntKind.i64.wrap ((i : Int) + 1) = (i : Int) + 1 := IntWalk.i64_in _ (by have := HM.out; omega)
              have u2 : IntKind.i64.wrap ((k : Int) + (i : Int)) = (k : Int) + (i : Int) := IntWalk.i64_in _ (by have := HM.out; have := HKK.out.2.2.2.1; omega)
              have u3 : IntKind.i64.wrap ((k : Int) + (i : Int) + 1) = (k : Int) + (i : Int) + 1 := IntWalk.i64_in _ (by have := HM.out; have := HKK.out.2.2.2.1; omega)
              by_cases hi : i < m2
              · have d1 : decide ((i : Int) < (m2 : Int)) = true := decide_eq_true (by omega)
                have d2 : decide (i < m2) = true := decide_eq_true hi
                have l0 : (0 : Int) ≤ (i : Int) := by omega
                have l1 : (i : Int) < (m2 : Int) := by omega
                obtain ⟨e, he⟩ : ∃ e, fs[i]? = some e := ⟨_, List.getElem?_eq_getElem (by rw [HFS.out.2.2]; exact hi)⟩
                obtain ⟨g, o, oa, oc, na, nc, ma, mc, ka', kc', da, dc, va, vc, hsa, -, hei, hcs⟩ := hen.at he
                subst hsa
                have hmem := List.mem_of_getElem? he
                have hlen : (ek ++ fs.take i).length = k + i := by rw [List.length_append, List.length_take, HFS.out.2.2, HKK.out.1]; omega
                have h51 : (streamB (ek ++ fs.take i)).length = 51 * (k + i) := by rw [streamB_append, List.length_append, LoS.len HFS.out.2.1 (by rw [HFS.out.2.2]; exact him), stream_51 HKK.out.2.2.1, HKK.out.1]; omega
                have HAP := Lib.hid (ap_ok ht hei (HFS.out.1 e hmem) (by rw [h51, HFS.out.2.1 e hmem]; have := HM.out; have := HKK.out.2.2.2.1; omega) (N := (k : Int) + (i : Int) + 1) (by rw [hlen]; omega))
                have HE := Lib.hid (And.intro he hi)
                have c0 : wr.cell? ⟨g, o + i * 16, none⟩ = some (.int .i64 e.kind) := hcs 0 _ (by decide) rfl
                have c1 : wr.cell? ⟨g, o + i * 16 + 1, none⟩ = some (.int .i64 e.txn) := by rw [Nat.add_assoc]; exact hcs 1 _ (by decide) rfl
                have c2 : wr.cell? ⟨g, o + i * 16 + 2, none⟩ = some (.int .i64 e.unit) := by rw [Nat.add_assoc]; exact hcs 2 _ (by decide) rfl
                have c3 : wr.cell? ⟨g, o + i * 16 + 3, none⟩ = some (.int .i64 e.half) := by rw [Nat.add_assoc]; exact hcs 3 _ (by decide) rfl
                have c4 : wr.cell? ⟨g, o + i * 16 + 4, none⟩ = some (.int .i64 e.prev) := by rw [Nat.add_assoc]; exact hcs 4 _ (by decide) rfl
                have c5 : wr.cell? ⟨g, o + i * 16 + 5, none⟩ = some (.int .i64 e.next) := by rw [Nat.add_assoc]; exact hcs 5 _ (by decide) rfl
                have c6 : wr.cell? ⟨g, o + i * 16 + 6, none⟩ = some (.int .i64 e.ap) := by rw [Nat.add_assoc]; exact hcs 6 _ (by decide) rfl
                have c7 : wr.cell? ⟨g, o + i * 16 + 7, none⟩ = some (.int .i64 e.ac) := by rw [Nat.add_assoc]; exact hcs 7 _ (by decide) rfl
                have c8 : wr.cell? ⟨g, o + i * 16 + 8, none⟩ = some (.int .i64 e.tp) := by rw [Nat.add_assoc]; exact hcs 8 _ (by decide) rfl
                have c9 : wr.cell? ⟨g, o + i * 16 + 9, none⟩ = some (.int .i64 e.tc) := by rw [Nat.add_assoc]; exact hcs 9 _ (by decide) rfl
                have c10 : wr.cell? ⟨g, o + i * 16 + 10, none⟩ = some (.slice oa e.old.length oc) := by rw [Nat.add_assoc]; exact hcs 10 _ (by decide) rfl
                have c11 : wr.cell? ⟨g, o + i * 16 + 11, none⟩ = some (.slice na e.new.length nc) := by rw [Nat.add_assoc]; exact hcs 11 _ (by decide) rfl
                have c12 : wr.cell? ⟨g, o + i * 16 + 12, none⟩ = some (.slice ma e.moves.length mc) := by rw [Nat.add_assoc]; exact hcs 12 _ (by decide) rfl
                have c13 : wr.cell? ⟨g, o + i * 16 + 13, none⟩ = some (.slice ka' e.lives.length kc') := by rw [Nat.add_assoc]; exact hcs 13 _ (by decide) rfl
                have c14 : wr.cell? ⟨g, o + i * 16 + 14, none⟩ = some (.slice da e.dirty.length dc) := by rw [Nat.add_assoc]; exact hcs 14 _ (by decide) rfl
                have c15 : wr.cell? ⟨g, o + i * 16 + 15, none⟩ = some (.slice va e.opens.length vc) := by rw [Nat.add_assoc]; exact hcs 15 _ (by decide) rfl
                unfold eV at HAP
                clear ht hB hab hcb hd hen hke hcl hst hei hcs hmem hlen h51 he him hi
                go_wp2_with fail
                refine HAP.out.mono ?_
                rintro en wx ⟨rfl, htx, hox⟩
                have HNX := Lib.hid (show LoS W A8 d t2 0 60 (layB T8 0 (streamB ek) 60) C10 (.slice (some ⟨g, o, none⟩) m2 sc2) fs (.slice la2 k lc2) ek ek k (i + 1) wx from LoS.next HH.out.2.2.2.2.1 HH.out.2.2.2.2.2.1 HH.out.2.2.2.2.2.2.1 HH.out.2.2.2.2.2.2.2.1 HH.out.2.2.2.2.2.2.2.2 HH.out.2.1 HH.out.2.2.1 HH.out.2.2.2.1 HE.out.1 htx hox)
                have hi := HE.out.2
                clear htx hox HAP
                go_wp2_with fail
                go_roundw
                case rel => exact ⟨i + 1, by go_num, by omega, HNX.out⟩
                case measure => simp [intOf]; omega
              · have d1 : decide ((i : Int) < (m2 : Int)) = false := decide_eq_false (by omega)
                have d2 : decide (i < m2) = false := decide_eq_false hi
                have hte : fs.take i = fs := List.take_of_length_le (by rw [HFS.out.2.2]; omega)
                rw [hte] at ht
                have hfo := force_any ht hd hab (by rw [layB_length', HKK.out.2.2.2.2]; decide)
                rw [keeps_more HKK.out.1 HKK.out.2.2.2.2] at hfo
                have HFO := Lib.hid hfo
                have HBX := Lib.hid (And.intro hB (And.intro hab (And.intro hcb (And.intro hen (And.intro hke (And.intro hst (And.intro hcl hd.lt)))))))
                clear ht hB hab hcb hd hen hke hcl hst him hfo hi hte
                go_wp2_with fail
                refine HFO.out.mono ?_
                rintro en w13 ⟨rfl, -, hd13, ho13⟩
                have H13 := Lib.hid (show Still W w13 ∧ Ents w13 C10 (.slice sa2 m2 sc2) fs ∧ Ents w13 C10 (.slice la2 k lc2) ek ∧ (∀ g, C10 g → ¬ Newer A8 wr w13 g) ∧ ∀ g, Newer A8 wr w13 g → W.heap.size ≤ g from by
                  obtain ⟨hB, hab, hcb, hen, hke, hst, hcl, hdl⟩ := HBX.out
                  have hz := hst.size
                  have hz5 := ho13.size
                  have hcx : ∀ g, C10 g → ¬ (A8 g ∨ B g) := fun g hg e => e.elim (HC10.out g hg) (hcb g hg)
                  exact ⟨still_of hst ho13 fun g hg => hg.elim (H8.out.2.2.2.2.2.1.1 g) (hB g), hen.only ho13 hcx, hke.only ho13 hcx, fun g hg e => e.elim (HC10.out g hg) fun e => by have := hcl g hg; omega, fun g hg => hg.elim (H8.out.2.2.2.2.2.1.1 g) fun e => by omega⟩)
                have HO13 := Lib.hid (open_laid (at_ := 0) (n := 60) (a := 0) (k := 60) hd13 (by rw [layB_length', HKK.out.2.2.2.2]; decide) (by decide) (fun e he => (List.mem_append.1 he).elim (HKK.out.2.1 e) (HFS.out.1 e)) (by rw [streamB_append, List.length_append, stream_51 HKK.out.2.2.1, stream_51 HFS.out.2.1, HKK.out.1, HFS.out.2.2]; have := HM.out; have := HKK.out.2.2.2.1; omega) rfl rfl)
                clear hd13 ho13 HFO HBX
                generalize Newer A8 wr w13 = A13 at *
                go_wp2_with fail
                refine HO13.out.mono ?_
                rintro en w14 ⟨t3, la3, lc3, A14, B14, C14, rfl, -, -, hen14, ho14, -⟩
                have hs14 := still_of H13.out.1 ho14 H13.out.2.2.2.2
                obtain ⟨v15, w15, v16, w16, hr15, hr16, hen16, hs16⟩ := both_rows w14 la2 sa2 lc2 sc2 k m2 ek fs (H13.out.2.2.1.only ho14 H13.out.2.2.2.1) (H13.out.2.1.only ho14 H13.out.2.2.2.1) HKK.out.1 HFS.out.2.2 (by have := HM.out; have := HKK.out.2.2.2.1; omega) (by have := HM.out; omega)
                have HSE := Lib.hid (same_entries (w := w16) _ v16 (ek ++ fs) (hen14.still hs16) hen16 (fun e he => (List.mem_append.1 he).elim (HKK.out.2.1 e) (HFS.out.1 e)) (by rw [List.length_append, HKK.out.1, HFS.out.2.2]; have := HM.out; have := HKK.out.2.2.2.1; omega))
                have HS16 := Lib.hid (hs14.trans hs16)
                have HR15 := Lib.hid (And.intro hr15 hr16)
                clear hen14 ho14 hs14 hen16 hs16 HO13 hr15 hr16
                generalize (ek ++ fs).length = NN at *
                go_wp2_with (at_builtin; first
                  | (refine wpList_append_given (by rfl) _ _ 22 22 rfl (.slice (some ⟨w14.heap.size, 0, none⟩) 0 0) (.slice la2 k lc2) rfl rfl v15 w15 HR15.out.1 ?_)
                  | (refine wpList_append_given (by rfl) _ _ 22 22 rfl v15 (.slice sa2 m2 sc2) rfl rfl v16 w16 HR15.out.2 ?_))
                refine HSE.out.mono ?_
                rintro en w17 ⟨rfl, hs17⟩
                have F := Lib.hid (show BTrue W (.returned (.bool true)) w17 from ⟨rfl, HS16.out.trans hs17⟩)
                clear hs17 HSE
                go_wp2_with fail
                go_ret
                exact F.out
end Go.Proofs.YtojkggppcmdepaaGreat

namespace Go.Proofs.YtojkggppcmdepaaGreat
open Go.RowKit Go.Wh Go.ChangeShapes Go.WideShapes Go.ChangeAt

theorem keepsOwn : ownKnob Tryz.prog.godebug = none := by kernel_rfl
theorem keepsLaid : laidOutB Tryz.prog = true := by kernel_rfl

set_option maxRecDepth 100000 in
theorem trailKeeps_lifted (os : Os) (started : os.Started) (H : Type) (enc : TypeId × Value → H) :
    ReturnsInHanded {} Tryz.checked os 5 .any (Rows.trailKeepsSpec.pre6 enc Tryz.prog Tryz.f5 Rows.trailKeepsRow.domain false) (Rows.trailKeepsSpec.post enc Tryz.prog Tryz.f5 false true false false) := by
  refine returnsInHanded_of_change (C := Tryz.checked) keepsOwn started (by kernel_rfl) Tryz.func5
    (ChangeSpec.witness6 (enc := enc) (C := Tryz.checked) false ⟨#[], #[.slice none 0 0, .int .u32 0, .int .u8 0, .slice none 0 0, .slice none 0 0], []⟩ 8 (by kernel_rfl) (by kernel_rfl) (by kernel_rfl) (by kernel_rfl)) ?_
  intro W base args ds gs before hval0 hW hcnd _
  have hval : ∀ (j : Nat) t v, Tryz.f5.params[j]? = some t → args[j]? = some v → Value.okWide Tryz.prog W .any base t v := hval0
  have hW' := hW
  obtain ⟨p, q, hA0, hV, rfl, hfz, hnd⟩ := hW
  have hA : DataW.TrodAll enc Tryz.prog W 0 (fun _ => true) true Tryz.f5.params.toList args.toList ds p := hA0
  rw [Tryz.params5] at hA hval
  obtain ⟨v0, v1, v2, v3, v4, d0, d1, d2, d3, d4, p0, p1, p2, p3, p4, rfl, rfl, rfl, h0, h1, h2, h3, h4⟩ := trodAll_five hA
  obtain ⟨a0, m0, c0, z0, rfl, w0, l0⟩ := open_row Tryz.underlying23 Tryz.underlying5 (by kernel_rfl) (hval 0 23 v0 rfl rfl) h0
  obtain ⟨n1, rfl, rfl, rfl, w1⟩ := open_int Tryz.underlying68 (hval 1 68 v1 rfl rfl) h1
  obtain ⟨n2, rfl, rfl, rfl, w2⟩ := open_int Tryz.underlying5 (hval 2 5 v2 rfl rfl) h2
  obtain ⟨a3, m3, c3, z3, rfl, w3, l3⟩ := open_row Tryz.underlying23 Tryz.underlying5 (by kernel_rfl) (hval 3 23 v3 rfl rfl) h3
  obtain ⟨a4, m4, c4, z4, rfl, w4, l4⟩ := open_row Tryz.underlying23 Tryz.underlying5 (by kernel_rfl) (hval 4 23 v4 rfl rfl) h4
  have R3 := row_reads Tryz.underlying23 (hval 3 23 (.slice a3 m3 c3) rfl rfl) w3 l3
  have walk : Calls Tryz.prog 5 #[.slice a0 m0 c0, .int .u32 n1, .int .u8 n2, .slice a3 m3 c3, .slice a4 m4 c4] W (BTrue W) := by
    exact keeps_walk W (fun _ => True) (fun g => True ∧ g < W.heap.size) a0 a4 a3 c0 c4 c3 m0 m4 m3 z0 z4 z3 n1 n2 ⟨l0, row_sl w0, row_byt w0⟩ ⟨l4, row_sl w4, row_byt w4⟩ ⟨l3, fun h => (row_sl w3 h).low, row_byt w3, R3.1⟩ R3.2 (fun g hg => hg.2) (byte_wf w2).1 (by have := byte_wf w2; omega) (u32_wf w1).1 (u32_wf w1).2
  refine walk.mono fun e W' ⟨he, bel⟩ => ?_
  subst he
  exact ⟨_, rfl, law_post keepsLaid (t := 4) rfl Tryz.underlying4 rfl (by intro t ht; rw [show Tryz.f5.params.toList = [23, 68, 5, 23, 23] from rfl] at ht; simp at ht; rcases ht with rfl | rfl | rfl | rfl; all_goals exact ⟨by kernel_rfl, of_decide_eq_true (by kernel_rfl)⟩) hW' rfl (Only.below bel (Nat.le_refl _) fun _ _ e => e)⟩

theorem trailKeeps_holds : Rows.TrailKeepsSaid :=
  OpenClaim.holds_of_wide 5 Tryz.f5 rfl rfl rfl rfl rfl rfl rfl ⟨rfl, rfl, rfl, rfl, rfl⟩ rfl rfl rfl rfl rfl (by kernel_rfl) Tryz.func5 (by kernel_rfl)
    (of_decide_eq_true (by kernel_rfl)) (by unfold Func.isWrapper; first | (rw [if_pos (by decide +kernel)]; kernel_rfl) | (rw [if_neg (by decide +kernel)]; exact ⟨rfl, rfl⟩))
    (fun os started H enc _ => trailKeeps_lifted os started H enc)
#print axioms trailKeeps_holds
end Go.Proofs.YtojkggppcmdepaaGreat

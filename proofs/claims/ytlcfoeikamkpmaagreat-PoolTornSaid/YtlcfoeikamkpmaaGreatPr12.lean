/- A page's tiles say the page: plain. No program. No conditions. Bytes: are they noughts alone; a cell's bytes in full. Conditions: they lie in memory. How many noughts bytes have. Conditions: they lie in memory, at least one. A text, its length ahead, noughts behind. Conditions: it is shorter than its place. The document's May and Row of a row of short texts. Conditions: a key of 1 to 7 bytes, a second of at most 5, a value of at most 7. Rows of bytes, copied, filled up. Conditions: they lie in memory. A text in a cell: its length, its bytes, noughts. Conditions: it is no longer than its place. May a row be; a row's cell. No conditions. -/
import Derived.Test.YtlcfoeikamkpmaaGreatPr11
import Derived.Shelf.Bytes.SlCountOne
import Derived.Deep.AppendSrc
import Derived.Lib.AppendZerosOnto
namespace Go.Proofs.YtlcfoeikamkpmaaGreat

theorem oneB_drop (z : Int) (b : List Int) : (oneB z b).drop 4 = b ++ List.replicate (60 - b.length) 0 := rfl
theorem leaf_body {p : PPg} (h : p.ok) : (leafA p).drop 4 ++ (leafB p).drop 4 = p.body ++ List.replicate 16 0 := by
 have hl := PPg.body_length h
 unfold leafA leafB
 rw [oneB_drop, oneB_drop, List.length_take, List.length_drop, hl]
 rw [show 60 - min 60 104 = 0 from rfl, show 60 - (104 - 60) = 16 from rfl, List.replicate_zero, List.append_nil, ← List.append_assoc, List.take_append_drop]
theorem nought_replicate (n : Nat) : nought (List.replicate n 0) = true := by
 unfold nought
 rw [List.all_eq_true]
 intro x hx
 rw [List.eq_of_mem_replicate hx]
 rfl
theorem cellAt_four {a b c d e : List Int} (ha : a.length = 26) (hb : b.length = 26) (hc : c.length = 26) (hd : d.length = 26) :
 cellAt (a ++ (b ++ (c ++ (d ++ e)))) 0 = a ∧ cellAt (a ++ (b ++ (c ++ (d ++ e)))) 1 = b ∧ cellAt (a ++ (b ++ (c ++ (d ++ e)))) 2 = c ∧ cellAt (a ++ (b ++ (c ++ (d ++ e)))) 3 = d := by
 refine ⟨?_, ?_, ?_, ?_⟩
 · unfold cellAt
   rw [List.drop_zero, List.take_append_of_le_length (by omega), List.take_of_length_le (by omega)]
 · unfold cellAt
   rw [show 1 * 26 = a.length by omega, List.drop_left, List.take_append_of_le_length (by omega), List.take_of_length_le (by omega)]
 · unfold cellAt
   rw [← List.append_assoc, show 2 * 26 = (a ++ b).length by simp; omega, List.drop_left, List.take_append_of_le_length (by omega), List.take_of_length_le (by omega)]
 · unfold cellAt
   rw [← List.append_assoc, ← List.append_assoc, show 3 * 26 = (a ++ b ++ c).length by simp; omega, List.drop_left, List.take_append_of_le_length (by omega), List.take_of_length_le (by omega)]
theorem cellT_none : cellT (fullB []) = true := by decide
theorem cellT_full {l : List Int} (h : l = [] ∨ cellT l = true) : cellT (fullB l) = true := by
 rcases h with rfl | h
 · exact cellT_none
 · unfold fullB
   split
   · exact cellT_none
   · exact h
def PPg.norm (p : PPg) : PPg := ⟨p.c.map fun l => if nought (fullB l) then [] else fullB l, p.lsn⟩
theorem takeT_leaf {p : PPg} (h : p.ok) (hl : lsnMay p.lsn = true) (hc : ∀ l ∈ p.c, l = [] ∨ cellT l = true) : takeT (leafA p) (leafB p) = (0, p.norm) := by
 unfold lsnMay at hl
 simp only [Bool.and_eq_true, decide_eq_true_eq] at hl
 have hA : numT (leafA p) = p.lsn := numT_be4 hl.1 hl.2 _
 have hB : numT (leafB p) = p.lsn := numT_be4 hl.1 hl.2 _
 have hbl := PPg.body_length h
 unfold takeT
 rw [hA, hB, if_neg (fun e => e rfl), if_neg (by omega), leaf_body h]
 have hn : nought ((p.body ++ List.replicate 16 0).drop 104) = true := by
  rw [← hbl, List.drop_left]
  exact nought_replicate 16
 rw [if_neg (by rw [hn]; decide)]
 obtain ⟨c, lsn⟩ := p
 obtain ⟨h4, he, -⟩ := h
 match c, h4, he, hc with
 | [a, b, x, y], _, he, hc =>
  have ka := fullB_length (he a (by simp))
  have kb := fullB_length (he b (by simp))
  have kx := fullB_length (he x (by simp))
  have ky := fullB_length (he y (by simp))
  have e : PPg.body ⟨[a, b, x, y], lsn⟩ ++ List.replicate 16 0 = fullB a ++ (fullB b ++ (fullB x ++ (fullB y ++ List.replicate 16 0))) := by simp [PPg.body]
  rw [e]
  generalize List.replicate 16 (0 : Int) = pad
  obtain ⟨c0, c1, c2, c3⟩ := cellAt_four (e := pad) ka kb kx ky
  have hr : List.range 4 = [0, 1, 2, 3] := rfl
  rw [if_neg (by rw [hr]; simp [c0, c1, c2, c3, cellT_full (hc a (by simp)), cellT_full (hc b (by simp)), cellT_full (hc x (by simp)), cellT_full (hc y (by simp))])]
  unfold cellsT PPg.norm
  rw [hr]
  simp [c0, c1, c2, c3]
theorem takeT_torn {p q : PPg} (h1 : lsnMay p.lsn = true) (h2 : lsnMay q.lsn = true) (hne : p.lsn ≠ q.lsn) : takeT (leafA p) (leafB q) = (3, PPg.void) := by
 unfold lsnMay at h1 h2
 simp only [Bool.and_eq_true, decide_eq_true_eq] at h1 h2
 have hA : numT (leafA p) = p.lsn := numT_be4 h1.1 h1.2 _
 have hB : numT (leafB q) = q.lsn := numT_be4 h2.1 h2.2 _
 unfold takeT
 rw [hA, hB, if_pos hne]
theorem takeT_zero : takeT (List.replicate 64 0) (List.replicate 64 0) = (0, PPg.void) := by decide
def rowC (x : Int) (s v : List Int) : List Int := 1 :: (padT [x] 8 ++ padT s 6 ++ padT v 8)
theorem rowC_cell : ∀ x ∈ List.range 26, cellT (rowC (97 + (x : Int)) [] []) = true := by decide
theorem rowC_cell2 : ∀ x ∈ List.range 20, cellT (rowC (97 + (x : Int)) [115] [118]) = true := by decide
theorem stubC_cell : ∀ x ∈ List.range 32, ∀ y ∈ List.range 4, cellT (2 :: (x : Int) :: (y : Int) :: List.replicate 23 0) = true := by decide
end Go.Proofs.YtlcfoeikamkpmaaGreat

namespace Go.Proofs.YtlcfoeikamkpmaaGreat
open Go.RowKit Go.Wh Go.Maps

theorem nz_any (w : World) (x : Int) : Calls Tryz.prog 142 #[.int .u8 x] w (SamePost w (.bool (!decide (x = 0)))) := by
 go_enter Tryz.func142, Tryz.ntmps142
 go_wp2_with fail
 go_ret
 exact ⟨rfl, rfl⟩
theorem nought_snoc {l : List Int} {i : Nat} {x : Int} (h : nought (l.take i) = true) (hx : l[i]? = some x) (h0 : x = 0) : nought (l.take (i + 1)) = true := by
 rw [List.take_add_one, hx]
 unfold nought at *
 rw [List.all_append, h]
 simp [h0]
theorem nought_not {l : List Int} {i : Nat} {x : Int} (hx : l[i]? = some x) (h0 : ¬ x = 0) : nought l = false := by
 unfold nought
 rw [List.all_eq_false]
 exact ⟨x, List.mem_of_getElem? hx, by simpa using h0⟩
def IfPost (w : World) (l : List Int) (e : Ending) (w' : World) : Prop := ∃ r : Int, e = .returned (.int .i64 r) ∧ decide (0 ≤ r) = !nought l ∧ w' = w
set_option maxHeartbeats 1000000 in
set_option maxRecDepth 100000 in
theorem indexf_any {Q : Nat → Prop} (w : World) (v : Value) (n : Nat) (l : List Int) (h : Sl w Q 1 v n (bc l)) (hn : n ≤ 100000) :
 Calls Tryz.prog 167 #[v, .func (.func 142) #[] #[]] w (IfPost w l) := by
 have hln : l.length = n := by have := h.1; rw [bc_length] at this; omega
 obtain ⟨a, c, rfl⟩ := h.form
 have HH := Lib.hid (And.intro h (And.intro hn hln))
 clear h hn hln
 go_enter Tryz.func167, Tryz.ntmps167
 go_wp2_with fail
 go_loopw [8] (fun s wr => ∃ i : Nat, s = .int .i64 i ∧ i ≤ n ∧ w = wr ∧ nought (l.take i) = true) (fun s _ => n - (intOf s).toNat)
 case atStart => exact ⟨0, rfl, Nat.zero_le _, rfl, by rw [List.take_zero]; rfl⟩
 obtain ⟨i, rfl, hin, rfl, hno⟩ := hrel
 have HNO := Lib.hid hno
 clear hno
 by_cases hi : i < n
 rotate_left
 · have d1 : decide ((i : Int) < (n : Int)) = false := decide_eq_false (by omega)
   have d2 : decide (i < n) = false := decide_eq_false hi
   have F := Lib.hid (show IfPost w l (.returned (.int .i64 (-1))) w from by
    have := HNO.out
    rw [List.take_of_length_le (by have := HH.out.2.2; omega)] at this
    exact ⟨-1, rfl, by rw [this]; rfl, rfl⟩)
   clear hi hin
   go_wp2_with fail
   go_ret
   exact F.out
 have d1 : decide ((i : Int) < (n : Int)) = true := decide_eq_true (by omega)
 have d2 : decide (i < n) = true := decide_eq_true hi
 have i0 : (0 : Int) ≤ (i : Int) := by omega
 have i1 : (i : Int) < (n : Int) := by omega
 have u9 : IntKind.i64.wrap ((i : Int) + 1) = (i : Int) + 1 := IntWalk.i64_in _ (by have := HH.out; omega)
 obtain ⟨x, hx⟩ : ∃ x, l[i]? = some x := ⟨_, List.getElem?_eq_getElem (by have := HH.out; omega)⟩
 obtain ⟨g, o, c', e, -, -, hc⟩ := HH.out.1.pos (by omega)
 cases e
 have p0 : w.cell? ⟨g, o + i, none⟩ = some (.int .u8 x) := hc i _ (by unfold bc; rw [List.getElem?_map, hx]; rfl)
 have HX := Lib.hid hx
 have HI := Lib.hid hi
 have HZ := Lib.hid (nz_any w x)
 clear hx hi hin hc
 by_cases h0 : x = 0
 · have d3 : (!decide (x = 0)) = false := by rw [decide_eq_true h0]; rfl
   rw [d3] at HZ
   have HN2 := Lib.hid (nought_snoc HNO.out HX.out h0)
   clear h0 d3
   go_wp2_with fail
   refine HZ.out.mono ?_
   rintro e w2 ⟨rfl, rfl⟩
   go_wp2_with fail
   go_roundw
   case rel => exact ⟨i + 1, by go_num, by have := HI.out; omega, (by first | trivial | rfl), HN2.out⟩
   case measure => first | (simp [intOf]; done) | (simp [intOf]; have := HI.out; omega)
 · have d3 : (!decide (x = 0)) = true := by rw [decide_eq_false h0]; rfl
   rw [d3] at HZ
   have F := Lib.hid (show IfPost w l (.returned (.int .i64 (i : Nat))) w from ⟨i, rfl, by rw [nought_not HX.out h0, decide_eq_true (by omega)]; rfl, rfl⟩)
   clear h0 d3
   go_wp2_with fail
   refine HZ.out.mono ?_
   rintro e w2 ⟨rfl, rfl⟩
   go_wp2_with fail
   go_ret
   exact F.out
set_option maxHeartbeats 1000000 in
theorem nought_any {Q : Nat → Prop} (w : World) (v : Value) (n : Nat) (l : List Int) (h : Sl w Q 1 v n (bc l)) (hn : n ≤ 100000) :
 Calls Tryz.prog 96 #[v] w (SamePost w (.bool (nought l))) := by
 have HI := Lib.hid (indexf_any w v n l h hn)
 obtain ⟨a, c, rfl⟩ := h.form
 obtain ⟨b, hb⟩ : ∃ b, nought l = b := ⟨_, rfl⟩
 have HC := Lib.hid (show Calls Tryz.prog 141 #[.slice a n c, .func (.func 142) #[] #[]] w (SamePost w (.bool (!b))) from by
  clear h hn
  go_enter Tryz.func141, Tryz.ntmps141
  go_wp2_with fail
  refine HI.out.mono ?_
  rintro e w2 ⟨r, rfl, hr, rfl⟩
  rw [hb] at hr
  have F := Lib.hid (show SamePost w2 (.bool (!b)) (.returned (.bool (!b))) w2 from ⟨rfl, rfl⟩)
  go_wp2_with fail
  go_ret
  exact F.out)
 rw [hb]
 clear h hn HI hb
 have F := Lib.hid (show SamePost w (.bool b) (.returned (.bool b)) w from ⟨rfl, rfl⟩)
 have e : (!(!b)) = b := by cases b <;> rfl
 go_enter Tryz.func96, Tryz.ntmps96
 go_wp2_with fail
 refine HC.out.mono ?_
 rintro e w2 ⟨rfl, rfl⟩
 go_wp2_with fail
 go_ret
 exact F.out
end Go.Proofs.YtlcfoeikamkpmaaGreat

namespace Go.Proofs.YtlcfoeikamkpmaaGreat
open Go.RowKit Go.Wh Go.Maps

theorem count_nought {l : List Int} (hb : Byt l) : decide (((Go.Lib.countByte (Go.Lib.bytesOf l) 0 : Nat) : Int) = (l.length : Int)) = nought l := by
 have e : ((Go.Lib.countByte (Go.Lib.bytesOf l) 0 : Nat) : Int) = (l.length : Int) ↔ nought l = true := by
  rw [Int.natCast_inj]
  unfold Go.Lib.countByte Go.Lib.bytesOf nought
  have := List.count_eq_length (a := (0 : UInt8)) (l := l.map fun n => UInt8.ofNat n.toNat)
  rw [List.length_map] at this
  rw [this, List.all_eq_true]
  constructor
  · intro h x hx
    have h1 := h _ (List.mem_map_of_mem hx)
    have h2 := congrArg UInt8.toNat h1
    rw [UInt8.toNat_ofNat'] at h2
    have := hb x hx
    have h3 : x.toNat % 2 ^ 8 = 0 := h2.symm
    have : x = 0 := by omega
    simp [this]
  · intro h x hx
    obtain ⟨y, hy, rfl⟩ := List.mem_map.1 hx
    have : y = 0 := by simpa using h y hy
    rw [this]
    rfl
 by_cases h : nought l = true
 · rw [h, decide_eq_true (e.2 h)]
 · rw [decide_eq_false (fun k => h (e.1 k))]
   simpa using h
set_option maxHeartbeats 1000000 in
set_option maxRecDepth 100000 in
theorem count0_any {Q : Nat → Prop} (w : World) (v : Value) (n : Nat) (l : List Int) (h : Sl w Q 1 v n (bc l)) (hn : 0 < n) (b : Nat) (hb : cellsAt w b [.int .u8 0]) :
 Calls Tryz.prog 143 #[v, .slice (some ⟨b, 0, none⟩) 1 1] w (SamePost w (.int .i64 (Go.Lib.countByte (Go.Lib.bytesOf l) 0 : Nat))) := by
 have hln : l.length = n := by have := h.1; rw [bc_length] at this; omega
 obtain ⟨g, o, c, rfl, -, -, hc⟩ := h.pos hn
 have c0 : w.cell? ⟨b, 0, none⟩ = some (.int .u8 0) := hb.cell 0
 have HR := Lib.hid (Go.Lib.run_countSlice (P := Tryz.prog) w g o n c l hln (fun i hi => by
  refine hc i _ (bc_get ?_)
  rw [List.getD_eq_getElem?_getD, List.getElem?_eq_getElem (by omega)]
  rfl) 0)
 have F := Lib.hid (show SamePost w (.int .i64 (Go.Lib.countByte (Go.Lib.bytesOf l) 0 : Nat)) (.returned (.int .i64 (Go.Lib.countByte (Go.Lib.bytesOf l) 0 : Nat))) w from ⟨rfl, rfl⟩)
 clear h hb hc hln
 go_enter Tryz.func143, Tryz.ntmps143
 go_wp2
 rw [run_callFunc_extern Tryz.func169 (by kernel_rfl) (by kernel_rfl) (by kernel_rfl) (e := Extern.BytealgCount.count) (by kernel_rfl), HR.out]
 simp only [Result.andThen]
 rw [Oper.upon_value]
 go_wp2_with fail
 go_ret
 exact F.out
end Go.Proofs.YtlcfoeikamkpmaaGreat

namespace Go.Proofs.YtlcfoeikamkpmaaGreat
open Go.RowKit Go.Wh Go.Maps

section
variable {P : Program} {w : World} {ops : Array Oper} {rest : List Oper} {o : Oper} {a : Act} {Q : Exit → Act → World → Prop}
theorem grown_vec (w : World) (n : Nat) (cap : Nat) (e : TypeId) (xs : List Value) (cells : Array Value) (hn : n ≤ maxLen) (hx : xs.length = n) (hs : cells.size = grownCap w n cap e) (ht : cells.toList.take n = xs) :
 Vec (w.drew.alloc (.cells cells e)) 1 (.slice (some ⟨w.heap.size, 0, none⟩) n (grownCap w n cap e)) n xs ∧ ∀ S, Only S w (w.drew.alloc (.cells cells e)) :=
 ⟨vec_of_owns (base := 0) (e := e) ⟨by omega, .inr ⟨w.heap.size, _, cells, rfl, Nat.zero_le _, heap_alloc_new w.drew _, grownCap_ge w n cap e, grownCap_le_maxLen w n cap e hn, by omega, by rw [Nat.mul_one]; exact ht⟩⟩,
  fun S => Only.alloc (Only.drew (Only.refl _ _)) _⟩
theorem zeroCells_list (k : Nat) : (Builtin.zeroCells (Value.int .u8 0).cells k).toList = List.replicate k (.int .u8 0) := by
 refine List.ext_getElem ?_ fun j h1 h2 => ?_
 · simp [Builtin.zeroCells, Value.cells]
 · simp [Builtin.zeroCells, Value.cells, Nat.mod_one]
theorem run_append_vec_src (t tx ty e : TypeId) (i : TypeInfo) (h1 : P.underlying t = some (.slice e)) (h2 : P.info? e = some i) (h3 : i.zero = some (.int .u8 0)) (h4 : i.size = 1) (h5 : i.bytes = 1)
 {v : Value} {n : Nat} {xs : List Value} (hv : Vec w 1 v n xs) (hn : 0 < n) {x : Value} {m : Nat} {news : List Value} (hs : Src P 1 tx x m news w) (b1 : n + m ≤ 100000) :
 ∃ v' w', (Builtin.append_ #[t, tx] ty #[v, x]).run P w = .ok v' w' ∧ Vec w' 1 v' (n + m) (xs ++ news) ∧ Only (fun k => v.ownBlock = some k) w w' ∧ (v'.ownBlock = v.ownBlock ∨ ∃ g, v'.ownBlock = some g ∧ w.heap.size ≤ g ∧ g < w'.heap.size) := by
 obtain ⟨g, o, cap, rfl, h⟩ := hv.form hn
 have hl := h.len
 have hnl := hs.newsLen
 by_cases hr : n + m ≤ cap
 · have hsp : ∀ j, j < news.length → (w.cell? ⟨g, o + n * 1 + j, none⟩).isSome = true ∧ w.frozen? ⟨g, o + n * 1 + j, none⟩ = false := fun j hj => by
    rw [Nat.add_assoc]
    exact h.room _ (by omega)
   exact ⟨_, _, run_append_room_src (P := P) w t tx ty e i h1 h2 g o n cap x m news (by rw [h4]; exact hs) hr (fun j hj => by rw [h4]; exact (hsp j hj).1) (fun j hj => by rw [h4]; exact (hsp j hj).2),
    .inr ⟨g, o, cap, rfl, by rw [h4]; exact h.more m news hnl hr⟩, Only.grown (by rw [h4]; exact setCells_grown w g news _) (fun j hj => hj), .inl rfl⟩
 · have hold : (Builtin.firstCells i.size n (.slice (some ⟨g, o, none⟩) n cap)).run P w.drew = .ok xs.toArray w.drew :=
    run_firstCells_some (P := P) w.drew i.size n ⟨g, o, none⟩ n cap xs (by rw [h4]; exact hl) (fun j u hj => by
     rw [Addr.add_lit]
     exact (h.cells j (by rw [← hl]; exact (List.getElem?_eq_some_iff.1 hj).1)).trans hj)
   have hrun := run_append_grow_src (P := P) w t tx ty e i (.int .u8 0) h1 h2 h3 (some ⟨g, o, none⟩) n cap xs hold x m news (by rw [h4]; exact hs) (by omega) (by omega) (by rw [h5]; exact growslice_fits (by omega) (by omega))
   have hge := grownCap_ge w (n + m) cap e
   have hg := grown_vec w (n + m) cap e (xs ++ news) (by simp only [maxLen]; omega) (by rw [List.length_append]; omega) (cells := ((xs ++ news).toArray ++ Builtin.zeroCells (Value.int .u8 0).cells (grownCap w (n + m) cap e - (n + m))))
    (by rw [Array.size_append, ← Array.length_toList (xs := Builtin.zeroCells _ _), zeroCells_list, List.length_replicate, List.size_toArray, List.length_append]; omega)
    (by rw [Array.toList_append, List.take_append_of_le_length (by rw [List.length_append]; omega), List.take_of_length_le (by rw [List.length_append]; omega)])
   exact ⟨_, _, hrun, hg.1, hg.2 _, .inr ⟨w.heap.size, rfl, Nat.le_refl _, by simp⟩⟩
theorem run_append_vec_zeros (t tn ty e : TypeId) (i : TypeInfo) (kq kn : IntKind) (h1 : P.underlying t = some (.slice e)) (htn : P.underlying tn = some (.int kn)) (h2 : P.info? e = some i) (h3 : i.zero = some (.int .u8 0)) (h4 : i.size = 1) (h5 : i.bytes = 1)
 {v : Value} {n : Nat} {xs : List Value} (hv : Vec w 1 v n xs) (hn : 0 < n) (k : Nat) (hk : 0 < k) (b1 : n + k ≤ 100000) :
 ∃ v' w', (Builtin.append_ #[t, tn] ty #[v, .int kq k]).run P w = .ok v' w' ∧ Vec w' 1 v' (n + k) (xs ++ List.replicate k (.int .u8 0)) ∧ Only (fun k => v.ownBlock = some k) w w' ∧ (v'.ownBlock = v.ownBlock ∨ ∃ g, v'.ownBlock = some g ∧ w.heap.size ≤ g ∧ g < w'.heap.size) := by
 obtain ⟨g, o, cap, rfl, h⟩ := hv.form hn
 have hl := h.len
 have hnl : (List.replicate k (Value.int .u8 0)).length = k * 1 := by rw [List.length_replicate, Nat.mul_one]
 by_cases hr : n + k ≤ cap
 · have hsp : ∀ j, j < (List.replicate k (Value.int .u8 0)).length → (w.cell? ⟨g, o + n * 1 + j, none⟩).isSome = true ∧ w.frozen? ⟨g, o + n * 1 + j, none⟩ = false := fun j hj => by
    rw [Nat.add_assoc]
    exact h.room _ (by omega)
   have hst := run_storeCells_cells (P := P) g (o + n * 1) (List.replicate k (Value.int .u8 0)) 0 w (fun j hj => (hsp j hj).1) (fun j hj => (hsp j hj).2) (fun u hu => by rw [List.eq_of_mem_replicate hu]; rfl)
   simp only [Nat.add_zero] at hst
   refine ⟨_, _, ?_, .inr ⟨g, o, cap, rfl, h.more k _ hnl hr⟩, Only.grown (setCells_grown w g _ _) (fun j hj => hj), .inl rfl⟩
   have hkn : k ≠ 0 := by omega
   have hw : IntKind.i64.wrap (k : Int) = k := by rw [IntKind.wrap_i64]; omega
   have h48i : ¬ (281474976710656 < (k : Int)) := by omega
   have hneg : ¬ ((k : Int) < 0) := by omega
   have hz := zeroCells_list k
   rw [Nat.mul_one] at hst
   simp [Builtin.append_, run_underlying h1, run_underlying htn, sizeOf, typeInfo, zeroValue, h2, h3, h4, h5, asInt, asIntOf, hw, hneg, hkn, hr, h48i, Addr.add_lit, hz, hst]
 · have hold : (Builtin.firstCells i.size n (.slice (some ⟨g, o, none⟩) n cap)).run P w.drew = .ok xs.toArray w.drew :=
    run_firstCells_some (P := P) w.drew i.size n ⟨g, o, none⟩ n cap xs (by rw [h4]; exact hl) (fun j u hj => by
     rw [Addr.add_lit]
     exact (h.cells j (by rw [← hl]; exact (List.getElem?_eq_some_iff.1 hj).1)).trans hj)
   have hrun := Lib.run_append_grow_zeros (P := P) w t tn ty e i (.int .u8 0) kq kn h1 htn h2 h3 (some ⟨g, o, none⟩) n cap xs hold k hk (by omega) (by omega) (by omega) (by rw [h5]; omega) (by rw [h5]; exact growslice_fits (by omega) (by omega))
   have hge := grownCap_ge w (n + k) cap e
   have hg := grown_vec w (n + k) cap e (xs ++ List.replicate k (.int .u8 0)) (by simp only [maxLen]; omega) (by rw [List.length_append]; omega) (cells := (xs.toArray ++ Builtin.zeroCells (Value.int .u8 0).cells k ++ Builtin.zeroCells (Value.int .u8 0).cells (grownCap w (n + k) cap e - (n + k))))
    (by rw [Array.size_append, Array.size_append, ← Array.length_toList (xs := Builtin.zeroCells _ (grownCap w (n + k) cap e - (n + k))), zeroCells_list, ← Array.length_toList (xs := Builtin.zeroCells _ k), zeroCells_list, List.length_replicate, List.length_replicate, List.size_toArray]; omega)
    (by rw [Array.toList_append, Array.toList_append, zeroCells_list, List.take_append_of_le_length (by rw [List.length_append]; simp; omega), List.take_of_length_le (by rw [List.length_append]; simp; omega)])
   exact ⟨_, _, hrun, hg.1, hg.2 _, .inr ⟨w.heap.size, rfl, Nat.le_refl _, by simp⟩⟩
theorem wpList_append_vec_src (hgd : o.guard = none) (s x : Operand) (t tx : TypeId) (hop : o.op = Op.call { callee := Callee.builtin Builtin.append, args := #[s, x], argTypes := #[t, tx] })
 (e : TypeId) (i : TypeInfo) (h1 : P.underlying t = some (.slice e)) (h2 : P.info? e = some i) (h3 : i.zero = some (.int .u8 0)) (h4 : i.size = 1) (h5 : i.bytes = 1)
 (v : Value) (n : Nat) (xs : List Value) (hs : a.eval s = v) (hv : Vec w 1 v n xs) (hn : 0 < n) (vx : Value) (m : Nat) (news : List Value) (hxv : a.eval x = vx) (hx : Src P 1 tx vx m news w) (b1 : n + m ≤ 100000)
 (hK : ∀ v' w', Vec w' 1 v' (n + m) (xs ++ news) → Only (fun k => v.ownBlock = some k) w w' → (v'.ownBlock = v.ownBlock ∨ ∃ g, v'.ownBlock = some g ∧ w.heap.size ≤ g ∧ g < w'.heap.size) → wpList P ops Q rest (a.put o.dst v') w') :
 wpList P ops Q (o :: rest) a w := by
 refine wpList_plain hgd fun K hK' => ?_
 obtain ⟨v', w', hrun, r1, r2, r3⟩ := run_append_vec_src (P := P) t tx o.type e i h1 h2 h3 h4 h5 hv hn hx b1
 unfold Oper.wp
 simp [execOp, hop, resolve, invoke, builtin, hs, hxv, hrun, Result.andThen]
 exact hK' _ _ (hK v' w' r1 r2 r3)
theorem wpList_append_vec_zeros (hgd : o.guard = none) (s x : Operand) (t tn : TypeId) (hop : o.op = Op.call { callee := Callee.builtin Builtin.append, args := #[s, x], argTypes := #[t, tn] })
 (e : TypeId) (i : TypeInfo) (kq kn : IntKind) (h1 : P.underlying t = some (.slice e)) (htn : P.underlying tn = some (.int kn)) (h2 : P.info? e = some i) (h3 : i.zero = some (.int .u8 0)) (h4 : i.size = 1) (h5 : i.bytes = 1)
 (v : Value) (n : Nat) (xs : List Value) (hs : a.eval s = v) (hv : Vec w 1 v n xs) (hn : 0 < n) (k : Nat) (hxv : a.eval x = .int kq k) (hk : 0 < k) (b1 : n + k ≤ 100000)
 (hK : ∀ v' w', Vec w' 1 v' (n + k) (xs ++ List.replicate k (.int .u8 0)) → Only (fun k => v.ownBlock = some k) w w' → (v'.ownBlock = v.ownBlock ∨ ∃ g, v'.ownBlock = some g ∧ w.heap.size ≤ g ∧ g < w'.heap.size) → wpList P ops Q rest (a.put o.dst v') w') :
 wpList P ops Q (o :: rest) a w := by
 refine wpList_plain hgd fun K hK' => ?_
 obtain ⟨v', w', hrun, r1, r2, r3⟩ := run_append_vec_zeros (P := P) t tn o.type e i kq kn h1 htn h2 h3 h4 h5 hv hn k hk b1
 unfold Oper.wp
 simp [execOp, hop, resolve, invoke, builtin, hs, hxv, hrun, Result.andThen]
 exact hK' _ _ (hK v' w' r1 r2 r3)
end

def txt (s : ByteArray) : List Int := s.data.toList.map fun b => (b.toNat : Int)
def padB (s : ByteArray) (k : Nat) : List Int := ((s.size : Int) :: txt s) ++ List.replicate (k - s.size) 0
theorem txt_cells (s : ByteArray) : byteCells s = bc (txt s) := by
 unfold byteCells bc txt
 rw [List.map_map]
 rfl
set_option maxHeartbeats 400000 in
set_option maxRecDepth 10000 in
theorem pad_any (w : World) (s : ByteArray) (m k : Nat) (hs : s.size = m) (hmk : m < k) (hk : k ≤ 100) :
 Calls Tryz.prog 59 #[.string s, .int .i64 (k : Int)] w (FreshPost w 1 (k + 1) (bc (padB s k))) := by
 obtain ⟨i0, hi, hz0, hz1, hz2⟩ := info_parts info_b
 have HI := Lib.hid (And.intro hi (And.intro hz0 (And.intro hz1 hz2)))
 obtain ⟨N, hN⟩ : ∃ N, k - m = N := ⟨_, rfl⟩
 have HB := Lib.hid (And.intro hs (And.intro hmk (And.intro hk hN)))
 have hwr : IntKind.u8.wrap (m : Int) = (m : Int) := by rw [IntKind.wrap_u8]; omega
 have hwr2 : IntKind.i64.wrap ((k : Int) - (m : Int)) = (N : Int) := by rw [IntKind.wrap_i64]; omega
 clear hi hz0 hz1 hz2 hmk hk hN
 go_enter Tryz.func59, Tryz.ntmps59
 have HV := Lib.hid (show Vec (w.alloc (.cells #[.int .u8 (m : Int)] 5)) 1 (.slice (some ⟨w.heap.size, 0, none⟩) 1 1) 1 [.int .u8 (m : Int)] from vec_block (t := 5) (cs := #[.int .u8 (m : Int)]) (heap_alloc_new _ _) rfl (by decide))
 have HSR := Lib.hid (fun w => Src.ofString (P := Tryz.prog) (w := w) (tx := 9) Tryz.underlying9 s)
 go_wp2_with (at_builtin; first
  | (refine wpList_append_vec_src rfl _ _ 22 9 rfl 5 i0 Tryz.underlying22 HI.out.1 HI.out.2.1 HI.out.2.2.1 HI.out.2.2.2 (.slice (some ⟨w.heap.size, 0, none⟩) 1 1) 1 [.int .u8 (m : Int)] rfl HV.out (by decide) (.string s) m (byteCells s) rfl (by have := HSR.out; rw [HB.out.1] at this; exact this _) (by have := HB.out; omega) ?_; intro v1 w1 hv1 ho1 hb1; have HV1 := Lib.hid (And.intro hv1 (And.intro ho1 hb1)); clear hv1 ho1 hb1)
  | (refine wpList_append_vec_zeros rfl _ _ 22 3 rfl 5 i0 .i64 .i64 Tryz.underlying22 Tryz.underlying3 HI.out.1 HI.out.2.1 HI.out.2.2.1 HI.out.2.2.2 v1 (1 + m) ([.int .u8 (m : Int)] ++ byteCells s) rfl HV1.out.1 (by omega) N rfl (by have := HB.out; omega) (by have := HB.out; omega) ?_; intro v2 w2 hv2 ho2 hb2; have HV2 := Lib.hid (And.intro hv2 (And.intro ho2 hb2)); clear hv2 ho2 hb2))
 have F := Lib.hid (show FreshPost w 1 (k + 1) (bc (padB s k)) (.returned v2) w2 from by
  obtain ⟨hv1, ho1, hb1⟩ := HV1.out
  obtain ⟨hv2, ho2, hb2⟩ := HV2.out
  obtain ⟨h1, h2, h3, h4⟩ := HB.out
  have e : bc (padB s k) = [.int .u8 (m : Int)] ++ byteCells s ++ List.replicate N (.int .u8 0) := by
   unfold padB
   rw [bc_append, txt_cells, h1, h4]
   simp [bc]
  have hz : (w.alloc (.cells #[.int .u8 (m : Int)] 5)).heap.size = w.heap.size + 1 := by simp
  have ob : (Value.slice (some ⟨w.heap.size, 0, none⟩) 1 1).ownBlock = some w.heap.size := rfl
  have b1 : ∀ g, v1.ownBlock = some g → w.heap.size ≤ g ∧ g < w1.heap.size := fun g hg => by
   have := ho1.size
   rcases hb1 with hb | ⟨g', hb, h4, h5⟩
   · rw [hb, ob] at hg
     cases hg
     omega
   · rw [hb] at hg
     cases hg
     omega
  refine ⟨_, rfl, ?_, ?_, fun g hg => ?_⟩
  · rw [e, show k + 1 = 1 + m + N by omega]
    exact hv2
  · exact (((Below.refl w.heap.size w).alloc (Nat.le_refl _) _).trans (ho1.below (by omega) fun i hi hx => by rw [ob] at hx; cases hx; omega)).trans (ho2.below (by have := ho1.size; omega) fun i hi hx => by have := (b1 i hx).1; omega)
  · have := ho2.size
    rcases hb2 with hb | ⟨g', hb, h4, h5⟩
    · rw [hb] at hg
      have := b1 g hg
      omega
    · rw [hb] at hg
      cases hg
      have := ho1.size
      omega)
 clear HV1 HV2 HV HSR HI
 go_wp2_with fail
 go_ret
 exact F.out
end Go.Proofs.YtlcfoeikamkpmaaGreat

namespace Go.Proofs.YtlcfoeikamkpmaaGreat
open Go.RowKit Go.Wh Go.Maps

theorem step_append_vec {P : Program} {ops : Array Oper} {o : Oper} {a : Act} {w : World} {K : Act → World → Prop} {Q : Exit → Act → World → Prop} {E : Prop}
 (hg : o.guard = none) (s x : Operand) (t : TypeId) (hop : o.op = Op.call { callee := Callee.builtin Builtin.append, args := #[s, x], argTypes := #[t, t] })
 (e : TypeId) (i : TypeInfo) (z : Value) (size bytes : Nat) (h1 : P.underlying t = some (.slice e)) (h2 : P.info? e = some i) (h3 : i.zero = some z) (h4 : i.size = size) (h5 : i.bytes = bytes) (h6 : z.cells.size = size) (h7 : 0 < size)
 (v : Value) (n : Nat) (xs : List Value) (hs : a.eval s = v) (hv : Vec w size v n xs) (vx : Value) (m : Nat) (news : List Value) (hxv : a.eval x = vx) (hx : Reads w size vx m news) (h1c : ∀ u ∈ news, u.oneCell' = true) (b1 : n + m ≤ maxLen) (b2 : (n + m) * bytes ≤ 140737488355328)
 (hK : ∀ v' w', Vec w' size v' (n + m) (xs ++ news) → Only (fun k => v.ownBlock = some k) w w' → (v'.ownBlock = v.ownBlock ∨ ∃ g, v'.ownBlock = some g ∧ w.heap.size ≤ g ∧ g < w'.heap.size) → K (a.put o.dst v') w') :
 if Region.wanted o (yielded ops a.tmps) = true then Oper.wp P o a w K Q else E := by
 obtain ⟨v', w', hrun, r1, r2, r3⟩ := run_append_vec (P := P) t o.type e i z size bytes h1 h2 h3 h4 h5 h6 h7 hv hx h1c b1 b2
 exact step_append_run hg s x t t hop v vx hs hxv hrun (hK _ _ r1 r2 r3)

theorem Still.of {w w' : World} (h : Below w.heap.size w w') : Still w w' := ⟨h.os, h.tape, h.output, h.size, fun i hi _ => h.block i hi⟩
theorem append_fresh {a w w' : World} {v v' : Value} (hs : Still a w) (hf : ∀ g, v.ownBlock = some g → a.heap.size ≤ g ∧ g < w.heap.size) (ho : Only (fun k => v.ownBlock = some k) w w') (hb : v'.ownBlock = v.ownBlock ∨ ∃ g, v'.ownBlock = some g ∧ w.heap.size ≤ g ∧ g < w'.heap.size) :
 Still a w' ∧ ∀ g, v'.ownBlock = some g → a.heap.size ≤ g ∧ g < w'.heap.size := by
 have hz := ho.size
 have ha := hs.size
 refine ⟨hs.andThen ho fun i hi e => by have := (hf i e).1; omega, fun g hg => ?_⟩
 rcases hb with e | ⟨g', e, h1, h2⟩
 · rw [e] at hg
   have := hf g hg
   omega
 · rw [e] at hg
   cases hg
   omega
set_option maxHeartbeats 400000 in
set_option maxRecDepth 10000 in
theorem rmay_any (w : World) (key sec val : ByteArray) (a b c : Nat) (ha : key.size = a) (hb : sec.size = b) (hc : val.size = c) (h1 : 1 ≤ a) (h2 : a < 8) (h3 : b < 6) (h4 : c < 8) :
 Calls Tryz.prog 58 #[.agg #[.string key, .string sec, .string val]] w (StPost w (.bool true)) := by
 have F := Lib.hid (show StPost w (.bool true) (.returned (.bool true)) (w.alloc (.cells #[.string key, .string sec, .string val] 60)) from ⟨rfl, (Still.refl w).alloc _⟩)
 have d1 : decide ((a : Int) ≥ 1) = true := decide_eq_true (by omega)
 have d2 : decide ((a : Int) ≤ 8) = true := decide_eq_true (by omega)
 have d3 : decide ((b : Int) ≤ 6) = true := decide_eq_true (by omega)
 have d4 : decide ((c : Int) ≤ 8) = true := decide_eq_true (by omega)
 have e1 : (1 : Int) ≤ (a : Int) := by omega
 have e2 : (a : Int) ≤ 8 := by omega
 have e3 : (b : Int) ≤ 6 := by omega
 have e4 : (c : Int) ≤ 8 := by omega
 have e5 : a ≤ 8 := by omega
 have e6 : b ≤ 6 := by omega
 have e7 : c ≤ 8 := by omega
 clear h2 h3 h4
 go_enter Tryz.func58, Tryz.ntmps58
 go_wp2_with fail
 go_ret
 exact F.out

def rowB (key sec val : ByteArray) : List Int := 1 :: (padB key 8 ++ padB sec 6 ++ padB val 8)
def RowPost (w : World) (l : List Int) (en : Ending) (w' : World) : Prop :=
 ∃ v, en = .returned (.tuple #[v, .int .i64 0]) ∧ Vec w' 1 v 26 (bc l) ∧ Below w.heap.size w w' ∧ ∀ g, v.ownBlock = some g → w.heap.size ≤ g ∧ g < w'.heap.size

set_option maxHeartbeats 1000000 in
set_option maxRecDepth 10000 in
theorem row_any (w : World) (key sec val : ByteArray) (a b c : Nat) (ha : key.size = a) (hb : sec.size = b) (hc : val.size = c) (h1 : 1 ≤ a) (h2 : a < 8) (h3 : b < 6) (h4 : c < 8) :
 Calls Tryz.prog 23 #[.agg #[.string key, .string sec, .string val]] w (RowPost w (rowB key sec val)) := by
 obtain ⟨i0, hi, hz0, hz1, hz2⟩ := info_parts info_b
 have HI := Lib.hid (And.intro hi (And.intro hz0 (And.intro hz1 hz2)))
 have HM := Lib.hid (fun w' => rmay_any w' key sec val a b c ha hb hc h1 h2 h3 h4)
 have HP1 := Lib.hid (fun w' => show Calls Tryz.prog 59 #[.string key, .int .i64 8] w' (FreshPost w' 1 9 (bc (padB key 8))) from pad_any w' key a 8 ha h2 (by decide))
 have HP2 := Lib.hid (fun w' => show Calls Tryz.prog 59 #[.string sec, .int .i64 6] w' (FreshPost w' 1 7 (bc (padB sec 6))) from pad_any w' sec b 6 hb h3 (by decide))
 have HP3 := Lib.hid (fun w' => show Calls Tryz.prog 59 #[.string val, .int .i64 8] w' (FreshPost w' 1 9 (bc (padB val 8))) from pad_any w' val c 8 hc h4 (by decide))
 have S0 := Lib.hid (show Below w.heap.size w (w.alloc (.cells #[.string key, .string sec, .string val] 60)) from (Below.refl _ _).alloc (Nat.le_refl _) _)
 have HC0 := Lib.hid (cellsAt_new w [.string key, .string sec, .string val] 60)
 have hsz := show (w.alloc (.cells #[.string key, .string sec, .string val] 60)).heap.size = w.heap.size + 1 by simp
 clear hi hz0 hz1 hz2 ha hb hc h1 h2 h3 h4
 go_enter Tryz.func23, Tryz.ntmps23
 go_upto_region 1 with fail
 generalize (w.alloc (.cells #[.string key, .string sec, .string val] 60)) = w1 at *
 have HSZ := Lib.hid hsz
 clear hsz
 have q0 : w1.cell? ⟨w.heap.size, 0, none⟩ = some (.string key) := HC0.out.cell 0
 have q1 : w1.cell? ⟨w.heap.size, 1, none⟩ = some (.string sec) := HC0.out.cell 1
 have q2 : w1.cell? ⟨w.heap.size, 2, none⟩ = some (.string val) := HC0.out.cell 2
 go_wp2_with (first
  | (go_at_call 58; refine (HM.out _).mono ?_; rintro e w2 ⟨rfl, hs2⟩; (have p0 := Still.cell hs2 q0); (have p1 := Still.cell hs2 q1); (have p2 := Still.cell hs2 q2); have HS2 := Lib.hid hs2; clear hs2 q0 q1 q2; have HA := Lib.hid (show Vec (w2.alloc (.cells #[.int .u8 1] 5)) 1 (.slice (some ⟨w2.heap.size, 0, none⟩) 1 1) 1 [.int .u8 1] from vec_block (t := 5) (cs := #[.int .u8 1]) (heap_alloc_new _ _) rfl (by decide)); have SA := Lib.hid (show Still w2 (w2.alloc (.cells #[.int .u8 1] 5)) from (Still.refl _).alloc _); have ZA := Lib.hid (show (w2.alloc (.cells #[.int .u8 1] 5)).heap.size = w2.heap.size + 1 by simp); have p0' := Still.cell SA.out p0)
  | (go_at_call 59; (with_reducible refine (HP1.out _).mono ?_); rintro e w4 ⟨v4, rfl, hv4, hb4, hg4⟩; have HV4 := Lib.hid (And.intro hv4 (HA.out.belowAll hb4)); have hs4 := SA.out.trans (Still.of hb4); have HS4 := Lib.hid (And.intro hs4 hb4.size); clear hv4 hb4 hg4 hs4)
  | (at_builtin; refine wpList_append_vec rfl _ _ 22 rfl 5 i0 _ 1 1 Tryz.underlying22 HI.out.1 HI.out.2.1 HI.out.2.2.1 HI.out.2.2.2 rfl (by decide) (.slice (some ⟨w2.heap.size, 0, none⟩) 1 1) 1 [.int .u8 1] rfl HV4.out.2 v4 9 (bc (padB key 8)) rfl HV4.out.1.reads (bc_one _) (by decide) (by decide) ?_; intro v5 w5 hv5 ho5 hb5; have AF5 := append_fresh HS4.out.1 (fun g hg => by have e : w2.heap.size = g := Option.some.inj hg; have := HS4.out.2; have := ZA.out; omega) ho5 hb5; have HV5 := Lib.hid (And.intro hv5 AF5); clear hv5 ho5 hb5 AF5))
 have hs5 := HV5.out.2.1
 have HBX := Lib.hid (fun w' (hs : Still w2 w') => show Still w2 w' ∧ w'.cell? ⟨w.heap.size, 1, none⟩ = some (.string sec) ∧ w'.cell? ⟨w.heap.size, 2, none⟩ = some (.string val) from ⟨hs, Still.cell hs p1, Still.cell hs p2⟩)
 clear p0 p1 p2 p0'
 go_region_held3 (fun w' => Still w2 w' ∧ w'.cell? ⟨w.heap.size, 1, none⟩ = some (.string sec) ∧ w'.cell? ⟨w.heap.size, 2, none⟩ = some (.string val)) (first | exact HBX.out _ (by assumption) | exact HBX.out _ (Only.drew (by assumption)))
  (first
   | (go_at_call 59; (with_reducible refine (HP2.out _).mono ?_); rintro e w6 ⟨v6, rfl, hv6, hb6, hg6⟩; have hs6 : Still w2 w6 := HV5.out.2.1.drew.trans (Still.of hb6); have HV6 := Lib.hid (And.intro hv6 (And.intro (show Vec w6 1 v5 (1 + 9) ([.int .u8 1] ++ bc (padB key 8)) from HV5.out.1.drew.belowAll hb6) (show ∀ g, v5.ownBlock = some g → w2.heap.size ≤ g ∧ g < w6.heap.size from fun g hg => by have h1 := HV5.out.2.2 g hg; have h2 : w5.heap.size ≤ w6.heap.size := hb6.size; omega))); clear hv6 hb6 hg6)
   | (refine step_append_vec rfl _ _ 22 rfl 5 i0 _ 1 1 Tryz.underlying22 HI.out.1 HI.out.2.1 HI.out.2.2.1 HI.out.2.2.2 rfl (by decide) v5 (1 + 9) ([.int .u8 1] ++ bc (padB key 8)) (by simp [Act.eval]) HV6.out.2.1 v6 7 (bc (padB sec 6)) (by simp [Act.eval]) HV6.out.1.reads (bc_one _) (by decide) (by decide) ?_; intro v7 w7 hv7 ho7 hb7; have AF7 := append_fresh hs6 HV6.out.2.2 ho7 hb7; have hs7 := AF7.1; have HV7 := Lib.hid (And.intro hv7 AF7); clear hv7 ho7 hb7 AF7)
   | (go_at_call 59; (with_reducible refine (HP3.out _).mono ?_); rintro e w8 ⟨v8, rfl, hv8, hb8, hg8⟩; have hs8 : Still w2 w8 := HV7.out.2.1.trans (Still.of hb8); have HV8 := Lib.hid (And.intro hv8 (And.intro (show Vec w8 1 v7 (1 + 9 + 7) ([.int .u8 1] ++ bc (padB key 8) ++ bc (padB sec 6)) from HV7.out.1.belowAll hb8) (show ∀ g, v7.ownBlock = some g → w2.heap.size ≤ g ∧ g < w8.heap.size from fun g hg => by have h1 := HV7.out.2.2 g hg; have h2 : w7.heap.size ≤ w8.heap.size := hb8.size; omega))); clear hv8 hb8 hg8)
   | (refine step_append_vec rfl _ _ 22 rfl 5 i0 _ 1 1 Tryz.underlying22 HI.out.1 HI.out.2.1 HI.out.2.2.1 HI.out.2.2.2 rfl (by decide) v7 (1 + 9 + 7) ([.int .u8 1] ++ bc (padB key 8) ++ bc (padB sec 6)) (by simp [Act.eval]) HV8.out.2.1 v8 9 (bc (padB val 8)) (by simp [Act.eval]) HV8.out.1.reads (bc_one _) (by decide) (by decide) ?_; intro v9 w9 hv9 ho9 hb9; have AF9 := append_fresh hs8 HV8.out.2.2 ho9 hb9; have hs9 := AF9.1; have HV9 := Lib.hid (And.intro hv9 AF9); clear hv9 ho9 hb9 AF9))
 have F := Lib.hid (show RowPost w (rowB key sec val) (.returned (.tuple #[v9, .int .i64 0])) w9 from by
  obtain ⟨h1, h2, h3⟩ := HV9.out
  have hz := HSZ.out
  have hz2 := HS2.out.size
  refine ⟨_, rfl, ?_, S0.out.trans (Only.below (HS2.out.trans h2) (by omega) fun _ _ e => e), fun g hg => ⟨by have := (h3 g hg).1; omega, (h3 g hg).2⟩⟩
  have e : bc (rowB key sec val) = [.int .u8 1] ++ bc (padB key 8) ++ bc (padB sec 6) ++ bc (padB val 8) := by
   unfold rowB
   rw [show (1 : Int) :: (padB key 8 ++ padB sec 6 ++ padB val 8) = [1] ++ (padB key 8 ++ padB sec 6 ++ padB val 8) from rfl, bc_append, bc_append, bc_append, List.append_assoc, List.append_assoc, List.append_assoc]
   rfl
  rw [e]
  exact h1)
 clear HV5 HV6 HV7 HV8 HV9 HBX hs5 hs6 hs7 hs8 hs9 HS2 S0 HC0 HP1 HP2 HP3 HM HA SA ZA HV4 HS4
 go_wp2_with fail
 go_ret2
 exact F.out
end Go.Proofs.YtlcfoeikamkpmaaGreat

namespace Go.Proofs.YtlcfoeikamkpmaaGreat
open Go.RowKit Go.Wh Go.Maps

section
variable {P : Program} {w : World}
theorem run_append_at_zeros (t tn ty e : TypeId) (i : TypeInfo) (kq kn : IntKind) (h1 : P.underlying t = some (.slice e)) (htn : P.underlying tn = some (.int kn)) (h2 : P.info? e = some i) (h3 : i.zero = some (.int .u8 0)) (h4 : i.size = 1) (h5 : i.bytes = 1)
 {g o cap n : Nat} {xs : List Value} (h : VecAt w 1 g o n cap xs) (k : Nat) (b1 : n + k ≤ 100000) :
 ∃ v' w', (Builtin.append_ #[t, tn] ty #[.slice (some ⟨g, o, none⟩) n cap, .int kq k]).run P w = .ok v' w' ∧ Vec w' 1 v' (n + k) (xs ++ List.replicate k (.int .u8 0)) ∧ Only (fun k => k = g) w w' ∧ (v'.ownBlock = some g ∨ ∃ g, v'.ownBlock = some g ∧ w.heap.size ≤ g ∧ g < w'.heap.size) := by
 have hl := h.len
 rcases Nat.eq_zero_or_pos k with rfl | hk
 · refine ⟨.slice (some ⟨g, o, none⟩) n cap, w, ?_, by rw [List.replicate_zero, List.append_nil]; exact .inr ⟨g, o, cap, rfl, h⟩, Only.refl _ _, .inl rfl⟩
   have hle := h.le
   have hw : IntKind.i64.wrap 0 = 0 := rfl
   have hst : ∀ b, (storeCells b ([] : List Value)).run P w = Result.ok () w := fun b => rfl
   simp [Builtin.append_, run_underlying h1, run_underlying htn, sizeOf, typeInfo, zeroValue, h2, h3, h4, h5, asInt, asIntOf, hw, hle, hst]
 rcases Nat.eq_zero_or_pos n with rfl | hn
 · have hnl : xs = [] := by simpa using hl
   subst hnl
   by_cases hr : k ≤ cap
   · have hsp : ∀ j, j < (List.replicate k (Value.int .u8 0)).length → (w.cell? ⟨g, o + 0 * 1 + j, none⟩).isSome = true ∧ w.frozen? ⟨g, o + 0 * 1 + j, none⟩ = false := fun j hj => by
      rw [List.length_replicate] at hj
      rw [Nat.add_assoc]
      exact h.room _ (by omega)
     have hst := run_storeCells_cells (P := P) g (o + 0 * 1) (List.replicate k (Value.int .u8 0)) 0 w (fun j hj => (hsp j hj).1) (fun j hj => (hsp j hj).2) (fun u hu => by rw [List.eq_of_mem_replicate hu]; rfl)
     simp only [Nat.add_zero] at hst
     refine ⟨_, _, ?_, .inr ⟨g, o, cap, rfl, h.more k (List.replicate k (Value.int .u8 0)) (by rw [List.length_replicate, Nat.mul_one]) (by omega)⟩, Only.grown (setCells_grown w g _ _) (fun j hj => (Option.some.inj hj).symm), .inl rfl⟩
     have hkn : k ≠ 0 := by omega
     have hw : IntKind.i64.wrap (k : Int) = k := by rw [IntKind.wrap_i64]; omega
     have h48i : ¬ (281474976710656 < (k : Int)) := by omega
     have hneg : ¬ ((k : Int) < 0) := by omega
     have hz := zeroCells_list k
     rw [Nat.mul_one] at hst
     simp only [Nat.zero_mul, Nat.add_zero] at hst ⊢
     simp [Builtin.append_, run_underlying h1, run_underlying htn, sizeOf, typeInfo, zeroValue, h2, h3, h4, h5, asInt, asIntOf, hw, hneg, hkn, hr, h48i, Addr.add_lit, hz, hst]
   · have hold : (Builtin.firstCells i.size 0 (.slice (some ⟨g, o, none⟩) 0 cap)).run P w.drew = .ok ([] : List Value).toArray w.drew :=
      run_firstCells_some (P := P) w.drew i.size 0 ⟨g, o, none⟩ 0 cap [] (by simp) (fun j u hj => by simp at hj)
     have hrun := Lib.run_append_grow_zeros (P := P) w t tn ty e i (.int .u8 0) kq kn h1 htn h2 h3 (some ⟨g, o, none⟩) 0 cap [] hold k hk (by omega) (by omega) (by omega) (by rw [h5]; omega) (by rw [h5]; exact growslice_fits (by omega) (by omega))
     have hge := grownCap_ge w (0 + k) cap e
     have hg := grown_vec w (0 + k) cap e ([] ++ List.replicate k (.int .u8 0)) (by simp only [maxLen]; omega) (by rw [List.length_append, List.length_replicate]; rfl) (cells := (([] : List Value).toArray ++ Builtin.zeroCells (Value.int .u8 0).cells k ++ Builtin.zeroCells (Value.int .u8 0).cells (grownCap w (0 + k) cap e - (0 + k))))
      (by rw [Array.size_append, Array.size_append, ← Array.length_toList (xs := Builtin.zeroCells _ (grownCap w (0 + k) cap e - (0 + k))), zeroCells_list, ← Array.length_toList (xs := Builtin.zeroCells _ k), zeroCells_list, List.length_replicate, List.length_replicate, List.size_toArray, List.length_nil]; omega)
      (by rw [Array.toList_append, Array.toList_append, zeroCells_list, List.take_append_of_le_length (by rw [List.length_append]; simp), List.take_of_length_le (by rw [List.length_append]; simp)])
     exact ⟨_, _, hrun, hg.1, hg.2 _, .inr ⟨w.heap.size, rfl, Nat.le_refl _, by simp⟩⟩
 · obtain ⟨v', w', r1, r2, r3, r4⟩ := run_append_vec_zeros (P := P) (w := w) t tn ty e i kq kn h1 htn h2 h3 h4 h5 (.inr ⟨g, o, cap, rfl, h⟩) hn k hk b1
   exact ⟨v', w', r1, r2, r3.mono fun b e => by have e' : some g = some b := e; exact (Option.some.inj e').symm, r4⟩
end

theorem wpList_append_given {P : Program} {w : World} {ops : Array Oper} {rest : List Oper} {o : Oper} {a : Act} {Q : Exit → Act → World → Prop} (hw : Region.wanted o (yielded ops a.tmps) = true) (s x : Operand) (t tx : TypeId)
 (hop : o.op = Op.call { callee := Callee.builtin Builtin.append, args := #[s, x], argTypes := #[t, tx] }) (v vx : Value) (hs : a.eval s = v) (hx : a.eval x = vx) (v' : Value) (w' : World)
 (hrun : (Builtin.append_ #[t, tx] o.type #[v, vx]).run P w = .ok v' w') (hK : wpList P ops Q rest (a.put o.dst v') w') : wpList P ops Q (o :: rest) a w := by
 refine wpList_step fun K hK' => ?_
 rw [if_pos hw]
 unfold Oper.wp
 simp [execOp, hop, resolve, invoke, builtin, hs, hx, hrun, Result.andThen]
 exact hK' _ _ hK
end Go.Proofs.YtlcfoeikamkpmaaGreat

namespace Go.Proofs.YtlcfoeikamkpmaaGreat
open Go.RowKit Go.Wh Go.Maps

theorem only_own {a b c : World} {v v1 : Value} (h1 : Only (fun k => v.ownBlock = some k) a b) (hb : v1.ownBlock = v.ownBlock ∨ ∃ g, v1.ownBlock = some g ∧ a.heap.size ≤ g ∧ g < b.heap.size) (h2 : Only (fun k => v1.ownBlock = some k) b c) : Only (fun k => v.ownBlock = some k) a c :=
 h1.andThen h2 fun i hi e => by
  rcases hb with hb | ⟨g, hb, h3, _⟩
  · rw [← hb]; exact e
  · rw [hb] at e
    have := Option.some.inj e
    omega
theorem own_step {a b c : World} {v v1 v2 : Value} (hb : v1.ownBlock = v.ownBlock ∨ ∃ g, v1.ownBlock = some g ∧ a.heap.size ≤ g ∧ g < b.heap.size) (hc : v2.ownBlock = v1.ownBlock ∨ ∃ g, v2.ownBlock = some g ∧ b.heap.size ≤ g ∧ g < c.heap.size) (h1 : a.heap.size ≤ b.heap.size) (h2 : b.heap.size ≤ c.heap.size) :
 v2.ownBlock = v.ownBlock ∨ ∃ g, v2.ownBlock = some g ∧ a.heap.size ≤ g ∧ g < c.heap.size := by
 rcases hc with hc | ⟨g, hc, h3, h4⟩
 · rw [hc]
   rcases hb with hb | ⟨g, hb, h3, h4⟩
   · exact .inl hb
   · exact .inr ⟨g, hb, h3, by omega⟩
 · exact .inr ⟨g, hc, by omega, h4⟩
set_option maxHeartbeats 1000000 in
set_option maxRecDepth 100000 in
theorem ctext_any (w : World) (v : Value) (n : Nat) (xs : List Value) (hv : Vec w 1 v n xs) (hn : 0 < n) (hnl : n ≤ 1000) (s : ByteArray) (m k : Nat) (hs : s.size = m) (hmk : m ≤ k) (hk : k ≤ 100) :
 Calls Tryz.prog 172 #[v, .string s, .int .i64 (k : Int)] w (TurnedPost w v 1 (n + (k + 1)) (xs ++ bc (padB s k))) := by
 obtain ⟨ti, hi, hz0, hz1, hz2⟩ := info_parts info_b
 have HI := Lib.hid (And.intro hi (And.intro hz0 (And.intro hz1 hz2)))
 obtain ⟨N, hN⟩ : ∃ N, k - m = N := ⟨_, rfl⟩
 have HB := Lib.hid (And.intro hs (And.intro hmk (And.intro hk hN)))
 have hwr : IntKind.u8.wrap (m : Int) = (m : Int) := by rw [IntKind.wrap_u8]; omega
 have hwr2 : IntKind.i64.wrap ((k : Int) - (m : Int)) = (N : Int) := by rw [IntKind.wrap_i64]; omega
 obtain ⟨va, vc, rfl⟩ := hv.form'
 have HV := Lib.hid (And.intro hv (And.intro hn hnl))
 have HSR := Lib.hid (fun w => Src.ofString (P := Tryz.prog) (w := w) (tx := 9) Tryz.underlying9 s)
 clear hi hz0 hz1 hz2 hmk hk hN hv hn hnl
 go_enter Tryz.func172, Tryz.ntmps172
 go_upto_region 2 with (at_builtin; first
  | (refine wpList_append_vec rfl _ _ 22 rfl 5 ti _ 1 1 Tryz.underlying22 HI.out.1 HI.out.2.1 HI.out.2.2.1 HI.out.2.2.2 rfl (by decide) (.slice va n vc) n xs (by simp [Act.eval]) (HV.out.1.alloc _) (.slice (some ⟨w.heap.size, 0, none⟩) 1 1) 1 [.int .u8 (m : Int)] (by simp [Act.eval]) ((cellsAt_new w [.int .u8 (m : Int)] _).reads rfl) (by intro u hu; simp at hu; rw [hu]; rfl) (by have := HV.out; simp only [maxLen]; omega) (by have := HV.out; omega) ?_; intro v1 w1 hv1 ho1 hb1; obtain ⟨a1, c1, rfl⟩ := hv1.form'; have HV1 := Lib.hid (And.intro hv1 (And.intro ho1 hb1)); clear hv1 ho1 hb1)
  | (refine wpList_append_vec_src rfl _ _ 22 9 rfl 5 ti Tryz.underlying22 HI.out.1 HI.out.2.1 HI.out.2.2.1 HI.out.2.2.2 (.slice a1 (n + 1) c1) (n + 1) _ (by simp [Act.eval]) HV1.out.1 (by omega) (.string s) m (byteCells s) (by simp [Act.eval]) (by have := HSR.out; rw [HB.out.1] at this; exact this _) (by have := HB.out; have := HV.out; omega) ?_; intro v2 w2 hv2 ho2 hb2; obtain ⟨a2, c2, rfl⟩ := hv2.form'; have HV2 := Lib.hid (And.intro hv2 (And.intro ho2 hb2)); clear hv2 ho2 hb2))
 obtain ⟨g2, o2, cap2, he2, hva2⟩ := HV2.out.1.form (by omega)
 injection he2 with e1 _ e3
 subst e1 e3
 obtain ⟨v3, w3, hrun, hv3, ho3, hb3⟩ := run_append_at_zeros (P := Tryz.prog) 22 3 22 5 ti .i64 .i64 Tryz.underlying22 Tryz.underlying3 HI.out.1 HI.out.2.1 HI.out.2.2.1 HI.out.2.2.2 hva2 N (by have := HB.out; have := HV.out; omega)
 have HRUN := Lib.hid hrun
 have F := Lib.hid (show TurnedPost w (.slice va n vc) 1 (n + (k + 1)) (xs ++ bc (padB s k)) (.returned v3) w3 from by
  obtain ⟨hv1, ho1, hb1⟩ := HV1.out
  obtain ⟨hv2, ho2, hb2⟩ := HV2.out
  obtain ⟨h1, h2, h3, h4⟩ := HB.out
  have e : xs ++ bc (padB s k) = xs ++ [.int .u8 (m : Int)] ++ byteCells s ++ List.replicate N (.int .u8 0) := by
   unfold padB
   rw [bc_append, txt_cells, h1, h4]
   simp [bc]
  have hz : (w.alloc (.cells #[.int .u8 (m : Int)] 5)).heap.size = w.heap.size + 1 := by simp
  have oo1 : Only (fun k => (Value.slice va n vc).ownBlock = some k) w w1 := (Only.alloc (Only.refl _ _) _).trans ho1
  have b1 : (Value.slice a1 (n + 1) c1).ownBlock = (Value.slice va n vc).ownBlock ∨ ∃ g, (Value.slice a1 (n + 1) c1).ownBlock = some g ∧ w.heap.size ≤ g ∧ g < w1.heap.size := hb1.imp id fun ⟨g, k1, k2, k3⟩ => ⟨g, k1, by omega, k3⟩
  have oo2 := only_own oo1 b1 ho2
  have b2 := own_step b1 hb2 (by have := ho1.size; omega) ho2.size
  have b3 : v3.ownBlock = (Value.slice (some ⟨g2, o2, none⟩) (n + 1 + m) c2).ownBlock ∨ ∃ g, v3.ownBlock = some g ∧ w2.heap.size ≤ g ∧ g < w3.heap.size := hb3
  have o3 : Only (fun k => (Value.slice (some ⟨g2, o2, none⟩) (n + 1 + m) c2).ownBlock = some k) w2 w3 := ho3.mono fun b e => by rw [e]; rfl
  refine ⟨v3, rfl, ?_, only_own oo2 b2 o3, own_step b2 b3 (by have := ho1.size; have := ho2.size; omega) ho3.size⟩
  rw [e, show n + (k + 1) = n + 1 + m + N by omega]
  exact hv3)
 clear HV1 HV2 HV HSR HI hva2 hv3 ho3 hb3 hrun
 go_wp2_with (refine wpList_append_given (by rfl) _ _ 22 3 rfl (.slice (some ⟨g2, o2, none⟩) (n + 1 + m) c2) (.int .i64 (N : Nat)) rfl rfl v3 w3 HRUN.out ?_)
 go_ret
 exact F.out
end Go.Proofs.YtlcfoeikamkpmaaGreat

namespace Go.Proofs.YtlcfoeikamkpmaaGreat
open Go.RowKit Go.Wh Go.Maps

def rowMay (k s v : ByteArray) : Bool := decide (0 < k.size) && decide (k.size ≤ 8) && decide (s.size ≤ 6) && decide (v.size ≤ 8)
theorem kempty (k : ByteArray) : (k.toList = []) ↔ k.size = 0 := by
 rw [ByteArray.toList_eq]
 constructor
 · intro h
   have := congrArg List.length h
   simpa using this
 · intro h
   refine List.eq_nil_of_length_eq_zero ?_
   simpa using h
theorem cmay_any (w : World) (k s v : ByteArray) :
 Calls Tryz.prog 171 #[.agg #[.string k, .string s, .string v]] w (StPost w (.bool (rowMay k s v))) := by
 go_enter Tryz.func171, Tryz.ntmps171
 go_wp2_with fail
 all_goals
  go_ret
  refine ⟨congrArg (fun b => Ending.returned (.bool b)) ?_, (Still.refl w).alloc _⟩
  have hk := kempty k
  have hk2 : k.toList.isEmpty = decide (k.size = 0) := by
   rw [Bool.eq_iff_iff, List.isEmpty_iff, hk, decide_eq_true_eq]
  simp only [hk] at *
  rw [Bool.eq_iff_iff]
  simp only [rowMay, hk2, Bool.and_eq_true, Bool.not_eq_true', decide_eq_true_eq, decide_eq_false_iff_not, Bool.false_eq_true]
  constructor <;> (intro hq; first | exact hq.elim | omega)
def CrPost (w : World) (k s v : ByteArray) (e : Ending) (w' : World) : Prop :=
 if rowMay k s v = true then ∃ v', e = .returned (.tuple #[v', .int .i64 0]) ∧ Vec w' 1 v' 26 (bc (rowB k s v)) ∧ Still w w' ∧ ∀ g, v'.ownBlock = some g → w.heap.size ≤ g ∧ g < w'.heap.size
 else e = .returned (.tuple #[.slice none 0 0, .int .i64 1]) ∧ Still w w'
set_option maxHeartbeats 1000000 in
set_option maxRecDepth 100000 in
theorem crow_any (w : World) (k s v : ByteArray) :
 Calls Tryz.prog 145 #[.agg #[.string k, .string s, .string v]] w (CrPost w k s v) := by
 have HM := Lib.hid (fun w => cmay_any w k s v)
 have HC := Lib.hid (fun tt => cellsAt_new w [.string k, .string s, .string v] tt)
 have HS1 := Lib.hid (fun tt => show Still w (w.alloc (.cells #[.string k, .string s, .string v] tt)) from (Still.refl w).alloc _)
 go_enter Tryz.func145, Tryz.ntmps145
 go_upto_region 1 with fail
 have hc := HC.out 60
 have hs1 := HS1.out 60
 clear HC HS1
 change cellsAt (w.alloc (.cells #[.string k, .string s, .string v] 60)) w.heap.size _ at hc
 generalize (w.alloc (.cells #[.string k, .string s, .string v] 60)) = w1 at *
 obtain ⟨b, hb⟩ : ∃ b, w.heap.size = b := ⟨_, rfl⟩
 rw [hb] at hc
 rw [hb]
 have SS := Lib.hid (fun w' (hs : Still w1 w') => show w'.cell? ⟨b, 0, none⟩ = some (.string k) ∧ w'.cell? ⟨b, 1, none⟩ = some (.string s) ∧ w'.cell? ⟨b, 2, none⟩ = some (.string v) from ⟨(hc.only hs fun e => e).cell 0, (hc.only hs fun e => e).cell 1, (hc.only hs fun e => e).cell 2⟩)
 obtain ⟨k0, k1, k2⟩ := SS.out w1 (Still.refl _)
 have H1 := Lib.hid (And.intro hs1 (And.intro hc hb))
 clear hs1 hc hb
 cases hm : rowMay k s v with
 | false =>
  have F := Lib.hid (show ∀ w', Still w w' → CrPost w k s v (.returned (.tuple #[.slice none 0 0, .int .i64 1])) w' from fun w' hs => by
   unfold CrPost
   rw [if_neg (by rw [hm]; decide)]
   exact ⟨rfl, hs⟩)
  rw [hm] at HM
  clear hm
  go_wp2_with fail
  refine (HM.out _).mono ?_
  rintro e w2 ⟨rfl, hs2⟩
  have F2 := Lib.hid (F.out w2 (H1.out.1.trans hs2))
  clear hs2 F
  go_wp2_with fail
  go_ret2
  exact F2.out
 | true =>
  rw [hm] at HM
  go_upto_region 2 with fail
  refine (HM.out _).mono ?_
  rintro e w2 ⟨rfl, hs2⟩
  have H2 := Lib.hid hs2
  clear hs2
  go_upto_region 3 with fail
  obtain ⟨B, hB⟩ : ∃ B, w2.heap.size = B := ⟨_, rfl⟩
  have HB := Lib.hid hB
  have hw1 := cellsAt_new w2 [.int .u8 1] 5
  rw [hB] at hw1
  have hm' := hm
  unfold rowMay at hm'
  simp only [Bool.and_eq_true, decide_eq_true_eq] at hm'
  have HT1 := Lib.hid (show Calls Tryz.prog 172 #[.slice (some ⟨B, 0, none⟩) 1 1, .string k, .int .i64 8] (w2.alloc (.cells #[.int .u8 1] 5)).drew (TurnedPost _ (.slice (some ⟨B, 0, none⟩) 1 1) 1 10 (bc (1 :: padB k 8))) from
   ctext_any _ (.slice (some ⟨B, 0, none⟩) 1 1) 1 [.int .u8 1] (Vec.drew (by
    obtain ⟨t, h⟩ := hw1
    exact vec_block (size := 1) (n := 1) h rfl (by decide))) (by decide) (by decide) k k.size 8 rfl hm'.1.1.2 (by decide))
  have HT2 := Lib.hid (fun v1 w4 (hv : Vec w4 1 v1 10 (bc (1 :: padB k 8))) => show Calls Tryz.prog 172 #[v1, .string s, .int .i64 6] w4 (TurnedPost w4 v1 1 17 (bc (1 :: padB k 8) ++ bc (padB s 6))) from
   ctext_any w4 v1 10 _ hv (by decide) (by decide) s s.size 6 rfl hm'.1.2 (by decide))
  have HT3 := Lib.hid (fun v1 w4 (hv : Vec w4 1 v1 17 (bc (1 :: padB k 8) ++ bc (padB s 6))) => show Calls Tryz.prog 172 #[v1, .string v, .int .i64 8] w4 (TurnedPost w4 v1 1 26 (bc (1 :: padB k 8) ++ bc (padB s 6) ++ bc (padB v 8))) from
   ctext_any w4 v1 17 _ hv (by decide) (by decide) v v.size 8 rfl hm'.2 (by decide))
  have HM' := Lib.hid hm
  have HB1 := Lib.hid (show ∀ g, (Value.slice (some ⟨B, 0, none⟩) 1 1).ownBlock = some g → w2.heap.size ≤ g ∧ g < (w2.alloc (.cells #[.int .u8 1] 5)).drew.heap.size from fun g hg => by
   have e : B = g := Option.some.inj hg
   have := hw1.lt
   rw [← e]
   exact ⟨Nat.le_of_eq HB.out, this⟩)
  have HSA := Lib.hid (show Still w2 (w2.alloc (.cells #[.int .u8 1] 5)).drew from (((Still.refl w2).alloc _).drew))
  clear hw1 hm hm' HM
  go_region_held3 (fun w' => w'.cell? ⟨b, 0, none⟩ = some (.string k) ∧ w'.cell? ⟨b, 1, none⟩ = some (.string s) ∧ w'.cell? ⟨b, 2, none⟩ = some (.string v)) (first | exact SS.out _ (H2.out.drew) | exact SS.out _ (by assumption) | exact SS.out _ (H2.out.drew.alloc _)) (first
   | (go_at_call 172; (with_reducible refine HT1.out.mono ?_); rintro e w4 ⟨v4, rfl, hv4, ho4, hb4⟩; obtain ⟨s4, f4⟩ := append_fresh HSA.out HB1.out ho4 hb4; have K4 := Lib.hid (And.intro hv4 (And.intro s4 f4)); have t4 := H2.out.trans s4; clear hv4 ho4 hb4 s4 f4)
   | (go_at_call 172; (with_reducible refine (HT2.out _ _ K4.out.1).mono ?_); rintro e w5 ⟨v5, rfl, hv5, ho5, hb5⟩; obtain ⟨s5, f5⟩ := append_fresh K4.out.2.1 K4.out.2.2 ho5 hb5; have K5 := Lib.hid (And.intro hv5 (And.intro s5 f5)); have t5 := H2.out.trans s5; clear hv5 ho5 hb5 s5 f5)
   | (go_at_call 172; (with_reducible refine (HT3.out _ _ K5.out.1).mono ?_); rintro e w6 ⟨v6, rfl, hv6, ho6, hb6⟩; obtain ⟨s6, f6⟩ := append_fresh K5.out.2.1 K5.out.2.2 ho6 hb6; have K6 := Lib.hid (And.intro hv6 (And.intro s6 f6)); have t6 := H2.out.trans s6; clear hv6 ho6 hb6 s6 f6))
  have F := Lib.hid (show CrPost w k s v (.returned (.tuple #[v6, .int .i64 0])) w6 from by
   unfold CrPost
   rw [if_pos HM'.out]
   have z1 := H1.out.1.size
   have z2 := H2.out.size
   refine ⟨v6, rfl, ?_, (H1.out.1.trans H2.out).trans K6.out.2.1, fun g hg => by have := K6.out.2.2 g hg; omega⟩
   have := K6.out.1
   rw [← bc_append, ← bc_append] at this
   exact this)
  clear t4 t5 t6
  go_wp2_with fail
  go_ret2
  exact F.out
end Go.Proofs.YtlcfoeikamkpmaaGreat

/- The document's 'may' of an entry: the walk. Conditions: it lies in memory. The document's reader of entries: words. No conditions. -/
import Derived.Test.YtojkggppcmdepaaGreatQa15
namespace Go.Proofs.YtojkggppcmdepaaGreat
open Go.RowKit Go.Wh Go.Maps

theorem lvMay_of {x : PLv} (h1 : fit1 1 x.txn = true) (h2 : fit1 3 x.last = true) (h3 : fit1 3 x.next = true) : lvMay x = true := by
 unfold lvMay
 simp [fitsB_all, h1, h2, h3]
theorem lvMay_no {x : PLv} (h : fit1 1 x.txn = false ∨ fit1 3 x.last = false ∨ fit1 3 x.next = false) : lvMay x = false := by
 unfold lvMay
 rcases h with h | h | h <;> simp [fitsB_all, h]
theorem dtMay_of {x : PDt} (h1 : fit1 1 x.page = true) (h2 : fit1 3 x.rc = true) : dtMay x = true := by
 unfold dtMay
 simp [fitsB_all, h1, h2]
theorem dtMay_no {x : PDt} (h : fit1 1 x.page = false ∨ fit1 3 x.rc = false) : dtMay x = false := by
 unfold dtMay
 rcases h with h | h <;> simp [fitsB_all, h]
theorem opMay_of {x : POp} (h1 : fit1 2 x.unit = true) (h2 : fit1 1 x.done = true) (h3 : eachB mvMay x.moves = true) : opMay x = true := by
 unfold opMay
 simp [fitsB_all, h1, h2, h3]
theorem opMay_no {x : POp} (h : fit1 2 x.unit = false ∨ fit1 1 x.done = false ∨ eachB mvMay x.moves = false) : opMay x = false := by
 unfold opMay
 rcases h with h | h | h <;> simp [fitsB_all, h]
theorem all_no {α : Type} {p : α → Bool} {l : List α} {k : Nat} {x : α} (hx : l[k]? = some x) (h : p x = false) : ¬ l.all p = true := by
 rw [List.all_eq_true]
 intro ha
 rw [ha x (List.mem_of_getElem? hx)] at h
 cases h
def RmMid (w : World) (cs : List Value) (old new : List Int) (moves : List PMv) (nl nd np : Nat) (s : Value) (wc : World) : Prop :=
 ∃ q : Bool, s = .bool q ∧ (q = true → ¬ (imgB old = true ∧ imgB new = true ∧ eachB mvMay moves = true ∧ nl ≤ 40 ∧ nd ≤ 40 ∧ np ≤ 40)) ∧ (q = false → imgB old = true ∧ imgB new = true ∧ eachB mvMay moves = true ∧ nl ≤ 40 ∧ nd ≤ 40 ∧ np ≤ 40) ∧ Still w wc ∧ cellsAt wc w.heap.size cs
set_option maxHeartbeats 20000000 in
set_option maxRecDepth 100000 in
theorem rmay_head (w : World) (Q : Nat → Prop) (kind txn unit half prev next ap ac tp tc : Int) (old new : List Int) (moves : List PMv) (lives : List PLv) (dirty : List PDt) (opens : List POp) (oa na ma la da pa : Option Addr) (ol oc nl nc ml mc ll lc dl dc pl pc : Nat)
 (h1 : Sl w Q 1 (.slice oa ol oc) ol (bc old)) (h2 : Sl w Q 1 (.slice na nl nc) nl (bc new)) (h3 : Sl w Q 4 (.slice ma ml mc) ml (moves.flatMap mvC)) (k3 : moves.length = ml) (h4 : Sl w Q 4 (.slice la ll lc) ll (lives.flatMap lvC)) (k4 : lives.length = ll) (h5 : Sl w Q 2 (.slice da dl dc) dl (dirty.flatMap dtC)) (k5 : dirty.length = dl) (h6 : OpSl w Q (.slice pa pl pc) pl opens) (k6 : opens.length = pl) (r : Bool) (hr : r = true ↔ MayC kind txn unit half prev next ap ac tp tc old new moves lives dirty opens) :
 Calls Tryz.prog 54 #[.agg #[.int .i64 kind, .int .i64 txn, .int .i64 unit, .int .i64 half, .int .i64 prev, .int .i64 next, .int .i64 ap, .int .i64 ac, .int .i64 tp, .int .i64 tc, .slice oa ol oc, .slice na nl nc, .slice ma ml mc, .slice la ll lc, .slice da dl dc, .slice pa pl pc]] w (StPost w (.bool r)) := by
 have hst : Still w (w.alloc (.cells #[.int .i64 kind, .int .i64 txn, .int .i64 unit, .int .i64 half, .int .i64 prev, .int .i64 next, .int .i64 ap, .int .i64 ac, .int .i64 tp, .int .i64 tc, .slice oa ol oc, .slice na nl nc, .slice ma ml mc, .slice la ll lc, .slice da dl dc, .slice pa pl pc] 34)) := (Still.refl w).alloc _
 have hbx := cellsAt_new w [.int .i64 kind, .int .i64 txn, .int .i64 unit, .int .i64 half, .int .i64 prev, .int .i64 next, .int .i64 ap, .int .i64 ac, .int .i64 tp, .int .i64 tc, .slice oa ol oc, .slice na nl nc, .slice ma ml mc, .slice la ll lc, .slice da dl dc, .slice pa pl pc] 34
 have HK := Lib.hid (fun w' (hs : Still (w.alloc (.cells #[.int .i64 kind, .int .i64 txn, .int .i64 unit, .int .i64 half, .int .i64 prev, .int .i64 next, .int .i64 ap, .int .i64 ac, .int .i64 tp, .int .i64 tc, .slice oa ol oc, .slice na nl nc, .slice ma ml mc, .slice la ll lc, .slice da dl dc, .slice pa pl pc] 34)) w') => show Still w w' ∧ cellsAt w' w.heap.size [.int .i64 kind, .int .i64 txn, .int .i64 unit, .int .i64 half, .int .i64 prev, .int .i64 next, .int .i64 ap, .int .i64 ac, .int .i64 tp, .int .i64 tc, .slice oa ol oc, .slice na nl nc, .slice ma ml mc, .slice la ll lc, .slice da dl dc, .slice pa pl pc] from ⟨hst.trans hs, hbx.only hs fun e => e⟩)
 have HS0 := Lib.hid hst
 have HB := Lib.hid (And.intro h1 (And.intro h2 (And.intro h3 (And.intro k3 (And.intro h4 (And.intro k4 (And.intro h5 (And.intro k5 (And.intro h6 k6)))))))))
 have HN := Lib.hid (show ¬ MayC kind txn unit half prev next ap ac tp tc old new moves lives dirty opens → r = false from fun h => by
  cases r
  · rfl
  · exact absurd (hr.1 rfl) h)
 have HR := Lib.hid hr
 clear h1 h2 h3 h4 h5 h6 k3 k4 k5 k6 hst hbx hr
 by_cases g1 : 1 ≤ kind
 rotate_left
 · have d1 : decide (kind < 1) = true := decide_eq_true (by omega)
   rw [HN.out fun h => g1 h.k1]
   clear g1
   go_enter Tryz.func54, Tryz.ntmps54
   go_wp2_with fail
   go_ret
   exact ⟨rfl, HS0.out⟩
 have d1 : decide (kind < 1) = false := decide_eq_false (by omega)
 by_cases g2 : kind ≤ 10
 rotate_left
 · have d2 : decide (10 < kind) = true := decide_eq_true (by omega)
   rw [HN.out fun h => g2 h.k2]
   clear g1 g2
   go_enter Tryz.func54, Tryz.ntmps54
   go_wp2_with fail
   go_ret
   exact ⟨rfl, HS0.out⟩
 have d2 : decide (10 < kind) = false := decide_eq_false (by omega)
 have HG := Lib.hid (And.intro g1 g2)
 clear g1 g2
 go_enter Tryz.func54, Tryz.ntmps54
 go_wp2_with fail
 have HT0 := Lib.hid (HK.out _ (Still.refl _))
 have HKK := Lib.hid (fun w1 w' (h : Still w w1 ∧ cellsAt w1 w.heap.size [.int .i64 kind, .int .i64 txn, .int .i64 unit, .int .i64 half, .int .i64 prev, .int .i64 next, .int .i64 ap, .int .i64 ac, .int .i64 tp, .int .i64 tc, .slice oa ol oc, .slice na nl nc, .slice ma ml mc, .slice la ll lc, .slice da dl dc, .slice pa pl pc]) (hs : Still w1 w') => show Still w w' ∧ cellsAt w' w.heap.size [.int .i64 kind, .int .i64 txn, .int .i64 unit, .int .i64 half, .int .i64 prev, .int .i64 next, .int .i64 ap, .int .i64 ac, .int .i64 tp, .int .i64 tc, .slice oa ol oc, .slice na nl nc, .slice ma ml mc, .slice la ll lc, .slice da dl dc, .slice pa pl pc] from ⟨h.1.trans hs, h.2.only hs fun e => by omega⟩)
 generalize w.alloc (.cells #[.int .i64 kind, .int .i64 txn, .int .i64 unit, .int .i64 half, .int .i64 prev, .int .i64 next, .int .i64 ap, .int .i64 ac, .int .i64 tp, .int .i64 tc, .slice oa ol oc, .slice na nl nc, .slice ma ml mc, .slice la ll lc, .slice da dl dc, .slice pa pl pc] 34) = w0 at *
 refine (rfits1 _ txn).mono ?_
 rintro e w1 ⟨rfl, rfl⟩
 have HT1 := HT0
 obtain ⟨q, hq⟩ : ∃ q, fit1 1 txn = q := ⟨_, rfl⟩
 rw [hq]
 have HQ1 := Lib.hid hq
 clear hq
 cases q
 · have F := Lib.hid (show StPost w (.bool r) (.returned (.bool false)) _ from ⟨by rw [HN.out fun h => absurd (h.f1.symm.trans HQ1.out) (by simp)], HT1.out.1⟩)
   go_wp2_with fail
   go_ret
   exact F.out
 have c2 : World.cell? _ ⟨w.heap.size, 2, none⟩ = some (.int .i64 unit) := HT1.out.2.cell 2
 go_wp2_with fail
 refine (rfits2 _ unit).mono ?_
 rintro e w2 ⟨rfl, rfl⟩
 have HT2 := HT1
 obtain ⟨q, hq⟩ : ∃ q, fit1 2 unit = q := ⟨_, rfl⟩
 rw [hq]
 have HQ2 := Lib.hid hq
 clear hq
 cases q
 · have F := Lib.hid (show StPost w (.bool r) (.returned (.bool false)) _ from ⟨by rw [HN.out fun h => absurd (h.f2.symm.trans HQ2.out) (by simp)], HT2.out.1⟩)
   go_wp2_with fail
   go_ret
   exact F.out
 have c3 : World.cell? _ ⟨w.heap.size, 3, none⟩ = some (.int .i64 half) := HT2.out.2.cell 3
 go_wp2_with fail
 refine (rfits1 _ half).mono ?_
 rintro e w3 ⟨rfl, rfl⟩
 have HT3 := HT2
 obtain ⟨q, hq⟩ : ∃ q, fit1 1 half = q := ⟨_, rfl⟩
 rw [hq]
 have HQ3 := Lib.hid hq
 clear hq
 cases q
 · have F := Lib.hid (show StPost w (.bool r) (.returned (.bool false)) _ from ⟨by rw [HN.out fun h => absurd (h.f3.symm.trans HQ3.out) (by simp)], HT3.out.1⟩)
   go_wp2_with fail
   go_ret
   exact F.out
 have c4 : World.cell? _ ⟨w.heap.size, 4, none⟩ = some (.int .i64 prev) := HT3.out.2.cell 4
 go_wp2_with fail
 refine (rfits3 _ prev).mono ?_
 rintro e w4 ⟨rfl, rfl⟩
 have HT4 := HT3
 obtain ⟨q, hq⟩ : ∃ q, fit1 3 prev = q := ⟨_, rfl⟩
 rw [hq]
 have HQ4 := Lib.hid hq
 clear hq
 cases q
 · have F := Lib.hid (show StPost w (.bool r) (.returned (.bool false)) _ from ⟨by rw [HN.out fun h => absurd (h.f4.symm.trans HQ4.out) (by simp)], HT4.out.1⟩)
   go_wp2_with fail
   go_ret
   exact F.out
 have c5 : World.cell? _ ⟨w.heap.size, 5, none⟩ = some (.int .i64 next) := HT4.out.2.cell 5
 go_wp2_with fail
 refine (rfits3 _ next).mono ?_
 rintro e w5 ⟨rfl, rfl⟩
 have HT5 := HT4
 obtain ⟨q, hq⟩ : ∃ q, fit1 3 next = q := ⟨_, rfl⟩
 rw [hq]
 have HQ5 := Lib.hid hq
 clear hq
 cases q
 · have F := Lib.hid (show StPost w (.bool r) (.returned (.bool false)) _ from ⟨by rw [HN.out fun h => absurd (h.f5.symm.trans HQ5.out) (by simp)], HT5.out.1⟩)
   go_wp2_with fail
   go_ret
   exact F.out
 have c6 : World.cell? _ ⟨w.heap.size, 6, none⟩ = some (.int .i64 ap) := HT5.out.2.cell 6
 have c7 : World.cell? _ ⟨w.heap.size, 7, none⟩ = some (.int .i64 ac) := HT5.out.2.cell 7
 go_wp2_with fail
 refine (rfitsRID _ ap ac).mono ?_
 rintro e w6 ⟨rfl, hs⟩
 have HT6 := Lib.hid (HKK.out _ _ HT5.out hs)
 clear hs
 obtain ⟨q, hq⟩ : ∃ q, fitsB 1 [ap, ac] = q := ⟨_, rfl⟩
 rw [hq]
 have HQ6 := Lib.hid hq
 clear hq
 cases q
 · have F := Lib.hid (show StPost w (.bool r) (.returned (.bool false)) _ from ⟨by rw [HN.out fun h => absurd (h.f6.symm.trans HQ6.out) (by simp)], HT6.out.1⟩)
   go_wp2_with fail
   go_ret
   exact F.out
 have c8 : World.cell? _ ⟨w.heap.size, 8, none⟩ = some (.int .i64 tp) := HT6.out.2.cell 8
 have c9 : World.cell? _ ⟨w.heap.size, 9, none⟩ = some (.int .i64 tc) := HT6.out.2.cell 9
 go_wp2_with fail
 refine (rfitsRID _ tp tc).mono ?_
 rintro e w7 ⟨rfl, hs⟩
 have HT7 := Lib.hid (HKK.out _ _ HT6.out hs)
 clear hs
 obtain ⟨q, hq⟩ : ∃ q, fitsB 1 [tp, tc] = q := ⟨_, rfl⟩
 rw [hq]
 have HQ7 := Lib.hid hq
 clear hq
 cases q
 · have F := Lib.hid (show StPost w (.bool r) (.returned (.bool false)) _ from ⟨by rw [HN.out fun h => absurd (h.f7.symm.trans HQ7.out) (by simp)], HT7.out.1⟩)
   go_wp2_with fail
   go_ret
   exact F.out
 have HQS := Lib.hid (And.intro HQ1.out (And.intro HQ2.out (And.intro HQ3.out (And.intro HQ4.out (And.intro HQ5.out (And.intro HQ6.out HQ7.out))))))
 have HL := Lib.hid (show old.length = ol ∧ new.length = nl from by
  have a3 := HB.out.1.1
  have a4 := HB.out.2.1.1
  rw [bc_length] at a3 a4
  omega)
 go_upto_region 3 with fail
 go_cut [101] (fun s wc => RmMid w [.int .i64 kind, .int .i64 txn, .int .i64 unit, .int .i64 half, .int .i64 prev, .int .i64 next, .int .i64 ap, .int .i64 ac, .int .i64 tp, .int .i64 tc, .slice oa ol oc, .slice na nl nc, .slice ma ml mc, .slice la ll lc, .slice da dl dc, .slice pa pl pc] old new moves lives.length dirty.length opens.length s wc)
 case first =>
  have HT7 := HT7
  have c10 : w7.cell? ⟨w.heap.size, 10, none⟩ = some (.slice oa ol oc) := HT7.out.2.cell 10
  have c11 : w7.cell? ⟨w.heap.size, 11, none⟩ = some (.slice na nl nc) := HT7.out.2.cell 11
  have c12 : w7.cell? ⟨w.heap.size, 12, none⟩ = some (.slice ma ml mc) := HT7.out.2.cell 12
  clear HR HN
  obtain ⟨x1, o1⟩ : ∃ q, ((ol : Int) != 0) = q := ⟨_, rfl⟩
  obtain ⟨x2, o2⟩ : ∃ q, ((ol : Int) != 26) = q := ⟨_, rfl⟩
  obtain ⟨y1, n1⟩ : ∃ q, ((nl : Int) != 0) = q := ⟨_, rfl⟩
  obtain ⟨y2, n2⟩ : ∃ q, ((nl : Int) != 26) = q := ⟨_, rfl⟩
  have o3 : (ol != 0) = x1 := by rw [← o1, Bool.eq_iff_iff]; simp
  have o4 : (ol != 26) = x2 := by rw [← o2, Bool.eq_iff_iff]; simp; omega
  have n3 : (nl != 0) = y1 := by rw [← n1, Bool.eq_iff_iff]; simp
  have n4 : (nl != 26) = y2 := by rw [← n2, Bool.eq_iff_iff]; simp; omega
  have HXY := Lib.hid (show (imgB old = (!x1 || !x2)) ∧ imgB new = (!y1 || !y2) from by
   have a3 := HL.out
   unfold imgB
   rw [a3.1, a3.2, ← o3, ← o4, ← n3, ← n4]
   constructor <;> · rw [Bool.eq_iff_iff]; simp)
  by_cases hx : (x1 && x2) = true
  · rw [Bool.and_eq_true] at hx
    obtain ⟨rfl, rfl⟩ := hx
    have F := Lib.hid (show RmMid w [.int .i64 kind, .int .i64 txn, .int .i64 unit, .int .i64 half, .int .i64 prev, .int .i64 next, .int .i64 ap, .int .i64 ac, .int .i64 tp, .int .i64 tc, .slice oa ol oc, .slice na nl nc, .slice ma ml mc, .slice la ll lc, .slice da dl dc, .slice pa pl pc] old new moves lives.length dirty.length opens.length (.bool true) w7 from ⟨true, rfl, fun _ h => by (have h1 := h.1; rw [HXY.out.1] at h1; cases h1), fun e => by (cases e), HT7.out.1, HT7.out.2⟩)
    go_wp2_with fail
    go_meet
    case rel => exact F.out
  by_cases hy : (y1 && y2) = true
  · rw [Bool.and_eq_true] at hy
    obtain ⟨rfl, rfl⟩ := hy
    have F := Lib.hid (show RmMid w [.int .i64 kind, .int .i64 txn, .int .i64 unit, .int .i64 half, .int .i64 prev, .int .i64 next, .int .i64 ap, .int .i64 ac, .int .i64 tp, .int .i64 tc, .slice oa ol oc, .slice na nl nc, .slice ma ml mc, .slice la ll lc, .slice da dl dc, .slice pa pl pc] old new moves lives.length dirty.length opens.length (.bool true) w7 from ⟨true, rfl, fun _ h => by (have h1 := h.2.1; rw [HXY.out.2] at h1; cases h1), fun e => by (cases e), HT7.out.1, HT7.out.2⟩)
    have HHX := Lib.hid hx
    clear hx
    cases x1
    · go_wp2_with fail
      go_meet
      case rel => exact F.out
    · cases x2
      · go_wp2_with fail
        go_meet
        case rel => exact F.out
      · exact absurd rfl HHX.out
  have HIM := Lib.hid (show imgB old = true ∧ imgB new = true from by
   rw [HXY.out.1, HXY.out.2]
   cases x1 <;> cases x2 <;> cases y1 <;> cases y2 <;> simp at hx hy ⊢)
  have HHX := Lib.hid (And.intro hx hy)
  clear hx hy
  cases x1 <;> cases y1
  all_goals
   cases x2 <;> cases y2
  all_goals first
   | exact absurd rfl HHX.out.1
   | exact absurd rfl HHX.out.2
   | (exfalso; simp at o1 o2; omega)
   | (exfalso; simp at n1 n2; omega)
   | skip
  all_goals
   go_wp2_with fail
  all_goals
   refine (rfitsMoves (Q := Q) _ _ ml moves (HB.out.2.2.1.still HT7.out.1) HB.out.2.2.2.1).mono ?_
   rintro e w8 ⟨rfl, hs⟩
   have HT8 := Lib.hid (HKK.out _ _ HT7.out hs)
   clear hs c10 c11 c12
   obtain ⟨q, hq⟩ : ∃ q, eachB mvMay moves = q := ⟨_, rfl⟩
   rw [hq]
   have HQ8 := Lib.hid hq
   clear hq
   have c13 : w8.cell? ⟨w.heap.size, 13, none⟩ = some (.slice la ll lc) := HT8.out.2.cell 13
   have c14 : w8.cell? ⟨w.heap.size, 14, none⟩ = some (.slice da dl dc) := HT8.out.2.cell 14
   have c15 : w8.cell? ⟨w.heap.size, 15, none⟩ = some (.slice pa pl pc) := HT8.out.2.cell 15
  all_goals
   cases q
   · have F := Lib.hid (show RmMid w [.int .i64 kind, .int .i64 txn, .int .i64 unit, .int .i64 half, .int .i64 prev, .int .i64 next, .int .i64 ap, .int .i64 ac, .int .i64 tp, .int .i64 tc, .slice oa ol oc, .slice na nl nc, .slice ma ml mc, .slice la ll lc, .slice da dl dc, .slice pa pl pc] old new moves lives.length dirty.length opens.length (.bool true) w8 from ⟨true, rfl, fun _ h => absurd (h.2.2.1.symm.trans HQ8.out) (by simp), fun e => by (cases e), HT8.out.1, HT8.out.2⟩)
     go_wp2_with fail
     go_meet
     case rel => exact F.out
  all_goals
   by_cases g3 : ll ≤ 40
   rotate_left
   · have b1 : decide ((40 : Int) < (ll : Int)) = true := decide_eq_true (by omega)
     have b2 : decide (40 < ll) = true := decide_eq_true (by omega)
     have F := Lib.hid (show RmMid w [.int .i64 kind, .int .i64 txn, .int .i64 unit, .int .i64 half, .int .i64 prev, .int .i64 next, .int .i64 ap, .int .i64 ac, .int .i64 tp, .int .i64 tc, .slice oa ol oc, .slice na nl nc, .slice ma ml mc, .slice la ll lc, .slice da dl dc, .slice pa pl pc] old new moves lives.length dirty.length opens.length (.bool true) w8 from ⟨true, rfl, fun _ h => by have := h.2.2.2.1; have := HB.out.2.2.2.2.2.1; omega, fun e => by (cases e), HT8.out.1, HT8.out.2⟩)
     clear g3
     go_wp2_with fail
     go_meet
     case rel => exact F.out
   have b31 : decide ((40 : Int) < (ll : Int)) = false := decide_eq_false (by omega)
   have b32 : decide (40 < ll) = false := decide_eq_false (by omega)
   have HG3 := Lib.hid g3
   clear g3
  all_goals
   by_cases g4 : dl ≤ 40
   rotate_left
   · have b1 : decide ((40 : Int) < (dl : Int)) = true := decide_eq_true (by omega)
     have b2 : decide (40 < dl) = true := decide_eq_true (by omega)
     have F := Lib.hid (show RmMid w [.int .i64 kind, .int .i64 txn, .int .i64 unit, .int .i64 half, .int .i64 prev, .int .i64 next, .int .i64 ap, .int .i64 ac, .int .i64 tp, .int .i64 tc, .slice oa ol oc, .slice na nl nc, .slice ma ml mc, .slice la ll lc, .slice da dl dc, .slice pa pl pc] old new moves lives.length dirty.length opens.length (.bool true) w8 from ⟨true, rfl, fun _ h => by have := h.2.2.2.2.1; have := HB.out.2.2.2.2.2.2.2.1; omega, fun e => by (cases e), HT8.out.1, HT8.out.2⟩)
     clear g4
     go_wp2_with fail
     go_meet
     case rel => exact F.out
   have b41 : decide ((40 : Int) < (dl : Int)) = false := decide_eq_false (by omega)
   have b42 : decide (40 < dl) = false := decide_eq_false (by omega)
   have HG4 := Lib.hid g4
   clear g4
  all_goals
   by_cases g5 : pl ≤ 40
   rotate_left
   · have b1 : decide ((40 : Int) < (pl : Int)) = true := decide_eq_true (by omega)
     have b2 : decide (40 < pl) = true := decide_eq_true (by omega)
     have F := Lib.hid (show RmMid w [.int .i64 kind, .int .i64 txn, .int .i64 unit, .int .i64 half, .int .i64 prev, .int .i64 next, .int .i64 ap, .int .i64 ac, .int .i64 tp, .int .i64 tc, .slice oa ol oc, .slice na nl nc, .slice ma ml mc, .slice la ll lc, .slice da dl dc, .slice pa pl pc] old new moves lives.length dirty.length opens.length (.bool true) w8 from ⟨true, rfl, fun _ h => by have := h.2.2.2.2.2; have := HB.out.2.2.2.2.2.2.2.2.2; omega, fun e => by (cases e), HT8.out.1, HT8.out.2⟩)
     clear g5
     go_wp2_with fail
     go_meet
     case rel => exact F.out
   have b51 : decide ((40 : Int) < (pl : Int)) = false := decide_eq_false (by omega)
   have b52 : decide (40 < pl) = false := decide_eq_false (by omega)
   have HG5 := Lib.hid g5
   clear g5
  all_goals
   have F := Lib.hid (show RmMid w [.int .i64 kind, .int .i64 txn, .int .i64 unit, .int .i64 half, .int .i64 prev, .int .i64 next, .int .i64 ap, .int .i64 ac, .int .i64 tp, .int .i64 tc, .slice oa ol oc, .slice na nl nc, .slice ma ml mc, .slice la ll lc, .slice da dl dc, .slice pa pl pc] old new moves lives.length dirty.length opens.length (.bool false) w8 from ⟨false, rfl, fun e => by (cases e), fun _ => ⟨HIM.out.1, HIM.out.2, HQ8.out, by have := HB.out.2.2.2.2.2.1; have := HG3.out; omega, by have := HB.out.2.2.2.2.2.2.2.1; have := HG4.out; omega, by have := HB.out.2.2.2.2.2.2.2.2.2; have := HG5.out; omega⟩, HT8.out.1, HT8.out.2⟩)
   go_wp2_with fail
   go_meet
   case rel => exact F.out
 case rest =>
  obtain ⟨q, rfl, hq1, hq2, hst, hce⟩ := hcut
  cases q with
  | true =>
   have F := Lib.hid (show StPost w (.bool r) (.returned (.bool false)) wc from ⟨by rw [HN.out fun h => hq1 rfl ⟨h.o, h.n, h.m, h.l, h.d, h.p⟩], hst⟩)
   clear hq1 hq2 hst hce
   go_wp2_with fail
   go_ret
   exact F.out
  | false =>
   have HM := Lib.hid (hq2 rfl)
   have HT8 := Lib.hid (And.intro hst hce)
   have c13 : wc.cell? ⟨w.heap.size, 13, none⟩ = some (.slice la ll lc) := HT8.out.2.cell 13
   clear hq1 hq2 hst hce
   go_wp2_with fail
   go_loopw [3] (fun s wr => ∃ k : Nat, s = .int .i64 k ∧ k ≤ ll ∧ (lives.take k).all lvMay = true ∧ Still w wr ∧ cellsAt wr w.heap.size [.int .i64 kind, .int .i64 txn, .int .i64 unit, .int .i64 half, .int .i64 prev, .int .i64 next, .int .i64 ap, .int .i64 ac, .int .i64 tp, .int .i64 tc, .slice oa ol oc, .slice na nl nc, .slice ma ml mc, .slice la ll lc, .slice da dl dc, .slice pa pl pc]) (fun s _ => ll - (intOf s).toNat)
   case atStart => exact ⟨0, rfl, Nat.zero_le _, rfl, HT8.out.1, HT8.out.2⟩
   obtain ⟨k, rfl, hk, hall, hst, hce⟩ := hrel
   clear c13
   have HW := Lib.hid (And.intro hst hce)
   have cb : wr.cell? ⟨w.heap.size, 13, none⟩ = some (.slice la ll lc) := hce.cell 13
   by_cases hi : k < ll
   · have b1 : decide ((k : Int) < (ll : Int)) = true := decide_eq_true (by omega)
     have b2 : decide (k < ll) = true := decide_eq_true hi
     have i0 : (0 : Int) ≤ (k : Int) := by omega
     have i1 : (k : Int) < (ll : Int) := by omega
     have u9 : IntKind.i64.wrap ((k : Int) + 1) = (k : Int) + 1 := IntWalk.i64_in _ (by have := HM.out.2.2.2; have := HB.out.2.2.2.2.2.1; omega)
     obtain ⟨x, hx⟩ : ∃ x, lives[k]? = some x := ⟨_, List.getElem?_eq_getElem (by have := HB.out.2.2.2.2.2.1; omega)⟩
     obtain ⟨g, o, c, hg, -, -, hcs⟩ := ((HB.out.2.2.2.2.1).still hst).pos (by omega)
     cases hg
     have hfc : ∀ j, j < 4 → (lives.flatMap lvC)[k * 4 + j]? = (lvC x)[j]? := fun j hj => flat_get (sz := 4) (fun _ => rfl) lives k j x hx hj
     have e0 : wr.cell? ⟨g, o + k * 4, none⟩ = some (.int .i64 x.txn) := hcs (k * 4) _ (hfc 0 (by omega))
     have e1 : wr.cell? ⟨g, o + k * 4 + 1, none⟩ = some (.int .i64 x.last) := by rw [Nat.add_assoc]; exact hcs (k * 4 + 1) _ (hfc 1 (by omega))
     have e2 : wr.cell? ⟨g, o + k * 4 + 2, none⟩ = some (.int .i64 x.next) := by rw [Nat.add_assoc]; exact hcs (k * 4 + 2) _ (hfc 2 (by omega))
     have HX := Lib.hid (And.intro hx (And.intro hall hi))
     clear hk hall hst hce hcs hfc hx hi
     go_wp2_with fail
     refine (rfits1 _ x.txn).mono ?_
     rintro e w9 ⟨rfl, rfl⟩
     have HW9 := HW
     obtain ⟨q0, hq⟩ : ∃ q, fit1 1 x.txn = q := ⟨_, rfl⟩
     rw [hq]
     have HC0 := Lib.hid hq
     clear hq
     cases q0
     · have F := Lib.hid (show StPost w (.bool r) (.returned (.bool false)) _ from ⟨by rw [HN.out fun h => all_no HX.out.1 (lvMay_no (.inl HC0.out)) h.la], HW9.out.1⟩)
       go_wp2_with fail
       go_ret
       exact F.out
     go_wp2_with fail
     refine (rfits3 _ x.last).mono ?_
     rintro e w9 ⟨rfl, rfl⟩
     have HW9 := HW
     obtain ⟨q1, hq⟩ : ∃ q, fit1 3 x.last = q := ⟨_, rfl⟩
     rw [hq]
     have HC1 := Lib.hid hq
     clear hq
     cases q1
     · have F := Lib.hid (show StPost w (.bool r) (.returned (.bool false)) _ from ⟨by rw [HN.out fun h => all_no HX.out.1 (lvMay_no (.inr (.inl HC1.out))) h.la], HW9.out.1⟩)
       go_wp2_with fail
       go_ret
       exact F.out
     go_wp2_with fail
     refine (rfits3 _ x.next).mono ?_
     rintro e w9 ⟨rfl, rfl⟩
     have HW9 := HW
     obtain ⟨q2, hq⟩ : ∃ q, fit1 3 x.next = q := ⟨_, rfl⟩
     rw [hq]
     have HC2 := Lib.hid hq
     clear hq
     cases q2
     · have F := Lib.hid (show StPost w (.bool r) (.returned (.bool false)) _ from ⟨by rw [HN.out fun h => all_no HX.out.1 (lvMay_no (.inr (.inr HC2.out))) h.la], HW9.out.1⟩)
       go_wp2_with fail
       go_ret
       exact F.out
     have HAM := Lib.hid (all_more HX.out.1 (lvMay_of HC0.out HC1.out HC2.out) HX.out.2.1)
     go_wp2_with fail
     go_roundw
     case rel => exact ⟨k + 1, by go_num, by have := HX.out.2.2; omega, HAM.out, HW9.out.1, HW9.out.2⟩
     case measure => simp [intOf]; have := HX.out.2.2; omega
   have b1 : decide ((k : Int) < (ll : Int)) = false := decide_eq_false (by omega)
   have b2 : decide (k < ll) = false := decide_eq_false hi
   have HA1 := Lib.hid (show lives.all lvMay = true from by
    rw [List.take_of_length_le (by have := HB.out.2.2.2.2.2.1; omega)] at hall
    exact hall)
   have c14 : wr.cell? ⟨w.heap.size, 14, none⟩ = some (.slice da dl dc) := hce.cell 14
   have HT9 := HW
   clear hall hst hce hk hi HW
   go_wp2_with fail
   go_loopw [4] (fun s wr => ∃ k : Nat, s = .int .i64 k ∧ k ≤ dl ∧ (dirty.take k).all dtMay = true ∧ Still w wr ∧ cellsAt wr w.heap.size [.int .i64 kind, .int .i64 txn, .int .i64 unit, .int .i64 half, .int .i64 prev, .int .i64 next, .int .i64 ap, .int .i64 ac, .int .i64 tp, .int .i64 tc, .slice oa ol oc, .slice na nl nc, .slice ma ml mc, .slice la ll lc, .slice da dl dc, .slice pa pl pc]) (fun s _ => dl - (intOf s).toNat)
   case atStart => exact ⟨0, rfl, Nat.zero_le _, rfl, HT9.out.1, HT9.out.2⟩
   obtain ⟨k, rfl, hk, hall, hst, hce⟩ := hrel
   clear c14
   have HW := Lib.hid (And.intro hst hce)
   have cb : wr.cell? ⟨w.heap.size, 14, none⟩ = some (.slice da dl dc) := hce.cell 14
   by_cases hi : k < dl
   · have b1 : decide ((k : Int) < (dl : Int)) = true := decide_eq_true (by omega)
     have b2 : decide (k < dl) = true := decide_eq_true hi
     have i0 : (0 : Int) ≤ (k : Int) := by omega
     have i1 : (k : Int) < (dl : Int) := by omega
     have u9 : IntKind.i64.wrap ((k : Int) + 1) = (k : Int) + 1 := IntWalk.i64_in _ (by have := HM.out.2.2.2; have := HB.out.2.2.2.2.2.2.2.1; omega)
     obtain ⟨x, hx⟩ : ∃ x, dirty[k]? = some x := ⟨_, List.getElem?_eq_getElem (by have := HB.out.2.2.2.2.2.2.2.1; omega)⟩
     obtain ⟨g, o, c, hg, -, -, hcs⟩ := ((HB.out.2.2.2.2.2.2.1).still hst).pos (by omega)
     cases hg
     have hfc : ∀ j, j < 2 → (dirty.flatMap dtC)[k * 2 + j]? = (dtC x)[j]? := fun j hj => flat_get (sz := 2) (fun _ => rfl) dirty k j x hx hj
     have e0 : wr.cell? ⟨g, o + k * 2, none⟩ = some (.int .i64 x.page) := hcs (k * 2) _ (hfc 0 (by omega))
     have e1 : wr.cell? ⟨g, o + k * 2 + 1, none⟩ = some (.int .i64 x.rc) := by rw [Nat.add_assoc]; exact hcs (k * 2 + 1) _ (hfc 1 (by omega))
     have HX := Lib.hid (And.intro hx (And.intro hall hi))
     clear hk hall hst hce hcs hfc hx hi
     go_wp2_with fail
     refine (rfits1 _ x.page).mono ?_
     rintro e w9 ⟨rfl, rfl⟩
     have HW9 := HW
     obtain ⟨q0, hq⟩ : ∃ q, fit1 1 x.page = q := ⟨_, rfl⟩
     rw [hq]
     have HC0 := Lib.hid hq
     clear hq
     cases q0
     · have F := Lib.hid (show StPost w (.bool r) (.returned (.bool false)) _ from ⟨by rw [HN.out fun h => all_no HX.out.1 (dtMay_no (.inl HC0.out)) h.da], HW9.out.1⟩)
       go_wp2_with fail
       go_ret
       exact F.out
     go_wp2_with fail
     refine (rfits3 _ x.rc).mono ?_
     rintro e w9 ⟨rfl, rfl⟩
     have HW9 := HW
     obtain ⟨q1, hq⟩ : ∃ q, fit1 3 x.rc = q := ⟨_, rfl⟩
     rw [hq]
     have HC1 := Lib.hid hq
     clear hq
     cases q1
     · have F := Lib.hid (show StPost w (.bool r) (.returned (.bool false)) _ from ⟨by rw [HN.out fun h => all_no HX.out.1 (dtMay_no (.inr HC1.out)) h.da], HW9.out.1⟩)
       go_wp2_with fail
       go_ret
       exact F.out
     have HAM := Lib.hid (all_more HX.out.1 (dtMay_of HC0.out HC1.out) HX.out.2.1)
     go_wp2_with fail
     go_roundw
     case rel => exact ⟨k + 1, by go_num, by have := HX.out.2.2; omega, HAM.out, HW9.out.1, HW9.out.2⟩
     case measure => simp [intOf]; have := HX.out.2.2; omega
   have b1 : decide ((k : Int) < (dl : Int)) = false := decide_eq_false (by omega)
   have b2 : decide (k < dl) = false := decide_eq_false hi
   have HA2 := Lib.hid (show dirty.all dtMay = true from by
    rw [List.take_of_length_le (by have := HB.out.2.2.2.2.2.2.2.1; omega)] at hall
    exact hall)
   have c15 : wr.cell? ⟨w.heap.size, 15, none⟩ = some (.slice pa pl pc) := hce.cell 15
   have HT10 := HW
   clear hall hst hce hk hi HW
   go_wp2_with fail
   go_loopw [5] (fun s wr => ∃ k : Nat, s = .int .i64 k ∧ k ≤ pl ∧ (opens.take k).all opMay = true ∧ Still w wr ∧ cellsAt wr w.heap.size [.int .i64 kind, .int .i64 txn, .int .i64 unit, .int .i64 half, .int .i64 prev, .int .i64 next, .int .i64 ap, .int .i64 ac, .int .i64 tp, .int .i64 tc, .slice oa ol oc, .slice na nl nc, .slice ma ml mc, .slice la ll lc, .slice da dl dc, .slice pa pl pc]) (fun s _ => pl - (intOf s).toNat)
   case atStart => exact ⟨0, rfl, Nat.zero_le _, rfl, HT10.out.1, HT10.out.2⟩
   obtain ⟨k, rfl, hk, hall, hst, hce⟩ := hrel
   clear c15
   have HW := Lib.hid (And.intro hst hce)
   have cb : wr.cell? ⟨w.heap.size, 15, none⟩ = some (.slice pa pl pc) := hce.cell 15
   by_cases hi : k < pl
   · have b1 : decide ((k : Int) < (pl : Int)) = true := decide_eq_true (by omega)
     have b2 : decide (k < pl) = true := decide_eq_true hi
     have i0 : (0 : Int) ≤ (k : Int) := by omega
     have i1 : (k : Int) < (pl : Int) := by omega
     have u9 : IntKind.i64.wrap ((k : Int) + 1) = (k : Int) + 1 := IntWalk.i64_in _ (by have := HM.out.2.2.2; have := HB.out.2.2.2.2.2.2.2.2.2; omega)
     obtain ⟨x, hx⟩ : ∃ x, opens[k]? = some x := ⟨_, List.getElem?_eq_getElem (by have := HB.out.2.2.2.2.2.2.2.2.2; omega)⟩
     obtain ⟨mvs, hm1, hm2, hm3⟩ := HB.out.2.2.2.2.2.2.2.2.1
     obtain ⟨mv, hmx⟩ : ∃ mv, mvs[k]? = some mv := ⟨_, List.getElem?_eq_getElem (by have := HB.out.2.2.2.2.2.2.2.2.2; omega)⟩
     have HMV := Lib.hid (hm3 k x mv hx hmx)
     obtain ⟨xa, xc, rfl⟩ := HMV.out.form
     obtain ⟨g, o, c, hg, -, -, hcs⟩ := (hm2.still hst).pos (by omega)
     cases hg
     have hfc : ∀ j, j < 3 → ((opens.zip mvs).flatMap opC)[k * 3 + j]? = (opC (x, .slice xa x.moves.length xc))[j]? := fun j hj => flat_get (sz := 3) (fun _ => rfl) (opens.zip mvs) k j (x, _) (by rw [List.getElem?_zip_eq_some]; exact ⟨hx, hmx⟩) hj
     have e0 : wr.cell? ⟨g, o + k * 3, none⟩ = some (.int .i64 x.unit) := hcs (k * 3) _ (hfc 0 (by omega))
     have e1 : wr.cell? ⟨g, o + k * 3 + 1, none⟩ = some (.slice xa x.moves.length xc) := by rw [Nat.add_assoc]; exact hcs (k * 3 + 1) _ (hfc 1 (by omega))
     have e2 : wr.cell? ⟨g, o + k * 3 + 2, none⟩ = some (.int .i64 x.done) := by rw [Nat.add_assoc]; exact hcs (k * 3 + 2) _ (hfc 2 (by omega))
     have HX := Lib.hid (And.intro hx (And.intro hall hi))
     clear hk hall hst hce hcs hfc hx hi hm1 hm2 hm3 hmx
     go_wp2_with fail
     refine (rfits2 _ x.unit).mono ?_
     rintro e w9 ⟨rfl, rfl⟩
     have HW9 := HW
     obtain ⟨q0, hq⟩ : ∃ q, fit1 2 x.unit = q := ⟨_, rfl⟩
     rw [hq]
     have HC0 := Lib.hid hq
     clear hq
     cases q0
     · have F := Lib.hid (show StPost w (.bool r) (.returned (.bool false)) _ from ⟨by rw [HN.out fun h => all_no HX.out.1 (opMay_no (.inl HC0.out)) h.pa], HW9.out.1⟩)
       go_wp2_with fail
       go_ret
       exact F.out
     go_wp2_with fail
     refine (rfits1 _ x.done).mono ?_
     rintro e w9 ⟨rfl, rfl⟩
     have HW9 := HW
     obtain ⟨q1, hq⟩ : ∃ q, fit1 1 x.done = q := ⟨_, rfl⟩
     rw [hq]
     have HC1 := Lib.hid hq
     clear hq
     cases q1
     · have F := Lib.hid (show StPost w (.bool r) (.returned (.bool false)) _ from ⟨by rw [HN.out fun h => all_no HX.out.1 (opMay_no (.inr (.inl HC1.out))) h.pa], HW9.out.1⟩)
       go_wp2_with fail
       go_ret
       exact F.out
     go_wp2_with fail
     refine (rfitsMoves (Q := Q) _ _ x.moves.length x.moves (HMV.out.still HW9.out.1) rfl).mono ?_
     rintro e w9 ⟨rfl, hs9⟩
     have HW9 := Lib.hid (HKK.out _ _ HW.out hs9)
     clear hs9
     obtain ⟨q2, hq⟩ : ∃ q, eachB mvMay x.moves = q := ⟨_, rfl⟩
     rw [hq]
     have HC2 := Lib.hid hq
     clear hq
     cases q2
     · have F := Lib.hid (show StPost w (.bool r) (.returned (.bool false)) _ from ⟨by rw [HN.out fun h => all_no HX.out.1 (opMay_no (.inr (.inr HC2.out))) h.pa], HW9.out.1⟩)
       go_wp2_with fail
       go_ret
       exact F.out
     have HAM := Lib.hid (all_more HX.out.1 (opMay_of HC0.out HC1.out HC2.out) HX.out.2.1)
     go_wp2_with fail
     go_roundw
     case rel => exact ⟨k + 1, by go_num, by have := HX.out.2.2; omega, HAM.out, HW9.out.1, HW9.out.2⟩
     case measure => simp [intOf]; have := HX.out.2.2; omega
   have b1 : decide ((k : Int) < (pl : Int)) = false := decide_eq_false (by omega)
   have b2 : decide (k < pl) = false := decide_eq_false hi
   have HA3 := Lib.hid (show opens.all opMay = true from by
    rw [List.take_of_length_le (by have := HB.out.2.2.2.2.2.2.2.2.2; omega)] at hall
    exact hall)
   have HT11 := HW
   clear hall hst hce hk hi HW
   have HTZ := HT11
   have F := Lib.hid (show StPost w (.bool r) (.returned (.bool true)) _ from ⟨by rw [HR.out.2 ⟨HG.out.1, HG.out.2, HQS.out.1, HQS.out.2.1, HQS.out.2.2.1, HQS.out.2.2.2.1, HQS.out.2.2.2.2.1, HQS.out.2.2.2.2.2.1, HQS.out.2.2.2.2.2.2, HM.out.1, HM.out.2.1, HM.out.2.2.1, HM.out.2.2.2.1, HM.out.2.2.2.2.1, HM.out.2.2.2.2.2, HA1.out, HA2.out, HA3.out⟩], HTZ.out.1⟩)
   go_wp2_with fail
   go_ret
   exact F.out
theorem rmayE_any (w : World) (Q : Nat → Prop) (e : PE) (ov nv mv lv dv pv : Value) (h : EIs w Q e ov nv mv lv dv pv) : Calls Tryz.prog 54 #[.agg (eV e ov nv mv lv dv pv)] w (StPost w (.bool e.may)) := by
 obtain ⟨oa, oc, na, nc, ma, mc, la, lc, da, dc, pa, pc, rfl, rfl, rfl, rfl, rfl, rfl⟩ := h.forms
 exact rmay_head w Q e.kind e.txn e.unit e.half e.prev e.next e.ap e.ac e.tp e.tc e.old e.new e.moves e.lives e.dirty e.opens oa na ma la da pa _ oc _ nc _ mc _ lc _ dc _ pc h.o h.n h.m rfl h.l rfl h.d rfl h.p rfl e.may (may_iff e)
end Go.Proofs.YtojkggppcmdepaaGreat

namespace Go.Proofs.YtojkggppcmdepaaGreat
open Go.RowKit Go.Wh Go.Maps

section
variable {W w w' : World} {X Q S : Nat → Prop} {r b2 b3 : Nat} {s s' : RS} {cs : List Value} {e e' : PE} {ov nv mv lv dv pv ov' nv' mv' lv' dv' pv' gv v' : Value}
theorem RAt.onlyNew (h : RAt W X Q r s w) (ho : Only S w w') (hS : ∀ g, S g → W.heap.size ≤ g) : RAt W X Q r s w' := by
 obtain ⟨bv, h1, h2, h3⟩ := h.b
 have hrl := h.rl
 exact ⟨h.only.andThen ho (fun i hi e => by have := hS i e; omega), h.rx, h.rl, h.qx, ⟨bv, h1.only ho (fun e => by have := hS r e; omega), h2.only ho (fun g hg e => by have := hS g e; have := (h.qx g hg).2; omega), h3⟩, h.byt⟩
structure TgSt (W : World) (Q : Nat → Prop) (r b2 b3 : Nat) (s : RS) (cs : List Value) (e : PE) (ov nv mv lv dv pv gv : Value) (w : World) : Prop where
 rd : RAt W (fun b => b = r) Q r s w
 z : cellsAt w b2 zE
 c : cellsAt w b3 cs
 el : EIs w (fun g => W.heap.size ≤ g ∧ g ≠ b3 ∧ gv.ownBlock ≠ some g) e ov nv mv lv dv pv
 own : ∀ g, gv.ownBlock = some g → W.heap.size ≤ g ∧ g < w.heap.size ∧ g ≠ b3
 z2 : b2 < W.heap.size
 z3 : W.heap.size ≤ b3
 n2 : b2 ≠ r
theorem TgSt.via (h : TgSt W Q r b2 b3 s cs e ov nv mv lv dv pv gv w) (rd : RAt W (fun b => b = r) Q r s' w') (ho : Only (fun b => b = r) w w') : TgSt W Q r b2 b3 s' cs e ov nv mv lv dv pv gv w' := by
 have hrl := h.rd.rl
 have h3 := h.z3
 exact ⟨rd, h.z.only ho h.n2, h.c.only ho (fun e => by omega), h.el.only ho (fun g hg e => by have := hg.1; omega), fun g hg => ⟨(h.own g hg).1, Nat.lt_of_lt_of_le (h.own g hg).2.1 ho.size, (h.own g hg).2.2⟩, h.z2, h.z3, h.n2⟩
theorem TgSt.call (h : TgSt W Q r b2 b3 s cs e ov nv mv lv dv pv gv w) (k : RAt w (fun b => b = r) Q r s' w') : TgSt W Q r b2 b3 s' cs e ov nv mv lv dv pv gv w' := h.via (h.rd.back k) k.only
theorem TgSt.still (h : TgSt W Q r b2 b3 s cs e ov nv mv lv dv pv gv w) (k : Still w w') : TgSt W Q r b2 b3 s cs e ov nv mv lv dv pv gv w' := h.via (h.rd.still k) (k.mono fun _ e => e.elim)
theorem TgSt.grow (h : TgSt W Q r b2 b3 s cs e ov nv mv lv dv pv gv w) {ob : Obj} (ho : Only (fun k => gv.ownBlock = some k) (w.alloc ob) w') (hb : v'.ownBlock = gv.ownBlock ∨ ∃ g, v'.ownBlock = some g ∧ (w.alloc ob).heap.size ≤ g ∧ g < w'.heap.size) (i : Nat) : TgSt W Q r b2 b3 s (cs.set i v') e ov nv mv lv dv pv v' (w'.setCell ⟨b3, i, none⟩ v') := by
 have h0 : Still w (w.alloc ob) := (Still.refl w).alloc _
 have hz0 := h0.size
 have hzo := ho.size
 have hz1 : (w'.setCell ⟨b3, i, none⟩ v').heap.size = w'.heap.size := by simp [World.setCell]
 have hW := h.rd.only.size
 have hz2 := h.z2
 have hz3 := h.z3
 have hc3 := h.c.lt
 have hg : Only (fun k => gv.ownBlock = some k) w w' := (h0.mono fun _ e => e.elim).trans ho
 have hs := setCell_only w' ⟨b3, i, none⟩ v'
 have hn := h.n2
 refine ⟨(h.rd.onlyNew hg fun g hg => (h.own g hg).1).onlyNew hs (fun g hg => by have e : g = b3 := hg; omega), (h.z.only hg fun e => by have := (h.own _ e).1; omega).only hs (fun e => by have e' : b2 = b3 := e; omega), (h.c.only hg fun e => (h.own _ e).2.2 rfl).setCell i v', ?_, ?_, hz2, hz3, h.n2⟩
 · refine EIs.mono ((h.el.low2.only hg fun g hg e => hg.1.2.2 e).only hs fun g hg e => ?_) fun g hg => ⟨hg.1.1, hg.1.2.1, fun e => ?_⟩
   · have e' : g = b3 := e
     exact hg.1.2.1 e'
   · rcases hb with e1 | ⟨g', e1, e2, e3⟩
     · rw [e1] at e
       exact hg.1.2.2 e
     · rw [e1] at e
       have e' : g' = g := Option.some.inj e
       have := hg.2
       omega
 · intro g hg
   rw [hz1]
   rcases hb with e1 | ⟨g', e1, e2, e3⟩
   · rw [e1] at hg
     have := h.own g hg
     exact ⟨this.1, by omega, this.2.2⟩
   · rw [e1] at hg
     have e' : g' = g := Option.some.inj hg
     exact ⟨by omega, by omega, by omega⟩
theorem TgSt.next (h : TgSt W Q r b2 b3 s cs e ov nv mv lv dv pv gv w) (he : EIs w (fun g => W.heap.size ≤ g ∧ g ≠ b3) e' ov' nv' mv' lv' dv' pv') : TgSt W Q r b2 b3 s cs e' ov' nv' mv' lv' dv' pv' (.slice none 0 0) w :=
 ⟨h.rd, h.z, h.c, EIs.mono he fun g hg => ⟨hg.1, hg.2, by simp [Value.ownBlock]⟩, (fun g hg => by cases hg), h.z2, h.z3, h.n2⟩
theorem TgSt.els (h : TgSt W Q r b2 b3 s cs e ov nv mv lv dv pv gv w) : EIs w (fun g => W.heap.size ≤ g ∧ g ≠ b3) e ov nv mv lv dv pv := EIs.mono h.el fun _ hg => ⟨hg.1, hg.2.1⟩
theorem TgSt.gl (h : TgSt W Q r b2 b3 s cs e ov nv mv lv dv pv gv w) {sz m : Nat} {xs : List Value} (hv : Vec w sz gv m xs) : Sl w (fun g => W.heap.size ≤ g ∧ g ≠ b3) sz gv m xs := Vec.sl hv fun g hg => ⟨⟨(h.own g hg).1, (h.own g hg).2.2⟩, (h.own g hg).2.1⟩
end
theorem imR_byt {s : RS} (h : Byt s.1) : Byt (imR s).1 := by
 have h1 : Byt (numR 1 s).2.1 := (tkR_byt h).2
 unfold imR imT
 split
 · intro z hz; cases hz
 · split
   · split
     · intro z hz; cases hz
     · exact (tkR_byt h1).1
   · intro z hz; cases hz
theorem imR_len {s : RS} {k : Nat} (h : s.1.length ≤ k) : (imR s).2.1.length ≤ k := by
 have h1 : (numR 1 s).2.1.length ≤ k := numR_len h
 unfold imR imT
 split
 · exact h1
 · split
   · split
     · exact h1
     · exact tkR_len h1
   · exact h1
theorem readsR_len {α : Type} {f : RS → α × RS} {k : Nat} (hf : ∀ s : RS, s.1.length ≤ k → (f s).2.1.length ≤ k) {s : RS} (h : s.1.length ≤ k) : (readsR f s).2.1.length ≤ k := loopS_len hf _ _ (manyR_len h)
theorem lvR_len {s : RS} {k : Nat} (h : s.1.length ≤ k) : (lvR s).2.1.length ≤ k := numR_len (numR_len (numR_len (numR_len h)))
theorem dtR_len {s : RS} {k : Nat} (h : s.1.length ≤ k) : (dtR s).2.1.length ≤ k := numR_len (numR_len h)
theorem opR_len {s : RS} {k : Nat} (h : s.1.length ≤ k) : (opR s).2.1.length ≤ k := readsR_len (fun _ => mvR_len) (numR_len (numR_len h))

theorem decR_of {s : RS} {q0 : Int × RS} {q1 : Int × RS} {q2 : Int × RS} {q3 : Int × RS} {q4 : Int × RS} {q5 : Int × RS} {q6 : (Int × Int) × RS} {q7 : (Int × Int) × RS} {q8 : List Int × RS} {q9 : List Int × RS} {q10 : List PMv × RS} {q11 : List PLv × RS} {q12 : List PDt × RS} {q13 : List POp × RS} (h0 : numR 1 s = q0) (h1 : numR 1 q0.2 = q1) (h2 : numR 2 q1.2 = q2) (h3 : numR 1 q2.2 = q3) (h4 : numR 3 q3.2 = q4) (h5 : numR 3 q4.2 = q5) (h6 : spR q5.2 = q6) (h7 : spR q6.2 = q7) (h8 : imR q7.2 = q8) (h9 : imR q8.2 = q9) (h10 : readsR mvR q9.2 = q10) (h11 : readsR lvR q10.2 = q11) (h12 : readsR dtR q11.2 = q12) (h13 : readsR opR q12.2 = q13) : decR s = (⟨q0.1, q1.1, q2.1, q3.1, q4.1, q5.1, q6.1.1, q6.1.2, q7.1.1, q7.1.2, q8.1, q9.1, q10.1, q11.1, q12.1, q13.1⟩, q13.2) := by
 simp only [decR, h0, h1, h2, h3, h4, h5, h6, h7, h8, h9, h10, h11, h12, h13]

def LvRel (W : World) (Q : Nat → Prop) (r b2 b3 : Nat) (cs : Value → List Value) (e : PE) (ov nv mv : Value) (R : List PLv × RS) (k : Nat) (w : World) : Prop :=
 ∃ (ls : List PLv) (s : RS) (la : Option Addr) (lc : Nat), TgSt W Q r b2 b3 s (cs (.slice la ls.length lc)) e ov nv mv (.slice none 0 0) (.slice none 0 0) (.slice none 0 0) (.slice la ls.length lc) w ∧ s.1.length ≤ 100000 ∧ ls.length + k ≤ 40 ∧ (ls ++ (loopS lvR k s).1, (loopS lvR k s).2) = R ∧ Vec w 4 (.slice la ls.length lc) ls.length (ls.flatMap lvC)
def DtRel (W : World) (Q : Nat → Prop) (r b2 b3 : Nat) (cs : Value → List Value) (e : PE) (ov nv mv lv : Value) (R : List PDt × RS) (k : Nat) (w : World) : Prop :=
 ∃ (ls : List PDt) (s : RS) (la : Option Addr) (lc : Nat), TgSt W Q r b2 b3 s (cs (.slice la ls.length lc)) e ov nv mv lv (.slice none 0 0) (.slice none 0 0) (.slice la ls.length lc) w ∧ s.1.length ≤ 100000 ∧ ls.length + k ≤ 40 ∧ (ls ++ (loopS dtR k s).1, (loopS dtR k s).2) = R ∧ Vec w 2 (.slice la ls.length lc) ls.length (ls.flatMap dtC)
def OpRel (W : World) (Q : Nat → Prop) (r b2 b3 : Nat) (cs : Value → List Value) (e : PE) (ov nv mv lv dv : Value) (R : List POp × RS) (k : Nat) (w : World) : Prop :=
 ∃ (ls : List POp) (s : RS) (la : Option Addr) (lc : Nat), TgSt W Q r b2 b3 s (cs (.slice la ls.length lc)) e ov nv mv lv dv (.slice none 0 0) (.slice la ls.length lc) w ∧ s.1.length ≤ 100000 ∧ ls.length + k ≤ 40 ∧ (ls ++ (loopS opR k s).1, (loopS opR k s).2) = R ∧ OpVec (fun g => W.heap.size ≤ g ∧ g ≠ b3 ∧ (Value.slice la ls.length lc).ownBlock ≠ some g) w (.slice la ls.length lc) ls
theorem manyR_le40 (s : RS) : (manyR s).1 ≤ 40 := by
 unfold manyR manyT
 split
 · exact Nat.zero_le _
 · rename_i hc
   rw [not_or] at hc
   simp only
   omega
theorem TgSt.vec {W w w' : World} {Q : Nat → Prop} {r b2 b3 : Nat} {s : RS} {cs : List Value} {e : PE} {ov nv mv lv dv pv gv : Value} {sz m : Nat} {xs : List Value} (h : TgSt W Q r b2 b3 s cs e ov nv mv lv dv pv gv w) (hv : Vec w sz gv m xs) (ho : Only (fun b => b = r) w w') : Vec w' sz gv m xs :=
 hv.only ho fun g hg e => by have := (h.own g hg).1; have := h.rd.rl; omega
theorem TgSt.sl {W w w' : World} {Q : Nat → Prop} {r b2 b3 : Nat} {s : RS} {cs : List Value} {e : PE} {ov nv mv lv dv pv gv : Value} {P : Nat → Prop} {sz m : Nat} {v : Value} {xs : List Value} (h : TgSt W Q r b2 b3 s cs e ov nv mv lv dv pv gv w) (hv : Sl w P sz v m xs) (hp : ∀ g, P g → W.heap.size ≤ g) (ho : Only (fun b => b = r) w w') : Sl w' P sz v m xs :=
 hv.only ho fun g hg e => by have := hp g hg; have := h.rd.rl; omega
theorem TgSt.vec2 {W w' : World} {Q : Nat → Prop} {r b2 b3 : Nat} {s : RS} {cs : List Value} {e : PE} {ov nv mv lv dv pv gv : Value} {i sz m : Nat} {u : Value} {xs : List Value} (h : TgSt W Q r b2 b3 s cs e ov nv mv lv dv pv gv (w'.setCell ⟨b3, i, none⟩ u)) (hv : Vec w' sz gv m xs) : Vec (w'.setCell ⟨b3, i, none⟩ u) sz gv m xs :=
 hv.only (setCell_only w' ⟨b3, i, none⟩ u) fun g hg e => (h.own g hg).2.2 e
theorem opvec_push {w w' : World} {B b3 : Nat} {gv v' mx u : Value} {ob : Obj} {ls : List POp} {mvs : List Value} {x : POp} {i : Nat} (hml : mvs.length = ls.length)
 (hmvs : ∀ (k : Nat) (o : POp) (mv : Value), ls[k]? = some o → mvs[k]? = some mv → Sl w (fun g => B ≤ g ∧ g ≠ b3 ∧ gv.ownBlock ≠ some g) 4 mv o.moves.length (o.moves.flatMap mvC))
 (hx : Sl w (fun g => B ≤ g ∧ g ≠ b3 ∧ gv.ownBlock ≠ some g) 4 mx x.moves.length (x.moves.flatMap mvC))
 (hv' : Vec w' 3 v' (ls.length + 1) ((ls.zip mvs).flatMap opC ++ [.int .i64 x.unit, mx, .int .i64 x.done])) (ho' : Only (fun k => gv.ownBlock = some k) (w.alloc ob) w') (hb' : v'.ownBlock = gv.ownBlock ∨ ∃ g, v'.ownBlock = some g ∧ (w.alloc ob).heap.size ≤ g ∧ g < w'.heap.size) (h3 : v'.ownBlock ≠ some b3) :
 OpVec (fun g => B ≤ g ∧ g ≠ b3 ∧ v'.ownBlock ≠ some g) (w'.setCell ⟨b3, i, none⟩ u) v' (ls ++ [x]) := by
 have hst : Still w (w.alloc ob) := (Still.refl w).alloc _
 have hzs := hst.size
 have hs := setCell_only w' ⟨b3, i, none⟩ u
 have key : ∀ (o : POp) (mv : Value), Sl w (fun g => B ≤ g ∧ g ≠ b3 ∧ gv.ownBlock ≠ some g) 4 mv o.moves.length (o.moves.flatMap mvC) → Sl (w'.setCell ⟨b3, i, none⟩ u) (fun g => B ≤ g ∧ g ≠ b3 ∧ v'.ownBlock ≠ some g) 4 mv o.moves.length (o.moves.flatMap mvC) := fun o mv h => by
  refine (((h.low.still hst).only ho' fun g hg e => hg.1.2.2 e).only hs fun g hg e => hg.1.2.1 e).mono fun g hg => ⟨hg.1.1, hg.1.2.1, fun e => ?_⟩
  rcases hb' with e' | ⟨g', e', e1, e2⟩
  · rw [e'] at e
    exact hg.1.2.2 e
  · rw [e'] at e
    have e : g' = g := Option.some.inj e
    have := hg.2
    omega
 refine ⟨mvs ++ [mx], by rw [List.length_append, List.length_append, hml]; rfl, ?_, fun j o mv hj hm => ?_⟩
 · rw [List.length_append, List.length_singleton, List.zip_append hml.symm, List.flatMap_append]
   have e : ([x].zip [mx]).flatMap opC = [.int .i64 x.unit, mx, .int .i64 x.done] := rfl
   rw [e]
   exact hv'.only hs fun g hg e => by
    have e' : g = b3 := e
    rw [e'] at hg
    exact h3 hg
 · by_cases hjl : j < ls.length
   · rw [List.getElem?_append_left hjl] at hj
     rw [List.getElem?_append_left (by rw [hml]; exact hjl)] at hm
     exact key o mv (hmvs j o mv hj hm)
   · rw [List.getElem?_append_right (by omega)] at hj
     rw [List.getElem?_append_right (by rw [hml]; omega), hml] at hm
     have hj0 : j - ls.length = 0 := by
      have := (List.getElem?_eq_some_iff.1 hj).1
      simp at this
      omega
     rw [hj0] at hj hm
     cases hj
     cases hm
     exact key _ _ hx
theorem size_lv4 : (Tryz.prog.info? 108).map (·.size) = some 4 := by kernel_rfl
end Go.Proofs.YtojkggppcmdepaaGreat

/- Which entries may be. Conditions: they lie in memory. -/
import Derived.Test.YtojkggppcmdepaaGreatTrR
namespace Go.Proofs.YtojkggppcmdepaaGreat
open Go.RowKit Go.Wh Go.Maps

set_option maxHeartbeats 20000000 in
set_option maxRecDepth 100000 in
theorem may_walk (w : World) (Q : Nat → Prop) (kind txn unit half prev next ap ac tp tc : Int) (old new : List Int) (moves : List PMv) (lives : List PLv) (dirty : List PDt) (opens : List POp) (oa na ma la da pa : Option Addr) (ol oc nl nc ml mc ll lc dl dc pl pc : Nat)
    (h1 : Sl w Q 1 (.slice oa ol oc) ol (bc old)) (h2 : Sl w Q 1 (.slice na nl nc) nl (bc new)) (h3 : Sl w Q 4 (.slice ma ml mc) ml (moves.flatMap mvC)) (k3 : moves.length = ml) (h4 : Sl w Q 4 (.slice la ll lc) ll (lives.flatMap lvC)) (k4 : lives.length = ll) (h5 : Sl w Q 2 (.slice da dl dc) dl (dirty.flatMap dtC)) (k5 : dirty.length = dl) (h6 : OpSl w Q (.slice pa pl pc) pl opens) (k6 : opens.length = pl) :
    Calls Tryz.prog 59 #[.agg #[.int .i64 kind, .int .i64 txn, .int .i64 unit, .int .i64 half, .int .i64 prev, .int .i64 next, .int .i64 ap, .int .i64 ac, .int .i64 tp, .int .i64 tc, .slice oa ol oc, .slice na nl nc, .slice ma ml mc, .slice la ll lc, .slice da dl dc, .slice pa pl pc]] w (StPost w (.bool (decide (1 ≤ kind) && decide (kind ≤ 10) && fitsB 1 [txn, half] && fitsB 2 [unit] && fitsB 3 [prev, next] && fitsB 1 [ap, ac] && fitsB 1 [tp, tc] && imgB old && imgB new && eachB mvMay moves && eachB lvMay lives && eachB dtMay dirty && eachB opMay opens))) := by
  have HC1 := Lib.hid (fun tt => fit_new (w := w.alloc (.cells #[.int .i64 kind, .int .i64 txn, .int .i64 unit, .int .i64 half, .int .i64 prev, .int .i64 next, .int .i64 ap, .int .i64 ac, .int .i64 tp, .int .i64 tc, .slice oa ol oc, .slice na nl nc, .slice ma ml mc, .slice la ll lc, .slice da dl dc, .slice pa pl pc] 34)) 1 2 rfl [txn, half] tt (B := w.heap.size + 1) (by simp) rfl (by omega) (by omega) (Still.refl _))
  have HC2 := Lib.hid (fun w' tt => fit_new (w := w') 2 1 rfl [unit] tt rfl rfl (by omega) (by omega) (Still.refl w'))
  have HC3 := Lib.hid (fun w' tt => fit_new (w := w') 3 2 rfl [prev, next] tt rfl rfl (by omega) (by omega) (Still.refl w'))
  have HC4 := Lib.hid (fun w' => spot_may w' ap ac)
  have HC5 := Lib.hid (fun w' => spot_may w' tp tc)
  have HC6 := Lib.hid (fun w' (hs : Still w w') => image_may w' Q (.slice oa ol oc) ol old (h1.still hs))
  have HC7 := Lib.hid (fun w' (hs : Still w w') => image_may w' Q (.slice na nl nc) nl new (h2.still hs))
  have HC8 := Lib.hid (fun w' (hs : Still w w') => each_mv w' (.slice ma ml mc) ml moves (h3.still hs) k3)
  have HC9 := Lib.hid (fun w' (hs : Still w w') => each_lv w' (.slice la ll lc) ll lives (h4.still hs) k4)
  have HC10 := Lib.hid (fun w' (hs : Still w w') => each_dt w' (.slice da dl dc) dl dirty (h5.still hs) k5)
  have HC11 := Lib.hid (fun w' (hs : Still w w') => each_op w' (.slice pa pl pc) pl opens (h6.only hs (fun _ _ e => e)) k6)
  have hst : Still w (w.alloc (.cells #[.int .i64 kind, .int .i64 txn, .int .i64 unit, .int .i64 half, .int .i64 prev, .int .i64 next, .int .i64 ap, .int .i64 ac, .int .i64 tp, .int .i64 tc, .slice oa ol oc, .slice na nl nc, .slice ma ml mc, .slice la ll lc, .slice da dl dc, .slice pa pl pc] 34)) := (Still.refl w).alloc _
  have hbx := cellsAt_new w [.int .i64 kind, .int .i64 txn, .int .i64 unit, .int .i64 half, .int .i64 prev, .int .i64 next, .int .i64 ap, .int .i64 ac, .int .i64 tp, .int .i64 tc, .slice oa ol oc, .slice na nl nc, .slice ma ml mc, .slice la ll lc, .slice da dl dc, .slice pa pl pc] 34
  have HK := Lib.hid (fun w' (hs : Still (w.alloc (.cells #[.int .i64 kind, .int .i64 txn, .int .i64 unit, .int .i64 half, .int .i64 prev, .int .i64 next, .int .i64 ap, .int .i64 ac, .int .i64 tp, .int .i64 tc, .slice oa ol oc, .slice na nl nc, .slice ma ml mc, .slice la ll lc, .slice da dl dc, .slice pa pl pc] 34)) w') => show Still w w' ∧ cellsAt w' w.heap.size [.int .i64 kind, .int .i64 txn, .int .i64 unit, .int .i64 half, .int .i64 prev, .int .i64 next, .int .i64 ap, .int .i64 ac, .int .i64 tp, .int .i64 tc, .slice oa ol oc, .slice na nl nc, .slice ma ml mc, .slice la ll lc, .slice da dl dc, .slice pa pl pc] from ⟨hst.trans hs, hbx.only hs fun e => e⟩)
  have HS0 := Lib.hid hst
  clear h1 h2 h3 h4 h5 h6 k3 k4 k5 k6 hst hbx
  generalize fitsB 1 [txn, half] = q1 at *
  generalize fitsB 2 [unit] = q2 at *
  generalize fitsB 3 [prev, next] = q3 at *
  generalize fitsB 1 [ap, ac] = q4 at *
  generalize fitsB 1 [tp, tc] = q5 at *
  generalize imgB old = q6 at *
  generalize imgB new = q7 at *
  generalize eachB mvMay moves = q8 at *
  generalize eachB lvMay lives = q9 at *
  generalize eachB dtMay dirty = q10 at *
  generalize eachB opMay opens = q11 at *
  by_cases g1 : 1 ≤ kind
  rotate_left
  · have d1 : decide (1 ≤ kind) = false := decide_eq_false g1
    rw [d1]
    clear g1
    go_enter Tryz.func59, Tryz.ntmps59
    go_wp2_with fail
    go_ret
    exact ⟨rfl, HS0.out⟩
  have d1 : decide (1 ≤ kind) = true := decide_eq_true g1
  by_cases g2 : kind ≤ 10
  rotate_left
  · have d2 : decide (kind ≤ 10) = false := decide_eq_false g2
    rw [d1, d2]
    clear g1 g2
    go_enter Tryz.func59, Tryz.ntmps59
    go_wp2_with fail
    go_ret
    exact ⟨rfl, HS0.out⟩
  have d2 : decide (kind ≤ 10) = true := decide_eq_true g2
  rw [d1, d2]
  clear g1 g2
  go_enter Tryz.func59, Tryz.ntmps59
  go_wp2_with fail
  have HT0 := Lib.hid (Still.refl (w.alloc (.cells #[.int .i64 kind, .int .i64 txn, .int .i64 unit, .int .i64 half, .int .i64 prev, .int .i64 next, .int .i64 ap, .int .i64 ac, .int .i64 tp, .int .i64 tc, .slice oa ol oc, .slice na nl nc, .slice ma ml mc, .slice la ll lc, .slice da dl dc, .slice pa pl pc] 34)))
  refine (HC1.out _).mono ?_
  rintro e w1 ⟨rfl, hs⟩
  have HT1 := Lib.hid (HT0.out.trans hs)
  clear hs
  have hk := (HK.out _ HT1.out).2
  have c2 : w1.cell? ⟨w.heap.size, 2, none⟩ = some (.int .i64 unit) := hk.cell 2
  clear hk
  cases q1
  · go_wp2_with fail
    go_ret
    exact ⟨rfl, (HK.out _ HT1.out).1⟩
  go_wp2_with fail
  clear c2
  refine (HC2.out _ _).mono ?_
  rintro e w2 ⟨rfl, hs⟩
  have HT2 := Lib.hid (HT1.out.trans hs)
  clear hs
  have hk := (HK.out _ HT2.out).2
  have c4 : w2.cell? ⟨w.heap.size, 4, none⟩ = some (.int .i64 prev) := hk.cell 4
  have c5 : w2.cell? ⟨w.heap.size, 5, none⟩ = some (.int .i64 next) := hk.cell 5
  clear hk
  cases q2
  · go_wp2_with fail
    go_ret
    exact ⟨rfl, (HK.out _ HT2.out).1⟩
  go_wp2_with fail
  clear c4 c5
  refine (HC3.out _ _).mono ?_
  rintro e w3 ⟨rfl, hs⟩
  have HT3 := Lib.hid (HT2.out.trans hs)
  clear hs
  have hk := (HK.out _ HT3.out).2
  have c6 : w3.cell? ⟨w.heap.size, 6, none⟩ = some (.int .i64 ap) := hk.cell 6
  have c7 : w3.cell? ⟨w.heap.size, 7, none⟩ = some (.int .i64 ac) := hk.cell 7
  clear hk
  cases q3
  · go_wp2_with fail
    go_ret
    exact ⟨rfl, (HK.out _ HT3.out).1⟩
  go_wp2_with fail
  clear c6 c7
  refine (HC4.out _).mono ?_
  rintro e w4 ⟨rfl, hs⟩
  have HT4 := Lib.hid (HT3.out.trans hs)
  clear hs
  have hk := (HK.out _ HT4.out).2
  have c8 : w4.cell? ⟨w.heap.size, 8, none⟩ = some (.int .i64 tp) := hk.cell 8
  have c9 : w4.cell? ⟨w.heap.size, 9, none⟩ = some (.int .i64 tc) := hk.cell 9
  clear hk
  cases q4
  · go_wp2_with fail
    go_ret
    exact ⟨rfl, (HK.out _ HT4.out).1⟩
  go_wp2_with fail
  clear c8 c9
  refine (HC5.out _).mono ?_
  rintro e w5 ⟨rfl, hs⟩
  have HT5 := Lib.hid (HT4.out.trans hs)
  clear hs
  have hk := (HK.out _ HT5.out).2
  have c10 : w5.cell? ⟨w.heap.size, 10, none⟩ = some (.slice oa ol oc) := hk.cell 10
  clear hk
  cases q5
  · go_wp2_with fail
    go_ret
    exact ⟨rfl, (HK.out _ HT5.out).1⟩
  go_wp2_with fail
  clear c10
  refine (HC6.out _ (HK.out _ HT5.out).1).mono ?_
  rintro e w6 ⟨rfl, hs⟩
  have HT6 := Lib.hid (HT5.out.trans hs)
  clear hs
  have hk := (HK.out _ HT6.out).2
  have c11 : w6.cell? ⟨w.heap.size, 11, none⟩ = some (.slice na nl nc) := hk.cell 11
  clear hk
  cases q6
  · go_wp2_with fail
    go_ret
    exact ⟨rfl, (HK.out _ HT6.out).1⟩
  go_wp2_with fail
  clear c11
  refine (HC7.out _ (HK.out _ HT6.out).1).mono ?_
  rintro e w7 ⟨rfl, hs⟩
  have HT7 := Lib.hid (HT6.out.trans hs)
  clear hs
  have hk := (HK.out _ HT7.out).2
  have c12 : w7.cell? ⟨w.heap.size, 12, none⟩ = some (.slice ma ml mc) := hk.cell 12
  clear hk
  cases q7
  · go_wp2_with fail
    go_ret
    exact ⟨rfl, (HK.out _ HT7.out).1⟩
  go_wp2_with fail
  clear c12
  refine (HC8.out _ (HK.out _ HT7.out).1).mono ?_
  rintro e w8 ⟨rfl, hs⟩
  have HT8 := Lib.hid (HT7.out.trans hs)
  clear hs
  have hk := (HK.out _ HT8.out).2
  have c13 : w8.cell? ⟨w.heap.size, 13, none⟩ = some (.slice la ll lc) := hk.cell 13
  clear hk
  cases q8
  · go_wp2_with fail
    go_ret
    exact ⟨rfl, (HK.out _ HT8.out).1⟩
  go_wp2_with fail
  clear c13
  refine (HC9.out _ (HK.out _ HT8.out).1).mono ?_
  rintro e w9 ⟨rfl, hs⟩
  have HT9 := Lib.hid (HT8.out.trans hs)
  clear hs
  have hk := (HK.out _ HT9.out).2
  have c14 : w9.cell? ⟨w.heap.size, 14, none⟩ = some (.slice da dl dc) := hk.cell 14
  clear hk
  cases q9
  · go_wp2_with fail
    go_ret
    exact ⟨rfl, (HK.out _ HT9.out).1⟩
  go_wp2_with fail
  clear c14
  refine (HC10.out _ (HK.out _ HT9.out).1).mono ?_
  rintro e w10 ⟨rfl, hs⟩
  have HT10 := Lib.hid (HT9.out.trans hs)
  clear hs
  have hk := (HK.out _ HT10.out).2
  have c15 : w10.cell? ⟨w.heap.size, 15, none⟩ = some (.slice pa pl pc) := hk.cell 15
  clear hk
  cases q10
  · go_wp2_with fail
    go_ret
    exact ⟨rfl, (HK.out _ HT10.out).1⟩
  go_wp2_with fail
  clear c15
  refine (HC11.out _ (HK.out _ HT10.out).1).mono ?_
  rintro e w11 ⟨rfl, hs⟩
  have HT11 := Lib.hid (HT10.out.trans hs)
  clear hs
  have F := Lib.hid (show StPost w (.bool (true && true && true && true && true && true && true && true && true && true && true && true && q11)) (.returned (.bool q11)) w11 from ⟨by simp, (HK.out _ HT11.out).1⟩)
  go_wp2_with fail
  go_ret
  exact F.out
theorem mayE_any (w : World) (Q : Nat → Prop) (e : PE) (ov nv mv lv dv pv : Value) (h : EIs w Q e ov nv mv lv dv pv) : Calls Tryz.prog 59 #[.agg (eV e ov nv mv lv dv pv)] w (StPost w (.bool e.may)) := by
  obtain ⟨oa, oc, na, nc, ma, mc, la, lc, da, dc, pa, pc, rfl, rfl, rfl, rfl, rfl, rfl⟩ := h.forms
  exact may_walk w Q _ _ _ _ _ _ _ _ _ _ _ _ _ _ _ _ oa na ma la da pa _ oc _ nc _ mc _ lc _ dc _ pc h.o h.n h.m rfl h.l rfl h.d rfl h.p rfl
end Go.Proofs.YtojkggppcmdepaaGreat

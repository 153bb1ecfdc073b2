/- An entry as bytes. Conditions: it lies in memory. -/
import Derived.Test.YtojkggppcmdepaaGreatTrS
namespace Go.Proofs.YtojkggppcmdepaaGreat
open Go.RowKit Go.Wh Go.Maps

theorem Sl.low' {w : World} {Q : Nat → Prop} {sz m : Nat} {dv : Value} {xs : List Value} (h : Sl w Q sz dv m xs) : Sl w (fun g => g < w.heap.size) sz dv m xs := h.low.mono fun _ e => e.2
theorem EIs.low {w : World} {Q : Nat → Prop} {e : PE} {ov nv mv lv dv pv : Value} (h : EIs w Q e ov nv mv lv dv pv) : EIs w (fun g => g < w.heap.size) e ov nv mv lv dv pv := by
  obtain ⟨mvs, k1, k2, k3⟩ := h.p
  exact ⟨h.o.low', h.n.low', h.m.low', h.l.low', h.d.low', ⟨mvs, k1, k2.low', fun k o mv hk hm => (k3 k o mv hk hm).low'⟩, h.bo, h.bn⟩
theorem PE.may_nums {e : PE} (h : e.may = true) : 1 ≤ e.kind ∧ e.kind ≤ 10 ∧ (0 ≤ e.txn ∧ e.txn < 256) ∧ (0 ≤ e.half ∧ e.half < 256) ∧ (0 ≤ e.unit ∧ e.unit < 65536) ∧ (0 ≤ e.prev ∧ e.prev < 16777216) ∧ (0 ≤ e.next ∧ e.next < 16777216) ∧ (0 ≤ e.ap ∧ e.ap < 256) ∧ (0 ≤ e.ac ∧ e.ac < 256) ∧ (0 ≤ e.tp ∧ e.tp < 256) ∧ (0 ≤ e.tc ∧ e.tc < 256) := by
  unfold PE.may at h
  simp only [Bool.and_eq_true, fitsB_cons, decide_eq_true_eq] at h
  have p1 : (256 : Int) ^ 1 = 256 := rfl
  have p2 : (256 : Int) ^ 2 = 65536 := rfl
  have p3 : (256 : Int) ^ 3 = 16777216 := rfl
  rw [p1, p2, p3] at h
  omega
theorem PE.may_lists {e : PE} (h : e.may = true) : e.old.length ≤ 26 ∧ e.new.length ≤ 26 ∧ eachB mvMay e.moves = true ∧ eachB lvMay e.lives = true ∧ eachB dtMay e.dirty = true ∧ eachB opMay e.opens = true := by
  unfold PE.may imgB at h
  simp only [Bool.and_eq_true, Bool.or_eq_true, decide_eq_true_eq] at h
  obtain ⟨⟨⟨⟨⟨⟨⟨⟨⟨⟨⟨⟨_, _⟩, _⟩, _⟩, _⟩, _⟩, _⟩, h8⟩, h9⟩, h10⟩, h11⟩, h12⟩, h13⟩ := h
  exact ⟨by omega, by omega, h10, h11, h12, h13⟩
/-- The lists' bytes are not many. -/
theorem PE.may_lens {e : PE} (h : e.may = true) : (imB e.old).length ≤ 27 ∧ (imB e.new).length ≤ 27 ∧ (listB mvB e.moves).length ≤ 161 ∧ (listB lvB e.lives).length ≤ 321 ∧ (listB dtB e.dirty).length ≤ 161 ∧ (listB opB e.opens).length ≤ 6561 := by
  have hh := PE.may_lists h
  refine ⟨?_, ?_, listB_le mvB 4 _ hh.2.2.1 fun x _ => by simp [mvB, numsB_length], listB_le lvB 8 _ hh.2.2.2.1 fun x _ => by simp [lvB, numsB_length], listB_le dtB 4 _ hh.2.2.2.2.1 fun x _ => by simp [dtB, numsB_length], listB_le opB 164 _ hh.2.2.2.2.2 opB_le⟩
  · unfold imB
    simp only [List.length_append, numsB_length, List.length_cons, List.length_nil]
    omega
  · unfold imB
    simp only [List.length_append, numsB_length, List.length_cons, List.length_nil]
    omega

/-- A writer that is new. -/
theorem WrAt.new (w : World) (t1 t2 : TypeId) : WrAt ((w.alloc (.cells #[.slice none 0 0] t1)).alloc (.cells #[.pointer (some ⟨w.heap.size, 0, none⟩)] t2)) (fun b => b = w.heap.size) w.heap.size [] (.slice none 0 0) ((w.alloc (.cells #[.slice none 0 0] t1)).alloc (.cells #[.pointer (some ⟨w.heap.size, 0, none⟩)] t2)) :=
  ⟨Only.refl _ _, rfl, by simp; omega, (cellsAt_new w [.slice none 0 0] t1).alloc _, Vec.nil _ _, (fun g e => by cases e), (fun z hz => by cases hz)⟩

set_option maxHeartbeats 4000000 in
set_option maxRecDepth 100000 in
theorem put_yes (w : World) (Q : Nat → Prop) (e : PE) (ov nv mv lv dv pv : Value) (h : EIs w Q e ov nv mv lv dv pv) (hm : e.may = true) : Calls Tryz.prog 35 #[.agg (eV e ov nv mv lv dv pv)] w (FreshPost w 1 (encB e).length (bc (encB e))) := by
  obtain ⟨oa, oc, na, nc, ma, mc, la, lc, da, dc, pa, pc, rfl, rfl, rfl, rfl, rfl, rfl⟩ := h.forms
  unfold eV
  have hst : Still w (w.alloc (.cells #[.int .i64 e.kind, .int .i64 e.txn, .int .i64 e.unit, .int .i64 e.half, .int .i64 e.prev, .int .i64 e.next, .int .i64 e.ap, .int .i64 e.ac, .int .i64 e.tp, .int .i64 e.tc, .slice oa e.old.length oc, .slice na e.new.length nc, .slice ma e.moves.length mc, .slice la e.lives.length lc, .slice da e.dirty.length dc, .slice pa e.opens.length pc] 34)) := (Still.refl w).alloc _
  have HMY := Lib.hid (mayE_any _ Q e _ _ _ _ _ _ (h.still hst))
  rw [hm] at HMY
  unfold eV at HMY
  have hbx := cellsAt_new w [.int .i64 e.kind, .int .i64 e.txn, .int .i64 e.unit, .int .i64 e.half, .int .i64 e.prev, .int .i64 e.next, .int .i64 e.ap, .int .i64 e.ac, .int .i64 e.tp, .int .i64 e.tc, .slice oa e.old.length oc, .slice na e.new.length nc, .slice ma e.moves.length mc, .slice la e.lives.length lc, .slice da e.dirty.length dc, .slice pa e.opens.length pc] 34
  have HB := Lib.hid (fun w2 (hs : Still (w.alloc (.cells #[.int .i64 e.kind, .int .i64 e.txn, .int .i64 e.unit, .int .i64 e.half, .int .i64 e.prev, .int .i64 e.next, .int .i64 e.ap, .int .i64 e.ac, .int .i64 e.tp, .int .i64 e.tc, .slice oa e.old.length oc, .slice na e.new.length nc, .slice ma e.moves.length mc, .slice la e.lives.length lc, .slice da e.dirty.length dc, .slice pa e.opens.length pc] 34)) w2) => show cellsAt w2 w.heap.size [.int .i64 e.kind, .int .i64 e.txn, .int .i64 e.unit, .int .i64 e.half, .int .i64 e.prev, .int .i64 e.next, .int .i64 e.ap, .int .i64 e.ac, .int .i64 e.tp, .int .i64 e.tc, .slice oa e.old.length oc, .slice na e.new.length nc, .slice ma e.moves.length mc, .slice la e.lives.length lc, .slice da e.dirty.length dc, .slice pa e.opens.length pc] ∧ EIs w2 (fun g => g < w.heap.size) e (.slice oa e.old.length oc) (.slice na e.new.length nc) (.slice ma e.moves.length mc) (.slice la e.lives.length lc) (.slice da e.dirty.length dc) (.slice pa e.opens.length pc) ∧ Still w w2 from ⟨hbx.only hs fun e => e, h.low.still (hst.trans hs), hst.trans hs⟩)
  have HY := Lib.hid (PE.may_nums hm)
  have HYI := Lib.hid (PE.may_lists hm)
  have HLS := Lib.hid (PE.may_lens hm)
  clear h hm hst hbx
  go_enter Tryz.func35, Tryz.ntmps35
  go_wp2_with fail
  refine HMY.out.mono ?_
  rintro en w2 ⟨rfl, hs2⟩
  clear HMY
  obtain ⟨hb2, hd2, hs2'⟩ := HB.out _ hs2
  have HB2 := Lib.hid (And.intro hb2 (And.intro hd2 hs2'))
  have hz2 := hs2'.size
  have hlt2 := hb2.lt
  have HZ2 := Lib.hid (And.intro hz2 hlt2)
  clear HB hb2 hd2 hs2 hs2' hz2 hlt2
  go_upto_region 4 with fail
  have hW := WrAt.new w2 115 113
  have hWs : Still w2 ((w2.alloc (.cells #[.slice none 0 0] 115)).alloc (.cells #[.pointer (some ⟨w2.heap.size, 0, none⟩)] 113)) := ((Still.refl w2).alloc _).alloc _
  have hVB : ((w2.alloc (.cells #[.slice none 0 0] 115)).alloc (.cells #[.pointer (some ⟨w2.heap.size, 0, none⟩)] 113)).cell? ⟨w2.heap.size + 1, 0, none⟩ = some (.pointer (some ⟨w2.heap.size, 0, none⟩)) := by
    simp
  generalize ((w2.alloc (.cells #[.slice none 0 0] 115)).alloc (.cells #[.pointer (some ⟨w2.heap.size, 0, none⟩)] 113)) = W at *
  obtain ⟨r, hr⟩ : ∃ r, w2.heap.size = r := ⟨_, rfl⟩
  obtain ⟨vb, hvb⟩ : ∃ vb, w2.heap.size + 1 = vb := ⟨_, rfl⟩
  have HZ := Lib.hid (show w.heap.size < r ∧ vb = r + 1 from by have := HZ2.out; omega)
  rw [hr] at hW hVB
  rw [show r + 1 = vb by omega] at hVB
  try rw [hr]
  try rw [show r + 1 = vb by omega]
  have HVB := Lib.hid (And.intro hVB (show ¬ vb = r by omega))
  have HD := Lib.hid (HB2.out.2.1.still hWs)
  have HQ := Lib.hid (fun g (e : g < w.heap.size) => show ¬ g = r by have := HZ.out; omega)
  have hc0 := HB2.out.1.only hWs fun e => e
  have KEEP := Lib.hid (fun S' v' w' (k : WrAt W (fun b => b = r) r S' v' w') => show w'.cell? ⟨vb, 0, none⟩ = some (.pointer (some ⟨r, 0, none⟩)) ∧ cellsAt w' w.heap.size [.int .i64 e.kind, .int .i64 e.txn, .int .i64 e.unit, .int .i64 e.half, .int .i64 e.prev, .int .i64 e.next, .int .i64 e.ap, .int .i64 e.ac, .int .i64 e.tp, .int .i64 e.tc, .slice oa e.old.length oc, .slice na e.new.length nc, .slice ma e.moves.length mc, .slice la e.lives.length lc, .slice da e.dirty.length dc, .slice pa e.opens.length pc] from ⟨(k.only.cell (World.block_lt_of_cell? _ _ hVB) HVB.out.2).trans hVB, hc0.only k.only fun e => by have := HZ.out; omega⟩)
  have HWS := Lib.hid (HB2.out.2.2.trans hWs)
  have H0 := Lib.hid hW
  have hk := KEEP.out _ _ _ hW
  have cv := hk.1
  have d0 : W.cell? ⟨w.heap.size, 0, none⟩ = some (.int .i64 e.kind) := hk.2.cell 0
  have d1 : W.cell? ⟨w.heap.size, 1, none⟩ = some (.int .i64 e.txn) := hk.2.cell 1
  clear hk hW hWs hVB hr hvb hc0 HB2 HZ2
  go_wp2_with fail
  refine (num2 1 rfl e.kind e.txn _ rfl H0.out (by omega) (by have := HY.out.1; omega) HY.out.2.2.1.1 (by simp)).mono ?_
  rintro en w3 ⟨rfl, v3, h3⟩
  have hk := KEEP.out _ _ _ h3
  clear cv d0 d1
  have cv := hk.1
  have d2 : w3.cell? ⟨w.heap.size, 2, none⟩ = some (.int .i64 e.unit) := hk.2.cell 2
  have H3 := Lib.hid h3
  clear h3 hk
  go_wp2_with fail
  refine (num1 2 rfl e.unit _ rfl H3.out (by omega) HY.out.2.2.2.2.1.1 (by simp only [List.length_append, numsB_length, List.length_cons, List.length_nil]; have := HLS.out; omega)).mono ?_
  rintro en w4 ⟨rfl, v4, h4⟩
  have hk := KEEP.out _ _ _ h4
  clear cv d2
  have cv := hk.1
  have d3 : w4.cell? ⟨w.heap.size, 3, none⟩ = some (.int .i64 e.half) := hk.2.cell 3
  have H4 := Lib.hid h4
  clear h4 hk
  go_wp2_with fail
  refine (num1 1 rfl e.half _ rfl H4.out (by omega) HY.out.2.2.2.1.1 (by simp only [List.length_append, numsB_length, List.length_cons, List.length_nil]; have := HLS.out; omega)).mono ?_
  rintro en w5 ⟨rfl, v5, h5⟩
  have hk := KEEP.out _ _ _ h5
  clear cv d3
  have cv := hk.1
  have d4 : w5.cell? ⟨w.heap.size, 4, none⟩ = some (.int .i64 e.prev) := hk.2.cell 4
  have d5 : w5.cell? ⟨w.heap.size, 5, none⟩ = some (.int .i64 e.next) := hk.2.cell 5
  have H5 := Lib.hid h5
  clear h5 hk
  go_wp2_with fail
  refine (num2 3 rfl e.prev e.next _ rfl H5.out (by omega) HY.out.2.2.2.2.2.1.1 HY.out.2.2.2.2.2.2.1.1 (by simp only [List.length_append, numsB_length, List.length_cons, List.length_nil]; have := HLS.out; omega)).mono ?_
  rintro en w6 ⟨rfl, v6, h6⟩
  have hk := KEEP.out _ _ _ h6
  clear cv d4 d5
  have cv := hk.1
  have d6 : w6.cell? ⟨w.heap.size, 6, none⟩ = some (.int .i64 e.ap) := hk.2.cell 6
  have d7 : w6.cell? ⟨w.heap.size, 7, none⟩ = some (.int .i64 e.ac) := hk.2.cell 7
  have H6 := Lib.hid h6
  clear h6 hk
  go_wp2_with fail
  refine (wspot_any e.ap e.ac H6.out HY.out.2.2.2.2.2.2.2.1.1 HY.out.2.2.2.2.2.2.2.2.1.1 (by simp only [List.length_append, numsB_length, List.length_cons, List.length_nil]; have := HLS.out; omega)).mono ?_
  rintro en w7 ⟨rfl, v7, h7⟩
  have hk := KEEP.out _ _ _ h7
  clear cv d6 d7
  have cv := hk.1
  have d8 : w7.cell? ⟨w.heap.size, 8, none⟩ = some (.int .i64 e.tp) := hk.2.cell 8
  have d9 : w7.cell? ⟨w.heap.size, 9, none⟩ = some (.int .i64 e.tc) := hk.2.cell 9
  have H7 := Lib.hid h7
  clear h7 hk
  go_wp2_with fail
  refine (wspot_any e.tp e.tc H7.out HY.out.2.2.2.2.2.2.2.2.2.1.1 HY.out.2.2.2.2.2.2.2.2.2.2.1 (by simp only [List.length_append, numsB_length, List.length_cons, List.length_nil]; have := HLS.out; omega)).mono ?_
  rintro en w8 ⟨rfl, v8, h8⟩
  have hk := KEEP.out _ _ _ h8
  clear cv d8 d9
  have cv := hk.1
  have d10 : w8.cell? ⟨w.heap.size, 10, none⟩ = some (.slice oa e.old.length oc) := hk.2.cell 10
  have H8 := Lib.hid h8
  clear h8 hk
  go_wp2_with fail
  refine (wimage_any H8.out HD.out.o HQ.out HYI.out.1 HD.out.bo (by simp only [List.length_append, numsB_length, List.length_cons, List.length_nil]; have := HLS.out; omega)).mono ?_
  rintro en w9 ⟨rfl, v9, h9⟩
  have hk := KEEP.out _ _ _ h9
  clear cv d10
  have cv := hk.1
  have d11 : w9.cell? ⟨w.heap.size, 11, none⟩ = some (.slice na e.new.length nc) := hk.2.cell 11
  have H9 := Lib.hid h9
  clear h9 hk
  go_wp2_with fail
  refine (wimage_any H9.out HD.out.n HQ.out HYI.out.2.1 HD.out.bn (by simp only [List.length_append, numsB_length, List.length_cons, List.length_nil]; have := HLS.out; omega)).mono ?_
  rintro en w10 ⟨rfl, v10, h10⟩
  have hk := KEEP.out _ _ _ h10
  clear cv d11
  have cv := hk.1
  have d12 : w10.cell? ⟨w.heap.size, 12, none⟩ = some (.slice ma e.moves.length mc) := hk.2.cell 12
  have H10 := Lib.hid h10
  clear h10 hk
  go_wp2_with fail
  refine (wlist_mv H10.out HD.out.m HQ.out rfl HYI.out.2.2.1 (by simp only [List.length_append, numsB_length, List.length_cons, List.length_nil]; have := HLS.out; omega)).mono ?_
  rintro en w11 ⟨rfl, v11, h11⟩
  have hk := KEEP.out _ _ _ h11
  clear cv d12
  have cv := hk.1
  have d13 : w11.cell? ⟨w.heap.size, 13, none⟩ = some (.slice la e.lives.length lc) := hk.2.cell 13
  have H11 := Lib.hid h11
  clear h11 hk
  go_wp2_with fail
  refine (wlist_lv H11.out HD.out.l HQ.out HVB.out.1 HVB.out.2 rfl HYI.out.2.2.2.1 (by simp only [List.length_append, numsB_length, List.length_cons, List.length_nil]; have := HLS.out; omega)).mono ?_
  rintro en w12 ⟨rfl, v12, h12⟩
  have hk := KEEP.out _ _ _ h12
  clear cv d13
  have cv := hk.1
  have d14 : w12.cell? ⟨w.heap.size, 14, none⟩ = some (.slice da e.dirty.length dc) := hk.2.cell 14
  have H12 := Lib.hid h12
  clear h12 hk
  go_wp2_with fail
  refine (wlist_dt H12.out HD.out.d HQ.out HVB.out.1 HVB.out.2 rfl HYI.out.2.2.2.2.1 (by simp only [List.length_append, numsB_length, List.length_cons, List.length_nil]; have := HLS.out; omega)).mono ?_
  rintro en w13 ⟨rfl, v13, h13⟩
  have hk := KEEP.out _ _ _ h13
  clear cv d14
  have cv := hk.1
  have d15 : w13.cell? ⟨w.heap.size, 15, none⟩ = some (.slice pa e.opens.length pc) := hk.2.cell 15
  have H13 := Lib.hid h13
  clear h13 hk
  go_wp2_with fail
  refine (wlist_op H13.out HD.out.p HQ.out HVB.out.1 HVB.out.2 rfl HYI.out.2.2.2.2.2 (by simp only [List.length_append, numsB_length, List.length_cons, List.length_nil]; have := HLS.out; omega)).mono ?_
  rintro en w14 ⟨rfl, v14, h14⟩
  have hk := KEEP.out _ _ _ h14
  clear cv d15
  have cv := hk.1
  have H14 := Lib.hid h14
  clear h14 hk
  have he : [] ++ numsB 1 [e.kind, e.txn] ++ numsB 2 [e.unit] ++ numsB 1 [e.half] ++ numsB 3 [e.prev, e.next] ++ numsB 1 [e.ap, e.ac] ++ numsB 1 [e.tp, e.tc] ++ imB e.old ++ imB e.new ++ listB mvB e.moves ++ listB lvB e.lives ++ listB dtB e.dirty ++ listB opB e.opens = encB e := by
    unfold encB
    simp only [List.nil_append]
  have hh := H14.out
  rw [he] at hh
  clear H14 he
  generalize hL : (encB e).length = L at *
  obtain ⟨va, vc, hv⟩ : ∃ va vc, v14 = .slice va L vc := by
    obtain ⟨va, vc, hv⟩ := hh.vec.form'
    exact ⟨va, vc, by rw [hv, hL]⟩
  have cr : w14.cell? ⟨r, 0, none⟩ = some v14 := hh.cells.cell 0
  have F := Lib.hid (show FreshPost w 1 L (bc (encB e)) (.returned v14) w14 from by
    have hzz := HWS.out.size
    have ho := HWS.out.andThen hh.only fun i hi e => by have := HZ.out; omega
    refine ⟨_, rfl, ?_, ho.below (Nat.le_refl _) (fun i hi e => e), fun g hg => ?_⟩
    · rw [← hL]
      exact hh.vec
    · have := hh.own g hg
      rcases this.1 with e | e
      · exact absurd e this.2.1
      · exact ⟨by omega, this.2.2⟩)
  subst hv
  clear hh hL
  go_wp2_with fail
  go_ret
  exact F.out
set_option maxHeartbeats 1000000 in
set_option maxRecDepth 100000 in
theorem put_no (w : World) (Q : Nat → Prop) (e : PE) (ov nv mv lv dv pv : Value) (h : EIs w Q e ov nv mv lv dv pv) (hm : e.may = false) : Calls Tryz.prog 35 #[.agg (eV e ov nv mv lv dv pv)] w (FreshPost w 1 0 []) := by
  obtain ⟨oa, oc, na, nc, ma, mc, la, lc, da, dc, pa, pc, rfl, rfl, rfl, rfl, rfl, rfl⟩ := h.forms
  unfold eV
  have hst : Still w (w.alloc (.cells #[.int .i64 e.kind, .int .i64 e.txn, .int .i64 e.unit, .int .i64 e.half, .int .i64 e.prev, .int .i64 e.next, .int .i64 e.ap, .int .i64 e.ac, .int .i64 e.tp, .int .i64 e.tc, .slice oa e.old.length oc, .slice na e.new.length nc, .slice ma e.moves.length mc, .slice la e.lives.length lc, .slice da e.dirty.length dc, .slice pa e.opens.length pc] 34)) := (Still.refl w).alloc _
  have HMY := Lib.hid (mayE_any _ Q e _ _ _ _ _ _ (h.still hst))
  rw [hm] at HMY
  unfold eV at HMY
  have F := Lib.hid (fun w' (hs : Still (w.alloc (.cells #[.int .i64 e.kind, .int .i64 e.txn, .int .i64 e.unit, .int .i64 e.half, .int .i64 e.prev, .int .i64 e.next, .int .i64 e.ap, .int .i64 e.ac, .int .i64 e.tp, .int .i64 e.tc, .slice oa e.old.length oc, .slice na e.new.length nc, .slice ma e.moves.length mc, .slice la e.lives.length lc, .slice da e.dirty.length dc, .slice pa e.opens.length pc] 34)) w') => show FreshPost w 1 0 [] (.returned (.slice none 0 0)) w' from ⟨_, rfl, Vec.nil _ _, (hst.trans hs).below (Nat.le_refl _) (fun _ _ e => e), fun g hg => by cases hg⟩)
  clear h hm hst
  go_enter Tryz.func35, Tryz.ntmps35
  go_wp2_with fail
  refine HMY.out.mono ?_
  rintro en w2 ⟨rfl, hs2⟩
  have F2 := Lib.hid (F.out _ hs2)
  clear hs2 F
  go_wp2_with fail
  go_ret
  exact F2.out
def putB (e : PE) : List Int := if e.may then encB e else []
theorem put_any (w : World) (Q : Nat → Prop) (e : PE) (ov nv mv lv dv pv : Value) (h : EIs w Q e ov nv mv lv dv pv) : Calls Tryz.prog 35 #[.agg (eV e ov nv mv lv dv pv)] w (FreshPost w 1 (putB e).length (bc (putB e))) := by
  unfold putB
  cases hm : e.may with
  | true => exact put_yes w Q e ov nv mv lv dv pv h hm
  | false => exact put_no w Q e ov nv mv lv dv pv h hm
end Go.Proofs.YtojkggppcmdepaaGreat

/- An entry as bytes. Conditions: it lies in memory. slices.Concat of bytes (with slices.Grow of none). Conditions: rows that can be read, at most four, not too long. A frame. Conditions: the entry lies in memory. A trail: an entry more; all entries stable. Conditions: all lies in memory, apart. The reader of bytes: so many, a number. Conditions: it lies in memory, apart from its bytes. -/
import Derived.Test.YtlcfoeikamkpmaaGreatPr06
import Derived.Lib.AppendZeros
namespace Go.Proofs.YtlcfoeikamkpmaaGreat
open Go.RowKit Go.Wh Go.Maps

theorem Sl.low' {w : World} {Q : Nat → Prop} {sz m : Nat} {dv : Value} {xs : List Value} (h : Sl w Q sz dv m xs) : Sl w (fun g => g < w.heap.size) sz dv m xs := h.low.mono fun _ e => e.2
theorem EIs.low {w : World} {Q : Nat → Prop} {e : PE} {ov nv mv lv dv pv : Value} (h : EIs w Q e ov nv mv lv dv pv) : EIs w (fun g => g < w.heap.size) e ov nv mv lv dv pv := by
 obtain ⟨mvs, k1, k2, k3⟩ := h.p
 exact ⟨h.o.low', h.n.low', h.m.low', h.l.low', h.d.low', ⟨mvs, k1, k2.low', fun k o mv hk hm => (k3 k o mv hk hm).low'⟩, h.bo, h.bn⟩
theorem PE.may_nums {e : PE} (h : e.may = true) : 1 ≤ e.kind ∧ e.kind ≤ 10 ∧ (0 ≤ e.txn ∧ e.txn < 256) ∧ (0 ≤ e.half ∧ e.half < 256) ∧ (0 ≤ e.unit ∧ e.unit < 65536) ∧ (0 ≤ e.prev ∧ e.prev < 16777216) ∧ (0 ≤ e.next ∧ e.next < 16777216) ∧ (0 ≤ e.ap ∧ e.ap < 256) ∧ (0 ≤ e.ac ∧ e.ac < 256) ∧ (0 ≤ e.tp ∧ e.tp < 256) ∧ (0 ≤ e.tc ∧ e.tc < 256) := by
 unfold PE.may at h
 simp only [Bool.and_eq_true, fitsB_cons, decide_eq_true_eq] at h
 have p1 : (256 : Int) ^ 1 = 256 := rfl
 have p2 : (256 : Int) ^ 2 = 65536 := rfl
 have p3 : (256 : Int) ^ 3 = 16777216 := rfl
 rw [p1, p2, p3] at h
 omega
theorem PE.may_lists {e : PE} (h : e.may = true) : e.old.length ≤ 26 ∧ e.new.length ≤ 26 ∧ eachB mvMay e.moves = true ∧ eachB lvMay e.lives = true ∧ eachB dtMay e.dirty = true ∧ eachB opMay e.opens = true := by
 unfold PE.may imgB at h
 simp only [Bool.and_eq_true, Bool.or_eq_true, decide_eq_true_eq] at h
 obtain ⟨⟨⟨⟨⟨⟨⟨⟨⟨⟨⟨⟨_, _⟩, _⟩, _⟩, _⟩, _⟩, _⟩, h8⟩, h9⟩, h10⟩, h11⟩, h12⟩, h13⟩ := h
 exact ⟨by omega, by omega, h10, h11, h12, h13⟩
theorem PE.may_lens {e : PE} (h : e.may = true) : (imB e.old).length ≤ 27 ∧ (imB e.new).length ≤ 27 ∧ (listB mvB e.moves).length ≤ 161 ∧ (listB lvB e.lives).length ≤ 321 ∧ (listB dtB e.dirty).length ≤ 161 ∧ (listB opB e.opens).length ≤ 6561 := by
 have hh := PE.may_lists h
 refine ⟨?_, ?_, listB_le mvB 4 _ hh.2.2.1 fun x _ => by simp [mvB, numsB_length], listB_le lvB 8 _ hh.2.2.2.1 fun x _ => by simp [lvB, numsB_length], listB_le dtB 4 _ hh.2.2.2.2.1 fun x _ => by simp [dtB, numsB_length], listB_le opB 164 _ hh.2.2.2.2.2 opB_le⟩
 · unfold imB
   simp only [List.length_append, numsB_length, List.length_cons, List.length_nil]
   omega
 · unfold imB
   simp only [List.length_append, numsB_length, List.length_cons, List.length_nil]
   omega

theorem WrAt.new (w : World) (t1 t2 : TypeId) : WrAt ((w.alloc (.cells #[.slice none 0 0] t1)).alloc (.cells #[.pointer (some ⟨w.heap.size, 0, none⟩)] t2)) (fun b => b = w.heap.size) w.heap.size [] (.slice none 0 0) ((w.alloc (.cells #[.slice none 0 0] t1)).alloc (.cells #[.pointer (some ⟨w.heap.size, 0, none⟩)] t2)) :=
 ⟨Only.refl _ _, rfl, by simp; omega, (cellsAt_new w [.slice none 0 0] t1).alloc _, Vec.nil _ _, (fun g e => by cases e), (fun z hz => by cases hz)⟩

set_option maxHeartbeats 4000000 in
set_option maxRecDepth 100000 in
theorem put_yes (w : World) (Q : Nat → Prop) (e : PE) (ov nv mv lv dv pv : Value) (h : EIs w Q e ov nv mv lv dv pv) (hm : e.may = true) : Calls Tryz.prog 87 #[.agg (eV e ov nv mv lv dv pv)] w (FreshPost w 1 (encB e).length (bc (encB e))) := by
 obtain ⟨oa, oc, na, nc, ma, mc, la, lc, da, dc, pa, pc, rfl, rfl, rfl, rfl, rfl, rfl⟩ := h.forms
 unfold eV
 have hst : Still w (w.alloc (.cells #[.int .i64 e.kind, .int .i64 e.txn, .int .i64 e.unit, .int .i64 e.half, .int .i64 e.prev, .int .i64 e.next, .int .i64 e.ap, .int .i64 e.ac, .int .i64 e.tp, .int .i64 e.tc, .slice oa e.old.length oc, .slice na e.new.length nc, .slice ma e.moves.length mc, .slice la e.lives.length lc, .slice da e.dirty.length dc, .slice pa e.opens.length pc] 69)) := (Still.refl w).alloc _
 have HMY := Lib.hid (mayE_any _ Q e _ _ _ _ _ _ (h.still hst))
 rw [hm] at HMY
 unfold eV at HMY
 have hbx := cellsAt_new w [.int .i64 e.kind, .int .i64 e.txn, .int .i64 e.unit, .int .i64 e.half, .int .i64 e.prev, .int .i64 e.next, .int .i64 e.ap, .int .i64 e.ac, .int .i64 e.tp, .int .i64 e.tc, .slice oa e.old.length oc, .slice na e.new.length nc, .slice ma e.moves.length mc, .slice la e.lives.length lc, .slice da e.dirty.length dc, .slice pa e.opens.length pc] 69
 have HB := Lib.hid (fun w2 (hs : Still (w.alloc (.cells #[.int .i64 e.kind, .int .i64 e.txn, .int .i64 e.unit, .int .i64 e.half, .int .i64 e.prev, .int .i64 e.next, .int .i64 e.ap, .int .i64 e.ac, .int .i64 e.tp, .int .i64 e.tc, .slice oa e.old.length oc, .slice na e.new.length nc, .slice ma e.moves.length mc, .slice la e.lives.length lc, .slice da e.dirty.length dc, .slice pa e.opens.length pc] 69)) w2) => show cellsAt w2 w.heap.size [.int .i64 e.kind, .int .i64 e.txn, .int .i64 e.unit, .int .i64 e.half, .int .i64 e.prev, .int .i64 e.next, .int .i64 e.ap, .int .i64 e.ac, .int .i64 e.tp, .int .i64 e.tc, .slice oa e.old.length oc, .slice na e.new.length nc, .slice ma e.moves.length mc, .slice la e.lives.length lc, .slice da e.dirty.length dc, .slice pa e.opens.length pc] ∧ EIs w2 (fun g => g < w.heap.size) e (.slice oa e.old.length oc) (.slice na e.new.length nc) (.slice ma e.moves.length mc) (.slice la e.lives.length lc) (.slice da e.dirty.length dc) (.slice pa e.opens.length pc) ∧ Still w w2 from ⟨hbx.only hs fun e => e, h.low.still (hst.trans hs), hst.trans hs⟩)
 have HY := Lib.hid (PE.may_nums hm)
 have HYI := Lib.hid (PE.may_lists hm)
 have HLS := Lib.hid (PE.may_lens hm)
 clear h hm hst hbx
 go_enter Tryz.func87, Tryz.ntmps87
 go_wp2_with fail
 refine HMY.out.mono ?_
 rintro en w2 ⟨rfl, hs2⟩
 clear HMY
 obtain ⟨hb2, hd2, hs2'⟩ := HB.out _ hs2
 have HB2 := Lib.hid (And.intro hb2 (And.intro hd2 hs2'))
 have hz2 := hs2'.size
 have hlt2 := hb2.lt
 have HZ2 := Lib.hid (And.intro hz2 hlt2)
 clear HB hb2 hd2 hs2 hs2' hz2 hlt2
 go_upto_region 4 with fail
 have hW := WrAt.new w2 175 173
 have hWs : Still w2 ((w2.alloc (.cells #[.slice none 0 0] 175)).alloc (.cells #[.pointer (some ⟨w2.heap.size, 0, none⟩)] 173)) := ((Still.refl w2).alloc _).alloc _
 have hVB : ((w2.alloc (.cells #[.slice none 0 0] 175)).alloc (.cells #[.pointer (some ⟨w2.heap.size, 0, none⟩)] 173)).cell? ⟨w2.heap.size + 1, 0, none⟩ = some (.pointer (some ⟨w2.heap.size, 0, none⟩)) := by
  simp
 generalize ((w2.alloc (.cells #[.slice none 0 0] 175)).alloc (.cells #[.pointer (some ⟨w2.heap.size, 0, none⟩)] 173)) = W at *
 obtain ⟨r, hr⟩ : ∃ r, w2.heap.size = r := ⟨_, rfl⟩
 obtain ⟨vb, hvb⟩ : ∃ vb, w2.heap.size + 1 = vb := ⟨_, rfl⟩
 have HZ := Lib.hid (show w.heap.size < r ∧ vb = r + 1 from by have := HZ2.out; omega)
 rw [hr] at hW hVB
 rw [show r + 1 = vb by omega] at hVB
 try rw [hr]
 try rw [show r + 1 = vb by omega]
 have HVB := Lib.hid (And.intro hVB (show ¬ vb = r by omega))
 have HD := Lib.hid (HB2.out.2.1.still hWs)
 have HQ := Lib.hid (fun g (e : g < w.heap.size) => show ¬ g = r by have := HZ.out; omega)
 have hc0 := HB2.out.1.only hWs fun e => e
 have KEEP := Lib.hid (fun S' v' w' (k : WrAt W (fun b => b = r) r S' v' w') => show w'.cell? ⟨vb, 0, none⟩ = some (.pointer (some ⟨r, 0, none⟩)) ∧ cellsAt w' w.heap.size [.int .i64 e.kind, .int .i64 e.txn, .int .i64 e.unit, .int .i64 e.half, .int .i64 e.prev, .int .i64 e.next, .int .i64 e.ap, .int .i64 e.ac, .int .i64 e.tp, .int .i64 e.tc, .slice oa e.old.length oc, .slice na e.new.length nc, .slice ma e.moves.length mc, .slice la e.lives.length lc, .slice da e.dirty.length dc, .slice pa e.opens.length pc] from ⟨(k.only.cell (World.block_lt_of_cell? _ _ hVB) HVB.out.2).trans hVB, hc0.only k.only fun e => by have := HZ.out; omega⟩)
 have HWS := Lib.hid (HB2.out.2.2.trans hWs)
 have H0 := Lib.hid hW
 have hk := KEEP.out _ _ _ hW
 have cv := hk.1
 have d0 : W.cell? ⟨w.heap.size, 0, none⟩ = some (.int .i64 e.kind) := hk.2.cell 0
 have d1 : W.cell? ⟨w.heap.size, 1, none⟩ = some (.int .i64 e.txn) := hk.2.cell 1
 clear hk hW hWs hVB hr hvb hc0 HB2 HZ2
 go_wp2_with fail
 refine (num2 1 rfl e.kind e.txn _ rfl H0.out (by omega) (by have := HY.out.1; omega) HY.out.2.2.1.1 (by simp)).mono ?_
 rintro en w3 ⟨rfl, v3, h3⟩
 have hk := KEEP.out _ _ _ h3
 clear cv d0 d1
 have cv := hk.1
 have d2 : w3.cell? ⟨w.heap.size, 2, none⟩ = some (.int .i64 e.unit) := hk.2.cell 2
 have H3 := Lib.hid h3
 clear h3 hk
 go_wp2_with fail
 refine (num1 2 rfl e.unit _ rfl H3.out (by omega) HY.out.2.2.2.2.1.1 (by simp only [List.length_append, numsB_length, List.length_cons, List.length_nil]; have := HLS.out; omega)).mono ?_
 rintro en w4 ⟨rfl, v4, h4⟩
 have hk := KEEP.out _ _ _ h4
 clear cv d2
 have cv := hk.1
 have d3 : w4.cell? ⟨w.heap.size, 3, none⟩ = some (.int .i64 e.half) := hk.2.cell 3
 have H4 := Lib.hid h4
 clear h4 hk
 go_wp2_with fail
 refine (num1 1 rfl e.half _ rfl H4.out (by omega) HY.out.2.2.2.1.1 (by simp only [List.length_append, numsB_length, List.length_cons, List.length_nil]; have := HLS.out; omega)).mono ?_
 rintro en w5 ⟨rfl, v5, h5⟩
 have hk := KEEP.out _ _ _ h5
 clear cv d3
 have cv := hk.1
 have d4 : w5.cell? ⟨w.heap.size, 4, none⟩ = some (.int .i64 e.prev) := hk.2.cell 4
 have d5 : w5.cell? ⟨w.heap.size, 5, none⟩ = some (.int .i64 e.next) := hk.2.cell 5
 have H5 := Lib.hid h5
 clear h5 hk
 go_wp2_with fail
 refine (num2 3 rfl e.prev e.next _ rfl H5.out (by omega) HY.out.2.2.2.2.2.1.1 HY.out.2.2.2.2.2.2.1.1 (by simp only [List.length_append, numsB_length, List.length_cons, List.length_nil]; have := HLS.out; omega)).mono ?_
 rintro en w6 ⟨rfl, v6, h6⟩
 have hk := KEEP.out _ _ _ h6
 clear cv d4 d5
 have cv := hk.1
 have d6 : w6.cell? ⟨w.heap.size, 6, none⟩ = some (.int .i64 e.ap) := hk.2.cell 6
 have d7 : w6.cell? ⟨w.heap.size, 7, none⟩ = some (.int .i64 e.ac) := hk.2.cell 7
 have H6 := Lib.hid h6
 clear h6 hk
 go_wp2_with fail
 refine (wspot_any e.ap e.ac H6.out HY.out.2.2.2.2.2.2.2.1.1 HY.out.2.2.2.2.2.2.2.2.1.1 (by simp only [List.length_append, numsB_length, List.length_cons, List.length_nil]; have := HLS.out; omega)).mono ?_
 rintro en w7 ⟨rfl, v7, h7⟩
 have hk := KEEP.out _ _ _ h7
 clear cv d6 d7
 have cv := hk.1
 have d8 : w7.cell? ⟨w.heap.size, 8, none⟩ = some (.int .i64 e.tp) := hk.2.cell 8
 have d9 : w7.cell? ⟨w.heap.size, 9, none⟩ = some (.int .i64 e.tc) := hk.2.cell 9
 have H7 := Lib.hid h7
 clear h7 hk
 go_wp2_with fail
 refine (wspot_any e.tp e.tc H7.out HY.out.2.2.2.2.2.2.2.2.2.1.1 HY.out.2.2.2.2.2.2.2.2.2.2.1 (by simp only [List.length_append, numsB_length, List.length_cons, List.length_nil]; have := HLS.out; omega)).mono ?_
 rintro en w8 ⟨rfl, v8, h8⟩
 have hk := KEEP.out _ _ _ h8
 clear cv d8 d9
 have cv := hk.1
 have d10 : w8.cell? ⟨w.heap.size, 10, none⟩ = some (.slice oa e.old.length oc) := hk.2.cell 10
 have H8 := Lib.hid h8
 clear h8 hk
 go_wp2_with fail
 refine (wimage_any H8.out HD.out.o HQ.out HYI.out.1 HD.out.bo (by simp only [List.length_append, numsB_length, List.length_cons, List.length_nil]; have := HLS.out; omega)).mono ?_
 rintro en w9 ⟨rfl, v9, h9⟩
 have hk := KEEP.out _ _ _ h9
 clear cv d10
 have cv := hk.1
 have d11 : w9.cell? ⟨w.heap.size, 11, none⟩ = some (.slice na e.new.length nc) := hk.2.cell 11
 have H9 := Lib.hid h9
 clear h9 hk
 go_wp2_with fail
 refine (wimage_any H9.out HD.out.n HQ.out HYI.out.2.1 HD.out.bn (by simp only [List.length_append, numsB_length, List.length_cons, List.length_nil]; have := HLS.out; omega)).mono ?_
 rintro en w10 ⟨rfl, v10, h10⟩
 have hk := KEEP.out _ _ _ h10
 clear cv d11
 have cv := hk.1
 have d12 : w10.cell? ⟨w.heap.size, 12, none⟩ = some (.slice ma e.moves.length mc) := hk.2.cell 12
 have H10 := Lib.hid h10
 clear h10 hk
 go_wp2_with fail
 refine (wlist_mv H10.out HD.out.m HQ.out rfl HYI.out.2.2.1 (by simp only [List.length_append, numsB_length, List.length_cons, List.length_nil]; have := HLS.out; omega)).mono ?_
 rintro en w11 ⟨rfl, v11, h11⟩
 have hk := KEEP.out _ _ _ h11
 clear cv d12
 have cv := hk.1
 have d13 : w11.cell? ⟨w.heap.size, 13, none⟩ = some (.slice la e.lives.length lc) := hk.2.cell 13
 have H11 := Lib.hid h11
 clear h11 hk
 go_wp2_with fail
 refine (wlist_lv H11.out HD.out.l HQ.out HVB.out.1 HVB.out.2 rfl HYI.out.2.2.2.1 (by simp only [List.length_append, numsB_length, List.length_cons, List.length_nil]; have := HLS.out; omega)).mono ?_
 rintro en w12 ⟨rfl, v12, h12⟩
 have hk := KEEP.out _ _ _ h12
 clear cv d13
 have cv := hk.1
 have d14 : w12.cell? ⟨w.heap.size, 14, none⟩ = some (.slice da e.dirty.length dc) := hk.2.cell 14
 have H12 := Lib.hid h12
 clear h12 hk
 go_wp2_with fail
 refine (wlist_dt H12.out HD.out.d HQ.out HVB.out.1 HVB.out.2 rfl HYI.out.2.2.2.2.1 (by simp only [List.length_append, numsB_length, List.length_cons, List.length_nil]; have := HLS.out; omega)).mono ?_
 rintro en w13 ⟨rfl, v13, h13⟩
 have hk := KEEP.out _ _ _ h13
 clear cv d14
 have cv := hk.1
 have d15 : w13.cell? ⟨w.heap.size, 15, none⟩ = some (.slice pa e.opens.length pc) := hk.2.cell 15
 have H13 := Lib.hid h13
 clear h13 hk
 go_wp2_with fail
 refine (wlist_op H13.out HD.out.p HQ.out HVB.out.1 HVB.out.2 rfl HYI.out.2.2.2.2.2 (by simp only [List.length_append, numsB_length, List.length_cons, List.length_nil]; have := HLS.out; omega)).mono ?_
 rintro en w14 ⟨rfl, v14, h14⟩
 have hk := KEEP.out _ _ _ h14
 clear cv d15
 have cv := hk.1
 have H14 := Lib.hid h14
 clear h14 hk
 have he : [] ++ numsB 1 [e.kind, e.txn] ++ numsB 2 [e.unit] ++ numsB 1 [e.half] ++ numsB 3 [e.prev, e.next] ++ numsB 1 [e.ap, e.ac] ++ numsB 1 [e.tp, e.tc] ++ imB e.old ++ imB e.new ++ listB mvB e.moves ++ listB lvB e.lives ++ listB dtB e.dirty ++ listB opB e.opens = encB e := by
  unfold encB
  simp only [List.nil_append]
 have hh := H14.out
 rw [he] at hh
 clear H14 he
 generalize hL : (encB e).length = L at *
 obtain ⟨va, vc, hv⟩ : ∃ va vc, v14 = .slice va L vc := by
  obtain ⟨va, vc, hv⟩ := hh.vec.form'
  exact ⟨va, vc, by rw [hv, hL]⟩
 have cr : w14.cell? ⟨r, 0, none⟩ = some v14 := hh.cells.cell 0
 have F := Lib.hid (show FreshPost w 1 L (bc (encB e)) (.returned v14) w14 from by
  have hzz := HWS.out.size
  have ho := HWS.out.andThen hh.only fun i hi e => by have := HZ.out; omega
  refine ⟨_, rfl, ?_, ho.below (Nat.le_refl _) (fun i hi e => e), fun g hg => ?_⟩
  · rw [← hL]
    exact hh.vec
  · have := hh.own g hg
    rcases this.1 with e | e
    · exact absurd e this.2.1
    · exact ⟨by omega, this.2.2⟩)
 subst hv
 clear hh hL
 go_wp2_with fail
 go_ret
 exact F.out
set_option maxHeartbeats 1000000 in
set_option maxRecDepth 100000 in
theorem put_no (w : World) (Q : Nat → Prop) (e : PE) (ov nv mv lv dv pv : Value) (h : EIs w Q e ov nv mv lv dv pv) (hm : e.may = false) : Calls Tryz.prog 87 #[.agg (eV e ov nv mv lv dv pv)] w (FreshPost w 1 0 []) := by
 obtain ⟨oa, oc, na, nc, ma, mc, la, lc, da, dc, pa, pc, rfl, rfl, rfl, rfl, rfl, rfl⟩ := h.forms
 unfold eV
 have hst : Still w (w.alloc (.cells #[.int .i64 e.kind, .int .i64 e.txn, .int .i64 e.unit, .int .i64 e.half, .int .i64 e.prev, .int .i64 e.next, .int .i64 e.ap, .int .i64 e.ac, .int .i64 e.tp, .int .i64 e.tc, .slice oa e.old.length oc, .slice na e.new.length nc, .slice ma e.moves.length mc, .slice la e.lives.length lc, .slice da e.dirty.length dc, .slice pa e.opens.length pc] 69)) := (Still.refl w).alloc _
 have HMY := Lib.hid (mayE_any _ Q e _ _ _ _ _ _ (h.still hst))
 rw [hm] at HMY
 unfold eV at HMY
 have F := Lib.hid (fun w' (hs : Still (w.alloc (.cells #[.int .i64 e.kind, .int .i64 e.txn, .int .i64 e.unit, .int .i64 e.half, .int .i64 e.prev, .int .i64 e.next, .int .i64 e.ap, .int .i64 e.ac, .int .i64 e.tp, .int .i64 e.tc, .slice oa e.old.length oc, .slice na e.new.length nc, .slice ma e.moves.length mc, .slice la e.lives.length lc, .slice da e.dirty.length dc, .slice pa e.opens.length pc] 69)) w') => show FreshPost w 1 0 [] (.returned (.slice none 0 0)) w' from ⟨_, rfl, Vec.nil _ _, (hst.trans hs).below (Nat.le_refl _) (fun _ _ e => e), fun g hg => by cases hg⟩)
 clear h hm hst
 go_enter Tryz.func87, Tryz.ntmps87
 go_wp2_with fail
 refine HMY.out.mono ?_
 rintro en w2 ⟨rfl, hs2⟩
 have F2 := Lib.hid (F.out _ hs2)
 clear hs2 F
 go_wp2_with fail
 go_ret
 exact F2.out
def putB (e : PE) : List Int := if e.may then encB e else []
theorem put_any (w : World) (Q : Nat → Prop) (e : PE) (ov nv mv lv dv pv : Value) (h : EIs w Q e ov nv mv lv dv pv) : Calls Tryz.prog 87 #[.agg (eV e ov nv mv lv dv pv)] w (FreshPost w 1 (putB e).length (bc (putB e))) := by
 unfold putB
 cases hm : e.may with
 | true => exact put_yes w Q e ov nv mv lv dv pv h hm
 | false => exact put_no w Q e ov nv mv lv dv pv h hm
end Go.Proofs.YtlcfoeikamkpmaaGreat

namespace Go.Proofs.YtlcfoeikamkpmaaGreat
open Go.RowKit Go.Wh Go.Maps

set_option maxHeartbeats 1000000 in
set_option maxRecDepth 100000 in
theorem grow_b (k : Nat) (w : World) (hk : k ≤ 100000) : Calls Tryz.prog 125 #[.slice none 0 0, .int .i64 k] w (FreshPost w 1 0 []) := by
 obtain ⟨i0, hi0, hz0, hz1, hz2⟩ := info_parts info_b
 have b0 : decide ((k : Int) < 0) = false := by simp
 by_cases hk0 : k = 0
 · subst hk0
   have F := Lib.hid (show FreshPost w 1 0 [] (.returned (.slice none 0 0)) w from ⟨_, rfl, Vec.nil _ _, Below.refl _ _, fun g hg => by cases hg⟩)
   go_enter Tryz.func125, Tryz.ntmps125
   go_wp2_with fail
   go_ret
   exact F.out
 · have hold : (Builtin.firstCells i0.size 0 (.slice none 0 0)).run Tryz.prog w.drew = .ok ([] : List Value).toArray w.drew := by simp [Builtin.firstCells]
   obtain ⟨G, hG⟩ : ∃ G, G = grownCap w k 0 5 := ⟨_, rfl⟩
   have hGn : k ≤ G := by rw [hG]; exact grownCap_ge w _ _ _
   have hG63 : G ≤ maxLen := by rw [hG]; exact grownCap_le_maxLen w k 0 5 (by simp only [maxLen]; omega)
   obtain ⟨z, hzz⟩ : ∃ z : Value, i0.zero = some z ∧ z.cells.size = 1 := ⟨_, hz0, rfl⟩
   obtain ⟨ROW, hROW⟩ : ∃ ROW : Array Value, ROW = ([] : List Value).toArray ++ Builtin.zeroCells z.cells k ++ Builtin.zeroCells z.cells (G - k) := ⟨_, rfl⟩
   obtain ⟨W1, hW1⟩ : ∃ W1, W1 = w.drew.alloc (.cells ROW 5) := ⟨_, rfl⟩
   have hrz : ∀ ty, (Builtin.append_ #[22, 3] ty #[.slice none 0 0, .int .i64 (k : Int)]).run Tryz.prog w = .ok (.slice (some ⟨w.heap.size, 0, none⟩) k G) W1 := fun ty => by
    have h := Lib.run_append_grow_zeros w 22 3 ty 5 i0 z .i64 .i64 Tryz.underlying22 Tryz.underlying3 hi0 hzz.1 none 0 0 [] hold k (by omega) (by omega) (by omega) (by omega) (by rw [hz2]; omega) (by rw [hz2]; exact growslice_fits (by omega) (by omega))
    rw [Nat.zero_add, ← hG, ← hROW, ← hW1] at h
    exact h
   have hRl : ROW.size = G * 1 := by
    rw [hROW]
    simp [Builtin.zeroCells, hzz.2]
    omega
   have hV1 : VecAt W1 1 w.heap.size 0 0 G [] := by
    have := vecAt_block (w := W1) (size := 1) (g := w.heap.size) (n := 0) (cap := G) (t := 5) (cs := ROW) (by rw [hW1]; exact heap_alloc_new w.drew _) hRl (Nat.zero_le _) hG63
    simpa using this
   have F := Lib.hid (show FreshPost w 1 0 [] (.returned (.slice (some ⟨w.heap.size, 0, none⟩) 0 G)) W1 from
    ⟨_, rfl, .inr ⟨_, _, _, rfl, hV1⟩, by rw [hW1]; exact (below_undrew ((Below.refl _ w.drew).alloc (Nat.le_refl _) _)), fun g hg => by cases hg; exact ⟨Nat.le_refl _, by rw [hW1]; simp⟩⟩)
   have R0 := Lib.hid hrz
   have b1 : decide (0 < k) = true := by simp; omega
   have b2 : (0 : Int) ≤ (G : Int) := by omega
   clear hrz hRl hV1 hW1 hROW hzz hold hG hG63 hGn hk0
   go_enter Tryz.func125, Tryz.ntmps125
   go_wp2_with (at_builtin; refine Lib.wpList_append_run _ rfl _ _ _ _ rfl _ _ rfl rfl _ _ (R0.out _) ?_)
   go_ret
   exact F.out


def catN (L : List (Value × Nat × List Value)) : Nat := (L.map fun p => p.2.1).sum
def catX (L : List (Value × Nat × List Value)) : List Value := L.flatMap fun p => p.2.2
theorem catN_snoc (L : List (Value × Nat × List Value)) (p : Value × Nat × List Value) : catN (L ++ [p]) = catN L + p.2.1 := by simp [catN]
theorem catX_snoc (L : List (Value × Nat × List Value)) (p : Value × Nat × List Value) : catX (L ++ [p]) = catX L ++ p.2.2 := by simp [catX]
theorem catN_le {k : Nat} : ∀ (L : List (Value × Nat × List Value)), (∀ p ∈ L, p.2.1 ≤ k) → catN L ≤ L.length * k
 | [], _ => by simp [catN]
 | p :: L, h => by
  have h1 := h p (by simp)
  have h2 := catN_le L fun q hq => h q (by simp [hq])
  have : catN (p :: L) = p.2.1 + catN L := by simp [catN]
  rw [this, List.length_cons, Nat.add_mul]
  omega
set_option maxHeartbeats 1000000 in
set_option maxRecDepth 100000 in
theorem concat_b (ab m c : Nat) (L : List (Value × Nat × List Value)) (w : World) (hab : cellsAt w ab (L.map (·.1))) (hm : L.length = m) (hr : ∀ p ∈ L, Reads w 1 p.1 p.2.1 p.2.2 ∧ (∀ u ∈ p.2.2, u.oneCell' = true) ∧ p.2.1 ≤ 10000) (h10 : m ≤ 4) :
 Calls Tryz.prog 88 #[.slice (some ⟨ab, 0, none⟩) m c] w (FreshPost w 1 (catN L) (catX L)) := by
 obtain ⟨i0, hi0, hz0, hz1, hz2⟩ := info_parts info_b
 have hcN : ∀ k, catN (L.take k) ≤ 40000 := fun k => by
  have h1 := catN_le (L.take k) (fun p hp => (hr p (List.mem_of_mem_take hp)).2.2)
  have h2 : (L.take k).length ≤ 4 := by rw [List.length_take]; omega
  have := Nat.mul_le_mul_right 10000 h2
  omega
 have H := Lib.hid (And.intro hab (And.intro hm (And.intro hr (And.intro h10 hcN))))
 have HI := Lib.hid (And.intro hi0 (And.intro hz0 (And.intro hz1 hz2)))
 have hg := grow_b (catN L) w (by have := hcN m; rw [List.take_of_length_le (by omega)] at this; have e : catN L ≤ 40000 := this; omega)
 have HG := Lib.hid hg
 clear hab hm hr h10 hcN hi0 hz0 hz1 hz2 hg
 have get : ∀ k, k < m → ∃ p, L[k]? = some p := fun k hk => ⟨_, List.getElem?_eq_getElem (by have := H.out.2.1; omega)⟩
 have GET := Lib.hid get
 clear get
 go_enter Tryz.func88, Tryz.ntmps88
 go_wp2_with fail
 go_loopw [3, 11] (fun t s wr => ∃ k : Nat, wr = w ∧ s = .int .i64 k ∧ k ≤ m ∧ t = .int .i64 (catN (L.take k) : Nat)) (fun _ s _ => m - (intOf s).toNat)
 case atStart => exact ⟨0, rfl, rfl, Nat.zero_le _, rfl⟩
 case round =>
  obtain ⟨k, rfl, rfl, hk, rfl⟩ := hrel
  by_cases hi : k < m
  · obtain ⟨p, hp⟩ := GET.out k hi
    have hpm := H.out.2.2.1 p (List.mem_of_getElem? hp)
    obtain ⟨pa, pc, hpv⟩ := Reads.form hpm.1
    have c0 : wr.cell? ⟨ab, k, none⟩ = some (.slice pa p.2.1 pc) := by
     rw [H.out.1.cell k, List.getElem?_map, hp, ← hpv]
     rfl
    have hcn := H.out.2.2.2.2 k
    have hp1 := hpm.2.2
    have HSN := Lib.hid (show catN (L.take (k + 1)) = catN (L.take k) + p.2.1 from by rw [List.take_add_one, hp, Option.toList_some, catN_snoc])
    have hm4 := H.out.2.2.2.1
    have b1 : decide ((k : Int) < (m : Int)) = true := by simp; omega
    have b2 : decide (k < m) = true := by simp; omega
    have b3 : (0 : Int) ≤ (k : Int) := by omega
    have b4 : (k : Int) < (m : Int) := by omega
    generalize catN (L.take k) = X at *
    generalize p.2.1 = y at *
    have w1 : decide ((X : Int) + (y : Int) < 0) = false := by simp; omega
    have w2 : IntKind.i64.wrap ((X : Int) + (y : Int)) = (X : Int) + (y : Int) := IntWalk.i64_in _ (by omega)
    clear hpm hp hpv
    go_wp2_with fail
    go_roundw
    case rel => exact ⟨k + 1, trivial, by go_num, by omega, by rw [HSN.out]; go_num⟩
    case measure => simp [intOf]; omega
  · have hke : k = m := by omega
    subst hke
    have b1 : decide ((k : Int) < (k : Int)) = false := by simp
    have hce : catN (L.take k) = catN L := by rw [List.take_of_length_le (by have := H.out.2.1; omega)]
    rw [hce]
    go_wp2_with fail
    refine HG.out.mono ?_
    rintro e w0 ⟨v0, rfl, hv0, hb0, hf0⟩
    have HV0 := Lib.hid (And.intro hv0 (And.intro hb0 hf0))
    clear hv0 hb0 hf0 HG hce
    go_wp2_with fail
    obtain ⟨wo, rfl⟩ : ∃ wo : World, wo = wr := ⟨_, rfl⟩
    go_loopw [6, 27] (fun t s wc => ∃ j : Nat, s = .int .i64 j ∧ j ≤ k ∧ CatRel wo 1 (catN (L.take j)) (catX (L.take j)) t wc) (fun _ s _ => k - (intOf s).toNat)
    case atStart => exact ⟨0, rfl, Nat.zero_le _, HV0.out⟩
    case round =>
     obtain ⟨j, rfl, hj, hc⟩ := hrel
     by_cases hi2 : j < k
     · obtain ⟨p, hp⟩ := GET.out j hi2
       have hpm := H.out.2.2.1 p (List.mem_of_getElem? hp)
       obtain ⟨pa, pc, hpv⟩ := Reads.form hpm.1
       have c0 : wo.cell? ⟨ab, j, none⟩ = some (.slice pa p.2.1 pc) := by
        rw [H.out.1.cell j, List.getElem?_map, hp, ← hpv]
        rfl
       have c0' := (hc.2.1.cell (lt_of_cell c0)).trans c0
       have hrd : Reads wr 1 (.slice pa p.2.1 pc) p.2.1 p.2.2 := by
        rw [← hpv]
        exact hpm.1.belowAll hc.2.1
       have HR := Lib.hid hrd
       have HC1 := Lib.hid hpm.2.1
       have HC := Lib.hid hc
       have hcn := H.out.2.2.2.2 j
       have hp1 := hpm.2.2
       have HSN := Lib.hid (show catN (L.take (j + 1)) = catN (L.take j) + p.2.1 ∧ catX (L.take (j + 1)) = catX (L.take j) ++ p.2.2 from by rw [List.take_add_one, hp, Option.toList_some, catN_snoc, catX_snoc]; exact ⟨rfl, rfl⟩)
       have hm4 := H.out.2.2.2.1
       have b1' : decide ((j : Int) < (k : Int)) = true := by simp; omega
       have b2 : decide (j < k) = true := by simp; omega
       have b3 : (0 : Int) ≤ (j : Int) := by omega
       have b4 : (j : Int) < (k : Int) := by omega
       generalize catN (L.take j) = X at *
       generalize catX (L.take j) = XX at *
       obtain ⟨pv, y, ys⟩ := p
       dsimp only at *
       obtain ⟨ua, uc, rfl⟩ := hc.1.form'
       clear hpm hp hpv hc hrd c0
       go_wp2_with (at_builtin; refine wpList_append_vec rfl _ _ 22 rfl 5 i0 _ 1 1 Tryz.underlying22 HI.out.1 HI.out.2.1 HI.out.2.2.1 HI.out.2.2.2 rfl (by decide) _ _ _ rfl HC.out.1 _ y ys rfl HR.out HC1.out (by simp only [maxLen]; omega) (by omega) ?_; intro v' w' hv' ho' hb'; have HN := Lib.hid (HC.out.next hv' ho' hb'); clear hv' ho' hb')
       go_roundw
       case rel => exact ⟨j + 1, by go_num, by omega, by rw [HSN.out.1, HSN.out.2]; exact HN.out⟩
       case measure => simp [intOf]; omega
     · have hje : j = k := by omega
       subst hje
       have b1' : decide ((j : Int) < (j : Int)) = false := by simp
       have hcL : CatRel wo 1 (catN L) (catX L) u6 wr := by
        rw [List.take_of_length_le (by have := H.out.2.1; omega)] at hc
        exact hc
       have F := Lib.hid (show FreshPost wo 1 (catN L) (catX L) (.returned u6) wr from ⟨_, rfl, hcL⟩)
       clear hc hcL
       go_wp2_with fail
       go_ret
       exact F.out
end Go.Proofs.YtlcfoeikamkpmaaGreat

namespace Go.Proofs.YtlcfoeikamkpmaaGreat
open Go.RowKit Go.Wh Go.Maps

set_option maxHeartbeats 2000000 in
set_option maxRecDepth 100000 in
theorem frame_yes (w : World) (Q : Nat → Prop) (e : PE) (ov nv mv lv dv pv : Value) (h : EIs w Q e ov nv mv lv dv pv) (hm : e.may = true) : Calls Tryz.prog 60 #[.agg (eV e ov nv mv lv dv pv)] w (FreshPost w 1 (frameB e).length (bc (frameB e))) := by
 obtain ⟨oa, oc, na, nc, ma, mc, la, lc, da, dc, pa, pc, rfl, rfl, rfl, rfl, rfl, rfl⟩ := h.forms
 unfold eV
 have hst : ∀ ob, Still w (w.alloc ob) := fun ob => (Still.refl w).alloc ob
 have HP := Lib.hid (fun ob => put_any _ Q e _ _ _ _ _ _ (h.still (hst ob)))
 have hpe : putB e = encB e := by unfold putB; rw [if_pos hm]
 rw [hpe] at HP
 unfold eV at HP
 have HS := Lib.hid hst
 have hlen := encB_le e hm
 have hby := encB_byt e h.bo h.bn
 have HLN := Lib.hid (And.intro hlen (And.intro hby (frameB_length e)))
 have hh2 := numsB2 ((encB e).length : Int)
 have hfr : frameB e = numsB 2 [((encB e).length : Int)] ++ encB e ++ chkB (encB e) := rfl
 rw [hh2] at hfr
 have HFR := Lib.hid hfr
 generalize hbl : (encB e).length = n at *
 have HN := Lib.hid hbl
 clear h hm hst hpe hby hh2 hfr hbl
 go_enter Tryz.func60, Tryz.ntmps60
 go_wp2_with fail
 refine (HP.out _).mono ?_
 rintro en w2 ⟨bv, rfl, hbv, hb2, ho2⟩
 have hs2 : Still w w2 := (HS.out _).trans (Only.ofBelow hb2)
 obtain ⟨ba, bcp, rfl⟩ := hbv.form'
 have hn0 : ((n : Int) == 0) = false := by simp; omega
 obtain ⟨hn1, hn2⟩ := hlen
 have H2 := Lib.hid (And.intro hs2 (And.intro hbv ho2))
 clear hs2 hbv hb2 ho2 HP HS
 go_wp2_with fail
 have HCK := Lib.hid (fun ob => check_any (w2.alloc ob) (.slice ba n bcp) n (encB e) ((Vec.sl0 H2.out.2.1 (by omega)).still ((Still.refl w2).alloc ob)) HLN.out.2.1 (by omega))
 refine (HCK.out _).mono ?_
 rintro en w3 ⟨cv, rfl, hcv, hb3, ho3⟩
 have hs3 : Still w2 w3 := ((Still.refl w2).alloc _).trans (Only.ofBelow hb3)
 obtain ⟨ca, cc, rfl⟩ := hcv.form'
 have H3 := Lib.hid (And.intro hs3 (And.intro hcv (Only.ofBelow (S := fun _ => False) hb3)))
 have q1 : (n : Int) / 256 % 256 = (n : Int) / 256 := by omega
 clear hs3 hcv hb3 ho3 HCK
 go_wp2_with fail
 have HCC := Lib.hid (fun t => concat_b w3.heap.size 3 3 [(.slice (some ⟨w2.heap.size, 0, none⟩) 2 2, 2, bc [(n : Int) / 256, (n : Int) % 256]), (.slice ba n bcp, n, bc (encB e)), (.slice ca 2 cc, 2, bc (chkB (encB e)))] (w3.alloc (.cells #[.slice (some ⟨w2.heap.size, 0, none⟩) 2 2, .slice ba n bcp, .slice ca 2 cc] t)) (cellsAt_new w3 [.slice (some ⟨w2.heap.size, 0, none⟩) 2 2, .slice ba n bcp, .slice ca 2 cc] t) rfl (fun p hp => by
  have hs := (Still.refl w3).alloc (.cells #[.slice (some ⟨w2.heap.size, 0, none⟩) 2 2, .slice ba n bcp, .slice ca 2 cc] t)
  simp only [List.mem_cons, List.not_mem_nil, or_false] at hp
  rcases hp with rfl | rfl | rfl
  · exact ⟨(((cellsAt_new w2 (bc [(n : Int) / 256, (n : Int) % 256]) 5).only H3.out.2.2 fun e => e).only hs fun e => e).reads rfl, bc_one _, by simp only; omega⟩
  · exact ⟨Reads.still (Reads.still H2.out.2.1.reads H3.out.1) hs, bc_one _, by simp only; omega⟩
  · exact ⟨Reads.still H3.out.2.1.reads hs, bc_one _, by simp only; omega⟩) (by omega))
 refine (HCC.out _).mono ?_
 rintro en w4 ⟨v4, rfl, hv4, hb4, ho4⟩
 have F := Lib.hid (show FreshPost w 1 (frameB e).length (bc (frameB e)) (.returned v4) w4 from by
  have hz := H3.out.1.size
  have hz2 := H2.out.1.size
  have hz3 : (w3.alloc (.cells #[.slice (some ⟨w2.heap.size, 0, none⟩) 2 2, .slice ba n bcp, .slice ca 2 cc] 22)).heap.size = w3.heap.size + 1 := by simp
  have hs4 : Still w w4 := ((H2.out.1.trans H3.out.1).alloc _).trans (Only.ofBelow hb4)
  have hN : catN [(Value.slice (some ⟨w2.heap.size, 0, none⟩) 2 2, 2, bc [(n : Int) / 256, (n : Int) % 256]), (.slice ba n bcp, n, bc (encB e)), (.slice ca 2 cc, 2, bc (chkB (encB e)))] = (frameB e).length := by
   rw [HLN.out.2.2]
   simp [catN]
   omega
  have hX : catX [(Value.slice (some ⟨w2.heap.size, 0, none⟩) 2 2, 2, bc [(n : Int) / 256, (n : Int) % 256]), (.slice ba n bcp, n, bc (encB e)), (.slice ca 2 cc, 2, bc (chkB (encB e)))] = bc (frameB e) := by
   rw [HFR.out, q1, bc_append, bc_append, List.append_assoc]
   simp [catX]
  rw [hN, hX] at hv4
  exact ⟨_, rfl, hv4, hs4.below (Nat.le_refl _) (fun i hi e => e), fun g hg => by have := ho4 g hg; omega⟩)
 clear hv4 hb4 ho4 HCC q1
 go_wp2_with fail
 go_ret
 exact F.out
set_option maxHeartbeats 2000000 in
set_option maxRecDepth 100000 in
theorem frame_no (w : World) (Q : Nat → Prop) (e : PE) (ov nv mv lv dv pv : Value) (h : EIs w Q e ov nv mv lv dv pv) (hm : e.may = false) : Calls Tryz.prog 60 #[.agg (eV e ov nv mv lv dv pv)] w (FreshPost w 1 0 []) := by
 obtain ⟨oa, oc, na, nc, ma, mc, la, lc, da, dc, pa, pc, rfl, rfl, rfl, rfl, rfl, rfl⟩ := h.forms
 unfold eV
 have hst : ∀ ob, Still w (w.alloc ob) := fun ob => (Still.refl w).alloc ob
 have HP := Lib.hid (fun ob => put_no _ Q e _ _ _ _ _ _ (h.still (hst ob)) hm)
 unfold eV at HP
 have HS := Lib.hid hst
 clear h hm hst
 go_enter Tryz.func60, Tryz.ntmps60
 go_wp2_with fail
 refine (HP.out _).mono ?_
 rintro en w2 ⟨bv, rfl, hbv, hb2, ho2⟩
 have hs2 : Still w w2 := (HS.out _).trans (Only.ofBelow hb2)
 obtain ⟨ba, bcp, rfl⟩ := hbv.form'
 have F := Lib.hid (show FreshPost w 1 0 [] (.returned (.slice none 0 0)) w2 from ⟨_, rfl, Vec.nil _ _, hs2.below (Nat.le_refl _) (fun i hi e => e), fun g hg => by cases hg⟩)
 clear hs2 hbv hb2 ho2 HP HS
 go_wp2_with fail
 go_ret
 exact F.out
end Go.Proofs.YtlcfoeikamkpmaaGreat

namespace Go.Proofs.YtlcfoeikamkpmaaGreat
open Go.RowKit Go.Wh Go.Maps

structure TlX (B : Nat → Prop) (t d at_ n : Nat) (es : List PE) (st : Nat) (w : World) : Prop where
 tl : ∃ sv, TlAt w t d at_ n (streamB es) sv es.length st ∧ B t ∧ ∀ g, sv.ownBlock = some g → B g
 lt : ∀ g, B g → g < w.heap.size
 len : (streamB es).length ≤ n * 63
 n_le : n ≤ 2000
 may : ∀ e ∈ es, e.may = true
 byt : ∀ e ∈ es, Byt e.old ∧ Byt e.new
 st_le : st ≤ es.length
theorem TlX.only {B S : Nat → Prop} {t d at_ n st : Nat} {es : List PE} {w w' : World} (h : TlX B t d at_ n es st w) (ho : Only S w w') (hs : ∀ g, B g → ¬ S g) : TlX B t d at_ n es st w' := by
 obtain ⟨sv, h1, h2, h3⟩ := h.tl
 exact ⟨⟨sv, h1.only ho (hs t h2) fun g hg => hs g (h3 g hg), h2, h3⟩, fun g hg => Nat.lt_of_lt_of_le (h.lt g hg) ho.size, h.len, h.n_le, h.may, h.byt, h.st_le⟩
theorem TlX.still {B : Nat → Prop} {t d at_ n st : Nat} {es : List PE} {w w' : World} (h : TlX B t d at_ n es st w) (hs : Still w w') : TlX B t d at_ n es st w' := h.only hs fun _ _ e => e
def Newer (B : Nat → Prop) (w w' : World) (g : Nat) : Prop := B g ∨ (w.heap.size ≤ g ∧ g < w'.heap.size)

def ApPost (B : Nat → Prop) (w : World) (t d at_ n : Nat) (es : List PE) (st : Nat) (e : PE) (en : Ending) (w' : World) : Prop :=
 ∃ es' a k, en = .returned (.tuple #[.int .i64 a, .int .i64 k]) ∧ TlX (Newer B w w') t d at_ n es' st w' ∧ Only B w w' ∧
  ((e.may = false ∧ es' = es ∧ a = 0 ∧ k = 1) ∨ (e.may = true ∧ n * 63 < (streamB es).length + (frameB e).length ∧ es' = es ∧ a = 0 ∧ k = 5) ∨ (e.may = true ∧ (streamB es).length + (frameB e).length ≤ n * 63 ∧ es' = es ++ [e] ∧ a = ((es.length + 1 : Nat) : Int) ∧ k = 0))
theorem TlX.newer {B : Nat → Prop} {t d at_ n st : Nat} {es : List PE} {w w' : World} (h : TlX B t d at_ n es st w) (hs : Still w w') : TlX (Newer B w w') t d at_ n es st w' := by
 have h' := h.still hs
 obtain ⟨sv, h1, h2, h3⟩ := h'.tl
 exact ⟨⟨sv, h1, .inl h2, fun g hg => .inl (h3 g hg)⟩, fun g hg => hg.elim (h'.lt g) fun e => e.2, h'.len, h'.n_le, h'.may, h'.byt, h'.st_le⟩

theorem own_slice {a : Option Addr} {m c m' c' : Nat} : (Value.slice a m c).ownBlock = (Value.slice a m' c').ownBlock := by cases a <;> rfl
set_option maxHeartbeats 4000000 in
set_option maxRecDepth 100000 in
theorem append_no {Q : Nat → Prop} (B : Nat → Prop) (w : World) (t d at_ n : Nat) (es : List PE) (st : Nat) (e : PE) (ov nv mv lv dv pv : Value) (h : TlX B t d at_ n es st w) (he : EIs w Q e ov nv mv lv dv pv) (hm : e.may = false) :
 Calls Tryz.prog 24 #[.pointer (some ⟨t, 0, none⟩), .agg (eV e ov nv mv lv dv pv)] w (ApPost B w t d at_ n es st e) := by
 obtain ⟨oa, oc, na, nc, ma, mc, la, lc, da, dc, pa, pc, rfl, rfl, rfl, rfl, rfl, rfl⟩ := he.forms
 have hst : ∀ ob, Still w (w.alloc ob) := fun ob => (Still.refl w).alloc ob
 have HF := Lib.hid (fun ob => frame_no (w.alloc ob) Q e _ _ _ _ _ _ (he.still (hst ob)) hm)
 unfold eV at HF ⊢
 have HS := Lib.hid hst
 have H := Lib.hid (And.intro h hm)
 clear h he hm hst
 go_enter Tryz.func24, Tryz.ntmps24
 go_wp2_with fail
 refine (HF.out _).mono ?_
 rintro en w2 ⟨bv, rfl, hbv, hb2, ho2⟩
 obtain ⟨ba, bcp, rfl⟩ := hbv.form'
 have hs2 := (HS.out _).trans (Only.ofBelow hb2)
 have F := Lib.hid (show ApPost B w t d at_ n es st e (.returned (.tuple #[.int .i64 0, .int .i64 1])) w2 from ⟨es, 0, 1, rfl, H.out.1.newer hs2, hs2.mono fun _ e => e.elim, .inl ⟨H.out.2, rfl, rfl, rfl⟩⟩)
 clear hbv hb2 ho2 hs2 HF HS
 go_wp2_with fail
 go_ret2
 exact F.out
set_option maxHeartbeats 4000000 in
set_option maxRecDepth 100000 in
theorem append_yes {Q : Nat → Prop} (B : Nat → Prop) (w : World) (t d at_ n : Nat) (es : List PE) (st : Nat) (e : PE) (ov nv mv lv dv pv : Value) (h : TlX B t d at_ n es st w) (he : EIs w Q e ov nv mv lv dv pv) (hm : e.may = true) :
 Calls Tryz.prog 24 #[.pointer (some ⟨t, 0, none⟩), .agg (eV e ov nv mv lv dv pv)] w (ApPost B w t d at_ n es st e) := by
 obtain ⟨oa, oc, na, nc, ma, mc, la, lc, da, dc, pa, pc, rfl, rfl, rfl, rfl, rfl, rfl⟩ := he.forms
 have hst : ∀ ob, Still w (w.alloc ob) := fun ob => (Still.refl w).alloc ob
 have HF := Lib.hid (fun ob => frame_yes (w.alloc ob) Q e _ _ _ _ _ _ (he.still (hst ob)) hm)
 unfold eV at HF ⊢
 have HS := Lib.hid hst
 have hfl := frameB_length e
 have hel := encB_le e hm
 have HBF := Lib.hid (frameB_byt e he.bo he.bn)
 have H := Lib.hid (And.intro h (And.intro hm (And.intro he.bo he.bn)))
 obtain ⟨fl, hfl2⟩ : ∃ fl, (frameB e).length = fl := ⟨_, rfl⟩
 have hfb : 1 ≤ fl ∧ fl ≤ 8010 := by omega
 rw [hfl2] at HF
 have HFL := Lib.hid hfl2
 obtain ⟨i0, hi0, hz0, hz1, hz2⟩ := info_parts info_b
 have HI := Lib.hid (And.intro hi0 (And.intro hz0 (And.intro hz1 hz2)))
 clear h he hm hst hfl hel hfl2 hi0 hz0 hz1 hz2
 go_enter Tryz.func24, Tryz.ntmps24
 go_wp2_with fail
 refine (HF.out _).mono ?_
 rintro en w2 ⟨bv, rfl, hbv, hb2, ho2⟩
 obtain ⟨ba, bcp, rfl⟩ := hbv.form'
 have hs2 := (HS.out _).trans (Only.ofBelow hb2)
 have hl0 : ((fl : Int) == 0) = false := by simp; omega
 have h2 := H.out.1.still hs2
 obtain ⟨sv, htl, hBt, hBs⟩ := h2.tl
 have HLF := Lib.hid (left_any w2 t d at_ n (streamB es) sv es.length st htl h2.n_le (by have := h2.len; have := h2.n_le; omega))
 have H2 := Lib.hid (And.intro h2 (And.intro hs2 (And.intro hbv (And.intro ho2 (And.intro htl (And.intro hBt hBs))))))
 have hSl : (streamB es).length ≤ 126000 := by have := h2.len; have := h2.n_le; omega
 have hnl := h2.n_le
 generalize hsl : (streamB es).length = sl at *
 have HSL := Lib.hid hsl
 clear hbv hb2 ho2 hs2 HF HS h2 htl hBt hBs hsl
 go_wp2_with fail
 refine HLF.out.mono ?_
 rintro en w3 ⟨rfl, hs3⟩
 have HS3 := Lib.hid hs3
 clear hs3 HLF
 by_cases hfull : n * 63 < sl + fl
 · have e1 : decide (63 * (n : Int) - (sl : Int) < (fl : Int)) = true := decide_eq_true (by omega)
   have F := Lib.hid (show ApPost B w t d at_ n es st e (.returned (.tuple #[.int .i64 0, .int .i64 5])) w3 from ⟨es, 0, 5, rfl, H.out.1.newer (H2.out.2.1.trans HS3.out), (H2.out.2.1.trans HS3.out).mono fun _ e => e.elim, .inr (.inl ⟨H.out.2.1, by rw [HSL.out, HFL.out]; exact hfull, rfl, rfl, rfl⟩)⟩)
   clear hfull
   go_wp2_with fail
   go_ret2
   exact F.out
 · have e1 : decide (63 * (n : Int) - (sl : Int) < (fl : Int)) = false := decide_eq_false (by omega)
   have HFU := Lib.hid hfull
   have htl3 := H2.out.2.2.2.2.1.still HS3.out
   obtain ⟨sa, sc, rfl⟩ := htl3.s.form'
   have c3 : w3.cell? ⟨t, 3, none⟩ = some (.slice sa (streamB es).length sc) := htl3.cells.cell 3
   have c4 : w3.cell? ⟨t, 4, none⟩ = some (.int .i64 es.length) := htl3.cells.cell 4
   rw [HSL.out] at c3
   have HT3 := Lib.hid htl3
   have HB3 := Lib.hid (Reads.still H2.out.2.2.1.reads HS3.out)
   clear htl3 hfull
   have hcl : es.length ≤ 126000 := by have := streamB_len es; have := HSL.out; omega
   have HCL := Lib.hid hcl
   have hv3 : Vec w3 1 (.slice sa sl sc) sl (bc (streamB es)) := by
    have := HT3.out.s
    rwa [HSL.out] at this
   have HV3 := Lib.hid hv3
   have u9 : IntKind.i64.wrap ((es.length : Int) + 1) = (es.length : Int) + 1 := IntWalk.i64_in _ (by omega)
   have HFIN := Lib.hid (fun v' w' (hv' : Vec w' 1 v' (sl + fl) (bc (streamB es) ++ bc (frameB e))) (ho' : Only (fun k => (Value.slice sa sl sc).ownBlock = some k) w3 w') (hb' : v'.ownBlock = (Value.slice sa sl sc).ownBlock ∨ ∃ g, v'.ownBlock = some g ∧ w3.heap.size ≤ g ∧ g < w'.heap.size) =>
    show w'.cell? ⟨t, 3, none⟩ = some (.slice sa sl sc) ∧ w'.frozen? ⟨t, 3, none⟩ = false ∧ w'.cell? ⟨t, 4, none⟩ = some (.int .i64 es.length) ∧ w'.frozen? ⟨t, 4, none⟩ = false ∧ ApPost B w t d at_ n es st e (.returned (.tuple #[.int .i64 ((es.length : Int) + 1), .int .i64 0])) ((w'.setCell ⟨t, 3, none⟩ v').setCell ⟨t, 4, none⟩ (.int .i64 ((es.length : Int) + 1))) from by
    have hne : ¬ (Value.slice sa sl sc).ownBlock = some t := fun e => (HT3.out.st_ t (own_slice.trans e)).1 rfl
    have hc := HT3.out.cells.only ho' hne
    have e3 : w'.cell? ⟨t, 3, none⟩ = some (.slice sa sl sc) := by
     have := hc.cell 3
     rw [HSL.out] at this
     exact this
    refine ⟨e3, hc.free 3, hc.cell 4, hc.free 4, es ++ [e], _, _, rfl, ?_, ?_, .inr (.inr ⟨H.out.2.1, by rw [HSL.out, HFL.out]; have := HFU.out; omega, rfl, by omega, rfl⟩)⟩
    · have hs1 := setCell_only w' ⟨t, 3, none⟩ v'
      have hs2 := setCell_only (w'.setCell ⟨t, 3, none⟩ v') ⟨t, 4, none⟩ (.int .i64 ((es.length : Int) + 1))
      have hss : Only (fun b => b = t) w' ((w'.setCell ⟨t, 3, none⟩ v').setCell ⟨t, 4, none⟩ (.int .i64 ((es.length : Int) + 1))) := hs1.trans hs2
      have hzz : ((w'.setCell ⟨t, 3, none⟩ v').setCell ⟨t, 4, none⟩ (.int .i64 ((es.length : Int) + 1))).heap.size = w'.heap.size := by simp [World.setCell]
      have hcc := (hc.setCell 3 v').setCell 4 (.int .i64 ((es.length : Int) + 1))
      have hzo := ho'.size
      have hz3 := HS3.out.size
      have hz2 := H2.out.2.1.size
      have htl := HT3.out.cells.lt
      have hv't : ∀ g, v'.ownBlock = some g → g ≠ t ∧ g < w'.heap.size ∧ (B g ∨ w.heap.size ≤ g) := fun g hg => by
       rcases hb' with e' | ⟨g', e', e1, e2⟩
       · rw [e'] at hg
         have hg2 : (Value.slice sa (streamB es).length sc).ownBlock = some g := own_slice.trans hg
         have h1 := HT3.out.st_ g hg2
         exact ⟨h1.1, by omega, .inl (H2.out.2.2.2.2.2.2 g hg2)⟩
       · rw [e'] at hg
         injection hg with hg
         exact ⟨by omega, by omega, .inr (by omega)⟩
      have hbS := (streamB_append es [e]).trans (by rw [streamB_one])
      refine ⟨⟨v', ⟨?_, ?_, ?_, fun g hg => ⟨(hv't g hg).1, by rw [hzz]; exact (hv't g hg).2.1⟩⟩, .inl H2.out.2.2.2.2.2.1, fun g hg => (hv't g hg).2.2.elim .inl fun h => .inr ⟨h, by rw [hzz]; exact (hv't g hg).2.1⟩⟩, fun g hg => ?_, ?_, H.out.1.n_le, ?_, ?_, ?_⟩
      · rw [List.length_append, List.length_singleton]
        have : (((es.length + 1 : Nat)) : Int) = (es.length : Int) + 1 := by omega
        rw [this]
        exact hcc
      · rw [hbS, List.length_append, HSL.out, HFL.out, bc_append]
        exact hv'.only hss fun g hg e => (hv't g hg).1 e
      · rw [hbS]
        exact HT3.out.byt.append HBF.out
      · rw [hzz]
        rcases hg with hg | hg
        · have := H.out.1.lt g hg
          omega
        · have := hg.2
          rw [hzz] at this
          exact this
      · rw [hbS, List.length_append, HSL.out, HFL.out]
        have := HFU.out
        omega
      · intro x hx
        rcases List.mem_append.1 hx with hx | hx
        · exact H.out.1.may x hx
        · rw [List.mem_singleton.1 hx]
          exact H.out.2.1
      · intro x hx
        rcases List.mem_append.1 hx with hx | hx
        · exact H.out.1.byt x hx
        · rw [List.mem_singleton.1 hx]
          exact H.out.2.2
      · have := H.out.1.st_le
        rw [List.length_append]
        omega
    · have h1 : Only B w w' := ((H2.out.2.1.trans HS3.out).mono (T := B) fun _ e => e.elim).andThen ho' fun i hi e => H2.out.2.2.2.2.2.2 i (own_slice.trans e)
      exact (h1.setCell (.inl H2.out.2.2.2.2.2.1) _).setCell (.inl H2.out.2.2.2.2.2.1) _)
   clear hv3 hcl
   go_wp2_with (at_builtin; refine wpList_append_vec rfl _ _ 22 rfl 5 i0 _ 1 1 Tryz.underlying22 HI.out.1 HI.out.2.1 HI.out.2.2.1 HI.out.2.2.2 rfl (by decide) (.slice sa sl sc) sl (bc (streamB es)) (by simp [Act.eval]) HV3.out (.slice ba fl bcp) fl (bc (frameB e)) (by simp [Act.eval]) HB3.out (bc_one _) (by simp only [maxLen]; omega) (by omega) ?_; intro v' w' hv' ho' hb'; obtain ⟨g3, f3, g4, f4, hF⟩ := HFIN.out v' w' hv' ho' hb'; obtain ⟨va', vc', rfl⟩ := hv'.form'; have F := Lib.hid hF; clear hv' ho' hb' hF HFIN c3 c4)
   go_wp2_with fail
   go_ret2
   exact F.out
theorem append_any {Q : Nat → Prop} (B : Nat → Prop) (w : World) (t d at_ n : Nat) (es : List PE) (st : Nat) (e : PE) (ov nv mv lv dv pv : Value) (h : TlX B t d at_ n es st w) (he : EIs w Q e ov nv mv lv dv pv) :
 Calls Tryz.prog 24 #[.pointer (some ⟨t, 0, none⟩), .agg (eV e ov nv mv lv dv pv)] w (ApPost B w t d at_ n es st e) := by
 cases hm : e.may with
 | true => exact append_yes B w t d at_ n es st e ov nv mv lv dv pv h he hm
 | false => exact append_no B w t d at_ n es st e ov nv mv lv dv pv h he hm
end Go.Proofs.YtlcfoeikamkpmaaGreat

namespace Go.Proofs.YtlcfoeikamkpmaaGreat
open Go.RowKit Go.Wh Go.Maps

structure RAt (W : World) (X Q : Nat → Prop) (r : Nat) (s : RS) (w : World) : Prop where
 only : Only X W w
 rx : X r
 rl : r < W.heap.size
 qx : ∀ g, Q g → ¬ X g ∧ g < W.heap.size
 b : ∃ bv, cellsAt w r [bv, .bool s.2] ∧ Sl w Q 1 bv s.1.length (bc s.1) ∧ Cap s.1.length bv
 byt : Byt s.1
section
variable {W w w' : World} {X Q : Nat → Prop} {r : Nat} {s s' : RS}
theorem RAt.still (h : RAt W X Q r s w) (hs : Still w w') : RAt W X Q r s w' := by
 obtain ⟨bv, h1, h2, h3⟩ := h.b
 exact ⟨h.only.trans (hs.mono fun _ e => e.elim), h.rx, h.rl, h.qx, ⟨bv, h1.only hs (fun e => e), h2.still hs, h3⟩, h.byt⟩
theorem RAt.base (h : RAt W X Q r s w) : RAt w (fun b => b = r) Q r s w := by
 obtain ⟨bv, h1, h2⟩ := h.b
 exact ⟨Only.refl _ _, rfl, h1.lt, fun g hg => ⟨fun e => (h.qx g hg).1 (e ▸ h.rx), Nat.lt_of_lt_of_le (h.qx g hg).2 h.only.size⟩, ⟨bv, h1, h2⟩, h.byt⟩
theorem RAt.back (h : RAt W X Q r s w) (k : RAt w (fun b => b = r) Q r s' w') : RAt W X Q r s' w' :=
 ⟨h.only.trans (k.only.mono fun b e => by rw [e]; exact h.rx), h.rx, h.rl, h.qx, k.b, k.byt⟩
end
def TkPost (W : World) (X Q : Nat → Prop) (r : Nat) (n : Nat) (t : List Int × RS) (e : Ending) (w' : World) : Prop := ∃ v, e = .returned v ∧ Sl w' (fun _ => True) 1 v n (bc t.1) ∧ RAt W X Q r t.2 w'

theorem make_b (n : Nat) (hn : n ≤ 255) (w : World) : (Instr.makeSlice 22 (.int .i64 n) (.int .i64 n)).run Tryz.prog w = .ok (.slice (some ⟨w.heap.size, 0, none⟩) n n) (w.alloc (.cells (bc (List.replicate n 0)).toArray 5)) := by
 obtain ⟨i, hi, hz0, hz1, hz2⟩ := info_parts info_b
 have h := run_makeSlice (P := Tryz.prog) (w := w) 22 5 i (.int .u8 0) Tryz.underlying22 hi hz0 .i64 .i64 n n (by omega) (by omega) (by rw [hz1, Int.toNat_natCast]; omega) (by rw [hz2]; omega) (by omega)
 rw [hz1, Int.toNat_natCast] at h
 have e : madeCells (Value.int .u8 0).cells (n * 1) = (bc (List.replicate n 0)).toArray := by
  apply Array.ext
  · simp [madeCells, bc]
  · intro j h1 h2
    simp [madeCells, bc, Value.cells, Nat.mod_one]
 rw [e] at h
 exact h
set_option maxHeartbeats 1000000 in
set_option maxRecDepth 100000 in
theorem take_any (W w : World) (X Q : Nat → Prop) (r n : Nat) (s : RS) (h : RAt W X Q r s w) (hn : n ≤ 255) (hl : s.1.length ≤ 100000) :
 Calls Tryz.prog 166 #[.pointer (some ⟨r, 0, none⟩), .int .i64 n] w (TkPost W X Q r n (tkS n s)) := by
 obtain ⟨l, sh⟩ := s
 obtain ⟨bv, hc, hb, hcap⟩ := h.b
 dsimp only at hc hb hl hcap
 have f0 := hc.free 0
 have f1 := hc.free 1
 have c1 : w.cell? ⟨r, 1, none⟩ = some (.bool sh) := hc.cell 1
 by_cases hlt : l.length < n
 · have d1 : decide ((l.length : Int) < (n : Int)) = true := decide_eq_true (by omega)
   have d2 : decide (l.length < n) = true := decide_eq_true hlt
   have hmk := make_b n hn
   have F := Lib.hid (fun t => show TkPost W X Q r n (tkS n (l, sh)) (.returned (.slice (some ⟨w.heap.size, 0, none⟩) n n)) (((w.setCell ⟨r, 0, none⟩ (.slice none 0 0)).setCell ⟨r, 1, none⟩ (.bool true)).alloc (.cells (bc (List.replicate n 0)).toArray t)) from by
    have hts : tkS n (l, sh) = (List.replicate n 0, ([], true)) := by unfold tkS; rw [if_pos hlt]
    rw [hts]
    have hs1 := setCell_only w ⟨r, 0, none⟩ (.slice none 0 0)
    have hs2 := setCell_only (w.setCell ⟨r, 0, none⟩ (.slice none 0 0)) ⟨r, 1, none⟩ (.bool true)
    have hs : Only (fun b => b = r) w ((w.setCell ⟨r, 0, none⟩ (.slice none 0 0)).setCell ⟨r, 1, none⟩ (.bool true)) := hs1.trans hs2
    have hz : ((w.setCell ⟨r, 0, none⟩ (.slice none 0 0)).setCell ⟨r, 1, none⟩ (.bool true)).heap.size = w.heap.size := by simp [World.setCell]
    have hcc := ((hc.setCell 0 (.slice none 0 0)).setCell 1 (.bool true) : cellsAt _ r _)
    have hnew := cellsAt_new ((w.setCell ⟨r, 0, none⟩ (.slice none 0 0)).setCell ⟨r, 1, none⟩ (.bool true)) (bc (List.replicate n 0)) t
    rw [hz] at hnew
    refine ⟨_, rfl, ⟨by rw [bc_length, List.length_replicate, Nat.mul_one], .inr ⟨_, _, _, rfl, fun _ => ⟨trivial, hnew.lt⟩, fun j u hj => by rw [Nat.zero_add, hnew.cell]; exact hj⟩⟩, ?_⟩
    exact ⟨(h.only.trans (hs.mono fun b e => by rw [show b = r from e]; exact h.rx)).alloc _, h.rx, h.rl, h.qx, ⟨.slice none 0 0, hcc.alloc _, Sl.nil, ⟨_, _, rfl, Nat.le_refl _⟩⟩, fun z hz => by cases hz⟩)
   obtain ⟨ba, bcp, rfl⟩ := hb.form
   have c0 : w.cell? ⟨r, 0, none⟩ = some (.slice ba l.length bcp) := hc.cell 0
   generalize tkS n (l, sh) = TK at *
   generalize l.length = L at *
   clear hc hlt hn hl h hb hcap
   go_enter Tryz.func166, Tryz.ntmps166
   go_wp2_with fail
   go_ret
   exact F.out _
 · have d1 : decide ((l.length : Int) < (n : Int)) = false := decide_eq_false (by omega)
   have d2 : decide (l.length < n) = false := decide_eq_false hlt
   obtain ⟨pv, -, r1, -, hp1, hp2⟩ := hb.part (P := Tryz.prog) (size := 1) 22 Tryz.underlying22 (fun w => rfl) hcap (Nat.zero_le n) (show n ≤ l.length by omega)
   obtain ⟨qv, -, -, r2, hq1, hq2⟩ := hb.part (P := Tryz.prog) (size := 1) 22 Tryz.underlying22 (fun w => rfl) hcap (show n ≤ l.length by omega) (Nat.le_refl _)
   have r1' := r1 rfl
   have r2' := r2 rfl
   have F := Lib.hid (show TkPost W X Q r n (tkS n (l, sh)) (.returned pv) (w.setCell ⟨r, 0, none⟩ qv) from by
    have hts : tkS n (l, sh) = (l.take n, (l.drop n, sh)) := by unfold tkS; rw [if_neg hlt]
    rw [hts]
    have hs := setCell_only w ⟨r, 0, none⟩ qv
    have hcc := (hc.setCell 0 qv : cellsAt _ r _)
    have hqr : ∀ g, Q g → ¬ g = r := fun g hg e => (h.qx g hg).1 (e ▸ h.rx)
    have hps := (hp2 w Q hb).only hs hqr
    have hqs := (hq2 w Q hb).only hs hqr
    refine ⟨_, rfl, ?_, h.only.trans (hs.mono fun b e => by rw [show b = r from e]; exact h.rx), h.rx, h.rl, h.qx, ⟨qv, hcc, ?_, ?_⟩, h.byt.drop n⟩
    · have := hps.mono (R := fun _ => True) fun _ _ => trivial
      rw [Nat.zero_mul, List.drop_zero, Nat.sub_zero, Nat.mul_one, bc_take] at this
      exact this
    · rw [Nat.mul_one, Nat.mul_one, bc_drop, List.take_of_length_le (by rw [bc_length, List.length_drop]; omega)] at hqs
      rw [List.length_drop]
      exact hqs
    · rw [List.length_drop]
      exact hq1)
   obtain ⟨ba, bcp, rfl⟩ := hb.form
   have c0 : w.cell? ⟨r, 0, none⟩ = some (.slice ba l.length bcp) := hc.cell 0
   generalize tkS n (l, sh) = TK at *
   generalize l.length = L at *
   obtain ⟨pa, pc, rfl, -⟩ := hp1
   obtain ⟨qa, qc, rfl, -⟩ := hq1
   clear hc hlt hn hl h hb hcap hp2 hq2 r1 r2
   go_enter Tryz.func166, Tryz.ntmps166
   go_wp2_with fail
   go_ret
   exact F.out
end Go.Proofs.YtlcfoeikamkpmaaGreat

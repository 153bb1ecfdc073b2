/- Bytes as an entry. Conditions: they lie in memory. -/
import Derived.Test.YtlcfoeikamkpmaaGreatPr09
namespace Go.Proofs.YtlcfoeikamkpmaaGreat
open Go.RowKit Go.Wh Go.Maps

set_option maxHeartbeats 20000000 in
set_option maxRecDepth 100000 in
theorem take_walk (w : World) (Q : Nat → Prop) (bv : Value) (n : Nat) (b : List Int) (hb : Sl w Q 1 bv n (bc b)) (hc : Cap n bv) (hby : Byt b) (hl : b.length ≤ 100000) (hln : b.length = n) :
 Calls Tryz.prog 94 #[bv] w (TakePost w b) := by
 have hW1 : Still w ((w.alloc (.cells #[.int .i64 0, .int .i64 0, .int .i64 0, .int .i64 0, .int .i64 0, .int .i64 0, .int .i64 0, .int .i64 0, .int .i64 0, .int .i64 0, .slice none 0 0, .slice none 0 0, .slice none 0 0, .slice none 0 0, .slice none 0 0, .slice none 0 0] 69)).alloc (.cells #[bv, .bool false] 196)) := ((Still.refl w).alloc _).alloc _
 have hz1 : (w.alloc (.cells #[.int .i64 0, .int .i64 0, .int .i64 0, .int .i64 0, .int .i64 0, .int .i64 0, .int .i64 0, .int .i64 0, .int .i64 0, .int .i64 0, .slice none 0 0, .slice none 0 0, .slice none 0 0, .slice none 0 0, .slice none 0 0, .slice none 0 0] 69)).heap.size = w.heap.size + 1 := by simp
 have hz2 : ((w.alloc (.cells #[.int .i64 0, .int .i64 0, .int .i64 0, .int .i64 0, .int .i64 0, .int .i64 0, .int .i64 0, .int .i64 0, .int .i64 0, .int .i64 0, .slice none 0 0, .slice none 0 0, .slice none 0 0, .slice none 0 0, .slice none 0 0, .slice none 0 0] 69)).alloc (.cells #[bv, .bool false] 196)).heap.size = w.heap.size + 2 := by simp
 have hcr : cellsAt ((w.alloc (.cells #[.int .i64 0, .int .i64 0, .int .i64 0, .int .i64 0, .int .i64 0, .int .i64 0, .int .i64 0, .int .i64 0, .int .i64 0, .int .i64 0, .slice none 0 0, .slice none 0 0, .slice none 0 0, .slice none 0 0, .slice none 0 0, .slice none 0 0] 69)).alloc (.cells #[bv, .bool false] 196)) (w.heap.size + 1) [bv, .bool false] := by
  have := cellsAt_new (w.alloc (.cells #[.int .i64 0, .int .i64 0, .int .i64 0, .int .i64 0, .int .i64 0, .int .i64 0, .int .i64 0, .int .i64 0, .int .i64 0, .int .i64 0, .slice none 0 0, .slice none 0 0, .slice none 0 0, .slice none 0 0, .slice none 0 0, .slice none 0 0] 69)) [bv, .bool false] 196
  rwa [hz1] at this
 have hcz : cellsAt ((w.alloc (.cells #[.int .i64 0, .int .i64 0, .int .i64 0, .int .i64 0, .int .i64 0, .int .i64 0, .int .i64 0, .int .i64 0, .int .i64 0, .int .i64 0, .slice none 0 0, .slice none 0 0, .slice none 0 0, .slice none 0 0, .slice none 0 0, .slice none 0 0] 69)).alloc (.cells #[bv, .bool false] 196)) w.heap.size zE := (cellsAt_new w zE 69).alloc _
 have hR : RAt ((w.alloc (.cells #[.int .i64 0, .int .i64 0, .int .i64 0, .int .i64 0, .int .i64 0, .int .i64 0, .int .i64 0, .int .i64 0, .int .i64 0, .int .i64 0, .slice none 0 0, .slice none 0 0, .slice none 0 0, .slice none 0 0, .slice none 0 0, .slice none 0 0] 69)).alloc (.cells #[bv, .bool false] 196)) (fun x => x = w.heap.size + 1) (fun g => Q g ∧ g < w.heap.size) (w.heap.size + 1) (b, false) ((w.alloc (.cells #[.int .i64 0, .int .i64 0, .int .i64 0, .int .i64 0, .int .i64 0, .int .i64 0, .int .i64 0, .int .i64 0, .int .i64 0, .int .i64 0, .slice none 0 0, .slice none 0 0, .slice none 0 0, .slice none 0 0, .slice none 0 0, .slice none 0 0] 69)).alloc (.cells #[bv, .bool false] 196)) :=
  ⟨Only.refl _ _, rfl, hcr.lt, fun g hg => ⟨by have := hg.2; omega, by have := hg.2; omega⟩, ⟨bv, hcr, by rw [hln]; exact hb.low.still hW1, by rw [hln]; exact hc⟩, hby⟩
 have HBY := Lib.hid (And.intro hby (And.intro hb hln))
 have HW := Lib.hid (And.intro hW1 (And.intro hz2 (And.intro hcz hR)))
 obtain ⟨ba, bcp, rfl⟩ := hb.form
 have hlb : ((b, false) : RS).1.length ≤ 100000 := hl
 obtain ⟨q0, hq0⟩ : ∃ q, numS 1 ((b, false) : RS) = q := ⟨_, rfl⟩
 have hl0 : q0.2.1.length ≤ 100000 := by rw [← hq0]; exact numS_len hlb
 have HM0 := Lib.hid (fun (W2 : World) (X2 Q2 : Nat → Prop) (r2 : Nat) w2 (k : RAt W2 X2 Q2 r2 ((b, false) : RS) w2) => rnum_any 1 rfl k (by omega) hlb)
 rw [hq0] at HM0
 obtain ⟨q1, hq1⟩ : ∃ q, numS 1 q0.2 = q := ⟨_, rfl⟩
 have hl1 : q1.2.1.length ≤ 100000 := by rw [← hq1]; exact numS_len hl0
 have HM1 := Lib.hid (fun (W2 : World) (X2 Q2 : Nat → Prop) (r2 : Nat) w2 (k : RAt W2 X2 Q2 r2 q0.2 w2) => rnum_any 1 rfl k (by omega) hl0)
 rw [hq1] at HM1
 obtain ⟨q2, hq2⟩ : ∃ q, numS 2 q1.2 = q := ⟨_, rfl⟩
 have hl2 : q2.2.1.length ≤ 100000 := by rw [← hq2]; exact numS_len hl1
 have HM2 := Lib.hid (fun (W2 : World) (X2 Q2 : Nat → Prop) (r2 : Nat) w2 (k : RAt W2 X2 Q2 r2 q1.2 w2) => rnum_any 2 rfl k (by omega) hl1)
 rw [hq2] at HM2
 obtain ⟨q3, hq3⟩ : ∃ q, numS 1 q2.2 = q := ⟨_, rfl⟩
 have hl3 : q3.2.1.length ≤ 100000 := by rw [← hq3]; exact numS_len hl2
 have HM3 := Lib.hid (fun (W2 : World) (X2 Q2 : Nat → Prop) (r2 : Nat) w2 (k : RAt W2 X2 Q2 r2 q2.2 w2) => rnum_any 1 rfl k (by omega) hl2)
 rw [hq3] at HM3
 obtain ⟨q4, hq4⟩ : ∃ q, numS 3 q3.2 = q := ⟨_, rfl⟩
 have hl4 : q4.2.1.length ≤ 100000 := by rw [← hq4]; exact numS_len hl3
 have HM4 := Lib.hid (fun (W2 : World) (X2 Q2 : Nat → Prop) (r2 : Nat) w2 (k : RAt W2 X2 Q2 r2 q3.2 w2) => rnum_any 3 rfl k (by omega) hl3)
 rw [hq4] at HM4
 obtain ⟨q5, hq5⟩ : ∃ q, numS 3 q4.2 = q := ⟨_, rfl⟩
 have hl5 : q5.2.1.length ≤ 100000 := by rw [← hq5]; exact numS_len hl4
 have HM5 := Lib.hid (fun (W2 : World) (X2 Q2 : Nat → Prop) (r2 : Nat) w2 (k : RAt W2 X2 Q2 r2 q4.2 w2) => rnum_any 3 rfl k (by omega) hl4)
 rw [hq5] at HM5
 obtain ⟨q6, hq6⟩ : ∃ q, spS q5.2 = q := ⟨_, rfl⟩
 have hl6 : q6.2.1.length ≤ 100000 := by rw [← hq6]; exact spS_len hl5
 have HM6 := Lib.hid (fun (W2 : World) (X2 Q2 : Nat → Prop) (r2 : Nat) w2 (k : RAt W2 X2 Q2 r2 q5.2 w2) => rspot_any k hl5)
 rw [hq6] at HM6
 obtain ⟨q7, hq7⟩ : ∃ q, spS q6.2 = q := ⟨_, rfl⟩
 have hl7 : q7.2.1.length ≤ 100000 := by rw [← hq7]; exact spS_len hl6
 have HM7 := Lib.hid (fun (W2 : World) (X2 Q2 : Nat → Prop) (r2 : Nat) w2 (k : RAt W2 X2 Q2 r2 q6.2 w2) => rspot_any k hl6)
 rw [hq7] at HM7
 obtain ⟨q8, hq8⟩ : ∃ q, imS q7.2 = q := ⟨_, rfl⟩
 have hl8 : q8.2.1.length ≤ 100000 := by rw [← hq8]; exact imS_len hl7
 have HM8 := Lib.hid (fun (W2 : World) (X2 Q2 : Nat → Prop) (r2 : Nat) w2 (k : RAt W2 X2 Q2 r2 q7.2 w2) => rimage_any k hl7)
 have HIB8 := Lib.hid (fun (W2 : World) (X2 Q2 : Nat → Prop) (r2 : Nat) w2 (k : RAt W2 X2 Q2 r2 q7.2 w2) => imS_byt k.byt)
 rw [hq8] at HIB8
 rw [hq8] at HM8
 obtain ⟨q9, hq9⟩ : ∃ q, imS q8.2 = q := ⟨_, rfl⟩
 have hl9 : q9.2.1.length ≤ 100000 := by rw [← hq9]; exact imS_len hl8
 have HM9 := Lib.hid (fun (W2 : World) (X2 Q2 : Nat → Prop) (r2 : Nat) w2 (k : RAt W2 X2 Q2 r2 q8.2 w2) => rimage_any k hl8)
 have HIB9 := Lib.hid (fun (W2 : World) (X2 Q2 : Nat → Prop) (r2 : Nat) w2 (k : RAt W2 X2 Q2 r2 q8.2 w2) => imS_byt k.byt)
 rw [hq9] at HIB9
 rw [hq9] at HM9
 obtain ⟨q10, hq10⟩ : ∃ q, readsS mvS q9.2 = q := ⟨_, rfl⟩
 have hl10 : q10.2.1.length ≤ 100000 := by rw [← hq10]; exact readsS_len (fun _ => mvS_len) hl9
 have HM10 := Lib.hid (fun (W2 : World) (X2 Q2 : Nat → Prop) (r2 : Nat) w2 (k : RAt W2 X2 Q2 r2 q9.2 w2) => reads_mv k hl9)
 rw [hq10] at HM10
 obtain ⟨q11, hq11⟩ : ∃ q, readsS lvS q10.2 = q := ⟨_, rfl⟩
 have hl11 : q11.2.1.length ≤ 100000 := by rw [← hq11]; exact readsS_len (fun _ => lvS_len) hl10
 have HM11 := Lib.hid (fun (W2 : World) (X2 Q2 : Nat → Prop) (r2 : Nat) w2 (k : RAt W2 X2 Q2 r2 q10.2 w2) => reads_lv k hl10)
 rw [hq11] at HM11
 obtain ⟨q12, hq12⟩ : ∃ q, readsS dtS q11.2 = q := ⟨_, rfl⟩
 have hl12 : q12.2.1.length ≤ 100000 := by rw [← hq12]; exact readsS_len (fun _ => dtS_len) hl11
 have HM12 := Lib.hid (fun (W2 : World) (X2 Q2 : Nat → Prop) (r2 : Nat) w2 (k : RAt W2 X2 Q2 r2 q11.2 w2) => reads_dt k hl11)
 rw [hq12] at HM12
 obtain ⟨q13, hq13⟩ : ∃ q, readsS opS q12.2 = q := ⟨_, rfl⟩
 have hl13 : q13.2.1.length ≤ 100000 := by rw [← hq13]; exact readsS_len (fun _ => opS_len) hl12
 have HM13 := Lib.hid (fun (W2 : World) (X2 Q2 : Nat → Prop) (r2 : Nat) w2 (k : RAt W2 X2 Q2 r2 q12.2 w2) => reads_op k hl12)
 rw [hq13] at HM13
 have HTB := Lib.hid (decS_of hq0 hq1 hq2 hq3 hq4 hq5 hq6 hq7 hq8 hq9 hq10 hq11 hq12 hq13)
 clear hb hc hby hl hln hW1 hz1 hz2 hcr hcz hR hlb hl0 hq0 hl1 hq1 hl2 hq2 hl3 hq3 hl4 hq4 hl5 hq5 hl6 hq6 hl7 hq7 hl8 hq8 hl9 hq9 hl10 hq10 hl11 hq11 hl12 hq12 hl13 hq13
 obtain ⟨r, hr⟩ : ∃ r, w.heap.size + 1 = r := ⟨_, rfl⟩
 go_enter Tryz.func94, Tryz.ntmps94
 go_upto_region 2 with fail
 generalize hWW : ((w.alloc (.cells #[.int .i64 0, .int .i64 0, .int .i64 0, .int .i64 0, .int .i64 0, .int .i64 0, .int .i64 0, .int .i64 0, .int .i64 0, .int .i64 0, .slice none 0 0, .slice none 0 0, .slice none 0 0, .slice none 0 0, .slice none 0 0, .slice none 0 0] 69)).alloc (.cells #[.slice ba n bcp, .bool false] 196)) = W at HW ⊢
 clear hWW
 rw [hr] at HW
 try rw [hr]
 have HRZ := Lib.hid hr
 clear hr
 go_wp2_with fail
 refine (HM0.out _ _ _ _ _ HW.out.2.2.2).mono ?_
 rintro en w2 ⟨rfl, k0⟩
 have hst0 : Still w2 (w2.alloc (.cells #[.int .i64 q0.1, .int .i64 0, .int .i64 0, .int .i64 0, .int .i64 0, .int .i64 0, .int .i64 0, .int .i64 0, .int .i64 0, .int .i64 0, .slice none 0 0, .slice none 0 0, .slice none 0 0, .slice none 0 0, .slice none 0 0, .slice none 0 0] 69)) := (Still.refl w2).alloc _
 have HT0 := Lib.hid (show TkSt W (fun g => Q g ∧ g < w.heap.size) r w.heap.size w2.heap.size q0.2 ⟨q0.1, 0, 0, 0, 0, 0, 0, 0, 0, 0, [], [], [], [], [], []⟩ (.slice none 0 0) (.slice none 0 0) (.slice none 0 0) (.slice none 0 0) (.slice none 0 0) (.slice none 0 0) (w2.alloc (.cells #[.int .i64 q0.1, .int .i64 0, .int .i64 0, .int .i64 0, .int .i64 0, .int .i64 0, .int .i64 0, .int .i64 0, .int .i64 0, .int .i64 0, .slice none 0 0, .slice none 0 0, .slice none 0 0, .slice none 0 0, .slice none 0 0, .slice none 0 0] 69)) from
  ⟨k0.still hst0, cellsAt.only (HW.out.2.2.1.only k0.only (fun e => by have := HRZ.out; omega)) hst0 (fun e => e), cellsAt_new w2 [.int .i64 q0.1, .int .i64 0, .int .i64 0, .int .i64 0, .int .i64 0, .int .i64 0, .int .i64 0, .int .i64 0, .int .i64 0, .int .i64 0, .slice none 0 0, .slice none 0 0, .slice none 0 0, .slice none 0 0, .slice none 0 0, .slice none 0 0] 69, EIs.none _ _ _ _ _ _ _ _ _ _, by have := HW.out.2.1; omega, k0.only.size, by have := HRZ.out; omega⟩)
 clear k0 hst0
 obtain ⟨b3, hb3⟩ : ∃ x, w2.heap.size = x := ⟨_, rfl⟩
 rw [hb3] at HT0
 go_wp2_with fail
 clear hb3
 refine (HM1.out _ _ _ _ _ HT0.out.rd.base).mono ?_
 rintro en w3 ⟨rfl, k1⟩
 have hs1 := HT0.out.call k1
 have c1 : w3.cell? ⟨b3, 1, none⟩ = some (.int .i64 0) := hs1.c.cell 1
 have f1 : w3.frozen? ⟨b3, 1, none⟩ = false := hs1.c.free 1
 have HT1 := Lib.hid (hs1.store (e' := ⟨q0.1, q1.1, 0, 0, 0, 0, 0, 0, 0, 0, [], [], [], [], [], []⟩) (ov' := (.slice none 0 0)) (nv' := (.slice none 0 0)) (mv' := (.slice none 0 0)) (lv' := (.slice none 0 0)) (dv' := (.slice none 0 0)) (pv' := (.slice none 0 0)) 1 (.int .i64 q1.1) rfl (hs1.el.put_num rfl rfl rfl rfl rfl rfl))
 clear k1 hs1
 go_wp2_with fail
 refine (HM2.out _ _ _ _ _ HT1.out.rd.base).mono ?_
 rintro en w4 ⟨rfl, k2⟩
 have hs2 := HT1.out.call k2
 have c2 : w4.cell? ⟨b3, 2, none⟩ = some (.int .i64 0) := hs2.c.cell 2
 have f2 : w4.frozen? ⟨b3, 2, none⟩ = false := hs2.c.free 2
 have HT2 := Lib.hid (hs2.store (e' := ⟨q0.1, q1.1, q2.1, 0, 0, 0, 0, 0, 0, 0, [], [], [], [], [], []⟩) (ov' := (.slice none 0 0)) (nv' := (.slice none 0 0)) (mv' := (.slice none 0 0)) (lv' := (.slice none 0 0)) (dv' := (.slice none 0 0)) (pv' := (.slice none 0 0)) 2 (.int .i64 q2.1) rfl (hs2.el.put_num rfl rfl rfl rfl rfl rfl))
 clear k2 hs2
 go_wp2_with fail
 refine (HM3.out _ _ _ _ _ HT2.out.rd.base).mono ?_
 rintro en w5 ⟨rfl, k3⟩
 have hs3 := HT2.out.call k3
 have c3 : w5.cell? ⟨b3, 3, none⟩ = some (.int .i64 0) := hs3.c.cell 3
 have f3 : w5.frozen? ⟨b3, 3, none⟩ = false := hs3.c.free 3
 have HT3 := Lib.hid (hs3.store (e' := ⟨q0.1, q1.1, q2.1, q3.1, 0, 0, 0, 0, 0, 0, [], [], [], [], [], []⟩) (ov' := (.slice none 0 0)) (nv' := (.slice none 0 0)) (mv' := (.slice none 0 0)) (lv' := (.slice none 0 0)) (dv' := (.slice none 0 0)) (pv' := (.slice none 0 0)) 3 (.int .i64 q3.1) rfl (hs3.el.put_num rfl rfl rfl rfl rfl rfl))
 clear k3 hs3
 go_wp2_with fail
 refine (HM4.out _ _ _ _ _ HT3.out.rd.base).mono ?_
 rintro en w6 ⟨rfl, k4⟩
 have hs4 := HT3.out.call k4
 have c4 : w6.cell? ⟨b3, 4, none⟩ = some (.int .i64 0) := hs4.c.cell 4
 have f4 : w6.frozen? ⟨b3, 4, none⟩ = false := hs4.c.free 4
 have HT4 := Lib.hid (hs4.store (e' := ⟨q0.1, q1.1, q2.1, q3.1, q4.1, 0, 0, 0, 0, 0, [], [], [], [], [], []⟩) (ov' := (.slice none 0 0)) (nv' := (.slice none 0 0)) (mv' := (.slice none 0 0)) (lv' := (.slice none 0 0)) (dv' := (.slice none 0 0)) (pv' := (.slice none 0 0)) 4 (.int .i64 q4.1) rfl (hs4.el.put_num rfl rfl rfl rfl rfl rfl))
 clear k4 hs4
 go_wp2_with fail
 refine (HM5.out _ _ _ _ _ HT4.out.rd.base).mono ?_
 rintro en w7 ⟨rfl, k5⟩
 have hs5 := HT4.out.call k5
 have c5 : w7.cell? ⟨b3, 5, none⟩ = some (.int .i64 0) := hs5.c.cell 5
 have f5 : w7.frozen? ⟨b3, 5, none⟩ = false := hs5.c.free 5
 have HT5 := Lib.hid (hs5.store (e' := ⟨q0.1, q1.1, q2.1, q3.1, q4.1, q5.1, 0, 0, 0, 0, [], [], [], [], [], []⟩) (ov' := (.slice none 0 0)) (nv' := (.slice none 0 0)) (mv' := (.slice none 0 0)) (lv' := (.slice none 0 0)) (dv' := (.slice none 0 0)) (pv' := (.slice none 0 0)) 5 (.int .i64 q5.1) rfl (hs5.el.put_num rfl rfl rfl rfl rfl rfl))
 clear k5 hs5
 go_wp2_with fail
 refine (HM6.out _ _ _ _ _ HT5.out.rd.base).mono ?_
 rintro en w8 ⟨rfl, k6⟩
 have hs6 := HT5.out.call k6
 have c6 : w8.cell? ⟨b3, 6, none⟩ = some (.int .i64 0) := hs6.c.cell 6
 have f6 : w8.frozen? ⟨b3, 6, none⟩ = false := hs6.c.free 6
 have HU6 := Lib.hid (hs6.store (e' := ⟨q0.1, q1.1, q2.1, q3.1, q4.1, q5.1, q6.1.1, 0, 0, 0, [], [], [], [], [], []⟩) (ov' := (.slice none 0 0)) (nv' := (.slice none 0 0)) (mv' := (.slice none 0 0)) (lv' := (.slice none 0 0)) (dv' := (.slice none 0 0)) (pv' := (.slice none 0 0)) 6 (.int .i64 q6.1.1) rfl (hs6.el.put_num rfl rfl rfl rfl rfl rfl))
 have c7 : w8.cell? ⟨b3, 7, none⟩ = some (.int .i64 0) := hs6.c.cell 7
 have f7 : w8.frozen? ⟨b3, 7, none⟩ = false := hs6.c.free 7
 have HT6 := Lib.hid (HU6.out.store (e' := ⟨q0.1, q1.1, q2.1, q3.1, q4.1, q5.1, q6.1.1, q6.1.2, 0, 0, [], [], [], [], [], []⟩) (ov' := (.slice none 0 0)) (nv' := (.slice none 0 0)) (mv' := (.slice none 0 0)) (lv' := (.slice none 0 0)) (dv' := (.slice none 0 0)) (pv' := (.slice none 0 0)) 7 (.int .i64 q6.1.2) rfl (HU6.out.el.put_num rfl rfl rfl rfl rfl rfl))
 clear k6 hs6
 go_wp2_with fail
 refine (HM7.out _ _ _ _ _ HT6.out.rd.base).mono ?_
 rintro en w9 ⟨rfl, k7⟩
 have hs7 := HT6.out.call k7
 have c8 : w9.cell? ⟨b3, 8, none⟩ = some (.int .i64 0) := hs7.c.cell 8
 have f8 : w9.frozen? ⟨b3, 8, none⟩ = false := hs7.c.free 8
 have HU7 := Lib.hid (hs7.store (e' := ⟨q0.1, q1.1, q2.1, q3.1, q4.1, q5.1, q6.1.1, q6.1.2, q7.1.1, 0, [], [], [], [], [], []⟩) (ov' := (.slice none 0 0)) (nv' := (.slice none 0 0)) (mv' := (.slice none 0 0)) (lv' := (.slice none 0 0)) (dv' := (.slice none 0 0)) (pv' := (.slice none 0 0)) 8 (.int .i64 q7.1.1) rfl (hs7.el.put_num rfl rfl rfl rfl rfl rfl))
 have c9 : w9.cell? ⟨b3, 9, none⟩ = some (.int .i64 0) := hs7.c.cell 9
 have f9 : w9.frozen? ⟨b3, 9, none⟩ = false := hs7.c.free 9
 have HT7 := Lib.hid (HU7.out.store (e' := ⟨q0.1, q1.1, q2.1, q3.1, q4.1, q5.1, q6.1.1, q6.1.2, q7.1.1, q7.1.2, [], [], [], [], [], []⟩) (ov' := (.slice none 0 0)) (nv' := (.slice none 0 0)) (mv' := (.slice none 0 0)) (lv' := (.slice none 0 0)) (dv' := (.slice none 0 0)) (pv' := (.slice none 0 0)) 9 (.int .i64 q7.1.2) rfl (HU7.out.el.put_num rfl rfl rfl rfl rfl rfl))
 clear k7 hs7
 go_wp2_with fail
 refine (HM8.out _ _ _ _ _ HT7.out.rd.base).mono ?_
 rintro en w10 ⟨sv8, rfl, hv8, k8⟩
 have hs8 := HT7.out.call k8
 obtain ⟨sa8, sc8, rfl⟩ := hv8.form
 have c10 : w10.cell? ⟨b3, 10, none⟩ = some (.slice none 0 0) := hs8.c.cell 10
 have f10 : w10.frozen? ⟨b3, 10, none⟩ = false := hs8.c.free 10
 have HT8 := Lib.hid (hs8.store (e' := ⟨q0.1, q1.1, q2.1, q3.1, q4.1, q5.1, q6.1.1, q6.1.2, q7.1.1, q7.1.2, q8.1, [], [], [], [], []⟩) (ov' := (.slice sa8 q8.1.length sc8)) (nv' := (.slice none 0 0)) (mv' := (.slice none 0 0)) (lv' := (.slice none 0 0)) (dv' := (.slice none 0 0)) (pv' := (.slice none 0 0)) 10 (.slice sa8 q8.1.length sc8) rfl ⟨(hv8.mono fun g hg => by have := hs8.c.lt; have := HT7.out.c.lt; omega), hs8.el.n, hs8.el.m, hs8.el.l, hs8.el.d, hs8.el.p, (HIB8.out _ _ _ _ _ HT7.out.rd.base), hs8.el.bn⟩)
 clear k8 hs8 hv8
 go_wp2_with fail
 refine (HM9.out _ _ _ _ _ HT8.out.rd.base).mono ?_
 rintro en w11 ⟨sv9, rfl, hv9, k9⟩
 have hs9 := HT8.out.call k9
 obtain ⟨sa9, sc9, rfl⟩ := hv9.form
 have c11 : w11.cell? ⟨b3, 11, none⟩ = some (.slice none 0 0) := hs9.c.cell 11
 have f11 : w11.frozen? ⟨b3, 11, none⟩ = false := hs9.c.free 11
 have HT9 := Lib.hid (hs9.store (e' := ⟨q0.1, q1.1, q2.1, q3.1, q4.1, q5.1, q6.1.1, q6.1.2, q7.1.1, q7.1.2, q8.1, q9.1, [], [], [], []⟩) (ov' := (.slice sa8 q8.1.length sc8)) (nv' := (.slice sa9 q9.1.length sc9)) (mv' := (.slice none 0 0)) (lv' := (.slice none 0 0)) (dv' := (.slice none 0 0)) (pv' := (.slice none 0 0)) 11 (.slice sa9 q9.1.length sc9) rfl ⟨hs9.el.o, (hv9.mono fun g hg => by have := hs9.c.lt; have := HT8.out.c.lt; omega), hs9.el.m, hs9.el.l, hs9.el.d, hs9.el.p, hs9.el.bo, (HIB9.out _ _ _ _ _ HT8.out.rd.base)⟩)
 clear k9 hs9 hv9
 go_wp2_with fail
 refine (HM10.out _ _ _ _ _ HT9.out.rd.base).mono ?_
 rintro en w12 ⟨sv10, rfl, hv10, k10⟩
 have hs10 := HT9.out.call k10
 obtain ⟨sa10, sc10, rfl⟩ := hv10.form
 have c12 : w12.cell? ⟨b3, 12, none⟩ = some (.slice none 0 0) := hs10.c.cell 12
 have f12 : w12.frozen? ⟨b3, 12, none⟩ = false := hs10.c.free 12
 have HT10 := Lib.hid (hs10.store (e' := ⟨q0.1, q1.1, q2.1, q3.1, q4.1, q5.1, q6.1.1, q6.1.2, q7.1.1, q7.1.2, q8.1, q9.1, q10.1, [], [], []⟩) (ov' := (.slice sa8 q8.1.length sc8)) (nv' := (.slice sa9 q9.1.length sc9)) (mv' := (.slice sa10 q10.1.length sc10)) (lv' := (.slice none 0 0)) (dv' := (.slice none 0 0)) (pv' := (.slice none 0 0)) 12 (.slice sa10 q10.1.length sc10) rfl ⟨hs10.el.o, hs10.el.n, (hv10.mono fun g hg => by have := hs10.c.lt; have := HT9.out.c.lt; omega), hs10.el.l, hs10.el.d, hs10.el.p, hs10.el.bo, hs10.el.bn⟩)
 clear k10 hs10 hv10
 go_wp2_with fail
 refine (HM11.out _ _ _ _ _ HT10.out.rd.base).mono ?_
 rintro en w13 ⟨sv11, rfl, hv11, k11⟩
 have hs11 := HT10.out.call k11
 obtain ⟨sa11, sc11, rfl⟩ := hv11.form
 have c13 : w13.cell? ⟨b3, 13, none⟩ = some (.slice none 0 0) := hs11.c.cell 13
 have f13 : w13.frozen? ⟨b3, 13, none⟩ = false := hs11.c.free 13
 have HT11 := Lib.hid (hs11.store (e' := ⟨q0.1, q1.1, q2.1, q3.1, q4.1, q5.1, q6.1.1, q6.1.2, q7.1.1, q7.1.2, q8.1, q9.1, q10.1, q11.1, [], []⟩) (ov' := (.slice sa8 q8.1.length sc8)) (nv' := (.slice sa9 q9.1.length sc9)) (mv' := (.slice sa10 q10.1.length sc10)) (lv' := (.slice sa11 q11.1.length sc11)) (dv' := (.slice none 0 0)) (pv' := (.slice none 0 0)) 13 (.slice sa11 q11.1.length sc11) rfl ⟨hs11.el.o, hs11.el.n, hs11.el.m, (hv11.mono fun g hg => by have := hs11.c.lt; have := HT10.out.c.lt; omega), hs11.el.d, hs11.el.p, hs11.el.bo, hs11.el.bn⟩)
 clear k11 hs11 hv11
 go_wp2_with fail
 refine (HM12.out _ _ _ _ _ HT11.out.rd.base).mono ?_
 rintro en w14 ⟨sv12, rfl, hv12, k12⟩
 have hs12 := HT11.out.call k12
 obtain ⟨sa12, sc12, rfl⟩ := hv12.form
 have c14 : w14.cell? ⟨b3, 14, none⟩ = some (.slice none 0 0) := hs12.c.cell 14
 have f14 : w14.frozen? ⟨b3, 14, none⟩ = false := hs12.c.free 14
 have HT12 := Lib.hid (hs12.store (e' := ⟨q0.1, q1.1, q2.1, q3.1, q4.1, q5.1, q6.1.1, q6.1.2, q7.1.1, q7.1.2, q8.1, q9.1, q10.1, q11.1, q12.1, []⟩) (ov' := (.slice sa8 q8.1.length sc8)) (nv' := (.slice sa9 q9.1.length sc9)) (mv' := (.slice sa10 q10.1.length sc10)) (lv' := (.slice sa11 q11.1.length sc11)) (dv' := (.slice sa12 q12.1.length sc12)) (pv' := (.slice none 0 0)) 14 (.slice sa12 q12.1.length sc12) rfl ⟨hs12.el.o, hs12.el.n, hs12.el.m, hs12.el.l, (hv12.mono fun g hg => by have := hs12.c.lt; have := HT11.out.c.lt; omega), hs12.el.p, hs12.el.bo, hs12.el.bn⟩)
 clear k12 hs12 hv12
 go_wp2_with fail
 refine (HM13.out _ _ _ _ _ HT12.out.rd.base).mono ?_
 rintro en w15 ⟨sv13, rfl, hv13, k13⟩
 have hs13 := HT12.out.call k13
 obtain ⟨sa13, sc13, rfl⟩ : ∃ a c, sv13 = .slice a q13.1.length c := by
  obtain ⟨_, _, h, _⟩ := hv13
  exact h.form
 have c15 : w15.cell? ⟨b3, 15, none⟩ = some (.slice none 0 0) := hs13.c.cell 15
 have f15 : w15.frozen? ⟨b3, 15, none⟩ = false := hs13.c.free 15
 have HT13 := Lib.hid (hs13.store (e' := ⟨q0.1, q1.1, q2.1, q3.1, q4.1, q5.1, q6.1.1, q6.1.2, q7.1.1, q7.1.2, q8.1, q9.1, q10.1, q11.1, q12.1, q13.1⟩) (ov' := (.slice sa8 q8.1.length sc8)) (nv' := (.slice sa9 q9.1.length sc9)) (mv' := (.slice sa10 q10.1.length sc10)) (lv' := (.slice sa11 q11.1.length sc11)) (dv' := (.slice sa12 q12.1.length sc12)) (pv' := (.slice sa13 q13.1.length sc13)) 15 (.slice sa13 q13.1.length sc13) rfl ⟨hs13.el.o, hs13.el.n, hs13.el.m, hs13.el.l, hs13.el.d, (OpSl.mono hv13 fun g hg => by have := HT12.out.c.lt; omega), hs13.el.bo, hs13.el.bn⟩)
 clear k13 hs13 hv13
 go_upto_region 16 with fail
 as_aux_lemma =>
  have HTE := Lib.hid HT13.out
  generalize w15.setCell ⟨b3, 15, none⟩ (.slice sa13 q13.1.length sc13) = wE at HTE ⊢
  have HTB2 := Lib.hid (show takeE b = if q13.2.2 = false ∧ PE.may ⟨q0.1, q1.1, q2.1, q3.1, q4.1, q5.1, q6.1.1, q6.1.2, q7.1.1, q7.1.2, q8.1, q9.1, q10.1, q11.1, q12.1, q13.1⟩ = true ∧ encB ⟨q0.1, q1.1, q2.1, q3.1, q4.1, q5.1, q6.1.1, q6.1.2, q7.1.1, q7.1.2, q8.1, q9.1, q10.1, q11.1, q12.1, q13.1⟩ = b then some ⟨q0.1, q1.1, q2.1, q3.1, q4.1, q5.1, q6.1.1, q6.1.2, q7.1.1, q7.1.2, q8.1, q9.1, q10.1, q11.1, q12.1, q13.1⟩ else none from by
   unfold takeE
   rw [HTB.out])
  have HSW := Lib.hid (show Still w wE from HW.out.1.andThen HTE.out.rd.only fun i hi e => by have := HRZ.out; omega)
  clear HM0 HM1 HM2 HM3 HM4 HM5 HM6 HM7 HM8 HM9 HM10 HM11 HM12 HM13 HIB8 HIB9 HT0 HT1 HT2 HT3 HT4 HT5 HT6 HT7 HT8 HT9 HT10 HT11 HT12 HT13 HU6 HU7
  obtain ⟨⟨l13, sh⟩, hsh⟩ : ∃ x : RS, q13.2 = x := ⟨_, rfl⟩
  rw [hsh] at HTE HTB2
  obtain ⟨bv2, hcr, -⟩ := HTE.out.rd.b
  have cs : wE.cell? ⟨r, 1, none⟩ = some (.bool sh) := hcr.cell 1
  clear hcr hsh
  cases sh with
  | true =>
   have HNO := Lib.hid (show takeE b = none from by
    have := HTB2.out
    rw [if_neg (fun h => by have := h.1; cases this)] at this
    exact this)
   as_aux_lemma =>
    obtain ⟨du, hu, hdu⟩ := under_en
    have HU := Lib.hid (And.intro hu hdu)
    clear hu hdu
    have HZC := Lib.hid HTE.out.z
    have F := Lib.hid (fun wf (hs : Still w wf) => show TakePost w b (.returned (.tuple #[.agg zE.toArray, .int .i64 4])) wf from TakePost.no HNO.out hs)
    go_wp2_with (refine wpList_storeAgg rfl 69 _ _ rfl w.heap.size #[.int .i64 0, .int .i64 0, .int .i64 0, .int .i64 0, .int .i64 0, .int .i64 0, .int .i64 0, .int .i64 0, .int .i64 0, .int .i64 0, .slice none 0 0, .slice none 0 0, .slice none 0 0, .slice none 0 0, .slice none 0 0, .slice none 0 0] rfl rfl HZC.out size_en rfl rfl ?_; intro wf hcf hof hzf; have FF := Lib.hid (F.out wf (HSW.out.andThen hof fun i hi e => by omega)); have HCF := Lib.hid hcf; clear hcf hof hzf)
    have z0 : wf.cell? ⟨w.heap.size, 0, none⟩ = some (.int .i64 0) := HCF.out.cell 0
    have z1 : wf.cell? ⟨w.heap.size, 1, none⟩ = some (.int .i64 0) := HCF.out.cell 1
    have z2 : wf.cell? ⟨w.heap.size, 2, none⟩ = some (.int .i64 0) := HCF.out.cell 2
    have z3 : wf.cell? ⟨w.heap.size, 3, none⟩ = some (.int .i64 0) := HCF.out.cell 3
    have z4 : wf.cell? ⟨w.heap.size, 4, none⟩ = some (.int .i64 0) := HCF.out.cell 4
    have z5 : wf.cell? ⟨w.heap.size, 5, none⟩ = some (.int .i64 0) := HCF.out.cell 5
    have z6 : wf.cell? ⟨w.heap.size, 6, none⟩ = some (.int .i64 0) := HCF.out.cell 6
    have z7 : wf.cell? ⟨w.heap.size, 7, none⟩ = some (.int .i64 0) := HCF.out.cell 7
    have z8 : wf.cell? ⟨w.heap.size, 8, none⟩ = some (.int .i64 0) := HCF.out.cell 8
    have z9 : wf.cell? ⟨w.heap.size, 9, none⟩ = some (.int .i64 0) := HCF.out.cell 9
    have z10 : wf.cell? ⟨w.heap.size, 10, none⟩ = some (.slice none 0 0) := HCF.out.cell 10
    have z11 : wf.cell? ⟨w.heap.size, 11, none⟩ = some (.slice none 0 0) := HCF.out.cell 11
    have z12 : wf.cell? ⟨w.heap.size, 12, none⟩ = some (.slice none 0 0) := HCF.out.cell 12
    have z13 : wf.cell? ⟨w.heap.size, 13, none⟩ = some (.slice none 0 0) := HCF.out.cell 13
    have z14 : wf.cell? ⟨w.heap.size, 14, none⟩ = some (.slice none 0 0) := HCF.out.cell 14
    have z15 : wf.cell? ⟨w.heap.size, 15, none⟩ = some (.slice none 0 0) := HCF.out.cell 15
    exact bodyPost_ret (v := .tuple #[.agg #[.int .i64 0, .int .i64 0, .int .i64 0, .int .i64 0, .int .i64 0, .int .i64 0, .int .i64 0, .int .i64 0, .int .i64 0, .int .i64 0, .slice none 0 0, .slice none 0 0, .slice none 0 0, .slice none 0 0, .slice none 0 0, .slice none 0 0], .int .i64 4]) (by simp [results, Tryz.results94, go_sem, z0, z1, z2, z3, z4, z5, z6, z7, z8, z9, z10, z11, z12, z13, z14, z15]) rfl FF.out
  | false =>
   have HP := Lib.hid (put_any wE (fun g => b3 < g) ⟨q0.1, q1.1, q2.1, q3.1, q4.1, q5.1, q6.1.1, q6.1.2, q7.1.1, q7.1.2, q8.1, q9.1, q10.1, q11.1, q12.1, q13.1⟩ (.slice sa8 q8.1.length sc8) (.slice sa9 q9.1.length sc9) (.slice sa10 q10.1.length sc10) (.slice sa11 q11.1.length sc11) (.slice sa12 q12.1.length sc12) (.slice sa13 q13.1.length sc13) HTE.out.el)
   unfold eV at HP
   obtain ⟨pb, hpb⟩ : ∃ pb, putB ⟨q0.1, q1.1, q2.1, q3.1, q4.1, q5.1, q6.1.1, q6.1.2, q7.1.1, q7.1.2, q8.1, q9.1, q10.1, q11.1, q12.1, q13.1⟩ = pb := ⟨_, rfl⟩
   have HPB := Lib.hid hpb
   rw [hpb] at HP
   have hbp : Byt pb := by
    rw [← hpb]
    unfold putB
    split
    · exact encB_byt _ HTE.out.el.bo HTE.out.el.bn
    · intro z hz; cases hz
   have HBP := Lib.hid hbp
   have c0 : wE.cell? ⟨b3, 0, none⟩ = some (.int .i64 q0.1) := HTE.out.c.cell 0
   have c1 : wE.cell? ⟨b3, 1, none⟩ = some (.int .i64 q1.1) := HTE.out.c.cell 1
   have c2 : wE.cell? ⟨b3, 2, none⟩ = some (.int .i64 q2.1) := HTE.out.c.cell 2
   have c3 : wE.cell? ⟨b3, 3, none⟩ = some (.int .i64 q3.1) := HTE.out.c.cell 3
   have c4 : wE.cell? ⟨b3, 4, none⟩ = some (.int .i64 q4.1) := HTE.out.c.cell 4
   have c5 : wE.cell? ⟨b3, 5, none⟩ = some (.int .i64 q5.1) := HTE.out.c.cell 5
   have c6 : wE.cell? ⟨b3, 6, none⟩ = some (.int .i64 q6.1.1) := HTE.out.c.cell 6
   have c7 : wE.cell? ⟨b3, 7, none⟩ = some (.int .i64 q6.1.2) := HTE.out.c.cell 7
   have c8 : wE.cell? ⟨b3, 8, none⟩ = some (.int .i64 q7.1.1) := HTE.out.c.cell 8
   have c9 : wE.cell? ⟨b3, 9, none⟩ = some (.int .i64 q7.1.2) := HTE.out.c.cell 9
   have c10 : wE.cell? ⟨b3, 10, none⟩ = some (.slice sa8 q8.1.length sc8) := HTE.out.c.cell 10
   have c11 : wE.cell? ⟨b3, 11, none⟩ = some (.slice sa9 q9.1.length sc9) := HTE.out.c.cell 11
   have c12 : wE.cell? ⟨b3, 12, none⟩ = some (.slice sa10 q10.1.length sc10) := HTE.out.c.cell 12
   have c13 : wE.cell? ⟨b3, 13, none⟩ = some (.slice sa11 q11.1.length sc11) := HTE.out.c.cell 13
   have c14 : wE.cell? ⟨b3, 14, none⟩ = some (.slice sa12 q12.1.length sc12) := HTE.out.c.cell 14
   have c15 : wE.cell? ⟨b3, 15, none⟩ = some (.slice sa13 q13.1.length sc13) := HTE.out.c.cell 15
   clear hpb hbp
   go_wp2_with fail
   refine HP.out.mono ?_
   rintro en wP ⟨pv, rfl, hpv, hpb2, hpo⟩
   have hsP : Still wE wP := Only.ofBelow hpb2
   have HSP := Lib.hid hsP
   have HEQ := Lib.hid (equal_any wP pv (.slice ba n bcp) pb.length n pb b (Vec.sl0 hpv (by omega)) ((HBY.out.2.1.still HSW.out).still hsP) HBP.out HBY.out.1)
   obtain ⟨pa, pc, rfl⟩ := hpv.form'
   generalize pb.length = pbl at *
   clear hpv hpb2 hpo hsP HP c0 c1 c2 c3 c4 c5 c6 c7 c8 c9 c10 c11 c12 c13 c14 c15
   go_wp2_with fail
   refine HEQ.out.mono ?_
   rintro en wQ ⟨rfl, rfl⟩
   clear HEQ
   by_cases hq : pb = b
   rotate_left
   · have hd : decide (pb = b) = false := decide_eq_false hq
     have HNO := Lib.hid (show takeE b = none from by
      rw [HTB2.out, if_neg]
      rintro ⟨-, h1, h2⟩
      apply hq
      rw [← HPB.out]
      unfold putB
      rw [if_pos h1, h2])
     clear hq
     as_aux_lemma =>
      obtain ⟨du, hu, hdu⟩ := under_en
      have HU := Lib.hid (And.intro hu hdu)
      clear hu hdu
      have HZC := Lib.hid (HTE.out.z.only HSP.out fun e => e)
      have F := Lib.hid (fun wf (hs : Still w wf) => show TakePost w b (.returned (.tuple #[.agg zE.toArray, .int .i64 4])) wf from TakePost.no HNO.out hs)
      go_wp2_with (refine wpList_storeAgg rfl 69 _ _ rfl w.heap.size #[.int .i64 0, .int .i64 0, .int .i64 0, .int .i64 0, .int .i64 0, .int .i64 0, .int .i64 0, .int .i64 0, .int .i64 0, .int .i64 0, .slice none 0 0, .slice none 0 0, .slice none 0 0, .slice none 0 0, .slice none 0 0, .slice none 0 0] rfl rfl HZC.out size_en rfl rfl ?_; intro wf hcf hof hzf; have FF := Lib.hid (F.out wf ((HSW.out.trans HSP.out).andThen hof fun i hi e => by omega)); have HCF := Lib.hid hcf; clear hcf hof hzf)
      have z0 : wf.cell? ⟨w.heap.size, 0, none⟩ = some (.int .i64 0) := HCF.out.cell 0
      have z1 : wf.cell? ⟨w.heap.size, 1, none⟩ = some (.int .i64 0) := HCF.out.cell 1
      have z2 : wf.cell? ⟨w.heap.size, 2, none⟩ = some (.int .i64 0) := HCF.out.cell 2
      have z3 : wf.cell? ⟨w.heap.size, 3, none⟩ = some (.int .i64 0) := HCF.out.cell 3
      have z4 : wf.cell? ⟨w.heap.size, 4, none⟩ = some (.int .i64 0) := HCF.out.cell 4
      have z5 : wf.cell? ⟨w.heap.size, 5, none⟩ = some (.int .i64 0) := HCF.out.cell 5
      have z6 : wf.cell? ⟨w.heap.size, 6, none⟩ = some (.int .i64 0) := HCF.out.cell 6
      have z7 : wf.cell? ⟨w.heap.size, 7, none⟩ = some (.int .i64 0) := HCF.out.cell 7
      have z8 : wf.cell? ⟨w.heap.size, 8, none⟩ = some (.int .i64 0) := HCF.out.cell 8
      have z9 : wf.cell? ⟨w.heap.size, 9, none⟩ = some (.int .i64 0) := HCF.out.cell 9
      have z10 : wf.cell? ⟨w.heap.size, 10, none⟩ = some (.slice none 0 0) := HCF.out.cell 10
      have z11 : wf.cell? ⟨w.heap.size, 11, none⟩ = some (.slice none 0 0) := HCF.out.cell 11
      have z12 : wf.cell? ⟨w.heap.size, 12, none⟩ = some (.slice none 0 0) := HCF.out.cell 12
      have z13 : wf.cell? ⟨w.heap.size, 13, none⟩ = some (.slice none 0 0) := HCF.out.cell 13
      have z14 : wf.cell? ⟨w.heap.size, 14, none⟩ = some (.slice none 0 0) := HCF.out.cell 14
      have z15 : wf.cell? ⟨w.heap.size, 15, none⟩ = some (.slice none 0 0) := HCF.out.cell 15
      exact bodyPost_ret (v := .tuple #[.agg #[.int .i64 0, .int .i64 0, .int .i64 0, .int .i64 0, .int .i64 0, .int .i64 0, .int .i64 0, .int .i64 0, .int .i64 0, .int .i64 0, .slice none 0 0, .slice none 0 0, .slice none 0 0, .slice none 0 0, .slice none 0 0, .slice none 0 0], .int .i64 4]) (by simp [results, Tryz.results94, go_sem, z0, z1, z2, z3, z4, z5, z6, z7, z8, z9, z10, z11, z12, z13, z14, z15]) rfl FF.out
   have hd : decide (pb = b) = true := decide_eq_true hq
   have HPQ := Lib.hid hq
   clear hq
   by_cases hn0 : n = 0
   · have hb0 : b = [] := List.length_eq_zero_iff.1 (by have := HBY.out.2.2; omega)
     have HNO := Lib.hid (show takeE b = none from by
      rw [HTB2.out, if_neg]
      rintro ⟨-, h1, h2⟩
      have := (encB_le _ h1).1
      rw [h2, hb0] at this
      simp at this)
     have hn1 : ((n : Int) == 0) = true := by rw [hn0]; rfl
     clear hn0 hb0
     as_aux_lemma =>
      obtain ⟨du, hu, hdu⟩ := under_en
      have HU := Lib.hid (And.intro hu hdu)
      clear hu hdu
      have HZC := Lib.hid (HTE.out.z.only HSP.out fun e => e)
      have F := Lib.hid (fun wf (hs : Still w wf) => show TakePost w b (.returned (.tuple #[.agg zE.toArray, .int .i64 4])) wf from TakePost.no HNO.out hs)
      go_wp2_with (refine wpList_storeAgg rfl 69 _ _ rfl w.heap.size #[.int .i64 0, .int .i64 0, .int .i64 0, .int .i64 0, .int .i64 0, .int .i64 0, .int .i64 0, .int .i64 0, .int .i64 0, .int .i64 0, .slice none 0 0, .slice none 0 0, .slice none 0 0, .slice none 0 0, .slice none 0 0, .slice none 0 0] rfl rfl HZC.out size_en rfl rfl ?_; intro wf hcf hof hzf; have FF := Lib.hid (F.out wf ((HSW.out.trans HSP.out).andThen hof fun i hi e => by omega)); have HCF := Lib.hid hcf; clear hcf hof hzf)
      have z0 : wf.cell? ⟨w.heap.size, 0, none⟩ = some (.int .i64 0) := HCF.out.cell 0
      have z1 : wf.cell? ⟨w.heap.size, 1, none⟩ = some (.int .i64 0) := HCF.out.cell 1
      have z2 : wf.cell? ⟨w.heap.size, 2, none⟩ = some (.int .i64 0) := HCF.out.cell 2
      have z3 : wf.cell? ⟨w.heap.size, 3, none⟩ = some (.int .i64 0) := HCF.out.cell 3
      have z4 : wf.cell? ⟨w.heap.size, 4, none⟩ = some (.int .i64 0) := HCF.out.cell 4
      have z5 : wf.cell? ⟨w.heap.size, 5, none⟩ = some (.int .i64 0) := HCF.out.cell 5
      have z6 : wf.cell? ⟨w.heap.size, 6, none⟩ = some (.int .i64 0) := HCF.out.cell 6
      have z7 : wf.cell? ⟨w.heap.size, 7, none⟩ = some (.int .i64 0) := HCF.out.cell 7
      have z8 : wf.cell? ⟨w.heap.size, 8, none⟩ = some (.int .i64 0) := HCF.out.cell 8
      have z9 : wf.cell? ⟨w.heap.size, 9, none⟩ = some (.int .i64 0) := HCF.out.cell 9
      have z10 : wf.cell? ⟨w.heap.size, 10, none⟩ = some (.slice none 0 0) := HCF.out.cell 10
      have z11 : wf.cell? ⟨w.heap.size, 11, none⟩ = some (.slice none 0 0) := HCF.out.cell 11
      have z12 : wf.cell? ⟨w.heap.size, 12, none⟩ = some (.slice none 0 0) := HCF.out.cell 12
      have z13 : wf.cell? ⟨w.heap.size, 13, none⟩ = some (.slice none 0 0) := HCF.out.cell 13
      have z14 : wf.cell? ⟨w.heap.size, 14, none⟩ = some (.slice none 0 0) := HCF.out.cell 14
      have z15 : wf.cell? ⟨w.heap.size, 15, none⟩ = some (.slice none 0 0) := HCF.out.cell 15
      exact bodyPost_ret (v := .tuple #[.agg #[.int .i64 0, .int .i64 0, .int .i64 0, .int .i64 0, .int .i64 0, .int .i64 0, .int .i64 0, .int .i64 0, .int .i64 0, .int .i64 0, .slice none 0 0, .slice none 0 0, .slice none 0 0, .slice none 0 0, .slice none 0 0, .slice none 0 0], .int .i64 4]) (by simp [results, Tryz.results94, go_sem, z0, z1, z2, z3, z4, z5, z6, z7, z8, z9, z10, z11, z12, z13, z14, z15]) rfl FF.out
   have hn1 : ((n : Int) == 0) = false := by simp; omega
   have HYES := Lib.hid (show takeE b = some ⟨q0.1, q1.1, q2.1, q3.1, q4.1, q5.1, q6.1.1, q6.1.2, q7.1.1, q7.1.2, q8.1, q9.1, q10.1, q11.1, q12.1, q13.1⟩ from by
    rw [HTB2.out, if_pos]
    have hm : PE.may ⟨q0.1, q1.1, q2.1, q3.1, q4.1, q5.1, q6.1.1, q6.1.2, q7.1.1, q7.1.2, q8.1, q9.1, q10.1, q11.1, q12.1, q13.1⟩ = true := by
     cases hm : PE.may ⟨q0.1, q1.1, q2.1, q3.1, q4.1, q5.1, q6.1.1, q6.1.2, q7.1.1, q7.1.2, q8.1, q9.1, q10.1, q11.1, q12.1, q13.1⟩ with
     | true => rfl
     | false =>
      exfalso
      have h1 := HPB.out
      unfold putB at h1
      rw [hm, HPQ.out] at h1
      have := HBY.out.2.2
      rw [← h1] at this
      simp at this
      omega
    refine ⟨by simp, hm, ?_⟩
    have h1 := HPB.out
    unfold putB at h1
    rw [if_pos hm, HPQ.out] at h1
    exact h1)
   clear hn0
   as_aux_lemma =>
    have hlow : w.heap.size < b3 := by have := HTE.out.z2; have := HTE.out.z3; omega
    have F := Lib.hid (fun wf (ho : Only (fun b => b = w.heap.size) wQ wf) => show TakePost w b (.returned (.tuple #[.agg (eV ⟨q0.1, q1.1, q2.1, q3.1, q4.1, q5.1, q6.1.1, q6.1.2, q7.1.1, q7.1.2, q8.1, q9.1, q10.1, q11.1, q12.1, q13.1⟩ (.slice sa8 q8.1.length sc8) (.slice sa9 q9.1.length sc9) (.slice sa10 q10.1.length sc10) (.slice sa11 q11.1.length sc11) (.slice sa12 q12.1.length sc12) (.slice sa13 q13.1.length sc13)), .int .i64 0])) wf from TakePost.yes HYES.out ((HSW.out.trans HSP.out).andThen ho fun i hi e => by omega) (EIs.mono ((HTE.out.el.still HSP.out).only ho fun g hg e => by omega) fun g hg => by omega))
    unfold eV at F
    obtain ⟨du, hu, hdu⟩ := under_en
    have HU := Lib.hid (And.intro hu hdu)
    have HZC := Lib.hid (HTE.out.z.only HSP.out fun e => e)
    have HCE := Lib.hid (show cellsAt wQ b3 (#[.int .i64 q0.1, .int .i64 q1.1, .int .i64 q2.1, .int .i64 q3.1, .int .i64 q4.1, .int .i64 q5.1, .int .i64 q6.1.1, .int .i64 q6.1.2, .int .i64 q7.1.1, .int .i64 q7.1.2, .slice sa8 q8.1.length sc8, .slice sa9 q9.1.length sc9, .slice sa10 q10.1.length sc10, .slice sa11 q11.1.length sc11, .slice sa12 q12.1.length sc12, .slice sa13 q13.1.length sc13] : Array Value).toList from HTE.out.c.only HSP.out fun e => e)
    clear hu hdu
    go_wp2_with (first
     | (refine wpList_loadAgg rfl 69 _ rfl b3 #[.int .i64 q0.1, .int .i64 q1.1, .int .i64 q2.1, .int .i64 q3.1, .int .i64 q4.1, .int .i64 q5.1, .int .i64 q6.1.1, .int .i64 q6.1.2, .int .i64 q7.1.1, .int .i64 q7.1.2, .slice sa8 q8.1.length sc8, .slice sa9 q9.1.length sc9, .slice sa10 q10.1.length sc10, .slice sa11 q11.1.length sc11, .slice sa12 q12.1.length sc12, .slice sa13 q13.1.length sc13] rfl HCE.out du HU.out.1 HU.out.2 size_en ?_)
     | (refine wpList_storeAgg rfl 69 _ _ rfl w.heap.size #[.int .i64 q0.1, .int .i64 q1.1, .int .i64 q2.1, .int .i64 q3.1, .int .i64 q4.1, .int .i64 q5.1, .int .i64 q6.1.1, .int .i64 q6.1.2, .int .i64 q7.1.1, .int .i64 q7.1.2, .slice sa8 q8.1.length sc8, .slice sa9 q9.1.length sc9, .slice sa10 q10.1.length sc10, .slice sa11 q11.1.length sc11, .slice sa12 q12.1.length sc12, .slice sa13 q13.1.length sc13] rfl rfl HZC.out size_en rfl rfl ?_; intro wf hcf hof hzf; have FF := Lib.hid (F.out wf hof); have HCF := Lib.hid hcf; clear hcf hof hzf))
    have z0 : wf.cell? ⟨w.heap.size, 0, none⟩ = some (.int .i64 q0.1) := HCF.out.cell 0
    have z1 : wf.cell? ⟨w.heap.size, 1, none⟩ = some (.int .i64 q1.1) := HCF.out.cell 1
    have z2 : wf.cell? ⟨w.heap.size, 2, none⟩ = some (.int .i64 q2.1) := HCF.out.cell 2
    have z3 : wf.cell? ⟨w.heap.size, 3, none⟩ = some (.int .i64 q3.1) := HCF.out.cell 3
    have z4 : wf.cell? ⟨w.heap.size, 4, none⟩ = some (.int .i64 q4.1) := HCF.out.cell 4
    have z5 : wf.cell? ⟨w.heap.size, 5, none⟩ = some (.int .i64 q5.1) := HCF.out.cell 5
    have z6 : wf.cell? ⟨w.heap.size, 6, none⟩ = some (.int .i64 q6.1.1) := HCF.out.cell 6
    have z7 : wf.cell? ⟨w.heap.size, 7, none⟩ = some (.int .i64 q6.1.2) := HCF.out.cell 7
    have z8 : wf.cell? ⟨w.heap.size, 8, none⟩ = some (.int .i64 q7.1.1) := HCF.out.cell 8
    have z9 : wf.cell? ⟨w.heap.size, 9, none⟩ = some (.int .i64 q7.1.2) := HCF.out.cell 9
    have z10 : wf.cell? ⟨w.heap.size, 10, none⟩ = some (.slice sa8 q8.1.length sc8) := HCF.out.cell 10
    have z11 : wf.cell? ⟨w.heap.size, 11, none⟩ = some (.slice sa9 q9.1.length sc9) := HCF.out.cell 11
    have z12 : wf.cell? ⟨w.heap.size, 12, none⟩ = some (.slice sa10 q10.1.length sc10) := HCF.out.cell 12
    have z13 : wf.cell? ⟨w.heap.size, 13, none⟩ = some (.slice sa11 q11.1.length sc11) := HCF.out.cell 13
    have z14 : wf.cell? ⟨w.heap.size, 14, none⟩ = some (.slice sa12 q12.1.length sc12) := HCF.out.cell 14
    have z15 : wf.cell? ⟨w.heap.size, 15, none⟩ = some (.slice sa13 q13.1.length sc13) := HCF.out.cell 15
    exact bodyPost_ret (v := .tuple #[.agg #[.int .i64 q0.1, .int .i64 q1.1, .int .i64 q2.1, .int .i64 q3.1, .int .i64 q4.1, .int .i64 q5.1, .int .i64 q6.1.1, .int .i64 q6.1.2, .int .i64 q7.1.1, .int .i64 q7.1.2, .slice sa8 q8.1.length sc8, .slice sa9 q9.1.length sc9, .slice sa10 q10.1.length sc10, .slice sa11 q11.1.length sc11, .slice sa12 q12.1.length sc12, .slice sa13 q13.1.length sc13], .int .i64 0]) (by simp [results, Tryz.results94, go_sem, z0, z1, z2, z3, z4, z5, z6, z7, z8, z9, z10, z11, z12, z13, z14, z15]) rfl FF.out
theorem take_any' (w : World) (Q : Nat → Prop) (bv : Value) (n : Nat) (b : List Int) (hb : Sl w Q 1 bv n (bc b)) (hc : Cap n bv) (hby : Byt b) (hl : b.length ≤ 100000) :
 Calls Tryz.prog 94 #[bv] w (TakePost w b) := take_walk w Q bv n b hb hc hby hl (by have := hb.1; rw [bc_length] at this; omega)
end Go.Proofs.YtlcfoeikamkpmaaGreat

/- The document's reader of entries: TakeEntry. Conditions: the bytes lie in memory. -/
import Derived.Test.YtojkggppcmdepaaGreatQa16
namespace Go.Proofs.YtojkggppcmdepaaGreat
open Go.RowKit Go.Wh Go.Maps

set_option maxHeartbeats 20000000 in
set_option maxRecDepth 100000 in
theorem rtake_walk (w : World) (Q : Nat → Prop) (bv : Value) (n : Nat) (b : List Int) (hb : Sl w Q 1 bv n (bc b)) (hc : Cap n bv) (hby : Byt b) (hl : b.length ≤ 100000) (hln : b.length = n) :
 Calls Tryz.prog 40 #[bv] w (TakePost w b) := by
 have hW1 : Still w ((w.alloc (.cells #[.int .i64 0, .int .i64 0, .int .i64 0, .int .i64 0, .int .i64 0, .int .i64 0, .int .i64 0, .int .i64 0, .int .i64 0, .int .i64 0, .slice none 0 0, .slice none 0 0, .slice none 0 0, .slice none 0 0, .slice none 0 0, .slice none 0 0] 34)).alloc (.cells #[bv, .bool false] 131)) := ((Still.refl w).alloc _).alloc _
 have hz1 : (w.alloc (.cells #[.int .i64 0, .int .i64 0, .int .i64 0, .int .i64 0, .int .i64 0, .int .i64 0, .int .i64 0, .int .i64 0, .int .i64 0, .int .i64 0, .slice none 0 0, .slice none 0 0, .slice none 0 0, .slice none 0 0, .slice none 0 0, .slice none 0 0] 34)).heap.size = w.heap.size + 1 := by simp
 have hz2 : ((w.alloc (.cells #[.int .i64 0, .int .i64 0, .int .i64 0, .int .i64 0, .int .i64 0, .int .i64 0, .int .i64 0, .int .i64 0, .int .i64 0, .int .i64 0, .slice none 0 0, .slice none 0 0, .slice none 0 0, .slice none 0 0, .slice none 0 0, .slice none 0 0] 34)).alloc (.cells #[bv, .bool false] 131)).heap.size = w.heap.size + 2 := by simp
 have hcr : cellsAt ((w.alloc (.cells #[.int .i64 0, .int .i64 0, .int .i64 0, .int .i64 0, .int .i64 0, .int .i64 0, .int .i64 0, .int .i64 0, .int .i64 0, .int .i64 0, .slice none 0 0, .slice none 0 0, .slice none 0 0, .slice none 0 0, .slice none 0 0, .slice none 0 0] 34)).alloc (.cells #[bv, .bool false] 131)) (w.heap.size + 1) [bv, .bool false] := by
  have := cellsAt_new (w.alloc (.cells #[.int .i64 0, .int .i64 0, .int .i64 0, .int .i64 0, .int .i64 0, .int .i64 0, .int .i64 0, .int .i64 0, .int .i64 0, .int .i64 0, .slice none 0 0, .slice none 0 0, .slice none 0 0, .slice none 0 0, .slice none 0 0, .slice none 0 0] 34)) [bv, .bool false] 131
  rwa [hz1] at this
 have hcz : cellsAt ((w.alloc (.cells #[.int .i64 0, .int .i64 0, .int .i64 0, .int .i64 0, .int .i64 0, .int .i64 0, .int .i64 0, .int .i64 0, .int .i64 0, .int .i64 0, .slice none 0 0, .slice none 0 0, .slice none 0 0, .slice none 0 0, .slice none 0 0, .slice none 0 0] 34)).alloc (.cells #[bv, .bool false] 131)) w.heap.size zE := (cellsAt_new w zE 34).alloc _
 have hR : RAt ((w.alloc (.cells #[.int .i64 0, .int .i64 0, .int .i64 0, .int .i64 0, .int .i64 0, .int .i64 0, .int .i64 0, .int .i64 0, .int .i64 0, .int .i64 0, .slice none 0 0, .slice none 0 0, .slice none 0 0, .slice none 0 0, .slice none 0 0, .slice none 0 0] 34)).alloc (.cells #[bv, .bool false] 131)) (fun x => x = w.heap.size + 1) (fun g => Q g ∧ g < w.heap.size) (w.heap.size + 1) (b, false) ((w.alloc (.cells #[.int .i64 0, .int .i64 0, .int .i64 0, .int .i64 0, .int .i64 0, .int .i64 0, .int .i64 0, .int .i64 0, .int .i64 0, .int .i64 0, .slice none 0 0, .slice none 0 0, .slice none 0 0, .slice none 0 0, .slice none 0 0, .slice none 0 0] 34)).alloc (.cells #[bv, .bool false] 131)) :=
  ⟨Only.refl _ _, rfl, hcr.lt, fun g hg => ⟨by have := hg.2; omega, by have := hg.2; omega⟩, ⟨bv, hcr, by rw [hln]; exact hb.low.still hW1, by rw [hln]; exact hc⟩, hby⟩
 have HBY := Lib.hid (And.intro hby (And.intro hb hln))
 have HW := Lib.hid (And.intro hW1 (And.intro hz2 (And.intro hcz hR)))
 obtain ⟨ba, bcp, rfl⟩ := hb.form
 have hlb : ((b, false) : RS).1.length ≤ 100000 := hl
 obtain ⟨q0, hq0⟩ : ∃ q, numR 1 ((b, false) : RS) = q := ⟨_, rfl⟩
 have hl0 : q0.2.1.length ≤ 100000 := by rw [← hq0]; exact numR_len hlb
 have HM0 := Lib.hid (fun (W2 : World) (X2 Q2 : Nat → Prop) (r2 : Nat) w2 (k : RAt W2 X2 Q2 r2 ((b, false) : RS) w2) => rnumr_any 1 rfl k (by omega) hlb)
 rw [hq0] at HM0
 obtain ⟨q1, hq1⟩ : ∃ q, numR 1 q0.2 = q := ⟨_, rfl⟩
 have hl1 : q1.2.1.length ≤ 100000 := by rw [← hq1]; exact numR_len hl0
 have HM1 := Lib.hid (fun (W2 : World) (X2 Q2 : Nat → Prop) (r2 : Nat) w2 (k : RAt W2 X2 Q2 r2 q0.2 w2) => rnumr_any 1 rfl k (by omega) hl0)
 rw [hq1] at HM1
 obtain ⟨q2, hq2⟩ : ∃ q, numR 2 q1.2 = q := ⟨_, rfl⟩
 have hl2 : q2.2.1.length ≤ 100000 := by rw [← hq2]; exact numR_len hl1
 have HM2 := Lib.hid (fun (W2 : World) (X2 Q2 : Nat → Prop) (r2 : Nat) w2 (k : RAt W2 X2 Q2 r2 q1.2 w2) => rnumr_any 2 rfl k (by omega) hl1)
 rw [hq2] at HM2
 obtain ⟨q3, hq3⟩ : ∃ q, numR 1 q2.2 = q := ⟨_, rfl⟩
 have hl3 : q3.2.1.length ≤ 100000 := by rw [← hq3]; exact numR_len hl2
 have HM3 := Lib.hid (fun (W2 : World) (X2 Q2 : Nat → Prop) (r2 : Nat) w2 (k : RAt W2 X2 Q2 r2 q2.2 w2) => rnumr_any 1 rfl k (by omega) hl2)
 rw [hq3] at HM3
 obtain ⟨q4, hq4⟩ : ∃ q, numR 3 q3.2 = q := ⟨_, rfl⟩
 have hl4 : q4.2.1.length ≤ 100000 := by rw [← hq4]; exact numR_len hl3
 have HM4 := Lib.hid (fun (W2 : World) (X2 Q2 : Nat → Prop) (r2 : Nat) w2 (k : RAt W2 X2 Q2 r2 q3.2 w2) => rnumr_any 3 rfl k (by omega) hl3)
 rw [hq4] at HM4
 obtain ⟨q5, hq5⟩ : ∃ q, numR 3 q4.2 = q := ⟨_, rfl⟩
 have hl5 : q5.2.1.length ≤ 100000 := by rw [← hq5]; exact numR_len hl4
 have HM5 := Lib.hid (fun (W2 : World) (X2 Q2 : Nat → Prop) (r2 : Nat) w2 (k : RAt W2 X2 Q2 r2 q4.2 w2) => rnumr_any 3 rfl k (by omega) hl4)
 rw [hq5] at HM5
 obtain ⟨q6, hq6⟩ : ∃ q, spR q5.2 = q := ⟨_, rfl⟩
 have hl6 : q6.2.1.length ≤ 100000 := by rw [← hq6]; exact spR_len hl5
 have HM6 := Lib.hid (fun (W2 : World) (X2 Q2 : Nat → Prop) (r2 : Nat) w2 (k : RAt W2 X2 Q2 r2 q5.2 w2) => rrid_any k hl5)
 rw [hq6] at HM6
 obtain ⟨q7, hq7⟩ : ∃ q, spR q6.2 = q := ⟨_, rfl⟩
 have hl7 : q7.2.1.length ≤ 100000 := by rw [← hq7]; exact spR_len hl6
 have HM7 := Lib.hid (fun (W2 : World) (X2 Q2 : Nat → Prop) (r2 : Nat) w2 (k : RAt W2 X2 Q2 r2 q6.2 w2) => rrid_any k hl6)
 rw [hq7] at HM7
 obtain ⟨q8, hq8⟩ : ∃ q, imR q7.2 = q := ⟨_, rfl⟩
 have hl8 : q8.2.1.length ≤ 100000 := by rw [← hq8]; exact imR_len hl7
 have HM8 := Lib.hid (fun (W2 : World) (X2 Q2 : Nat → Prop) (r2 : Nat) w2 (k : RAt W2 X2 Q2 r2 q7.2 w2) => rcell_any k hl7)
 have HIB8 := Lib.hid (fun (W2 : World) (X2 Q2 : Nat → Prop) (r2 : Nat) w2 (k : RAt W2 X2 Q2 r2 q7.2 w2) => imR_byt k.byt)
 rw [hq8] at HIB8
 rw [hq8] at HM8
 obtain ⟨q9, hq9⟩ : ∃ q, imR q8.2 = q := ⟨_, rfl⟩
 have hl9 : q9.2.1.length ≤ 100000 := by rw [← hq9]; exact imR_len hl8
 have HM9 := Lib.hid (fun (W2 : World) (X2 Q2 : Nat → Prop) (r2 : Nat) w2 (k : RAt W2 X2 Q2 r2 q8.2 w2) => rcell_any k hl8)
 have HIB9 := Lib.hid (fun (W2 : World) (X2 Q2 : Nat → Prop) (r2 : Nat) w2 (k : RAt W2 X2 Q2 r2 q8.2 w2) => imR_byt k.byt)
 rw [hq9] at HIB9
 rw [hq9] at HM9
 obtain ⟨q10, hq10⟩ : ∃ q, readsR mvR q9.2 = q := ⟨_, rfl⟩
 have hl10 : q10.2.1.length ≤ 100000 := by rw [← hq10]; exact readsR_len (fun _ => mvR_len) hl9
 have HM10 := Lib.hid (fun (W2 : World) (X2 Q2 : Nat → Prop) (r2 : Nat) w2 (k : RAt W2 X2 Q2 r2 q9.2 w2) => rmoves_any k hl9)
 rw [hq10] at HM10
 obtain ⟨m11, hm11⟩ : ∃ m, manyR q10.2 = m := ⟨_, rfl⟩
 have HY11 := Lib.hid (fun (W2 : World) (X2 Q2 : Nat → Prop) (r2 : Nat) w2 (k : RAt W2 X2 Q2 r2 q10.2 w2) => rmany_any k hl10)
 rw [hm11] at HY11
 obtain ⟨q11, hq11⟩ : ∃ q, readsR lvR q10.2 = q := ⟨_, rfl⟩
 have hl11 : q11.2.1.length ≤ 100000 := by rw [← hq11]; exact readsR_len (fun _ => lvR_len) hl10
 have HL11 := Lib.hid (show loopS lvR m11.1 m11.2 = q11 ∧ m11.1 ≤ 40 ∧ m11.2.1.length ≤ 100000 from by
  rw [← hm11, ← hq11]
  exact ⟨rfl, manyR_le40 _, manyR_len hl10⟩)
 obtain ⟨m12, hm12⟩ : ∃ m, manyR q11.2 = m := ⟨_, rfl⟩
 have HY12 := Lib.hid (fun (W2 : World) (X2 Q2 : Nat → Prop) (r2 : Nat) w2 (k : RAt W2 X2 Q2 r2 q11.2 w2) => rmany_any k hl11)
 rw [hm12] at HY12
 obtain ⟨q12, hq12⟩ : ∃ q, readsR dtR q11.2 = q := ⟨_, rfl⟩
 have hl12 : q12.2.1.length ≤ 100000 := by rw [← hq12]; exact readsR_len (fun _ => dtR_len) hl11
 have HL12 := Lib.hid (show loopS dtR m12.1 m12.2 = q12 ∧ m12.1 ≤ 40 ∧ m12.2.1.length ≤ 100000 from by
  rw [← hm12, ← hq12]
  exact ⟨rfl, manyR_le40 _, manyR_len hl11⟩)
 obtain ⟨m13, hm13⟩ : ∃ m, manyR q12.2 = m := ⟨_, rfl⟩
 have HY13 := Lib.hid (fun (W2 : World) (X2 Q2 : Nat → Prop) (r2 : Nat) w2 (k : RAt W2 X2 Q2 r2 q12.2 w2) => rmany_any k hl12)
 rw [hm13] at HY13
 obtain ⟨q13, hq13⟩ : ∃ q, readsR opR q12.2 = q := ⟨_, rfl⟩
 have hl13 : q13.2.1.length ≤ 100000 := by rw [← hq13]; exact readsR_len (fun _ => opR_len) hl12
 have HL13 := Lib.hid (show loopS opR m13.1 m13.2 = q13 ∧ m13.1 ≤ 40 ∧ m13.2.1.length ≤ 100000 from by
  rw [← hm13, ← hq13]
  exact ⟨rfl, manyR_le40 _, manyR_len hl12⟩)
 have HTB := Lib.hid (decR_of hq0 hq1 hq2 hq3 hq4 hq5 hq6 hq7 hq8 hq9 hq10 hq11 hq12 hq13)
 clear hb hc hby hl hln hW1 hz1 hz2 hcr hcz hR hlb hl0 hq0 hl1 hq1 hl2 hq2 hl3 hq3 hl4 hq4 hl5 hq5 hl6 hq6 hl7 hq7 hl8 hq8 hl9 hq9 hl10 hq10 hl11 hq11 hl12 hq12 hl13 hq13 hm11 hm12 hm13
 obtain ⟨n11, s11⟩ := m11
 obtain ⟨n12, s12⟩ := m12
 obtain ⟨n13, s13⟩ := m13
 dsimp only at HY11 HY12 HY13 HL11 HL12 HL13
 obtain ⟨r, hr⟩ : ∃ r, w.heap.size + 1 = r := ⟨_, rfl⟩
 go_enter Tryz.func40, Tryz.ntmps40
 go_upto_region 2 with fail
 generalize hWW : ((w.alloc (.cells #[.int .i64 0, .int .i64 0, .int .i64 0, .int .i64 0, .int .i64 0, .int .i64 0, .int .i64 0, .int .i64 0, .int .i64 0, .int .i64 0, .slice none 0 0, .slice none 0 0, .slice none 0 0, .slice none 0 0, .slice none 0 0, .slice none 0 0] 34)).alloc (.cells #[.slice ba n bcp, .bool false] 131)) = W at HW ⊢
 clear hWW
 rw [hr] at HW
 try rw [hr]
 have HRZ := Lib.hid hr
 clear hr
 have HRD := Lib.hid HW.out.2.2.2
 go_wp2_with fail
 refine (HM0.out _ _ _ _ _ HRD.out.base).mono ?_
 rintro en w2 ⟨rfl, k0⟩
 have HRD0 := Lib.hid (HRD.out.back k0)
 clear k0
 go_wp2_with fail
 refine (HM1.out _ _ _ _ _ HRD0.out.base).mono ?_
 rintro en w3 ⟨rfl, k1⟩
 have HRD1 := Lib.hid (HRD0.out.back k1)
 clear k1
 go_wp2_with fail
 refine (HM2.out _ _ _ _ _ HRD1.out.base).mono ?_
 rintro en w4 ⟨rfl, k2⟩
 have HRD2 := Lib.hid (HRD1.out.back k2)
 clear k2
 go_wp2_with fail
 refine (HM3.out _ _ _ _ _ HRD2.out.base).mono ?_
 rintro en w5 ⟨rfl, k3⟩
 have HRD3 := Lib.hid (HRD2.out.back k3)
 clear k3
 go_wp2_with fail
 refine (HM4.out _ _ _ _ _ HRD3.out.base).mono ?_
 rintro en w6 ⟨rfl, k4⟩
 have HRD4 := Lib.hid (HRD3.out.back k4)
 clear k4
 go_wp2_with fail
 refine (HM5.out _ _ _ _ _ HRD4.out.base).mono ?_
 rintro en w7 ⟨rfl, k5⟩
 have HRD5 := Lib.hid (HRD4.out.back k5)
 clear k5
 go_wp2_with fail
 refine (HM6.out _ _ _ _ _ HRD5.out.base).mono ?_
 rintro en w8 ⟨rfl, k6⟩
 have HRD6 := Lib.hid (HRD5.out.back k6)
 clear k6
 go_wp2_with fail
 refine (HM7.out _ _ _ _ _ HRD6.out.base).mono ?_
 rintro en w9 ⟨rfl, k7⟩
 have HRD7 := Lib.hid (HRD6.out.back k7)
 clear k7
 go_wp2_with fail
 refine (HM8.out _ _ _ _ _ HRD7.out.base).mono ?_
 rintro en w10 ⟨sv8, rfl, hv8, k8⟩
 have HRD8 := Lib.hid (HRD7.out.back k8)
 have HV8_8 := Lib.hid (hv8.mono (R := fun g => W.heap.size ≤ g) fun g hg => by have := HRD7.out.only.size; omega)
 obtain ⟨sa8, sc8, rfl⟩ := hv8.form
 clear hv8
 clear k8
 go_wp2_with fail
 refine (HM9.out _ _ _ _ _ HRD8.out.base).mono ?_
 rintro en w11 ⟨sv9, rfl, hv9, k9⟩
 have HRD9 := Lib.hid (HRD8.out.back k9)
 have HV8_9 := Lib.hid (HV8_8.out.only k9.only fun g hg e => by have := HRD9.out.rl; omega)
 have HV9_9 := Lib.hid (hv9.mono (R := fun g => W.heap.size ≤ g) fun g hg => by have := HRD8.out.only.size; omega)
 obtain ⟨sa9, sc9, rfl⟩ := hv9.form
 clear hv9
 clear k9
 go_wp2_with fail
 refine (HM10.out _ _ _ _ _ HRD9.out.base).mono ?_
 rintro en w12 ⟨sv10, rfl, hv10, k10⟩
 have HRD10 := Lib.hid (HRD9.out.back k10)
 have HV8_10 := Lib.hid (HV8_9.out.only k10.only fun g hg e => by have := HRD10.out.rl; omega)
 have HV9_10 := Lib.hid (HV9_9.out.only k10.only fun g hg e => by have := HRD10.out.rl; omega)
 have HV10_10 := Lib.hid (hv10.mono (R := fun g => W.heap.size ≤ g) fun g hg => by have := HRD9.out.only.size; omega)
 obtain ⟨sa10, sc10, rfl⟩ := hv10.form
 clear hv10
 clear k10
 have HZN := Lib.hid (fun tt => cellsAt_new w12 zE tt)
 have HST0 := Lib.hid (fun tt wf (hcf : cellsAt wf w12.heap.size (#[.int .i64 q0.1, .int .i64 q1.1, .int .i64 q2.1, .int .i64 q3.1, .int .i64 q4.1, .int .i64 q5.1, .int .i64 q6.1.1, .int .i64 q6.1.2, .int .i64 q7.1.1, .int .i64 q7.1.2, .slice sa8 q8.1.length sc8, .slice sa9 q9.1.length sc9, .slice sa10 q10.1.length sc10, .slice none 0 0, .slice none 0 0, .slice none 0 0] : Array Value).toList) (hof : Only (fun b => b = w12.heap.size) (w12.alloc (.cells #[.int .i64 0, .int .i64 0, .int .i64 0, .int .i64 0, .int .i64 0, .int .i64 0, .int .i64 0, .int .i64 0, .int .i64 0, .int .i64 0, .slice none 0 0, .slice none 0 0, .slice none 0 0, .slice none 0 0, .slice none 0 0, .slice none 0 0] tt)) wf) => show TgSt W (fun g => Q g ∧ g < w.heap.size) r w.heap.size w12.heap.size q10.2 [.int .i64 q0.1, .int .i64 q1.1, .int .i64 q2.1, .int .i64 q3.1, .int .i64 q4.1, .int .i64 q5.1, .int .i64 q6.1.1, .int .i64 q6.1.2, .int .i64 q7.1.1, .int .i64 q7.1.2, .slice sa8 q8.1.length sc8, .slice sa9 q9.1.length sc9, .slice sa10 q10.1.length sc10, .slice none 0 0, .slice none 0 0, .slice none 0 0] ⟨q0.1, q1.1, q2.1, q3.1, q4.1, q5.1, q6.1.1, q6.1.2, q7.1.1, q7.1.2, q8.1, q9.1, q10.1, [], [], []⟩ (.slice sa8 q8.1.length sc8) (.slice sa9 q9.1.length sc9) (.slice sa10 q10.1.length sc10) (.slice none 0 0) (.slice none 0 0) (.slice none 0 0) (.slice none 0 0) wf from by
  have hst : Still w12 (w12.alloc (.cells #[.int .i64 0, .int .i64 0, .int .i64 0, .int .i64 0, .int .i64 0, .int .i64 0, .int .i64 0, .int .i64 0, .int .i64 0, .int .i64 0, .slice none 0 0, .slice none 0 0, .slice none 0 0, .slice none 0 0, .slice none 0 0, .slice none 0 0] tt)) := (Still.refl w12).alloc _
  have hzW := HRD10.out.only.size
  have hrl := HRD10.out.rl
  have hwz := HW.out.2.1
  have hrz := HRZ.out
  have lift : ∀ {sz m : Nat} {v : Value} {xs : List Value}, Sl w12 (fun g => W.heap.size ≤ g) sz v m xs → Sl wf (fun g => W.heap.size ≤ g ∧ g ≠ w12.heap.size ∧ (Value.slice none 0 0).ownBlock ≠ some g) sz v m xs := fun h => ((h.low.still hst).only hof (fun g hg e => by have := hg.2; omega)).mono fun g hg => ⟨hg.1, by have := hg.2; omega, by simp [Value.ownBlock]⟩
  exact ⟨(HRD10.out.still hst).onlyNew hof (fun g hg => by have e : g = w12.heap.size := hg; omega), (cellsAt.still (HW.out.2.2.1.only HRD10.out.only (fun e => by omega)) hst).only hof (fun e => by omega), hcf, ⟨lift HV8_10.out, lift HV9_10.out, lift HV10_10.out, Sl.nil, Sl.nil, OpSl.nil, HIB8.out _ _ _ _ _ HRD7.out, HIB9.out _ _ _ _ _ HRD8.out⟩, (fun g hg => by cases hg), by omega, hzW, by omega⟩)
 go_upto_region 3 with (refine wpList_storeAgg rfl 34 _ _ rfl w12.heap.size #[.int .i64 q0.1, .int .i64 q1.1, .int .i64 q2.1, .int .i64 q3.1, .int .i64 q4.1, .int .i64 q5.1, .int .i64 q6.1.1, .int .i64 q6.1.2, .int .i64 q7.1.1, .int .i64 q7.1.2, .slice sa8 q8.1.length sc8, .slice sa9 q9.1.length sc9, .slice sa10 q10.1.length sc10, .slice none 0 0, .slice none 0 0, .slice none 0 0] rfl rfl (HZN.out _) size_en rfl rfl ?_; intro wf hcf hof hzf; have HT0 := Lib.hid (HST0.out _ wf hcf hof); clear hcf hof hzf)
 clear HST0 HZN HV8_8 HV8_9 HV8_10 HV9_9 HV9_10 HV10_10 HIB8 HIB9 HRD0 HRD1 HRD2 HRD3 HRD4 HRD5 HRD6 HRD7 HRD8 HRD9 HRD HM0 HM1 HM2 HM3 HM4 HM5 HM6 HM7 HM8 HM9 HM10
 have HB3 := Lib.hid (show w.heap.size + 2 ≤ w12.heap.size from by have := HRD10.out.only.size; have := HW.out.2.1; omega)
 clear HRD10
 generalize w12.heap.size = b3 at *
 go_wp2_with fail
 refine (HY11.out _ _ _ _ _ HT0.out.rd.base).mono ?_
 rintro en wy ⟨rfl, ky⟩
 have HRL := Lib.hid (show LvRel W (fun g => Q g ∧ g < w.heap.size) r w.heap.size b3 (fun v => [.int .i64 q0.1, .int .i64 q1.1, .int .i64 q2.1, .int .i64 q3.1, .int .i64 q4.1, .int .i64 q5.1, .int .i64 q6.1.1, .int .i64 q6.1.2, .int .i64 q7.1.1, .int .i64 q7.1.2, .slice sa8 q8.1.length sc8, .slice sa9 q9.1.length sc9, .slice sa10 q10.1.length sc10, v, .slice none 0 0, .slice none 0 0]) ⟨q0.1, q1.1, q2.1, q3.1, q4.1, q5.1, q6.1.1, q6.1.2, q7.1.1, q7.1.2, q8.1, q9.1, q10.1, [], [], []⟩ (.slice sa8 q8.1.length sc8) (.slice sa9 q9.1.length sc9) (.slice sa10 q10.1.length sc10) q11 n11 wy from ⟨[], s11, none, 0, HT0.out.call ky, HL11.out.2.2, by simpa using HL11.out.2.1, by rw [← HL11.out.1]; rfl, Vec.nil _ _⟩)
 clear ky HY11
 go_wp2_with fail
 go_loopw [6] (fun s wr => ∃ k : Nat, s = .int .i64 k ∧ k ≤ n11 ∧ LvRel W (fun g => Q g ∧ g < w.heap.size) r w.heap.size b3 (fun v => [.int .i64 q0.1, .int .i64 q1.1, .int .i64 q2.1, .int .i64 q3.1, .int .i64 q4.1, .int .i64 q5.1, .int .i64 q6.1.1, .int .i64 q6.1.2, .int .i64 q7.1.1, .int .i64 q7.1.2, .slice sa8 q8.1.length sc8, .slice sa9 q9.1.length sc9, .slice sa10 q10.1.length sc10, v, .slice none 0 0, .slice none 0 0]) ⟨q0.1, q1.1, q2.1, q3.1, q4.1, q5.1, q6.1.1, q6.1.2, q7.1.1, q7.1.2, q8.1, q9.1, q10.1, [], [], []⟩ (.slice sa8 q8.1.length sc8) (.slice sa9 q9.1.length sc9) (.slice sa10 q10.1.length sc10) q11 k wr) (fun s _ => (intOf s).toNat)
 case atStart => exact ⟨n11, rfl, Nat.le_refl _, HRL.out⟩
 clear HRL
 obtain ⟨k, rfl, hk, ls, s', sa11, sc11, hT, hl3, hlen, hRR, hv⟩ := hrel
 obtain ⟨l', sh⟩ := s'
 dsimp only at hl3
 obtain ⟨bv, hcc, -⟩ := hT.rd.b
 have c1 : wr.cell? ⟨r, 1, none⟩ = some (.bool sh) := hcc.cell 1
 have HH := Lib.hid (And.intro hT (And.intro hl3 (And.intro hlen (And.intro hRR hv))))
 have HK := Lib.hid hk
 clear hT hl3 hlen hRR hv hcc hk
 obtain ⟨bq, hbq⟩ : ∃ q, (decide (0 < k) && !sh) = q := ⟨_, rfl⟩
 have HBQ := Lib.hid hbq
 clear hbq
 go_upto_region 4 with fail
 go_cut [47] (fun v wc => v = .bool bq ∧ wr = wc)
 case first =>
  by_cases h0 : 0 < k
  · have b1 : decide ((0 : Int) < (k : Int)) = true := decide_eq_true (by omega)
    have b2 : decide (0 < k) = true := decide_eq_true h0
    have F := Lib.hid (show Value.bool (!sh) = .bool bq from by rw [← HBQ.out, b2]; rfl)
    cases sh
    all_goals
     go_wp2_with fail
     go_meet
     case rel => exact ⟨F.out, rfl⟩
  · have b1 : decide ((0 : Int) < (k : Int)) = false := decide_eq_false (by omega)
    have b2 : decide (0 < k) = false := decide_eq_false h0
    have F := Lib.hid (show Value.bool false = .bool bq from by rw [← HBQ.out, b2]; rfl)
    go_wp2_with fail
    go_meet
    case rel => exact ⟨F.out, rfl⟩
 obtain ⟨rfl, rfl⟩ := hcut
 cases bq
 rotate_left
 · as_aux_lemma =>
    have hbq := HBQ.out
    rw [Bool.and_eq_true] at hbq
    have hi : 0 < k := of_decide_eq_true hbq.1
    obtain rfl : sh = false := by
     have := hbq.2
     cases sh
     · rfl
     · cases this
    clear hbq HBQ c1
    obtain ⟨k, rfl⟩ : ∃ j, k = j + 1 := ⟨k - 1, by omega⟩
    have u9 : IntKind.i64.wrap (((k + 1 : Nat) : Int) - 1) = (k : Int) := by
     have e : ((k + 1 : Nat) : Int) - 1 = (k : Int) := by omega
     rw [e]
     exact IntWalk.i64_in _ (by have := HH.out.2.2.1; omega)
    obtain ⟨K, hK⟩ : ∃ K : Int, ((k + 1 : Nat) : Int) = K := ⟨_, rfl⟩
    rw [hK] at u9 ⊢
    have HKK := Lib.hid hK
    clear hK hi
    obtain ⟨i0, hi0, hz0, hz1, hz2⟩ := info_parts info_lv
    have HI := Lib.hid (And.intro hi0 (And.intro hz0 (And.intro hz1 hz2)))
    clear hi0 hz0 hz1 hz2
    have hS : ((l', false) : RS).1.length ≤ 100000 := HH.out.2.1
    obtain ⟨p0, hp0⟩ : ∃ p, numR 1 ((l', false) : RS) = p := ⟨_, rfl⟩
    have hs0 : p0.2.1.length ≤ 100000 := by rw [← hp0]; exact numR_len hS
    have HC0 := Lib.hid (fun (W2 : World) (X2 : Nat → Prop) w2 (k : RAt W2 X2 (fun g => Q g ∧ g < w.heap.size) r ((l', false) : RS) w2) => rnumr_any 1 rfl k (by omega) hS)
    rw [hp0] at HC0
    obtain ⟨p1, hp1⟩ : ∃ p, numR 3 p0.2 = p := ⟨_, rfl⟩
    have hs1 : p1.2.1.length ≤ 100000 := by rw [← hp1]; exact numR_len hs0
    have HC1 := Lib.hid (fun (W2 : World) (X2 : Nat → Prop) w2 (k : RAt W2 X2 (fun g => Q g ∧ g < w.heap.size) r p0.2 w2) => rnumr_any 3 rfl k (by omega) hs0)
    rw [hp1] at HC1
    obtain ⟨p2, hp2⟩ : ∃ p, numR 3 p1.2 = p := ⟨_, rfl⟩
    have hs2 : p2.2.1.length ≤ 100000 := by rw [← hp2]; exact numR_len hs1
    have HC2 := Lib.hid (fun (W2 : World) (X2 : Nat → Prop) w2 (k : RAt W2 X2 (fun g => Q g ∧ g < w.heap.size) r p1.2 w2) => rnumr_any 3 rfl k (by omega) hs1)
    rw [hp2] at HC2
    obtain ⟨p3, hp3⟩ : ∃ p, numR 1 p2.2 = p := ⟨_, rfl⟩
    have hs3 : p3.2.1.length ≤ 100000 := by rw [← hp3]; exact numR_len hs2
    have HC3 := Lib.hid (fun (W2 : World) (X2 : Nat → Prop) w2 (k : RAt W2 X2 (fun g => Q g ∧ g < w.heap.size) r p2.2 w2) => rnumr_any 1 rfl k (by omega) hs2)
    rw [hp3] at HC3
    have hx : lvR ((l', false) : RS) = (⟨p0.1, p1.1, p2.1, p3.1 == 1⟩, (p3.2.1, p3.2.2 || decide (1 < p3.1))) := by
     unfold lvR lvT
     rw [hp0, hp1, hp2, hp3]
    have HLP := Lib.hid (show loopS lvR (k + 1) (l', false) = (⟨p0.1, p1.1, p2.1, p3.1 == 1⟩ :: (loopS lvR k (p3.2.1, p3.2.2 || decide (1 < p3.1))).1, (loopS lvR k (p3.2.1, p3.2.2 || decide (1 < p3.1))).2) from by
     have e : loopS lvR (k + 1) (l', false) = ((lvR (l', false)).1 :: (loopS lvR k (lvR (l', false)).2).1, (loopS lvR k (lvR (l', false)).2).2) := rfl
     rw [e, hx])
    clear hp0 hp1 hp2 hp3 hx
    obtain ⟨z3, l3, sh3⟩ := p3
    dsimp only at HLP HC3 hs3
    obtain ⟨d, hd⟩ : ∃ d, decide (1 < z3) = d := ⟨_, rfl⟩
    obtain ⟨c, hc⟩ : ∃ c, (z3 == 1) = c := ⟨_, rfl⟩
    rw [hd, hc] at HLP
    have HS3 := Lib.hid hs3
    clear hS hs0 hs1 hs2 hs3
    go_wp2_with fail
    refine (HC0.out _ _ _ HH.out.1.rd.base).mono ?_
    rintro en w4 ⟨rfl, k0⟩
    have HT4 := Lib.hid (And.intro (HH.out.1.call k0) (HH.out.1.vec HH.out.2.2.2.2 k0.only))
    clear k0
    go_wp2_with fail
    refine (HC1.out _ _ _ HT4.out.1.rd.base).mono ?_
    rintro en w5 ⟨rfl, k0⟩
    have HT5 := Lib.hid (And.intro (HT4.out.1.call k0) (HT4.out.1.vec HT4.out.2 k0.only))
    clear k0
    go_wp2_with fail
    refine (HC2.out _ _ _ HT5.out.1.rd.base).mono ?_
    rintro en w6 ⟨rfl, k0⟩
    have HT6 := Lib.hid (And.intro (HT5.out.1.call k0) (HT5.out.1.vec HT5.out.2 k0.only))
    clear k0
    have HZ := Lib.hid (fun tt => cellsAt_new w6 [.int .i64 0, .int .i64 0, .int .i64 0, .bool false] tt)
    have HFX := Lib.hid (fun tt wf (hcf : cellsAt wf w6.heap.size (#[.int .i64 p0.1, .int .i64 p1.1, .int .i64 p2.1, .bool false] : Array Value).toList) (hof : Only (fun b => b = w6.heap.size) (w6.alloc (.cells #[.int .i64 0, .int .i64 0, .int .i64 0, .bool false] tt)) wf) => show Still w6 wf ∧ cellsAt wf w6.heap.size [.int .i64 p0.1, .int .i64 p1.1, .int .i64 p2.1, .bool false] from ⟨Only.andThen ((Still.refl w6).alloc _) hof (fun i hi e => by have e' : i = w6.heap.size := e; omega), hcf⟩)
    go_upto_region 7 with (refine wpList_storeAgg rfl 108 _ _ rfl w6.heap.size #[.int .i64 p0.1, .int .i64 p1.1, .int .i64 p2.1, .bool false] rfl rfl (HZ.out _) size_lv4 rfl rfl ?_; intro wf hcf hof hzf; have HF := Lib.hid (HFX.out _ wf hcf hof); clear hcf hof hzf)
    clear HZ HFX
    go_wp2_with fail
    refine (HC3.out _ _ _ (HT6.out.1.rd.still HF.out.1).base).mono ?_
    rintro en w7 ⟨rfl, k3⟩
    have HR7 := Lib.hid (show RAt W (fun b => b = r) (fun g => Q g ∧ g < w.heap.size) r (l3, sh3) w7 ∧ Only (fun b => b = r) w6 w7 ∧ cellsAt w7 w6.heap.size [.int .i64 p0.1, .int .i64 p1.1, .int .i64 p2.1, .bool false] from ⟨(HT6.out.1.rd.still HF.out.1).back k3, (HF.out.1.mono fun _ e => e.elim).trans k3.only, HF.out.2.only k3.only (HT6.out.1.rd.ne (Nat.le_refl _))⟩)
    clear k3 HF
    obtain ⟨bx, hbx⟩ : ∃ x, w6.heap.size = x := ⟨_, rfl⟩
    have HBX := Lib.hid hbx
    rw [hbx] at HR7 ⊢
    clear hbx
    have HW9 := Lib.hid (fun q => show TgSt W (fun g => Q g ∧ g < w.heap.size) r w.heap.size b3 (l3, q) ((fun v => [.int .i64 q0.1, .int .i64 q1.1, .int .i64 q2.1, .int .i64 q3.1, .int .i64 q4.1, .int .i64 q5.1, .int .i64 q6.1.1, .int .i64 q6.1.2, .int .i64 q7.1.1, .int .i64 q7.1.2, .slice sa8 q8.1.length sc8, .slice sa9 q9.1.length sc9, .slice sa10 q10.1.length sc10, v, .slice none 0 0, .slice none 0 0]) (.slice sa11 ls.length sc11)) ⟨q0.1, q1.1, q2.1, q3.1, q4.1, q5.1, q6.1.1, q6.1.2, q7.1.1, q7.1.2, q8.1, q9.1, q10.1, [], [], []⟩ (.slice sa8 q8.1.length sc8) (.slice sa9 q9.1.length sc9) (.slice sa10 q10.1.length sc10) (.slice none 0 0) (.slice none 0 0) (.slice none 0 0) (.slice sa11 ls.length sc11) ((w7.setCell ⟨r, 1, none⟩ (.bool q)).setCell ⟨bx, 3, none⟩ (.bool c)) ∧ cellsAt ((w7.setCell ⟨r, 1, none⟩ (.bool q)).setCell ⟨bx, 3, none⟩ (.bool c)) bx [.int .i64 p0.1, .int .i64 p1.1, .int .i64 p2.1, .bool c] ∧ Vec ((w7.setCell ⟨r, 1, none⟩ (.bool q)).setCell ⟨bx, 3, none⟩ (.bool c)) 4 (.slice sa11 ls.length sc11) ls.length (ls.flatMap lvC) from by
     have hz6 := HT6.out.1.rd.only.size
     have hb := HBX.out
     have hrl := HR7.out.1.rl
     have ho := (HR7.out.2.1.setCell (p := ⟨r, 1, none⟩) (.inl rfl) (.bool q)).setCell (p := ⟨bx, 3, none⟩) (.inr (by show w6.heap.size ≤ bx; omega)) (.bool c)
     have hcb : cellsAt (w7.setCell ⟨r, 1, none⟩ (.bool q)) bx [.int .i64 p0.1, .int .i64 p1.1, .int .i64 p2.1, .bool false] := HR7.out.2.2.setOther (fun e => by have e' : bx = r := e; omega) _
     exact ⟨HT6.out.1.via ((HR7.out.1.mark q).setNew (by show W.heap.size ≤ bx; omega) _) ho, hcb.setCell 3 (.bool c), HT6.out.1.vec HT6.out.2 ho⟩)
    obtain ⟨bv7, hc7, -⟩ := HR7.out.1.b
    have c7 : w7.cell? ⟨r, 1, none⟩ = some (.bool sh3) := hc7.cell 1
    have f7 : w7.frozen? ⟨r, 1, none⟩ = false := hc7.free 1
    have g7 : w7.frozen? ⟨bx, 3, none⟩ = false := HR7.out.2.2.free 3
    have g8 : w7.cell? ⟨bx, 3, none⟩ = some (.bool false) := HR7.out.2.2.cell 3
    clear hc7
    cases sh3
    all_goals
     go_upto_region 10 with fail
    rotate_left
    · have H9 := Lib.hid (HW9.out true)
      rw [Bool.true_or] at HLP
      clear HW9 c7 f7 g7 g8 hd hc
      generalize ((w7.setCell ⟨r, 1, none⟩ (.bool true)).setCell ⟨bx, 3, none⟩ (.bool c)) = w9 at H9 ⊢
      have c11 : w9.cell? ⟨b3, 13, none⟩ = some (.slice sa11 ls.length sc11) := H9.out.1.c.cell 13
      have x0 : w9.cell? ⟨bx, 0, none⟩ = some (.int .i64 p0.1) := H9.out.2.1.cell 0
      have x1 : w9.cell? ⟨bx, 1, none⟩ = some (.int .i64 p1.1) := H9.out.2.1.cell 1
      have x2 : w9.cell? ⟨bx, 2, none⟩ = some (.int .i64 p2.1) := H9.out.2.1.cell 2
      have x3 : w9.cell? ⟨bx, 3, none⟩ = some (.bool c) := H9.out.2.1.cell 3
      have HNX0 := Lib.hid (fun ob v' w' (hv' : Vec w' 4 v' (ls.length + 1) (ls.flatMap lvC ++ [.int .i64 p0.1, .int .i64 p1.1, .int .i64 p2.1, .bool c])) (ho' : Only (fun k => (Value.slice sa11 ls.length sc11).ownBlock = some k) (w9.alloc ob) w') (hb' : v'.ownBlock = (Value.slice sa11 ls.length sc11).ownBlock ∨ ∃ g, v'.ownBlock = some g ∧ (w9.alloc ob).heap.size ≤ g ∧ g < w'.heap.size) => show ∃ va vc, v' = .slice va (ls.length + 1) vc ∧ w'.frozen? ⟨b3, 13, none⟩ = false ∧ w'.cell? ⟨b3, 13, none⟩ = some (.slice sa11 ls.length sc11) ∧ LvRel W (fun g => Q g ∧ g < w.heap.size) r w.heap.size b3 (fun v => [.int .i64 q0.1, .int .i64 q1.1, .int .i64 q2.1, .int .i64 q3.1, .int .i64 q4.1, .int .i64 q5.1, .int .i64 q6.1.1, .int .i64 q6.1.2, .int .i64 q7.1.1, .int .i64 q7.1.2, .slice sa8 q8.1.length sc8, .slice sa9 q9.1.length sc9, .slice sa10 q10.1.length sc10, v, .slice none 0 0, .slice none 0 0]) ⟨q0.1, q1.1, q2.1, q3.1, q4.1, q5.1, q6.1.1, q6.1.2, q7.1.1, q7.1.2, q8.1, q9.1, q10.1, [], [], []⟩ (.slice sa8 q8.1.length sc8) (.slice sa9 q9.1.length sc9) (.slice sa10 q10.1.length sc10) q11 k (w'.setCell ⟨b3, 13, none⟩ (.slice va (ls.length + 1) vc)) from by
       have hg := H9.out.1.grow ho' hb' 13
       obtain ⟨va, vc, rfl⟩ := hv'.form'
       have hst : Still w9 (w9.alloc ob) := (Still.refl w9).alloc _
       refine ⟨va, vc, rfl, ((H9.out.1.c.only hst fun e => e).only ho' fun e => (H9.out.1.own _ e).2.2 rfl).free 13, ((H9.out.1.c.only hst fun e => e).only ho' fun e => (H9.out.1.own _ e).2.2 rfl).cell 13, ls ++ [⟨p0.1, p1.1, p2.1, c⟩], (l3, true), va, vc, ?_, HS3.out, ?_, ?_, ?_⟩
       · rw [List.length_append, List.length_singleton]
         exact hg
       · have := HH.out.2.2.1
         rw [List.length_append, List.length_singleton]
         omega
       · have := HH.out.2.2.2.1
         rw [HLP.out] at this
         rw [← this, List.append_assoc]
         rfl
       · rw [List.length_append, List.length_singleton, List.flatMap_append]
         exact hg.vec2 hv')
      go_wp2_with (at_builtin; refine wpList_append_vec rfl _ _ 30 rfl 108 i0 _ 4 32 Tryz.underlying30 HI.out.1 HI.out.2.1 HI.out.2.2.1 HI.out.2.2.2 rfl (by decide) (.slice sa11 ls.length sc11) ls.length (ls.flatMap lvC) (by simp [Act.eval]) (H9.out.2.2.alloc _) (.slice (some ⟨w9.heap.size, 0, none⟩) 1 1) 1 [.int .i64 p0.1, .int .i64 p1.1, .int .i64 p2.1, .bool c] (by simp [Act.eval]) ((cellsAt_new w9 [.int .i64 p0.1, .int .i64 p1.1, .int .i64 p2.1, .bool c] _).reads rfl) (by intro u hu; simp at hu; rcases hu with rfl | rfl | rfl | rfl <;> rfl) (by have := HH.out.2.2.1; simp only [maxLen]; omega) (by have := HH.out.2.2.1; omega) ?_; intro v' w' hv' ho' hb'; obtain ⟨va', vc', rfl, f11, f12, hnx⟩ := HNX0.out _ v' w' hv' ho' hb'; have HNX := Lib.hid hnx; clear hv' ho' hb' HNX0 hnx)
      go_roundw
      case rel => exact ⟨k, by rfl, by have := HK.out; omega, HNX.out⟩
      case measure => first | (simp [intOf]; done) | (simp [intOf]; have := HKK.out; omega)
    · have H9 := Lib.hid (HW9.out d)
      rw [Bool.false_or] at HLP
      clear HW9 c7 f7 g7 g8 hd hc
      generalize ((w7.setCell ⟨r, 1, none⟩ (.bool d)).setCell ⟨bx, 3, none⟩ (.bool c)) = w9 at H9 ⊢
      have c11 : w9.cell? ⟨b3, 13, none⟩ = some (.slice sa11 ls.length sc11) := H9.out.1.c.cell 13
      have x0 : w9.cell? ⟨bx, 0, none⟩ = some (.int .i64 p0.1) := H9.out.2.1.cell 0
      have x1 : w9.cell? ⟨bx, 1, none⟩ = some (.int .i64 p1.1) := H9.out.2.1.cell 1
      have x2 : w9.cell? ⟨bx, 2, none⟩ = some (.int .i64 p2.1) := H9.out.2.1.cell 2
      have x3 : w9.cell? ⟨bx, 3, none⟩ = some (.bool c) := H9.out.2.1.cell 3
      have HNX0 := Lib.hid (fun ob v' w' (hv' : Vec w' 4 v' (ls.length + 1) (ls.flatMap lvC ++ [.int .i64 p0.1, .int .i64 p1.1, .int .i64 p2.1, .bool c])) (ho' : Only (fun k => (Value.slice sa11 ls.length sc11).ownBlock = some k) (w9.alloc ob) w') (hb' : v'.ownBlock = (Value.slice sa11 ls.length sc11).ownBlock ∨ ∃ g, v'.ownBlock = some g ∧ (w9.alloc ob).heap.size ≤ g ∧ g < w'.heap.size) => show ∃ va vc, v' = .slice va (ls.length + 1) vc ∧ w'.frozen? ⟨b3, 13, none⟩ = false ∧ w'.cell? ⟨b3, 13, none⟩ = some (.slice sa11 ls.length sc11) ∧ LvRel W (fun g => Q g ∧ g < w.heap.size) r w.heap.size b3 (fun v => [.int .i64 q0.1, .int .i64 q1.1, .int .i64 q2.1, .int .i64 q3.1, .int .i64 q4.1, .int .i64 q5.1, .int .i64 q6.1.1, .int .i64 q6.1.2, .int .i64 q7.1.1, .int .i64 q7.1.2, .slice sa8 q8.1.length sc8, .slice sa9 q9.1.length sc9, .slice sa10 q10.1.length sc10, v, .slice none 0 0, .slice none 0 0]) ⟨q0.1, q1.1, q2.1, q3.1, q4.1, q5.1, q6.1.1, q6.1.2, q7.1.1, q7.1.2, q8.1, q9.1, q10.1, [], [], []⟩ (.slice sa8 q8.1.length sc8) (.slice sa9 q9.1.length sc9) (.slice sa10 q10.1.length sc10) q11 k (w'.setCell ⟨b3, 13, none⟩ (.slice va (ls.length + 1) vc)) from by
       have hg := H9.out.1.grow ho' hb' 13
       obtain ⟨va, vc, rfl⟩ := hv'.form'
       have hst : Still w9 (w9.alloc ob) := (Still.refl w9).alloc _
       refine ⟨va, vc, rfl, ((H9.out.1.c.only hst fun e => e).only ho' fun e => (H9.out.1.own _ e).2.2 rfl).free 13, ((H9.out.1.c.only hst fun e => e).only ho' fun e => (H9.out.1.own _ e).2.2 rfl).cell 13, ls ++ [⟨p0.1, p1.1, p2.1, c⟩], (l3, d), va, vc, ?_, HS3.out, ?_, ?_, ?_⟩
       · rw [List.length_append, List.length_singleton]
         exact hg
       · have := HH.out.2.2.1
         rw [List.length_append, List.length_singleton]
         omega
       · have := HH.out.2.2.2.1
         rw [HLP.out] at this
         rw [← this, List.append_assoc]
         rfl
       · rw [List.length_append, List.length_singleton, List.flatMap_append]
         exact hg.vec2 hv')
      go_wp2_with (at_builtin; refine wpList_append_vec rfl _ _ 30 rfl 108 i0 _ 4 32 Tryz.underlying30 HI.out.1 HI.out.2.1 HI.out.2.2.1 HI.out.2.2.2 rfl (by decide) (.slice sa11 ls.length sc11) ls.length (ls.flatMap lvC) (by simp [Act.eval]) (H9.out.2.2.alloc _) (.slice (some ⟨w9.heap.size, 0, none⟩) 1 1) 1 [.int .i64 p0.1, .int .i64 p1.1, .int .i64 p2.1, .bool c] (by simp [Act.eval]) ((cellsAt_new w9 [.int .i64 p0.1, .int .i64 p1.1, .int .i64 p2.1, .bool c] _).reads rfl) (by intro u hu; simp at hu; rcases hu with rfl | rfl | rfl | rfl <;> rfl) (by have := HH.out.2.2.1; simp only [maxLen]; omega) (by have := HH.out.2.2.1; omega) ?_; intro v' w' hv' ho' hb'; obtain ⟨va', vc', rfl, f11, f12, hnx⟩ := HNX0.out _ v' w' hv' ho' hb'; have HNX := Lib.hid hnx; clear hv' ho' hb' HNX0 hnx)
      go_roundw
      case rel => exact ⟨k, by rfl, by have := HK.out; omega, HNX.out⟩
      case measure => first | (simp [intOf]; done) | (simp [intOf]; have := HKK.out; omega)
 have HX := Lib.hid (show q11 = (ls, (l', sh)) from by
  have hbq := HBQ.out
  rw [← HH.out.2.2.2.1]
  cases k with
  | zero => simp [loopS]
  | succ k =>
   have hs : sh = true := by
    cases sh with
    | true => rfl
    | false => simp at hbq
   rw [hs]
   simp [loopS])
 have HT11 := Lib.hid (show TgSt W (fun g => Q g ∧ g < w.heap.size) r w.heap.size b3 q11.2 [.int .i64 q0.1, .int .i64 q1.1, .int .i64 q2.1, .int .i64 q3.1, .int .i64 q4.1, .int .i64 q5.1, .int .i64 q6.1.1, .int .i64 q6.1.2, .int .i64 q7.1.1, .int .i64 q7.1.2, .slice sa8 q8.1.length sc8, .slice sa9 q9.1.length sc9, .slice sa10 q10.1.length sc10, .slice sa11 q11.1.length sc11, .slice none 0 0, .slice none 0 0] ⟨q0.1, q1.1, q2.1, q3.1, q4.1, q5.1, q6.1.1, q6.1.2, q7.1.1, q7.1.2, q8.1, q9.1, q10.1, q11.1, [], []⟩ (.slice sa8 q8.1.length sc8) (.slice sa9 q9.1.length sc9) (.slice sa10 q10.1.length sc10) (.slice sa11 q11.1.length sc11) (.slice none 0 0) (.slice none 0 0) (.slice none 0 0) wr from by
  rw [HX.out]
  exact HH.out.1.next ⟨HH.out.1.els.o, HH.out.1.els.n, HH.out.1.els.m, HH.out.1.gl HH.out.2.2.2.2, HH.out.1.els.d, HH.out.1.els.p, HH.out.1.els.bo, HH.out.1.els.bn⟩)
 clear HBQ c1 HH HK HL11 HX
 go_wp2_with fail
 refine (HY12.out _ _ _ _ _ HT11.out.rd.base).mono ?_
 rintro en wy ⟨rfl, ky⟩
 have HRL := Lib.hid (show DtRel W (fun g => Q g ∧ g < w.heap.size) r w.heap.size b3 (fun v => [.int .i64 q0.1, .int .i64 q1.1, .int .i64 q2.1, .int .i64 q3.1, .int .i64 q4.1, .int .i64 q5.1, .int .i64 q6.1.1, .int .i64 q6.1.2, .int .i64 q7.1.1, .int .i64 q7.1.2, .slice sa8 q8.1.length sc8, .slice sa9 q9.1.length sc9, .slice sa10 q10.1.length sc10, .slice sa11 q11.1.length sc11, v, .slice none 0 0]) ⟨q0.1, q1.1, q2.1, q3.1, q4.1, q5.1, q6.1.1, q6.1.2, q7.1.1, q7.1.2, q8.1, q9.1, q10.1, q11.1, [], []⟩ (.slice sa8 q8.1.length sc8) (.slice sa9 q9.1.length sc9) (.slice sa10 q10.1.length sc10) (.slice sa11 q11.1.length sc11) q12 n12 wy from ⟨[], s12, none, 0, HT11.out.call ky, HL12.out.2.2, by simpa using HL12.out.2.1, by rw [← HL12.out.1]; rfl, Vec.nil _ _⟩)
 clear ky HY12
 go_wp2_with fail
 go_loopw [9] (fun s wr => ∃ k : Nat, s = .int .i64 k ∧ k ≤ n12 ∧ DtRel W (fun g => Q g ∧ g < w.heap.size) r w.heap.size b3 (fun v => [.int .i64 q0.1, .int .i64 q1.1, .int .i64 q2.1, .int .i64 q3.1, .int .i64 q4.1, .int .i64 q5.1, .int .i64 q6.1.1, .int .i64 q6.1.2, .int .i64 q7.1.1, .int .i64 q7.1.2, .slice sa8 q8.1.length sc8, .slice sa9 q9.1.length sc9, .slice sa10 q10.1.length sc10, .slice sa11 q11.1.length sc11, v, .slice none 0 0]) ⟨q0.1, q1.1, q2.1, q3.1, q4.1, q5.1, q6.1.1, q6.1.2, q7.1.1, q7.1.2, q8.1, q9.1, q10.1, q11.1, [], []⟩ (.slice sa8 q8.1.length sc8) (.slice sa9 q9.1.length sc9) (.slice sa10 q10.1.length sc10) (.slice sa11 q11.1.length sc11) q12 k wr) (fun s _ => (intOf s).toNat)
 case atStart => exact ⟨n12, rfl, Nat.le_refl _, HRL.out⟩
 clear HRL
 obtain ⟨k, rfl, hk, ls, s', sa12, sc12, hT, hl3, hlen, hRR, hv⟩ := hrel
 obtain ⟨l', sh⟩ := s'
 dsimp only at hl3
 obtain ⟨bv, hcc, -⟩ := hT.rd.b
 have c1 : wr.cell? ⟨r, 1, none⟩ = some (.bool sh) := hcc.cell 1
 have HH := Lib.hid (And.intro hT (And.intro hl3 (And.intro hlen (And.intro hRR hv))))
 have HK := Lib.hid hk
 clear hT hl3 hlen hRR hv hcc hk
 obtain ⟨bq, hbq⟩ : ∃ q, (decide (0 < k) && !sh) = q := ⟨_, rfl⟩
 have HBQ := Lib.hid hbq
 clear hbq
 go_upto_region 12 with fail
 go_cut [89] (fun v wc => v = .bool bq ∧ wr = wc)
 case first =>
  by_cases h0 : 0 < k
  · have b1 : decide ((0 : Int) < (k : Int)) = true := decide_eq_true (by omega)
    have b2 : decide (0 < k) = true := decide_eq_true h0
    have F := Lib.hid (show Value.bool (!sh) = .bool bq from by rw [← HBQ.out, b2]; rfl)
    cases sh
    all_goals
     go_wp2_with fail
     go_meet
     case rel => exact ⟨F.out, rfl⟩
  · have b1 : decide ((0 : Int) < (k : Int)) = false := decide_eq_false (by omega)
    have b2 : decide (0 < k) = false := decide_eq_false h0
    have F := Lib.hid (show Value.bool false = .bool bq from by rw [← HBQ.out, b2]; rfl)
    go_wp2_with fail
    go_meet
    case rel => exact ⟨F.out, rfl⟩
 obtain ⟨rfl, rfl⟩ := hcut
 cases bq
 rotate_left
 · as_aux_lemma =>
    have hbq := HBQ.out
    rw [Bool.and_eq_true] at hbq
    have hi : 0 < k := of_decide_eq_true hbq.1
    obtain rfl : sh = false := by
     have := hbq.2
     cases sh
     · rfl
     · cases this
    clear hbq HBQ c1
    obtain ⟨k, rfl⟩ : ∃ j, k = j + 1 := ⟨k - 1, by omega⟩
    have u9 : IntKind.i64.wrap (((k + 1 : Nat) : Int) - 1) = (k : Int) := by
     have e : ((k + 1 : Nat) : Int) - 1 = (k : Int) := by omega
     rw [e]
     exact IntWalk.i64_in _ (by have := HH.out.2.2.1; omega)
    obtain ⟨K, hK⟩ : ∃ K : Int, ((k + 1 : Nat) : Int) = K := ⟨_, rfl⟩
    rw [hK] at u9 ⊢
    have HKK := Lib.hid hK
    clear hK hi
    obtain ⟨i0, hi0, hz0, hz1, hz2⟩ := info_parts info_dt
    have HI := Lib.hid (And.intro hi0 (And.intro hz0 (And.intro hz1 hz2)))
    clear hi0 hz0 hz1 hz2
    have hS : ((l', false) : RS).1.length ≤ 100000 := HH.out.2.1
    obtain ⟨p0, hp0⟩ : ∃ p, numR 1 ((l', false) : RS) = p := ⟨_, rfl⟩
    have hs0 : p0.2.1.length ≤ 100000 := by rw [← hp0]; exact numR_len hS
    have HC0 := Lib.hid (fun (W2 : World) (X2 : Nat → Prop) w2 (k : RAt W2 X2 (fun g => Q g ∧ g < w.heap.size) r ((l', false) : RS) w2) => rnumr_any 1 rfl k (by omega) hS)
    rw [hp0] at HC0
    obtain ⟨p1, hp1⟩ : ∃ p, numR 3 p0.2 = p := ⟨_, rfl⟩
    have hs1 : p1.2.1.length ≤ 100000 := by rw [← hp1]; exact numR_len hs0
    have HC1 := Lib.hid (fun (W2 : World) (X2 : Nat → Prop) w2 (k : RAt W2 X2 (fun g => Q g ∧ g < w.heap.size) r p0.2 w2) => rnumr_any 3 rfl k (by omega) hs0)
    rw [hp1] at HC1
    have hx : dtR ((l', false) : RS) = (⟨p0.1, p1.1⟩, p1.2) := by
     unfold dtR
     rw [hp0, hp1]
    have HLP := Lib.hid (show loopS dtR (k + 1) (l', false) = (⟨p0.1, p1.1⟩ :: (loopS dtR k p1.2).1, (loopS dtR k p1.2).2) from by
     have e : loopS dtR (k + 1) (l', false) = ((dtR (l', false)).1 :: (loopS dtR k (dtR (l', false)).2).1, (loopS dtR k (dtR (l', false)).2).2) := rfl
     rw [e, hx])
    have HS3 := Lib.hid hs1
    clear hp0 hp1 hx hS hs0 hs1
    have c14 : wr.cell? ⟨b3, 14, none⟩ = some (.slice sa12 ls.length sc12) := HH.out.1.c.cell 14
    have HTD := Lib.hid (And.intro (HH.out.1.still (still_drew wr)) (Vec.drew HH.out.2.2.2.2))
    go_wp2_with fail
    refine wp_region_D_drew (D := (fun i => [0, 2, 4, 9, 10].contains i)) (S := (fun w' => w'.cell? ⟨b3, 14, none⟩ = some (.slice sa12 ls.length sc12))) (by kernel_rfl) ?_ (fun hHeld => ?_)
    · exact Still.cell (still_drew _) c14
    (refine takeD (i := 0) (some 92) (v := ?_) rfl (by rfl) (by rfl) (by kernel_rfl) (by rfl) (fun _ _ _ h => h) ?_ ?_; rotate_left; (intro w; go_simp; try with_reducible rfl); try go_frame)
    (refine takeD (i := 2) (some 94) (v := ?_) rfl (by rfl) (by rfl) (by kernel_rfl) (by rfl) (fun _ _ _ h => h) ?_ ?_; rotate_left; (intro w; go_simp; try with_reducible rfl); try go_frame)
    (refine takeD (i := 4) (some 96) (v := ?_) rfl (by rfl) (by rfl) (by kernel_rfl) (by rfl) (fun _ _ _ h => h) ?_ ?_; rotate_left; (intro w; go_simp; try with_reducible rfl); try go_frame)
    (refine takeS (i := 1) (some 93) (v := ?_) rfl (by rfl) (by rfl) (by kernel_rfl) (by rfl) (fun _ _ _ h => h) (by assumption) ?_ ?_; rotate_left; (intro w hSw; (try dsimp only at hSw); go_simp; try with_reducible rfl); try go_frame)
    refine wpAnyD_ready (rs := [3]) (by kernel_rfl) (by simp) ?_
    refine ReadyD.cons rfl (fun K hK => ?_) ?_
    go_simp
    refine (HC0.out _ _ _ HTD.out.1.rd.base).mono ?_
    rintro en w4 ⟨rfl, k0⟩
    have HT4 := Lib.hid (And.intro (HTD.out.1.call k0) (HTD.out.1.vec HTD.out.2 k0.only))
    have cc4 : w4.cell? ⟨b3, 14, none⟩ = some (.slice sa12 ls.length sc12) := HT4.out.1.c.cell 14
    clear k0
    go_wp2_with fail
    (refine hK.out _ _ ?_ (fun hNew => ?_); (focus (exact cc4)); clear hHeld; have hHeld := hNew; clear hNew)
    (clear hK K; try go_frame)
    refine wpAnyD_ready (rs := [5]) (by kernel_rfl) (by simp) ?_
    refine ReadyD.cons rfl (fun K hK => ?_) ?_
    go_simp
    refine (HC1.out _ _ _ HT4.out.1.rd.base).mono ?_
    rintro en w5 ⟨rfl, k0⟩
    have HT5 := Lib.hid (And.intro (HT4.out.1.call k0) (HT4.out.1.vec HT4.out.2 k0.only))
    have cc5 : w5.cell? ⟨b3, 14, none⟩ = some (.slice sa12 ls.length sc12) := HT5.out.1.c.cell 14
    clear k0
    go_wp2_with fail
    (refine hK.out _ _ ?_ (fun hNew => ?_); (focus (exact cc5)); clear hHeld; have hHeld := hNew; clear hNew)
    (clear hK K; try go_frame)
    (refine takeS (i := 6) (some 98) (v := ?_) rfl (by rfl) (by rfl) (by kernel_rfl) (by rfl) (fun _ _ _ h => h) (by assumption) ?_ ?_; rotate_left; (intro w hSw; (try dsimp only at hSw); go_simp; try with_reducible rfl); try go_frame)
    refine wpAnyD_ready (rs := [7]) (by kernel_rfl) (by simp) ?_
    refine ReadyD.cons rfl (fun K hK => ?_) ?_
    go_simp
    (refine hK.out _ _ ?_ (fun hNew => ?_); (focus (exact Still.cell ((Still.refl _).alloc _) cc5)); clear hHeld; have hHeld := hNew; clear hNew)
    (clear hK K; try go_frame)
    refine wpAnyD_ready (rs := [8]) (by kernel_rfl) (by simp) ?_
    refine ReadyD.cons rfl (fun K hK => ?_) ?_
    refine step_append_vec rfl _ _ 31 rfl 110 i0 _ 2 16 Tryz.underlying31 HI.out.1 HI.out.2.1 HI.out.2.2.1 HI.out.2.2.2 rfl (by decide) (.slice sa12 ls.length sc12) ls.length (ls.flatMap dtC) (by simp [Act.eval]) (HT5.out.2.alloc _) (.slice (some ⟨w5.heap.size, 0, none⟩) 1 1) 1 [.int .i64 p0.1, .int .i64 p1.1] (by simp [Act.eval]) ((cellsAt_new w5 [.int .i64 p0.1, .int .i64 p1.1] _).reads rfl) (by intro u hu; simp at hu; rcases hu with rfl | rfl <;> rfl) (by have := HH.out.2.2.1; simp only [maxLen]; omega) (by have := HH.out.2.2.1; omega) ?_
    intro v' w' hv' ho' hb'
    have hg := HT5.out.1.grow ho' hb' 14
    obtain ⟨va', vc', rfl⟩ := hv'.form'
    have hcB := (HT5.out.1.c.only ((Still.refl w5).alloc _) fun e => e).only ho' fun e => (HT5.out.1.own _ e).2.2 rfl
    have ca : w'.cell? ⟨b3, 14, none⟩ = some (.slice sa12 ls.length sc12) := hcB.cell 14
    have fa : w'.frozen? ⟨b3, 14, none⟩ = false := hcB.free 14
    have HNX := Lib.hid (show DtRel W (fun g => Q g ∧ g < w.heap.size) r w.heap.size b3 (fun v => [.int .i64 q0.1, .int .i64 q1.1, .int .i64 q2.1, .int .i64 q3.1, .int .i64 q4.1, .int .i64 q5.1, .int .i64 q6.1.1, .int .i64 q6.1.2, .int .i64 q7.1.1, .int .i64 q7.1.2, .slice sa8 q8.1.length sc8, .slice sa9 q9.1.length sc9, .slice sa10 q10.1.length sc10, .slice sa11 q11.1.length sc11, v, .slice none 0 0]) ⟨q0.1, q1.1, q2.1, q3.1, q4.1, q5.1, q6.1.1, q6.1.2, q7.1.1, q7.1.2, q8.1, q9.1, q10.1, q11.1, [], []⟩ (.slice sa8 q8.1.length sc8) (.slice sa9 q9.1.length sc9) (.slice sa10 q10.1.length sc10) (.slice sa11 q11.1.length sc11) q12 k (w'.setCell ⟨b3, 14, none⟩ (.slice va' (ls.length + 1) vc')) from by
     refine ⟨ls ++ [⟨p0.1, p1.1⟩], p1.2, va', vc', ?_, HS3.out, ?_, ?_, ?_⟩
     · rw [List.length_append, List.length_singleton]
       exact hg
     · have := HH.out.2.2.1
       rw [List.length_append, List.length_singleton]
       omega
     · have := HH.out.2.2.2.1
       rw [HLP.out] at this
       rw [← this, List.append_assoc]
       rfl
     · rw [List.length_append, List.length_singleton, List.flatMap_append]
       exact hg.vec2 hv')
    clear hg hcB hv' ho' hb'
    (refine hK.out _ _ ?_ (fun hNew => ?_); (focus (exact ca)); clear hHeld; have hHeld := hNew; clear hNew)
    (clear hK K; try go_frame)
    (refine takeD (i := 9) (some 101) (v := ?_) rfl (by rfl) (by rfl) (by kernel_rfl) (by rfl) (fun _ _ _ h => h) ?_ ?_; rotate_left; (intro w; go_simp; try with_reducible rfl); try go_frame)
    refine wpAnyD_ready (rs := [10]) (by kernel_rfl) (by simp) ?_
    refine ReadyD.last rfl (by rfl) (fun K hK => ?_) ?_
    go_simp
    refine hK.out _ _ ?_
    (clear hK K; try go_frame)
    refine wpAnyD_done (by kernel_rfl) ?_ _
    rotate_left
    exact ReadyD.nil
    exact ReadyD.nil
    exact ReadyD.nil
    exact ReadyD.nil
    exact ReadyD.nil
    clear hHeld
    go_wp2_with fail
    go_roundw
    case rel => exact ⟨k, by rfl, by have := HK.out; omega, HNX.out⟩
    case measure => first | (simp [intOf]; done) | (simp [intOf]; have := HKK.out; omega)
 have HX := Lib.hid (show q12 = (ls, (l', sh)) from by
  have hbq := HBQ.out
  rw [← HH.out.2.2.2.1]
  cases k with
  | zero => simp [loopS]
  | succ k =>
   have hs : sh = true := by
    cases sh with
    | true => rfl
    | false => simp at hbq
   rw [hs]
   simp [loopS])
 have HT12 := Lib.hid (show TgSt W (fun g => Q g ∧ g < w.heap.size) r w.heap.size b3 q12.2 [.int .i64 q0.1, .int .i64 q1.1, .int .i64 q2.1, .int .i64 q3.1, .int .i64 q4.1, .int .i64 q5.1, .int .i64 q6.1.1, .int .i64 q6.1.2, .int .i64 q7.1.1, .int .i64 q7.1.2, .slice sa8 q8.1.length sc8, .slice sa9 q9.1.length sc9, .slice sa10 q10.1.length sc10, .slice sa11 q11.1.length sc11, .slice sa12 q12.1.length sc12, .slice none 0 0] ⟨q0.1, q1.1, q2.1, q3.1, q4.1, q5.1, q6.1.1, q6.1.2, q7.1.1, q7.1.2, q8.1, q9.1, q10.1, q11.1, q12.1, []⟩ (.slice sa8 q8.1.length sc8) (.slice sa9 q9.1.length sc9) (.slice sa10 q10.1.length sc10) (.slice sa11 q11.1.length sc11) (.slice sa12 q12.1.length sc12) (.slice none 0 0) (.slice none 0 0) wr from by
  rw [HX.out]
  exact HH.out.1.next ⟨HH.out.1.els.o, HH.out.1.els.n, HH.out.1.els.m, HH.out.1.els.l, HH.out.1.gl HH.out.2.2.2.2, HH.out.1.els.p, HH.out.1.els.bo, HH.out.1.els.bn⟩)
 clear HBQ c1 HH HK HL12 HX
 go_wp2_with fail
 refine (HY13.out _ _ _ _ _ HT12.out.rd.base).mono ?_
 rintro en wy ⟨rfl, ky⟩
 have HRL := Lib.hid (show OpRel W (fun g => Q g ∧ g < w.heap.size) r w.heap.size b3 (fun v => [.int .i64 q0.1, .int .i64 q1.1, .int .i64 q2.1, .int .i64 q3.1, .int .i64 q4.1, .int .i64 q5.1, .int .i64 q6.1.1, .int .i64 q6.1.2, .int .i64 q7.1.1, .int .i64 q7.1.2, .slice sa8 q8.1.length sc8, .slice sa9 q9.1.length sc9, .slice sa10 q10.1.length sc10, .slice sa11 q11.1.length sc11, .slice sa12 q12.1.length sc12, v]) ⟨q0.1, q1.1, q2.1, q3.1, q4.1, q5.1, q6.1.1, q6.1.2, q7.1.1, q7.1.2, q8.1, q9.1, q10.1, q11.1, q12.1, []⟩ (.slice sa8 q8.1.length sc8) (.slice sa9 q9.1.length sc9) (.slice sa10 q10.1.length sc10) (.slice sa11 q11.1.length sc11) (.slice sa12 q12.1.length sc12) q13 n13 wy from ⟨[], s13, none, 0, HT12.out.call ky, HL13.out.2.2, by simpa using HL13.out.2.1, by rw [← HL13.out.1]; rfl, OpVec.nil _ _⟩)
 clear ky HY13
 go_wp2_with fail
 go_loopw [10] (fun s wr => ∃ k : Nat, s = .int .i64 k ∧ k ≤ n13 ∧ OpRel W (fun g => Q g ∧ g < w.heap.size) r w.heap.size b3 (fun v => [.int .i64 q0.1, .int .i64 q1.1, .int .i64 q2.1, .int .i64 q3.1, .int .i64 q4.1, .int .i64 q5.1, .int .i64 q6.1.1, .int .i64 q6.1.2, .int .i64 q7.1.1, .int .i64 q7.1.2, .slice sa8 q8.1.length sc8, .slice sa9 q9.1.length sc9, .slice sa10 q10.1.length sc10, .slice sa11 q11.1.length sc11, .slice sa12 q12.1.length sc12, v]) ⟨q0.1, q1.1, q2.1, q3.1, q4.1, q5.1, q6.1.1, q6.1.2, q7.1.1, q7.1.2, q8.1, q9.1, q10.1, q11.1, q12.1, []⟩ (.slice sa8 q8.1.length sc8) (.slice sa9 q9.1.length sc9) (.slice sa10 q10.1.length sc10) (.slice sa11 q11.1.length sc11) (.slice sa12 q12.1.length sc12) q13 k wr) (fun s _ => (intOf s).toNat)
 case atStart => exact ⟨n13, rfl, Nat.le_refl _, HRL.out⟩
 clear HRL
 obtain ⟨k, rfl, hk, ls, s', sa13, sc13, hT, hl3, hlen, hRR, hv⟩ := hrel
 obtain ⟨l', sh⟩ := s'
 dsimp only at hl3
 obtain ⟨bv, hcc, -⟩ := hT.rd.b
 have c1 : wr.cell? ⟨r, 1, none⟩ = some (.bool sh) := hcc.cell 1
 have HH := Lib.hid (And.intro hT (And.intro hl3 (And.intro hlen (And.intro hRR hv))))
 have HK := Lib.hid hk
 clear hT hl3 hlen hRR hv hcc hk
 obtain ⟨bq, hbq⟩ : ∃ q, (decide (0 < k) && !sh) = q := ⟨_, rfl⟩
 have HBQ := Lib.hid hbq
 clear hbq
 go_upto_region 16 with fail
 go_cut [112] (fun v wc => v = .bool bq ∧ wr = wc)
 case first =>
  by_cases h0 : 0 < k
  · have b1 : decide ((0 : Int) < (k : Int)) = true := decide_eq_true (by omega)
    have b2 : decide (0 < k) = true := decide_eq_true h0
    have F := Lib.hid (show Value.bool (!sh) = .bool bq from by rw [← HBQ.out, b2]; rfl)
    cases sh
    all_goals
     go_wp2_with fail
     go_meet
     case rel => exact ⟨F.out, rfl⟩
  · have b1 : decide ((0 : Int) < (k : Int)) = false := decide_eq_false (by omega)
    have b2 : decide (0 < k) = false := decide_eq_false h0
    have F := Lib.hid (show Value.bool false = .bool bq from by rw [← HBQ.out, b2]; rfl)
    go_wp2_with fail
    go_meet
    case rel => exact ⟨F.out, rfl⟩
 obtain ⟨rfl, rfl⟩ := hcut
 cases bq
 rotate_left
 · as_aux_lemma =>
    have hbq := HBQ.out
    rw [Bool.and_eq_true] at hbq
    have hi : 0 < k := of_decide_eq_true hbq.1
    obtain rfl : sh = false := by
     have := hbq.2
     cases sh
     · rfl
     · cases this
    clear hbq HBQ c1
    obtain ⟨k, rfl⟩ : ∃ j, k = j + 1 := ⟨k - 1, by omega⟩
    have u9 : IntKind.i64.wrap (((k + 1 : Nat) : Int) - 1) = (k : Int) := by
     have e : ((k + 1 : Nat) : Int) - 1 = (k : Int) := by omega
     rw [e]
     exact IntWalk.i64_in _ (by have := HH.out.2.2.1; omega)
    obtain ⟨K, hK⟩ : ∃ K : Int, ((k + 1 : Nat) : Int) = K := ⟨_, rfl⟩
    rw [hK] at u9 ⊢
    have HKK := Lib.hid hK
    clear hK hi
    obtain ⟨i0, hi0, hz0, hz1, hz2⟩ := info_parts info_op
    have HI := Lib.hid (And.intro hi0 (And.intro hz0 (And.intro hz1 hz2)))
    clear hi0 hz0 hz1 hz2
    have hS : ((l', false) : RS).1.length ≤ 100000 := HH.out.2.1
    obtain ⟨p0, hp0⟩ : ∃ p, numR 2 ((l', false) : RS) = p := ⟨_, rfl⟩
    have hs0 : p0.2.1.length ≤ 100000 := by rw [← hp0]; exact numR_len hS
    have HC0 := Lib.hid (fun (W2 : World) (X2 : Nat → Prop) w2 (k : RAt W2 X2 (fun g => Q g ∧ g < w.heap.size) r ((l', false) : RS) w2) => rnumr_any 2 rfl k (by omega) hS)
    rw [hp0] at HC0
    obtain ⟨p1, hp1⟩ : ∃ p, numR 1 p0.2 = p := ⟨_, rfl⟩
    have hs1 : p1.2.1.length ≤ 100000 := by rw [← hp1]; exact numR_len hs0
    have HC1 := Lib.hid (fun (W2 : World) (X2 : Nat → Prop) w2 (k : RAt W2 X2 (fun g => Q g ∧ g < w.heap.size) r p0.2 w2) => rnumr_any 1 rfl k (by omega) hs0)
    rw [hp1] at HC1
    obtain ⟨q, hq⟩ : ∃ q, readsR mvR p1.2 = q := ⟨_, rfl⟩
    have HC2 := Lib.hid (fun (W2 : World) (X2 : Nat → Prop) w2 (k : RAt W2 X2 (fun g => Q g ∧ g < w.heap.size) r p1.2 w2) => rmoves_any k hs1)
    rw [hq] at HC2
    have hs2 : q.2.1.length ≤ 100000 := by rw [← hq]; exact readsR_len (fun _ => mvR_len) hs1
    have hx : opR ((l', false) : RS) = (⟨p0.1, q.1, p1.1⟩, q.2) := by
     unfold opR
     rw [hp0, hp1, hq]
    have HLP := Lib.hid (show loopS opR (k + 1) (l', false) = (⟨p0.1, q.1, p1.1⟩ :: (loopS opR k q.2).1, (loopS opR k q.2).2) from by
     have e : loopS opR (k + 1) (l', false) = ((opR (l', false)).1 :: (loopS opR k (opR (l', false)).2).1, (loopS opR k (opR (l', false)).2).2) := rfl
     rw [e, hx])
    have HS3 := Lib.hid hs2
    clear hp0 hp1 hx hS hs0 hs1 hq hs2
    obtain ⟨mvs, hml, hvv, hmvs⟩ := HH.out.2.2.2.2
    have HML := Lib.hid hml
    have c15 : wr.cell? ⟨b3, 15, none⟩ = some (.slice sa13 ls.length sc13) := HH.out.1.c.cell 15
    have HTD := Lib.hid (And.intro (HH.out.1.still (still_drew wr)) (Vec.drew hvv))
    have HMD := Lib.hid (fun (k : Nat) (o : POp) (mv : Value) (hk : ls[k]? = some o) (hm : mvs[k]? = some mv) => (hmvs k o mv hk hm).still (still_drew wr))
    clear hml hvv hmvs
    go_wp2_with fail
    refine wp_region_D_drew (D := (fun i => [0, 2, 4, 6, 11, 12].contains i)) (S := (fun w' => w'.cell? ⟨b3, 15, none⟩ = some (.slice sa13 ls.length sc13))) (by kernel_rfl) ?_ (fun hHeld => ?_)
    · exact Still.cell (still_drew _) c15
    (refine takeD (i := 0) (some 115) (v := ?_) rfl (by rfl) (by rfl) (by kernel_rfl) (by rfl) (fun _ _ _ h => h) ?_ ?_; rotate_left; (intro w; go_simp; try with_reducible rfl); try go_frame)
    (refine takeD (i := 2) (some 117) (v := ?_) rfl (by rfl) (by rfl) (by kernel_rfl) (by rfl) (fun _ _ _ h => h) ?_ ?_; rotate_left; (intro w; go_simp; try with_reducible rfl); try go_frame)
    (refine takeD (i := 4) (some 119) (v := ?_) rfl (by rfl) (by rfl) (by kernel_rfl) (by rfl) (fun _ _ _ h => h) ?_ ?_; rotate_left; (intro w; go_simp; try with_reducible rfl); try go_frame)
    (refine takeD (i := 6) (some 121) (v := ?_) rfl (by rfl) (by rfl) (by kernel_rfl) (by rfl) (fun _ _ _ h => h) ?_ ?_; rotate_left; (intro w; go_simp; try with_reducible rfl); try go_frame)
    (refine takeS (i := 1) (some 116) (v := ?_) rfl (by rfl) (by rfl) (by kernel_rfl) (by rfl) (fun _ _ _ h => h) (by assumption) ?_ ?_; rotate_left; (intro w hSw; (try dsimp only at hSw); go_simp; try with_reducible rfl); try go_frame)
    refine wpAnyD_ready (rs := [3]) (by kernel_rfl) (by simp) ?_
    refine ReadyD.cons rfl (fun K hK => ?_) ?_
    go_simp
    refine (HC0.out _ _ _ HTD.out.1.rd.base).mono ?_
    rintro en w4 ⟨rfl, k0⟩
    have HT4 := Lib.hid (And.intro (HTD.out.1.call k0) (HTD.out.1.vec HTD.out.2 k0.only))
    have HM4 := Lib.hid (fun (k : Nat) (o : POp) (mv : Value) (hk : ls[k]? = some o) (hm : mvs[k]? = some mv) => HTD.out.1.sl (HMD.out k o mv hk hm) (fun g hg => hg.1) k0.only)
    have cc4 : w4.cell? ⟨b3, 15, none⟩ = some (.slice sa13 ls.length sc13) := HT4.out.1.c.cell 15
    clear k0
    go_wp2_with fail
    (refine hK.out _ _ ?_ (fun hNew => ?_); (focus (exact cc4)); clear hHeld; have hHeld := hNew; clear hNew)
    (clear hK K; try go_frame)
    refine wpAnyD_ready (rs := [5]) (by kernel_rfl) (by simp) ?_
    refine ReadyD.cons rfl (fun K hK => ?_) ?_
    go_simp
    refine (HC1.out _ _ _ HT4.out.1.rd.base).mono ?_
    rintro en w5 ⟨rfl, k0⟩
    have HT5 := Lib.hid (And.intro (HT4.out.1.call k0) (HT4.out.1.vec HT4.out.2 k0.only))
    have HM5 := Lib.hid (fun (k : Nat) (o : POp) (mv : Value) (hk : ls[k]? = some o) (hm : mvs[k]? = some mv) => HT4.out.1.sl (HM4.out k o mv hk hm) (fun g hg => hg.1) k0.only)
    have cc5 : w5.cell? ⟨b3, 15, none⟩ = some (.slice sa13 ls.length sc13) := HT5.out.1.c.cell 15
    clear k0
    go_wp2_with fail
    (refine hK.out _ _ ?_ (fun hNew => ?_); (focus (exact cc5)); clear hHeld; have hHeld := hNew; clear hNew)
    (clear hK K; try go_frame)
    refine wpAnyD_ready (rs := [7]) (by kernel_rfl) (by simp) ?_
    refine ReadyD.cons rfl (fun K hK => ?_) ?_
    go_simp
    refine (HC2.out _ _ _ HT5.out.1.rd.base).mono ?_
    rintro en w6 ⟨sv, rfl, hsv, k0⟩
    have HT6 := Lib.hid (And.intro (HT5.out.1.call k0) (HT5.out.1.vec HT5.out.2 k0.only))
    have HM6 := Lib.hid (fun (k : Nat) (o : POp) (mv : Value) (hk : ls[k]? = some o) (hm : mvs[k]? = some mv) => HT5.out.1.sl (HM5.out k o mv hk hm) (fun g hg => hg.1) k0.only)
    obtain ⟨ma, mc, rfl⟩ := hsv.form
    have HSV := Lib.hid (hsv.mono (R := (fun g => W.heap.size ≤ g ∧ g ≠ b3 ∧ (Value.slice sa13 ls.length sc13).ownBlock ≠ some g)) fun g hg => by
     have h5 := HT5.out.1.rd.only.size
     have h6 := HT5.out.1.c.lt
     exact ⟨by omega, by omega, fun e => by have := (HT5.out.1.own g e).2.1; omega⟩)
    clear hsv
    have cc6 : w6.cell? ⟨b3, 15, none⟩ = some (.slice sa13 ls.length sc13) := HT6.out.1.c.cell 15
    clear k0
    go_wp2_with fail
    (refine hK.out _ _ ?_ (fun hNew => ?_); (focus (exact cc6)); clear hHeld; have hHeld := hNew; clear hNew)
    (clear hK K; try go_frame)
    (refine takeS (i := 8) (some 123) (v := ?_) rfl (by rfl) (by rfl) (by kernel_rfl) (by rfl) (fun _ _ _ h => h) (by assumption) ?_ ?_; rotate_left; (intro w hSw; (try dsimp only at hSw); go_simp; try with_reducible rfl); try go_frame)
    refine wpAnyD_ready (rs := [9]) (by kernel_rfl) (by simp) ?_
    refine ReadyD.cons rfl (fun K hK => ?_) ?_
    go_simp
    (refine hK.out _ _ ?_ (fun hNew => ?_); (focus (exact Still.cell ((Still.refl _).alloc _) cc6)); clear hHeld; have hHeld := hNew; clear hNew)
    (clear hK K; try go_frame)
    refine wpAnyD_ready (rs := [10]) (by kernel_rfl) (by simp) ?_
    refine ReadyD.cons rfl (fun K hK => ?_) ?_
    refine step_append_vec rfl _ _ 32 rfl 112 i0 _ 3 40 Tryz.underlying32 HI.out.1 HI.out.2.1 HI.out.2.2.1 HI.out.2.2.2 rfl (by decide) (.slice sa13 ls.length sc13) ls.length ((ls.zip mvs).flatMap opC) (by simp [Act.eval]) (HT6.out.2.alloc _) (.slice (some ⟨w6.heap.size, 0, none⟩) 1 1) 1 [.int .i64 p0.1, .slice ma q.1.length mc, .int .i64 p1.1] (by simp [Act.eval]) ((cellsAt_new w6 [.int .i64 p0.1, .slice ma q.1.length mc, .int .i64 p1.1] _).reads rfl) (by intro u hu; simp at hu; rcases hu with rfl | rfl | rfl <;> rfl) (by have := HH.out.2.2.1; simp only [maxLen]; omega) (by have := HH.out.2.2.1; omega) ?_
    intro v' w' hv' ho' hb'
    have hg := HT6.out.1.grow ho' hb' 15
    obtain ⟨va', vc', rfl⟩ := hv'.form'
    have hcB := (HT6.out.1.c.only ((Still.refl w6).alloc _) fun e => e).only ho' fun e => (HT6.out.1.own _ e).2.2 rfl
    have ca : w'.cell? ⟨b3, 15, none⟩ = some (.slice sa13 ls.length sc13) := hcB.cell 15
    have fa : w'.frozen? ⟨b3, 15, none⟩ = false := hcB.free 15
    have HNX := Lib.hid (show OpRel W (fun g => Q g ∧ g < w.heap.size) r w.heap.size b3 (fun v => [.int .i64 q0.1, .int .i64 q1.1, .int .i64 q2.1, .int .i64 q3.1, .int .i64 q4.1, .int .i64 q5.1, .int .i64 q6.1.1, .int .i64 q6.1.2, .int .i64 q7.1.1, .int .i64 q7.1.2, .slice sa8 q8.1.length sc8, .slice sa9 q9.1.length sc9, .slice sa10 q10.1.length sc10, .slice sa11 q11.1.length sc11, .slice sa12 q12.1.length sc12, v]) ⟨q0.1, q1.1, q2.1, q3.1, q4.1, q5.1, q6.1.1, q6.1.2, q7.1.1, q7.1.2, q8.1, q9.1, q10.1, q11.1, q12.1, []⟩ (.slice sa8 q8.1.length sc8) (.slice sa9 q9.1.length sc9) (.slice sa10 q10.1.length sc10) (.slice sa11 q11.1.length sc11) (.slice sa12 q12.1.length sc12) q13 k (w'.setCell ⟨b3, 15, none⟩ (.slice va' (ls.length + 1) vc')) from by
     refine ⟨ls ++ [⟨p0.1, q.1, p1.1⟩], q.2, va', vc', ?_, HS3.out, ?_, ?_, ?_⟩
     · rw [List.length_append, List.length_singleton]
       exact hg
     · have := HH.out.2.2.1
       rw [List.length_append, List.length_singleton]
       omega
     · have := HH.out.2.2.2.1
       rw [HLP.out] at this
       rw [← this, List.append_assoc]
       rfl
     · rw [List.length_append, List.length_singleton]
       exact opvec_push HML.out HM6.out HSV.out hv' ho' hb' (fun e => (hg.own _ e).2.2 rfl))
    clear hg hcB hv' ho' hb'
    (refine hK.out _ _ ?_ (fun hNew => ?_); (focus (exact ca)); clear hHeld; have hHeld := hNew; clear hNew)
    (clear hK K; try go_frame)
    (refine takeD (i := 11) (some 126) (v := ?_) rfl (by rfl) (by rfl) (by kernel_rfl) (by rfl) (fun _ _ _ h => h) ?_ ?_; rotate_left; (intro w; go_simp; try with_reducible rfl); try go_frame)
    refine wpAnyD_ready (rs := [12]) (by kernel_rfl) (by simp) ?_
    refine ReadyD.last rfl (by rfl) (fun K hK => ?_) ?_
    go_simp
    refine hK.out _ _ ?_
    (clear hK K; try go_frame)
    refine wpAnyD_done (by kernel_rfl) ?_ _
    rotate_left
    exact ReadyD.nil
    exact ReadyD.nil
    exact ReadyD.nil
    exact ReadyD.nil
    exact ReadyD.nil
    exact ReadyD.nil
    clear hHeld
    go_wp2_with fail
    go_roundw
    case rel => exact ⟨k, by rfl, by have := HK.out; omega, HNX.out⟩
    case measure => first | (simp [intOf]; done) | (simp [intOf]; have := HKK.out; omega)
 have HX := Lib.hid (show q13 = (ls, (l', sh)) from by
  have hbq := HBQ.out
  rw [← HH.out.2.2.2.1]
  cases k with
  | zero => simp [loopS]
  | succ k =>
   have hs : sh = true := by
    cases sh with
    | true => rfl
    | false => simp at hbq
   rw [hs]
   simp [loopS])
 have HT13 := Lib.hid (show TgSt W (fun g => Q g ∧ g < w.heap.size) r w.heap.size b3 q13.2 [.int .i64 q0.1, .int .i64 q1.1, .int .i64 q2.1, .int .i64 q3.1, .int .i64 q4.1, .int .i64 q5.1, .int .i64 q6.1.1, .int .i64 q6.1.2, .int .i64 q7.1.1, .int .i64 q7.1.2, .slice sa8 q8.1.length sc8, .slice sa9 q9.1.length sc9, .slice sa10 q10.1.length sc10, .slice sa11 q11.1.length sc11, .slice sa12 q12.1.length sc12, .slice sa13 q13.1.length sc13] ⟨q0.1, q1.1, q2.1, q3.1, q4.1, q5.1, q6.1.1, q6.1.2, q7.1.1, q7.1.2, q8.1, q9.1, q10.1, q11.1, q12.1, q13.1⟩ (.slice sa8 q8.1.length sc8) (.slice sa9 q9.1.length sc9) (.slice sa10 q10.1.length sc10) (.slice sa11 q11.1.length sc11) (.slice sa12 q12.1.length sc12) (.slice sa13 q13.1.length sc13)  (.slice none 0 0) wr from by
  rw [HX.out]
  exact HH.out.1.next ⟨HH.out.1.els.o, HH.out.1.els.n, HH.out.1.els.m, HH.out.1.els.l, HH.out.1.els.d, OpVec.sl HH.out.2.2.2.2 (fun g hg => ⟨hg.1, hg.2.1⟩) (fun g hg => ⟨⟨(HH.out.1.own g hg).1, (HH.out.1.own g hg).2.2⟩, (HH.out.1.own g hg).2.1⟩), HH.out.1.els.bo, HH.out.1.els.bn⟩)
 clear HBQ c1 HH HK HL13 HX
 have HTE := HT13
 generalize wr = wE at HTE ⊢
 have HTB2 := Lib.hid (show takeE b = if q13.2.2 = false ∧ q13.2.1 = [] ∧ PE.may ⟨q0.1, q1.1, q2.1, q3.1, q4.1, q5.1, q6.1.1, q6.1.2, q7.1.1, q7.1.2, q8.1, q9.1, q10.1, q11.1, q12.1, q13.1⟩ = true then some ⟨q0.1, q1.1, q2.1, q3.1, q4.1, q5.1, q6.1.1, q6.1.2, q7.1.1, q7.1.2, q8.1, q9.1, q10.1, q11.1, q12.1, q13.1⟩ else none from by
  rw [← takeR_takeE HBY.out.1]
  unfold takeR
  rw [HTB.out])
 have HSW := Lib.hid (show Still w wE from HW.out.1.andThen HTE.out.rd.only fun i hi e => by have := HRZ.out; have e' : i = r := e; omega)
 obtain ⟨⟨l13, sh⟩, hsh⟩ : ∃ x : RS, q13.2 = x := ⟨_, rfl⟩
 rw [hsh] at HTE HTB2
 obtain ⟨bv2, hcr, hsl, -⟩ := HTE.out.rd.b
 obtain ⟨ra, rc, rfl⟩ := hsl.form
 have cs0 : wE.cell? ⟨r, 0, none⟩ = some (.slice ra l13.length rc) := hcr.cell 0
 have cs : wE.cell? ⟨r, 1, none⟩ = some (.bool sh) := hcr.cell 1
 clear hcr hsh hsl HT0 HT11 HT12 HT13
 cases sh with
 | true =>
  have HNO := Lib.hid (show takeE b = none from by
   have := HTB2.out
   rw [if_neg (fun h => by have := h.1; cases this)] at this
   exact this)
  as_aux_lemma =>
   obtain ⟨du, hu, hdu⟩ := under_en
   have HU := Lib.hid (And.intro hu hdu)
   clear hu hdu
   have HZC := Lib.hid HTE.out.z
   have F := Lib.hid (fun wf (ho : Only (fun b => b = w.heap.size) wE wf) => show TakePost w b (.returned (.tuple #[.agg zE.toArray, .int .i64 4])) wf from TakePost.no HNO.out (HSW.out.andThen ho fun i hi e => by have e' : i = w.heap.size := e; omega))
   go_wp2_with (refine wpList_storeAgg rfl 34 _ _ rfl w.heap.size #[.int .i64 0, .int .i64 0, .int .i64 0, .int .i64 0, .int .i64 0, .int .i64 0, .int .i64 0, .int .i64 0, .int .i64 0, .int .i64 0, .slice none 0 0, .slice none 0 0, .slice none 0 0, .slice none 0 0, .slice none 0 0, .slice none 0 0] rfl rfl HZC.out size_en rfl rfl ?_; intro wf hcf hof hzf; have FF := Lib.hid (F.out wf hof); have HCF := Lib.hid hcf; clear hcf hof hzf)
   have z0 : wf.cell? ⟨w.heap.size, 0, none⟩ = some (.int .i64 0) := HCF.out.cell 0
   have z1 : wf.cell? ⟨w.heap.size, 1, none⟩ = some (.int .i64 0) := HCF.out.cell 1
   have z2 : wf.cell? ⟨w.heap.size, 2, none⟩ = some (.int .i64 0) := HCF.out.cell 2
   have z3 : wf.cell? ⟨w.heap.size, 3, none⟩ = some (.int .i64 0) := HCF.out.cell 3
   have z4 : wf.cell? ⟨w.heap.size, 4, none⟩ = some (.int .i64 0) := HCF.out.cell 4
   have z5 : wf.cell? ⟨w.heap.size, 5, none⟩ = some (.int .i64 0) := HCF.out.cell 5
   have z6 : wf.cell? ⟨w.heap.size, 6, none⟩ = some (.int .i64 0) := HCF.out.cell 6
   have z7 : wf.cell? ⟨w.heap.size, 7, none⟩ = some (.int .i64 0) := HCF.out.cell 7
   have z8 : wf.cell? ⟨w.heap.size, 8, none⟩ = some (.int .i64 0) := HCF.out.cell 8
   have z9 : wf.cell? ⟨w.heap.size, 9, none⟩ = some (.int .i64 0) := HCF.out.cell 9
   have z10 : wf.cell? ⟨w.heap.size, 10, none⟩ = some (.slice none 0 0) := HCF.out.cell 10
   have z11 : wf.cell? ⟨w.heap.size, 11, none⟩ = some (.slice none 0 0) := HCF.out.cell 11
   have z12 : wf.cell? ⟨w.heap.size, 12, none⟩ = some (.slice none 0 0) := HCF.out.cell 12
   have z13 : wf.cell? ⟨w.heap.size, 13, none⟩ = some (.slice none 0 0) := HCF.out.cell 13
   have z14 : wf.cell? ⟨w.heap.size, 14, none⟩ = some (.slice none 0 0) := HCF.out.cell 14
   have z15 : wf.cell? ⟨w.heap.size, 15, none⟩ = some (.slice none 0 0) := HCF.out.cell 15
   exact bodyPost_ret (v := .tuple #[.agg #[.int .i64 0, .int .i64 0, .int .i64 0, .int .i64 0, .int .i64 0, .int .i64 0, .int .i64 0, .int .i64 0, .int .i64 0, .int .i64 0, .slice none 0 0, .slice none 0 0, .slice none 0 0, .slice none 0 0, .slice none 0 0, .slice none 0 0], .int .i64 4]) (by simp [results, Tryz.results40, go_sem, z0, z1, z2, z3, z4, z5, z6, z7, z8, z9, z10, z11, z12, z13, z14, z15]) rfl FF.out
 | false =>
  obtain ⟨L13, hL13⟩ : ∃ n, l13.length = n := ⟨_, rfl⟩
  rw [hL13] at cs0
  have HL13 := Lib.hid hL13
  clear hL13
  by_cases h0 : 0 < L13
  · have b1 : decide ((0 : Int) < (L13 : Int)) = true := decide_eq_true (by omega)
    have b2 : decide (0 < L13) = true := decide_eq_true h0
    have HNO := Lib.hid (show takeE b = none from by
     have := HTB2.out
     rw [if_neg (fun h => by have h2 : l13 = [] := h.2.1; have h3 := HL13.out; rw [h2] at h3; simp at h3; omega)] at this
     exact this)
    as_aux_lemma =>
     obtain ⟨du, hu, hdu⟩ := under_en
     have HU := Lib.hid (And.intro hu hdu)
     clear hu hdu
     have HZC := Lib.hid HTE.out.z
     have F := Lib.hid (fun wf (ho : Only (fun b => b = w.heap.size) wE wf) => show TakePost w b (.returned (.tuple #[.agg zE.toArray, .int .i64 4])) wf from TakePost.no HNO.out (HSW.out.andThen ho fun i hi e => by have e' : i = w.heap.size := e; omega))
     go_wp2_with (refine wpList_storeAgg rfl 34 _ _ rfl w.heap.size #[.int .i64 0, .int .i64 0, .int .i64 0, .int .i64 0, .int .i64 0, .int .i64 0, .int .i64 0, .int .i64 0, .int .i64 0, .int .i64 0, .slice none 0 0, .slice none 0 0, .slice none 0 0, .slice none 0 0, .slice none 0 0, .slice none 0 0] rfl rfl HZC.out size_en rfl rfl ?_; intro wf hcf hof hzf; have FF := Lib.hid (F.out wf hof); have HCF := Lib.hid hcf; clear hcf hof hzf)
     have z0 : wf.cell? ⟨w.heap.size, 0, none⟩ = some (.int .i64 0) := HCF.out.cell 0
     have z1 : wf.cell? ⟨w.heap.size, 1, none⟩ = some (.int .i64 0) := HCF.out.cell 1
     have z2 : wf.cell? ⟨w.heap.size, 2, none⟩ = some (.int .i64 0) := HCF.out.cell 2
     have z3 : wf.cell? ⟨w.heap.size, 3, none⟩ = some (.int .i64 0) := HCF.out.cell 3
     have z4 : wf.cell? ⟨w.heap.size, 4, none⟩ = some (.int .i64 0) := HCF.out.cell 4
     have z5 : wf.cell? ⟨w.heap.size, 5, none⟩ = some (.int .i64 0) := HCF.out.cell 5
     have z6 : wf.cell? ⟨w.heap.size, 6, none⟩ = some (.int .i64 0) := HCF.out.cell 6
     have z7 : wf.cell? ⟨w.heap.size, 7, none⟩ = some (.int .i64 0) := HCF.out.cell 7
     have z8 : wf.cell? ⟨w.heap.size, 8, none⟩ = some (.int .i64 0) := HCF.out.cell 8
     have z9 : wf.cell? ⟨w.heap.size, 9, none⟩ = some (.int .i64 0) := HCF.out.cell 9
     have z10 : wf.cell? ⟨w.heap.size, 10, none⟩ = some (.slice none 0 0) := HCF.out.cell 10
     have z11 : wf.cell? ⟨w.heap.size, 11, none⟩ = some (.slice none 0 0) := HCF.out.cell 11
     have z12 : wf.cell? ⟨w.heap.size, 12, none⟩ = some (.slice none 0 0) := HCF.out.cell 12
     have z13 : wf.cell? ⟨w.heap.size, 13, none⟩ = some (.slice none 0 0) := HCF.out.cell 13
     have z14 : wf.cell? ⟨w.heap.size, 14, none⟩ = some (.slice none 0 0) := HCF.out.cell 14
     have z15 : wf.cell? ⟨w.heap.size, 15, none⟩ = some (.slice none 0 0) := HCF.out.cell 15
     exact bodyPost_ret (v := .tuple #[.agg #[.int .i64 0, .int .i64 0, .int .i64 0, .int .i64 0, .int .i64 0, .int .i64 0, .int .i64 0, .int .i64 0, .int .i64 0, .int .i64 0, .slice none 0 0, .slice none 0 0, .slice none 0 0, .slice none 0 0, .slice none 0 0, .slice none 0 0], .int .i64 4]) (by simp [results, Tryz.results40, go_sem, z0, z1, z2, z3, z4, z5, z6, z7, z8, z9, z10, z11, z12, z13, z14, z15]) rfl FF.out
  have b1 : decide ((0 : Int) < (L13 : Int)) = false := decide_eq_false (by omega)
  have b2 : decide (0 < L13) = false := decide_eq_false h0
  have HL0 := Lib.hid (show l13 = [] from List.length_eq_zero_iff.1 (by have := HL13.out; omega))
  have HM := Lib.hid (rmayE_any wE _ ⟨q0.1, q1.1, q2.1, q3.1, q4.1, q5.1, q6.1.1, q6.1.2, q7.1.1, q7.1.2, q8.1, q9.1, q10.1, q11.1, q12.1, q13.1⟩ (.slice sa8 q8.1.length sc8) (.slice sa9 q9.1.length sc9) (.slice sa10 q10.1.length sc10) (.slice sa11 q11.1.length sc11) (.slice sa12 q12.1.length sc12) (.slice sa13 q13.1.length sc13) HTE.out.el)
  unfold eV at HM
  have e0 : wE.cell? ⟨b3, 0, none⟩ = some (.int .i64 q0.1) := HTE.out.c.cell 0
  have e1 : wE.cell? ⟨b3, 1, none⟩ = some (.int .i64 q1.1) := HTE.out.c.cell 1
  have e2 : wE.cell? ⟨b3, 2, none⟩ = some (.int .i64 q2.1) := HTE.out.c.cell 2
  have e3 : wE.cell? ⟨b3, 3, none⟩ = some (.int .i64 q3.1) := HTE.out.c.cell 3
  have e4 : wE.cell? ⟨b3, 4, none⟩ = some (.int .i64 q4.1) := HTE.out.c.cell 4
  have e5 : wE.cell? ⟨b3, 5, none⟩ = some (.int .i64 q5.1) := HTE.out.c.cell 5
  have e6 : wE.cell? ⟨b3, 6, none⟩ = some (.int .i64 q6.1.1) := HTE.out.c.cell 6
  have e7 : wE.cell? ⟨b3, 7, none⟩ = some (.int .i64 q6.1.2) := HTE.out.c.cell 7
  have e8 : wE.cell? ⟨b3, 8, none⟩ = some (.int .i64 q7.1.1) := HTE.out.c.cell 8
  have e9 : wE.cell? ⟨b3, 9, none⟩ = some (.int .i64 q7.1.2) := HTE.out.c.cell 9
  have e10 : wE.cell? ⟨b3, 10, none⟩ = some (.slice sa8 q8.1.length sc8) := HTE.out.c.cell 10
  have e11 : wE.cell? ⟨b3, 11, none⟩ = some (.slice sa9 q9.1.length sc9) := HTE.out.c.cell 11
  have e12 : wE.cell? ⟨b3, 12, none⟩ = some (.slice sa10 q10.1.length sc10) := HTE.out.c.cell 12
  have e13 : wE.cell? ⟨b3, 13, none⟩ = some (.slice sa11 q11.1.length sc11) := HTE.out.c.cell 13
  have e14 : wE.cell? ⟨b3, 14, none⟩ = some (.slice sa12 q12.1.length sc12) := HTE.out.c.cell 14
  have e15 : wE.cell? ⟨b3, 15, none⟩ = some (.slice sa13 q13.1.length sc13) := HTE.out.c.cell 15
  obtain ⟨qm, hqm⟩ : ∃ q, PE.may ⟨q0.1, q1.1, q2.1, q3.1, q4.1, q5.1, q6.1.1, q6.1.2, q7.1.1, q7.1.2, q8.1, q9.1, q10.1, q11.1, q12.1, q13.1⟩ = q := ⟨_, rfl⟩
  rw [hqm] at HM
  have HQM := Lib.hid hqm
  clear hqm
  go_wp2_with fail
  refine HM.out.mono ?_
  rintro en wP ⟨rfl, hsP⟩
  have HSW2 := Lib.hid (HSW.out.trans hsP)
  have HTP := Lib.hid (HTE.out.still hsP)
  clear hsP HM HSW HTE e0 e1 e2 e3 e4 e5 e6 e7 e8 e9 e10 e11 e12 e13 e14 e15 cs cs0
  generalize wP = wE at *
  have HSW := HSW2
  have HTE := HTP
  cases qm with
  | false =>
   have HNO := Lib.hid (show takeE b = none from by
    have := HTB2.out
    rw [if_neg (fun h => by have h2 := h.2.2; rw [HQM.out] at h2; cases h2)] at this
    exact this)
   as_aux_lemma =>
    obtain ⟨du, hu, hdu⟩ := under_en
    have HU := Lib.hid (And.intro hu hdu)
    clear hu hdu
    have HZC := Lib.hid HTE.out.z
    have F := Lib.hid (fun wf (ho : Only (fun b => b = w.heap.size) wE wf) => show TakePost w b (.returned (.tuple #[.agg zE.toArray, .int .i64 4])) wf from TakePost.no HNO.out (HSW.out.andThen ho fun i hi e => by have e' : i = w.heap.size := e; omega))
    go_wp2_with (refine wpList_storeAgg rfl 34 _ _ rfl w.heap.size #[.int .i64 0, .int .i64 0, .int .i64 0, .int .i64 0, .int .i64 0, .int .i64 0, .int .i64 0, .int .i64 0, .int .i64 0, .int .i64 0, .slice none 0 0, .slice none 0 0, .slice none 0 0, .slice none 0 0, .slice none 0 0, .slice none 0 0] rfl rfl HZC.out size_en rfl rfl ?_; intro wf hcf hof hzf; have FF := Lib.hid (F.out wf hof); have HCF := Lib.hid hcf; clear hcf hof hzf)
    have z0 : wf.cell? ⟨w.heap.size, 0, none⟩ = some (.int .i64 0) := HCF.out.cell 0
    have z1 : wf.cell? ⟨w.heap.size, 1, none⟩ = some (.int .i64 0) := HCF.out.cell 1
    have z2 : wf.cell? ⟨w.heap.size, 2, none⟩ = some (.int .i64 0) := HCF.out.cell 2
    have z3 : wf.cell? ⟨w.heap.size, 3, none⟩ = some (.int .i64 0) := HCF.out.cell 3
    have z4 : wf.cell? ⟨w.heap.size, 4, none⟩ = some (.int .i64 0) := HCF.out.cell 4
    have z5 : wf.cell? ⟨w.heap.size, 5, none⟩ = some (.int .i64 0) := HCF.out.cell 5
    have z6 : wf.cell? ⟨w.heap.size, 6, none⟩ = some (.int .i64 0) := HCF.out.cell 6
    have z7 : wf.cell? ⟨w.heap.size, 7, none⟩ = some (.int .i64 0) := HCF.out.cell 7
    have z8 : wf.cell? ⟨w.heap.size, 8, none⟩ = some (.int .i64 0) := HCF.out.cell 8
    have z9 : wf.cell? ⟨w.heap.size, 9, none⟩ = some (.int .i64 0) := HCF.out.cell 9
    have z10 : wf.cell? ⟨w.heap.size, 10, none⟩ = some (.slice none 0 0) := HCF.out.cell 10
    have z11 : wf.cell? ⟨w.heap.size, 11, none⟩ = some (.slice none 0 0) := HCF.out.cell 11
    have z12 : wf.cell? ⟨w.heap.size, 12, none⟩ = some (.slice none 0 0) := HCF.out.cell 12
    have z13 : wf.cell? ⟨w.heap.size, 13, none⟩ = some (.slice none 0 0) := HCF.out.cell 13
    have z14 : wf.cell? ⟨w.heap.size, 14, none⟩ = some (.slice none 0 0) := HCF.out.cell 14
    have z15 : wf.cell? ⟨w.heap.size, 15, none⟩ = some (.slice none 0 0) := HCF.out.cell 15
    exact bodyPost_ret (v := .tuple #[.agg #[.int .i64 0, .int .i64 0, .int .i64 0, .int .i64 0, .int .i64 0, .int .i64 0, .int .i64 0, .int .i64 0, .int .i64 0, .int .i64 0, .slice none 0 0, .slice none 0 0, .slice none 0 0, .slice none 0 0, .slice none 0 0, .slice none 0 0], .int .i64 4]) (by simp [results, Tryz.results40, go_sem, z0, z1, z2, z3, z4, z5, z6, z7, z8, z9, z10, z11, z12, z13, z14, z15]) rfl FF.out
  | true =>
   have HYES := Lib.hid (show takeE b = some ⟨q0.1, q1.1, q2.1, q3.1, q4.1, q5.1, q6.1.1, q6.1.2, q7.1.1, q7.1.2, q8.1, q9.1, q10.1, q11.1, q12.1, q13.1⟩ from by
    have := HTB2.out
    rw [if_pos ⟨(by simp), HL0.out, HQM.out⟩] at this
    exact this)
   as_aux_lemma =>
    have hlow : w.heap.size < b3 := by have := HTE.out.z2; have := HTE.out.z3; omega
    have hzW := HW.out.1.size
    have F := Lib.hid (fun wf (ho : Only (fun b => b = w.heap.size) wE wf) => show TakePost w b (.returned (.tuple #[.agg (eV ⟨q0.1, q1.1, q2.1, q3.1, q4.1, q5.1, q6.1.1, q6.1.2, q7.1.1, q7.1.2, q8.1, q9.1, q10.1, q11.1, q12.1, q13.1⟩ (.slice sa8 q8.1.length sc8) (.slice sa9 q9.1.length sc9) (.slice sa10 q10.1.length sc10) (.slice sa11 q11.1.length sc11) (.slice sa12 q12.1.length sc12) (.slice sa13 q13.1.length sc13)), .int .i64 0])) wf from TakePost.yes HYES.out (HSW.out.andThen ho fun i hi e => by have e' : i = w.heap.size := e; omega) (EIs.mono (HTE.out.el.only ho fun g hg e => by have := HTE.out.z2; have e' : g = w.heap.size := e; have := hg.1; omega) fun g hg => by have := hg.1; omega))
    unfold eV at F
    obtain ⟨du, hu, hdu⟩ := under_en
    have HU := Lib.hid (And.intro hu hdu)
    have HZC := Lib.hid HTE.out.z
    have HCE := Lib.hid (show cellsAt wE b3 (#[.int .i64 q0.1, .int .i64 q1.1, .int .i64 q2.1, .int .i64 q3.1, .int .i64 q4.1, .int .i64 q5.1, .int .i64 q6.1.1, .int .i64 q6.1.2, .int .i64 q7.1.1, .int .i64 q7.1.2, .slice sa8 q8.1.length sc8, .slice sa9 q9.1.length sc9, .slice sa10 q10.1.length sc10, .slice sa11 q11.1.length sc11, .slice sa12 q12.1.length sc12, .slice sa13 q13.1.length sc13] : Array Value).toList from HTE.out.c)
    clear hu hdu
    go_wp2_with (first
     | (refine wpList_loadAgg rfl 34 _ rfl b3 #[.int .i64 q0.1, .int .i64 q1.1, .int .i64 q2.1, .int .i64 q3.1, .int .i64 q4.1, .int .i64 q5.1, .int .i64 q6.1.1, .int .i64 q6.1.2, .int .i64 q7.1.1, .int .i64 q7.1.2, .slice sa8 q8.1.length sc8, .slice sa9 q9.1.length sc9, .slice sa10 q10.1.length sc10, .slice sa11 q11.1.length sc11, .slice sa12 q12.1.length sc12, .slice sa13 q13.1.length sc13] rfl HCE.out du HU.out.1 HU.out.2 size_en ?_)
     | (refine wpList_storeAgg rfl 34 _ _ rfl w.heap.size #[.int .i64 q0.1, .int .i64 q1.1, .int .i64 q2.1, .int .i64 q3.1, .int .i64 q4.1, .int .i64 q5.1, .int .i64 q6.1.1, .int .i64 q6.1.2, .int .i64 q7.1.1, .int .i64 q7.1.2, .slice sa8 q8.1.length sc8, .slice sa9 q9.1.length sc9, .slice sa10 q10.1.length sc10, .slice sa11 q11.1.length sc11, .slice sa12 q12.1.length sc12, .slice sa13 q13.1.length sc13] rfl rfl HZC.out size_en rfl rfl ?_; intro wf hcf hof hzf; have FF := Lib.hid (F.out wf hof); have HCF := Lib.hid hcf; clear hcf hof hzf))
    have z0 : wf.cell? ⟨w.heap.size, 0, none⟩ = some (.int .i64 q0.1) := HCF.out.cell 0
    have z1 : wf.cell? ⟨w.heap.size, 1, none⟩ = some (.int .i64 q1.1) := HCF.out.cell 1
    have z2 : wf.cell? ⟨w.heap.size, 2, none⟩ = some (.int .i64 q2.1) := HCF.out.cell 2
    have z3 : wf.cell? ⟨w.heap.size, 3, none⟩ = some (.int .i64 q3.1) := HCF.out.cell 3
    have z4 : wf.cell? ⟨w.heap.size, 4, none⟩ = some (.int .i64 q4.1) := HCF.out.cell 4
    have z5 : wf.cell? ⟨w.heap.size, 5, none⟩ = some (.int .i64 q5.1) := HCF.out.cell 5
    have z6 : wf.cell? ⟨w.heap.size, 6, none⟩ = some (.int .i64 q6.1.1) := HCF.out.cell 6
    have z7 : wf.cell? ⟨w.heap.size, 7, none⟩ = some (.int .i64 q6.1.2) := HCF.out.cell 7
    have z8 : wf.cell? ⟨w.heap.size, 8, none⟩ = some (.int .i64 q7.1.1) := HCF.out.cell 8
    have z9 : wf.cell? ⟨w.heap.size, 9, none⟩ = some (.int .i64 q7.1.2) := HCF.out.cell 9
    have z10 : wf.cell? ⟨w.heap.size, 10, none⟩ = some (.slice sa8 q8.1.length sc8) := HCF.out.cell 10
    have z11 : wf.cell? ⟨w.heap.size, 11, none⟩ = some (.slice sa9 q9.1.length sc9) := HCF.out.cell 11
    have z12 : wf.cell? ⟨w.heap.size, 12, none⟩ = some (.slice sa10 q10.1.length sc10) := HCF.out.cell 12
    have z13 : wf.cell? ⟨w.heap.size, 13, none⟩ = some (.slice sa11 q11.1.length sc11) := HCF.out.cell 13
    have z14 : wf.cell? ⟨w.heap.size, 14, none⟩ = some (.slice sa12 q12.1.length sc12) := HCF.out.cell 14
    have z15 : wf.cell? ⟨w.heap.size, 15, none⟩ = some (.slice sa13 q13.1.length sc13) := HCF.out.cell 15
    exact bodyPost_ret (v := .tuple #[.agg #[.int .i64 q0.1, .int .i64 q1.1, .int .i64 q2.1, .int .i64 q3.1, .int .i64 q4.1, .int .i64 q5.1, .int .i64 q6.1.1, .int .i64 q6.1.2, .int .i64 q7.1.1, .int .i64 q7.1.2, .slice sa8 q8.1.length sc8, .slice sa9 q9.1.length sc9, .slice sa10 q10.1.length sc10, .slice sa11 q11.1.length sc11, .slice sa12 q12.1.length sc12, .slice sa13 q13.1.length sc13], .int .i64 0]) (by simp [results, Tryz.results40, go_sem, z0, z1, z2, z3, z4, z5, z6, z7, z8, z9, z10, z11, z12, z13, z14, z15]) rfl FF.out
theorem rtakeE_any (w : World) (Q : Nat → Prop) (bv : Value) (n : Nat) (b : List Int) (hb : Sl w Q 1 bv n (bc b)) (hc : Cap n bv) (hby : Byt b) (hl : b.length ≤ 100000) :
 Calls Tryz.prog 40 #[bv] w (TakePost w b) := rtake_walk w Q bv n b hb hc hby hl (by have := hb.1; rw [bc_length] at this; omega)
end Go.Proofs.YtojkggppcmdepaaGreat

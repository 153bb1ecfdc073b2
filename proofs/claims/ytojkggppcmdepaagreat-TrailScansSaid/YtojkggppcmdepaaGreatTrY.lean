/- The reader of bytes: lives, dirty pages, units. Conditions: it lies in memory, apart from its bytes. -/
import Derived.Test.YtojkggppcmdepaaGreatTrX
namespace Go.Proofs.YtojkggppcmdepaaGreat
open Go.RowKit Go.Wh Go.Maps

/-- The reader, and two blocks beside it: a result, and a struct that is filled. -/
structure BxSt (W : World) (X Q : Nat → Prop) (r : Nat) (b2 b3 : Nat) (s : RS) (zs cs : List Value) (w : World) : Prop where
  rd : RAt W X Q r s w
  z : cellsAt w b2 zs
  c : cellsAt w b3 cs
  z2 : W.heap.size ≤ b2
  z3 : W.heap.size ≤ b3
  ne : b2 ≠ b3
  n2 : b2 ≠ r
  n3 : b3 ≠ r
section
variable {W w w' : World} {X Q : Nat → Prop} {r b2 b3 : Nat} {s s' : RS} {zs cs : List Value}
theorem BxSt.call (h : BxSt W X Q r b2 b3 s zs cs w) (k : RAt w (fun b => b = r) Q r s' w') : BxSt W X Q r b2 b3 s' zs cs w' :=
  ⟨h.rd.back k, h.z.only k.only h.n2, h.c.only k.only h.n3, h.z2, h.z3, h.ne, h.n2, h.n3⟩
theorem BxSt.store (h : BxSt W X Q r b2 b3 s zs cs w) (i : Nat) (u : Value) : BxSt W X Q r b2 b3 s zs (cs.set i u) (w.setCell ⟨b3, i, none⟩ u) :=
  ⟨h.rd.setNew h.z3 u, h.z.setOther h.ne u, h.c.setCell i u, h.z2, h.z3, h.ne, h.n2, h.n3⟩
theorem RAt.ne (h : RAt W X Q r s w) {b : Nat} (hb : w.heap.size ≤ b) : b ≠ r := by
  obtain ⟨bv, hc, -⟩ := h.b
  have := hc.lt
  omega
/-- The first read, and the struct that is made of it. -/
theorem BxSt.start (h : RAt W X Q r s w) (zs cs : List Value) (t1 t2 : TypeId) (k : RAt (w.alloc (.cells zs.toArray t1)) (fun b => b = r) Q r s' w') : BxSt W X Q r w.heap.size w'.heap.size s' zs cs (w'.alloc (.cells cs.toArray t2)) := by
  have hst : Still w (w.alloc (.cells zs.toArray t1)) := (Still.refl w).alloc _
  have hs2 : Still w' (w'.alloc (.cells cs.toArray t2)) := (Still.refl w').alloc _
  have hz := k.only.size
  have hz0 : (w.alloc (.cells zs.toArray t1)).heap.size = w.heap.size + 1 := by simp
  have hn := h.ne (Nat.le_refl _)
  have hsz := h.only.size
  have hk := (h.still hst).back k
  exact ⟨hk.still hs2, ((cellsAt_new w zs t1).only k.only hn).alloc _, cellsAt_new w' cs t2, hsz, by omega, by omega, hn, hk.ne (Nat.le_refl _)⟩
end

def lvV (x : PLv) : Value := .agg #[.int .i64 x.txn, .int .i64 x.last, .int .i64 x.next, .bool x.commit]
theorem lvS_len {s : RS} {k : Nat} (h : s.1.length ≤ k) : (lvS s).2.1.length ≤ k := numS_len (numS_len (numS_len (numS_len (h))))
set_option maxHeartbeats 2000000 in
set_option maxRecDepth 100000 in
theorem rlv_any {W w : World} {X Q : Nat → Prop} {r : Nat} {s : RS} (h : RAt W X Q r s w) (hl : s.1.length ≤ 100000) :
    Calls Tryz.prog 113 #[.pointer (some ⟨r, 0, none⟩)] w (StrPost W X Q r (lvV (lvS s).1) (lvS s).2) := by
  have hst : Still w (w.alloc (.cells #[.int .i64 0, .int .i64 0, .int .i64 0, .bool false] 108)) := (Still.refl w).alloc _
  have HN := Lib.hid (rnum_any 1 rfl (h.still hst).base (by omega) hl)
  have HS := Lib.hid (fun q w' (k : RAt (w.alloc (.cells #[.int .i64 0, .int .i64 0, .int .i64 0, .bool false] 108)) (fun b => b = r) Q r q w') u => BxSt.start h [.int .i64 0, .int .i64 0, .int .i64 0, .bool false] (u :: [.int .i64 0, .int .i64 0, .bool false]) 108 108 k)
  unfold lvS lvV
  dsimp only
  generalize hq0 : numS 1 s = q0 at *
  have hl0 : q0.2.1.length ≤ 100000 := by rw [← hq0]; exact numS_len hl
  generalize hq1 : numS 3 q0.2 = q1 at *
  have hl1 : q1.2.1.length ≤ 100000 := by rw [← hq1]; exact numS_len hl0
  generalize hq2 : numS 3 q1.2 = q2 at *
  have hl2 : q2.2.1.length ≤ 100000 := by rw [← hq2]; exact numS_len hl1
  generalize hq3 : numS 1 q2.2 = q3 at *
  have hl3 : q3.2.1.length ≤ 100000 := by rw [← hq3]; exact numS_len hl2
  have HM1 := Lib.hid (fun (W2 : World) (X2 : Nat → Prop) w2 (k : RAt W2 X2 Q r q0.2 w2) => rnum_any 3 rfl k (by omega) hl0)
  rw [hq1] at HM1
  have HM2 := Lib.hid (fun (W2 : World) (X2 : Nat → Prop) w2 (k : RAt W2 X2 Q r q1.2 w2) => rnum_any 3 rfl k (by omega) hl1)
  rw [hq2] at HM2
  have HM3 := Lib.hid (fun (W2 : World) (X2 : Nat → Prop) w2 (k : RAt W2 X2 Q r q2.2 w2) => rnum_any 1 rfl k (by omega) hl2)
  rw [hq3] at HM3
  clear h hl hst hl0 hq0 hl1 hq1 hl2 hq2 hl3 hq3
  go_enter Tryz.func113, Tryz.ntmps113
  go_wp2_with fail
  refine HN.out.mono ?_
  rintro e w2 ⟨rfl, k2⟩
  have HB0 := Lib.hid (HS.out _ _ k2 (.int .i64 q0.1))
  clear k2 HN HS
  go_wp2_with fail
  refine (HM1.out _ _ _ HB0.out.rd.base).mono ?_
  rintro e w3 ⟨rfl, k1⟩
  have hb1 := HB0.out.call k1
  have e1 := hb1.c.cell 1
  have f1 := hb1.c.free 1
  have HB1 := Lib.hid (hb1.store 1 (.int .i64 q1.1))
  clear hb1 k1
  go_wp2_with fail
  refine (HM2.out _ _ _ HB1.out.rd.base).mono ?_
  rintro e w4 ⟨rfl, k2⟩
  have hb2 := HB1.out.call k2
  have e2 := hb2.c.cell 2
  have f2 := hb2.c.free 2
  have HB2 := Lib.hid (hb2.store 2 (.int .i64 q2.1))
  clear hb2 k2
  go_wp2_with fail
  refine (HM3.out _ _ _ HB2.out.rd.base).mono ?_
  rintro e w5 ⟨rfl, k3⟩
  have hb3 := HB2.out.call k3
  have e3 := hb3.c.cell 3
  have f3 := hb3.c.free 3
  have HB3 := Lib.hid (hb3.store 3 (.bool (q3.1 == 1)))
  have c0 := hb3.c.cell 0
  have z0 := hb3.z.cell 0
  have y0 := hb3.z.free 0
  have c1 := hb3.c.cell 1
  have z1 := hb3.z.cell 1
  have y1 := hb3.z.free 1
  have c2 := hb3.c.cell 2
  have z2 := hb3.z.cell 2
  have y2 := hb3.z.free 2
  have c3 := hb3.c.cell 3
  have z3 := hb3.z.cell 3
  have y3 := hb3.z.free 3
  have hne : w.heap.size ≠ w2.heap.size := hb3.ne
  clear hb3 k3
  have F := Lib.hid (show StrPost W X Q r (.agg #[.int .i64 q0.1, .int .i64 q1.1, .int .i64 q2.1, .bool (q3.1 == 1)]) q3.2 (.returned (.agg #[.int .i64 q0.1, .int .i64 q1.1, .int .i64 q2.1, .bool (q3.1 == 1)])) (((((w5.setCell ⟨w2.heap.size, 3, none⟩ (.bool (q3.1 == 1))).setCell ⟨w.heap.size, 0, none⟩ (.int .i64 q0.1)).setCell ⟨w.heap.size, 1, none⟩ (.int .i64 q1.1)).setCell ⟨w.heap.size, 2, none⟩ (.int .i64 q2.1)).setCell ⟨w.heap.size, 3, none⟩ (.bool (q3.1 == 1))) from ⟨rfl, ((((HB3.out.rd.setNew HB3.out.z2 _).setNew HB3.out.z2 _).setNew HB3.out.z2 _).setNew HB3.out.z2 _)⟩)
  go_wp2_with fail
  exact bodyPost_ret (v := .agg #[.int .i64 q0.1, .int .i64 q1.1, .int .i64 q2.1, .bool (q3.1 == 1)]) (by simp [results, Tryz.results113, go_sem, z0, z1, z2, z3]) rfl F.out

def dtV (x : PDt) : Value := .agg #[.int .i64 x.page, .int .i64 x.rc]
theorem dtS_len {s : RS} {k : Nat} (h : s.1.length ≤ k) : (dtS s).2.1.length ≤ k := numS_len (numS_len (h))
set_option maxHeartbeats 2000000 in
set_option maxRecDepth 100000 in
theorem rdt_any {W w : World} {X Q : Nat → Prop} {r : Nat} {s : RS} (h : RAt W X Q r s w) (hl : s.1.length ≤ 100000) :
    Calls Tryz.prog 115 #[.pointer (some ⟨r, 0, none⟩)] w (StrPost W X Q r (dtV (dtS s).1) (dtS s).2) := by
  have hst : Still w (w.alloc (.cells #[.int .i64 0, .int .i64 0] 110)) := (Still.refl w).alloc _
  have HN := Lib.hid (rnum_any 1 rfl (h.still hst).base (by omega) hl)
  have HS := Lib.hid (fun q w' (k : RAt (w.alloc (.cells #[.int .i64 0, .int .i64 0] 110)) (fun b => b = r) Q r q w') u => BxSt.start h [.int .i64 0, .int .i64 0] (u :: [.int .i64 0]) 110 110 k)
  unfold dtS dtV
  dsimp only
  generalize hq0 : numS 1 s = q0 at *
  have hl0 : q0.2.1.length ≤ 100000 := by rw [← hq0]; exact numS_len hl
  generalize hq1 : numS 3 q0.2 = q1 at *
  have hl1 : q1.2.1.length ≤ 100000 := by rw [← hq1]; exact numS_len hl0
  have HM1 := Lib.hid (fun (W2 : World) (X2 : Nat → Prop) w2 (k : RAt W2 X2 Q r q0.2 w2) => rnum_any 3 rfl k (by omega) hl0)
  rw [hq1] at HM1
  clear h hl hst hl0 hq0 hl1 hq1
  go_enter Tryz.func115, Tryz.ntmps115
  go_wp2_with fail
  refine HN.out.mono ?_
  rintro e w2 ⟨rfl, k2⟩
  have HB0 := Lib.hid (HS.out _ _ k2 (.int .i64 q0.1))
  clear k2 HN HS
  go_wp2_with fail
  refine (HM1.out _ _ _ HB0.out.rd.base).mono ?_
  rintro e w3 ⟨rfl, k1⟩
  have hb1 := HB0.out.call k1
  have e1 := hb1.c.cell 1
  have f1 := hb1.c.free 1
  have HB1 := Lib.hid (hb1.store 1 (.int .i64 q1.1))
  have c0 := hb1.c.cell 0
  have z0 := hb1.z.cell 0
  have y0 := hb1.z.free 0
  have c1 := hb1.c.cell 1
  have z1 := hb1.z.cell 1
  have y1 := hb1.z.free 1
  have hne : w.heap.size ≠ w2.heap.size := hb1.ne
  clear hb1 k1
  have F := Lib.hid (show StrPost W X Q r (.agg #[.int .i64 q0.1, .int .i64 q1.1]) q1.2 (.returned (.agg #[.int .i64 q0.1, .int .i64 q1.1])) (((w3.setCell ⟨w2.heap.size, 1, none⟩ (.int .i64 q1.1)).setCell ⟨w.heap.size, 0, none⟩ (.int .i64 q0.1)).setCell ⟨w.heap.size, 1, none⟩ (.int .i64 q1.1)) from ⟨rfl, ((HB1.out.rd.setNew HB1.out.z2 _).setNew HB1.out.z2 _)⟩)
  go_wp2_with fail
  exact bodyPost_ret (v := .agg #[.int .i64 q0.1, .int .i64 q1.1]) (by simp [results, Tryz.results115, go_sem, z0, z1]) rfl F.out
end Go.Proofs.YtojkggppcmdepaaGreat

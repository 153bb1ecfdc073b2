/- The reader of bytes: images, moves. Conditions: it lies in memory, apart from its bytes. -/
import Derived.Test.YtojkggppcmdepaaGreatTrV
namespace Go.Proofs.YtojkggppcmdepaaGreat
open Go.RowKit Go.Wh Go.Maps

/-- What is read into new memory. -/
def NwPost (W : World) (X Q : Nat → Prop) (r : Nat) (P : Value → World → Prop) (s : RS) (e : Ending) (w' : World) : Prop := ∃ v, e = .returned v ∧ P v w' ∧ RAt W X Q r s w'
theorem numS_range {n : Nat} {s : RS} (h : Byt s.1) : 0 ≤ (numS n s).1 ∧ (numS n s).1 < 256 ^ n := by
  unfold numS tkS
  split
  · have := decB_range (List.replicate n 0) (Byt.zeros n)
    rwa [List.length_replicate] at this
  · rename_i hn
    have := decB_range (s.1.take n) (h.take n)
    rwa [List.length_take, Nat.min_eq_left (by omega)] at this
theorem tkS_len {n : Nat} {s : RS} {k : Nat} (h : s.1.length ≤ k) : (tkS n s).2.1.length ≤ k := by
  unfold tkS
  split
  · exact Nat.zero_le _
  · simp only [List.length_drop]
    omega
theorem tkS_length {n : Nat} {s : RS} : (tkS n s).1.length = n := by
  unfold tkS
  split
  · simp
  · simp only [List.length_take]
    omega
theorem tkS_byt {n : Nat} {s : RS} (h : Byt s.1) : Byt (tkS n s).1 := by
  unfold tkS
  split
  · exact Byt.zeros n
  · exact h.take n
theorem rimage_any {W w : World} {X Q : Nat → Prop} {r : Nat} {s : RS} (h : RAt W X Q r s w) (hl : s.1.length ≤ 100000) :
    Calls Tryz.prog 109 #[.pointer (some ⟨r, 0, none⟩)] w (NwPost W X Q r (fun v w' => Sl w' (fun g => w.heap.size ≤ g) 1 v (imS s).1.length (bc (imS s).1)) (imS s).2) := by
  have HN := Lib.hid (rnum_any 1 rfl h.base (by omega) hl)
  have hr := numS_range (n := 1) h.byt
  have p1 : (256 : Int) ^ 1 = 256 := rfl
  rw [p1] at hr
  have hl1 : (numS 1 s).2.1.length ≤ 100000 := numS_len hl
  have H := Lib.hid h
  unfold imS
  rw [tkS_length]
  generalize numS 1 s = q1 at *
  obtain ⟨n, hn⟩ : ∃ n : Nat, q1.1 = n := ⟨q1.1.toNat, by omega⟩
  have hnn : n ≤ 255 := by omega
  rw [hn, Int.toNat_natCast]
  obtain ⟨z, q⟩ := q1
  dsimp only at *
  subst hn
  have HT := Lib.hid (fun w2 (k : RAt w (fun b => b = r) Q r q w2) => take_any _ _ _ _ r n q k hnn hl1)
  have HC := Lib.hid (show n ≤ 10000 by omega)
  clear h hl hr p1 hl1 hnn
  go_enter Tryz.func109, Tryz.ntmps109
  go_wp2_with fail
  refine HN.out.mono ?_
  rintro e w2 ⟨rfl, k2⟩
  have HT2 := Lib.hid (HT.out _ k2)
  clear k2 HT HN
  go_wp2_with fail
  refine HT2.out.mono ?_
  rintro e w3 ⟨v, rfl, hv, k3⟩
  have HCL := Lib.hid (clone_b v n (bc (tkS n q).1) w3 hv.reads (bc_one _) HC.out)
  have H3 := Lib.hid (H.out.back k3)
  have hz := k3.only.size
  have HZ := Lib.hid hz
  clear HT2 hv k3 hz
  go_wp2_with fail
  refine HCL.out.mono ?_
  rintro e w4 ⟨v4, rfl, hv4, hb4, hg4⟩
  have F := Lib.hid (show NwPost W X Q r (fun v w' => Sl w' (fun g => w.heap.size ≤ g) 1 v n (bc (tkS n q).1)) (tkS n q).2 (.returned v4) w4 from ⟨_, rfl, Vec.sl hv4 fun g hg => ⟨by have := hg4 g hg; have := HZ.out; omega, (hg4 g hg).2⟩, H3.out.still (Only.ofBelow hb4)⟩)
  clear hv4 hb4 hg4 HCL
  go_wp2_with fail
  go_ret
  exact F.out
def mvV (m : PMv) : Value := .agg #[.int .i64 m.fp, .int .i64 m.fc, .int .i64 m.tp, .int .i64 m.tc]
theorem mvS_spS (s : RS) : mvS s = (⟨(spS s).1.1, (spS s).1.2, (spS (spS s).2).1.1, (spS (spS s).2).1.2⟩, (spS (spS s).2).2) := rfl
theorem spS_len {s : RS} {k : Nat} (h : s.1.length ≤ k) : (spS s).2.1.length ≤ k := numS_len (numS_len h)
set_option maxHeartbeats 1000000 in
theorem rmove_any {W w : World} {X Q : Nat → Prop} {r : Nat} {s : RS} (h : RAt W X Q r s w) (hl : s.1.length ≤ 100000) :
    Calls Tryz.prog 111 #[.pointer (some ⟨r, 0, none⟩)] w (StrPost W X Q r (mvV (mvS s).1) (mvS s).2) := by
  have hst : Still w (w.alloc (.cells #[.int .i64 0, .int .i64 0, .int .i64 0, .int .i64 0] 119)) := (Still.refl w).alloc _
  have h1 := h.still hst
  have HN := Lib.hid (rspot_any h1.base hl)
  have hbx := cellsAt_new w [.int .i64 0, .int .i64 0, .int .i64 0, .int .i64 0] 119
  have hbr : w.heap.size ≠ r := by
    obtain ⟨bv, hc, -⟩ := h.b
    have := hc.lt
    omega
  have HZ := Lib.hid (show W.heap.size ≤ w.heap.size ∧ w.heap.size ≠ r ∧ w.heap.size < (w.alloc (.cells #[.int .i64 0, .int .i64 0, .int .i64 0, .int .i64 0] 119)).heap.size from ⟨h.only.size, hbr, by simp⟩)
  rw [mvS_spS]
  unfold mvV
  have hl1 : (spS s).2.1.length ≤ 100000 := spS_len hl
  generalize spS s = q1 at *
  have HM := Lib.hid (fun (W2 : World) (X2 : Nat → Prop) w2 (k : RAt W2 X2 Q r q1.2 w2) => rspot_any k hl1)
  generalize spS q1.2 = q2 at *
  have HB := Lib.hid (fun s' w' (k : RAt (w.alloc (.cells #[.int .i64 0, .int .i64 0, .int .i64 0, .int .i64 0] 119)) (fun b => b = r) Q r s' w') => show RAt W X Q r s' w' ∧ cellsAt w' w.heap.size [.int .i64 0, .int .i64 0, .int .i64 0, .int .i64 0] from ⟨h1.back k, hbx.only k.only hbr⟩)
  clear h hl hl1 h1 hst hbx hbr
  obtain ⟨⟨p1, c1⟩, s1⟩ := q1
  obtain ⟨⟨p2, c2⟩, s2⟩ := q2
  dsimp only at *
  go_enter Tryz.func111, Tryz.ntmps111
  go_wp2_with fail
  refine HN.out.mono ?_
  rintro e w2 ⟨rfl, k2⟩
  have hz2 := k2.only.size
  obtain ⟨h2, hb2⟩ := HB.out _ _ k2
  have hst2 : Still w2 (w2.alloc (.cells #[.int .i64 p1, .int .i64 c1] 28)) := (Still.refl w2).alloc _
  have hb3 := cellsAt_new w2 [.int .i64 p1, .int .i64 c1] 28
  have k3 := k2.still hst2
  have h3 := h2.still hst2
  have hb2' := hb2.only hst2 fun e => e
  have HH := Lib.hid (And.intro h3 (And.intro k3 (And.intro hb2' hb3)))
  have HZ2 := Lib.hid (show w.heap.size < w2.heap.size ∧ r < w2.heap.size from ⟨hb2.lt, Nat.lt_of_lt_of_le k2.rl hz2⟩)
  clear HN hz2 h2 hb2 hst2 HB k2 hb3 k3 h3 hb2'
  go_wp2_with fail
  generalize hw3 : w2.alloc (.cells #[.int .i64 p1, .int .i64 c1] 28) = w3 at *
  clear hw3
  obtain ⟨b3, hb3⟩ : ∃ b, w2.heap.size = b := ⟨_, rfl⟩
  rw [hb3] at HH HZ2
  rw [hb3]
  obtain ⟨b2, hb2⟩ : ∃ b, w.heap.size = b := ⟨_, rfl⟩
  rw [hb2] at HH HZ2 HZ
  rw [hb2]
  clear hb2 hb3
  have HC := Lib.hid (fun w' (hs : Still w3 w') => show w'.cell? ⟨b3, 0, none⟩ = some (.int .i64 p1) ∧ w'.cell? ⟨b3, 1, none⟩ = some (.int .i64 c1) from ⟨Still.cell hs (HH.out.2.2.2.cell 0), Still.cell hs (HH.out.2.2.2.cell 1)⟩)
  have HCALL := Lib.hid (fun w' (hs : Still w3 w') => show Calls Tryz.prog 108 #[.pointer (some ⟨r, 0, none⟩)] w' (fun e w4 => e = .returned (.agg #[.int .i64 p2, .int .i64 c2]) ∧ RAt W X Q r s2 w4 ∧ cellsAt w4 b2 [.int .i64 0, .int .i64 0, .int .i64 0, .int .i64 0] ∧ cellsAt w4 b3 [.int .i64 p1, .int .i64 c1]) from by
    have h3 := HH.out.1.still hs
    refine (HM.out _ _ w' h3.base).mono ?_
    rintro e w4 ⟨rfl, k4⟩
    exact ⟨rfl, h3.back k4, (HH.out.2.2.1.only hs fun e => e).only k4.only HZ.out.2.1, (HH.out.2.2.2.only hs fun e => e).only k4.only fun e => by have := HZ2.out; omega⟩)
  have HS := Lib.hid (Still.refl w3)
  clear HM
  refine wp_region_D_drew (D := (fun i => [4].contains i)) (S := (fun w' => w'.cell? ⟨b3, 0, none⟩ = some (.int .i64 p1) ∧ w'.cell? ⟨b3, 1, none⟩ = some (.int .i64 c1))) (by kernel_rfl) ?_ (fun hHeld => ?_)
  · exact HC.out _ HS.out.drew
  (refine takeS (i := 0) (some 6) (v := ?_) rfl (by rfl) (by rfl) (by kernel_rfl) (by rfl) (fun _ _ _ h => h) (by assumption) ?_ ?_; rotate_left; (intro w hSw; (try dsimp only at hSw); obtain ⟨hSw0, hSw1⟩ := hSw; go_simp; try with_reducible rfl); try go_frame)
  (refine takeS (i := 1) (some 7) (v := ?_) rfl (by rfl) (by rfl) (by kernel_rfl) (by rfl) (fun _ _ _ h => h) (by assumption) ?_ ?_; rotate_left; (intro w hSw; (try dsimp only at hSw); obtain ⟨hSw0, hSw1⟩ := hSw; go_simp; try with_reducible rfl); try go_frame)
  refine wpAnyD_ready (rs := [2]) (by kernel_rfl) (by simp) ?_
  refine ReadyD.cons rfl (fun K hK => ?_) ?_
  go_simp
  refine (HCALL.out _ HS.out.drew).mono ?_
  rintro e w4 ⟨rfl, k4, hb2, hb3⟩
  go_wp2_with fail
  (refine hK.out _ _ ?_ (fun hNew => ?_); (focus (exact ⟨hb3.cell 0, hb3.cell 1⟩)); clear hHeld; have hHeld := hNew; clear hNew)
  (clear hK K; try go_frame)
  (refine takeS (i := 3) (some 9) (v := ?_) rfl (by rfl) (by rfl) (by kernel_rfl) (by rfl) (fun _ _ _ h => h) (by assumption) ?_ ?_; rotate_left; (intro w hSw; (try dsimp only at hSw); obtain ⟨hSw0, hSw1⟩ := hSw; go_simp; try with_reducible rfl); try go_frame)
  have g0 := hb2.cell 0
  have g1 := hb2.cell 1
  have g2 := hb2.cell 2
  have g3 := hb2.cell 3
  have f0 := hb2.free 0
  have f1 := hb2.free 1
  have f2 := hb2.free 2
  have f3 := hb2.free 3
  have F := Lib.hid (show StrPost W X Q r (.agg #[.int .i64 p1, .int .i64 c1, .int .i64 p2, .int .i64 c2]) s2 (.returned (.agg #[.int .i64 p1, .int .i64 c1, .int .i64 p2, .int .i64 c2])) ((((w4.setCell ⟨b2, 0, none⟩ (.int .i64 p1)).setCell ⟨b2, 1, none⟩ (.int .i64 c1)).setCell ⟨b2, 2, none⟩ (.int .i64 p2)).setCell ⟨b2, 3, none⟩ (.int .i64 c2)) from ⟨rfl, (((k4.setNew HZ.out.1 _).setNew HZ.out.1 _).setNew HZ.out.1 _).setNew HZ.out.1 _⟩)
  clear hb2 hb3 k4 HCALL HC
  refine wpAnyD_ready (rs := [4]) (by kernel_rfl) (by simp) ?_
  refine ReadyD.last rfl (by rfl) (fun K hK => ?_) ?_
  go_simp
  refine hK.out _ _ ?_
  (clear hK K; try go_frame)
  refine wpAnyD_done (by kernel_rfl) ?_ _
  rotate_left
  exact ReadyD.nil
  exact ReadyD.nil
  go_wp2_with fail
  exact bodyPost_ret (v := .agg #[.int .i64 p1, .int .i64 c1, .int .i64 p2, .int .i64 c2]) (by simp [results, Tryz.results111, go_sem, g0, g1, g2, g3]) rfl F.out
end Go.Proofs.YtojkggppcmdepaaGreat

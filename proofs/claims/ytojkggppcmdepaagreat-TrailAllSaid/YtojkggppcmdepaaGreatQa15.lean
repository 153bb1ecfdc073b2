/- The document's numbers and sums: what fits, a number as bytes, the two sums of bytes. Conditions: they lie in memory; a number of 1 to 3 bytes that is not negative. The document's writer of bytes: a number, a place, a cell, moves. Conditions: all lies in memory, apart from the writer; what is written may be. The document's writer of bytes: a place, a cell, moves. Conditions: all lies in memory, apart from the writer; what is written may be. The document's writer of bytes: moves; the two sums of bytes. Conditions: all lies in memory, apart from the writer; what is written may be. The document's 'may': moves. Conditions: they lie in memory. The document's 'may' of an entry. Conditions: it lies in memory. -/
import Derived.Test.YtojkggppcmdepaaGreatQa14
namespace Go.Proofs.YtojkggppcmdepaaGreat
open Go.RowKit Go.Wh Go.Maps

set_option maxRecDepth 10000 in
theorem rfits1 (w : World) (v : Int) : Calls Tryz.prog 92 #[.int .i64 v, .int .i64 1] w (SamePost w (.bool (fit1 1 v))) := by
 have e : fit1 1 v = (decide (0 ≤ v) && decide (v < 256)) := rfl
 rw [e]
 obtain ⟨q1, h1⟩ : ∃ q, decide (0 ≤ v) = q := ⟨_, rfl⟩
 obtain ⟨q2, h2⟩ : ∃ q, decide (v < 256) = q := ⟨_, rfl⟩
 rw [h1, h2]
 cases q1
 all_goals
  go_enter Tryz.func92, Tryz.ntmps92
  go_wp2_with fail
  go_ret
  exact ⟨by simp, rfl⟩
set_option maxRecDepth 10000 in
theorem rfits2 (w : World) (v : Int) : Calls Tryz.prog 92 #[.int .i64 v, .int .i64 2] w (SamePost w (.bool (fit1 2 v))) := by
 have e : fit1 2 v = (decide (0 ≤ v) && decide (v < 65536)) := rfl
 rw [e]
 obtain ⟨q1, h1⟩ : ∃ q, decide (0 ≤ v) = q := ⟨_, rfl⟩
 obtain ⟨q2, h2⟩ : ∃ q, decide (v < 65536) = q := ⟨_, rfl⟩
 rw [h1, h2]
 cases q1
 all_goals
  go_enter Tryz.func92, Tryz.ntmps92
  go_wp2_with fail
  go_ret
  exact ⟨by simp, rfl⟩
set_option maxRecDepth 10000 in
theorem rfits3 (w : World) (v : Int) : Calls Tryz.prog 92 #[.int .i64 v, .int .i64 3] w (SamePost w (.bool (fit1 3 v))) := by
 have e : fit1 3 v = (decide (0 ≤ v) && decide (v < 16777216)) := rfl
 rw [e]
 obtain ⟨q1, h1⟩ : ∃ q, decide (0 ≤ v) = q := ⟨_, rfl⟩
 obtain ⟨q2, h2⟩ : ∃ q, decide (v < 16777216) = q := ⟨_, rfl⟩
 rw [h1, h2]
 cases q1
 all_goals
  go_enter Tryz.func92, Tryz.ntmps92
  go_wp2_with fail
  go_ret
  exact ⟨by simp, rfl⟩
set_option maxRecDepth 10000 in
theorem rfitsRID (w : World) (p c : Int) : Calls Tryz.prog 93 #[.agg #[.int .i64 p, .int .i64 c]] w (StPost w (.bool (fitsB 1 [p, c]))) := by
 have e : fitsB 1 [p, c] = (fit1 1 p && (fit1 1 c && true)) := rfl
 rw [e]
 have hb := cellsAt_new w [.int .i64 p, .int .i64 c] 28
 have hst : Still w (w.alloc (.cells #[.int .i64 p, .int .i64 c] 28)) := (Still.refl w).alloc _
 have H1 := Lib.hid (rfits1 (w.alloc (.cells #[.int .i64 p, .int .i64 c] 28)) p)
 have H2 := Lib.hid (rfits1 (w.alloc (.cells #[.int .i64 p, .int .i64 c] 28)) c)
 have c0 : (w.alloc (.cells #[.int .i64 p, .int .i64 c] 28)).cell? ⟨w.heap.size, 0, none⟩ = some (.int .i64 p) := hb.cell 0
 have c1 : (w.alloc (.cells #[.int .i64 p, .int .i64 c] 28)).cell? ⟨w.heap.size, 1, none⟩ = some (.int .i64 c) := hb.cell 1
 have F := Lib.hid hst
 generalize fit1 1 p = q1 at *
 generalize fit1 1 c = q2 at *
 clear hb hst e
 go_enter Tryz.func93, Tryz.ntmps93
 go_wp2_with fail
 refine H1.out.mono ?_
 rintro e w1 ⟨rfl, rfl⟩
 cases q1 with
 | false =>
  go_wp2_with fail
  go_ret
  exact ⟨rfl, F.out⟩
 | true =>
  go_wp2_with fail
  refine H2.out.mono ?_
  rintro e w2 ⟨rfl, rfl⟩
  go_wp2_with fail
  go_ret
  exact ⟨by simp, F.out⟩
theorem numB_next {n k : Nat} (v : Int) (hk : k < n) : ((List.replicate (k + 1) (0 : Int) ++ numB (n - (k + 1)) v).set k (v / 256 ^ (n - (k + 1)) % 256)) = List.replicate k 0 ++ numB (n - k) v := by
 have e : n - k = n - (k + 1) + 1 := by omega
 rw [e, List.replicate_succ', List.append_assoc, List.set_append_right _ _ (by rw [List.length_replicate]; omega), List.length_replicate, Nat.sub_self]
 rfl
theorem bc_set' (l : List Int) (i : Nat) (z : Int) : (bc l).set i (.int .u8 z) = bc (l.set i z) := by
 unfold bc
 rw [List.map_set]
def OwnRow (w : World) (l : List Int) (e : Ending) (w' : World) : Prop := ∃ b, e = .returned (.slice (some ⟨b, 0, none⟩) l.length l.length) ∧ cellsAt w' b (bc l) ∧ Still w w' ∧ w.heap.size ≤ b
set_option maxHeartbeats 1000000 in
set_option maxRecDepth 10000 in
theorem rnum (w : World) (v : Int) (n : Nat) (hn : n = 1 ∨ n = 2 ∨ n = 3) (hv : 0 ≤ v) (hv2 : v ≤ 1000000000) : Calls Tryz.prog 95 #[.int .i64 v, .int .i64 n] w (OwnRow w (numB n v)) := by
 have hmk : (Instr.makeSlice 23 (.int .i64 (n : Int)) (.int .i64 (n : Int))).run Tryz.prog w = .ok (.slice (some ⟨w.heap.size, 0, none⟩) n n) (w.alloc (.cells (bc (List.replicate n 0)).toArray 5)) := by
  rcases hn with rfl | rfl | rfl <;> kernel_rfl
 have hz := cellsAt_new w (bc (List.replicate n 0)) 5
 have hs : Still w (w.alloc (.cells (bc (List.replicate n 0)).toArray 5)) := (Still.refl w).alloc _
 have hn3 : 1 ≤ n ∧ n ≤ 3 := by omega
 have HB := Lib.hid (And.intro hz (And.intro hs (And.intro hn3 (And.intro hv hv2))))
 have u0 : IntKind.i64.wrap ((n : Int) - 1) = ((n - 1 : Nat) : Int) := by
  rw [show (n : Int) - 1 = ((n - 1 : Nat) : Int) by omega]
  exact IntWalk.i64_in _ (by omega)
 obtain ⟨n1, hn1⟩ : ∃ n1, n - 1 = n1 := ⟨_, rfl⟩
 rw [hn1] at u0
 have HN1 := Lib.hid hn1
 obtain ⟨Z, hZ⟩ : ∃ Z, Z = (bc (List.replicate n 0)).toArray := ⟨_, rfl⟩
 rw [← hZ] at hmk
 have HZ := Lib.hid hZ
 clear hn hv hv2 hz hs hn3 hn1 hZ
 go_enter Tryz.func95, Tryz.ntmps95
 go_wp2_with fail
 obtain ⟨b, hb⟩ : ∃ b, w.heap.size = b := ⟨_, rfl⟩
 have H0 := Lib.hid (show cellsAt (w.alloc (.cells Z 5)) b (bc (List.replicate n 0)) ∧ Still w (w.alloc (.cells Z 5)) from by
  rw [HZ.out, ← hb]
  exact ⟨HB.out.1, HB.out.2.1⟩)
 have HBB := Lib.hid hb
 rw [hb]
 generalize (w.alloc (.cells Z 5)) = w1 at *
 clear hmk hb
 go_loopw [0, 6] (fun s0 s6 wr => ∃ (k : Nat), ((k = 0 ∧ s6 = .int .i64 (-1)) ∨ ∃ j : Nat, k = j + 1 ∧ s6 = .int .i64 j) ∧ k ≤ n ∧ s0 = .int .i64 (v / 256 ^ (n - k)) ∧ cellsAt wr b (bc (List.replicate k 0 ++ numB (n - k) v)) ∧ Only (fun g => g = b) w1 wr) (fun _ s6 _ => (intOf s6 + 1).toNat)
 case atStart => exact ⟨n, .inr ⟨n1, by have := HN1.out; have := HB.out.2.2.1; omega, rfl⟩, Nat.le_refl _, by rw [Nat.sub_self]; simp, by rw [Nat.sub_self]; have : numB 0 v = [] := rfl; rw [this, List.append_nil]; exact H0.out.1, Only.refl _ _⟩
 case round =>
  obtain ⟨k, hk6, hkn, rfl, hc, ho⟩ := hrel
  rcases hk6 with ⟨rfl, rfl⟩ | ⟨j, rfl, rfl⟩
  · have F := Lib.hid (show OwnRow w (numB n v) (.returned (.slice (some ⟨b, 0, none⟩) n n)) wr from by
     have hl := numB_length n v
     rw [Nat.sub_zero, List.replicate_zero, List.nil_append] at hc
     have hbb := HBB.out
     exact ⟨b, by rw [hl], hc, H0.out.2.andThen ho fun i hi e => by omega, by omega⟩)
    clear hc ho hkn
    go_wp2_with fail
    go_ret
    exact F.out
  · obtain ⟨V, hV⟩ : ∃ V, v / 256 ^ (n - (j + 1)) = V := ⟨_, rfl⟩
    have hV0 : 0 ≤ V := by rw [← hV]; exact Int.ediv_nonneg HB.out.2.2.2.1 (Int.le_of_lt (Int.pow_pos (by decide)))
    have hV1 : V ≤ v := by rw [← hV]; exact Int.ediv_le_self _ HB.out.2.2.2.1
    have hv9 := HB.out.2.2.2.2
    rw [hV]
    have j0 : (0 : Int) ≤ (j : Int) := by omega
    have j1 : (j : Int) < (n : Int) := by omega
    have d1 : decide ((0 : Int) ≤ (j : Int)) = true := decide_eq_true j0
    have e1 : V % 256 % 256 = V % 256 := by omega
    have t2 : V.tdiv 256 = V / 256 := Int.tdiv_eq_ediv_of_nonneg hV0
    have e2 : IntKind.i64.wrap (V / 256) = V / 256 := IntWalk.i64_in _ (by omega)
    have e2' : wrap64 (V / 256) = V / 256 := IntWalk.wrap64_in _ (by omega)
    have hjl : j < (List.replicate (j + 1) (0 : Int) ++ numB (n - (j + 1)) v).length := by rw [List.length_append, List.length_replicate]; omega
    obtain ⟨y, hy⟩ : ∃ y, (List.replicate (j + 1) (0 : Int) ++ numB (n - (j + 1)) v)[j]? = some y := ⟨_, List.getElem?_eq_getElem hjl⟩
    have cj : wr.cell? ⟨b, j, none⟩ = some (.int .u8 y) := (hc.cell j).trans (bc_get hy)
    have fj : wr.frozen? ⟨b, j, none⟩ = false := hc.free j
    have HX := Lib.hid (show cellsAt (wr.setCell ⟨b, j, none⟩ (.int .u8 (V % 256))) b (bc (List.replicate j 0 ++ numB (n - j) v)) ∧ Only (fun g => g = b) w1 (wr.setCell ⟨b, j, none⟩ (.int .u8 (V % 256))) ∧ V / 256 = v / 256 ^ (n - j) ∧ j ≤ n from by
     refine ⟨?_, ho.setCell (p := ⟨b, j, none⟩) (.inl rfl) _, ?_, by omega⟩
     · have := hc.setCell j (.int .u8 (V % 256))
       rw [bc_set', ← hV, numB_next v (by omega)] at this
       rw [← hV]
       exact this
     · rw [← hV, show n - j = n - (j + 1) + 1 by omega, Int.pow_succ, Int.ediv_ediv_of_nonneg (Int.le_of_lt (Int.pow_pos (by decide)))])
    have u6 : IntKind.i64.wrap ((j : Int) - 1) = (j : Int) - 1 := IntWalk.i64_in _ (by have := HB.out.2.2.1; omega)
    clear hc ho hkn hjl hV hv9 hV1 hy
    go_wp2_with fail
    go_roundw
    case rel =>
     refine ⟨j, ?_, HX.out.2.2.2, by rw [← HX.out.2.2.1], HX.out.1, HX.out.2.1⟩
     rcases j with _ | j
     · exact .inl ⟨rfl, rfl⟩
     · refine .inr ⟨j, rfl, ?_⟩
       show Value.int .i64 (((j + 1 : Nat) : Int) - 1) = _
       rw [show ((j + 1 : Nat) : Int) - 1 = (j : Int) by omega]
    case measure => simp [intOf]
end Go.Proofs.YtojkggppcmdepaaGreat

namespace Go.Proofs.YtojkggppcmdepaaGreat
open Go.RowKit Go.Wh Go.Maps

set_option maxHeartbeats 2000000 in
set_option maxRecDepth 100000 in
theorem rwnum {W w : World} {X : Nat → Prop} {r : Nat} {S : List Int} {v : Value} (z : Int) (n : Nat) (hn : n = 1 ∨ n = 2 ∨ n = 3) {N : Int} (hN : (n : Int) = N) (h : WrAt W X r S v w) (hz : 0 ≤ z ∧ z ≤ 1000000000) (hS : S.length ≤ 100000) :
 Calls Tryz.prog 55 #[.pointer (some ⟨r, 0, none⟩), .int .i64 z, .int .i64 N] w (WPost W X r (S ++ numB n z)) := by
 subst hN
 have hnl := numB_length n z
 have HN := Lib.hid (fun w' => rnum w' z n hn hz.1 hz.2)
 have H := Lib.hid h
 have HNL := Lib.hid (And.intro hnl (And.intro hn hS))
 obtain ⟨i0, hi0, hz0, hz1, hz2⟩ := info_parts info_b
 have HI := Lib.hid (And.intro hi0 (And.intro hz0 (And.intro hz1 hz2)))
 have hvf := h.vec.form'
 obtain ⟨va, vc, rfl⟩ := hvf
 have c0 : w.cell? ⟨r, 0, none⟩ = some (.slice va S.length vc) := h.cells.cell 0
 obtain ⟨m, hm⟩ : ∃ m, S.length = m := ⟨_, rfl⟩
 have HM := Lib.hid hm
 have SS := Lib.hid (fun w' (hs : Still w w') => show w'.cell? ⟨r, 0, none⟩ = some (.slice va m vc) ∧ w'.frozen? ⟨r, 0, none⟩ = false from by
  rw [← hm]
  exact ⟨Still.cell hs (h.cells.cell 0), (h.cells.only hs fun e => e).free 0⟩)
 have HV := Lib.hid (fun w' (hs : Still w w') => show Vec w' 1 (.slice va m vc) m (bc S) from by
  have := h.vec.only hs fun _ _ e => e
  rw [hm] at this
  exact this)
 have HX := Lib.hid (fun w3 w7 (hs : Still w w3) (ho : Only (fun k => (Value.slice va m vc).ownBlock = some k) w3 w7) => show w7.cell? ⟨r, 0, none⟩ = some (.slice va m vc) ∧ w7.frozen? ⟨r, 0, none⟩ = false from by
  rw [← hm] at ho ⊢
  have hc := (h.cells.only hs fun e => e).only ho fun e => (h.own r e).2.1 rfl
  exact ⟨hc.cell 0, hc.free 0⟩)
 rw [hm] at c0
 clear h hz hn hS hnl hi0 hz0 hz1 hz2 hm
 go_enter Tryz.func55, Tryz.ntmps55
 go_wp2_with fail
 refine wp_region_D_drew (D := (fun i => [0, 1, 2, 3, 5, 6, 9, 10, 11].contains i)) (S := (fun w' => w'.cell? ⟨r, 0, none⟩ = some (.slice va m vc))) (by kernel_rfl) ?_ (fun hHeld => ?_)
 · exact (SS.out _ (still_drew _)).1
 (refine takeD (i := 0) (some 6) (v := ?_) rfl (by rfl) (by rfl) (by kernel_rfl) (by rfl) (fun _ _ _ h => h) ?_ ?_; rotate_left; (intro w; go_simp; try with_reducible rfl); try go_frame)
 (refine takeD (i := 1) (some 7) (v := ?_) rfl (by rfl) (by rfl) (by kernel_rfl) (by rfl) (fun _ _ _ h => h) ?_ ?_; rotate_left; (intro w; go_simp; try with_reducible rfl); try go_frame)
 (refine takeD (i := 2) (some 8) (v := ?_) rfl (by rfl) (by rfl) (by kernel_rfl) (by rfl) (fun _ _ _ h => h) ?_ ?_; rotate_left; (intro w; go_simp; try with_reducible rfl); try go_frame)
 (refine takeD (i := 3) (some 9) (v := ?_) rfl (by rfl) (by rfl) (by kernel_rfl) (by rfl) (fun _ _ _ h => h) ?_ ?_; rotate_left; (intro w; go_simp; try with_reducible rfl); try go_frame)
 (refine takeD (i := 5) (some 11) (v := ?_) rfl (by rfl) (by rfl) (by kernel_rfl) (by rfl) (fun _ _ _ h => h) ?_ ?_; rotate_left; (intro w; go_simp; try with_reducible rfl); try go_frame)
 (refine takeD (i := 6) (some 12) (v := ?_) rfl (by rfl) (by rfl) (by kernel_rfl) (by rfl) (fun _ _ _ h => h) ?_ ?_; rotate_left; (intro w; go_simp; try with_reducible rfl); try go_frame)
 (refine takeS (i := 4) (some 10) (v := ?_) rfl (by rfl) (by rfl) (by kernel_rfl) (by rfl) (fun _ _ _ h => h) (by assumption) ?_ ?_; rotate_left; (intro w hSw; (try dsimp only at hSw); go_simp; try with_reducible rfl); try go_frame)
 refine wpAnyD_ready (rs := [7]) (by kernel_rfl) (by simp) ?_
 refine ReadyD.cons rfl (fun K hK => ?_) ?_
 go_simp
 (go_at_call 95; (with_reducible refine (HN.out _).mono ?_); rintro e w3 ⟨b3, rfl, hc3, hs3, hb3⟩)
 have hs3' : Still w w3 := (still_drew w).trans hs3
 have HC3 := Lib.hid (And.intro hc3 (And.intro hs3' hb3))
 clear hc3 hs3 hb3
 go_wp2_with fail
 (refine hK.out _ _ ?_ (fun hNew => ?_); (focus (exact (SS.out _ hs3').1)); clear hHeld; have hHeld := hNew; clear hNew)
 (clear hK K; try go_frame)
 refine wpAnyD_ready (rs := [8]) (by kernel_rfl) (by simp) ?_
 refine ReadyD.cons rfl (fun K hK => ?_) ?_
 refine step_append_vec rfl _ _ 23 rfl 5 i0 _ 1 1 Tryz.underlying23 HI.out.1 HI.out.2.1 HI.out.2.2.1 HI.out.2.2.2 rfl (by decide) (.slice va m vc) m (bc S) (by simp [Act.eval]) (HV.out _ hs3') (.slice (some ⟨b3, 0, none⟩) (numB n z).length (numB n z).length) (numB n z).length (bc (numB n z)) (by simp [Act.eval]) (HC3.out.1.reads (by rw [bc_length, Nat.mul_one])) (bc_one _) (by have := HNL.out; have := HM.out; simp only [maxLen]; omega) (by have := HNL.out; have := HM.out; omega) ?_
 intro v7 w7 hv7 ho7 hb7
 obtain ⟨v7a, v7c, rfl⟩ := hv7.form'
 have hx7 := HX.out _ _ hs3' ho7
 have f7 := hx7.2
 have c7 := hx7.1
 have H7 := Lib.hid (And.intro hv7 (And.intro ho7 (And.intro hb7 hs3')))
 (refine hK.out _ _ ?_ (fun hNew => ?_); (focus (exact c7)); clear hHeld; have hHeld := hNew; clear hNew)
 clear hv7 ho7 hb7 hx7 hs3'
 (clear hK K; try go_frame)
 (refine takeD (i := 9) (some 15) (v := ?_) rfl (by rfl) (by rfl) (by kernel_rfl) (by rfl) (fun _ _ _ h => h) ?_ ?_; rotate_left; (intro w; go_simp; try with_reducible rfl); try go_frame)
 (refine takeD (i := 10) (some 16) (v := ?_) rfl (by rfl) (by rfl) (by kernel_rfl) (by rfl) (fun _ _ _ h => h) ?_ ?_; rotate_left; (intro w; go_simp; try with_reducible rfl); try go_frame)
 refine wpAnyD_ready (rs := [11]) (by kernel_rfl) (by simp) ?_
 refine ReadyD.last rfl (by rfl) (fun K hK => ?_) ?_
 go_simp
 refine hK.out _ _ ?_
 (clear hK K; try go_frame)
 refine wpAnyD_done (by kernel_rfl) ?_ _
 rotate_left
 exact ReadyD.nil
 exact ReadyD.nil
 exact ReadyD.nil
 obtain ⟨hv7, ho7, hb7, hs3'⟩ := H7.out
 have F := Lib.hid (show WPost W X r (S ++ numB n z) (.returned (.tuple #[])) (w7.setCell ⟨r, 0, none⟩ (.slice v7a (m + (numB n z).length) v7c)) from by
  have hh := (H.out.still hs3').put (Y := numB n z) (v' := .slice v7a (m + (numB n z).length) v7c) (w' := w7) (by rw [HM.out]; exact hv7) (by rw [HM.out]; exact ho7) (by rw [HM.out]; exact hb7) (numB_byt n z)
  exact ⟨rfl, _, hh⟩)
 clear hv7 ho7 hb7 HC3 hs3' H7 hHeld
 go_wp2_with fail
 go_end0
 exact F.out
end Go.Proofs.YtojkggppcmdepaaGreat

namespace Go.Proofs.YtojkggppcmdepaaGreat
open Go.RowKit Go.Wh Go.Maps

theorem nums1 {n : Nat} {z : Int} : numsB n [z] = numB n z := by
 unfold numsB
 simp
theorem nums2 {n : Nat} {y z : Int} : numsB n [y, z] = numB n y ++ numB n z := by
 unfold numsB
 simp
set_option maxHeartbeats 1000000 in
set_option maxRecDepth 10000 in
theorem rwrid {W w : World} {X : Nat → Prop} {r : Nat} {S : List Int} {v : Value} (p c : Int) (h : WrAt W X r S v w) (hp : 0 ≤ p ∧ p ≤ 1000000000) (hc : 0 ≤ c ∧ c ≤ 1000000000) (hS : S.length ≤ 90000) :
 Calls Tryz.prog 56 #[.pointer (some ⟨r, 0, none⟩), .agg #[.int .i64 p, .int .i64 c]] w (WPost W X r (S ++ numsB 1 [p, c])) := by
 have hbx := cellsAt_new w [.int .i64 p, .int .i64 c] 28
 have hst : Still w (w.alloc (.cells #[.int .i64 p, .int .i64 c] 28)) := (Still.refl w).alloc _
 have hb := h.still hst
 have HB := Lib.hid (And.intro hb (And.intro hc hS))
 have HX := Lib.hid (fun w' (k : WrAt (w.alloc (.cells #[.int .i64 p, .int .i64 c] 28)) (Its r v) r (S ++ numB 1 p) v w') => True.intro)
 have HN := Lib.hid (rwnum p 1 (.inl rfl) rfl hb.base hp (by omega))
 have c0 : (w.alloc (.cells #[.int .i64 p, .int .i64 c] 28)).cell? ⟨w.heap.size, 0, none⟩ = some (.int .i64 p) := hbx.cell 0
 have HK := Lib.hid (fun S' v' w' (k : WrAt (w.alloc (.cells #[.int .i64 p, .int .i64 c] 28)) (Its r v) r S' v' w') => show w'.cell? ⟨w.heap.size, 1, none⟩ = some (.int .i64 c) from (hbx.only k.only fun e => h.apart (Nat.le_refl _) e).cell 1)
 clear h hp hc hS hbx hst hb HX
 go_enter Tryz.func56, Tryz.ntmps56
 go_wp2_with fail
 refine HN.out.mono ?_
 rintro e w2 ⟨rfl, v2, h2⟩
 have c1 := HK.out _ _ _ h2
 have hback := HB.out.1.back h2
 have H2 := Lib.hid hback
 clear h2 HN
 go_wp2_with fail
 refine (rwnum c 1 (.inl rfl) rfl H2.out HB.out.2.1 (by rw [List.length_append, numB_length]; have := HB.out.2.2; omega)).mono ?_
 rintro e w3 ⟨rfl, v3, h3⟩
 have F := Lib.hid (show WPost W X r (S ++ numsB 1 [p, c]) (.returned (.tuple #[])) w3 from ⟨rfl, v3, by rw [nums2, ← List.append_assoc]; exact h3⟩)
 clear h3
 go_wp2_with fail
 go_end0
 exact F.out
set_option maxHeartbeats 2000000 in
set_option maxRecDepth 100000 in
theorem rwcell {W w : World} {X Q : Nat → Prop} {r : Nat} {S : List Int} {v dv : Value} {m : Nat} {l : List Int} (h : WrAt W X r S v w) (hd : Sl W Q 1 dv m (bc l)) (hq : ∀ g, Q g → ¬ X g) (hm : m ≤ 26) (hb : Byt l) (hS : S.length ≤ 90000) :
 Calls Tryz.prog 57 #[.pointer (some ⟨r, 0, none⟩), dv] w (WPost W X r (S ++ imB l)) := by
 have hlen : l.length = m := by have := hd.1; rw [bc_length] at this; omega
 have H := Lib.hid (And.intro h (And.intro hd (And.intro hm (And.intro hb hS))))
 have HN := Lib.hid (show Calls Tryz.prog 55 #[.pointer (some ⟨r, 0, none⟩), .int .i64 (m : Int), .int .i64 1] w (fun e w2 => e = .returned (.tuple #[]) ∧ ∃ v2, WrAt W X r (S ++ numsB 1 [(m : Int)]) v2 w2 ∧ Sl w2 Q 1 dv m (bc l)) from by
  refine (rwnum (m : Int) 1 (.inl rfl) rfl h (by omega) (by omega)).mono ?_
  rintro e w2 ⟨rfl, v2, h2⟩
  exact ⟨rfl, v2, by rw [nums1]; exact h2, hd.only h2.only hq⟩)
 have HL := Lib.hid hlen
 obtain ⟨da, dc, rfl⟩ := hd.form
 obtain ⟨i0, hi0, hz0, hz1, hz2⟩ := info_parts info_b
 have HI := Lib.hid (And.intro hi0 (And.intro hz0 (And.intro hz1 hz2)))
 clear h hd hq hm hb hS hlen hi0 hz0 hz1 hz2
 go_enter Tryz.func57, Tryz.ntmps57
 go_wp2_with fail
 refine HN.out.mono ?_
 rintro e w2 ⟨rfl, v2, h2, hd2⟩
 obtain ⟨va, vc, rfl⟩ := h2.vec.form'
 have c0 : w2.cell? ⟨r, 0, none⟩ = some (.slice va (S ++ numsB 1 [(m : Int)]).length vc) := h2.cells.cell 0
 have H2 := Lib.hid (And.intro h2 hd2)
 clear h2 hd2 HN
 generalize hpl : (S ++ numsB 1 [(m : Int)]).length = pl at *
 have HP := Lib.hid hpl
 clear hpl
 go_wp2_with (at_builtin; refine wpList_append_vec rfl _ _ 23 rfl 5 i0 _ 1 1 Tryz.underlying23 HI.out.1 HI.out.2.1 HI.out.2.2.1 HI.out.2.2.2 rfl (by decide) (.slice va pl vc) pl (bc (S ++ numsB 1 [(m : Int)])) (by simp [Act.eval]) ?_ (.slice da m dc) m (bc l) (by simp [Act.eval]) H2.out.2.reads (bc_one _) ?_ ?_ ?_)
 · have := H2.out.1.vec
   rwa [HP.out] at this
 · have := HP.out; rw [List.length_append, numsB_length] at this; simp only [List.length_cons, List.length_nil] at this; have := H.out; simp only [maxLen]; omega
 · have := HP.out; rw [List.length_append, numsB_length] at this; simp only [List.length_cons, List.length_nil] at this; have := H.out; omega
 · intro v' w' hv' ho' hb'
   have h3 := H2.out.1.put (Y := l) (by rw [HL.out, HP.out]; exact hv') ho' hb' H.out.2.2.2.1
   have hcl := (H2.out.1.cells.only ho' fun e => (H2.out.1.own r e).2.1 rfl)
   have c1 := hcl.cell 0
   have f1 := hcl.free 0
   obtain ⟨va', vc', rfl⟩ := hv'.form'
   have F := Lib.hid (show WPost W X r (S ++ imB l) (.returned (.tuple #[])) (w'.setCell ⟨r, 0, none⟩ (.slice va' (pl + m) vc')) from ⟨rfl, _, by
    have e : S ++ imB l = S ++ numsB 1 [(m : Int)] ++ l := by
     unfold imB
     rw [HL.out, List.append_assoc]
    rw [e]
    exact h3⟩)
   clear h3 hcl hv' ho' hb' c0
   go_wp2_with fail
   go_end0
   exact F.out

end Go.Proofs.YtojkggppcmdepaaGreat

namespace Go.Proofs.YtojkggppcmdepaaGreat
open Go.RowKit Go.Wh Go.Maps

theorem fits1_le {z : Int} (h : fitsB 1 [z] = true) : 0 ≤ z ∧ z ≤ 1000000000 := by
 simp only [fitsB_cons] at h
 have := h.1
 have e : (256 : Int) ^ 1 = 256 := rfl
 omega
set_option maxHeartbeats 2000000 in
set_option maxRecDepth 100000 in
theorem rwmoves {W w : World} {X Q : Nat → Prop} {r : Nat} {S : List Int} {v dv : Value} {m : Nat} {l : List PMv} (h : WrAt W X r S v w) (hd : Sl W Q 4 dv m (l.flatMap mvC)) (hq : ∀ g, Q g → ¬ X g) (hl : l.length = m) (hp : eachB mvMay l = true) (hS : S.length ≤ 80000) :
 Calls Tryz.prog 58 #[.pointer (some ⟨r, 0, none⟩), dv] w (WPost W X r (S ++ listB mvB l)) := by
 have hm := (eachB_len hp).1
 have H := Lib.hid (And.intro h (And.intro hd (And.intro hl (And.intro (eachB_len hp) hS))))
 have HQ := Lib.hid hq
 have HN := Lib.hid (rwnum (W := W) (X := X) (m : Int) 1 (.inl rfl) rfl h (by omega) (by omega))
 obtain ⟨da, dc, rfl⟩ := hd.form
 clear h hd hq hp hS hl hm
 go_enter Tryz.func58, Tryz.ntmps58
 go_wp2_with fail
 refine HN.out.mono ?_
 rintro e w2 ⟨rfl, v2, h2⟩
 have HST := Lib.hid (show LsRel W X r (S ++ listB mvB l) ((l.drop 0).flatMap mvB) (80100 + 0 * 164) w2 from ⟨v2, _, h2, by
  unfold listB
  rw [H.out.2.2.1, List.append_assoc, nums1]
  rfl, by rw [List.length_append, numB_length]; have := H.out.2.2.2.2; omega⟩)
 clear HN h2
 go_wp2_with fail
 go_loopw [4] (fun s wr => ∃ k : Nat, s = .int .i64 k ∧ k ≤ m ∧ LsRel W X r (S ++ listB mvB l) ((l.drop k).flatMap mvB) (80100 + k * 164) wr) (fun s _ => m - (intOf s).toNat)
 case atStart => exact ⟨0, rfl, Nat.zero_le _, HST.out⟩
 case round =>
  clear HST
  obtain ⟨k, rfl, hk, v3, pre, h3, hpre, hlen⟩ := hrel
  by_cases hi : k < m
  · obtain ⟨x, hx⟩ : ∃ x, l[k]? = some x := ⟨_, List.getElem?_eq_getElem (by have := H.out.2.2.1; omega)⟩
    have hd3 := H.out.2.1.only h3.only HQ.out
    obtain ⟨g, o, c, hg, hgq, hgl, hcs⟩ := hd3.pos (by omega)
    cases hg
    have hfc : ∀ j, j < 4 → (l.flatMap mvC)[k * 4 + j]? = (mvC x)[j]? := fun j hj => flat_get (sz := 4) (fun _ => rfl) l k j x hx hj
    have c0 : wr.cell? ⟨g, o + k * 4, none⟩ = some (.int .i64 x.fp) := hcs (k * 4) _ (hfc 0 (by omega))
    have c1 : wr.cell? ⟨g, o + k * 4 + 1, none⟩ = some (.int .i64 x.fc) := by rw [Nat.add_assoc]; exact hcs (k * 4 + 1) _ (hfc 1 (by omega))
    have b1 : decide ((k : Int) < (m : Int)) = true := by simp; omega
    have b2 : decide (k < m) = true := by simp; omega
    have b3 : (0 : Int) ≤ (k : Int) := by omega
    have hk40 : k < 40 := by have := H.out.2.2.2.1.1; have := H.out.2.2.1; omega
    have b4 : (k : Int) < (m : Int) := by omega
    have hxm := H.out.2.2.2.1.2 x (List.mem_of_getElem? hx)
    unfold mvMay at hxm
    simp only [fitsB_cons, Bool.and_eq_true] at hxm
    have e256 : (256 : Int) ^ 1 = 256 := rfl
    have HX := Lib.hid (And.intro hx (show ((0 ≤ x.fp ∧ x.fp ≤ 1000000000) ∧ (0 ≤ x.fc ∧ x.fc ≤ 1000000000)) ∧ (0 ≤ x.tp ∧ x.tp ≤ 1000000000) ∧ (0 ≤ x.tc ∧ x.tc ≤ 1000000000) from by
     obtain ⟨⟨h1, h2, -⟩, h3, h4, -⟩ := hxm
     exact ⟨⟨by omega, by omega⟩, by omega, by omega⟩))
    have HR := Lib.hid (rwrid x.fp x.fc h3 HX.out.2.1.1 HX.out.2.1.2 (by omega))
    have H3 := Lib.hid (And.intro h3 (And.intro hpre hlen))
    clear h3 hpre hlen hfc hcs hd3 hgq hgl hxm hx
    go_wp2_with fail
    refine HR.out.mono ?_
    rintro e w4 ⟨rfl, v4, h4⟩
    have hd4 := H.out.2.1.only h4.only HQ.out
    obtain ⟨g4, o4, cc4, hg4, hgq4, hgl4, hcs4⟩ := hd4.pos (by omega)
    cases hg4
    have hfc4 : ∀ j, j < 4 → (l.flatMap mvC)[k * 4 + j]? = (mvC x)[j]? := fun j hj => flat_get (sz := 4) (fun _ => rfl) l k j x HX.out.1 hj
    have c2 : w4.cell? ⟨g, o + k * 4 + 2, none⟩ = some (.int .i64 x.tp) := by rw [Nat.add_assoc]; exact hcs4 (k * 4 + 2) _ (hfc4 2 (by omega))
    have c3 : w4.cell? ⟨g, o + k * 4 + 3, none⟩ = some (.int .i64 x.tc) := by rw [Nat.add_assoc]; exact hcs4 (k * 4 + 3) _ (hfc4 3 (by omega))
    have HR2 := Lib.hid (rwrid x.tp x.tc h4 HX.out.2.2.1 HX.out.2.2.2 (by rw [List.length_append, numsB_length]; simp only [List.length_cons, List.length_nil]; have := H3.out.2.2; omega))
    clear h4 hd4 hgq4 hgl4 hcs4 hfc4 c0 c1 HR
    go_wp2_with fail
    refine HR2.out.mono ?_
    rintro e w5 ⟨rfl, v5, h5⟩
    have HNX := Lib.hid (show LsRel W X r (S ++ listB mvB l) ((l.drop (k + 1)).flatMap mvB) (80100 + (k + 1) * 164) w5 from ⟨v5, _, h5, by
     have e : pre ++ numsB 1 [x.fp, x.fc] ++ numsB 1 [x.tp, x.tc] = pre ++ mvB x := by rw [List.append_assoc]; rfl
     rw [e, List.append_assoc, ← H3.out.2.1, List.drop_eq_getElem_cons (show k < l.length by have := H.out.2.2.1; omega), show l[k]'(by have := H.out.2.2.1; omega) = x from (List.getElem?_eq_some_iff.1 HX.out.1).2, List.flatMap_cons], by
     rw [List.length_append, List.length_append, numsB_length, numsB_length]; simp only [List.length_cons, List.length_nil]; have := H3.out.2.2; omega⟩)
    clear h5 c2 c3 HR2
    have u9 : IntKind.i64.wrap ((k : Int) + 1) = (k : Int) + 1 := IntWalk.i64_in _ (by have := H.out.2.2.2.1.1; have := H.out.2.2.1; omega)
    go_wp2_with fail
    go_roundw
    case rel => exact ⟨k + 1, by go_num, by omega, HNX.out⟩
    case measure => simp [intOf]; omega
  · have hke : k = m := by omega
    have b1 : decide ((k : Int) < (m : Int)) = false := by simp; omega
    have b2 : decide (k < m) = false := by simp; omega
    have F := Lib.hid (show WPost W X r (S ++ listB mvB l) (.returned (.tuple #[])) wr from ⟨rfl, v3, by
     rw [List.drop_of_length_le (by have := H.out.2.2.1; omega)] at hpre
     have hpre' : pre ++ [] = S ++ listB mvB l := hpre
     rw [List.append_nil] at hpre'
     rw [← hpre']
     exact h3⟩)
    clear h3 hpre hlen
    go_wp2_with fail
    go_end0
    exact F.out
theorem sumB_snoc (l : List Int) (c : Int) (s : Int × Int) : sumB (l ++ [c]) s = (((sumB l s).1 + c) % 255, ((sumB l s).2 + ((sumB l s).1 + c) % 255) % 255) := by
 induction l generalizing s with
 | nil => rfl
 | cons x l ih =>
  obtain ⟨a, b⟩ := s
  exact ih _
set_option maxHeartbeats 1000000 in
set_option maxRecDepth 10000 in
theorem rsums (w : World) (Q : Nat → Prop) (a : Option Addr) (n c : Nat) (l : List Int) (h : Sl w Q 1 (.slice a n c) n (bc l)) (hb : Byt l) (hn : n ≤ 100000) :
 Calls Tryz.prog 38 #[.slice a n c] w (SamePost w (.tuple #[.int .i64 (sumB l (0, 0)).1, .int .i64 (sumB l (0, 0)).2])) := by
 have hl : l.length = n := by have := h.1; rw [bc_length] at this; omega
 have H := Lib.hid (And.intro h (And.intro hb (And.intro hn hl)))
 clear h hb hn hl
 go_enter Tryz.func38, Tryz.ntmps38
 go_wp2_with fail
 go_loopw [4, 5, 6] (fun s4 s5 s6 wr => ∃ i : Nat, s6 = .int .i64 i ∧ i ≤ n ∧ s4 = .int .i64 (sumB (l.take i) (0, 0)).1 ∧ s5 = .int .i64 (sumB (l.take i) (0, 0)).2 ∧ wr = w) (fun _ _ s6 _ => n - (intOf s6).toNat)
 case atStart => exact ⟨0, rfl, Nat.zero_le _, rfl, rfl, rfl⟩
 case round =>
  obtain ⟨i, rfl, hin, rfl, rfl, rfl⟩ := hrel
  have hr := sumB_range (l.take i) (0, 0) (by decide) (by decide)
  by_cases hi : i < n
  · obtain ⟨z, hz⟩ : ∃ z, l[i]? = some z := ⟨_, List.getElem?_eq_getElem (by have := H.out.2.2.2; omega)⟩
    have hzb := H.out.2.1 z (List.mem_of_getElem? hz)
    obtain ⟨g, o, cc, hg, -, -, hcs⟩ := H.out.1.pos (by omega)
    cases hg
    have cz : wr.cell? ⟨g, o + i, none⟩ = some (.int .u8 z) := hcs i _ (bc_get hz)
    have d1 : decide ((i : Int) < (n : Int)) = true := decide_eq_true (by omega)
    have d2 : decide (i < n) = true := decide_eq_true hi
    have i0 : (0 : Int) ≤ (i : Int) := by omega
    have i1 : (i : Int) < (n : Int) := by omega
    have HS := Lib.hid (show sumB (l.take (i + 1)) (0, 0) = (((sumB (l.take i) (0, 0)).1 + z) % 255, ((sumB (l.take i) (0, 0)).2 + ((sumB (l.take i) (0, 0)).1 + z) % 255) % 255) from by
     rw [List.take_add_one, hz]
     exact sumB_snoc _ _ _)
    obtain ⟨x, hx⟩ : ∃ x, (sumB (l.take i) (0, 0)).1 = x := ⟨_, rfl⟩
    obtain ⟨y, hy⟩ : ∃ y, (sumB (l.take i) (0, 0)).2 = y := ⟨_, rfl⟩
    rw [hx, hy] at HS hr ⊢
    have w1 : IntKind.i64.wrap z = z := IntWalk.i64_in _ (by omega)
    have w2 : IntKind.i64.wrap (x + z) = x + z := IntWalk.i64_in _ (by omega)
    have x0 : 0 ≤ x + z := by omega
    have t2 : (x + z).tmod 255 = (x + z) % 255 := Int.tmod_eq_emod_of_nonneg x0
    have w3 : IntKind.i64.wrap (y + (x + z) % 255) = y + (x + z) % 255 := IntWalk.i64_in _ (by omega)
    have t3 : (y + (x + z) % 255).tmod 255 = (y + (x + z) % 255) % 255 := Int.tmod_eq_emod_of_nonneg (by omega)
    have u1 : IntKind.i64.wrap ((i : Int) + 1) = (i : Int) + 1 := IntWalk.i64_in _ (by have := H.out.2.2.1; omega)
    clear hr hz hzb hcs hin hx hy
    go_wp2_with fail
    go_roundw
    case rel => exact ⟨i + 1, by go_num, by omega, by rw [HS.out], by rw [HS.out]; simp, trivial⟩
    case measure => simp [intOf]; omega
  · have hie : i = n := by omega
    have d1 : decide ((i : Int) < (n : Int)) = false := decide_eq_false (by omega)
    have d2 : decide (i < n) = false := decide_eq_false hi
    have ht : l.take i = l := List.take_of_length_le (by have := H.out.2.2.2; omega)
    rw [ht]
    clear ht hr hie hin hi
    go_wp2_with fail
    go_ret2
    exact ⟨rfl, rfl⟩
end Go.Proofs.YtojkggppcmdepaaGreat

namespace Go.Proofs.YtojkggppcmdepaaGreat
open Go.RowKit Go.Wh Go.Maps

theorem mvMay_no {x : PMv} (h : fitsB 1 [x.fp, x.fc] = false ∨ fitsB 1 [x.tp, x.tc] = false) : mvMay x = false := by
 unfold mvMay
 rcases h with h | h <;> rw [h] <;> simp
theorem eachB_no {α : Type} {p : α → Bool} {l : List α} {k : Nat} {x : α} (hx : l[k]? = some x) (h : p x = false) : eachB p l = false := by
 unfold eachB
 rw [Bool.and_eq_false_iff]
 right
 rw [List.all_eq_false]
 exact ⟨x, List.mem_of_getElem? hx, by rw [h]; simp⟩
theorem all_more {α : Type} {p : α → Bool} {l : List α} {k : Nat} {x : α} (hx : l[k]? = some x) (h : p x = true) (ha : (l.take k).all p = true) : (l.take (k + 1)).all p = true := by
 rw [List.take_add_one, hx, List.all_append, ha]
 simp [h]
set_option maxHeartbeats 2000000 in
set_option maxRecDepth 100000 in
theorem rfitsMoves {Q : Nat → Prop} (w : World) (dv : Value) (m : Nat) (l : List PMv) (hd : Sl w Q 4 dv m (l.flatMap mvC)) (hl : l.length = m) :
 Calls Tryz.prog 94 #[dv] w (StPost w (.bool (eachB mvMay l))) := by
 have H := Lib.hid (And.intro hd hl)
 obtain ⟨da, dc, rfl⟩ := hd.form
 clear hd hl
 go_enter Tryz.func94, Tryz.ntmps94
 go_wp2_with fail
 go_loopw [3] (fun s wr => ∃ k : Nat, s = .int .i64 k ∧ k ≤ m ∧ k ≤ 41 ∧ (l.take k).all mvMay = true ∧ Still w wr) (fun s _ => m - (intOf s).toNat)
 case atStart => exact ⟨0, rfl, Nat.zero_le _, by omega, rfl, Still.refl w⟩
 case round =>
  obtain ⟨k, rfl, hk, hk41, hall, hst⟩ := hrel
  by_cases hi : k < m
  · have b1 : decide ((k : Int) < (m : Int)) = true := decide_eq_true (by omega)
    have b2 : decide (k < m) = true := decide_eq_true (by omega)
    by_cases h41 : k < 41
    · have b3 : decide ((k : Int) < 41) = true := decide_eq_true (by omega)
      have b4 : decide (k < 41) = true := decide_eq_true h41
      obtain ⟨x, hx⟩ : ∃ x, l[k]? = some x := ⟨_, List.getElem?_eq_getElem (by have := H.out.2; omega)⟩
      obtain ⟨g, o, c, hg, -, -, hcs⟩ := (H.out.1.still hst).pos (by omega)
      cases hg
      have hfc : ∀ j, j < 4 → (l.flatMap mvC)[k * 4 + j]? = (mvC x)[j]? := fun j hj => flat_get (sz := 4) (fun _ => rfl) l k j x hx hj
      have c0 : wr.cell? ⟨g, o + k * 4, none⟩ = some (.int .i64 x.fp) := hcs (k * 4) _ (hfc 0 (by omega))
      have c1 : wr.cell? ⟨g, o + k * 4 + 1, none⟩ = some (.int .i64 x.fc) := by rw [Nat.add_assoc]; exact hcs (k * 4 + 1) _ (hfc 1 (by omega))
      have i0 : (0 : Int) ≤ (k : Int) := by omega
      have i1 : (k : Int) < (m : Int) := by omega
      have HX := Lib.hid hx
      have HR := Lib.hid (rfitsRID wr x.fp x.fc)
      have HH := Lib.hid (And.intro hall (And.intro hst (And.intro hk (And.intro h41 hi))))
      clear hall hst hk hk41 hcs hfc hx
      go_wp2_with fail
      refine HR.out.mono ?_
      rintro e w4 ⟨rfl, hs4⟩
      have H4 := Lib.hid (HH.out.2.1.trans hs4)
      clear c0 c1 HR hs4
      obtain ⟨q1, hq1⟩ : ∃ q, fitsB 1 [x.fp, x.fc] = q := ⟨_, rfl⟩
      rw [hq1]
      have HQ1 := Lib.hid hq1
      clear hq1
      cases q1
      · have F := Lib.hid (show StPost w (.bool (eachB mvMay l)) (.returned (.bool false)) w4 from ⟨by rw [eachB_no HX.out (mvMay_no (.inl HQ1.out))], H4.out⟩)
        go_wp2_with fail
        go_ret
        exact F.out
      · obtain ⟨g4, o4, cc4, hg4, -, -, hcs4⟩ := (H.out.1.still H4.out).pos (by omega)
        cases hg4
        have hfc4 : ∀ j, j < 4 → (l.flatMap mvC)[k * 4 + j]? = (mvC x)[j]? := fun j hj => flat_get (sz := 4) (fun _ => rfl) l k j x HX.out hj
        have c2 : w4.cell? ⟨g, o + k * 4 + 2, none⟩ = some (.int .i64 x.tp) := by rw [Nat.add_assoc]; exact hcs4 (k * 4 + 2) _ (hfc4 2 (by omega))
        have c3 : w4.cell? ⟨g, o + k * 4 + 3, none⟩ = some (.int .i64 x.tc) := by rw [Nat.add_assoc]; exact hcs4 (k * 4 + 3) _ (hfc4 3 (by omega))
        have HR2 := Lib.hid (rfitsRID w4 x.tp x.tc)
        clear hcs4 hfc4
        go_wp2_with fail
        refine HR2.out.mono ?_
        rintro e w5 ⟨rfl, hs5⟩
        have H5 := Lib.hid (H4.out.trans hs5)
        clear c2 c3 HR2 hs5
        obtain ⟨q2, hq2⟩ : ∃ q, fitsB 1 [x.tp, x.tc] = q := ⟨_, rfl⟩
        rw [hq2]
        have HQ2 := Lib.hid hq2
        clear hq2
        cases q2
        · have F := Lib.hid (show StPost w (.bool (eachB mvMay l)) (.returned (.bool false)) w5 from ⟨by rw [eachB_no HX.out (mvMay_no (.inr HQ2.out))], H5.out⟩)
          go_wp2_with fail
          go_ret
          exact F.out
        · have HA := Lib.hid (all_more HX.out (show mvMay x = true from by unfold mvMay; rw [HQ1.out, HQ2.out]; rfl) HH.out.1)
          have u9 : IntKind.i64.wrap ((k : Int) + 1) = (k : Int) + 1 := IntWalk.i64_in _ (by omega)
          go_wp2_with fail
          go_roundw
          case rel => exact ⟨k + 1, by go_num, by omega, by omega, HA.out, H5.out⟩
          case measure => simp [intOf]; omega
    · have b3 : decide ((k : Int) < 41) = false := decide_eq_false (by omega)
      have b4 : decide (k < 41) = false := decide_eq_false h41
      have b5 : decide ((m : Int) ≤ 40) = false := decide_eq_false (by omega)
      have b6 : decide (m ≤ 40) = false := decide_eq_false (by omega)
      have F := Lib.hid (show StPost w (.bool (eachB mvMay l)) (.returned (.bool false)) wr from ⟨by
       have : eachB mvMay l = false := by
        unfold eachB
        rw [H.out.2, b6]
        rfl
       rw [this], hst⟩)
      clear hall hst
      go_wp2_with fail
      go_ret
      exact F.out
  · have hke : k = m := by omega
    have b1 : decide ((k : Int) < (m : Int)) = false := decide_eq_false (by omega)
    have b2 : decide (k < m) = false := decide_eq_false (by omega)
    rw [List.take_of_length_le (by have := H.out.2; omega)] at hall
    have F := Lib.hid (show StPost w (.bool (eachB mvMay l)) (.returned (.bool (decide ((m : Int) ≤ 40)))) wr from ⟨by
     have : eachB mvMay l = decide ((m : Int) ≤ 40) := by
      unfold eachB
      rw [H.out.2, hall, Bool.and_true]
      exact decide_eq_decide.2 (by omega)
     rw [this], hst⟩)
    clear hall hst
    go_wp2_with fail
    go_ret
    exact F.out
end Go.Proofs.YtojkggppcmdepaaGreat

namespace Go.Proofs.YtojkggppcmdepaaGreat
open Go.RowKit Go.Wh Go.Maps

structure MayC (kind txn unit half prev next ap ac tp tc : Int) (old new : List Int) (moves : List PMv) (lives : List PLv) (dirty : List PDt) (opens : List POp) : Prop where
 k1 : 1 ≤ kind
 k2 : kind ≤ 10
 f1 : fit1 1 txn = true
 f2 : fit1 2 unit = true
 f3 : fit1 1 half = true
 f4 : fit1 3 prev = true
 f5 : fit1 3 next = true
 f6 : fitsB 1 [ap, ac] = true
 f7 : fitsB 1 [tp, tc] = true
 o : imgB old = true
 n : imgB new = true
 m : eachB mvMay moves = true
 l : lives.length ≤ 40
 d : dirty.length ≤ 40
 p : opens.length ≤ 40
 la : lives.all lvMay = true
 da : dirty.all dtMay = true
 pa : opens.all opMay = true
theorem may_iff (e : PE) : e.may = true ↔ MayC e.kind e.txn e.unit e.half e.prev e.next e.ap e.ac e.tp e.tc e.old e.new e.moves e.lives e.dirty e.opens := by
 constructor
 · intro h
   unfold PE.may at h
   simp only [Bool.and_eq_true, decide_eq_true_eq] at h
   obtain ⟨⟨⟨⟨⟨⟨⟨⟨⟨⟨⟨⟨h1, h2⟩, h3⟩, h4⟩, h5⟩, h6⟩, h7⟩, h8⟩, h9⟩, h10⟩, h11⟩, h12⟩, h13⟩ := h
   simp only [fitsB_all, List.all_cons, List.all_nil, Bool.and_true, Bool.and_eq_true] at h3 h4 h5
   unfold eachB at h11 h12 h13
   simp only [Bool.and_eq_true, decide_eq_true_eq] at h11 h12 h13
   exact ⟨h1, h2, h3.1, h4, h3.2, h5.1, h5.2, h6, h7, h8, h9, h10, h11.1, h12.1, h13.1, h11.2, h12.2, h13.2⟩
 · rintro ⟨h1, h2, h3, h4, h5, h6, h7, h8, h9, h10, h11, h12, h13, h14, h15, h16, h17, h18⟩
   unfold PE.may
   simp only [Bool.and_eq_true, decide_eq_true_eq]
   refine ⟨⟨⟨⟨⟨⟨⟨⟨⟨⟨⟨⟨h1, h2⟩, ?_⟩, ?_⟩, ?_⟩, h8⟩, h9⟩, h10⟩, h11⟩, h12⟩, ?_⟩, ?_⟩, ?_⟩
   · simp [fitsB_all, h3, h5]
   · simp [fitsB_all, h4]
   · simp [fitsB_all, h6, h7]
   all_goals
    unfold eachB
    simp only [Bool.and_eq_true, decide_eq_true_eq]
   · exact ⟨h13, h16⟩
   · exact ⟨h14, h17⟩
   · exact ⟨h15, h18⟩
end Go.Proofs.YtojkggppcmdepaaGreat

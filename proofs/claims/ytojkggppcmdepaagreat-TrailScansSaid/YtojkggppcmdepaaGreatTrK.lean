/- The writer of bytes: lives, dirty pages, units. Conditions: all lies in memory, apart from the writer; what is written may be. -/
import Derived.Test.YtojkggppcmdepaaGreatTrJ
namespace Go.Proofs.YtojkggppcmdepaaGreat
open Go.RowKit Go.Wh Go.Maps

set_option maxHeartbeats 2000000 in
theorem wlive_t {W w : World} {X : Nat → Prop} {r vb : Nat} {S : List Int} {v : Value} (a b c : Int) (h : WrAt W X r S v w) (hc : W.cell? ⟨vb, 0, none⟩ = some (.pointer (some ⟨r, 0, none⟩))) (hvb : ¬ X vb) (hx : lvMay ⟨a, b, c, true⟩ = true) (hS : S.length ≤ 70000) :
    Calls Tryz.prog 66 #[.agg #[.int .i64 a, .int .i64 b, .int .i64 c, .bool true], .pointer (some ⟨vb, 0, none⟩)] w (WPost W X r (S ++ lvB ⟨a, b, c, true⟩)) := by
  have hx' := hx
  unfold lvMay at hx'
  simp only [Bool.and_eq_true, fitsB_cons] at hx'
  have hbx := cellsAt_new w [.int .i64 a, .int .i64 b, .int .i64 c, .bool true] 108
  have hst : Still w (w.alloc (.cells #[.int .i64 a, .int .i64 b, .int .i64 c, .bool true] 108)) := (Still.refl w).alloc _
  have hb := (h.still hst).base
  have KEEP := Lib.hid (fun S' v' w' (k : WrAt (w.alloc (.cells #[.int .i64 a, .int .i64 b, .int .i64 c, .bool true] 108)) (Its r v) r S' v' w') => show w'.cell? ⟨vb, 0, none⟩ = some (.pointer (some ⟨r, 0, none⟩)) ∧ cellsAt w' w.heap.size [.int .i64 a, .int .i64 b, .int .i64 c, .bool true] from
    have c1 := (h.only.cell (World.block_lt_of_cell? _ _ hc) hvb).trans hc
    have c2 := Still.cell hst c1
    ⟨(k.only.cell (World.block_lt_of_cell? _ _ c2) (h.off hvb (World.block_lt_of_cell? _ _ hc))).trans c2, hbx.only k.only fun e => h.apart (Nat.le_refl _) e⟩)
  have HH := Lib.hid (And.intro h (And.intro hst hS))
  have HM := Lib.hid hx'
  have HB := Lib.hid hb
  have hcv := KEEP.out _ _ _ hb
  have c0 := hcv.1
  clear hx hx' h hbx hst hb hcv hc hvb hS
  go_enter Tryz.func66, Tryz.ntmps66
  go_wp2_with fail
  refine (num1 1 rfl a _ (B := w.heap.size + 1) (by simp) HB.out (by omega) HM.out.1.1.1 (by have := HH.out.2.2; omega)).mono ?_
  rintro e w2 ⟨rfl, v2, h2⟩
  have H2 := Lib.hid h2
  have hk2 := KEEP.out _ _ _ h2
  have c0 := hk2.1
  have d0 : w2.cell? ⟨w.heap.size, 0, none⟩ = some (.int .i64 a) := hk2.2.cell 0
  have d1 : w2.cell? ⟨w.heap.size, 1, none⟩ = some (.int .i64 b) := hk2.2.cell 1
  have d2 : w2.cell? ⟨w.heap.size, 2, none⟩ = some (.int .i64 c) := hk2.2.cell 2
  have d3 : w2.cell? ⟨w.heap.size, 3, none⟩ = some (.bool true) := hk2.2.cell 3
  clear h2 hk2
  go_wp2_with fail
  refine (num2 3 rfl b c _ rfl H2.out (by omega) HM.out.2.1.1 HM.out.2.2.1.1 (by have := HH.out.2.2; simp only [List.length_append, numsB_length, List.length_cons, List.length_nil]; omega)).mono ?_
  rintro e w3 ⟨rfl, v3, h3⟩
  have H3 := Lib.hid h3
  have hk3 := KEEP.out _ _ _ h3
  have c0 := hk3.1
  have d0 : w3.cell? ⟨w.heap.size, 0, none⟩ = some (.int .i64 a) := hk3.2.cell 0
  have d1 : w3.cell? ⟨w.heap.size, 1, none⟩ = some (.int .i64 b) := hk3.2.cell 1
  have d2 : w3.cell? ⟨w.heap.size, 2, none⟩ = some (.int .i64 c) := hk3.2.cell 2
  have d3 : w3.cell? ⟨w.heap.size, 3, none⟩ = some (.bool true) := hk3.2.cell 3
  clear h3 hk3
  go_wp2_with fail
  refine (num1 1 rfl _ _ rfl H3.out (by omega) (by omega) (by have := HH.out.2.2; simp only [List.length_append, numsB_length, List.length_cons, List.length_nil]; omega)).mono ?_
  rintro e w4 ⟨rfl, v4, h4⟩
  have F := Lib.hid (show WPost W X r (S ++ lvB ⟨a, b, c, true⟩) (.returned (.tuple #[])) w4 from ⟨rfl, _, by
    have := (HH.out.1.still HH.out.2.1).back h4
    simp only [List.append_assoc] at this
    unfold lvB
    simp only [List.append_assoc]
    exact this⟩)
  clear h4 KEEP
  go_wp2_with fail
  go_end0
  exact F.out

set_option maxHeartbeats 2000000 in
theorem wlive_f {W w : World} {X : Nat → Prop} {r vb : Nat} {S : List Int} {v : Value} (a b c : Int) (h : WrAt W X r S v w) (hc : W.cell? ⟨vb, 0, none⟩ = some (.pointer (some ⟨r, 0, none⟩))) (hvb : ¬ X vb) (hx : lvMay ⟨a, b, c, false⟩ = true) (hS : S.length ≤ 70000) :
    Calls Tryz.prog 66 #[.agg #[.int .i64 a, .int .i64 b, .int .i64 c, .bool false], .pointer (some ⟨vb, 0, none⟩)] w (WPost W X r (S ++ lvB ⟨a, b, c, false⟩)) := by
  have hx' := hx
  unfold lvMay at hx'
  simp only [Bool.and_eq_true, fitsB_cons] at hx'
  have hbx := cellsAt_new w [.int .i64 a, .int .i64 b, .int .i64 c, .bool false] 108
  have hst : Still w (w.alloc (.cells #[.int .i64 a, .int .i64 b, .int .i64 c, .bool false] 108)) := (Still.refl w).alloc _
  have hb := (h.still hst).base
  have KEEP := Lib.hid (fun S' v' w' (k : WrAt (w.alloc (.cells #[.int .i64 a, .int .i64 b, .int .i64 c, .bool false] 108)) (Its r v) r S' v' w') => show w'.cell? ⟨vb, 0, none⟩ = some (.pointer (some ⟨r, 0, none⟩)) ∧ cellsAt w' w.heap.size [.int .i64 a, .int .i64 b, .int .i64 c, .bool false] from
    have c1 := (h.only.cell (World.block_lt_of_cell? _ _ hc) hvb).trans hc
    have c2 := Still.cell hst c1
    ⟨(k.only.cell (World.block_lt_of_cell? _ _ c2) (h.off hvb (World.block_lt_of_cell? _ _ hc))).trans c2, hbx.only k.only fun e => h.apart (Nat.le_refl _) e⟩)
  have HH := Lib.hid (And.intro h (And.intro hst hS))
  have HM := Lib.hid hx'
  have HB := Lib.hid hb
  have hcv := KEEP.out _ _ _ hb
  have c0 := hcv.1
  clear hx hx' h hbx hst hb hcv hc hvb hS
  go_enter Tryz.func66, Tryz.ntmps66
  go_wp2_with fail
  refine (num1 1 rfl a _ (B := w.heap.size + 1) (by simp) HB.out (by omega) HM.out.1.1.1 (by have := HH.out.2.2; omega)).mono ?_
  rintro e w2 ⟨rfl, v2, h2⟩
  have H2 := Lib.hid h2
  have hk2 := KEEP.out _ _ _ h2
  have c0 := hk2.1
  have d0 : w2.cell? ⟨w.heap.size, 0, none⟩ = some (.int .i64 a) := hk2.2.cell 0
  have d1 : w2.cell? ⟨w.heap.size, 1, none⟩ = some (.int .i64 b) := hk2.2.cell 1
  have d2 : w2.cell? ⟨w.heap.size, 2, none⟩ = some (.int .i64 c) := hk2.2.cell 2
  have d3 : w2.cell? ⟨w.heap.size, 3, none⟩ = some (.bool false) := hk2.2.cell 3
  clear h2 hk2
  go_wp2_with fail
  refine (num2 3 rfl b c _ rfl H2.out (by omega) HM.out.2.1.1 HM.out.2.2.1.1 (by have := HH.out.2.2; simp only [List.length_append, numsB_length, List.length_cons, List.length_nil]; omega)).mono ?_
  rintro e w3 ⟨rfl, v3, h3⟩
  have H3 := Lib.hid h3
  have hk3 := KEEP.out _ _ _ h3
  have c0 := hk3.1
  have d0 : w3.cell? ⟨w.heap.size, 0, none⟩ = some (.int .i64 a) := hk3.2.cell 0
  have d1 : w3.cell? ⟨w.heap.size, 1, none⟩ = some (.int .i64 b) := hk3.2.cell 1
  have d2 : w3.cell? ⟨w.heap.size, 2, none⟩ = some (.int .i64 c) := hk3.2.cell 2
  have d3 : w3.cell? ⟨w.heap.size, 3, none⟩ = some (.bool false) := hk3.2.cell 3
  clear h3 hk3
  go_wp2_with fail
  refine (num1 1 rfl _ _ rfl H3.out (by omega) (by omega) (by have := HH.out.2.2; simp only [List.length_append, numsB_length, List.length_cons, List.length_nil]; omega)).mono ?_
  rintro e w4 ⟨rfl, v4, h4⟩
  have F := Lib.hid (show WPost W X r (S ++ lvB ⟨a, b, c, false⟩) (.returned (.tuple #[])) w4 from ⟨rfl, _, by
    have := (HH.out.1.still HH.out.2.1).back h4
    simp only [List.append_assoc] at this
    unfold lvB
    simp only [List.append_assoc]
    exact this⟩)
  clear h4 KEEP
  go_wp2_with fail
  go_end0
  exact F.out

set_option maxHeartbeats 2000000 in
theorem wdirty_any {W w : World} {X : Nat → Prop} {r vb : Nat} {S : List Int} {v : Value} (a b : Int) (h : WrAt W X r S v w) (hc : W.cell? ⟨vb, 0, none⟩ = some (.pointer (some ⟨r, 0, none⟩))) (hvb : ¬ X vb) (hx : dtMay ⟨a, b⟩ = true) (hS : S.length ≤ 70000) :
    Calls Tryz.prog 68 #[.agg #[.int .i64 a, .int .i64 b], .pointer (some ⟨vb, 0, none⟩)] w (WPost W X r (S ++ dtB ⟨a, b⟩)) := by
  have hx' := hx
  unfold dtMay at hx'
  simp only [Bool.and_eq_true, fitsB_cons] at hx'
  have hbx := cellsAt_new w [.int .i64 a, .int .i64 b] 110
  have hst : Still w (w.alloc (.cells #[.int .i64 a, .int .i64 b] 110)) := (Still.refl w).alloc _
  have hb := (h.still hst).base
  have KEEP := Lib.hid (fun S' v' w' (k : WrAt (w.alloc (.cells #[.int .i64 a, .int .i64 b] 110)) (Its r v) r S' v' w') => show w'.cell? ⟨vb, 0, none⟩ = some (.pointer (some ⟨r, 0, none⟩)) ∧ cellsAt w' w.heap.size [.int .i64 a, .int .i64 b] from
    have c1 := (h.only.cell (World.block_lt_of_cell? _ _ hc) hvb).trans hc
    have c2 := Still.cell hst c1
    ⟨(k.only.cell (World.block_lt_of_cell? _ _ c2) (h.off hvb (World.block_lt_of_cell? _ _ hc))).trans c2, hbx.only k.only fun e => h.apart (Nat.le_refl _) e⟩)
  have HH := Lib.hid (And.intro h (And.intro hst hS))
  have HM := Lib.hid hx'
  have HB := Lib.hid hb
  have hcv := KEEP.out _ _ _ hb
  have c0 := hcv.1
  clear hx hx' h hbx hst hb hcv hc hvb hS
  go_enter Tryz.func68, Tryz.ntmps68
  go_wp2_with fail
  refine (num1 1 rfl a _ (B := w.heap.size + 1) (by simp) HB.out (by omega) HM.out.1.1.1 (by have := HH.out.2.2; omega)).mono ?_
  rintro e w2 ⟨rfl, v2, h2⟩
  have H2 := Lib.hid h2
  have hk2 := KEEP.out _ _ _ h2
  have c0 := hk2.1
  have d0 : w2.cell? ⟨w.heap.size, 0, none⟩ = some (.int .i64 a) := hk2.2.cell 0
  have d1 : w2.cell? ⟨w.heap.size, 1, none⟩ = some (.int .i64 b) := hk2.2.cell 1
  clear h2 hk2
  go_wp2_with fail
  refine (num1 3 rfl b _ rfl H2.out (by omega) HM.out.2.1.1 (by have := HH.out.2.2; simp only [List.length_append, numsB_length, List.length_cons, List.length_nil]; omega)).mono ?_
  rintro e w3 ⟨rfl, v3, h3⟩
  have F := Lib.hid (show WPost W X r (S ++ dtB ⟨a, b⟩) (.returned (.tuple #[])) w3 from ⟨rfl, _, by
    have := (HH.out.1.still HH.out.2.1).back h3
    simp only [List.append_assoc] at this
    unfold dtB
    exact this⟩)
  clear h3 KEEP
  go_wp2_with fail
  go_end0
  exact F.out

set_option maxHeartbeats 2000000 in
theorem wopen_any {W w : World} {X Q : Nat → Prop} {r vb : Nat} {S : List Int} {v : Value} (a : Int) (b : List PMv) (c : Int) (mv : Value) (h : WrAt W X r S v w) (hc : W.cell? ⟨vb, 0, none⟩ = some (.pointer (some ⟨r, 0, none⟩))) (hvb : ¬ X vb) (hx : opMay ⟨a, b, c⟩ = true) (hS : S.length ≤ 70000) (hd : Sl W Q 4 mv b.length (b.flatMap mvC)) (hq : ∀ g, Q g → ¬ X g) :
    Calls Tryz.prog 70 #[.agg #[.int .i64 a, mv, .int .i64 c], .pointer (some ⟨vb, 0, none⟩)] w (WPost W X r (S ++ opB ⟨a, b, c⟩)) := by
  have hx' := hx
  unfold opMay at hx'
  simp only [Bool.and_eq_true, fitsB_cons] at hx'
  have hbx := cellsAt_new w [.int .i64 a, mv, .int .i64 c] 112
  have hst : Still w (w.alloc (.cells #[.int .i64 a, mv, .int .i64 c] 112)) := (Still.refl w).alloc _
  have hb := (h.still hst).base
  have KEEP := Lib.hid (fun S' v' w' (k : WrAt (w.alloc (.cells #[.int .i64 a, mv, .int .i64 c] 112)) (Its r v) r S' v' w') => show w'.cell? ⟨vb, 0, none⟩ = some (.pointer (some ⟨r, 0, none⟩)) ∧ cellsAt w' w.heap.size [.int .i64 a, mv, .int .i64 c] from
    have c1 := (h.only.cell (World.block_lt_of_cell? _ _ hc) hvb).trans hc
    have c2 := Still.cell hst c1
    ⟨(k.only.cell (World.block_lt_of_cell? _ _ c2) (h.off hvb (World.block_lt_of_cell? _ _ hc))).trans c2, hbx.only k.only fun e => h.apart (Nat.le_refl _) e⟩)
  have HH := Lib.hid (And.intro h (And.intro hst hS))
  have HM := Lib.hid hx'
  have HB := Lib.hid hb
  have hcv := KEEP.out _ _ _ hb
  have c0 := hcv.1
  have HD := Lib.hid (((hd.low.only h.only fun g e => hq g e.1).still hst))
  have HQ := Lib.hid (fun g (e : Q g ∧ g < W.heap.size) => show ¬ Its r v g from h.off (hq g e.1) e.2)
  obtain ⟨ma, mc, rfl⟩ := hd.form
  clear hx hx' h hbx hst hb hcv hc hvb hS hd hq
  go_enter Tryz.func70, Tryz.ntmps70
  go_wp2_with fail
  refine (num1 2 rfl a _ (B := w.heap.size + 1) (by simp) HB.out (by omega) HM.out.1.1.1.1 (by have := HH.out.2.2; omega)).mono ?_
  rintro e w2 ⟨rfl, v2, h2⟩
  have H2 := Lib.hid h2
  have hk2 := KEEP.out _ _ _ h2
  have c0 := hk2.1
  have d0 : w2.cell? ⟨w.heap.size, 0, none⟩ = some (.int .i64 a) := hk2.2.cell 0
  have d1 : w2.cell? ⟨w.heap.size, 1, none⟩ = some (.slice ma b.length mc) := hk2.2.cell 1
  have d2 : w2.cell? ⟨w.heap.size, 2, none⟩ = some (.int .i64 c) := hk2.2.cell 2
  clear h2 hk2
  go_wp2_with fail
  refine (num1 1 rfl c _ rfl H2.out (by omega) HM.out.1.2.1.1 (by have := HH.out.2.2; simp only [List.length_append, numsB_length, List.length_cons, List.length_nil]; omega)).mono ?_
  rintro e w3 ⟨rfl, v3, h3⟩
  have H3 := Lib.hid h3
  have hk3 := KEEP.out _ _ _ h3
  have c0 := hk3.1
  have d0 : w3.cell? ⟨w.heap.size, 0, none⟩ = some (.int .i64 a) := hk3.2.cell 0
  have d1 : w3.cell? ⟨w.heap.size, 1, none⟩ = some (.slice ma b.length mc) := hk3.2.cell 1
  have d2 : w3.cell? ⟨w.heap.size, 2, none⟩ = some (.int .i64 c) := hk3.2.cell 2
  clear h3 hk3
  go_wp2_with fail
  refine (wlist_mv H3.out HD.out HQ.out rfl HM.out.2 (by have := HH.out.2.2; simp only [List.length_append, numsB_length, List.length_cons, List.length_nil]; omega)).mono ?_
  rintro e w4 ⟨rfl, v4, h4⟩
  have F := Lib.hid (show WPost W X r (S ++ opB ⟨a, b, c⟩) (.returned (.tuple #[])) w4 from ⟨rfl, _, by
    have := (HH.out.1.still HH.out.2.1).back h4
    simp only [List.append_assoc] at this
    unfold opB
    simp only [List.append_assoc]
    exact this⟩)
  clear h4 KEEP
  go_wp2_with fail
  go_end0
  exact F.out
end Go.Proofs.YtojkggppcmdepaaGreat

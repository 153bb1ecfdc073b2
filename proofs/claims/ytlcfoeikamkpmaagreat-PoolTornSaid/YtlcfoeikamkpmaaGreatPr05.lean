/- The writer of bytes: lives, dirty pages, units. Conditions: all lies in memory, apart from the writer; what is written may be. The writer of bytes: lists of lives, dirty pages, units. Conditions: all lies in memory, apart from the writer; what is written may be. Which numbers fit. Conditions: they lie in memory. Which numbers, places, moves fit. Conditions: they lie in memory. -/
import Derived.Test.YtlcfoeikamkpmaaGreatPr04
import Derived.Laws.EntriesVeiled
namespace Go.Proofs.YtlcfoeikamkpmaaGreat
open Go.RowKit Go.Wh Go.Maps

set_option maxHeartbeats 2000000 in
theorem wlive_t {W w : World} {X : Nat → Prop} {r vb : Nat} {S : List Int} {v : Value} (a b c : Int) (h : WrAt W X r S v w) (hc : W.cell? ⟨vb, 0, none⟩ = some (.pointer (some ⟨r, 0, none⟩))) (hvb : ¬ X vb) (hx : lvMay ⟨a, b, c, true⟩ = true) (hS : S.length ≤ 70000) :
 Calls Tryz.prog 120 #[.agg #[.int .i64 a, .int .i64 b, .int .i64 c, .bool true], .pointer (some ⟨vb, 0, none⟩)] w (WPost W X r (S ++ lvB ⟨a, b, c, true⟩)) := by
 have hx' := hx
 unfold lvMay at hx'
 simp only [Bool.and_eq_true, fitsB_cons] at hx'
 have hbx := cellsAt_new w [.int .i64 a, .int .i64 b, .int .i64 c, .bool true] 184
 have hst : Still w (w.alloc (.cells #[.int .i64 a, .int .i64 b, .int .i64 c, .bool true] 184)) := (Still.refl w).alloc _
 have hb := (h.still hst).base
 have KEEP := Lib.hid (fun S' v' w' (k : WrAt (w.alloc (.cells #[.int .i64 a, .int .i64 b, .int .i64 c, .bool true] 184)) (Its r v) r S' v' w') => show w'.cell? ⟨vb, 0, none⟩ = some (.pointer (some ⟨r, 0, none⟩)) ∧ cellsAt w' w.heap.size [.int .i64 a, .int .i64 b, .int .i64 c, .bool true] from
  have c1 := (h.only.cell (World.block_lt_of_cell? _ _ hc) hvb).trans hc
  have c2 := Still.cell hst c1
  ⟨(k.only.cell (World.block_lt_of_cell? _ _ c2) (h.off hvb (World.block_lt_of_cell? _ _ hc))).trans c2, hbx.only k.only fun e => h.apart (Nat.le_refl _) e⟩)
 have HH := Lib.hid (And.intro h (And.intro hst hS))
 have HM := Lib.hid hx'
 have HB := Lib.hid hb
 have hcv := KEEP.out _ _ _ hb
 have c0 := hcv.1
 clear hx hx' h hbx hst hb hcv hc hvb hS
 go_enter Tryz.func120, Tryz.ntmps120
 go_wp2_with fail
 refine (num1 1 rfl a _ (B := w.heap.size + 1) (by simp) HB.out (by omega) HM.out.1.1.1 (by have := HH.out.2.2; omega)).mono ?_
 rintro e w2 ⟨rfl, v2, h2⟩
 have H2 := Lib.hid h2
 have hk2 := KEEP.out _ _ _ h2
 have c0 := hk2.1
 have d0 : w2.cell? ⟨w.heap.size, 0, none⟩ = some (.int .i64 a) := hk2.2.cell 0
 have d1 : w2.cell? ⟨w.heap.size, 1, none⟩ = some (.int .i64 b) := hk2.2.cell 1
 have d2 : w2.cell? ⟨w.heap.size, 2, none⟩ = some (.int .i64 c) := hk2.2.cell 2
 have d3 : w2.cell? ⟨w.heap.size, 3, none⟩ = some (.bool true) := hk2.2.cell 3
 clear h2 hk2
 go_wp2_with fail
 refine (num2 3 rfl b c _ rfl H2.out (by omega) HM.out.2.1.1 HM.out.2.2.1.1 (by have := HH.out.2.2; simp only [List.length_append, numsB_length, List.length_cons, List.length_nil]; omega)).mono ?_
 rintro e w3 ⟨rfl, v3, h3⟩
 have H3 := Lib.hid h3
 have hk3 := KEEP.out _ _ _ h3
 have c0 := hk3.1
 have d0 : w3.cell? ⟨w.heap.size, 0, none⟩ = some (.int .i64 a) := hk3.2.cell 0
 have d1 : w3.cell? ⟨w.heap.size, 1, none⟩ = some (.int .i64 b) := hk3.2.cell 1
 have d2 : w3.cell? ⟨w.heap.size, 2, none⟩ = some (.int .i64 c) := hk3.2.cell 2
 have d3 : w3.cell? ⟨w.heap.size, 3, none⟩ = some (.bool true) := hk3.2.cell 3
 clear h3 hk3
 go_wp2_with fail
 refine (num1 1 rfl _ _ rfl H3.out (by omega) (by omega) (by have := HH.out.2.2; simp only [List.length_append, numsB_length, List.length_cons, List.length_nil]; omega)).mono ?_
 rintro e w4 ⟨rfl, v4, h4⟩
 have F := Lib.hid (show WPost W X r (S ++ lvB ⟨a, b, c, true⟩) (.returned (.tuple #[])) w4 from ⟨rfl, _, by
  have := (HH.out.1.still HH.out.2.1).back h4
  simp only [List.append_assoc] at this
  unfold lvB
  simp only [List.append_assoc]
  exact this⟩)
 clear h4 KEEP
 go_wp2_with fail
 go_end0
 exact F.out

set_option maxHeartbeats 2000000 in
theorem wlive_f {W w : World} {X : Nat → Prop} {r vb : Nat} {S : List Int} {v : Value} (a b c : Int) (h : WrAt W X r S v w) (hc : W.cell? ⟨vb, 0, none⟩ = some (.pointer (some ⟨r, 0, none⟩))) (hvb : ¬ X vb) (hx : lvMay ⟨a, b, c, false⟩ = true) (hS : S.length ≤ 70000) :
 Calls Tryz.prog 120 #[.agg #[.int .i64 a, .int .i64 b, .int .i64 c, .bool false], .pointer (some ⟨vb, 0, none⟩)] w (WPost W X r (S ++ lvB ⟨a, b, c, false⟩)) := by
 have hx' := hx
 unfold lvMay at hx'
 simp only [Bool.and_eq_true, fitsB_cons] at hx'
 have hbx := cellsAt_new w [.int .i64 a, .int .i64 b, .int .i64 c, .bool false] 184
 have hst : Still w (w.alloc (.cells #[.int .i64 a, .int .i64 b, .int .i64 c, .bool false] 184)) := (Still.refl w).alloc _
 have hb := (h.still hst).base
 have KEEP := Lib.hid (fun S' v' w' (k : WrAt (w.alloc (.cells #[.int .i64 a, .int .i64 b, .int .i64 c, .bool false] 184)) (Its r v) r S' v' w') => show w'.cell? ⟨vb, 0, none⟩ = some (.pointer (some ⟨r, 0, none⟩)) ∧ cellsAt w' w.heap.size [.int .i64 a, .int .i64 b, .int .i64 c, .bool false] from
  have c1 := (h.only.cell (World.block_lt_of_cell? _ _ hc) hvb).trans hc
  have c2 := Still.cell hst c1
  ⟨(k.only.cell (World.block_lt_of_cell? _ _ c2) (h.off hvb (World.block_lt_of_cell? _ _ hc))).trans c2, hbx.only k.only fun e => h.apart (Nat.le_refl _) e⟩)
 have HH := Lib.hid (And.intro h (And.intro hst hS))
 have HM := Lib.hid hx'
 have HB := Lib.hid hb
 have hcv := KEEP.out _ _ _ hb
 have c0 := hcv.1
 clear hx hx' h hbx hst hb hcv hc hvb hS
 go_enter Tryz.func120, Tryz.ntmps120
 go_wp2_with fail
 refine (num1 1 rfl a _ (B := w.heap.size + 1) (by simp) HB.out (by omega) HM.out.1.1.1 (by have := HH.out.2.2; omega)).mono ?_
 rintro e w2 ⟨rfl, v2, h2⟩
 have H2 := Lib.hid h2
 have hk2 := KEEP.out _ _ _ h2
 have c0 := hk2.1
 have d0 : w2.cell? ⟨w.heap.size, 0, none⟩ = some (.int .i64 a) := hk2.2.cell 0
 have d1 : w2.cell? ⟨w.heap.size, 1, none⟩ = some (.int .i64 b) := hk2.2.cell 1
 have d2 : w2.cell? ⟨w.heap.size, 2, none⟩ = some (.int .i64 c) := hk2.2.cell 2
 have d3 : w2.cell? ⟨w.heap.size, 3, none⟩ = some (.bool false) := hk2.2.cell 3
 clear h2 hk2
 go_wp2_with fail
 refine (num2 3 rfl b c _ rfl H2.out (by omega) HM.out.2.1.1 HM.out.2.2.1.1 (by have := HH.out.2.2; simp only [List.length_append, numsB_length, List.length_cons, List.length_nil]; omega)).mono ?_
 rintro e w3 ⟨rfl, v3, h3⟩
 have H3 := Lib.hid h3
 have hk3 := KEEP.out _ _ _ h3
 have c0 := hk3.1
 have d0 : w3.cell? ⟨w.heap.size, 0, none⟩ = some (.int .i64 a) := hk3.2.cell 0
 have d1 : w3.cell? ⟨w.heap.size, 1, none⟩ = some (.int .i64 b) := hk3.2.cell 1
 have d2 : w3.cell? ⟨w.heap.size, 2, none⟩ = some (.int .i64 c) := hk3.2.cell 2
 have d3 : w3.cell? ⟨w.heap.size, 3, none⟩ = some (.bool false) := hk3.2.cell 3
 clear h3 hk3
 go_wp2_with fail
 refine (num1 1 rfl _ _ rfl H3.out (by omega) (by omega) (by have := HH.out.2.2; simp only [List.length_append, numsB_length, List.length_cons, List.length_nil]; omega)).mono ?_
 rintro e w4 ⟨rfl, v4, h4⟩
 have F := Lib.hid (show WPost W X r (S ++ lvB ⟨a, b, c, false⟩) (.returned (.tuple #[])) w4 from ⟨rfl, _, by
  have := (HH.out.1.still HH.out.2.1).back h4
  simp only [List.append_assoc] at this
  unfold lvB
  simp only [List.append_assoc]
  exact this⟩)
 clear h4 KEEP
 go_wp2_with fail
 go_end0
 exact F.out

set_option maxHeartbeats 2000000 in
theorem wdirty_any {W w : World} {X : Nat → Prop} {r vb : Nat} {S : List Int} {v : Value} (a b : Int) (h : WrAt W X r S v w) (hc : W.cell? ⟨vb, 0, none⟩ = some (.pointer (some ⟨r, 0, none⟩))) (hvb : ¬ X vb) (hx : dtMay ⟨a, b⟩ = true) (hS : S.length ≤ 70000) :
 Calls Tryz.prog 122 #[.agg #[.int .i64 a, .int .i64 b], .pointer (some ⟨vb, 0, none⟩)] w (WPost W X r (S ++ dtB ⟨a, b⟩)) := by
 have hx' := hx
 unfold dtMay at hx'
 simp only [Bool.and_eq_true, fitsB_cons] at hx'
 have hbx := cellsAt_new w [.int .i64 a, .int .i64 b] 49
 have hst : Still w (w.alloc (.cells #[.int .i64 a, .int .i64 b] 49)) := (Still.refl w).alloc _
 have hb := (h.still hst).base
 have KEEP := Lib.hid (fun S' v' w' (k : WrAt (w.alloc (.cells #[.int .i64 a, .int .i64 b] 49)) (Its r v) r S' v' w') => show w'.cell? ⟨vb, 0, none⟩ = some (.pointer (some ⟨r, 0, none⟩)) ∧ cellsAt w' w.heap.size [.int .i64 a, .int .i64 b] from
  have c1 := (h.only.cell (World.block_lt_of_cell? _ _ hc) hvb).trans hc
  have c2 := Still.cell hst c1
  ⟨(k.only.cell (World.block_lt_of_cell? _ _ c2) (h.off hvb (World.block_lt_of_cell? _ _ hc))).trans c2, hbx.only k.only fun e => h.apart (Nat.le_refl _) e⟩)
 have HH := Lib.hid (And.intro h (And.intro hst hS))
 have HM := Lib.hid hx'
 have HB := Lib.hid hb
 have hcv := KEEP.out _ _ _ hb
 have c0 := hcv.1
 clear hx hx' h hbx hst hb hcv hc hvb hS
 go_enter Tryz.func122, Tryz.ntmps122
 go_wp2_with fail
 refine (num1 1 rfl a _ (B := w.heap.size + 1) (by simp) HB.out (by omega) HM.out.1.1.1 (by have := HH.out.2.2; omega)).mono ?_
 rintro e w2 ⟨rfl, v2, h2⟩
 have H2 := Lib.hid h2
 have hk2 := KEEP.out _ _ _ h2
 have c0 := hk2.1
 have d0 : w2.cell? ⟨w.heap.size, 0, none⟩ = some (.int .i64 a) := hk2.2.cell 0
 have d1 : w2.cell? ⟨w.heap.size, 1, none⟩ = some (.int .i64 b) := hk2.2.cell 1
 clear h2 hk2
 go_wp2_with fail
 refine (num1 3 rfl b _ rfl H2.out (by omega) HM.out.2.1.1 (by have := HH.out.2.2; simp only [List.length_append, numsB_length, List.length_cons, List.length_nil]; omega)).mono ?_
 rintro e w3 ⟨rfl, v3, h3⟩
 have F := Lib.hid (show WPost W X r (S ++ dtB ⟨a, b⟩) (.returned (.tuple #[])) w3 from ⟨rfl, _, by
  have := (HH.out.1.still HH.out.2.1).back h3
  simp only [List.append_assoc] at this
  unfold dtB
  exact this⟩)
 clear h3 KEEP
 go_wp2_with fail
 go_end0
 exact F.out

set_option maxHeartbeats 2000000 in
theorem wopen_any {W w : World} {X Q : Nat → Prop} {r vb : Nat} {S : List Int} {v : Value} (a : Int) (b : List PMv) (c : Int) (mv : Value) (h : WrAt W X r S v w) (hc : W.cell? ⟨vb, 0, none⟩ = some (.pointer (some ⟨r, 0, none⟩))) (hvb : ¬ X vb) (hx : opMay ⟨a, b, c⟩ = true) (hS : S.length ≤ 70000) (hd : Sl W Q 4 mv b.length (b.flatMap mvC)) (hq : ∀ g, Q g → ¬ X g) :
 Calls Tryz.prog 124 #[.agg #[.int .i64 a, mv, .int .i64 c], .pointer (some ⟨vb, 0, none⟩)] w (WPost W X r (S ++ opB ⟨a, b, c⟩)) := by
 have hx' := hx
 unfold opMay at hx'
 simp only [Bool.and_eq_true, fitsB_cons] at hx'
 have hbx := cellsAt_new w [.int .i64 a, mv, .int .i64 c] 190
 have hst : Still w (w.alloc (.cells #[.int .i64 a, mv, .int .i64 c] 190)) := (Still.refl w).alloc _
 have hb := (h.still hst).base
 have KEEP := Lib.hid (fun S' v' w' (k : WrAt (w.alloc (.cells #[.int .i64 a, mv, .int .i64 c] 190)) (Its r v) r S' v' w') => show w'.cell? ⟨vb, 0, none⟩ = some (.pointer (some ⟨r, 0, none⟩)) ∧ cellsAt w' w.heap.size [.int .i64 a, mv, .int .i64 c] from
  have c1 := (h.only.cell (World.block_lt_of_cell? _ _ hc) hvb).trans hc
  have c2 := Still.cell hst c1
  ⟨(k.only.cell (World.block_lt_of_cell? _ _ c2) (h.off hvb (World.block_lt_of_cell? _ _ hc))).trans c2, hbx.only k.only fun e => h.apart (Nat.le_refl _) e⟩)
 have HH := Lib.hid (And.intro h (And.intro hst hS))
 have HM := Lib.hid hx'
 have HB := Lib.hid hb
 have hcv := KEEP.out _ _ _ hb
 have c0 := hcv.1
 have HD := Lib.hid (((hd.low.only h.only fun g e => hq g e.1).still hst))
 have HQ := Lib.hid (fun g (e : Q g ∧ g < W.heap.size) => show ¬ Its r v g from h.off (hq g e.1) e.2)
 obtain ⟨ma, mc, rfl⟩ := hd.form
 clear hx hx' h hbx hst hb hcv hc hvb hS hd hq
 go_enter Tryz.func124, Tryz.ntmps124
 go_wp2_with fail
 refine (num1 2 rfl a _ (B := w.heap.size + 1) (by simp) HB.out (by omega) HM.out.1.1.1.1 (by have := HH.out.2.2; omega)).mono ?_
 rintro e w2 ⟨rfl, v2, h2⟩
 have H2 := Lib.hid h2
 have hk2 := KEEP.out _ _ _ h2
 have c0 := hk2.1
 have d0 : w2.cell? ⟨w.heap.size, 0, none⟩ = some (.int .i64 a) := hk2.2.cell 0
 have d1 : w2.cell? ⟨w.heap.size, 1, none⟩ = some (.slice ma b.length mc) := hk2.2.cell 1
 have d2 : w2.cell? ⟨w.heap.size, 2, none⟩ = some (.int .i64 c) := hk2.2.cell 2
 clear h2 hk2
 go_wp2_with fail
 refine (num1 1 rfl c _ rfl H2.out (by omega) HM.out.1.2.1.1 (by have := HH.out.2.2; simp only [List.length_append, numsB_length, List.length_cons, List.length_nil]; omega)).mono ?_
 rintro e w3 ⟨rfl, v3, h3⟩
 have H3 := Lib.hid h3
 have hk3 := KEEP.out _ _ _ h3
 have c0 := hk3.1
 have d0 : w3.cell? ⟨w.heap.size, 0, none⟩ = some (.int .i64 a) := hk3.2.cell 0
 have d1 : w3.cell? ⟨w.heap.size, 1, none⟩ = some (.slice ma b.length mc) := hk3.2.cell 1
 have d2 : w3.cell? ⟨w.heap.size, 2, none⟩ = some (.int .i64 c) := hk3.2.cell 2
 clear h3 hk3
 go_wp2_with fail
 refine (wlist_mv H3.out HD.out HQ.out rfl HM.out.2 (by have := HH.out.2.2; simp only [List.length_append, numsB_length, List.length_cons, List.length_nil]; omega)).mono ?_
 rintro e w4 ⟨rfl, v4, h4⟩
 have F := Lib.hid (show WPost W X r (S ++ opB ⟨a, b, c⟩) (.returned (.tuple #[])) w4 from ⟨rfl, _, by
  have := (HH.out.1.still HH.out.2.1).back h4
  simp only [List.append_assoc] at this
  unfold opB
  simp only [List.append_assoc]
  exact this⟩)
 clear h4 KEEP
 go_wp2_with fail
 go_end0
 exact F.out
end Go.Proofs.YtlcfoeikamkpmaaGreat

namespace Go.Proofs.YtlcfoeikamkpmaaGreat
open Go.RowKit Go.Wh Go.Maps

theorem wlive_any {W w : World} {X : Nat → Prop} {r vb : Nat} {S : List Int} {v : Value} (x : PLv) (h : WrAt W X r S v w) (hc : W.cell? ⟨vb, 0, none⟩ = some (.pointer (some ⟨r, 0, none⟩))) (hvb : ¬ X vb) (hx : lvMay x = true) (hS : S.length ≤ 70000) :
 Calls Tryz.prog 120 #[.agg #[.int .i64 x.txn, .int .i64 x.last, .int .i64 x.next, .bool x.commit], .pointer (some ⟨vb, 0, none⟩)] w (WPost W X r (S ++ lvB x)) := by
 obtain ⟨a, b, c, d⟩ := x
 cases d
 · exact wlive_f a b c h hc hvb hx hS
 · exact wlive_t a b c h hc hvb hx hS
theorem wdirty_x {W w : World} {X : Nat → Prop} {r vb : Nat} {S : List Int} {v : Value} (x : PDt) (h : WrAt W X r S v w) (hc : W.cell? ⟨vb, 0, none⟩ = some (.pointer (some ⟨r, 0, none⟩))) (hvb : ¬ X vb) (hx : dtMay x = true) (hS : S.length ≤ 70000) :
 Calls Tryz.prog 122 #[.agg #[.int .i64 x.page, .int .i64 x.rc], .pointer (some ⟨vb, 0, none⟩)] w (WPost W X r (S ++ dtB x)) := wdirty_any x.page x.rc h hc hvb hx hS
theorem wopen_x {W w : World} {X Q : Nat → Prop} {r vb : Nat} {S : List Int} {v : Value} (x : POp) (mv : Value) (h : WrAt W X r S v w) (hc : W.cell? ⟨vb, 0, none⟩ = some (.pointer (some ⟨r, 0, none⟩))) (hvb : ¬ X vb) (hx : opMay x = true) (hS : S.length ≤ 70000) (hd : Sl W Q 4 mv x.moves.length (x.moves.flatMap mvC)) (hq : ∀ g, Q g → ¬ X g) :
 Calls Tryz.prog 124 #[.agg #[.int .i64 x.unit, mv, .int .i64 x.done], .pointer (some ⟨vb, 0, none⟩)] w (WPost W X r (S ++ opB x)) := wopen_any x.unit x.moves x.done mv h hc hvb hx hS hd hq
set_option maxHeartbeats 1000000 in
theorem wlist_lv {W w : World} {X Q : Nat → Prop} {r vb : Nat} {S : List Int} {v dv : Value} {m : Nat} {l : List PLv} (h : WrAt W X r S v w) (hd : Sl W Q 4 dv m (l.flatMap lvC)) (hq : ∀ g, Q g → ¬ X g) (hc : W.cell? ⟨vb, 0, none⟩ = some (.pointer (some ⟨r, 0, none⟩))) (hvb : ¬ X vb) (hl : l.length = m) (hp : eachB lvMay l = true) (hS : S.length ≤ 60000) :
 Calls Tryz.prog 119 #[.pointer (some ⟨r, 0, none⟩), dv, .func (.func 120) #[] #[.pointer (some ⟨vb, 0, none⟩)]] w (WPost W X r (S ++ listB lvB l)) := by
 have hm := (eachB_len hp).1
 have H := Lib.hid (And.intro h (And.intro hd (And.intro hl (And.intro (eachB_len hp) hS))))
 have HQ := Lib.hid hq
 have HC := Lib.hid (And.intro hc hvb)
 have HN := Lib.hid (fun tt => num1 (W := W) (X := X) 1 rfl (m : Int) tt rfl h (by omega) (by omega) (by omega))
 obtain ⟨da, dc, rfl⟩ := hd.form
 clear h hd hq hp hS hl hm hc hvb
 go_enter Tryz.func119, Tryz.ntmps119
 go_wp2_with fail
 refine (HN.out _).mono ?_
 rintro e w2 ⟨rfl, v2, h2⟩
 have HST := Lib.hid (show LsRel W X r (S ++ listB lvB l) ((l.drop 0).flatMap lvB) (60100 + 0 * 164) w2 from ⟨v2, _, h2, by
  unfold listB
  rw [H.out.2.2.1, List.append_assoc]
  rfl, by rw [List.length_append, numsB_length]; simp only [List.length_cons, List.length_nil]; have := H.out.2.2.2.2; omega⟩)
 clear HN h2
 go_wp2_with fail
 go_loopw [15] (fun s wr => ∃ k : Nat, s = .int .i64 k ∧ k ≤ m ∧ LsRel W X r (S ++ listB lvB l) ((l.drop k).flatMap lvB) (60100 + k * 164) wr) (fun s _ => m - (intOf s).toNat)
 case atStart => exact ⟨0, rfl, Nat.zero_le _, HST.out⟩
 case round =>
  clear HST
  obtain ⟨k, rfl, hk, v3, pre, h3, hpre, hlen⟩ := hrel
  by_cases hi : k < m
  · obtain ⟨x, hx⟩ : ∃ x, l[k]? = some x := ⟨_, List.getElem?_eq_getElem (by have := H.out.2.2.1; omega)⟩
    have hd3 := H.out.2.1.only h3.only HQ.out
    obtain ⟨g, o, c, hg, hgq, hgl, hcs⟩ := hd3.pos (by omega)
    cases hg
    have hfc : ∀ j, j < 4 → (l.flatMap lvC)[k * 4 + j]? = (lvC x)[j]? := fun j hj => flat_get (sz := 4) (fun _ => rfl) l k j x hx hj
    have c0 : wr.cell? ⟨g, o + k * 4, none⟩ = some (.int .i64 x.txn) := hcs (k * 4) _ (hfc 0 (by omega))
    have c1 : wr.cell? ⟨g, o + k * 4 + 1, none⟩ = some (.int .i64 x.last) := by rw [Nat.add_assoc]; exact hcs (k * 4 + 1) _ (hfc 1 (by omega))
    have c2 : wr.cell? ⟨g, o + k * 4 + 2, none⟩ = some (.int .i64 x.next) := by rw [Nat.add_assoc]; exact hcs (k * 4 + 2) _ (hfc 2 (by omega))
    have c3 : wr.cell? ⟨g, o + k * 4 + 3, none⟩ = some (.bool x.commit) := by rw [Nat.add_assoc]; exact hcs (k * 4 + 3) _ (hfc 3 (by omega))
    have b1 : decide ((k : Int) < (m : Int)) = true := by simp; omega
    have b2 : decide (k < m) = true := by simp; omega
    have b3 : (0 : Int) ≤ (k : Int) := by omega
    have hk40 : k < 40 := by have := H.out.2.2.2.1.1; have := H.out.2.2.1; omega
    have b4 : (k : Int) < (m : Int) := by omega
    have H3 := Lib.hid (And.intro h3 (And.intro hpre hlen))
    clear h3 hpre hlen hfc hcs hd3 hgq hgl
    go_wp2_with fail
    have HX := Lib.hid (And.intro hx (H.out.2.2.2.1.2 x (List.mem_of_getElem? hx)))
    refine (wlive_any x ( H3.out.1.still ((Still.refl _).alloc _)) HC.out.1 HC.out.2 HX.out.2 (by have := H3.out.2.2; have := H.out; omega)).mono ?_
    rintro e w4 ⟨rfl, v4, h4⟩
    have HNX := Lib.hid (show LsRel W X r (S ++ listB lvB l) ((l.drop (k + 1)).flatMap lvB) (60100 + (k + 1) * 164) w4 from ⟨v4, _, h4, by
     rw [List.append_assoc, ← H3.out.2.1, List.drop_eq_getElem_cons (show k < l.length by have := H.out.2.2.1; omega), show l[k]'(by have := H.out.2.2.1; omega) = x from (List.getElem?_eq_some_iff.1 HX.out.1).2, List.flatMap_cons], by
     have h4l : (lvB x).length ≤ 164 := by simp [lvB, numsB_length]
     rw [List.length_append]; have := H3.out.2.2; omega⟩)
    clear h4 hx c0 c1 c2 c3
    have u9 : IntKind.i64.wrap ((k : Int) + 1) = (k : Int) + 1 := IntWalk.i64_in _ (by have := H.out.2.2.2.1.1; have := H.out.2.2.1; omega)
    go_wp2_with fail
    go_roundw
    case rel => exact ⟨k + 1, by go_num, by omega, HNX.out⟩
    case measure => simp [intOf]; omega
  · have hke : k = m := by omega
    subst hke
    have b1 : decide ((k : Int) < (k : Int)) = false := by simp
    have F := Lib.hid (show WPost W X r (S ++ listB lvB l) (.returned (.tuple #[])) wr from by
     rw [List.drop_eq_nil_of_le (by have := H.out.2.2.1; omega), List.flatMap_nil, List.append_nil] at hpre
     rw [← hpre]
     exact ⟨rfl, v3, h3⟩)
    clear h3 hpre
    go_wp2_with fail
    go_end0
    exact F.out
set_option maxHeartbeats 1000000 in
theorem wlist_dt {W w : World} {X Q : Nat → Prop} {r vb : Nat} {S : List Int} {v dv : Value} {m : Nat} {l : List PDt} (h : WrAt W X r S v w) (hd : Sl W Q 2 dv m (l.flatMap dtC)) (hq : ∀ g, Q g → ¬ X g) (hc : W.cell? ⟨vb, 0, none⟩ = some (.pointer (some ⟨r, 0, none⟩))) (hvb : ¬ X vb) (hl : l.length = m) (hp : eachB dtMay l = true) (hS : S.length ≤ 60000) :
 Calls Tryz.prog 121 #[.pointer (some ⟨r, 0, none⟩), dv, .func (.func 122) #[] #[.pointer (some ⟨vb, 0, none⟩)]] w (WPost W X r (S ++ listB dtB l)) := by
 have hm := (eachB_len hp).1
 have H := Lib.hid (And.intro h (And.intro hd (And.intro hl (And.intro (eachB_len hp) hS))))
 have HQ := Lib.hid hq
 have HC := Lib.hid (And.intro hc hvb)
 have HN := Lib.hid (fun tt => num1 (W := W) (X := X) 1 rfl (m : Int) tt rfl h (by omega) (by omega) (by omega))
 obtain ⟨da, dc, rfl⟩ := hd.form
 clear h hd hq hp hS hl hm hc hvb
 go_enter Tryz.func121, Tryz.ntmps121
 go_wp2_with fail
 refine (HN.out _).mono ?_
 rintro e w2 ⟨rfl, v2, h2⟩
 have HST := Lib.hid (show LsRel W X r (S ++ listB dtB l) ((l.drop 0).flatMap dtB) (60100 + 0 * 164) w2 from ⟨v2, _, h2, by
  unfold listB
  rw [H.out.2.2.1, List.append_assoc]
  rfl, by rw [List.length_append, numsB_length]; simp only [List.length_cons, List.length_nil]; have := H.out.2.2.2.2; omega⟩)
 clear HN h2
 go_wp2_with fail
 go_loopw [15] (fun s wr => ∃ k : Nat, s = .int .i64 k ∧ k ≤ m ∧ LsRel W X r (S ++ listB dtB l) ((l.drop k).flatMap dtB) (60100 + k * 164) wr) (fun s _ => m - (intOf s).toNat)
 case atStart => exact ⟨0, rfl, Nat.zero_le _, HST.out⟩
 case round =>
  clear HST
  obtain ⟨k, rfl, hk, v3, pre, h3, hpre, hlen⟩ := hrel
  by_cases hi : k < m
  · obtain ⟨x, hx⟩ : ∃ x, l[k]? = some x := ⟨_, List.getElem?_eq_getElem (by have := H.out.2.2.1; omega)⟩
    have hd3 := H.out.2.1.only h3.only HQ.out
    obtain ⟨g, o, c, hg, hgq, hgl, hcs⟩ := hd3.pos (by omega)
    cases hg
    have hfc : ∀ j, j < 2 → (l.flatMap dtC)[k * 2 + j]? = (dtC x)[j]? := fun j hj => flat_get (sz := 2) (fun _ => rfl) l k j x hx hj
    have c0 : wr.cell? ⟨g, o + k * 2, none⟩ = some (.int .i64 x.page) := hcs (k * 2) _ (hfc 0 (by omega))
    have c1 : wr.cell? ⟨g, o + k * 2 + 1, none⟩ = some (.int .i64 x.rc) := by rw [Nat.add_assoc]; exact hcs (k * 2 + 1) _ (hfc 1 (by omega))
    have b1 : decide ((k : Int) < (m : Int)) = true := by simp; omega
    have b2 : decide (k < m) = true := by simp; omega
    have b3 : (0 : Int) ≤ (k : Int) := by omega
    have hk40 : k < 40 := by have := H.out.2.2.2.1.1; have := H.out.2.2.1; omega
    have b4 : (k : Int) < (m : Int) := by omega
    have H3 := Lib.hid (And.intro h3 (And.intro hpre hlen))
    clear h3 hpre hlen hfc hcs hd3 hgq hgl
    go_wp2_with fail
    have HX := Lib.hid (And.intro hx (H.out.2.2.2.1.2 x (List.mem_of_getElem? hx)))
    refine (wdirty_x x ( H3.out.1.still ((Still.refl _).alloc _)) HC.out.1 HC.out.2 HX.out.2 (by have := H3.out.2.2; have := H.out; omega)).mono ?_
    rintro e w4 ⟨rfl, v4, h4⟩
    have HNX := Lib.hid (show LsRel W X r (S ++ listB dtB l) ((l.drop (k + 1)).flatMap dtB) (60100 + (k + 1) * 164) w4 from ⟨v4, _, h4, by
     rw [List.append_assoc, ← H3.out.2.1, List.drop_eq_getElem_cons (show k < l.length by have := H.out.2.2.1; omega), show l[k]'(by have := H.out.2.2.1; omega) = x from (List.getElem?_eq_some_iff.1 HX.out.1).2, List.flatMap_cons], by
     have h4l : (dtB x).length ≤ 164 := by simp [dtB, numsB_length]
     rw [List.length_append]; have := H3.out.2.2; omega⟩)
    clear h4 hx c0 c1
    have u9 : IntKind.i64.wrap ((k : Int) + 1) = (k : Int) + 1 := IntWalk.i64_in _ (by have := H.out.2.2.2.1.1; have := H.out.2.2.1; omega)
    go_wp2_with fail
    go_roundw
    case rel => exact ⟨k + 1, by go_num, by omega, HNX.out⟩
    case measure => simp [intOf]; omega
  · have hke : k = m := by omega
    subst hke
    have b1 : decide ((k : Int) < (k : Int)) = false := by simp
    have F := Lib.hid (show WPost W X r (S ++ listB dtB l) (.returned (.tuple #[])) wr from by
     rw [List.drop_eq_nil_of_le (by have := H.out.2.2.1; omega), List.flatMap_nil, List.append_nil] at hpre
     rw [← hpre]
     exact ⟨rfl, v3, h3⟩)
    clear h3 hpre
    go_wp2_with fail
    go_end0
    exact F.out

def opC (p : POp × Value) : List Value := [.int .i64 p.1.unit, p.2, .int .i64 p.1.done]
def OpSl (w : World) (Q : Nat → Prop) (dv : Value) (m : Nat) (l : List POp) : Prop :=
 ∃ mvs : List Value, mvs.length = l.length ∧ Sl w Q 3 dv m ((l.zip mvs).flatMap opC) ∧ ∀ (k : Nat) (o : POp) (mv : Value), l[k]? = some o → mvs[k]? = some mv → Sl w Q 4 mv o.moves.length (o.moves.flatMap mvC)
theorem OpSl.only {w w' : World} {Q X : Nat → Prop} {dv : Value} {m : Nat} {l : List POp} (h : OpSl w Q dv m l) (ho : Only X w w') (hq : ∀ g, Q g → ¬ X g) : OpSl w' Q dv m l := by
 obtain ⟨mvs, h1, h2, h3⟩ := h
 exact ⟨mvs, h1, h2.only ho hq, fun k o mv hk hm => (h3 k o mv hk hm).only ho hq⟩
theorem OpSl.nil {w : World} {Q : Nat → Prop} : OpSl w Q (.slice none 0 0) 0 [] := ⟨[], rfl, Sl.nil, fun k o mv hk _ => by simp at hk⟩
theorem opB_le (x : POp) (hx : opMay x = true) : (opB x).length ≤ 164 := by
 unfold opMay at hx
 simp only [Bool.and_eq_true] at hx
 have := listB_le mvB 4 x.moves hx.2 fun x _ => by simp [mvB, numsB_length]
 simp only [opB, List.length_append, numsB_length, List.length_cons, List.length_nil]
 omega
set_option maxHeartbeats 1000000 in
theorem wlist_op {W w : World} {X Q : Nat → Prop} {r vb : Nat} {S : List Int} {v dv : Value} {m : Nat} {l : List POp} (h : WrAt W X r S v w) (hd : OpSl W Q dv m l) (hq : ∀ g, Q g → ¬ X g) (hc : W.cell? ⟨vb, 0, none⟩ = some (.pointer (some ⟨r, 0, none⟩))) (hvb : ¬ X vb) (hl : l.length = m) (hp : eachB opMay l = true) (hS : S.length ≤ 60000) :
 Calls Tryz.prog 123 #[.pointer (some ⟨r, 0, none⟩), dv, .func (.func 124) #[] #[.pointer (some ⟨vb, 0, none⟩)]] w (WPost W X r (S ++ listB opB l)) := by
 have hm := (eachB_len hp).1
 obtain ⟨mvs, hml, hd, hmv⟩ := hd
 have HMS := Lib.hid (And.intro hml hmv)
 have H := Lib.hid (And.intro h (And.intro hd (And.intro hl (And.intro (eachB_len hp) hS))))
 have HQ := Lib.hid hq
 have HC := Lib.hid (And.intro hc hvb)
 have HN := Lib.hid (fun tt => num1 (W := W) (X := X) 1 rfl (m : Int) tt rfl h (by omega) (by omega) (by omega))
 obtain ⟨da, dc, rfl⟩ := hd.form
 clear h hd hq hp hS hl hm hc hvb hml hmv
 go_enter Tryz.func123, Tryz.ntmps123
 go_wp2_with fail
 refine (HN.out _).mono ?_
 rintro e w2 ⟨rfl, v2, h2⟩
 have HST := Lib.hid (show LsRel W X r (S ++ listB opB l) ((l.drop 0).flatMap opB) (60100 + 0 * 164) w2 from ⟨v2, _, h2, by
  unfold listB
  rw [H.out.2.2.1, List.append_assoc]
  rfl, by rw [List.length_append, numsB_length]; simp only [List.length_cons, List.length_nil]; have := H.out.2.2.2.2; omega⟩)
 clear HN h2
 go_wp2_with fail
 go_loopw [15] (fun s wr => ∃ k : Nat, s = .int .i64 k ∧ k ≤ m ∧ LsRel W X r (S ++ listB opB l) ((l.drop k).flatMap opB) (60100 + k * 164) wr) (fun s _ => m - (intOf s).toNat)
 case atStart => exact ⟨0, rfl, Nat.zero_le _, HST.out⟩
 case round =>
  clear HST
  obtain ⟨k, rfl, hk, v3, pre, h3, hpre, hlen⟩ := hrel
  by_cases hi : k < m
  · obtain ⟨x, hx⟩ : ∃ x, l[k]? = some x := ⟨_, List.getElem?_eq_getElem (by have := H.out.2.2.1; omega)⟩
    obtain ⟨mv, hmx⟩ : ∃ mv, mvs[k]? = some mv := ⟨_, List.getElem?_eq_getElem (by have := H.out.2.2.1; have := HMS.out.1; omega)⟩
    have HMV := Lib.hid (HMS.out.2 k x mv hx hmx)
    have hmf := HMV.out.form
    have hd3 := H.out.2.1.only h3.only HQ.out
    obtain ⟨g, o, c, hg, hgq, hgl, hcs⟩ := hd3.pos (by omega)
    cases hg
    have hfc : ∀ j, j < 3 → ((l.zip mvs).flatMap opC)[k * 3 + j]? = (opC (x, mv))[j]? := fun j hj => flat_get (sz := 3) (fun _ => rfl) (l.zip mvs) k j (x, mv) (by rw [List.getElem?_zip_eq_some]; exact ⟨hx, hmx⟩) hj
    obtain ⟨ma, mc, rfl⟩ := hmf
    have c0 : wr.cell? ⟨g, o + k * 3, none⟩ = some (.int .i64 x.unit) := hcs (k * 3) _ (hfc 0 (by omega))
    have c1 : wr.cell? ⟨g, o + k * 3 + 1, none⟩ = some (.slice ma x.moves.length mc) := by rw [Nat.add_assoc]; exact hcs (k * 3 + 1) _ (hfc 1 (by omega))
    have c2 : wr.cell? ⟨g, o + k * 3 + 2, none⟩ = some (.int .i64 x.done) := by rw [Nat.add_assoc]; exact hcs (k * 3 + 2) _ (hfc 2 (by omega))
    have b1 : decide ((k : Int) < (m : Int)) = true := by simp; omega
    have b2 : decide (k < m) = true := by simp; omega
    have b3 : (0 : Int) ≤ (k : Int) := by omega
    have hk40 : k < 40 := by have := H.out.2.2.2.1.1; have := H.out.2.2.1; omega
    have b4 : (k : Int) < (m : Int) := by omega
    have H3 := Lib.hid (And.intro h3 (And.intro hpre hlen))
    clear h3 hpre hlen hfc hcs hd3 hgq hgl hmx
    go_wp2_with fail
    have HX := Lib.hid (And.intro hx (H.out.2.2.2.1.2 x (List.mem_of_getElem? hx)))
    refine (wopen_x x (.slice ma x.moves.length mc) (H3.out.1.still ((Still.refl _).alloc _)) HC.out.1 HC.out.2 HX.out.2 (by have := H3.out.2.2; have := H.out; omega) HMV.out HQ.out).mono ?_
    rintro e w4 ⟨rfl, v4, h4⟩
    have HNX := Lib.hid (show LsRel W X r (S ++ listB opB l) ((l.drop (k + 1)).flatMap opB) (60100 + (k + 1) * 164) w4 from ⟨v4, _, h4, by
     rw [List.append_assoc, ← H3.out.2.1, List.drop_eq_getElem_cons (show k < l.length by have := H.out.2.2.1; omega), show l[k]'(by have := H.out.2.2.1; omega) = x from (List.getElem?_eq_some_iff.1 HX.out.1).2, List.flatMap_cons], by
     have h4l : (opB x).length ≤ 164 := opB_le x HX.out.2
     rw [List.length_append]; have := H3.out.2.2; omega⟩)
    clear h4 hx c0 c1 c2
    have u9 : IntKind.i64.wrap ((k : Int) + 1) = (k : Int) + 1 := IntWalk.i64_in _ (by have := H.out.2.2.2.1.1; have := H.out.2.2.1; omega)
    go_wp2_with fail
    go_roundw
    case rel => exact ⟨k + 1, by go_num, by omega, HNX.out⟩
    case measure => simp [intOf]; omega
  · have hke : k = m := by omega
    subst hke
    have b1 : decide ((k : Int) < (k : Int)) = false := by simp
    have F := Lib.hid (show WPost W X r (S ++ listB opB l) (.returned (.tuple #[])) wr from by
     rw [List.drop_eq_nil_of_le (by have := H.out.2.2.1; omega), List.flatMap_nil, List.append_nil] at hpre
     rw [← hpre]
     exact ⟨rfl, v3, h3⟩)
    clear h3 hpre
    go_wp2_with fail
    go_end0
    exact F.out
end Go.Proofs.YtlcfoeikamkpmaaGreat

namespace Go.Proofs.YtlcfoeikamkpmaaGreat
open Go.RowKit Go.Wh Go.Maps

def fit1 (n : Nat) (v : Int) : Bool := decide (0 ≤ v) && decide (v < 256 ^ n)
theorem fitsB_all (n : Nat) (l : List Int) : fitsB n l = l.all (fit1 n) := rfl
theorem fit_shr (n : Nat) (v : Int) (h : 0 ≤ v) : (v / 2 ^ (8 * n) != 0) = !fit1 n v := by
 rw [Int.pow_mul]
 have e2 : (2 : Int) ^ 8 = 256 := rfl
 rw [e2]
 have hpos : (0 : Int) < 256 ^ n := Int.pow_pos (by decide)
 unfold fit1
 rw [decide_eq_true h, Bool.true_and]
 by_cases hv : v < 256 ^ n
 · rw [decide_eq_true hv, Int.ediv_eq_zero_of_lt h hv]
   rfl
 · rw [decide_eq_false hv]
   have : 1 ≤ v / 256 ^ n := Int.le_ediv_of_mul_le hpos (by omega)
   simp
   omega
set_option maxHeartbeats 1000000 in
theorem fits1_any (w : World) (nb : Nat) (n : Nat) (v : Int) (hc : w.cell? ⟨nb, 0, none⟩ = some (.int .i64 n)) (hn : n ≤ 3) :
 Calls Tryz.prog 175 #[.int .i64 v, .pointer (some ⟨nb, 0, none⟩)] w (SamePost w (.bool (!fit1 n v))) := by
 have u8 : IntKind.i64.wrap (8 * (n : Int)) = 8 * (n : Int) := IntWalk.i64_in _ (by omega)
 have s0 : (0 : Int) ≤ 8 * (n : Int) := by omega
 have s1 : 8 * (n : Int) < 64 := by omega
 by_cases h : v < 0
 · have d1 : decide (v < 0) = true := decide_eq_true h
   have F := Lib.hid (show SamePost w (.bool (!fit1 n v)) (.returned (.bool true)) w from by
    have : fit1 n v = false := by unfold fit1; rw [decide_eq_false (by omega), Bool.false_and]
    rw [this]
    exact ⟨rfl, rfl⟩)
   clear h
   go_enter Tryz.func175, Tryz.ntmps175
   go_wp2_with fail
   go_ret
   exact F.out
 · have d1 : decide (v < 0) = false := decide_eq_false h
   have hs := fit_shr n v (by omega)
   obtain ⟨q, hq⟩ : ∃ q, (!fit1 n v) = q := ⟨_, rfl⟩
   rw [hq] at hs ⊢
   have F := Lib.hid (show SamePost w (.bool q) (.returned (.bool (v / 2 ^ (8 * n) != 0))) w from ⟨by rw [hs], rfl⟩)
   clear h hq hs
   go_enter Tryz.func175, Tryz.ntmps175
   go_wp2_with fail
   go_ret
   exact F.out

def IdxPost (w : World) (q : Bool) (e : Ending) (w' : World) : Prop := ∃ z : Int, e = .returned (.int .i64 z) ∧ decide (0 ≤ z) = q ∧ Still w w'
set_option maxHeartbeats 1000000 in
theorem idx_int (w : World) (dv : Value) (m : Nat) (l : List Int) (nb n : Nat) (hd : Sl w (fun _ => True) 1 dv m (ic l)) (hl : l.length = m) (hc : w.cell? ⟨nb, 0, none⟩ = some (.int .i64 n)) (hn : n ≤ 3) (hm : m ≤ 10) :
 Calls Tryz.prog 198 #[dv, .func (.func 175) #[] #[.pointer (some ⟨nb, 0, none⟩)]] w (IdxPost w (!fitsB n l)) := by
 have H := Lib.hid (And.intro hd (And.intro hl (And.intro hc (And.intro hn hm))))
 obtain ⟨da, dc, rfl⟩ := hd.form
 clear hd hl hc hn hm
 go_enter Tryz.func198, Tryz.ntmps198
 go_wp2_with fail
 go_loopw [8] (fun s wr => ∃ k : Nat, s = .int .i64 k ∧ k ≤ m ∧ wr = w ∧ (l.take k).all (fit1 n) = true) (fun s _ => m - (intOf s).toNat)
 case atStart => exact ⟨0, rfl, Nat.zero_le _, rfl, rfl⟩
 case round =>
  obtain ⟨k, rfl, hk, rfl, ht⟩ := hrel
  by_cases hi : k < m
  · obtain ⟨x, hx⟩ : ∃ x, l[k]? = some x := ⟨_, List.getElem?_eq_getElem (by have := H.out.2.1; omega)⟩
    obtain ⟨g, o, c, hg, -, -, hcs⟩ := H.out.1.pos (by omega)
    cases hg
    have c0 : wr.cell? ⟨g, o + k, none⟩ = some (.int .i64 x) := hcs k _ (by unfold ic; rw [List.getElem?_map, hx]; rfl)
    have b1 : decide ((k : Int) < (m : Int)) = true := by simp; omega
    have b2 : decide (k < m) = true := by simp; omega
    have b3 : (0 : Int) ≤ (k : Int) := by omega
    have b4 : (k : Int) < (m : Int) := by omega
    have u9 : IntKind.i64.wrap ((k : Int) + 1) = (k : Int) + 1 := IntWalk.i64_in _ (by have := H.out.2.2.2.2; omega)
    have HF := Lib.hid (fits1_any wr nb n x H.out.2.2.1 H.out.2.2.2.1)
    have HT := Lib.hid (And.intro ht hx)
    clear hcs ht hx
    go_wp2_with fail
    refine HF.out.mono ?_
    rintro e w2 ⟨rfl, rfl⟩
    cases hq : fit1 n x with
    | true =>
     have HQ := Lib.hid hq
     clear hq
     go_wp2_with fail
     go_roundw
     case rel => exact ⟨k + 1, by go_num, by omega, trivial, by rw [List.take_add_one, HT.out.2, Option.toList_some, List.all_append, HT.out.1, List.all_cons, HQ.out]; rfl⟩
     case measure => simp [intOf]; omega
    | false =>
     have F := Lib.hid (show IdxPost w2 (!fitsB n l) (.returned (.int .i64 (k : Int))) w2 from ⟨k, rfl, by
      have : fitsB n l = false := by
       rw [fitsB_all, Bool.eq_false_iff]
       intro hall
       rw [List.all_eq_true] at hall
       have := hall x (List.mem_of_getElem? HT.out.2)
       rw [hq] at this
       cases this
      rw [this]
      simp, Still.refl _⟩)
     clear hq
     go_wp2_with fail
     go_ret
     exact F.out
  · have hke : k = m := by omega
    subst hke
    have b1 : decide ((k : Int) < (k : Int)) = false := by simp
    have F := Lib.hid (show IdxPost wr (!fitsB n l) (.returned (.int .i64 (-1))) wr from ⟨-1, rfl, by
     rw [List.take_of_length_le (by have := H.out.2.1; omega)] at ht
     rw [fitsB_all, ht]
     rfl, Still.refl _⟩)
    clear ht
    go_wp2_with fail
    go_ret
    exact F.out
end Go.Proofs.YtlcfoeikamkpmaaGreat

namespace Go.Proofs.YtlcfoeikamkpmaaGreat
open Go.RowKit Go.Wh Go.Maps

theorem contains_int (w : World) (dv : Value) (m : Nat) (l : List Int) (nb n : Nat) (hd : Sl w (fun _ => True) 1 dv m (ic l)) (hl : l.length = m) (hc : w.cell? ⟨nb, 0, none⟩ = some (.int .i64 n)) (hn : n ≤ 3) (hm : m ≤ 10) :
 Calls Tryz.prog 174 #[dv, .func (.func 175) #[] #[.pointer (some ⟨nb, 0, none⟩)]] w (StPost w (.bool (!fitsB n l))) := by
 have HI := Lib.hid (idx_int w dv m l nb n hd hl hc hn hm)
 obtain ⟨q, hq⟩ : ∃ q, (!fitsB n l) = q := ⟨_, rfl⟩
 rw [hq] at HI ⊢
 clear hd hl hc hn hm hq
 go_enter Tryz.func174, Tryz.ntmps174
 go_wp2_with fail
 refine HI.out.mono ?_
 rintro e w' ⟨z, rfl, hz, hs⟩
 have F := Lib.hid (show StPost w (.bool q) (.returned (.bool (decide (0 ≤ z)))) w' from ⟨by rw [hz], hs⟩)
 clear hz hs
 go_wp2_with fail
 go_ret
 exact F.out

theorem fits_any (w : World) (dv : Value) (m : Nat) (l : List Int) (n : Nat) (hd : Sl w (fun _ => True) 1 dv m (ic l)) (hl : l.length = m) (hn : n ≤ 3) (hm : m ≤ 10) :
 Calls Tryz.prog 154 #[.int .i64 n, dv] w (StPost w (.bool (fitsB n l))) := by
 have HI := Lib.hid (contains_int (w.alloc (.cells #[.int .i64 n] 3)) dv m l w.heap.size n (hd.still ((Still.refl w).alloc _)) hl ((cellsAt_new w [.int .i64 n] 3).cell 0) hn hm)
 obtain ⟨q, hq⟩ : ∃ q, fitsB n l = q := ⟨_, rfl⟩
 rw [hq] at HI ⊢
 clear hd hl hn hm hq
 go_enter Tryz.func154, Tryz.ntmps154
 go_wp2_with fail
 refine HI.out.mono ?_
 rintro e w' ⟨rfl, hs⟩
 have F := Lib.hid (show StPost w (.bool q) (.returned (.bool q)) w' from ⟨rfl, ((Still.refl w).alloc _).trans hs⟩)
 clear hs
 cases q
 all_goals
  go_wp2_with fail
  go_ret
  exact F.out

theorem fit_new {w : World} (n m : Nat) {N : Int} (hN : (n : Int) = N) (l : List Int) (tt : TypeId) {B : Nat} (hB : w.heap.size = B) (hl : l.length = m) (hn : n ≤ 3) (hm : m ≤ 10) {W : World} (hs : Still W w) :
 Calls Tryz.prog 154 #[.int .i64 N, .slice (some ⟨B, 0, none⟩) m m] (w.alloc (.cells (ic l).toArray tt)) (StPost W (.bool (fitsB n l))) := by
 subst hN
 subst hB
 have hc := cellsAt_new w (ic l) tt
 refine (fits_any _ (.slice (some ⟨w.heap.size, 0, none⟩) m m) m l n ⟨by unfold ic; rw [List.length_map]; omega, .inr ⟨_, _, _, rfl, fun _ => ⟨trivial, by simp⟩, fun j u hj => by rw [Nat.zero_add, hc.cell]; exact hj⟩⟩ hl hn hm).mono ?_
 rintro e w' ⟨rfl, h⟩
 exact ⟨rfl, (hs.alloc _).trans h⟩

theorem spot_may (w : World) (p c : Int) : Calls Tryz.prog 159 #[.agg #[.int .i64 p, .int .i64 c]] w (StPost w (.bool (fitsB 1 [p, c]))) := by
 have HN := Lib.hid (fun t tt => fit_new (w := w.alloc (.cells #[.int .i64 p, .int .i64 c] t)) 1 2 rfl [p, c] tt (B := w.heap.size + 1) (by simp) rfl (by omega) (by omega) (W := w) ((Still.refl w).alloc _))
 obtain ⟨q, hq⟩ : ∃ q, fitsB 1 [p, c] = q := ⟨_, rfl⟩
 rw [hq] at HN ⊢
 clear hq
 go_enter Tryz.func159, Tryz.ntmps159
 go_wp2_with fail
 refine (HN.out _ _).mono ?_
 rintro e w' ⟨rfl, hs⟩
 have F := Lib.hid (show StPost w (.bool q) (.returned (.bool q)) w' from ⟨rfl, hs⟩)
 clear hs
 go_wp2_with fail
 go_ret
 exact F.out

theorem move_may (w : World) (m : PMv) : Calls Tryz.prog 158 #[.agg #[.int .i64 m.fp, .int .i64 m.fc, .int .i64 m.tp, .int .i64 m.tc]] w (StPost w (.bool (mvMay m))) := by
 obtain ⟨a, b, c, d⟩ := m
 have hq : mvMay ⟨a, b, c, d⟩ = (fitsB 1 [a, b] && fitsB 1 [c, d]) := rfl
 rw [hq]
 have hst : Still w (w.alloc (.cells #[.int .i64 a, .int .i64 b, .int .i64 c, .int .i64 d] 180)) := (Still.refl w).alloc _
 have hbx := cellsAt_new w [.int .i64 a, .int .i64 b, .int .i64 c, .int .i64 d] 180
 have HN := Lib.hid (fun w' => spot_may w' a b)
 have HM := Lib.hid (fun w' => spot_may w' c d)
 have HK := Lib.hid (fun w' (hs : Still (w.alloc (.cells #[.int .i64 a, .int .i64 b, .int .i64 c, .int .i64 d] 180)) w') => show Still w w' ∧ cellsAt w' w.heap.size [.int .i64 a, .int .i64 b, .int .i64 c, .int .i64 d] from ⟨hst.trans hs, hbx.only hs fun e => e⟩)
 generalize fitsB 1 [a, b] = q1 at *
 generalize fitsB 1 [c, d] = q2 at *
 clear hq hst hbx
 cases q1
 all_goals
  go_enter Tryz.func158, Tryz.ntmps158
  go_wp2_with fail
  refine (HN.out _).mono ?_
  rintro e w2 ⟨rfl, hs⟩
  obtain ⟨h1, h2⟩ := HK.out _ hs
  have c2 : w2.cell? ⟨w.heap.size, 2, none⟩ = some (.int .i64 c) := h2.cell 2
  have c3 : w2.cell? ⟨w.heap.size, 3, none⟩ = some (.int .i64 d) := h2.cell 3
  have HS := Lib.hid h1
  clear h1 h2 hs
  go_wp2_with fail
 · go_ret
   exact ⟨rfl, HS.out⟩
 · refine (HM.out _).mono ?_
   rintro e w3 ⟨rfl, hs⟩
   have F := Lib.hid (show StPost w (.bool (true && q2)) (.returned (.bool q2)) w3 from ⟨by rw [Bool.true_and], HS.out.trans hs⟩)
   clear hs
   go_wp2_with fail
   go_ret
   exact F.out
theorem image_may (w : World) (Q : Nat → Prop) (dv : Value) (m : Nat) (l : List Int) (hd : Sl w Q 1 dv m (bc l)) : Calls Tryz.prog 160 #[dv] w (StPost w (.bool (imgB l))) := by
 have hl : l.length = m := by have := hd.1; rw [bc_length] at this; omega
 obtain ⟨da, dc, rfl⟩ := hd.form
 have hq : imgB l = (decide (m = 0) || decide (m = 26)) := by unfold imgB; rw [hl]
 rw [hq]
 clear hd hl hq
 by_cases h0 : m = 0
 · subst h0
   go_enter Tryz.func160, Tryz.ntmps160
   go_wp2_with fail
   go_ret
   exact ⟨rfl, Still.refl _⟩
 · have e1 : ((m : Int) == 0) = false := by simp; exact h0
   have e2 : decide (m = 0) = false := decide_eq_false h0
   rw [e2]
   by_cases h1 : m = 26
   · subst h1
     go_enter Tryz.func160, Tryz.ntmps160
     go_wp2_with fail
     go_ret
     exact ⟨rfl, Still.refl _⟩
   · have e3 : ((m : Int) == 26) = false := by simp; omega
     have e4 : decide (m = 26) = false := decide_eq_false h1
     rw [e4]
     clear h0 h1 e2 e4
     go_enter Tryz.func160, Tryz.ntmps160
     go_wp2_with fail
     go_ret
     exact ⟨rfl, Still.refl _⟩
end Go.Proofs.YtlcfoeikamkpmaaGreat

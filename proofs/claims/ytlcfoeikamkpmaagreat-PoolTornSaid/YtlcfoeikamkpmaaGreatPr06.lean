/- Which moves, lives, dirty pages, units may be, one by one and in lists. Conditions: they lie in memory. An entry in memory. Conditions: they lie in memory. Which entries may be. Conditions: they lie in memory. -/
import Derived.Test.YtlcfoeikamkpmaaGreatPr05
namespace Go.Proofs.YtlcfoeikamkpmaaGreat
open Go.RowKit Go.Wh Go.Maps

theorem each1_mv (w : World) (mb : Nat) (x : PMv) (hc : w.cell? ⟨mb, 0, none⟩ = some (.func (.func 158) #[] #[])) :
 Calls Tryz.prog 177 #[.agg #[.int .i64 x.fp, .int .i64 x.fc, .int .i64 x.tp, .int .i64 x.tc], .pointer (some ⟨mb, 0, none⟩)] w (StPost w (.bool (!mvMay x))) := by
 have hst : Still w (w.alloc (.cells #[.int .i64 x.fp, .int .i64 x.fc, .int .i64 x.tp, .int .i64 x.tc] 180)) := (Still.refl w).alloc _
 have HM := Lib.hid (move_may (w.alloc (.cells #[.int .i64 x.fp, .int .i64 x.fc, .int .i64 x.tp, .int .i64 x.tc] 180)) x)
 have c0 := Still.cell hst hc
 obtain ⟨q, hq⟩ : ∃ q, mvMay x = q := ⟨_, rfl⟩
 rw [hq] at HM ⊢
 have HS := Lib.hid hst
 clear hq hst hc
 go_enter Tryz.func177, Tryz.ntmps177
 go_wp2_with fail
 refine HM.out.mono ?_
 rintro e w' ⟨rfl, hs⟩
 have F := Lib.hid (show StPost w (.bool (!q)) (.returned (.bool (!q))) w' from ⟨rfl, HS.out.trans hs⟩)
 clear hs
 cases q
 all_goals
  go_wp2_with fail
  go_ret
  exact F.out
set_option maxHeartbeats 1000000 in
theorem idx_mv {Q : Nat → Prop} (w : World) (dv : Value) (m : Nat) (l : List PMv) (mb : Nat) (hd : Sl w Q 4 dv m (l.flatMap mvC)) (hl : l.length = m) (hc : w.cell? ⟨mb, 0, none⟩ = some (.func (.func 158) #[] #[])) (hm : m ≤ 40) :
 Calls Tryz.prog 199 #[dv, .func (.func 177) #[] #[.pointer (some ⟨mb, 0, none⟩)]] w (IdxPost w (!l.all mvMay)) := by
 have H := Lib.hid (And.intro hd (And.intro hl (And.intro hc hm)))
 obtain ⟨da, dc, rfl⟩ := hd.form
 clear hd hl hc hm
 go_enter Tryz.func199, Tryz.ntmps199
 go_wp2_with fail
 go_loopw [8] (fun s wr => ∃ k : Nat, s = .int .i64 k ∧ k ≤ m ∧ Still w wr ∧ (l.take k).all mvMay = true) (fun s _ => m - (intOf s).toNat)
 case atStart => exact ⟨0, rfl, Nat.zero_le _, Still.refl _, rfl⟩
 case round =>
  obtain ⟨k, rfl, hk, hst, ht⟩ := hrel
  by_cases hi : k < m
  · obtain ⟨x, hx⟩ : ∃ x, l[k]? = some x := ⟨_, List.getElem?_eq_getElem (by have := H.out.2.1; omega)⟩
    obtain ⟨g, o, c, hg, -, -, hcs⟩ := (H.out.1.still hst).pos (by omega)
    cases hg
    have hfc : ∀ j, j < 4 → (l.flatMap mvC)[k * 4 + j]? = (mvC x)[j]? := fun j hj => flat_get (sz := 4) (fun _ => rfl) l k j x hx hj
    have c0 : wr.cell? ⟨g, o + k * 4, none⟩ = some (.int .i64 x.fp) := hcs (k * 4) _ (hfc 0 (by omega))
    have c1 : wr.cell? ⟨g, o + k * 4 + 1, none⟩ = some (.int .i64 x.fc) := by rw [Nat.add_assoc]; exact hcs (k * 4 + 1) _ (hfc 1 (by omega))
    have c2 : wr.cell? ⟨g, o + k * 4 + 2, none⟩ = some (.int .i64 x.tp) := by rw [Nat.add_assoc]; exact hcs (k * 4 + 2) _ (hfc 2 (by omega))
    have c3 : wr.cell? ⟨g, o + k * 4 + 3, none⟩ = some (.int .i64 x.tc) := by rw [Nat.add_assoc]; exact hcs (k * 4 + 3) _ (hfc 3 (by omega))
    have b1 : decide ((k : Int) < (m : Int)) = true := by simp; omega
    have b2 : decide (k < m) = true := by simp; omega
    have b3 : (0 : Int) ≤ (k : Int) := by omega
    have b4 : (k : Int) < (m : Int) := by omega
    have u9 : IntKind.i64.wrap ((k : Int) + 1) = (k : Int) + 1 := IntWalk.i64_in _ (by have := H.out.2.2.2; omega)
    have HF := Lib.hid (each1_mv wr mb x (Still.cell hst H.out.2.2.1))
    have HT := Lib.hid (And.intro ht (And.intro hx hst))
    clear hcs ht hx hfc hst
    go_wp2_with fail
    refine HF.out.mono ?_
    rintro e w2 ⟨rfl, hs2⟩
    have HS2 := Lib.hid (HT.out.2.2.trans hs2)
    clear hs2
    cases hq : mvMay x with
    | true =>
     have HQ := Lib.hid hq
     clear hq
     go_wp2_with fail
     go_roundw
     case rel => exact ⟨k + 1, by go_num, by omega, HS2.out, by rw [List.take_add_one, HT.out.2.1, Option.toList_some, List.all_append, HT.out.1, List.all_cons, HQ.out]; rfl⟩
     case measure => simp [intOf]; omega
    | false =>
     have F := Lib.hid (show IdxPost w (!l.all mvMay) (.returned (.int .i64 (k : Int))) w2 from ⟨k, rfl, by
      have : l.all mvMay = false := by
       rw [Bool.eq_false_iff]
       intro hall
       rw [List.all_eq_true] at hall
       have := hall x (List.mem_of_getElem? HT.out.2.1)
       rw [hq] at this
       cases this
      rw [this]
      simp, HS2.out⟩)
     clear hq
     go_wp2_with fail
     go_ret
     exact F.out
  · have hke : k = m := by omega
    subst hke
    have b1 : decide ((k : Int) < (k : Int)) = false := by simp
    have F := Lib.hid (show IdxPost w (!l.all mvMay) (.returned (.int .i64 (-1))) wr from ⟨-1, rfl, by
     rw [List.take_of_length_le (by have := H.out.2.1; omega)] at ht
     rw [ht]
     rfl, hst⟩)
    clear ht hst
    go_wp2_with fail
    go_ret
    exact F.out
theorem contains_mv {Q : Nat → Prop} (w : World) (dv : Value) (m : Nat) (l : List PMv) (mb : Nat) (hd : Sl w Q 4 dv m (l.flatMap mvC)) (hl : l.length = m) (hc : w.cell? ⟨mb, 0, none⟩ = some (.func (.func 158) #[] #[])) (hm : m ≤ 40) :
 Calls Tryz.prog 176 #[dv, .func (.func 177) #[] #[.pointer (some ⟨mb, 0, none⟩)]] w (StPost w (.bool (!l.all mvMay))) := by
 have HI := Lib.hid (idx_mv w dv m l mb hd hl hc hm)
 obtain ⟨q, hq⟩ : ∃ q, (!l.all mvMay) = q := ⟨_, rfl⟩
 rw [hq] at HI ⊢
 clear hd hl hc hm hq
 go_enter Tryz.func176, Tryz.ntmps176
 go_wp2_with fail
 refine HI.out.mono ?_
 rintro e w' ⟨z, rfl, hz, hs⟩
 have F := Lib.hid (show StPost w (.bool q) (.returned (.bool (decide (0 ≤ z)))) w' from ⟨by rw [hz], hs⟩)
 clear hz hs
 go_wp2_with fail
 go_ret
 exact F.out
theorem each_mv {Q : Nat → Prop} (w : World) (dv : Value) (m : Nat) (l : List PMv) (hd : Sl w Q 4 dv m (l.flatMap mvC)) (hl : l.length = m) :
 Calls Tryz.prog 157 #[dv, .func (.func 158) #[] #[]] w (StPost w (.bool (eachB mvMay l))) := by
 have hst : ∀ t, Still w (w.alloc (.cells #[.func (.func 158) #[] #[]] t)) := fun t => (Still.refl w).alloc _
 obtain ⟨da, dc, hdv⟩ : ∃ a c, dv = .slice a m c := hd.form
 have he : eachB mvMay l = (decide (m ≤ 40) && l.all mvMay) := by unfold eachB; rw [hl]
 have HI := Lib.hid (fun t (h40 : m ≤ 40) => contains_mv (w.alloc (.cells #[.func (.func 158) #[] #[]] t)) dv m l w.heap.size (hd.still (hst t)) hl ((cellsAt_new w [.func (.func 158) #[] #[]] t).cell 0) h40)
 obtain ⟨q, hq⟩ : ∃ q, l.all mvMay = q := ⟨_, rfl⟩
 rw [he]
 rw [hq] at HI ⊢
 have HS := Lib.hid hst
 clear hd hl hq he hst
 subst hdv
 by_cases hm : m ≤ 40
 · have d1 : decide ((m : Int) ≤ 40) = true := decide_eq_true (by omega)
   have d2 : decide (m ≤ 40) = true := decide_eq_true hm
   rw [d2, Bool.true_and]
   have HM := Lib.hid hm
   clear hm
   go_enter Tryz.func157, Tryz.ntmps157
   go_wp2_with fail
   refine (HI.out _ HM.out).mono ?_
   rintro e w' ⟨rfl, hs⟩
   have F := Lib.hid (show StPost w (.bool q) (.returned (.bool q)) w' from ⟨rfl, (HS.out _).trans hs⟩)
   clear hs
   cases q
   all_goals
    go_wp2_with fail
    go_ret
    exact F.out
 · have d1 : decide ((m : Int) ≤ 40) = false := decide_eq_false (by omega)
   have d2 : decide (m ≤ 40) = false := decide_eq_false hm
   rw [d2, Bool.false_and]
   have F := Lib.hid (fun t => show StPost w (.bool false) (.returned (.bool false)) (w.alloc (.cells #[.func (.func 158) #[] #[]] t)) from ⟨rfl, HS.out t⟩)
   clear hm
   go_enter Tryz.func157, Tryz.ntmps157
   go_wp2_with fail
   go_ret
   exact F.out _

theorem live_may (w : World) (x : PLv) : Calls Tryz.prog 153 #[.agg #[.int .i64 x.txn, .int .i64 x.last, .int .i64 x.next, .bool x.commit]] w (StPost w (.bool (lvMay x))) := by
 obtain ⟨txn, last, next, commit⟩ := x
 have hq : lvMay ⟨txn, last, next, commit⟩ = (fitsB 1 [txn] && fitsB 3 [last, next]) := rfl
 rw [hq]
 have hst : Still w (w.alloc (.cells #[.int .i64 txn, .int .i64 last, .int .i64 next, .bool commit] 184)) := (Still.refl w).alloc _
 have hbx := cellsAt_new w [.int .i64 txn, .int .i64 last, .int .i64 next, .bool commit] 184
 have HN := Lib.hid (fun tt => fit_new (w := w.alloc (.cells #[.int .i64 txn, .int .i64 last, .int .i64 next, .bool commit] 184)) 1 1 rfl [txn] tt (B := w.heap.size + 1) (by simp) rfl (by omega) (by omega) (Still.refl _))
 have HM := Lib.hid (fun w' tt => fit_new (w := w') 3 2 rfl [last, next] tt rfl rfl (by omega) (by omega) (Still.refl w'))
 have HK := Lib.hid (fun w' (hs : Still (w.alloc (.cells #[.int .i64 txn, .int .i64 last, .int .i64 next, .bool commit] 184)) w') => show Still w w' ∧ cellsAt w' w.heap.size [.int .i64 txn, .int .i64 last, .int .i64 next, .bool commit] from ⟨hst.trans hs, hbx.only hs fun e => e⟩)
 generalize fitsB 1 [txn] = q1 at *
 generalize fitsB 3 [last, next] = q2 at *
 clear hq hst hbx
 cases q1
 all_goals
  go_enter Tryz.func153, Tryz.ntmps153
  go_wp2_with fail
  refine (HN.out _).mono ?_
  rintro e w2 ⟨rfl, hs⟩
  obtain ⟨h1, h2⟩ := HK.out _ hs
  have c0 : w2.cell? ⟨w.heap.size, 0, none⟩ = some (.int .i64 txn) := h2.cell 0
  have c1 : w2.cell? ⟨w.heap.size, 1, none⟩ = some (.int .i64 last) := h2.cell 1
  have c2 : w2.cell? ⟨w.heap.size, 2, none⟩ = some (.int .i64 next) := h2.cell 2
  have c3 : w2.cell? ⟨w.heap.size, 3, none⟩ = some (.bool commit) := h2.cell 3
  have HS := Lib.hid h1
  clear h1 h2 hs
  go_wp2_with fail
 · go_ret
   exact ⟨rfl, HS.out⟩
 · refine (HM.out _ _).mono ?_
   rintro e w3 ⟨rfl, hs⟩
   have F := Lib.hid (show StPost w (.bool (true && q2)) (.returned (.bool q2)) w3 from ⟨by rw [Bool.true_and], HS.out.trans hs⟩)
   clear hs
   go_wp2_with fail
   go_ret
   exact F.out

theorem each1_lv (w : World) (mb : Nat) (x : PLv) (hc : w.cell? ⟨mb, 0, none⟩ = some (.func (.func 153) #[] #[])) :
 Calls Tryz.prog 179 #[.agg #[.int .i64 x.txn, .int .i64 x.last, .int .i64 x.next, .bool x.commit], .pointer (some ⟨mb, 0, none⟩)] w (StPost w (.bool (!lvMay x))) := by
 have hst : Still w (w.alloc (.cells #[.int .i64 x.txn, .int .i64 x.last, .int .i64 x.next, .bool x.commit] 184)) := (Still.refl w).alloc _
 have HM := Lib.hid (live_may (w.alloc (.cells #[.int .i64 x.txn, .int .i64 x.last, .int .i64 x.next, .bool x.commit] 184)) x)
 have c0 := Still.cell hst hc
 obtain ⟨q, hq⟩ : ∃ q, lvMay x = q := ⟨_, rfl⟩
 rw [hq] at HM ⊢
 have HS := Lib.hid hst
 clear hq hst hc
 go_enter Tryz.func179, Tryz.ntmps179
 go_wp2_with fail
 refine HM.out.mono ?_
 rintro e w' ⟨rfl, hs⟩
 have F := Lib.hid (show StPost w (.bool (!q)) (.returned (.bool (!q))) w' from ⟨rfl, HS.out.trans hs⟩)
 clear hs
 cases q
 all_goals
  go_wp2_with fail
  go_ret
  exact F.out
set_option maxHeartbeats 1000000 in
theorem idx_lv {Q : Nat → Prop} (w : World) (dv : Value) (m : Nat) (l : List PLv) (mb : Nat) (hd : Sl w Q 4 dv m (l.flatMap lvC)) (hl : l.length = m) (hc : w.cell? ⟨mb, 0, none⟩ = some (.func (.func 153) #[] #[])) (hm : m ≤ 40) :
 Calls Tryz.prog 200 #[dv, .func (.func 179) #[] #[.pointer (some ⟨mb, 0, none⟩)]] w (IdxPost w (!l.all lvMay)) := by
 have H := Lib.hid (And.intro hd (And.intro hl (And.intro hc hm)))
 obtain ⟨da, dc, rfl⟩ := hd.form
 clear hd hl hc hm
 go_enter Tryz.func200, Tryz.ntmps200
 go_wp2_with fail
 go_loopw [8] (fun s wr => ∃ k : Nat, s = .int .i64 k ∧ k ≤ m ∧ Still w wr ∧ (l.take k).all lvMay = true) (fun s _ => m - (intOf s).toNat)
 case atStart => exact ⟨0, rfl, Nat.zero_le _, Still.refl _, rfl⟩
 case round =>
  obtain ⟨k, rfl, hk, hst, ht⟩ := hrel
  by_cases hi : k < m
  · obtain ⟨x, hx⟩ : ∃ x, l[k]? = some x := ⟨_, List.getElem?_eq_getElem (by have := H.out.2.1; omega)⟩
    obtain ⟨g, o, c, hg, -, -, hcs⟩ := (H.out.1.still hst).pos (by omega)
    cases hg
    have hfc : ∀ j, j < 4 → (l.flatMap lvC)[k * 4 + j]? = (lvC x)[j]? := fun j hj => flat_get (sz := 4) (fun _ => rfl) l k j x hx hj
    have c0 : wr.cell? ⟨g, o + k * 4, none⟩ = some (.int .i64 x.txn) := hcs (k * 4) _ (hfc 0 (by omega))
    have c1 : wr.cell? ⟨g, o + k * 4 + 1, none⟩ = some (.int .i64 x.last) := by rw [Nat.add_assoc]; exact hcs (k * 4 + 1) _ (hfc 1 (by omega))
    have c2 : wr.cell? ⟨g, o + k * 4 + 2, none⟩ = some (.int .i64 x.next) := by rw [Nat.add_assoc]; exact hcs (k * 4 + 2) _ (hfc 2 (by omega))
    have c3 : wr.cell? ⟨g, o + k * 4 + 3, none⟩ = some (.bool x.commit) := by rw [Nat.add_assoc]; exact hcs (k * 4 + 3) _ (hfc 3 (by omega))
    have b1 : decide ((k : Int) < (m : Int)) = true := by simp; omega
    have b2 : decide (k < m) = true := by simp; omega
    have b3 : (0 : Int) ≤ (k : Int) := by omega
    have b4 : (k : Int) < (m : Int) := by omega
    have u9 : IntKind.i64.wrap ((k : Int) + 1) = (k : Int) + 1 := IntWalk.i64_in _ (by have := H.out.2.2.2; omega)
    have HF := Lib.hid (each1_lv wr mb x (Still.cell hst H.out.2.2.1))
    have HT := Lib.hid (And.intro ht (And.intro hx hst))
    clear hcs ht hx hfc hst
    go_wp2_with fail
    refine HF.out.mono ?_
    rintro e w2 ⟨rfl, hs2⟩
    have HS2 := Lib.hid (HT.out.2.2.trans hs2)
    clear hs2
    cases hq : lvMay x with
    | true =>
     have HQ := Lib.hid hq
     clear hq
     go_wp2_with fail
     go_roundw
     case rel => exact ⟨k + 1, by go_num, by omega, HS2.out, by rw [List.take_add_one, HT.out.2.1, Option.toList_some, List.all_append, HT.out.1, List.all_cons, HQ.out]; rfl⟩
     case measure => simp [intOf]; omega
    | false =>
     have F := Lib.hid (show IdxPost w (!l.all lvMay) (.returned (.int .i64 (k : Int))) w2 from ⟨k, rfl, by
      have : l.all lvMay = false := by
       rw [Bool.eq_false_iff]
       intro hall
       rw [List.all_eq_true] at hall
       have := hall x (List.mem_of_getElem? HT.out.2.1)
       rw [hq] at this
       cases this
      rw [this]
      simp, HS2.out⟩)
     clear hq
     go_wp2_with fail
     go_ret
     exact F.out
  · have hke : k = m := by omega
    subst hke
    have b1 : decide ((k : Int) < (k : Int)) = false := by simp
    have F := Lib.hid (show IdxPost w (!l.all lvMay) (.returned (.int .i64 (-1))) wr from ⟨-1, rfl, by
     rw [List.take_of_length_le (by have := H.out.2.1; omega)] at ht
     rw [ht]
     rfl, hst⟩)
    clear ht hst
    go_wp2_with fail
    go_ret
    exact F.out
theorem contains_lv {Q : Nat → Prop} (w : World) (dv : Value) (m : Nat) (l : List PLv) (mb : Nat) (hd : Sl w Q 4 dv m (l.flatMap lvC)) (hl : l.length = m) (hc : w.cell? ⟨mb, 0, none⟩ = some (.func (.func 153) #[] #[])) (hm : m ≤ 40) :
 Calls Tryz.prog 178 #[dv, .func (.func 179) #[] #[.pointer (some ⟨mb, 0, none⟩)]] w (StPost w (.bool (!l.all lvMay))) := by
 have HI := Lib.hid (idx_lv w dv m l mb hd hl hc hm)
 obtain ⟨q, hq⟩ : ∃ q, (!l.all lvMay) = q := ⟨_, rfl⟩
 rw [hq] at HI ⊢
 clear hd hl hc hm hq
 go_enter Tryz.func178, Tryz.ntmps178
 go_wp2_with fail
 refine HI.out.mono ?_
 rintro e w' ⟨z, rfl, hz, hs⟩
 have F := Lib.hid (show StPost w (.bool q) (.returned (.bool (decide (0 ≤ z)))) w' from ⟨by rw [hz], hs⟩)
 clear hz hs
 go_wp2_with fail
 go_ret
 exact F.out
theorem each_lv {Q : Nat → Prop} (w : World) (dv : Value) (m : Nat) (l : List PLv) (hd : Sl w Q 4 dv m (l.flatMap lvC)) (hl : l.length = m) :
 Calls Tryz.prog 161 #[dv, .func (.func 153) #[] #[]] w (StPost w (.bool (eachB lvMay l))) := by
 have hst : ∀ t, Still w (w.alloc (.cells #[.func (.func 153) #[] #[]] t)) := fun t => (Still.refl w).alloc _
 obtain ⟨da, dc, hdv⟩ : ∃ a c, dv = .slice a m c := hd.form
 have he : eachB lvMay l = (decide (m ≤ 40) && l.all lvMay) := by unfold eachB; rw [hl]
 have HI := Lib.hid (fun t (h40 : m ≤ 40) => contains_lv (w.alloc (.cells #[.func (.func 153) #[] #[]] t)) dv m l w.heap.size (hd.still (hst t)) hl ((cellsAt_new w [.func (.func 153) #[] #[]] t).cell 0) h40)
 obtain ⟨q, hq⟩ : ∃ q, l.all lvMay = q := ⟨_, rfl⟩
 rw [he]
 rw [hq] at HI ⊢
 have HS := Lib.hid hst
 clear hd hl hq he hst
 subst hdv
 by_cases hm : m ≤ 40
 · have d1 : decide ((m : Int) ≤ 40) = true := decide_eq_true (by omega)
   have d2 : decide (m ≤ 40) = true := decide_eq_true hm
   rw [d2, Bool.true_and]
   have HM := Lib.hid hm
   clear hm
   go_enter Tryz.func161, Tryz.ntmps161
   go_wp2_with fail
   refine (HI.out _ HM.out).mono ?_
   rintro e w' ⟨rfl, hs⟩
   have F := Lib.hid (show StPost w (.bool q) (.returned (.bool q)) w' from ⟨rfl, (HS.out _).trans hs⟩)
   clear hs
   cases q
   all_goals
    go_wp2_with fail
    go_ret
    exact F.out
 · have d1 : decide ((m : Int) ≤ 40) = false := decide_eq_false (by omega)
   have d2 : decide (m ≤ 40) = false := decide_eq_false hm
   rw [d2, Bool.false_and]
   have F := Lib.hid (fun t => show StPost w (.bool false) (.returned (.bool false)) (w.alloc (.cells #[.func (.func 153) #[] #[]] t)) from ⟨rfl, HS.out t⟩)
   clear hm
   go_enter Tryz.func161, Tryz.ntmps161
   go_wp2_with fail
   go_ret
   exact F.out _

theorem dirty_may (w : World) (x : PDt) : Calls Tryz.prog 155 #[.agg #[.int .i64 x.page, .int .i64 x.rc]] w (StPost w (.bool (dtMay x))) := by
 obtain ⟨page, rc⟩ := x
 have hq : dtMay ⟨page, rc⟩ = (fitsB 1 [page] && fitsB 3 [rc]) := rfl
 rw [hq]
 have hst : Still w (w.alloc (.cells #[.int .i64 page, .int .i64 rc] 49)) := (Still.refl w).alloc _
 have hbx := cellsAt_new w [.int .i64 page, .int .i64 rc] 49
 have HN := Lib.hid (fun tt => fit_new (w := w.alloc (.cells #[.int .i64 page, .int .i64 rc] 49)) 1 1 rfl [page] tt (B := w.heap.size + 1) (by simp) rfl (by omega) (by omega) (Still.refl _))
 have HM := Lib.hid (fun w' tt => fit_new (w := w') 3 1 rfl [rc] tt rfl rfl (by omega) (by omega) (Still.refl w'))
 have HK := Lib.hid (fun w' (hs : Still (w.alloc (.cells #[.int .i64 page, .int .i64 rc] 49)) w') => show Still w w' ∧ cellsAt w' w.heap.size [.int .i64 page, .int .i64 rc] from ⟨hst.trans hs, hbx.only hs fun e => e⟩)
 generalize fitsB 1 [page] = q1 at *
 generalize fitsB 3 [rc] = q2 at *
 clear hq hst hbx
 cases q1
 all_goals
  go_enter Tryz.func155, Tryz.ntmps155
  go_wp2_with fail
  refine (HN.out _).mono ?_
  rintro e w2 ⟨rfl, hs⟩
  obtain ⟨h1, h2⟩ := HK.out _ hs
  have c0 : w2.cell? ⟨w.heap.size, 0, none⟩ = some (.int .i64 page) := h2.cell 0
  have c1 : w2.cell? ⟨w.heap.size, 1, none⟩ = some (.int .i64 rc) := h2.cell 1
  have HS := Lib.hid h1
  clear h1 h2 hs
  go_wp2_with fail
 · go_ret
   exact ⟨rfl, HS.out⟩
 · refine (HM.out _ _).mono ?_
   rintro e w3 ⟨rfl, hs⟩
   have F := Lib.hid (show StPost w (.bool (true && q2)) (.returned (.bool q2)) w3 from ⟨by rw [Bool.true_and], HS.out.trans hs⟩)
   clear hs
   go_wp2_with fail
   go_ret
   exact F.out

theorem each1_dt (w : World) (mb : Nat) (x : PDt) (hc : w.cell? ⟨mb, 0, none⟩ = some (.func (.func 155) #[] #[])) :
 Calls Tryz.prog 181 #[.agg #[.int .i64 x.page, .int .i64 x.rc], .pointer (some ⟨mb, 0, none⟩)] w (StPost w (.bool (!dtMay x))) := by
 have hst : Still w (w.alloc (.cells #[.int .i64 x.page, .int .i64 x.rc] 49)) := (Still.refl w).alloc _
 have HM := Lib.hid (dirty_may (w.alloc (.cells #[.int .i64 x.page, .int .i64 x.rc] 49)) x)
 have c0 := Still.cell hst hc
 obtain ⟨q, hq⟩ : ∃ q, dtMay x = q := ⟨_, rfl⟩
 rw [hq] at HM ⊢
 have HS := Lib.hid hst
 clear hq hst hc
 go_enter Tryz.func181, Tryz.ntmps181
 go_wp2_with fail
 refine HM.out.mono ?_
 rintro e w' ⟨rfl, hs⟩
 have F := Lib.hid (show StPost w (.bool (!q)) (.returned (.bool (!q))) w' from ⟨rfl, HS.out.trans hs⟩)
 clear hs
 cases q
 all_goals
  go_wp2_with fail
  go_ret
  exact F.out
set_option maxHeartbeats 1000000 in
theorem idx_dt {Q : Nat → Prop} (w : World) (dv : Value) (m : Nat) (l : List PDt) (mb : Nat) (hd : Sl w Q 2 dv m (l.flatMap dtC)) (hl : l.length = m) (hc : w.cell? ⟨mb, 0, none⟩ = some (.func (.func 155) #[] #[])) (hm : m ≤ 40) :
 Calls Tryz.prog 201 #[dv, .func (.func 181) #[] #[.pointer (some ⟨mb, 0, none⟩)]] w (IdxPost w (!l.all dtMay)) := by
 have H := Lib.hid (And.intro hd (And.intro hl (And.intro hc hm)))
 obtain ⟨da, dc, rfl⟩ := hd.form
 clear hd hl hc hm
 go_enter Tryz.func201, Tryz.ntmps201
 go_wp2_with fail
 go_loopw [8] (fun s wr => ∃ k : Nat, s = .int .i64 k ∧ k ≤ m ∧ Still w wr ∧ (l.take k).all dtMay = true) (fun s _ => m - (intOf s).toNat)
 case atStart => exact ⟨0, rfl, Nat.zero_le _, Still.refl _, rfl⟩
 case round =>
  obtain ⟨k, rfl, hk, hst, ht⟩ := hrel
  by_cases hi : k < m
  · obtain ⟨x, hx⟩ : ∃ x, l[k]? = some x := ⟨_, List.getElem?_eq_getElem (by have := H.out.2.1; omega)⟩
    obtain ⟨g, o, c, hg, -, -, hcs⟩ := (H.out.1.still hst).pos (by omega)
    cases hg
    have hfc : ∀ j, j < 2 → (l.flatMap dtC)[k * 2 + j]? = (dtC x)[j]? := fun j hj => flat_get (sz := 2) (fun _ => rfl) l k j x hx hj
    have c0 : wr.cell? ⟨g, o + k * 2, none⟩ = some (.int .i64 x.page) := hcs (k * 2) _ (hfc 0 (by omega))
    have c1 : wr.cell? ⟨g, o + k * 2 + 1, none⟩ = some (.int .i64 x.rc) := by rw [Nat.add_assoc]; exact hcs (k * 2 + 1) _ (hfc 1 (by omega))
    have b1 : decide ((k : Int) < (m : Int)) = true := by simp; omega
    have b2 : decide (k < m) = true := by simp; omega
    have b3 : (0 : Int) ≤ (k : Int) := by omega
    have b4 : (k : Int) < (m : Int) := by omega
    have u9 : IntKind.i64.wrap ((k : Int) + 1) = (k : Int) + 1 := IntWalk.i64_in _ (by have := H.out.2.2.2; omega)
    have HF := Lib.hid (each1_dt wr mb x (Still.cell hst H.out.2.2.1))
    have HT := Lib.hid (And.intro ht (And.intro hx hst))
    clear hcs ht hx hfc hst
    go_wp2_with fail
    refine HF.out.mono ?_
    rintro e w2 ⟨rfl, hs2⟩
    have HS2 := Lib.hid (HT.out.2.2.trans hs2)
    clear hs2
    cases hq : dtMay x with
    | true =>
     have HQ := Lib.hid hq
     clear hq
     go_wp2_with fail
     go_roundw
     case rel => exact ⟨k + 1, by go_num, by omega, HS2.out, by rw [List.take_add_one, HT.out.2.1, Option.toList_some, List.all_append, HT.out.1, List.all_cons, HQ.out]; rfl⟩
     case measure => simp [intOf]; omega
    | false =>
     have F := Lib.hid (show IdxPost w (!l.all dtMay) (.returned (.int .i64 (k : Int))) w2 from ⟨k, rfl, by
      have : l.all dtMay = false := by
       rw [Bool.eq_false_iff]
       intro hall
       rw [List.all_eq_true] at hall
       have := hall x (List.mem_of_getElem? HT.out.2.1)
       rw [hq] at this
       cases this
      rw [this]
      simp, HS2.out⟩)
     clear hq
     go_wp2_with fail
     go_ret
     exact F.out
  · have hke : k = m := by omega
    subst hke
    have b1 : decide ((k : Int) < (k : Int)) = false := by simp
    have F := Lib.hid (show IdxPost w (!l.all dtMay) (.returned (.int .i64 (-1))) wr from ⟨-1, rfl, by
     rw [List.take_of_length_le (by have := H.out.2.1; omega)] at ht
     rw [ht]
     rfl, hst⟩)
    clear ht hst
    go_wp2_with fail
    go_ret
    exact F.out
theorem contains_dt {Q : Nat → Prop} (w : World) (dv : Value) (m : Nat) (l : List PDt) (mb : Nat) (hd : Sl w Q 2 dv m (l.flatMap dtC)) (hl : l.length = m) (hc : w.cell? ⟨mb, 0, none⟩ = some (.func (.func 155) #[] #[])) (hm : m ≤ 40) :
 Calls Tryz.prog 180 #[dv, .func (.func 181) #[] #[.pointer (some ⟨mb, 0, none⟩)]] w (StPost w (.bool (!l.all dtMay))) := by
 have HI := Lib.hid (idx_dt w dv m l mb hd hl hc hm)
 obtain ⟨q, hq⟩ : ∃ q, (!l.all dtMay) = q := ⟨_, rfl⟩
 rw [hq] at HI ⊢
 clear hd hl hc hm hq
 go_enter Tryz.func180, Tryz.ntmps180
 go_wp2_with fail
 refine HI.out.mono ?_
 rintro e w' ⟨z, rfl, hz, hs⟩
 have F := Lib.hid (show StPost w (.bool q) (.returned (.bool (decide (0 ≤ z)))) w' from ⟨by rw [hz], hs⟩)
 clear hz hs
 go_wp2_with fail
 go_ret
 exact F.out
theorem each_dt {Q : Nat → Prop} (w : World) (dv : Value) (m : Nat) (l : List PDt) (hd : Sl w Q 2 dv m (l.flatMap dtC)) (hl : l.length = m) :
 Calls Tryz.prog 162 #[dv, .func (.func 155) #[] #[]] w (StPost w (.bool (eachB dtMay l))) := by
 have hst : ∀ t, Still w (w.alloc (.cells #[.func (.func 155) #[] #[]] t)) := fun t => (Still.refl w).alloc _
 obtain ⟨da, dc, hdv⟩ : ∃ a c, dv = .slice a m c := hd.form
 have he : eachB dtMay l = (decide (m ≤ 40) && l.all dtMay) := by unfold eachB; rw [hl]
 have HI := Lib.hid (fun t (h40 : m ≤ 40) => contains_dt (w.alloc (.cells #[.func (.func 155) #[] #[]] t)) dv m l w.heap.size (hd.still (hst t)) hl ((cellsAt_new w [.func (.func 155) #[] #[]] t).cell 0) h40)
 obtain ⟨q, hq⟩ : ∃ q, l.all dtMay = q := ⟨_, rfl⟩
 rw [he]
 rw [hq] at HI ⊢
 have HS := Lib.hid hst
 clear hd hl hq he hst
 subst hdv
 by_cases hm : m ≤ 40
 · have d1 : decide ((m : Int) ≤ 40) = true := decide_eq_true (by omega)
   have d2 : decide (m ≤ 40) = true := decide_eq_true hm
   rw [d2, Bool.true_and]
   have HM := Lib.hid hm
   clear hm
   go_enter Tryz.func162, Tryz.ntmps162
   go_wp2_with fail
   refine (HI.out _ HM.out).mono ?_
   rintro e w' ⟨rfl, hs⟩
   have F := Lib.hid (show StPost w (.bool q) (.returned (.bool q)) w' from ⟨rfl, (HS.out _).trans hs⟩)
   clear hs
   cases q
   all_goals
    go_wp2_with fail
    go_ret
    exact F.out
 · have d1 : decide ((m : Int) ≤ 40) = false := decide_eq_false (by omega)
   have d2 : decide (m ≤ 40) = false := decide_eq_false hm
   rw [d2, Bool.false_and]
   have F := Lib.hid (fun t => show StPost w (.bool false) (.returned (.bool false)) (w.alloc (.cells #[.func (.func 155) #[] #[]] t)) from ⟨rfl, HS.out t⟩)
   clear hm
   go_enter Tryz.func162, Tryz.ntmps162
   go_wp2_with fail
   go_ret
   exact F.out _

theorem open_may {Q : Nat → Prop} (w : World) (x : POp) (ma : Option Addr) (mc : Nat) (hmv : Sl w Q 4 (.slice ma x.moves.length mc) x.moves.length (x.moves.flatMap mvC)) :
 Calls Tryz.prog 156 #[.agg #[.int .i64 x.unit, .slice ma x.moves.length mc, .int .i64 x.done]] w (StPost w (.bool (opMay x))) := by
 obtain ⟨unit, moves, done⟩ := x
 have hq : opMay ⟨unit, moves, done⟩ = (fitsB 2 [unit] && fitsB 1 [done] && eachB mvMay moves) := rfl
 rw [hq]
 dsimp only at hmv ⊢
 have hst : Still w (w.alloc (.cells #[.int .i64 unit, .slice ma moves.length mc, .int .i64 done] 190)) := (Still.refl w).alloc _
 have hbx := cellsAt_new w [.int .i64 unit, .slice ma moves.length mc, .int .i64 done] 190
 have HN := Lib.hid (fun tt => fit_new (w := w.alloc (.cells #[.int .i64 unit, .slice ma moves.length mc, .int .i64 done] 190)) 2 1 rfl [unit] tt (B := w.heap.size + 1) (by simp) rfl (by omega) (by omega) (Still.refl _))
 have HM := Lib.hid (fun w' tt => fit_new (w := w') 1 1 rfl [done] tt rfl rfl (by omega) (by omega) (Still.refl w'))
 have HE := Lib.hid (fun w' (hs : Still w w') => each_mv w' (.slice ma moves.length mc) moves.length moves (hmv.still hs) rfl)
 have HK := Lib.hid (fun w' (hs : Still (w.alloc (.cells #[.int .i64 unit, .slice ma moves.length mc, .int .i64 done] 190)) w') => show Still w w' ∧ cellsAt w' w.heap.size [.int .i64 unit, .slice ma moves.length mc, .int .i64 done] from ⟨hst.trans hs, hbx.only hs fun e => e⟩)
 generalize fitsB 2 [unit] = q1 at *
 generalize fitsB 1 [done] = q2 at *
 generalize eachB mvMay moves = q3 at *
 generalize moves.length = ml at *
 clear hq hst hbx hmv
 cases q1
 all_goals
  go_enter Tryz.func156, Tryz.ntmps156
  go_wp2_with fail
  refine (HN.out _).mono ?_
  rintro e w2 ⟨rfl, hs⟩
  obtain ⟨h1, h2⟩ := HK.out _ hs
  have c1 : w2.cell? ⟨w.heap.size, 1, none⟩ = some (.slice ma ml mc) := h2.cell 1
  have c2 : w2.cell? ⟨w.heap.size, 2, none⟩ = some (.int .i64 done) := h2.cell 2
  have HS := Lib.hid (And.intro h1 hs)
  clear h1 h2 hs
  go_wp2_with fail
 · go_ret
   exact ⟨rfl, HS.out.1⟩
 · cases q2
   all_goals
    refine (HM.out _ _).mono ?_
    rintro e w3 ⟨rfl, hs⟩
    obtain ⟨h1, h2⟩ := HK.out _ (HS.out.2.trans hs)
    have c1' : w3.cell? ⟨w.heap.size, 1, none⟩ = some (.slice ma ml mc) := h2.cell 1
    have HS3 := Lib.hid h1
    clear h1 h2 hs
    go_wp2_with fail
   · go_ret
     exact ⟨rfl, HS3.out⟩
   · refine (HE.out _ HS3.out).mono ?_
     rintro e w4 ⟨rfl, hs⟩
     have F := Lib.hid (show StPost w (.bool (true && true && q3)) (.returned (.bool q3)) w4 from ⟨by rw [Bool.true_and, Bool.true_and], HS3.out.trans hs⟩)
     clear hs
     go_wp2_with fail
     go_ret
     exact F.out

theorem each1_op (w : World) (mb : Nat) (x : POp) {Q : Nat → Prop} (ma : Option Addr) (mc : Nat) (hmv : Sl w Q 4 (.slice ma x.moves.length mc) x.moves.length (x.moves.flatMap mvC)) (hc : w.cell? ⟨mb, 0, none⟩ = some (.func (.func 156) #[] #[])) :
 Calls Tryz.prog 183 #[.agg #[.int .i64 x.unit, .slice ma x.moves.length mc, .int .i64 x.done], .pointer (some ⟨mb, 0, none⟩)] w (StPost w (.bool (!opMay x))) := by
 have hst : Still w (w.alloc (.cells #[.int .i64 x.unit, .slice ma x.moves.length mc, .int .i64 x.done] 190)) := (Still.refl w).alloc _
 have HM := Lib.hid (open_may (w.alloc (.cells #[.int .i64 x.unit, .slice ma x.moves.length mc, .int .i64 x.done] 190)) x ma mc (hmv.still hst))
 have c0 := Still.cell hst hc
 obtain ⟨q, hq⟩ : ∃ q, opMay x = q := ⟨_, rfl⟩
 rw [hq] at HM ⊢
 have HS := Lib.hid hst
 clear hq hst hc hmv
 go_enter Tryz.func183, Tryz.ntmps183
 go_wp2_with fail
 refine HM.out.mono ?_
 rintro e w' ⟨rfl, hs⟩
 have F := Lib.hid (show StPost w (.bool (!q)) (.returned (.bool (!q))) w' from ⟨rfl, HS.out.trans hs⟩)
 clear hs
 cases q
 all_goals
  go_wp2_with fail
  go_ret
  exact F.out
set_option maxHeartbeats 1000000 in
theorem idx_op {Q : Nat → Prop} (w : World) (dv : Value) (m : Nat) (l : List POp) (mb : Nat) (hd : OpSl w Q dv m l) (hl : l.length = m) (hc : w.cell? ⟨mb, 0, none⟩ = some (.func (.func 156) #[] #[])) (hm : m ≤ 40) :
 Calls Tryz.prog 202 #[dv, .func (.func 183) #[] #[.pointer (some ⟨mb, 0, none⟩)]] w (IdxPost w (!l.all opMay)) := by
 obtain ⟨mvs, hml, hd, hmv⟩ := hd
 have HMS := Lib.hid (And.intro hml hmv)
 clear hml hmv
 have H := Lib.hid (And.intro hd (And.intro hl (And.intro hc hm)))
 obtain ⟨da, dc, rfl⟩ := hd.form
 clear hd hl hc hm
 go_enter Tryz.func202, Tryz.ntmps202
 go_wp2_with fail
 go_loopw [8] (fun s wr => ∃ k : Nat, s = .int .i64 k ∧ k ≤ m ∧ Still w wr ∧ (l.take k).all opMay = true) (fun s _ => m - (intOf s).toNat)
 case atStart => exact ⟨0, rfl, Nat.zero_le _, Still.refl _, rfl⟩
 case round =>
  obtain ⟨k, rfl, hk, hst, ht⟩ := hrel
  by_cases hi : k < m
  · obtain ⟨x, hx⟩ : ∃ x, l[k]? = some x := ⟨_, List.getElem?_eq_getElem (by have := H.out.2.1; omega)⟩
    obtain ⟨mv, hmx⟩ : ∃ mv, mvs[k]? = some mv := ⟨_, List.getElem?_eq_getElem (by have := H.out.2.1; have := HMS.out.1; omega)⟩
    have HMV := Lib.hid ((HMS.out.2 k x mv hx hmx).still hst)
    obtain ⟨ma, mc, rfl⟩ := HMV.out.form
    obtain ⟨g, o, c, hg, -, -, hcs⟩ := (H.out.1.still hst).pos (by omega)
    cases hg
    have hfc : ∀ j, j < 3 → ((l.zip mvs).flatMap opC)[k * 3 + j]? = (opC (x, .slice ma x.moves.length mc))[j]? := fun j hj => flat_get (sz := 3) (fun _ => rfl) (l.zip mvs) k j (x, _) (by rw [List.getElem?_zip_eq_some]; exact ⟨hx, hmx⟩) hj
    have c0 : wr.cell? ⟨g, o + k * 3, none⟩ = some (.int .i64 x.unit) := hcs (k * 3) _ (hfc 0 (by omega))
    have c1 : wr.cell? ⟨g, o + k * 3 + 1, none⟩ = some (.slice ma x.moves.length mc) := by rw [Nat.add_assoc]; exact hcs (k * 3 + 1) _ (hfc 1 (by omega))
    have c2 : wr.cell? ⟨g, o + k * 3 + 2, none⟩ = some (.int .i64 x.done) := by rw [Nat.add_assoc]; exact hcs (k * 3 + 2) _ (hfc 2 (by omega))
    have b1 : decide ((k : Int) < (m : Int)) = true := by simp; omega
    have b2 : decide (k < m) = true := by simp; omega
    have b3 : (0 : Int) ≤ (k : Int) := by omega
    have b4 : (k : Int) < (m : Int) := by omega
    have u9 : IntKind.i64.wrap ((k : Int) + 1) = (k : Int) + 1 := IntWalk.i64_in _ (by have := H.out.2.2.2; omega)
    have HF := Lib.hid (each1_op wr mb x ma mc HMV.out (Still.cell hst H.out.2.2.1))
    have HT := Lib.hid (And.intro ht (And.intro hx hst))
    clear hcs ht hx hfc hst hmx
    go_wp2_with fail
    refine HF.out.mono ?_
    rintro e w2 ⟨rfl, hs2⟩
    have HS2 := Lib.hid (HT.out.2.2.trans hs2)
    clear hs2
    cases hq : opMay x with
    | true =>
     have HQ := Lib.hid hq
     clear hq
     go_wp2_with fail
     go_roundw
     case rel => exact ⟨k + 1, by go_num, by omega, HS2.out, by rw [List.take_add_one, HT.out.2.1, Option.toList_some, List.all_append, HT.out.1, List.all_cons, HQ.out]; rfl⟩
     case measure => simp [intOf]; omega
    | false =>
     have F := Lib.hid (show IdxPost w (!l.all opMay) (.returned (.int .i64 (k : Int))) w2 from ⟨k, rfl, by
      have : l.all opMay = false := by
       rw [Bool.eq_false_iff]
       intro hall
       rw [List.all_eq_true] at hall
       have := hall x (List.mem_of_getElem? HT.out.2.1)
       rw [hq] at this
       cases this
      rw [this]
      simp, HS2.out⟩)
     clear hq
     go_wp2_with fail
     go_ret
     exact F.out
  · have hke : k = m := by omega
    subst hke
    have b1 : decide ((k : Int) < (k : Int)) = false := by simp
    have F := Lib.hid (show IdxPost w (!l.all opMay) (.returned (.int .i64 (-1))) wr from ⟨-1, rfl, by
     rw [List.take_of_length_le (by have := H.out.2.1; omega)] at ht
     rw [ht]
     rfl, hst⟩)
    clear ht hst
    go_wp2_with fail
    go_ret
    exact F.out
theorem contains_op {Q : Nat → Prop} (w : World) (dv : Value) (m : Nat) (l : List POp) (mb : Nat) (hd : OpSl w Q dv m l) (hl : l.length = m) (hc : w.cell? ⟨mb, 0, none⟩ = some (.func (.func 156) #[] #[])) (hm : m ≤ 40) :
 Calls Tryz.prog 182 #[dv, .func (.func 183) #[] #[.pointer (some ⟨mb, 0, none⟩)]] w (StPost w (.bool (!l.all opMay))) := by
 have HI := Lib.hid (idx_op w dv m l mb hd hl hc hm)
 obtain ⟨q, hq⟩ : ∃ q, (!l.all opMay) = q := ⟨_, rfl⟩
 rw [hq] at HI ⊢
 clear hd hl hc hm hq
 go_enter Tryz.func182, Tryz.ntmps182
 go_wp2_with fail
 refine HI.out.mono ?_
 rintro e w' ⟨z, rfl, hz, hs⟩
 have F := Lib.hid (show StPost w (.bool q) (.returned (.bool (decide (0 ≤ z)))) w' from ⟨by rw [hz], hs⟩)
 clear hz hs
 go_wp2_with fail
 go_ret
 exact F.out
theorem each_op {Q : Nat → Prop} (w : World) (dv : Value) (m : Nat) (l : List POp) (hd : OpSl w Q dv m l) (hl : l.length = m) :
 Calls Tryz.prog 163 #[dv, .func (.func 156) #[] #[]] w (StPost w (.bool (eachB opMay l))) := by
 have hst : ∀ t, Still w (w.alloc (.cells #[.func (.func 156) #[] #[]] t)) := fun t => (Still.refl w).alloc _
 obtain ⟨da, dc, hdv⟩ : ∃ a c, dv = .slice a m c := hd.elim fun _ h => h.2.1.form
 have he : eachB opMay l = (decide (m ≤ 40) && l.all opMay) := by unfold eachB; rw [hl]
 have HI := Lib.hid (fun t (h40 : m ≤ 40) => contains_op (w.alloc (.cells #[.func (.func 156) #[] #[]] t)) dv m l w.heap.size (hd.only (hst t) (fun _ _ e => e)) hl ((cellsAt_new w [.func (.func 156) #[] #[]] t).cell 0) h40)
 obtain ⟨q, hq⟩ : ∃ q, l.all opMay = q := ⟨_, rfl⟩
 rw [he]
 rw [hq] at HI ⊢
 have HS := Lib.hid hst
 clear hd hl hq he hst
 subst hdv
 by_cases hm : m ≤ 40
 · have d1 : decide ((m : Int) ≤ 40) = true := decide_eq_true (by omega)
   have d2 : decide (m ≤ 40) = true := decide_eq_true hm
   rw [d2, Bool.true_and]
   have HM := Lib.hid hm
   clear hm
   go_enter Tryz.func163, Tryz.ntmps163
   go_wp2_with fail
   refine (HI.out _ HM.out).mono ?_
   rintro e w' ⟨rfl, hs⟩
   have F := Lib.hid (show StPost w (.bool q) (.returned (.bool q)) w' from ⟨rfl, (HS.out _).trans hs⟩)
   clear hs
   cases q
   all_goals
    go_wp2_with fail
    go_ret
    exact F.out
 · have d1 : decide ((m : Int) ≤ 40) = false := decide_eq_false (by omega)
   have d2 : decide (m ≤ 40) = false := decide_eq_false hm
   rw [d2, Bool.false_and]
   have F := Lib.hid (fun t => show StPost w (.bool false) (.returned (.bool false)) (w.alloc (.cells #[.func (.func 156) #[] #[]] t)) from ⟨rfl, HS.out t⟩)
   clear hm
   go_enter Tryz.func163, Tryz.ntmps163
   go_wp2_with fail
   go_ret
   exact F.out _
end Go.Proofs.YtlcfoeikamkpmaaGreat

namespace Go.Proofs.YtlcfoeikamkpmaaGreat
open Go.RowKit Go.Wh Go.Maps

def eV (e : PE) (ov nv mv lv dv pv : Value) : Array Value := #[.int .i64 e.kind, .int .i64 e.txn, .int .i64 e.unit, .int .i64 e.half, .int .i64 e.prev, .int .i64 e.next, .int .i64 e.ap, .int .i64 e.ac, .int .i64 e.tp, .int .i64 e.tc, ov, nv, mv, lv, dv, pv]
structure EIs (w : World) (Q : Nat → Prop) (e : PE) (ov nv mv lv dv pv : Value) : Prop where
 o : Sl w Q 1 ov e.old.length (bc e.old)
 n : Sl w Q 1 nv e.new.length (bc e.new)
 m : Sl w Q 4 mv e.moves.length (e.moves.flatMap mvC)
 l : Sl w Q 4 lv e.lives.length (e.lives.flatMap lvC)
 d : Sl w Q 2 dv e.dirty.length (e.dirty.flatMap dtC)
 p : OpSl w Q pv e.opens.length e.opens
 bo : Byt e.old
 bn : Byt e.new
theorem EIs.only {w w' : World} {Q X : Nat → Prop} {e : PE} {ov nv mv lv dv pv : Value} (h : EIs w Q e ov nv mv lv dv pv) (ho : Only X w w') (hq : ∀ g, Q g → ¬ X g) : EIs w' Q e ov nv mv lv dv pv :=
 ⟨h.o.only ho hq, h.n.only ho hq, h.m.only ho hq, h.l.only ho hq, h.d.only ho hq, h.p.only ho hq, h.bo, h.bn⟩
theorem EIs.still {w w' : World} {Q : Nat → Prop} {e : PE} {ov nv mv lv dv pv : Value} (h : EIs w Q e ov nv mv lv dv pv) (hs : Still w w') : EIs w' Q e ov nv mv lv dv pv := h.only hs fun _ _ e => e
theorem EIs.forms {w : World} {Q : Nat → Prop} {e : PE} {ov nv mv lv dv pv : Value} (h : EIs w Q e ov nv mv lv dv pv) : ∃ oa oc na nc ma mc la lc da dc pa pc, ov = .slice oa e.old.length oc ∧ nv = .slice na e.new.length nc ∧ mv = .slice ma e.moves.length mc ∧ lv = .slice la e.lives.length lc ∧ dv = .slice da e.dirty.length dc ∧ pv = .slice pa e.opens.length pc := by
 obtain ⟨a1, b1, e1⟩ := h.o.form
 obtain ⟨a2, b2, e2⟩ := h.n.form
 obtain ⟨a3, b3, e3⟩ := h.m.form
 obtain ⟨a4, b4, e4⟩ := h.l.form
 obtain ⟨a5, b5, e5⟩ := h.d.form
 obtain ⟨_, _, h6, _⟩ := h.p
 obtain ⟨a6, b6, e6⟩ := h6.form
 exact ⟨a1, b1, a2, b2, a3, b3, a4, b4, a5, b5, a6, b6, e1, e2, e3, e4, e5, e6⟩

end Go.Proofs.YtlcfoeikamkpmaaGreat

namespace Go.Proofs.YtlcfoeikamkpmaaGreat
open Go.RowKit Go.Wh Go.Maps

set_option maxHeartbeats 20000000 in
set_option maxRecDepth 100000 in
theorem may_walk (w : World) (Q : Nat → Prop) (kind txn unit half prev next ap ac tp tc : Int) (old new : List Int) (moves : List PMv) (lives : List PLv) (dirty : List PDt) (opens : List POp) (oa na ma la da pa : Option Addr) (ol oc nl nc ml mc ll lc dl dc pl pc : Nat)
 (h1 : Sl w Q 1 (.slice oa ol oc) ol (bc old)) (h2 : Sl w Q 1 (.slice na nl nc) nl (bc new)) (h3 : Sl w Q 4 (.slice ma ml mc) ml (moves.flatMap mvC)) (k3 : moves.length = ml) (h4 : Sl w Q 4 (.slice la ll lc) ll (lives.flatMap lvC)) (k4 : lives.length = ll) (h5 : Sl w Q 2 (.slice da dl dc) dl (dirty.flatMap dtC)) (k5 : dirty.length = dl) (h6 : OpSl w Q (.slice pa pl pc) pl opens) (k6 : opens.length = pl) :
 Calls Tryz.prog 113 #[.agg #[.int .i64 kind, .int .i64 txn, .int .i64 unit, .int .i64 half, .int .i64 prev, .int .i64 next, .int .i64 ap, .int .i64 ac, .int .i64 tp, .int .i64 tc, .slice oa ol oc, .slice na nl nc, .slice ma ml mc, .slice la ll lc, .slice da dl dc, .slice pa pl pc]] w (StPost w (.bool (decide (1 ≤ kind) && decide (kind ≤ 10) && fitsB 1 [txn, half] && fitsB 2 [unit] && fitsB 3 [prev, next] && fitsB 1 [ap, ac] && fitsB 1 [tp, tc] && imgB old && imgB new && eachB mvMay moves && eachB lvMay lives && eachB dtMay dirty && eachB opMay opens))) := by
 have HC1 := Lib.hid (fun tt => fit_new (w := w.alloc (.cells #[.int .i64 kind, .int .i64 txn, .int .i64 unit, .int .i64 half, .int .i64 prev, .int .i64 next, .int .i64 ap, .int .i64 ac, .int .i64 tp, .int .i64 tc, .slice oa ol oc, .slice na nl nc, .slice ma ml mc, .slice la ll lc, .slice da dl dc, .slice pa pl pc] 69)) 1 2 rfl [txn, half] tt (B := w.heap.size + 1) (by simp) rfl (by omega) (by omega) (Still.refl _))
 have HC2 := Lib.hid (fun w' tt => fit_new (w := w') 2 1 rfl [unit] tt rfl rfl (by omega) (by omega) (Still.refl w'))
 have HC3 := Lib.hid (fun w' tt => fit_new (w := w') 3 2 rfl [prev, next] tt rfl rfl (by omega) (by omega) (Still.refl w'))
 have HC4 := Lib.hid (fun w' => spot_may w' ap ac)
 have HC5 := Lib.hid (fun w' => spot_may w' tp tc)
 have HC6 := Lib.hid (fun w' (hs : Still w w') => image_may w' Q (.slice oa ol oc) ol old (h1.still hs))
 have HC7 := Lib.hid (fun w' (hs : Still w w') => image_may w' Q (.slice na nl nc) nl new (h2.still hs))
 have HC8 := Lib.hid (fun w' (hs : Still w w') => each_mv w' (.slice ma ml mc) ml moves (h3.still hs) k3)
 have HC9 := Lib.hid (fun w' (hs : Still w w') => each_lv w' (.slice la ll lc) ll lives (h4.still hs) k4)
 have HC10 := Lib.hid (fun w' (hs : Still w w') => each_dt w' (.slice da dl dc) dl dirty (h5.still hs) k5)
 have HC11 := Lib.hid (fun w' (hs : Still w w') => each_op w' (.slice pa pl pc) pl opens (h6.only hs (fun _ _ e => e)) k6)
 have hst : Still w (w.alloc (.cells #[.int .i64 kind, .int .i64 txn, .int .i64 unit, .int .i64 half, .int .i64 prev, .int .i64 next, .int .i64 ap, .int .i64 ac, .int .i64 tp, .int .i64 tc, .slice oa ol oc, .slice na nl nc, .slice ma ml mc, .slice la ll lc, .slice da dl dc, .slice pa pl pc] 69)) := (Still.refl w).alloc _
 have hbx := cellsAt_new w [.int .i64 kind, .int .i64 txn, .int .i64 unit, .int .i64 half, .int .i64 prev, .int .i64 next, .int .i64 ap, .int .i64 ac, .int .i64 tp, .int .i64 tc, .slice oa ol oc, .slice na nl nc, .slice ma ml mc, .slice la ll lc, .slice da dl dc, .slice pa pl pc] 69
 have HK := Lib.hid (fun w' (hs : Still (w.alloc (.cells #[.int .i64 kind, .int .i64 txn, .int .i64 unit, .int .i64 half, .int .i64 prev, .int .i64 next, .int .i64 ap, .int .i64 ac, .int .i64 tp, .int .i64 tc, .slice oa ol oc, .slice na nl nc, .slice ma ml mc, .slice la ll lc, .slice da dl dc, .slice pa pl pc] 69)) w') => show Still w w' ∧ cellsAt w' w.heap.size [.int .i64 kind, .int .i64 txn, .int .i64 unit, .int .i64 half, .int .i64 prev, .int .i64 next, .int .i64 ap, .int .i64 ac, .int .i64 tp, .int .i64 tc, .slice oa ol oc, .slice na nl nc, .slice ma ml mc, .slice la ll lc, .slice da dl dc, .slice pa pl pc] from ⟨hst.trans hs, hbx.only hs fun e => e⟩)
 have HS0 := Lib.hid hst
 clear h1 h2 h3 h4 h5 h6 k3 k4 k5 k6 hst hbx
 generalize fitsB 1 [txn, half] = q1 at *
 generalize fitsB 2 [unit] = q2 at *
 generalize fitsB 3 [prev, next] = q3 at *
 generalize fitsB 1 [ap, ac] = q4 at *
 generalize fitsB 1 [tp, tc] = q5 at *
 generalize imgB old = q6 at *
 generalize imgB new = q7 at *
 generalize eachB mvMay moves = q8 at *
 generalize eachB lvMay lives = q9 at *
 generalize eachB dtMay dirty = q10 at *
 generalize eachB opMay opens = q11 at *
 by_cases g1 : 1 ≤ kind
 rotate_left
 · have d1 : decide (1 ≤ kind) = false := decide_eq_false g1
   rw [d1]
   clear g1
   go_enter Tryz.func113, Tryz.ntmps113
   go_wp2_with fail
   go_ret
   exact ⟨rfl, HS0.out⟩
 have d1 : decide (1 ≤ kind) = true := decide_eq_true g1
 by_cases g2 : kind ≤ 10
 rotate_left
 · have d2 : decide (kind ≤ 10) = false := decide_eq_false g2
   rw [d1, d2]
   clear g1 g2
   go_enter Tryz.func113, Tryz.ntmps113
   go_wp2_with fail
   go_ret
   exact ⟨rfl, HS0.out⟩
 have d2 : decide (kind ≤ 10) = true := decide_eq_true g2
 rw [d1, d2]
 clear g1 g2
 go_enter Tryz.func113, Tryz.ntmps113
 go_wp2_with fail
 have HT0 := Lib.hid (Still.refl (w.alloc (.cells #[.int .i64 kind, .int .i64 txn, .int .i64 unit, .int .i64 half, .int .i64 prev, .int .i64 next, .int .i64 ap, .int .i64 ac, .int .i64 tp, .int .i64 tc, .slice oa ol oc, .slice na nl nc, .slice ma ml mc, .slice la ll lc, .slice da dl dc, .slice pa pl pc] 69)))
 refine (HC1.out _).mono ?_
 rintro e w1 ⟨rfl, hs⟩
 have HT1 := Lib.hid (HT0.out.trans hs)
 clear hs
 have hk := (HK.out _ HT1.out).2
 have c2 : w1.cell? ⟨w.heap.size, 2, none⟩ = some (.int .i64 unit) := hk.cell 2
 clear hk
 cases q1
 · go_wp2_with fail
   go_ret
   exact ⟨rfl, (HK.out _ HT1.out).1⟩
 go_wp2_with fail
 clear c2
 refine (HC2.out _ _).mono ?_
 rintro e w2 ⟨rfl, hs⟩
 have HT2 := Lib.hid (HT1.out.trans hs)
 clear hs
 have hk := (HK.out _ HT2.out).2
 have c4 : w2.cell? ⟨w.heap.size, 4, none⟩ = some (.int .i64 prev) := hk.cell 4
 have c5 : w2.cell? ⟨w.heap.size, 5, none⟩ = some (.int .i64 next) := hk.cell 5
 clear hk
 cases q2
 · go_wp2_with fail
   go_ret
   exact ⟨rfl, (HK.out _ HT2.out).1⟩
 go_wp2_with fail
 clear c4 c5
 refine (HC3.out _ _).mono ?_
 rintro e w3 ⟨rfl, hs⟩
 have HT3 := Lib.hid (HT2.out.trans hs)
 clear hs
 have hk := (HK.out _ HT3.out).2
 have c6 : w3.cell? ⟨w.heap.size, 6, none⟩ = some (.int .i64 ap) := hk.cell 6
 have c7 : w3.cell? ⟨w.heap.size, 7, none⟩ = some (.int .i64 ac) := hk.cell 7
 clear hk
 cases q3
 · go_wp2_with fail
   go_ret
   exact ⟨rfl, (HK.out _ HT3.out).1⟩
 go_wp2_with fail
 clear c6 c7
 refine (HC4.out _).mono ?_
 rintro e w4 ⟨rfl, hs⟩
 have HT4 := Lib.hid (HT3.out.trans hs)
 clear hs
 have hk := (HK.out _ HT4.out).2
 have c8 : w4.cell? ⟨w.heap.size, 8, none⟩ = some (.int .i64 tp) := hk.cell 8
 have c9 : w4.cell? ⟨w.heap.size, 9, none⟩ = some (.int .i64 tc) := hk.cell 9
 clear hk
 cases q4
 · go_wp2_with fail
   go_ret
   exact ⟨rfl, (HK.out _ HT4.out).1⟩
 go_wp2_with fail
 clear c8 c9
 refine (HC5.out _).mono ?_
 rintro e w5 ⟨rfl, hs⟩
 have HT5 := Lib.hid (HT4.out.trans hs)
 clear hs
 have hk := (HK.out _ HT5.out).2
 have c10 : w5.cell? ⟨w.heap.size, 10, none⟩ = some (.slice oa ol oc) := hk.cell 10
 clear hk
 cases q5
 · go_wp2_with fail
   go_ret
   exact ⟨rfl, (HK.out _ HT5.out).1⟩
 go_wp2_with fail
 clear c10
 refine (HC6.out _ (HK.out _ HT5.out).1).mono ?_
 rintro e w6 ⟨rfl, hs⟩
 have HT6 := Lib.hid (HT5.out.trans hs)
 clear hs
 have hk := (HK.out _ HT6.out).2
 have c11 : w6.cell? ⟨w.heap.size, 11, none⟩ = some (.slice na nl nc) := hk.cell 11
 clear hk
 cases q6
 · go_wp2_with fail
   go_ret
   exact ⟨rfl, (HK.out _ HT6.out).1⟩
 go_wp2_with fail
 clear c11
 refine (HC7.out _ (HK.out _ HT6.out).1).mono ?_
 rintro e w7 ⟨rfl, hs⟩
 have HT7 := Lib.hid (HT6.out.trans hs)
 clear hs
 have hk := (HK.out _ HT7.out).2
 have c12 : w7.cell? ⟨w.heap.size, 12, none⟩ = some (.slice ma ml mc) := hk.cell 12
 clear hk
 cases q7
 · go_wp2_with fail
   go_ret
   exact ⟨rfl, (HK.out _ HT7.out).1⟩
 go_wp2_with fail
 clear c12
 refine (HC8.out _ (HK.out _ HT7.out).1).mono ?_
 rintro e w8 ⟨rfl, hs⟩
 have HT8 := Lib.hid (HT7.out.trans hs)
 clear hs
 have hk := (HK.out _ HT8.out).2
 have c13 : w8.cell? ⟨w.heap.size, 13, none⟩ = some (.slice la ll lc) := hk.cell 13
 clear hk
 cases q8
 · go_wp2_with fail
   go_ret
   exact ⟨rfl, (HK.out _ HT8.out).1⟩
 go_wp2_with fail
 clear c13
 refine (HC9.out _ (HK.out _ HT8.out).1).mono ?_
 rintro e w9 ⟨rfl, hs⟩
 have HT9 := Lib.hid (HT8.out.trans hs)
 clear hs
 have hk := (HK.out _ HT9.out).2
 have c14 : w9.cell? ⟨w.heap.size, 14, none⟩ = some (.slice da dl dc) := hk.cell 14
 clear hk
 cases q9
 · go_wp2_with fail
   go_ret
   exact ⟨rfl, (HK.out _ HT9.out).1⟩
 go_wp2_with fail
 clear c14
 refine (HC10.out _ (HK.out _ HT9.out).1).mono ?_
 rintro e w10 ⟨rfl, hs⟩
 have HT10 := Lib.hid (HT9.out.trans hs)
 clear hs
 have hk := (HK.out _ HT10.out).2
 have c15 : w10.cell? ⟨w.heap.size, 15, none⟩ = some (.slice pa pl pc) := hk.cell 15
 clear hk
 cases q10
 · go_wp2_with fail
   go_ret
   exact ⟨rfl, (HK.out _ HT10.out).1⟩
 go_wp2_with fail
 clear c15
 refine (HC11.out _ (HK.out _ HT10.out).1).mono ?_
 rintro e w11 ⟨rfl, hs⟩
 have HT11 := Lib.hid (HT10.out.trans hs)
 clear hs
 have F := Lib.hid (show StPost w (.bool (true && true && true && true && true && true && true && true && true && true && true && true && q11)) (.returned (.bool q11)) w11 from ⟨by simp, (HK.out _ HT11.out).1⟩)
 go_wp2_with fail
 go_ret
 exact F.out
theorem mayE_any (w : World) (Q : Nat → Prop) (e : PE) (ov nv mv lv dv pv : Value) (h : EIs w Q e ov nv mv lv dv pv) : Calls Tryz.prog 113 #[.agg (eV e ov nv mv lv dv pv)] w (StPost w (.bool e.may)) := by
 obtain ⟨oa, oc, na, nc, ma, mc, la, lc, da, dc, pa, pc, rfl, rfl, rfl, rfl, rfl, rfl⟩ := h.forms
 exact may_walk w Q _ _ _ _ _ _ _ _ _ _ _ _ _ _ _ _ oa na ma la da pa _ oc _ nc _ mc _ lc _ dc _ pc h.o h.n h.m rfl h.l rfl h.d rfl h.p rfl
end Go.Proofs.YtlcfoeikamkpmaaGreat

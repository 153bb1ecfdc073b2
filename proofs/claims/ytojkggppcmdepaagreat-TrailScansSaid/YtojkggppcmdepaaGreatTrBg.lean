/- begun answers true. No conditions. -/
import Derived.Test.YtojkggppcmdepaaGreatTrBe
namespace Go.Proofs.YtojkggppcmdepaaGreat
open Go.RowKit Go.Wh Go.Maps

def BTrue (W : World) (e : Ending) (w' : World) : Prop := e = .returned (.bool true) ∧ Still W w'
theorem still_of {A : Nat → Prop} {W w w' : World} (h : Still W w) (ho : Only A w w') (ha : ∀ g, A g → W.heap.size ≤ g) : Still W w' := h.andThen ho fun i hi e => by have := ha i e; omega
set_option maxRecDepth 100000 in
theorem ap_n {B : Nat → Prop} {w : World} {t d at_ n st : Nat} {es : List PE} {k x : Int} (h : TlX B t d at_ n es st w) (hm : (nE k x).may = true) (hr : (streamB es).length + 25 ≤ n * 63) {N : Int} (hN : ((es.length + 1 : Nat) : Int) = N) :
    Calls Tryz.prog 17 #[.pointer (some ⟨t, 0, none⟩), .agg #[.int .i64 k, .int .i64 x, .int .i64 0, .int .i64 0, .int .i64 0, .int .i64 0, .int .i64 0, .int .i64 0, .int .i64 0, .int .i64 0, .slice none 0 0, .slice none 0 0, .slice none 0 0, .slice none 0 0, .slice none 0 0, .slice none 0 0]] w (fun en w' => en = .returned (.tuple #[.int .i64 N, .int .i64 0]) ∧ TlX (Newer B w w') t d at_ n (es ++ [nE k x]) st w' ∧ Only B w w') :=
  ap_ok (e := nE k x) (ov := .slice none 0 0) (nv := .slice none 0 0) (mv := .slice none 0 0) (lv := .slice none 0 0) (dv := .slice none 0 0) (pv := .slice none 0 0) h (nE_is w (fun _ => True) k x) hm (by rw [nE_len]; exact hr) hN
set_option maxRecDepth 100000 in
theorem ap_nfull {B : Nat → Prop} {w : World} {t d at_ n st : Nat} {es : List PE} {k x : Int} (h : TlX B t d at_ n es st w) (hm : (nE k x).may = true) (hr : n * 63 < (streamB es).length + 25) :
    Calls Tryz.prog 17 #[.pointer (some ⟨t, 0, none⟩), .agg #[.int .i64 k, .int .i64 x, .int .i64 0, .int .i64 0, .int .i64 0, .int .i64 0, .int .i64 0, .int .i64 0, .int .i64 0, .int .i64 0, .slice none 0 0, .slice none 0 0, .slice none 0 0, .slice none 0 0, .slice none 0 0, .slice none 0 0]] w (fun en w' => en = .returned (.tuple #[.int .i64 0, .int .i64 5]) ∧ TlX (Newer B w w') t d at_ n es st w' ∧ Only B w w') :=
  ap_full (e := nE k x) (ov := .slice none 0 0) (nv := .slice none 0 0) (mv := .slice none 0 0) (lv := .slice none 0 0) (dv := .slice none 0 0) (pv := .slice none 0 0) h (nE_is w (fun _ => True) k x) hm (by rw [nE_len]; exact hr)
set_option maxRecDepth 100000 in
theorem ap_nbad {B : Nat → Prop} {w : World} {t d at_ n st : Nat} {es : List PE} {x : Int} (h : TlX B t d at_ n es st w) :
    Calls Tryz.prog 17 #[.pointer (some ⟨t, 0, none⟩), .agg #[.int .i64 0, .int .i64 x, .int .i64 0, .int .i64 0, .int .i64 0, .int .i64 0, .int .i64 0, .int .i64 0, .int .i64 0, .int .i64 0, .slice none 0 0, .slice none 0 0, .slice none 0 0, .slice none 0 0, .slice none 0 0, .slice none 0 0]] w (fun en w' => en = .returned (.tuple #[.int .i64 0, .int .i64 1]) ∧ TlX (Newer B w w') t d at_ n es st w' ∧ Only B w w') :=
  ap_bad (e := nE 0 x) (ov := .slice none 0 0) (nv := .slice none 0 0) (mv := .slice none 0 0) (lv := .slice none 0 0) (dv := .slice none 0 0) (pv := .slice none 0 0) h (nE_is w (fun _ => True) 0 x) (nE_not x)
set_option maxRecDepth 100000 in
theorem frame_n (w : World) {k x : Int} (hm : (nE k x).may = true) : Calls Tryz.prog 8 #[.agg #[.int .i64 k, .int .i64 x, .int .i64 0, .int .i64 0, .int .i64 0, .int .i64 0, .int .i64 0, .int .i64 0, .int .i64 0, .int .i64 0, .slice none 0 0, .slice none 0 0, .slice none 0 0, .slice none 0 0, .slice none 0 0, .slice none 0 0]] w (FreshPost w 1 25 (bc (frameB (nE k x)))) := by
  have := frame_yes w (fun _ => True) (nE k x) _ _ _ _ _ _ (nE_is w (fun _ => True) k x) hm
  rw [nE_len] at this
  exact this

set_option maxHeartbeats 4000000 in
set_option maxRecDepth 100000 in
theorem begun_any (W : World) : Calls Tryz.prog 6 #[] W (BTrue W) := by
  have HN := Lib.hid (newx_any W 10 (by omega) rfl)
  have HM1 := Lib.hid (nE_may (k := 5) (t := 1) (by omega) (by omega))
  have HM0 := Lib.hid (nE_may (k := 5) (t := 0) (by omega) (by omega))
  go_enter Tryz.func6, Tryz.ntmps6
  go_wp2_with fail
  refine HN.out.mono ?_
  rintro en w1 ⟨d, rfl, hd1, hs1⟩
  have HO := Lib.hid (open_zero (at_ := 2) (n := 8) hd1 (by omega) (by omega) rfl rfl)
  have H1 := Lib.hid hs1
  clear hd1 hs1 HN
  go_wp2_with fail
  refine HO.out.mono ?_
  rintro en w2 ⟨t, la, lc, A2, B2, C2, rfl, hd2, ht2, -, ho2, ha2, hb2, -, hab2, -, -⟩
  have hs2 : Still W w2 := still_of H1.out ho2 fun g hg => hg.1
  have hA2 : ∀ g, A2 g → W.heap.size ≤ g := fun g hg => (ha2 g hg).elim (fun e => e.1) fun e => by have := H1.out.size; omega
  have hB2 : ∀ g, B2 g → W.heap.size ≤ g := fun g hg => by have := hb2 g hg; have := H1.out.size; omega
  have HAP := Lib.hid (ap_n (k := 5) (x := 1) ht2 HM1.out (by simp [streamB]) rfl)
  have H2 := Lib.hid (And.intro hd2 (And.intro ht2 (And.intro hs2 (And.intro hA2 (And.intro hB2 hab2)))))
  clear hd2 ht2 hs2 hA2 hB2 ho2 ha2 hb2 hab2 HO
  go_wp2_with fail
  refine HAP.out.mono ?_
  rintro en w3 ⟨rfl, ht3, ho3⟩
  have hd3 := H2.out.1.only ho3 fun g hg e => H2.out.2.2.2.2.2 g hg e
  have hs3 : Still W w3 := still_of H2.out.2.2.1 ho3 H2.out.2.2.2.2.1
  have hab3 : ∀ g, A2 g → ¬ Newer B2 w2 w3 g := fun g hg e => e.elim (H2.out.2.2.2.2.2 g hg) fun e => by have := H2.out.1.lt g hg; omega
  have HST := Lib.hid (stable_x ht3 (N := 0) rfl)
  have HFO := Lib.hid (force_any ht3 hd3 hab3 (by unfold zeroT; rw [List.length_replicate]; omega))
  have H3 := Lib.hid (And.intro hs3 (And.intro hab3 (And.intro (show w2.heap.size ≤ w3.heap.size from ho3.size) fun g (hg : Newer B2 w2 w3 g) => show W.heap.size ≤ g from hg.elim (H2.out.2.2.2.2.1 g) fun e => by have := H2.out.2.2.1.size; omega)))
  clear ht3 hd3 hs3 hab3 ho3 HAP
  go_wp2_with fail
  refine HST.out.mono ?_
  rintro en w3' ⟨rfl, rfl⟩
  go_wp2_with fail
  refine HFO.out.mono ?_
  rintro en w4 ⟨rfl, ht4, hd4, ho4⟩
  have hif : (if 0 = ([] ++ [nE 5 1] : List PE).length then zeroT 10 else layB (zeroT 10) 2 (streamB ([] ++ [nE 5 1])) 8) = layB (zeroT 10) 2 (streamB [nE 5 1]) 8 := rfl
  rw [show ([] : List PE).length = 0 from rfl, hif] at hd4
  have hA4 : ∀ g, Newer A2 w3' w4 g → W.heap.size ≤ g := fun g hg => hg.elim (H2.out.2.2.2.1 g) fun e => by have := H3.out.1.size; omega
  have hs4 : Still W w4 := H3.out.1.andThen ho4 fun i hi e => e.elim (fun e => by have := H2.out.2.2.2.1 i e; omega) fun e => by have := H3.out.2.2.2 i e; omega
  have hab4 : ∀ g, Newer A2 w3' w4 g → ¬ Newer B2 w2 w3' g := fun g hg e => hg.elim (fun h => H3.out.2.1 g h e) fun h => e.elim (fun e => by have := H2.out.2.1.lt g e; have := H3.out.2.2.1; omega) fun e => by omega
  have hsl : (streamB [nE 5 1]).length = 25 := by rw [streamB_one, nE_len]
  have HO2 := Lib.hid (open_laid (es := [nE 5 1]) hd4 (by unfold zeroT; rw [List.length_replicate]; omega) (by omega) (fun e he => by rw [List.mem_singleton.1 he]; exact HM1.out) (by rw [hsl]; omega) rfl rfl)
  have H4 := Lib.hid (And.intro ht4 (And.intro hs4 (And.intro hA4 (And.intro hab4 hsl))))
  clear ht4 hd4 ho4 hif hA4 hs4 hab4 hsl HFO HST
  go_wp2_with fail
  refine HO2.out.mono ?_
  rintro en w5 ⟨u, ua, uc, A5, B5, C5, rfl, hd5, hu5, -, ho5, -, -, -, -, -, -⟩
  have ht5 := H4.out.1.only ho5 fun g hg e => H4.out.2.2.2.1 g e hg
  have hs5 := still_of H4.out.2.1 ho5 H4.out.2.2.1
  have HFR := Lib.hid (frame_n w5 HM0.out)
  have H5 := Lib.hid (And.intro ht5 hs5)
  clear hd5 hu5 ho5 ht5 hs5 HO2
  go_wp2_with fail
  refine HFR.out.mono ?_
  rintro en w6 ⟨fv, rfl, hfv, hb6, ho6⟩
  have hs6 : Still w5 w6 := Only.ofBelow hb6
  have HSC := Lib.hid (scan_any w6 (fun _ => True) fv 25 (frameB (nE 5 0)) (Vec.sl0 hfv (by omega)) (Vec.capOf hfv) (frameB_byt _ (fun z hz => by cases hz) (fun z hz => by cases hz)) (by omega))
  have hsc : scanB ((frameB (nE 5 0)).length + 1) (frameB (nE 5 0)) = ([nE 5 0], 25) := by
    have := scanB_stream firstB_nil [nE 5 0] ((frameB (nE 5 0)).length + 1) (fun e he => by rw [List.mem_singleton.1 he]; exact HM0.out) (by rw [nE_len]; decide)
    rw [List.append_nil, streamB_one, nE_len] at this
    rw [nE_len]
    exact this
  unfold ScanPost at HSC
  rw [hsc] at HSC
  have H6 := Lib.hid (And.intro (H5.out.1.still hs6) (H5.out.2.trans hs6))
  obtain ⟨fa, fc, rfl⟩ := hfv.form'
  clear hfv hb6 ho6 hs6 hsc HFR
  go_wp2_with fail
  refine HSC.out.mono ?_
  rintro en w7 ⟨lv, rfl, hen, hs7⟩
  obtain ⟨ka, kc, rfl⟩ := hen.form
  have ht7 := H6.out.1.still hs7
  have HS7 := Lib.hid (H6.out.2.trans hs7)
  have HQ1 := Lib.hid (stable_x ht7 (N := 1) rfl)
  have HQ2 := Lib.hid (count_x ht7 (N := 1) rfl)
  have HQ3 := Lib.hid (left_x ht7 (N := 479) (by rw [show ([] ++ [nE 5 1] : List PE) = [nE 5 1] from rfl, H4.out.2.2.2.2]; rfl))
  clear hen hs7 ht7 HSC
  go_wp2_with fail
  refine HQ1.out.mono ?_
  rintro en w8 ⟨rfl, rfl⟩
  go_wp2_with fail
  refine HQ2.out.mono ?_
  rintro en w9 ⟨rfl, rfl⟩
  go_wp2_with fail
  refine HQ3.out.mono ?_
  rintro en w10 ⟨rfl, hs10⟩
  have F := Lib.hid (show BTrue W (.returned (.bool true)) w10 from ⟨rfl, HS7.out.trans hs10⟩)
  clear hs10 HQ1 HQ2 HQ3
  go_wp2_with fail
  go_ret
  exact F.out
end Go.Proofs.YtojkggppcmdepaaGreat

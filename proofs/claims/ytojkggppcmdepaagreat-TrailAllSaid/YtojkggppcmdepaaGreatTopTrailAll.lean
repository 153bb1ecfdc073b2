/- TrailAll answers true. Conditions: deeds that lie in memory. TrailAll: for every input the law returns true and its arguments read as before. No conditions beyond the row's. -/
import Derived.Test.YtojkggppcmdepaaGreatQa28
import Derived.Deep.CutBlock
import Derived.Deep.MidRow
namespace Go.Proofs.YtojkggppcmdepaaGreat
open Go.RowKit Go.Wh Go.Maps

def zD : List Value := [.int .i64 0, .int .i64 0, .slice none 0 0, .int .i64 0, .int .i64 0, .int .i64 0, .int .i64 0, .int .i64 0, .int .i64 0, .int .i64 0, .int .i64 0, .int .i64 0, .int .i64 0, .slice none 0 0, .slice none 0 0, .slice none 0 0, .slice none 0 0, .slice none 0 0, .slice none 0 0, .slice none 0 0]
theorem size_dd : (Tryz.prog.info? 53).map (·.size) = some 20 := by kernel_rfl
def AlLoop (W : World) (k d r : Nat) (s8 s11 : Value) (wr : World) : Prop := ∃ x y D es st, s8 = .pointer (some ⟨x, 0, none⟩) ∧ s11 = .pointer (some ⟨y, 0, none⟩) ∧ AlX W k d r x y wr D es st
def AlMid (W : World) (k d r x y : Nat) (b : Bool) (wr : World) : Prop := (b = false ∧ ∃ D es st, AlX W k d r x y wr D es st) ∨ (b = true ∧ ∃ D, AlDX W k d r wr D)
theorem reads_sl {w : World} {v : Value} {n : Nat} {xs : List Value} (h : Reads w 1 v n xs) (hn : 0 < n) : Sl w (fun g => v.ownBlock = some g) 1 v n xs := by
 refine ⟨h.1, ?_⟩
 rcases h.2 with ⟨rfl, rfl⟩ | ⟨a, c, rfl, h2⟩
 · omega
 · obtain ⟨b, o, spot⟩ := a
   have hl := h.1
   obtain ⟨x, hx⟩ : ∃ x, xs[0]? = some x := ⟨_, List.getElem?_eq_getElem (by omega)⟩
   have h0 := h2 0 x hx
   have hs : spot = none := by simpa [Addr.add] using World.cell?_spot h0
   subst hs
   have hb : b < w.heap.size := by
    have := h0
    rw [Addr.add_lit] at this
    exact lt_of_cell this
   exact .inr ⟨b, o, c, rfl, fun _ => ⟨rfl, hb⟩, fun j u hj => by
    have := h2 j u hj
    rw [Addr.add_lit] at this
    exact this⟩
theorem newD_plan (n : Nat) : (newD n).plan = none := rfl
theorem newD_fine (n : Nat) : (newD n).fine := fun _ _ e => by cases e
theorem newD_byt (n : Nat) : (newD n).byt := by
 refine ⟨fun l hl z hz => ?_, fun i l e => by cases e⟩
 unfold newD zeroT at hl
 rw [List.eq_of_mem_replicate hl] at hz
 rw [List.eq_of_mem_replicate hz]
 decide
theorem newD_len (n : Nat) : (newD n).T.length = n := by simp [newD, zeroT]
set_option maxHeartbeats 16000000 in
set_option maxRecDepth 100000 in
theorem all_walk (W : World) (z : Int) (la : Option Addr) (n lc : Nat) (L : List PDd) (hz0 : 0 ≤ z) (hl : L.length = n) (hs : Sl W (fun g => g < W.heap.size) 20 (.slice la n lc) n (L.flatMap PDd.cells)) (hd : ∀ D ∈ L, DdIs W D) :
 Calls Tryz.prog 4 #[.int .u8 z, .slice la n lc] W (BTrue W) := by
 have HBG := Lib.hid (begun_any W)
 have HL := Lib.hid (And.intro hl (And.intro hs hd))
 clear hl hs hd
 by_cases h25 : 25 < n
 · have b1 : decide ((25 : Int) < (n : Int)) = true := decide_eq_true (by omega)
   have b3 : decide (25 < n) = true := decide_eq_true h25
   go_enter Tryz.func4, Tryz.ntmps4
   go_wp2_with fail
   refine HBG.out.mono ?_
   rintro en w1 ⟨rfl, hs1⟩
   have F := Lib.hid (show BTrue W (.returned (.bool true)) w1 from ⟨rfl, hs1⟩)
   clear hs1 HBG
   go_wp2_with fail
   go_ret
   exact F.out
 have b1 : decide ((25 : Int) < (n : Int)) = false := decide_eq_false (by omega)
 have b3 : decide (25 < n) = false := decide_eq_false h25
 obtain ⟨k, hk⟩ : ∃ k : Nat, z % 24 = (k : Int) := ⟨(z % 24).toNat, by omega⟩
 have HK := Lib.hid (show k < 24 by omega)
 have HN := Lib.hid (show n ≤ 25 by omega)
 have z1 : z.tmod 24 = (k : Int) := by rw [Int.tmod_eq_emod_of_nonneg hz0]; exact hk
 have z3 : IntKind.i64.wrap (k : Int) = (k : Int) := IntWalk.i64_in _ (by have := HK.out; omega)
 have z5 : IntKind.i64.wrap ((k : Int) + 2) = (k : Int) + 2 := IntWalk.i64_in _ (by have := HK.out; omega)
 have z6 : IntKind.u8.wrap (k : Int) = (k : Int) := by
  have := HK.out
  rw [IntKind.wrap_u8]
  omega
 clear h25 hk hz0
 go_enter Tryz.func4, Tryz.ntmps4
 go_wp2_with fail
 refine HBG.out.mono ?_
 rintro en w1 ⟨rfl, hs1⟩
 have H1 := Lib.hid hs1
 have HN1 := Lib.hid (new_g w1 (k + 2) (by have := HK.out; omega) (N := (k : Int) + 2) (by omega))
 clear hs1 HBG
 go_wp2_with fail
 refine HN1.out.mono ?_
 rintro en w2 ⟨d, rfl, hd2, hs2⟩
 have HN2 := Lib.hid (rnew_any w2 (k + 2) (by omega) (by have := HK.out; omega) (N := (k : Int) + 2) (by omega))
 have H2 := Lib.hid (And.intro hd2 hs2)
 clear hd2 hs2 HN1
 go_wp2_with fail
 refine HN2.out.mono ?_
 rintro en w3 ⟨r, rfl, hr3, hs3⟩
 have HD3 := Lib.hid (show ∃ A1 A2, AlD W k d r A1 A2 w3 (newD (k + 2)) from by
  have z1 := H1.out.size
  have z2 := H2.out.2.size
  have z3 := hs3.size
  exact ⟨_, _, ⟨H2.out.1.still hs3, hr3, fun g e1 e2 => by omega, fun g e => by omega, fun g e => by omega, newD_fine _, newD_byt _, newD_len _, (H1.out.trans H2.out.2).trans hs3⟩⟩)
 obtain ⟨A1, A2, hD3⟩ := HD3.out
 have HD3 := Lib.hid hD3
 have HO1 := Lib.hid (al_open1 hD3 rfl (by have := HK.out; omega))
 clear hr3 hs3 HN2 H2 hD3
 go_wp2_with fail
 refine HO1.out.mono ?_
 intro en w4 hp
 obtain ⟨E, hE⟩ : ∃ E, openE (newD (k + 2)) 1 k = E := ⟨_, rfl⟩
 obtain ⟨R, hR⟩ : ∃ R, (newD (k + 2)).clean 1 (streamB E) k = R := ⟨_, rfl⟩
 have hR0 : R.1 = 0 := by rw [← hR]; exact (PDk.clean_plain rfl rfl).1
 unfold OpPostA at hp
 rw [hE, hR, if_pos hR0] at hp
 obtain ⟨x, lv, es', A', B', C', rfl, rfl, p1, p2, p3, p4, p5, p6, p7, p8, p9, p10⟩ := hp
 obtain ⟨xa, xc, rfl⟩ := p3.form
 have HO2 := Lib.hid (al_open2 HD3.out rfl (by have := HK.out; omega) hE hR hR0 p1 p2 p3 p4 p5 p6 p7 p8)
 clear hE hR hR0 p1 p2 p3 p4 p5 p6 p7 p8 p9 p10 HO1 HD3
 go_wp2_with fail
 refine HO2.out.mono ?_
 rintro en w5 ⟨y, ya, yc, rfl, hX, -, -⟩
 have HX := Lib.hid (show AlLoop W k d r (.pointer (some ⟨x, 0, none⟩)) (.pointer (some ⟨y, 0, none⟩)) w5 from ⟨x, y, _, _, _, rfl, rfl, hX⟩)
 clear hX HO2
 go_wp2_with fail
 go_loopw [8, 11, 14] (fun s8 s11 s14 wr => ∃ i : Nat, s14 = .int .i64 i ∧ i ≤ n ∧ AlLoop W k d r s8 s11 wr) (fun _ _ s14 _ => n - (intOf s14).toNat)
 case atStart => exact ⟨0, rfl, Nat.zero_le _, HX.out⟩
 clear HX
 obtain ⟨i, rfl, hin, x, y, D, es, st, rfl, rfl, hX⟩ := hrel
 have HX := Lib.hid hX
 have HIN := Lib.hid hin
 clear hX
 by_cases hi : i < n
 rotate_left
 · have d1 : decide ((i : Int) < (n : Int)) = false := decide_eq_false (by omega)
   have d2 : decide (i < n) = false := decide_eq_false hi
   have F := Lib.hid (show BTrue W (.returned (.bool true)) wr from by
    obtain ⟨A1, A2, h⟩ := HX.out.disks
    exact ⟨rfl, h.still⟩)
   clear hi hin
   go_wp2_with fail
   go_ret
   exact F.out
 have d1 : decide ((i : Int) < (n : Int)) = true := decide_eq_true (by omega)
 have d2 : decide (i < n) = true := decide_eq_true hi
 have l0 : (0 : Int) ≤ (i : Int) := by omega
 have l1 : (i : Int) < (n : Int) := by omega
 have u1 : IntKind.i64.wrap ((i : Int) + 1) = (i : Int) + 1 := IntWalk.i64_in _ (by have := HN.out; omega)
 have HI := Lib.hid hi
 obtain ⟨D0, hD0⟩ : ∃ D0, L[i]? = some D0 := ⟨_, List.getElem?_eq_getElem (by rw [HL.out.1]; exact hi)⟩
 have HWr := Lib.hid (show Still W wr from by
  obtain ⟨A1, A2, h⟩ := HX.out.disks
  exact h.still)
 as_aux_lemma =>
  obtain ⟨g, o, c', hsa, -, -, hcs⟩ := (HL.out.2.1.still HWr.out).pos (by omega)
  cases hsa
  have hdd := HL.out.2.2 D0 (List.mem_of_getElem? hD0)
  have hgc : ∀ j u, j < 20 → D0.cells[j]? = some u → wr.cell? ⟨g, o + (i * 20 + j), none⟩ = some u := fun j u hj hu => hcs _ _ (by
   rw [flat_get PDd.cells_length L i j D0 hD0 hj]
   exact hu)
  obtain ⟨oa, oc, na, nc, ua, uc, ka, kc, da, dc, va, vc, f1, f2, f3, f4, f5, f6⟩ := hdd.e.forms
  obtain ⟨ma, mc, f7⟩ := hdd.m.form
  obtain ⟨ra, rc, f8⟩ := hdd.r.form
  obtain ⟨mn, hmn⟩ : ∃ m, D0.mask.length = m := ⟨_, rfl⟩
  obtain ⟨rn, hrn⟩ : ∃ m, D0.raw.length = m := ⟨_, rfl⟩
  rw [hmn] at f7
  rw [hrn] at f8
  have hcl : D0.cells = (#[.int .i64 D0.kind, .int .i64 D0.at_, .slice ma mn mc, .int .i64 D0.z.e.kind, .int .i64 D0.z.e.txn, .int .i64 D0.z.e.unit, .int .i64 D0.z.e.half, .int .i64 D0.z.e.prev, .int .i64 D0.z.e.next, .int .i64 D0.z.e.ap, .int .i64 D0.z.e.ac, .int .i64 D0.z.e.tp, .int .i64 D0.z.e.tc, .slice oa D0.z.e.old.length oc, .slice na D0.z.e.new.length nc, .slice ua D0.z.e.moves.length uc, .slice ka D0.z.e.lives.length kc, .slice da D0.z.e.dirty.length dc, .slice va D0.z.e.opens.length vc, .slice ra rn rc] : Array Value).toList := by
   unfold PDd.cells PEx.cells eV
   rw [f1, f2, f3, f4, f5, f6, f7, f8]
   rfl
  rw [hcl] at hgc
  have hei := hdd.e
  rw [f1, f2, f3, f4, f5, f6] at hei
  have hmi := hdd.m
  have hri := hdd.r
  rw [f7, hmn] at hmi
  rw [f8, hrn] at hri
  have HDD := Lib.hid (And.intro hei (And.intro hmi (And.intro hri (And.intro hdd (And.intro hmn hrn)))))
  have HRG := Lib.hid (show wr.rangeAt g (o + i * 20) (#[.int .i64 D0.kind, .int .i64 D0.at_, .slice ma mn mc, .int .i64 D0.z.e.kind, .int .i64 D0.z.e.txn, .int .i64 D0.z.e.unit, .int .i64 D0.z.e.half, .int .i64 D0.z.e.prev, .int .i64 D0.z.e.next, .int .i64 D0.z.e.ap, .int .i64 D0.z.e.ac, .int .i64 D0.z.e.tp, .int .i64 D0.z.e.tc, .slice oa D0.z.e.old.length oc, .slice na D0.z.e.new.length nc, .slice ua D0.z.e.moves.length uc, .slice ka D0.z.e.lives.length kc, .slice da D0.z.e.dirty.length dc, .slice va D0.z.e.opens.length vc, .slice ra rn rc] : Array Value).toList from fun j u hj => by rw [Nat.add_assoc]; exact hgc j u (List.getElem?_eq_some_iff.1 hj).1 hj)
  clear hcl hgc hei hmi hri hdd hmn hrn f1 f2 f3 f4 f5 f6 f7 f8 hcs hD0 hi hin
  have HZN := Lib.hid (fun tt => cellsAt_new wr zD tt)
  have HSF := Lib.hid (fun tt wf (hof : Only (fun b => b = wr.heap.size) (wr.alloc (.cells #[.int .i64 0, .int .i64 0, .slice none 0 0, .int .i64 0, .int .i64 0, .int .i64 0, .int .i64 0, .int .i64 0, .int .i64 0, .int .i64 0, .int .i64 0, .int .i64 0, .int .i64 0, .slice none 0 0, .slice none 0 0, .slice none 0 0, .slice none 0 0, .slice none 0 0, .slice none 0 0, .slice none 0 0] tt)) wf) => show Still wr wf from Only.andThen ((Still.refl wr).alloc _) hof fun i hi e => by have e' : i = wr.heap.size := e; omega)
  go_upto_region 15 with (first | (refine wpList_load_mid rfl 53 _ rfl g (o + i * 20) rfl (#[.int .i64 D0.kind, .int .i64 D0.at_, .slice ma mn mc, .int .i64 D0.z.e.kind, .int .i64 D0.z.e.txn, .int .i64 D0.z.e.unit, .int .i64 D0.z.e.half, .int .i64 D0.z.e.prev, .int .i64 D0.z.e.next, .int .i64 D0.z.e.ap, .int .i64 D0.z.e.ac, .int .i64 D0.z.e.tp, .int .i64 D0.z.e.tc, .slice oa D0.z.e.old.length oc, .slice na D0.z.e.new.length nc, .slice ua D0.z.e.moves.length uc, .slice ka D0.z.e.lives.length kc, .slice da D0.z.e.dirty.length dc, .slice va D0.z.e.opens.length vc, .slice ra rn rc] : Array Value).toList _ HRG.out Tryz.underlying53 rfl size_dd ?_) | (refine wpList_storeAgg rfl 53 _ _ rfl wr.heap.size #[.int .i64 D0.kind, .int .i64 D0.at_, .slice ma mn mc, .int .i64 D0.z.e.kind, .int .i64 D0.z.e.txn, .int .i64 D0.z.e.unit, .int .i64 D0.z.e.half, .int .i64 D0.z.e.prev, .int .i64 D0.z.e.next, .int .i64 D0.z.e.ap, .int .i64 D0.z.e.ac, .int .i64 D0.z.e.tp, .int .i64 D0.z.e.tc, .slice oa D0.z.e.old.length oc, .slice na D0.z.e.new.length nc, .slice ua D0.z.e.moves.length uc, .slice ka D0.z.e.lives.length kc, .slice da D0.z.e.dirty.length dc, .slice va D0.z.e.opens.length vc, .slice ra rn rc] rfl rfl (HZN.out _) size_dd rfl rfl ?_; intro wf hcf hof hzf; have HWF := Lib.hid (And.intro hcf (HSF.out _ wf hof)); clear hcf hof hzf))
  as_aux_lemma =>
   obtain ⟨bx, hbx⟩ : ∃ b, wr.heap.size = b := ⟨_, rfl⟩
   rw [hbx] at HWF ⊢
   have HBX := Lib.hid hbx
   clear HZN HSF hbx
   have HXf := Lib.hid (And.intro (HX.out.step HWF.out.2) (HWr.out.trans HWF.out.2))
   have F0 := Lib.hid (fun w' (hs : Still wf w') => show BTrue W (.returned (.bool true)) w' from ⟨rfl, HXf.out.2.trans hs⟩)
   have SB := Lib.hid (fun w' (hs : Still wf w') => show cellsAt w' bx (#[.int .i64 D0.kind, .int .i64 D0.at_, .slice ma mn mc, .int .i64 D0.z.e.kind, .int .i64 D0.z.e.txn, .int .i64 D0.z.e.unit, .int .i64 D0.z.e.half, .int .i64 D0.z.e.prev, .int .i64 D0.z.e.next, .int .i64 D0.z.e.ap, .int .i64 D0.z.e.ac, .int .i64 D0.z.e.tp, .int .i64 D0.z.e.tc, .slice oa D0.z.e.old.length oc, .slice na D0.z.e.new.length nc, .slice ua D0.z.e.moves.length uc, .slice ka D0.z.e.lives.length kc, .slice da D0.z.e.dirty.length dc, .slice va D0.z.e.opens.length vc, .slice ra rn rc] : Array Value).toList from HWF.out.1.only hs fun e => e)
   have k2 : wf.cell? ⟨bx, 2, none⟩ = some (.slice ma mn mc) := HWF.out.1.cell 2
   by_cases hm8 : 8 < mn
   · have e1 : decide ((8 : Int) < (mn : Int)) = true := decide_eq_true (by omega)
     have e1' : decide (8 < mn) = true := decide_eq_true hm8
     go_wp2_with fail
     go_ret
     exact F0.out _ (Still.refl _)
   have e1 : decide ((8 : Int) < (mn : Int)) = false := decide_eq_false (by omega)
   have e1' : decide (8 < mn) = false := decide_eq_false hm8
   have k19 : wf.cell? ⟨bx, 19, none⟩ = some (.slice ra rn rc) := HWF.out.1.cell 19
   by_cases hr64 : 64 < rn
   · have e2 : decide ((64 : Int) < (rn : Int)) = true := decide_eq_true (by omega)
     have e2' : decide (64 < rn) = true := decide_eq_true hr64
     go_wp2_with fail
     go_ret
     exact F0.out _ (Still.refl _)
   have e2 : decide ((64 : Int) < (rn : Int)) = false := decide_eq_false (by omega)
   have e2' : decide (64 < rn) = false := decide_eq_false hr64
   have HMR := Lib.hid (show mn ≤ 8 ∧ rn ≤ 64 from by omega)
   clear hm8 hr64
   obtain ⟨q, hq⟩ : ∃ q, decide ((putB D0.z.e).length ≤ 150) = q := ⟨_, rfl⟩
   have HSH := Lib.hid (short_any wf _ D0.z.e _ _ _ _ _ _ (HDD.out.1.still HXf.out.2))
   unfold eV at HSH
   rw [hq] at HSH
   have HQ := Lib.hid hq
   have k3 : wf.cell? ⟨bx, 3, none⟩ = some (.int .i64 D0.z.e.kind) := HWF.out.1.cell 3
   have k4 : wf.cell? ⟨bx, 4, none⟩ = some (.int .i64 D0.z.e.txn) := HWF.out.1.cell 4
   have k5 : wf.cell? ⟨bx, 5, none⟩ = some (.int .i64 D0.z.e.unit) := HWF.out.1.cell 5
   have k6 : wf.cell? ⟨bx, 6, none⟩ = some (.int .i64 D0.z.e.half) := HWF.out.1.cell 6
   have k7 : wf.cell? ⟨bx, 7, none⟩ = some (.int .i64 D0.z.e.prev) := HWF.out.1.cell 7
   have k8 : wf.cell? ⟨bx, 8, none⟩ = some (.int .i64 D0.z.e.next) := HWF.out.1.cell 8
   have k9 : wf.cell? ⟨bx, 9, none⟩ = some (.int .i64 D0.z.e.ap) := HWF.out.1.cell 9
   have k10 : wf.cell? ⟨bx, 10, none⟩ = some (.int .i64 D0.z.e.ac) := HWF.out.1.cell 10
   have k11 : wf.cell? ⟨bx, 11, none⟩ = some (.int .i64 D0.z.e.tp) := HWF.out.1.cell 11
   have k12 : wf.cell? ⟨bx, 12, none⟩ = some (.int .i64 D0.z.e.tc) := HWF.out.1.cell 12
   have k13 : wf.cell? ⟨bx, 13, none⟩ = some (.slice oa D0.z.e.old.length oc) := HWF.out.1.cell 13
   have k14 : wf.cell? ⟨bx, 14, none⟩ = some (.slice na D0.z.e.new.length nc) := HWF.out.1.cell 14
   have k15 : wf.cell? ⟨bx, 15, none⟩ = some (.slice ua D0.z.e.moves.length uc) := HWF.out.1.cell 15
   have k16 : wf.cell? ⟨bx, 16, none⟩ = some (.slice ka D0.z.e.lives.length kc) := HWF.out.1.cell 16
   have k17 : wf.cell? ⟨bx, 17, none⟩ = some (.slice da D0.z.e.dirty.length dc) := HWF.out.1.cell 17
   have k18 : wf.cell? ⟨bx, 18, none⟩ = some (.slice va D0.z.e.opens.length vc) := HWF.out.1.cell 18
   clear hq
   as_aux_lemma =>
    go_wp2_with fail
    refine HSH.out.mono ?_
    rintro en w6 ⟨rfl, hs6⟩
    have H6 := Lib.hid hs6
    clear hs6 HSH k2 k19 k3 k4 k5 k6 k7 k8 k9 k10 k11 k12 k13 k14 k15 k16 k17 k18
    cases q with
    | false =>
     go_wp2_with fail
     go_ret
     exact F0.out _ H6.out
    | true =>
    as_aux_lemma =>
     obtain ⟨A1, A2, B1, B2, hDr, hTr⟩ := HX.out
     have HLT := Lib.hid (show (∀ g, A1 g → ¬ bx = g) ∧ (∀ g, A2 g → ¬ bx = g) ∧ (∀ g, B1 g → ¬ bx = g) from ⟨fun g e h => by have := hDr.lt1 g e; have := HBX.out; omega, fun g e h => by have := hDr.lt2 g e; have := HBX.out; omega, fun g e h => by have := hTr.t.lt g e; have := HBX.out; omega⟩)
     have hD6 := (hDr.step HWF.out.2).step H6.out
     have hT6 := (hTr.step HWF.out.2).step H6.out
     clear hDr hTr
     have HDT := Lib.hid (And.intro hD6 hT6)
     have HA1 := Lib.hid (append_any B1 w6 x d 1 k es st D0.z.e _ _ _ _ _ _ hT6.t (HDD.out.1.still (HXf.out.2.trans H6.out)))
     unfold eV at HA1
     have HFL := Lib.hid (show (frB D0.z.e).length ≤ 1000000 from by have := frB_le (of_decide_eq_true HQ.out); omega)
     have HBB := Lib.hid (SB.out w6 H6.out)
     clear hD6 hT6
     obtain ⟨a, ha⟩ : ∃ a, D0.kind.tmod 10 = a := ⟨_, rfl⟩
     have ha1 : -10 < a ∧ a < 10 := by rw [← ha]; exact ⟨Int.lt_tmod_of_pos _ (by decide), Int.tmod_lt_of_pos _ (by decide)⟩
     have ha2 : IntKind.i64.wrap a = a := IntWalk.i64_in _ (by omega)
     have ha3 : IntKind.i64.wrap (a + 10) = a + 10 := IntWalk.i64_in _ (by omega)
     obtain ⟨gg, hg⟩ : ∃ gg, (a + 10).tmod 10 = gg := ⟨_, rfl⟩
     have hg1 : 0 ≤ gg ∧ gg < 10 := by rw [← hg]; exact ⟨Int.tmod_nonneg _ (by omega), Int.tmod_lt_of_pos _ (by decide)⟩
     have hg2 : IntKind.i64.wrap gg = gg := IntWalk.i64_in _ (by omega)
     have j0 : w6.cell? ⟨bx, 0, none⟩ = some (.int .i64 D0.kind) := HBB.out.cell 0
     go_upto_block 2 with fail
     clear ha ha1 ha2 ha3 hg hg2 j0
     go_cut [16] (fun s16 wc => ∃ b, s16 = .bool b ∧ AlMid W k d r x y b wc)
     case first =>
      as_aux_lemma =>
       have hgv : gg = 0 ∨ gg = 1 ∨ gg = 2 ∨ gg = 3 ∨ gg = 4 ∨ gg = 5 ∨ gg = 6 ∨ gg = 7 ∨ gg = 8 ∨ gg = 9 := by omega
       clear hg1
       rcases hgv with rfl | rfl | rfl | rfl | rfl | rfl | rfl | rfl | rfl | rfl
       · have HRE := Lib.hid (show w6.rangeAt bx 3 (#[.int .i64 D0.z.e.kind, .int .i64 D0.z.e.txn, .int .i64 D0.z.e.unit, .int .i64 D0.z.e.half, .int .i64 D0.z.e.prev, .int .i64 D0.z.e.next, .int .i64 D0.z.e.ap, .int .i64 D0.z.e.ac, .int .i64 D0.z.e.tp, .int .i64 D0.z.e.tc, .slice oa D0.z.e.old.length oc, .slice na D0.z.e.new.length nc, .slice ua D0.z.e.moves.length uc, .slice ka D0.z.e.lives.length kc, .slice da D0.z.e.dirty.length dc, .slice va D0.z.e.opens.length vc] : Array Value).toList from fun j u hj => by
          rw [HBB.out.cell (3 + j)]
          have hj16 : j < 16 := (List.getElem?_eq_some_iff.1 hj).1
          rw [show (3 + j) = j + 3 by omega]
          show (#[.int .i64 D0.z.e.kind, .int .i64 D0.z.e.txn, .int .i64 D0.z.e.unit, .int .i64 D0.z.e.half, .int .i64 D0.z.e.prev, .int .i64 D0.z.e.next, .int .i64 D0.z.e.ap, .int .i64 D0.z.e.ac, .int .i64 D0.z.e.tp, .int .i64 D0.z.e.tc, .slice oa D0.z.e.old.length oc, .slice na D0.z.e.new.length nc, .slice ua D0.z.e.moves.length uc, .slice ka D0.z.e.lives.length kc, .slice da D0.z.e.dirty.length dc, .slice va D0.z.e.opens.length vc].toList ++ [Value.slice ra rn rc])[j]? = some u
          rw [List.getElem?_append_left hj16]
          exact hj)
         go_wp2_with (refine wpList_load_mid rfl 34 _ rfl bx 3 rfl (#[.int .i64 D0.z.e.kind, .int .i64 D0.z.e.txn, .int .i64 D0.z.e.unit, .int .i64 D0.z.e.half, .int .i64 D0.z.e.prev, .int .i64 D0.z.e.next, .int .i64 D0.z.e.ap, .int .i64 D0.z.e.ac, .int .i64 D0.z.e.tp, .int .i64 D0.z.e.tc, .slice oa D0.z.e.old.length oc, .slice na D0.z.e.new.length nc, .slice ua D0.z.e.moves.length uc, .slice ka D0.z.e.lives.length kc, .slice da D0.z.e.dirty.length dc, .slice va D0.z.e.opens.length vc] : Array Value).toList _ HRE.out Tryz.underlying34 rfl size_en ?_)
         refine HA1.out.mono ?_
         rintro en w7 ⟨es', a7, k7, rfl, p1, p2, p3⟩
         have HA2 := Lib.hid (al_append2 HDT.out.1 HDT.out.2 HDD.out.1 (by have := HK.out; omega) HFL.out p1 p2 p3)
         unfold eV at HA2
         have HRE7 := Lib.hid (show w7.rangeAt bx 3 (#[.int .i64 D0.z.e.kind, .int .i64 D0.z.e.txn, .int .i64 D0.z.e.unit, .int .i64 D0.z.e.half, .int .i64 D0.z.e.prev, .int .i64 D0.z.e.next, .int .i64 D0.z.e.ap, .int .i64 D0.z.e.ac, .int .i64 D0.z.e.tp, .int .i64 D0.z.e.tc, .slice oa D0.z.e.old.length oc, .slice na D0.z.e.new.length nc, .slice ua D0.z.e.moves.length uc, .slice ka D0.z.e.lives.length kc, .slice da D0.z.e.dirty.length dc, .slice va D0.z.e.opens.length vc] : Array Value).toList from fun j u hj => (p2.cell (p := ⟨bx, 3 + j, none⟩) HBB.out.lt fun e => HLT.out.2.2 bx e rfl).trans (HRE.out j u hj))
         clear p1 p2 p3 HA1
         go_wp2_with (refine wpList_load_mid rfl 34 _ rfl bx 3 rfl (#[.int .i64 D0.z.e.kind, .int .i64 D0.z.e.txn, .int .i64 D0.z.e.unit, .int .i64 D0.z.e.half, .int .i64 D0.z.e.prev, .int .i64 D0.z.e.next, .int .i64 D0.z.e.ap, .int .i64 D0.z.e.ac, .int .i64 D0.z.e.tp, .int .i64 D0.z.e.tc, .slice oa D0.z.e.old.length oc, .slice na D0.z.e.new.length nc, .slice ua D0.z.e.moves.length uc, .slice ka D0.z.e.lives.length kc, .slice da D0.z.e.dirty.length dc, .slice va D0.z.e.opens.length vc] : Array Value).toList _ HRE7.out Tryz.underlying34 rfl size_en ?_)
         refine HA2.out.mono ?_
         rintro en w8 ⟨rfl, hX8⟩
         have HX8 := Lib.hid hX8
         clear hX8 HA2
         go_wp2_with fail
         go_meet
         case rel => exact ⟨false, rfl, .inl ⟨rfl, _, _, _, HX8.out⟩⟩
       · have HRE := Lib.hid (show w6.rangeAt bx 3 (#[.int .i64 D0.z.e.kind, .int .i64 D0.z.e.txn, .int .i64 D0.z.e.unit, .int .i64 D0.z.e.half, .int .i64 D0.z.e.prev, .int .i64 D0.z.e.next, .int .i64 D0.z.e.ap, .int .i64 D0.z.e.ac, .int .i64 D0.z.e.tp, .int .i64 D0.z.e.tc, .slice oa D0.z.e.old.length oc, .slice na D0.z.e.new.length nc, .slice ua D0.z.e.moves.length uc, .slice ka D0.z.e.lives.length kc, .slice da D0.z.e.dirty.length dc, .slice va D0.z.e.opens.length vc] : Array Value).toList from fun j u hj => by
          rw [HBB.out.cell (3 + j)]
          have hj16 : j < 16 := (List.getElem?_eq_some_iff.1 hj).1
          rw [show (3 + j) = j + 3 by omega]
          show (#[.int .i64 D0.z.e.kind, .int .i64 D0.z.e.txn, .int .i64 D0.z.e.unit, .int .i64 D0.z.e.half, .int .i64 D0.z.e.prev, .int .i64 D0.z.e.next, .int .i64 D0.z.e.ap, .int .i64 D0.z.e.ac, .int .i64 D0.z.e.tp, .int .i64 D0.z.e.tc, .slice oa D0.z.e.old.length oc, .slice na D0.z.e.new.length nc, .slice ua D0.z.e.moves.length uc, .slice ka D0.z.e.lives.length kc, .slice da D0.z.e.dirty.length dc, .slice va D0.z.e.opens.length vc].toList ++ [Value.slice ra rn rc])[j]? = some u
          rw [List.getElem?_append_left hj16]
          exact hj)
         go_wp2_with (refine wpList_load_mid rfl 34 _ rfl bx 3 rfl (#[.int .i64 D0.z.e.kind, .int .i64 D0.z.e.txn, .int .i64 D0.z.e.unit, .int .i64 D0.z.e.half, .int .i64 D0.z.e.prev, .int .i64 D0.z.e.next, .int .i64 D0.z.e.ap, .int .i64 D0.z.e.ac, .int .i64 D0.z.e.tp, .int .i64 D0.z.e.tc, .slice oa D0.z.e.old.length oc, .slice na D0.z.e.new.length nc, .slice ua D0.z.e.moves.length uc, .slice ka D0.z.e.lives.length kc, .slice da D0.z.e.dirty.length dc, .slice va D0.z.e.opens.length vc] : Array Value).toList _ HRE.out Tryz.underlying34 rfl size_en ?_)
         refine HA1.out.mono ?_
         rintro en w7 ⟨es', a7, k7, rfl, p1, p2, p3⟩
         have HA2 := Lib.hid (al_append2 HDT.out.1 HDT.out.2 HDD.out.1 (by have := HK.out; omega) HFL.out p1 p2 p3)
         unfold eV at HA2
         have HRE7 := Lib.hid (show w7.rangeAt bx 3 (#[.int .i64 D0.z.e.kind, .int .i64 D0.z.e.txn, .int .i64 D0.z.e.unit, .int .i64 D0.z.e.half, .int .i64 D0.z.e.prev, .int .i64 D0.z.e.next, .int .i64 D0.z.e.ap, .int .i64 D0.z.e.ac, .int .i64 D0.z.e.tp, .int .i64 D0.z.e.tc, .slice oa D0.z.e.old.length oc, .slice na D0.z.e.new.length nc, .slice ua D0.z.e.moves.length uc, .slice ka D0.z.e.lives.length kc, .slice da D0.z.e.dirty.length dc, .slice va D0.z.e.opens.length vc] : Array Value).toList from fun j u hj => (p2.cell (p := ⟨bx, 3 + j, none⟩) HBB.out.lt fun e => HLT.out.2.2 bx e rfl).trans (HRE.out j u hj))
         clear p1 p2 p3 HA1
         go_wp2_with (refine wpList_load_mid rfl 34 _ rfl bx 3 rfl (#[.int .i64 D0.z.e.kind, .int .i64 D0.z.e.txn, .int .i64 D0.z.e.unit, .int .i64 D0.z.e.half, .int .i64 D0.z.e.prev, .int .i64 D0.z.e.next, .int .i64 D0.z.e.ap, .int .i64 D0.z.e.ac, .int .i64 D0.z.e.tp, .int .i64 D0.z.e.tc, .slice oa D0.z.e.old.length oc, .slice na D0.z.e.new.length nc, .slice ua D0.z.e.moves.length uc, .slice ka D0.z.e.lives.length kc, .slice da D0.z.e.dirty.length dc, .slice va D0.z.e.opens.length vc] : Array Value).toList _ HRE7.out Tryz.underlying34 rfl size_en ?_)
         refine HA2.out.mono ?_
         rintro en w8 ⟨rfl, hX8⟩
         have HX8 := Lib.hid hX8
         clear hX8 HA2
         go_wp2_with fail
         go_meet
         case rel => exact ⟨false, rfl, .inl ⟨rfl, _, _, _, HX8.out⟩⟩
       · have HRE := Lib.hid (show w6.rangeAt bx 3 (#[.int .i64 D0.z.e.kind, .int .i64 D0.z.e.txn, .int .i64 D0.z.e.unit, .int .i64 D0.z.e.half, .int .i64 D0.z.e.prev, .int .i64 D0.z.e.next, .int .i64 D0.z.e.ap, .int .i64 D0.z.e.ac, .int .i64 D0.z.e.tp, .int .i64 D0.z.e.tc, .slice oa D0.z.e.old.length oc, .slice na D0.z.e.new.length nc, .slice ua D0.z.e.moves.length uc, .slice ka D0.z.e.lives.length kc, .slice da D0.z.e.dirty.length dc, .slice va D0.z.e.opens.length vc] : Array Value).toList from fun j u hj => by
          rw [HBB.out.cell (3 + j)]
          have hj16 : j < 16 := (List.getElem?_eq_some_iff.1 hj).1
          rw [show (3 + j) = j + 3 by omega]
          show (#[.int .i64 D0.z.e.kind, .int .i64 D0.z.e.txn, .int .i64 D0.z.e.unit, .int .i64 D0.z.e.half, .int .i64 D0.z.e.prev, .int .i64 D0.z.e.next, .int .i64 D0.z.e.ap, .int .i64 D0.z.e.ac, .int .i64 D0.z.e.tp, .int .i64 D0.z.e.tc, .slice oa D0.z.e.old.length oc, .slice na D0.z.e.new.length nc, .slice ua D0.z.e.moves.length uc, .slice ka D0.z.e.lives.length kc, .slice da D0.z.e.dirty.length dc, .slice va D0.z.e.opens.length vc].toList ++ [Value.slice ra rn rc])[j]? = some u
          rw [List.getElem?_append_left hj16]
          exact hj)
         go_wp2_with (refine wpList_load_mid rfl 34 _ rfl bx 3 rfl (#[.int .i64 D0.z.e.kind, .int .i64 D0.z.e.txn, .int .i64 D0.z.e.unit, .int .i64 D0.z.e.half, .int .i64 D0.z.e.prev, .int .i64 D0.z.e.next, .int .i64 D0.z.e.ap, .int .i64 D0.z.e.ac, .int .i64 D0.z.e.tp, .int .i64 D0.z.e.tc, .slice oa D0.z.e.old.length oc, .slice na D0.z.e.new.length nc, .slice ua D0.z.e.moves.length uc, .slice ka D0.z.e.lives.length kc, .slice da D0.z.e.dirty.length dc, .slice va D0.z.e.opens.length vc] : Array Value).toList _ HRE.out Tryz.underlying34 rfl size_en ?_)
         refine HA1.out.mono ?_
         rintro en w7 ⟨es', a7, k7, rfl, p1, p2, p3⟩
         have HA2 := Lib.hid (al_append2 HDT.out.1 HDT.out.2 HDD.out.1 (by have := HK.out; omega) HFL.out p1 p2 p3)
         unfold eV at HA2
         have HRE7 := Lib.hid (show w7.rangeAt bx 3 (#[.int .i64 D0.z.e.kind, .int .i64 D0.z.e.txn, .int .i64 D0.z.e.unit, .int .i64 D0.z.e.half, .int .i64 D0.z.e.prev, .int .i64 D0.z.e.next, .int .i64 D0.z.e.ap, .int .i64 D0.z.e.ac, .int .i64 D0.z.e.tp, .int .i64 D0.z.e.tc, .slice oa D0.z.e.old.length oc, .slice na D0.z.e.new.length nc, .slice ua D0.z.e.moves.length uc, .slice ka D0.z.e.lives.length kc, .slice da D0.z.e.dirty.length dc, .slice va D0.z.e.opens.length vc] : Array Value).toList from fun j u hj => (p2.cell (p := ⟨bx, 3 + j, none⟩) HBB.out.lt fun e => HLT.out.2.2 bx e rfl).trans (HRE.out j u hj))
         clear p1 p2 p3 HA1
         go_wp2_with (refine wpList_load_mid rfl 34 _ rfl bx 3 rfl (#[.int .i64 D0.z.e.kind, .int .i64 D0.z.e.txn, .int .i64 D0.z.e.unit, .int .i64 D0.z.e.half, .int .i64 D0.z.e.prev, .int .i64 D0.z.e.next, .int .i64 D0.z.e.ap, .int .i64 D0.z.e.ac, .int .i64 D0.z.e.tp, .int .i64 D0.z.e.tc, .slice oa D0.z.e.old.length oc, .slice na D0.z.e.new.length nc, .slice ua D0.z.e.moves.length uc, .slice ka D0.z.e.lives.length kc, .slice da D0.z.e.dirty.length dc, .slice va D0.z.e.opens.length vc] : Array Value).toList _ HRE7.out Tryz.underlying34 rfl size_en ?_)
         refine HA2.out.mono ?_
         rintro en w8 ⟨rfl, hX8⟩
         have HX8 := Lib.hid hX8
         clear hX8 HA2
         go_wp2_with fail
         go_meet
         case rel => exact ⟨false, rfl, .inl ⟨rfl, _, _, _, HX8.out⟩⟩
       · have HRE := Lib.hid (show w6.rangeAt bx 3 (#[.int .i64 D0.z.e.kind, .int .i64 D0.z.e.txn, .int .i64 D0.z.e.unit, .int .i64 D0.z.e.half, .int .i64 D0.z.e.prev, .int .i64 D0.z.e.next, .int .i64 D0.z.e.ap, .int .i64 D0.z.e.ac, .int .i64 D0.z.e.tp, .int .i64 D0.z.e.tc, .slice oa D0.z.e.old.length oc, .slice na D0.z.e.new.length nc, .slice ua D0.z.e.moves.length uc, .slice ka D0.z.e.lives.length kc, .slice da D0.z.e.dirty.length dc, .slice va D0.z.e.opens.length vc] : Array Value).toList from fun j u hj => by
          rw [HBB.out.cell (3 + j)]
          have hj16 : j < 16 := (List.getElem?_eq_some_iff.1 hj).1
          rw [show (3 + j) = j + 3 by omega]
          show (#[.int .i64 D0.z.e.kind, .int .i64 D0.z.e.txn, .int .i64 D0.z.e.unit, .int .i64 D0.z.e.half, .int .i64 D0.z.e.prev, .int .i64 D0.z.e.next, .int .i64 D0.z.e.ap, .int .i64 D0.z.e.ac, .int .i64 D0.z.e.tp, .int .i64 D0.z.e.tc, .slice oa D0.z.e.old.length oc, .slice na D0.z.e.new.length nc, .slice ua D0.z.e.moves.length uc, .slice ka D0.z.e.lives.length kc, .slice da D0.z.e.dirty.length dc, .slice va D0.z.e.opens.length vc].toList ++ [Value.slice ra rn rc])[j]? = some u
          rw [List.getElem?_append_left hj16]
          exact hj)
         go_wp2_with (refine wpList_load_mid rfl 34 _ rfl bx 3 rfl (#[.int .i64 D0.z.e.kind, .int .i64 D0.z.e.txn, .int .i64 D0.z.e.unit, .int .i64 D0.z.e.half, .int .i64 D0.z.e.prev, .int .i64 D0.z.e.next, .int .i64 D0.z.e.ap, .int .i64 D0.z.e.ac, .int .i64 D0.z.e.tp, .int .i64 D0.z.e.tc, .slice oa D0.z.e.old.length oc, .slice na D0.z.e.new.length nc, .slice ua D0.z.e.moves.length uc, .slice ka D0.z.e.lives.length kc, .slice da D0.z.e.dirty.length dc, .slice va D0.z.e.opens.length vc] : Array Value).toList _ HRE.out Tryz.underlying34 rfl size_en ?_)
         refine HA1.out.mono ?_
         rintro en w7 ⟨es', a7, k7, rfl, p1, p2, p3⟩
         have HA2 := Lib.hid (al_append2 HDT.out.1 HDT.out.2 HDD.out.1 (by have := HK.out; omega) HFL.out p1 p2 p3)
         unfold eV at HA2
         have HRE7 := Lib.hid (show w7.rangeAt bx 3 (#[.int .i64 D0.z.e.kind, .int .i64 D0.z.e.txn, .int .i64 D0.z.e.unit, .int .i64 D0.z.e.half, .int .i64 D0.z.e.prev, .int .i64 D0.z.e.next, .int .i64 D0.z.e.ap, .int .i64 D0.z.e.ac, .int .i64 D0.z.e.tp, .int .i64 D0.z.e.tc, .slice oa D0.z.e.old.length oc, .slice na D0.z.e.new.length nc, .slice ua D0.z.e.moves.length uc, .slice ka D0.z.e.lives.length kc, .slice da D0.z.e.dirty.length dc, .slice va D0.z.e.opens.length vc] : Array Value).toList from fun j u hj => (p2.cell (p := ⟨bx, 3 + j, none⟩) HBB.out.lt fun e => HLT.out.2.2 bx e rfl).trans (HRE.out j u hj))
         clear p1 p2 p3 HA1
         go_wp2_with (refine wpList_load_mid rfl 34 _ rfl bx 3 rfl (#[.int .i64 D0.z.e.kind, .int .i64 D0.z.e.txn, .int .i64 D0.z.e.unit, .int .i64 D0.z.e.half, .int .i64 D0.z.e.prev, .int .i64 D0.z.e.next, .int .i64 D0.z.e.ap, .int .i64 D0.z.e.ac, .int .i64 D0.z.e.tp, .int .i64 D0.z.e.tc, .slice oa D0.z.e.old.length oc, .slice na D0.z.e.new.length nc, .slice ua D0.z.e.moves.length uc, .slice ka D0.z.e.lives.length kc, .slice da D0.z.e.dirty.length dc, .slice va D0.z.e.opens.length vc] : Array Value).toList _ HRE7.out Tryz.underlying34 rfl size_en ?_)
         refine HA2.out.mono ?_
         rintro en w8 ⟨rfl, hX8⟩
         have HX8 := Lib.hid hX8
         clear hX8 HA2
         go_wp2_with fail
         go_meet
         case rel => exact ⟨false, rfl, .inl ⟨rfl, _, _, _, HX8.out⟩⟩
       · have HRE := Lib.hid (show w6.rangeAt bx 3 (#[.int .i64 D0.z.e.kind, .int .i64 D0.z.e.txn, .int .i64 D0.z.e.unit, .int .i64 D0.z.e.half, .int .i64 D0.z.e.prev, .int .i64 D0.z.e.next, .int .i64 D0.z.e.ap, .int .i64 D0.z.e.ac, .int .i64 D0.z.e.tp, .int .i64 D0.z.e.tc, .slice oa D0.z.e.old.length oc, .slice na D0.z.e.new.length nc, .slice ua D0.z.e.moves.length uc, .slice ka D0.z.e.lives.length kc, .slice da D0.z.e.dirty.length dc, .slice va D0.z.e.opens.length vc] : Array Value).toList from fun j u hj => by
          rw [HBB.out.cell (3 + j)]
          have hj16 : j < 16 := (List.getElem?_eq_some_iff.1 hj).1
          rw [show (3 + j) = j + 3 by omega]
          show (#[.int .i64 D0.z.e.kind, .int .i64 D0.z.e.txn, .int .i64 D0.z.e.unit, .int .i64 D0.z.e.half, .int .i64 D0.z.e.prev, .int .i64 D0.z.e.next, .int .i64 D0.z.e.ap, .int .i64 D0.z.e.ac, .int .i64 D0.z.e.tp, .int .i64 D0.z.e.tc, .slice oa D0.z.e.old.length oc, .slice na D0.z.e.new.length nc, .slice ua D0.z.e.moves.length uc, .slice ka D0.z.e.lives.length kc, .slice da D0.z.e.dirty.length dc, .slice va D0.z.e.opens.length vc].toList ++ [Value.slice ra rn rc])[j]? = some u
          rw [List.getElem?_append_left hj16]
          exact hj)
         go_wp2_with (refine wpList_load_mid rfl 34 _ rfl bx 3 rfl (#[.int .i64 D0.z.e.kind, .int .i64 D0.z.e.txn, .int .i64 D0.z.e.unit, .int .i64 D0.z.e.half, .int .i64 D0.z.e.prev, .int .i64 D0.z.e.next, .int .i64 D0.z.e.ap, .int .i64 D0.z.e.ac, .int .i64 D0.z.e.tp, .int .i64 D0.z.e.tc, .slice oa D0.z.e.old.length oc, .slice na D0.z.e.new.length nc, .slice ua D0.z.e.moves.length uc, .slice ka D0.z.e.lives.length kc, .slice da D0.z.e.dirty.length dc, .slice va D0.z.e.opens.length vc] : Array Value).toList _ HRE.out Tryz.underlying34 rfl size_en ?_)
         refine HA1.out.mono ?_
         rintro en w7 ⟨es', a7, k7, rfl, p1, p2, p3⟩
         have HA2 := Lib.hid (al_append2 HDT.out.1 HDT.out.2 HDD.out.1 (by have := HK.out; omega) HFL.out p1 p2 p3)
         unfold eV at HA2
         have HRE7 := Lib.hid (show w7.rangeAt bx 3 (#[.int .i64 D0.z.e.kind, .int .i64 D0.z.e.txn, .int .i64 D0.z.e.unit, .int .i64 D0.z.e.half, .int .i64 D0.z.e.prev, .int .i64 D0.z.e.next, .int .i64 D0.z.e.ap, .int .i64 D0.z.e.ac, .int .i64 D0.z.e.tp, .int .i64 D0.z.e.tc, .slice oa D0.z.e.old.length oc, .slice na D0.z.e.new.length nc, .slice ua D0.z.e.moves.length uc, .slice ka D0.z.e.lives.length kc, .slice da D0.z.e.dirty.length dc, .slice va D0.z.e.opens.length vc] : Array Value).toList from fun j u hj => (p2.cell (p := ⟨bx, 3 + j, none⟩) HBB.out.lt fun e => HLT.out.2.2 bx e rfl).trans (HRE.out j u hj))
         clear p1 p2 p3 HA1
         go_wp2_with (refine wpList_load_mid rfl 34 _ rfl bx 3 rfl (#[.int .i64 D0.z.e.kind, .int .i64 D0.z.e.txn, .int .i64 D0.z.e.unit, .int .i64 D0.z.e.half, .int .i64 D0.z.e.prev, .int .i64 D0.z.e.next, .int .i64 D0.z.e.ap, .int .i64 D0.z.e.ac, .int .i64 D0.z.e.tp, .int .i64 D0.z.e.tc, .slice oa D0.z.e.old.length oc, .slice na D0.z.e.new.length nc, .slice ua D0.z.e.moves.length uc, .slice ka D0.z.e.lives.length kc, .slice da D0.z.e.dirty.length dc, .slice va D0.z.e.opens.length vc] : Array Value).toList _ HRE7.out Tryz.underlying34 rfl size_en ?_)
         refine HA2.out.mono ?_
         rintro en w8 ⟨rfl, hX8⟩
         have HX8 := Lib.hid hX8
         clear hX8 HA2
         go_wp2_with fail
         go_meet
         case rel => exact ⟨false, rfl, .inl ⟨rfl, _, _, _, HX8.out⟩⟩
       · have HF1 := Lib.hid (al_force1 HDT.out.1 HDT.out.2 (by have := HK.out; omega))
         obtain ⟨q, hq0⟩ : ∃ q, foB D 1 (streamB es) k es.length st = q := ⟨_, rfl⟩
         rw [hq0] at HF1
         have HQ0 := Lib.hid hq0
         clear hq0
         go_wp2_with fail
         refine HF1.out.mono ?_
         rintro en w7 ⟨rfl, p1, p2, p3⟩
         have HF2 := Lib.hid (al_force2 HDT.out.1 HDT.out.2 (by have := HK.out; omega) HQ0.out p1 p2 p3)
         clear p1 p2 p3 HF1 HQ0
         obtain ⟨q1, q2, q3⟩ := q
         go_wp2_with fail
         refine HF2.out.mono ?_
         rintro en w8 ⟨rfl, hX8⟩
         have HX8 := Lib.hid hX8
         clear hX8 HF2
         go_wp2_with fail
         go_meet
         case rel => exact ⟨false, rfl, .inl ⟨rfl, _, _, _, HX8.out⟩⟩
       · have HF1 := Lib.hid (al_force1 HDT.out.1 HDT.out.2 (by have := HK.out; omega))
         obtain ⟨q, hq0⟩ : ∃ q, foB D 1 (streamB es) k es.length st = q := ⟨_, rfl⟩
         rw [hq0] at HF1
         have HQ0 := Lib.hid hq0
         clear hq0
         go_wp2_with fail
         refine HF1.out.mono ?_
         rintro en w7 ⟨rfl, p1, p2, p3⟩
         have HF2 := Lib.hid (al_force2 HDT.out.1 HDT.out.2 (by have := HK.out; omega) HQ0.out p1 p2 p3)
         clear p1 p2 p3 HF1 HQ0
         obtain ⟨q1, q2, q3⟩ := q
         go_wp2_with fail
         refine HF2.out.mono ?_
         rintro en w8 ⟨rfl, hX8⟩
         have HX8 := Lib.hid hX8
         clear hX8 HF2
         go_wp2_with fail
         go_meet
         case rel => exact ⟨false, rfl, .inl ⟨rfl, _, _, _, HX8.out⟩⟩
       · have j2 : w6.cell? ⟨bx, 2, none⟩ = some (.slice ma mn mc) := HBB.out.cell 2
         have HC1 := Lib.hid (al_crash1 (ma := ma) (mc := mc) (mask := D0.mask) HDT.out.1 (by have := HK.out; omega) (fun _ => (HDD.out.2.1.still (HXf.out.2.trans H6.out))) (fun g e1 e2 => by have := HDT.out.1.f1 g e2; omega) HDD.out.2.2.2.2.1 HDD.out.2.2.2.1.mb)
         go_wp2_with fail
         refine HC1.out.mono ?_
         rintro en w7 ⟨rfl, p1, p2⟩
         have HC2 := Lib.hid (al_crash2 (ma := ma) (mc := mc) (mask := D0.mask) HDT.out.1 (by have := HK.out; omega) (fun _ => ((HDD.out.2.1.still (HXf.out.2.trans H6.out)).only p2 fun g e1 e2 => by have := HDT.out.1.f1 g e2; omega)) (fun g e1 e2 => by have := HDT.out.1.f2 g e2; omega) HDD.out.2.2.2.2.1 HDD.out.2.2.2.1.mb p1 p2)
         have j7 : w7.cell? ⟨bx, 2, none⟩ = some (.slice ma mn mc) := (p2.cell (p := ⟨bx, 2, none⟩) HBB.out.lt fun e => HLT.out.1 bx e rfl).trans j2
         clear p1 p2 HC1 j2
         go_wp2_with fail
         refine HC2.out.mono ?_
         rintro en w8 ⟨rfl, hX8⟩
         have HX8 := Lib.hid hX8
         clear hX8 HC2 j7
         go_wp2_with fail
         go_meet
         case rel => exact ⟨true, rfl, .inr ⟨rfl, _, HX8.out⟩⟩
       · have j1 : w6.cell? ⟨bx, 1, none⟩ = some (.int .i64 D0.at_) := HBB.out.cell 1
         have j2 : w6.cell? ⟨bx, 2, none⟩ = some (.slice ma mn mc) := HBB.out.cell 2
         obtain ⟨t9, ht9⟩ : ∃ t, D0.at_.tmod 9 = t := ⟨_, rfl⟩
         have ht1 : t9 < 9 ∧ -9 < t9 := by rw [← ht9]; exact ⟨Int.tmod_lt_of_pos _ (by decide), Int.lt_tmod_of_pos _ (by decide)⟩
         have ht2 : IntKind.i64.wrap t9 = t9 := IntWalk.i64_in _ (by omega)
         have HZ9 := Lib.hid (show t9 ≤ 1000000 from by omega)
         have HSLM := Lib.hid (show Sl w6 (fun g => g < W.heap.size) 1 (.slice ma mn mc) mn (bc D0.mask) from HDD.out.2.1.still (HXf.out.2.trans H6.out))
         have HC1 := Lib.hid (al_arm1 HDT.out.1 t9 HSLM.out.reads (fun h0 g e1 e2 => by
          obtain ⟨g', o', c'', e', e'', -, -⟩ := HSLM.out.pos h0
          rw [e'] at e1
          have e3 : g' = g := Option.some.inj e1
          have := HDT.out.1.f1 g e2
          omega) HDD.out.2.2.2.1.mb (by have := HMR.out; omega))
         clear ht1
         go_wp2_with fail
         refine HC1.out.mono ?_
         rintro en w7 ⟨rfl, p1, p2⟩
         have HC2 := Lib.hid (al_arm2 HDT.out.1 HDT.out.2 HZ9.out (fun _ => HSLM.out.only p2 fun g e1 e2 => by have := HDT.out.1.f1 g e2; omega) HDD.out.2.2.2.2.1 HDD.out.2.2.2.1.mb (by have := HMR.out; omega) p1 p2)
         have i1 : w7.cell? ⟨bx, 1, none⟩ = some (.int .i64 D0.at_) := (p2.cell (p := ⟨bx, 1, none⟩) HBB.out.lt fun e => HLT.out.1 bx e rfl).trans j1
         have i2 : w7.cell? ⟨bx, 2, none⟩ = some (.slice ma mn mc) := (p2.cell (p := ⟨bx, 2, none⟩) HBB.out.lt fun e => HLT.out.1 bx e rfl).trans j2
         clear p1 p2 HC1 j1 j2
         go_wp2_with fail
         refine HC2.out.mono ?_
         rintro en w8 ⟨rfl, hX8⟩
         have HX8 := Lib.hid hX8
         clear hX8 HC2 i1 i2 ht9 ht2
         go_wp2_with fail
         go_meet
         case rel => exact ⟨false, rfl, .inl ⟨rfl, _, _, _, HX8.out⟩⟩
       · have j1 : w6.cell? ⟨bx, 1, none⟩ = some (.int .i64 D0.at_) := HBB.out.cell 1
         have j19 : w6.cell? ⟨bx, 19, none⟩ = some (.slice ra rn rc) := HBB.out.cell 19
         obtain ⟨RN, hRN⟩ : ∃ RN, 64 - rn = RN := ⟨_, rfl⟩
         have y6 : IntKind.i64.wrap (64 - (rn : Int)) = (RN : Int) := by
          rw [show 64 - (rn : Int) = (RN : Int) by have := HMR.out.2; omega]
          exact IntWalk.i64_in _ (by have := HMR.out.2; omega)
         obtain ⟨v7, w7, v8, w8, hr7, hr8, hrd8, hs8, hv8, hs7⟩ := raw_row w6.drew (fun g => g < W.heap.size) ra rc rn RN D0.raw (fun h => (HDD.out.2.2.1.still (HXf.out.2.trans H6.out)).still (still_drew w6)) HDD.out.2.2.2.2.2 HMR.out.2 hRN
         have HS8 := Lib.hid ((still_drew w6).trans hs8)
         have HS7 := Lib.hid ((still_drew w6).trans hs7)
         have hsl8 := reads_sl hrd8 (by decide)
         obtain ⟨ba, bc8, rfl⟩ := hsl8.form
         have HV8 := Lib.hid (And.intro hsl8 hv8)
         have HR7 := Lib.hid (And.intro hr7 hr8)
         have SS8 := Lib.hid (fun w' (hs : Still w6 w') => show w'.cell? ⟨bx, 19, none⟩ = some (.slice ra rn rc) from Still.cell hs j19)
         clear hrd8 hs8 hs7 hsl8 hv8 hr7 hr8 hRN
         go_wp2_with fail
         refine wp_region_D_drew (D := (fun i => [1, 4, 9].contains i)) (S := (fun w' => w'.cell? ⟨bx, 19, none⟩ = some (.slice ra rn rc))) (by kernel_rfl) ?_ (fun hHeld => ?_)
         · exact SS8.out _ (still_drew _)
         (refine takeD (i := 1) (some 99) (v := ?_) rfl (by rfl) (by rfl) (by kernel_rfl) (by rfl) (fun _ _ _ h => h) ?_ ?_; rotate_left; (intro w; go_simp; try with_reducible rfl); try go_frame)
         (refine takeD (i := 4) (some 102) (v := ?_) rfl (by rfl) (by rfl) (by kernel_rfl) (by rfl) (fun _ _ _ h => h) ?_ ?_; rotate_left; (intro w; go_simp; try with_reducible rfl); try go_frame)
         (refine takeS (i := 2) (some 100) (v := ?_) rfl (by rfl) (by rfl) (by kernel_rfl) (by rfl) (fun _ _ _ h => h) (by assumption) ?_ ?_; rotate_left; (intro w hSw; (try dsimp only at hSw); go_simp; try with_reducible rfl); try go_frame)
         (refine takeS (i := 5) (some 103) (v := ?_) rfl (by rfl) (by rfl) (by kernel_rfl) (by rfl) (fun _ _ _ h => h) (by assumption) ?_ ?_; rotate_left; (intro w hSw; (try dsimp only at hSw); go_simp; try with_reducible rfl); try go_frame)
         (refine takeS (i := 6) (some 104) (v := ?_) rfl (by rfl) (by rfl) (by kernel_rfl) (by rfl) (fun _ _ _ h => h) (by assumption) ?_ ?_; rotate_left; (intro w hSw; clear hSw; go_simp; try with_reducible rfl); try go_frame)
         (refine takeS (i := 7) (some 105) (v := ?_) rfl (by rfl) (by rfl) (by kernel_rfl) (by rfl) (fun _ _ _ h => h) (by assumption) ?_ ?_; rotate_left; (intro w hSw; clear hSw; go_simp; try with_reducible rfl); try go_frame)
         refine wpAnyD_ready (rs := [0]) (by kernel_rfl) (by simp) ?_
         refine ReadyD.cons rfl (fun K hK => ?_) ?_
         go_simp
         (refine hK.out _ _ ?_ (fun hNew => ?_); (focus (exact SS8.out _ ((still_drew _).alloc _))); clear hHeld; have hHeld := hNew; clear hNew)
         (clear hK K; try go_frame)
         refine wpAnyD_ready (rs := [3]) (by kernel_rfl) (by simp) ?_
         refine ReadyD.cons rfl (fun K hK => ?_) ?_
         refine step_append_run rfl _ _ 23 23 rfl (.slice (some ⟨w6.drew.heap.size, 0, none⟩) 0 0) (.slice ra rn rc) (by simp [Act.eval]) (by simp [Act.eval]) HR7.out.1 ?_
         (refine hK.out _ _ ?_ (fun hNew => ?_); (focus (exact SS8.out _ HS7.out)); clear hHeld; have hHeld := hNew; clear hNew)
         (clear hK K; try go_frame)
         refine wpAnyD_ready (rs := [8]) (by kernel_rfl) (by simp) ?_
         refine ReadyD.cons rfl (fun K hK => ?_) ?_
         refine step_append_run rfl _ _ 23 3 rfl v7 (.int .i64 (RN : Int)) (by simp [Act.eval]) (by simp [Act.eval]) HR7.out.2 ?_
         (refine hK.out _ _ ?_ (fun hNew => ?_); (focus (exact SS8.out _ HS8.out)); clear hHeld; have hHeld := hNew; clear hNew)
         (clear hK K; try go_frame)
         refine wpAnyD_ready (rs := [9]) (by kernel_rfl) (by simp) ?_
         refine ReadyD.last rfl (by rfl) (fun K hK => ?_) ?_
         go_simp
         refine hK.out _ _ ?_
         (clear hK K; try go_frame)
         refine wpAnyD_done (by kernel_rfl) ?_ _
         rotate_left
         exact ReadyD.nil
         exact ReadyD.nil
         exact ReadyD.nil
         exact ReadyD.nil
         clear hHeld j1 j19 y6
         have hDw := (HDT.out.1.step HS8.out).step (still_drew w8)
         have HDW := Lib.hid hDw
         have HLR := Lib.hid (show Byt (D0.raw ++ List.replicate RN 0) from HDD.out.2.2.2.1.rb.append (Byt.zeros RN))
         have HW1 := Lib.hid (al_write1 hDw (by have := HK.out; omega) D0.at_ (D0.raw ++ List.replicate RN 0) (.slice ba 64 bc8) ((HV8.out.1.still (still_drew w8)).reads) (fun g e1 e2 => by have h1 := HV8.out.2 g e1; have h2 := HDT.out.1.lt1 g e2; have h3 : w6.drew.heap.size = w6.heap.size := rfl; omega))
         obtain ⟨q, hq0⟩ : ∃ q, D.put D0.at_ (D0.raw ++ List.replicate RN 0) = q := ⟨_, rfl⟩
         have HQ0 := Lib.hid hq0
         rw [hq0] at HW1
         have SS9 := Lib.hid (fun w' (ho : Only A1 w8.drew w') => show w'.cell? ⟨bx, 1, none⟩ = some (.int .i64 D0.at_) from by
          have h8 : cellsAt w8.drew bx _ := (HBB.out.only (HS8.out.trans (still_drew w8)) fun e => e)
          exact (h8.only ho fun e => HLT.out.1 bx e rfl).cell 1)
         have HW2 := Lib.hid (fun w9 (p1 : DgX (Newer A1 w8.drew w9) d (D.put D0.at_ (D0.raw ++ List.replicate RN 0)).2 w9) (p2 : Only A1 w8.drew w9) => al_write2 (z := D0.at_) (ba := ba) (bcp := bc8) HDW.out (by have := HK.out; omega) HLR.out (((HV8.out.1.still (still_drew w8))).only p2 fun g e1 e2 => by have h1 := HV8.out.2 g e1; have h2 := HDT.out.1.lt1 g e2; have h3 : w6.drew.heap.size = w6.heap.size := rfl; omega) (fun g e1 e2 => by have h1 := HV8.out.2 g e1; have h2 := HDT.out.1.lt2 g e2; have h3 : w6.drew.heap.size = w6.heap.size := rfl; omega) p1 p2)
         rw [hq0] at HW2
         obtain ⟨q1, q2⟩ := q
         clear hDw hq0
         go_wp2_with fail
         go_region_held3 (fun w' => w'.cell? ⟨bx, 1, none⟩ = some (.int .i64 D0.at_)) (first | exact SS9.out _ (Only.refl _ _) | exact SS9.out _ (by assumption) | exact HC10.out)
          (first
           | (go_at_call 25; (with_reducible refine HW1.out.mono ?_); rintro e w9 ⟨rfl, p1, p2⟩; have HW9 := Lib.hid (HW2.out w9 p1 p2); have HC9 := Lib.hid (show cellsAt w9 bx _ from (HBB.out.only (HS8.out.trans (still_drew w8)) fun e => e).only p2 fun e => HLT.out.1 bx e rfl); clear p1)
           | (go_at_call 26; (with_reducible refine HW9.out.mono ?_); rintro e w10 ⟨rfl, hX10, p3⟩; have HX10 := Lib.hid hX10; have HC10 := Lib.hid (show w10.cell? ⟨bx, 1, none⟩ = some (.int .i64 D0.at_) from (HC9.out.only p3 fun e => HLT.out.2.1 bx e rfl).cell 1); clear hX10))
         go_wp2_with fail
         go_meet
         case rel => exact ⟨true, rfl, .inr ⟨rfl, _, HX10.out⟩⟩
     case rest =>
      obtain ⟨b, rfl, hmid⟩ := hcut
      have HM := Lib.hid hmid
      clear hmid
      clear HBB HFL HDT HLT HA1 H6 SB F0 HXf HWF HX HDD HQ HMR HBX HL
      go_upto_if 180 with fail
      go_cut [8, 11] (fun s8 s11 wd => AlLoop W k d r s8 s11 wd)
      case first =>
       cases b with
       | false =>
        have F := Lib.hid (show AlLoop W k d r (.pointer (some ⟨x, 0, none⟩)) (.pointer (some ⟨y, 0, none⟩)) wc from by
         rcases HM.out with ⟨-, D', es', st', h⟩ | ⟨h, -⟩
         · exact ⟨x, y, D', es', st', rfl, rfl, h⟩
         · cases h)
        go_wp2_with fail
        go_meet
        case rel => exact F.out
       | true =>
        have HDX := Lib.hid (show ∃ D', AlDX W k d r wc D' from by
         rcases HM.out with ⟨h, -⟩ | ⟨-, h⟩
         · cases h
         · exact h)
        obtain ⟨D', A1', A2', hD⟩ := HDX.out
        have HD := Lib.hid hD
        have HDE := Lib.hid (al_dead hD)
        clear hD HDX HM
        go_wp2_with fail
        refine HDE.out.mono ?_
        rintro en w7 ⟨rfl, rfl⟩
        go_upto_if 182 with fail
        go_cut [] (fun we => ∃ D2, D2.dead = false ∧ AlDX W k d r we D2)
        case first =>
         obtain ⟨q, hq⟩ : ∃ q, D'.dead = q := ⟨_, rfl⟩
         rw [hq]
         cases q with
         | false =>
          have F := Lib.hid (show ∃ D2, D2.dead = false ∧ AlDX W k d r w7 D2 from ⟨D', hq, _, _, HD.out⟩)
          clear hq
          go_wp2_with fail
          go_meet
          case rel => exact F.out
         | true =>
          have HP := Lib.hid (al_power1 HD.out)
          clear hq
          go_wp2_with fail
          refine HP.out.mono ?_
          rintro en w8 ⟨rfl, p1, p2⟩
          obtain ⟨⟨u3, c3⟩, f3, hX⟩ := al_power2 HD.out p1 p2
          have F := Lib.hid (show ∃ D2, D2.dead = false ∧ AlDX W k d r (w8.setCell ⟨r, 3, none⟩ (.bool false)) D2 from ⟨_, rfl, hX⟩)
          clear p1 p2 HP hX
          go_wp2_with fail
          go_meet
          case rel => exact F.out
        case rest =>
         obtain ⟨D2, hq2, A3, A4, hD2⟩ := hcut
         have HD2 := Lib.hid (And.intro hD2 hq2)
         have HO1 := Lib.hid (al_open1 hD2 hq2 (by have := HK.out; omega))
         obtain ⟨E, hE⟩ : ∃ E, openE D2 1 k = E := ⟨_, rfl⟩
         obtain ⟨R, hR⟩ : ∃ R, D2.clean 1 (streamB E) k = R := ⟨_, rfl⟩
         have HER := Lib.hid (And.intro hE hR)
         have HME := Lib.hid (show (∀ e ∈ E, e.may = true) from by rw [← hE]; exact (openE_is D2 1 k hD2.byt).1)
         have HLE := Lib.hid (show E.length ≤ 100000 from by
          rw [← hE]
          unfold openE
          have h1 := scanB_len ((readB (tls D2.T 1 k)).length + 1) (readB (tls D2.T 1 k))
          have h2 := readB_len (tls D2.T 1 k)
          have h3 : (tls D2.T 1 k).length ≤ k := by unfold tls; rw [List.length_take]; omega
          have := HK.out
          have h4 : (tls D2.T 1 k).length * 63 ≤ 24 * 63 := Nat.mul_le_mul_right 63 (by omega)
          omega)
         clear hE hR hD2 hq2
         go_wp2_with fail
         refine HO1.out.mono ?_
         intro en w8 hp
         unfold OpPostA at hp
         rw [HER.out.1, HER.out.2] at hp
         by_cases hR0 : R.1 = 0
         · rw [if_pos hR0] at hp
           obtain ⟨t, lv, es', A', B', C', rfl, rfl, p1, p2, p3, p4, p5, p6, p7, p8, p9, p10⟩ := hp
           obtain ⟨xa, xc, rfl⟩ := p3.form
           have HO2 := Lib.hid (al_open2 HD2.out.1 HD2.out.2 (by have := HK.out; omega) HER.out.1 HER.out.2 hR0 p1 p2 p3 p4 p5 p6 p7 p8)
           clear hR0 p1 p2 p3 p4 p5 p6 p7 p8 p9 p10 HO1
           go_wp2_with fail
           refine HO2.out.mono ?_
           rintro en w9 ⟨t', ya, yc, rfl, hX, e1, e2⟩
           have HSE := Lib.hid (same_entries _ _ es' e1 e2 HME.out HLE.out)
           have HX9 := Lib.hid hX
           clear hX e1 e2 HO2
           go_wp2_with fail
           refine HSE.out.mono ?_
           rintro en w10 ⟨rfl, hs10⟩
           have F := Lib.hid (show AlLoop W k d r (.pointer (some ⟨t, 0, none⟩)) (.pointer (some ⟨t', 0, none⟩)) w10 from ⟨t, t', _, _, _, rfl, rfl, HX9.out.step hs10⟩)
           clear hs10 HSE
           go_wp2_with fail
           go_meet
           case rel => exact F.out
         · rw [if_neg hR0] at hp
           obtain ⟨rfl, p1, p2⟩ := hp
           have HO2 := Lib.hid (al_open3 HD2.out.1 HD2.out.2 (by have := HK.out; omega) HER.out.1 HER.out.2 hR0 p2)
           clear hR0 p1 p2 HO1
           obtain ⟨q1, q2⟩ := R
           go_wp2_with fail
           refine HO2.out.mono ?_
           rintro en w9 ⟨rfl, hs9⟩
           have HSE := Lib.hid (same_entries (w := w9) (P := fun _ => True) (Q := fun _ => True) (.slice none 0 0) (.slice none 0 0) [] Ents.nil Ents.nil (fun e he => by cases he) (Nat.zero_le _))
           have HS9 := Lib.hid hs9
           clear hs9 HO2
           go_wp2_with fail
           refine HSE.out.mono ?_
           rintro en w10 ⟨rfl, hs10⟩
           have F := Lib.hid (show BTrue W (.returned (.bool true)) w10 from ⟨rfl, HS9.out.trans hs10⟩)
           clear hs10 HSE
           go_wp2_with fail
           go_ret
           exact F.out
      case rest =>
       obtain ⟨x2, y2, D2, es2, st2, rfl, rfl, hX⟩ := hcut
       have HX2 := Lib.hid hX
       have HLK := Lib.hid (fun w' (hs : Still wc w') => al_look (hX.step hs) (by have := HK.out; omega))
       obtain ⟨-, -, -, -, -, c3, ⟨la2, lc2, c4⟩, c5⟩ := al_look hX (by have := HK.out; omega)
       have SY := Lib.hid (fun w' (hs : Still wc w') => show w'.cell? ⟨y2, 3, none⟩ = some (.slice la2 es2.length lc2) ∧ w'.cell? ⟨y2, 5, none⟩ = some (.int .i64 (st2 : Nat)) ∧ w'.cell? ⟨r, 3, none⟩ = some (.bool D2.dead) from ⟨Still.cell hs c4, Still.cell hs c5, Still.cell hs c3⟩)
       clear hX c3 c4 c5
       generalize 63 * (k : Int) - ((streamB es2).length : Int) = lf at HLK
       generalize es2.length = n2 at *
       generalize D2.dead = q2 at *
       go_wp2_with fail
       go_region_held3 (fun w' => w'.cell? ⟨y2, 3, none⟩ = some (.slice la2 n2 lc2) ∧ w'.cell? ⟨y2, 5, none⟩ = some (.int .i64 (st2 : Nat)) ∧ w'.cell? ⟨r, 3, none⟩ = some (.bool q2)) (first | exact SY.out _ (still_drew _) | exact SY.out _ (by assumption))
        (first
         | (go_at_call 29; (with_reducible refine (HLK.out _ (still_drew _)).1.mono ?_); rintro e w3 ⟨rfl, rfl⟩)
         | (go_at_call 30; (with_reducible refine (HLK.out _ (still_drew _)).2.1.mono ?_); rintro e w3 ⟨rfl, rfl⟩)
         | (go_at_call 31; (with_reducible refine (HLK.out _ (still_drew _)).2.2.1.mono ?_); rintro e w3 ⟨rfl, hs3⟩; have hs3' : Still wc w3 := (still_drew _).trans hs3)
         | (go_at_call 32; (with_reducible refine (HLK.out _ hs3').2.2.2.1.mono ?_); rintro e w4 ⟨rfl, hs4⟩; have hs4' : Still wc w4 := hs3'.trans hs4)
         | (go_at_call 27; (with_reducible refine (HLK.out _ hs4').2.2.2.2.1.mono ?_); rintro e w5 ⟨rfl, rfl⟩))
       have F := Lib.hid (show AlLoop W k d r (.pointer (some ⟨x2, 0, none⟩)) (.pointer (some ⟨y2, 0, none⟩)) w5 from ⟨x2, y2, _, _, _, rfl, rfl, HX2.out.step hs4'⟩)
       clear hs3 hs3' hs4 hs4' HLK SY
       go_wp2_with fail
       go_roundw
       case rel => exact ⟨i + 1, by go_num, by have := HI.out; omega, F.out⟩
       case measure => first | (simp [intOf]; done) | (simp [intOf]; have := HI.out; omega)
end Go.Proofs.YtojkggppcmdepaaGreat

namespace Go.Proofs.YtojkggppcmdepaaGreat
open Go.RowKit Go.Wh Go.ChangeShapes Go.WideShapes Go.ChangeAt

theorem allOwn : ownKnob Tryz.prog.godebug = none := by kernel_rfl
theorem allLaid : laidOutB Tryz.prog = true := by kernel_rfl
theorem trodAll_two' {H : Type} {enc : TypeId × Value → H} {P : Program} {w : World} {base : Nat} {spare : Nat → Bool} {held : Bool} {t t' : TypeId} {args : Array Value} {ds : List (DataW H)} {ps : List MemPlace} (h : DataW.TrodAll enc P w base spare held [t, t'] args.toList ds ps) :
 ∃ v v' d d' p p', args = #[v, v'] ∧ ds = [d, d'] ∧ ps = p ++ p' ∧ DataW.Trod enc P w base spare held t v d p ∧ DataW.Trod enc P w base spare held t' v' d' p' := by
 obtain ⟨v, vs, d, ds', p, q, hargs, rfl, rfl, hd, hrest⟩ := trodAll_cons h
 obtain ⟨v', vs', d', ds'', p', q', rfl, rfl, rfl, hd', hrest'⟩ := trodAll_cons hrest
 obtain ⟨rfl, rfl, rfl⟩ := trodAll_nil hrest'
 exact ⟨v, v', d, d', p, p', by cases args; simp_all, rfl, by simp, hd, hd'⟩
set_option maxRecDepth 100000 in
theorem trailAll_lifted (os : Os) (started : os.Started) (H : Type) (enc : TypeId × Value → H) :
 ReturnsInHanded {} Tryz.checked os 4 .any (Rows.trailAllSpec.pre6 enc Tryz.prog Tryz.f4 Rows.trailAllRow.domain false) (Rows.trailAllSpec.post enc Tryz.prog Tryz.f4 false true false false) := by
 refine returnsInHanded_of_change (C := Tryz.checked) allOwn started (by kernel_rfl) Tryz.func4
  (ChangeSpec.witness6 (enc := enc) (C := Tryz.checked) false ⟨#[], #[.int .u8 0, .slice none 0 0], []⟩ 8 (by kernel_rfl) (by kernel_rfl) (by kernel_rfl) (by kernel_rfl)) ?_
 intro W base args ds gs before hval0 hW hcnd _
 have hval : ∀ (j : Nat) t v, Tryz.f4.params[j]? = some t → args[j]? = some v → Value.okWide Tryz.prog W .any base t v := hval0
 have hW' := hW
 obtain ⟨p, q, hA0, hV, rfl, hfz, hnd⟩ := hW
 have hA : DataW.TrodAll enc Tryz.prog W 0 (fun _ => true) true Tryz.f4.params.toList args.toList ds p := hA0
 rw [Tryz.params4] at hA hval
 obtain ⟨v0, v1, d0, d1, p0, p1, rfl, rfl, rfl, h0, h1⟩ := trodAll_two' hA
 obtain ⟨n0, rfl, rfl, rfl, w0⟩ := open_int Tryz.underlying5 (hval 0 5 v0 rfl rfl) h0
 obtain ⟨a1, c1, L, rfl, hs, hd⟩ := open_deeds (hval 1 40 v1 rfl rfl) h1
 have walk : Calls Tryz.prog 4 #[.int .u8 n0, .slice a1 L.length c1] W (BTrue W) := by
  exact all_walk W n0 a1 L.length c1 L (byte_wf w0).1 rfl hs hd
 refine walk.mono fun e W' ⟨he, bel⟩ => ?_
 subst he
 exact ⟨_, rfl, law_post allLaid (t := 4) rfl Tryz.underlying4 rfl (by intro t ht; rw [show Tryz.f4.params.toList = [5, 40] from rfl] at ht; simp at ht; rcases ht with rfl | rfl; all_goals exact ⟨by kernel_rfl, of_decide_eq_true (by kernel_rfl)⟩) hW' rfl (Only.below bel (Nat.le_refl _) fun _ _ e => e)⟩

theorem trailAll_holds : Rows.TrailAllSaid :=
 OpenClaim.holds_of_wide 4 Tryz.f4 rfl rfl rfl rfl rfl rfl rfl ⟨rfl, rfl, rfl, rfl, rfl⟩ rfl rfl rfl rfl rfl (by kernel_rfl) Tryz.func4 (by kernel_rfl)
  (of_decide_eq_true (by kernel_rfl)) (by unfold Func.isWrapper; first | (rw [if_pos (by decide +kernel)]; kernel_rfl) | (rw [if_neg (by decide +kernel)]; exact ⟨rfl, rfl⟩))
  (fun os started H enc _ => trailAll_lifted os started H enc)
#print axioms trailAll_holds
end Go.Proofs.YtojkggppcmdepaaGreat

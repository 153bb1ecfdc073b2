/- The document's disk: Write. Conditions: it lies in memory; at most two thousand tiles; a row of 64 bytes. The document's trail: its tiles are laid. Conditions: both lie in memory; the disk is alive. The document's trail: Open. Conditions: the disk lies in memory, alive; its tiles of 64 bytes; at most a thousand for the trail. The document's disk: Arm. Conditions: it lies in memory; a mask that lies in memory. Two disks and two trails, the program's and the document's, side by side: what each step leaves. Conditions: all lie in memory, apart. -/
import Derived.Test.YtojkggppcmdepaaGreatQa26
import Derived.Deep.RegionHeld
import Derived.Lib.AppendStr
import Derived.Lib.AppendZeros
import Derived.Deep.CutBlock
namespace Go.Proofs.YtojkggppcmdepaaGreat
open Go.RowKit Go.Wh Go.Maps

theorem RdAt.laid {A : Nat → Prop} {w : World} {d g1 o1 c1 g2 o2 c2 g3 o3 c3 : Nat} {D : PDk} {k : Int} {mv : Value} (h : RdAt A w d D g1 o1 c1 g2 o2 c2 g3 o3 c3 k mv) {i : Nat} (hi : i < D.T.length) (l : List Int) :
 RdAt A ((((w.setCell ⟨g1, o1 + i, none⟩ (Value.string (strOfNums l))).setCell ⟨g3, o3 + i, none⟩ (.bool true)).drew)) d (D.laid i l) g1 o1 c1 g2 o2 c2 g3 o3 c3 k mv ∧ Only (RMu d g1 g2 g3) w (((w.setCell ⟨g1, o1 + i, none⟩ (Value.string (strOfNums l))).setCell ⟨g3, o3 + i, none⟩ (.bool true)).drew) := by
 have ho : Only (RMu d g1 g2 g3) w (((w.setCell ⟨g1, o1 + i, none⟩ (Value.string (strOfNums l))).setCell ⟨g3, o3 + i, none⟩ (.bool true)).drew) := (((Only.refl _ _).setCell (p := ⟨g1, o1 + i, none⟩) (.inl (.inr (.inl rfl))) _).setCell (p := ⟨g3, o3 + i, none⟩) (.inl (.inr (.inr (.inr rfl)))) _).trans ((still_drew _).mono fun _ e => e.elim)
 refine ⟨h.turn ?_ ho fun k2 m2 e => ?_, ho⟩
 · have hr := ((h.raw.setNow hi (Value.string (strOfNums l))).setWet hi (.bool true)).still (still_drew _)
   rw [laid_length, laid_now, laid_wasL hi, laid_wetL]
   exact hr
 · obtain ⟨j1, -, -⟩ := h.pl k2 m2 e
   exact ⟨j1, k2, e⟩
theorem cuts_plan {D : PDk} (h : D.cuts = true) : ∃ k1 mask, D.plan = some (k1, mask) ∧ k1 - 1 < 0 := by
 unfold PDk.cuts at h
 cases hp : D.plan with
 | none => rw [hp] at h; cases h
 | some p =>
  rw [hp] at h
  exact ⟨p.1, p.2, rfl, of_decide_eq_true h⟩
theorem done_cuts {D : PDk} {i : Nat} {l : List Int} (h : D.cuts = true) : ∃ k1 mask, D.less.plan = some (k1, mask) ∧ (D.laid i l).done = (2, (D.less.laid i l).crash mask) := by
 obtain ⟨k1, mask, hp, hk⟩ := cuts_plan h
 refine ⟨k1 - 1, mask, by unfold PDk.less; rw [hp]; rfl, ?_⟩
 have hp2 : (D.laid i l).plan = some (k1, mask) := hp
 unfold PDk.done
 rw [hp2]
 show (if k1 - 1 < 0 then _ else _) = _
 rw [if_pos hk]
 rfl
theorem done_goes {D : PDk} {i : Nat} {l : List Int} (h : D.cuts = false) : (D.laid i l).done = (0, D.less.laid i l) := by
 unfold PDk.cuts at h
 cases hp : D.plan with
 | none =>
  have hp2 : (D.laid i l).plan = none := hp
  have hl : D.less = D := by unfold PDk.less; rw [hp]; cases D; simp_all
  unfold PDk.done
  rw [hp2, hl]
 | some p =>
  rw [hp] at h
  have hp2 : (D.laid i l).plan = some p := hp
  unfold PDk.done
  rw [hp2]
  show (if p.1 - 1 < 0 then _ else _) = _
  rw [if_neg (of_decide_eq_false h)]
  rfl
set_option maxHeartbeats 4000000 in
set_option maxRecDepth 100000 in
theorem rdwrite_at {A : Nat → Prop} {w : World} {d g1 o1 c1 g2 o2 c2 g3 o3 c3 : Nat} {D : PDk} {k : Int} {mv : Value} {Q : Nat → Prop} (h : RdAt A w d D g1 o1 c1 g2 o2 c2 g3 o3 c3 k mv) (hf : D.fine) (hT : D.T.length ≤ 2000) (z : Int) (ba : Option Addr) (bcp : Nat) (l : List Int)
 (hb : Sl w Q 1 (.slice ba 64 bcp) 64 (bc l)) (hq : ∀ g, Q g → ¬ RMu d g1 g2 g3 g) :
 Calls Tryz.prog 26 #[.pointer (some ⟨d, 0, none⟩), .int .i64 z, .slice ba 64 bcp] w (RySync A w d g1 g2 g3 (D.put z l)) := by
 have e3 : w.cell? ⟨d, 3, none⟩ = some (.bool D.dead) := h.raw.cells.cell 3
 have e0 : w.cell? ⟨d, 0, none⟩ = some (.slice (some ⟨g1, o1, none⟩) D.T.length c1) := h.raw.cells.cell 0
 obtain ⟨n, hn⟩ : ∃ n, D.T.length = n := ⟨_, rfl⟩
 rw [hn] at e0
 cases hdd : D.dead with
 | true =>
  rw [hdd] at e3
  have F := Lib.hid (show RySync A w d g1 g2 g3 (D.put z l) (.returned (.int .i64 2)) w from by
   have e1 : D.may z = 2 := by unfold PDk.may; rw [if_pos hdd]
   unfold RySync PDk.put
   rw [e1, if_pos (by omega)]
   exact ⟨rfl, ⟨_, _, _, _, _, _, _, _, _, _, _, h⟩, Only.refl _ _⟩)
  clear h hf hT hdd hb hq hn
  go_enter Tryz.func26, Tryz.ntmps26
  go_wp2_with fail
  go_ret
  exact F.out
 | false =>
  rw [hdd] at e3
  by_cases hz : z < 0 ∨ (n : Int) ≤ z
  · have F := Lib.hid (show RySync A w d g1 g2 g3 (D.put z l) (.returned (.int .i64 1)) w from by
     have e1 : D.may z = 1 := by unfold PDk.may; rw [if_neg (by rw [hdd]; simp), if_pos (by rw [hn]; exact hz)]
     unfold RySync PDk.put
     rw [e1, if_pos (by omega)]
     exact ⟨rfl, ⟨_, _, _, _, _, _, _, _, _, _, _, h⟩, Only.refl _ _⟩)
    clear h hf hT hdd hb hq hn
    by_cases hz0 : z < 0
    · have d1 : decide (z < 0) = true := decide_eq_true hz0
      clear hz hz0
      go_enter Tryz.func26, Tryz.ntmps26
      go_wp2_with fail
      go_ret
      exact F.out
    · have d1 : decide (z < 0) = false := decide_eq_false hz0
      have d2 : decide ((n : Int) ≤ z) = true := decide_eq_true (by omega)
      clear hz hz0
      go_enter Tryz.func26, Tryz.ntmps26
      go_wp2_with fail
      go_ret
      exact F.out
  · obtain ⟨i, rfl⟩ : ∃ i : Nat, z = (i : Int) := ⟨z.toNat, by omega⟩
    have hi : i < n := by omega
    have FP : D.put (i : Int) l = (D.laid i l).done := by
     have e1 : D.may (i : Int) = 0 := by unfold PDk.may; rw [if_neg (by rw [hdd]; simp), if_neg (by rw [hn]; exact hz)]
     unfold PDk.put
     rw [e1, if_neg (by omega), Int.toNat_natCast]
    rw [FP]
    have d1 : decide ((i : Int) < 0) = false := decide_eq_false (by omega)
    have d2 : decide ((n : Int) ≤ (i : Int)) = false := decide_eq_false (by omega)
    have d3 : decide (n ≤ i) = false := decide_eq_false (by omega)
    have HCUT := Lib.hid (rdcut_at h hf)
    have HN := Lib.hid (And.intro hn (And.intro hT hi))
    have HB := Lib.hid (And.intro hb hq)
    clear h hf hT hdd hz FP hb hq hn hi
    go_enter Tryz.func26, Tryz.ntmps26
    go_wp2_with fail
    refine HCUT.out.mono ?_
    rintro e w1 ⟨rfl, ⟨k', h1⟩, h2⟩
    have hr := h1.raw
    have hlen : D.less.T.length = n := HN.out.1
    rw [hlen] at hr
    have hi : i < n := HN.out.2.2
    have hL := RdAt.laid h1 (i := i) (by rw [hlen]; exact hi) l
    have HL := Lib.hid (And.intro hL.1 (h2.trans hL.2))
    have x0 : w1.cell? ⟨d, 0, none⟩ = some (.slice (some ⟨g1, o1, none⟩) n c1) := hr.cells.cell 0
    have x2 : w1.cell? ⟨d, 2, none⟩ = some (.slice (some ⟨g3, o3, none⟩) n c3) := hr.cells.cell 2
    have hS6 : ∀ w' N Wa We, RdRaw w' d n g1 o1 c1 g2 o2 c2 g3 o3 c3 N Wa We D.less.dead D.less.plan.isSome k' mv → Sl w' Q 1 (.slice ba 64 bcp) 64 (bc l) → (w'.cell? ⟨d, 0, none⟩ = some (.slice (some ⟨g1, o1, none⟩) n c1) ∧ w'.cell? ⟨d, 2, none⟩ = some (.slice (some ⟨g3, o3, none⟩) n c3) ∧ (convert 23 9 (.slice ba 64 bcp)).run Tryz.prog w' = .ok (Value.string (strOfNums l)) w') := fun w' N Wa We h7 hbw => ⟨h7.cells.cell 0, h7.cells.cell 2, convB hbw⟩
    have hb1 := HB.out.1.only h2 HB.out.2
    have hb3 : ∀ w', Only (RMu d g1 g2 g3) w1 w' → Sl w'.drew Q 1 (.slice ba 64 bcp) 64 (bc l) := fun w' ho => (hb1.only ho HB.out.2).still (still_drew _)
    have hm1 := (Only.refl (RMu d g1 g2 g3) w1).setCell (p := ⟨g1, o1 + i, none⟩) (.inl (.inr (.inl rfl))) (Value.string (strOfNums l))
    have hm3 := (Only.refl (RMu d g1 g2 g3) w1).setCell (p := ⟨g3, o3 + i, none⟩) (.inl (.inr (.inr (.inr rfl)))) (.bool true)
    have hm4 := hm1.setCell (p := ⟨g3, o3 + i, none⟩) (.inl (.inr (.inr (.inr rfl)))) (.bool true)
    have cvd := convB (hb3 _ (Only.refl _ _))
    have HS2 := Lib.hid (hS6 _ _ _ _ ((hr.setNow hi (Value.string (strOfNums l))).still (still_drew _)) (hb3 _ hm1))
    have HS3 := Lib.hid (hS6 _ _ _ _ ((hr.setWet hi (.bool true)).still (still_drew _)) (hb3 _ hm3))
    have HS4 := Lib.hid (hS6 _ _ _ _ (((hr.setNow hi (Value.string (strOfNums l))).setWet hi (.bool true)).still (still_drew _)) (hb3 _ hm4))
    have y4 : ∃ u, w1.cell? ⟨g1, o1 + i, none⟩ = some u := ⟨_, (hr.now.cell i (by omega)).trans (List.getElem?_eq_getElem (by rw [nowL_length, hlen]; exact hi))⟩
    have y5 : ∃ u, w1.cell? ⟨g3, o3 + i, none⟩ = some u := ⟨_, (hr.wet.cell i (by omega)).trans (List.getElem?_eq_getElem (by rw [wetL_length, hlen]; exact hi))⟩
    have y6 : w1.frozen? ⟨g1, o1 + i, none⟩ = false := hr.now.free i (by omega)
    have y7 : w1.frozen? ⟨g3, o3 + i, none⟩ = false := hr.wet.free i (by omega)
    have ne5 : g1 ≠ g3 := hr.n13
    have ne5' : g3 ≠ g1 := hr.n13.symm
    have i0 : (0 : Int) ≤ (i : Int) := by omega
    have i1 : (i : Int) < (n : Int) := by omega
    obtain ⟨u2, y4⟩ := y4
    obtain ⟨u4, y5⟩ := y5
    obtain ⟨qc, hqc⟩ : ∃ q, D.cuts = q := ⟨_, rfl⟩
    rw [hqc]
    have HQ := Lib.hid hqc
    clear h1 h2 hr hlen hi hL hS6 hb1 hb3 hm1 hm3 hm4 e0 e3 hqc HCUT
    go_wp2_with fail
    go_region_held3 (fun w' => w'.cell? ⟨d, 0, none⟩ = some (.slice (some ⟨g1, o1, none⟩) n c1) ∧ w'.cell? ⟨d, 2, none⟩ = some (.slice (some ⟨g3, o3, none⟩) n c3) ∧ (convert 23 9 (.slice ba 64 bcp)).run Tryz.prog w' = .ok (Value.string (strOfNums l)) w') (first | exact ⟨x0, x2, cvd⟩ | exact HS2.out | exact HS3.out | exact HS4.out) (fail)
    all_goals go_wp2_with fail
    generalize ((w1.setCell ⟨g1, o1 + i, none⟩ (Value.string (strOfNums l))).setCell ⟨g3, o3 + i, none⟩ (.bool true)).drew = w6 at *
    clear cvd HS2 HS3 HS4 x0 x2 y4 y5 y6 y7
    cases qc with
    | true =>
     obtain ⟨k1, mask, hp, hdn⟩ := done_cuts (i := i) (l := l) HQ.out
     have HD := Lib.hid (rddone_at HL.out.1 (by rw [laid_length]; exact HN.out.2.1) true k1 mask fun _ => hp)
     have FF := Lib.hid (fun w2 (h3 : RdAt A w2 d ((D.less.laid i l).crash mask) g1 o1 c1 g2 o2 c2 g3 o3 c3 k' mv) (h4 : Only (RMu d g1 g2 g3) w6 w2) => show RySync A w d g1 g2 g3 (D.laid i l).done (.returned (.int .i64 2)) w2 from by
      unfold RySync
      rw [hdn]
      exact ⟨rfl, ⟨_, _, _, _, _, _, _, _, _, _, _, h3⟩, HL.out.2.trans h4⟩)
     clear hp hdn
     refine HD.out.mono ?_
     rintro e w2 ⟨rfl, h3, h4⟩
     have F := Lib.hid (FF.out w2 h3 h4)
     clear h3 h4 FF HD
     simp only [if_true]
     go_wp2_with fail
     go_ret
     exact F.out
    | false =>
     have HD := Lib.hid (rddone_at HL.out.1 (by rw [laid_length]; exact HN.out.2.1) false 0 [] fun e => by cases e)
     have FF := Lib.hid (fun w2 (h3 : RdAt A w2 d (D.less.laid i l) g1 o1 c1 g2 o2 c2 g3 o3 c3 k' mv) (h4 : Only (RMu d g1 g2 g3) w6 w2) => show RySync A w d g1 g2 g3 (D.laid i l).done (.returned (.int .i64 0)) w2 from by
      unfold RySync
      rw [done_goes HQ.out]
      exact ⟨rfl, ⟨_, _, _, _, _, _, _, _, _, _, _, h3⟩, HL.out.2.trans h4⟩)
     refine HD.out.mono ?_
     rintro e w2 ⟨rfl, h3, h4⟩
     have F := Lib.hid (FF.out w2 h3 h4)
     clear h3 h4 FF HD
     simp only [Bool.false_eq_true, if_false]
     go_wp2_with fail
     go_ret
     exact F.out
end Go.Proofs.YtojkggppcmdepaaGreat

namespace Go.Proofs.YtojkggppcmdepaaGreat
open Go.RowKit Go.Wh Go.Maps

def RyPost (A : Nat → Prop) (w : World) (d : Nat) (r : Int × PDk) (e : Ending) (w' : World) : Prop := e = .returned (.int .i64 r.1) ∧ RdX A d r.2 w' ∧ Only A w w'
def RyRel (A : Nat → Prop) (w : World) (d : Nat) (D : PDk) (wr : World) : Prop := RdX A d D wr ∧ Only A w wr
set_option maxHeartbeats 4000000 in
set_option maxRecDepth 100000 in
theorem rlay_at {A B : Nat → Prop} (w : World) (t d at_ n : Nat) (S : List Int) (lv av : Value) (Lc : List Value) (c st : Nat) (D : PDk) (h : RtAt B w t d at_ n S lv av Lc c st) (hd : RdX A d D w) (hsep : ∀ g, A g → ¬ B g) (hf : D.fine) (hq : D.dead = false) (hT : D.T.length ≤ 2000) (hn : at_ + n ≤ D.T.length) (hb : ∀ i l, (clN D at_ S i).2.1.T[at_ + i]? = some l → Byt l) (hS : S.length ≤ 1000000) :
 Calls Tryz.prog 46 #[.pointer (some ⟨t, 0, none⟩)] w (RyPost A w d (D.clean at_ S n)) := by
 have H := Lib.hid h
 have HSEP := Lib.hid hsep
 have HB := Lib.hid (And.intro hT (And.intro hn (And.intro hb hS)))
 have HF := Lib.hid (And.intro hf hq)
 obtain ⟨aa, ak, hav⟩ := h.a.form
 subst hav
 obtain ⟨m, hm⟩ : ∃ m, S.length = m := ⟨_, rfl⟩
 rw [hm] at h
 have HM := Lib.hid hm
 have SS := Lib.hid (fun w' (ho : Only A w w') => show w'.cell? ⟨t, 0, none⟩ = some (.pointer (some ⟨d, 0, none⟩)) ∧ w'.cell? ⟨t, 1, none⟩ = some (.int .i64 at_) ∧ w'.cell? ⟨t, 2, none⟩ = some (.int .i64 n) ∧ w'.cell? ⟨t, 4, none⟩ = some (.slice aa m ak) from by
  have hh := H.out.only ho fun g e1 e2 => HSEP.out g e2 e1
  refine ⟨hh.cells.cell 0, hh.cells.cell 1, hh.cells.cell 2, ?_⟩
  rw [← HM.out]
  exact hh.cells.cell 4)
 have H0 := Lib.hid (show RyRel A w d (clN D at_ S 0).2.1 w from ⟨hd, Only.refl _ _⟩)
 clear h hd hT hn hb hS hsep hf hq hm
 go_enter Tryz.func46, Tryz.ntmps46
 go_wp2_with fail
 go_loopw [3, 4] (fun s3 s4 wr => ∃ (i : Nat), s4 = .int .i64 i ∧ s3 = .bool (clN D at_ S i).2.2 ∧ i ≤ n ∧ (clN D at_ S i).1 = 0 ∧ RyRel A w d (clN D at_ S i).2.1 wr) (fun _ s4 _ => n - (intOf s4).toNat)
 case atStart => exact ⟨0, rfl, rfl, Nat.zero_le _, rfl, H0.out⟩
 obtain ⟨i, rfl, rfl, hin, hce, hr⟩ := hrel
 have HR := Lib.hid hr
 have HCE := Lib.hid hce
 have HIN := Lib.hid hin
 obtain ⟨hd1, ho1⟩ := hr
 obtain ⟨c0, c1, c2, c4⟩ := SS.out _ ho1
 have hok := clN_ok HF.out.1 HF.out.2 i hce
 have hlen := clN_len (D := D) (at_ := at_) (S := S) i
 have hbi := HB.out.2.2.1 i
 have hce1 : clN D at_ S (i + 1) = (if (clN D at_ S i).2.1.T[at_ + i]? = some (tileB S i) then clN D at_ S i else ((((clN D at_ S i).2.1.laid (at_ + i) (tileB S i)).done).1, (((clN D at_ S i).2.1.laid (at_ + i) (tileB S i)).done).2, true)) := by
  show (if (clN D at_ S i).1 ≠ 0 then _ else _) = _
  rw [if_neg (by rw [hce]; decide)]
 have HX := Lib.hid (And.intro hok (And.intro hlen (And.intro hbi hce1)))
 have hfin : i = n → D.clean at_ S n = if (clN D at_ S i).2.2 = true then (clN D at_ S i).2.1.sync else (0, (clN D at_ S i).2.1) := fun e => by
  subst e
  unfold PDk.clean
  rw [if_neg (by rw [hce]; decide)]
 have HFIN := Lib.hid hfin
 obtain ⟨Ci, hCi⟩ : ∃ C, C = clN D at_ S i := ⟨_, rfl⟩
 rw [← hCi] at HR HCE HX HFIN hd1
 rw [← hCi]
 obtain ⟨ei, Di, bi⟩ := Ci
 clear hCi hok hlen hbi hce1 hfin hce
 dsimp only at HR HCE HX HFIN hd1 ⊢
 have HD1 := Lib.hid hd1
 obtain ⟨g1, o1, k1, g2, o2, k2, g3, o3, k3, kk, mv, hda⟩ := hd1
 have HDA := Lib.hid hda
 have u9 : IntKind.i64.wrap ((i : Int) + 1) = (i : Int) + 1 := IntWalk.i64_in _ (by have := HB.out; have := HIN.out; omega)
 clear hda
 by_cases hi : i < n
 rotate_left
 · have hge : i = n := by have := HIN.out; omega
   have HGE := Lib.hid (HFIN.out hge)
   have d1 : decide ((i : Int) < (n : Int)) = false := decide_eq_false (by omega)
   have d2 : decide (i < n) = false := decide_eq_false hi
   cases bi with
   | false =>
    have F := Lib.hid (show RyPost A w d (D.clean at_ S n) (.returned (.int .i64 0)) wr from by
     rw [HGE.out]
     exact ⟨rfl, HR.out⟩)
    clear hi hge hin
    go_wp2_with fail
    go_ret
    exact F.out
   | true =>
    have HSY := Lib.hid (rdsync_at HDA.out HX.out.1.1 (by have := HB.out.1; have := HX.out.2.1; omega))
    have HFS := Lib.hid (fun e w'' (hp : RySync A wr d g1 g2 g3 Di.sync e w'') => show RyPost A w d (D.clean at_ S n) e w'' from by
     obtain ⟨h1, h2, h3⟩ := hp
     rw [HGE.out]
     exact ⟨h1, h2, HR.out.2.trans (rmu_sub HDA.out h3)⟩)
    clear hi hge hin
    go_wp2_with fail
    refine HSY.out.mono ?_
    intro e w6 hp
    have F := Lib.hid (HFS.out _ _ hp)
    obtain ⟨rfl, -⟩ := hp
    clear HSY
    go_wp2_with fail
    go_ret
    exact F.out
 have d1 : decide ((i : Int) < (n : Int)) = true := decide_eq_true (by omega)
 have d2 : decide (i < n) = true := decide_eq_true hi
 have HI := Lib.hid hi
 obtain ⟨l, hl⟩ : ∃ l, Di.T[at_ + i]? = some l := ⟨_, List.getElem?_eq_getElem (by have := HB.out.2.1; have := HX.out.2.1; omega)⟩
 have HL := Lib.hid (And.intro hl (HX.out.2.2.1 l hl))
 have HTB := Lib.hid (tileB_byt (i := i) H.out.byt)
 have HTI := Lib.hid (show Calls Tryz.prog 86 #[.slice aa m ak, .int .i64 i] wr (StPost wr (.string (strOfNums (tileB S i)))) from by
  have hsl := (H.out.only ho1 fun g e1 e2 => HSEP.out g e2 e1).a
  rw [HM.out] at hsl
  exact rtile_any wr _ aa m ak S i hsl HM.out (by have := HB.out; omega) (by have := HB.out.2.2.2; have := HM.out; omega))
 clear hi hl hin ho1
 go_wp2_with fail
 refine HTI.out.mono ?_
 rintro e w2 ⟨rfl, hs2⟩
 have HS2 := Lib.hid hs2
 obtain ⟨x0, x1, x2, x4⟩ := SS.out w2 (HR.out.2.trans (hs2.mono fun _ e => e.elim))
 have hraw := HDA.out.raw.still hs2
 obtain ⟨N, hN⟩ : ∃ N, Di.T.length = N := ⟨_, rfl⟩
 obtain ⟨AI, hAI⟩ : ∃ a, at_ + i = a := ⟨_, rfl⟩
 have e0 : w2.cell? ⟨d, 0, none⟩ = some (.slice (some ⟨g1, o1, none⟩) N k1) := by
  rw [← hN]
  exact hraw.cells.cell 0
 have hAN : AI < N := by have := HB.out.2.1; have := HX.out.2.1; have := HI.out; omega
 have en : w2.cell? ⟨g1, o1 + AI, none⟩ = some (.string (strOfNums l)) := by
  rw [hraw.now.cell AI (by omega), ← hAI]
  exact nowL_get HL.out.1
 have aA : (at_ : Int) + (i : Int) = (AI : Int) := by omega
 have uA : IntKind.i64.wrap (AI : Int) = (AI : Int) := IntWalk.i64_in _ (by have := HB.out; have := HX.out.2.1; omega)
 have i0 : (0 : Int) ≤ (AI : Int) := by omega
 have i1 : (AI : Int) < (N : Int) := by omega
 have HQ := Lib.hid (str_eq HL.out.2 HTB.out)
 obtain ⟨s1, hs1⟩ : ∃ s, strOfNums l = s := ⟨_, rfl⟩
 obtain ⟨s2, hs2'⟩ : ∃ s, strOfNums (tileB S i) = s := ⟨_, rfl⟩
 rw [hs1, hs2'] at HQ
 rw [hs1] at en
 rw [hs2']
 obtain ⟨q, hq⟩ : ∃ q, (s1.toList == s2.toList) = q := ⟨_, rfl⟩
 have HQQ := Lib.hid (show q = decide (l = tileB S i) from by rw [← hq]; exact HQ.out)
 have HAI := Lib.hid (And.intro hAI (And.intro hN (And.intro hAN hs2')))
 clear hs2 hraw hN hAI hAN hs1 hs2' HTI HQ
 go_wp2_with fail
 go_quiet (fail)
 have hs3 : Still wr (w2.drewN nq) := HS2.out.drewN nq
 have HS3 := Lib.hid hs3
 clear x0 x1 x2 x4 e0 en hs3 HS2
 generalize w2.drewN nq = w3 at *
 cases q with
 | true =>
  have hlt : l = tileB S i := of_decide_eq_true HQQ.out.symm
  have HN := Lib.hid (show (.bool bi : Value) = .bool (clN D at_ S (i + 1)).2.2 ∧ (clN D at_ S (i + 1)).1 = 0 ∧ RyRel A w d (clN D at_ S (i + 1)).2.1 w3 from by
   have e := HX.out.2.2.2
   rw [if_pos (by rw [HL.out.1, hlt])] at e
   rw [e]
   exact ⟨rfl, HCE.out, HD1.out.still HS3.out, HR.out.2.trans (HS3.out.mono fun _ e => e.elim)⟩)
  clear hlt
  go_wp2_with fail
  go_roundw
  case rel => exact ⟨i + 1, by go_num, HN.out.1, by have := HI.out; omega, HN.out.2.1, HN.out.2.2⟩
  case measure => first | (simp [intOf]; done) | (simp [intOf]; have := HI.out; omega)
 | false =>
  have hlt : ¬ l = tileB S i := of_decide_eq_false HQQ.out.symm
  have HC1 := Lib.hid (show clN D at_ S (i + 1) = (((Di.laid (at_ + i) (tileB S i)).done).1, ((Di.laid (at_ + i) (tileB S i)).done).2, true) from by
   have e := HX.out.2.2.2
   rw [if_neg (by rw [HL.out.1]; exact fun e => hlt (Option.some.inj e))] at e
   exact e)
  obtain ⟨R, hR⟩ : ∃ R, R = (Di.laid (at_ + i) (tileB S i)).done := ⟨_, rfl⟩
  rw [← hR] at HC1
  have hput : Di.put (AI : Int) (tileB S i) = R := by
   have e1 : Di.may (AI : Int) = 0 := by
    unfold PDk.may
    rw [if_neg (by rw [HX.out.1.2]; simp), if_neg (by have := HAI.out; omega)]
   unfold PDk.put
   rw [e1, if_neg (by omega), Int.toNat_natCast, hR, HAI.out.1]
  obtain ⟨cap, w4, hcv, hs4, hz4, hsl4⟩ := conv_bytes w3.drew (tileB S i) HTB.out
  rw [HAI.out.2.2.2, tileB_length] at hcv
  rw [tileB_length] at hsl4
  have hst4 : Still wr w4 := (HS3.out.trans (still_drew _)).trans hs4
  have HWR := Lib.hid (rdwrite_at (HDA.out.still hst4) HX.out.1.1 (by have := HB.out.1; have := HX.out.2.1; omega) (AI : Int) _ cap (tileB S i) hsl4 (fun g e1 e2 => by
   have h2 := HDA.out.lt g (HDA.out.mu g e2)
   have h3 := HS3.out.size
   have h4 : w3.drew.heap.size = w3.heap.size := rfl
   omega))
  rw [hput] at HWR
  have HFI := Lib.hid (fun w'' e (hp : RySync A w4 d g1 g2 g3 R e w'') => show e = .returned (.int .i64 R.1) ∧ RyRel A w d R.2 w'' from
   ⟨hp.1, hp.2.1, (HR.out.2.trans (hst4.mono fun _ e => e.elim)).trans (rmu_sub HDA.out hp.2.2)⟩)
  obtain ⟨x0, x1, -, -⟩ := SS.out w3 (HR.out.2.trans (HS3.out.mono fun _ e => e.elim))
  have HS4 := Lib.hid (show w4.cell? ⟨t, 0, none⟩ = some (.pointer (some ⟨d, 0, none⟩)) ∧ w4.cell? ⟨t, 1, none⟩ = some (.int .i64 at_) from by
   have := SS.out w4 (HR.out.2.trans (hst4.mono fun _ e => e.elim))
   exact ⟨this.1, this.2.1⟩)
  clear hlt hR hput hs4 hz4 hsl4 hst4
  obtain ⟨r1, r2⟩ := R
  dsimp only at HC1 HFI
  have hz3 : w3.drew.heap.size = w3.heap.size := rfl
  go_wp2_with fail
  refine wp_region_held_drew (S := (fun w' => w'.cell? ⟨t, 0, none⟩ = some (.pointer (some ⟨d, 0, none⟩)) ∧ w'.cell? ⟨t, 1, none⟩ = some (.int .i64 at_))) (by kernel_rfl) ?_ (fun hHeld => ?_)
  · exact ⟨x0, x1⟩
  (refine wpAnyH_take (i := 0) (v := ?_) rfl (by kernel_rfl) (by kernel_rfl) (by kernel_rfl) (fun _ _ _ h => h) (Or.inl ⟨by rfl, ?_⟩) (by assumption) ?_; rotate_left; (intro w hSw; (try dsimp only at hSw); (try go_split_ands); go_simp; try with_reducible rfl); try go_frame)
  (refine wpAnyH_take (i := 1) (v := ?_) rfl (by kernel_rfl) (by kernel_rfl) (by kernel_rfl) (fun _ _ _ h => h) (Or.inl ⟨by rfl, ?_⟩) (by assumption) ?_; rotate_left; (intro w hSw; (try dsimp only at hSw); (try go_split_ands); go_simp; try with_reducible rfl); try go_frame)
  (refine wpAnyH_take (i := 2) (v := ?_) rfl (by kernel_rfl) (by kernel_rfl) (by kernel_rfl) (fun _ _ _ h => h) (Or.inl ⟨by rfl, ?_⟩) (by assumption) ?_; rotate_left; (intro w hSw; (try dsimp only at hSw); (try go_split_ands); go_simp; try with_reducible rfl); try go_frame)
  (refine wpAnyH_take (i := 3) (v := ?_) rfl (by kernel_rfl) (by kernel_rfl) (by kernel_rfl) (fun _ _ _ h => h) (Or.inl ⟨by rfl, ?_⟩) (by assumption) ?_; rotate_left; (intro w hSw; (try dsimp only at hSw); (try go_split_ands); go_simp; try with_reducible rfl); try go_frame)
  (refine wpAnyH_take (i := 4) (v := ?_) rfl (by kernel_rfl) (by kernel_rfl) (by kernel_rfl) (fun _ _ _ h => h) (Or.inl ⟨by rfl, ?_⟩) (by assumption) ?_; rotate_left; (intro w hSw; (try dsimp only at hSw); (try go_split_ands); go_simp; try with_reducible rfl); try go_frame)
  (refine wpAnyH_take (i := 5) (v := ?_) rfl (by kernel_rfl) (by kernel_rfl) (by kernel_rfl) (fun _ _ _ h => h) (Or.inl ⟨by rfl, ?_⟩) (by assumption) ?_; rotate_left; (intro w hSw; (try dsimp only at hSw); (try go_split_ands); go_simp; try with_reducible rfl); try go_frame)
  (refine wpAnyH_take (i := 6) (v := ?_) rfl (by kernel_rfl) (by kernel_rfl) (by kernel_rfl) (fun _ _ _ h => h) (Or.inl ⟨by rfl, ?_⟩) (by assumption) ?_; rotate_left; (intro w hSw; (try dsimp only at hSw); (try go_split_ands); go_simp; try with_reducible rfl); try go_frame)
  (refine wpAnyH_take (i := 7) (v := ?_) rfl (by kernel_rfl) (by kernel_rfl) (by kernel_rfl) (fun _ _ _ h => h) (Or.inl ⟨by rfl, ?_⟩) (by assumption) ?_; rotate_left; (intro w hSw; (try dsimp only at hSw); (try go_split_ands); go_simp; try with_reducible rfl); try go_frame)
  (refine wpAnyH_take (i := 8) (v := ?_) rfl (by kernel_rfl) (by kernel_rfl) (by kernel_rfl) (fun _ _ _ h => h) (Or.inl ⟨by rfl, ?_⟩) (by assumption) ?_; rotate_left; (intro w hSw; (try dsimp only at hSw); (try go_split_ands); go_simp; try with_reducible rfl); try go_frame)
  (refine wpAnyH_take (i := 9) (v := ?_) rfl (by kernel_rfl) (by kernel_rfl) (by kernel_rfl) (fun _ _ _ h => h) (Or.inl ⟨by rfl, ?_⟩) (by assumption) ?_; rotate_left; (intro w hSw; (try dsimp only at hSw); (try go_split_ands); go_simp; try with_reducible rfl); try go_frame)
  (refine wpAnyH_take (i := 10) (v := ?_) rfl (by kernel_rfl) (by kernel_rfl) (by kernel_rfl) (fun _ _ _ h => h) (Or.inl ⟨by rfl, ?_⟩) (by assumption) ?_; rotate_left; (intro w hSw; (try dsimp only at hSw); (try go_split_ands); go_simp; try with_reducible rfl); try go_frame)
  refine wpAnyH_ready (rs := [11]) (by kernel_rfl) (by simp) ?_
  refine AllReadyH.cons rfl (fun K hK => ?_) ?_
  go_simp
  (refine hK.out _ _ ?_ (fun hNew => ?_); (focus (exact HS4.out)); clear hHeld; have hHeld := hNew; clear hNew)
  (clear hK K; try go_frame)
  refine wpAnyH_ready (rs := [12]) (by kernel_rfl) (by simp) ?_
  refine AllReadyH.cons rfl (fun K hK => ?_) ?_
  go_simp
  refine HWR.out.mono ?_
  intro e w6 hp
  obtain ⟨rfl, hcl⟩ := HFI.out _ _ hp
  have HN := Lib.hid hcl
  have hS6 := SS.out w6 hcl.2
  clear hcl hp HWR
  go_wp2_with fail
  (refine hK.out _ _ ?_ (fun hNew => ?_); (focus (exact ⟨hS6.1, hS6.2.1⟩)); clear hHeld; have hHeld := hNew; clear hNew)
  (clear hK K; try go_frame)
  refine wpAnyH_ready (rs := [13]) (by kernel_rfl) (by simp) ?_
  refine AllReadyH.cons rfl (fun K hK => ?_) ?_
  go_simp
  (refine hK.out _ _ ?_ (fun hNew => ?_); (focus (exact ⟨hS6.1, hS6.2.1⟩)); clear hHeld; have hHeld := hNew; clear hNew)
  (clear hK K; try go_frame)
  refine wpAnyH_done (by kernel_rfl) ?_ _
  rotate_left
  exact AllReadyH.nil
  exact AllReadyH.nil
  exact AllReadyH.nil
  clear hHeld
  by_cases hr0 : r1 = 0
  · subst hr0
    have HMM := Lib.hid (show (.bool true : Value) = .bool (clN D at_ S (i + 1)).2.2 ∧ (clN D at_ S (i + 1)).1 = 0 ∧ RyRel A w d (clN D at_ S (i + 1)).2.1 w6 from by
     rw [HC1.out]
     exact ⟨rfl, rfl, HN.out⟩)
    go_wp2_with fail
    go_roundw
    case rel => exact ⟨i + 1, by go_num, HMM.out.1, by have := HI.out; omega, HMM.out.2.1, HMM.out.2.2⟩
    case measure => first | (simp [intOf]; done) | (simp [intOf]; have := HI.out; omega)
  · have qe : (r1 == 0) = false := by rw [beq_eq_false_iff_ne]; exact hr0
    have F := Lib.hid (show RyPost A w d (D.clean at_ S n) (.returned (.int .i64 r1)) w6 from by
     have e1 : (clN D at_ S (i + 1)).1 ≠ 0 := by rw [HC1.out]; exact hr0
     have e2 := clN_err e1 (n - (i + 1))
     rw [show i + 1 + (n - (i + 1)) = n by have := HI.out; omega] at e2
     have e3 : D.clean at_ S n = (r1, r2) := by
      unfold PDk.clean
      rw [e2, if_pos e1, HC1.out]
     rw [e3]
     exact ⟨rfl, HN.out⟩)
    have hrn : ¬ r1 = 0 := hr0
    clear hr0
    go_wp2_with fail
    go_ret
    exact F.out
end Go.Proofs.YtojkggppcmdepaaGreat

namespace Go.Proofs.YtojkggppcmdepaaGreat
open Go.RowKit Go.Wh Go.Maps

theorem strCells_bytes {l : List Int} (h : Byt l) : Lib.strCells (strOfNums l) = bc l := by
 unfold Lib.strCells bc
 rw [strOfNums_data, List.map_map]
 refine List.map_congr_left fun z hz => ?_
 have := h z hz
 simp
 omega
theorem strOfNums_part (l : List Int) (a b : Nat) : (strOfNums l).extract a b = strOfNums ((l.drop a).take (b - a)) := by
 unfold strOfNums
 rw [ByteArray.extract_mk, List.map_take, List.map_drop]
theorem strOfNums_at {l : List Int} (hb : Byt l) {i : Nat} {z : Nat} (h : l[i]? = some (z : Int)) : ∀ hi : i < (strOfNums l).size, ((strOfNums l)[i]'hi).toNat = z := fun hi => by
 have hz := hb _ (List.mem_of_getElem? h)
 obtain ⟨h1, h2⟩ := List.getElem?_eq_some_iff.1 h
 have e : (strOfNums l).data[i]'hi = UInt8.ofNat (l[i]'h1).toNat := by
  unfold strOfNums
  exact (List.getElem_toArray _).trans (List.getElem_map _)
 show ((strOfNums l).data[i]'hi).toNat = z
 rw [e, h2]
 simp
 omega
structure RoRel (w : World) (i : Nat) (u : Value) (acc : List Int) (wr : World) : Prop where
 own : wr.ownsRow w.heap.size 5 1 u acc.length (bc acc)
 still : Still w wr
 byt : Byt acc
 len : acc.length ≤ 63 * i
theorem owns_lt {w : World} {base : Nat} {e : TypeId} {sz n : Nat} {v : Value} {xs : List Value} (h : w.ownsRow base e sz v n xs) : ∀ g, v.ownBlock = some g → base ≤ g ∧ g < w.heap.size := fun g hg => by
 rcases h.2 with ⟨rfl, -⟩ | ⟨g', cap, cur, rfl, h1, h2, -⟩
 · cases hg
 · cases hg
   exact ⟨h1, (Array.getElem?_eq_some_iff.1 h2).1⟩
theorem RoRel.next {w wr w2 : World} {i : Nat} {u v' : Value} {acc part : List Int} {s : ByteArray} (h : RoRel w i u acc wr) (hs : Lib.strCells s = bc part) (hz : s.size = part.length)
 (hv : w2.ownsRow w.heap.size 5 1 v' (acc.length + s.size) (bc acc ++ Lib.strCells s)) (hg : wr.grownBy w2 u.ownBlock) (hp : Byt part) (hl : part.length ≤ 63) : RoRel w (i + 1) v' (acc ++ part) w2 := by
 have hlt := owns_lt h.own
 refine ⟨?_, h.still.andThen (T := fun k => u.ownBlock = some k) (Only.grown hg fun j hj => hj) fun k hk e => by have := (hlt k e).1; omega, h.byt.append hp, ?_⟩
 · rw [List.length_append, bc_append, ← hs, ← hz]
   exact hv
 · rw [List.length_append]
   have := h.len
   omega
def RoBad (A : Nat → Prop) (w : World) (d : Nat) (r : Int × PDk) (en : Ending) (w' : World) : Prop :=
 en = .returned (.tuple #[.pointer none, .slice none 0 0, .int .i64 r.1]) ∧ RdX A d r.2 w' ∧ Only A w w'
def RoGood (A : Nat → Prop) (w : World) (d at_ n : Nat) (es : List PE) (D' : PDk) (en : Ending) (w' : World) : Prop :=
 ∃ t lv av Lc, en = .returned (.tuple #[.pointer (some ⟨t, 0, none⟩), lv, .int .i64 0]) ∧ RtAt (fun g => w.heap.size ≤ g ∧ g < w'.heap.size) w' t d at_ n (streamB es) lv av Lc es.length es.length ∧ Ents w' (fun g => w.heap.size ≤ g ∧ g < w'.heap.size) lv es ∧ RdX A d D' w' ∧ Only A w w'
def RoPost (A : Nat → Prop) (w : World) (d at_ n : Nat) (es : List PE) (r : Int × PDk) (en : Ending) (w' : World) : Prop :=
 if r.1 = 0 then RoGood A w d at_ n es r.2 en w' else RoBad A w d r en w'
def RoFin (w : World) (v : Value) (acc : List Int) (wr : World) : Prop := wr.ownsRow w.heap.size 5 1 v acc.length (bc acc) ∧ Still w wr ∧ Byt acc ∧ acc.length ≤ 63000
set_option maxHeartbeats 8000000 in
set_option maxRecDepth 100000 in
theorem ropen_at {A : Nat → Prop} {w : World} {d at_ n : Nat} {D : PDk} (hd : RdX A d D w) (hq : D.dead = false) (hf : D.fine) (hby : D.byt) (h64 : ∀ l ∈ D.T, l.length = 64) (hT : D.T.length ≤ 2000) (hn : at_ + n ≤ D.T.length) (hk : n ≤ 1000) :
 Calls Tryz.prog 16 #[.pointer (some ⟨d, 0, none⟩), .int .i64 at_, .int .i64 n] w (RoPost A w d at_ n (openE D at_ n) (D.clean at_ (streamB (openE D at_ n)) n)) := by
 obtain ⟨g1, o1, k1, g2, o2, k2, g3, o3, k3, kk, mv, hda⟩ := id hd
 have H := Lib.hid (And.intro hd (And.intro hf (And.intro hby (And.intro h64 hk))))
 have HQ := Lib.hid hq
 have HR := Lib.hid hda.raw
 obtain ⟨N, hN⟩ : ∃ N, D.T.length = N := ⟨_, rfl⟩
 have HN := Lib.hid (And.intro hN (show N ≤ 2000 ∧ at_ + n ≤ N from by omega))
 have c0 : w.cell? ⟨d, 0, none⟩ = some (.slice (some ⟨g1, o1, none⟩) N k1) := by
  rw [← hN]
  exact hda.raw.cells.cell 0
 have c3 : w.cell? ⟨d, 3, none⟩ = some (.bool false) := by
  rw [← hq]
  exact hda.raw.cells.cell 3
 have SS := Lib.hid (fun w' (hs : Still w w') => show w'.cell? ⟨d, 0, none⟩ = some (.slice (some ⟨g1, o1, none⟩) N k1) from Still.cell hs c0)
 have a1 : decide ((at_ : Int) < 0) = false := by simp
 have a2 : decide ((n : Int) < 0) = false := by simp
 have a3 : decide ((N : Int) < (at_ : Int)) = false := decide_eq_false (by omega)
 have a3' : decide (N < at_) = false := decide_eq_false (by omega)
 have a4 : decide ((N : Int) - (at_ : Int) < (n : Int)) = false := decide_eq_false (by omega)
 have u1 : IntKind.i64.wrap ((N : Int) - (at_ : Int)) = (N : Int) - (at_ : Int) := IntWalk.i64_in _ (by omega)
 clear hd hq hf hby h64 hT hn hk hda hN
 go_enter Tryz.func16, Tryz.ntmps16
 go_upto_block 0 with fail
 clear c0 c3 a1 a2 a3 a3' a4 u1
 go_cut [9] (fun v wc => ∃ acc, readB (tls D.T at_ n) = acc ∧ RoFin w v acc wc)
 case first =>
  go_wp2_with fail
  go_loopw [9, 10] (fun s9 s10 wr => ∃ (i : Nat) (acc : List Int), s10 = .int .i64 i ∧ i ≤ n ∧ RoRel w i s9 acc wr ∧ acc ++ readB ((tls D.T at_ n).drop i) = readB (tls D.T at_ n)) (fun _ s10 _ => n - (intOf s10).toNat)
  case atStart => exact ⟨0, [], rfl, Nat.zero_le _, ⟨World.ownsRow_nil w _ _ _, Still.refl _, (fun z hz => by cases hz), Nat.le_refl _⟩, by simp⟩
  obtain ⟨i, acc, rfl, hin, hr, hre⟩ := hrel
  have HE := Lib.hid hre
  have HR1 := Lib.hid hr
  have HIN := Lib.hid hin
  obtain ⟨ua, uc, rfl⟩ := (vec_of_owns hr.own).form'
  have c0 := SS.out _ hr.still
  clear hr hre
  by_cases hi : i < n
  rotate_left
  · have d1 : decide ((i : Int) < (n : Int)) = false := decide_eq_false (by omega)
    have d2 : decide (i < n) = false := decide_eq_false hi
    have F := Lib.hid (show ∃ acc', readB (tls D.T at_ n) = acc' ∧ RoFin w (.slice ua acc.length uc) acc' wr from by
     have he := HE.out
     have hie : i = n := by omega
     rw [hie, List.drop_eq_nil_of_le (by unfold tls; rw [List.length_take]; omega)] at he
     exact ⟨acc, by rw [← he]; simp [readB], HR1.out.own, HR1.out.still, HR1.out.byt, by have := HR1.out.len; have := H.out.2.2.2.2; omega⟩)
    clear hi hin
    go_wp2_with fail
    go_meet
    case rel => exact F.out
  have d1 : decide ((i : Int) < (n : Int)) = true := decide_eq_true (by omega)
  have d2 : decide (i < n) = true := decide_eq_true hi
  obtain ⟨l, hl⟩ : ∃ l, D.T[at_ + i]? = some l := ⟨_, List.getElem?_eq_getElem (by have := HN.out; omega)⟩
  have hl64 := H.out.2.2.2.1 l (List.mem_of_getElem? hl)
  have hlb := H.out.2.2.1.1 l (List.mem_of_getElem? hl)
  have htl := tls_get (n := n) hl hi
  obtain ⟨z, l', rfl⟩ : ∃ z l', l = z :: l' := by
   cases l with
   | nil => cases hl64
   | cons z l' => exact ⟨z, l', rfl⟩
  have hzb := hlb z (by simp)
  obtain ⟨zn, rfl⟩ : ∃ zn : Nat, z = (zn : Int) := ⟨z.toNat, by omega⟩
  have hrd : readB ((tls D.T at_ n).drop i) = if 63 < (zn : Int) then [] else l'.take zn ++ (if (zn : Int) < 63 then [] else readB ((tls D.T at_ n).drop (i + 1))) := by
   rw [htl, readB_cons]
   simp
  have HRB := Lib.hid hrd
  obtain ⟨AI, hAI⟩ : ∃ a, at_ + i = a := ⟨_, rfl⟩
  have hAN : AI < N := by have := HN.out; omega
  have cN : wr.cell? ⟨g1, o1 + AI, none⟩ = some (.string (strOfNums ((zn : Int) :: l'))) := by
   rw [(HR.out.still HR1.out.still).now.cell AI (by have := HN.out.1; omega), ← hAI]
   exact nowL_get hl
  have hsz : (strOfNums ((zn : Int) :: l')).size = 64 := by rw [strOfNums_size]; exact hl64
  have gx := strOfNums_at hlb (i := 0) (z := zn) rfl
  have HEX := Lib.hid (strOfNums_part ((zn : Int) :: l') 1 (1 + zn))
  have HL := Lib.hid (And.intro hl64 (show Byt l' from fun y hy => hlb y (by simp [hy])))
  generalize strOfNums ((zn : Int) :: l') = s at *
  have aA : (at_ : Int) + (i : Int) = (AI : Int) := by omega
  have uA : IntKind.i64.wrap (AI : Int) = (AI : Int) := IntWalk.i64_in _ (by have := HN.out; omega)
  have i0 : (0 : Int) ≤ (AI : Int) := by omega
  have i1 : (AI : Int) < (N : Int) := by omega
  have u9 : IntKind.i64.wrap ((i : Int) + 1) = (i : Int) + 1 := IntWalk.i64_in _ (by have := HN.out; omega)
  have HZB := Lib.hid hzb
  have HI := Lib.hid hi
  have uz : IntKind.i64.wrap (zn : Int) = (zn : Int) := IntWalk.i64_in _ (by omega)
  clear hl hl64 hlb htl hzb hrd hAI hAN hi hin
  by_cases h63 : (zn : Int) ≤ 63
  rotate_left
  · have q1 : decide (63 < (zn : Int)) = true := decide_eq_true (by omega)
    have q1' : decide (63 < zn) = true := decide_eq_true (by omega)
    have F := Lib.hid (show ∃ acc', readB (tls D.T at_ n) = acc' ∧ RoFin w (.slice ua acc.length uc) acc' wr from by
     have he := HE.out
     rw [HRB.out, if_pos (by omega), List.append_nil] at he
     exact ⟨acc, he.symm, HR1.out.own, HR1.out.still, HR1.out.byt, by have := HR1.out.len; have := H.out.2.2.2.2; have := HI.out; omega⟩)
    clear h63
    go_wp2_with fail
    go_meet
    case rel => exact F.out
  have q1 : decide (63 < (zn : Int)) = false := decide_eq_false (by omega)
  have q1' : decide (63 < zn) = false := decide_eq_false (by omega)
  have u7 : IntKind.i64.wrap (1 + (zn : Int)) = 1 + (zn : Int) := IntWalk.i64_in _ (by omega)
  have tn : (1 + (zn : Int)).toNat = 1 + zn := by omega
  have p1 : (1 + (zn : Int)) ≤ 64 := by omega
  have p2 : (0 : Int) ≤ 1 + (zn : Int) := by omega
  have p3 : (1 : Int) ≤ 1 + (zn : Int) := by omega
  have HP := Lib.hid (show Byt (l'.take zn) ∧ (l'.take zn).length = zn ∧ zn ≤ 63 ∧ s.extract 1 (1 + zn) = strOfNums (l'.take zn) from by
   refine ⟨HL.out.2.take zn, ?_, by omega, ?_⟩
   · have := HL.out.1
     rw [List.length_cons] at this
     rw [List.length_take]
     omega
   · rw [HEX.out, show 1 + zn - 1 = zn by omega]
     rfl)
  obtain ⟨j0, hj0, hz0, hz1, hz2⟩ := info_parts info_b
  obtain ⟨v', w', hrun, hown, hgr, -⟩ := Lib.run_append_own_string (P := Tryz.prog) (w := wr) w.heap.size 23 9 23 5 j0 Tryz.underlying23 Tryz.underlying9 hj0 hz0 hz1 hz2 (.slice ua acc.length uc) acc.length (bc acc) HR1.out.own (s.extract 1 (1 + zn)) (by rw [HP.out.2.2.2, strOfNums_size]; have := HR1.out.len; have := HN.out; have := HP.out; have := HI.out; simp only [maxLen]; omega) (by rw [HP.out.2.2.2, strOfNums_size]; have := HR1.out.len; have := HN.out; have := HP.out; have := HI.out; omega) HR1.out.still.size
  have hnx := HR1.out.next (part := l'.take zn) (by rw [HP.out.2.2.2, strCells_bytes HP.out.1]) (by rw [HP.out.2.2.2, strOfNums_size]) hown hgr HP.out.1 (by have := HP.out; omega)
  have hfv := (vec_of_owns hown).form'
  obtain ⟨va, vc, rfl⟩ := hfv
  generalize (s.extract 1 (1 + zn)).size = X at hrun hown hnx
  have HRUN := Lib.hid hrun
  have HNX := Lib.hid hnx
  clear hrun hown hgr hnx hj0 hz0 hz1 hz2 h63
  by_cases hlt : (zn : Int) < 63
  · have q2 : decide ((zn : Int) < 63) = true := decide_eq_true hlt
    have q2' : decide (zn < 63) = true := decide_eq_true (by omega)
    have F := Lib.hid (show ∃ acc', readB (tls D.T at_ n) = acc' ∧ RoFin w (.slice va (acc.length + X) vc) acc' w' from by
     have he := HE.out
     rw [HRB.out, if_neg (by have := HP.out; omega), if_pos hlt, List.append_nil] at he
     exact ⟨_, he.symm, HNX.out.own, HNX.out.still, HNX.out.byt, by have := HNX.out.len; have := H.out.2.2.2.2; have := HI.out; omega⟩)
    clear hlt
    go_upto_region 12 with fail
    go_wp2_with (at_builtin; refine Lib.wpList_append_run _ rfl _ _ _ _ rfl _ _ rfl rfl _ _ HRUN.out ?_)
    go_meet
    case rel => exact F.out
  · have q2 : decide ((zn : Int) < 63) = false := decide_eq_false hlt
    have q2' : decide (zn < 63) = false := decide_eq_false (by omega)
    have HEQ := Lib.hid (show (acc ++ l'.take zn) ++ readB ((tls D.T at_ n).drop (i + 1)) = readB (tls D.T at_ n) from by
     have he := HE.out
     rw [HRB.out, if_neg (by have := HP.out; omega), if_neg hlt, ← List.append_assoc] at he
     exact he)
    clear hlt
    go_upto_region 12 with fail
    go_wp2_with (at_builtin; refine Lib.wpList_append_run _ rfl _ _ _ _ rfl _ _ rfl rfl _ _ HRUN.out ?_)
    go_roundw
    case rel => exact ⟨i + 1, _, by go_num, by have := HI.out; omega, HNX.out, HEQ.out⟩
    case measure => first | (simp [intOf]; done) | (simp [intOf]; have := HI.out; omega)
 case rest =>
  obtain ⟨acc, hacc, hown, hst, hab, hal⟩ := hcut
  have hv := vec_of_owns hown
  have HACC := Lib.hid hacc
  have HV := Lib.hid (And.intro hv (And.intro hst (And.intro hab hal)))
  have HSC := Lib.hid (rscan_any wc (fun _ => True) _ acc.length acc (Vec.sl0 hv (by decide)) (Vec.capOf hv) hab (by omega))
  obtain ⟨ba, bcp, rfl⟩ := hv.form'
  clear hacc hown hst hab hal hv
  obtain ⟨es, hes⟩ : ∃ es, (scanB (acc.length + 1) acc).1 = es := ⟨_, rfl⟩
  obtain ⟨m, hm⟩ : ∃ m, (scanB (acc.length + 1) acc).2 = m := ⟨_, rfl⟩
  have hsi := scanB_is (acc.length + 1) acc HV.out.2.2.1
  have hsl := scanB_len (acc.length + 1) acc
  unfold ScanPost at HSC
  rw [hes, hm] at HSC hsi hsl
  have HSI := Lib.hid (And.intro hsi (And.intro hsl hes))
  have hmb : m ≤ acc.length := hsl.1
  have hE : openE D at_ n = es := by
   unfold openE
   rw [HACC.out, hes]
  have HE := Lib.hid hE
  clear hsi hsl hes hm hE
  go_wp2_with fail
  refine HSC.out.mono ?_
  rintro en w5 ⟨lv, rfl, hen, hs5⟩
  obtain ⟨la, lc, rfl⟩ := hen.form
  have hbv5 := HV.out.1.only hs5 fun _ _ e => e
  obtain ⟨pv, -, r1, -, hpv⟩ := Go.Wh.Vec.part (P := Tryz.prog) (size := 1) 23 Tryz.underlying23 (fun w => rfl) hbv5 (Nat.zero_le m) hmb
  have r1' := r1 rfl
  have hpc : ((bc acc).drop (0 * 1)).take ((m - 0) * 1) = bc (streamB es) := by
   rw [Nat.zero_mul, List.drop_zero, Nat.mul_one, Nat.sub_zero, bc_take, HSI.out.1.1]
  rw [hpc, Nat.sub_zero] at hpv
  obtain ⟨pa, pc, rfl⟩ := (hpv w5 hbv5).form'
  have hmS : (streamB es).length = m := by
   have := congrArg List.length HSI.out.1.1
   rw [List.length_take] at this
   omega
  have HPR := Lib.hid (fun w' (hs : Still w5 w') => (hpv w' (hbv5.only hs fun _ _ e => e)).reads)
  have H5 := Lib.hid (And.intro hen (And.intro hs5 (And.intro hmS (HV.out.2.1.trans hs5))))
  obtain ⟨j0, hj0, hz0, hz1, hz2⟩ := info_parts info_b
  have HI := Lib.hid (And.intro hj0 (And.intro hz0 (And.intro hz1 hz2)))
  have HLN := Lib.hid (show 0 + m ≤ maxLen ∧ (0 + m) * 1 ≤ 140737488355328 from by have := HV.out.2.2.2; simp only [maxLen]; omega)
  obtain ⟨R, hR⟩ : ∃ R, D.clean at_ (streamB es) n = R := ⟨_, rfl⟩
  obtain ⟨q1, q2⟩ := R
  have HRR := Lib.hid hR
  clear hen hs5 hbv5 r1 hpv hpc HSC hj0 hz0 hz1 hz2 hmS hR
  go_wp2_with (at_builtin; refine wpList_append_vec rfl _ _ 23 rfl 5 j0 _ 1 1 Tryz.underlying23 HI.out.1 HI.out.2.1 HI.out.2.2.1 HI.out.2.2.2 rfl (by decide) (.slice (some ⟨w5.heap.size, 0, none⟩) 0 0) 0 [] (by simp [Act.eval]) (Vec.none_ _ _ _ _) (.slice pa m pc) m (bc (streamB es)) (by simp [Act.eval]) (HPR.out _ ((Still.refl _).alloc _)) (bc_one _) HLN.out.1 HLN.out.2 ?_; intro v' w6 hv' ho' hb'; rw [Nat.zero_add, List.nil_append] at hv'; obtain ⟨va, vc, rfl⟩ := hv'.form'; have HAP := Lib.hid (And.intro hv' (And.intro ho' hb')); clear hv' ho' hb')
  have hs56 : Still w5 w6 := ((Still.refl w5).alloc _).andThen HAP.out.2.1 fun k hk e => by
   have e' : w5.heap.size = k := Option.some.inj e
   omega
  have hav : ∀ g, (Value.slice va m vc).ownBlock = some g → w5.heap.size ≤ g ∧ g < w6.heap.size := fun g hg => by
   have hz := HAP.out.2.1.size
   have hz2 : ∀ o : Obj, (w5.alloc o).heap.size = w5.heap.size + 1 := fun o => by simp
   rw [hz2] at hz
   rcases HAP.out.2.2 with e | ⟨g', e, e1, e2⟩
   · rw [e] at hg
     have e' : w5.heap.size = g := Option.some.inj hg
     omega
   · rw [e] at hg
     injection hg with hg
     rw [hz2] at e1
     omega
  have hc7 := cellsAt_new w6 [.pointer (some ⟨d, 0, none⟩), .int .i64 at_, .int .i64 n, .slice la es.length lc, .slice va m vc, .int .i64 (es.length : Nat)] 66
  have hs67 : Still w6 (w6.alloc (.cells #[.pointer (some ⟨d, 0, none⟩), .int .i64 at_, .int .i64 n, .slice la es.length lc, .slice va m vc, .int .i64 (es.length : Nat)] 66)) := (Still.refl w6).alloc _
  have hz7 : (w6.alloc (.cells #[.pointer (some ⟨d, 0, none⟩), .int .i64 at_, .int .i64 n, .slice la es.length lc, .slice va m vc, .int .i64 (es.length : Nat)] 66)).heap.size = w6.heap.size + 1 := by simp
  change cellsAt (w6.alloc (.cells #[.pointer (some ⟨d, 0, none⟩), .int .i64 at_, .int .i64 n, .slice la es.length lc, .slice va m vc, .int .i64 (es.length : Nat)] 66)) _ _ at hc7
  generalize w6.alloc (.cells #[.pointer (some ⟨d, 0, none⟩), .int .i64 at_, .int .i64 n, .slice la es.length lc, .slice va m vc, .int .i64 (es.length : Nat)] 66) = w7 at *
  obtain ⟨t, ht⟩ : ∃ t, w6.heap.size = t := ⟨_, rfl⟩
  rw [ht] at hc7 hz7
  rw [ht]
  obtain ⟨cs, hcs, hsl⟩ := H5.out.1
  have hord : w.heap.size ≤ wc.heap.size ∧ wc.heap.size ≤ w5.heap.size ∧ w5.heap.size ≤ w6.heap.size := ⟨HV.out.2.1.size, H5.out.2.1.size, hs56.size⟩
  have hs57 : Still w5 w7 := hs56.trans hs67
  have hrt : RtAt (fun g => w.heap.size ≤ g ∧ g < w7.heap.size) w7 t d at_ n (streamB es) (.slice la es.length lc) (.slice va m vc) cs.flatten es.length es.length := by
   refine ⟨hc7, (hsl.low.still hs57).mono fun g hg => ⟨⟨by omega, by omega⟩, by omega⟩, fun u hu => ?_, ?_, streamB_byt HSI.out.1.2.2, ⟨by omega, by omega⟩, fun g hg => hg.2⟩
   · obtain ⟨c, hc, hu⟩ := List.mem_flatten.1 hu
     obtain ⟨k, hk, rfl⟩ := List.getElem_of_mem hc
     obtain ⟨ov, nv, mv, kv, dv, pv, h1, h2⟩ := hcs.2 k (es[k]'(by rw [← hcs.1]; exact hk)) cs[k] (List.getElem?_eq_getElem _) (List.getElem?_eq_getElem _)
     rw [h1] at hu
     exact eV_one h2 u hu
   · rw [H5.out.2.2.1]
     refine Sl.still (Vec.sl HAP.out.1 fun g hg => ⟨⟨⟨?_, ?_⟩, ?_⟩, (hav g hg).2⟩) hs67
     · have := (hav g hg).1; omega
     · have := (hav g hg).2; omega
     · have := (hav g hg).2; omega
  have hen7 : Ents w7 (fun g => w.heap.size ≤ g ∧ g < w7.heap.size) (.slice la es.length lc) es := (Ents.low H5.out.1).still hs57 |>.mono fun g hg => ⟨by omega, by omega⟩
  have hsw : Still w w7 := H5.out.2.2.2.trans hs57
  have HLAY := Lib.hid (rlay_at (A := A) w7 t d at_ n (streamB es) _ _ _ _ _ D hrt (H.out.1.still hsw) (fun g e1 e2 => by
   obtain ⟨x1, y1, z1, x2, y2, z2, x3, y3, z3, kk2, mv2, hda⟩ := H.out.1
   have := hda.lt g e1
   omega) H.out.2.1 HQ.out (by have := HN.out; omega) (by have := HN.out; omega) (clN_byte H.out.2.2.1 (streamB_byt HSI.out.1.2.2)) (by rw [H5.out.2.2.1]; have := HV.out.2.2.2; omega))
  rw [HRR.out] at HLAY
  have H7 := Lib.hid (And.intro hrt (And.intro hen7 hsw))
  have HLT := Lib.hid (show ∀ g, A g → g < w.heap.size from fun g e1 => by
   obtain ⟨x1, y1, z1, x2, y2, z2, x3, y3, z3, kk2, mv2, hda⟩ := H.out.1
   exact hda.lt g e1)
  clear hs56 hav hc7 hs67 hz7 ht hcs hsl hord hs57 hrt hen7 hsw
  go_wp2_with fail
  refine HLAY.out.mono ?_
  rintro en w8 ⟨rfl, kd, ko⟩
  have F := Lib.hid (fun e1 (he : if q1 = 0 then e1 = Ending.returned (.tuple #[.pointer (some ⟨t, 0, none⟩), .slice la es.length lc, .int .i64 0]) else e1 = .returned (.tuple #[.pointer none, .slice none 0 0, .int .i64 q1])) => show RoPost A w d at_ n (openE D at_ n) (D.clean at_ (streamB (openE D at_ n)) n) e1 w8 from by
   unfold RoPost
   rw [HE.out, HRR.out]
   dsimp only
   have hz8 := ko.size
   have ho : Only A w w8 := (H7.out.2.2.mono fun _ e => e.elim).trans ko
   split
   · rename_i h0
     rw [if_pos h0] at he
     refine ⟨t, .slice la es.length lc, .slice va m vc, cs.flatten, he, ?_, ?_, kd, ho⟩
     · refine RtAt.grow (H7.out.1.only ko fun g hg e => ?_) (fun g hg => ⟨hg.1, by omega⟩) fun g hg => hg.2
       have := HLT.out g e
       omega
     · refine (H7.out.2.1.only ko fun g hg e => ?_).mono fun g hg => ⟨hg.1, by omega⟩
       have := HLT.out g e
       omega
   · rename_i h0
     rw [if_neg h0] at he
     exact ⟨he, kd, ho⟩)
  clear kd ko HLAY
  by_cases h0 : q1 = 0
  · subst h0
    have F2 := Lib.hid (F.out _ (by rw [if_pos rfl]))
    clear F
    go_wp2_with fail
    go_ret3
    exact F2.out
  · have F2 := Lib.hid (F.out _ (by rw [if_neg h0]))
    have qe : (q1 == 0) = false := by rw [beq_eq_false_iff_ne]; exact h0
    have hrn : ¬ q1 = 0 := h0
    clear F h0
    go_wp2_with fail
    go_ret3
    exact F2.out
end Go.Proofs.YtojkggppcmdepaaGreat

namespace Go.Proofs.YtojkggppcmdepaaGreat
open Go.RowKit Go.Wh Go.Maps

theorem RdAt.grow {A : Nat → Prop} {w : World} {d g1 o1 c1 g2 o2 c2 g3 o3 c3 : Nat} {D : PDk} {k : Int} {mv : Value} {A' : Nat → Prop} (h : RdAt A w d D g1 o1 c1 g2 o2 c2 g3 o3 c3 k mv) (ha : ∀ g, A g → A' g) (hl : ∀ g, A' g → g < w.heap.size) : RdAt A' w d D g1 o1 c1 g2 o2 c2 g3 o3 c3 k mv :=
 ⟨h.raw, fun k' mask hp => by
  obtain ⟨e, h1, h2⟩ := h.pl k' mask hp
  exact ⟨e, h1.mono fun g hg => ⟨ha g hg.1, hg.2⟩, h2⟩, h.mf, fun g hg => ha g (h.mu g hg), hl⟩
theorem RdX.grow {A A' : Nat → Prop} {w : World} {d : Nat} {D : PDk} (h : RdX A d D w) (ha : ∀ g, A g → A' g) (hl : ∀ g, A' g → g < w.heap.size) : RdX A' d D w := by
 obtain ⟨g1, o1, c1, g2, o2, c2, g3, o3, c3, k, mv, h⟩ := h
 exact ⟨g1, o1, c1, g2, o2, c2, g3, o3, c3, k, mv, h.grow ha hl⟩
set_option maxHeartbeats 4000000 in
set_option maxRecDepth 100000 in
theorem rdarm_at {A : Nat → Prop} {w : World} {d g1 o1 c1 g2 o2 c2 g3 o3 c3 : Nat} {D : PDk} {k : Int} {mv : Value} {Q : Nat → Prop} (h : RdAt A w d D g1 o1 c1 g2 o2 c2 g3 o3 c3 k mv) (z : Int) (ma : Option Addr) (m mc : Nat) (mask : List Int) (hm : 0 < m → Sl w Q 1 (.slice ma m mc) m (bc mask)) (hl : mask.length = m) (hb : Byt mask) (h10 : m ≤ 10000) :
 Calls Tryz.prog 24 #[.pointer (some ⟨d, 0, none⟩), .int .i64 z, .slice ma m mc] w (fun e w' => e = .returned (.tuple #[]) ∧ RdX (Newer A w w') d (D.arm z mask) w' ∧ Only A w w') := by
 obtain ⟨g, o, cap, w1, hrun, hs1, hv1, hg1, hg2⟩ := copy_row w Q ma mc m mask hm hl h10
 have hr1 := h.raw.still hs1
 have f4 : w1.frozen? ⟨d, 4, none⟩ = false := hr1.cells.free 4
 have f5 : w1.frozen? ⟨d, 5, none⟩ = false := hr1.cells.free 5
 have f6 : w1.frozen? ⟨d, 6, none⟩ = false := hr1.cells.free 6
 have c4 : w1.cell? ⟨d, 4, none⟩ = some (.bool D.plan.isSome) := hr1.cells.cell 4
 have c5 : w1.cell? ⟨d, 5, none⟩ = some (.int .i64 k) := hr1.cells.cell 5
 have c6 : w1.cell? ⟨d, 6, none⟩ = some mv := hr1.cells.cell 6
 have F := Lib.hid (show RdX (Newer A w (((w1.setCell ⟨d, 4, none⟩ (.bool (decide (0 ≤ z)))).setCell ⟨d, 5, none⟩ (.int .i64 z)).setCell ⟨d, 6, none⟩ (.slice (some ⟨g, o, none⟩) m cap))) d (D.arm z mask) (((w1.setCell ⟨d, 4, none⟩ (.bool (decide (0 ≤ z)))).setCell ⟨d, 5, none⟩ (.int .i64 z)).setCell ⟨d, 6, none⟩ (.slice (some ⟨g, o, none⟩) m cap)) ∧ Only A w (((w1.setCell ⟨d, 4, none⟩ (.bool (decide (0 ≤ z)))).setCell ⟨d, 5, none⟩ (.int .i64 z)).setCell ⟨d, 6, none⟩ (.slice (some ⟨g, o, none⟩) m cap)) from by
  have ho : Only (fun b => b = d) w1 (((w1.setCell ⟨d, 4, none⟩ (.bool (decide (0 ≤ z)))).setCell ⟨d, 5, none⟩ (.int .i64 z)).setCell ⟨d, 6, none⟩ (.slice (some ⟨g, o, none⟩) m cap)) := (((Only.refl (fun b => b = d) w1).setCell (p := ⟨d, 4, none⟩) (.inl rfl) _).setCell (p := ⟨d, 5, none⟩) (.inl rfl) _).setCell (p := ⟨d, 6, none⟩) (.inl rfl) _
  have hAd : A d := h.mu d (.inl rfl)
  have hoA : Only A w (((w1.setCell ⟨d, 4, none⟩ (.bool (decide (0 ≤ z)))).setCell ⟨d, 5, none⟩ (.int .i64 z)).setCell ⟨d, 6, none⟩ (.slice (some ⟨g, o, none⟩) m cap)) := (hs1.mono fun _ e => e.elim).trans (ho.mono fun b e => by rw [show b = d from e]; exact hAd)
  have hz := ho.size
  have hz1 := hs1.size
  have hdl := h.lt d hAd
  have hr2 := ((hr1.setD (off' := D.dead) (on' := decide (0 ≤ z)) (k' := k) (mv' := mv) 4 (.bool (decide (0 ≤ z))) rfl).setD (off' := D.dead) (on' := decide (0 ≤ z)) (k' := z) (mv' := mv) 5 (.int .i64 z) rfl).setD (off' := D.dead) (on' := decide (0 ≤ z)) (k' := z) (mv' := (.slice (some ⟨g, o, none⟩) m cap)) 6 (.slice (some ⟨g, o, none⟩) m cap) rfl
  have hps : (D.arm z mask).plan.isSome = decide (0 ≤ z) := by
   unfold PDk.arm
   by_cases hz : 0 ≤ z
   · simp [hz]
   · simp [hz]
  refine ⟨⟨g1, o1, c1, g2, o2, c2, g3, o3, c3, z, (.slice (some ⟨g, o, none⟩) m cap), ?_, fun k' mask' hp => ?_, ⟨_, _, _, rfl⟩, fun g hg => .inl (h.mu g hg), fun b hb => hb.elim (fun e => by have := h.lt b e; omega) fun e => e.2⟩, hoA⟩
  · have e1 : (D.arm z mask).T = D.T := rfl
    have e2 : nowL (D.arm z mask) = nowL D := rfl
    have e3 : wasL (D.arm z mask) = wasL D := rfl
    have e4 : wetL (D.arm z mask) = wetL D := rfl
    have e5 : (D.arm z mask).dead = D.dead := rfl
    rw [e1, e2, e3, e4, e5, hps]
    exact hr2
  · have hp2 : (if 0 ≤ z then some (z, mask) else none) = some (k', mask') := hp
    by_cases hz0 : 0 ≤ z
    · rw [if_pos hz0] at hp2
      injection hp2 with hp2
      injection hp2 with e1 e2
      subst e1 e2
      have hnm : ∀ b, RMu d g1 g2 g3 b → b ≠ g := fun b hb e => by
       have := h.lt b (h.mu b hb)
       omega
      have hsl : Sl w1 (fun b => b = g) 1 (.slice (some ⟨g, o, none⟩) m cap) m (bc mask) := Vec.sl (.inr ⟨g, o, cap, rfl, hv1⟩) fun b hb => by
       have e : b = g := (Option.some.inj hb).symm
       exact ⟨e, by omega⟩
      refine ⟨rfl, ?_, hb⟩
      rw [hl]
      exact (hsl.only ho fun b e1 e2 => hnm d (.inl rfl) (by omega)).mono fun b e => ⟨.inr ⟨by omega, by omega⟩, fun e2 => hnm b e2 e⟩
    · rw [if_neg hz0] at hp2
      cases hp2)
 clear h hm hl hb h10 hs1 hv1 hg1 hg2 hr1
 obtain ⟨q, hq⟩ : ∃ q, decide (0 ≤ z) = q := ⟨_, rfl⟩
 rw [hq] at F
 have HRUN := Lib.hid hrun
 clear hrun
 go_enter Tryz.func24, Tryz.ntmps24
 go_wp2_with (at_builtin; refine wpList_append_given rfl _ _ 23 23 rfl _ _ (by simp [Act.eval]) (by simp [Act.eval]) _ _ HRUN.out ?_)
 go_end0
 exact ⟨rfl, F.out⟩
end Go.Proofs.YtojkggppcmdepaaGreat

namespace Go.Proofs.YtojkggppcmdepaaGreat
open Go.RowKit Go.Wh Go.Maps

structure AlD (W : World) (k d r : Nat) (A1 A2 : Nat → Prop) (w : World) (D : PDk) : Prop where
 g : DgX A1 d D w
 q : RdX A2 r D w
 n12 : ∀ g, A1 g → ¬ A2 g
 f1 : ∀ g, A1 g → W.heap.size ≤ g
 f2 : ∀ g, A2 g → W.heap.size ≤ g
 fine : D.fine
 byt : D.byt
 len : D.T.length = k + 2
 still : Still W w
structure AlT (W : World) (k d r x y : Nat) (A1 A2 B1 B2 : Nat → Prop) (w : World) (es : List PE) (st : Nat) : Prop where
 t : TlX B1 x d 1 k es st w
 q : ∃ lv av Lc, RtAt B2 w y r 1 k (streamB es) lv av Lc es.length st
 a1 : ∀ g, A1 g → ¬ B1 g
 a2 : ∀ g, A1 g → ¬ B2 g
 a3 : ∀ g, A2 g → ¬ B1 g
 a4 : ∀ g, A2 g → ¬ B2 g
 b : ∀ g, B1 g → ¬ B2 g
 f1 : ∀ g, B1 g → W.heap.size ≤ g
 f2 : ∀ g, B2 g → W.heap.size ≤ g
def AlDX (W : World) (k d r : Nat) (w : World) (D : PDk) : Prop := ∃ A1 A2, AlD W k d r A1 A2 w D
def AlX (W : World) (k d r x y : Nat) (w : World) (D : PDk) (es : List PE) (st : Nat) : Prop := ∃ A1 A2 B1 B2, AlD W k d r A1 A2 w D ∧ AlT W k d r x y A1 A2 B1 B2 w es st
theorem RdX.lt {A : Nat → Prop} {d : Nat} {D : PDk} {w : World} (h : RdX A d D w) : ∀ g, A g → g < w.heap.size := by
 obtain ⟨g1, o1, c1, g2, o2, c2, g3, o3, c3, k, mv, h⟩ := h
 exact h.lt
section
variable {W w w' w1 w2 : World} {k d r x y st : Nat} {A1 A2 B1 B2 A1' A2' : Nat → Prop} {D D' : PDk} {es : List PE}
theorem AlD.step (h : AlD W k d r A1 A2 w D) (hs : Still w w') : AlD W k d r A1 A2 w' D := ⟨h.g.still hs, h.q.still hs, h.n12, h.f1, h.f2, h.fine, h.byt, h.len, h.still.trans hs⟩
theorem AlT.step (h : AlT W k d r x y A1 A2 B1 B2 w es st) (hs : Still w w') : AlT W k d r x y A1 A2 B1 B2 w' es st := by
 obtain ⟨lv, av, Lc, hq⟩ := h.q
 exact ⟨h.t.still hs, ⟨lv, av, Lc, hq.still hs⟩, h.a1, h.a2, h.a3, h.a4, h.b, h.f1, h.f2⟩
theorem AlDX.step (h : AlDX W k d r w D) (hs : Still w w') : AlDX W k d r w' D := by
 obtain ⟨A1, A2, h⟩ := h
 exact ⟨A1, A2, h.step hs⟩
theorem AlX.step (h : AlX W k d r x y w D es st) (hs : Still w w') : AlX W k d r x y w' D es st := by
 obtain ⟨A1, A2, B1, B2, h1, h2⟩ := h
 exact ⟨A1, A2, B1, B2, h1.step hs, h2.step hs⟩
theorem AlX.disks (h : AlX W k d r x y w D es st) : AlDX W k d r w D := by
 obtain ⟨A1, A2, B1, B2, h1, h2⟩ := h
 exact ⟨A1, A2, h1⟩
theorem AlD.lt1 (h : AlD W k d r A1 A2 w D) : ∀ g, A1 g → g < w.heap.size := h.g.lt
theorem AlD.lt2 (h : AlD W k d r A1 A2 w D) : ∀ g, A2 g → g < w.heap.size := h.q.lt
theorem still_new {X : Nat → Prop} (h : Still W w) (ho : Only X w w') (hx : ∀ g, X g → W.heap.size ≤ g) : Still W w' := h.andThen ho fun g hg e => by have := hx g e; omega
theorem AlD.both (h : AlD W k d r A1 A2 w D) (g1 : DgX A1' d D' w1) (o1 : Only A1 w w1) (s1 : ∀ g, A1' g → A1 g ∨ w.heap.size ≤ g ∧ g < w1.heap.size) (hs : Still w1 w2) (q2 : RdX A2' r D' w') (o2 : Only A2 w2 w') (s2 : ∀ g, A2' g → A2 g ∨ w2.heap.size ≤ g ∧ g < w'.heap.size) (hf : D'.fine) (hb : D'.byt) (hl : D'.T.length = k + 2) : AlD W k d r A1' A2' w' D' := by
 have l1 := h.lt1
 have l2 := h.lt2
 have l3 := g1.lt
 have z0 := h.still.size
 have z1 := o1.size
 have z2 := hs.size
 refine ⟨(g1.still hs).only o2 fun g e1 e2 => ?_, q2, fun g e1 e2 => ?_, fun g e => ?_, fun g e => ?_, hf, hb, hl, ?_⟩
 · rcases s1 g e1 with e | e
   · exact h.n12 g e e2
   · have := l2 g e2
     omega
 · have := l3 g e1
   rcases s2 g e2 with e | e
   · rcases s1 g e1 with e' | e'
     · exact h.n12 g e' e
     · have := l2 g e
       omega
   · omega
 · rcases s1 g e with e | e
   · exact h.f1 g e
   · omega
 · rcases s2 g e with e | e
   · exact h.f2 g e
   · omega
 · exact still_new ((still_new h.still o1 h.f1).trans hs) o2 h.f2
theorem AlT.bystand (ht : AlT W k d r x y A1 A2 B1 B2 w es st) (o1 : Only A1 w w1) (s1 : ∀ g, A1' g → A1 g ∨ w.heap.size ≤ g ∧ g < w1.heap.size) (hs : Still w1 w2) (o2 : Only A2 w2 w') (s2 : ∀ g, A2' g → A2 g ∨ w2.heap.size ≤ g ∧ g < w'.heap.size) : AlT W k d r x y A1' A2' B1 B2 w' es st := by
 obtain ⟨lv, av, Lc, hq⟩ := ht.q
 have l1 := ht.t.lt
 have l2 := hq.lt
 have z1 := o1.size
 have z2 := hs.size
 have n1 : ∀ g, A1' g → ¬ B1 g := fun g e1 e2 => (s1 g e1).elim (fun e => ht.a1 g e e2) fun e => by have := l1 g e2; omega
 have n2 : ∀ g, A1' g → ¬ B2 g := fun g e1 e2 => (s1 g e1).elim (fun e => ht.a2 g e e2) fun e => by have := l2 g e2; omega
 have n3 : ∀ g, A2' g → ¬ B1 g := fun g e1 e2 => (s2 g e1).elim (fun e => ht.a3 g e e2) fun e => by have := l1 g e2; omega
 have n4 : ∀ g, A2' g → ¬ B2 g := fun g e1 e2 => (s2 g e1).elim (fun e => ht.a4 g e e2) fun e => by have := l2 g e2; omega
 exact ⟨((ht.t.only o1 fun g e1 e2 => ht.a1 g e2 e1).still hs).only o2 fun g e1 e2 => ht.a3 g e2 e1, ⟨lv, av, Lc, ((hq.only o1 fun g e1 e2 => ht.a2 g e2 e1).still hs).only o2 fun g e1 e2 => ht.a4 g e2 e1⟩, n1, n2, n3, n4, ht.b, ht.f1, ht.f2⟩
end
end Go.Proofs.YtojkggppcmdepaaGreat

/- A pool's page is written to the disk. Conditions: the pool, the disk and the trail lie in memory, apart; a page of the disk. What a hand holds behind a put: plain. No program. No conditions. -/
import Derived.Test.YtlcfoeikamkpmaaGreatPr22
namespace Go.Proofs.YtlcfoeikamkpmaaGreat
open Go.RowKit Go.Wh Go.Maps

theorem be4_byt {z : Int} : Byt (be4 z) := by
 intro x hx
 unfold be4 at hx
 simp only [List.mem_cons, List.not_mem_nil, or_false] at hx
 rcases hx with rfl | rfl | rfl | rfl <;> omega
theorem oneB_byt {z : Int} {l : List Int} (h : Byt l) : Byt (oneB z l) := by
 unfold oneB
 exact be4_byt.append (h.append (Byt.zeros _))
theorem fullB_byt {l : List Int} (h : Byt l) : Byt (fullB l) := by
 unfold fullB
 split
 · exact Byt.zeros _
 · exact h
theorem PPg.body_byt {p : PPg} (h : p.ok) : Byt p.body := by
 intro z hz
 obtain ⟨l, hl, hz⟩ := List.mem_flatMap.1 hz
 exact fullB_byt (h.byt l hl) z hz
theorem leafA_byt {p : PPg} (h : p.ok) : Byt (leafA p) := oneB_byt ((PPg.body_byt h).take _)
theorem leafB_byt {p : PPg} (h : p.ok) : Byt (leafB p) := oneB_byt ((PPg.body_byt h).drop _)
def PSt.wtail (cf : PCf) (k : Int) (f : PFr) (s : PSt) : Int × PSt :=
 if f.p.may = false then (1, s) else ((s.D.two ((cf.first : Int) + 2 * k) (leafA f.p) (leafB f.p)).1, { s with D := (s.D.two ((cf.first : Int) + 2 * k) (leafA f.p) (leafB f.p)).2 })
theorem write_ahead {cf : PCf} {k : Int} {f : PFr} {s s2 : PSt} (h : s.ahead cf f = (0, s2)) : s.write cf k f = s2.wtail cf k f := by
 unfold PSt.write PSt.wtail
 rw [h]
 rw [if_neg (fun e => e rfl)]
theorem ahead_no {cf : PCf} {f : PFr} {s : PSt} (h : ¬ (cf.tr = true ∧ (s.st : Int) < f.p.lsn)) : s.ahead cf f = (0, s) := by
 unfold PSt.ahead
 rw [if_neg h]
section
variable {c : Nat → Nat} {a b : Nat} {w : World} {d : Nat} {t : Option Nat} {cf : PCf} {s : PSt}
set_option maxHeartbeats 4000000 in
set_option maxRecDepth 100000 in
theorem pwrite_any (hD : Dt c a b w d t cf s) (a0 : a ≠ 0) (b0 : b ≠ 0) (ab : a ≠ b) {pb : Nat} {pv : Value} (hP : cellsAt w pb [.pointer (some ⟨d, 0, none⟩), ptrV t, .int .i64 (cf.first : Nat), .int .i64 (cf.pages : Nat), pv]) (pa : c pb ≠ a) (pbb : c pb ≠ b)
 {Q : Nat → Prop} {v0 v1 v2 v3 : Value} {f : PFr} (hv : PgIs w Q [v0, v1, v2, v3] f.p.c) (hQ : ∀ g, Q g → c g ≠ a ∧ c g ≠ b) (hok : f.p.ok) (k : Int) (hk0 : 0 ≤ k) (hk : k ≤ 100000) (hf : cf.first ≤ 100000) :
 Calls Tryz.prog 56 #[.pointer (some ⟨pb, 0, none⟩), .int .i64 k, .agg #[v0, v1, v2, v3, .int .i64 f.p.lsn, .bool f.dirty, .int .i64 f.rec_]] w (DtPost c a b w d t cf (s.write cf k f)) := by
 obtain ⟨z, hz⟩ : ∃ z, f.p.lsn = z := ⟨_, rfl⟩
 have HZ := Lib.hid hz
 have HH := Lib.hid (And.intro hD (And.intro hv (And.intro hQ hok)))
 have HN := Lib.hid (And.intro a0 (And.intro b0 (And.intro ab (And.intro pa pbb))))
 rw [hz]
 have HC := Lib.hid (fun tt => cellsAt_new w [v0, v1, v2, v3, .int .i64 z, .bool f.dirty, .int .i64 f.rec_] tt)
 have hPl := hP.lt
 have HP := Lib.hid hP
 obtain ⟨I0, hI0⟩ : ∃ I : Int, (cf.first : Int) + 2 * k = I := ⟨_, rfl⟩
 obtain ⟨I1, hI1⟩ : ∃ I : Int, I0 + 1 = I := ⟨_, rfl⟩
 obtain ⟨K2, hK2⟩ : ∃ I : Int, 2 * k = I := ⟨_, rfl⟩
 have HIX := Lib.hid (And.intro hI0 hI1)
 rw [hK2] at hI0
 have u1 : IntKind.i64.wrap K2 = K2 := IntWalk.i64_in _ (by omega)
 have u2 : IntKind.i64.wrap I0 = I0 := IntWalk.i64_in _ (by omega)
 have u3 : IntKind.i64.wrap I1 = I1 := IntWalk.i64_in _ (by omega)
 clear hz hv hQ hok a0 b0 ab pa pbb hk0 hk hf
 go_enter Tryz.func56, Tryz.ntmps56
 go_upto_region 1 with fail
 have hc := HC.out 100
 have hs : Still w (w.alloc (.cells #[v0, v1, v2, v3, .int .i64 z, .bool f.dirty, .int .i64 f.rec_] 100)) := (Still.refl w).alloc _
 clear HC
 change cellsAt (w.alloc (.cells #[v0, v1, v2, v3, .int .i64 z, .bool f.dirty, .int .i64 f.rec_] 100)) w.heap.size _ at hc
 generalize (w.alloc (.cells #[v0, v1, v2, v3, .int .i64 z, .bool f.dirty, .int .i64 f.rec_] 100)) = w1 at *
 obtain ⟨b5, hb5⟩ : ∃ b, w.heap.size = b := ⟨_, rfl⟩
 rw [hb5] at hc
 rw [hb5]
 have p1 : w1.cell? ⟨pb, 1, none⟩ = some (ptrV t) := (hP.only hs fun e => e).cell 1
 have k4 : w1.cell? ⟨b5, 4, none⟩ = some (.int .i64 z) := hc.cell 4
 have H1 := Lib.hid (And.intro hs (And.intro hc hb5))
 clear hs hc hb5 hP hPl hD
 cases t with
 | none =>
  replace p1 : w1.cell? ⟨pb, 1, none⟩ = some (.pointer none) := p1
  go_quiet (fail)
  have hq : Still w1 (w1.drewN nq) := (Still.refl w1).drewN nq
  generalize w1.drewN nq = w2a at *
  have HWT := Lib.hid (show s.write cf k f = s.wtail cf k f from write_ahead (ahead_no (fun e => by have := HH.out.1.trf; rw [e.1] at this; cases this)))
  have HST2 := Lib.hid (show Stp (fun i => i = a ∨ i = b) (fun i => i = a) c c w w2a from Stp.still HH.out.1.low (H1.out.1.trans hq))
  have HDW := Lib.hid (HH.out.1.still (H1.out.1.trans hq) HN.out.1 HN.out.2.1)
  have HVW := Lib.hid (HH.out.2.1.still (H1.out.1.trans hq))
  have HPW := Lib.hid (HP.out.only (H1.out.1.trans hq) fun e => e)
  have HC5 := Lib.hid (H1.out.2.1.only hq fun e => e)
  have HCPB := Lib.hid (show ¬ c pb = a ∧ ¬ c pb = b from HN.out.2.2.2)
  clear hq p1 k4
  have HTL := Lib.hid (show ∀ (rr : Int × PSt) (w' : World), s.write cf k f = rr → (∃ c', Stp (fun i => i = a ∨ i = b) (fun i => i = a) c c' w2a w' ∧ Dt c' a b w' d none cf rr.2) → DtPost c a b w d none cf (s.write cf k f) (.returned (.int .i64 rr.1)) w' from fun rr w' e ⟨c', h1, h2⟩ => by
   rw [e]
   exact ⟨rfl, c', HST2.out.trans h1, h2⟩)
  have HLP := Lib.hid (lput_any w2a f.p v0 v1 v2 v3 HVW.out)
  rw [HZ.out] at HLP
  have HRG := Lib.hid (show (w2a).rangeAt b5 0 [v0, v1, v2, v3, .int .i64 z] from fun j u hj => by
   rw [Nat.zero_add, HC5.out.cell j]
   rcases (show j = 0 ∨ j = 1 ∨ j = 2 ∨ j = 3 ∨ j = 4 from by have := (List.getElem?_eq_some_iff.1 hj).1; simp at this; omega) with rfl | rfl | rfl | rfl | rfl <;> exact hj)
  go_upto_region 5 with fail
  go_wp2_with ((with_reducible (show wpList _ _ _ ({ dst := some 39, op := _, type := _, pos := _, after := _, guard := _ } :: _) _ _)); (refine wpList_load_mid rfl 36 _ rfl b5 0 rfl [v0, v1, v2, v3, .int .i64 z] _ HRG.out Tryz.underlying36 rfl size_page ?_))
  refine HLP.out.mono ?_
  intro e w2 hp
  unfold LpPost at hp
  by_cases hm : f.p.may = true
  rotate_left
  · rw [if_neg hm] at hp
    obtain ⟨rfl, hs2⟩ := hp
    have F := Lib.hid (HTL.out (1, s) w2 (by rw [HWT.out]; unfold PSt.wtail; rw [if_pos (by simpa using hm)]) ⟨c, Stp.still HDW.out.low hs2, HDW.out.still hs2 HN.out.1 HN.out.2.1⟩)
    clear hs2 hm
    go_wp2_with fail
    go_ret
    exact F.out
  rw [if_pos hm] at hp
  obtain ⟨va, vb, rfl, ka, kb, hs2, fa, fb⟩ := hp
  have HM := Lib.hid hm
  have HD2 := Lib.hid (HDW.out.still hs2 HN.out.1 HN.out.2.1)
  have HST3 := Lib.hid (HST2.out.trans (Stp.still HDW.out.low hs2))
  have HPB2 := Lib.hid (show cellsAt w2 pb [.pointer (some ⟨d, 0, none⟩), ptrV none, .int .i64 (cf.first : Nat), .int .i64 (cf.pages : Nat), pv] from HPW.out.only hs2 fun e => e)
  have HNA := Lib.hid (show (∀ g, va.ownBlock = some g → c g = 0) ∧ (∀ g, vb.ownBlock = some g → c g = 0 ∧ g < w2.heap.size) from
   ⟨fun g hg => Classical.byContradiction fun e => by have := HDW.out.low g e; have := fa g hg; omega, fun g hg => ⟨Classical.byContradiction fun e => by have := HDW.out.low g e; have := fb g hg; omega, (fb g hg).2⟩⟩)
  have HKB := Lib.hid kb
  have q0 : w2.cell? ⟨pb, 0, none⟩ = some (.pointer (some ⟨d, 0, none⟩)) := HPB2.out.cell 0
  have q2 : w2.cell? ⟨pb, 2, none⟩ = some (.int .i64 (cf.first : Nat)) := HPB2.out.cell 2
  have SS := Lib.hid (fun w' (hs : Still w2 w') => show w'.cell? ⟨pb, 0, none⟩ = some (.pointer (some ⟨d, 0, none⟩)) ∧ w'.cell? ⟨pb, 2, none⟩ = some (.int .i64 (cf.first : Nat)) from ⟨Still.cell hs q0, Still.cell hs q2⟩)
  have HW1 := Lib.hid (fun w' (hs : Still w2 w') => show Calls Tryz.prog 14 #[.pointer (some ⟨d, 0, none⟩), .int .i64 I0, va] w' (DgPostN (Cs c a) w' d ((s).D.put I0 (leafA f.p))) from
   dwrite_any (HD2.out.still hs HN.out.1 HN.out.2.1).dk HD2.out.fine HD2.out.len I0 (leafA f.p) va (ka.belowAll (Only.below hs (Nat.le_refl _) fun _ _ e => e)).reads (fun g hg e => by have e' : c g = a := e; rw [HNA.out.1 g hg] at e'; exact HN.out.1 e'.symm))
  obtain ⟨ea, ec, rfl⟩ := ka.form'
  obtain ⟨eb, ed, rfl⟩ := kb.form'
  clear ka kb fa fb hs2 hm q0 q2 HLP HRG
  go_upto_region 8 with fail
  go_region_held3 (fun w' => w'.cell? ⟨pb, 0, none⟩ = some (.pointer (some ⟨d, 0, none⟩)) ∧ w'.cell? ⟨pb, 2, none⟩ = some (.int .i64 (cf.first : Nat))) (first | exact SS.out _ (still_drew _) | exact SS3.out) (first
   | (go_at_call 14; (with_reducible refine (HW1.out _ (still_drew _)).mono ?_); rintro e w3 ⟨rfl, k2, k3⟩; obtain ⟨c3, hst3, hd3⟩ := Dt.ofPut (HD2.out.still (still_drew w2) HN.out.1 HN.out.2.1) (leafA_byt HH.out.2.2.2) k2 k3 HN.out.1 HN.out.2.1 HN.out.2.2.1; have H3 := Lib.hid (And.intro hst3 hd3); have SS3 := Lib.hid (show w3.cell? ⟨pb, 0, none⟩ = some (.pointer (some ⟨d, 0, none⟩)) ∧ w3.cell? ⟨pb, 2, none⟩ = some (.int .i64 (cf.first : Nat)) from by have hx : ¬ c pb = a ∧ ¬ c pb = b := HCPB.out; have hc3 := (HPB2.out.only (still_drew w2) fun e => e).only hst3.only (fun e => by have e' : c pb = a ∨ c pb = b := e; exact e'.elim hx.1 hx.2); exact ⟨hc3.cell 0, hc3.cell 2⟩); clear k2 k3 hst3 hd3))
  have HST4 := Lib.hid ((HST3.out.trans (Stp.still HD2.out.low (still_drew w2))).trans H3.out.1)
  obtain ⟨e1, he1⟩ : ∃ e1, ((s).D.put I0 (leafA f.p)).1 = e1 := ⟨_, rfl⟩
  have HE1 := Lib.hid he1
  rw [he1]
  by_cases hz1 : e1 = 0
  rotate_left
  · have F := Lib.hid (show DtPost c a b w d none cf (s.write cf k f) (.returned (.int .i64 e1)) w3 from by
     have hw : s.write cf k f = (e1, { s with D := ((s).D.put I0 (leafA f.p)).2 }) := by
      rw [HWT.out]
      unfold PSt.wtail PDk.two
      rw [if_neg (by rw [HM.out]; decide), HIX.out.1, if_pos (by rw [he1]; exact hz1), he1]
     rw [hw]
     exact ⟨rfl, c3, HST4.out, H3.out.2⟩)
    have d1 : (e1 != 0) = true := bne_iff_ne.2 hz1
    clear he1 hz1
    go_wp2_with fail
    go_ret
    exact F.out
  subst hz1
  clear he1
  have HD3 := Lib.hid H3.out.2
  have HKB3 := Lib.hid (show Vec w3 1 (.slice eb 64 ed) 64 (bc (leafB f.p)) ∧ ∀ g, (Value.slice eb 64 ed).ownBlock = some g → c3 g = 0 from by
   have h1 := H3.out.1
   refine ⟨HKB.out.only ((Only.refl _ w2).drew.trans h1.only) fun g hg e => ?_, fun g hg => ?_⟩
   · have e' : c g = a ∨ c g = b := e
     rw [(HNA.out.2 g hg).1] at e'
     exact e'.elim (fun e => HN.out.1 e.symm) fun e => HN.out.2.1 e.symm
   · rw [h1.old g (by have := (HNA.out.2 g hg).2; exact this)]
     exact (HNA.out.2 g hg).1)
  have q0 : w3.cell? ⟨pb, 0, none⟩ = some (.pointer (some ⟨d, 0, none⟩)) := SS3.out.1
  have q2 : w3.cell? ⟨pb, 2, none⟩ = some (.int .i64 (cf.first : Nat)) := SS3.out.2
  have HPC := Lib.hid (show pb < w3.heap.size ∧ ¬ c3 pb = a ∧ ¬ c3 pb = b from by
   have hl := HPB2.out.lt
   have := H3.out.1.old pb hl
   rw [this]
   exact ⟨lt_of_cell q0, HCPB.out⟩)
  have SSA := Lib.hid (fun w' (hs : Still w3 w') => show w'.cell? ⟨pb, 0, none⟩ = some (.pointer (some ⟨d, 0, none⟩)) ∧ w'.cell? ⟨pb, 2, none⟩ = some (.int .i64 (cf.first : Nat)) from ⟨Still.cell hs q0, Still.cell hs q2⟩)
  have HW2 := Lib.hid (fun w' (hs : Still w3 w') => show Calls Tryz.prog 14 #[.pointer (some ⟨d, 0, none⟩), .int .i64 I1, .slice eb 64 ed] w' (DgPostN (Cs c3 a) w' d (((s).D.put I0 (leafA f.p)).2.put I1 (leafB f.p))) from
   dwrite_any (HD3.out.still hs HN.out.1 HN.out.2.1).dk HD3.out.fine HD3.out.len I1 (leafB f.p) _ (HKB3.out.1.belowAll (Only.below hs (Nat.le_refl _) fun _ _ e => e)).reads (fun g hg e => by have e' : c3 g = a := e; rw [HKB3.out.2 g hg] at e'; exact HN.out.1 e'.symm))
  clear q0 q2 HW1 SS SS3
  go_upto_region 11 with fail
  go_region_held3 (fun w' => w'.cell? ⟨pb, 0, none⟩ = some (.pointer (some ⟨d, 0, none⟩)) ∧ w'.cell? ⟨pb, 2, none⟩ = some (.int .i64 (cf.first : Nat))) (first | exact SSA.out _ (still_drew _) | exact SS4.out) (first
   | (go_at_call 14; (with_reducible refine (HW2.out _ (still_drew _)).mono ?_); rintro e w4 ⟨rfl, k2, k3⟩; obtain ⟨c4, hst4, hd4⟩ := Dt.ofPut (HD3.out.still (still_drew w3) HN.out.1 HN.out.2.1) (leafB_byt HH.out.2.2.2) k2 k3 HN.out.1 HN.out.2.1 HN.out.2.2.1; have H4 := Lib.hid (And.intro hst4 hd4); have SS4 := Lib.hid (show w4.cell? ⟨pb, 0, none⟩ = some (.pointer (some ⟨d, 0, none⟩)) ∧ w4.cell? ⟨pb, 2, none⟩ = some (.int .i64 (cf.first : Nat)) from by have hq := SSA.out _ (still_drew w3); have hon := hst4.only; have hoff : ¬ (c3 pb = a ∨ c3 pb = b) := fun e => e.elim HPC.out.2.1 HPC.out.2.2; exact ⟨(hon.cell (p := ⟨pb, 0, none⟩) HPC.out.1 hoff).trans hq.1, (hon.cell (p := ⟨pb, 2, none⟩) HPC.out.1 hoff).trans hq.2⟩); clear k2 k3 hst4 hd4))
  have HST5 := Lib.hid ((HST4.out.trans (Stp.still HD3.out.low (still_drew w3))).trans H4.out.1)
  obtain ⟨e2, he2⟩ : ∃ e2, (((s).D.put I0 (leafA f.p)).2.put I1 (leafB f.p)).1 = e2 := ⟨_, rfl⟩
  rw [he2]
  have HE2 := Lib.hid he2
  by_cases hz2 : e2 = 0
  rotate_left
  · have F := Lib.hid (show DtPost c a b w d none cf (s.write cf k f) (.returned (.int .i64 e2)) w4 from by
     have hw : s.write cf k f = (e2, { s with D := (((s).D.put I0 (leafA f.p)).2.put I1 (leafB f.p)).2 }) := by
      rw [HWT.out]
      unfold PSt.wtail PDk.two
      rw [if_neg (by rw [HM.out]; decide), HIX.out.1, if_neg (fun e => e HE1.out), HIX.out.2, if_pos (by rw [he2]; exact hz2), he2]
     rw [hw]
     exact ⟨rfl, c4, HST5.out, H4.out.2⟩)
    have d1 : (e2 != 0) = true := bne_iff_ne.2 hz2
    clear he2 hz2
    go_wp2_with fail
    go_ret
    exact F.out
  subst hz2
  clear he2
  have r0 : w4.cell? ⟨pb, 0, none⟩ = some (.pointer (some ⟨d, 0, none⟩)) := SS4.out.1
  have HSY := Lib.hid (dt_sync H4.out.2 HN.out.2.2.1)
  clear HW2 SSA SS4
  go_upto_region 14 with fail
  go_wp2_with fail
  refine HSY.out.mono ?_
  rintro e w5 ⟨rfl, c5, h51, h52⟩
  have F := Lib.hid (show DtPost c a b w d none cf (s.write cf k f) (.returned (.int .i64 (((s).D.put I0 (leafA f.p)).2.put I1 (leafB f.p)).2.sync.1)) w5 from by
   have hw : s.write cf k f = ((((s).D.put I0 (leafA f.p)).2.put I1 (leafB f.p)).2.sync.1, { s with D := (((s).D.put I0 (leafA f.p)).2.put I1 (leafB f.p)).2.sync.2 }) := by
    rw [HWT.out]
    unfold PSt.wtail PDk.two
    rw [if_neg (by rw [HM.out]; decide), HIX.out.1, if_neg (fun e => e HE1.out), HIX.out.2, if_neg (fun e => e HE2.out)]
   rw [hw]
   exact ⟨rfl, c5, HST5.out.trans h51, h52⟩)
  clear h51 h52
  go_wp2_with fail
  go_ret
  exact F.out
 | some t' =>
  replace p1 : w1.cell? ⟨pb, 1, none⟩ = some (.pointer (some ⟨t', 0, none⟩)) := p1
  have ht := HH.out.1.tr t' rfl
  have HST := Lib.hid (fun q => stable_x (w := w1.drewN q) ((ht.still H1.out.1).only ((Still.refl w1).drewN q) fun _ _ e => e) (N := (s.st : Int)) rfl)
  clear ht
  by_cases hlt : (s.st : Int) < z
  · go_quiet (first | (go_at_call 25; exact Calls.quiet_of ((HST.out _).mono fun e w' h => ⟨h.1, 0, h.2⟩)))
    have hq : Still w1 (w1.drewN nq) := (Still.refl w1).drewN nq
    generalize w1.drewN nq = w2a at *
    have HW2A := Lib.hid (H1.out.1.trans hq)
    have HAH := Lib.hid (show s.ahead cf f = s.force cf from by
     unfold PSt.ahead
     rw [if_pos ⟨HH.out.1.trf, by rw [HZ.out]; exact hlt⟩])
    have HFO := Lib.hid (dt_force (HH.out.1.still HW2A.out HN.out.1 HN.out.2.1) HN.out.1 HN.out.2.1 HN.out.2.2.1)
    have p1' := Still.cell hq p1
    have HQ := Lib.hid hq
    clear hq p1 k4 HST hlt
    go_wp2_with fail
    refine HFO.out.mono ?_
    rintro e w3a ⟨rfl, c2, hst, hd⟩
    have HST2 := Lib.hid ((Stp.still HH.out.1.low HW2A.out).trans hst)
    have HDW := Lib.hid hd
    obtain ⟨e0, he0⟩ : ∃ e0, (s.force cf).1 = e0 := ⟨_, rfl⟩
    rw [he0]
    by_cases hz0 : e0 = 0
    · subst hz0
      have HWT := Lib.hid (show s.write cf k f = (s.force cf).2.wtail cf k f from write_ahead (by rw [HAH.out, ← he0]))
      have hoff : ∀ g, Q g → ¬ (c g = a ∨ c g = b) := fun g hg e => e.elim (HH.out.2.2.1 g hg).1 (HH.out.2.2.1 g hg).2
      have HVW := Lib.hid ((HH.out.2.1.still HW2A.out).only hst.only hoff)
      have HPW := Lib.hid ((HP.out.only HW2A.out fun e => e).only hst.only fun e => e.elim HN.out.2.2.2.1 HN.out.2.2.2.2)
      have HC5 := Lib.hid ((H1.out.2.1.only HQ.out fun e => e).only hst.only fun e => by
       have h0 : c b5 = 0 := Classical.byContradiction fun e => by have := HH.out.1.low b5 e; have := H1.out.2.2; omega
       have e' : c b5 = a ∨ c b5 = b := e
       rw [h0] at e'
       exact e'.elim (fun e => HN.out.1 e.symm) fun e => HN.out.2.1 e.symm)
      have HCPB := Lib.hid (show ¬ c2 pb = a ∧ ¬ c2 pb = b from by
       have := hst.old pb (by have h := (HP.out.only HW2A.out fun e => e).lt; exact h)
       rw [this]
       exact HN.out.2.2.2)
      clear hst hd he0 hoff p1' HFO
      have HTL := Lib.hid (show ∀ (rr : Int × PSt) (w' : World), s.write cf k f = rr → (∃ c', Stp (fun i => i = a ∨ i = b) (fun i => i = a) c2 c' w3a w' ∧ Dt c' a b w' d (some t') cf rr.2) → DtPost c a b w d (some t') cf (s.write cf k f) (.returned (.int .i64 rr.1)) w' from fun rr w' e ⟨c', h1, h2⟩ => by
       rw [e]
       exact ⟨rfl, c', HST2.out.trans h1, h2⟩)
      have HLP := Lib.hid (lput_any w3a f.p v0 v1 v2 v3 HVW.out)
      rw [HZ.out] at HLP
      have HRG := Lib.hid (show (w3a).rangeAt b5 0 [v0, v1, v2, v3, .int .i64 z] from fun j u hj => by
       rw [Nat.zero_add, HC5.out.cell j]
       rcases (show j = 0 ∨ j = 1 ∨ j = 2 ∨ j = 3 ∨ j = 4 from by have := (List.getElem?_eq_some_iff.1 hj).1; simp at this; omega) with rfl | rfl | rfl | rfl | rfl <;> exact hj)
      go_upto_region 5 with fail
      go_wp2_with ((with_reducible (show wpList _ _ _ ({ dst := some 39, op := _, type := _, pos := _, after := _, guard := _ } :: _) _ _)); (refine wpList_load_mid rfl 36 _ rfl b5 0 rfl [v0, v1, v2, v3, .int .i64 z] _ HRG.out Tryz.underlying36 rfl size_page ?_))
      refine HLP.out.mono ?_
      intro e w2 hp
      unfold LpPost at hp
      by_cases hm : f.p.may = true
      rotate_left
      · rw [if_neg hm] at hp
        obtain ⟨rfl, hs2⟩ := hp
        have F := Lib.hid (HTL.out (1, (s.force cf).2) w2 (by rw [HWT.out]; unfold PSt.wtail; rw [if_pos (by simpa using hm)]) ⟨c2, Stp.still HDW.out.low hs2, HDW.out.still hs2 HN.out.1 HN.out.2.1⟩)
        clear hs2 hm
        go_wp2_with fail
        go_ret
        exact F.out
      rw [if_pos hm] at hp
      obtain ⟨va, vb, rfl, ka, kb, hs2, fa, fb⟩ := hp
      have HM := Lib.hid hm
      have HD2 := Lib.hid (HDW.out.still hs2 HN.out.1 HN.out.2.1)
      have HST3 := Lib.hid (HST2.out.trans (Stp.still HDW.out.low hs2))
      have HPB2 := Lib.hid (show cellsAt w2 pb [.pointer (some ⟨d, 0, none⟩), ptrV (some t'), .int .i64 (cf.first : Nat), .int .i64 (cf.pages : Nat), pv] from HPW.out.only hs2 fun e => e)
      have HNA := Lib.hid (show (∀ g, va.ownBlock = some g → c2 g = 0) ∧ (∀ g, vb.ownBlock = some g → c2 g = 0 ∧ g < w2.heap.size) from
       ⟨fun g hg => Classical.byContradiction fun e => by have := HDW.out.low g e; have := fa g hg; omega, fun g hg => ⟨Classical.byContradiction fun e => by have := HDW.out.low g e; have := fb g hg; omega, (fb g hg).2⟩⟩)
      have HKB := Lib.hid kb
      have q0 : w2.cell? ⟨pb, 0, none⟩ = some (.pointer (some ⟨d, 0, none⟩)) := HPB2.out.cell 0
      have q2 : w2.cell? ⟨pb, 2, none⟩ = some (.int .i64 (cf.first : Nat)) := HPB2.out.cell 2
      have SS := Lib.hid (fun w' (hs : Still w2 w') => show w'.cell? ⟨pb, 0, none⟩ = some (.pointer (some ⟨d, 0, none⟩)) ∧ w'.cell? ⟨pb, 2, none⟩ = some (.int .i64 (cf.first : Nat)) from ⟨Still.cell hs q0, Still.cell hs q2⟩)
      have HW1 := Lib.hid (fun w' (hs : Still w2 w') => show Calls Tryz.prog 14 #[.pointer (some ⟨d, 0, none⟩), .int .i64 I0, va] w' (DgPostN (Cs c2 a) w' d (((s.force cf).2).D.put I0 (leafA f.p))) from
       dwrite_any (HD2.out.still hs HN.out.1 HN.out.2.1).dk HD2.out.fine HD2.out.len I0 (leafA f.p) va (ka.belowAll (Only.below hs (Nat.le_refl _) fun _ _ e => e)).reads (fun g hg e => by have e' : c2 g = a := e; rw [HNA.out.1 g hg] at e'; exact HN.out.1 e'.symm))
      obtain ⟨ea, ec, rfl⟩ := ka.form'
      obtain ⟨eb, ed, rfl⟩ := kb.form'
      clear ka kb fa fb hs2 hm q0 q2 HLP HRG
      go_upto_region 8 with fail
      go_region_held3 (fun w' => w'.cell? ⟨pb, 0, none⟩ = some (.pointer (some ⟨d, 0, none⟩)) ∧ w'.cell? ⟨pb, 2, none⟩ = some (.int .i64 (cf.first : Nat))) (first | exact SS.out _ (still_drew _) | exact SS3.out) (first
       | (go_at_call 14; (with_reducible refine (HW1.out _ (still_drew _)).mono ?_); rintro e w3 ⟨rfl, k2, k3⟩; obtain ⟨c3, hst3, hd3⟩ := Dt.ofPut (HD2.out.still (still_drew w2) HN.out.1 HN.out.2.1) (leafA_byt HH.out.2.2.2) k2 k3 HN.out.1 HN.out.2.1 HN.out.2.2.1; have H3 := Lib.hid (And.intro hst3 hd3); have SS3 := Lib.hid (show w3.cell? ⟨pb, 0, none⟩ = some (.pointer (some ⟨d, 0, none⟩)) ∧ w3.cell? ⟨pb, 2, none⟩ = some (.int .i64 (cf.first : Nat)) from by have hx : ¬ c2 pb = a ∧ ¬ c2 pb = b := HCPB.out; have hc3 := (HPB2.out.only (still_drew w2) fun e => e).only hst3.only (fun e => by have e' : c2 pb = a ∨ c2 pb = b := e; exact e'.elim hx.1 hx.2); exact ⟨hc3.cell 0, hc3.cell 2⟩); clear k2 k3 hst3 hd3))
      have HST4 := Lib.hid ((HST3.out.trans (Stp.still HD2.out.low (still_drew w2))).trans H3.out.1)
      obtain ⟨e1, he1⟩ : ∃ e1, (((s.force cf).2).D.put I0 (leafA f.p)).1 = e1 := ⟨_, rfl⟩
      have HE1 := Lib.hid he1
      rw [he1]
      by_cases hz1 : e1 = 0
      rotate_left
      · have F := Lib.hid (show DtPost c a b w d (some t') cf (s.write cf k f) (.returned (.int .i64 e1)) w3 from by
         have hw : s.write cf k f = (e1, { (s.force cf).2 with D := (((s.force cf).2).D.put I0 (leafA f.p)).2 }) := by
          rw [HWT.out]
          unfold PSt.wtail PDk.two
          rw [if_neg (by rw [HM.out]; decide), HIX.out.1, if_pos (by rw [he1]; exact hz1), he1]
         rw [hw]
         exact ⟨rfl, c3, HST4.out, H3.out.2⟩)
        have d1 : (e1 != 0) = true := bne_iff_ne.2 hz1
        clear he1 hz1
        go_wp2_with fail
        go_ret
        exact F.out
      subst hz1
      clear he1
      have HD3 := Lib.hid H3.out.2
      have HKB3 := Lib.hid (show Vec w3 1 (.slice eb 64 ed) 64 (bc (leafB f.p)) ∧ ∀ g, (Value.slice eb 64 ed).ownBlock = some g → c3 g = 0 from by
       have h1 := H3.out.1
       refine ⟨HKB.out.only ((Only.refl _ w2).drew.trans h1.only) fun g hg e => ?_, fun g hg => ?_⟩
       · have e' : c2 g = a ∨ c2 g = b := e
         rw [(HNA.out.2 g hg).1] at e'
         exact e'.elim (fun e => HN.out.1 e.symm) fun e => HN.out.2.1 e.symm
       · rw [h1.old g (by have := (HNA.out.2 g hg).2; exact this)]
         exact (HNA.out.2 g hg).1)
      have q0 : w3.cell? ⟨pb, 0, none⟩ = some (.pointer (some ⟨d, 0, none⟩)) := SS3.out.1
      have q2 : w3.cell? ⟨pb, 2, none⟩ = some (.int .i64 (cf.first : Nat)) := SS3.out.2
      have HPC := Lib.hid (show pb < w3.heap.size ∧ ¬ c3 pb = a ∧ ¬ c3 pb = b from by
       have hl := HPB2.out.lt
       have := H3.out.1.old pb hl
       rw [this]
       exact ⟨lt_of_cell q0, HCPB.out⟩)
      have SSA := Lib.hid (fun w' (hs : Still w3 w') => show w'.cell? ⟨pb, 0, none⟩ = some (.pointer (some ⟨d, 0, none⟩)) ∧ w'.cell? ⟨pb, 2, none⟩ = some (.int .i64 (cf.first : Nat)) from ⟨Still.cell hs q0, Still.cell hs q2⟩)
      have HW2 := Lib.hid (fun w' (hs : Still w3 w') => show Calls Tryz.prog 14 #[.pointer (some ⟨d, 0, none⟩), .int .i64 I1, .slice eb 64 ed] w' (DgPostN (Cs c3 a) w' d ((((s.force cf).2).D.put I0 (leafA f.p)).2.put I1 (leafB f.p))) from
       dwrite_any (HD3.out.still hs HN.out.1 HN.out.2.1).dk HD3.out.fine HD3.out.len I1 (leafB f.p) _ (HKB3.out.1.belowAll (Only.below hs (Nat.le_refl _) fun _ _ e => e)).reads (fun g hg e => by have e' : c3 g = a := e; rw [HKB3.out.2 g hg] at e'; exact HN.out.1 e'.symm))
      clear q0 q2 HW1 SS SS3
      go_upto_region 11 with fail
      go_region_held3 (fun w' => w'.cell? ⟨pb, 0, none⟩ = some (.pointer (some ⟨d, 0, none⟩)) ∧ w'.cell? ⟨pb, 2, none⟩ = some (.int .i64 (cf.first : Nat))) (first | exact SSA.out _ (still_drew _) | exact SS4.out) (first
       | (go_at_call 14; (with_reducible refine (HW2.out _ (still_drew _)).mono ?_); rintro e w4 ⟨rfl, k2, k3⟩; obtain ⟨c4, hst4, hd4⟩ := Dt.ofPut (HD3.out.still (still_drew w3) HN.out.1 HN.out.2.1) (leafB_byt HH.out.2.2.2) k2 k3 HN.out.1 HN.out.2.1 HN.out.2.2.1; have H4 := Lib.hid (And.intro hst4 hd4); have SS4 := Lib.hid (show w4.cell? ⟨pb, 0, none⟩ = some (.pointer (some ⟨d, 0, none⟩)) ∧ w4.cell? ⟨pb, 2, none⟩ = some (.int .i64 (cf.first : Nat)) from by have hq := SSA.out _ (still_drew w3); have hon := hst4.only; have hoff : ¬ (c3 pb = a ∨ c3 pb = b) := fun e => e.elim HPC.out.2.1 HPC.out.2.2; exact ⟨(hon.cell (p := ⟨pb, 0, none⟩) HPC.out.1 hoff).trans hq.1, (hon.cell (p := ⟨pb, 2, none⟩) HPC.out.1 hoff).trans hq.2⟩); clear k2 k3 hst4 hd4))
      have HST5 := Lib.hid ((HST4.out.trans (Stp.still HD3.out.low (still_drew w3))).trans H4.out.1)
      obtain ⟨e2, he2⟩ : ∃ e2, ((((s.force cf).2).D.put I0 (leafA f.p)).2.put I1 (leafB f.p)).1 = e2 := ⟨_, rfl⟩
      rw [he2]
      have HE2 := Lib.hid he2
      by_cases hz2 : e2 = 0
      rotate_left
      · have F := Lib.hid (show DtPost c a b w d (some t') cf (s.write cf k f) (.returned (.int .i64 e2)) w4 from by
         have hw : s.write cf k f = (e2, { (s.force cf).2 with D := ((((s.force cf).2).D.put I0 (leafA f.p)).2.put I1 (leafB f.p)).2 }) := by
          rw [HWT.out]
          unfold PSt.wtail PDk.two
          rw [if_neg (by rw [HM.out]; decide), HIX.out.1, if_neg (fun e => e HE1.out), HIX.out.2, if_pos (by rw [he2]; exact hz2), he2]
         rw [hw]
         exact ⟨rfl, c4, HST5.out, H4.out.2⟩)
        have d1 : (e2 != 0) = true := bne_iff_ne.2 hz2
        clear he2 hz2
        go_wp2_with fail
        go_ret
        exact F.out
      subst hz2
      clear he2
      have r0 : w4.cell? ⟨pb, 0, none⟩ = some (.pointer (some ⟨d, 0, none⟩)) := SS4.out.1
      have HSY := Lib.hid (dt_sync H4.out.2 HN.out.2.2.1)
      clear HW2 SSA SS4
      go_upto_region 14 with fail
      go_wp2_with fail
      refine HSY.out.mono ?_
      rintro e w5 ⟨rfl, c5, h51, h52⟩
      have F := Lib.hid (show DtPost c a b w d (some t') cf (s.write cf k f) (.returned (.int .i64 ((((s.force cf).2).D.put I0 (leafA f.p)).2.put I1 (leafB f.p)).2.sync.1)) w5 from by
       have hw : s.write cf k f = (((((s.force cf).2).D.put I0 (leafA f.p)).2.put I1 (leafB f.p)).2.sync.1, { (s.force cf).2 with D := ((((s.force cf).2).D.put I0 (leafA f.p)).2.put I1 (leafB f.p)).2.sync.2 }) := by
        rw [HWT.out]
        unfold PSt.wtail PDk.two
        rw [if_neg (by rw [HM.out]; decide), HIX.out.1, if_neg (fun e => e HE1.out), HIX.out.2, if_neg (fun e => e HE2.out)]
       rw [hw]
       exact ⟨rfl, c5, HST5.out.trans h51, h52⟩)
      clear h51 h52
      go_wp2_with fail
      go_ret
      exact F.out
    · have F := Lib.hid (show DtPost c a b w d (some t') cf (s.write cf k f) (.returned (.int .i64 e0)) w3a from by
       have hw : s.write cf k f = s.force cf := by
        unfold PSt.write
        rw [HAH.out, if_pos (by rw [he0]; exact hz0)]
       rw [hw]
       exact ⟨by rw [he0], c2, HST2.out, hd⟩)
      have d1 : (e0 != 0) = true := bne_iff_ne.2 hz0
      clear hst hd he0 hz0 p1' HFO
      go_wp2_with fail
      go_ret
      exact F.out
  · go_quiet (first | (go_at_call 25; exact Calls.quiet_of ((HST.out _).mono fun e w' h => ⟨h.1, 0, h.2⟩)))
    have hq : Still w1 (w1.drewN nq) := (Still.refl w1).drewN nq
    generalize w1.drewN nq = w2a at *
    have HWT := Lib.hid (show s.write cf k f = s.wtail cf k f from write_ahead (ahead_no (fun e => hlt (by rw [← HZ.out]; exact e.2))))
    have HST2 := Lib.hid (show Stp (fun i => i = a ∨ i = b) (fun i => i = a) c c w w2a from Stp.still HH.out.1.low (H1.out.1.trans hq))
    have HDW := Lib.hid (HH.out.1.still (H1.out.1.trans hq) HN.out.1 HN.out.2.1)
    have HVW := Lib.hid (HH.out.2.1.still (H1.out.1.trans hq))
    have HPW := Lib.hid (HP.out.only (H1.out.1.trans hq) fun e => e)
    have HC5 := Lib.hid (H1.out.2.1.only hq fun e => e)
    have HCPB := Lib.hid (show ¬ c pb = a ∧ ¬ c pb = b from HN.out.2.2.2)
    clear hq p1 k4 HST
    have HTL := Lib.hid (show ∀ (rr : Int × PSt) (w' : World), s.write cf k f = rr → (∃ c', Stp (fun i => i = a ∨ i = b) (fun i => i = a) c c' w2a w' ∧ Dt c' a b w' d (some t') cf rr.2) → DtPost c a b w d (some t') cf (s.write cf k f) (.returned (.int .i64 rr.1)) w' from fun rr w' e ⟨c', h1, h2⟩ => by
     rw [e]
     exact ⟨rfl, c', HST2.out.trans h1, h2⟩)
    have HLP := Lib.hid (lput_any w2a f.p v0 v1 v2 v3 HVW.out)
    rw [HZ.out] at HLP
    have HRG := Lib.hid (show (w2a).rangeAt b5 0 [v0, v1, v2, v3, .int .i64 z] from fun j u hj => by
     rw [Nat.zero_add, HC5.out.cell j]
     rcases (show j = 0 ∨ j = 1 ∨ j = 2 ∨ j = 3 ∨ j = 4 from by have := (List.getElem?_eq_some_iff.1 hj).1; simp at this; omega) with rfl | rfl | rfl | rfl | rfl <;> exact hj)
    go_upto_region 5 with fail
    go_wp2_with ((with_reducible (show wpList _ _ _ ({ dst := some 39, op := _, type := _, pos := _, after := _, guard := _ } :: _) _ _)); (refine wpList_load_mid rfl 36 _ rfl b5 0 rfl [v0, v1, v2, v3, .int .i64 z] _ HRG.out Tryz.underlying36 rfl size_page ?_))
    refine HLP.out.mono ?_
    intro e w2 hp
    unfold LpPost at hp
    by_cases hm : f.p.may = true
    rotate_left
    · rw [if_neg hm] at hp
      obtain ⟨rfl, hs2⟩ := hp
      have F := Lib.hid (HTL.out (1, s) w2 (by rw [HWT.out]; unfold PSt.wtail; rw [if_pos (by simpa using hm)]) ⟨c, Stp.still HDW.out.low hs2, HDW.out.still hs2 HN.out.1 HN.out.2.1⟩)
      clear hs2 hm
      go_wp2_with fail
      go_ret
      exact F.out
    rw [if_pos hm] at hp
    obtain ⟨va, vb, rfl, ka, kb, hs2, fa, fb⟩ := hp
    have HM := Lib.hid hm
    have HD2 := Lib.hid (HDW.out.still hs2 HN.out.1 HN.out.2.1)
    have HST3 := Lib.hid (HST2.out.trans (Stp.still HDW.out.low hs2))
    have HPB2 := Lib.hid (show cellsAt w2 pb [.pointer (some ⟨d, 0, none⟩), ptrV (some t'), .int .i64 (cf.first : Nat), .int .i64 (cf.pages : Nat), pv] from HPW.out.only hs2 fun e => e)
    have HNA := Lib.hid (show (∀ g, va.ownBlock = some g → c g = 0) ∧ (∀ g, vb.ownBlock = some g → c g = 0 ∧ g < w2.heap.size) from
     ⟨fun g hg => Classical.byContradiction fun e => by have := HDW.out.low g e; have := fa g hg; omega, fun g hg => ⟨Classical.byContradiction fun e => by have := HDW.out.low g e; have := fb g hg; omega, (fb g hg).2⟩⟩)
    have HKB := Lib.hid kb
    have q0 : w2.cell? ⟨pb, 0, none⟩ = some (.pointer (some ⟨d, 0, none⟩)) := HPB2.out.cell 0
    have q2 : w2.cell? ⟨pb, 2, none⟩ = some (.int .i64 (cf.first : Nat)) := HPB2.out.cell 2
    have SS := Lib.hid (fun w' (hs : Still w2 w') => show w'.cell? ⟨pb, 0, none⟩ = some (.pointer (some ⟨d, 0, none⟩)) ∧ w'.cell? ⟨pb, 2, none⟩ = some (.int .i64 (cf.first : Nat)) from ⟨Still.cell hs q0, Still.cell hs q2⟩)
    have HW1 := Lib.hid (fun w' (hs : Still w2 w') => show Calls Tryz.prog 14 #[.pointer (some ⟨d, 0, none⟩), .int .i64 I0, va] w' (DgPostN (Cs c a) w' d ((s).D.put I0 (leafA f.p))) from
     dwrite_any (HD2.out.still hs HN.out.1 HN.out.2.1).dk HD2.out.fine HD2.out.len I0 (leafA f.p) va (ka.belowAll (Only.below hs (Nat.le_refl _) fun _ _ e => e)).reads (fun g hg e => by have e' : c g = a := e; rw [HNA.out.1 g hg] at e'; exact HN.out.1 e'.symm))
    obtain ⟨ea, ec, rfl⟩ := ka.form'
    obtain ⟨eb, ed, rfl⟩ := kb.form'
    clear ka kb fa fb hs2 hm q0 q2 HLP HRG
    go_upto_region 8 with fail
    go_region_held3 (fun w' => w'.cell? ⟨pb, 0, none⟩ = some (.pointer (some ⟨d, 0, none⟩)) ∧ w'.cell? ⟨pb, 2, none⟩ = some (.int .i64 (cf.first : Nat))) (first | exact SS.out _ (still_drew _) | exact SS3.out) (first
     | (go_at_call 14; (with_reducible refine (HW1.out _ (still_drew _)).mono ?_); rintro e w3 ⟨rfl, k2, k3⟩; obtain ⟨c3, hst3, hd3⟩ := Dt.ofPut (HD2.out.still (still_drew w2) HN.out.1 HN.out.2.1) (leafA_byt HH.out.2.2.2) k2 k3 HN.out.1 HN.out.2.1 HN.out.2.2.1; have H3 := Lib.hid (And.intro hst3 hd3); have SS3 := Lib.hid (show w3.cell? ⟨pb, 0, none⟩ = some (.pointer (some ⟨d, 0, none⟩)) ∧ w3.cell? ⟨pb, 2, none⟩ = some (.int .i64 (cf.first : Nat)) from by have hx : ¬ c pb = a ∧ ¬ c pb = b := HCPB.out; have hc3 := (HPB2.out.only (still_drew w2) fun e => e).only hst3.only (fun e => by have e' : c pb = a ∨ c pb = b := e; exact e'.elim hx.1 hx.2); exact ⟨hc3.cell 0, hc3.cell 2⟩); clear k2 k3 hst3 hd3))
    have HST4 := Lib.hid ((HST3.out.trans (Stp.still HD2.out.low (still_drew w2))).trans H3.out.1)
    obtain ⟨e1, he1⟩ : ∃ e1, ((s).D.put I0 (leafA f.p)).1 = e1 := ⟨_, rfl⟩
    have HE1 := Lib.hid he1
    rw [he1]
    by_cases hz1 : e1 = 0
    rotate_left
    · have F := Lib.hid (show DtPost c a b w d (some t') cf (s.write cf k f) (.returned (.int .i64 e1)) w3 from by
       have hw : s.write cf k f = (e1, { s with D := ((s).D.put I0 (leafA f.p)).2 }) := by
        rw [HWT.out]
        unfold PSt.wtail PDk.two
        rw [if_neg (by rw [HM.out]; decide), HIX.out.1, if_pos (by rw [he1]; exact hz1), he1]
       rw [hw]
       exact ⟨rfl, c3, HST4.out, H3.out.2⟩)
      have d1 : (e1 != 0) = true := bne_iff_ne.2 hz1
      clear he1 hz1
      go_wp2_with fail
      go_ret
      exact F.out
    subst hz1
    clear he1
    have HD3 := Lib.hid H3.out.2
    have HKB3 := Lib.hid (show Vec w3 1 (.slice eb 64 ed) 64 (bc (leafB f.p)) ∧ ∀ g, (Value.slice eb 64 ed).ownBlock = some g → c3 g = 0 from by
     have h1 := H3.out.1
     refine ⟨HKB.out.only ((Only.refl _ w2).drew.trans h1.only) fun g hg e => ?_, fun g hg => ?_⟩
     · have e' : c g = a ∨ c g = b := e
       rw [(HNA.out.2 g hg).1] at e'
       exact e'.elim (fun e => HN.out.1 e.symm) fun e => HN.out.2.1 e.symm
     · rw [h1.old g (by have := (HNA.out.2 g hg).2; exact this)]
       exact (HNA.out.2 g hg).1)
    have q0 : w3.cell? ⟨pb, 0, none⟩ = some (.pointer (some ⟨d, 0, none⟩)) := SS3.out.1
    have q2 : w3.cell? ⟨pb, 2, none⟩ = some (.int .i64 (cf.first : Nat)) := SS3.out.2
    have HPC := Lib.hid (show pb < w3.heap.size ∧ ¬ c3 pb = a ∧ ¬ c3 pb = b from by
     have hl := HPB2.out.lt
     have := H3.out.1.old pb hl
     rw [this]
     exact ⟨lt_of_cell q0, HCPB.out⟩)
    have SSA := Lib.hid (fun w' (hs : Still w3 w') => show w'.cell? ⟨pb, 0, none⟩ = some (.pointer (some ⟨d, 0, none⟩)) ∧ w'.cell? ⟨pb, 2, none⟩ = some (.int .i64 (cf.first : Nat)) from ⟨Still.cell hs q0, Still.cell hs q2⟩)
    have HW2 := Lib.hid (fun w' (hs : Still w3 w') => show Calls Tryz.prog 14 #[.pointer (some ⟨d, 0, none⟩), .int .i64 I1, .slice eb 64 ed] w' (DgPostN (Cs c3 a) w' d (((s).D.put I0 (leafA f.p)).2.put I1 (leafB f.p))) from
     dwrite_any (HD3.out.still hs HN.out.1 HN.out.2.1).dk HD3.out.fine HD3.out.len I1 (leafB f.p) _ (HKB3.out.1.belowAll (Only.below hs (Nat.le_refl _) fun _ _ e => e)).reads (fun g hg e => by have e' : c3 g = a := e; rw [HKB3.out.2 g hg] at e'; exact HN.out.1 e'.symm))
    clear q0 q2 HW1 SS SS3
    go_upto_region 11 with fail
    go_region_held3 (fun w' => w'.cell? ⟨pb, 0, none⟩ = some (.pointer (some ⟨d, 0, none⟩)) ∧ w'.cell? ⟨pb, 2, none⟩ = some (.int .i64 (cf.first : Nat))) (first | exact SSA.out _ (still_drew _) | exact SS4.out) (first
     | (go_at_call 14; (with_reducible refine (HW2.out _ (still_drew _)).mono ?_); rintro e w4 ⟨rfl, k2, k3⟩; obtain ⟨c4, hst4, hd4⟩ := Dt.ofPut (HD3.out.still (still_drew w3) HN.out.1 HN.out.2.1) (leafB_byt HH.out.2.2.2) k2 k3 HN.out.1 HN.out.2.1 HN.out.2.2.1; have H4 := Lib.hid (And.intro hst4 hd4); have SS4 := Lib.hid (show w4.cell? ⟨pb, 0, none⟩ = some (.pointer (some ⟨d, 0, none⟩)) ∧ w4.cell? ⟨pb, 2, none⟩ = some (.int .i64 (cf.first : Nat)) from by have hq := SSA.out _ (still_drew w3); have hon := hst4.only; have hoff : ¬ (c3 pb = a ∨ c3 pb = b) := fun e => e.elim HPC.out.2.1 HPC.out.2.2; exact ⟨(hon.cell (p := ⟨pb, 0, none⟩) HPC.out.1 hoff).trans hq.1, (hon.cell (p := ⟨pb, 2, none⟩) HPC.out.1 hoff).trans hq.2⟩); clear k2 k3 hst4 hd4))
    have HST5 := Lib.hid ((HST4.out.trans (Stp.still HD3.out.low (still_drew w3))).trans H4.out.1)
    obtain ⟨e2, he2⟩ : ∃ e2, (((s).D.put I0 (leafA f.p)).2.put I1 (leafB f.p)).1 = e2 := ⟨_, rfl⟩
    rw [he2]
    have HE2 := Lib.hid he2
    by_cases hz2 : e2 = 0
    rotate_left
    · have F := Lib.hid (show DtPost c a b w d (some t') cf (s.write cf k f) (.returned (.int .i64 e2)) w4 from by
       have hw : s.write cf k f = (e2, { s with D := (((s).D.put I0 (leafA f.p)).2.put I1 (leafB f.p)).2 }) := by
        rw [HWT.out]
        unfold PSt.wtail PDk.two
        rw [if_neg (by rw [HM.out]; decide), HIX.out.1, if_neg (fun e => e HE1.out), HIX.out.2, if_pos (by rw [he2]; exact hz2), he2]
       rw [hw]
       exact ⟨rfl, c4, HST5.out, H4.out.2⟩)
      have d1 : (e2 != 0) = true := bne_iff_ne.2 hz2
      clear he2 hz2
      go_wp2_with fail
      go_ret
      exact F.out
    subst hz2
    clear he2
    have r0 : w4.cell? ⟨pb, 0, none⟩ = some (.pointer (some ⟨d, 0, none⟩)) := SS4.out.1
    have HSY := Lib.hid (dt_sync H4.out.2 HN.out.2.2.1)
    clear HW2 SSA SS4
    go_upto_region 14 with fail
    go_wp2_with fail
    refine HSY.out.mono ?_
    rintro e w5 ⟨rfl, c5, h51, h52⟩
    have F := Lib.hid (show DtPost c a b w d (some t') cf (s.write cf k f) (.returned (.int .i64 (((s).D.put I0 (leafA f.p)).2.put I1 (leafB f.p)).2.sync.1)) w5 from by
     have hw : s.write cf k f = ((((s).D.put I0 (leafA f.p)).2.put I1 (leafB f.p)).2.sync.1, { s with D := (((s).D.put I0 (leafA f.p)).2.put I1 (leafB f.p)).2.sync.2 }) := by
      rw [HWT.out]
      unfold PSt.wtail PDk.two
      rw [if_neg (by rw [HM.out]; decide), HIX.out.1, if_neg (fun e => e HE1.out), HIX.out.2, if_neg (fun e => e HE2.out)]
     rw [hw]
     exact ⟨rfl, c5, HST5.out.trans h51, h52⟩)
    clear h51 h52
    go_wp2_with fail
    go_ret
    exact F.out
end
end Go.Proofs.YtlcfoeikamkpmaaGreat

namespace Go.Proofs.YtlcfoeikamkpmaaGreat

section
variable {V : Type}
theorem modI_mem {f : Pl V → Pl V} : ∀ {i : Nat} {l : List (Pl V)} {x : Pl V}, x ∈ modI f i l → x ∈ l ∨ ∃ y ∈ l, x = f y
 | _, [], x, h => by simp [modI] at h
 | 0, y :: l, x, h => by
  simp only [modI, List.mem_cons] at h
  rcases h with rfl | h
  · exact .inr ⟨y, by simp, rfl⟩
  · exact .inl (by simp [h])
 | i + 1, y :: l, x, h => by
  simp only [modI, List.mem_cons] at h
  rcases h with rfl | h
  · exact .inl (by simp)
  · rcases modI_mem h with h | ⟨z, h1, h2⟩
    · exact .inl (by simp [h])
    · exact .inr ⟨z, by simp [h1], h2⟩
theorem turn_mem : ∀ (n : Nat) {h : Hd V} {x : Pl V}, x ∈ (h.turn n).2.l → ∃ y ∈ h.l, x.k = y.k ∧ x.v = y.v ∧ x.has = y.has
 | 0, h, x, hx => ⟨x, hx, rfl, rfl, rfl⟩
 | n + 1, h, x, hx => by
  unfold Hd.turn at hx
  cases e : h.l[h.at_]? with
  | none =>
   rw [e] at hx
   exact ⟨x, hx, rfl, rfl, rfl⟩
  | some z =>
   rw [e] at hx
   simp only at hx
   split at hx
   · exact ⟨x, hx, rfl, rfl, rfl⟩
   · obtain ⟨y, hy, h1, h2, h3⟩ := turn_mem n hx
     rcases modI_mem hy with hy | ⟨z, hz, rfl⟩
     · exact ⟨y, hy, h1, h2, h3⟩
     · exact ⟨z, hz, h1, h2, h3⟩
theorem turn_len : ∀ (n : Nat) {h : Hd V}, (h.turn n).2.l.length = h.l.length
 | 0, h => rfl
 | n + 1, h => by
  unfold Hd.turn
  cases e : h.l[h.at_]? with
  | none => rfl
  | some z =>
   simp only
   split
   · rfl
   · rw [turn_len n, modI_length]
theorem put_mem {h : Hd V} {o v : V} {k : Int} {x : Pl V} (hx : x ∈ (h.put o k v).2.l) : (x.k = k ∧ x.v = v) ∨ ∃ y ∈ h.l, x.k = y.k ∧ (x.v = y.v ∨ x.v = v) := by
 unfold Hd.put at hx
 split at hx
 · rcases modI_mem hx with hx | ⟨y, hy, rfl⟩
   · exact .inr ⟨x, hx, rfl, .inl rfl⟩
   · exact .inr ⟨y, hy, rfl, .inr rfl⟩
 · split at hx
   · rcases List.mem_or_eq_of_mem_set hx with hx | rfl
     · exact .inr ⟨x, hx, rfl, .inl rfl⟩
     · exact .inl ⟨rfl, rfl⟩
   · split at hx
     · exact .inr ⟨x, hx, rfl, .inl rfl⟩
     · rcases List.mem_or_eq_of_mem_set hx with hx | rfl
       · obtain ⟨y, hy, h1, h2, _⟩ := turn_mem _ hx
         exact .inr ⟨y, hy, h1, .inl h2⟩
       · exact .inl ⟨rfl, rfl⟩
theorem put_was (h : Hd V) (o v : V) (k : Int) : (h.put o k v).1 = (0, o, false) ∨ ∃ y ∈ h.l, (h.put o k v).1 = (y.k, y.v, true) := by
 unfold Hd.put
 split
 · exact .inl rfl
 · split
   · exact .inl rfl
   · split
     · exact .inl rfl
     · rename_i x hx
       obtain ⟨y, hy, h1, h2, _⟩ := turn_mem _ (List.mem_of_getElem? hx)
       exact .inr ⟨y, hy, by rw [h1, h2]⟩
theorem put_len (h : Hd V) (o v : V) (k : Int) : (h.put o k v).2.l.length = h.l.length := by
 unfold Hd.put
 split
 · exact modI_length _ _ _
 · split
   · exact List.length_set
   · split
     · rfl
     · rw [List.length_set, turn_len]
theorem look_mem {h : Hd V} {k : Int} {v : V} (hv : h.look k = some v) : ∃ y ∈ h.l, y.v = v := by
 unfold Hd.look at hv
 cases e : h.l[fdI (isK k) h.l]? with
 | none => rw [e] at hv; cases hv
 | some y =>
  rw [e] at hv
  exact ⟨y, List.mem_of_getElem? e, Option.some.inj hv⟩
end
end Go.Proofs.YtlcfoeikamkpmaaGreat

/- A page comes into a pool's memory; what goes out is written first. Conditions: the pool, the disk and the trail lie in memory, apart. A page in a pool's memory, read if it must be. Conditions: the pool, the disk and the trail lie in memory, apart. -/
import Derived.Test.YtlcfoeikamkpmaaGreatPr23
namespace Go.Proofs.YtlcfoeikamkpmaaGreat
open Go.RowKit Go.Wh Go.Maps

def PoPost (c : Nat → Nat) (a b m r : Nat) (w : World) (pb d : Nat) (t : Option Nat) (cf : PCf) (v : Value) (s' : PSt) (e : Ending) (w' : World) : Prop :=
 e = .returned v ∧ ∃ c', Stp (fun i => i = a ∨ i = b ∨ i = m) (fun i => i = a ∨ i = m ∨ i = r) c c' w w' ∧ Dt c' a b w' d t cf s' ∧ PoAt c' m r w' pb d t cf s'.H
section
variable {c : Nat → Nat} {a b m r : Nat} {w : World} {d : Nat} {t : Option Nat} {cf : PCf} {s : PSt}
theorem paint_same {N : Nat → Prop} {i j : Nat} (hN : ∀ g, N g → c g = 0) (hj : j ≠ 0) (hij : j ≠ i) : Cs (paint c N i) j = Cs c j := by
 funext g
 apply propext
 unfold Cs
 by_cases e : N g
 · rw [paint_in e]
   have := hN g e
   omega
 · rw [paint_out e]
theorem lay_end {c cX : Nat → Nat} {W : World} {s' : PSt} {pb hb hb2 g2 o2 n cap2 : Nat} {Hv2 : Hd (List Value)} {PH : Hd PFr} (h : Stp (fun i => i = a ∨ i = b ∨ i = m) (fun i => i = a ∨ i = m ∨ i = r) c cX w W) (hD : Dt cX a b W d t cf s') (hf : Dif a b m r)
 (hcp : cellsAt W pb [.pointer (some ⟨d, 0, none⟩), ptrV t, .int .i64 (cf.first : Nat), .int .i64 (cf.pages : Nat), .pointer (some ⟨hb, 0, none⟩)]) (cpb : cX pb = m) (hh : HdAt W hb2 g2 o2 n cap2 Hv2) (hr : HdR (FrIs W (Cs cX r)) Hv2 PH) (h1 : cX hb2 = 0) (h2 : cX g2 = 0) (l1 : w.heap.size ≤ hb2) (l2 : w.heap.size ≤ g2) (hok : ∀ x ∈ PH.l, x.v.p.ok ∧ 0 ≤ x.k ∧ x.k ≤ cf.pages) :
 ∃ c', Stp (fun i => i = a ∨ i = b ∨ i = m) (fun i => i = a ∨ i = m ∨ i = r) c c' w (W.setCell ⟨pb, 4, none⟩ (.pointer (some ⟨hb2, 0, none⟩))) ∧ Dt c' a b (W.setCell ⟨pb, 4, none⟩ (.pointer (some ⟨hb2, 0, none⟩))) d t cf { s' with H := PH } ∧ PoAt c' m r (W.setCell ⟨pb, 4, none⟩ (.pointer (some ⟨hb2, 0, none⟩))) pb d t cf PH := by
 have ho : Only (Cs cX m) W (W.setCell ⟨pb, 4, none⟩ (.pointer (some ⟨hb2, 0, none⟩))) := (setCell_only W ⟨pb, 4, none⟩ _).mono fun g e => by
  have e' : g = pb := e
  rw [e']
  exact cpb
 have hN : ∀ g, (g = hb2 ∨ g = g2) → cX g = 0 := fun g e => by
  rcases e with rfl | rfl
  · exact h1
  · exact h2
 have hst1 : Stp (fun i => i = a ∨ i = b ∨ i = m) (fun i => i = a ∨ i = m ∨ i = r) cX cX W (W.setCell ⟨pb, 4, none⟩ (.pointer (some ⟨hb2, 0, none⟩))) := Stp.own hD.low ho (.inr (.inr rfl))
 have n1 : pb ≠ hb2 := fun e => by rw [e] at cpb; have := hf.m0; omega
 have n2 : pb ≠ g2 := fun e => by rw [e] at cpb; have := hf.m0; omega
 have hh2 : HdAt (W.setCell ⟨pb, 4, none⟩ (.pointer (some ⟨hb2, 0, none⟩))) hb2 g2 o2 n cap2 Hv2 := hh.only ho (fun e => by have e' : cX hb2 = m := e; have := hf.m0; omega) fun e => by have e' : cX g2 = m := e; have := hf.m0; omega
 have lh := hh2.cells.lt
 have lg : g2 < (W.setCell ⟨pb, 4, none⟩ (.pointer (some ⟨hb2, 0, none⟩))).heap.size := hh2.row.lt (by have := hh2.pos; have := hh2.row.le; omega)
 have hD2 := hD.keep (X := fun i => i = m) (K := fun i => i = m) (Stp.own hD.low ho rfl) hf.am hf.bm hf.am hf.bm hf.a0 hf.b0
 have ea := paint_same (i := m) hN hf.a0 hf.am
 have eb := paint_same (i := m) hN hf.b0 hf.bm
 have er := paint_same (i := m) hN hf.r0 (Ne.symm hf.mr)
 have hst := (h.trans hst1).paint (N := fun g => g = hb2 ∨ g = g2) (i := m) (fun g e => by rcases e with rfl | rfl <;> omega) (.inr (.inl rfl))
 refine ⟨_, hst, ⟨hst.low, by rw [ea]; exact hD2.dk, fun t' e => by rw [eb]; exact hD2.tr t' e, hD2.trf, hD2.fine, hD2.byt, hD2.len, hD2.trl, hD2.fit⟩, ⟨hb2, g2, o2, n, cap2, Hv2, ?_, hh2, ?_, ?_, paint_in (.inl rfl), paint_in (.inr rfl), n1, n2⟩, hok⟩
 · exact hcp.setCell 4 _
 · rw [er]
   exact hr.mono fun v f hv => hv.only ho fun g e1 e2 => by have e1' : cX g = r := e1; have e2' : cX g = m := e2; have := hf.mr; omega
 · rw [paint_out (fun e => e.elim n1 n2)]
   exact cpb
theorem lay_plain {k : Int} {f : PFr} {o1 : Int} {o2 : PFr} {o3 : Bool} {H' : Hd PFr} (h : s.H.put PFr.void k f = ((o1, o2, o3), H')) :
 s.lay cf k f = if o3 = true ∧ o2.dirty = true then (if (s.write cf o1 o2).1 ≠ 0 then s.write cf o1 o2 else (0, { (s.write cf o1 o2).2 with H := H' })) else (0, { s with H := H' }) := by
 unfold PSt.lay
 rw [h]
 simp only
 by_cases h1 : o3 = true ∧ o2.dirty = true
 · by_cases h2 : (s.write cf o1 o2).1 ≠ 0
   · rw [if_pos ⟨h1.1, h1.2, h2⟩, if_pos h1, if_pos h2]
   · rw [if_neg (fun e => h2 e.2.2), if_pos h1, if_pos h1, if_neg h2]
 · rw [if_neg (fun e => h1 ⟨e.1, e.2.1⟩), if_neg h1, if_neg h1]
theorem ahead_hand (f : PFr) : (s.ahead cf f).2.H = s.H := by
 unfold PSt.ahead
 split <;> rfl
theorem wtail_hand (k : Int) (f : PFr) : (s.wtail cf k f).2.H = s.H := by
 unfold PSt.wtail
 split <;> rfl
theorem write_hand (k : Int) (f : PFr) : (s.write cf k f).2.H = s.H := by
 by_cases h : (s.ahead cf f).1 = 0
 · have e : s.ahead cf f = (0, (s.ahead cf f).2) := by rw [← h]
   rw [write_ahead e, wtail_hand, ahead_hand]
 · unfold PSt.write
   rw [if_pos h, ahead_hand]
set_option maxHeartbeats 4000000 in
set_option maxRecDepth 100000 in
theorem play_any (hD : Dt c a b w d t cf s) (hf : Dif a b m r) {pb : Nat} (hP : PoAt c m r w pb d t cf s.H) (k : Int) (hk0 : 0 ≤ k) (hk : k ≤ cf.pages)
 {v0 v1 v2 v3 : Value} {f : PFr} (hv : PgIs w (Cs c r) [v0, v1, v2, v3] f.p.c) (hok : f.p.ok) :
 Calls Tryz.prog 50 #[.pointer (some ⟨pb, 0, none⟩), .int .i64 k, .agg #[v0, v1, v2, v3, .int .i64 f.p.lsn, .bool f.dirty, .int .i64 f.rec_]] w (PoPost c a b m r w pb d t cf (.int .i64 (s.lay cf k f).1) (s.lay cf k f).2) := by
 obtain ⟨⟨hb, g, o, n, cap, Hv, hcp, hha, hrel, cpb, chb, cg, npb, npg⟩, hoks⟩ := hP
 obtain ⟨z, hz⟩ : ∃ z, f.p.lsn = z := ⟨_, rfl⟩
 obtain ⟨dd, hdd⟩ : ∃ z, f.dirty = z := ⟨_, rfl⟩
 obtain ⟨rr, hrr⟩ : ∃ z, f.rec_ = z := ⟨_, rfl⟩
 rw [hz, hdd, hrr]
 have hfr : FrIs w (Cs c r) [v0, v1, v2, v3, .int .i64 z, .bool dd, .int .i64 rr] f := ⟨v0, v1, v2, v3, by rw [hz, hdd, hrr], hv⟩
 have HFR := Lib.hid hfr
 have HHA := Lib.hid hha
 have HREL := Lib.hid hrel
 have HCP := Lib.hid hcp
 have HOK := Lib.hid (And.intro hok hoks)
 have HD := Lib.hid hD
 have HN := Lib.hid hf
 have HK := Lib.hid (And.intro hk0 hk)
 have HCC := Lib.hid (And.intro cpb (And.intro chb (And.intro cg (And.intro npb npg))))
 have HC := Lib.hid (fun tt => cellsAt_new w [v0, v1, v2, v3, .int .i64 z, .bool dd, .int .i64 rr] tt)
 clear hz hdd hrr hfr hha hrel hok hoks hD hf hk0 hk cpb chb cg npb npg hv hcp
 go_enter Tryz.func50, Tryz.ntmps50
 go_upto_region 1 with fail
 have hc := HC.out 100
 have hs : Still w (w.alloc (.cells #[v0, v1, v2, v3, .int .i64 z, .bool dd, .int .i64 rr] 100)) := (Still.refl w).alloc _
 clear HC
 change cellsAt (w.alloc (.cells #[v0, v1, v2, v3, .int .i64 z, .bool dd, .int .i64 rr] 100)) w.heap.size _ at hc
 generalize (w.alloc (.cells #[v0, v1, v2, v3, .int .i64 z, .bool dd, .int .i64 rr] 100)) = w1 at *
 obtain ⟨b5, hb5⟩ : ∃ b, w.heap.size = b := ⟨_, rfl⟩
 rw [hb5] at hc
 rw [hb5]
 have p4 : w1.cell? ⟨pb, 4, none⟩ = some (.pointer (some ⟨hb, 0, none⟩)) := (HCP.out.only hs fun e => e).cell 4
 have H1 := Lib.hid (And.intro hs (And.intro hc hb5))
 have HCO := Lib.hid (hcopy_any (HHA.out.still hs))
 clear hs hc hb5
 go_wp2_with fail
 refine HCO.out.mono ?_
 rintro e w2 ⟨hb2, g2, o2, cap2, rfl, hha2, hs2, hl1, hl2⟩
 have H2 := Lib.hid (And.intro hha2 (And.intro hs2 (And.intro hl1 hl2)))
 have HC5 := Lib.hid (H1.out.2.1.only hs2 fun e => e)
 obtain ⟨R, hR⟩ : ∃ R, Hv.put frZ k [v0, v1, v2, v3, .int .i64 z, .bool dd, .int .i64 rr] = R := ⟨_, rfl⟩
 obtain ⟨⟨ok, wl, hd⟩, Hv2⟩ := R
 obtain ⟨RP, hRP⟩ : ∃ R, s.H.put PFr.void k f = R := ⟨_, rfl⟩
 obtain ⟨⟨po, pf, ph⟩, PH⟩ := RP
 have hrr := HREL.out.put (a := frZ) (b := PFr.void) (k := k) FrIs.void HFR.out
 rw [hR, hRP] at hrr
 dsimp only at hrr
 obtain ⟨e1, e2, ⟨x0, x1, x2, x3, e3, hxp⟩, hrel2⟩ := hrr
 subst e1 e2 e3
 have HPU := Lib.hid (show Calls Tryz.prog 46 #[.pointer (some ⟨hb2, 0, none⟩), .int .i64 k, .agg #[v0, v1, v2, v3, .int .i64 z, .bool dd, .int .i64 rr]] w2 (fun e w' => e = .returned (.tuple #[.int .i64 ok, .agg #[x0, x1, x2, x3, .int .i64 pf.p.lsn, .bool pf.dirty, .int .i64 pf.rec_], .bool hd, .int .i64 0]) ∧ HdAt w' hb2 g2 o2 n cap2 Hv2 ∧ Only (fun b => b = hb2 ∨ b = g2) w2 w') from by
  have := hput_any hha2 k v0 v1 v2 v3 (.int .i64 z) (.bool dd) (.int .i64 rr) HFR.out.one.2
  rw [hR] at this
  exact this)
 have HXP := Lib.hid (And.intro hxp hrel2)
 have HWAS := Lib.hid (show ((ok, pf, hd) : Int × PFr × Bool) = (0, PFr.void, false) ∨ ∃ y ∈ s.H.l, ((ok, pf, hd) : Int × PFr × Bool) = (y.k, y.v, true) from by
  have := put_was s.H PFr.void f k
  rw [hRP] at this
  exact this)
 have HMEM := Lib.hid (show ∀ x ∈ PH.l, x.v.p.ok ∧ 0 ≤ x.k ∧ x.k ≤ cf.pages from fun x hx => by
  rcases put_mem (h := s.H) (o := PFr.void) (k := k) (v := f) (x := x) (by rw [hRP]; exact hx) with ⟨h1, h2⟩ | ⟨y, hy, h1, h2⟩
  · rw [h1, h2]
    exact ⟨HOK.out.1, HK.out.1, HK.out.2⟩
  · have := HOK.out.2 y hy
    rw [h1]
    refine ⟨?_, this.2⟩
    rcases h2 with h2 | h2
    · rw [h2]; exact this.1
    · rw [h2]; exact HOK.out.1)
 have HLY := Lib.hid (lay_plain (cf := cf) hRP)
 obtain ⟨xz, hxz⟩ : ∃ z, pf.p.lsn = z := ⟨_, rfl⟩
 obtain ⟨xd, hxd⟩ : ∃ z, pf.dirty = z := ⟨_, rfl⟩
 obtain ⟨xr, hxr⟩ : ∃ z, pf.rec_ = z := ⟨_, rfl⟩
 have HXE := Lib.hid (And.intro hxz (And.intro hxd hxr))
 rw [hxz, hxd, hxr] at HPU
 rw [hxd] at HLY
 have HC9 := Lib.hid (fun w tt => cellsAt_new w frZ tt)
 have HONE := Lib.hid (show (#[x0, x1, x2, x3, .int .i64 xz, .bool xd, .int .i64 xr] : Array Value).toList.all (·.oneCell') = true from by
  have := pg_one hxp
  rw [List.all_eq_true]
  intro y hy
  simp only [List.mem_cons, List.not_mem_nil, or_false] at hy
  rcases hy with rfl | rfl | rfl | rfl | rfl | rfl | rfl
  · exact this _ (by simp)
  · exact this _ (by simp)
  · exact this _ (by simp)
  · exact this _ (by simp)
  · rfl
  · rfl
  · rfl)
 clear hha2 hs2 hl1 hl2 HCO p4 hR hRP hxp hrel2 hxz hxd hxr
 go_upto_region 2 with fail
 go_wp2_with ((with_reducible (show wpList _ _ _ ({ dst := some 21, op := _, type := _, pos := _, after := _, guard := _ } :: _) _ _)); (refine wpList_loadAgg rfl 100 _ rfl b5 #[v0, v1, v2, v3, .int .i64 z, .bool dd, .int .i64 rr] rfl HC5.out _ Tryz.underlying100 rfl size_fr ?_))
 refine HPU.out.mono ?_
 rintro e w3 ⟨rfl, hha3, ho3⟩
 have H3 := Lib.hid (And.intro hha3 ho3)
 clear hha3 ho3
 go_upto_region 3 with ((with_reducible (show wpList _ _ _ ({ dst := none, op := Op.store 100 _ _, type := _, pos := _, after := _, guard := _ } :: _) _ _)); (refine wpList_storeAgg rfl 100 _ _ rfl w3.heap.size #[x0, x1, x2, x3, .int .i64 xz, .bool xd, .int .i64 xr] rfl rfl (HC9.out _ _) size_fr rfl HONE.out ?_; intro w4 hcf hof hzf; have H4 := Lib.hid (And.intro hcf (And.intro hof hzf)); clear hcf hof hzf))
 obtain ⟨b9, hb9⟩ : ∃ b, w3.heap.size = b := ⟨_, rfl⟩
 rw [hb9] at H4
 rw [hb9]
 have h5l := H1.out.2.2
 have hl1 := H2.out.2.2.1
 have hl2 := H2.out.2.2.2
 have hz1 := H1.out.1.size
 have hz2 := H2.out.2.1.size
 have hz3 := H3.out.2.size
 have HSW := Lib.hid (show Still w w4 from by
  have s3 : Still w w3 := (H1.out.1.trans H2.out.2.1).andThen H3.out.2 fun x hx e => by rcases e with e | e <;> omega
  exact (s3.alloc _).andThen H4.out.2.1 fun x hx e => by have e' : x = b9 := e; omega)
 have HHD := Lib.hid (show HdAt w4 hb2 g2 o2 n cap2 Hv2 ∧ w.heap.size ≤ hb2 ∧ w.heap.size ≤ g2 from by
  have h3 := H3.out.1
  have lh := h3.cells.lt
  have lg : g2 < w3.heap.size := h3.row.lt (by have := h3.pos; have := h3.row.le; omega)
  exact ⟨((h3.still ((Still.refl w3).alloc _)).only H4.out.2.1 (fun e => by have e' : hb2 = b9 := e; omega) fun e => by have e' : g2 = b9 := e; omega), by omega, by omega⟩)
 have HD4 := Lib.hid (HD.out.still HSW.out HN.out.a0 HN.out.b0)
 have HCP4 := Lib.hid (HCP.out.only HSW.out fun e => e)
 have HXP4 := Lib.hid (And.intro (HXP.out.1.still HSW.out) (show HdR (FrIs w4 (Cs c r)) Hv2 PH from HXP.out.2.mono fun v f hv => hv.only HSW.out fun _ _ e => e))
 have HZ0 := Lib.hid (show c hb2 = 0 ∧ c g2 = 0 from ⟨Classical.byContradiction fun e => by have := HD.out.low hb2 e; omega, Classical.byContradiction fun e => by have := HD.out.low g2 e; omega⟩)
 have q5 : w4.cell? ⟨b9, 5, none⟩ = some (.bool xd) := H4.out.1.cell 5
 clear h5l hl1 hl2 hz1 hz2 hz3 HC5 HC9 HONE HPU
 have HSAME := Lib.hid (show ¬ (hd = true ∧ xd = true) → PoPost c a b m r w pb d t cf (.int .i64 (s.lay cf k f).1) (s.lay cf k f).2 (.returned (.int .i64 0)) (w4.setCell ⟨pb, 4, none⟩ (.pointer (some ⟨hb2, 0, none⟩))) from fun hno => by
  rw [HLY.out, if_neg hno]
  exact ⟨rfl, lay_end (Stp.still HD.out.low HSW.out) HD4.out HN.out HCP4.out HCC.out.1 HHD.out.1 HXP4.out.2 HZ0.out.1 HZ0.out.2 HHD.out.2.1 HHD.out.2.2 HMEM.out⟩)
 have p4 : w4.cell? ⟨pb, 4, none⟩ = some (.pointer (some ⟨hb, 0, none⟩)) := HCP4.out.cell 4
 have f4 : w4.frozen? ⟨pb, 4, none⟩ = false := HCP4.out.free 4
 cases hd with
 | false =>
  have F := Lib.hid (HSAME.out (fun e => by cases e.1))
  clear HSAME HLY
  go_wp2_with fail
  go_ret
  exact F.out
 | true =>
  cases xd with
  | false =>
   have F := Lib.hid (HSAME.out (fun e => by cases e.2))
   clear HSAME HLY
   go_wp2_with fail
   go_ret
   exact F.out
  | true =>
   have HKE := Lib.hid (show pf.p.ok ∧ 0 ≤ ok ∧ ok ≤ cf.pages from by
    rcases HWAS.out with e | ⟨y, hy, e⟩
    · cases e
    · have := HOK.out.2 y hy
      injection e with e1 e2
      injection e2 with e2 e3
      rw [e1, e2]
      exact this)
   have HWR := Lib.hid (show Calls Tryz.prog 56 #[.pointer (some ⟨pb, 0, none⟩), .int .i64 ok, .agg #[x0, x1, x2, x3, .int .i64 xz, .bool true, .int .i64 xr]] w4 (DtPost c a b w4 d t cf (s.write cf ok pf)) from by
    have := pwrite_any HD4.out HN.out.a0 HN.out.b0 HN.out.ab HCP4.out (by rw [HCC.out.1]; exact Ne.symm HN.out.am) (by rw [HCC.out.1]; exact Ne.symm HN.out.bm) HXP4.out.1 (fun g hg => by have e : c g = r := hg; rw [e]; exact ⟨Ne.symm HN.out.ar, Ne.symm HN.out.br⟩) HKE.out.1 ok HKE.out.2.1 (by have := HKE.out.2.2; have := HD4.out.fit; have := HD4.out.len; omega) (by have := HD4.out.fit; have := HD4.out.len; omega)
    rw [HXE.out.1, HXE.out.2.1, HXE.out.2.2] at this
    exact this)
   clear HSAME p4 f4
   go_upto_region 6 with fail
   go_wp2_with ((with_reducible (show wpList _ _ _ ({ dst := some 37, op := _, type := _, pos := _, after := _, guard := _ } :: _) _ _)); (refine wpList_loadAgg rfl 100 _ rfl b9 #[x0, x1, x2, x3, .int .i64 xz, .bool true, .int .i64 xr] rfl H4.out.1 _ Tryz.underlying100 rfl size_fr ?_))
   refine HWR.out.mono ?_
   rintro e w5 ⟨rfl, c5, hst5, hd5⟩
   have hst5' : Stp (fun i => i = a ∨ i = b ∨ i = m) (fun i => i = a ∨ i = m ∨ i = r) c c5 w w5 := (Stp.still HD.out.low HSW.out).trans (hst5.mono (fun i e => by rcases e with e | e; exact .inl e; exact .inr (.inl e)) fun i e => .inl e)
   obtain ⟨E, hE⟩ : ∃ E, (s.write cf ok pf).1 = E := ⟨_, rfl⟩
   rw [hE]
   by_cases hz : E = 0
   · have hoff : ∀ x, c x = m → ¬ (c x = a ∨ c x = b) := fun x e h => by rw [e] at h; exact h.elim (fun e => HN.out.am e.symm) fun e => HN.out.bm e.symm
     have hoff0 : ∀ x, c x = 0 → ¬ (c x = a ∨ c x = b) := fun x e h => by rw [e] at h; exact h.elim (fun e => HN.out.a0 e.symm) fun e => HN.out.b0 e.symm
     have hcp5 := HCP4.out.only hst5.only (hoff pb HCC.out.1)
     have lpb := HCP4.out.lt
     have lh := HHD.out.1.cells.lt
     have lg : g2 < w4.heap.size := HHD.out.1.row.lt (by have := HHD.out.1.pos; have := HHD.out.1.row.le; omega)
     have F := Lib.hid (show PoPost c a b m r w pb d t cf (.int .i64 (s.lay cf k f).1) (s.lay cf k f).2 (.returned (.int .i64 0)) (w5.setCell ⟨pb, 4, none⟩ (.pointer (some ⟨hb2, 0, none⟩))) from by
      rw [HLY.out, if_pos (by simp), if_neg (fun e => e (by rw [hE]; exact hz))]
      refine ⟨rfl, lay_end hst5' hd5 HN.out hcp5 ?_ (HHD.out.1.only hst5.only (hoff0 _ HZ0.out.1) (hoff0 _ HZ0.out.2)) ?_ ?_ ?_ HHD.out.2.1 HHD.out.2.2 HMEM.out⟩
      · rw [hst5.old pb lpb]
        exact HCC.out.1
      · rw [hst5.same HD4.out.low HN.out.r0 (fun e => HN.out.ar e.symm)]
        exact HXP4.out.2.mono fun v f hv => hv.only hst5.only fun g hg e => by
         have e' : c g = r := hg
         rw [e'] at e
         exact e.elim (fun e => HN.out.ar e.symm) fun e => HN.out.br e.symm
      · rw [hst5.old hb2 lh]
        exact HZ0.out.1
      · rw [hst5.old g2 lg]
        exact HZ0.out.2)
     have p5 : w5.cell? ⟨pb, 4, none⟩ = some (.pointer (some ⟨hb, 0, none⟩)) := hcp5.cell 4
     have f5 : w5.frozen? ⟨pb, 4, none⟩ = false := hcp5.free 4
     subst hz
     clear hst5 hd5 hst5' hE hoff hoff0 hcp5 lpb lh lg HLY
     go_wp2_with fail
     go_ret
     exact F.out
   · have F := Lib.hid (show PoPost c a b m r w pb d t cf (.int .i64 (s.lay cf k f).1) (s.lay cf k f).2 (.returned (.int .i64 E)) w5 from by
      rw [HLY.out, if_pos (by simp), if_pos (by rw [hE]; exact hz)]
      have hpo : PoAt c m r w pb d t cf s.H := ⟨⟨hb, g, o, n, cap, Hv, HCP.out, HHA.out, HREL.out, HCC.out⟩, HOK.out.2⟩
      refine ⟨by rw [hE], c5, hst5', hd5, ?_⟩
      rw [write_hand]
      exact (hpo.still HD.out.low HSW.out HN.out.m0 HN.out.r0).keep HD4.out.low hst5 (fun e => e.elim (fun e => HN.out.am e.symm) fun e => HN.out.bm e.symm) (fun e => e.elim (fun e => HN.out.ar e.symm) fun e => HN.out.br e.symm) (fun e => HN.out.ar e.symm) HN.out.m0 HN.out.r0)
     have d1 : (E != 0) = true := bne_iff_ne.2 hz
     clear hst5 hd5 hst5' hE hz HLY
     go_wp2_with fail
     go_ret
     exact F.out
end
end Go.Proofs.YtlcfoeikamkpmaaGreat

namespace Go.Proofs.YtlcfoeikamkpmaaGreat
open Go.RowKit Go.Wh Go.Maps

section
variable {c : Nat → Nat} {a b m r : Nat} {w : World} {d : Nat} {t : Option Nat} {cf : PCf} {s : PSt}
theorem pmay_any {pb : Nat} {pv p1 p2 p4 : Value} (hP : cellsAt w pb [pv, p1, p2, .int .i64 (cf.pages : Nat), p4]) (k : Int) :
 Calls Tryz.prog 47 #[.pointer (some ⟨pb, 0, none⟩), .int .i64 k] w (SamePost w (.bool (cf.may k))) := by
 have p3 : w.cell? ⟨pb, 3, none⟩ = some (.int .i64 (cf.pages : Nat)) := hP.cell 3
 clear hP
 unfold PCf.may
 by_cases h0 : 0 ≤ k
 · rw [decide_eq_true h0, Bool.true_and]
   have F := Lib.hid (show SamePost w (.bool (decide (k < (cf.pages : Int)))) (.returned (.bool (decide (k < (cf.pages : Int))))) w from ⟨rfl, rfl⟩)
   go_enter Tryz.func47, Tryz.ntmps47
   go_wp2_with fail
   go_ret
   exact F.out
 · rw [decide_eq_false h0, Bool.false_and]
   have d1 : decide (0 ≤ k) = false := decide_eq_false h0
   have F := Lib.hid (show SamePost w (.bool false) (.returned (.bool false)) w from ⟨rfl, rfl⟩)
   go_enter Tryz.func47, Tryz.ntmps47
   go_wp2_with fail
   go_ret
   exact F.out
def GtPost (c : Nat → Nat) (a b m r : Nat) (w : World) (pb d : Nat) (t : Option Nat) (cf : PCf) (R : Int × PFr × PSt) (e : Ending) (w' : World) : Prop :=
 ∃ v0 v1 v2 v3, e = .returned (.tuple #[.agg #[v0, v1, v2, v3, .int .i64 R.2.1.p.lsn, .bool R.2.1.dirty, .int .i64 R.2.1.rec_], .int .i64 R.1]) ∧
  ∃ c', Stp (fun i => i = a ∨ i = b ∨ i = m) (fun i => i = a ∨ i = m ∨ i = r) c c' w w' ∧ Dt c' a b w' d t cf R.2.2 ∧ PoAt c' m r w' pb d t cf R.2.2.H ∧ PgIs w' (Cs c' r) [v0, v1, v2, v3] R.2.1.p.c
theorem gt_same {pb : Nat} {w' : World} {E : Int} (hD : Dt c a b w d t cf s) (hf : Dif a b m r) (hP : PoAt c m r w pb d t cf s.H) (hs : Still w w') : GtPost c a b m r w pb d t cf (E, PFr.void, s) (.returned (.tuple #[.agg #[.slice none 0 0, .slice none 0 0, .slice none 0 0, .slice none 0 0, .int .i64 0, .bool false, .int .i64 0], .int .i64 E])) w' := by
 obtain ⟨v0, v1, v2, v3, e, hp⟩ := FrIs.void (w := w') (Q := Cs c r)
 injection e with e0 e
 injection e with e1 e
 injection e with e2 e
 injection e with e3 e
 subst e0 e1 e2 e3
 exact ⟨_, _, _, _, rfl, c, Stp.still hD.low hs, hD.still hs hf.a0 hf.b0, hP.still hD.low hs hf.m0 hf.r0, hp⟩
theorem takeT_ok {x y : List Int} (hx : x.length = 64) (hy : y.length = 64) (bx : Byt x) (bY : Byt y) (h : (takeT x y).1 = 0) : (takeT x y).2.ok := by
 have hl : (x.drop 4 ++ y.drop 4).length = 120 := by rw [List.length_append, List.length_drop, List.length_drop]; omega
 have hb : Byt (x.drop 4 ++ y.drop 4) := (bx.drop 4).append (bY.drop 4)
 generalize hB : x.drop 4 ++ y.drop 4 = B at hl hb
 rw [takeT_st, hB] at h ⊢
 by_cases h1 : stE x y ≠ 0
 · rw [if_pos h1] at h
   exact absurd h h1
 · rw [if_neg h1] at h ⊢
   by_cases h2 : nought (B.drop 104) = false
   · rw [if_pos h2] at h
     cases h
   · rw [if_neg h2] at h ⊢
     by_cases h3 : allC B 4 = false
     · rw [if_pos h3] at h
       cases h
     · rw [if_neg h3]
       rw [cellsN_four]
       unfold cellsT
       refine ⟨rfl, fun l hl' => ?_, fun l hl' => ?_⟩
       · obtain ⟨i, hi, rfl⟩ := List.mem_map.1 hl'
         split
         · exact .inl rfl
         · exact .inr (cellAt_len hl (List.mem_range.1 hi))
       · obtain ⟨i, hi, rfl⟩ := List.mem_map.1 hl'
         split
         · intro z hz; cases hz
         · exact cellAt_byt hb i
set_option maxHeartbeats 4000000 in
set_option maxRecDepth 100000 in
theorem pget_any (hD : Dt c a b w d t cf s) (hf : Dif a b m r) {pb : Nat} (hP : PoAt c m r w pb d t cf s.H) (k : Int) :
 Calls Tryz.prog 43 #[.pointer (some ⟨pb, 0, none⟩), .int .i64 k] w (GtPost c a b m r w pb d t cf (s.get cf k)) := by
 have HP := Lib.hid hP
 obtain ⟨⟨hb, g, o, n, cap, Hv, hcp, hha, hrel, cpb, chb, cg, npb, npg⟩, hoks⟩ := hP
 have HCP := Lib.hid hcp
 have HHA := Lib.hid hha
 have HREL := Lib.hid hrel
 have HOK := Lib.hid hoks
 have HD := Lib.hid hD
 have HN := Lib.hid hf
 have HCC := Lib.hid (And.intro cpb (And.intro chb (And.intro cg (And.intro npb npg))))
 have HC := Lib.hid (fun tt => cellsAt_new w frZ tt)
 have hpl := hcp.lt
 clear hha hrel hoks hD hf cpb chb cg npb npg hcp
 go_enter Tryz.func43, Tryz.ntmps43
 go_upto_region 1 with fail
 have hc := HC.out 100
 have hs : Still w (w.alloc (.cells #[.slice none 0 0, .slice none 0 0, .slice none 0 0, .slice none 0 0, .int .i64 0, .bool false, .int .i64 0] 100)) := (Still.refl w).alloc _
 clear HC
 change cellsAt (w.alloc (.cells #[.slice none 0 0, .slice none 0 0, .slice none 0 0, .slice none 0 0, .int .i64 0, .bool false, .int .i64 0] 100)) w.heap.size _ at hc
 generalize (w.alloc (.cells #[.slice none 0 0, .slice none 0 0, .slice none 0 0, .slice none 0 0, .int .i64 0, .bool false, .int .i64 0] 100)) = w1 at *
 obtain ⟨b4, hb4⟩ : ∃ b, w.heap.size = b := ⟨_, rfl⟩
 rw [hb4] at hc
 rw [hb4]
 have p0 : w1.cell? ⟨pb, 0, none⟩ = some (.pointer (some ⟨d, 0, none⟩)) := (HCP.out.only hs fun e => e).cell 0
 have p2 : w1.cell? ⟨pb, 2, none⟩ = some (.int .i64 (cf.first : Nat)) := (HCP.out.only hs fun e => e).cell 2
 have p4 : w1.cell? ⟨pb, 4, none⟩ = some (.pointer (some ⟨hb, 0, none⟩)) := (HCP.out.only hs fun e => e).cell 4
 have HB := Lib.hid hb4
 have HS := Lib.hid hs
 have HB4 := Lib.hid hc
 have HMY := Lib.hid (pmay_any (cf := cf) (HCP.out.only hs fun e => e) k)
 clear hs hc hb4 hpl
 cases hm : cf.may k with
 | false =>
  rw [hm] at HMY
  go_wp2_with fail
  refine HMY.out.mono ?_
  rintro e w2 ⟨rfl, rfl⟩
  have HGE0 := Lib.hid (show s.get cf k = (1, PFr.void, s) from by
   unfold PSt.get
   rw [if_pos hm])
  clear HMY hm
  go_upto_region 2 with fail
  have HGE := Lib.hid (HGE0.out)
  go_wp2_with ((with_reducible (show wpList _ _ _ ({ dst := none, op := Op.store 100 _ _, type := _, pos := _, after := _, guard := _ } :: _) _ _)); (refine wpList_storeAgg rfl 100 _ _ rfl b4 #[.slice none 0 0, .slice none 0 0, .slice none 0 0, .slice none 0 0, .int .i64 0, .bool false, .int .i64 0] rfl rfl HB4.out size_fr rfl rfl ?_; intro wf hcf hof hzf; have HF := Lib.hid (And.intro hcf (And.intro hof hzf)); clear hcf hof hzf))
  have F2 := Lib.hid (show GtPost c a b m r w pb d t cf (s.get cf k) (.returned (.tuple #[.agg #[.slice none 0 0, .slice none 0 0, .slice none 0 0, .slice none 0 0, .int .i64 0, .bool false, .int .i64 0], .int .i64 1])) wf from by
   have hst : Still w wf := HS.out.andThen HF.out.2.1 fun g hg e => by have e' : g = b4 := e; have := HB.out; omega
   rw [HGE.out]
   exact gt_same HD.out HN.out HP.out hst)
  have z0 : wf.cell? ⟨b4, 0, none⟩ = some (.slice none 0 0) := HF.out.1.cell 0
  have z1 : wf.cell? ⟨b4, 1, none⟩ = some (.slice none 0 0) := HF.out.1.cell 1
  have z2 : wf.cell? ⟨b4, 2, none⟩ = some (.slice none 0 0) := HF.out.1.cell 2
  have z3 : wf.cell? ⟨b4, 3, none⟩ = some (.slice none 0 0) := HF.out.1.cell 3
  have z4 : wf.cell? ⟨b4, 4, none⟩ = some (.int .i64 0) := HF.out.1.cell 4
  have z5 : wf.cell? ⟨b4, 5, none⟩ = some (.bool false) := HF.out.1.cell 5
  have z6 : wf.cell? ⟨b4, 6, none⟩ = some (.int .i64 0) := HF.out.1.cell 6
  exact bodyPost_ret (v := .tuple #[.agg #[.slice none 0 0, .slice none 0 0, .slice none 0 0, .slice none 0 0, .int .i64 0, .bool false, .int .i64 0], .int .i64 1]) (by simp [results, Tryz.results43, go_sem, z0, z1, z2, z3, z4, z5, z6]) rfl F2.out
 | true =>
  rw [hm] at HMY
  have hm2 := hm
  unfold PCf.may at hm2
  simp only [Bool.and_eq_true, decide_eq_true_eq] at hm2
  obtain ⟨kn, rfl⟩ : ∃ kn : Nat, k = (kn : Int) := ⟨k.toNat, by omega⟩
  have hkn : kn < cf.pages := by omega
  have HKN := Lib.hid (And.intro hkn hm)
  have hfit := HD.out.fit
  have hlen := HD.out.len
  obtain ⟨K2, hK2⟩ : ∃ K2, 2 * kn = K2 := ⟨_, rfl⟩
  obtain ⟨I0, hI0⟩ : ∃ I, cf.first + K2 = I := ⟨_, rfl⟩
  obtain ⟨I1, hI1⟩ : ∃ I, I0 + 1 = I := ⟨_, rfl⟩
  have a1 : (2 : Int) * (kn : Int) = (K2 : Int) := by omega
  have a2 : (cf.first : Int) + (K2 : Int) = (I0 : Int) := by omega
  have a3 : (I0 : Int) + 1 = (I1 : Int) := by omega
  have u1 : IntKind.i64.wrap (K2 : Int) = (K2 : Int) := IntWalk.i64_in _ (by omega)
  have u2 : IntKind.i64.wrap (I0 : Int) = (I0 : Int) := IntWalk.i64_in _ (by omega)
  have u3 : IntKind.i64.wrap (I1 : Int) = (I1 : Int) := IntWalk.i64_in _ (by omega)
  obtain ⟨x, hx⟩ : ∃ x, s.D.T[I0]? = some x := ⟨_, List.getElem?_eq_getElem (by omega)⟩
  obtain ⟨y, hy⟩ : ∃ y, s.D.T[I1]? = some y := ⟨_, List.getElem?_eq_getElem (by omega)⟩
  have HXY := Lib.hid (show s.D.T[I0]? = some x ∧ s.D.T[I1]? = some y ∧ s.tile cf (2 * (kn : Int)) = x ∧ s.tile cf (2 * (kn : Int) + 1) = y ∧ Byt x ∧ Byt y ∧ x.length = 64 ∧ y.length = 64 from by
   refine ⟨hx, hy, ?_, ?_, HD.out.byt.1 x (List.mem_of_getElem? hx), HD.out.byt.1 y (List.mem_of_getElem? hy), HD.out.dk.lens hx, HD.out.dk.lens hy⟩
   · unfold PSt.tile
     rw [show (2 * (kn : Int)).toNat = K2 by omega, hI0, List.getD_eq_getElem?_getD, hx]
     rfl
   · unfold PSt.tile
     rw [show (2 * (kn : Int) + 1).toNat = K2 + 1 by omega, show cf.first + (K2 + 1) = I1 by omega, List.getD_eq_getElem?_getD, hy]
     rfl)
  have HGT := Lib.hid (hget_any (HHA.out.still HS.out) (kn : Int))
  clear hm hm2 hkn hfit hlen hK2 hI0 hI1 hx hy
  go_wp2_with fail
  refine HMY.out.mono ?_
  rintro e w2 ⟨rfl, rfl⟩
  clear HMY
  go_upto_region 3 with fail
  go_wp2_with fail
  refine HGT.out.mono ?_
  intro e w3 hp
  have hlook := HREL.out.look (k := (kn : Int))
  have HC6 := Lib.hid (fun w tt => cellsAt_new w frZ tt)
  rcases hp with ⟨hn, rfl, hs3⟩ | ⟨v, hv, rfl, hha3, ho3⟩
  rotate_left
  · obtain ⟨u0, u1', u2', u3', f, hvf, hlk, hpg⟩ : ∃ u0 u1' u2' u3' f, v = [u0, u1', u2', u3', .int .i64 f.p.lsn, .bool f.dirty, .int .i64 f.rec_] ∧ s.H.look (kn : Int) = some f ∧ PgIs w (Cs c r) [u0, u1', u2', u3'] f.p.c := by
     rcases hlook with ⟨h1, h2⟩ | ⟨v', f, h1, h2, u0, u1', u2', u3', h3, h4⟩
     · rw [hv] at h1
       cases h1
     · rw [hv] at h1
       cases h1
       exact ⟨u0, u1', u2', u3', f, h3, h2, h4⟩
    subst hvf
    have HGE := Lib.hid (show s.get cf (kn : Int) = (0, f, { s with H := s.H.touch (kn : Int) }) from by
     unfold PSt.get
     rw [if_neg (by rw [HKN.out.2]; decide), hlk])
    have HPG := Lib.hid hpg
    obtain ⟨z, hz⟩ : ∃ z, f.p.lsn = z := ⟨_, rfl⟩
    obtain ⟨dd, hdd⟩ : ∃ z, f.dirty = z := ⟨_, rfl⟩
    obtain ⟨rr, hrr⟩ : ∃ z, f.rec_ = z := ⟨_, rfl⟩
    rw [hz, hdd, hrr]
    have HFZ := Lib.hid (And.intro hz (And.intro hdd hrr))
    have H3 := Lib.hid (And.intro hha3 ho3)
    have HONE := Lib.hid (show (#[u0, u1', u2', u3', .int .i64 z, .bool dd, .int .i64 rr] : Array Value).toList.all (·.oneCell') = true from by
     have := pg_one hpg
     rw [List.all_eq_true]
     intro y hy
     simp only [List.mem_cons, List.not_mem_nil, or_false] at hy
     rcases hy with rfl | rfl | rfl | rfl | rfl | rfl | rfl
     · exact this _ (by simp)
     · exact this _ (by simp)
     · exact this _ (by simp)
     · exact this _ (by simp)
     · rfl
     · rfl
     · rfl)
    clear hv hlk hpg hz hdd hrr hha3 ho3 hlook HGT p0 p2 p4
    go_upto_region 4 with ((with_reducible (show wpList _ _ _ ({ dst := none, op := Op.store 100 _ _, type := _, pos := _, after := _, guard := _ } :: _) _ _)); (refine wpList_storeAgg rfl 100 _ _ rfl w3.heap.size #[u0, u1', u2', u3', .int .i64 z, .bool dd, .int .i64 rr] rfl rfl (HC6.out _ _) size_fr rfl HONE.out ?_; intro w4 hcf hof hzf; have H4 := Lib.hid (And.intro hcf (And.intro hof hzf)); clear hcf hof hzf))
    have HB44 := Lib.hid (show cellsAt w4 b4 frZ from ((HB4.out.only H3.out.2 fun e => by
     have e' : b4 = g := e
     have := HHA.out.row.lt (by have := HHA.out.pos; have := HHA.out.row.le; omega)
     have := HB.out
     omega).alloc _).only H4.out.2.1 fun e => by
      have e' : b4 = w3.heap.size := e
      have h1 := HB4.out.lt
      have := H3.out.2.size
      omega)
    go_wp2_with (first
     | ((with_reducible (show wpList _ _ _ ({ dst := some 28, op := _, type := _, pos := _, after := _, guard := _ } :: _) _ _)); (refine wpList_loadAgg rfl 100 _ rfl w3.heap.size #[u0, u1', u2', u3', .int .i64 z, .bool dd, .int .i64 rr] rfl H4.out.1 _ Tryz.underlying100 rfl size_fr ?_))
     | ((with_reducible (show wpList _ _ _ ({ dst := none, op := Op.store 100 _ _, type := _, pos := _, after := _, guard := _ } :: _) _ _)); (refine wpList_storeAgg rfl 100 _ _ rfl b4 #[u0, u1', u2', u3', .int .i64 z, .bool dd, .int .i64 rr] rfl rfl HB44.out size_fr rfl HONE.out ?_; intro wf hcf hof hzf; have HF := Lib.hid (And.intro hcf (And.intro hof hzf)); clear hcf hof hzf)))
    have F2 := Lib.hid (show GtPost c a b m r w pb d t cf (s.get cf (kn : Int)) (.returned (.tuple #[.agg #[u0, u1', u2', u3', .int .i64 z, .bool dd, .int .i64 rr], .int .i64 0])) wf from by
     rw [HGE.out]
     have hz3 := H3.out.2.size
     have hbb := HB.out
     have hl4 := HB4.out.lt
     have gl := HHA.out.row.lt (by have := HHA.out.pos; have := HHA.out.row.le; omega)
     -- the step: the hand's row turned, else nothing
     have ho : Only (fun x => x = g) w wf := (((HS.out.mono fun _ e => e.elim).trans H3.out.2).alloc _).andThen H4.out.2.1 (fun x hx e => by have e' : x = w3.heap.size := e; have := HS.out.size; omega) |>.andThen HF.out.2.1 fun x hx e => by have e' : x = b4 := e; omega
     have hst : Stp (fun i => i = a ∨ i = b ∨ i = m) (fun i => i = a ∨ i = m ∨ i = r) c c w wf := Stp.own (i := m) HD.out.low (ho.mono fun x e => by have e' : x = g := e; rw [e']; exact HCC.out.2.2.1) (.inr (.inr rfl))
     have hst2 : Stp (fun i => i = m) (fun i => i = m) c c w wf := Stp.own (i := m) HD.out.low (ho.mono fun x e => by have e' : x = g := e; rw [e']; exact HCC.out.2.2.1) rfl
     have offr : ∀ x, Cs c r x → ¬ (x = g) := fun x e1 e2 => by
      have e1' : c x = r := e1
      rw [e2, HCC.out.2.2.1] at e1'
      exact HN.out.mr e1'
     have hhf : HdAt wf hb g o n cap (Hv.touch (kn : Int)) := by
      have l1 := H3.out.1.cells.lt
      have l2 : g < w3.heap.size := H3.out.1.row.lt (by have := H3.out.1.pos; have := H3.out.1.row.le; omega)
      have hlb := HHA.out.cells.lt
      exact (((H3.out.1.still ((Still.refl w3).alloc _)).only H4.out.2.1 (fun e => by have e' : hb = w3.heap.size := e; omega) fun e => by have e' : g = w3.heap.size := e; omega).only HF.out.2.1 (fun e => by have e' : hb = b4 := e; omega) fun e => by have e' : g = b4 := e; omega)
     refine ⟨u0, u1', u2', u3', by rw [HFZ.out.1, HFZ.out.2.1, HFZ.out.2.2], c, hst, (HD.out.keep hst2 HN.out.am HN.out.bm HN.out.am HN.out.bm HN.out.a0 HN.out.b0).hand _, ⟨⟨hb, g, o, n, cap, _, HCP.out.only ho (fun e => HCC.out.2.2.2.2 e), hhf, ?_, HCC.out⟩, fun x hx => ?_⟩, HPG.out.only ho offr⟩
     · exact (HREL.out.mono fun v f hv => hv.only ho offr).touch
     · rcases modI_mem hx with hx | ⟨y, hy, rfl⟩
       · exact HOK.out x hx
       · exact HOK.out y hy)
    have z0 : wf.cell? ⟨b4, 0, none⟩ = some (u0) := HF.out.1.cell 0
    have z1 : wf.cell? ⟨b4, 1, none⟩ = some (u1') := HF.out.1.cell 1
    have z2 : wf.cell? ⟨b4, 2, none⟩ = some (u2') := HF.out.1.cell 2
    have z3 : wf.cell? ⟨b4, 3, none⟩ = some (u3') := HF.out.1.cell 3
    have z4 : wf.cell? ⟨b4, 4, none⟩ = some (.int .i64 z) := HF.out.1.cell 4
    have z5 : wf.cell? ⟨b4, 5, none⟩ = some (.bool dd) := HF.out.1.cell 5
    have z6 : wf.cell? ⟨b4, 6, none⟩ = some (.int .i64 rr) := HF.out.1.cell 6
    exact bodyPost_ret (v := .tuple #[.agg #[u0, u1', u2', u3', .int .i64 z, .bool dd, .int .i64 rr], .int .i64 0]) (by simp [results, Tryz.results43, go_sem, z0, z1, z2, z3, z4, z5, z6]) rfl F2.out
  have hlk : s.H.look (kn : Int) = none := by
   rcases hlook with ⟨_, h2⟩ | ⟨v', f, h1, _⟩
   · exact h2
   · rw [hn] at h1
     cases h1
  have HLK := Lib.hid hlk
  have HS3 := Lib.hid (HS.out.trans hs3)
  clear hn hlk hlook HGT p0 p2 p4
  go_upto_region 4 with ((with_reducible (show wpList _ _ _ ({ dst := none, op := Op.store 100 _ _, type := _, pos := _, after := _, guard := _ } :: _) _ _)); (refine wpList_storeAgg rfl 100 _ _ rfl w3.heap.size #[.slice none 0 0, .slice none 0 0, .slice none 0 0, .slice none 0 0, .int .i64 0, .bool false, .int .i64 0] rfl rfl (HC6.out _ _) size_fr rfl rfl ?_; intro w4 hcf hof hzf; have H4 := Lib.hid (And.intro hcf (And.intro hof hzf)); clear hcf hof hzf))
  have HS4 := Lib.hid (show Still w2 w4 from (hs3.alloc _).andThen H4.out.2.1 fun x hx e => by have e' : x = w3.heap.size := e; have := hs3.size; omega)
  clear hs3 H4 HS3
  have HB44 := Lib.hid (HB4.out.only HS4.out fun e => e)
  have HSW := Lib.hid (HS.out.trans HS4.out)
  have HD4 := Lib.hid (HD.out.still HSW.out HN.out.a0 HN.out.b0)
  have HCP4 := Lib.hid (HCP.out.only HSW.out fun e => e)
  clear HB4 HS HS4
  have q0 : w4.cell? ⟨pb, 0, none⟩ = some (.pointer (some ⟨d, 0, none⟩)) := HCP4.out.cell 0
  have q2 : w4.cell? ⟨pb, 2, none⟩ = some (.int .i64 (cf.first : Nat)) := HCP4.out.cell 2
  have SS := Lib.hid (fun w' (hs : Still w4 w') => show w'.cell? ⟨pb, 0, none⟩ = some (.pointer (some ⟨d, 0, none⟩)) ∧ w'.cell? ⟨pb, 2, none⟩ = some (.int .i64 (cf.first : Nat)) from ⟨Still.cell hs q0, Still.cell hs q2⟩)
  by_cases hq : s.D.dead = true
  · have HRD := Lib.hid (fun w' (hs : Still w4 w') => read_dead (HD4.out.dk.still hs) hq (I0 : Int))
    have HGE0 := Lib.hid (show s.get cf (kn : Int) = (2, PFr.void, s) from by
     unfold PSt.get
     rw [if_neg (by rw [HKN.out.2]; decide), HLK.out]
     simp only
     rw [if_pos hq])
    have HB4 := Lib.hid (HB44.out.only (still_drew w4) fun e => e)
    have HS := Lib.hid (HSW.out.trans (still_drew w4))
    clear hq q0 q2
    go_upto_region 6 with fail
    go_region_held3 (fun w' => w'.cell? ⟨pb, 0, none⟩ = some (.pointer (some ⟨d, 0, none⟩)) ∧ w'.cell? ⟨pb, 2, none⟩ = some (.int .i64 (cf.first : Nat))) (first | exact SS.out _ (still_drew _)) (first
     | (go_at_call 31; (with_reducible refine (HRD.out _ (still_drew _)).mono ?_); rintro e w5 ⟨rfl, rfl⟩))
    go_upto_region 8 with fail
    have HGE := Lib.hid (HGE0.out)
    go_wp2_with ((with_reducible (show wpList _ _ _ ({ dst := none, op := Op.store 100 _ _, type := _, pos := _, after := _, guard := _ } :: _) _ _)); (refine wpList_storeAgg rfl 100 _ _ rfl b4 #[.slice none 0 0, .slice none 0 0, .slice none 0 0, .slice none 0 0, .int .i64 0, .bool false, .int .i64 0] rfl rfl HB4.out size_fr rfl rfl ?_; intro wf hcf hof hzf; have HF := Lib.hid (And.intro hcf (And.intro hof hzf)); clear hcf hof hzf))
    have F2 := Lib.hid (show GtPost c a b m r w pb d t cf (s.get cf (kn : Int)) (.returned (.tuple #[.agg #[.slice none 0 0, .slice none 0 0, .slice none 0 0, .slice none 0 0, .int .i64 0, .bool false, .int .i64 0], .int .i64 2])) wf from by
     have hst : Still w wf := HS.out.andThen HF.out.2.1 fun g hg e => by have e' : g = b4 := e; have := HB.out; omega
     rw [HGE.out]
     exact gt_same HD.out HN.out HP.out hst)
    have z0 : wf.cell? ⟨b4, 0, none⟩ = some (.slice none 0 0) := HF.out.1.cell 0
    have z1 : wf.cell? ⟨b4, 1, none⟩ = some (.slice none 0 0) := HF.out.1.cell 1
    have z2 : wf.cell? ⟨b4, 2, none⟩ = some (.slice none 0 0) := HF.out.1.cell 2
    have z3 : wf.cell? ⟨b4, 3, none⟩ = some (.slice none 0 0) := HF.out.1.cell 3
    have z4 : wf.cell? ⟨b4, 4, none⟩ = some (.int .i64 0) := HF.out.1.cell 4
    have z5 : wf.cell? ⟨b4, 5, none⟩ = some (.bool false) := HF.out.1.cell 5
    have z6 : wf.cell? ⟨b4, 6, none⟩ = some (.int .i64 0) := HF.out.1.cell 6
    exact bodyPost_ret (v := .tuple #[.agg #[.slice none 0 0, .slice none 0 0, .slice none 0 0, .slice none 0 0, .int .i64 0, .bool false, .int .i64 0], .int .i64 2]) (by simp [results, Tryz.results43, go_sem, z0, z1, z2, z3, z4, z5, z6]) rfl F2.out
  have hq0 : s.D.dead = false := by simpa using hq
  have HQ0 := Lib.hid hq0
  have HRD := Lib.hid (fun w' (hs : Still w4 w') => readX_any (HD4.out.dk.still hs) hq0 I0 x HXY.out.1)
  clear hq hq0 q0 q2
  go_upto_region 6 with fail
  go_region_held3 (fun w' => w'.cell? ⟨pb, 0, none⟩ = some (.pointer (some ⟨d, 0, none⟩)) ∧ w'.cell? ⟨pb, 2, none⟩ = some (.int .i64 (cf.first : Nat))) (first | exact SS.out _ (still_drew _) | exact SS.out _ (K5.out.2.1)) (first
   | (go_at_call 31; (with_reducible refine (HRD.out _ (still_drew _)).mono ?_); rintro e w5 ⟨va, rfl, k1, k2, k3⟩; have K5 := Lib.hid (And.intro k1 (And.intro ((still_drew w4).trans k2) k3)); clear k1 k2 k3))
  have HRD2 := Lib.hid (fun w' (hs : Still w5 w') => readX_any (HD4.out.dk.still (K5.out.2.1.trans hs)) HQ0.out I1 y HXY.out.2.1)
  obtain ⟨ea, ec, rfl⟩ := K5.out.1.form'
  go_upto_region 9 with fail
  go_region_held3 (fun w' => w'.cell? ⟨pb, 0, none⟩ = some (.pointer (some ⟨d, 0, none⟩)) ∧ w'.cell? ⟨pb, 2, none⟩ = some (.int .i64 (cf.first : Nat))) (first | exact SS.out _ (K5.out.2.1.drew) | exact SS.out _ (K5.out.2.1.trans K6.out.2.1)) (first
   | (go_at_call 31; (with_reducible refine (HRD2.out _ (still_drew _)).mono ?_); rintro e w6 ⟨vb, rfl, k1, k2, k3⟩; have K6 := Lib.hid (And.intro k1 (And.intro ((still_drew w5).trans k2) k3)); clear k1 k2 k3))
  obtain ⟨eb, ed, rfl⟩ := K6.out.1.form'
  have HS6 := Lib.hid (show Still w4 w6 from K5.out.2.1.trans K6.out.2.1)
  have HTK := Lib.hid (ltake_any w6 (.slice ea 64 ec) (.slice eb 64 ed) x y (Vec.sl0 (K5.out.1.belowAll (Only.below K6.out.2.1 (Nat.le_refl _) fun _ _ e => e)) (by decide)) (Vec.capOf K5.out.1) HXY.out.2.2.2.2.1 (Vec.sl0 K6.out.1 (by decide)) (Vec.capOf K6.out.1) HXY.out.2.2.2.2.2.1)
  obtain ⟨T, hT⟩ : ∃ T, takeT x y = T := ⟨_, rfl⟩
  obtain ⟨E, P⟩ := T
  clear HRD HRD2
  go_upto_region 12 with fail
  go_wp2_with fail
  refine HTK.out.mono ?_
  intro e w7 hp
  unfold LtPost at hp
  rw [hT] at hp
  have HC11 := Lib.hid (fun w tt => cellsAt_new w [.slice none 0 0, .slice none 0 0, .slice none 0 0, .slice none 0 0, .int .i64 0] tt)
  by_cases hE : E = 0
  rotate_left
  · rw [if_neg hE] at hp
    obtain ⟨rfl, hs7⟩ := hp
    have HGE0 := Lib.hid (show s.get cf (kn : Int) = (E, PFr.void, s) from by
     unfold PSt.get
     rw [if_neg (by rw [HKN.out.2]; decide), HLK.out]
     simp only
     rw [if_neg (by rw [HQ0.out]; decide), HXY.out.2.2.1, HXY.out.2.2.2.1, hT, if_pos hE])
    have d1 : (E != 0) = true := bne_iff_ne.2 hE
    have HS7 := Lib.hid (HS6.out.trans hs7)
    clear hs7 hE hT
    go_upto_region 13 with ((with_reducible (show wpList _ _ _ ({ dst := none, op := Op.store 36 _ _, type := _, pos := _, after := _, guard := _ } :: _) _ _)); (refine wpList_storeAgg rfl 36 _ _ rfl w7.heap.size #[.slice none 0 0, .slice none 0 0, .slice none 0 0, .slice none 0 0, .int .i64 0] rfl rfl (HC11.out _ _) size_page rfl rfl ?_; intro w8 hcf hof hzf; have H8 := Lib.hid (And.intro hcf (And.intro hof hzf)); clear hcf hof hzf))
    have hs8 : Still w4 w8 := (HS7.out.alloc _).andThen H8.out.2.1 fun x hx e => by have e' : x = w7.heap.size := e; have := HS7.out.size; omega
    have HB4 := Lib.hid (HB44.out.only hs8 fun e => e)
    have HS := Lib.hid (HSW.out.trans hs8)
    clear hs8
    go_upto_region 14 with fail
    have HGE := Lib.hid (HGE0.out)
    go_wp2_with ((with_reducible (show wpList _ _ _ ({ dst := none, op := Op.store 100 _ _, type := _, pos := _, after := _, guard := _ } :: _) _ _)); (refine wpList_storeAgg rfl 100 _ _ rfl b4 #[.slice none 0 0, .slice none 0 0, .slice none 0 0, .slice none 0 0, .int .i64 0, .bool false, .int .i64 0] rfl rfl HB4.out size_fr rfl rfl ?_; intro wf hcf hof hzf; have HF := Lib.hid (And.intro hcf (And.intro hof hzf)); clear hcf hof hzf))
    have F2 := Lib.hid (show GtPost c a b m r w pb d t cf (s.get cf (kn : Int)) (.returned (.tuple #[.agg #[.slice none 0 0, .slice none 0 0, .slice none 0 0, .slice none 0 0, .int .i64 0, .bool false, .int .i64 0], .int .i64 E])) wf from by
     have hst : Still w wf := HS.out.andThen HF.out.2.1 fun g hg e => by have e' : g = b4 := e; have := HB.out; omega
     rw [HGE.out]
     exact gt_same HD.out HN.out HP.out hst)
    have z0 : wf.cell? ⟨b4, 0, none⟩ = some (.slice none 0 0) := HF.out.1.cell 0
    have z1 : wf.cell? ⟨b4, 1, none⟩ = some (.slice none 0 0) := HF.out.1.cell 1
    have z2 : wf.cell? ⟨b4, 2, none⟩ = some (.slice none 0 0) := HF.out.1.cell 2
    have z3 : wf.cell? ⟨b4, 3, none⟩ = some (.slice none 0 0) := HF.out.1.cell 3
    have z4 : wf.cell? ⟨b4, 4, none⟩ = some (.int .i64 0) := HF.out.1.cell 4
    have z5 : wf.cell? ⟨b4, 5, none⟩ = some (.bool false) := HF.out.1.cell 5
    have z6 : wf.cell? ⟨b4, 6, none⟩ = some (.int .i64 0) := HF.out.1.cell 6
    exact bodyPost_ret (v := .tuple #[.agg #[.slice none 0 0, .slice none 0 0, .slice none 0 0, .slice none 0 0, .int .i64 0, .bool false, .int .i64 0], .int .i64 E]) (by simp [results, Tryz.results43, go_sem, z0, z1, z2, z3, z4, z5, z6]) rfl F2.out
  subst hE
  rw [if_pos rfl] at hp
  obtain ⟨u0, u1', u2', u3', rfl, hpg, hs7⟩ := hp
  have hokP : P.ok := by
   have := takeT_ok HXY.out.2.2.2.2.2.2.1 HXY.out.2.2.2.2.2.2.2 HXY.out.2.2.2.2.1 HXY.out.2.2.2.2.2.1 (by rw [hT])
   rw [hT] at this
   exact this
  have HGE := Lib.hid (show s.get cf (kn : Int) = ((s.lay cf (kn : Int) ⟨P, false, 0⟩).1, ⟨P, false, 0⟩, (s.lay cf (kn : Int) ⟨P, false, 0⟩).2) from by
   unfold PSt.get
   rw [if_neg (by rw [HKN.out.2]; decide), HLK.out]
   simp only
   rw [if_neg (by rw [HQ0.out]; decide), HXY.out.2.2.1, HXY.out.2.2.2.1, hT, if_neg (fun e => e rfl)])
  obtain ⟨z, hz⟩ : ∃ z, P.lsn = z := ⟨_, rfl⟩
  rw [hz]
  have HZP := Lib.hid (And.intro hz hokP)
  have HPG := Lib.hid hpg
  have HS7 := Lib.hid (HS6.out.trans hs7)
  have HONE := Lib.hid (show (#[u0, u1', u2', u3', .int .i64 z] : Array Value).toList.all (·.oneCell') = true from by
   have := pg_one hpg
   rw [List.all_eq_true]
   intro y hy
   simp only [List.mem_cons, List.not_mem_nil, or_false] at hy
   rcases hy with rfl | rfl | rfl | rfl | rfl
   · exact this _ (by simp)
   · exact this _ (by simp)
   · exact this _ (by simp)
   · exact this _ (by simp)
   · rfl)
  have HONE7 := Lib.hid (show (#[u0, u1', u2', u3', .int .i64 z, .bool false, .int .i64 0] : Array Value).toList.all (·.oneCell') = true from by
   have := pg_one hpg
   rw [List.all_eq_true]
   intro y hy
   simp only [List.mem_cons, List.not_mem_nil, or_false] at hy
   rcases hy with rfl | rfl | rfl | rfl | rfl | rfl | rfl
   · exact this _ (by simp)
   · exact this _ (by simp)
   · exact this _ (by simp)
   · exact this _ (by simp)
   · rfl
   · rfl
   · rfl)
  clear hz hokP hpg hs7 hT HTK
  go_upto_region 13 with ((with_reducible (show wpList _ _ _ ({ dst := none, op := Op.store 36 _ _, type := _, pos := _, after := _, guard := _ } :: _) _ _)); (refine wpList_storeAgg rfl 36 _ _ rfl w7.heap.size #[u0, u1', u2', u3', .int .i64 z] rfl rfl (HC11.out _ _) size_page rfl HONE.out ?_; intro w8 hcf hof hzf; have H8 := Lib.hid (And.intro hcf (And.intro hof hzf)); clear hcf hof hzf))
  have HS78 := Lib.hid (show Still w7 w8 from ((Still.refl w7).alloc _).andThen H8.out.2.1 fun x hx e => by have e' : x = w7.heap.size := e; omega)
  go_upto_region 15 with fail
  go_upto_region 16 with (first
   | ((with_reducible (show wpList _ _ _ ({ dst := some 78, op := _, type := _, pos := _, after := _, guard := _ } :: _) _ _)); (refine wpList_loadAgg rfl 36 _ rfl w7.heap.size #[u0, u1', u2', u3', .int .i64 z] rfl H8.out.1 _ Tryz.underlying36 rfl size_page ?_))
   | ((with_reducible (show wpList _ _ _ ({ dst := none, op := Op.store 100 _ _, type := _, pos := _, after := _, guard := _ } :: _) _ _)); (refine wpList_storeAgg rfl 100 _ _ rfl w8.heap.size #[u0, u1', u2', u3', .int .i64 z, .bool false, .int .i64 0] rfl rfl (HC6.out _ _) size_fr rfl HONE7.out ?_; intro w9 hcf hof hzf; have H9 := Lib.hid (And.intro hcf (And.intro hof hzf)); clear hcf hof hzf)))
  have HS89 := Lib.hid (show Still w8 w9 from ((Still.refl w8).alloc _).andThen H9.out.2.1 fun x hx e => by have e' : x = w8.heap.size := e; omega)
  obtain ⟨b12, hb12⟩ : ∃ b, w8.heap.size = b := ⟨_, rfl⟩
  rw [hb12] at H9
  rw [hb12]
  have HS9 := Lib.hid (show Still w4 w9 from (HS7.out.trans HS78.out).trans HS89.out)
  have HW9 := Lib.hid (HSW.out.trans HS9.out)
  have HB12 := Lib.hid hb12
  clear hb12
  -- the page's bytes get the pool's colour
  obtain ⟨N, hN⟩ : ∃ N : Nat → Prop, N = fun g => w6.heap.size ≤ g ∧ g < w7.heap.size := ⟨_, rfl⟩
  have hcN : ∀ g, N g → c g = 0 := fun g hg => Classical.byContradiction fun e => by
   rw [hN] at hg
   have := HD.out.low g e
   have := HSW.out.size
   have := HS6.out.size
   omega
  have hlowN : Low (paint c N r) w9 := fun g hg => by
   by_cases e : N g
   · rw [hN] at e
     have := HS78.out.size
     have := HS89.out.size
     omega
   · rw [paint_out e] at hg
     have := HD.out.low g hg
     have := HW9.out.size
     omega
  have ea := paint_same (i := r) hcN HN.out.a0 HN.out.ar
  have eb := paint_same (i := r) hcN HN.out.b0 HN.out.br
  have hD9 : Dt (paint c N r) a b w9 d t cf s := by
   have h9 := HD.out.still HW9.out HN.out.a0 HN.out.b0
   exact ⟨hlowN, by rw [ea]; exact h9.dk, fun t' e => by rw [eb]; exact h9.tr t' e, h9.trf, h9.fine, h9.byt, h9.len, h9.trl, h9.fit⟩
  have kept : ∀ x, c x = m → paint c N r x = m := fun x e => by
   rw [paint_out (fun hx => by have := hcN x hx; have := HN.out.m0; omega)]
   exact e
  have hsubr : ∀ x, Cs c r x → Cs (paint c N r) r x := fun x e => by
   have e' : c x = r := e
   show paint c N r x = r
   rw [paint_out (fun hx => by have := hcN x hx; have := HN.out.r0; omega)]
   exact e'
  have hP9 : PoAt (paint c N r) m r w9 pb d t cf s.H :=
   ⟨⟨hb, g, o, n, cap, Hv, HCP.out.only HW9.out (fun e => e), HHA.out.still HW9.out, HREL.out.mono (fun v f hv => (hv.only HW9.out fun _ _ e => e).mono hsubr), kept _ HCC.out.1, kept _ HCC.out.2.1, kept _ HCC.out.2.2.1, HCC.out.2.2.2⟩, HOK.out⟩
  have hpg9 : PgIs w9 (Cs (paint c N r) r) [u0, u1', u2', u3'] P.c := by
   have h1 : PgIs w7 (fun g => w6.heap.size ≤ g ∧ g < w7.heap.size) [u0, u1', u2', u3'] P.c := ⟨HPG.out.n, HPG.out.m, fun j v l h1 h2 => (HPG.out.at_ j v l h1 h2).low⟩
   refine ((h1.still HS78.out).still HS89.out).mono fun g hg => ?_
   exact paint_in (by rw [hN]; exact hg)
  have hst0 : Stp (fun i => i = a ∨ i = b ∨ i = m) (fun i => i = a ∨ i = m ∨ i = r) c (paint c N r) w w9 :=
   (Stp.still HD.out.low HW9.out).paint (fun g hg => by rw [hN] at hg; have := HSW.out.size; have := HS6.out.size; have := HS78.out.size; have := HS89.out.size; omega) (.inr (.inr rfl))
  have HLY := Lib.hid (fun w' (hs : Still w9 w') => show Calls Tryz.prog 50 #[.pointer (some ⟨pb, 0, none⟩), .int .i64 (kn : Int), .agg #[u0, u1', u2', u3', .int .i64 z, .bool false, .int .i64 0]] w' (PoPost (paint c N r) a b m r w' pb d t cf (.int .i64 (s.lay cf (kn : Int) ⟨P, false, 0⟩).1) (s.lay cf (kn : Int) ⟨P, false, 0⟩).2) from by
   have := play_any (hD9.still hs HN.out.a0 HN.out.b0) HN.out (hP9.still hlowN hs HN.out.m0 HN.out.r0) (kn : Int) (by omega) (by have := HKN.out.1; omega) (f := ⟨P, false, 0⟩) (hpg9.still hs) HZP.out.2
   dsimp only at this
   rw [HZP.out.1] at this
   exact this)
  have HST0 := Lib.hid (And.intro hst0 hlowN)
  have HPG9 := Lib.hid hpg9
  have h12c : paint c N r b12 = 0 := by
   have h1 : ¬ N b12 := fun e => by rw [hN] at e; have := HB12.out; have := HS78.out.size; omega
   rw [paint_out h1]
   exact Classical.byContradiction fun e => by have := HD.out.low b12 e; have := HB12.out; have := HSW.out.size; have := HS7.out.size; have := HS78.out.size; omega
  have h4c : paint c N r b4 = 0 := by
   have h1 : ¬ N b4 := fun e => by rw [hN] at e; have := HB44.out.lt; have := HS6.out.size; omega
   rw [paint_out h1]
   exact Classical.byContradiction fun e => by have := HD.out.low b4 e; have := HB.out; omega
  have H0C := Lib.hid (And.intro h12c (And.intro h4c (show b12 ≠ b4 from fun e => by have := HB12.out; have := HB44.out.lt; have := HS7.out.size; have := HS78.out.size; omega)))
  have HB49 := Lib.hid (HB44.out.only HS9.out fun e => e)
  clear hcN hlowN ea eb hD9 kept hsubr hP9 hpg9 hst0 h12c h4c hN
  refine wp_region_D_drew (D := (fun i => false)) (S := (fun w' => cellsAt w' b12 [u0, u1', u2', u3', .int .i64 z, .bool false, .int .i64 0] ∧ ∃ l, l.length = 7 ∧ cellsAt w' b4 l)) (by kernel_rfl) ?_ (fun hHeld => ?_)
  · exact ⟨H9.out.1.only (still_drew _) fun e => e, _, rfl, HB49.out.only (still_drew _) fun e => e⟩
  (refine takeS (i := 0) (some 80) (v := .agg #[u0, u1', u2', u3', .int .i64 z, .bool false, .int .i64 0]) rfl (by rfl) (by rfl) (by kernel_rfl) (by rfl) (fun _ _ _ h => h) hHeld ?_ ?_; (intro w hSw; exact exec_load7 rfl rfl hSw.1 rfl); try go_frame)
  (refine takeS (i := 1) (some 81) (v := ?_) rfl (by rfl) (by rfl) (by kernel_rfl) (by rfl) (fun _ _ _ h => h) hHeld ?_ ?_; rotate_left; (intro w hSw; go_simp; try with_reducible rfl); try go_frame)
  (refine takeS (i := 2) (some 82) (v := ?_) rfl (by rfl) (by rfl) (by kernel_rfl) (by rfl) (fun _ _ _ h => h) hHeld ?_ ?_; rotate_left; (intro w hSw; go_simp; try with_reducible rfl); try go_frame)
  (refine takeS (i := 3) (some 83) (v := .agg #[u0, u1', u2', u3', .int .i64 z, .bool false, .int .i64 0]) rfl (by rfl) (by rfl) (by kernel_rfl) (by rfl) (fun _ _ _ h => h) hHeld ?_ ?_; (intro w hSw; exact exec_load7 rfl rfl hSw.1 rfl); try go_frame)
  refine wpAnyD_ready (rs := [4]) (by kernel_rfl) (by simp) ?_
  refine ReadyD.cons rfl (fun K hK => ?_) ?_
  go_simp
  (go_at_call 50; (with_reducible refine (HLY.out _ (still_drew _)).mono ?_))
  rintro e wX ⟨rfl, cX, hstX, hDX, hPX⟩
  have HXX := Lib.hid (And.intro hstX (And.intro hDX hPX))
  obtain ⟨EL, hEL⟩ : ∃ E, (s.lay cf (kn : Int) ⟨P, false, 0⟩).1 = E := ⟨_, rfl⟩
  have HEL := Lib.hid hEL
  rw [hEL]
  have off0 : ∀ x, paint c N r x = 0 → ¬ (paint c N r x = a ∨ paint c N r x = b ∨ paint c N r x = m) := fun x e h => by
   rw [e] at h
   rcases h with h | h | h
   · exact HN.out.a0 h.symm
   · exact HN.out.b0 h.symm
   · exact HN.out.m0 h.symm
  have hc4X : cellsAt wX b4 frZ := (HB49.out.only (still_drew _) fun e => e).only hstX.only (off0 _ H0C.out.2.1)
  have hc12X := (H9.out.1.only (still_drew w9) fun e => e).only hstX.only (off0 _ H0C.out.1)
  have HC4X := Lib.hid (And.intro hc4X (show cX b4 = 0 from by
   rw [hstX.old b4 (HB49.out.only (still_drew _) fun e => e).lt]
   exact H0C.out.2.1))
  clear hstX hDX hPX hEL off0 hHeld
  go_wp2_with fail
  refine hK.out _ _ ⟨hc12X, _, rfl, hc4X⟩ (fun hNew => ?_)
  clear hc4X hc12X
  (clear hK K; try go_frame)
  refine wpAnyD_ready (rs := [5]) (by kernel_rfl) (by simp) ?_
  refine ReadyD.cons rfl (fun K hK => ?_) ?_
  rw [if_pos (by rfl)]
  refine wp_store_mid 100 _ _ rfl b4 0 #[u0, u1', u2', u3', .int .i64 z, .bool false, .int .i64 0] rfl rfl (cellsAt.there0 HC4X.out.1 _ rfl) size_fr (by rw [← Array.all_toList]; exact HONE7.out) ?_
  have hcf := cellsAt.over HC4X.out.1 (#[u0, u1', u2', u3', .int .i64 z, .bool false, .int .i64 0] : Array Value).toList rfl
  have hof := setCells_only wX b4 0 (#[u0, u1', u2', u3', .int .i64 z, .bool false, .int .i64 0] : Array Value).toList
  generalize wX.setCells b4 0 (#[u0, u1', u2', u3', .int .i64 z, .bool false, .int .i64 0] : Array Value).toList = wf at *
  have HF := Lib.hid (And.intro hcf hof)
  refine hK.out _ _ ⟨hNew.1.only hof (fun e => H0C.out.2.2 e), _, rfl, hcf⟩ (fun hNew2 => ?_)
  clear hcf hof hNew
  (clear hK K; try go_frame)
  refine wpAnyD_ready (rs := [6]) (by kernel_rfl) (by simp) ?_
  refine ReadyD.cons rfl (fun K hK => ?_) ?_
  go_simp
  refine hK.out _ _ hNew2 (fun hNew3 => ?_)
  clear hNew2 hNew3
  (clear hK K; try go_frame)
  refine wpAnyD_done (by kernel_rfl) ?_ _
  rotate_left
  exact ReadyD.nil
  exact ReadyD.nil
  exact ReadyD.nil
  go_wp2_with fail
  have F2 := Lib.hid (show GtPost c a b m r w pb d t cf (s.get cf (kn : Int)) (.returned (.tuple #[.agg #[u0, u1', u2', u3', .int .i64 z, .bool false, .int .i64 0], .int .i64 EL])) wf from by
   rw [HGE.out, HEL.out]
   obtain ⟨hstX, hDX, hPX⟩ := HXX.out
   have hb4w : w.heap.size ≤ b4 := Nat.le_of_eq HB.out
   have hsc : Stp (fun i => i = 0) (fun _ => False) cX cX wX wf := Stp.owns hDX.low (HF.out.2.mono fun g e => by
    have e' : g = b4 := e
    show cX g = 0
    rw [e']
    exact HC4X.out.2)
   have hst1 : Stp (fun i => i = a ∨ i = b ∨ i = m) (fun i => i = a ∨ i = m ∨ i = r) c cX w wX := (HST0.out.1.trans (Stp.still HST0.out.2 (still_drew w9))).trans hstX
   refine ⟨u0, u1', u2', u3', by rw [← HZP.out.1], cX, hst1.scratch HF.out.2 hb4w, hDX.keep hsc HN.out.a0 HN.out.b0 (fun e => e) (fun e => e) HN.out.a0 HN.out.b0, hPX.keep hDX.low hsc HN.out.m0 HN.out.r0 (fun e => e) HN.out.m0 HN.out.r0, ?_⟩
   have hp1 := (HPG9.out.still (still_drew w9)).only hstX.only fun g hg e => by
    have e' : paint c N r g = r := hg
    rw [e'] at e
    rcases e with e | e | e
    · exact HN.out.ar e.symm
    · exact HN.out.br e.symm
    · exact HN.out.mr e.symm
   refine (hp1.only HF.out.2 fun g hg e => ?_).mono fun g hg => ?_
   · have e' : g = b4 := e
     have e1 : paint c N r g = r := hg
     rw [e', H0C.out.2.1] at e1
     exact HN.out.r0 e1.symm
   · exact hstX.sub (fun g hg => by have := HST0.out.2 g hg; exact this) HN.out.r0 g hg)
  have z0 : wf.cell? ⟨b4, 0, none⟩ = some (u0) := HF.out.1.cell 0
  have z1 : wf.cell? ⟨b4, 1, none⟩ = some (u1') := HF.out.1.cell 1
  have z2 : wf.cell? ⟨b4, 2, none⟩ = some (u2') := HF.out.1.cell 2
  have z3 : wf.cell? ⟨b4, 3, none⟩ = some (u3') := HF.out.1.cell 3
  have z4 : wf.cell? ⟨b4, 4, none⟩ = some (.int .i64 z) := HF.out.1.cell 4
  have z5 : wf.cell? ⟨b4, 5, none⟩ = some (.bool false) := HF.out.1.cell 5
  have z6 : wf.cell? ⟨b4, 6, none⟩ = some (.int .i64 0) := HF.out.1.cell 6
  exact bodyPost_ret (v := .tuple #[.agg #[u0, u1', u2', u3', .int .i64 z, .bool false, .int .i64 0], .int .i64 EL]) (by simp [results, Tryz.results43, go_sem, z0, z1, z2, z3, z4, z5, z6]) rfl F2.out
end
end Go.Proofs.YtlcfoeikamkpmaaGreat

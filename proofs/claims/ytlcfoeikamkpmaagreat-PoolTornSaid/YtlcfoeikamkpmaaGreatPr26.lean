/- A cell of a page of a pool is set. Conditions: the pool, the disk and the trail lie in memory, apart; the bytes too. Dirty pages, sorted by the library: what a sort is, plain; the rows in memory. Conditions: a slice that may be written. Dirty pages, sorted by the library. Conditions: at most twelve, in a slice that may be written. Dirty pages, sorted by the library's SortFunc. Conditions: at most twelve, in a slice that may be written. -/
import Derived.Test.YtlcfoeikamkpmaaGreatPr25
import Derived.BigRegion
import Derived.WalkSmall
import Derived.StillTailTactics
namespace Go.Proofs.YtlcfoeikamkpmaaGreat
open Go.RowKit Go.Wh Go.Maps

section
variable {c : Nat → Nat} {a b m r : Nat} {w : World} {d : Nat} {t : Option Nat} {cf : PCf} {s : PSt}
theorem cellsAt.pre {w : World} {b : Nat} {l1 l2 : List Value} (h : cellsAt w b (l1 ++ l2)) (m : List Value) (hm : l1.length = m.length) : cellsAt (w.setCells b 0 m) b (m ++ l2) := by
 have key : ∀ (m l : List Value) (w : World) (o : Nat) (t : TypeId) (pre : List Value), pre.length = o → l.length = m.length → w.heap[b]? = some (.cells (pre ++ l ++ l2).toArray t (0, 0)) → (w.setCells b o m).heap[b]? = some (.cells (pre ++ m ++ l2).toArray t (0, 0)) := fun m => by
  induction m with
  | nil =>
   intro l w o t pre _ hl hb
   have : l = [] := List.eq_nil_of_length_eq_zero hl
   subst this
   exact hb
  | cons u m ih =>
   intro l w o t pre ho hl hb
   match l, hl with
   | x :: l, hl =>
    have e : (w.setCell ⟨b, o, none⟩ u).heap[b]? = some (.cells ((pre ++ [u]) ++ l ++ l2).toArray t (0, 0)) := by
     simp [World.setCell, Array.getElem?_modify, hb, ← ho]
    have := ih l (w.setCell ⟨b, o, none⟩ u) (o + 1) t (pre ++ [u]) (by simp [ho]) (by simpa using hl) e
    rw [List.append_assoc pre [u] m] at this
    exact this
 obtain ⟨t, hb⟩ := h
 exact ⟨t, key m l1 w 0 t [] rfl hm (by simpa using hb)⟩
theorem get_may (k : Int) (h : (s.get cf k).1 = 0) : cf.may k = true := by
 unfold PSt.get at h
 by_cases hm : cf.may k = false
 · rw [if_pos hm] at h
   cases h
 · simpa using hm
theorem set_ok {p : PPg} (h : p.ok) {i : Nat} {bl : List Int} (hl : bl = [] ∨ bl.length = 26) (hb : Byt bl) (z : Int) : (p.set i bl z).ok := by
 unfold PPg.set
 refine ⟨by show (p.c.set i bl).length = 4; rw [List.length_set]; exact h.four, fun l hx => ?_, fun l hx => ?_⟩
 · rcases List.mem_or_eq_of_mem_set hx with hx | rfl
   · exact h.each l hx
   · exact hl
 · rcases List.mem_or_eq_of_mem_set hx with hx | rfl
   · exact h.byt l hx
   · exact hb
set_option maxHeartbeats 4000000 in
set_option maxRecDepth 100000 in
theorem pset_any (hD : Dt c a b w d t cf s) (hf : Dif a b m r) {pb : Nat} (hP : PoAt c m r w pb d t cf s.H) (i k : Int) {R : Nat → Prop} {x : Value} {bl : List Int} (hx : Sl w R 1 x bl.length (bc bl)) (hR : ∀ g, R g → c g = 0) (hbb : Byt bl) (y : Int) :
 Calls Tryz.prog 17 #[.pointer (some ⟨pb, 0, none⟩), .int .i64 i, .int .i64 k, x, .int .i64 y] w (PoPost c a b m r w pb d t cf (.int .i64 (s.set cf i k bl y).1) (s.set cf i k bl y).2) := by
 have HGK := Lib.hid (get_ok hD hP.ok i)
 have HGM := Lib.hid (get_may (s := s) (cf := cf) i)
 have HGT := Lib.hid (pget_any hD hf hP i)
 have HD := Lib.hid hD
 have HN := Lib.hid hf
 have HX := Lib.hid (And.intro hx (And.intro hR hbb))
 obtain ⟨xa, xc, rfl⟩ := hx.form
 clear hD hf hP hx hR hbb
 go_enter Tryz.func17, Tryz.ntmps17
 go_wp2_with fail
 refine HGT.out.mono ?_
 intro e w2 hp
 obtain ⟨R, hR⟩ : ∃ R, s.get cf i = R := ⟨_, rfl⟩
 rw [hR] at hp HGK HGM
 obtain ⟨E, f, s'⟩ := R
 obtain ⟨u0, u1', u2', u3', he, c2, hst, hd, hpo, hpg⟩ := hp
 dsimp only at he hd hpo hpg HGK HGM
 obtain ⟨z, hz⟩ : ∃ z, f.p.lsn = z := ⟨_, rfl⟩
 obtain ⟨dd, hdd⟩ : ∃ z, f.dirty = z := ⟨_, rfl⟩
 obtain ⟨rr, hrr⟩ : ∃ z, f.rec_ = z := ⟨_, rfl⟩
 rw [hz, hdd, hrr] at he
 subst he
 have HFZ := Lib.hid (And.intro hz (And.intro hdd hrr))
 have HGR := Lib.hid hR
 have H2 := Lib.hid (And.intro hst (And.intro hd (And.intro hpo hpg)))
 have off0 : ∀ x, c x = 0 → ¬ (c x = a ∨ c x = b ∨ c x = m) := fun x e h => by
  rw [e] at h
  rcases h with h | h | h
  · exact HN.out.a0 h.symm
  · exact HN.out.b0 h.symm
  · exact HN.out.m0 h.symm
 have HX2 := Lib.hid (HX.out.1.only hst.only fun g hg => off0 g (HX.out.2.1 g hg))
 have HONE7 := Lib.hid (show (#[u0, u1', u2', u3', .int .i64 z, .bool dd, .int .i64 rr] : Array Value).toList.all (·.oneCell') = true from by
  have := pg_one hpg
  rw [List.all_eq_true]
  intro y hy
  simp only [List.mem_cons, List.not_mem_nil, or_false] at hy
  rcases hy with rfl | rfl | rfl | rfl | rfl | rfl | rfl
  · exact this _ (by simp)
  · exact this _ (by simp)
  · exact this _ (by simp)
  · exact this _ (by simp)
  · rfl
  · rfl
  · rfl)
 have HC11 := Lib.hid (fun w tt => cellsAt_new w frZ tt)
 clear hst hd hpo hpg hz hdd hrr off0 hR HGT
 go_upto_region 2 with ((with_reducible (show wpList _ _ _ ({ dst := none, op := Op.store 100 _ _, type := _, pos := _, after := _, guard := _ } :: _) _ _)); (refine wpList_storeAgg rfl 100 _ _ rfl w2.heap.size #[u0, u1', u2', u3', .int .i64 z, .bool dd, .int .i64 rr] rfl rfl (HC11.out _ _) size_fr rfl HONE7.out ?_; intro w3 hcf hof hzf; have H3 := Lib.hid (And.intro hcf (And.intro hof hzf)); clear hcf hof hzf))
 obtain ⟨b11, hb11⟩ : ∃ b, w2.heap.size = b := ⟨_, rfl⟩
 rw [hb11] at H3
 rw [hb11]
 have HS23 := Lib.hid (show Still w2 w3 from ((Still.refl w2).alloc _).andThen H3.out.2.1 fun x hx e => by have e' : x = b11 := e; omega)
 have HST3 := Lib.hid (H2.out.1.trans (Stp.still H2.out.2.1.low HS23.out))
 have HDP3 := Lib.hid (show Dt c2 a b w3 d t cf s' ∧ PoAt c2 m r w3 pb d t cf s'.H from ⟨H2.out.2.1.still HS23.out HN.out.a0 HN.out.b0, H2.out.2.2.1.still H2.out.2.1.low HS23.out HN.out.m0 HN.out.r0⟩)
 have HB11 := Lib.hid (show c2 b11 = 0 ∧ w.heap.size ≤ b11 from ⟨Classical.byContradiction fun e => by have := H2.out.2.1.low b11 e; omega, by have := H2.out.1.only.size; omega⟩)
 clear hb11 HC11 HONE7
 by_cases hE : E = 0
 rotate_left
 · have F := Lib.hid (show PoPost c a b m r w pb d t cf (.int .i64 (s.set cf i k bl y).1) (s.set cf i k bl y).2 (.returned (.int .i64 E)) w3 from by
    have : s.set cf i k bl y = (E, s') := by
     unfold PSt.set
     rw [HGR.out, if_pos hE]
    rw [this]
    exact ⟨rfl, c2, HST3.out, HDP3.out.1, HDP3.out.2⟩)
   have d1 : (E != 0) = true := bne_iff_ne.2 hE
   clear hE
   go_wp2_with fail
   go_ret
   exact F.out
 subst hE
 have HOKF := Lib.hid (HGK.out rfl)
 have hmay := HGM.out rfl
 unfold PCf.may at hmay
 simp only [Bool.and_eq_true, decide_eq_true_eq] at hmay
 have HMI := Lib.hid hmay
 clear hmay HGK HGM
 obtain ⟨bn, hbn⟩ : ∃ n, bl.length = n := ⟨_, rfl⟩
 rw [hbn]
 have HBN := Lib.hid hbn
 by_cases hbad : k < 0 ∨ 4 ≤ k ∨ (bn ≠ 0 ∧ bn ≠ 26)
 · have F := Lib.hid (show PoPost c a b m r w pb d t cf (.int .i64 (s.set cf i k bl y).1) (s.set cf i k bl y).2 (.returned (.int .i64 1)) w3 from by
    have : s.set cf i k bl y = (1, s') := by
     unfold PSt.set
     rw [HGR.out, if_neg (fun e => e rfl), if_pos (by rw [hbn]; exact hbad)]
    rw [this]
    exact ⟨rfl, c2, HST3.out, HDP3.out.1, HDP3.out.2⟩)
   clear hbn
   have hb' : k < 0 ∨ (0 ≤ k ∧ 4 ≤ k) ∨ ((0 ≤ k ∧ k < 4) ∧ bn ≠ 0 ∧ bn ≠ 26) := by omega
   clear hbad
   rcases hb' with h | ⟨h1, h⟩ | ⟨⟨h1, h2⟩, h3, h4⟩
   · go_wp2_with fail
     go_ret
     exact F.out
   · go_wp2_with fail
     go_ret
     exact F.out
   · have e1 : ¬ (bn : Int) = 0 := by omega
     have e2 : ¬ (bn : Int) = 26 := by omega
     have e3 : ((bn : Int) != 0) = true := bne_iff_ne.2 e1
     have e4 : ((bn : Int) != 26) = true := bne_iff_ne.2 e2
     go_wp2_with fail
     go_ret
     exact F.out
 have hk0 : 0 ≤ k := by omega
 have hk4 : k < 4 := by omega
 obtain ⟨kn, rfl⟩ : ∃ kn : Nat, k = (kn : Int) := ⟨k.toNat, by omega⟩
 have hbn26 : bn = 0 ∨ bn = 26 := by omega
 have HKN := Lib.hid (show kn < 4 ∧ (bl = [] ∨ bl.length = 26) from ⟨by omega, by
  rcases hbn26 with e | e
  · exact .inl (List.eq_nil_of_length_eq_zero (hbn.trans e))
  · exact .inr (hbn.trans e)⟩)
 have HBAD := Lib.hid (show ¬ ((kn : Int) < 0 ∨ 4 ≤ (kn : Int) ∨ (bl.length ≠ 0 ∧ bl.length ≠ 26)) from by rw [hbn]; exact hbad)
 have q4 : w3.cell? ⟨b11, 4, none⟩ = some (.int .i64 z) := H3.out.1.cell 4
 clear hbad hbn
 by_cases hle : y ≤ z
 · have F := Lib.hid (show PoPost c a b m r w pb d t cf (.int .i64 (s.set cf i (kn : Int) bl y).1) (s.set cf i (kn : Int) bl y).2 (.returned (.int .i64 0)) w3 from by
    have : s.set cf i (kn : Int) bl y = (0, s') := by
     unfold PSt.set
     rw [HGR.out, if_neg (fun e => e rfl), if_neg HBAD.out, if_pos (by rw [HFZ.out.1]; exact hle)]
    rw [this]
    exact ⟨rfl, c2, HST3.out, HDP3.out.1, HDP3.out.2⟩)
   rcases hbn26 with rfl | rfl
   all_goals
    go_wp2_with fail
    go_ret
    exact F.out
 have HSE0 := Lib.hid (show s.set cf i (kn : Int) bl y = (0, { s' with H := (s'.H.put PFr.void i ⟨f.p.set kn bl y, true, if dd = true then rr else y⟩).2 }) from by
  unfold PSt.set
  rw [HGR.out, if_neg (fun e => e rfl), if_neg HBAD.out, if_neg (by rw [HFZ.out.1]; exact hle), HFZ.out.2.1, HFZ.out.2.2]
  rfl)
 have hlt : z < y := by omega
 have HX3 := Lib.hid (HX2.out.still HS23.out)
 have HPG3 := Lib.hid (H2.out.2.2.2.still HS23.out)
 have HOKS := Lib.hid (set_ok HOKF.out (i := kn) HKN.out.2 HX.out.2.2 y)
 have HLS := Lib.hid (show Calls Tryz.prog 45 #[.agg #[u0, u1', u2', u3', .int .i64 z], .int .i64 (kn : Int), .slice xa bn xc, .int .i64 y] w3 (TwPost w3 y (f.p.c.set kn bl)) from by
  have := lset_any w3 u0 u1' u2' u3' z y f.p.c HPG3.out (fun l hl => by
   rcases HOKF.out.each l hl with e | e
   · rw [e]; exact Nat.zero_le _
   · omega) kn HKN.out.1 (.slice xa bl.length xc) bl HX3.out (by rcases HKN.out.2 with e | e <;> first | omega | (rw [e]; exact Nat.zero_le _)) hlt
  rw [HBN.out] at this
  exact this)
 have HRG := Lib.hid (show w3.rangeAt b11 0 [u0, u1', u2', u3', .int .i64 z] from fun j u hj => by
  rw [Nat.zero_add, H3.out.1.cell j]
  rcases (show j = 0 ∨ j = 1 ∨ j = 2 ∨ j = 3 ∨ j = 4 from by have := (List.getElem?_eq_some_iff.1 hj).1; simp at this; omega) with rfl | rfl | rfl | rfl | rfl <;> exact hj)
 have HMK := Lib.hid (show 0 ≤ i ∧ i < cf.pages from HMI.out)
 have hle' : ¬ y ≤ z := hle
 clear hle hlt
 rcases hbn26 with rfl | rfl
 all_goals
  go_upto_region 8 with fail
  clear q4 hle'
  go_wp2_with ((with_reducible (show wpList _ _ _ ({ dst := some 44, op := _, type := _, pos := _, after := _, guard := _ } :: _) _ _)); (refine wpList_load_mid rfl 36 _ rfl b11 0 rfl [u0, u1', u2', u3', .int .i64 z] _ HRG.out Tryz.underlying36 rfl size_page ?_))
  refine HLS.out.mono ?_
  rintro e w4 ⟨x0, x1, x2, x3, rfl, hpg4, hs4⟩
  have HS34 := Lib.hid hs4
  have HONE5 := Lib.hid (show (#[x0, x1, x2, x3, .int .i64 y] : Array Value).all (·.oneCell') = true from by
   have := pg_one hpg4
   rw [← Array.all_toList, List.all_eq_true]
   intro y hy
   simp only [List.mem_cons, List.not_mem_nil, or_false] at hy
   rcases hy with rfl | rfl | rfl | rfl | rfl
   · exact this _ (by simp)
   · exact this _ (by simp)
   · exact this _ (by simp)
   · exact this _ (by simp)
   · rfl)
  have HB114 := Lib.hid (H3.out.1.only hs4 fun e => e)
  obtain ⟨N, hN⟩ : ∃ N : Nat → Prop, N = fun x => w3.heap.size ≤ x ∧ x < w4.heap.size := ⟨_, rfl⟩
  have hcN : ∀ x, N x → c2 x = 0 := fun x hx => Classical.byContradiction fun e => by
   rw [hN] at hx
   have := HDP3.out.1.low x e
   omega
  obtain ⟨hD4, hP4, hst4, hsub4⟩ := paint_sys HDP3.out.1 HN.out HDP3.out.2 hs4 hcN (fun x hx => by rw [hN] at hx; exact hx)
  have hpg5 : PgIs w4 (fun x => Cs (paint c2 N r) r x ∧ x ≠ b11) [x0, x1, x2, x3] (f.p.c.set kn bl) := by
   refine PgIs.mono (Q := fun x => w3.heap.size ≤ x ∧ x < w4.heap.size) ⟨hpg4.n, hpg4.m, fun j v l h1 h2 => (hpg4.at_ j v l h1 h2).low⟩ fun x hx => ⟨paint_in (by rw [hN]; exact hx), fun e => ?_⟩
   have := H3.out.1.lt
   omega
  have h11 : paint c2 N r b11 = 0 := by
   rw [paint_out (fun e => by rw [hN] at e; have := H3.out.1.lt; omega)]
   exact HB11.out.1
  obtain ⟨c3, hc3⟩ : ∃ c3, paint c2 N r = c3 := ⟨_, rfl⟩
  rw [hc3] at hD4 hP4 hst4 hpg5 h11
  have H4 := Lib.hid (And.intro hD4 (And.intro hP4 (And.intro (HST3.out.trans hst4) (And.intro hpg5 h11))))
  clear hs4 hpg4 hcN hN hD4 hP4 hst4 hsub4 hpg5 h11 hc3 HLS HRG
  have HTH := Lib.hid (show w4.there b11 0 5 from fun j hj => by
   rw [Nat.zero_add]
   refine ⟨?_, HB114.out.free j⟩
   rw [HB114.out.cell j, List.getElem?_eq_getElem (by simp; omega)]
   rfl)
  go_upto_region 9 with ((with_reducible (show wpList _ _ _ ({ dst := none, op := Op.store 36 _ _, type := _, pos := _, after := _, guard := _ } :: _) _ _)); (refine wpList_store_mid rfl 36 _ _ rfl b11 0 #[x0, x1, x2, x3, .int .i64 y] rfl rfl HTH.out size_page HONE5.out ?_))
  have HC5 := Lib.hid (show cellsAt (w4.setCells b11 0 (#[x0, x1, x2, x3, .int .i64 y] : Array Value).toList) b11 [x0, x1, x2, x3, .int .i64 y, .bool dd, .int .i64 rr] from
   cellsAt.pre (l1 := [u0, u1', u2', u3', .int .i64 z]) (l2 := [.bool dd, .int .i64 rr]) HB114.out [x0, x1, x2, x3, .int .i64 y] rfl)
  have HO5 := Lib.hid (setCells_only w4 b11 0 (#[x0, x1, x2, x3, .int .i64 y] : Array Value).toList)
  generalize w4.setCells b11 0 (#[x0, x1, x2, x3, .int .i64 y] : Array Value).toList = w5 at *
  have HEND := Lib.hid (fun (w6 : World) (ho : Only (fun x => x = b11) w4 w6) => show Stp (fun i => i = a ∨ i = b ∨ i = m) (fun i => i = a ∨ i = m ∨ i = r) c c3 w w6 ∧ Dt c3 a b w6 d t cf s' ∧ PoAt c3 m r w6 pb d t cf s'.H ∧ PgIs w6 (Cs c3 r) [x0, x1, x2, x3] (f.p.c.set kn bl) from by
   obtain ⟨q1, q2, q3, q4, q5⟩ := H4.out
   have hsc : Stp (fun i => i = 0) (fun _ => False) c3 c3 w4 w6 := Stp.owns q1.low (ho.mono fun x e => by
    have e' : x = b11 := e
    show c3 x = 0
    rw [e']
    exact q5)
   exact ⟨q3.scratch ho HB11.out.2, q1.keep hsc HN.out.a0 HN.out.b0 (fun e => e) (fun e => e) HN.out.a0 HN.out.b0, q2.keep q1.low hsc HN.out.m0 HN.out.r0 (fun e => e) HN.out.m0 HN.out.r0, (q4.only ho fun g hg e => hg.2 e).mono fun g hg => hg.1⟩)
  have q5 : w5.cell? ⟨b11, 5, none⟩ = some (.bool dd) := HC5.out.cell 5
  have q6 : w5.cell? ⟨b11, 6, none⟩ = some (.int .i64 rr) := HC5.out.cell 6
  have f5 : w5.frozen? ⟨b11, 5, none⟩ = false := HC5.out.free 5
  have f6 : w5.frozen? ⟨b11, 6, none⟩ = false := HC5.out.free 6
  cases hdc : dd with
  | true =>
   rw [hdc] at q5 HC5
   have HSE := Lib.hid (show s.set cf i (kn : Int) bl y = (0, { s' with H := (s'.H.put PFr.void i ⟨f.p.set kn bl y, true, rr⟩).2 }) from by
    rw [HSE0.out, hdc]
    rfl)
   obtain ⟨k1, k2, k3, k4⟩ := HEND.out w5 HO5.out
   have HSTW := Lib.hid k1
   have HDW := Lib.hid k2
   have HPW := Lib.hid k3
   have HPGW := Lib.hid k4
   have HB11W := Lib.hid (And.intro HC5.out H4.out.2.2.2.2)
   clear k1 k2 k3 k4 hdc f5 f6 q6
   have hpoW := HPW.out
   obtain ⟨⟨hb2, g2, o2, n2, cap2, Hv2, hcp2, hha2, hrel2, cpb2, chb2, cg2, npb2, npg2⟩, hoks2⟩ := hpoW
   have HH2 := Lib.hid (And.intro hha2 (And.intro hrel2 (And.intro cg2 (And.intro cpb2 (And.intro chb2 (And.intro hcp2 (And.intro npb2 (And.intro npg2 hoks2))))))))
   have HPUT := Lib.hid (fun w' (hs : Still w5 w') => hput_any (hha2.still hs) i x0 x1 x2 x3 (.int .i64 y) (.bool true) (.int .i64 rr) (fun u hu => by
    have := pg_one HPGW.out
    simp only [List.mem_cons, List.not_mem_nil, or_false] at hu
    rcases hu with rfl | rfl | rfl | rfl | rfl | rfl | rfl
    · exact this _ (by simp)
    · exact this _ (by simp)
    · exact this _ (by simp)
    · exact this _ (by simp)
    · rfl
    · rfl
    · rfl))
   have p4 : (w5).cell? ⟨pb, 4, none⟩ = some (.pointer (some ⟨hb2, 0, none⟩)) := hcp2.cell 4
   have HSS := Lib.hid (show (w5).drew.cell? ⟨pb, 4, none⟩ = some (.pointer (some ⟨hb2, 0, none⟩)) ∧ cellsAt (w5).drew b11 [x0, x1, x2, x3, .int .i64 y, .bool true, .int .i64 rr] from ⟨p4, HB11W.out.1⟩)
   clear hha2 hrel2 cg2 cpb2 chb2 hcp2 npb2 npg2 hoks2 p4
   go_upto_region 11 with fail
   refine wp_region_D_drew (D := (fun i => false)) (S := (fun w' => w'.cell? ⟨pb, 4, none⟩ = some (.pointer (some ⟨hb2, 0, none⟩)) ∧ cellsAt w' b11 [x0, x1, x2, x3, .int .i64 y, .bool true, .int .i64 rr])) (by kernel_rfl) ?_ (fun hHeld => ?_)
   · exact HSS.out
   (refine takeS (i := 0) (some 56) (v := ?_) rfl (by rfl) (by rfl) (by kernel_rfl) (by rfl) (fun _ _ _ h => h) hHeld ?_ ?_; rotate_left; (intro w hSw; go_simp; try with_reducible rfl); try go_frame)
   (refine takeS (i := 1) (some 57) (v := ?_) rfl (by rfl) (by rfl) (by kernel_rfl) (by rfl) (fun _ _ _ h => h) hHeld ?_ ?_; rotate_left; (intro w hSw; go_simp; try with_reducible rfl); try go_frame)
   (refine takeS (i := 2) (some 58) (v := ?_) rfl (by rfl) (by rfl) (by kernel_rfl) (by rfl) (fun _ _ _ h => h) hHeld ?_ ?_; rotate_left; (intro w hSw; go_simp; try with_reducible rfl); try go_frame)
   (refine takeS (i := 3) (some 59) (v := .pointer (some ⟨hb2, 0, none⟩)) rfl (by rfl) (by rfl) (by kernel_rfl) (by rfl) (fun _ _ _ h => h) hHeld ?_ ?_; (intro w hSw; have c := hSw.1; go_simp); try go_frame)
   (refine takeS (i := 4) (some 60) (v := ?_) rfl (by rfl) (by rfl) (by kernel_rfl) (by rfl) (fun _ _ _ h => h) hHeld ?_ ?_; rotate_left; (intro w hSw; go_simp; try with_reducible rfl); try go_frame)
   (refine takeS (i := 5) (some 61) (v := .agg #[x0, x1, x2, x3, .int .i64 y, .bool true, .int .i64 rr]) rfl (by rfl) (by rfl) (by kernel_rfl) (by rfl) (fun _ _ _ h => h) hHeld ?_ ?_; (intro w hSw; exact exec_load7 rfl rfl hSw.2 rfl); try go_frame)
   refine wpAnyD_ready (rs := [6]) (by kernel_rfl) (by simp) ?_
   refine ReadyD.cons rfl (fun K hK => ?_) ?_
   go_simp
   (go_at_call 46; (with_reducible refine (HPUT.out _ (still_drew _)).mono ?_))
   rintro e w9 ⟨rfl, hha9, ho9⟩
   have ho19 : Only (fun x => x = hb2 ∨ x = g2) w5 w9 := ((still_drew w5).mono fun _ e => e.elim).trans ho9
   have F := Lib.hid (show PoPost c a b m r w pb d t cf (.int .i64 (s.set cf i (kn : Int) bl y).1) (s.set cf i (kn : Int) bl y).2 (.returned (.int .i64 0)) w9 from by
    rw [HSE.out]
    obtain ⟨q1, q2, q3, q4, q5, q6, q7, q8, q9⟩ := HH2.out
    have hX : ∀ x, (x = hb2 ∨ x = g2) → c3 x = m := fun x e => by
     rcases e with rfl | rfl
     · exact q5
     · exact q3
    have hst6 : Stp (fun i => i = a ∨ i = b ∨ i = m) (fun i => i = a ∨ i = m ∨ i = r) c3 c3 w5 w9 := Stp.own (i := m) HDW.out.low (ho19.mono hX) (.inr (.inr rfl))
    have hst7 : Stp (fun i => i = m) (fun i => i = m) c3 c3 w5 w9 := Stp.own (i := m) HDW.out.low (ho19.mono hX) rfl
    have offr : ∀ x, Cs c3 r x → ¬ (x = hb2 ∨ x = g2) := fun x e1 e2 => by
     have e1' : c3 x = r := e1
     rw [hX x e2] at e1'
     exact HN.out.mr e1'
    have hfr : FrIs w9 (Cs c3 r) [x0, x1, x2, x3, .int .i64 y, .bool true, .int .i64 rr] ⟨f.p.set kn bl y, true, rr⟩ := ⟨x0, x1, x2, x3, rfl, HPGW.out.only ho19 offr⟩
    have hput := (q2.mono fun v f hv => hv.only ho19 offr).put (a := frZ) (b := PFr.void) (k := i) FrIs.void hfr
    refine ⟨rfl, c3, HSTW.out.trans hst6, (HDW.out.keep hst7 HN.out.am HN.out.bm HN.out.am HN.out.bm HN.out.a0 HN.out.b0).hand _, ⟨hb2, g2, o2, n2, cap2, _, q6.only ho19 (fun e => e.elim q7 q8), hha9, hput.2.2.2, q4, q5, q3, q7, q8⟩, fun x hx => ?_⟩
    rcases put_mem hx with ⟨h1, h2⟩ | ⟨yy, hy, h1, h2⟩
    · rw [h1, h2]
      exact ⟨HOKS.out, HMK.out.1, by have := HMK.out.2; omega⟩
    · have := q9 yy hy
      rw [h1]
      refine ⟨?_, this.2⟩
      rcases h2 with h2 | h2
      · rw [h2]; exact this.1
      · rw [h2]; exact HOKS.out)
   have hh9 : w9.cell? ⟨pb, 4, none⟩ = some (.pointer (some ⟨hb2, 0, none⟩)) ∧ cellsAt w9 b11 [x0, x1, x2, x3, .int .i64 y, .bool true, .int .i64 rr] := by
    obtain ⟨q1, q2, q3, q4, q5, q6, q7, q8, q9⟩ := HH2.out
    refine ⟨(q6.only ho19 (fun e => e.elim q7 q8)).cell 4, HB11W.out.1.only ho19 fun e => ?_⟩
    have := HB11W.out.2
    rcases e with e | e
    · have e' : b11 = hb2 := e
      rw [e', q5] at this
      exact HN.out.m0 this
    · have e' : b11 = g2 := e
      rw [e', q3] at this
      exact HN.out.m0 this
   clear hha9 ho9 ho19 hHeld
   go_wp2_with fail
   refine hK.out _ _ hh9 (fun hNew => ?_)
   clear hh9 hNew
   (clear hK K; try go_frame)
   refine wpAnyD_done (by kernel_rfl) ?_ _
   rotate_left
   exact ReadyD.nil
   go_wp2_with fail
   go_ret
   exact F.out
  | false =>
   rw [hdc] at q5 HC5
   have HSE := Lib.hid (show s.set cf i (kn : Int) bl y = (0, { s' with H := (s'.H.put PFr.void i ⟨f.p.set kn bl y, true, y⟩).2 }) from by
    rw [HSE0.out, hdc]
    rfl)
   have ho6 : Only (fun x => x = b11) w4 ((w5.setCell ⟨b11, 5, none⟩ (.bool true)).setCell ⟨b11, 6, none⟩ (.int .i64 y)) := (HO5.out.trans (setCell_only w5 ⟨b11, 5, none⟩ _)).trans (setCell_only _ ⟨b11, 6, none⟩ _)
   have hc6 : cellsAt ((w5.setCell ⟨b11, 5, none⟩ (.bool true)).setCell ⟨b11, 6, none⟩ (.int .i64 y)) b11 [x0, x1, x2, x3, .int .i64 y, .bool true, .int .i64 y] := (HC5.out.setCell 5 (.bool true)).setCell 6 (.int .i64 y)
   obtain ⟨k1, k2, k3, k4⟩ := HEND.out _ ho6
   have HSTW := Lib.hid k1
   have HDW := Lib.hid k2
   have HPW := Lib.hid k3
   have HPGW := Lib.hid k4
   have HB11W := Lib.hid (And.intro hc6 H4.out.2.2.2.2)
   clear k1 k2 k3 k4 hdc ho6 hc6
   go_upto_region 11 with fail
   clear q5 q6 f5 f6
   generalize (w5.setCell ⟨b11, 5, none⟩ (.bool true)).setCell ⟨b11, 6, none⟩ (.int .i64 y) = w6 at *
   have hpoW := HPW.out
   obtain ⟨⟨hb2, g2, o2, n2, cap2, Hv2, hcp2, hha2, hrel2, cpb2, chb2, cg2, npb2, npg2⟩, hoks2⟩ := hpoW
   have HH2 := Lib.hid (And.intro hha2 (And.intro hrel2 (And.intro cg2 (And.intro cpb2 (And.intro chb2 (And.intro hcp2 (And.intro npb2 (And.intro npg2 hoks2))))))))
   have HPUT := Lib.hid (fun w' (hs : Still w6 w') => hput_any (hha2.still hs) i x0 x1 x2 x3 (.int .i64 y) (.bool true) (.int .i64 y) (fun u hu => by
    have := pg_one HPGW.out
    simp only [List.mem_cons, List.not_mem_nil, or_false] at hu
    rcases hu with rfl | rfl | rfl | rfl | rfl | rfl | rfl
    · exact this _ (by simp)
    · exact this _ (by simp)
    · exact this _ (by simp)
    · exact this _ (by simp)
    · rfl
    · rfl
    · rfl))
   have p4 : (w6).cell? ⟨pb, 4, none⟩ = some (.pointer (some ⟨hb2, 0, none⟩)) := hcp2.cell 4
   have HSS := Lib.hid (show (w6).drew.cell? ⟨pb, 4, none⟩ = some (.pointer (some ⟨hb2, 0, none⟩)) ∧ cellsAt (w6).drew b11 [x0, x1, x2, x3, .int .i64 y, .bool true, .int .i64 y] from ⟨p4, HB11W.out.1⟩)
   clear hha2 hrel2 cg2 cpb2 chb2 hcp2 npb2 npg2 hoks2 p4
   refine wp_region_D_drew (D := (fun i => false)) (S := (fun w' => w'.cell? ⟨pb, 4, none⟩ = some (.pointer (some ⟨hb2, 0, none⟩)) ∧ cellsAt w' b11 [x0, x1, x2, x3, .int .i64 y, .bool true, .int .i64 y])) (by kernel_rfl) ?_ (fun hHeld => ?_)
   · exact HSS.out
   (refine takeS (i := 0) (some 56) (v := ?_) rfl (by rfl) (by rfl) (by kernel_rfl) (by rfl) (fun _ _ _ h => h) hHeld ?_ ?_; rotate_left; (intro w hSw; go_simp; try with_reducible rfl); try go_frame)
   (refine takeS (i := 1) (some 57) (v := ?_) rfl (by rfl) (by rfl) (by kernel_rfl) (by rfl) (fun _ _ _ h => h) hHeld ?_ ?_; rotate_left; (intro w hSw; go_simp; try with_reducible rfl); try go_frame)
   (refine takeS (i := 2) (some 58) (v := ?_) rfl (by rfl) (by rfl) (by kernel_rfl) (by rfl) (fun _ _ _ h => h) hHeld ?_ ?_; rotate_left; (intro w hSw; go_simp; try with_reducible rfl); try go_frame)
   (refine takeS (i := 3) (some 59) (v := .pointer (some ⟨hb2, 0, none⟩)) rfl (by rfl) (by rfl) (by kernel_rfl) (by rfl) (fun _ _ _ h => h) hHeld ?_ ?_; (intro w hSw; have c := hSw.1; go_simp); try go_frame)
   (refine takeS (i := 4) (some 60) (v := ?_) rfl (by rfl) (by rfl) (by kernel_rfl) (by rfl) (fun _ _ _ h => h) hHeld ?_ ?_; rotate_left; (intro w hSw; go_simp; try with_reducible rfl); try go_frame)
   (refine takeS (i := 5) (some 61) (v := .agg #[x0, x1, x2, x3, .int .i64 y, .bool true, .int .i64 y]) rfl (by rfl) (by rfl) (by kernel_rfl) (by rfl) (fun _ _ _ h => h) hHeld ?_ ?_; (intro w hSw; exact exec_load7 rfl rfl hSw.2 rfl); try go_frame)
   refine wpAnyD_ready (rs := [6]) (by kernel_rfl) (by simp) ?_
   refine ReadyD.cons rfl (fun K hK => ?_) ?_
   go_simp
   (go_at_call 46; (with_reducible refine (HPUT.out _ (still_drew _)).mono ?_))
   rintro e w9 ⟨rfl, hha9, ho9⟩
   have ho19 : Only (fun x => x = hb2 ∨ x = g2) w6 w9 := ((still_drew w6).mono fun _ e => e.elim).trans ho9
   have F := Lib.hid (show PoPost c a b m r w pb d t cf (.int .i64 (s.set cf i (kn : Int) bl y).1) (s.set cf i (kn : Int) bl y).2 (.returned (.int .i64 0)) w9 from by
    rw [HSE.out]
    obtain ⟨q1, q2, q3, q4, q5, q6, q7, q8, q9⟩ := HH2.out
    have hX : ∀ x, (x = hb2 ∨ x = g2) → c3 x = m := fun x e => by
     rcases e with rfl | rfl
     · exact q5
     · exact q3
    have hst6 : Stp (fun i => i = a ∨ i = b ∨ i = m) (fun i => i = a ∨ i = m ∨ i = r) c3 c3 w6 w9 := Stp.own (i := m) HDW.out.low (ho19.mono hX) (.inr (.inr rfl))
    have hst7 : Stp (fun i => i = m) (fun i => i = m) c3 c3 w6 w9 := Stp.own (i := m) HDW.out.low (ho19.mono hX) rfl
    have offr : ∀ x, Cs c3 r x → ¬ (x = hb2 ∨ x = g2) := fun x e1 e2 => by
     have e1' : c3 x = r := e1
     rw [hX x e2] at e1'
     exact HN.out.mr e1'
    have hfr : FrIs w9 (Cs c3 r) [x0, x1, x2, x3, .int .i64 y, .bool true, .int .i64 y] ⟨f.p.set kn bl y, true, y⟩ := ⟨x0, x1, x2, x3, rfl, HPGW.out.only ho19 offr⟩
    have hput := (q2.mono fun v f hv => hv.only ho19 offr).put (a := frZ) (b := PFr.void) (k := i) FrIs.void hfr
    refine ⟨rfl, c3, HSTW.out.trans hst6, (HDW.out.keep hst7 HN.out.am HN.out.bm HN.out.am HN.out.bm HN.out.a0 HN.out.b0).hand _, ⟨hb2, g2, o2, n2, cap2, _, q6.only ho19 (fun e => e.elim q7 q8), hha9, hput.2.2.2, q4, q5, q3, q7, q8⟩, fun x hx => ?_⟩
    rcases put_mem hx with ⟨h1, h2⟩ | ⟨yy, hy, h1, h2⟩
    · rw [h1, h2]
      exact ⟨HOKS.out, HMK.out.1, by have := HMK.out.2; omega⟩
    · have := q9 yy hy
      rw [h1]
      refine ⟨?_, this.2⟩
      rcases h2 with h2 | h2
      · rw [h2]; exact this.1
      · rw [h2]; exact HOKS.out)
   have hh9 : w9.cell? ⟨pb, 4, none⟩ = some (.pointer (some ⟨hb2, 0, none⟩)) ∧ cellsAt w9 b11 [x0, x1, x2, x3, .int .i64 y, .bool true, .int .i64 y] := by
    obtain ⟨q1, q2, q3, q4, q5, q6, q7, q8, q9⟩ := HH2.out
    refine ⟨(q6.only ho19 (fun e => e.elim q7 q8)).cell 4, HB11W.out.1.only ho19 fun e => ?_⟩
    have := HB11W.out.2
    rcases e with e | e
    · have e' : b11 = hb2 := e
      rw [e', q5] at this
      exact HN.out.m0 this
    · have e' : b11 = g2 := e
      rw [e', q3] at this
      exact HN.out.m0 this
   clear hha9 ho9 ho19 hHeld
   go_wp2_with fail
   refine hK.out _ _ hh9 (fun hNew => ?_)
   clear hh9 hNew
   (clear hK K; try go_frame)
   refine wpAnyD_done (by kernel_rfl) ?_ _
   rotate_left
   exact ReadyD.nil
   go_wp2_with fail
   go_ret
   exact F.out
end
end Go.Proofs.YtlcfoeikamkpmaaGreat

namespace Go.Proofs.YtlcfoeikamkpmaaGreat
open Go.RowKit Go.Wh Go.Maps

structure Drt where
 p : Int
 r : Int
deriving DecidableEq
def dl (a b : Drt) : Bool := decide (a.p < b.p)
theorem dl_asymm {a b : Drt} (h : dl a b = true) : dl b a = false := by
 unfold dl at *
 simp only [decide_eq_true_eq, decide_eq_false_iff_not] at *
 omega
theorem dl_ge {a b c : Drt} (h1 : dl b a = false) (h2 : dl c b = false) : dl c a = false := by
 unfold dl at *
 simp only [decide_eq_false_iff_not] at *
 omega
def dsc (s : Drt) : List Value := [.int .i64 s.p, .int .i64 s.r]
def dflat (l : List Drt) : List Value := l.flatMap dsc
theorem dflat_cons (s : Drt) (l : List Drt) : dflat (s :: l) = .int .i64 s.p :: .int .i64 s.r :: dflat l := rfl
theorem dflat_append (l m : List Drt) : dflat (l ++ m) = dflat l ++ dflat m := by simp [dflat]
theorem dflat_length (l : List Drt) : (dflat l).length = l.length * 2 := by
 induction l with
 | nil => rfl
 | cons s l ih => rw [dflat_cons]; simp [ih]; omega

theorem dflat_at (F : List Drt) (s : Drt) (G : List Drt) : (dflat (F ++ s :: G))[F.length * 2]? = some (.int .i64 s.p) ∧ (dflat (F ++ s :: G))[F.length * 2 + 1]? = some (.int .i64 s.r) := by
 rw [dflat_append, dflat_cons]
 have e := dflat_length F
 refine ⟨?_, ?_⟩ <;> rw [List.getElem?_append_right (by omega), e]
 · simp
 · rw [Nat.add_sub_cancel_left]; rfl

theorem dset_behind (A B : List Value) (n k : Nat) (v : Value) (h : A.length = n) : (A ++ B).set (n + k) v = A ++ B.set k v := by
 rw [List.set_append_right _ _ (by omega), h, Nat.add_sub_cancel_left]

def DSorted (l : List Drt) : Prop := l.Pairwise fun a b => dl b a = false
def DDistinct (l : List Drt) : Prop := l.Pairwise fun a b => a.p ≠ b.p

theorem DDistinct.perm {l m : List Drt} (h : DDistinct l) (hp : l.Perm m) : DDistinct m := (hp.pairwise_iff (fun {_ _} h => Ne.symm h)).1 h

theorem DSorted.insert {P Q : List Drt} {x : Drt} (h : DSorted (P ++ Q)) (h1 : ∀ q ∈ Q, dl x q = true) (h2 : ∀ y P', P = P' ++ [y] → dl x y = false) : DSorted (P ++ x :: Q) := by
 unfold DSorted at h ⊢
 obtain ⟨hP, hQ, hPQ⟩ := List.pairwise_append.1 h
 refine List.pairwise_append.2 ⟨hP, List.pairwise_cons.2 ⟨fun q hq => dl_asymm (h1 q hq), hQ⟩, fun a ha b hb => ?_⟩
 rcases List.mem_cons.1 hb with rfl | hb
 · have hne : P ≠ [] := fun e => by rw [e] at ha; cases ha
   have e := (List.dropLast_concat_getLast hne).symm
   have hy := h2 _ _ e
   rw [e] at ha hP
   rcases List.mem_append.1 ha with ha | ha
   · have := (List.pairwise_append.1 hP).2.2 a ha _ (List.mem_singleton.2 rfl)
     exact dl_ge this hy
   · rw [List.mem_singleton.1 ha]
     exact hy
 · exact hPQ a ha b hb

def DSortPost (w : World) (v : Value) (n : Nat) (A M C : List Drt) (e : Ending) (w' : World) : Prop :=
 e = .returned (.tuple #[]) ∧ ∃ M', M'.Perm M ∧ DSorted M' ∧ Vec w' 2 v n (dflat (A ++ M' ++ C)) ∧ Only (fun k => v.ownBlock = some k) w w'

structure DTwo (w : World) (g o q : Nat) (y x : Drt) : Prop where
 c0 : w.cell? ⟨g, o + q * 2, none⟩ = some (.int .i64 y.p)
 c1 : w.cell? ⟨g, o + q * 2 + 1, none⟩ = some (.int .i64 y.r)
 d0 : w.cell? ⟨g, o + (q + 1) * 2, none⟩ = some (.int .i64 x.p)
 d1 : w.cell? ⟨g, o + (q + 1) * 2 + 1, none⟩ = some (.int .i64 x.r)
 e0 : w.frozen? ⟨g, o + q * 2, none⟩ = false
 e1 : w.frozen? ⟨g, o + q * 2 + 1, none⟩ = false
 f0 : w.frozen? ⟨g, o + (q + 1) * 2, none⟩ = false
 f1 : w.frozen? ⟨g, o + (q + 1) * 2 + 1, none⟩ = false
theorem dtwo_of {w : World} {g o n cap : Nat} {F G : List Drt} {y x : Drt} (h : VecAt w 2 g o n cap (dflat (F ++ y :: x :: G))) : DTwo w g o F.length y x := by
 have hl := h.len
 rw [dflat_length] at hl
 have hn : F.length + 2 ≤ n := by simp at hl; omega
 have a := dflat_at F y (x :: G)
 have b := dflat_at (F ++ [y]) x G
 rw [List.append_assoc] at b
 have e : (F ++ [y]).length = F.length + 1 := by simp
 rw [e] at b
 have C : ∀ j, j < n * 2 → w.cell? ⟨g, o + j, none⟩ = (dflat (F ++ y :: x :: G))[j]? := h.cells
 have R : ∀ j, j < n * 2 → w.frozen? ⟨g, o + j, none⟩ = false := fun j hj => h.free j hj
 refine ⟨?_, ?_, ?_, ?_, ?_, ?_, ?_, ?_⟩
 · rw [C _ (by omega)]; exact a.1
 · rw [Nat.add_assoc, C _ (by omega)]; exact a.2
 · rw [C _ (by omega)]; exact b.1
 · rw [Nat.add_assoc, C _ (by omega)]; exact b.2
 · exact R _ (by omega)
 · rw [Nat.add_assoc]; exact R _ (by omega)
 · exact R _ (by omega)
 · rw [Nat.add_assoc]; exact R _ (by omega)
theorem DTwo.below {w w' : World} {g o q : Nat} {y x : Drt} (h : DTwo w g o q y x) (hb : Below w.heap.size w w') : DTwo w' g o q y x := by
 have hg : g < w.heap.size := lt_of_cell h.c0
 have C : ∀ j v, w.cell? ⟨g, j, none⟩ = some v → w'.cell? ⟨g, j, none⟩ = some v := fun j v hv => (hb.cell (p := ⟨g, j, none⟩) hg).trans hv
 have R : ∀ j, w.frozen? ⟨g, j, none⟩ = false → w'.frozen? ⟨g, j, none⟩ = false := fun j hv => (hb.frozen (p := ⟨g, j, none⟩) hg).trans hv
 exact ⟨C _ _ h.c0, C _ _ h.c1, C _ _ h.d0, C _ _ h.d1, R _ h.e0, R _ h.e1, R _ h.f0, R _ h.f1⟩
theorem dset_behind0 (A B : List Value) (n : Nat) (v : Value) (h : A.length = n) : (A ++ B).set n v = A ++ B.set 0 v := by
 have := dset_behind A B n 0 v h
 simpa using this

theorem dswapped {w : World} {g o n cap : Nat} {F G : List Drt} {y x : Drt} (h : VecAt w 2 g o n cap (dflat (F ++ y :: x :: G))) :
 VecAt ((((w.setCell ⟨g, o + (F.length + 1) * 2, none⟩ (.int .i64 y.p)).setCell ⟨g, o + (F.length + 1) * 2 + 1, none⟩ (.int .i64 y.r)).setCell ⟨g, o + F.length * 2, none⟩ (.int .i64 x.p)).setCell ⟨g, o + F.length * 2 + 1, none⟩ (.int .i64 x.r))
  2 g o n cap (dflat (F ++ x :: y :: G)) := by
 have hl := h.len
 rw [dflat_length] at hl
 have hn : F.length + 2 ≤ n := by simp at hl; omega
 have h1 := h.set ((F.length + 1) * 2) (by omega) (.int .i64 y.p)
 have h2 := h1.set ((F.length + 1) * 2 + 1) (by omega) (.int .i64 y.r)
 have h4 := h2.set (F.length * 2) (by omega) (.int .i64 x.p)
 have h5 := h4.set (F.length * 2 + 1) (by omega) (.int .i64 x.r)
 simp only [← Nat.add_assoc] at h5
 have e := dflat_length F
 have e3 : (F.length + 1) * 2 = F.length * 2 + 2 := by omega
 rw [e3, dflat_append, dflat_cons, dflat_cons] at h5
 rw [e3, dflat_append, dflat_cons, dflat_cons]
 simp only [Nat.add_assoc, Nat.reduceAdd] at h5 ⊢
 rw [dset_behind _ _ _ _ _ e, dset_behind _ _ _ _ _ e, dset_behind0 _ _ _ _ e, dset_behind _ _ _ _ _ e] at h5
 exact h5
structure DOutRel (w : World) (g o n cap : Nat) (A M C : List Drt) (i : Nat) (X Y : List Drt) (wr : World) : Prop where
 at_ : i = A.length + X.length
 one : 1 ≤ X.length
 over : X.length + Y.length = M.length
 perm : (X ++ Y).Perm M
 sorted : DSorted X
 vec : VecAt wr 2 g o n cap (dflat (A ++ (X ++ Y) ++ C))
 only : Only (fun k => k = g) w wr

structure DInRel (w : World) (g o n cap : Nat) (A M C : List Drt) (i j : Nat) (P Q : List Drt) (x : Drt) (Y : List Drt) (wr : World) : Prop where
 at_ : j = A.length + P.length
 is : i = A.length + P.length + Q.length
 over : P.length + Q.length + 1 + Y.length = M.length
 perm : (P ++ x :: Q ++ Y).Perm M
 sorted : DSorted (P ++ Q)
 less : ∀ q ∈ Q, dl x q = true
 vec : VecAt wr 2 g o n cap (dflat (A ++ (P ++ x :: Q ++ Y) ++ C))
 only : Only (fun k => k = g) w wr

theorem DInRel.start {w : World} {g o n cap : Nat} {A M C : List Drt} {i : Nat} {X Y : List Drt} {x : Drt} {wr : World} (h : DOutRel w g o n cap A M C i X (x :: Y) wr) : DInRel w g o n cap A M C i i X [] x Y wr :=
 ⟨h.at_, by simpa using h.at_, by have := h.over; simp at this ⊢; omega, by have := h.perm; simpa using this, by simpa using h.sorted, by simp, by have := h.vec; simpa using this, h.only⟩

theorem DInRel.end_ {w : World} {g o n cap : Nat} {A M C : List Drt} {i j : Nat} {P Q : List Drt} {x : Drt} {Y : List Drt} {wr : World} (h : DInRel w g o n cap A M C i j P Q x Y wr) (h2 : ∀ y P', P = P' ++ [y] → dl x y = false) : DOutRel w g o n cap A M C (i + 1) (P ++ x :: Q) Y wr :=
 ⟨by rw [h.is]; simp; omega, by simp; omega, by have := h.over; simp; omega, h.perm, h.sorted.insert h.less h2, h.vec, h.only⟩

theorem DInRel.two {w : World} {g o n cap : Nat} {A M C : List Drt} {i j : Nat} {P Q : List Drt} {x y : Drt} {Y : List Drt} {wr : World} (h : DInRel w g o n cap A M C i j (P ++ [y]) Q x Y wr) : DTwo wr g o (A.length + P.length) y x := by
 have hv := h.vec
 rw [show A ++ (P ++ [y] ++ x :: Q ++ Y) ++ C = (A ++ P) ++ y :: x :: (Q ++ Y ++ C) by simp] at hv
 have := dtwo_of hv
 simpa using this

theorem DInRel.same {w : World} {g o n cap : Nat} {A M C : List Drt} {i j : Nat} {P Q : List Drt} {x : Drt} {Y : List Drt} {wr w1 : World} (h : DInRel w g o n cap A M C i j P Q x Y wr) (hb : Below wr.heap.size wr w1) : DInRel w g o n cap A M C i j P Q x Y w1 := by
 refine ⟨h.at_, h.is, h.over, h.perm, h.sorted, h.less, ?_, h.only.andThen (Only.ofBelow (S := fun _ => False) hb) (fun _ _ h => h.elim)⟩
 have hl := h.vec.len
 rw [dflat_length] at hl
 have h1 := h.vec.le
 exact h.vec.block (hb.block g (h.vec.lt (by simp at hl; omega)))

theorem DInRel.down {w : World} {g o n cap : Nat} {A M C : List Drt} {i j q : Nat} {P Q : List Drt} {x y : Drt} {Y : List Drt} {wr : World} (h : DInRel w g o n cap A M C i j (P ++ [y]) Q x Y wr) (hq : q = A.length + P.length) (hb : dl x y = true) :
 DInRel w g o n cap A M C i q P (y :: Q) x Y
  ((((wr.setCell ⟨g, o + (q + 1) * 2, none⟩ (.int .i64 y.p)).setCell ⟨g, o + (q + 1) * 2 + 1, none⟩ (.int .i64 y.r)).setCell ⟨g, o + q * 2, none⟩ (.int .i64 x.p)).setCell ⟨g, o + q * 2 + 1, none⟩ (.int .i64 x.r)) := by
 have hv := h.vec
 rw [show A ++ (P ++ [y] ++ x :: Q ++ Y) ++ C = (A ++ P) ++ y :: x :: (Q ++ Y ++ C) by simp] at hv
 have hs := dswapped hv
 rw [List.length_append, ← hq] at hs
 refine ⟨hq, by rw [h.is]; simp; omega, by have := h.over; simp at this ⊢; omega, ?_, by have := h.sorted; simpa using this, fun z hz => ?_, ?_,
  (((h.only.setCell (by left; rfl) _).setCell (by left; rfl) _).setCell (by left; rfl) _).setCell (by left; rfl) _⟩
 · refine List.Perm.trans ?_ h.perm
   simp only [List.append_assoc, List.cons_append, List.nil_append]
   exact List.Perm.append_left P (List.Perm.swap _ _ _)
 · rcases List.mem_cons.1 hz with rfl | hz
   · exact hb
   · exact h.less z hz
 · rw [show A ++ (P ++ x :: (y :: Q) ++ Y) ++ C = (A ++ P) ++ x :: y :: (Q ++ Y ++ C) by simp]
   exact hs

theorem DOutRel.same {w : World} {g o n cap : Nat} {A M C : List Drt} {i : Nat} {X Y : List Drt} {wr w1 : World} (h : DOutRel w g o n cap A M C i X Y wr) (hb : Below wr.heap.size wr w1) : DOutRel w g o n cap A M C i X Y w1 := by
 refine ⟨h.at_, h.one, h.over, h.perm, h.sorted, ?_, h.only.andThen (Only.ofBelow (S := fun _ => False) hb) (fun _ _ h => h.elim)⟩
 have hl := h.vec.len
 rw [dflat_length] at hl
 have h1 := h.vec.le
 have h2 := h.one
 exact h.vec.block (hb.block g (h.vec.lt (by simp at hl; omega)))

theorem DOutRel.done {w : World} {g o n cap : Nat} {A M C : List Drt} {i : Nat} {X Y : List Drt} {wr : World} (h : DOutRel w g o n cap A M C i X Y wr) (hi : A.length + M.length ≤ i) : DSortPost w (.slice (some ⟨g, o, none⟩) n cap) n A M C (.returned (.tuple #[])) wr := by
 have hy : Y = [] := by
  have h1 := h.at_
  have h2 := h.over
  exact List.eq_nil_of_length_eq_zero (by omega)
 subst hy
 refine ⟨rfl, X, by simpa using h.perm, h.sorted, .inr ⟨g, o, cap, rfl, by simpa using h.vec⟩, h.only.mono fun i hi => by rw [hi]; rfl⟩
end Go.Proofs.YtlcfoeikamkpmaaGreat

namespace Go.Proofs.YtlcfoeikamkpmaaGreat
open Go.RowKit Go.Wh Go.Maps

theorem isNaN_i (x : Int) (w : World) : Calls Tryz.prog 85 #[.int .i64 x] w fun e w' => e = .returned (.bool false) ∧ w = w' := by
 go_enter Tryz.func85, Tryz.ntmps85
 go_wp2_with fail
 go_ret
 exact ⟨rfl, rfl⟩
def dcmp (a b : Drt) : Int := if a.p < b.p then -1 else if b.p < a.p then 1 else 0
theorem icompare_any (a b : Drt) (w : World) : Calls Tryz.prog 54 #[.int .i64 a.p, .int .i64 b.p] w fun e w' => e = .returned (.int .i64 (dcmp a b)) ∧ w = w' := by
 obtain ⟨x, r1⟩ := a
 obtain ⟨y, r2⟩ := b
 unfold dcmp
 dsimp only
 by_cases h1 : x < y
 · rw [if_pos h1]
   go_enter Tryz.func54, Tryz.ntmps54
   go_wp2_with fail
   refine (isNaN_i x _).mono ?_
   rintro e w1 ⟨rfl, rfl⟩
   go_wp2_with fail
   refine (isNaN_i y _).mono ?_
   rintro e w1 ⟨rfl, rfl⟩
   go_wp2_with fail
   go_ret
   exact ⟨rfl, rfl⟩
 · rw [if_neg h1]
   by_cases h2 : y < x
   · rw [if_pos h2]
     go_enter Tryz.func54, Tryz.ntmps54
     go_wp2_with fail
     refine (isNaN_i x _).mono ?_
     rintro e w1 ⟨rfl, rfl⟩
     go_wp2_with fail
     refine (isNaN_i y _).mono ?_
     rintro e w1 ⟨rfl, rfl⟩
     go_wp2_with fail
     go_ret
     exact ⟨rfl, rfl⟩
   · rw [if_neg h2]
     go_enter Tryz.func54, Tryz.ntmps54
     go_wp2_with fail
     refine (isNaN_i x _).mono ?_
     rintro e w1 ⟨rfl, rfl⟩
     go_wp2_with fail
     refine (isNaN_i y _).mono ?_
     rintro e w1 ⟨rfl, rfl⟩
     go_wp2_with fail
     go_ret
     exact ⟨rfl, rfl⟩
theorem dless_any (a b : Drt) (w : World) : Calls Tryz.prog 53 #[.agg #[.int .i64 a.p, .int .i64 a.r], .agg #[.int .i64 b.p, .int .i64 b.r]] w fun e w' => e = .returned (.int .i64 (dcmp a b)) ∧ Below w.heap.size w w' := by
 have hbel : Below w.heap.size w ((w.alloc (Obj.cells #[.int .i64 a.p, .int .i64 a.r] 49)).alloc (Obj.cells #[.int .i64 b.p, .int .i64 b.r] 49)) :=
  ((Below.refl _ _).alloc (Nat.le_refl _) _).alloc (by simp) _
 have HB := Lib.hid hbel
 clear hbel
 go_enter Tryz.func53, Tryz.ntmps53
 go_wp2_with fail
 refine (icompare_any a b _).mono ?_
 rintro e w' ⟨rfl, rfl⟩
 go_wp2_with fail
 go_ret
 exact ⟨rfl, HB.out⟩
theorem dcf (args : Array Value) (w : World) : (callFunc 53 args).run Tryz.prog w = .ok (.enter 53 args) w := by kernel_rfl
set_option maxRecDepth 100000 in
set_option maxHeartbeats 2000000 in
theorem dsort_any (g o n cap : Nat) (A : List Drt) (m0 : Drt) (M C : List Drt) (w : World) (h : VecAt w 2 g o n cap (dflat (A ++ (m0 :: M) ++ C))) (hn : n ≤ 10000) :
 Calls Tryz.prog 103 #[.slice (some ⟨g, o, none⟩) n cap, .int .i64 A.length, .int .i64 ((A.length + (m0 :: M).length : Nat) : Int), .func (.func 53) #[] #[]] w
  (DSortPost w (.slice (some ⟨g, o, none⟩) n cap) n A (m0 :: M) C) := by
 have hlen : A.length + (m0 :: M).length ≤ n := by
  have := h.len
  rw [dflat_length] at this
  simp at this
  simp
  omega
 have h0 : DOutRel w g o n cap A (m0 :: M) C (A.length + 1) [m0] M w := ⟨rfl, by simp, by simp; omega, List.Perm.refl _, by simp [DSorted], by simpa using h, Only.refl _ _⟩
 have H0 := Lib.hid h0
 clear h h0
 have hcf := dcf
 have HEND := Lib.hid (fun i X Y wr (h : DOutRel w g o n cap A (m0 :: M) C i X Y wr) (hi : A.length + (m0 :: M).length ≤ i) => h.done hi)
 generalize hb : A.length + (m0 :: M).length = b at hlen HEND
 have hab : A.length < b := by simp at hb; omega
 have HBE := Lib.hid hb
 clear hb
 have HA := Lib.hid (show ∀ i X Y wr, DOutRel w g o n cap A (m0 :: M) C i X Y wr → i = A.length + X.length from fun _ _ _ _ h => h.at_)
 go_enter Tryz.func103, Tryz.ntmps103
 go_wp2_with fail
 go_loopw [8] (fun s wr => ∃ (i : Nat) (X Y : List Drt), s = .int .i64 i ∧ i ≤ 20000 ∧ DOutRel w g o n cap A (m0 :: M) C i X Y wr) (fun s _ => b - (intOf s).toNat)
 case atStart => exact ⟨A.length + 1, [m0], M, by go_num, by omega, H0.out⟩
 case round =>
  clear H0
  obtain ⟨i, X, Y, rfl, hi, hr⟩ := hrel
  by_cases hib : i < b
  · obtain ⟨x, Y, rfl⟩ : ∃ x Y', Y = x :: Y' := by
     cases Y with
     | nil =>
      have h1 := hr.at_
      have h2 := hr.over
      have h3 := HBE.out
      simp at h2 h3
      omega
     | cons x Y => exact ⟨x, Y, rfl⟩
    have HI := Lib.hid (DInRel.start hr)
    clear hr HA
    go_wp2_with fail
    obtain ⟨wo, rfl⟩ : ∃ wo : World, wo = wr := ⟨_, rfl⟩
    go_loopw [9] (fun s wr => ∃ (j : Nat) (P Q : List Drt), s = .int .i64 j ∧ j ≤ 20000 ∧ DInRel w g o n cap A (m0 :: M) C i j P Q x Y wr) (fun s _ => (intOf s).toNat)
    case atStart => exact ⟨i, X, [], rfl, hi, HI.out⟩
    case round =>
     clear HI
     clear X
     obtain ⟨j, P, Q, rfl, hj, hr⟩ := hrel
     rcases List.eq_nil_or_concat P with rfl | ⟨P, y, rfl⟩
     · have hja : j = A.length := by have := hr.at_; simpa using this
       have HE := Lib.hid (hr.end_ (fun y P' h => by simp at h))
       have hd : decide ((A.length : Int) < (j : Int)) = false := by simp; omega
       clear hr HEND HBE
       subst hja
       clear hd
       have hd : decide ((A.length : Int) < (A.length : Int)) = false := by simp
       go_wp2_with fail
       go_quiet (fail)
       go_wp2_with fail
       go_roundw
       case rel => exact ⟨i + 1, _, _, by go_num, by omega, HE.out.same (below_drewN (Below.refl _ _) _)⟩
       case measure => simp [intOf]; omega
     · obtain ⟨q, hq⟩ : ∃ q, q = A.length + P.length := ⟨_, rfl⟩
       rw [List.concat_eq_append] at hr
       have hjq : j = q + 1 := by have := hr.at_; simp at this; omega
       subst hjq
       have h2 := hr.two
       rw [← hq] at h2
       have hqn : q + 1 < n := by
        have h3 := hr.vec.len
        rw [dflat_length] at h3
        simp at h3
        omega
       have hqa : A.length ≤ q := by omega
       have HQ := Lib.hid hq
       clear hq
       have HR := Lib.hid hr
       clear hr HEND HBE
       have c0 := h2.c0
       have c1 := h2.c1
       have d0 := h2.d0
       have d1 := h2.d1
       have hd : decide ((A.length : Int) < (q : Int) + 1) = true := by simp; omega
       go_wp2_with fail
       have a1 : (0 : Int) ≤ (q : Int) + 1 := by omega
       have a2 : (q : Int) + 1 < (n : Int) := by omega
       have a3 : (0 : Int) ≤ (q : Int) := by omega
       have a4 : (q : Int) < (n : Int) := by omega
       have a6 : IntKind.i64.wrap (q : Int) = (q : Int) := IntWalk.i64_in _ (by omega)
       have a5 : ((q : Int) + 1).toNat = q + 1 := by omega
       go_still_tail 14, (by kernel_rfl)
       change wpList _ _ _ _ _ wr.drew
       go_wp2_with fail
       clear a1 a2 a3 a4 a5 a6 c0 c1 d0 d1
       have H2 := Lib.hid h2
       clear h2
       refine (dless_any x y _).mono ?_
       rintro e w1 ⟨rfl, hB⟩
       have HR1 := Lib.hid (HR.out.same (below_undrew hB))
       have H21 := Lib.hid (H2.out.below (below_undrew hB))
       clear HR H2 hB
       cases hbl : dl x y with
       | false =>
        have hge : (0 : Int) ≤ dcmp x y := by
         unfold dl at hbl
         unfold dcmp
         simp only [decide_eq_false_iff_not] at hbl
         rw [if_neg hbl]
         split <;> decide
        generalize dcmp x y = r at hge ⊢
        have HE := Lib.hid (HR1.out.end_ (fun z P' h => by
         have : z = y := by
          have := List.append_inj' h rfl
          simpa using this.2.symm
         rw [this]
         exact hbl))
        clear HR1 H21 hbl
        go_wp2_with fail
        go_roundw
        case rel => exact ⟨i + 1, _, _, by go_num, by omega, HE.out⟩
        case measure => simp [intOf]; omega
       | true =>
        have hlt : dcmp x y = -1 := by
         unfold dl at hbl
         unfold dcmp
         rw [if_pos (by simpa using hbl)]
        rw [hlt]
        have HD := Lib.hid (HR1.out.down HQ.out hbl)
        clear HR1 hlt hbl
        have c0 := H21.out.c0
        have c1 := H21.out.c1
        have d0 := H21.out.d0
        have d1 := H21.out.d1
        have e0 := H21.out.e0
        have e1 := H21.out.e1
        have f0 := H21.out.f0
        have f1 := H21.out.f1
        clear H21
        go_wp2_with fail
        have a1 : (0 : Int) ≤ (q : Int) + 1 := by omega
        have a2 : (q : Int) + 1 < (n : Int) := by omega
        have a3 : (0 : Int) ≤ (q : Int) := by omega
        have a4 : (q : Int) < (n : Int) := by omega
        have a6 : IntKind.i64.wrap (q : Int) = (q : Int) := IntWalk.i64_in _ (by omega)
        have a5 : ((q : Int) + 1).toNat = q + 1 := by omega
        go_region
        clear a1 a2 a3 a4 a5 a6
        go_wp2_with fail
        go_roundw
        case rel => exact ⟨q, _, _, by go_num, by omega, HD.out.same below_drew⟩
        case measure => simp [intOf]
  · have F := Lib.hid (HEND.out i X Y wr hr (by omega))
    clear hr HEND HA
    go_wp2_with fail
    go_end0
    exact F.out
end Go.Proofs.YtlcfoeikamkpmaaGreat

namespace Go.Proofs.YtlcfoeikamkpmaaGreat
open Go.RowKit Go.Wh Go.Maps

theorem dsort_none (v : Value) (w : World) (R : Ending → World → Prop) (hR : R (.returned (.tuple #[])) w) :
 Calls Tryz.prog 103 #[v, .int .i64 0, .int .i64 0, .func (.func 53) #[] #[]] w R := by
 have HR := Lib.hid hR
 clear hR
 go_enter Tryz.func103, Tryz.ntmps103
 go_wp2_with fail
 go_loop [8] (fun s => s = .int .i64 1) (fun _ => 0)
 case atStart => exact rfl
 case round =>
  obtain rfl := hrel
  go_wp2_with fail
  go_end0
  exact HR.out
theorem dsort_all (v : Value) (n : Nat) (l : List Drt) (w : World) (h : Vec w 2 v n (dflat l)) (hl : l.length = n) (hn : n ≤ 10000) :
 Calls Tryz.prog 103 #[v, .int .i64 0, .int .i64 (n : Int), .func (.func 53) #[] #[]] w (DSortPost w v n [] l []) := by
 cases l with
 | nil =>
  simp at hl
  subst hl
  exact dsort_none v w _ ⟨rfl, [], List.Perm.refl _, by simp [DSorted], by simpa using h, Only.refl _ _⟩
 | cons m0 M =>
  obtain ⟨g, o, cap, rfl, hv⟩ := h.form (by simp at hl; omega)
  have := dsort_any g o n cap [] m0 M [] w (by simpa using hv) hn
  simp only [List.length_nil, Nat.zero_add, hl] at this
  exact this
set_option maxHeartbeats 1000000 in
set_option maxRecDepth 100000 in
theorem len64_small (w : World) (n : Nat) (hn : n ≤ 12) : Calls Tryz.prog 112 #[.int .u64 (n : Int)] w (fun e w' => ∃ z : Int, e = .returned (.int .i64 z) ∧ w' = w) := by
 rcases (show n = 0 ∨ n = 1 ∨ n = 2 ∨ n = 3 ∨ n = 4 ∨ n = 5 ∨ n = 6 ∨ n = 7 ∨ n = 8 ∨ n = 9 ∨ n = 10 ∨ n = 11 ∨ n = 12 from by omega) with rfl | rfl | rfl | rfl | rfl | rfl | rfl | rfl | rfl | rfl | rfl | rfl | rfl <;>
 · go_enter Tryz.func112, Tryz.ntmps112
   go_wp2_with fail
   go_ret
   exact ⟨_, rfl, rfl⟩
theorem len_small (w : World) (n : Nat) (hn : n ≤ 12) : Calls Tryz.prog 84 #[.int .u64 (n : Int)] w (fun e w' => ∃ z : Int, e = .returned (.int .i64 z) ∧ w' = w) := by
 have HL := Lib.hid (len64_small w n hn)
 have n0 : (0 : Int) ≤ (n : Int) := by omega
 have n1 : (n : Int) ≤ 12 := by omega
 clear hn
 go_enter Tryz.func84, Tryz.ntmps84
 go_wp2_with fail
 refine HL.out.mono ?_
 rintro e w2 ⟨z, rfl, rfl⟩
 go_wp2_with fail
 go_ret
 exact ⟨_, rfl, rfl⟩
set_option maxHeartbeats 1000000 in
set_option maxRecDepth 100000 in
theorem pdq_small (v : Value) (n : Nat) (l : List Drt) (w : World) (h : Vec w 2 v n (dflat l)) (hl : l.length = n) (hn : n ≤ 12) (z : Int) :
 Calls Tryz.prog 83 #[v, .int .i64 0, .int .i64 (n : Int), .int .i64 z, .func (.func 53) #[] #[]] w (DSortPost w v n [] l []) := by
 have HI := Lib.hid (dsort_all v n l w h hl (by omega))
 have n0 : (0 : Int) ≤ (n : Int) := by omega
 have n1 : (n : Int) ≤ 12 := by omega
 have u1 : IntKind.i64.wrap (n : Int) = (n : Int) := IntWalk.i64_in _ (by omega)
 clear h hl hn
 go_enter Tryz.func83, Tryz.ntmps83
 go_upto_region 2 with fail
 go_loopw [1, 2] (fun s1 s2 wr => s1 = .int .i64 0 ∧ s2 = .int .i64 (n : Int) ∧ w = wr) (fun _ _ _ => 0)
 case atStart => exact ⟨rfl, rfl, rfl⟩
 obtain ⟨rfl, rfl, rfl⟩ := hrel
 go_wp2_with fail
 refine HI.out.mono ?_
 intro e w2 hp
 have HP := Lib.hid hp
 have he := hp.1
 subst he
 clear hp HI
 go_wp2_with fail
 refine bodyPost_ret (results_none rfl _ _ _) rfl ?_
 exact HP.out
set_option maxHeartbeats 1000000 in
set_option maxRecDepth 100000 in
theorem sortf_small (v : Value) (n : Nat) (l : List Drt) (w : World) (h : Vec w 2 v n (dflat l)) (hl : l.length = n) (hn : n ≤ 12) :
 Calls Tryz.prog 52 #[v, .func (.func 53) #[] #[]] w (DSortPost w v n [] l []) := by
 have HI := Lib.hid (fun z => pdq_small v n l w h hl hn z)
 have HL := Lib.hid (len_small w n hn)
 have n0 : (0 : Int) ≤ (n : Int) := by omega
 have n1 : (n : Int) ≤ 12 := by omega
 obtain ⟨va, vc, rfl⟩ := h.form'
 clear h hl hn
 go_enter Tryz.func52, Tryz.ntmps52
 go_wp2_with fail
 refine HL.out.mono ?_
 rintro e w2 ⟨z, rfl, rfl⟩
 go_wp2_with fail
 refine (HI.out z).mono ?_
 intro e w3 hp
 have HP := Lib.hid hp
 have he := hp.1
 subst he
 clear hp HI
 go_wp2_with fail
 go_end0
 exact HP.out
end Go.Proofs.YtlcfoeikamkpmaaGreat

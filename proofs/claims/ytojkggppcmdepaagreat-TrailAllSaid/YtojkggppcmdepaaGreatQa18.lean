/- The document's Scan. Conditions: the bytes lie in memory. The document's writer of entries: PutEntry. Conditions: the entry lies in memory. -/
import Derived.Test.YtojkggppcmdepaaGreatQa17
namespace Go.Proofs.YtojkggppcmdepaaGreat
open Go.RowKit Go.Wh Go.Maps

theorem i64_small {z : Nat} (h : z ≤ 1000000) : IntKind.i64.wrap (z : Int) = (z : Int) := IntWalk.i64_in _ (by omega)
theorem cast_add (a b c : Nat) (h : a + b = c) : (a : Int) + (b : Int) = (c : Int) := by omega
theorem firstB_parts {b : List Int} {m N : Nat} {x y u v : Int} (hx : b[m]? = some x) (hy : b[m + 1]? = some y) (hN : x * 256 + y = (N : Int)) (hu : b[m + 2 + N]? = some u) (hv : b[m + 3 + N]? = some v) :
 firstB (b.drop m) = if u = (sumB ((b.drop (m + 2)).take N) (0, 0)).1 ∧ v = (sumB ((b.drop (m + 2)).take N) (0, 0)).2 then (takeE ((b.drop (m + 2)).take N)).map fun e => (e, N + 4) else none := by
 have h1 := (List.getElem?_eq_some_iff.1 hx)
 have h2 := (List.getElem?_eq_some_iff.1 hy)
 have h3 := (List.getElem?_eq_some_iff.1 hu)
 have h4 := (List.getElem?_eq_some_iff.1 hv)
 obtain ⟨l1, e1⟩ := h1
 obtain ⟨l2, e2⟩ := h2
 obtain ⟨l3, e3⟩ := h3
 obtain ⟨l4, e4⟩ := h4
 have hd : b.drop m = x :: y :: b.drop (m + 2) := by
  rw [List.drop_eq_getElem_cons l1, e1, List.drop_eq_getElem_cons l2, e2]
 have ht : ((b.drop (m + 2)).drop N).take 2 = [u, v] := by
  rw [List.drop_drop, List.drop_eq_getElem_cons l3, e3, show m + 2 + N + 1 = m + 3 + N by omega, List.drop_eq_getElem_cons l4, e4]
  rfl
 rw [hd, firstB_cons, hN, Int.toNat_natCast, if_neg (by rw [List.length_drop]; omega), ht]
 unfold chkB
 simp only [List.cons.injEq, and_true]
theorem firstB_long {b : List Int} {m N : Nat} {x y : Int} (hx : b[m]? = some x) (hy : b[m + 1]? = some y) (hN : x * 256 + y = (N : Int)) (hl : b.length < m + 4 + N) : firstB (b.drop m) = none := by
 obtain ⟨l1, e1⟩ := (List.getElem?_eq_some_iff.1 hx)
 obtain ⟨l2, e2⟩ := (List.getElem?_eq_some_iff.1 hy)
 have hd : b.drop m = x :: y :: b.drop (m + 2) := by
  rw [List.drop_eq_getElem_cons l1, e1, List.drop_eq_getElem_cons l2, e2]
 rw [hd, firstB_cons, hN, Int.toNat_natCast, if_pos (by rw [List.length_drop]; omega)]
set_option maxHeartbeats 8000000 in
set_option maxRecDepth 100000 in
theorem rscan_any (w : World) (Q : Nat → Prop) (bv : Value) (n : Nat) (b : List Int) (hb : Sl w Q 1 bv n (bc b)) (hc : Cap n bv) (hby : Byt b) (hn : n ≤ 100000) :
 Calls Tryz.prog 11 #[bv] w (ScanPost w b) := by
 have hl : b.length = n := by have := hb.1; rw [bc_length] at this; omega
 have H := Lib.hid (And.intro hb (And.intro hc (And.intro hby (And.intro hn hl))))
 obtain ⟨ba, bcp, rfl⟩ := hb.form
 obtain ⟨i0, hi0, hz0, hz1, hz2⟩ := info_parts info_en
 have HI := Lib.hid (And.intro hi0 (And.intro hz0 (And.intro hz1 hz2)))
 clear hb hc hby hn hl hi0 hz0 hz1 hz2
 go_enter Tryz.func11, Tryz.ntmps11
 go_wp2_with fail
 go_loopw [4, 5] (fun s4 s5 wr => ∃ m : Nat, s5 = .int .i64 m ∧ ScRel w b m s4 wr) (fun _ s5 _ => n - (intOf s5).toNat)
 case atStart => exact ⟨0, rfl, [], EnVec.nil, Still.refl _, (fun g e => by cases e), Nat.zero_le _, Nat.le_refl _, by simp⟩
 obtain ⟨m, rfl, es, hev, hst, hown, hm, h4, hsc⟩ := hrel
 obtain ⟨va, vc, rfl⟩ := hev.form
 have hbl := H.out.2.2.2.2
 have HH := Lib.hid (And.intro hev (And.intro hst (And.intro hown (And.intro hm (And.intro h4 hsc)))))
 have HM := Lib.hid (show m ≤ n ∧ n ≤ 100000 from ⟨by omega, H.out.2.2.2.1⟩)
 have FX := Lib.hid (fun w2 (hs2 : Still wr w2) (hf : firstB (b.drop m) = none) => show ScanPost w b (.returned (.tuple #[.slice va es.length vc, .int .i64 (m : Nat)])) w2 from by
  have hs := hsc
  have e0 : scanB (b.length - m + 1) (b.drop m) = ([], 0) := by
   unfold scanB
   rw [hf]
  rw [e0] at hs
  simp only [List.append_nil, Nat.add_zero] at hs
  have hz := hs2.size
  obtain ⟨vs, hv1, hv2⟩ := hev
  refine ⟨_, by rw [← hs], ?_, hst.trans hs2⟩
  rw [← hs]
  exact EnVec.ents (P := fun g => w.heap.size ≤ g ∧ (Value.slice va es.length vc).ownBlock ≠ some g) ⟨vs, hv1.only hs2 (fun _ _ e => e), hv2.only hs2 (fun _ _ e => e)⟩ (fun g hg => hg.1) fun g hg => ⟨(hown g hg).1, by have := (hown g hg).2; omega⟩)
 have HB := Lib.hid (H.out.1.still hst)
 clear hev hst hown hm h4 hsc hbl
 obtain ⟨M2, hM2⟩ : ∃ k, m + 2 = k := ⟨_, rfl⟩
 have HM2 := Lib.hid hM2
 have a2 := cast_add m 2 M2 hM2
 have a2' : (m : Int) + 2 = (M2 : Int) := a2
 have w2' := i64_small (z := M2) (by have := HM.out; omega)
 clear a2 hM2
 by_cases h2 : M2 ≤ n
 rotate_left
 · have d1 : decide ((M2 : Int) ≤ (n : Int)) = false := decide_eq_false (by omega)
   have d2 : decide (M2 ≤ n) = false := decide_eq_false h2
   have F := Lib.hid (FX.out wr (Still.refl _) (firstB_short (by rw [List.length_drop]; have := H.out.2.2.2.2; have := HM2.out; omega)))
   go_wp2_with fail
   go_ret2
   exact F.out
 have d1 : decide ((M2 : Int) ≤ (n : Int)) = true := decide_eq_true (by omega)
 have d2 : decide (M2 ≤ n) = true := decide_eq_true h2
 obtain ⟨x, hx⟩ : ∃ x, b[m]? = some x := ⟨_, List.getElem?_eq_getElem (by have := H.out.2.2.2.2; have := HM2.out; omega)⟩
 obtain ⟨y, hy⟩ : ∃ y, b[m + 1]? = some y := ⟨_, List.getElem?_eq_getElem (by have := H.out.2.2.2.2; have := HM2.out; omega)⟩
 have hxb := H.out.2.2.1 x (List.mem_of_getElem? hx)
 have hyb := H.out.2.2.1 y (List.mem_of_getElem? hy)
 obtain ⟨g, o, c, he, -, -, hcs⟩ := HB.out.pos (by have := HM2.out; omega)
 cases he
 obtain ⟨N, hN⟩ : ∃ N : Nat, x * 256 + y = (N : Int) := ⟨(x * 256 + y).toNat, by omega⟩
 have HXY := Lib.hid (And.intro hx (And.intro hy (And.intro hN (show N ≤ 65535 by omega))))
 have nums := Lib.hid (show IntKind.i64.wrap x = x ∧ IntKind.i64.wrap y = y ∧ IntKind.i64.wrap (x * 256) = x * 256 ∧ IntKind.i64.wrap (x * 256 + y) = x * 256 + y from ⟨IntWalk.i64_in _ (by omega), IntWalk.i64_in _ (by omega), IntWalk.i64_in _ (by omega), IntWalk.i64_in _ (by omega)⟩)
 have i1 : IntKind.i64.wrap ((m : Int) + 1) = (m : Int) + 1 := IntWalk.i64_in _ (by have := HM.out; omega)
 have HI1 := Lib.hid i1
 clear i1
 have p0 : (0 : Int) ≤ (m : Int) := by omega
 have p1 : (0 : Int) ≤ (m : Int) + 1 := by omega
 have p2 : ((m : Int) + 1).toNat = m + 1 := by omega
 have p3 : (m : Int) < (n : Int) := by have := HM2.out; omega
 have p4 : (m : Int) + 1 < (n : Int) := by have := HM2.out; omega
 have r0 : wr.cell? ⟨g, o + m, none⟩ = some (.int .u8 x) := hcs m _ (bc_get hx)
 have r1 : wr.cell? ⟨g, o + (m + 1), none⟩ = some (.int .u8 y) := hcs (m + 1) _ (bc_get hy)
 have r1' : wr.cell? ⟨g, o + m + 1, none⟩ = some (.int .u8 y) := by rw [Nat.add_assoc]; exact r1
 have HCS := Lib.hid hcs
 have HNN := Lib.hid hN
 clear hxb hyb hx hy hcs hN
 go_upto_region 4 with fail
 obtain ⟨n1, n2, n3, n4⟩ := nums.out
 have i1 := HI1.out
 go_quiet (fail)
 clear n1 n2 n3 n4 i1 p1 p2 p3 p4 r0 r1 r1'
 have hsD : Still wr (wr.drewN nq) := (Still.refl wr).drewN nq
 have HSD := Lib.hid hsD
 clear hsD
 generalize wr.drewN nq = w1 at *
 rw [HNN.out]
 obtain ⟨K, hK⟩ : ∃ k, M2 + N = k := ⟨_, rfl⟩
 obtain ⟨M3, hM3⟩ : ∃ k, m + 3 = k := ⟨_, rfl⟩
 obtain ⟨K3, hK3⟩ : ∃ k, M3 + N = k := ⟨_, rfl⟩
 obtain ⟨M4, hM4⟩ : ∃ k, m + 4 = k := ⟨_, rfl⟩
 obtain ⟨K4, hK4⟩ : ∃ k, M4 + N = k := ⟨_, rfl⟩
 have HKS := Lib.hid (And.intro hK (And.intro hM3 (And.intro hK3 (And.intro hM4 hK4))))
 have bK := i64_small (z := K) (by have := HM.out; have := HXY.out.2.2.2; have := HM2.out; omega)
 have b3 := i64_small (z := M3) (by have := HM.out; omega)
 have bK3 := i64_small (z := K3) (by have := HM.out; have := HXY.out.2.2.2; omega)
 have b4 := i64_small (z := M4) (by have := HM.out; omega)
 have bK4 := i64_small (z := K4) (by have := HM.out; have := HXY.out.2.2.2; omega)
 have aK := cast_add M2 N K hK
 have a3 : (m : Int) + 3 = (M3 : Int) := cast_add m 3 M3 hM3
 have aK3 := cast_add M3 N K3 hK3
 have a4 : (m : Int) + 4 = (M4 : Int) := cast_add m 4 M4 hM4
 have aK4 := cast_add M4 N K4 hK4
 clear hK hM3 hK3 hM4 hK4
 by_cases hlen : n < K4
 · have e1 : decide ((n : Int) < (K4 : Int)) = true := decide_eq_true (by omega)
   have e2 : decide (n < K4) = true := decide_eq_true hlen
   have F := Lib.hid (FX.out w1 HSD.out (firstB_long HXY.out.1 HXY.out.2.1 HXY.out.2.2.1 (by have := H.out.2.2.2.2; have := HKS.out; omega)))
   go_wp2_with fail
   go_ret2
   exact F.out
 have e1 : decide ((n : Int) < (K4 : Int)) = false := decide_eq_false (by omega)
 have e2 : decide (n < K4) = false := decide_eq_false hlen
 have HLE := Lib.hid (show K4 ≤ n from by omega)
 obtain ⟨u, hu⟩ : ∃ u, b[K]? = some u := ⟨_, List.getElem?_eq_getElem (by have := H.out.2.2.2.2; have := HKS.out; have := HM2.out; omega)⟩
 obtain ⟨v, hv⟩ : ∃ v, b[K3]? = some v := ⟨_, List.getElem?_eq_getElem (by have := H.out.2.2.2.2; have := HKS.out; omega)⟩
 have hub := H.out.2.2.1 u (List.mem_of_getElem? hu)
 have hvb := H.out.2.2.1 v (List.mem_of_getElem? hv)
 have HFP := Lib.hid (firstB_parts HXY.out.1 HXY.out.2.1 HXY.out.2.2.1 (by rw [show m + 2 + N = K by have := HKS.out.1; have := HM2.out; omega]; exact hu) (by rw [show m + 3 + N = K3 by have := HKS.out; omega]; exact hv))
 obtain ⟨pv, r1, -, -, hp1, hp2⟩ := HB.out.part (P := Tryz.prog) (size := 1) 23 Tryz.underlying23 (fun w => rfl) H.out.2.1 (show M2 ≤ K by have := HKS.out.1; omega) (show K ≤ n by have := HKS.out; have := HM2.out; omega)
 have hps := hp2 wr Q HB.out
 rw [Nat.mul_one, Nat.mul_one, bc_drop, bc_take, show K - M2 = N by have := HKS.out.1; omega] at hps
 rw [show K - M2 = N by have := HKS.out.1; omega] at hp1
 rw [HM2.out] at HFP
 obtain ⟨s, hs⟩ : ∃ s, (b.drop M2).take N = s := ⟨_, rfl⟩
 rw [hs] at hps HFP
 have hsby : Byt s := by rw [← hs]; exact (H.out.2.2.1.drop M2).take N
 have hsl : s.length = N := by rw [← hs, List.length_take, List.length_drop]; have := HKS.out; have := H.out.2.2.2.2; have := HM2.out; omega
 have HSB := Lib.hid (And.intro hsby hsl)
 have HCU := Lib.hid (fun w' (hst : Still wr w') => show w'.cell? ⟨g, o + K, none⟩ = some (.int .u8 u) ∧ w'.cell? ⟨g, o + K3, none⟩ = some (.int .u8 v) from ⟨Still.cell hst (HCS.out K _ (bc_get hu)), Still.cell hst (HCS.out K3 _ (bc_get hv))⟩)
 obtain ⟨pa, pc, rfl⟩ := hps.form
 have HSM := Lib.hid (rsums w1 Q pa N pc s (hps.still HSD.out) hsby (by have := HXY.out.2.2.2; omega))
 have HTE := Lib.hid (rtakeE_any w1 Q (.slice pa N pc) N s (hps.still HSD.out) hp1 hsby (by have := HXY.out.2.2.2; omega))
 obtain ⟨sx, hsx⟩ : ∃ x, (sumB s (0, 0)).1 = x := ⟨_, rfl⟩
 obtain ⟨sy, hsy⟩ : ∃ y, (sumB s (0, 0)).2 = y := ⟨_, rfl⟩
 rw [hsx, hsy] at HSM HFP
 have uw : IntKind.i64.wrap u = u := IntWalk.i64_in _ (by omega)
 have vw : IntKind.i64.wrap v = v := IntWalk.i64_in _ (by omega)
 clear hlen hu hv hub hvb hp1 hp2 hps hs hsby hsl hsx hsy
 go_wp2_with fail
 refine HSM.out.mono ?_
 rintro en w2 ⟨rfl, rfl⟩
 clear HSM
 go_wp2_with fail
 refine HTE.out.mono ?_
 rintro en w3 htp
 obtain ⟨hs3, hres⟩ := htp.split
 have HS3 := Lib.hid (HSD.out.trans hs3)
 have HS3' := Lib.hid hs3
 clear htp hs3 HTE
 have kl : (K : Int) < (n : Int) := by have := HKS.out; have := HLE.out; have := HM2.out; omega
 have kl3 : (K3 : Int) < (n : Int) := by have := HKS.out; have := HLE.out; omega
 have k0 : (0 : Int) ≤ (K : Int) := by omega
 have k03 : (0 : Int) ≤ (K3 : Int) := by omega
 obtain ⟨q1, hq1⟩ : ∃ q, (u != sx) = q := ⟨_, rfl⟩
 obtain ⟨q2, hq2⟩ : ∃ q, (v != sy) = q := ⟨_, rfl⟩
 have HNO := Lib.hid (show q1 = true ∨ q2 = true ∨ takeE s = none → firstB (b.drop m) = none from by
  rw [HFP.out]
  rintro (h | h | h)
  · rw [if_neg]
    rintro ⟨h1, -⟩
    rw [h] at hq1
    simp [h1] at hq1
  · rw [if_neg]
    rintro ⟨-, h1⟩
    rw [h] at hq2
    simp [h1] at hq2
  · rw [h]
    split <;> rfl)
 have HYE := Lib.hid (show ∀ e, q1 = false → q2 = false → takeE s = some e → firstB (b.drop m) = some (e, N + 4) from by
  intro e h1 h2 h3
  rw [HFP.out, if_pos, h3]
  · rfl
  · rw [h1] at hq1
    rw [h2] at hq2
    exact ⟨by simpa using hq1, by simpa using hq2⟩)
 rcases hres with ⟨hf, hen⟩ | ⟨e, ov, nv, mv, lv, dv, pv, hf, rfl, hel⟩
 · have hen2 : en = .returned (.tuple #[.agg #[.int .i64 0, .int .i64 0, .int .i64 0, .int .i64 0, .int .i64 0, .int .i64 0, .int .i64 0, .int .i64 0, .int .i64 0, .int .i64 0, .slice none 0 0, .slice none 0 0, .slice none 0 0, .slice none 0 0, .slice none 0 0, .slice none 0 0], .int .i64 4]) := hen
   subst hen2
   as_aux_lemma =>
    have HF0 := Lib.hid (HNO.out (.inr (.inr hf)))
    have HZN := Lib.hid (fun tt => cellsAt_new w3 zE tt)
    have HWF := Lib.hid (fun tt wf (hof : Only (fun b => b = w3.heap.size) (w3.alloc (.cells #[.int .i64 0, .int .i64 0, .int .i64 0, .int .i64 0, .int .i64 0, .int .i64 0, .int .i64 0, .int .i64 0, .int .i64 0, .int .i64 0, .slice none 0 0, .slice none 0 0, .slice none 0 0, .slice none 0 0, .slice none 0 0, .slice none 0 0] tt)) wf) => show Still wr wf from HS3.out.trans (Only.andThen ((Still.refl w3).alloc _) hof fun i hi e => by have e' : i = w3.heap.size := e; omega))
    clear hf HNO HYE
    go_upto_region 9 with (refine wpList_storeAgg rfl 34 _ _ rfl w3.heap.size #[.int .i64 0, .int .i64 0, .int .i64 0, .int .i64 0, .int .i64 0, .int .i64 0, .int .i64 0, .int .i64 0, .int .i64 0, .int .i64 0, .slice none 0 0, .slice none 0 0, .slice none 0 0, .slice none 0 0, .slice none 0 0, .slice none 0 0] rfl rfl (HZN.out _) size_en rfl rfl ?_; intro wf hcf hof hzf; have HW := Lib.hid (HWF.out _ wf hof); clear hcf hof hzf)
    have F := Lib.hid (FX.out wf HW.out HF0.out)
    obtain ⟨cu, cv⟩ := HCU.out wf HW.out
    cases q1
    rotate_left
    · go_wp2_with fail
      go_ret2
      exact F.out
    cases q2
    rotate_left
    · go_wp2_with fail
      go_ret2
      exact F.out
    go_wp2_with fail
    go_ret2
    exact F.out
 · obtain ⟨oa, oc, na, nc, ma, mc, la, lc, da, dc, xa, xc, rfl, rfl, rfl, rfl, rfl, rfl⟩ := hel.forms
   · have HEL := Lib.hid hel
     have HF := Lib.hid hf
     unfold eV
     have HZN := Lib.hid (fun tt => cellsAt_new w3 zE tt)
     have HWF := Lib.hid (fun tt wf (hcf : cellsAt wf w3.heap.size (#[.int .i64 e.kind, .int .i64 e.txn, .int .i64 e.unit, .int .i64 e.half, .int .i64 e.prev, .int .i64 e.next, .int .i64 e.ap, .int .i64 e.ac, .int .i64 e.tp, .int .i64 e.tc, .slice oa e.old.length oc, .slice na e.new.length nc, .slice ma e.moves.length mc, .slice la e.lives.length lc, .slice da e.dirty.length dc, .slice xa e.opens.length xc] : Array Value).toList) (hof : Only (fun b => b = w3.heap.size) (w3.alloc (.cells #[.int .i64 0, .int .i64 0, .int .i64 0, .int .i64 0, .int .i64 0, .int .i64 0, .int .i64 0, .int .i64 0, .int .i64 0, .int .i64 0, .slice none 0 0, .slice none 0 0, .slice none 0 0, .slice none 0 0, .slice none 0 0, .slice none 0 0] tt)) wf) => show Still wr wf ∧ Still w3 wf ∧ cellsAt wf w3.heap.size (#[.int .i64 e.kind, .int .i64 e.txn, .int .i64 e.unit, .int .i64 e.half, .int .i64 e.prev, .int .i64 e.next, .int .i64 e.ap, .int .i64 e.ac, .int .i64 e.tp, .int .i64 e.tc, .slice oa e.old.length oc, .slice na e.new.length nc, .slice ma e.moves.length mc, .slice la e.lives.length lc, .slice da e.dirty.length dc, .slice xa e.opens.length xc] : Array Value).toList from
      have h : Still w3 wf := Only.andThen ((Still.refl w3).alloc _) hof fun i hi e => by have e' : i = w3.heap.size := e; omega
      ⟨HS3.out.trans h, h, hcf⟩)
     clear hf hel
     go_upto_region 9 with (refine wpList_storeAgg rfl 34 _ _ rfl w3.heap.size #[.int .i64 e.kind, .int .i64 e.txn, .int .i64 e.unit, .int .i64 e.half, .int .i64 e.prev, .int .i64 e.next, .int .i64 e.ap, .int .i64 e.ac, .int .i64 e.tp, .int .i64 e.tc, .slice oa e.old.length oc, .slice na e.new.length nc, .slice ma e.moves.length mc, .slice la e.lives.length lc, .slice da e.dirty.length dc, .slice xa e.opens.length xc] rfl rfl (HZN.out _) size_en rfl rfl ?_; intro wf hcf hof hzf; have HW := Lib.hid (HWF.out _ wf hcf hof); clear hcf hof hzf)
     obtain ⟨cu, cv⟩ := HCU.out wf HW.out.1
     cases q1
     rotate_left
     · have F := Lib.hid (FX.out wf HW.out.1 (HNO.out (.inl rfl)))
       go_wp2_with fail
       go_ret2
       exact F.out
     cases q2
     rotate_left
     · have F := Lib.hid (FX.out wf HW.out.1 (HNO.out (.inr (.inl rfl))))
       go_wp2_with fail
       go_ret2
       exact F.out
     have HFI := Lib.hid (HYE.out e rfl rfl HF.out)
     obtain ⟨vs, hvs, hvv⟩ := HH.out.1
     have HVS := Lib.hid hvs
     have HV2 := Lib.hid (hvv.only HW.out.1 fun _ _ e => e)
     have HNX := Lib.hid (fun (o1 : Obj) v' w' (hv' : Vec w' 16 v' (es.length + 1) (vs.flatten ++ [.int .i64 e.kind, .int .i64 e.txn, .int .i64 e.unit, .int .i64 e.half, .int .i64 e.prev, .int .i64 e.next, .int .i64 e.ap, .int .i64 e.ac, .int .i64 e.tp, .int .i64 e.tc, .slice oa e.old.length oc, .slice na e.new.length nc, .slice ma e.moves.length mc, .slice la e.lives.length lc, .slice da e.dirty.length dc, .slice xa e.opens.length xc])) (ho' : Only (fun k => (Value.slice va es.length vc).ownBlock = some k) (wf.alloc o1) w') (hb' : v'.ownBlock = (Value.slice va es.length vc).ownBlock ∨ ∃ g, v'.ownBlock = some g ∧ (wf.alloc o1).heap.size ≤ g ∧ g < w'.heap.size) => show ScRel w b K4 v' w' from by
      have hs3 : Still wf (wf.alloc o1) := (Still.refl wf).alloc _
      have hs4 := HW.out.1.trans hs3
      have hz := HH.out.2.1.size
      have hz2 := hs4.size
      have hz3 := HS3.out.size
      have hz4 := HSD.out.size
      have hzo := ho'.size
      have hsc := HH.out.2.2.2.2.2
      have hbl := H.out.2.2.2.2
      have hks := HKS.out
      have hle := HLE.out
      have hm2 := HM2.out
      refine ⟨es ++ [e], EnVec.push (HVS.out.only hs4 fun _ _ e => e) (EIs.mono ((HEL.out.still HW.out.2.1).still hs3) fun g hg => ⟨by omega, fun e => by have := (HH.out.2.2.1 g e).2; omega⟩) hv' ho' hb', (HH.out.2.1.trans hs4).andThen ho' fun i hi e => by have := (HH.out.2.2.1 i e).1; omega, fun g hg => ?_, by omega, ?_, ?_⟩
      · rcases hb' with e' | ⟨g', e', e1, e2⟩
        · rw [e'] at hg
          have := HH.out.2.2.1 g hg
          omega
        · rw [e'] at hg
          have e3 : g' = g := Option.some.inj hg
          omega
      · rw [List.length_append, List.length_singleton]
        have := HH.out.2.2.2.2.1
        omega
      · have e1 : scanB (b.length - m + 1) (b.drop m) = (e :: (scanB (b.length - m) (b.drop (m + (N + 4)))).1, N + 4 + (scanB (b.length - m) (b.drop (m + (N + 4)))).2) := by
         show (match firstB (b.drop m) with | none => _ | some (e, n) => _) = _
         rw [HFI.out]
         simp only [List.drop_drop]
        rw [e1, show m + (N + 4) = K4 by omega, scanB_fuel (b.length - m) (b.length - K4 + 1) (by rw [List.length_drop]; omega) (by rw [List.length_drop]; omega)] at hsc
        rw [← hsc, List.append_assoc, show K4 = m + (N + 4) by omega, Nat.add_assoc]
        rfl)
     obtain ⟨du, hu, hdu⟩ := under_en
     have HU := Lib.hid (And.intro hu hdu)
     have HL1 := Lib.hid (show es.length + 1 ≤ maxLen ∧ (es.length + 1) * 224 ≤ 140737488355328 from by
      have := HH.out.2.2.2.2.1
      have := HH.out.2.2.2.1
      have := H.out.2.2.2
      simp only [maxLen]
      omega)
     clear hu hdu hvs hvv
     go_wp2_with (first
      | (refine wpList_loadAgg rfl 34 _ rfl w3.heap.size #[.int .i64 e.kind, .int .i64 e.txn, .int .i64 e.unit, .int .i64 e.half, .int .i64 e.prev, .int .i64 e.next, .int .i64 e.ap, .int .i64 e.ac, .int .i64 e.tp, .int .i64 e.tc, .slice oa e.old.length oc, .slice na e.new.length nc, .slice ma e.moves.length mc, .slice la e.lives.length lc, .slice da e.dirty.length dc, .slice xa e.opens.length xc] rfl HW.out.2.2 du HU.out.1 HU.out.2 size_en ?_)
      | (at_builtin; refine wpList_append_vec rfl _ _ 22 rfl 34 i0 _ 16 224 Tryz.underlying22 HI.out.1 HI.out.2.1 HI.out.2.2.1 HI.out.2.2.2 rfl (by decide) (.slice va es.length vc) es.length vs.flatten (by simp [Act.eval]) (HV2.out.alloc _) (.slice (some ⟨wf.heap.size, 0, none⟩) 1 1) 1 [.int .i64 e.kind, .int .i64 e.txn, .int .i64 e.unit, .int .i64 e.half, .int .i64 e.prev, .int .i64 e.next, .int .i64 e.ap, .int .i64 e.ac, .int .i64 e.tp, .int .i64 e.tc, .slice oa e.old.length oc, .slice na e.new.length nc, .slice ma e.moves.length mc, .slice la e.lives.length lc, .slice da e.dirty.length dc, .slice xa e.opens.length xc] (by simp [Act.eval]) ((cellsAt_new wf [.int .i64 e.kind, .int .i64 e.txn, .int .i64 e.unit, .int .i64 e.half, .int .i64 e.prev, .int .i64 e.next, .int .i64 e.ap, .int .i64 e.ac, .int .i64 e.tp, .int .i64 e.tc, .slice oa e.old.length oc, .slice na e.new.length nc, .slice ma e.moves.length mc, .slice la e.lives.length lc, .slice da e.dirty.length dc, .slice xa e.opens.length xc] _).reads rfl) (by intro u hu; simp only [List.mem_cons, List.not_mem_nil, or_false] at hu; rcases hu with rfl | rfl | rfl | rfl | rfl | rfl | rfl | rfl | rfl | rfl | rfl | rfl | rfl | rfl | rfl | rfl <;> rfl) HL1.out.1 HL1.out.2 ?_; intro v' w' hv' ho' hb'; have HN2 := Lib.hid (HNX.out _ v' w' hv' ho' hb'); clear hv' ho' hb' HNX))
     go_roundw
     case rel => exact ⟨K4, by rfl, HN2.out⟩
     case measure => simp [intOf]; have := HKS.out; have := HLE.out; omega
end Go.Proofs.YtojkggppcmdepaaGreat

namespace Go.Proofs.YtojkggppcmdepaaGreat
open Go.RowKit Go.Wh Go.Maps

theorem encB_seq (e : PE) : encB e = (numB 1 e.kind ++ (numB 1 e.txn ++ (numB 2 e.unit ++ (numB 1 e.half ++ (numB 3 e.prev ++ (numB 3 e.next ++ (numsB 1 [e.ap, e.ac] ++ (numsB 1 [e.tp, e.tc] ++ (imB e.old ++ (imB e.new ++ (listB mvB e.moves ++ (numB 1 (e.lives.length : Int) ++ (e.lives.flatMap lvB ++ (numB 1 (e.dirty.length : Int) ++ (e.dirty.flatMap dtB ++ (numB 1 (e.opens.length : Int) ++ (e.opens.flatMap opB ++ ([] : List Int)))))))))))))))))) := by
 unfold encB listB
 simp only [nums1, nums2, List.append_assoc, List.append_nil]
theorem WrAt.new1 (w : World) (t1 : TypeId) : WrAt (w.alloc (.cells #[.slice none 0 0] t1)) (fun b => b = w.heap.size) w.heap.size [] (.slice none 0 0) (w.alloc (.cells #[.slice none 0 0] t1)) :=
 ⟨Only.refl _ _, rfl, (cellsAt_new w [.slice none 0 0] t1).lt, cellsAt_new w [.slice none 0 0] t1, Vec.nil _ _, (fun g hg => by cases hg), (fun z hz => by cases hz)⟩
section
variable {W w : World} {X Q : Nat → Prop} {r k : Nat} {S T : List Int}
def LsPost (W : World) (X : Nat → Prop) (r : Nat) (S T : List Int) (k : Nat) (e : Ending) (w' : World) : Prop := e = .returned (.tuple #[]) ∧ LsRel W X r S T k w'
theorem ls_num (z : Int) (n : Nat) (hn : n = 1 ∨ n = 2 ∨ n = 3) {N : Int} (hN : (n : Int) = N) (h : LsRel W X r S (numB n z ++ T) k w) (hz : 0 ≤ z ∧ z ≤ 1000000000) (hk : k ≤ 50000) {k' : Nat} (hk' : k' = k + n) :
 Calls Tryz.prog 55 #[.pointer (some ⟨r, 0, none⟩), .int .i64 z, .int .i64 N] w (LsPost W X r S T k') := by
 obtain ⟨v, pre, h1, h2, h3⟩ := h
 refine (rwnum z n hn hN h1 hz (by omega)).mono ?_
 rintro en w' ⟨he, v', h4⟩
 exact ⟨he, v', _, h4, by rw [List.append_assoc]; exact h2, by rw [List.length_append, numB_length]; omega⟩
theorem ls_rid (p c : Int) (h : LsRel W X r S (numsB 1 [p, c] ++ T) k w) (hp : 0 ≤ p ∧ p ≤ 1000000000) (hc : 0 ≤ c ∧ c ≤ 1000000000) (hk : k ≤ 50000) {k' : Nat} (hk' : k' = k + 2) :
 Calls Tryz.prog 56 #[.pointer (some ⟨r, 0, none⟩), .agg #[.int .i64 p, .int .i64 c]] w (LsPost W X r S T k') := by
 obtain ⟨v, pre, h1, h2, h3⟩ := h
 refine (rwrid p c h1 hp hc (by omega)).mono ?_
 rintro en w' ⟨he, v', h4⟩
 exact ⟨he, v', _, h4, by rw [List.append_assoc]; exact h2, by rw [List.length_append, numsB_length]; simp only [List.length_cons, List.length_nil]; omega⟩
theorem ls_cell {dv : Value} {m : Nat} {l : List Int} (h : LsRel W X r S (imB l ++ T) k w) (hd : Sl W Q 1 dv m (bc l)) (hq : ∀ g, Q g → ¬ X g) (hm : m ≤ 26) (hb : Byt l) (hk : k ≤ 50000) {k' : Nat} (hk' : k' = k + 27) :
 Calls Tryz.prog 57 #[.pointer (some ⟨r, 0, none⟩), dv] w (LsPost W X r S T k') := by
 obtain ⟨v, pre, h1, h2, h3⟩ := h
 have hl : l.length = m := by have := hd.1; rw [bc_length] at this; omega
 refine (rwcell h1 hd hq hm hb (by omega)).mono ?_
 rintro en w' ⟨he, v', h4⟩
 refine ⟨he, v', _, h4, by rw [List.append_assoc]; exact h2, ?_⟩
 unfold imB
 rw [List.length_append, List.length_append, numsB_length]
 simp only [List.length_cons, List.length_nil]
 omega
theorem ls_moves {dv : Value} {m : Nat} {l : List PMv} (h : LsRel W X r S (listB mvB l ++ T) k w) (hd : Sl W Q 4 dv m (l.flatMap mvC)) (hq : ∀ g, Q g → ¬ X g) (hl : l.length = m) (hp : eachB mvMay l = true) (hk : k ≤ 50000) {k' : Nat} (hk' : k' = k + 161) :
 Calls Tryz.prog 58 #[.pointer (some ⟨r, 0, none⟩), dv] w (LsPost W X r S T k') := by
 obtain ⟨v, pre, h1, h2, h3⟩ := h
 refine (rwmoves h1 hd hq hl hp (by omega)).mono ?_
 rintro en w' ⟨he, v', h4⟩
 have := listB_le mvB 4 l hp fun x _ => by simp [mvB, numsB_length]
 exact ⟨he, v', _, h4, by rw [List.append_assoc]; exact h2, by rw [List.length_append]; omega⟩
theorem LsRel.only (h : LsRel W X r S T k w) : Only X W w := by
 obtain ⟨v, pre, h1, -⟩ := h
 exact h1.only
end
set_option maxHeartbeats 20000000 in
set_option maxRecDepth 100000 in
theorem rput_yes (w : World) (Q : Nat → Prop) (e : PE) (ov nv mv lv dv pv : Value) (h : EIs w Q e ov nv mv lv dv pv) (hm : e.may = true) : Calls Tryz.prog 34 #[.agg (eV e ov nv mv lv dv pv)] w (FreshPost w 1 (encB e).length (bc (encB e))) := by
 obtain ⟨oa, oc, na, nc, ma, mc, la, lc, da, dc, pa, pc, rfl, rfl, rfl, rfl, rfl, rfl⟩ := h.forms
 unfold eV
 have hst : Still w (w.alloc (.cells #[.int .i64 e.kind, .int .i64 e.txn, .int .i64 e.unit, .int .i64 e.half, .int .i64 e.prev, .int .i64 e.next, .int .i64 e.ap, .int .i64 e.ac, .int .i64 e.tp, .int .i64 e.tc, .slice oa e.old.length oc, .slice na e.new.length nc, .slice ma e.moves.length mc, .slice la e.lives.length lc, .slice da e.dirty.length dc, .slice pa e.opens.length pc] 34)) := (Still.refl w).alloc _
 have HMY := Lib.hid (rmayE_any _ Q e _ _ _ _ _ _ (h.still hst))
 rw [hm] at HMY
 unfold eV at HMY
 have hbx := cellsAt_new w [.int .i64 e.kind, .int .i64 e.txn, .int .i64 e.unit, .int .i64 e.half, .int .i64 e.prev, .int .i64 e.next, .int .i64 e.ap, .int .i64 e.ac, .int .i64 e.tp, .int .i64 e.tc, .slice oa e.old.length oc, .slice na e.new.length nc, .slice ma e.moves.length mc, .slice la e.lives.length lc, .slice da e.dirty.length dc, .slice pa e.opens.length pc] 34
 have HB := Lib.hid (fun w2 (hs : Still (w.alloc (.cells #[.int .i64 e.kind, .int .i64 e.txn, .int .i64 e.unit, .int .i64 e.half, .int .i64 e.prev, .int .i64 e.next, .int .i64 e.ap, .int .i64 e.ac, .int .i64 e.tp, .int .i64 e.tc, .slice oa e.old.length oc, .slice na e.new.length nc, .slice ma e.moves.length mc, .slice la e.lives.length lc, .slice da e.dirty.length dc, .slice pa e.opens.length pc] 34)) w2) => show cellsAt w2 w.heap.size [.int .i64 e.kind, .int .i64 e.txn, .int .i64 e.unit, .int .i64 e.half, .int .i64 e.prev, .int .i64 e.next, .int .i64 e.ap, .int .i64 e.ac, .int .i64 e.tp, .int .i64 e.tc, .slice oa e.old.length oc, .slice na e.new.length nc, .slice ma e.moves.length mc, .slice la e.lives.length lc, .slice da e.dirty.length dc, .slice pa e.opens.length pc] ∧ EIs w2 (fun g => g < w.heap.size) e (.slice oa e.old.length oc) (.slice na e.new.length nc) (.slice ma e.moves.length mc) (.slice la e.lives.length lc) (.slice da e.dirty.length dc) (.slice pa e.opens.length pc) ∧ Still w w2 from ⟨hbx.only hs fun e => e, h.low.still (hst.trans hs), hst.trans hs⟩)
 have HY := Lib.hid (PE.may_nums hm)
 have HYI := Lib.hid (PE.may_lists hm)
 have HLV := Lib.hid ((eachB_len (PE.may_lists hm).2.2.2.1))
 have HDT := Lib.hid ((eachB_len (PE.may_lists hm).2.2.2.2.1))
 have HOP := Lib.hid ((eachB_len (PE.may_lists hm).2.2.2.2.2))
 clear h hm hst hbx
 go_enter Tryz.func34, Tryz.ntmps34
 go_wp2_with fail
 refine HMY.out.mono ?_
 rintro en w2 ⟨rfl, hs2⟩
 clear HMY
 obtain ⟨hb2, hd2, hs2'⟩ := HB.out _ hs2
 have HB2 := Lib.hid (And.intro hb2 (And.intro hd2 hs2'))
 have hlt2 := hb2.lt
 have HZ2 := Lib.hid hlt2
 clear HB hb2 hd2 hs2 hs2' hlt2
 go_upto_region 4 with fail
 have hW := WrAt.new1 w2 103
 have hWs : Still w2 (w2.alloc (.cells #[.slice none 0 0] 103)) := (Still.refl w2).alloc _
 generalize (w2.alloc (.cells #[.slice none 0 0] 103)) = W at *
 obtain ⟨r, hr⟩ : ∃ r, w2.heap.size = r := ⟨_, rfl⟩
 have HZ := Lib.hid (show w.heap.size < r from by have := HZ2.out; omega)
 rw [hr] at hW
 try rw [hr]
 have HD := Lib.hid (HB2.out.2.1.still hWs)
 have HQ := Lib.hid (fun g (e : g < w.heap.size) => show ¬ g = r by have := HZ.out; omega)
 have hc0 := HB2.out.1.only hWs fun e => e
 have KEEP := Lib.hid (fun w' (ho : Only (fun b => b = r) W w') => show cellsAt w' w.heap.size [.int .i64 e.kind, .int .i64 e.txn, .int .i64 e.unit, .int .i64 e.half, .int .i64 e.prev, .int .i64 e.next, .int .i64 e.ap, .int .i64 e.ac, .int .i64 e.tp, .int .i64 e.tc, .slice oa e.old.length oc, .slice na e.new.length nc, .slice ma e.moves.length mc, .slice la e.lives.length lc, .slice da e.dirty.length dc, .slice pa e.opens.length pc] from hc0.only ho fun e => by have := HZ.out; omega)
 have HWS := Lib.hid (HB2.out.2.2.trans hWs)
 have H0 := Lib.hid (show LsRel W (fun b => b = r) r (encB e) (numB 1 e.kind ++ (numB 1 e.txn ++ (numB 2 e.unit ++ (numB 1 e.half ++ (numB 3 e.prev ++ (numB 3 e.next ++ (numsB 1 [e.ap, e.ac] ++ (numsB 1 [e.tp, e.tc] ++ (imB e.old ++ (imB e.new ++ (listB mvB e.moves ++ (numB 1 (e.lives.length : Int) ++ (e.lives.flatMap lvB ++ (numB 1 (e.dirty.length : Int) ++ (e.dirty.flatMap dtB ++ (numB 1 (e.opens.length : Int) ++ (e.opens.flatMap opB ++ ([] : List Int)))))))))))))))))) 0 W from ⟨_, [], hW, by rw [List.nil_append]; exact (encB_seq e).symm, Nat.le_refl _⟩)
 clear hW hWs hr hc0 HB2 HZ2
 generalize hSS : encB e = SS at *
 have HSS := Lib.hid hSS
 clear hSS
 have hk := KEEP.out _ (Only.refl _ W)
 have d0 : W.cell? ⟨w.heap.size, 0, none⟩ = some (.int .i64 e.kind) := hk.cell 0
 clear hk
 go_wp2_with fail
 refine (ls_num e.kind 1 (.inl rfl) rfl H0.out ⟨by have := HY.out.1; omega, by have := HY.out.2.1; omega⟩ (by omega) rfl).mono ?_
 rintro en w3 ⟨rfl, h3⟩
 have hk := KEEP.out _ h3.only
 clear d0
 have d1 : w3.cell? ⟨w.heap.size, 1, none⟩ = some (.int .i64 e.txn) := hk.cell 1
 have H3 := Lib.hid h3
 clear h3 hk
 go_wp2_with fail
 refine (ls_num e.txn 1 (.inl rfl) rfl H3.out ⟨HY.out.2.2.1.1, by have := HY.out.2.2.1.2; omega⟩ (by omega) rfl).mono ?_
 rintro en w4 ⟨rfl, h4⟩
 have hk := KEEP.out _ h4.only
 clear d1
 have d2 : w4.cell? ⟨w.heap.size, 2, none⟩ = some (.int .i64 e.unit) := hk.cell 2
 have H4 := Lib.hid h4
 clear h4 hk
 go_wp2_with fail
 refine (ls_num e.unit 2 (.inr (.inl rfl)) rfl H4.out ⟨HY.out.2.2.2.2.1.1, by have := HY.out.2.2.2.2.1.2; omega⟩ (by omega) rfl).mono ?_
 rintro en w5 ⟨rfl, h5⟩
 have hk := KEEP.out _ h5.only
 clear d2
 have d3 : w5.cell? ⟨w.heap.size, 3, none⟩ = some (.int .i64 e.half) := hk.cell 3
 have H5 := Lib.hid h5
 clear h5 hk
 go_wp2_with fail
 refine (ls_num e.half 1 (.inl rfl) rfl H5.out ⟨HY.out.2.2.2.1.1, by have := HY.out.2.2.2.1.2; omega⟩ (by omega) rfl).mono ?_
 rintro en w6 ⟨rfl, h6⟩
 have hk := KEEP.out _ h6.only
 clear d3
 have d4 : w6.cell? ⟨w.heap.size, 4, none⟩ = some (.int .i64 e.prev) := hk.cell 4
 have H6 := Lib.hid h6
 clear h6 hk
 go_wp2_with fail
 refine (ls_num e.prev 3 (.inr (.inr rfl)) rfl H6.out ⟨HY.out.2.2.2.2.2.1.1, by have := HY.out.2.2.2.2.2.1.2; omega⟩ (by omega) rfl).mono ?_
 rintro en w7 ⟨rfl, h7⟩
 have hk := KEEP.out _ h7.only
 clear d4
 have d5 : w7.cell? ⟨w.heap.size, 5, none⟩ = some (.int .i64 e.next) := hk.cell 5
 have H7 := Lib.hid h7
 clear h7 hk
 go_wp2_with fail
 refine (ls_num e.next 3 (.inr (.inr rfl)) rfl H7.out ⟨HY.out.2.2.2.2.2.2.1.1, by have := HY.out.2.2.2.2.2.2.1.2; omega⟩ (by omega) rfl).mono ?_
 rintro en w8 ⟨rfl, h8⟩
 have hk := KEEP.out _ h8.only
 clear d5
 have d6 : w8.cell? ⟨w.heap.size, 6, none⟩ = some (.int .i64 e.ap) := hk.cell 6
 have d7 : w8.cell? ⟨w.heap.size, 7, none⟩ = some (.int .i64 e.ac) := hk.cell 7
 have H8 := Lib.hid h8
 clear h8 hk
 go_wp2_with fail
 refine (ls_rid e.ap e.ac H8.out ⟨HY.out.2.2.2.2.2.2.2.1.1, by have := HY.out.2.2.2.2.2.2.2.1.2; omega⟩ ⟨HY.out.2.2.2.2.2.2.2.2.1.1, by have := HY.out.2.2.2.2.2.2.2.2.1.2; omega⟩ (by omega) rfl).mono ?_
 rintro en w9 ⟨rfl, h9⟩
 have hk := KEEP.out _ h9.only
 clear d6 d7
 have d8 : w9.cell? ⟨w.heap.size, 8, none⟩ = some (.int .i64 e.tp) := hk.cell 8
 have d9 : w9.cell? ⟨w.heap.size, 9, none⟩ = some (.int .i64 e.tc) := hk.cell 9
 have H9 := Lib.hid h9
 clear h9 hk
 go_wp2_with fail
 refine (ls_rid e.tp e.tc H9.out ⟨HY.out.2.2.2.2.2.2.2.2.2.1.1, by have := HY.out.2.2.2.2.2.2.2.2.2.1.2; omega⟩ ⟨HY.out.2.2.2.2.2.2.2.2.2.2.1, by have := HY.out.2.2.2.2.2.2.2.2.2.2.2; omega⟩ (by omega) rfl).mono ?_
 rintro en w10 ⟨rfl, h10⟩
 have hk := KEEP.out _ h10.only
 clear d8 d9
 have d10 : w10.cell? ⟨w.heap.size, 10, none⟩ = some (.slice oa e.old.length oc) := hk.cell 10
 have H10 := Lib.hid h10
 clear h10 hk
 go_wp2_with fail
 refine (ls_cell H10.out HD.out.o HQ.out (by have := HYI.out.1; have := HYI.out.2.1; omega) HD.out.bo (by omega) rfl).mono ?_
 rintro en w11 ⟨rfl, h11⟩
 have hk := KEEP.out _ h11.only
 clear d10
 have d11 : w11.cell? ⟨w.heap.size, 11, none⟩ = some (.slice na e.new.length nc) := hk.cell 11
 have H11 := Lib.hid h11
 clear h11 hk
 go_wp2_with fail
 refine (ls_cell H11.out HD.out.n HQ.out (by have := HYI.out.1; have := HYI.out.2.1; omega) HD.out.bn (by omega) rfl).mono ?_
 rintro en w12 ⟨rfl, h12⟩
 have hk := KEEP.out _ h12.only
 clear d11
 have d12 : w12.cell? ⟨w.heap.size, 12, none⟩ = some (.slice ma e.moves.length mc) := hk.cell 12
 have H12 := Lib.hid h12
 clear h12 hk
 go_wp2_with fail
 refine (ls_moves H12.out HD.out.m HQ.out rfl HYI.out.2.2.1 (by omega) rfl).mono ?_
 rintro en w13 ⟨rfl, h13⟩
 have hk := KEEP.out _ h13.only
 clear d12
 have d13 : w13.cell? ⟨w.heap.size, 13, none⟩ = some (.slice la e.lives.length lc) := hk.cell 13
 have H13 := Lib.hid h13
 clear h13 hk
 go_wp2_with fail
 refine (ls_num (e.lives.length : Int) 1 (.inl rfl) rfl H13.out ⟨by omega, by have := HLV.out.1; omega⟩ (by omega) rfl).mono ?_
 rintro en w14 ⟨rfl, h14⟩
 have hk := KEEP.out _ h14.only
 clear d13
 have d13 : w14.cell? ⟨w.heap.size, 13, none⟩ = some (.slice la e.lives.length lc) := hk.cell 13
 have H14 := Lib.hid h14
 clear h14 hk
 obtain ⟨M, hM⟩ : ∃ m, e.lives.length = m := ⟨_, rfl⟩
 have HMM := Lib.hid hM
 rw [hM] at d13
 try rw [hM]
 clear hM
 go_wp2_with fail
 go_loopw [4] (fun s wr => ∃ k : Nat, s = .int .i64 k ∧ k ≤ M ∧ LsRel W (fun b => b = r) r SS ((e.lives.drop k).flatMap lvB ++ (numB 1 (e.dirty.length : Int) ++ (e.dirty.flatMap dtB ++ (numB 1 (e.opens.length : Int) ++ (e.opens.flatMap opB ++ ([] : List Int)))))) (231 + k * 8) wr) (fun s _ => M - (intOf s).toNat)
 case atStart => exact ⟨0, rfl, Nat.zero_le _, H14.out⟩
 obtain ⟨k, rfl, hk, hls⟩ := hrel
 clear d13
 have HR := Lib.hid hls
 have hkk := KEEP.out _ hls.only
 have d13 : wr.cell? ⟨w.heap.size, 13, none⟩ = some (.slice la M lc) := by rw [hkk.cell 13, ← HMM.out]; rfl
 clear hls hkk
 by_cases hi : k < M
 · as_aux_lemma =>
    have b1 : decide ((k : Int) < (M : Int)) = true := decide_eq_true (by omega)
    have b2 : decide (k < M) = true := decide_eq_true hi
    have i0 : (0 : Int) ≤ (k : Int) := by omega
    have i1 : (k : Int) < (M : Int) := by omega
    have hk40 : k < 40 := by have := HLV.out.1; have := HMM.out; omega
    have u9 : IntKind.i64.wrap ((k : Int) + 1) = (k : Int) + 1 := IntWalk.i64_in _ (by omega)
    obtain ⟨x, hx⟩ : ∃ x, e.lives[k]? = some x := ⟨_, List.getElem?_eq_getElem (by have := HMM.out; omega)⟩
    have hxm := HLV.out.2 x (List.mem_of_getElem? hx)
    have hdr : e.lives.drop k = x :: e.lives.drop (k + 1) := by
     rw [List.drop_eq_getElem_cons (show k < e.lives.length by have := HMM.out; omega), show e.lives[k]'(by have := HMM.out; omega) = x from (List.getElem?_eq_some_iff.1 hx).2]
    have HR0 := Lib.hid (show LsRel W (fun b => b = r) r SS (numB 1 x.txn ++ (numB 3 x.last ++ (numB 3 x.next ++ (numB 1 (bitB x.commit) ++ ((e.lives.drop (k + 1)).flatMap lvB ++ (numB 1 (e.dirty.length : Int) ++ (e.dirty.flatMap dtB ++ (numB 1 (e.opens.length : Int) ++ (e.opens.flatMap opB ++ ([] : List Int)))))))))) (231 + k * 8) wr from by
     have h := HR.out
     rw [hdr, List.flatMap_cons] at h
     unfold lvB at h
     simp only [nums1, nums2, List.append_assoc] at h ⊢
     exact h)
    have HCS := Lib.hid (fun w' (ho : Only (fun b => b = r) W w') => show ∀ j u, j < 4 → (lvC x)[j]? = some u → ∀ g o, (Value.slice la M lc) = .slice (some ⟨g, o, none⟩) M lc → w'.cell? ⟨g, o + (k * 4 + j), none⟩ = some u from by
     intro j u hj hu g o hgo
     obtain ⟨g2, o2, c2, hg2, -, -, hcs⟩ := (HD.out.l.only ho HQ.out).pos (by have := HMM.out; omega)
     have e2 := HMM.out
     rw [e2] at hg2
     rw [hg2] at hgo
     cases hgo
     exact hcs (k * 4 + j) u (by rw [flat_get (sz := 4) (fun _ => rfl) e.lives k j x hx hj]; exact hu))
    obtain ⟨g, o, rfl⟩ : ∃ g o, la = some ⟨g, o, none⟩ := by
     obtain ⟨g2, o2, c2, hg2, -⟩ := HD.out.l.pos (by have := HMM.out; omega)
     have hg3 := (Value.slice.inj hg2).1
     exact ⟨g2, o2, hg3⟩
    unfold lvMay at hxm
    simp only [fitsB_cons, Bool.and_eq_true] at hxm
    have e1 : (256 : Int) ^ 1 = 256 := rfl
    have e2 : (256 : Int) ^ 2 = 65536 := rfl
    have e3 : (256 : Int) ^ 3 = 16777216 := rfl
    have HX := Lib.hid (show (0 ≤ x.txn ∧ x.txn ≤ 1000000000) ∧ (0 ≤ x.last ∧ x.last ≤ 1000000000) ∧ (0 ≤ x.next ∧ x.next ≤ 1000000000) from by
     obtain ⟨⟨h1, -⟩, h2, h3, -⟩ := hxm
     refine ⟨⟨by omega, by omega⟩, ⟨by omega, by omega⟩, by omega, by omega⟩)
    have HK := Lib.hid (And.intro hk40 hi)
    clear hk hx hxm hdr e1 e2 e3 HR hk40 hi
    have y0 : wr.cell? ⟨g, o + k * 4, none⟩ = some (.int .i64 x.txn) := by
     exact HCS.out _ HR0.out.only 0 _ (by omega) rfl g o rfl
    go_wp2_with fail
    refine (ls_num x.txn 1 (.inl rfl) rfl HR0.out HX.out.1 (by have := HK.out.1; omega) rfl).mono ?_
    rintro en wx1 ⟨rfl, hx1⟩
    have HS1 := Lib.hid hx1
    have hkk := KEEP.out _ hx1.only
    clear y0 d13
    have d13 : wx1.cell? ⟨w.heap.size, 13, none⟩ = some (.slice (some ⟨g, o, none⟩) M lc) := by rw [hkk.cell 13, ← HMM.out]; rfl
    clear hx1 hkk
    have y1 : wx1.cell? ⟨g, o + k * 4 + 1, none⟩ = some (.int .i64 x.last) := by
     rw [Nat.add_assoc]
     exact HCS.out _ HS1.out.only 1 _ (by omega) rfl g o rfl
    go_wp2_with fail
    refine (ls_num x.last 3 (.inr (.inr rfl)) rfl HS1.out HX.out.2.1 (by have := HK.out.1; omega) rfl).mono ?_
    rintro en wx2 ⟨rfl, hx2⟩
    have HS2 := Lib.hid hx2
    have hkk := KEEP.out _ hx2.only
    clear y1 d13
    have d13 : wx2.cell? ⟨w.heap.size, 13, none⟩ = some (.slice (some ⟨g, o, none⟩) M lc) := by rw [hkk.cell 13, ← HMM.out]; rfl
    clear hx2 hkk
    have y2 : wx2.cell? ⟨g, o + k * 4 + 2, none⟩ = some (.int .i64 x.next) := by
     rw [Nat.add_assoc]
     exact HCS.out _ HS2.out.only 2 _ (by omega) rfl g o rfl
    go_wp2_with fail
    refine (ls_num x.next 3 (.inr (.inr rfl)) rfl HS2.out HX.out.2.2 (by have := HK.out.1; omega) rfl).mono ?_
    rintro en wx3 ⟨rfl, hx3⟩
    have HS3 := Lib.hid hx3
    have hkk := KEEP.out _ hx3.only
    clear y2 d13
    have d13 : wx3.cell? ⟨w.heap.size, 13, none⟩ = some (.slice (some ⟨g, o, none⟩) M lc) := by rw [hkk.cell 13, ← HMM.out]; rfl
    clear hx3 hkk
    have y3 : wx3.cell? ⟨g, o + k * 4 + 3, none⟩ = some (.bool x.commit) := by
     rw [Nat.add_assoc]
     exact HCS.out _ HS3.out.only 3 _ (by omega) rfl g o rfl
    obtain ⟨qb, hqb⟩ : ∃ q, x.commit = q := ⟨_, rfl⟩
    rw [hqb] at y3
    have HQB := Lib.hid hqb
    clear hqb
    have HS3B := Lib.hid HS3.out
    rw [HQB.out] at HS3B
    cases qb
    · go_wp2_with fail
      refine (ls_num 0 1 (.inl rfl) rfl HS3B.out ⟨by omega, by omega⟩ (by have := HK.out.1; omega) rfl).mono ?_
      rintro en wx4 ⟨rfl, hx4⟩
      have HS4 := Lib.hid hx4
      clear hx4
      go_wp2_with fail
      go_roundw
      case rel => exact ⟨k + 1, by go_num, by have := HK.out.2; omega, by have h := HS4.out; rw [show 231 + (k + 1) * 8 = 231 + k * 8 + 1 + 3 + 3 + 1 by omega]; exact h⟩
      case measure => first | (simp [intOf]; done) | (simp [intOf]; have := HK.out.2; omega)
    · go_wp2_with fail
      refine (ls_num 1 1 (.inl rfl) rfl HS3B.out ⟨by omega, by omega⟩ (by have := HK.out.1; omega) rfl).mono ?_
      rintro en wx4 ⟨rfl, hx4⟩
      have HS4 := Lib.hid hx4
      clear hx4
      go_wp2_with fail
      go_roundw
      case rel => exact ⟨k + 1, by go_num, by have := HK.out.2; omega, by have h := HS4.out; rw [show 231 + (k + 1) * 8 = 231 + k * 8 + 1 + 3 + 3 + 1 by omega]; exact h⟩
      case measure => first | (simp [intOf]; done) | (simp [intOf]; have := HK.out.2; omega)
 have b1 : decide ((k : Int) < (M : Int)) = false := decide_eq_false (by omega)
 have b2 : decide (k < M) = false := decide_eq_false hi
 have HE13 := Lib.hid (show LsRel W (fun b => b = r) r SS (numB 1 (e.dirty.length : Int) ++ (e.dirty.flatMap dtB ++ (numB 1 (e.opens.length : Int) ++ (e.opens.flatMap opB ++ ([] : List Int))))) 551 wr from by
  obtain ⟨v, pre, h1, h2, h3⟩ := HR.out
  rw [List.drop_of_length_le (by have := HMM.out; omega)] at h2
  exact ⟨v, pre, h1, h2, by have := HLV.out.1; have := HMM.out; omega⟩)
 have hk2 := KEEP.out _ HE13.out.only
 have d14 : wr.cell? ⟨w.heap.size, 14, none⟩ = some (.slice da e.dirty.length dc) := hk2.cell 14
 clear hk2 hk HR hi
 go_wp2_with fail
 refine (ls_num (e.dirty.length : Int) 1 (.inl rfl) rfl HE13.out ⟨by omega, by have := HDT.out.1; omega⟩ (by omega) rfl).mono ?_
 rintro en wn ⟨rfl, hn⟩
 have HN14 := Lib.hid hn
 have hk3 := KEEP.out _ hn.only
 clear d14
 have d14 : wn.cell? ⟨w.heap.size, 14, none⟩ = some (.slice da e.dirty.length dc) := hk3.cell 14
 clear hn hk3 b1 b2 HMM d13
 obtain ⟨M, hM⟩ : ∃ m, e.dirty.length = m := ⟨_, rfl⟩
 have HMM := Lib.hid hM
 rw [hM] at d14
 try rw [hM]
 clear hM
 go_wp2_with fail
 go_loopw [5] (fun s wr => ∃ k : Nat, s = .int .i64 k ∧ k ≤ M ∧ LsRel W (fun b => b = r) r SS ((e.dirty.drop k).flatMap dtB ++ (numB 1 (e.opens.length : Int) ++ (e.opens.flatMap opB ++ ([] : List Int)))) (552 + k * 4) wr) (fun s _ => M - (intOf s).toNat)
 case atStart => exact ⟨0, rfl, Nat.zero_le _, HN14.out⟩
 obtain ⟨k, rfl, hk, hls⟩ := hrel
 clear d14
 have HR := Lib.hid hls
 have hkk := KEEP.out _ hls.only
 have d14 : wr.cell? ⟨w.heap.size, 14, none⟩ = some (.slice da M dc) := by rw [hkk.cell 14, ← HMM.out]; rfl
 clear hls hkk
 by_cases hi : k < M
 · as_aux_lemma =>
    have b1 : decide ((k : Int) < (M : Int)) = true := decide_eq_true (by omega)
    have b2 : decide (k < M) = true := decide_eq_true hi
    have i0 : (0 : Int) ≤ (k : Int) := by omega
    have i1 : (k : Int) < (M : Int) := by omega
    have hk40 : k < 40 := by have := HDT.out.1; have := HMM.out; omega
    have u9 : IntKind.i64.wrap ((k : Int) + 1) = (k : Int) + 1 := IntWalk.i64_in _ (by omega)
    obtain ⟨x, hx⟩ : ∃ x, e.dirty[k]? = some x := ⟨_, List.getElem?_eq_getElem (by have := HMM.out; omega)⟩
    have hxm := HDT.out.2 x (List.mem_of_getElem? hx)
    have hdr : e.dirty.drop k = x :: e.dirty.drop (k + 1) := by
     rw [List.drop_eq_getElem_cons (show k < e.dirty.length by have := HMM.out; omega), show e.dirty[k]'(by have := HMM.out; omega) = x from (List.getElem?_eq_some_iff.1 hx).2]
    have HR0 := Lib.hid (show LsRel W (fun b => b = r) r SS (numB 1 x.page ++ (numB 3 x.rc ++ ((e.dirty.drop (k + 1)).flatMap dtB ++ (numB 1 (e.opens.length : Int) ++ (e.opens.flatMap opB ++ ([] : List Int)))))) (552 + k * 4) wr from by
     have h := HR.out
     rw [hdr, List.flatMap_cons] at h
     unfold dtB at h
     simp only [nums1, List.append_assoc] at h ⊢
     exact h)
    have HCS := Lib.hid (fun w' (ho : Only (fun b => b = r) W w') => show ∀ j u, j < 2 → (dtC x)[j]? = some u → ∀ g o, (Value.slice da M dc) = .slice (some ⟨g, o, none⟩) M dc → w'.cell? ⟨g, o + (k * 2 + j), none⟩ = some u from by
     intro j u hj hu g o hgo
     obtain ⟨g2, o2, c2, hg2, -, -, hcs⟩ := (HD.out.d.only ho HQ.out).pos (by have := HMM.out; omega)
     have e2 := HMM.out
     rw [e2] at hg2
     rw [hg2] at hgo
     cases hgo
     exact hcs (k * 2 + j) u (by rw [flat_get (sz := 2) (fun _ => rfl) e.dirty k j x hx hj]; exact hu))
    obtain ⟨g, o, rfl⟩ : ∃ g o, da = some ⟨g, o, none⟩ := by
     obtain ⟨g2, o2, c2, hg2, -⟩ := HD.out.d.pos (by have := HMM.out; omega)
     have hg3 := (Value.slice.inj hg2).1
     exact ⟨g2, o2, hg3⟩
    unfold dtMay at hxm
    simp only [fitsB_cons, Bool.and_eq_true] at hxm
    have e1 : (256 : Int) ^ 1 = 256 := rfl
    have e2 : (256 : Int) ^ 2 = 65536 := rfl
    have e3 : (256 : Int) ^ 3 = 16777216 := rfl
    have HX := Lib.hid (show (0 ≤ x.page ∧ x.page ≤ 1000000000) ∧ (0 ≤ x.rc ∧ x.rc ≤ 1000000000) from by
     obtain ⟨⟨h1, -⟩, h2, -⟩ := hxm
     refine ⟨⟨by omega, by omega⟩, by omega, by omega⟩)
    have HK := Lib.hid (And.intro hk40 hi)
    clear hk hx hxm hdr e1 e2 e3 HR hk40 hi
    have y0 : wr.cell? ⟨g, o + k * 2, none⟩ = some (.int .i64 x.page) := by
     exact HCS.out _ HR0.out.only 0 _ (by omega) rfl g o rfl
    go_wp2_with fail
    refine (ls_num x.page 1 (.inl rfl) rfl HR0.out HX.out.1 (by have := HK.out.1; omega) rfl).mono ?_
    rintro en wx1 ⟨rfl, hx1⟩
    have HS1 := Lib.hid hx1
    have hkk := KEEP.out _ hx1.only
    clear y0 d14
    have d14 : wx1.cell? ⟨w.heap.size, 14, none⟩ = some (.slice (some ⟨g, o, none⟩) M dc) := by rw [hkk.cell 14, ← HMM.out]; rfl
    clear hx1 hkk
    have y1 : wx1.cell? ⟨g, o + k * 2 + 1, none⟩ = some (.int .i64 x.rc) := by
     rw [Nat.add_assoc]
     exact HCS.out _ HS1.out.only 1 _ (by omega) rfl g o rfl
    go_wp2_with fail
    refine (ls_num x.rc 3 (.inr (.inr rfl)) rfl HS1.out HX.out.2 (by have := HK.out.1; omega) rfl).mono ?_
    rintro en wx2 ⟨rfl, hx2⟩
    have HS2 := Lib.hid hx2
    have hkk := KEEP.out _ hx2.only
    clear y1 d14
    have d14 : wx2.cell? ⟨w.heap.size, 14, none⟩ = some (.slice (some ⟨g, o, none⟩) M dc) := by rw [hkk.cell 14, ← HMM.out]; rfl
    clear hx2 hkk
    go_wp2_with fail
    go_roundw
    case rel => exact ⟨k + 1, by go_num, by have := HK.out.2; omega, by have h := HS2.out; rw [show 552 + (k + 1) * 4 = 552 + k * 4 + 1 + 3 by omega]; exact h⟩
    case measure => first | (simp [intOf]; done) | (simp [intOf]; have := HK.out.2; omega)
 have b1 : decide ((k : Int) < (M : Int)) = false := decide_eq_false (by omega)
 have b2 : decide (k < M) = false := decide_eq_false hi
 have HE14 := Lib.hid (show LsRel W (fun b => b = r) r SS (numB 1 (e.opens.length : Int) ++ (e.opens.flatMap opB ++ ([] : List Int))) 712 wr from by
  obtain ⟨v, pre, h1, h2, h3⟩ := HR.out
  rw [List.drop_of_length_le (by have := HMM.out; omega)] at h2
  exact ⟨v, pre, h1, h2, by have := HDT.out.1; have := HMM.out; omega⟩)
 have hk2 := KEEP.out _ HE14.out.only
 have d15 : wr.cell? ⟨w.heap.size, 15, none⟩ = some (.slice pa e.opens.length pc) := hk2.cell 15
 clear hk2 hk HR hi
 go_wp2_with fail
 refine (ls_num (e.opens.length : Int) 1 (.inl rfl) rfl HE14.out ⟨by omega, by have := HOP.out.1; omega⟩ (by omega) rfl).mono ?_
 rintro en wn ⟨rfl, hn⟩
 have HN15 := Lib.hid hn
 have hk3 := KEEP.out _ hn.only
 clear d15
 have d15 : wn.cell? ⟨w.heap.size, 15, none⟩ = some (.slice pa e.opens.length pc) := hk3.cell 15
 clear hn hk3 b1 b2 HMM d14
 obtain ⟨M, hM⟩ : ∃ m, e.opens.length = m := ⟨_, rfl⟩
 have HMM := Lib.hid hM
 rw [hM] at d15
 try rw [hM]
 clear hM
 go_wp2_with fail
 go_loopw [6] (fun s wr => ∃ k : Nat, s = .int .i64 k ∧ k ≤ M ∧ LsRel W (fun b => b = r) r SS ((e.opens.drop k).flatMap opB ++ ([] : List Int)) (713 + k * 164) wr) (fun s _ => M - (intOf s).toNat)
 case atStart => exact ⟨0, rfl, Nat.zero_le _, HN15.out⟩
 obtain ⟨k, rfl, hk, hls⟩ := hrel
 clear d15
 have HR := Lib.hid hls
 have hkk := KEEP.out _ hls.only
 have d15 : wr.cell? ⟨w.heap.size, 15, none⟩ = some (.slice pa M pc) := by rw [hkk.cell 15, ← HMM.out]; rfl
 clear hls hkk
 by_cases hi : k < M
 · as_aux_lemma =>
    have b1 : decide ((k : Int) < (M : Int)) = true := decide_eq_true (by omega)
    have b2 : decide (k < M) = true := decide_eq_true hi
    have i0 : (0 : Int) ≤ (k : Int) := by omega
    have i1 : (k : Int) < (M : Int) := by omega
    have hk40 : k < 40 := by have := HOP.out.1; have := HMM.out; omega
    have u9 : IntKind.i64.wrap ((k : Int) + 1) = (k : Int) + 1 := IntWalk.i64_in _ (by omega)
    obtain ⟨x, hx⟩ : ∃ x, e.opens[k]? = some x := ⟨_, List.getElem?_eq_getElem (by have := HMM.out; omega)⟩
    have hxm := HOP.out.2 x (List.mem_of_getElem? hx)
    have hdr : e.opens.drop k = x :: e.opens.drop (k + 1) := by
     rw [List.drop_eq_getElem_cons (show k < e.opens.length by have := HMM.out; omega), show e.opens[k]'(by have := HMM.out; omega) = x from (List.getElem?_eq_some_iff.1 hx).2]
    have HR0 := Lib.hid (show LsRel W (fun b => b = r) r SS (numB 2 x.unit ++ (numB 1 x.done ++ (listB mvB x.moves ++ ((e.opens.drop (k + 1)).flatMap opB ++ ([] : List Int))))) (713 + k * 164) wr from by
     have h := HR.out
     rw [hdr, List.flatMap_cons] at h
     unfold opB at h
     simp only [nums1, List.append_assoc] at h ⊢
     exact h)
    obtain ⟨mvs, hm1, hm2, hm3⟩ := HD.out.p
    obtain ⟨mw, hmx⟩ : ∃ mv, mvs[k]? = some mv := ⟨_, List.getElem?_eq_getElem (by have := HMM.out; omega)⟩
    have HMV := Lib.hid (hm3 k x mw hx hmx)
    obtain ⟨xa, xc, rfl⟩ := HMV.out.form
    have HCS := Lib.hid (fun w' (ho : Only (fun b => b = r) W w') => show ∀ j u, j < 3 → (opC (x, .slice xa x.moves.length xc))[j]? = some u → ∀ g o, (Value.slice pa M pc) = .slice (some ⟨g, o, none⟩) M pc → w'.cell? ⟨g, o + (k * 3 + j), none⟩ = some u from by
     intro j u hj hu g o hgo
     obtain ⟨g2, o2, c2, hg2, -, -, hcs⟩ := (hm2.only ho HQ.out).pos (by have := HMM.out; omega)
     have e2 := HMM.out
     rw [e2] at hg2
     rw [hg2] at hgo
     cases hgo
     exact hcs (k * 3 + j) u (by rw [flat_get (sz := 3) (fun _ => rfl) (e.opens.zip mvs) k j (x, _) (by rw [List.getElem?_zip_eq_some]; exact ⟨hx, hmx⟩) hj]; exact hu))
    obtain ⟨g, o, rfl⟩ : ∃ g o, pa = some ⟨g, o, none⟩ := by
     obtain ⟨g2, o2, c2, hg2, -⟩ := hm2.pos (by have := HMM.out; omega)
     have hg3 := (Value.slice.inj hg2).1
     exact ⟨g2, o2, hg3⟩
    clear hm1 hm2 hm3 hmx
    unfold opMay at hxm
    simp only [fitsB_cons, Bool.and_eq_true] at hxm
    have e1 : (256 : Int) ^ 1 = 256 := rfl
    have e2 : (256 : Int) ^ 2 = 65536 := rfl
    have e3 : (256 : Int) ^ 3 = 16777216 := rfl
    have HX := Lib.hid (show (0 ≤ x.unit ∧ x.unit ≤ 1000000000) ∧ (0 ≤ x.done ∧ x.done ≤ 1000000000) ∧ eachB mvMay x.moves = true from by
     obtain ⟨⟨⟨h1, -⟩, h2, -⟩, h3⟩ := hxm
     refine ⟨⟨by omega, by omega⟩, ⟨by omega, by omega⟩, h3⟩)
    have HK := Lib.hid (And.intro hk40 hi)
    clear hk hx hxm hdr e1 e2 e3 HR hk40 hi
    have y0 : wr.cell? ⟨g, o + k * 3, none⟩ = some (.int .i64 x.unit) := by
     exact HCS.out _ HR0.out.only 0 _ (by omega) rfl g o rfl
    go_wp2_with fail
    refine (ls_num x.unit 2 (.inr (.inl rfl)) rfl HR0.out HX.out.1 (by have := HK.out.1; omega) rfl).mono ?_
    rintro en wx1 ⟨rfl, hx1⟩
    have HS1 := Lib.hid hx1
    have hkk := KEEP.out _ hx1.only
    clear y0 d15
    have d15 : wx1.cell? ⟨w.heap.size, 15, none⟩ = some (.slice (some ⟨g, o, none⟩) M pc) := by rw [hkk.cell 15, ← HMM.out]; rfl
    clear hx1 hkk
    have y2 : wx1.cell? ⟨g, o + k * 3 + 2, none⟩ = some (.int .i64 x.done) := by
     rw [Nat.add_assoc]
     exact HCS.out _ HS1.out.only 2 _ (by omega) rfl g o rfl
    go_wp2_with fail
    refine (ls_num x.done 1 (.inl rfl) rfl HS1.out HX.out.2.1 (by have := HK.out.1; omega) rfl).mono ?_
    rintro en wx2 ⟨rfl, hx2⟩
    have HS2 := Lib.hid hx2
    have hkk := KEEP.out _ hx2.only
    clear y2 d15
    have d15 : wx2.cell? ⟨w.heap.size, 15, none⟩ = some (.slice (some ⟨g, o, none⟩) M pc) := by rw [hkk.cell 15, ← HMM.out]; rfl
    clear hx2 hkk
    have y1 : wx2.cell? ⟨g, o + k * 3 + 1, none⟩ = some (.slice xa x.moves.length xc) := by
     rw [Nat.add_assoc]
     exact HCS.out _ HS2.out.only 1 _ (by omega) rfl g o rfl
    go_wp2_with fail
    refine (ls_moves HS2.out HMV.out HQ.out rfl HX.out.2.2 (by have := HK.out.1; omega) rfl).mono ?_
    rintro en wx3 ⟨rfl, hx3⟩
    have HS3 := Lib.hid hx3
    clear hx3 y1
    go_wp2_with fail
    go_roundw
    case rel => exact ⟨k + 1, by go_num, by have := HK.out.2; omega, by have h := HS3.out; rw [show 713 + (k + 1) * 164 = 713 + k * 164 + 2 + 1 + 161 by omega]; exact h⟩
    case measure => first | (simp [intOf]; done) | (simp [intOf]; have := HK.out.2; omega)
 have b1 : decide ((k : Int) < (M : Int)) = false := decide_eq_false (by omega)
 have b2 : decide (k < M) = false := decide_eq_false hi
 have HE15 := Lib.hid (show LsRel W (fun b => b = r) r SS ([] : List Int) 7273 wr from by
  obtain ⟨v, pre, h1, h2, h3⟩ := HR.out
  rw [List.drop_of_length_le (by have := HMM.out; omega)] at h2
  exact ⟨v, pre, h1, h2, by have := HOP.out.1; have := HMM.out; omega⟩)
 have hk2 := KEEP.out _ HE15.out.only
 clear hk2 hk HR hi
 obtain ⟨v14, pre, hh, hpre, -⟩ := HE15.out
 rw [List.append_nil] at hpre
 subst hpre
 generalize hL : pre.length = L at *
 obtain ⟨va, vc, hv⟩ : ∃ va vc, v14 = .slice va L vc := by
  obtain ⟨va, vc, hv⟩ := hh.vec.form'
  exact ⟨va, vc, by rw [hv, hL]⟩
 have cr : wr.cell? ⟨r, 0, none⟩ = some v14 := hh.cells.cell 0
 have F := Lib.hid (show FreshPost w 1 L (bc pre) (.returned v14) wr from by
  have hzz := HWS.out.size
  have hzr := HZ.out
  have hrl := hh.rl
  have ho := HWS.out.andThen hh.only fun i hi e => by have e' : i = r := e; omega
  refine ⟨_, rfl, ?_, ho.below (Nat.le_refl _) (fun i hi e => e), fun g hg => ?_⟩
  · rw [← hL]
    exact hh.vec
  · have := hh.own g hg
    rcases this.1 with e | e
    · exact absurd e this.2.1
    · exact ⟨by omega, this.2.2⟩)
 subst hv
 have HLL := Lib.hid hL
 clear hh hL
 go_wp2_with fail
 go_ret
 exact F.out
set_option maxHeartbeats 1000000 in
set_option maxRecDepth 100000 in
theorem rput_no (w : World) (Q : Nat → Prop) (e : PE) (ov nv mv lv dv pv : Value) (h : EIs w Q e ov nv mv lv dv pv) (hm : e.may = false) : Calls Tryz.prog 34 #[.agg (eV e ov nv mv lv dv pv)] w (FreshPost w 1 0 []) := by
 obtain ⟨oa, oc, na, nc, ma, mc, la, lc, da, dc, pa, pc, rfl, rfl, rfl, rfl, rfl, rfl⟩ := h.forms
 unfold eV
 have hst : Still w (w.alloc (.cells #[.int .i64 e.kind, .int .i64 e.txn, .int .i64 e.unit, .int .i64 e.half, .int .i64 e.prev, .int .i64 e.next, .int .i64 e.ap, .int .i64 e.ac, .int .i64 e.tp, .int .i64 e.tc, .slice oa e.old.length oc, .slice na e.new.length nc, .slice ma e.moves.length mc, .slice la e.lives.length lc, .slice da e.dirty.length dc, .slice pa e.opens.length pc] 34)) := (Still.refl w).alloc _
 have HMY := Lib.hid (rmayE_any _ Q e _ _ _ _ _ _ (h.still hst))
 rw [hm] at HMY
 unfold eV at HMY
 have F := Lib.hid (fun w' (hs : Still (w.alloc (.cells #[.int .i64 e.kind, .int .i64 e.txn, .int .i64 e.unit, .int .i64 e.half, .int .i64 e.prev, .int .i64 e.next, .int .i64 e.ap, .int .i64 e.ac, .int .i64 e.tp, .int .i64 e.tc, .slice oa e.old.length oc, .slice na e.new.length nc, .slice ma e.moves.length mc, .slice la e.lives.length lc, .slice da e.dirty.length dc, .slice pa e.opens.length pc] 34)) w') => show FreshPost w 1 0 [] (.returned (.slice none 0 0)) w' from ⟨_, rfl, Vec.nil _ _, (hst.trans hs).below (Nat.le_refl _) (fun _ _ e => e), fun g hg => by cases hg⟩)
 clear h hm hst
 go_enter Tryz.func34, Tryz.ntmps34
 go_wp2_with fail
 refine HMY.out.mono ?_
 rintro en w2 ⟨rfl, hs2⟩
 have F2 := Lib.hid (F.out _ hs2)
 clear hs2 F
 go_wp2_with fail
 go_ret
 exact F2.out
theorem rput_any (w : World) (Q : Nat → Prop) (e : PE) (ov nv mv lv dv pv : Value) (h : EIs w Q e ov nv mv lv dv pv) : Calls Tryz.prog 34 #[.agg (eV e ov nv mv lv dv pv)] w (FreshPost w 1 (putB e).length (bc (putB e))) := by
 unfold putB
 cases hm : e.may with
 | true => exact rput_yes w Q e ov nv mv lv dv pv h hm
 | false => exact rput_no w Q e ov nv mv lv dv pv h hm
end Go.Proofs.YtojkggppcmdepaaGreat

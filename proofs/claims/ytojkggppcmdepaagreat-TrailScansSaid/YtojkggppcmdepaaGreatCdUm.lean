/- The document's Scan. Conditions: the bytes lie in memory. -/
import Derived.Test.YtojkggppcmdepaaGreatCdTm
import Derived.Test.YtojkggppcmdepaaGreatCdM
import Derived.Test.YtojkggppcmdepaaGreatTrSc
namespace Go.Proofs.YtojkggppcmdepaaGreat
open Go.RowKit Go.Wh Go.Maps

theorem i64_small {z : Nat} (h : z ≤ 1000000) : IntKind.i64.wrap (z : Int) = (z : Int) := IntWalk.i64_in _ (by omega)
theorem cast_add (a b c : Nat) (h : a + b = c) : (a : Int) + (b : Int) = (c : Int) := by omega
/-- The frame at the front, by its parts. -/
theorem firstB_parts {b : List Int} {m N : Nat} {x y u v : Int} (hx : b[m]? = some x) (hy : b[m + 1]? = some y) (hN : x * 256 + y = (N : Int)) (hu : b[m + 2 + N]? = some u) (hv : b[m + 3 + N]? = some v) :
    firstB (b.drop m) = if u = (sumB ((b.drop (m + 2)).take N) (0, 0)).1 ∧ v = (sumB ((b.drop (m + 2)).take N) (0, 0)).2 then (takeE ((b.drop (m + 2)).take N)).map fun e => (e, N + 4) else none := by
  have h1 := (List.getElem?_eq_some_iff.1 hx)
  have h2 := (List.getElem?_eq_some_iff.1 hy)
  have h3 := (List.getElem?_eq_some_iff.1 hu)
  have h4 := (List.getElem?_eq_some_iff.1 hv)
  obtain ⟨l1, e1⟩ := h1
  obtain ⟨l2, e2⟩ := h2
  obtain ⟨l3, e3⟩ := h3
  obtain ⟨l4, e4⟩ := h4
  have hd : b.drop m = x :: y :: b.drop (m + 2) := by
    rw [List.drop_eq_getElem_cons l1, e1, List.drop_eq_getElem_cons l2, e2]
  have ht : ((b.drop (m + 2)).drop N).take 2 = [u, v] := by
    rw [List.drop_drop, List.drop_eq_getElem_cons l3, e3, show m + 2 + N + 1 = m + 3 + N by omega, List.drop_eq_getElem_cons l4, e4]
    rfl
  rw [hd, firstB_cons, hN, Int.toNat_natCast, if_neg (by rw [List.length_drop]; omega), ht]
  unfold chkB
  simp only [List.cons.injEq, and_true]
theorem firstB_long {b : List Int} {m N : Nat} {x y : Int} (hx : b[m]? = some x) (hy : b[m + 1]? = some y) (hN : x * 256 + y = (N : Int)) (hl : b.length < m + 4 + N) : firstB (b.drop m) = none := by
  obtain ⟨l1, e1⟩ := (List.getElem?_eq_some_iff.1 hx)
  obtain ⟨l2, e2⟩ := (List.getElem?_eq_some_iff.1 hy)
  have hd : b.drop m = x :: y :: b.drop (m + 2) := by
    rw [List.drop_eq_getElem_cons l1, e1, List.drop_eq_getElem_cons l2, e2]
  rw [hd, firstB_cons, hN, Int.toNat_natCast, if_pos (by rw [List.length_drop]; omega)]
set_option maxHeartbeats 8000000 in
set_option maxRecDepth 100000 in
theorem rscan_any (w : World) (Q : Nat → Prop) (bv : Value) (n : Nat) (b : List Int) (hb : Sl w Q 1 bv n (bc b)) (hc : Cap n bv) (hby : Byt b) (hn : n ≤ 100000) :
    Calls Tryz.prog 11 #[bv] w (ScanPost w b) := by
  have hl : b.length = n := by have := hb.1; rw [bc_length] at this; omega
  have H := Lib.hid (And.intro hb (And.intro hc (And.intro hby (And.intro hn hl))))
  obtain ⟨ba, bcp, rfl⟩ := hb.form
  obtain ⟨i0, hi0, hz0, hz1, hz2⟩ := info_parts info_en
  have HI := Lib.hid (And.intro hi0 (And.intro hz0 (And.intro hz1 hz2)))
  clear hb hc hby hn hl hi0 hz0 hz1 hz2
  go_enter Tryz.func11, Tryz.ntmps11
  go_wp2_with fail
  go_loopw [4, 5] (fun s4 s5 wr => ∃ m : Nat, s5 = .int .i64 m ∧ ScRel w b m s4 wr) (fun _ s5 _ => n - (intOf s5).toNat)
  case atStart => exact ⟨0, rfl, [], EnVec.nil, Still.refl _, (fun g e => by cases e), Nat.zero_le _, Nat.le_refl _, by simp⟩
  obtain ⟨m, rfl, es, hev, hst, hown, hm, h4, hsc⟩ := hrel
  obtain ⟨va, vc, rfl⟩ := hev.form
  have hbl := H.out.2.2.2.2
  have HH := Lib.hid (And.intro hev (And.intro hst (And.intro hown (And.intro hm (And.intro h4 hsc)))))
  have HM := Lib.hid (show m ≤ n ∧ n ≤ 100000 from ⟨by omega, H.out.2.2.2.1⟩)
  have FX := Lib.hid (fun w2 (hs2 : Still wr w2) (hf : firstB (b.drop m) = none) => show ScanPost w b (.returned (.tuple #[.slice va es.length vc, .int .i64 (m : Nat)])) w2 from by
    have hs := hsc
    have e0 : scanB (b.length - m + 1) (b.drop m) = ([], 0) := by
      unfold scanB
      rw [hf]
    rw [e0] at hs
    simp only [List.append_nil, Nat.add_zero] at hs
    have hz := hs2.size
    obtain ⟨vs, hv1, hv2⟩ := hev
    refine ⟨_, by rw [← hs], ?_, hst.trans hs2⟩
    rw [← hs]
    exact EnVec.ents (P := fun g => w.heap.size ≤ g ∧ (Value.slice va es.length vc).ownBlock ≠ some g) ⟨vs, hv1.only hs2 (fun _ _ e => e), hv2.only hs2 (fun _ _ e => e)⟩ (fun g hg => hg.1) fun g hg => ⟨(hown g hg).1, by have := (hown g hg).2; omega⟩)
  have HB := Lib.hid (H.out.1.still hst)
  clear hev hst hown hm h4 hsc hbl
  obtain ⟨M2, hM2⟩ : ∃ k, m + 2 = k := ⟨_, rfl⟩
  have HM2 := Lib.hid hM2
  have a2 := cast_add m 2 M2 hM2
  have a2' : (m : Int) + 2 = (M2 : Int) := a2
  have w2' := i64_small (z := M2) (by have := HM.out; omega)
  clear a2 hM2
  by_cases h2 : M2 ≤ n
  rotate_left
  · have d1 : decide ((M2 : Int) ≤ (n : Int)) = false := decide_eq_false (by omega)
    have d2 : decide (M2 ≤ n) = false := decide_eq_false h2
    have F := Lib.hid (FX.out wr (Still.refl _) (firstB_short (by rw [List.length_drop]; have := H.out.2.2.2.2; have := HM2.out; omega)))
    go_wp2_with fail
    go_ret2
    exact F.out
  have d1 : decide ((M2 : Int) ≤ (n : Int)) = true := decide_eq_true (by omega)
  have d2 : decide (M2 ≤ n) = true := decide_eq_true h2
  obtain ⟨x, hx⟩ : ∃ x, b[m]? = some x := ⟨_, List.getElem?_eq_getElem (by have := H.out.2.2.2.2; have := HM2.out; omega)⟩
  obtain ⟨y, hy⟩ : ∃ y, b[m + 1]? = some y := ⟨_, List.getElem?_eq_getElem (by have := H.out.2.2.2.2; have := HM2.out; omega)⟩
  have hxb := H.out.2.2.1 x (List.mem_of_getElem? hx)
  have hyb := H.out.2.2.1 y (List.mem_of_getElem? hy)
  obtain ⟨g, o, c, he, -, -, hcs⟩ := HB.out.pos (by have := HM2.out; omega)
  cases he
  obtain ⟨N, hN⟩ : ∃ N : Nat, x * 256 + y = (N : Int) := ⟨(x * 256 + y).toNat, by omega⟩
  have HXY := Lib.hid (And.intro hx (And.intro hy (And.intro hN (show N ≤ 65535 by omega))))
  have nums := Lib.hid (show IntKind.i64.wrap x = x ∧ IntKind.i64.wrap y = y ∧ IntKind.i64.wrap (x * 256) = x * 256 ∧ IntKind.i64.wrap (x * 256 + y) = x * 256 + y from ⟨IntWalk.i64_in _ (by omega), IntWalk.i64_in _ (by omega), IntWalk.i64_in _ (by omega), IntWalk.i64_in _ (by omega)⟩)
  have i1 : IntKind.i64.wrap ((m : Int) + 1) = (m : Int) + 1 := IntWalk.i64_in _ (by have := HM.out; omega)
  have HI1 := Lib.hid i1
  clear i1
  have p0 : (0 : Int) ≤ (m : Int) := by omega
  have p1 : (0 : Int) ≤ (m : Int) + 1 := by omega
  have p2 : ((m : Int) + 1).toNat = m + 1 := by omega
  have p3 : (m : Int) < (n : Int) := by have := HM2.out; omega
  have p4 : (m : Int) + 1 < (n : Int) := by have := HM2.out; omega
  have r0 : wr.cell? ⟨g, o + m, none⟩ = some (.int .u8 x) := hcs m _ (bc_get hx)
  have r1 : wr.cell? ⟨g, o + (m + 1), none⟩ = some (.int .u8 y) := hcs (m + 1) _ (bc_get hy)
  have r1' : wr.cell? ⟨g, o + m + 1, none⟩ = some (.int .u8 y) := by rw [Nat.add_assoc]; exact r1
  have HCS := Lib.hid hcs
  have HNN := Lib.hid hN
  clear hxb hyb hx hy hcs hN
  go_upto_region 4 with fail
  obtain ⟨n1, n2, n3, n4⟩ := nums.out
  have i1 := HI1.out
  go_quiet (fail)
  clear n1 n2 n3 n4 i1 p1 p2 p3 p4 r0 r1 r1'
  have hsD : Still wr (wr.drewN nq) := (Still.refl wr).drewN nq
  have HSD := Lib.hid hsD
  clear hsD
  generalize wr.drewN nq = w1 at *
  rw [HNN.out]
  obtain ⟨K, hK⟩ : ∃ k, M2 + N = k := ⟨_, rfl⟩
  obtain ⟨M3, hM3⟩ : ∃ k, m + 3 = k := ⟨_, rfl⟩
  obtain ⟨K3, hK3⟩ : ∃ k, M3 + N = k := ⟨_, rfl⟩
  obtain ⟨M4, hM4⟩ : ∃ k, m + 4 = k := ⟨_, rfl⟩
  obtain ⟨K4, hK4⟩ : ∃ k, M4 + N = k := ⟨_, rfl⟩
  have HKS := Lib.hid (And.intro hK (And.intro hM3 (And.intro hK3 (And.intro hM4 hK4))))
  have bK := i64_small (z := K) (by have := HM.out; have := HXY.out.2.2.2; have := HM2.out; omega)
  have b3 := i64_small (z := M3) (by have := HM.out; omega)
  have bK3 := i64_small (z := K3) (by have := HM.out; have := HXY.out.2.2.2; omega)
  have b4 := i64_small (z := M4) (by have := HM.out; omega)
  have bK4 := i64_small (z := K4) (by have := HM.out; have := HXY.out.2.2.2; omega)
  have aK := cast_add M2 N K hK
  have a3 : (m : Int) + 3 = (M3 : Int) := cast_add m 3 M3 hM3
  have aK3 := cast_add M3 N K3 hK3
  have a4 : (m : Int) + 4 = (M4 : Int) := cast_add m 4 M4 hM4
  have aK4 := cast_add M4 N K4 hK4
  clear hK hM3 hK3 hM4 hK4
  by_cases hlen : n < K4
  · have e1 : decide ((n : Int) < (K4 : Int)) = true := decide_eq_true (by omega)
    have e2 : decide (n < K4) = true := decide_eq_true hlen
    have F := Lib.hid (FX.out w1 HSD.out (firstB_long HXY.out.1 HXY.out.2.1 HXY.out.2.2.1 (by have := H.out.2.2.2.2; have := HKS.out; omega)))
    go_wp2_with fail
    go_ret2
    exact F.out
  have e1 : decide ((n : Int) < (K4 : Int)) = false := decide_eq_false (by omega)
  have e2 : decide (n < K4) = false := decide_eq_false hlen
  have HLE := Lib.hid (show K4 ≤ n from by omega)
  obtain ⟨u, hu⟩ : ∃ u, b[K]? = some u := ⟨_, List.getElem?_eq_getElem (by have := H.out.2.2.2.2; have := HKS.out; have := HM2.out; omega)⟩
  obtain ⟨v, hv⟩ : ∃ v, b[K3]? = some v := ⟨_, List.getElem?_eq_getElem (by have := H.out.2.2.2.2; have := HKS.out; omega)⟩
  have hub := H.out.2.2.1 u (List.mem_of_getElem? hu)
  have hvb := H.out.2.2.1 v (List.mem_of_getElem? hv)
  have HFP := Lib.hid (firstB_parts HXY.out.1 HXY.out.2.1 HXY.out.2.2.1 (by rw [show m + 2 + N = K by have := HKS.out.1; have := HM2.out; omega]; exact hu) (by rw [show m + 3 + N = K3 by have := HKS.out; omega]; exact hv))
  obtain ⟨pv, r1, -, -, hp1, hp2⟩ := HB.out.part (P := Tryz.prog) (size := 1) 23 Tryz.underlying23 (fun w => rfl) H.out.2.1 (show M2 ≤ K by have := HKS.out.1; omega) (show K ≤ n by have := HKS.out; have := HM2.out; omega)
  have hps := hp2 wr Q HB.out
  rw [Nat.mul_one, Nat.mul_one, bc_drop, bc_take, show K - M2 = N by have := HKS.out.1; omega] at hps
  rw [show K - M2 = N by have := HKS.out.1; omega] at hp1
  rw [HM2.out] at HFP
  obtain ⟨s, hs⟩ : ∃ s, (b.drop M2).take N = s := ⟨_, rfl⟩
  rw [hs] at hps HFP
  have hsby : Byt s := by rw [← hs]; exact (H.out.2.2.1.drop M2).take N
  have hsl : s.length = N := by rw [← hs, List.length_take, List.length_drop]; have := HKS.out; have := H.out.2.2.2.2; have := HM2.out; omega
  have HSB := Lib.hid (And.intro hsby hsl)
  have HCU := Lib.hid (fun w' (hst : Still wr w') => show w'.cell? ⟨g, o + K, none⟩ = some (.int .u8 u) ∧ w'.cell? ⟨g, o + K3, none⟩ = some (.int .u8 v) from ⟨Still.cell hst (HCS.out K _ (bc_get hu)), Still.cell hst (HCS.out K3 _ (bc_get hv))⟩)
  obtain ⟨pa, pc, rfl⟩ := hps.form
  have HSM := Lib.hid (rsums w1 Q pa N pc s (hps.still HSD.out) hsby (by have := HXY.out.2.2.2; omega))
  have HTE := Lib.hid (rtakeE_any w1 Q (.slice pa N pc) N s (hps.still HSD.out) hp1 hsby (by have := HXY.out.2.2.2; omega))
  obtain ⟨sx, hsx⟩ : ∃ x, (sumB s (0, 0)).1 = x := ⟨_, rfl⟩
  obtain ⟨sy, hsy⟩ : ∃ y, (sumB s (0, 0)).2 = y := ⟨_, rfl⟩
  rw [hsx, hsy] at HSM HFP
  have uw : IntKind.i64.wrap u = u := IntWalk.i64_in _ (by omega)
  have vw : IntKind.i64.wrap v = v := IntWalk.i64_in _ (by omega)
  clear hlen hu hv hub hvb hp1 hp2 hps hs hsby hsl hsx hsy
  go_wp2_with fail
  refine HSM.out.mono ?_
  rintro en w2 ⟨rfl, rfl⟩
  clear HSM
  go_wp2_with fail
  refine HTE.out.mono ?_
  rintro en w3 htp
  obtain ⟨hs3, hres⟩ := htp.split
  have HS3 := Lib.hid (HSD.out.trans hs3)
  have HS3' := Lib.hid hs3
  clear htp hs3 HTE
  have kl : (K : Int) < (n : Int) := by have := HKS.out; have := HLE.out; have := HM2.out; omega
  have kl3 : (K3 : Int) < (n : Int) := by have := HKS.out; have := HLE.out; omega
  have k0 : (0 : Int) ≤ (K : Int) := by omega
  have k03 : (0 : Int) ≤ (K3 : Int) := by omega
  obtain ⟨q1, hq1⟩ : ∃ q, (u != sx) = q := ⟨_, rfl⟩
  obtain ⟨q2, hq2⟩ : ∃ q, (v != sy) = q := ⟨_, rfl⟩
  have HNO := Lib.hid (show q1 = true ∨ q2 = true ∨ takeE s = none → firstB (b.drop m) = none from by
    rw [HFP.out]
    rintro (h | h | h)
    · rw [if_neg]
      rintro ⟨h1, -⟩
      rw [h] at hq1
      simp [h1] at hq1
    · rw [if_neg]
      rintro ⟨-, h1⟩
      rw [h] at hq2
      simp [h1] at hq2
    · rw [h]
      split <;> rfl)
  have HYE := Lib.hid (show ∀ e, q1 = false → q2 = false → takeE s = some e → firstB (b.drop m) = some (e, N + 4) from by
    intro e h1 h2 h3
    rw [HFP.out, if_pos, h3]
    · rfl
    · rw [h1] at hq1
      rw [h2] at hq2
      exact ⟨by simpa using hq1, by simpa using hq2⟩)
  rcases hres with ⟨hf, hen⟩ | ⟨e, ov, nv, mv, lv, dv, pv, hf, rfl, hel⟩
  · have hen2 : en = .returned (.tuple #[.agg #[.int .i64 0, .int .i64 0, .int .i64 0, .int .i64 0, .int .i64 0, .int .i64 0, .int .i64 0, .int .i64 0, .int .i64 0, .int .i64 0, .slice none 0 0, .slice none 0 0, .slice none 0 0, .slice none 0 0, .slice none 0 0, .slice none 0 0], .int .i64 4]) := hen
    subst hen2
    as_aux_lemma =>
      have HF0 := Lib.hid (HNO.out (.inr (.inr hf)))
      have HZN := Lib.hid (fun tt => cellsAt_new w3 zE tt)
      have HWF := Lib.hid (fun tt wf (hof : Only (fun b => b = w3.heap.size) (w3.alloc (.cells #[.int .i64 0, .int .i64 0, .int .i64 0, .int .i64 0, .int .i64 0, .int .i64 0, .int .i64 0, .int .i64 0, .int .i64 0, .int .i64 0, .slice none 0 0, .slice none 0 0, .slice none 0 0, .slice none 0 0, .slice none 0 0, .slice none 0 0] tt)) wf) => show Still wr wf from HS3.out.trans (Only.andThen ((Still.refl w3).alloc _) hof fun i hi e => by have e' : i = w3.heap.size := e; omega))
      clear hf HNO HYE
      go_upto_region 9 with (refine wpList_storeAgg rfl 34 _ _ rfl w3.heap.size #[.int .i64 0, .int .i64 0, .int .i64 0, .int .i64 0, .int .i64 0, .int .i64 0, .int .i64 0, .int .i64 0, .int .i64 0, .int .i64 0, .slice none 0 0, .slice none 0 0, .slice none 0 0, .slice none 0 0, .slice none 0 0, .slice none 0 0] rfl rfl (HZN.out _) size_en rfl rfl ?_; intro wf hcf hof hzf; have HW := Lib.hid (HWF.out _ wf hof); clear hcf hof hzf)
      have F := Lib.hid (FX.out wf HW.out HF0.out)
      obtain ⟨cu, cv⟩ := HCU.out wf HW.out
      cases q1
      rotate_left
      · go_wp2_with fail
        go_ret2
        exact F.out
      cases q2
      rotate_left
      · go_wp2_with fail
        go_ret2
        exact F.out
      go_wp2_with fail
      go_ret2
      exact F.out
  · obtain ⟨oa, oc, na, nc, ma, mc, la, lc, da, dc, xa, xc, rfl, rfl, rfl, rfl, rfl, rfl⟩ := hel.forms
    · have HEL := Lib.hid hel
      have HF := Lib.hid hf
      unfold eV
      have HZN := Lib.hid (fun tt => cellsAt_new w3 zE tt)
      have HWF := Lib.hid (fun tt wf (hcf : cellsAt wf w3.heap.size (#[.int .i64 e.kind, .int .i64 e.txn, .int .i64 e.unit, .int .i64 e.half, .int .i64 e.prev, .int .i64 e.next, .int .i64 e.ap, .int .i64 e.ac, .int .i64 e.tp, .int .i64 e.tc, .slice oa e.old.length oc, .slice na e.new.length nc, .slice ma e.moves.length mc, .slice la e.lives.length lc, .slice da e.dirty.length dc, .slice xa e.opens.length xc] : Array Value).toList) (hof : Only (fun b => b = w3.heap.size) (w3.alloc (.cells #[.int .i64 0, .int .i64 0, .int .i64 0, .int .i64 0, .int .i64 0, .int .i64 0, .int .i64 0, .int .i64 0, .int .i64 0, .int .i64 0, .slice none 0 0, .slice none 0 0, .slice none 0 0, .slice none 0 0, .slice none 0 0, .slice none 0 0] tt)) wf) => show Still wr wf ∧ Still w3 wf ∧ cellsAt wf w3.heap.size (#[.int .i64 e.kind, .int .i64 e.txn, .int .i64 e.unit, .int .i64 e.half, .int .i64 e.prev, .int .i64 e.next, .int .i64 e.ap, .int .i64 e.ac, .int .i64 e.tp, .int .i64 e.tc, .slice oa e.old.length oc, .slice na e.new.length nc, .slice ma e.moves.length mc, .slice la e.lives.length lc, .slice da e.dirty.length dc, .slice xa e.opens.length xc] : Array Value).toList from
        have h : Still w3 wf := Only.andThen ((Still.refl w3).alloc _) hof fun i hi e => by have e' : i = w3.heap.size := e; omega
        ⟨HS3.out.trans h, h, hcf⟩)
      clear hf hel
      go_upto_region 9 with (refine wpList_storeAgg rfl 34 _ _ rfl w3.heap.size #[.int .i64 e.kind, .int .i64 e.txn, .int .i64 e.unit, .int .i64 e.half, .int .i64 e.prev, .int .i64 e.next, .int .i64 e.ap, .int .i64 e.ac, .int .i64 e.tp, .int .i64 e.tc, .slice oa e.old.length oc, .slice na e.new.length nc, .slice ma e.moves.length mc, .slice la e.lives.length lc, .slice da e.dirty.length dc, .slice xa e.opens.length xc] rfl rfl (HZN.out _) size_en rfl rfl ?_; intro wf hcf hof hzf; have HW := Lib.hid (HWF.out _ wf hcf hof); clear hcf hof hzf)
      obtain ⟨cu, cv⟩ := HCU.out wf HW.out.1
      cases q1
      rotate_left
      · have F := Lib.hid (FX.out wf HW.out.1 (HNO.out (.inl rfl)))
        go_wp2_with fail
        go_ret2
        exact F.out
      cases q2
      rotate_left
      · have F := Lib.hid (FX.out wf HW.out.1 (HNO.out (.inr (.inl rfl))))
        go_wp2_with fail
        go_ret2
        exact F.out
      have HFI := Lib.hid (HYE.out e rfl rfl HF.out)
      obtain ⟨vs, hvs, hvv⟩ := HH.out.1
      have HVS := Lib.hid hvs
      have HV2 := Lib.hid (hvv.only HW.out.1 fun _ _ e => e)
      have HNX := Lib.hid (fun (o1 : Obj) v' w' (hv' : Vec w' 16 v' (es.length + 1) (vs.flatten ++ [.int .i64 e.kind, .int .i64 e.txn, .int .i64 e.unit, .int .i64 e.half, .int .i64 e.prev, .int .i64 e.next, .int .i64 e.ap, .int .i64 e.ac, .int .i64 e.tp, .int .i64 e.tc, .slice oa e.old.length oc, .slice na e.new.length nc, .slice ma e.moves.length mc, .slice la e.lives.length lc, .slice da e.dirty.length dc, .slice xa e.opens.length xc])) (ho' : Only (fun k => (Value.slice va es.length vc).ownBlock = some k) (wf.alloc o1) w') (hb' : v'.ownBlock = (Value.slice va es.length vc).ownBlock ∨ ∃ g, v'.ownBlock = some g ∧ (wf.alloc o1).heap.size ≤ g ∧ g < w'.heap.size) => show ScRel w b K4 v' w' from by
        have hs3 : Still wf (wf.alloc o1) := (Still.refl wf).alloc _
        have hs4 := HW.out.1.trans hs3
        have hz := HH.out.2.1.size
        have hz2 := hs4.size
        have hz3 := HS3.out.size
        have hz4 := HSD.out.size
        have hzo := ho'.size
        have hsc := HH.out.2.2.2.2.2
        have hbl := H.out.2.2.2.2
        have hks := HKS.out
        have hle := HLE.out
        have hm2 := HM2.out
        refine ⟨es ++ [e], EnVec.push (HVS.out.only hs4 fun _ _ e => e) (EIs.mono ((HEL.out.still HW.out.2.1).still hs3) fun g hg => ⟨by omega, fun e => by have := (HH.out.2.2.1 g e).2; omega⟩) hv' ho' hb', (HH.out.2.1.trans hs4).andThen ho' fun i hi e => by have := (HH.out.2.2.1 i e).1; omega, fun g hg => ?_, by omega, ?_, ?_⟩
        · rcases hb' with e' | ⟨g', e', e1, e2⟩
          · rw [e'] at hg
            have := HH.out.2.2.1 g hg
            omega
          · rw [e'] at hg
            have e3 : g' = g := Option.some.inj hg
            omega
        · rw [List.length_append, List.length_singleton]
          have := HH.out.2.2.2.2.1
          omega
        · have e1 : scanB (b.length - m + 1) (b.drop m) = (e :: (scanB (b.length - m) (b.drop (m + (N + 4)))).1, N + 4 + (scanB (b.length - m) (b.drop (m + (N + 4)))).2) := by
            show (match firstB (b.drop m) with | none => _ | some (e, n) => _) = _
            rw [HFI.out]
            simp only [List.drop_drop]
          rw [e1, show m + (N + 4) = K4 by omega, scanB_fuel (b.length - m) (b.length - K4 + 1) (by rw [List.length_drop]; omega) (by rw [List.length_drop]; omega)] at hsc
          rw [← hsc, List.append_assoc, show K4 = m + (N + 4) by omega, Nat.add_assoc]
          rfl)
      obtain ⟨du, hu, hdu⟩ := under_en
      have HU := Lib.hid (And.intro hu hdu)
      have HL1 := Lib.hid (show es.length + 1 ≤ maxLen ∧ (es.length + 1) * 224 ≤ 140737488355328 from by
        have := HH.out.2.2.2.2.1
        have := HH.out.2.2.2.1
        have := H.out.2.2.2
        simp only [maxLen]
        omega)
      clear hu hdu hvs hvv
      go_wp2_with (first
        | (refine wpList_loadAgg rfl 34 _ rfl w3.heap.size #[.int .i64 e.kind, .int .i64 e.txn, .int .i64 e.unit, .int .i64 e.half, .int .i64 e.prev, .int .i64 e.next, .int .i64 e.ap, .int .i64 e.ac, .int .i64 e.tp, .int .i64 e.tc, .slice oa e.old.length oc, .slice na e.new.length nc, .slice ma e.moves.length mc, .slice la e.lives.length lc, .slice da e.dirty.length dc, .slice xa e.opens.length xc] rfl HW.out.2.2 du HU.out.1 HU.out.2 size_en ?_)
        | (at_builtin; refine wpList_append_vec rfl _ _ 22 rfl 34 i0 _ 16 224 Tryz.underlying22 HI.out.1 HI.out.2.1 HI.out.2.2.1 HI.out.2.2.2 rfl (by decide) (.slice va es.length vc) es.length vs.flatten (by simp [Act.eval]) (HV2.out.alloc _) (.slice (some ⟨wf.heap.size, 0, none⟩) 1 1) 1 [.int .i64 e.kind, .int .i64 e.txn, .int .i64 e.unit, .int .i64 e.half, .int .i64 e.prev, .int .i64 e.next, .int .i64 e.ap, .int .i64 e.ac, .int .i64 e.tp, .int .i64 e.tc, .slice oa e.old.length oc, .slice na e.new.length nc, .slice ma e.moves.length mc, .slice la e.lives.length lc, .slice da e.dirty.length dc, .slice xa e.opens.length xc] (by simp [Act.eval]) ((cellsAt_new wf [.int .i64 e.kind, .int .i64 e.txn, .int .i64 e.unit, .int .i64 e.half, .int .i64 e.prev, .int .i64 e.next, .int .i64 e.ap, .int .i64 e.ac, .int .i64 e.tp, .int .i64 e.tc, .slice oa e.old.length oc, .slice na e.new.length nc, .slice ma e.moves.length mc, .slice la e.lives.length lc, .slice da e.dirty.length dc, .slice xa e.opens.length xc] _).reads rfl) (by intro u hu; simp only [List.mem_cons, List.not_mem_nil, or_false] at hu; rcases hu with rfl | rfl | rfl | rfl | rfl | rfl | rfl | rfl | rfl | rfl | rfl | rfl | rfl | rfl | rfl | rfl <;> rfl) HL1.out.1 HL1.out.2 ?_; intro v' w' hv' ho' hb'; have HN2 := Lib.hid (HNX.out _ v' w' hv' ho' hb'); clear hv' ho' hb' HNX))
      go_roundw
      case rel => exact ⟨K4, by rfl, HN2.out⟩
      case measure => simp [intOf]; have := HKS.out; have := HLE.out; omega
end Go.Proofs.YtojkggppcmdepaaGreat

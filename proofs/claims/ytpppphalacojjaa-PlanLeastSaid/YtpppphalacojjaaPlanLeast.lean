/- PlanLeast: the walk. No conditions. -/
import Derived.Test.YtpppphalacojjaaPlanLeastC
import Derived.Deep.DeepCutAuto
namespace Go.Proofs.Ytpppphalacojjaa
open Go.RowKit Go.Wh

set_option maxRecDepth 100000 in
set_option maxHeartbeats 2000000 in
theorem planLeast_walk (a0 : Option Addr) (len cap : Nat) (zs : List Int) (turn free : Int) (W : World) (h : IsRow .u8 W a0 len zs) (hlen : zs.length = len) (hl : len ≤ 12) (ht0 : 0 ≤ turn) (ht1 : turn < 256) (hf0 : 0 ≤ free) (hf1 : free < 256) :
    Calls Try.prog 6 #[.slice a0 len cap, .int .u8 turn, .int .u8 free] W (BTrue W) := by
  have HI := Lib.hid h
  clear h
  obtain ⟨za, hza⟩ : ∃ za : Array Value, za = (List.replicate 256 (.bool false)).toArray := ⟨_, rfl⟩
  have hzero := zero256
  rw [← hza] at hzero
  have HZ := Lib.hid hza
  clear hza
  go_enter Try.func6, Try.ntmps6
  go_wp2_with fail
  refine (begun_any _).mono ?_
  rintro e w1 ⟨rfl, hb1⟩
  have HB1 := Lib.hid hb1
  have hw2 : L1 W w1.heap.size zs 0 (.slice none 0 0) (w1.alloc (.cells za 41)) := by
    rw [HZ.out]
    exact ⟨(Flags.new w1 256 _).same (fun j _ => by simp), Vec.nil _ _, hb1.alloc hb1.size _, hb1.size, fun g hg => by cases hg⟩
  have HW := Lib.hid hw2
  clear hb1 hw2
  have HL := Lib.hid hlen
  clear hlen
  have hcv := fun (w : World) (b : Nat) (z : Int) (hc : w.cell? ⟨b, 0, none⟩ = some (.int .u8 z)) => run_convert_bytes_arg (P := Try.prog) w 29 5 Try.underlying29 Try.underlying5 b 0 1 1 [z] rfl (fun i hi => by
    have : i = 0 := by omega
    subst this
    exact hc) 9 Try.underlying9
  have HCV := Lib.hid hcv
  clear hcv
  go_wp2_with fail
  generalize hr : w1.heap.size = r at HW
  have HRR := Lib.hid hr
  have hW := HW.out
  generalize (w1.alloc (.cells za 41)) = w2 at *
  go_loopw [8, 9] (fun v s wr => ∃ i : Nat, s = .int .i64 i ∧ i ≤ len ∧ L1 W r zs i v wr) (fun _ s _ => len - (intOf s).toNat)
  case atStart => exact ⟨0, rfl, by omega, hW⟩
  case round =>
    clear hW HW
    obtain ⟨i, rfl, hi, hrel⟩ := hrel
    have HL1 := Lib.hid hrel
    clear hrel
    by_cases hil : i < len
    · obtain ⟨b, off, rfl, hc, hz⟩ := isRow_later HI.out HL1.out.below hil
      obtain ⟨z0, z1⟩ := byte_wf hz
      have HZE := Lib.hid (show i < zs.length ∧ zs.getD i 0 = zs.getD i 0 from ⟨by rw [HL.out]; exact hil, rfl⟩)
      clear hz
      generalize hzz : zs.getD i 0 = z at z0 z1 hc
      obtain ⟨f0, f1⟩ := HL1.out.flag z0 z1
      have HE := Lib.hid hzz
      clear hzz
      by_cases hz : z ∈ zs.take i
      · have HS := Lib.hid (HL1.out.seen z0 z1 HZE.out.1 HE.out hz)
        simp only [hz, decide_true] at f0
        clear hz HL1 HZE HE
        go_wp2_with fail
        go_roundw
        case rel => exact ⟨i + 1, by go_num, by omega, HS.out⟩
        case measure => simp [intOf]; omega
      · have HA := Lib.hid (HL1.out.app 5 31 z0 z1 HZE.out.1 HE.out hz)
        have hcx : (convert 29 9 (.slice (some ⟨wr.heap.size, 0, none⟩) 1 1)).run Try.prog (wr.alloc (.cells #[.int .u8 z] 5)) = .ok (.string (kz z)) (wr.alloc (.cells #[.int .u8 z] 5)) :=
          HCV.out _ _ z ((cellsAt_new wr [.int .u8 z] 5).cell 0)
        have HB := Lib.hid HL1.out.below
        have hm : (fsts zs i).length ≤ 12 := by have := fsts_len zs i; omega
        have HK := Lib.hid (fun (W' : World) (hb : Below W.heap.size W W') => show W'.cell? ⟨b, off + i, none⟩ = some (.int .u8 z) by
          obtain ⟨b', off', e, h, _⟩ := isRow_later HI.out hb hil
          cases e
          rw [HE.out] at h
          exact h)
        simp only [hz, decide_false] at f0
        obtain ⟨i0, hi0, hz0, hz1, hz2⟩ := info_parts infoSpot
        have HI0 := Lib.hid hi0
        have HZ0 := Lib.hid hz0
        have HZ1 := Lib.hid hz1
        have HZ2 := Lib.hid hz2
        clear hz hz0 hz1 hz2 hi0
        go_wp2_with (at_builtin; refine wpList_append_vec rfl _ _ 24 rfl 31 i0 _ 3 32 Try.underlying24 HI0.out HZ0.out HZ1.out HZ2.out rfl (by decide) _ _ _ rfl HA.out.old _ 1 _ rfl HA.out.new (sc_one [⟨kz z, i, 0⟩]) (by simp only [maxLen]; omega) (by omega) ?_; intro v' w' hv' ho' hb'; obtain ⟨q0, q1, hbw, hl1⟩ := HA.out.next v' w' hv' ho' hb' (.inr trivial); have hcw := HK.out _ hbw; have HN := Lib.hid hl1; clear hl1 hbw hv' ho' hb')
        go_roundw
        case rel => exact ⟨i + 1, by go_num, by omega, HN.out⟩
        case measure => simp [intOf]; omega
    · have hie : i = len := by omega
      subst hie
      have HM := Lib.hid (show (fsts zs i).length ≤ 12 from Nat.le_trans (fsts_len zs i) hl)
      obtain ⟨m, hm⟩ : ∃ m, (fsts zs i).length = m := ⟨_, rfl⟩
      have HV := Lib.hid (hm ▸ HL1.out.vec)
      have HMM := Lib.hid hm
      clear hm
      obtain ⟨va, vcap, rfl⟩ := HV.out.form'
      go_upto_if 57 with fail
      go_cut [10] (fun vb wc => CutB zs i wr vb wc)
      case first =>
        by_cases hm0 : m = 0
        · have F := Lib.hid (show CutB zs i wr (.slice none 0 0) wr from ⟨[], by
            have := HMM.out
            rw [hm0] at this
            rw [List.length_eq_zero_iff.1 this], Vec.nil _ _, Below.refl _ _⟩)
          go_wp2_with fail
          go_meet
          case rel => exact F.out
        · have hm1 : 0 < m := by omega
          obtain ⟨g, o, cap', hve, hv⟩ := HV.out.form hm1
          injection hve with hva _ hvc
          subst hva hvc
          obtain ⟨k, hk⟩ : ∃ k : Nat, turn % (m : Int) = (k : Int) := ⟨(turn % (m : Int)).toNat, by have := Int.emod_nonneg turn (show (m : Int) ≠ 0 by omega); omega⟩
          have hkm : k < m := by have := Int.emod_lt_of_pos turn (show (0 : Int) < m by omega); omega
          have hmc := hv.le
          have HRO := Lib.hid (rot_of hv HMM.out hkm)
          obtain ⟨i0, hi0, hz0, hz1, hz2⟩ := info_parts infoSpot
          have HI0 := Lib.hid hi0
          have HZ0 := Lib.hid hz0
          have HZ1 := Lib.hid hz1
          have HZ2 := Lib.hid hz2
          have hm12 : m ≤ 12 := by have := HM.out; have := HMM.out; omega
          clear hv hz0 hz1 hz2 hi0
          go_wp2_with fail
          clear hk
          have a1 : (0 : Int) ≤ (k : Int) := by omega
          have a2 : (k : Int) ≤ (m : Int) := by omega
          have a3 : (k : Int) ≤ (vcap : Int) := by omega
          go_region_held3 (fun _ => True) (trivial) (first
            | (refine step_append_vec rfl _ _ 24 rfl 31 i0 _ 3 32 Try.underlying24 HI0.out HZ0.out HZ1.out HZ2.out rfl (by decide) (.slice none 0 0) 0 [] (by simp [Act.eval]) (Vec.nil _ _) (.slice (some ⟨g, o + k * 3, none⟩) (m - k) (vcap - k)) (m - k) _ (by simp [Act.eval]; omega) HRO.out.x1 (sc_one _) (by simp only [maxLen]; omega) (by omega) ?_; intro v1' w1' hv1' ho1' hb1')
            | (refine step_append_vec rfl _ _ 24 rfl 31 i0 _ 3 32 Try.underlying24 HI0.out HZ0.out HZ1.out HZ2.out rfl (by decide) v1' (0 + (m - k)) _ (by simp [Act.eval]) hv1' (.slice (some ⟨g, o, none⟩) k vcap) k _ (by simp [Act.eval]) (HRO.out.x2 _ ho1') (sc_one _) (by simp only [maxLen]; omega) (by omega) ?_; intro v2' w2' hv2' ho2' hb2'))
          have F := Lib.hid (Rot.done HMM.out hkm ho1' hb1' hv2' ho2')
          clear hv1' hv2' ho1' ho2' hb1' hb2' HRO a1 a2 a3
          go_wp2_with fail
          go_meet
          case rel => exact F.out
      case rest =>
        obtain ⟨B, hBP, hBV, hBB⟩ := hcut
        have HBP := Lib.hid hBP
        have HBV := Lib.hid hBV
        have HFC := Lib.hid (HL1.out.flags.kept (hBB.block r (HL1.out.flags.lt (by omega))))
        have HVC := Lib.hid (HV.out.belowAll hBB)
        have HBC := Lib.hid (HL1.out.below.trans (Below.mono hBB HL1.out.below.size))
        have hm12 : m ≤ 12 := by have := HM.out; have := HMM.out; omega
        clear hBP hBV hBB HL1 HV HM HCV
        obtain ⟨f, hf⟩ : ∃ f : Nat, free % 4 = (f : Int) := ⟨(free % 4).toNat, by omega⟩
        have hf3 : f ≤ 3 := by omega
        obtain ⟨ir, hir, hrz0, hrz1, hrz2⟩ := info_parts infoRid
        have HI0 := Lib.hid hir
        have HZ0 := Lib.hid hrz0
        have HZ1 := Lib.hid hrz1
        have HZ2 := Lib.hid hrz2
        clear hrz0 hrz1 hrz2 hir
        go_wp2_with fail
        go_loopw [12, 13] (fun vc s wr1 => ∃ j : Nat, s = .int .i64 j ∧ Cells (f : Int) wc j vc wr1) (fun _ s _ => 4 - (intOf s).toNat)
        case atStart => exact ⟨0, rfl, Cells.start (by omega) _⟩
        case round =>
          obtain ⟨j, rfl, hrel⟩ := hrel
          have HC := Lib.hid hrel
          have hj3 : j ≤ 3 := by have := hrel.le; omega
          clear hrel
          by_cases hj : j < f
          · have HA := Lib.hid (HC.out.app 26 (by omega))
            go_wp2_with (at_builtin; refine wpList_append_vec rfl _ _ 35 rfl 26 ir _ 2 16 Try.underlying35 HI0.out HZ0.out HZ1.out HZ2.out rfl (by decide) _ _ _ rfl HA.out.old _ 1 _ rfl HA.out.new (rc_one [⟨20, j⟩]) (by simp only [maxLen]; omega) (by omega) ?_; intro v' w' hv' ho' hb'; have HN := Lib.hid (HA.out.next v' w' hv' ho' hb'); clear hv' ho' hb')
            go_roundw
            case rel => exact ⟨j + 1, by go_num, HN.out⟩
            case measure => simp [intOf]; omega
          · have hjf : j = f := by have := HC.out.le; omega
            subst hjf
            obtain ⟨w3, hw3⟩ : ∃ w3 : World, w3 = wr := ⟨_, rfl⟩
            have HVC3 := Lib.hid (HVC.out.belowAll HC.out.below)
            have HBV3 := Lib.hid (HBV.out.belowAll HC.out.below)
            have HF3 := Lib.hid (HFC.out.kept (HC.out.below.block r (HFC.out.lt (by omega))))
            have HB3 := Lib.hid (HBC.out.trans (Below.mono HC.out.below HBC.out.size))
            have HVX := Lib.hid HC.out.vec
            clear HC HVC HBV HFC HBC
            have hnl : i ≤ zs.length := by rw [HL.out]; omega
            have HZS := Lib.hid (show ∀ j, j < zs.length → 0 ≤ zs.getD j 0 ∧ zs.getD j 0 < 256 from fun j hj => by
              obtain ⟨_, _, _, _, hw⟩ := isRow_later HI.out (Below.refl _ _) (show j < i by rw [HL.out] at hj; exact hj)
              exact byte_wf hw)
            have HN1 := Lib.hid (least_next (fsts zs i) m j (.slice va m vcap) u12 wr HMM.out hm12 (fsts_distinct zs HZS.out i hnl) HVC3.out hj3 HVX.out)
            have HNL := Lib.hid hnl
            clear hnl hw3 w3
            go_wp2_with fail
            refine HN1.out.mono ?_
            clear HN1
            intro e1 w4 hp1
            have hq1 := hp1
            obtain ⟨v1, l1, rfl, _, _, _, hb4, _⟩ := hq1
            have HP1 := Lib.hid hp1
            have HBm : B.length = m := HBP.out.length_eq.trans HMM.out
            have HN2 := Lib.hid (least_next B m j u10 u12 w4 HBm hm12 ((fsts_distinct zs HZS.out i HNL.out).perm HBP.out.symm) (by rw [← HBm]; exact HBV3.out.belowAll hb4) hj3 (HVX.out.belowAll hb4))
            clear hp1 hb4 HBm
            go_wp2_with fail
            refine HN2.out.mono ?_
            clear HN2
            intro e2 w5 hp2
            obtain ⟨v1', v2, l, he1, rfl, hfin⟩ := fin_of HNL.out HZS.out HMM.out HBP.out HVX.out HF3.out HB3.out HP1.out hp2
            injection he1 with he1
            subst he1
            obtain ⟨q, hq⟩ : ∃ q, q = min (min m j) 2 := ⟨_, rfl⟩
            rw [← hq] at hfin
            obtain ⟨xa, xc, rfl⟩ := hfin.x.form'
            obtain ⟨ya, yc, rfl⟩ := hfin.y.form'
            obtain ⟨ca, cc, rfl⟩ := hfin.c.form'
            have HFI := Lib.hid hfin
            have hq2 : q ≤ 2 := by omega
            clear hfin hp2 HP1 HVX HBV3 HF3 HB3 HVC3
            have HQ := Lib.hid hq
            clear hq
            go_upto_region 23 with fail
            go_cut [104] (fun c wc => c = .bool false ∧ w5 = wc)
            case first =>
              by_cases hA : j < m <;> by_cases hB : 2 < min m j
              all_goals
                first
                | (have hB1 : (2 : Nat) < j := by omega
                   have hB2 : (2 : Nat) < m := by omega
                   have HQE := Lib.hid (show (q : Int) = 2 by have := HQ.out; omega))
                | (have hB1 : ¬ (2 : Nat) < m := by omega
                   have HQE := Lib.hid (show (q : Int) = (m : Int) by have := HQ.out; omega))
                | (have hB1 : ¬ (2 : Nat) < j := by omega
                   have HQE := Lib.hid (show (q : Int) = (j : Int) by have := HQ.out; omega))
                go_wp2_with fail
                go_meet
                case rel =>
                  have := HQE.out
                  exact ⟨by simp; omega, rfl⟩
            case rest =>
              obtain ⟨rfl, rfl⟩ := hcut
              clear hj
              go_wp2_with fail
              go_loopw [16, 17] (fun la s wr1 => ∃ t : Nat, s = .int .i64 t ∧ la = .int .i64 (lastOf zs l t) ∧ t ≤ q ∧ Fin zs i m j q r W (.slice xa q xc) (.slice ya q yc) (.slice ca j cc) l wr1) (fun _ s _ => q - (intOf s).toNat)
              case atStart => exact ⟨0, rfl, rfl, by omega, HFI.out⟩
              case round =>
                clear HFI
                obtain ⟨t, rfl, rfl, htq, hfi⟩ := hrel
                have HFI := Lib.hid hfi
                clear hfi
                by_cases ht : t < q
                · obtain ⟨g1, o1, c1, he1, _⟩ := HFI.out.x.form (by omega)
                  injection he1 with h1 _ h2
                  subst h1 h2
                  obtain ⟨g2, o2, c2, he2, _⟩ := HFI.out.y.form (by omega)
                  injection he2 with h1 _ h2
                  subst h1 h2
                  obtain ⟨g3, o3, c3, he3, _⟩ := HFI.out.c.form (by have := HQ.out; omega)
                  injection he3 with h1 _ h2
                  subst h1 h2
                  obtain ⟨p, hrd, hlt, hll, hl2, hz0, hz1, hgap⟩ := HFI.out.round HNL.out HZS.out ht
                  obtain ⟨b, off, rfl, hzc, _⟩ := isRow_later HI.out HFI.out.below hrd.pn
                  have HRD := Lib.hid hrd
                  have HLT := Lib.hid hlt
                  have HG := Lib.hid hgap
                  have hpn := hrd.pn
                  clear hrd hlt hgap
                  generalize lastOf zs l t = la at *
                  generalize zs.getD p 0 = z at *
                  have HFD := Lib.hid (fun k => HFI.out.drewN k)
                  have hji : t < j := by have := HQ.out; omega
                  clear HFI HNL HZS HL HMM HBP HB1 HZ hzero
                  go_wp2_with fail
                  have x0 := HRD.out.x0
                  have x1 := HRD.out.x1
                  have x2 := HRD.out.x2
                  have x3 := HRD.out.x3
                  have x3' : wr.cell? ⟨g1, o1 + t * 4 + 2 + 1, none⟩ = some (.int .i64 t) := x3
                  have y0 := HRD.out.y0
                  have y1 := HRD.out.y1
                  have y2 := HRD.out.y2
                  have y3 := HRD.out.y3
                  have d0 := HRD.out.c0
                  have d1 := HRD.out.c1
                  have a1 : (0 : Int) ≤ (t : Int) := by omega
                  have a2 : (t : Int) < (q : Int) := by omega
                  have a3 : (t : Int) < (j : Int) := by omega
                  have a4 : ¬ ((p : Int) < 0) := by omega
                  have a5 : ¬ ((i : Int) ≤ (p : Int)) := by omega
                  go_quiet (fail)
                  have HF5 := Lib.hid (HFD.out nq)
                  have HRB := Lib.hid (below_drewN (Below.refl wr.heap.size wr) nq)
                  have e0 : (wr.drewN nq).cell? ⟨g1, o1 + t * 4, none⟩ = some (.int .i64 p) := (HRB.out.cell (p := ⟨g1, o1 + t * 4, none⟩) (lt_of_cell x0)).trans x0
                  have e1 : (wr.drewN nq).cell? ⟨b, off + p, none⟩ = some (.int .u8 z) := (HRB.out.cell (p := ⟨b, off + p, none⟩) (lt_of_cell hzc)).trans hzc
                  clear HFD HRB HRD x0 x1 x2 x3 x3' y0 y1 y2 y3 d0 d1 hzc
                  generalize wr.drewN nq = wd at *
                  have a6 : (0 : Int) ≤ (p : Int) := by omega
                  have a7 : (p : Int) < (i : Int) := by omega
                  go_wp2_with fail
                  clear e0 e1 a6 a7 a1 a2 a3 a4 a5
                  have HFI5 := Lib.hid HF5.out.flags
                  go_loopw [19] (fun s wr2 => ∃ n : Int, s = .int .i64 n ∧ la < n ∧ n ≤ z ∧ wr2 = wd) (fun s _ => (z - intOf s).toNat)
                  case atStart => exact ⟨la + 1, rfl, by omega, by omega, rfl⟩
                  case round =>
                    obtain ⟨n, rfl, hn1, hn2, rfl⟩ := hrel
                    by_cases hnz : n < z
                    · have hfl := (HFI5.out n.toNat (by omega)).1
                      have hno := HG.out n hn1 hnz
                      simp only [show ((n.toNat : Nat) : Int) = n by omega] at hfl
                      simp only [hno, decide_false] at hfl
                      have b1 : 0 ≤ n := by omega
                      have b2 : n < 256 := by omega
                      clear hno
                      go_wp2_with fail
                      go_roundw
                      case rel => exact ⟨n + 1, rfl, by omega, by omega, by trivial⟩
                      case measure => simp [intOf]; omega
                    · have hnz : n = z := by omega
                      subst hnz
                      go_wp2_with fail
                      go_roundw
                      case rel =>
                        exact ⟨t + 1, by go_num, by rw [HLT.out], by omega, HF5.out⟩
                      case measure => simp [intOf]; omega
                · have F := Lib.hid (show BTrue W (.returned (.bool true)) _ from ⟨rfl, HFI.out.below⟩)
                  go_wp2_with fail
                  go_ret
                  exact F.out
end Go.Proofs.Ytpppphalacojjaa

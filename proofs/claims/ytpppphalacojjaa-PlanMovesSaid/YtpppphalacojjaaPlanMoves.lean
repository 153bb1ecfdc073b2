/- PlanMoves: the walk. No conditions. -/
import Derived.Test.YtpppphalacojjaaPlanMovesA
import Derived.Deep.DeepCutAuto
namespace Go.Proofs.Ytpppphalacojjaa
open Go.RowKit Go.Wh

theorem Mvd.len {h0 T H : List Spot} (h : Mvd h0 T H) : T.length + H.length = h0.length := by
  have := h.perm.length_eq
  rwa [List.length_append] at this
theorem Mvd.dist {h0 T H : List Spot} (h : Mvd h0 T H) (h1 : Distinct h0) (h2 : DistAt h0) : Distinct T ∧ Distinct H ∧ DistAt H := by
  have a := h1.perm h.perm.symm
  have b := h2.perm h.perm.symm
  exact ⟨(List.pairwise_append.1 a).1, (List.pairwise_append.1 a).2.1, (List.pairwise_append.1 b).2.1⟩
theorem place_at (k : Nat) (p q : Int) (w : World) (hk : k < 48) (hp : p = 1 * 16 + (k : Int) / 3) (hq : q = (k : Int) % 3) : Calls Try.prog 9 #[.int .i64 1, .int .i64 k] w fun e w' => e = .returned (.tuple #[.agg #[.int .i64 p, .int .i64 q], .bool true]) ∧ Below w.heap.size w w' := by
  subst hp hq
  exact place_yes 1 k w (by omega) (by omega) (by omega) (by omega)
theorem next_fre (H : List Spot) (d n : Nat) (hv fv : Value) (w : World) (hn : H.length = n) (hl : n ≤ 40) (hd : Distinct H) (hh : Vec w 3 hv n (flat H)) (hf : Vec w 2 fv 2 (flatR (fre d 2))) :
    Calls Try.prog 11 #[hv, fv] w (NextPost w H (fre d 2)) := by
  subst hn
  exact next_of H (fre d 2) hv fv w (sorted_any hv _ H w hh.reads (by omega)) hd (by omega) (by rw [fre_len]; omega) (by rw [fre_len]; exact hf)

set_option maxRecDepth 100000 in
set_option maxHeartbeats 4000000 in
theorem planMoves_walk (a0 : Option Addr) (len cap : Nat) (zs : List Int) (W : World) (h : IsRow .u8 W a0 len zs) (hl : len ≤ 40) :
    Calls Try.prog 4 #[.slice a0 len cap] W (BTrue W) := by
  have HI := Lib.hid h
  clear h
  obtain ⟨za, hza⟩ : ∃ za : Array Value, za = (List.replicate 64 (.bool false)).toArray := ⟨_, rfl⟩
  have hzero := zero64
  rw [← hza] at hzero
  have HZ := Lib.hid hza
  clear hza
  obtain ⟨i0, hi0, hz0, hz1, hz2⟩ := info_parts infoSpot
  have HI0 := Lib.hid hi0
  have HZ0 := Lib.hid hz0
  have HZ1 := Lib.hid hz1
  have HZ2 := Lib.hid hz2
  clear hi0 hz0 hz1 hz2
  obtain ⟨ir, hi0, hz0, hz1, hz2⟩ := info_parts infoRid
  have HR0 := Lib.hid hi0
  have HR1 := Lib.hid hz0
  have HR2 := Lib.hid hz1
  have HR3 := Lib.hid hz2
  clear hi0 hz0 hz1 hz2
  have hcv := fun (w : World) (b : Nat) (y z : Int) (hc0 : w.cell? ⟨b, 0, none⟩ = some (.int .u8 y)) (hc1 : w.cell? ⟨b, 1, none⟩ = some (.int .u8 z)) => run_convert_bytes_arg (P := Try.prog) w 29 5 Try.underlying29 Try.underlying5 b 0 2 2 [y, z] rfl (fun i hi => by
    have : i = 0 ∨ i = 1 := by omega
    rcases this with rfl | rfl
    · exact hc0
    · exact hc1) 9 Try.underlying9
  have HCV := Lib.hid hcv
  clear hcv
  go_enter Try.func4, Try.ntmps4
  go_wp2_with fail
  refine (begun_any _).mono ?_
  rintro e w1 ⟨rfl, hb1⟩
  have hw2 : P1 W w1.heap.size zs 0 (.slice none 0 0) (w1.alloc (.cells za 34)) := by
    rw [HZ.out]
    exact ⟨(Flags.new w1 64 _).same (fun j _ => by simp [met]), Vec.nil _ _, hb1.alloc hb1.size _, hb1.size, fun g hg => by cases hg⟩
  have HW := Lib.hid hw2
  clear hb1 hw2
  go_wp2_with fail
  generalize hr : w1.heap.size = r at HW
  have HRR := Lib.hid hr
  have hW := HW.out
  generalize (w1.alloc (.cells za 34)) = w2 at *
  go_loopw [4, 5] (fun v s wr => ∃ i : Nat, s = .int .i64 i ∧ i ≤ len ∧ P1 W r zs i v wr) (fun _ s _ => len - (intOf s).toNat)
  case atStart => exact ⟨0, rfl, by omega, hW⟩
  case round =>
    clear hW HW
    obtain ⟨i, rfl, hi, hrel⟩ := hrel
    have HL1 := Lib.hid hrel
    clear hrel
    by_cases hil : i < len
    · obtain ⟨b, off, rfl, hc, hz⟩ := isRow_later HI.out HL1.out.below hil
      obtain ⟨z0, z1⟩ := byte_wf hz
      clear hz
      generalize hzz : zs.getD i 0 = z at z0 z1 hc
      obtain ⟨c, hcz⟩ : ∃ c : Nat, z % 64 = (c : Int) := ⟨(z % 64).toNat, by omega⟩
      have hc64 : c < 64 := by omega
      have HME := Lib.hid (show mz zs i = (c : Int) by unfold mz; rw [hzz]; exact hcz)
      obtain ⟨f0, f1⟩ := HL1.out.flag hc64
      cases hm : met zs i (c : Int) with
      | true =>
        have HS := Lib.hid (HL1.out.seen hc64 HME.out hm)
        rw [hm] at f0
        clear hm HL1 HME hzz
        go_wp2_with fail
        go_roundw
        case rel => exact ⟨i + 1, by go_num, by omega, HS.out⟩
        case measure => simp [intOf]; omega
      | false =>
        obtain ⟨a, ha⟩ : ∃ a : Int, z / 64 + 97 = a := ⟨_, rfl⟩
        obtain ⟨p, hp⟩ : ∃ p : Int, (c : Int) / 4 = p := ⟨_, rfl⟩
        obtain ⟨q, hq⟩ : ∃ q : Int, (c : Int) % 4 = q := ⟨_, rfl⟩
        have HA := Lib.hid (HL1.out.app 5 31 hc64 HME.out hm (a := a) (p := p) (q := q) (by rw [hzz]; exact ha.symm) hp.symm hq.symm)
        have hcx : (convert 29 9 (.slice (some ⟨wr.heap.size, 0, none⟩) 2 2)).run Try.prog (wr.alloc (.cells #[.int .u8 a, .int .u8 i] 5)) = .ok (.string (kz2 a i)) (wr.alloc (.cells #[.int .u8 a, .int .u8 i] 5)) :=
          HCV.out _ _ a i ((cellsAt_new wr [.int .u8 a, .int .u8 i] 5).cell 0) ((cellsAt_new wr [.int .u8 a, .int .u8 i] 5).cell 1)
        have hm40 : (hs zs i).length ≤ 40 := by have := hs_len zs i; omega
        rw [hm] at f0
        clear hm HL1 HME hzz
        go_wp2_with (at_builtin; refine wpList_append_vec rfl _ _ 24 rfl 31 i0 _ 3 32 Try.underlying24 HI0.out HZ0.out HZ1.out HZ2.out rfl (by decide) _ _ _ rfl HA.out.old _ 1 _ rfl HA.out.new (sc_one [⟨kz2 a i, p, q⟩]) (by simp only [maxLen]; omega) (by omega) ?_; intro v' w' hv' ho' hb'; obtain ⟨q0, q1, hl1⟩ := HA.out.next v' w' hv' ho' hb'; have HN := Lib.hid hl1; clear hl1 hv' ho' hb' HA hcx)
        go_roundw
        case rel => exact ⟨i + 1, by go_num, by omega, HN.out⟩
        case measure => simp [intOf]; omega
    · have hi40 : i ≤ 40 := by omega
      obtain ⟨h0, hh0⟩ : ∃ h0, h0 = hs zs i := ⟨_, rfl⟩
      have hm0 : h0.length ≤ 40 := by have := hs_len zs i; rw [hh0]; omega
      obtain ⟨m, hm⟩ : ∃ m, h0.length = m := ⟨_, rfl⟩
      have hm40 : m ≤ 40 := by omega
      have HD1 := Lib.hid (show Distinct h0 by rw [hh0]; exact (hs_distinct zs i (by omega)).1)
      have HD2 := Lib.hid (show DistAt h0 by rw [hh0]; exact (hs_distinct zs i (by omega)).2)
      have hv0 := HL1.out.vec
      rw [← hh0, hm] at hv0
      have HOUT := Lib.hid (show Out W h0 [] h0 (.slice none 0 0) _ wr from ⟨Mvd.start h0, Vec.nil _ _, by rw [hm]; exact hv0, (Apart.nil_cons ⟨List.pairwise_singleton _ _, fun u hu g hg => by
        rw [List.mem_singleton.1 hu] at hg
        have := HL1.out.own g hg
        omega⟩), HL1.out.below⟩)
      have HM := Lib.hid hm
      obtain ⟨ha, hc, rfl⟩ := hv0.form'
      clear hh0 hm0 hm hv0 HL1 HI HCV hzero HZ HRR
      go_wp2_with fail
      obtain ⟨wa, rfl⟩ : ∃ wa : World, wa = wr := ⟨_, rfl⟩
      go_loopw [4, 7, 9] (fun hv tv si wr => ∃ (T H : List Spot) (i : Nat), si = .int .i64 i ∧ i ≤ T.length ∧ Out W h0 T H tv hv wr) (fun _ _ si _ => 100 - (intOf si).toNat)
      case atStart => exact ⟨[], h0, 0, rfl, Nat.zero_le _, HOUT.out⟩
      case round =>
        clear HOUT
        obtain ⟨T, H, i, rfl, hi, ho⟩ := hrel
        have hlen := ho.mvd.len
        rw [HM.out] at hlen
        have HO := Lib.hid ho
        obtain ⟨HDT, HDH, HDA⟩ := ho.mvd.dist HD1.out HD2.out
        have HDT := Lib.hid HDT
        have HDH := Lib.hid HDH
        have HDA := Lib.hid HDA
        obtain ⟨ta, tc, rfl⟩ := ho.tvec.form'
        obtain ⟨hha, hhc, rfl⟩ := ho.hvec.form'
        clear ho
        generalize hTd : T.length = d at hi hlen HO ⊢
        generalize hHn : H.length = n at hlen HO ⊢
        have HTD := Lib.hid hTd
        have HHN := Lib.hid hHn
        clear hTd hHn
        by_cases hH : 0 < n
        · go_wp2_with fail
          obtain ⟨w3, rfl⟩ : ∃ w3 : World, w3 = wr := ⟨_, rfl⟩
          go_loopw [10, 11] (fun fv si wr => ∃ c k : Nat, si = .int .i64 k ∧ k = d + c ∧ F3 d w3 c fv wr) (fun _ si _ => 50 - (intOf si).toNat)
          case atStart => exact ⟨0, d, rfl, rfl, F3.start d w3⟩
          case round =>
            obtain ⟨c, k, rfl, hk, hf⟩ := hrel
            have hc2 := hf.le
            have HF := Lib.hid hf
            obtain ⟨fa, fc, rfl⟩ := hf.vec.form'
            clear hf
            have hk48 : k < 48 := by omega
            by_cases hc : c < 2
            · obtain ⟨p, hp⟩ : ∃ p : Int, p = 1 * 16 + (k : Int) / 3 := ⟨_, rfl⟩
              obtain ⟨q, hq⟩ : ∃ q : Int, q = (k : Int) % 3 := ⟨_, rfl⟩
              have HK := Lib.hid hk
              have HP := Lib.hid hp
              have HQ := Lib.hid hq
              clear hk hp hq
              go_wp2_with fail
              refine (most_any _).mono ?_
              rintro e w' ⟨rfl, rfl⟩
              go_wp2_with fail
              refine (place_at k p q _ hk48 HP.out HQ.out).mono ?_
              rintro e w5 ⟨rfl, hb5⟩
              have hb6 : Below wr.heap.size wr (w5.alloc (.cells #[.int .i64 p, .int .i64 q] 26)) := hb5.alloc hb5.size _
              have HA := Lib.hid (HF.out.app 26 hb6 hc (k := k) (sz := w5.heap.size + 1) HK.out (by simp) HP.out HQ.out)
              have hcf : cellsAt (w5.alloc (.cells #[.int .i64 p, .int .i64 q] 26)) w5.heap.size [.int .i64 p, .int .i64 q] := cellsAt_new w5 _ _
              have f0 := hcf.cell 0
              have f1 := hcf.cell 1
              simp only [List.getElem?_cons_zero, List.getElem?_cons_succ] at f0 f1
              clear hb5 hb6 hcf
              go_wp2_with (at_builtin; refine wpList_append_vec rfl _ _ 35 rfl 26 ir _ 2 16 Try.underlying35 HR0.out HR1.out HR2.out HR3.out rfl (by decide) _ _ _ rfl HA.out.old _ 1 _ rfl HA.out.new (rc_one [⟨p, q⟩]) (by simp only [maxLen]; omega) (by omega) ?_; intro v' w' hv' ho' hb'; have HN := Lib.hid (HA.out.next v' w' hv' ho' hb'); clear hv' ho' hb' HA f0 f1)
              go_roundw
              case rel => exact ⟨c + 1, k + 1, by go_num, by have := HK.out; omega, HN.out⟩
              case measure => simp [intOf]; omega
            · have hce : c = 2 := by omega
              subst hce
              have HNX := Lib.hid (next_fre H d n _ _ wr HHN.out (by omega) HDH.out ((by have := HO.out.hvec; rw [HHN.out] at this; exact this.belowAll HF.out.below)) HF.out.vec)
              have HK := Lib.hid hk
              clear hk
              go_wp2_with fail
              refine (most_any _).mono ?_
              rintro e w' ⟨rfl, rfl⟩
              go_wp2_with fail
              refine HNX.out.mono ?_
              clear HNX
              intro e w5 hn5
              obtain ⟨mv, L, rfl, hp, hso, hml, hin, hmat⟩ := HO.out.unit HF.out.below HTD.out.symm (by rw [HHN.out]; exact hH) hn5
              rw [HHN.out] at hml
              generalize mvs (L.take 2) ((fre d 2).take 2) = M at hml hin hmat
              obtain ⟨q, hq⟩ : ∃ q, q = min n 2 := ⟨_, rfl⟩
              rw [← hq] at hml
              have hq1 : 0 < q := by omega
              have hq2 : q ≤ 2 := by omega
              have hqn : q ≤ n := by omega
              have hmv := hin.mvec
              rw [hml] at hmv
              obtain ⟨ma, mc, rfl⟩ := hmv.form'
              have HIN := Lib.hid hin
              have HML := Lib.hid hml
              have HMA := Lib.hid hmat
              have HP := Lib.hid hp
              have HSO := Lib.hid hso
              have HLN := Lib.hid (show L.length = n from hp.length_eq.trans HHN.out)
              have hqne : ((q : Int) == 0) = false := by simp; omega
              have hmi : decide (m < i) = false := by simp; omega
              clear hq hml hin hmat hp hso hmv hn5 HF HK
              go_wp2_with fail
              obtain ⟨w6, rfl⟩ : ∃ w6 : World, w6 = w5 := ⟨_, rfl⟩
              go_loopw [4, 7, 15] (fun hv tv si wr => ∃ (k : Nat) (H' : List Spot), si = .int .i64 k ∧ k ≤ q ∧ In4 W T L M (.slice ma q mc) k H' tv hv wr) (fun _ _ si _ => q - (intOf si).toNat)
              case atStart => exact ⟨0, H, rfl, by omega, HIN.out⟩
              case round =>
                clear HIN
                obtain ⟨k, H', rfl, hkq, hin⟩ := hrel
                have HIN := Lib.hid hin
                by_cases hk : k < q
                · have hkL : k < L.length := by have := HLN.out; omega
                  have hDA : DistAt H' := DistAt.perm (l := L.drop k) (List.Pairwise.sublist (List.drop_sublist k L) (HDA.out.perm HP.out.symm)) hin.perm.symm
                  have hH0 : 0 < H'.length := by have h1 := hin.perm.length_eq; rw [List.length_drop] at h1; omega
                  have hH40 : H'.length ≤ 40 := by have h1 := hin.perm.length_eq; have h2 := HLN.out; rw [List.length_drop] at h1; omega
                  have hPl : (T ++ L.take k).length ≤ 40 := by have h1 := HTD.out; have h2 := HLN.out; rw [List.length_append, List.length_take]; omega
                  obtain ⟨gh, oh, ch, rfl, _⟩ := hin.hvec.form hH0
                  obtain ⟨gm, om, cm, hme, _⟩ := hin.mvec.form (by rw [HML.out]; omega)
                  rw [HML.out] at hme
                  injection hme with h1 h2 h3
                  subst h1 h3
                  have HI5 := Lib.hid (hin.begin_ L[k])
                  have hkM : k < M.length := by rw [HML.out]; exact hk
                  have HMK := Lib.hid (HMA.out k hkL hkM)
                  have HX := Lib.hid (show L[k] = L[k] from rfl)
                  have HPM := Lib.hid hin.perm
                  clear hin
                  have HPP := Lib.hid hPl
                  generalize hPd : T ++ L.take k = P at HI5 HMK hPl
                  have HPD := Lib.hid hPd
                  generalize hxd : L[k] = x at HI5 HMK
                  have HXD := Lib.hid hxd
                  generalize hnn : H'.length = n' at hH0 hH40 HI5 ⊢
                  have HNN := Lib.hid hnn
                  have HDA' := Lib.hid hDA
                  clear hPd hxd hnn HX HPP hDA
                  go_wp2_with fail
                  obtain ⟨w7, rfl⟩ : ∃ w7 : World, w7 = wr := ⟨_, rfl⟩
                  go_loopw [7, 16, 17] (fun tv rv si wr => ∃ j : Nat, si = .int .i64 j ∧ j ≤ n' ∧ In5 W P x H' (.slice (some ⟨gh, oh, none⟩) n' ch) M (.slice (some ⟨gm, om, none⟩) q mc) j tv rv wr) (fun _ _ si _ => n' - (intOf si).toNat)
                  case atStart => exact ⟨0, rfl, by omega, HI5.out⟩
                  case round =>
                    clear HI5
                    obtain ⟨j, rfl, hjn, h5⟩ := hrel
                    have HR := Lib.hid h5
                    clear h5
                    by_cases hj : j < n'
                    · have hjl : j < H'.length := by rw [HNN.out]; exact hj
                      have hat : ∀ tv rv w, In5 W P x H' (.slice (some ⟨gh, oh, none⟩) n' ch) M (.slice (some ⟨gm, om, none⟩) q mc) j tv rv w → In5At w gh oh gm om j k H'[j] M[k] := fun tv rv w h => by
                        have e1 := h.hvec
                        have e2 := h.mvec
                        rw [HNN.out] at e1
                        rw [HML.out] at e2
                        exact in5_at e1.at e2.at hjl hkM
                      have HAT := Lib.hid (fun n => hat _ _ _ (HR.out.drewN n))
                      have hAT0 := hat _ _ _ HR.out
                      have hrl : ((H'.take j).filter fun s => !sameAt x s).length ≤ 40 := by
                        have h1 := List.length_filter_le (fun s => !sameAt x s) (H'.take j)
                        rw [List.length_take] at h1
                        omega
                      have hMp : M[k].fp = x.p := by rw [HMK.out]
                      have hMc : M[k].fc = x.c := by rw [HMK.out]
                      have HMT := Lib.hid (show M[k].tp = 16 + (P.length : Int) / 3 by rw [HMK.out])
                      have HMU := Lib.hid (show M[k].tc = (P.length : Int) % 3 by rw [HMK.out])
                      have c1 := hAT0.c1
                      have c2 := hAT0.c2
                      have m0 := hAT0.m0
                      have m1 := hAT0.m1
                      rw [hMp] at m0
                      rw [hMc] at m1
                      clear hAT0 hat hMp hMc
                      cases hs : sameAt x H'[j] with
                      | true =>
                        have hpc : x.p = (H'[j]).p ∧ x.c = (H'[j]).c := by simpa [sameAt] using hs
                        rw [hpc.1] at m0
                        rw [hpc.2] at m1
                        have HHT := Lib.hid (fun n => (HR.out.drewN n).hit 31 HNN.out HML.out HDA'.out hjl hkM hs HMT.out HMU.out)
                        have HK0 := Lib.hid (fun n => (HAT.out n).c0)
                        have HK1 := Lib.hid (fun n => (HAT.out n).m2)
                        have HK2 := Lib.hid (fun n => (HAT.out n).m3)
                        clear hs hpc HMT HMU HAT
                        generalize (H'[j]).p = sp at *
                        generalize (H'[j]).c = sq at *
                        generalize (H'[j]).key = sk at *
                        generalize (M[k]).tp = tp at *
                        generalize (M[k]).tc = tq at *
                        go_wp2_with fail
                        have a1 : (0 : Int) ≤ (j : Int) := by omega
                        have a2 : (j : Int) < (n' : Int) := by omega
                        have a3 : (0 : Int) ≤ (k : Int) := by omega
                        have a4 : (k : Int) < (q : Int) := by omega
                        go_quiet (fail)
                        clear c1 c2 m0 m1
                        have c0 := HK0.out nq
                        have m2 := HK1.out nq
                        have m3 := HK2.out nq
                        have HS := Lib.hid (HHT.out nq)
                        clear HK0 HK1 HK2 HHT HR hrl
                        generalize wr.drewN nq = wq at *
                        go_wp2_with fail
                        go_region_held3 (fun w' => w'.cell? ⟨gh, oh + j * 3, none⟩ = some (.string sk) ∧ w'.cell? ⟨gm, om + k * 4 + 2, none⟩ = some (.int .i64 tp) ∧ w'.cell? ⟨gm, om + k * 4 + 2 + 1, none⟩ = some (.int .i64 tq))
                          (first | go_keep | (exact HS.out.kept _ ho'))
                          (first | (refine step_append_vec rfl _ _ 24 rfl 31 i0 _ 3 32 Try.underlying24 HI0.out HZ0.out HZ1.out HZ2.out rfl (by decide) _ _ _ (by simp [Act.eval]) HS.out.old _ 1 _ (by simp [Act.eval]) HS.out.new (sc_one [⟨_, _, _⟩]) (by simp only [maxLen]; omega) (by omega) ?_; intro v' w' hv' ho' hb'))
                        have HN2 := Lib.hid (HS.out.next _ _ hv' ho' hb')
                        clear hv' ho' hb' c0 m2 m3 a1 a2 a3 a4 HS
                        go_wp2_with fail
                        go_roundw
                        case rel => exact ⟨j + 1, by go_num, by omega, HN2.out⟩
                        case measure => simp [intOf]; omega
                      | false =>
                        have HMI := Lib.hid (fun n => (HR.out.drewN n).mis 31 hjl hs)
                        have HK0 := Lib.hid (fun n => (HAT.out n).c0)
                        have HK1 := Lib.hid (fun n => (HAT.out n).c1)
                        have HK2 := Lib.hid (fun n => (HAT.out n).c2)
                        have hpc : ¬ (x.p = (H'[j]).p ∧ x.c = (H'[j]).c) := by simpa [sameAt] using hs
                        clear hs HMT HMU HAT
                        generalize (H'[j]).p = sp at *
                        generalize (H'[j]).c = sq at *
                        generalize (H'[j]).key = sk at *
                        generalize x.p = xp at m0 hpc
                        generalize x.c = xq at m1 hpc
                        by_cases hp : sp = xp
                        · have hc' : (sq == xq) = false := by
                            have : ¬ sq = xq := fun e => hpc ⟨hp.symm, e.symm⟩
                            simpa using this
                          rw [← hp] at m0
                          clear hp hpc
                          go_wp2_with fail
                          have a1 : (0 : Int) ≤ (j : Int) := by omega
                          have a2 : (j : Int) < (n' : Int) := by omega
                          have a3 : (0 : Int) ≤ (k : Int) := by omega
                          have a4 : (k : Int) < (q : Int) := by omega
                          go_quiet (fail)
                          clear c1 c2 m0 m1 a1 a2 a3 a4
                          have c0 := HK0.out nq
                          have c1 := HK1.out nq
                          have c2 := HK2.out nq
                          have HS := Lib.hid (HMI.out nq)
                          clear HK0 HK1 HK2 HMI HR hc'
                          generalize wr.drewN nq = wq at *
                          go_wp2_with (at_builtin; refine wpList_append_vec rfl _ _ 24 rfl 31 i0 _ 3 32 Try.underlying24 HI0.out HZ0.out HZ1.out HZ2.out rfl (by decide) _ _ _ rfl HS.out.old _ 1 _ rfl HS.out.new (sc_one [⟨_, _, _⟩]) (by simp only [maxLen]; omega) (by omega) ?_; intro v' w' hv' ho' hb'; have HN2 := Lib.hid (HS.out.next _ _ hv' ho' hb'); clear hv' ho' hb' c0 c1 c2 HS)
                          go_roundw
                          case rel => exact ⟨j + 1, by go_num, by omega, HN2.out⟩
                          case measure => simp [intOf]; omega
                        · have hp' : (sp == xp) = false := by simpa using hp
                          clear hp hpc
                          go_wp2_with fail
                          have a1 : (0 : Int) ≤ (j : Int) := by omega
                          have a2 : (j : Int) < (n' : Int) := by omega
                          have a3 : (0 : Int) ≤ (k : Int) := by omega
                          have a4 : (k : Int) < (q : Int) := by omega
                          go_quiet (fail)
                          clear c1 c2 m0 m1 a1 a2 a3 a4
                          have c0 := HK0.out nq
                          have c1 := HK1.out nq
                          have c2 := HK2.out nq
                          have HS := Lib.hid (HMI.out nq)
                          clear HK0 HK1 HK2 HMI HR hp'
                          generalize wr.drewN nq = wq at *
                          go_wp2_with (at_builtin; refine wpList_append_vec rfl _ _ 24 rfl 31 i0 _ 3 32 Try.underlying24 HI0.out HZ0.out HZ1.out HZ2.out rfl (by decide) _ _ _ rfl HS.out.old _ 1 _ rfl HS.out.new (sc_one [⟨_, _, _⟩]) (by simp only [maxLen]; omega) (by omega) ?_; intro v' w' hv' ho' hb'; have HN2 := Lib.hid (HS.out.next _ _ hv' ho' hb'); clear hv' ho' hb' c0 c1 c2 HS)
                          go_roundw
                          case rel => exact ⟨j + 1, by go_num, by omega, HN2.out⟩
                          case measure => simp [intOf]; omega
                    · have hje : j = n' := by omega
                      have h5 := HR.out
                      rw [← HPD.out, hje] at h5
                      obtain ⟨H'', hl'', h4⟩ := h5.end_ HNN.out HPM.out HDA'.out hkL HXD.out.symm
                      have HN2 := Lib.hid h4
                      clear h4 h5 HR hje hl''
                      go_wp2_with fail
                      go_roundw
                      case rel => exact ⟨k + 1, H'', by go_num, by omega, HN2.out⟩
                      case measure => simp [intOf]; omega
                · have hke : k = q := by omega
                  have HN2 := Lib.hid (show Out W h0 (T ++ L.take q) H' _ _ wr by
                    rw [hke] at hin
                    exact ⟨HO.out.mvd.step HP.out HSO.out q hin.perm, hin.tvec, hin.hvec, (hin.apart.perm (m := [Value.slice ma q mc, _, _]) ((List.Perm.cons _ (List.Perm.swap _ _ _)).trans (List.Perm.swap _ _ _))).tail, hin.below⟩)
                  have HTL := Lib.hid (show i + 1 ≤ (T ++ L.take q).length by
                    have h1 := HTD.out
                    have h2 := HLN.out
                    rw [List.length_append, List.length_take]
                    omega)
                  clear hin HIN hke
                  go_wp2_with fail
                  go_roundw
                  case rel => exact ⟨T ++ L.take q, H', i + 1, by go_num, HTL.out, HN2.out⟩
                  case measure => simp [intOf]; omega
        · have hT : T.length ≤ 48 := by have := HTD.out; omega
          have HRT := Lib.hid (right_thr T (.slice ta d tc) wr HDT.out HO.out.mvd.sorted hT HO.out.tvec)
          have HB := Lib.hid HO.out.below
          have hdm : ((d : Int) == (m : Int)) = true := by simp; omega
          clear hT HO HDT HTD HHN
          go_wp2_with fail
          refine HRT.out.mono ?_
          clear HRT
          rintro e w5 ⟨rfl, hb5⟩
          have F := Lib.hid (show BTrue W (.returned (.bool true)) w5 from ⟨rfl, HB.out.trans (Below.mono hb5 HB.out.size)⟩)
          clear hb5 HB
          go_wp2_with fail
          go_ret
          exact F.out
end Go.Proofs.Ytpppphalacojjaa

/- symMerge of two sorted rows of two spots or more. Conditions: a slice that may be written. -/
import Derived.Test.YtpppphalacojjaaPlanZa
import Derived.Deep.DeepCutAuto
namespace Go.Proofs.Ytpppphalacojjaa
open Go.RowKit Go.Wh

set_option maxRecDepth 100000 in
set_option maxHeartbeats 4000000 in
theorem merge_gen (g o n cap : Nat) (A X Y C : List Spot) (w : World) (IH : MergeOk (X.length + Y.length)) (h : VecAt w 3 g o n cap (flat (A ++ (X ++ Y) ++ C))) (hX : Sorted X) (hY : Sorted Y) (hx : 1 < X.length) (hy : 1 < Y.length) (hn : n ≤ 10000) (a m b : Nat) (ha : a = A.length) (hm : m = a + X.length) (hb : b = m + Y.length) :
    Calls Try.prog 22 #[.slice (some ⟨g, o, none⟩) n cap, .int .i64 a, .int .i64 m, .int .i64 b, .func (.func 17) #[] #[]] w (MergePost w g o n cap A (X ++ Y) C) := by
  have hl := h.len
  rw [flat_length] at hl
  simp at hl
  have hbn : b ≤ n := by omega
  obtain ⟨mid, hmid⟩ : ∃ mid, mid = (a + b) / 2 := ⟨_, rfl⟩
  obtain ⟨N, hN⟩ : ∃ N, N = mid + m := ⟨_, rfl⟩
  obtain ⟨lo, hi, hB⟩ : ∃ lo hi, Bnd a m b mid N lo hi := by
    by_cases h : mid < m
    · exact ⟨N - b, mid, hmid, hN, by omega, by omega, .inl ⟨h, rfl, rfl⟩⟩
    · exact ⟨a, m, hmid, hN, by omega, by omega, .inr ⟨by omega, rfl, rfl⟩⟩
  have H0 := Lib.hid (show Bis w g o n cap A X Y C a m N lo hi lo hi w from ⟨Nat.le_refl _, by obtain ⟨_, _, _, _, h⟩ := hB; omega, Nat.le_refl _, fun _ _ h => by omega, fun _ _ h => by omega, h, Only.refl _ _⟩)
  have HIH := Lib.hid IH
  have HX := Lib.hid hX
  have HY := Lib.hid hY
  have HA := Lib.hid ha
  have HM := Lib.hid hm
  have HBL := Lib.hid hb
  have HB := Lib.hid hB
  have HXL := Lib.hid hx
  have hma : ((m : Int) - (a : Int) == 1) = false := by simp; omega
  have hbm : ((b : Int) - (m : Int) == 1) = false := by simp; omega
  have ham : a < m := by omega
  have hmb : m < b := by omega
  have em : ((a : Int) + (b : Int)) / 2 = (mid : Int) := by omega
  have eN : (mid : Int) + (m : Int) = (N : Int) := by omega
  have hN2 : N ≤ 20000 := by omega
  have hNm : m ≤ N := by omega
  have hmidb : mid < b := by omega
  have hmida : a < mid := by omega
  have hhi : hi ≤ m := by obtain ⟨_, _, _, _, h⟩ := hB; omega
  have hlo : a ≤ lo := by obtain ⟨_, _, _, _, h⟩ := hB; omega
  clear IH h hX hY hx hy ha hm hb hl hmid hN
  have hcf := cf17
  go_enter Try.func22, Try.ntmps22
  go_upto_if 140 with fail
  go_cut [20, 21] (fun s r wc => s = .int .i64 lo ∧ r = .int .i64 hi ∧ w = wc)
  case first =>
    as_aux_lemma =>
      clear H0 HIH HX HY HA HM HBL HXL
      rcases hB.or_ with ⟨h1, h2, h3⟩ | ⟨h1, h2, h3⟩
      · have E1 := Lib.hid (show (N : Int) - (b : Int) = (lo : Int) by have := hB.N_; have := hB.mid_; omega)
        have E3 := Lib.hid h3
        clear h2 h3 hB HB
        go_wp2_with fail
        go_meet
        case rel => exact ⟨by rw [E1.out], by rw [E3.out], rfl⟩
      · have H2 := Lib.hid h2
        have H3 := Lib.hid h3
        have h4 : ¬ mid < m := by omega
        clear h1 h2 h3 hB HB
        go_wp2_with fail
        go_meet
        case rel => exact ⟨by rw [H2.out], by rw [H3.out], rfl⟩
  case rest =>
    obtain ⟨rfl, rfl, rfl⟩ := hcut
    clear hB hma hbm
    go_wp2_with fail
    go_loopw [20, 21] (fun s r wr => ∃ i j : Nat, s = .int .i64 i ∧ r = .int .i64 j ∧ Bis w g o n cap A X Y C a m N lo hi i j wr) (fun s r _ => (intOf r).toNat - (intOf s).toNat)
    case atStart => exact ⟨lo, hi, rfl, rfl, H0.out⟩
    case round =>
      clear H0
      obtain ⟨i, j, rfl, rfl, hr⟩ := hrel
      have hli := hr.los
      have hij := hr.sr
      have hjh := hr.rhi
      have HR := Lib.hid hr
      clear hr
      by_cases hlt : i < j
      · obtain ⟨c, hc⟩ : ∃ c : Nat, ((i : Int) + (j : Int)) / 2 = (c : Int) := ⟨(i + j) / 2, by omega⟩
        have hc1 : i ≤ c := by omega
        have hc2 : c < j := by omega
        obtain ⟨q, hq⟩ : ∃ q, q + c + 1 = N := ⟨N - 1 - c, by omega⟩
        obtain ⟨x, y, hx, hy, hat⟩ := HR.out.at HB.out HA.out HM.out HBL.out hc1 hc2 hq
        have HSX := Lib.hid hx
        have HSY := Lib.hid hy
        have HQ := Lib.hid hq
        have hqn : q < n := by
          obtain ⟨_, _, _, _, h⟩ := HB.out
          omega
        have hqe : (N : Int) - 1 - (c : Int) = (q : Int) := by omega
        have c0 := hat.c0
        have c1 := hat.c1
        have c2 := hat.c2
        have d0 := hat.d0
        have d1 := hat.d1
        have d2 := hat.d2
        clear hat hx hy hq em eN
        go_wp2_with fail
        have a1 : (0 : Int) ≤ (c : Int) := by omega
        have a2 : (c : Int) < (n : Int) := by omega
        have a3 : (0 : Int) ≤ (q : Int) := by omega
        have a4 : (q : Int) < (n : Int) := by omega
        have a5 : IntKind.i64.wrap ((N : Int) - 1 - (c : Int)) = (q : Int) := by rw [hqe]; exact IntWalk.i64_in _ (by omega)
        have a6 : IntKind.i64.wrap (q : Int) = (q : Int) := IntWalk.i64_in _ (by omega)
        go_still_tail 11, (by kernel_rfl)
        change wpList _ _ _ _ _ wr.drew
        go_wp2_with fail
        clear a1 a2 a3 a4 a5 a6 c0 c1 c2 d0 d1 d2
        refine (less_any y x _).mono ?_
        rintro e w1 ⟨rfl, hbe⟩
        have HR1 := Lib.hid (HR.out.same (by have := HXL.out; omega) (below_undrew hbe))
        clear HR hbe
        cases hbl : bl y.key x.key with
        | true =>
          have hge : cmpOf y.key x.key = -1 := by simp [cmpOf, hbl]
          rw [hge]
          clear hge
          have HN := Lib.hid (HR1.out.down hc1 hc2 HQ.out HSX.out HSY.out hbl)
          clear HR1 hbl hc hqe
          go_wp2_with fail
          go_roundw
          case rel => exact ⟨i, c, rfl, rfl, HN.out⟩
          case measure => simp [intOf]; omega
        | false =>
          have hge : ¬ (cmpOf y.key x.key < 0) := by
            have := cmp_neg y.key x.key
            rw [hbl] at this
            simpa using this
          generalize cmpOf y.key x.key = r at hge ⊢
          have hge2 : (!decide (r < 0)) = true := by simpa using hge
          have HN := Lib.hid (HR1.out.up hc1 hc2 HQ.out HSX.out HSY.out hbl)
          clear HR1 hbl hc hqe
          go_wp2_with fail
          go_roundw
          case rel => exact ⟨c + 1, j, by go_num, rfl, HN.out⟩
          case measure => simp [intOf]; omega
      · have hije : i = j := by omega
        subst hije
        obtain ⟨e, X1, X2, Y1, Y2, hes, hC⟩ := HR.out.cut HB.out HX.out HY.out HM.out HBL.out
        have hee : (N : Int) - (i : Int) = (e : Int) := by omega
        have heb : e ≤ b := by have := hC.l4; omega
        have HC := Lib.hid hC
        clear HR hes hC em eN
        have his : i ≤ m := by omega
        have HRO := Lib.hid (show i < m → m < e → Calls Try.prog 23 #[.slice (some ⟨g, o, none⟩) n cap, .int .i64 i, .int .i64 m, .int .i64 e, .func (.func 17) #[] #[]] wr fun en w' => en = .returned (.tuple #[]) ∧ Rotd w g o n cap A X1 X2 Y1 Y2 C w' from fun h1 h2 => HC.out.rot HA.out h1 h2 hn _)
        go_upto_region 39 with fail
        go_cut [185] (fun v wc => ∃ t : Bool, v = .bool t ∧ t = decide (i < m ∧ m < e) ∧ wr = wc)
        case first =>
          as_aux_lemma =>
            clear HRO HIH HX HY HA HM HBL HB HXL HC
            by_cases h1 : i < m
            · by_cases h2 : m < e
              · have F := Lib.hid (show true = decide (i < m ∧ m < e) by simp [h1, h2])
                go_wp2_with fail
                go_meet
                case rel => exact ⟨_, rfl, F.out, rfl⟩
              · have F := Lib.hid (show false = decide (i < m ∧ m < e) by simp [h2])
                go_wp2_with fail
                go_meet
                case rel => exact ⟨_, rfl, F.out, rfl⟩
            · have F := Lib.hid (show false = decide (i < m ∧ m < e) by simp [h1])
              go_wp2_with fail
              go_meet
              case rel => exact ⟨_, rfl, F.out, rfl⟩
        case rest =>
          obtain ⟨t, rfl, ht, rfl⟩ := hcut
          have HT := Lib.hid ht
          clear ht
          go_upto_if 185 with fail
          go_cut [] (fun wc => Rotd w g o n cap A X1 X2 Y1 Y2 C wc)
          case first =>
            as_aux_lemma =>
              clear HIH HX HY HA HM HBL HB HXL
              cases t with
              | true =>
                have hh : i < m ∧ m < e := by simpa using HT.out.symm
                have C1 := Lib.hid (HRO.out hh.1 hh.2)
                clear HRO HT hh
                go_wp2_with fail
                refine C1.out.mono ?_
                clear C1
                rintro en w1 ⟨rfl, hr⟩
                have HR := Lib.hid hr
                clear hr
                go_wp2_with fail
                go_meet
                case rel => exact HR.out
              | false =>
                have hh : ¬ (i < m ∧ m < e) := by simpa using HT.out.symm
                have HR := Lib.hid (HC.out.norot hh)
                clear HRO HT hh
                go_wp2_with fail
                go_meet
                case rel => exact HR.out
          case rest =>
            have hr1 := Lib.hid hcut
            clear hcut HRO HT
            have HLE := Lib.hid (show a < i → i < mid → Calls Try.prog 22 #[.slice (some ⟨g, o, none⟩) n cap, .int .i64 a, .int .i64 i, .int .i64 mid, .func (.func 17) #[] #[]] wc fun en w' => en = .returned (.tuple #[]) ∧ LeftD w g o n cap A X1 X2 Y1 Y2 C w' from fun h1 h2 => HC.out.left hr1.out HIH.out HX.out HY.out HA.out hmidb h1 h2 hn)
            go_upto_region 41 with fail
            go_cut [199] (fun v wd => ∃ t : Bool, v = .bool t ∧ t = decide (a < i ∧ i < mid) ∧ wc = wd)
            case first =>
              as_aux_lemma =>
                clear HLE HIH HX HY HA HM HBL HB HXL HC hr1
                by_cases h1 : a < i
                · by_cases h2 : i < mid
                  · have F := Lib.hid (show true = decide (a < i ∧ i < mid) by simp [h1, h2])
                    go_wp2_with fail
                    go_meet
                    case rel => exact ⟨_, rfl, F.out, rfl⟩
                  · have F := Lib.hid (show false = decide (a < i ∧ i < mid) by simp [h2])
                    go_wp2_with fail
                    go_meet
                    case rel => exact ⟨_, rfl, F.out, rfl⟩
                · have F := Lib.hid (show false = decide (a < i ∧ i < mid) by simp [h1])
                  go_wp2_with fail
                  go_meet
                  case rel => exact ⟨_, rfl, F.out, rfl⟩
            case rest =>
              obtain ⟨t, rfl, ht, rfl⟩ := hcut
              have HT := Lib.hid ht
              clear ht
              go_upto_if 199 with fail
              go_cut [] (fun wd => LeftD w g o n cap A X1 X2 Y1 Y2 C wd)
              case first =>
                as_aux_lemma =>
                  cases t with
                  | true =>
                    have hh : a < i ∧ i < mid := by simpa using HT.out.symm
                    have C1 := Lib.hid (HLE.out hh.1 hh.2)
                    clear HLE HT hh HIH HX HY HA HM HBL HB HXL
                    go_wp2_with fail
                    refine C1.out.mono ?_
                    clear C1
                    rintro en w1 ⟨rfl, hr⟩
                    have HR := Lib.hid hr
                    clear hr
                    go_wp2_with fail
                    go_meet
                    case rel => exact HR.out
                  | false =>
                    have hh : ¬ (a < i ∧ i < mid) := by simpa using HT.out.symm
                    have HR := Lib.hid (HC.out.noleft hr1.out HX.out HY.out hh)
                    clear HLE HT hh HIH HX HY HA HM HBL HB HXL
                    go_wp2_with fail
                    go_meet
                    case rel => exact HR.out
              case rest =>
                have hr2 := Lib.hid hcut
                clear hcut HLE HT hr1
                have hme : mid ≤ e := by have := HC.out.l6; omega
                by_cases h1 : mid < e ∧ e < b
                · obtain ⟨h1, h2⟩ := h1
                  have C1 := Lib.hid (HC.out.right hr2.out HIH.out HX.out HY.out HA.out hmida h1 h2 hn)
                  clear HIH HX HY HA HM HBL HB HXL hr2
                  go_wp2_with fail
                  refine C1.out.mono ?_
                  clear C1
                  rintro en w1 ⟨rfl, hr⟩
                  have HR := Lib.hid hr
                  clear hr
                  go_wp2_with fail
                  go_end0
                  exact HR.out
                · have HR := Lib.hid (HC.out.noright hr2.out HX.out HY.out h1)
                  clear HIH HX HY HA HM HBL HB HXL hr2
                  have h3 : ¬ mid < e ∨ (mid < e ∧ ¬ e < b) := by omega
                  clear h1
                  rcases h3 with h1 | ⟨h1, h2⟩
                  · go_wp2_with fail
                    go_end0
                    exact HR.out
                  · go_wp2_with fail
                    go_end0
                    exact HR.out

/-- symMerge, whatever the two rows. -/
theorem merge_any : ∀ k, MergeOk k
  | 0 => fun _ _ _ _ _ _ _ _ _ _ _ _ _ _ _ hk => absurd hk (Nat.not_lt_zero _)
  | k + 1 => fun g o n cap A X Y C w h hX hY hx hy hn hk a m b ha hm hb => by
    have IH : MergeOk (X.length + Y.length) := fun g o n cap A X' Y' C w h hX hY hx hy hn hk' => merge_any k g o n cap A X' Y' C w h hX hY hx hy hn (by omega)
    by_cases h1 : X.length = 1
    · obtain ⟨x, rfl⟩ := List.length_eq_one_iff.1 h1
      exact merge_one g o n cap A x Y C w h hY hy hn a m b ha hm hb
    · by_cases h2 : Y.length = 1
      · obtain ⟨y, rfl⟩ := List.length_eq_one_iff.1 h2
        exact merge_two g o n cap A X y C w h hX (by omega) hn a m b ha hm hb
      · exact merge_gen g o n cap A X Y C w IH h hX hY (by omega) (by omega) hn a m b ha hm hb
end Go.Proofs.Ytpppphalacojjaa

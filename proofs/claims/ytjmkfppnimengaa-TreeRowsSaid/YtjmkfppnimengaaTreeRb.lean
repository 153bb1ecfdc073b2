/- TreeRows: the walk. Conditions: three bytes. -/
import Derived.Test.YtjmkfppnimengaaTreeRa
import Derived.Deep.DeepCutAuto
namespace Go.Proofs.Ytjmkfppnimengaa
open Go.RowKit Go.Wh

set_option maxHeartbeats 1000000 in
set_option maxRecDepth 100000 in
theorem rows_walk (W : World) (nv wv bv : Int) (hn : 0 ≤ nv ∧ nv < 256) (hw : 0 ≤ wv ∧ wv < 256) (hb : 0 ≤ bv ∧ bv < 256) :
    Calls Try.prog 5 #[.int .u8 nv, .int .u8 wv, .int .u8 bv] W (BTrue W) := by
  have HB := Lib.hid (And.intro hn (And.intro hw hb))
  obtain ⟨n, hnn⟩ : ∃ n : Nat, nv = (n : Int) := ⟨nv.toNat, by omega⟩
  subst hnn
  have u1 : IntKind.i64.wrap (n : Int) = (n : Int) := IntWalk.i64_in _ (by omega)
  have HBG := Lib.hid (begun_any W)
  clear hn hw hb
  go_enter Try.func5, Try.ntmps5
  go_wp2_with fail
  refine HBG.out.mono ?_
  rintro e w1 ⟨rfl, hs1⟩
  have HN := Lib.hid (own_new (w0 := W) (A := fun _ => False) hs1 (fun _ e => e.elim))
  have HS1 := Lib.hid hs1
  clear hs1 HBG
  go_wp2_with fail
  refine HN.out.mono ?_
  rintro e w2 ⟨t, rfl, ho2, hs2⟩
  have HO2 := Lib.hid (And.intro ho2 (HS1.out.trans hs2))
  clear ho2 hs2 HN HS1
  unfold ptr
  go_wp2_with fail
  go_loopw [9] (fun s wr => ∃ (i : Nat) (l : Nd 0), s = .int .i64 i ∧ i ≤ n ∧ Own W (fun _ => False) wr t l ∧ Still W wr ∧ l.length ≤ i) (fun s _ => n - (intOf s).toNat)
  case atStart => exact ⟨0, [], rfl, Nat.zero_le _, HO2.out.1, HO2.out.2, Nat.le_refl _⟩
  case round =>
    obtain ⟨i, l, rfl, hin, ho, hs, hl⟩ := hrel
    have HL := Lib.hid (And.intro ho (And.intro hs hl))
    clear ho hs hl
    by_cases hi : i < n
    · have a1 : decide ((i : Int) < (n : Int)) = true := by simp; omega
      have a2 : decide (i < n) = true := by simp; omega
      have u9 : IntKind.i64.wrap ((i : Int) + 1) = (i : Int) + 1 := IntWalk.i64_in _ (by have := HB.out; omega)
      have cv := conv1
      have HPUT := Lib.hid (fun w' (hs : Still wr w') (k : Key) (p q : Int) => own_put (HL.out.1.still hs) (by have := HL.out.2.2; have := HB.out; omega) (HL.out.2.1.trans hs) k (p, q))
      unfold ptr ridV at HPUT
      dsimp only at HPUT
      rcases Bool.eq_false_or_eq_true (wv.tmod 3 == 1) with w1' | w1' <;> rcases Bool.eq_false_or_eq_true (wv.tmod 3 == 2) with w2' | w2'
      all_goals
        go_wp2_with fail
        refine (HPUT.out _ ((Still.refl _).alloc _) _ _ _).mono ?_
        rintro e w3 ⟨rfl, ho3, hm3⟩
        have hs3 := hm3.still (HL.out.2.1.trans ((Still.refl _).alloc _))
        obtain ⟨l3, hl3, hl3'⟩ : ∃ l3, Own W (fun _ => False) w3 t l3 ∧ l3.length ≤ i + 1 := ⟨_, ho3, Nat.le_trans (insL_length _ _ _).2.1 (by have := HL.out.2.2; omega)⟩
        have HSH := Lib.hid (own_shape hl3 (by have := HB.out; omega))
        have HLN := Lib.hid (fun w' (hs : Still w3 w') => own_len (hl3.still hs))
        have HL3 := Lib.hid (And.intro hl3 (And.intro hs3 hl3'))
        have hl80 : l3.length ≤ 80000 := by have := HB.out; omega
        have HL80 := Lib.hid hl80
        clear ho3 hm3 hs3 hl3 hl3' hl80 HPUT cv
        unfold ptr at HSH HLN
        go_wp2_with fail
        refine HSH.out.mono ?_
        intro e w4 h4
        obtain ⟨sa, sc, dp, rfl, d1, d2, d3, d4, hs4, -, hsnd⟩ := told_shape h4 HL80.out
        have HD := Lib.hid (And.intro d1 (And.intro d2 (And.intro d3 (And.intro d4 hs4))))
        have HSND := Lib.hid hsnd
        clear h4 d1 d2 d3 d4 hs4 hsnd HSH
        obtain ⟨n3, hn3⟩ : ∃ n3, l3.length = n3 := ⟨_, rfl⟩
        have HN3 := Lib.hid hn3
        rw [hn3] at HLN HD
        clear hn3
        go_wp2_with fail
        refine (HLN.out _ HD.out.2.2.2.2).mono ?_
        rintro e w4 ⟨rfl, rfl⟩
        go_wp2_with fail
        refine (HSND.out _ _ (Still.refl _) HN3.out.symm).mono ?_
        rintro e w4 ⟨rfl, rfl⟩
        go_wp2_with fail
        obtain ⟨w5, rfl⟩ : ∃ w5 : World, w5 = w4 := ⟨_, rfl⟩
        go_loopw [13, 14] (fun lv jv wr => ∃ (j q : Nat), jv = .int .i64 j ∧ 1 ≤ j ∧ j ≤ dp ∧ lv = .int .i64 q ∧ q = 2 ^ (j - 1) ∧ wr = w5) (fun _ jv _ => dp - (intOf jv).toNat)
        case atStart => exact ⟨1, 1, rfl, Nat.le_refl _, HD.out.1, rfl, rfl, rfl⟩
        case round =>
          obtain ⟨j, q, rfl, hj1, hjd, rfl, hq, rfl⟩ := hrel
          by_cases hjl : j < dp
          · have hqb : 2 * q ≤ 80000 := by
              have h1 := HD.out.2.2.2.1 (by omega)
              have h2 : 2 ^ j ≤ 2 ^ dp := Nat.pow_le_pow_right (by omega) hjd
              have h3 : 2 ^ j = 2 * 2 ^ (j - 1) := by rw [Nat.mul_comm, ← Nat.pow_succ]; congr 1; omega
              have h4 := HL80.out
              have h5 := HN3.out
              omega
            have HQ := Lib.hid (show 2 * q = 2 ^ (j + 1 - 1) from by
              rw [hq, Nat.mul_comm, ← Nat.pow_succ]
              congr 1
              omega)
            have e1 : decide ((j : Int) < (dp : Int)) = true := by simp; omega
            have e2 : decide (j < dp) = true := by simp; omega
            have e3 : IntKind.i64.wrap ((q : Int) * 2) = (q : Int) * 2 := IntWalk.i64_in _ (by omega)
            have e4 : IntKind.i64.wrap ((j : Int) + 1) = (j : Int) + 1 := IntWalk.i64_in _ (by have := HD.out; have := HL80.out; have := HN3.out; omega)
            clear hq hqb
            go_wp2_with fail
            go_roundw
            case rel => exact ⟨j + 1, 2 * q, by go_num, by omega, by omega, by congr 1; omega, HQ.out, trivial⟩
            case measure => simp [intOf]; omega
          · have hge : j = dp := by omega
            subst hge
            have e1 : decide ((j : Int) < (j : Int)) = false := by simp
            rcases Nat.lt_or_ge 1 j with h1 | h1
            · have hqn : q ≤ n3 := by
                have h2 := HD.out.2.2.2.1 (by omega)
                have h3 : 2 ^ j = 2 * 2 ^ (j - 1) := by rw [Nat.mul_comm, ← Nat.pow_succ]; congr 1; omega
                omega
              have e2 : decide ((1 : Int) < (j : Int)) = true := by simp; omega
              have e3 : decide (1 < j) = true := by simp; omega
              have e4 : decide ((n3 : Int) < (q : Int)) = false := by simp; omega
              have e5 : decide (n3 < q) = false := by simp; omega
              have HSW := Lib.hid (HD.out.2.2.2.2)
              clear hq hqn
              go_wp2_with fail
              refine (HLN.out _ HSW.out).mono ?_
              rintro e w6 ⟨rfl, rfl⟩
              go_wp2_with fail
              go_roundw
              case rel => exact ⟨i + 1, l3, by go_num, by omega, HL3.out.1.still HSW.out, HL3.out.2.1.trans HSW.out, HL3.out.2.2⟩
              case measure => simp [intOf]; omega
            · have hj : j = 1 := by omega
              subst hj
              have HSW := Lib.hid (HD.out.2.2.2.2)
              clear hq
              go_wp2_with fail
              go_roundw
              case rel => exact ⟨i + 1, l3, by go_num, by omega, HL3.out.1.still HSW.out, HL3.out.2.1.trans HSW.out, HL3.out.2.2⟩
              case measure => simp [intOf]; omega
    · have hge : i = n := by omega
      subst hge
      have a1 : decide ((i : Int) < (i : Int)) = false := by simp
      have HB2 := Lib.hid (show l.length ≤ 256 from by have := HL.out.2.2; have := HB.out; omega)
      go_wp2_with fail
      obtain ⟨w4, rfl⟩ : ∃ w4 : World, w4 = wr := ⟨_, rfl⟩
      go_loopw [] (fun wr => ∃ l' : Nd 0, Own W (fun _ => False) wr t l' ∧ Still W wr ∧ l'.length ≤ 256) (fun wr => cntOf wr t)
      case atStart => exact ⟨l, HL.out.1, HL.out.2.1, HB2.out⟩
      case round =>
        obtain ⟨l', ho, hs, hl⟩ := hrel
        have HLN := Lib.hid (fun w' (hs : Still wr w') => own_len (ho.still hs))
        have HFR := Lib.hid (own_from ho (by omega) ⟨#[]⟩ (-1))
        have HC := Lib.hid (fun w' (hs' : Still wr w') (k : Key) => own_cut (ho.still hs') (by omega) (hs.trans hs') k)
        have HX := Lib.hid (And.intro ho (And.intro hs hl))
        obtain ⟨m, hm⟩ : ∃ m, l'.length = m := ⟨_, rfl⟩
        rw [hm] at HLN
        have HM := Lib.hid hm
        clear ho hs hl hm
        unfold ptr at HLN HFR HC
        by_cases hm0 : m = 0
        · subst hm0
          have F := Lib.hid (show BTrue W (.returned (.bool true)) wr from ⟨rfl, HX.out.2.1⟩)
          go_wp2_with fail
          refine (HLN.out _ (Still.refl _)).mono ?_
          rintro e w6 ⟨rfl, rfl⟩
          go_wp2_with fail
          go_ret
          exact F.out
        · have e1 : decide ((0 : Int) < (m : Int)) = true := by simp; omega
          have e2 : decide (0 < m) = true := by simp; omega
          go_wp2_with fail
          refine (HLN.out _ (Still.refl _)).mono ?_
          rintro e w6 ⟨rfl, rfl⟩
          go_wp2_with fail
          refine HFR.out.mono ?_
          rintro e w7 ⟨kv, vv, rfl, ht⟩
          rw [fromL_all _ _ (by omega)] at ht
          have hk := ht.k
          obtain ⟨va, vc, rfl⟩ := ht.v.form'
          rw [HM.out] at hk
          obtain ⟨gk, ok, ck, rfl, hkk⟩ := hk.form (by omega)
          rw [HM.out]
          have HS7 := Lib.hid ht.still
          have hkey : ∀ j, j < m → ∃ k, (keys l')[j]? = some k ∧ w7.cell? ⟨gk, ok + j, none⟩ = some (.string k) := fun j hj => by
            obtain ⟨k, hk⟩ : ∃ k, (keys l')[j]? = some k := ⟨_, List.getElem?_eq_getElem (by rw [keys_length, HM.out]; exact hj)⟩
            exact ⟨k, hk, by rw [hkk.cell j (by omega)]; exact kcells_get hk⟩
          obtain ⟨k0, hk0, c0⟩ := hkey 0 (by omega)
          obtain ⟨k1, hk1, c1⟩ := hkey (m - 1) (by omega)
          have c0' : w7.cell? ⟨gk, ok, none⟩ = some (.string k0) := c0
          have b1 : (0 : Int) ≤ (m : Int) - 1 := by omega
          have b2 : (m : Int) - 1 < (m : Int) := by omega
          have b3 : ((m : Int) - 1).toNat = m - 1 := by omega
          have b4 : (0 : Int) < (m : Int) := by omega
          have b5 : ((m : Int) == 0) = false := by rw [beq_eq_false_iff_ne]; omega
          have b5' : (m == 0) = false := by rw [beq_eq_false_iff_ne]; omega
          have b6 : IntKind.i64.wrap ((m : Int) - 1) = (m : Int) - 1 := IntWalk.i64_in _ (by have := HX.out.2.2; have := HM.out; omega)
          have HH0 := Lib.hid (hasK_at HX.out.1.ks hk0)
          have HH1 := Lib.hid (hasK_at HX.out.1.ks hk1)
          clear ht hk hkk hkey hk0 hk1 c0 HFR
          go_wp2_with fail
          refine (HLN.out _ HS7.out).mono ?_
          rintro e w8 ⟨rfl, rfl⟩
          have HCC := Lib.hid (fun k (hk : hasK (keys l') k = true) => (HC.out w8 HS7.out k).mono (fun e w9 (hp : _ ∧ _ ∧ _) => show ∃ l9, e = .returned (.bool true) ∧ Own W (fun _ => False) w9 t l9 ∧ Still W w9 ∧ l9.length = m - 1 from
            ⟨delL l' k, by rw [← hk]; exact hp.1, hp.2.1, hp.2.2.still (HX.out.2.1.trans HS7.out), by have := delL_length' (l := l') k; rw [hk, HM.out] at this; simp at this; omega⟩))
          have HC0 := Lib.hid (HCC.out k0 HH0.out)
          have HC1 := Lib.hid (HCC.out k1 HH1.out)
          clear HC HCC HH0 HH1 HLN
          rcases Bool.eq_false_or_eq_true (bv.tmod 2 == 1) with w1' | w1'
          all_goals
            go_wp2_with fail
            first
              | (with_reducible refine HC0.out.mono ?_)
              | (with_reducible refine HC1.out.mono ?_)
            rintro e w9 ⟨l9, rfl, ho9, hs9, hl9⟩
            have HSH := Lib.hid (own_shape ho9 (by have := HX.out.2.2; have := HM.out; omega))
            have HO9 := Lib.hid (And.intro ho9 (And.intro hs9 hl9))
            clear ho9 hs9 hl9 HC0 HC1
            unfold ptr at HSH
            go_wp2_with fail
            refine HSH.out.mono ?_
            intro e w10 h10
            obtain ⟨sa, sc, dp, rfl, -, -, -, -, hs10, -, hsnd⟩ := told_shape h10 (by have := HO9.out.2.2; have := HX.out.2.2; have := HM.out; omega)
            have hsn := hsnd w10 (m - 1) (Still.refl _) HO9.out.2.2.symm
            have hcast : ((m - 1 : Nat) : Int) = (m : Int) - 1 := by omega
            rw [hcast] at hsn
            have HSN := Lib.hid hsn
            have HO10 := Lib.hid (And.intro (HO9.out.1.still hs10) (HO9.out.2.1.trans hs10))
            clear h10 hs10 hsnd hsn hcast HSH
            go_wp2_with fail
            refine HSN.out.mono ?_
            rintro e w11 ⟨rfl, rfl⟩
            go_wp2_with fail
            go_roundw
            case rel => exact ⟨l9, HO10.out.1, HO10.out.2, by have := HO9.out.2.2; have := HX.out.2.2; have := HM.out; omega⟩
            case measure =>
              rw [HO10.out.1.cnt, HX.out.1.cnt, HM.out, HO9.out.2.2]
              omega
end Go.Proofs.Ytjmkfppnimengaa

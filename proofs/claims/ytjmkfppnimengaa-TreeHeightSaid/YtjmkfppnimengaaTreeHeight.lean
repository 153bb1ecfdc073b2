/- TreeHeight: the walk. Conditions: a row of numbers, a byte. -/
import Derived.Test.YtjmkfppnimengaaTreeRa
import Derived.Test.YtjmkfppnimengaaRow
import Derived.Deep.DeepCutAuto
namespace Go.Proofs.Ytjmkfppnimengaa
open Go.RowKit Go.Wh

theorem lenA_ins {l : Nd 0} {n : Nat} (h : l.length ≤ n) (k : Key) (v : Rid) : (insL l k v).length ≤ n + 1 := Nat.le_trans (insL_length _ _ _).2.1 (by omega)
theorem lenA_del {l : Nd 0} {n : Nat} (h : l.length ≤ n) (k : Key) : (delL l k).length ≤ n := Nat.le_trans (delL_length l k).2 h

theorem conv2d (w : World) (x y : Int) : (convert 47 9 (.slice (some ⟨w.heap.size, 0, none⟩) 2 2)).run Try.prog (w.alloc (.cells #[.int .u8 x, .int .u8 y] 5)).drew = .ok (.string (strOfNums [x, y])) (w.alloc (.cells #[.int .u8 x, .int .u8 y] 5)).drew :=
  run_convert_bytes_arg _ 47 5 Try.underlying47 Try.underlying5 _ 0 2 2 [x, y] rfl (fun i hi => by
    have h := (cellsAt_new w [.int .u8 x, .int .u8 y] 5).drew.cell i
    rw [Nat.zero_add]
    rw [h]
    have : i = 0 ∨ i = 1 := by omega
    rcases this with rfl | rfl <;> rfl) 9 Try.underlying9

def HtCut (W : World) (t : Nat) (w : World) : Prop := ∃ l : Nd 0, Own W (fun _ => False) w t l ∧ Still W w ∧ l.length ≤ 200
/-- How many there must be, on the way. -/
def lst (k : Nat) : Nat := if k = 1 then 0 else 2 ^ (k - 1)
theorem lst_next {k : Nat} (h : 1 ≤ k) : lst (k + 1) = 2 * max (lst k) 1 := by
  unfold lst
  rw [if_neg (by omega), Nat.add_sub_cancel]
  by_cases h1 : k = 1
  · subst h1
    rfl
  · rw [if_neg h1]
    obtain ⟨j, rfl⟩ : ∃ j, k = j + 1 := ⟨k - 1, by omega⟩
    rw [Nat.add_sub_cancel, Nat.pow_succ]
    have : 1 ≤ 2 ^ j := Nat.one_le_two_pow
    omega

set_option maxHeartbeats 1000000 in
set_option maxRecDepth 100000 in
theorem height_walk (a0 : Option Addr) (m cap : Nat) (zs : List Int) (cv : Int) (W : World) (hr : IsRow .u16 W a0 m zs) (hm : m ≤ 200) (hc : 0 ≤ cv ∧ cv < 256) :
    Calls Try.prog 7 #[.slice a0 m cap, .int .u8 cv] W (BTrue W) := by
  have HR := Lib.hid hr
  have HC := Lib.hid (And.intro hc hm)
  have HBG := Lib.hid (begun_any W)
  have a0m : decide ((200 : Int) < (m : Int)) = false := by simp; omega
  have a0m' : decide (200 < m) = false := by simp; omega
  clear hr hc hm
  go_enter Try.func7, Try.ntmps7
  go_wp2_with fail
  refine HBG.out.mono ?_
  rintro e w1 ⟨rfl, hs1⟩
  have HN := Lib.hid (own_new (w0 := W) (A := fun _ => False) hs1 (fun _ e => e.elim))
  have HS1 := Lib.hid hs1
  clear hs1 HBG
  go_wp2_with fail
  refine HN.out.mono ?_
  rintro e w2 ⟨t, rfl, ho2, hs2⟩
  have HO2 := Lib.hid (And.intro ho2 (HS1.out.trans hs2))
  clear ho2 hs2 HN HS1
  unfold ptr
  go_wp2_with fail
  go_loopw [6] (fun s wr => ∃ (i : Nat) (l : Nd 0), s = .int .i64 i ∧ i ≤ m ∧ Own W (fun _ => False) wr t l ∧ Still W wr ∧ l.length ≤ i) (fun s _ => m - (intOf s).toNat)
  case atStart => exact ⟨0, [], rfl, Nat.zero_le _, HO2.out.1, HO2.out.2, Nat.le_refl _⟩
  case round =>
    obtain ⟨i, l, rfl, hin, ho, hs, hl⟩ := hrel
    have HL := Lib.hid (And.intro ho (And.intro hs hl))
    clear ho hs hl
    by_cases hi : i < m
    · have a1 : decide ((i : Int) < (m : Int)) = true := by simp; omega
      have a2 : decide (i < m) = true := by simp; omega
      have a3 : (0 : Int) ≤ (i : Int) := by omega
      have a4 : (i : Int) < (m : Int) := by omega
      have u9 : IntKind.i64.wrap ((i : Int) + 1) = (i : Int) + 1 := IntWalk.i64_in _ (by have := HC.out; omega)
      have cvt := conv2d
      obtain ⟨b, off, hab, hcW, -⟩ := isRow_later HR.out (Below.refl _ _) hi
      subst hab
      have hcell := Still.cell HL.out.2.1 hcW
      have hbw : b < W.heap.size := HR.out.elim (fun h => by omega) fun ⟨b', o', e, h, _⟩ => by injection e with e; injection e with e; omega
      have HPUT := Lib.hid (fun w' (hs : Still wr w') (k : Key) (p q : Int) => (own_put (HL.out.1.still hs) (by have := HL.out.2.2; have := HC.out; omega) (HL.out.2.1.trans hs) k (p, q)).mono (fun e w'' (h : _ ∧ _ ∧ _) => show ∃ l' bo, e = .returned (.bool bo) ∧ Hid (Own W (fun _ => False) w'' t l' ∧ Still W w'' ∧ l'.length ≤ i + 1) ∧ w''.cell? ⟨b, off + i, none⟩ = some (.int .u16 (zs.getD i 0)) from
        ⟨_, _, h.1, Lib.hid ⟨h.2.1, h.2.2.still (HL.out.2.1.trans hs), lenA_ins HL.out.2.2 _ _⟩, (Still.cell (h.2.2.still (HL.out.2.1.trans hs)) hcW)⟩))
      unfold ptr ridV at HPUT
      dsimp only at HPUT
      clear hcW hbw
      obtain ⟨z, hz⟩ : ∃ z, zs.getD i 0 = z := ⟨_, rfl⟩
      rw [hz] at hcell HPUT
      clear hz
      go_wp2_with fail
      go_region_with (first | ((with_reducible refine (HPUT.out _ ((Still.refl _).alloc _).drew _ _ _).mono ?_); rintro e w3 ⟨l3, bo, rfl, HO3, hc3⟩))
      all_goals
        clear hc3 cvt
        go_wp2_with fail
        go_roundw
        case rel => exact ⟨i + 1, l3, by go_num, by omega, HO3⟩
        case measure => simp [intOf]; omega
    · have hge : i = m := by omega
      subst hge
      have a1 : decide ((i : Int) < (i : Int)) = false := by simp
      have HB2 := Lib.hid (show l.length ≤ 200 from by have := HL.out.2.2; have := HC.out; omega)
      go_wp2_with fail
      obtain ⟨w4, rfl⟩ : ∃ w4 : World, w4 = wr := ⟨_, rfl⟩
      go_loopw [7] (fun s wr => ∃ (j : Nat) (l : Nd 0), s = .int .i64 j ∧ j ≤ i ∧ Own W (fun _ => False) wr t l ∧ Still W wr ∧ l.length ≤ 200) (fun s _ => i - (intOf s).toNat)
      case atStart => exact ⟨0, l, rfl, Nat.zero_le _, HL.out.1, HL.out.2.1, HB2.out⟩
      case round =>
        clear HL HB2 l a1
        obtain ⟨j, l, rfl, hin, ho, hs, hl⟩ := hrel
        have HL := Lib.hid (And.intro ho (And.intro hs hl))
        clear ho hs hl
        by_cases hj : j < i
        · have a1 : decide ((j : Int) < (i : Int)) = true := by simp; omega
          have a2 : decide (j < i) = true := by simp; omega
          have a3 : (0 : Int) ≤ (j : Int) := by omega
          have a4 : (j : Int) < (i : Int) := by omega
          have u9 : IntKind.i64.wrap ((j : Int) + 1) = (j : Int) + 1 := IntWalk.i64_in _ (by have := HC.out; omega)
          go_upto_region 13 with fail
          go_cut [57] (fun v wc => ∃ q : Bool, v = .bool q ∧ wr = wc)
          case first =>
            go_wp2_with fail
            all_goals
              go_meet
              case rel => exact ⟨_, rfl, rfl⟩
          case rest =>
            obtain ⟨q, rfl, rfl⟩ := hcut
            go_upto_if 57 with fail
            go_cut [] (fun wc => HtCut W t wc)
            case first =>
              cases q with
              | false =>
                have F := Lib.hid (show HtCut W t wr from ⟨l, HL.out⟩)
                go_wp2_with fail
                go_meet
                case rel => exact F.out
              | true =>
                have cvt := conv2d
                obtain ⟨b, off, hab, hcW, -⟩ := isRow_later HR.out (Below.refl _ _) hj
                subst hab
                have hcell := Still.cell HL.out.2.1 hcW
                have HCU := Lib.hid (fun w' (hs : Still wr w') (k : Key) => (own_cut (HL.out.1.still hs) (by have := HL.out.2.2; omega) (HL.out.2.1.trans hs) k).mono (fun e w'' (h : _ ∧ _ ∧ _) => show ∃ bo, e = .returned (.bool bo) ∧ Hid (HtCut W t w'') from
                  ⟨_, h.1, Lib.hid ⟨_, h.2.1, h.2.2.still (HL.out.2.1.trans hs), lenA_del HL.out.2.2 _⟩⟩))
                unfold ptr at HCU
                clear hcW
                obtain ⟨z, hz⟩ : ∃ z, zs.getD j 0 = z := ⟨_, rfl⟩
                rw [hz] at hcell
                clear hz
                go_wp2_with fail
                go_region_with (first | ((with_reducible refine (HCU.out _ ((Still.refl _).alloc _).drew _).mono ?_); rintro e w3 ⟨bo, rfl, HO3⟩))
                all_goals
                  clear cvt
                  go_wp2_with fail
                  go_meet
                  case rel => exact HO3
            case rest =>
              clear HL l
              obtain ⟨l, hl⟩ := hcut
              have HL := Lib.hid hl
              have hl80 : l.length ≤ 80000 := by have := hl.2.2; omega
              have HSH := Lib.hid (own_shape hl.1 hl80)
              have HLN := Lib.hid (fun w' (hs : Still wc w') => own_len (hl.1.still hs))
              have HL80 := Lib.hid hl80
              clear hl hl80
              unfold ptr at HSH HLN
              go_wp2_with fail
              refine HSH.out.mono ?_
              intro e w5 h5
              obtain ⟨sa, sc, dp, rfl, d1, d2, d3, d4, hs5, -, hsnd⟩ := told_shape h5 HL80.out
              have HD := Lib.hid (And.intro d1 (And.intro d2 (And.intro d3 (And.intro d4 hs5))))
              have HSND := Lib.hid hsnd
              clear h5 d1 d2 d3 d4 hs5 hsnd HSH
              obtain ⟨n3, hn3⟩ : ∃ n3, l.length = n3 := ⟨_, rfl⟩
              have HN3 := Lib.hid hn3
              rw [hn3] at HLN HD
              clear hn3
              go_wp2_with fail
              refine (HLN.out _ HD.out.2.2.2.2).mono ?_
              rintro e w6 ⟨rfl, rfl⟩
              go_wp2_with fail
              obtain ⟨w7, rfl⟩ : ∃ w7 : World, w7 = w6 := ⟨_, rfl⟩
              go_loopw [10, 11, 12] (fun mv lv kv wr => ∃ (k : Nat), kv = .int .i64 k ∧ 1 ≤ k ∧ k ≤ dp ∧ mv = .int .i64 ((4 ^ k : Nat) : Int) ∧ lv = .int .i64 ((lst k : Nat) : Int) ∧ wr = w7) (fun _ _ kv _ => dp - (intOf kv).toNat)
              case atStart => exact ⟨1, rfl, Nat.le_refl _, HD.out.1, rfl, rfl, rfl⟩
              case round =>
                obtain ⟨k, rfl, hk1, hkd, rfl, rfl, rfl⟩ := hrel
                have hdp : dp ≤ 8 := by
                  rcases Nat.lt_or_ge dp 9 with h | h
                  · omega
                  · have h1 := HD.out.2.2.2.1 (by omega)
                    have h2 : 2 ^ 9 ≤ 2 ^ dp := Nat.pow_le_pow_right (by omega) h
                    have h3 := HN3.out
                    have h4 := HL.out.2.2
                    omega
                have hp4 : 4 ^ k ≤ 65536 := Nat.le_trans (Nat.pow_le_pow_right (by omega) (show k ≤ 8 by omega)) (by decide)
                have hl2 : lst k ≤ 256 := by
                  unfold lst
                  split
                  · omega
                  · exact Nat.le_trans (Nat.pow_le_pow_right (by omega) (show k - 1 ≤ 8 by omega)) (by decide)
                by_cases hkl : k < dp
                · have HX := Lib.hid (And.intro (Nat.pow_succ 4 k) (lst_next hk1))
                  generalize hP : 4 ^ k = P at *
                  generalize hQ : lst k = Q at *
                  have HPQ := Lib.hid (And.intro hP hQ)
                  have e1 : decide ((k : Int) < (dp : Int)) = true := by simp; omega
                  have e2 : decide (k < dp) = true := by simp; omega
                  have e3 : IntKind.i64.wrap ((P : Int) * 4) = (P : Int) * 4 := IntWalk.i64_in _ (by omega)
                  have e4 : IntKind.i64.wrap ((k : Int) + 1) = (k : Int) + 1 := IntWalk.i64_in _ (by omega)
                  have e5 : IntKind.i64.wrap (2 * (max (Q : Int) 1)) = 2 * (max (Q : Int) 1) := IntWalk.i64_in _ (by omega)
                  clear hP hQ hp4 hl2 hdp
                  go_wp2_with fail
                  go_roundw
                  case rel => exact ⟨k + 1, by go_num, by omega, by omega, by rw [HX.out.1]; go_num, by rw [HX.out.2]; go_num, trivial⟩
                  case measure => simp [intOf]; omega
                · have hge : k = dp := by omega
                  subst hge
                  have e1 : decide ((k : Int) < (k : Int)) = false := by simp
                  have hn4 := HD.out.2.2.1
                  have HSW := Lib.hid (HD.out.2.2.2.2)
                  rcases Nat.lt_or_ge 1 k with h1 | h1
                  · have hqn : 2 * lst k ≤ n3 := by
                      have h2 := HD.out.2.2.2.1 (by omega)
                      have h3 : 2 ^ k = 2 * 2 ^ (k - 1) := by rw [Nat.mul_comm, ← Nat.pow_succ]; congr 1; omega
                      unfold lst
                      rw [if_neg (by omega)]
                      omega
                    generalize 4 ^ k = P at *
                    generalize lst k = Q at *
                    have e2 : decide ((1 : Int) < (k : Int)) = true := by simp; omega
                    have e3 : decide (1 < k) = true := by simp; omega
                    have e4 : decide ((P : Int) < (n3 : Int)) = false := by simp; omega
                    have e5 : decide (P < n3) = false := by simp; omega
                    have e6 : IntKind.i64.wrap (2 * (Q : Int)) = 2 * (Q : Int) := IntWalk.i64_in _ (by omega)
                    have e7 : decide ((n3 : Int) < 2 * (Q : Int)) = false := by simp; omega
                    have HS2 := Lib.hid (HSND.out _ _ (Still.refl _) HN3.out.symm)
                    clear hqn hn4 hp4 hl2 hdp
                    go_wp2_with fail
                    refine HS2.out.mono ?_
                    rintro e w8 ⟨rfl, rfl⟩
                    go_wp2_with fail
                    go_roundw
                    case rel => exact ⟨j + 1, l, by go_num, by omega, HL.out.1.still HSW.out, HL.out.2.1.trans HSW.out, HL.out.2.2⟩
                    case measure => simp [intOf]; omega
                  · have hk : k = 1 := by omega
                    subst hk
                    have e4 : decide ((4 : Int) < (n3 : Int)) = false := by simp; omega
                    have e5 : decide (4 < n3) = false := by simp; omega
                    have HS2 := Lib.hid (HSND.out _ _ (Still.refl _) HN3.out.symm)
                    have e6 : lst 1 = 0 := rfl
                    have e7 : decide ((n3 : Int) < 0) = false := by simp
                    rw [e6]
                    clear hn4 hp4 hl2 hdp e6
                    go_wp2_with fail
                    refine HS2.out.mono ?_
                    rintro e w8 ⟨rfl, rfl⟩
                    go_wp2_with fail
                    go_roundw
                    case rel => exact ⟨j + 1, l, by go_num, by omega, HL.out.1.still HSW.out, HL.out.2.1.trans HSW.out, HL.out.2.2⟩
                    case measure => simp [intOf]; omega
        · have hge : j = i := by omega
          subst hge
          have a1 : decide ((j : Int) < (j : Int)) = false := by simp
          have F := Lib.hid (show BTrue W (.returned (.bool true)) wr from ⟨rfl, HL.out.2.1⟩)
          go_wp2_with fail
          go_ret
          exact F.out
end Go.Proofs.Ytjmkfppnimengaa

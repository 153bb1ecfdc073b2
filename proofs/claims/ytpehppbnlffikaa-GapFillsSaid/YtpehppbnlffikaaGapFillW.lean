/- The walk through GapFills: it returns true. Conditions: two bytes and a row of bytes. -/
import Derived.Test.YtpehppbnlffikaaGapFill
import Derived.Test.YtpehppbnlffikaaGapHoldW
namespace Go.Proofs.Ytpehppbnlffikaa
open Go.RowKit Go.Wh Go.Maps

theorem quo4n (k : Nat) (hk : k < 32) : IntKind.i64.wrap ((k : Int) / 4) = (k : Int) / 4 := IntWalk.i64_in _ (by omega)

set_option maxRecDepth 100000 in
set_option maxHeartbeats 4000000 in
theorem gapFills_walk (pg cl : Int) (a0 : Option Addr) (len0 cap0 : Nat) (z0 : List Int) (W : World) (hp0 : 0 ≤ pg) (hp1 : pg < 256) (hcl0 : 0 ≤ cl) (hcl1 : cl < 256) (h0 : IsRow .u8 W a0 len0 z0) (hl0 : len0 ≤ 20) :
    Calls Try.prog 3 #[.int .u8 pg, .int .u8 cl, .slice a0 len0 cap0] W (LawPost W) := by
  have H0 := Lib.hid h0
  clear h0
  go_enter Try.func3, Try.ntmps3
  go_wp2_with fail
  refine (begun_any _).mono ?_
  rintro e w1 ⟨rfl, hB1⟩
  go_wp2_with fail
  generalize hn : pg % 8 = n
  have hn0 : 0 ≤ n := by omega
  have hn8 : n < 8 := by omega
  clear hn
  refine (new_any n _).mono ?_
  rintro e w2 ⟨hB2, mb, ub, hb, rfl, hm, hu, hh, g1⟩
  rw [show min (max n 0) 32 = n from by omega] at g1
  generalize hc : cl % 5 = c
  have hc0 : 0 ≤ c := by omega
  have hc5 : c ≤ 4 := by omega
  clear hc
  go_wp2_with fail
  have s0 : FState W mb ub hb w2.heap.size n (fun _ => false) (fun _ => none) (fun _ => false) (w2.alloc (Obj.cells #[Value.bool false, Value.bool false, Value.bool false, Value.bool false, Value.bool false, Value.bool false, Value.bool false, Value.bool false, Value.bool false, Value.bool false, Value.bool false, Value.bool false, Value.bool false, Value.bool false, Value.bool false, Value.bool false, Value.bool false, Value.bool false, Value.bool false, Value.bool false, Value.bool false, Value.bool false, Value.bool false, Value.bool false, Value.bool false, Value.bool false, Value.bool false, Value.bool false, Value.bool false, Value.bool false, Value.bool false, Value.bool false, Value.bool false, Value.bool false, Value.bool false, Value.bool false, Value.bool false, Value.bool false, Value.bool false, Value.bool false] 26)) := by
    have hlt := g1.lt
    have hs1 := hB1.size
    have hs2 := hB2.size
    exact ⟨g1.alloc _, cellsAt_new w2 (offCells fun _ => false) _, (hB1.trans (hB2.mono hs1)).alloc (by omega) _, by omega, by omega, by omega, by omega, by omega, fun _ => .inl rfl⟩
  generalize w2.alloc (Obj.cells #[Value.bool false, Value.bool false, Value.bool false, Value.bool false, Value.bool false, Value.bool false, Value.bool false, Value.bool false, Value.bool false, Value.bool false, Value.bool false, Value.bool false, Value.bool false, Value.bool false, Value.bool false, Value.bool false, Value.bool false, Value.bool false, Value.bool false, Value.bool false, Value.bool false, Value.bool false, Value.bool false, Value.bool false, Value.bool false, Value.bool false, Value.bool false, Value.bool false, Value.bool false, Value.bool false, Value.bool false, Value.bool false, Value.bool false, Value.bool false, Value.bool false, Value.bool false, Value.bool false, Value.bool false, Value.bool false, Value.bool false] 26) = w3 at s0 ⊢
  generalize w2.heap.size = ob at s0 ⊢
  have S0 := Lib.hid s0
  clear s0 hB1 hB2 g1 hm hu hh
  clear w1
  go_loopw [11] (fun s wr => ∃ (i : Nat) (U : Int × Int → Bool) (H : Int × Int → Option Int) (off : Nat → Bool), s = .int .i64 i ∧ i ≤ len0 ∧ FState W mb ub hb ob n U H off wr ∧ Off1 U H off) (fun s _ => len0 - (intOf s).toNat)
  case atStart => exact ⟨0, _, _, _, rfl, Nat.zero_le _, S0.out, fun _ _ => rfl⟩
  case round =>
    clear S0
    obtain ⟨i, U, H, off, rfl, hi, hs, ho⟩ := hrel
    by_cases hlt : i < len0
    · obtain ⟨b, of0, rfl, hcz, hw⟩ := isRow_later H0.out hs.below hlt
      have hbl : b < wr.heap.size := lt_of_cell hcz
      generalize z0.getD i 0 = z at hcz hw
      obtain ⟨hz0, hz1⟩ := byte_wf hw
      clear hw
      have HS := Lib.hid hs
      have HO := Lib.hid ho
      clear hs ho
      by_cases hz : 127 < z
      · go_wp2_with fail
        generalize hkk : z % 32 = kk
        have hk0 : 0 ≤ kk := by omega
        have hk1 : kk < 32 := by omega
        obtain ⟨k, rfl⟩ := Int.eq_ofNat_of_zero_le hk0
        rw [show z % 4 = (k : Int) % 4 from by omega]
        clear hkk
        have hk32 : k < 32 := by omega
        have hk40 : k < 40 := by omega
        by_cases hv : (k : Int) / 4 < n
        · refine (fhold_yes (HS.out.alloc _) k hk32 hv).mono ?_
          rintro e w4 ⟨rfl, hs4⟩
          have c4 := hs4.off_at k hk40
          have f4 := hs4.off_free k
          have HS5 := Lib.hid (hs4.off1 k true)
          have HO5 := Lib.hid (HO.out.held k 7)
          clear hs4 HS HO
          go_wp2_with fail
          go_roundw
          case rel => exact ⟨i + 1, _, _, _, by go_num, by omega, HS5.out, HO5.out⟩
          case measure => simp [intOf]; omega
        · refine (fhold_no (HS.out.alloc _) k hv).mono ?_
          rintro e w4 ⟨rfl, hs4⟩
          have c4 := hs4.off_at k hk40
          have f4 := hs4.off_free k
          have HS5 := Lib.hid (hs4.off1 k (off k))
          have HO5 := Lib.hid (HO.out.same k)
          clear hs4 HS HO
          generalize off k = ok at c4 HS5 HO5
          go_wp2_with fail
          go_roundw
          case rel => exact ⟨i + 1, _, _, _, by go_num, by omega, HS5.out, HO5.out⟩
          case measure => simp [intOf]; omega
      · go_wp2_with fail
        generalize hkk : z % 32 = kk
        have hk0 : 0 ≤ kk := by omega
        have hk1 : kk < 32 := by omega
        obtain ⟨k, rfl⟩ := Int.eq_ofNat_of_zero_le hk0
        rw [show z % 4 = (k : Int) % 4 from by omega]
        clear hkk
        have hk32 : k < 32 := by omega
        have hk40 : k < 40 := by omega
        by_cases hv : (k : Int) / 4 < n
        · refine (fuse_yes (HS.out.alloc _) k hk32 hv).mono ?_
          rintro e w4 ⟨rfl, hs4⟩
          have c4 := hs4.off_at k hk40
          have f4 := hs4.off_free k
          have HS5 := Lib.hid (hs4.off1 k true)
          have HO5 := Lib.hid (HO.out.used k)
          clear hs4 HS HO
          go_wp2_with fail
          go_roundw
          case rel => exact ⟨i + 1, _, _, _, by go_num, by omega, HS5.out, HO5.out⟩
          case measure => simp [intOf]; omega
        · refine (fuse_no (HS.out.alloc _) k hv).mono ?_
          rintro e w4 ⟨rfl, hs4⟩
          have c4 := hs4.off_at k hk40
          have f4 := hs4.off_free k
          have HS5 := Lib.hid (hs4.off1 k (off k))
          have HO5 := Lib.hid (HO.out.same k)
          clear hs4 HS HO
          generalize off k = ok at c4 HS5 HO5
          go_wp2_with fail
          go_roundw
          case rel => exact ⟨i + 1, _, _, _, by go_num, by omega, HS5.out, HO5.out⟩
          case measure => simp [intOf]; omega
    · have S1 := Lib.hid hs
      have O1 := Lib.hid (ho.toTwo (n := n) (c := c))
      clear hs ho H0
      go_wp2_with fail
      obtain ⟨w5, rfl⟩ : ∃ w5 : World, w5 = wr := ⟨_, rfl⟩
      go_loopw [14] (fun s wr => ∃ (k : Nat) (U : Int × Int → Bool), s = .int .i64 k ∧ k ≤ 32 ∧ FState W mb ub hb ob n U H off wr ∧ Off2 n c U H off k) (fun s _ => 32 - (intOf s).toNat)
      case atStart => exact ⟨0, U, rfl, by omega, S1.out, O1.out⟩
      case round =>
        clear S1 O1
        clear U
        obtain ⟨k, U, rfl, hk, hs, ho⟩ := hrel
        have HS := Lib.hid hs
        have HO := Lib.hid ho
        clear hs ho
        by_cases hk32 : k < 32
        · have hk40 : k < 40 := by omega
          have c4 := HS.out.off_at k hk40
          by_cases h1 : n ≤ (k : Int) / 4
          · have HO5 := Lib.hid (HO.out.skip hk32 (.inl h1))
            have hd1 : decide (n ≤ (k : Int) / 4) = true := by simpa using h1
            clear c4
            go_wp2_with fail
            go_roundw
            case rel => exact ⟨k + 1, _, by go_num, by omega, HS.out, HO5.out⟩
            case measure => simp [intOf]; omega
          · have hd1 : decide (n ≤ (k : Int) / 4) = false := by simpa using h1
            by_cases h2 : c ≤ (k : Int) % 4
            · have HO5 := Lib.hid (HO.out.skip hk32 (.inr (.inl h2)))
              have hd2 : decide (c ≤ (k : Int) % 4) = true := by simpa using h2
              clear c4
              go_wp2_with fail
              go_roundw
              case rel => exact ⟨k + 1, _, by go_num, by omega, HS.out, HO5.out⟩
              case measure => simp [intOf]; omega
            · have hd2 : decide (c ≤ (k : Int) % 4) = false := by simpa using h2
              cases hok : off k with
              | true =>
                have HO5 := Lib.hid (HO.out.skip hk32 (.inr (.inr hok)))
                rw [hok] at c4
                clear hok
                go_wp2_with fail
                go_roundw
                case rel => exact ⟨k + 1, _, by go_num, by omega, HS.out, HO5.out⟩
                case measure => simp [intOf]; omega
              | false =>
                have hfree : freeFor U H 1 (cellNo k) = true := by rw [free_taken HS.out.seven, ← HO.out.1 k (Nat.le_refl _) hk32, hok]; rfl
                have HT := Lib.hid (told_first U H 1 n c k hn0 hc0 hc5 (by omega) (by omega) hfree (fun j hj a b => by rw [free_taken HS.out.seven, HO.out.2 j hj a b]; rfl))
                have HO5 := Lib.hid (HO.out.take)
                rw [hok] at c4
                clear hok hfree
                go_wp2_with fail
                refine (next_any mb ub hb n 0 n c 1 _ _ _ HS.out.gap (by omega) (by omega) (by omega) hc0 hc5).mono ?_
                rintro e w6 ⟨rfl, hb6⟩
                rw [HT.out]
                unfold nextVal cellNo
                have HS6 := Lib.hid (HS.out.same hb6)
                clear hb6 HS HT c4
                go_wp2_with fail
                refine (fuse_yes (HS6.out.alloc _) k hk32 (by omega)).mono ?_
                rintro e w7 ⟨rfl, hs7⟩
                have HS7 := Lib.hid hs7
                clear hs7 HS6
                go_wp2_with fail
                go_roundw
                case rel => exact ⟨k + 1, _, by go_num, by omega, HS7.out, HO5.out⟩
                case measure => simp [intOf]; omega
        · obtain rfl : k = 32 := by omega
          have HT := Lib.hid (told_none U H 1 n c (by omega) hc5 (fun j hj a b => by rw [free_taken HS.out.seven, HO.out.2 j hj a b]; rfl))
          go_wp2_with fail
          refine (next_any mb ub hb n 0 n c 1 _ _ _ HS.out.gap (by omega) (by omega) (by omega) hc0 hc5).mono ?_
          rintro e w6 ⟨rfl, hb6⟩
          rw [HT.out]
          unfold nextVal
          have HB := Lib.hid (HS.out.below.trans (hb6.mono HS.out.below.size))
          clear hb6 HS HT
          go_wp2_with fail
          go_ret
          exact ⟨rfl, HB.out.alloc HB.out.size _⟩
end Go.Proofs.Ytpehppbnlffikaa

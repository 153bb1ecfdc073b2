/- PlanPlaces: the walk. No conditions. -/
import Derived.Test.YtpppphalacojjaaPlanBegun
import Derived.Test.YtpppphalacojjaaRow
namespace Go.Proofs.Ytpppphalacojjaa
open Go.RowKit Go.Wh

structure PlRel (w : World) (h k last : Int) (wr : World) : Prop where
  k0 : 0 ≤ k
  k1 : k ≤ 48
  less : last < (h * 16 + k / 3) * 4 + k % 3
  low : -2 < last
  below : Below w.heap.size w wr

set_option maxRecDepth 100000 in
set_option maxHeartbeats 2000000 in
theorem planPlaces_walk (w : World) : Calls Try.prog 5 #[] w (BTrue w) := by
  go_enter Try.func5, Try.ntmps5
  go_wp2_with fail
  refine (begun_any _).mono ?_
  rintro e w1 ⟨rfl, hb1⟩
  have HB1 := Lib.hid hb1
  clear hb1
  go_wp2_with fail
  go_loopw [1, 2] (fun l h wr => ∃ (hz last : Int), h = .int .i64 hz ∧ l = .int .i64 last ∧ 0 ≤ hz ∧ hz ≤ 2 ∧ -2 < last ∧ last < hz * 64 ∧ Below w.heap.size w wr) (fun _ h _ => 2 - (intOf h).toNat)
  case atStart => exact ⟨0, -1, rfl, rfl, by omega, by omega, by omega, by omega, HB1.out⟩
  case round =>
    clear HB1
    obtain ⟨h, last, rfl, rfl, h0, h2, hl0, hl, hb⟩ := hrel
    have HB := Lib.hid hb
    clear hb
    by_cases h1 : h < 2
    · have h1' : h ≤ 1 := by omega
      go_wp2_with fail
      obtain ⟨wo, rfl⟩ : ∃ wo : World, wo = wr := ⟨_, rfl⟩
      go_loopw [1, 3] (fun l k wr => ∃ (kz last : Int), k = .int .i64 kz ∧ l = .int .i64 last ∧ PlRel w h kz last wr) (fun _ k _ => 48 - (intOf k).toNat)
      case atStart => exact ⟨0, last, rfl, rfl, by omega, by omega, by omega, by omega, HB.out⟩
      case round =>
        clear HB hl hl0
        obtain ⟨k, last, rfl, rfl, hk0, hk1, hl, hl0, hb⟩ := hrel
        have HB := Lib.hid hb
        clear hb
        go_wp2_with fail
        refine (most_any _).mono ?_
        rintro e w' ⟨rfl, rfl⟩
        by_cases hk : k < 48
        · go_wp2_with fail
          refine (place_yes h k _ h0 h1' hk0 hk).mono ?_
          rintro e w2 ⟨rfl, hb2⟩
          have HB2 := Lib.hid (HB.out.trans (Below.mono hb2 HB.out.size))
          clear hb2 HB
          have q0 : 0 ≤ h * 16 + k / 3 := by omega
          have q1 : h * 16 + k / 3 < 32 := by omega
          have q2 : 0 ≤ k % 3 := by omega
          have q3 : k % 3 < 3 := by omega
          have q4 : (h * 16 + k / 3) / 16 = h := by omega
          have HN := Lib.hid (show (h * 16 + k / 3) * 4 + k % 3 < (h * 16 + (k + 1) / 3) * 4 + (k + 1) % 3 by omega)
          generalize h * 16 + k / 3 = p at *
          generalize k % 3 = c at *
          have hcf : cellsAt (w2.alloc (.cells #[.int .i64 p, .int .i64 c] 26)) w2.heap.size [.int .i64 p, .int .i64 c] := cellsAt_new w2 _ _
          have f0 := hcf.cell 0
          have f1 := hcf.cell 1
          simp only [List.getElem?_cons_zero, List.getElem?_cons_succ] at f0 f1
          have HB3 := Lib.hid (HB2.out.alloc HB2.out.size (.cells #[.int .i64 p, .int .i64 c] 26))
          clear hcf HB2
          go_wp2_with fail
          go_roundw
          case rel => exact ⟨k + 1, p * 4 + c, rfl, rfl, by omega, by omega, HN.out, by omega, HB3.out⟩
          case measure => simp [intOf]; omega
        · have hk48 : k = 48 := by omega
          subst hk48
          have hl2 : last < (h + 1) * 64 := by omega
          clear hl
          go_wp2_with fail
          refine (most_any _).mono ?_
          rintro e w' ⟨rfl, rfl⟩
          go_wp2_with fail
          refine (place_no h 48 _ (by omega)).mono ?_
          rintro e w2 ⟨rfl, hb2⟩
          have HB2 := Lib.hid (HB.out.trans (Below.mono hb2 HB.out.size))
          have HB3 := Lib.hid (HB2.out.alloc HB2.out.size (.cells #[.int .i64 0, .int .i64 0] 26))
          clear hb2 HB HB2
          go_wp2_with fail
          refine (place_no h (-1) _ (by omega)).mono ?_
          rintro e w4 ⟨rfl, hb4⟩
          have HB4 := Lib.hid (HB3.out.trans (Below.mono hb4 HB3.out.size))
          have HB5 := Lib.hid (HB4.out.alloc HB4.out.size (.cells #[.int .i64 0, .int .i64 0] 26))
          clear hb4 HB4 HB3
          go_wp2_with fail
          go_roundw
          case rel => exact ⟨h + 1, last, rfl, rfl, by omega, by omega, by omega, hl2, HB5.out⟩
          case measure => simp [intOf]; omega
    · go_wp2_with fail
      refine (place_no 2 0 _ (by omega)).mono ?_
      rintro e w2 ⟨rfl, hb2⟩
      have HB2 := Lib.hid (HB.out.trans (Below.mono hb2 HB.out.size))
      have HB3 := Lib.hid (HB2.out.alloc HB2.out.size (.cells #[.int .i64 0, .int .i64 0] 26))
      clear hb2 HB HB2
      go_wp2_with fail
      refine (place_no (-1) 0 _ (by omega)).mono ?_
      rintro e w4 ⟨rfl, hb4⟩
      have HB4 := Lib.hid (HB3.out.trans (Below.mono hb4 HB3.out.size))
      have HB5 := Lib.hid (HB4.out.alloc HB4.out.size (.cells #[.int .i64 0, .int .i64 0] 26))
      clear hb4 HB4 HB3
      go_wp2_with fail
      refine (most_any _).mono ?_
      rintro e w' ⟨rfl, rfl⟩
      have F := Lib.hid (show BTrue w (.returned (.bool true)) _ from ⟨rfl, HB5.out⟩)
      go_wp2_with fail
      go_ret
      exact F.out
end Go.Proofs.Ytpppphalacojjaa

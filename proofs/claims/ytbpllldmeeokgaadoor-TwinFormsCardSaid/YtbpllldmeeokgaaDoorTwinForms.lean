/- TwinForms: the walk. Conditions: the library's variable holds a number. -/
import Derived.Test.YtbpllldmeeokgaaDoorTwinD
import Derived.Test.YtbpllldmeeokgaaDoorFr
namespace Go.Proofs.YtbpllldmeeokgaaDoor
open Go.RowKit Go.Wh
open Go.Lib hiding intOf

def badL : List ByteArray := [⟨#[]⟩, ⟨#[97]⟩, ⟨#[0]⟩, ⟨#[97, 0]⟩, ⟨#[97, 0, 2]⟩, ⟨#[97, 0, 0, 1]⟩, ⟨#[0, 255]⟩]
theorem bad_at (i : Nat) (h : i < 7) : ∃ t : ByteArray, badL[i]? = some t ∧ t.size ≤ 10 ∧ spT t = (⟨#[]⟩, ⟨#[]⟩, false) := by
  have : ∀ i, i < 7 → ((badL[i]?).map fun t => decide (t.size ≤ 10 ∧ spT t = (⟨#[]⟩, ⟨#[]⟩, false))) = some true := by decide +kernel
  have h1 := this i h
  cases hb : badL[i]? with
  | none => rw [hb] at h1; cases h1
  | some t =>
    rw [hb] at h1
    simp only [Option.map_some, Option.some.injEq, decide_eq_true_eq] at h1
    exact ⟨t, rfl, h1⟩

theorem fm1 : spT ⟨#[120, 0, 255, 121, 0, 1, 0, 1, 122]⟩ = (⟨#[120, 0, 121]⟩, ⟨#[0, 1, 122]⟩, true) := by decide +kernel
theorem fm2 : jB ⟨#[]⟩ ⟨#[]⟩ = ⟨#[0, 1]⟩ := by decide +kernel
theorem fm3 : jB ⟨#[0]⟩ ⟨#[]⟩ = ⟨#[0, 255, 0, 1]⟩ := by decide +kernel

set_option maxRecDepth 100000 in
set_option maxHeartbeats 1000000 in
theorem twinForms_walk (w : World) (hm : HasM w) : Calls Tryd.prog 5 #[] w (TruePost w) := by
  have C1 := Lib.hid (begun_any w hm)
  clear hm
  go_enter Tryd.func5, Tryd.ntmps5
  go_wp2_with fail
  refine C1.out.mono ?_
  clear C1
  rintro e w1 ⟨rfl, hb1, hm1⟩
  have HC := Lib.hid (cellsAt_new w1 (badL.map Value.string) 9)
  have HB := Lib.hid (hb1.alloc hb1.size (.cells (badL.map Value.string).toArray 9))
  have HM := Lib.hid (HasM.below hm1 ((Below.refl _ _).alloc (Nat.le_refl _) (.cells (badL.map Value.string).toArray 9)))
  clear hb1 hm1
  go_wp2_with fail
  have e0 : w1.alloc (.cells #[.string ⟨#[]⟩, .string ⟨#[97]⟩, .string ⟨#[0]⟩, .string ⟨#[97, 0]⟩, .string ⟨#[97, 0, 2]⟩, .string ⟨#[97, 0, 0, 1]⟩, .string ⟨#[0, 255]⟩] 9) = w1.alloc (.cells (badL.map Value.string).toArray 9) := rfl
  rw [e0]
  clear e0
  have hlt := HC.out.lt
  have HLT := Lib.hid hlt
  clear hlt
  generalize w1.heap.size = r at *
  generalize w1.alloc (.cells (badL.map Value.string).toArray 9) = w2 at *
  go_loopw [2] (fun s wr => ∃ i : Nat, s = .int .i64 i ∧ i ≤ 7 ∧ Below w2.heap.size w2 wr ∧ HasM wr) (fun s _ => 7 - (intOf s).toNat)
  case atStart => exact ⟨0, rfl, by omega, Below.refl _ _, HM.out⟩
  case round =>
    obtain ⟨i, rfl, hi, hb, hmr⟩ := hrel
    have HBR := Lib.hid hb
    have HMR := Lib.hid hmr
    clear hb hmr
    by_cases hlt : i < 7
    · obtain ⟨t, ht, hts, hsp⟩ := bad_at i hlt
      have hc : wr.cell? ⟨r, i, none⟩ = some (.string t) := by
        rw [(HC.out.below HBR.out HLT.out).cell i, List.getElem?_map, ht]
        rfl
      have C2 := Lib.hid (split_of t _ _ _ wr HMR.out (by omega) hsp)
      clear ht hsp
      go_wp2_with fail
      refine C2.out.mono ?_
      clear C2
      rintro e w3 ⟨rfl, hb3, hm3⟩
      have HN := Lib.hid (show Below w2.heap.size w2 w3 ∧ HasM w3 from ⟨HBR.out.trans (Below.mono hb3 HBR.out.size), hm3⟩)
      clear hb3 hm3 hc
      go_wp2_with fail
      go_roundw
      case rel => exact ⟨i + 1, by go_num, by omega, HN.out⟩
      case measure => simp [intOf]; omega
    · have C2 := Lib.hid (split_of _ _ _ _ wr HMR.out (by decide) fm1)
      have HB2 := Lib.hid (HB.out.trans (Below.mono HBR.out HB.out.size))
      clear HB HBR HMR HM
      go_wp2_with fail
      refine C2.out.mono ?_
      clear C2
      rintro e w3 ⟨rfl, hb3, hm3⟩
      have C3 := Lib.hid (join_of _ _ _ w3 hm3 (by decide) (by decide) fm2)
      have HB3 := Lib.hid (HB2.out.trans (Below.mono hb3 HB2.out.size))
      clear hb3 hm3 HB2
      go_wp2_with fail
      refine C3.out.mono ?_
      clear C3
      rintro e w4 ⟨rfl, hb4, hm4⟩
      have C4 := Lib.hid (join_of _ _ _ w4 hm4 (by decide) (by decide) fm3)
      have HB4 := Lib.hid (HB3.out.trans (Below.mono hb4 HB3.out.size))
      clear hb4 hm4 HB3
      go_wp2_with fail
      refine C4.out.mono ?_
      clear C4
      rintro e w5 ⟨rfl, hb5, hm5⟩
      have F := Lib.hid (show TruePost w (.returned (.bool true)) w5 from ⟨rfl, HB4.out.trans (Below.mono hb5 HB4.out.size), hm5⟩)
      clear hb5 hm5 HB4
      go_wp2_with fail
      go_ret
      exact F.out
end Go.Proofs.YtbpllldmeeokgaaDoor

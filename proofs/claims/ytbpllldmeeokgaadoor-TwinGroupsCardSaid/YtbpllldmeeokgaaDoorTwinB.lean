/- Package twin's Split, and the reference's. Conditions: texts of at most two thousand bytes. -/
import Derived.Test.YtbpllldmeeokgaaDoorTwinA
import Derived.Deep.RegionHeld3
import Derived.Deep.DeepCutAuto
namespace Go.Proofs.YtbpllldmeeokgaaDoor
open Go.RowKit
open Go.Lib hiding intOf

inductive SplitEnd (s : ByteArray) : Ending → Prop where
  | no (h : spl [] s.data.toList = none) : SplitEnd s (.returned (.tuple #[.string ⟨#[]⟩, .string ⟨#[]⟩, .bool false]))
  | yes (x y : ByteArray) (h : spl [] s.data.toList = some (x.data.toList, y.data.toList)) : SplitEnd s (.returned (.tuple #[.string x, .string y, .bool true]))
def SplitPost (s : ByteArray) (w : World) (e : Ending) (w' : World) : Prop := SplitEnd s e ∧ Below w.heap.size w w'

/-- The reference's round. -/
structure RS (s t : ByteArray) (i : Nat) : Prop where
  spl_ : spl [] s.data.toList = spl t.data.toList (s.data.toList.drop i)
  small : t.size ≤ i
theorem RS.start (s : ByteArray) : RS s ⟨#[]⟩ 0 := ⟨rfl, Nat.le_refl _⟩
theorem drop_at (s : ByteArray) (i : Nat) (h : i < s.size) : s.data.toList.drop i = s[i] :: s.data.toList.drop (i + 1) := by
  rw [List.drop_eq_getElem_cons (by rw [size_list]; exact h)]; rfl
theorem RS.other {s t : ByteArray} {i : Nat} (h : RS s t i) (hi : i < s.size) (hz : ¬ s[i].toNat = 0) : RS s (t ++ s.extract i (i + 1)) (i + 1) := by
  have h1 := extract_one s i hi
  refine ⟨?_, ?_⟩
  · rw [h.spl_, drop_at s i hi, spl_other (fun e => hz (by rw [e]; rfl)), app_list, h1]
  · rw [← size_list, app_list, h1, List.length_append, size_list]
    have := h.small
    simp
    omega
theorem RS.last {s t : ByteArray} {i : Nat} (h : RS s t i) (hi : i + 1 = s.size) : spl [] s.data.toList = none := by
  rw [h.spl_, drop_at s i (by omega), List.drop_of_length_le (by rw [size_list]; omega)]
  rfl
theorem RS.over {s t : ByteArray} {i : Nat} (h : RS s t i) (hi : ¬ i < s.size) : spl [] s.data.toList = none := by
  rw [h.spl_, List.drop_of_length_le (by rw [size_list]; omega)]
  rfl
theorem two_at (s : ByteArray) (i : Nat) (hi : i < s.size) (h2 : i + 1 < s.size) (hz : s[i].toNat = 0) : s.data.toList.drop i = 0 :: s[i + 1] :: s.data.toList.drop (i + 2) := by
  rw [drop_at s i hi, drop_at s (i + 1) h2]
  have : s[i] = 0 := UInt8.toNat_inj.1 hz
  rw [this]
theorem RS.found {s t : ByteArray} {i : Nat} (h : RS s t i) (h2 : i + 1 < s.size) (hz : (s[i]'(by omega)).toNat = 0) (h1 : s[i + 1].toNat = 1) : spl [] s.data.toList = some (t.data.toList, (s.extract (i + 2) s.size).data.toList) := by
  have e : s[i + 1] = 1 := UInt8.toNat_inj.1 h1
  rw [h.spl_, two_at s i (by omega) h2 hz, e, extract_list, List.take_of_length_le (by rw [List.length_drop, size_list]; omega)]
  simp [spl]
theorem RS.bad {s t : ByteArray} {i : Nat} (h : RS s t i) (h2 : i + 1 < s.size) (hz : (s[i]'(by omega)).toNat = 0) (h1 : ¬ s[i + 1].toNat = 1) (h3 : ¬ s[i + 1].toNat = 255) : spl [] s.data.toList = none := by
  have e1 : s[i + 1] ≠ 1 := fun e => h1 (by rw [e]; rfl)
  have e2 : s[i + 1] ≠ 255 := fun e => h3 (by rw [e]; rfl)
  rw [h.spl_, two_at s i (by omega) h2 hz]
  simp [spl, e1, e2]
theorem RS.nought {s t : ByteArray} {i : Nat} (h : RS s t i) (h2 : i + 1 < s.size) (hz : (s[i]'(by omega)).toNat = 0) (h3 : s[i + 1].toNat = 255) : RS s (t ++ ⟨#[0]⟩) (i + 2) := by
  have e : s[i + 1] = 255 := UInt8.toNat_inj.1 h3
  refine ⟨?_, ?_⟩
  · rw [h.spl_, two_at s i (by omega) h2 hz, e, app_list]
    simp [spl]
  · rw [← size_list, app_list, List.length_append, size_list]
    have := h.small
    simp
    omega

set_option maxRecDepth 100000 in
set_option maxHeartbeats 1000000 in
theorem rsplit_any (s : ByteArray) (w : World) (hs : s.size ≤ 2000) :
    Calls Tryd.prog 9 #[.string s] w (SplitPost s w) := by
  go_enter Tryd.func9, Tryd.ntmps9
  go_wp2_with fail
  go_loop [5, 6] (fun u v => ∃ (i : Nat) (t : ByteArray), u = .string t ∧ v = .int .i64 i ∧ i ≤ s.size ∧ RS s t i) (fun _ v => s.size - (intOf v).toNat)
  case atStart => exact ⟨0, ⟨#[]⟩, rfl, rfl, Nat.zero_le _, RS.start s⟩
  case round =>
    obtain ⟨i, t, rfl, rfl, hi, hr⟩ := hrel
    have HR := Lib.hid hr
    have hts := hr.small
    clear hr
    by_cases hlt : i < s.size
    · by_cases hz : s[i].toNat = 0
      · have hz' : ((s[i].toNat : Int) != 0) = false := by simp; omega
        by_cases h2 : i + 1 < s.size
        · have h2' : ((i : Int) + 1 == (s.size : Int)) = false := by simp; omega
          by_cases h1 : s[i + 1].toNat = 1
          · have h1' : ((s[i + 1].toNat : Int) == 1) = true := by simp; omega
            have F := Lib.hid (fun n => show SplitPost s w (.returned (.tuple #[.string t, .string (s.extract (i + 2) s.size), .bool true])) (w.drewN n) from ⟨.yes _ _ (HR.out.found h2 hz h1), below_drewN (Below.refl _ _) n⟩)
            clear HR hz h1
            go_wp2_with fail
            have a1 : (0 : Int) ≤ (i : Int) + 2 := by omega
            have a2 : (i : Int) + 2 ≤ (s.size : Int) := by omega
            go_quiet (fail)
            go_wp2_with fail
            go_ret3
            exact F.out _
          · have h1' : ((s[i + 1].toNat : Int) == 1) = false := by simp; omega
            by_cases h3 : s[i + 1].toNat = 255
            · have h3' : ((s[i + 1].toNat : Int) != 255) = false := by simp; omega
              have HN := Lib.hid (HR.out.nought h2 hz h3)
              clear HR hz h1 h3
              go_wp2_with fail
              go_round
              case rel => exact ⟨i + 2, _, rfl, by go_num, by omega, HN.out⟩
              case measure => simp [intOf]; omega
            · have h3' : ((s[i + 1].toNat : Int) != 255) = true := by simp; omega
              have F := Lib.hid (show SplitPost s w (.returned (.tuple #[.string ⟨#[]⟩, .string ⟨#[]⟩, .bool false])) w from ⟨.no (HR.out.bad h2 hz h1 h3), Below.refl _ _⟩)
              clear HR hz h1 h3
              go_wp2_with fail
              go_ret3
              exact F.out
        · have h2' : ((i : Int) + 1 == (s.size : Int)) = true := by simp; omega
          have F := Lib.hid (show SplitPost s w (.returned (.tuple #[.string ⟨#[]⟩, .string ⟨#[]⟩, .bool false])) w from ⟨.no (HR.out.last (by omega)), Below.refl _ _⟩)
          clear HR hz
          go_wp2_with fail
          go_ret3
          exact F.out
      · have hz' : ((s[i].toNat : Int) != 0) = true := by simp; omega
        have HN := Lib.hid (HR.out.other hlt hz)
        have hsz : (s.extract i (i + 1)).size = 1 := by rw [← size_list, extract_one s i hlt]; rfl
        clear HR hz
        go_wp2_with fail
        go_round
        case rel => exact ⟨i + 1, _, rfl, by go_num, by omega, HN.out⟩
        case measure => simp [intOf]; omega
    · have F := Lib.hid (show SplitPost s w (.returned (.tuple #[.string ⟨#[]⟩, .string ⟨#[]⟩, .bool false])) w from ⟨.no (HR.out.over hlt), Below.refl _ _⟩)
      clear HR
      go_wp2_with fail
      go_ret3
      exact F.out
end Go.Proofs.YtbpllldmeeokgaaDoor

/- Package twin's Join and Front, and the reference's Join. Conditions: texts of at most a thousand bytes. -/
import Derived.Test.YtbpllldmeeokgaaDoorTwinM
import Derived.WalkKit
import Derived.WalkSpells
import Derived.WalkLawsBesides
import Derived.LoopTactic
import Derived.Deep.QuietTactic
import Derived.BigQuiet
import Derived.StillTailTactics
import Derived.Lib.Hide
namespace Go.Proofs.YtbpllldmeeokgaaDoor
open Go.RowKit
open Go.Lib hiding intOf

theorem app_list (a b : ByteArray) : (a ++ b).data.toList = a.data.toList ++ b.data.toList := by
  rw [ByteArray.data_append, Array.toList_append]
theorem size_list (a : ByteArray) : a.data.toList.length = a.size := by
  rw [Array.length_toList]
  rfl

def JoinPost (s k : ByteArray) (w : World) (e : Ending) (w' : World) : Prop :=
  ∃ t : ByteArray, e = .returned (.string t) ∧ t.data.toList = joinL s.data.toList k.data.toList ∧ Below w.heap.size w w'

set_option maxHeartbeats 400000 in
theorem join_any (s k : ByteArray) (m : Int) (w : World) (hm : w.cell? ⟨0, 0, none⟩ = some (.int .i64 m)) (hs : s.size ≤ 1000) (hk : k.size ≤ 1000) :
    Calls Tryd.prog 10 #[.string s, .string k] w (JoinPost s k w) := by
  have hc : countB s ⟨#[0]⟩ ≤ s.size + 1 := by
    have := count_zero_le s.data.toList
    rw [size_list] at this
    exact this
  have C := Lib.hid (tw_strings_ReplaceAll s ⟨#[0]⟩ ⟨#[0, 255]⟩ m w (by omega) hm (by decide) (by
    show s.size + countB s ⟨#[0]⟩ * 2 ≤ _
    omega))
  have HL := Lib.hid (show (esc s.data.toList).length ≤ 2000 by
    have := esc_len s.data.toList
    rw [size_list] at this
    omega)
  clear hm hc
  go_enter Tryd.func10, Tryd.ntmps10
  go_wp2_with fail
  refine C.out.mono ?_
  clear C
  rintro e w1 ⟨rfl, hb⟩
  have HR := Lib.hid (show (⟨(replaceAll s.data.toList [0] [0, 255]).toArray⟩ : ByteArray).data.toList = esc s.data.toList from by
    rw [replaceAll_zero])
  have hd : (⟨(replaceAll s.data.toList (ByteArray.mk #[0]).data.toList (ByteArray.mk #[0, 255]).data.toList).toArray⟩ : ByteArray) = ⟨(replaceAll s.data.toList [0] [0, 255]).toArray⟩ := rfl
  rw [hd]
  clear hd
  generalize (⟨(replaceAll s.data.toList [0] [0, 255]).toArray⟩ : ByteArray) = t at *
  have hts : t.size ≤ 2000 := by
    rw [← size_list, HR.out]
    exact HL.out
  have HB := Lib.hid hb
  clear hb
  have F := Lib.hid (show JoinPost s k w (.returned (.string (t ++ ⟨#[0, 1]⟩ ++ k))) w1 from ⟨_, rfl, by rw [app_list, app_list, HR.out, List.append_assoc]; rfl, HB.out⟩)
  clear HB HR HL
  go_wp2_with fail
  go_ret
  exact F.out

set_option maxHeartbeats 400000 in
theorem front_any (s : ByteArray) (m : Int) (w : World) (hm : w.cell? ⟨0, 0, none⟩ = some (.int .i64 m)) (hs : s.size ≤ 1000) :
    Calls Tryd.prog 12 #[.string s] w (JoinPost s ⟨#[]⟩ w) := by
  have C := Lib.hid (join_any s ⟨#[]⟩ m w hm hs (by decide))
  clear hm
  go_enter Tryd.func12, Tryd.ntmps12
  go_wp2_with fail
  refine C.out.mono ?_
  clear C
  rintro e w1 ⟨t, rfl, ht, hb⟩
  have F := Lib.hid (show JoinPost s ⟨#[]⟩ w (.returned (.string t)) w1 from ⟨t, rfl, ht, hb⟩)
  clear ht hb
  go_wp2_with fail
  go_ret
  exact F.out

theorem extract_list (s : ByteArray) (i j : Nat) : (s.extract i j).data.toList = (s.data.toList.drop i).take (j - i) := by
  rw [ByteArray.data_extract, Array.toList_extract]

theorem extract_one (s : ByteArray) (i : Nat) (h : i < s.size) : (s.extract i (i + 1)).data.toList = [s[i]] := by
  rw [extract_list, Nat.add_sub_cancel_left, List.take_one]
  have : (s.data.toList.drop i).head? = some s[i] := by
    rw [List.head?_drop, List.getElem?_eq_getElem (by rw [size_list]; exact h)]
    rfl
  rw [this]
  rfl
theorem take_snoc (s : ByteArray) (k : Nat) (h : k < s.size) : s.data.toList.take (k + 1) = s.data.toList.take k ++ [s[k]] := by
  rw [List.take_succ_eq_append_getElem (by rw [size_list]; exact h)]; rfl

theorem esc_snoc0 (l : List UInt8) {b : UInt8} (h : b.toNat = 0) : esc (l ++ [b]) = esc l ++ [b] ++ [255] := by
  have : b = 0 := UInt8.toNat_inj.1 h
  subst this
  rw [esc_append, esc_zero]
  simp [esc]
theorem esc_snoc1 (l : List UInt8) {b : UInt8} (h : ¬ b.toNat = 0) : esc (l ++ [b]) = esc l ++ [b] := by
  have : b ≠ 0 := fun e => h (by rw [e]; rfl)
  rw [esc_append, esc_other this]
  rfl

structure RJ (s t : ByteArray) (i : Nat) : Prop where
  list : t.data.toList = esc (s.data.toList.take i)
theorem RJ.size {s t : ByteArray} {i : Nat} (h : RJ s t i) (hi : i ≤ s.size) : t.size ≤ 2 * i := by
  have := esc_len (s.data.toList.take i)
  rw [← size_list, h.list]
  rw [List.length_take, size_list] at this
  omega

def RJPost (s k : ByteArray) (w : World) (e : Ending) (w' : World) : Prop :=
  ∃ t : ByteArray, e = .returned (.string t) ∧ t.data.toList = joinL s.data.toList k.data.toList ∧ w = w'

set_option maxHeartbeats 1000000 in
theorem rjoin_any (s k : ByteArray) (w : World) (hs : s.size ≤ 1000) (hk : k.size ≤ 1000) :
    Calls Tryd.prog 11 #[.string s, .string k] w (RJPost s k w) := by
  go_enter Tryd.func11, Tryd.ntmps11
  go_wp2_with fail
  go_loop [5, 6] (fun u v => ∃ (i : Nat) (t : ByteArray), u = .string t ∧ v = .int .i64 i ∧ i ≤ s.size ∧ RJ s t i) (fun _ v => s.size - (intOf v).toNat)
  case atStart => exact ⟨0, ⟨#[]⟩, rfl, rfl, Nat.zero_le _, ⟨rfl⟩⟩
  case round =>
    obtain ⟨i, t, rfl, rfl, hi, hr⟩ := hrel
    have HR := Lib.hid hr
    have hts := hr.size hi
    clear hr
    by_cases hlt : i < s.size
    · by_cases hz : s[i].toNat = 0
      · have hz' : ((s[i].toNat : Int) == 0) = true := by simp; omega
        have HN := Lib.hid (show RJ s (t ++ s.extract i (i + 1) ++ ⟨#[255]⟩) (i + 1) from ⟨by
          rw [app_list, app_list, extract_one s i hlt, take_snoc s i hlt, esc_snoc0 _ hz, HR.out.list]⟩)
        have hsz : (s.extract i (i + 1)).size = 1 := by rw [← size_list, extract_one s i hlt]; rfl
        clear HR hz
        go_wp2_with fail
        go_round
        case rel => exact ⟨i + 1, _, rfl, by go_num, by omega, HN.out⟩
        case measure => simp [intOf]; omega
      · have hz' : ((s[i].toNat : Int) == 0) = false := by simp; omega
        have HN := Lib.hid (show RJ s (t ++ s.extract i (i + 1)) (i + 1) from ⟨by
          rw [app_list, extract_one s i hlt, take_snoc s i hlt, esc_snoc1 _ hz, HR.out.list]⟩)
        have hsz : (s.extract i (i + 1)).size = 1 := by rw [← size_list, extract_one s i hlt]; rfl
        clear HR hz
        go_wp2_with fail
        go_round
        case rel => exact ⟨i + 1, _, rfl, by go_num, by omega, HN.out⟩
        case measure => simp [intOf]; omega
    · have F := Lib.hid (show RJPost s k w (.returned (.string (t ++ ⟨#[0, 1]⟩ ++ k))) w from ⟨_, rfl, by
        rw [app_list, app_list, HR.out.list, List.take_of_length_le (by rw [size_list]; omega), List.append_assoc]
        rfl, rfl⟩)
      clear HR
      go_wp2_with fail
      go_ret
      exact F.out
end Go.Proofs.YtbpllldmeeokgaaDoor

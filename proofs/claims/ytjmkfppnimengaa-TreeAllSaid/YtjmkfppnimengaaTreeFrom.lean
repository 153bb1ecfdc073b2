/- TreeFrom: the walk. Conditions: a row of bytes, a text, a number. -/
import Derived.Test.YtjmkfppnimengaaRef
import Derived.Test.YtjmkfppnimengaaRow
namespace Go.Proofs.Ytjmkfppnimengaa
open Go.RowKit Go.Wh

def TwoS (W : World) (w : World) (t r : Nat) (lt lr : Nd 0) : Prop := ∃ A, Two W A w t r lt lr

set_option maxHeartbeats 1000000 in
set_option maxRecDepth 100000 in
theorem from_walk (a0 : Option Addr) (m cap : Nat) (zs : List Int) (s : ByteArray) (most : Int) (W : World) (hr : IsRow .u8 W a0 m zs) (hb : m ≤ 60 ∧ s.size ≤ 5) :
    Calls Try.prog 4 #[.slice a0 m cap, .string s, .int .i64 most] W (BTrue W) := by
  have HR := Lib.hid hr
  have HM := Lib.hid hb.1
  have HBG := Lib.hid (begun_any W)
  have a0m : decide ((60 : Int) < (m : Int)) = false := by simp; omega
  have a0m' : decide (60 < m) = false := by simp; omega
  have a1m : decide ((5 : Int) < (s.size : Int)) = false := by simp; omega
  have a1m' : decide (5 < s.size) = false := by simp; omega
  clear hr hb
  go_enter Try.func4, Try.ntmps4
  go_wp2_with fail
  refine HBG.out.mono ?_
  rintro e w1 ⟨rfl, hs1⟩
  have HN := Lib.hid (own_new (w0 := W) (A := fun _ => False) hs1 (fun _ e => e.elim))
  have HS1 := Lib.hid hs1
  clear hs1 HBG
  go_wp2_with fail
  refine HN.out.mono ?_
  rintro e w2 ⟨t, rfl, ho2, hs2⟩
  have HO2 := Lib.hid (fun tt => show TwoS W (w2.alloc (.cells #[.slice none 0 0, .slice none 0 0] tt)) t w2.heap.size [] [] from ⟨_, Two.start (HS1.out.trans hs2) ho2 tt rfl⟩)
  clear ho2 hs2 HN HS1
  unfold ptr
  go_wp2_with fail
  have hO2 := HO2.out 30
  clear HO2
  generalize w2.alloc (.cells #[.slice none 0 0, .slice none 0 0] 30) = w3 at hO2 ⊢
  generalize w2.heap.size = r at hO2 ⊢
  have HO2 := Lib.hid hO2
  clear hO2
  go_loopw [9] (fun s wr => ∃ (i : Nat) (l : Nd 0), s = .int .i64 i ∧ i ≤ m ∧ TwoS W wr t r l l ∧ l.length ≤ i) (fun s _ => m - (intOf s).toNat)
  case atStart => exact ⟨0, [], rfl, Nat.zero_le _, HO2.out, Nat.le_refl _⟩
  case round =>
    clear HO2
    obtain ⟨i, l, rfl, hin, ht, hl⟩ := hrel
    have HL := Lib.hid (And.intro ht hl)
    clear ht hl
    by_cases hi : i < m
    · have b1 : decide ((i : Int) < (m : Int)) = true := by simp; omega
      have b2 : decide (i < m) = true := by simp; omega
      have b3 : (0 : Int) ≤ (i : Int) := by omega
      have b4 : (i : Int) < (m : Int) := by omega
      have u9 : IntKind.i64.wrap ((i : Int) + 1) = (i : Int) + 1 := IntWalk.i64_in _ (by have := HM.out; omega)
      obtain ⟨A, hA⟩ := HL.out.1
      obtain ⟨b, off, hab, hcW, hwf⟩ := isRow_later HR.out (Below.refl _ _) hi
      subst hab
      have hcell := Still.cell hA.still hcW
      have hwf' := byte_wf hwf
      obtain ⟨z, hz⟩ : ∃ z, zs.getD i 0 = z := ⟨_, rfl⟩
      rw [hz] at hcell hwf' hcW
      have hl80 : l.length ≤ 80000 := by have := HL.out.2; have := HM.out; omega
      have HKY := Lib.hid (fun w => key_any w z hwf'.1 hwf'.2)
      have HPUT := Lib.hid (fun w' (hs : Still wr w') => ((hA.later hs).tput hl80 (keyB z) ((i : Int), 0)).mono (fun e w'' (h : _ ∧ _ ∧ _) => show ∃ bo, e = .returned (.bool bo) ∧ Hid (Two W A w'' t r (insL l (keyB z) ((i : Int), 0)) l) ∧ w''.cell? ⟨b, off + i, none⟩ = some (.int .u8 z) from
        ⟨_, h.1, Lib.hid h.2.1, Still.cell h.2.1.still hcW⟩))
      unfold ptr ridV at HPUT
      dsimp only at HPUT
      have HCW := Lib.hid hcW
      have HL80 := Lib.hid hl80
      have HIL := Lib.hid (show (insL l (keyB z) ((i : Int), 0)).length ≤ i + 1 from Nat.le_trans (insL_length _ _ _).2.1 (by have := HL.out.2; omega))
      clear hcW hwf hwf' hz hA hl80
      go_wp2_with fail
      refine (HKY.out _).mono ?_
      rintro e w4 ⟨rfl, hs4⟩
      have HS4 := Lib.hid hs4
      clear hs4
      go_wp2_with fail
      refine (HPUT.out _ HS4.out).mono ?_
      rintro e w5 ⟨bo, rfl, HT5, hc5⟩
      have HRP := Lib.hid (fun w' (hs : Still w5 w') => ((HT5.out.later hs).rput HL80.out (keyB z) ((i : Int), 0)).mono (fun e w'' (h : _ ∧ _) => show ∃ bo, e = .returned (.bool bo) ∧ Hid (TwoS W w'' t r (insL l (keyB z) ((i : Int), 0)) (insL l (keyB z) ((i : Int), 0))) from by
        obtain ⟨h1, A', h2, -⟩ := h
        exact ⟨_, h1, Lib.hid ⟨A', h2⟩⟩))
      unfold ptr ridV at HRP
      dsimp only at HRP
      clear HPUT hcell
      go_wp2_with fail
      refine (HKY.out _).mono ?_
      rintro e w6 ⟨rfl, hs6⟩
      have HS6 := Lib.hid hs6
      clear hs6
      go_wp2_with fail
      refine (HRP.out _ HS6.out).mono ?_
      rintro e w7 ⟨bo2, rfl, HT7⟩
      go_wp2_with fail
      go_roundw
      case rel => exact ⟨i + 1, _, by go_num, by omega, HT7.out, HIL.out⟩
      case measure => simp [intOf]; omega
    · have hge : i = m := by omega
      subst hge
      have b1 : decide ((i : Int) < (i : Int)) = false := by simp
      obtain ⟨A, hA⟩ := HL.out.1
      have hl80 : l.length ≤ 80000 := by have := HL.out.2; have := HM.out; omega
      have HTF := Lib.hid (hA.tfrom hl80 s most)
      have HRF := Lib.hid (fun w' (hs : Still wr w') => (hA.later hs).rfrom hl80 s most)
      have HW := Lib.hid hA.still
      have hres : (fromL l s most).length ≤ 90000 := by
        rw [fromL_take, List.length_take, List.length_drop]
        omega
      have HRES := Lib.hid hres
      unfold ptr at HTF HRF
      clear hA hl80 hres
      go_wp2_with fail
      refine HTF.out.mono ?_
      rintro e w4 ⟨kv, vv, rfl, ht4⟩
      have HT4 := Lib.hid ht4
      clear ht4
      go_wp2_with fail
      refine (HRF.out _ HT4.out.still).mono ?_
      rintro e w5 ⟨kv2, vv2, rfl, ht5⟩
      have HAL := Lib.hid (alike_told HT4.out ht5 HRES.out)
      have HS5 := Lib.hid ((HW.out.trans HT4.out.still).trans ht5.still)
      clear ht5
      go_wp2_with fail
      refine HAL.out.mono ?_
      rintro e w6 ⟨rfl, hs6⟩
      have F := Lib.hid (show BTrue W (.returned (.bool true)) w6 from ⟨rfl, HS5.out.trans hs6⟩)
      clear hs6
      go_wp2_with fail
      go_ret
      exact F.out
end Go.Proofs.Ytjmkfppnimengaa

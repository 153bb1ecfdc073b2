/- The walk through GapHolds: it returns true. Conditions: two rows of bytes. -/
import Derived.Test.YtpehppbnlffikaaGapHoldP
namespace Go.Proofs.Ytpehppbnlffikaa
open Go.RowKit Go.Wh Go.Maps

def LawPost (W : World) (e : Ending) (w' : World) : Prop := e = .returned (.bool true) ∧ Below W.heap.size W w'

theorem quo4 (k : Nat) (hk : k < 16) : IntKind.i64.wrap ((k : Int) / 4) = (k : Int) / 4 := IntWalk.i64_in _ (by omega)
theorem rem4 (k : Nat) : ((k : Int)).tmod 4 = (k : Int) % 4 := Int.tmod_eq_emod_of_nonneg (by omega)

set_option maxRecDepth 100000 in
set_option maxHeartbeats 4000000 in
theorem gapHolds_walk (a0 : Option Addr) (len0 cap0 : Nat) (z0 : List Int) (a1 : Option Addr) (len1 cap1 : Nat) (z1 : List Int) (W : World) (h0 : IsRow .u8 W a0 len0 z0) (h1 : IsRow .u8 W a1 len1 z1) (hl0 : len0 ≤ 10) (hl1 : len1 ≤ 10) :
    Calls Try.prog 4 #[.slice a0 len0 cap0, .slice a1 len1 cap1] W (LawPost W) := by
  have H0 := Lib.hid h0
  have H1 := Lib.hid h1
  clear h0 h1
  go_enter Try.func4, Try.ntmps4
  go_wp2_with fail
  refine (begun_any _).mono ?_
  rintro e w1 ⟨rfl, hB1⟩
  go_wp2_with fail
  refine (new_any 4 _).mono ?_
  rintro e w2 ⟨hB2, mb, ub, hb, rfl, hm, hu, hh, g1⟩
  go_wp2_with fail
  have s0 : HState W mb ub hb w2.heap.size (fun _ => 0) (w2.alloc (Obj.cells #[Value.int IntKind.i64 0, Value.int IntKind.i64 0, Value.int IntKind.i64 0, Value.int IntKind.i64 0, Value.int IntKind.i64 0, Value.int IntKind.i64 0, Value.int IntKind.i64 0, Value.int IntKind.i64 0,
      Value.int IntKind.i64 0, Value.int IntKind.i64 0, Value.int IntKind.i64 0, Value.int IntKind.i64 0, Value.int IntKind.i64 0, Value.int IntKind.i64 0, Value.int IntKind.i64 0, Value.int IntKind.i64 0] 34)) := by
    have hlt := g1.lt
    have hs1 := hB1.size
    have hs2 := hB2.size
    exact ⟨by rw [Hof_start]; exact g1.alloc _, cellsAt_new w2 (ownCells fun _ => 0) _, (hB1.trans (hB2.mono hs1)).alloc (by omega) _, by omega, by omega, by omega, by omega, by omega, fun _ => .inl rfl⟩
  generalize w2.alloc (Obj.cells #[Value.int IntKind.i64 0, Value.int IntKind.i64 0, Value.int IntKind.i64 0, Value.int IntKind.i64 0, Value.int IntKind.i64 0, Value.int IntKind.i64 0, Value.int IntKind.i64 0, Value.int IntKind.i64 0,
      Value.int IntKind.i64 0, Value.int IntKind.i64 0, Value.int IntKind.i64 0, Value.int IntKind.i64 0, Value.int IntKind.i64 0, Value.int IntKind.i64 0, Value.int IntKind.i64 0, Value.int IntKind.i64 0] 34) = w3 at s0 ⊢
  generalize w2.heap.size = ob at s0 ⊢
  have S0 := Lib.hid s0
  clear s0 hB1 hB2 g1 hm hu hh
  clear w1
  go_loopw [7] (fun s wr => ∃ (i : Nat) (own : Nat → Int), s = .int .i64 i ∧ i ≤ len0 ∧ HState W mb ub hb ob own wr ∧ ∀ k, own k = 0 ∨ own k = 1) (fun s _ => len0 - (intOf s).toNat)
  case atStart => exact ⟨0, fun _ => 0, rfl, Nat.zero_le _, S0.out, fun _ => .inl rfl⟩
  case round =>
    clear S0
    obtain ⟨i, own, rfl, hi, hs, h01⟩ := hrel
    by_cases hlt : i < len0
    · obtain ⟨b, off, rfl, hc, hw⟩ := isRow_later H0.out hs.below hlt
      generalize z0.getD i 0 = z at hc hw
      obtain ⟨hz0, hz1⟩ := byte_wf hw
      clear hw
      have HS := Lib.hid hs
      have H01 := Lib.hid h01
      clear hs h01
      go_wp2_with fail
      generalize hkk : z % 16 = kk
      have hk0 : 0 ≤ kk := by omega
      have hk1 : kk < 16 := by omega
      clear hkk hc hz0 hz1
      obtain ⟨k, rfl⟩ := Int.eq_ofNat_of_zero_le hk0
      have hk16 : k < 16 := by omega
      have hne2 : ((own k) != 2) = true := by have := H01.out k; rw [bne_iff_ne]; omega
      have hm1 : own k = 0 ∨ own k = 1 := H01.out k
      have HM1 := Lib.hid hm1
      clear hm1
      have cown := HS.out.own k hk16
      have HQ := Lib.hid (quo4 k hk16)
      have HR := Lib.hid (rem4 k)
      go_region_held3 (fun w' => w'.cell? ⟨ob, k, none⟩ = some (.int .i64 (own k))) (first | go_keep | assumption)
        (first | (go_at_call 7; rw [HQ.out, HR.out]; refine (hold_yes (W := W) (ub := ub) (hb := hb) (ob := ob) (own := own) (by first | exact HS.out | exact HS.out.drew) k hk16 1 _ rfl HM1.out).mono ?_; rintro e w4 ⟨rfl, c4, f4, g4, hg4⟩))
      have P4 := Lib.hid (HS.out.drew.put g4 hg4 hk16 (.inl rfl))
      have D4 := Lib.hid (fun j => show upd own k 1 j = 0 ∨ upd own k 1 j = 1 from by
        by_cases hj : j = k
        · subst hj; rw [upd_same]; exact .inr rfl
        · rw [upd_other _ _ hj]; exact H01.out j)
      clear g4 hg4 HS cown
      go_wp2_with fail
      go_roundw
      case rel => exact ⟨i + 1, upd own k 1, by go_num, by omega, P4.out, D4.out⟩
      case measure => simp [intOf]; omega
    · have S1 := Lib.hid hs
      clear hs
      clear H0
      go_wp2_with fail
      obtain ⟨w5, rfl⟩ : ∃ w5 : World, w5 = wr := ⟨_, rfl⟩
      go_loopw [9] (fun s wr => ∃ (j : Nat) (own : Nat → Int), s = .int .i64 j ∧ j ≤ len1 ∧ HState W mb ub hb ob own wr) (fun s _ => len1 - (intOf s).toNat)
      case atStart => exact ⟨0, own, rfl, Nat.zero_le _, S1.out⟩
      case round =>
        clear S1 h01
        clear own
        obtain ⟨j, own, rfl, hj, hs⟩ := hrel
        by_cases hlt : j < len1
        · obtain ⟨b, off, rfl, hc, hw⟩ := isRow_later H1.out hs.below hlt
          generalize z1.getD j 0 = z at hc hw
          obtain ⟨hz0, hz1⟩ := byte_wf hw
          clear hw
          have HS := Lib.hid hs
          clear hs
          go_wp2_with fail
          generalize hkk : z % 16 = kk
          have hk0 : 0 ≤ kk := by omega
          have hk1 : kk < 16 := by omega
          clear hkk hc hz0 hz1
          obtain ⟨k, rfl⟩ := Int.eq_ofNat_of_zero_le hk0
          have hk16 : k < 16 := by omega
          have HQ := Lib.hid (quo4 k hk16)
          have HR := Lib.hid (rem4 k)
          rcases HS.out.three k with hv | hv | hv
          · have HV := Lib.hid hv
            have cown := HS.out.own k hk16
            rw [hv] at cown
            clear hv
            go_region_held3 (fun w' => w'.cell? ⟨ob, k, none⟩ = some (.int .i64 0)) (first | go_keep | assumption)
              (first | (go_at_call 7; rw [HQ.out, HR.out]; refine (hold_yes (W := W) (ub := ub) (hb := hb) (ob := ob) (own := own) (by first | exact HS.out | exact HS.out.drew) k hk16 2 0 HV.out (.inl rfl)).mono ?_; rintro e w4 ⟨rfl, c4, f4, g4, hg4⟩))
            have P4 := Lib.hid (HS.out.drew.put g4 hg4 hk16 (.inr rfl))
            clear g4 hg4 HS cown
            go_wp2_with fail
            go_roundw
            case rel => exact ⟨j + 1, upd own k 2, by go_num, by omega, P4.out⟩
            case measure => simp [intOf]; omega
          · have HV := Lib.hid hv
            have cown := HS.out.own k hk16
            rw [hv] at cown
            clear hv
            go_region_held3 (fun w' => w'.cell? ⟨ob, k, none⟩ = some (.int .i64 1)) (first | go_keep | assumption)
              (first | (go_at_call 7; rw [HQ.out, HR.out]; refine (hold_no (W := W) (ub := ub) (hb := hb) (ob := ob) (own := own) (by first | exact HS.out | exact HS.out.drew) k hk16 2 1 HV.out (by omega) (by omega)).mono ?_; rintro e w4 ⟨rfl, c4, f4, g4⟩))
            have P4 := Lib.hid g4
            clear g4 HS cown
            go_wp2_with fail
            go_roundw
            case rel => exact ⟨j + 1, own, by go_num, by omega, P4.out⟩
            case measure => simp [intOf]; omega
          · have HV := Lib.hid hv
            have cown := HS.out.own k hk16
            rw [hv] at cown
            clear hv
            go_region_held3 (fun w' => w'.cell? ⟨ob, k, none⟩ = some (.int .i64 2)) (first | go_keep | assumption)
              (first | (go_at_call 7; rw [HQ.out, HR.out]; refine (hold_yes (W := W) (ub := ub) (hb := hb) (ob := ob) (own := own) (by first | exact HS.out | exact HS.out.drew) k hk16 2 2 HV.out (.inr rfl)).mono ?_; rintro e w4 ⟨rfl, c4, f4, g4, hg4⟩))
            have P4 := Lib.hid (HS.out.drew.keep g4 hg4 hk16 HV.out (by omega))
            clear g4 hg4 HS cown
            go_wp2_with fail
            go_roundw
            case rel => exact ⟨j + 1, own, by go_num, by omega, P4.out⟩
            case measure => simp [intOf]; omega
        · have S2 := Lib.hid hs
          clear hs
          clear H1
          go_wp2_with fail
          obtain ⟨w6, rfl⟩ : ∃ w6 : World, w6 = wr := ⟨_, rfl⟩
          go_loopw [11] (fun s wr => ∃ who : Int, s = .int .i64 who ∧ 1 ≤ who ∧ who ≤ 4 ∧ HState W mb ub hb ob own wr) (fun s _ => (4 - intOf s).toNat)
          case atStart => exact ⟨1, rfl, by omega, by omega, S2.out⟩
          case round =>
            clear S2
            obtain ⟨who, rfl, hw1, hw4, hs⟩ := hrel
            have HS := Lib.hid hs
            clear hs
            by_cases hw3 : who ≤ 3
            · go_wp2_with fail
              obtain ⟨w7, rfl⟩ : ∃ w7 : World, w7 = wr := ⟨_, rfl⟩
              go_loopw [12, 13] (fun s12 s13 wr => ∃ k : Int, s13 = .int .i64 k ∧ -1 ≤ k ∧ k ≤ 15 ∧ s12 = .int .i64 (wantOf (mine own who) (15 - k).toNat) ∧ HState W mb ub hb ob own wr) (fun _ s13 _ => (intOf s13 + 1).toNat)
              case atStart => exact ⟨15, rfl, by omega, by omega, rfl, HS.out⟩
              case round =>
                clear HS
                obtain ⟨k, rfl, hk0, hk1, rfl, hs⟩ := hrel
                have HS := Lib.hid hs
                clear hs
                by_cases hkn : 0 ≤ k
                · obtain ⟨k, rfl⟩ := Int.eq_ofNat_of_zero_le hkn
                  have hk16 : k < 16 := by omega
                  have HW := Lib.hid (wantOf_step (mine own who) k hk16)
                  have cown := HS.out.own k hk16
                  by_cases h0 : own k = 0
                  · have HW2 := Lib.hid (show wantOf (mine own who) (15 - ((k : Int) - 1)).toNat = (k : Int) from by rw [HW.out]; simp [mine, h0])
                    rw [h0] at cown
                    clear h0 HW
                    go_wp2_with fail
                    go_roundw
                    case rel => exact ⟨(k : Int) - 1, by go_num, by omega, by omega, by rw [HW2.out], HS.out⟩
                    case measure => simp [intOf]
                  · by_cases hwho : own k = who
                    · have HW2 := Lib.hid (show wantOf (mine own who) (15 - ((k : Int) - 1)).toNat = (k : Int) from by rw [HW.out]; simp [mine, hwho])
                      rw [hwho] at cown
                      have hb0 : (who == 0) = false := by rw [beq_eq_false_iff_ne]; omega
                      clear h0 hwho HW
                      go_wp2_with fail
                      go_roundw
                      case rel => exact ⟨(k : Int) - 1, by go_num, by omega, by omega, by rw [HW2.out], HS.out⟩
                      case measure => simp [intOf]
                    · have HW2 := Lib.hid (show wantOf (mine own who) (15 - ((k : Int) - 1)).toNat = wantOf (mine own who) (15 - (k : Int)).toNat from by rw [HW.out]; simp [mine, h0, hwho])
                      generalize own k = v at cown h0 hwho
                      have hb0 : (v == 0) = false := by rw [beq_eq_false_iff_ne]; exact h0
                      have hb1 : (v == who) = false := by rw [beq_eq_false_iff_ne]; exact hwho
                      clear h0 hwho HW
                      go_wp2_with fail
                      go_roundw
                      case rel => exact ⟨(k : Int) - 1, by go_num, by omega, by omega, by rw [HW2.out], HS.out⟩
                      case measure => simp [intOf]
                · obtain rfl : k = -1 := by omega
                  have hfw := first_want own who
                  rw [show (15 - (-1 : Int)).toNat = 16 from rfl]
                  generalize wantOf (mine own who) 16 = want at hfw ⊢
                  have HF := Lib.hid hfw
                  clear hfw
                  go_wp2_with fail
                  refine (next_any mb ub hb 4 0 4 4 who _ _ _ HS.out.gap (by decide) (by decide) (by decide) (by decide) (by decide)).mono ?_
                  rintro e w8 ⟨rfl, hb8⟩
                  have S8 := Lib.hid (HS.out.same hb8)
                  clear HS hb8
                  rcases HF.out with ⟨hwn, hfn⟩ | ⟨p, c, hp0, hp1, hc0, hc1, hwn, hfn⟩
                  · rw [hfn, hwn]
                    unfold nextVal
                    clear hfn hwn HF
                    have S9 := Lib.hid (S8.out.same ((Below.refl _ _).alloc (Nat.le_refl _) (Obj.cells #[Value.int IntKind.i64 0, Value.int IntKind.i64 0] 28)))
                    clear S8
                    go_wp2_with fail
                    go_roundw
                    case rel => exact ⟨who + 1, by go_num, by omega, by omega, S9.out⟩
                    case measure => simp [intOf]; omega
                  · rw [hfn, hwn]
                    unfold nextVal
                    clear hfn hwn HF
                    have S9 := Lib.hid (S8.out.same ((Below.refl _ _).alloc (Nat.le_refl _) (Obj.cells #[Value.int IntKind.i64 p, Value.int IntKind.i64 c] 28)))
                    clear S8
                    go_wp2_with fail
                    go_roundw
                    case rel => exact ⟨who + 1, by go_num, by omega, by omega, S9.out⟩
                    case measure => simp [intOf]; omega
            · go_wp2_with fail
              obtain ⟨w7, rfl⟩ : ∃ w7 : World, w7 = wr := ⟨_, rfl⟩
              go_loopw [16, 17] (fun s16 s17 wr => ∃ k : Nat, s17 = .int .i64 k ∧ k ≤ 16 ∧ s16 = .int .i64 (heldTo own k) ∧ HState W mb ub hb ob own wr) (fun _ s17 _ => 16 - (intOf s17).toNat)
              case atStart => exact ⟨0, rfl, by omega, rfl, HS.out⟩
              case round =>
                clear HS
                obtain ⟨k, rfl, hk, rfl, hs⟩ := hrel
                have HS := Lib.hid hs
                clear hs
                have hle := heldTo_le own k
                by_cases hk16 : k < 16
                · have cown := HS.out.own k hk16
                  by_cases h0 : own k = 0
                  · have HW2 := Lib.hid (show heldTo own (k + 1) = heldTo own k from by simp [heldTo, b2i, h0])
                    rw [h0] at cown
                    clear h0
                    generalize heldTo own k = hc at hle HW2 ⊢
                    go_wp2_with fail
                    go_roundw
                    case rel => exact ⟨k + 1, by go_num, by omega, by rw [HW2.out], HS.out⟩
                    case measure => simp [intOf]; omega
                  · have HW2 := Lib.hid (show heldTo own (k + 1) = heldTo own k + 1 from by simp [heldTo, b2i, h0])
                    generalize own k = v at cown h0
                    have hb0 : (v != 0) = true := by rw [bne_iff_ne]; exact h0
                    clear h0
                    generalize heldTo own k = hc at hle HW2 ⊢
                    go_wp2_with fail
                    go_roundw
                    case rel => exact ⟨k + 1, by go_num, by omega, by rw [HW2.out], HS.out⟩
                    case measure => simp [intOf]; omega
                · obtain rfl : k = 16 := by omega
                  have HE := Lib.hid (all_held own)
                  have HT := Lib.hid HS.out.three
                  generalize heldTo own 16 = hc at hle HE ⊢
                  go_wp2_with fail
                  refine (held_any mb ub hb 4 0 4 _ _ _ HS.out.gap (by decide) (by decide) (by decide)).mono ?_
                  rintro e w8 ⟨rfl, hb8⟩
                  have S8 := Lib.hid (HS.out.same hb8)
                  clear HS hb8
                  rw [HE.out]
                  go_wp2_with fail
                  refine (used_any mb ub hb 4 0 4 _ _ _ S8.out.gap (by decide) (by decide) (by decide)).mono ?_
                  rintro e w9 ⟨rfl, hb9⟩
                  have S9 := Lib.hid (S8.out.same hb9)
                  clear S8 hb9
                  rw [none_used]
                  go_wp2_with fail
                  refine (free_any mb ub hb 4 1 _ _ _ S9.out.gap).mono ?_
                  rintro e wA ⟨rfl, gA, hgA⟩
                  have BA := Lib.hid (S9.out.below.trans (grown_below hgA S9.out.lh S9.out.below.size))
                  have GA := Lib.hid gA
                  have LH := Lib.hid S9.out.lh
                  clear S9 hgA gA
                  go_wp2_with fail
                  refine (free_any mb ub hb 4 2 _ _ _ GA.out).mono ?_
                  rintro e wB ⟨rfl, gB, hgB⟩
                  have BB := Lib.hid (BA.out.trans (grown_below hgB LH.out BA.out.size))
                  rw [all_freed own HT.out] at gB
                  have GB := Lib.hid gB
                  clear gB hgB GA BA LH HT
                  go_wp2_with fail
                  refine (next_any mb ub hb 4 0 4 4 3 _ _ _ GB.out (by decide) (by decide) (by decide) (by decide) (by decide)).mono ?_
                  rintro e wC ⟨rfl, hbC⟩
                  have GC := Lib.hid (GB.out.below hbC)
                  have BC := Lib.hid (BB.out.trans (hbC.mono BB.out.size))
                  clear hbC GB BB
                  rw [end_first]
                  unfold nextVal
                  go_wp2_with fail
                  refine (held_any mb ub hb 4 0 4 _ _ _ (GC.out.alloc _) (by decide) (by decide) (by decide)).mono ?_
                  rintro e wD ⟨rfl, hbD⟩
                  have BD := Lib.hid ((BC.out.alloc BC.out.size (Obj.cells #[Value.int IntKind.i64 0, Value.int IntKind.i64 0] 28)).trans (hbD.mono (by have := BC.out.size; simp; omega)))
                  clear hbD GC BC
                  rw [end_held]
                  go_wp2_with fail
                  go_ret
                  exact ⟨rfl, BD.out⟩

end Go.Proofs.Ytpehppbnlffikaa

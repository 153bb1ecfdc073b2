/- TrailFull answers true. Conditions: a byte. -/
import Derived.Test.YtnoepnnfnfaglaaGreatTrBg
namespace Go.Proofs.YtnoepnnfnfaglaaGreat
open Go.RowKit Go.Wh Go.Maps

/-- What stands at the head of a round. -/
structure FuRel (W : World) (A : Nat → Prop) (d t k r i : Nat) (wr : World) : Prop where
  ex : ∃ (B : Nat → Prop) (es : List PE), TlX B t d 0 k es 0 wr ∧ es.length = min i r ∧ (streamB es).length = 25 * es.length ∧ (∀ g, B g → W.heap.size ≤ g) ∧ ∀ g, A g → ¬ B g
  dk : DkX A d (zeroT k) wr
  st : Still W wr
theorem FuRel.next {W w w' : World} {A B : Nat → Prop} {d t k r j : Nat} {es' : List PE} (hd : DkX A d (zeroT k) w) (hs : Still W w) (hA : ∀ g, A g → ¬ B g) (hB : ∀ g, B g → W.heap.size ≤ g) (ht : TlX (Newer B w w') t d 0 k es' 0 w') (ho : Only B w w') (he : es'.length = min j r) (hl : (streamB es').length = 25 * es'.length) : FuRel W A d t k r j w' := by
  have hz := hs.size
  refine ⟨⟨_, es', ht, he, hl, fun g hg => hg.elim (hB g) fun e => by omega, fun g hg e => e.elim (hA g hg) fun e => by have := hd.lt g hg; omega⟩, hd.only ho fun g hg e => hA g hg e, still_of hs ho hB⟩

set_option maxHeartbeats 8000000 in
set_option maxRecDepth 100000 in
theorem full_walk (W : World) (n : Int) (h0 : 0 ≤ n) (h1 : n ≤ 255) : Calls Tryz.prog 4 #[.int .u8 n] W (BTrue W) := by
  obtain ⟨k, hk⟩ : ∃ k : Nat, n % 12 = (k : Int) := ⟨(n % 12).toNat, by omega⟩
  have hk11 : k ≤ 11 := by omega
  obtain ⟨r, hr⟩ : ∃ r : Nat, (k : Int) * 63 / 25 = (r : Int) := ⟨((k : Int) * 63 / 25).toNat, by omega⟩
  have hr1 : 25 * r ≤ 63 * k ∧ 63 * k < 25 * r + 25 := by omega
  have hr30 : r ≤ 30 := by omega
  have HBG := Lib.hid (begun_any W)
  have HK := Lib.hid (And.intro hk11 hr1)
  clear hr1
  go_enter Tryz.func4, Tryz.ntmps4
  go_wp2_with fail
  refine HBG.out.mono ?_
  rintro en w1 ⟨rfl, hs1⟩
  have HN := Lib.hid (newx_any w1 k (by omega) rfl)
  have H1 := Lib.hid hs1
  clear hs1 HBG
  go_wp2_with fail
  refine HN.out.mono ?_
  rintro en w2 ⟨d, rfl, hd2, hs2⟩
  have HO := Lib.hid (open_zero (at_ := 0) (n := k) hd2 (by omega) (by omega) rfl rfl)
  have H2 := Lib.hid (H1.out.trans hs2)
  clear hd2 hs2 HN
  go_wp2_with fail
  refine HO.out.mono ?_
  rintro en w3 ⟨t, la, lc, A3, B3, C3, rfl, hd3, ht3, -, ho3, ha3, hb3, -, hab3, -, -⟩
  have HREL := Lib.hid (show FuRel W A3 d t k r 0 w3 from ⟨⟨B3, [], ht3, by simp, rfl, fun g hg => by have := hb3 g hg; have := H2.out.size; omega, hab3⟩, hd3, still_of H2.out ho3 fun g hg => by have := hg.1; have := H1.out.size; omega⟩)
  have HA3 := Lib.hid (show ∀ g, A3 g → W.heap.size ≤ g from fun g hg => (ha3 g hg).elim (fun e => by have := e.1; have := H1.out.size; omega) fun e => by have := H2.out.size; omega)
  clear hd3 ht3 ho3 ha3 hb3 hab3 HO
  go_wp2_with fail
  rw [hr]
  clear hk hr
  go_loopw [9] (fun s wr => ∃ i : Nat, s = .int .i64 i ∧ i ≤ r + 3 ∧ FuRel W A3 d t k r i wr) (fun s _ => r + 3 - (intOf s).toNat)
  case atStart => exact ⟨0, rfl, Nat.zero_le _, HREL.out⟩
  case round =>
    clear HREL
    obtain ⟨i, rfl, hi3, ⟨⟨B, es, ht, hel, hsl, hB, hab⟩, hd, hst⟩⟩ := hrel
    have u3 : IntKind.i64.wrap ((r : Int) + 3) = (r : Int) + 3 := IntWalk.i64_in _ (by omega)
    have u1 : IntKind.i64.wrap ((i : Int) + 1) = (i : Int) + 1 := IntWalk.i64_in _ (by omega)
    have i0 : (0 : Int) ≤ (i : Int) := by omega
    have HH := Lib.hid (And.intro ht (And.intro hel (And.intro hsl (And.intro hB (And.intro hab (And.intro hd hst))))))
    by_cases hi : i < r + 3
    · have b1 : decide ((i : Int) < (r : Int) + 3) = true := decide_eq_true (by omega)
      by_cases hir : i < r
      · have b2 : decide ((i : Int) < (r : Int)) = true := decide_eq_true (by omega)
        have b3 : decide ((r : Int) ≤ (i : Int)) = false := decide_eq_false (by omega)
        have hm : (nE 5 ((i : Int) % 7)).may = true := nE_may (by omega) (by omega)
        have HAP := Lib.hid (ap_n (k := 5) (x := (i : Int) % 7) ht hm (by rw [hsl, hel]; have := HK.out.2; omega) (N := (i : Int) + 1) (by rw [hel]; omega))
        have HLN := Lib.hid (show (streamB (es ++ [nE 5 ((i : Int) % 7)])).length = 25 * (es ++ [nE 5 ((i : Int) % 7)]).length from by rw [streamB_append, streamB_one, List.length_append, nE_len, hsl, List.length_append, List.length_singleton]; omega)
        have HIR := Lib.hid hir
        clear ht hel hsl hB hab hd hst hir hm
        go_wp2_with fail
        refine HAP.out.mono ?_
        rintro en w4 ⟨rfl, ht4, ho4⟩
        have HNX := Lib.hid (show FuRel W A3 d t k r (i + 1) w4 from FuRel.next HH.out.2.2.2.2.2.1 HH.out.2.2.2.2.2.2 HH.out.2.2.2.2.1 HH.out.2.2.2.1 ht4 ho4 (by rw [List.length_append, List.length_singleton, HH.out.2.1]; have := HIR.out; omega) HLN.out)
        clear ht4 ho4 HAP
        go_wp2_with fail
        go_roundw
        case rel => exact ⟨i + 1, by go_num, by omega, HNX.out⟩
        case measure => simp [intOf]; omega
      · have b2 : decide ((i : Int) < (r : Int)) = false := decide_eq_false (by omega)
        have b3 : decide ((r : Int) ≤ (i : Int)) = true := decide_eq_true (by omega)
        have hm : (nE 5 ((i : Int) % 7)).may = true := nE_may (by omega) (by omega)
        have HAP := Lib.hid (ap_nfull (k := 5) (x := (i : Int) % 7) ht hm (by rw [hsl, hel]; have := HK.out.2; omega))
        have HIR := Lib.hid hir
        clear ht hel hsl hB hab hd hst hir hm
        go_wp2_with fail
        refine HAP.out.mono ?_
        rintro en w4 ⟨rfl, ht4, ho4⟩
        have HNX := Lib.hid (show FuRel W A3 d t k r (i + 1) w4 from FuRel.next HH.out.2.2.2.2.2.1 HH.out.2.2.2.2.2.2 HH.out.2.2.2.2.1 HH.out.2.2.2.1 ht4 ho4 (by rw [HH.out.2.1]; have := HIR.out; omega) HH.out.2.2.1)
        clear ht4 ho4 HAP
        go_wp2_with fail
        go_roundw
        case rel => exact ⟨i + 1, by go_num, by omega, HNX.out⟩
        case measure => simp [intOf]; omega
    · have b1 : decide ((i : Int) < (r : Int) + 3) = false := decide_eq_false (by omega)
      have her : es.length = r := by omega
      have HFO := Lib.hid (force_any ht hd hab (by unfold zeroT; rw [List.length_replicate]; omega))
      have HER := Lib.hid her
      clear ht hel hsl hB hab hd hst her hi
      go_wp2_with fail
      refine HFO.out.mono ?_
      rintro en w4 ⟨rfl, ht4, hd4, ho4⟩
      have hif : (if 0 = es.length then zeroT k else layB (zeroT k) 0 (streamB es) k) = layB (zeroT k) 0 (streamB es) k := by
        split
        · rename_i h
          have : es = [] := List.length_eq_zero_iff.1 h.symm
          rw [this]
          exact (layB_zero k (by omega)).symm
        · rfl
      rw [hif] at hd4
      have hs4 : Still W w4 := HH.out.2.2.2.2.2.2.andThen ho4 fun j hj e => e.elim (fun e => by have := HA3.out j e; omega) fun e => by have := HH.out.2.2.2.1 j e; omega
      have hA4 : ∀ g, Newer A3 wr w4 g → W.heap.size ≤ g := fun g hg => hg.elim (HA3.out g) fun e => by have := HH.out.2.2.2.2.2.2.size; omega
      have hab4 : ∀ g, Newer A3 wr w4 g → ¬ B g := fun g hg e => hg.elim (fun h => HH.out.2.2.2.2.1 g h e) fun h => by have := HH.out.1.lt g e; omega
      have HO2 := Lib.hid (open_laid (es := es) hd4 (by unfold zeroT; rw [List.length_replicate]; omega) (by omega) ht4.may ht4.len rfl rfl)
      have H4 := Lib.hid (And.intro ht4 (And.intro hs4 (And.intro hA4 hab4)))
      have hq : ((es.length : Int) == (r : Int)) = true := by rw [HER.out]; simp
      clear ht4 hd4 ho4 hif hs4 hA4 hab4 HFO
      go_wp2_with fail
      refine HO2.out.mono ?_
      rintro en w5 ⟨u, ua, uc, A5, B5, C5, rfl, -, -, -, ho5, -, -, -, -, -, -⟩
      have ht5 := H4.out.1.only ho5 fun g hg e => H4.out.2.2.2 g e hg
      have hs5 := still_of H4.out.2.1 ho5 H4.out.2.2.1
      have HAP := Lib.hid (ap_nbad (x := 0) ht5)
      have H5 := Lib.hid hs5
      clear ho5 ht5 hs5 HO2
      go_wp2_with fail
      refine HAP.out.mono ?_
      rintro en w6 ⟨rfl, ht6, ho6⟩
      have HLF := Lib.hid (left_x ht6 (N := (k : Int) * 63 - 25 * (r : Int)) (by rw [HH.out.2.2.1, HER.out]; omega))
      have H6 := Lib.hid (still_of H5.out ho6 HH.out.2.2.2.1)
      clear ht6 ho6 HAP
      go_wp2_with fail
      refine HLF.out.mono ?_
      rintro en w7 ⟨rfl, hs7⟩
      have F := Lib.hid (show BTrue W (.returned (.bool true)) w7 from ⟨rfl, H6.out.trans hs7⟩)
      clear hs7 HLF
      go_wp2_with fail
      go_ret
      exact F.out
end Go.Proofs.YtnoepnnfnfaglaaGreat

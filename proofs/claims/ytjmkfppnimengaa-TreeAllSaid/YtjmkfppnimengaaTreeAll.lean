/- TreeAll: the walk. Conditions: a row of numbers. -/
import Derived.Test.YtjmkfppnimengaaTreeFrom
namespace Go.Proofs.Ytjmkfppnimengaa
open Go.RowKit Go.Wh

def AllC (W : World) (t r i : Nat) (w : World) : Prop := ∃ l : Nd 0, TwoS W w t r l l ∧ l.length ≤ i + 1

set_option maxHeartbeats 1000000 in
set_option maxRecDepth 100000 in
theorem all_walk (a0 : Option Addr) (m cap : Nat) (zs : List Int) (W : World) (hr : IsRow .u16 W a0 m zs) (hm : m ≤ 200) :
    Calls Try.prog 3 #[.slice a0 m cap] W (BTrue W) := by
  have HR := Lib.hid hr
  have HM := Lib.hid hm
  have HBG := Lib.hid (begun_any W)
  have a0m : decide ((200 : Int) < (m : Int)) = false := by simp; omega
  have a0m' : decide (200 < m) = false := by simp; omega
  clear hr hm
  go_enter Try.func3, Try.ntmps3
  go_wp2_with fail
  refine HBG.out.mono ?_
  rintro e w1 ⟨rfl, hs1⟩
  have HN := Lib.hid (own_new (w0 := W) (A := fun _ => False) hs1 (fun _ e => e.elim))
  have HS1 := Lib.hid hs1
  clear hs1 HBG
  go_wp2_with fail
  refine HN.out.mono ?_
  rintro e w2 ⟨t, rfl, ho2, hs2⟩
  have HO2 := Lib.hid (fun tt => show TwoS W (w2.alloc (.cells #[.slice none 0 0, .slice none 0 0] tt)) t w2.heap.size [] [] from ⟨_, Two.start (HS1.out.trans hs2) ho2 tt rfl⟩)
  clear ho2 hs2 HN HS1
  unfold ptr
  go_wp2_with fail
  have hO2 := HO2.out 30
  clear HO2
  generalize w2.alloc (.cells #[.slice none 0 0, .slice none 0 0] 30) = w3 at hO2 ⊢
  generalize w2.heap.size = r at hO2 ⊢
  have HO2 := Lib.hid hO2
  clear hO2
  go_loopw [5] (fun s wr => ∃ (i : Nat) (l : Nd 0), s = .int .i64 i ∧ i ≤ m ∧ TwoS W wr t r l l ∧ l.length ≤ i) (fun s _ => m - (intOf s).toNat)
  case atStart => exact ⟨0, [], rfl, Nat.zero_le _, HO2.out, Nat.le_refl _⟩
  case round =>
    clear HO2
    obtain ⟨i, l, rfl, hin, ht, hl⟩ := hrel
    have HL := Lib.hid (And.intro ht hl)
    clear ht hl
    by_cases hi : i < m
    · have b1 : decide ((i : Int) < (m : Int)) = true := by simp; omega
      have b2 : decide (i < m) = true := by simp; omega
      have b3 : (0 : Int) ≤ (i : Int) := by omega
      have b4 : (i : Int) < (m : Int) := by omega
      have u9 : IntKind.i64.wrap ((i : Int) + 1) = (i : Int) + 1 := IntWalk.i64_in _ (by have := HM.out; omega)
      obtain ⟨A, hA⟩ := HL.out.1
      obtain ⟨b, off, hab, hcW, hwf⟩ := isRow_later HR.out (Below.refl _ _) hi
      subst hab
      have hcell := Still.cell hA.still hcW
      obtain ⟨z, hz⟩ : ∃ z, zs.getD i 0 = z := ⟨_, rfl⟩
      rw [hz] at hcell hcW hwf
      have hw8 : 0 ≤ IntKind.u8.wrap z ∧ IntKind.u8.wrap z < 256 := by
        rw [IntKind.wrap_u8]
        omega
      have HKY := Lib.hid (fun w => key_any w (IntKind.u8.wrap z) hw8.1 hw8.2)
      have HCW := Lib.hid hcW
      have HA := Lib.hid hA
      clear hcW hz hA hw8
      go_wp2_with fail
      refine (HKY.out _).mono ?_
      rintro e w4 ⟨rfl, hs4⟩
      have HS4 := Lib.hid hs4
      have hc4 := Still.cell hs4 hcell
      clear hs4 hcell
      obtain ⟨k, hk⟩ : ∃ k, keyB (IntKind.u8.wrap z) = k := ⟨_, rfl⟩
      rw [hk]
      clear hk
      go_upto_if 42 with fail
      obtain ⟨q, hq⟩ : ∃ q, ((IntKind.u16.wrap (z.tdiv 256)).tmod 3 == 0) = q := ⟨_, rfl⟩
      rw [hq]
      clear hq hc4
      have hl80 : l.length ≤ 80000 := by have := HL.out.2; have := HM.out; omega
      have HL80 := Lib.hid hl80
      have HA4 := Lib.hid (HA.out.later HS4.out)
      have hln := HL.out.2
      clear HL HA HS4 HCW hl80 hwf
      go_cut [] (fun wc => AllC W t r i wc)
      case first =>
        obtain ⟨hb, hh⟩ : ∃ hb, hasK (keys l) k = hb := ⟨_, rfl⟩
        cases q with
        | true =>
          have HTC := Lib.hid (HA4.out.tcut HL80.out k)
          have HRC := Lib.hid (fun w' (h : Two W A w' t r (delL l k) l) => (h.rcut HL80.out k).mono (fun e w'' (h : _ ∧ _) => show e = .returned (.bool hb) ∧ Hid (AllC W t r i w'') from by
            obtain ⟨h1, A', h2, -⟩ := h
            exact ⟨by rw [← hh]; exact h1, Lib.hid ⟨_, ⟨A', h2⟩, by have := (delL_length l k).2; omega⟩⟩))
          rw [hh] at HTC
          unfold ptr at HTC HRC
          clear hh
          go_wp2_with fail
          refine HTC.out.mono ?_
          rintro e w5 ⟨rfl, ht5, -⟩
          have HR5 := Lib.hid (HRC.out _ ht5)
          clear ht5 HTC HRC
          go_wp2_with fail
          refine HR5.out.mono ?_
          rintro e w6 ⟨rfl, HF⟩
          clear HR5
          cases hb <;>
            (go_wp2_with fail
             go_meet
             case rel => exact HF)
        | false =>
          have HT5 := Lib.hid (HA4.out.avoid (B := fun b => b = w4.heap.size) ((Still.refl w4).alloc (.cells #[.int .i64 i, .int .i64 0] 35)) fun b e => by subst e; simp)
          have g0 := (cellsAt_new w4 [.int .i64 i, .int .i64 0] 35).cell 0
          have g1 := (cellsAt_new w4 [.int .i64 i, .int .i64 0] 35).cell 1
          have hrb : r < w4.heap.size := by
            obtain ⟨kv, vv, h1, -⟩ := HA4.out.ref
            exact h1.cells.lt
          have hbr : w4.heap.size ≠ r := by omega
          have HTP := Lib.hid (fun w' (h : Two W (fun b => A b ∨ b = w4.heap.size) w' t r l l) (c0 : w'.cell? ⟨w4.heap.size, 0, none⟩ = some (.int .i64 i)) (c1 : w'.cell? ⟨w4.heap.size, 1, none⟩ = some (.int .i64 0)) => (h.tput HL80.out k ((i : Int), 0)).mono (fun e w'' (h : _ ∧ _ ∧ _) => show e = .returned (.bool !hb) ∧ Two W (fun b => A b ∨ b = w4.heap.size) w'' t r (insL l k ((i : Int), 0)) l ∧ w''.cell? ⟨w4.heap.size, 0, none⟩ = some (.int .i64 i) ∧ w''.cell? ⟨w4.heap.size, 1, none⟩ = some (.int .i64 0) from
            ⟨by rw [← hh]; exact h.1, h.2.1, h.2.2 _ _ (.inr rfl) hbr c0, h.2.2 _ _ (.inr rfl) hbr c1⟩))
          have HRP := Lib.hid (fun w' (h : Two W (fun b => A b ∨ b = w4.heap.size) w' t r (insL l k ((i : Int), 0)) l) (c0 : w'.cell? ⟨w4.heap.size, 0, none⟩ = some (.int .i64 i)) (c1 : w'.cell? ⟨w4.heap.size, 1, none⟩ = some (.int .i64 0)) => (h.rput HL80.out k ((i : Int), 0)).mono (fun e w'' (h : _ ∧ _) => show e = .returned (.bool !hb) ∧ Hid (AllC W t r i w'') ∧ w''.cell? ⟨w4.heap.size, 0, none⟩ = some (.int .i64 i) ∧ w''.cell? ⟨w4.heap.size, 1, none⟩ = some (.int .i64 0) from by
            obtain ⟨h1, A', h2, h3⟩ := h
            exact ⟨by rw [← hh]; exact h1, Lib.hid ⟨_, ⟨A', h2⟩, by have := (insL_length l k ((i : Int), 0)).2.1; omega⟩, h3 _ _ (.inr rfl) hbr c0, h3 _ _ (.inr rfl) hbr c1⟩))
          unfold ptr ridV at HTP HRP
          dsimp only at HTP HRP
          clear hh hrb hbr
          go_wp2_with fail
          have hg : (w4.alloc (.cells #[.int .i64 i, .int .i64 0] 35)).cell? ⟨w4.heap.size, 0, none⟩ = some (.int .i64 i) ∧ (w4.alloc (.cells #[.int .i64 i, .int .i64 0] 35)).cell? ⟨w4.heap.size, 1, none⟩ = some (.int .i64 0) := ⟨g0, g1⟩
          clear g0 g1
          generalize w4.alloc (.cells #[.int .i64 i, .int .i64 0] 35) = w5 at *
          generalize w4.heap.size = bx at *
          obtain ⟨g0, g1⟩ := hg
          have HG := Lib.hid (HTP.out w5.drew (HT5.out.later (Still.refl _).drew) g0 g1)
          go_region_held3 (fun w' => w'.cell? ⟨bx, 0, none⟩ = some (.int .i64 i) ∧ w'.cell? ⟨bx, 1, none⟩ = some (.int .i64 0)) (first | exact ⟨g0, g1⟩ | (exact And.intro (by assumption) (by assumption)))
            (first
              | (go_at_call 14; (with_reducible refine HG.out.mono ?_); rintro e w6 ⟨rfl, ht6, k0, k1⟩)
              | (go_at_call 15; (with_reducible refine (HRP.out _ (by assumption) (by assumption) (by assumption)).mono ?_); rintro e w7 ⟨rfl, HF, k2, k3⟩))
          clear HG HTP HRP
          cases hb <;>
            (go_wp2_with fail
             go_meet
             case rel => exact HF)
      case rest =>
        clear HA4
        obtain ⟨l, ⟨A, hA⟩, hl⟩ := hcut
        have HA := Lib.hid hA
        have HLL := Lib.hid hl
        have hl80 : l.length ≤ 80000 := by have := HM.out; omega
        have HL80 := Lib.hid hl80
        have HTG := Lib.hid (hA.tget k)
        have HRG := Lib.hid (fun w' (hs : Still wc w') => (hA.later hs).rget hl80 k)
        obtain ⟨gv, hgv⟩ : ∃ gv, (getL l k).getD (0, 0) = gv := ⟨_, rfl⟩
        obtain ⟨gb, hgb⟩ : ∃ gb, (getL l k).isSome = gb := ⟨_, rfl⟩
        unfold TGet at HTG HRG
        rw [hgv, hgb] at HTG HRG
        obtain ⟨vp, vq⟩ := gv
        unfold ptr ridV at HTG HRG
        dsimp only at HTG HRG
        clear hA hl hl80 hgv hgb hln
        go_wp2_with fail
        refine HTG.out.mono ?_
        rintro e w5 ⟨rfl, hs5⟩
        have HG5 := Lib.hid (fun tt => And.intro (hs5.alloc (.cells #[.int .i64 vp, .int .i64 vq] tt)) (cellsAt_new w5 [.int .i64 vp, .int .i64 vq] tt))
        clear hs5 HTG
        go_wp2_with fail
        have hg5 := HG5.out 35
        clear HG5
        generalize (w5.alloc (.cells #[.int .i64 vp, .int .i64 vq] 35)) = w6 at hg5 ⊢
        generalize w5.heap.size = b1 at hg5 ⊢
        have HG6 := Lib.hid hg5
        clear hg5
        refine (HRG.out _ HG6.out.1).mono ?_
        rintro e w7 ⟨rfl, hs7⟩
        have HG7 := Lib.hid (fun tt => And.intro (HG6.out.1.trans (hs7.alloc (.cells #[.int .i64 vp, .int .i64 vq] tt))) (And.intro (HG6.out.2.only (hs7.alloc (.cells #[.int .i64 vp, .int .i64 vq] tt)) fun e => e) (cellsAt_new w7 [.int .i64 vp, .int .i64 vq] tt)))
        clear hs7 HRG
        go_wp2_with fail
        have hg7 := HG7.out 35
        clear HG7
        generalize (w7.alloc (.cells #[.int .i64 vp, .int .i64 vq] 35)) = w8 at hg7 ⊢
        generalize w7.heap.size = b2 at hg7 ⊢
        have HG8 := Lib.hid hg7
        clear hg7
        obtain ⟨ra, rc, hrl⟩ := (HA.out.later HG8.out.1).rlen
        obtain ⟨n, hn⟩ : ∃ n, l.length = n := ⟨_, rfl⟩
        have HN := Lib.hid hn
        rw [hn] at hrl
        have HSS := Lib.hid (fun w' (hs : Still w8 w') => show Still w8 w' ∧ w'.cell? ⟨b1, 0, none⟩ = some (.int .i64 vp) ∧ w'.cell? ⟨b1, 1, none⟩ = some (.int .i64 vq) ∧ w'.cell? ⟨b2, 0, none⟩ = some (.int .i64 vp) ∧ w'.cell? ⟨b2, 1, none⟩ = some (.int .i64 vq) ∧ w'.cell? ⟨r, 0, none⟩ = some (.slice ra n rc) from
          ⟨hs, Still.cell hs (HG8.out.2.1.cell 0), Still.cell hs (HG8.out.2.1.cell 1), Still.cell hs (HG8.out.2.2.cell 0), Still.cell hs (HG8.out.2.2.cell 1), Still.cell hs hrl⟩)
        have HLN := Lib.hid (fun w' (hs : Still w8 w') => (hn ▸ own_len ((HA.out.later HG8.out.1).own.still hs) : Calls Try.prog 18 #[ptr t] w' (fun e w'' => e = .returned (.int .i64 n) ∧ w'' = w')))
        have HSH := Lib.hid (fun w' (hs : Still w8 w') => (own_shape ((HA.out.later HG8.out.1).own.still hs) HL80.out).mono (fun e w'' h => show ∃ sa dp sc, e = .returned (.slice sa dp sc) ∧ Still w8 w'' ∧ Hid (Calls Try.prog 19 #[.slice sa dp sc, .int .i64 (n : Int)] w'' (fun e w3 => e = .returned (.bool true) ∧ w3 = w'')) from by
          obtain ⟨sa, sc, dp, he, -, -, -, -, hs10, -, hsnd⟩ := told_shape h HL80.out
          exact ⟨sa, dp, sc, he, hs.trans hs10, Lib.hid (hsnd w'' n (Still.refl _) HN.out.symm)⟩))
        have HS8 := Lib.hid (show Still w8 w8.drew from (Still.refl _).drew)
        unfold ptr at HLN HSH
        clear hn hrl
        go_wp2_with fail
        have hs8 := HS8.out
        go_region_held3 (fun w' => Still w8 w' ∧ w'.cell? ⟨b1, 0, none⟩ = some (.int .i64 vp) ∧ w'.cell? ⟨b1, 1, none⟩ = some (.int .i64 vq) ∧ w'.cell? ⟨b2, 0, none⟩ = some (.int .i64 vp) ∧ w'.cell? ⟨b2, 1, none⟩ = some (.int .i64 vq) ∧ w'.cell? ⟨r, 0, none⟩ = some (.slice ra n rc)) (first | assumption | exact HSS.out _ (by assumption))
          (first
            | (go_at_call 18; (with_reducible refine (HLN.out _ (by assumption)).mono ?_); rintro e w9 ⟨rfl, rfl⟩)
            | (go_at_call 20; (with_reducible refine (HSH.out _ (by assumption)).mono ?_); rintro e w10 ⟨sa, dp, sc, rfl, hs10, HSND⟩)
            | (go_at_call 19; (with_reducible refine HSND.out.mono ?_); rintro e w11 ⟨rfl, rfl⟩))
        have HF := Lib.hid (show TwoS W w11 t r l l from ⟨A, (HA.out.later HG8.out.1).later hs10⟩)
        clear hs10 hs8 HSND HSH HLN HSS
        go_wp2_with fail
        go_roundw
        case rel => exact ⟨i + 1, l, by go_num, by omega, HF.out, HLL.out⟩
        case measure => simp [intOf]; omega
    · have hge : i = m := by omega
      subst hge
      have b1 : decide ((i : Int) < (i : Int)) = false := by simp
      obtain ⟨A, hA⟩ := HL.out.1
      have hl80 : l.length ≤ 80000 := by have := HL.out.2; have := HM.out; omega
      have HTF := Lib.hid (hA.tfrom hl80 ⟨#[]⟩ (-1))
      have HRF := Lib.hid (fun w' (hs : Still wr w') => (hA.later hs).rfrom hl80 ⟨#[]⟩ (-1))
      have HW := Lib.hid hA.still
      have hres : (fromL l ⟨#[]⟩ (-1)).length ≤ 90000 := by
        rw [fromL_take, List.length_take, List.length_drop]
        omega
      have HRES := Lib.hid hres
      unfold ptr at HTF HRF
      clear hA hl80 hres
      go_wp2_with fail
      refine HTF.out.mono ?_
      rintro e w4 ⟨kv, vv, rfl, ht4⟩
      have HT4 := Lib.hid ht4
      clear ht4
      go_wp2_with fail
      refine (HRF.out _ HT4.out.still).mono ?_
      rintro e w5 ⟨kv2, vv2, rfl, ht5⟩
      have HAL := Lib.hid (alike_told HT4.out ht5 HRES.out)
      have HS5 := Lib.hid ((HW.out.trans HT4.out.still).trans ht5.still)
      clear ht5
      go_wp2_with fail
      refine HAL.out.mono ?_
      rintro e w6 ⟨rfl, hs6⟩
      have F := Lib.hid (show BTrue W (.returned (.bool true)) w6 from ⟨rfl, HS5.out.trans hs6⟩)
      clear hs6
      go_wp2_with fail
      go_ret
      exact F.out
end Go.Proofs.Ytjmkfppnimengaa

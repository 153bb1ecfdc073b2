/- Which numbers fit. Conditions: they lie in memory. -/
import Derived.Test.YtojkggppcmdepaaGreatTrL
import Derived.Laws.EntriesVeiled
namespace Go.Proofs.YtojkggppcmdepaaGreat
open Go.RowKit Go.Wh Go.Maps

def fit1 (n : Nat) (v : Int) : Bool := decide (0 ≤ v) && decide (v < 256 ^ n)
theorem fitsB_all (n : Nat) (l : List Int) : fitsB n l = l.all (fit1 n) := rfl
theorem fit_shr (n : Nat) (v : Int) (h : 0 ≤ v) : (v / 2 ^ (8 * n) != 0) = !fit1 n v := by
  rw [Int.pow_mul]
  have e2 : (2 : Int) ^ 8 = 256 := rfl
  rw [e2]
  have hpos : (0 : Int) < 256 ^ n := Int.pow_pos (by decide)
  unfold fit1
  rw [decide_eq_true h, Bool.true_and]
  by_cases hv : v < 256 ^ n
  · rw [decide_eq_true hv, Int.ediv_eq_zero_of_lt h hv]
    rfl
  · rw [decide_eq_false hv]
    have : 1 ≤ v / 256 ^ n := Int.le_ediv_of_mul_le hpos (by omega)
    simp
    omega
set_option maxHeartbeats 1000000 in
theorem fits1_any (w : World) (nb : Nat) (n : Nat) (v : Int) (hc : w.cell? ⟨nb, 0, none⟩ = some (.int .i64 n)) (hn : n ≤ 3) :
    Calls Tryz.prog 124 #[.int .i64 v, .pointer (some ⟨nb, 0, none⟩)] w (SamePost w (.bool (!fit1 n v))) := by
  have u8 : IntKind.i64.wrap (8 * (n : Int)) = 8 * (n : Int) := IntWalk.i64_in _ (by omega)
  have s0 : (0 : Int) ≤ 8 * (n : Int) := by omega
  have s1 : 8 * (n : Int) < 64 := by omega
  by_cases h : v < 0
  · have d1 : decide (v < 0) = true := decide_eq_true h
    have F := Lib.hid (show SamePost w (.bool (!fit1 n v)) (.returned (.bool true)) w from by
      have : fit1 n v = false := by unfold fit1; rw [decide_eq_false (by omega), Bool.false_and]
      rw [this]
      exact ⟨rfl, rfl⟩)
    clear h
    go_enter Tryz.func124, Tryz.ntmps124
    go_wp2_with fail
    go_ret
    exact F.out
  · have d1 : decide (v < 0) = false := decide_eq_false h
    have hs := fit_shr n v (by omega)
    obtain ⟨q, hq⟩ : ∃ q, (!fit1 n v) = q := ⟨_, rfl⟩
    rw [hq] at hs ⊢
    have F := Lib.hid (show SamePost w (.bool q) (.returned (.bool (v / 2 ^ (8 * n) != 0))) w from ⟨by rw [hs], rfl⟩)
    clear h hq hs
    go_enter Tryz.func124, Tryz.ntmps124
    go_wp2_with fail
    go_ret
    exact F.out

/-- Whether one of them is such a one. -/
def IdxPost (w : World) (q : Bool) (e : Ending) (w' : World) : Prop := ∃ z : Int, e = .returned (.int .i64 z) ∧ decide (0 ≤ z) = q ∧ Still w w'
set_option maxHeartbeats 1000000 in
theorem idx_int (w : World) (dv : Value) (m : Nat) (l : List Int) (nb n : Nat) (hd : Sl w (fun _ => True) 1 dv m (ic l)) (hl : l.length = m) (hc : w.cell? ⟨nb, 0, none⟩ = some (.int .i64 n)) (hn : n ≤ 3) (hm : m ≤ 10) :
    Calls Tryz.prog 137 #[dv, .func (.func 124) #[] #[.pointer (some ⟨nb, 0, none⟩)]] w (IdxPost w (!fitsB n l)) := by
  have H := Lib.hid (And.intro hd (And.intro hl (And.intro hc (And.intro hn hm))))
  obtain ⟨da, dc, rfl⟩ := hd.form
  clear hd hl hc hn hm
  go_enter Tryz.func137, Tryz.ntmps137
  go_wp2_with fail
  go_loopw [8] (fun s wr => ∃ k : Nat, s = .int .i64 k ∧ k ≤ m ∧ wr = w ∧ (l.take k).all (fit1 n) = true) (fun s _ => m - (intOf s).toNat)
  case atStart => exact ⟨0, rfl, Nat.zero_le _, rfl, rfl⟩
  case round =>
    obtain ⟨k, rfl, hk, rfl, ht⟩ := hrel
    by_cases hi : k < m
    · obtain ⟨x, hx⟩ : ∃ x, l[k]? = some x := ⟨_, List.getElem?_eq_getElem (by have := H.out.2.1; omega)⟩
      obtain ⟨g, o, c, hg, -, -, hcs⟩ := H.out.1.pos (by omega)
      cases hg
      have c0 : wr.cell? ⟨g, o + k, none⟩ = some (.int .i64 x) := hcs k _ (by unfold ic; rw [List.getElem?_map, hx]; rfl)
      have b1 : decide ((k : Int) < (m : Int)) = true := by simp; omega
      have b2 : decide (k < m) = true := by simp; omega
      have b3 : (0 : Int) ≤ (k : Int) := by omega
      have b4 : (k : Int) < (m : Int) := by omega
      have u9 : IntKind.i64.wrap ((k : Int) + 1) = (k : Int) + 1 := IntWalk.i64_in _ (by have := H.out.2.2.2.2; omega)
      have HF := Lib.hid (fits1_any wr nb n x H.out.2.2.1 H.out.2.2.2.1)
      have HT := Lib.hid (And.intro ht hx)
      clear hcs ht hx
      go_wp2_with fail
      refine HF.out.mono ?_
      rintro e w2 ⟨rfl, rfl⟩
      cases hq : fit1 n x with
      | true =>
        have HQ := Lib.hid hq
        clear hq
        go_wp2_with fail
        go_roundw
        case rel => exact ⟨k + 1, by go_num, by omega, trivial, by rw [List.take_add_one, HT.out.2, Option.toList_some, List.all_append, HT.out.1, List.all_cons, HQ.out]; rfl⟩
        case measure => simp [intOf]; omega
      | false =>
        have F := Lib.hid (show IdxPost w2 (!fitsB n l) (.returned (.int .i64 (k : Int))) w2 from ⟨k, rfl, by
          have : fitsB n l = false := by
            rw [fitsB_all, Bool.eq_false_iff]
            intro hall
            rw [List.all_eq_true] at hall
            have := hall x (List.mem_of_getElem? HT.out.2)
            rw [hq] at this
            cases this
          rw [this]
          simp, Still.refl _⟩)
        clear hq
        go_wp2_with fail
        go_ret
        exact F.out
    · have hke : k = m := by omega
      subst hke
      have b1 : decide ((k : Int) < (k : Int)) = false := by simp
      have F := Lib.hid (show IdxPost wr (!fitsB n l) (.returned (.int .i64 (-1))) wr from ⟨-1, rfl, by
        rw [List.take_of_length_le (by have := H.out.2.1; omega)] at ht
        rw [fitsB_all, ht]
        rfl, Still.refl _⟩)
      clear ht
      go_wp2_with fail
      go_ret
      exact F.out
end Go.Proofs.YtojkggppcmdepaaGreat

/- The cells of package gap: going through cells of pages, by a function that is handed in. Conditions: numbers fit their kind. -/
import Derived.Test.YtpehppbnlffikaaGapC
namespace Go.Proofs.Ytpehppbnlffikaa
open Go.RowKit Go.Wh Go.Maps

/-- The next m cells of a page, from one on. -/
def rowFrom (p : Int) : Nat → Int → List (Int × Int)
  | 0, _ => []
  | k + 1, c => (p, c) :: rowFrom p k (c + 1)
/-- The cells of the next m pages: the first k of each. -/
def gridFrom (k : Nat) : Nat → Int → List (Int × Int)
  | 0, _ => []
  | m + 1, p => rowFrom p k 0 ++ gridFrom k m (p + 1)
/-- The cells that 'each' goes through. -/
def cellsOf (f t c : Int) : List (Int × Int) := gridFrom c.toNat (t - f).toNat f

theorem rowFrom_step (p c q : Int) (h : q < c) : rowFrom p (c - q).toNat q = (p, q) :: rowFrom p (c - (q + 1)).toNat (q + 1) := by
  rw [show (c - q).toNat = (c - (q + 1)).toNat + 1 by omega]
  rfl
theorem rowFrom_end (p c q : Int) (h : c ≤ q) : rowFrom p (c - q).toNat q = [] := by
  rw [show (c - q).toNat = 0 by omega]
  rfl
theorem gridFrom_step (k : Nat) (t p : Int) (h : p < t) : gridFrom k (t - p).toNat p = rowFrom p k 0 ++ gridFrom k (t - (p + 1)).toNat (p + 1) := by
  rw [show (t - p).toNat = (t - (p + 1)).toNat + 1 by omega]
  rfl
theorem gridFrom_end (k : Nat) (t p : Int) (h : t ≤ p) : gridFrom k (t - p).toNat p = [] := by
  rw [show (t - p).toNat = 0 by omega]
  rfl

def EachPost (J : List (Int × Int) → World → Prop) (D : World → Prop) (e : Ending) (w' : World) : Prop := e = .returned (.tuple #[]) ∧ (J [] w' ∨ D w')

set_option maxHeartbeats 1000000 in
theorem each_any (mb : Nat) (n f t c : Int) (fid : Nat) (cap : Array Value) (J : List (Int × Int) → World → Prop) (D : World → Prop) (w : World)
    (hn : n ≤ 32) (hf : 0 ≤ f) (ht : t ≤ n) (hc0 : 0 ≤ c) (hc : c ≤ 4)
    (hcf : ∀ args w, (callFunc fid args).run Try.prog w = .ok (.enter fid args) w)
    (hJ : ∀ l w, J l w → w.cell? ⟨mb, 0, none⟩ = some (.int .i64 n))
    (hstep : ∀ x l w, J (x :: l) w → Calls Try.prog fid (#[rid x] ++ cap) w fun e w' => (e = .returned (.bool true) ∧ J l w') ∨ (e = .returned (.bool false) ∧ D w'))
    (h : J (cellsOf f t c) w) :
    Calls Try.prog 14 #[.pointer (some ⟨mb, 0, none⟩), .int .i64 f, .int .i64 t, .int .i64 c, .func (.func fid) #[] cap] w (EachPost J D) := by
  have HJ := Lib.hid hJ
  have HS := Lib.hid hstep
  have H0 := Lib.hid h
  clear hJ hstep h
  go_enter Try.func14, Try.ntmps14
  go_wp2_with fail
  go_loopw [10] (fun p wr => ∃ pv : Int, p = .int .i64 pv ∧ 0 ≤ pv ∧ J (gridFrom c.toNat (t - pv).toNat pv) wr) (fun p _ => (t - intOf p).toNat)
  case atStart => exact ⟨f, rfl, hf, H0.out⟩
  case round =>
    obtain ⟨pv, rfl, hp0, hJ1⟩ := hrel
    have hcell := HJ.out _ _ hJ1
    have HJ1 := Lib.hid hJ1
    clear hJ1
    by_cases hlt : pv < t
    · go_wp2_with fail
      have HJ2 : Hid (J (rowFrom pv (c - 0).toNat 0 ++ gridFrom c.toNat (t - (pv + 1)).toNat (pv + 1)) wr) := by
        have := HJ1.out
        rw [gridFrom_step _ _ _ hlt] at this
        rw [show (c - 0).toNat = c.toNat by omega]
        exact this
      clear HJ1 hcell
      obtain ⟨wo, rfl⟩ : ∃ wo : World, wo = wr := ⟨_, rfl⟩
      go_loopw [29] (fun q wr => ∃ qv : Int, q = .int .i64 qv ∧ 0 ≤ qv ∧ qv ≤ c ∧ J (rowFrom pv (c - qv).toNat qv ++ gridFrom c.toNat (t - (pv + 1)).toNat (pv + 1)) wr) (fun q _ => (c - intOf q).toNat)
      case atStart => exact ⟨0, rfl, by omega, hc0, HJ2.out⟩
      case round =>
        clear HJ2
        obtain ⟨qv, rfl, hq0, hq1, hJ3⟩ := hrel
        have HJ3 := Lib.hid hJ3
        clear hJ3
        by_cases hlq : qv < c
        · have HC : Hid (Calls Try.prog fid (#[rid (pv, qv)] ++ cap) wr fun e w' => (e = .returned (.bool true) ∧ J (rowFrom pv (c - (qv + 1)).toNat (qv + 1) ++ gridFrom c.toNat (t - (pv + 1)).toNat (pv + 1)) w') ∨ (e = .returned (.bool false) ∧ D w')) := by
            have := HJ3.out
            rw [rowFrom_step _ _ _ hlq] at this
            exact HS.out _ _ _ this
          clear HJ3
          go_wp2_with fail
          refine HC.out.mono ?_
          clear HC
          rintro e w' (⟨rfl, hj⟩ | ⟨rfl, hd⟩)
          · have HJ4 := Lib.hid hj
            clear hj
            go_wp2_with fail
            go_roundw
            case rel => exact ⟨qv + 1, by go_num, by omega, by omega, HJ4.out⟩
            case measure => simp [intOf]; omega
          · have HD := Lib.hid hd
            clear hd
            go_wp2_with fail
            refine bodyPost_ret (results_none rfl _ _ _) rfl ?_
            exact ⟨rfl, .inr HD.out⟩
        · have HJ4 : Hid (J (gridFrom c.toNat (t - (pv + 1)).toNat (pv + 1)) wr) := by
            have := HJ3.out
            rw [rowFrom_end _ _ _ (by omega)] at this
            exact this
          clear HJ3
          go_wp2_with fail
          go_roundw
          case rel => exact ⟨pv + 1, by go_num, by omega, HJ4.out⟩
          case measure => simp [intOf]; omega
    · have HJ2 : Hid (J [] wr) := by
        have := HJ1.out
        rw [gridFrom_end _ _ _ (by omega)] at this
        exact this
      clear HJ1
      go_wp2_with fail
      go_end0
      exact ⟨rfl, .inl HJ2.out⟩
end Go.Proofs.Ytpehppbnlffikaa

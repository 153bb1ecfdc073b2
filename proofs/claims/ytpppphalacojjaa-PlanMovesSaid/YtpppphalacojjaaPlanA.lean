/- Package plan: places, and how keys are compared. Conditions: numbers fit. -/
import Derived.Test.YtpppphalacojjaaRows
import Derived.Test.YtpppphalacojjaaPlanM
import Derived.WalkKit
import Derived.WalkSpells
import Derived.WalkLawsBesides
import Derived.Deep.QuietTactic
import Derived.BigQuiet
import Derived.StillTailTactics
import Derived.Lib.Hide
namespace Go.Proofs.Ytpppphalacojjaa
open Go.RowKit Go.Wh

set_option maxHeartbeats 400000 in
theorem most_any (w : World) : Calls Try.prog 8 #[] w fun e w' => e = .returned (.int .i64 48) ∧ w = w' := by
  go_enter Try.func8, Try.ntmps8
  go_wp2
  go_ret
  exact ⟨rfl, rfl⟩

set_option maxHeartbeats 400000 in
theorem isNaN_any (s : ByteArray) (w : World) : Calls Try.prog 20 #[.string s] w fun e w' => e = .returned (.bool false) ∧ w = w' := by
  go_enter Try.func20, Try.ntmps20
  go_wp2
  go_ret
  exact ⟨by simp, rfl⟩

/-- What cmp.Compare answers. -/
def cmpOf (s t : ByteArray) : Int := if bl s t then -1 else if bl t s then 1 else 0
theorem cmp_neg (s t : ByteArray) : decide (cmpOf s t < 0) = bl s t := by
  unfold cmpOf
  cases bl s t <;> cases bl t s <;> simp

def CmpPost (s t : ByteArray) (w : World) (e : Ending) (w' : World) : Prop := e = .returned (.int .i64 (cmpOf s t)) ∧ w = w'

theorem bl_eq (s t : ByteArray) (h : (s.toList == t.toList) = true) : bl s t = false ∧ bl t s = false := by
  have e : s = t := toList_inj (by simpa using h)
  subst e
  exact ⟨bl_irrefl s, bl_irrefl s⟩

set_option maxHeartbeats 400000 in
theorem compare_any (s t : ByteArray) (w : World) : Calls Try.prog 18 #[.string s, .string t] w (CmpPost s t w) := by
  cases h1 : bl s t with
  | true =>
    have F := Lib.hid (show CmpPost s t w (.returned (.int .i64 (-1))) w from ⟨by simp [cmpOf, h1], rfl⟩)
    have hb : Op.bytesLess s.toList t.toList = true := h1
    clear h1
    go_enter Try.func18, Try.ntmps18
    go_wp2_with fail
    refine (isNaN_any s _).mono ?_
    rintro e w' ⟨rfl, rfl⟩
    go_wp2_with fail
    refine (isNaN_any t _).mono ?_
    rintro e w' ⟨rfl, rfl⟩
    go_wp2_with fail
    go_ret
    exact F.out
  | false =>
    have hb : Op.bytesLess s.toList t.toList = false := h1
    cases h2 : (s.toList == t.toList) with
    | true =>
      have F := Lib.hid (show CmpPost s t w (.returned (.int .i64 0)) w from ⟨by simp [cmpOf, h1, (bl_eq s t h2).2], rfl⟩)
      clear h1
      go_enter Try.func18, Try.ntmps18
      go_wp2_with fail
      refine (isNaN_any s _).mono ?_
      rintro e w' ⟨rfl, rfl⟩
      go_wp2_with fail
      refine (isNaN_any t _).mono ?_
      rintro e w' ⟨rfl, rfl⟩
      go_wp2_with fail
      go_ret
      exact F.out
    | false =>
      have h3 : bl t s = true := by
        cases h : bl t s with
        | true => rfl
        | false => rw [bl_total h1 h] at h2; simp at h2
      have F := Lib.hid (show CmpPost s t w (.returned (.int .i64 1)) w from ⟨by simp [cmpOf, h1, h3], rfl⟩)
      clear h1 h3
      go_enter Try.func18, Try.ntmps18
      go_wp2_with fail
      refine (isNaN_any s _).mono ?_
      rintro e w' ⟨rfl, rfl⟩
      go_wp2_with fail
      refine (isNaN_any t _).mono ?_
      rintro e w' ⟨rfl, rfl⟩
      go_wp2_with fail
      go_ret
      exact F.out

set_option maxHeartbeats 400000 in
theorem less_any (a b : Spot) (w : World) : Calls Try.prog 17 #[.agg #[.string a.key, .int .i64 a.p, .int .i64 a.c], .agg #[.string b.key, .int .i64 b.p, .int .i64 b.c]] w fun e w' => e = .returned (.int .i64 (cmpOf a.key b.key)) ∧ Below w.heap.size w w' := by
  have hbel : Below w.heap.size w ((w.alloc (Obj.cells #[.string a.key, .int .i64 a.p, .int .i64 a.c] 31)).alloc (Obj.cells #[.string b.key, .int .i64 b.p, .int .i64 b.c] 31)) :=
    ((Below.refl _ _).alloc (Nat.le_refl _) _).alloc (by simp) _
  have HB := Lib.hid hbel
  clear hbel
  go_enter Try.func17, Try.ntmps17
  go_wp2_with fail
  refine (compare_any a.key b.key _).mono ?_
  rintro e w' ⟨rfl, rfl⟩
  go_wp2_with fail
  go_ret
  exact ⟨rfl, HB.out⟩

theorem cf17 (args : Array Value) (w : World) : (callFunc 17 args).run Try.prog w = .ok (.enter 17 args) w := by kernel_rfl

set_option maxHeartbeats 400000 in
theorem place_yes (h k : Int) (w : World) (h0 : 0 ≤ h) (h1 : h ≤ 1) (k0 : 0 ≤ k) (k1 : k < 48) : Calls Try.prog 9 #[.int .i64 h, .int .i64 k] w fun e w' => e = .returned (.tuple #[.agg #[.int .i64 (h * 16 + k / 3), .int .i64 (k % 3)], .bool true]) ∧ Below w.heap.size w w' := by
  go_enter Try.func9, Try.ntmps9
  go_wp2_with fail
  refine (most_any _).mono ?_
  rintro e w' ⟨rfl, rfl⟩
  go_wp2_with fail
  exact bodyPost_ret (v := .tuple #[.agg #[.int .i64 (h * 16 + k / 3), .int .i64 (k % 3)], .bool true]) (by simp [results, Try.results9, go_sem]) rfl ⟨rfl, (Below.refl _ _).alloc (Nat.le_refl _) _⟩

set_option maxHeartbeats 1000000 in
theorem place_no (h k : Int) (w : World) (hn : h < 0 ∨ 1 < h ∨ k < 0 ∨ 48 ≤ k) : Calls Try.prog 9 #[.int .i64 h, .int .i64 k] w fun e w' => e = .returned (.tuple #[.agg #[.int .i64 0, .int .i64 0], .bool false]) ∧ Below w.heap.size w w' := by
  by_cases h0 : h < 0
  · clear hn
    go_enter Try.func9, Try.ntmps9
    go_wp2_with fail
    exact bodyPost_ret (v := .tuple #[.agg #[.int .i64 0, .int .i64 0], .bool false]) (by simp [results, Try.results9, go_sem]) rfl ⟨rfl, (Below.refl _ _).alloc (Nat.le_refl _) _⟩
  · by_cases h1 : 1 < h
    · clear hn
      go_enter Try.func9, Try.ntmps9
      go_wp2_with fail
      exact bodyPost_ret (v := .tuple #[.agg #[.int .i64 0, .int .i64 0], .bool false]) (by simp [results, Try.results9, go_sem]) rfl ⟨rfl, (Below.refl _ _).alloc (Nat.le_refl _) _⟩
    · by_cases h2 : k < 0
      · clear hn
        go_enter Try.func9, Try.ntmps9
        go_wp2_with fail
        exact bodyPost_ret (v := .tuple #[.agg #[.int .i64 0, .int .i64 0], .bool false]) (by simp [results, Try.results9, go_sem]) rfl ⟨rfl, (Below.refl _ _).alloc (Nat.le_refl _) _⟩
      · have h3 : 48 ≤ k := by omega
        clear hn
        go_enter Try.func9, Try.ntmps9
        go_wp2_with fail
        refine (most_any _).mono ?_
        rintro e w' ⟨rfl, rfl⟩
        go_wp2_with fail
        exact bodyPost_ret (v := .tuple #[.agg #[.int .i64 0, .int .i64 0], .bool false]) (by simp [results, Try.results9, go_sem]) rfl ⟨rfl, (Below.refl _ _).alloc (Nat.le_refl _) _⟩

end Go.Proofs.Ytpppphalacojjaa

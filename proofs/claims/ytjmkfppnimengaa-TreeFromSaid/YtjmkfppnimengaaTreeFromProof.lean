/- TreeFrom: for every input the law returns true and its arguments read as before. No conditions beyond the row's. -/
import Derived.Test.YtjmkfppnimengaaTreeFrom
namespace Go.Proofs.Ytjmkfppnimengaa
open Go.RowKit Go.Wh Go.ChangeShapes Go.WideShapes Go.ChangeAt
open Go.ChangeMaps (open_string)

theorem fromOwn : ownKnob Try.prog.godebug = none := by kernel_rfl
theorem fromLaid : laidOutB Try.prog = true := by kernel_rfl

set_option maxRecDepth 100000 in
set_option maxHeartbeats 1000000 in
theorem from_long (a0 : Option Addr) (m0 c0 : Nat) (s1 : ByteArray) (n2 : Int) (W : World) (h : ¬ (m0 ≤ 60 ∧ s1.size ≤ 5)) :
    Calls Try.prog 4 #[.slice a0 m0 c0, .string s1, .int .i64 n2] W (BTrue W) := by
  have hs : m0 ≤ 60 → ¬ s1.size ≤ 5 := fun h1 h2 => h ⟨h1, h2⟩
  clear h
  rcases Nat.lt_or_ge 60 m0 with h1 | h1
  · have d1 : decide ((60 : Int) < (m0 : Int)) = true := by simp; omega
    have d2 : decide (60 < m0) = true := by simp; omega
    clear hs h1
    go_enter Try.func4, Try.ntmps4
    go_wp2_with fail
    refine (begun_any _).mono ?_
    rintro e w1 ⟨rfl, hb1⟩
    have F := Lib.hid (show BTrue W (.returned (.bool true)) w1 from ⟨rfl, hb1⟩)
    clear hb1
    go_wp2_with fail
    go_ret
    exact F.out
  · have h2 := hs h1
    have d1 : decide ((60 : Int) < (m0 : Int)) = false := by simp; omega
    have d2 : decide (60 < m0) = false := by simp; omega
    have d3 : decide ((5 : Int) < (s1.size : Int)) = true := by simp; omega
    have d4 : decide (5 < s1.size) = true := by simp; omega
    clear hs h1 h2
    go_enter Try.func4, Try.ntmps4
    go_wp2_with fail
    refine (begun_any _).mono ?_
    rintro e w1 ⟨rfl, hb1⟩
    have F := Lib.hid (show BTrue W (.returned (.bool true)) w1 from ⟨rfl, hb1⟩)
    clear hb1
    go_wp2_with fail
    go_ret
    exact F.out

set_option maxRecDepth 100000 in
theorem treeFrom_lifted (os : Os) (started : os.Started) (H : Type) (enc : TypeId × Value → H) :
    ReturnsInHanded {} Try.checked os 4 .any (Rows.treeFromSpec.pre6 enc Try.prog Try.f4 Rows.treeFromRow.domain false) (Rows.treeFromSpec.post enc Try.prog Try.f4 false true false false) := by
  refine returnsInHanded_of_change (C := Try.checked) fromOwn started (by kernel_rfl) Try.func4
    (ChangeSpec.witness6 (enc := enc) (C := Try.checked) false ⟨#[], #[.slice none 0 0, .string ⟨#[]⟩, .int .i64 0], []⟩ 8 (by kernel_rfl) (by kernel_rfl) (by kernel_rfl) (by kernel_rfl)) ?_
  intro W base args ds gs before hval0 hW hcnd _
  have hval : ∀ (j : Nat) t v, Try.f4.params[j]? = some t → args[j]? = some v → Value.okWide Try.prog W .any base t v := hval0
  have hW' := hW
  obtain ⟨p, q, hA0, hV, rfl, hfz, hnd⟩ := hW
  have hA : DataW.TrodAll enc Try.prog W 0 (fun _ => true) true Try.f4.params.toList args.toList ds p := hA0
  rw [Try.params4] at hA hval
  obtain ⟨v0, v1, v2, d0, d1, d2, p0, p1, p2, rfl, rfl, rfl, h0, h1, h2⟩ := trodAll_three hA
  obtain ⟨a0, m0, c0, z0, rfl, w0, l0⟩ := open_row Try.underlying47 Try.underlying5 (by kernel_rfl) (hval 0 47 v0 rfl rfl) h0
  obtain ⟨s1, rfl, rfl, rfl, w1⟩ := open_string Try.underlying9 (hval 1 9 v1 rfl rfl) h1
  obtain ⟨n2, rfl, rfl, rfl, w2⟩ := open_int Try.underlying3 (hval 2 3 v2 rfl rfl) h2
  have walk : Calls Try.prog 4 #[.slice a0 m0 c0, .string s1, .int .i64 n2] W (BTrue W) := by
    by_cases hl : m0 ≤ 60 ∧ s1.size ≤ 5
    · exact from_walk a0 m0 c0 z0 s1 n2 W w0 hl
    · exact from_long a0 m0 c0 s1 n2 W hl
  refine walk.mono fun e W' ⟨he, bel⟩ => ?_
  subst he
  exact ⟨_, rfl, law_post fromLaid (t := 4) rfl Try.underlying4 rfl (by intro t ht; rw [show Try.f4.params.toList = [47, 9, 3] from rfl] at ht; simp at ht; rcases ht with rfl | rfl | rfl <;> exact ⟨by kernel_rfl, of_decide_eq_true (by kernel_rfl)⟩) hW' rfl bel.below⟩

theorem treeFrom_holds : Rows.TreeFromSaid :=
  OpenClaim.holds_of_wide 4 Try.f4 rfl rfl rfl rfl rfl rfl rfl ⟨rfl, rfl, rfl, rfl, rfl⟩ rfl rfl rfl rfl rfl (by kernel_rfl) Try.func4 (by kernel_rfl)
    (of_decide_eq_true (by kernel_rfl)) (by unfold Func.isWrapper; first | (rw [if_pos (by decide +kernel)]; kernel_rfl) | (rw [if_neg (by decide +kernel)]; exact ⟨rfl, rfl⟩))
    (fun os started H enc _ => treeFrom_lifted os started H enc)
#print axioms treeFrom_holds
end Go.Proofs.Ytjmkfppnimengaa

/- TreeOnce: for every input the law returns true and its arguments read as before. No conditions beyond the row's. -/
import Derived.Test.YtjmkfppnimengaaTreeOnce
namespace Go.Proofs.Ytjmkfppnimengaa
open Go.RowKit Go.Wh Go.ChangeShapes Go.WideShapes Go.ChangeAt

theorem onceOwn : ownKnob Try.prog.godebug = none := by kernel_rfl
theorem onceLaid : laidOutB Try.prog = true := by kernel_rfl

set_option maxRecDepth 100000 in
set_option maxHeartbeats 1000000 in
theorem once_long (a0 : Option Addr) (m0 c0 : Nat) (W : World) (h : ¬ (m0 ≤ 100)) :
    Calls Try.prog 6 #[.slice a0 m0 c0] W (BTrue W) := by
  go_enter Try.func6, Try.ntmps6
  go_wp2_with fail
  refine (begun_any _).mono ?_
  rintro e w1 ⟨rfl, hb1⟩
  have F := Lib.hid (show BTrue W (.returned (.bool true)) w1 from ⟨rfl, hb1⟩)
  clear hb1
  go_wp2_with fail
  all_goals
    go_ret
    exact F.out

set_option maxRecDepth 100000 in
theorem treeOnce_lifted (os : Os) (started : os.Started) (H : Type) (enc : TypeId × Value → H) :
    ReturnsInHanded {} Try.checked os 6 .any (Rows.treeOnceSpec.pre6 enc Try.prog Try.f6 Rows.treeOnceRow.domain false) (Rows.treeOnceSpec.post enc Try.prog Try.f6 false true false false) := by
  refine returnsInHanded_of_change (C := Try.checked) onceOwn started (by kernel_rfl) Try.func6
    (ChangeSpec.witness6 (enc := enc) (C := Try.checked) false ⟨#[], #[.slice none 0 0], []⟩ 8 (by kernel_rfl) (by kernel_rfl) (by kernel_rfl) (by kernel_rfl)) ?_
  intro W base args ds gs before hval0 hW hcnd _
  have hval : ∀ (j : Nat) t v, Try.f6.params[j]? = some t → args[j]? = some v → Value.okWide Try.prog W .any base t v := hval0
  have hW' := hW
  obtain ⟨p, q, hA0, hV, rfl, hfz, hnd⟩ := hW
  have hA : DataW.TrodAll enc Try.prog W 0 (fun _ => true) true Try.f6.params.toList args.toList ds p := hA0
  rw [Try.params6] at hA hval
  obtain ⟨v0, d0, rfl, rfl, h0⟩ := trodAll_one hA
  obtain ⟨a0, m0, c0, z0, rfl, w0, l0⟩ := open_row Try.underlying47 Try.underlying5 (by kernel_rfl) (hval 0 47 v0 rfl rfl) h0
  have walk : Calls Try.prog 6 #[.slice a0 m0 c0] W (BTrue W) := by
    by_cases hl : m0 ≤ 100
    · exact once_walk a0 m0 c0 z0 W w0 hl
    · exact once_long a0 m0 c0 W hl
  refine walk.mono fun e W' ⟨he, bel⟩ => ?_
  subst he
  exact ⟨_, rfl, law_post onceLaid (t := 4) rfl Try.underlying4 rfl (by intro t ht; rw [show Try.f6.params.toList = [47] from rfl] at ht; simp at ht; rcases ht with rfl; exact ⟨by kernel_rfl, of_decide_eq_true (by kernel_rfl)⟩) hW' rfl bel.below⟩

theorem treeOnce_holds : Rows.TreeOnceSaid :=
  OpenClaim.holds_of_wide 6 Try.f6 rfl rfl rfl rfl rfl rfl rfl ⟨rfl, rfl, rfl, rfl, rfl⟩ rfl rfl rfl rfl rfl (by kernel_rfl) Try.func6 (by kernel_rfl)
    (of_decide_eq_true (by kernel_rfl)) (by unfold Func.isWrapper; first | (rw [if_pos (by decide +kernel)]; kernel_rfl) | (rw [if_neg (by decide +kernel)]; exact ⟨rfl, rfl⟩))
    (fun os started H enc _ => treeOnce_lifted os started H enc)
#print axioms treeOnce_holds
end Go.Proofs.Ytjmkfppnimengaa

/- TreeAll: for every input the law returns true and its arguments read as before. No conditions beyond the row's. -/
import Derived.Test.YtjmkfppnimengaaTreeAll
namespace Go.Proofs.Ytjmkfppnimengaa
open Go.RowKit Go.Wh Go.ChangeShapes Go.WideShapes Go.ChangeAt

theorem allOwn : ownKnob Try.prog.godebug = none := by kernel_rfl
theorem allLaid : laidOutB Try.prog = true := by kernel_rfl

set_option maxRecDepth 100000 in
set_option maxHeartbeats 1000000 in
theorem all_long (a0 : Option Addr) (m0 c0 : Nat) (W : World) (h : ¬ (m0 ≤ 200)) :
    Calls Try.prog 3 #[.slice a0 m0 c0] W (BTrue W) := by
  go_enter Try.func3, Try.ntmps3
  go_wp2_with fail
  refine (begun_any _).mono ?_
  rintro e w1 ⟨rfl, hb1⟩
  have F := Lib.hid (show BTrue W (.returned (.bool true)) w1 from ⟨rfl, hb1⟩)
  clear hb1
  go_wp2_with fail
  all_goals
    go_ret
    exact F.out

set_option maxRecDepth 100000 in
theorem treeAll_lifted (os : Os) (started : os.Started) (H : Type) (enc : TypeId × Value → H) :
    ReturnsInHanded {} Try.checked os 3 .any (Rows.treeAllSpec.pre6 enc Try.prog Try.f3 Rows.treeAllRow.domain false) (Rows.treeAllSpec.post enc Try.prog Try.f3 false true false false) := by
  refine returnsInHanded_of_change (C := Try.checked) allOwn started (by kernel_rfl) Try.func3
    (ChangeSpec.witness6 (enc := enc) (C := Try.checked) false ⟨#[], #[.slice none 0 0], []⟩ 8 (by kernel_rfl) (by kernel_rfl) (by kernel_rfl) (by kernel_rfl)) ?_
  intro W base args ds gs before hval0 hW hcnd _
  have hval : ∀ (j : Nat) t v, Try.f3.params[j]? = some t → args[j]? = some v → Value.okWide Try.prog W .any base t v := hval0
  have hW' := hW
  obtain ⟨p, q, hA0, hV, rfl, hfz, hnd⟩ := hW
  have hA : DataW.TrodAll enc Try.prog W 0 (fun _ => true) true Try.f3.params.toList args.toList ds p := hA0
  rw [Try.params3] at hA hval
  obtain ⟨v0, d0, rfl, rfl, h0⟩ := trodAll_one hA
  obtain ⟨a0, m0, c0, z0, rfl, w0, l0⟩ := open_row Try.underlying22 Try.underlying32 (by kernel_rfl) (hval 0 22 v0 rfl rfl) h0
  have walk : Calls Try.prog 3 #[.slice a0 m0 c0] W (BTrue W) := by
    by_cases hl : m0 ≤ 200
    · exact all_walk a0 m0 c0 z0 W w0 hl
    · exact all_long a0 m0 c0 W hl
  refine walk.mono fun e W' ⟨he, bel⟩ => ?_
  subst he
  exact ⟨_, rfl, law_post allLaid (t := 4) rfl Try.underlying4 rfl (by intro t ht; rw [show Try.f3.params.toList = [22] from rfl] at ht; simp at ht; rcases ht with rfl; exact ⟨by kernel_rfl, of_decide_eq_true (by kernel_rfl)⟩) hW' rfl bel.below⟩

theorem treeAll_holds : Rows.TreeAllSaid :=
  OpenClaim.holds_of_wide 3 Try.f3 rfl rfl rfl rfl rfl rfl rfl ⟨rfl, rfl, rfl, rfl, rfl⟩ rfl rfl rfl rfl rfl (by kernel_rfl) Try.func3 (by kernel_rfl)
    (of_decide_eq_true (by kernel_rfl)) (by unfold Func.isWrapper; first | (rw [if_pos (by decide +kernel)]; kernel_rfl) | (rw [if_neg (by decide +kernel)]; exact ⟨rfl, rfl⟩))
    (fun os started H enc _ => treeAll_lifted os started H enc)
#print axioms treeAll_holds
end Go.Proofs.Ytjmkfppnimengaa

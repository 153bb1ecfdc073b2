/- TreeHeight: for every input the law returns true and its arguments read as before. No conditions beyond the row's. -/
import Derived.Test.YtjmkfppnimengaaTreeHeight
namespace Go.Proofs.Ytjmkfppnimengaa
open Go.RowKit Go.Wh Go.ChangeShapes Go.WideShapes Go.ChangeAt

theorem heightOwn : ownKnob Try.prog.godebug = none := by kernel_rfl
theorem heightLaid : laidOutB Try.prog = true := by kernel_rfl

set_option maxRecDepth 100000 in
set_option maxHeartbeats 1000000 in
theorem height_long (a0 : Option Addr) (len cap : Nat) (c : Int) (W : World) (h : ¬ len ≤ 200) :
    Calls Try.prog 7 #[.slice a0 len cap, .int .u8 c] W (BTrue W) := by
  go_enter Try.func7, Try.ntmps7
  go_wp2_with fail
  refine (begun_any _).mono ?_
  rintro e w1 ⟨rfl, hb1⟩
  have F := Lib.hid (show BTrue W (.returned (.bool true)) w1 from ⟨rfl, hb1⟩)
  clear hb1
  go_wp2_with fail
  go_ret
  exact F.out

set_option maxRecDepth 100000 in
theorem treeHeight_lifted (os : Os) (started : os.Started) (H : Type) (enc : TypeId × Value → H) :
    ReturnsInHanded {} Try.checked os 7 .any (Rows.treeHeightSpec.pre6 enc Try.prog Try.f7 Rows.treeHeightRow.domain false) (Rows.treeHeightSpec.post enc Try.prog Try.f7 false true false false) := by
  refine returnsInHanded_of_change (C := Try.checked) heightOwn started (by kernel_rfl) Try.func7
    (ChangeSpec.witness6 (enc := enc) (C := Try.checked) false ⟨#[], #[.slice none 0 0, .int .u8 0], []⟩ 8 (by kernel_rfl) (by kernel_rfl) (by kernel_rfl) (by kernel_rfl)) ?_
  intro W base args ds gs before hval0 hW hcnd _
  have hval : ∀ (j : Nat) t v, Try.f7.params[j]? = some t → args[j]? = some v → Value.okWide Try.prog W .any base t v := hval0
  have hW' := hW
  obtain ⟨p, q, hA0, hV, rfl, hfz, hnd⟩ := hW
  have hA : DataW.TrodAll enc Try.prog W 0 (fun _ => true) true Try.f7.params.toList args.toList ds p := hA0
  rw [Try.params7] at hA hval
  obtain ⟨v0, v1, d0, d1, p0, p1, rfl, rfl, rfl, h0, h1⟩ := trodAll_two hA
  obtain ⟨a0, len0, cap0, z0, rfl, w0, l0⟩ := open_row Try.underlying22 Try.underlying32 (by kernel_rfl) (hval 0 22 v0 rfl rfl) h0
  obtain ⟨c, rfl, rfl, rfl, w1⟩ := open_int Try.underlying5 (hval 1 5 v1 rfl rfl) h1
  have walk : Calls Try.prog 7 #[.slice a0 len0 cap0, .int .u8 c] W (BTrue W) := by
    by_cases hl : len0 ≤ 200
    · exact height_walk a0 len0 cap0 z0 c W w0 hl (byte_wf w1)
    · exact height_long a0 len0 cap0 c W hl
  refine walk.mono fun e W' ⟨he, bel⟩ => ?_
  subst he
  exact ⟨_, rfl, law_post heightLaid (t := 4) rfl Try.underlying4 rfl (by intro t ht; rw [show Try.f7.params.toList = [22, 5] from rfl] at ht; simp at ht; rcases ht with rfl | rfl <;> exact ⟨by kernel_rfl, of_decide_eq_true (by kernel_rfl)⟩) hW' rfl bel.below⟩

theorem treeHeight_holds : Rows.TreeHeightSaid :=
  OpenClaim.holds_of_wide 7 Try.f7 rfl rfl rfl rfl rfl rfl rfl ⟨rfl, rfl, rfl, rfl, rfl⟩ rfl rfl rfl rfl rfl (by kernel_rfl) Try.func7 (by kernel_rfl)
    (of_decide_eq_true (by kernel_rfl)) (by unfold Func.isWrapper; first | (rw [if_pos (by decide +kernel)]; kernel_rfl) | (rw [if_neg (by decide +kernel)]; exact ⟨rfl, rfl⟩))
    (fun os started H enc _ => treeHeight_lifted os started H enc)
#print axioms treeHeight_holds
end Go.Proofs.Ytjmkfppnimengaa

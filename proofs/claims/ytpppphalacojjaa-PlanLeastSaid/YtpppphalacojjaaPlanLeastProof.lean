/- PlanLeast: for every input the law returns true and its arguments read as before. No conditions beyond the row's. -/
import Derived.Test.YtpppphalacojjaaPlanLeast
namespace Go.Proofs.Ytpppphalacojjaa
open Go.RowKit Go.Wh Go.ChangeShapes Go.WideShapes Go.ChangeAt

theorem leastOwn : ownKnob Try.prog.godebug = none := by kernel_rfl
theorem leastLaid : laidOutB Try.prog = true := by kernel_rfl

set_option maxRecDepth 100000 in
set_option maxHeartbeats 1000000 in
theorem planLeast_long (a0 : Option Addr) (len cap : Nat) (turn free : Int) (W : World) (h : ¬ len ≤ 12) :
    Calls Try.prog 6 #[.slice a0 len cap, .int .u8 turn, .int .u8 free] W (BTrue W) := by
  go_enter Try.func6, Try.ntmps6
  go_wp2_with fail
  refine (begun_any _).mono ?_
  rintro e w1 ⟨rfl, hb1⟩
  have F := Lib.hid (show BTrue W (.returned (.bool true)) w1 from ⟨rfl, hb1⟩)
  clear hb1
  go_wp2_with fail
  go_ret
  exact F.out

set_option maxRecDepth 100000 in
theorem planLeast_lifted (os : Os) (started : os.Started) (H : Type) (enc : TypeId × Value → H) :
    ReturnsInHanded {} Try.checked os 6 .any (Rows.planLeastSpec.pre6 enc Try.prog Try.f6 Rows.planLeastRow.domain false) (Rows.planLeastSpec.post enc Try.prog Try.f6 false true false false) := by
  refine returnsInHanded_of_change (C := Try.checked) leastOwn started (by kernel_rfl) Try.func6
    (ChangeSpec.witness6 (enc := enc) (C := Try.checked) false ⟨#[], #[.slice none 0 0, .int .u8 0, .int .u8 0], []⟩ 8 (by kernel_rfl) (by kernel_rfl) (by kernel_rfl) (by kernel_rfl)) ?_
  intro W base args ds gs before hval0 hW hcnd _
  have hval : ∀ (j : Nat) t v, Try.f6.params[j]? = some t → args[j]? = some v → Value.okWide Try.prog W .any base t v := hval0
  have hW' := hW
  obtain ⟨p, q, hA0, hV, rfl, hfz, hnd⟩ := hW
  have hA : DataW.TrodAll enc Try.prog W 0 (fun _ => true) true Try.f6.params.toList args.toList ds p := hA0
  rw [Try.params6] at hA hval
  obtain ⟨v0, v1, v2, d0, d1, d2, p0, p1, p2, rfl, rfl, rfl, h0, h1, h2⟩ := trodAll_three hA
  obtain ⟨a0, len0, cap0, z0, rfl, w0, l0⟩ := open_row Try.underlying29 Try.underlying5 (by kernel_rfl) (hval 0 29 v0 rfl rfl) h0
  obtain ⟨pg, rfl, rfl, rfl, w1⟩ := open_int Try.underlying5 (hval 1 5 v1 rfl rfl) h1
  obtain ⟨cl, rfl, rfl, rfl, w2⟩ := open_int Try.underlying5 (hval 2 5 v2 rfl rfl) h2
  have walk : Calls Try.prog 6 #[.slice a0 len0 cap0, .int .u8 pg, .int .u8 cl] W (BTrue W) := by
    by_cases hl : len0 ≤ 12
    · exact planLeast_walk a0 len0 cap0 z0 pg cl W w0 l0 hl (byte_wf w1).1 (byte_wf w1).2 (byte_wf w2).1 (byte_wf w2).2
    · exact planLeast_long a0 len0 cap0 pg cl W hl
  refine walk.mono fun e W' ⟨he, bel⟩ => ?_
  subst he
  exact ⟨_, rfl, law_post leastLaid (t := 4) rfl Try.underlying4 rfl (by intro t ht; rw [show Try.f6.params.toList = [29, 5, 5] from rfl] at ht; simp at ht; rcases ht with rfl | rfl <;> exact ⟨by kernel_rfl, of_decide_eq_true (by kernel_rfl)⟩) hW' rfl bel⟩

theorem planLeast_holds : Rows.PlanLeastSaid :=
  OpenClaim.holds_of_wide 6 Try.f6 rfl rfl rfl rfl rfl rfl rfl ⟨rfl, rfl, rfl, rfl, rfl⟩ rfl rfl rfl rfl rfl (by kernel_rfl) Try.func6 (by kernel_rfl)
    (of_decide_eq_true (by kernel_rfl)) (by unfold Func.isWrapper; first | (rw [if_pos (by decide +kernel)]; kernel_rfl) | (rw [if_neg (by decide +kernel)]; exact ⟨rfl, rfl⟩))
    (fun os started H enc _ => planLeast_lifted os started H enc)
#print axioms planLeast_holds
end Go.Proofs.Ytpppphalacojjaa

/- PlanMoves: for every input the law returns true and its arguments read as before. No conditions beyond the row's. -/
import Derived.Test.YtpppphalacojjaaPlanMoves
namespace Go.Proofs.Ytpppphalacojjaa
open Go.RowKit Go.Wh Go.ChangeShapes Go.WideShapes Go.ChangeAt

theorem movesOwn : ownKnob Try.prog.godebug = none := by kernel_rfl
theorem movesLaid : laidOutB Try.prog = true := by kernel_rfl

set_option maxRecDepth 100000 in
set_option maxHeartbeats 1000000 in
theorem planMoves_long (a0 : Option Addr) (len cap : Nat) (W : World) (h : ¬ len ≤ 40) :
    Calls Try.prog 4 #[.slice a0 len cap] W (BTrue W) := by
  go_enter Try.func4, Try.ntmps4
  go_wp2_with fail
  refine (begun_any _).mono ?_
  rintro e w1 ⟨rfl, hb1⟩
  have F := Lib.hid (show BTrue W (.returned (.bool true)) w1 from ⟨rfl, hb1⟩)
  clear hb1
  go_wp2_with fail
  go_ret
  exact F.out

set_option maxRecDepth 100000 in
theorem planMoves_lifted (os : Os) (started : os.Started) (H : Type) (enc : TypeId × Value → H) :
    ReturnsInHanded {} Try.checked os 4 .any (Rows.planMovesSpec.pre6 enc Try.prog Try.f4 Rows.planMovesRow.domain false) (Rows.planMovesSpec.post enc Try.prog Try.f4 false true false false) := by
  refine returnsInHanded_of_change (C := Try.checked) movesOwn started (by kernel_rfl) Try.func4
    (ChangeSpec.witness6 (enc := enc) (C := Try.checked) false ⟨#[], #[.slice none 0 0], []⟩ 8 (by kernel_rfl) (by kernel_rfl) (by kernel_rfl) (by kernel_rfl)) ?_
  intro W base args ds gs before hval0 hW hcnd _
  have hval : ∀ (j : Nat) t v, Try.f4.params[j]? = some t → args[j]? = some v → Value.okWide Try.prog W .any base t v := hval0
  have hW' := hW
  obtain ⟨p, q, hA0, hV, rfl, hfz, hnd⟩ := hW
  have hA : DataW.TrodAll enc Try.prog W 0 (fun _ => true) true Try.f4.params.toList args.toList ds p := hA0
  rw [Try.params4] at hA hval
  obtain ⟨v0, d0, rfl, rfl, h0⟩ := trodAll_one hA
  obtain ⟨a0, len0, cap0, z0, rfl, w0, l0⟩ := open_row Try.underlying29 Try.underlying5 (by kernel_rfl) (hval 0 29 v0 rfl rfl) h0
  have walk : Calls Try.prog 4 #[.slice a0 len0 cap0] W (BTrue W) := by
    by_cases hl : len0 ≤ 40
    · exact planMoves_walk a0 len0 cap0 z0 W w0 hl
    · exact planMoves_long a0 len0 cap0 W hl
  refine walk.mono fun e W' ⟨he, bel⟩ => ?_
  subst he
  exact ⟨_, rfl, law_post movesLaid (t := 4) rfl Try.underlying4 rfl (by intro t ht; rw [show Try.f4.params.toList = [29] from rfl] at ht; simp at ht; subst ht; exact ⟨by kernel_rfl, of_decide_eq_true (by kernel_rfl)⟩) hW' rfl bel⟩

theorem planMoves_holds : Rows.PlanMovesSaid :=
  OpenClaim.holds_of_wide 4 Try.f4 rfl rfl rfl rfl rfl rfl rfl ⟨rfl, rfl, rfl, rfl, rfl⟩ rfl rfl rfl rfl rfl (by kernel_rfl) Try.func4 (by kernel_rfl)
    (of_decide_eq_true (by kernel_rfl)) (by unfold Func.isWrapper; first | (rw [if_pos (by decide +kernel)]; kernel_rfl) | (rw [if_neg (by decide +kernel)]; exact ⟨rfl, rfl⟩))
    (fun os started H enc _ => planMoves_lifted os started H enc)
#print axioms planMoves_holds
end Go.Proofs.Ytpppphalacojjaa

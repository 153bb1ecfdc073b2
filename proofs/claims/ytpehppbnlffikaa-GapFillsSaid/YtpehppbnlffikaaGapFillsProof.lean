/- GapFills: for every input the law returns true and its arguments read as before. No conditions beyond the row's. -/
import Derived.Test.YtpehppbnlffikaaGapFillW
namespace Go.Proofs.Ytpehppbnlffikaa
open Go.RowKit Go.Wh Go.ChangeShapes Go.WideShapes Go.ChangeAt

theorem gapOwn2 : ownKnob Try.prog.godebug = none := by kernel_rfl

set_option maxRecDepth 100000 in
set_option maxHeartbeats 1000000 in
theorem gapFills_long (pg cl : Int) (a0 : Option Addr) (len0 cap0 : Nat) (W : World) (h : ¬ len0 ≤ 20) :
    Calls Try.prog 3 #[.int .u8 pg, .int .u8 cl, .slice a0 len0 cap0] W (LawPost W) := by
  go_enter Try.func3, Try.ntmps3
  go_wp2_with fail
  refine (begun_any _).mono ?_
  rintro e w1 ⟨rfl, hB1⟩
  have HB := Lib.hid hB1
  clear hB1
  go_wp2_with fail
  go_ret
  exact ⟨rfl, HB.out⟩

set_option maxRecDepth 100000 in
theorem gapFills_lifted (os : Os) (started : os.Started) (H : Type) (enc : TypeId × Value → H) :
    ReturnsInHanded {} Try.checked os 3 .any (Rows.gapFillsSpec.pre6 enc Try.prog Try.f3 Rows.gapFillsRow.domain false) (Rows.gapFillsSpec.post enc Try.prog Try.f3 false true false false) := by
  refine returnsInHanded_of_change (C := Try.checked) gapOwn2 started (by kernel_rfl) Try.func3
    (ChangeSpec.witness6 (enc := enc) (C := Try.checked) false ⟨#[], #[.int .u8 0, .int .u8 0, .slice none 0 0], []⟩ 8 (by kernel_rfl) (by kernel_rfl) (by kernel_rfl) (by kernel_rfl)) ?_
  intro W base args ds gs before hval0 hW hcnd _
  have hval : ∀ (j : Nat) t v, Try.f3.params[j]? = some t → args[j]? = some v → Value.okWide Try.prog W .any base t v := hval0
  have hW' := hW
  obtain ⟨p, q, hA0, hV, rfl, hfz, hnd⟩ := hW
  have hA : DataW.TrodAll enc Try.prog W 0 (fun _ => true) true Try.f3.params.toList args.toList ds p := hA0
  rw [Try.params3] at hA hval
  obtain ⟨v0, v1, v2, d0, d1, d2, p0, p1, p2, rfl, rfl, rfl, h0, h1, h2⟩ := trodAll_three hA
  obtain ⟨pg, rfl, rfl, rfl, w0⟩ := open_int Try.underlying5 (hval 0 5 v0 rfl rfl) h0
  obtain ⟨cl, rfl, rfl, rfl, w1⟩ := open_int Try.underlying5 (hval 1 5 v1 rfl rfl) h1
  obtain ⟨a0, len0, cap0, z0, rfl, w2, l0⟩ := open_row Try.underlying22 Try.underlying5 (by kernel_rfl) (hval 2 22 v2 rfl rfl) h2
  have walk : Calls Try.prog 3 #[.int .u8 pg, .int .u8 cl, .slice a0 len0 cap0] W (LawPost W) := by
    by_cases hl : len0 ≤ 20
    · exact gapFills_walk pg cl a0 len0 cap0 z0 W (byte_wf w0).1 (byte_wf w0).2 (byte_wf w1).1 (byte_wf w1).2 w2 hl
    · exact gapFills_long pg cl a0 len0 cap0 W hl
  refine walk.mono fun e W' ⟨he, bel⟩ => ?_
  subst he
  exact ⟨_, rfl, law_post gapLaid (t := 4) rfl Try.underlying4 rfl (by intro t ht; rw [show Try.f3.params.toList = [5, 5, 22] from rfl] at ht; simp at ht; rcases ht with rfl | rfl <;> exact ⟨by kernel_rfl, of_decide_eq_true (by kernel_rfl)⟩) hW' rfl bel⟩

theorem gapFills_holds : Rows.GapFillsSaid :=
  OpenClaim.holds_of_wide 3 Try.f3 rfl rfl rfl rfl rfl rfl rfl ⟨rfl, rfl, rfl, rfl, rfl⟩ rfl rfl rfl rfl rfl (by kernel_rfl) Try.func3 (by kernel_rfl)
    (of_decide_eq_true (by kernel_rfl)) (by unfold Func.isWrapper; first | (rw [if_pos (by decide +kernel)]; kernel_rfl) | (rw [if_neg (by decide +kernel)]; exact ⟨rfl, rfl⟩))
    (fun os started H enc _ => gapFills_lifted os started H enc)
#print axioms gapFills_holds
end Go.Proofs.Ytpehppbnlffikaa

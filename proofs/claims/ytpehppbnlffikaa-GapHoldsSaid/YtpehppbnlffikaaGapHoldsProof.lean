/- GapHolds: for every input the law returns true and its arguments read as before. No conditions beyond the row's. -/
import Derived.Test.YtpehppbnlffikaaGapHoldW
namespace Go.Proofs.Ytpehppbnlffikaa
open Go.RowKit Go.Wh Go.ChangeShapes Go.WideShapes Go.ChangeAt

theorem gapOwn : ownKnob Try.prog.godebug = none := by kernel_rfl

set_option maxRecDepth 100000 in
set_option maxHeartbeats 1000000 in
theorem gapHolds_long (a0 : Option Addr) (len0 cap0 : Nat) (a1 : Option Addr) (len1 cap1 : Nat) (W : World) (h : ¬ (len0 ≤ 10 ∧ len1 ≤ 10)) :
    Calls Try.prog 4 #[.slice a0 len0 cap0, .slice a1 len1 cap1] W (LawPost W) := by
  by_cases h0 : len0 ≤ 10
  · have h1 : ¬ len1 ≤ 10 := fun h1 => h ⟨h0, h1⟩
    clear h
    go_enter Try.func4, Try.ntmps4
    go_wp2_with fail
    refine (begun_any _).mono ?_
    rintro e w1 ⟨rfl, hB1⟩
    have HB := Lib.hid hB1
    clear hB1
    go_wp2_with fail
    go_ret
    exact ⟨rfl, HB.out⟩
  · clear h
    go_enter Try.func4, Try.ntmps4
    go_wp2_with fail
    refine (begun_any _).mono ?_
    rintro e w1 ⟨rfl, hB1⟩
    have HB := Lib.hid hB1
    clear hB1
    go_wp2_with fail
    go_ret
    exact ⟨rfl, HB.out⟩

set_option maxRecDepth 100000 in
theorem gapHolds_lifted (os : Os) (started : os.Started) (H : Type) (enc : TypeId × Value → H) :
    ReturnsInHanded {} Try.checked os 4 .any (Rows.gapHoldsSpec.pre6 enc Try.prog Try.f4 Rows.gapHoldsRow.domain false) (Rows.gapHoldsSpec.post enc Try.prog Try.f4 false true false false) := by
  refine returnsInHanded_of_change (C := Try.checked) gapOwn started (by kernel_rfl) Try.func4
    (ChangeSpec.witness6 (enc := enc) (C := Try.checked) false ⟨#[], #[.slice none 0 0, .slice none 0 0], []⟩ 8 (by kernel_rfl) (by kernel_rfl) (by kernel_rfl) (by kernel_rfl)) ?_
  intro W base args ds gs before hval0 hW hcnd _
  have hval : ∀ (j : Nat) t v, Try.f4.params[j]? = some t → args[j]? = some v → Value.okWide Try.prog W .any base t v := hval0
  have hW' := hW
  obtain ⟨p, q, hA0, hV, rfl, hfz, hnd⟩ := hW
  have hA : DataW.TrodAll enc Try.prog W 0 (fun _ => true) true Try.f4.params.toList args.toList ds p := hA0
  rw [Try.params4] at hA hval
  obtain ⟨v0, v1, d0, d1, p0, p1, rfl, rfl, rfl, h0, h1⟩ := trodAll_two hA
  obtain ⟨a0, len0, cap0, z0, rfl, w0, l0⟩ := open_row Try.underlying22 Try.underlying5 (by kernel_rfl) (hval 0 22 v0 rfl rfl) h0
  obtain ⟨a1, len1, cap1, z1, rfl, w1, l1⟩ := open_row Try.underlying22 Try.underlying5 (by kernel_rfl) (hval 1 22 v1 rfl rfl) h1
  have walk : Calls Try.prog 4 #[.slice a0 len0 cap0, .slice a1 len1 cap1] W (LawPost W) := by
    by_cases hl : len0 ≤ 10 ∧ len1 ≤ 10
    · exact gapHolds_walk a0 len0 cap0 z0 a1 len1 cap1 z1 W w0 w1 hl.1 hl.2
    · exact gapHolds_long a0 len0 cap0 a1 len1 cap1 W hl
  refine walk.mono fun e W' ⟨he, bel⟩ => ?_
  subst he
  exact ⟨_, rfl, law_post gapLaid (t := 4) rfl Try.underlying4 rfl (by intro t ht; rw [show Try.f4.params.toList = [22, 22] from rfl] at ht; simp at ht; subst ht; exact ⟨by kernel_rfl, of_decide_eq_true (by kernel_rfl)⟩) hW' rfl bel⟩

theorem gapHolds_holds : Rows.GapHoldsSaid :=
  OpenClaim.holds_of_wide 4 Try.f4 rfl rfl rfl rfl rfl rfl rfl ⟨rfl, rfl, rfl, rfl, rfl⟩ rfl rfl rfl rfl rfl (by kernel_rfl) Try.func4 (by kernel_rfl)
    (of_decide_eq_true (by kernel_rfl)) (by unfold Func.isWrapper; first | (rw [if_pos (by decide +kernel)]; kernel_rfl) | (rw [if_neg (by decide +kernel)]; exact ⟨rfl, rfl⟩))
    (fun os started H enc _ => gapHolds_lifted os started H enc)
#print axioms gapHolds_holds
end Go.Proofs.Ytpehppbnlffikaa

/- TrailFull: for every input the law returns true and its arguments read as before. No conditions beyond the row's. -/
import Derived.Test.YtnoepnnfnfaglaaGreatTrFull
import Derived.Test.YtnoepnnfnfaglaaGreatRow
namespace Go.Proofs.YtnoepnnfnfaglaaGreat
open Go.RowKit Go.Wh Go.ChangeShapes Go.WideShapes Go.ChangeAt

theorem fullOwn : ownKnob Tryz.prog.godebug = none := by kernel_rfl
theorem fullLaid : laidOutB Tryz.prog = true := by kernel_rfl

set_option maxRecDepth 100000 in
theorem trailFull_lifted (os : Os) (started : os.Started) (H : Type) (enc : TypeId × Value → H) :
    ReturnsInHanded {} Tryz.checked os 4 .any (Rows.trailFullSpec.pre6 enc Tryz.prog Tryz.f4 Rows.trailFullRow.domain false) (Rows.trailFullSpec.post enc Tryz.prog Tryz.f4 false true false false) := by
  refine returnsInHanded_of_change (C := Tryz.checked) fullOwn started (by kernel_rfl) Tryz.func4
    (ChangeSpec.witness6 (enc := enc) (C := Tryz.checked) false ⟨#[], #[.int .u8 0], []⟩ 8 (by kernel_rfl) (by kernel_rfl) (by kernel_rfl) (by kernel_rfl)) ?_
  intro W base args ds gs before hval0 hW hcnd _
  have hval : ∀ (j : Nat) t v, Tryz.f4.params[j]? = some t → args[j]? = some v → Value.okWide Tryz.prog W .any base t v := hval0
  have hW' := hW
  obtain ⟨p, q, hA0, hV, rfl, hfz, hnd⟩ := hW
  have hA : DataW.TrodAll enc Tryz.prog W 0 (fun _ => true) true Tryz.f4.params.toList args.toList ds p := hA0
  rw [Tryz.params4] at hA hval
  obtain ⟨v0, d0, rfl, rfl, h0⟩ := trodAll_one hA
  obtain ⟨n0, rfl, rfl, rfl, w0⟩ := open_int Tryz.underlying5 (hval 0 5 v0 rfl rfl) h0
  have walk : Calls Tryz.prog 4 #[.int .u8 n0] W (BTrue W) := by
    exact full_walk W n0 (byte_wf w0).1 (by have := (byte_wf w0).2; omega)
  refine walk.mono fun e W' ⟨he, bel⟩ => ?_
  subst he
  exact ⟨_, rfl, law_post fullLaid (t := 4) rfl Tryz.underlying4 rfl (by intro t ht; rw [show Tryz.f4.params.toList = [5] from rfl] at ht; simp at ht; rcases ht with rfl; exact ⟨by kernel_rfl, of_decide_eq_true (by kernel_rfl)⟩) hW' rfl (Only.below bel (Nat.le_refl _) fun _ _ e => e)⟩

theorem trailFull_holds : Rows.TrailFullSaid :=
  OpenClaim.holds_of_wide 4 Tryz.f4 rfl rfl rfl rfl rfl rfl rfl ⟨rfl, rfl, rfl, rfl, rfl⟩ rfl rfl rfl rfl rfl (by kernel_rfl) Tryz.func4 (by kernel_rfl)
    (of_decide_eq_true (by kernel_rfl)) (by unfold Func.isWrapper; first | (rw [if_pos (by decide +kernel)]; kernel_rfl) | (rw [if_neg (by decide +kernel)]; exact ⟨rfl, rfl⟩))
    (fun os started H enc _ => trailFull_lifted os started H enc)
#print axioms trailFull_holds
end Go.Proofs.YtnoepnnfnfaglaaGreat

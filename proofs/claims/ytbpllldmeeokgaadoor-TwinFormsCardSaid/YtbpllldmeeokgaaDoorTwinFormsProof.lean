/- TwinForms: for every input the law returns true and its arguments read as before; the card. No conditions beyond the row's. -/
import Derived.Test.YtbpllldmeeokgaaDoorTwinRow
import Derived.Test.YtbpllldmeeokgaaDoorTwinForms
import Derived.Test.YtbpllldmeeokgaaDoorCards
namespace Go.Proofs.YtbpllldmeeokgaaDoor
open Go.RowKit Go.ChangeShapes Go.WideShapes Go.ChangeAt Go.Wh
open Go.ChangeMaps (open_string)

theorem trodAll_zero' {H : Type} {enc : TypeId × Value → H} {P : Program} {W : World} {base : Nat} {f : Nat → Bool} {b : Bool} {args : Array Value} {ds : List (DataW H)} {p : List MemPlace} (h : DataW.TrodAll enc P W base f b [] args.toList ds p) : args = #[] ∧ ds = [] := by
  obtain ⟨l⟩ := args
  cases l with
  | nil => cases ds with
    | nil => exact ⟨rfl, rfl⟩
    | cons d ds => exact h.elim
  | cons v vs => cases ds with
    | nil => exact h.elim
    | cons d ds => exact h.elim

set_option maxRecDepth 100000 in
theorem twinForms_lifted (os : Os) (started : os.Started) (H : Type) (enc : TypeId × Value → H) :
    ReturnsInHanded {} Tryd.checked os 5 .any (fun w args => (Rows.twinFormsSpec.pre enc Tryd.prog Tryd.f5 Rows.twinFormsRow.domain false w args ∧ laidMetH Tryd.prog twVars w) ∧ sizedMet enc Tryd.prog Tryd.f5 (OpenSpec.ofChange Rows.twinFormsSpec) false w args)
      (Rows.twinFormsSpec.post enc Tryd.prog Tryd.f5 false true false false) := by
  refine twin_wrap (C := Tryd.checked) (X := fun w _ => laidMetH Tryd.prog twVars w) twOwn started (by kernel_rfl) Tryd.func5
    (ChangeSpec.witness_shaped (enc := enc) (C := Tryd.checked) (os := os) (X := fun w _ => laidMetH Tryd.prog twVars w) false (World.laidAll Tryd.prog os twVars) #[] 8 (World.laidAll_os _ _ _)
      (World.shaped_of_ZipB (by kernel_rfl) (by kernel_rfl)) (by kernel_rfl) (by kernel_rfl) (by kernel_rfl)
      (by rw [MakeChecks.laidMetH_plain _ _ _ (by kernel_rfl)]; exact laidMet_laidAll _ (by kernel_rfl) (by kernel_rfl))) ?_
  intro W base args ds gs before hval0 hW hsh
  have hW' := hW
  obtain ⟨p, q, hA0, hV, rfl, _, _⟩ := hW
  have hA : DataW.TrodAll enc Tryd.prog W 0 (fun _ => true) true Tryd.f5.params.toList args.toList ds p := hA0
  rw [show Tryd.f5.params.toList = [] from rfl] at hA
  obtain ⟨rfl, rfl⟩ := trodAll_zero' hA
  have walk : Calls Tryd.prog 5 #[] W (TruePost W) := twinForms_walk W (hasM_of_shaped hsh)
  refine walk.mono fun e W' ⟨he, bel, _⟩ => ?_
  subst he
  exact ⟨_, rfl, law_post twLaid (t := 4) rfl Tryd.underlying4 rfl (by intro t ht; rw [show Tryd.f5.params.toList = [] from rfl] at ht; simp at ht) hW' rfl bel⟩

theorem twinForms_row : Rows.TwinFormsSaid :=
  OpenClaim.holds_of_wide 5 Tryd.f5 rfl rfl rfl rfl rfl rfl rfl ⟨rfl, rfl, rfl, rfl, rfl⟩ rfl rfl rfl rfl rfl (by kernel_rfl) Tryd.func5 (by kernel_rfl)
    (of_decide_eq_true (by kernel_rfl)) (by unfold Func.isWrapper; first | (rw [if_pos (by decide +kernel)]; kernel_rfl) | (rw [if_neg (by decide +kernel)]; exact ⟨rfl, rfl⟩))
    (fun os started H enc _ => twinForms_lifted os started H enc)

theorem twinForms_holds : Rows.TwinFormsCardSaid :=
  Claim7.holds_tied_plain_at .later [] [.data, .pinned] true Rows.twinFormsCard.stood.harness false twinForms_row (fun _ h => by cases h) (by kernel_rfl) (fun _ h => by cases h) twinForms_row_tie rfl ⟨rfl, rfl⟩ (by kernel_rfl) rfl
    (fun f fn hf hfn => by
      obtain rfl : f = 5 := Option.some.inj ((show Tryd.prog.funcNamed "whim/whimlaw10.TwinForms" = some 5 by kernel_rfl).symm.trans hf) |>.symm
      obtain rfl : fn = Tryd.f5 := (Option.some.inj (Tryd.func5.symm.trans hfn)).symm
      exact ⟨by kernel_rfl, fun j t ht => by
        rw [show Tryd.f5.params = #[] from rfl] at ht
        simp at ht⟩)
    (by kernel_rfl)
#print axioms twinForms_holds
end Go.Proofs.YtbpllldmeeokgaaDoor

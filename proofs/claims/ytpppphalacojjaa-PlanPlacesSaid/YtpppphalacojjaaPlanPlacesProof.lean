/- PlanPlaces: the law returns true. No conditions beyond the row's. -/
import Derived.Test.YtpppphalacojjaaPlanPlaces
namespace Go.Proofs.Ytpppphalacojjaa
open Go.RowKit Go.Wh Go.ChangeShapes Go.WideShapes Go.ChangeAt

theorem planOwn : ownKnob Try.prog.godebug = none := by kernel_rfl
theorem planLaid : laidOutB Try.prog = true := by kernel_rfl

theorem trodAll_zero {H : Type} {enc : TypeId × Value → H} {P : Program} {W : World} {base : Nat} {f : Nat → Bool} {b : Bool} {args : Array Value} {ds : List (DataW H)} {p : List MemPlace} (h : DataW.TrodAll enc P W base f b [] args.toList ds p) : args = #[] ∧ ds = [] := by
  obtain ⟨l⟩ := args
  cases l with
  | nil => cases ds with
    | nil => exact ⟨rfl, rfl⟩
    | cons d ds => exact h.elim
  | cons v vs => cases ds with
    | nil => exact h.elim
    | cons d ds => exact h.elim

set_option maxRecDepth 100000 in
theorem planPlaces_lifted (os : Os) (started : os.Started) (H : Type) (enc : TypeId × Value → H) :
    ReturnsInHanded {} Try.checked os 5 .any (Rows.planPlacesSpec.pre6 enc Try.prog Try.f5 Rows.planPlacesRow.domain false) (Rows.planPlacesSpec.post enc Try.prog Try.f5 false true false false) := by
  refine returnsInHanded_of_change (C := Try.checked) planOwn started (by kernel_rfl) Try.func5
    (ChangeSpec.witness6 (enc := enc) (C := Try.checked) false ⟨#[], #[], []⟩ 8 (by kernel_rfl) (by kernel_rfl) (by kernel_rfl) (by kernel_rfl)) ?_
  intro W base args ds gs before hval0 hW hcnd _
  have hW' := hW
  obtain ⟨p, q, hA0, hV, rfl, hfz, hnd⟩ := hW
  have hA : DataW.TrodAll enc Try.prog W 0 (fun _ => true) true Try.f5.params.toList args.toList ds p := hA0
  rw [show Try.f5.params.toList = [] from rfl] at hA
  obtain ⟨rfl, rfl⟩ := trodAll_zero hA
  refine (planPlaces_walk W).mono fun e W' ⟨he, bel⟩ => ?_
  subst he
  exact ⟨_, rfl, law_post planLaid (t := 4) rfl Try.underlying4 rfl (by intro t ht; rw [show Try.f5.params.toList = [] from rfl] at ht; simp at ht) hW' rfl bel⟩

theorem planPlaces_holds : Rows.PlanPlacesSaid :=
  OpenClaim.holds_of_wide 5 Try.f5 rfl rfl rfl rfl rfl rfl rfl ⟨rfl, rfl, rfl, rfl, rfl⟩ rfl rfl rfl rfl rfl (by kernel_rfl) Try.func5 (by kernel_rfl)
    (of_decide_eq_true (by kernel_rfl)) (by unfold Func.isWrapper; first | (rw [if_pos (by decide +kernel)]; kernel_rfl) | (rw [if_neg (by decide +kernel)]; exact ⟨rfl, rfl⟩))
    (fun os started H enc _ => planPlaces_lifted os started H enc)
#print axioms planPlaces_holds
end Go.Proofs.Ytpppphalacojjaa

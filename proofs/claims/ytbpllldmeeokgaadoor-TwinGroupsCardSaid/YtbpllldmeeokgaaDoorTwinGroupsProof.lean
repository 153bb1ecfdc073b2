/- TwinGroups: for every input the law returns true and its arguments read as before; the card. No conditions beyond the row's. -/
import Derived.Test.YtbpllldmeeokgaaDoorTwinRow
import Derived.Test.YtbpllldmeeokgaaDoorTwinGroups
import Derived.Test.YtbpllldmeeokgaaDoorCards
namespace Go.Proofs.YtbpllldmeeokgaaDoor
open Go.RowKit Go.ChangeShapes Go.WideShapes Go.ChangeAt Go.Wh
open Go.ChangeMaps (open_string)

set_option maxRecDepth 100000 in
theorem twinGroups_lifted (os : Os) (started : os.Started) (H : Type) (enc : TypeId × Value → H) :
    ReturnsInHanded {} Tryd.checked os 6 .any (fun w args => (Rows.twinGroupsSpec.pre enc Tryd.prog Tryd.f6 Rows.twinGroupsRow.domain false w args ∧ laidMetH Tryd.prog twVars w) ∧ sizedMet enc Tryd.prog Tryd.f6 (OpenSpec.ofChange Rows.twinGroupsSpec) false w args)
      (Rows.twinGroupsSpec.post enc Tryd.prog Tryd.f6 false true false false) := by
  refine twin_wrap (C := Tryd.checked) (X := fun w _ => laidMetH Tryd.prog twVars w) twOwn started (by kernel_rfl) Tryd.func6
    (ChangeSpec.witness_shaped (enc := enc) (C := Tryd.checked) (os := os) (X := fun w _ => laidMetH Tryd.prog twVars w) false (World.laidAll Tryd.prog os twVars) #[.slice none 0 0, .slice none 0 0, .string ⟨#[]⟩] 8 (World.laidAll_os _ _ _)
      (World.shaped_of_ZipB (by kernel_rfl) (by kernel_rfl)) (by kernel_rfl) (by kernel_rfl) (by kernel_rfl)
      (by rw [MakeChecks.laidMetH_plain _ _ _ (by kernel_rfl)]; exact laidMet_laidAll _ (by kernel_rfl) (by kernel_rfl))) ?_
  intro W base args ds gs before hval0 hW hsh
  have hval : ∀ (j : Nat) t v, Tryd.f6.params[j]? = some t → args[j]? = some v → Value.okWide Tryd.prog W .any base t v := hval0
  have hW' := hW
  obtain ⟨p, q, hA0, hV, rfl, _, _⟩ := hW
  have hA : DataW.TrodAll enc Tryd.prog W 0 (fun _ => true) true Tryd.f6.params.toList args.toList ds p := hA0
  rw [Tryd.params6] at hA hval
  obtain ⟨v0, v1, v2, d0, d1, d2, p0, p1, p2, rfl, rfl, rfl, h0, h1, h2⟩ := trodAll_three hA
  obtain ⟨a0, n0, c0, rfl, hs0, _⟩ := open_strs Tryd.underlying29 Tryd.underlying9 (by kernel_rfl) (hval 0 29 v0 rfl rfl) h0
  obtain ⟨a1, n1, c1, rfl, hs1, m1⟩ := open_strs Tryd.underlying29 Tryd.underlying9 (by kernel_rfl) (hval 1 29 v1 rfl rfl) h1
  obtain ⟨s2, rfl, rfl, rfl, w2⟩ := open_string Tryd.underlying9 (hval 2 9 v2 rfl rfl) h2
  have walk : Calls Tryd.prog 6 #[.slice a0 n0 c0, .slice a1 n1 c1, .string s2] W (TruePost W) := by
    by_cases h : n0 ≤ 8 ∧ n0 ≤ n1 ∧ s2.size ≤ 10
    · exact twinGroups_walk a0 a1 n0 c0 n1 c1 s2 W (hasM_of_shaped hsh) hs0 hs1 h.1 h.2.1 h.2.2 m1
    · exact twinGroups_long a0 a1 n0 c0 n1 c1 s2 W (hasM_of_shaped hsh) (by omega)
  refine walk.mono fun e W' ⟨he, bel, _⟩ => ?_
  subst he
  exact ⟨_, rfl, law_post twLaid (t := 4) rfl Tryd.underlying4 rfl (by intro t ht; rw [show Tryd.f6.params.toList = [29, 29, 9] from rfl] at ht; simp at ht; rcases ht with rfl | rfl <;> exact ⟨by kernel_rfl, of_decide_eq_true (by kernel_rfl)⟩) hW' rfl bel⟩

theorem twinGroups_row : Rows.TwinGroupsSaid :=
  OpenClaim.holds_of_wide 6 Tryd.f6 rfl rfl rfl rfl rfl rfl rfl ⟨rfl, rfl, rfl, rfl, rfl⟩ rfl rfl rfl rfl rfl (by kernel_rfl) Tryd.func6 (by kernel_rfl)
    (of_decide_eq_true (by kernel_rfl)) (by unfold Func.isWrapper; first | (rw [if_pos (by decide +kernel)]; kernel_rfl) | (rw [if_neg (by decide +kernel)]; exact ⟨rfl, rfl⟩))
    (fun os started H enc _ => twinGroups_lifted os started H enc)

theorem twinGroups_holds : Rows.TwinGroupsCardSaid :=
  Claim7.holds_tied_plain_at .later [] [.data, .pinned] true Rows.twinGroupsCard.stood.harness false twinGroups_row (fun _ h => by cases h) (by kernel_rfl) (fun _ h => by cases h) twinGroups_row_tie rfl ⟨rfl, rfl⟩ (by kernel_rfl) rfl
    (fun f fn hf hfn => by
      obtain rfl : f = 6 := Option.some.inj ((show Tryd.prog.funcNamed "whim/whimlaw10.TwinGroups" = some 6 by kernel_rfl).symm.trans hf) |>.symm
      obtain rfl : fn = Tryd.f6 := (Option.some.inj (Tryd.func6.symm.trans hfn)).symm
      exact ⟨by kernel_rfl, fun j t ht => by
        rw [Tryd.params6] at ht
        have hm : t ∈ [29, 29, 9] := by simpa using Array.mem_of_getElem? ht
        have hall : ([29, 29, 9].all fun u => !Tryd.prog.wantsStandIn u) = true := by kernel_rfl
        exact (show Tryd.prog.wantsStandIn t = false by simpa using List.all_eq_true.1 hall t hm)⟩)
    (by kernel_rfl)
#print axioms twinGroups_holds
end Go.Proofs.YtbpllldmeeokgaaDoor

/- TwinOrder: for every input the law returns true and its arguments read as before; the card. No conditions beyond the row's. -/
import Derived.Test.YtbpllldmeeokgaaDoorTwinRow
import Derived.Test.YtbpllldmeeokgaaDoorTwinOrder
import Derived.Test.YtbpllldmeeokgaaDoorCards
namespace Go.Proofs.YtbpllldmeeokgaaDoor
open Go.RowKit Go.ChangeShapes Go.WideShapes Go.ChangeAt Go.Wh
open Go.ChangeMaps (open_string)

set_option maxRecDepth 100000 in
theorem twinOrder_lifted (os : Os) (started : os.Started) (H : Type) (enc : TypeId × Value → H) :
    ReturnsInHanded {} Tryd.checked os 4 .any (fun w args => (Rows.twinOrderSpec.pre enc Tryd.prog Tryd.f4 Rows.twinOrderRow.domain false w args ∧ laidMetH Tryd.prog twVars w) ∧ sizedMet enc Tryd.prog Tryd.f4 (OpenSpec.ofChange Rows.twinOrderSpec) false w args)
      (Rows.twinOrderSpec.post enc Tryd.prog Tryd.f4 false true false false) := by
  refine twin_wrap (C := Tryd.checked) (X := fun w _ => laidMetH Tryd.prog twVars w) twOwn started (by kernel_rfl) Tryd.func4
    (ChangeSpec.witness_shaped (enc := enc) (C := Tryd.checked) (os := os) (X := fun w _ => laidMetH Tryd.prog twVars w) false (World.laidAll Tryd.prog os twVars) #[.string ⟨#[]⟩, .string ⟨#[]⟩, .string ⟨#[]⟩, .string ⟨#[]⟩] 8 (World.laidAll_os _ _ _)
      (World.shaped_of_ZipB (by kernel_rfl) (by kernel_rfl)) (by kernel_rfl) (by kernel_rfl) (by kernel_rfl)
      (by rw [MakeChecks.laidMetH_plain _ _ _ (by kernel_rfl)]; exact laidMet_laidAll _ (by kernel_rfl) (by kernel_rfl))) ?_
  intro W base args ds gs before hval0 hW hsh
  have hval : ∀ (j : Nat) t v, Tryd.f4.params[j]? = some t → args[j]? = some v → Value.okWide Tryd.prog W .any base t v := hval0
  have hW' := hW
  obtain ⟨p, q, hA0, hV, rfl, _, _⟩ := hW
  have hA : DataW.TrodAll enc Tryd.prog W 0 (fun _ => true) true Tryd.f4.params.toList args.toList ds p := hA0
  rw [Tryd.params4] at hA hval
  obtain ⟨v0, v1, v2, v3, d0, d1, d2, d3, p0, p1, p2, p3, rfl, rfl, rfl, h0, h1, h2, h3⟩ := trodAll_four hA
  obtain ⟨s0, rfl, rfl, rfl, w0⟩ := open_string Tryd.underlying9 (hval 0 9 v0 rfl rfl) h0
  obtain ⟨s1, rfl, rfl, rfl, w1⟩ := open_string Tryd.underlying9 (hval 1 9 v1 rfl rfl) h1
  obtain ⟨s2, rfl, rfl, rfl, w2⟩ := open_string Tryd.underlying9 (hval 2 9 v2 rfl rfl) h2
  obtain ⟨s3, rfl, rfl, rfl, w3⟩ := open_string Tryd.underlying9 (hval 3 9 v3 rfl rfl) h3
  have walk : Calls Tryd.prog 4 #[.string s0, .string s1, .string s2, .string s3] W (TruePost W) := by
    by_cases h : s0.size ≤ 20 ∧ s1.size ≤ 20 ∧ s2.size ≤ 20 ∧ s3.size ≤ 20
    · exact twinOrder_walk s0 s1 s2 s3 W (hasM_of_shaped hsh) h.1 h.2.1 h.2.2.1 h.2.2.2
    · exact twinOrder_long s0 s1 s2 s3 W (hasM_of_shaped hsh) (by omega)
  refine walk.mono fun e W' ⟨he, bel, _⟩ => ?_
  subst he
  exact ⟨_, rfl, law_post twLaid (t := 4) rfl Tryd.underlying4 rfl (by intro t ht; rw [show Tryd.f4.params.toList = [9, 9, 9, 9] from rfl] at ht; simp at ht; subst ht; exact ⟨by kernel_rfl, of_decide_eq_true (by kernel_rfl)⟩) hW' rfl bel⟩

theorem twinOrder_row : Rows.TwinOrderSaid :=
  OpenClaim.holds_of_wide 4 Tryd.f4 rfl rfl rfl rfl rfl rfl rfl ⟨rfl, rfl, rfl, rfl, rfl⟩ rfl rfl rfl rfl rfl (by kernel_rfl) Tryd.func4 (by kernel_rfl)
    (of_decide_eq_true (by kernel_rfl)) (by unfold Func.isWrapper; first | (rw [if_pos (by decide +kernel)]; kernel_rfl) | (rw [if_neg (by decide +kernel)]; exact ⟨rfl, rfl⟩))
    (fun os started H enc _ => twinOrder_lifted os started H enc)

theorem twinOrder_holds : Rows.TwinOrderCardSaid :=
  Claim7.holds_tied_plain_at .later [] [.data, .pinned] true Rows.twinOrderCard.stood.harness false twinOrder_row (fun _ h => by cases h) (by kernel_rfl) (fun _ h => by cases h) twinOrder_row_tie rfl ⟨rfl, rfl⟩ (by kernel_rfl) rfl
    (fun f fn hf hfn => by
      obtain rfl : f = 4 := Option.some.inj ((show Tryd.prog.funcNamed "whim/whimlaw10.TwinOrder" = some 4 by kernel_rfl).symm.trans hf) |>.symm
      obtain rfl : fn = Tryd.f4 := (Option.some.inj (Tryd.func4.symm.trans hfn)).symm
      exact ⟨by kernel_rfl, fun j t ht => by
        rw [Tryd.params4] at ht
        have hm : t ∈ [9, 9, 9, 9] := by simpa using Array.mem_of_getElem? ht
        have hall : ([9, 9, 9, 9].all fun u => !Tryd.prog.wantsStandIn u) = true := by kernel_rfl
        exact (show Tryd.prog.wantsStandIn t = false by simpa using List.all_eq_true.1 hall t hm)⟩)
    (by kernel_rfl)
#print axioms twinOrder_holds
end Go.Proofs.YtbpllldmeeokgaaDoor

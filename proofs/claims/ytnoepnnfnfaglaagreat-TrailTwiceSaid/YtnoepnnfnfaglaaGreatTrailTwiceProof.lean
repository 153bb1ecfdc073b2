/- TrailTwice: for every input the law returns true and its arguments read as before. No conditions beyond the row's. -/
import Derived.Test.YtnoepnnfnfaglaaGreatTwice
import Derived.Test.YtnoepnnfnfaglaaGreatRow
namespace Go.Proofs.YtnoepnnfnfaglaaGreat
open Go.RowKit Go.Wh Go.ChangeShapes Go.WideShapes Go.ChangeAt

theorem twiceOwn : ownKnob Tryz.prog.godebug = none := by kernel_rfl
theorem twiceLaid : laidOutB Tryz.prog = true := by kernel_rfl

theorem row_sl {W : World} {a : Option Addr} {m c : Nat} {zs : List Int} (h : IsRow .u8 W a m zs) (hm : 0 < m) : Sl W (fun _ => True) 1 (.slice a m c) m (bc zs) := by
  rcases h with ⟨h, _⟩ | ⟨b, off, rfl, hb, _, _, hl, hc, _⟩
  · omega
  · refine ⟨by rw [bc_length]; omega, .inr ⟨b, off, c, rfl, fun _ => ⟨trivial, hb⟩, fun j u hj => ?_⟩⟩
    have hjl := (List.getElem?_eq_some_iff.1 hj).1
    rw [bc_length] at hjl
    rw [hc j (by omega)]
    have e : (bc zs)[j]? = some (.int .u8 (zs.getD j 0)) := by
      unfold bc
      rw [List.getElem?_map, List.getD_eq_getElem?_getD, List.getElem?_eq_getElem hjl]
      rfl
    rw [← e]
    exact hj
theorem row_byt {W : World} {a : Option Addr} {m : Nat} {zs : List Int} (h : IsRow .u8 W a m zs) : Byt zs := by
  rcases h with ⟨_, rfl⟩ | ⟨b, off, rfl, hb, _, _, hl, hc, hw⟩
  · intro z hz; cases hz
  · intro z hz
    have := byte_wf (hw z hz)
    omega
set_option maxRecDepth 100000 in
theorem trailTwice_lifted (os : Os) (started : os.Started) (H : Type) (enc : TypeId × Value → H) :
    ReturnsInHanded {} Tryz.checked os 7 .any (Rows.trailTwiceSpec.pre6 enc Tryz.prog Tryz.f7 Rows.trailTwiceRow.domain false) (Rows.trailTwiceSpec.post enc Tryz.prog Tryz.f7 false true false false) := by
  refine returnsInHanded_of_change (C := Tryz.checked) twiceOwn started (by kernel_rfl) Tryz.func7
    (ChangeSpec.witness6 (enc := enc) (C := Tryz.checked) false ⟨#[], #[.slice none 0 0], []⟩ 8 (by kernel_rfl) (by kernel_rfl) (by kernel_rfl) (by kernel_rfl)) ?_
  intro W base args ds gs before hval0 hW hcnd _
  have hval : ∀ (j : Nat) t v, Tryz.f7.params[j]? = some t → args[j]? = some v → Value.okWide Tryz.prog W .any base t v := hval0
  have hW' := hW
  obtain ⟨p, q, hA0, hV, rfl, hfz, hnd⟩ := hW
  have hA : DataW.TrodAll enc Tryz.prog W 0 (fun _ => true) true Tryz.f7.params.toList args.toList ds p := hA0
  rw [Tryz.params7] at hA hval
  obtain ⟨v0, d0, rfl, rfl, h0⟩ := trodAll_one hA
  obtain ⟨a0, m0, c0, z0, rfl, w0, l0⟩ := open_row Tryz.underlying23 Tryz.underlying5 (by kernel_rfl) (hval 0 23 v0 rfl rfl) h0
  have walk : Calls Tryz.prog 7 #[.slice a0 m0 c0] W (BTrue W) := by
    exact twice_walk W (fun _ => True) (.slice a0 m0 c0) m0 z0 ⟨a0, c0, rfl, l0, row_sl w0⟩ (row_byt w0)
  refine walk.mono fun e W' ⟨he, bel⟩ => ?_
  subst he
  exact ⟨_, rfl, law_post twiceLaid (t := 4) rfl Tryz.underlying4 rfl (by intro t ht; rw [show Tryz.f7.params.toList = [23] from rfl] at ht; simp at ht; rcases ht with rfl; exact ⟨by kernel_rfl, of_decide_eq_true (by kernel_rfl)⟩) hW' rfl (Only.below bel (Nat.le_refl _) fun _ _ e => e)⟩

theorem trailTwice_holds : Rows.TrailTwiceSaid :=
  OpenClaim.holds_of_wide 7 Tryz.f7 rfl rfl rfl rfl rfl rfl rfl ⟨rfl, rfl, rfl, rfl, rfl⟩ rfl rfl rfl rfl rfl (by kernel_rfl) Tryz.func7 (by kernel_rfl)
    (of_decide_eq_true (by kernel_rfl)) (by unfold Func.isWrapper; first | (rw [if_pos (by decide +kernel)]; kernel_rfl) | (rw [if_neg (by decide +kernel)]; exact ⟨rfl, rfl⟩))
    (fun os started H enc _ => trailTwice_lifted os started H enc)
#print axioms trailTwice_holds
end Go.Proofs.YtnoepnnfnfaglaaGreat

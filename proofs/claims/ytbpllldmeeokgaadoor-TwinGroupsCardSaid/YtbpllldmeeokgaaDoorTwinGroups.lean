/- TwinGroups: the walk. Conditions: the library's variable holds a number. -/
import Derived.Test.YtbpllldmeeokgaaDoorTwinOrder
import Derived.Test.YtbpllldmeeokgaaDoorFr
import Derived.SliceStrings
import Derived.ProofKit
namespace Go.Proofs.YtbpllldmeeokgaaDoor
open Go.RowKit Go.Wh
open Go.Lib hiding intOf

/-- Strings that came in: each can be read. -/
def Strs (W : World) (a : Option Addr) (n : Nat) : Prop := ∀ i, i < n → ∃ b off s, a = some ⟨b, off, none⟩ ∧ W.cell? ⟨b, off + i, none⟩ = some (.string s)

def GS (W w' : World) : Prop := Below W.heap.size W w' ∧ HasM w'

theorem gs_next {W w1 w2 : World} (hb : Below w1.heap.size w1 w2) (hm : HasM w2) (h : GS W w1) : GS W w2 := ⟨h.1.trans (Below.mono hb h.1.size), hm⟩

theorem pre_iff (s k c : ByteArray) : (jB c ⟨#[]⟩).size ≤ (jB s k).size ∧ (jB s k).extract 0 (jB c ⟨#[]⟩).size = jB c ⟨#[]⟩ ↔ s = c := by
  have e1 : (jB c ⟨#[]⟩).data.toList = joinL c.data.toList [] := rfl
  have e2 : (jB s k).data.toList = joinL s.data.toList k.data.toList := rfl
  constructor
  · rintro ⟨h1, h2⟩
    have h3 : joinL c.data.toList [] <+: joinL s.data.toList k.data.toList := by
      have h4 : ((jB s k).extract 0 (jB c ⟨#[]⟩).size).data.toList = (jB c ⟨#[]⟩).data.toList := by rw [h2]
      rw [extract_list, List.drop_zero, Nat.sub_zero, e1, e2] at h4
      rw [← h4]
      exact List.take_prefix _ _
    exact ba_ext ((join_front _ _ _).1 h3)
  · rintro rfl
    have h3 := (join_front s.data.toList k.data.toList s.data.toList).2 rfl
    have hl := h3.length_le
    have h1 : (jB s ⟨#[]⟩).size ≤ (jB s k).size := by
      rw [← size_list, ← size_list, e1, e2]
      exact hl
    refine ⟨h1, ba_ext ?_⟩
    rw [extract_list, List.drop_zero, Nat.sub_zero, e1, e2]
    have h5 : (jB s ⟨#[]⟩).size = (joinL s.data.toList []).length := by rw [← size_list, e1]
    rw [h5]
    exact (List.prefix_iff_eq_take.1 h3).symm

theorem ge_front (s k : ByteArray) : Op.bytesLess (jB s k).toList (jB s ⟨#[]⟩).toList = false := by
  have hn : (ByteArray.mk #[]).toList = [] := by rw [ByteArray.toList_eq]
  rw [jB_list, jB_list, bytesLess_eq, decide_eq_false_iff_not, join_lt, hn]
  rintro (h | ⟨_, h⟩)
  · exact List.lt_irrefl _ h
  · exact List.not_lt_nil _ h

set_option maxRecDepth 100000 in
set_option maxHeartbeats 4000000 in
theorem twinGroups_walk (a1 a2 : Option Addr) (n c1 n2 c2 : Nat) (sec : ByteArray) (w : World) (hm : HasM w) (hs1 : Strs w a1 n) (hs2 : Strs w a2 n2) (hn : n ≤ 8) (hn2 : n ≤ n2) (hsec : sec.size ≤ 10) (hnm : n2 ≤ maxLen) :
    Calls Tryd.prog 6 #[.slice a1 n c1, .slice a2 n2 c2, .string sec] w (TruePost w) := by
  have C1 := Lib.hid (begun_any w hm)
  have H1 := Lib.hid hs1
  have H2 := Lib.hid hs2
  unfold maxLen at hnm
  have d1 : decide ((8 : Int) < (n : Int)) = false := by simp; omega
  have d2 : decide (n2 < n) = false := by simp; omega
  have d3 : decide ((10 : Int) < (sec.size : Int)) = false := by simp; omega
  clear hm hs1 hs2
  go_enter Tryd.func6, Tryd.ntmps6
  go_wp2_with fail
  refine C1.out.mono ?_
  clear C1
  rintro e w1 ⟨rfl, hb1, hm1⟩
  have HG := Lib.hid (show GS w w1 from ⟨hb1, hm1⟩)
  clear hb1 hm1
  go_wp2_with fail
  go_loopw [7] (fun s wr => ∃ i : Nat, s = .int .i64 i ∧ i ≤ n ∧ GS w wr) (fun s _ => n - (intOf s).toNat)
  case atStart => exact ⟨0, rfl, by omega, HG.out⟩
  case round =>
    clear HG
    obtain ⟨i, rfl, hi, hg⟩ := hrel
    have HG := Lib.hid hg
    clear hg
    by_cases hlt : i < n
    · obtain ⟨b, off, s, rfl, hc0⟩ := H1.out i hlt
      obtain ⟨b2, off2, k, rfl, hd0⟩ := H2.out i (by omega)
      have HC := Lib.hid (fun w' (h : Below w.heap.size w w') => (h.cell (p := ⟨b, off + i, none⟩) (World.block_lt_of_cell? _ _ hc0)).trans hc0)
      have HD := Lib.hid (fun w' (h : Below w.heap.size w w') => (h.cell (p := ⟨b2, off2 + i, none⟩) (World.block_lt_of_cell? _ _ hd0)).trans hd0)
      clear hc0 hd0
      have hc := HC.out wr HG.out.1
      have hd := HD.out wr HG.out.1
      by_cases h10 : 10 < s.size
      · have F := Lib.hid (show TruePost w (.returned (.bool true)) wr from ⟨rfl, HG.out.1, HG.out.2⟩)
        clear HG HC HD H1 H2
        go_wp2_with fail
        go_ret
        exact F.out
      · by_cases k10 : 10 < k.size
        · have F := Lib.hid (show TruePost w (.returned (.bool true)) wr from ⟨rfl, HG.out.1, HG.out.2⟩)
          clear HG HC HD H1 H2
          go_wp2_with fail
          go_ret
          exact F.out
        · have C2 := Lib.hid (join_of s k (jB s k) wr.drew HG.out.2 (by omega) (by omega) rfl)
          go_wp2_with fail
          have a1 : (0 : Int) ≤ (i : Int) := by omega
          have a2 : (i : Int) < (n : Int) := by omega
          have a3 : (i : Int) < (n2 : Int) := by omega
          go_still_tail 8, (by kernel_rfl)
          change wpList _ _ _ _ _ wr.drew
          go_wp2_with fail
          refine C2.out.mono ?_
          clear C2
          rintro e w2 ⟨rfl, hb2, hm2⟩
          have HG2 := Lib.hid (show GS w w2 from ⟨HG.out.1.trans (Below.mono (below_undrew hb2) HG.out.1.size), hm2⟩)
          clear hb2 hm2 HG hc hd
          go_wp2_with fail
          have hpi := pre_iff s k sec
          clear a1 a2 a3
          by_cases hse : s = sec
          · subst hse
            have hge := ge_front s k
            obtain ⟨p1, p2⟩ := hpi.2 rfl
            clear hpi
            have HF := Lib.hid (fun w' (h : GS w w') => front_of s (jB s ⟨#[]⟩) w' h.2 (by omega) rfl)
            generalize jB s k = x at *
            generalize jB s ⟨#[]⟩ = f at *
            go_region_held3 (fun w' => GS w w') (first | assumption | (exact ⟨HG2.out.1.drew, HG2.out.2⟩))
              (first | (go_at_call 12; refine (HF.out _ (by assumption)).mono ?_; rintro e w9 ⟨rfl, hb9, hm9⟩; have hg9 := gs_next hb9 hm9 (by assumption)))
            have HG3 := Lib.hid (show GS w w9 from by assumption)
            clear hb9 hm9
            clear hge p1 p2 HF HG2
            have hc := HC.out _ HG3.out.1
            go_wp2_with fail
            go_roundw
            case rel => exact ⟨i + 1, by go_num, by omega, HG3.out⟩
            case measure => simp [intOf]; omega
          · have HF := Lib.hid (fun w' (h : GS w w') => front_of sec (jB sec ⟨#[]⟩) w' h.2 (by omega) rfl)
            have hsq : (s.toList == sec.toList) = false := by
              have : ¬ s.toList = sec.toList := fun e => hse (toList_inj' e)
              simpa using this
            have HPI := Lib.hid hpi
            clear hpi
            generalize jB s k = x at *
            generalize jB sec ⟨#[]⟩ = f at *
            cases hge : Op.bytesLess x.toList f.toList with
            | true =>
              clear HPI hse
              refine wp_region_held_drew (S := fun w' => GS w w') (by kernel_rfl) ⟨HG2.out.1.drew, HG2.out.2⟩ (fun hHeld => ?_)
              refine wpAnyH_take (i := 0) (v := (.string x)) (by simp only [List.getElem?_toArray, List.getElem?_cons_zero]; rfl) (by kernel_rfl) (by kernel_rfl) (by kernel_rfl) (by exact fun _ _ _ h => h) (by exact Or.inl ⟨by rfl, by intro wz _; go_simp⟩) hHeld ?_
              simp only [Act.put, List.setIfInBounds_toArray, List.set_cons_zero, List.set_cons_succ]
              refine wpAnyH_take (i := 1) (v := (.string sec)) (by simp only [List.getElem?_toArray, List.getElem?_cons_succ, List.getElem?_cons_zero]; rfl) (by kernel_rfl) (by kernel_rfl) (by kernel_rfl) (by exact fun _ _ _ h => h) (by exact Or.inl ⟨by rfl, by intro wz _; go_simp⟩) hHeld ?_
              simp only [Act.put, List.setIfInBounds_toArray, List.set_cons_zero, List.set_cons_succ]
              refine wpAnyH_ready (rs := [2]) (by kernel_rfl) (by simp) ?_
              refine AllReadyH.cons (by simp only [List.getElem?_toArray, List.getElem?_cons_succ, List.getElem?_cons_zero]; rfl) (fun K hK => ?_) AllReadyH.nil
              go_simp
              refine (HF.out _ hHeld).mono ?_
              rintro e w9 ⟨rfl, hb9, hm9⟩
              have hg9 := gs_next hb9 hm9 hHeld
              clear hHeld hb9 hm9
              go_wp2_with fail
              refine hK.out _ _ hg9 (fun hHeld => ?_)
              clear hK K hg9
              try simp only [Act.put, List.setIfInBounds_toArray, List.set_cons_zero, List.set_cons_succ]
              refine wpAnyH_take (i := 3) (v := (.bool false)) (by simp only [List.getElem?_toArray, List.getElem?_cons_succ, List.getElem?_cons_zero]; rfl) (by kernel_rfl) (by kernel_rfl) (by kernel_rfl) (by exact fun _ _ _ h => h) (by exact Or.inl ⟨by rfl, by intro wz _; go_simp⟩) hHeld ?_
              simp only [Act.put, List.setIfInBounds_toArray, List.set_cons_zero, List.set_cons_succ]
              refine wpAnyH_take (i := 4) (v := (.bool false)) (by simp only [List.getElem?_toArray, List.getElem?_cons_succ, List.getElem?_cons_zero]; rfl) (by kernel_rfl) (by kernel_rfl) (by kernel_rfl) (by exact fun _ _ _ h => h) (by exact Or.inl ⟨by rfl, by intro wz _; go_simp⟩) hHeld ?_
              simp only [Act.put, List.setIfInBounds_toArray, List.set_cons_zero, List.set_cons_succ]
              refine wpAnyH_take (i := 5) (v := undef) (by simp only [List.getElem?_toArray, List.getElem?_cons_succ, List.getElem?_cons_zero]; rfl) (by kernel_rfl) (by kernel_rfl) (by kernel_rfl) (by exact fun _ _ _ h => h) (by exact Or.inr ⟨by rfl, rfl⟩) hHeld ?_
              simp only [Act.put, List.setIfInBounds_toArray, List.set_cons_zero, List.set_cons_succ]
              refine wpAnyH_take (i := 6) (v := undef) (by simp only [List.getElem?_toArray, List.getElem?_cons_succ, List.getElem?_cons_zero]; rfl) (by kernel_rfl) (by kernel_rfl) (by kernel_rfl) (by exact fun _ _ _ h => h) (by exact Or.inr ⟨by rfl, rfl⟩) hHeld ?_
              simp only [Act.put, List.setIfInBounds_toArray, List.set_cons_zero, List.set_cons_succ]
              refine wpAnyH_take (i := 7) (v := undef) (by simp only [List.getElem?_toArray, List.getElem?_cons_succ, List.getElem?_cons_zero]; rfl) (by kernel_rfl) (by kernel_rfl) (by kernel_rfl) (by exact fun _ _ _ h => h) (by exact Or.inr ⟨by rfl, rfl⟩) hHeld ?_
              simp only [Act.put, List.setIfInBounds_toArray, List.set_cons_zero, List.set_cons_succ]
              refine wpAnyH_take (i := 8) (v := undef) (by simp only [List.getElem?_toArray, List.getElem?_cons_succ, List.getElem?_cons_zero]; rfl) (by kernel_rfl) (by kernel_rfl) (by kernel_rfl) (by exact fun _ _ _ h => h) (by exact Or.inr ⟨by rfl, rfl⟩) hHeld ?_
              simp only [Act.put, List.setIfInBounds_toArray, List.set_cons_zero, List.set_cons_succ]
              refine wpAnyH_take (i := 9) (v := undef) (by simp only [List.getElem?_toArray, List.getElem?_cons_succ, List.getElem?_cons_zero]; rfl) (by kernel_rfl) (by kernel_rfl) (by kernel_rfl) (by exact fun _ _ _ h => h) (by exact Or.inr ⟨by rfl, rfl⟩) hHeld ?_
              simp only [Act.put, List.setIfInBounds_toArray, List.set_cons_zero, List.set_cons_succ]
              refine wpAnyH_take (i := 10) (v := undef) (by simp only [List.getElem?_toArray, List.getElem?_cons_succ, List.getElem?_cons_zero]; rfl) (by kernel_rfl) (by kernel_rfl) (by kernel_rfl) (by exact fun _ _ _ h => h) (by exact Or.inr ⟨by rfl, rfl⟩) hHeld ?_
              simp only [Act.put, List.setIfInBounds_toArray, List.set_cons_zero, List.set_cons_succ]
              refine wpAnyH_take (i := 11) (v := (.bool false)) (by simp only [List.getElem?_toArray, List.getElem?_cons_succ, List.getElem?_cons_zero]; rfl) (by kernel_rfl) (by kernel_rfl) (by kernel_rfl) (by exact fun _ _ _ h => h) (by exact Or.inl ⟨by rfl, by intro wz _; go_simp⟩) hHeld ?_
              simp only [Act.put, List.setIfInBounds_toArray, List.set_cons_zero, List.set_cons_succ]
              refine wpAnyH_take (i := 12) (v := (.bool false)) (by simp only [List.getElem?_toArray, List.getElem?_cons_succ, List.getElem?_cons_zero]; rfl) (by kernel_rfl) (by kernel_rfl) (by kernel_rfl) (by exact fun _ _ _ h => h) (by exact Or.inl ⟨by rfl, by intro wz _; go_simp⟩) hHeld ?_
              simp only [Act.put, List.setIfInBounds_toArray, List.set_cons_zero, List.set_cons_succ]
              refine wpAnyH_take (i := 13) (v := undef) (by simp only [List.getElem?_toArray, List.getElem?_cons_succ, List.getElem?_cons_zero]; rfl) (by kernel_rfl) (by kernel_rfl) (by kernel_rfl) (by exact fun _ _ _ h => h) (by exact Or.inr ⟨by rfl, rfl⟩) hHeld ?_
              simp only [Act.put, List.setIfInBounds_toArray, List.set_cons_zero, List.set_cons_succ]
              refine wpAnyH_take (i := 14) (v := undef) (by simp only [List.getElem?_toArray, List.getElem?_cons_succ, List.getElem?_cons_zero]; rfl) (by kernel_rfl) (by kernel_rfl) (by kernel_rfl) (by exact fun _ _ _ h => h) (by exact Or.inr ⟨by rfl, rfl⟩) hHeld ?_
              simp only [Act.put, List.setIfInBounds_toArray, List.set_cons_zero, List.set_cons_succ]
              refine wpAnyH_take (i := 15) (v := undef) (by simp only [List.getElem?_toArray, List.getElem?_cons_succ, List.getElem?_cons_zero]; rfl) (by kernel_rfl) (by kernel_rfl) (by kernel_rfl) (by exact fun _ _ _ h => h) (by exact Or.inr ⟨by rfl, rfl⟩) hHeld ?_
              simp only [Act.put, List.setIfInBounds_toArray, List.set_cons_zero, List.set_cons_succ]
              refine wpAnyH_take (i := 16) (v := undef) (by simp only [List.getElem?_toArray, List.getElem?_cons_succ, List.getElem?_cons_zero]; rfl) (by kernel_rfl) (by kernel_rfl) (by kernel_rfl) (by exact fun _ _ _ h => h) (by exact Or.inr ⟨by rfl, rfl⟩) hHeld ?_
              simp only [Act.put, List.setIfInBounds_toArray, List.set_cons_zero, List.set_cons_succ]
              refine wpAnyH_take (i := 17) (v := undef) (by simp only [List.getElem?_toArray, List.getElem?_cons_succ, List.getElem?_cons_zero]; rfl) (by kernel_rfl) (by kernel_rfl) (by kernel_rfl) (by exact fun _ _ _ h => h) (by exact Or.inr ⟨by rfl, rfl⟩) hHeld ?_
              simp only [Act.put, List.setIfInBounds_toArray, List.set_cons_zero, List.set_cons_succ]
              refine wpAnyH_take (i := 18) (v := undef) (by simp only [List.getElem?_toArray, List.getElem?_cons_succ, List.getElem?_cons_zero]; rfl) (by kernel_rfl) (by kernel_rfl) (by kernel_rfl) (by exact fun _ _ _ h => h) (by exact Or.inr ⟨by rfl, rfl⟩) hHeld ?_
              simp only [Act.put, List.setIfInBounds_toArray, List.set_cons_zero, List.set_cons_succ]
              refine wpAnyH_take (i := 19) (v := undef) (by simp only [List.getElem?_toArray, List.getElem?_cons_succ, List.getElem?_cons_zero]; rfl) (by kernel_rfl) (by kernel_rfl) (by kernel_rfl) (by exact fun _ _ _ h => h) (by exact Or.inr ⟨by rfl, rfl⟩) hHeld ?_
              simp only [Act.put, List.setIfInBounds_toArray, List.set_cons_zero, List.set_cons_succ]
              refine wpAnyH_take (i := 20) (v := undef) (by simp only [List.getElem?_toArray, List.getElem?_cons_succ, List.getElem?_cons_zero]; rfl) (by kernel_rfl) (by kernel_rfl) (by kernel_rfl) (by exact fun _ _ _ h => h) (by exact Or.inr ⟨by rfl, rfl⟩) hHeld ?_
              simp only [Act.put, List.setIfInBounds_toArray, List.set_cons_zero, List.set_cons_succ]
              refine wpAnyH_take (i := 21) (v := (.bool false)) (by simp only [List.getElem?_toArray, List.getElem?_cons_succ, List.getElem?_cons_zero]; rfl) (by kernel_rfl) (by kernel_rfl) (by kernel_rfl) (by exact fun _ _ _ h => h) (by exact Or.inl ⟨by rfl, by intro wz _; go_simp⟩) hHeld ?_
              simp only [Act.put, List.setIfInBounds_toArray, List.set_cons_zero, List.set_cons_succ]
              refine wpAnyH_take (i := 22) (v := (.bool false)) (by simp only [List.getElem?_toArray, List.getElem?_cons_succ, List.getElem?_cons_zero]; rfl) (by kernel_rfl) (by kernel_rfl) (by kernel_rfl) (by exact fun _ _ _ h => h) (by exact Or.inl ⟨by rfl, by intro wz _; go_simp⟩) hHeld ?_
              simp only [Act.put, List.setIfInBounds_toArray, List.set_cons_zero, List.set_cons_succ]
              refine wpAnyH_done (by kernel_rfl) ?_ _
              have HG3 := Lib.hid hHeld
              clear hHeld
              clear hge HF HG2
              have hc := HC.out _ HG3.out.1
              go_wp2_with fail
              go_roundw
              case rel => exact ⟨i + 1, by go_num, by omega, HG3.out⟩
              case measure => simp [intOf]; omega
            | false =>
              by_cases hle : f.size ≤ x.size
              · have hne : ((x.extract 0 f.size).toList == f.toList) = false := by
                  have : ¬ (x.extract 0 f.size).toList = f.toList := fun e => hse (HPI.out.1 ⟨hle, toList_inj' e⟩)
                  simpa using this
                clear HPI hse
                go_region_held3 (fun w' => GS w w') (first | assumption | (exact ⟨HG2.out.1.drew, HG2.out.2⟩))
                  (first | (go_at_call 12; refine (HF.out _ (by assumption)).mono ?_; rintro e w9 ⟨rfl, hb9, hm9⟩; have hg9 := gs_next hb9 hm9 (by assumption)))
                have HG3 := Lib.hid (show GS w w9 from by assumption)
                clear hb9 hm9
                clear hge hne hle HF HG2
                have hc := HC.out _ HG3.out.1
                go_wp2_with fail
                go_roundw
                case rel => exact ⟨i + 1, by go_num, by omega, HG3.out⟩
                case measure => simp [intOf]; omega
              · clear HPI hse
                refine wp_region_held_drew (S := fun w' => GS w w') (by kernel_rfl) ⟨HG2.out.1.drew, HG2.out.2⟩ (fun hHeld => ?_)
                refine wpAnyH_take (i := 0) (v := (.string x)) (by simp only [List.getElem?_toArray, List.getElem?_cons_zero]; rfl) (by kernel_rfl) (by kernel_rfl) (by kernel_rfl) (by exact fun _ _ _ h => h) (by exact Or.inl ⟨by rfl, by intro wz _; go_simp⟩) hHeld ?_
                simp only [Act.put, List.setIfInBounds_toArray, List.set_cons_zero, List.set_cons_succ]
                refine wpAnyH_take (i := 1) (v := (.string sec)) (by simp only [List.getElem?_toArray, List.getElem?_cons_succ, List.getElem?_cons_zero]; rfl) (by kernel_rfl) (by kernel_rfl) (by kernel_rfl) (by exact fun _ _ _ h => h) (by exact Or.inl ⟨by rfl, by intro wz _; go_simp⟩) hHeld ?_
                simp only [Act.put, List.setIfInBounds_toArray, List.set_cons_zero, List.set_cons_succ]
                refine wpAnyH_ready (rs := [2]) (by kernel_rfl) (by simp) ?_
                refine AllReadyH.cons (by simp only [List.getElem?_toArray, List.getElem?_cons_succ, List.getElem?_cons_zero]; rfl) (fun K hK => ?_) AllReadyH.nil
                go_simp
                refine (HF.out _ hHeld).mono ?_
                rintro e w9 ⟨rfl, hb9, hm9⟩
                have hg9 := gs_next hb9 hm9 hHeld
                clear hHeld hb9 hm9
                go_wp2_with fail
                refine hK.out _ _ hg9 (fun hHeld => ?_)
                clear hK K hg9
                try simp only [Act.put, List.setIfInBounds_toArray, List.set_cons_zero, List.set_cons_succ]
                refine wpAnyH_take (i := 3) (v := (.bool true)) (by simp only [List.getElem?_toArray, List.getElem?_cons_succ, List.getElem?_cons_zero]; rfl) (by kernel_rfl) (by kernel_rfl) (by kernel_rfl) (by exact fun _ _ _ h => h) (by exact Or.inl ⟨by rfl, by intro wz _; go_simp⟩) hHeld ?_
                simp only [Act.put, List.setIfInBounds_toArray, List.set_cons_zero, List.set_cons_succ]
                refine wpAnyH_take (i := 4) (v := (.bool true)) (by simp only [List.getElem?_toArray, List.getElem?_cons_succ, List.getElem?_cons_zero]; rfl) (by kernel_rfl) (by kernel_rfl) (by kernel_rfl) (by exact fun _ _ _ h => h) (by exact Or.inl ⟨by rfl, by intro wz _; go_simp⟩) hHeld ?_
                simp only [Act.put, List.setIfInBounds_toArray, List.set_cons_zero, List.set_cons_succ]
                refine wpAnyH_take (i := 5) (v := (.string x)) (by simp only [List.getElem?_toArray, List.getElem?_cons_succ, List.getElem?_cons_zero]; rfl) (by kernel_rfl) (by kernel_rfl) (by kernel_rfl) (by exact fun _ _ _ h => h) (by exact Or.inl ⟨by rfl, by intro wz _; go_simp⟩) hHeld ?_
                simp only [Act.put, List.setIfInBounds_toArray, List.set_cons_zero, List.set_cons_succ]
                refine wpAnyH_take (i := 6) (v := (.int .i64 x.size)) (by simp only [List.getElem?_toArray, List.getElem?_cons_succ, List.getElem?_cons_zero]; rfl) (by kernel_rfl) (by kernel_rfl) (by kernel_rfl) (by exact fun _ _ _ h => h) (by exact Or.inl ⟨by rfl, by intro wz _; go_simp⟩) hHeld ?_
                simp only [Act.put, List.setIfInBounds_toArray, List.set_cons_zero, List.set_cons_succ]
                refine wpAnyH_take (i := 7) (v := (.string sec)) (by simp only [List.getElem?_toArray, List.getElem?_cons_succ, List.getElem?_cons_zero]; rfl) (by kernel_rfl) (by kernel_rfl) (by kernel_rfl) (by exact fun _ _ _ h => h) (by exact Or.inl ⟨by rfl, by intro wz _; go_simp⟩) hHeld ?_
                simp only [Act.put, List.setIfInBounds_toArray, List.set_cons_zero, List.set_cons_succ]
                refine wpAnyH_ready (rs := [8]) (by kernel_rfl) (by simp) ?_
                refine AllReadyH.cons (by simp only [List.getElem?_toArray, List.getElem?_cons_succ, List.getElem?_cons_zero]; rfl) (fun K hK => ?_) AllReadyH.nil
                go_simp
                refine (HF.out _ hHeld).mono ?_
                rintro e w9 ⟨rfl, hb9, hm9⟩
                have hg9 := gs_next hb9 hm9 hHeld
                clear hHeld hb9 hm9
                go_wp2_with fail
                refine hK.out _ _ hg9 (fun hHeld => ?_)
                clear hK K hg9
                try simp only [Act.put, List.setIfInBounds_toArray, List.set_cons_zero, List.set_cons_succ]
                refine wpAnyH_take (i := 9) (v := (.int .i64 f.size)) (by simp only [List.getElem?_toArray, List.getElem?_cons_succ, List.getElem?_cons_zero]; rfl) (by kernel_rfl) (by kernel_rfl) (by kernel_rfl) (by exact fun _ _ _ h => h) (by exact Or.inl ⟨by rfl, by intro wz _; go_simp⟩) hHeld ?_
                simp only [Act.put, List.setIfInBounds_toArray, List.set_cons_zero, List.set_cons_succ]
                refine wpAnyH_take (i := 10) (v := (.bool false)) (by simp only [List.getElem?_toArray, List.getElem?_cons_succ, List.getElem?_cons_zero]; rfl) (by kernel_rfl) (by kernel_rfl) (by kernel_rfl) (by exact fun _ _ _ h => h) (by exact Or.inl ⟨by rfl, by intro wz _; go_simp⟩) hHeld ?_
                simp only [Act.put, List.setIfInBounds_toArray, List.set_cons_zero, List.set_cons_succ]
                refine wpAnyH_take (i := 11) (v := (.bool false)) (by simp only [List.getElem?_toArray, List.getElem?_cons_succ, List.getElem?_cons_zero]; rfl) (by kernel_rfl) (by kernel_rfl) (by kernel_rfl) (by exact fun _ _ _ h => h) (by exact Or.inl ⟨by rfl, by intro wz _; go_simp⟩) hHeld ?_
                simp only [Act.put, List.setIfInBounds_toArray, List.set_cons_zero, List.set_cons_succ]
                refine wpAnyH_take (i := 12) (v := (.bool false)) (by simp only [List.getElem?_toArray, List.getElem?_cons_succ, List.getElem?_cons_zero]; rfl) (by kernel_rfl) (by kernel_rfl) (by kernel_rfl) (by exact fun _ _ _ h => h) (by exact Or.inl ⟨by rfl, by intro wz _; go_simp⟩) hHeld ?_
                simp only [Act.put, List.setIfInBounds_toArray, List.set_cons_zero, List.set_cons_succ]
                refine wpAnyH_take (i := 13) (v := undef) (by simp only [List.getElem?_toArray, List.getElem?_cons_succ, List.getElem?_cons_zero]; rfl) (by kernel_rfl) (by kernel_rfl) (by kernel_rfl) (by exact fun _ _ _ h => h) (by exact Or.inr ⟨by rfl, rfl⟩) hHeld ?_
                simp only [Act.put, List.setIfInBounds_toArray, List.set_cons_zero, List.set_cons_succ]
                refine wpAnyH_take (i := 14) (v := undef) (by simp only [List.getElem?_toArray, List.getElem?_cons_succ, List.getElem?_cons_zero]; rfl) (by kernel_rfl) (by kernel_rfl) (by kernel_rfl) (by exact fun _ _ _ h => h) (by exact Or.inr ⟨by rfl, rfl⟩) hHeld ?_
                simp only [Act.put, List.setIfInBounds_toArray, List.set_cons_zero, List.set_cons_succ]
                refine wpAnyH_take (i := 15) (v := undef) (by simp only [List.getElem?_toArray, List.getElem?_cons_succ, List.getElem?_cons_zero]; rfl) (by kernel_rfl) (by kernel_rfl) (by kernel_rfl) (by exact fun _ _ _ h => h) (by exact Or.inr ⟨by rfl, rfl⟩) hHeld ?_
                simp only [Act.put, List.setIfInBounds_toArray, List.set_cons_zero, List.set_cons_succ]
                refine wpAnyH_take (i := 16) (v := undef) (by simp only [List.getElem?_toArray, List.getElem?_cons_succ, List.getElem?_cons_zero]; rfl) (by kernel_rfl) (by kernel_rfl) (by kernel_rfl) (by exact fun _ _ _ h => h) (by exact Or.inr ⟨by rfl, rfl⟩) hHeld ?_
                simp only [Act.put, List.setIfInBounds_toArray, List.set_cons_zero, List.set_cons_succ]
                refine wpAnyH_take (i := 17) (v := undef) (by simp only [List.getElem?_toArray, List.getElem?_cons_succ, List.getElem?_cons_zero]; rfl) (by kernel_rfl) (by kernel_rfl) (by kernel_rfl) (by exact fun _ _ _ h => h) (by exact Or.inr ⟨by rfl, rfl⟩) hHeld ?_
                simp only [Act.put, List.setIfInBounds_toArray, List.set_cons_zero, List.set_cons_succ]
                refine wpAnyH_take (i := 18) (v := undef) (by simp only [List.getElem?_toArray, List.getElem?_cons_succ, List.getElem?_cons_zero]; rfl) (by kernel_rfl) (by kernel_rfl) (by kernel_rfl) (by exact fun _ _ _ h => h) (by exact Or.inr ⟨by rfl, rfl⟩) hHeld ?_
                simp only [Act.put, List.setIfInBounds_toArray, List.set_cons_zero, List.set_cons_succ]
                refine wpAnyH_take (i := 19) (v := undef) (by simp only [List.getElem?_toArray, List.getElem?_cons_succ, List.getElem?_cons_zero]; rfl) (by kernel_rfl) (by kernel_rfl) (by kernel_rfl) (by exact fun _ _ _ h => h) (by exact Or.inr ⟨by rfl, rfl⟩) hHeld ?_
                simp only [Act.put, List.setIfInBounds_toArray, List.set_cons_zero, List.set_cons_succ]
                refine wpAnyH_take (i := 20) (v := undef) (by simp only [List.getElem?_toArray, List.getElem?_cons_succ, List.getElem?_cons_zero]; rfl) (by kernel_rfl) (by kernel_rfl) (by kernel_rfl) (by exact fun _ _ _ h => h) (by exact Or.inr ⟨by rfl, rfl⟩) hHeld ?_
                simp only [Act.put, List.setIfInBounds_toArray, List.set_cons_zero, List.set_cons_succ]
                refine wpAnyH_take (i := 21) (v := (.bool false)) (by simp only [List.getElem?_toArray, List.getElem?_cons_succ, List.getElem?_cons_zero]; rfl) (by kernel_rfl) (by kernel_rfl) (by kernel_rfl) (by exact fun _ _ _ h => h) (by exact Or.inl ⟨by rfl, by intro wz _; go_simp⟩) hHeld ?_
                simp only [Act.put, List.setIfInBounds_toArray, List.set_cons_zero, List.set_cons_succ]
                refine wpAnyH_take (i := 22) (v := (.bool false)) (by simp only [List.getElem?_toArray, List.getElem?_cons_succ, List.getElem?_cons_zero]; rfl) (by kernel_rfl) (by kernel_rfl) (by kernel_rfl) (by exact fun _ _ _ h => h) (by exact Or.inl ⟨by rfl, by intro wz _; go_simp⟩) hHeld ?_
                simp only [Act.put, List.setIfInBounds_toArray, List.set_cons_zero, List.set_cons_succ]
                refine wpAnyH_done (by kernel_rfl) ?_ _
                have HG3 := Lib.hid hHeld
                clear hHeld
                clear hge hle HF HG2
                have hc := HC.out _ HG3.out.1
                go_wp2_with fail
                go_roundw
                case rel => exact ⟨i + 1, by go_num, by omega, HG3.out⟩
                case measure => simp [intOf]; omega
    · have F := Lib.hid (show TruePost w (.returned (.bool true)) wr from ⟨rfl, HG.out.1, HG.out.2⟩)
      clear HG H1 H2
      go_wp2_with fail
      go_ret
      exact F.out

set_option maxRecDepth 100000 in
set_option maxHeartbeats 1000000 in
theorem twinGroups_long (a1 a2 : Option Addr) (n c1 n2 c2 : Nat) (sec : ByteArray) (w : World) (hm : HasM w) (h : 8 < n ∨ n2 < n ∨ 10 < sec.size) :
    Calls Tryd.prog 6 #[.slice a1 n c1, .slice a2 n2 c2, .string sec] w (TruePost w) := by
  have C1 := Lib.hid (begun_any w hm)
  clear hm
  have h' : 8 < n ∨ (¬ 8 < n ∧ n2 < n) ∨ (¬ 8 < n ∧ ¬ n2 < n ∧ 10 < sec.size) := by omega
  clear h
  rcases h' with h | ⟨h1, h2⟩ | ⟨h1, h2, h3⟩
  all_goals
    go_enter Tryd.func6, Tryd.ntmps6
    go_wp2_with fail
    refine C1.out.mono ?_
    rintro e w1 ⟨rfl, hb1, hm1⟩
    have F := Lib.hid (show TruePost w (.returned (.bool true)) w1 from ⟨rfl, hb1, hm1⟩)
    clear C1 hb1 hm1
    go_wp2_with fail
    go_ret
    exact F.out

section
open Go.ChangeShapes Go.WideShapes
variable {H : Type} {enc : TypeId × Value → H} {P : Program}
theorem open_strs {t e : TypeId} {W : World} {base : Nat} {v : Value} {d : DataW H} {p : List MemPlace} (ht : P.underlying t = some (.slice e)) (he : P.underlying e = some .string) (hc : P.cellsOf e = 1)
    (hval : Value.okWide P W .any base t v) (h : DataW.Trod enc P W 0 (fun _ => true) true t v d p) : ∃ a n c, v = .slice a n c ∧ Strs W a n ∧ n ≤ maxLen := by
  obtain ⟨a0, len0, cap0, rfl⟩ := okWide_slice ht hval
  refine ⟨a0, len0, cap0, rfl, ?_⟩
  obtain ⟨fuel, hf⟩ := h
  rcases open_strings ht he hc hf with ⟨hcs, _⟩ | ⟨x, l, c, ss, hcs, _, hl, hmx, hz, _, hcell, _⟩
  · simp [Value.cells] at hcs
    obtain ⟨rfl, rfl, rfl⟩ := hcs
    exact ⟨fun i hi => by omega, Nat.zero_le _⟩
  · simp [Value.cells] at hcs
    obtain ⟨rfl, rfl, rfl⟩ := hcs
    simp only [if_true] at hz
    refine ⟨fun i hi => ?_, by omega⟩
    have hci := hcell i (by omega)
    obtain ⟨b, off, spot⟩ := x
    have hspot : spot = none := by
      have hc0 := hcell 0 (by omega)
      simpa [Addr.add] using World.cell?_spot hc0
    subst hspot
    rw [show (⟨b, off, none⟩ : Addr).add i = ⟨b, off + i, none⟩ from by unfold Addr.add; split <;> simp_all] at hci
    exact ⟨b, off, _, rfl, hci⟩
end
end Go.Proofs.YtbpllldmeeokgaaDoor

/- A frame. Conditions: the entry lies in memory. -/
import Derived.Test.YtojkggppcmdepaaGreatTrT
import Derived.Test.YtojkggppcmdepaaGreatTrCt
namespace Go.Proofs.YtojkggppcmdepaaGreat
open Go.RowKit Go.Wh Go.Maps

def frB (e : PE) : List Int := if e.may then frameB e else []
set_option maxHeartbeats 2000000 in
set_option maxRecDepth 100000 in
theorem frame_yes (w : World) (Q : Nat → Prop) (e : PE) (ov nv mv lv dv pv : Value) (h : EIs w Q e ov nv mv lv dv pv) (hm : e.may = true) : Calls Tryz.prog 8 #[.agg (eV e ov nv mv lv dv pv)] w (FreshPost w 1 (frameB e).length (bc (frameB e))) := by
  obtain ⟨oa, oc, na, nc, ma, mc, la, lc, da, dc, pa, pc, rfl, rfl, rfl, rfl, rfl, rfl⟩ := h.forms
  unfold eV
  have hst : ∀ ob, Still w (w.alloc ob) := fun ob => (Still.refl w).alloc ob
  have HP := Lib.hid (fun ob => put_any _ Q e _ _ _ _ _ _ (h.still (hst ob)))
  have hpe : putB e = encB e := by unfold putB; rw [if_pos hm]
  rw [hpe] at HP
  unfold eV at HP
  have HS := Lib.hid hst
  have hlen := encB_le e hm
  have hby := encB_byt e h.bo h.bn
  have HLN := Lib.hid (And.intro hlen (And.intro hby (frameB_length e)))
  have hh2 := numsB2 ((encB e).length : Int)
  have hfr : frameB e = numsB 2 [((encB e).length : Int)] ++ encB e ++ chkB (encB e) := rfl
  rw [hh2] at hfr
  have HFR := Lib.hid hfr
  generalize hbl : (encB e).length = n at *
  have HN := Lib.hid hbl
  clear h hm hst hpe hby hh2 hfr hbl
  go_enter Tryz.func8, Tryz.ntmps8
  go_wp2_with fail
  refine (HP.out _).mono ?_
  rintro en w2 ⟨bv, rfl, hbv, hb2, ho2⟩
  have hs2 : Still w w2 := (HS.out _).trans (Only.ofBelow hb2)
  obtain ⟨ba, bcp, rfl⟩ := hbv.form'
  have hn0 : ((n : Int) == 0) = false := by simp; omega
  obtain ⟨hn1, hn2⟩ := hlen
  have H2 := Lib.hid (And.intro hs2 (And.intro hbv ho2))
  clear hs2 hbv hb2 ho2 HP HS
  go_wp2_with fail
  have HCK := Lib.hid (fun ob => check_any (w2.alloc ob) (.slice ba n bcp) n (encB e) ((Vec.sl0 H2.out.2.1 (by omega)).still ((Still.refl w2).alloc ob)) HLN.out.2.1 (by omega))
  refine (HCK.out _).mono ?_
  rintro en w3 ⟨cv, rfl, hcv, hb3, ho3⟩
  have hs3 : Still w2 w3 := ((Still.refl w2).alloc _).trans (Only.ofBelow hb3)
  obtain ⟨ca, cc, rfl⟩ := hcv.form'
  have H3 := Lib.hid (And.intro hs3 (And.intro hcv (Only.ofBelow (S := fun _ => False) hb3)))
  have q1 : (n : Int) / 256 % 256 = (n : Int) / 256 := by omega
  clear hs3 hcv hb3 ho3 HCK
  go_wp2_with fail
  have HCC := Lib.hid (fun t => concat_b w3.heap.size 3 3 [(.slice (some ⟨w2.heap.size, 0, none⟩) 2 2, 2, bc [(n : Int) / 256, (n : Int) % 256]), (.slice ba n bcp, n, bc (encB e)), (.slice ca 2 cc, 2, bc (chkB (encB e)))] (w3.alloc (.cells #[.slice (some ⟨w2.heap.size, 0, none⟩) 2 2, .slice ba n bcp, .slice ca 2 cc] t)) (cellsAt_new w3 [.slice (some ⟨w2.heap.size, 0, none⟩) 2 2, .slice ba n bcp, .slice ca 2 cc] t) rfl (fun p hp => by
    have hs := (Still.refl w3).alloc (.cells #[.slice (some ⟨w2.heap.size, 0, none⟩) 2 2, .slice ba n bcp, .slice ca 2 cc] t)
    simp only [List.mem_cons, List.not_mem_nil, or_false] at hp
    rcases hp with rfl | rfl | rfl
    · exact ⟨(((cellsAt_new w2 (bc [(n : Int) / 256, (n : Int) % 256]) 5).only H3.out.2.2 fun e => e).only hs fun e => e).reads rfl, bc_one _, by simp only; omega⟩
    · exact ⟨Reads.still (Reads.still H2.out.2.1.reads H3.out.1) hs, bc_one _, by simp only; omega⟩
    · exact ⟨Reads.still H3.out.2.1.reads hs, bc_one _, by simp only; omega⟩) (by omega))
  refine (HCC.out _).mono ?_
  rintro en w4 ⟨v4, rfl, hv4, hb4, ho4⟩
  have F := Lib.hid (show FreshPost w 1 (frameB e).length (bc (frameB e)) (.returned v4) w4 from by
    have hz := H3.out.1.size
    have hz2 := H2.out.1.size
    have hz3 : (w3.alloc (.cells #[.slice (some ⟨w2.heap.size, 0, none⟩) 2 2, .slice ba n bcp, .slice ca 2 cc] 23)).heap.size = w3.heap.size + 1 := by simp
    have hs4 : Still w w4 := ((H2.out.1.trans H3.out.1).alloc _).trans (Only.ofBelow hb4)
    have hN : catN [(Value.slice (some ⟨w2.heap.size, 0, none⟩) 2 2, 2, bc [(n : Int) / 256, (n : Int) % 256]), (.slice ba n bcp, n, bc (encB e)), (.slice ca 2 cc, 2, bc (chkB (encB e)))] = (frameB e).length := by
      rw [HLN.out.2.2]
      simp [catN]
      omega
    have hX : catX [(Value.slice (some ⟨w2.heap.size, 0, none⟩) 2 2, 2, bc [(n : Int) / 256, (n : Int) % 256]), (.slice ba n bcp, n, bc (encB e)), (.slice ca 2 cc, 2, bc (chkB (encB e)))] = bc (frameB e) := by
      rw [HFR.out, q1, bc_append, bc_append, List.append_assoc]
      simp [catX]
    rw [hN, hX] at hv4
    exact ⟨_, rfl, hv4, hs4.below (Nat.le_refl _) (fun i hi e => e), fun g hg => by have := ho4 g hg; omega⟩)
  clear hv4 hb4 ho4 HCC q1
  go_wp2_with fail
  go_ret
  exact F.out
set_option maxHeartbeats 2000000 in
set_option maxRecDepth 100000 in
theorem frame_no (w : World) (Q : Nat → Prop) (e : PE) (ov nv mv lv dv pv : Value) (h : EIs w Q e ov nv mv lv dv pv) (hm : e.may = false) : Calls Tryz.prog 8 #[.agg (eV e ov nv mv lv dv pv)] w (FreshPost w 1 0 []) := by
  obtain ⟨oa, oc, na, nc, ma, mc, la, lc, da, dc, pa, pc, rfl, rfl, rfl, rfl, rfl, rfl⟩ := h.forms
  unfold eV
  have hst : ∀ ob, Still w (w.alloc ob) := fun ob => (Still.refl w).alloc ob
  have HP := Lib.hid (fun ob => put_no _ Q e _ _ _ _ _ _ (h.still (hst ob)) hm)
  unfold eV at HP
  have HS := Lib.hid hst
  clear h hm hst
  go_enter Tryz.func8, Tryz.ntmps8
  go_wp2_with fail
  refine (HP.out _).mono ?_
  rintro en w2 ⟨bv, rfl, hbv, hb2, ho2⟩
  have hs2 : Still w w2 := (HS.out _).trans (Only.ofBelow hb2)
  obtain ⟨ba, bcp, rfl⟩ := hbv.form'
  have F := Lib.hid (show FreshPost w 1 0 [] (.returned (.slice none 0 0)) w2 from ⟨_, rfl, Vec.nil _ _, hs2.below (Nat.le_refl _) (fun i hi e => e), fun g hg => by cases hg⟩)
  clear hs2 hbv hb2 ho2 HP HS
  go_wp2_with fail
  go_ret
  exact F.out
theorem frame_any (w : World) (Q : Nat → Prop) (e : PE) (ov nv mv lv dv pv : Value) (h : EIs w Q e ov nv mv lv dv pv) : Calls Tryz.prog 8 #[.agg (eV e ov nv mv lv dv pv)] w (FreshPost w 1 (frB e).length (bc (frB e))) := by
  unfold frB
  cases hm : e.may with
  | true => exact frame_yes w Q e ov nv mv lv dv pv h hm
  | false => exact frame_no w Q e ov nv mv lv dv pv h hm
end Go.Proofs.YtojkggppcmdepaaGreat

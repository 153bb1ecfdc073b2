/- The walk through the library's insertion sort over spots. Conditions: a slice that may be written. -/
import Derived.Test.YtpppphalacojjaaPlanB
import Derived.WalkSmall
namespace Go.Proofs.Ytpppphalacojjaa
open Go.RowKit Go.Wh

set_option maxRecDepth 100000 in
set_option maxHeartbeats 2000000 in
theorem isort_any (g o n cap : Nat) (A : List Spot) (m0 : Spot) (M C : List Spot) (w : World) (h : VecAt w 3 g o n cap (flat (A ++ (m0 :: M) ++ C))) (hn : n ≤ 10000) :
    Calls Try.prog 21 #[.slice (some ⟨g, o, none⟩) n cap, .int .i64 A.length, .int .i64 ((A.length + (m0 :: M).length : Nat) : Int), .func (.func 17) #[] #[]] w
      (SortPost w (.slice (some ⟨g, o, none⟩) n cap) n A (m0 :: M) C) := by
  have hlen : A.length + (m0 :: M).length ≤ n := by
    have := h.len
    rw [flat_length] at this
    simp at this
    simp
    omega
  have h0 : OutRel w g o n cap A (m0 :: M) C (A.length + 1) [m0] M w := ⟨rfl, by simp, by simp; omega, List.Perm.refl _, by simp [Sorted], by simpa using h, Only.refl _ _⟩
  have H0 := Lib.hid h0
  clear h h0
  have hcf := cf17
  have HEND := Lib.hid (fun i X Y wr (h : OutRel w g o n cap A (m0 :: M) C i X Y wr) (hi : A.length + (m0 :: M).length ≤ i) => h.done hi)
  generalize hb : A.length + (m0 :: M).length = b at hlen HEND
  have hab : A.length < b := by simp at hb; omega
  have HBE := Lib.hid hb
  clear hb
  have HA := Lib.hid (show ∀ i X Y wr, OutRel w g o n cap A (m0 :: M) C i X Y wr → i = A.length + X.length from fun _ _ _ _ h => h.at_)
  go_enter Try.func21, Try.ntmps21
  go_wp2_with fail
  go_loopw [8] (fun s wr => ∃ (i : Nat) (X Y : List Spot), s = .int .i64 i ∧ i ≤ 20000 ∧ OutRel w g o n cap A (m0 :: M) C i X Y wr) (fun s _ => b - (intOf s).toNat)
  case atStart => exact ⟨A.length + 1, [m0], M, by go_num, by omega, H0.out⟩
  case round =>
    clear H0
    obtain ⟨i, X, Y, rfl, hi, hr⟩ := hrel
    by_cases hib : i < b
    · obtain ⟨x, Y, rfl⟩ : ∃ x Y', Y = x :: Y' := by
        cases Y with
        | nil =>
          have h1 := hr.at_
          have h2 := hr.over
          have h3 := HBE.out
          simp at h2 h3
          omega
        | cons x Y => exact ⟨x, Y, rfl⟩
      have HI := Lib.hid (InRel.start hr)
      clear hr HA
      go_wp2_with fail
      obtain ⟨wo, rfl⟩ : ∃ wo : World, wo = wr := ⟨_, rfl⟩
      go_loopw [9] (fun s wr => ∃ (j : Nat) (P Q : List Spot), s = .int .i64 j ∧ j ≤ 20000 ∧ InRel w g o n cap A (m0 :: M) C i j P Q x Y wr) (fun s _ => (intOf s).toNat)
      case atStart => exact ⟨i, X, [], rfl, hi, HI.out⟩
      case round =>
        clear HI
        clear X
        obtain ⟨j, P, Q, rfl, hj, hr⟩ := hrel
        rcases List.eq_nil_or_concat P with rfl | ⟨P, y, rfl⟩
        · have hja : j = A.length := by have := hr.at_; simpa using this
          have HE := Lib.hid (hr.end_ (fun y P' h => by simp at h))
          have hd : decide ((A.length : Int) < (j : Int)) = false := by simp; omega
          clear hr HEND HBE
          subst hja
          clear hd
          have hd : decide ((A.length : Int) < (A.length : Int)) = false := by simp
          go_wp2_with fail
          go_quiet (fail)
          go_wp2_with fail
          go_roundw
          case rel => exact ⟨i + 1, _, _, by go_num, by omega, HE.out.same (below_drewN (Below.refl _ _) _)⟩
          case measure => simp [intOf]; omega
        · obtain ⟨q, hq⟩ : ∃ q, q = A.length + P.length := ⟨_, rfl⟩
          rw [List.concat_eq_append] at hr
          have hjq : j = q + 1 := by have := hr.at_; simp at this; omega
          subst hjq
          have h2 := hr.two
          rw [← hq] at h2
          have hqn : q + 1 < n := by
            have h3 := hr.vec.len
            rw [flat_length] at h3
            simp at h3
            omega
          have hqa : A.length ≤ q := by omega
          have HQ := Lib.hid hq
          clear hq
          have HR := Lib.hid hr
          clear hr HEND HBE
          have c0 := h2.c0
          have c1 := h2.c1
          have c2 := h2.c2
          have d0 := h2.d0
          have d1 := h2.d1
          have d2 := h2.d2
          have hd : decide ((A.length : Int) < (q : Int) + 1) = true := by simp; omega
          go_wp2_with fail
          have a1 : (0 : Int) ≤ (q : Int) + 1 := by omega
          have a2 : (q : Int) + 1 < (n : Int) := by omega
          have a3 : (0 : Int) ≤ (q : Int) := by omega
          have a4 : (q : Int) < (n : Int) := by omega
          have a6 : IntKind.i64.wrap (q : Int) = (q : Int) := IntWalk.i64_in _ (by omega)
          have a5 : ((q : Int) + 1).toNat = q + 1 := by omega
          go_still_tail 14, (by kernel_rfl)
          change wpList _ _ _ _ _ wr.drew
          go_wp2_with fail
          clear a1 a2 a3 a4 a5 a6 c0 c1 c2 d0 d1 d2
          have H2 := Lib.hid h2
          clear h2
          refine (less_any x y _).mono ?_
          rintro e w1 ⟨rfl, hB⟩
          have HR1 := Lib.hid (HR.out.same (below_undrew hB))
          have H21 := Lib.hid (H2.out.below (below_undrew hB))
          clear HR H2 hB
          cases hbl : bl x.key y.key with
          | false =>
            have hge : (0 : Int) ≤ cmpOf x.key y.key := by
              have := cmp_neg x.key y.key
              rw [hbl] at this
              simp at this
              omega
            generalize cmpOf x.key y.key = r at hge ⊢
            have HE := Lib.hid (HR1.out.end_ (fun z P' h => by
              have : z = y := by
                have := List.append_inj' h rfl
                simpa using this.2.symm
              rw [this]
              exact hbl))
            clear HR1 H21 hbl
            go_wp2_with fail
            go_roundw
            case rel => exact ⟨i + 1, _, _, by go_num, by omega, HE.out⟩
            case measure => simp [intOf]; omega
          | true =>
            have hlt : cmpOf x.key y.key = -1 := by simp [cmpOf, hbl]
            rw [hlt]
            have HD := Lib.hid (HR1.out.down HQ.out hbl)
            clear HR1 hlt hbl
            have c0 := H21.out.c0
            have c1 := H21.out.c1
            have c2 := H21.out.c2
            have d0 := H21.out.d0
            have d1 := H21.out.d1
            have d2 := H21.out.d2
            have e0 := H21.out.e0
            have e1 := H21.out.e1
            have e2 := H21.out.e2
            have f0 := H21.out.f0
            have f1 := H21.out.f1
            have f2 := H21.out.f2
            clear H21
            go_wp2_with fail
            have a1 : (0 : Int) ≤ (q : Int) + 1 := by omega
            have a2 : (q : Int) + 1 < (n : Int) := by omega
            have a3 : (0 : Int) ≤ (q : Int) := by omega
            have a4 : (q : Int) < (n : Int) := by omega
            have a6 : IntKind.i64.wrap (q : Int) = (q : Int) := IntWalk.i64_in _ (by omega)
            have a5 : ((q : Int) + 1).toNat = q + 1 := by omega
            go_region
            clear a1 a2 a3 a4 a5 a6
            go_wp2_with fail
            go_roundw
            case rel => exact ⟨q, _, _, by go_num, by omega, HD.out.same below_drew⟩
            case measure => simp [intOf]
    · have F := Lib.hid (HEND.out i X Y wr hr (by omega))
      clear hr HEND HA
      go_wp2_with fail
      go_end0
      exact F.out
end Go.Proofs.Ytpppphalacojjaa

/- symMerge where the second row is one spot. Conditions: a slice that may be written. -/
import Derived.Test.YtpppphalacojjaaPlanV
namespace Go.Proofs.Ytpppphalacojjaa
open Go.RowKit Go.Wh

/-- While y's place in X is looked for. -/
structure Seek (w : World) (g o n cap : Nat) (A X : List Spot) (y : Spot) (C : List Spot) (a m i j : Nat) (wr : World) : Prop where
  ai : a ≤ i
  ij : i ≤ j
  jm : j ≤ m
  lo : ∀ k s, a + k + 1 = i → X[k]? = some s → le s y
  hi : ∀ k s, a + k = j → X[k]? = some s → le y s
  vec : VecAt wr 3 g o n cap (flat (A ++ (X ++ [y]) ++ C))
  only : Only (fun k => k = g) w wr

theorem Seek.same {w : World} {g o n cap : Nat} {A X : List Spot} {y : Spot} {C : List Spot} {a m i j : Nat} {wr w1 : World} (h : Seek w g o n cap A X y C a m i j wr) (hb : Below wr.heap.size wr w1) : Seek w g o n cap A X y C a m i j w1 := by
  have hl := h.vec.len
  rw [flat_length] at hl
  simp at hl
  have h1 := h.vec.le
  exact ⟨h.ai, h.ij, h.jm, h.lo, h.hi, h.vec.block (hb.block g (h.vec.lt (by omega))), h.only.andThen (Only.ofBelow (S := fun _ => False) hb) (fun _ _ h => h.elim)⟩

theorem Seek.at {w : World} {g o n cap : Nat} {A X : List Spot} {y : Spot} {C : List Spot} {a m i j : Nat} {wr : World} (h : Seek w g o n cap A X y C a m i j wr) {c : Nat} (ha : a = A.length) (hm : m = a + X.length) (h1 : i ≤ c) (h2 : c < j) :
    ∃ s, X[c - a]? = some s ∧ At2 wr g o m c y s := by
  have hai := h.ai
  have hjm := h.jm
  have hc : c - a < X.length := by omega
  refine ⟨_, List.getElem?_eq_getElem hc, ?_⟩
  have := at2_of h.vec m c (by simp; omega) (by simp; omega)
  have e1 : (A ++ (X ++ [y]) ++ C)[c]'(by simp; omega) = X[c - a] := by
    have : (A ++ (X ++ [y]) ++ C)[c]? = X[c - a]? := by
      rw [List.append_assoc, List.getElem?_append_right (by omega), List.append_assoc, List.getElem?_append_left (by omega), show c - A.length = c - a by omega]
    rw [List.getElem?_eq_getElem (by simp; omega), List.getElem?_eq_getElem hc] at this
    exact Option.some.inj this
  have e2 : (A ++ (X ++ [y]) ++ C)[m]'(by simp; omega) = y := by
    have : (A ++ (X ++ [y]) ++ C)[m]? = some y := by
      rw [List.append_assoc, List.getElem?_append_right (by omega), List.append_assoc, List.getElem?_append_right (by omega), show m - A.length - X.length = 0 by omega]
      rfl
    rw [List.getElem?_eq_getElem (by simp; omega)] at this
    exact Option.some.inj this
  rw [e1, e2] at this
  exact this

theorem Seek.up {w : World} {g o n cap : Nat} {A X : List Spot} {y : Spot} {C : List Spot} {a m i j : Nat} {wr : World} (h : Seek w g o n cap A X y C a m i j wr) {c : Nat} {s : Spot} (h1 : i ≤ c) (h2 : c < j) (hs : X[c - a]? = some s) (hb : bl y.key s.key = false) : Seek w g o n cap A X y C a m (c + 1) j wr := by
  have hai := h.ai
  refine ⟨by omega, by omega, h.jm, fun k z hk hz => ?_, h.hi, h.vec, h.only⟩
  have : k = c - a := by omega
  subst this
  rw [hs] at hz
  injection hz with hz
  subst hz
  exact hb
theorem Seek.down {w : World} {g o n cap : Nat} {A X : List Spot} {y : Spot} {C : List Spot} {a m i j : Nat} {wr : World} (h : Seek w g o n cap A X y C a m i j wr) {c : Nat} {s : Spot} (h1 : i ≤ c) (h2 : c < j) (hs : X[c - a]? = some s) (hb : bl y.key s.key = true) : Seek w g o n cap A X y C a m i c wr := by
  have hai := h.ai
  have hjm := h.jm
  refine ⟨hai, h1, by omega, h.lo, fun k z hk hz => ?_, h.vec, h.only⟩
  have : k = c - a := by omega
  subst this
  rw [hs] at hz
  injection hz with hz
  subst hz
  exact le_of_lt hb

theorem swapL_comm (l : List Spot) (p q : Nat) (hp : p < l.length) (hq : q < l.length) (hpq : p ≠ q) : swapL l q p = swapL l p q := by
  rw [swapL_perm l q p hq hp, swapL_perm l p q hp hq, List.set_comm _ _ hpq]

/-- While y goes down. -/
structure Dn (w : World) (g o n cap : Nat) (A X : List Spot) (y : Spot) (C : List Spot) (a i k : Nat) (wr : World) : Prop where
  ai : a ≤ i
  ik : i ≤ k
  kx : k ≤ a + X.length
  vec : VecAt wr 3 g o n cap (flat (A ++ (X.take (k - a) ++ [y] ++ X.drop (k - a)) ++ C))
  only : Only (fun k => k = g) w wr

theorem Seek.toDn {w : World} {g o n cap : Nat} {A X : List Spot} {y : Spot} {C : List Spot} {a m i : Nat} {wr : World} (h : Seek w g o n cap A X y C a m i i wr) (hm : m = a + X.length) : Dn w g o n cap A X y C a i m wr :=
  ⟨h.ai, h.jm, by omega, by
    have := h.vec
    rw [show m - a = X.length by omega, List.take_length, List.drop_length, List.append_nil]
    exact this, h.only⟩

theorem Dn.step {w : World} {g o n cap : Nat} {A X : List Spot} {y : Spot} {C : List Spot} {a i k : Nat} {wr : World} (h : Dn w g o n cap A X y C a i k wr) (ha : a = A.length) (hk : i < k) {q : Nat} (hq : k = q + 1) :
    ∃ z, At2 wr g o k q y z ∧ Dn w g o n cap A X y C a i q (swapW wr g o k q y z).drew := by
  subst hq
  have hai := h.ai
  have hkx := h.kx
  have hc : q - a < X.length := by omega
  have hqa : q + 1 - a = q - a + 1 := by omega
  have e : A ++ (X.take (q + 1 - a) ++ [y] ++ X.drop (q + 1 - a)) ++ C = (A ++ X.take (q - a)) ++ [X[q - a]] ++ [] ++ [y] ++ (X.drop (q - a + 1) ++ C) := by
    rw [hqa, List.take_succ_eq_append_getElem hc]
    simp only [List.append_assoc, List.nil_append]
  have e2 := swapsL_app (A ++ X.take (q - a)) [X[q - a]] [] [y] (X.drop (q - a + 1) ++ C) rfl
  have el : (A ++ X.take (q - a)).length = q := by simp; omega
  rw [el] at e2
  have hv := h.vec
  rw [e] at hv
  have hp : q + 1 < ((A ++ X.take (q - a)) ++ [X[q - a]] ++ [] ++ [y] ++ (X.drop (q - a + 1) ++ C)).length := by simp; omega
  have hq : q < ((A ++ X.take (q - a)) ++ [X[q - a]] ++ [] ++ [y] ++ (X.drop (q - a + 1) ++ C)).length := by simp; omega
  have h1 := at2_of hv (q + 1) q hp hq
  have h2 := swapW_vec hv (q + 1) q hp hq
  have hx : ((A ++ X.take (q - a)) ++ [X[q - a]] ++ [] ++ [y] ++ (X.drop (q - a + 1) ++ C))[q + 1]'hp = y := by
    apply Option.some.inj
    rw [← List.getElem?_eq_getElem hp]
    simp only [List.append_assoc]
    rw [← List.append_assoc A, List.getElem?_append_right (by omega), el, show q + 1 - q = 1 by omega]
    rfl
  rw [hx] at h1 h2
  have hsw : swapL ((A ++ X.take (q - a)) ++ [X[q - a]] ++ [] ++ [y] ++ (X.drop (q - a + 1) ++ C)) (q + 1) q = (A ++ X.take (q - a)) ++ [y] ++ [] ++ [X[q - a]] ++ (X.drop (q - a + 1) ++ C) := by
    rw [swapL_comm _ q (q + 1) hq hp (by omega)]
    exact e2
  rw [hsw] at h2
  generalize ((A ++ X.take (q - a)) ++ [X[q - a]] ++ [] ++ [y] ++ (X.drop (q - a + 1) ++ C))[q] = z at h1 h2
  refine ⟨z, h1, ⟨hai, by omega, by omega, ?_, h.only.trans (swapW_only wr g o (q + 1) q y z).drew⟩⟩
  have e3 : A ++ (X.take (q - a) ++ [y] ++ X.drop (q - a)) ++ C = (A ++ X.take (q - a)) ++ [y] ++ [] ++ [X[q - a]] ++ (X.drop (q - a + 1) ++ C) := by
    rw [List.drop_eq_getElem_cons hc]
    simp only [List.append_assoc, List.cons_append, List.nil_append]
  rw [e3]
  exact h2.drew

theorem Dn.done {w : World} {g o n cap : Nat} {A X : List Spot} {y : Spot} {C : List Spot} {a i k : Nat} {wr : World} (h : Dn w g o n cap A X y C a i k wr) (hk : ¬ i < k) (hX : Sorted X) (h1 : ∀ q s, a + q + 1 = i → X[q]? = some s → le s y) (h2 : ∀ q s, a + q = i → X[q]? = some s → le y s) : MergePost w g o n cap A (X ++ [y]) C (.returned (.tuple #[])) wr := by
  have hki := h.ik
  have hak := h.ai
  have hkx := h.kx
  refine ⟨rfl, X.take (k - a) ++ [y] ++ X.drop (k - a), ?_, ?_, h.vec, h.only⟩
  · have : (X.take (k - a) ++ [y] ++ X.drop (k - a)).Perm (y :: (X.take (k - a) ++ X.drop (k - a))) := by
      rw [List.append_assoc]
      exact List.perm_middle
    rw [List.take_append_drop] at this
    exact this.trans (List.perm_append_singleton y X).symm
  · refine sorted_mid (by rwa [List.take_append_drop]) (fun hl => ?_) (fun hl => ?_)
    · simp at hl
      refine h1 ((X.take (k - a)).length - 1) _ (by simp; omega) ?_
      rw [List.getElem_take, List.getElem?_eq_getElem]
    · simp at hl
      refine h2 (k - a) _ (by omega) ?_
      rw [List.getElem_drop, List.getElem?_eq_getElem]
      rfl

set_option maxRecDepth 100000 in
set_option maxHeartbeats 2000000 in
theorem merge_two (g o n cap : Nat) (A X : List Spot) (y : Spot) (C : List Spot) (w : World) (h : VecAt w 3 g o n cap (flat (A ++ (X ++ [y]) ++ C))) (hX : Sorted X) (hx : 1 < X.length) (hn : n ≤ 10000) (a m b : Nat) (ha : a = A.length) (hm : m = a + X.length) (hb : b = m + 1) :
    Calls Try.prog 22 #[.slice (some ⟨g, o, none⟩) n cap, .int .i64 a, .int .i64 m, .int .i64 b, .func (.func 17) #[] #[]] w (MergePost w g o n cap A (X ++ [y]) C) := by
  have hl := h.len
  rw [flat_length] at hl
  simp at hl
  have hmn : m < n := by omega
  have H0 := Lib.hid (show Seek w g o n cap A X y C a m a m w from ⟨by omega, by omega, by omega, fun k s hk => by omega, fun k s hk hs => by
    have := (List.getElem?_eq_some_iff.1 hs).1
    omega, h, Only.refl _ _⟩)
  have HS := Lib.hid hX
  have HA := Lib.hid ha
  have HB := Lib.hid hb
  have hma : ((m : Int) - (a : Int) == 1) = false := by simp; omega
  have hbm : (b : Int) - (m : Int) = 1 := by omega
  have ham : a ≤ m := by omega
  have HM := Lib.hid hm
  clear h hX hx ha hb hl hm
  have hcf := cf17
  go_enter Try.func22, Try.ntmps22
  go_wp2_with fail
  go_loopw [14, 15] (fun si sj wr => ∃ i j : Nat, si = .int .i64 i ∧ sj = .int .i64 j ∧ Seek w g o n cap A X y C a m i j wr) (fun si sj _ => (intOf sj).toNat - (intOf si).toNat)
  case atStart => exact ⟨a, m, rfl, rfl, H0.out⟩
  case round =>
    clear H0
    obtain ⟨i, j, rfl, rfl, hr⟩ := hrel
    have hmi := hr.ai
    have hij := hr.ij
    have hjb := hr.jm
    have HR := Lib.hid hr
    clear hr
    by_cases hlt : i < j
    · obtain ⟨c, hc⟩ : ∃ c : Nat, ((i : Int) + (j : Int)) / 2 = (c : Int) := ⟨(i + j) / 2, by omega⟩
      have hc1 : i ≤ c := by omega
      have hc2 : c < j := by omega
      obtain ⟨s, hs, hat⟩ := HR.out.at HA.out HM.out hc1 hc2
      have HSS := Lib.hid hs
      have c0 := hat.c0
      have c1 := hat.c1
      have c2 := hat.c2
      have d0 := hat.d0
      have d1 := hat.d1
      have d2 := hat.d2
      clear hat hs
      go_wp2_with fail
      have a1 : (0 : Int) ≤ (c : Int) := by omega
      have a2 : (c : Int) < (n : Int) := by omega
      have a3 : (0 : Int) ≤ (m : Int) := by omega
      have a4 : (m : Int) < (n : Int) := by omega
      go_still_tail 9, (by kernel_rfl)
      change wpList _ _ _ _ _ wr.drew
      go_wp2_with fail
      clear a1 a2 a3 a4 c0 c1 c2 d0 d1 d2
      refine (less_any y s _).mono ?_
      rintro e w1 ⟨rfl, hB⟩
      have HR1 := Lib.hid (HR.out.same (below_undrew hB))
      clear HR hB
      cases hbl : bl y.key s.key with
      | true =>
        have hge : cmpOf y.key s.key = -1 := by simp [cmpOf, hbl]
        rw [hge]
        clear hge
        have HN := Lib.hid (HR1.out.down hc1 hc2 HSS.out hbl)
        clear HR1 hbl hc
        go_wp2_with fail
        go_roundw
        case rel => exact ⟨i, c, rfl, rfl, HN.out⟩
        case measure => simp [intOf]; omega
      | false =>
        have hge : ¬ (cmpOf y.key s.key < 0) := by
          have := cmp_neg y.key s.key
          rw [hbl] at this
          simpa using this
        generalize cmpOf y.key s.key = r at hge ⊢
        have hge2 : (!decide (r < 0)) = true := by simpa using hge
        have HN := Lib.hid (HR1.out.up hc1 hc2 HSS.out hbl)
        clear HR1 hbl hc
        go_wp2_with fail
        go_roundw
        case rel => exact ⟨c + 1, j, by go_num, rfl, HN.out⟩
        case measure => simp [intOf]; omega
    · have hije : i = j := by omega
      subst hije
      have HU := Lib.hid (HR.out.toDn HM.out)
      have HLO := Lib.hid HR.out.lo
      have HHI := Lib.hid HR.out.hi
      clear HR
      go_wp2_with fail
      go_loopw [17] (fun s wr => ∃ k : Nat, s = .int .i64 k ∧ Dn w g o n cap A X y C a i k wr) (fun s _ => (intOf s).toNat)
      case atStart => exact ⟨m, rfl, HU.out⟩
      case round =>
        clear HU
        obtain ⟨k, rfl, hr⟩ := hrel
        have hik := hr.ik
        have hkx := hr.kx
        have hkm : k ≤ m := by have := HM.out; omega
        clear hkx
        by_cases hk : i < k
        · obtain ⟨q, hq⟩ : ∃ q, k = q + 1 := ⟨k - 1, by omega⟩
          obtain ⟨z, hat, hn2⟩ := hr.step HA.out hk hq
          have HN := Lib.hid hn2
          clear hn2 hr
          have ep : (k : Int) - 1 = (q : Int) := by omega
          have hkq : q < k := by omega
          have hkn : k < n := by omega
          have HQ := Lib.hid hq
          clear hq
          have c0 := hat.c0
          have c1 := hat.c1
          have c2 := hat.c2
          have d0 := hat.d0
          have d1 := hat.d1
          have d2 := hat.d2
          have e0 := hat.e0
          have e1 := hat.e1
          have e2 := hat.e2
          have f0 := hat.f0
          have f1 := hat.f1
          have f2 := hat.f2
          clear hat
          go_wp2_with fail
          have a1 : (0 : Int) ≤ (k : Int) := by omega
          have a2 : (k : Int) < (n : Int) := by omega
          have a3 : (0 : Int) ≤ (q : Int) := by omega
          have a4 : (q : Int) < (n : Int) := by omega
          have a6 : IntKind.i64.wrap (k : Int) = (k : Int) := IntWalk.i64_in _ (by omega)
          have a7 : IntKind.i64.wrap (q : Int) = (q : Int) := IntWalk.i64_in _ (by omega)
          go_region
          clear a1 a2 a3 a4 a6 a7
          clear c0 c1 c2 d0 d1 d2 e0 e1 e2 f0 f1 f2
          go_wp2_with fail
          go_roundw
          case rel => exact ⟨q, rfl, HN.out⟩
          case measure => simp [intOf]; omega
        · have F := Lib.hid (hr.done hk HS.out HLO.out HHI.out)
          clear hr
          go_wp2_with fail
          go_end0
          exact F.out
end Go.Proofs.Ytpppphalacojjaa

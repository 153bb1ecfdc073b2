/- symMerge where the first row is one spot. Conditions: a slice that may be written. -/
import Derived.Test.YtpppphalacojjaaPlanU
namespace Go.Proofs.Ytpppphalacojjaa
open Go.RowKit Go.Wh

def MergePost (w : World) (g o n cap : Nat) (A M C : List Spot) (e : Ending) (w' : World) : Prop :=
  e = .returned (.tuple #[]) ∧ ∃ M', M'.Perm M ∧ Sorted M' ∧ VecAt w' 3 g o n cap (flat (A ++ M' ++ C)) ∧ Only (fun k => k = g) w w'

/-- While x's place in Y is looked for. -/
structure Find (w : World) (g o n cap : Nat) (A : List Spot) (x : Spot) (Y C : List Spot) (m b i j : Nat) (wr : World) : Prop where
  mi : m ≤ i
  ij : i ≤ j
  jb : j ≤ b
  lo : ∀ k s, m + k + 1 = i → Y[k]? = some s → le s x
  hi : ∀ k s, m + k = j → Y[k]? = some s → le x s
  vec : VecAt wr 3 g o n cap (flat (A ++ (x :: Y) ++ C))
  only : Only (fun k => k = g) w wr

theorem Find.same {w : World} {g o n cap : Nat} {A : List Spot} {x : Spot} {Y C : List Spot} {m b i j : Nat} {wr w1 : World} (h : Find w g o n cap A x Y C m b i j wr) (hb : Below wr.heap.size wr w1) : Find w g o n cap A x Y C m b i j w1 := by
  have hl := h.vec.len
  rw [flat_length] at hl
  simp at hl
  have h1 := h.vec.le
  exact ⟨h.mi, h.ij, h.jb, h.lo, h.hi, h.vec.block (hb.block g (h.vec.lt (by omega))), h.only.andThen (Only.ofBelow (S := fun _ => False) hb) (fun _ _ h => h.elim)⟩

theorem Find.at {w : World} {g o n cap : Nat} {A : List Spot} {x : Spot} {Y C : List Spot} {m b i j : Nat} {wr : World} (h : Find w g o n cap A x Y C m b i j wr) {a c : Nat} (ha : a = A.length) (hm : m = a + 1) (hb : b = m + Y.length) (h1 : i ≤ c) (h2 : c < j) :
    ∃ s, Y[c - m]? = some s ∧ At2 wr g o c a s x := by
  have hmi := h.mi
  have hjb := h.jb
  have hc : c - m < Y.length := by omega
  refine ⟨_, List.getElem?_eq_getElem hc, ?_⟩
  have := at2_of h.vec c a (by simp; omega) (by simp; omega)
  have e1 : (A ++ (x :: Y) ++ C)[c]'(by simp; omega) = Y[c - m] := by
    have : (A ++ (x :: Y) ++ C)[c]? = Y[c - m]? := by
      rw [List.append_assoc, List.getElem?_append_right (by omega), List.getElem?_append_left (by simp; omega), show c - A.length = (c - m) + 1 by omega, List.getElem?_cons_succ]
    rw [List.getElem?_eq_getElem (by simp; omega), List.getElem?_eq_getElem hc] at this
    exact Option.some.inj this
  have e2 : (A ++ (x :: Y) ++ C)[a]'(by simp; omega) = x := by
    have : (A ++ (x :: Y) ++ C)[a]? = some x := by
      rw [List.append_assoc, List.getElem?_append_right (by omega), ha, Nat.sub_self]
      rfl
    rw [List.getElem?_eq_getElem (by simp; omega)] at this
    exact Option.some.inj this
  rw [e1, e2] at this
  exact this

theorem Find.up {w : World} {g o n cap : Nat} {A : List Spot} {x : Spot} {Y C : List Spot} {m b i j : Nat} {wr : World} (h : Find w g o n cap A x Y C m b i j wr) {c : Nat} {s : Spot} (h1 : i ≤ c) (h2 : c < j) (hs : Y[c - m]? = some s) (hb : bl s.key x.key = true) : Find w g o n cap A x Y C m b (c + 1) j wr := by
  have hmi := h.mi
  refine ⟨by omega, by omega, h.jb, fun k z hk hz => ?_, h.hi, h.vec, h.only⟩
  have : k = c - m := by omega
  subst this
  rw [hs] at hz
  injection hz with hz
  subst hz
  exact le_of_lt hb
theorem Find.down {w : World} {g o n cap : Nat} {A : List Spot} {x : Spot} {Y C : List Spot} {m b i j : Nat} {wr : World} (h : Find w g o n cap A x Y C m b i j wr) {c : Nat} {s : Spot} (h1 : i ≤ c) (h2 : c < j) (hs : Y[c - m]? = some s) (hb : bl s.key x.key = false) : Find w g o n cap A x Y C m b i c wr := by
  have hmi := h.mi
  have hjb := h.jb
  refine ⟨hmi, h1, by omega, h.lo, fun k z hk hz => ?_, h.vec, h.only⟩
  have : k = c - m := by omega
  subst this
  rw [hs] at hz
  injection hz with hz
  subst hz
  exact hb

/-- While x goes up. -/
structure Up (w : World) (g o n cap : Nat) (A : List Spot) (x : Spot) (Y C : List Spot) (a i k : Nat) (wr : World) : Prop where
  ak : a ≤ k
  ki : k + 1 ≤ i
  vec : VecAt wr 3 g o n cap (flat (A ++ (Y.take (k - a) ++ [x] ++ Y.drop (k - a)) ++ C))
  only : Only (fun k => k = g) w wr

theorem Find.toUp {w : World} {g o n cap : Nat} {A : List Spot} {x : Spot} {Y C : List Spot} {m b i : Nat} {wr : World} (h : Find w g o n cap A x Y C m b i i wr) {a : Nat} (hm : m = a + 1) : Up w g o n cap A x Y C a i a wr :=
  ⟨Nat.le_refl _, by have := h.mi; omega, by have := h.vec; simpa using this, h.only⟩

theorem Up.step {w : World} {g o n cap : Nat} {A : List Spot} {x : Spot} {Y C : List Spot} {a i k : Nat} {wr : World} (h : Up w g o n cap A x Y C a i k wr) (ha : a = A.length) (hi : i ≤ a + 1 + Y.length) (hk : k + 1 < i) {q : Nat} (hq : q = k + 1) :
    ∃ z, At2 wr g o k q x z ∧ Up w g o n cap A x Y C a i (k + 1) (swapW wr g o k q x z).drew := by
  subst hq
  have hak := h.ak
  have hc : k - a < Y.length := by omega
  have e : A ++ (Y.take (k - a) ++ [x] ++ Y.drop (k - a)) ++ C = (A ++ Y.take (k - a)) ++ [x] ++ [] ++ [Y[k - a]] ++ (Y.drop (k - a + 1) ++ C) := by
    rw [List.drop_eq_getElem_cons hc]
    simp only [List.append_assoc, List.cons_append, List.nil_append]
  have e2 := swapsL_app (A ++ Y.take (k - a)) [x] [] [Y[k - a]] (Y.drop (k - a + 1) ++ C) rfl
  have el : (A ++ Y.take (k - a)).length = k := by simp; omega
  rw [el] at e2
  have hv := h.vec
  rw [e] at hv
  have hp : k < ((A ++ Y.take (k - a)) ++ [x] ++ [] ++ [Y[k - a]] ++ (Y.drop (k - a + 1) ++ C)).length := by simp; omega
  have hq : k + 1 < ((A ++ Y.take (k - a)) ++ [x] ++ [] ++ [Y[k - a]] ++ (Y.drop (k - a + 1) ++ C)).length := by simp; omega
  have h1 := at2_of hv k (k + 1) hp hq
  have h2 := swapW_vec hv k (k + 1) hp hq
  have hx : ((A ++ Y.take (k - a)) ++ [x] ++ [] ++ [Y[k - a]] ++ (Y.drop (k - a + 1) ++ C))[k]'hp = x := by
    apply Option.some.inj
    rw [← List.getElem?_eq_getElem hp]
    simp only [List.append_assoc]
    rw [← List.append_assoc A, List.getElem?_append_right (by omega), el, Nat.sub_self]
    rfl
  rw [hx] at h1 h2
  have hsw : swapL ((A ++ Y.take (k - a)) ++ [x] ++ [] ++ [Y[k - a]] ++ (Y.drop (k - a + 1) ++ C)) k (k + 1) = (A ++ Y.take (k - a)) ++ [Y[k - a]] ++ [] ++ [x] ++ (Y.drop (k - a + 1) ++ C) := e2
  rw [hsw] at h2
  generalize ((A ++ Y.take (k - a)) ++ [x] ++ [] ++ [Y[k - a]] ++ (Y.drop (k - a + 1) ++ C))[k + 1] = z at h1 h2
  refine ⟨z, h1, ⟨by omega, by omega, ?_, h.only.trans (swapW_only wr g o k (k + 1) x z).drew⟩⟩
  have e3 : A ++ (Y.take (k + 1 - a) ++ [x] ++ Y.drop (k + 1 - a)) ++ C = (A ++ Y.take (k - a)) ++ [Y[k - a]] ++ [] ++ [x] ++ (Y.drop (k - a + 1) ++ C) := by
    rw [show k + 1 - a = k - a + 1 by omega, List.take_succ_eq_append_getElem hc]
    simp
  rw [e3]
  exact h2.drew

theorem Up.done {w : World} {g o n cap : Nat} {A : List Spot} {x : Spot} {Y C : List Spot} {a i k : Nat} {wr : World} (h : Up w g o n cap A x Y C a i k wr) (hk : ¬ k + 1 < i) (hiY : i ≤ a + 1 + Y.length) (hY : Sorted Y) (h1 : ∀ q s, a + 1 + q + 1 = i → Y[q]? = some s → le s x) (h2 : ∀ q s, a + 1 + q = i → Y[q]? = some s → le x s) : MergePost w g o n cap A (x :: Y) C (.returned (.tuple #[])) wr := by
  have hki := h.ki
  have hak := h.ak
  refine ⟨rfl, Y.take (k - a) ++ [x] ++ Y.drop (k - a), ?_, ?_, h.vec, h.only⟩
  · have : (Y.take (k - a) ++ [x] ++ Y.drop (k - a)).Perm (x :: (Y.take (k - a) ++ Y.drop (k - a))) := by
      rw [List.append_assoc]
      exact List.perm_middle
    rwa [List.take_append_drop] at this
  · refine sorted_mid (by rwa [List.take_append_drop]) (fun hl => ?_) (fun hl => ?_)
    · simp at hl
      refine h1 ((Y.take (k - a)).length - 1) _ (by simp; omega) ?_
      rw [List.getElem_take, List.getElem?_eq_getElem]
    · simp at hl
      refine h2 (k - a) _ (by omega) ?_
      rw [List.getElem_drop, List.getElem?_eq_getElem]
      rfl

set_option maxRecDepth 100000 in
set_option maxHeartbeats 2000000 in
theorem merge_one (g o n cap : Nat) (A : List Spot) (x : Spot) (Y C : List Spot) (w : World) (h : VecAt w 3 g o n cap (flat (A ++ (x :: Y) ++ C))) (hY : Sorted Y) (hy : 0 < Y.length) (hn : n ≤ 10000) (a m b : Nat) (ha : a = A.length) (hm : m = a + 1) (hb : b = m + Y.length) :
    Calls Try.prog 22 #[.slice (some ⟨g, o, none⟩) n cap, .int .i64 a, .int .i64 m, .int .i64 b, .func (.func 17) #[] #[]] w (MergePost w g o n cap A (x :: Y) C) := by
  have hl := h.len
  rw [flat_length] at hl
  simp at hl
  have hbn : b ≤ n := by omega
  have H0 := Lib.hid (show Find w g o n cap A x Y C m b m b w from ⟨by omega, by omega, by omega, fun k s hk => by omega, fun k s hk hs => by
    have := (List.getElem?_eq_some_iff.1 hs).1
    omega, h, Only.refl _ _⟩)
  have HS := Lib.hid hY
  have HA := Lib.hid ha
  have HB := Lib.hid hb
  have HL := Lib.hid hl
  have hma : (m : Int) - (a : Int) = 1 := by omega
  have hmb : m ≤ b := by omega
  have HM := Lib.hid hm
  clear h hY hy ha hb hl hm
  have hcf := cf17
  go_enter Try.func22, Try.ntmps22
  go_wp2_with fail
  go_loopw [10, 11] (fun si sj wr => ∃ i j : Nat, si = .int .i64 i ∧ sj = .int .i64 j ∧ Find w g o n cap A x Y C m b i j wr) (fun si sj _ => (intOf sj).toNat - (intOf si).toNat)
  case atStart => exact ⟨m, b, rfl, rfl, H0.out⟩
  case round =>
    clear H0
    obtain ⟨i, j, rfl, rfl, hr⟩ := hrel
    have hmi := hr.mi
    have hij := hr.ij
    have hjb := hr.jb
    have HR := Lib.hid hr
    clear hr
    by_cases hlt : i < j
    · obtain ⟨c, hc⟩ : ∃ c : Nat, ((i : Int) + (j : Int)) / 2 = (c : Int) := ⟨(i + j) / 2, by omega⟩
      have hc1 : i ≤ c := by omega
      have hc2 : c < j := by omega
      obtain ⟨s, hs, hat⟩ := HR.out.at HA.out HM.out HB.out hc1 hc2
      have HSS := Lib.hid hs
      have c0 := hat.c0
      have c1 := hat.c1
      have c2 := hat.c2
      have d0 := hat.d0
      have d1 := hat.d1
      have d2 := hat.d2
      clear hat hs
      have han : a < n := by have := HM.out; omega
      go_wp2_with fail
      have a1 : (0 : Int) ≤ (c : Int) := by omega
      have a2 : (c : Int) < (n : Int) := by omega
      have a3 : (0 : Int) ≤ (a : Int) := by omega
      have a4 : (a : Int) < (n : Int) := by omega
      go_still_tail 9, (by kernel_rfl)
      change wpList _ _ _ _ _ wr.drew
      go_wp2_with fail
      clear a1 a2 a3 a4 c0 c1 c2 d0 d1 d2
      refine (less_any s x _).mono ?_
      rintro e w1 ⟨rfl, hB⟩
      have HR1 := Lib.hid (HR.out.same (below_undrew hB))
      clear HR hB
      cases hbl : bl s.key x.key with
      | false =>
        have hge : ¬ (cmpOf s.key x.key < 0) := by
          have := cmp_neg s.key x.key
          rw [hbl] at this
          simpa using this
        generalize cmpOf s.key x.key = r at hge ⊢
        have HN := Lib.hid (HR1.out.down hc1 hc2 HSS.out hbl)
        clear HR1 hbl hc
        go_wp2_with fail
        go_roundw
        case rel => exact ⟨i, c, rfl, rfl, HN.out⟩
        case measure => simp [intOf]; omega
      | true =>
        have hge : cmpOf s.key x.key < 0 := by
          have := cmp_neg s.key x.key
          rw [hbl] at this
          simpa using this
        generalize cmpOf s.key x.key = r at hge ⊢
        have HN := Lib.hid (HR1.out.up hc1 hc2 HSS.out hbl)
        clear HR1 hbl hc
        go_wp2_with fail
        go_roundw
        case rel => exact ⟨c + 1, j, by go_num, rfl, HN.out⟩
        case measure => simp [intOf]; omega
    · have hije : i = j := by omega
      subst hije
      have HU := Lib.hid (HR.out.toUp HM.out)
      have HLO := Lib.hid (show ∀ q s, a + 1 + q + 1 = i → Y[q]? = some s → le s x from fun q s hq hs => HR.out.lo q s (by have := HM.out; omega) hs)
      have HHI := Lib.hid (show ∀ q s, a + 1 + q = i → Y[q]? = some s → le x s from fun q s hq hs => HR.out.hi q s (by have := HM.out; omega) hs)
      clear HR
      go_wp2_with fail
      go_loopw [13] (fun s wr => ∃ k : Nat, s = .int .i64 k ∧ Up w g o n cap A x Y C a i k wr) (fun s _ => i - (intOf s).toNat)
      case atStart => exact ⟨a, rfl, HU.out⟩
      case round =>
        clear HU
        obtain ⟨k, rfl, hr⟩ := hrel
        have hak := hr.ak
        have hki := hr.ki
        by_cases hk : k + 1 < i
        · obtain ⟨q, hq⟩ : ∃ q, q = k + 1 := ⟨_, rfl⟩
          obtain ⟨z, hat, hn2⟩ := hr.step HA.out (by have := HM.out; have := HB.out; omega) hk hq
          have HN := Lib.hid hn2
          clear hn2 hr
          have ep : (k : Int) + 1 = (q : Int) := by omega
          have hkq : k < q := by omega
          have hqn : q < n := by omega
          clear hq
          have hki2 : (k : Int) < (i : Int) - 1 := by omega
          have c0 := hat.c0
          have c1 := hat.c1
          have c2 := hat.c2
          have d0 := hat.d0
          have d1 := hat.d1
          have d2 := hat.d2
          have e0 := hat.e0
          have e1 := hat.e1
          have e2 := hat.e2
          have f0 := hat.f0
          have f1 := hat.f1
          have f2 := hat.f2
          clear hat
          go_wp2_with fail
          have a1 : (0 : Int) ≤ (k : Int) := by omega
          have a2 : (k : Int) < (n : Int) := by omega
          have a3 : (0 : Int) ≤ (q : Int) := by omega
          have a4 : (q : Int) < (n : Int) := by omega
          have a6 : IntKind.i64.wrap (k : Int) = (k : Int) := IntWalk.i64_in _ (by omega)
          have a7 : IntKind.i64.wrap (q : Int) = (q : Int) := IntWalk.i64_in _ (by omega)
          go_region
          clear a1 a2 a3 a4 a6 a7
          clear c0 c1 c2 d0 d1 d2 e0 e1 e2 f0 f1 f2
          go_wp2_with fail
          go_roundw
          case rel => exact ⟨k + 1, by go_num, HN.out⟩
          case measure => simp [intOf]; omega
        · have F := Lib.hid (hr.done hk (by have := HM.out; have := HB.out; omega) HS.out HLO.out HHI.out)
          clear hr
          have hki2 : ¬ (k : Int) < (i : Int) - 1 := by omega
          go_wp2_with fail
          go_end0
          exact F.out
end Go.Proofs.Ytpppphalacojjaa

/- A node's size, and which child a key belongs to. Conditions: a node in memory. -/
import Derived.Test.YtjmkfppnimengaaTreeA
namespace Go.Proofs.Ytjmkfppnimengaa
open Go.RowKit Go.Wh

theorem still_drewN (w : World) (n : Nat) : Still w (w.drewN n) := (Only.refl _ w).drewN n

set_option maxHeartbeats 400000 in
theorem size_any (w : World) (r : Nat) (ks : List Key) (vs : List Rid) (cs : List Nat) (F : List Nat) (h : Raw w r ks vs cs F) :
    Calls Try.prog 31 #[ptr r] w fun e w' => e = .returned (.int .i64 ((max cs.length vs.length : Nat))) ∧ Still w w' := by
  obtain ⟨kv, vv, cv, hn, _, _, _⟩ := h
  obtain ⟨a1, k1, rfl⟩ := hn.v.form'
  obtain ⟨a2, k2, rfl⟩ := hn.c.form'
  have c1 : w.cell? ⟨r, 1, none⟩ = _ := hn.cells.cell 1
  have c2 : w.cell? ⟨r, 2, none⟩ = _ := hn.cells.cell 2
  simp only [List.getElem?_cons_succ, List.getElem?_cons_zero] at c1 c2
  generalize vs.length = n at *
  generalize cs.length = m at *
  clear hn
  unfold ptr
  go_enter Try.func31, Try.ntmps31
  go_wp2_with fail
  go_region
  go_wp2_with fail
  go_ret
  exact ⟨by rw [show ((max m n : Nat) : Int) = max (m : Int) (n : Int) by omega]; rfl, still_drewN w 1⟩

theorem takeWhile_at {α : Type} (P : α → Bool) : ∀ (t : List α) (i : Nat) (a : α), i ≤ (t.takeWhile P).length → t[i]? = some a → (P a = true ↔ i < (t.takeWhile P).length)
  | [], i, a, _, ha => by simp at ha
  | x :: t, i, a, hi, ha => by
    rw [List.takeWhile_cons] at hi ⊢
    cases hx : P x with
    | true =>
      simp only [hx, if_true, List.length_cons] at hi ⊢
      cases i with
      | zero =>
        simp at ha
        subst ha
        simp [hx]
      | succ i =>
        simp at ha
        rw [takeWhile_at P t i a (by omega) ha]
        exact Nat.succ_lt_succ_iff.symm
    | false =>
      simp [hx] at hi
      subst hi
      simp at ha
      subst ha
      simp [hx]

theorem childI_at {ks : List Key} {k a : Key} {i : Nat} (hi : i ≤ childI ks k) (ha : ks[i + 1]? = some a) : bl k a = false ↔ i < childI ks k := by
  have := takeWhile_at (fun a => !bl k a) ks.tail i a hi (by rw [List.getElem?_tail]; exact ha)
  simpa [childI] using this

theorem leq_bl (a k : Key) : (Op.bytesLess a.toList k.toList || a.toList == k.toList) = !bl k a := by
  cases h : bl k a with
  | true =>
    have h1 : Op.bytesLess a.toList k.toList = false := bl_asymm h
    have h2 : (a.toList == k.toList) = false := by
      rw [beq_eq_false_iff_ne]
      intro e
      rw [key_ext e, bl_irrefl] at h
      cases h
    rw [h1, h2]; rfl
  | false =>
    cases h1 : bl a k with
    | true =>
      have h2 : Op.bytesLess a.toList k.toList = true := h1
      rw [h2]; rfl
    | false =>
      rw [bl_total h1 h]
      simp

set_option maxHeartbeats 1000000 in
set_option maxRecDepth 100000 in
theorem child_any (w : World) (r : Nat) (ks : List Key) (vs : List Rid) (cs : List Nat) (F : List Nat) (k : Key) (h : Raw w r ks vs cs F) (hkc : ks.length = cs.length) (hne : 0 < cs.length) (h2 : cs.length ≤ 10000) :
    Calls Try.prog 29 #[ptr r, .string k] w fun e w' => e = .returned (.int .i64 (childI ks k)) ∧ w' = w := by
  obtain ⟨kv, vv, cv, hn, _, _, _⟩ := h
  obtain ⟨g, o, cap, rfl, hv⟩ := hn.k.form (by omega)
  obtain ⟨a2, k2, rfl⟩ := hn.c.form'
  have c0 : w.cell? ⟨r, 0, none⟩ = _ := hn.cells.cell 0
  have c2 : w.cell? ⟨r, 2, none⟩ = _ := hn.cells.cell 2
  simp only [List.getElem?_cons_succ, List.getElem?_cons_zero] at c0 c2
  rw [hkc] at c0
  have HC := Lib.hid (fun (j : Nat) (hj : j < ks.length) => show ∃ a, ks[j]? = some a ∧ w.cell? ⟨g, o + j, none⟩ = some (.string a) from
    ⟨_, List.getElem?_eq_getElem hj, by rw [hv.cells j (by omega)]; exact kcells_get (List.getElem?_eq_getElem hj)⟩)
  have hlt := childI_lt (ks := ks) (fun e => by rw [e] at hkc; simp at hkc; omega) k
  obtain ⟨p, hp⟩ : ∃ p, childI ks k = p := ⟨_, rfl⟩
  have hat := fun (i : Nat) (a : Key) => childI_at (ks := ks) (k := k) (a := a) (i := i)
  rw [hp] at hlt ⊢
  simp only [hp] at hat
  have HA := Lib.hid hat
  have HKC := Lib.hid hkc
  rw [hkc] at hlt
  generalize cs.length = n at *
  clear hn hv hat hp hkc
  unfold ptr
  go_enter Try.func29, Try.ntmps29
  go_wp2_with fail
  go_loopw [5] (fun s wr => ∃ i : Nat, s = .int .i64 i ∧ i ≤ p ∧ wr = w) (fun s _ => p - (intOf s).toNat)
  case atStart => exact ⟨0, rfl, Nat.zero_le _, rfl⟩
  case round =>
    obtain ⟨i, rfl, hip, rfl⟩ := hrel
    by_cases hin : i + 1 < n
    · obtain ⟨a, ha, hcell⟩ := HC.out (i + 1) (by rw [HKC.out]; exact hin)
      have hA := HA.out i a hip ha
      have t1 : decide ((i : Int) + 1 < (n : Int)) = true := by simp; omega
      have t2 := leq_bl a k
      have b1 : ((i : Int) + 1).toNat = i + 1 := by omega
      have b2 : (0 : Int) ≤ (i : Int) + 1 := by omega
      have b3 : (i : Int) + 1 < (n : Int) := by omega
      clear ha
      cases hb : bl k a with
      | false =>
        have hlt' := hA.1 hb
        rw [hb] at t2
        clear hb hA
        go_wp2_with fail
        go_roundw
        case rel => exact ⟨i + 1, by go_num, by omega, trivial⟩
        case measure => simp [intOf]; omega
      | true =>
        have hge : i = p := by
          rcases Nat.lt_or_ge i p with h1 | h1
          · rw [hA.2 h1] at hb; cases hb
          · omega
        rw [hb] at t2
        clear hb hA
        subst hge
        go_wp2_with fail
        go_ret
        exact ⟨rfl, rfl⟩
    · have hge : i = p := by omega
      subst hge
      have t1 : decide ((i : Int) + 1 < (n : Int)) = false := by simp; omega
      go_wp2_with fail
      go_ret
      exact ⟨rfl, rfl⟩
end Go.Proofs.Ytjmkfppnimengaa

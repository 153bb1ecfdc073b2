/- Search in a sorted row of keys. Conditions: a row that can be read, sorted. -/
import Derived.Test.YtjmkfppnimengaaRows
import Derived.Test.YtjmkfppnimengaaTreeN
import Derived.WalkKit
import Derived.WalkSpells
import Derived.WalkLawsBesides
import Derived.Deep.QuietTactic
import Derived.BigQuiet
import Derived.StillTailTactics
import Derived.Lib.Hide
namespace Go.Proofs.Ytjmkfppnimengaa
open Go.RowKit Go.Wh

theorem snan_any (a : Key) (w : World) : Calls Try.prog 44 #[.string a] w fun e w' => e = .returned (.bool false) ∧ w' = w := by
  go_enter Try.func44, Try.ntmps44
  go_wp2_with fail
  go_ret
  exact ⟨by simp, rfl⟩

theorem cnan_any (a : Key) (w : World) : Calls Try.prog 55 #[.string a] w fun e w' => e = .returned (.bool false) ∧ w' = w := by
  go_enter Try.func55, Try.ntmps55
  go_wp2_with fail
  go_ret
  exact ⟨by simp, rfl⟩

theorem less_any (a b : Key) (w : World) : Calls Try.prog 43 #[.string a, .string b] w fun e w' => e = .returned (.bool (bl a b)) ∧ w' = w := by
  go_enter Try.func43, Try.ntmps43
  go_wp2_with fail
  refine (cnan_any a w).mono ?_
  rintro e w' ⟨rfl, rfl⟩
  go_wp2_with fail
  go_ret
  exact ⟨rfl, rfl⟩


theorem hasK_false_end {l : List Key} {k : Key} (h : pos l k = l.length) : hasK l k = false := by
  unfold hasK
  rw [h]
  simp
theorem hasK_of_get {l : List Key} {k a : Key} (h : l[pos l k]? = some a) : hasK l k = decide (a = k) := by
  unfold hasK
  rw [h]
  simp

set_option maxHeartbeats 1000000 in
set_option maxRecDepth 100000 in
theorem search_any (v : Value) (n : Nat) (l : List Key) (k : Key) (w : World) (h : Vec w 1 v n (kcells l)) (hs : KS l) (hn : n ≤ 10000) :
    Calls Try.prog 30 #[v, .string k] w fun e w' => e = .returned (.tuple #[.int .i64 (pos l k), .bool (hasK l k)]) ∧ w' = w := by
  have hl : l.length = n := by
    have := h.len
    simpa [kcells] using this
  obtain ⟨p, hp⟩ : ∃ p, pos l k = p := ⟨_, rfl⟩
  have hpn : p ≤ n := by rw [← hp, ← hl]; exact pos_le l k
  rw [hp]
  have HC : ∀ j, j < n → ∃ a g o c x, v = .slice (some ⟨g, o, none⟩) n c ∧ l[j]? = some a ∧ w.cell? ⟨g, o + j, x⟩ = some (.string a) ∧ x = none := fun j hj => by
    obtain ⟨g, o, cap, rfl, hv⟩ := h.form (by omega)
    have ha : l[j]? = some l[j] := List.getElem?_eq_getElem (by omega)
    exact ⟨_, g, o, cap, none, rfl, ha, by rw [hv.cells j (by omega)]; exact kcells_get ha, rfl⟩
  obtain ⟨a0, cap, hv⟩ := h.form'
  have HP := Lib.hid hp
  have HL := Lib.hid hl
  have HS := Lib.hid hs
  have HHC := Lib.hid HC
  clear h HC hs hp hl
  subst hv
  go_enter Try.func30, Try.ntmps30
  go_wp2_with fail
  go_loopw [7, 8] (fun s t wr => ∃ i j : Nat, s = .int .i64 i ∧ t = .int .i64 j ∧ i ≤ p ∧ p ≤ j ∧ j ≤ n ∧ wr = w) (fun s t _ => (intOf t).toNat - (intOf s).toNat)
  case atStart => exact ⟨0, n, rfl, rfl, Nat.zero_le _, hpn, Nat.le_refl _, rfl⟩
  case round =>
    obtain ⟨i, j, rfl, rfl, hip, hpj, hjn, rfl⟩ := hrel
    by_cases hij : i < j
    · obtain ⟨a, g, o, c, x, he, hla, hcell, rfl⟩ := HHC.out ((i + j) / 2) (by omega)
      injection he with he1 _ he2
      subst he1 he2
      have t1 : decide (i < j) = true := by simp [hij]
      have hlt := pos_lt HS.out k hla
      rw [HP.out] at hlt
      have HLA := Lib.hid hla
      have b1 : (((i : Int) + (j : Int)) / 2).toNat = (i + j) / 2 := by omega
      clear hla
      cases hb : bl a k with
      | true =>
        have hlt' := hlt.1 hb
        clear hlt HLA
        go_wp2_with fail
        refine (less_any _ _ _).mono ?_
        rintro e w' ⟨rfl, rfl⟩
        rw [hb]
        clear hb
        go_wp2_with fail
        go_roundw
        case rel => exact ⟨(i + j) / 2 + 1, j, by go_num, rfl, by omega, hpj, hjn, trivial⟩
        case measure => simp [intOf]; omega
      | false =>
        have hlt' : p ≤ (i + j) / 2 := by
          rcases Nat.lt_or_ge ((i + j) / 2) p with h1 | h1
          · rw [hlt.2 h1] at hb; cases hb
          · exact h1
        clear hlt HLA
        go_wp2_with fail
        refine (less_any _ _ _).mono ?_
        rintro e w' ⟨rfl, rfl⟩
        rw [hb]
        clear hb
        go_wp2_with fail
        go_roundw
        case rel => exact ⟨i, (i + j) / 2, rfl, by go_num, hip, hlt', by omega, trivial⟩
        case measure => simp [intOf]; omega
    · have hi : i = p := by omega
      subst hi
      by_cases hin : i < n
      · obtain ⟨a, g, o, c, x, he, hla, hcell, rfl⟩ := HHC.out i hin
        injection he with he1 _ he2
        subst he1 he2
        have hk := hasK_of_get (l := l) (k := k) (a := a) (by rw [HP.out]; exact hla)
        have HK := Lib.hid hk
        clear hla hk
        by_cases hak : a = k
        · subst hak
          go_wp2_with fail
          go_ret2
          exact ⟨by rw [HK.out]; simp, rfl⟩
        · have hne : (a.toList == k.toList) = false := by
            rw [beq_eq_false_iff_ne]
            exact fun h => hak (key_ext h)
          go_wp2_with (first | (go_at_call 44; refine (snan_any _ _).mono ?_; rintro e w' ⟨rfl, rfl⟩))
          go_ret2
          exact ⟨by rw [HK.out]; simp [hak], rfl⟩
      · have hk := hasK_false_end (l := l) (k := k) (by rw [HP.out, HL.out]; omega)
        have HK := Lib.hid hk
        clear hk
        go_wp2_with fail
        go_ret2
        exact ⟨by rw [HK.out]; rfl, rfl⟩
end Go.Proofs.Ytjmkfppnimengaa

/- slices.Concat of bytes (with slices.Grow of none). Conditions: rows that can be read, at most four, not too long. -/
import Derived.Test.YtojkggppcmdepaaGreatTrD
import Derived.Lib.AppendZeros
namespace Go.Proofs.YtojkggppcmdepaaGreat
open Go.RowKit Go.Wh Go.Maps

set_option maxHeartbeats 1000000 in
set_option maxRecDepth 100000 in
theorem grow_b (k : Nat) (w : World) (hk : k ≤ 100000) : Calls Tryz.prog 71 #[.slice none 0 0, .int .i64 k] w (FreshPost w 1 0 []) := by
  obtain ⟨i0, hi0, hz0, hz1, hz2⟩ := info_parts info_b
  have b0 : decide ((k : Int) < 0) = false := by simp
  by_cases hk0 : k = 0
  · subst hk0
    have F := Lib.hid (show FreshPost w 1 0 [] (.returned (.slice none 0 0)) w from ⟨_, rfl, Vec.nil _ _, Below.refl _ _, fun g hg => by cases hg⟩)
    go_enter Tryz.func71, Tryz.ntmps71
    go_wp2_with fail
    go_ret
    exact F.out
  · have hold : (Builtin.firstCells i0.size 0 (.slice none 0 0)).run Tryz.prog w.drew = .ok ([] : List Value).toArray w.drew := by simp [Builtin.firstCells]
    obtain ⟨G, hG⟩ : ∃ G, G = grownCap w k 0 5 := ⟨_, rfl⟩
    have hGn : k ≤ G := by rw [hG]; exact grownCap_ge w _ _ _
    have hG63 : G ≤ maxLen := by rw [hG]; exact grownCap_le_maxLen w k 0 5 (by simp only [maxLen]; omega)
    obtain ⟨z, hzz⟩ : ∃ z : Value, i0.zero = some z ∧ z.cells.size = 1 := ⟨_, hz0, rfl⟩
    obtain ⟨ROW, hROW⟩ : ∃ ROW : Array Value, ROW = ([] : List Value).toArray ++ Builtin.zeroCells z.cells k ++ Builtin.zeroCells z.cells (G - k) := ⟨_, rfl⟩
    obtain ⟨W1, hW1⟩ : ∃ W1, W1 = w.drew.alloc (.cells ROW 5) := ⟨_, rfl⟩
    have hrz : ∀ ty, (Builtin.append_ #[23, 3] ty #[.slice none 0 0, .int .i64 (k : Int)]).run Tryz.prog w = .ok (.slice (some ⟨w.heap.size, 0, none⟩) k G) W1 := fun ty => by
      have h := Lib.run_append_grow_zeros w 23 3 ty 5 i0 z .i64 .i64 Tryz.underlying23 Tryz.underlying3 hi0 hzz.1 none 0 0 [] hold k (by omega) (by omega) (by omega) (by omega) (by rw [hz2]; omega) (by rw [hz2]; exact growslice_fits (by omega) (by omega))
      rw [Nat.zero_add, ← hG, ← hROW, ← hW1] at h
      exact h
    have hRl : ROW.size = G * 1 := by
      rw [hROW]
      simp [Builtin.zeroCells, hzz.2]
      omega
    have hV1 : VecAt W1 1 w.heap.size 0 0 G [] := by
      have := vecAt_block (w := W1) (size := 1) (g := w.heap.size) (n := 0) (cap := G) (t := 5) (cs := ROW) (by rw [hW1]; exact heap_alloc_new w.drew _) hRl (Nat.zero_le _) hG63
      simpa using this
    have F := Lib.hid (show FreshPost w 1 0 [] (.returned (.slice (some ⟨w.heap.size, 0, none⟩) 0 G)) W1 from
      ⟨_, rfl, .inr ⟨_, _, _, rfl, hV1⟩, by rw [hW1]; exact (below_undrew ((Below.refl _ w.drew).alloc (Nat.le_refl _) _)), fun g hg => by cases hg; exact ⟨Nat.le_refl _, by rw [hW1]; simp⟩⟩)
    have R0 := Lib.hid hrz
    have b1 : decide (0 < k) = true := by simp; omega
    have b2 : (0 : Int) ≤ (G : Int) := by omega
    clear hrz hRl hV1 hW1 hROW hzz hold hG hG63 hGn hk0
    go_enter Tryz.func71, Tryz.ntmps71
    go_wp2_with (at_builtin; refine Lib.wpList_append_run _ rfl _ _ _ _ rfl _ _ rfl rfl _ _ (R0.out _) ?_)
    go_ret
    exact F.out


def catN (L : List (Value × Nat × List Value)) : Nat := (L.map fun p => p.2.1).sum
def catX (L : List (Value × Nat × List Value)) : List Value := L.flatMap fun p => p.2.2
theorem catN_snoc (L : List (Value × Nat × List Value)) (p : Value × Nat × List Value) : catN (L ++ [p]) = catN L + p.2.1 := by simp [catN]
theorem catX_snoc (L : List (Value × Nat × List Value)) (p : Value × Nat × List Value) : catX (L ++ [p]) = catX L ++ p.2.2 := by simp [catX]
theorem catN_le {k : Nat} : ∀ (L : List (Value × Nat × List Value)), (∀ p ∈ L, p.2.1 ≤ k) → catN L ≤ L.length * k
  | [], _ => by simp [catN]
  | p :: L, h => by
    have h1 := h p (by simp)
    have h2 := catN_le L fun q hq => h q (by simp [hq])
    have : catN (p :: L) = p.2.1 + catN L := by simp [catN]
    rw [this, List.length_cons, Nat.add_mul]
    omega
set_option maxHeartbeats 1000000 in
set_option maxRecDepth 100000 in
theorem concat_b (ab m c : Nat) (L : List (Value × Nat × List Value)) (w : World) (hab : cellsAt w ab (L.map (·.1))) (hm : L.length = m) (hr : ∀ p ∈ L, Reads w 1 p.1 p.2.1 p.2.2 ∧ (∀ u ∈ p.2.2, u.oneCell' = true) ∧ p.2.1 ≤ 10000) (h10 : m ≤ 4) :
    Calls Tryz.prog 36 #[.slice (some ⟨ab, 0, none⟩) m c] w (FreshPost w 1 (catN L) (catX L)) := by
  obtain ⟨i0, hi0, hz0, hz1, hz2⟩ := info_parts info_b
  have hcN : ∀ k, catN (L.take k) ≤ 40000 := fun k => by
    have h1 := catN_le (L.take k) (fun p hp => (hr p (List.mem_of_mem_take hp)).2.2)
    have h2 : (L.take k).length ≤ 4 := by rw [List.length_take]; omega
    have := Nat.mul_le_mul_right 10000 h2
    omega
  have H := Lib.hid (And.intro hab (And.intro hm (And.intro hr (And.intro h10 hcN))))
  have HI := Lib.hid (And.intro hi0 (And.intro hz0 (And.intro hz1 hz2)))
  have hg := grow_b (catN L) w (by have := hcN m; rw [List.take_of_length_le (by omega)] at this; have e : catN L ≤ 40000 := this; omega)
  have HG := Lib.hid hg
  clear hab hm hr h10 hcN hi0 hz0 hz1 hz2 hg
  have get : ∀ k, k < m → ∃ p, L[k]? = some p := fun k hk => ⟨_, List.getElem?_eq_getElem (by have := H.out.2.1; omega)⟩
  have GET := Lib.hid get
  clear get
  go_enter Tryz.func36, Tryz.ntmps36
  go_wp2_with fail
  go_loopw [3, 11] (fun t s wr => ∃ k : Nat, wr = w ∧ s = .int .i64 k ∧ k ≤ m ∧ t = .int .i64 (catN (L.take k) : Nat)) (fun _ s _ => m - (intOf s).toNat)
  case atStart => exact ⟨0, rfl, rfl, Nat.zero_le _, rfl⟩
  case round =>
    obtain ⟨k, rfl, rfl, hk, rfl⟩ := hrel
    by_cases hi : k < m
    · obtain ⟨p, hp⟩ := GET.out k hi
      have hpm := H.out.2.2.1 p (List.mem_of_getElem? hp)
      obtain ⟨pa, pc, hpv⟩ := Reads.form hpm.1
      have c0 : wr.cell? ⟨ab, k, none⟩ = some (.slice pa p.2.1 pc) := by
        rw [H.out.1.cell k, List.getElem?_map, hp, ← hpv]
        rfl
      have hcn := H.out.2.2.2.2 k
      have hp1 := hpm.2.2
      have HSN := Lib.hid (show catN (L.take (k + 1)) = catN (L.take k) + p.2.1 from by rw [List.take_add_one, hp, Option.toList_some, catN_snoc])
      have hm4 := H.out.2.2.2.1
      have b1 : decide ((k : Int) < (m : Int)) = true := by simp; omega
      have b2 : decide (k < m) = true := by simp; omega
      have b3 : (0 : Int) ≤ (k : Int) := by omega
      have b4 : (k : Int) < (m : Int) := by omega
      generalize catN (L.take k) = X at *
      generalize p.2.1 = y at *
      have w1 : decide ((X : Int) + (y : Int) < 0) = false := by simp; omega
      have w2 : IntKind.i64.wrap ((X : Int) + (y : Int)) = (X : Int) + (y : Int) := IntWalk.i64_in _ (by omega)
      clear hpm hp hpv
      go_wp2_with fail
      go_roundw
      case rel => exact ⟨k + 1, trivial, by go_num, by omega, by rw [HSN.out]; go_num⟩
      case measure => simp [intOf]; omega
    · have hke : k = m := by omega
      subst hke
      have b1 : decide ((k : Int) < (k : Int)) = false := by simp
      have hce : catN (L.take k) = catN L := by rw [List.take_of_length_le (by have := H.out.2.1; omega)]
      rw [hce]
      go_wp2_with fail
      refine HG.out.mono ?_
      rintro e w0 ⟨v0, rfl, hv0, hb0, hf0⟩
      have HV0 := Lib.hid (And.intro hv0 (And.intro hb0 hf0))
      clear hv0 hb0 hf0 HG hce
      go_wp2_with fail
      obtain ⟨wo, rfl⟩ : ∃ wo : World, wo = wr := ⟨_, rfl⟩
      go_loopw [6, 27] (fun t s wc => ∃ j : Nat, s = .int .i64 j ∧ j ≤ k ∧ CatRel wo 1 (catN (L.take j)) (catX (L.take j)) t wc) (fun _ s _ => k - (intOf s).toNat)
      case atStart => exact ⟨0, rfl, Nat.zero_le _, HV0.out⟩
      case round =>
        obtain ⟨j, rfl, hj, hc⟩ := hrel
        by_cases hi2 : j < k
        · obtain ⟨p, hp⟩ := GET.out j hi2
          have hpm := H.out.2.2.1 p (List.mem_of_getElem? hp)
          obtain ⟨pa, pc, hpv⟩ := Reads.form hpm.1
          have c0 : wo.cell? ⟨ab, j, none⟩ = some (.slice pa p.2.1 pc) := by
            rw [H.out.1.cell j, List.getElem?_map, hp, ← hpv]
            rfl
          have c0' := (hc.2.1.cell (lt_of_cell c0)).trans c0
          have hrd : Reads wr 1 (.slice pa p.2.1 pc) p.2.1 p.2.2 := by
            rw [← hpv]
            exact hpm.1.belowAll hc.2.1
          have HR := Lib.hid hrd
          have HC1 := Lib.hid hpm.2.1
          have HC := Lib.hid hc
          have hcn := H.out.2.2.2.2 j
          have hp1 := hpm.2.2
          have HSN := Lib.hid (show catN (L.take (j + 1)) = catN (L.take j) + p.2.1 ∧ catX (L.take (j + 1)) = catX (L.take j) ++ p.2.2 from by rw [List.take_add_one, hp, Option.toList_some, catN_snoc, catX_snoc]; exact ⟨rfl, rfl⟩)
          have hm4 := H.out.2.2.2.1
          have b1' : decide ((j : Int) < (k : Int)) = true := by simp; omega
          have b2 : decide (j < k) = true := by simp; omega
          have b3 : (0 : Int) ≤ (j : Int) := by omega
          have b4 : (j : Int) < (k : Int) := by omega
          generalize catN (L.take j) = X at *
          generalize catX (L.take j) = XX at *
          obtain ⟨pv, y, ys⟩ := p
          dsimp only at *
          obtain ⟨ua, uc, rfl⟩ := hc.1.form'
          clear hpm hp hpv hc hrd c0
          go_wp2_with (at_builtin; refine wpList_append_vec rfl _ _ 23 rfl 5 i0 _ 1 1 Tryz.underlying23 HI.out.1 HI.out.2.1 HI.out.2.2.1 HI.out.2.2.2 rfl (by decide) _ _ _ rfl HC.out.1 _ y ys rfl HR.out HC1.out (by simp only [maxLen]; omega) (by omega) ?_; intro v' w' hv' ho' hb'; have HN := Lib.hid (HC.out.next hv' ho' hb'); clear hv' ho' hb')
          go_roundw
          case rel => exact ⟨j + 1, by go_num, by omega, by rw [HSN.out.1, HSN.out.2]; exact HN.out⟩
          case measure => simp [intOf]; omega
        · have hje : j = k := by omega
          subst hje
          have b1' : decide ((j : Int) < (j : Int)) = false := by simp
          have hcL : CatRel wo 1 (catN L) (catX L) u6 wr := by
            rw [List.take_of_length_le (by have := H.out.2.1; omega)] at hc
            exact hc
          have F := Lib.hid (show FreshPost wo 1 (catN L) (catX L) (.returned u6) wr from ⟨_, rfl, hcL⟩)
          clear hc hcL
          go_wp2_with fail
          go_ret
          exact F.out
end Go.Proofs.YtojkggppcmdepaaGreat

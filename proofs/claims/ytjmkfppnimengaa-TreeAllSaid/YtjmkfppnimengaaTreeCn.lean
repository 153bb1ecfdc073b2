/- slices.Concat of two rows (with slices.Grow of none), at one kind of element. Conditions: rows that can be read, not too long. -/
import Derived.Test.YtjmkfppnimengaaTreeIn
import Derived.Lib.AppendZeros
namespace Go.Proofs.Ytjmkfppnimengaa
open Go.RowKit Go.Wh

set_option maxHeartbeats 1000000 in
set_option maxRecDepth 100000 in
theorem grow_n (k : Nat) (w : World) (hk : k ≤ 20000) : Calls Try.prog 58 #[.slice none 0 0, .int .i64 k] w (FreshPost w 1 0 []) := by
  obtain ⟨i0, hi0, hz0, hz1, hz2⟩ := info_parts info_n
  have b0 : decide ((k : Int) < 0) = false := by simp
  by_cases hk0 : k = 0
  · subst hk0
    have F := Lib.hid (show FreshPost w 1 0 [] (.returned (.slice none 0 0)) w from ⟨_, rfl, Vec.nil _ _, Below.refl _ _, fun g hg => by cases hg⟩)
    go_enter Try.func58, Try.ntmps58
    go_wp2_with fail
    go_ret
    exact F.out
  · have hold : (Builtin.firstCells i0.size 0 (.slice none 0 0)).run Try.prog w.drew = .ok ([] : List Value).toArray w.drew := by simp [Builtin.firstCells]
    obtain ⟨G, hG⟩ : ∃ G, G = grownCap w k 0 55 := ⟨_, rfl⟩
    have hGn : k ≤ G := by rw [hG]; exact grownCap_ge w _ _ _
    have hG63 : G ≤ maxLen := by rw [hG]; exact grownCap_le_maxLen w k 0 55 (by simp only [maxLen]; omega)
    obtain ⟨z, hzz⟩ : ∃ z : Value, i0.zero = some z ∧ z.cells.size = 1 := ⟨_, hz0, rfl⟩
    obtain ⟨ROW, hROW⟩ : ∃ ROW : Array Value, ROW = ([] : List Value).toArray ++ Builtin.zeroCells z.cells k ++ Builtin.zeroCells z.cells (G - k) := ⟨_, rfl⟩
    obtain ⟨W1, hW1⟩ : ∃ W1, W1 = w.drew.alloc (.cells ROW 55) := ⟨_, rfl⟩
    have hrz : ∀ ty, (Builtin.append_ #[58, 3] ty #[.slice none 0 0, .int .i64 (k : Int)]).run Try.prog w = .ok (.slice (some ⟨w.heap.size, 0, none⟩) k G) W1 := fun ty => by
      have h := Lib.run_append_grow_zeros w 58 3 ty 55 i0 z .i64 .i64 Try.underlying58 Try.underlying3 hi0 hzz.1 none 0 0 [] hold k (by omega) (by omega) (by omega) (by omega) (by rw [hz2]; omega) (by rw [hz2]; exact growslice_fits (by omega) (by omega))
      rw [Nat.zero_add, ← hG, ← hROW, ← hW1] at h
      exact h
    have hRl : ROW.size = G * 1 := by
      rw [hROW]
      simp [Builtin.zeroCells, hzz.2]
      omega
    have hV1 : VecAt W1 1 w.heap.size 0 0 G [] := by
      have := vecAt_block (w := W1) (size := 1) (g := w.heap.size) (n := 0) (cap := G) (t := 55) (cs := ROW) (by rw [hW1]; exact heap_alloc_new w.drew _) hRl (Nat.zero_le _) hG63
      simpa using this
    have F := Lib.hid (show FreshPost w 1 0 [] (.returned (.slice (some ⟨w.heap.size, 0, none⟩) 0 G)) W1 from
      ⟨_, rfl, .inr ⟨_, _, _, rfl, hV1⟩, by rw [hW1]; exact (below_undrew ((Below.refl _ w.drew).alloc (Nat.le_refl _) _)), fun g hg => by cases hg; exact ⟨Nat.le_refl _, by rw [hW1]; simp⟩⟩)
    have R0 := Lib.hid hrz
    have b1 : decide (0 < k) = true := by simp; omega
    have b2 : (0 : Int) ≤ (G : Int) := by omega
    clear hrz hRl hV1 hW1 hROW hzz hold hG hG63 hGn hk0
    go_enter Try.func58, Try.ntmps58
    go_wp2_with (at_builtin; refine Lib.wpList_append_run _ rfl _ _ _ _ rfl _ _ rfl rfl _ _ (R0.out _) ?_)
    go_ret
    exact F.out

set_option maxHeartbeats 1000000 in
set_option maxRecDepth 100000 in
theorem concat_n (ab : Nat) (va vb : Value) (n1 n2 : Nat) (x1 x2 : List Value) (w : World) (hab : cellsAt w ab [va, vb]) (h1 : Reads w 1 va n1 x1) (h2 : Reads w 1 vb n2 x2)
    (c1 : ∀ u ∈ x1, u.oneCell' = true) (c2 : ∀ u ∈ x2, u.oneCell' = true) (m1 : n1 ≤ 10000) (m2 : n2 ≤ 10000) :
    Calls Try.prog 47 #[.slice (some ⟨ab, 0, none⟩) 2 2] w (FreshPost w 1 (n1 + n2) (x1 ++ x2)) := by
  obtain ⟨i0, hi0, hz0, hz1, hz2⟩ := info_parts info_n
  obtain ⟨a1, k1, hva⟩ : ∃ a c, va = .slice a n1 c := by
    rcases h1.2 with ⟨rfl, rfl⟩ | ⟨a, c, rfl, _⟩
    · exact ⟨_, _, rfl⟩
    · exact ⟨_, _, rfl⟩
  obtain ⟨a2, k2, hvb⟩ : ∃ a c, vb = .slice a n2 c := by
    rcases h2.2 with ⟨rfl, rfl⟩ | ⟨a, c, rfl, _⟩
    · exact ⟨_, _, rfl⟩
    · exact ⟨_, _, rfl⟩
  subst hva hvb
  have q0 : w.cell? ⟨ab, 0, none⟩ = some (.slice a1 n1 k1) := hab.cell 0
  have q1 : w.cell? ⟨ab, 1, none⟩ = some (.slice a2 n2 k2) := hab.cell 1
  have HAB := Lib.hid hab
  have HR1 := Lib.hid h1
  have HR2 := Lib.hid h2
  have HC1 := Lib.hid c1
  have HC2 := Lib.hid c2
  clear hab h1 h2 c1 c2
  go_enter Try.func47, Try.ntmps47
  go_wp2_with fail
  go_loopw [3, 11] (fun t s wr => wr = w ∧ ((s = .int .i64 0 ∧ t = .int .i64 0) ∨ (s = .int .i64 1 ∧ t = .int .i64 n1) ∨ (s = .int .i64 2 ∧ t = .int .i64 ((n1 + n2 : Nat) : Int)))) (fun _ s _ => 2 - (intOf s).toNat)
  case atStart => exact ⟨rfl, .inl ⟨rfl, rfl⟩⟩
  case round =>
    obtain ⟨rfl, ⟨rfl, rfl⟩ | ⟨rfl, rfl⟩ | ⟨rfl, rfl⟩⟩ := hrel
    · have w1 : decide ((n1 : Int) < 0) = false := by simp
      go_wp2_with fail
      go_roundw
      case rel => exact ⟨trivial, .inr (.inl ⟨by go_num, by go_num⟩)⟩
      case measure => simp [intOf]
    · have w1 : decide ((n1 : Int) + (n2 : Int) < 0) = false := by simp; omega
      have w2 : IntKind.i64.wrap ((n1 : Int) + (n2 : Int)) = (n1 : Int) + (n2 : Int) := by rw [IntKind.wrap_i64]; omega
      go_wp2_with fail
      go_roundw
      case rel => exact ⟨trivial, .inr (.inr ⟨by go_num, by go_num⟩)⟩
      case measure => simp [intOf]
    · have HG := grow_n (n1 + n2) wr (by omega)
      rw [Int.natCast_add] at HG
      have HG' := Lib.hid HG
      clear HG
      go_wp2_with fail
      refine HG'.out.mono ?_
      rintro e w0 ⟨v0, rfl, hv0, hb0, hf0⟩
      have HV0 := Lib.hid (And.intro hv0 (And.intro hb0 hf0))
      clear hv0 hb0 hf0 HG'
      go_wp2_with fail
      obtain ⟨wo, rfl⟩ : ∃ wo : World, wo = wr := ⟨_, rfl⟩
      go_loopw [6, 27] (fun t s wc => 
        ((s = .int .i64 0 ∧ CatRel wo 1 0 [] t wc) ∨ (s = .int .i64 1 ∧ CatRel wo 1 n1 x1 t wc) ∨ (s = .int .i64 2 ∧ CatRel wo 1 (n1 + n2) (x1 ++ x2) t wc))) (fun _ s _ => 2 - (intOf s).toNat)
      case atStart => exact .inl ⟨rfl, HV0.out⟩
      case round =>
        have HI0 := Lib.hid hi0
        have HZ0 := Lib.hid hz0
        have HZ1 := Lib.hid hz1
        have HZ2 := Lib.hid hz2
        clear hi0 hz0 hz1 hz2
        obtain ⟨rfl, hc⟩ | ⟨rfl, hc⟩ | ⟨rfl, hc⟩ := hrel
        · have HR := Lib.hid (HR1.out.belowAll hc.2.1)
          have p0 := (hc.2.1.cell (lt_of_cell q0)).trans q0
          have p1 := (hc.2.1.cell (lt_of_cell q1)).trans q1
          have HC := Lib.hid hc
          clear hc
          go_wp2_with (at_builtin; refine wpList_append_vec rfl _ _ 58 rfl 55 i0 _ 1 8 Try.underlying58 HI0.out HZ0.out HZ1.out HZ2.out rfl (by decide) _ _ _ rfl HC.out.1 _ n1 x1 rfl HR.out HC1.out (by simp only [maxLen]; omega) (by omega) ?_; intro v' w' hv' ho' hb'; have HN := Lib.hid (HC.out.next hv' ho' hb'); clear hv' ho' hb')
          go_roundw
          case rel => exact .inr (.inl ⟨by go_num, by simpa using HN.out⟩)
          case measure => simp [intOf]
        · have HR := Lib.hid (HR2.out.belowAll hc.2.1)
          have p0 := (hc.2.1.cell (lt_of_cell q0)).trans q0
          have p1 := (hc.2.1.cell (lt_of_cell q1)).trans q1
          have HC := Lib.hid hc
          clear hc
          go_wp2_with (at_builtin; refine wpList_append_vec rfl _ _ 58 rfl 55 i0 _ 1 8 Try.underlying58 HI0.out HZ0.out HZ1.out HZ2.out rfl (by decide) _ _ _ rfl HC.out.1 _ n2 x2 rfl HR.out HC2.out (by simp only [maxLen]; omega) (by omega) ?_; intro v' w' hv' ho' hb'; have HN := Lib.hid (HC.out.next hv' ho' hb'); clear hv' ho' hb')
          go_roundw
          case rel => exact .inr (.inr ⟨by go_num, HN.out⟩)
          case measure => simp [intOf]
        · have F := Lib.hid (show FreshPost wo 1 (n1 + n2) (x1 ++ x2) (.returned u6) wr from ⟨_, rfl, hc⟩)
          clear hc
          go_wp2_with fail
          go_ret
          exact F.out
end Go.Proofs.Ytjmkfppnimengaa

/- The library's CompactFunc over spots whose keys differ: nothing is cut. Conditions: keys differ. -/
import Derived.Test.YtpppphalacojjaaPlanD
namespace Go.Proofs.Ytpppphalacojjaa
open Go.RowKit Go.Wh

set_option maxHeartbeats 400000 in
theorem same_any (a b : Spot) (w : World) : Calls Try.prog 14 #[.agg #[.string a.key, .int .i64 a.p, .int .i64 a.c], .agg #[.string b.key, .int .i64 b.p, .int .i64 b.c]] w fun e w' => e = .returned (.bool (a.key.toList == b.key.toList)) ∧ Below w.heap.size w w' := by
  have hbel : Below w.heap.size w ((w.alloc (Obj.cells #[.string a.key, .int .i64 a.p, .int .i64 a.c] 31)).alloc (Obj.cells #[.string b.key, .int .i64 b.p, .int .i64 b.c] 31)) :=
    ((Below.refl _ _).alloc (Nat.le_refl _) _).alloc (by simp) _
  have HB := Lib.hid hbel
  clear hbel
  go_enter Try.func14, Try.ntmps14
  go_wp2_with fail
  go_ret
  exact ⟨by simp, HB.out⟩

theorem cf14 (args : Array Value) (w : World) : (callFunc 14 args).run Try.prog w = .ok (.enter 14 args) w := by kernel_rfl

theorem split_two (l : List Spot) (q : Nat) (h : q + 1 < l.length) : ∃ F y x G, l = F ++ y :: x :: G ∧ F.length = q := by
  refine ⟨l.take q, l[q], l[q + 1], l.drop (q + 2), ?_, by simp; omega⟩
  rw [← List.drop_eq_getElem_cons h, ← List.drop_eq_getElem_cons (by omega : q < l.length), List.take_append_drop]

set_option maxRecDepth 100000 in
set_option maxHeartbeats 1000000 in
theorem compact_any (v : Value) (n : Nat) (l : List Spot) (w : World) (h : Vec w 3 v n (flat l)) (hd : ∀ F y x G, l = F ++ y :: x :: G → (x.key.toList == y.key.toList) = false) (hn : n ≤ 10000) :
    Calls Try.prog 13 #[v, .func (.func 14) #[] #[]] w fun e w' => e = .returned v ∧ Below w.heap.size w w' := by
  by_cases h2 : n < 2
  · obtain ⟨a, cap, rfl⟩ := h.form'
    clear h hd
    have hlt : decide ((n : Int) < 2) = true := by simp; omega
    go_enter Try.func13, Try.ntmps13
    go_wp2_with fail
    go_ret
    exact ⟨rfl, Below.refl _ _⟩
  · obtain ⟨g, o, cap, rfl, hv⟩ := h.form (by omega)
    have hl : l.length = n := by
      have := h.len
      rw [flat_length] at this
      omega
    have T := Lib.hid (fun q (hq : q + 1 < n) => show ∃ y x, Two w g o q y x ∧ (x.key.toList == y.key.toList) = false by
      obtain ⟨F, y, x, G, e, hF⟩ := split_two l q (by omega)
      rw [e] at hv
      have := two_of hv
      rw [hF] at this
      exact ⟨y, x, this, hd F y x G e⟩)
    clear h hv hd hl
    have hcf := cf14
    go_enter Try.func13, Try.ntmps13
    go_wp2_with fail
    go_loopw [5] (fun s wr => ∃ i : Nat, s = .int .i64 i ∧ 1 ≤ i ∧ i ≤ n ∧ Below w.heap.size w wr) (fun s _ => n - (intOf s).toNat)
    case atStart => exact ⟨1, by go_num, by omega, by omega, Below.refl _ _⟩
    case round =>
      obtain ⟨i, rfl, hi1, hin, hb⟩ := hrel
      have HB := Lib.hid hb
      clear hb
      by_cases hib : i < n
      · obtain ⟨q, rfl⟩ : ∃ q, i = q + 1 := ⟨i - 1, by omega⟩
        obtain ⟨y, x, ht, hne⟩ := T.out q hib
        have h2' := ht.below (Below.mono HB.out (Nat.le_refl _))
        clear ht T
        have c0 := h2'.c0
        have c1 := h2'.c1
        have c2 := h2'.c2
        have d0 := h2'.d0
        have d1 := h2'.d1
        have d2 := h2'.d2
        have HNE := Lib.hid hne
        clear h2' hne
        go_wp2_with fail
        have a1 : (0 : Int) ≤ (q : Int) + 1 := by omega
        have a2 : (q : Int) + 1 < (n : Int) := by omega
        have a3 : (0 : Int) ≤ (q : Int) := by omega
        have a4 : (q : Int) < (n : Int) := by omega
        have a6 : IntKind.i64.wrap (q : Int) = (q : Int) := IntWalk.i64_in _ (by omega)
        have a5 : ((q : Int) + 1).toNat = q + 1 := by omega
        go_still_tail 10, (by kernel_rfl)
        change wpList _ _ _ _ _ wr.drew
        go_wp2_with fail
        clear a1 a2 a3 a4 a5 a6 c0 c1 c2 d0 d1 d2
        refine (same_any x y _).mono ?_
        rintro e w1 ⟨rfl, hB⟩
        have HB1 := Lib.hid (HB.out.trans (Below.mono (below_undrew hB) HB.out.size))
        clear HB hB
        rw [HNE.out]
        clear HNE
        go_wp2_with fail
        go_roundw
        case rel => exact ⟨q + 2, by go_num, by omega, by omega, HB1.out⟩
        case measure => simp [intOf]; omega
      · clear T
        go_wp2_with fail
        go_ret
        exact ⟨rfl, HB.out⟩
end Go.Proofs.Ytpppphalacojjaa

/- The library's stable sort of twenty and more, and package plan's copy. Conditions: at most 10000 spots. -/
import Derived.Test.YtpppphalacojjaaPlanWa
namespace Go.Proofs.Ytpppphalacojjaa
open Go.RowKit Go.Wh

set_option maxRecDepth 100000 in
set_option maxHeartbeats 4000000 in
theorem stable_at (g o n cap : Nat) (l : List Spot) (w : World) (h : VecAt w 3 g o n cap (flat l)) (hn : n ≤ 10000) :
    Calls Try.prog 19 #[.slice (some ⟨g, o, none⟩) n cap, .int .i64 (n : Int), .func (.func 17) #[] #[]] w (SortPost w (.slice (some ⟨g, o, none⟩) n cap) n [] l []) := by
  have H0 := Lib.hid (show Srt1 w g o n cap l 0 w from ⟨[], l, Blocks.nil _, rfl, List.Perm.refl _, h, Only.refl _ _⟩)
  clear h
  go_enter Try.func19, Try.ntmps19
  go_wp2_with fail
  go_loopw [7, 8] (fun a b wr => ∃ i j : Nat, a = .int .i64 i ∧ b = .int .i64 j ∧ j = i + 20 ∧ i ≤ n ∧ Srt1 w g o n cap l i wr) (fun _ b _ => 20001 - (intOf b).toNat)
  case atStart => exact ⟨0, 20, rfl, rfl, rfl, Nat.zero_le _, H0.out⟩
  case round =>
    clear H0
    obtain ⟨i, j, rfl, rfl, hj, hin, hr⟩ := hrel
    by_cases hjn : j ≤ n
    · have C1 := Lib.hid (hr.step hn j hj hjn)
      have HJ := Lib.hid hj
      have hij : i ≤ j := by omega
      clear hr hj
      go_wp2_with fail
      refine C1.out.mono ?_
      clear C1
      rintro e w1 ⟨rfl, hr⟩
      have HR := Lib.hid hr
      clear hr
      go_wp2_with fail
      go_roundw
      case rel => exact ⟨j, j + 20, rfl, by go_num, rfl, hjn, HR.out⟩
      case measure => simp [intOf]; omega
    · have C1 := Lib.hid (hr.last hn (by omega))
      clear hr hj
      go_wp2_with fail
      refine C1.out.mono ?_
      clear C1 hin hjn
      rintro e w1 ⟨rfl, hr⟩
      have HR := Lib.hid hr
      clear hr
      go_wp2_with fail
      obtain ⟨w2, rfl⟩ : ∃ w2 : World, w2 = w1 := ⟨_, rfl⟩
      go_loopw [6] (fun s wr => ∃ k : Nat, s = .int .i64 k ∧ 1 ≤ k ∧ k ≤ 20000 ∧ Srt2 w g o n cap l k wr) (fun s _ => 20001 - (intOf s).toNat)
      case atStart => exact ⟨20, rfl, by omega, by omega, HR.out⟩
      case round =>
        clear HR
        obtain ⟨k, rfl, hk1, hk2, hr⟩ := hrel
        by_cases hkn : k < n
        · have HR := Lib.hid hr.begin_
          clear hr
          obtain ⟨d, hd⟩ : ∃ d, d = 2 * k := ⟨_, rfl⟩
          have HD := Lib.hid hd
          have ed : (2 : Int) * (k : Int) = (d : Int) := by omega
          have hd2 : d ≤ 40000 := by omega
          have hd3 : k < d := by omega
          clear hd
          go_wp2_with fail
          obtain ⟨w3, rfl⟩ : ∃ w3 : World, w3 = wr := ⟨_, rfl⟩
          go_loopw [7, 8] (fun a b wr => ∃ i j : Nat, a = .int .i64 i ∧ b = .int .i64 j ∧ j = i + d ∧ i ≤ n ∧ Srt3 w g o n cap l k i wr) (fun _ b _ => 60001 - (intOf b).toNat)
          case atStart => exact ⟨0, d, rfl, rfl, by omega, Nat.zero_le _, HR.out⟩
          case round =>
            clear HR
            obtain ⟨i, j, rfl, rfl, hj, hin, hr⟩ := hrel
            obtain ⟨m, hm⟩ : ∃ m, m = i + k := ⟨_, rfl⟩
            by_cases hjn : j ≤ n
            · have C1 := Lib.hid (hr.step hn (by omega) m j hm (by have := HD.out; omega) hjn)
              have em : (i : Int) + (k : Int) = (m : Int) := by omega
              have HJ := Lib.hid hj
              have HM := Lib.hid hm
              have hm2 : m ≤ 40000 := by omega
              have hij : i < j := by omega
              clear hr hj hm
              go_wp2_with fail
              refine C1.out.mono ?_
              clear C1
              rintro e w1 ⟨rfl, hr⟩
              have HR := Lib.hid hr
              clear hr em
              go_wp2_with fail
              go_roundw
              case rel => exact ⟨j, j + d, rfl, by go_num, rfl, hjn, HR.out⟩
              case measure => simp [intOf]; omega
            · have hjn2 : ¬ i + 2 * k ≤ n := by have := HD.out; omega
              have em : (i : Int) + (k : Int) = (m : Int) := by omega
              have ed2 : (k : Int) * (2 : Int) = (d : Int) := by omega
              have hm2 : m ≤ 40000 := by omega
              by_cases hmn : m < n
              · have C1 := Lib.hid (hr.lastMerge hn (by omega) m hm hjn2 hmn)
                clear hr hj hm hjn2 hin
                go_wp2_with fail
                refine C1.out.mono ?_
                clear C1
                rintro e w1 ⟨rfl, hr⟩
                have HR := Lib.hid hr
                clear hr em ed
                go_wp2_with fail
                go_roundw
                case rel => exact ⟨d, rfl, by omega, by have := HD.out; omega, by have := HD.out; rw [this]; exact HR.out⟩
                case measure => simp [intOf]; omega
              · have HR := Lib.hid (hr.noMerge (by omega) hjn2 (by omega))
                clear hr hj hm hjn2 hin ed
                go_wp2_with fail
                go_roundw
                case rel => exact ⟨d, rfl, by omega, by have := HD.out; omega, by have := HD.out; rw [this]; exact HR.out⟩
                case measure => simp [intOf]; omega
        · have F := Lib.hid (hr.done hkn)
          clear hr
          go_wp2_with fail
          go_end0
          exact F.out

theorem stable_any (v : Value) (n : Nat) (l : List Spot) (w : World) (h : Vec w 3 v n (flat l)) (hl : l.length = n) (hn : n ≤ 10000) :
    Calls Try.prog 19 #[v, .int .i64 (n : Int), .func (.func 17) #[] #[]] w (SortPost w v n [] l []) := by
  by_cases hs : n < 20
  · exact stable_small v n l w h hl hs
  · obtain ⟨g, o, cap, rfl, hv⟩ := h.form (by omega)
    exact stable_at g o n cap l w hv hn

set_option maxHeartbeats 400000 in
theorem sortStable_any (v : Value) (n : Nat) (l : List Spot) (w : World) (h : Vec w 3 v n (flat l)) (hl : l.length = n) (hn : n ≤ 10000) :
    Calls Try.prog 16 #[v, .func (.func 17) #[] #[]] w (SortPost w v n [] l []) := by
  have C := Lib.hid (stable_any v n l w h hl hn)
  obtain ⟨a, cap, rfl⟩ := h.form'
  clear h hl
  go_enter Try.func16, Try.ntmps16
  go_wp2_with fail
  refine C.out.mono ?_
  rintro e w1 ⟨rfl, hr⟩
  have HR := Lib.hid hr
  clear hr C
  go_wp2_with fail
  go_end0
  exact ⟨rfl, HR.out⟩

set_option maxHeartbeats 400000 in
theorem sorted_any (v : Value) (n : Nat) (l : List Spot) (w : World) (h : Reads w 3 v n (flat l)) (hn : n ≤ 10000) :
    Calls Try.prog 12 #[v] w (SortedPost w n l) := by
  have hl : l.length = n := by
    have := h.1
    rw [flat_length] at this
    omega
  have C := Lib.hid (clone_any v n l w h (by omega))
  clear h
  go_enter Try.func12, Try.ntmps12
  go_wp2_with fail
  refine C.out.mono ?_
  clear C
  rintro e w1 ⟨v1, rfl, hv1, hb1, hg1⟩
  have C2 := Lib.hid (sortStable_any v1 n l w1 hv1 hl hn)
  have HB := Lib.hid hb1
  have HG := Lib.hid hg1
  clear hv1 hb1 hg1
  go_wp2_with fail
  refine C2.out.mono ?_
  clear C2
  rintro e w2 ⟨rfl, l', hp, hs, hv2, ho⟩
  have F := Lib.hid (show SortedPost w n l (.returned v1) w2 from ⟨v1, l', rfl, hp, hs, by simpa using hv2, HB.out.trans (ho.below HB.out.size (fun i hi e => by have := HG.out i e; omega)), HG.out⟩)
  clear hp hs hv2 ho HB HG
  go_wp2_with fail
  go_ret
  exact F.out
end Go.Proofs.Ytpppphalacojjaa

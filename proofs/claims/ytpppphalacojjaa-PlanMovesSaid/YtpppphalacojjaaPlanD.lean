/- Sorted spots: the library's stable sort of fewer than twenty, and package plan's copy. Conditions: fewer than twenty spots. -/
import Derived.Test.YtpppphalacojjaaPlanC
namespace Go.Proofs.Ytpppphalacojjaa
open Go.RowKit Go.Wh

set_option maxRecDepth 100000 in
set_option maxHeartbeats 400000 in
theorem isort_none (v : Value) (w : World) (R : Ending → World → Prop) (hR : R (.returned (.tuple #[])) w) :
    Calls Try.prog 21 #[v, .int .i64 0, .int .i64 0, .func (.func 17) #[] #[]] w R := by
  have HR := Lib.hid hR
  clear hR
  go_enter Try.func21, Try.ntmps21
  go_wp2_with fail
  go_loop [8] (fun s => s = .int .i64 1) (fun _ => 0)
  case atStart => exact rfl
  case round =>
    obtain rfl := hrel
    go_wp2_with fail
    go_end0
    exact HR.out

theorem isort_all (v : Value) (n : Nat) (l : List Spot) (w : World) (h : Vec w 3 v n (flat l)) (hl : l.length = n) (hn : n ≤ 10000) :
    Calls Try.prog 21 #[v, .int .i64 0, .int .i64 (n : Int), .func (.func 17) #[] #[]] w (SortPost w v n [] l []) := by
  cases l with
  | nil =>
    simp at hl
    subst hl
    exact isort_none v w _ ⟨rfl, [], List.Perm.refl _, by simp [Sorted], by simpa using h, Only.refl _ _⟩
  | cons m0 M =>
    obtain ⟨g, o, cap, rfl, hv⟩ := h.form (by simp at hl; omega)
    have := isort_any g o n cap [] m0 M [] w (by simpa using hv) hn
    simp only [List.length_nil, Nat.zero_add, hl] at this
    exact this

set_option maxRecDepth 100000 in
set_option maxHeartbeats 400000 in
theorem stable_small (v : Value) (n : Nat) (l : List Spot) (w : World) (h : Vec w 3 v n (flat l)) (hl : l.length = n) (hn : n < 20) :
    Calls Try.prog 19 #[v, .int .i64 (n : Int), .func (.func 17) #[] #[]] w (SortPost w v n [] l []) := by
  have C := Lib.hid (isort_all v n l w h hl (by omega))
  clear h hl
  go_enter Try.func19, Try.ntmps19
  go_wp2_with fail
  go_loopw [7, 8] (fun a b wr => a = .int .i64 0 ∧ b = .int .i64 20 ∧ wr = w) (fun _ _ _ => 0)
  case atStart => exact ⟨rfl, rfl, rfl⟩
  case round =>
    obtain ⟨rfl, rfl, rfl⟩ := hrel
    go_wp2_with fail
    refine C.out.mono ?_
    rintro e w1 ⟨rfl, hr⟩
    have HR := Lib.hid hr
    clear hr C
    go_wp2_with fail
    go_loopw [6] (fun a wr => a = .int .i64 20 ∧ wr = w1) (fun _ _ => 0)
    case atStart => exact ⟨rfl, rfl⟩
    case round =>
      obtain ⟨rfl, rfl⟩ := hrel
      go_wp2_with fail
      go_end0
      exact ⟨rfl, HR.out⟩

set_option maxHeartbeats 400000 in
theorem sortStable_small (v : Value) (n : Nat) (l : List Spot) (w : World) (h : Vec w 3 v n (flat l)) (hl : l.length = n) (hn : n < 20) :
    Calls Try.prog 16 #[v, .func (.func 17) #[] #[]] w (SortPost w v n [] l []) := by
  have C := Lib.hid (stable_small v n l w h hl hn)
  obtain ⟨a, cap, rfl⟩ := h.form'
  clear h hl
  go_enter Try.func16, Try.ntmps16
  go_wp2_with fail
  refine C.out.mono ?_
  rintro e w1 ⟨rfl, hr⟩
  have HR := Lib.hid hr
  clear hr C
  go_wp2_with fail
  go_end0
  exact ⟨rfl, HR.out⟩

theorem sc_one (l : List Spot) : ∀ u ∈ flat l, u.oneCell' = true := by
  induction l with
  | nil => intro u hu; cases hu
  | cons s l ih =>
    intro u hu
    rw [flat_cons] at hu
    simp only [List.mem_cons] at hu
    rcases hu with rfl | rfl | rfl | hu
    · rfl
    · rfl
    · rfl
    · exact ih u hu

theorem infoSpot : (Try.prog.info? 31).map (fun i => (i.zero, i.size, i.bytes)) = some (some (.agg #[.string ⟨#[]⟩, .int .i64 0, .int .i64 0]), 3, 32) := by kernel_rfl

def ClonePost (w : World) (n : Nat) (xs : List Value) (e : Ending) (w' : World) : Prop :=
  ∃ v', e = .returned v' ∧ Vec w' 3 v' n xs ∧ Below w.heap.size w w' ∧ ∀ g, v'.ownBlock = some g → w.heap.size ≤ g

set_option maxHeartbeats 400000 in
theorem clone_any (v : Value) (n : Nat) (l : List Spot) (w : World) (h : Reads w 3 v n (flat l)) (hn : n ≤ 10000) :
    Calls Try.prog 15 #[v] w (ClonePost w n (flat l)) := by
  rcases id h with ⟨hl, ⟨rfl, rfl⟩ | ⟨a, c, rfl, hc⟩⟩
  · have hnil : flat l = [] := by simpa using hl
    have F := Lib.hid (show ClonePost w 0 (flat l) (.returned (.slice none 0 0)) w from ⟨_, rfl, by rw [hnil]; exact Vec.nil _ _, Below.refl _ _, fun g hg => by cases hg⟩)
    clear h hl hnil
    have hnn := fun W : World => Lib.run_eql_slice_nil (P := Try.prog) W 24 31 none 0 0 0 0 Try.underlying24
    go_enter Try.func15, Try.ntmps15
    go_wp2_with fail
    go_ret
    exact F.out
  · obtain ⟨i0, hi, hz0, hz1, hz2⟩ := info_parts infoSpot
    have H := Lib.hid h
    clear h hl hc
    have hnn := fun W : World => Lib.run_eql_slice_nil (P := Try.prog) W 24 31 (some a) n c 0 0 Try.underlying24
    go_enter Try.func15, Try.ntmps15
    have hlen : (flat l).length = n * 3 := H.out.1
    have H1 := Lib.hid (H.out.belowAll ((Below.refl _ _).alloc (Nat.le_refl _) (Obj.cells #[] 31)))
    clear hlen
    go_wp2_with (at_builtin; refine wpList_append_vec rfl _ _ 24 rfl 31 i0 _ 3 32 Try.underlying24 hi hz0 hz1 hz2 rfl (by decide) _ 0 [] rfl (Vec.none_ _ _ _ _) _ n (flat l) rfl H1.out (sc_one l) (by simp only [maxLen]; omega) (by omega) ?_; intro v' w' hv' ho' hb')
    have F := Lib.hid (show ClonePost w n (flat l) (.returned v') w' from by
      have hbel := (Below.refl w.heap.size w).alloc (Nat.le_refl _) (Obj.cells #[] 31)
      refine ⟨v', rfl, by simpa using hv', hbel.trans (ho'.below (by simp) (fun i hi e => ?_)), fun g hg => ?_⟩
      · have e2 : w.heap.size = i := Option.some.inj e
        omega
      · rcases hb' with e | ⟨g', e, h1, _⟩
        · have e2 : w.heap.size = g := Option.some.inj (e.symm.trans hg)
          omega
        · rw [e] at hg
          injection hg with hg
          simp at h1
          omega)
    clear hv' ho' hb' H H1
    go_wp2_with fail
    go_ret
    exact F.out

def SortedPost (w : World) (n : Nat) (l : List Spot) (e : Ending) (w' : World) : Prop :=
  ∃ v' l', e = .returned v' ∧ l'.Perm l ∧ Sorted l' ∧ Vec w' 3 v' n (flat l') ∧ Below w.heap.size w w' ∧ ∀ g, v'.ownBlock = some g → w.heap.size ≤ g

set_option maxHeartbeats 400000 in
theorem sorted_small (v : Value) (n : Nat) (l : List Spot) (w : World) (h : Reads w 3 v n (flat l)) (hn : n < 20) :
    Calls Try.prog 12 #[v] w (SortedPost w n l) := by
  have hl : l.length = n := by
    have := h.1
    rw [flat_length] at this
    omega
  have C := Lib.hid (clone_any v n l w h (by omega))
  clear h
  go_enter Try.func12, Try.ntmps12
  go_wp2_with fail
  refine C.out.mono ?_
  clear C
  rintro e w1 ⟨v1, rfl, hv1, hb1, hg1⟩
  have C2 := Lib.hid (sortStable_small v1 n l w1 hv1 hl hn)
  have HB := Lib.hid hb1
  have HG := Lib.hid hg1
  clear hv1 hb1 hg1
  go_wp2_with fail
  refine C2.out.mono ?_
  clear C2
  rintro e w2 ⟨rfl, l', hp, hs, hv2, ho⟩
  have F := Lib.hid (show SortedPost w n l (.returned v1) w2 from ⟨v1, l', rfl, hp, hs, by simpa using hv2, HB.out.trans (ho.below HB.out.size (fun i hi e => by have := HG.out i e; omega)), HG.out⟩)
  clear hp hs hv2 ho HB HG
  go_wp2_with fail
  go_ret
  exact F.out
end Go.Proofs.Ytpppphalacojjaa

/- The library's Clone of bytes; the disk in memory; its small calls: Tiles, Dead, may, Read. Conditions: they lie in memory. -/
import Derived.Test.YtojkggppcmdepaaGreatRows
import Derived.Test.YtojkggppcmdepaaGreatVecMore
import Derived.Test.YtojkggppcmdepaaGreatKMap
import Derived.Test.YtojkggppcmdepaaGreatTrM
import Derived.WalkKit
import Derived.WalkSpells
import Derived.WalkLawsBesides
import Derived.Deep.QuietTactic
import Derived.BigQuiet
import Derived.StillTailTactics
import Derived.Deep.RegionLaw
import Derived.Lib.Walk
import Derived.Lib.Hide
import Derived.Deep.RegionHeld3
namespace Go.Proofs.YtojkggppcmdepaaGreat
open Go.RowKit Go.Wh Go.Maps

abbrev Still (w w' : World) : Prop := Only (fun _ => False) w w'
theorem Still.cell {w w' : World} {p : Addr} {u : Value} (h : Still w w') (hc : w.cell? p = some u) : w'.cell? p = some u := (Only.cell h (World.block_lt_of_cell? _ _ hc) fun e => e).trans hc
theorem Still.refl (w : World) : Still w w := Only.refl _ _
theorem still_drew (w : World) : Still w w.drew := Only.drew (Only.refl _ _)
theorem info_b : (Tryz.prog.info? 5).map (fun i => (i.zero, i.size, i.bytes)) = some (some (.int .u8 0), 1, 1) := by kernel_rfl

set_option maxHeartbeats 400000 in
theorem clone_b (v : Value) (n : Nat) (xs : List Value) (w : World) (h : Reads w 1 v n xs) (h1c : ∀ u ∈ xs, u.oneCell' = true) (hn : n ≤ 10000) :
    Calls Tryz.prog 44 #[v] w (FreshPost w 1 n xs) := by
  rcases id h with ⟨hl, ⟨rfl, rfl⟩ | ⟨a, c, rfl, hc⟩⟩
  · have hnil : xs = [] := by simpa using hl
    have F := Lib.hid (show FreshPost w 1 0 xs (.returned (.slice none 0 0)) w from ⟨_, rfl, by rw [hnil]; exact Vec.nil _ _, Below.refl _ _, fun g hg => by cases hg⟩)
    clear h hl hnil
    have hnn := fun W : World => Lib.run_eql_slice_nil (P := Tryz.prog) W 23 5 none 0 0 0 0 Tryz.underlying23
    go_enter Tryz.func44, Tryz.ntmps44
    go_wp2_with fail
    go_ret
    exact F.out
  · obtain ⟨i0, hi, hz0, hz1, hz2⟩ := info_parts info_b
    have H := Lib.hid h
    have HC := Lib.hid h1c
    clear h hl hc h1c
    have hnn := fun W : World => Lib.run_eql_slice_nil (P := Tryz.prog) W 23 5 (some a) n c 0 0 Tryz.underlying23
    go_enter Tryz.func44, Tryz.ntmps44
    have H1 := Lib.hid (H.out.belowAll ((Below.refl _ _).alloc (Nat.le_refl _) (Obj.cells #[] 5)))
    go_wp2_with (at_builtin; refine wpList_append_vec rfl _ _ 23 rfl 5 i0 _ 1 1 Tryz.underlying23 hi hz0 hz1 hz2 rfl (by decide) _ 0 [] rfl (Vec.none_ _ _ _ _) _ n xs rfl H1.out HC.out (by simp only [maxLen]; omega) (by omega) ?_; intro v' w' hv' ho' hb')
    have F := Lib.hid (show FreshPost w 1 n xs (.returned v') w' from by
      have hbel := (Below.refl w.heap.size w).alloc (Nat.le_refl _) (Obj.cells #[] 5)
      refine ⟨v', rfl, by simpa using hv', hbel.trans (ho'.below (by simp) (fun i hi e => ?_)), fun g hg => ?_⟩
      · have e2 : w.heap.size = i := Option.some.inj e
        omega
      · rcases hb' with e | ⟨g', e, h1, h2⟩
        · have e2 : w.heap.size = g := Option.some.inj (e.symm.trans hg)
          have h3 := ho'.size
          simp at h3
          omega
        · rw [e] at hg
          injection hg with hg
          simp at h1
          omega)
    clear hv' ho' hb' H H1 HC
    go_wp2_with fail
    go_ret
    exact F.out

/-- Bytes as cells. -/
def bc (l : List Int) : List Value := l.map fun z => .int .u8 z
theorem bc_one (l : List Int) : ∀ u ∈ bc l, u.oneCell' = true := fun u hu => by
  obtain ⟨z, _, rfl⟩ := List.mem_map.1 hu
  rfl
theorem bc_length (l : List Int) : (bc l).length = l.length := List.length_map _
theorem bc_append (a b : List Int) : bc (a ++ b) = bc a ++ bc b := List.map_append
theorem bc_take (l : List Int) (n : Nat) : (bc l).take n = bc (l.take n) := (List.map_take ..).symm
theorem bc_drop (l : List Int) (n : Nat) : (bc l).drop n = bc (l.drop n) := (List.map_drop ..).symm
theorem bc_get {l : List Int} {i : Nat} {z : Int} (h : l[i]? = some z) : (bc l)[i]? = some (.int .u8 z) := by
  unfold bc
  rw [List.getElem?_map, h]
  rfl

section
variable {w w' : World} {size m n : Nat} {v : Value} {xs : List Value}
theorem Reads.only {S : Nat → Prop} (h : Reads w size v m xs) (ho : Only S w w') (hs : ∀ g, v.ownBlock = some g → ¬ S g) : Reads w' size v m xs := by
  refine ⟨h.1, h.2.imp id ?_⟩
  rintro ⟨a, c, rfl, hc⟩
  refine ⟨a, c, rfl, fun j u hj => ?_⟩
  have h1 := hc j u hj
  refine (ho.cell (World.block_lt_of_cell? _ _ h1) ?_).trans h1
  have h2 : (a.add j).block = a.block := by unfold Addr.add; split <;> rfl
  rw [h2]
  exact hs a.block rfl
theorem Reads.still (h : Reads w size v m xs) (ho : Still w w') : Reads w' size v m xs := Reads.only h ho fun _ _ e => e
theorem Reads.form (h : Reads w size v m xs) : ∃ a c, v = .slice a m c := by
  rcases h.2 with ⟨rfl, rfl⟩ | ⟨a, c, rfl, _⟩
  · exact ⟨_, _, rfl⟩
  · exact ⟨_, _, rfl⟩
end

/-- The disk at d: its tiles' bytes; alive; no operation is to be cut. tv: the row of its tiles, mb: the block of its map. -/
structure DkAt (w : World) (d : Nat) (T : List (List Int)) (tv : Value) (mb : Nat) (vs : List Value) : Prop where
  cells : cellsAt w d [tv, .map (some mb), .bool false, .pointer none]
  t : Vec w 1 tv T.length vs
  ins : ∀ (i : Nat) (l : List Int), T[i]? = some l → ∃ v, vs[i]? = some v ∧ Reads w 1 v 64 (bc l)
  m : ∃ V, kmap w Tryz.prog 3 (fun z : Int => .int .i64 z) mb V
  dm : d ≠ mb
  td : ∀ g, tv.ownBlock = some g → g ≠ d ∧ g ≠ mb ∧ g < w.heap.size
  ia : ∀ v ∈ vs, ∀ g, v.ownBlock = some g → g ≠ d ∧ g ≠ mb ∧ tv.ownBlock ≠ some g ∧ g < w.heap.size
  one : ∀ u ∈ vs, u.oneCell' = true
section
variable {w w' : World} {d mb : Nat} {T : List (List Int)} {tv : Value} {vs : List Value}
theorem DkAt.lt (h : DkAt w d T tv mb vs) : d < w.heap.size ∧ mb < w.heap.size := by
  obtain ⟨V, hm⟩ := h.m
  exact ⟨h.cells.lt, hm.lt⟩
theorem DkAt.only {S : Nat → Prop} (h : DkAt w d T tv mb vs) (ho : Only S w w') (h1 : ¬ S d) (h2 : ¬ S mb) (h3 : ∀ g, tv.ownBlock = some g → ¬ S g) (h4 : ∀ v ∈ vs, ∀ g, v.ownBlock = some g → ¬ S g) : DkAt w' d T tv mb vs := by
  refine ⟨h.cells.only ho h1, h.t.only ho h3, fun i l hi => ?_, ?_, h.dm, fun g hg => ?_, fun v hv g hg => ?_, h.one⟩
  · obtain ⟨v, hv, hr⟩ := h.ins i l hi
    exact ⟨v, hv, Reads.only hr ho (h4 v (List.mem_of_getElem? hv))⟩
  · obtain ⟨V, hm⟩ := h.m
    exact ⟨V, hm.block (ho.block mb hm.lt h2)⟩
  · have := h.td g hg
    exact ⟨this.1, this.2.1, Nat.lt_of_lt_of_le this.2.2 ho.size⟩
  · have := h.ia v hv g hg
    exact ⟨this.1, this.2.1, this.2.2.1, Nat.lt_of_lt_of_le this.2.2.2 ho.size⟩
theorem DkAt.still (h : DkAt w d T tv mb vs) (hs : Still w w') : DkAt w' d T tv mb vs := h.only hs (fun e => e) (fun e => e) (fun _ _ e => e) (fun _ _ _ _ e => e)
theorem DkAt.form (h : DkAt w d T tv mb vs) : ∃ a c, tv = .slice a T.length c := h.t.form'
theorem DkAt.lens (h : DkAt w d T tv mb vs) {i : Nat} {l : List Int} (hi : T[i]? = some l) : l.length = 64 := by
  obtain ⟨v, _, hr⟩ := h.ins i l hi
  have := hr.1
  rw [bc_length] at this
  omega
end

def SamePost (w : World) (v : Value) (e : Ending) (w' : World) : Prop := e = .returned v ∧ w' = w

theorem tiles_any (w : World) (d : Nat) (T : List (List Int)) (tv : Value) (mb : Nat) (vs : List Value) (h : DkAt w d T tv mb vs) :
    Calls Tryz.prog 42 #[.pointer (some ⟨d, 0, none⟩)] w (SamePost w (.int .i64 T.length)) := by
  obtain ⟨a, c, rfl⟩ := h.form
  have c0 : w.cell? ⟨d, 0, none⟩ = some (.slice a T.length c) := h.cells.cell 0
  clear h
  go_enter Tryz.func42, Tryz.ntmps42
  go_wp2_with fail
  go_ret
  exact ⟨rfl, rfl⟩
theorem dead_any (w : World) (d : Nat) (T : List (List Int)) (tv : Value) (mb : Nat) (vs : List Value) (h : DkAt w d T tv mb vs) :
    Calls Tryz.prog 27 #[.pointer (some ⟨d, 0, none⟩)] w (SamePost w (.bool false)) := by
  have c0 : w.cell? ⟨d, 2, none⟩ = some (.bool false) := h.cells.cell 2
  clear h
  go_enter Tryz.func27, Tryz.ntmps27
  go_wp2_with fail
  go_ret
  exact ⟨rfl, rfl⟩
theorem cut_any (w : World) (d : Nat) (T : List (List Int)) (tv : Value) (mb : Nat) (vs : List Value) (h : DkAt w d T tv mb vs) :
    Calls Tryz.prog 50 #[.pointer (some ⟨d, 0, none⟩)] w (SamePost w (.bool false)) := by
  have c0 : w.cell? ⟨d, 3, none⟩ = some (.pointer none) := h.cells.cell 3
  clear h
  go_enter Tryz.func50, Tryz.ntmps50
  go_wp2_with fail
  go_ret
  exact ⟨rfl, rfl⟩
theorem may_any (w : World) (d : Nat) (T : List (List Int)) (tv : Value) (mb : Nat) (vs : List Value) (i : Nat) (h : DkAt w d T tv mb vs) (hi : i < T.length) :
    Calls Tryz.prog 49 #[.pointer (some ⟨d, 0, none⟩), .int .i64 i] w (SamePost w (.int .i64 0)) := by
  obtain ⟨a, c, rfl⟩ := h.form
  have c0 : w.cell? ⟨d, 0, none⟩ = some (.slice a T.length c) := h.cells.cell 0
  have c2 : w.cell? ⟨d, 2, none⟩ = some (.bool false) := h.cells.cell 2
  have b1 : decide ((i : Int) < 0) = false := by simp
  have b2 : decide ((T.length : Int) ≤ (i : Int)) = false := by simp; omega
  have b2' : decide (T.length ≤ i) = false := by simp; omega
  clear h
  go_enter Tryz.func49, Tryz.ntmps49
  go_wp2_with fail
  go_ret
  exact ⟨rfl, rfl⟩
set_option maxHeartbeats 1000000 in
theorem read_any (w : World) (d : Nat) (T : List (List Int)) (tv : Value) (mb : Nat) (vs : List Value) (i : Nat) (l : List Int) (h : DkAt w d T tv mb vs) (hi : T[i]? = some l) :
    Calls Tryz.prog 83 #[.pointer (some ⟨d, 0, none⟩), .int .i64 i] w (fun e w' => ∃ v, e = .returned (.tuple #[v, .int .i64 0]) ∧ Vec w' 1 v 64 (bc l) ∧ Still w w' ∧ ∀ g, v.ownBlock = some g → w.heap.size ≤ g ∧ g < w'.heap.size) := by
  have hl := (List.getElem?_eq_some_iff.1 hi).1
  have HM := Lib.hid (may_any w d T tv mb vs i h hl)
  obtain ⟨v, hv, hr⟩ := h.ins i l hi
  have HC := Lib.hid (clone_b v 64 (bc l) w hr (bc_one l) (by omega))
  obtain ⟨g, o, c, rfl, ht⟩ := h.t.form (by omega)
  have c0 : w.cell? ⟨d, 0, none⟩ = some (.slice (some ⟨g, o, none⟩) T.length c) := h.cells.cell 0
  have c1 : w.cell? ⟨g, o + i, none⟩ = some v := by
    rw [ht.cells i (by omega)]
    exact hv
  have b1 : (0 : Int) ≤ (i : Int) := by omega
  have b2 : (i : Int) < (T.length : Int) := by omega
  clear h hi hl hv hr ht
  go_enter Tryz.func83, Tryz.ntmps83
  go_wp2_with fail
  refine HM.out.mono ?_
  rintro e w1 ⟨rfl, rfl⟩
  go_wp2_with fail
  refine HC.out.mono ?_
  rintro e w2 ⟨v2, rfl, hv2, hb2, hg2⟩
  have F := Lib.hid (show ∃ v, (Ending.returned (.tuple #[v2, .int .i64 0])) = .returned (.tuple #[v, .int .i64 0]) ∧ Vec w2 1 v 64 (bc l) ∧ Still w1 w2 ∧ ∀ g, v.ownBlock = some g → w1.heap.size ≤ g ∧ g < w2.heap.size from ⟨v2, rfl, hv2, Only.ofBelow hb2, hg2⟩)
  clear hv2 hb2 hg2 HC HM
  go_wp2_with fail
  go_ret2
  exact F.out
end Go.Proofs.YtojkggppcmdepaaGreat

/- slices.Clone, Insert, Delete of the library, at one kind of element. Conditions: a slice that may be written, not too long. slices.Clone, Insert, Delete of the library, at one kind of element. Conditions: a slice that may be written, not too long. -/
import Derived.Test.YtedfijmaeoednaaGreatDoorBx02
import Derived.Test.YtedfijmaeoednaaGreatDoorRows
import Derived.WalkKit
import Derived.WalkSpells
import Derived.WalkLawsBesides
import Derived.Deep.QuietTactic
import Derived.BigQuiet
import Derived.StillTailTactics
import Derived.Deep.RegionLaw
import Derived.Lib.Walk
import Derived.Shelf.Spec.SlicesInsert
import Derived.Lib.Hide
namespace Go.Proofs.YtedfijmaeoednaaGreatDoor
open Go.RowKit Go.Wh

theorem info_r : (Tryz.prog.info? 31).map (fun i => (i.zero, i.size, i.bytes)) = some (some (.agg #[.int .i64 0, .int .i64 0]), 2, 16) := by kernel_rfl

set_option maxHeartbeats 400000 in
theorem clone_r (v : Value) (n : Nat) (xs : List Value) (w : World) (h : Reads w 2 v n xs) (h1c : ∀ u ∈ xs, u.oneCell' = true) (hn : n ≤ 10000) :
    Calls Tryz.prog 78 #[v] w (FreshPost w 2 n xs) := by
  rcases id h with ⟨hl, ⟨rfl, rfl⟩ | ⟨a, c, rfl, hc⟩⟩
  · have hnil : xs = [] := by simpa using hl
    have F := Lib.hid (show FreshPost w 2 0 xs (.returned (.slice none 0 0)) w from ⟨_, rfl, by rw [hnil]; exact Vec.nil _ _, Below.refl _ _, fun g hg => by cases hg⟩)
    clear h hl hnil
    have hnn := fun W : World => Lib.run_eql_slice_nil (P := Tryz.prog) W 43 31 none 0 0 0 0 Tryz.underlying43
    go_enter Tryz.func78, Tryz.ntmps78
    go_wp2_with fail
    go_ret
    exact F.out
  · obtain ⟨i0, hi, hz0, hz1, hz2⟩ := info_parts info_r
    have H := Lib.hid h
    have HC := Lib.hid h1c
    clear h hl hc h1c
    have hnn := fun W : World => Lib.run_eql_slice_nil (P := Tryz.prog) W 43 31 (some a) n c 0 0 Tryz.underlying43
    go_enter Tryz.func78, Tryz.ntmps78
    have H1 := Lib.hid (H.out.belowAll ((Below.refl _ _).alloc (Nat.le_refl _) (Obj.cells #[] 31)))
    go_wp2_with (at_builtin; refine wpList_append_vec rfl _ _ 43 rfl 31 i0 _ 2 16 Tryz.underlying43 hi hz0 hz1 hz2 rfl (by decide) _ 0 [] rfl (Vec.none_ _ _ _ _) _ n xs rfl H1.out HC.out (by simp only [maxLen]; omega) (by omega) ?_; intro v' w' hv' ho' hb')
    have F := Lib.hid (show FreshPost w 2 n xs (.returned v') w' from by
      have hbel := (Below.refl w.heap.size w).alloc (Nat.le_refl _) (Obj.cells #[] 31)
      refine ⟨v', rfl, by simpa using hv', hbel.trans (ho'.below (by simp) (fun i hi e => ?_)), fun g hg => ?_⟩
      · have e2 : w.heap.size = i := Option.some.inj e
        omega
      · rcases hb' with e | ⟨g', e, h1, h2⟩
        · have e2 : w.heap.size = g := Option.some.inj (e.symm.trans hg)
          have h3 := ho'.size
          simp at h3
          omega
        · rw [e] at hg
          injection hg with hg
          simp at h1
          omega)
    clear hv' ho' hb' H H1 HC
    go_wp2_with fail
    go_ret
    exact F.out


theorem overlaps_r (w : World) (vb g p la ca lb cb : Nat) (item : List Value) (hb : cellsAt w vb item) (hg : vb ≠ g) (t : TypeId) (k : Nat) (hs : w.shape? g = some (t, k)) (hk : k ≠ 0) :
    (callFunc 101 #[.slice (some ⟨vb, 0, none⟩) la ca, .slice (some ⟨g, p, none⟩) lb cb]).run Tryz.prog w = .ok (.value (.bool false)) w := by
  obtain ⟨i0, hi, _, hz1, _⟩ := info_parts info_r
  obtain ⟨tA, hsa⟩ := hb.shape
  have hz : ∀ w, (Go.sizeOf 31).run Tryz.prog w = .ok 2 w := fun w => by simp [sizeOf, typeInfo, hi, hz1]
  rw [run_callFunc_extern Tryz.func101 (by kernel_rfl) (by kernel_rfl) (by kernel_rfl) (e := Extern.SlicesOverlaps.overlaps #[43, 43] #[4]) (by kernel_rfl),
    Lib.run_overlaps_apart w 43 4 31 Tryz.underlying43 2 hz ⟨vb, 0, none⟩ ⟨g, p, none⟩ la ca lb cb hg tA t item.length k hsa hs hk (hb.free 0) (hb.free item.length)]
  rfl

set_option maxHeartbeats 1000000 in
set_option maxRecDepth 100000 in
theorem insert_r (v : Value) (n : Nat) (xs : List Value) (vb : Nat) (item : List Value) (i : Nat) (w : World) (h : Vec w 2 v n xs) (hb : cellsAt w vb item) (hl : item.length = 2)
    (h1x : ∀ u ∈ xs, u.oneCell' = true) (h1i : ∀ u ∈ item, u.oneCell' = true) (hne : v.ownBlock ≠ some vb) (hi : i ≤ n) (hn : n ≤ 10000) :
    Calls Tryz.prog 74 #[v, .int .i64 i, .slice (some ⟨vb, 0, none⟩) 1 1] w (TurnedPost w v 2 (n + 1) (xs.take (i * 2) ++ item ++ xs.drop (i * 2))) := by
  obtain ⟨i0, hi0, hz0, hz1, hz2⟩ := info_parts info_r
  have hr : Reads w 2 (.slice (some ⟨vb, 0, none⟩) 1 1) 1 item := hb.reads (by simpa using hl)
  by_cases hin : i = n
  · subst hin
    have hx := h.len
    have ht : xs.take (i * 2) = xs := List.take_of_length_le (by omega)
    have hd : xs.drop (i * 2) = [] := List.drop_eq_nil_of_le (by omega)
    rw [ht, hd, List.append_nil]
    obtain ⟨a, cap, rfl⟩ := h.form'
    have hcap : i ≤ cap := by
      rcases h with ⟨he, rfl, _⟩ | ⟨g, o, cap', he, h⟩
      · omega
      · cases he; exact h.le
    have H := Lib.hid h
    have HR := Lib.hid hr
    have HI := Lib.hid h1i
    clear h hb hr h1x h1i hne ht hd hx hl
    have t1 : (0 : Int) ≤ (i : Int) := by omega
    have t2 : (i : Int) ≤ (cap : Int) := by omega
    cases a with
    | none =>
      go_enter Tryz.func74, Tryz.ntmps74
      go_wp2_with (at_builtin; refine wpList_append_vec rfl _ _ 43 rfl 31 i0 _ 2 16 Tryz.underlying43 hi0 hz0 hz1 hz2 rfl (by decide) _ _ xs rfl H.out _ 1 item rfl HR.out HI.out (by simp only [maxLen]; omega) (by omega) ?_; intro v' w' hv' ho' hb')
      have F := Lib.hid (show TurnedPost w _ 2 (i + 1) (xs ++ item) (.returned v') w' from ⟨v', rfl, hv', ho', hb'⟩)
      clear hv' ho' hb' H HR HI
      go_wp2_with fail
      go_ret
      exact F.out
    | some a =>
      go_enter Tryz.func74, Tryz.ntmps74
      go_wp2_with (at_builtin; refine wpList_append_vec rfl _ _ 43 rfl 31 i0 _ 2 16 Tryz.underlying43 hi0 hz0 hz1 hz2 rfl (by decide) _ _ xs rfl H.out _ 1 item rfl HR.out HI.out (by simp only [maxLen]; omega) (by omega) ?_; intro v' w' hv' ho' hb')
      all_goals (
        have F := Lib.hid (show TurnedPost w _ 2 (i + 1) (xs ++ item) (.returned v') w' from ⟨v', rfl, hv', ho', hb'⟩)
        clear hv' ho' hb' H HR HI
        go_wp2_with fail
        go_ret
        exact F.out)
  · have hlt : i < n := by omega
    obtain ⟨g, o, cap, rfl, hv⟩ := h.form (by omega)
    have hne' : vb ≠ g := fun e => hne (by rw [e]; rfl)
    have hcap := hv.small
    have hx := hv.len
    have hncap := hv.le
    have hsz : (Tryz.prog.info? 31).map (·.size) = some 2 := by rw [hi0]; simp [hz1]
    have hs1 : 2 * cap = cap * 2 := Nat.mul_comm _ _
    obtain ⟨tG, kG, hsh, hkG⟩ := hv.shape (by omega)
    have hov : ∀ p lb cb, (callFunc 101 #[.slice (some ⟨vb, 0, none⟩) 1 1, .slice (some ⟨g, p, none⟩) lb cb]).run Tryz.prog w = .ok (.value (.bool false)) w := fun p lb cb =>
      overlaps_r w vb g p 1 1 lb cb item hb hne' tG kG hsh hkG
    have hw1 : IntKind.i64.wrap ((i : Int) + 1) = (i : Int) + 1 := by rw [IntKind.wrap_i64]; omega
    have hb1 : (0 : Int) ≤ (i : Int) + 1 := by omega
    have htn : ((i : Int) + 1).toNat = i + 1 := by omega
    have hb3 : (i : Int) ≤ (n : Int) := by omega
    have hb0 : (0 : Int) ≤ (i : Int) := by omega
    have hb5 : (i : Int) + 1 ≤ (n : Int) := by omega
    have hz2' : ((i : Int) == (n : Int)) = false := by simp; omega
    have hb4 : ¬ (cap = i) := by omega
    simp only [maxLen] at hcap
    have hcap' : (cap : Int) ≤ 9223372036854775807 := by omega
    have mn1 : Nat.min (n + 1 - i) (n - i) = n - i := by simp only [Nat.min_def]; split <;> omega
    have mn2 : Nat.min 1 (n + 1 - i) = 1 := by simp only [Nat.min_def]; split <;> omega
    have hdl : (xs.drop (i * 2)).length = (n - i) * 2 := by rw [List.length_drop]; omega
    have hdo : ∀ u ∈ xs.drop (i * 2), u.oneCell' = true := fun u hu => h1x u (List.mem_of_mem_drop hu)
    by_cases hroom : n + 1 ≤ cap
    · obtain ⟨junk, hj, hW⟩ := hv.wide (n + 1) (by omega) hroom
      have hD : VecAt w.drew 2 g o (n + 1) cap (xs ++ junk) := hW.block rfl
      have hb2 : ¬ (cap = i + 1) := by omega
      have hb6 : (n : Int) + 1 ≤ (cap : Int) := by omega
      have hb7 : (i : Int) ≤ (n : Int) + 1 := by omega
      have C1 := fun ty dc sc => run_copy_at (P := Tryz.prog) 43 43 ty 31 Tryz.underlying43 hsz hD (i + 1) (n - i) dc ⟨g, o + i * 2, none⟩ (n + 1 - i) sc (xs.drop (i * 2)) (by rw [mn1, hdl]) (by rw [mn1]; omega)
        (fun j u hj => by
          rw [Addr.add_lit, Nat.add_assoc, hD.cells (i * 2 + j) (by have := (List.getElem?_eq_some_iff.1 hj).1; omega), List.getElem?_append_left (by have := (List.getElem?_eq_some_iff.1 hj).1; omega)]
          rwa [List.getElem?_drop] at hj) hdo
      rw [mn1] at C1
      obtain ⟨L, hL⟩ : ∃ L, L = (xs ++ junk).take ((i + 1) * 2) ++ xs.drop (i * 2) ++ (xs ++ junk).drop ((i + 1 + (n - i)) * 2) := ⟨_, rfl⟩
      rw [← hL] at C1
      obtain ⟨W1, hW1⟩ : ∃ W1, W1 = w.drew.setCells g (o + (i + 1) * 2) (xs.drop (i * 2)) := ⟨_, rfl⟩
      rw [← hW1] at C1
      have hV1 : VecAt W1 2 g o (n + 1) cap L := (C1 0 0 0).2
      have hO1 : Only (fun k => k = g) w W1 := by rw [hW1]; exact Only.undrew (setCells_only w.drew g _ _)
      have hB1 : cellsAt W1 vb item := hb.only hO1 hne'
      have C2 := fun ty dc => run_copy_at (P := Tryz.prog) 43 43 ty 31 Tryz.underlying43 hsz hV1 i (n + 1 - i) dc ⟨vb, 0, none⟩ 1 1 item (by rw [mn2, hl]) (by rw [mn2]; omega)
        (fun j u hj => by
          rw [Addr.add_lit, Nat.zero_add, hB1.cell]
          exact hj) h1i
      rw [mn2, shift_list xs junk item n i 2 hx hj hlt L hL] at C2
      obtain ⟨W2, hW2⟩ : ∃ W2, W2 = W1.setCells g (o + i * 2) item := ⟨_, rfl⟩
      rw [← hW2] at C2
      have hO2 : Only (fun k => k = g) w W2 := by rw [hW2]; exact hO1.trans (setCells_only W1 g _ _)
      have F := Lib.hid (show TurnedPost w (.slice (some ⟨g, o, none⟩) n cap) 2 (n + 1) (xs.take (i * 2) ++ item ++ xs.drop (i * 2)) (.returned (.slice (some ⟨g, o, none⟩) (n + 1) cap)) W2 from
        ⟨_, rfl, .inr ⟨g, o, cap, rfl, (C2 0 0).2⟩, hO2.mono (fun k e => by rw [e]; rfl), .inl rfl⟩)
      have R1 := Lib.hid (fun ty dc sc => (C1 ty dc sc).1)
      have R2 := Lib.hid (fun ty dc => (C2 ty dc).1)
      clear C1 C2 hW1 hW2 hV1 hO1 hO2 hB1 hL hD hW hj hdo hdl mn1 mn2 hsz hsh hkG hx hv hr hb h1x h1i hne h hs1
      go_enter Tryz.func74, Tryz.ntmps74
      go_wp2_with (simp only [hov])
      go_region_law (refine Go.Proofs.step_copy_runI rfl _ _ 43 43 rfl (.slice (some ⟨g, o + (i + 1) * 2, none⟩) (n - i) (cap - (i + 1))) (.slice (some ⟨g, o + i * 2, none⟩) (n + 1 - i) (cap - i)) (by simp [Act.eval, Act.put]) (by simp [Act.eval, Act.put]) (R1.out 3 (cap - (i + 1)) (cap - i)) ?_)
      go_wp2_with (with_reducible refine Go.Proofs.wpList_copy_runI _ rfl _ _ 43 43 rfl (.slice (some ⟨g, o + i * 2, none⟩) (n + 1 - i) (cap - i)) (.slice (some ⟨vb, 0, none⟩) 1 1) rfl rfl (R2.out 3 (cap - i)) ?_)
      go_ret
      exact F.out
    · have hbw : g < w.heap.size := hv.lt (by omega)
      have hvw : vb < w.heap.size := hb.lt
      have hold : (Builtin.firstCells i0.size i (.slice (some ⟨g, o, none⟩) i cap)).run Tryz.prog w.drew = .ok (xs.take (i * 2)).toArray w.drew := by
        rw [hz1]
        exact run_firstCells_some w.drew 2 i ⟨g, o, none⟩ i cap (xs.take (i * 2)) (by rw [List.length_take]; omega) (fun j u hj => by
          have hlt' := (List.getElem?_eq_some_iff.1 hj).1
          rw [List.length_take] at hlt'
          rw [Addr.add_lit]
          change w.cell? ⟨g, o + j, none⟩ = some u
          rw [hv.cells j (by omega)]
          rw [List.getElem?_take] at hj
          split at hj
          · exact hj
          · cases hj)
      have hkk : (n : Int) + 1 - (i : Int) = ((n + 1 - i : Nat) : Int) := by omega
      have hik : i + (n + 1 - i) = n + 1 := by omega
      obtain ⟨G, hG⟩ : ∃ G, G = grownCap w (n + 1) cap 31 := ⟨_, rfl⟩
      have hGn : n + 1 ≤ G := by rw [hG]; exact grownCap_ge w _ _ _
      have hG63 : G ≤ maxLen := by rw [hG]; exact grownCap_le_maxLen w (n + 1) cap 31 (by simp only [maxLen]; omega)
      obtain ⟨z, hzz⟩ : ∃ z : Value, i0.zero = some z ∧ z.cells.size = 2 := ⟨_, hz0, rfl⟩
      obtain ⟨ROW, hROW⟩ : ∃ ROW : Array Value, ROW = (xs.take (i * 2)).toArray ++ Builtin.zeroCells z.cells (n + 1 - i) ++ Builtin.zeroCells z.cells (G - (n + 1)) := ⟨_, rfl⟩
      obtain ⟨W1, hW1⟩ : ∃ W1, W1 = w.drew.alloc (.cells ROW 31) := ⟨_, rfl⟩
      have hrz : ∀ ty, (Builtin.append_ #[43, 3] ty #[.slice (some ⟨g, o, none⟩) i cap, .int .i64 ((n : Int) + 1 - (i : Int))]).run Tryz.prog w = .ok (.slice (some ⟨w.heap.size, 0, none⟩) (n + 1) G) W1 := fun ty => by
        have h := Lib.run_append_grow_zeros w 43 3 ty 31 i0 z .i64 .i64 Tryz.underlying43 Tryz.underlying3 hi0 hzz.1 (some ⟨g, o, none⟩) i cap (xs.take (i * 2)) hold (n + 1 - i) (by omega) (by omega) (by omega) (by omega) (by rw [hz2]; omega) (by rw [hz2, hik]; exact growslice_fits (by omega) (by omega))
        rw [hik, ← hG, ← hROW, ← hW1] at h
        rw [hkk]
        exact h
      have hzl : (Builtin.zeroCells z.cells (n + 1 - i)).toList.length = (n + 1 - i) * 2 := by simp [Builtin.zeroCells, hzz.2]
      have htl : (xs.take (i * 2)).length = i * 2 := by rw [List.length_take]; omega
      have hRl : ROW.size = G * 2 := by
        rw [hROW]
        simp only [Array.size_append, List.size_toArray, htl]
        simp [Builtin.zeroCells, hzz.2]
        omega
      obtain ⟨L0, hL0⟩ : ∃ L0, L0 = xs.take (i * 2) ++ (Builtin.zeroCells z.cells (n + 1 - i)).toList := ⟨_, rfl⟩
      have hRt : ROW.toList.take ((n + 1) * 2) = L0 := by
        rw [hROW, hL0]
        simp only [Array.toList_append]
        rw [List.take_append_of_le_length (by rw [List.length_append, htl, hzl]; omega), List.take_of_length_le (by rw [List.length_append, htl, hzl]; omega)]
      have hV1 : VecAt W1 2 w.heap.size 0 (n + 1) G L0 := by
        rw [← hRt]
        exact vecAt_block (t := 31) (by rw [hW1]; exact heap_alloc_new w.drew _) hRl hGn hG63
      have hB1 : cellsAt W1 vb item := by rw [hW1]; exact hb.drew.alloc _
      have hO1 : Only (fun _ => False) w W1 := by rw [hW1]; exact (Only.refl _ w).drew.alloc _
      have C1 := fun ty dc => run_copy_at (P := Tryz.prog) 43 43 ty 31 Tryz.underlying43 hsz hV1 i (n + 1 - i) dc ⟨vb, 0, none⟩ 1 1 item (by rw [mn2, hl]) (by rw [mn2]; omega)
        (fun j u hj => by
          rw [Addr.add_lit, Nat.zero_add, hB1.cell]
          exact hj) h1i
      rw [mn2] at C1
      obtain ⟨L1, hL1⟩ : ∃ L1, L1 = L0.take (i * 2) ++ item ++ L0.drop ((i + 1) * 2) := ⟨_, rfl⟩
      obtain ⟨W2, hW2⟩ : ∃ W2, W2 = W1.setCells w.heap.size (0 + i * 2) item := ⟨_, rfl⟩
      rw [← hL1, ← hW2] at C1
      have hO2 : Only (fun _ => False) w W2 := by
        rw [hW2]
        exact hO1.andThen (setCells_only W1 w.heap.size _ _) (fun k hk e => by omega)
      have hD : VecAt W2.drew 2 w.heap.size 0 (n + 1) G L1 := (C1 0 0).2.block rfl
      have mn3 : Nat.min (n - i) (n - i) = n - i := by simp only [Nat.min_def]; split <;> omega
      have C2 := fun ty dc sc => run_copy_at (P := Tryz.prog) 43 43 ty 31 Tryz.underlying43 hsz hD (i + 1) (n - i) dc ⟨g, o + i * 2, none⟩ (n - i) sc (xs.drop (i * 2)) (by rw [mn3, hdl]) (by rw [mn3]; omega)
        (fun j u hj => by
          have hlt' := (List.getElem?_eq_some_iff.1 hj).1
          rw [Addr.add_lit, Nat.add_assoc]
          change W2.cell? ⟨g, o + (i * 2 + j), none⟩ = some u
          rw [hO2.cell hbw (fun h => h), hv.cells (i * 2 + j) (by omega)]
          rwa [List.getElem?_drop] at hj) hdo
      rw [mn3, grow_list xs _ item n i 2 hx hzl hlt hl L0 L1 hL0 hL1] at C2
      obtain ⟨W3, hW3⟩ : ∃ W3, W3 = W2.drew.setCells w.heap.size (0 + (i + 1) * 2) (xs.drop (i * 2)) := ⟨_, rfl⟩
      rw [← hW3] at C2
      have hO3 : Only (fun _ => False) w W3 := by
        rw [hW3]
        exact hO2.drew.andThen (setCells_only W2.drew w.heap.size _ _) (fun k hk e => by omega)
      have hlt3 : w.heap.size < W3.heap.size := by
        have h1 := hO3.size
        have h2 : (W3.cell? ⟨w.heap.size, 0 + 0, none⟩).isSome = true := ((C2 0 0 0).2.room 0 (by omega)).1
        obtain ⟨u, hu⟩ := Option.isSome_iff_exists.1 h2
        exact lt_of_cell hu
      have F := Lib.hid (show TurnedPost w (.slice (some ⟨g, o, none⟩) n cap) 2 (n + 1) (xs.take (i * 2) ++ item ++ xs.drop (i * 2)) (.returned (.slice (some ⟨w.heap.size, 0, none⟩) (n + 1) G)) W3 from
        ⟨_, rfl, .inr ⟨w.heap.size, 0, G, rfl, (C2 0 0 0).2⟩, hO3.mono (fun k e => e.elim), .inr ⟨_, rfl, Nat.le_refl _, hlt3⟩⟩)
      have R0 := Lib.hid hrz
      have R1 := Lib.hid (fun ty dc => (C1 ty dc).1)
      have R2 := Lib.hid (fun ty dc sc => (C2 ty dc sc).1)
      simp only [Nat.zero_add] at R1 R2
      have hGi : ¬ (G = i) := by omega
      have hGim : ¬ (G = i + 1) := by omega
      have hb6 : (cap : Int) < (n : Int) + 1 := by omega
      have hb7 : (i : Int) ≤ (n : Int) + 1 := by omega
      have hb8 : (i : Int) ≤ (cap : Int) := by omega
      have hG' : (G : Int) ≤ 9223372036854775807 := by simp only [maxLen] at hG63; omega
      have hb9 : (n : Int) + 1 ≤ (G : Int) := by omega
      clear C1 C2 hW1 hW2 hW3 hV1 hO1 hO2 hO3 hB1 hL0 hL1 hD hdo hdl mn1 mn2 mn3 hsz hsh hkG hx hv hr hb h1x h1i hne h hs1 hlt3 hRt hRl htl hzl hrz hROW hzz hG hG63 hold hkk hik hov hbw hvw
      go_enter Tryz.func74, Tryz.ntmps74
      go_wp2_with (first
        | (at_builtin; refine Lib.wpList_append_run _ rfl _ _ _ _ rfl _ _ rfl rfl _ _ (R0.out _) ?_)
        | (with_reducible refine Go.Proofs.wpList_copy_runI _ rfl _ _ 43 43 rfl (.slice (some ⟨w.heap.size, i * 2, none⟩) (n + 1 - i) (G - i)) (.slice (some ⟨vb, 0, none⟩) 1 1) rfl rfl (R1.out 3 (G - i)) ?_))
      go_region_law (refine Go.Proofs.step_copy_runI rfl _ _ 43 43 rfl (.slice (some ⟨w.heap.size, (i + 1) * 2, none⟩) (n - i) (G - (i + 1))) (.slice (some ⟨g, o + i * 2, none⟩) (n - i) (cap - i)) (by simp [Act.eval, Act.put]) (by simp [Act.eval, Act.put]) (R2.out 3 (G - (i + 1)) (cap - i)) ?_)
      go_wp2_with fail
      go_ret
      exact F.out

set_option maxHeartbeats 1000000 in
set_option maxRecDepth 100000 in
theorem delete_r (v : Value) (n : Nat) (xs : List Value) (i : Nat) (w : World) (h : Vec w 2 v n xs) (h1x : ∀ u ∈ xs, u.oneCell' = true) (hi : i < n) (hn : n ≤ 10000) :
    Calls Tryz.prog 63 #[v, .int .i64 i, .int .i64 ((i : Int) + 1)] w (TurnedPost w v 2 (n - 1) (xs.take (i * 2) ++ xs.drop ((i + 1) * 2))) := by
  obtain ⟨i0, hi0, hz0, hz1, hz2⟩ := info_parts info_r
  obtain ⟨g, o, cap, rfl, hv⟩ := h.form (by omega)
  have hcap := hv.small
  have hx := hv.len
  have hncap := hv.le
  simp only [maxLen] at hcap
  have hD : VecAt w.drew 2 g o n cap xs := hv.block rfl
  have hA : VecAt w.drew 2 g o i cap (xs.take (i * 2)) := hD.short i (by omega)
  have hdl : (xs.drop ((i + 1) * 2)).length = (n - (i + 1)) * 2 := by rw [List.length_drop]; omega
  have hdo : ∀ u ∈ xs.drop ((i + 1) * 2), u.oneCell' = true := fun u hu => h1x u (List.mem_of_mem_drop hu)
  have hM := hA.more (n - (i + 1)) (xs.drop ((i + 1) * 2)) hdl (by omega)
  rw [show i + (n - (i + 1)) = n - 1 by omega] at hM
  obtain ⟨W1, hW1⟩ : ∃ W1, W1 = w.drew.setCells g (o + i * 2) (xs.drop ((i + 1) * 2)) := ⟨_, rfl⟩
  rw [← hW1] at hM
  have hO1 : Only (fun k => k = g) w W1 := by rw [hW1]; exact Only.undrew (setCells_only w.drew g _ _)
  have hra : ∀ ty (ad : Addr) c, (n - (i + 1) = 0 ∨ ad = ⟨g, o + (i + 1) * 2, none⟩) → (Builtin.append_ #[43, 43] ty #[.slice (some ⟨g, o, none⟩) i cap, .slice (some ad) (n - (i + 1)) c]).run Tryz.prog w.drew = .ok (.slice (some ⟨g, o, none⟩) (n - 1) cap) W1 := fun ty ad c had => by
    have hr := run_append_room_cells (P := Tryz.prog) w.drew 43 ty 31 i0 Tryz.underlying43 hi0 g o i cap ad (n - (i + 1)) c (xs.drop ((i + 1) * 2)) (by rw [hz1]; exact hdl)
      (fun j u hj => by
        have hlt' := (List.getElem?_eq_some_iff.1 hj).1
        rcases had with h0 | rfl
        · omega
        · rw [Addr.add_lit, Nat.add_assoc, hD.cells ((i + 1) * 2 + j) (by omega)]
          rwa [List.getElem?_drop] at hj) hdo (by omega)
      (fun j hj => by rw [hz1, Nat.add_assoc]; exact (hD.room _ (by omega)).1) (fun j hj => by rw [hz1, Nat.add_assoc]; exact (hD.room _ (by omega)).2)
    rw [hz1, ← hW1, show i + (n - (i + 1)) = n - 1 by omega] at hr
    exact hr
  have hzv : ∀ w, (zeroValue 31).run Tryz.prog w = .ok (.agg #[.int .i64 0, .int .i64 0]) w := fun w => by simp [zeroValue, typeInfo, hi0, hz0]
  obtain ⟨zs, hzl, hcl⟩ : ∃ zs : List Value, zs.length = 1 * 2 ∧ ∀ ty c, (Builtin.clear_ #[43] ty #[.slice (some ⟨g, o + (n - 1) * 2, none⟩) 1 c]).run Tryz.prog W1 = .ok (.tuple #[]) (W1.setCells g (o + (n - 1) * 2) zs) := by
    have hroom : ∀ j, j < 1 * 2 → (W1.cell? ⟨g, o + (n - 1) * 2 + j, none⟩).isSome = true ∧ W1.frozen? ⟨g, o + (n - 1) * 2 + j, none⟩ = false := fun j hj => by
      rw [Nat.add_assoc]
      exact hM.room _ (by omega)
    exact run_clear_size (P := Tryz.prog) (w := W1) (size := 2) 43 31 _ Tryz.underlying43 hzv rfl (by intro u hu; simp [Value.cells] at hu; first | (subst hu; rfl) | (rcases hu with rfl | rfl <;> rfl) | (rcases hu with rfl | rfl | rfl <;> rfl)) g (o + (n - 1) * 2) 1 (fun j hj => (hroom j hj).1) (fun j hj => (hroom j hj).2)
  obtain ⟨W2, hW2⟩ : ∃ W2, W2 = W1.setCells g (o + (n - 1) * 2) zs := ⟨_, rfl⟩
  rw [← hW2] at hcl
  have hV2 : VecAt W2 2 g o (n - 1) cap (xs.take (i * 2) ++ xs.drop ((i + 1) * 2)) := by rw [hW2]; exact hM.beyond _ _ (Nat.le_refl _)
  have hO2 : Only (fun k => k = g) w W2 := by rw [hW2]; exact hO1.trans (setCells_only W1 g _ _)
  have F := Lib.hid (show TurnedPost w (.slice (some ⟨g, o, none⟩) n cap) 2 (n - 1) (xs.take (i * 2) ++ xs.drop ((i + 1) * 2)) (.returned (.slice (some ⟨g, o, none⟩) (n - 1) cap)) W2 from
    ⟨_, rfl, .inr ⟨g, o, cap, rfl, hV2⟩, hO2.mono (fun k e => by rw [e]; rfl), .inl rfl⟩)
  have R1 := Lib.hid hra
  have R2 := Lib.hid hcl
  clear hra hcl hW1 hW2 hV2 hO2 hO1 hM hA hD hdl hdo hx hv h h1x hzl hzv
  have b1 : (0 : Int) ≤ (i : Int) := by omega
  have b2 : (i : Int) ≤ (i : Int) + 1 := by omega
  have b3 : (i : Int) + 1 ≤ (n : Int) := by omega
  have b4 : (n : Int) ≤ (cap : Int) := by omega
  have b5 : ((i : Int) == (i : Int) + 1) = false := by simp; omega
  have b6 : ((i : Int) + 1).toNat = i + 1 := by omega
  have b7 : (i : Int) ≤ (cap : Int) := by omega
  have b8 : (((n - 1 : Nat) : Int)) ≤ (n : Int) := by omega
  have b9 : (n : Int) ≤ (cap : Int) := by omega
  have b10 : n - (n - 1) = 1 := by omega
  have b11 : ¬ (cap = n - 1) := by omega
  have b12 : (0 : Int) ≤ (i : Int) + 1 := by omega
  by_cases hc : cap = i + 1
  · have hni : n - (i + 1) = 0 := by omega
    have R1' := Lib.hid (R1.out 43 ⟨g, o, none⟩ 0 (.inl hni))
    rw [hni] at R1'
    have hn1 : n = i + 1 := by omega
    subst hn1
    subst hc
    simp only [Nat.add_sub_cancel] at R1' R2 F
    clear R1 b8 b10 b11 hni
    have b11 : ¬ (i + 1 = i) := by omega
    have b13 : i + 1 - i = 1 := by omega
    go_enter Tryz.func63, Tryz.ntmps63
    go_wp2_with fail
    go_region_law (refine step_append_run rfl _ _ 43 43 rfl (.slice (some ⟨g, o, none⟩) i (i + 1)) (.slice (some ⟨g, o, none⟩) 0 0) (by simp [Act.eval, Act.put]) (by simp [Act.eval, Act.put]) R1'.out ?_)
    go_wp2_with (with_reducible refine wpList_clear_run _ rfl _ 43 rfl (.slice (some ⟨g, o + i * 2, none⟩) 1 1) rfl (R2.out _ 1) ?_)
    go_ret
    exact F.out
  · have R1' := Lib.hid (R1.out 43 ⟨g, o + (i + 1) * 2, none⟩ (cap - (i + 1)) (.inr rfl))
    go_enter Tryz.func63, Tryz.ntmps63
    go_wp2_with fail
    go_region_law (refine step_append_run rfl _ _ 43 43 rfl (.slice (some ⟨g, o, none⟩) i cap) (.slice (some ⟨g, o + (i + 1) * 2, none⟩) (n - (i + 1)) (cap - (i + 1))) (by simp [Act.eval, Act.put]) (by simp [Act.eval, Act.put]) R1'.out ?_)
    go_wp2_with (with_reducible refine wpList_clear_run _ rfl _ 43 rfl (.slice (some ⟨g, o + (n - 1) * 2, none⟩) 1 (cap - (n - 1))) rfl (R2.out _ (cap - (n - 1))) ?_)
    go_ret
    exact F.out
end Go.Proofs.YtedfijmaeoednaaGreatDoor

namespace Go.Proofs.YtedfijmaeoednaaGreatDoor
open Go.RowKit Go.Wh

theorem info_n : (Tryz.prog.info? 89).map (fun i => (i.zero, i.size, i.bytes)) = some (some (.pointer none), 1, 8) := by kernel_rfl

set_option maxHeartbeats 400000 in
theorem clone_n (v : Value) (n : Nat) (xs : List Value) (w : World) (h : Reads w 1 v n xs) (h1c : ∀ u ∈ xs, u.oneCell' = true) (hn : n ≤ 10000) :
    Calls Tryz.prog 77 #[v] w (FreshPost w 1 n xs) := by
  rcases id h with ⟨hl, ⟨rfl, rfl⟩ | ⟨a, c, rfl, hc⟩⟩
  · have hnil : xs = [] := by simpa using hl
    have F := Lib.hid (show FreshPost w 1 0 xs (.returned (.slice none 0 0)) w from ⟨_, rfl, by rw [hnil]; exact Vec.nil _ _, Below.refl _ _, fun g hg => by cases hg⟩)
    clear h hl hnil
    have hnn := fun W : World => Lib.run_eql_slice_nil (P := Tryz.prog) W 92 89 none 0 0 0 0 Tryz.underlying92
    go_enter Tryz.func77, Tryz.ntmps77
    go_wp2_with fail
    go_ret
    exact F.out
  · obtain ⟨i0, hi, hz0, hz1, hz2⟩ := info_parts info_n
    have H := Lib.hid h
    have HC := Lib.hid h1c
    clear h hl hc h1c
    have hnn := fun W : World => Lib.run_eql_slice_nil (P := Tryz.prog) W 92 89 (some a) n c 0 0 Tryz.underlying92
    go_enter Tryz.func77, Tryz.ntmps77
    have H1 := Lib.hid (H.out.belowAll ((Below.refl _ _).alloc (Nat.le_refl _) (Obj.cells #[] 89)))
    go_wp2_with (at_builtin; refine wpList_append_vec rfl _ _ 92 rfl 89 i0 _ 1 8 Tryz.underlying92 hi hz0 hz1 hz2 rfl (by decide) _ 0 [] rfl (Vec.none_ _ _ _ _) _ n xs rfl H1.out HC.out (by simp only [maxLen]; omega) (by omega) ?_; intro v' w' hv' ho' hb')
    have F := Lib.hid (show FreshPost w 1 n xs (.returned v') w' from by
      have hbel := (Below.refl w.heap.size w).alloc (Nat.le_refl _) (Obj.cells #[] 89)
      refine ⟨v', rfl, by simpa using hv', hbel.trans (ho'.below (by simp) (fun i hi e => ?_)), fun g hg => ?_⟩
      · have e2 : w.heap.size = i := Option.some.inj e
        omega
      · rcases hb' with e | ⟨g', e, h1, h2⟩
        · have e2 : w.heap.size = g := Option.some.inj (e.symm.trans hg)
          have h3 := ho'.size
          simp at h3
          omega
        · rw [e] at hg
          injection hg with hg
          simp at h1
          omega)
    clear hv' ho' hb' H H1 HC
    go_wp2_with fail
    go_ret
    exact F.out


theorem overlaps_n (w : World) (vb g p la ca lb cb : Nat) (item : List Value) (hb : cellsAt w vb item) (hg : vb ≠ g) (t : TypeId) (k : Nat) (hs : w.shape? g = some (t, k)) (hk : k ≠ 0) :
    (callFunc 103 #[.slice (some ⟨vb, 0, none⟩) la ca, .slice (some ⟨g, p, none⟩) lb cb]).run Tryz.prog w = .ok (.value (.bool false)) w := by
  obtain ⟨i0, hi, _, hz1, _⟩ := info_parts info_n
  obtain ⟨tA, hsa⟩ := hb.shape
  have hz : ∀ w, (Go.sizeOf 89).run Tryz.prog w = .ok 1 w := fun w => by simp [sizeOf, typeInfo, hi, hz1]
  rw [run_callFunc_extern Tryz.func103 (by kernel_rfl) (by kernel_rfl) (by kernel_rfl) (e := Extern.SlicesOverlaps.overlaps #[92, 92] #[4]) (by kernel_rfl),
    Lib.run_overlaps_apart w 92 4 89 Tryz.underlying92 1 hz ⟨vb, 0, none⟩ ⟨g, p, none⟩ la ca lb cb hg tA t item.length k hsa hs hk (hb.free 0) (hb.free item.length)]
  rfl

set_option maxHeartbeats 1000000 in
set_option maxRecDepth 100000 in
theorem insert_n (v : Value) (n : Nat) (xs : List Value) (vb : Nat) (item : List Value) (i : Nat) (w : World) (h : Vec w 1 v n xs) (hb : cellsAt w vb item) (hl : item.length = 1)
    (h1x : ∀ u ∈ xs, u.oneCell' = true) (h1i : ∀ u ∈ item, u.oneCell' = true) (hne : v.ownBlock ≠ some vb) (hi : i ≤ n) (hn : n ≤ 10000) :
    Calls Tryz.prog 75 #[v, .int .i64 i, .slice (some ⟨vb, 0, none⟩) 1 1] w (TurnedPost w v 1 (n + 1) (xs.take (i * 1) ++ item ++ xs.drop (i * 1))) := by
  obtain ⟨i0, hi0, hz0, hz1, hz2⟩ := info_parts info_n
  have hr : Reads w 1 (.slice (some ⟨vb, 0, none⟩) 1 1) 1 item := hb.reads (by simpa using hl)
  by_cases hin : i = n
  · subst hin
    have hx := h.len
    have ht : xs.take (i * 1) = xs := List.take_of_length_le (by omega)
    have hd : xs.drop (i * 1) = [] := List.drop_eq_nil_of_le (by omega)
    rw [ht, hd, List.append_nil]
    obtain ⟨a, cap, rfl⟩ := h.form'
    have hcap : i ≤ cap := by
      rcases h with ⟨he, rfl, _⟩ | ⟨g, o, cap', he, h⟩
      · omega
      · cases he; exact h.le
    have H := Lib.hid h
    have HR := Lib.hid hr
    have HI := Lib.hid h1i
    clear h hb hr h1x h1i hne ht hd hx hl
    have t1 : (0 : Int) ≤ (i : Int) := by omega
    have t2 : (i : Int) ≤ (cap : Int) := by omega
    cases a with
    | none =>
      go_enter Tryz.func75, Tryz.ntmps75
      go_wp2_with (at_builtin; refine wpList_append_vec rfl _ _ 92 rfl 89 i0 _ 1 8 Tryz.underlying92 hi0 hz0 hz1 hz2 rfl (by decide) _ _ xs rfl H.out _ 1 item rfl HR.out HI.out (by simp only [maxLen]; omega) (by omega) ?_; intro v' w' hv' ho' hb')
      have F := Lib.hid (show TurnedPost w _ 1 (i + 1) (xs ++ item) (.returned v') w' from ⟨v', rfl, hv', ho', hb'⟩)
      clear hv' ho' hb' H HR HI
      go_wp2_with fail
      go_ret
      exact F.out
    | some a =>
      go_enter Tryz.func75, Tryz.ntmps75
      go_wp2_with (at_builtin; refine wpList_append_vec rfl _ _ 92 rfl 89 i0 _ 1 8 Tryz.underlying92 hi0 hz0 hz1 hz2 rfl (by decide) _ _ xs rfl H.out _ 1 item rfl HR.out HI.out (by simp only [maxLen]; omega) (by omega) ?_; intro v' w' hv' ho' hb')
      all_goals (
        have F := Lib.hid (show TurnedPost w _ 1 (i + 1) (xs ++ item) (.returned v') w' from ⟨v', rfl, hv', ho', hb'⟩)
        clear hv' ho' hb' H HR HI
        go_wp2_with fail
        go_ret
        exact F.out)
  · have hlt : i < n := by omega
    obtain ⟨g, o, cap, rfl, hv⟩ := h.form (by omega)
    have hne' : vb ≠ g := fun e => hne (by rw [e]; rfl)
    have hcap := hv.small
    have hx := hv.len
    have hncap := hv.le
    have hsz : (Tryz.prog.info? 89).map (·.size) = some 1 := by rw [hi0]; simp [hz1]
    have hs1 : 1 * cap = cap * 1 := Nat.mul_comm _ _
    obtain ⟨tG, kG, hsh, hkG⟩ := hv.shape (by omega)
    have hov : ∀ p lb cb, (callFunc 103 #[.slice (some ⟨vb, 0, none⟩) 1 1, .slice (some ⟨g, p, none⟩) lb cb]).run Tryz.prog w = .ok (.value (.bool false)) w := fun p lb cb =>
      overlaps_n w vb g p 1 1 lb cb item hb hne' tG kG hsh hkG
    have hw1 : IntKind.i64.wrap ((i : Int) + 1) = (i : Int) + 1 := by rw [IntKind.wrap_i64]; omega
    have hb1 : (0 : Int) ≤ (i : Int) + 1 := by omega
    have htn : ((i : Int) + 1).toNat = i + 1 := by omega
    have hb3 : (i : Int) ≤ (n : Int) := by omega
    have hb0 : (0 : Int) ≤ (i : Int) := by omega
    have hb5 : (i : Int) + 1 ≤ (n : Int) := by omega
    have hz2' : ((i : Int) == (n : Int)) = false := by simp; omega
    have hb4 : ¬ (cap = i) := by omega
    simp only [maxLen] at hcap
    have hcap' : (cap : Int) ≤ 9223372036854775807 := by omega
    have mn1 : Nat.min (n + 1 - i) (n - i) = n - i := by simp only [Nat.min_def]; split <;> omega
    have mn2 : Nat.min 1 (n + 1 - i) = 1 := by simp only [Nat.min_def]; split <;> omega
    have hdl : (xs.drop (i * 1)).length = (n - i) * 1 := by rw [List.length_drop]; omega
    have hdo : ∀ u ∈ xs.drop (i * 1), u.oneCell' = true := fun u hu => h1x u (List.mem_of_mem_drop hu)
    by_cases hroom : n + 1 ≤ cap
    · obtain ⟨junk, hj, hW⟩ := hv.wide (n + 1) (by omega) hroom
      have hD : VecAt w.drew 1 g o (n + 1) cap (xs ++ junk) := hW.block rfl
      have hb2 : ¬ (cap = i + 1) := by omega
      have hb6 : (n : Int) + 1 ≤ (cap : Int) := by omega
      have hb7 : (i : Int) ≤ (n : Int) + 1 := by omega
      have C1 := fun ty dc sc => run_copy_at (P := Tryz.prog) 92 92 ty 89 Tryz.underlying92 hsz hD (i + 1) (n - i) dc ⟨g, o + i * 1, none⟩ (n + 1 - i) sc (xs.drop (i * 1)) (by rw [mn1, hdl]) (by rw [mn1]; omega)
        (fun j u hj => by
          rw [Addr.add_lit, Nat.add_assoc, hD.cells (i * 1 + j) (by have := (List.getElem?_eq_some_iff.1 hj).1; omega), List.getElem?_append_left (by have := (List.getElem?_eq_some_iff.1 hj).1; omega)]
          rwa [List.getElem?_drop] at hj) hdo
      rw [mn1] at C1
      obtain ⟨L, hL⟩ : ∃ L, L = (xs ++ junk).take ((i + 1) * 1) ++ xs.drop (i * 1) ++ (xs ++ junk).drop ((i + 1 + (n - i)) * 1) := ⟨_, rfl⟩
      rw [← hL] at C1
      obtain ⟨W1, hW1⟩ : ∃ W1, W1 = w.drew.setCells g (o + (i + 1) * 1) (xs.drop (i * 1)) := ⟨_, rfl⟩
      rw [← hW1] at C1
      have hV1 : VecAt W1 1 g o (n + 1) cap L := (C1 0 0 0).2
      have hO1 : Only (fun k => k = g) w W1 := by rw [hW1]; exact Only.undrew (setCells_only w.drew g _ _)
      have hB1 : cellsAt W1 vb item := hb.only hO1 hne'
      have C2 := fun ty dc => run_copy_at (P := Tryz.prog) 92 92 ty 89 Tryz.underlying92 hsz hV1 i (n + 1 - i) dc ⟨vb, 0, none⟩ 1 1 item (by rw [mn2, hl]) (by rw [mn2]; omega)
        (fun j u hj => by
          rw [Addr.add_lit, Nat.zero_add, hB1.cell]
          exact hj) h1i
      rw [mn2, shift_list xs junk item n i 1 hx hj hlt L hL] at C2
      obtain ⟨W2, hW2⟩ : ∃ W2, W2 = W1.setCells g (o + i * 1) item := ⟨_, rfl⟩
      rw [← hW2] at C2
      have hO2 : Only (fun k => k = g) w W2 := by rw [hW2]; exact hO1.trans (setCells_only W1 g _ _)
      have F := Lib.hid (show TurnedPost w (.slice (some ⟨g, o, none⟩) n cap) 1 (n + 1) (xs.take (i * 1) ++ item ++ xs.drop (i * 1)) (.returned (.slice (some ⟨g, o, none⟩) (n + 1) cap)) W2 from
        ⟨_, rfl, .inr ⟨g, o, cap, rfl, (C2 0 0).2⟩, hO2.mono (fun k e => by rw [e]; rfl), .inl rfl⟩)
      have R1 := Lib.hid (fun ty dc sc => (C1 ty dc sc).1)
      have R2 := Lib.hid (fun ty dc => (C2 ty dc).1)
      simp only [Nat.mul_one] at R1 R2
      clear C1 C2 hW1 hW2 hV1 hO1 hO2 hB1 hL hD hW hj hdo hdl mn1 mn2 hsz hsh hkG hx hv hr hb h1x h1i hne h hs1
      go_enter Tryz.func75, Tryz.ntmps75
      go_wp2_with (simp only [hov])
      go_region_law (refine Go.Proofs.step_copy_runI rfl _ _ 92 92 rfl (.slice (some ⟨g, o + (i + 1), none⟩) (n - i) (cap - (i + 1))) (.slice (some ⟨g, o + i, none⟩) (n + 1 - i) (cap - i)) (by simp [Act.eval, Act.put]) (by simp [Act.eval, Act.put]) (R1.out 3 (cap - (i + 1)) (cap - i)) ?_)
      go_wp2_with (with_reducible refine Go.Proofs.wpList_copy_runI _ rfl _ _ 92 92 rfl (.slice (some ⟨g, o + i, none⟩) (n + 1 - i) (cap - i)) (.slice (some ⟨vb, 0, none⟩) 1 1) rfl rfl (R2.out 3 (cap - i)) ?_)
      go_ret
      exact F.out
    · have hbw : g < w.heap.size := hv.lt (by omega)
      have hvw : vb < w.heap.size := hb.lt
      have hold : (Builtin.firstCells i0.size i (.slice (some ⟨g, o, none⟩) i cap)).run Tryz.prog w.drew = .ok (xs.take (i * 1)).toArray w.drew := by
        rw [hz1]
        exact run_firstCells_some w.drew 1 i ⟨g, o, none⟩ i cap (xs.take (i * 1)) (by rw [List.length_take]; omega) (fun j u hj => by
          have hlt' := (List.getElem?_eq_some_iff.1 hj).1
          rw [List.length_take] at hlt'
          rw [Addr.add_lit]
          change w.cell? ⟨g, o + j, none⟩ = some u
          rw [hv.cells j (by omega)]
          rw [List.getElem?_take] at hj
          split at hj
          · exact hj
          · cases hj)
      have hkk : (n : Int) + 1 - (i : Int) = ((n + 1 - i : Nat) : Int) := by omega
      have hik : i + (n + 1 - i) = n + 1 := by omega
      obtain ⟨G, hG⟩ : ∃ G, G = grownCap w (n + 1) cap 89 := ⟨_, rfl⟩
      have hGn : n + 1 ≤ G := by rw [hG]; exact grownCap_ge w _ _ _
      have hG63 : G ≤ maxLen := by rw [hG]; exact grownCap_le_maxLen w (n + 1) cap 89 (by simp only [maxLen]; omega)
      obtain ⟨z, hzz⟩ : ∃ z : Value, i0.zero = some z ∧ z.cells.size = 1 := ⟨_, hz0, rfl⟩
      obtain ⟨ROW, hROW⟩ : ∃ ROW : Array Value, ROW = (xs.take (i * 1)).toArray ++ Builtin.zeroCells z.cells (n + 1 - i) ++ Builtin.zeroCells z.cells (G - (n + 1)) := ⟨_, rfl⟩
      obtain ⟨W1, hW1⟩ : ∃ W1, W1 = w.drew.alloc (.cells ROW 89) := ⟨_, rfl⟩
      have hrz : ∀ ty, (Builtin.append_ #[92, 3] ty #[.slice (some ⟨g, o, none⟩) i cap, .int .i64 ((n : Int) + 1 - (i : Int))]).run Tryz.prog w = .ok (.slice (some ⟨w.heap.size, 0, none⟩) (n + 1) G) W1 := fun ty => by
        have h := Lib.run_append_grow_zeros w 92 3 ty 89 i0 z .i64 .i64 Tryz.underlying92 Tryz.underlying3 hi0 hzz.1 (some ⟨g, o, none⟩) i cap (xs.take (i * 1)) hold (n + 1 - i) (by omega) (by omega) (by omega) (by omega) (by rw [hz2]; omega) (by rw [hz2, hik]; exact growslice_fits (by omega) (by omega))
        rw [hik, ← hG, ← hROW, ← hW1] at h
        rw [hkk]
        exact h
      have hzl : (Builtin.zeroCells z.cells (n + 1 - i)).toList.length = (n + 1 - i) * 1 := by simp [Builtin.zeroCells, hzz.2]
      have htl : (xs.take (i * 1)).length = i * 1 := by rw [List.length_take]; omega
      have hRl : ROW.size = G * 1 := by
        rw [hROW]
        simp only [Array.size_append, List.size_toArray, htl]
        simp [Builtin.zeroCells, hzz.2]
        omega
      obtain ⟨L0, hL0⟩ : ∃ L0, L0 = xs.take (i * 1) ++ (Builtin.zeroCells z.cells (n + 1 - i)).toList := ⟨_, rfl⟩
      have hRt : ROW.toList.take ((n + 1) * 1) = L0 := by
        rw [hROW, hL0]
        simp only [Array.toList_append]
        rw [List.take_append_of_le_length (by rw [List.length_append, htl, hzl]; omega), List.take_of_length_le (by rw [List.length_append, htl, hzl]; omega)]
      have hV1 : VecAt W1 1 w.heap.size 0 (n + 1) G L0 := by
        rw [← hRt]
        exact vecAt_block (t := 89) (by rw [hW1]; exact heap_alloc_new w.drew _) hRl hGn hG63
      have hB1 : cellsAt W1 vb item := by rw [hW1]; exact hb.drew.alloc _
      have hO1 : Only (fun _ => False) w W1 := by rw [hW1]; exact (Only.refl _ w).drew.alloc _
      have C1 := fun ty dc => run_copy_at (P := Tryz.prog) 92 92 ty 89 Tryz.underlying92 hsz hV1 i (n + 1 - i) dc ⟨vb, 0, none⟩ 1 1 item (by rw [mn2, hl]) (by rw [mn2]; omega)
        (fun j u hj => by
          rw [Addr.add_lit, Nat.zero_add, hB1.cell]
          exact hj) h1i
      rw [mn2] at C1
      obtain ⟨L1, hL1⟩ : ∃ L1, L1 = L0.take (i * 1) ++ item ++ L0.drop ((i + 1) * 1) := ⟨_, rfl⟩
      obtain ⟨W2, hW2⟩ : ∃ W2, W2 = W1.setCells w.heap.size (0 + i * 1) item := ⟨_, rfl⟩
      rw [← hL1, ← hW2] at C1
      have hO2 : Only (fun _ => False) w W2 := by
        rw [hW2]
        exact hO1.andThen (setCells_only W1 w.heap.size _ _) (fun k hk e => by omega)
      have hD : VecAt W2.drew 1 w.heap.size 0 (n + 1) G L1 := (C1 0 0).2.block rfl
      have mn3 : Nat.min (n - i) (n - i) = n - i := by simp only [Nat.min_def]; split <;> omega
      have C2 := fun ty dc sc => run_copy_at (P := Tryz.prog) 92 92 ty 89 Tryz.underlying92 hsz hD (i + 1) (n - i) dc ⟨g, o + i * 1, none⟩ (n - i) sc (xs.drop (i * 1)) (by rw [mn3, hdl]) (by rw [mn3]; omega)
        (fun j u hj => by
          have hlt' := (List.getElem?_eq_some_iff.1 hj).1
          rw [Addr.add_lit, Nat.add_assoc]
          change W2.cell? ⟨g, o + (i * 1 + j), none⟩ = some u
          rw [hO2.cell hbw (fun h => h), hv.cells (i * 1 + j) (by omega)]
          rwa [List.getElem?_drop] at hj) hdo
      rw [mn3, grow_list xs _ item n i 1 hx hzl hlt hl L0 L1 hL0 hL1] at C2
      obtain ⟨W3, hW3⟩ : ∃ W3, W3 = W2.drew.setCells w.heap.size (0 + (i + 1) * 1) (xs.drop (i * 1)) := ⟨_, rfl⟩
      rw [← hW3] at C2
      have hO3 : Only (fun _ => False) w W3 := by
        rw [hW3]
        exact hO2.drew.andThen (setCells_only W2.drew w.heap.size _ _) (fun k hk e => by omega)
      have hlt3 : w.heap.size < W3.heap.size := by
        have h1 := hO3.size
        have h2 : (W3.cell? ⟨w.heap.size, 0 + 0, none⟩).isSome = true := ((C2 0 0 0).2.room 0 (by omega)).1
        obtain ⟨u, hu⟩ := Option.isSome_iff_exists.1 h2
        exact lt_of_cell hu
      have F := Lib.hid (show TurnedPost w (.slice (some ⟨g, o, none⟩) n cap) 1 (n + 1) (xs.take (i * 1) ++ item ++ xs.drop (i * 1)) (.returned (.slice (some ⟨w.heap.size, 0, none⟩) (n + 1) G)) W3 from
        ⟨_, rfl, .inr ⟨w.heap.size, 0, G, rfl, (C2 0 0 0).2⟩, hO3.mono (fun k e => e.elim), .inr ⟨_, rfl, Nat.le_refl _, hlt3⟩⟩)
      have R0 := Lib.hid hrz
      have R1 := Lib.hid (fun ty dc => (C1 ty dc).1)
      have R2 := Lib.hid (fun ty dc sc => (C2 ty dc sc).1)
      simp only [Nat.mul_one, Nat.zero_add] at R1 R2
      have hGi : ¬ (G = i) := by omega
      have hGim : ¬ (G = i + 1) := by omega
      have hb6 : (cap : Int) < (n : Int) + 1 := by omega
      have hb7 : (i : Int) ≤ (n : Int) + 1 := by omega
      have hb8 : (i : Int) ≤ (cap : Int) := by omega
      have hG' : (G : Int) ≤ 9223372036854775807 := by simp only [maxLen] at hG63; omega
      have hb9 : (n : Int) + 1 ≤ (G : Int) := by omega
      clear C1 C2 hW1 hW2 hW3 hV1 hO1 hO2 hO3 hB1 hL0 hL1 hD hdo hdl mn1 mn2 mn3 hsz hsh hkG hx hv hr hb h1x h1i hne h hs1 hlt3 hRt hRl htl hzl hrz hROW hzz hG hG63 hold hkk hik hov hbw hvw
      go_enter Tryz.func75, Tryz.ntmps75
      go_wp2_with (first
        | (at_builtin; refine Lib.wpList_append_run _ rfl _ _ _ _ rfl _ _ rfl rfl _ _ (R0.out _) ?_)
        | (with_reducible refine Go.Proofs.wpList_copy_runI _ rfl _ _ 92 92 rfl (.slice (some ⟨w.heap.size, i, none⟩) (n + 1 - i) (G - i)) (.slice (some ⟨vb, 0, none⟩) 1 1) rfl rfl (R1.out 3 (G - i)) ?_))
      go_region_law (refine Go.Proofs.step_copy_runI rfl _ _ 92 92 rfl (.slice (some ⟨w.heap.size, (i + 1), none⟩) (n - i) (G - (i + 1))) (.slice (some ⟨g, o + i, none⟩) (n - i) (cap - i)) (by simp [Act.eval, Act.put]) (by simp [Act.eval, Act.put]) (R2.out 3 (G - (i + 1)) (cap - i)) ?_)
      go_wp2_with fail
      go_ret
      exact F.out

set_option maxHeartbeats 1000000 in
set_option maxRecDepth 100000 in
theorem delete_n (v : Value) (n : Nat) (xs : List Value) (i : Nat) (w : World) (h : Vec w 1 v n xs) (h1x : ∀ u ∈ xs, u.oneCell' = true) (hi : i < n) (hn : n ≤ 10000) :
    Calls Tryz.prog 90 #[v, .int .i64 i, .int .i64 ((i : Int) + 1)] w (TurnedPost w v 1 (n - 1) (xs.take (i * 1) ++ xs.drop ((i + 1) * 1))) := by
  obtain ⟨i0, hi0, hz0, hz1, hz2⟩ := info_parts info_n
  obtain ⟨g, o, cap, rfl, hv⟩ := h.form (by omega)
  have hcap := hv.small
  have hx := hv.len
  have hncap := hv.le
  simp only [maxLen] at hcap
  have hD : VecAt w.drew 1 g o n cap xs := hv.block rfl
  have hA : VecAt w.drew 1 g o i cap (xs.take (i * 1)) := hD.short i (by omega)
  have hdl : (xs.drop ((i + 1) * 1)).length = (n - (i + 1)) * 1 := by rw [List.length_drop]; omega
  have hdo : ∀ u ∈ xs.drop ((i + 1) * 1), u.oneCell' = true := fun u hu => h1x u (List.mem_of_mem_drop hu)
  have hM := hA.more (n - (i + 1)) (xs.drop ((i + 1) * 1)) hdl (by omega)
  rw [show i + (n - (i + 1)) = n - 1 by omega] at hM
  obtain ⟨W1, hW1⟩ : ∃ W1, W1 = w.drew.setCells g (o + i * 1) (xs.drop ((i + 1) * 1)) := ⟨_, rfl⟩
  rw [← hW1] at hM
  have hO1 : Only (fun k => k = g) w W1 := by rw [hW1]; exact Only.undrew (setCells_only w.drew g _ _)
  have hra : ∀ ty (ad : Addr) c, (n - (i + 1) = 0 ∨ ad = ⟨g, o + (i + 1) * 1, none⟩) → (Builtin.append_ #[92, 92] ty #[.slice (some ⟨g, o, none⟩) i cap, .slice (some ad) (n - (i + 1)) c]).run Tryz.prog w.drew = .ok (.slice (some ⟨g, o, none⟩) (n - 1) cap) W1 := fun ty ad c had => by
    have hr := run_append_room_cells (P := Tryz.prog) w.drew 92 ty 89 i0 Tryz.underlying92 hi0 g o i cap ad (n - (i + 1)) c (xs.drop ((i + 1) * 1)) (by rw [hz1]; exact hdl)
      (fun j u hj => by
        have hlt' := (List.getElem?_eq_some_iff.1 hj).1
        rcases had with h0 | rfl
        · omega
        · rw [Addr.add_lit, Nat.add_assoc, hD.cells ((i + 1) * 1 + j) (by omega)]
          rwa [List.getElem?_drop] at hj) hdo (by omega)
      (fun j hj => by rw [hz1, Nat.add_assoc]; exact (hD.room _ (by omega)).1) (fun j hj => by rw [hz1, Nat.add_assoc]; exact (hD.room _ (by omega)).2)
    rw [hz1, ← hW1, show i + (n - (i + 1)) = n - 1 by omega] at hr
    exact hr
  have hzv : ∀ w, (zeroValue 89).run Tryz.prog w = .ok (.pointer none) w := fun w => by simp [zeroValue, typeInfo, hi0, hz0]
  obtain ⟨zs, hzl, hcl⟩ : ∃ zs : List Value, zs.length = 1 * 1 ∧ ∀ ty c, (Builtin.clear_ #[92] ty #[.slice (some ⟨g, o + (n - 1) * 1, none⟩) 1 c]).run Tryz.prog W1 = .ok (.tuple #[]) (W1.setCells g (o + (n - 1) * 1) zs) := by
    have hroom : ∀ j, j < 1 * 1 → (W1.cell? ⟨g, o + (n - 1) * 1 + j, none⟩).isSome = true ∧ W1.frozen? ⟨g, o + (n - 1) * 1 + j, none⟩ = false := fun j hj => by
      rw [Nat.add_assoc]
      exact hM.room _ (by omega)
    exact run_clear_size (P := Tryz.prog) (w := W1) (size := 1) 92 89 _ Tryz.underlying92 hzv rfl (by intro u hu; simp [Value.cells] at hu; first | (subst hu; rfl) | (rcases hu with rfl | rfl <;> rfl) | (rcases hu with rfl | rfl | rfl <;> rfl)) g (o + (n - 1) * 1) 1 (fun j hj => (hroom j hj).1) (fun j hj => (hroom j hj).2)
  obtain ⟨W2, hW2⟩ : ∃ W2, W2 = W1.setCells g (o + (n - 1) * 1) zs := ⟨_, rfl⟩
  rw [← hW2] at hcl
  have hV2 : VecAt W2 1 g o (n - 1) cap (xs.take (i * 1) ++ xs.drop ((i + 1) * 1)) := by rw [hW2]; exact hM.beyond _ _ (Nat.le_refl _)
  have hO2 : Only (fun k => k = g) w W2 := by rw [hW2]; exact hO1.trans (setCells_only W1 g _ _)
  have F := Lib.hid (show TurnedPost w (.slice (some ⟨g, o, none⟩) n cap) 1 (n - 1) (xs.take (i * 1) ++ xs.drop ((i + 1) * 1)) (.returned (.slice (some ⟨g, o, none⟩) (n - 1) cap)) W2 from
    ⟨_, rfl, .inr ⟨g, o, cap, rfl, hV2⟩, hO2.mono (fun k e => by rw [e]; rfl), .inl rfl⟩)
  have R1 := Lib.hid hra
  have R2 := Lib.hid hcl
  simp only [Nat.mul_one] at R1 R2
  clear hra hcl hW1 hW2 hV2 hO2 hO1 hM hA hD hdl hdo hx hv h h1x hzl hzv
  have b1 : (0 : Int) ≤ (i : Int) := by omega
  have b2 : (i : Int) ≤ (i : Int) + 1 := by omega
  have b3 : (i : Int) + 1 ≤ (n : Int) := by omega
  have b4 : (n : Int) ≤ (cap : Int) := by omega
  have b5 : ((i : Int) == (i : Int) + 1) = false := by simp; omega
  have b6 : ((i : Int) + 1).toNat = i + 1 := by omega
  have b7 : (i : Int) ≤ (cap : Int) := by omega
  have b8 : (((n - 1 : Nat) : Int)) ≤ (n : Int) := by omega
  have b9 : (n : Int) ≤ (cap : Int) := by omega
  have b10 : n - (n - 1) = 1 := by omega
  have b11 : ¬ (cap = n - 1) := by omega
  have b12 : (0 : Int) ≤ (i : Int) + 1 := by omega
  by_cases hc : cap = i + 1
  · have hni : n - (i + 1) = 0 := by omega
    have R1' := Lib.hid (R1.out 92 ⟨g, o, none⟩ 0 (.inl hni))
    rw [hni] at R1'
    have hn1 : n = i + 1 := by omega
    subst hn1
    subst hc
    simp only [Nat.add_sub_cancel] at R1' R2 F
    clear R1 b8 b10 b11 hni
    have b11 : ¬ (i + 1 = i) := by omega
    have b13 : i + 1 - i = 1 := by omega
    go_enter Tryz.func90, Tryz.ntmps90
    go_wp2_with fail
    go_region_law (refine step_append_run rfl _ _ 92 92 rfl (.slice (some ⟨g, o, none⟩) i (i + 1)) (.slice (some ⟨g, o, none⟩) 0 0) (by simp [Act.eval, Act.put]) (by simp [Act.eval, Act.put]) R1'.out ?_)
    go_wp2_with (with_reducible refine wpList_clear_run _ rfl _ 92 rfl (.slice (some ⟨g, o + i, none⟩) 1 1) rfl (R2.out _ 1) ?_)
    go_ret
    exact F.out
  · have R1' := Lib.hid (R1.out 92 ⟨g, o + (i + 1), none⟩ (cap - (i + 1)) (.inr rfl))
    go_enter Tryz.func90, Tryz.ntmps90
    go_wp2_with fail
    go_region_law (refine step_append_run rfl _ _ 92 92 rfl (.slice (some ⟨g, o, none⟩) i cap) (.slice (some ⟨g, o + (i + 1), none⟩) (n - (i + 1)) (cap - (i + 1))) (by simp [Act.eval, Act.put]) (by simp [Act.eval, Act.put]) R1'.out ?_)
    go_wp2_with (with_reducible refine wpList_clear_run _ rfl _ 92 rfl (.slice (some ⟨g, o + (n - 1), none⟩) 1 (cap - (n - 1))) rfl (R2.out _ (cap - (n - 1))) ?_)
    go_ret
    exact F.out
end Go.Proofs.YtedfijmaeoednaaGreatDoor

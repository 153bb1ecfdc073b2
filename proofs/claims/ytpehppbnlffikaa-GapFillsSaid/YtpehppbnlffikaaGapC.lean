/- The cells of package gap: Use and Hold. Conditions: the map was made by New, and numbers fit their kind. -/
import Derived.Test.YtpehppbnlffikaaGapB
namespace Go.Proofs.Ytpehppbnlffikaa
open Go.RowKit Go.Wh Go.Maps

theorem GapAt.alloc {w : World} {mb ub hb : Nat} {n : Int} {U : Int × Int → Bool} {H : Int × Int → Option Int} (h : GapAt w mb ub hb n U H) (o : Obj) : GapAt (w.alloc o) mb ub hb n U H :=
  h.below ((Below.refl _ _).alloc (Nat.le_refl _) _)

theorem GapAt.drew {w : World} {mb ub hb : Nat} {n : Int} {U : Int × Int → Bool} {H : Int × Int → Option Int} (h : GapAt w mb ub hb n U H) : GapAt w.drew mb ub hb n U H :=
  h.kept rfl rfl rfl

/-- A parameter that lies in a block of its own. -/
structure Box2 (w : World) (r : Nat) (a b : Value) : Prop where
  c0 : w.cell? ⟨r, 0, none⟩ = some a
  c1 : w.cell? ⟨r, 1, none⟩ = some b

theorem box2_new (w : World) (a b : Value) (t : TypeId) : Box2 (w.alloc (.cells #[a, b] t)) w.heap.size a b := ⟨by simp, by simp⟩
theorem Box2.block {w w' : World} {r : Nat} {a b : Value} (h : Box2 w r a b) (hb : w'.heap[r]? = w.heap[r]?) : Box2 w' r a b :=
  ⟨(World.cell?_of_block (a := ⟨r, 0, none⟩) hb).trans h.c0, (World.cell?_of_block (a := ⟨r, 1, none⟩) hb).trans h.c1⟩
theorem Box2.below {w w' : World} {r : Nat} {a b : Value} (h : Box2 w r a b) (hB : Below w.heap.size w w') : Box2 w' r a b :=
  h.block (hB.block r (World.block_lt_of_cell? _ _ h.c0))
theorem Box2.grown {w w' : World} {r : Nat} {row : Option Nat} {a b : Value} (h : Box2 w r a b) (hg : w.grownBy w' row) (hne : some r ≠ row) : Box2 w' r a b :=
  h.block (hg.block r (World.block_lt_of_cell? _ _ h.c0) hne)

theorem GapAt.used {w w' : World} {mb ub hb : Nat} {n : Int} {U : Int × Int → Bool} {H : Int × Int → Option Int} (h : GapAt w mb ub hb n U H) (hg : w.grownBy w' (some ub)) {U' : Int × Int → Bool} (hk : kmap w' Try.prog 28 rid ub (usedV U')) : GapAt w' mb ub hb n U' H := by
  have hne : mb ≠ ub := by
    intro e
    obtain ⟨es, cl, hb, _⟩ := h.mu
    have := h.c0
    subst e
    simp [World.cell?, hb] at this
  have k1 := hg.block mb h.lt.1 (by simp [hne])
  exact ⟨(World.cell?_of_block (a := ⟨mb, 0, none⟩) k1).trans h.c0, (World.cell?_of_block (a := ⟨mb, 1, none⟩) k1).trans h.c1, (World.cell?_of_block (a := ⟨mb, 2, none⟩) k1).trans h.c2, hk, h.mh.kept hg (by simp [Ne.symm h.uh]), h.uh⟩

theorem GapAt.held {w w' : World} {mb ub hb : Nat} {n : Int} {U : Int × Int → Bool} {H : Int × Int → Option Int} (h : GapAt w mb ub hb n U H) (hg : w.grownBy w' (some hb)) {H' : Int × Int → Option Int} (hk : kmap w' Try.prog 28 rid hb (heldV H')) : GapAt w' mb ub hb n U H' := by
  have hne : mb ≠ hb := by
    intro e
    obtain ⟨es, cl, hb, _⟩ := h.mh
    have := h.c0
    subst e
    simp [World.cell?, hb] at this
  have k1 := hg.block mb h.lt.1 (by simp [hne])
  exact ⟨(World.cell?_of_block (a := ⟨mb, 0, none⟩) k1).trans h.c0, (World.cell?_of_block (a := ⟨mb, 1, none⟩) k1).trans h.c1, (World.cell?_of_block (a := ⟨mb, 2, none⟩) k1).trans h.c2, h.mu.kept hg (by simp [h.uh]), hk, h.uh⟩

theorem usedV_upd (U : Int × Int → Bool) (x : Int × Int) (b : Bool) : usedV (upd U x b) = upd (usedV U) x (if b then some (.bool true) else none) := by
  funext y
  by_cases hy : y = x
  · subst hy; simp [usedV, upd_same]
  · simp [usedV, upd_other _ _ hy]
theorem heldV_upd (H : Int × Int → Option Int) (x : Int × Int) (b : Option Int) : heldV (upd H x b) = upd (heldV H) x (b.map (.int .i64)) := by
  funext y
  by_cases hy : y = x
  · subst hy; simp [heldV, upd_same]
  · simp [heldV, upd_other _ _ hy]
theorem upd_upd {α β : Type} [DecidableEq α] (V : α → β) (a : α) (u v : β) : upd (upd V a u) a v = upd V a v := by
  funext y
  by_cases hy : y = a
  · subst hy; simp [upd_same]
  · simp [upd_other _ _ hy]

theorem grown_of_below {w w' : World} (h : Below w.heap.size w w') (row : Option Nat) : w.grownBy w' row := ⟨h.os, h.tape, h.output, h.size, fun i hi _ => h.block i hi⟩

theorem undrew {w w' : World} {row : Option Nat} (h : w.drew.grownBy w' row) : w.grownBy w' row := ⟨h.os, h.tape, h.output, h.size, h.block⟩

set_option maxHeartbeats 1000000 in
theorem use_in (mb ub hb : Nat) (n p c : Int) (U : Int × Int → Bool) (H : Int × Int → Option Int) (b : Bool) (w : World) (h : GapAt w mb ub hb n U H) (hf : Fits (p, c)) (hin : inGap n p c = true) :
    Calls Try.prog 8 #[.pointer (some ⟨mb, 0, none⟩), .agg #[.int .i64 p, .int .i64 c], .bool b] w fun e w' => e = .returned (.bool true) ∧ GapAt w' mb ub hb n (upd U (p, c) b) H ∧ w.grownBy w' (some ub) := by
  have HIN := Lib.hid hin
  clear hin
  have hA := h.alloc (Obj.cells #[Value.int IntKind.i64 p, Value.int IntKind.i64 c] 28)
  have hbox := box2_new w (.int .i64 p) (.int .i64 c) 28
  go_enter Try.func8, Try.ntmps8
  go_wp2_with fail
  refine (may_any mb n p c _ hA.c0 hA.lt.1).mono ?_
  rintro e w1 ⟨rfl, hB⟩
  rw [HIN.out]
  go_wp2_with fail
  have h1 := hA.below hB
  have hbox1 := hbox.below hB
  have c1 := h1.c1
  have b0 := hbox1.c0
  have b1 := hbox1.c1
  go_still_tail 5, (by kernel_rfl)
  change wpList _ _ _ _ _ w1.drew
  refine wpList_delete_k rfl _ _ _ rfl 4 ridKeyed rid_inj Try.underlying38 rfl h1.drew.mu (p, c) rfl (rid_key _ hf) ?_
  intro w2 hk2 hg2 hs2
  have h2 : GapAt w2 mb ub hb n (upd U (p, c) false) H := h1.drew.used hg2 (by rw [usedV_upd]; exact hk2)
  have hbox2 : Box2 w2 w.heap.size (.int .i64 p) (.int .i64 c) := (hbox1.block rfl : Box2 w1.drew _ _ _).grown hg2 (by have := h.lt; simp; omega)
  have hG2 : w.grownBy w2 (some ub) := (grown_of_below (((Below.refl _ _).alloc (Nat.le_refl _) _).trans (hB.mono (by simp))) (some ub)).andThen (undrew hg2) (fun j hj => .inr hj)
  have H2 := Lib.hid h2
  have G2 := Lib.hid hG2
  clear h2 hG2 hk2 hg2
  have c21 := H2.out.c1
  have b20 := hbox2.c0
  have b21 := hbox2.c1
  clear b0 b1 c1 hB h1 hbox1
  cases b
  · go_wp2
    go_ret
    exact ⟨rfl, H2.out, G2.out⟩
  · go_wp2_with fail
    go_still_tail 5, (by kernel_rfl)
    change wpList _ _ _ _ _ w2.drew
    refine wpList_mapUpdate_k rfl _ _ _ _ rfl 4 ridKeyed rid_inj Try.underlying38 rfl H2.out.drew.mu (p, c) rfl (rid_key _ hf) _ rfl ?_
    intro w3 hk3 hg3 hs3
    have h3 : GapAt w3 mb ub hb n (upd U (p, c) true) H := H2.out.drew.used hg3 (by rw [← upd_upd U (p, c) false true, usedV_upd]; exact hk3)
    have hG3 : w.grownBy w3 (some ub) := G2.out.andThen (undrew hg3) (fun j hj => .inr hj)
    have H3 := Lib.hid h3
    have G3 := Lib.hid hG3
    clear h3 hG3 hk3 hg3
    go_wp2
    go_ret
    exact ⟨rfl, H3.out, G3.out⟩

set_option maxHeartbeats 1000000 in
theorem use_out (mb ub hb : Nat) (n p c : Int) (U : Int × Int → Bool) (H : Int × Int → Option Int) (b : Bool) (w : World) (h : GapAt w mb ub hb n U H) (hin : inGap n p c = false) :
    Calls Try.prog 8 #[.pointer (some ⟨mb, 0, none⟩), .agg #[.int .i64 p, .int .i64 c], .bool b] w fun e w' => e = .returned (.bool false) ∧ Below w.heap.size w w' := by
  have HIN := Lib.hid hin
  clear hin
  have hA := h.alloc (Obj.cells #[Value.int IntKind.i64 p, Value.int IntKind.i64 c] 28)
  go_enter Try.func8, Try.ntmps8
  go_wp2_with fail
  refine (may_any mb n p c _ hA.c0 hA.lt.1).mono ?_
  rintro e w1 ⟨rfl, hB⟩
  rw [HIN.out]
  go_wp2_with fail
  go_ret
  exact ⟨rfl, ((Below.refl _ _).alloc (Nat.le_refl _) _).trans (hB.mono (by simp))⟩

/-- Hold of a cell that there is. -/
def mayHold (H : Int × Int → Option Int) (x : Int × Int) (who : Int) : Bool := match H x with | none => true | some y => decide (y = who)

set_option maxHeartbeats 1000000 in
theorem hold_in (mb ub hb : Nat) (n p c who : Int) (U : Int × Int → Bool) (H : Int × Int → Option Int) (w : World) (h : GapAt w mb ub hb n U H) (hf : Fits (p, c)) (hin : inGap n p c = true) (hm : mayHold H (p, c) who = true) :
    Calls Try.prog 7 #[.pointer (some ⟨mb, 0, none⟩), .int .i64 who, .agg #[.int .i64 p, .int .i64 c]] w fun e w' => e = .returned (.bool true) ∧ GapAt w' mb ub hb n U (upd H (p, c) (some who)) ∧ w.grownBy w' (some hb) := by
  have HIN := Lib.hid hin
  clear hin
  have hA := h.alloc (Obj.cells #[Value.int IntKind.i64 p, Value.int IntKind.i64 c] 28)
  have hbox := box2_new w (.int .i64 p) (.int .i64 c) 28
  go_enter Try.func7, Try.ntmps7
  go_wp2_with fail
  refine (may_any mb n p c _ hA.c0 hA.lt.1).mono ?_
  rintro e w1 ⟨rfl, hB⟩
  rw [HIN.out]
  go_wp2_with fail
  have h1 := hA.below hB
  have hbox1 := hbox.below hB
  have c2 := h1.c2
  have b0 := hbox1.c0
  have b1 := hbox1.c1
  have hl : (Instr.lookup 39 (.map (some hb)) (.agg #[.int .i64 p, .int .i64 c]) true).run Try.prog w1.drew = .ok (.tuple #[.int .i64 ((H (p, c)).getD 0), .bool (H (p, c)).isSome]) w1.drew := by
    obtain ⟨l, hl⟩ := rid_key _ hf
    have := h1.drew.mh.lookup ridKeyed Try.underlying39 hl (z := .int .i64 0) (by kernel_rfl) true
    rw [show (Value.agg #[.int .i64 p, .int .i64 c]) = rid (p, c) from rfl, this]
    unfold heldV
    cases H (p, c) <;> rfl
  have hm1 : ((H (p, c)).isSome = false) ∨ ((H (p, c)).isSome = true ∧ (H (p, c)).getD 0 = who) := by
    unfold mayHold at hm
    cases hh : H (p, c) with
    | none => exact .inl rfl
    | some y => rw [hh] at hm; exact .inr ⟨rfl, by simpa using hm⟩
  generalize (H (p, c)).isSome = is at hl hm1
  generalize (H (p, c)).getD 0 = y at hl hm1
  have fin : ∀ w3, kmap w3 Try.prog 28 rid hb (upd (heldV H) (p, c) (some (.int .i64 who))) → w1.grownBy w3 (some hb) → (Ending.returned (.bool true) = .returned (.bool true) ∧ GapAt w3 mb ub hb n U (upd H (p, c) (some who)) ∧ w.grownBy w3 (some hb)) := fun w3 hk3 hg3 =>
    ⟨rfl, h1.held hg3 (by rw [heldV_upd]; exact hk3), (grown_of_below (((Below.refl _ _).alloc (Nat.le_refl _) _).trans (hB.mono (by simp))) (some hb)).andThen hg3 (fun j hj => .inr hj)⟩
  have FIN := Lib.hid fin
  have MH := Lib.hid h1.mh
  have c2d : w1.drew.cell? ⟨mb, 2, none⟩ = some (.map (some hb)) := c2
  have b0d : w1.drew.cell? ⟨w.heap.size, 0, none⟩ = some (.int .i64 p) := b0
  have b1d : w1.drew.cell? ⟨w.heap.size, 1, none⟩ = some (.int .i64 c) := b1
  have FINd : Hid (∀ w3, kmap w3 Try.prog 28 rid hb (upd (heldV H) (p, c) (some (.int .i64 who))) → w1.drew.grownBy w3 (some hb) → (Ending.returned (.bool true) = .returned (.bool true) ∧ GapAt w3 mb ub hb n U (upd H (p, c) (some who)) ∧ w.grownBy w3 (some hb))) := fun w3 hk hg => FIN.out w3 hk (undrew hg)
  have MHd : Hid (kmap w1.drew Try.prog 28 rid hb (heldV H)) := MH.out.block rfl
  clear fin hbox1 h1 hm hbox hA hB FIN MH
  rcases hm1 with rfl | ⟨rfl, rfl⟩
  all_goals
    go_still (by kernel_rfl)
    change Exit.then _ _ _ _ w1.drew
    clear hl c2 b0 b1
    generalize w1.drew = w2 at *
    go_wp2_with fail
    go_still_tail 6, (by kernel_rfl)
    change wpList _ _ _ _ _ w2.drew
    refine wpList_mapUpdate_k rfl _ _ _ _ rfl 3 ridKeyed rid_inj Try.underlying39 rfl (MHd.out.block rfl : kmap w2.drew _ _ _ _ _) (p, c) rfl (rid_key _ hf) _ rfl ?_
    intro w3 hk3 hg3 hs3
    have E3 := Lib.hid (FINd.out w3 hk3 (undrew hg3))
    clear hk3 hg3 hs3 FINd MHd
    go_wp2
    go_ret
    exact ⟨rfl, E3.out.2⟩

set_option maxHeartbeats 1000000 in
theorem hold_not (mb ub hb : Nat) (n p c who : Int) (U : Int × Int → Bool) (H : Int × Int → Option Int) (w : World) (h : GapAt w mb ub hb n U H) (hf : Fits (p, c)) (hin : inGap n p c = true) (hm : mayHold H (p, c) who = false) :
    Calls Try.prog 7 #[.pointer (some ⟨mb, 0, none⟩), .int .i64 who, .agg #[.int .i64 p, .int .i64 c]] w fun e w' => e = .returned (.bool false) ∧ Below w.heap.size w w' := by
  have HIN := Lib.hid hin
  clear hin
  have hA := h.alloc (Obj.cells #[Value.int IntKind.i64 p, Value.int IntKind.i64 c] 28)
  have hbox := box2_new w (.int .i64 p) (.int .i64 c) 28
  go_enter Try.func7, Try.ntmps7
  go_wp2_with fail
  refine (may_any mb n p c _ hA.c0 hA.lt.1).mono ?_
  rintro e w1 ⟨rfl, hB⟩
  rw [HIN.out]
  go_wp2_with fail
  have h1 := hA.below hB
  have hbox1 := hbox.below hB
  have c2 := h1.c2
  have b0 := hbox1.c0
  have b1 := hbox1.c1
  obtain ⟨y, hy, hne⟩ : ∃ y, H (p, c) = some y ∧ (y != who) = true := by
    unfold mayHold at hm
    cases hh : H (p, c) with
    | none => rw [hh] at hm; cases hm
    | some y => rw [hh] at hm; exact ⟨y, rfl, by simpa using hm⟩
  have hl : (Instr.lookup 39 (.map (some hb)) (.agg #[.int .i64 p, .int .i64 c]) true).run Try.prog w1.drew = .ok (.tuple #[.int .i64 y, .bool true]) w1.drew := by
    obtain ⟨l, hl⟩ := rid_key _ hf
    have := h1.drew.mh.lookup ridKeyed Try.underlying39 hl (z := .int .i64 0) (by kernel_rfl) true
    rw [show (Value.agg #[.int .i64 p, .int .i64 c]) = rid (p, c) from rfl, this]
    unfold heldV
    rw [hy]
    rfl
  have fin : Below w.heap.size w w1 := ((Below.refl _ _).alloc (Nat.le_refl _) _).trans (hB.mono (by simp))
  have FIN := Lib.hid fin
  clear fin hbox1 h1 hm hbox hA hB hy
  go_still (by kernel_rfl)
  change Exit.then _ _ _ _ w1.drew
  clear hl
  go_wp2_with fail
  go_ret
  exact ⟨rfl, FIN.out.drew⟩
end Go.Proofs.Ytpehppbnlffikaa

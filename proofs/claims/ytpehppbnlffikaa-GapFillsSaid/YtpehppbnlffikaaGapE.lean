/- The cells of package gap: the first free cell. Conditions: the map was made by New, and numbers fit their kind. -/
import Derived.Test.YtpehppbnlffikaaGapD
import Derived.Test.YtpehppbnlffikaaFr
namespace Go.Proofs.Ytpehppbnlffikaa
open Go.RowKit Go.Wh Go.Maps

theorem GapAt.apart {w : World} {mb ub hb : Nat} {n : Int} {U : Int × Int → Bool} {H : Int × Int → Option Int} (h : GapAt w mb ub hb n U H) {r : Nat} {l : List Value} (hc : cellsAt w r l) : r ≠ ub ∧ r ≠ hb := by
  obtain ⟨t, hc⟩ := hc
  constructor
  · rintro rfl
    obtain ⟨es, cl, hb, _⟩ := h.mu
    rw [hb] at hc
    cases hc
  · rintro rfl
    obtain ⟨es, cl, hb, _⟩ := h.mh
    rw [hb] at hc
    cases hc

theorem GapAt.only {S : Nat → Prop} {w w' : World} {mb ub hb : Nat} {n : Int} {U : Int × Int → Bool} {H : Int × Int → Option Int} (h : GapAt w mb ub hb n U H) (ho : Only S w w') (h1 : ¬ S mb) (h2 : ¬ S ub) (h3 : ¬ S hb) : GapAt w' mb ub hb n U H :=
  h.kept (ho.block _ h.lt.1 h1) (ho.block _ h.lt.2.1 h2) (ho.block _ h.lt.2.2 h3)

def freeFor (U : Int × Int → Bool) (H : Int × Int → Option Int) (who : Int) (x : Int × Int) : Bool := !U x && mayHold H x who

/-- What Next's inner function sees. -/
structure NextEnv (w : World) (mb ub hb : Nat) (n : Int) (U : Int × Int → Bool) (H : Int × Int → Option Int) (r5 r9 r10 r11 : Nat) (who : Int) (x : Int × Int) (is : Bool) : Prop where
  gap : GapAt w mb ub hb n U H
  m5 : cellsAt w r5 [.pointer (some ⟨mb, 0, none⟩)]
  m9 : cellsAt w r9 [.int .i64 who]
  m10 : cellsAt w r10 [.int .i64 x.1, .int .i64 x.2]
  m11 : cellsAt w r11 [.bool is]
  d1 : r10 ≠ mb
  d2 : r11 ≠ mb
  d3 : r5 ≠ r10
  d4 : r5 ≠ r11
  d5 : r9 ≠ r10
  d6 : r9 ≠ r11
  d7 : r10 ≠ r11

theorem NextEnv.below {w w' : World} {mb ub hb : Nat} {n : Int} {U : Int × Int → Bool} {H : Int × Int → Option Int} {r5 r9 r10 r11 : Nat} {who : Int} {x : Int × Int} {is : Bool} (h : NextEnv w mb ub hb n U H r5 r9 r10 r11 who x is) (hB : Below w.heap.size w w') :
    NextEnv w' mb ub hb n U H r5 r9 r10 r11 who x is :=
  ⟨h.gap.below hB, h.m5.below hB h.m5.lt, h.m9.below hB h.m9.lt, h.m10.below hB h.m10.lt, h.m11.below hB h.m11.lt, h.d1, h.d2, h.d3, h.d4, h.d5, h.d6, h.d7⟩

/-- The result is laid. -/
theorem NextEnv.laid {w : World} {mb ub hb : Nat} {n : Int} {U : Int × Int → Bool} {H : Int × Int → Option Int} {r5 r9 r10 r11 : Nat} {who : Int} {x : Int × Int} {is : Bool} (h : NextEnv w mb ub hb n U H r5 r9 r10 r11 who x is) (y : Int × Int) :
    NextEnv (((w.setCell ⟨r10, 0, none⟩ (.int .i64 y.1)).setCell ⟨r10, 1, none⟩ (.int .i64 y.2)).setCell ⟨r11, 0, none⟩ (.bool true)) mb ub hb n U H r5 r9 r10 r11 who y true := by
  have ho : Only (fun k => k = r10 ∨ k = r11) w (((w.setCell ⟨r10, 0, none⟩ (.int .i64 y.1)).setCell ⟨r10, 1, none⟩ (.int .i64 y.2)).setCell ⟨r11, 0, none⟩ (.bool true)) :=
    (((Only.refl _ _).setCell (.inl (.inl rfl)) _).setCell (.inl (.inl rfl)) _).setCell (.inl (.inr rfl)) _
  have a10 := h.gap.apart h.m10
  have a11 := h.gap.apart h.m11
  exact ⟨h.gap.only ho (fun e => e.elim (fun e => h.d1 e.symm) (fun e => h.d2 e.symm)) (fun e => e.elim (fun e => a10.1 e.symm) (fun e => a11.1 e.symm)) (fun e => e.elim (fun e => a10.2 e.symm) (fun e => a11.2 e.symm)),
    h.m5.only ho (fun e => e.elim h.d3 h.d4), h.m9.only ho (fun e => e.elim h.d5 h.d6),
    ((h.m10.setCell 0 _).setCell 1 _).setOther h.d7 _, by
      have := ((h.m11.setOther (p := ⟨r10, 0, none⟩) (Ne.symm h.d7) (.int .i64 y.1)).setOther (p := ⟨r10, 1, none⟩) (Ne.symm h.d7) (.int .i64 y.2)).setCell 0 (.bool true)
      exact this, h.d1, h.d2, h.d3, h.d4, h.d5, h.d6, h.d7⟩

theorem usedV_getD (U : Int × Int → Bool) (x : Int × Int) : (usedV U x).getD (.bool false) = .bool (U x) := by
  unfold usedV
  cases U x <;> rfl

set_option maxHeartbeats 2000000 in
theorem next1_no (mb ub hb : Nat) (n : Int) (U : Int × Int → Bool) (H : Int × Int → Option Int) (r5 r9 r10 r11 : Nat) (who : Int) (x y : Int × Int) (w : World)
    (h : NextEnv w mb ub hb n U H r5 r9 r10 r11 who y false) (hf : Fits x) (hfree : freeFor U H who x = false) :
    Calls Try.prog 15 #[.agg #[.int .i64 x.1, .int .i64 x.2], .pointer (some ⟨r5, 0, none⟩), .pointer (some ⟨r9, 0, none⟩), .pointer (some ⟨r10, 0, none⟩), .pointer (some ⟨r11, 0, none⟩)] w fun e w' => e = .returned (.bool true) ∧ Below w.heap.size w w' := by
  obtain ⟨p, c⟩ := x
  simp only
  have hA := h.below ((Below.refl _ _).alloc (Nat.le_refl _) (Obj.cells #[Value.int IntKind.i64 p, Value.int IntKind.i64 c] 28))
  have hbox := box2_new w (.int .i64 p) (.int .i64 c) 28
  have hBel : Below w.heap.size w (w.alloc (Obj.cells #[Value.int IntKind.i64 p, Value.int IntKind.i64 c] 28)) := (Below.refl _ _).alloc (Nat.le_refl _) _
  generalize hwA : w.alloc (Obj.cells #[Value.int IntKind.i64 p, Value.int IntKind.i64 c] 28) = wA at hA hbox hBel
  have HWA := Lib.hid hwA
  clear hwA
  have c5 : wA.cell? ⟨r5, 0, none⟩ = some (.pointer (some ⟨mb, 0, none⟩)) := hA.m5.cell 0
  have c9 : wA.cell? ⟨r9, 0, none⟩ = some (.int .i64 who) := hA.m9.cell 0
  have c11 : wA.cell? ⟨r11, 0, none⟩ = some (.bool false) := hA.m11.cell 0
  have c1 := hA.gap.c1
  have c2 := hA.gap.c2
  have b0 := hbox.c0
  have b1 := hbox.c1
  have lh : ∀ k, (Instr.lookup 39 (.map (some hb)) (.agg #[.int .i64 p, .int .i64 c]) true).run Try.prog (wA.drewN k) = .ok (.tuple #[.int .i64 ((H (p, c)).getD 0), .bool (H (p, c)).isSome]) (wA.drewN k) := by
    intro k
    obtain ⟨l, hl⟩ := rid_key _ hf
    have := (hA.gap.mh.block rfl : kmap (wA.drewN k) _ _ _ _ _).lookup ridKeyed Try.underlying39 hl (z := .int .i64 0) (by kernel_rfl) true
    rw [show (Value.agg #[.int .i64 p, .int .i64 c]) = rid (p, c) from rfl, this]
    unfold heldV
    cases H (p, c) <;> rfl
  have lu : ∀ k, (Instr.lookup 38 (.map (some ub)) (.agg #[.int .i64 p, .int .i64 c]) false).run Try.prog (wA.drewN k) = .ok (.bool (U (p, c))) (wA.drewN k) := by
    intro k
    obtain ⟨l, hl⟩ := rid_key _ hf
    have := (hA.gap.mu.block rfl : kmap (wA.drewN k) _ _ _ _ _).lookup ridKeyed Try.underlying38 hl (z := .bool false) (by kernel_rfl) false
    rw [show (Value.agg #[.int .i64 p, .int .i64 c]) = rid (p, c) from rfl, this]
    simp only [Bool.false_eq_true, if_false, usedV_getD]
  have fin : ∀ k, (Ending.returned (.bool true) = .returned (.bool true) ∧ Below w.heap.size w (wA.drewN k)) := fun k => ⟨rfl, below_drewN hBel k⟩
  have FIN := Lib.hid fin
  have hcase : (U (p, c) = true) ∨ (U (p, c) = false ∧ (H (p, c)).isSome = true ∧ ((H (p, c)).getD 0 == who) = false) := by
    unfold freeFor mayHold at hfree
    cases hu : U (p, c) with
    | true => exact .inl rfl
    | false =>
      right
      cases hh : H (p, c) with
      | none => rw [hu, hh] at hfree; cases hfree
      | some z => rw [hu, hh] at hfree; exact ⟨rfl, rfl, by simpa using hfree⟩
  clear fin hfree hBel hbox hA h
  generalize (H (p, c)).isSome = is at lh hcase
  generalize (H (p, c)).getD 0 = z at lh hcase
  generalize U (p, c) = u at lu hcase
  rcases hcase with rfl | ⟨rfl, rfl, hz⟩
  all_goals
    go_enter Try.func15, Try.ntmps15
    go_wp2_with fail
    rw [HWA.out]
    go_quiet (fail)
    go_wp2_with fail
    go_quiet (fail)
    go_wp2_with fail
    go_ret
    exact ⟨rfl, (FIN.out _).2⟩

set_option maxHeartbeats 2000000 in
theorem next1_yes (mb ub hb : Nat) (n : Int) (U : Int × Int → Bool) (H : Int × Int → Option Int) (r5 r9 r10 r11 : Nat) (who : Int) (x y : Int × Int) (w : World)
    (h : NextEnv w mb ub hb n U H r5 r9 r10 r11 who y false) (hf : Fits x) (hfree : freeFor U H who x = true) :
    Calls Try.prog 15 #[.agg #[.int .i64 x.1, .int .i64 x.2], .pointer (some ⟨r5, 0, none⟩), .pointer (some ⟨r9, 0, none⟩), .pointer (some ⟨r10, 0, none⟩), .pointer (some ⟨r11, 0, none⟩)] w
      fun e w' => e = .returned (.bool false) ∧ NextEnv w' mb ub hb n U H r5 r9 r10 r11 who x true ∧ Only (fun k => k = r10 ∨ k = r11) w w' := by
  obtain ⟨p, c⟩ := x
  simp only
  have hA := h.below ((Below.refl _ _).alloc (Nat.le_refl _) (Obj.cells #[Value.int IntKind.i64 p, Value.int IntKind.i64 c] 28))
  have hbox := box2_new w (.int .i64 p) (.int .i64 c) 28
  have hBel : Below w.heap.size w (w.alloc (Obj.cells #[Value.int IntKind.i64 p, Value.int IntKind.i64 c] 28)) := (Below.refl _ _).alloc (Nat.le_refl _) _
  generalize hwA : w.alloc (Obj.cells #[Value.int IntKind.i64 p, Value.int IntKind.i64 c] 28) = wA at hA hbox hBel
  have HWA := Lib.hid hwA
  clear hwA
  have c5 : wA.cell? ⟨r5, 0, none⟩ = some (.pointer (some ⟨mb, 0, none⟩)) := hA.m5.cell 0
  have c9 : wA.cell? ⟨r9, 0, none⟩ = some (.int .i64 who) := hA.m9.cell 0
  have c11 : wA.cell? ⟨r11, 0, none⟩ = some (.bool false) := hA.m11.cell 0
  have c1 := hA.gap.c1
  have c2 := hA.gap.c2
  have b0 := hbox.c0
  have b1 := hbox.c1
  have lh : ∀ k, (Instr.lookup 39 (.map (some hb)) (.agg #[.int .i64 p, .int .i64 c]) true).run Try.prog (wA.drewN k) = .ok (.tuple #[.int .i64 ((H (p, c)).getD 0), .bool (H (p, c)).isSome]) (wA.drewN k) := by
    intro k
    obtain ⟨l, hl⟩ := rid_key _ hf
    have := (hA.gap.mh.block rfl : kmap (wA.drewN k) _ _ _ _ _).lookup ridKeyed Try.underlying39 hl (z := .int .i64 0) (by kernel_rfl) true
    rw [show (Value.agg #[.int .i64 p, .int .i64 c]) = rid (p, c) from rfl, this]
    unfold heldV
    cases H (p, c) <;> rfl
  have lu : ∀ k, (Instr.lookup 38 (.map (some ub)) (.agg #[.int .i64 p, .int .i64 c]) false).run Try.prog (wA.drewN k) = .ok (.bool (U (p, c))) (wA.drewN k) := by
    intro k
    obtain ⟨l, hl⟩ := rid_key _ hf
    have := (hA.gap.mu.block rfl : kmap (wA.drewN k) _ _ _ _ _).lookup ridKeyed Try.underlying38 hl (z := .bool false) (by kernel_rfl) false
    rw [show (Value.agg #[.int .i64 p, .int .i64 c]) = rid (p, c) from rfl, this]
    simp only [Bool.false_eq_true, if_false, usedV_getD]
  have d10 : wA.cell? ⟨r10, 0, none⟩ = some (.int .i64 y.1) := hA.m10.cell 0
  have d11 : wA.cell? ⟨r10, 1, none⟩ = some (.int .i64 y.2) := hA.m10.cell 1
  have f10 : wA.frozen? ⟨r10, 0, none⟩ = false := hA.m10.free 0
  have f11 : wA.frozen? ⟨r10, 1, none⟩ = false := hA.m10.free 1
  have f12 : wA.frozen? ⟨r11, 0, none⟩ = false := hA.m11.free 0
  have n1 : r10 ≠ r11 := h.d7
  have fin : ∀ k, (Ending.returned (.bool false) = .returned (.bool false) ∧ NextEnv ((((wA.drewN k).setCell ⟨r10, 0, none⟩ (.int .i64 p)).setCell ⟨r10, 1, none⟩ (.int .i64 c)).setCell ⟨r11, 0, none⟩ (.bool true)) mb ub hb n U H r5 r9 r10 r11 who (p, c) true ∧
      Only (fun k => k = r10 ∨ k = r11) w ((((wA.drewN k).setCell ⟨r10, 0, none⟩ (.int .i64 p)).setCell ⟨r10, 1, none⟩ (.int .i64 c)).setCell ⟨r11, 0, none⟩ (.bool true))) := fun k =>
    ⟨rfl, (hA.below (below_drewN (Below.refl _ _) k)).laid (p, c), ((((Only.ofBelow hBel).drewN k).setCell (.inl (.inl rfl)) _).setCell (.inl (.inl rfl)) _).setCell (.inl (.inr rfl)) _⟩
  have FIN := Lib.hid fin
  have hcase : U (p, c) = false ∧ ((H (p, c)).isSome = false ∨ ((H (p, c)).isSome = true ∧ ((H (p, c)).getD 0 == who) = true)) := by
    unfold freeFor mayHold at hfree
    cases hu : U (p, c) with
    | true => rw [hu] at hfree; cases hfree
    | false =>
      refine ⟨rfl, ?_⟩
      cases hh : H (p, c) with
      | none => exact .inl rfl
      | some z => rw [hu, hh] at hfree; exact .inr ⟨rfl, by simpa using hfree⟩
  clear fin hfree hBel hbox hA h
  generalize (H (p, c)).isSome = is at lh hcase
  generalize (H (p, c)).getD 0 = z at lh hcase
  generalize U (p, c) = u at lu hcase
  rcases hcase with ⟨rfl, rfl | ⟨rfl, hz⟩⟩
  all_goals
    go_enter Try.func15, Try.ntmps15
    go_wp2_with fail
    rw [HWA.out]
    go_quiet (fail)
    go_wp2_with fail
    go_quiet (fail)
    go_wp2_with fail
    go_ret
    exact ⟨rfl, (FIN.out _).2⟩

def firstFree (U : Int × Int → Bool) (H : Int × Int → Option Int) (who : Int) (l : List (Int × Int)) : Option (Int × Int) := l.find? (freeFor U H who)

theorem rowFrom_fits (p : Int) (hp : -32 ≤ p ∧ p ≤ 64) : ∀ (k : Nat) (c : Int), 0 ≤ c → c + k ≤ 64 → ∀ x ∈ rowFrom p k c, Fits x
  | 0, _, _, _, x, hx => by simp [rowFrom] at hx
  | k + 1, c, h0, h1, x, hx => by
    simp only [rowFrom, List.mem_cons] at hx
    rcases hx with rfl | hx
    · exact ⟨WalkArith.wf_i64 (by omega), WalkArith.wf_i64 (by omega)⟩
    · exact rowFrom_fits p hp k (c + 1) (by omega) (by omega) x hx
theorem gridFrom_fits (k : Nat) (hk : k ≤ 4) : ∀ (m : Nat) (p : Int), 0 ≤ p → p + m ≤ 64 → ∀ x ∈ gridFrom k m p, Fits x
  | 0, _, _, _, x, hx => by simp [gridFrom] at hx
  | m + 1, p, h0, h1, x, hx => by
    simp only [gridFrom, List.mem_append] at hx
    rcases hx with hx | hx
    · exact rowFrom_fits p (by omega) k 0 (by omega) (by omega) x hx
    · exact gridFrom_fits k hk m (p + 1) (by omega) (by omega) x hx
theorem cellsOf_fits (f t c : Int) (hf : 0 ≤ f) (ht : t ≤ 32) (hc0 : 0 ≤ c) (hc : c ≤ 4) : ∀ x ∈ cellsOf f t c, Fits x := by
  by_cases h : f ≤ t
  · exact gridFrom_fits _ (by omega) _ _ hf (by omega)
  · intro x hx
    unfold cellsOf at hx
    rw [gridFrom_end _ _ _ (by omega)] at hx
    simp at hx

theorem cf15 (args : Array Value) (w : World) : (callFunc 15 args).run Try.prog w = .ok (.enter 15 args) w := by kernel_rfl

def nextVal : Option (Int × Int) → Value
  | some x => .tuple #[.agg #[.int .i64 x.1, .int .i64 x.2], .bool true]
  | none => .tuple #[.agg #[.int .i64 0, .int .i64 0], .bool false]

theorem env_made {w : World} {mb ub hb : Nat} {n : Int} {U : Int × Int → Bool} {H : Int × Int → Option Int} (h : GapAt w mb ub hb n U H) (who : Int) (t1 t2 t3 t4 : TypeId) :
    NextEnv ((((w.alloc (Obj.cells #[Value.pointer (some { block := mb, off := 0 })] t1)).alloc (Obj.cells #[Value.int IntKind.i64 who] t2)).alloc (Obj.cells #[Value.int IntKind.i64 0, Value.int IntKind.i64 0] t3)).alloc (Obj.cells #[Value.bool false] t4))
      mb ub hb n U H w.heap.size (w.heap.size + 1) (w.heap.size + 1 + 1) (w.heap.size + 1 + 1 + 1) who (0, 0) false := by
  have hlt := h.lt
  have k1 := cellsAt_new w [.pointer (some ⟨mb, 0, none⟩)] t1
  generalize hw1 : w.alloc (Obj.cells #[Value.pointer (some { block := mb, off := 0 })] t1) = w1
  have hs1 : w1.heap.size = w.heap.size + 1 := by rw [← hw1]; simp
  have g1 := h.alloc (Obj.cells #[Value.pointer (some { block := mb, off := 0 })] t1)
  rw [hw1] at k1 g1
  have k2 := cellsAt_new w1 [.int .i64 who] t2
  rw [hs1] at k2
  generalize hw2 : w1.alloc (Obj.cells #[Value.int IntKind.i64 who] t2) = w2
  have hs2 : w2.heap.size = w.heap.size + 1 + 1 := by rw [← hw2]; simp [hs1]
  have g2 := g1.alloc (Obj.cells #[Value.int IntKind.i64 who] t2)
  have k12 := k1.alloc (Obj.cells #[Value.int IntKind.i64 who] t2)
  rw [hw2] at k2 g2 k12
  have k3 := cellsAt_new w2 [.int .i64 0, .int .i64 0] t3
  rw [hs2] at k3
  generalize hw3 : w2.alloc (Obj.cells #[Value.int IntKind.i64 0, Value.int IntKind.i64 0] t3) = w3
  have hs3 : w3.heap.size = w.heap.size + 1 + 1 + 1 := by rw [← hw3]; simp [hs2]
  have g3 := g2.alloc (Obj.cells #[Value.int IntKind.i64 0, Value.int IntKind.i64 0] t3)
  have k13 := k12.alloc (Obj.cells #[Value.int IntKind.i64 0, Value.int IntKind.i64 0] t3)
  have k23 := k2.alloc (Obj.cells #[Value.int IntKind.i64 0, Value.int IntKind.i64 0] t3)
  rw [hw3] at k3 g3 k13 k23
  have k4 := cellsAt_new w3 [.bool false] t4
  rw [hs3] at k4
  exact ⟨g3.alloc _, k13.alloc _, k23.alloc _, k3.alloc _, k4, by omega, by omega, by omega, by omega, by omega, by omega, by omega⟩

set_option maxHeartbeats 2000000 in
theorem next_any (mb ub hb : Nat) (n f t c who : Int) (U : Int × Int → Bool) (H : Int × Int → Option Int) (w : World) (h : GapAt w mb ub hb n U H) (hn : n ≤ 32) (hf : 0 ≤ f) (ht : t ≤ n) (hc0 : 0 ≤ c) (hc : c ≤ 4) :
    Calls Try.prog 9 #[.pointer (some ⟨mb, 0, none⟩), .int .i64 f, .int .i64 t, .int .i64 c, .int .i64 who] w fun e w' => e = .returned (nextVal (firstFree U H who (cellsOf f t c))) ∧ Below w.heap.size w w' := by
  have env := env_made h who 24 3 28 4
  have hbel : Below w.heap.size w ((((w.alloc (Obj.cells #[Value.pointer (some { block := mb, off := 0 })] 24)).alloc (Obj.cells #[Value.int IntKind.i64 who] 3)).alloc (Obj.cells #[Value.int IntKind.i64 0, Value.int IntKind.i64 0] 28)).alloc (Obj.cells #[Value.bool false] 4)) :=
    ((((Below.refl _ _).alloc (Nat.le_refl _) _).alloc (by simp) _).alloc (by simp; omega) _).alloc (by simp; omega) _
  have hfits := cellsOf_fits f t c hf (by omega) hc0 hc
  have C := Lib.hid (each_any mb n f t c 15 #[.pointer (some ⟨w.heap.size, 0, none⟩), .pointer (some ⟨w.heap.size + 1, 0, none⟩), .pointer (some ⟨w.heap.size + 1 + 1, 0, none⟩), .pointer (some ⟨w.heap.size + 1 + 1 + 1, 0, none⟩)]
    (fun l w' => NextEnv w' mb ub hb n U H w.heap.size (w.heap.size + 1) (w.heap.size + 1 + 1) (w.heap.size + 1 + 1 + 1) who (0, 0) false ∧ (∀ x ∈ l, Fits x) ∧ firstFree U H who (cellsOf f t c) = firstFree U H who l ∧ Below w.heap.size w w')
    (fun w' => ∃ x, NextEnv w' mb ub hb n U H w.heap.size (w.heap.size + 1) (w.heap.size + 1 + 1) (w.heap.size + 1 + 1 + 1) who x true ∧ firstFree U H who (cellsOf f t c) = some x ∧ Below w.heap.size w w')
    _ hn hf ht hc0 hc cf15 (fun l w' hj => hj.1.gap.c0) (fun x l w' ⟨he, hfx, hff, hbw⟩ => by
      cases hfree : freeFor U H who x with
      | false =>
        refine (next1_no mb ub hb n U H _ _ _ _ who x (0, 0) w' he (hfx x (by simp)) hfree).mono ?_
        rintro e w2 ⟨rfl, hB⟩
        refine .inl ⟨rfl, he.below hB, fun y hy => hfx y (by simp [hy]), ?_, hbw.trans (hB.mono hbw.size)⟩
        rw [hff]
        simp [firstFree, hfree]
      | true =>
        refine (next1_yes mb ub hb n U H _ _ _ _ who x (0, 0) w' he (hfx x (by simp)) hfree).mono ?_
        rintro e w2 ⟨rfl, he2, hO⟩
        refine .inr ⟨rfl, x, he2, ?_, hbw.trans (hO.below hbw.size (fun i hi => by omega))⟩
        rw [hff]
        simp [firstFree, hfree]) ⟨env, hfits, rfl, hbel⟩)
  clear env hbel hfits h
  go_enter Try.func9, Try.ntmps9
  go_wp2_with fail
  refine C.out.mono ?_
  clear C
  have fin : ∀ w1, ((NextEnv w1 mb ub hb n U H w.heap.size (w.heap.size + 1) (w.heap.size + 1 + 1) (w.heap.size + 1 + 1 + 1) who (0, 0) false ∧ (∀ x ∈ ([] : List (Int × Int)), Fits x) ∧ firstFree U H who (cellsOf f t c) = firstFree U H who [] ∧ Below w.heap.size w w1) ∨
      (∃ x, NextEnv w1 mb ub hb n U H w.heap.size (w.heap.size + 1) (w.heap.size + 1 + 1) (w.heap.size + 1 + 1 + 1) who x true ∧ firstFree U H who (cellsOf f t c) = some x ∧ Below w.heap.size w w1)) →
      ∃ y b, NextEnv w1 mb ub hb n U H w.heap.size (w.heap.size + 1) (w.heap.size + 1 + 1) (w.heap.size + 1 + 1 + 1) who y b ∧ Below w.heap.size w w1 ∧ nextVal (firstFree U H who (cellsOf f t c)) = .tuple #[.agg #[.int .i64 y.1, .int .i64 y.2], .bool b] := by
    rintro w1 (⟨he, _, hff, hb⟩ | ⟨x, he, hff, hb⟩)
    · exact ⟨_, _, he, hb, by rw [hff]; rfl⟩
    · exact ⟨_, _, he, hb, by rw [hff]; rfl⟩
  rintro e w1 ⟨rfl, hj⟩
  obtain ⟨y, b, he, hb, hv⟩ := fin w1 hj
  clear hj fin
  have HV := Lib.hid hv
  clear hv
  have HB := Lib.hid hb
  clear hb
  have d10 : w1.cell? ⟨w.heap.size + 1 + 1, 0, none⟩ = some (.int .i64 y.1) := he.m10.cell 0
  have d11 : w1.cell? ⟨w.heap.size + 1 + 1, 1, none⟩ = some (.int .i64 y.2) := he.m10.cell 1
  have d12 : w1.cell? ⟨w.heap.size + 1 + 1 + 1, 0, none⟩ = some (.bool b) := he.m11.cell 0
  have f10 : w1.frozen? ⟨w.heap.size + 1 + 1, 0, none⟩ = false := he.m10.free 0
  have f11 : w1.frozen? ⟨w.heap.size + 1 + 1, 1, none⟩ = false := he.m10.free 1
  have f12 : w1.frozen? ⟨w.heap.size + 1 + 1 + 1, 0, none⟩ = false := he.m11.free 0
  clear he
  go_wp2_with fail
  go_region
  all_goals
    go_wp2_with fail
  refine bodyPost_ret (v := .tuple #[.agg #[.int .i64 y.1, .int .i64 y.2], .bool b]) (by simp [results, Try.results9, go_sem, d10, d11, d12]) rfl ⟨by rw [HV.out], ?_⟩
  exact (((HB.out.setCell (by simp; omega) _).setCell (by simp; omega) _).setCell (by simp; omega) _).drew
end Go.Proofs.Ytpehppbnlffikaa

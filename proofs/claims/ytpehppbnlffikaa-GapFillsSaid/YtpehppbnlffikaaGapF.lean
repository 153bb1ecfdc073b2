/- The cells of package gap: how many are used, how many are held, and nobody's cells any more. Conditions: the map was made by New, and numbers fit their kind. -/
import Derived.Test.YtpehppbnlffikaaGapE
namespace Go.Proofs.Ytpehppbnlffikaa
open Go.RowKit Go.Wh Go.Maps

/-- What the inner functions of Used and Held see. -/
structure CntEnv (w : World) (mb ub hb : Nat) (n : Int) (U : Int × Int → Bool) (H : Int × Int → Option Int) (r3 r6 : Nat) (k : Int) : Prop where
  gap : GapAt w mb ub hb n U H
  m3 : cellsAt w r3 [.pointer (some ⟨mb, 0, none⟩)]
  m6 : cellsAt w r6 [.int .i64 k]
  d1 : r6 ≠ mb
  d2 : r3 ≠ r6

theorem CntEnv.below {w w' : World} {mb ub hb : Nat} {n : Int} {U : Int × Int → Bool} {H : Int × Int → Option Int} {r3 r6 : Nat} {k : Int} (h : CntEnv w mb ub hb n U H r3 r6 k) (hB : Below w.heap.size w w') : CntEnv w' mb ub hb n U H r3 r6 k :=
  ⟨h.gap.below hB, h.m3.below hB h.m3.lt, h.m6.below hB h.m6.lt, h.d1, h.d2⟩

theorem CntEnv.laid {w : World} {mb ub hb : Nat} {n : Int} {U : Int × Int → Bool} {H : Int × Int → Option Int} {r3 r6 : Nat} {k : Int} (h : CntEnv w mb ub hb n U H r3 r6 k) (j : Int) : CntEnv (w.setCell ⟨r6, 0, none⟩ (.int .i64 j)) mb ub hb n U H r3 r6 j := by
  have ho : Only (fun i => i = r6) w (w.setCell ⟨r6, 0, none⟩ (.int .i64 j)) := (Only.refl _ _).setCell (by left; rfl) _
  have a6 := h.gap.apart h.m6
  exact ⟨h.gap.only ho (fun e => h.d1 e.symm) (fun e => a6.1 e.symm) (fun e => a6.2 e.symm), h.m3.only ho h.d2, h.m6.setCell 0 _, h.d1, h.d2⟩

def b2i (b : Bool) : Int := if b then 1 else 0
def heldOnly (U : Int × Int → Bool) (H : Int × Int → Option Int) (x : Int × Int) : Bool := (H x).isSome && !U x

set_option maxHeartbeats 2000000 in
theorem used1_any (mb ub hb : Nat) (n : Int) (U : Int × Int → Bool) (H : Int × Int → Option Int) (r5 r6 : Nat) (k : Int) (x : Int × Int) (w : World)
    (h : CntEnv w mb ub hb n U H r5 r6 k) (hf : Fits x) (hk0 : 0 ≤ k) (hk : k ≤ 1000) :
    Calls Try.prog 17 #[.agg #[.int .i64 x.1, .int .i64 x.2], .pointer (some ⟨r5, 0, none⟩), .pointer (some ⟨r6, 0, none⟩)] w
      fun e w' => e = .returned (.bool true) ∧ CntEnv w' mb ub hb n U H r5 r6 (k + b2i (U x)) ∧ Only (fun j => j = r6) w w' := by
  obtain ⟨p, c⟩ := x
  simp only
  have hA := h.below ((Below.refl _ _).alloc (Nat.le_refl _) (Obj.cells #[Value.int IntKind.i64 p, Value.int IntKind.i64 c] 28))
  have hbox := box2_new w (.int .i64 p) (.int .i64 c) 28
  have hBel : Below w.heap.size w (w.alloc (Obj.cells #[Value.int IntKind.i64 p, Value.int IntKind.i64 c] 28)) := (Below.refl _ _).alloc (Nat.le_refl _) _
  generalize hwA : w.alloc (Obj.cells #[Value.int IntKind.i64 p, Value.int IntKind.i64 c] 28) = wA at hA hbox hBel
  have HWA := Lib.hid hwA
  clear hwA
  have c5 : wA.cell? ⟨r5, 0, none⟩ = some (.pointer (some ⟨mb, 0, none⟩)) := hA.m3.cell 0
  have c6 : wA.cell? ⟨r6, 0, none⟩ = some (.int .i64 k) := hA.m6.cell 0
  have f6 : wA.frozen? ⟨r6, 0, none⟩ = false := hA.m6.free 0
  have c1 := hA.gap.c1
  have b0 := hbox.c0
  have b1 := hbox.c1
  have lu : ∀ k, (Instr.lookup 38 (.map (some ub)) (.agg #[.int .i64 p, .int .i64 c]) false).run Try.prog (wA.drewN k) = .ok (.bool (U (p, c))) (wA.drewN k) := by
    intro k
    obtain ⟨l, hl⟩ := rid_key _ hf
    have := (hA.gap.mu.block rfl : kmap (wA.drewN k) _ _ _ _ _).lookup ridKeyed Try.underlying38 hl (z := .bool false) (by kernel_rfl) false
    rw [show (Value.agg #[.int .i64 p, .int .i64 c]) = rid (p, c) from rfl, this]
    simp only [Bool.false_eq_true, if_false, usedV_getD]
  have fin0 : ∀ q, U (p, c) = false → (Ending.returned (.bool true) = .returned (.bool true) ∧ CntEnv (wA.drewN q) mb ub hb n U H r5 r6 (k + b2i (U (p, c))) ∧ Only (fun j => j = r6) w (wA.drewN q)) := fun q hu =>
    ⟨rfl, by rw [hu]; simpa [b2i] using hA.below (below_drewN (Below.refl _ _) q), (Only.ofBelow hBel).drewN q⟩
  have fin1 : ∀ q, U (p, c) = true → (Ending.returned (.bool true) = .returned (.bool true) ∧ CntEnv ((wA.drewN q).setCell ⟨r6, 0, none⟩ (.int .i64 (k + 1))) mb ub hb n U H r5 r6 (k + b2i (U (p, c))) ∧ Only (fun j => j = r6) w ((wA.drewN q).setCell ⟨r6, 0, none⟩ (.int .i64 (k + 1)))) := fun q hu =>
    ⟨rfl, by rw [hu]; exact (hA.below (below_drewN (Below.refl _ _) q)).laid _, ((Only.ofBelow hBel).drewN q).setCell (by left; rfl) _⟩
  have FIN0 := Lib.hid fin0
  have FIN1 := Lib.hid fin1
  clear fin0 fin1 hBel hbox hA h
  cases hu : U (p, c)
  · rw [hu] at lu FIN0
    have F := Lib.hid (FIN0.out · rfl)
    clear FIN0 FIN1 hu
    go_enter Try.func17, Try.ntmps17
    go_wp2_with fail
    rw [HWA.out]
    go_quiet (fail)
    go_wp2_with fail
    go_ret
    first | exact ⟨rfl, (F.out _).2⟩ | (rw [World.drewN_drewN]; exact ⟨rfl, (F.out _).2⟩)
  · rw [hu] at lu FIN1
    have F := Lib.hid (FIN1.out · rfl)
    clear FIN0 FIN1 hu
    go_enter Try.func17, Try.ntmps17
    go_wp2_with fail
    rw [HWA.out]
    go_quiet (fail)
    go_wp2_with fail
    go_ret
    first | exact ⟨rfl, (F.out _).2⟩ | (rw [World.drewN_drewN]; exact ⟨rfl, (F.out _).2⟩)

set_option maxHeartbeats 2000000 in
theorem held1_any (mb ub hb : Nat) (n : Int) (U : Int × Int → Bool) (H : Int × Int → Option Int) (r5 r6 : Nat) (k : Int) (x : Int × Int) (w : World)
    (h : CntEnv w mb ub hb n U H r5 r6 k) (hf : Fits x) (hk0 : 0 ≤ k) (hk : k ≤ 1000) :
    Calls Try.prog 16 #[.agg #[.int .i64 x.1, .int .i64 x.2], .pointer (some ⟨r5, 0, none⟩), .pointer (some ⟨r6, 0, none⟩)] w
      fun e w' => e = .returned (.bool true) ∧ CntEnv w' mb ub hb n U H r5 r6 (k + b2i (heldOnly U H x)) ∧ Only (fun j => j = r6) w w' := by
  obtain ⟨p, c⟩ := x
  simp only
  have hA := h.below ((Below.refl _ _).alloc (Nat.le_refl _) (Obj.cells #[Value.int IntKind.i64 p, Value.int IntKind.i64 c] 28))
  have hbox := box2_new w (.int .i64 p) (.int .i64 c) 28
  have hBel : Below w.heap.size w (w.alloc (Obj.cells #[Value.int IntKind.i64 p, Value.int IntKind.i64 c] 28)) := (Below.refl _ _).alloc (Nat.le_refl _) _
  generalize hwA : w.alloc (Obj.cells #[Value.int IntKind.i64 p, Value.int IntKind.i64 c] 28) = wA at hA hbox hBel
  have HWA := Lib.hid hwA
  clear hwA
  have c5 : wA.cell? ⟨r5, 0, none⟩ = some (.pointer (some ⟨mb, 0, none⟩)) := hA.m3.cell 0
  have c6 : wA.cell? ⟨r6, 0, none⟩ = some (.int .i64 k) := hA.m6.cell 0
  have f6 : wA.frozen? ⟨r6, 0, none⟩ = false := hA.m6.free 0
  have c1 := hA.gap.c1
  have c2 := hA.gap.c2
  have b0 := hbox.c0
  have b1 := hbox.c1
  have lh : ∀ k, (Instr.lookup 39 (.map (some hb)) (.agg #[.int .i64 p, .int .i64 c]) true).run Try.prog (wA.drewN k) = .ok (.tuple #[.int .i64 ((H (p, c)).getD 0), .bool (H (p, c)).isSome]) (wA.drewN k) := by
    intro k
    obtain ⟨l, hl⟩ := rid_key _ hf
    have := (hA.gap.mh.block rfl : kmap (wA.drewN k) _ _ _ _ _).lookup ridKeyed Try.underlying39 hl (z := .int .i64 0) (by kernel_rfl) true
    rw [show (Value.agg #[.int .i64 p, .int .i64 c]) = rid (p, c) from rfl, this]
    unfold heldV
    cases H (p, c) <;> rfl
  have lu : ∀ k, (Instr.lookup 38 (.map (some ub)) (.agg #[.int .i64 p, .int .i64 c]) false).run Try.prog (wA.drewN k) = .ok (.bool (U (p, c))) (wA.drewN k) := by
    intro k
    obtain ⟨l, hl⟩ := rid_key _ hf
    have := (hA.gap.mu.block rfl : kmap (wA.drewN k) _ _ _ _ _).lookup ridKeyed Try.underlying38 hl (z := .bool false) (by kernel_rfl) false
    rw [show (Value.agg #[.int .i64 p, .int .i64 c]) = rid (p, c) from rfl, this]
    simp only [Bool.false_eq_true, if_false, usedV_getD]
  have fin0 : ∀ q, heldOnly U H (p, c) = false → (Ending.returned (.bool true) = .returned (.bool true) ∧ CntEnv (wA.drewN q) mb ub hb n U H r5 r6 (k + b2i (heldOnly U H (p, c))) ∧ Only (fun j => j = r6) w (wA.drewN q)) := fun q hu =>
    ⟨rfl, by rw [hu]; simpa [b2i] using hA.below (below_drewN (Below.refl _ _) q), (Only.ofBelow hBel).drewN q⟩
  have fin1 : ∀ q, heldOnly U H (p, c) = true → (Ending.returned (.bool true) = .returned (.bool true) ∧ CntEnv ((wA.drewN q).setCell ⟨r6, 0, none⟩ (.int .i64 (k + 1))) mb ub hb n U H r5 r6 (k + b2i (heldOnly U H (p, c))) ∧ Only (fun j => j = r6) w ((wA.drewN q).setCell ⟨r6, 0, none⟩ (.int .i64 (k + 1)))) := fun q hu =>
    ⟨rfl, by rw [hu]; exact (hA.below (below_drewN (Below.refl _ _) q)).laid _, ((Only.ofBelow hBel).drewN q).setCell (by left; rfl) _⟩
  have FIN0 := Lib.hid fin0
  have FIN1 := Lib.hid fin1
  have hz : heldOnly U H (p, c) = ((H (p, c)).isSome && !U (p, c)) := rfl
  have HZ := Lib.hid hz
  clear fin0 fin1 hBel hbox hA h hz
  generalize (H (p, c)).isSome = is at lh HZ
  generalize (H (p, c)).getD 0 = z at lh
  generalize U (p, c) = u at lu HZ
  cases is
  · have F := Lib.hid (FIN0.out · HZ.out)
    clear FIN0 FIN1 HZ
    go_enter Try.func16, Try.ntmps16
    go_wp2_with fail
    rw [HWA.out]
    go_quiet (fail)
    go_wp2_with fail
    go_quiet (fail)
    go_wp2_with fail
    go_ret
    first | exact ⟨rfl, (F.out _).2⟩ | (rw [World.drewN_drewN]; exact ⟨rfl, (F.out _).2⟩)
  · cases u
    · have F := Lib.hid (FIN1.out · HZ.out)
      clear FIN0 FIN1 HZ
      go_enter Try.func16, Try.ntmps16
      go_wp2_with fail
      rw [HWA.out]
      go_quiet (fail)
      go_wp2_with fail
      go_quiet (fail)
      go_wp2_with fail
      go_ret
      first | exact ⟨rfl, (F.out _).2⟩ | (rw [World.drewN_drewN]; exact ⟨rfl, (F.out _).2⟩)
    · have F := Lib.hid (FIN0.out · HZ.out)
      clear FIN0 FIN1 HZ
      go_enter Try.func16, Try.ntmps16
      go_wp2_with fail
      rw [HWA.out]
      go_quiet (fail)
      go_wp2_with fail
      go_quiet (fail)
      go_wp2_with fail
      go_ret
      first | exact ⟨rfl, (F.out _).2⟩ | (rw [World.drewN_drewN]; exact ⟨rfl, (F.out _).2⟩)

theorem cf17 (args : Array Value) (w : World) : (callFunc 17 args).run Try.prog w = .ok (.enter 17 args) w := by kernel_rfl
theorem cf16 (args : Array Value) (w : World) : (callFunc 16 args).run Try.prog w = .ok (.enter 16 args) w := by kernel_rfl

theorem rowFrom_length (p : Int) : ∀ (k : Nat) (c : Int), (rowFrom p k c).length = k
  | 0, _ => rfl
  | k + 1, c => by simp [rowFrom, rowFrom_length p k]
theorem gridFrom_length (k : Nat) : ∀ (m : Nat) (p : Int), (gridFrom k m p).length = m * k
  | 0, _ => by simp [gridFrom]
  | m + 1, p => by simp [gridFrom, rowFrom_length, gridFrom_length k m, Nat.add_mul]; omega
theorem cellsOf_length (f t c : Int) (hf : 0 ≤ f) (ht : t ≤ 32) (hc : c ≤ 4) : (cellsOf f t c).length ≤ 128 := by
  unfold cellsOf
  rw [gridFrom_length]
  have h1 : (t - f).toNat ≤ 32 := by omega
  have h2 : c.toNat ≤ 4 := by omega
  calc (t - f).toNat * c.toNat ≤ 32 * 4 := Nat.mul_le_mul h1 h2
    _ = 128 := rfl

theorem cnt_made {w : World} {mb ub hb : Nat} {n : Int} {U : Int × Int → Bool} {H : Int × Int → Option Int} (h : GapAt w mb ub hb n U H) (t1 t2 : TypeId) :
    CntEnv ((w.alloc (Obj.cells #[Value.pointer (some { block := mb, off := 0 })] t1)).alloc (Obj.cells #[Value.int IntKind.i64 0] t2)) mb ub hb n U H w.heap.size (w.heap.size + 1) 0 := by
  have hlt := h.lt
  have k1 := cellsAt_new w [.pointer (some ⟨mb, 0, none⟩)] t1
  generalize hw1 : w.alloc (Obj.cells #[Value.pointer (some { block := mb, off := 0 })] t1) = w1
  have hs1 : w1.heap.size = w.heap.size + 1 := by rw [← hw1]; simp
  have g1 := h.alloc (Obj.cells #[Value.pointer (some { block := mb, off := 0 })] t1)
  rw [hw1] at k1 g1
  have k2 := cellsAt_new w1 [.int .i64 0] t2
  rw [hs1] at k2
  exact ⟨g1.alloc _, k1.alloc _, k2, by omega, by omega⟩

/-- How many cells of a list are of a kind. -/
def cnt (g : Int × Int → Bool) (l : List (Int × Int)) : Int := (l.countP g : Nat)
theorem cnt_cons (g : Int × Int → Bool) (x : Int × Int) (l : List (Int × Int)) : cnt g (x :: l) = b2i (g x) + cnt g l := by
  unfold cnt b2i
  rw [List.countP_cons]
  cases g x <;> simp
  omega
theorem cnt_le (g : Int × Int → Bool) (l : List (Int × Int)) : 0 ≤ cnt g l ∧ cnt g l ≤ l.length := by
  unfold cnt
  have := List.countP_le_length (p := g) (l := l)
  omega

set_option maxHeartbeats 2000000 in
theorem used_any (mb ub hb : Nat) (n f t : Int) (U : Int × Int → Bool) (H : Int × Int → Option Int) (w : World) (h : GapAt w mb ub hb n U H) (hn : n ≤ 32) (hf : 0 ≤ f) (ht : t ≤ n) :
    Calls Try.prog 11 #[.pointer (some ⟨mb, 0, none⟩), .int .i64 f, .int .i64 t] w fun e w' => e = .returned (.int .i64 (cnt U (cellsOf f t 4))) ∧ Below w.heap.size w w' := by
  have env := cnt_made h 24 3
  have hbel : Below w.heap.size w ((w.alloc (Obj.cells #[Value.pointer (some { block := mb, off := 0 })] 24)).alloc (Obj.cells #[Value.int IntKind.i64 0] 3)) :=
    ((Below.refl _ _).alloc (Nat.le_refl _) _).alloc (by simp) _
  have hfits := cellsOf_fits f t 4 hf (by omega) (by omega) (by omega)
  have hlen := cellsOf_length f t 4 hf (by omega) (by omega)
  have hle := cnt_le U (cellsOf f t 4)
  have C := Lib.hid (each_any mb n f t 4 17 #[.pointer (some ⟨w.heap.size, 0, none⟩), .pointer (some ⟨w.heap.size + 1, 0, none⟩)]
    (fun l w' => ∃ k, CntEnv w' mb ub hb n U H w.heap.size (w.heap.size + 1) k ∧ (∀ x ∈ l, Fits x) ∧ 0 ≤ k ∧ k + cnt U l = cnt U (cellsOf f t 4) ∧ Below w.heap.size w w') (fun _ => False)
    _ hn hf ht (by omega) (by omega) cf17 (fun l w' hj => by obtain ⟨k, he, _⟩ := hj; exact he.gap.c0) (fun x l w' ⟨k, he, hfx, hk0, hk, hbw⟩ => by
      have hc := cnt_cons U x l
      have hle2 := cnt_le U l
      have hb01 : 0 ≤ b2i (U x) := by unfold b2i; cases U x <;> simp
      refine (used1_any mb ub hb n U H _ _ k x w' he (hfx x (by simp)) hk0 (by omega)).mono ?_
      rintro e w2 ⟨rfl, he2, hO⟩
      exact .inl ⟨rfl, _, he2, fun y hy => hfx y (by simp [hy]), by omega, by omega, hbw.trans (hO.below hbw.size (fun i hi => by omega))⟩)
    ⟨0, env, hfits, by omega, by omega, hbel⟩)
  clear env hbel hfits h hlen hle
  go_enter Try.func11, Try.ntmps11
  go_wp2_with fail
  refine C.out.mono ?_
  clear C
  rintro e w1 ⟨rfl, ⟨k, he, _, _, hk, hb⟩ | hd⟩
  · have HK := Lib.hid (show k = cnt U (cellsOf f t 4) from by simpa [cnt] using hk)
    clear hk
    have HB := Lib.hid hb
    clear hb
    have d12 : w1.cell? ⟨w.heap.size + 1, 0, none⟩ = some (.int .i64 k) := he.m6.cell 0
    have f12 : w1.frozen? ⟨w.heap.size + 1, 0, none⟩ = false := he.m6.free 0
    clear he
    go_wp2_with fail
    refine bodyPost_ret (v := .int .i64 k) (by simp [results, Try.results11, go_sem, d12]) rfl ⟨by rw [HK.out], ?_⟩
    exact HB.out.setCell (by simp) _
  · exact hd.elim

set_option maxHeartbeats 2000000 in
theorem held_any (mb ub hb : Nat) (n f t : Int) (U : Int × Int → Bool) (H : Int × Int → Option Int) (w : World) (h : GapAt w mb ub hb n U H) (hn : n ≤ 32) (hf : 0 ≤ f) (ht : t ≤ n) :
    Calls Try.prog 10 #[.pointer (some ⟨mb, 0, none⟩), .int .i64 f, .int .i64 t] w fun e w' => e = .returned (.int .i64 (cnt (heldOnly U H) (cellsOf f t 4))) ∧ Below w.heap.size w w' := by
  have env := cnt_made h 24 3
  have hbel : Below w.heap.size w ((w.alloc (Obj.cells #[Value.pointer (some { block := mb, off := 0 })] 24)).alloc (Obj.cells #[Value.int IntKind.i64 0] 3)) :=
    ((Below.refl _ _).alloc (Nat.le_refl _) _).alloc (by simp) _
  have hfits := cellsOf_fits f t 4 hf (by omega) (by omega) (by omega)
  have hlen := cellsOf_length f t 4 hf (by omega) (by omega)
  have hle := cnt_le (heldOnly U H) (cellsOf f t 4)
  have C := Lib.hid (each_any mb n f t 4 16 #[.pointer (some ⟨w.heap.size, 0, none⟩), .pointer (some ⟨w.heap.size + 1, 0, none⟩)]
    (fun l w' => ∃ k, CntEnv w' mb ub hb n U H w.heap.size (w.heap.size + 1) k ∧ (∀ x ∈ l, Fits x) ∧ 0 ≤ k ∧ k + cnt (heldOnly U H) l = cnt (heldOnly U H) (cellsOf f t 4) ∧ Below w.heap.size w w') (fun _ => False)
    _ hn hf ht (by omega) (by omega) cf16 (fun l w' hj => by obtain ⟨k, he, _⟩ := hj; exact he.gap.c0) (fun x l w' ⟨k, he, hfx, hk0, hk, hbw⟩ => by
      have hc := cnt_cons (heldOnly U H) x l
      have hle2 := cnt_le (heldOnly U H) l
      have hb01 : 0 ≤ b2i (heldOnly U H x) := by unfold b2i; cases heldOnly U H x <;> simp
      refine (held1_any mb ub hb n U H _ _ k x w' he (hfx x (by simp)) hk0 (by omega)).mono ?_
      rintro e w2 ⟨rfl, he2, hO⟩
      exact .inl ⟨rfl, _, he2, fun y hy => hfx y (by simp [hy]), by omega, by omega, hbw.trans (hO.below hbw.size (fun i hi => by omega))⟩)
    ⟨0, env, hfits, by omega, by omega, hbel⟩)
  clear env hbel hfits h hlen hle
  go_enter Try.func10, Try.ntmps10
  go_wp2_with fail
  refine C.out.mono ?_
  clear C
  rintro e w1 ⟨rfl, ⟨k, he, _, _, hk, hb⟩ | hd⟩
  · have HK := Lib.hid (show k = cnt (heldOnly U H) (cellsOf f t 4) from by simpa [cnt] using hk)
    clear hk
    have HB := Lib.hid hb
    clear hb
    have d12 : w1.cell? ⟨w.heap.size + 1, 0, none⟩ = some (.int .i64 k) := he.m6.cell 0
    have f12 : w1.frozen? ⟨w.heap.size + 1, 0, none⟩ = false := he.m6.free 0
    clear he
    go_wp2_with fail
    refine bodyPost_ret (v := .int .i64 k) (by simp [results, Try.results10, go_sem, d12]) rfl ⟨by rw [HK.out], ?_⟩
    exact HB.out.setCell (by simp) _
  · exact hd.elim

/-- What is left when one holds nothing any more. -/
def freed (H : Int × Int → Option Int) (who : Int) (x : Int × Int) : Option Int := match H x with | some y => if y = who then none else some y | none => none

theorem heldV_some {H : Int × Int → Option Int} {x : Int × Int} {v : Value} (h : heldV H x = some v) : ∃ y, H x = some y ∧ v = .int .i64 y := by
  unfold heldV at h
  cases hx : H x with
  | none => rw [hx] at h; cases h
  | some y => rw [hx] at h; exact ⟨y, rfl, by simpa using h.symm⟩

/-- Half way through Free. -/
def Freeing (w : World) (hb : Nat) (who : Int) (H : Int × Int → Option Int) (wr : World) : Prop :=
  ∃ Hc left cnt, kranges wr Try.prog 28 rid hb w.heap.size (heldV Hc) left cnt ∧ (∀ x, left x → Hc x = H x) ∧ (∀ x, ¬ left x → Hc x = freed H who x) ∧ w.grownBy wr (some hb)

theorem freeing_drop {w : World} {hb : Nat} {who : Int} {H Hc : Int × Int → Option Int} {left : Int × Int → Prop} {x : Int × Int} {w4 : World} {cnt : Nat} (hl : ∀ x, left x → Hc x = H x) (hnl : ∀ x, ¬ left x → Hc x = freed H who x) (hx : H x = some who)
    (hk : kranges w4 Try.prog 28 rid hb w.heap.size (upd (heldV Hc) x none) (fun z => (left z ∧ z ≠ x) ∧ z ≠ x) cnt) (hg : w.grownBy w4 (some hb)) : Freeing w hb who H w4 := by
  refine ⟨upd Hc x none, fun z => (left z ∧ z ≠ x) ∧ z ≠ x, cnt, ?_, fun z hz => ?_, fun z hz => ?_, hg⟩
  · have e := heldV_upd Hc x none
    rw [e]
    exact hk
  · rw [upd_other _ _ hz.2]
    exact hl z hz.1.1
  · by_cases hzx : z = x
    · subst hzx
      rw [upd_same]
      simp [freed, hx]
    · rw [upd_other _ _ hzx]
      exact hnl z (fun hlz => hz ⟨⟨hlz, hzx⟩, hzx⟩)

theorem freeing_skip {w : World} {hb : Nat} {who y : Int} {H Hc : Int × Int → Option Int} {left : Int × Int → Prop} {x : Int × Int} {w2 : World} {cnt : Nat} (hl : ∀ x, left x → Hc x = H x) (hnl : ∀ x, ¬ left x → Hc x = freed H who x) (hy : Hc x = some y) (hx : H x = some y) (hne : y ≠ who)
    (hk : kranges w2 Try.prog 28 rid hb w.heap.size (heldV Hc) (fun z => left z ∧ z ≠ x) cnt) (hg : w.grownBy w2 (some hb)) (o : Obj) : Freeing w hb who H (w2.alloc o) := by
  refine ⟨Hc, fun z => left z ∧ z ≠ x, cnt, hk.kept (World.grownBy_alloc w2 o none) (by simp) (by simp), fun z hz => hl z hz.1, fun z hz => ?_, hg.andThen (World.grownBy_alloc w2 o none) (fun j hj => by cases hj)⟩
  by_cases hzx : z = x
  · subst hzx
    rw [hy]
    simp [freed, hx, hne]
  · exact hnl z (fun hlz => hz ⟨hlz, hzx⟩)

theorem GapAt.mb_hb {w : World} {mb ub hb : Nat} {n : Int} {U : Int × Int → Bool} {H : Int × Int → Option Int} (h : GapAt w mb ub hb n U H) : mb ≠ hb := by
  intro e
  obtain ⟨es, cl, hb, _⟩ := h.mh
  have := h.c0
  subst e
  simp [World.cell?, hb] at this

set_option maxHeartbeats 2000000 in
theorem free_any (mb ub hb : Nat) (n who : Int) (U : Int × Int → Bool) (H : Int × Int → Option Int) (w : World) (h : GapAt w mb ub hb n U H) :
    Calls Try.prog 12 #[.pointer (some ⟨mb, 0, none⟩), .int .i64 who] w fun e w' => e = .returned (.tuple #[]) ∧ GapAt w' mb ub hb n U (freed H who) ∧ w.grownBy w' (some hb) := by
  have c2 := h.c2
  have hlt := h.lt
  have hne := h.mb_hb
  have HC : Hid (∀ wr, w.grownBy wr (some hb) → wr.cell? ⟨mb, 2, none⟩ = some (.map (some hb))) := fun wr hg => (World.cell?_of_block (a := ⟨mb, 2, none⟩) (hg.block mb hlt.1 (by simp [hne]))).trans c2
  go_enter Try.func12, Try.ntmps12
  go_wp2_with (at_range; refine wpList_range_k rfl _ _ rfl 3 Try.underlying39 rfl h.mh ?_; intro w1 cnt1 hk1 hg1 hs1)
  go_frame
  have H0 : Hid (Freeing w hb who H w1) := ⟨H, _, cnt1, hk1, fun _ _ => rfl, fun x hx => by
    have hn : H x = none := by
      cases hx2 : H x with
      | none => rfl
      | some y => exact absurd ⟨.int .i64 y, by simp [heldV, hx2]⟩ hx
    rw [hn]
    simp [freed, hn], hg1.but _⟩
  clear c2 hk1 hg1 hs1
  have HH := Lib.hid h
  clear h
  go_loopw [] (fun wr => Freeing w hb who H wr) (fun wr => wr.rangeLeft hb w.heap.size)
  case atStart => exact H0.out
  case round =>
    clear H0
    obtain ⟨Hc, left, cnt0, hk, hl, hnl, hg⟩ := hrel
    have c2 := HC.out wr hg
    have HL := Lib.hid hl
    have HNL := Lib.hid hnl
    have HG := Lib.hid hg
    clear hl hnl hg
    go_wp2_with (at_next; refine wpList_next_k rfl _ rfl rid_inj rfl hk ?_ ?_)
    · intro hc0 hl0
      have E1 : Hid (GapAt wr mb ub hb n U (freed H who)) := HH.out.held HG.out (hk.kmap.ext (fun z => by
        unfold heldV
        rw [HNL.out z (hl0 z.1 z.2)]))
      clear hk hl0 HL HNL c2 HC hc0
      go_wp2_with fail
      go_end0
      exact ⟨rfl, E1.out, HG.out⟩
    · intro p c v w2 cnt2 l hkey hlx hvx hk2 hlt2 hg2 hs2 hen
      obtain ⟨y, hy, rfl⟩ := heldV_some hvx
      have HY := Lib.hid hy
      have hHx : H (p, c) = some y := (HL.out (p, c) hlx).symm.trans hy
      have HX := Lib.hid hHx
      have hne2 : hb ≠ w.heap.size := by omega
      have hG2 : w.grownBy w2 (some hb) := HG.out.andThen hg2 (fun j hj => .inl (by injection hj with e; omega))
      have hlt3 := hk.lt
      have hmeas := hk.left_eq
      have c22 : w2.cell? ⟨mb, 2, none⟩ = some (.map (some hb)) := HC.out w2 hG2
      have hen2 : (Instr.entry (.pointer (some ⟨w.heap.size, 0, none⟩))).run Try.prog w2 = .ok (.tuple #[.agg #[.int .i64 p, .int .i64 c], .int .i64 y]) w2 := hen
      have K2 := Lib.hid hk2
      have KEY := Lib.hid hkey
      have G2 := Lib.hid hG2
      have HM := Lib.hid hmeas
      have hsz : w2.heap.size = w2.heap.size := rfl
      have hmb2 : mb < w2.heap.size := by omega
      have hr2 : w.heap.size < w2.heap.size := by omega
      clear hvx hy hHx hk2 hkey hG2 hmeas hg2 hen c2 hk hsz
      cases heq : (y == who) with
      | true =>
        have hyw : y = who := by simpa using heq
        subst hyw
        clear heq
        go_wp2_with fail
        have hbox := box2_new w2 (.int .i64 p) (.int .i64 c) 28
        rw [hs2] at hbox
        have c23 : (w2.alloc (Obj.cells #[Value.int IntKind.i64 p, Value.int IntKind.i64 c] 28)).cell? ⟨mb, 2, none⟩ = some (.map (some hb)) := by
          rw [World.cell?_alloc_lt _ _ _ (by omega)]
          exact c22
        have K3 := Lib.hid (K2.out.kept (World.grownBy_alloc w2 (Obj.cells #[Value.int IntKind.i64 p, Value.int IntKind.i64 c] 28) none) (by simp) (by simp))
        have G3 := Lib.hid (G2.out.andThen (World.grownBy_alloc w2 (Obj.cells #[Value.int IntKind.i64 p, Value.int IntKind.i64 c] 28) none) (fun j hj => by cases hj))
        clear K2 G2 hen2 c22
        generalize (w2.alloc (Obj.cells #[Value.int IntKind.i64 p, Value.int IntKind.i64 c] 28)) = w3 at *
        have b0 := hbox.c0
        have b1 := hbox.c1
        clear hbox
        go_still_tail 5, (by kernel_rfl)
        change wpList _ _ _ _ _ w3.drew
        refine wpList_drop_k rfl _ _ _ rfl 3 ridKeyed rid_inj Try.underlying39 rfl (K3.out.kept (World.grownBy.mk rfl rfl rfl (Nat.le_refl _) (fun _ _ _ => rfl) : w3.grownBy w3.drew none) (by simp) (by simp)) (p, c) rfl ⟨l, KEY.out⟩ ?_
        intro w4 cnt4 hk4 hle4 hg4 hs4
        have HF := Lib.hid (freeing_drop HL.out HNL.out HX.out hk4 (G3.out.andThen (undrew hg4) (fun j hj => .inr hj)))
        have HM4 := Lib.hid hk4.left_eq
        clear hk4 hg4 hs4 K3 G3 HL HNL HX HY KEY
        go_wp2_with fail
        go_roundw
        case rel =>
          repeat apply Exists.intro
          exact ⟨HF.out, rfl⟩
        case measure => rw [HM4.out, HM.out]; omega
      | false =>
        have hyw : y ≠ who := by simpa using heq
        have HF := Lib.hid (freeing_skip HL.out HNL.out HY.out HX.out hyw K2.out G2.out (Obj.cells #[Value.int IntKind.i64 p, Value.int IntKind.i64 c] 28))
        have HM4 := Lib.hid ((K2.out.kept (World.grownBy_alloc w2 (Obj.cells #[Value.int IntKind.i64 p, Value.int IntKind.i64 c] 28) none) (by simp) (by simp)).left_eq)
        clear hyw
        go_wp2_with fail
        exact ⟨HF.out, by rw [HM4.out, HM.out]; omega⟩
end Go.Proofs.Ytpehppbnlffikaa

/- The frame at the front of some bytes. Conditions: they lie in memory. -/
import Derived.Test.YtojkggppcmdepaaGreatTrZc
import Derived.Test.YtojkggppcmdepaaGreatAgg
namespace Go.Proofs.YtojkggppcmdepaaGreat
open Go.RowKit Go.Wh Go.Maps

/-- What is told of the frame at the front. -/
def FirstPost (w : World) (b : List Int) (en : Ending) (w' : World) : Prop :=
  Still w w' ∧ match firstB b with
  | some (e, n) => ∃ ov nv mv lv dv pv, en = .returned (.tuple #[.agg (eV e ov nv mv lv dv pv), .int .i64 n, .bool true]) ∧ EIs w' (fun g => w.heap.size ≤ g) e ov nv mv lv dv pv
  | none => ∃ n : Int, en = .returned (.tuple #[.agg zE.toArray, .int .i64 n, .bool false])
theorem FirstPost.yes {w w' : World} {b : List Int} {e : PE} {n : Nat} {ov nv mv lv dv pv : Value} (ht : firstB b = some (e, n)) (hs : Still w w') (he : EIs w' (fun g => w.heap.size ≤ g) e ov nv mv lv dv pv) : FirstPost w b (.returned (.tuple #[.agg (eV e ov nv mv lv dv pv), .int .i64 n, .bool true])) w' := by
  refine ⟨hs, ?_⟩
  rw [ht]
  exact ⟨ov, nv, mv, lv, dv, pv, rfl, he⟩
theorem FirstPost.no {w w' : World} {b : List Int} (n : Int) (ht : firstB b = none) (hs : Still w w') : FirstPost w b (.returned (.tuple #[.agg zE.toArray, .int .i64 n, .bool false])) w' := by
  refine ⟨hs, ?_⟩
  rw [ht]
  exact ⟨n, rfl⟩
theorem TakePost.split {w w' : World} {b : List Int} {en : Ending} (h : TakePost w b en w') : Still w w' ∧ ((takeE b = none ∧ en = .returned (.tuple #[.agg zE.toArray, .int .i64 4])) ∨ ∃ e ov nv mv lv dv pv, takeE b = some e ∧ en = .returned (.tuple #[.agg (eV e ov nv mv lv dv pv), .int .i64 0]) ∧ EIs w' (fun g => w.heap.size ≤ g) e ov nv mv lv dv pv) := by
  unfold TakePost at h
  revert h
  generalize takeE b = o
  intro h
  obtain ⟨h1, h2⟩ := h
  refine ⟨h1, ?_⟩
  cases o with
  | none => exact .inl ⟨rfl, h2⟩
  | some e =>
    obtain ⟨ov, nv, mv, lv, dv, pv, h3, h4⟩ := h2
    exact .inr ⟨e, ov, nv, mv, lv, dv, pv, rfl, h3, h4⟩
theorem FirstPost.split {w w' : World} {b : List Int} {en : Ending} (h : FirstPost w b en w') : Still w w' ∧ ((firstB b = none ∧ ∃ n : Int, en = .returned (.tuple #[.agg zE.toArray, .int .i64 n, .bool false])) ∨ ∃ e n ov nv mv lv dv pv, firstB b = some (e, n) ∧ en = .returned (.tuple #[.agg (eV e ov nv mv lv dv pv), .int .i64 n, .bool true]) ∧ EIs w' (fun g => w.heap.size ≤ g) e ov nv mv lv dv pv) := by
  unfold FirstPost at h
  revert h
  generalize firstB b = o
  intro h
  obtain ⟨h1, h2⟩ := h
  refine ⟨h1, ?_⟩
  cases o with
  | none => exact .inl ⟨rfl, h2⟩
  | some p =>
    obtain ⟨ov, nv, mv, lv, dv, pv, h3, h4⟩ := h2
    exact .inr ⟨p.1, p.2, ov, nv, mv, lv, dv, pv, rfl, h3, h4⟩
theorem firstB_short {b : List Int} (h : b.length < 2) : firstB b = none := by
  match b with
  | [] => rfl
  | [_] => rfl
  | _ :: _ :: _ => simp only [List.length_cons] at h; omega
set_option maxHeartbeats 4000000 in
set_option maxRecDepth 100000 in
theorem first_short (w : World) (ba : Option Addr) (n bcp : Nat) (b : List Int) (hl : b.length = n) (h2 : n < 2) :
    Calls Tryz.prog 39 #[.slice ba n bcp] w (FirstPost w b) := by
  have HF := Lib.hid (firstB_short (b := b) (by omega))
  have HS := Lib.hid (show Still w (w.alloc (.cells #[.int .i64 0, .int .i64 0, .int .i64 0, .int .i64 0, .int .i64 0, .int .i64 0, .int .i64 0, .int .i64 0, .int .i64 0, .int .i64 0, .slice none 0 0, .slice none 0 0, .slice none 0 0, .slice none 0 0, .slice none 0 0, .slice none 0 0] 34)) from (Still.refl w).alloc _)
  have hz0 := cellsAt_new w [.int .i64 0, .int .i64 0, .int .i64 0, .int .i64 0, .int .i64 0, .int .i64 0, .int .i64 0, .int .i64 0, .int .i64 0, .int .i64 0, .slice none 0 0, .slice none 0 0, .slice none 0 0, .slice none 0 0, .slice none 0 0, .slice none 0 0] 34
  have d1 : decide ((n : Int) < 2) = true := decide_eq_true (by omega)
  have d2 : decide (n < 2) = true := decide_eq_true h2
  clear hl h2
  go_enter Tryz.func39, Tryz.ntmps39
  go_upto_region 1 with fail
  generalize (w.alloc (.cells #[.int .i64 0, .int .i64 0, .int .i64 0, .int .i64 0, .int .i64 0, .int .i64 0, .int .i64 0, .int .i64 0, .int .i64 0, .int .i64 0, .slice none 0 0, .slice none 0 0, .slice none 0 0, .slice none 0 0, .slice none 0 0, .slice none 0 0] 34)) = w1 at *
  have HZ0 := Lib.hid hz0
  have HNO := HF
  clear hz0
  as_aux_lemma =>
    obtain ⟨du, hu, hdu⟩ := under_en
    have HU := Lib.hid (And.intro hu hdu)
    clear hu hdu
    have F := Lib.hid (fun wf (hs : Still w wf) => FirstPost.no (b := b) (0) HNO.out hs)
    have HZX := Lib.hid (show cellsAt w1 w.heap.size (#[.int .i64 0, .int .i64 0, .int .i64 0, .int .i64 0, .int .i64 0, .int .i64 0, .int .i64 0, .int .i64 0, .int .i64 0, .int .i64 0, .slice none 0 0, .slice none 0 0, .slice none 0 0, .slice none 0 0, .slice none 0 0, .slice none 0 0] : Array Value).toList from HZ0.out)
    go_wp2_with (first
      | (refine wpList_loadAgg rfl 34 _ rfl w.heap.size #[.int .i64 0, .int .i64 0, .int .i64 0, .int .i64 0, .int .i64 0, .int .i64 0, .int .i64 0, .int .i64 0, .int .i64 0, .int .i64 0, .slice none 0 0, .slice none 0 0, .slice none 0 0, .slice none 0 0, .slice none 0 0, .slice none 0 0] rfl HZX.out du HU.out.1 HU.out.2 size_en ?_)
      | (refine wpList_storeAgg rfl 34 _ _ rfl w.heap.size #[.int .i64 0, .int .i64 0, .int .i64 0, .int .i64 0, .int .i64 0, .int .i64 0, .int .i64 0, .int .i64 0, .int .i64 0, .int .i64 0, .slice none 0 0, .slice none 0 0, .slice none 0 0, .slice none 0 0, .slice none 0 0, .slice none 0 0] rfl rfl HZX.out size_en rfl rfl ?_; intro wf hcf hof hzf; have FF := Lib.hid (F.out wf (HS.out.andThen hof fun i hi e => by omega)); have HCF := Lib.hid hcf; clear hcf hof hzf))
    have z0 : wf.cell? ⟨w.heap.size, 0, none⟩ = some (.int .i64 0) := HCF.out.cell 0
    have z1 : wf.cell? ⟨w.heap.size, 1, none⟩ = some (.int .i64 0) := HCF.out.cell 1
    have z2 : wf.cell? ⟨w.heap.size, 2, none⟩ = some (.int .i64 0) := HCF.out.cell 2
    have z3 : wf.cell? ⟨w.heap.size, 3, none⟩ = some (.int .i64 0) := HCF.out.cell 3
    have z4 : wf.cell? ⟨w.heap.size, 4, none⟩ = some (.int .i64 0) := HCF.out.cell 4
    have z5 : wf.cell? ⟨w.heap.size, 5, none⟩ = some (.int .i64 0) := HCF.out.cell 5
    have z6 : wf.cell? ⟨w.heap.size, 6, none⟩ = some (.int .i64 0) := HCF.out.cell 6
    have z7 : wf.cell? ⟨w.heap.size, 7, none⟩ = some (.int .i64 0) := HCF.out.cell 7
    have z8 : wf.cell? ⟨w.heap.size, 8, none⟩ = some (.int .i64 0) := HCF.out.cell 8
    have z9 : wf.cell? ⟨w.heap.size, 9, none⟩ = some (.int .i64 0) := HCF.out.cell 9
    have z10 : wf.cell? ⟨w.heap.size, 10, none⟩ = some (.slice none 0 0) := HCF.out.cell 10
    have z11 : wf.cell? ⟨w.heap.size, 11, none⟩ = some (.slice none 0 0) := HCF.out.cell 11
    have z12 : wf.cell? ⟨w.heap.size, 12, none⟩ = some (.slice none 0 0) := HCF.out.cell 12
    have z13 : wf.cell? ⟨w.heap.size, 13, none⟩ = some (.slice none 0 0) := HCF.out.cell 13
    have z14 : wf.cell? ⟨w.heap.size, 14, none⟩ = some (.slice none 0 0) := HCF.out.cell 14
    have z15 : wf.cell? ⟨w.heap.size, 15, none⟩ = some (.slice none 0 0) := HCF.out.cell 15
    exact bodyPost_ret (v := .tuple #[.agg #[.int .i64 0, .int .i64 0, .int .i64 0, .int .i64 0, .int .i64 0, .int .i64 0, .int .i64 0, .int .i64 0, .int .i64 0, .int .i64 0, .slice none 0 0, .slice none 0 0, .slice none 0 0, .slice none 0 0, .slice none 0 0, .slice none 0 0], .int .i64 (0), .bool false]) (by simp [results, Tryz.results39, go_sem, z0, z1, z2, z3, z4, z5, z6, z7, z8, z9, z10, z11, z12, z13, z14, z15]) rfl FF.out

set_option maxHeartbeats 20000000 in
set_option maxRecDepth 100000 in
theorem first_long (w : World) (Q : Nat → Prop) (ba : Option Addr) (n bcp : Nat) (x y : Int) (t : List Int) (hb : Sl w Q 1 (.slice ba n bcp) n (bc (x :: y :: t))) (hc : Cap n (.slice ba n bcp)) (hby : Byt (x :: y :: t)) (hl : t.length + 2 = n) (hn : n ≤ 100000) :
    Calls Tryz.prog 39 #[.slice ba n bcp] w (FirstPost w (x :: y :: t)) := by
  have HF := Lib.hid (firstB_cons x y t)
  have hx := hby x (by simp)
  have hy := hby y (by simp)
  have HS := Lib.hid (show Still w (w.alloc (.cells #[.int .i64 0, .int .i64 0, .int .i64 0, .int .i64 0, .int .i64 0, .int .i64 0, .int .i64 0, .int .i64 0, .int .i64 0, .int .i64 0, .slice none 0 0, .slice none 0 0, .slice none 0 0, .slice none 0 0, .slice none 0 0, .slice none 0 0] 34)) from (Still.refl w).alloc _)
  have hz0 := cellsAt_new w [.int .i64 0, .int .i64 0, .int .i64 0, .int .i64 0, .int .i64 0, .int .i64 0, .int .i64 0, .int .i64 0, .int .i64 0, .int .i64 0, .slice none 0 0, .slice none 0 0, .slice none 0 0, .slice none 0 0, .slice none 0 0, .slice none 0 0] 34
  have HB := Lib.hid (And.intro hb (And.intro hc (And.intro hby (And.intro hl hn))))
  obtain ⟨g, o, c, he, -, -, hcs⟩ := hb.pos (by omega)
  cases he
  have r0 : w.cell? ⟨g, o, none⟩ = some (.int .u8 x) := hcs 0 _ rfl
  have r1 : w.cell? ⟨g, o + 1, none⟩ = some (.int .u8 y) := hcs 1 _ rfl
  have r0' := Still.cell HS.out r0
  have r1' := Still.cell HS.out r1
  have d1 : decide ((n : Int) < 2) = false := decide_eq_false (by omega)
  have d2 : decide (n < 2) = false := decide_eq_false (by omega)
  have hor := or_join x y hx.1 (by omega) hy.1 (by omega)
  obtain ⟨N, hN⟩ : ∃ N : Nat, x * 256 + y = (N : Int) := ⟨(x * 256 + y).toNat, by omega⟩
  rw [hN, Int.toNat_natCast] at HF
  have hNb : N ≤ 65535 := by omega
  rw [hN] at hor
  have l0 : (0 : Int) < (n : Int) := by omega
  have l1 : (1 : Int) < (n : Int) := by omega
  obtain ⟨x0, x1⟩ := hx
  obtain ⟨y0, y1⟩ := hy
  have HNB := Lib.hid (And.intro hNb hN)
  clear hb hc hby hl hn hcs r0 r1 hN
  go_enter Tryz.func39, Tryz.ntmps39
  go_upto_region 1 with fail
  generalize (w.alloc (.cells #[.int .i64 0, .int .i64 0, .int .i64 0, .int .i64 0, .int .i64 0, .int .i64 0, .int .i64 0, .int .i64 0, .int .i64 0, .int .i64 0, .slice none 0 0, .slice none 0 0, .slice none 0 0, .slice none 0 0, .slice none 0 0, .slice none 0 0] 34)) = w1 at *
  go_wp2_with fail
  go_quiet (fail)
  have HS2 := Lib.hid (show Still w (w1.drewN nq) from HS.out.drewN nq)
  have hz2 : cellsAt (w1.drewN nq) w.heap.size [.int .i64 0, .int .i64 0, .int .i64 0, .int .i64 0, .int .i64 0, .int .i64 0, .int .i64 0, .int .i64 0, .int .i64 0, .int .i64 0, .slice none 0 0, .slice none 0 0, .slice none 0 0, .slice none 0 0, .slice none 0 0, .slice none 0 0] := hz0
  generalize w1.drewN nq = w2 at *
  clear hz0 HS r0' r1' hor
  have HZ2 := Lib.hid hz2
  clear hz2
  by_cases hlen : n < N + 4
  · have e1 : decide ((n : Int) < 2 + (N : Int) + 2) = true := decide_eq_true (by omega)
    have HNO := Lib.hid (show firstB (x :: y :: t) = none from by rw [HF.out, if_pos (by have := HB.out.2.2.2.1; omega)])
    clear hlen
    as_aux_lemma =>
      obtain ⟨du, hu, hdu⟩ := under_en
      have HU := Lib.hid (And.intro hu hdu)
      clear hu hdu
      have F := Lib.hid (fun wf (hs : Still w wf) => FirstPost.no (b := x :: y :: t) (0) HNO.out hs)
      have HZX := Lib.hid (show cellsAt w2 w.heap.size (#[.int .i64 0, .int .i64 0, .int .i64 0, .int .i64 0, .int .i64 0, .int .i64 0, .int .i64 0, .int .i64 0, .int .i64 0, .int .i64 0, .slice none 0 0, .slice none 0 0, .slice none 0 0, .slice none 0 0, .slice none 0 0, .slice none 0 0] : Array Value).toList from HZ2.out)
      go_wp2_with (first
        | (refine wpList_loadAgg rfl 34 _ rfl w.heap.size #[.int .i64 0, .int .i64 0, .int .i64 0, .int .i64 0, .int .i64 0, .int .i64 0, .int .i64 0, .int .i64 0, .int .i64 0, .int .i64 0, .slice none 0 0, .slice none 0 0, .slice none 0 0, .slice none 0 0, .slice none 0 0, .slice none 0 0] rfl HZX.out du HU.out.1 HU.out.2 size_en ?_)
        | (refine wpList_storeAgg rfl 34 _ _ rfl w.heap.size #[.int .i64 0, .int .i64 0, .int .i64 0, .int .i64 0, .int .i64 0, .int .i64 0, .int .i64 0, .int .i64 0, .int .i64 0, .int .i64 0, .slice none 0 0, .slice none 0 0, .slice none 0 0, .slice none 0 0, .slice none 0 0, .slice none 0 0] rfl rfl HZX.out size_en rfl rfl ?_; intro wf hcf hof hzf; have FF := Lib.hid (F.out wf (HS2.out.andThen hof fun i hi e => by omega)); have HCF := Lib.hid hcf; clear hcf hof hzf))
      have z0 : wf.cell? ⟨w.heap.size, 0, none⟩ = some (.int .i64 0) := HCF.out.cell 0
      have z1 : wf.cell? ⟨w.heap.size, 1, none⟩ = some (.int .i64 0) := HCF.out.cell 1
      have z2 : wf.cell? ⟨w.heap.size, 2, none⟩ = some (.int .i64 0) := HCF.out.cell 2
      have z3 : wf.cell? ⟨w.heap.size, 3, none⟩ = some (.int .i64 0) := HCF.out.cell 3
      have z4 : wf.cell? ⟨w.heap.size, 4, none⟩ = some (.int .i64 0) := HCF.out.cell 4
      have z5 : wf.cell? ⟨w.heap.size, 5, none⟩ = some (.int .i64 0) := HCF.out.cell 5
      have z6 : wf.cell? ⟨w.heap.size, 6, none⟩ = some (.int .i64 0) := HCF.out.cell 6
      have z7 : wf.cell? ⟨w.heap.size, 7, none⟩ = some (.int .i64 0) := HCF.out.cell 7
      have z8 : wf.cell? ⟨w.heap.size, 8, none⟩ = some (.int .i64 0) := HCF.out.cell 8
      have z9 : wf.cell? ⟨w.heap.size, 9, none⟩ = some (.int .i64 0) := HCF.out.cell 9
      have z10 : wf.cell? ⟨w.heap.size, 10, none⟩ = some (.slice none 0 0) := HCF.out.cell 10
      have z11 : wf.cell? ⟨w.heap.size, 11, none⟩ = some (.slice none 0 0) := HCF.out.cell 11
      have z12 : wf.cell? ⟨w.heap.size, 12, none⟩ = some (.slice none 0 0) := HCF.out.cell 12
      have z13 : wf.cell? ⟨w.heap.size, 13, none⟩ = some (.slice none 0 0) := HCF.out.cell 13
      have z14 : wf.cell? ⟨w.heap.size, 14, none⟩ = some (.slice none 0 0) := HCF.out.cell 14
      have z15 : wf.cell? ⟨w.heap.size, 15, none⟩ = some (.slice none 0 0) := HCF.out.cell 15
      exact bodyPost_ret (v := .tuple #[.agg #[.int .i64 0, .int .i64 0, .int .i64 0, .int .i64 0, .int .i64 0, .int .i64 0, .int .i64 0, .int .i64 0, .int .i64 0, .int .i64 0, .slice none 0 0, .slice none 0 0, .slice none 0 0, .slice none 0 0, .slice none 0 0, .slice none 0 0], .int .i64 (0), .bool false]) (by simp [results, Tryz.results39, go_sem, z0, z1, z2, z3, z4, z5, z6, z7, z8, z9, z10, z11, z12, z13, z14, z15]) rfl FF.out
  have e1 : decide ((n : Int) < 2 + (N : Int) + 2) = false := decide_eq_false (by omega)
  have hb2 := HB.out.1.still HS2.out
  obtain ⟨pv, r1, -, -, hp1, hp2⟩ := hb2.part (P := Tryz.prog) (size := 1) 23 Tryz.underlying23 (fun w => rfl) HB.out.2.1 (show 2 ≤ 2 + N by omega) (show 2 + N ≤ n by omega)
  obtain ⟨qv, r2, -, -, hq1, hq2⟩ := hb2.part (P := Tryz.prog) (size := 1) 23 Tryz.underlying23 (fun w => rfl) HB.out.2.1 (show 2 + N ≤ 2 + N + 2 by omega) (show 2 + N + 2 ≤ n by omega)
  have hpc : ((bc (x :: y :: t)).drop (2 * 1)).take ((2 + N - 2) * 1) = bc (t.take N) := by
    rw [show (2 + N - 2) * 1 = N by omega, bc_drop, bc_take]
    rfl
  have hqc : ((bc (x :: y :: t)).drop ((2 + N) * 1)).take ((2 + N + 2 - (2 + N)) * 1) = bc ((t.drop N).take 2) := by
    rw [show (2 + N + 2 - (2 + N)) * 1 = 2 by omega, Nat.mul_one, bc_drop, bc_take, show 2 + N = N + 2 by omega]
    rfl
  have hps := hp2 w2 Q hb2
  have hqs := hq2 w2 Q hb2
  rw [hpc, show 2 + N - 2 = N by omega] at hps
  rw [hqc, show 2 + N + 2 - (2 + N) = 2 by omega] at hqs
  rw [show 2 + N - 2 = N by omega] at hp1
  rw [show 2 + N + 2 - (2 + N) = 2 by omega] at hq1
  have r1' : ∀ w : World, (Instr.slice 23 (.slice (some ⟨g, o, none⟩) n bcp) (some (.int .i64 2)) (some (.int .i64 (2 + (N : Int)))) none).run Tryz.prog w = .ok pv w := fun w => by
    have := r1 w
    rwa [Int.natCast_add] at this
  have r2' : ∀ w : World, (Instr.slice 23 (.slice (some ⟨g, o, none⟩) n bcp) (some (.int .i64 (2 + (N : Int)))) (some (.int .i64 (2 + (N : Int) + 2))) none).run Tryz.prog w = .ok qv w := fun w => by
    have := r2 w
    rwa [Int.natCast_add, Int.natCast_add, Int.natCast_add] at this
  obtain ⟨pa, pc, rfl⟩ := hps.form
  obtain ⟨qa, qc, rfl⟩ := hqs.form
  have htby : Byt t := fun z hz => HB.out.2.2.1 z (by simp [hz])
  have HP := Lib.hid (And.intro hps (And.intro hqs (And.intro hp1 htby)))
  have HLE := Lib.hid (show ¬ n < N + 4 from hlen)
  clear hlen hpc hqc hp1 hp2 hq1 hq2 hps hqs r1 r2 hb2 htby
  have HCK := Lib.hid (fun w' (hs : Still w2 w') => check_any w' (.slice pa N pc) N (t.take N) (HP.out.1.still hs) (HP.out.2.2.2.take N) (by omega))
  have u1 : IntKind.i64.wrap (2 + (N : Int)) = 2 + (N : Int) := IntWalk.i64_in _ (by omega)
  have u2 : IntKind.i64.wrap (2 + (N : Int) + 2) = 2 + (N : Int) + 2 := IntWalk.i64_in _ (by omega)
  go_wp2_with fail
  refine wp_region_D_drew (D := (fun i => [11].contains i)) (S := (fun _ => True)) (by kernel_rfl) trivial (fun hHeld => ?_)
  (refine takeS (i := 0) (some 32) (v := ?_) rfl (by rfl) (by rfl) (by kernel_rfl) (by rfl) (fun _ _ _ h => h) (by assumption) ?_ ?_; rotate_left; (intro w hSw; go_simp; try with_reducible rfl); try go_frame)
  (refine takeS (i := 2) (some 34) (v := ?_) rfl (by rfl) (by rfl) (by kernel_rfl) (by rfl) (fun _ _ _ h => h) (by assumption) ?_ ?_; rotate_left; (intro w hSw; go_simp; try with_reducible rfl); try go_frame)
  (refine takeS (i := 3) (some 35) (v := ?_) rfl (by rfl) (by rfl) (by kernel_rfl) (by rfl) (fun _ _ _ h => h) (by assumption) ?_ ?_; rotate_left; (intro w hSw; go_simp; try with_reducible rfl); try go_frame)
  (refine takeS (i := 4) (some 36) (v := ?_) rfl (by rfl) (by rfl) (by kernel_rfl) (by rfl) (fun _ _ _ h => h) (by assumption) ?_ ?_; rotate_left; (intro w hSw; go_simp; try with_reducible rfl); try go_frame)
  (refine takeS (i := 5) (some 37) (v := ?_) rfl (by rfl) (by rfl) (by kernel_rfl) (by rfl) (fun _ _ _ h => h) (by assumption) ?_ ?_; rotate_left; (intro w hSw; go_simp; try with_reducible rfl); try go_frame)
  (refine takeS (i := 6) (some 38) (v := ?_) rfl (by rfl) (by rfl) (by kernel_rfl) (by rfl) (fun _ _ _ h => h) (by assumption) ?_ ?_; rotate_left; (intro w hSw; go_simp; try with_reducible rfl); try go_frame)
  (refine takeS (i := 7) (some 39) (v := ?_) rfl (by rfl) (by rfl) (by kernel_rfl) (by rfl) (fun _ _ _ h => h) (by assumption) ?_ ?_; rotate_left; (intro w hSw; go_simp; try with_reducible rfl); try go_frame)
  (refine takeS (i := 8) (some 40) (v := ?_) rfl (by rfl) (by rfl) (by kernel_rfl) (by rfl) (fun _ _ _ h => h) (by assumption) ?_ ?_; rotate_left; (intro w hSw; go_simp; try with_reducible rfl); try go_frame)
  refine wpAnyD_ready (rs := [1]) (by kernel_rfl) (by simp) ?_
  refine ReadyD.cons rfl (fun K hK => ?_) ?_
  go_simp
  refine (HCK.out _ (still_drew w2)).mono ?_
  rintro en w3 ⟨cv, rfl, hcv, hb3, ho3⟩
  have hs3 : Still w2 w3 := (still_drew w2).trans (Only.ofBelow hb3)
  have HEQ := Lib.hid (equal_any w3 cv (.slice qa 2 qc) 2 2 (chkB (t.take N)) ((t.drop N).take 2) (Vec.sl0 hcv (by omega)) (HP.out.2.1.still hs3) (chkB_byt _) ((HP.out.2.2.2.drop N).take 2))
  obtain ⟨ca, cc, rfl⟩ := hcv.form'
  obtain ⟨qb, hqb⟩ : ∃ q, decide (chkB (t.take N) = (t.drop N).take 2) = q := ⟨_, rfl⟩
  rw [hqb] at HEQ
  have HQB := Lib.hid hqb
  have HS3 := Lib.hid hs3
  clear hqb
  clear hcv hb3 ho3 hs3 HCK
  go_wp2_with fail
  (refine hK.out _ _ ?_ (fun hNew => ?_); (focus (exact trivial)); clear hHeld; have hHeld := hNew; clear hNew)
  (clear hK K; try go_frame)
  refine wpAnyD_ready (rs := [9]) (by kernel_rfl) (by simp) ?_
  refine ReadyD.cons rfl (fun K hK => ?_) ?_
  go_simp
  refine HEQ.out.mono ?_
  rintro en w3' ⟨rfl, rfl⟩
  go_wp2_with fail
  (refine hK.out _ _ ?_ (fun hNew => ?_); (focus (exact trivial)); clear hHeld; have hHeld := hNew; clear hNew)
  (clear hK K HEQ; try go_frame)
  (refine takeS (i := 10) (some 42) (v := ?_) rfl (by rfl) (by rfl) (by kernel_rfl) (by rfl) (fun _ _ _ h => h) (by assumption) ?_ ?_; rotate_left; (intro w hSw; go_simp; try with_reducible rfl); try go_frame)
  refine wpAnyD_done (by kernel_rfl) ?_ _
  rotate_left
  exact ReadyD.nil
  exact ReadyD.nil
  try go_frame
  have HZ3 := Lib.hid (cellsAt.only HZ2.out HS3.out fun e => e)
  have HSW := Lib.hid (HS2.out.trans HS3.out)
  cases qb
  · have hq := of_decide_eq_false HQB.out
    have HNO := Lib.hid (show firstB (x :: y :: t) = none from by rw [HF.out, if_neg (by have := HB.out.2.2.2.1; have := HLE.out; omega), if_neg (fun e => hq e.symm)])
    clear hq
    as_aux_lemma =>
      obtain ⟨du, hu, hdu⟩ := under_en
      have HU := Lib.hid (And.intro hu hdu)
      clear hu hdu
      have F := Lib.hid (fun wf (hs : Still w wf) => FirstPost.no (b := x :: y :: t) (0) HNO.out hs)
      have HZX := Lib.hid (show cellsAt w3' w.heap.size (#[.int .i64 0, .int .i64 0, .int .i64 0, .int .i64 0, .int .i64 0, .int .i64 0, .int .i64 0, .int .i64 0, .int .i64 0, .int .i64 0, .slice none 0 0, .slice none 0 0, .slice none 0 0, .slice none 0 0, .slice none 0 0, .slice none 0 0] : Array Value).toList from HZ3.out)
      go_wp2_with (first
        | (refine wpList_loadAgg rfl 34 _ rfl w.heap.size #[.int .i64 0, .int .i64 0, .int .i64 0, .int .i64 0, .int .i64 0, .int .i64 0, .int .i64 0, .int .i64 0, .int .i64 0, .int .i64 0, .slice none 0 0, .slice none 0 0, .slice none 0 0, .slice none 0 0, .slice none 0 0, .slice none 0 0] rfl HZX.out du HU.out.1 HU.out.2 size_en ?_)
        | (refine wpList_storeAgg rfl 34 _ _ rfl w.heap.size #[.int .i64 0, .int .i64 0, .int .i64 0, .int .i64 0, .int .i64 0, .int .i64 0, .int .i64 0, .int .i64 0, .int .i64 0, .int .i64 0, .slice none 0 0, .slice none 0 0, .slice none 0 0, .slice none 0 0, .slice none 0 0, .slice none 0 0] rfl rfl HZX.out size_en rfl rfl ?_; intro wf hcf hof hzf; have FF := Lib.hid (F.out wf (HSW.out.andThen hof fun i hi e => by omega)); have HCF := Lib.hid hcf; clear hcf hof hzf))
      have z0 : wf.cell? ⟨w.heap.size, 0, none⟩ = some (.int .i64 0) := HCF.out.cell 0
      have z1 : wf.cell? ⟨w.heap.size, 1, none⟩ = some (.int .i64 0) := HCF.out.cell 1
      have z2 : wf.cell? ⟨w.heap.size, 2, none⟩ = some (.int .i64 0) := HCF.out.cell 2
      have z3 : wf.cell? ⟨w.heap.size, 3, none⟩ = some (.int .i64 0) := HCF.out.cell 3
      have z4 : wf.cell? ⟨w.heap.size, 4, none⟩ = some (.int .i64 0) := HCF.out.cell 4
      have z5 : wf.cell? ⟨w.heap.size, 5, none⟩ = some (.int .i64 0) := HCF.out.cell 5
      have z6 : wf.cell? ⟨w.heap.size, 6, none⟩ = some (.int .i64 0) := HCF.out.cell 6
      have z7 : wf.cell? ⟨w.heap.size, 7, none⟩ = some (.int .i64 0) := HCF.out.cell 7
      have z8 : wf.cell? ⟨w.heap.size, 8, none⟩ = some (.int .i64 0) := HCF.out.cell 8
      have z9 : wf.cell? ⟨w.heap.size, 9, none⟩ = some (.int .i64 0) := HCF.out.cell 9
      have z10 : wf.cell? ⟨w.heap.size, 10, none⟩ = some (.slice none 0 0) := HCF.out.cell 10
      have z11 : wf.cell? ⟨w.heap.size, 11, none⟩ = some (.slice none 0 0) := HCF.out.cell 11
      have z12 : wf.cell? ⟨w.heap.size, 12, none⟩ = some (.slice none 0 0) := HCF.out.cell 12
      have z13 : wf.cell? ⟨w.heap.size, 13, none⟩ = some (.slice none 0 0) := HCF.out.cell 13
      have z14 : wf.cell? ⟨w.heap.size, 14, none⟩ = some (.slice none 0 0) := HCF.out.cell 14
      have z15 : wf.cell? ⟨w.heap.size, 15, none⟩ = some (.slice none 0 0) := HCF.out.cell 15
      exact bodyPost_ret (v := .tuple #[.agg #[.int .i64 0, .int .i64 0, .int .i64 0, .int .i64 0, .int .i64 0, .int .i64 0, .int .i64 0, .int .i64 0, .int .i64 0, .int .i64 0, .slice none 0 0, .slice none 0 0, .slice none 0 0, .slice none 0 0, .slice none 0 0, .slice none 0 0], .int .i64 (0), .bool false]) (by simp [results, Tryz.results39, go_sem, z0, z1, z2, z3, z4, z5, z6, z7, z8, z9, z10, z11, z12, z13, z14, z15]) rfl FF.out
  have hq := of_decide_eq_true HQB.out
  have HFQ := Lib.hid (show firstB (x :: y :: t) = (takeE (t.take N)).map fun e => (e, N + 4) from by rw [HF.out, if_neg (by have := HB.out.2.2.2.1; have := HLE.out; omega), if_pos hq.symm])
  clear hq
  have HTK := Lib.hid (take_any' w3' Q (.slice pa N pc) N (t.take N) (HP.out.1.still HS3.out) HP.out.2.2.1 (HP.out.2.2.2.take N) (by rw [List.length_take]; omega))
  go_wp2_with fail
  refine HTK.out.mono ?_
  rintro en w4 htp
  obtain ⟨hs4, hcase⟩ := htp.split
  have HZ4 := Lib.hid (cellsAt.only HZ3.out hs4 fun e => e)
  have HSX := Lib.hid (HSW.out.trans hs4)
  have HSZ := Lib.hid (show w.heap.size < w3'.heap.size from HZ3.out.lt)
  clear hs4 HTK htp
  rcases hcase with ⟨htk, hres⟩ | ⟨e, ov, nv, mv, lv, dv, pv, htk, rfl, hel⟩
  ·
    have hen : en = .returned (.tuple #[.agg #[.int .i64 0, .int .i64 0, .int .i64 0, .int .i64 0, .int .i64 0, .int .i64 0, .int .i64 0, .int .i64 0, .int .i64 0, .int .i64 0, .slice none 0 0, .slice none 0 0, .slice none 0 0, .slice none 0 0, .slice none 0 0, .slice none 0 0], .int .i64 4]) := hres
    subst hen
    have HNO := Lib.hid (show firstB (x :: y :: t) = none from by rw [HFQ.out, htk]; rfl)
    clear hres htk
    as_aux_lemma =>
      obtain ⟨du, hu, hdu⟩ := under_en
      have HU := Lib.hid (And.intro hu hdu)
      clear hu hdu
      have F := Lib.hid (fun wf (hs : Still w wf) => FirstPost.no (b := x :: y :: t) (2 + (N : Int) + 2) HNO.out hs)
      go_upto_region 10 with (refine wpList_storeAgg rfl 34 _ _ rfl w.heap.size #[.int .i64 0, .int .i64 0, .int .i64 0, .int .i64 0, .int .i64 0, .int .i64 0, .int .i64 0, .int .i64 0, .int .i64 0, .int .i64 0, .slice none 0 0, .slice none 0 0, .slice none 0 0, .slice none 0 0, .slice none 0 0, .slice none 0 0] rfl rfl HZ4.out size_en rfl rfl ?_; intro w5 hc5 ho5 hz5; have H5 := Lib.hid (And.intro hc5 (HSX.out.andThen ho5 fun i hi e => by omega)); clear hc5 ho5 hz5)
      go_wp2_with (first
        | (refine wpList_loadAgg rfl 34 _ rfl w.heap.size #[.int .i64 0, .int .i64 0, .int .i64 0, .int .i64 0, .int .i64 0, .int .i64 0, .int .i64 0, .int .i64 0, .int .i64 0, .int .i64 0, .slice none 0 0, .slice none 0 0, .slice none 0 0, .slice none 0 0, .slice none 0 0, .slice none 0 0] rfl H5.out.1 du HU.out.1 HU.out.2 size_en ?_)
        | (refine wpList_storeAgg rfl 34 _ _ rfl w.heap.size #[.int .i64 0, .int .i64 0, .int .i64 0, .int .i64 0, .int .i64 0, .int .i64 0, .int .i64 0, .int .i64 0, .int .i64 0, .int .i64 0, .slice none 0 0, .slice none 0 0, .slice none 0 0, .slice none 0 0, .slice none 0 0, .slice none 0 0] rfl rfl H5.out.1 size_en rfl rfl ?_; intro wf hcf hof hzf; have FF := Lib.hid (F.out wf (H5.out.2.andThen hof fun i hi e => by omega)); have HCF := Lib.hid hcf; clear hcf hof hzf))
      have z0 : wf.cell? ⟨w.heap.size, 0, none⟩ = some (.int .i64 0) := HCF.out.cell 0
      have z1 : wf.cell? ⟨w.heap.size, 1, none⟩ = some (.int .i64 0) := HCF.out.cell 1
      have z2 : wf.cell? ⟨w.heap.size, 2, none⟩ = some (.int .i64 0) := HCF.out.cell 2
      have z3 : wf.cell? ⟨w.heap.size, 3, none⟩ = some (.int .i64 0) := HCF.out.cell 3
      have z4 : wf.cell? ⟨w.heap.size, 4, none⟩ = some (.int .i64 0) := HCF.out.cell 4
      have z5 : wf.cell? ⟨w.heap.size, 5, none⟩ = some (.int .i64 0) := HCF.out.cell 5
      have z6 : wf.cell? ⟨w.heap.size, 6, none⟩ = some (.int .i64 0) := HCF.out.cell 6
      have z7 : wf.cell? ⟨w.heap.size, 7, none⟩ = some (.int .i64 0) := HCF.out.cell 7
      have z8 : wf.cell? ⟨w.heap.size, 8, none⟩ = some (.int .i64 0) := HCF.out.cell 8
      have z9 : wf.cell? ⟨w.heap.size, 9, none⟩ = some (.int .i64 0) := HCF.out.cell 9
      have z10 : wf.cell? ⟨w.heap.size, 10, none⟩ = some (.slice none 0 0) := HCF.out.cell 10
      have z11 : wf.cell? ⟨w.heap.size, 11, none⟩ = some (.slice none 0 0) := HCF.out.cell 11
      have z12 : wf.cell? ⟨w.heap.size, 12, none⟩ = some (.slice none 0 0) := HCF.out.cell 12
      have z13 : wf.cell? ⟨w.heap.size, 13, none⟩ = some (.slice none 0 0) := HCF.out.cell 13
      have z14 : wf.cell? ⟨w.heap.size, 14, none⟩ = some (.slice none 0 0) := HCF.out.cell 14
      have z15 : wf.cell? ⟨w.heap.size, 15, none⟩ = some (.slice none 0 0) := HCF.out.cell 15
      exact bodyPost_ret (v := .tuple #[.agg #[.int .i64 0, .int .i64 0, .int .i64 0, .int .i64 0, .int .i64 0, .int .i64 0, .int .i64 0, .int .i64 0, .int .i64 0, .int .i64 0, .slice none 0 0, .slice none 0 0, .slice none 0 0, .slice none 0 0, .slice none 0 0, .slice none 0 0], .int .i64 (2 + (N : Int) + 2), .bool false]) (by simp [results, Tryz.results39, go_sem, z0, z1, z2, z3, z4, z5, z6, z7, z8, z9, z10, z11, z12, z13, z14, z15]) rfl FF.out
  ·
    have HYE := Lib.hid (show firstB (x :: y :: t) = some (e, N + 4) from by rw [HFQ.out, htk]; rfl)
    obtain ⟨oa, oc, na, nc, ma, mc, la, lc, da, dc, va, vc, rfl, rfl, rfl, rfl, rfl, rfl⟩ := hel.forms
    have HEL := Lib.hid hel
    have F := Lib.hid (fun wf (ho : Only (fun b => b = w.heap.size) w4 wf) => FirstPost.yes HYE.out (HSX.out.andThen ho fun i hi e => by omega) ((HEL.out.only ho fun g hg e => by have := HSZ.out; omega).mono fun g hg => by have := HSZ.out; omega))
    unfold eV at F
    have u3 : ((N + 4 : Nat) : Int) = 2 + (N : Int) + 2 := by omega
    rw [u3] at F
    clear hel htk u3
    unfold eV
    as_aux_lemma =>
      obtain ⟨du, hu, hdu⟩ := under_en
      have HU := Lib.hid (And.intro hu hdu)
      clear hu hdu
      go_upto_region 10 with (refine wpList_storeAgg rfl 34 _ _ rfl w.heap.size #[.int .i64 e.kind, .int .i64 e.txn, .int .i64 e.unit, .int .i64 e.half, .int .i64 e.prev, .int .i64 e.next, .int .i64 e.ap, .int .i64 e.ac, .int .i64 e.tp, .int .i64 e.tc, .slice oa e.old.length oc, .slice na e.new.length nc, .slice ma e.moves.length mc, .slice la e.lives.length lc, .slice da e.dirty.length dc, .slice va e.opens.length vc] rfl rfl HZ4.out size_en rfl rfl ?_; intro w5 hc5 ho5 hz5; have H5 := Lib.hid (And.intro hc5 ho5); clear hc5 ho5 hz5)
      go_wp2_with (first
        | (refine wpList_loadAgg rfl 34 _ rfl w.heap.size #[.int .i64 e.kind, .int .i64 e.txn, .int .i64 e.unit, .int .i64 e.half, .int .i64 e.prev, .int .i64 e.next, .int .i64 e.ap, .int .i64 e.ac, .int .i64 e.tp, .int .i64 e.tc, .slice oa e.old.length oc, .slice na e.new.length nc, .slice ma e.moves.length mc, .slice la e.lives.length lc, .slice da e.dirty.length dc, .slice va e.opens.length vc] rfl H5.out.1 du HU.out.1 HU.out.2 size_en ?_)
        | (refine wpList_storeAgg rfl 34 _ _ rfl w.heap.size #[.int .i64 e.kind, .int .i64 e.txn, .int .i64 e.unit, .int .i64 e.half, .int .i64 e.prev, .int .i64 e.next, .int .i64 e.ap, .int .i64 e.ac, .int .i64 e.tp, .int .i64 e.tc, .slice oa e.old.length oc, .slice na e.new.length nc, .slice ma e.moves.length mc, .slice la e.lives.length lc, .slice da e.dirty.length dc, .slice va e.opens.length vc] rfl rfl H5.out.1 size_en rfl rfl ?_; intro wf hcf hof hzf; have FF := Lib.hid (F.out wf (H5.out.2.trans hof)); have HCF := Lib.hid hcf; clear hcf hof hzf))
      have z0 : wf.cell? ⟨w.heap.size, 0, none⟩ = some (.int .i64 e.kind) := HCF.out.cell 0
      have z1 : wf.cell? ⟨w.heap.size, 1, none⟩ = some (.int .i64 e.txn) := HCF.out.cell 1
      have z2 : wf.cell? ⟨w.heap.size, 2, none⟩ = some (.int .i64 e.unit) := HCF.out.cell 2
      have z3 : wf.cell? ⟨w.heap.size, 3, none⟩ = some (.int .i64 e.half) := HCF.out.cell 3
      have z4 : wf.cell? ⟨w.heap.size, 4, none⟩ = some (.int .i64 e.prev) := HCF.out.cell 4
      have z5 : wf.cell? ⟨w.heap.size, 5, none⟩ = some (.int .i64 e.next) := HCF.out.cell 5
      have z6 : wf.cell? ⟨w.heap.size, 6, none⟩ = some (.int .i64 e.ap) := HCF.out.cell 6
      have z7 : wf.cell? ⟨w.heap.size, 7, none⟩ = some (.int .i64 e.ac) := HCF.out.cell 7
      have z8 : wf.cell? ⟨w.heap.size, 8, none⟩ = some (.int .i64 e.tp) := HCF.out.cell 8
      have z9 : wf.cell? ⟨w.heap.size, 9, none⟩ = some (.int .i64 e.tc) := HCF.out.cell 9
      have z10 : wf.cell? ⟨w.heap.size, 10, none⟩ = some (.slice oa e.old.length oc) := HCF.out.cell 10
      have z11 : wf.cell? ⟨w.heap.size, 11, none⟩ = some (.slice na e.new.length nc) := HCF.out.cell 11
      have z12 : wf.cell? ⟨w.heap.size, 12, none⟩ = some (.slice ma e.moves.length mc) := HCF.out.cell 12
      have z13 : wf.cell? ⟨w.heap.size, 13, none⟩ = some (.slice la e.lives.length lc) := HCF.out.cell 13
      have z14 : wf.cell? ⟨w.heap.size, 14, none⟩ = some (.slice da e.dirty.length dc) := HCF.out.cell 14
      have z15 : wf.cell? ⟨w.heap.size, 15, none⟩ = some (.slice va e.opens.length vc) := HCF.out.cell 15
      exact bodyPost_ret (v := .tuple #[.agg #[.int .i64 e.kind, .int .i64 e.txn, .int .i64 e.unit, .int .i64 e.half, .int .i64 e.prev, .int .i64 e.next, .int .i64 e.ap, .int .i64 e.ac, .int .i64 e.tp, .int .i64 e.tc, .slice oa e.old.length oc, .slice na e.new.length nc, .slice ma e.moves.length mc, .slice la e.lives.length lc, .slice da e.dirty.length dc, .slice va e.opens.length vc], .int .i64 (2 + (N : Int) + 2), .bool true]) (by simp [results, Tryz.results39, go_sem, z0, z1, z2, z3, z4, z5, z6, z7, z8, z9, z10, z11, z12, z13, z14, z15]) rfl FF.out
theorem first_any (w : World) (Q : Nat → Prop) (bv : Value) (n : Nat) (b : List Int) (hb : Sl w Q 1 bv n (bc b)) (hc : Cap n bv) (hby : Byt b) (hn : n ≤ 100000) :
    Calls Tryz.prog 39 #[bv] w (FirstPost w b) := by
  have hl : b.length = n := by have := hb.1; rw [bc_length] at this; omega
  obtain ⟨a, c, rfl⟩ := hb.form
  match b with
  | [] => exact first_short w a n c [] hl (by simp at hl; omega)
  | [z] => exact first_short w a n c [z] hl (by simp at hl; omega)
  | x :: y :: t => exact first_long w Q a n c x y t hb hc hby (by simpa using hl) hn
end Go.Proofs.YtojkggppcmdepaaGreat

/- The frame at the front of some bytes. Conditions: they lie in memory. Entries in memory; the frames that some bytes begin with. Conditions: they lie in memory. What is scanned is what stands there; how much tiles say: plain. No program. No conditions. A trail: all entries stable; opened. Conditions: all lies in memory, apart. Pages, their two tiles, a cache of frames with a hand that goes round: plain. No program. No conditions. -/
import Derived.Test.YtlcfoeikamkpmaaGreatPr10
namespace Go.Proofs.YtlcfoeikamkpmaaGreat
open Go.RowKit Go.Wh Go.Maps

def FirstPost (w : World) (b : List Int) (en : Ending) (w' : World) : Prop :=
 Still w w' ∧ match firstB b with
 | some (e, n) => ∃ ov nv mv lv dv pv, en = .returned (.tuple #[.agg (eV e ov nv mv lv dv pv), .int .i64 n, .bool true]) ∧ EIs w' (fun g => w.heap.size ≤ g) e ov nv mv lv dv pv
 | none => ∃ n : Int, en = .returned (.tuple #[.agg zE.toArray, .int .i64 n, .bool false])
theorem FirstPost.yes {w w' : World} {b : List Int} {e : PE} {n : Nat} {ov nv mv lv dv pv : Value} (ht : firstB b = some (e, n)) (hs : Still w w') (he : EIs w' (fun g => w.heap.size ≤ g) e ov nv mv lv dv pv) : FirstPost w b (.returned (.tuple #[.agg (eV e ov nv mv lv dv pv), .int .i64 n, .bool true])) w' := by
 refine ⟨hs, ?_⟩
 rw [ht]
 exact ⟨ov, nv, mv, lv, dv, pv, rfl, he⟩
theorem FirstPost.no {w w' : World} {b : List Int} (n : Int) (ht : firstB b = none) (hs : Still w w') : FirstPost w b (.returned (.tuple #[.agg zE.toArray, .int .i64 n, .bool false])) w' := by
 refine ⟨hs, ?_⟩
 rw [ht]
 exact ⟨n, rfl⟩
theorem TakePost.split {w w' : World} {b : List Int} {en : Ending} (h : TakePost w b en w') : Still w w' ∧ ((takeE b = none ∧ en = .returned (.tuple #[.agg zE.toArray, .int .i64 4])) ∨ ∃ e ov nv mv lv dv pv, takeE b = some e ∧ en = .returned (.tuple #[.agg (eV e ov nv mv lv dv pv), .int .i64 0]) ∧ EIs w' (fun g => w.heap.size ≤ g) e ov nv mv lv dv pv) := by
 unfold TakePost at h
 revert h
 generalize takeE b = o
 intro h
 obtain ⟨h1, h2⟩ := h
 refine ⟨h1, ?_⟩
 cases o with
 | none => exact .inl ⟨rfl, h2⟩
 | some e =>
  obtain ⟨ov, nv, mv, lv, dv, pv, h3, h4⟩ := h2
  exact .inr ⟨e, ov, nv, mv, lv, dv, pv, rfl, h3, h4⟩
theorem FirstPost.split {w w' : World} {b : List Int} {en : Ending} (h : FirstPost w b en w') : Still w w' ∧ ((firstB b = none ∧ ∃ n : Int, en = .returned (.tuple #[.agg zE.toArray, .int .i64 n, .bool false])) ∨ ∃ e n ov nv mv lv dv pv, firstB b = some (e, n) ∧ en = .returned (.tuple #[.agg (eV e ov nv mv lv dv pv), .int .i64 n, .bool true]) ∧ EIs w' (fun g => w.heap.size ≤ g) e ov nv mv lv dv pv) := by
 unfold FirstPost at h
 revert h
 generalize firstB b = o
 intro h
 obtain ⟨h1, h2⟩ := h
 refine ⟨h1, ?_⟩
 cases o with
 | none => exact .inl ⟨rfl, h2⟩
 | some p =>
  obtain ⟨ov, nv, mv, lv, dv, pv, h3, h4⟩ := h2
  exact .inr ⟨p.1, p.2, ov, nv, mv, lv, dv, pv, rfl, h3, h4⟩
theorem firstB_short {b : List Int} (h : b.length < 2) : firstB b = none := by
 match b with
 | [] => rfl
 | [_] => rfl
 | _ :: _ :: _ => simp only [List.length_cons] at h; omega
set_option maxHeartbeats 4000000 in
set_option maxRecDepth 100000 in
theorem first_short (w : World) (ba : Option Addr) (n bcp : Nat) (b : List Int) (hl : b.length = n) (h2 : n < 2) :
 Calls Tryz.prog 66 #[.slice ba n bcp] w (FirstPost w b) := by
 have HF := Lib.hid (firstB_short (b := b) (by omega))
 have HS := Lib.hid (show Still w (w.alloc (.cells #[.int .i64 0, .int .i64 0, .int .i64 0, .int .i64 0, .int .i64 0, .int .i64 0, .int .i64 0, .int .i64 0, .int .i64 0, .int .i64 0, .slice none 0 0, .slice none 0 0, .slice none 0 0, .slice none 0 0, .slice none 0 0, .slice none 0 0] 69)) from (Still.refl w).alloc _)
 have hz0 := cellsAt_new w [.int .i64 0, .int .i64 0, .int .i64 0, .int .i64 0, .int .i64 0, .int .i64 0, .int .i64 0, .int .i64 0, .int .i64 0, .int .i64 0, .slice none 0 0, .slice none 0 0, .slice none 0 0, .slice none 0 0, .slice none 0 0, .slice none 0 0] 69
 have d1 : decide ((n : Int) < 2) = true := decide_eq_true (by omega)
 have d2 : decide (n < 2) = true := decide_eq_true h2
 clear hl h2
 go_enter Tryz.func66, Tryz.ntmps66
 go_upto_region 1 with fail
 generalize (w.alloc (.cells #[.int .i64 0, .int .i64 0, .int .i64 0, .int .i64 0, .int .i64 0, .int .i64 0, .int .i64 0, .int .i64 0, .int .i64 0, .int .i64 0, .slice none 0 0, .slice none 0 0, .slice none 0 0, .slice none 0 0, .slice none 0 0, .slice none 0 0] 69)) = w1 at *
 have HZ0 := Lib.hid hz0
 have HNO := HF
 clear hz0
 as_aux_lemma =>
  obtain ⟨du, hu, hdu⟩ := under_en
  have HU := Lib.hid (And.intro hu hdu)
  clear hu hdu
  have F := Lib.hid (fun wf (hs : Still w wf) => FirstPost.no (b := b) (0) HNO.out hs)
  have HZX := Lib.hid (show cellsAt w1 w.heap.size (#[.int .i64 0, .int .i64 0, .int .i64 0, .int .i64 0, .int .i64 0, .int .i64 0, .int .i64 0, .int .i64 0, .int .i64 0, .int .i64 0, .slice none 0 0, .slice none 0 0, .slice none 0 0, .slice none 0 0, .slice none 0 0, .slice none 0 0] : Array Value).toList from HZ0.out)
  go_wp2_with (first
   | (refine wpList_loadAgg rfl 69 _ rfl w.heap.size #[.int .i64 0, .int .i64 0, .int .i64 0, .int .i64 0, .int .i64 0, .int .i64 0, .int .i64 0, .int .i64 0, .int .i64 0, .int .i64 0, .slice none 0 0, .slice none 0 0, .slice none 0 0, .slice none 0 0, .slice none 0 0, .slice none 0 0] rfl HZX.out du HU.out.1 HU.out.2 size_en ?_)
   | (refine wpList_storeAgg rfl 69 _ _ rfl w.heap.size #[.int .i64 0, .int .i64 0, .int .i64 0, .int .i64 0, .int .i64 0, .int .i64 0, .int .i64 0, .int .i64 0, .int .i64 0, .int .i64 0, .slice none 0 0, .slice none 0 0, .slice none 0 0, .slice none 0 0, .slice none 0 0, .slice none 0 0] rfl rfl HZX.out size_en rfl rfl ?_; intro wf hcf hof hzf; have FF := Lib.hid (F.out wf (HS.out.andThen hof fun i hi e => by omega)); have HCF := Lib.hid hcf; clear hcf hof hzf))
  have z0 : wf.cell? ⟨w.heap.size, 0, none⟩ = some (.int .i64 0) := HCF.out.cell 0
  have z1 : wf.cell? ⟨w.heap.size, 1, none⟩ = some (.int .i64 0) := HCF.out.cell 1
  have z2 : wf.cell? ⟨w.heap.size, 2, none⟩ = some (.int .i64 0) := HCF.out.cell 2
  have z3 : wf.cell? ⟨w.heap.size, 3, none⟩ = some (.int .i64 0) := HCF.out.cell 3
  have z4 : wf.cell? ⟨w.heap.size, 4, none⟩ = some (.int .i64 0) := HCF.out.cell 4
  have z5 : wf.cell? ⟨w.heap.size, 5, none⟩ = some (.int .i64 0) := HCF.out.cell 5
  have z6 : wf.cell? ⟨w.heap.size, 6, none⟩ = some (.int .i64 0) := HCF.out.cell 6
  have z7 : wf.cell? ⟨w.heap.size, 7, none⟩ = some (.int .i64 0) := HCF.out.cell 7
  have z8 : wf.cell? ⟨w.heap.size, 8, none⟩ = some (.int .i64 0) := HCF.out.cell 8
  have z9 : wf.cell? ⟨w.heap.size, 9, none⟩ = some (.int .i64 0) := HCF.out.cell 9
  have z10 : wf.cell? ⟨w.heap.size, 10, none⟩ = some (.slice none 0 0) := HCF.out.cell 10
  have z11 : wf.cell? ⟨w.heap.size, 11, none⟩ = some (.slice none 0 0) := HCF.out.cell 11
  have z12 : wf.cell? ⟨w.heap.size, 12, none⟩ = some (.slice none 0 0) := HCF.out.cell 12
  have z13 : wf.cell? ⟨w.heap.size, 13, none⟩ = some (.slice none 0 0) := HCF.out.cell 13
  have z14 : wf.cell? ⟨w.heap.size, 14, none⟩ = some (.slice none 0 0) := HCF.out.cell 14
  have z15 : wf.cell? ⟨w.heap.size, 15, none⟩ = some (.slice none 0 0) := HCF.out.cell 15
  exact bodyPost_ret (v := .tuple #[.agg #[.int .i64 0, .int .i64 0, .int .i64 0, .int .i64 0, .int .i64 0, .int .i64 0, .int .i64 0, .int .i64 0, .int .i64 0, .int .i64 0, .slice none 0 0, .slice none 0 0, .slice none 0 0, .slice none 0 0, .slice none 0 0, .slice none 0 0], .int .i64 (0), .bool false]) (by simp [results, Tryz.results66, go_sem, z0, z1, z2, z3, z4, z5, z6, z7, z8, z9, z10, z11, z12, z13, z14, z15]) rfl FF.out

set_option maxHeartbeats 20000000 in
set_option maxRecDepth 100000 in
theorem first_long (w : World) (Q : Nat → Prop) (ba : Option Addr) (n bcp : Nat) (x y : Int) (t : List Int) (hb : Sl w Q 1 (.slice ba n bcp) n (bc (x :: y :: t))) (hc : Cap n (.slice ba n bcp)) (hby : Byt (x :: y :: t)) (hl : t.length + 2 = n) (hn : n ≤ 100000) :
 Calls Tryz.prog 66 #[.slice ba n bcp] w (FirstPost w (x :: y :: t)) := by
 have HF := Lib.hid (firstB_cons x y t)
 have hx := hby x (by simp)
 have hy := hby y (by simp)
 have HS := Lib.hid (show Still w (w.alloc (.cells #[.int .i64 0, .int .i64 0, .int .i64 0, .int .i64 0, .int .i64 0, .int .i64 0, .int .i64 0, .int .i64 0, .int .i64 0, .int .i64 0, .slice none 0 0, .slice none 0 0, .slice none 0 0, .slice none 0 0, .slice none 0 0, .slice none 0 0] 69)) from (Still.refl w).alloc _)
 have hz0 := cellsAt_new w [.int .i64 0, .int .i64 0, .int .i64 0, .int .i64 0, .int .i64 0, .int .i64 0, .int .i64 0, .int .i64 0, .int .i64 0, .int .i64 0, .slice none 0 0, .slice none 0 0, .slice none 0 0, .slice none 0 0, .slice none 0 0, .slice none 0 0] 69
 have HB := Lib.hid (And.intro hb (And.intro hc (And.intro hby (And.intro hl hn))))
 obtain ⟨g, o, c, he, -, -, hcs⟩ := hb.pos (by omega)
 cases he
 have r0 : w.cell? ⟨g, o, none⟩ = some (.int .u8 x) := hcs 0 _ rfl
 have r1 : w.cell? ⟨g, o + 1, none⟩ = some (.int .u8 y) := hcs 1 _ rfl
 have r0' := Still.cell HS.out r0
 have r1' := Still.cell HS.out r1
 have d1 : decide ((n : Int) < 2) = false := decide_eq_false (by omega)
 have d2 : decide (n < 2) = false := decide_eq_false (by omega)
 have hor := or_join x y hx.1 (by omega) hy.1 (by omega)
 obtain ⟨N, hN⟩ : ∃ N : Nat, x * 256 + y = (N : Int) := ⟨(x * 256 + y).toNat, by omega⟩
 rw [hN, Int.toNat_natCast] at HF
 have hNb : N ≤ 65535 := by omega
 rw [hN] at hor
 have l0 : (0 : Int) < (n : Int) := by omega
 have l1 : (1 : Int) < (n : Int) := by omega
 obtain ⟨x0, x1⟩ := hx
 obtain ⟨y0, y1⟩ := hy
 have HNB := Lib.hid (And.intro hNb hN)
 clear hb hc hby hl hn hcs r0 r1 hN
 go_enter Tryz.func66, Tryz.ntmps66
 go_upto_region 1 with fail
 generalize (w.alloc (.cells #[.int .i64 0, .int .i64 0, .int .i64 0, .int .i64 0, .int .i64 0, .int .i64 0, .int .i64 0, .int .i64 0, .int .i64 0, .int .i64 0, .slice none 0 0, .slice none 0 0, .slice none 0 0, .slice none 0 0, .slice none 0 0, .slice none 0 0] 69)) = w1 at *
 go_wp2_with fail
 go_quiet (fail)
 have HS2 := Lib.hid (show Still w (w1.drewN nq) from HS.out.drewN nq)
 have hz2 : cellsAt (w1.drewN nq) w.heap.size [.int .i64 0, .int .i64 0, .int .i64 0, .int .i64 0, .int .i64 0, .int .i64 0, .int .i64 0, .int .i64 0, .int .i64 0, .int .i64 0, .slice none 0 0, .slice none 0 0, .slice none 0 0, .slice none 0 0, .slice none 0 0, .slice none 0 0] := hz0
 generalize w1.drewN nq = w2 at *
 clear hz0 HS r0' r1' hor
 have HZ2 := Lib.hid hz2
 clear hz2
 by_cases hlen : n < N + 4
 · have e1 : decide ((n : Int) < 2 + (N : Int) + 2) = true := decide_eq_true (by omega)
   have HNO := Lib.hid (show firstB (x :: y :: t) = none from by rw [HF.out, if_pos (by have := HB.out.2.2.2.1; omega)])
   clear hlen
   as_aux_lemma =>
    obtain ⟨du, hu, hdu⟩ := under_en
    have HU := Lib.hid (And.intro hu hdu)
    clear hu hdu
    have F := Lib.hid (fun wf (hs : Still w wf) => FirstPost.no (b := x :: y :: t) (0) HNO.out hs)
    have HZX := Lib.hid (show cellsAt w2 w.heap.size (#[.int .i64 0, .int .i64 0, .int .i64 0, .int .i64 0, .int .i64 0, .int .i64 0, .int .i64 0, .int .i64 0, .int .i64 0, .int .i64 0, .slice none 0 0, .slice none 0 0, .slice none 0 0, .slice none 0 0, .slice none 0 0, .slice none 0 0] : Array Value).toList from HZ2.out)
    go_wp2_with (first
     | (refine wpList_loadAgg rfl 69 _ rfl w.heap.size #[.int .i64 0, .int .i64 0, .int .i64 0, .int .i64 0, .int .i64 0, .int .i64 0, .int .i64 0, .int .i64 0, .int .i64 0, .int .i64 0, .slice none 0 0, .slice none 0 0, .slice none 0 0, .slice none 0 0, .slice none 0 0, .slice none 0 0] rfl HZX.out du HU.out.1 HU.out.2 size_en ?_)
     | (refine wpList_storeAgg rfl 69 _ _ rfl w.heap.size #[.int .i64 0, .int .i64 0, .int .i64 0, .int .i64 0, .int .i64 0, .int .i64 0, .int .i64 0, .int .i64 0, .int .i64 0, .int .i64 0, .slice none 0 0, .slice none 0 0, .slice none 0 0, .slice none 0 0, .slice none 0 0, .slice none 0 0] rfl rfl HZX.out size_en rfl rfl ?_; intro wf hcf hof hzf; have FF := Lib.hid (F.out wf (HS2.out.andThen hof fun i hi e => by omega)); have HCF := Lib.hid hcf; clear hcf hof hzf))
    have z0 : wf.cell? ⟨w.heap.size, 0, none⟩ = some (.int .i64 0) := HCF.out.cell 0
    have z1 : wf.cell? ⟨w.heap.size, 1, none⟩ = some (.int .i64 0) := HCF.out.cell 1
    have z2 : wf.cell? ⟨w.heap.size, 2, none⟩ = some (.int .i64 0) := HCF.out.cell 2
    have z3 : wf.cell? ⟨w.heap.size, 3, none⟩ = some (.int .i64 0) := HCF.out.cell 3
    have z4 : wf.cell? ⟨w.heap.size, 4, none⟩ = some (.int .i64 0) := HCF.out.cell 4
    have z5 : wf.cell? ⟨w.heap.size, 5, none⟩ = some (.int .i64 0) := HCF.out.cell 5
    have z6 : wf.cell? ⟨w.heap.size, 6, none⟩ = some (.int .i64 0) := HCF.out.cell 6
    have z7 : wf.cell? ⟨w.heap.size, 7, none⟩ = some (.int .i64 0) := HCF.out.cell 7
    have z8 : wf.cell? ⟨w.heap.size, 8, none⟩ = some (.int .i64 0) := HCF.out.cell 8
    have z9 : wf.cell? ⟨w.heap.size, 9, none⟩ = some (.int .i64 0) := HCF.out.cell 9
    have z10 : wf.cell? ⟨w.heap.size, 10, none⟩ = some (.slice none 0 0) := HCF.out.cell 10
    have z11 : wf.cell? ⟨w.heap.size, 11, none⟩ = some (.slice none 0 0) := HCF.out.cell 11
    have z12 : wf.cell? ⟨w.heap.size, 12, none⟩ = some (.slice none 0 0) := HCF.out.cell 12
    have z13 : wf.cell? ⟨w.heap.size, 13, none⟩ = some (.slice none 0 0) := HCF.out.cell 13
    have z14 : wf.cell? ⟨w.heap.size, 14, none⟩ = some (.slice none 0 0) := HCF.out.cell 14
    have z15 : wf.cell? ⟨w.heap.size, 15, none⟩ = some (.slice none 0 0) := HCF.out.cell 15
    exact bodyPost_ret (v := .tuple #[.agg #[.int .i64 0, .int .i64 0, .int .i64 0, .int .i64 0, .int .i64 0, .int .i64 0, .int .i64 0, .int .i64 0, .int .i64 0, .int .i64 0, .slice none 0 0, .slice none 0 0, .slice none 0 0, .slice none 0 0, .slice none 0 0, .slice none 0 0], .int .i64 (0), .bool false]) (by simp [results, Tryz.results66, go_sem, z0, z1, z2, z3, z4, z5, z6, z7, z8, z9, z10, z11, z12, z13, z14, z15]) rfl FF.out
 have e1 : decide ((n : Int) < 2 + (N : Int) + 2) = false := decide_eq_false (by omega)
 have hb2 := HB.out.1.still HS2.out
 obtain ⟨pv, r1, -, -, hp1, hp2⟩ := hb2.part (P := Tryz.prog) (size := 1) 22 Tryz.underlying22 (fun w => rfl) HB.out.2.1 (show 2 ≤ 2 + N by omega) (show 2 + N ≤ n by omega)
 obtain ⟨qv, r2, -, -, hq1, hq2⟩ := hb2.part (P := Tryz.prog) (size := 1) 22 Tryz.underlying22 (fun w => rfl) HB.out.2.1 (show 2 + N ≤ 2 + N + 2 by omega) (show 2 + N + 2 ≤ n by omega)
 have hpc : ((bc (x :: y :: t)).drop (2 * 1)).take ((2 + N - 2) * 1) = bc (t.take N) := by
  rw [show (2 + N - 2) * 1 = N by omega, bc_drop, bc_take]
  rfl
 have hqc : ((bc (x :: y :: t)).drop ((2 + N) * 1)).take ((2 + N + 2 - (2 + N)) * 1) = bc ((t.drop N).take 2) := by
  rw [show (2 + N + 2 - (2 + N)) * 1 = 2 by omega, Nat.mul_one, bc_drop, bc_take, show 2 + N = N + 2 by omega]
  rfl
 have hps := hp2 w2 Q hb2
 have hqs := hq2 w2 Q hb2
 rw [hpc, show 2 + N - 2 = N by omega] at hps
 rw [hqc, show 2 + N + 2 - (2 + N) = 2 by omega] at hqs
 rw [show 2 + N - 2 = N by omega] at hp1
 rw [show 2 + N + 2 - (2 + N) = 2 by omega] at hq1
 have r1' : ∀ w : World, (Instr.slice 22 (.slice (some ⟨g, o, none⟩) n bcp) (some (.int .i64 2)) (some (.int .i64 (2 + (N : Int)))) none).run Tryz.prog w = .ok pv w := fun w => by
  have := r1 w
  rwa [Int.natCast_add] at this
 have r2' : ∀ w : World, (Instr.slice 22 (.slice (some ⟨g, o, none⟩) n bcp) (some (.int .i64 (2 + (N : Int)))) (some (.int .i64 (2 + (N : Int) + 2))) none).run Tryz.prog w = .ok qv w := fun w => by
  have := r2 w
  rwa [Int.natCast_add, Int.natCast_add, Int.natCast_add] at this
 obtain ⟨pa, pc, rfl⟩ := hps.form
 obtain ⟨qa, qc, rfl⟩ := hqs.form
 have htby : Byt t := fun z hz => HB.out.2.2.1 z (by simp [hz])
 have HP := Lib.hid (And.intro hps (And.intro hqs (And.intro hp1 htby)))
 have HLE := Lib.hid (show ¬ n < N + 4 from hlen)
 clear hlen hpc hqc hp1 hp2 hq1 hq2 hps hqs r1 r2 hb2 htby
 have HCK := Lib.hid (fun w' (hs : Still w2 w') => check_any w' (.slice pa N pc) N (t.take N) (HP.out.1.still hs) (HP.out.2.2.2.take N) (by omega))
 have u1 : IntKind.i64.wrap (2 + (N : Int)) = 2 + (N : Int) := IntWalk.i64_in _ (by omega)
 have u2 : IntKind.i64.wrap (2 + (N : Int) + 2) = 2 + (N : Int) + 2 := IntWalk.i64_in _ (by omega)
 go_wp2_with fail
 refine wp_region_D_drew (D := (fun i => [11].contains i)) (S := (fun _ => True)) (by kernel_rfl) trivial (fun hHeld => ?_)
 (refine takeS (i := 0) (some 32) (v := ?_) rfl (by rfl) (by rfl) (by kernel_rfl) (by rfl) (fun _ _ _ h => h) (by assumption) ?_ ?_; rotate_left; (intro w hSw; go_simp; try with_reducible rfl); try go_frame)
 (refine takeS (i := 2) (some 34) (v := ?_) rfl (by rfl) (by rfl) (by kernel_rfl) (by rfl) (fun _ _ _ h => h) (by assumption) ?_ ?_; rotate_left; (intro w hSw; go_simp; try with_reducible rfl); try go_frame)
 (refine takeS (i := 3) (some 35) (v := ?_) rfl (by rfl) (by rfl) (by kernel_rfl) (by rfl) (fun _ _ _ h => h) (by assumption) ?_ ?_; rotate_left; (intro w hSw; go_simp; try with_reducible rfl); try go_frame)
 (refine takeS (i := 4) (some 36) (v := ?_) rfl (by rfl) (by rfl) (by kernel_rfl) (by rfl) (fun _ _ _ h => h) (by assumption) ?_ ?_; rotate_left; (intro w hSw; go_simp; try with_reducible rfl); try go_frame)
 (refine takeS (i := 5) (some 37) (v := ?_) rfl (by rfl) (by rfl) (by kernel_rfl) (by rfl) (fun _ _ _ h => h) (by assumption) ?_ ?_; rotate_left; (intro w hSw; go_simp; try with_reducible rfl); try go_frame)
 (refine takeS (i := 6) (some 38) (v := ?_) rfl (by rfl) (by rfl) (by kernel_rfl) (by rfl) (fun _ _ _ h => h) (by assumption) ?_ ?_; rotate_left; (intro w hSw; go_simp; try with_reducible rfl); try go_frame)
 (refine takeS (i := 7) (some 39) (v := ?_) rfl (by rfl) (by rfl) (by kernel_rfl) (by rfl) (fun _ _ _ h => h) (by assumption) ?_ ?_; rotate_left; (intro w hSw; go_simp; try with_reducible rfl); try go_frame)
 (refine takeS (i := 8) (some 40) (v := ?_) rfl (by rfl) (by rfl) (by kernel_rfl) (by rfl) (fun _ _ _ h => h) (by assumption) ?_ ?_; rotate_left; (intro w hSw; go_simp; try with_reducible rfl); try go_frame)
 refine wpAnyD_ready (rs := [1]) (by kernel_rfl) (by simp) ?_
 refine ReadyD.cons rfl (fun K hK => ?_) ?_
 go_simp
 refine (HCK.out _ (still_drew w2)).mono ?_
 rintro en w3 ⟨cv, rfl, hcv, hb3, ho3⟩
 have hs3 : Still w2 w3 := (still_drew w2).trans (Only.ofBelow hb3)
 have HEQ := Lib.hid (equal_any w3 cv (.slice qa 2 qc) 2 2 (chkB (t.take N)) ((t.drop N).take 2) (Vec.sl0 hcv (by omega)) (HP.out.2.1.still hs3) (chkB_byt _) ((HP.out.2.2.2.drop N).take 2))
 obtain ⟨ca, cc, rfl⟩ := hcv.form'
 obtain ⟨qb, hqb⟩ : ∃ q, decide (chkB (t.take N) = (t.drop N).take 2) = q := ⟨_, rfl⟩
 rw [hqb] at HEQ
 have HQB := Lib.hid hqb
 have HS3 := Lib.hid hs3
 clear hqb
 clear hcv hb3 ho3 hs3 HCK
 go_wp2_with fail
 (refine hK.out _ _ ?_ (fun hNew => ?_); (focus (exact trivial)); clear hHeld; have hHeld := hNew; clear hNew)
 (clear hK K; try go_frame)
 refine wpAnyD_ready (rs := [9]) (by kernel_rfl) (by simp) ?_
 refine ReadyD.cons rfl (fun K hK => ?_) ?_
 go_simp
 refine HEQ.out.mono ?_
 rintro en w3' ⟨rfl, rfl⟩
 go_wp2_with fail
 (refine hK.out _ _ ?_ (fun hNew => ?_); (focus (exact trivial)); clear hHeld; have hHeld := hNew; clear hNew)
 (clear hK K HEQ; try go_frame)
 (refine takeS (i := 10) (some 42) (v := ?_) rfl (by rfl) (by rfl) (by kernel_rfl) (by rfl) (fun _ _ _ h => h) (by assumption) ?_ ?_; rotate_left; (intro w hSw; go_simp; try with_reducible rfl); try go_frame)
 refine wpAnyD_done (by kernel_rfl) ?_ _
 rotate_left
 exact ReadyD.nil
 exact ReadyD.nil
 try go_frame
 have HZ3 := Lib.hid (cellsAt.only HZ2.out HS3.out fun e => e)
 have HSW := Lib.hid (HS2.out.trans HS3.out)
 cases qb
 · have hq := of_decide_eq_false HQB.out
   have HNO := Lib.hid (show firstB (x :: y :: t) = none from by rw [HF.out, if_neg (by have := HB.out.2.2.2.1; have := HLE.out; omega), if_neg (fun e => hq e.symm)])
   clear hq
   as_aux_lemma =>
    obtain ⟨du, hu, hdu⟩ := under_en
    have HU := Lib.hid (And.intro hu hdu)
    clear hu hdu
    have F := Lib.hid (fun wf (hs : Still w wf) => FirstPost.no (b := x :: y :: t) (0) HNO.out hs)
    have HZX := Lib.hid (show cellsAt w3' w.heap.size (#[.int .i64 0, .int .i64 0, .int .i64 0, .int .i64 0, .int .i64 0, .int .i64 0, .int .i64 0, .int .i64 0, .int .i64 0, .int .i64 0, .slice none 0 0, .slice none 0 0, .slice none 0 0, .slice none 0 0, .slice none 0 0, .slice none 0 0] : Array Value).toList from HZ3.out)
    go_wp2_with (first
     | (refine wpList_loadAgg rfl 69 _ rfl w.heap.size #[.int .i64 0, .int .i64 0, .int .i64 0, .int .i64 0, .int .i64 0, .int .i64 0, .int .i64 0, .int .i64 0, .int .i64 0, .int .i64 0, .slice none 0 0, .slice none 0 0, .slice none 0 0, .slice none 0 0, .slice none 0 0, .slice none 0 0] rfl HZX.out du HU.out.1 HU.out.2 size_en ?_)
     | (refine wpList_storeAgg rfl 69 _ _ rfl w.heap.size #[.int .i64 0, .int .i64 0, .int .i64 0, .int .i64 0, .int .i64 0, .int .i64 0, .int .i64 0, .int .i64 0, .int .i64 0, .int .i64 0, .slice none 0 0, .slice none 0 0, .slice none 0 0, .slice none 0 0, .slice none 0 0, .slice none 0 0] rfl rfl HZX.out size_en rfl rfl ?_; intro wf hcf hof hzf; have FF := Lib.hid (F.out wf (HSW.out.andThen hof fun i hi e => by omega)); have HCF := Lib.hid hcf; clear hcf hof hzf))
    have z0 : wf.cell? ⟨w.heap.size, 0, none⟩ = some (.int .i64 0) := HCF.out.cell 0
    have z1 : wf.cell? ⟨w.heap.size, 1, none⟩ = some (.int .i64 0) := HCF.out.cell 1
    have z2 : wf.cell? ⟨w.heap.size, 2, none⟩ = some (.int .i64 0) := HCF.out.cell 2
    have z3 : wf.cell? ⟨w.heap.size, 3, none⟩ = some (.int .i64 0) := HCF.out.cell 3
    have z4 : wf.cell? ⟨w.heap.size, 4, none⟩ = some (.int .i64 0) := HCF.out.cell 4
    have z5 : wf.cell? ⟨w.heap.size, 5, none⟩ = some (.int .i64 0) := HCF.out.cell 5
    have z6 : wf.cell? ⟨w.heap.size, 6, none⟩ = some (.int .i64 0) := HCF.out.cell 6
    have z7 : wf.cell? ⟨w.heap.size, 7, none⟩ = some (.int .i64 0) := HCF.out.cell 7
    have z8 : wf.cell? ⟨w.heap.size, 8, none⟩ = some (.int .i64 0) := HCF.out.cell 8
    have z9 : wf.cell? ⟨w.heap.size, 9, none⟩ = some (.int .i64 0) := HCF.out.cell 9
    have z10 : wf.cell? ⟨w.heap.size, 10, none⟩ = some (.slice none 0 0) := HCF.out.cell 10
    have z11 : wf.cell? ⟨w.heap.size, 11, none⟩ = some (.slice none 0 0) := HCF.out.cell 11
    have z12 : wf.cell? ⟨w.heap.size, 12, none⟩ = some (.slice none 0 0) := HCF.out.cell 12
    have z13 : wf.cell? ⟨w.heap.size, 13, none⟩ = some (.slice none 0 0) := HCF.out.cell 13
    have z14 : wf.cell? ⟨w.heap.size, 14, none⟩ = some (.slice none 0 0) := HCF.out.cell 14
    have z15 : wf.cell? ⟨w.heap.size, 15, none⟩ = some (.slice none 0 0) := HCF.out.cell 15
    exact bodyPost_ret (v := .tuple #[.agg #[.int .i64 0, .int .i64 0, .int .i64 0, .int .i64 0, .int .i64 0, .int .i64 0, .int .i64 0, .int .i64 0, .int .i64 0, .int .i64 0, .slice none 0 0, .slice none 0 0, .slice none 0 0, .slice none 0 0, .slice none 0 0, .slice none 0 0], .int .i64 (0), .bool false]) (by simp [results, Tryz.results66, go_sem, z0, z1, z2, z3, z4, z5, z6, z7, z8, z9, z10, z11, z12, z13, z14, z15]) rfl FF.out
 have hq := of_decide_eq_true HQB.out
 have HFQ := Lib.hid (show firstB (x :: y :: t) = (takeE (t.take N)).map fun e => (e, N + 4) from by rw [HF.out, if_neg (by have := HB.out.2.2.2.1; have := HLE.out; omega), if_pos hq.symm])
 clear hq
 have HTK := Lib.hid (take_any' w3' Q (.slice pa N pc) N (t.take N) (HP.out.1.still HS3.out) HP.out.2.2.1 (HP.out.2.2.2.take N) (by rw [List.length_take]; omega))
 go_wp2_with fail
 refine HTK.out.mono ?_
 rintro en w4 htp
 obtain ⟨hs4, hcase⟩ := htp.split
 have HZ4 := Lib.hid (cellsAt.only HZ3.out hs4 fun e => e)
 have HSX := Lib.hid (HSW.out.trans hs4)
 have HSZ := Lib.hid (show w.heap.size < w3'.heap.size from HZ3.out.lt)
 clear hs4 HTK htp
 rcases hcase with ⟨htk, hres⟩ | ⟨e, ov, nv, mv, lv, dv, pv, htk, rfl, hel⟩
 ·
  have hen : en = .returned (.tuple #[.agg #[.int .i64 0, .int .i64 0, .int .i64 0, .int .i64 0, .int .i64 0, .int .i64 0, .int .i64 0, .int .i64 0, .int .i64 0, .int .i64 0, .slice none 0 0, .slice none 0 0, .slice none 0 0, .slice none 0 0, .slice none 0 0, .slice none 0 0], .int .i64 4]) := hres
  subst hen
  have HNO := Lib.hid (show firstB (x :: y :: t) = none from by rw [HFQ.out, htk]; rfl)
  clear hres htk
  as_aux_lemma =>
   obtain ⟨du, hu, hdu⟩ := under_en
   have HU := Lib.hid (And.intro hu hdu)
   clear hu hdu
   have F := Lib.hid (fun wf (hs : Still w wf) => FirstPost.no (b := x :: y :: t) (2 + (N : Int) + 2) HNO.out hs)
   go_upto_region 10 with (refine wpList_storeAgg rfl 69 _ _ rfl w.heap.size #[.int .i64 0, .int .i64 0, .int .i64 0, .int .i64 0, .int .i64 0, .int .i64 0, .int .i64 0, .int .i64 0, .int .i64 0, .int .i64 0, .slice none 0 0, .slice none 0 0, .slice none 0 0, .slice none 0 0, .slice none 0 0, .slice none 0 0] rfl rfl HZ4.out size_en rfl rfl ?_; intro w5 hc5 ho5 hz5; have H5 := Lib.hid (And.intro hc5 (HSX.out.andThen ho5 fun i hi e => by omega)); clear hc5 ho5 hz5)
   go_wp2_with (first
    | (refine wpList_loadAgg rfl 69 _ rfl w.heap.size #[.int .i64 0, .int .i64 0, .int .i64 0, .int .i64 0, .int .i64 0, .int .i64 0, .int .i64 0, .int .i64 0, .int .i64 0, .int .i64 0, .slice none 0 0, .slice none 0 0, .slice none 0 0, .slice none 0 0, .slice none 0 0, .slice none 0 0] rfl H5.out.1 du HU.out.1 HU.out.2 size_en ?_)
    | (refine wpList_storeAgg rfl 69 _ _ rfl w.heap.size #[.int .i64 0, .int .i64 0, .int .i64 0, .int .i64 0, .int .i64 0, .int .i64 0, .int .i64 0, .int .i64 0, .int .i64 0, .int .i64 0, .slice none 0 0, .slice none 0 0, .slice none 0 0, .slice none 0 0, .slice none 0 0, .slice none 0 0] rfl rfl H5.out.1 size_en rfl rfl ?_; intro wf hcf hof hzf; have FF := Lib.hid (F.out wf (H5.out.2.andThen hof fun i hi e => by omega)); have HCF := Lib.hid hcf; clear hcf hof hzf))
   have z0 : wf.cell? ⟨w.heap.size, 0, none⟩ = some (.int .i64 0) := HCF.out.cell 0
   have z1 : wf.cell? ⟨w.heap.size, 1, none⟩ = some (.int .i64 0) := HCF.out.cell 1
   have z2 : wf.cell? ⟨w.heap.size, 2, none⟩ = some (.int .i64 0) := HCF.out.cell 2
   have z3 : wf.cell? ⟨w.heap.size, 3, none⟩ = some (.int .i64 0) := HCF.out.cell 3
   have z4 : wf.cell? ⟨w.heap.size, 4, none⟩ = some (.int .i64 0) := HCF.out.cell 4
   have z5 : wf.cell? ⟨w.heap.size, 5, none⟩ = some (.int .i64 0) := HCF.out.cell 5
   have z6 : wf.cell? ⟨w.heap.size, 6, none⟩ = some (.int .i64 0) := HCF.out.cell 6
   have z7 : wf.cell? ⟨w.heap.size, 7, none⟩ = some (.int .i64 0) := HCF.out.cell 7
   have z8 : wf.cell? ⟨w.heap.size, 8, none⟩ = some (.int .i64 0) := HCF.out.cell 8
   have z9 : wf.cell? ⟨w.heap.size, 9, none⟩ = some (.int .i64 0) := HCF.out.cell 9
   have z10 : wf.cell? ⟨w.heap.size, 10, none⟩ = some (.slice none 0 0) := HCF.out.cell 10
   have z11 : wf.cell? ⟨w.heap.size, 11, none⟩ = some (.slice none 0 0) := HCF.out.cell 11
   have z12 : wf.cell? ⟨w.heap.size, 12, none⟩ = some (.slice none 0 0) := HCF.out.cell 12
   have z13 : wf.cell? ⟨w.heap.size, 13, none⟩ = some (.slice none 0 0) := HCF.out.cell 13
   have z14 : wf.cell? ⟨w.heap.size, 14, none⟩ = some (.slice none 0 0) := HCF.out.cell 14
   have z15 : wf.cell? ⟨w.heap.size, 15, none⟩ = some (.slice none 0 0) := HCF.out.cell 15
   exact bodyPost_ret (v := .tuple #[.agg #[.int .i64 0, .int .i64 0, .int .i64 0, .int .i64 0, .int .i64 0, .int .i64 0, .int .i64 0, .int .i64 0, .int .i64 0, .int .i64 0, .slice none 0 0, .slice none 0 0, .slice none 0 0, .slice none 0 0, .slice none 0 0, .slice none 0 0], .int .i64 (2 + (N : Int) + 2), .bool false]) (by simp [results, Tryz.results66, go_sem, z0, z1, z2, z3, z4, z5, z6, z7, z8, z9, z10, z11, z12, z13, z14, z15]) rfl FF.out
 ·
  have HYE := Lib.hid (show firstB (x :: y :: t) = some (e, N + 4) from by rw [HFQ.out, htk]; rfl)
  obtain ⟨oa, oc, na, nc, ma, mc, la, lc, da, dc, va, vc, rfl, rfl, rfl, rfl, rfl, rfl⟩ := hel.forms
  have HEL := Lib.hid hel
  have F := Lib.hid (fun wf (ho : Only (fun b => b = w.heap.size) w4 wf) => FirstPost.yes HYE.out (HSX.out.andThen ho fun i hi e => by omega) ((HEL.out.only ho fun g hg e => by have := HSZ.out; omega).mono fun g hg => by have := HSZ.out; omega))
  unfold eV at F
  have u3 : ((N + 4 : Nat) : Int) = 2 + (N : Int) + 2 := by omega
  rw [u3] at F
  clear hel htk u3
  unfold eV
  as_aux_lemma =>
   obtain ⟨du, hu, hdu⟩ := under_en
   have HU := Lib.hid (And.intro hu hdu)
   clear hu hdu
   go_upto_region 10 with (refine wpList_storeAgg rfl 69 _ _ rfl w.heap.size #[.int .i64 e.kind, .int .i64 e.txn, .int .i64 e.unit, .int .i64 e.half, .int .i64 e.prev, .int .i64 e.next, .int .i64 e.ap, .int .i64 e.ac, .int .i64 e.tp, .int .i64 e.tc, .slice oa e.old.length oc, .slice na e.new.length nc, .slice ma e.moves.length mc, .slice la e.lives.length lc, .slice da e.dirty.length dc, .slice va e.opens.length vc] rfl rfl HZ4.out size_en rfl rfl ?_; intro w5 hc5 ho5 hz5; have H5 := Lib.hid (And.intro hc5 ho5); clear hc5 ho5 hz5)
   go_wp2_with (first
    | (refine wpList_loadAgg rfl 69 _ rfl w.heap.size #[.int .i64 e.kind, .int .i64 e.txn, .int .i64 e.unit, .int .i64 e.half, .int .i64 e.prev, .int .i64 e.next, .int .i64 e.ap, .int .i64 e.ac, .int .i64 e.tp, .int .i64 e.tc, .slice oa e.old.length oc, .slice na e.new.length nc, .slice ma e.moves.length mc, .slice la e.lives.length lc, .slice da e.dirty.length dc, .slice va e.opens.length vc] rfl H5.out.1 du HU.out.1 HU.out.2 size_en ?_)
    | (refine wpList_storeAgg rfl 69 _ _ rfl w.heap.size #[.int .i64 e.kind, .int .i64 e.txn, .int .i64 e.unit, .int .i64 e.half, .int .i64 e.prev, .int .i64 e.next, .int .i64 e.ap, .int .i64 e.ac, .int .i64 e.tp, .int .i64 e.tc, .slice oa e.old.length oc, .slice na e.new.length nc, .slice ma e.moves.length mc, .slice la e.lives.length lc, .slice da e.dirty.length dc, .slice va e.opens.length vc] rfl rfl H5.out.1 size_en rfl rfl ?_; intro wf hcf hof hzf; have FF := Lib.hid (F.out wf (H5.out.2.trans hof)); have HCF := Lib.hid hcf; clear hcf hof hzf))
   have z0 : wf.cell? ⟨w.heap.size, 0, none⟩ = some (.int .i64 e.kind) := HCF.out.cell 0
   have z1 : wf.cell? ⟨w.heap.size, 1, none⟩ = some (.int .i64 e.txn) := HCF.out.cell 1
   have z2 : wf.cell? ⟨w.heap.size, 2, none⟩ = some (.int .i64 e.unit) := HCF.out.cell 2
   have z3 : wf.cell? ⟨w.heap.size, 3, none⟩ = some (.int .i64 e.half) := HCF.out.cell 3
   have z4 : wf.cell? ⟨w.heap.size, 4, none⟩ = some (.int .i64 e.prev) := HCF.out.cell 4
   have z5 : wf.cell? ⟨w.heap.size, 5, none⟩ = some (.int .i64 e.next) := HCF.out.cell 5
   have z6 : wf.cell? ⟨w.heap.size, 6, none⟩ = some (.int .i64 e.ap) := HCF.out.cell 6
   have z7 : wf.cell? ⟨w.heap.size, 7, none⟩ = some (.int .i64 e.ac) := HCF.out.cell 7
   have z8 : wf.cell? ⟨w.heap.size, 8, none⟩ = some (.int .i64 e.tp) := HCF.out.cell 8
   have z9 : wf.cell? ⟨w.heap.size, 9, none⟩ = some (.int .i64 e.tc) := HCF.out.cell 9
   have z10 : wf.cell? ⟨w.heap.size, 10, none⟩ = some (.slice oa e.old.length oc) := HCF.out.cell 10
   have z11 : wf.cell? ⟨w.heap.size, 11, none⟩ = some (.slice na e.new.length nc) := HCF.out.cell 11
   have z12 : wf.cell? ⟨w.heap.size, 12, none⟩ = some (.slice ma e.moves.length mc) := HCF.out.cell 12
   have z13 : wf.cell? ⟨w.heap.size, 13, none⟩ = some (.slice la e.lives.length lc) := HCF.out.cell 13
   have z14 : wf.cell? ⟨w.heap.size, 14, none⟩ = some (.slice da e.dirty.length dc) := HCF.out.cell 14
   have z15 : wf.cell? ⟨w.heap.size, 15, none⟩ = some (.slice va e.opens.length vc) := HCF.out.cell 15
   exact bodyPost_ret (v := .tuple #[.agg #[.int .i64 e.kind, .int .i64 e.txn, .int .i64 e.unit, .int .i64 e.half, .int .i64 e.prev, .int .i64 e.next, .int .i64 e.ap, .int .i64 e.ac, .int .i64 e.tp, .int .i64 e.tc, .slice oa e.old.length oc, .slice na e.new.length nc, .slice ma e.moves.length mc, .slice la e.lives.length lc, .slice da e.dirty.length dc, .slice va e.opens.length vc], .int .i64 (2 + (N : Int) + 2), .bool true]) (by simp [results, Tryz.results66, go_sem, z0, z1, z2, z3, z4, z5, z6, z7, z8, z9, z10, z11, z12, z13, z14, z15]) rfl FF.out
theorem first_any (w : World) (Q : Nat → Prop) (bv : Value) (n : Nat) (b : List Int) (hb : Sl w Q 1 bv n (bc b)) (hc : Cap n bv) (hby : Byt b) (hn : n ≤ 100000) :
 Calls Tryz.prog 66 #[bv] w (FirstPost w b) := by
 have hl : b.length = n := by have := hb.1; rw [bc_length] at this; omega
 obtain ⟨a, c, rfl⟩ := hb.form
 match b with
 | [] => exact first_short w a n c [] hl (by simp at hl; omega)
 | [z] => exact first_short w a n c [z] hl (by simp at hl; omega)
 | x :: y :: t => exact first_long w Q a n c x y t hb hc hby (by simpa using hl) hn
end Go.Proofs.YtlcfoeikamkpmaaGreat

namespace Go.Proofs.YtlcfoeikamkpmaaGreat
open Go.RowKit Go.Wh Go.Maps

def EIall (w : World) (P : Nat → Prop) (es : List PE) (vs : List (List Value)) : Prop :=
 vs.length = es.length ∧ ∀ (k : Nat) (e : PE) (c : List Value), es[k]? = some e → vs[k]? = some c → ∃ ov nv mv lv dv pv, c = (eV e ov nv mv lv dv pv).toList ∧ EIs w P e ov nv mv lv dv pv
def EnVec (P : Nat → Prop) (w : World) (lv : Value) (es : List PE) : Prop := ∃ vs, EIall w P es vs ∧ Vec w 16 lv es.length vs.flatten
def Ents (w : World) (P : Nat → Prop) (lv : Value) (es : List PE) : Prop := ∃ vs, EIall w P es vs ∧ Sl w P 16 lv es.length vs.flatten
section
variable {w w' : World} {P R X : Nat → Prop} {es : List PE} {vs : List (List Value)} {lv : Value}
theorem EIall.only (h : EIall w P es vs) (ho : Only X w w') (hq : ∀ g, P g → ¬ X g) : EIall w' P es vs :=
 ⟨h.1, fun k e c hk hc => by
  obtain ⟨ov, nv, mv, lv, dv, pv, h1, h2⟩ := h.2 k e c hk hc
  exact ⟨ov, nv, mv, lv, dv, pv, h1, h2.only ho hq⟩⟩
theorem EIall.mono (h : EIall w P es vs) (hr : ∀ g, P g → R g) : EIall w R es vs :=
 ⟨h.1, fun k e c hk hc => by
  obtain ⟨ov, nv, mv, lv, dv, pv, h1, h2⟩ := h.2 k e c hk hc
  exact ⟨ov, nv, mv, lv, dv, pv, h1, EIs.mono h2 hr⟩⟩
theorem Sl.low2 {Q : Nat → Prop} {sz m : Nat} {dv : Value} {xs : List Value} (h : Sl w Q sz dv m xs) : Sl w (fun g => Q g ∧ g < w.heap.size) sz dv m xs := h.low
theorem EIs.low2 {Q : Nat → Prop} {e : PE} {ov nv mv lv dv pv : Value} (h : EIs w Q e ov nv mv lv dv pv) : EIs w (fun g => Q g ∧ g < w.heap.size) e ov nv mv lv dv pv := by
 obtain ⟨mvs, k1, k2, k3⟩ := h.p
 exact ⟨h.o.low, h.n.low, h.m.low, h.l.low, h.d.low, ⟨mvs, k1, k2.low, fun k o mv hk hm => (k3 k o mv hk hm).low⟩, h.bo, h.bn⟩
theorem EIall.low (h : EIall w P es vs) : EIall w (fun g => P g ∧ g < w.heap.size) es vs :=
 ⟨h.1, fun k e c hk hc => by
  obtain ⟨ov, nv, mv, lv, dv, pv, h1, h2⟩ := h.2 k e c hk hc
  exact ⟨ov, nv, mv, lv, dv, pv, h1, h2.low2⟩⟩
theorem EIall.snoc (h : EIall w P es vs) {e : PE} {ov nv mv lv dv pv : Value} (he : EIs w P e ov nv mv lv dv pv) : EIall w P (es ++ [e]) (vs ++ [(eV e ov nv mv lv dv pv).toList]) := by
 refine ⟨by simp [h.1], fun k e' c hk hc => ?_⟩
 by_cases hkl : k < es.length
 · rw [List.getElem?_append_left hkl] at hk
   rw [List.getElem?_append_left (by rw [h.1]; exact hkl)] at hc
   exact h.2 k e' c hk hc
 · rw [List.getElem?_append_right (by omega)] at hk
   rw [List.getElem?_append_right (by rw [h.1]; omega), h.1] at hc
   have h0 : k - es.length = 0 := by
    have := (List.getElem?_eq_some_iff.1 hk).1
    simp at this
    omega
   rw [h0] at hk hc
   cases hk
   cases hc
   exact ⟨ov, nv, mv, lv, dv, pv, rfl, he⟩
theorem Ents.only (h : Ents w P lv es) (ho : Only X w w') (hq : ∀ g, P g → ¬ X g) : Ents w' P lv es := by
 obtain ⟨vs, h1, h2⟩ := h
 exact ⟨vs, h1.only ho hq, h2.only ho hq⟩
theorem Ents.still (h : Ents w P lv es) (hs : Still w w') : Ents w' P lv es := h.only hs fun _ _ e => e
theorem Ents.mono (h : Ents w P lv es) (hr : ∀ g, P g → R g) : Ents w R lv es := by
 obtain ⟨vs, h1, h2⟩ := h
 exact ⟨vs, h1.mono hr, h2.mono hr⟩
theorem Ents.low (h : Ents w P lv es) : Ents w (fun g => P g ∧ g < w.heap.size) lv es := by
 obtain ⟨vs, h1, h2⟩ := h
 exact ⟨vs, h1.low, h2.low⟩
theorem Ents.form (h : Ents w P lv es) : ∃ a c, lv = .slice a es.length c := by
 obtain ⟨vs, h1, h2⟩ := h
 exact h2.form
theorem Ents.nil : Ents w P (.slice none 0 0) [] := ⟨[], ⟨rfl, fun k e c hk _ => by simp at hk⟩, Sl.nil⟩
theorem EnVec.nil : EnVec P w (.slice none 0 0) [] := ⟨[], ⟨rfl, fun k e c hk _ => by simp at hk⟩, Vec.nil _ _⟩
theorem EnVec.form (h : EnVec P w lv es) : ∃ a c, lv = .slice a es.length c := by
 obtain ⟨vs, h1, h2⟩ := h
 exact h2.form'
theorem EnVec.ents (h : EnVec P w lv es) (hp : ∀ g, P g → R g) (hq : ∀ g, lv.ownBlock = some g → R g ∧ g < w.heap.size) : Ents w R lv es := by
 obtain ⟨vs, h1, h2⟩ := h
 exact ⟨vs, h1.mono hp, Vec.sl h2 hq⟩
end
theorem info_en : (Tryz.prog.info? 69).map (fun i => (i.zero, i.size, i.bytes)) = some (some (.agg #[.int .i64 0, .int .i64 0, .int .i64 0, .int .i64 0, .int .i64 0, .int .i64 0, .int .i64 0, .int .i64 0, .int .i64 0, .int .i64 0, .slice none 0 0, .slice none 0 0, .slice none 0 0, .slice none 0 0, .slice none 0 0, .slice none 0 0]), 16, 224) := by kernel_rfl

theorem EnVec.push {w w' : World} {B : Nat} {va : Option Addr} {vc : Nat} {v' : Value} {es : List PE} {e : PE} {ov nv mv lv dv pv : Value} {vs : List (List Value)} (h : EIall w (fun g => B ≤ g ∧ (Value.slice va es.length vc).ownBlock ≠ some g) es vs) (he : EIs w (fun g => B ≤ g ∧ (Value.slice va es.length vc).ownBlock ≠ some g) e ov nv mv lv dv pv)
 (hv' : Vec w' 16 v' (es.length + 1) (vs.flatten ++ (eV e ov nv mv lv dv pv).toList)) (ho' : Only (fun k => (Value.slice va es.length vc).ownBlock = some k) w w') (hb' : v'.ownBlock = (Value.slice va es.length vc).ownBlock ∨ ∃ g, v'.ownBlock = some g ∧ w.heap.size ≤ g ∧ g < w'.heap.size) : EnVec (fun g => B ≤ g ∧ v'.ownBlock ≠ some g) w' v' (es ++ [e]) := by
 have h1 := ((h.snoc he).low.only ho' fun g hg e => hg.1.2 e).mono (R := fun g => B ≤ g ∧ v'.ownBlock ≠ some g) fun g hg => ⟨hg.1.1, fun e => by
  rcases hb' with e' | ⟨g', e', e1, e2⟩
  · rw [e'] at e
    exact hg.1.2 e
  · rw [e'] at e
    injection e with e
    have := hg.2
    omega⟩
 refine ⟨_, h1, ?_⟩
 rw [List.length_append, List.length_singleton, List.flatten_append]
 simpa using hv'

theorem scanB_len : ∀ (k : Nat) (b : List Int), (scanB k b).2 ≤ b.length ∧ (scanB k b).1.length * 4 ≤ (scanB k b).2
 | 0, _ => ⟨Nat.zero_le _, Nat.le_refl _⟩
 | k + 1, b => by
  unfold scanB
  cases hf : firstB b with
  | none => exact ⟨Nat.zero_le _, Nat.le_refl _⟩
  | some p =>
   obtain ⟨e, n⟩ := p
   have h1 := firstB_pos hf
   have h2 := scanB_len k (b.drop n)
   rw [List.length_drop] at h2
   refine ⟨by simp only; omega, ?_⟩
   simp only [List.length_cons]
   omega
theorem scanB_up (b : List Int) : ∀ (j k : Nat), b.length < k → scanB (k + j) b = scanB k b
 | 0, _, _ => rfl
 | j + 1, k, h => by rw [← Nat.add_assoc, scanB_more (k + j) b (by omega), scanB_up b j k h]
theorem scanB_fuel {b : List Int} (k1 k2 : Nat) (h1 : b.length < k1) (h2 : b.length < k2) : scanB k1 b = scanB k2 b := by
 rcases Nat.le_total k1 k2 with h | h
 · obtain ⟨j, rfl⟩ : ∃ j, k2 = k1 + j := ⟨k2 - k1, by omega⟩
   exact (scanB_up b j k1 h1).symm
 · obtain ⟨j, rfl⟩ : ∃ j, k1 = k2 + j := ⟨k1 - k2, by omega⟩
   exact scanB_up b j k2 h2
def ScanPost (w : World) (b : List Int) (en : Ending) (w' : World) : Prop :=
 ∃ lv, en = .returned (.tuple #[lv, .int .i64 ((scanB (b.length + 1) b).2 : Nat)]) ∧ Ents w' (fun g => w.heap.size ≤ g) lv (scanB (b.length + 1) b).1 ∧ Still w w'
def ScRel (w : World) (b : List Int) (m : Nat) (lv : Value) (wr : World) : Prop :=
 ∃ es, EnVec (fun g => w.heap.size ≤ g ∧ lv.ownBlock ≠ some g) wr lv es ∧ Still w wr ∧ (∀ g, lv.ownBlock = some g → w.heap.size ≤ g ∧ g < wr.heap.size) ∧ m ≤ b.length ∧ es.length * 4 ≤ m ∧
  (es ++ (scanB (b.length - m + 1) (b.drop m)).1, m + (scanB (b.length - m + 1) (b.drop m)).2) = scanB (b.length + 1) b
set_option maxHeartbeats 4000000 in
set_option maxRecDepth 100000 in
theorem scan_any (w : World) (Q : Nat → Prop) (bv : Value) (n : Nat) (b : List Int) (hb : Sl w Q 1 bv n (bc b)) (hc : Cap n bv) (hby : Byt b) (hn : n ≤ 100000) :
 Calls Tryz.prog 35 #[bv] w (ScanPost w b) := by
 have hl : b.length = n := by have := hb.1; rw [bc_length] at this; omega
 have H := Lib.hid (And.intro hb (And.intro hc (And.intro hby (And.intro hn hl))))
 obtain ⟨ba, bcp, rfl⟩ := hb.form
 obtain ⟨i0, hi0, hz0, hz1, hz2⟩ := info_parts info_en
 have HI := Lib.hid (And.intro hi0 (And.intro hz0 (And.intro hz1 hz2)))
 clear hb hc hby hn hl hi0 hz0 hz1 hz2
 go_enter Tryz.func35, Tryz.ntmps35
 go_wp2_with fail
 go_loopw [2, 3] (fun s2 s3 wr => ∃ m : Nat, s3 = .int .i64 m ∧ ScRel w b m s2 wr) (fun _ s3 _ => n - (intOf s3).toNat)
 case atStart => exact ⟨0, rfl, [], EnVec.nil, Still.refl _, fun g e => (by cases e), Nat.zero_le _, Nat.le_refl _, by simp⟩
 case round =>
  obtain ⟨m, rfl, es, hev, hst, hown, hm, h4, hsc⟩ := hrel
  obtain ⟨va, vc, rfl⟩ := hev.form
  have hb' := H.out.1.still hst
  have hbl := H.out.2.2.2.2
  obtain ⟨pv, -, -, r1, hp1, hp2⟩ := hb'.part (P := Tryz.prog) (size := 1) 22 Tryz.underlying22 (fun w => rfl) H.out.2.1 (show m ≤ n by omega) (Nat.le_refl n)
  have r1' := r1 rfl
  have hps := hp2 wr Q hb'
  have hpc : ((bc b).drop (m * 1)).take ((n - m) * 1) = bc (b.drop m) := by
   rw [Nat.mul_one, Nat.mul_one, bc_drop, List.take_of_length_le (by rw [bc_length, List.length_drop]; omega)]
  rw [hpc] at hps
  obtain ⟨pa, pc, rfl⟩ := hps.form
  have HF := Lib.hid (first_any wr Q (.slice pa (n - m) pc) (n - m) (b.drop m) hps hp1 (H.out.2.2.1.drop m) (by have := H.out.2.2.2.1; omega))
  have HH := Lib.hid (And.intro hev (And.intro hst (And.intro hown (And.intro hm (And.intro h4 hsc)))))
  have b3 : (m : Int) ≤ (n : Int) := by omega
  have b4 : (0 : Int) ≤ (m : Int) := by omega
  have HN5 := Lib.hid H.out.2.2.2.1
  clear hb' r1 hp1 hp2 hps hpc hev hst hown hm h4 hsc hbl
  go_wp2_with fail
  refine HF.out.mono ?_
  rintro en w2 hfp0
  obtain ⟨hs2, hres⟩ := hfp0.split
  have HS2 := Lib.hid hs2
  clear HF hs2 hfp0
  rcases hres with ⟨hf, z, hen⟩ | ⟨e, k, ov, nv, mv, lv, dv, pv, hf, rfl, hel⟩
  · have hen2 : en = .returned (.tuple #[.agg #[.int .i64 0, .int .i64 0, .int .i64 0, .int .i64 0, .int .i64 0, .int .i64 0, .int .i64 0, .int .i64 0, .int .i64 0, .int .i64 0, .slice none 0 0, .slice none 0 0, .slice none 0 0, .slice none 0 0, .slice none 0 0, .slice none 0 0], .int .i64 z, .bool false]) := hen
    subst hen2
    have F := Lib.hid (fun ob => show ScanPost w b (.returned (.tuple #[.slice va es.length vc, .int .i64 (m : Nat)])) (w2.alloc ob) from by
     have hs := HH.out.2.2.2.2.2
     have e0 : scanB (b.length - m + 1) (b.drop m) = ([], 0) := by
      unfold scanB
      rw [hf]
     rw [e0] at hs
     simp only [List.append_nil, Nat.add_zero] at hs
     have hw2 := HS2.out.alloc ob
     have hz := hw2.size
     obtain ⟨vs, hv1, hv2⟩ := HH.out.1
     refine ⟨_, by rw [← hs], ?_, HH.out.2.1.trans hw2⟩
     rw [← hs]
     exact EnVec.ents (P := fun g => w.heap.size ≤ g ∧ (Value.slice va es.length vc).ownBlock ≠ some g) ⟨vs, hv1.only hw2 (fun _ _ e => e), hv2.only hw2 (fun _ _ e => e)⟩ (fun g hg => hg.1) fun g hg => ⟨(HH.out.2.2.1 g hg).1, by have := (HH.out.2.2.1 g hg).2; omega⟩)
    clear hf
    go_wp2_with fail
    go_ret2
    exact F.out _
  · have hfp := firstB_pos hf
    rw [List.length_drop] at hfp
    obtain ⟨oa, oc, na, nc, ma, mc, la, lc, da, dc, xa, xc, rfl, rfl, rfl, rfl, rfl, rfl⟩ := hel.forms
    have HNX := Lib.hid (fun (o1 o2 : Obj) v' w' (vs : List (List Value)) (hvs : EIall wr (fun g => w.heap.size ≤ g ∧ (Value.slice va es.length vc).ownBlock ≠ some g) es vs) (hv' : Vec w' 16 v' (es.length + 1) (vs.flatten ++ (eV e (.slice oa e.old.length oc) (.slice na e.new.length nc) (.slice ma e.moves.length mc) (.slice la e.lives.length lc) (.slice da e.dirty.length dc) (.slice xa e.opens.length xc)).toList)) (ho' : Only (fun k => (Value.slice va es.length vc).ownBlock = some k) ((w2.alloc o1).alloc o2) w') (hb' : v'.ownBlock = (Value.slice va es.length vc).ownBlock ∨ ∃ g, v'.ownBlock = some g ∧ w2.heap.size + 1 + 1 ≤ g ∧ g < w'.heap.size) => show ScRel w b (m + k) v' w' from by
     have hs3 : Still w2 ((w2.alloc o1).alloc o2) := ((Still.refl w2).alloc _).alloc _
     have hz3 : ((w2.alloc o1).alloc o2).heap.size = w2.heap.size + 1 + 1 := by simp
     rw [← hz3] at hb'
     have hs4 := HS2.out.trans hs3
     have hz := HH.out.2.1.size
     have hz2 := hs4.size
     have hzo := ho'.size
     have hsc := HH.out.2.2.2.2.2
     have hbl := H.out.2.2.2.2
     refine ⟨es ++ [e], EnVec.push (hvs.only hs4 fun _ _ e => e) (EIs.mono (hel.still hs3) fun g hg => ⟨by omega, fun e => by have := (HH.out.2.2.1 g e).2; omega⟩) hv' ho' hb', (HH.out.2.1.trans hs4).andThen ho' fun i hi e => by have := (HH.out.2.2.1 i e).1; omega, fun g hg => ?_, by omega, ?_, ?_⟩
     · rcases hb' with e' | ⟨g', e', e1, e2⟩
       · rw [e'] at hg
         have := HH.out.2.2.1 g hg
         omega
       · rw [e'] at hg
         injection hg with hg
         omega
     · rw [List.length_append, List.length_singleton]
       have := HH.out.2.2.2.2.1
       omega
     · have e1 : scanB (b.length - m + 1) (b.drop m) = (e :: (scanB (b.length - m) (b.drop (m + k))).1, k + (scanB (b.length - m) (b.drop (m + k))).2) := by
        show (match firstB (b.drop m) with | none => _ | some (e, n) => _) = _
        rw [hf]
        simp only [List.drop_drop]
       rw [e1, scanB_fuel (b.length - m) (b.length - (m + k) + 1) (by rw [List.length_drop]; omega) (by rw [List.length_drop]; omega)] at hsc
       rw [← hsc, List.append_assoc, Nat.add_assoc]
       rfl)
    obtain ⟨vs, hvs, hvv⟩ := HH.out.1
    have HVS := Lib.hid hvs
    have HV2 := Lib.hid (hvv.only HS2.out fun _ _ e => e)
    have HEL := Lib.hid (And.intro hfp hf)
    have hk1 : (k : Int) ≤ 100000 := by have := H.out.2.2.2; omega
    have hm1 : (m : Int) ≤ 100000 := by have := H.out.2.2.2; omega
    have u9 : IntKind.i64.wrap ((m : Int) + (k : Int)) = (m : Int) + (k : Int) := IntWalk.i64_in _ (by omega)
    unfold eV
    unfold eV at HNX
    clear hel hf hfp hvs hvv
    go_wp2_with (at_builtin; refine wpList_append_vec rfl _ _ 28 rfl 69 i0 _ 16 224 Tryz.underlying28 HI.out.1 HI.out.2.1 HI.out.2.2.1 HI.out.2.2.2 rfl (by decide) (.slice va es.length vc) es.length vs.flatten (by simp [Act.eval]) ((HV2.out.alloc _).alloc _) (.slice (some ⟨w2.heap.size + 1, 0, none⟩) 1 1) 1 [.int .i64 e.kind, .int .i64 e.txn, .int .i64 e.unit, .int .i64 e.half, .int .i64 e.prev, .int .i64 e.next, .int .i64 e.ap, .int .i64 e.ac, .int .i64 e.tp, .int .i64 e.tc, .slice oa e.old.length oc, .slice na e.new.length nc, .slice ma e.moves.length mc, .slice la e.lives.length lc, .slice da e.dirty.length dc, .slice xa e.opens.length xc] (by simp [Act.eval]) ?_ (by intro u hu; simp only [List.mem_cons, List.not_mem_nil, or_false] at hu; rcases hu with rfl | rfl | rfl | rfl | rfl | rfl | rfl | rfl | rfl | rfl | rfl | rfl | rfl | rfl | rfl | rfl <;> rfl) (by have := HH.out.2.2.2.2.1; have := HH.out.2.2.2.1; have := H.out.2.2.2; simp only [maxLen]; omega) (by have := HH.out.2.2.2.2.1; have := HH.out.2.2.2.1; have := H.out.2.2.2; omega) ?_)
    · have := (cellsAt_new (w2.alloc (.cells #[.int .i64 e.kind, .int .i64 e.txn, .int .i64 e.unit, .int .i64 e.half, .int .i64 e.prev, .int .i64 e.next, .int .i64 e.ap, .int .i64 e.ac, .int .i64 e.tp, .int .i64 e.tc, .slice oa e.old.length oc, .slice na e.new.length nc, .slice ma e.moves.length mc, .slice la e.lives.length lc, .slice da e.dirty.length dc, .slice xa e.opens.length xc] 69)) [.int .i64 e.kind, .int .i64 e.txn, .int .i64 e.unit, .int .i64 e.half, .int .i64 e.prev, .int .i64 e.next, .int .i64 e.ap, .int .i64 e.ac, .int .i64 e.tp, .int .i64 e.tc, .slice oa e.old.length oc, .slice na e.new.length nc, .slice ma e.moves.length mc, .slice la e.lives.length lc, .slice da e.dirty.length dc, .slice xa e.opens.length xc] 69)
      rw [show (w2.alloc (.cells #[.int .i64 e.kind, .int .i64 e.txn, .int .i64 e.unit, .int .i64 e.half, .int .i64 e.prev, .int .i64 e.next, .int .i64 e.ap, .int .i64 e.ac, .int .i64 e.tp, .int .i64 e.tc, .slice oa e.old.length oc, .slice na e.new.length nc, .slice ma e.moves.length mc, .slice la e.lives.length lc, .slice da e.dirty.length dc, .slice xa e.opens.length xc] 69)).heap.size = w2.heap.size + 1 from by simp] at this
      exact this.reads rfl
    · intro v' w' hv' ho' hb'
      have HN2 := Lib.hid (HNX.out _ _ v' w' vs HVS.out hv' ho' hb')
      clear hv' ho' hb' HNX
      go_wp2_with fail
      go_roundw
      case rel => exact ⟨m + k, by go_num, HN2.out⟩
      case measure => simp [intOf]; have := HEL.out.1; have := H.out.2.2.2.2; omega
end Go.Proofs.YtlcfoeikamkpmaaGreat

namespace Go.Proofs.YtlcfoeikamkpmaaGreat

theorem readB_len : ∀ (l : List (List Int)), (readB l).length ≤ 63 * l.length
 | [] => Nat.le_refl _
 | s :: l => by
  rw [readB_cons]
  split
  · simp
  · rename_i h
    have h1 := readB_len l
    have h2 : ((s.drop 1).take (s.headD 0).toNat).length ≤ 63 := by
     rw [List.length_take]
     omega
    rw [List.length_append, List.length_cons]
    split
    · simp only [List.length_nil]; omega
    · omega
theorem encB_parts {e : PE} (h : Byt (encB e)) : Byt e.old ∧ Byt e.new := by
 constructor
 · intro z hz
   refine h z ?_
   unfold encB imB
   simp only [List.mem_append]
   simp [hz]
 · intro z hz
   refine h z ?_
   unfold encB imB
   simp only [List.mem_append]
   simp [hz]
theorem firstB_is {b : List Int} (hb : Byt b) {e : PE} {n : Nat} (h : firstB b = some (e, n)) : b.take n = frameB e ∧ n = (frameB e).length ∧ e.may = true ∧ Byt e.old ∧ Byt e.new := by
 match b with
 | [] => cases h
 | [_] => cases h
 | x :: y :: t =>
  have hx := hb x (by simp)
  have hy := hb y (by simp)
  have ht : Byt t := fun z hz => hb z (by simp [hz])
  rw [firstB_cons] at h
  obtain ⟨N, hN⟩ : ∃ N : Nat, x * 256 + y = (N : Int) := ⟨(x * 256 + y).toNat, by omega⟩
  rw [hN, Int.toNat_natCast] at h
  split at h
  · cases h
  · rename_i hl
    split at h
    · rename_i hc
      rw [Option.map_eq_some_iff] at h
      obtain ⟨e', he, hq⟩ := h
      cases hq
      obtain ⟨hm, hte⟩ := (takeE_iff _ _).1 he
      have hlen : (encB e).length = N := by
       rw [← hte, List.length_take]
       omega
      have hbe : Byt (encB e) := by
       rw [← hte]
       exact ht.take N
      have hp := encB_parts hbe
      refine ⟨?_, by rw [frameB_length, hlen]; omega, hm, hp.1, hp.2⟩
      have e1 : (x :: y :: t).take (N + 4) = x :: y :: t.take (N + 2) := by
       rw [show N + 4 = (N + 2) + 1 + 1 by omega, List.take_succ_cons, List.take_succ_cons]
      have e2 : t.take (N + 2) = t.take N ++ (t.drop N).take 2 := by rw [List.take_add]
      rw [e1, e2, hc, hte]
      unfold frameB
      rw [numsB2, hlen]
      have hx2 : (N : Int) / 256 % 256 = x := by omega
      have hy2 : (N : Int) % 256 = y := by omega
      rw [hx2, hy2]
      rfl
    · cases h
theorem scanB_is : ∀ (k : Nat) (b : List Int), Byt b → b.take (scanB k b).2 = streamB (scanB k b).1 ∧ (∀ e ∈ (scanB k b).1, e.may = true) ∧ ∀ e ∈ (scanB k b).1, Byt e.old ∧ Byt e.new
 | 0, b, _ => ⟨rfl, (fun e he => by cases he), (fun e he => by cases he)⟩
 | k + 1, b, hb => by
  unfold scanB
  cases hf : firstB b with
  | none => exact ⟨rfl, (fun e he => by cases he), (fun e he => by cases he)⟩
  | some p =>
   obtain ⟨e, n⟩ := p
   obtain ⟨h1, h2, h3, h4, h5⟩ := firstB_is hb hf
   obtain ⟨i1, i2, i3⟩ := scanB_is k (b.drop n) (hb.drop n)
   simp only
   refine ⟨?_, fun x hx => ?_, fun x hx => ?_⟩
   · rw [List.take_add, h1, i1]
     rfl
   · rcases List.mem_cons.1 hx with rfl | hx
     · exact h3
     · exact i2 x hx
   · rcases List.mem_cons.1 hx with rfl | hx
     · exact ⟨h4, h5⟩
     · exact i3 x hx
end Go.Proofs.YtlcfoeikamkpmaaGreat

namespace Go.Proofs.YtlcfoeikamkpmaaGreat
open Go.RowKit Go.Wh Go.Maps

structure DkX (A : Nat → Prop) (d : Nat) (T : List (List Int)) (w : World) : Prop where
 dk : ∃ tv mb vs, DkAt w d T tv mb vs ∧ A d ∧ A mb ∧ (∀ g, tv.ownBlock = some g → A g) ∧ ∀ v ∈ vs, ∀ g, v.ownBlock = some g → A g
 lt : ∀ g, A g → g < w.heap.size
 byt : ∀ l ∈ T, Byt l
 len : T.length ≤ 2000
theorem DkX.only {A S : Nat → Prop} {d : Nat} {T : List (List Int)} {w w' : World} (h : DkX A d T w) (ho : Only S w w') (hs : ∀ g, A g → ¬ S g) : DkX A d T w' := by
 obtain ⟨tv, mb, vs, h1, h2, h3, h4, h5⟩ := h.dk
 exact ⟨⟨tv, mb, vs, h1.only ho (hs d h2) (hs mb h3) (fun g hg => hs g (h4 g hg)) (fun v hv g hg => hs g (h5 v hv g hg)), h2, h3, h4, h5⟩, fun g hg => Nat.lt_of_lt_of_le (h.lt g hg) ho.size, h.byt, h.len⟩
theorem DkX.still {A : Nat → Prop} {d : Nat} {T : List (List Int)} {w w' : World} (h : DkX A d T w) (hs : Still w w') : DkX A d T w' := h.only hs fun _ _ e => e
theorem DkX.newer {A : Nat → Prop} {d : Nat} {T : List (List Int)} {w w' : World} (h : DkX A d T w) (hs : Still w w') : DkX (Newer A w w') d T w' := by
 obtain ⟨tv, mb, vs, h1, h2, h3, h4, h5⟩ := (h.still hs).dk
 exact ⟨⟨tv, mb, vs, h1, .inl h2, .inl h3, fun g hg => .inl (h4 g hg), fun v hv g hg => .inl (h5 v hv g hg)⟩, fun g hg => hg.elim ((h.still hs).lt g) fun e => e.2, h.byt, h.len⟩
theorem DkX.turn {A : Nat → Prop} {d mb : Nat} {T T' : List (List Int)} {tv : Value} {vs : List Value} {w w' : World} {e : Ending} (h : DkX A d T w) (h3 : A mb) (h4 : ∀ g, tv.ownBlock = some g → A g) (h5 : ∀ v ∈ vs, ∀ g, v.ownBlock = some g → A g) (h2 : A d) (hw : WrPost w d T' tv mb vs e w') (hb : ∀ l ∈ T', Byt l) (hl : T'.length = T.length) :
 e = .returned (.int .i64 0) ∧ DkX (Newer A w w') d T' w' ∧ Only A w w' := by
 obtain ⟨he, vs', k1, k2, k3⟩ := hw
 have hz := k2.size
 refine ⟨he, ⟨⟨tv, mb, vs', k1, .inl h2, .inl h3, fun g hg => .inl (h4 g hg), fun v hv g hg => ?_⟩, fun g hg => hg.elim (fun e => by have := h.lt g e; omega) fun e => e.2, hb, by rw [hl]; exact h.len⟩, k2.mono fun b e => e.elim (fun e => e ▸ h3) (h4 b)⟩
 rcases k3 v hv with hv' | hv'
 · exact .inl (h5 v hv' g hg)
 · exact .inr ⟨hv' g hg, (k1.ia v hv g hg).2.2.2⟩

end Go.Proofs.YtlcfoeikamkpmaaGreat

namespace Go.Proofs.YtlcfoeikamkpmaaGreat

structure PPg where
 c : List (List Int)
 lsn : Int
deriving DecidableEq, Inhabited
def PPg.void : PPg := ⟨[[], [], [], []], 0⟩
structure PPg.ok (p : PPg) : Prop where
 four : p.c.length = 4
 each : ∀ l ∈ p.c, l = [] ∨ l.length = 26
 byt : ∀ l ∈ p.c, Byt l
def fullB (l : List Int) : List Int := if l = [] then List.replicate 26 0 else l
def PPg.body (p : PPg) : List Int := p.c.flatMap fullB
def be4 (z : Int) : List Int := [z / 16777216 % 256, z / 65536 % 256, z / 256 % 256, z % 256]
def oneB (z : Int) (b : List Int) : List Int := be4 z ++ (b ++ List.replicate (60 - b.length) 0)
def lsnMay (z : Int) : Bool := decide (0 ≤ z) && decide (z ≤ 2147483647)
def leafA (p : PPg) : List Int := oneB p.lsn (p.body.take 60)
def leafB (p : PPg) : List Int := oneB p.lsn (p.body.drop 60)
def numT (t : List Int) : Int := (t.take 4).foldl (fun n x => n * 256 + x) 0
def nought (b : List Int) : Bool := b.all (· == 0)
def partT (c : List Int) (i most : Nat) : List Int := (c.drop (i + 1)).take (min (c.getD i 0).toNat most)
def padT (b : List Int) (most : Nat) : List Int := (b.length : Int) :: (b ++ List.replicate (most - b.length) 0)
def rowT (c : List Int) : Bool := !(partT c 1 8).isEmpty && (c == 1 :: (padT (partT c 1 8) 8 ++ padT (partT c 10 6) 6 ++ padT (partT c 17 8) 8))
def stubT (c : List Int) : Bool := decide (c.getD 1 0 < 32) && decide (c.getD 2 0 < 4) && (c == 2 :: c.getD 1 0 :: c.getD 2 0 :: List.replicate 23 0)
def cellT (c : List Int) : Bool := nought c || rowT c || stubT c
def cellAt (body : List Int) (i : Nat) : List Int := (body.drop (i * 26)).take 26
def cellsT (body : List Int) : List (List Int) := (List.range 4).map fun i => if nought (cellAt body i) then [] else cellAt body i
def takeT (a b : List Int) : Int × PPg :=
 if numT a ≠ numT b then (3, PPg.void) else if 2147483647 < numT a then (4, PPg.void)
 else if nought ((a.drop 4 ++ b.drop 4).drop 104) = false then (4, PPg.void)
 else if (List.range 4).all (fun i => cellT (cellAt (a.drop 4 ++ b.drop 4) i)) = false then (4, PPg.void)
 else (0, ⟨cellsT (a.drop 4 ++ b.drop 4), numT a⟩)
structure PFr where
 p : PPg
 dirty : Bool
 rec_ : Int
deriving DecidableEq, Inhabited
def PFr.void : PFr := ⟨PPg.void, false, 0⟩
theorem numT_be4 {z : Int} (h0 : 0 ≤ z) (h1 : z ≤ 2147483647) (b : List Int) : numT (oneB z b) = z := by
 unfold numT oneB be4
 simp only [List.cons_append, List.nil_append, List.take_succ_cons, List.take_zero, List.foldl_cons, List.foldl_nil]
 omega
theorem fullB_length {l : List Int} (h : l = [] ∨ l.length = 26) : (fullB l).length = 26 := by
 unfold fullB
 rcases h with rfl | h
 · simp
 · rw [if_neg (fun e => by rw [e] at h; cases h), h]
theorem PPg.body_length {p : PPg} (h : p.ok) : p.body.length = 104 := by
 obtain ⟨c, lsn⟩ := p
 obtain ⟨h4, he, -⟩ := h
 match c, h4 with
 | [a, b, x, y], _ =>
  have ha := fullB_length (he a (by simp))
  have hb := fullB_length (he b (by simp))
  have hx := fullB_length (he x (by simp))
  have hy := fullB_length (he y (by simp))
  simp [PPg.body, ha, hb, hx, hy]
theorem leafA_length {p : PPg} (h : p.ok) : (leafA p).length = 64 := by
 have := PPg.body_length h
 simp [leafA, oneB, be4, this]
theorem leafB_length {p : PPg} (h : p.ok) : (leafB p).length = 64 := by
 have := PPg.body_length h
 simp [leafB, oneB, be4, this]
end Go.Proofs.YtlcfoeikamkpmaaGreat

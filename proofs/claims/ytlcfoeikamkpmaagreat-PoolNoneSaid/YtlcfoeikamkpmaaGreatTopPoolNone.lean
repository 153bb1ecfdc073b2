/- What no pool answers: the law's walk. No conditions. PoolNone: for every input the law returns true and its arguments read as before. No conditions beyond the row's. -/
import Derived.Test.YtlcfoeikamkpmaaGreatPq29
namespace Go.Proofs.YtlcfoeikamkpmaaGreat
open Go.RowKit Go.Wh Go.Maps

def cfN : PCf := ⟨0, 3, 0, 0, false⟩
def sN0 : PSt := ⟨newD 10, [], 0, mkHd PFr.void 2⟩
def sN1 (k : Int) : PSt := (sN0.page cfN k).2.2
def sN2 (k : Int) : PSt := ((sN1 k).flush cfN k).2
theorem n_in {k : Int} (h : 0 ≤ k) (h3 : k < 3) : (sN0.page cfN k).1 = 0 ∧ ((sN1 k).flush cfN k).1 = 0 ∧ ((sN2 k).set cfN k 4 [] 9).1 = 1 := by
 rcases (show k = 0 ∨ k = 1 ∨ k = 2 from by omega) with rfl | rfl | rfl <;> exact ⟨by kernel_rfl, by kernel_rfl, by kernel_rfl⟩
theorem n_out {k : Int} (h : k < 0 ∨ 3 ≤ k) : (sN0.page cfN k).1 = 1 ∧ ((sN1 k).flush cfN k).1 = 1 ∧ ((sN2 k).set cfN k 4 [] 9).1 = 1 := by
 have hm : cfN.may k = false := by
  unfold PCf.may
  have : cfN.pages = 3 := rfl
  rw [this]
  simp only [Bool.and_eq_false_iff, decide_eq_false_iff_not]
  omega
 refine ⟨?_, ?_, ?_⟩
 · unfold PSt.page PSt.get
   rw [if_pos hm]
 · unfold PSt.flush
   rw [if_pos hm]
 · have hg : ((sN2 k).get cfN k).1 = 1 := by
    unfold PSt.get
    rw [if_pos hm]
   unfold PSt.set
   rw [hg, if_pos (by decide)]
set_option maxHeartbeats 8000000 in
set_option maxRecDepth 100000 in
theorem none_walk (W : World) (n : Int) : Calls Tryz.prog 4 #[.int .i64 n] W (BTrue W) := by
 have HBG := Lib.hid (begun_any W)
 have HN1 := Lib.hid (fun w => ppage_nil w n)
 have HN2 := Lib.hid (fun w => pset_nil w n 0 1)
 have HN3 := Lib.hid (fun w => pflush_nil w n)
 have HN4 := Lib.hid (fun w => play_nil w n 1)
 have HN5 := Lib.hid (fun w => pdirty_nil w)
 have HN6 := Lib.hid (fun w => ppages_nil w)
 have HCN := Lib.hid (fun w tt => cellsAt_new w [.slice none 0 0, .slice none 0 0, .slice none 0 0, .slice none 0 0, .int .i64 0] tt)
 have HIN := Lib.hid (fun (k : Int) (h : 0 ≤ k) (h3 : k < 3) => n_in h h3)
 have HOUT := Lib.hid (fun (k : Int) (h : k < 0 ∨ 3 ≤ k) => n_out h)
 rcases (show n < 0 ∨ 3 ≤ n ∨ (0 ≤ n ∧ n < 3) from by omega) with hc | hc | ⟨hc, hc3⟩
 · have b1 : decide (0 ≤ n) = false := decide_eq_false (by omega)
   have HE := Lib.hid (HOUT.out n (.inl hc))
   clear HIN HOUT hc
   go_enter Tryz.func4, Tryz.ntmps4
   go_wp2_with fail
   refine HBG.out.mono ?_
   rintro en w1 ⟨rfl, hs1⟩
   have L1 := Lib.hid (Lg.start hs1)
   clear hs1 HBG
   go_wp2_with fail
   refine (HN1.out _).mono ?_
   rintro en w2 ⟨rfl, hs2⟩
   have L2 := Lib.hid (L1.out.calm hs2)
   clear hs2
   go_upto_region 5 with ((with_reducible (show wpList _ _ _ ({ dst := none, op := Op.store 36 _ _, type := _, pos := _, after := _, guard := _ } :: _) _ _)); (refine wpList_storeAgg rfl 36 _ _ rfl w2.heap.size #[.slice none 0 0, .slice none 0 0, .slice none 0 0, .slice none 0 0, .int .i64 0] rfl rfl (HCN.out _ _) size_page rfl rfl ?_; intro w3 hcf hof hzf; have H3 := Lib.hid (And.intro hcf (And.intro hof hzf)); clear hcf hof hzf))
   have hs3 : Still w2 w3 := ((Still.refl w2).alloc _).andThen H3.out.2.1 fun x hx e => by have e' : x = w2.heap.size := e; omega
   have L3 := L2.out.calm hs3
   have HN := Lib.hid (dnew_any L3.low 1 (fun _ e => by cases e) 10 (by decide) rfl)
   have H3L := Lib.hid L3
   clear hs3 L3 H3
   go_wp2_with fail
   refine HN.out.mono ?_
   rintro en w4 ⟨d, c4, rfl, hs4, hd4⟩
   have L4 := H3L.out.step hs4 fun e => e
   have hD4 : Dt c4 1 2 w4 d none cfN sN0 := ⟨L4.low, hd4, fun t' e => (by cases e), rfl, newD_fine 10, newD_byt 10, by decide, fun e => by (cases e), by decide⟩
   have HNP := Lib.hid (pnew_any (m := 3) (r := 4) L4.low d none cfN 2 2 rfl rfl rfl)
   have H4 := Lib.hid (And.intro L4 hD4)
   clear hs4 hd4 L4 hD4 HN
   go_wp2_with fail
   refine HNP.out.mono ?_
   rintro en w5 ⟨pb, c5, rfl, hs5, hp5⟩
   have L5 := H4.out.1.step hs5 fun e => e
   have hD5 := H4.out.2.keep hs5 (fun e => e) (fun e => e) (fun e => by cases e) (fun e => by cases e) (by decide) (by decide)
   have HPG := Lib.hid (ppage_any (s := sN0) hD5 dif1 hp5 n)
   have H5 := Lib.hid L5
   clear hs5 hp5 L5 hD5 HNP
   go_wp2_with fail
   refine HPG.out.mono ?_
   rintro en w6 ⟨v0, v1, v2, v3, he, c6, hs6, hD6, hP6, hpg⟩
   obtain ⟨z, hz⟩ : ∃ z, (sN0.page cfN n).2.1.lsn = z := ⟨_, rfl⟩
   rw [HE.out.1, hz] at he
   subst he
   clear hz
   change Dt c6 1 2 w6 d none cfN (sN1 n) at hD6
   change PoAt c6 3 4 w6 pb d none cfN (sN1 n).H at hP6
   have L6 := H5.out.step hs6 fun e => by rcases e with e | e | e <;> cases e
   have HONE := Lib.hid (show (#[v0, v1, v2, v3, .int .i64 z] : Array Value).toList.all (·.oneCell') = true from by
    have := pg_one hpg
    rw [List.all_eq_true]
    intro y hy
    simp only [List.mem_cons, List.not_mem_nil, or_false] at hy
    rcases hy with rfl | rfl | rfl | rfl | rfl
    · exact this _ (by simp)
    · exact this _ (by simp)
    · exact this _ (by simp)
    · exact this _ (by simp)
    · rfl)
   have H6 := Lib.hid (And.intro L6 (And.intro hD6 hP6))
   clear hs6 hD6 hP6 L6 hpg HPG
   go_upto_region 7 with ((with_reducible (show wpList _ _ _ ({ dst := none, op := Op.store 36 _ _, type := _, pos := _, after := _, guard := _ } :: _) _ _)); (refine wpList_storeAgg rfl 36 _ _ rfl w6.heap.size #[v0, v1, v2, v3, .int .i64 z] rfl rfl (HCN.out _ _) size_page rfl HONE.out ?_; intro w7 hcf hof hzf; have H7 := Lib.hid (And.intro hcf (And.intro hof hzf)); clear hcf hof hzf))
   have hs7 : Still w6 w7 := ((Still.refl w6).alloc _).andThen H7.out.2.1 fun x hx e => by have e' : x = w6.heap.size := e; omega
   have H8 := Lib.hid (And.intro (H6.out.1.calm hs7) (And.intro (H6.out.2.1.still hs7 (by decide) (by decide)) (H6.out.2.2.still H6.out.1.low hs7 (by decide) (by decide))))
   clear hs7 HONE H7
   go_wp2_with fail
   refine (HN2.out _).mono ?_
   rintro en w8 ⟨rfl, hs8⟩
   have HS8 := Lib.hid hs8
   clear hs8
   go_wp2_with fail
   refine (HN3.out _).mono ?_
   rintro en w9 ⟨rfl, rfl⟩
   go_wp2_with fail
   refine (HN4.out _).mono ?_
   rintro en w10 ⟨rfl, hs10⟩
   have HS10 := Lib.hid (HS8.out.trans hs10)
   clear hs10
   go_wp2_with fail
   refine (HN5.out _).mono ?_
   rintro en w11 ⟨rfl, rfl⟩
   go_wp2_with fail
   refine (HN6.out _).mono ?_
   rintro en w12 ⟨rfl, rfl⟩
   have L12 := H8.out.1.calm HS10.out
   have hD12 := H8.out.2.1.still HS10.out (by decide) (by decide)
   have hP12 := H8.out.2.2.still H8.out.1.low HS10.out (by decide) (by decide)
   have HFL := Lib.hid (pflush_any (s := sN1 n) hD12 dif1 hP12 n)
   have H12 := Lib.hid L12
   clear L12 hD12 hP12
   go_wp2_with fail
   refine HFL.out.mono ?_
   rintro en w13 ⟨he, c13, hs13, hD13, hP13⟩
   rw [HE.out.2.1] at he
   subst he
   change Dt c13 1 2 w13 d none cfN (sN2 n) at hD13
   change PoAt c13 3 4 w13 pb d none cfN (sN2 n).H at hP13
   have L13 := H12.out.step hs13 fun e => by rcases e with e | e | e <;> cases e
   have HST := Lib.hid (pset_any (s := sN2 n) hD13 dif1 hP13 n 4 (R := fun _ => False) (bl := []) Sl.nil (fun g e => e.elim) (fun z hz => by cases hz) 9)
   have H13 := Lib.hid L13
   clear hs13 hD13 hP13 L13 HFL
   go_wp2_with fail
   refine HST.out.mono ?_
   rintro en w14 ⟨he, c14, hs14, -, -⟩
   rw [HE.out.2.2] at he
   subst he
   have L14 := H13.out.step hs14 fun e => by rcases e with e | e | e <;> cases e
   have F := Lib.hid (show BTrue W (.returned (.bool true)) w14 from ⟨rfl, L14.still⟩)
   clear hs14 L14 HST
   go_wp2_with fail
   go_ret
   exact F.out
 · have b1 : decide (0 ≤ n) = true := decide_eq_true (by omega)
   have b2 : decide (n < 3) = false := decide_eq_false (by omega)
   have HE := Lib.hid (HOUT.out n (.inr hc))
   clear HIN HOUT hc
   go_enter Tryz.func4, Tryz.ntmps4
   go_wp2_with fail
   refine HBG.out.mono ?_
   rintro en w1 ⟨rfl, hs1⟩
   have L1 := Lib.hid (Lg.start hs1)
   clear hs1 HBG
   go_wp2_with fail
   refine (HN1.out _).mono ?_
   rintro en w2 ⟨rfl, hs2⟩
   have L2 := Lib.hid (L1.out.calm hs2)
   clear hs2
   go_upto_region 5 with ((with_reducible (show wpList _ _ _ ({ dst := none, op := Op.store 36 _ _, type := _, pos := _, after := _, guard := _ } :: _) _ _)); (refine wpList_storeAgg rfl 36 _ _ rfl w2.heap.size #[.slice none 0 0, .slice none 0 0, .slice none 0 0, .slice none 0 0, .int .i64 0] rfl rfl (HCN.out _ _) size_page rfl rfl ?_; intro w3 hcf hof hzf; have H3 := Lib.hid (And.intro hcf (And.intro hof hzf)); clear hcf hof hzf))
   have hs3 : Still w2 w3 := ((Still.refl w2).alloc _).andThen H3.out.2.1 fun x hx e => by have e' : x = w2.heap.size := e; omega
   have L3 := L2.out.calm hs3
   have HN := Lib.hid (dnew_any L3.low 1 (fun _ e => by cases e) 10 (by decide) rfl)
   have H3L := Lib.hid L3
   clear hs3 L3 H3
   go_wp2_with fail
   refine HN.out.mono ?_
   rintro en w4 ⟨d, c4, rfl, hs4, hd4⟩
   have L4 := H3L.out.step hs4 fun e => e
   have hD4 : Dt c4 1 2 w4 d none cfN sN0 := ⟨L4.low, hd4, fun t' e => (by cases e), rfl, newD_fine 10, newD_byt 10, by decide, fun e => by (cases e), by decide⟩
   have HNP := Lib.hid (pnew_any (m := 3) (r := 4) L4.low d none cfN 2 2 rfl rfl rfl)
   have H4 := Lib.hid (And.intro L4 hD4)
   clear hs4 hd4 L4 hD4 HN
   go_wp2_with fail
   refine HNP.out.mono ?_
   rintro en w5 ⟨pb, c5, rfl, hs5, hp5⟩
   have L5 := H4.out.1.step hs5 fun e => e
   have hD5 := H4.out.2.keep hs5 (fun e => e) (fun e => e) (fun e => by cases e) (fun e => by cases e) (by decide) (by decide)
   have HPG := Lib.hid (ppage_any (s := sN0) hD5 dif1 hp5 n)
   have H5 := Lib.hid L5
   clear hs5 hp5 L5 hD5 HNP
   go_wp2_with fail
   refine HPG.out.mono ?_
   rintro en w6 ⟨v0, v1, v2, v3, he, c6, hs6, hD6, hP6, hpg⟩
   obtain ⟨z, hz⟩ : ∃ z, (sN0.page cfN n).2.1.lsn = z := ⟨_, rfl⟩
   rw [HE.out.1, hz] at he
   subst he
   clear hz
   change Dt c6 1 2 w6 d none cfN (sN1 n) at hD6
   change PoAt c6 3 4 w6 pb d none cfN (sN1 n).H at hP6
   have L6 := H5.out.step hs6 fun e => by rcases e with e | e | e <;> cases e
   have HONE := Lib.hid (show (#[v0, v1, v2, v3, .int .i64 z] : Array Value).toList.all (·.oneCell') = true from by
    have := pg_one hpg
    rw [List.all_eq_true]
    intro y hy
    simp only [List.mem_cons, List.not_mem_nil, or_false] at hy
    rcases hy with rfl | rfl | rfl | rfl | rfl
    · exact this _ (by simp)
    · exact this _ (by simp)
    · exact this _ (by simp)
    · exact this _ (by simp)
    · rfl)
   have H6 := Lib.hid (And.intro L6 (And.intro hD6 hP6))
   clear hs6 hD6 hP6 L6 hpg HPG
   go_upto_region 7 with ((with_reducible (show wpList _ _ _ ({ dst := none, op := Op.store 36 _ _, type := _, pos := _, after := _, guard := _ } :: _) _ _)); (refine wpList_storeAgg rfl 36 _ _ rfl w6.heap.size #[v0, v1, v2, v3, .int .i64 z] rfl rfl (HCN.out _ _) size_page rfl HONE.out ?_; intro w7 hcf hof hzf; have H7 := Lib.hid (And.intro hcf (And.intro hof hzf)); clear hcf hof hzf))
   have hs7 : Still w6 w7 := ((Still.refl w6).alloc _).andThen H7.out.2.1 fun x hx e => by have e' : x = w6.heap.size := e; omega
   have H8 := Lib.hid (And.intro (H6.out.1.calm hs7) (And.intro (H6.out.2.1.still hs7 (by decide) (by decide)) (H6.out.2.2.still H6.out.1.low hs7 (by decide) (by decide))))
   clear hs7 HONE H7
   go_wp2_with fail
   refine (HN2.out _).mono ?_
   rintro en w8 ⟨rfl, hs8⟩
   have HS8 := Lib.hid hs8
   clear hs8
   go_wp2_with fail
   refine (HN3.out _).mono ?_
   rintro en w9 ⟨rfl, rfl⟩
   go_wp2_with fail
   refine (HN4.out _).mono ?_
   rintro en w10 ⟨rfl, hs10⟩
   have HS10 := Lib.hid (HS8.out.trans hs10)
   clear hs10
   go_wp2_with fail
   refine (HN5.out _).mono ?_
   rintro en w11 ⟨rfl, rfl⟩
   go_wp2_with fail
   refine (HN6.out _).mono ?_
   rintro en w12 ⟨rfl, rfl⟩
   have L12 := H8.out.1.calm HS10.out
   have hD12 := H8.out.2.1.still HS10.out (by decide) (by decide)
   have hP12 := H8.out.2.2.still H8.out.1.low HS10.out (by decide) (by decide)
   have HFL := Lib.hid (pflush_any (s := sN1 n) hD12 dif1 hP12 n)
   have H12 := Lib.hid L12
   clear L12 hD12 hP12
   go_wp2_with fail
   refine HFL.out.mono ?_
   rintro en w13 ⟨he, c13, hs13, hD13, hP13⟩
   rw [HE.out.2.1] at he
   subst he
   change Dt c13 1 2 w13 d none cfN (sN2 n) at hD13
   change PoAt c13 3 4 w13 pb d none cfN (sN2 n).H at hP13
   have L13 := H12.out.step hs13 fun e => by rcases e with e | e | e <;> cases e
   have HST := Lib.hid (pset_any (s := sN2 n) hD13 dif1 hP13 n 4 (R := fun _ => False) (bl := []) Sl.nil (fun g e => e.elim) (fun z hz => by cases hz) 9)
   have H13 := Lib.hid L13
   clear hs13 hD13 hP13 L13 HFL
   go_wp2_with fail
   refine HST.out.mono ?_
   rintro en w14 ⟨he, c14, hs14, -, -⟩
   rw [HE.out.2.2] at he
   subst he
   have L14 := H13.out.step hs14 fun e => by rcases e with e | e | e <;> cases e
   have F := Lib.hid (show BTrue W (.returned (.bool true)) w14 from ⟨rfl, L14.still⟩)
   clear hs14 L14 HST
   go_wp2_with fail
   go_ret
   exact F.out
 · have b1 : decide (0 ≤ n) = true := decide_eq_true hc
   have b2 : decide (n < 3) = true := decide_eq_true hc3
   have HE := Lib.hid (HIN.out n hc hc3)
   clear HIN HOUT hc hc3
   go_enter Tryz.func4, Tryz.ntmps4
   go_wp2_with fail
   refine HBG.out.mono ?_
   rintro en w1 ⟨rfl, hs1⟩
   have L1 := Lib.hid (Lg.start hs1)
   clear hs1 HBG
   go_wp2_with fail
   refine (HN1.out _).mono ?_
   rintro en w2 ⟨rfl, hs2⟩
   have L2 := Lib.hid (L1.out.calm hs2)
   clear hs2
   go_upto_region 5 with ((with_reducible (show wpList _ _ _ ({ dst := none, op := Op.store 36 _ _, type := _, pos := _, after := _, guard := _ } :: _) _ _)); (refine wpList_storeAgg rfl 36 _ _ rfl w2.heap.size #[.slice none 0 0, .slice none 0 0, .slice none 0 0, .slice none 0 0, .int .i64 0] rfl rfl (HCN.out _ _) size_page rfl rfl ?_; intro w3 hcf hof hzf; have H3 := Lib.hid (And.intro hcf (And.intro hof hzf)); clear hcf hof hzf))
   have hs3 : Still w2 w3 := ((Still.refl w2).alloc _).andThen H3.out.2.1 fun x hx e => by have e' : x = w2.heap.size := e; omega
   have L3 := L2.out.calm hs3
   have HN := Lib.hid (dnew_any L3.low 1 (fun _ e => by cases e) 10 (by decide) rfl)
   have H3L := Lib.hid L3
   clear hs3 L3 H3
   go_wp2_with fail
   refine HN.out.mono ?_
   rintro en w4 ⟨d, c4, rfl, hs4, hd4⟩
   have L4 := H3L.out.step hs4 fun e => e
   have hD4 : Dt c4 1 2 w4 d none cfN sN0 := ⟨L4.low, hd4, fun t' e => (by cases e), rfl, newD_fine 10, newD_byt 10, by decide, fun e => by (cases e), by decide⟩
   have HNP := Lib.hid (pnew_any (m := 3) (r := 4) L4.low d none cfN 2 2 rfl rfl rfl)
   have H4 := Lib.hid (And.intro L4 hD4)
   clear hs4 hd4 L4 hD4 HN
   go_wp2_with fail
   refine HNP.out.mono ?_
   rintro en w5 ⟨pb, c5, rfl, hs5, hp5⟩
   have L5 := H4.out.1.step hs5 fun e => e
   have hD5 := H4.out.2.keep hs5 (fun e => e) (fun e => e) (fun e => by cases e) (fun e => by cases e) (by decide) (by decide)
   have HPG := Lib.hid (ppage_any (s := sN0) hD5 dif1 hp5 n)
   have H5 := Lib.hid L5
   clear hs5 hp5 L5 hD5 HNP
   go_wp2_with fail
   refine HPG.out.mono ?_
   rintro en w6 ⟨v0, v1, v2, v3, he, c6, hs6, hD6, hP6, hpg⟩
   obtain ⟨z, hz⟩ : ∃ z, (sN0.page cfN n).2.1.lsn = z := ⟨_, rfl⟩
   rw [HE.out.1, hz] at he
   subst he
   clear hz
   change Dt c6 1 2 w6 d none cfN (sN1 n) at hD6
   change PoAt c6 3 4 w6 pb d none cfN (sN1 n).H at hP6
   have L6 := H5.out.step hs6 fun e => by rcases e with e | e | e <;> cases e
   have HONE := Lib.hid (show (#[v0, v1, v2, v3, .int .i64 z] : Array Value).toList.all (·.oneCell') = true from by
    have := pg_one hpg
    rw [List.all_eq_true]
    intro y hy
    simp only [List.mem_cons, List.not_mem_nil, or_false] at hy
    rcases hy with rfl | rfl | rfl | rfl | rfl
    · exact this _ (by simp)
    · exact this _ (by simp)
    · exact this _ (by simp)
    · exact this _ (by simp)
    · rfl)
   have H6 := Lib.hid (And.intro L6 (And.intro hD6 hP6))
   clear hs6 hD6 hP6 L6 hpg HPG
   go_upto_region 7 with ((with_reducible (show wpList _ _ _ ({ dst := none, op := Op.store 36 _ _, type := _, pos := _, after := _, guard := _ } :: _) _ _)); (refine wpList_storeAgg rfl 36 _ _ rfl w6.heap.size #[v0, v1, v2, v3, .int .i64 z] rfl rfl (HCN.out _ _) size_page rfl HONE.out ?_; intro w7 hcf hof hzf; have H7 := Lib.hid (And.intro hcf (And.intro hof hzf)); clear hcf hof hzf))
   have hs7 : Still w6 w7 := ((Still.refl w6).alloc _).andThen H7.out.2.1 fun x hx e => by have e' : x = w6.heap.size := e; omega
   have H8 := Lib.hid (And.intro (H6.out.1.calm hs7) (And.intro (H6.out.2.1.still hs7 (by decide) (by decide)) (H6.out.2.2.still H6.out.1.low hs7 (by decide) (by decide))))
   clear hs7 HONE H7
   go_wp2_with fail
   refine (HN2.out _).mono ?_
   rintro en w8 ⟨rfl, hs8⟩
   have HS8 := Lib.hid hs8
   clear hs8
   go_wp2_with fail
   refine (HN3.out _).mono ?_
   rintro en w9 ⟨rfl, rfl⟩
   go_wp2_with fail
   refine (HN4.out _).mono ?_
   rintro en w10 ⟨rfl, hs10⟩
   have HS10 := Lib.hid (HS8.out.trans hs10)
   clear hs10
   go_wp2_with fail
   refine (HN5.out _).mono ?_
   rintro en w11 ⟨rfl, rfl⟩
   go_wp2_with fail
   refine (HN6.out _).mono ?_
   rintro en w12 ⟨rfl, rfl⟩
   have L12 := H8.out.1.calm HS10.out
   have hD12 := H8.out.2.1.still HS10.out (by decide) (by decide)
   have hP12 := H8.out.2.2.still H8.out.1.low HS10.out (by decide) (by decide)
   have HFL := Lib.hid (pflush_any (s := sN1 n) hD12 dif1 hP12 n)
   have H12 := Lib.hid L12
   clear L12 hD12 hP12
   go_wp2_with fail
   refine HFL.out.mono ?_
   rintro en w13 ⟨he, c13, hs13, hD13, hP13⟩
   rw [HE.out.2.1] at he
   subst he
   change Dt c13 1 2 w13 d none cfN (sN2 n) at hD13
   change PoAt c13 3 4 w13 pb d none cfN (sN2 n).H at hP13
   have L13 := H12.out.step hs13 fun e => by rcases e with e | e | e <;> cases e
   have HST := Lib.hid (pset_any (s := sN2 n) hD13 dif1 hP13 n 4 (R := fun _ => False) (bl := []) Sl.nil (fun g e => e.elim) (fun z hz => by cases hz) 9)
   have H13 := Lib.hid L13
   clear hs13 hD13 hP13 L13 HFL
   go_wp2_with fail
   refine HST.out.mono ?_
   rintro en w14 ⟨he, c14, hs14, -, -⟩
   rw [HE.out.2.2] at he
   subst he
   have L14 := H13.out.step hs14 fun e => by rcases e with e | e | e <;> cases e
   have F := Lib.hid (show BTrue W (.returned (.bool true)) w14 from ⟨rfl, L14.still⟩)
   clear hs14 L14 HST
   go_wp2_with fail
   go_ret
   exact F.out
end Go.Proofs.YtlcfoeikamkpmaaGreat

namespace Go.Proofs.YtlcfoeikamkpmaaGreat
open Go.RowKit Go.Wh Go.ChangeShapes Go.WideShapes Go.ChangeAt

theorem none_Own : ownKnob Tryz.prog.godebug = none := by kernel_rfl
theorem none_Laid : laidOutB Tryz.prog = true := by kernel_rfl

set_option maxRecDepth 100000 in
theorem poolNone_lifted (os : Os) (started : os.Started) (H : Type) (enc : TypeId × Value → H) :
 ReturnsInHanded {} Tryz.checked os 4 .any (Rows.poolNoneSpec.pre6 enc Tryz.prog Tryz.f4 Rows.poolNoneRow.domain false) (Rows.poolNoneSpec.post enc Tryz.prog Tryz.f4 false true false false) := by
 refine returnsInHanded_of_change (C := Tryz.checked) none_Own started (by kernel_rfl) Tryz.func4
  (ChangeSpec.witness6 (enc := enc) (C := Tryz.checked) false ⟨#[], #[.int .i64 0], []⟩ 8 (by kernel_rfl) (by kernel_rfl) (by kernel_rfl) (by kernel_rfl)) ?_
 intro W base args ds gs before hval0 hW hcnd _
 have hval : ∀ (j : Nat) t v, Tryz.f4.params[j]? = some t → args[j]? = some v → Value.okWide Tryz.prog W .any base t v := hval0
 have hW' := hW
 obtain ⟨p, q, hA0, hV, rfl, hfz, hnd⟩ := hW
 have hA : DataW.TrodAll enc Tryz.prog W 0 (fun _ => true) true Tryz.f4.params.toList args.toList ds p := hA0
 rw [Tryz.params4] at hA hval
 obtain ⟨v0, d0, rfl, rfl, h0⟩ := trodAll_one hA
 obtain ⟨n0, rfl, rfl, rfl, w0⟩ := open_int Tryz.underlying3 (hval 0 3 v0 rfl rfl) h0
 have walk : Calls Tryz.prog 4 #[.int .i64 n0] W (BTrue W) := by
  exact none_walk W n0
 refine walk.mono fun e W' ⟨he, bel⟩ => ?_
 subst he
 exact ⟨_, rfl, law_post none_Laid (t := 4) rfl Tryz.underlying4 rfl (by intro t ht; rw [show Tryz.f4.params.toList = [3] from rfl] at ht; simp at ht; rcases ht with rfl; exact ⟨by kernel_rfl, of_decide_eq_true (by kernel_rfl)⟩) hW' rfl (Only.below bel (Nat.le_refl _) fun _ _ e => e)⟩

theorem poolNone_holds : Rows.PoolNoneSaid :=
 OpenClaim.holds_of_wide 4 Tryz.f4 rfl rfl rfl rfl rfl rfl rfl ⟨rfl, rfl, rfl, rfl, rfl⟩ rfl rfl rfl rfl rfl (by kernel_rfl) Tryz.func4 (by kernel_rfl)
  (of_decide_eq_true (by kernel_rfl)) (by unfold Func.isWrapper; first | (rw [if_pos (by decide +kernel)]; kernel_rfl) | (rw [if_neg (by decide +kernel)]; exact ⟨rfl, rfl⟩))
  (fun os started H enc _ => poolNone_lifted os started H enc)
#print axioms poolNone_holds
end Go.Proofs.YtlcfoeikamkpmaaGreat

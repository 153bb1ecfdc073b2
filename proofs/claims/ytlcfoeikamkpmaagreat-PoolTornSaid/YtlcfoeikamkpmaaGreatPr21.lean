/- The page of two tiles. Conditions: the tiles lie in memory. A page with a cell set. Conditions: it lies in memory; there is such a cell, and the number is new. A trail forced, on a disk that may be armed. Conditions: both lie in memory, the disk is alive. -/
import Derived.Test.YtlcfoeikamkpmaaGreatPr20
namespace Go.Proofs.YtlcfoeikamkpmaaGreat
open Go.RowKit Go.Wh Go.Maps

def LtPost (w : World) (a b : List Int) (e : Ending) (w' : World) : Prop :=
 if (takeT a b).1 = 0 then ∃ v0 v1 v2 v3, e = .returned (.tuple #[.agg #[v0, v1, v2, v3, .int .i64 (takeT a b).2.lsn], .int .i64 0]) ∧ PgIs w' (fun g => w.heap.size ≤ g) [v0, v1, v2, v3] (takeT a b).2.c ∧ Still w w'
 else e = .returned (.tuple #[.agg #[.slice none 0 0, .slice none 0 0, .slice none 0 0, .slice none 0 0, .int .i64 0], .int .i64 (takeT a b).1]) ∧ Still w w'
set_option maxHeartbeats 4000000 in
set_option maxRecDepth 100000 in
theorem ltake_any {Q1 Q2 : Nat → Prop} (w : World) (v u : Value) (a b : List Int) (h : Sl w Q1 1 v 64 (bc a)) (hc : Cap 64 v) (hb : Byt a) (k : Sl w Q2 1 u 64 (bc b)) (kc : Cap 64 u) (kb : Byt b) :
 Calls Tryz.prog 73 #[v, u] w (LtPost w a b) := by
 have hla : a.length = 64 := by have := h.1; rw [bc_length] at this; omega
 have hlb : b.length = 64 := by have := k.1; rw [bc_length] at this; omega
 obtain ⟨bd, hbd⟩ : ∃ bd, a.drop 4 ++ b.drop 4 = bd := ⟨_, rfl⟩
 have hbl : bd.length = 120 := by rw [← hbd, List.length_append, List.length_drop, List.length_drop]; omega
 have hbb : Byt bd := by rw [← hbd]; exact (hb.drop 4).append (kb.drop 4)
 have HBD := Lib.hid (And.intro hbd (And.intro hbl hbb))
 have HTK := Lib.hid (takeT_st a b)
 rw [hbd] at HTK
 have HST := Lib.hid (fun w' (hs : Still w w') => stake_any w' v u a b (h.still hs) hc hb (k.still hs) kc kb)
 have HC0 := Lib.hid (fun tt => cellsAt_new w [.slice none 0 0, .slice none 0 0, .slice none 0 0, .slice none 0 0, .int .i64 0] tt)
 clear h hb k kb hla hlb hbd hbl hbb
 go_enter Tryz.func73, Tryz.ntmps73
 go_upto_region 1 with fail
 have hc0 := HC0.out 36
 have hs0 : Still w (w.alloc (.cells #[.slice none 0 0, .slice none 0 0, .slice none 0 0, .slice none 0 0, .int .i64 0] 36)) := (Still.refl w).alloc _
 clear HC0
 change cellsAt (w.alloc (.cells #[.slice none 0 0, .slice none 0 0, .slice none 0 0, .slice none 0 0, .int .i64 0] 36)) w.heap.size _ at hc0
 generalize (w.alloc (.cells #[.slice none 0 0, .slice none 0 0, .slice none 0 0, .slice none 0 0, .int .i64 0] 36)) = w0 at *
 obtain ⟨b4, hb4⟩ : ∃ b, w.heap.size = b := ⟨_, rfl⟩
 rw [hb4] at hc0
 rw [hb4]
 have H0 := Lib.hid (And.intro hs0 hc0)
 have HB4 := Lib.hid hb4
 clear hs0 hc0 hb4
 go_wp2_with fail
 refine (HST.out w0 H0.out.1).mono ?_
 intro e w2 hp
 unfold StkPost at hp
 by_cases hE : stE a b = 0
 rotate_left
 · rw [if_neg hE] at hp
   obtain ⟨rfl, hs2⟩ := hp
   obtain ⟨E, hEE⟩ : ∃ E, stE a b = E := ⟨_, rfl⟩
   rw [hEE] at hE ⊢
   have hE0 := hE
   have HT := Lib.hid (show takeT a b = (E, PPg.void) from by
    rw [HTK.out, hEE, if_pos hE])
   have H2 := Lib.hid (show Still w w2 ∧ cellsAt w2 b4 [.slice none 0 0, .slice none 0 0, .slice none 0 0, .slice none 0 0, .int .i64 0] from ⟨H0.out.1.trans hs2, H0.out.2.only hs2 fun e => e⟩)
   have d1 : (E != 0) = true := bne_iff_ne.2 hE
   clear hs2 hEE HST
   go_upto_region 3 with fail
   go_wp2_with ((with_reducible (show wpList _ _ _ ({ dst := none, op := Op.store 36 _ _, type := _, pos := _, after := _, guard := _ } :: _) _ _)); (refine wpList_storeAgg rfl 36 _ _ rfl b4 #[.slice none 0 0, .slice none 0 0, .slice none 0 0, .slice none 0 0, .int .i64 0] rfl rfl H2.out.2 size_page rfl rfl ?_; intro wf hcf hof hzf; have HF := Lib.hid (And.intro hcf (And.intro hof hzf)); clear hcf hof hzf))
   have z0 : wf.cell? ⟨b4, 0, none⟩ = some (.slice none 0 0) := HF.out.1.cell 0
   have z1 : wf.cell? ⟨b4, 1, none⟩ = some (.slice none 0 0) := HF.out.1.cell 1
   have z2 : wf.cell? ⟨b4, 2, none⟩ = some (.slice none 0 0) := HF.out.1.cell 2
   have z3 : wf.cell? ⟨b4, 3, none⟩ = some (.slice none 0 0) := HF.out.1.cell 3
   have z4 : wf.cell? ⟨b4, 4, none⟩ = some (.int .i64 0) := HF.out.1.cell 4
   have FF := Lib.hid (show LtPost w a b (.returned (.tuple #[.agg #[.slice none 0 0, .slice none 0 0, .slice none 0 0, .slice none 0 0, .int .i64 0], .int .i64 E])) wf from by
    unfold LtPost
    rw [HT.out]
    rw [if_neg (by first | decide | exact hE0)]
    exact ⟨rfl, Only.andThen H2.out.1 HF.out.2.1 fun g hg e => by have := HB4.out; have e' : g = b4 := e; omega⟩)
   exact bodyPost_ret (v := .tuple #[.agg #[.slice none 0 0, .slice none 0 0, .slice none 0 0, .slice none 0 0, .int .i64 0], .int .i64 E]) (by simp [results, Tryz.results73, go_sem, z0, z1, z2, z3, z4]) rfl FF.out
 rw [if_pos hE] at hp
 obtain ⟨bv, rfl, hbv, hs2, hfb⟩ := hp
 obtain ⟨x, hx⟩ : ∃ x, numT a = x := ⟨_, rfl⟩
 have HX := Lib.hid (And.intro hx hE)
 rw [hx]
 have H2 := Lib.hid (show Still w w2 ∧ cellsAt w2 b4 [.slice none 0 0, .slice none 0 0, .slice none 0 0, .slice none 0 0, .int .i64 0] from ⟨H0.out.1.trans hs2, H0.out.2.only hs2 fun e => e⟩)
 rw [HBD.out.1] at hbv
 obtain ⟨ba, bc', rfl⟩ := hbv.form'
 have HBV := Lib.hid (And.intro hbv (show ∀ g, (Value.slice ba 120 bc').ownBlock = some g → b4 < g ∧ g < w2.heap.size from fun g hg => by
  have := hfb g hg
  have := H0.out.2.lt
  have := HB4.out
  omega))
 have HC9 := Lib.hid (fun tt => cellsAt_new w2 [.slice none 0 0, .slice none 0 0, .slice none 0 0, .slice none 0 0, .int .i64 0] tt)
 clear hbv hs2 hfb hx hE HST
 go_upto_region 5 with ((with_reducible (show wpList _ _ _ ({ dst := none, op := Op.store 36 _ _, type := _, pos := _, after := _, guard := _ } :: _) _ _)); (refine wpList_storeAgg rfl 36 _ _ rfl w2.heap.size #[.slice none 0 0, .slice none 0 0, .slice none 0 0, .slice none 0 0, .int .i64 x] rfl rfl (HC9.out _) size_page rfl rfl ?_; intro w3 hcf hof hzf; have H3 := Lib.hid (And.intro hcf (And.intro hof hzf)); clear hcf hof hzf))
 obtain ⟨b9, hb9⟩ : ∃ b, w2.heap.size = b := ⟨_, rfl⟩
 rw [hb9] at H3
 rw [hb9]
 have H4 := Lib.hid (show b4 < b9 ∧ Still w w3 ∧ cellsAt w3 b4 [.slice none 0 0, .slice none 0 0, .slice none 0 0, .slice none 0 0, .int .i64 0] ∧ cellsAt w3 b9 [.slice none 0 0, .slice none 0 0, .slice none 0 0, .slice none 0 0, .int .i64 x] ∧ Sl w3 (fun g => b4 < g ∧ g < b9) 1 (.slice ba 120 bc') 120 (bc bd) from by
  have hl := H2.out.2.lt
  have e23 : Only (fun g => g = b9) w2 w3 := ((Only.refl _ _).alloc _).trans H3.out.2.1
  refine ⟨by omega, H2.out.1.andThen e23 fun g hg e => ?_, H2.out.2.only e23 fun e => ?_, H3.out.1, ?_⟩
  · have := H2.out.1.size; have e' : g = b9 := e; omega
  · have e' : b4 = b9 := e; omega
  · exact (Vec.sl (Q := fun g => b4 < g ∧ g < b9) HBV.out.1 fun g hg => by have := HBV.out.2 g hg; exact ⟨⟨this.1, by omega⟩, this.2⟩).only e23 fun g hg e => by have e' : g = b9 := e; omega)
 have hcap : Cap 120 (.slice ba 120 bc') := Vec.capOf HBV.out.1
 have HCAP := Lib.hid hcap
 clear HC9 H3 H2 hb9
 obtain ⟨tv, -, -, r5, -, htl⟩ := H4.out.2.2.2.2.part (P := Tryz.prog) (size := 1) 22 Tryz.underlying22 (fun w => rfl) hcap (show 104 ≤ 120 by decide) (Nat.le_refl 120)
 have htl' := htl w3 _ H4.out.2.2.2.2
 have e1 : ((bc bd).drop (104 * 1)).take ((120 - 104) * 1) = bc (bd.drop 104) := by
  unfold bc
  rw [← List.map_drop, List.take_of_length_le (by rw [List.length_map, List.length_drop, HBD.out.2.1]; decide)]
 rw [e1] at htl'
 have HNO := Lib.hid (nought_any w3 tv (120 - 104) (bd.drop 104) htl' (by decide))
 obtain ⟨ta, tc, rfl⟩ := htl'.form
 have r5 : ∀ w, (Instr.slice 22 (.slice ba 120 bc') (some (.int .i64 104)) none none).run Tryz.prog w = .ok (.slice ta (120 - 104) tc) w := r5 rfl
 obtain ⟨q, hq⟩ : ∃ q, nought (bd.drop 104) = q := ⟨_, rfl⟩
 rw [hq] at HNO
 have HQ := Lib.hid hq
 clear hcap htl htl' e1 hq
 cases q with
 | false =>
  have HT := Lib.hid (show takeT a b = (4, PPg.void) from by
   rw [HTK.out, HX.out.2, if_neg (fun e => e rfl), if_pos HQ.out])
  go_wp2_with fail
  refine HNO.out.mono ?_
  rintro e w4 ⟨rfl, rfl⟩
  go_upto_region 6 with fail
  go_wp2_with ((with_reducible (show wpList _ _ _ ({ dst := none, op := Op.store 36 _ _, type := _, pos := _, after := _, guard := _ } :: _) _ _)); (refine wpList_storeAgg rfl 36 _ _ rfl b4 #[.slice none 0 0, .slice none 0 0, .slice none 0 0, .slice none 0 0, .int .i64 0] rfl rfl H4.out.2.2.1 size_page rfl rfl ?_; intro wf hcf hof hzf; have HF := Lib.hid (And.intro hcf (And.intro hof hzf)); clear hcf hof hzf))
  have z0 : wf.cell? ⟨b4, 0, none⟩ = some (.slice none 0 0) := HF.out.1.cell 0
  have z1 : wf.cell? ⟨b4, 1, none⟩ = some (.slice none 0 0) := HF.out.1.cell 1
  have z2 : wf.cell? ⟨b4, 2, none⟩ = some (.slice none 0 0) := HF.out.1.cell 2
  have z3 : wf.cell? ⟨b4, 3, none⟩ = some (.slice none 0 0) := HF.out.1.cell 3
  have z4 : wf.cell? ⟨b4, 4, none⟩ = some (.int .i64 0) := HF.out.1.cell 4
  have FF := Lib.hid (show LtPost w a b (.returned (.tuple #[.agg #[.slice none 0 0, .slice none 0 0, .slice none 0 0, .slice none 0 0, .int .i64 0], .int .i64 4])) wf from by
   unfold LtPost
   rw [HT.out]
   rw [if_neg (by first | decide | exact hE0)]
   exact ⟨rfl, Only.andThen H4.out.2.1 HF.out.2.1 fun g hg e => by have := HB4.out; have e' : g = b4 := e; omega⟩)
  exact bodyPost_ret (v := .tuple #[.agg #[.slice none 0 0, .slice none 0 0, .slice none 0 0, .slice none 0 0, .int .i64 0], .int .i64 4]) (by simp [results, Tryz.results73, go_sem, z0, z1, z2, z3, z4]) rfl FF.out
 | true =>
  go_wp2_with fail
  refine HNO.out.mono ?_
  rintro e w4 ⟨rfl, rfl⟩
  clear r5 HNO
  go_upto_region 7 with fail
  go_upto_region 8 with fail
  go_loopw [34] (fun s34 wr => ∃ (i : Nat) (vs : List Value), s34 = .int .i64 i ∧ i ≤ 4 ∧ vs.length = 4 ∧ Still w wr ∧ cellsAt wr b4 [.slice none 0 0, .slice none 0 0, .slice none 0 0, .slice none 0 0, .int .i64 0] ∧ cellsAt wr b9 (vs ++ [.int .i64 x]) ∧ PgIs wr (fun g => b9 < g) vs (cellsN bd i) ∧ allC bd i = true ∧ Sl wr (fun g => b4 < g ∧ g < b9) 1 (.slice ba 120 bc') 120 (bc bd)) (fun s34 _ => 4 - (intOf s34).toNat)
  case atStart =>
   refine ⟨0, [.slice none 0 0, .slice none 0 0, .slice none 0 0, .slice none 0 0], rfl, Nat.zero_le _, rfl, H4.out.2.1, H4.out.2.2.1, H4.out.2.2.2.1, ⟨rfl, rfl, fun j v l h1 h2 => ?_⟩, rfl, H4.out.2.2.2.2⟩
   rw [cellsN_zero] at h2
   rcases (show j = 0 ∨ j = 1 ∨ j = 2 ∨ j = 3 from by have := (List.getElem?_eq_some_iff.1 h1).1; simp at this; omega) with rfl | rfl | rfl | rfl <;> (cases h1; cases h2; exact Sl.nil)
  obtain ⟨i, vs, rfl, hin, hvl, hs, hc4, hc9, hpg, hall, hsb⟩ := hrel
  have HR := Lib.hid (And.intro hvl (And.intro hs (And.intro hc4 (And.intro hc9 (And.intro hpg (And.intro hall hsb))))))
  by_cases hi : i < 4
  rotate_left
  · have d1 : decide ((i : Int) < 4) = false := decide_eq_false (by omega)
    have d2 : decide (i < 4) = false := decide_eq_false hi
    have hi4 : i = 4 := by omega
    rw [hi4] at hpg hall
    have HT := Lib.hid (show takeT a b = (0, ⟨cellsN bd 4, x⟩) from by
     rw [HTK.out, HX.out.2, if_neg (fun e => e rfl), HQ.out, if_neg (by decide), hall, if_neg (by decide), HX.out.1])
    obtain ⟨u0, u1, u2, u3, rfl⟩ : ∃ u0 u1 u2 u3, vs = [u0, u1, u2, u3] := by
     match vs, hvl with
     | [u0, u1, u2, u3], _ => exact ⟨u0, u1, u2, u3, rfl⟩
    have HPG := Lib.hid hpg
    have HONE := Lib.hid (show (#[u0, u1, u2, u3, .int .i64 x] : Array Value).toList.all (·.oneCell') = true from by
     have := pg_one HPG.out
     rw [List.all_eq_true]
     intro y hy
     simp only [List.mem_cons, List.not_mem_nil, or_false] at hy
     rcases hy with rfl | rfl | rfl | rfl | rfl
     · exact this _ (by simp)
     · exact this _ (by simp)
     · exact this _ (by simp)
     · exact this _ (by simp)
     · rfl)
    clear hs hc4 hc9 hpg hall hsb hvl hi hin hi4
    go_wp2_with (first
     | ((with_reducible (show wpList _ _ _ ({ dst := some 64, op := _, type := _, pos := _, after := _, guard := _ } :: _) _ _)); (refine wpList_loadAgg rfl 36 _ rfl b9 #[u0, u1, u2, u3, .int .i64 x] rfl HR.out.2.2.2.1 _ Tryz.underlying36 rfl size_page ?_))
     | ((with_reducible (show wpList _ _ _ ({ dst := none, op := Op.store 36 _ _, type := _, pos := _, after := _, guard := _ } :: _) _ _)); (refine wpList_storeAgg rfl 36 _ _ rfl b4 #[u0, u1, u2, u3, .int .i64 x] rfl rfl HR.out.2.2.1 size_page rfl HONE.out ?_; intro wf hcf hof hzf; have HF := Lib.hid (And.intro hcf (And.intro hof hzf)); clear hcf hof hzf)))
    have z0 : wf.cell? ⟨b4, 0, none⟩ = some u0 := HF.out.1.cell 0
    have z1 : wf.cell? ⟨b4, 1, none⟩ = some u1 := HF.out.1.cell 1
    have z2 : wf.cell? ⟨b4, 2, none⟩ = some u2 := HF.out.1.cell 2
    have z3 : wf.cell? ⟨b4, 3, none⟩ = some u3 := HF.out.1.cell 3
    have z4 : wf.cell? ⟨b4, 4, none⟩ = some (.int .i64 x) := HF.out.1.cell 4
    have FF := Lib.hid (show LtPost w a b (.returned (.tuple #[.agg #[u0, u1, u2, u3, .int .i64 x], .int .i64 0])) wf from by
     unfold LtPost
     rw [HT.out, if_pos rfl]
     have h4 := H4.out.1
     have hb4 := HB4.out
     exact ⟨u0, u1, u2, u3, rfl, (HPG.out.only HF.out.2.1 fun g h e => by have e' : g = b4 := e; omega).mono fun g hg => by omega, HR.out.2.1.andThen HF.out.2.1 fun g hg e => by have e' : g = b4 := e; omega⟩)
    exact bodyPost_ret (v := .tuple #[.agg #[u0, u1, u2, u3, .int .i64 x], .int .i64 0]) (by simp [results, Tryz.results73, go_sem, z0, z1, z2, z3, z4]) rfl FF.out
  have d1 : decide ((i : Int) < 4) = true := decide_eq_true (by omega)
  have d2 : decide (i < 4) = true := decide_eq_true hi
  have i0 : (0 : Int) ≤ (i : Int) := by omega
  have i1 : (i : Int) < 4 := by omega
  have u9 : IntKind.i64.wrap ((i : Int) + 1) = (i : Int) + 1 := IntWalk.i64_in _ (by omega)
  obtain ⟨lo, hlo⟩ : ∃ lo, i * 26 = lo := ⟨_, rfl⟩
  have a1 : (i : Int) * 26 = (lo : Int) := by omega
  have a2 : ((i : Int) + 1) * 26 = ((lo + 26 : Nat) : Int) := by omega
  obtain ⟨hh, hhi⟩ : ∃ hh, lo + 26 = hh := ⟨_, rfl⟩
  rw [hhi] at a2
  have u1 : IntKind.i64.wrap (lo : Int) = (lo : Int) := IntWalk.i64_in _ (by omega)
  have u2 : IntKind.i64.wrap (hh : Int) = (hh : Int) := IntWalk.i64_in _ (by omega)
  obtain ⟨cv, r1, -, -, hcc, hcp⟩ := hsb.part (P := Tryz.prog) (size := 1) 22 Tryz.underlying22 (fun w => rfl) HCAP.out (show lo ≤ hh by omega) (show hh ≤ 120 by omega)
  have hcs := hcp wr _ hsb
  have e26 : hh - lo = 26 := by omega
  have e1 : ((bc bd).drop (lo * 1)).take ((hh - lo) * 1) = bc (cellAt bd i) := by
   unfold bc cellAt
   rw [e26, hlo, Nat.mul_one, Nat.mul_one, List.map_take, List.map_drop]
  rw [e1] at hcs
  rw [e26] at hcs hcc
  obtain ⟨l, hl⟩ : ∃ l, cellAt bd i = l := ⟨_, rfl⟩
  have hll : l.length = 26 := by rw [← hl]; exact cellAt_len HBD.out.2.1 hi
  have hlb : Byt l := by rw [← hl]; exact cellAt_byt HBD.out.2.2 i
  rw [hl] at hcs
  have HRD := Lib.hid (show Calls _ _ _ wr (fun e w' => e = .returned (rdV (RdC l)) ∧ Still wr w') from cread_any wr cv 26 l hcs hcc hlb (by decide))
  have hre := RdC_err hlb hll
  have HCS := Lib.hid (And.intro hcs (And.intro hl (And.intro hll hlb)))
  obtain ⟨ca, cc, rfl⟩ := hcs.form
  have HI := Lib.hid hi
  clear hs hc4 hc9 hpg hall hsb hvl hcc hcp hcs e1 e26 hlo hhi hl hll hlb hi hin
  generalize RdC l = R at *
  obtain ⟨kd, ⟨rk, rs, rv⟩, ⟨rp, rc⟩, er⟩ := R
  dsimp only at hre
  have HRE := Lib.hid hre
  clear hre
  go_upto_region 11 with fail
  go_wp2_with fail
  refine HRD.out.mono ?_
  rintro e w5 ⟨rfl, hs5⟩
  have HS5 := Lib.hid hs5
  have HZ5 := Lib.hid (fun tt tt2 => show Still w5 ((w5.alloc (.cells #[.string ⟨#[]⟩, .string ⟨#[]⟩, .string ⟨#[]⟩] tt)).alloc (.cells #[.int .i64 0, .int .i64 0] tt2)) ∧ cellsAt ((w5.alloc (.cells #[.string ⟨#[]⟩, .string ⟨#[]⟩, .string ⟨#[]⟩] tt)).alloc (.cells #[.int .i64 0, .int .i64 0] tt2)) w5.heap.size [.string ⟨#[]⟩, .string ⟨#[]⟩, .string ⟨#[]⟩] ∧ cellsAt ((w5.alloc (.cells #[.string ⟨#[]⟩, .string ⟨#[]⟩, .string ⟨#[]⟩] tt)).alloc (.cells #[.int .i64 0, .int .i64 0] tt2)) (w5.heap.size + 1) [.int .i64 0, .int .i64 0] from by
   have hz : (w5.alloc (.cells #[.string ⟨#[]⟩, .string ⟨#[]⟩, .string ⟨#[]⟩] tt)).heap.size = w5.heap.size + 1 := by simp
   refine ⟨((Still.refl w5).alloc _).alloc _, (cellsAt_new w5 [.string ⟨#[]⟩, .string ⟨#[]⟩, .string ⟨#[]⟩] tt).alloc _, ?_⟩
   have := cellsAt_new (w5.alloc (.cells #[.string ⟨#[]⟩, .string ⟨#[]⟩, .string ⟨#[]⟩] tt)) [.int .i64 0, .int .i64 0] tt2
   rw [hz] at this
   exact this)
  clear hs5 HRD
  unfold rdV
  go_upto_region 12 with (first
   | ((with_reducible (show wpList _ _ _ ({ dst := none, op := Op.store 60 _ _, type := _, pos := _, after := _, guard := _ } :: _) _ _)); (refine wpList_storeAgg rfl 60 _ _ rfl w5.heap.size #[.string rk, .string rs, .string rv] rfl rfl (HZ5.out _ _).2.1 size_row rfl rfl ?_; intro w6 hcf hof hzf; have H6 := Lib.hid (And.intro hcf (And.intro hof hzf)); clear hcf hof hzf))
   | ((with_reducible (show wpList _ _ _ ({ dst := none, op := Op.store 64 _ _, type := _, pos := _, after := _, guard := _ } :: _) _ _)); (refine wpList_storeAgg rfl 64 _ _ rfl (w5.heap.size + 1) #[.int .i64 rp, .int .i64 rc] rfl rfl ((HZ5.out _ _).2.2.only H6.out.2.1 fun e => by have e' : w5.heap.size + 1 = w5.heap.size := e; omega) size_rid rfl rfl ?_; intro w7 hcf hof hzf; have H7 := Lib.hid (And.intro hcf (And.intro hof hzf)); clear hcf hof hzf)))
  have HS7 := Lib.hid (show Still wr w7 from by
   have h1 := (HZ5.out 60 64).1
   have h2 : Still w5 w6 := h1.andThen H6.out.2.1 fun g hg e => by have e' : g = w5.heap.size := e; omega
   have h3 : Still w5 w7 := h2.andThen H7.out.2.1 fun g hg e => by have e' : g = w5.heap.size + 1 := e; omega
   exact HS5.out.trans h3)
  clear HZ5 H6 H7 HS5
  obtain ⟨q1, hq1⟩ : ∃ q, cellT l = q := ⟨_, rfl⟩
  have HQ1 := Lib.hid hq1
  clear hq1
  cases q1 with
  | false =>
   have hre : er = 4 := by
    have h := HRE.out
    rw [HQ1.out] at h
    exact h
   clear HRE
   subst hre
   have HT := Lib.hid (show takeT a b = (4, PPg.void) from by
    rw [HTK.out, HX.out.2, if_neg (fun e => e rfl), HQ.out, if_neg (by decide), if_pos (allC_no HI.out (by rw [HCS.out.2.1]; exact HQ1.out))])
   have H47 := Lib.hid (HR.out.2.2.1.only HS7.out fun e => e)
   go_upto_region 13 with fail
   go_wp2_with ((with_reducible (show wpList _ _ _ ({ dst := none, op := Op.store 36 _ _, type := _, pos := _, after := _, guard := _ } :: _) _ _)); (refine wpList_storeAgg rfl 36 _ _ rfl b4 #[.slice none 0 0, .slice none 0 0, .slice none 0 0, .slice none 0 0, .int .i64 0] rfl rfl H47.out size_page rfl rfl ?_; intro wf hcf hof hzf; have HF := Lib.hid (And.intro hcf (And.intro hof hzf)); clear hcf hof hzf))
   have z0 : wf.cell? ⟨b4, 0, none⟩ = some (.slice none 0 0) := HF.out.1.cell 0
   have z1 : wf.cell? ⟨b4, 1, none⟩ = some (.slice none 0 0) := HF.out.1.cell 1
   have z2 : wf.cell? ⟨b4, 2, none⟩ = some (.slice none 0 0) := HF.out.1.cell 2
   have z3 : wf.cell? ⟨b4, 3, none⟩ = some (.slice none 0 0) := HF.out.1.cell 3
   have z4 : wf.cell? ⟨b4, 4, none⟩ = some (.int .i64 0) := HF.out.1.cell 4
   have FF := Lib.hid (show LtPost w a b (.returned (.tuple #[.agg #[.slice none 0 0, .slice none 0 0, .slice none 0 0, .slice none 0 0, .int .i64 0], .int .i64 4])) wf from by
    unfold LtPost
    rw [HT.out]
    rw [if_neg (by first | decide | exact hE0)]
    exact ⟨rfl, Only.andThen (HR.out.2.1.trans HS7.out) HF.out.2.1 fun g hg e => by have := HB4.out; have e' : g = b4 := e; omega⟩)
   exact bodyPost_ret (v := .tuple #[.agg #[.slice none 0 0, .slice none 0 0, .slice none 0 0, .slice none 0 0, .int .i64 0], .int .i64 4]) (by simp [results, Tryz.results73, go_sem, z0, z1, z2, z3, z4]) rfl FF.out
  | true =>
   have hre : er = 0 := by
    have h := HRE.out
    rw [HQ1.out] at h
    exact h
   clear HRE
   subst hre
   have HNX := Lib.hid (nought_any w7 (.slice ca 26 cc) 26 l (HCS.out.1.still HS7.out) (by decide))
   obtain ⟨q2, hq2⟩ : ∃ q, nought l = q := ⟨_, rfl⟩
   rw [hq2] at HNX
   have HQ2 := Lib.hid hq2
   clear hq2
   cases q2 with
   | true =>
    go_wp2_with fail
    refine HNX.out.mono ?_
    rintro e w8 ⟨rfl, rfl⟩
    have HN := Lib.hid (show vs.length = 4 ∧ Still w w8 ∧ cellsAt w8 b4 [.slice none 0 0, .slice none 0 0, .slice none 0 0, .slice none 0 0, .int .i64 0] ∧ cellsAt w8 b9 (vs ++ [.int .i64 x]) ∧ PgIs w8 (fun g => b9 < g) vs (cellsN bd (i + 1)) ∧ allC bd (i + 1) = true ∧ Sl w8 (fun g => b4 < g ∧ g < b9) 1 (.slice ba 120 bc') 120 (bc bd) from by
     obtain ⟨hvl, hs, hc4, hc9, hpg, hall, hsb⟩ := HR.out
     have hs7 := HS7.out
     refine ⟨hvl, hs.trans hs7, hc4.only hs7 fun e => e, hc9.only hs7 fun e => e, ?_, ?_, hsb.still hs7⟩
     · rw [cellsN_keep bd HI.out (by rw [HCS.out.2.1]; exact HQ2.out)]
       exact hpg.still hs7
     · rw [allC_succ, hall, HCS.out.2.1, HQ1.out]
       rfl)
    clear r1 HNX
    go_wp2_with fail
    go_roundw
    case rel => exact ⟨i + 1, vs, by go_num, by have := HI.out; omega, HN.out⟩
    case measure => first | (simp [intOf]; done) | (simp [intOf]; have := HI.out; omega)
   | false =>
    have HCL := Lib.hid (clone_b (.slice ca 26 cc) 26 (bc l) w7 (HCS.out.1.still HS7.out).reads (bc_one _) (by decide))
    go_wp2_with fail
    refine HNX.out.mono ?_
    rintro e w8 ⟨rfl, rfl⟩
    go_wp2_with fail
    refine HCL.out.mono ?_
    rintro e w9 ⟨y, rfl, hy, hby, hfy⟩
    obtain ⟨hvl, hs, hc4, hc9, hpg, hall, hsb⟩ := HR.out
    have hs9 : Still wr w9 := HS7.out.trans (Still.of hby)
    have hc99 := hc9.only hs9 fun e => e
    obtain ⟨u0, hu0⟩ : ∃ u, vs[i]? = some u := ⟨_, List.getElem?_eq_getElem (by have := HI.out; omega)⟩
    have c1 : w9.cell? ⟨b9, i, none⟩ = some u0 := by
     rw [hc99.cell i, List.getElem?_append_left (by have := HI.out; omega)]
     exact hu0
    have f1 : w9.frozen? ⟨b9, i, none⟩ = false := hc99.free i
    have HN := Lib.hid (show (vs.set i y).length = 4 ∧ Still w (w9.setCell ⟨b9, i, none⟩ y) ∧ cellsAt (w9.setCell ⟨b9, i, none⟩ y) b4 [.slice none 0 0, .slice none 0 0, .slice none 0 0, .slice none 0 0, .int .i64 0] ∧ cellsAt (w9.setCell ⟨b9, i, none⟩ y) b9 (vs.set i y ++ [.int .i64 x]) ∧ PgIs (w9.setCell ⟨b9, i, none⟩ y) (fun g => b9 < g) (vs.set i y) (cellsN bd (i + 1)) ∧ allC bd (i + 1) = true ∧ Sl (w9.setCell ⟨b9, i, none⟩ y) (fun g => b4 < g ∧ g < b9) 1 (.slice ba 120 bc') 120 (bc bd) from by
     have h4 := H4.out.1
     have hb4 := HB4.out
     have ho : Only (fun k => k = b9) w9 (w9.setCell ⟨b9, i, none⟩ y) := setCell_only w9 ⟨b9, i, none⟩ y
     have h9l := hc9.lt
     have hz8 := HS7.out.size
     refine ⟨by rw [List.length_set]; exact hvl, (hs.trans hs9).andThen ho fun g hg e => ?_, (hc4.only hs9 fun e => e).only ho fun e => by have e' : b4 = b9 := e; omega, ?_, ⟨by rw [List.length_set]; exact hvl, ?_, fun j u' l' h1 h2 => ?_⟩, ?_, (hsb.still hs9).only ho fun g hg e => by have e' : g = b9 := e; omega⟩
     · have e' : g = b9 := e
       have := H4.out.2.2.1.lt
       omega
     · have := hc99.setCell i y
       rw [List.set_append_left _ _ (by have := HI.out; omega)] at this
       exact this
     · rw [cellsN_next bd HI.out, List.length_set]
       exact hpg.m
     · rw [cellsN_next bd HI.out, HCS.out.2.1, HQ2.out, if_neg (by decide)] at h2
       by_cases e : j = i
       · subst e
         rw [List.getElem?_set_self (by have := HI.out; omega)] at h1
         cases h1
         rw [List.getElem?_set_self (by rw [hpg.m]; exact HI.out)] at h2
         cases h2
         rw [HCS.out.2.2.1]
         exact (Vec.sl (Q := fun g => b9 < g) hy fun g hg => by
          have := hfy g hg
          exact ⟨by omega, this.2⟩).only ho fun g hg e => by have e' : g = b9 := e; omega
       · rw [List.getElem?_set_ne (Ne.symm e)] at h1 h2
         exact ((hpg.at_ j u' l' h1 h2).still hs9).only ho fun g hg e => by have e' : g = b9 := e; omega
     · rw [allC_succ, hall, HCS.out.2.1, HQ1.out]
       rfl)
    obtain ⟨ya, yc, rfl⟩ := hy.form'
    clear hy hby hfy hvl hs hc4 hc9 hpg hall hsb hs9 hc99 HCL HNX r1 hu0
    go_wp2_with fail
    go_roundw
    case rel => exact ⟨i + 1, _, by go_num, by have := HI.out; omega, HN.out⟩
    case measure => first | (simp [intOf]; done) | (simp [intOf]; have := HI.out; omega)
end Go.Proofs.YtlcfoeikamkpmaaGreat

namespace Go.Proofs.YtlcfoeikamkpmaaGreat
open Go.RowKit Go.Wh Go.Maps

set_option maxHeartbeats 2000000 in
set_option maxRecDepth 100000 in
theorem lset_any {Q R : Nat → Prop} (w : World) (v0 v1 v2 v3 : Value) (z y : Int) (ls : List (List Int)) (h : PgIs w Q [v0, v1, v2, v3] ls) (hlen : ∀ l ∈ ls, l.length ≤ 10000) (k : Nat) (hk : k < 4) (x : Value) (bl : List Int) (hx : Sl w R 1 x bl.length (bc bl)) (hbl : bl.length ≤ 10000) (hzy : z < y) :
 Calls Tryz.prog 45 #[.agg #[v0, v1, v2, v3, .int .i64 z], .int .i64 (k : Int), x, .int .i64 y] w (TwPost w y (ls.set k bl)) := by
 have HH := Lib.hid (And.intro h (And.intro hlen (And.intro hx hbl)))
 have HZ := Lib.hid (fun tt tt2 => show Still w ((w.alloc (.cells #[v0, v1, v2, v3, .int .i64 z] tt)).alloc (.cells #[.slice none 0 0, .slice none 0 0, .slice none 0 0, .slice none 0 0, .int .i64 0] tt2)) ∧ cellsAt ((w.alloc (.cells #[v0, v1, v2, v3, .int .i64 z] tt)).alloc (.cells #[.slice none 0 0, .slice none 0 0, .slice none 0 0, .slice none 0 0, .int .i64 0] tt2)) w.heap.size [v0, v1, v2, v3, .int .i64 z] ∧ cellsAt ((w.alloc (.cells #[v0, v1, v2, v3, .int .i64 z] tt)).alloc (.cells #[.slice none 0 0, .slice none 0 0, .slice none 0 0, .slice none 0 0, .int .i64 0] tt2)) (w.heap.size + 1) [.slice none 0 0, .slice none 0 0, .slice none 0 0, .slice none 0 0, .int .i64 0] from by
  have hz : (w.alloc (.cells #[v0, v1, v2, v3, .int .i64 z] tt)).heap.size = w.heap.size + 1 := by simp
  refine ⟨((Still.refl w).alloc _).alloc _, (cellsAt_new w [v0, v1, v2, v3, .int .i64 z] tt).alloc _, ?_⟩
  have := cellsAt_new (w.alloc (.cells #[v0, v1, v2, v3, .int .i64 z] tt)) [.slice none 0 0, .slice none 0 0, .slice none 0 0, .slice none 0 0, .int .i64 0] tt2
  rw [hz] at this
  exact this)
 obtain ⟨xa, xc, rfl⟩ := hx.form
 have i0 : (0 : Int) ≤ (k : Int) := by omega
 have i1 : (k : Int) < 4 := by omega
 have HK := Lib.hid hk
 clear h hlen hx hbl hk
 go_enter Tryz.func45, Tryz.ntmps45
 go_upto_region 1 with fail
 have hz := HZ.out 36 36
 clear HZ
 generalize ((w.alloc (.cells #[v0, v1, v2, v3, .int .i64 z] 36)).alloc (.cells #[.slice none 0 0, .slice none 0 0, .slice none 0 0, .slice none 0 0, .int .i64 0] 36)) = w1 at *
 obtain ⟨b1, hb1⟩ : ∃ b, w.heap.size = b := ⟨_, rfl⟩
 obtain ⟨b2, hb2⟩ : ∃ b, w.heap.size + 1 = b := ⟨_, rfl⟩
 rw [hb2, hb1] at hz
 rw [hb2, hb1]
 have k4 : w1.cell? ⟨b1, 4, none⟩ = some (.int .i64 z) := hz.2.1.cell 4
 have H1 := Lib.hid (And.intro hz (And.intro hb1 hb2))
 have HTW := Lib.hid (ltwin_any w1 v0 v1 v2 v3 z ls (HH.out.1.still hz.1) HH.out.2.1)
 clear hz hb1 hb2
 go_wp2_with ((with_reducible (show wpList _ _ _ ({ dst := some 10, op := _, type := _, pos := _, after := _, guard := _ } :: _) _ _)); (refine wpList_loadAgg rfl 36 _ rfl b1 #[v0, v1, v2, v3, .int .i64 z] rfl H1.out.1.2.1 _ Tryz.underlying36 rfl size_page ?_))
 refine HTW.out.mono ?_
 rintro e w2 ⟨u0, u1, u2, u3, rfl, hpg, hs2⟩
 have H2 := Lib.hid (show PgIs w2 (fun g => b2 < g) [u0, u1, u2, u3] ls ∧ Still w w2 ∧ cellsAt w2 b2 [.slice none 0 0, .slice none 0 0, .slice none 0 0, .slice none 0 0, .int .i64 0] ∧ w2.cell? ⟨b1, 4, none⟩ = some (.int .i64 z) ∧ b2 < w2.heap.size from by
  have hl := H1.out.1.2.2.lt
  exact ⟨hpg.mono fun g hg => by omega, H1.out.1.1.trans hs2, H1.out.1.2.2.only hs2 fun e => e, Still.cell hs2 k4, by have := hs2.size; omega⟩)
 have HONE := Lib.hid (show (#[u0, u1, u2, u3, .int .i64 z] : Array Value).toList.all (·.oneCell') = true from by
  have := pg_one hpg
  rw [List.all_eq_true]
  intro y hy
  simp only [List.mem_cons, List.not_mem_nil, or_false] at hy
  rcases hy with rfl | rfl | rfl | rfl | rfl
  · exact this _ (by simp)
  · exact this _ (by simp)
  · exact this _ (by simp)
  · exact this _ (by simp)
  · rfl)
 have HC9 := Lib.hid (fun tt => cellsAt_new w2 [.slice none 0 0, .slice none 0 0, .slice none 0 0, .slice none 0 0, .int .i64 0] tt)
 clear hpg hs2 k4 HTW
 go_upto_region 2 with ((with_reducible (show wpList _ _ _ ({ dst := none, op := Op.store 36 _ _, type := _, pos := _, after := _, guard := _ } :: _) _ _)); (refine wpList_storeAgg rfl 36 _ _ rfl w2.heap.size #[u0, u1, u2, u3, .int .i64 z] rfl rfl (HC9.out _) size_page rfl HONE.out ?_; intro w3 hcf hof hzf; have H3 := Lib.hid (And.intro hcf (And.intro hof hzf)); clear hcf hof hzf))
 obtain ⟨b9, hb9⟩ : ∃ b, w2.heap.size = b := ⟨_, rfl⟩
 rw [hb9] at H3
 rw [hb9]
 have e23 : Only (fun g => g = b9) w2 w3 := ((Only.refl _ _).alloc _).trans H3.out.2.1
 have H4 := Lib.hid (show b2 < b9 ∧ Still w w3 ∧ cellsAt w3 b2 [.slice none 0 0, .slice none 0 0, .slice none 0 0, .slice none 0 0, .int .i64 0] ∧ cellsAt w3 b9 [u0, u1, u2, u3, .int .i64 z] ∧ PgIs w3 (fun g => b2 < g ∧ g ≠ b9) [u0, u1, u2, u3] ls from by
  obtain ⟨q1, q2, q3, q4, q5⟩ := H2.out
  refine ⟨by omega, q2.andThen e23 fun g hg e => ?_, q3.only e23 fun e => ?_, H3.out.1, ⟨q1.n, q1.m, fun j u l h1 h2 => ?_⟩⟩
  · have := q2.size; have e' : g = b9 := e; omega
  · have e' : b2 = b9 := e; omega
  · exact ((q1.at_ j u l h1 h2).low.mono (R := fun g => b2 < g ∧ g ≠ b9) fun g hg => ⟨hg.1, by have := hg.2; omega⟩).only e23 fun g hg e => hg.2 e)
 have k4 : w3.cell? ⟨b1, 4, none⟩ = some (.int .i64 z) := (e23.cell (p := ⟨b1, 4, none⟩) (lt_of_cell H2.out.2.2.2.1) (fun e => by have e' : b1 = b9 := e; have := H1.out.2; have := H2.out.2.2.2.2; omega)).trans H2.out.2.2.2.1
 clear e23 HC9 H3 H2 hb9
 have HCL := Lib.hid (clone_b (.slice xa bl.length xc) bl.length (bc bl) w3 (HH.out.2.2.1.still H4.out.2.1).reads (bc_one _) HH.out.2.2.2)
 go_upto_region 3 with fail
 go_wp2_with fail
 refine HCL.out.mono ?_
 rintro e w4 ⟨xx, rfl, hxx, hbx, hfx⟩
 have hs4 : Still w3 w4 := Still.of hbx
 have hc94 := H4.out.2.2.2.1.only hs4 fun e => e
 obtain ⟨uk, huk⟩ : ∃ u, [u0, u1, u2, u3][k]? = some u := ⟨_, List.getElem?_eq_getElem (by have := HK.out; simp; omega)⟩
 have c1 : w4.cell? ⟨b9, k, none⟩ = some uk := by
  rw [hc94.cell k, show ([u0, u1, u2, u3, .int .i64 z] : List Value) = [u0, u1, u2, u3] ++ [.int .i64 z] from rfl, List.getElem?_append_left (by have := HK.out; simp; omega)]
  exact huk
 have c2 : w4.cell? ⟨b9, 4, none⟩ = some (.int .i64 z) := hc94.cell 4
 have f1 : w4.frozen? ⟨b9, k, none⟩ = false := hc94.free k
 have f2 : w4.frozen? ⟨b9, 4, none⟩ = false := hc94.free 4
 have hk4 : ¬ k = 4 := by have := HK.out; omega
 obtain ⟨t0, t1, t2, t3, htt⟩ : ∃ t0 t1 t2 t3, [u0, u1, u2, u3].set k xx = [t0, t1, t2, t3] := by
  rcases (show k = 0 ∨ k = 1 ∨ k = 2 ∨ k = 3 from by have := HK.out; omega) with rfl | rfl | rfl | rfl <;> exact ⟨_, _, _, _, rfl⟩
 have H5 := Lib.hid (show Still w ((w4.setCell ⟨b9, k, none⟩ xx).setCell ⟨b9, 4, none⟩ (.int .i64 y)) ∧ cellsAt ((w4.setCell ⟨b9, k, none⟩ xx).setCell ⟨b9, 4, none⟩ (.int .i64 y)) b2 [.slice none 0 0, .slice none 0 0, .slice none 0 0, .slice none 0 0, .int .i64 0] ∧ cellsAt ((w4.setCell ⟨b9, k, none⟩ xx).setCell ⟨b9, 4, none⟩ (.int .i64 y)) b9 [t0, t1, t2, t3, .int .i64 y] ∧ PgIs ((w4.setCell ⟨b9, k, none⟩ xx).setCell ⟨b9, 4, none⟩ (.int .i64 y)) (fun g => b2 < g) [t0, t1, t2, t3] (ls.set k bl) from by
  obtain ⟨q1, q2, q3, q4, q5⟩ := H4.out
  have hb := H1.out.2
  have ho : Only (fun g => g = b9) w4 ((w4.setCell ⟨b9, k, none⟩ xx).setCell ⟨b9, 4, none⟩ (.int .i64 y)) := (setCell_only w4 ⟨b9, k, none⟩ xx).trans (setCell_only _ ⟨b9, 4, none⟩ _)
  have h9 := q4.lt
  refine ⟨(q2.trans hs4).andThen ho fun g hg e => by have e' : g = b9 := e; omega, (q3.only hs4 fun e => e).only ho fun e => by have e' : b2 = b9 := e; omega, ?_, ⟨rfl, by rw [List.length_set]; exact q5.m, fun j u l h1 h2 => ?_⟩⟩
  · have := (hc94.setCell k xx).setCell 4 (.int .i64 y)
    rw [show ([u0, u1, u2, u3, .int .i64 z] : List Value) = [u0, u1, u2, u3] ++ [.int .i64 z] from rfl, List.set_append_left _ _ (by have := HK.out; simp; omega), htt] at this
    exact this
  · rw [← htt] at h1
    by_cases e : j = k
    · subst e
      rw [List.getElem?_set_self (by have := HK.out; simp; omega)] at h1
      cases h1
      rw [List.getElem?_set_self (by rw [q5.m]; exact HK.out)] at h2
      cases h2
      exact (Vec.sl (Q := fun g => b2 < g ∧ g ≠ b9) hxx fun g hg => by
       have := hfx g hg
       exact ⟨⟨by omega, by omega⟩, this.2⟩).only ho (fun g hg e => hg.2 e) |>.mono fun g hg => hg.1
    · rw [List.getElem?_set_ne (Ne.symm e)] at h1 h2
      exact (((q5.at_ j u l h1 h2).still hs4).only ho fun g hg e => hg.2 e).mono fun g hg => hg.1)
 have HONE2 := Lib.hid (show (#[t0, t1, t2, t3, .int .i64 y] : Array Value).toList.all (·.oneCell') = true from by
  have := pg_one H5.out.2.2.2
  rw [List.all_eq_true]
  intro y hy
  simp only [List.mem_cons, List.not_mem_nil, or_false] at hy
  rcases hy with rfl | rfl | rfl | rfl | rfl
  · exact this _ (by simp)
  · exact this _ (by simp)
  · exact this _ (by simp)
  · exact this _ (by simp)
  · rfl)
 obtain ⟨xxa, xxc, rfl⟩ := hxx.form'
 clear hxx hbx hfx hs4 hc94 huk htt HONE
 go_upto_region 4 with fail
 generalize (w4.setCell ⟨b9, k, none⟩ _).setCell ⟨b9, 4, none⟩ (.int .i64 y) = w5 at *
 go_wp2_with (first
  | ((with_reducible (show wpList _ _ _ ({ dst := some 31, op := _, type := _, pos := _, after := _, guard := _ } :: _) _ _)); (refine wpList_loadAgg rfl 36 _ rfl b9 #[t0, t1, t2, t3, .int .i64 y] rfl H5.out.2.2.1 _ Tryz.underlying36 rfl size_page ?_))
  | ((with_reducible (show wpList _ _ _ ({ dst := none, op := Op.store 36 _ _, type := _, pos := _, after := _, guard := _ } :: _) _ _)); (refine wpList_storeAgg rfl 36 _ _ rfl b2 #[t0, t1, t2, t3, .int .i64 y] rfl rfl H5.out.2.1 size_page rfl HONE2.out ?_; intro wf hcf hof hzf; have HF := Lib.hid (And.intro hcf (And.intro hof hzf)); clear hcf hof hzf)))
 have z0 : wf.cell? ⟨b2, 0, none⟩ = some t0 := HF.out.1.cell 0
 have z1 : wf.cell? ⟨b2, 1, none⟩ = some t1 := HF.out.1.cell 1
 have z2 : wf.cell? ⟨b2, 2, none⟩ = some t2 := HF.out.1.cell 2
 have z3 : wf.cell? ⟨b2, 3, none⟩ = some t3 := HF.out.1.cell 3
 have z4 : wf.cell? ⟨b2, 4, none⟩ = some (.int .i64 y) := HF.out.1.cell 4
 have FF := Lib.hid (show TwPost w y (ls.set k bl) (.returned (.agg #[t0, t1, t2, t3, .int .i64 y])) wf from by
  have hb := H1.out.2
  exact ⟨t0, t1, t2, t3, rfl, (H5.out.2.2.2.only HF.out.2.1 fun g h e => by have e' : g = b2 := e; omega).mono fun g hg => by omega, H5.out.1.andThen HF.out.2.1 fun g hg e => by have e' : g = b2 := e; omega⟩)
 exact bodyPost_ret (v := .agg #[t0, t1, t2, t3, .int .i64 y]) (by simp [results, Tryz.results45, go_sem, z0, z1, z2, z3, z4]) rfl FF.out
end Go.Proofs.YtlcfoeikamkpmaaGreat

namespace Go.Proofs.YtlcfoeikamkpmaaGreat
open Go.RowKit Go.Wh Go.Maps

def FoPostG (A B : Nat → Prop) (w : World) (t d at_ n st : Nat) (es : List PE) (r : Int × PDk) (en : Ending) (w' : World) : Prop :=
 en = .returned (.int .i64 r.1) ∧ TlX B t d at_ n es (if r.1 = 0 then es.length else st) w' ∧ DgX (Newer A w w') d r.2 w' ∧ Only (fun b => A b ∨ B b) w w'
set_option maxHeartbeats 2000000 in
set_option maxRecDepth 100000 in
theorem force_g {A B : Nat → Prop} {w : World} {t d at_ n st : Nat} {es : List PE} {D : PDk} (h : TlX B t d at_ n es st w) (hd : DgX A d D w) (hab : ∀ g, A g → ¬ B g) (hq : D.dead = false) (hf : D.fine) (hb : D.byt) (hT : D.T.length ≤ 2000) (hn : at_ + n ≤ D.T.length) (hs : ¬ st = es.length) :
 Calls Tryz.prog 86 #[.pointer (some ⟨t, 0, none⟩)] w (FoPostG A B w t d at_ n st es (D.clean at_ (streamB es) n)) := by
 obtain ⟨sv, h1, h2, h3⟩ := h.tl
 have c4 : w.cell? ⟨t, 4, none⟩ = some (.int .i64 es.length) := h1.cells.cell 4
 have c5 : w.cell? ⟨t, 5, none⟩ = some (.int .i64 st) := h1.cells.cell 5
 have H := Lib.hid (And.intro h (And.intro hd (And.intro hab h2)))
 have hqq : ((st : Int) == (es.length : Int)) = false := by simp; omega
 have hS : (streamB es).length ≤ 1000000 := by have := h.len; have := h.n_le; omega
 have HC := Lib.hid (fun w' (k : Still w w') => clean_g w' t d at_ n (streamB es) sv _ _ D (h1.still k) (hd.still k) ⟨fun e => hab t e h2, fun g hg e => hab g e (h3 g hg)⟩ hf hq hT hn (clN_byte hb (streamB_byt h.byt)) hS)
 obtain ⟨R, hR⟩ : ∃ R, R = D.clean at_ (streamB es) n := ⟨_, rfl⟩
 rw [← hR] at HC ⊢
 obtain ⟨r1, r2⟩ := R
 clear h hd hab hn h1 h2 h3 hs hq hf hb hT hS hR
 go_enter Tryz.func86, Tryz.ntmps86
 go_wp2_with fail
 go_quiet (fail)
 have hs2 : Still w (w.drewN nq) := (Still.refl w).drewN _
 have hzd : (w.drewN nq).heap.size = w.heap.size := rfl
 go_wp2_with fail
 refine (HC.out _ hs2).mono ?_
 rintro en w3 ⟨rfl, k1, k2⟩
 have ht3 := (H.out.1.still hs2).only k2 fun g hg e => H.out.2.2.1 g e hg
 have hN3 : Newer A (w.drewN nq) w3 = Newer A w w3 := by
  unfold Newer
  rw [hzd]
 rw [hN3] at k1
 by_cases hr : r1 = 0
 · subst hr
   obtain ⟨sv3, e1, e2, e3⟩ := ht3.tl
   have g4 : w3.cell? ⟨t, 4, none⟩ = some (.int .i64 es.length) := e1.cells.cell 4
   have g5 : w3.cell? ⟨t, 5, none⟩ = some (.int .i64 st) := e1.cells.cell 5
   have f5 := e1.cells.free 5
   have F := Lib.hid (show FoPostG A B w t d at_ n st es (0, r2) (.returned (.int .i64 0)) (w3.setCell ⟨t, 5, none⟩ (.int .i64 es.length)) from by
    have hs5 := setCell_only w3 ⟨t, 5, none⟩ (.int .i64 es.length)
    have hzz : (w3.setCell ⟨t, 5, none⟩ (.int .i64 es.length)).heap.size = w3.heap.size := by simp [World.setCell]
    have hAl := H.out.2.1.lt
    have htA : ¬ A t := fun e => H.out.2.2.1 t e H.out.2.2.2
    have htl : t < w.heap.size := H.out.1.lt t H.out.2.2.2
    refine ⟨rfl, ⟨⟨sv3, ⟨e1.cells.setCell 5 _, e1.s.only hs5 fun g hg e => (e1.st_ g hg).1 e, e1.byt, fun g hg => ⟨(e1.st_ g hg).1, by rw [hzz]; exact (e1.st_ g hg).2⟩⟩, e2, e3⟩, fun g hg => by rw [hzz]; exact ht3.lt g hg, ht3.len, ht3.n_le, ht3.may, ht3.byt, Nat.le_refl _⟩, ?_, ((hs2.mono fun _ e => e.elim).trans (k2.mono fun _ e => .inl e)).setCell (.inl (.inr H.out.2.2.2)) _⟩
    have := k1.only hs5 fun g hg e => by
     have e' : g = t := e
     rcases hg with hg | hg
     · exact htA (e' ▸ hg)
     · omega
    have heq : Newer A w (w3.setCell ⟨t, 5, none⟩ (.int .i64 es.length)) = Newer A w w3 := by
     unfold Newer
     rw [hzz]
    rw [heq]
    exact this)
   clear k1 k2 ht3 e1 e2 e3 hs2 HC hN3 hzd
   go_wp2_with fail
   go_ret
   exact F.out
 · have qe : (r1 == 0) = false := by rw [beq_eq_false_iff_ne]; exact hr
   have F := Lib.hid (show FoPostG A B w t d at_ n st es (r1, r2) (.returned (.int .i64 r1)) w3 from ⟨rfl, by rw [if_neg hr]; exact ht3, k1, (hs2.mono fun _ e => e.elim).trans (k2.mono fun _ e => .inl e)⟩)
   clear k1 k2 ht3 hs2 HC hN3 hzd
   go_wp2_with fail
   go_ret
   exact F.out
end Go.Proofs.YtlcfoeikamkpmaaGreat

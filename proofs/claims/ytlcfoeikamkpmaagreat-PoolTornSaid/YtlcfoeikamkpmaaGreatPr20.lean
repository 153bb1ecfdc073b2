/- A tile's number; the page's bytes of two tiles. Conditions: the tiles lie in memory. The page's number and bytes of two tiles. Conditions: the tiles lie in memory. What a cell says, and what is wrong with it: plain. No conditions. A page of its own. Conditions: it lies in memory. -/
import Derived.Test.YtlcfoeikamkpmaaGreatPr19
namespace Go.Proofs.YtlcfoeikamkpmaaGreat
open Go.RowKit Go.Wh Go.Maps

theorem wraps_u32' (n : Int) (h₀ : 0 ≤ n) (h₁ : n < 2 ^ 32) : IntKind.u32.wrap n = n := by rw [IntKind.wrap_u32]; omega
theorem or_join32 (v z : Int) (h0 : 0 ≤ v) (h1 : v < 16777216) (z0 : 0 ≤ z) (z1 : z ≤ 255) : bits .or .u32 (v * 256) z = v * 256 + z :=
 bits_join .u32 32 (by decide) wraps_u32' 8 (v * 256) z (by omega) (by omega) (by omega) z0 (by omega) (by omega)
theorem numT_dec (t : List Int) : numT t = decB (t.take 4) := rfl
theorem numT_range {t : List Int} (hb : Byt t) : 0 ≤ numT t ∧ numT t < 4294967296 := by
 have h := decB_range (t.take 4) (hb.take 4)
 rw [← numT_dec] at h
 refine ⟨h.1, Int.lt_of_lt_of_le h.2 ?_⟩
 have hl : (t.take 4).length ≤ 4 := by rw [List.length_take]; omega
 have h4 : (t.take 4).length = 0 ∨ (t.take 4).length = 1 ∨ (t.take 4).length = 2 ∨ (t.take 4).length = 3 ∨ (t.take 4).length = 4 := by omega
 rcases h4 with e | e | e | e | e <;> rw [e] <;> decide
set_option maxHeartbeats 1000000 in
set_option maxRecDepth 100000 in
theorem number_any {Q : Nat → Prop} (w : World) (v : Value) (n : Nat) (l : List Int) (h : Sl w Q 1 v n (bc l)) (hc : Cap n v) (hb : Byt l) (hn : 4 ≤ n) :
 Calls Tryz.prog 140 #[v] w (SamePost w (.int .u32 (numT l))) := by
 have hln : l.length = n := by have := h.1; rw [bc_length] at this; omega
 obtain ⟨pv, -, r1, -, -, hp⟩ := h.part (P := Tryz.prog) (size := 1) 22 Tryz.underlying22 (fun w => rfl) hc (Nat.zero_le 4) hn
 have hp' := hp w Q h
 have e1 : ((bc l).drop (0 * 1)).take ((4 - 0) * 1) = bc (l.take 4) := by unfold bc; rw [Nat.zero_mul, List.drop_zero, List.map_take]
 rw [e1] at hp'
 obtain ⟨a, c, rfl⟩ := h.form
 have r1 : ∀ w, (Instr.slice 22 (.slice a n c) none (some (.int .i64 4)) none).run Tryz.prog w = .ok pv w := r1 rfl
 obtain ⟨g, o, pc, rfl, -, -, hcs⟩ := hp'.pos (by decide)
 have HC := Lib.hid (And.intro hcs (And.intro hb (And.intro hn hln)))
 clear h hc hb hp hp' e1 hcs hn hln
 go_enter Tryz.func140, Tryz.ntmps140
 go_wp2_with fail
 go_loopw [3, 9] (fun s3 s9 wr => ∃ i : Nat, s3 = .int .u32 (decB (l.take i)) ∧ s9 = .int .i64 i ∧ i ≤ 4 ∧ w = wr) (fun _ s9 _ => 4 - (intOf s9).toNat)
 case atStart => exact ⟨0, rfl, rfl, Nat.zero_le _, rfl⟩
 obtain ⟨i, rfl, rfl, hi, rfl⟩ := hrel
 by_cases h4 : i < 4
 rotate_left
 · have e : l.take i = l.take 4 := by rw [show i = 4 by omega]
   have F := Lib.hid (show SamePost w (.int .u32 (numT l)) (.returned (.int .u32 (decB (l.take i)))) w from ⟨by rw [e, numT_dec], rfl⟩)
   have d1 : decide ((i : Int) < 4) = false := decide_eq_false (by omega)
   have d2 : decide (i < 4) = false := decide_eq_false h4
   clear e
   generalize decB (l.take i) = z at *
   go_wp2_with fail
   go_ret
   exact F.out
 have d1 : decide ((i : Int) < 4) = true := decide_eq_true (by omega)
 have d2 : decide (i < 4) = true := decide_eq_true h4
 have i0 : (0 : Int) ≤ (i : Int) := by omega
 have i1 : (i : Int) < 4 := by omega
 have u9 : IntKind.i64.wrap ((i : Int) + 1) = (i : Int) + 1 := IntWalk.i64_in _ (by omega)
 obtain ⟨x, hx⟩ : ∃ x, l[i]? = some x := ⟨_, List.getElem?_eq_getElem (by have := HC.out; omega)⟩
 have hx2 := HC.out.2.1 x (List.mem_of_getElem? hx)
 have p0 : w.cell? ⟨g, o + i, none⟩ = some (.int .u8 x) := HC.out.1 i _ (bc_get (by rw [List.getElem?_take, if_pos h4]; exact hx))
 have hr := decB_range (l.take i) (HC.out.2.1.take i)
 have hz1 : decB (l.take i) < 16777216 := by
  refine Int.lt_of_lt_of_le hr.2 ?_
  have : (l.take i).length = i := by rw [List.length_take]; have := HC.out; omega
  rw [this]
  rcases (show i = 0 ∨ i = 1 ∨ i = 2 ∨ i = 3 from by omega) with e | e | e | e <;> rw [e] <;> decide
 have hz0 := hr.1
 have hnx : decB (l.take (i + 1)) = decB (l.take i) * 256 + x := by rw [List.take_add_one, hx]; exact decB_snoc _ _
 have HNX := Lib.hid hnx
 obtain ⟨z, hz⟩ : ∃ z, decB (l.take i) = z := ⟨_, rfl⟩
 rw [hz] at hz0 hz1 HNX ⊢
 have j1 := or_join32 z x hz0 hz1 hx2.1 hx2.2
 have hx3 := hx2.1
 have hx4 := hx2.2
 have w1 : IntKind.u32.wrap (z * 256) = z * 256 := wraps_u32' _ (by omega) (by omega)
 have w2 : IntKind.u32.wrap x = x := wraps_u32' _ (by omega) (by omega)
 clear hnx hz hr hx
 go_wp2_with fail
 go_roundw
 case rel => exact ⟨i + 1, by rw [HNX.out], by go_num, by omega, by first | trivial | rfl⟩
 case measure => first | (simp [intOf]; done) | (simp [intOf]; omega)
end Go.Proofs.YtlcfoeikamkpmaaGreat

namespace Go.Proofs.YtlcfoeikamkpmaaGreat
open Go.RowKit Go.Wh Go.Maps

def stE (a b : List Int) : Int := if numT a ≠ numT b then 3 else if 2147483647 < numT a then 4 else 0
def StkPost (w : World) (a b : List Int) (e : Ending) (w' : World) : Prop :=
 if stE a b = 0 then ∃ v, e = .returned (.tuple #[.int .i64 (numT a), v, .int .i64 0]) ∧ Vec w' 1 v 120 (bc (a.drop 4 ++ b.drop 4)) ∧ Still w w' ∧ ∀ g, v.ownBlock = some g → w.heap.size ≤ g ∧ g < w'.heap.size
 else e = .returned (.tuple #[.int .i64 0, .slice none 0 0, .int .i64 (stE a b)]) ∧ Still w w'
set_option maxHeartbeats 1000000 in
set_option maxRecDepth 100000 in
theorem stake_any {Q1 Q2 : Nat → Prop} (w : World) (v u : Value) (a b : List Int) (h : Sl w Q1 1 v 64 (bc a)) (hc : Cap 64 v) (hb : Byt a) (k : Sl w Q2 1 u 64 (bc b)) (kc : Cap 64 u) (kb : Byt b) :
 Calls Tryz.prog 95 #[v, u] w (StkPost w a b) := by
 obtain ⟨ti, hi0, hi1, hi2, hi3⟩ := info_parts info_b
 have HI := Lib.hid (And.intro hi0 (And.intro hi1 (And.intro hi2 hi3)))
 have hla : a.length = 64 := by have := h.1; rw [bc_length] at this; omega
 have hlb : b.length = 64 := by have := k.1; rw [bc_length] at this; omega
 obtain ⟨pv, -, -, r1, -, hp⟩ := h.part (P := Tryz.prog) (size := 1) 22 Tryz.underlying22 (fun w => rfl) hc (show 4 ≤ 64 by decide) (Nat.le_refl 64)
 obtain ⟨qv, -, -, r2, -, hq⟩ := k.part (P := Tryz.prog) (size := 1) 22 Tryz.underlying22 (fun w => rfl) kc (show 4 ≤ 64 by decide) (Nat.le_refl 64)
 have hp' := hp w Q1 h
 have hq' := hq w Q2 k
 have e1 : ((bc a).drop (4 * 1)).take ((64 - 4) * 1) = bc (a.drop 4) := by
  unfold bc
  rw [← List.map_drop, List.take_of_length_le (by rw [List.length_map, List.length_drop, hla]; decide)]
 have e2 : ((bc b).drop (4 * 1)).take ((64 - 4) * 1) = bc (b.drop 4) := by
  unfold bc
  rw [← List.map_drop, List.take_of_length_le (by rw [List.length_map, List.length_drop, hlb]; decide)]
 rw [e1] at hp'
 rw [e2] at hq'
 have HN1 := Lib.hid (number_any w v 64 a h hc hb (by decide))
 have HN2 := Lib.hid (number_any w u 64 b k kc kb (by decide))
 have hr := numT_range hb
 have hrb := numT_range kb
 obtain ⟨va, vc, rfl⟩ := h.form
 obtain ⟨ua, uc, rfl⟩ := k.form
 have r1 : ∀ w, (Instr.slice 22 (.slice va 64 vc) (some (.int .i64 4)) none none).run Tryz.prog w = .ok pv w := r1 rfl
 have r2 : ∀ w, (Instr.slice 22 (.slice ua 64 uc) (some (.int .i64 4)) none none).run Tryz.prog w = .ok qv w := r2 rfl
 obtain ⟨pa, pc, rfl⟩ := hp'.form
 obtain ⟨qa, qc, rfl⟩ := hq'.form
 have HP := Lib.hid (And.intro hp' hq')
 obtain ⟨x, hx⟩ : ∃ x, numT a = x := ⟨_, rfl⟩
 obtain ⟨y, hy⟩ : ∃ y, numT b = y := ⟨_, rfl⟩
 have HX := Lib.hid (And.intro hx hy)
 rw [hx] at HN1 hr
 rw [hy] at HN2 hrb
 have x0 := hr.1
 have x1 := hr.2
 have y0 := hrb.1
 have y1 := hrb.2
 clear h hc hb k kc kb hp hq hp' hq' e1 e2 hr hrb hla hlb hx hy hi0 hi1 hi2 hi3
 by_cases hxy : x = y
 rotate_left
 · have F := Lib.hid (show StkPost w a b (.returned (.tuple #[.int .i64 0, .slice none 0 0, .int .i64 3])) w from by
    have e : stE a b = 3 := by
     unfold stE
     rw [if_pos (by rw [HX.out.1, HX.out.2]; exact hxy)]
    unfold StkPost
    rw [e, if_neg (by decide)]
    exact ⟨rfl, Still.refl w⟩)
   have d1 : (x != y) = true := bne_iff_ne.2 hxy
   go_enter Tryz.func95, Tryz.ntmps95
   go_wp2_with fail
   refine HN1.out.mono ?_
   rintro e w2 ⟨rfl, rfl⟩
   go_wp2_with fail
   refine HN2.out.mono ?_
   rintro e w2 ⟨rfl, rfl⟩
   go_wp2_with fail
   go_ret3
   exact F.out
 subst hxy
 by_cases hbig : 2147483647 < x
 · have F := Lib.hid (show StkPost w a b (.returned (.tuple #[.int .i64 0, .slice none 0 0, .int .i64 4])) w from by
    have e : stE a b = 4 := by
     unfold stE
     rw [HX.out.1, HX.out.2, if_neg (fun e => e rfl), if_pos hbig]
    unfold StkPost
    rw [e, if_neg (by decide)]
    exact ⟨rfl, Still.refl w⟩)
   go_enter Tryz.func95, Tryz.ntmps95
   go_wp2_with fail
   refine HN1.out.mono ?_
   rintro e w2 ⟨rfl, rfl⟩
   go_wp2_with fail
   refine HN2.out.mono ?_
   rintro e w2 ⟨rfl, rfl⟩
   go_wp2_with fail
   go_ret3
   exact F.out
 have HS0 := Lib.hid (show stE a b = 0 from by
  unfold stE
  rw [HX.out.1, HX.out.2, if_neg (fun e => e rfl), if_neg hbig])
 have hle : x ≤ 2147483647 := by omega
 have wx : IntKind.i64.wrap x = x := IntWalk.i64_in _ (by omega)
 have wx2 : wrap64 x = x := IntWalk.wrap64_in x ⟨by omega, by omega⟩
 clear hbig
 go_enter Tryz.func95, Tryz.ntmps95
 go_wp2_with fail
 refine HN1.out.mono ?_
 rintro e w2 ⟨rfl, rfl⟩
 go_wp2_with fail
 refine HN2.out.mono ?_
 rintro e w2 ⟨rfl, rfl⟩
 go_upto_region 8 with fail
 refine wp_region_D_drew (D := (fun i => false)) (S := (fun _ => True)) (by kernel_rfl) trivial (fun hHeld => ?_)
 (refine takeS (i := 0) (some 26) (v := ?_) rfl (by rfl) (by rfl) (by kernel_rfl) (by rfl) (fun _ _ _ h => h) hHeld ?_ ?_; rotate_left; (intro w hSw; go_simp; try with_reducible rfl); try go_frame)
 (refine takeS (i := 1) (some 27) (v := ?_) rfl (by rfl) (by rfl) (by kernel_rfl) (by rfl) (fun _ _ _ h => h) hHeld ?_ ?_; rotate_left; (intro w hSw; go_simp; try with_reducible rfl); try go_frame)
 (refine takeS (i := 2) (some 28) (v := ?_) rfl (by rfl) (by rfl) (by kernel_rfl) (by rfl) (fun _ _ _ h => h) hHeld ?_ ?_; rotate_left; (intro w hSw; go_simp; try with_reducible rfl); try go_frame)
 (refine takeS (i := 3) (some 29) (v := ?_) rfl (by rfl) (by rfl) (by kernel_rfl) (by rfl) (fun _ _ _ h => h) hHeld ?_ ?_; rotate_left; (intro w hSw; go_simp; try with_reducible rfl); try go_frame)
 (refine takeS (i := 5) (some 31) (v := ?_) rfl (by rfl) (by rfl) (by kernel_rfl) (by rfl) (fun _ _ _ h => h) hHeld ?_ ?_; rotate_left; (intro w hSw; go_simp; try with_reducible rfl); try go_frame)
 (refine takeS (i := 6) (some 32) (v := ?_) rfl (by rfl) (by rfl) (by kernel_rfl) (by rfl) (fun _ _ _ h => h) hHeld ?_ ?_; rotate_left; (intro w hSw; go_simp; try with_reducible rfl); try go_frame)
 refine wpAnyD_ready (rs := [4]) (by kernel_rfl) (by simp) ?_
 refine ReadyD.cons rfl (fun K hK => ?_) ?_
 refine step_append_vec rfl _ _ 22 rfl 5 ti _ 1 1 Tryz.underlying22 HI.out.1 HI.out.2.1 HI.out.2.2.1 HI.out.2.2.2 rfl (by decide) (.slice none 0 0) 0 [] rfl (Vec.nil _ _) (.slice pa 60 pc) 60 (bc (a.drop 4)) rfl (HP.out.1.still (still_drew _)).reads (bc_one _) (by decide) (by decide) ?_
 intro v3 w3 hv3 ho3 hb3
 have s3 : Still w2 w3 := (still_drew w2).trans (ho3.mono fun g e => by cases e)
 have f3 : ∀ g, v3.ownBlock = some g → w2.heap.size ≤ g ∧ g < w3.heap.size := fun g hg => by
  rcases hb3 with e | ⟨g', e, h1, h2⟩
  · rw [e] at hg
    cases hg
  · rw [e] at hg
    cases hg
    exact ⟨h1, h2⟩
 obtain ⟨a3, c3, rfl⟩ := hv3.form'
 have H3 := Lib.hid (And.intro hv3 (And.intro s3 f3))
 clear hv3 ho3 hb3 s3 f3
 refine hK.out _ _ trivial (fun _ => ?_)
 (clear hK K; try go_frame)
 refine wpAnyD_ready (rs := [7]) (by kernel_rfl) (by simp) ?_
 refine ReadyD.cons rfl (fun K hK => ?_) ?_
 refine step_append_vec rfl _ _ 22 rfl 5 ti _ 1 1 Tryz.underlying22 HI.out.1 HI.out.2.1 HI.out.2.2.1 HI.out.2.2.2 rfl (by decide) (.slice a3 (0 + 60) c3) (0 + 60) ([] ++ bc (a.drop 4)) rfl H3.out.1 (.slice qa 60 qc) 60 (bc (b.drop 4)) rfl (HP.out.2.still H3.out.2.1).reads (bc_one _) (by decide) (by decide) ?_
 intro v4 w4 hv4 ho4 hb4
 obtain ⟨s4, f4⟩ := append_fresh H3.out.2.1 H3.out.2.2 ho4 hb4
 have F := Lib.hid (show StkPost w2 a b (.returned (.tuple #[.int .i64 x, v4, .int .i64 0])) w4 from by
  unfold StkPost
  rw [if_pos HS0.out, HX.out.1]
  refine ⟨v4, rfl, ?_, s4, f4⟩
  rw [bc_append]
  exact hv4)
 clear hv4 ho4 hb4 s4 f4
 refine hK.out _ _ trivial (fun _ => ?_)
 (clear hK K; try go_frame)
 refine wpAnyD_ready (rs := [8]) (by kernel_rfl) (by simp) ?_
 refine ReadyD.cons rfl (fun K hK => ?_) ?_
 go_simp
 refine hK.out _ _ trivial (fun _ => ?_)
 (clear hK K; try go_frame)
 refine wpAnyD_ready (rs := [9]) (by kernel_rfl) (by simp) ?_
 refine ReadyD.cons rfl (fun K hK => ?_) ?_
 go_simp
 refine hK.out _ _ trivial (fun _ => ?_)
 (clear hK K; try go_frame)
 refine wpAnyD_ready (rs := [10]) (by kernel_rfl) (by simp) ?_
 refine ReadyD.cons rfl (fun K hK => ?_) ?_
 go_simp
 refine hK.out _ _ trivial (fun _ => ?_)
 (clear hK K; try go_frame)
 refine wpAnyD_done (by kernel_rfl) ?_ _
 go_wp2_with fail
 go_ret3
 exact F.out
 all_goals exact ReadyD.nil
end Go.Proofs.YtlcfoeikamkpmaaGreat

namespace Go.Proofs.YtlcfoeikamkpmaaGreat
open Go.RowKit Go.Wh Go.Maps

theorem padB_str {a : List Int} (h : Byt a) (k : Nat) : padB (strOfNums a) k = padT a k := by
 unfold padB padT
 rw [txt_str h, str_size]
 rfl
theorem rowB_str {l : List Int} (h : Byt l) : rowB (ksC l) (ssC l) (vsC l) = 1 :: (padT (partT l 1 8) 8 ++ padT (partT l 10 6) 6 ++ padT (partT l 17 8) 8) := by
 unfold rowB ksC ssC vsC
 rw [padB_str (partT_byt h _ _), padB_str (partT_byt h _ _), padB_str (partT_byt h _ _)]
theorem rowMay_str (l : List Int) : rowMay (ksC l) (ssC l) (vsC l) = !(partT l 1 8).isEmpty := by
 unfold rowMay ksC ssC vsC
 rw [str_size, str_size, str_size, decide_eq_true (partT_len l 1 8), decide_eq_true (partT_len l 10 6), decide_eq_true (partT_len l 17 8), Bool.and_true, Bool.and_true, Bool.and_true]
 cases partT l 1 8 with
 | nil => rfl
 | cons a l => rfl
theorem dec_beq (a b : List Int) : decide (a = b) = (a == b) := by
 by_cases h : a = b
 · subst h
   simp
 · rw [decide_eq_false h, Eq.comm, beq_eq_false_iff_ne]
   exact h
theorem rowT_is {l : List Int} (h : Byt l) : (rowMay (ksC l) (ssC l) (vsC l) && decide (l = rowB (ksC l) (ssC l) (vsC l))) = rowT l := by
 rw [rowMay_str, rowB_str h, dec_beq]
 rfl
theorem stubT_is {l : List Int} (h : Byt l) (hl : l.length = 26) : (stubMay (n1C l) (n2C l) && decide (l = stubB (n1C l) (n2C l))) = stubT l := by
 have p1 := h (l.getD 1 0) (by
  rw [List.getD_eq_getElem?_getD, List.getElem?_eq_getElem (by omega)]
  exact List.getElem_mem _)
 have p2 := h (l.getD 2 0) (by
  rw [List.getD_eq_getElem?_getD, List.getElem?_eq_getElem (by omega)]
  exact List.getElem_mem _)
 unfold stubMay stubT n1C n2C stubB
 rw [decide_eq_true p1.1, decide_eq_true p2.1, Bool.true_and, Bool.and_true, dec_beq]
theorem RdC_err {l : List Int} (h : Byt l) (hl : l.length = 26) : (RdC l).2.2.2 = if cellT l = true then 0 else 4 := by
 have hne : l ≠ [] := fun e => by rw [e] at hl; cases hl
 unfold RdC cellT
 rw [rowT_is h, stubT_is h hl]
 cases hn : nought l with
 | true => rw [if_pos (.inr ⟨hl, rfl⟩)]; rfl
 | false =>
  rw [if_neg (fun e => by
   rcases e with e | e
   · exact hne e
   · cases e.2), if_neg (fun e => e hl)]
  cases rowT l with
  | true => rfl
  | false =>
   cases stubT l with
   | true => rfl
   | false => rfl
theorem cellAt_len {b : List Int} (h : b.length = 120) {i : Nat} (hi : i < 4) : (cellAt b i).length = 26 := by
 unfold cellAt
 rw [List.length_take, List.length_drop]
 omega
theorem cellAt_byt {b : List Int} (h : Byt b) (i : Nat) : Byt (cellAt b i) := (h.drop _).take _
def cellsN (b : List Int) (i : Nat) : List (List Int) := ((List.range i).map fun j => if nought (cellAt b j) then [] else cellAt b j) ++ List.replicate (4 - i) []
theorem cellsN_zero (b : List Int) : cellsN b 0 = [[], [], [], []] := rfl
theorem cellsN_four (b : List Int) : cellsN b 4 = cellsT b := by
 unfold cellsN cellsT
 simp
theorem cellsN_next (b : List Int) {i : Nat} (hi : i < 4) : cellsN b (i + 1) = (cellsN b i).set i (if nought (cellAt b i) then [] else cellAt b i) := by
 unfold cellsN
 have hl : ((List.range i).map fun j => if nought (cellAt b j) then [] else cellAt b j).length = i := by simp
 rw [List.range_succ, List.map_append, List.append_assoc, List.set_append, if_neg (by rw [hl]; omega), hl, Nat.sub_self]
 congr 1
 rw [show 4 - i = (4 - (i + 1)) + 1 by omega, List.replicate_succ]
 rfl
theorem cellsN_keep (b : List Int) {i : Nat} (hi : i < 4) (h : nought (cellAt b i) = true) : cellsN b (i + 1) = cellsN b i := by
 rw [cellsN_next b hi, h, if_pos rfl]
 have hl : ((List.range i).map fun j => if nought (cellAt b j) then [] else cellAt b j).length = i := by simp
 have hx : (cellsN b i)[i]? = some [] := by
  unfold cellsN
  rw [List.getElem?_append_right (by rw [hl]; exact Nat.le_refl _), hl, Nat.sub_self, List.getElem?_replicate, if_pos (by omega)]
 obtain ⟨hi', e⟩ := List.getElem?_eq_some_iff.1 hx
 have := List.set_getElem_self hi'
 rw [e] at this
 exact this
def allC (b : List Int) (i : Nat) : Bool := (List.range i).all fun j => cellT (cellAt b j)
theorem allC_succ (b : List Int) (i : Nat) : allC b (i + 1) = (allC b i && cellT (cellAt b i)) := by
 unfold allC
 rw [List.range_succ, List.all_append]
 simp
theorem allC_no {b : List Int} {i : Nat} (hi : i < 4) (h : cellT (cellAt b i) = false) : allC b 4 = false := by
 unfold allC
 rw [List.all_eq_false]
 exact ⟨i, List.mem_range.2 hi, by rw [h]; decide⟩
theorem takeT_st (a b : List Int) : takeT a b = if stE a b ≠ 0 then (stE a b, PPg.void) else if nought ((a.drop 4 ++ b.drop 4).drop 104) = false then (4, PPg.void) else if allC (a.drop 4 ++ b.drop 4) 4 = false then (4, PPg.void) else (0, ⟨cellsN (a.drop 4 ++ b.drop 4) 4, numT a⟩) := by
 rw [cellsN_four]
 unfold takeT stE allC
 by_cases h1 : numT a ≠ numT b
 · rw [if_pos h1, if_pos h1, if_pos (by decide)]
 · rw [if_neg h1, if_neg h1]
   by_cases h2 : 2147483647 < numT a
   · rw [if_pos h2, if_pos h2, if_pos (by decide)]
   · rw [if_neg h2, if_neg h2]
     rfl
end Go.Proofs.YtlcfoeikamkpmaaGreat

namespace Go.Proofs.YtlcfoeikamkpmaaGreat
open Go.RowKit Go.Wh Go.Maps

theorem size_page : (Tryz.prog.info? 36).map (·.size) = some 5 := by kernel_rfl
def TwPost (w : World) (z : Int) (ls : List (List Int)) (e : Ending) (w' : World) : Prop :=
 ∃ u0 u1 u2 u3, e = .returned (.agg #[u0, u1, u2, u3, .int .i64 z]) ∧ PgIs w' (fun g => w.heap.size ≤ g) [u0, u1, u2, u3] ls ∧ Still w w'
theorem pg_one {w : World} {Q : Nat → Prop} {vs : List Value} {ls : List (List Int)} (h : PgIs w Q vs ls) : ∀ v ∈ vs, v.oneCell' = true := fun v hv => by
 obtain ⟨i, hi⟩ := List.mem_iff_getElem?.1 hv
 have hlt := (List.getElem?_eq_some_iff.1 hi).1
 obtain ⟨l, hl⟩ : ∃ l, ls[i]? = some l := ⟨_, List.getElem?_eq_getElem (by have := h.n; have := h.m; omega)⟩
 obtain ⟨a, c, rfl⟩ := (h.at_ i v l hi hl).form
 rfl
set_option maxHeartbeats 2000000 in
set_option maxRecDepth 100000 in
theorem ltwin_any {Q : Nat → Prop} (w : World) (v0 v1 v2 v3 : Value) (z : Int) (ls : List (List Int)) (h : PgIs w Q [v0, v1, v2, v3] ls) (hlen : ∀ l ∈ ls, l.length ≤ 10000) :
 Calls Tryz.prog 74 #[.agg #[v0, v1, v2, v3, .int .i64 z]] w (TwPost w z ls) := by
 have HH := Lib.hid (And.intro h hlen)
 have HZ := Lib.hid (fun tt tt2 => show Still w ((w.alloc (.cells #[v0, v1, v2, v3, .int .i64 z] tt)).alloc (.cells #[.slice none 0 0, .slice none 0 0, .slice none 0 0, .slice none 0 0, .int .i64 0] tt2)) ∧ cellsAt ((w.alloc (.cells #[v0, v1, v2, v3, .int .i64 z] tt)).alloc (.cells #[.slice none 0 0, .slice none 0 0, .slice none 0 0, .slice none 0 0, .int .i64 0] tt2)) w.heap.size [v0, v1, v2, v3, .int .i64 z] ∧ cellsAt ((w.alloc (.cells #[v0, v1, v2, v3, .int .i64 z] tt)).alloc (.cells #[.slice none 0 0, .slice none 0 0, .slice none 0 0, .slice none 0 0, .int .i64 0] tt2)) (w.heap.size + 1) [.slice none 0 0, .slice none 0 0, .slice none 0 0, .slice none 0 0, .int .i64 0] from by
  have hz : (w.alloc (.cells #[v0, v1, v2, v3, .int .i64 z] tt)).heap.size = w.heap.size + 1 := by simp
  refine ⟨((Still.refl w).alloc _).alloc _, (cellsAt_new w [v0, v1, v2, v3, .int .i64 z] tt).alloc _, ?_⟩
  have := cellsAt_new (w.alloc (.cells #[v0, v1, v2, v3, .int .i64 z] tt)) [.slice none 0 0, .slice none 0 0, .slice none 0 0, .slice none 0 0, .int .i64 0] tt2
  rw [hz] at this
  exact this)
 clear h hlen
 go_enter Tryz.func74, Tryz.ntmps74
 go_upto_region 1 with fail
 have hz := HZ.out 36 36
 clear HZ
 generalize ((w.alloc (.cells #[v0, v1, v2, v3, .int .i64 z] 36)).alloc (.cells #[.slice none 0 0, .slice none 0 0, .slice none 0 0, .slice none 0 0, .int .i64 0] 36)) = w1 at *
 obtain ⟨b1, hb1⟩ : ∃ b, w.heap.size = b := ⟨_, rfl⟩
 obtain ⟨b2, hb2⟩ : ∃ b, w.heap.size + 1 = b := ⟨_, rfl⟩
 rw [hb2, hb1] at hz
 rw [hb2, hb1]
 have k0 : w1.cell? ⟨b1, 0, none⟩ = some v0 := hz.2.1.cell 0
 have k1 : w1.cell? ⟨b1, 1, none⟩ = some v1 := hz.2.1.cell 1
 have k2 : w1.cell? ⟨b1, 2, none⟩ = some v2 := hz.2.1.cell 2
 have k3 : w1.cell? ⟨b1, 3, none⟩ = some v3 := hz.2.1.cell 3
 have H1 := Lib.hid (And.intro hz (And.intro hb1 hb2))
 clear hz hb1 hb2
 go_upto_region 2 with fail
 go_loopw [7] (fun s7 wr => ∃ (i : Nat) (us : List Value), s7 = .int .i64 i ∧ i ≤ 4 ∧ us.length = 4 ∧ Still w wr ∧ cellsAt wr b1 (us ++ [.int .i64 z]) ∧ cellsAt wr b2 [.slice none 0 0, .slice none 0 0, .slice none 0 0, .slice none 0 0, .int .i64 0] ∧ ∀ (j : Nat) (u : Value) (l : List Int), j < i → us[j]? = some u → ls[j]? = some l → Sl wr (fun g => b2 < g) 1 u l.length (bc l)) (fun s7 _ => 4 - (intOf s7).toNat)
 case atStart => exact ⟨0, [v0, v1, v2, v3], rfl, Nat.zero_le _, rfl, H1.out.1.1, H1.out.1.2.1, H1.out.1.2.2, fun j u l hj => by omega⟩
 clear k0 k1 k2 k3
 obtain ⟨i, us, rfl, hin, hus, hs, hc1, hc2, hsl⟩ := hrel
 have HR := Lib.hid (And.intro hus (And.intro hs (And.intro hc1 (And.intro hc2 hsl))))
 by_cases hi : i < 4
 rotate_left
 · have d1 : decide ((i : Int) < 4) = false := decide_eq_false (by omega)
   have d2 : decide (i < 4) = false := decide_eq_false hi
   obtain ⟨u0, u1, u2, u3, rfl⟩ : ∃ u0 u1 u2 u3, us = [u0, u1, u2, u3] := by
    match us, hus with
    | [u0, u1, u2, u3], _ => exact ⟨u0, u1, u2, u3, rfl⟩
   have HPG := Lib.hid (show PgIs wr (fun g => b2 < g) [u0, u1, u2, u3] ls from ⟨rfl, HH.out.1.m, fun j u l h1 h2 => hsl j u l (by have := (List.getElem?_eq_some_iff.1 h1).1; simp at this; omega) h1 h2⟩)
   have HONE := Lib.hid (show (#[u0, u1, u2, u3, .int .i64 z] : Array Value).toList.all (·.oneCell') = true from by
    have := pg_one HPG.out
    rw [List.all_eq_true]
    intro x hx
    simp only [List.mem_cons, List.not_mem_nil, or_false] at hx
    rcases hx with rfl | rfl | rfl | rfl | rfl
    · exact this _ (by simp)
    · exact this _ (by simp)
    · exact this _ (by simp)
    · exact this _ (by simp)
    · rfl)
   clear hs hc1 hc2 hsl hus hi hin
   go_wp2_with (first
    | ((with_reducible (show wpList _ _ _ ({ dst := some 17, op := _, type := _, pos := _, after := _, guard := _ } :: _) _ _)); (refine wpList_loadAgg rfl 36 _ rfl b1 #[u0, u1, u2, u3, .int .i64 z] rfl HR.out.2.2.1 _ Tryz.underlying36 rfl size_page ?_))
    | ((with_reducible (show wpList _ _ _ ({ dst := none, op := Op.store 36 _ _, type := _, pos := _, after := _, guard := _ } :: _) _ _)); (refine wpList_storeAgg rfl 36 _ _ rfl b2 #[u0, u1, u2, u3, .int .i64 z] rfl rfl HR.out.2.2.2.1 size_page rfl HONE.out ?_; intro wf hcf hof hzf; have HF := Lib.hid (And.intro hcf (And.intro hof hzf)); clear hcf hof hzf)))
   have z0 : wf.cell? ⟨b2, 0, none⟩ = some u0 := HF.out.1.cell 0
   have z1 : wf.cell? ⟨b2, 1, none⟩ = some u1 := HF.out.1.cell 1
   have z2 : wf.cell? ⟨b2, 2, none⟩ = some u2 := HF.out.1.cell 2
   have z3 : wf.cell? ⟨b2, 3, none⟩ = some u3 := HF.out.1.cell 3
   have z4 : wf.cell? ⟨b2, 4, none⟩ = some (.int .i64 z) := HF.out.1.cell 4
   have F := Lib.hid (show TwPost w z ls (.returned (.agg #[u0, u1, u2, u3, .int .i64 z])) wf from by
    have h1 := H1.out.2
    refine ⟨u0, u1, u2, u3, rfl, (HPG.out.only HF.out.2.1 fun g h e => by have e' : g = b2 := e; omega).mono fun g hg => by omega, HR.out.2.1.andThen HF.out.2.1 fun g hg e => by have e' : g = b2 := e; omega⟩)
   exact bodyPost_ret (v := .agg #[u0, u1, u2, u3, .int .i64 z]) (by simp [results, Tryz.results74, go_sem, z0, z1, z2, z3, z4]) rfl F.out
 have d1 : decide ((i : Int) < 4) = true := decide_eq_true (by omega)
 have d2 : decide (i < 4) = true := decide_eq_true hi
 have i0 : (0 : Int) ≤ (i : Int) := by omega
 have i1 : (i : Int) < 4 := by omega
 have u9 : IntKind.i64.wrap ((i : Int) + 1) = (i : Int) + 1 := IntWalk.i64_in _ (by omega)
 obtain ⟨v, hv'⟩ : ∃ v, [v0, v1, v2, v3][i]? = some v := ⟨_, List.getElem?_eq_getElem (by simp; omega)⟩
 obtain ⟨l, hl'⟩ : ∃ l, ls[i]? = some l := ⟨_, List.getElem?_eq_getElem (by have := HH.out.1.m; omega)⟩
 obtain ⟨u, hu'⟩ : ∃ u, us[i]? = some u := ⟨_, List.getElem?_eq_getElem (by omega)⟩
 have hix : ∀ w : World, (Instr.index 34 (.agg #[v0, v1, v2, v3]) (.int .i64 (i : Int))).run Tryz.prog w = .ok v w := fun w => by
  rcases (show i = 0 ∨ i = 1 ∨ i = 2 ∨ i = 3 from by omega) with rfl | rfl | rfl | rfl <;> (cases hv'; rfl)
 have HSV := Lib.hid ((HH.out.1.at_ i v l hv' hl').still hs)
 have HCL := Lib.hid (clone_b v l.length (bc l) wr HSV.out.reads (bc_one _) (HH.out.2 l (List.mem_of_getElem? hl')))
 have HL := Lib.hid (And.intro hl' (And.intro hu' hi))
 clear hs hc1 hc2 hsl hus hv' hl' hu' hi hin
 go_wp2_with fail
 refine HCL.out.mono ?_
 rintro e w2 ⟨x, rfl, hx, hbx, hfx⟩
 obtain ⟨hus, hs, hc1, hc2, hsl⟩ := HR.out
 have hs2 : Still wr w2 := Still.of hbx
 have hc12 := hc1.only hs2 fun e => e
 have c1 : w2.cell? ⟨b1, i, none⟩ = some u := by
  rw [hc12.cell i, List.getElem?_append_left (by rw [hus]; exact HL.out.2.2)]
  exact HL.out.2.1
 have f1 : w2.frozen? ⟨b1, i, none⟩ = false := hc12.free i
 have HN := Lib.hid (show (us.set i x).length = 4 ∧ Still w (w2.setCell ⟨b1, i, none⟩ x) ∧ cellsAt (w2.setCell ⟨b1, i, none⟩ x) b1 (us.set i x ++ [.int .i64 z]) ∧ cellsAt (w2.setCell ⟨b1, i, none⟩ x) b2 [.slice none 0 0, .slice none 0 0, .slice none 0 0, .slice none 0 0, .int .i64 0] ∧ ∀ (j : Nat) (u : Value) (l : List Int), j < i + 1 → (us.set i x)[j]? = some u → ls[j]? = some l → Sl (w2.setCell ⟨b1, i, none⟩ x) (fun g => b2 < g) 1 u l.length (bc l) from by
  have hb := H1.out.2
  have hz2 := hs2.size
  have hb2l := hc2.lt
  have ho : Only (fun k => k = b1) w2 (w2.setCell ⟨b1, i, none⟩ x) := setCell_only w2 ⟨b1, i, none⟩ x
  refine ⟨by rw [List.length_set]; exact hus, (hs.trans hs2).andThen ho fun g hg e => by have e' : g = b1 := e; omega, ?_, (hc2.only hs2 fun e => e).only ho fun e => by have e' : b2 = b1 := e; omega, fun j u' l' hj h1 h2 => ?_⟩
  · have := hc12.setCell i x
    rw [List.set_append_left _ _ (by rw [hus]; exact HL.out.2.2)] at this
    exact this
  · by_cases e : j = i
    · subst e
      rw [List.getElem?_set_self (by rw [hus]; exact HL.out.2.2)] at h1
      cases h1
      rw [HL.out.1] at h2
      cases h2
      exact (Vec.sl (Q := fun g => b2 < g) hx fun g hg => by
       have := hfx g hg
       exact ⟨by omega, this.2⟩).only ho fun g hg e => by have e' : g = b1 := e; omega
    · rw [List.getElem?_set_ne (Ne.symm e)] at h1
      exact ((hsl j u' l' (by omega) h1 h2).still hs2).only ho fun g hg e => by have e' : g = b1 := e; omega)
 obtain ⟨xa, xc, rfl⟩ := hx.form'
 clear hx hbx hfx hus hs hc1 hc2 hsl hs2 hc12 HCL
 go_wp2_with fail
 go_roundw
 case rel => exact ⟨i + 1, _, by go_num, by omega, HN.out⟩
 case measure => first | (simp [intOf]; done) | (simp [intOf]; omega)
set_option maxHeartbeats 2000000 in
set_option maxRecDepth 100000 in
theorem ptwin_any {Q : Nat → Prop} (w : World) (v0 v1 v2 v3 : Value) (z : Int) (ls : List (List Int)) (h : PgIs w Q [v0, v1, v2, v3] ls) (hlen : ∀ l ∈ ls, l.length ≤ 10000) :
 Calls Tryz.prog 44 #[.agg #[v0, v1, v2, v3, .int .i64 z]] w (TwPost w z ls) := by
 have HH := Lib.hid (And.intro h hlen)
 have HZ := Lib.hid (fun tt tt2 => show Still w ((w.alloc (.cells #[v0, v1, v2, v3, .int .i64 z] tt)).alloc (.cells #[.slice none 0 0, .slice none 0 0, .slice none 0 0, .slice none 0 0, .int .i64 0] tt2)) ∧ cellsAt ((w.alloc (.cells #[v0, v1, v2, v3, .int .i64 z] tt)).alloc (.cells #[.slice none 0 0, .slice none 0 0, .slice none 0 0, .slice none 0 0, .int .i64 0] tt2)) w.heap.size [v0, v1, v2, v3, .int .i64 z] ∧ cellsAt ((w.alloc (.cells #[v0, v1, v2, v3, .int .i64 z] tt)).alloc (.cells #[.slice none 0 0, .slice none 0 0, .slice none 0 0, .slice none 0 0, .int .i64 0] tt2)) (w.heap.size + 1) [.slice none 0 0, .slice none 0 0, .slice none 0 0, .slice none 0 0, .int .i64 0] from by
  have hz : (w.alloc (.cells #[v0, v1, v2, v3, .int .i64 z] tt)).heap.size = w.heap.size + 1 := by simp
  refine ⟨((Still.refl w).alloc _).alloc _, (cellsAt_new w [v0, v1, v2, v3, .int .i64 z] tt).alloc _, ?_⟩
  have := cellsAt_new (w.alloc (.cells #[v0, v1, v2, v3, .int .i64 z] tt)) [.slice none 0 0, .slice none 0 0, .slice none 0 0, .slice none 0 0, .int .i64 0] tt2
  rw [hz] at this
  exact this)
 clear h hlen
 go_enter Tryz.func44, Tryz.ntmps44
 go_upto_region 1 with fail
 have hz := HZ.out 36 36
 clear HZ
 generalize ((w.alloc (.cells #[v0, v1, v2, v3, .int .i64 z] 36)).alloc (.cells #[.slice none 0 0, .slice none 0 0, .slice none 0 0, .slice none 0 0, .int .i64 0] 36)) = w1 at *
 obtain ⟨b1, hb1⟩ : ∃ b, w.heap.size = b := ⟨_, rfl⟩
 obtain ⟨b2, hb2⟩ : ∃ b, w.heap.size + 1 = b := ⟨_, rfl⟩
 rw [hb2, hb1] at hz
 rw [hb2, hb1]
 have k0 : w1.cell? ⟨b1, 0, none⟩ = some v0 := hz.2.1.cell 0
 have k1 : w1.cell? ⟨b1, 1, none⟩ = some v1 := hz.2.1.cell 1
 have k2 : w1.cell? ⟨b1, 2, none⟩ = some v2 := hz.2.1.cell 2
 have k3 : w1.cell? ⟨b1, 3, none⟩ = some v3 := hz.2.1.cell 3
 have H1 := Lib.hid (And.intro hz (And.intro hb1 hb2))
 clear hz hb1 hb2
 go_upto_region 2 with fail
 go_loopw [7] (fun s7 wr => ∃ (i : Nat) (us : List Value), s7 = .int .i64 i ∧ i ≤ 4 ∧ us.length = 4 ∧ Still w wr ∧ cellsAt wr b1 (us ++ [.int .i64 z]) ∧ cellsAt wr b2 [.slice none 0 0, .slice none 0 0, .slice none 0 0, .slice none 0 0, .int .i64 0] ∧ ∀ (j : Nat) (u : Value) (l : List Int), j < i → us[j]? = some u → ls[j]? = some l → Sl wr (fun g => b2 < g) 1 u l.length (bc l)) (fun s7 _ => 4 - (intOf s7).toNat)
 case atStart => exact ⟨0, [v0, v1, v2, v3], rfl, Nat.zero_le _, rfl, H1.out.1.1, H1.out.1.2.1, H1.out.1.2.2, fun j u l hj => by omega⟩
 clear k0 k1 k2 k3
 obtain ⟨i, us, rfl, hin, hus, hs, hc1, hc2, hsl⟩ := hrel
 have HR := Lib.hid (And.intro hus (And.intro hs (And.intro hc1 (And.intro hc2 hsl))))
 by_cases hi : i < 4
 rotate_left
 · have d1 : decide ((i : Int) < 4) = false := decide_eq_false (by omega)
   have d2 : decide (i < 4) = false := decide_eq_false hi
   obtain ⟨u0, u1, u2, u3, rfl⟩ : ∃ u0 u1 u2 u3, us = [u0, u1, u2, u3] := by
    match us, hus with
    | [u0, u1, u2, u3], _ => exact ⟨u0, u1, u2, u3, rfl⟩
   have HPG := Lib.hid (show PgIs wr (fun g => b2 < g) [u0, u1, u2, u3] ls from ⟨rfl, HH.out.1.m, fun j u l h1 h2 => hsl j u l (by have := (List.getElem?_eq_some_iff.1 h1).1; simp at this; omega) h1 h2⟩)
   have HONE := Lib.hid (show (#[u0, u1, u2, u3, .int .i64 z] : Array Value).toList.all (·.oneCell') = true from by
    have := pg_one HPG.out
    rw [List.all_eq_true]
    intro x hx
    simp only [List.mem_cons, List.not_mem_nil, or_false] at hx
    rcases hx with rfl | rfl | rfl | rfl | rfl
    · exact this _ (by simp)
    · exact this _ (by simp)
    · exact this _ (by simp)
    · exact this _ (by simp)
    · rfl)
   clear hs hc1 hc2 hsl hus hi hin
   go_wp2_with (first
    | ((with_reducible (show wpList _ _ _ ({ dst := some 17, op := _, type := _, pos := _, after := _, guard := _ } :: _) _ _)); (refine wpList_loadAgg rfl 36 _ rfl b1 #[u0, u1, u2, u3, .int .i64 z] rfl HR.out.2.2.1 _ Tryz.underlying36 rfl size_page ?_))
    | ((with_reducible (show wpList _ _ _ ({ dst := none, op := Op.store 36 _ _, type := _, pos := _, after := _, guard := _ } :: _) _ _)); (refine wpList_storeAgg rfl 36 _ _ rfl b2 #[u0, u1, u2, u3, .int .i64 z] rfl rfl HR.out.2.2.2.1 size_page rfl HONE.out ?_; intro wf hcf hof hzf; have HF := Lib.hid (And.intro hcf (And.intro hof hzf)); clear hcf hof hzf)))
   have z0 : wf.cell? ⟨b2, 0, none⟩ = some u0 := HF.out.1.cell 0
   have z1 : wf.cell? ⟨b2, 1, none⟩ = some u1 := HF.out.1.cell 1
   have z2 : wf.cell? ⟨b2, 2, none⟩ = some u2 := HF.out.1.cell 2
   have z3 : wf.cell? ⟨b2, 3, none⟩ = some u3 := HF.out.1.cell 3
   have z4 : wf.cell? ⟨b2, 4, none⟩ = some (.int .i64 z) := HF.out.1.cell 4
   have F := Lib.hid (show TwPost w z ls (.returned (.agg #[u0, u1, u2, u3, .int .i64 z])) wf from by
    have h1 := H1.out.2
    refine ⟨u0, u1, u2, u3, rfl, (HPG.out.only HF.out.2.1 fun g h e => by have e' : g = b2 := e; omega).mono fun g hg => by omega, HR.out.2.1.andThen HF.out.2.1 fun g hg e => by have e' : g = b2 := e; omega⟩)
   exact bodyPost_ret (v := .agg #[u0, u1, u2, u3, .int .i64 z]) (by simp [results, Tryz.results44, go_sem, z0, z1, z2, z3, z4]) rfl F.out
 have d1 : decide ((i : Int) < 4) = true := decide_eq_true (by omega)
 have d2 : decide (i < 4) = true := decide_eq_true hi
 have i0 : (0 : Int) ≤ (i : Int) := by omega
 have i1 : (i : Int) < 4 := by omega
 have u9 : IntKind.i64.wrap ((i : Int) + 1) = (i : Int) + 1 := IntWalk.i64_in _ (by omega)
 obtain ⟨v, hv'⟩ : ∃ v, [v0, v1, v2, v3][i]? = some v := ⟨_, List.getElem?_eq_getElem (by simp; omega)⟩
 obtain ⟨l, hl'⟩ : ∃ l, ls[i]? = some l := ⟨_, List.getElem?_eq_getElem (by have := HH.out.1.m; omega)⟩
 obtain ⟨u, hu'⟩ : ∃ u, us[i]? = some u := ⟨_, List.getElem?_eq_getElem (by omega)⟩
 have hix : ∀ w : World, (Instr.index 34 (.agg #[v0, v1, v2, v3]) (.int .i64 (i : Int))).run Tryz.prog w = .ok v w := fun w => by
  rcases (show i = 0 ∨ i = 1 ∨ i = 2 ∨ i = 3 from by omega) with rfl | rfl | rfl | rfl <;> (cases hv'; rfl)
 have HSV := Lib.hid ((HH.out.1.at_ i v l hv' hl').still hs)
 have HCL := Lib.hid (clone_b v l.length (bc l) wr HSV.out.reads (bc_one _) (HH.out.2 l (List.mem_of_getElem? hl')))
 have HL := Lib.hid (And.intro hl' (And.intro hu' hi))
 clear hs hc1 hc2 hsl hus hv' hl' hu' hi hin
 go_wp2_with fail
 refine HCL.out.mono ?_
 rintro e w2 ⟨x, rfl, hx, hbx, hfx⟩
 obtain ⟨hus, hs, hc1, hc2, hsl⟩ := HR.out
 have hs2 : Still wr w2 := Still.of hbx
 have hc12 := hc1.only hs2 fun e => e
 have c1 : w2.cell? ⟨b1, i, none⟩ = some u := by
  rw [hc12.cell i, List.getElem?_append_left (by rw [hus]; exact HL.out.2.2)]
  exact HL.out.2.1
 have f1 : w2.frozen? ⟨b1, i, none⟩ = false := hc12.free i
 have HN := Lib.hid (show (us.set i x).length = 4 ∧ Still w (w2.setCell ⟨b1, i, none⟩ x) ∧ cellsAt (w2.setCell ⟨b1, i, none⟩ x) b1 (us.set i x ++ [.int .i64 z]) ∧ cellsAt (w2.setCell ⟨b1, i, none⟩ x) b2 [.slice none 0 0, .slice none 0 0, .slice none 0 0, .slice none 0 0, .int .i64 0] ∧ ∀ (j : Nat) (u : Value) (l : List Int), j < i + 1 → (us.set i x)[j]? = some u → ls[j]? = some l → Sl (w2.setCell ⟨b1, i, none⟩ x) (fun g => b2 < g) 1 u l.length (bc l) from by
  have hb := H1.out.2
  have hz2 := hs2.size
  have hb2l := hc2.lt
  have ho : Only (fun k => k = b1) w2 (w2.setCell ⟨b1, i, none⟩ x) := setCell_only w2 ⟨b1, i, none⟩ x
  refine ⟨by rw [List.length_set]; exact hus, (hs.trans hs2).andThen ho fun g hg e => by have e' : g = b1 := e; omega, ?_, (hc2.only hs2 fun e => e).only ho fun e => by have e' : b2 = b1 := e; omega, fun j u' l' hj h1 h2 => ?_⟩
  · have := hc12.setCell i x
    rw [List.set_append_left _ _ (by rw [hus]; exact HL.out.2.2)] at this
    exact this
  · by_cases e : j = i
    · subst e
      rw [List.getElem?_set_self (by rw [hus]; exact HL.out.2.2)] at h1
      cases h1
      rw [HL.out.1] at h2
      cases h2
      exact (Vec.sl (Q := fun g => b2 < g) hx fun g hg => by
       have := hfx g hg
       exact ⟨by omega, this.2⟩).only ho fun g hg e => by have e' : g = b1 := e; omega
    · rw [List.getElem?_set_ne (Ne.symm e)] at h1
      exact ((hsl j u' l' (by omega) h1 h2).still hs2).only ho fun g hg e => by have e' : g = b1 := e; omega)
 obtain ⟨xa, xc, rfl⟩ := hx.form'
 clear hx hbx hfx hus hs hc1 hc2 hsl hs2 hc12 HCL
 go_wp2_with fail
 go_roundw
 case rel => exact ⟨i + 1, _, by go_num, by omega, HN.out⟩
 case measure => first | (simp [intOf]; done) | (simp [intOf]; omega)
end Go.Proofs.YtlcfoeikamkpmaaGreat

/- A disk that may be dead, or armed: write. Conditions: it lies in memory; at most two thousand tiles; the tile is there. A disk that may be dead, or armed: sync, arm, power, dead, read, tiles. Conditions: it lies in memory; at most two thousand tiles. A trail on a disk that may be armed: its tiles are laid. Conditions: both lie in memory; the disk is alive. Whose a block is, by colours: what a step turns, what it makes. No conditions. A disk that is armed. Conditions: it lies in memory; a mask that lies in memory. -/
import Derived.Test.YtlcfoeikamkpmaaGreatPq18
namespace Go.Proofs.YtlcfoeikamkpmaaGreat
open Go.RowKit Go.Wh Go.Maps

section
variable {A X : Nat → Prop} {w w' : World} {d mb : Nat} {D : PDk} {tv : Value} {vs : List Value} {V : Int → Option Value} {pp : Option Nat}
theorem DgAt.grow {A' : Nat → Prop} (h : DgAt A w d D tv mb vs V pp) (ha : ∀ g, A g → A' g) (hl : ∀ g, A' g → g < w.heap.size) : DgAt A' w d D tv mb vs V pp where
 cells := h.cells
 t := h.t
 ins := h.ins
 m := h.m
 wi := h.wi
 wn := h.wn
 pl k mask hp := by
  obtain ⟨b, mv, k1, k2, k3, k4⟩ := h.pl k mask hp
  exact ⟨b, mv, k1, k2, k3.mono fun g hg => ⟨ha g hg.1, hg.2⟩, k4⟩
 pn := h.pn
 dm := h.dm
 td := h.td
 pd := h.pd
 mu g hg := ha g (h.mu g hg)
 ct v hv := ⟨(h.ct v hv).1, fun g hg => ⟨ha g ((h.ct v hv).2 g hg).1, ((h.ct v hv).2 g hg).2⟩⟩
 cw x v hv := ⟨(h.cw x v hv).1, fun g hg => ⟨ha g ((h.cw x v hv).2 g hg).1, ((h.cw x v hv).2 g hg).2⟩⟩
 lt := hl
theorem DgAt.newer (h : DgAt A w d D tv mb vs V pp) (hs : Only X w w') (hx : ∀ g, A g → ¬ X g) : DgAt (Newer A w w') w' d D tv mb vs V pp :=
 (h.only hs hx).grow (fun _ hg => .inl hg) fun g hg => hg.elim (fun e => Nat.lt_of_lt_of_le (h.lt g e) hs.size) fun e => e.2
theorem PDk.wet_same {i : Nat} (h : (D.was i).isSome = true) : D.wet i = D := by
 unfold PDk.wet
 rw [if_pos h]
def DgPostN (A : Nat → Prop) (w : World) (d : Nat) (r : Int × PDk) (e : Ending) (w' : World) : Prop := e = .returned (.int .i64 r.1) ∧ DgX (Newer A w w') d r.2 w' ∧ Only A w w'
end
set_option maxHeartbeats 4000000 in
set_option maxRecDepth 100000 in
theorem write_at {A : Nat → Prop} {w : World} {d mb : Nat} {D : PDk} {tv : Value} {vs : List Value} {V : Int → Option Value} {pp : Option Nat} (h : DgAt A w d D tv mb vs V pp) (hq : D.dead = false) (hf : D.fine) (i : Nat) (l : List Int) (bv : Value) (hi : i < D.T.length) (hT : D.T.length ≤ 2000) (hb : Reads w 1 bv 64 (bc l)) (hbm : ∀ g, bv.ownBlock = some g → ¬ Mu d mb tv pp g) :
 Calls Tryz.prog 14 #[.pointer (some ⟨d, 0, none⟩), .int .i64 i, bv] w (DgPostN A w d (D.laid i l).done) := by
 have hmay : D.may i = 0 := by
  unfold PDk.may
  rw [hq, if_neg (by decide), if_neg (by omega)]
 have HM := Lib.hid (may_at h (i : Int))
 rw [hmay] at HM
 have H := Lib.hid h
 obtain ⟨ba, bcap, rfl⟩ := Reads.form hb
 have HB := Lib.hid (And.intro hb hbm)
 have HF := Lib.hid hf
 obtain ⟨g, o, c, htv, ht⟩ := h.t.form (by omega)
 have HI := Lib.hid (And.intro hi hT)
 subst htv
 have hm := h.m
 have HMB := Lib.hid hm
 have c0 : w.cell? ⟨d, 0, none⟩ = some (.slice (some ⟨g, o, none⟩) D.T.length c) := h.cells.cell 0
 have c1 : w.cell? ⟨d, 1, none⟩ = some (.map (some mb)) := h.cells.cell 1
 obtain ⟨v, hv⟩ : ∃ v, vs[i]? = some v := ⟨_, List.getElem?_eq_getElem (by have := ht.len; omega)⟩
 obtain ⟨lo, hlo⟩ : ∃ lo, D.T[i]? = some lo := ⟨_, List.getElem?_eq_getElem hi⟩
 have cv : w.cell? ⟨g, o + i, none⟩ = some v := by rw [ht.cells i (by omega)]; exact hv
 have b1 : (0 : Int) ≤ (i : Int) := by omega
 have b2 : (i : Int) < (D.T.length : Int) := by omega
 have hl : (Instr.lookup 80 (.map (some mb)) (.int .i64 (i : Int)) true).run Tryz.prog w = .ok (.tuple #[(V (i : Int)).getD (.slice none 0 0), .bool (V (i : Int)).isSome]) w :=
  hm.lookup (int_keyed Tryz.underlying3) Tryz.underlying80 (intK i (by omega)) (z := .slice none 0 0) (by kernel_rfl) true
 have HG := Lib.hid (show g ≠ mb ∧ g ≠ d ∧ d ≠ mb from ⟨(h.td g rfl).2, (h.td g rfl).1, h.dm⟩)
 have HVI := Lib.hid (And.intro hv hlo)
 obtain ⟨TL, hTL⟩ : ∃ TL, D.T.length = TL := ⟨_, rfl⟩
 have HTL := Lib.hid hTL
 rw [hTL] at c0 b2
 clear h hb hbm ht hm hv hi hT hlo hTL hf hq hmay
 go_enter Tryz.func14, Tryz.ntmps14
 go_wp2_with fail
 refine HM.out.mono ?_
 rintro e w1 ⟨rfl, rfl⟩
 go_upto_if 29 with fail
 go_cut [8, 9] (fun _ _ wc => ∃ V', DgAt A wc d (D.wet i) (.slice (some ⟨g, o, none⟩) D.T.length c) mb vs V' pp ∧ Only (fun b => b = mb) w1 wc)
 case first =>
  cases hov : V (i : Int) with
  | some u =>
   have FM := Lib.hid (show ∃ V', DgAt A w1 d (D.wet i) (.slice (some ⟨g, o, none⟩) D.T.length c) mb vs V' pp ∧ Only (fun b => b = mb) w1 w1 from ⟨V, by
    rw [PDk.wet_same (by rw [← H.out.was i, hov]; rfl)]
    exact H.out, Only.refl _ _⟩)
   clear hl hov
   go_wp2_with fail
   go_meet
   case rel => exact FM.out
  | none =>
   have HOV := Lib.hid hov
   clear hl hov
   go_wp2_with fail
   go_still_tail 12, (by kernel_rfl)
   change wpList _ _ _ _ _ w1.drew
   refine wpList_mapUpdate_k rfl _ _ _ _ rfl 22 (int_keyed Tryz.underlying3) (fun x y h => by injection h) Tryz.underlying80 rfl (HMB.out.block rfl : kmap w1.drew _ _ _ _ _) (i : Int) rfl ⟨_, intK i (by have := HI.out; omega)⟩ _ rfl ?_
   intro w3 hk3 hg3 hs3
   have F := Lib.hid (show ∃ V', DgAt A w3 d (D.wet i) (.slice (some ⟨g, o, none⟩) D.T.length c) mb vs V' pp ∧ Only (fun b => b = mb) w1 w3 from by
    have ho3 : Only (fun b => b = mb) w1 w3 := Only.undrew (Only.grown hg3 fun j e => (Option.some.inj e).symm)
    exact ⟨_, H.out.keep HVI.out.2 HVI.out.1 HOV.out hk3 ho3, ho3⟩)
   clear hk3 hg3 hs3
   go_wp2_with fail
   go_meet
   case rel => exact F.out
 case rest =>
  obtain ⟨V', h2, ho⟩ := hcut
  have H2 := Lib.hid h2
  have HO := Lib.hid ho
  have c0' : wc.cell? ⟨d, 0, none⟩ = some (.slice (some ⟨g, o, none⟩) TL c) := by rw [← HTL.out]; exact h2.cells.cell 0
  have hb2 : Reads wc 1 (.slice ba 64 bcap) 64 (bc l) := Reads.only HB.out.1 ho fun g' hg' e => HB.out.2 g' hg' (.inr (.inl e))
  have cv2 : wc.cell? ⟨g, o + i, none⟩ = some v := (Only.cell ho (World.block_lt_of_cell? _ _ cv) HG.out.1).trans cv
  have HCL := Lib.hid (fun w' (hs : Still wc w') => clone_b (.slice ba 64 bcap) 64 (bc l) w' (Reads.still hb2 hs) (bc_one l) (by omega))
  have SS := Lib.hid (fun w' (hs : Still wc w') => show w'.cell? ⟨d, 0, none⟩ = some (.slice (some ⟨g, o, none⟩) TL c) from Still.cell hs c0')
  have HCV := Lib.hid cv2
  have hwT : (D.wet i).T = D.T := rfl
  have hfr : ∀ w', Still wc w' → w'.frozen? ⟨g, o + i, none⟩ = false := fun w' hs => by
   obtain ⟨g', o', c', he, ht⟩ := (h2.still hs).t.form (by rw [hwT]; have := HI.out; omega)
   injection he with he _ _
   injection he with he
   injection he with e1 e2
   subst e1 e2
   exact ht.free i (by rw [hwT]; have := HI.out; omega)
  have HFR := Lib.hid hfr
  clear h2 ho hb2 hfr cv cv2 hl c0 c1 hwT
  go_wp2_with fail
  refine wp_region_D_drew (D := (fun i => [0, 1, 2, 4, 5, 7, 8].contains i)) (S := (fun w' => w'.cell? ⟨d, 0, none⟩ = some (.slice (some ⟨g, o, none⟩) TL c))) (by kernel_rfl) ?_ (fun hHeld => ?_)
  · exact SS.out _ (still_drew _)
  (refine takeD (i := 0) (some 42) (v := ?_) rfl (by rfl) (by rfl) (by kernel_rfl) (by rfl) (fun _ _ _ h => h) ?_ ?_; rotate_left; (intro w; go_simp; try with_reducible rfl); try go_frame)
  (refine takeD (i := 1) (some 43) (v := ?_) rfl (by rfl) (by rfl) (by kernel_rfl) (by rfl) (fun _ _ _ h => h) ?_ ?_; rotate_left; (intro w; go_simp; try with_reducible rfl); try go_frame)
  (refine takeD (i := 2) (some 44) (v := ?_) rfl (by rfl) (by rfl) (by kernel_rfl) (by rfl) (fun _ _ _ h => h) ?_ ?_; rotate_left; (intro w; go_simp; try with_reducible rfl); try go_frame)
  (refine takeD (i := 4) (some 46) (v := ?_) rfl (by rfl) (by rfl) (by kernel_rfl) (by rfl) (fun _ _ _ h => h) ?_ ?_; rotate_left; (intro w; go_simp; try with_reducible rfl); try go_frame)
  (refine takeD (i := 5) (some 47) (v := ?_) rfl (by rfl) (by rfl) (by kernel_rfl) (by rfl) (fun _ _ _ h => h) ?_ ?_; rotate_left; (intro w; go_simp; try with_reducible rfl); try go_frame)
  (refine takeS (i := 3) (some 45) (v := ?_) rfl (by rfl) (by rfl) (by kernel_rfl) (by rfl) (fun _ _ _ h => h) (by assumption) ?_ ?_; rotate_left; (intro w hSw; (try dsimp only at hSw); go_simp; try with_reducible rfl); try go_frame)
  refine wpAnyD_ready (rs := [6]) (by kernel_rfl) (by simp) ?_
  refine ReadyD.cons rfl (fun K hK => ?_) ?_
  go_simp
  (go_at_call 36; (with_reducible refine (HCL.out _ (still_drew wc)).mono ?_); rintro e w3 ⟨v3, rfl, hv3, hb3, hg3⟩)
  have hs3 : Still wc w3 := (still_drew wc).trans (Only.ofBelow hb3)
  go_wp2_with fail
  (refine hK.out _ _ ?_ (fun hNew => ?_); (focus (exact SS.out _ hs3)); clear hHeld; have hHeld := hNew; clear hNew)
  (clear hK K; try go_frame)
  have cv3 := Still.cell hs3 HCV.out
  have f3 := HFR.out _ hs3
  obtain ⟨a3, k3, hv3e⟩ := hv3.form'
  have HP := Lib.hid (show DgAt (Newer A w1 w3) (w3.setCell ⟨g, o + i, none⟩ v3) d (D.laid i l) (.slice (some ⟨g, o, none⟩) D.T.length c) mb (vs.set i v3) V' pp ∧ Only (fun b => b = mb ∨ b = g) w1 (w3.setCell ⟨g, o + i, none⟩ v3) ∧ (w3.setCell ⟨g, o + i, none⟩ v3).heap.size = w3.heap.size from by
   have hwz := HO.out.size
   have hsz3 := hs3.size
   have hA : ∀ g', A g' → g' < w1.heap.size := H.out.lt
   have hgr : DgAt (Newer A w1 w3) w3 d (D.wet i) (.slice (some ⟨g, o, none⟩) D.T.length c) mb vs V' pp := (H2.out.still hs3).grow (fun g' hg' => .inl hg') fun g' hg' => hg'.elim (fun e => by have := hA g' e; omega) fun e => e.2
   refine ⟨hgr.put rfl HI.out.1 hv3.reads (fun g' hg' => ?_) (by rw [hv3e]; rfl), ?_, by simp [World.setCell]⟩
   · have e1 := hg3 g' hg'
     have hz : wc.drew.heap.size = wc.heap.size := rfl
     exact ⟨.inr ⟨by omega, e1.2⟩, fun e => by have := hA g' (H.out.mu g' e); omega⟩
   · exact ((HO.out.mono fun b e => .inl e).trans (hs3.mono fun _ e => e.elim)).trans ((setCell_only w3 ⟨g, o + i, none⟩ v3).mono fun b e => .inr e))
  clear hv3 hb3 hg3 hs3 HFR
  subst hv3e
  (refine takeD (i := 7) (some 49) (v := ?_) rfl (by rfl) (by rfl) (by kernel_rfl) (by rfl) (fun _ _ _ h => h) ?_ ?_; rotate_left; (intro w; go_simp; try with_reducible rfl); try go_frame)
  refine wpAnyD_ready (rs := [8]) (by kernel_rfl) (by simp) ?_
  refine ReadyD.last rfl (by rfl) (fun K hK => ?_) ?_
  go_simp
  refine hK.out _ _ ?_
  (clear hK K; try go_frame)
  refine wpAnyD_done (by kernel_rfl) ?_ _
  rotate_left
  exact ReadyD.nil
  exact ReadyD.nil
  clear cv3 f3 hHeld
  obtain ⟨hp, hpo, hpz⟩ := HP.out
  have hfine : (D.laid i l).fine := HF.out
  have HCU := Lib.hid (cut_at hp hfine)
  have HPO := Lib.hid (And.intro hpo hpz)
  generalize (w3.setCell ⟨g, o + i, none⟩ (.slice a3 64 k3)) = w4 at *
  clear hp hpo hpz HP
  have HW := Lib.hid (show ∀ w' : World, Only (fun b => b = d ∨ b = mb ∨ b = g ∨ pp = some b) w4 w' → Only A w1 w' ∧ ∀ g', Newer A w1 w3 g' → Newer A w1 w' g' ∧ g' < w'.heap.size from fun w' hw' => by
   have hmu := H.out.mu
   have hsz := hw'.size
   have e3 : w4.heap.size = w3.heap.size := HPO.out.2
   refine ⟨(HPO.out.1.mono fun b e => e.elim (fun e => hmu b (.inr (.inl e))) fun e => hmu b (.inr (.inr (.inl (by rw [e]; rfl))))).trans (hw'.mono fun b e => ?_), fun g' hg' => ?_⟩
   · rcases e with e | e | e | e
     · exact hmu b (.inl e)
     · exact hmu b (.inr (.inl e))
     · exact hmu b (.inr (.inr (.inl (by rw [e]; rfl))))
     · exact hmu b (.inr (.inr (.inr e)))
   · have hA := H.out.lt
     have hz1 := HPO.out.1.size
     rcases hg' with e | e
     · have := hA g' e
       exact ⟨.inl e, by omega⟩
     · exact ⟨.inr ⟨e.1, by omega⟩, by omega⟩)
  go_wp2_with fail
  refine HCU.out.mono ?_
  rintro e w5 ⟨rfl, hp5, ho5⟩
  cases hpl : D.plan with
  | none =>
   have hc : (D.laid i l).cuts = false := by unfold PDk.cuts PDk.laid PDk.wet; dsimp only; rw [hpl]
   have hd : (D.laid i l).done = (0, (D.laid i l).less) := by
    unfold PDk.done PDk.less PDk.laid PDk.wet
    dsimp only
    rw [hpl]
    rfl
   have F := Lib.hid (show DgPostN A w1 d (D.laid i l).done (.returned (.int .i64 0)) w5 from by
    have hw := HW.out w5 (ho5.mono fun b e => .inr (.inr (.inr e)))
    rw [hd]
    exact ⟨rfl, ⟨_, _, _, _, _, hp5.grow (fun g' hg' => (hw.2 g' hg').1) fun g' hg' => hg'.elim (fun e => by have := H.out.lt g' e; have := hw.1.size; omega) fun e => e.2⟩, hw.1⟩)
   rw [hc]
   clear hp5 ho5 hc hd HCU hpl
   go_wp2_with fail
   go_ret
   exact F.out
  | some p =>
   obtain ⟨k, mask⟩ := p
   have hc : (D.laid i l).cuts = decide (k - 1 < 0) := by unfold PDk.cuts PDk.laid PDk.wet; dsimp only; rw [hpl]
   have hpl2 : (D.laid i l).less.plan = some (k - 1, mask) := by
    show D.plan.map _ = _
    rw [hpl]
    rfl
   by_cases hk : k - 1 < 0
   · have hd : (D.laid i l).done = (2, (D.laid i l).less.crash mask) := by
      unfold PDk.done PDk.laid PDk.wet
      dsimp only
      rw [hpl]
      dsimp only
      rw [if_pos hk]
      rfl
     rw [hc, decide_eq_true hk]
     obtain ⟨b, mv, hb, hbc, hsl, hby⟩ := hp5.pl _ _ hpl2
     obtain ⟨ma, mc, rfl⟩ := hsl.form
     have c3 : w5.cell? ⟨d, 3, none⟩ = some (.pointer (some ⟨b, 0, none⟩)) := by
      have := hp5.cells.cell 3
      rw [hb] at this
      exact this
     have cm : w5.cell? ⟨b, 1, none⟩ = some (.slice ma mask.length mc) := hbc.cell 1
     have HCR := Lib.hid (crash_at hp5 (by show (D.T.set i l).length ≤ 2000; rw [List.length_set]; exact HI.out.2) ma mc mask (fun _ => hsl) (fun g' hg' e => hg'.2 (.inr (.inr (.inl e)))) rfl hby)
     have HO5 := Lib.hid ho5
     have HD := Lib.hid hd
     clear hp5 ho5 hc hd HCU hpl hpl2 hk hb hbc hsl hby
     generalize mask.length = ml at *
     go_wp2_with fail
     refine HCR.out.mono ?_
     rintro e w6 ⟨rfl, ⟨vs6, hp6⟩, ho6⟩
     have F := Lib.hid (show DgPostN A w1 d (D.laid i l).done (.returned (.int .i64 2)) w6 from by
      rw [HD.out]
      have hw := HW.out w6 ((HO5.out.mono fun b e => .inr (.inr (.inr e))).trans (ho6.mono fun b e => e.elim .inl fun e => .inr (e.elim .inl fun e => .inr (.inl (Option.some.inj e).symm))))
      exact ⟨rfl, ⟨_, _, _, _, _, hp6.grow (fun g' hg' => (hw.2 g' hg').1) fun g' hg' => hg'.elim (fun e => by have := H.out.lt g' e; have := hw.1.size; omega) fun e => e.2⟩, hw.1⟩)
     clear hp6 ho6 HCR
     go_wp2_with fail
     go_ret
     exact F.out
   · have hd : (D.laid i l).done = (0, (D.laid i l).less) := by
      unfold PDk.done PDk.laid PDk.wet
      dsimp only
      rw [hpl]
      dsimp only
      rw [if_neg hk]
     have F := Lib.hid (show DgPostN A w1 d (D.laid i l).done (.returned (.int .i64 0)) w5 from by
      have hw := HW.out w5 (ho5.mono fun b e => .inr (.inr (.inr e)))
      rw [hd]
      exact ⟨rfl, ⟨_, _, _, _, _, hp5.grow (fun g' hg' => (hw.2 g' hg').1) fun g' hg' => hg'.elim (fun e => by have := H.out.lt g' e; have := hw.1.size; omega) fun e => e.2⟩, hw.1⟩)
     rw [hc, decide_eq_false hk]
     clear hp5 ho5 hc hd HCU hpl hpl2 hk
     go_wp2_with fail
     go_ret
     exact F.out
end Go.Proofs.YtlcfoeikamkpmaaGreat

namespace Go.Proofs.YtlcfoeikamkpmaaGreat
open Go.RowKit Go.Wh Go.Maps

section
variable {A X : Nat → Prop} {w w' : World} {d mb : Nat} {D : PDk} {tv : Value} {vs : List Value} {V : Int → Option Value} {pp : Option Nat}
theorem DgAt.dry (h : DgAt A w d D tv mb vs V pp) (hk : kmap w' Tryz.prog 3 (fun z : Int => .int .i64 z) mb (fun _ => none)) (ho : Only (fun b => b = mb) w w') : DgAt A w' d { D with was := fun _ => none } tv mb vs (fun _ => none) pp := by
 have hmu : ∀ g, ¬ Mu d mb tv pp g → ¬ g = mb := fun g hn e => hn (.inr (.inl e))
 exact {
  cells := h.cells.only ho h.dm
  t := h.t.only ho fun g hg e => (h.td g hg).2 e
  ins := fun j l' hj => by
   obtain ⟨u, hu, hr⟩ := h.ins j l' hj
   exact ⟨u, hu, Reads.only hr ho fun g hg => hmu g ((h.ct u (List.mem_of_getElem? hu)).2 g hg).2⟩
  m := hk
  wi := fun x u hu => by cases hu
  wn := fun j _ => rfl
  pl := fun k mask hp => by
   obtain ⟨b, mv, k1, k2, k3, k4⟩ := h.pl k mask hp
   exact ⟨b, mv, k1, k2.only ho (h.pd b k1).2.1, k3.only ho fun g hg => hmu g hg.2, k4⟩
  pn := h.pn
  dm := h.dm
  td := h.td
  pd := h.pd
  mu := h.mu
  ct := h.ct
  cw := fun x u hu => by cases hu
  lt := fun g hg => Nat.lt_of_lt_of_le (h.lt g hg) ho.size }
def PDk.sync (D : PDk) : Int × PDk := if D.dead = true then (2, D) else if D.cuts = true then (2, D.less.crash ((D.plan.map fun p => p.2).getD [])) else (0, { D.less with was := fun _ => none })
def SyPostG (A : Nat → Prop) (w : World) (d : Nat) (r : Int × PDk) (e : Ending) (w' : World) : Prop := e = .returned (.int .i64 r.1) ∧ DgX A d r.2 w' ∧ Only A w w'
set_option maxHeartbeats 2000000 in
set_option maxRecDepth 100000 in
theorem sync_at (h : DgAt A w d D tv mb vs V pp) (hf : D.fine) (hT : D.T.length ≤ 2000) :
 Calls Tryz.prog 69 #[.pointer (some ⟨d, 0, none⟩)] w (SyPostG A w d D.sync) := by
 have c2 : w.cell? ⟨d, 2, none⟩ = some (.bool D.dead) := h.cells.cell 2
 cases hq : D.dead with
 | true =>
  have F := Lib.hid (show SyPostG A w d D.sync (.returned (.int .i64 2)) w from by
   unfold PDk.sync
   rw [if_pos hq]
   exact ⟨rfl, ⟨_, _, _, _, _, h⟩, Only.refl _ _⟩)
  rw [hq] at c2
  clear h hq hf
  go_enter Tryz.func69, Tryz.ntmps69
  go_wp2_with fail
  go_ret
  exact F.out
 | false =>
  rw [hq] at c2
  have HCU := Lib.hid (cut_at h hf)
  have H := Lib.hid (And.intro h hT)
  have HQ := Lib.hid hq
  cases hc : D.cuts with
  | true =>
   have hcc := hc
   unfold PDk.cuts at hcc
   cases hpl : D.plan with
   | none => rw [hpl] at hcc; cases hcc
   | some p =>
    obtain ⟨k, mask⟩ := p
    have hpl2 : D.less.plan = some (k - 1, mask) := by
     show D.plan.map _ = _
     rw [hpl]
     rfl
    have HD := Lib.hid (show D.sync = (2, D.less.crash mask) from by
     unfold PDk.sync
     rw [if_neg (by rw [hq]; decide), if_pos hc, hpl]
     rfl)
    rw [hc] at HCU
    have HPL := Lib.hid hpl2
    clear h hf hq hc hcc hpl hpl2 hT
    go_enter Tryz.func69, Tryz.ntmps69
    go_wp2_with fail
    refine HCU.out.mono ?_
    rintro e w5 ⟨rfl, hp5, ho5⟩
    obtain ⟨b, mv, hb, hbc, hsl, hby⟩ := hp5.pl _ _ HPL.out
    obtain ⟨ma, mc, rfl⟩ := hsl.form
    have c3 : w5.cell? ⟨d, 3, none⟩ = some (.pointer (some ⟨b, 0, none⟩)) := by
     have := hp5.cells.cell 3
     rw [hb] at this
     exact this
    have cm : w5.cell? ⟨b, 1, none⟩ = some (.slice ma mask.length mc) := hbc.cell 1
    have HCR := Lib.hid (crash_at hp5 H.out.2 ma mc mask (fun _ => hsl) (fun g' hg' e => hg'.2 (.inr (.inr (.inl e)))) rfl hby)
    have HO5 := Lib.hid ho5
    clear hp5 ho5 HCU hb hbc hsl hby
    generalize mask.length = ml at *
    go_wp2_with fail
    refine HCR.out.mono ?_
    rintro e w6 ⟨rfl, ⟨vs6, hp6⟩, ho6⟩
    have F := Lib.hid (show SyPostG A w d D.sync (.returned (.int .i64 2)) w6 from by
     have hmu := H.out.1.mu
     rw [HD.out]
     exact ⟨rfl, ⟨_, _, _, _, _, hp6⟩, (HO5.out.mono fun b e => hmu b (.inr (.inr (.inr e)))).trans (ho6.mono fun b e => e.elim (fun e => hmu b (.inl e)) fun e => e.elim (fun e => hmu b (.inr (.inl e))) fun e => hmu b (.inr (.inr (.inl e))))⟩)
    clear hp6 ho6 HCR
    go_wp2_with fail
    go_ret
    exact F.out
  | false =>
   have HD := Lib.hid (show D.sync = (0, { D.less with was := fun _ => none }) from by
    unfold PDk.sync
    rw [if_neg (by rw [hq]; decide), if_neg (by rw [hc]; decide)])
   rw [hc] at HCU
   clear h hf hq hc hT
   go_enter Tryz.func69, Tryz.ntmps69
   go_wp2_with fail
   refine HCU.out.mono ?_
   rintro e w5 ⟨rfl, hp5, ho5⟩
   have c1 : w5.cell? ⟨d, 1, none⟩ = some (.map (some mb)) := hp5.cells.cell 1
   obtain ⟨w6, hrun, hk6, hg6, hs6⟩ := kmap.clear (ty := 0) hp5.m Tryz.underlying80
   have ho6 : Only (fun b => b = mb) w5 w6 := Only.grown hg6 fun j e => (Option.some.inj e).symm
   have F := Lib.hid (show SyPostG A w d D.sync (.returned (.int .i64 0)) w6 from by
    have hmu := H.out.1.mu
    rw [HD.out]
    exact ⟨rfl, ⟨_, _, _, _, _, hp5.dry hk6 ho6⟩, (ho5.mono fun b e => hmu b (.inr (.inr (.inr e)))).trans (ho6.mono fun b e => hmu b (.inr (.inl e)))⟩)
   clear hp5 ho5 HCU hk6 hg6 hs6 ho6
   go_wp2_with fail
   go_ret
   exact F.out
set_option maxRecDepth 10000 in
theorem dead_at (h : DgAt A w d D tv mb vs V pp) : Calls Tryz.prog 28 #[.pointer (some ⟨d, 0, none⟩)] w (SamePost w (.bool D.dead)) := by
 have c2 : w.cell? ⟨d, 2, none⟩ = some (.bool D.dead) := h.cells.cell 2
 generalize D.dead = q at *
 clear h
 go_enter Tryz.func28, Tryz.ntmps28
 go_wp2_with fail
 go_ret
 exact ⟨rfl, rfl⟩
theorem DgAt.cellD {k : Nat} {u : Value} {D' : PDk} {pp' : Option Nat} (h : DgAt A w d D tv mb vs V pp) (hT : D'.T = D.T) (hW : D'.was = D.was) (hc : [tv, .map (some mb), .bool D.dead, ptrV pp].set k u = [tv, .map (some mb), .bool D'.dead, ptrV pp'])
 (hpl : ∀ k mask, D'.plan = some (k, mask) → D.plan = some (k, mask)) (hpn : D'.plan = none → pp' = none) (hpp : ∀ g, pp' = some g → pp = some g) (hps : ∀ k mask, D'.plan = some (k, mask) → pp' = pp) : DgAt A (w.setCell ⟨d, k, none⟩ u) d D' tv mb vs V pp' := by
 have ho := setCell_only w ⟨d, k, none⟩ u
 have hz : (w.setCell ⟨d, k, none⟩ u).heap.size = w.heap.size := by simp [World.setCell]
 have hmu : ∀ g, ¬ Mu d mb tv pp g → ¬ g = d := fun g hn e => hn (.inl e)
 have hmm : ∀ g, Mu d mb tv pp' g → Mu d mb tv pp g := fun g hg => hg.imp id fun e => e.imp id fun e => e.imp id (hpp g)
 obtain ⟨T', was', dead', plan'⟩ := D'
 dsimp only at hT hW
 subst hT hW
 exact {
  cells := by
   have := h.cells.setCell k u
   rw [hc] at this
   exact this
  t := h.t.only ho fun g hg e => (h.td g hg).1 e
  ins := fun j l' hj => by
   obtain ⟨v, hv, hr⟩ := h.ins j l' hj
   exact ⟨v, hv, Reads.only hr ho fun g hg => hmu g ((h.ct v (List.mem_of_getElem? hv)).2 g hg).2⟩
  m := h.m.block (ho.block mb h.m.lt fun e => h.dm (show mb = d from e).symm)
  wi := fun x v hv => by
   obtain ⟨i, l, k1, k2, k3, k4⟩ := h.wi x v hv
   exact ⟨i, l, k1, k2, k3, Reads.only k4 ho fun g hg => hmu g ((h.cw x v hv).2 g hg).2⟩
  wn := h.wn
  pl := fun k' mask hp => by
   obtain ⟨b, mv, k1, k2, k3, k4⟩ := h.pl k' mask (hpl k' mask hp)
   exact ⟨b, mv, (hps k' mask hp).trans k1, k2.only ho (h.pd b k1).1, (k3.only ho fun g hg => hmu g hg.2).mono fun g hg => ⟨hg.1, fun e => hg.2 (hmm g e)⟩, k4⟩
  pn := hpn
  dm := h.dm
  td := h.td
  pd := fun g hg => h.pd g (hpp g hg)
  mu := fun g hg => h.mu g (hmm g hg)
  ct := fun v hv => ⟨(h.ct v hv).1, fun g hg => ⟨((h.ct v hv).2 g hg).1, fun e => ((h.ct v hv).2 g hg).2 (hmm g e)⟩⟩
  cw := fun x v hv => ⟨(h.cw x v hv).1, fun g hg => ⟨((h.cw x v hv).2 g hg).1, fun e => ((h.cw x v hv).2 g hg).2 (hmm g e)⟩⟩
  lt := fun g hg => by rw [hz]; exact h.lt g hg }
set_option maxRecDepth 10000 in
theorem power_at (h : DgAt A w d D tv mb vs V pp) : Calls Tryz.prog 30 #[.pointer (some ⟨d, 0, none⟩)] w (fun e w' => e = .returned (.tuple #[]) ∧ DgX A d { D with dead := false } w' ∧ Only A w w') := by
 have c2 : w.cell? ⟨d, 2, none⟩ = some (.bool D.dead) := h.cells.cell 2
 have f2 := h.cells.free 2
 have F := Lib.hid (show DgX A d { D with dead := false } (w.setCell ⟨d, 2, none⟩ (.bool false)) ∧ Only A w (w.setCell ⟨d, 2, none⟩ (.bool false)) from ⟨⟨_, _, _, _, pp, h.cellD rfl rfl rfl (fun _ _ e => e) h.pn (fun _ e => e) fun _ _ _ => rfl⟩, (setCell_only w ⟨d, 2, none⟩ _).mono fun b e => by rw [show b = d from e]; exact h.mu d (.inl rfl)⟩)
 clear h
 generalize D.dead = q at c2
 go_enter Tryz.func30, Tryz.ntmps30
 go_wp2_with fail
 go_end0
 exact ⟨rfl, F.out⟩
theorem tiles_at (h : DgAt A w d D tv mb vs V pp) : Calls Tryz.prog 33 #[.pointer (some ⟨d, 0, none⟩)] w (SamePost w (.int .i64 D.T.length)) := by
 obtain ⟨a, c, rfl⟩ := h.form
 have c0 : w.cell? ⟨d, 0, none⟩ = some (.slice a D.T.length c) := h.cells.cell 0
 generalize D.T.length = n at *
 clear h
 go_enter Tryz.func33, Tryz.ntmps33
 go_wp2_with fail
 go_ret
 exact ⟨rfl, rfl⟩
set_option maxHeartbeats 1000000 in
theorem read_at (h : DgAt A w d D tv mb vs V pp) (hq : D.dead = false) (i : Nat) (l : List Int) (hi : D.T[i]? = some l) :
 Calls Tryz.prog 31 #[.pointer (some ⟨d, 0, none⟩), .int .i64 i] w (fun e w' => ∃ v, e = .returned (.tuple #[v, .int .i64 0]) ∧ Vec w' 1 v 64 (bc l) ∧ Still w w' ∧ ∀ g, v.ownBlock = some g → w.heap.size ≤ g ∧ g < w'.heap.size) := by
 have hl := (List.getElem?_eq_some_iff.1 hi).1
 have HM := Lib.hid (may_at h (i : Int))
 have hmay : D.may i = 0 := by
  unfold PDk.may
  rw [hq, if_neg (by decide), if_neg (by omega)]
 rw [hmay] at HM
 obtain ⟨v, hv, hr⟩ := h.ins i l hi
 have HC := Lib.hid (clone_b v 64 (bc l) w hr (bc_one l) (by omega))
 obtain ⟨g, o, c, rfl, ht⟩ := h.t.form (by omega)
 have c0 : w.cell? ⟨d, 0, none⟩ = some (.slice (some ⟨g, o, none⟩) D.T.length c) := h.cells.cell 0
 have c1 : w.cell? ⟨g, o + i, none⟩ = some v := by
  rw [ht.cells i (by omega)]
  exact hv
 have b1 : (0 : Int) ≤ (i : Int) := by omega
 have b2 : (i : Int) < (D.T.length : Int) := by omega
 generalize D.T.length = n at *
 clear h hi hl hv hr ht hmay hq
 go_enter Tryz.func31, Tryz.ntmps31
 go_wp2_with fail
 refine HM.out.mono ?_
 rintro e w1 ⟨rfl, rfl⟩
 go_wp2_with fail
 refine HC.out.mono ?_
 rintro e w2 ⟨v2, rfl, hv2, hb2, hg2⟩
 have F := Lib.hid (show ∃ v, (Ending.returned (.tuple #[v2, .int .i64 0])) = .returned (.tuple #[v, .int .i64 0]) ∧ Vec w2 1 v 64 (bc l) ∧ Still w1 w2 ∧ ∀ g, v.ownBlock = some g → w1.heap.size ≤ g ∧ g < w2.heap.size from ⟨v2, rfl, hv2, Only.ofBelow hb2, hg2⟩)
 clear hv2 hb2 hg2 HC HM
 go_wp2_with fail
 go_ret2
 exact F.out
end
end Go.Proofs.YtlcfoeikamkpmaaGreat

namespace Go.Proofs.YtlcfoeikamkpmaaGreat
open Go.RowKit Go.Wh Go.Maps

section
variable {A A' X : Nat → Prop} {w w' w'' : World} {d : Nat} {D : PDk}
theorem DgX.grow (h : DgX A d D w) (ha : ∀ g, A g → A' g) (hl : ∀ g, A' g → g < w.heap.size) : DgX A' d D w := by
 obtain ⟨tv, mb, vs, V, pp, h⟩ := h
 exact ⟨tv, mb, vs, V, pp, h.grow ha hl⟩
theorem DgX.lt (h : DgX A d D w) : ∀ g, A g → g < w.heap.size := by
 obtain ⟨tv, mb, vs, V, pp, h⟩ := h
 exact h.lt
theorem DgX.lens (h : DgX A d D w) {i : Nat} {l : List Int} (hi : D.T[i]? = some l) : l.length = 64 := by
 obtain ⟨tv, mb, vs, V, pp, h⟩ := h
 obtain ⟨v, _, hr⟩ := h.ins i l hi
 have := hr.1
 rw [bc_length] at this
 omega
theorem only_newer (ho : Only A w w') (h2 : Only (Newer A w w') w' w'') : Only A w w'' :=
 ho.andThen h2 fun i hi e => e.elim id fun e => by omega
theorem DgX.next (ho : Only A w w') (hl : ∀ g, A g → g < w.heap.size) (h : DgX (Newer (Newer A w w') w' w'') d D w'') (h2 : Only (Newer A w w') w' w'') : DgX (Newer A w w'') d D w'' := by
 have z1 := ho.size
 have z2 := h2.size
 refine h.grow (fun g hg => ?_) fun g hg => ?_
 · rcases hg with (e | e) | e
   · exact .inl e
   · exact .inr ⟨e.1, by omega⟩
   · exact .inr ⟨by omega, e.2⟩
 · rcases hg with e | e
   · have := hl g e
     omega
   · exact e.2
theorem DgX.fresh (h : DgX A d D w) (hs : Still w w') : DgX (Newer A w w') d D w' := by
 have z := hs.size
 have hl := h.lt
 exact (h.still hs).grow (fun _ hg => .inl hg) fun g hg => hg.elim (fun e => by have := hl g e; omega) fun e => e.2
end
def clN (D : PDk) (at_ : Nat) (S : List Int) : Nat → Int × PDk × Bool
 | 0 => (0, D, false)
 | i + 1 => if (clN D at_ S i).1 ≠ 0 then clN D at_ S i else if (clN D at_ S i).2.1.T[at_ + i]? = some (tileB S i) then clN D at_ S i else
  ((((clN D at_ S i).2.1.laid (at_ + i) (tileB S i)).done).1, (((clN D at_ S i).2.1.laid (at_ + i) (tileB S i)).done).2, true)
def PDk.clean (D : PDk) (at_ : Nat) (S : List Int) (n : Nat) : Int × PDk :=
 if (clN D at_ S n).1 ≠ 0 then ((clN D at_ S n).1, (clN D at_ S n).2.1) else if (clN D at_ S n).2.2 = true then (clN D at_ S n).2.1.sync else (0, (clN D at_ S n).2.1)
theorem clN_err {D : PDk} {at_ : Nat} {S : List Int} {i : Nat} (h : (clN D at_ S i).1 ≠ 0) : ∀ j, clN D at_ S (i + j) = clN D at_ S i
 | 0 => rfl
 | j + 1 => by
  have ih := clN_err h j
  show (if (clN D at_ S (i + j)).1 ≠ 0 then clN D at_ S (i + j) else _) = _
  rw [if_pos (by rw [ih]; exact h)]
  exact ih
theorem PDk.done_ok {D : PDk} (hf : D.fine) (hq : D.dead = false) (h : D.done.1 = 0) : D.done.2.fine ∧ D.done.2.dead = false ∧ D.done.2.T = D.T ∧ D.done.2.was = D.was := by
 unfold PDk.done at h ⊢
 cases hp : D.plan with
 | none =>
  rw [hp] at h
  exact ⟨hf, hq, rfl, rfl⟩
 | some p =>
  obtain ⟨k, mask⟩ := p
  rw [hp] at h
  dsimp only at h ⊢
  split at h
  · cases h
  · rename_i hk
    rw [if_neg hk]
    refine ⟨fun k' mask' he => ?_, hq, rfl, rfl⟩
    have e : D.less.plan = some (k - 1, mask) := by unfold PDk.less; rw [hp]; rfl
    rw [e] at he
    injection he with he
    injection he with e1 e2
    have := hf k mask hp
    omega
theorem PDk.laid_fine {D : PDk} {i : Nat} {l : List Int} (hf : D.fine) : (D.laid i l).fine := hf
theorem PDk.done_T {D : PDk} : D.done.2.T.length = D.T.length := by
 unfold PDk.done
 cases hp : D.plan with
 | none => rfl
 | some p =>
  dsimp only
  split
  · exact crashN_length
  · rfl
theorem clN_len {D : PDk} {at_ : Nat} {S : List Int} : ∀ (i : Nat), (clN D at_ S i).2.1.T.length = D.T.length
 | 0 => rfl
 | i + 1 => by
  unfold clN
  split
  · exact clN_len i
  · split
    · exact clN_len i
    · show (((clN D at_ S i).2.1.laid (at_ + i) (tileB S i)).done).2.T.length = _
      rw [PDk.done_T]
      show ((clN D at_ S i).2.1.T.set _ _).length = _
      rw [List.length_set]
      exact clN_len i
theorem clN_ok {D : PDk} {at_ : Nat} {S : List Int} (hf : D.fine) (hq : D.dead = false) : ∀ (i : Nat), (clN D at_ S i).1 = 0 → (clN D at_ S i).2.1.fine ∧ (clN D at_ S i).2.1.dead = false
 | 0, _ => ⟨hf, hq⟩
 | i + 1, h => by
  unfold clN at h ⊢
  split at h
  · rename_i he
    exact absurd h he
  · rename_i he
    have he : (clN D at_ S i).1 = 0 := by
     by_cases hx : (clN D at_ S i).1 = 0
     · exact hx
     · exact absurd hx he
    have ih := clN_ok hf hq i he
    rw [if_neg (by rw [he]; decide)]
    split at h
    · rename_i hx
      rw [if_pos hx]
      exact ih
    · rename_i hx
      rw [if_neg hx]
      have := PDk.done_ok (D := (clN D at_ S i).2.1.laid (at_ + i) (tileB S i)) ih.1 ih.2 h
      exact ⟨this.1, this.2.1⟩
def ClPostG (A : Nat → Prop) (w : World) (d : Nat) (r : Int × PDk) (e : Ending) (w' : World) : Prop := e = .returned (.int .i64 r.1) ∧ DgX (Newer A w w') d r.2 w' ∧ Only A w w'
def ClRelG (A : Nat → Prop) (w : World) (d : Nat) (D : PDk) (wr : World) : Prop := DgX (Newer A w wr) d D wr ∧ Only A w wr
set_option maxHeartbeats 4000000 in
set_option maxRecDepth 100000 in
theorem clean_g {A : Nat → Prop} (w : World) (t d at_ n : Nat) (S : List Int) (sv : Value) (c st : Nat) (D : PDk) (h : TlAt w t d at_ n S sv c st) (hd : DgX A d D w) (hsep : ¬ A t ∧ ∀ g, sv.ownBlock = some g → ¬ A g) (hf : D.fine) (hq : D.dead = false) (hT : D.T.length ≤ 2000) (hn : at_ + n ≤ D.T.length) (hb : ∀ i l, (clN D at_ S i).2.1.T[at_ + i]? = some l → Byt l) (hS : S.length ≤ 1000000) :
 Calls Tryz.prog 37 #[.pointer (some ⟨t, 0, none⟩)] w (ClPostG A w d (D.clean at_ S n)) := by
 have H := Lib.hid h
 have HSEP := Lib.hid hsep
 have HB := Lib.hid (And.intro hT (And.intro hn (And.intro hb hS)))
 have HF := Lib.hid (And.intro hf hq)
 have HAL := Lib.hid hd.lt
 have c2 : w.cell? ⟨t, 2, none⟩ = some (.int .i64 n) := h.cells.cell 2
 have SS := Lib.hid (fun w' (ho : Only A w w') => show w'.cell? ⟨t, 0, none⟩ = some (.pointer (some ⟨d, 0, none⟩)) ∧ w'.cell? ⟨t, 1, none⟩ = some (.int .i64 at_) from ⟨(h.only ho hsep.1 hsep.2).cells.cell 0, (h.only ho hsep.1 hsep.2).cells.cell 1⟩)
 have H0 := Lib.hid (show ClRelG A w d (clN D at_ S 0).2.1 w from ⟨hd.fresh (Still.refl w), Only.refl _ _⟩)
 clear h hd hT hn hb hS hsep hf hq
 go_enter Tryz.func37, Tryz.ntmps37
 go_wp2_with fail
 go_loopw [3, 13] (fun s3 s13 wr => ∃ (i : Nat), s13 = .int .i64 i ∧ s3 = .bool (clN D at_ S i).2.2 ∧ i ≤ n ∧ (clN D at_ S i).1 = 0 ∧ ClRelG A w d (clN D at_ S i).2.1 wr) (fun _ s13 _ => n - (intOf s13).toNat)
 case atStart => exact ⟨0, rfl, rfl, Nat.zero_le _, rfl, H0.out⟩
 case round =>
  obtain ⟨i, rfl, rfl, hin, hce, hr⟩ := hrel
  have HR := Lib.hid hr
  have HCE := Lib.hid hce
  obtain ⟨hd1, ho1⟩ := hr
  obtain ⟨c0, c1⟩ := SS.out _ ho1
  have hok := clN_ok HF.out.1 HF.out.2 i hce
  have hlen := clN_len (D := D) (at_ := at_) (S := S) i
  have hbi := HB.out.2.2.1 i
  have hce1 : clN D at_ S (i + 1) = (if (clN D at_ S i).2.1.T[at_ + i]? = some (tileB S i) then clN D at_ S i else ((((clN D at_ S i).2.1.laid (at_ + i) (tileB S i)).done).1, (((clN D at_ S i).2.1.laid (at_ + i) (tileB S i)).done).2, true)) := by
   show (if (clN D at_ S i).1 ≠ 0 then _ else _) = _
   rw [if_neg (by rw [hce]; decide)]
  have HX := Lib.hid (And.intro hok (And.intro hlen (And.intro hbi hce1)))
  have hfin : i = n → D.clean at_ S n = if (clN D at_ S i).2.2 = true then (clN D at_ S i).2.1.sync else (0, (clN D at_ S i).2.1) := fun e => by
   subst e
   unfold PDk.clean
   rw [if_neg (by rw [hce]; decide)]
  have HFIN := Lib.hid hfin
  obtain ⟨Ci, hCi⟩ : ∃ C, C = clN D at_ S i := ⟨_, rfl⟩
  have HCI := Lib.hid hCi
  rw [← hCi] at HR HCE HX HFIN hd1
  rw [← hCi]
  obtain ⟨ei, Di, bi⟩ := Ci
  clear hCi hok hlen hbi hce1 hfin hce
  dsimp only at HR HCE HX HFIN hd1
  have HD1 := Lib.hid hd1
  obtain ⟨tv, mb, vs, V, pp, hda⟩ := hd1
  have HDA := Lib.hid hda
  clear hda
  by_cases hi : i < n
  · obtain ⟨l, hl⟩ : ∃ l, Di.T[at_ + i]? = some l := ⟨_, List.getElem?_eq_getElem (by have := HB.out.2.1; have := HX.out.2.1; omega)⟩
    have HL := Lib.hid hl
    have HRD := Lib.hid (fun w' (hs : Still wr w') => show Calls Tryz.prog 31 #[.pointer (some ⟨d, 0, none⟩), .int .i64 ((at_ : Int) + (i : Int))] w' (fun e w'' => ∃ v, e = .returned (.tuple #[v, .int .i64 0]) ∧ Vec w'' 1 v 64 (bc l) ∧ Still w' w'' ∧ ∀ g, v.ownBlock = some g → w'.heap.size ≤ g ∧ g < w''.heap.size) from by
     have := read_at (HDA.out.still hs) HX.out.1.2 (at_ + i) l hl
     rwa [Int.natCast_add] at this)
    have HLB := Lib.hid (show Byt l from HX.out.2.2.1 l hl)
    have b1 : decide ((i : Int) < (n : Int)) = true := by simp; omega
    have b2 : decide (i < n) = true := by simp; omega
    have u9 : IntKind.i64.wrap ((i : Int) + 1) = (i : Int) + 1 := IntWalk.i64_in _ (by have := HB.out; omega)
    have u8 : IntKind.i64.wrap ((at_ : Int) + (i : Int)) = (at_ : Int) + (i : Int) := IntWalk.i64_in _ (by have := HB.out; omega)
    have HS := Lib.hid (Still.refl wr)
    have SSR := Lib.hid (fun w' (hs : Still wr w') => SS.out w' (HR.out.2.trans (hs.mono fun _ e => e.elim)))
    have HIN := Lib.hid hin
    clear hl c2 hin
    go_wp2_with fail
    go_region_held3 (fun w' => w'.cell? ⟨t, 0, none⟩ = some (.pointer (some ⟨d, 0, none⟩)) ∧ w'.cell? ⟨t, 1, none⟩ = some (.int .i64 at_)) (first | exact ⟨c0, c1⟩ | exact SSR.out _ (by assumption))
     (first | (go_at_call 31; (with_reducible refine (HRD.out _ HS.out.drew).mono ?_); rintro e w3 ⟨v3, rfl, hv3, hs3, hg3⟩; have hs3' : Still wr w3 := HS.out.drew.trans hs3))
    have HT3 := Lib.hid (show TlAt w3 t d at_ n S sv c st from (H.out.only HR.out.2 HSEP.out.1 HSEP.out.2).still hs3')
    have hTI := tile_any w3 t d at_ n S sv c st i HT3.out (by have := HB.out; omega) HB.out.2.2.2
    have HV3 := Lib.hid (And.intro hv3 (And.intro hs3' hg3))
    obtain ⟨va, vc, rfl⟩ := hv3.form'
    clear hv3 hs3 hg3 hs3'
    go_wp2_with fail
    refine hTI.mono ?_
    rintro e w4 ⟨v4, rfl, hv4, hb4, hg4⟩
    have hs4 : Still w3 w4 := Only.ofBelow hb4
    have HV4 := Lib.hid (And.intro hv4 (And.intro hs4 hg4))
    have hEQ := equal_any w4 _ v4 64 64 l (tileB S i) (Vec.sl0 (HV3.out.1.only hs4 fun _ _ e => e) (by omega)) (Vec.sl0 hv4 (by omega)) HLB.out (tileB_byt H.out.byt)
    have HOO := Lib.hid (show Still wr w4 from HV3.out.2.1.trans hs4)
    obtain ⟨wa, wc, rfl⟩ := hv4.form'
    clear hv4 hb4 hg4 hs4 hTI
    go_wp2_with fail
    refine hEQ.mono ?_
    rintro e w5 ⟨rfl, rfl⟩
    clear hEQ
    by_cases hlt : l = tileB S i
    · have q : decide (l = tileB S i) = true := decide_eq_true hlt
      rw [q]
      have HN := Lib.hid (show (.bool bi : Value) = .bool (clN D at_ S (i + 1)).2.2 ∧ (clN D at_ S (i + 1)).1 = 0 ∧ ClRelG A w d (clN D at_ S (i + 1)).2.1 w5 from by
       have e := HX.out.2.2.2
       rw [if_pos (by rw [HL.out, hlt])] at e
       rw [e]
       refine ⟨rfl, HCE.out, ?_, HR.out.2.trans (HOO.out.mono fun _ e => e.elim)⟩
       have hz := HOO.out.size
       refine (HD1.out.still HOO.out).grow (fun g hg => hg.imp id fun e => ⟨e.1, by omega⟩) fun g hg => ?_
       rcases hg with e | e
       · have := HD1.out.lt g (.inl e)
         omega
       · exact e.2)
      clear hlt q
      go_wp2_with fail
      go_roundw
      case rel => exact ⟨i + 1, by go_num, HN.out.1, by omega, HN.out.2.1, HN.out.2.2⟩
      case measure => simp [intOf]; omega
    · have q : decide (l = tileB S i) = false := decide_eq_false hlt
      rw [q]
      have HC1 := Lib.hid (show clN D at_ S (i + 1) = (((Di.laid (at_ + i) (tileB S i)).done).1, ((Di.laid (at_ + i) (tileB S i)).done).2, true) from by
       have e := HX.out.2.2.2
       rw [if_neg (by rw [HL.out]; exact fun e => hlt (Option.some.inj e))] at e
       exact e)
      obtain ⟨R, hR⟩ : ∃ R, R = (Di.laid (at_ + i) (tileB S i)).done := ⟨_, rfl⟩
      rw [← hR] at HC1
      have HWR := Lib.hid (fun w' (hs : Still wr w') (hs4 : Still w5 w') => show Calls Tryz.prog 14 #[.pointer (some ⟨d, 0, none⟩), .int .i64 ((at_ : Int) + (i : Int)), .slice wa 64 wc] w' (DgPostN (Newer A w wr) w' d R) from by
       have hdk := HDA.out.still hs
       have hln := HX.out.2.1
       have := write_at hdk HX.out.1.2 HX.out.1.1 (at_ + i) (tileB S i) (.slice wa 64 wc) (by have := HB.out.2.1; omega) (by have := HB.out.1; omega) (HV4.out.1.only hs4 fun _ _ e => e).reads (fun g hg e => by
        have h1 := (HV4.out.2.2 g hg).1
        have h2 := HDA.out.lt g (HDA.out.mu g e)
        have h3 := HV3.out.2.1.size
        omega)
       rw [hR]
       rwa [Int.natCast_add] at this)
      have HFI := Lib.hid (fun w' w'' e (hs : Still wr w') (hp : DgPostN (Newer A w wr) w' d R e w'') => show e = .returned (.int .i64 R.1) ∧ ClRelG A w d R.2 w'' from by
       obtain ⟨h1, h2, h3⟩ := hp
       have hz := hs.size
       have ho3 : Only (Newer A w wr) wr w'' := (hs.mono fun _ e => e.elim).trans h3
       refine ⟨h1, DgX.next HR.out.2 HAL.out (h2.grow (fun g hg => hg.imp id fun e => ⟨by omega, e.2⟩) fun g hg => ?_) ho3, only_newer HR.out.2 ho3⟩
       have hzz := ho3.size
       rcases hg with e | e
       · have := HD1.out.lt g e
         omega
       · exact e.2)
      obtain ⟨k0, k1⟩ := SS.out _ (HR.out.2.trans (HOO.out.mono fun _ e => e.elim))
      have HSO := Lib.hid (fun w'' (hc : ClRelG A w d R.2 w'') => SS.out w'' hc.2)
      clear hlt q c0 c1 hR
      obtain ⟨r1, r2⟩ := R
      dsimp only at HC1 HFI HSO
      go_wp2_with fail
      go_region_held3 (fun w' => w'.cell? ⟨t, 0, none⟩ = some (.pointer (some ⟨d, 0, none⟩)) ∧ w'.cell? ⟨t, 1, none⟩ = some (.int .i64 at_)) (first | exact ⟨k0, k1⟩ | exact HSO.out _ (by assumption))
       (first | (go_at_call 14; (with_reducible refine (HWR.out _ (HOO.out.trans (still_drew _)) (still_drew _)).mono ?_); rintro e w6 hp6; obtain ⟨rfl, hcl⟩ := HFI.out _ _ _ (HOO.out.trans (still_drew _)) hp6; clear hp6))
      have HN := Lib.hid hcl
      clear hcl
      by_cases hr0 : r1 = 0
      · subst hr0
        have HM := Lib.hid (show (.bool true : Value) = .bool (clN D at_ S (i + 1)).2.2 ∧ (clN D at_ S (i + 1)).1 = 0 ∧ ClRelG A w d (clN D at_ S (i + 1)).2.1 w6 from by
         rw [HC1.out]
         exact ⟨rfl, rfl, HN.out⟩)
        go_wp2_with fail
        go_roundw
        case rel => exact ⟨i + 1, by go_num, HM.out.1, by omega, HM.out.2.1, HM.out.2.2⟩
        case measure => simp [intOf]; omega
      · have qe : (r1 == 0) = false := by rw [beq_eq_false_iff_ne]; exact hr0
        have F := Lib.hid (show ClPostG A w d (D.clean at_ S n) (.returned (.int .i64 r1)) w6 from by
         have e1 : (clN D at_ S (i + 1)).1 ≠ 0 := by rw [HC1.out]; exact hr0
         have e2 := clN_err e1 (n - (i + 1))
         rw [show i + 1 + (n - (i + 1)) = n by omega] at e2
         have e3 : D.clean at_ S n = (r1, r2) := by
          unfold PDk.clean
          rw [e2, if_pos e1, HC1.out]
         rw [e3]
         exact ⟨rfl, HN.out⟩)
        have hrn : ¬ r1 = 0 := hr0
        clear hr0
        go_wp2_with fail
        go_ret
        exact F.out
  · have hge : i = n := by omega
    have HGE := Lib.hid (HFIN.out hge)
    subst hge
    have b1 : decide ((i : Int) < (i : Int)) = false := by simp
    cases bi with
    | false =>
     have F := Lib.hid (show ClPostG A w d (D.clean at_ S i) (.returned (.int .i64 0)) wr from by
      rw [HGE.out]
      exact ⟨rfl, HR.out⟩)
     go_wp2_with fail
     go_ret
     exact F.out
    | true =>
     have hSY := sync_at HDA.out HX.out.1.1 (by have := HB.out.1; have := HX.out.2.1; omega)
     have HFS := Lib.hid (fun e w'' (hp : SyPostG (Newer A w wr) wr d Di.sync e w'') => show ClPostG A w d (D.clean at_ S i) e w'' from by
      obtain ⟨h1, h2, h3⟩ := hp
      rw [HGE.out]
      have hz := h3.size
      refine ⟨h1, h2.grow (fun g hg => hg.imp id fun e => ⟨e.1, by omega⟩) fun g hg => ?_, only_newer HR.out.2 h3⟩
      rcases hg with e | e
      · have := HD1.out.lt g (.inl e)
        omega
      · exact e.2)
     go_wp2_with fail
     refine hSY.mono ?_
     intro e w6 hp
     have F := Lib.hid (HFS.out _ _ hp)
     obtain ⟨rfl, -⟩ := hp
     clear hSY
     go_wp2_with fail
     go_ret
     exact F.out
end Go.Proofs.YtlcfoeikamkpmaaGreat

namespace Go.Proofs.YtlcfoeikamkpmaaGreat
open Go.RowKit Go.Wh Go.Maps

def Cs (c : Nat → Nat) (i : Nat) : Nat → Prop := fun g => c g = i
def Low (c : Nat → Nat) (w : World) : Prop := ∀ g, c g ≠ 0 → g < w.heap.size
structure Stp (X K : Nat → Prop) (c c' : Nat → Nat) (w w' : World) : Prop where
 only : Only (fun g => X (c g)) w w'
 old : ∀ g, g < w.heap.size → c' g = c g
 new : ∀ g, w.heap.size ≤ g → c' g = 0 ∨ K (c' g)
 low : Low c' w'
section
variable {X Y K L : Nat → Prop} {c c' c'' : Nat → Nat} {w w' w'' : World} {i j : Nat}
theorem Stp.refl (h : Low c w) : Stp X K c c w w := ⟨Only.refl _ _, fun _ _ => rfl, fun g hg => .inl (Classical.byContradiction fun e => by have := h g e; omega), h⟩
theorem Stp.mono (h : Stp X K c c' w w') (hx : ∀ i, X i → Y i) (hk : ∀ i, K i → L i) : Stp Y L c c' w w' := ⟨h.only.mono fun _ hg => hx _ hg, h.old, fun g hg => (h.new g hg).imp id (hk _), h.low⟩
theorem Stp.trans (h : Stp X K c c' w w') (k : Stp X K c' c'' w' w'') : Stp X K c c'' w w'' := by
 have hz := h.only.size
 refine ⟨h.only.andThen k.only fun g hg e => by rw [← h.old g hg]; exact e, fun g hg => (k.old g (by omega)).trans (h.old g hg), fun g hg => ?_, k.low⟩
 rcases Nat.lt_or_ge g w'.heap.size with h1 | h1
 · rw [k.old g h1]
   exact h.new g hg
 · exact k.new g h1
theorem Stp.still (h : Low c w) (hs : Still w w') : Stp X K c c w w' := by
 refine ⟨hs.mono fun _ e => e.elim, fun _ _ => rfl, fun g hg => .inl (Classical.byContradiction fun e => by have := h g e; omega), fun g hg => ?_⟩
 have := h g hg
 have := hs.size
 omega
theorem Stp.own (h : Low c w) (ho : Only (Cs c i) w w') (hx : X i) : Stp X K c c w w' := by
 refine ⟨ho.mono fun g hg => ?_, fun _ _ => rfl, fun g hg => .inl (Classical.byContradiction fun e => by have := h g e; omega), fun g hg => ?_⟩
 · have e : c g = i := hg
   rw [e]
   exact hx
 · have := h g hg
   have := ho.size
   omega
def recol (c : Nat → Nat) (w w' : World) (i : Nat) : Nat → Nat := fun g => if w.heap.size ≤ g ∧ g < w'.heap.size then i else c g
theorem recol_new (h : Low c w) (hi : i ≠ 0) : Cs (recol c w w' i) i = Newer (Cs c i) w w' := by
 funext g
 apply propext
 unfold Cs recol Newer
 constructor
 · intro e
   split at e
   · rename_i h1
     exact .inr h1
   · exact .inl e
 · intro e
   rcases e with e | e
   · rw [if_neg (fun h1 => by have := h g (by omega); omega)]
     exact e
   · rw [if_pos e]
theorem recol_old (h : Low c w) (hj : j ≠ 0) (hij : j ≠ i) : Cs (recol c w w' i) j = Cs c j := by
 funext g
 apply propext
 unfold Cs recol
 constructor
 · intro e
   split at e
   · exact absurd e.symm hij
   · exact e
 · intro e
   rw [if_neg (fun h1 => by have := h g (by omega); omega)]
   exact e
theorem Stp.newer (h : Low c w) (ho : Only (Cs c i) w w') (hx : X i) (hk : K i) : Stp X K c (recol c w w' i) w w' := by
 have hz := ho.size
 refine ⟨ho.mono fun g hg => ?_, fun g hg => ?_, fun g hg => ?_, fun g hg => ?_⟩
 · have e : c g = i := hg
   rw [e]
   exact hx
 · unfold recol
   rw [if_neg (by omega)]
 · unfold recol
   split
   · exact .inr hk
   · exact .inl (Classical.byContradiction fun e => by have := h g e; omega)
 · unfold recol at hg
   split at hg
   · rename_i h1
     exact h1.2
   · have := h g hg
     omega
theorem Stp.newX (h : Low c w) (ho : Only (fun g => X (c g)) w w') (hk : K i) : Stp X K c (recol c w w' i) w w' := by
 have hz := ho.size
 refine ⟨ho, fun g hg => ?_, fun g hg => ?_, fun g hg => ?_⟩
 · unfold recol
   rw [if_neg (by omega)]
 · unfold recol
   split
   · exact .inr hk
   · exact .inl (Classical.byContradiction fun e => by have := h g e; omega)
 · unfold recol at hg
   split at hg
   · rename_i h1
     exact h1.2
   · have := h g hg
     omega
theorem Stp.owns (h : Low c w) (ho : Only (fun g => X (c g)) w w') : Stp X K c c w w' :=
 ⟨ho, fun _ _ => rfl, fun g hg => .inl (Classical.byContradiction fun e => by have := h g e; omega), fun g hg => by have := h g hg; have := ho.size; omega⟩
theorem Stp.scratch (h : Stp X K c c' w w') {b : Nat} (ho : Only (fun g => g = b) w' w'') (hb : w.heap.size ≤ b) : Stp X K c c' w w'' :=
 ⟨h.only.andThen ho fun g hg e => by have e' : g = b := e; omega, h.old, h.new, fun g hg => Nat.lt_of_lt_of_le (h.low g hg) ho.size⟩
noncomputable def paint (c : Nat → Nat) (N : Nat → Prop) (i : Nat) : Nat → Nat := fun g => open Classical in if N g then i else c g
theorem paint_in {N : Nat → Prop} {g : Nat} (h : N g) : paint c N i g = i := if_pos h
theorem paint_out {N : Nat → Prop} {g : Nat} (h : ¬ N g) : paint c N i g = c g := if_neg h
theorem Stp.paint {N : Nat → Prop} (h : Stp X K c c' w w') (hN : ∀ g, N g → w.heap.size ≤ g ∧ g < w'.heap.size) (hk : K i) : Stp X K c (paint c' N i) w w' := by
 refine ⟨h.only, fun g hg => ?_, fun g hg => ?_, fun g hg => ?_⟩
 · rw [paint_out (fun e => by have := hN g e; omega)]
   exact h.old g hg
 · by_cases e : N g
   · rw [paint_in e]
     exact .inr hk
   · rw [paint_out e]
     exact h.new g hg
 · by_cases e : N g
   · exact (hN g e).2
   · rw [paint_out e] at hg
     exact h.low g hg
theorem Stp.same (h : Stp X K c c' w w') (hl : Low c w) (hj : j ≠ 0) (hk : ¬ K j) : Cs c' j = Cs c j := by
 funext g
 apply propext
 unfold Cs
 rcases Nat.lt_or_ge g w.heap.size with h1 | h1
 · rw [h.old g h1]
 · constructor
   · intro e
     rcases h.new g h1 with h2 | h2
     · omega
     · rw [e] at h2
       exact absurd h2 hk
   · intro e
     have := hl g (by omega)
     omega
theorem Stp.sub (h : Stp X K c c' w w') (hl : Low c w) (hj : j ≠ 0) : ∀ g, Cs c j g → Cs c' j g := fun g hg => by
 have e : c g = j := hg
 have := hl g (by omega)
 exact (h.old g this).trans e
theorem Stp.off (_ : Stp X K c c' w w') (hx : ¬ X j) : ∀ g, Cs c j g → ¬ X (c g) := fun g hg e => by
 have e' : c g = j := hg
 rw [e'] at e
 exact hx e
end
end Go.Proofs.YtlcfoeikamkpmaaGreat

namespace Go.Proofs.YtlcfoeikamkpmaaGreat
open Go.RowKit Go.Wh Go.Maps

def PDk.arm (D : PDk) (k : Int) (mask : List Int) : PDk := { D with plan := if 0 ≤ k then some (k, mask) else none }
section
variable {A X : Nat → Prop} {w w' : World} {d mb : Nat} {D : PDk} {tv : Value} {vs : List Value} {V : Int → Option Value} {pp : Option Nat}
theorem DgAt.unplan (h : DgAt A w d D tv mb vs V pp) : DgAt A (w.setCell ⟨d, 3, none⟩ (.pointer none)) d { D with plan := none } tv mb vs V none :=
 h.cellD rfl rfl rfl (fun _ _ e => by cases e) (fun _ => rfl) (fun _ e => by cases e) fun _ _ e => by cases e
theorem DgAt.replan {b : Nat} {k : Int} {mask : List Int} {mv : Value} (h : DgAt A w d { D with plan := none } tv mb vs V none) (hb : A b) (hbm : b ≠ d ∧ b ≠ mb ∧ tv.ownBlock ≠ some b) (hbc : ∀ v ∈ vs, v.ownBlock ≠ some b) (hbw : ∀ x v, V x = some v → v.ownBlock ≠ some b) (hc : cellsAt w b [.int .i64 k, mv])
 (hm : Sl w (fun g => A g ∧ ¬ Mu d mb tv (some b) g) 1 mv mask.length (bc mask)) (hby : Byt mask) : DgAt A (w.setCell ⟨d, 3, none⟩ (.pointer (some ⟨b, 0, none⟩))) d { D with plan := some (k, mask) } tv mb vs V (some b) := by
 have ho := setCell_only w ⟨d, 3, none⟩ (.pointer (some ⟨b, 0, none⟩))
 have hz : (w.setCell ⟨d, 3, none⟩ (.pointer (some ⟨b, 0, none⟩))).heap.size = w.heap.size := by simp [World.setCell]
 have hmu : ∀ g, ¬ Mu d mb tv none g → ¬ g = d := fun g hn e => hn (.inl e)
 have hmm : ∀ g, Mu d mb tv (some b) g → Mu d mb tv none g ∨ g = b := fun g hg => by
  rcases hg with e | e | e | e
  · exact .inl (.inl e)
  · exact .inl (.inr (.inl e))
  · exact .inl (.inr (.inr (.inl e)))
  · exact .inr (Option.some.inj e).symm
 exact {
  cells := by
   have := h.cells.setCell 3 (.pointer (some ⟨b, 0, none⟩))
   exact this
  t := h.t.only ho fun g hg e => (h.td g hg).1 e
  ins := fun j l' hj => by
   obtain ⟨v, hv, hr⟩ := h.ins j l' hj
   exact ⟨v, hv, Reads.only hr ho fun g hg => hmu g ((h.ct v (List.mem_of_getElem? hv)).2 g hg).2⟩
  m := h.m.block (ho.block mb h.m.lt fun e => h.dm (show mb = d from e).symm)
  wi := fun x v hv => by
   obtain ⟨i, l, k1, k2, k3, k4⟩ := h.wi x v hv
   exact ⟨i, l, k1, k2, k3, Reads.only k4 ho fun g hg => hmu g ((h.cw x v hv).2 g hg).2⟩
  wn := h.wn
  pl := fun k' mask' hp => by
   injection hp with hp
   injection hp with e1 e2
   subst e1 e2
   exact ⟨b, mv, rfl, hc.only ho hbm.1, hm.only ho fun g hg e => hg.2 (.inl e), hby⟩
  pn := fun hn => by cases hn
  dm := h.dm
  td := h.td
  pd := fun g hg => by
   injection hg with hg
   subst hg
   exact hbm
  mu := fun g hg => (hmm g hg).elim (h.mu g) fun e => e ▸ hb
  ct := fun v hv => ⟨(h.ct v hv).1, fun g hg => ⟨((h.ct v hv).2 g hg).1, fun e => (hmm g e).elim ((h.ct v hv).2 g hg).2 fun e => hbc v hv (e ▸ hg)⟩⟩
  cw := fun x v hv => ⟨(h.cw x v hv).1, fun g hg => ⟨((h.cw x v hv).2 g hg).1, fun e => (hmm g e).elim ((h.cw x v hv).2 g hg).2 fun e => hbw x v hv (e ▸ hg)⟩⟩
  lt := fun g hg => by rw [hz]; exact h.lt g hg }
theorem reads_only0 {X : Nat → Prop} {w w' : World} {v : Value} {n : Nat} {xs : List Value} (h : Reads w 1 v n xs) (ho : Only X w w') (hx : 0 < n → ∀ g, v.ownBlock = some g → ¬ X g) : Reads w' 1 v n xs := by
 rcases Nat.eq_zero_or_pos n with rfl | hp
 · have h0 : xs = [] := by
    have := h.1
    rw [Nat.zero_mul, List.length_eq_zero_iff] at this
    exact this
   refine ⟨h.1, ?_⟩
   rcases h.2 with h1 | ⟨a, c, e, -⟩
   · exact .inl h1
   · exact .inr ⟨a, c, e, fun j u hj => by rw [h0] at hj; cases hj⟩
 · exact Reads.only h ho (hx hp)
def ArPost (A : Nat → Prop) (w : World) (d : Nat) (D' : PDk) (e : Ending) (w' : World) : Prop := e = .returned (.tuple #[]) ∧ DgX (Newer A w w') d D' w' ∧ Only A w w'
set_option maxHeartbeats 2000000 in
set_option maxRecDepth 100000 in
theorem arm_at (h : DgAt A w d D tv mb vs V pp) (k : Int) (ma : Option Addr) (m mc : Nat) (mask : List Int) (hm : Reads w 1 (.slice ma m mc) m (bc mask)) (hA : 0 < m → ∀ g, (Value.slice ma m mc).ownBlock = some g → ¬ A g) (hb : Byt mask) (h10 : m ≤ 10000) :
 Calls Tryz.prog 27 #[.pointer (some ⟨d, 0, none⟩), .int .i64 k, .slice ma m mc] w (ArPost A w d (D.arm k mask)) := by
 have hml : mask.length = m := by have := hm.1; rw [bc_length] at this; omega
 have c3 : w.cell? ⟨d, 3, none⟩ = some (ptrV pp) := h.cells.cell 3
 have f3 := h.cells.free 3
 have h1 := h.unplan
 have o1 := setCell_only w ⟨d, 3, none⟩ (.pointer none)
 have z1 : (w.setCell ⟨d, 3, none⟩ (.pointer none)).heap.size = w.heap.size := by simp [World.setCell]
 have hAd : A d := h.mu d (.inl rfl)
 have oA : Only A w (w.setCell ⟨d, 3, none⟩ (.pointer none)) := o1.mono fun b e => by rw [show b = d from e]; exact hAd
 have HAL := Lib.hid h.lt
 by_cases hk : 0 ≤ k
 · have q : decide (0 ≤ k) = true := decide_eq_true hk
   have HD := Lib.hid (show D.arm k mask = { D with plan := some (k, mask) } from by unfold PDk.arm; rw [if_pos hk])
   have HCL := Lib.hid (clone_b (.slice ma m mc) m (bc mask) (w.setCell ⟨d, 3, none⟩ (.pointer none)) (reads_only0 hm o1 fun h0 g hg e => hA h0 g hg (by rw [show g = d from e]; exact hAd)) (bc_one mask) h10)
   have H1 := Lib.hid (And.intro h1 (And.intro z1 (And.intro oA (And.intro hb hml))))
   clear h h1 o1 z1 oA hm hA hb hml hk
   go_enter Tryz.func27, Tryz.ntmps27
   go_wp2_with fail
   refine HCL.out.mono ?_
   rintro e w2 ⟨v2, rfl, hv2, hb2, hg2⟩
   obtain ⟨va, vc, rfl⟩ := hv2.form'
   have hs2 : Still (w.setCell ⟨d, 3, none⟩ (.pointer none)) w2 := Only.ofBelow hb2
   have k2 := H1.out.1.still hs2
   have k2c := k2.cells.alloc (.cells #[.int .i64 k, .slice va m vc] 96)
   have g3 : (w2.alloc (.cells #[.int .i64 k, .slice va m vc] 96)).cell? ⟨d, 3, none⟩ = some (.pointer none) := k2c.cell 3
   have g3f : (w2.alloc (.cells #[.int .i64 k, .slice va m vc] 96)).frozen? ⟨d, 3, none⟩ = false := k2c.free 3
   have F := Lib.hid (show ArPost A w d (D.arm k mask) (.returned (.tuple #[])) ((w2.alloc (.cells #[.int .i64 k, .slice va m vc] 96)).setCell ⟨d, 3, none⟩ (.pointer (some ⟨w2.heap.size, 0, none⟩))) from by
    obtain ⟨h1, z1, oA, hb, hml⟩ := H1.out
    have hsz := hs2.size
    have hst : Still w2 (w2.alloc (.cells #[.int .i64 k, .slice va m vc] 96)) := (Still.refl w2).alloc _
    have hzz : (w2.alloc (.cells #[.int .i64 k, .slice va m vc] 96)).heap.size = w2.heap.size + 1 := by simp
    have hzf : ((w2.alloc (.cells #[.int .i64 k, .slice va m vc] 96)).setCell ⟨d, 3, none⟩ (.pointer (some ⟨w2.heap.size, 0, none⟩))).heap.size = w2.heap.size + 1 := by rw [← hzz]; simp [World.setCell]
    have hAl : ∀ g, A g → g < w.heap.size := HAL.out
    have hgr : DgAt (Newer A w (w2.alloc (.cells #[.int .i64 k, .slice va m vc] 96))) (w2.alloc (.cells #[.int .i64 k, .slice va m vc] 96)) d { D with plan := none } tv mb vs V none :=
     (k2.still hst).grow (fun _ hg => .inl hg) fun g hg => hg.elim (fun e => by have := hAl g e; omega) fun e => e.2
    have hne : ∀ g, A g → g ≠ w2.heap.size := fun g hg e => by have := hAl g hg; omega
    have hcn := cellsAt_new w2 [.int .i64 k, .slice va m vc] 96
    have hsl : Sl (w2.alloc (.cells #[.int .i64 k, .slice va m vc] 96)) (fun g => Newer A w (w2.alloc (.cells #[.int .i64 k, .slice va m vc] 96)) g ∧ ¬ Mu d mb tv (some w2.heap.size) g) 1 (.slice va m vc) mask.length (bc mask) := by
     rw [hml]
     refine Sl.still (Vec.sl hv2 fun g hg => ?_) hst
     have e1 := hg2 g hg
     refine ⟨⟨.inr ⟨by omega, by omega⟩, fun e => ?_⟩, e1.2⟩
     rcases e with e | e | e | e
     · have := hAl g (by rw [e]; exact hAd)
       omega
     · have := hAl g (h1.mu g (.inr (.inl e)))
       omega
     · have := hAl g (h1.mu g (.inr (.inr (.inl e))))
       omega
     · have := Option.some.inj e
       omega
    have hfin := hgr.replan (b := w2.heap.size) (k := k) (mask := mask) (mv := .slice va m vc) (.inr ⟨by omega, by omega⟩)
     ⟨fun e => hne d hAd e.symm, fun e => hne mb (h1.mu mb (.inr (.inl rfl))) e.symm, fun e => hne _ (h1.mu _ (.inr (.inr (.inl e)))) rfl⟩ (fun v hv e => hne _ ((h1.ct v hv).2 _ e).1 rfl) (fun x v hv e => hne _ ((h1.cw x v hv).2 _ e).1 rfl) hcn hsl hb
    rw [HD.out]
    refine ⟨rfl, DgX.grow ⟨_, _, _, _, _, hfin⟩ (fun g hg => hg.imp id fun e => ⟨e.1, by omega⟩) fun g hg => hg.elim (fun e => by have := hAl g e; omega) fun e => e.2, ?_⟩
    exact ((oA.trans (hs2.mono fun _ e => e.elim)).alloc _).setCell (p := ⟨d, 3, none⟩) (.inl hAd) _)
   clear hv2 hb2 hg2 hs2 k2 k2c HCL H1
   go_wp2_with fail
   go_end0
   exact F.out
 · have q : decide (0 ≤ k) = false := decide_eq_false hk
   have F := Lib.hid (show ArPost A w d (D.arm k mask) (.returned (.tuple #[])) (w.setCell ⟨d, 3, none⟩ (.pointer none)) from by
    unfold PDk.arm
    rw [if_neg hk]
    have hAl : ∀ g, A g → g < w.heap.size := HAL.out
    exact ⟨rfl, DgX.grow ⟨_, _, _, _, _, h1⟩ (fun _ hg => .inl hg) fun g hg => hg.elim (fun e => by have := hAl g e; omega) fun e => e.2, oA⟩)
   clear h h1 o1 z1 oA hm hA hb hml hk
   go_enter Tryz.func27, Tryz.ntmps27
   go_wp2_with fail
   go_end0
   exact F.out
end
end Go.Proofs.YtlcfoeikamkpmaaGreat

/- The document's trail: Force. Conditions: both lie in memory. Two disks and two trails side by side: an entry more, a Force, a write, a crash, an arming, the power, an opening. Conditions: all lie in memory, apart. Two disks and two trails side by side: the power, an opening, what is looked at. Conditions: all lie in memory, apart. The document's disk, new, as a disk. Conditions: at least one tile, at most two thousand. -/
import Derived.Test.YtojkggppcmdepaaGreatQa27
namespace Go.Proofs.YtojkggppcmdepaaGreat
open Go.RowKit Go.Wh Go.Maps

def RfPost (A B : Nat → Prop) (w : World) (t d at_ n : Nat) (S : List Int) (lv av : Value) (Lc : List Value) (c : Nat) (r : Int × PDk × Nat) (e : Ending) (w' : World) : Prop :=
 e = .returned (.int .i64 r.1) ∧ RtAt B w' t d at_ n S lv av Lc c r.2.2 ∧ RdX A d r.2.1 w' ∧ Only (fun g => A g ∨ g = t) w w'
theorem RtAt.steady {B : Nat → Prop} {w : World} {t d at_ n c st : Nat} {S : List Int} {lv av : Value} {Lc : List Value} (h : RtAt B w t d at_ n S lv av Lc c st) (st' : Nat) : RtAt B (w.setCell ⟨t, 5, none⟩ (.int .i64 (st' : Nat))) t d at_ n S lv av Lc c st' := by
 have ho := setCell_only w ⟨t, 5, none⟩ (.int .i64 (st' : Nat))
 have hz := ho.size
 exact ⟨h.cells.setCell 5 _, h.l.only ho fun g hg e => hg.2 e, h.one, h.a.only ho fun g hg e => hg.2 e, h.byt, h.bt, fun g hg => by have := h.lt g hg; omega⟩
set_option maxHeartbeats 2000000 in
set_option maxRecDepth 100000 in
theorem rforce_at {A B : Nat → Prop} (w : World) (t d at_ n : Nat) (S : List Int) (lv av : Value) (Lc : List Value) (c st : Nat) (D : PDk) (h : RtAt B w t d at_ n S lv av Lc c st) (hd : RdX A d D w) (hsep : ∀ g, A g → ¬ B g) (hf : D.fine) (hT : D.T.length ≤ 2000) (hn : at_ + n ≤ D.T.length) (hb : ∀ i l, (clN D at_ S i).2.1.T[at_ + i]? = some l → Byt l) (hS : S.length ≤ 1000000) :
 Calls Tryz.prog 20 #[.pointer (some ⟨t, 0, none⟩)] w (RfPost A B w t d at_ n S lv av Lc c (foB D at_ S n c st)) := by
 obtain ⟨la, lc, rfl⟩ := h.l.form
 have c0 : w.cell? ⟨t, 0, none⟩ = some (.pointer (some ⟨d, 0, none⟩)) := h.cells.cell 0
 have c3 : w.cell? ⟨t, 3, none⟩ = some (.slice la c lc) := h.cells.cell 3
 have c5 : w.cell? ⟨t, 5, none⟩ = some (.int .i64 (st : Nat)) := h.cells.cell 5
 have H := Lib.hid (And.intro h hsep)
 have HB := Lib.hid (And.intro hf (And.intro hT (And.intro hn (And.intro hb hS))))
 have HD := Lib.hid hd
 obtain ⟨q, hq⟩ : ∃ q, decide (st = c) = q := ⟨_, rfl⟩
 have q2 : decide ((st : Int) = (c : Int)) = q := by rw [← hq]; exact decide_eq_decide.2 (by omega)
 have q3 : ((st : Int) == (c : Int)) = q := by rw [Bool.eq_iff_iff, beq_iff_eq, ← q2, decide_eq_true_iff]
 have HQ := Lib.hid hq
 clear h hd hsep hf hT hn hb hS
 cases q with
 | true =>
  have F := Lib.hid (fun w' (hs : Still w w') => show RfPost A B w t d at_ n S (.slice la c lc) av Lc c (foB D at_ S n c st) (.returned (.int .i64 0)) w' from by
   unfold foB
   rw [if_pos (of_decide_eq_true HQ.out)]
   exact ⟨rfl, H.out.1.still hs, HD.out.still hs, hs.mono fun _ e => e.elim⟩)
  clear hq
  go_enter Tryz.func20, Tryz.ntmps20
  go_wp2_with fail
  go_quiet (fail)
  go_wp2_with fail
  go_ret
  exact F.out _ ((Still.refl _).drewN _)
 | false =>
  have hne : ¬ st = c := of_decide_eq_false HQ.out
  have HNE := Lib.hid hne
  have hne2 : ¬ (st : Int) = (c : Int) := by omega
  clear hq hne
  go_enter Tryz.func20, Tryz.ntmps20
  go_wp2_with fail
  go_quiet (fail)
  have hs1 : Still w (w.drewN nq) := (Still.refl _).drewN _
  have HS := Lib.hid hs1
  clear hs1 c0 c3 c5
  generalize w.drewN nq = w1 at *
  have H1 := Lib.hid (And.intro (H.out.1.still HS.out) (HD.out.still HS.out))
  have c0 : w1.cell? ⟨t, 0, none⟩ = some (.pointer (some ⟨d, 0, none⟩)) := H1.out.1.cells.cell 0
  have c3 : w1.cell? ⟨d, 3, none⟩ = some (.bool D.dead) := by
   obtain ⟨g1, o1, k1, g2, o2, k2, g3, o3, k3, kk, mv, hda⟩ := H1.out.2
   exact hda.raw.cells.cell 3
  cases hdd : D.dead with
  | true =>
   rw [hdd] at c3
   have F := Lib.hid (show RfPost A B w t d at_ n S (.slice la c lc) av Lc c (foB D at_ S n c st) (.returned (.int .i64 2)) w1 from by
    unfold foB
    rw [if_neg HNE.out, if_pos hdd]
    exact ⟨rfl, H1.out.1, H1.out.2, HS.out.mono fun _ e => e.elim⟩)
   clear hdd
   go_wp2_with fail
   go_ret
   exact F.out
  | false =>
   rw [hdd] at c3
   have HL := Lib.hid (rlay_at w1 t d at_ n S (.slice la c lc) av Lc c st D H1.out.1 H1.out.2 H.out.2 HB.out.1 hdd HB.out.2.1 HB.out.2.2.1 HB.out.2.2.2.1 HB.out.2.2.2.2)
   obtain ⟨R, hR⟩ : ∃ R, D.clean at_ S n = R := ⟨_, rfl⟩
   rw [hR] at HL
   have HFB := Lib.hid (show foB D at_ S n c st = (R.1, R.2, if R.1 = 0 then c else st) from by
    unfold foB
    rw [if_neg HNE.out, if_neg (by rw [hdd]; simp), hR])
   clear hdd hR
   obtain ⟨r1, r2⟩ := R
   dsimp only at HFB
   go_wp2_with fail
   refine HL.out.mono ?_
   rintro e w2 ⟨rfl, h2, h3⟩
   have H2 := Lib.hid (And.intro h2 (And.intro h3 (H1.out.1.only h3 fun g e1 e2 => H.out.2 g e2 e1)))
   have k0 : w2.cell? ⟨t, 3, none⟩ = some (.slice la c lc) := H2.out.2.2.cells.cell 3
   have k5 : w2.cell? ⟨t, 5, none⟩ = some (.int .i64 (st : Nat)) := H2.out.2.2.cells.cell 5
   have f5 : w2.frozen? ⟨t, 5, none⟩ = false := H2.out.2.2.cells.free 5
   clear h2 h3 HL
   by_cases hr0 : r1 = 0
   · subst hr0
     have F := Lib.hid (show RfPost A B w t d at_ n S (.slice la c lc) av Lc c (foB D at_ S n c st) (.returned (.int .i64 0)) (w2.setCell ⟨t, 5, none⟩ (.int .i64 (c : Nat))) from by
      rw [HFB.out]
      refine ⟨rfl, H2.out.2.2.steady c, H2.out.1.only (setCell_only w2 ⟨t, 5, none⟩ _) fun g hg e => H.out.2 g hg (by rw [show g = t from e]; exact H.out.1.bt), ?_⟩
      exact ((HS.out.mono fun _ e => e.elim).trans (H2.out.2.1.mono fun _ e => .inl e)).setCell (p := ⟨t, 5, none⟩) (.inl (.inr rfl)) _)
     go_wp2_with fail
     go_ret
     exact F.out
   · have qe : (r1 == 0) = false := by rw [beq_eq_false_iff_ne]; exact hr0
     have F := Lib.hid (show RfPost A B w t d at_ n S (.slice la c lc) av Lc c (foB D at_ S n c st) (.returned (.int .i64 r1)) w2 from by
      rw [HFB.out]
      rw [if_neg hr0]
      exact ⟨rfl, H2.out.2.2, H2.out.1, (HS.out.mono fun _ e => e.elim).trans (H2.out.2.1.mono fun _ e => .inl e)⟩)
     have hrn : ¬ r1 = 0 := hr0
     clear hr0
     go_wp2_with fail
     go_ret
     exact F.out
end Go.Proofs.YtojkggppcmdepaaGreat

namespace Go.Proofs.YtojkggppcmdepaaGreat
open Go.RowKit Go.Wh Go.Maps

section
variable {W w w1 : World} {k d r x y st : Nat} {A1 A2 B1 B2 : Nat → Prop} {D : PDk} {es : List PE}
theorem frB_yes {e : PE} (h : e.may = true) : frB e = frameB e := by
 unfold frB
 rw [if_pos h]
theorem frB_no {e : PE} (h : e.may = false) : frB e = [] := by
 unfold frB
 rw [if_neg (by rw [h]; decide)]
theorem al_append2 (hD : AlD W k d r A1 A2 w D) (hT : AlT W k d r x y A1 A2 B1 B2 w es st) {e : PE} {ov nv mv kv dv pv : Value} (he : EIs W (fun g => g < W.heap.size) e ov nv mv kv dv pv) (hk : k ≤ 1000) (hF : (frB e).length ≤ 1000000)
 {es' : List PE} {a kk : Int} (h1 : TlX (Newer B1 w w1) x d 1 k es' st w1) (h2 : Only B1 w w1)
 (h3 : (e.may = false ∧ es' = es ∧ a = 0 ∧ kk = 1) ∨ (e.may = true ∧ k * 63 < (streamB es).length + (frameB e).length ∧ es' = es ∧ a = 0 ∧ kk = 5) ∨ (e.may = true ∧ (streamB es).length + (frameB e).length ≤ k * 63 ∧ es' = es ++ [e] ∧ a = ((es.length + 1 : Nat) : Int) ∧ kk = 0)) :
 Calls Tryz.prog 18 #[.pointer (some ⟨y, 0, none⟩), .agg (eV e ov nv mv kv dv pv)] w1 (fun en w2 => en = .returned (.tuple #[.int .i64 a, .int .i64 kk]) ∧ AlX W k d r x y w2 D es' st) := by
 obtain ⟨lv, av, Lc, hq⟩ := hT.q
 have hq1 := hq.only h2 fun g e1 e2 => hT.b g e2 e1
 have hs1 : Still W w1 := still_new hD.still h2 hT.f1
 have hD1 : AlD W k d r A1 A2 w1 D := ⟨hD.g.only h2 fun g e1 e2 => hT.a1 g e1 e2, hD.q.only h2 fun g e1 e2 => hT.a3 g e1 e2, hD.n12, hD.f1, hD.f2, hD.fine, hD.byt, hD.len, hs1⟩
 have l1 := hD.lt1
 have l2 := hD.lt2
 have hz := h2.size
 have hW := hD.still.size
 have lq := hq.lt
 have hsl := hT.t.len
 have hel := streamB_len es
 have hfb : Byt (frB e) := by
  unfold frB
  split
  · exact frameB_byt e he.bo he.bn
  · intro z hz; cases hz
 have hT1 : ∀ w2, Still w1 w2 → AlT W k d r x y A1 A2 (Newer B1 w w1) B2 w2 es' st ∨ ¬ streamB es' = streamB es ∨ ¬ es'.length = es.length := fun w2 hs => by
  by_cases e1 : streamB es' = streamB es
  · by_cases e2 : es'.length = es.length
    · left
      refine ⟨h1.still hs, ⟨lv, av, Lc, by rw [e1, e2]; exact hq1.still hs⟩, fun g e1 e2 => e2.elim (hT.a1 g e1) fun e => by have := l1 g e1; omega, hT.a2, fun g e1 e2 => e2.elim (hT.a3 g e1) fun e => by have := l2 g e1; omega, hT.a4, fun g e1 e2 => e1.elim (fun e => hT.b g e e2) fun e => by have := lq g e2; omega, fun g e => e.elim (hT.f1 g) fun e => by omega, hT.f2⟩
    · exact .inr (.inr e2)
  · exact .inr (.inl e1)
 refine (rappend_at w1 y r 1 k (streamB es) lv av Lc es.length st e ov nv mv kv dv pv hq1 (he.still hs1) (by omega) (by omega) (by omega) hF hfb).mono ?_
 intro en w2 hp
 unfold RaPost at hp
 rcases h3 with ⟨hm, rfl, rfl, rfl⟩ | ⟨hm, hl, rfl, rfl, rfl⟩ | ⟨hm, hl, rfl, rfl, rfl⟩
 · rw [if_pos (frB_no hm)] at hp
   refine ⟨hp.1, A1, A2, Newer B1 w w1, B2, hD1.step hp.2, ?_⟩
   rcases hT1 w2 hp.2 with h | h | h
   · exact h
   · exact absurd rfl h
   · exact absurd rfl h
 · have hne : ¬ frB e = [] := fun e0 => by
    have := congrArg List.length e0
    rw [frB_yes hm, frameB_length] at this
    simp at this
   rw [if_neg hne, frB_yes hm, if_pos hl] at hp
   refine ⟨hp.1, A1, A2, Newer B1 w w1, B2, hD1.step hp.2, ?_⟩
   rcases hT1 w2 hp.2 with h | h | h
   · exact h
   · exact absurd rfl h
   · exact absurd rfl h
 · have hne : ¬ frB e = [] := fun e0 => by
    have := congrArg List.length e0
    rw [frB_yes hm, frameB_length] at this
    simp at this
   rw [if_neg hne, frB_yes hm, if_neg (by omega)] at hp
   obtain ⟨lv', av', Lc', rfl, hr, ho⟩ := hp
   have hst : streamB (es ++ [e]) = streamB es ++ frameB e := by rw [streamB_append, streamB_one]
   have ny : ∀ g, A1 g → g ≠ y := fun g e1 e2 => hT.a2 g e1 (e2 ▸ hq.bt)
   have ny2 : ∀ g, A2 g → g ≠ y := fun g e1 e2 => hT.a4 g e1 (e2 ▸ hq.bt)
   have ny3 : ∀ g, Newer B1 w w1 g → g ≠ y := fun g e1 e2 => e1.elim (fun e => hT.b g e (e2 ▸ hq.bt)) fun e => by have := lq y hq.bt; omega
   have hz2 := ho.size
   have l1n := h1.lt
   refine ⟨rfl, A1, A2, Newer B1 w w1, (fun g => g = y ∨ w1.heap.size ≤ g ∧ g < w2.heap.size), ⟨hD1.g.only ho fun g e1 e2 => ny g e1 e2, hD1.q.only ho fun g e1 e2 => ny2 g e1 e2, hD.n12, hD.f1, hD.f2, hD.fine, hD.byt, hD.len, still_new hs1 ho fun g e => by rw [show g = y from e]; exact hT.f2 y hq.bt⟩, ?_⟩
   refine ⟨h1.only ho fun g e1 e2 => ny3 g e1 e2, ⟨lv', av', Lc', by rw [hst, List.length_append, List.length_singleton]; exact hr⟩, fun g e1 e2 => e2.elim (hT.a1 g e1) fun e => by have := l1 g e1; omega, fun g e1 e2 => e2.elim (fun e => ny g e1 e) fun e => by have := l1 g e1; omega, fun g e1 e2 => e2.elim (hT.a3 g e1) fun e => by have := l2 g e1; omega, fun g e1 e2 => e2.elim (fun e => ny2 g e1 e) fun e => by have := l2 g e1; omega, fun g e1 e2 => e2.elim (fun e => ny3 g e1 e) fun e => by have := l1n g e1; omega, fun g e => e.elim (hT.f1 g) fun e => by omega, fun g e => e.elim (fun e => by rw [e]; exact hT.f2 y hq.bt) fun e => by have := hs1.size; omega⟩
theorem al_force1 (hD : AlD W k d r A1 A2 w D) (hT : AlT W k d r x y A1 A2 B1 B2 w es st) (hk : k ≤ 1000) :
 Calls Tryz.prog 19 #[.pointer (some ⟨x, 0, none⟩)] w (FoPostA A1 B1 w x d 1 k es (foB D 1 (streamB es) k es.length st)) := by
 have hsl := hT.t.len
 have hel := streamB_len es
 have hsle := hT.t.st_le
 exact force_a hT.t hD.g hT.a1 hD.fine hD.byt (by have := hD.len; omega) (by have := hD.len; omega) fun hne => by
  rcases Nat.eq_zero_or_pos k with h0 | h0
  · rw [h0, Nat.zero_mul] at hsl
    omega
  · exact h0
theorem al_force2 (hD : AlD W k d r A1 A2 w D) (hT : AlT W k d r x y A1 A2 B1 B2 w es st) (hk : k ≤ 1000) {q : Int × PDk × Nat} (hq0 : foB D 1 (streamB es) k es.length st = q) (h1 : TlX B1 x d 1 k es q.2.2 w1) (h2 : DgX (Newer A1 w w1) d q.2.1 w1) (h3 : Only (fun b => A1 b ∨ B1 b) w w1) :
 Calls Tryz.prog 20 #[.pointer (some ⟨y, 0, none⟩)] w1 (fun en w2 => en = .returned (.int .i64 q.1) ∧ AlX W k d r x y w2 q.2.1 es q.2.2) := by
 obtain ⟨lv, av, Lc, hq⟩ := hT.q
 have hq1 := hq.only h3 fun g e1 e2 => e2.elim (fun e => hT.a2 g e e1) fun e => hT.b g e e1
 have hr1 := hD.q.only h3 fun g e1 e2 => e2.elim (fun e => hD.n12 g e e1) fun e => hT.a3 g e1 e
 have hs1 : Still W w1 := still_new hD.still h3 fun g e => e.elim (hD.f1 g) (hT.f1 g)
 have l2 := hD.lt2
 have lq := hq.lt
 have lt := hT.t.lt
 have hz := h3.size
 have hW := hD.still.size
 have hsb := streamB_byt hT.t.byt
 have hf := foB_fine (at_ := 1) (n := k) (c := es.length) (st := st) (S := streamB es) hD.fine
 have hb := foB_byt (at_ := 1) (n := k) (c := es.length) (st := st) hD.byt hsb
 have hl := foB_len (at_ := 1) (n := k) (c := es.length) (st := st) (S := streamB es) (D := D)
 rw [hq0] at hf hb hl
 refine (rforce_at w1 y r 1 k (streamB es) lv av Lc es.length st D hq1 hr1 hT.a4 hD.fine (by have := hD.len; omega) (by have := hD.len; omega) (clN_byte hD.byt hsb) (by have := hT.t.len; omega)).mono ?_
 rintro en w2 ⟨rfl, k1, k2, k3⟩
 rw [hq0] at k1 k2 ⊢
 have n1 : ∀ g, Newer A1 w w1 g → ¬ A2 g := fun g e1 e2 => e1.elim (fun e => hD.n12 g e e2) fun e => by have := l2 g e2; omega
 have n2 : ∀ g, Newer A1 w w1 g → ¬ B2 g := fun g e1 e2 => e1.elim (fun e => hT.a2 g e e2) fun e => by have := lq g e2; omega
 have n3 : ∀ g, Newer A1 w w1 g → ¬ B1 g := fun g e1 e2 => e1.elim (fun e => hT.a1 g e e2) fun e => by have := lt g e2; omega
 refine ⟨rfl, Newer A1 w w1, A2, B1, B2, ⟨h2.only k3 fun g e1 e2 => e2.elim (n1 g e1) fun e => n2 g e1 (e ▸ hq.bt), k2, n1, fun g e => e.elim (hD.f1 g) fun e => by omega, hD.f2, hf, hb, by rw [hl, hD.len], still_new hs1 k3 fun g e => e.elim (hD.f2 g) fun e => by rw [e]; exact hT.f2 y hq.bt⟩, ?_⟩
 exact ⟨h1.only k3 fun g e1 e2 => e2.elim (fun e => hT.a3 g e e1) fun e => hT.b g e1 (e ▸ hq.bt), ⟨lv, av, Lc, k1⟩, n3, n2, hT.a3, hT.a4, hT.b, hT.f1, hT.f2⟩
theorem al_write1 (hD : AlD W k d r A1 A2 w D) (hk : k ≤ 1000) (z : Int) (l : List Int) (bv : Value) (hb : Reads w 1 bv 64 (bc l)) (hbm : ∀ g, bv.ownBlock = some g → ¬ A1 g) :
 Calls Tryz.prog 25 #[.pointer (some ⟨d, 0, none⟩), .int .i64 z, bv] w (DgPostN A1 w d (D.put z l)) := dwrite_any hD.g hD.fine (by have := hD.len; omega) z l bv hb hbm
theorem al_write2 (hD : AlD W k d r A1 A2 w D) (hk : k ≤ 1000) {z : Int} {l : List Int} (hl : Byt l) {ba : Option Addr} {bcp : Nat} {Q : Nat → Prop} (hb : Sl w1 Q 1 (.slice ba 64 bcp) 64 (bc l)) (hbq : ∀ g, Q g → ¬ A2 g) (h2 : DgX (Newer A1 w w1) d (D.put z l).2 w1) (h3 : Only A1 w w1) :
 Calls Tryz.prog 26 #[.pointer (some ⟨r, 0, none⟩), .int .i64 z, .slice ba 64 bcp] w1 (fun en w2 => en = .returned (.int .i64 (D.put z l).1) ∧ AlDX W k d r w2 (D.put z l).2 ∧ Only A2 w1 w2) := by
 have hr1 := hD.q.only h3 fun g e1 e2 => hD.n12 g e2 e1
 obtain ⟨g1, o1, c1, g2, o2, c2, g3, o3, c3, kk, mv, hr⟩ := hr1
 refine (rdwrite_at hr hD.fine (by have := hD.len; omega) z ba bcp l hb fun g e1 e2 => hbq g e1 (hr.mu g e2)).mono ?_
 rintro en w2 ⟨rfl, k2, k3⟩
 exact ⟨rfl, ⟨_, _, hD.both h2 h3 (fun g e => e) (Still.refl w1) k2 (k3.mono fun g e => hr.mu g e) (fun g e => .inl e) (PDk.put_fine hD.fine) (PDk.put_byt hD.byt hl) (by rw [PDk.put_len, hD.len])⟩, k3.mono fun g e => hr.mu g e⟩
theorem al_crash1 (hD : AlD W k d r A1 A2 w D) (hk : k ≤ 1000) {Q : Nat → Prop} {ma : Option Addr} {m mc : Nat} {mask : List Int} (hm : 0 < m → Sl w Q 1 (.slice ma m mc) m (bc mask)) (hq : ∀ g, Q g → ¬ A1 g) (hl : mask.length = m) (hb : Byt mask) :
 Calls Tryz.prog 21 #[.pointer (some ⟨d, 0, none⟩), .slice ma m mc] w (fun e w' => e = .returned (.tuple #[]) ∧ DgX A1 d (D.crash mask) w' ∧ Only A1 w w') := by
 obtain ⟨tv, mb, vs, V, pp, h⟩ := hD.g
 refine (crash_at h (by have := hD.len; omega) ma mc mask hm (fun g e1 e2 => hq g e1 (h.mu g (.inr (.inr (.inl e2))))) hl hb).mono ?_
 rintro e w' ⟨rfl, ⟨vs', k1⟩, k2⟩
 refine ⟨rfl, ⟨_, _, _, _, _, k1⟩, k2.mono fun g e => ?_⟩
 rcases e with e | e | e
 · exact h.mu g (.inl e)
 · exact h.mu g (.inr (.inl e))
 · exact h.mu g (.inr (.inr (.inl e)))
theorem al_crash2 (hD : AlD W k d r A1 A2 w D) (hk : k ≤ 1000) {Q : Nat → Prop} {ma : Option Addr} {m mc : Nat} {mask : List Int} (hm : 0 < m → Sl w1 Q 1 (.slice ma m mc) m (bc mask)) (hq : ∀ g, Q g → ¬ A2 g) (hl : mask.length = m) (hb : Byt mask) (h2 : DgX A1 d (D.crash mask) w1) (h3 : Only A1 w w1) :
 Calls Tryz.prog 22 #[.pointer (some ⟨r, 0, none⟩), .slice ma m mc] w1 (fun e w' => e = .returned (.tuple #[]) ∧ AlDX W k d r w' (D.crash mask)) := by
 have hr1 := hD.q.only h3 fun g e1 e2 => hD.n12 g e2 e1
 obtain ⟨g1, o1, c1, g2, o2, c2, g3, o3, c3, kk, mv, hr⟩ := hr1
 refine (rdcrash_at hr (by have := hD.len; omega) ma m mc mask hm (fun g e1 e2 => hq g e1 (hr.mu g e2)) hl hb).mono ?_
 rintro e w' ⟨rfl, k2, k3⟩
 exact ⟨rfl, _, _, hD.both h2 h3 (fun g e => .inl e) (Still.refl w1) ⟨_, _, _, _, _, _, _, _, _, _, _, k2⟩ (k3.mono fun g e => hr.mu g e) (fun g e => .inl e) (fun _ _ e => by cases e) (PDk.byt_crash hD.byt mask) (by rw [← hD.len]; exact crashN_length)⟩
theorem al_arm1 (hD : AlD W k d r A1 A2 w D) (z : Int) {ma : Option Addr} {m mc : Nat} {mask : List Int} (hm : Reads w 1 (.slice ma m mc) m (bc mask)) (hA : 0 < m → ∀ g, (Value.slice ma m mc).ownBlock = some g → ¬ A1 g) (hb : Byt mask) (h10 : m ≤ 10000) :
 Calls Tryz.prog 23 #[.pointer (some ⟨d, 0, none⟩), .int .i64 z, .slice ma m mc] w (ArPost A1 w d (D.arm z mask)) := by
 obtain ⟨tv, mb, vs, V, pp, h⟩ := hD.g
 exact arm_at h z ma m mc mask hm hA hb h10
theorem al_arm2 (hD : AlD W k d r A1 A2 w D) (hT : AlT W k d r x y A1 A2 B1 B2 w es st) {z : Int} (hz : z ≤ 1000000) {Q : Nat → Prop} {ma : Option Addr} {m mc : Nat} {mask : List Int} (hm : 0 < m → Sl w1 Q 1 (.slice ma m mc) m (bc mask)) (hl : mask.length = m) (hb : Byt mask) (h10 : m ≤ 10000) (h2 : DgX (Newer A1 w w1) d (D.arm z mask) w1) (h3 : Only A1 w w1) :
 Calls Tryz.prog 24 #[.pointer (some ⟨r, 0, none⟩), .int .i64 z, .slice ma m mc] w1 (fun e w' => e = .returned (.tuple #[]) ∧ AlX W k d r x y w' (D.arm z mask) es st) := by
 have hr1 := hD.q.only h3 fun g e1 e2 => hD.n12 g e2 e1
 obtain ⟨g1, o1, c1, g2, o2, c2, g3, o3, c3, kk, mv, hr⟩ := hr1
 refine (rdarm_at hr z ma m mc mask hm hl hb h10).mono ?_
 rintro e w' ⟨rfl, k2, k3⟩
 refine ⟨rfl, _, _, B1, B2, hD.both h2 h3 (fun g e => e) (Still.refl w1) k2 k3 (fun g e => e) (fun k' m' e => ?_) hD.byt hD.len, hT.bystand h3 (fun g e => e) (Still.refl w1) k3 fun g e => e⟩
 unfold PDk.arm at e
 by_cases h0 : 0 ≤ z
 · rw [if_pos h0] at e
   injection e with e
   injection e with e1 e2
   omega
 · rw [if_neg h0] at e
   cases e
end
end Go.Proofs.YtojkggppcmdepaaGreat

namespace Go.Proofs.YtojkggppcmdepaaGreat
open Go.RowKit Go.Wh Go.Maps

section
variable {W w w1 : World} {k d r x y st : Nat} {A1 A2 B1 B2 : Nat → Prop} {D : PDk} {es : List PE}
theorem al_power1 (hD : AlD W k d r A1 A2 w D) : Calls Tryz.prog 28 #[.pointer (some ⟨d, 0, none⟩)] w (fun e w' => e = .returned (.tuple #[]) ∧ DgX A1 d { D with dead := false } w' ∧ Only A1 w w') := by
 obtain ⟨tv, mb, vs, V, pp, h⟩ := hD.g
 exact power_at h
theorem al_power2 (hD : AlD W k d r A1 A2 w D) (h2 : DgX A1 d { D with dead := false } w1) (h3 : Only A1 w w1) :
 (∃ q, w1.cell? ⟨r, 3, none⟩ = some (.bool q)) ∧ w1.frozen? ⟨r, 3, none⟩ = false ∧ AlDX W k d r (w1.setCell ⟨r, 3, none⟩ (.bool false)) { D with dead := false } := by
 have hr1 := hD.q.only h3 fun g e1 e2 => hD.n12 g e2 e1
 obtain ⟨g1, o1, c1, g2, o2, c2, g3, o3, c3, kk, mv, hr⟩ := hr1
 have ho := setCell_only w1 ⟨r, 3, none⟩ (.bool false)
 have hrd : r < w1.heap.size := hr.raw.cells.lt
 have hrr := hr.raw.setD (off' := false) (on' := D.plan.isSome) (k' := kk) (mv' := mv) 3 (.bool false) rfl
 have hq : RdAt A2 (w1.setCell ⟨r, 3, none⟩ (.bool false)) r { D with dead := false } g1 o1 c1 g2 o2 c2 g3 o3 c3 kk mv := hr.turn hrr (ho.mono fun g e => .inl e) fun k2 m2 e => ⟨(hr.pl k2 m2 e).1, k2, e⟩
 exact ⟨⟨_, hr.raw.cells.cell 3⟩, hr.raw.cells.free 3, _, _, hD.both h2 h3 (fun g e => .inl e) (Still.refl w1) ⟨_, _, _, _, _, _, _, _, _, _, _, hq⟩ (ho.mono fun g e => hr.mu g (.inl e)) (fun g e => .inl e) hD.fine hD.byt hD.len⟩
theorem al_dead (hD : AlD W k d r A1 A2 w D) : Calls Tryz.prog 27 #[.pointer (some ⟨d, 0, none⟩)] w (SamePost w (.bool D.dead)) := by
 obtain ⟨tv, mb, vs, V, pp, h⟩ := hD.g
 exact dead_at h
theorem al_off (hD : AlD W k d r A1 A2 w D) : w.cell? ⟨r, 3, none⟩ = some (.bool D.dead) := by
 obtain ⟨g1, o1, c1, g2, o2, c2, g3, o3, c3, kk, mv, hr⟩ := hD.q
 exact hr.raw.cells.cell 3
theorem al_lens (hD : AlD W k d r A1 A2 w D) : ∀ l ∈ D.T, l.length = 64 := fun l hl => by
 obtain ⟨i, hi, rfl⟩ := List.getElem_of_mem hl
 exact hD.g.lens (List.getElem?_eq_getElem hi)
theorem al_open1 (hD : AlD W k d r A1 A2 w D) (hq : D.dead = false) (hk : k ≤ 1000) : Calls Tryz.prog 15 #[.pointer (some ⟨d, 0, none⟩), .int .i64 1, .int .i64 k] w (OpPostA A1 w d 1 k D) :=
 open_a (at_ := 1) hD.g hq hD.fine hD.byt (by have := hD.len; omega) (by have := hD.len; omega) hk
def AlYes (W : World) (k d r t : Nat) (la : Option Addr) (lc : Nat) (D' : PDk) (E : List PE) (en : Ending) (w' : World) : Prop :=
 ∃ t' la' lc', en = .returned (.tuple #[.pointer (some ⟨t', 0, none⟩), .slice la' E.length lc', .int .i64 0]) ∧ AlX W k d r t t' w' D' E E.length ∧ Ents w' (fun _ => True) (.slice la E.length lc) E ∧ Ents w' (fun _ => True) (.slice la' E.length lc') E
theorem al_open2 (hD : AlD W k d r A1 A2 w D) (hq : D.dead = false) (hk : k ≤ 1000) {R : Int × PDk} {E : List PE} (hE : openE D 1 k = E) (hR : D.clean 1 (streamB E) k = R) (h0 : R.1 = 0) {t : Nat} {la : Option Addr} {lc : Nat} {A' B C : Nat → Prop}
 (h1 : DgX A' d R.2 w1) (h2 : TlX B t d 1 k E E.length w1) (h3 : Ents w1 C (.slice la E.length lc) E) (h4 : Only A1 w w1) (s1 : ∀ g, A' g → A1 g ∨ w.heap.size ≤ g) (s2 : ∀ g, B g → w.heap.size ≤ g) (s3 : ∀ g, C g → w.heap.size ≤ g ∧ g < w1.heap.size) (n1 : ∀ g, A' g → ¬ B g) :
 Calls Tryz.prog 16 #[.pointer (some ⟨r, 0, none⟩), .int .i64 1, .int .i64 k] w1 (AlYes W k d r t la lc R.2 E) := by
 have hr1 := hD.q.only h4 fun g e1 e2 => hD.n12 g e2 e1
 have hcf := PDk.clean_fine (at_ := 1) (n := k) (S := streamB E) hD.fine hq
 have hEi := openE_is D 1 k hD.byt
 rw [hE] at hEi
 have hcb := PDk.byt_clean (at_ := 1) (n := k) hD.byt (streamB_byt hEi.2)
 have hcl := PDk.clean_len (D := D) (at_ := 1) (n := k) (S := streamB E)
 rw [hR] at hcf hcb hcl
 have l2 := hD.lt2
 have la1 := h1.lt
 have lb1 := h2.lt
 have hz := h4.size
 have hW := hD.still.size
 refine (ropen_at (at_ := 1) (n := k) hr1 hq hD.fine hD.byt (al_lens hD) (by have := hD.len; omega) (by have := hD.len; omega) hk).mono ?_
 intro en w2 hp
 unfold RoPost at hp
 rw [hE, hR, if_pos h0] at hp
 obtain ⟨t', lv', av', Lc', rfl, k1, k2, k3, k4⟩ := hp
 have hz2 := k4.size
 obtain ⟨la', lc', rfl⟩ := k2.form
 have nA : ∀ g, A' g → ¬ A2 g := fun g e1 e2 => (s1 g e1).elim (fun e => hD.n12 g e e2) fun e => by have := l2 g e2; omega
 have nB : ∀ g, B g → ¬ A2 g := fun g e1 e2 => by have := s2 g e1; have := l2 g e2; omega
 refine ⟨t', la', lc', rfl, ⟨A', A2, B, fun g => w1.heap.size ≤ g ∧ g < w2.heap.size, ⟨h1.only k4 fun g e1 e2 => nA g e1 e2, k3, nA, fun g e => (s1 g e).elim (hD.f1 g) fun e => by omega, hD.f2, hcf, hcb, by rw [hcl, hD.len], still_new (still_new hD.still h4 hD.f1) k4 hD.f2⟩, ?_⟩, ?_, ?_⟩
 · exact ⟨h2.only k4 fun g e1 e2 => nB g e1 e2, ⟨_, _, _, k1⟩, n1, fun g e1 e2 => by have := la1 g e1; omega, fun g e1 e2 => nB g e2 e1, fun g e1 e2 => by have := l2 g e1; omega, fun g e1 e2 => by have := lb1 g e1; omega, fun g e => by have := s2 g e; omega, fun g e => by omega⟩
 · exact (h3.only k4 fun g e1 e2 => by have := (s3 g e1).1; have := l2 g e2; omega).mono fun _ _ => trivial
 · exact k2.mono fun _ _ => trivial
theorem al_open3 (hD : AlD W k d r A1 A2 w D) (hq : D.dead = false) (hk : k ≤ 1000) {R : Int × PDk} {E : List PE} (hE : openE D 1 k = E) (hR : D.clean 1 (streamB E) k = R) (h0 : ¬ R.1 = 0) (h4 : Only A1 w w1) :
 Calls Tryz.prog 16 #[.pointer (some ⟨r, 0, none⟩), .int .i64 1, .int .i64 k] w1 (fun en w2 => en = .returned (.tuple #[.pointer none, .slice none 0 0, .int .i64 R.1]) ∧ Still W w2) := by
 have hr1 := hD.q.only h4 fun g e1 e2 => hD.n12 g e2 e1
 refine (ropen_at (at_ := 1) (n := k) hr1 hq hD.fine hD.byt (al_lens hD) (by have := hD.len; omega) (by have := hD.len; omega) hk).mono ?_
 intro en w2 hp
 unfold RoPost at hp
 rw [hE, hR, if_neg h0] at hp
 obtain ⟨rfl, -, k3⟩ := hp
 exact ⟨rfl, still_new (still_new hD.still h4 hD.f1) k3 hD.f2⟩
theorem al_look (h : AlX W k d r x y w D es st) (hk : k ≤ 1000) : Calls Tryz.prog 29 #[.pointer (some ⟨x, 0, none⟩)] w (SamePost w (.int .i64 (es.length : Nat))) ∧ Calls Tryz.prog 30 #[.pointer (some ⟨x, 0, none⟩)] w (SamePost w (.int .i64 (st : Nat))) ∧
 Calls Tryz.prog 31 #[.pointer (some ⟨x, 0, none⟩)] w (StPost w (.int .i64 (63 * (k : Int) - ((streamB es).length : Int)))) ∧ Calls Tryz.prog 32 #[.pointer (some ⟨y, 0, none⟩)] w (StPost w (.int .i64 (63 * (k : Int) - ((streamB es).length : Int)))) ∧
 Calls Tryz.prog 27 #[.pointer (some ⟨d, 0, none⟩)] w (SamePost w (.bool D.dead)) ∧ w.cell? ⟨r, 3, none⟩ = some (.bool D.dead) ∧ (∃ la lc, w.cell? ⟨y, 3, none⟩ = some (.slice la es.length lc)) ∧ w.cell? ⟨y, 5, none⟩ = some (.int .i64 (st : Nat)) := by
 obtain ⟨A1, A2, B1, B2, hD, hT⟩ := h
 obtain ⟨lv, av, Lc, hq⟩ := hT.q
 obtain ⟨la, lc, rfl⟩ := hq.l.form
 exact ⟨count_x hT.t rfl, stable_x hT.t rfl, left_x hT.t rfl, rleft_any hq (by omega) (by have := hT.t.len; omega), al_dead hD, al_off hD, ⟨la, lc, hq.cells.cell 3⟩, hq.cells.cell 5⟩
end
end Go.Proofs.YtojkggppcmdepaaGreat

namespace Go.Proofs.YtojkggppcmdepaaGreat
open Go.RowKit Go.Wh Go.Maps

theorem newD_now (n : Nat) : nowL (newD n) = List.replicate n zStr := by
 unfold nowL newD zeroT
 rw [List.map_replicate]
 rfl
theorem newD_was (n : Nat) : wasL (newD n) = List.replicate n zStr := by
 refine List.ext_getElem (by simp [wasL, newD, zeroT]) fun i h1 h2 => ?_
 have hi : i < n := by simpa using h2
 rw [List.getElem_replicate]
 unfold wasL newD zeroT
 simp [hi, strV, zStr]
theorem newD_wet (n : Nat) : wetL (newD n) = List.replicate n (.bool false) := by
 refine List.ext_getElem (by simp [wetL, newD, zeroT]) fun i h1 h2 => ?_
 rw [List.getElem_replicate]
 unfold wetL newD
 simp
theorem rnew_any (w : World) (n : Nat) (h0 : 0 < n) (hn : n ≤ 2000) {N : Int} (hN : (n : Int) = N) :
 Calls Tryz.prog 14 #[.int .i64 N] w (fun e w' => ∃ d, e = .returned (.pointer (some ⟨d, 0, none⟩)) ∧ RdX (fun g => w.heap.size ≤ g ∧ g < w'.heap.size) d (newD n) w' ∧ Still w w') := by
 subst hN
 refine (rnew_raw w n hn).mono ?_
 rintro e w' ⟨d, rfl, v1, v2, v3, h⟩
 obtain ⟨g1, o1, c1, rfl, t1⟩ := h.r1.form h0
 obtain ⟨g2, o2, c2, rfl, t2⟩ := h.r2.form h0
 obtain ⟨g3, o3, c3, rfl, t3⟩ := h.r3.form h0
 have k1 := h.o1 g1 rfl
 have k2 := h.o2 g2 rfl
 have k3 := h.o3 g3 rfl
 have hl : (newD n).T.length = n := by simp [newD, zeroT]
 have hdl := h.cells.lt
 refine ⟨d, rfl, ⟨g1, o1, c1, g2, o2, c2, g3, o3, c3, 0, .slice none 0 0, ⟨⟨?_, ?_, ?_, ?_, ?_, fun e => k1.2.2 e.symm, fun e => k2.2.2 e.symm, fun e => k3.2.2 e.symm, fun e => h.n12 g1 rfl (e ▸ rfl), fun e => h.n13 g1 rfl (e ▸ rfl), fun e => h.n23 g2 rfl (e ▸ rfl)⟩, (fun k' mask e => by cases e), ⟨_, _, _, rfl⟩, fun g e => ?_, fun g e => e.2⟩⟩, h.still⟩
 · rw [hl]; exact h.cells
 · rw [hl, newD_now]; exact t1
 · rw [hl, newD_was]; exact t2
 · rw [hl, newD_wet]; exact t3
 · rw [hl]; exact h0
 · rcases e with rfl | rfl | rfl | rfl
   · exact ⟨h.dn, hdl⟩
   · exact ⟨k1.1, k1.2.1⟩
   · exact ⟨k2.1, k2.2.1⟩
   · exact ⟨k3.1, k3.2.1⟩
end Go.Proofs.YtojkggppcmdepaaGreat

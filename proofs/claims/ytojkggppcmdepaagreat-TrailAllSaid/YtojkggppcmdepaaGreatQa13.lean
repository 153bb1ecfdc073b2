/- A trail: all entries stable; opened. Conditions: all lies in memory, apart. A trail is opened. Conditions: the disk lies in memory; at most a thousand tiles. A disk that is new; entries that are said by numbers. Conditions: none but those of the calls. A trail whose entries are all stable: a Force does nothing. Conditions: it lies in memory. The document's trail: what a tile says. Conditions: a stream that lies in memory, of at most a million bytes. The document's trail in memory; how much room there is. Conditions: it lies in memory; a stream of at most a million bytes. A text as a row of bytes of its own. Conditions: bytes. -/
import Derived.Test.YtojkggppcmdepaaGreatQa12
import Derived.Lib.Hide
import Derived.Lib.ConvBytes
namespace Go.Proofs.YtojkggppcmdepaaGreat
open Go.RowKit Go.Wh Go.Maps

structure DkX (A : Nat → Prop) (d : Nat) (T : List (List Int)) (w : World) : Prop where
 dk : ∃ tv mb vs, DkAt w d T tv mb vs ∧ A d ∧ A mb ∧ (∀ g, tv.ownBlock = some g → A g) ∧ ∀ v ∈ vs, ∀ g, v.ownBlock = some g → A g
 lt : ∀ g, A g → g < w.heap.size
 byt : ∀ l ∈ T, Byt l
 len : T.length ≤ 2000
theorem DkX.only {A S : Nat → Prop} {d : Nat} {T : List (List Int)} {w w' : World} (h : DkX A d T w) (ho : Only S w w') (hs : ∀ g, A g → ¬ S g) : DkX A d T w' := by
 obtain ⟨tv, mb, vs, h1, h2, h3, h4, h5⟩ := h.dk
 exact ⟨⟨tv, mb, vs, h1.only ho (hs d h2) (hs mb h3) (fun g hg => hs g (h4 g hg)) (fun v hv g hg => hs g (h5 v hv g hg)), h2, h3, h4, h5⟩, fun g hg => Nat.lt_of_lt_of_le (h.lt g hg) ho.size, h.byt, h.len⟩
theorem DkX.still {A : Nat → Prop} {d : Nat} {T : List (List Int)} {w w' : World} (h : DkX A d T w) (hs : Still w w') : DkX A d T w' := h.only hs fun _ _ e => e
theorem DkX.newer {A : Nat → Prop} {d : Nat} {T : List (List Int)} {w w' : World} (h : DkX A d T w) (hs : Still w w') : DkX (Newer A w w') d T w' := by
 obtain ⟨tv, mb, vs, h1, h2, h3, h4, h5⟩ := (h.still hs).dk
 exact ⟨⟨tv, mb, vs, h1, .inl h2, .inl h3, fun g hg => .inl (h4 g hg), fun v hv g hg => .inl (h5 v hv g hg)⟩, fun g hg => hg.elim ((h.still hs).lt g) fun e => e.2, h.byt, h.len⟩
theorem DkX.turn {A : Nat → Prop} {d mb : Nat} {T T' : List (List Int)} {tv : Value} {vs : List Value} {w w' : World} {e : Ending} (h : DkX A d T w) (h3 : A mb) (h4 : ∀ g, tv.ownBlock = some g → A g) (h5 : ∀ v ∈ vs, ∀ g, v.ownBlock = some g → A g) (h2 : A d) (hw : WrPost w d T' tv mb vs e w') (hb : ∀ l ∈ T', Byt l) (hl : T'.length = T.length) :
 e = .returned (.int .i64 0) ∧ DkX (Newer A w w') d T' w' ∧ Only A w w' := by
 obtain ⟨he, vs', k1, k2, k3⟩ := hw
 have hz := k2.size
 refine ⟨he, ⟨⟨tv, mb, vs', k1, .inl h2, .inl h3, fun g hg => .inl (h4 g hg), fun v hv g hg => ?_⟩, fun g hg => hg.elim (fun e => by have := h.lt g e; omega) fun e => e.2, hb, by rw [hl]; exact h.len⟩, k2.mono fun b e => e.elim (fun e => e ▸ h3) (h4 b)⟩
 rcases k3 v hv with hv' | hv'
 · exact .inl (h5 v hv' g hg)
 · exact .inr ⟨hv' g hg, (k1.ia v hv g hg).2.2.2⟩

theorem clean_x {A B : Nat → Prop} {w : World} {t d at_ n st : Nat} {es : List PE} {T : List (List Int)} (h : TlX B t d at_ n es st w) (hd : DkX A d T w) (hab : ∀ g, A g → ¬ B g) (hn : at_ + n ≤ T.length) :
 Calls Tryz.prog 45 #[.pointer (some ⟨t, 0, none⟩)] w (fun e w' => e = .returned (.int .i64 0) ∧ DkX (Newer A w w') d (layB T at_ (streamB es) n) w' ∧ Only A w w') := by
 obtain ⟨sv, h1, h2, h3⟩ := h.tl
 obtain ⟨tv, mb, vs, k1, k2, k3, k4, k5⟩ := hd.dk
 refine (clean_any w t d at_ n (streamB es) sv es.length st T tv mb vs h1 k1 ⟨fun e => hab mb k3 (e ▸ h2), fun e => hab t (k4 t e) h2, fun g hg => ⟨fun e => hab mb k3 (e ▸ h3 g hg), fun e => hab g (k4 g e) (h3 g hg)⟩⟩ hd.len hn hd.byt (by have := h.len; have := h.n_le; omega)).mono fun e w' hw => ?_
 exact hd.turn k3 k4 k5 k2 hw (layB_byt hd.byt (streamB_byt h.byt)) layB_length

def FoPost (A B : Nat → Prop) (w : World) (t d at_ n : Nat) (es : List PE) (T : List (List Int)) (en : Ending) (w' : World) : Prop :=
 en = .returned (.int .i64 0) ∧ TlX B t d at_ n es es.length w' ∧ DkX (Newer A w w') d T w' ∧ Only (fun b => A b ∨ B b) w w'
set_option maxHeartbeats 2000000 in
set_option maxRecDepth 100000 in
theorem force_any {A B : Nat → Prop} {w : World} {t d at_ n st : Nat} {es : List PE} {T : List (List Int)} (h : TlX B t d at_ n es st w) (hd : DkX A d T w) (hab : ∀ g, A g → ¬ B g) (hn : at_ + n ≤ T.length) :
 Calls Tryz.prog 19 #[.pointer (some ⟨t, 0, none⟩)] w (FoPost A B w t d at_ n es (if st = es.length then T else layB T at_ (streamB es) n)) := by
 obtain ⟨sv, h1, h2, h3⟩ := h.tl
 have c4 : w.cell? ⟨t, 4, none⟩ = some (.int .i64 es.length) := h1.cells.cell 4
 have c5 : w.cell? ⟨t, 5, none⟩ = some (.int .i64 st) := h1.cells.cell 5
 have H := Lib.hid (And.intro h (And.intro hd (And.intro hab (And.intro hn (And.intro h2 h3)))))
 by_cases hs : st = es.length
 · have hq : ((st : Int) == (es.length : Int)) = true := by rw [hs]; simp
   rw [if_pos hs]
   have F := Lib.hid (fun w' (k : Still w w') => show FoPost A B w t d at_ n es T (.returned (.int .i64 0)) w' from ⟨rfl, by rw [← hs]; exact h.still k, hd.newer k, k.mono fun _ e => e.elim⟩)
   clear h hd hab hn h1 h2 h3 hs
   generalize es.length = L at *
   go_enter Tryz.func19, Tryz.ntmps19
   go_wp2_with fail
   go_quiet (fail)
   go_wp2_with fail
   go_ret
   exact F.out _ ((Still.refl w).drewN _)
 · have hq : ((st : Int) == (es.length : Int)) = false := by simp; omega
   rw [if_neg hs]
   have HC := Lib.hid (fun w' (k : Still w w') => clean_x (h.still k) (hd.still k) hab hn)
   clear h hd hab hn h1 h2 h3 hs
   go_enter Tryz.func19, Tryz.ntmps19
   go_wp2_with fail
   go_quiet (fail)
   have hs2 : Still w (w.drewN nq) := (Still.refl w).drewN _
   go_wp2_with fail
   refine (HC.out _ hs2).mono ?_
   rintro en w3 ⟨rfl, k1, k2⟩
   have ht3 := (H.out.1.still hs2).only k2 fun g hg e => H.out.2.2.1 g e hg
   obtain ⟨sv3, e1, e2, e3⟩ := ht3.tl
   have g4 : w3.cell? ⟨t, 4, none⟩ = some (.int .i64 es.length) := e1.cells.cell 4
   have g5 : w3.cell? ⟨t, 5, none⟩ = some (.int .i64 st) := e1.cells.cell 5
   have f5 := e1.cells.free 5
   have F := Lib.hid (show FoPost A B w t d at_ n es (layB T at_ (streamB es) n) (.returned (.int .i64 0)) (w3.setCell ⟨t, 5, none⟩ (.int .i64 es.length)) from by
    have hs5 := setCell_only w3 ⟨t, 5, none⟩ (.int .i64 es.length)
    have hzz : (w3.setCell ⟨t, 5, none⟩ (.int .i64 es.length)).heap.size = w3.heap.size := by simp [World.setCell]
    have hzd : (w.drewN nq).heap.size = w.heap.size := rfl
    have hz3 := k2.size
    have hlt := e1.cells.lt
    refine ⟨rfl, ⟨⟨sv3, ⟨e1.cells.setCell 5 _, e1.s.only hs5 fun g hg e => (e1.st_ g hg).1 e, e1.byt, fun g hg => ⟨(e1.st_ g hg).1, by rw [hzz]; exact (e1.st_ g hg).2⟩⟩, e2, e3⟩, fun g hg => by rw [hzz]; exact ht3.lt g hg, ht3.len, ht3.n_le, ht3.may, ht3.byt, Nat.le_refl _⟩, ?_, ?_⟩
    · have := k1.only hs5 fun g hg e => by
       have e' : g = t := e
       rcases hg with hg | hg
       · exact H.out.2.2.1 g hg (e' ▸ H.out.2.2.2.2.1)
       · have := H.out.1.lt t H.out.2.2.2.2.1
         have := hg.1
         omega
      have hN : ∀ g, Newer A (w.drewN nq) w3 g ↔ Newer A w (w3.setCell ⟨t, 5, none⟩ (.int .i64 es.length)) g := fun g => by
       unfold Newer
       rw [hzz, hzd]
      have heq : Newer A (w.drewN nq) w3 = Newer A w (w3.setCell ⟨t, 5, none⟩ (.int .i64 es.length)) := funext fun g => propext (hN g)
      rwa [heq] at this
    · exact ((hs2.mono fun _ e => e.elim).trans (k2.mono fun _ e => .inl e)).setCell (.inl (.inr H.out.2.2.2.2.1)) _)
   clear k1 k2 ht3 e1 e2 e3 hs2 HC
   go_wp2_with fail
   go_ret
   exact F.out
end Go.Proofs.YtojkggppcmdepaaGreat

namespace Go.Proofs.YtojkggppcmdepaaGreat
open Go.RowKit Go.Wh Go.Maps

set_option maxHeartbeats 400000 in
theorem clone_big (v : Value) (n : Nat) (xs : List Value) (w : World) (h : Reads w 1 v n xs) (h1c : ∀ u ∈ xs, u.oneCell' = true) (hn : n ≤ 100000) :
 Calls Tryz.prog 44 #[v] w (FreshPost w 1 n xs) := by
 rcases id h with ⟨hl, ⟨rfl, rfl⟩ | ⟨a, c, rfl, hc⟩⟩
 · have hnil : xs = [] := by simpa using hl
   have F := Lib.hid (show FreshPost w 1 0 xs (.returned (.slice none 0 0)) w from ⟨_, rfl, by rw [hnil]; exact Vec.nil _ _, Below.refl _ _, fun g hg => by cases hg⟩)
   clear h hl hnil
   have hnn := fun W : World => Lib.run_eql_slice_nil (P := Tryz.prog) W 23 5 none 0 0 0 0 Tryz.underlying23
   go_enter Tryz.func44, Tryz.ntmps44
   go_wp2_with fail
   go_ret
   exact F.out
 · obtain ⟨i0, hi, hz0, hz1, hz2⟩ := info_parts info_b
   have H := Lib.hid h
   have HC := Lib.hid h1c
   clear h hl hc h1c
   have hnn := fun W : World => Lib.run_eql_slice_nil (P := Tryz.prog) W 23 5 (some a) n c 0 0 Tryz.underlying23
   go_enter Tryz.func44, Tryz.ntmps44
   have H1 := Lib.hid (H.out.belowAll ((Below.refl _ _).alloc (Nat.le_refl _) (Obj.cells #[] 5)))
   go_wp2_with (at_builtin; refine wpList_append_vec rfl _ _ 23 rfl 5 i0 _ 1 1 Tryz.underlying23 hi hz0 hz1 hz2 rfl (by decide) _ 0 [] rfl (Vec.none_ _ _ _ _) _ n xs rfl H1.out HC.out (by simp only [maxLen]; omega) (by omega) ?_; intro v' w' hv' ho' hb')
   have F := Lib.hid (show FreshPost w 1 n xs (.returned v') w' from by
    have hbel := (Below.refl w.heap.size w).alloc (Nat.le_refl _) (Obj.cells #[] 5)
    refine ⟨v', rfl, by simpa using hv', hbel.trans (ho'.below (by simp) (fun i hi e => ?_)), fun g hg => ?_⟩
    · have e2 : w.heap.size = i := Option.some.inj e
      omega
    · rcases hb' with e | ⟨g', e, h1, h2⟩
      · have e2 : w.heap.size = g := Option.some.inj (e.symm.trans hg)
        have h3 := ho'.size
        simp at h3
        omega
      · rw [e] at hg
        injection hg with hg
        simp at h1
        omega)
   clear hv' ho' hb' H H1 HC
   go_wp2_with fail
   go_ret
   exact F.out

def OpPost (A : Nat → Prop) (w : World) (d at_ n : Nat) (T : List (List Int)) (en : Ending) (w' : World) : Prop :=
 ∃ (t : Nat) (lv : Value) (es : List PE) (A' B C : Nat → Prop), en = .returned (.tuple #[.pointer (some ⟨t, 0, none⟩), lv, .int .i64 0]) ∧ es = (scanB ((readB (tls T at_ n)).length + 1) (readB (tls T at_ n))).1 ∧
  DkX A' d (layB T at_ (streamB es) n) w' ∧ TlX B t d at_ n es es.length w' ∧ Ents w' C lv es ∧ Only A w w' ∧
  (∀ g, A' g → A g ∨ w.heap.size ≤ g) ∧ (∀ g, B g → w.heap.size ≤ g) ∧ (∀ g, C g → w.heap.size ≤ g ∧ g < w'.heap.size) ∧ (∀ g, A' g → ¬ B g) ∧ (∀ g, A' g → ¬ C g) ∧ ∀ g, B g → ¬ C g

theorem tlx_new (w : World) (d at_ n : Nat) (tt : TypeId) (hn : n ≤ 2000) : TlX (fun b => b = w.heap.size) w.heap.size d at_ n [] 0 (w.alloc (.cells #[.pointer (some ⟨d, 0, none⟩), .int .i64 at_, .int .i64 n, .slice none 0 0, .int .i64 0, .int .i64 0] tt)) :=
 ⟨⟨.slice none 0 0, ⟨cellsAt_new w [.pointer (some ⟨d, 0, none⟩), .int .i64 at_, .int .i64 n, .slice none 0 0, .int .i64 0, .int .i64 0] tt, Vec.nil _ _, (fun z hz => by cases hz), (fun g e => by cases e)⟩, rfl, (fun g e => by cases e)⟩, fun g hg => by simp; omega, by simp [streamB], hn, (fun e he => by cases he), (fun e he => by cases he), Nat.le_refl _⟩
set_option maxHeartbeats 4000000 in
set_option maxRecDepth 100000 in
theorem open_any {A : Nat → Prop} {w : World} {d at_ n : Nat} {T : List (List Int)} (hd : DkX A d T w) (hn : at_ + n ≤ T.length) (hk : n ≤ 1000) :
 Calls Tryz.prog 15 #[.pointer (some ⟨d, 0, none⟩), .int .i64 at_, .int .i64 n] w (OpPost A w d at_ n T) := by
 obtain ⟨tv, mb, vs, hdk, k2, k3, k4, k5⟩ := hd.dk
 have HT := Lib.hid (tiles_any w d T tv mb vs hdk)
 have HDD := Lib.hid (dead_any w d T tv mb vs hdk)
 have hTl := hd.len
 have HD := Lib.hid (And.intro hd (And.intro hn hk))
 have a1 : decide ((at_ : Int) < 0) = false := by simp
 have a2 : decide ((n : Int) < 0) = false := by simp
 have a3 : decide ((T.length : Int) < (at_ : Int)) = false := decide_eq_false (by omega)
 have a3' : decide (T.length < at_) = false := decide_eq_false (by omega)
 have a4 : decide ((T.length : Int) - (at_ : Int) < (n : Int)) = false := decide_eq_false (by omega)
 have u1 : IntKind.i64.wrap ((T.length : Int) - (at_ : Int)) = (T.length : Int) - (at_ : Int) := IntWalk.i64_in _ (by omega)
 clear hd hdk k2 k3 k4 k5
 go_enter Tryz.func15, Tryz.ntmps15
 go_wp2_with fail
 refine HT.out.mono ?_
 rintro en w1 ⟨rfl, rfl⟩
 go_wp2_with fail
 refine HT.out.mono ?_
 rintro en w2 ⟨rfl, rfl⟩
 go_wp2_with fail
 refine HDD.out.mono ?_
 rintro en w3 ⟨rfl, rfl⟩
 clear HT HDD a1 a2 a3 a3' a4 u1
 go_upto_region 6 with fail
 have hst : Still w3 (w3.alloc (.cells #[.pointer (some ⟨d, 0, none⟩), .int .i64 at_, .int .i64 n, .slice none 0 0, .int .i64 0, .int .i64 0] 87)) := (Still.refl w3).alloc _
 have htl := tlx_new w3 d at_ n 87 (by omega)
 have hz0 : (w3.alloc (.cells #[.pointer (some ⟨d, 0, none⟩), .int .i64 at_, .int .i64 n, .slice none 0 0, .int .i64 0, .int .i64 0] 87)).heap.size = w3.heap.size + 1 := by simp
 generalize w3.alloc (.cells #[.pointer (some ⟨d, 0, none⟩), .int .i64 at_, .int .i64 n, .slice none 0 0, .int .i64 0, .int .i64 0] 87) = W at *
 obtain ⟨t, ht⟩ : ∃ t, w3.heap.size = t := ⟨_, rfl⟩
 rw [ht] at htl
 rw [ht]
 have hdW := HD.out.1.still hst
 obtain ⟨sv, t1, -, -⟩ := htl.tl
 obtain ⟨tv', mb', vs', hdk', -, -, -, -⟩ := hdW.dk
 have HRD := Lib.hid (readT_any W t d at_ n (streamB []) sv 0 0 T tv' mb' vs' t1 hdk' HD.out.1.len HD.out.2.1 HD.out.1.byt)
 have H0 := Lib.hid (And.intro hst (And.intro htl (And.intro hdW (And.intro ht hz0))))
 clear hst htl hdW ht hz0 t1 hdk'
 obtain ⟨b, hb⟩ : ∃ b, readB (tls T at_ n) = b := ⟨_, rfl⟩
 have hbl : b.length ≤ 63000 := by
  have h1 := readB_len (tls T at_ n)
  have h2 : (tls T at_ n).length ≤ n := by unfold tls; rw [List.length_take]; omega
  rw [hb] at h1
  have := HD.out.2.2
  omega
 rw [hb] at HRD
 have HB := Lib.hid hb
 clear hb
 go_wp2_with fail
 refine HRD.out.mono ?_
 rintro en w4 ⟨bv, rfl, hbv, hs4, ho4, hby⟩
 have HSC := Lib.hid (scan_any w4 (fun _ => True) bv b.length b (Vec.sl0 hbv (by omega)) (Vec.capOf hbv) hby (by omega))
 obtain ⟨ba, bcp, rfl⟩ := hbv.form'
 have H4 := Lib.hid (And.intro hbv (And.intro hs4 (And.intro hby ho4)))
 have HBL := Lib.hid hbl
 obtain ⟨es, hes⟩ : ∃ es, (scanB (b.length + 1) b).1 = es := ⟨_, rfl⟩
 obtain ⟨m, hm⟩ : ∃ m, (scanB (b.length + 1) b).2 = m := ⟨_, rfl⟩
 have hsi := scanB_is (b.length + 1) b hby
 have hsl := scanB_len (b.length + 1) b
 unfold ScanPost at HSC
 rw [hes, hm] at HSC hsi hsl
 have HSI := Lib.hid (And.intro hsi (And.intro hsl hes))
 have hmb : m ≤ b.length := hsl.1
 clear hbv hs4 ho4 hby HRD hsi hsl hes hm
 go_wp2_with fail
 refine HSC.out.mono ?_
 rintro en w5 ⟨lv, rfl, hen, hs5⟩
 obtain ⟨la, lc, rfl⟩ := hen.form
 have hbv5 := H4.out.1.only hs5 fun _ _ e => e
 obtain ⟨pv, -, r1, -, hpv⟩ := Go.Wh.Vec.part (P := Tryz.prog) (size := 1) 23 Tryz.underlying23 (fun w => rfl) hbv5 (Nat.zero_le m) hmb
 have r1' := r1 rfl
 have hp5 := hpv w5 hbv5
 have hpc : ((bc b).drop (0 * 1)).take ((m - 0) * 1) = bc (streamB es) := by
  rw [Nat.zero_mul, List.drop_zero, Nat.mul_one, Nat.sub_zero, bc_take, HSI.out.1.1]
 rw [hpc, Nat.sub_zero] at hp5
 obtain ⟨pa, pc, rfl⟩ := hp5.form'
 have HCL := Lib.hid (clone_big (.slice pa m pc) m (bc (streamB es)) w5 hp5.reads (bc_one _) (by have := HBL.out; omega))
 have H5 := Lib.hid (And.intro hen hs5)
 have htl5 := (H0.out.2.1.still H4.out.2.1).still hs5
 have HT5 := Lib.hid htl5
 clear hen hs5 hbv5 r1 hpv hp5 hpc HSC htl5
 go_wp2_with fail
 refine HCL.out.mono ?_
 rintro en w6 ⟨sv, rfl, hsv, hb6, ho6⟩
 have hs6 : Still w5 w6 := Only.ofBelow hb6
 obtain ⟨sa, sc, rfl⟩ := hsv.form'
 have htl6 := HT5.out.still hs6
 obtain ⟨sv0, t6, -, -⟩ := htl6.tl
 have c3 : ∃ u, w6.cell? ⟨t, 3, none⟩ = some u := ⟨_, t6.cells.cell 3⟩
 obtain ⟨u3, c3⟩ := c3
 have c4 : w6.cell? ⟨t, 4, none⟩ = some (.int .i64 ((0 : Nat) : Int)) := t6.cells.cell 4
 have c5 : w6.cell? ⟨t, 5, none⟩ = some (.int .i64 ((0 : Nat) : Int)) := t6.cells.cell 5
 have f3 := t6.cells.free 3
 have f4 := t6.cells.free 4
 have f5 := t6.cells.free 5
 have H6 := Lib.hid (And.intro hsv (And.intro hs6 (And.intro ho6 t6)))
 clear hsv hb6 ho6 hs6 htl6 t6 HCL HT5
 go_upto_region 11 with fail
 have hmS : (streamB es).length = m := by
  have := congrArg List.length HSI.out.1.1
  rw [List.length_take] at this
  omega
 have htX : TlX (fun g => g = t ∨ (Value.slice sa m sc).ownBlock = some g) t d at_ n es es.length (((w6.setCell ⟨t, 3, none⟩ (.slice sa m sc)).setCell ⟨t, 4, none⟩ (.int .i64 (es.length : Int))).setCell ⟨t, 5, none⟩ (.int .i64 (es.length : Int))) := by
  have t6 := H6.out.2.2.2
  have hzz : (((w6.setCell ⟨t, 3, none⟩ (.slice sa m sc)).setCell ⟨t, 4, none⟩ (.int .i64 (es.length : Int))).setCell ⟨t, 5, none⟩ (.int .i64 (es.length : Int))).heap.size = w6.heap.size := by simp [World.setCell]
  have hss : Only (fun b => b = t) w6 (((w6.setCell ⟨t, 3, none⟩ (.slice sa m sc)).setCell ⟨t, 4, none⟩ (.int .i64 (es.length : Int))).setCell ⟨t, 5, none⟩ (.int .i64 (es.length : Int))) := ((setCell_only w6 ⟨t, 3, none⟩ _).trans (setCell_only _ ⟨t, 4, none⟩ _)).trans (setCell_only _ ⟨t, 5, none⟩ _)
  have hlt := t6.cells.lt
  have ht5 : t < w5.heap.size := by
   have h1 := H0.out.2.2.2.1
   have h2 := H0.out.2.2.2.2
   have h3 := H4.out.2.1.size
   have h4 := H5.out.2.size
   omega
  refine ⟨⟨.slice sa m sc, ⟨((t6.cells.setCell 3 _).setCell 4 _).setCell 5 _, ?_, streamB_byt HSI.out.1.2.2, fun g hg => ?_⟩, .inl rfl, fun g hg => .inr hg⟩, fun g hg => ?_, ?_, by have := HD.out.2.2; omega, HSI.out.1.2.1, HSI.out.1.2.2, Nat.le_refl _⟩
  · rw [hmS]
    exact H6.out.1.only hss fun g hg e => by have := (H6.out.2.2.1 g hg).1; have e' : g = t := e; omega
  · rw [hzz]
    have := H6.out.2.2.1 g hg
    exact ⟨by omega, this.2⟩
  · rw [hzz]
    rcases hg with rfl | hg
    · exact hlt
    · exact (H6.out.2.2.1 g hg).2
  · rw [hmS]
    have h1 := readB_len (tls T at_ n)
    have h2 : (tls T at_ n).length ≤ n := by unfold tls; rw [List.length_take]; omega
    rw [HB.out] at h1
    have := HSI.out.2.1.1
    omega
 have hss : Still w3 (((w6.setCell ⟨t, 3, none⟩ (.slice sa m sc)).setCell ⟨t, 4, none⟩ (.int .i64 (es.length : Int))).setCell ⟨t, 5, none⟩ (.int .i64 (es.length : Int))) := by
  have h1 := ((H0.out.1.trans H4.out.2.1).trans H5.out.2).trans H6.out.2.1
  have ht := H0.out.2.2.2.1
  exact ((h1.setCell (.inr (by show w3.heap.size ≤ t; omega)) _).setCell (.inr (by show w3.heap.size ≤ t; omega)) _).setCell (.inr (by show w3.heap.size ≤ t; omega)) _
 have hz6 : (((w6.setCell ⟨t, 3, none⟩ (.slice sa m sc)).setCell ⟨t, 4, none⟩ (.int .i64 (es.length : Int))).setCell ⟨t, 5, none⟩ (.int .i64 (es.length : Int))).heap.size = w6.heap.size := by simp [World.setCell]
 have hne : Ents (((w6.setCell ⟨t, 3, none⟩ (.slice sa m sc)).setCell ⟨t, 4, none⟩ (.int .i64 (es.length : Int))).setCell ⟨t, 5, none⟩ (.int .i64 (es.length : Int))) (fun g => w4.heap.size ≤ g ∧ g < w5.heap.size) (.slice la es.length lc) es := by
  have ht4 : t < w4.heap.size := by
   have h1 := H0.out.2.2.2.1
   have h2 := H0.out.2.2.2.2
   have h3 := H4.out.2.1.size
   omega
  have hss2 : Only (fun b => b = t) w6 (((w6.setCell ⟨t, 3, none⟩ (.slice sa m sc)).setCell ⟨t, 4, none⟩ (.int .i64 (es.length : Int))).setCell ⟨t, 5, none⟩ (.int .i64 (es.length : Int))) := ((setCell_only w6 ⟨t, 3, none⟩ _).trans (setCell_only _ ⟨t, 4, none⟩ _)).trans (setCell_only _ ⟨t, 5, none⟩ _)
  exact (H5.out.1.low.still H6.out.2.1).only hss2 fun g hg e => by omega
 generalize (((w6.setCell ⟨t, 3, none⟩ (.slice sa m sc)).setCell ⟨t, 4, none⟩ (.int .i64 (es.length : Int))).setCell ⟨t, 5, none⟩ (.int .i64 (es.length : Int))) = wT at *
 have hdT := HD.out.1.still hss
 have hA3 : ∀ g, A g → g < w3.heap.size := HD.out.1.lt
 have hord : w3.heap.size = t ∧ t < w4.heap.size ∧ w4.heap.size ≤ w5.heap.size ∧ w5.heap.size ≤ w6.heap.size := by
  have h1 := H0.out.2.2.2.1
  have h2 := H0.out.2.2.2.2
  have h3 := H4.out.2.1.size
  have h4 := H5.out.2.size
  have h5 := H6.out.2.1.size
  exact ⟨h1, by omega, h4, h5⟩
 have HCN := Lib.hid (clean_x htX hdT (fun g hg e => by
  have := hA3 g hg
  rcases e with e | e
  · omega
  · have := (H6.out.2.2.1 g e).1
    omega) HD.out.2.1)
 have HF := Lib.hid (And.intro htX (And.intro hss (And.intro hz6 (And.intro hne (And.intro hA3 hord)))))
 clear htX hss hz6 hne hA3 hord hdT c3 c4 c5 f3 f4 f5 hmS
 go_wp2_with fail
 refine HCN.out.mono ?_
 rintro en w7 ⟨rfl, kd, ko⟩
 have F := Lib.hid (show OpPost A w3 d at_ n T (.returned (.tuple #[.pointer (some ⟨t, 0, none⟩), .slice la es.length lc, .int .i64 0])) w7 from by
  obtain ⟨htX, hss, hz6, hne, hA3, o1, o2, o3, o4⟩ := HF.out
  have hz7 := ko.size
  refine ⟨t, _, es, Newer A wT w7, fun g => g = t ∨ (Value.slice sa m sc).ownBlock = some g, fun g => w4.heap.size ≤ g ∧ g < w5.heap.size, rfl, ?_, kd, ?_, ?_, ?_, ?_, ?_, ?_, ?_, ?_, ?_⟩
  · rw [HB.out, HSI.out.2.2]
  · refine htX.only ko fun g hg e => ?_
    have := hA3 g e
    rcases hg with hg | hg
    · omega
    · have := (H6.out.2.2.1 g hg).1
      omega
  · exact hne.only ko fun g hg e => by have := hA3 g e; omega
  · exact (hss.mono fun _ e => e.elim).trans ko
  · intro g hg
    rcases hg with hg | hg
    · exact .inl hg
    · exact .inr (by omega)
  · intro g hg
    rcases hg with hg | hg
    · omega
    · have := (H6.out.2.2.1 g hg).1
      omega
  · intro g hg
    exact ⟨by omega, by omega⟩
  · intro g hg e
    rcases hg with hg | hg
    · have := hA3 g hg
      rcases e with e | e
      · omega
      · have := (H6.out.2.2.1 g e).1
        omega
    · rcases e with e | e
      · omega
      · have := (H6.out.2.2.1 g e).2
        omega
  · intro g hg e
    rcases hg with hg | hg
    · have := hA3 g hg
      omega
    · omega
  · intro g hg e
    rcases hg with hg | hg
    · omega
    · have := (H6.out.2.2.1 g hg).1
      omega)
 clear kd ko HCN
 go_wp2_with fail
 go_ret3
 exact F.out
end Go.Proofs.YtojkggppcmdepaaGreat

namespace Go.Proofs.YtojkggppcmdepaaGreat
open Go.RowKit Go.Wh Go.Maps

def zeroT (n : Nat) : List (List Int) := List.replicate n (List.replicate 64 0)
theorem newx_any (w : World) (n : Nat) (hn : n ≤ 2000) {N : Int} (hN : (n : Int) = N) :
 Calls Tryz.prog 13 #[.int .i64 N] w (fun e w' => ∃ d, e = .returned (.pointer (some ⟨d, 0, none⟩)) ∧ DkX (fun g => w.heap.size ≤ g ∧ g < w'.heap.size) d (zeroT n) w' ∧ Still w w') := by
 subst hN
 refine (new_any w n hn).mono fun e w' h => ?_
 obtain ⟨d, mb, rfl, h1, h2, tv, vs, hd, hs, ht, hv⟩ := h
 have hlt := hd.lt
 exact ⟨d, rfl, ⟨⟨tv, mb, vs, hd, ⟨h1, hlt.1⟩, ⟨h2, hlt.2⟩, fun g hg => ⟨ht g hg, (hd.td g hg).2.2⟩, fun v hv' g hg => ⟨hv v hv' g hg, (hd.ia v hv' g hg).2.2.2⟩⟩, fun g hg => hg.2, fun l hl => by rw [(List.mem_replicate.1 hl).2]; exact Byt.zeros 64, by unfold zeroT; rw [List.length_replicate]; exact hn⟩, hs⟩
theorem tls_zero {m a n : Nat} (h : a + n ≤ m) : tls (zeroT m) a n = zeroT n := by
 unfold tls zeroT
 rw [List.drop_replicate, List.take_replicate]
 congr 1
 omega
theorem readB_zero (n : Nat) : readB (zeroT n) = [] := by
 cases n with
 | zero => rfl
 | succ n =>
  show readB (List.replicate 64 0 :: zeroT n) = []
  rw [readB_cons]
  rfl
theorem scanB_nil : scanB (([] : List Int).length + 1) [] = ([], 0) := rfl
theorem tileB_nil (i : Nat) : tileB [] i = List.replicate 64 0 := by
 unfold tileB partB
 simp
theorem layB_zero {m a : Nat} : ∀ (n : Nat), a + n ≤ m → layB (zeroT m) a [] n = zeroT m
 | 0, _ => rfl
 | n + 1, h => by
  unfold layB
  rw [layB_zero n (by omega), tileB_nil]
  unfold zeroT
  apply List.ext_getElem?
  intro i
  rw [List.getElem?_set]
  split
  · rename_i hi
    subst hi
    have hi : a + n < m := by omega
    simp [hi]
  · rfl
def nE (k t : Int) : PE := ⟨k, t, 0, 0, 0, 0, 0, 0, 0, 0, [], [], [], [], [], []⟩
theorem nE_may {k t : Int} (h : 1 ≤ k ∧ k ≤ 10) (ht : 0 ≤ t ∧ t < 256) : (nE k t).may = true := by
 unfold PE.may nE
 have p1 : (256 : Int) ^ 1 = 256 := rfl
 simp only [Bool.and_eq_true, fitsB_cons, decide_eq_true_eq, p1]
 exact ⟨⟨⟨⟨⟨⟨⟨⟨⟨⟨⟨⟨h.1, h.2⟩, ⟨ht, by decide⟩⟩, by decide⟩, by decide⟩, by decide⟩, by decide⟩, rfl⟩, rfl⟩, rfl⟩, rfl⟩, rfl⟩, rfl⟩
theorem nE_len (k t : Int) : (frameB (nE k t)).length = 25 := by
 rw [frameB_length, encB_short _ rfl rfl rfl rfl]
 rfl
theorem nE_is (w : World) (P : Nat → Prop) (k t : Int) : EIs w P (nE k t) (.slice none 0 0) (.slice none 0 0) (.slice none 0 0) (.slice none 0 0) (.slice none 0 0) (.slice none 0 0) := EIs.none _ _ _ _ _ _ _ _ _ _
theorem nE_not (t : Int) : (nE 0 t).may = false := by
 unfold PE.may nE
 simp

section
variable {A B Q : Nat → Prop} {w : World} {t d at_ n st : Nat} {es : List PE} {T : List (List Int)} {e : PE} {ov nv mv lv dv pv : Value}
theorem ap_ok (h : TlX B t d at_ n es st w) (he : EIs w Q e ov nv mv lv dv pv) (hm : e.may = true) (hr : (streamB es).length + (frameB e).length ≤ n * 63) {N : Int} (hN : ((es.length + 1 : Nat) : Int) = N) :
 Calls Tryz.prog 17 #[.pointer (some ⟨t, 0, none⟩), .agg (eV e ov nv mv lv dv pv)] w (fun en w' => en = .returned (.tuple #[.int .i64 N, .int .i64 0]) ∧ TlX (Newer B w w') t d at_ n (es ++ [e]) st w' ∧ Only B w w') := by
 refine (append_any B w t d at_ n es st e ov nv mv lv dv pv h he).mono fun en w' hp => ?_
 obtain ⟨es', a, k, rfl, h1, h2, h3⟩ := hp
 rcases h3 with ⟨h, _⟩ | ⟨_, h, _⟩ | ⟨_, _, rfl, rfl, rfl⟩
 · rw [hm] at h; cases h
 · omega
 · exact ⟨by rw [hN], h1, h2⟩
theorem ap_full (h : TlX B t d at_ n es st w) (he : EIs w Q e ov nv mv lv dv pv) (hm : e.may = true) (hr : n * 63 < (streamB es).length + (frameB e).length) :
 Calls Tryz.prog 17 #[.pointer (some ⟨t, 0, none⟩), .agg (eV e ov nv mv lv dv pv)] w (fun en w' => en = .returned (.tuple #[.int .i64 0, .int .i64 5]) ∧ TlX (Newer B w w') t d at_ n es st w' ∧ Only B w w') := by
 refine (append_any B w t d at_ n es st e ov nv mv lv dv pv h he).mono fun en w' hp => ?_
 obtain ⟨es', a, k, rfl, h1, h2, h3⟩ := hp
 rcases h3 with ⟨h, _⟩ | ⟨_, h, rfl, rfl, rfl⟩ | ⟨_, h, _⟩
 · rw [hm] at h; cases h
 · exact ⟨rfl, h1, h2⟩
 · omega
theorem ap_bad (h : TlX B t d at_ n es st w) (he : EIs w Q e ov nv mv lv dv pv) (hm : e.may = false) :
 Calls Tryz.prog 17 #[.pointer (some ⟨t, 0, none⟩), .agg (eV e ov nv mv lv dv pv)] w (fun en w' => en = .returned (.tuple #[.int .i64 0, .int .i64 1]) ∧ TlX (Newer B w w') t d at_ n es st w' ∧ Only B w w') := by
 refine (append_any B w t d at_ n es st e ov nv mv lv dv pv h he).mono fun en w' hp => ?_
 obtain ⟨es', a, k, rfl, h1, h2, h3⟩ := hp
 rcases h3 with ⟨_, rfl, rfl, rfl⟩ | ⟨h, _⟩ | ⟨h, _⟩
 · exact ⟨rfl, h1, h2⟩
 · rw [hm] at h; cases h
 · rw [hm] at h; cases h
def OqPost (A : Nat → Prop) (w : World) (d at_ n : Nat) (T : List (List Int)) (es : List PE) (en : Ending) (w' : World) : Prop :=
 ∃ (t : Nat) (la : Option Addr) (lc : Nat) (A' B C : Nat → Prop), en = .returned (.tuple #[.pointer (some ⟨t, 0, none⟩), .slice la es.length lc, .int .i64 0]) ∧
  DkX A' d T w' ∧ TlX B t d at_ n es es.length w' ∧ Ents w' C (.slice la es.length lc) es ∧ Only A w w' ∧
  (∀ g, A' g → A g ∨ w.heap.size ≤ g) ∧ (∀ g, B g → w.heap.size ≤ g) ∧ (∀ g, C g → w.heap.size ≤ g ∧ g < w'.heap.size) ∧ (∀ g, A' g → ¬ B g) ∧ (∀ g, A' g → ¬ C g) ∧ ∀ g, B g → ¬ C g
theorem open_q {T' : List (List Int)} (hd : DkX A d T w) (hn : at_ + n ≤ T.length) (hk : n ≤ 1000) (he : (scanB ((readB (tls T at_ n)).length + 1) (readB (tls T at_ n))).1 = es) (hT : layB T at_ (streamB es) n = T') {a k : Int} (ha : (at_ : Int) = a) (hkk : (n : Int) = k) :
 Calls Tryz.prog 15 #[.pointer (some ⟨d, 0, none⟩), .int .i64 a, .int .i64 k] w (OqPost A w d at_ n T' es) := by
 subst ha hkk
 refine (open_any hd hn hk).mono fun en w' hp => ?_
 obtain ⟨t, lv, es', A', B, C, rfl, h1, h2, h3, h4, h5⟩ := hp
 rw [he] at h1
 subst h1
 obtain ⟨la, lc, rfl⟩ := h4.form
 rw [hT] at h2
 exact ⟨t, la, lc, A', B, C, rfl, h2, h3, h4, h5⟩
theorem open_zero {m : Nat} (hd : DkX A d (zeroT m) w) (hn : at_ + n ≤ m) (hk : n ≤ 1000) {a k : Int} (ha : (at_ : Int) = a) (hkk : (n : Int) = k) :
 Calls Tryz.prog 15 #[.pointer (some ⟨d, 0, none⟩), .int .i64 a, .int .i64 k] w (OqPost A w d at_ n (zeroT m) []) :=
 open_q hd (by unfold zeroT; rw [List.length_replicate]; exact hn) hk (by rw [tls_zero hn, readB_zero]; rfl) (layB_zero n hn) ha hkk
theorem layB_same : ∀ {j : Nat} {T : List (List Int)} {a : Nat} {S : List Int} {n : Nat}, a + n ≤ T.length → j ≤ n → layB (layB T a S n) a S j = layB T a S n
 | 0, _, _, _, _, _, _ => rfl
 | j + 1, T, a, S, n, hl, hj => by
  show (layB (layB T a S n) a S j).set (a + j) (tileB S j) = _
  rw [layB_same hl (by omega)]
  apply List.ext_getElem?
  intro i
  rw [List.getElem?_set]
  split
  · rename_i hi
    subst hi
    rw [layB_get hl (by omega), if_pos (by rw [layB_length]; omega)]
  · rfl
theorem open_laid (hd : DkX A d (layB T at_ (streamB es) n) w) (hn : at_ + n ≤ T.length) (hk : n ≤ 1000) (hm : ∀ e ∈ es, e.may = true) (hs : (streamB es).length ≤ n * 63) {a k : Int} (ha : (at_ : Int) = a) (hkk : (n : Int) = k) :
 Calls Tryz.prog 15 #[.pointer (some ⟨d, 0, none⟩), .int .i64 a, .int .i64 k] w (OqPost A w d at_ n (layB T at_ (streamB es) n) es) :=
 open_q hd (by rw [layB_length]; exact hn) hk (scan_laid hn hm hs) (layB_same hn (Nat.le_refl _)) ha hkk
theorem stable_x (h : TlX B t d at_ n es st w) {N : Int} (hN : (st : Int) = N) : Calls Tryz.prog 30 #[.pointer (some ⟨t, 0, none⟩)] w (SamePost w (.int .i64 N)) := by
 subst hN
 obtain ⟨sv, h1, -, -⟩ := h.tl
 exact stable_any w t d at_ n (streamB es) sv es.length st h1
theorem count_x (h : TlX B t d at_ n es st w) {N : Int} (hN : (es.length : Int) = N) : Calls Tryz.prog 29 #[.pointer (some ⟨t, 0, none⟩)] w (SamePost w (.int .i64 N)) := by
 subst hN
 obtain ⟨sv, h1, -, -⟩ := h.tl
 exact count_any w t d at_ n (streamB es) sv es.length st h1
theorem left_x (h : TlX B t d at_ n es st w) {N : Int} (hN : 63 * (n : Int) - ((streamB es).length : Int) = N) : Calls Tryz.prog 31 #[.pointer (some ⟨t, 0, none⟩)] w (StPost w (.int .i64 N)) := by
 subst hN
 obtain ⟨sv, h1, -, -⟩ := h.tl
 exact left_any w t d at_ n (streamB es) sv es.length st h1 h.n_le (by have := h.len; have := h.n_le; omega)
end
end Go.Proofs.YtojkggppcmdepaaGreat

namespace Go.Proofs.YtojkggppcmdepaaGreat
open Go.RowKit Go.Wh Go.Maps

set_option maxHeartbeats 2000000 in
set_option maxRecDepth 100000 in
theorem force_same {B : Nat → Prop} {w : World} {t d at_ n st : Nat} {es : List PE} (h : TlX B t d at_ n es st w) (hs : st = es.length) :
 Calls Tryz.prog 19 #[.pointer (some ⟨t, 0, none⟩)] w (StPost w (.int .i64 0)) := by
 obtain ⟨sv, h1, h2, h3⟩ := h.tl
 have c4 : w.cell? ⟨t, 4, none⟩ = some (.int .i64 es.length) := h1.cells.cell 4
 have c5 : w.cell? ⟨t, 5, none⟩ = some (.int .i64 st) := h1.cells.cell 5
 have hq : ((st : Int) == (es.length : Int)) = true := by rw [hs]; simp
 have F := Lib.hid (fun w' (k : Still w w') => show StPost w (.int .i64 0) (.returned (.int .i64 0)) w' from ⟨rfl, k⟩)
 clear h h1 h2 h3 hs
 generalize es.length = L at *
 go_enter Tryz.func19, Tryz.ntmps19
 go_wp2_with fail
 go_quiet (fail)
 go_wp2_with fail
 go_ret
 exact F.out _ ((Still.refl w).drewN _)
end Go.Proofs.YtojkggppcmdepaaGreat

namespace Go.Proofs.YtojkggppcmdepaaGreat
open Go.RowKit Go.Wh Go.Maps

def tlSo (S : List Int) (k j : Nat) : List Int := ((partB S k).length : Int) :: ((partB S k).take j ++ List.replicate (63 - j) 0)
theorem tlSo_zero (S : List Int) (k : Nat) : tlSo S k 0 = ((partB S k).length : Int) :: List.replicate 63 0 := by
 simp [tlSo]
theorem tlSo_all (S : List Int) (k : Nat) : tlSo S k (partB S k).length = tileB S k := by
 unfold tlSo tileB
 rw [List.take_length]
theorem tlSo_next {S : List Int} {k j : Nat} {x : Int} (hj : (partB S k)[j]? = some x) (h63 : j < 63) : (tlSo S k j).set (j + 1) x = tlSo S k (j + 1) := by
 obtain ⟨hl, he⟩ := List.getElem?_eq_some_iff.1 hj
 unfold tlSo
 rw [List.set_cons_succ, List.set_append_right _ _ (by rw [List.length_take]; omega), List.length_take, Nat.min_eq_left (by omega), Nat.sub_self]
 rw [show 63 - j = (63 - (j + 1)) + 1 by omega, List.replicate_succ, List.set_cons_zero]
 have e : (partB S k).take (j + 1) = (partB S k).take j ++ [x] := by
  rw [List.take_add_one, hj]
  rfl
 rw [e, List.append_assoc]
 rfl
theorem bc_set (l : List Int) (j : Nat) (x : Int) : bc (l.set j x) = (bc l).set j (.int .u8 x) := by
 unfold bc
 rw [List.map_set]
theorem partB_at {S : List Int} {k j : Nat} (h : j < (partB S k).length) : ∃ x, (partB S k)[j]? = some x ∧ S[k * 63 + j]? = some x := by
 refine ⟨_, List.getElem?_eq_getElem h, ?_⟩
 rw [← List.getElem?_eq_getElem h]
 have hl := partB_length S k
 unfold partB
 rw [List.getElem?_take, if_pos (by omega), List.getElem?_drop]
set_option maxHeartbeats 4000000 in
set_option maxRecDepth 100000 in
theorem rtile_any (w : World) (Q : Nat → Prop) (sa : Option Addr) (m sk : Nat) (S : List Int) (k : Nat) (h : Sl w Q 1 (.slice sa m sk) m (bc S)) (hl : S.length = m) (hk : k ≤ 2000) (hS : m ≤ 1000000) :
 Calls Tryz.prog 86 #[.slice sa m sk, .int .i64 k] w (StPost w (.string (strOfNums (tileB S k)))) := by
 have H := Lib.hid (And.intro h (And.intro hl (And.intro hk hS)))
 have hpl := partB_length S k
 rw [hl] at hpl
 obtain ⟨pl, hp⟩ : ∃ pl, (partB S k).length = pl := ⟨_, rfl⟩
 rw [hp] at hpl
 have HP := Lib.hid (And.intro hp (show pl ≤ 63 from by omega))
 obtain ⟨K, hK⟩ : ∃ K, k * 63 = K := ⟨_, rfl⟩
 have hKi : (k : Int) * 63 = (K : Int) := by omega
 have u1 : IntKind.i64.wrap (K : Int) = (K : Int) := IntWalk.i64_in _ (by omega)
 obtain ⟨z, hz⟩ : ∃ z : Int, (m : Int) - (K : Int) = z := ⟨_, rfl⟩
 have u2 : IntKind.i64.wrap z = z := IntWalk.i64_in _ (by omega)
 obtain ⟨M, hM⟩ : ∃ M : Nat, max z 0 = (M : Int) := ⟨(max z 0).toNat, by omega⟩
 have hm2 : min (M : Int) 63 = (pl : Int) := by omega
 have HK := Lib.hid (And.intro hK (show 0 < pl → K + pl ≤ m from by omega))
 have hmk : ∀ w : World, (Instr.makeSlice 23 (.int .i64 64) (.int .i64 64)).run Tryz.prog w = .ok (.slice (some ⟨w.heap.size, 0, none⟩) 64 64) (w.alloc (.cells zeros64 5)) := make64
 have pm : (pl : Int) % 256 = pl := by have := HP.out; omega
 clear h hl hk hS hp hpl hK
 go_enter Tryz.func86, Tryz.ntmps86
 go_upto_region 2 with fail
 have hzc := cellsAt_new w (bc (List.replicate 64 0)) 5
 have hs1 : Still w (w.alloc (.cells zeros64 5)) := (Still.refl w).alloc _
 change cellsAt (w.alloc (.cells zeros64 5)) w.heap.size _ at hzc
 clear hmk
 generalize (w.alloc (.cells zeros64 5)) = w1 at *
 obtain ⟨b, hb⟩ : ∃ b, w.heap.size = b := ⟨_, rfl⟩
 rw [hb] at hzc
 rw [hb]
 have cb : w1.cell? ⟨b, 0, none⟩ = some (.int .u8 0) := hzc.cell 0
 have fb : w1.frozen? ⟨b, 0, none⟩ = false := hzc.free 0
 have HST := Lib.hid (show Still w (w1.setCell ⟨b, 0, none⟩ (.int .u8 (pl : Int))) ∧ cellsAt (w1.setCell ⟨b, 0, none⟩ (.int .u8 (pl : Int))) b (bc (tlSo S k 0)) from by
  refine ⟨hs1.setCell (p := ⟨b, 0, none⟩) (.inr (by show w.heap.size ≤ b; omega)) _, ?_⟩
  rw [tlSo_zero, HP.out.1]
  exact hzc.setCell 0 (.int .u8 (pl : Int)))
 have HB := Lib.hid hb
 clear hzc hs1 hb
 go_wp2_with fail
 go_loopw [7] (fun s7 wr => ∃ j : Nat, s7 = .int .i64 j ∧ j ≤ pl ∧ Still w wr ∧ cellsAt wr b (bc (tlSo S k j))) (fun s7 _ => pl - (intOf s7).toNat)
 case atStart => exact ⟨0, rfl, Nat.zero_le _, HST.out.1, HST.out.2⟩
 clear HST cb fb
 obtain ⟨j, rfl, hj, hst, hc⟩ := hrel
 have HR := Lib.hid (And.intro hj (And.intro hst hc))
 by_cases hlt : j < pl
 rotate_left
 · have d1 : decide ((j : Int) < (pl : Int)) = false := decide_eq_false (by omega)
   have d2 : decide (j < pl) = false := decide_eq_false hlt
   have hje : j = (partB S k).length := by have := HP.out.1; omega
   rw [hje, tlSo_all] at hc
   have hsl : Sl wr (fun g => g = b) 1 (.slice (some ⟨b, 0, none⟩) 64 64) 64 (bc (tileB S k)) := by
    have hlt := hc.lt
    obtain ⟨tt, hb2⟩ := hc
    have hv := vecAt_block (size := 1) (n := 64) (cap := 64) hb2 (by simp [bc, tileB_length]) (by omega) (by simp only [maxLen]; omega)
    rw [List.take_of_length_le (by simp [bc, tileB_length])] at hv
    exact Vec.sl (.inr ⟨_, _, _, rfl, hv⟩) fun g e => by
     have e' : g = b := (Option.some.inj e).symm
     exact ⟨e', by omega⟩
   have cv := convB hsl
   have F := Lib.hid (show StPost w (.string (strOfNums (tileB S k))) (.returned (.string (strOfNums (tileB S k)))) wr from ⟨rfl, hst⟩)
   clear hc hst hsl hje hlt
   go_wp2_with fail
   go_ret
   exact F.out
 have d1 : decide ((j : Int) < (pl : Int)) = true := decide_eq_true (by omega)
 have d2 : decide (j < pl) = true := decide_eq_true hlt
 obtain ⟨x, hx1, hx2⟩ := partB_at (S := S) (k := k) (j := j) (by have := HP.out.1; omega)
 obtain ⟨g, o, c, he, -, -, hcs⟩ := (H.out.1.still hst).pos (by have := HK.out.2; omega)
 cases he
 obtain ⟨J1, hJ1⟩ : ∃ J1, 1 + j = J1 := ⟨_, rfl⟩
 obtain ⟨KJ, hKJ⟩ : ∃ KJ, K + j = KJ := ⟨_, rfl⟩
 rw [HK.out.1, hKJ] at hx2
 have aJ : (1 : Int) + (j : Int) = (J1 : Int) := by omega
 have aJ2 : (j : Int) + 1 = (J1 : Int) := by omega
 have aK : (K : Int) + (j : Int) = (KJ : Int) := by omega
 have v1 : IntKind.i64.wrap (J1 : Int) = (J1 : Int) := IntWalk.i64_in _ (by have := HP.out; omega)
 have v2 : IntKind.i64.wrap (KJ : Int) = (KJ : Int) := IntWalk.i64_in _ (by have := HP.out; have := H.out.2; omega)
 have i1 : (0 : Int) ≤ (J1 : Int) := by omega
 have i2 : (J1 : Int) < 64 := by have := HP.out; omega
 have i3 : (0 : Int) ≤ (KJ : Int) := by omega
 have i4 : (KJ : Int) < (m : Int) := by have := HK.out.2; omega
 have r0 : wr.cell? ⟨g, o + KJ, none⟩ = some (.int .u8 x) := hcs KJ _ (bc_get hx2)
 have s0 : ∃ u, wr.cell? ⟨b, J1, none⟩ = some u := ⟨_, (hc.cell J1).trans (List.getElem?_eq_getElem (by have := HP.out; simp [bc, tlSo]; omega))⟩
 obtain ⟨u0, s0⟩ := s0
 have s1 : wr.frozen? ⟨b, J1, none⟩ = false := hc.free J1
 have HN := Lib.hid (show Still w (wr.setCell ⟨b, J1, none⟩ (.int .u8 x)) ∧ cellsAt (wr.setCell ⟨b, J1, none⟩ (.int .u8 x)) b (bc (tlSo S k J1)) from by
  refine ⟨hst.setCell (p := ⟨b, J1, none⟩) (.inr (by show w.heap.size ≤ b; have := HB.out; omega)) _, ?_⟩
  rw [← hJ1, Nat.add_comm 1 j, ← tlSo_next hx1 (by have := HP.out; omega), bc_set]
  exact hc.setCell (j + 1) _)
 have HJ := Lib.hid (And.intro hJ1 hlt)
 clear hc hst hj hlt hx1 hx2 hcs hJ1 hKJ
 go_wp2_with fail
 go_roundw
 case rel => exact ⟨J1, by rfl, by have := HJ.out; omega, HN.out.1, HN.out.2⟩
 case measure => first | (simp [intOf]; done) | (simp [intOf]; have := HJ.out; omega)
end Go.Proofs.YtojkggppcmdepaaGreat

namespace Go.Proofs.YtojkggppcmdepaaGreat
open Go.RowKit Go.Wh Go.Maps

structure RtAt (B : Nat → Prop) (w : World) (t d at_ n : Nat) (S : List Int) (lv av : Value) (Lc : List Value) (c st : Nat) : Prop where
 cells : cellsAt w t [.pointer (some ⟨d, 0, none⟩), .int .i64 at_, .int .i64 n, lv, av, .int .i64 st]
 l : Sl w (fun g => B g ∧ g ≠ t) 16 lv c Lc
 one : ∀ u ∈ Lc, u.oneCell' = true
 a : Sl w (fun g => B g ∧ g ≠ t) 1 av S.length (bc S)
 byt : Byt S
 bt : B t
 lt : ∀ g, B g → g < w.heap.size
section
variable {B : Nat → Prop} {w w' : World} {t d at_ n c st : Nat} {S : List Int} {lv av : Value} {Lc : List Value}
theorem RtAt.only {X : Nat → Prop} (h : RtAt B w t d at_ n S lv av Lc c st) (ho : Only X w w') (hx : ∀ g, B g → ¬ X g) : RtAt B w' t d at_ n S lv av Lc c st :=
 ⟨h.cells.only ho (hx t h.bt), h.l.only ho fun g hg => hx g hg.1, h.one, h.a.only ho fun g hg => hx g hg.1, h.byt, h.bt, fun g hg => Nat.lt_of_lt_of_le (h.lt g hg) ho.size⟩
theorem RtAt.still (h : RtAt B w t d at_ n S lv av Lc c st) (hs : Still w w') : RtAt B w' t d at_ n S lv av Lc c st := h.only hs fun _ _ e => e
theorem rleft_any (h : RtAt B w t d at_ n S lv av Lc c st) (hn : n ≤ 2000) (hS : S.length ≤ 1000000) :
 Calls Tryz.prog 32 #[.pointer (some ⟨t, 0, none⟩)] w (StPost w (.int .i64 (63 * (n : Int) - (S.length : Int)))) := by
 obtain ⟨a, k, rfl⟩ := h.a.form
 have c2 : w.cell? ⟨t, 2, none⟩ = some (.int .i64 n) := h.cells.cell 2
 have c4 : w.cell? ⟨t, 4, none⟩ = some (.slice a S.length k) := h.cells.cell 4
 have F := Lib.hid (fun w' (hs : Still w w') => show StPost w (.int .i64 (63 * (n : Int) - (S.length : Int))) (.returned (.int .i64 (63 * (n : Int) - (S.length : Int)))) w' from ⟨rfl, hs⟩)
 generalize S.length = m at *
 obtain ⟨N, hN⟩ : ∃ N, n * 63 = N := ⟨_, rfl⟩
 have aN : (n : Int) * 63 = (N : Int) := by omega
 have aN2 : 63 * (n : Int) = (N : Int) := by omega
 rw [aN2] at F ⊢
 have u1 : IntKind.i64.wrap (N : Int) = (N : Int) := IntWalk.i64_in _ (by omega)
 have u2 : IntKind.i64.wrap ((N : Int) - (m : Int)) = (N : Int) - (m : Int) := IntWalk.i64_in _ (by omega)
 clear h aN2 hN
 go_enter Tryz.func32, Tryz.ntmps32
 go_wp2_with fail
 go_quiet (fail)
 go_wp2_with fail
 go_ret
 exact F.out _ ((Still.refl _).drewN _)
end
end Go.Proofs.YtojkggppcmdepaaGreat

namespace Go.Proofs.YtojkggppcmdepaaGreat
open Go.RowKit Go.Wh Go.Maps

theorem conv_bytes (w : World) (l : List Int) (hb : Byt l) : ∃ cap w', (convert 9 23 (.string (strOfNums l))).run Tryz.prog w = .ok (.slice (some ⟨w.heap.size, 0, none⟩) l.length cap) w' ∧ Still w w' ∧ w'.heap.size = w.heap.size + 1 ∧
 Sl w' (fun g => g = w.heap.size) 1 (.slice (some ⟨w.heap.size, 0, none⟩) l.length cap) l.length (bc l) := by
 have hr := Lib.run_convert_string_bytes (P := Tryz.prog) w 9 23 5 (strOfNums l) Tryz.underlying9 Tryz.underlying23 Tryz.underlying5
 have hz := Lib.bytesWorld_size w 5 (strOfNums l)
 rw [strOfNums_size] at hr
 refine ⟨_, _, hr, Only.ofBelow ⟨rfl, rfl, rfl, by omega, fun k hk => Lib.bytesWorld_at_old w 5 (strOfNums l) k hk⟩, hz, by rw [bc_length, Nat.mul_one], .inr ⟨w.heap.size, 0, _, rfl, fun _ => ⟨rfl, by omega⟩, fun j u hj => ?_⟩⟩
 obtain ⟨hl, he⟩ := List.getElem?_eq_some_iff.1 hj
 rw [bc_length] at hl
 have hc := Lib.bytesWorld_cell w 5 (strOfNums l) j (by rw [strOfNums_size]; exact hl)
 rw [Nat.zero_add, hc, strOfNums_data, List.getD_eq_getElem?_getD, List.getElem?_map, List.getElem?_eq_getElem hl]
 have hbl := hb l[j] (List.getElem_mem hl)
 have h1 : ((UInt8.ofNat (l[j]).toNat).toNat : Int) = l[j] := by
  simp
  omega
 have h2 : u = .int .u8 l[j] := by
  rw [← he]
  simp [bc]
 rw [h2]
 simp only [Option.map_some, Option.getD_some, h1]
end Go.Proofs.YtojkggppcmdepaaGreat

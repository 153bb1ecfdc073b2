/- A trail is opened. Conditions: the disk lies in memory; at most a thousand tiles. -/
import Derived.Test.YtojkggppcmdepaaGreatTrFo
namespace Go.Proofs.YtojkggppcmdepaaGreat
open Go.RowKit Go.Wh Go.Maps

set_option maxHeartbeats 400000 in
theorem clone_big (v : Value) (n : Nat) (xs : List Value) (w : World) (h : Reads w 1 v n xs) (h1c : ∀ u ∈ xs, u.oneCell' = true) (hn : n ≤ 100000) :
    Calls Tryz.prog 44 #[v] w (FreshPost w 1 n xs) := by
  rcases id h with ⟨hl, ⟨rfl, rfl⟩ | ⟨a, c, rfl, hc⟩⟩
  · have hnil : xs = [] := by simpa using hl
    have F := Lib.hid (show FreshPost w 1 0 xs (.returned (.slice none 0 0)) w from ⟨_, rfl, by rw [hnil]; exact Vec.nil _ _, Below.refl _ _, fun g hg => by cases hg⟩)
    clear h hl hnil
    have hnn := fun W : World => Lib.run_eql_slice_nil (P := Tryz.prog) W 23 5 none 0 0 0 0 Tryz.underlying23
    go_enter Tryz.func44, Tryz.ntmps44
    go_wp2_with fail
    go_ret
    exact F.out
  · obtain ⟨i0, hi, hz0, hz1, hz2⟩ := info_parts info_b
    have H := Lib.hid h
    have HC := Lib.hid h1c
    clear h hl hc h1c
    have hnn := fun W : World => Lib.run_eql_slice_nil (P := Tryz.prog) W 23 5 (some a) n c 0 0 Tryz.underlying23
    go_enter Tryz.func44, Tryz.ntmps44
    have H1 := Lib.hid (H.out.belowAll ((Below.refl _ _).alloc (Nat.le_refl _) (Obj.cells #[] 5)))
    go_wp2_with (at_builtin; refine wpList_append_vec rfl _ _ 23 rfl 5 i0 _ 1 1 Tryz.underlying23 hi hz0 hz1 hz2 rfl (by decide) _ 0 [] rfl (Vec.none_ _ _ _ _) _ n xs rfl H1.out HC.out (by simp only [maxLen]; omega) (by omega) ?_; intro v' w' hv' ho' hb')
    have F := Lib.hid (show FreshPost w 1 n xs (.returned v') w' from by
      have hbel := (Below.refl w.heap.size w).alloc (Nat.le_refl _) (Obj.cells #[] 5)
      refine ⟨v', rfl, by simpa using hv', hbel.trans (ho'.below (by simp) (fun i hi e => ?_)), fun g hg => ?_⟩
      · have e2 : w.heap.size = i := Option.some.inj e
        omega
      · rcases hb' with e | ⟨g', e, h1, h2⟩
        · have e2 : w.heap.size = g := Option.some.inj (e.symm.trans hg)
          have h3 := ho'.size
          simp at h3
          omega
        · rw [e] at hg
          injection hg with hg
          simp at h1
          omega)
    clear hv' ho' hb' H H1 HC
    go_wp2_with fail
    go_ret
    exact F.out

/-- What an opening leaves. -/
def OpPost (A : Nat → Prop) (w : World) (d at_ n : Nat) (T : List (List Int)) (en : Ending) (w' : World) : Prop :=
  ∃ (t : Nat) (lv : Value) (es : List PE) (A' B C : Nat → Prop), en = .returned (.tuple #[.pointer (some ⟨t, 0, none⟩), lv, .int .i64 0]) ∧ es = (scanB ((readB (tls T at_ n)).length + 1) (readB (tls T at_ n))).1 ∧
    DkX A' d (layB T at_ (streamB es) n) w' ∧ TlX B t d at_ n es es.length w' ∧ Ents w' C lv es ∧ Only A w w' ∧
    (∀ g, A' g → A g ∨ w.heap.size ≤ g) ∧ (∀ g, B g → w.heap.size ≤ g) ∧ (∀ g, C g → w.heap.size ≤ g ∧ g < w'.heap.size) ∧ (∀ g, A' g → ¬ B g) ∧ (∀ g, A' g → ¬ C g) ∧ ∀ g, B g → ¬ C g

theorem tlx_new (w : World) (d at_ n : Nat) (tt : TypeId) (hn : n ≤ 2000) : TlX (fun b => b = w.heap.size) w.heap.size d at_ n [] 0 (w.alloc (.cells #[.pointer (some ⟨d, 0, none⟩), .int .i64 at_, .int .i64 n, .slice none 0 0, .int .i64 0, .int .i64 0] tt)) :=
  ⟨⟨.slice none 0 0, ⟨cellsAt_new w [.pointer (some ⟨d, 0, none⟩), .int .i64 at_, .int .i64 n, .slice none 0 0, .int .i64 0, .int .i64 0] tt, Vec.nil _ _, (fun z hz => by cases hz), (fun g e => by cases e)⟩, rfl, (fun g e => by cases e)⟩, fun g hg => by simp; omega, by simp [streamB], hn, (fun e he => by cases he), (fun e he => by cases he), Nat.le_refl _⟩
set_option maxHeartbeats 4000000 in
set_option maxRecDepth 100000 in
theorem open_any {A : Nat → Prop} {w : World} {d at_ n : Nat} {T : List (List Int)} (hd : DkX A d T w) (hn : at_ + n ≤ T.length) (hk : n ≤ 1000) :
    Calls Tryz.prog 15 #[.pointer (some ⟨d, 0, none⟩), .int .i64 at_, .int .i64 n] w (OpPost A w d at_ n T) := by
  obtain ⟨tv, mb, vs, hdk, k2, k3, k4, k5⟩ := hd.dk
  have HT := Lib.hid (tiles_any w d T tv mb vs hdk)
  have HDD := Lib.hid (dead_any w d T tv mb vs hdk)
  have hTl := hd.len
  have HD := Lib.hid (And.intro hd (And.intro hn hk))
  have a1 : decide ((at_ : Int) < 0) = false := by simp
  have a2 : decide ((n : Int) < 0) = false := by simp
  have a3 : decide ((T.length : Int) < (at_ : Int)) = false := decide_eq_false (by omega)
  have a3' : decide (T.length < at_) = false := decide_eq_false (by omega)
  have a4 : decide ((T.length : Int) - (at_ : Int) < (n : Int)) = false := decide_eq_false (by omega)
  have u1 : IntKind.i64.wrap ((T.length : Int) - (at_ : Int)) = (T.length : Int) - (at_ : Int) := IntWalk.i64_in _ (by omega)
  clear hd hdk k2 k3 k4 k5
  go_enter Tryz.func15, Tryz.ntmps15
  go_wp2_with fail
  refine HT.out.mono ?_
  rintro en w1 ⟨rfl, rfl⟩
  go_wp2_with fail
  refine HT.out.mono ?_
  rintro en w2 ⟨rfl, rfl⟩
  go_wp2_with fail
  refine HDD.out.mono ?_
  rintro en w3 ⟨rfl, rfl⟩
  clear HT HDD a1 a2 a3 a3' a4 u1
  go_upto_region 6 with fail
  have hst : Still w3 (w3.alloc (.cells #[.pointer (some ⟨d, 0, none⟩), .int .i64 at_, .int .i64 n, .slice none 0 0, .int .i64 0, .int .i64 0] 87)) := (Still.refl w3).alloc _
  have htl := tlx_new w3 d at_ n 87 (by omega)
  have hz0 : (w3.alloc (.cells #[.pointer (some ⟨d, 0, none⟩), .int .i64 at_, .int .i64 n, .slice none 0 0, .int .i64 0, .int .i64 0] 87)).heap.size = w3.heap.size + 1 := by simp
  generalize w3.alloc (.cells #[.pointer (some ⟨d, 0, none⟩), .int .i64 at_, .int .i64 n, .slice none 0 0, .int .i64 0, .int .i64 0] 87) = W at *
  obtain ⟨t, ht⟩ : ∃ t, w3.heap.size = t := ⟨_, rfl⟩
  rw [ht] at htl
  rw [ht]
  have hdW := HD.out.1.still hst
  obtain ⟨sv, t1, -, -⟩ := htl.tl
  obtain ⟨tv', mb', vs', hdk', -, -, -, -⟩ := hdW.dk
  have HRD := Lib.hid (readT_any W t d at_ n (streamB []) sv 0 0 T tv' mb' vs' t1 hdk' HD.out.1.len HD.out.2.1 HD.out.1.byt)
  have H0 := Lib.hid (And.intro hst (And.intro htl (And.intro hdW (And.intro ht hz0))))
  clear hst htl hdW ht hz0 t1 hdk'
  obtain ⟨b, hb⟩ : ∃ b, readB (tls T at_ n) = b := ⟨_, rfl⟩
  have hbl : b.length ≤ 63000 := by
    have h1 := readB_len (tls T at_ n)
    have h2 : (tls T at_ n).length ≤ n := by unfold tls; rw [List.length_take]; omega
    rw [hb] at h1
    have := HD.out.2.2
    omega
  rw [hb] at HRD
  have HB := Lib.hid hb
  clear hb
  go_wp2_with fail
  refine HRD.out.mono ?_
  rintro en w4 ⟨bv, rfl, hbv, hs4, ho4, hby⟩
  have HSC := Lib.hid (scan_any w4 (fun _ => True) bv b.length b (Vec.sl0 hbv (by omega)) (Vec.capOf hbv) hby (by omega))
  obtain ⟨ba, bcp, rfl⟩ := hbv.form'
  have H4 := Lib.hid (And.intro hbv (And.intro hs4 (And.intro hby ho4)))
  have HBL := Lib.hid hbl
  obtain ⟨es, hes⟩ : ∃ es, (scanB (b.length + 1) b).1 = es := ⟨_, rfl⟩
  obtain ⟨m, hm⟩ : ∃ m, (scanB (b.length + 1) b).2 = m := ⟨_, rfl⟩
  have hsi := scanB_is (b.length + 1) b hby
  have hsl := scanB_len (b.length + 1) b
  unfold ScanPost at HSC
  rw [hes, hm] at HSC hsi hsl
  have HSI := Lib.hid (And.intro hsi (And.intro hsl hes))
  have hmb : m ≤ b.length := hsl.1
  clear hbv hs4 ho4 hby HRD hsi hsl hes hm
  go_wp2_with fail
  refine HSC.out.mono ?_
  rintro en w5 ⟨lv, rfl, hen, hs5⟩
  obtain ⟨la, lc, rfl⟩ := hen.form
  have hbv5 := H4.out.1.only hs5 fun _ _ e => e
  obtain ⟨pv, -, r1, -, hpv⟩ := Go.Wh.Vec.part (P := Tryz.prog) (size := 1) 23 Tryz.underlying23 (fun w => rfl) hbv5 (Nat.zero_le m) hmb
  have r1' := r1 rfl
  have hp5 := hpv w5 hbv5
  have hpc : ((bc b).drop (0 * 1)).take ((m - 0) * 1) = bc (streamB es) := by
    rw [Nat.zero_mul, List.drop_zero, Nat.mul_one, Nat.sub_zero, bc_take, HSI.out.1.1]
  rw [hpc, Nat.sub_zero] at hp5
  obtain ⟨pa, pc, rfl⟩ := hp5.form'
  have HCL := Lib.hid (clone_big (.slice pa m pc) m (bc (streamB es)) w5 hp5.reads (bc_one _) (by have := HBL.out; omega))
  have H5 := Lib.hid (And.intro hen hs5)
  have htl5 := (H0.out.2.1.still H4.out.2.1).still hs5
  have HT5 := Lib.hid htl5
  clear hen hs5 hbv5 r1 hpv hp5 hpc HSC htl5
  go_wp2_with fail
  refine HCL.out.mono ?_
  rintro en w6 ⟨sv, rfl, hsv, hb6, ho6⟩
  have hs6 : Still w5 w6 := Only.ofBelow hb6
  obtain ⟨sa, sc, rfl⟩ := hsv.form'
  have htl6 := HT5.out.still hs6
  obtain ⟨sv0, t6, -, -⟩ := htl6.tl
  have c3 : ∃ u, w6.cell? ⟨t, 3, none⟩ = some u := ⟨_, t6.cells.cell 3⟩
  obtain ⟨u3, c3⟩ := c3
  have c4 : w6.cell? ⟨t, 4, none⟩ = some (.int .i64 ((0 : Nat) : Int)) := t6.cells.cell 4
  have c5 : w6.cell? ⟨t, 5, none⟩ = some (.int .i64 ((0 : Nat) : Int)) := t6.cells.cell 5
  have f3 := t6.cells.free 3
  have f4 := t6.cells.free 4
  have f5 := t6.cells.free 5
  have H6 := Lib.hid (And.intro hsv (And.intro hs6 (And.intro ho6 t6)))
  clear hsv hb6 ho6 hs6 htl6 t6 HCL HT5
  go_upto_region 11 with fail
  have hmS : (streamB es).length = m := by
    have := congrArg List.length HSI.out.1.1
    rw [List.length_take] at this
    omega
  have htX : TlX (fun g => g = t ∨ (Value.slice sa m sc).ownBlock = some g) t d at_ n es es.length (((w6.setCell ⟨t, 3, none⟩ (.slice sa m sc)).setCell ⟨t, 4, none⟩ (.int .i64 (es.length : Int))).setCell ⟨t, 5, none⟩ (.int .i64 (es.length : Int))) := by
    have t6 := H6.out.2.2.2
    have hzz : (((w6.setCell ⟨t, 3, none⟩ (.slice sa m sc)).setCell ⟨t, 4, none⟩ (.int .i64 (es.length : Int))).setCell ⟨t, 5, none⟩ (.int .i64 (es.length : Int))).heap.size = w6.heap.size := by simp [World.setCell]
    have hss : Only (fun b => b = t) w6 (((w6.setCell ⟨t, 3, none⟩ (.slice sa m sc)).setCell ⟨t, 4, none⟩ (.int .i64 (es.length : Int))).setCell ⟨t, 5, none⟩ (.int .i64 (es.length : Int))) := ((setCell_only w6 ⟨t, 3, none⟩ _).trans (setCell_only _ ⟨t, 4, none⟩ _)).trans (setCell_only _ ⟨t, 5, none⟩ _)
    have hlt := t6.cells.lt
    have ht5 : t < w5.heap.size := by
      have h1 := H0.out.2.2.2.1
      have h2 := H0.out.2.2.2.2
      have h3 := H4.out.2.1.size
      have h4 := H5.out.2.size
      omega
    refine ⟨⟨.slice sa m sc, ⟨((t6.cells.setCell 3 _).setCell 4 _).setCell 5 _, ?_, streamB_byt HSI.out.1.2.2, fun g hg => ?_⟩, .inl rfl, fun g hg => .inr hg⟩, fun g hg => ?_, ?_, by have := HD.out.2.2; omega, HSI.out.1.2.1, HSI.out.1.2.2, Nat.le_refl _⟩
    · rw [hmS]
      exact H6.out.1.only hss fun g hg e => by have := (H6.out.2.2.1 g hg).1; have e' : g = t := e; omega
    · rw [hzz]
      have := H6.out.2.2.1 g hg
      exact ⟨by omega, this.2⟩
    · rw [hzz]
      rcases hg with rfl | hg
      · exact hlt
      · exact (H6.out.2.2.1 g hg).2
    · rw [hmS]
      have h1 := readB_len (tls T at_ n)
      have h2 : (tls T at_ n).length ≤ n := by unfold tls; rw [List.length_take]; omega
      rw [HB.out] at h1
      have := HSI.out.2.1.1
      omega
  have hss : Still w3 (((w6.setCell ⟨t, 3, none⟩ (.slice sa m sc)).setCell ⟨t, 4, none⟩ (.int .i64 (es.length : Int))).setCell ⟨t, 5, none⟩ (.int .i64 (es.length : Int))) := by
    have h1 := ((H0.out.1.trans H4.out.2.1).trans H5.out.2).trans H6.out.2.1
    have ht := H0.out.2.2.2.1
    exact ((h1.setCell (.inr (by show w3.heap.size ≤ t; omega)) _).setCell (.inr (by show w3.heap.size ≤ t; omega)) _).setCell (.inr (by show w3.heap.size ≤ t; omega)) _
  have hz6 : (((w6.setCell ⟨t, 3, none⟩ (.slice sa m sc)).setCell ⟨t, 4, none⟩ (.int .i64 (es.length : Int))).setCell ⟨t, 5, none⟩ (.int .i64 (es.length : Int))).heap.size = w6.heap.size := by simp [World.setCell]
  have hne : Ents (((w6.setCell ⟨t, 3, none⟩ (.slice sa m sc)).setCell ⟨t, 4, none⟩ (.int .i64 (es.length : Int))).setCell ⟨t, 5, none⟩ (.int .i64 (es.length : Int))) (fun g => w4.heap.size ≤ g ∧ g < w5.heap.size) (.slice la es.length lc) es := by
    have ht4 : t < w4.heap.size := by
      have h1 := H0.out.2.2.2.1
      have h2 := H0.out.2.2.2.2
      have h3 := H4.out.2.1.size
      omega
    have hss2 : Only (fun b => b = t) w6 (((w6.setCell ⟨t, 3, none⟩ (.slice sa m sc)).setCell ⟨t, 4, none⟩ (.int .i64 (es.length : Int))).setCell ⟨t, 5, none⟩ (.int .i64 (es.length : Int))) := ((setCell_only w6 ⟨t, 3, none⟩ _).trans (setCell_only _ ⟨t, 4, none⟩ _)).trans (setCell_only _ ⟨t, 5, none⟩ _)
    exact (H5.out.1.low.still H6.out.2.1).only hss2 fun g hg e => by omega
  generalize (((w6.setCell ⟨t, 3, none⟩ (.slice sa m sc)).setCell ⟨t, 4, none⟩ (.int .i64 (es.length : Int))).setCell ⟨t, 5, none⟩ (.int .i64 (es.length : Int))) = wT at *
  have hdT := HD.out.1.still hss
  have hA3 : ∀ g, A g → g < w3.heap.size := HD.out.1.lt
  have hord : w3.heap.size = t ∧ t < w4.heap.size ∧ w4.heap.size ≤ w5.heap.size ∧ w5.heap.size ≤ w6.heap.size := by
    have h1 := H0.out.2.2.2.1
    have h2 := H0.out.2.2.2.2
    have h3 := H4.out.2.1.size
    have h4 := H5.out.2.size
    have h5 := H6.out.2.1.size
    exact ⟨h1, by omega, h4, h5⟩
  have HCN := Lib.hid (clean_x htX hdT (fun g hg e => by
    have := hA3 g hg
    rcases e with e | e
    · omega
    · have := (H6.out.2.2.1 g e).1
      omega) HD.out.2.1)
  have HF := Lib.hid (And.intro htX (And.intro hss (And.intro hz6 (And.intro hne (And.intro hA3 hord)))))
  clear htX hss hz6 hne hA3 hord hdT c3 c4 c5 f3 f4 f5 hmS
  go_wp2_with fail
  refine HCN.out.mono ?_
  rintro en w7 ⟨rfl, kd, ko⟩
  have F := Lib.hid (show OpPost A w3 d at_ n T (.returned (.tuple #[.pointer (some ⟨t, 0, none⟩), .slice la es.length lc, .int .i64 0])) w7 from by
    obtain ⟨htX, hss, hz6, hne, hA3, o1, o2, o3, o4⟩ := HF.out
    have hz7 := ko.size
    refine ⟨t, _, es, Newer A wT w7, fun g => g = t ∨ (Value.slice sa m sc).ownBlock = some g, fun g => w4.heap.size ≤ g ∧ g < w5.heap.size, rfl, ?_, kd, ?_, ?_, ?_, ?_, ?_, ?_, ?_, ?_, ?_⟩
    · rw [HB.out, HSI.out.2.2]
    · refine htX.only ko fun g hg e => ?_
      have := hA3 g e
      rcases hg with hg | hg
      · omega
      · have := (H6.out.2.2.1 g hg).1
        omega
    · exact hne.only ko fun g hg e => by have := hA3 g e; omega
    · exact (hss.mono fun _ e => e.elim).trans ko
    · intro g hg
      rcases hg with hg | hg
      · exact .inl hg
      · exact .inr (by omega)
    · intro g hg
      rcases hg with hg | hg
      · omega
      · have := (H6.out.2.2.1 g hg).1
        omega
    · intro g hg
      exact ⟨by omega, by omega⟩
    · intro g hg e
      rcases hg with hg | hg
      · have := hA3 g hg
        rcases e with e | e
        · omega
        · have := (H6.out.2.2.1 g e).1
          omega
      · rcases e with e | e
        · omega
        · have := (H6.out.2.2.1 g e).2
          omega
    · intro g hg e
      rcases hg with hg | hg
      · have := hA3 g hg
        omega
      · omega
    · intro g hg e
      rcases hg with hg | hg
      · omega
      · have := (H6.out.2.2.1 g hg).1
        omega)
  clear kd ko HCN
  go_wp2_with fail
  go_ret3
  exact F.out
end Go.Proofs.YtojkggppcmdepaaGreat

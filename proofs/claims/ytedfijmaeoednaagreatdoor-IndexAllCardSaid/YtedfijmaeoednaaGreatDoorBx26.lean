/- Seek of an index, walked. Conditions: an index in memory, of at most a thousand rows. From, Len of an index; a new one. Conditions: an index in memory, of at most a thousand rows. An index that is held by nobody else; and that index does something. Conditions: the library's variable holds a number. The laws' own begun: that index does something. Conditions: the library's variable holds a number. Rows by small numbers: names of one letter. No program but the making of a name. No conditions. -/
import Derived.Test.YtedfijmaeoednaaGreatDoorBx25
namespace Go.Proofs.YtedfijmaeoednaaGreatDoor
open Go.RowKit Go.Wh Go.Proofs.YtedfijmaeoednaaGreatDoor.Tw

/-- On the way: i rows gathered, since the world W. -/
structure Gat (W : World) (Q : List Rw) (i : Nat) (kv av : Value) (wr : World) : Prop where
  only : Only (fun c => W.heap.size ≤ c) W wr
  k : Vec wr 1 kv i (kcells (rkeys (Q.take i)))
  v : Vec wr 2 av i (rcells ((Q.take i).map Rw.n))
  ok : ∀ g, kv.ownBlock = some g → W.heap.size ≤ g ∧ g < wr.heap.size
  ov : ∀ g, av.ownBlock = some g → W.heap.size ≤ g ∧ g < wr.heap.size
  ap : ∀ g, kv.ownBlock = some g → av.ownBlock ≠ some g

theorem Gat.start (W : World) (Q : List Rw) : Gat W Q 0 (.slice none 0 0) (.slice none 0 0) W :=
  ⟨Only.refl _ _, Vec.nil _ _, Vec.nil _ _, (by intro g h; cases h), (by intro g h; cases h), (by intro g h; cases h)⟩
theorem Gat.still {W wr w' : World} {Q : List Rw} {i : Nat} {kv av : Value} (h : Gat W Q i kv av wr) (hs : Still wr w') : Gat W Q i kv av w' :=
  ⟨h.only.trans hs.only, h.k.only hs fun _ _ e => e, h.v.only hs fun _ _ e => e, fun g hg => by have := h.ok g hg; have := hs.size; omega, fun g hg => by have := h.ov g hg; have := hs.size; omega, h.ap⟩

theorem Gat.told {w W wr : World} {Q : List Rw} {kv av : Value} (hs : Still w W) (h : Gat W Q Q.length kv av wr) : Lists w wr (rkeys Q) (Q.map Rw.n) kv av ∧ Still w wr := by
  have hk := h.k
  have hv := h.v
  rw [List.take_length] at hk hv
  have hz := hs.size
  refine ⟨⟨?_, ?_, fun g hg => by have := h.ok g hg; omega, fun g hg => by have := h.ov g hg; omega, h.ap⟩, ?_⟩
  · rw [show (rkeys Q).length = Q.length from List.length_map _]; exact hk
  · rw [List.length_map]; exact hv
  · exact still_of (hs.only.trans h.only) fun c hc e => by omega

theorem take_succ_rows {Q : List Rw} {i : Nat} {r : Rw} (h : Q[i]? = some r) : kcells (rkeys (Q.take (i + 1))) = kcells (rkeys (Q.take i)) ++ [.string r.key] ∧ rcells ((Q.take (i + 1)).map Rw.n) = rcells ((Q.take i).map Rw.n) ++ [.int .i64 r.n.1, .int .i64 r.n.2] := by
  have e : Q.take (i + 1) = Q.take i ++ [r] := by
    rw [List.take_add_one, h]
    rfl
  rw [e]
  refine ⟨?_, ?_⟩
  · unfold rkeys kcells
    simp
  · rw [List.map_append, rcells_append]
    rfl

/-- What the appends of a round leave. -/
theorem Gat.next {W wr w1 w2 : World} {Q : List Rw} {i : Nat} {r : Rw} {kv av kv' av' : Value} (h : Gat W Q i kv av wr) (hr : Q[i]? = some r) (h1 : Still wr w1)
    (ho : Only (fun b => kv.ownBlock = some b ∨ av.ownBlock = some b) w1 w2) (hk : Vec w2 1 kv' (i + 1) (kcells (rkeys (Q.take i)) ++ [.string r.key])) (hv : Vec w2 2 av' (i + 1) (rcells ((Q.take i).map Rw.n) ++ [.int .i64 r.n.1, .int .i64 r.n.2]))
    (n1 : Nw w1.heap.size w2.heap.size kv kv') (n2 : Nw w1.heap.size w2.heap.size av av') (hap : ∀ g, w1.heap.size ≤ g → kv'.ownBlock = some g → av'.ownBlock ≠ some g) : Gat W Q (i + 1) kv' av' w2 := by
  have hz1 := h.only.size
  have hz2 := h1.size
  have hz3 := ho.size
  obtain ⟨e1, e2⟩ := take_succ_rows hr
  refine ⟨(h.only.trans h1.only).trans (ho.mono fun b e => ?_), e1 ▸ hk, e2 ▸ hv, fun g hg => ?_, fun g hg => ?_, fun g g1 g2 => ?_⟩
  · rcases e with e | e
    · exact (h.ok b e).1
    · exact (h.ov b e).1
  · rcases n1.cases hg with e | e
    · have := h.ok g e; omega
    · omega
  · rcases n2.cases hg with e | e
    · have := h.ov g e; omega
    · omega
  · rcases n1.cases g1 with e | e
    · rcases n2.cases g2 with e' | e'
      · exact h.ap g e e'
      · have := h.ok g e; omega
    · exact hap g e.1 g1 g2

theorem Told.base {w w1 w2 : World} {T : Nd 0} {kv av : Value} (hs : Still w w1) (h : Told w1 w2 T kv av) : Told w w2 T kv av :=
  ⟨h.k, h.v, fun g hg => by have := h.ok g hg; have := hs.size; omega, fun g hg => by have := h.ov g hg; have := hs.size; omega, h.ap, hs.trans h.still⟩

set_option maxRecDepth 100000 in
set_option maxHeartbeats 2000000 in
theorem seek_any (w : World) (x : Nat) (R : List Rw) (F : List Nat) (s : Key) (h : IxAt w x R F) (hl : R.length ≤ 1000) (hs : s.size ≤ 100) :
    Calls Tryz.prog 18 #[ptr x, .string s] w (TwoL w (rkeys (seekR R s)) ((seekR R s).map Rw.n)) := by
  obtain ⟨a, b, F1, F2, l, hv, rfl⟩ := h
  have HR2 := Lib.hid (hv.two.row2 hv.fits s)
  have c1 : w.cell? ⟨x, 1, none⟩ = some (.pointer (some ⟨b, 0, none⟩)) := hv.cells.cell 1
  have HF := Lib.hid (fun (w' : World) (hst : Still w w') => front_of s (jB s ⟨#[]⟩) w' (HasM.only hv.m hst fun e => e) (by omega) rfl)
  have HT := Lib.hid (fun (w' : World) (hst : Still w w') => tfrom w' b l F2 (jB s ⟨#[]⟩) (-1) (hv.t2.still hst) (by have := hv.two.len; omega))
  have HM := Lib.hid hv.m
  obtain ⟨Q, hQ⟩ : ∃ Q, seekR R s = Q := ⟨_, rfl⟩
  rw [hQ] at HR2 ⊢
  have hQl : Q.length ≤ 1000 := by rw [← hQ]; exact Nat.le_trans (List.length_filter_le _ _) hl
  have hfd := fromL_drop l (jB s ⟨#[]⟩) (-1) (by omega)
  generalize l.drop (pos (keys l) (jB s ⟨#[]⟩)) = T at HR2 hfd
  have HFD := Lib.hid hfd
  clear hfd hQ
  generalize jB s ⟨#[]⟩ = fr at *
  unfold ptr at HT
  unfold ptr
  clear hv
  have SS := Lib.hid (fun w' (hst : Only (fun _ => False) w w') => show w'.cell? ⟨x, 1, none⟩ = some (.pointer (some ⟨b, 0, none⟩)) from Still.cell hst c1)
  go_enter Tryz.func18, Tryz.ntmps18
  go_wp2_with fail
  go_upto_region 4 with fail
  go_cut [4, 5, 6, 7] (fun s4 s5 s6 s7 wc => s4 = .slice none 0 0 ∧ s5 = .slice none 0 0 ∧ Told w wc T s6 s7)
  case first =>
    refine wp_region_D_drew (D := (fun i => [0, 1, 2, 4, 6, 7, 8, 9, 10, 11].contains i)) (S := (fun w' => w'.cell? ⟨x, 1, none⟩ = some (.pointer (some ⟨b, 0, none⟩)))) (by kernel_rfl) ?_ (fun hHeld => ?_)
    · ((try dsimp only) <;> (first | (with_reducible exact SS.out _ (Only.drew (Only.refl _ w))) | (with_reducible exact SS.out _ hst3)))
    (refine takeD (i := 0) (some 16) (v := ?_) rfl (by rfl) (by rfl) (by kernel_rfl) (by rfl) (fun _ _ _ h => h) ?_ ?_; rotate_left; (intro w; go_simp; try with_reducible rfl); try go_frame)
    (refine takeD (i := 1) (some 17) (v := ?_) rfl (by rfl) (by rfl) (by kernel_rfl) (by rfl) (fun _ _ _ h => h) ?_ ?_; rotate_left; (intro w; go_simp; try with_reducible rfl); try go_frame)
    (refine takeD (i := 2) (some 18) (v := ?_) rfl (by rfl) (by rfl) (by kernel_rfl) (by rfl) (fun _ _ _ h => h) ?_ ?_; rotate_left; (intro w; go_simp; try with_reducible rfl); try go_frame)
    (refine takeD (i := 4) (some 20) (v := ?_) rfl (by rfl) (by rfl) (by kernel_rfl) (by rfl) (fun _ _ _ h => h) ?_ ?_; rotate_left; (intro w; go_simp; try with_reducible rfl); try go_frame)
    (refine takeS (i := 3) (some 19) (v := ?_) rfl (by rfl) (by rfl) (by kernel_rfl) (by rfl) (fun _ _ _ h => h) (by assumption) ?_ ?_; rotate_left; (intro w hSw; (try dsimp only at hSw); go_simp; try with_reducible rfl); try go_frame)
    refine wpAnyD_ready (rs := [5]) (by kernel_rfl) (by simp) ?_
    refine ReadyD.cons rfl (fun K hK => ?_) ?_
    go_simp
    first | (go_at_call 37; ((with_reducible refine (HF.out _ (still_drew w)).mono ?_); rintro e w3 ⟨rfl, hb3, hm3⟩; have hst3 : Only (fun _ => False) w w3 := (Only.drew (Only.refl _ w)).trans (Only.ofBelow hb3))) | (go_at_call 36; ((refine (HT.out _ hst3).mono ?_); rintro e w4 ⟨kv, av, rfl, htold⟩))
    go_wp2_with fail
    (refine hK.out _ _ ?_ (fun hNew => ?_); (focus ((try dsimp only) <;> (first | (with_reducible exact SS.out _ (Only.drew (Only.refl _ w))) | (with_reducible exact SS.out _ hst3)))); clear hHeld; have hHeld := hNew; clear hNew)
    (clear hK K; try go_frame)
    refine wpAnyD_ready (rs := [6]) (by kernel_rfl) (by simp) ?_
    refine ReadyD.last rfl (by rfl) (fun K hK => ?_) ?_
    go_simp
    first | (go_at_call 37; ((with_reducible refine (HF.out _ (still_drew w)).mono ?_); rintro e w3 ⟨rfl, hb3, hm3⟩; have hst3 : Only (fun _ => False) w w3 := (Only.drew (Only.refl _ w)).trans (Only.ofBelow hb3))) | (go_at_call 36; ((refine (HT.out _ hst3).mono ?_); rintro e w4 ⟨kv, av, rfl, htold⟩))
    go_wp2_with fail
    refine hK.out _ _ ?_
    (clear hK K; try go_frame)
    (refine takeD (i := 7) (some 15) (v := ?_) rfl (by rfl) (by rfl) (by kernel_rfl) (by rfl) (fun _ _ _ h => h) ?_ ?_; rotate_left; (intro w; go_simp; try with_reducible rfl); try go_frame)
    (refine takeD (i := 8) (some 23) (v := ?_) rfl (by rfl) (by rfl) (by kernel_rfl) (by rfl) (fun _ _ _ h => h) ?_ ?_; rotate_left; (intro w; go_simp; try with_reducible rfl); try go_frame)
    (refine takeD (i := 9) (some 24) (v := ?_) rfl (by rfl) (by rfl) (by kernel_rfl) (by rfl) (fun _ _ _ h => h) ?_ ?_; rotate_left; (intro w; go_simp; try with_reducible rfl); try go_frame)
    (refine takeD (i := 10) (some 6) (v := ?_) rfl (by rfl) (by rfl) (by kernel_rfl) (by rfl) (fun _ _ _ h => h) ?_ ?_; rotate_left; (intro w; go_simp; try with_reducible rfl); try go_frame)
    (refine takeD (i := 11) (some 7) (v := ?_) rfl (by rfl) (by rfl) (by kernel_rfl) (by rfl) (fun _ _ _ h => h) ?_ ?_; rotate_left; (intro w; go_simp; try with_reducible rfl); try go_frame)
    refine wpAnyD_done (by kernel_rfl) ?_ _
    rotate_left
    exact ReadyD.nil
    exact ReadyD.nil
    all_goals
      go_wp2_with fail
      have HTB := Lib.hid (HFD.out ▸ Told.base (show Still w w3 from hst3) htold)
      clear htold
      go_meet
      exact ⟨rfl, rfl, HTB.out⟩
  case rest =>
    obtain ⟨rfl, rfl, ht⟩ := hcut
    obtain ⟨ka, kc, rfl⟩ := ht.k.form'
    obtain ⟨va, vc, rfl⟩ := ht.v.form'
    obtain ⟨N, hN⟩ : ∃ N, T.length = N := ⟨_, rfl⟩
    have hN2 : N ≤ maxLen := hN ▸ ht.k.small
    have hst0 : ∀ w' j (e : Key × E 0), Only (fun c => wc.heap.size ≤ c) wc w' → (show List (Key × E 0) from T)[j]? = some e → ∃ gk ok gv ov, ka = some ⟨gk, ok, none⟩ ∧ va = some ⟨gv, ov, none⟩ ∧ w'.cell? ⟨gk, ok + j, none⟩ = some (.string e.1) ∧ w'.cell? ⟨gv, ov + j * 2, none⟩ = some (.int .i64 (show Rid from e.2).1) ∧ w'.cell? ⟨gv, ov + j * 2 + 1, none⟩ = some (.int .i64 (show Rid from e.2).2) := fun w' j e ho he => by
      have hj : j < T.length := (List.getElem?_eq_some_iff.1 he).1
      obtain ⟨gk, ok, pk, ek, hk⟩ := ht.k.form (by omega)
      obtain ⟨gv, ov, pv, ev, hv⟩ := ht.v.form (by omega)
      injection ek with ek1 ek2 ek3
      injection ev with ev1 ev2 ev3
      have e1 : (keys T)[j]? = some e.1 := keys_get he
      have e2 : (vals T)[j]? = some e.2 := vals_get he
      have hr := rcells_get (vals T) j e.2 e2
      have hold : ∀ c o u, wc.cell? ⟨c, o, none⟩ = some u → w'.cell? ⟨c, o, none⟩ = some u := fun c o u hu => (ho.cell (p := ⟨c, o, none⟩) (lt_of_cell hu) (fun e' => by have := lt_of_cell hu; have e2 : wc.heap.size ≤ c := e'; omega)).trans hu
      refine ⟨gk, ok, gv, ov, ek1, ev1, hold _ _ _ ?_, hold _ _ _ ?_, hold _ _ _ ?_⟩
      · rw [hk.cell j (by omega)]
        exact kcells_get e1
      · rw [hv.cell (j * 2) (by omega)]
        exact hr.1
      · rw [Nat.add_assoc, hv.cell (j * 2 + 1) (by omega)]
        exact hr.2
    have HST := Lib.hid hst0
    have HTS := Lib.hid ht.still
    have HN := Lib.hid (And.intro hN hQl)
    have HMc := Lib.hid (HasM.only HM.out ht.still fun e => e)
    rw [hN]
    clear ht hN HT HF HM SS c1 hQl hst0
    unfold maxLen at hN2
    obtain ⟨i0, hi0, hz0, hz1, hz2⟩ := info_parts info_s
    obtain ⟨i1, hi1, hy0, hy1, hy2⟩ := info_parts info_r
    have HI := Lib.hid (And.intro hi0 (And.intro hz0 (And.intro hz1 hz2)))
    have HJ := Lib.hid (And.intro hi1 (And.intro hy0 (And.intro hy1 hy2)))
    clear hi0 hz0 hz1 hz2 hi1 hy0 hy1 hy2
    go_wp2_with fail
    go_loopw [4, 5, 27] (fun s4 s5 s27 wr => ∃ (i : Nat), s27 = .int .i64 i ∧ i ≤ Q.length ∧ Gat wc Q i s4 s5 wr) (fun _ _ s27 _ => N - (intOf s27).toNat)
    case atStart => exact ⟨0, rfl, by omega, Gat.start _ _⟩
    case round =>
      obtain ⟨i, rfl, hiQ, hg⟩ := hrel
      by_cases hlt : i < N
      · obtain ⟨e, he⟩ : ∃ e, (show List (Key × E 0) from T)[i]? = some e := ⟨_, List.getElem?_eq_getElem (by have := HN.out.1; show i < T.length; omega)⟩
        obtain ⟨gk, ok, gv, ov, rfl, rfl, z2, -, -⟩ := HST.out _ i e hg.only he
        obtain ⟨p, q, bb, hsp⟩ : ∃ p q bb, spT e.1 = (p, q, bb) := ⟨_, _, _, rfl⟩
        have hes := HR2.out.size e (List.mem_of_getElem? he)
        have SP := Lib.hid (split_of e.1 p q bb wr (HasM.only HMc.out hg.only (by
          have := hasM_pos HMc.out
          omega)) (by omega) hsp)
        have HG := Lib.hid hg
        have HE := Lib.hid he
        have HSP := Lib.hid hsp
        have HQ := Lib.hid hiQ
        have b0 : (0 : Int) ≤ (i : Int) := by omega
        have b1 : (i : Int) < (N : Int) := by omega
        have t1 : decide ((i : Int) < (N : Int)) = true := by simp; omega
        have t2 : decide (i < N) = true := by simp; omega
        clear hg he hsp hes hiQ
        go_wp2_with fail
        refine SP.out.mono ?_
        rintro e' w3 ⟨rfl, hb3, hm3⟩
        have HB3 := Lib.hid (still_below hb3)
        clear hb3 hm3 SP
        by_cases hlq : i < Q.length
        · obtain ⟨r, hr⟩ : ∃ r, Q[i]? = some r := ⟨_, List.getElem?_eq_getElem hlq⟩
          have he2 : e = twoOf r := by
            have h1 := HR2.out.get i r hr
            have h2 := HE.out
            rw [h1] at h2
            exact (Option.some.inj h2).symm
          have hrs : r.sec = s := HR2.out.sec r (List.mem_of_getElem? hr)
          have hpq : p = s ∧ q = r.key := by
            have h3 := HSP.out
            rw [he2] at h3
            unfold twoOf jk at h3
            rw [spT_join] at h3
            simp only [Prod.mk.injEq] at h3
            exact ⟨h3.1.symm.trans hrs, h3.2.1.symm⟩
          obtain ⟨rfl, rfl⟩ := hpq
          obtain ⟨_, _, _, _, ea, eb, -, z3, z4⟩ := HST.out w3 i e (HG.out.only.trans HB3.out.only) HE.out
          injection ea with ea
          injection ea with ea1 ea2
          injection eb with eb
          injection eb with eb1 eb2
          subst ea1 ea2 eb1 eb2
          replace z3 : w3.cell? ⟨gv, ov + i * 2, none⟩ = some (.int .i64 r.n.1) := by rw [z3, he2]; rfl
          replace z4 : w3.cell? ⟨gv, ov + i * 2 + 1, none⟩ = some (.int .i64 r.n.2) := by rw [z4, he2]; rfl
          have hg3 : Gat wc Q i u4 u5 w3 := HG.out.still HB3.out
          have HG3 := Lib.hid hg3
          have HRR := Lib.hid hr
          have hgv : gv < wc.heap.size := by
            obtain ⟨_, _, _, _, _, eb, -, z5, _⟩ := HST.out wc i e (Only.refl _ _) HE.out
            injection eb with eb
            injection eb with eb1 eb2
            subst eb1 eb2
            exact lt_of_cell z5
          have HS4 := Lib.hid (fun w' (ho : Only (fun b => u4.ownBlock = some b ∨ u5.ownBlock = some b) w3 w') => show w'.cell? ⟨gv, ov + i * 2, none⟩ = some (.int .i64 r.n.1) ∧ w'.cell? ⟨gv, ov + i * 2 + 1, none⟩ = some (.int .i64 r.n.2) from by
            have hno : ¬ (u4.ownBlock = some gv ∨ u5.ownBlock = some gv) := fun e' => by
              rcases e' with e' | e'
              · have := (HG3.out.ok gv e').1; omega
              · have := (HG3.out.ov gv e').1; omega
            exact ⟨(ho.cell (p := ⟨gv, ov + i * 2, none⟩) (lt_of_cell z3) hno).trans z3, (ho.cell (p := ⟨gv, ov + i * 2 + 1, none⟩) (lt_of_cell z4) hno).trans z4⟩)
          obtain ⟨r1, r2, hrn⟩ : ∃ r1 r2, r.n = (r1, r2) := ⟨_, _, rfl⟩
          rw [hrn] at HS4
          have HRN := Lib.hid hrn
          clear he2 hrs hr hrn hg3 hgv z3 z4 HSP
          go_wp2_with fail
          refine wp_region_D_drew (D := (fun i => [0, 1, 4, 5, 6, 7, 11, 12].contains i)) (S := (fun w' => w'.cell? ⟨gv, ov + i * 2, none⟩ = some (.int .i64 r1) ∧ w'.cell? ⟨gv, ov + i * 2 + 1, none⟩ = some (.int .i64 r2))) (by kernel_rfl) ?_ (fun hHeld => ?_)
          · exact HS4.out _ (Only.refl _ _).drew
          (refine takeD (i := 0) (some 41) (v := ?_) rfl (by rfl) (by rfl) (by kernel_rfl) (by rfl) (fun _ _ _ h => h) ?_ ?_; rotate_left; (intro w; go_simp; try with_reducible rfl); try go_frame)
          (refine takeD (i := 1) (some 42) (v := ?_) rfl (by rfl) (by rfl) (by kernel_rfl) (by rfl) (fun _ _ _ h => h) ?_ ?_; rotate_left; (intro w; go_simp; try with_reducible rfl); try go_frame)
          (refine takeD (i := 4) (some 45) (v := ?_) rfl (by rfl) (by rfl) (by kernel_rfl) (by rfl) (fun _ _ _ h => h) ?_ ?_; rotate_left; (intro w; go_simp; try with_reducible rfl); try go_frame)
          (refine takeD (i := 5) (some 46) (v := ?_) rfl (by rfl) (by rfl) (by kernel_rfl) (by rfl) (fun _ _ _ h => h) ?_ ?_; rotate_left; (intro w; go_simp; try with_reducible rfl); try go_frame)
          (refine takeD (i := 6) (some 47) (v := ?_) rfl (by rfl) (by rfl) (by kernel_rfl) (by rfl) (fun _ _ _ h => h) ?_ ?_; rotate_left; (intro w; go_simp; try with_reducible rfl); try go_frame)
          (refine takeD (i := 7) (some 48) (v := ?_) rfl (by rfl) (by rfl) (by kernel_rfl) (by rfl) (fun _ _ _ h => h) ?_ ?_; rotate_left; (intro w; go_simp; try with_reducible rfl); try go_frame)
          (refine takeS (i := 8) (some 49) (v := ?_) rfl (by rfl) (by rfl) (by kernel_rfl) (by rfl) (fun _ _ _ h => h) (by assumption) ?_ ?_; rotate_left; (intro w hSw; (try dsimp only at hSw); go_simp; try with_reducible rfl); try go_frame)
          refine wpAnyD_merged (J := AppK w3 u4 u5 i (kcells (rkeys (Q.take i))) (rcells ((Q.take i).map Rw.n)) (.string r.key) (.int .i64 r1) (.int .i64 r2)) [(2, 43), (3, 44), (9, 50), (10, 51)] (fun i => if i = 3 then [2] else if i = 10 then [9, 3] else []) #[true, true, true, true, true, true, true, true, true, true, true, false, false] rfl (by kernel_rfl) (by kernel_rfl) ?_ ?_ ?_ ?_
          · intro L xs w' hJ
            exact HS4.out _ hJ.all
          · intro xs
            refine AppK.start (still_drew w3) HG3.out.k.drew HG3.out.v.drew ?_
            intro j hj
            simp only [List.mem_cons, List.not_mem_nil, or_false] at hj
            rcases hj with rfl | rfl | rfl | rfl <;> kernel_rfl
          · intro pp hp
            simp only [List.mem_cons, List.not_mem_nil, or_false] at hp
            rcases hp with rfl | rfl | rfl | rfl
            · refine StepM.of rfl (fun L xs w' hd hl hJ K hK => ?_)
              (unfold fillA; simp only [List.foldl]; try go_frame)
              go_simp
              refine hK.out _ _ (hJ.b1' _) _ (by kernel_rfl)
            · refine StepM.of rfl (fun L xs w' hd hl hJ K hK => ?_)
              obtain ⟨g, hg, hb, hgw⟩ := hJ.b1 (hd 2 (by simp))
              refine step_append_vec rfl _ _ 42 rfl 9 i0 _ 1 16 Tryz.underlying42 HI.out.1 HI.out.2.1 HI.out.2.2.1 HI.out.2.2.2 rfl (by decide) u4 i _ ?_ (hJ.a0 hl) (.slice (some ⟨g, 0, none⟩) 1 1) 1 [.string r.key] ?_ (hb.reads rfl) (by intro u hu; simp at hu; rw [hu]; rfl) (by have := HN.out; simp only [maxLen]; omega) (by have := HN.out; omega) ?_
              · (unfold fillA; simp only [List.foldl]; try go_frame)
                simp [Act.eval]
              · (unfold fillA; simp only [List.foldl]; try go_frame)
                simp [Act.eval, hg]
              · intro v' w2 hv' ho' hb'
                exact hK.out _ _ (hJ.c1' hl (fun g hg => (HG3.out.ok g hg).2) HG3.out.ap hv' ho' hb') _ rfl
            · refine StepM.of rfl (fun L xs w' hd hl hJ K hK => ?_)
              (unfold fillA; simp only [List.foldl]; try go_frame)
              go_simp
              refine hK.out _ _ (hJ.b2' _) _ (by kernel_rfl)
            · refine StepM.of rfl (fun L xs w' hd hl hJ K hK => ?_)
              obtain ⟨g, hg, hb, hgw⟩ := hJ.b2 (hd 9 (by simp))
              refine step_append_vec rfl _ _ 43 rfl 31 i1 _ 2 16 Tryz.underlying43 HJ.out.1 HJ.out.2.1 HJ.out.2.2.1 HJ.out.2.2.2 rfl (by decide) u5 i _ ?_ (hJ.c0 hl) (.slice (some ⟨g, 0, none⟩) 1 1) 1 [.int .i64 r1, .int .i64 r2] ?_ (hb.reads rfl) (by intro u hu; simp at hu; rcases hu with hu | hu <;> (rw [hu]; rfl)) (by have := HN.out; simp only [maxLen]; omega) (by have := HN.out; omega) ?_
              · (unfold fillA; simp only [List.foldl]; try go_frame)
                simp [Act.eval]
              · (unfold fillA; simp only [List.foldl]; try go_frame)
                simp [Act.eval, hg]
              · intro v' w2 hv' ho' hb'
                exact hK.out _ _ (hJ.c2' (hd 3 (by simp)) (fun g hg => (HG3.out.ok g hg).2) (fun g hg => (HG3.out.ov g hg).2) HG3.out.ap hv' ho' hb') _ rfl
          · intro xs w' hJ
            (unfold fillA; simp only [List.foldl]; try go_frame)
            obtain ⟨_, q2, q3, q4⟩ := hJ.c1 (by kernel_rfl)
            obtain ⟨r2', r3⟩ := hJ.a1 (by kernel_rfl)
            have hend := HG.out.next HRR.out HB3.out hJ.all r2' (by rw [HRN.out]; exact q2) r3 q3 q4
            have HEND := Lib.hid hend
            clear hJ q2 q3 q4 r2' r3 hend
            generalize xs 3 = v3 at *
            generalize xs 10 = v10 at *
            (refine takeD (i := 11) (some 4) (v := ?_) rfl (by rfl) (by rfl) (by kernel_rfl) (by rfl) (fun _ _ _ h => h) ?_ ?_; rotate_left; (intro w; go_simp; try with_reducible rfl); try go_frame)
            (refine takeD (i := 12) (some 5) (v := ?_) rfl (by rfl) (by rfl) (by kernel_rfl) (by rfl) (fun _ _ _ h => h) ?_ ?_; rotate_left; (intro w; go_simp; try with_reducible rfl); try go_frame)
            refine wpAnyD_done (by kernel_rfl) ?_ _
            rotate_left
            go_wp2_with fail
            go_roundw
            case rel => exact ⟨i + 1, by go_num, by omega, HEND.out⟩
            case measure => simp [intOf]; omega
        · have hiq : i = Q.length := by have := HQ.out; omega
          have hps : ¬ p = s := fun e' => by
            have h1 := HR2.out.stop e (hiq ▸ HE.out)
            apply h1
            show (spT e.1).1 = s
            rw [HSP.out]
            exact e'
          have hbf : (p.toList == s.toList) = false := by
            have : ¬ p.toList = s.toList := fun e' => hps (key_ext e')
            simpa using this
          have F0 := Lib.hid (show TwoL w (rkeys Q) (Q.map Rw.n) (.returned (.tuple #[u4, u5])) w3 from by
            have h1 := Gat.told HTS.out (hiq ▸ (HG.out.still HB3.out))
            exact ⟨_, _, rfl, h1.1, h1.2⟩)
          have HPS := Lib.hid hps
          clear hps hiq
          go_wp2_with fail
          go_ret2
          exact F0.out
      · have hiq : i = Q.length := by
          have h1 := HR2.out.le
          have h2 := HN.out.1
          omega
        have F0 := Lib.hid (show TwoL w (rkeys Q) (Q.map Rw.n) (.returned (.tuple #[u4, u5])) wr from by
            have h1 := Gat.told HTS.out (hiq ▸ hg)
            exact ⟨_, _, rfl, h1.1, h1.2⟩)
        have t1 : decide ((i : Int) < (N : Int)) = false := by simp; omega
        have t2 : decide (i < N) = false := by simp; omega
        clear hg hiq hiQ
        go_wp2_with fail
        go_ret2
        exact F0.out
end Go.Proofs.YtedfijmaeoednaaGreatDoor

namespace Go.Proofs.YtedfijmaeoednaaGreatDoor
open Go.RowKit Go.Wh Go.Proofs.YtedfijmaeoednaaGreatDoor.Tw

theorem lenx_any (w : World) (x : Nat) (R : List Rw) (F : List Nat) (h : IxAt w x R F) :
    Calls Tryz.prog 21 #[ptr x] w (fun e w' => e = .returned (.int .i64 R.length) ∧ w' = w) := by
  obtain ⟨a, b, F1, F2, l, hv, rfl⟩ := h
  have c0 : w.cell? ⟨x, 0, none⟩ = some (.pointer (some ⟨a, 0, none⟩)) := hv.cells.cell 0
  have HL := Lib.hid (Ke.len_any w a (one R) F1 hv.t1)
  rw [one_length] at HL
  clear hv
  unfold ptr at HL
  unfold ptr
  go_enter Tryz.func21, Tryz.ntmps21
  go_wp2_with fail
  refine HL.out.mono ?_
  rintro e w' ⟨rfl, rfl⟩
  go_wp2_with fail
  go_ret
  exact ⟨rfl, rfl⟩

def NewIx (w : World) (e : Ending) (w' : World) : Prop := ∃ x F, e = .returned (ptr x) ∧ IxAt w' x [] F ∧ Still w w' ∧ ∀ b ∈ F, w.heap.size ≤ b
theorem newx_end {w w1 w2 : World} {a b : Nat} {F1 F2 : List Nat} (hm : HasM w) (h1 : Ke.TreeAt w1 a [] F1) (s1 : Still w w1) (n1 : ∀ c ∈ F1, w.heap.size ≤ c) (h2 : TreeAt w2 b [] F2) (s2 : Still w1 w2) (n2 : ∀ c ∈ F2, w1.heap.size ≤ c) (t : TypeId) :
    NewIx w (.returned (ptr w2.heap.size)) (w2.alloc (.cells #[ptr a, ptr b] t)) := by
  have hst : Still w (w2.alloc (.cells #[ptr a, ptr b] t)) := (s1.trans s2).alloc _
  have hz0 := hasM_pos hm
  have z1 := s1.size
  have z2 := s2.size
  refine ⟨_, _, rfl, ⟨a, b, F1, F2, [], ⟨cellsAt_new w2 [ptr a, ptr b] t, (h1.still s2).still ((Still.refl _).alloc _), h2.still ((Still.refl _).alloc _), Two.nil, ?_, fun c hc => ?_, ⟨List.Pairwise.nil, fun r hr => by cases hr⟩, HasM.only hm hst fun e => e⟩, rfl⟩, hst, fun c hc => ?_⟩
  · refine List.nodup_cons.2 ⟨fun e => ?_, List.nodup_append.2 ⟨h1.nodup, h2.nodup, fun c hc d hd e => ?_⟩⟩
    · rcases List.mem_append.1 e with e | e
      · have := h1.lt _ e; omega
      · have := h2.lt _ e; omega
    · subst e
      have := h1.lt c hc
      have := n2 c hd
      omega
  · simp only [List.mem_cons, List.mem_append] at hc
    rcases hc with rfl | hc | hc
    · omega
    · have := n1 c hc; omega
    · have := n2 c hc; omega
  · simp only [List.mem_cons, List.mem_append] at hc
    rcases hc with rfl | hc | hc
    · omega
    · exact n1 c hc
    · have := n2 c hc; omega

theorem newx_any (w : World) (hm : HasM w) : Calls Tryz.prog 7 #[] w (NewIx w) := by
  have H1 := Lib.hid (Ke.make_any w)
  have H2 := Lib.hid (fun w' => new_any w')
  have H3 := Lib.hid hm
  clear hm
  go_enter Tryz.func7, Tryz.ntmps7
  go_wp2_with fail
  refine H1.out.mono ?_
  rintro e w1 ⟨a, F1, rfl, p1, p2, p3⟩
  have P := Lib.hid (And.intro p1 (And.intro p2 p3))
  clear p1 p2 p3
  unfold ptr
  go_wp2_with fail
  refine (H2.out _).mono ?_
  rintro e w2 ⟨b, F2, rfl, q1, q2, q3⟩
  have F0 := Lib.hid (newx_end H3.out P.out.1 P.out.2.1 P.out.2.2 q1 q2 q3)
  clear q1 q2 q3
  unfold ptr at *
  go_wp2_with fail
  go_ret
  exact F0.out _

theorem Ke.gather_all (most : Int) (hm : most < 0) : ∀ (l a : Ke.Nd 0), Ke.gather most a l = (a ++ l, true)
  | [], a => by simp [Ke.gather]
  | e :: l, a => by
    have hf : Ke.full most a = false := by simp [Ke.full]; omega
    rw [Ke.gather_cons, hf]
    simp only [Bool.false_eq_true, if_false]
    rw [Ke.gather_all most hm l]
    simp
/-- What From tells. -/
def fromR (R : List Rw) (k : Key) : List Rw := R.drop (pos (rkeys R) k)
theorem Ke.fromL_drop (R : List Rw) (k : Key) (most : Int) (hm : most < 0) : Ke.fromL (one R) k most = one (fromR R k) := by
  unfold Ke.fromL
  rw [Ke.gather_all most hm, one_keys]
  unfold one fromR
  rw [List.map_drop]
  rfl

/-- On the way: so many places gathered. -/
structure Gaf (W : World) (Q : List Rw) (i : Nat) (av : Value) (wr : World) : Prop where
  only : Only (fun c => W.heap.size ≤ c) W wr
  v : Vec wr 2 av i (rcells ((Q.take i).map Rw.f))
  ov : ∀ g, av.ownBlock = some g → W.heap.size ≤ g ∧ g < wr.heap.size

theorem Gaf.next {W wr w1 w2 : World} {Q : List Rw} {i : Nat} {r : Rw} {av av' : Value} (h : Gaf W Q i av wr) (hr : Q[i]? = some r) (h1 : Only (fun c => wr.heap.size ≤ c) wr w1) (ho : Only (fun b => av.ownBlock = some b) w1 w2)
    (hv : Vec w2 2 av' (i + 1) (rcells ((Q.take i).map Rw.f) ++ [.int .i64 r.f.1, .int .i64 r.f.2])) (n2 : av'.ownBlock = av.ownBlock ∨ ∃ g, av'.ownBlock = some g ∧ w1.heap.size ≤ g ∧ g < w2.heap.size) : Gaf W Q (i + 1) av' w2 := by
  have hz1 := h.only.size
  have hz2 := h1.size
  have hz3 := ho.size
  have e : Q.take (i + 1) = Q.take i ++ [r] := by
    rw [List.take_add_one, hr]
    rfl
  refine ⟨(h.only.trans (h1.mono fun b e => ?_)).trans (ho.mono fun b e => ?_), ?_, fun g hg => ?_⟩
  · exact Nat.le_trans hz1 e
  · exact (h.ov b e).1
  · rw [e, List.map_append, rcells_append]
    exact hv
  · rcases n2 with e | ⟨g', e, h2, h3⟩
    · rw [e] at hg
      have := h.ov g hg; omega
    · rw [e] at hg
      cases hg
      omega

set_option maxRecDepth 100000 in
set_option maxHeartbeats 2000000 in
theorem fromx_any (w : World) (x : Nat) (R : List Rw) (F : List Nat) (k : Key) (h : IxAt w x R F) (hl : R.length ≤ 1000) :
    Calls Tryz.prog 22 #[ptr x, .string k] w (TwoL w (rkeys (fromR R k)) ((fromR R k).map Rw.f)) := by
  obtain ⟨a, b, F1, F2, l, hv, rfl⟩ := h
  have c0 : w.cell? ⟨x, 0, none⟩ = some (.pointer (some ⟨a, 0, none⟩)) := hv.cells.cell 0
  have HT := Lib.hid (Ke.tfrom w a (one R) F1 k (-1) hv.t1 (by rw [one_length]; omega))
  have HFD := Lib.hid (Ke.fromL_drop R k (-1) (by omega))
  obtain ⟨Q, hQ⟩ : ∃ Q, fromR R k = Q := ⟨_, rfl⟩
  have hQl : Q.length ≤ 1000 := by rw [← hQ]; unfold fromR; rw [List.length_drop]; omega
  rw [hQ] at HFD ⊢
  unfold ptr at HT
  unfold ptr
  clear hv hQ
  go_enter Tryz.func22, Tryz.ntmps22
  go_wp2_with fail
  refine HT.out.mono ?_
  rintro e wc ⟨kv, av0, rfl, ht⟩
  rw [HFD.out] at ht
  obtain ⟨ka, kc, rfl⟩ := ht.k.form'
  obtain ⟨va, vc, rfl⟩ := ht.v.form'
  have hlen : (one Q).length = Q.length := one_length Q
  obtain ⟨N, hN⟩ : ∃ N, Q.length = N := ⟨_, rfl⟩
  have HK := Lib.hid (show Vec wc 1 (.slice ka (one Q).length kc) Q.length (kcells (rkeys Q)) ∧ (∀ g, (Value.slice ka (one Q).length kc).ownBlock = some g → w.heap.size ≤ g ∧ g < wc.heap.size) from by
    have := ht.k
    rw [one_keys] at this
    rw [← hlen]
    exact ⟨this, ht.ok⟩)
  have hst0 : ∀ w' j (r : Rw), Only (fun c => wc.heap.size ≤ c) wc w' → Q[j]? = some r → ∃ gv ov, va = some ⟨gv, ov, none⟩ ∧ w'.cell? ⟨gv, ov + j * 3, none⟩ = some (.int .i64 r.f.1) ∧ w'.cell? ⟨gv, ov + j * 3 + 1, none⟩ = some (.int .i64 r.f.2) ∧ w'.cell? ⟨gv, ov + j * 3 + 2, none⟩ = some (.string r.sec) := fun w' j r ho hr => by
    have hj : j < Q.length := (List.getElem?_eq_some_iff.1 hr).1
    obtain ⟨gv, ov, pv, ev, hv⟩ := ht.v.form (by omega)
    injection ev with ev1 ev2 ev3
    have e2 : (Ke.vals (one Q))[j]? = some (keptOf r) := by rw [one_vals, List.getElem?_map, hr]; rfl
    have hr := Ke.rcells_get (Ke.vals (one Q)) j (keptOf r) e2
    have hold : ∀ c o u, wc.cell? ⟨c, o, none⟩ = some u → w'.cell? ⟨c, o, none⟩ = some u := fun c o u hu => (ho.cell (p := ⟨c, o, none⟩) (lt_of_cell hu) (fun e' => by have := lt_of_cell hu; have e2 : wc.heap.size ≤ c := e'; omega)).trans hu
    refine ⟨gv, ov, ev1, hold _ _ _ ?_, hold _ _ _ ?_, hold _ _ _ ?_⟩
    · rw [hv.cell (j * 3) (by omega)]
      exact hr.1
    · rw [Nat.add_assoc, hv.cell (j * 3 + 1) (by omega)]
      exact hr.2.1
    · rw [Nat.add_assoc, hv.cell (j * 3 + 2) (by omega)]
      exact hr.2.2
  have HST := Lib.hid hst0
  have HTS := Lib.hid ht.still
  rw [hlen] at HK
  rw [hlen, hN]
  rw [hN] at HK
  have HN := Lib.hid (And.intro hN hQl)
  have hN2 : N ≤ 1000 := by omega
  clear ht hlen hN hQl hst0 HT c0
  obtain ⟨i1, hi1, hy0, hy1, hy2⟩ := info_parts info_r
  have HJ := Lib.hid (And.intro hi1 (And.intro hy0 (And.intro hy1 hy2)))
  clear hi1 hy0 hy1 hy2
  go_wp2_with fail
  go_loopw [5, 22] (fun s5 s22 wr => ∃ (i : Nat), s22 = .int .i64 i ∧ i ≤ N ∧ Gaf wc Q i s5 wr) (fun _ s22 _ => N - (intOf s22).toNat)
  case atStart => exact ⟨0, rfl, by omega, ⟨Only.refl _ _, Vec.nil _ _, (by intro g h; cases h)⟩⟩
  case round =>
    obtain ⟨i, rfl, hiQ, hg⟩ := hrel
    by_cases hlt : i < N
    · obtain ⟨r, hr⟩ : ∃ r, Q[i]? = some r := ⟨_, List.getElem?_eq_getElem (by have := HN.out.1; omega)⟩
      obtain ⟨gv, ov, rfl, z2, z3, z4⟩ := HST.out _ i r hg.only hr
      have HG := Lib.hid hg
      have HR := Lib.hid hr
      have b0 : (0 : Int) ≤ (i : Int) := by omega
      have b1 : (i : Int) < (N : Int) := by omega
      have t1 : decide ((i : Int) < (N : Int)) = true := by simp; omega
      have t2 : decide (i < N) = true := by simp; omega
      obtain ⟨r1, r2, hrn⟩ : ∃ r1 r2, r.f = (r1, r2) := ⟨_, _, rfl⟩
      have HRN := Lib.hid hrn
      rw [hrn] at z2 z3
      have OLD := Lib.hid (fun A B => show Vec ((wr.alloc A).alloc B) 2 u5 i (rcells ((Q.take i).map Rw.f)) from (hg.v.alloc A).alloc B)
      have NEW := Lib.hid (fun A t => show Reads ((wr.alloc A).alloc (.cells #[.int .i64 r1, .int .i64 r2] t)) 2 (.slice (some ⟨wr.heap.size + 1, 0, none⟩) 1 1) 1 [.int .i64 r1, .int .i64 r2] from by
        have h1 := cellsAt_new (wr.alloc A) [.int .i64 r1, .int .i64 r2] t
        have h2 : (wr.alloc A).heap.size = wr.heap.size + 1 := by simp
        rw [h2] at h1
        exact h1.reads rfl)
      have OAB := Lib.hid (fun A B => show Only (fun c => wr.heap.size ≤ c) wr ((wr.alloc A).alloc B) from ((Only.refl _ wr).alloc A).alloc B)
      clear hg hr hiQ hrn
      go_wp2_with (at_builtin; refine wpList_append_vec rfl _ _ 43 rfl 31 i1 _ 2 16 Tryz.underlying43 HJ.out.1 HJ.out.2.1 HJ.out.2.2.1 HJ.out.2.2.2 rfl (by decide) u5 i _ rfl (OLD.out _ _) _ 1 _ rfl (NEW.out _ _) (by intro u hu; simp at hu; rcases hu with hu | hu <;> (rw [hu]; rfl)) (by simp only [maxLen]; omega) (by omega) ?_; intro v' w' hv' ho' hb'; have HNX := Lib.hid (HG.out.next HR.out (OAB.out _ _) ho' (by rw [HRN.out]; exact hv') hb'); clear hv' ho' hb')
      go_roundw
      case rel => exact ⟨i + 1, by go_num, by omega, HNX.out⟩
      case measure => simp [intOf]; omega
    · have hiq : i = N := by omega
      subst hiq
      have t1 : decide ((i : Int) < (i : Int)) = false := by simp
      have F0 := Lib.hid (show TwoL w (rkeys Q) (Q.map Rw.f) (.returned (.tuple #[.slice ka i kc, u5])) wr from by
        have hQ := HN.out.1
        have hz := HTS.out.size
        have hz2 := hg.only.size
        have hv := hg.v
        have e : Q.take i = Q := by rw [← hQ, List.take_length]
        rw [e] at hv
        refine ⟨_, _, rfl, ⟨?_, ?_, fun g hg' => ?_, fun g hg' => by have := hg.ov g hg'; omega, fun g h1 h2 => ?_⟩, ?_⟩
        · rw [show (rkeys Q).length = i from (List.length_map _).trans hQ]
          exact HK.out.1.only hg.only fun g h1 e' => by have := (HK.out.2 g h1).2; have e2 : wc.heap.size ≤ g := e'; omega
        · rw [List.length_map, hQ]
          exact hv
        · have := HK.out.2 g hg'; omega
        · have := (HK.out.2 g h1).2
          have := (hg.ov g h2).1
          omega
        · exact still_of (HTS.out.only.trans hg.only) fun c hc e => by omega)
      clear hg hiQ
      go_wp2_with fail
      go_ret2
      exact F0.out
end Go.Proofs.YtedfijmaeoednaaGreatDoor

namespace Go.Proofs.YtedfijmaeoednaaGreatDoor
open Go.RowKit Go.Wh Go.Proofs.YtedfijmaeoednaaGreatDoor.Tw

/-- An index whose blocks are younger than w0, and none of A. -/
def OwnX (w0 : World) (A : Nat → Prop) (w : World) (x : Nat) (R : List Rw) : Prop := ∃ F, IxAt w x R F ∧ (∀ b ∈ F, w0.heap.size ≤ b ∧ ¬ A b) ∧ (∀ b, A b → b < w.heap.size)
/-- What turns then. -/
def Mine (w0 : World) (A : Nat → Prop) (w w' : World) : Prop := Only (fun b => w0.heap.size ≤ b ∧ ¬ A b) w w'

section
variable {w0 w w' : World} {A : Nat → Prop} {x : Nat} {R R' : List Rw} {k : Key} {v : Rid}
theorem Mine.still {w0 w w' : World} {A : Nat → Prop} (hw : Still w0 w) (h : Mine w0 A w w') : Still w0 w' := by
  have h1 : Only (fun b => w0.heap.size ≤ b ∧ ¬ A b) w0 w' := hw.only.trans h
  exact ⟨h1.os, h1.tape, h1.output, h1.size, fun i hi _ => h1.block i hi fun e => by omega⟩
theorem OwnX.still (h : OwnX w0 A w x R) (hs : Still w w') : OwnX w0 A w' x R := by
  obtain ⟨F, h1, h2, h3⟩ := h
  exact ⟨F, h1.still hs, h2, fun b hb => Nat.lt_of_lt_of_le (h3 b hb) hs.size⟩
theorem OwnX.only {S : Nat → Prop} (h : OwnX w0 A w x R) (hs : Only S w w') (hS : ∀ b, S b → A b) (h0 : ¬ S 0) : OwnX w0 A w' x R := by
  obtain ⟨F, h1, h2, h3⟩ := h
  exact ⟨F, h1.only hs (fun b hb e => (h2 b hb).2 (hS b e)) h0, h2, fun b hb => Nat.lt_of_lt_of_le (h3 b hb) hs.size⟩
theorem OwnX.fits (h : OwnX w0 A w x R) : Fits R := by
  obtain ⟨F, h1, _⟩ := h
  exact h1.fits
theorem OwnX.m (h : OwnX w0 A w x R) : HasM w := by
  obtain ⟨F, h1, _⟩ := h
  exact h1.m

/-- What is made later is none of it. -/
theorem OwnX.avoid {B : Nat → Prop} (h : OwnX w0 A w x R) (hs : Still w w') (hB : ∀ b, B b → w.heap.size ≤ b ∧ b < w'.heap.size) : OwnX w0 (fun b => A b ∨ B b) w' x R := by
  obtain ⟨F, h1, h2, h3⟩ := h
  refine ⟨F, h1.still hs, fun b hb => ⟨(h2 b hb).1, fun e => ?_⟩, fun b hb => ?_⟩
  · rcases e with e | e
    · exact (h2 b hb).2 e
    · have := h1.lt b hb
      have := (hB b e).1
      omega
  · rcases hb with e | e
    · exact Nat.lt_of_lt_of_le (h3 b e) hs.size
    · exact (hB b e).2
theorem Mine.cell (h : Mine w0 A w w') {p : Addr} {u : Value} (hc : w.cell? p = some u) (hp : A p.block) : w'.cell? p = some u := (Only.cell h (World.block_lt_of_cell? _ _ hc) fun e => e.2 hp).trans hc
theorem Mine.vec {size n : Nat} {u : Value} {xs : List Value} (h : Mine w0 A w w') (hv : Vec w size u n xs) (hp : ∀ g, u.ownBlock = some g → A g) : Vec w' size u n xs := hv.only h fun g hg e => e.2 (hp g hg)

theorem ox_new (hw : Still w0 w) (hm : HasM w) (hA : ∀ b, A b → b < w.heap.size) : Calls Tryz.prog 7 #[] w (fun e w' => ∃ x, e = .returned (ptr x) ∧ OwnX w0 A w' x [] ∧ Still w w') :=
  (newx_any w hm).mono fun e w' ⟨t, F, h1, h2, h3, h4⟩ => ⟨t, h1, ⟨F, h2, fun b hb => ⟨Nat.le_trans hw.size (h4 b hb), fun e => by have := hA b e; have := h4 b hb; omega⟩, fun b hb => Nat.lt_of_lt_of_le (hA b hb) h3.size⟩, h3⟩

def OxPost (w0 : World) (A : Nat → Prop) (w : World) (x : Nat) (R' : List Rw) (v : Value) (e : Ending) (w' : World) : Prop := e = .returned v ∧ OwnX w0 A w' x R' ∧ Mine w0 A w w'
theorem ox_post {F : List Nat} {v : Value} {e : Ending} (hw : Still w0 w) (h2 : ∀ b ∈ F, w0.heap.size ≤ b ∧ ¬ A b) (h3 : ∀ b, A b → b < w.heap.size) (h : IxPost w x F R' v e w') : OxPost w0 A w x R' v e w' := by
  obtain ⟨F', e1, h4, h5, h6⟩ := h
  refine ⟨e1, ⟨F', h4, fun b hb => ?_, fun b hb => Nat.lt_of_lt_of_le (h3 b hb) h5.size⟩, h5.mono h2⟩
  rcases h6 b hb with h | h
  · exact h2 b h
  · exact ⟨Nat.le_trans hw.size h, fun e => by have := h3 b e; omega⟩
theorem ox_put (h : OwnX w0 A w x R) (hl : R.length ≤ 1000) (hw : Still w0 w) (key sec val : Key) (p q : Int) (hk : key.size ≤ 1000) (hs : sec.size ≤ 1000) (hv : val.size ≤ 1000) {er : Int} (hR : putR R key sec val (p, q) = R') (hE : putE R key sec val = er) :
    Calls Tryz.prog 14 #[.pointer (some ⟨x, 0, none⟩), .agg #[.string key, .string sec, .string val], .agg #[.int .i64 p, .int .i64 q]] w (OxPost w0 A w x R' (.int .i64 er)) := by
  obtain ⟨F, h1, h2, h3⟩ := h
  subst hR hE
  exact (putx_any w x R F key sec val (p, q) h1 hl hk hs hv).mono fun e w' => ox_post hw h2 h3
theorem ox_move (h : OwnX w0 A w x R) (hl : R.length ≤ 1000) (hw : Still w0 w) (key : Key) (p q : Int) {u : Value} (hR : moveR R key (p, q) = R') (hE : errOf (getR R key) = u) :
    Calls Tryz.prog 10 #[.pointer (some ⟨x, 0, none⟩), .string key, .agg #[.int .i64 p, .int .i64 q]] w (OxPost w0 A w x R' u) := by
  obtain ⟨F, h1, h2, h3⟩ := h
  subst hR hE
  exact (move_any w x R F key (p, q) h1 hl).mono fun e w' => ox_post hw h2 h3
theorem ox_mend (h : OwnX w0 A w x R) (hl : R.length ≤ 1000) (hw : Still w0 w) (key : Key) {u : Value} (hR : mendR R key = R') (hE : errOf (getR R key) = u) :
    Calls Tryz.prog 12 #[.pointer (some ⟨x, 0, none⟩), .string key] w (OxPost w0 A w x R' u) := by
  obtain ⟨F, h1, h2, h3⟩ := h
  subst hR hE
  exact (mend_any w x R F key h1 hl).mono fun e w' => ox_post hw h2 h3
theorem ox_cut (h : OwnX w0 A w x R) (hl : R.length ≤ 1000) (hw : Still w0 w) (key : Key) {u : Value} (hR : delR R key = R') (hE : errOf (getR R key) = u) :
    Calls Tryz.prog 8 #[.pointer (some ⟨x, 0, none⟩), .string key] w (OxPost w0 A w x R' u) := by
  obtain ⟨F, h1, h2, h3⟩ := h
  subst hR hE
  exact (cutx_any w x R F key h1 hl).mono fun e w' => ox_post hw h2 h3
theorem ox_find (h : OwnX w0 A w x R) (key : Key) {o : Option Rw} (ho : getR R key = o) :
    Calls Tryz.prog 16 #[.pointer (some ⟨x, 0, none⟩), .string key] w (FindPost w o) := by
  obtain ⟨F, h1, h2, h3⟩ := h
  subst ho
  exact find_any w x R F key h1
theorem ox_seek (h : OwnX w0 A w x R) (hl : R.length ≤ 1000) (s : Key) (hs : s.size ≤ 100) {Q : List Rw} (hQ : seekR R s = Q) :
    Calls Tryz.prog 18 #[.pointer (some ⟨x, 0, none⟩), .string s] w (TwoL w (rkeys Q) (Q.map Rw.n)) := by
  obtain ⟨F, h1, h2, h3⟩ := h
  subst hQ
  exact seek_any w x R F s h1 hl hs
theorem ox_from (h : OwnX w0 A w x R) (hl : R.length ≤ 1000) (k : Key) {Q : List Rw} (hQ : fromR R k = Q) :
    Calls Tryz.prog 22 #[.pointer (some ⟨x, 0, none⟩), .string k] w (TwoL w (rkeys Q) (Q.map Rw.f)) := by
  obtain ⟨F, h1, h2, h3⟩ := h
  subst hQ
  exact fromx_any w x R F k h1 hl
theorem ox_len (h : OwnX w0 A w x R) {n : Nat} (hn : R.length = n) : Calls Tryz.prog 21 #[.pointer (some ⟨x, 0, none⟩)] w (fun e w' => e = .returned (.int .i64 n) ∧ w' = w) := by
  obtain ⟨F, h1, h2, h3⟩ := h
  subst hn
  exact lenx_any w x R F h1
end

def kA : Key := ⟨#[97]⟩
def kS : Key := ⟨#[115]⟩
def bR (p q : Int) : List Rw := [⟨⟨#[97]⟩, ⟨#[115]⟩, (p, 0), (q, 0)⟩]
theorem b1 : putR [] ⟨#[97]⟩ ⟨#[115]⟩ ⟨#[]⟩ (1, 0) = bR 1 1 := by kernel_rfl
theorem b1e : putE [] ⟨#[97]⟩ ⟨#[115]⟩ ⟨#[]⟩ = 0 := by kernel_rfl
theorem b2 : moveR (bR 1 1) ⟨#[97]⟩ (2, 0) = bR 2 1 := by kernel_rfl
theorem b2e : errOf (getR (bR 1 1) ⟨#[97]⟩) = .int .i64 0 := by kernel_rfl
theorem b3 : getR (bR 2 1) ⟨#[97]⟩ = some ⟨⟨#[97]⟩, ⟨#[115]⟩, (2, 0), (1, 0)⟩ := by kernel_rfl
theorem b4 (p q : Int) : seekR (bR p q) ⟨#[115]⟩ = bR p q := rfl
theorem b5 : mendR (bR 2 1) ⟨#[97]⟩ = bR 2 2 := by kernel_rfl
theorem b5e : errOf (getR (bR 2 1) ⟨#[97]⟩) = .int .i64 0 := by kernel_rfl
theorem b6 : fromR (bR 2 2) ⟨#[]⟩ = bR 2 2 := by kernel_rfl
theorem b7 : delR (bR 2 2) ⟨#[97]⟩ = [] := by kernel_rfl
theorem b7e : errOf (getR (bR 2 2) ⟨#[97]⟩) = .int .i64 0 := by kernel_rfl
theorem b8 : delR [] ⟨#[97]⟩ = [] := by kernel_rfl
theorem b8e : errOf (getR [] ⟨#[97]⟩) = .int .i64 9 := by kernel_rfl
end Go.Proofs.YtedfijmaeoednaaGreatDoor

namespace Go.Proofs.YtedfijmaeoednaaGreatDoor
open Go.RowKit Go.Wh Go.Proofs.YtedfijmaeoednaaGreatDoor.Tw

def BTrue (W : World) (e : Ending) (w' : World) : Prop := e = .returned (.bool true) ∧ Still W w'

theorem lists_one {w w' : World} {p q : Int} {kv vv : Value} {f : Rw → Rid} {a b : Int} (hf : f ⟨⟨#[97]⟩, ⟨#[115]⟩, (p, 0), (q, 0)⟩ = (a, b)) (h : Lists w w' (rkeys (bR p q)) ((bR p q).map f) kv vv) :
    ∃ gk ok ck gv ov cv, kv = .slice (some ⟨gk, ok, none⟩) 1 ck ∧ vv = .slice (some ⟨gv, ov, none⟩) 1 cv ∧ w'.cell? ⟨gv, ov, none⟩ = some (.int .i64 a) ∧ w.heap.size ≤ gv ∧ gv < w'.heap.size := by
  have hv := h.v
  have hk := h.k
  have e : (bR p q).map f = [(a, b)] := by unfold bR; rw [List.map_singleton, hf]
  rw [e] at hv
  obtain ⟨gk, ok, ck, rfl, hkk⟩ := hk.form (by simp [bR, rkeys])
  obtain ⟨gv, ov, cv, rfl, hvv⟩ := hv.form (by simp)
  refine ⟨gk, ok, ck, gv, ov, cv, rfl, rfl, hvv.cell 0 (by simp), ?_⟩
  have := h.ov gv rfl
  exact ⟨this.1, this.2⟩

set_option maxHeartbeats 2000000 in
set_option maxRecDepth 100000 in
theorem begun_any (W : World) (hm : HasM W) : Calls Tryz.prog 6 #[] W (BTrue W) := by
  have HN := Lib.hid (ox_new (w0 := W) (A := fun _ => False) (Still.refl W) hm (fun _ e => e.elim))
  clear hm
  go_enter Tryz.func6, Tryz.ntmps6
  go_wp2_with fail
  refine HN.out.mono ?_
  rintro e w1 ⟨x, rfl, ho1, hs1⟩
  have HP1 := Lib.hid (ox_put ho1 (by simp) hs1 _ _ _ 1 0 (by decide) (by decide) (by decide) b1 b1e)
  have HS1 := Lib.hid hs1
  clear ho1 hs1 HN
  unfold ptr
  go_wp2_with fail
  refine HP1.out.mono ?_
  rintro e w2 ⟨rfl, ho2, hm2⟩
  have hs2 := hm2.still HS1.out
  have HP2 := Lib.hid (ox_move ho2 (by simp [bR]) hs2 _ 2 0 b2 b2e)
  have HS2 := Lib.hid hs2
  clear ho2 hm2 hs2 HP1 HS1
  go_wp2_with fail
  refine HP2.out.mono ?_
  rintro e w3 ⟨rfl, ho3, hm3⟩
  have hs3 := hm3.still HS2.out
  have HG := Lib.hid (ox_find ho3 _ b3)
  have HO3 := Lib.hid ho3
  have HS3 := Lib.hid hs3
  clear ho3 hm3 hs3 HP2 HS2
  go_wp2_with fail
  refine HG.out.mono ?_
  rintro e w4 ⟨rfl, hs4⟩
  have hs5 : Still w3 (w4.alloc (.cells #[.int .i64 2, .int .i64 0] 31)) := hs4.trans ((Only.refl (fun _ => False) w4).alloc _)
  have c4 : (w4.alloc (.cells #[.int .i64 2, .int .i64 0] 31)).cell? ⟨w4.heap.size, 0, none⟩ = some (.int .i64 2) := (cellsAt_new w4 [.int .i64 2, .int .i64 0] 31).cell 0
  have hs3 : Still W _ := HS3.out.trans hs5
  have ho5 := HO3.out.avoid (B := fun b => b = w4.heap.size) hs5 (fun b hb => by subst hb; exact ⟨hs4.size, by simp⟩)
  have HH := Lib.hid (And.intro c4 (And.intro hs3 ho5))
  clear HG hs4 hs5 c4 hs3 ho5 HO3 HS3
  unfold findV
  go_wp2_with fail
  have hh := HH.out
  clear HH
  generalize w4.alloc (.cells #[.int .i64 2, .int .i64 0] 31) = w5 at *
  generalize w4.heap.size = bb4 at *
  obtain ⟨c5, hs5, ho5⟩ := hh
  have HF := Lib.hid (ox_seek ho5 (by simp [bR]) _ (by decide) (b4 2 1))
  have H5 := Lib.hid (And.intro c5 (And.intro hs5 ho5))
  clear c5 hs5 ho5
  refine HF.out.mono ?_
  rintro e w6 ⟨kv, vv, rfl, ht, hs6⟩
  obtain ⟨gk, ok, ck, gl, ol, cl, rfl, rfl, d6, n6, m6⟩ := lists_one (f := Rw.n) rfl ht
  have ho6 := H5.out.2.2.avoid (B := fun b => b = gl) hs6 (fun b hb => by subst hb; exact ⟨n6, m6⟩)
  have c6 := Still.cell hs6 H5.out.1
  have hs6' := H5.out.2.1.trans hs6
  have HM6 := Lib.hid (ox_mend ho6 (by simp [bR]) hs6' _ b5 b5e)
  have H6 := Lib.hid (And.intro d6 (And.intro c6 hs6'))
  clear ht hs6 d6 n6 m6 ho6 c6 hs6' HF H5
  go_wp2_with fail
  refine HM6.out.mono ?_
  rintro e w7 ⟨rfl, ho7, hm7⟩
  have hs7 := hm7.still H6.out.2.2
  have d7 := hm7.cell H6.out.1 (.inr rfl)
  have c7 := hm7.cell H6.out.2.1 (.inl (.inr rfl))
  have HF7 := Lib.hid (ox_seek ho7 (by simp [bR]) _ (by decide) (b4 2 2))
  have H7 := Lib.hid (And.intro d7 (And.intro c7 (And.intro hs7 ho7)))
  clear ho7 hm7 hs7 d7 c7 HM6 H6
  go_wp2_with fail
  refine HF7.out.mono ?_
  rintro e w8 ⟨kv, vv, rfl, ht, hs8⟩
  obtain ⟨gk2, ok2, ck2, gm, om, cm, rfl, rfl, e8, n8, m8⟩ := lists_one (f := Rw.n) rfl ht
  have ho8 := H7.out.2.2.2.avoid (B := fun b => b = gm) hs8 (fun b hb => by subst hb; exact ⟨n8, m8⟩)
  have d8 := Still.cell hs8 H7.out.1
  have c8 := Still.cell hs8 H7.out.2.1
  have hs8' := H7.out.2.2.1.trans hs8
  have HF8 := Lib.hid (ox_from ho8 (by simp [bR]) _ b6)
  have H8 := Lib.hid (And.intro e8 (And.intro d8 (And.intro c8 (And.intro hs8' ho8))))
  clear ht hs8 e8 n8 m8 ho8 d8 c8 hs8' HF7 H7
  go_wp2_with fail
  refine HF8.out.mono ?_
  rintro e w9 ⟨kv, vv, rfl, ht, hs9⟩
  obtain ⟨gk3, ok3, ck3, gn, on, cn, rfl, rfl, -, -, -⟩ := lists_one (f := Rw.f) rfl ht
  have ho9 := H8.out.2.2.2.2.still hs9
  have e9 := Still.cell hs9 H8.out.1
  have d9 := Still.cell hs9 H8.out.2.1
  have c9 := Still.cell hs9 H8.out.2.2.1
  have hs9' := H8.out.2.2.2.1.trans hs9
  have HL := Lib.hid (ox_len ho9 (n := 1) rfl)
  have HC := Lib.hid (ox_cut ho9 (by simp [bR]) hs9' _ b7 b7e)
  have H9 := Lib.hid hs9'
  clear ht hs9 ho9 hs9' HF8 H8
  go_wp2_with fail
  refine HL.out.mono ?_
  rintro e w9' ⟨rfl, rfl⟩
  clear HL
  go_wp2_with fail
  refine HC.out.mono ?_
  rintro e w10 ⟨rfl, ho10, hm10⟩
  have hs10 := hm10.still H9.out
  have HC2 := Lib.hid (ox_cut ho10 (by simp) hs10 _ b8 b8e)
  have H10 := Lib.hid hs10
  clear ho10 hm10 hs10 HC H9 e9 d9 c9
  go_wp2_with fail
  refine HC2.out.mono ?_
  rintro e w11 ⟨rfl, -, hm11⟩
  have FIN := Lib.hid (show BTrue W (.returned (.bool true)) w11 from ⟨rfl, hm11.still H10.out⟩)
  clear hm11 HC2 H10
  go_wp2_with fail
  go_ret
  exact FIN.out
end Go.Proofs.YtedfijmaeoednaaGreatDoor

namespace Go.Proofs.YtedfijmaeoednaaGreatDoor
open Go.RowKit Go.Wh Go.Proofs.YtedfijmaeoednaaGreatDoor.Tw

/-- A text of one byte. -/
theorem conv1 (w : World) (x : Int) : (convert 52 9 (.slice (some ⟨w.heap.size, 0, none⟩) 1 1)).run Tryz.prog (w.alloc (.cells #[.int .u8 x] 5)) = .ok (.string (strOfNums [x])) (w.alloc (.cells #[.int .u8 x] 5)) :=
  run_convert_bytes_arg _ 52 5 Tryz.underlying52 Tryz.underlying5 _ 0 1 1 [x] rfl (fun i hi => by
    have h := (cellsAt_new w [.int .u8 x] 5).cell i
    rw [Nat.zero_add]
    rw [h]
    have : i = 0 := by omega
    subst this
    rfl) 9 Tryz.underlying9

/-- The name of one of twenty-six. -/
def kk (k : Nat) : Key := strOfNums [97 + (k : Int)]
theorem kk_list (k : Nat) : (kk k).toList = [(97 + k).toUInt8] := by
  rw [ByteArray.toList_eq]
  unfold kk
  rw [strOfNums_data]
  simp only [List.map_cons, List.map_nil]
  have : (97 + (k : Int)).toNat = 97 + k := by omega
  rw [this]
theorem kk_size (k : Nat) : (kk k).size = 1 := by
  rw [← size_list, ← ByteArray.toList_eq, kk_list]
  rfl
theorem kk_bl {a b : Nat} (ha : a < 26) (hb : b < 26) : bl (kk a) (kk b) = decide (a < b) := by
  rw [Bool.eq_iff_iff, bl_iff, kk_list, kk_list, decide_eq_true_eq, List.cons_lt_cons_iff]
  have e1 : (97 + a).toUInt8.toNat = 97 + a := by simp [UInt8.toNat_ofNat']; omega
  have e2 : (97 + b).toUInt8.toNat = 97 + b := by simp [UInt8.toNat_ofNat']; omega
  constructor
  · rintro (h | ⟨_, h⟩)
    · rw [UInt8.lt_iff_toNat_lt, e1, e2] at h; omega
    · exact absurd h (List.not_lt_nil _)
  · intro h
    left
    rw [UInt8.lt_iff_toNat_lt, e1, e2]
    omega
theorem kk_inj {a b : Nat} (ha : a < 26) (hb : b < 26) (h : kk a = kk b) : a = b := by
  have h1 := kk_bl ha hb
  have h2 := kk_bl hb ha
  rw [h, bl_irrefl] at h1 h2
  simp at h1 h2
  omega

/-- The rows that there are, by number. -/
def rowsH (h : Nat → Option Rw) : List Rw := (List.range 26).filterMap h
structure Named (h : Nat → Option Rw) : Prop where
  key : ∀ j, j < 26 → ∀ r, h j = some r → r.key = kk j
theorem mem_rowsH {h : Nat → Option Rw} {y : Rw} : y ∈ rowsH h ↔ ∃ j, j < 26 ∧ h j = some y := by
  unfold rowsH
  rw [List.mem_filterMap]
  constructor
  · rintro ⟨j, hj, e⟩
    exact ⟨j, List.mem_range.1 hj, e⟩
  · rintro ⟨j, hj, e⟩
    exact ⟨j, List.mem_range.2 hj, e⟩

theorem rowsH_ks {h : Nat → Option Rw} (hn : Named h) : KS (rkeys (rowsH h)) := by
  unfold rkeys rowsH KS
  rw [List.pairwise_map, List.pairwise_filterMap]
  refine List.pairwise_lt_range.imp_of_mem fun {a b} ha hb hab => ?_
  intro r hr q hq
  have ha' := List.mem_range.1 ha
  have hb' := List.mem_range.1 hb
  rw [hn.key a ha' r hr, hn.key b hb' q hq, kk_bl ha' hb']
  simpa using hab

def updH (h : Nat → Option Rw) (i : Nat) (o : Option Rw) : Nat → Option Rw := fun j => if j = i then o else h j
theorem updH_same (h : Nat → Option Rw) (i : Nat) (o : Option Rw) : updH h i o i = o := if_pos rfl
theorem updH_other (h : Nat → Option Rw) {i j : Nat} (o : Option Rw) (e : j ≠ i) : updH h i o j = h j := if_neg e
theorem Named.upd {h : Nat → Option Rw} (hn : Named h) {i : Nat} {o : Option Rw} (ho : ∀ r, o = some r → r.key = kk i) : Named (updH h i o) := ⟨fun j hj r hr => by
  by_cases e : j = i
  · subst e
    rw [updH_same] at hr
    exact ho r hr
  · rw [updH_other _ _ e] at hr
    exact hn.key j hj r hr⟩

theorem ins_rowsH {h : Nat → Option Rw} (hn : Named h) {i : Nat} (hi : i < 26) {r : Rw} (hr : r.key = kk i) : insR (rowsH h) r = rowsH (updH h i (some r)) := by
  have hn2 := hn.upd (i := i) (o := some r) (fun q hq => by cases hq; exact hr)
  refine KS.ext (kf := Rw.key) (KS_insG (rowsH_ks hn) r) (rowsH_ks hn2) fun y => ?_
  rw [mem_insG (rowsH_ks hn), mem_rowsH, mem_rowsH]
  constructor
  · rintro (rfl | ⟨h1, j, hj, e⟩)
    · exact ⟨i, hi, updH_same _ _ _⟩
    · refine ⟨j, hj, ?_⟩
      rw [updH_other _ _ (fun e' => h1 ?_)]
      · exact e
      · rw [hn.key j hj y e, e', hr]
  · rintro ⟨j, hj, e⟩
    by_cases e' : j = i
    · subst e'
      rw [updH_same] at e
      cases e
      exact .inl rfl
    · rw [updH_other _ _ e'] at e
      refine .inr ⟨fun e2 => e' ?_, j, hj, e⟩
      rw [hn.key j hj y e, hr] at e2
      exact kk_inj hj hi e2
theorem del_rowsH {h : Nat → Option Rw} (hn : Named h) {i : Nat} (hi : i < 26) : delR (rowsH h) (kk i) = rowsH (updH h i none) := by
  have hn2 := hn.upd (i := i) (o := none) (fun q hq => by cases hq)
  refine KS.ext (kf := Rw.key) (KS_delG (rowsH_ks hn) _) (rowsH_ks hn2) fun y => ?_
  rw [mem_delG (rowsH_ks hn), mem_rowsH, mem_rowsH]
  constructor
  · rintro ⟨h1, j, hj, e⟩
    refine ⟨j, hj, ?_⟩
    rw [updH_other _ _ (fun e' => h1 ?_)]
    · exact e
    · rw [hn.key j hj y e, e']
  · rintro ⟨j, hj, e⟩
    by_cases e' : j = i
    · subst e'
      rw [updH_same] at e
      cases e
    · rw [updH_other _ _ e'] at e
      refine ⟨fun e2 => e' ?_, j, hj, e⟩
      rw [hn.key j hj y e] at e2
      exact kk_inj hj hi e2
theorem get_rowsH {h : Nat → Option Rw} (hn : Named h) {i : Nat} (hi : i < 26) : getR (rowsH h) (kk i) = h i := by
  cases hh : h i with
  | some r => exact (getG_some (rowsH_ks hn)).2 ⟨hn.key i hi r hh, mem_rowsH.2 ⟨i, hi, hh⟩⟩
  | none =>
    refine (getG_none (rowsH_ks hn)).2 fun y hy e => ?_
    obtain ⟨j, hj, e'⟩ := mem_rowsH.1 hy
    rw [hn.key j hj y e'] at e
    have := kk_inj hj hi e
    subst this
    rw [hh] at e'
    cases e'
theorem rowsH_length (h : Nat → Option Rw) : (rowsH h).length ≤ 26 := by
  have := List.length_filterMap_le h (List.range 26)
  rw [List.length_range] at this
  exact this
theorem filterMap_same {g h : Nat → Option Rw} : ∀ {l : List Nat}, (∀ j ∈ l, g j = h j) → l.filterMap g = l.filterMap h
  | [], _ => rfl
  | a :: l, e => by
    rw [List.filterMap_cons, List.filterMap_cons, e a (by simp), filterMap_same fun j hj => e j (by simp [hj])]
theorem rowsH_congr {g h : Nat → Option Rw} (e : ∀ j, j < 26 → g j = h j) : rowsH g = rowsH h := by
  unfold rowsH
  exact filterMap_same fun j hj => e j (List.mem_range.1 hj)

theorem bl_empty (k : Key) : bl k ⟨#[]⟩ = false := by
  cases h : bl k ⟨#[]⟩ with
  | false => rfl
  | true =>
    have h1 := (bl_iff _ _).1 h
    have h2 : (⟨#[]⟩ : Key).toList = [] := by rw [ByteArray.toList_eq]
    rw [h2] at h1
    exact absurd h1 (List.not_lt_nil _)
theorem from_empty (R : List Rw) : fromR R ⟨#[]⟩ = R := by
  unfold fromR pos
  rw [takeWhile_none fun b _ => bl_empty b]
  rfl

/-- The first so many rows: how many, and the next one. -/
def cntH (h : Nat → Option Rw) (i : Nat) : Nat := ((List.range i).filterMap h).length
theorem cntH_succ (h : Nat → Option Rw) (i : Nat) : cntH h (i + 1) = cntH h i + if (h i).isSome then 1 else 0 := by
  unfold cntH
  rw [List.range_succ, List.filterMap_append, List.length_append]
  cases hh : h i <;> simp [hh]
theorem cntH_all (h : Nat → Option Rw) : cntH h 26 = (rowsH h).length := rfl
theorem rowsH_at {h : Nat → Option Rw} {i : Nat} (hi : i < 26) {r : Rw} (hr : h i = some r) : (rowsH h)[cntH h i]? = some r := by
  have e : List.range 26 = List.range i ++ (i :: (List.range (25 - i)).map fun j => i + 1 + j) := by
    have h1 : 26 = i + (1 + (25 - i)) := by omega
    rw [show List.range 26 = List.range (i + (1 + (25 - i))) by rw [← h1], List.range_add, List.range_add, List.map_append]
    simp [Nat.add_assoc]
  unfold rowsH cntH
  rw [e, List.filterMap_append, List.filterMap_cons, hr]
  simp
end Go.Proofs.YtedfijmaeoednaaGreatDoor

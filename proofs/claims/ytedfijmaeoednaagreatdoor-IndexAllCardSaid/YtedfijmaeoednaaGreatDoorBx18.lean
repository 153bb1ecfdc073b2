/- A child that is too small is joined with its neighbour: the walk where it is. Conditions: a node of children in memory. The second instance: a place and a second key. A key is cut out: what the nodes are then, as lists; and what the walk of it asks. Conditions: a tree in memory. The second instance: a place and a second key. -/
import Derived.Test.YtedfijmaeoednaaGreatDoorBx17
import Derived.Deep.DeepCutAuto
namespace Go.Proofs.YtedfijmaeoednaaGreatDoor.Ke
open Go.RowKit Go.Wh

set_option maxHeartbeats 1000000 in
set_option maxRecDepth 100000 in
theorem join_do (d : Nat) (w : World) (r : Nat) (ks : List Key) (rs : List Nat) (cs : List (Nd d)) (F0 : List Nat) (Fs : List (List Nat)) (i : Nat) (h : Inr d w r ks rs rs cs F0 Fs) (hk : ks.length = cs.length) (hi : i < cs.length) (h90 : cs.length ≤ 90) (hc : ¬ (2 ≤ (at' cs i).length ∨ cs.length < 2)) (h40 : ∀ c ∈ cs, c.length ≤ 40) :
    Calls Tryz.prog 62 #[ptr r, .int .i64 i] w (JoinPost d w r cs i (F0 ++ Fs.flatten)) := by
  have hlen : rs.length = cs.length := h.kids.lenR
  obtain ⟨n, hn⟩ : ∃ n, cs.length = n := ⟨_, rfl⟩
  obtain ⟨j, hj⟩ : ∃ j, i - 1 = j := ⟨_, rfl⟩
  have hjn : j + 1 < n := by omega
  obtain ⟨ra, q, rb, Fa, f, Fb, _, _, _, _, hq, _, hrq⟩ := h.child i hi
  obtain ⟨qa, a, b, qb, Ga, fa, fb, Gb, hrs, hFs, hqa, sa, hca, hcb, sb, hra, hrb⟩ := h.pair j (by omega)
  obtain ⟨g2, o2, p2, k0, k1⟩ := h.raw.kids (by omega)
  have k2 : w.cell? ⟨g2, o2 + i, none⟩ = some (.pointer (some ⟨q, 0, none⟩)) := k1 i q hrq
  have k3 : w.cell? ⟨g2, o2 + j, none⟩ = some (.pointer (some ⟨a, 0, none⟩)) := k1 j a hra
  have k4 : w.cell? ⟨g2, o2 + (j + 1), none⟩ = some (.pointer (some ⟨b, 0, none⟩)) := k1 (j + 1) b hrb
  rw [hlen, hn] at k0
  obtain ⟨vs0, cs0, G, hr0, hmx, _, _⟩ := hq.raw
  obtain ⟨m, hm⟩ : ∃ m, (at' cs i).length = m := ⟨_, rfl⟩
  have HZ := Lib.hid (fun w' (hs : Still w w') => size_any w' q (keys (at' cs i)) vs0 cs0 G (hr0.still hs))
  rw [hmx, hm] at HZ
  have b0 : (0 : Int) ≤ (i : Int) := by omega
  have b1 : (i : Int) < (n : Int) := by omega
  have b2 : 0 < n := by omega
  have HC := Lib.hid hc
  have HC2 := Lib.hid hc
  have H := Lib.hid (And.intro h (And.intro hk (And.intro hi (And.intro h90 (And.intro h40 (And.intro hn (And.intro hj (And.intro hjn hlen))))))))
  rw [hm, hn] at HC
  have t1 : decide ((m : Int) ≥ 2) = false := by simp; omega
  have t2 : decide (2 ≤ (m : Int)) = false := by simp; omega
  have t3 : decide ((n : Int) < 2) = false := by simp; omega
  have u1 : IntKind.i64.wrap ((i : Int) - 1) = (i : Int) - 1 := IntWalk.i64_in _ (by omega)
  have u2 : max ((i : Int) - 1) 0 = (j : Int) := by omega
  have u3 : IntKind.i64.wrap ((j : Int) + 1) = (j : Int) + 1 := IntWalk.i64_in _ (by omega)
  have b3 : (0 : Int) ≤ (j : Int) := by omega
  have b4 : (j : Int) < (n : Int) := by omega
  have b5 : (0 : Int) ≤ (j : Int) + 1 := by omega
  have b6 : (j : Int) + 1 < (n : Int) := by omega
  have b7 : ((j : Int) + 1).toNat = j + 1 := by omega
  have HP := Lib.hid (And.intro hrs (And.intro hFs (And.intro hqa (And.intro sa (And.intro hca (And.intro hcb (And.intro sb (And.intro hra hrb))))))))
  clear h hk hi h90 hc hlen hn hq hrq k1 hr0 hmx hm hj hjn hra hrb h40 hrs hFs hqa sa hca hcb sb
  unfold ptr at HZ ⊢
  go_enter Tryz.func62, Tryz.ntmps62
  go_wp2_with fail
  (with_reducible refine (HZ.out _ (Still.refl _)).mono ?_)
  rintro e w1 ⟨rfl, hs1⟩
  have s0 := Still.cell hs1 k0
  have s3 := Still.cell hs1 k3
  have s4 := Still.cell hs1 k4
  have HS1 := Lib.hid hs1
  clear hs1 k0 k2 k3 k4
  go_wp2_with fail
  go_quiet (fail)
  have HS2 := Lib.hid (show Still w (w1.drewN nq) from HS1.out.trans (still_drewN _ _))
  clear s0 s3 s4 HS1
  generalize w1.drewN nq = W at *
  obtain ⟨la, hla⟩ : ∃ la, at' cs j = la := ⟨_, rfl⟩
  obtain ⟨lb, hlb⟩ : ∃ lb, at' cs (j + 1) = lb := ⟨_, rfl⟩
  have hnd := H.out.1.nd
  rw [HP.out.2.1] at hnd
  have hdab : (fa ++ fb).Nodup := by
    have h1 := (List.nodup_append.1 hnd).2.1
    simp only [List.flatten_append, List.flatten_cons, List.flatten_nil, List.append_nil] at h1
    exact (List.nodup_append.1 (List.nodup_append.1 h1).2.1).1
  have hAW : At d W a la fa := hla ▸ HP.out.2.2.2.2.1.only HS2.out fun _ _ e => e
  have hBW : At d W b lb fb := hlb ▸ HP.out.2.2.2.2.2.1.only HS2.out fun _ _ e => e
  have hl4a : la.length ≤ 40 := H.out.2.2.2.2.1 la (by rw [← hla]; unfold at'; rw [List.getElem?_eq_getElem (by have := H.out.2.2.2.2.2; omega)]; exact List.getElem_mem _)
  have hl4b : lb.length ≤ 40 := H.out.2.2.2.2.1 lb (by rw [← hlb]; unfold at'; rw [List.getElem?_eq_getElem (by have := H.out.2.2.2.2.2; omega)]; exact List.getElem_mem _)
  obtain ⟨vsa, csa, Xa, vsb, csb, Xb, ⟨kv1, vv1, cv1, hn1, hX1⟩, ⟨kv2, vv2, cv2, hn2, hX2⟩, hXa, hXb, e1, e2, e3, e4, hcat⟩ := hAW.cat hBW hdab
  obtain ⟨ka1, kc1, rfl⟩ := hn1.k.form'
  obtain ⟨va1, vc1, rfl⟩ := hn1.v.form'
  obtain ⟨ca1, cc1, rfl⟩ := hn1.c.form'
  obtain ⟨ka2, kc2, rfl⟩ := hn2.k.form'
  obtain ⟨va2, vc2, rfl⟩ := hn2.v.form'
  obtain ⟨ca2, cc2, rfl⟩ := hn2.c.form'
  have lka := keys_length la
  have lkb := keys_length lb
  obtain ⟨i1, i2, i3, i4, i5⟩ := cat_calls hn1 hn2 (by omega) (by omega) (by omega) (by omega) (by omega) (by omega)
  have CP : ∀ (w3 : World) (v1 v2 v3 : Value) (na nb nc : Nat), Still W w3 → Sx W w3 1 na v1 (kcells (keys la ++ keys lb)) → Sx W w3 3 nb v2 (rcells (vsa ++ vsb)) → Sx W w3 1 nc v3 (pcells (csa ++ csb)) → Ap v1 v2 → Ap v1 v3 → Ap v2 v3 →
      na = (keys la ++ keys lb).length → nb = (vsa ++ vsb).length → nc = (csa ++ csb).length → CatPost W a (keys la ++ keys lb) (vsa ++ vsb) (csa ++ csb) Xa (((w3.setCell ⟨a, 0, none⟩ v1).setCell ⟨a, 1, none⟩ v2).setCell ⟨a, 2, none⟩ v3) :=
    fun _ _ _ _ _ _ _ s0 K V C a1 a2 a3 h1 h2 h3 => cat_end hn1 hX1 s0 K V C a1 a2 a3 h1 h2 h3
  have m1 : (keys la).length + (keys lb).length = (keys la ++ keys lb).length := (List.length_append).symm
  have m2 : vsa.length + vsb.length = (vsa ++ vsb).length := (List.length_append).symm
  have m3 : csa.length + csb.length = (csa ++ csb).length := (List.length_append).symm
  rw [← m1, ← m2, ← m3] at CP
  have HCP := Lib.hid CP
  generalize (keys la).length = nk1 at *
  generalize (keys lb).length = nk2 at *
  generalize vsa.length = nv1 at *
  generalize vsb.length = nv2 at *
  generalize csa.length = nc1 at *
  generalize csb.length = nc2 at *
  have C1 := Lib.hid i1
  have C2 := Lib.hid i2
  have C3 := Lib.hid i3
  have SS := Lib.hid (fun w' hs => And.intro hs (i4 w' hs))
  have FZ := Lib.hid i5
  have HCAT := Lib.hid hcat
  have HL := Lib.hid (And.intro hla (And.intro hlb (And.intro hnd (And.intro hXa (And.intro hl4a hl4b)))))
  clear hla hlb hnd hdab hAW hBW hl4a hl4b hn1 hX1 hn2 hX2 hXa hXb e1 e2 e3 e4 hcat lka lkb i1 i2 i3 i4 i5 CP m1 m2 m3
  go_upto_region 3 with fail
  go_cut [] (fun wc => CatPost W a (keys la ++ keys lb) (vsa ++ vsb) (csa ++ csb) Xa wc)
  case first =>
    refine wp_region_D_drew (D := (fun i => [0, 1, 2, 3, 4, 5, 7, 8, 9, 13, 14, 15, 17, 18, 19, 23, 24, 25, 27, 28, 29, 33, 34, 35, 36, 37, 38, 39, 40, 41].contains i)) (S := (fun w' => Still W w' ∧ w'.cell? ⟨a, 0, none⟩ = some (.slice ka1 nk1 kc1) ∧ w'.cell? ⟨a, 1, none⟩ = some (.slice va1 nv1 vc1) ∧ w'.cell? ⟨a, 2, none⟩ = some (.slice ca1 nc1 cc1) ∧ w'.cell? ⟨b, 0, none⟩ = some (.slice ka2 nk2 kc2) ∧ w'.cell? ⟨b, 1, none⟩ = some (.slice va2 nv2 vc2) ∧ w'.cell? ⟨b, 2, none⟩ = some (.slice ca2 nc2 cc2))) (by kernel_rfl) ?_ (fun hHeld => ?_)
    · exact SS.out _ (Still.refl _).drew
    (refine takeD (i := 0) (some 42) (v := ?_) rfl (by rfl) (by rfl) (by kernel_rfl) (by rfl) (fun _ _ _ h => h) ?_ ?_; rotate_left; (intro w; go_simp; try with_reducible rfl); try go_frame)
    (refine takeD (i := 1) (some 43) (v := ?_) rfl (by rfl) (by rfl) (by kernel_rfl) (by rfl) (fun _ _ _ h => h) ?_ ?_; rotate_left; (intro w; go_simp; try with_reducible rfl); try go_frame)
    (refine takeD (i := 2) (some 44) (v := ?_) rfl (by rfl) (by rfl) (by kernel_rfl) (by rfl) (fun _ _ _ h => h) ?_ ?_; rotate_left; (intro w; go_simp; try with_reducible rfl); try go_frame)
    (refine takeD (i := 3) (some 45) (v := ?_) rfl (by rfl) (by rfl) (by kernel_rfl) (by rfl) (fun _ _ _ h => h) ?_ ?_; rotate_left; (intro w; go_simp; try with_reducible rfl); try go_frame)
    (refine takeD (i := 4) (some 46) (v := ?_) rfl (by rfl) (by rfl) (by kernel_rfl) (by rfl) (fun _ _ _ h => h) ?_ ?_; rotate_left; (intro w; go_simp; try with_reducible rfl); try go_frame)
    (refine takeD (i := 5) (some 47) (v := ?_) rfl (by rfl) (by rfl) (by kernel_rfl) (by rfl) (fun _ _ _ h => h) ?_ ?_; rotate_left; (intro w; go_simp; try with_reducible rfl); try go_frame)
    (refine takeD (i := 7) (some 49) (v := ?_) rfl (by rfl) (by rfl) (by kernel_rfl) (by rfl) (fun _ _ _ h => h) ?_ ?_; rotate_left; (intro w; go_simp; try with_reducible rfl); try go_frame)
    (refine takeD (i := 8) (some 50) (v := ?_) rfl (by rfl) (by rfl) (by kernel_rfl) (by rfl) (fun _ _ _ h => h) ?_ ?_; rotate_left; (intro w; go_simp; try with_reducible rfl); try go_frame)
    (refine takeD (i := 9) (some 51) (v := ?_) rfl (by rfl) (by rfl) (by kernel_rfl) (by rfl) (fun _ _ _ h => h) ?_ ?_; rotate_left; (intro w; go_simp; try with_reducible rfl); try go_frame)
    (refine takeD (i := 13) (some 55) (v := ?_) rfl (by rfl) (by rfl) (by kernel_rfl) (by rfl) (fun _ _ _ h => h) ?_ ?_; rotate_left; (intro w; go_simp; try with_reducible rfl); try go_frame)
    (refine takeD (i := 14) (some 56) (v := ?_) rfl (by rfl) (by rfl) (by kernel_rfl) (by rfl) (fun _ _ _ h => h) ?_ ?_; rotate_left; (intro w; go_simp; try with_reducible rfl); try go_frame)
    (refine takeD (i := 15) (some 57) (v := ?_) rfl (by rfl) (by rfl) (by kernel_rfl) (by rfl) (fun _ _ _ h => h) ?_ ?_; rotate_left; (intro w; go_simp; try with_reducible rfl); try go_frame)
    (refine takeD (i := 17) (some 59) (v := ?_) rfl (by rfl) (by rfl) (by kernel_rfl) (by rfl) (fun _ _ _ h => h) ?_ ?_; rotate_left; (intro w; go_simp; try with_reducible rfl); try go_frame)
    (refine takeD (i := 18) (some 60) (v := ?_) rfl (by rfl) (by rfl) (by kernel_rfl) (by rfl) (fun _ _ _ h => h) ?_ ?_; rotate_left; (intro w; go_simp; try with_reducible rfl); try go_frame)
    (refine takeD (i := 19) (some 61) (v := ?_) rfl (by rfl) (by rfl) (by kernel_rfl) (by rfl) (fun _ _ _ h => h) ?_ ?_; rotate_left; (intro w; go_simp; try with_reducible rfl); try go_frame)
    (refine takeD (i := 23) (some 65) (v := ?_) rfl (by rfl) (by rfl) (by kernel_rfl) (by rfl) (fun _ _ _ h => h) ?_ ?_; rotate_left; (intro w; go_simp; try with_reducible rfl); try go_frame)
    (refine takeD (i := 24) (some 66) (v := ?_) rfl (by rfl) (by rfl) (by kernel_rfl) (by rfl) (fun _ _ _ h => h) ?_ ?_; rotate_left; (intro w; go_simp; try with_reducible rfl); try go_frame)
    (refine takeD (i := 25) (some 67) (v := ?_) rfl (by rfl) (by rfl) (by kernel_rfl) (by rfl) (fun _ _ _ h => h) ?_ ?_; rotate_left; (intro w; go_simp; try with_reducible rfl); try go_frame)
    (refine takeD (i := 27) (some 69) (v := ?_) rfl (by rfl) (by rfl) (by kernel_rfl) (by rfl) (fun _ _ _ h => h) ?_ ?_; rotate_left; (intro w; go_simp; try with_reducible rfl); try go_frame)
    (refine takeD (i := 28) (some 70) (v := ?_) rfl (by rfl) (by rfl) (by kernel_rfl) (by rfl) (fun _ _ _ h => h) ?_ ?_; rotate_left; (intro w; go_simp; try with_reducible rfl); try go_frame)
    (refine takeD (i := 29) (some 71) (v := ?_) rfl (by rfl) (by rfl) (by kernel_rfl) (by rfl) (fun _ _ _ h => h) ?_ ?_; rotate_left; (intro w; go_simp; try with_reducible rfl); try go_frame)
    (refine takeS (i := 6) (some 48) (v := ?_) rfl (by rfl) (by rfl) (by kernel_rfl) (by rfl) (fun _ _ _ h => h) (by assumption) ?_ ?_; rotate_left; (intro w hSw; (try dsimp only at hSw); go_simp; try with_reducible rfl); try go_frame)
    (refine takeS (i := 10) (some 52) (v := ?_) rfl (by rfl) (by rfl) (by kernel_rfl) (by rfl) (fun _ _ _ h => h) (by assumption) ?_ ?_; rotate_left; (intro w hSw; (try dsimp only at hSw); go_simp; try with_reducible rfl); try go_frame)
    (refine takeS (i := 16) (some 58) (v := ?_) rfl (by rfl) (by rfl) (by kernel_rfl) (by rfl) (fun _ _ _ h => h) (by assumption) ?_ ?_; rotate_left; (intro w hSw; (try dsimp only at hSw); go_simp; try with_reducible rfl); try go_frame)
    (refine takeS (i := 20) (some 62) (v := ?_) rfl (by rfl) (by rfl) (by kernel_rfl) (by rfl) (fun _ _ _ h => h) (by assumption) ?_ ?_; rotate_left; (intro w hSw; (try dsimp only at hSw); go_simp; try with_reducible rfl); try go_frame)
    (refine takeS (i := 26) (some 68) (v := ?_) rfl (by rfl) (by rfl) (by kernel_rfl) (by rfl) (fun _ _ _ h => h) (by assumption) ?_ ?_; rotate_left; (intro w hSw; (try dsimp only at hSw); go_simp; try with_reducible rfl); try go_frame)
    (refine takeS (i := 30) (some 72) (v := ?_) rfl (by rfl) (by rfl) (by kernel_rfl) (by rfl) (fun _ _ _ h => h) (by assumption) ?_ ?_; rotate_left; (intro w hSw; (try dsimp only at hSw); go_simp; try with_reducible rfl); try go_frame)
    refine wpAnyD_merged (J := CatJ W [.slice ka1 nk1 kc1, .slice ka2 nk2 kc2] [.slice va1 nv1 vc1, .slice va2 nv2 vc2] [.slice ca1 nc1 cc1, .slice ca2 nc2 cc2] (nk1 + nk2) (nv1 + nv2) (nc1 + nc2) (kcells (keys la ++ keys lb)) (rcells (vsa ++ vsb)) (pcells (csa ++ csb))) [(11, 53), (12, 54), (21, 63), (22, 64), (31, 73), (32, 74)] (fun i => if i = 12 then [11] else if i = 22 then [21, 12] else if i = 32 then [31, 22, 12] else []) #[true, true, true, true, true, true, true, true, true, true, true, true, true, true, true, true, true, true, true, true, true, true, true, true, true, true, true, true, true, true, true, true, true, false, false, false, false, false, false, false, false, false] rfl (by kernel_rfl) (by kernel_rfl) ?_ ?_ ?_ ?_
    · intro L xs w' hJ
      exact SS.out _ hJ.s
    · intro xs
      refine CatJ.start (Still.refl _).drew ?_
      intro j hj
      simp only [List.mem_cons, List.not_mem_nil, or_false] at hj
      rcases hj with rfl | rfl | rfl | rfl | rfl | rfl <;> kernel_rfl
    · intro p hp
      simp only [List.mem_cons, List.not_mem_nil, or_false] at hp
      rcases hp with rfl | rfl | rfl | rfl | rfl | rfl
      · refine StepM.of rfl (fun L xs w' hd hl hJ K hK => ?_)
        (unfold fillA; simp only [List.foldl]; try go_frame)
        go_simp
        refine hK.out _ _ (hJ.b1' _) _ (by kernel_rfl)
      · refine StepM.of rfl (fun L xs w' hd hl hJ K hK => ?_)
        (unfold fillA; simp only [List.foldl]; try go_frame)
        obtain ⟨g, hg, hb⟩ := hJ.b1 (hd 11 (by simp))
        rw [hg]
        go_simp
        go_at_call 84
        (with_reducible refine (C1.out _ hJ.s _ hb).mono ?_)
        rintro e y ⟨p1, c1, rfl, T, _⟩
        go_wp2_with fail
        refine hK.out _ _ (hJ.c1' hl T) _ (by simp only [fillA, List.foldl, hg]; kernel_rfl)
      · refine StepM.of rfl (fun L xs w' hd hl hJ K hK => ?_)
        (unfold fillA; simp only [List.foldl]; try go_frame)
        go_simp
        refine hK.out _ _ (hJ.b2' _) _ (by kernel_rfl)
      · refine StepM.of rfl (fun L xs w' hd hl hJ K hK => ?_)
        (unfold fillA; simp only [List.foldl]; try go_frame)
        obtain ⟨g, hg, hb⟩ := hJ.b2 (hd 21 (by simp))
        rw [hg]
        go_simp
        go_at_call 85
        (with_reducible refine (C2.out _ hJ.s _ hb).mono ?_)
        rintro e y ⟨p1, c1, rfl, T, _⟩
        go_wp2_with fail
        refine hK.out _ _ (hJ.c2' hl (hd 12 (by simp)) T) _ (by simp only [fillA, List.foldl, hg]; kernel_rfl)
      · refine StepM.of rfl (fun L xs w' hd hl hJ K hK => ?_)
        (unfold fillA; simp only [List.foldl]; try go_frame)
        go_simp
        refine hK.out _ _ (hJ.b3' _) _ (by kernel_rfl)
      · refine StepM.of rfl (fun L xs w' hd hl hJ K hK => ?_)
        (unfold fillA; simp only [List.foldl]; try go_frame)
        obtain ⟨g, hg, hb⟩ := hJ.b3 (hd 31 (by simp))
        rw [hg]
        go_simp
        go_at_call 86
        (with_reducible refine (C3.out _ hJ.s _ hb).mono ?_)
        rintro e y ⟨p1, c1, rfl, T, _⟩
        go_wp2_with fail
        refine hK.out _ _ (hJ.c3' (hd 12 (by simp)) (hd 22 (by simp)) T) _ (by simp only [fillA, List.foldl, hg]; kernel_rfl)
    · intro xs w' hJ
      (unfold fillA; simp only [List.foldl]; try go_frame)
      obtain ⟨q1, q2, r3, a13, a23⟩ := hJ.c3 (by kernel_rfl)
      obtain ⟨_, r2, a12⟩ := hJ.c2 q2
      have r1 := hJ.c1 q1
      obtain ⟨fz0, fz1, fz2⟩ := FZ.out _ hJ.s
      obtain ⟨_, cz0, cz1, cz2, _⟩ := SS.out _ hJ.s
      have HEND := Lib.hid (And.intro hJ.s (And.intro r1 (And.intro r2 (And.intro r3 (And.intro a12 (And.intro a13 a23))))))
      obtain ⟨p1, d1, e1⟩ := r1.1
      obtain ⟨p2, d2, e2⟩ := r2.1
      obtain ⟨p3, d3, e3⟩ := r3.1
      clear q1 q2 r1 r2 r3 a12 a13 a23 hJ
      rw [e1, e2, e3] at HEND ⊢
      clear e1 e2 e3
      (refine takeD (i := 33) (some 75) (v := ?_) rfl (by rfl) (by rfl) (by kernel_rfl) (by rfl) (fun _ _ _ h => h) ?_ ?_; rotate_left; (intro w; go_simp; try with_reducible rfl); try go_frame)
      (refine takeD (i := 34) (some 76) (v := ?_) rfl (by rfl) (by rfl) (by kernel_rfl) (by rfl) (fun _ _ _ h => h) ?_ ?_; rotate_left; (intro w; go_simp; try with_reducible rfl); try go_frame)
      refine wpAnyD_ready (rs := [35]) (by kernel_rfl) (by simp) ?_
      refine ReadyD.last rfl (by rfl) (fun K hK => ?_) ?_
      go_simp
      refine hK.out _ _ ?_
      (clear hK K; try go_frame)
      (refine takeD (i := 36) (some 77) (v := ?_) rfl (by rfl) (by rfl) (by kernel_rfl) (by rfl) (fun _ _ _ h => h) ?_ ?_; rotate_left; (intro w; go_simp; try with_reducible rfl); try go_frame)
      (refine takeD (i := 37) (some 78) (v := ?_) rfl (by rfl) (by rfl) (by kernel_rfl) (by rfl) (fun _ _ _ h => h) ?_ ?_; rotate_left; (intro w; go_simp; try with_reducible rfl); try go_frame)
      refine wpAnyD_ready (rs := [38]) (by kernel_rfl) (by simp) ?_
      refine ReadyD.last rfl (by rfl) (fun K hK => ?_) ?_
      go_simp
      refine hK.out _ _ ?_
      (clear hK K; try go_frame)
      (refine takeD (i := 39) (some 79) (v := ?_) rfl (by rfl) (by rfl) (by kernel_rfl) (by rfl) (fun _ _ _ h => h) ?_ ?_; rotate_left; (intro w; go_simp; try with_reducible rfl); try go_frame)
      (refine takeD (i := 40) (some 80) (v := ?_) rfl (by rfl) (by rfl) (by kernel_rfl) (by rfl) (fun _ _ _ h => h) ?_ ?_; rotate_left; (intro w; go_simp; try with_reducible rfl); try go_frame)
      refine wpAnyD_ready (rs := [41]) (by kernel_rfl) (by simp) ?_
      refine ReadyD.last rfl (by rfl) (fun K hK => ?_) ?_
      go_simp
      refine hK.out _ _ ?_
      (clear hK K; try go_frame)
      refine wpAnyD_done (by kernel_rfl) ?_ _
      rotate_left
      exact ReadyD.nil
      exact ReadyD.nil
      exact ReadyD.nil
      go_wp2_with fail
      go_meet
      case rel =>
        have h := HEND.out
        exact HCP.out _ _ _ _ _ _ _ h.1 h.2.1 h.2.2.1 h.2.2.2.1 h.2.2.2.2.1 h.2.2.2.2.2.1 h.2.2.2.2.2.2 rfl rfl rfl
  case rest =>
    obtain ⟨Ga', hr', ho', hs'⟩ := hcut
    obtain ⟨F', hat, hs1⟩ := HCAT.out wc Ga' hr' ho' hs'
    have hof : Only (fun x => x ∈ fa) W wc := ho'.mono HL.out.2.2.2.1
    rw [← HL.out.1, ← HL.out.2.1] at hat
    have hinc := join_cat (H.out.1.still HS2.out) (by have := H.out.2.2.2.2.2; omega) HP.out.1 HP.out.2.1 (HP.out.2.2.2.1.imp fun _ _ _ _ h => h.only HS2.out fun _ _ e => e) (HP.out.2.2.2.2.2.2.1.imp fun _ _ _ _ h => h.only HS2.out fun _ _ e => e) hat hof hs1
    obtain ⟨kv, vv, cv, hnx, hFx, hdx, hlx⟩ := hinc.raw
    obtain ⟨ca, cc, rfl⟩ := hnx.c.form'
    obtain ⟨ka, kc, rfl⟩ := hnx.k.form'
    have hkl : ks.length = n := by have := H.out.2.1; have := H.out.2.2.2.2.2.1; omega
    have hcl : rs.length = n := by have := H.out.2.2.2.2.2; omega
    have hjn := H.out.2.2.2.2.2.2.2.1
    have hn90 : n ≤ 90 := by have := H.out.2.2.2.1; have := H.out.2.2.2.2.2.1; omega
    rw [hkl] at hnx hFx
    rw [hcl] at hnx hFx
    obtain ⟨i1, i2, i3⟩ := del2c' (j := j) hnx ⟨hFx, hdx, hlx⟩ hkl hcl (by omega) hjn
    have l1 : n - 1 = (ks.take (j + 1) ++ ks.drop (j + 1 + 1)).length := by simp; omega
    have l2 : n - 1 = (rs.take (j + 1) ++ rs.drop (j + 1 + 1)).length := by simp; omega
    have FD := Lib.hid (fun v e W' (hp : RawPost wc r (ks.take (j + 1) ++ ks.drop (j + 1 + 1)) [] (rs.take (j + 1) ++ rs.drop (j + 1 + 1)) F0 v e W') => show JoinMid d w r cs j a n (F0 ++ Fs.flatten) W' from by
      rw [HP.out.1] at hp hinc
      exact join_del hinc HP.out.2.2.1 hkl hjn hp HS2.out (by rw [HP.out.2.1]) hof hs1)
    have HNX := Lib.hid hnx
    have HFX := Lib.hid (And.intro hFx (And.intro hdx hlx))
    have HX := Lib.hid (And.intro l1 l2)
    have I1 := Lib.hid i1
    have I2 := Lib.hid i2
    have ZZ := Lib.hid i3
    have O0 := Lib.hid (show Only (fun _ => False) wc wc.drew from (Only.refl _ wc).drew)
    have u4 : IntKind.i64.wrap ((j : Int) + 2) = (j : Int) + 2 := IntWalk.i64_in _ (by omega)
    clear hr' ho' hs' hat hs1 hof hinc hnx hFx hdx hlx hkl hcl hjn hn90 i1 i2 i3 l1 l2 HCP C1 C2 C3 SS FZ HCAT
    go_upto_region 4 with fail
    go_cut [] (fun wc => JoinMid d w r cs j a n (F0 ++ Fs.flatten) wc)
    case first =>
      refine wp_region_D_drew (D := (fun i => [0, 1, 2, 3, 4, 6, 7, 8, 9, 11, 12, 13, 15, 16, 17, 18, 20, 21, 22, 23, 24, 25].contains i)) (S := (fun w' => w'.cell? ⟨r, 0, none⟩ = some (.slice ka n kc) ∧ w'.cell? ⟨r, 2, none⟩ = some (.slice ca n cc))) (by kernel_rfl) ?_ (fun hHeld => ?_)
      · ((try dsimp only) <;> ((first | (with_reducible exact And.intro (ZZ.out _ (O0.out.mono fun _ e => e.elim)).1 (ZZ.out _ (O0.out.mono fun _ e => e.elim)).2.1) | (with_reducible exact And.intro (ZZ.out _ T2.only).1 (ZZ.out _ T2.only).2.1) | (with_reducible exact And.intro (ZZ.out _ (T1.only.mono fun _ e => .inl e)).1 (ZZ.out _ (T1.only.mono fun _ e => .inl e)).2.1))))
      (refine takeD (i := 0) (some 81) (v := ?_) rfl (by rfl) (by rfl) (by kernel_rfl) (by rfl) (fun _ _ _ h => h) ?_ ?_; rotate_left; (intro w; go_simp; try with_reducible rfl); try go_frame)
      (refine takeD (i := 1) (some 82) (v := ?_) rfl (by rfl) (by rfl) (by kernel_rfl) (by rfl) (fun _ _ _ h => h) ?_ ?_; rotate_left; (intro w; go_simp; try with_reducible rfl); try go_frame)
      (refine takeD (i := 2) (some 83) (v := ?_) rfl (by rfl) (by rfl) (by kernel_rfl) (by rfl) (fun _ _ _ h => h) ?_ ?_; rotate_left; (intro w; go_simp; try with_reducible rfl); try go_frame)
      (refine takeD (i := 3) (some 84) (v := ?_) rfl (by rfl) (by rfl) (by kernel_rfl) (by rfl) (fun _ _ _ h => h) ?_ ?_; rotate_left; (intro w; go_simp; try with_reducible rfl); try go_frame)
      (refine takeD (i := 4) (some 85) (v := ?_) rfl (by rfl) (by rfl) (by kernel_rfl) (by rfl) (fun _ _ _ h => h) ?_ ?_; rotate_left; (intro w; go_simp; try with_reducible rfl); try go_frame)
      (refine takeD (i := 6) (some 87) (v := ?_) rfl (by rfl) (by rfl) (by kernel_rfl) (by rfl) (fun _ _ _ h => h) ?_ ?_; rotate_left; (intro w; go_simp; try with_reducible rfl); try go_frame)
      (refine takeD (i := 7) (some 88) (v := ?_) rfl (by rfl) (by rfl) (by kernel_rfl) (by rfl) (fun _ _ _ h => h) ?_ ?_; rotate_left; (intro w; go_simp; try with_reducible rfl); try go_frame)
      (refine takeD (i := 8) (some 89) (v := ?_) rfl (by rfl) (by rfl) (by kernel_rfl) (by rfl) (fun _ _ _ h => h) ?_ ?_; rotate_left; (intro w; go_simp; try with_reducible rfl); try go_frame)
      (refine takeD (i := 9) (some 90) (v := ?_) rfl (by rfl) (by rfl) (by kernel_rfl) (by rfl) (fun _ _ _ h => h) ?_ ?_; rotate_left; (intro w; go_simp; try with_reducible rfl); try go_frame)
      (refine takeD (i := 11) (some 92) (v := ?_) rfl (by rfl) (by rfl) (by kernel_rfl) (by rfl) (fun _ _ _ h => h) ?_ ?_; rotate_left; (intro w; go_simp; try with_reducible rfl); try go_frame)
      (refine takeD (i := 12) (some 93) (v := ?_) rfl (by rfl) (by rfl) (by kernel_rfl) (by rfl) (fun _ _ _ h => h) ?_ ?_; rotate_left; (intro w; go_simp; try with_reducible rfl); try go_frame)
      (refine takeD (i := 13) (some 94) (v := ?_) rfl (by rfl) (by rfl) (by kernel_rfl) (by rfl) (fun _ _ _ h => h) ?_ ?_; rotate_left; (intro w; go_simp; try with_reducible rfl); try go_frame)
      (refine takeD (i := 15) (some 96) (v := ?_) rfl (by rfl) (by rfl) (by kernel_rfl) (by rfl) (fun _ _ _ h => h) ?_ ?_; rotate_left; (intro w; go_simp; try with_reducible rfl); try go_frame)
      (refine takeD (i := 16) (some 97) (v := ?_) rfl (by rfl) (by rfl) (by kernel_rfl) (by rfl) (fun _ _ _ h => h) ?_ ?_; rotate_left; (intro w; go_simp; try with_reducible rfl); try go_frame)
      (refine takeD (i := 17) (some 98) (v := ?_) rfl (by rfl) (by rfl) (by kernel_rfl) (by rfl) (fun _ _ _ h => h) ?_ ?_; rotate_left; (intro w; go_simp; try with_reducible rfl); try go_frame)
      (refine takeD (i := 18) (some 99) (v := ?_) rfl (by rfl) (by rfl) (by kernel_rfl) (by rfl) (fun _ _ _ h => h) ?_ ?_; rotate_left; (intro w; go_simp; try with_reducible rfl); try go_frame)
      (refine takeS (i := 5) (some 86) (v := ?_) rfl (by rfl) (by rfl) (by kernel_rfl) (by rfl) (fun _ _ _ h => h) (by assumption) ?_ ?_; rotate_left; (intro w hSw; (try dsimp only at hSw); go_simp; try with_reducible rfl); try go_frame)
      (refine takeS (i := 14) (some 95) (v := ?_) rfl (by rfl) (by rfl) (by kernel_rfl) (by rfl) (fun _ _ _ h => h) (by assumption) ?_ ?_; rotate_left; (intro w hSw; (try dsimp only at hSw); go_simp; try with_reducible rfl); try go_frame)
      refine wpAnyD_ready (rs := [10]) (by kernel_rfl) (by simp) ?_
      refine ReadyD.cons rfl (fun K hK => ?_) ?_
      go_simp
      (first | (go_at_call 60; (with_reducible refine (I1.out _ O0.out).mono ?_); rintro e w2 ⟨a1, c1, rfl, T1⟩) | (go_at_call 87; (with_reducible refine (I2.out _ T1.only).mono ?_); rintro e w3 ⟨a2, c2, rfl, T2⟩; obtain ⟨g0, g1, g2, g3⟩ := ZZ.out _ T2.only))
      go_wp2_with fail
      (refine hK.out _ _ ?_ (fun hNew => ?_); (focus ((try dsimp only) <;> ((first | (with_reducible exact And.intro (ZZ.out _ (O0.out.mono fun _ e => e.elim)).1 (ZZ.out _ (O0.out.mono fun _ e => e.elim)).2.1) | (with_reducible exact And.intro (ZZ.out _ T2.only).1 (ZZ.out _ T2.only).2.1) | (with_reducible exact And.intro (ZZ.out _ (T1.only.mono fun _ e => .inl e)).1 (ZZ.out _ (T1.only.mono fun _ e => .inl e)).2.1))))); clear hHeld; have hHeld := hNew; clear hNew)
      (clear hK K; try go_frame)
      refine wpAnyD_ready (rs := [19]) (by kernel_rfl) (by simp) ?_
      refine ReadyD.cons rfl (fun K hK => ?_) ?_
      go_simp
      (first | (go_at_call 60; (with_reducible refine (I1.out _ O0.out).mono ?_); rintro e w2 ⟨a1, c1, rfl, T1⟩) | (go_at_call 87; (with_reducible refine (I2.out _ T1.only).mono ?_); rintro e w3 ⟨a2, c2, rfl, T2⟩; obtain ⟨g0, g1, g2, g3⟩ := ZZ.out _ T2.only))
      go_wp2_with fail
      (refine hK.out _ _ ?_ (fun hNew => ?_); (focus ((try dsimp only) <;> ((first | (with_reducible exact And.intro (ZZ.out _ (O0.out.mono fun _ e => e.elim)).1 (ZZ.out _ (O0.out.mono fun _ e => e.elim)).2.1) | (with_reducible exact And.intro (ZZ.out _ T2.only).1 (ZZ.out _ T2.only).2.1) | (with_reducible exact And.intro (ZZ.out _ (T1.only.mono fun _ e => .inl e)).1 (ZZ.out _ (T1.only.mono fun _ e => .inl e)).2.1))))); clear hHeld; have hHeld := hNew; clear hNew)
      (clear hK K; try go_frame)
      (refine takeD (i := 20) (some 101) (v := ?_) rfl (by rfl) (by rfl) (by kernel_rfl) (by rfl) (fun _ _ _ h => h) ?_ ?_; rotate_left; (intro w; go_simp; try with_reducible rfl); try go_frame)
      (refine takeD (i := 21) (some 102) (v := ?_) rfl (by rfl) (by rfl) (by kernel_rfl) (by rfl) (fun _ _ _ h => h) ?_ ?_; rotate_left; (intro w; go_simp; try with_reducible rfl); try go_frame)
      refine wpAnyD_ready (rs := [22]) (by kernel_rfl) (by simp) ?_
      refine ReadyD.last rfl (by rfl) (fun K hK => ?_) ?_
      go_simp
      refine hK.out _ _ ?_
      (clear hK K; try go_frame)
      (refine takeD (i := 23) (some 103) (v := ?_) rfl (by rfl) (by rfl) (by kernel_rfl) (by rfl) (fun _ _ _ h => h) ?_ ?_; rotate_left; (intro w; go_simp; try with_reducible rfl); try go_frame)
      (refine takeD (i := 24) (some 104) (v := ?_) rfl (by rfl) (by rfl) (by kernel_rfl) (by rfl) (fun _ _ _ h => h) ?_ ?_; rotate_left; (intro w; go_simp; try with_reducible rfl); try go_frame)
      refine wpAnyD_ready (rs := [25]) (by kernel_rfl) (by simp) ?_
      refine ReadyD.last rfl (by rfl) (fun K hK => ?_) ?_
      go_simp
      refine hK.out _ _ ?_
      (clear hK K; try go_frame)
      refine wpAnyD_done (by kernel_rfl) ?_ _
      rotate_left
      exact ReadyD.nil
      exact ReadyD.nil
      exact ReadyD.nil
      exact ReadyD.nil
      all_goals
        have F := Lib.hid (FD.out _ _ _ (two_turnedC HNX.out HFX.out (Still.refl _) T1 T2 (Still.refl _) HX.out.1 HX.out.2 (.bool true)))
        go_wp2_with fail
        go_meet
        case rel => exact F.out
    case rest =>
      clear FD HNX HFX HX I1 I2 ZZ O0
      have HM := Lib.hid hcut
      obtain ⟨ks', rs', F0', Fs', hk', hra', hin', ho', hf'⟩ := hcut
      obtain ⟨cm, hcm⟩ : ∃ cm, at' cs j ++ at' cs (j + 1) = cm := ⟨_, rfl⟩
      rw [hcm] at hin'
      obtain ⟨ra2, q2, rb2, Fa2, f2, Fb2, rfl, rfl, e3, sa2, hq2, sb2, hrq2⟩ := hin'.focus j rfl (by rw [List.length_take]; have := H.out.2.2.2.2.2; omega)
      have hqa : q2 = a := by rw [hrq2] at hra'; injection hra'
      subst hqa
      have hcl : cm.length ≤ 80 := by
        have h1 := HL.out.1
        have h2 := HL.out.2.1
        have h3 := HL.out.2.2.2.2
        rw [← hcm, h1, h2, List.length_append]
        omega
      have HC' := Lib.hid hq2
      have SP1 := Lib.hid (fun w' (hs : Still wc w') (h4 : cm.length ≤ 4) => split_at_small d w' q2 cm f2 (HC'.out.only hs fun _ _ e => e) h4)
      have SP2 := Lib.hid (fun w' (hs : Still wc w') (h4 : ¬ cm.length ≤ 4) => split_at d w' q2 cm f2 (HC'.out.only hs fun _ _ e => e) (by omega) (by omega))
      unfold ptr at SP1 SP2
      have HI2 := Lib.hid (And.intro hin' (And.intro sa2 (And.intro sb2 (And.intro ho' (And.intro hf' (And.intro hk' (And.intro e3 hcm)))))))
      clear hk' hra' hin' ho' hf' hcm e3 sa2 hq2 sb2 hrq2 hcl
      go_wp2_with fail
      by_cases h4 : cm.length ≤ 4
      · (with_reducible refine (SP1.out _ (Still.refl _) h4).mono ?_)
        rintro e w3 ⟨rfl, hs3⟩
        have FIN := Lib.hid (join_small HM.out HC2.out H.out.2.2.2.2.2.2.1 H.out.2.2.2.2.2.1 H.out.2.2.2.2.2.2.2.1 (by rw [HI2.out.2.2.2.2.2.2.2]; exact h4) rfl hs3)
        clear h4 hs3
        go_wp2_with fail
        refine bodyPost_ret (results_none rfl _ _ _) rfl ?_
        exact FIN.out
      · (with_reducible refine (SP2.out _ (Still.refl _) h4).mono ?_)
        rintro e w3 ⟨y, F1, F2, rfl, hy1, hy2, ho3, hn3, hf3⟩
        have hin3 := join_split HI2.out.1 HI2.out.2.1 HI2.out.2.2.1 hy1 hy2 ho3 hn3 hf3
        obtain ⟨gy, oy, ny, py, l3, ln3, l4, lr4, lg4⟩ := hy2.least (by rw [List.length_drop]; omega)
        obtain ⟨kv, vv, cv, hnx, hFx, hdx, hlx⟩ := hin3.raw
        obtain ⟨ca, cc, rfl⟩ := hnx.c.form'
        obtain ⟨ka, kc, rfl⟩ := hnx.k.form'
        obtain ⟨m, hm⟩ : ∃ m, n - 1 = m := ⟨_, rfl⟩
        have hkl : ks'.length = m := by have := HI2.out.2.2.2.2.2.1; omega
        have hcl : (ra2 ++ ([q2] ++ rb2)).length = m := by have := HI2.out.1.kids.lenR; rw [this]; have := H.out.2.2.2.2.2; simp; omega
        have hjn := H.out.2.2.2.2.2.2.2.1
        have hn90 : n ≤ 90 := by have := H.out.2.2.2.1; have := H.out.2.2.2.2.2.1; omega
        rw [hkl] at hnx hFx
        rw [hcl] at hnx hFx
        have hap : ∀ b ∈ F2, b ∉ F0' := fun b hb hb0 => (List.nodup_append.1 hin3.nd).2.2 b hb0 b (List.mem_flatten.2 ⟨F2, by simp, hb⟩) rfl
        generalize hyk : fk (cm.drop (cm.length / 2)) = yk at *
        obtain ⟨i1, i2, i3, i4⟩ := ins2 (j := j + 1) hnx ⟨hFx, hdx, hlx⟩ hkl hcl (by omega) (by omega) l3 l4 (hap _ lr4) (hap _ lg4)
        have ec : ((j + 1 : Nat) : Int) = (j : Int) + 1 := by omega
        rw [ec] at i1 i2
        clear ec
        have m1 : m + 1 = (ks'.take (j + 1) ++ yk :: ks'.drop (j + 1)).length := by simp; omega
        have m2 : m + 1 = ((ra2 ++ ([q2] ++ rb2)).take (j + 1) ++ y :: (ra2 ++ ([q2] ++ rb2)).drop (j + 1)).length := by
          rw [List.length_append, List.length_cons, List.length_take, List.length_drop, hcl]; omega
        have FB := Lib.hid (fun W' (hp : RawPost w3 r (ks'.take (j + 1) ++ yk :: ks'.drop (j + 1)) [] ((ra2 ++ ([q2] ++ rb2)).take (j + 1) ++ y :: (ra2 ++ ([q2] ++ rb2)).drop (j + 1)) F0' (.tuple #[]) (.returned (.tuple #[])) W') => show JoinPost d w r cs i (F0 ++ Fs.flatten) (.returned (.tuple #[])) W' from
          join_great hin3 HI2.out.2.2.2.2.2.2.1 HI2.out.2.2.2.2.2.1 hp rfl HC2.out H.out.2.2.2.2.2.2.1 H.out.2.2.2.2.2.1 hjn (by unfold halves; rw [HI2.out.2.2.2.2.2.2.2, if_neg h4]) HI2.out.2.2.2.1 HI2.out.2.2.2.2.1 ho3 hf3)
        have HNX := Lib.hid hnx
        have HFX := Lib.hid (And.intro hFx (And.intro hdx hlx))
        have HX := Lib.hid (And.intro m1 m2)
        have I1 := Lib.hid i1
        have I2 := Lib.hid i2
        have ZZ := Lib.hid i3
        have SS := Lib.hid i4
        have hH := Lib.hid hm
        clear hin3 hnx hFx hdx hlx hkl hcl hjn hn90 hap i1 i2 i3 i4 m1 m2 h4 hy1 hy2 ho3 hn3 hf3 hm hyk l3 l4 lr4 lg4 SP1 SP2
        unfold ptr
        go_wp2_with fail
        refine wp_region_D_drew (D := (fun i => [0, 1, 2, 3, 4, 6, 7, 8, 9, 10, 16, 17, 18, 20, 21, 22, 25, 26, 27, 28, 29, 30].contains i)) (S := (fun w' => w'.cell? ⟨r, 0, none⟩ = some (.slice ka m kc) ∧ w'.cell? ⟨r, 2, none⟩ = some (.slice ca m cc) ∧ w'.cell? ⟨y, 0, none⟩ = some (.slice (some ⟨gy, oy, none⟩) ny py) ∧ w'.cell? ⟨gy, oy, none⟩ = some (.string yk))) (by kernel_rfl) ?_ (fun hHeld => ?_)
        · exact SS.out _ (Only.refl _ _).drew
        (refine takeD (i := 0) (some 109) (v := ?_) rfl (by rfl) (by rfl) (by kernel_rfl) (by rfl) (fun _ _ _ h => h) ?_ ?_; rotate_left; (intro w; go_simp; try with_reducible rfl); try go_frame)
        (refine takeD (i := 1) (some 110) (v := ?_) rfl (by rfl) (by rfl) (by kernel_rfl) (by rfl) (fun _ _ _ h => h) ?_ ?_; rotate_left; (intro w; go_simp; try with_reducible rfl); try go_frame)
        (refine takeD (i := 2) (some 111) (v := ?_) rfl (by rfl) (by rfl) (by kernel_rfl) (by rfl) (fun _ _ _ h => h) ?_ ?_; rotate_left; (intro w; go_simp; try with_reducible rfl); try go_frame)
        (refine takeD (i := 3) (some 112) (v := ?_) rfl (by rfl) (by rfl) (by kernel_rfl) (by rfl) (fun _ _ _ h => h) ?_ ?_; rotate_left; (intro w; go_simp; try with_reducible rfl); try go_frame)
        (refine takeD (i := 4) (some 113) (v := ?_) rfl (by rfl) (by rfl) (by kernel_rfl) (by rfl) (fun _ _ _ h => h) ?_ ?_; rotate_left; (intro w; go_simp; try with_reducible rfl); try go_frame)
        (refine takeD (i := 6) (some 115) (v := ?_) rfl (by rfl) (by rfl) (by kernel_rfl) (by rfl) (fun _ _ _ h => h) ?_ ?_; rotate_left; (intro w; go_simp; try with_reducible rfl); try go_frame)
        (refine takeD (i := 7) (some 116) (v := ?_) rfl (by rfl) (by rfl) (by kernel_rfl) (by rfl) (fun _ _ _ h => h) ?_ ?_; rotate_left; (intro w; go_simp; try with_reducible rfl); try go_frame)
        (refine takeD (i := 8) (some 117) (v := ?_) rfl (by rfl) (by rfl) (by kernel_rfl) (by rfl) (fun _ _ _ h => h) ?_ ?_; rotate_left; (intro w; go_simp; try with_reducible rfl); try go_frame)
        (refine takeD (i := 9) (some 118) (v := ?_) rfl (by rfl) (by rfl) (by kernel_rfl) (by rfl) (fun _ _ _ h => h) ?_ ?_; rotate_left; (intro w; go_simp; try with_reducible rfl); try go_frame)
        (refine takeD (i := 10) (some 119) (v := ?_) rfl (by rfl) (by rfl) (by kernel_rfl) (by rfl) (fun _ _ _ h => h) ?_ ?_; rotate_left; (intro w; go_simp; try with_reducible rfl); try go_frame)
        (refine takeD (i := 16) (some 125) (v := ?_) rfl (by rfl) (by rfl) (by kernel_rfl) (by rfl) (fun _ _ _ h => h) ?_ ?_; rotate_left; (intro w; go_simp; try with_reducible rfl); try go_frame)
        (refine takeD (i := 17) (some 126) (v := ?_) rfl (by rfl) (by rfl) (by kernel_rfl) (by rfl) (fun _ _ _ h => h) ?_ ?_; rotate_left; (intro w; go_simp; try with_reducible rfl); try go_frame)
        (refine takeD (i := 18) (some 127) (v := ?_) rfl (by rfl) (by rfl) (by kernel_rfl) (by rfl) (fun _ _ _ h => h) ?_ ?_; rotate_left; (intro w; go_simp; try with_reducible rfl); try go_frame)
        (refine takeD (i := 20) (some 129) (v := ?_) rfl (by rfl) (by rfl) (by kernel_rfl) (by rfl) (fun _ _ _ h => h) ?_ ?_; rotate_left; (intro w; go_simp; try with_reducible rfl); try go_frame)
        (refine takeD (i := 21) (some 130) (v := ?_) rfl (by rfl) (by rfl) (by kernel_rfl) (by rfl) (fun _ _ _ h => h) ?_ ?_; rotate_left; (intro w; go_simp; try with_reducible rfl); try go_frame)
        (refine takeD (i := 22) (some 131) (v := ?_) rfl (by rfl) (by rfl) (by kernel_rfl) (by rfl) (fun _ _ _ h => h) ?_ ?_; rotate_left; (intro w; go_simp; try with_reducible rfl); try go_frame)
        (refine takeS (i := 5) (some 114) (v := ?_) rfl (by rfl) (by rfl) (by kernel_rfl) (by rfl) (fun _ _ _ h => h) (by assumption) ?_ ?_; rotate_left; (intro w hSw; (try dsimp only at hSw); go_simp; try with_reducible rfl); try go_frame)
        (refine takeS (i := 11) (some 120) (v := ?_) rfl (by rfl) (by rfl) (by kernel_rfl) (by rfl) (fun _ _ _ h => h) (by assumption) ?_ ?_; rotate_left; (intro w hSw; (try dsimp only at hSw); go_simp; try with_reducible rfl); try go_frame)
        (refine takeS (i := 12) (some 121) (v := ?_) rfl (by rfl) (by rfl) (by kernel_rfl) (by rfl) (fun _ _ _ h => h) (by assumption) ?_ ?_; rotate_left; (intro w hSw; (try dsimp only at hSw); go_simp; try with_reducible rfl); try go_frame)
        (refine takeS (i := 13) (some 122) (v := ?_) rfl (by rfl) (by rfl) (by kernel_rfl) (by rfl) (fun _ _ _ h => h) (by assumption) ?_ ?_; rotate_left; (intro w hSw; (try dsimp only at hSw); go_simp; try with_reducible rfl); try go_frame)
        (refine takeS (i := 19) (some 128) (v := ?_) rfl (by rfl) (by rfl) (by kernel_rfl) (by rfl) (fun _ _ _ h => h) (by assumption) ?_ ?_; rotate_left; (intro w hSw; (try dsimp only at hSw); go_simp; try with_reducible rfl); try go_frame)
        refine wpAnyD_merged (J := InsJ w3 (.slice ka m kc) (.slice ca m cc) m (kcells (ks'.take (j + 1) ++ yk :: ks'.drop (j + 1))) (pcells ((ra2 ++ ([q2] ++ rb2)).take (j + 1) ++ y :: (ra2 ++ ([q2] ++ rb2)).drop (j + 1))) (.string yk) (.pointer (some ⟨y, 0, none⟩))) [(14, 123), (15, 124), (23, 132), (24, 133)] (fun i => if i = 15 then [14] else if i = 24 then [23, 15, 14] else []) #[true, true, true, true, true, true, true, true, true, true, true, true, true, true, true, true, true, true, true, true, true, true, true, true, true, false, false, false, false, false, false] rfl (by kernel_rfl) (by kernel_rfl) ?_ ?_ ?_ ?_
        · intro L xs w' hJ
          exact SS.out _ hJ.all
        · intro xs
          refine InsJ.start (Still.refl _).drew ?_
          intro j hj
          simp only [List.mem_cons, List.not_mem_nil, or_false] at hj
          rcases hj with rfl | rfl | rfl | rfl <;> kernel_rfl
        · intro p hp
          simp only [List.mem_cons, List.not_mem_nil, or_false] at hp
          rcases hp with rfl | rfl | rfl | rfl
          · refine StepM.of rfl (fun L xs w' hd hl hJ K hK => ?_)
            (unfold fillA; simp only [List.foldl]; try go_frame)
            go_simp
            refine hK.out _ _ (hJ.b1' hl _) _ (by kernel_rfl)
          · refine StepM.of rfl (fun L xs w' hd hl hJ K hK => ?_)
            (unfold fillA; simp only [List.foldl]; try go_frame)
            obtain ⟨g, hg, hb, hgw⟩ := hJ.b1 (hd 14 (by simp))
            rw [hg]
            have ho : Only (fun _ => False) w3 w' := (hJ.o0 hl).1
            go_simp
            go_at_call 67
            (with_reducible refine (I1.out _ ho _ hb hgw).mono ?_)
            rintro e y ⟨p1, c1, rfl, T⟩
            go_wp2_with fail
            refine hK.out _ _ (hJ.c1' hl T) _ (by simp only [fillA, List.foldl, hg]; kernel_rfl)
          · refine StepM.of rfl (fun L xs w' hd hl hJ K hK => ?_)
            (unfold fillA; simp only [List.foldl]; try go_frame)
            go_simp
            refine hK.out _ _ (hJ.b2' hl _) _ (by kernel_rfl)
          · refine StepM.of rfl (fun L xs w' hd hl hJ K hK => ?_)
            (unfold fillA; simp only [List.foldl]; try go_frame)
            obtain ⟨g, hg, hb, hgw⟩ := hJ.b2 (hd 23 (by simp))
            rw [hg]
            have ho : Only (fun b => False ∨ (Value.slice ka m kc).ownBlock = some b) w3 w' := by
              obtain ⟨w0, w1, p, c, _, T1, h3⟩ := hJ.o1 (hd 15 (by simp)) hl
              exact T1.only.trans h3.only
            go_simp
            go_at_call 69
            (with_reducible refine (I2.out _ ho _ hb hgw).mono ?_)
            rintro e y ⟨p1, c1, rfl, T⟩
            go_wp2_with fail
            refine hK.out _ _ (hJ.c2' hl (hd 15 (by simp)) (hd 14 (by simp)) (hd 23 (by simp)) T) _ (by simp only [fillA, List.foldl, hg]; kernel_rfl)
        · intro xs w' hJ
          (unfold fillA; simp only [List.foldl]; try go_frame)
          obtain ⟨_, _, w0, w1, w2, p, c, q, e, e1, e2, T1, hs, T2⟩ := hJ.o2 (by kernel_rfl)
          obtain ⟨g0, g1, g2, g3⟩ := ZZ.out _ hJ.all
          have F := Lib.hid (FB.out _ (two_turnedC HNX.out HFX.out (Still.refl _) T1 T2 hs HX.out.1 HX.out.2 (.tuple #[])))
          clear hJ T1 T2 hs
          rw [e1, e2]
          clear e1 e2
          (refine takeD (i := 25) (some 134) (v := ?_) rfl (by rfl) (by rfl) (by kernel_rfl) (by rfl) (fun _ _ _ h => h) ?_ ?_; rotate_left; (intro w; go_simp; try with_reducible rfl); try go_frame)
          (refine takeD (i := 26) (some 135) (v := ?_) rfl (by rfl) (by rfl) (by kernel_rfl) (by rfl) (fun _ _ _ h => h) ?_ ?_; rotate_left; (intro w; go_simp; try with_reducible rfl); try go_frame)
          refine wpAnyD_ready (rs := [27]) (by kernel_rfl) (by simp) ?_
          refine ReadyD.last rfl (by rfl) (fun K hK => ?_) ?_
          go_simp
          refine hK.out _ _ ?_
          (clear hK K; try go_frame)
          (refine takeD (i := 28) (some 136) (v := ?_) rfl (by rfl) (by rfl) (by kernel_rfl) (by rfl) (fun _ _ _ h => h) ?_ ?_; rotate_left; (intro w; go_simp; try with_reducible rfl); try go_frame)
          (refine takeD (i := 29) (some 137) (v := ?_) rfl (by rfl) (by rfl) (by kernel_rfl) (by rfl) (fun _ _ _ h => h) ?_ ?_; rotate_left; (intro w; go_simp; try with_reducible rfl); try go_frame)
          refine wpAnyD_ready (rs := [30]) (by kernel_rfl) (by simp) ?_
          refine ReadyD.last rfl (by rfl) (fun K hK => ?_) ?_
          go_simp
          refine hK.out _ _ ?_
          (clear hK K; try go_frame)
          refine wpAnyD_done (by kernel_rfl) ?_ _
          rotate_left
          exact ReadyD.nil
          exact ReadyD.nil
          go_wp2_with fail
          refine bodyPost_ret (results_none rfl _ _ _) rfl ?_
          exact F.out
end Go.Proofs.YtedfijmaeoednaaGreatDoor.Ke

namespace Go.Proofs.YtedfijmaeoednaaGreatDoor.Ke
open Go.RowKit Go.Wh

def delL (l : Nd 0) (k : Key) : Nd 0 := if hasK (keys l) k then l.take (pos (keys l) k) ++ l.drop (pos (keys l) k + 1) else l
/-- Children, known by their least keys. -/
def reKey {d : Nat} (cs : List (Nd d)) : Nd (d + 1) := cs.map fun c => kn (fk c) c
/-- The children behind a cut in one of them. -/
def cutC {d : Nat} (f : Nd d → Nd d) (l : Nd (d + 1)) (i : Nat) : List (Nd d) := subs (l.take i) ++ ([f (sub l i)] ++ subs (l.drop (i + 1)))
def cutM : (d : Nat) → Nd d → Key → Nd d
  | 0, l, k => delL l k
  | d + 1, l, k => reKey (joinC (cutC (fun c => cutM d c k) l (childI (keys l) k)) (childI (keys l) k))
/-- Was it there? -/
def cutB : (d : Nat) → Nd d → Key → Bool
  | 0, l, k => hasK (keys l) k
  | d + 1, l, k => cutB d (sub l (childI (keys l) k)) k

/-- What the walk asks. -/
def CutAble : (d : Nat) → Nd d → Prop
  | 0, l => KS (keys l) ∧ l.length ≤ 90
  | d + 1, l => 0 < l.length ∧ l.length ≤ 90 ∧ ∀ x ∈ l, 2 ≤ (nd x).length ∧ (nd x).length ≤ 30 ∧ CutAble d (nd x)

theorem keys_reKey {d : Nat} (cs : List (Nd d)) : keys (reKey cs) = cs.map fk := by
  unfold keys reKey
  rw [List.map_map]
  rfl
theorem subs_reKey {d : Nat} (cs : List (Nd d)) : subs (reKey cs) = cs := by
  induction cs with
  | nil => rfl
  | cons c cs ih =>
    show c :: subs (reKey cs) = c :: cs
    rw [ih]
theorem reKey_length {d : Nat} (cs : List (Nd d)) : (reKey cs).length = cs.length := List.length_map _

theorem halves_length {d : Nat} (c : Nd d) : 1 ≤ (halves c).length ∧ (halves c).length ≤ 2 := by
  unfold halves
  split <;> simp
theorem halves_pos {d : Nat} {c : Nd d} (h : 0 < c.length) : ∀ x ∈ halves c, 0 < x.length := by
  unfold halves
  split
  · intro x hx
    simp at hx
    rw [hx]; exact h
  · intro x hx
    simp only [List.mem_cons, List.not_mem_nil, or_false] at hx
    rcases hx with rfl | rfl
    · rw [List.length_take]; omega
    · rw [List.length_drop]; omega
theorem at_mem {d : Nat} {cs : List (Nd d)} {i : Nat} (h : i < cs.length) : at' cs i ∈ cs := by
  unfold at'
  rw [List.getElem?_eq_getElem h]
  exact List.getElem_mem h
theorem joinC_length {d : Nat} (cs : List (Nd d)) (i : Nat) (h : i < cs.length) : cs.length - 1 ≤ (joinC cs i).length ∧ (joinC cs i).length ≤ cs.length ∧ 0 < (joinC cs i).length := by
  unfold joinC
  split
  · omega
  · have := halves_length (at' cs (i - 1) ++ at' cs (i - 1 + 1))
    simp only [List.length_append, List.length_take, List.length_drop] at this ⊢
    omega
theorem joinC_pos {d : Nat} {cs : List (Nd d)} {i : Nat} (h : i < cs.length) (hp : ∀ c ∈ cs, 0 < c.length) : ∀ c ∈ joinC cs i, 0 < c.length := by
  unfold joinC
  split
  · exact hp
  · intro c hc
    rcases List.mem_append.1 hc with hc | hc
    · exact hp c (List.mem_of_mem_take hc)
    · rcases List.mem_append.1 hc with hc | hc
      · refine halves_pos ?_ c hc
        have := hp _ (at_mem (cs := cs) (i := i - 1) (by omega))
        rw [List.length_append]
        omega
      · exact hp c (List.mem_of_mem_drop hc)
theorem cutC_length {d : Nat} (f : Nd d → Nd d) (l : Nd (d + 1)) (i : Nat) (h : i < l.length) : (cutC f l i).length = l.length := by
  unfold cutC
  simp only [List.length_append, subs_length, List.length_take, List.length_drop, List.length_cons, List.length_nil]
  omega
theorem delL_length (l : Nd 0) (k : Key) : l.length - 1 ≤ (delL l k).length ∧ (delL l k).length ≤ l.length := by
  unfold delL
  have h := pos_le (keys l) k
  rw [keys_length] at h
  split
  · simp only [List.length_append, List.length_take, List.length_drop]
    omega
  · omega
theorem child_lt {d : Nat} {l : Nd (d + 1)} (h : 0 < l.length) (k : Key) : childI (keys l) k < l.length := by
  have hkl := keys_length l
  have := childI_lt (ks := keys l) (fun e => by rw [e] at hkl; simp at hkl; omega) k
  omega
theorem cutM_length : ∀ (d : Nat) (l : Nd d) (k : Key), (d = 0 ∨ 0 < l.length) → l.length - 1 ≤ (cutM d l k).length ∧ (cutM d l k).length ≤ l.length
  | 0, l, k, _ => delL_length l k
  | d + 1, l, k, h => by
    have hi := child_lt (show 0 < l.length by omega) k
    have h1 := cutC_length (fun c => cutM d c k) l (childI (keys l) k) hi
    have h2 := joinC_length (cutC (fun c => cutM d c k) l (childI (keys l) k)) (childI (keys l) k) (by omega)
    unfold cutM
    rw [reKey_length]
    omega
theorem cutAble_child {d : Nat} {l : Nd (d + 1)} {i : Nat} (h : CutAble (d + 1) l) (hi : i < l.length) : 2 ≤ (sub l i).length ∧ (sub l i).length ≤ 30 ∧ CutAble d (sub l i) := by
  obtain ⟨x, hx, _, e⟩ := sub_mem hi
  rw [e]
  exact h.2.2 x hx
theorem subs_mem {d : Nat} {l : Nd (d + 1)} {c : Nd d} (h : c ∈ subs l) : ∃ x ∈ l, nd x = c := by
  unfold subs at h
  obtain ⟨x, hx, e⟩ := List.mem_map.1 h
  exact ⟨x, hx, e⟩
theorem cutC_mem {d : Nat} {f : Nd d → Nd d} {l : Nd (d + 1)} {i : Nat} {c : Nd d} (h : c ∈ cutC f l i) : c = f (sub l i) ∨ ∃ x ∈ l, nd x = c := by
  unfold cutC at h
  rcases List.mem_append.1 h with h | h
  · obtain ⟨x, hx, e⟩ := subs_mem h
    exact .inr ⟨x, List.mem_of_mem_take hx, e⟩
  · rcases List.mem_append.1 h with h | h
    · simp at h
      exact .inl h
    · obtain ⟨x, hx, e⟩ := subs_mem h
      exact .inr ⟨x, List.mem_of_mem_drop hx, e⟩
/-- All children are neither empty nor great behind the cut in one of them. -/
theorem cutC_fine {d : Nat} {l : Nd (d + 1)} {i : Nat} {k : Key} (h : CutAble (d + 1) l) (hi : i < l.length) : ∀ c ∈ cutC (fun c => cutM d c k) l i, 0 < c.length ∧ c.length ≤ 30 := by
  intro c hc
  rcases cutC_mem hc with rfl | ⟨x, hx, rfl⟩
  · have h1 := cutAble_child h hi
    have h2 := cutM_length d (sub l i) k (.inr (by omega))
    omega
  · have := h.2.2 x hx
    omega

def CutPost (d : Nat) (w : World) (r : Nat) (l : Nd d) (F : List Nat) (k : Key) (e : Ending) (w' : World) : Prop :=
  ∃ F', e = .returned (.bool (cutB d l k)) ∧ At d w' r (cutM d l k) F' ∧ Only (fun b => b ∈ F) w w' ∧ ∀ b ∈ F', b ∈ F ∨ w.heap.size ≤ b

theorem cutLeaf_del (l : Nd 0) (k : Key) : cutLeaf (keys l) (vals l) k = (keys (delL l k), vals (delL l k)) := by
  unfold cutLeaf delL
  split
  · rw [keys_append, vals_append, keys_take, keys_drop, vals_take, vals_drop]
  · rfl
theorem cut_zero (w : World) (r : Nat) (l : Nd 0) (F : List Nat) (k : Key) (h : At 0 w r l F) (ha : CutAble 0 l) : Calls Tryz.prog 42 #[ptr r, .string k] w (CutPost 0 w r l F k) := by
  refine (cut_leaf w r (keys l) (vals l) F k h ha.1 (by rw [keys_length, vals_length]) (by rw [keys_length]; have := ha.2; omega)).mono ?_
  rintro e w' ⟨F', rfl, h1, h2, h3⟩
  rw [cutLeaf_del] at h1
  exact ⟨F', rfl, h1, h2, h3⟩

theorem join_any (d : Nat) (w : World) (r : Nat) (ks : List Key) (rs : List Nat) (cs : List (Nd d)) (F0 : List Nat) (Fs : List (List Nat)) (i : Nat) (h : Inr d w r ks rs rs cs F0 Fs) (hk : ks.length = cs.length) (hi : i < cs.length) (h90 : cs.length ≤ 90) (h40 : ∀ c ∈ cs, c.length ≤ 40) :
    Calls Tryz.prog 62 #[ptr r, .int .i64 i] w (JoinPost d w r cs i (F0 ++ Fs.flatten)) := by
  by_cases hc : 2 ≤ (at' cs i).length ∨ cs.length < 2
  · exact join_rest d w r ks rs cs F0 Fs i h hk hi h90 hc
  · exact join_do d w r ks rs cs F0 Fs i h hk hi h90 hc h40

/-- Keys, of which the first are made anew. -/
structure Keyed {d : Nat} (w0 w : World) (r : Nat) (ks : List Key) (rs : List Nat) (cs : List (Nd d)) (F0 : List Nat) (Fs : List (List Nat)) (cv : Value) (j : Nat) : Prop where
  inr : Inr d w r ks rs rs cs F0 Fs
  len : ks.length = cs.length
  le : j ≤ cs.length
  done : ∀ t, t < j → ks[t]? = (cs.map fk)[t]?
  only : Only (fun b => b ∈ F0) w0 w
  kids : w.cell? ⟨r, 2, none⟩ = some cv

/-- One more key: what it wants, what it leaves. -/
theorem Keyed.step {d : Nat} {w0 w : World} {r g3 o3 m p3 : Nat} {ks : List Key} {rs : List Nat} {cs : List (Nd d)} {F0 : List Nat} {Fs : List (List Nat)} {j : Nat} (h : Keyed w0 w r ks rs cs F0 Fs (.slice (some ⟨g3, o3, none⟩) m p3) j) (hj : j < cs.length) (hp : ∀ c ∈ cs, 0 < c.length) :
    ∃ q g o c gl ol nl pl kf kold, w.cell? ⟨g3, o3 + j, none⟩ = some (.pointer (some ⟨q, 0, none⟩)) ∧ w.cell? ⟨r, 0, none⟩ = some (.slice (some ⟨g, o, none⟩) cs.length c) ∧ w.cell? ⟨q, 0, none⟩ = some (.slice (some ⟨gl, ol, none⟩) nl pl) ∧ 0 < nl ∧ w.cell? ⟨gl, ol, none⟩ = some (.string kf) ∧
      w.cell? ⟨g, o + j, none⟩ = some (.string kold) ∧ w.frozen? ⟨g, o + j, none⟩ = false ∧ Keyed w0 (w.setCell ⟨g, o + j, none⟩ (.string kf)) r (ks.set j kf) rs cs F0 Fs (.slice (some ⟨g3, o3, none⟩) m p3) (j + 1) := by
  have hlen := h.inr.kids.lenR
  have hk := h.len
  obtain ⟨ra, q, rb, Fa, f, Fb, _, _, _, _, hq, _, hrq⟩ := h.inr.child j hj
  obtain ⟨g2, o2, c2, k0, k1⟩ := h.inr.raw.kids (by omega)
  have e := h.kids
  rw [k0] at e
  injection e with e
  injection e with e1 e2 e3
  injection e1 with e1
  injection e1 with e1 e4
  subst e1 e4
  obtain ⟨g, o, c, x0, xg, x1, x2⟩ := h.inr.raw.keysAt (by omega)
  obtain ⟨gl, ol, nl, pl, l0, ln, l1, _, _⟩ := hq.least (hp _ (at_mem hj))
  obtain ⟨kold, hko⟩ : ∃ a, ks[j]? = some a := ⟨_, List.getElem?_eq_getElem (by omega)⟩
  have hgr : g ≠ r := by
    obtain ⟨kv, vv, cv, hn, hF, hd, _⟩ := h.inr.raw
    have hA := foot_nodup.1 (hF ▸ hd)
    have hx := hn.cells.cell 0
    simp only [List.getElem?_cons_zero] at hx
    rw [x0] at hx
    injection hx with hx
    exact hA.rk g (hx ▸ rfl)
  refine ⟨q, g, o, c, gl, ol, nl, pl, _, kold, k1 j q hrq, by rw [← hk]; exact x0, l0, ln, l1, (x1 j kold hko).1, (x1 j kold hko).2, ?_, by simpa using hk, hj, fun t ht => ?_, h.only.setCell (p := ⟨g, o + j, none⟩) (.inl xg) _, ?_⟩
  · exact h.inr.rawTurn (x2 j _ (by omega)) (Raw.setKey_only w xg _ _) fun b hb => .inl hb
  · by_cases htj : t = j
    · subst htj
      rw [List.getElem?_set_self (by omega), List.getElem?_map]
      unfold at'
      rw [List.getElem?_eq_getElem hj]
      rfl
    · rw [List.getElem?_set_ne (Ne.symm htj)]
      exact h.done t (by omega)
  · rw [← h.kids]
    exact (setCell_only w ⟨g, o + j, none⟩ (.string _)).cell (p := ⟨r, 2, none⟩) (World.block_lt_of_cell? _ _ h.kids) (Ne.symm hgr)

theorem Keyed.all {d : Nat} {w0 w : World} {r : Nat} {ks : List Key} {rs : List Nat} {cs : List (Nd d)} {F0 : List Nat} {Fs : List (List Nat)} {cv : Value} (h : Keyed w0 w r ks rs cs F0 Fs cv cs.length) : At (d + 1) w r (reKey cs) (F0 ++ Fs.flatten) := by
  apply Inr.at
  rw [keys_reKey, subs_reKey]
  have e : ks = cs.map fk := by
    apply List.ext_getElem?
    intro t
    rcases Nat.lt_or_ge t cs.length with ht | ht
    · exact h.done t ht
    · rw [List.getElem?_eq_none (by rw [h.len]; exact ht), List.getElem?_eq_none (by simpa using ht)]
  rw [← e]
  exact h.inr
end Go.Proofs.YtedfijmaeoednaaGreatDoor.Ke

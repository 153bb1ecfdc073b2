/- Get of a tree as it is held. Conditions: a tree in memory. -/
import Derived.Test.YtjmkfppnimengaaTreeZc
import Derived.Laws.ResultCell
namespace Go.Proofs.Ytjmkfppnimengaa
open Go.RowKit Go.Wh

def TGet (w : World) (l : Nd 0) (k : Key) (e : Ending) (w' : World) : Prop :=
  e = .returned (.tuple #[ridV ((getL l k).getD (0, 0)), .bool (getL l k).isSome]) ∧ Still w w'

/-- On the way down. -/
structure Way (d : Nat) (x : Nd d) (k : Key) (W : World) (e : Nat) (u : Nd e) (r : Nat) (G : List Nat) (wr : World) : Prop where
  at_ : At e wr r u G
  get : getM e u k = getM d x k
  fit : Fit e u
  four : u.length ≤ 4
  ne : e = 0 ∨ 0 < u.length
  ks : KS (keys (flat e u))
  still : Still W wr
  le : e ≤ d
  drawn : wr.drawn = W.drawn + (d - e)

theorem Way.down {d : Nat} {x : Nd d} {k : Key} {W wr : World} {e : Nat} {u : Nd (e + 1)} {r : Nat} {G : List Nat} (h : Way d x k W (e + 1) u r G wr) :
    ∃ q f g2 o2 p2, wr.cell? ⟨r, 2, none⟩ = some (.slice (some ⟨g2, o2, none⟩) u.length p2) ∧ wr.cell? ⟨g2, o2 + childI (keys u) k, none⟩ = some (.pointer (some ⟨q, 0, none⟩)) ∧ childI (keys u) k < u.length ∧
      Way d x k W e (sub u (childI (keys u) k)) q f wr.drew ∧ Calls Try.prog 29 #[ptr r, .string k] wr.drew (fun e w' => e = .returned (.int .i64 (childI (keys u) k)) ∧ w' = wr.drew) := by
  have hi := child_lt (show 0 < u.length by have := h.ne; omega) k
  obtain ⟨rs, F0, Fs, hin, hG⟩ := h.at_.inr
  have hlen : rs.length = u.length := by have := hin.kids.lenR; rw [subs_length] at this; exact this
  have hkl := keys_length u
  obtain ⟨ra, q, rb, Fa, f, Fb, _, _, _, _, hq, _, hrq⟩ := hin.focus _ (subs_split u _ hi) (subs_length_take u _ hi)
  obtain ⟨g2, o2, p2, k0, k1⟩ := hin.raw.kids (by omega)
  rw [hlen] at k0
  have hsub := h.fit.sub hi
  have h4 := h.four
  have hle := h.le
  refine ⟨q, f, g2, o2, p2, k0, k1 _ q hrq, hi, ⟨hq.only (Only.drew (Only.refl _ _)) fun _ _ e => e, h.get, hsub.2.2.1, hsub.2.1, .inr (by omega), h.ks.sub hi, h.still.drew, by omega, ?_⟩, child_any wr.drew r (keys u) [] rs F0 k (hin.raw.still (Only.drew (Only.refl _ _))) (by omega) (by omega) (by omega)⟩
  have := h.drawn
  simp only [World.drew] at this ⊢
  omega

set_option maxHeartbeats 1000000 in
set_option maxRecDepth 100000 in
theorem tget (w : World) (t : Nat) (l : Nd 0) (F : List Nat) (k : Key) (h : TreeAt w t l F) :
    Calls Try.prog 16 #[ptr t, .string k] w (TGet w l k) := by
  obtain ⟨d, r, x, G, hc, hat, hF, htG, hg, hfl⟩ := h
  have hfg := flat_get d x k hg.fit hg.nonempty hg.ks
  rw [hfl] at hfg
  have c0 : ∀ ob, (w.alloc ob).cell? ⟨t, 0, none⟩ = some (.pointer (some ⟨r, 0, none⟩)) := fun ob => (hc.alloc ob).cell 0
  have W0 : ∀ ob, Way d x k (w.alloc ob) d x r G (w.alloc ob) := fun ob => ⟨hat.only ((Only.refl (fun _ => False) w).alloc ob) fun _ _ e => e, rfl, hg.fit, hg.four, hg.nonempty, hg.ks, Still.refl _, Nat.le_refl _, by omega⟩
  have HW0 := Lib.hid W0
  have HG := Lib.hid hfg
  have B0 := Lib.hid (fun tt => cellsAt_new w [.int .i64 0, .int .i64 0] tt)
  clear hc hat hF htG hg hfl hfg W0
  unfold ptr
  go_enter Try.func16, Try.ntmps16
  go_wp2_with fail
  have SW := Lib.hid (show Still w (w.alloc (.cells #[.int .i64 0, .int .i64 0] 35)) from (Only.refl _ w).alloc _)
  have B1 := Lib.hid (B0.out 35)
  have W1 := Lib.hid (HW0.out (.cells #[.int .i64 0, .int .i64 0] 35))
  clear B0 HW0 c0
  have hb : w.heap.size ≤ w.heap.size := Nat.le_refl _
  generalize w.alloc _ = W at *
  generalize hbx : w.heap.size = bx at *
  have HB := Lib.hid hbx
  clear hb hbx
  go_loopw [6] (fun s wr => ∃ (e : Nat) (u : Nd e) (r' : Nat) (G' : List Nat), s = .pointer (some ⟨r', 0, none⟩) ∧ Way d x k W e u r' G' wr) (fun _ wr => d - (wr.drawn - W.drawn))
  case atStart => exact ⟨d, x, r, G, rfl, W1.out⟩
  case round =>
    obtain ⟨e, u, r', G', rfl, hw⟩ := hrel
    cases e with
    | succ e =>
      obtain ⟨q, f, g2, o2, p2, k0, k1, k2, k3, k4⟩ := hw.down
      obtain ⟨i, hi⟩ : ∃ i, childI (keys u) k = i := ⟨_, rfl⟩
      obtain ⟨n, hn⟩ : ∃ n, u.length = n := ⟨_, rfl⟩
      rw [hi] at k1 k2 k3 k4
      rw [hn] at k0 k2
      have HC := Lib.hid k4
      have HK := Lib.hid k3
      have HD := Lib.hid (And.intro hw.drawn hw.le)
      have t1 : decide ((n : Int) > 0) = true := by simp; omega
      have t2 : decide (0 < n) = true := by simp; omega
      have b0 : (0 : Int) ≤ (i : Int) := by omega
      have b1 : (i : Int) < (n : Int) := by omega
      clear hw k4 k3 hi hn
      unfold ptr at HC
      go_wp2_with fail
      refine wp_region_D_drew (D := (fun i => [0, 1, 2, 4, 5].contains i)) (S := (fun w' => w'.cell? ⟨r', 2, none⟩ = some (.slice (some ⟨g2, o2, none⟩) n p2) ∧ w'.cell? ⟨g2, o2 + i, none⟩ = some (.pointer (some ⟨q, 0, none⟩)))) (by kernel_rfl) ?_ (fun hHeld => ?_)
      · ((try dsimp only) <;> (exact And.intro k0 k1))
      (refine takeD (i := 0) (some 18) (v := ?_) rfl (by rfl) (by rfl) (by kernel_rfl) (by rfl) (fun _ _ _ h => h) ?_ ?_; rotate_left; (intro w; go_simp; try with_reducible rfl); try go_frame)
      (refine takeD (i := 1) (some 19) (v := ?_) rfl (by rfl) (by rfl) (by kernel_rfl) (by rfl) (fun _ _ _ h => h) ?_ ?_; rotate_left; (intro w; go_simp; try with_reducible rfl); try go_frame)
      (refine takeD (i := 2) (some 20) (v := ?_) rfl (by rfl) (by rfl) (by kernel_rfl) (by rfl) (fun _ _ _ h => h) ?_ ?_; rotate_left; (intro w; go_simp; try with_reducible rfl); try go_frame)
      (refine takeD (i := 4) (some 22) (v := ?_) rfl (by rfl) (by rfl) (by kernel_rfl) (by rfl) (fun _ _ _ h => h) ?_ ?_; rotate_left; (intro w; go_simp; try with_reducible rfl); try go_frame)
      (refine takeD (i := 5) (some 23) (v := ?_) rfl (by rfl) (by rfl) (by kernel_rfl) (by rfl) (fun _ _ _ h => h) ?_ ?_; rotate_left; (intro w; go_simp; try with_reducible rfl); try go_frame)
      (refine takeS (i := 3) (some 21) (v := ?_) rfl (by rfl) (by rfl) (by kernel_rfl) (by rfl) (fun _ _ _ h => h) (by assumption) ?_ ?_; rotate_left; (intro w hSw; (try dsimp only at hSw); go_simp; try with_reducible rfl); try go_frame)
      refine wpAnyD_ready (rs := [6]) (by kernel_rfl) (by simp) ?_
      refine ReadyD.cons rfl (fun K hK => ?_) ?_
      go_simp
      (go_at_call 29; (with_reducible refine HC.out.mono ?_); rintro e w0 ⟨rfl, rfl⟩)
      go_wp2_with fail
      (refine hK.out _ _ ?_ (fun hNew => ?_); (focus ((try dsimp only) <;> (exact And.intro k0 k1))); clear hHeld; have hHeld := hNew; clear hNew)
      (clear hK K; try go_frame)
      (refine takeS (i := 7) (some 25) (v := ?_) rfl (by rfl) (by rfl) (by kernel_rfl) (by rfl) (fun _ _ _ h => h) (by assumption) ?_ ?_; rotate_left; (intro w hSw; (try dsimp only at hSw); go_simp; try with_reducible rfl); try go_frame)
      (refine takeS (i := 8) (some 26) (v := ?_) rfl (by rfl) (by rfl) (by kernel_rfl) (by rfl) (fun _ _ _ h => h) (by assumption) ?_ ?_; rotate_left; (intro w hSw; (try dsimp only at hSw); go_simp; try with_reducible rfl); try go_frame)
      (refine takeS (i := 9) (some 6) (v := ?_) rfl (by rfl) (by rfl) (by kernel_rfl) (by rfl) (fun _ _ _ h => h) (by assumption) ?_ ?_; rotate_left; (intro w hSw; (try dsimp only at hSw); go_simp; try with_reducible rfl); try go_frame)
      refine wpAnyD_done (by kernel_rfl) ?_ _
      rotate_left
      exact ReadyD.nil
      go_wp2_with fail
      go_roundw
      case rel => exact ⟨e, _, q, f, rfl, HK.out⟩
      case measure =>
        have h1 := HD.out
        have h2 := HK.out.drawn
        have h3 := HK.out.le
        simp only [World.drew] at h1 h2 ⊢
        omega
    | zero =>
      obtain ⟨kv, vv, cv, hnd, hF, hd, hlt⟩ := (show Raw wr r' (keys u) (vals u) [] G' from hw.at_)
      obtain ⟨ca, cc, rfl⟩ := hnd.c.form'
      obtain ⟨ka, kc, rfl⟩ := hnd.k.form'
      obtain ⟨va, vc, rfl⟩ := hnd.v.form'
      have r0 : wr.cell? ⟨r', 0, none⟩ = some (.slice ka (keys u).length kc) := hnd.cells.cell 0
      have r1 : wr.cell? ⟨r', 1, none⟩ = some (.slice va (vals u).length vc) := hnd.cells.cell 1
      have r2 : wr.cell? ⟨r', 2, none⟩ = some (.slice ca 0 cc) := hnd.cells.cell 2
      have hu4 := hw.four
      have hku := keys_length u
      have hvu := vals_length u
      have HS := Lib.hid (search_any (.slice ka (keys u).length kc) (keys u).length (keys u) k wr hnd.k hw.ks (by omega))
      have hbb : cellsAt wr bx [.int .i64 0, .int .i64 0] := cellsAt.still hw.still B1.out
      have q0 : wr.cell? ⟨bx, 0, none⟩ = some (.int .i64 0) := hbb.cell 0
      have q1 : wr.cell? ⟨bx, 1, none⟩ = some (.int .i64 0) := hbb.cell 1
      have q2 : wr.frozen? ⟨bx, 0, none⟩ = false := hbb.free 0
      have q3 : wr.frozen? ⟨bx, 1, none⟩ = false := hbb.free 1
      have hgl : getL u k = getL l k := hw.get.trans HG.out
      have hws : Still w wr := SW.out.trans hw.still
      have hfin : ∀ a b : Value, Still w ((wr.setCell ⟨bx, 0, none⟩ a).setCell ⟨bx, 1, none⟩ b) := fun a b => (Only.setCell hws (p := ⟨bx, 0, none⟩) (.inr (by rw [HB.out]; exact Nat.le_refl _)) a).setCell (p := ⟨bx, 1, none⟩) (.inr (by rw [HB.out]; exact Nat.le_refl _)) b
      have HFIN := Lib.hid hfin
      have HGL := Lib.hid hgl
      have HU := Lib.hid (And.intro hku hvu)
      have HV := Lib.hid hnd.v
      clear hw hnd hF hd hlt hu4 hku hvu hgl hws hfin hbb
      cases hk : hasK (keys u) k with
      | false =>
        rw [hk] at HS
        have HX := Lib.hid (show TGet w l k (.returned (.tuple #[.agg #[.int .i64 0, .int .i64 0], .bool false])) ((wr.setCell ⟨bx, 0, none⟩ (.int .i64 0)).setCell ⟨bx, 1, none⟩ (.int .i64 0)) from by
          have e : getL l k = none := by rw [← HGL.out]; unfold getL; rw [hk]; rfl
          refine ⟨?_, HFIN.out _ _⟩
          rw [e]
          rfl)
        clear hk
        go_wp2_with fail
        refine HS.out.mono ?_
        rintro e w0 ⟨rfl, rfl⟩
        go_wp2_with fail
        (try simp only [Exit.inBlock, Exit.then])
        refine bodyPost_ret (v := .tuple #[.agg #[.int .i64 0, .int .i64 0], .bool false]) ?_ rfl HX.out
        rw [results_cell_tmp rfl]
        go_simp
      | true =>
        rw [hk] at HS
        obtain ⟨i, hi⟩ : ∃ i, pos (keys u) k = i := ⟨_, rfl⟩
        have hil : i < (vals u).length := by
          have := hasK_lt hk
          have := HU.out
          omega
        rw [hi] at HS
        obtain ⟨g, o, cap, hve, hv⟩ := HV.out.form (by omega)
        injection hve with hva _ hvc
        subst hva hvc
        have hr0 := rcells_get (vals u) i (vals u)[i] (List.getElem?_eq_getElem hil)
        have e0 : wr.cell? ⟨g, o + i * 2, none⟩ = some (.int .i64 (vals u)[i].1) := (hv.cell (i * 2) (by omega)).trans hr0.1
        have e1 : wr.cell? ⟨g, o + i * 2 + 1, none⟩ = some (.int .i64 (vals u)[i].2) := by rw [Nat.add_assoc]; exact (hv.cell (i * 2 + 1) (by omega)).trans hr0.2
        have HX := Lib.hid (show TGet w l k (.returned (.tuple #[.agg #[.int .i64 (vals u)[i].1, .int .i64 (vals u)[i].2], .bool true])) ((wr.setCell ⟨bx, 0, none⟩ (.int .i64 (vals u)[i].1)).setCell ⟨bx, 1, none⟩ (.int .i64 (vals u)[i].2)) from by
          have e : getL l k = some (vals u)[i] := by
            rw [← HGL.out]
            unfold getL
            rw [hk, hi, List.getElem?_eq_getElem hil]
            rfl
          refine ⟨?_, HFIN.out _ _⟩
          rw [e]
          rfl)
        have b0 : (0 : Int) ≤ (i : Int) := by omega
        have b1 : (i : Int) < ((vals u).length : Int) := by omega
        generalize (vals u)[i].1 = v1 at *
        generalize (vals u)[i].2 = v2 at *
        generalize (vals u).length = n2 at *
        clear hk hi hil hr0 hv
        go_wp2_with fail
        refine HS.out.mono ?_
        rintro e w0 ⟨rfl, rfl⟩
        go_wp2_with fail
        (try simp only [Exit.inBlock, Exit.then])
        refine bodyPost_ret (v := .tuple #[.agg #[.int .i64 v1, .int .i64 v2], .bool true]) ?_ rfl HX.out
        rw [results_cell_tmp rfl]
        go_simp
end Go.Proofs.Ytjmkfppnimengaa

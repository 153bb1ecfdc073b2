/- All keys from one on, one by one, at every level. Conditions: a tree in memory; where it is gathered lies apart. -/
import Derived.Test.YtjmkfppnimengaaTreeFb
namespace Go.Proofs.Ytjmkfppnimengaa
open Go.RowKit Go.Wh

theorem flat_take_succ {d : Nat} (l : Nd (d + 1)) (i : Nat) (hi : i < l.length) : flat (d + 1) (l.take (i + 1)) = flat (d + 1) (l.take i) ++ flat d (sub l i) := by
  obtain ⟨x, _, hg, hx, _⟩ := split_at_i l i hi
  rw [List.take_add_one, hg, Option.toList_some, flat_append, flat_one, hx]
theorem drop_succ_flat {d : Nat} (l : Nd (d + 1)) (i : Nat) (hi : i < l.length) (f : Nd d → Nd 0) : ((l.drop i).flatMap fun x => f (nd x)) = f (sub l i) ++ (l.drop (i + 1)).flatMap fun x => f (nd x) := by
  obtain ⟨x, _, hg, hx, _⟩ := split_at_i l i hi
  have e : l.drop i = x :: l.drop (i + 1) := by
    rw [List.drop_eq_getElem_cons hi, (List.getElem?_eq_some_iff.1 hg).2]
  rw [e, List.flatMap_cons, hx]
theorem flat_take_le {d : Nat} (l : Nd (d + 1)) (i : Nat) : (flat (d + 1) (l.take i)).length ≤ (flat (d + 1) l).length := by
  have := flat_take_drop (d + 1) l i
  rw [← this, List.length_append]
  omega

abbrev FromOK (d : Nat) : Prop := ∀ (w : World) (r : Nat) (x : Nd d) (G : List Nat) (k : Key) (mb kb vb : Nat) (most : Int) (a : Nd 0) (N : Nat), At d w r x G → Fit d x → (d = 0 ∨ 0 < x.length) → x.length ≤ 4 → KS (keys (flat d x)) → (∀ b ∈ G, b < N) → Gath w mb kb vb most a N → a.length + (flat d x).length ≤ 90000 →
    Calls Try.prog 32 #[ptr r, .string k, clo mb kb vb] w (FromPost d x k w mb kb vb most a N)

set_option maxHeartbeats 1000000 in
set_option maxRecDepth 100000 in
theorem from_in (d : Nat) (ih : FromOK d) : FromOK (d + 1) := by
  intro w r x G k mb kb vb most a N h hf h0 h4 hs hG hg ha
  obtain ⟨rs, F0, Fs, hin, hFF⟩ := h.inr
  have hlen : rs.length = x.length := by have := hin.kids.lenR; rw [subs_length] at this; exact this
  have hkx := keys_length x
  have hil := child_lt (show 0 < x.length by omega) k
  obtain ⟨kv, vv, cv, hnd, hF, hd, hlt⟩ := hin.raw
  obtain ⟨g2, o2, p2, rfl, hcv⟩ := hnd.c.form (by omega)
  have hcl := hcv.le
  obtain ⟨n, hn⟩ : ∃ n, x.length = n := ⟨_, rfl⟩
  have hfm : fromM (d + 1) x k = (x.drop (childI (keys x) k)).flatMap fun y => fromM d (nd y) k := rfl
  obtain ⟨i, hi⟩ : ∃ i, childI (keys x) k = i := ⟨_, rfl⟩
  have k0 : w.cell? ⟨r, 2, none⟩ = some (.slice (some ⟨g2, o2, none⟩) rs.length p2) := hnd.cells.cell 2
  have HC := Lib.hid (child_any w.drew r (keys x) [] rs F0 k (hin.raw.still (Only.drew (Only.refl _ _))) (by omega) (by omega) (by omega))
  rw [hi] at hil hfm HC
  rw [hlen, hn] at k0
  rw [hlen] at hcl
  -- each child, later
  have hst : ∀ w' m, Only (fun b => N ≤ b) w w' → m < x.length → ∃ q f, w'.cell? ⟨g2, o2 + m, none⟩ = some (.pointer (some ⟨q, 0, none⟩)) ∧ At d w' q (sub x m) f ∧ ∀ b ∈ f, b < N := fun w' m ho hm => by
    have hin' : Inr d w' r (keys x) rs rs (subs x) F0 Fs := by
      refine ⟨hin.raw.only ho fun b hb hN => ?_, hin.kids.imp fun _ _ f hf h => h.only ho fun b hb hN => ?_, hin.nd⟩
      · have := hG b (by rw [hFF]; simp [hb]); omega
      · have := hG b (by rw [hFF]; exact List.mem_append_right _ (List.mem_flatten.2 ⟨f, hf, hb⟩)); omega
    obtain ⟨ra, q, rb, Fa, f, Fb, _, hFs, _, _, hq, _, hrq⟩ := hin'.focus m (subs_split x m hm) (subs_length_take x m hm)
    have hcc := (hnd.only ho fun b hb hN => by have := hG b (by rw [hFF, hF]; exact List.mem_append_left _ hb); omega).c.at
    refine ⟨q, f, ?_, hq, fun b hb => hG b ?_⟩
    · rw [hcc.cell m (by omega)]
      exact pcells_get hrq
    · rw [hFF, hFs]
      simp [hb]
  have HST := Lib.hid hst
  have HX := Lib.hid (And.intro hn (And.intro hfm (And.intro h4 (And.intro ha (And.intro hf (And.intro hs hil))))))
  have HG := Lib.hid hg
  have IH := Lib.hid (fun w' q c f k' most' a' hat hfit hne hc4 hks hfN hgath hbd => ih w' q c f k' mb kb vb most' a' N hat hfit hne hc4 hks hfN hgath hbd)
  rw [hn] at hil hcl
  have hn4 : n ≤ 4 := by omega
  obtain ⟨m, hm⟩ : ∃ m, n - i = m := ⟨_, rfl⟩
  have t1 : ((n : Int) == 0) = false := by rw [beq_eq_false_iff_ne]; omega
  have b0 : (0 : Int) ≤ (i : Int) := by omega
  have b1 : (i : Int) ≤ (n : Int) := by omega
  have b2 : (n : Int) ≤ (p2 : Int) := by omega
  have b3 : (i : Int) ≤ (p2 : Int) := by omega
  clear h hf h0 h4 hs hG hg ha hin hFF hlen hkx hnd hF hd hlt hcv hn hfm hi hst ih
  unfold ptr at HC IH
  unfold clo ptr at IH
  unfold clo ptr
  go_enter Try.func32, Try.ntmps32
  go_wp2_with fail
  refine wp_region_D_drew (D := (fun i => [0, 1, 2, 4, 5, 9].contains i)) (S := (fun w' => w'.cell? ⟨r, 2, none⟩ = some (.slice (some ⟨g2, o2, none⟩) n p2))) (by kernel_rfl) ?_ (fun hHeld => ?_)
  · ((try dsimp only) <;> (exact k0))
  (refine takeD (i := 0) (some 52) (v := ?_) rfl (by rfl) (by rfl) (by kernel_rfl) (by rfl) (fun _ _ _ h => h) ?_ ?_; rotate_left; (intro w; go_simp; try with_reducible rfl); try go_frame)
  (refine takeD (i := 1) (some 53) (v := ?_) rfl (by rfl) (by rfl) (by kernel_rfl) (by rfl) (fun _ _ _ h => h) ?_ ?_; rotate_left; (intro w; go_simp; try with_reducible rfl); try go_frame)
  (refine takeD (i := 2) (some 54) (v := ?_) rfl (by rfl) (by rfl) (by kernel_rfl) (by rfl) (fun _ _ _ h => h) ?_ ?_; rotate_left; (intro w; go_simp; try with_reducible rfl); try go_frame)
  (refine takeD (i := 4) (some 56) (v := ?_) rfl (by rfl) (by rfl) (by kernel_rfl) (by rfl) (fun _ _ _ h => h) ?_ ?_; rotate_left; (intro w; go_simp; try with_reducible rfl); try go_frame)
  (refine takeD (i := 5) (some 57) (v := ?_) rfl (by rfl) (by rfl) (by kernel_rfl) (by rfl) (fun _ _ _ h => h) ?_ ?_; rotate_left; (intro w; go_simp; try with_reducible rfl); try go_frame)
  (refine takeD (i := 9) (some 61) (v := ?_) rfl (by rfl) (by rfl) (by kernel_rfl) (by rfl) (fun _ _ _ h => h) ?_ ?_; rotate_left; (intro w; go_simp; try with_reducible rfl); try go_frame)
  (refine takeS (i := 3) (some 55) (v := ?_) rfl (by rfl) (by rfl) (by kernel_rfl) (by rfl) (fun _ _ _ h => h) (by assumption) ?_ ?_; rotate_left; (intro w hSw; (try dsimp only at hSw); go_simp; try with_reducible rfl); try go_frame)
  refine wpAnyD_ready (rs := [6]) (by kernel_rfl) (by simp) ?_
  refine ReadyD.cons rfl (fun K hK => ?_) ?_
  go_simp
  (go_at_call 29; (with_reducible refine HC.out.mono ?_); rintro e w0 ⟨rfl, rfl⟩)
  go_wp2_with fail
  (refine hK.out _ _ ?_ (fun hNew => ?_); (focus ((try dsimp only) <;> (exact k0))); clear hHeld; have hHeld := hNew; clear hNew)
  (clear hK K; try go_frame)
  (refine takeS (i := 7) (some 59) (v := ?_) rfl (by rfl) (by rfl) (by kernel_rfl) (by rfl) (fun _ _ _ h => h) (by assumption) ?_ ?_; rotate_left; (intro w hSw; (try dsimp only at hSw); go_simp; try with_reducible rfl); try go_frame)
  (refine takeS (i := 8) (some 60) (v := ?_) rfl (by rfl) (by rfl) (by kernel_rfl) (by rfl) (fun _ _ _ h => h) (by assumption) ?_ ?_; rotate_left; (intro w hSw; (try dsimp only at hSw); go_simp; try with_reducible rfl); try go_frame)
  refine wpAnyD_done (by kernel_rfl) ?_ _
  rotate_left
  exact ReadyD.nil
  go_wp2_with fail
  clear k0
  go_loopw [61] (fun s wr => ∃ (j : Nat) (a' : Nd 0), s = .int .i64 j ∧ j ≤ m ∧ gather most a (fromM (d + 1) x k) = gather most a' ((x.drop (i + j)).flatMap fun y => fromM d (nd y) k) ∧ Gath wr mb kb vb most a' N ∧ Only (fun b => N ≤ b) w wr ∧ a'.length ≤ a.length + (flat (d + 1) (x.take (i + j))).length) (fun s _ => m - (intOf s).toNat)
  case atStart => exact ⟨0, a, rfl, Nat.zero_le _, by rw [HX.out.2.1]; rfl, HG.out.only (Only.drew (Only.refl (fun _ => False) w)) (fun _ e => e.elim), Only.drew (Only.refl _ w), by omega⟩
  case round =>
    obtain ⟨j, a', rfl, hjm, hga, hgw, how, hal⟩ := hrel
    by_cases hj : j < m
    · have hix : i + j < x.length := by have := HX.out.1; omega
      obtain ⟨q, f, y0, y1, y2⟩ := HST.out wr (i + j) how hix
      have y3 : wr.cell? ⟨g2, o2 + i + j, none⟩ = some (.pointer (some ⟨q, 0, none⟩)) := by rw [Nat.add_assoc]; exact y0
      have hsub := HX.out.2.2.2.2.1.sub hix
      have hks := HX.out.2.2.2.2.2.1.sub hix
      have hfl := flat_take_succ x (i + j) hix
      have hle := flat_take_le x (i + j + 1)
      have hbd : a'.length + (flat d (sub x (i + j))).length ≤ 90000 := by
        rw [hfl, List.length_append] at hle
        have := HX.out.2.2.2.1
        omega
      have HP := Lib.hid (IH.out wr q (sub x (i + j)) f k most a' y1 hsub.2.2.1 (.inr (by omega)) hsub.2.1 hks y2 hgw hbd)
      have hsplit : ((x.drop (i + j)).flatMap fun y => fromM d (nd y) k) = fromM d (sub x (i + j)) k ++ ((x.drop (i + j + 1)).flatMap fun y => fromM d (nd y) k) := drop_succ_flat x (i + j) hix (fun y => fromM d y k)
      have hglen := gather_length most (fromM d (sub x (i + j)) k) a'
      have hfl2 : (fromM d (sub x (i + j)) k).length ≤ (flat d (sub x (i + j))).length := by
        rw [fromM_flat d _ k hsub.2.2.1 (.inr (by omega)) hks, List.length_drop]
        omega
      have HH := Lib.hid (And.intro hga (And.intro how (And.intro hal (And.intro hsplit (And.intro hglen (And.intro hfl2 hfl))))))
      have a1 : decide ((j : Int) < (m : Int)) = true := by simp; omega
      have a2 : decide (j < m) = true := by simp; omega
      have a3 : (0 : Int) ≤ (j : Int) := by omega
      have a4 : (j : Int) < (m : Int) := by omega
      have u9 : IntKind.i64.wrap ((j : Int) + 1) = (j : Int) + 1 := IntWalk.i64_in _ (by omega)
      clear hga hgw how hal hsplit hglen hfl2 hfl hle hbd hks hsub hix y0 y1 y2
      go_wp2_with fail
      refine HP.out.mono ?_
      rintro e' w2 ⟨rfl, hg2, ho2⟩
      have hO := HH.out.2.1.trans ho2
      clear HP
      obtain ⟨⟨a2, done⟩, hgr⟩ : ∃ z, gather most a' (fromM d (sub x (i + j)) k) = z := ⟨_, rfl⟩
      rw [hgr] at hg2 ⊢
      have hga := HH.out.1
      have hglen := HH.out.2.2.2.2.1
      rw [HH.out.2.2.2.1, gather_append, hgr] at hga
      rw [hgr] at hglen
      cases done with
      | false =>
        have FN := Lib.hid (show FromPost (d + 1) x k w mb kb vb most a N (.returned (.bool false)) w2 from by
          have h2 : gather most a (fromM (d + 1) x k) = (a2, false) := hga
          unfold FromPost
          rw [h2]
          exact ⟨rfl, hg2, hO⟩)
        clear hg2 ho2 hO hga hglen hgr
        go_wp2_with fail
        go_ret
        exact FN.out
      | true =>
        have FN := Lib.hid (show gather most a (fromM (d + 1) x k) = gather most a2 ((x.drop (i + (j + 1))).flatMap fun y => fromM d (nd y) k) ∧ Gath w2 mb kb vb most a2 N ∧ Only (fun b => N ≤ b) w w2 ∧ a2.length ≤ a.length + (flat (d + 1) (x.take (i + (j + 1)))).length from by
          refine ⟨hga, hg2, hO, ?_⟩
          have h1 := HH.out.2.2.1
          have h2 := HH.out.2.2.2.2.2.1
          have h3 := HH.out.2.2.2.2.2.2
          show a2.length ≤ a.length + (flat (d + 1) (x.take (i + j + 1))).length
          rw [h3, List.length_append]
          simp only at hglen
          omega)
        clear hg2 ho2 hO hga hglen hgr
        go_wp2_with fail
        go_roundw
        case rel => exact ⟨j + 1, _, by go_num, by omega, FN.out⟩
        case measure => simp [intOf]; omega
    · have hge : j = m := by omega
      subst hge
      have FN := Lib.hid (show FromPost (d + 1) x k w mb kb vb most a N (.returned (.bool true)) wr from by
        have hd0 : x.drop (i + j) = [] := List.drop_eq_nil_of_le (by have := HX.out.1; omega)
        rw [hd0] at hga
        have h2 : gather most a (fromM (d + 1) x k) = (a', true) := hga
        unfold FromPost
        rw [h2]
        exact ⟨rfl, hgw, how⟩)
      have t1 : decide ((j : Int) < (j : Int)) = false := by simp
      clear hga hgw how hal
      go_wp2_with fail
      go_ret
      exact FN.out
end Go.Proofs.Ytjmkfppnimengaa

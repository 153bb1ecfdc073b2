/- Cut of a tree as it is held. Conditions: a tree in memory. -/
import Derived.Test.YtjmkfppnimengaaTreeZ
namespace Go.Proofs.Ytjmkfppnimengaa
open Go.RowKit Go.Wh

theorem tcut_fin {w W : World} {t d r n : Nat} {x : Nd d} {G F : List Nat} {l : Nd 0} {k : Key} (hc : cellsAt W t [ptr r, .int .i64 n]) (hat : At d W r x G) (ht : t ∉ G) (hg : Good d x) (hf : flat d x = delL l k) (hn : l.length = n) (hO : Only (fun b => b ∈ F) w W) (hS : ∀ b ∈ t :: G, b ∈ F ∨ w.heap.size ≤ b) (htF : t ∈ F) :
    (hasK (keys l) k = false → TCut w t l F k (.returned (.bool false)) W) ∧ (hasK (keys l) k = true → TCut w t l F k (.returned (.bool true)) (W.setCell ⟨t, 1, none⟩ (.int .i64 ((n : Int) - 1)))) := by
  have hcnt := tree_count (m := (delL l k).length) hc hat ht hg hf rfl
  have hil := delL_length' (l := l) k
  refine ⟨fun hk => ⟨_, by rw [hk], hcnt.2 (by rw [hk] at hil; simp at hil; omega), hO, hS⟩, fun hk => ⟨_, by rw [hk], ?_, hO.setCell (p := ⟨t, 1, none⟩) (.inl htF) _, hS⟩⟩
  have e : ((delL l k).length : Int) = (n : Int) - 1 := by rw [hk] at hil; simp at hil; omega
  have := hcnt.1
  rw [e] at this
  exact this

/-- The root's row of children. -/
theorem At.row : ∀ {d : Nat} {w : World} {r : Nat} {x : Nd d} {G : List Nat}, At d w r x G → ∃ a m c, w.cell? ⟨r, 2, none⟩ = some (.slice a m c) ∧ (d = 0 ∧ m = 0 ∨ 0 < d ∧ m = x.length)
  | 0, _, _, _, _, h => by
    obtain ⟨kv, vv, cv, hn, _, _, _⟩ := (show Raw _ _ _ _ [] _ from h)
    obtain ⟨a, c, rfl⟩ := hn.c.form'
    exact ⟨a, _, c, hn.cells.cell 2, .inl ⟨rfl, rfl⟩⟩
  | d + 1, _, _, _, _, h => by
    obtain ⟨rs, F0, Fs, h1, h2, _, _⟩ := h
    obtain ⟨kv, vv, cv, hn, _, _, _⟩ := h1
    obtain ⟨a, c, rfl⟩ := hn.c.form'
    exact ⟨a, _, c, hn.cells.cell 2, .inr ⟨by omega, h2.lenR.trans (subs_length _)⟩⟩

set_option maxHeartbeats 1000000 in
set_option maxRecDepth 100000 in
theorem tcut (w : World) (t : Nat) (l : Nd 0) (F : List Nat) (k : Key) (h : TreeAt w t l F) (hl : l.length ≤ 100000) :
    Calls Try.prog 12 #[ptr t, .string k] w (TCut w t l F k) := by
  obtain ⟨d, r, x, G, hc, hat, hF, htG, hg, hfl⟩ := h
  obtain ⟨n, hn⟩ : ∃ n, l.length = n := ⟨_, rfl⟩
  rw [hn] at hc hl
  have c0 : w.cell? ⟨t, 0, none⟩ = some (.pointer (some ⟨r, 0, none⟩)) := hc.cell 0
  have hfp := flat_cut d x k hg.fit hg.nonempty hg.ks
  rw [hfl] at hfp
  have HP := Lib.hid (cut_any d w r x G k hat (cutAble_of_fit d x hg.fit hg.nonempty (by have := hg.four; omega) hg.ks))
  have HT := Lib.hid (And.intro hc (And.intro hF (And.intro htG (And.intro hg (And.intro hfl (And.intro hfp (And.intro hn hl)))))))
  have u1 : IntKind.i64.wrap ((n : Int) - 1) = (n : Int) - 1 := IntWalk.i64_in _ (by omega)
  clear hc hat hF htG hg hfl hfp hn hl
  unfold ptr at HP ⊢
  go_enter Try.func12, Try.ntmps12
  go_wp2_with fail
  refine HP.out.mono ?_
  rintro e w1 ⟨G', rfl, hat1, ho1, hf1⟩
  have hct1 : cellsAt w1 t [ptr r, .int .i64 n] := HT.out.1.only ho1 HT.out.2.2.1
  have htG' : t ∉ G' := fun hb => by
    rcases hf1 t hb with h | h
    · exact HT.out.2.2.1 h
    · have := HT.out.1.lt; omega
  have c1 : w1.cell? ⟨t, 0, none⟩ = some (.pointer (some ⟨r, 0, none⟩)) := hct1.cell 0
  have c2 : w1.cell? ⟨t, 1, none⟩ = some (.int .i64 n) := hct1.cell 1
  have c3 : w1.frozen? ⟨t, 0, none⟩ = false := hct1.free 0
  have c4 : w1.frozen? ⟨t, 1, none⟩ = false := hct1.free 1
  obtain ⟨ca, m, cc, r0, hm⟩ := hat1.row
  have hO : Only (fun b => b ∈ F) w w1 := ho1.mono fun b hb => by rw [HT.out.2.1]; simp [hb]
  have htF : t ∈ F := by rw [HT.out.2.1]; simp
  have hS : ∀ b ∈ t :: G', b ∈ F ∨ w.heap.size ≤ b := fun b hb => by
    rw [HT.out.2.1]
    rcases List.mem_cons.1 hb with rfl | hb
    · exact .inl (by simp)
    · exact (hf1 b hb).imp (fun h => by simp [h]) id
  have hcl := cutM_length d x k HT.out.2.2.2.1.nonempty
  rw [HT.out.2.2.2.2.2.1.2]
  by_cases hm1 : m = 1
  · obtain ⟨d, rfl⟩ : ∃ d', d = d' + 1 := ⟨d - 1, by omega⟩
    have hx1 : (cutM (d + 1) x k).length = 1 := by omega
    have hfit := fit_cut (d + 1) x k HT.out.2.2.2.1.fit HT.out.2.2.2.1.two
    have hdown := good_down hfit hx1 (by rw [HT.out.2.2.2.2.2.1.1]; exact KS_del (HT.out.2.2.2.2.1 ▸ HT.out.2.2.2.1.ks) k)
    rw [HT.out.2.2.2.2.2.1.1] at hdown
    obtain ⟨rs, F0, Fs, hin, hG'⟩ := hat1.inr
    have hsp := subs_split (cutM (d + 1) x k) 0 (by omega)
    obtain ⟨ra, q, rb, Fa, f, Fb, hrs, hFs, hra, _, hq, _, hrq⟩ := hin.focus 0 hsp (subs_length_take _ 0 (by omega))
    obtain ⟨g2, o2, p2, k0, k1⟩ := hin.raw.kids (by rw [hrs]; simp only [List.length_append, List.length_cons]; omega)
    have k2 : w1.cell? ⟨g2, o2, none⟩ = some (.pointer (some ⟨q, 0, none⟩)) := k1 0 q hrq
    rw [k0] at r0
    have hrl : rs.length = 1 := by have := hin.kids.lenR; rw [subs_length] at this; omega
    rw [hrl] at k0
    have hfG : ∀ b ∈ f, b ∈ G' := fun b hb => by
      rw [hG', hFs]
      simp [hb]
    have hct2 := hct1.setCell 0 (ptr q)
    have hat2 : At d (w1.setCell ⟨t, 0, none⟩ (ptr q)) q (sub (cutM (d + 1) x k) 0) f := hq.only (setCell_only w1 ⟨t, 0, none⟩ _) fun b hb e => by
      have e' : b = t := e
      exact htG' (e' ▸ hfG b hb)
    have hfin := tcut_fin hct2 hat2 (fun hb => htG' (hfG t hb)) hdown.1 hdown.2 HT.out.2.2.2.2.2.2.1 (hO.setCell (p := ⟨t, 0, none⟩) (.inl htF) _) (fun b hb => by
      rcases List.mem_cons.1 hb with rfl | hb
      · exact hS _ (by simp)
      · exact hS b (by simp [hfG b hb])) htF
    have HFIN := Lib.hid hfin
    clear hct1 htG' hat1 ho1 hf1 hm hO htF hS hcl hx1 hfit hdown hin hG' hsp hrs hFs hra hq hrq k1 hrl hfG hct2 hat2 hfin r0 c0
    unfold ptr at HFIN
    cases hk : hasK (keys l) k with
    | true =>
      have FF := Lib.hid (HFIN.out.2 hk)
      clear hk
      go_wp2_with fail
      go_ret
      exact FF.out
    | false =>
      have FF := Lib.hid (HFIN.out.1 hk)
      clear hk
      go_wp2_with fail
      go_ret
      exact FF.out
  · have hm1' : ((m : Int) == 1) = false := by rw [beq_eq_false_iff_ne]; omega
    have hm1'' : (m == 1) = false := by rw [beq_eq_false_iff_ne]; omega
    have hgood := good_cut HT.out.2.2.2.1 k (by
      have := HT.out.2.2.2.1.two
      omega)
    have hfin := tcut_fin hct1 hat1 htG' hgood HT.out.2.2.2.2.2.1.1 HT.out.2.2.2.2.2.2.1 hO hS htF
    have HFIN := Lib.hid hfin
    clear hct1 htG' hat1 ho1 hf1 hm hO htF hS hcl hgood hfin c0
    cases hk : hasK (keys l) k with
    | true =>
      have FF := Lib.hid (HFIN.out.2 hk)
      clear hk
      go_wp2_with fail
      go_ret
      exact FF.out
    | false =>
      have FF := Lib.hid (HFIN.out.1 hk)
      clear hk
      go_wp2_with fail
      go_ret
      exact FF.out
end Go.Proofs.Ytjmkfppnimengaa

/- A key is cut out of a tree: the walk at every level. Conditions: a tree in memory, its leaves rising. -/
import Derived.Test.YtjmkfppnimengaaTreeV
import Derived.StillTailTactics
namespace Go.Proofs.Ytjmkfppnimengaa
open Go.RowKit Go.Wh

theorem Keyed.still {d : Nat} {w0 w w' : World} {r : Nat} {ks : List Key} {rs : List Nat} {cs : List (Nd d)} {F0 : List Nat} {Fs : List (List Nat)} {cv : Value} {j : Nat} (h : Keyed w0 w r ks rs cs F0 Fs cv j) (hs : Still w w') : Keyed w0 w' r ks rs cs F0 Fs cv j :=
  ⟨h.inr.still hs, h.len, h.le, h.done, h.only.trans hs.only, Still.cell hs h.kids⟩

set_option maxHeartbeats 1000000 in
set_option maxRecDepth 100000 in
theorem cut_in (d : Nat) (ih : ∀ (w : World) (r : Nat) (l : Nd d) (F : List Nat) (k : Key), At d w r l F → CutAble d l → Calls Try.prog 25 #[ptr r, .string k] w (CutPost d w r l F k))
    (w : World) (r : Nat) (l : Nd (d + 1)) (F : List Nat) (k : Key) (h : At (d + 1) w r l F) (ha : CutAble (d + 1) l) :
    Calls Try.prog 25 #[ptr r, .string k] w (CutPost (d + 1) w r l F k) := by
  obtain ⟨rs, F0, Fs, hin, hFF⟩ := h.inr
  have hlen : rs.length = l.length := by have := hin.kids.lenR; rw [subs_length] at this; exact this
  have hkl := keys_length l
  obtain ⟨i, hi⟩ : ∃ i, childI (keys l) k = i := ⟨_, rfl⟩
  have hil : i < l.length := by rw [← hi]; exact child_lt ha.1 k
  have hal := ha.2.1
  obtain ⟨ra, q, rb, Fa, f, Fb, rfl, rfl, hra, sa, hq, sb, hrq⟩ := hin.focus i (subs_split l i hil) (subs_length_take l i hil)
  obtain ⟨n, hn⟩ : ∃ n, l.length = n := ⟨_, rfl⟩
  obtain ⟨rs, hrs⟩ : ∃ rs, ra ++ ([q] ++ rb) = rs := ⟨_, rfl⟩
  have HIN := Lib.hid hin
  rw [hrs] at hlen hin hrq
  obtain ⟨g2, o2, p2, k0, k1⟩ := hin.raw.kids (by omega)
  rw [hlen, hn] at k0
  have c3 : w.cell? ⟨g2, o2 + i, none⟩ = some (.pointer (some ⟨q, 0, none⟩)) := k1 i q hrq
  have t1 : ((n : Int) == 0) = false := by rw [beq_eq_false_iff_ne]; omega
  have b0 : (0 : Int) ≤ (i : Int) := by omega
  have b1 : (i : Int) < (n : Int) := by omega
  have HC := Lib.hid (child_any w r (keys l) [] rs F0 k hin.raw (by omega) (by omega) (by omega))
  have HP := Lib.hid (ih w q (sub l i) f k hq (cutAble_child ha hil).2.2)
  rw [hi] at HC
  have HFF := Lib.hid hFF
  have HF := Lib.hid (And.intro hi (And.intro hil (And.intro hlen (And.intro hn (And.intro hrs (And.intro hra hrq))))))
  have HS := Lib.hid (And.intro sa sb)
  have HA := Lib.hid ha
  have HK := Lib.hid hkl
  clear h hFF hin hlen hkl hil hal hn hrs hra hrq sa sb hq k1 ha hi ih
  unfold ptr at HP HC ⊢
  go_enter Try.func25, Try.ntmps25
  go_wp2_with fail
  refine HC.out.mono ?_
  rintro e w ⟨rfl, rfl⟩
  go_wp2_with fail
  refine HP.out.mono ?_
  rintro e w1 ⟨f', rfl, hq1, ho1, hf1⟩
  have hcl := cutAble_child HA.out HF.out.2.1
  have hpl := cutM_length d (sub l i) k (.inr (by omega))
  obtain ⟨c', hc'⟩ : ∃ c', cutM d (sub l i) k = c' := ⟨_, rfl⟩
  rw [hc'] at hq1 hpl
  have hin1 : Inr d w1 r (keys l) rs rs (cutC (fun c => cutM d c k) l i) F0 (Fa ++ ([f'] ++ Fb)) := by
    have h1 := HIN.out
    rw [subs_split l i HF.out.2.1] at h1
    have h2 := h1.turn HS.out.1 HS.out.2 (Sons.one hq1) (by simpa using hq1.nodup) (by simpa using ho1) (fun b hb => by
      have hb' : b ∈ f' := by simpa using hb
      rcases hf1 b hb' with h3 | h3
      · exact .inl (by simpa using h3)
      · exact .inr h3)
    rw [HF.out.2.2.2.2.1] at h2
    show Inr d w1 r (keys l) rs rs (subs (l.take i) ++ ([cutM d (sub l i) k] ++ subs (l.drop (i + 1)))) F0 (Fa ++ ([f'] ++ Fb))
    rw [hc']
    exact h2
  have hfine := cutC_fine (k := k) HA.out HF.out.2.1
  have hcn : (cutC (fun c => cutM d c k) l i).length = n := by rw [cutC_length _ _ _ HF.out.2.1]; exact HF.out.2.2.2.1
  obtain ⟨cs, hcs⟩ : ∃ cs, cutC (fun c => cutM d c k) l i = cs := ⟨_, rfl⟩
  rw [hcs] at hin1 hfine hcn
  obtain ⟨g0, o0, p0, x0, xg, x1, x2⟩ := hin1.raw.keysAt (by have := HK.out; have := HF.out.2.1; omega)
  obtain ⟨g3, o3, p3, y0, y1⟩ := hin1.raw.kids (by have := HF.out.2.2.1; have := HF.out.2.1; omega)
  obtain ⟨gl, ol, nl, pl, l0, ln, l1, lr, lg⟩ := hq1.least (by omega)
  rw [HK.out, HF.out.2.2.2.1] at x0
  rw [HF.out.2.2.1, HF.out.2.2.2.1] at y0
  have y2 : w1.cell? ⟨g3, o3 + i, none⟩ = some (.pointer (some ⟨q, 0, none⟩)) := y1 i q HF.out.2.2.2.2.2.2
  obtain ⟨kold, hko⟩ : ∃ a, (keys l)[i]? = some a := ⟨_, List.getElem?_eq_getElem (by have := HK.out; have := HF.out.2.1; omega)⟩
  have x3 := x1 i _ hko
  have x4 := x3.1
  have x5 := x3.2
  have x6 := x2 i (fk c') (by have := HK.out; have := HF.out.2.1; omega)
  have hin2 : Inr d (w1.setCell ⟨g0, o0 + i, none⟩ (.string (fk c'))) r ((keys l).set i (fk c')) rs rs cs F0 (Fa ++ ([f'] ++ Fb)) :=
    hin1.rawTurn x6 (Raw.setKey_only w1 xg _ _) (fun b hb => .inl hb)
  have ho2 : Only (fun b => b ∈ F) w (w1.setCell ⟨g0, o0 + i, none⟩ (.string (fk c'))) := (ho1.mono fun b hb => by rw [HFF.out]; exact List.mem_append_right _ (List.mem_flatten.2 ⟨f, by simp, hb⟩)).setCell (p := ⟨g0, o0 + i, none⟩) (.inl (by rw [HFF.out]; exact List.mem_append_left _ xg)) _
  have hsub : ∀ b ∈ F0 ++ (Fa ++ ([f'] ++ Fb)).flatten, b ∈ F ∨ w.heap.size ≤ b := fun b hb => by
    rw [HFF.out]
    simp only [List.flatten_append, List.flatten_cons, List.flatten_nil, List.append_nil, List.mem_append] at hb ⊢
    rcases hb with hb | hb | hb | hb
    · exact .inl (.inl hb)
    · exact .inl (.inr (.inl hb))
    · rcases hf1 b hb with h | h
      · exact .inl (.inr (.inr (.inl h)))
      · exact .inr h
    · exact .inl (.inr (.inr (.inr hb)))
  obtain ⟨W2, hW2⟩ : ∃ W2, w1.setCell ⟨g0, o0 + i, none⟩ (.string (fk c')) = W2 := ⟨_, rfl⟩
  rw [hW2] at hin2 ho2
  have hn90 : n ≤ 90 := by have := HA.out.2.1; have := HF.out.2.2.2.1; omega
  have hin : i < n := by have := HF.out.2.1; have := HF.out.2.2.2.1; omega
  have hkn : ((keys l).set i (fk c')).length = n := by rw [List.length_set]; have := HK.out; have := HF.out.2.2.2.1; omega
  have HI2 := Lib.hid (And.intro ho2 (And.intro hsub (And.intro hfine (And.intro hcn (And.intro hcs (And.intro hin hn90))))))
  have JN := Lib.hid (fun w' (hs : Still W2 w') => join_any d w' r _ rs cs F0 (Fa ++ ([f'] ++ Fb)) i (hin2.still hs) (hkn.trans hcn.symm) (by omega) (by omega) (fun c hc => by have := hfine c hc; omega))
  unfold ptr at JN
  have hnl : decide ((nl : Int) > 0) = true := by simp; omega
  have hnl' : decide (0 < nl) = true := by simp; omega
  clear hko hin1 hin2 ho2 xg hpl hf1 hcl hc' hsub x6 x1 x2 x3 y1 hq1 ho1 lr lg hfine hcn hcs hn90 hin hkn
  generalize hkf : fk c' = kf at *
  clear hkf
  generalize hbf : cutB d (sub l i) k = bf at *
  have HBF := Lib.hid (show cutB (d + 1) l k = bf from by unfold cutB; rw [HF.out.1, hbf])
  clear hbf k0 c3
  go_wp2_with fail
  go_still_tail 18, (by kernel_rfl)
  go_wp2_with fail
  (with_reducible refine (JN.out _ ?_).mono ?_)
  · exact Only.drew (Only.refl _ _)
  rintro e w3 ⟨ks3, rs3, F3, Fs3, rfl, hin3, hk3, ho3, hf3⟩
  have hj0 := joinC_length cs i (by have := HI2.out.2.2.2.1; have := HI2.out.2.2.2.2.2.1; omega)
  have hjp := joinC_pos (cs := cs) (i := i) (by have := HI2.out.2.2.2.1; have := HI2.out.2.2.2.2.2.1; omega) (fun c hc => (HI2.out.2.2.1 c hc).1)
  have hcut : cutM (d + 1) l k = reKey (joinC cs i) := by unfold cutM; rw [HF.out.1, HI2.out.2.2.2.2.1]
  obtain ⟨js, hjs⟩ : ∃ js, joinC cs i = js := ⟨_, rfl⟩
  rw [hjs] at hin3 hk3 hj0 hjp hcut
  have hrl : rs3.length = js.length := hin3.kids.lenR
  obtain ⟨g5, o5, p5, z0, _⟩ := hin3.raw.kids (by omega)
  rw [hrl] at z0
  obtain ⟨m, hm⟩ : ∃ m, js.length = m := ⟨_, rfl⟩
  rw [hm] at z0
  have K0 : Keyed w3 w3 r ks3 rs3 js F3 Fs3 (.slice (some ⟨g5, o5, none⟩) m p5) 0 := ⟨hin3, hk3, Nat.zero_le _, fun t ht => by omega, Only.refl _ _, z0⟩
  have HK0 := Lib.hid K0
  have hm90 : m ≤ 90 := by have := HI2.out.2.2.2.1; have := HI2.out.2.2.2.2.2.2; omega
  have HJ := Lib.hid (And.intro hm (And.intro hjp hm90))
  have FIN := Lib.hid (fun ks' wr (hw : Keyed w3 wr r ks' rs3 js F3 Fs3 (.slice (some ⟨g5, o5, none⟩) m p5) m) => show CutPost (d + 1) w r l F k (.returned (.bool bf)) wr from by
    have h1 := hw
    rw [← hm] at h1
    have hall : ∀ b, b ∈ F3 ++ Fs3.flatten → b ∈ F ∨ w.heap.size ≤ b := fun b hb => by
      rcases hf3 b hb with h | h
      · exact HI2.out.2.1 b h
      · exact .inr (Nat.le_trans HI2.out.1.size h)
    refine ⟨_, by rw [HBF.out], by rw [hcut]; exact h1.all, (HI2.out.1.andThen (ho3.undrew) fun b hb hb' => ?_).andThen hw.only fun b hb hb' => ?_, hall⟩
    · rcases HI2.out.2.1 b hb' with h | h
      · exact h
      · omega
    · rcases hall b (List.mem_append_left _ hb') with h | h
      · exact h
      · omega)
  clear hin3 hk3 ho3 hf3 hj0 hjp hcut hjs hrl hm hm90 K0
  go_wp2_with fail
  go_loopw [99] (fun s wr => ∃ (j : Nat) (ks' : List Key), s = .int .i64 j ∧ j ≤ m ∧ Keyed w3 wr r ks' rs3 js F3 Fs3 (.slice (some ⟨g5, o5, none⟩) m p5) j) (fun s _ => m - (intOf s).toNat)
  case atStart => exact ⟨0, ks3, rfl, Nat.zero_le _, HK0.out⟩
  case round =>
    obtain ⟨j, ks', rfl, hjm, hK⟩ := hrel
    by_cases hj : j < m
    · obtain ⟨q, g, o, c, gl, ol, nl, pl, kf, kold, v1, v2, v3, v4, v5, v6, v7, v8⟩ := hK.step (by have := HJ.out.1; omega) HJ.out.2.1
      rw [HJ.out.1] at v2
      have HK1 := Lib.hid v8
      have a1 : (0 : Int) ≤ (j : Int) := by omega
      have a2 : (j : Int) < (m : Int) := by omega
      have a3 : decide ((j : Int) < (m : Int)) = true := by simp; omega
      have a4 : decide (j < m) = true := by simp; omega
      have u9 : IntKind.i64.wrap ((j : Int) + 1) = (j : Int) + 1 := IntWalk.i64_in _ (by have := HJ.out.2.2; omega)
      clear v8 hK
      go_wp2_with fail
      go_still_tail 12, (by kernel_rfl)
      go_wp2_with fail
      go_roundw
      case rel => exact ⟨j + 1, _, by go_num, by omega, HK1.out.still (Only.refl _ _).drew⟩
      case measure => simp [intOf]; omega
    · have hge : j = m := by omega
      subst hge
      have FN := Lib.hid (FIN.out _ _ hK)
      have a3 : decide ((j : Int) < (j : Int)) = false := by simp
      clear hK
      go_wp2_with fail
      go_ret
      exact FN.out

theorem cut_any : ∀ (d : Nat) (w : World) (r : Nat) (l : Nd d) (F : List Nat) (k : Key), At d w r l F → CutAble d l → Calls Try.prog 25 #[ptr r, .string k] w (CutPost d w r l F k)
  | 0, w, r, l, F, k, h, ha => cut_zero w r l F k h ha
  | d + 1, w, r, l, F, k, h, ha => cut_in d (cut_any d) w r l F k h ha

theorem put_any : ∀ (d : Nat) (w : World) (r : Nat) (l : Nd d) (F : List Nat) (k : Key) (v : Rid), At d w r l F → Able d l → Calls Try.prog 27 #[ptr r, .string k, ridV v] w (PutPost d w r l F k v)
  | 0, w, r, l, F, k, v, h, ha => put_zero w r l F k v h ha
  | d + 1, w, r, l, F, k, v, h, ha => put_in d (put_any d) w r l F k v h ha
end Go.Proofs.Ytjmkfppnimengaa

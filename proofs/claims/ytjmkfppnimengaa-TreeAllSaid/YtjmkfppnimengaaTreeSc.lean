/- Shape of a tree as it is held: the walk. Conditions: a tree in memory. -/
import Derived.Test.YtjmkfppnimengaaTreeSb
namespace Go.Proofs.Ytjmkfppnimengaa
open Go.RowKit Go.Wh

theorem info_i : (Try.prog.info? 3).map (fun i => (i.zero, i.size, i.bytes)) = some (some (.int .i64 0), 1, 8) := by kernel_rfl
theorem info_is : (Try.prog.info? 54).map (fun i => (i.zero, i.size, i.bytes)) = some (some (.slice none 0 0), 1, 24) := by kernel_rfl

theorem shO_start {w : World} {d r : Nat} {x : Nd d} {G : List Nat} {l : Nd 0} (hat : At d w r x G) (hg : Good d x) (hf : flat d x = l) (tt : TypeId) :
    ShO w l.length (shp d [x]) (.slice none 0 0) (.slice (some ⟨w.heap.size, 0, none⟩) 1 1) [] (shp d [x]) [] [r] (w.alloc (.cells #[ptr r] tt)) := by
  have hc := cellsAt_new w [ptr r] tt
  have hs : Still w (w.alloc (.cells #[ptr r] tt)) := (Still.refl w).alloc _
  refine ⟨rfl, hs, Vec.nil _ _, (by intro g h; cases h), ⟨rfl, fun i p s h => by simp at h⟩, (by intro v h; cases h), ?_, .inr ⟨d, [x], [G], Sons.one (hat.only hs fun _ _ e => e), by simp, rfl, ?_, ?_, ?_⟩, by simp⟩
  · obtain ⟨t, hb⟩ := hc
    have := vecAt_block (size := 1) (n := 1) (cap := 1) hb (by simp) (Nat.le_refl _) (by simp [maxLen])
    exact .inr ⟨w.heap.size, 0, 1, rfl, by simpa [pcells] using this⟩
  · intro u hu
    simp at hu
    subst hu
    exact ⟨hg.fit, hg.nonempty⟩
  · rw [flatC_one, hf]
    exact Nat.le_refl _
  · intro f hf b hb
    simp at hf
    subst hf
    exact hat.lt b hb

set_option maxHeartbeats 1000000 in
set_option maxRecDepth 100000 in
theorem tshape (w : World) (t : Nat) (l : Nd 0) (F : List Nat) (h : TreeAt w t l F) (hl : l.length ≤ 90000) :
    Calls Try.prog 20 #[ptr t] w (TShape w l) := by
  obtain ⟨d, r, x, G, hc, hat, hF, htG, hg, hfl⟩ := h
  have c0 : w.cell? ⟨t, 0, none⟩ = some (.pointer (some ⟨r, 0, none⟩)) := hc.cell 0
  have hdep := good_depth hg
  have hsl := shp_length d [x]
  obtain ⟨total, htot⟩ : ∃ total, shp d [x] = total := ⟨_, rfl⟩
  have H0 := Lib.hid (fun tt => shO_start hat hg hfl tt)
  rw [htot] at H0 hsl
  rw [hfl] at hdep
  obtain ⟨len, hlen⟩ : ∃ len, l.length = len := ⟨_, rfl⟩
  rw [hlen] at H0 hl hdep
  have HX := Lib.hid (And.intro htot (And.intro hg (And.intro hfl (And.intro hl (And.intro hsl hdep)))))
  obtain ⟨i0, hi0, hz0, hz1, hz2⟩ := info_parts info_i
  obtain ⟨i1, hi1, hy0, hy1, hy2⟩ := info_parts info_is
  obtain ⟨i2, hi2, hx0, hx1, hx2⟩ := info_parts info_n
  have HI := Lib.hid (And.intro hi0 (And.intro hz0 (And.intro hz1 hz2)))
  have HJ := Lib.hid (And.intro hi1 (And.intro hy0 (And.intro hy1 hy2)))
  have HK := Lib.hid (And.intro hi2 (And.intro hx0 (And.intro hx1 hx2)))
  clear hi0 hz0 hz1 hz2 hi1 hy0 hy1 hy2 hi2 hx0 hx1 hx2 hc hat hF htG hg hfl hdep hsl htot hlen hl
  unfold ptr at H0
  unfold ptr
  go_enter Try.func20, Try.ntmps20
  go_wp2_with fail
  have H1 := Lib.hid (H0.out 55)
  clear H0 c0
  go_loopw [3, 4] (fun out lv wr => ∃ ss rest ps rs, ShO w len total out lv ss rest ps rs wr) (fun out _ _ => total.length - lenOf out)
  case atStart => exact ⟨_, _, _, _, H1.out⟩
  case round =>
    clear H1
    obtain ⟨ss, rest, ps, rs, hO⟩ := hrel
    obtain ⟨oa, oc, rfl⟩ := hO.o.form'
    obtain ⟨n, hn⟩ : ∃ n, rs.length = n := ⟨_, rfl⟩
    by_cases hn0 : n = 0
    · have hrs : rs = [] := List.length_eq_zero_iff.1 (by omega)
      obtain ⟨la, lc, rfl⟩ := hO.lv.form'
      rw [hn, hn0]
      have FN := Lib.hid (show TShape w l (.returned (.slice oa ss.length oc)) wr from by
        have hrest : rest = [] := by
          rcases hO.lvl with ⟨_, h⟩ | ⟨_, _, _, _, h, _⟩
          · exact h
          · exact absurd hrs h
        have hss : ss = total := by have := hO.sum; rw [hrest, List.append_nil] at this; exact this
        have ho := hO.o
        have hr := hO.rows
        rw [hss, ← HX.out.1] at ho hr
        rw [hss, ← HX.out.1]
        rw [hss, ← HX.out.1] at hO
        exact ⟨_, ps, d, x, rfl, ho, hr, hO.oown, hO.one, hO.still, HX.out.2.1, HX.out.2.2.1⟩)
      clear hO hn0 hn hrs
      go_wp2_with fail
      go_ret
      exact FN.out
    · have hne : rs ≠ [] := fun e => by rw [e] at hn; simp at hn; omega
      obtain ⟨sz, rss, rest', hrest, hsz, hrl, hsm, hnode, hlv⟩ := hO.lvl.step hne
      obtain ⟨lg, lo, lc, rfl, hlvv⟩ := hO.lv.form (by omega)
      rw [hn] at hlvv hsz hrl ⊢
      have hsl : ss.length ≤ len + 1 := by
        have h1 := congrArg List.length hO.sum
        have := HX.out
        rw [List.length_append] at h1
        omega
      have hsmall := hO.small
      have HO := Lib.hid hO
      have HR := Lib.hid (And.intro hrest (And.intro hsz (And.intro hrl (And.intro hsm (And.intro hlv (And.intro hsl (And.intro hsmall hn)))))))
      have HN := Lib.hid (fun (j : Nat) (hj : j < n) => show ∃ r' kk kids ka kc, sz[j]? = some kk ∧ rss[j]? = some kids ∧ ∀ w', Still wr w' → w'.cell? ⟨lg, lo + j, none⟩ = some (.pointer (some ⟨r', 0, none⟩)) ∧ w'.cell? ⟨r', 2, none⟩ = some (.slice ka kids.length kc) ∧ Reads w' 1 (.slice ka kids.length kc) kids.length (pcells kids) ∧ ∃ ks vs cs F0, Raw w' r' ks vs cs F0 ∧ max cs.length vs.length = kk from by
        obtain ⟨r', hr'⟩ : ∃ r', rs[j]? = some r' := ⟨_, List.getElem?_eq_getElem (by omega)⟩
        obtain ⟨kk, kids, h1, h2, ⟨⟨ka, kc, h3, h4⟩, ks, vs, cs, F0, h5, h6⟩⟩ := hnode j r' hr'
        refine ⟨r', kk, kids, ka, kc, h1, h2, fun w' hs => ⟨?_, Still.cell hs h3, (h4.only hs fun _ _ e => e).reads, ks, vs, cs, F0, h5.still hs, h6⟩⟩
        refine Still.cell hs ?_
        rw [hlvv.cell j (by omega)]
        exact pcells_get hr')
      have t1 : decide ((n : Int) > 0) = true := by simp; omega
      have t2 : decide (0 < n) = true := by simp; omega
      have HI0 := Lib.hid (ShI.start wr sz rss)
      clear hO hrest hsz hrl hsm hnode hlv hlvv hsl hsmall hne
      go_wp2_with fail
      obtain ⟨w1, rfl⟩ : ∃ w1 : World, w1 = wr := ⟨_, rfl⟩
      go_loopw [5, 6, 19] (fun sv nv s wr => ∃ j : Nat, s = .int .i64 j ∧ j ≤ n ∧ ShI w1 sz rss sv nv j wr) (fun _ _ s _ => n - (intOf s).toNat)
      case atStart => exact ⟨0, rfl, Nat.zero_le _, HI0.out⟩
      case round =>
        obtain ⟨j, rfl, hjn, hi⟩ := hrel
        obtain ⟨sa, sc, rfl⟩ := hi.s.form'
        obtain ⟨m, hm⟩ : ∃ m, (rss.take j).flatten.length = m := ⟨_, rfl⟩
        obtain ⟨na, nc, hnv⟩ := hi.n.form'
        rw [hm] at hnv
        subst hnv
        by_cases hj : j < n
        · obtain ⟨r', kk, kids, ka, kc, y1, y2, yw⟩ := HN.out j hj
          obtain ⟨y0, _, _, ks, vs, cs, F0, y6, y7⟩ := yw wr hi.still
          have HZ := size_any wr r' ks vs cs F0 y6
          rw [y7] at HZ
          have HZ' := Lib.hid HZ
          have HJ1 := Lib.hid hi
          have HY := Lib.hid (And.intro y1 (And.intro y2 yw))
          have hkids : m + kids.length ≤ len := by
            have h1 := HR.out.2.2.2.1
            have h2 : rss.flatten = (rss.take j).flatten ++ (kids ++ (rss.drop (j + 1)).flatten) := by
              have h3 := List.take_append_drop j rss
              rw [List.drop_eq_getElem_cons (by have := HR.out.2.2.1; omega), (List.getElem?_eq_some_iff.1 y2).2] at h3
              conv => lhs; rw [← h3]
              simp
            rw [h2, List.length_append, List.length_append, hm] at h1
            omega
          have HKL := Lib.hid (And.intro hkids hm)
          have a1 : decide ((j : Int) < (n : Int)) = true := by simp; omega
          have a2 : decide (j < n) = true := by simp; omega
          have a3 : (0 : Int) ≤ (j : Int) := by omega
          have a4 : (j : Int) < (n : Int) := by omega
          have u9 : IntKind.i64.wrap ((j : Int) + 1) = (j : Int) + 1 := IntWalk.i64_in _ (by have := HR.out; have := HX.out; omega)
          clear HZ hi y1 y2 yw y6 y7 hkids hm
          unfold ptr at HZ'
          go_wp2_with fail
          refine HZ'.out.mono ?_
          rintro e w2 ⟨rfl, hs2⟩
          have HS2 := Lib.hid hs2
          have HA := Lib.hid (fun tt => HJ1.out.first (n := kk) hs2 tt)
          clear hs2
          go_wp2_with (first
            | (at_builtin; refine wpList_append_vec rfl _ _ 54 rfl 3 i0 _ 1 8 Try.underlying54 HI.out.1 HI.out.2.1 HI.out.2.2.1 HI.out.2.2.2 rfl (by decide) _ _ _ rfl (HA.out _).1 _ 1 _ rfl (HA.out _).2 (icells_one [kk]) (by have := HR.out; have := HX.out; simp only [maxLen]; omega) (by have := HR.out; have := HX.out; omega) ?_; intro v' w3 hv' ho' hb'; obtain ⟨z1, z2⟩ := HJ1.out.second HS2.out ho'; rw [HKL.out.2] at z2; obtain ⟨_, z3, z4, _⟩ := HY.out.2.2 w3 z1; have HB := Lib.hid (And.intro hv' (And.intro ho' (And.intro hb' (And.intro z2 z4)))); clear hv' ho' hb' z1 z2 z4)
            | (at_builtin; refine wpList_append_vec rfl _ _ 58 rfl 55 i2 _ 1 8 Try.underlying58 HK.out.1 HK.out.2.1 HK.out.2.2.1 HK.out.2.2.2 rfl (by decide) _ _ _ rfl HB.out.2.2.2.1 _ _ _ rfl HB.out.2.2.2.2 (pcells_one kids) (by have := HKL.out; have := HX.out; simp only [maxLen]; omega) (by have := HKL.out; have := HX.out; omega) ?_; intro nv' w4 hn' hm' hp'; have HNX := Lib.hid (HJ1.out.third HS2.out HY.out.1 HY.out.2.1 HB.out.1 HB.out.2.1 HB.out.2.2.1 (by rw [HKL.out.2]; exact hn') hm' hp'); clear hn' hm' hp'))
          go_roundw
          case rel => exact ⟨j + 1, by go_num, by omega, HNX.out⟩
          case measure => simp [intOf]; omega
        · have hge : j = n := by omega
          subst hge
          have hjs := HR.out.2.1
          have hi' : ShI w1 sz rss (.slice sa j sc) (.slice na m nc) sz.length wr := by rw [hjs]; exact hi
          have HJ1 := Lib.hid hi'
          have HV := Lib.hid (fun tt => show Vec (wr.alloc (.cells #[Value.slice sa j sc] tt)) 1 (.slice oa ss.length oc) ss.length ps ∧ Reads (wr.alloc (.cells #[Value.slice sa j sc] tt)) 1 (.slice (some ⟨wr.heap.size, 0, none⟩) 1 1) 1 [.slice sa j sc] from
            ⟨(HO.out.o.only HJ1.out.still fun _ _ e => e).alloc _, (cellsAt_new wr [Value.slice sa j sc] tt).reads rfl⟩)
          have a1 : decide ((j : Int) < (j : Int)) = false := by simp
          clear hi hi' hjs hm
          go_wp2_with (at_builtin; (refine wpList_append_vec rfl _ _ 41 rfl 54 i1 _ 1 24 Try.underlying41 HJ.out.1 HJ.out.2.1 HJ.out.2.2.1 HJ.out.2.2.2 rfl (by decide) _ _ _ rfl (HV.out _).1 _ 1 _ rfl (HV.out _).2 (by intro u hu; simp at hu; rw [hu]; rfl) (by have := HR.out; have := HX.out; simp only [maxLen]; omega) (by have := HR.out; have := HX.out; omega) ?_; intro v' w3 hv' ho' hb'; have HNX := Lib.hid (HO.out.next HR.out.1 HJ1.out (HR.out.2.2.1.trans HR.out.2.1.symm) HR.out.2.2.2.2.1 HR.out.2.2.2.1 hv' ho' hb'); clear hv' ho' hb'))
          go_roundw
          case rel => exact ⟨_, _, _, _, HNX.out⟩
          case measure =>
            obtain ⟨a, c, e⟩ := HNX.out.o.form'
            have h1 := congrArg List.length HO.out.sum
            rw [List.length_append, HR.out.1, List.length_cons] at h1
            rw [e]
            simp only [lenOf, List.length_append, List.length_cons, List.length_nil]
            omega
end Go.Proofs.Ytjmkfppnimengaa

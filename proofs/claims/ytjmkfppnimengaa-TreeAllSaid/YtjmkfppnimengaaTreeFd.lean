/- From of a tree as it is held. Conditions: a tree in memory. -/
import Derived.Test.YtjmkfppnimengaaTreeFc
import Derived.Laws.ResultCell
namespace Go.Proofs.Ytjmkfppnimengaa
open Go.RowKit Go.Wh

theorem from_any : ∀ (d : Nat), FromOK d
  | 0 => fun w r x G k mb kb vb most a N h _ _ h4 hs hG hg ha => from_zero w r x G k mb kb vb most a N h (by omega) hs hG hg ha
  | d + 1 => from_in d (from_any d)

theorem results_cell2 {fn : Func} {p q : Tmp} {ty tz : TypeId} (h : fn.results = #[.cell p ty, .cell q tz]) (tmps : Array Value) (P : Program) (w : World) :
    (results fn tmps).run P w =
      ((asAddr (tmps.getD p undef)).run P w).andThen fun a w₁ => ((loadVar ty a).run P w₁).andThen fun v w₂ => ((asAddr (tmps.getD q undef)).run P w₂).andThen fun b w₃ => ((loadVar tz b).run P w₃).andThen fun u w₄ => .ok (.tuple #[v, u]) w₄ := by
  simp only [results, h]
  simp [Sem.run_bind, Result.andThen]

/-- What From tells. -/
def fromL (l : Nd 0) (k : Key) (most : Int) : Nd 0 := (gather most [] (l.drop (pos (keys l) k))).1
structure Told (w w' : World) (res : Nd 0) (kv vv : Value) : Prop where
  k : Vec w' 1 kv res.length (kcells (keys res))
  v : Vec w' 2 vv res.length (rcells (vals res))
  ok : ∀ g, kv.ownBlock = some g → w.heap.size ≤ g ∧ g < w'.heap.size
  ov : ∀ g, vv.ownBlock = some g → w.heap.size ≤ g ∧ g < w'.heap.size
  ap : ∀ g, kv.ownBlock = some g → vv.ownBlock ≠ some g
  still : Still w w'
def TFrom (w : World) (l : Nd 0) (k : Key) (most : Int) (e : Ending) (w' : World) : Prop := ∃ kv vv, e = .returned (.tuple #[kv, vv]) ∧ Told w w' (fromL l k most) kv vv

theorem gath_new (w : World) (most : Int) (t1 t2 t3 : TypeId) : Gath (((w.alloc (.cells #[.int .i64 most] t1)).alloc (.cells #[.slice none 0 0] t2)).alloc (.cells #[.slice none 0 0] t3)) w.heap.size (w.heap.size + 1) (w.heap.size + 1 + 1) most [] w.heap.size := by
  have a1 := cellsAt_new w [.int .i64 most] t1
  have a2 := cellsAt_new (w.alloc (.cells #[.int .i64 most] t1)) [.slice none 0 0] t2
  have a3 := cellsAt_new ((w.alloc (.cells #[.int .i64 most] t1)).alloc (.cells #[.slice none 0 0] t2)) [.slice none 0 0] t3
  have z1 : (w.alloc (.cells #[.int .i64 most] t1)).heap.size = w.heap.size + 1 := by simp
  have z2 : ((w.alloc (.cells #[.int .i64 most] t1)).alloc (.cells #[.slice none 0 0] t2)).heap.size = w.heap.size + 1 + 1 := by simp
  rw [z1] at a2
  rw [z2] at a3
  exact ⟨.slice none 0 0, .slice none 0 0, (a1.alloc _).alloc _, a2.alloc _, a3, Vec.nil _ _, Vec.nil _ _, (by intro g h; cases h), (by intro g h; cases h), (by intro g h; cases h), by omega, by omega, by omega, by omega⟩

set_option maxHeartbeats 1000000 in
set_option maxRecDepth 100000 in
theorem tfrom (w : World) (t : Nat) (l : Nd 0) (F : List Nat) (k : Key) (most : Int) (h : TreeAt w t l F) (hl : l.length ≤ 90000) :
    Calls Try.prog 21 #[ptr t, .string k, .int .i64 most] w (TFrom w l k most) := by
  obtain ⟨d, r, x, G, hc, hat, hF, htG, hg, hfl⟩ := h
  have hfm := fromM_flat d x k hg.fit hg.nonempty hg.ks
  rw [hfl] at hfm
  have c0 : ∀ A B C, (((w.alloc A).alloc B).alloc C).cell? ⟨t, 0, none⟩ = some (.pointer (some ⟨r, 0, none⟩)) := fun A B C => (((hc.alloc A).alloc B).alloc C).cell 0
  have S3 : ∀ A B C, Still w (((w.alloc A).alloc B).alloc C) := fun A B C => (((Still.refl w).alloc A).alloc B).alloc C
  have HP := Lib.hid (fun t1 t2 t3 => from_any d (((w.alloc (.cells #[.int .i64 most] t1)).alloc (.cells #[.slice none 0 0] t2)).alloc (.cells #[.slice none 0 0] t3)) r x G k w.heap.size (w.heap.size + 1) (w.heap.size + 1 + 1) most [] w.heap.size
    (hat.only (S3 _ _ _) fun _ _ e => e) hg.fit hg.nonempty hg.four hg.ks hat.lt (gath_new w most t1 t2 t3) (by rw [hfl]; simpa using hl))
  have HS3 := Lib.hid S3
  have HX := Lib.hid hfm
  clear hc hat hF htG hg hfl hfm S3
  unfold clo ptr at HP
  unfold ptr
  go_enter Try.func21, Try.ntmps21
  go_wp2_with fail
  refine (HP.out _ _ _).mono ?_
  rintro e w2 ⟨rfl, hg2, ho2⟩
  rw [HX.out] at hg2
  have SW := Lib.hid ((HS3.out (.cells #[.int .i64 most] 3) (.cells #[.slice none 0 0] 27) (.cells #[.slice none 0 0] 28)).size)
  have hst : Still w w2 := by
    have h1 : Only (fun b => w.heap.size ≤ b) w w2 := ((HS3.out (.cells #[.int .i64 most] 3) (.cells #[.slice none 0 0] 27) (.cells #[.slice none 0 0] 28)).only (S := fun b => w.heap.size ≤ b)).trans ho2
    exact ⟨h1.os, h1.tape, h1.output, h1.size, fun i hi _ => h1.block i hi (by omega)⟩
  obtain ⟨kv, vv, hgv⟩ := hg2
  have hres : (gather most [] (l.drop (pos (keys l) k))).1 = fromL l k most := rfl
  rw [hres] at hgv
  obtain ⟨n, hn⟩ : ∃ n, (fromL l k most).length = n := ⟨_, rfl⟩
  obtain ⟨ka, kc, rfl⟩ := hgv.kk.form'
  obtain ⟨va, vc, rfl⟩ := hgv.vk.form'
  have hk0 := hgv.k
  have hv0 := hgv.v
  have h1 := hgv.nm
  have h2 := hgv.n3
  have hold := hgv.ok
  have hovd := hgv.ov
  have hbl : w.heap.size + 1 + 1 < w2.heap.size := hv0.lt
  have hTold : Told w ((w2.setCell ⟨w.heap.size + 1, 0, none⟩ (.slice ka (fromL l k most).length kc)).setCell ⟨w.heap.size + 1 + 1, 0, none⟩ (.slice va (fromL l k most).length vc)).drew (fromL l k most) (.slice ka (fromL l k most).length kc) (.slice va (fromL l k most).length vc) := by
    have hz : ((w2.setCell ⟨w.heap.size + 1, 0, none⟩ (.slice ka (fromL l k most).length kc)).setCell ⟨w.heap.size + 1 + 1, 0, none⟩ (.slice va (fromL l k most).length vc)).drew.heap.size = w2.heap.size := by simp [World.setCell]
    refine ⟨(vec_set (vec_set hgv.kk (p := ⟨w.heap.size + 1, 0, none⟩) (fun e => (hold _ e).2.2.2.1 rfl) _) (p := ⟨w.heap.size + 1 + 1, 0, none⟩) (fun e => (hold _ e).2.2.2.2 rfl) _).drew, (vec_set (vec_set hgv.vk (p := ⟨w.heap.size + 1, 0, none⟩) (fun e => (hovd _ e).2.2.2.1 rfl) _) (p := ⟨w.heap.size + 1 + 1, 0, none⟩) (fun e => (hovd _ e).2.2.2.2 rfl) _).drew,
      fun g hg => by rw [hz]; have := hold g hg; omega, fun g hg => by rw [hz]; have := hovd g hg; omega, hgv.ap, ?_⟩
    exact (Only.setCell (Only.setCell hst (p := ⟨w.heap.size + 1, 0, none⟩) (.inr (by simp)) _) (p := ⟨w.heap.size + 1 + 1, 0, none⟩) (.inr (by simp; omega)) _).drew
  have s0 : w2.cell? ⟨w.heap.size + 1, 0, none⟩ = some (.slice ka n kc) := by rw [← hn]; exact hk0.cell 0
  have s1 : w2.cell? ⟨w.heap.size + 1 + 1, 0, none⟩ = some (.slice va n vc) := by rw [← hn]; exact hv0.cell 0
  have s2 : w2.frozen? ⟨w.heap.size + 1, 0, none⟩ = false := hk0.free 0
  have s3 : w2.frozen? ⟨w.heap.size + 1 + 1, 0, none⟩ = false := hv0.free 0
  have s4 : ∀ u, (w2.setCell ⟨w.heap.size + 1, 0, none⟩ u).cell? ⟨w.heap.size + 1 + 1, 0, none⟩ = some (.slice va n vc) := fun u => by
    rw [← hn]
    exact (hv0.setOther (p := ⟨w.heap.size + 1, 0, none⟩) (Ne.symm h2) u).cell 0
  have s5 : ∀ u, (w2.setCell ⟨w.heap.size + 1, 0, none⟩ u).frozen? ⟨w.heap.size + 1 + 1, 0, none⟩ = false := fun u => (hv0.setOther (p := ⟨w.heap.size + 1, 0, none⟩) (Ne.symm h2) u).free 0
  rw [hn] at hTold
  have HT := Lib.hid hTold
  have HR := Lib.hid (show ∀ A B, ((w2.setCell ⟨w.heap.size + 1, 0, none⟩ A).setCell ⟨w.heap.size + 1 + 1, 0, none⟩ B).cell? ⟨w.heap.size + 1, 0, none⟩ = some A from fun A B => by
    exact ((hk0.setCell 0 A).setOther (p := ⟨w.heap.size + 1 + 1, 0, none⟩) h2 _).cell 0)
  have HR2 := Lib.hid (show ∀ A B, ((w2.setCell ⟨w.heap.size + 1, 0, none⟩ A).setCell ⟨w.heap.size + 1 + 1, 0, none⟩ B).cell? ⟨w.heap.size + 1 + 1, 0, none⟩ = some B from fun A B => by
    exact ((hv0.setOther (p := ⟨w.heap.size + 1, 0, none⟩) (Ne.symm h2) A).setCell 0 B).cell 0)
  clear hk0 hv0 h1 h2 hold hovd hTold hgv hn hres ho2 hst HP HX HS3 SW c0 hbl
  go_wp2_with fail
  refine wp_region_D_drew (D := (fun i => [0, 1, 2, 3].contains i)) (S := (fun _ => True)) (by kernel_rfl) ?_ (fun hHeld => ?_)
  · ((try dsimp only) <;> (trivial))
  refine wpAnyD_ready (rs := [0, 1]) (by kernel_rfl) (by simp) ?_
  refine ReadyD.last rfl (by rfl) (fun K hK => ?_) ?_
  go_simp
  refine hK.out _ _ ?_
  (clear hK K; try go_frame)
  refine wpAnyD_ready (rs := [1, 2]) (by kernel_rfl) (by simp) ?_
  refine ReadyD.last rfl (by rfl) (fun K hK => ?_) ?_
  go_simp
  refine hK.out _ _ ?_
  (clear hK K; try go_frame)
  refine wpAnyD_ready (rs := [2]) (by kernel_rfl) (by simp) ?_
  refine ReadyD.last rfl (by rfl) (fun K hK => ?_) ?_
  go_simp
  refine hK.out _ _ ?_
  (clear hK K; try go_frame)
  refine wpAnyD_ready (rs := [3]) (by kernel_rfl) (by simp) ?_
  refine ReadyD.last rfl (by rfl) (fun K hK => ?_) ?_
  go_simp
  refine hK.out _ _ ?_
  (clear hK K; try go_frame)
  refine wpAnyD_done (by kernel_rfl) ?_ _
  rotate_left
  exact ReadyD.nil
  exact ReadyD.nil
  refine ReadyD.last rfl (by rfl) (fun K hK => ?_) ?_
  go_simp
  refine hK.out _ _ ?_
  (clear hK K; try go_frame)
  refine wpAnyD_ready (rs := [1]) (by kernel_rfl) (by simp) ?_
  refine ReadyD.last rfl (by rfl) (fun K hK => ?_) ?_
  go_simp
  refine hK.out _ _ ?_
  (clear hK K; try go_frame)
  refine wpAnyD_ready (rs := [3]) (by kernel_rfl) (by simp) ?_
  refine ReadyD.last rfl (by rfl) (fun K hK => ?_) ?_
  go_simp
  refine hK.out _ _ ?_
  (clear hK K; try go_frame)
  refine wpAnyD_done (by kernel_rfl) ?_ _
  rotate_left
  exact ReadyD.nil
  exact ReadyD.nil
  exact ReadyD.nil
  refine ReadyD.last rfl (by rfl) (fun K hK => ?_) ?_
  go_simp
  refine hK.out _ _ ?_
  (clear hK K; try go_frame)
  refine wpAnyD_ready (rs := [0]) (by kernel_rfl) (by simp) ?_
  refine ReadyD.last rfl (by rfl) (fun K hK => ?_) ?_
  go_simp
  refine hK.out _ _ ?_
  (clear hK K; try go_frame)
  refine wpAnyD_ready (rs := [2]) (by kernel_rfl) (by simp) ?_
  refine ReadyD.last rfl (by rfl) (fun K hK => ?_) ?_
  go_simp
  refine hK.out _ _ ?_
  (clear hK K; try go_frame)
  refine wpAnyD_ready (rs := [3]) (by kernel_rfl) (by simp) ?_
  refine ReadyD.last rfl (by rfl) (fun K hK => ?_) ?_
  go_simp
  refine hK.out _ _ ?_
  (clear hK K; try go_frame)
  refine wpAnyD_done (by kernel_rfl) ?_ _
  rotate_left
  exact ReadyD.nil
  exact ReadyD.nil
  exact ReadyD.nil
  exact ReadyD.nil
  all_goals
    go_wp2_with fail
    (try simp only [Exit.inBlock, Exit.then])
    refine bodyPost_ret (v := .tuple #[.slice ka n kc, .slice va n vc]) ?_ rfl ⟨_, _, rfl, HT.out⟩
    rw [results_cell2 rfl]
    have q1 := HR.out
    have q2 := HR2.out
    go_simp
end Go.Proofs.Ytjmkfppnimengaa

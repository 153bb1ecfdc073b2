/- Cut of an index. Conditions: an index in memory, of at most a thousand rows. Put of an index. Conditions: an index in memory, of at most a thousand rows. Seek of an index: the rows of a second key. Conditions: an index in memory, of at most a thousand rows. -/
import Derived.Test.YtedfijmaeoednaaGreatDoorBx24
import Derived.Deep.DeepCutAuto
namespace Go.Proofs.YtedfijmaeoednaaGreatDoor
open Go.RowKit Go.Wh Go.Proofs.YtedfijmaeoednaaGreatDoor.Tw

theorem Two.len_le {R : List Rw} {l : Nd 0} (h : Two R l) (hl : R.length ≤ 1000) : l.length ≤ 100000 := by have := h.len; omega

/-- Both trees have turned. -/
theorem IxV.post12 {w w1 w2 w3 w4 : World} {x : Nat} {R R' : List Rw} {a b : Nat} {F1 F1' F2 F2' : List Nat} {l l' : Nd 0} {v : Value} (hs : Still w w1) (h : IxV w1 x R a b F1 F2 l) (h1 : Ke.TreeAt w2 a (one R') F1') (ho : Only (fun c => c ∈ F1) w1 w2) (hn : ∀ c ∈ F1', c ∈ F1 ∨ w1.heap.size ≤ c)
    (hs2 : Still w2 w3) (h2 : TreeAt w4 b l' F2') (ho2 : Only (fun c => c ∈ F2) w3 w4) (hn2 : ∀ c ∈ F2', c ∈ F2 ∨ w3.heap.size ≤ c) (h3 : Two R' l') (hf : Fits R') : IxPost w x (x :: (F1 ++ F2)) R' v (.returned v) w4 := by
  have hnd := List.nodup_cons.1 h.nd
  have hap := List.nodup_append.1 hnd.2
  have hlt := h.lt
  have o12 : Only (fun c => c ∈ F1 ∨ c ∈ F2) w1 w4 := ((ho.mono fun c e => .inl e).trans hs2.only).trans (ho2.mono fun c e => .inr e)
  have z2 := ho.size
  have z3 := hs2.size
  have z4 := ho2.size
  have t1 : Ke.TreeAt w4 a (one R') F1' := (h1.still hs2).only ho2 fun c hc e => by
    rcases hn c hc with e' | e'
    · exact hap.2.2 c e' c e rfl
    · have := hlt c (by simp [e]); omega
  refine ⟨x :: (F1' ++ F2'), rfl, ⟨a, b, F1', F2', l', ⟨h.cells.only o12 fun e => hnd.1 (by simpa using e), t1, h2, h3, ?_, ?_, hf, HasM.only h.m o12 fun e => by have := h.pos 0 (by simp [e]); omega⟩, rfl⟩, (hs.only.trans (o12.mono fun c hc => by simp [hc])), fun c hc => ?_⟩
  · have hx := hlt x (by simp)
    refine List.nodup_cons.2 ⟨fun e => ?_, List.nodup_append.2 ⟨t1.nodup, h2.nodup, fun c hc d hd e => ?_⟩⟩
    · rcases List.mem_append.1 e with e | e
      · rcases hn x e with e | e
        · exact hnd.1 (by simp [e])
        · omega
      · rcases hn2 x e with e | e
        · exact hnd.1 (by simp [e])
        · omega
    · subst e
      have hc4 := h1.lt c hc
      rcases hn2 c hd with e | e
      · rcases hn c hc with e' | e'
        · exact hap.2.2 c e' c e rfl
        · have := hlt c (by simp [e]); omega
      · omega
  · intro c hc
    have h0 := hasM_pos h.m
    simp only [List.mem_cons, List.mem_append] at hc
    rcases hc with rfl | hc | hc
    · exact h.pos _ (by simp)
    · rcases hn c hc with e | e
      · exact h.pos c (by simp [e])
      · omega
    · rcases hn2 c hc with e | e
      · exact h.pos c (by simp [e])
      · omega
  · have hsz := hs.size
    simp only [List.mem_cons, List.mem_append] at hc ⊢
    rcases hc with hc | hc | hc
    · exact .inl (.inl hc)
    · rcases hn c hc with h | h
      · exact .inl (.inr (.inl h))
      · exact .inr (by omega)
    · rcases hn2 c hc with h | h
      · exact .inl (.inr (.inr h))
      · exact .inr (by omega)

set_option maxRecDepth 100000 in
set_option maxHeartbeats 1000000 in
theorem cutx_any (w : World) (x : Nat) (R : List Rw) (F : List Nat) (k : Key) (h : IxAt w x R F) (hl : R.length ≤ 1000) :
    Calls Tryz.prog 8 #[ptr x, .string k] w (IxPost w x F (delR R k) (errOf (getR R k))) := by
  have HG := Lib.hid (has_any w x R F k h)
  have HI := Lib.hid h
  have hgs := fun y => getG_some (kf := Rw.key) (l := R) h.fits.ks (k := k) (y := y)
  have HX : Hid (∀ y, getR R k = some y → y.key = k ∧ y ∈ R) := Lib.hid fun y hy => (hgs y).1 hy
  have HM : Hid (getR R k = none → delR R k = R) := Lib.hid fun e => by
    have := getG_has (kf := Rw.key) (l := R) k
    rw [show getG Rw.key R k = none from e] at this
    unfold delR delG
    rw [← this]
    rfl
  clear h hgs
  obtain ⟨o, ho⟩ : ∃ o, getR R k = o := ⟨_, rfl⟩
  rw [ho] at HG HX HM ⊢
  clear ho
  obtain ⟨R', hR'⟩ : ∃ R', delR R k = R' := ⟨_, rfl⟩
  rw [hR'] at HM ⊢
  have HR := Lib.hid hR'
  clear hR'
  unfold ptr at HG
  unfold ptr
  go_enter Tryz.func8, Tryz.ntmps8
  go_wp2_with fail
  refine HG.out.mono ?_
  rintro e w2 ⟨rfl, hs⟩
  cases o with
  | none =>
    have F0 := Lib.hid (show ∀ ob, IxPost w x F R' (.int .i64 9) (.returned (.int .i64 9)) (w2.alloc ob) from fun ob => by
      have e : R' = R := HM.out rfl
      rw [e]
      exact IxPost.same HI.out (hs.alloc ob))
    clear hs
    unfold hasV
    go_wp2_with fail
    go_ret
    exact F0.out _
  | some r =>
    obtain ⟨hk, hr⟩ := HX.out r rfl
    obtain ⟨a, b, F1, F2, l, hv, rfl⟩ := HI.out
    have hv2 : ∀ ob, IxV (w2.alloc ob) x R a b F1 F2 l := fun ob => hv.still (hs.alloc ob)
    obtain ⟨rk, rs, ⟨rp, rc⟩, rn⟩ := r
    have c0 : ∀ ob, (w2.alloc ob).cell? ⟨x, 0, none⟩ = some (.pointer (some ⟨a, 0, none⟩)) := fun ob => (hv2 ob).cells.cell 0
    have d0 : ∀ tt, cellsAt (w2.alloc (.cells #[.int .i64 rp, .int .i64 rc, .string rs] tt)) w2.heap.size [.int .i64 rp, .int .i64 rc, .string rs] := fun tt => (cellsAt_new w2 [.int .i64 rp, .int .i64 rc, .string rs] tt)
    unfold hasV
    have HV2 := Lib.hid hv2
    have hsm := hv.fits.small _ hr
    have HN := Lib.hid (And.intro hv.two (And.intro hv.fits (And.intro hr (And.intro hk hsm))))
    have D0 := Lib.hid d0
    clear hv2 hv hr hk d0 hsm
    have HT0 := Lib.hid (fun ob => Ke.tcut (w2.alloc ob) a (one R) F1 k (HV2.out ob).t1 (by rw [one_length]; omega))
    unfold ptr at HT0
    go_wp2_with fail
    have hbx := D0.out 58
    have HV := Lib.hid (HV2.out (.cells #[.int .i64 rp, .int .i64 rc, .string rs] 58))
    have SV := Lib.hid (hs.alloc (.cells #[.int .i64 rp, .int .i64 rc, .string rs] 58))
    have HT := Lib.hid (HT0.out (.cells #[.int .i64 rp, .int .i64 rc, .string rs] 58))
    have hbl : w2.heap.size ∉ x :: (F1 ++ F2) := fun e => by
      have := HI.out.lt _ e
      have := hs.size
      omega
    clear c0 D0 HV2 HT0 hs
    generalize w2.alloc _ = W2 at *
    generalize w2.heap.size = bx at *
    refine HT.out.mono ?_
    rintro e W3 ⟨F1', rfl, h1, h2, h3⟩
    have hnd := List.nodup_cons.1 HV.out.nd
    have hap := List.nodup_append.1 hnd.2
    have hb3 : cellsAt W3 bx [.int .i64 rp, .int .i64 rc, .string rs] := hbx.only h2 fun e => hbl (by simp [e])
    have hx3 : cellsAt W3 x [ptr a, ptr b] := HV.out.cells.only h2 fun e => hnd.1 (by simp [e])
    have ht3 : TreeAt W3 b l F2 := HV.out.t2.only h2 fun c hc e => hap.2.2 c e c hc rfl
    have hm3 : HasM W3 := HasM.only HV.out.m h2 fun e => by have := HV.out.pos 0 (by simp [e]); omega
    have s0 : W3.cell? ⟨x, 1, none⟩ = some (.pointer (some ⟨b, 0, none⟩)) := hx3.cell 1
    have s3 : W3.cell? ⟨bx, 2, none⟩ = some (.string rs) := hb3.cell 2
    have SS := Lib.hid (fun w' (hst : Still W3 w') => show w'.cell? ⟨x, 1, none⟩ = some (.pointer (some ⟨b, 0, none⟩)) ∧ w'.cell? ⟨bx, 2, none⟩ = some (.string rs) from
      ⟨hst.cell s0, hst.cell s3⟩)
    have HJ := Lib.hid (fun (w' : World) (hst : Still W3 w') => join_of rs k (jB rs k) w' (HasM.only hm3 hst fun e => e) (by have := HN.out.2.2.2.2; have := this.2.2; omega) (by have h1 := HN.out.2.2.2.1; have h2 := HN.out.2.2.2.2; rw [← h1]; omega) rfl)
    have HT := Lib.hid (fun (w' : World) (hst : Still W3 w') => tcut w' b l F2 (jB rs k) (ht3.still hst) (HN.out.1.len_le hl))
    unfold ptr at HT
    have FIN := Lib.hid (fun (w3 : World) (hst : Still W3 w3) F2' W' (q1 : TreeAt W' b (delL l (jB rs k)) F2') (q2 : Only (fun c => c ∈ F2) w3 W') (q3 : ∀ c ∈ F2', c ∈ F2 ∨ w3.heap.size ≤ c) =>
      show IxPost w x (x :: (F1 ++ F2)) R' (.int .i64 0) (.returned (.int .i64 0)) W' from by
        have e : delR R k = R' := HR.out
        have hk' : rk = k := HN.out.2.2.2.1
        have hr := HN.out.2.2.1
        subst hk'
        refine IxV.post12 SV.out HV.out (R' := R') (by rw [← e, one_del]; exact h1) h2 h3 hst q1 q2 q3 ?_ ?_
        · rw [← e]
          exact Two.del HN.out.1 HN.out.2.1.ks hr
        · rw [← e]
          exact HN.out.2.1.del _)
    clear HV SV HN HM hbx hb3 hx3 ht3 hm3 h1 h2 h3 hnd hap hbl
    generalize jB rs k = j at *
    go_wp2_with fail
    refine wp_region_D_drew (D := (fun i => [0, 1, 2, 4, 6, 8].contains i)) (S := (fun w' => w'.cell? ⟨x, 1, none⟩ = some (.pointer (some ⟨b, 0, none⟩)) ∧ w'.cell? ⟨bx, 2, none⟩ = some (.string rs))) (by kernel_rfl) ?_ (fun hHeld => ?_)
    · ((try dsimp only) <;> (first | (with_reducible exact SS.out _ hst3) | (with_reducible exact SS.out _ (still_drew W3))))
    (refine takeD (i := 0) (some 21) (v := ?_) rfl (by rfl) (by rfl) (by kernel_rfl) (by rfl) (fun _ _ _ h => h) ?_ ?_; rotate_left; (intro w; go_simp; try with_reducible rfl); try go_frame)
    (refine takeD (i := 1) (some 22) (v := ?_) rfl (by rfl) (by rfl) (by kernel_rfl) (by rfl) (fun _ _ _ h => h) ?_ ?_; rotate_left; (intro w; go_simp; try with_reducible rfl); try go_frame)
    (refine takeD (i := 2) (some 23) (v := ?_) rfl (by rfl) (by rfl) (by kernel_rfl) (by rfl) (fun _ _ _ h => h) ?_ ?_; rotate_left; (intro w; go_simp; try with_reducible rfl); try go_frame)
    (refine takeD (i := 4) (some 25) (v := ?_) rfl (by rfl) (by rfl) (by kernel_rfl) (by rfl) (fun _ _ _ h => h) ?_ ?_; rotate_left; (intro w; go_simp; try with_reducible rfl); try go_frame)
    (refine takeD (i := 6) (some 27) (v := ?_) rfl (by rfl) (by rfl) (by kernel_rfl) (by rfl) (fun _ _ _ h => h) ?_ ?_; rotate_left; (intro w; go_simp; try with_reducible rfl); try go_frame)
    (refine takeS (i := 3) (some 24) (v := ?_) rfl (by rfl) (by rfl) (by kernel_rfl) (by rfl) (fun _ _ _ h => h) (by assumption) ?_ ?_; rotate_left; (intro w hSw; (try dsimp only at hSw); go_simp; try with_reducible rfl); try go_frame)
    (refine takeS (i := 5) (some 26) (v := ?_) rfl (by rfl) (by rfl) (by kernel_rfl) (by rfl) (fun _ _ _ h => h) (by assumption) ?_ ?_; rotate_left; (intro w hSw; (try dsimp only at hSw); go_simp; try with_reducible rfl); try go_frame)
    refine wpAnyD_ready (rs := [7]) (by kernel_rfl) (by simp) ?_
    refine ReadyD.cons rfl (fun K hK => ?_) ?_
    go_simp
    first | (go_at_call 29; (with_reducible refine (HJ.out _ (still_drew W3)).mono ?_); rintro e w3 ⟨rfl, hb3, hm3⟩; have hst3 : Still W3 w3 := (still_drew W3).trans (still_below hb3)) | (go_at_call 28; (with_reducible refine (HT.out _ hst3).mono ?_); rintro e w4 ⟨F2', rfl, h1, h2, h3⟩)
    go_wp2_with fail
    (refine hK.out _ _ ?_ (fun hNew => ?_); (focus ((try dsimp only) <;> (first | (with_reducible exact SS.out _ hst3) | (with_reducible exact SS.out _ (still_drew W3))))); clear hHeld; have hHeld := hNew; clear hNew)
    (clear hK K; try go_frame)
    refine wpAnyD_ready (rs := [8]) (by kernel_rfl) (by simp) ?_
    refine ReadyD.last rfl (by rfl) (fun K hK => ?_) ?_
    go_simp
    first | (go_at_call 29; (with_reducible refine (HJ.out _ (still_drew W3)).mono ?_); rintro e w3 ⟨rfl, hb3, hm3⟩; have hst3 : Still W3 w3 := (still_drew W3).trans (still_below hb3)) | (go_at_call 28; (with_reducible refine (HT.out _ hst3).mono ?_); rintro e w4 ⟨F2', rfl, h1, h2, h3⟩)
    go_wp2_with fail
    refine hK.out _ _ ?_
    (clear hK K; try go_frame)
    refine wpAnyD_done (by kernel_rfl) ?_ _
    rotate_left
    exact ReadyD.nil
    exact ReadyD.nil
    have F0 := Lib.hid (FIN.out _ hst3 _ _ h1 h2 h3)
    clear h1 h2 h3
    go_wp2_with fail
    go_ret
    exact F0.out
end Go.Proofs.YtedfijmaeoednaaGreatDoor

namespace Go.Proofs.YtedfijmaeoednaaGreatDoor
open Go.RowKit Go.Wh Go.Proofs.YtedfijmaeoednaaGreatDoor.Tw

/-- What Put does. -/
def putR (R : List Rw) (key sec val : Key) (v : Rid) : List Rw := if mayB key sec val then (if (getR R key).isSome then R else insR R ⟨key, sec, v, v⟩) else R
def putE (R : List Rw) (key sec val : Key) : Int := if mayB key sec val then (if (getR R key).isSome then 8 else 0) else 1

theorem Ke.get_some {R : List Rw} (k : Key) : (Ke.getL (one R) k).isSome = (getR R k).isSome := by
  rw [one_get]
  cases getR R k <;> rfl

set_option maxRecDepth 100000 in
set_option maxHeartbeats 2000000 in
theorem putx_any (w : World) (x : Nat) (R : List Rw) (F : List Nat) (key sec val : Key) (v : Rid) (h : IxAt w x R F) (hl : R.length ≤ 1000) (h1 : key.size ≤ 1000) (h2 : sec.size ≤ 1000) (h3 : val.size ≤ 1000) :
    Calls Tryz.prog 14 #[ptr x, rowV key sec val, ridV v] w (IxPost w x F (putR R key sec val v) (.int .i64 (putE R key sec val))) := by
  obtain ⟨vp, vq⟩ := v
  have S0 := Lib.hid (fun A B => show Still w ((w.alloc A).alloc B) from ((Still.refl w).alloc A).alloc B)
  have D0 := Lib.hid (fun t1 B => show cellsAt ((w.alloc (.cells #[.string key, .string sec, .string val] t1)).alloc B) w.heap.size [.string key, .string sec, .string val] from (cellsAt_new w [.string key, .string sec, .string val] t1).alloc B)
  have D1 := Lib.hid (fun A t2 => show cellsAt ((w.alloc A).alloc (.cells #[.int .i64 vp, .int .i64 vq] t2)) (w.heap.size + 1) [.int .i64 vp, .int .i64 vq] from by
    have := cellsAt_new (w.alloc A) [.int .i64 vp, .int .i64 vq] t2
    simpa using this)
  have HI := Lib.hid h
  obtain ⟨mb, hmb⟩ : ∃ mb, mayB key sec val = mb := ⟨_, rfl⟩
  obtain ⟨is, his⟩ : ∃ is, (getR R key).isSome = is := ⟨_, rfl⟩
  have HK := Lib.hid (And.intro hmb his)
  have HP0 : Hid (putR R key sec val (vp, vq) = (if mb then (if is then R else insR R ⟨key, sec, (vp, vq), (vp, vq)⟩) else R) ∧ putE R key sec val = (if mb then (if is then 8 else 0) else 1)) := Lib.hid ⟨by unfold putR; rw [hmb, his], by unfold putE; rw [hmb, his]⟩
  have HM := Lib.hid (fun w' => may_any key sec val w' h1 h2 h3)
  rw [hmb] at HM
  clear hmb his h1 h2 h3
  obtain ⟨R', hR'⟩ : ∃ R', putR R key sec val (vp, vq) = R' := ⟨_, rfl⟩
  obtain ⟨er, her⟩ : ∃ er, putE R key sec val = er := ⟨_, rfl⟩
  rw [hR', her] at HP0 ⊢
  clear hR' her
  unfold rowV at HM
  obtain ⟨a, b, F1, F2, l, hv, rfl⟩ := h
  have c0 : ∀ A B, ((w.alloc A).alloc B).cell? ⟨x, 0, none⟩ = some (.pointer (some ⟨a, 0, none⟩)) := fun A B => ((hv.cells.alloc A).alloc B).cell 0
  have c1 : ∀ A B, ((w.alloc A).alloc B).cell? ⟨x, 1, none⟩ = some (.pointer (some ⟨b, 0, none⟩)) := fun A B => ((hv.cells.alloc A).alloc B).cell 1
  have HV0 := Lib.hid hv
  clear hv
  unfold rowV ridV ptr
  go_enter Tryz.func14, Tryz.ntmps14
  go_wp2_with fail
  have S1 := Lib.hid (S0.out (.cells #[.string key, .string sec, .string val] 39) (.cells #[.int .i64 vp, .int .i64 vq] 31))
  have D2 := Lib.hid (D0.out 39 (.cells #[.int .i64 vp, .int .i64 vq] 31))
  have D3 := Lib.hid (D1.out (.cells #[.string key, .string sec, .string val] 39) 31)
  have s0 := c0 (.cells #[.string key, .string sec, .string val] 39) (.cells #[.int .i64 vp, .int .i64 vq] 31)
  have s1 := c1 (.cells #[.string key, .string sec, .string val] 39) (.cells #[.int .i64 vp, .int .i64 vq] 31)
  clear S0 D0 D1 c0 c1
  have HB := Lib.hid (show w.heap.size ∉ x :: (F1 ++ F2) ∧ w.heap.size + 1 ∉ x :: (F1 ++ F2) from ⟨fun e => by have := HV0.out.lt _ e; omega, fun e => by have := HV0.out.lt _ e; omega⟩)
  generalize (w.alloc _).alloc _ = W at *
  generalize w.heap.size + 1 = by_ at *
  generalize w.heap.size = bx at *
  refine (HM.out _).mono ?_
  rintro e W1 ⟨rfl, hs1⟩
  have S2 := Lib.hid (S1.out.trans hs1)
  have e0 : W1.cell? ⟨x, 0, none⟩ = some (.pointer (some ⟨a, 0, none⟩)) := hs1.cell s0
  have e1 : W1.cell? ⟨x, 1, none⟩ = some (.pointer (some ⟨b, 0, none⟩)) := hs1.cell s1
  have r0 : W1.cell? ⟨bx, 0, none⟩ = some (.string key) := hs1.cell (D2.out.cell 0)
  have r1 : W1.cell? ⟨bx, 1, none⟩ = some (.string sec) := hs1.cell (D2.out.cell 1)
  have v0 : W1.cell? ⟨by_, 0, none⟩ = some (.int .i64 vp) := hs1.cell (D3.out.cell 0)
  have v1 : W1.cell? ⟨by_, 1, none⟩ = some (.int .i64 vq) := hs1.cell (D3.out.cell 1)
  clear s0 s1 S1 D2 D3 hs1 HM
  have SS := Lib.hid (fun w' (hst : Still W1 w') => show w'.cell? ⟨x, 0, none⟩ = some (.pointer (some ⟨a, 0, none⟩)) ∧ w'.cell? ⟨x, 1, none⟩ = some (.pointer (some ⟨b, 0, none⟩)) ∧ w'.cell? ⟨bx, 0, none⟩ = some (.string key) ∧ w'.cell? ⟨bx, 1, none⟩ = some (.string sec) ∧ w'.cell? ⟨by_, 0, none⟩ = some (.int .i64 vp) ∧ w'.cell? ⟨by_, 1, none⟩ = some (.int .i64 vq) from
    ⟨hst.cell e0, hst.cell e1, hst.cell r0, hst.cell r1, hst.cell v0, hst.cell v1⟩)
  have HG := Lib.hid (fun (w' : World) (hst : Still W1 w') => Ke.tget w' a (one R) F1 key ((HV0.out.still (S2.out.trans hst)).t1))
  unfold ptr at HG
  cases mb with
  | false =>
    have F0 := Lib.hid (show IxPost w x (x :: (F1 ++ F2)) R' (.int .i64 er) (.returned (.int .i64 1)) W1 from by
      have e := HP0.out
      simp only [Bool.false_eq_true, if_false] at e
      rw [e.1, e.2]
      exact IxPost.same ⟨_, _, _, _, _, HV0.out, rfl⟩ S2.out)
    go_wp2_with fail
    go_ret
    exact F0.out
  | true =>
    go_wp2_with fail
    go_upto_region 4 with fail
    go_cut [8] (fun s wc => s = .bool is ∧ Still W1 wc)
    case first =>
      have SK := Lib.hid (fun w' (hst : Only (fun _ => False) W1 w') => And.intro (SS.out w' hst).1 (SS.out w' hst).2.2.1)
      obtain ⟨g1, g2, g3, hg3⟩ : ∃ g1 g2 g3, (Ke.getL (one R) key).getD (0, 0, ⟨#[]⟩) = (g1, g2, g3) := ⟨_, _, _, rfl⟩
      have GK := Lib.hid (fun w' (hst : Only (fun _ => False) W1 w') => (HG.out w' hst).mono (R' := fun e w2 => e = .returned (.tuple #[.agg #[.int .i64 g1, .int .i64 g2, .string g3], .bool is]) ∧ Still w' w2) (fun e w2 ⟨he, hs⟩ => ⟨by rw [he, hg3, Ke.get_some, HK.out.2]; rfl, hs⟩))
      clear hg3
      have K0 := Lib.hid (fun tt => cellsAt_new W1 [.int .i64 0, .int .i64 0, .string ⟨#[]⟩] tt)
      refine wp_region_D_drew (D := (fun i => [0, 1, 2, 4, 7, 8, 9, 11, 12].contains i)) (S := (fun w' => w'.cell? ⟨x, 0, none⟩ = some (.pointer (some ⟨a, 0, none⟩)) ∧ w'.cell? ⟨bx, 0, none⟩ = some (.string key))) (by kernel_rfl) ?_ (fun hHeld => ?_)
      · ((try dsimp only) <;> (first | (with_reducible exact SK.out _ (Only.drew (Only.refl _ W1))) | (with_reducible exact SK.out _ (Only.drew (Only.alloc (Only.refl _ W1) _))) | (with_reducible exact SK.out _ hb3) | (with_reducible exact SK.out _ (Only.alloc hb3 _))))
      (refine takeD (i := 0) (some 17) (v := ?_) rfl (by rfl) (by rfl) (by kernel_rfl) (by rfl) (fun _ _ _ h => h) ?_ ?_; rotate_left; (intro w; go_simp; try with_reducible rfl); try go_frame)
      (refine takeD (i := 1) (some 18) (v := ?_) rfl (by rfl) (by rfl) (by kernel_rfl) (by rfl) (fun _ _ _ h => h) ?_ ?_; rotate_left; (intro w; go_simp; try with_reducible rfl); try go_frame)
      (refine takeD (i := 2) (some 19) (v := ?_) rfl (by rfl) (by rfl) (by kernel_rfl) (by rfl) (fun _ _ _ h => h) ?_ ?_; rotate_left; (intro w; go_simp; try with_reducible rfl); try go_frame)
      (refine takeD (i := 4) (some 21) (v := ?_) rfl (by rfl) (by rfl) (by kernel_rfl) (by rfl) (fun _ _ _ h => h) ?_ ?_; rotate_left; (intro w; go_simp; try with_reducible rfl); try go_frame)
      (refine takeS (i := 3) (some 20) (v := ?_) rfl (by rfl) (by rfl) (by kernel_rfl) (by rfl) (fun _ _ _ h => h) (by assumption) ?_ ?_; rotate_left; (intro w hSw; (try dsimp only at hSw); go_simp; try with_reducible rfl); try go_frame)
      (refine takeS (i := 5) (some 22) (v := ?_) rfl (by rfl) (by rfl) (by kernel_rfl) (by rfl) (fun _ _ _ h => h) (by assumption) ?_ ?_; rotate_left; (intro w hSw; (try dsimp only at hSw); go_simp; try with_reducible rfl); try go_frame)
      refine wpAnyD_ready (rs := [6, 10]) (by kernel_rfl) (by simp) ?_
      refine ReadyD.cons rfl (fun K hK => ?_) ?_
      go_simp
      first | (go_at_call 34; (first | ((with_reducible refine (GK.out _ (Only.drew (Only.refl _ W1))).mono ?_); rintro e w3 ⟨rfl, hb3'⟩; have hb3 : Only (fun _ => False) W1 w3 := (Only.drew (Only.refl _ W1)).trans hb3') | ((with_reducible refine (GK.out _ (Only.drew (Only.alloc (Only.refl _ W1) _))).mono ?_); rintro e w3 ⟨rfl, hb3'⟩; have hb3 : Only (fun _ => False) W1 w3 := (Only.drew (Only.alloc (Only.refl _ W1) _)).trans hb3'; have hbn := cellsAt.still hb3' (cellsAt.drew (K0.out 58)); have n0 := hbn.cell 0; have n1 := hbn.cell 1; have n2 := hbn.cell 2; have m0 := hbn.free 0; have m1 := hbn.free 1; have m2 := hbn.free 2; simp only [List.getElem?_cons_zero, List.getElem?_cons_succ] at n0 n1 n2; clear hbn)))
      go_wp2_with fail
      (refine hK.out _ _ ?_ (fun hNew => ?_); (focus ((try dsimp only) <;> (first | (with_reducible exact SK.out _ (Only.drew (Only.refl _ W1))) | (with_reducible exact SK.out _ (Only.drew (Only.alloc (Only.refl _ W1) _))) | (with_reducible exact SK.out _ hb3) | (with_reducible exact SK.out _ (Only.alloc hb3 _))))); clear hHeld; have hHeld := hNew; clear hNew)
      (clear hK K; try go_frame)
      (refine takeD (i := 7) (some 16) (v := ?_) rfl (by rfl) (by rfl) (by kernel_rfl) (by rfl) (fun _ _ _ h => h) ?_ ?_; rotate_left; (intro w; go_simp; try with_reducible rfl); try go_frame)
      (refine takeD (i := 8) (some 24) (v := ?_) rfl (by rfl) (by rfl) (by kernel_rfl) (by rfl) (fun _ _ _ h => h) ?_ ?_; rotate_left; (intro w; go_simp; try with_reducible rfl); try go_frame)
      (refine takeD (i := 9) (some 25) (v := ?_) rfl (by rfl) (by rfl) (by kernel_rfl) (by rfl) (fun _ _ _ h => h) ?_ ?_; rotate_left; (intro w; go_simp; try with_reducible rfl); try go_frame)
      refine wpAnyD_ready (rs := [10]) (by kernel_rfl) (by simp) ?_
      refine ReadyD.cons rfl (fun K hK => ?_) ?_
      go_simp
      (refine hK.out _ _ ?_ (fun hNew => ?_); (focus ((try dsimp only) <;> (first | (with_reducible exact SK.out _ (Only.drew (Only.refl _ W1))) | (with_reducible exact SK.out _ (Only.drew (Only.alloc (Only.refl _ W1) _))) | (with_reducible exact SK.out _ hb3) | (with_reducible exact SK.out _ (Only.alloc hb3 _))))); clear hHeld; have hHeld := hNew; clear hNew)
      (clear hK K; try go_frame)
      refine wpAnyD_ready (rs := [11]) (by kernel_rfl) (by simp) ?_
      refine ReadyD.last rfl (by rfl) (fun K hK => ?_) ?_
      go_simp
      refine hK.out _ _ ?_
      (clear hK K; try go_frame)
      (refine takeD (i := 12) (some 8) (v := ?_) rfl (by rfl) (by rfl) (by kernel_rfl) (by rfl) (fun _ _ _ h => h) ?_ ?_; rotate_left; (intro w; go_simp; try with_reducible rfl); try go_frame)
      refine wpAnyD_done (by kernel_rfl) ?_ _
      rotate_left
      exact ReadyD.nil
      exact ReadyD.nil
      refine ReadyD.cons rfl (fun K hK => ?_) ?_
      go_simp
      (refine hK.out _ _ ?_ (fun hNew => ?_); (focus ((try dsimp only) <;> (first | (with_reducible exact SK.out _ (Only.drew (Only.refl _ W1))) | (with_reducible exact SK.out _ (Only.drew (Only.alloc (Only.refl _ W1) _))) | (with_reducible exact SK.out _ hb3) | (with_reducible exact SK.out _ (Only.alloc hb3 _))))); clear hHeld; have hHeld := hNew; clear hNew)
      (clear hK K; try go_frame)
      refine wpAnyD_ready (rs := [6]) (by kernel_rfl) (by simp) ?_
      refine ReadyD.cons rfl (fun K hK => ?_) ?_
      go_simp
      first | (go_at_call 34; (first | ((with_reducible refine (GK.out _ (Only.drew (Only.refl _ W1))).mono ?_); rintro e w3 ⟨rfl, hb3'⟩; have hb3 : Only (fun _ => False) W1 w3 := (Only.drew (Only.refl _ W1)).trans hb3') | ((with_reducible refine (GK.out _ (Only.drew (Only.alloc (Only.refl _ W1) _))).mono ?_); rintro e w3 ⟨rfl, hb3'⟩; have hb3 : Only (fun _ => False) W1 w3 := (Only.drew (Only.alloc (Only.refl _ W1) _)).trans hb3'; have hbn := cellsAt.still hb3' (cellsAt.drew (K0.out 58)); have n0 := hbn.cell 0; have n1 := hbn.cell 1; have n2 := hbn.cell 2; have m0 := hbn.free 0; have m1 := hbn.free 1; have m2 := hbn.free 2; simp only [List.getElem?_cons_zero, List.getElem?_cons_succ] at n0 n1 n2; clear hbn)))
      go_wp2_with fail
      (refine hK.out _ _ ?_ (fun hNew => ?_); (focus ((try dsimp only) <;> (first | (with_reducible exact SK.out _ (Only.drew (Only.refl _ W1))) | (with_reducible exact SK.out _ (Only.drew (Only.alloc (Only.refl _ W1) _))) | (with_reducible exact SK.out _ hb3) | (with_reducible exact SK.out _ (Only.alloc hb3 _))))); clear hHeld; have hHeld := hNew; clear hNew)
      (clear hK K; try go_frame)
      (refine takeD (i := 7) (some 16) (v := ?_) rfl (by rfl) (by rfl) (by kernel_rfl) (by rfl) (fun _ _ _ h => h) ?_ ?_; rotate_left; (intro w; go_simp; try with_reducible rfl); try go_frame)
      (refine takeD (i := 8) (some 24) (v := ?_) rfl (by rfl) (by rfl) (by kernel_rfl) (by rfl) (fun _ _ _ h => h) ?_ ?_; rotate_left; (intro w; go_simp; try with_reducible rfl); try go_frame)
      (refine takeD (i := 9) (some 25) (v := ?_) rfl (by rfl) (by rfl) (by kernel_rfl) (by rfl) (fun _ _ _ h => h) ?_ ?_; rotate_left; (intro w; go_simp; try with_reducible rfl); try go_frame)
      refine wpAnyD_ready (rs := [11]) (by kernel_rfl) (by simp) ?_
      refine ReadyD.last rfl (by rfl) (fun K hK => ?_) ?_
      go_simp
      refine hK.out _ _ ?_
      (clear hK K; try go_frame)
      (refine takeD (i := 12) (some 8) (v := ?_) rfl (by rfl) (by rfl) (by kernel_rfl) (by rfl) (fun _ _ _ h => h) ?_ ?_; rotate_left; (intro w; go_simp; try with_reducible rfl); try go_frame)
      refine wpAnyD_done (by kernel_rfl) ?_ _
      rotate_left
      exact ReadyD.nil
      exact ReadyD.nil
      exact ReadyD.nil
      all_goals
        go_wp2_with fail
        go_meet
        refine ⟨rfl, ?_⟩
        refine still_of (S := fun c => W1.heap.size ≤ c) (Only.trans (Only.mono hb3 fun _ e => e.elim) ?_) (fun c hc => by omega)
        have hsz := Only.size hb3
        repeat (first | exact Only.refl _ _ | refine Only.alloc ?_ _ | refine Only.setCell ?_ (Or.inl ?_) _ | exact Nat.le_refl _ | exact hsz)
    case rest =>
      obtain ⟨rfl, hst⟩ := hcut
      have e0' := hst.cell e0
      have e1' := hst.cell e1
      have r0' := hst.cell r0
      have r1' := hst.cell r1
      have v0' := hst.cell v0
      have v1' := hst.cell v1
      clear e0 e1 r0 r1 v0 v1
      cases is with
      | true =>
        have F0 := Lib.hid (show IxPost w x (x :: (F1 ++ F2)) R' (.int .i64 er) (.returned (.int .i64 8)) wc from by
          have e := HP0.out
          simp only [if_true] at e
          rw [e.1, e.2]
          exact IxPost.same ⟨_, _, _, _, _, HV0.out, rfl⟩ (S2.out.trans hst))
        go_wp2_with fail
        go_ret
        exact F0.out
      | false =>
        have HVc := Lib.hid ((HV0.out.still (S2.out.trans hst)).still (still_drew wc))
        have Sc := Lib.hid ((S2.out.trans hst).trans (still_drew wc))
        have HT0 := Lib.hid (Ke.tput wc.drew a (one R) F1 key (vp, vq, sec) HVc.out.t1 (by rw [one_length]; omega))
        have BX := Lib.hid (fun w' (ho : Only (fun c => c ∈ F1) wc.drew w') => show (w'.cell? ⟨x, 1, none⟩ = some (.pointer (some ⟨b, 0, none⟩)) ∧ w'.cell? ⟨bx, 0, none⟩ = some (.string key) ∧ w'.cell? ⟨bx, 1, none⟩ = some (.string sec) ∧ w'.cell? ⟨by_, 0, none⟩ = some (.int .i64 vp) ∧ w'.cell? ⟨by_, 1, none⟩ = some (.int .i64 vq)) from by
          have hnd := List.nodup_cons.1 HVc.out.nd
          have hcell : ∀ (c o : Nat) (u : Value), c ∉ F1 → wc.cell? ⟨c, o, none⟩ = some u → w'.cell? ⟨c, o, none⟩ = some u := fun c o u hc hu => by
            have hlt := lt_of_cell hu
            exact (ho.cell (p := ⟨c, o, none⟩) hlt hc).trans hu
          exact ⟨hcell _ _ _ (fun e => hnd.1 (by simp [e])) e1', hcell _ _ _ (fun e => HB.out.1 (by simp [e])) r0', hcell _ _ _ (fun e => HB.out.1 (by simp [e])) r1', hcell _ _ _ (fun e => HB.out.2 (by simp [e])) v0', hcell _ _ _ (fun e => HB.out.2 (by simp [e])) v1'⟩)
        unfold Ke.ridV ptr at HT0
        go_wp2_with fail
        go_still_tail 10, (by kernel_rfl)
        go_wp2_with fail
        refine HT0.out.mono ?_
        rintro e W3 ⟨F1', rfl, h1, h2, h3⟩
        have hnd := List.nodup_cons.1 HVc.out.nd
        have hap := List.nodup_append.1 hnd.2
        obtain ⟨k0, k1, k2, k3, k4⟩ := BX.out _ h2
        clear e0' e1' r0' r1' v0' v1' BX
        have ht3 : TreeAt W3 b l F2 := HVc.out.t2.only h2 fun c hc e => hap.2.2 c e c hc rfl
        have hm3 : HasM W3 := HasM.only HVc.out.m h2 fun e => by have := HVc.out.pos 0 (by simp [e]); omega
        have SS2 := Lib.hid (fun w' (hst : Still W3 w') => show w'.cell? ⟨x, 1, none⟩ = some (.pointer (some ⟨b, 0, none⟩)) ∧ w'.cell? ⟨bx, 0, none⟩ = some (.string key) ∧ w'.cell? ⟨bx, 1, none⟩ = some (.string sec) ∧ w'.cell? ⟨by_, 0, none⟩ = some (.int .i64 vp) ∧ w'.cell? ⟨by_, 1, none⟩ = some (.int .i64 vq) from
          ⟨hst.cell k0, hst.cell k1, hst.cell k2, hst.cell k3, hst.cell k4⟩)
        have hmay := HK.out.1
        simp only [mayB, Bool.and_eq_true, decide_eq_true_eq] at hmay
        have HMY := Lib.hid hmay
        have HJ := Lib.hid (fun (w' : World) (hst : Still W3 w') => join_of sec key (jB sec key) w' (HasM.only hm3 hst fun e => e) (by have := HMY.out.1.2; omega) (by have := HMY.out.1.1.2; omega) rfl)
        have HT := Lib.hid (fun (w' : World) (hst : Still W3 w') => tput w' b l F2 (jB sec key) (vp, vq) (ht3.still hst) (HVc.out.two.len_le hl))
        unfold ptr ridV at HT
        have FIN := Lib.hid (fun (w3 : World) (hst : Still W3 w3) F2' W' (q1 : TreeAt W' b (insL l (jB sec key) (vp, vq)) F2') (q2 : Only (fun c => c ∈ F2) w3 W') (q3 : ∀ c ∈ F2', c ∈ F2 ∨ w3.heap.size ≤ c) =>
          show IxPost w x (x :: (F1 ++ F2)) R' (.int .i64 er) (.returned (.int .i64 0)) W' from by
            have e := HP0.out
            simp only [if_true, Bool.false_eq_true, if_false] at e
            rw [e.1, e.2]
            have hnone : ∀ y ∈ R, y.key ≠ key := (getG_none (kf := Rw.key) HVc.out.fits.ks).1 (by
              have h := HK.out.2
              cases hg : getR R key with
              | none => exact hg
              | some r => rw [hg] at h; cases h)
            refine IxV.post12 Sc.out HVc.out (R' := insR R ⟨key, sec, (vp, vq), (vp, vq)⟩) (by rw [one_ins]; exact h1) h2 h3 hst q1 q2 q3 ?_ ?_
            · exact Two.put HVc.out.two HVc.out.fits.ks ⟨key, sec, (vp, vq), (vp, vq)⟩ fun r' hr' e' => absurd e' (hnone r' hr')
            · refine HVc.out.fits.ins _ ?_
              have h := HMY.out
              refine ⟨h.1.1.1, h.1.1.2, h.1.2⟩)
        clear HVc hmay ht3 hm3 h1 h2 h3 hnd hap HT0
        generalize jB sec key = j at *
        go_wp2_with fail
        refine wp_region_D_drew (D := (fun i => [0, 1, 2, 4, 6, 10].contains i)) (S := (fun w' => w'.cell? ⟨x, 1, none⟩ = some (.pointer (some ⟨b, 0, none⟩)) ∧ w'.cell? ⟨bx, 0, none⟩ = some (.string key) ∧ w'.cell? ⟨bx, 1, none⟩ = some (.string sec) ∧ w'.cell? ⟨by_, 0, none⟩ = some (.int .i64 vp) ∧ w'.cell? ⟨by_, 1, none⟩ = some (.int .i64 vq))) (by kernel_rfl) ?_ (fun hHeld => ?_)
        · ((try dsimp only) <;> (first | (with_reducible exact SS2.out _ hst3) | (with_reducible exact SS2.out _ (still_drew W3))))
        (refine takeD (i := 0) (some 38) (v := ?_) rfl (by rfl) (by rfl) (by kernel_rfl) (by rfl) (fun _ _ _ h => h) ?_ ?_; rotate_left; (intro w; go_simp; try with_reducible rfl); try go_frame)
        (refine takeD (i := 1) (some 39) (v := ?_) rfl (by rfl) (by rfl) (by kernel_rfl) (by rfl) (fun _ _ _ h => h) ?_ ?_; rotate_left; (intro w; go_simp; try with_reducible rfl); try go_frame)
        (refine takeD (i := 2) (some 40) (v := ?_) rfl (by rfl) (by rfl) (by kernel_rfl) (by rfl) (fun _ _ _ h => h) ?_ ?_; rotate_left; (intro w; go_simp; try with_reducible rfl); try go_frame)
        (refine takeD (i := 4) (some 42) (v := ?_) rfl (by rfl) (by rfl) (by kernel_rfl) (by rfl) (fun _ _ _ h => h) ?_ ?_; rotate_left; (intro w; go_simp; try with_reducible rfl); try go_frame)
        (refine takeD (i := 6) (some 44) (v := ?_) rfl (by rfl) (by rfl) (by kernel_rfl) (by rfl) (fun _ _ _ h => h) ?_ ?_; rotate_left; (intro w; go_simp; try with_reducible rfl); try go_frame)
        (refine takeS (i := 3) (some 41) (v := ?_) rfl (by rfl) (by rfl) (by kernel_rfl) (by rfl) (fun _ _ _ h => h) (by assumption) ?_ ?_; rotate_left; (intro w hSw; (try dsimp only at hSw); go_simp; try with_reducible rfl); try go_frame)
        (refine takeS (i := 5) (some 43) (v := ?_) rfl (by rfl) (by rfl) (by kernel_rfl) (by rfl) (fun _ _ _ h => h) (by assumption) ?_ ?_; rotate_left; (intro w hSw; (try dsimp only at hSw); go_simp; try with_reducible rfl); try go_frame)
        (refine takeS (i := 7) (some 45) (v := ?_) rfl (by rfl) (by rfl) (by kernel_rfl) (by rfl) (fun _ _ _ h => h) (by assumption) ?_ ?_; rotate_left; (intro w hSw; (try dsimp only at hSw); go_simp; try with_reducible rfl); try go_frame)
        (refine takeS (i := 9) (some 47) (v := ?_) rfl (by rfl) (by rfl) (by kernel_rfl) (by rfl) (fun _ _ _ h => h) (by assumption) ?_ ?_; rotate_left; (intro w hSw; (try dsimp only at hSw); go_simp; try with_reducible rfl); try go_frame)
        refine wpAnyD_ready (rs := [8]) (by kernel_rfl) (by simp) ?_
        refine ReadyD.cons rfl (fun K hK => ?_) ?_
        go_simp
        first | (go_at_call 29; (with_reducible refine (HJ.out _ (still_drew W3)).mono ?_); rintro e w3 ⟨rfl, hb3, hm3⟩; have hst3 : Still W3 w3 := (still_drew W3).trans (still_below hb3)) | (go_at_call 32; (with_reducible refine (HT.out _ hst3).mono ?_); rintro e w4 ⟨F2', rfl, h1, h2, h3⟩)
        go_wp2_with fail
        (refine hK.out _ _ ?_ (fun hNew => ?_); (focus ((try dsimp only) <;> (first | (with_reducible exact SS2.out _ hst3) | (with_reducible exact SS2.out _ (still_drew W3))))); clear hHeld; have hHeld := hNew; clear hNew)
        (clear hK K; try go_frame)
        refine wpAnyD_ready (rs := [10]) (by kernel_rfl) (by simp) ?_
        refine ReadyD.last rfl (by rfl) (fun K hK => ?_) ?_
        go_simp
        first | (go_at_call 29; (with_reducible refine (HJ.out _ (still_drew W3)).mono ?_); rintro e w3 ⟨rfl, hb3, hm3⟩; have hst3 : Still W3 w3 := (still_drew W3).trans (still_below hb3)) | (go_at_call 32; (with_reducible refine (HT.out _ hst3).mono ?_); rintro e w4 ⟨F2', rfl, h1, h2, h3⟩)
        go_wp2_with fail
        refine hK.out _ _ ?_
        (clear hK K; try go_frame)
        refine wpAnyD_done (by kernel_rfl) ?_ _
        rotate_left
        exact ReadyD.nil
        exact ReadyD.nil
        have F0 := Lib.hid (FIN.out _ hst3 _ _ h1 h2 h3)
        clear h1 h2 h3
        go_wp2_with fail
        go_ret
        exact F0.out
end Go.Proofs.YtedfijmaeoednaaGreatDoor

namespace Go.Proofs.YtedfijmaeoednaaGreatDoor
open Go.RowKit Go.Wh Go.Proofs.YtedfijmaeoednaaGreatDoor.Tw

theorem gather_all (most : Int) (hm : most < 0) : ∀ (l a : Nd 0), gather most a l = (a ++ l, true)
  | [], a => by simp [gather]
  | e :: l, a => by
    have hf : full most a = false := by simp [full]; omega
    rw [gather_cons, hf]
    simp only [Bool.false_eq_true, if_false]
    rw [gather_all most hm l]
    simp
theorem fromL_drop (l : Nd 0) (k : Key) (most : Int) (hm : most < 0) : fromL l k most = l.drop (pos (keys l) k) := by
  unfold fromL
  rw [gather_all most hm]
  rfl

/-- Keys and places that are told. -/
structure Lists (w w' : World) (ks : List Key) (vs : List Rid) (kv vv : Value) : Prop where
  k : Vec w' 1 kv ks.length (kcells ks)
  v : Vec w' 2 vv vs.length (rcells vs)
  ok : ∀ g, kv.ownBlock = some g → w.heap.size ≤ g ∧ g < w'.heap.size
  ov : ∀ g, vv.ownBlock = some g → w.heap.size ≤ g ∧ g < w'.heap.size
  ap : ∀ g, kv.ownBlock = some g → vv.ownBlock ≠ some g
def TwoL (w : World) (ks : List Key) (vs : List Rid) (e : Ending) (w' : World) : Prop := ∃ kv vv, e = .returned (.tuple #[kv, vv]) ∧ Lists w w' ks vs kv vv ∧ Still w w'

/-- Two appends, each behind its built row, in whatever order. -/
structure AppK (W : World) (kv vv : Value) (n : Nat) (kc vc : List Value) (yk : Value) (y1 y2 : Value) (L : Nat → Bool) (xs : Nat → Value) (w : World) : Prop where
  all : Only (fun b => kv.ownBlock = some b ∨ vv.ownBlock = some b) W w
  b1 : L 2 = true → ∃ g, xs 2 = .slice (some ⟨g, 0, none⟩) 1 1 ∧ cellsAt w g [yk] ∧ W.heap.size ≤ g
  b2 : L 9 = true → ∃ g, xs 9 = .slice (some ⟨g, 0, none⟩) 1 1 ∧ cellsAt w g [y1, y2] ∧ W.heap.size ≤ g
  a0 : L 3 = false → Vec w 1 kv n kc
  a1 : L 3 = true → Vec w 1 (xs 3) (n + 1) (kc ++ [yk]) ∧ Nw W.heap.size w.heap.size kv (xs 3)
  c0 : L 10 = false → Vec w 2 vv n vc
  c1 : L 10 = true → L 3 = true ∧ Vec w 2 (xs 10) (n + 1) (vc ++ [y1, y2]) ∧ Nw W.heap.size w.heap.size vv (xs 10) ∧ ∀ g, W.heap.size ≤ g → (xs 3).ownBlock = some g → (xs 10).ownBlock ≠ some g

section
variable {W w w' : World} {kv vv : Value} {n : Nat} {kc vc : List Value} {yk y1 y2 : Value} {L : Nat → Bool} {xs : Nat → Value}

theorem AppK.start (hs : Still W w) (hk : Vec w 1 kv n kc) (hv : Vec w 2 vv n vc) (hl : ∀ j ∈ [2, 3, 9, 10], L j = false) : AppK W kv vv n kc vc yk y1 y2 L xs w := by
  refine ⟨hs.only, fun e => ?_, fun e => ?_, fun _ => hk, fun e => ?_, fun _ => hv, fun e => ?_⟩
  · rw [hl 2 (by simp)] at e; cases e
  · rw [hl 9 (by simp)] at e; cases e
  · rw [hl 3 (by simp)] at e; cases e
  · rw [hl 10 (by simp)] at e; cases e
theorem AppK.alloc (h : AppK W kv vv n kc vc yk y1 y2 L xs w) (o : Obj) : AppK W kv vv n kc vc yk y1 y2 L xs (w.alloc o) := by
  obtain ⟨all, b1, b2, a0, a1, c0, c1⟩ := h
  have hz : w.heap.size ≤ (w.alloc o).heap.size := by simp
  refine ⟨all.alloc _, fun e => ?_, fun e => ?_, fun e => (a0 e).alloc _, fun e => ⟨(a1 e).1.alloc _, (a1 e).2.more hz⟩, fun e => (c0 e).alloc _, fun e => ⟨(c1 e).1, (c1 e).2.1.alloc _, (c1 e).2.2.1.more hz, (c1 e).2.2.2⟩⟩
  · obtain ⟨g, h1, h2, h3⟩ := b1 e
    exact ⟨g, h1, h2.alloc _, h3⟩
  · obtain ⟨g, h1, h2, h3⟩ := b2 e
    exact ⟨g, h1, h2.alloc _, h3⟩
theorem AppK.b1' (h : AppK W kv vv n kc vc yk y1 y2 L xs w) (t : TypeId) : AppK W kv vv n kc vc yk y1 y2 (upN L 2 true) (upN xs 2 (.slice (some ⟨w.heap.size, 0, none⟩) 1 1)) (w.alloc (.cells #[yk] t)) := by
  have hs := h.all.size
  obtain ⟨all, b1, b2, a0, a1, c0, c1⟩ := h.alloc (.cells #[yk] t)
  exact ⟨all, fun _ => ⟨_, rfl, cellsAt_new w [yk] t, hs⟩, b2, a0, a1, c0, c1⟩
theorem AppK.b2' (h : AppK W kv vv n kc vc yk y1 y2 L xs w) (t : TypeId) : AppK W kv vv n kc vc yk y1 y2 (upN L 9 true) (upN xs 9 (.slice (some ⟨w.heap.size, 0, none⟩) 1 1)) (w.alloc (.cells #[y1, y2] t)) := by
  have hs := h.all.size
  obtain ⟨all, b1, b2, a0, a1, c0, c1⟩ := h.alloc (.cells #[y1, y2] t)
  exact ⟨all, b1, fun _ => ⟨_, rfl, cellsAt_new w [y1, y2] t, hs⟩, a0, a1, c0, c1⟩
theorem AppK.c1' (h : AppK W kv vv n kc vc yk y1 y2 L xs w) (h0 : L 3 = false) (hkW : ∀ g, kv.ownBlock = some g → g < W.heap.size) (hap : ∀ g, kv.ownBlock = some g → vv.ownBlock ≠ some g) {v' : Value} (hv : Vec w' 1 v' (n + 1) (kc ++ [yk])) (ho : Only (fun b => kv.ownBlock = some b) w w')
    (hn : v'.ownBlock = kv.ownBlock ∨ ∃ g, v'.ownBlock = some g ∧ w.heap.size ≤ g ∧ g < w'.heap.size) : AppK W kv vv n kc vc yk y1 y2 (upN L 3 true) (upN xs 3 v') w' := by
  obtain ⟨all, b1, b2, a0, a1, c0, c1⟩ := h
  refine ⟨all.trans (ho.mono fun _ e => .inl e), fun e => ?_, fun e => ?_, fun e => (by cases e), fun _ => ⟨hv, hn.imp id fun ⟨g, h1, h2, h3⟩ => ⟨g, h1, Nat.le_trans all.size h2, h3⟩⟩, fun e => ?_, fun e => ?_⟩
  · obtain ⟨g, h1, h2, h3⟩ := b1 e
    exact ⟨g, h1, h2.only ho fun e => by have := hkW g e; omega, h3⟩
  · obtain ⟨g, h1, h2, h3⟩ := b2 e
    exact ⟨g, h1, h2.only ho fun e => by have := hkW g e; omega, h3⟩
  · exact (c0 e).only ho fun g hg e' => hap g e' hg
  · have := (c1 e).1
    rw [h0] at this
    cases this
theorem AppK.c2' (h : AppK W kv vv n kc vc yk y1 y2 L xs w) (h1 : L 3 = true) (hkW : ∀ g, kv.ownBlock = some g → g < W.heap.size) (hvW : ∀ g, vv.ownBlock = some g → g < W.heap.size) (hap : ∀ g, kv.ownBlock = some g → vv.ownBlock ≠ some g) {v' : Value} (hv : Vec w' 2 v' (n + 1) (vc ++ [y1, y2])) (ho : Only (fun b => vv.ownBlock = some b) w w')
    (hn : v'.ownBlock = vv.ownBlock ∨ ∃ g, v'.ownBlock = some g ∧ w.heap.size ≤ g ∧ g < w'.heap.size) : AppK W kv vv n kc vc yk y1 y2 (upN L 10 true) (upN xs 10 v') w' := by
  obtain ⟨all, b1, b2, a0, a1, c0, c1⟩ := h
  have hx3 : ∀ g, (xs 3).ownBlock = some g → vv.ownBlock ≠ some g := fun g hg e => by
    rcases (a1 h1).2.cases hg with h | h
    · exact hap g h e
    · have := hvW g e; omega
  refine ⟨all.trans (ho.mono fun _ e => .inr e), fun e => ?_, fun e => ?_, fun e => ?_, fun _ => ⟨(a1 h1).1.only ho fun g hg e => hx3 g hg e, (a1 h1).2.more ho.size⟩, fun e => (by cases e), fun _ => ⟨h1, hv, hn.imp id fun ⟨g, h1, h2, h3⟩ => ⟨g, h1, Nat.le_trans all.size h2, h3⟩, fun g hg e1 e2 => ?_⟩⟩
  · obtain ⟨g, h1, h2, h3⟩ := b1 e
    exact ⟨g, h1, h2.only ho fun e => by have := hvW g e; omega, h3⟩
  · obtain ⟨g, h1, h2, h3⟩ := b2 e
    exact ⟨g, h1, h2.only ho fun e => by have := hvW g e; omega, h3⟩
  · have e' : L 3 = false := e
    rw [h1] at e'
    cases e'
  · have e1' : (xs 3).ownBlock = some g := e1
    have e2' : v'.ownBlock = some g := e2
    rcases hn with h | ⟨g', h2, h3, h4⟩
    · rw [h] at e2'
      have := hvW g e2'
      omega
    · rw [h2] at e2'
      injection e2' with e2'
      rcases (a1 h1).2.cases e1' with h | h
      · have := hkW g h; omega
      · omega
end

theorem jB_size (a b : ByteArray) : (jB a b).size ≤ 2 * a.size + b.size + 2 := by
  rw [← size_list]
  show (joinL a.data.toList b.data.toList).toArray.toList.length ≤ _
  rw [List.toList_toArray]
  unfold joinL
  have := esc_len a.data.toList
  rw [size_list] at this
  have h2 := size_list b
  simp only [List.length_append, List.length_cons, List.length_nil]
  omega

/-- What the second tree tells of a second key: the rows, and then another's. -/
structure Row2 (T : Nd 0) (Q : List Rw) (s : Key) : Prop where
  get : ∀ (i : Nat) (r : Rw), Q[i]? = some r → (show List (Key × E 0) from T)[i]? = some (twoOf r)
  stop : ∀ (x : Key × E 0), (show List (Key × E 0) from T)[Q.length]? = some x → secOf x.1 ≠ s
  le : Q.length ≤ T.length
  sec : ∀ r ∈ Q, r.sec = s
  size : ∀ x ∈ (show List (Key × E 0) from T), x.1.size ≤ 100

theorem takeWhile_get {α : Type} (p : α → Bool) : ∀ (l : List α) (i : Nat), i < (l.takeWhile p).length → l[i]? = (l.takeWhile p)[i]?
  | [], _, h => by simp at h
  | a :: l, i, h => by
    rw [List.takeWhile_cons] at h ⊢
    cases hp : p a with
    | false => rw [hp] at h; simp at h
    | true =>
      rw [hp] at h
      simp only [if_true] at h ⊢
      cases i with
      | zero => rfl
      | succ i =>
        simp only [List.length_cons] at h
        simpa using takeWhile_get p l i (by omega)
theorem takeWhile_stop {α : Type} (p : α → Bool) : ∀ (l : List α) (x : α), l[(l.takeWhile p).length]? = some x → p x = false
  | [], _, h => by simp at h
  | a :: l, x, h => by
    rw [List.takeWhile_cons] at h
    cases hp : p a with
    | false =>
      rw [hp] at h
      simp at h
      rw [← h]
      exact hp
    | true =>
      rw [hp] at h
      simp only [if_true, List.length_cons, List.getElem?_cons_succ] at h
      exact takeWhile_stop p l x h

theorem Two.row2 {R : List Rw} {l : Nd 0} (h : Two R l) (hf : Fits R) (s : Key) : Row2 (l.drop (pos (keys l) (jB s ⟨#[]⟩))) (seekR R s) s := by
  have hs := h.seek hf.ks s
  have hlen : (seekR R s).length = ((show List (Key × E 0) from l.drop (pos (keys l) (jB s ⟨#[]⟩))).takeWhile fun x => decide (secOf x.1 = s)).length := by rw [hs, List.length_map]
  refine ⟨fun i r hi => ?_, fun x hx => ?_, ?_, fun r hr => ?_, fun x hx => ?_⟩
  · have hlt := (List.getElem?_eq_some_iff.1 hi).1
    rw [takeWhile_get (fun x => decide (secOf x.1 = s)) _ i (by rw [← hlen]; exact hlt), hs, List.getElem?_map, hi]
    rfl
  · rw [hlen] at hx
    have := takeWhile_stop _ _ _ hx
    simpa using this
  · rw [hlen]
    exact (List.takeWhile_sublist _).length_le
  · have := (List.mem_filter.1 hr).2
    simpa using this
  · obtain ⟨r, hr, e1, _⟩ := (h.mem x.1 x.2).1 (List.mem_of_mem_drop hx)
    rw [e1]
    have h1 := jB_size r.sec r.key
    have h2 := hf.small r hr
    unfold jk
    omega
end Go.Proofs.YtedfijmaeoednaaGreatDoor

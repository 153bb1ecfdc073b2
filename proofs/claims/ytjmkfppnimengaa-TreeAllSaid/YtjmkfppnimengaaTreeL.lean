/- A key is cut out of a leaf. Conditions: a leaf in memory, its keys rising. -/
import Derived.Test.YtjmkfppnimengaaTreeK
namespace Go.Proofs.Ytjmkfppnimengaa
open Go.RowKit Go.Wh

/-- Put, at every level. -/
theorem put_at : ∀ (d : Nat) (w : World) (r : Nat) (l : Nd d) (F : List Nat) (k : Key) (v : Rid), At d w r l F → Able d l → Calls Try.prog 27 #[ptr r, .string k, ridV v] w (PutPost d w r l F k v)
  | 0, w, r, l, F, k, v, h, ha => put_zero w r l F k v h ha
  | d + 1, w, r, l, F, k, v, h, ha => put_in d (put_at d) w r l F k v h ha

theorem kcells_del (ks : List Key) (i : Nat) : (kcells ks).take (i * 1) ++ (kcells ks).drop ((i + 1) * 1) = kcells (ks.take i ++ ks.drop (i + 1)) := by
  simp [kcells, List.map_take, List.map_drop]
theorem pcells_del (ks : List Nat) (i : Nat) : (pcells ks).take (i * 1) ++ (pcells ks).drop ((i + 1) * 1) = pcells (ks.take i ++ ks.drop (i + 1)) := by
  simp [pcells, List.map_take, List.map_drop]
theorem rcells_del (vs : List Rid) (i : Nat) : (rcells vs).take (i * 2) ++ (rcells vs).drop ((i + 1) * 2) = rcells (vs.take i ++ vs.drop (i + 1)) := by
  rw [rcells_take, rcells_drop, rcells_append]

/-- All that a deletion of a key and a place wants, laid ahead of the walk. -/
theorem del2v {W : World} {r n kc cc j : Nat} {ka ca : Option Addr} {uv : Value} {ks : List Key} {vs : List Rid} {cs F : List Nat} (hn : NodeAt W r (.slice ka n kc) (.slice ca n cc) uv ks vs cs) (hF : F = foot r (.slice ka n kc) (.slice ca n cc) uv ∧ F.Nodup ∧ ∀ b ∈ F, b < W.heap.size)
    (hk : ks.length = n) (hc : vs.length = n) (h100 : n ≤ 1000) (hj : j < n) :
    (∀ w', Only (fun _ => False) W w' → Calls Try.prog 34 #[.slice ka n kc, .int .i64 j, .int .i64 ((j : Int) + 1)] w' fun e w2 =>
      ∃ a c, e = .returned (.slice a (n - 1) c) ∧ Turn W (fun _ => False) 1 (n - 1) (.slice ka n kc) (kcells (ks.take j ++ ks.drop (j + 1))) (.slice a (n - 1) c) w' w2) ∧
    (∀ w', Only (fun b => False ∨ (Value.slice ka n kc).ownBlock = some b) W w' → Calls Try.prog 35 #[.slice ca n cc, .int .i64 j, .int .i64 ((j : Int) + 1)] w' fun e w2 =>
      ∃ a c, e = .returned (.slice a (n - 1) c) ∧ Turn W (fun b => False ∨ (Value.slice ka n kc).ownBlock = some b) 2 (n - 1) (.slice ca n cc) (rcells (vs.take j ++ vs.drop (j + 1))) (.slice a (n - 1) c) w' w2) ∧
    (∀ w', Only (fun b => (False ∨ (Value.slice ka n kc).ownBlock = some b) ∨ (Value.slice ca n cc).ownBlock = some b) W w' → w'.cell? ⟨r, 0, none⟩ = some (.slice ka n kc) ∧ w'.cell? ⟨r, 1, none⟩ = some (.slice ca n cc) ∧ w'.frozen? ⟨r, 0, none⟩ = false ∧ w'.frozen? ⟨r, 1, none⟩ = false) := by
  obtain ⟨hF1, hd, hlt⟩ := hF
  have hA := foot_nodup.1 (hF1 ▸ hd)
  have lk := fun b h => hlt b (hF1 ▸ mem_foot.2 (.inr (.inl h)))
  have lc := fun b h => hlt b (hF1 ▸ mem_foot.2 (.inr (.inr (.inl h))))
  have hr := hlt r (hF1 ▸ mem_foot.2 (.inl rfl))
  have hnr : ¬ ((False ∨ (Value.slice ka n kc).ownBlock = some r) ∨ (Value.slice ca n cc).ownBlock = some r) := fun e => by
    rcases e with (e | e) | e
    · exact e
    · exact hA.rk r e rfl
    · exact hA.rv r e rfl
  have hk' := hn.k
  have hc' := hn.v
  rw [hk] at hk'
  rw [hc] at hc'
  refine ⟨fun w' hs => ?_, fun w' hs => ?_, fun w' hs => ⟨(hs.cell (p := ⟨r, 0, none⟩) hr hnr).trans (hn.cells.cell 0), (hs.cell (p := ⟨r, 1, none⟩) hr hnr).trans (hn.cells.cell 1), (hs.frozen (p := ⟨r, 0, none⟩) hr hnr).trans (hn.cells.free 0), (hs.frozen (p := ⟨r, 1, none⟩) hr hnr).trans (hn.cells.free 1)⟩⟩
  · refine (delete_s (.slice ka n kc) n (kcells ks) j w' (hk'.only hs fun _ _ e => e) (kcells_one ks) hj (by omega)).mono fun e w2 h => ?_
    rw [kcells_del] at h
    exact turn_of h hs lk
  · refine (delete_r (.slice ca n cc) n (rcells vs) j w' (hc'.only hs fun g hg e => ?_) (rcells_one vs) hj (by omega)).mono fun e w2 h => ?_
    · rcases e with e | e
      · exact e
      · exact hA.akv g e hg
    · rw [rcells_del] at h
      exact turn_of h hs lc

/-- All that a deletion of a key and a child wants, laid ahead of the walk. -/
theorem del2c {W : World} {r n kc cc j : Nat} {ka ca : Option Addr} {uv : Value} {ks : List Key} {vs : List Rid} {cs F : List Nat} (hn : NodeAt W r (.slice ka n kc) uv (.slice ca n cc) ks vs cs) (hF : F = foot r (.slice ka n kc) uv (.slice ca n cc) ∧ F.Nodup ∧ ∀ b ∈ F, b < W.heap.size)
    (hk : ks.length = n) (hc : cs.length = n) (h100 : n ≤ 1000) (hj : j < n) :
    (∀ w', Only (fun _ => False) W w' → Calls Try.prog 34 #[.slice ka n kc, .int .i64 j, .int .i64 ((j : Int) + 1)] w' fun e w2 =>
      ∃ a c, e = .returned (.slice a (n - 1) c) ∧ Turn W (fun _ => False) 1 (n - 1) (.slice ka n kc) (kcells (ks.take j ++ ks.drop (j + 1))) (.slice a (n - 1) c) w' w2) ∧
    (∀ w', Only (fun b => False ∨ (Value.slice ka n kc).ownBlock = some b) W w' → Calls Try.prog 48 #[.slice ca n cc, .int .i64 j, .int .i64 ((j : Int) + 1)] w' fun e w2 =>
      ∃ a c, e = .returned (.slice a (n - 1) c) ∧ Turn W (fun b => False ∨ (Value.slice ka n kc).ownBlock = some b) 1 (n - 1) (.slice ca n cc) (pcells (cs.take j ++ cs.drop (j + 1))) (.slice a (n - 1) c) w' w2) ∧
    (∀ w', Only (fun b => (False ∨ (Value.slice ka n kc).ownBlock = some b) ∨ (Value.slice ca n cc).ownBlock = some b) W w' → w'.cell? ⟨r, 0, none⟩ = some (.slice ka n kc) ∧ w'.cell? ⟨r, 2, none⟩ = some (.slice ca n cc) ∧ w'.frozen? ⟨r, 0, none⟩ = false ∧ w'.frozen? ⟨r, 2, none⟩ = false) := by
  obtain ⟨hF1, hd, hlt⟩ := hF
  have hA := foot_nodup.1 (hF1 ▸ hd)
  have lk := fun b h => hlt b (hF1 ▸ mem_foot.2 (.inr (.inl h)))
  have lc := fun b h => hlt b (hF1 ▸ mem_foot.2 (.inr (.inr (.inr h))))
  have hr := hlt r (hF1 ▸ mem_foot.2 (.inl rfl))
  have hnr : ¬ ((False ∨ (Value.slice ka n kc).ownBlock = some r) ∨ (Value.slice ca n cc).ownBlock = some r) := fun e => by
    rcases e with (e | e) | e
    · exact e
    · exact hA.rk r e rfl
    · exact hA.rc r e rfl
  have hk' := hn.k
  have hc' := hn.c
  rw [hk] at hk'
  rw [hc] at hc'
  refine ⟨fun w' hs => ?_, fun w' hs => ?_, fun w' hs => ⟨(hs.cell (p := ⟨r, 0, none⟩) hr hnr).trans (hn.cells.cell 0), (hs.cell (p := ⟨r, 2, none⟩) hr hnr).trans (hn.cells.cell 2), (hs.frozen (p := ⟨r, 0, none⟩) hr hnr).trans (hn.cells.free 0), (hs.frozen (p := ⟨r, 2, none⟩) hr hnr).trans (hn.cells.free 2)⟩⟩
  · refine (delete_s (.slice ka n kc) n (kcells ks) j w' (hk'.only hs fun _ _ e => e) (kcells_one ks) hj (by omega)).mono fun e w2 h => ?_
    rw [kcells_del] at h
    exact turn_of h hs lk
  · refine (delete_n (.slice ca n cc) n (pcells cs) j w' (hc'.only hs fun g hg e => ?_) (pcells_one cs) hj (by omega)).mono fun e w2 h => ?_
    · rcases e with e | e
      · exact e
      · exact hA.akc g e hg
    · rw [pcells_del] at h
      exact turn_of h hs lc

def cutLeaf (ks : List Key) (vs : List Rid) (k : Key) : List Key × List Rid :=
  if hasK ks k then (ks.take (pos ks k) ++ ks.drop (pos ks k + 1), vs.take (pos ks k) ++ vs.drop (pos ks k + 1)) else (ks, vs)

set_option maxHeartbeats 1000000 in
set_option maxRecDepth 100000 in
theorem cut_leaf (w : World) (r : Nat) (ks : List Key) (vs : List Rid) (F : List Nat) (k : Key) (h : Raw w r ks vs [] F) (hs : KS ks) (hl : vs.length = ks.length) (hn : ks.length ≤ 100) :
    Calls Try.prog 25 #[ptr r, .string k] w (RawPost w r (cutLeaf ks vs k).1 (cutLeaf ks vs k).2 [] F (.bool (hasK ks k))) := by
  obtain ⟨kv, vv, cv, hnd, hF, hd, hlt⟩ := id h
  obtain ⟨ca, cc, rfl⟩ := hnd.c.form'
  obtain ⟨ka, kc, rfl⟩ := hnd.k.form'
  obtain ⟨va, vc, rfl⟩ := hnd.v.form'
  have c0 : w.cell? ⟨r, 0, none⟩ = some (.slice ka ks.length kc) := hnd.cells.cell 0
  have c1 : w.cell? ⟨r, 1, none⟩ = some (.slice va vs.length vc) := hnd.cells.cell 1
  have c2 : w.cell? ⟨r, 2, none⟩ = some (.slice ca 0 cc) := hnd.cells.cell 2
  have HS := Lib.hid (search_any (.slice ka ks.length kc) ks.length ks k w hnd.k hs (by omega))
  have H := Lib.hid h
  have HN := Lib.hid hnd
  have HF := Lib.hid (And.intro hF (And.intro hd hlt))
  have HL := Lib.hid hl
  obtain ⟨n, hkn⟩ : ∃ n, ks.length = n := ⟨_, rfl⟩
  have HKN := Lib.hid hkn
  rw [hkn] at c0 HS HN HF hl
  rw [hl] at c1 HN HF
  clear h hnd hF hd hlt
  cases hk : hasK ks k with
  | true =>
    obtain ⟨i, hi⟩ : ∃ i, pos ks k = i := ⟨_, rfl⟩
    have hil : i < n := by
      have hget : ks[pos ks k]? = some k := by simpa [hasK] using hk
      rw [← hi, ← hkn]; exact (List.getElem?_eq_some_iff.1 hget).1
    rw [hi, hk] at HS
    obtain ⟨i1, i2, i3⟩ := del2v (j := i) HN.out HF.out hkn hl (by omega) hil
    have I1 := Lib.hid i1
    have I2 := Lib.hid i2
    have ZZ := Lib.hid i3
    have hpl : cutLeaf ks vs k = (ks.take i ++ ks.drop (i + 1), vs.take i ++ vs.drop (i + 1)) := by unfold cutLeaf; rw [hk, hi]; rfl
    have l1 : n - 1 = (ks.take i ++ ks.drop (i + 1)).length := by simp; omega
    have l2 : n - 1 = (vs.take i ++ vs.drop (i + 1)).length := by simp; omega
    have HE := Lib.hid (And.intro hpl (And.intro l1 l2))
    have O0 := Lib.hid (show Only (fun _ => False) w w.drew from (Only.refl _ w).drew)
    have u1 : IntKind.i64.wrap ((i : Int) + 1) = (i : Int) + 1 := IntWalk.i64_in _ (by omega)
    clear hpl l1 l2 i1 i2 i3 hi hk hkn hl hn hil hs
    unfold ptr
    go_enter Try.func25, Try.ntmps25
    go_wp2_with fail
    refine HS.out.mono ?_
    rintro e w1 ⟨rfl, rfl⟩
    go_wp2_with fail
    refine wp_region_D_drew (D := (fun i => [0, 1, 2, 3, 4, 6, 7, 8, 10, 11, 12, 14, 15, 16, 18, 19, 20, 21, 22, 23].contains i)) (S := (fun w' => w'.cell? ⟨r, 0, none⟩ = some (.slice ka n kc) ∧ w'.cell? ⟨r, 1, none⟩ = some (.slice va n vc))) (by kernel_rfl) ?_ (fun hHeld => ?_)
    · ((try dsimp only) <;> (first | (with_reducible exact And.intro (ZZ.out _ (O0.out.mono fun _ e => e.elim)).1 (ZZ.out _ (O0.out.mono fun _ e => e.elim)).2.1) | (with_reducible exact And.intro (ZZ.out _ T2.only).1 (ZZ.out _ T2.only).2.1) | (with_reducible exact And.intro (ZZ.out _ (T1.only.mono fun _ e => .inl e)).1 (ZZ.out _ (T1.only.mono fun _ e => .inl e)).2.1)))
    (refine takeD (i := 0) (some 26) (v := ?_) rfl (by rfl) (by rfl) (by kernel_rfl) (by rfl) (fun _ _ _ h => h) ?_ ?_; rotate_left; (intro w; go_simp; try with_reducible rfl); try go_frame)
    (refine takeD (i := 1) (some 27) (v := ?_) rfl (by rfl) (by rfl) (by kernel_rfl) (by rfl) (fun _ _ _ h => h) ?_ ?_; rotate_left; (intro w; go_simp; try with_reducible rfl); try go_frame)
    (refine takeD (i := 2) (some 28) (v := ?_) rfl (by rfl) (by rfl) (by kernel_rfl) (by rfl) (fun _ _ _ h => h) ?_ ?_; rotate_left; (intro w; go_simp; try with_reducible rfl); try go_frame)
    (refine takeD (i := 3) (some 29) (v := ?_) rfl (by rfl) (by rfl) (by kernel_rfl) (by rfl) (fun _ _ _ h => h) ?_ ?_; rotate_left; (intro w; go_simp; try with_reducible rfl); try go_frame)
    (refine takeD (i := 4) (some 30) (v := ?_) rfl (by rfl) (by rfl) (by kernel_rfl) (by rfl) (fun _ _ _ h => h) ?_ ?_; rotate_left; (intro w; go_simp; try with_reducible rfl); try go_frame)
    (refine takeD (i := 6) (some 32) (v := ?_) rfl (by rfl) (by rfl) (by kernel_rfl) (by rfl) (fun _ _ _ h => h) ?_ ?_; rotate_left; (intro w; go_simp; try with_reducible rfl); try go_frame)
    (refine takeD (i := 7) (some 33) (v := ?_) rfl (by rfl) (by rfl) (by kernel_rfl) (by rfl) (fun _ _ _ h => h) ?_ ?_; rotate_left; (intro w; go_simp; try with_reducible rfl); try go_frame)
    (refine takeD (i := 8) (some 34) (v := ?_) rfl (by rfl) (by rfl) (by kernel_rfl) (by rfl) (fun _ _ _ h => h) ?_ ?_; rotate_left; (intro w; go_simp; try with_reducible rfl); try go_frame)
    (refine takeD (i := 10) (some 36) (v := ?_) rfl (by rfl) (by rfl) (by kernel_rfl) (by rfl) (fun _ _ _ h => h) ?_ ?_; rotate_left; (intro w; go_simp; try with_reducible rfl); try go_frame)
    (refine takeD (i := 11) (some 37) (v := ?_) rfl (by rfl) (by rfl) (by kernel_rfl) (by rfl) (fun _ _ _ h => h) ?_ ?_; rotate_left; (intro w; go_simp; try with_reducible rfl); try go_frame)
    (refine takeD (i := 12) (some 38) (v := ?_) rfl (by rfl) (by rfl) (by kernel_rfl) (by rfl) (fun _ _ _ h => h) ?_ ?_; rotate_left; (intro w; go_simp; try with_reducible rfl); try go_frame)
    (refine takeD (i := 14) (some 40) (v := ?_) rfl (by rfl) (by rfl) (by kernel_rfl) (by rfl) (fun _ _ _ h => h) ?_ ?_; rotate_left; (intro w; go_simp; try with_reducible rfl); try go_frame)
    (refine takeD (i := 15) (some 41) (v := ?_) rfl (by rfl) (by rfl) (by kernel_rfl) (by rfl) (fun _ _ _ h => h) ?_ ?_; rotate_left; (intro w; go_simp; try with_reducible rfl); try go_frame)
    (refine takeD (i := 16) (some 42) (v := ?_) rfl (by rfl) (by rfl) (by kernel_rfl) (by rfl) (fun _ _ _ h => h) ?_ ?_; rotate_left; (intro w; go_simp; try with_reducible rfl); try go_frame)
    (refine takeS (i := 5) (some 31) (v := ?_) rfl (by rfl) (by rfl) (by kernel_rfl) (by rfl) (fun _ _ _ h => h) (by assumption) ?_ ?_; rotate_left; (intro w hSw; (try dsimp only at hSw); go_simp; try with_reducible rfl); try go_frame)
    (refine takeS (i := 13) (some 39) (v := ?_) rfl (by rfl) (by rfl) (by kernel_rfl) (by rfl) (fun _ _ _ h => h) (by assumption) ?_ ?_; rotate_left; (intro w hSw; (try dsimp only at hSw); go_simp; try with_reducible rfl); try go_frame)
    refine wpAnyD_ready (rs := [9]) (by kernel_rfl) (by simp) ?_
    refine ReadyD.cons rfl (fun K hK => ?_) ?_
    go_simp
    (first | (go_at_call 34; (with_reducible refine (I1.out _ O0.out).mono ?_); rintro e w2 ⟨a1, c1, rfl, T1⟩) | (go_at_call 35; (with_reducible refine (I2.out _ T1.only).mono ?_); rintro e w3 ⟨a2, c2, rfl, T2⟩; obtain ⟨g0, g1, g2, g3⟩ := ZZ.out _ T2.only))
    go_wp2_with fail
    (refine hK.out _ _ ?_ (fun hNew => ?_); (focus ((try dsimp only) <;> (first | (with_reducible exact And.intro (ZZ.out _ (O0.out.mono fun _ e => e.elim)).1 (ZZ.out _ (O0.out.mono fun _ e => e.elim)).2.1) | (with_reducible exact And.intro (ZZ.out _ T2.only).1 (ZZ.out _ T2.only).2.1) | (with_reducible exact And.intro (ZZ.out _ (T1.only.mono fun _ e => .inl e)).1 (ZZ.out _ (T1.only.mono fun _ e => .inl e)).2.1)))); clear hHeld; have hHeld := hNew; clear hNew)
    (clear hK K; try go_frame)
    refine wpAnyD_ready (rs := [17]) (by kernel_rfl) (by simp) ?_
    refine ReadyD.cons rfl (fun K hK => ?_) ?_
    go_simp
    (first | (go_at_call 34; (with_reducible refine (I1.out _ O0.out).mono ?_); rintro e w2 ⟨a1, c1, rfl, T1⟩) | (go_at_call 35; (with_reducible refine (I2.out _ T1.only).mono ?_); rintro e w3 ⟨a2, c2, rfl, T2⟩; obtain ⟨g0, g1, g2, g3⟩ := ZZ.out _ T2.only))
    go_wp2_with fail
    (refine hK.out _ _ ?_ (fun hNew => ?_); (focus ((try dsimp only) <;> (first | (with_reducible exact And.intro (ZZ.out _ (O0.out.mono fun _ e => e.elim)).1 (ZZ.out _ (O0.out.mono fun _ e => e.elim)).2.1) | (with_reducible exact And.intro (ZZ.out _ T2.only).1 (ZZ.out _ T2.only).2.1) | (with_reducible exact And.intro (ZZ.out _ (T1.only.mono fun _ e => .inl e)).1 (ZZ.out _ (T1.only.mono fun _ e => .inl e)).2.1)))); clear hHeld; have hHeld := hNew; clear hNew)
    (clear hK K; try go_frame)
    (refine takeD (i := 18) (some 44) (v := ?_) rfl (by rfl) (by rfl) (by kernel_rfl) (by rfl) (fun _ _ _ h => h) ?_ ?_; rotate_left; (intro w; go_simp; try with_reducible rfl); try go_frame)
    (refine takeD (i := 19) (some 45) (v := ?_) rfl (by rfl) (by rfl) (by kernel_rfl) (by rfl) (fun _ _ _ h => h) ?_ ?_; rotate_left; (intro w; go_simp; try with_reducible rfl); try go_frame)
    refine wpAnyD_ready (rs := [20]) (by kernel_rfl) (by simp) ?_
    refine ReadyD.last rfl (by rfl) (fun K hK => ?_) ?_
    go_simp
    refine hK.out _ _ ?_
    (clear hK K; try go_frame)
    (refine takeD (i := 21) (some 46) (v := ?_) rfl (by rfl) (by rfl) (by kernel_rfl) (by rfl) (fun _ _ _ h => h) ?_ ?_; rotate_left; (intro w; go_simp; try with_reducible rfl); try go_frame)
    (refine takeD (i := 22) (some 47) (v := ?_) rfl (by rfl) (by rfl) (by kernel_rfl) (by rfl) (fun _ _ _ h => h) ?_ ?_; rotate_left; (intro w; go_simp; try with_reducible rfl); try go_frame)
    refine wpAnyD_ready (rs := [23]) (by kernel_rfl) (by simp) ?_
    refine ReadyD.last rfl (by rfl) (fun K hK => ?_) ?_
    go_simp
    refine hK.out _ _ ?_
    (clear hK K; try go_frame)
    refine wpAnyD_done (by kernel_rfl) ?_ _
    rotate_left
    exact ReadyD.nil
    exact ReadyD.nil
    exact ReadyD.nil
    exact ReadyD.nil
    have FC := Lib.hid (two_turned HN.out HF.out (Still.refl _) T1 T2 (Still.refl _) HE.out.2.1 HE.out.2.2 (.bool true))
    go_wp2_with fail
    go_ret
    rw [HE.out.1]
    exact FC.out
  | false =>
    have FIN := Lib.hid (show RawPost w r (cutLeaf ks vs k).1 (cutLeaf ks vs k).2 [] F (.bool false) (.returned (.bool false)) w from by
      have : cutLeaf ks vs k = (ks, vs) := by unfold cutLeaf; rw [hk]; rfl
      rw [this]
      exact ⟨F, rfl, H.out, Only.refl _ _, fun b hb => .inl hb⟩)
    rw [hk] at HS
    clear hk hkn hl hn hs
    unfold ptr
    go_enter Try.func25, Try.ntmps25
    go_wp2_with fail
    refine HS.out.mono ?_
    rintro e w1 ⟨rfl, rfl⟩
    go_wp2_with fail
    go_ret
    exact FIN.out
end Go.Proofs.Ytjmkfppnimengaa

/- A key is cut out of a leaf. Conditions: a leaf in memory, its keys rising. The second instance: a place and a second key. Two neighbours made one: what that comes to in memory. Conditions: two nodes in memory. The second instance: a place and a second key. slices.Concat of two rows (with slices.Grow of none), at one kind of element. Conditions: rows that can be read, not too long. slices.Concat of two rows (with slices.Grow of none), at one kind of element. Conditions: rows that can be read, not too long. A child that is too small is joined with its neighbour: the walk. Conditions: a node of children in memory. The second instance: a place and a second key. -/
import Derived.Test.YtedfijmaeoednaaGreatDoorBx15
import Derived.Lib.AppendZeros
namespace Go.Proofs.YtedfijmaeoednaaGreatDoor.Ke
open Go.RowKit Go.Wh

/-- Put, at every level. -/
theorem put_at : ∀ (d : Nat) (w : World) (r : Nat) (l : Nd d) (F : List Nat) (k : Key) (v : Rid), At d w r l F → Able d l → Calls Tryz.prog 45 #[ptr r, .string k, ridV v] w (PutPost d w r l F k v)
  | 0, w, r, l, F, k, v, h, ha => put_zero w r l F k v h ha
  | d + 1, w, r, l, F, k, v, h, ha => put_in d (put_at d) w r l F k v h ha

theorem rcells_del (vs : List Rid) (i : Nat) : (rcells vs).take (i * 3) ++ (rcells vs).drop ((i + 1) * 3) = rcells (vs.take i ++ vs.drop (i + 1)) := by
  rw [rcells_take, rcells_drop, rcells_append]

/-- All that a deletion of a key and a place wants, laid ahead of the walk. -/
theorem del2v {W : World} {r n kc cc j : Nat} {ka ca : Option Addr} {uv : Value} {ks : List Key} {vs : List Rid} {cs F : List Nat} (hn : NodeAt W r (.slice ka n kc) (.slice ca n cc) uv ks vs cs) (hF : F = foot r (.slice ka n kc) (.slice ca n cc) uv ∧ F.Nodup ∧ ∀ b ∈ F, b < W.heap.size)
    (hk : ks.length = n) (hc : vs.length = n) (h100 : n ≤ 1000) (hj : j < n) :
    (∀ w', Only (fun _ => False) W w' → Calls Tryz.prog 60 #[.slice ka n kc, .int .i64 j, .int .i64 ((j : Int) + 1)] w' fun e w2 =>
      ∃ a c, e = .returned (.slice a (n - 1) c) ∧ Turn W (fun _ => False) 1 (n - 1) (.slice ka n kc) (kcells (ks.take j ++ ks.drop (j + 1))) (.slice a (n - 1) c) w' w2) ∧
    (∀ w', Only (fun b => False ∨ (Value.slice ka n kc).ownBlock = some b) W w' → Calls Tryz.prog 61 #[.slice ca n cc, .int .i64 j, .int .i64 ((j : Int) + 1)] w' fun e w2 =>
      ∃ a c, e = .returned (.slice a (n - 1) c) ∧ Turn W (fun b => False ∨ (Value.slice ka n kc).ownBlock = some b) 3 (n - 1) (.slice ca n cc) (rcells (vs.take j ++ vs.drop (j + 1))) (.slice a (n - 1) c) w' w2) ∧
    (∀ w', Only (fun b => (False ∨ (Value.slice ka n kc).ownBlock = some b) ∨ (Value.slice ca n cc).ownBlock = some b) W w' → w'.cell? ⟨r, 0, none⟩ = some (.slice ka n kc) ∧ w'.cell? ⟨r, 1, none⟩ = some (.slice ca n cc) ∧ w'.frozen? ⟨r, 0, none⟩ = false ∧ w'.frozen? ⟨r, 1, none⟩ = false) := by
  obtain ⟨hF1, hd, hlt⟩ := hF
  have hA := foot_nodup.1 (hF1 ▸ hd)
  have lk := fun b h => hlt b (hF1 ▸ mem_foot.2 (.inr (.inl h)))
  have lc := fun b h => hlt b (hF1 ▸ mem_foot.2 (.inr (.inr (.inl h))))
  have hr := hlt r (hF1 ▸ mem_foot.2 (.inl rfl))
  have hnr : ¬ ((False ∨ (Value.slice ka n kc).ownBlock = some r) ∨ (Value.slice ca n cc).ownBlock = some r) := fun e => by
    rcases e with (e | e) | e
    · exact e
    · exact hA.rk r e rfl
    · exact hA.rv r e rfl
  have hk' := hn.k
  have hc' := hn.v
  rw [hk] at hk'
  rw [hc] at hc'
  refine ⟨fun w' hs => ?_, fun w' hs => ?_, fun w' hs => ⟨(hs.cell (p := ⟨r, 0, none⟩) hr hnr).trans (hn.cells.cell 0), (hs.cell (p := ⟨r, 1, none⟩) hr hnr).trans (hn.cells.cell 1), (hs.frozen (p := ⟨r, 0, none⟩) hr hnr).trans (hn.cells.free 0), (hs.frozen (p := ⟨r, 1, none⟩) hr hnr).trans (hn.cells.free 1)⟩⟩
  · refine (delete_s (.slice ka n kc) n (kcells ks) j w' (hk'.only hs fun _ _ e => e) (kcells_one ks) hj (by omega)).mono fun e w2 h => ?_
    rw [kcells_del] at h
    exact turn_of h hs lk
  · refine (delete_k (.slice ca n cc) n (rcells vs) j w' (hc'.only hs fun g hg e => ?_) (rcells_one vs) hj (by omega)).mono fun e w2 h => ?_
    · rcases e with e | e
      · exact e
      · exact hA.akv g e hg
    · rw [rcells_del] at h
      exact turn_of h hs lc

/-- All that a deletion of a key and a child wants, laid ahead of the walk. -/
theorem del2c {W : World} {r n kc cc j : Nat} {ka ca : Option Addr} {uv : Value} {ks : List Key} {vs : List Rid} {cs F : List Nat} (hn : NodeAt W r (.slice ka n kc) uv (.slice ca n cc) ks vs cs) (hF : F = foot r (.slice ka n kc) uv (.slice ca n cc) ∧ F.Nodup ∧ ∀ b ∈ F, b < W.heap.size)
    (hk : ks.length = n) (hc : cs.length = n) (h100 : n ≤ 1000) (hj : j < n) :
    (∀ w', Only (fun _ => False) W w' → Calls Tryz.prog 60 #[.slice ka n kc, .int .i64 j, .int .i64 ((j : Int) + 1)] w' fun e w2 =>
      ∃ a c, e = .returned (.slice a (n - 1) c) ∧ Turn W (fun _ => False) 1 (n - 1) (.slice ka n kc) (kcells (ks.take j ++ ks.drop (j + 1))) (.slice a (n - 1) c) w' w2) ∧
    (∀ w', Only (fun b => False ∨ (Value.slice ka n kc).ownBlock = some b) W w' → Calls Tryz.prog 87 #[.slice ca n cc, .int .i64 j, .int .i64 ((j : Int) + 1)] w' fun e w2 =>
      ∃ a c, e = .returned (.slice a (n - 1) c) ∧ Turn W (fun b => False ∨ (Value.slice ka n kc).ownBlock = some b) 1 (n - 1) (.slice ca n cc) (pcells (cs.take j ++ cs.drop (j + 1))) (.slice a (n - 1) c) w' w2) ∧
    (∀ w', Only (fun b => (False ∨ (Value.slice ka n kc).ownBlock = some b) ∨ (Value.slice ca n cc).ownBlock = some b) W w' → w'.cell? ⟨r, 0, none⟩ = some (.slice ka n kc) ∧ w'.cell? ⟨r, 2, none⟩ = some (.slice ca n cc) ∧ w'.frozen? ⟨r, 0, none⟩ = false ∧ w'.frozen? ⟨r, 2, none⟩ = false) := by
  obtain ⟨hF1, hd, hlt⟩ := hF
  have hA := foot_nodup.1 (hF1 ▸ hd)
  have lk := fun b h => hlt b (hF1 ▸ mem_foot.2 (.inr (.inl h)))
  have lc := fun b h => hlt b (hF1 ▸ mem_foot.2 (.inr (.inr (.inr h))))
  have hr := hlt r (hF1 ▸ mem_foot.2 (.inl rfl))
  have hnr : ¬ ((False ∨ (Value.slice ka n kc).ownBlock = some r) ∨ (Value.slice ca n cc).ownBlock = some r) := fun e => by
    rcases e with (e | e) | e
    · exact e
    · exact hA.rk r e rfl
    · exact hA.rc r e rfl
  have hk' := hn.k
  have hc' := hn.c
  rw [hk] at hk'
  rw [hc] at hc'
  refine ⟨fun w' hs => ?_, fun w' hs => ?_, fun w' hs => ⟨(hs.cell (p := ⟨r, 0, none⟩) hr hnr).trans (hn.cells.cell 0), (hs.cell (p := ⟨r, 2, none⟩) hr hnr).trans (hn.cells.cell 2), (hs.frozen (p := ⟨r, 0, none⟩) hr hnr).trans (hn.cells.free 0), (hs.frozen (p := ⟨r, 2, none⟩) hr hnr).trans (hn.cells.free 2)⟩⟩
  · refine (delete_s (.slice ka n kc) n (kcells ks) j w' (hk'.only hs fun _ _ e => e) (kcells_one ks) hj (by omega)).mono fun e w2 h => ?_
    rw [kcells_del] at h
    exact turn_of h hs lk
  · refine (delete_m (.slice ca n cc) n (pcells cs) j w' (hc'.only hs fun g hg e => ?_) (pcells_one cs) hj (by omega)).mono fun e w2 h => ?_
    · rcases e with e | e
      · exact e
      · exact hA.akc g e hg
    · rw [pcells_del] at h
      exact turn_of h hs lc

def cutLeaf (ks : List Key) (vs : List Rid) (k : Key) : List Key × List Rid :=
  if hasK ks k then (ks.take (pos ks k) ++ ks.drop (pos ks k + 1), vs.take (pos ks k) ++ vs.drop (pos ks k + 1)) else (ks, vs)

set_option maxHeartbeats 1000000 in
set_option maxRecDepth 100000 in
theorem cut_leaf (w : World) (r : Nat) (ks : List Key) (vs : List Rid) (F : List Nat) (k : Key) (h : Raw w r ks vs [] F) (hs : KS ks) (hl : vs.length = ks.length) (hn : ks.length ≤ 100) :
    Calls Tryz.prog 42 #[ptr r, .string k] w (RawPost w r (cutLeaf ks vs k).1 (cutLeaf ks vs k).2 [] F (.bool (hasK ks k))) := by
  obtain ⟨kv, vv, cv, hnd, hF, hd, hlt⟩ := id h
  obtain ⟨ca, cc, rfl⟩ := hnd.c.form'
  obtain ⟨ka, kc, rfl⟩ := hnd.k.form'
  obtain ⟨va, vc, rfl⟩ := hnd.v.form'
  have c0 : w.cell? ⟨r, 0, none⟩ = some (.slice ka ks.length kc) := hnd.cells.cell 0
  have c1 : w.cell? ⟨r, 1, none⟩ = some (.slice va vs.length vc) := hnd.cells.cell 1
  have c2 : w.cell? ⟨r, 2, none⟩ = some (.slice ca 0 cc) := hnd.cells.cell 2
  have HS := Lib.hid (search_any (.slice ka ks.length kc) ks.length ks k w hnd.k hs (by omega))
  have H := Lib.hid h
  have HN := Lib.hid hnd
  have HF := Lib.hid (And.intro hF (And.intro hd hlt))
  have HL := Lib.hid hl
  obtain ⟨n, hkn⟩ : ∃ n, ks.length = n := ⟨_, rfl⟩
  have HKN := Lib.hid hkn
  rw [hkn] at c0 HS HN HF hl
  rw [hl] at c1 HN HF
  clear h hnd hF hd hlt
  cases hk : hasK ks k with
  | true =>
    obtain ⟨i, hi⟩ : ∃ i, pos ks k = i := ⟨_, rfl⟩
    have hil : i < n := by
      have hget : ks[pos ks k]? = some k := by simpa [hasK] using hk
      rw [← hi, ← hkn]; exact (List.getElem?_eq_some_iff.1 hget).1
    rw [hi, hk] at HS
    obtain ⟨i1, i2, i3⟩ := del2v (j := i) HN.out HF.out hkn hl (by omega) hil
    have I1 := Lib.hid i1
    have I2 := Lib.hid i2
    have ZZ := Lib.hid i3
    have hpl : cutLeaf ks vs k = (ks.take i ++ ks.drop (i + 1), vs.take i ++ vs.drop (i + 1)) := by unfold cutLeaf; rw [hk, hi]; rfl
    have l1 : n - 1 = (ks.take i ++ ks.drop (i + 1)).length := by simp; omega
    have l2 : n - 1 = (vs.take i ++ vs.drop (i + 1)).length := by simp; omega
    have HE := Lib.hid (And.intro hpl (And.intro l1 l2))
    have O0 := Lib.hid (show Only (fun _ => False) w w.drew from (Only.refl _ w).drew)
    have u1 : IntKind.i64.wrap ((i : Int) + 1) = (i : Int) + 1 := IntWalk.i64_in _ (by omega)
    clear hpl l1 l2 i1 i2 i3 hi hk hkn hl hn hil hs
    unfold ptr
    go_enter Tryz.func42, Tryz.ntmps42
    go_wp2_with fail
    refine HS.out.mono ?_
    rintro e w1 ⟨rfl, rfl⟩
    go_wp2_with fail
    refine wp_region_D_drew (D := (fun i => [0, 1, 2, 3, 4, 6, 7, 8, 10, 11, 12, 14, 15, 16, 18, 19, 20, 21, 22, 23].contains i)) (S := (fun w' => w'.cell? ⟨r, 0, none⟩ = some (.slice ka n kc) ∧ w'.cell? ⟨r, 1, none⟩ = some (.slice va n vc))) (by kernel_rfl) ?_ (fun hHeld => ?_)
    · ((try dsimp only) <;> (first | (with_reducible exact And.intro (ZZ.out _ (O0.out.mono fun _ e => e.elim)).1 (ZZ.out _ (O0.out.mono fun _ e => e.elim)).2.1) | (with_reducible exact And.intro (ZZ.out _ T2.only).1 (ZZ.out _ T2.only).2.1) | (with_reducible exact And.intro (ZZ.out _ (T1.only.mono fun _ e => .inl e)).1 (ZZ.out _ (T1.only.mono fun _ e => .inl e)).2.1)))
    (refine takeD (i := 0) (some 26) (v := ?_) rfl (by rfl) (by rfl) (by kernel_rfl) (by rfl) (fun _ _ _ h => h) ?_ ?_; rotate_left; (intro w; go_simp; try with_reducible rfl); try go_frame)
    (refine takeD (i := 1) (some 27) (v := ?_) rfl (by rfl) (by rfl) (by kernel_rfl) (by rfl) (fun _ _ _ h => h) ?_ ?_; rotate_left; (intro w; go_simp; try with_reducible rfl); try go_frame)
    (refine takeD (i := 2) (some 28) (v := ?_) rfl (by rfl) (by rfl) (by kernel_rfl) (by rfl) (fun _ _ _ h => h) ?_ ?_; rotate_left; (intro w; go_simp; try with_reducible rfl); try go_frame)
    (refine takeD (i := 3) (some 29) (v := ?_) rfl (by rfl) (by rfl) (by kernel_rfl) (by rfl) (fun _ _ _ h => h) ?_ ?_; rotate_left; (intro w; go_simp; try with_reducible rfl); try go_frame)
    (refine takeD (i := 4) (some 30) (v := ?_) rfl (by rfl) (by rfl) (by kernel_rfl) (by rfl) (fun _ _ _ h => h) ?_ ?_; rotate_left; (intro w; go_simp; try with_reducible rfl); try go_frame)
    (refine takeD (i := 6) (some 32) (v := ?_) rfl (by rfl) (by rfl) (by kernel_rfl) (by rfl) (fun _ _ _ h => h) ?_ ?_; rotate_left; (intro w; go_simp; try with_reducible rfl); try go_frame)
    (refine takeD (i := 7) (some 33) (v := ?_) rfl (by rfl) (by rfl) (by kernel_rfl) (by rfl) (fun _ _ _ h => h) ?_ ?_; rotate_left; (intro w; go_simp; try with_reducible rfl); try go_frame)
    (refine takeD (i := 8) (some 34) (v := ?_) rfl (by rfl) (by rfl) (by kernel_rfl) (by rfl) (fun _ _ _ h => h) ?_ ?_; rotate_left; (intro w; go_simp; try with_reducible rfl); try go_frame)
    (refine takeD (i := 10) (some 36) (v := ?_) rfl (by rfl) (by rfl) (by kernel_rfl) (by rfl) (fun _ _ _ h => h) ?_ ?_; rotate_left; (intro w; go_simp; try with_reducible rfl); try go_frame)
    (refine takeD (i := 11) (some 37) (v := ?_) rfl (by rfl) (by rfl) (by kernel_rfl) (by rfl) (fun _ _ _ h => h) ?_ ?_; rotate_left; (intro w; go_simp; try with_reducible rfl); try go_frame)
    (refine takeD (i := 12) (some 38) (v := ?_) rfl (by rfl) (by rfl) (by kernel_rfl) (by rfl) (fun _ _ _ h => h) ?_ ?_; rotate_left; (intro w; go_simp; try with_reducible rfl); try go_frame)
    (refine takeD (i := 14) (some 40) (v := ?_) rfl (by rfl) (by rfl) (by kernel_rfl) (by rfl) (fun _ _ _ h => h) ?_ ?_; rotate_left; (intro w; go_simp; try with_reducible rfl); try go_frame)
    (refine takeD (i := 15) (some 41) (v := ?_) rfl (by rfl) (by rfl) (by kernel_rfl) (by rfl) (fun _ _ _ h => h) ?_ ?_; rotate_left; (intro w; go_simp; try with_reducible rfl); try go_frame)
    (refine takeD (i := 16) (some 42) (v := ?_) rfl (by rfl) (by rfl) (by kernel_rfl) (by rfl) (fun _ _ _ h => h) ?_ ?_; rotate_left; (intro w; go_simp; try with_reducible rfl); try go_frame)
    (refine takeS (i := 5) (some 31) (v := ?_) rfl (by rfl) (by rfl) (by kernel_rfl) (by rfl) (fun _ _ _ h => h) (by assumption) ?_ ?_; rotate_left; (intro w hSw; (try dsimp only at hSw); go_simp; try with_reducible rfl); try go_frame)
    (refine takeS (i := 13) (some 39) (v := ?_) rfl (by rfl) (by rfl) (by kernel_rfl) (by rfl) (fun _ _ _ h => h) (by assumption) ?_ ?_; rotate_left; (intro w hSw; (try dsimp only at hSw); go_simp; try with_reducible rfl); try go_frame)
    refine wpAnyD_ready (rs := [9]) (by kernel_rfl) (by simp) ?_
    refine ReadyD.cons rfl (fun K hK => ?_) ?_
    go_simp
    (first | (go_at_call 60; (with_reducible refine (I1.out _ O0.out).mono ?_); rintro e w2 ⟨a1, c1, rfl, T1⟩) | (go_at_call 61; (with_reducible refine (I2.out _ T1.only).mono ?_); rintro e w3 ⟨a2, c2, rfl, T2⟩; obtain ⟨g0, g1, g2, g3⟩ := ZZ.out _ T2.only))
    go_wp2_with fail
    (refine hK.out _ _ ?_ (fun hNew => ?_); (focus ((try dsimp only) <;> (first | (with_reducible exact And.intro (ZZ.out _ (O0.out.mono fun _ e => e.elim)).1 (ZZ.out _ (O0.out.mono fun _ e => e.elim)).2.1) | (with_reducible exact And.intro (ZZ.out _ T2.only).1 (ZZ.out _ T2.only).2.1) | (with_reducible exact And.intro (ZZ.out _ (T1.only.mono fun _ e => .inl e)).1 (ZZ.out _ (T1.only.mono fun _ e => .inl e)).2.1)))); clear hHeld; have hHeld := hNew; clear hNew)
    (clear hK K; try go_frame)
    refine wpAnyD_ready (rs := [17]) (by kernel_rfl) (by simp) ?_
    refine ReadyD.cons rfl (fun K hK => ?_) ?_
    go_simp
    (first | (go_at_call 60; (with_reducible refine (I1.out _ O0.out).mono ?_); rintro e w2 ⟨a1, c1, rfl, T1⟩) | (go_at_call 61; (with_reducible refine (I2.out _ T1.only).mono ?_); rintro e w3 ⟨a2, c2, rfl, T2⟩; obtain ⟨g0, g1, g2, g3⟩ := ZZ.out _ T2.only))
    go_wp2_with fail
    (refine hK.out _ _ ?_ (fun hNew => ?_); (focus ((try dsimp only) <;> (first | (with_reducible exact And.intro (ZZ.out _ (O0.out.mono fun _ e => e.elim)).1 (ZZ.out _ (O0.out.mono fun _ e => e.elim)).2.1) | (with_reducible exact And.intro (ZZ.out _ T2.only).1 (ZZ.out _ T2.only).2.1) | (with_reducible exact And.intro (ZZ.out _ (T1.only.mono fun _ e => .inl e)).1 (ZZ.out _ (T1.only.mono fun _ e => .inl e)).2.1)))); clear hHeld; have hHeld := hNew; clear hNew)
    (clear hK K; try go_frame)
    (refine takeD (i := 18) (some 44) (v := ?_) rfl (by rfl) (by rfl) (by kernel_rfl) (by rfl) (fun _ _ _ h => h) ?_ ?_; rotate_left; (intro w; go_simp; try with_reducible rfl); try go_frame)
    (refine takeD (i := 19) (some 45) (v := ?_) rfl (by rfl) (by rfl) (by kernel_rfl) (by rfl) (fun _ _ _ h => h) ?_ ?_; rotate_left; (intro w; go_simp; try with_reducible rfl); try go_frame)
    refine wpAnyD_ready (rs := [20]) (by kernel_rfl) (by simp) ?_
    refine ReadyD.last rfl (by rfl) (fun K hK => ?_) ?_
    go_simp
    refine hK.out _ _ ?_
    (clear hK K; try go_frame)
    (refine takeD (i := 21) (some 46) (v := ?_) rfl (by rfl) (by rfl) (by kernel_rfl) (by rfl) (fun _ _ _ h => h) ?_ ?_; rotate_left; (intro w; go_simp; try with_reducible rfl); try go_frame)
    (refine takeD (i := 22) (some 47) (v := ?_) rfl (by rfl) (by rfl) (by kernel_rfl) (by rfl) (fun _ _ _ h => h) ?_ ?_; rotate_left; (intro w; go_simp; try with_reducible rfl); try go_frame)
    refine wpAnyD_ready (rs := [23]) (by kernel_rfl) (by simp) ?_
    refine ReadyD.last rfl (by rfl) (fun K hK => ?_) ?_
    go_simp
    refine hK.out _ _ ?_
    (clear hK K; try go_frame)
    refine wpAnyD_done (by kernel_rfl) ?_ _
    rotate_left
    exact ReadyD.nil
    exact ReadyD.nil
    exact ReadyD.nil
    exact ReadyD.nil
    have FC := Lib.hid (two_turned HN.out HF.out (Still.refl _) T1 T2 (Still.refl _) HE.out.2.1 HE.out.2.2 (.bool true))
    go_wp2_with fail
    go_ret
    rw [HE.out.1]
    exact FC.out
  | false =>
    have FIN := Lib.hid (show RawPost w r (cutLeaf ks vs k).1 (cutLeaf ks vs k).2 [] F (.bool false) (.returned (.bool false)) w from by
      have : cutLeaf ks vs k = (ks, vs) := by unfold cutLeaf; rw [hk]; rfl
      rw [this]
      exact ⟨F, rfl, H.out, Only.refl _ _, fun b hb => .inl hb⟩)
    rw [hk] at HS
    clear hk hkn hl hn hs
    unfold ptr
    go_enter Tryz.func42, Tryz.ntmps42
    go_wp2_with fail
    refine HS.out.mono ?_
    rintro e w1 ⟨rfl, rfl⟩
    go_wp2_with fail
    go_ret
    exact FIN.out
end Go.Proofs.YtedfijmaeoednaaGreatDoor.Ke

namespace Go.Proofs.YtedfijmaeoednaaGreatDoor.Ke
open Go.RowKit Go.Wh

/-- Three new slices are stored. -/
theorem cat3 {W w0 w1 u0 w2 z0 w3 : World} {r n m p : Nat} {kv vv cv v1 v2 v3 : Value} {ks ks' : List Key} {vs vs' : List Rid} {cs cs' F : List Nat} (hn : NodeAt W r kv vv cv ks vs cs) (hF : F = foot r kv vv cv ∧ F.Nodup ∧ ∀ b ∈ F, b < W.heap.size)
    (K : Fre w0 w1 1 n v1 (kcells ks')) (V : Fre u0 w2 3 m v2 (rcells vs')) (C : Fre z0 w3 1 p v3 (pcells cs')) (s0 : Still W w0) (s1 : Still w1 u0) (s2 : Still w2 z0) (h1 : n = ks'.length) (h2 : m = vs'.length) (h3 : p = cs'.length) :
    ∃ F', Raw (((w3.setCell ⟨r, 0, none⟩ v1).setCell ⟨r, 1, none⟩ v2).setCell ⟨r, 2, none⟩ v3) r ks' vs' cs' F' ∧ Only (fun b => b ∈ F) W (((w3.setCell ⟨r, 0, none⟩ v1).setCell ⟨r, 1, none⟩ v2).setCell ⟨r, 2, none⟩ v3) ∧ ∀ b ∈ F', b ∈ F ∨ W.heap.size ≤ b := by
  subst h1 h2 h3
  have hr : r < W.heap.size := hF.2.2 r (hF.1 ▸ mem_foot.2 (.inl rfl))
  have z1 := s0.size
  have z2 := K.still.size
  have z3 := s1.size
  have z4 := V.still.size
  have z5 := s2.size
  have z6 := C.still.size
  have hs : Still W w3 := ((((s0.trans K.still).trans s1).trans V.still).trans s2).trans C.still
  have o1 : ∀ g, v1.ownBlock = some g → W.heap.size ≤ g ∧ g < w1.heap.size := fun g hg => by have := K.own g hg; omega
  have o2 : ∀ g, v2.ownBlock = some g → w1.heap.size ≤ g ∧ g < w2.heap.size := fun g hg => by have := V.own g hg; omega
  have o3 : ∀ g, v3.ownBlock = some g → w2.heap.size ≤ g ∧ g < w3.heap.size := fun g hg => by have := C.own g hg; omega
  have q1 : v1.ownBlock ≠ some r := fun e => by have := o1 r e; omega
  have q2 : v2.ownBlock ≠ some r := fun e => by have := o2 r e; omega
  have q3 : v3.ownBlock ≠ some r := fun e => by have := o3 r e; omega
  have k3 : Vec w3 1 v1 ks'.length (kcells ks') := K.vec.only (((s1.trans V.still).trans s2).trans C.still) fun _ _ e => e
  have u3 : Vec w3 3 v2 vs'.length (rcells vs') := V.vec.only (s2.trans C.still) fun _ _ e => e
  have c3 : cellsAt w3 r [kv, vv, cv] := hn.cells.only hs fun e => e
  have c4 : cellsAt (((w3.setCell ⟨r, 0, none⟩ v1).setCell ⟨r, 1, none⟩ v2).setCell ⟨r, 2, none⟩ v3) r [v1, v2, v3] := ((c3.setCell 0 v1).setCell 1 v2).setCell 2 v3
  have hrF : r ∈ F := hF.1 ▸ mem_foot.2 (.inl rfl)
  have ho : Only (fun b => b ∈ F) W (((w3.setCell ⟨r, 0, none⟩ v1).setCell ⟨r, 1, none⟩ v2).setCell ⟨r, 2, none⟩ v3) := ((hs.only.setCell (p := ⟨r, 0, none⟩) (.inl hrF) v1).setCell (p := ⟨r, 1, none⟩) (.inl hrF) v2).setCell (p := ⟨r, 2, none⟩) (.inl hrF) v3
  have hz : (((w3.setCell ⟨r, 0, none⟩ v1).setCell ⟨r, 1, none⟩ v2).setCell ⟨r, 2, none⟩ v3).heap.size = w3.heap.size := by simp [World.setCell]
  have nw : ∀ (v v' : Value), (∀ g, v'.ownBlock = some g → W.heap.size ≤ g ∧ g < w3.heap.size) → Nw W.heap.size w3.heap.size v v' ∨ v'.ownBlock = none := fun v v' h => by
    cases hv : v'.ownBlock with
    | none => exact .inr rfl
    | some g => exact .inl (.inr ⟨g, hv, h g hv⟩)
  -- where a slice has no block at all it is in none
  have hk : ∀ b, v1.ownBlock = some b → (kv.ownBlock = some b ∨ (W.heap.size ≤ b ∧ b < w3.heap.size)) := fun b hb => .inr (by have := o1 b hb; omega)
  have hA' : Apt r v1 v2 v3 :=
    ⟨fun b hb e => by subst e; exact q1 hb, fun b hb e => by subst e; exact q2 hb, fun b hb e => by subst e; exact q3 hb,
      fun b hb e => by have := o1 b hb; have := o2 b e; omega, fun b hb e => by have := o1 b hb; have := o3 b e; omega, fun b hb e => by have := o2 b hb; have := o3 b e; omega⟩
  refine ⟨_, Raw.of ⟨c4, vec_set (vec_set (vec_set k3 (p := ⟨r, 0, none⟩) q1 _) (p := ⟨r, 1, none⟩) q1 _) (p := ⟨r, 2, none⟩) q1 _, vec_set (vec_set (vec_set u3 (p := ⟨r, 0, none⟩) q2 _) (p := ⟨r, 1, none⟩) q2 _) (p := ⟨r, 2, none⟩) q2 _,
    vec_set (vec_set (vec_set C.vec (p := ⟨r, 0, none⟩) q3 _) (p := ⟨r, 1, none⟩) q3 _) (p := ⟨r, 2, none⟩) q3 _⟩ hA' fun b hb => ?_, ho, fun b hb => ?_⟩
  · rw [hz]
    rcases mem_foot.1 hb with rfl | h | h | h
    · omega
    · have := o1 b h; omega
    · have := o2 b h; omega
    · have := o3 b h; omega
  · rcases mem_foot.1 hb with rfl | h | h | h
    · exact .inl hrF
    · have := o1 b h; exact .inr (by omega)
    · have := o2 b h; exact .inr (by omega)
    · have := o3 b h; exact .inr (by omega)

/-- Two trees of a level, whose nodes become one. -/
theorem At.cat {d : Nat} {w : World} {a b : Nat} {la lb : Nd d} {Fa Fb : List Nat} (ha : At d w a la Fa) (hb : At d w b lb Fb) (hd : (Fa ++ Fb).Nodup) :
    ∃ va ca Ga vb cb Gb, Raw w a (keys la) va ca Ga ∧ Raw w b (keys lb) vb cb Gb ∧ (∀ x ∈ Ga, x ∈ Fa) ∧ (∀ x ∈ Gb, x ∈ Fb) ∧ va.length ≤ la.length ∧ ca.length ≤ la.length ∧ vb.length ≤ lb.length ∧ cb.length ≤ lb.length ∧
      ∀ w' Ga', Raw w' a (keys la ++ keys lb) (va ++ vb) (ca ++ cb) Ga' → Only (fun x => x ∈ Ga) w w' → (∀ x ∈ Ga', x ∈ Ga ∨ w.heap.size ≤ x) → ∃ F', At d w' a (la ++ lb) F' ∧ ∀ x ∈ F', x ∈ Fa ++ Fb ∨ w.heap.size ≤ x := by
  cases d with
  | zero =>
    refine ⟨vals la, [], Fa, vals lb, [], Fb, ha, hb, fun _ h => h, fun _ h => h, by rw [vals_length]; omega, by simp, by rw [vals_length]; omega, by simp, fun w' Ga' hr ho hs => ⟨Ga', ?_, fun x hx => ?_⟩⟩
    · have : At 0 w' a (la ++ lb) Ga' := by
        show Raw w' a (keys (la ++ lb)) (vals (la ++ lb)) [] Ga'
        rw [keys_append, vals_append]
        exact hr
      exact this
    · rcases hs x hx with h | h
      · exact .inl (List.mem_append_left _ h)
      · exact .inr h
  | succ d =>
    obtain ⟨ra, Ga, Ha, h1, h2, h3, h4⟩ := ha
    obtain ⟨rb, Gb, Hb, k1, k2, k3, k4⟩ := hb
    subst h3 k3
    have e1 := h2.lenR
    have e2 := k2.lenR
    rw [subs_length] at e1 e2
    have hlt : ∀ x ∈ Ha.flatten ++ Hb.flatten, x < w.heap.size := fun x hx => by
      rcases List.mem_append.1 hx with hx | hx
      · obtain ⟨f, hf, hxf⟩ := List.mem_flatten.1 hx
        exact h2.all (P := fun f => ∀ b ∈ f, b < w.heap.size) (fun _ _ _ h => At.lt h) f hf x hxf
      · obtain ⟨f, hf, hxf⟩ := List.mem_flatten.1 hx
        exact k2.all (P := fun f => ∀ b ∈ f, b < w.heap.size) (fun _ _ _ h => At.lt h) f hf x hxf
    have hd1 := List.nodup_append.1 hd
    have hda := List.nodup_append.1 h4
    have hdb := List.nodup_append.1 k4
    refine ⟨[], ra, Ga, [], rb, Gb, h1, k1, fun x hx => List.mem_append_left _ hx, fun x hx => List.mem_append_left _ hx, by simp, by omega, by simp, by omega, fun w' Ga' hr ho hs => ⟨Ga' ++ (Ha ++ Hb).flatten, ⟨ra ++ rb, Ga', Ha ++ Hb, ?_, ?_, rfl, ?_⟩, fun x hx => ?_⟩⟩
    · rw [keys_append]
      exact hr
    · rw [subs_append]
      exact (h2.imp fun r q f hf h => h.only ho fun x hx hg => hda.2.2 x hg x (List.mem_flatten.2 ⟨f, hf, hx⟩) rfl).append
        (k2.imp fun r q f hf h => h.only ho fun x hx hg => hd1.2.2 x (List.mem_append_left _ hg) x (List.mem_append_right _ (List.mem_flatten.2 ⟨f, hf, hx⟩)) rfl)
    · rw [List.flatten_append]
      refine List.nodup_append.2 ⟨hr.nodup, List.nodup_append.2 ⟨hda.2.1, hdb.2.1, fun x hx y hy => hd1.2.2 x (List.mem_append_right _ hx) y (List.mem_append_right _ hy)⟩, fun x hx y hy e => ?_⟩
      subst e
      rcases hs x hx with h | h
      · rcases List.mem_append.1 hy with hy | hy
        · exact hda.2.2 x h x hy rfl
        · exact hd1.2.2 x (List.mem_append_left _ h) x (List.mem_append_right _ hy) rfl
      · have := hlt x hy
        omega
    · rw [List.flatten_append] at hx
      simp only [List.mem_append] at hx ⊢
      rcases hx with hx | hx | hx
      · rcases hs x hx with h | h
        · exact .inl (.inl (.inl h))
        · exact .inr h
      · exact .inl (.inl (.inr hx))
      · exact .inl (.inr (.inr hx))

/-- A child that is too small is one with its neighbour, or has some of it. -/
def halves {d : Nat} (c : Nd d) : List (Nd d) := if c.length ≤ 4 then [c] else [c.take (c.length / 2), c.drop (c.length / 2)]
def at' {d : Nat} (cs : List (Nd d)) (i : Nat) : Nd d := (cs[i]?).getD []
def joinC {d : Nat} (cs : List (Nd d)) (i : Nat) : List (Nd d) :=
  if 2 ≤ (at' cs i).length ∨ cs.length < 2 then cs else cs.take (i - 1) ++ (halves (at' cs (i - 1) ++ at' cs (i - 1 + 1)) ++ cs.drop (i - 1 + 2))
end Go.Proofs.YtedfijmaeoednaaGreatDoor.Ke

namespace Go.Proofs.YtedfijmaeoednaaGreatDoor
open Go.RowKit Go.Wh

set_option maxHeartbeats 1000000 in
set_option maxRecDepth 100000 in
theorem grow_k (k : Nat) (w : World) (hk : k ≤ 20000) : Calls Tryz.prog 109 #[.slice none 0 0, .int .i64 k] w (FreshPost w 3 0 []) := by
  obtain ⟨i0, hi0, hz0, hz1, hz2⟩ := info_parts info_k
  have b0 : decide ((k : Int) < 0) = false := by simp
  by_cases hk0 : k = 0
  · subst hk0
    have F := Lib.hid (show FreshPost w 3 0 [] (.returned (.slice none 0 0)) w from ⟨_, rfl, Vec.nil _ _, Below.refl _ _, fun g hg => by cases hg⟩)
    go_enter Tryz.func109, Tryz.ntmps109
    go_wp2_with fail
    go_ret
    exact F.out
  · have hold : (Builtin.firstCells i0.size 0 (.slice none 0 0)).run Tryz.prog w.drew = .ok ([] : List Value).toArray w.drew := by simp [Builtin.firstCells]
    obtain ⟨G, hG⟩ : ∃ G, G = grownCap w k 0 58 := ⟨_, rfl⟩
    have hGn : k ≤ G := by rw [hG]; exact grownCap_ge w _ _ _
    have hG63 : G ≤ maxLen := by rw [hG]; exact grownCap_le_maxLen w k 0 58 (by simp only [maxLen]; omega)
    obtain ⟨z, hzz⟩ : ∃ z : Value, i0.zero = some z ∧ z.cells.size = 3 := ⟨_, hz0, rfl⟩
    obtain ⟨ROW, hROW⟩ : ∃ ROW : Array Value, ROW = ([] : List Value).toArray ++ Builtin.zeroCells z.cells k ++ Builtin.zeroCells z.cells (G - k) := ⟨_, rfl⟩
    obtain ⟨W1, hW1⟩ : ∃ W1, W1 = w.drew.alloc (.cells ROW 58) := ⟨_, rfl⟩
    have hrz : ∀ ty, (Builtin.append_ #[80, 3] ty #[.slice none 0 0, .int .i64 (k : Int)]).run Tryz.prog w = .ok (.slice (some ⟨w.heap.size, 0, none⟩) k G) W1 := fun ty => by
      have h := Lib.run_append_grow_zeros w 80 3 ty 58 i0 z .i64 .i64 Tryz.underlying80 Tryz.underlying3 hi0 hzz.1 none 0 0 [] hold k (by omega) (by omega) (by omega) (by omega) (by rw [hz2]; omega) (by rw [hz2]; exact growslice_fits (by omega) (by omega))
      rw [Nat.zero_add, ← hG, ← hROW, ← hW1] at h
      exact h
    have hRl : ROW.size = G * 3 := by
      rw [hROW]
      simp [Builtin.zeroCells, hzz.2]
      omega
    have hV1 : VecAt W1 3 w.heap.size 0 0 G [] := by
      have := vecAt_block (w := W1) (size := 3) (g := w.heap.size) (n := 0) (cap := G) (t := 58) (cs := ROW) (by rw [hW1]; exact heap_alloc_new w.drew _) hRl (Nat.zero_le _) hG63
      simpa using this
    have F := Lib.hid (show FreshPost w 3 0 [] (.returned (.slice (some ⟨w.heap.size, 0, none⟩) 0 G)) W1 from
      ⟨_, rfl, .inr ⟨_, _, _, rfl, hV1⟩, by rw [hW1]; exact (below_undrew ((Below.refl _ w.drew).alloc (Nat.le_refl _) _)), fun g hg => by cases hg; exact ⟨Nat.le_refl _, by rw [hW1]; simp⟩⟩)
    have R0 := Lib.hid hrz
    have b1 : decide (0 < k) = true := by simp; omega
    have b2 : (0 : Int) ≤ (G : Int) := by omega
    clear hrz hRl hV1 hW1 hROW hzz hold hG hG63 hGn hk0
    go_enter Tryz.func109, Tryz.ntmps109
    go_wp2_with (at_builtin; refine Lib.wpList_append_run _ rfl _ _ _ _ rfl _ _ rfl rfl _ _ (R0.out _) ?_)
    go_ret
    exact F.out

set_option maxHeartbeats 1000000 in
set_option maxRecDepth 100000 in
theorem concat_k (ab : Nat) (va vb : Value) (n1 n2 : Nat) (x1 x2 : List Value) (w : World) (hab : cellsAt w ab [va, vb]) (h1 : Reads w 3 va n1 x1) (h2 : Reads w 3 vb n2 x2)
    (c1 : ∀ u ∈ x1, u.oneCell' = true) (c2 : ∀ u ∈ x2, u.oneCell' = true) (m1 : n1 ≤ 10000) (m2 : n2 ≤ 10000) :
    Calls Tryz.prog 85 #[.slice (some ⟨ab, 0, none⟩) 2 2] w (FreshPost w 3 (n1 + n2) (x1 ++ x2)) := by
  obtain ⟨i0, hi0, hz0, hz1, hz2⟩ := info_parts info_k
  obtain ⟨a1, k1, hva⟩ : ∃ a c, va = .slice a n1 c := by
    rcases h1.2 with ⟨rfl, rfl⟩ | ⟨a, c, rfl, _⟩
    · exact ⟨_, _, rfl⟩
    · exact ⟨_, _, rfl⟩
  obtain ⟨a2, k2, hvb⟩ : ∃ a c, vb = .slice a n2 c := by
    rcases h2.2 with ⟨rfl, rfl⟩ | ⟨a, c, rfl, _⟩
    · exact ⟨_, _, rfl⟩
    · exact ⟨_, _, rfl⟩
  subst hva hvb
  have q0 : w.cell? ⟨ab, 0, none⟩ = some (.slice a1 n1 k1) := hab.cell 0
  have q1 : w.cell? ⟨ab, 1, none⟩ = some (.slice a2 n2 k2) := hab.cell 1
  have HAB := Lib.hid hab
  have HR1 := Lib.hid h1
  have HR2 := Lib.hid h2
  have HC1 := Lib.hid c1
  have HC2 := Lib.hid c2
  clear hab h1 h2 c1 c2
  go_enter Tryz.func85, Tryz.ntmps85
  go_wp2_with fail
  go_loopw [3, 11] (fun t s wr => wr = w ∧ ((s = .int .i64 0 ∧ t = .int .i64 0) ∨ (s = .int .i64 1 ∧ t = .int .i64 n1) ∨ (s = .int .i64 2 ∧ t = .int .i64 ((n1 + n2 : Nat) : Int)))) (fun _ s _ => 2 - (intOf s).toNat)
  case atStart => exact ⟨rfl, .inl ⟨rfl, rfl⟩⟩
  case round =>
    obtain ⟨rfl, ⟨rfl, rfl⟩ | ⟨rfl, rfl⟩ | ⟨rfl, rfl⟩⟩ := hrel
    · have w1 : decide ((n1 : Int) < 0) = false := by simp
      go_wp2_with fail
      go_roundw
      case rel => exact ⟨trivial, .inr (.inl ⟨by go_num, by go_num⟩)⟩
      case measure => simp [intOf]
    · have w1 : decide ((n1 : Int) + (n2 : Int) < 0) = false := by simp; omega
      have w2 : IntKind.i64.wrap ((n1 : Int) + (n2 : Int)) = (n1 : Int) + (n2 : Int) := by rw [IntKind.wrap_i64]; omega
      go_wp2_with fail
      go_roundw
      case rel => exact ⟨trivial, .inr (.inr ⟨by go_num, by go_num⟩)⟩
      case measure => simp [intOf]
    · have HG := grow_k (n1 + n2) wr (by omega)
      rw [Int.natCast_add] at HG
      have HG' := Lib.hid HG
      clear HG
      go_wp2_with fail
      refine HG'.out.mono ?_
      rintro e w0 ⟨v0, rfl, hv0, hb0, hf0⟩
      have HV0 := Lib.hid (And.intro hv0 (And.intro hb0 hf0))
      clear hv0 hb0 hf0 HG'
      go_wp2_with fail
      obtain ⟨wo, rfl⟩ : ∃ wo : World, wo = wr := ⟨_, rfl⟩
      go_loopw [6, 27] (fun t s wc => 
        ((s = .int .i64 0 ∧ CatRel wo 3 0 [] t wc) ∨ (s = .int .i64 1 ∧ CatRel wo 3 n1 x1 t wc) ∨ (s = .int .i64 2 ∧ CatRel wo 3 (n1 + n2) (x1 ++ x2) t wc))) (fun _ s _ => 2 - (intOf s).toNat)
      case atStart => exact .inl ⟨rfl, HV0.out⟩
      case round =>
        have HI0 := Lib.hid hi0
        have HZ0 := Lib.hid hz0
        have HZ1 := Lib.hid hz1
        have HZ2 := Lib.hid hz2
        clear hi0 hz0 hz1 hz2
        obtain ⟨rfl, hc⟩ | ⟨rfl, hc⟩ | ⟨rfl, hc⟩ := hrel
        · have HR := Lib.hid (HR1.out.belowAll hc.2.1)
          have p0 := (hc.2.1.cell (lt_of_cell q0)).trans q0
          have p1 := (hc.2.1.cell (lt_of_cell q1)).trans q1
          have HC := Lib.hid hc
          clear hc
          go_wp2_with (at_builtin; refine wpList_append_vec rfl _ _ 80 rfl 58 i0 _ 3 32 Tryz.underlying80 HI0.out HZ0.out HZ1.out HZ2.out rfl (by decide) _ _ _ rfl HC.out.1 _ n1 x1 rfl HR.out HC1.out (by simp only [maxLen]; omega) (by omega) ?_; intro v' w' hv' ho' hb'; have HN := Lib.hid (HC.out.next hv' ho' hb'); clear hv' ho' hb')
          go_roundw
          case rel => exact .inr (.inl ⟨by go_num, by simpa using HN.out⟩)
          case measure => simp [intOf]
        · have HR := Lib.hid (HR2.out.belowAll hc.2.1)
          have p0 := (hc.2.1.cell (lt_of_cell q0)).trans q0
          have p1 := (hc.2.1.cell (lt_of_cell q1)).trans q1
          have HC := Lib.hid hc
          clear hc
          go_wp2_with (at_builtin; refine wpList_append_vec rfl _ _ 80 rfl 58 i0 _ 3 32 Tryz.underlying80 HI0.out HZ0.out HZ1.out HZ2.out rfl (by decide) _ _ _ rfl HC.out.1 _ n2 x2 rfl HR.out HC2.out (by simp only [maxLen]; omega) (by omega) ?_; intro v' w' hv' ho' hb'; have HN := Lib.hid (HC.out.next hv' ho' hb'); clear hv' ho' hb')
          go_roundw
          case rel => exact .inr (.inr ⟨by go_num, HN.out⟩)
          case measure => simp [intOf]
        · have F := Lib.hid (show FreshPost wo 3 (n1 + n2) (x1 ++ x2) (.returned u6) wr from ⟨_, rfl, hc⟩)
          clear hc
          go_wp2_with fail
          go_ret
          exact F.out
end Go.Proofs.YtedfijmaeoednaaGreatDoor

namespace Go.Proofs.YtedfijmaeoednaaGreatDoor
open Go.RowKit Go.Wh

set_option maxHeartbeats 1000000 in
set_option maxRecDepth 100000 in
theorem grow_m (k : Nat) (w : World) (hk : k ≤ 20000) : Calls Tryz.prog 110 #[.slice none 0 0, .int .i64 k] w (FreshPost w 1 0 []) := by
  obtain ⟨i0, hi0, hz0, hz1, hz2⟩ := info_parts info_m
  have b0 : decide ((k : Int) < 0) = false := by simp
  by_cases hk0 : k = 0
  · subst hk0
    have F := Lib.hid (show FreshPost w 1 0 [] (.returned (.slice none 0 0)) w from ⟨_, rfl, Vec.nil _ _, Below.refl _ _, fun g hg => by cases hg⟩)
    go_enter Tryz.func110, Tryz.ntmps110
    go_wp2_with fail
    go_ret
    exact F.out
  · have hold : (Builtin.firstCells i0.size 0 (.slice none 0 0)).run Tryz.prog w.drew = .ok ([] : List Value).toArray w.drew := by simp [Builtin.firstCells]
    obtain ⟨G, hG⟩ : ∃ G, G = grownCap w k 0 83 := ⟨_, rfl⟩
    have hGn : k ≤ G := by rw [hG]; exact grownCap_ge w _ _ _
    have hG63 : G ≤ maxLen := by rw [hG]; exact grownCap_le_maxLen w k 0 83 (by simp only [maxLen]; omega)
    obtain ⟨z, hzz⟩ : ∃ z : Value, i0.zero = some z ∧ z.cells.size = 1 := ⟨_, hz0, rfl⟩
    obtain ⟨ROW, hROW⟩ : ∃ ROW : Array Value, ROW = ([] : List Value).toArray ++ Builtin.zeroCells z.cells k ++ Builtin.zeroCells z.cells (G - k) := ⟨_, rfl⟩
    obtain ⟨W1, hW1⟩ : ∃ W1, W1 = w.drew.alloc (.cells ROW 83) := ⟨_, rfl⟩
    have hrz : ∀ ty, (Builtin.append_ #[84, 3] ty #[.slice none 0 0, .int .i64 (k : Int)]).run Tryz.prog w = .ok (.slice (some ⟨w.heap.size, 0, none⟩) k G) W1 := fun ty => by
      have h := Lib.run_append_grow_zeros w 84 3 ty 83 i0 z .i64 .i64 Tryz.underlying84 Tryz.underlying3 hi0 hzz.1 none 0 0 [] hold k (by omega) (by omega) (by omega) (by omega) (by rw [hz2]; omega) (by rw [hz2]; exact growslice_fits (by omega) (by omega))
      rw [Nat.zero_add, ← hG, ← hROW, ← hW1] at h
      exact h
    have hRl : ROW.size = G * 1 := by
      rw [hROW]
      simp [Builtin.zeroCells, hzz.2]
      omega
    have hV1 : VecAt W1 1 w.heap.size 0 0 G [] := by
      have := vecAt_block (w := W1) (size := 1) (g := w.heap.size) (n := 0) (cap := G) (t := 83) (cs := ROW) (by rw [hW1]; exact heap_alloc_new w.drew _) hRl (Nat.zero_le _) hG63
      simpa using this
    have F := Lib.hid (show FreshPost w 1 0 [] (.returned (.slice (some ⟨w.heap.size, 0, none⟩) 0 G)) W1 from
      ⟨_, rfl, .inr ⟨_, _, _, rfl, hV1⟩, by rw [hW1]; exact (below_undrew ((Below.refl _ w.drew).alloc (Nat.le_refl _) _)), fun g hg => by cases hg; exact ⟨Nat.le_refl _, by rw [hW1]; simp⟩⟩)
    have R0 := Lib.hid hrz
    have b1 : decide (0 < k) = true := by simp; omega
    have b2 : (0 : Int) ≤ (G : Int) := by omega
    clear hrz hRl hV1 hW1 hROW hzz hold hG hG63 hGn hk0
    go_enter Tryz.func110, Tryz.ntmps110
    go_wp2_with (at_builtin; refine Lib.wpList_append_run _ rfl _ _ _ _ rfl _ _ rfl rfl _ _ (R0.out _) ?_)
    go_ret
    exact F.out

set_option maxHeartbeats 1000000 in
set_option maxRecDepth 100000 in
theorem concat_m (ab : Nat) (va vb : Value) (n1 n2 : Nat) (x1 x2 : List Value) (w : World) (hab : cellsAt w ab [va, vb]) (h1 : Reads w 1 va n1 x1) (h2 : Reads w 1 vb n2 x2)
    (c1 : ∀ u ∈ x1, u.oneCell' = true) (c2 : ∀ u ∈ x2, u.oneCell' = true) (m1 : n1 ≤ 10000) (m2 : n2 ≤ 10000) :
    Calls Tryz.prog 86 #[.slice (some ⟨ab, 0, none⟩) 2 2] w (FreshPost w 1 (n1 + n2) (x1 ++ x2)) := by
  obtain ⟨i0, hi0, hz0, hz1, hz2⟩ := info_parts info_m
  obtain ⟨a1, k1, hva⟩ : ∃ a c, va = .slice a n1 c := by
    rcases h1.2 with ⟨rfl, rfl⟩ | ⟨a, c, rfl, _⟩
    · exact ⟨_, _, rfl⟩
    · exact ⟨_, _, rfl⟩
  obtain ⟨a2, k2, hvb⟩ : ∃ a c, vb = .slice a n2 c := by
    rcases h2.2 with ⟨rfl, rfl⟩ | ⟨a, c, rfl, _⟩
    · exact ⟨_, _, rfl⟩
    · exact ⟨_, _, rfl⟩
  subst hva hvb
  have q0 : w.cell? ⟨ab, 0, none⟩ = some (.slice a1 n1 k1) := hab.cell 0
  have q1 : w.cell? ⟨ab, 1, none⟩ = some (.slice a2 n2 k2) := hab.cell 1
  have HAB := Lib.hid hab
  have HR1 := Lib.hid h1
  have HR2 := Lib.hid h2
  have HC1 := Lib.hid c1
  have HC2 := Lib.hid c2
  clear hab h1 h2 c1 c2
  go_enter Tryz.func86, Tryz.ntmps86
  go_wp2_with fail
  go_loopw [3, 11] (fun t s wr => wr = w ∧ ((s = .int .i64 0 ∧ t = .int .i64 0) ∨ (s = .int .i64 1 ∧ t = .int .i64 n1) ∨ (s = .int .i64 2 ∧ t = .int .i64 ((n1 + n2 : Nat) : Int)))) (fun _ s _ => 2 - (intOf s).toNat)
  case atStart => exact ⟨rfl, .inl ⟨rfl, rfl⟩⟩
  case round =>
    obtain ⟨rfl, ⟨rfl, rfl⟩ | ⟨rfl, rfl⟩ | ⟨rfl, rfl⟩⟩ := hrel
    · have w1 : decide ((n1 : Int) < 0) = false := by simp
      go_wp2_with fail
      go_roundw
      case rel => exact ⟨trivial, .inr (.inl ⟨by go_num, by go_num⟩)⟩
      case measure => simp [intOf]
    · have w1 : decide ((n1 : Int) + (n2 : Int) < 0) = false := by simp; omega
      have w2 : IntKind.i64.wrap ((n1 : Int) + (n2 : Int)) = (n1 : Int) + (n2 : Int) := by rw [IntKind.wrap_i64]; omega
      go_wp2_with fail
      go_roundw
      case rel => exact ⟨trivial, .inr (.inr ⟨by go_num, by go_num⟩)⟩
      case measure => simp [intOf]
    · have HG := grow_m (n1 + n2) wr (by omega)
      rw [Int.natCast_add] at HG
      have HG' := Lib.hid HG
      clear HG
      go_wp2_with fail
      refine HG'.out.mono ?_
      rintro e w0 ⟨v0, rfl, hv0, hb0, hf0⟩
      have HV0 := Lib.hid (And.intro hv0 (And.intro hb0 hf0))
      clear hv0 hb0 hf0 HG'
      go_wp2_with fail
      obtain ⟨wo, rfl⟩ : ∃ wo : World, wo = wr := ⟨_, rfl⟩
      go_loopw [6, 27] (fun t s wc => 
        ((s = .int .i64 0 ∧ CatRel wo 1 0 [] t wc) ∨ (s = .int .i64 1 ∧ CatRel wo 1 n1 x1 t wc) ∨ (s = .int .i64 2 ∧ CatRel wo 1 (n1 + n2) (x1 ++ x2) t wc))) (fun _ s _ => 2 - (intOf s).toNat)
      case atStart => exact .inl ⟨rfl, HV0.out⟩
      case round =>
        have HI0 := Lib.hid hi0
        have HZ0 := Lib.hid hz0
        have HZ1 := Lib.hid hz1
        have HZ2 := Lib.hid hz2
        clear hi0 hz0 hz1 hz2
        obtain ⟨rfl, hc⟩ | ⟨rfl, hc⟩ | ⟨rfl, hc⟩ := hrel
        · have HR := Lib.hid (HR1.out.belowAll hc.2.1)
          have p0 := (hc.2.1.cell (lt_of_cell q0)).trans q0
          have p1 := (hc.2.1.cell (lt_of_cell q1)).trans q1
          have HC := Lib.hid hc
          clear hc
          go_wp2_with (at_builtin; refine wpList_append_vec rfl _ _ 84 rfl 83 i0 _ 1 8 Tryz.underlying84 HI0.out HZ0.out HZ1.out HZ2.out rfl (by decide) _ _ _ rfl HC.out.1 _ n1 x1 rfl HR.out HC1.out (by simp only [maxLen]; omega) (by omega) ?_; intro v' w' hv' ho' hb'; have HN := Lib.hid (HC.out.next hv' ho' hb'); clear hv' ho' hb')
          go_roundw
          case rel => exact .inr (.inl ⟨by go_num, by simpa using HN.out⟩)
          case measure => simp [intOf]
        · have HR := Lib.hid (HR2.out.belowAll hc.2.1)
          have p0 := (hc.2.1.cell (lt_of_cell q0)).trans q0
          have p1 := (hc.2.1.cell (lt_of_cell q1)).trans q1
          have HC := Lib.hid hc
          clear hc
          go_wp2_with (at_builtin; refine wpList_append_vec rfl _ _ 84 rfl 83 i0 _ 1 8 Tryz.underlying84 HI0.out HZ0.out HZ1.out HZ2.out rfl (by decide) _ _ _ rfl HC.out.1 _ n2 x2 rfl HR.out HC2.out (by simp only [maxLen]; omega) (by omega) ?_; intro v' w' hv' ho' hb'; have HN := Lib.hid (HC.out.next hv' ho' hb'); clear hv' ho' hb')
          go_roundw
          case rel => exact .inr (.inr ⟨by go_num, HN.out⟩)
          case measure => simp [intOf]
        · have F := Lib.hid (show FreshPost wo 1 (n1 + n2) (x1 ++ x2) (.returned u6) wr from ⟨_, rfl, hc⟩)
          clear hc
          go_wp2_with fail
          go_ret
          exact F.out
end Go.Proofs.YtedfijmaeoednaaGreatDoor

namespace Go.Proofs.YtedfijmaeoednaaGreatDoor.Ke
open Go.RowKit Go.Wh

def JoinPost (d : Nat) (w : World) (r : Nat) (cs : List (Nd d)) (i : Nat) (F : List Nat) (e : Ending) (w' : World) : Prop :=
  ∃ ks' rs' F0' Fs', e = .returned (.tuple #[]) ∧ Inr d w' r ks' rs' rs' (joinC cs i) F0' Fs' ∧ ks'.length = (joinC cs i).length ∧ Only (fun b => b ∈ F) w w' ∧ ∀ b ∈ F0' ++ Fs'.flatten, b ∈ F ∨ w.heap.size ≤ b

theorem join_same {d : Nat} {w w' : World} {r : Nat} {ks : List Key} {rs : List Nat} {cs : List (Nd d)} {F0 : List Nat} {Fs : List (List Nat)} {i : Nat} (h : Inr d w r ks rs rs cs F0 Fs) (hk : ks.length = cs.length) (hc : 2 ≤ (at' cs i).length ∨ cs.length < 2) (hs : Still w w') :
    JoinPost d w r cs i (F0 ++ Fs.flatten) (.returned (.tuple #[])) w' := by
  have e : joinC cs i = cs := by unfold joinC; rw [if_pos hc]
  exact ⟨ks, rs, F0, Fs, rfl, by rw [e]; exact h.still hs, by rw [e]; exact hk, hs.only, fun b hb => .inl hb⟩

theorem at_split {d : Nat} (cs : List (Nd d)) (i : Nat) (hi : i < cs.length) : cs = cs.take i ++ ([at' cs i] ++ cs.drop (i + 1)) := by
  have : at' cs i = cs[i] := by unfold at'; rw [List.getElem?_eq_getElem hi]; rfl
  rw [this]
  conv => lhs; rw [← List.take_append_drop i cs, List.drop_eq_getElem_cons hi]
  rfl

/-- What the node's child i is. -/
theorem Inr.child {d : Nat} {w : World} {r : Nat} {ks : List Key} {qs rs : List Nat} {cs : List (Nd d)} {F0 : List Nat} {Fs : List (List Nat)} (h : Inr d w r ks qs rs cs F0 Fs) (i : Nat) (hi : i < cs.length) :
    ∃ ra q rb Fa f Fb, rs = ra ++ ([q] ++ rb) ∧ Fs = Fa ++ ([f] ++ Fb) ∧ ra.length = i ∧ Sons (At d w) ra (cs.take i) Fa ∧ At d w q (at' cs i) f ∧ Sons (At d w) rb (cs.drop (i + 1)) Fb ∧ rs[i]? = some q :=
  h.focus i (at_split cs i hi) (by rw [List.length_take]; omega)

theorem at_split2 {d : Nat} (cs : List (Nd d)) (j : Nat) (hj : j + 1 < cs.length) : cs = cs.take j ++ ([at' cs j, at' cs (j + 1)] ++ cs.drop (j + 2)) := by
  have h1 := at_split cs j (by omega)
  have h2 := at_split (cs.drop (j + 1)) 0 (by rw [List.length_drop]; omega)
  have h3 : at' (cs.drop (j + 1)) 0 = at' cs (j + 1) := by unfold at'; rw [List.getElem?_drop, Nat.add_zero]
  rw [h3, List.drop_drop] at h2
  conv => lhs; rw [h1, h2]
  simp

/-- What the node's children j and j + 1 are. -/
theorem Inr.pair {d : Nat} {w : World} {r : Nat} {ks : List Key} {qs rs : List Nat} {cs : List (Nd d)} {F0 : List Nat} {Fs : List (List Nat)} (h : Inr d w r ks qs rs cs F0 Fs) (j : Nat) (hj : j + 1 < cs.length) :
    ∃ ra a b rb Fa fa fb Fb, rs = ra ++ ([a, b] ++ rb) ∧ Fs = Fa ++ ([fa, fb] ++ Fb) ∧ ra.length = j ∧ Sons (At d w) ra (cs.take j) Fa ∧ At d w a (at' cs j) fa ∧ At d w b (at' cs (j + 1)) fb ∧ Sons (At d w) rb (cs.drop (j + 2)) Fb ∧ rs[j]? = some a ∧ rs[j + 1]? = some b := by
  have hk := h.kids
  rw [at_split2 cs j hj] at hk
  obtain ⟨ra, rx, Fa, fx, rfl, rfl, h1, h2⟩ := hk.part
  obtain ⟨rm, rb, fm, fb, rfl, rfl, h3, h4⟩ := h2.part
  have hl : ra.length = j := by rw [h1.lenR, List.length_take]; omega
  cases h3 with
  | cons h5 h6 =>
    obtain ⟨q, f, rfl, rfl, h7⟩ := h6.get1
    exact ⟨ra, _, q, rb, Fa, _, f, fb, rfl, rfl, hl, h1, h5, h7, h4, by rw [List.getElem?_append_right (by omega), hl, Nat.sub_self]; rfl, by rw [List.getElem?_append_right (by omega), hl, Nat.add_sub_cancel_left]; rfl⟩

set_option maxHeartbeats 1000000 in
set_option maxRecDepth 100000 in
theorem join_rest (d : Nat) (w : World) (r : Nat) (ks : List Key) (rs : List Nat) (cs : List (Nd d)) (F0 : List Nat) (Fs : List (List Nat)) (i : Nat) (h : Inr d w r ks rs rs cs F0 Fs) (hk : ks.length = cs.length) (hi : i < cs.length) (h90 : cs.length ≤ 90) (hc : 2 ≤ (at' cs i).length ∨ cs.length < 2) :
    Calls Tryz.prog 62 #[ptr r, .int .i64 i] w (JoinPost d w r cs i (F0 ++ Fs.flatten)) := by
  have hlen : rs.length = cs.length := h.kids.lenR
  obtain ⟨n, hn⟩ : ∃ n, cs.length = n := ⟨_, rfl⟩
  obtain ⟨ra, q, rb, Fa, f, Fb, _, _, _, _, hq, _, hrq⟩ := h.child i hi
  obtain ⟨g2, o2, p2, k0, k1⟩ := h.raw.kids (by omega)
  have k2 : w.cell? ⟨g2, o2 + i, none⟩ = some (.pointer (some ⟨q, 0, none⟩)) := k1 i q hrq
  rw [hlen, hn] at k0
  obtain ⟨vs0, cs0, G, hr0, hmx, _, _⟩ := hq.raw
  obtain ⟨m, hm⟩ : ∃ m, (at' cs i).length = m := ⟨_, rfl⟩
  have HZ := Lib.hid (fun w' (hs : Still w w') => size_any w' q (keys (at' cs i)) vs0 cs0 G (hr0.still hs))
  rw [hmx, hm] at HZ
  have FIN := Lib.hid (fun w' (hs : Still w w') => join_same h hk hc hs)
  have KC := Lib.hid (fun w' (hs : Still w w') => (hs.cell (p := ⟨r, 2, none⟩) k0))
  have b0 : (0 : Int) ≤ (i : Int) := by omega
  have b1 : (i : Int) < (n : Int) := by omega
  have b2 : 0 < n := by omega
  have HC := Lib.hid hc
  have HN := Lib.hid hn
  rw [hm, hn] at HC
  by_cases hm2 : 2 ≤ m
  · have t1 : decide ((m : Int) ≥ 2) = true := by simp; omega
    have t2 : decide (2 ≤ (m : Int)) = true := by simp; omega
    clear h hk hi h90 hc hlen hn hq hrq k1 hr0 hmx hm hm2
    unfold ptr at HZ ⊢
    go_enter Tryz.func62, Tryz.ntmps62
    go_wp2_with fail
    (with_reducible refine (HZ.out _ (Still.refl _)).mono ?_)
    rintro e w1 ⟨rfl, hs1⟩
    have F := Lib.hid (FIN.out _ hs1)
    clear hs1
    go_wp2_with fail
    refine bodyPost_ret (results_none rfl _ _ _) rfl ?_
    exact F.out
  · have hn2 : n < 2 := by omega
    have t1 : decide ((m : Int) ≥ 2) = false := by simp; omega
    have t2 : decide (2 ≤ (m : Int)) = false := by simp; omega
    have t3 : decide ((n : Int) < 2) = true := by simp; omega
    clear h hk hi h90 hc hlen hn hq hrq k1 hr0 hmx hm hm2 hn2
    unfold ptr at HZ ⊢
    go_enter Tryz.func62, Tryz.ntmps62
    go_wp2_with fail
    (with_reducible refine (HZ.out _ (Still.refl _)).mono ?_)
    rintro e w1 ⟨rfl, hs1⟩
    have F := Lib.hid (FIN.out _ hs1)
    have k3 := Still.cell hs1 k0
    clear hs1
    go_wp2_with fail
    refine bodyPost_ret (results_none rfl _ _ _) rfl ?_
    exact F.out

/-- What the concatenation asks and leaves. -/
def CatPost (W : World) (a : Nat) (ks : List Key) (vs : List Rid) (cs : List Nat) (Ga : List Nat) (W' : World) : Prop :=
  ∃ Ga', Raw W' a ks vs cs Ga' ∧ Only (fun b => b ∈ Ga) W W' ∧ ∀ b ∈ Ga', b ∈ Ga ∨ W.heap.size ≤ b

theorem cat_calls {W : World} {a b : Nat} {ka va ca kb vb cb : Value} {ks ks' : List Key} {vs vs' : List Rid} {cs cs' : List Nat} (ha : NodeAt W a ka va ca ks vs cs) (hb : NodeAt W b kb vb cb ks' vs' cs')
    (l1 : ks.length ≤ 1000) (l2 : vs.length ≤ 1000) (l3 : cs.length ≤ 1000) (m1 : ks'.length ≤ 1000) (m2 : vs'.length ≤ 1000) (m3 : cs'.length ≤ 1000) :
    (∀ w', Still W w' → ∀ x, cellsAt w' x [ka, kb] → Calls Tryz.prog 84 #[.slice (some ⟨x, 0, none⟩) 2 2] w' fun e w2 => ∃ p c, e = .returned (.slice p (ks.length + ks'.length) c) ∧ Fre w' w2 1 (ks.length + ks'.length) (.slice p (ks.length + ks'.length) c) (kcells (ks ++ ks')) ∧ Still W w') ∧
    (∀ w', Still W w' → ∀ x, cellsAt w' x [va, vb] → Calls Tryz.prog 85 #[.slice (some ⟨x, 0, none⟩) 2 2] w' fun e w2 => ∃ p c, e = .returned (.slice p (vs.length + vs'.length) c) ∧ Fre w' w2 3 (vs.length + vs'.length) (.slice p (vs.length + vs'.length) c) (rcells (vs ++ vs')) ∧ Still W w') ∧
    (∀ w', Still W w' → ∀ x, cellsAt w' x [ca, cb] → Calls Tryz.prog 86 #[.slice (some ⟨x, 0, none⟩) 2 2] w' fun e w2 => ∃ p c, e = .returned (.slice p (cs.length + cs'.length) c) ∧ Fre w' w2 1 (cs.length + cs'.length) (.slice p (cs.length + cs'.length) c) (pcells (cs ++ cs')) ∧ Still W w') ∧
    (∀ w', Still W w' → w'.cell? ⟨a, 0, none⟩ = some ka ∧ w'.cell? ⟨a, 1, none⟩ = some va ∧ w'.cell? ⟨a, 2, none⟩ = some ca ∧ w'.cell? ⟨b, 0, none⟩ = some kb ∧ w'.cell? ⟨b, 1, none⟩ = some vb ∧ w'.cell? ⟨b, 2, none⟩ = some cb) ∧
    (∀ w', Still W w' → w'.frozen? ⟨a, 0, none⟩ = false ∧ w'.frozen? ⟨a, 1, none⟩ = false ∧ w'.frozen? ⟨a, 2, none⟩ = false) := by
  refine ⟨fun w' hs x hx => ?_, fun w' hs x hx => ?_, fun w' hs x hx => ?_, fun w' hs => ?_, fun w' hs => ?_⟩
  · refine (concat_s x ka kb ks.length ks'.length (kcells ks) (kcells ks') w' hx (ha.k.only hs fun _ _ e => e).reads (hb.k.only hs fun _ _ e => e).reads (kcells_one _) (kcells_one _) (by omega) (by omega)).mono fun e w2 h => ?_
    obtain ⟨p, c, h1, h2⟩ := fre_of h
    exact ⟨p, c, h1, by unfold kcells at h2 ⊢; rw [List.map_append]; exact h2, hs⟩
  · refine (concat_k x va vb vs.length vs'.length (rcells vs) (rcells vs') w' hx (ha.v.only hs fun _ _ e => e).reads (hb.v.only hs fun _ _ e => e).reads (rcells_one _) (rcells_one _) (by omega) (by omega)).mono fun e w2 h => ?_
    obtain ⟨p, c, h1, h2⟩ := fre_of h
    exact ⟨p, c, h1, by rw [rcells_append]; exact h2, hs⟩
  · refine (concat_m x ca cb cs.length cs'.length (pcells cs) (pcells cs') w' hx (ha.c.only hs fun _ _ e => e).reads (hb.c.only hs fun _ _ e => e).reads (pcells_one _) (pcells_one _) (by omega) (by omega)).mono fun e w2 h => ?_
    obtain ⟨p, c, h1, h2⟩ := fre_of h
    exact ⟨p, c, h1, by unfold pcells at h2 ⊢; rw [List.map_append]; exact h2, hs⟩
  · exact ⟨Still.cell hs (ha.cells.cell 0), Still.cell hs (ha.cells.cell 1), Still.cell hs (ha.cells.cell 2), Still.cell hs (hb.cells.cell 0), Still.cell hs (hb.cells.cell 1), Still.cell hs (hb.cells.cell 2)⟩
  · exact ⟨(cellsAt.still hs ha.cells).free 0, (cellsAt.still hs ha.cells).free 1, (cellsAt.still hs ha.cells).free 2⟩
end Go.Proofs.YtedfijmaeoednaaGreatDoor.Ke

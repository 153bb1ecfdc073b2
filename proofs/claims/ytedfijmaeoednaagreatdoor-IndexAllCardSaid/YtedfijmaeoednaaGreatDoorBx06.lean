/- A key is put into a node of children. Conditions: a tree in memory. A key is put into a node of children: the walk. Conditions: a tree in memory, its leaves rising. -/
import Derived.Test.YtedfijmaeoednaaGreatDoorBx05
namespace Go.Proofs.YtedfijmaeoednaaGreatDoor
open Go.RowKit Go.Wh

/-- Keys and children turn, one behind the other, and are stored. -/
theorem two_turnedC {w W w0 w1 w2 w3 : World} {r n m : Nat} {kv vv cv v1 v2 : Value} {ks ks' : List Key} {vs : List Rid} {cs cs' F : List Nat} (hn : NodeAt W r kv vv cv ks vs cs) (hF : F = foot r kv vv cv ∧ F.Nodup ∧ ∀ b ∈ F, b < w.heap.size) (hw : Still w W)
    (T1 : Turn W (fun _ => False) 1 n kv (kcells ks') v1 w0 w1) (T2 : Turn W (fun b => False ∨ kv.ownBlock = some b) 1 m cv (pcells cs') v2 w2 w3) (hs : Still w1 w2) (hn1 : n = ks'.length) (hm : m = cs'.length) (b : Value) :
    RawPost w r ks' vs cs' F b (.returned b) ((w3.setCell ⟨r, 0, none⟩ v1).setCell ⟨r, 2, none⟩ v2) := by
  subst hn1 hm
  have hF' : F = foot r kv vv cv ∧ F.Nodup ∧ ∀ b ∈ F, b < W.heap.size := ⟨hF.1, hF.2.1, fun b hb => Nat.lt_of_lt_of_le (hF.2.2 b hb) hw.size⟩
  have hA := foot_nodup.1 (hF.1 ▸ hF.2.1)
  have hr : r < W.heap.size := hF'.2.2 r (hF.1 ▸ mem_foot.2 (.inl rfl))
  have lk := fun b h => hF'.2.2 b (hF.1 ▸ mem_foot.2 (.inr (.inl h)))
  have lv := fun b h => hF'.2.2 b (hF.1 ▸ mem_foot.2 (.inr (.inr (.inl h))))
  have lc := fun b h => hF'.2.2 b (hF.1 ▸ mem_foot.2 (.inr (.inr (.inr h))))
  have hsz : w1.heap.size ≤ w3.heap.size := Nat.le_trans hs.size T2.step.size
  have n1 := T1.nw (M := w3.heap.size) hsz
  have n2 := T2.nw (M := w3.heap.size) (Nat.le_refl _)
  have o1 : v1.ownBlock ≠ some r := fun e => by
    rcases n1.cases e with h | h
    · exact hA.rk r h rfl
    · omega
  have o2 : v2.ownBlock ≠ some r := fun e => by
    rcases n2.cases e with h | h
    · exact hA.rc r h rfl
    · omega
  have hv1 : Vec w3 1 v1 ks'.length (kcells ks') := (T1.vec.only hs fun _ _ e => e).only T2.step fun g hg e => by
    rcases n1.cases hg with h | h
    · exact hA.akc g h e
    · have := lc g e; omega
  have hcell : cellsAt w3 r [kv, vv, cv] := hn.cells.only T2.only fun e => by
    rcases e with (e | e) | e
    · exact e
    · exact hA.rk r e rfl
    · exact hA.rc r e rfl
  have hcv : Vec w3 2 vv vs.length (rcells vs) := hn.v.only T2.only fun g hg e => by
    rcases e with (e | e) | e
    · exact e
    · exact hA.akv g e hg
    · exact hA.avc g hg e
  have hc4 : cellsAt ((w3.setCell ⟨r, 0, none⟩ v1).setCell ⟨r, 2, none⟩ v2) r [v1, vv, v2] := (hcell.setCell 0 v1).setCell 2 v2
  have ho : Only (fun b => b ∈ F) W ((w3.setCell ⟨r, 0, none⟩ v1).setCell ⟨r, 2, none⟩ v2) :=
    ((T2.only.mono fun b e => by
      rw [hF.1]
      rcases e with (e | e) | e
      · exact e.elim
      · exact mem_foot.2 (.inr (.inl e))
      · exact mem_foot.2 (.inr (.inr (.inr e)))).setCell (p := ⟨r, 0, none⟩) (.inl (hF.1 ▸ mem_foot.2 (.inl rfl))) v1).setCell (p := ⟨r, 2, none⟩) (.inl (hF.1 ▸ mem_foot.2 (.inl rfl))) v2
  have hz : ((w3.setCell ⟨r, 0, none⟩ v1).setCell ⟨r, 2, none⟩ v2).heap.size = w3.heap.size := by simp [World.setCell]
  obtain ⟨F', h1, h2⟩ := raw_turn (ks' := ks') (vs' := vs) (cs' := cs') hn hF' ho hc4 (vec_set (vec_set hv1 (p := ⟨r, 0, none⟩) o1 _) (p := ⟨r, 2, none⟩) o1 _) (vec_set (vec_set hcv (p := ⟨r, 0, none⟩) (fun e => hA.rv r e rfl) _) (p := ⟨r, 2, none⟩) (fun e => hA.rv r e rfl) _)
    (vec_set (vec_set T2.vec (p := ⟨r, 0, none⟩) o2 _) (p := ⟨r, 2, none⟩) o2 _) (hz ▸ n1) (Nw.refl _ _ _) (hz ▸ n2)
    (fun g hg _ e2 => by have := lv g e2; omega)
    (fun g hg e1 e2 => by
      rcases T2.own with h | ⟨g', h, h3, _⟩
      · have := lc g (h ▸ e2); omega
      · rw [h] at e2
        injection e2 with e2
        rcases T1.own with h4 | ⟨g2, h4, _, h5⟩
        · have := lk g (h4 ▸ e1); omega
        · rw [h4] at e1
          injection e1 with e1
          have := hs.size
          omega)
    (fun g hg e1 _ => by have := lv g e1; omega)
  exact ⟨F', rfl, h1, (hw.only (S := fun b => b ∈ F)).trans ho, fun b hb => (h2 b hb).imp id fun h => Nat.le_trans hw.size h⟩

theorem pcells_ins (cs : List Nat) (i c : Nat) : (pcells cs).take (i * 1) ++ [ptr c] ++ (pcells cs).drop (i * 1) = pcells (cs.take i ++ c :: cs.drop i) := by
  simp [pcells, List.map_take, List.map_drop]

/-- All that an insertion of a key and a child wants, laid ahead of the walk. -/
theorem ins2 {W : World} {r n kc cc j ry gy oy ny py : Nat} {ka ca : Option Addr} {vv : Value} {ks : List Key} {cs F : List Nat} {y0 : Key} (hn : NodeAt W r (.slice ka n kc) vv (.slice ca n cc) ks [] cs) (hF : F = foot r (.slice ka n kc) vv (.slice ca n cc) ∧ F.Nodup ∧ ∀ b ∈ F, b < W.heap.size)
    (hk : ks.length = n) (hc : cs.length = n) (h100 : n ≤ 1000) (hj : j ≤ n) (y1 : W.cell? ⟨ry, 0, none⟩ = some (.slice (some ⟨gy, oy, none⟩) ny py)) (y2 : W.cell? ⟨gy, oy, none⟩ = some (.string y0)) (hry : ry ∉ F) (hgy : gy ∉ F) :
    (∀ w', Only (fun _ => False) W w' → ∀ vb, cellsAt w' vb [.string y0] → W.heap.size ≤ vb → Calls Tryz.prog 67 #[.slice ka n kc, .int .i64 j, .slice (some ⟨vb, 0, none⟩) 1 1] w' fun e w2 =>
      ∃ a c, e = .returned (.slice a (n + 1) c) ∧ Turn W (fun _ => False) 1 (n + 1) (.slice ka n kc) (kcells (ks.take j ++ y0 :: ks.drop j)) (.slice a (n + 1) c) w' w2) ∧
    (∀ w', Only (fun b => False ∨ (Value.slice ka n kc).ownBlock = some b) W w' → ∀ vb, cellsAt w' vb [.pointer (some ⟨ry, 0, none⟩)] → W.heap.size ≤ vb → Calls Tryz.prog 75 #[.slice ca n cc, .int .i64 j, .slice (some ⟨vb, 0, none⟩) 1 1] w' fun e w2 =>
      ∃ a c, e = .returned (.slice a (n + 1) c) ∧ Turn W (fun b => False ∨ (Value.slice ka n kc).ownBlock = some b) 1 (n + 1) (.slice ca n cc) (pcells (cs.take j ++ ry :: cs.drop j)) (.slice a (n + 1) c) w' w2) ∧
    (∀ w', Only (fun b => (False ∨ (Value.slice ka n kc).ownBlock = some b) ∨ (Value.slice ca n cc).ownBlock = some b) W w' → w'.cell? ⟨r, 0, none⟩ = some (.slice ka n kc) ∧ w'.cell? ⟨r, 2, none⟩ = some (.slice ca n cc) ∧ w'.frozen? ⟨r, 0, none⟩ = false ∧ w'.frozen? ⟨r, 2, none⟩ = false) ∧
    (∀ w', Only (fun b => (False ∨ (Value.slice ka n kc).ownBlock = some b) ∨ (Value.slice ca n cc).ownBlock = some b) W w' → w'.cell? ⟨r, 0, none⟩ = some (.slice ka n kc) ∧ w'.cell? ⟨r, 2, none⟩ = some (.slice ca n cc) ∧ w'.cell? ⟨ry, 0, none⟩ = some (.slice (some ⟨gy, oy, none⟩) ny py) ∧ w'.cell? ⟨gy, oy, none⟩ = some (.string y0)) := by
  obtain ⟨hF1, hd, hlt⟩ := hF
  have hA := foot_nodup.1 (hF1 ▸ hd)
  have lk := fun b h => hlt b (hF1 ▸ mem_foot.2 (.inr (.inl h)))
  have lc := fun b h => hlt b (hF1 ▸ mem_foot.2 (.inr (.inr (.inr h))))
  have hr := hlt r (hF1 ▸ mem_foot.2 (.inl rfl))
  have hnot : ∀ b, b ∉ F → ¬ ((False ∨ (Value.slice ka n kc).ownBlock = some b) ∨ (Value.slice ca n cc).ownBlock = some b) := fun b hb e => by
    rcases e with (e | e) | e
    · exact e
    · exact hb (hF1 ▸ mem_foot.2 (.inr (.inl e)))
    · exact hb (hF1 ▸ mem_foot.2 (.inr (.inr (.inr e))))
  have hnr : ¬ ((False ∨ (Value.slice ka n kc).ownBlock = some r) ∨ (Value.slice ca n cc).ownBlock = some r) := fun e => by
    rcases e with (e | e) | e
    · exact e
    · exact hA.rk r e rfl
    · exact hA.rc r e rfl
  have z := fun (w' : World) (hs : Only (fun b => (False ∨ (Value.slice ka n kc).ownBlock = some b) ∨ (Value.slice ca n cc).ownBlock = some b) W w') =>
    And.intro ((hs.cell (p := ⟨r, 0, none⟩) hr hnr).trans (hn.cells.cell 0)) ((hs.cell (p := ⟨r, 2, none⟩) hr hnr).trans (hn.cells.cell 2))
  have hk' := hn.k
  have hc' := hn.c
  rw [hk] at hk'
  rw [hc] at hc'
  refine ⟨fun w' hs vb hb hg => ?_, fun w' hs vb hb hg => ?_, fun w' hs => ⟨(z w' hs).1, (z w' hs).2, (hs.frozen (p := ⟨r, 0, none⟩) hr hnr).trans (hn.cells.free 0), (hs.frozen (p := ⟨r, 2, none⟩) hr hnr).trans (hn.cells.free 2)⟩,
    fun w' hs => ⟨(z w' hs).1, (z w' hs).2, (hs.cell (p := ⟨ry, 0, none⟩) (World.block_lt_of_cell? _ _ y1) (hnot ry hry)).trans y1, (hs.cell (p := ⟨gy, oy, none⟩) (World.block_lt_of_cell? _ _ y2) (hnot gy hgy)).trans y2⟩⟩
  · refine (insert_s (.slice ka n kc) n (kcells ks) vb [.string y0] j w' (hk'.only hs fun _ _ e => e) hb rfl (kcells_one ks) (by intro u hu; simp at hu; subst hu; rfl) (fun e => by have := lk vb e; omega) hj (by omega)).mono fun e w2 h => ?_
    rw [kcells_ins] at h
    exact turn_of h hs lk
  · refine (insert_n (.slice ca n cc) n (pcells cs) vb [ptr ry] j w' (hc'.only hs fun g hg e => ?_) hb rfl (pcells_one cs) (by intro u hu; simp at hu; subst hu; rfl) (fun e => by have := lc vb e; omega) hj (by omega)).mono fun e w2 h => ?_
    · rcases e with e | e
      · exact e
      · exact hA.akc g e hg
    · rw [pcells_ins] at h
      exact turn_of h hs lc
end Go.Proofs.YtedfijmaeoednaaGreatDoor

namespace Go.Proofs.YtedfijmaeoednaaGreatDoor
open Go.RowKit Go.Wh

theorem Still.cell {w w' : World} (h : Still w w') {p : Addr} {u : Value} (hc : w.cell? p = some u) : w'.cell? p = some u := (Only.cell h (World.block_lt_of_cell? _ _ hc) id).trans hc
theorem Inr.still {d : Nat} {w w' : World} {r : Nat} {ks : List Key} {qs rs : List Nat} {cs : List (Nd d)} {F0 : List Nat} {Fs : List (List Nat)} (h : Inr d w r ks qs rs cs F0 Fs) (hs : Still w w') : Inr d w' r ks qs rs cs F0 Fs :=
  ⟨h.raw.still hs, h.kids.imp fun _ _ _ _ h' => h'.only hs fun _ _ e => e, h.nd⟩

theorem Only.undrew' {S : Nat → Prop} {a b : World} (h : Only S a.drew b) : Only S a b := h.undrew
theorem fk_take {d : Nat} (c : Nd d) (m : Nat) (hm : 0 < m) : fk (c.take m) = fk c := by
  unfold fk
  rw [← keys_take]
  cases keys c with
  | nil => simp
  | cons a t => cases m with
    | zero => omega
    | succ m => rfl
theorem set_split {α : Type} (l : List α) (i : Nat) (a : α) (h : i < l.length) : l.set i a = l.take i ++ ([a] ++ l.drop (i + 1)) := by
  rw [List.set_eq_take_append_cons_drop, if_pos h]
  rfl

/-- The node as it is, whose children are these now. -/
theorem put_small {d : Nat} {w : World} {r i : Nat} {l : Nd (d + 1)} {k : Key} {v : Rid} {c' : Nd d} {rs F0 : List Nat} {Fs : List (List Nat)} (hi : childI (keys l) k = i) (hil : i < l.length) (hc : putM d (sub l i) k v = c') (h4 : c'.length ≤ 4)
    (h : Inr d w r ((keys l).set i (fk c')) rs rs (subs (l.take i) ++ ([c'] ++ subs (l.drop (i + 1)))) F0 Fs) : At (d + 1) w r (putM (d + 1) l k v) (F0 ++ Fs.flatten) := by
  have e : putM (d + 1) l k v = l.take i ++ ([kn (fk c') c'] ++ l.drop (i + 1)) := by
    unfold putM parted
    rw [hi, hc, if_pos h4]
  rw [e]
  apply Inr.at
  rw [keys_split, subs_append, subs_append]
  rw [set_split _ _ _ (by rw [keys_length]; exact hil)] at h
  exact h
theorem put_great {d : Nat} {w : World} {r i : Nat} {l : Nd (d + 1)} {k : Key} {v : Rid} {c' : Nd d} {rs F0 : List Nat} {Fs : List (List Nat)} {ks : List Key} (hi : childI (keys l) k = i) (hil : i < l.length) (hc : putM d (sub l i) k v = c') (h4 : ¬ c'.length ≤ 4)
    (hks : ks = ((keys l).set i (fk c')).take (i + 1) ++ fk (c'.drop (c'.length / 2)) :: ((keys l).set i (fk c')).drop (i + 1))
    (h : Inr d w r ks rs rs (subs (l.take i) ++ ([c'.take (c'.length / 2), c'.drop (c'.length / 2)] ++ subs (l.drop (i + 1)))) F0 Fs) : At (d + 1) w r (putM (d + 1) l k v) (F0 ++ Fs.flatten) := by
  have e : putM (d + 1) l k v = l.take i ++ ([kn (fk (c'.take (c'.length / 2))) (c'.take (c'.length / 2)), kn (fk (c'.drop (c'.length / 2))) (c'.drop (c'.length / 2))] ++ l.drop (i + 1)) := by
    unfold putM parted
    rw [hi, hc, if_neg h4]
  rw [e]
  apply Inr.at
  rw [keys_split, subs_append, subs_append]
  have hl : ((keys l).take i).length = i := by rw [List.length_take, keys_length]; omega
  have ek : ks = (keys l).take i ++ ([fk (c'.take (c'.length / 2)), fk (c'.drop (c'.length / 2))] ++ (keys l).drop (i + 1)) := by
    rw [hks, set_split _ _ _ (by rw [keys_length]; exact hil), fk_take c' _ (by omega)]
    have e1 : ((keys l).take i ++ ([fk c'] ++ (keys l).drop (i + 1))).take (i + 1) = (keys l).take i ++ [fk c'] := by
      rw [← List.append_assoc]
      exact List.take_left' (by simp [hl])
    have e2 : ((keys l).take i ++ ([fk c'] ++ (keys l).drop (i + 1))).drop (i + 1) = (keys l).drop (i + 1) := by
      rw [← List.append_assoc]
      exact List.drop_left' (by simp [hl])
    rw [e1, e2]
    simp
  rw [ek] at h
  exact h

set_option maxHeartbeats 1000000 in
set_option maxRecDepth 100000 in
theorem put_in (d : Nat) (ih : ∀ (w : World) (r : Nat) (l : Nd d) (F : List Nat) (k : Key) (v : Rid), At d w r l F → Able d l → Calls Tryz.prog 47 #[ptr r, .string k, ridV v] w (PutPost d w r l F k v))
    (w : World) (r : Nat) (l : Nd (d + 1)) (F : List Nat) (k : Key) (v : Rid) (h : At (d + 1) w r l F) (ha : Able (d + 1) l) :
    Calls Tryz.prog 47 #[ptr r, .string k, ridV v] w (PutPost (d + 1) w r l F k v) := by
  obtain ⟨rs, F0, Fs, hin, hFF⟩ := h.inr
  have hlen : rs.length = l.length := by have := hin.kids.lenR; rw [subs_length] at this; exact this
  have hkl := keys_length l
  obtain ⟨i, hi⟩ : ∃ i, childI (keys l) k = i := ⟨_, rfl⟩
  have hil : i < l.length := by
    have h1 := childI_lt (ks := keys l) (fun e => by rw [e] at hkl; have := ha.1; simp at hkl; omega) k
    omega
  have hal := ha.2.1
  obtain ⟨ra, q, rb, Fa, f, Fb, rfl, rfl, hra, sa, hq, sb, hrq⟩ := hin.focus i (subs_split l i hil) (subs_length_take l i hil)
  obtain ⟨vp, vq⟩ := v
  obtain ⟨n, hn⟩ : ∃ n, l.length = n := ⟨_, rfl⟩
  obtain ⟨rs, hrs⟩ : ∃ rs, ra ++ ([q] ++ rb) = rs := ⟨_, rfl⟩
  have HIN := Lib.hid hin
  rw [hrs] at hlen hin hrq
  obtain ⟨g2, o2, p2, k0, k1⟩ := hin.raw.kids (by omega)
  rw [hlen, hn] at k0
  have c2 : ∀ ob, (w.alloc ob).cell? ⟨r, 2, none⟩ = _ := fun ob => Still.cell ((Only.refl _ w).alloc ob) k0
  have c3 : ∀ ob, (w.alloc ob).cell? ⟨g2, o2 + i, none⟩ = some (ptr q) := fun ob => Still.cell ((Only.refl _ w).alloc ob) (k1 i q hrq)
  have d0 : ∀ tt, (w.alloc (.cells #[.int .i64 vp, .int .i64 vq] tt)).cell? ⟨w.heap.size, 0, none⟩ = some (.int .i64 vp) := fun tt => (cellsAt_new w [.int .i64 vp, .int .i64 vq] tt).cell 0
  have d1 : ∀ tt, (w.alloc (.cells #[.int .i64 vp, .int .i64 vq] tt)).cell? ⟨w.heap.size, 1, none⟩ = some (.int .i64 vq) := fun tt => (cellsAt_new w [.int .i64 vp, .int .i64 vq] tt).cell 1
  have t1 : ((n : Int) == 0) = false := by rw [beq_eq_false_iff_ne]; omega
  have b0 : (0 : Int) ≤ (i : Int) := by omega
  have b1 : (i : Int) < (n : Int) := by omega
  have HC := Lib.hid (fun w' (hs : Still w w') => child_any w' r (keys l) [] rs F0 k (hin.raw.still hs) (by omega) (by omega) (by omega))
  have HP := Lib.hid (fun w' (hs : Still w w') => ih w' q (sub l i) f k (vp, vq) (hq.only hs fun _ _ e => e) (able_child ha hil))
  rw [hi] at HC
  have HFF := Lib.hid hFF
  have HF := Lib.hid (And.intro hi (And.intro hil (And.intro hlen (And.intro hn (And.intro hrs (And.intro hra hrq))))))
  have HS := Lib.hid (And.intro sa sb)
  have HA := Lib.hid ha
  have HK := Lib.hid hkl
  clear h hFF hin hlen hkl hil hal hn hrs hra hrq sa sb hq k0 k1 ha hi ih
  unfold ptr ridV at HP ⊢
  unfold ptr at HC
  unfold ptr at c3
  go_enter Tryz.func47, Tryz.ntmps47
  go_wp2_with fail
  (with_reducible refine (HC.out _ ?_).mono ?_)
  · exact (Only.refl _ w).alloc _
  rintro e w0 ⟨rfl, rfl⟩
  have s2 := c2 (.cells #[.int .i64 vp, .int .i64 vq] 31)
  have s3 := c3 (.cells #[.int .i64 vp, .int .i64 vq] 31)
  have s4 := d0 31
  have s5 := d1 31
  have SW := Lib.hid (show Still w (w.alloc (.cells #[.int .i64 vp, .int .i64 vq] 31)) from (Only.refl _ w).alloc _)
  clear c2 c3 d0 d1
  generalize w.alloc _ = W at *
  generalize w.heap.size = bx at *
  go_wp2_with fail
  go_still_tail 9, (by kernel_rfl)
  go_wp2_with fail
  (with_reducible refine (HP.out _ ?_).mono ?_)
  · exact (SW.out.trans (Only.drew (Only.refl _ _)))
  rintro e w1 ⟨f', rfl, hq1, ho1, hf1⟩
  have hoW : Only (fun b => b ∈ f) w w1 := (SW.out.only.trans (Only.drew (Only.refl _ _))).trans ho1
  have hlW : w.heap.size ≤ W.drew.heap.size := SW.out.size
  have hpl := putM_length d (sub l i) k (vp, vq) (by
    have hc := able_child HA.out HF.out.2.1
    cases d with
    | zero => exact .inl rfl
    | succ d => exact .inr hc.1)
  have hcl := able_length (able_child HA.out HF.out.2.1)
  obtain ⟨c', hc'⟩ : ∃ c', putM d (sub l i) k (vp, vq) = c' := ⟨_, rfl⟩
  rw [hc'] at hq1 hpl
  have hin1 : Inr d w1 r (keys l) rs rs (subs (l.take i) ++ ([c'] ++ subs (l.drop (i + 1)))) F0 (Fa ++ ([f'] ++ Fb)) := by
    have h1 := HIN.out
    rw [subs_split l i HF.out.2.1] at h1
    have h2 := h1.turn HS.out.1 HS.out.2 (Sons.one hq1) (by simpa using hq1.nodup) (by simpa using hoW) (fun b hb => by
      have hb' : b ∈ f' := by simpa using hb
      rcases hf1 b hb' with h3 | h3
      · exact .inl (by simpa using h3)
      · exact .inr (Nat.le_trans hlW h3))
    rw [HF.out.2.2.2.2.1] at h2
    exact h2
  obtain ⟨g0, o0, p0, x0, xg, x1, x2⟩ := hin1.raw.keysAt (by have := HK.out; have := HF.out.2.1; omega)
  obtain ⟨g3, o3, p3, y0, y1⟩ := hin1.raw.kids (by have := HF.out.2.2.1; have := HF.out.2.1; omega)
  obtain ⟨gl, ol, nl, pl, l0, ln, l1, lr, lg⟩ := hq1.least hpl.2.2
  rw [HK.out, HF.out.2.2.2.1] at x0
  rw [HF.out.2.2.1, HF.out.2.2.2.1] at y0
  have y2 : w1.cell? ⟨g3, o3 + i, none⟩ = some (.pointer (some ⟨q, 0, none⟩)) := y1 i q HF.out.2.2.2.2.2.2
  obtain ⟨kold, hko⟩ : ∃ a, (keys l)[i]? = some a := ⟨_, List.getElem?_eq_getElem (by have := HK.out; have := HF.out.2.1; omega)⟩
  have x3 := x1 i _ hko
  have x4 := x3.1
  have x5 := x3.2
  have x6 := x2 i (fk c') (by have := HK.out; have := HF.out.2.1; omega)
  have hin2 : Inr d (w1.setCell ⟨g0, o0 + i, none⟩ (.string (fk c'))) r ((keys l).set i (fk c')) rs rs (subs (l.take i) ++ ([c'] ++ subs (l.drop (i + 1)))) F0 (Fa ++ ([f'] ++ Fb)) :=
    hin1.rawTurn x6 (Raw.setKey_only w1 xg _ _) (fun b hb => .inl hb)
  have hq2 : At d (w1.setCell ⟨g0, o0 + i, none⟩ (.string (fk c'))) q c' f' := hq1.only (Raw.setKey_only w1 xg (o0 + i) (.string (fk c'))) fun b hb hb0 =>
    (List.nodup_append.1 hin1.nd).2.2 b hb0 b (List.mem_flatten.2 ⟨f', by simp, hb⟩) rfl
  have ho2 : Only (fun b => b ∈ F) w (w1.setCell ⟨g0, o0 + i, none⟩ (.string (fk c'))) := (hoW.mono fun b hb => by rw [HFF.out]; exact List.mem_append_right _ (List.mem_flatten.2 ⟨f, by simp, hb⟩)).setCell (p := ⟨g0, o0 + i, none⟩) (.inl (by rw [HFF.out]; exact List.mem_append_left _ xg)) _
  have hsub : ∀ b ∈ F0 ++ (Fa ++ ([f'] ++ Fb)).flatten, b ∈ F ∨ w.heap.size ≤ b := fun b hb => by
    rw [HFF.out]
    simp only [List.flatten_append, List.flatten_cons, List.flatten_nil, List.append_nil, List.mem_append] at hb ⊢
    rcases hb with hb | hb | hb | hb
    · exact .inl (.inl hb)
    · exact .inl (.inr (.inl hb))
    · rcases hf1 b hb with h | h
      · exact .inl (.inr (.inr (.inl h)))
      · exact .inr (Nat.le_trans hlW h)
    · exact .inl (.inr (.inr (.inr hb)))
  obtain ⟨W2, hW2⟩ : ∃ W2, w1.setCell ⟨g0, o0 + i, none⟩ (.string (fk c')) = W2 := ⟨_, rfl⟩
  rw [hW2] at hin2 hq2 ho2
  obtain ⟨g4, o4, p4, z0, z1'⟩ := hin2.raw.kids (by have := HF.out.2.2.1; have := HF.out.2.1; omega)
  rw [HF.out.2.2.1, HF.out.2.2.2.1] at z0
  have z1 : W2.cell? ⟨g4, o4 + i, none⟩ = some (.pointer (some ⟨q, 0, none⟩)) := z1' i q HF.out.2.2.2.2.2.2
  have HI2 := Lib.hid (And.intro hin2 (And.intro hq2 (And.intro ho2 (And.intro hpl (And.intro hc' (And.intro hcl hsub))))))
  have SP1 := Lib.hid (fun w' (hs : Still W2 w') (h4 : c'.length ≤ 4) => split_at_small d w' q c' f' (HI2.out.2.1.only hs fun _ _ e => e) h4)
  have SP2 := Lib.hid (fun w' (hs : Still W2 w') (h4 : ¬ c'.length ≤ 4) => split_at d w' q c' f' (HI2.out.2.1.only hs fun _ _ e => e) (by omega) (by have := HI2.out.2.2.2.1; have := HI2.out.2.2.2.2.2.1; omega))
  unfold ptr at SP1 SP2
  clear hko hin1 hin2 hq2 ho2 z1' xg hoW hpl hf1 hlW hc' hcl hsub x6 x1 x2 x3 y1 hq1 ho1 s2 s3 s4 s5 lr lg
  generalize hkf : fk c' = kf at *
  have HKF := Lib.hid hkf
  clear hkf
  generalize hbf : putB d (sub l i) k = bf at *
  have HBF := Lib.hid (show putB (d + 1) l k = bf from by unfold putB; rw [HF.out.1, hbf])
  clear hbf
  go_wp2_with fail
  go_still_tail 18, (by kernel_rfl)
  go_wp2_with fail
  by_cases h4 : c'.length ≤ 4
  · (with_reducible refine (SP1.out _ ?_ h4).mono ?_)
    · exact Only.drew (Only.refl _ _)
    rintro e w3 ⟨rfl, hs3⟩
    have FIN := Lib.hid (show PutPost (d + 1) w r l F k (vp, vq) (.returned (.bool bf)) w3 from
      ⟨_, by rw [HBF.out], put_small HF.out.1 HF.out.2.1 HI2.out.2.2.2.2.1 h4 (HKF.out ▸ HI2.out.1.still (Only.trans (Only.drew (Only.refl _ _)) hs3)), HI2.out.2.2.1.trans (Only.trans (Only.drew (Only.refl _ _)) (hs3.mono fun _ e => e.elim)), HI2.out.2.2.2.2.2.2⟩)
    clear h4 hs3
    go_wp2_with fail
    go_ret
    exact FIN.out
  · (with_reducible refine (SP2.out _ ?_ h4).mono ?_)
    · exact Only.drew (Only.refl _ _)
    rintro e w3 ⟨y, F1, F2, rfl, hy1, hy2, ho3, hn3, hf3⟩
    have hin3 : Inr d w3 r ((keys l).set i kf) rs (ra ++ ([q, y] ++ rb)) (subs (l.take i) ++ ([c'.take (c'.length / 2), c'.drop (c'.length / 2)] ++ subs (l.drop (i + 1)))) F0 (Fa ++ ([F1, F2] ++ Fb)) := by
      have h1 := HI2.out.1
      rw [← HF.out.2.2.2.2.1] at h1
      obtain ⟨ra', q', rb', Fa', f'', Fb', e1, e2, e3, sa, _, sb, _⟩ := h1.focus i rfl (subs_length_take l i HF.out.2.1)
      have e4 := List.append_inj e1 (HF.out.2.2.2.2.2.1.trans e3.symm)
      have e5 := List.append_inj e4.2 rfl
      have e6 := List.append_inj e2 ((HS.out.1.lenF).trans (sa.lenF).symm)
      have e7 := List.append_inj e6.2 rfl
      rw [← e4.1, ← e6.1] at sa
      rw [← e5.2, ← e7.2] at sb
      have h2 := h1.turn sa sb (Sons.cons hy1 (Sons.one hy2)) (by simpa using hn3) (by simpa using Only.undrew' ho3) (fun b hb => by
        have hb' : b ∈ F1 ++ F2 := by simpa using hb
        rcases hf3 b hb' with h | h
        · exact .inl (by simpa using h)
        · exact .inr h)
      rw [HF.out.2.2.2.2.1] at h2
      exact h2
    obtain ⟨gy, oy, ny, py, l3, ln3, l4, lr4, lg4⟩ := hy2.least (by rw [List.length_drop]; omega)
    obtain ⟨kv, vv, cv, hnx, hFx, hdx, hlx⟩ := hin3.raw
    obtain ⟨ca, cc, rfl⟩ := hnx.c.form'
    obtain ⟨ka, kc, rfl⟩ := hnx.k.form'
    have hkl3 : ((keys l).set i kf).length = n := by rw [List.length_set]; have := HK.out; have := HF.out.2.2.2.1; omega
    have hcl3 : rs.length = n := by have := HF.out.2.2.1; have := HF.out.2.2.2.1; omega
    rw [hkl3] at hnx hFx
    rw [hcl3] at hnx hFx
    have hap : ∀ b ∈ F2, b ∉ F0 := fun b hb hb0 => (List.nodup_append.1 hin3.nd).2.2 b hb0 b (List.mem_flatten.2 ⟨F2, by simp, hb⟩) rfl
    generalize hyk : fk (c'.drop (c'.length / 2)) = yk at *
    obtain ⟨i1, i2, i3, i4⟩ := ins2 (j := i + 1) hnx ⟨hFx, hdx, hlx⟩ hkl3 hcl3 (by have := HA.out.2.1; have := HF.out.2.2.2.1; omega) (by have := HF.out.2.1; have := HF.out.2.2.2.1; omega) l3 l4 (hap _ lr4) (hap _ lg4)
    have ec : ((i + 1 : Nat) : Int) = (i : Int) + 1 := by omega
    rw [ec] at i1 i2
    clear ec
    have I1 := Lib.hid i1
    have I2 := Lib.hid i2
    have ZZ := Lib.hid i3
    have SS := Lib.hid i4
    have K1 := Lib.hid (fun tt => show cellsAt (w3.alloc (.cells #[.string yk] tt)).drew w3.heap.size [.string yk] from cellsAt_new w3 [.string yk] tt)
    have K2 := Lib.hid (fun tt B => show cellsAt ((w3.alloc (.cells #[.string yk] tt)).alloc B).drew w3.heap.size [.string yk] from (cellsAt_new w3 [.string yk] tt).alloc B)
    have K3 := Lib.hid (fun tt B => show cellsAt ((w3.alloc B).alloc (.cells #[.string yk] tt)).drew (w3.heap.size + 1) [.string yk] from by have := cellsAt_new (w3.alloc B) [.string yk] tt; exact cellsAt.drew (by simpa using this))
    have L2 := Lib.hid (fun tt B => show cellsAt ((w3.alloc (.cells #[.pointer (some ⟨y, 0, none⟩)] tt)).alloc B).drew w3.heap.size [.pointer (some ⟨y, 0, none⟩)] from (cellsAt_new w3 [.pointer (some ⟨y, 0, none⟩)] tt).alloc B)
    have L3 := Lib.hid (fun tt B => show cellsAt ((w3.alloc B).alloc (.cells #[.pointer (some ⟨y, 0, none⟩)] tt)).drew (w3.heap.size + 1) [.pointer (some ⟨y, 0, none⟩)] from by have := cellsAt_new (w3.alloc B) [.pointer (some ⟨y, 0, none⟩)] tt; exact cellsAt.drew (by simpa using this))
    have O1 := Lib.hid (fun A => show Only (fun _ => False) w3 (w3.alloc A).drew from ((Only.refl _ w3).alloc _).drew)
    have O2 := Lib.hid (fun A B => show Only (fun _ => False) w3 ((w3.alloc A).alloc B).drew from (((Only.refl _ w3).alloc _).alloc _).drew)
    have HI3 := Lib.hid (And.intro hin3 (And.intro hnx (And.intro (And.intro hFx (And.intro hdx hlx)) (And.intro ho3 hf3))))
    have H4 := Lib.hid h4
    have HL3 := Lib.hid (And.intro hkl3 (And.intro hcl3 hyk))
    have FB := Lib.hid (fun W' (hp : RawPost w3 r (((keys l).set i kf).take (i + 1) ++ yk :: ((keys l).set i kf).drop (i + 1)) [] (rs.take (i + 1) ++ y :: rs.drop (i + 1)) F0 (.bool bf) (.returned (.bool bf)) W') =>
      show PutPost (d + 1) w r l F k (vp, vq) (.returned (.bool bf)) W' from by
        obtain ⟨F0', _, hr', ho', hf'⟩ := hp
        have e1 : rs.take (i + 1) ++ y :: rs.drop (i + 1) = ra ++ ([q, y] ++ rb) := by
          rw [← HF.out.2.2.2.2.1, ← List.append_assoc, List.take_left' (by simp [HF.out.2.2.2.2.2.1]), List.drop_left' (by simp [HF.out.2.2.2.2.2.1])]
          simp
        rw [e1] at hr'
        have h4 := HI3.out.1.rawTurn hr' ho' hf'
        have h5 := put_great (v := (vp, vq)) HF.out.1 HF.out.2.1 HI2.out.2.2.2.2.1 H4.out (by rw [HL3.out.2.2, HKF.out]) h4
        have hWw : w.heap.size ≤ w3.heap.size := Nat.le_trans HI2.out.2.2.1.size HI3.out.2.2.2.1.size
        have hF0 : ∀ b ∈ F0, b ∈ F := fun b hb => by rw [HFF.out]; exact List.mem_append_left _ hb
        have hff : ∀ b ∈ f', b ∈ F ∨ w.heap.size ≤ b := fun b hb => HI2.out.2.2.2.2.2.2 b (by simp [hb])
        refine ⟨_, by rw [HBF.out], h5, ((HI2.out.2.2.1.andThen HI3.out.2.2.2.1.undrew (fun b hb hb' => ?_)).andThen ho' (fun b _ hb' => hF0 b hb')), fun b hb => ?_⟩
        · rcases hff b hb' with h | h
          · exact h
          · omega
        · simp only [List.flatten_append, List.flatten_cons, List.flatten_nil, List.append_nil, List.mem_append] at hb
          have hall : ∀ b ∈ F0 ++ (Fa ++ ([f'] ++ Fb)).flatten, b ∈ F ∨ w.heap.size ≤ b := HI2.out.2.2.2.2.2.2
          rcases hb with hb | hb | (hb | hb) | hb
          · rcases hf' b hb with h | h
            · exact .inl (hF0 b h)
            · exact .inr (Nat.le_trans hWw h)
          · exact hall b (by simp only [List.flatten_append, List.mem_append]; exact .inr (.inl hb))
          · rcases HI3.out.2.2.2.2 b (by simp [hb]) with h | h
            · exact hff b h
            · exact .inr (Nat.le_trans HI2.out.2.2.1.size h)
          · rcases HI3.out.2.2.2.2 b (by simp [hb]) with h | h
            · exact hff b h
            · exact .inr (Nat.le_trans HI2.out.2.2.1.size h)
          · exact hall b (by simp only [List.flatten_append, List.mem_append]; exact .inr (.inr (.inr hb))))
    have l1 : n + 1 = (((keys l).set i kf).take (i + 1) ++ yk :: ((keys l).set i kf).drop (i + 1)).length := by have := HF.out.2.1; have := HF.out.2.2.2.1; simp only [List.length_append, List.length_take, List.length_cons, List.length_drop]; omega
    have l2 : n + 1 = (rs.take (i + 1) ++ y :: rs.drop (i + 1)).length := by have := HF.out.2.1; have := HF.out.2.2.2.1; simp only [List.length_append, List.length_take, List.length_cons, List.length_drop]; omega
    have HE := Lib.hid (And.intro l1 l2)
    clear l1 l2
    have u1 : IntKind.i64.wrap ((i : Int) + 1) = (i : Int) + 1 := IntWalk.i64_in _ (by have := HA.out.2.1; have := HF.out.2.1; omega)
    unfold ptr
    clear hin3 hnx hFx hdx hlx ho3 hf3 hkl3 hcl3 hap i1 i2 i3 i4 lr4 lg4 hy1 hy2 hn3 h4 hyk l3 l4
    go_wp2_with fail
    refine wp_region_D_drew (D := (fun i => [0, 1, 2, 3, 4, 6, 7, 8, 9, 10, 16, 17, 18, 20, 21, 22, 25, 26, 27, 28, 29, 30].contains i)) (S := (fun w' => w'.cell? ⟨r, 0, none⟩ = some (.slice ka n kc) ∧ w'.cell? ⟨r, 2, none⟩ = some (.slice ca n cc) ∧ w'.cell? ⟨y, 0, none⟩ = some (.slice (some ⟨gy, oy, none⟩) ny py) ∧ w'.cell? ⟨gy, oy, none⟩ = some (.string yk))) (by kernel_rfl) ?_ (fun hHeld => ?_)
    · ((try dsimp only) <;> (first | (with_reducible exact SS.out _ (Only.drew (Only.refl _ w3))) | (with_reducible exact SS.out _ ((O1.out _).mono fun _ e => e.elim)) | (with_reducible exact SS.out _ ((O2.out _ _).mono fun _ e => e.elim)) | (with_reducible exact SS.out _ T2.only) | (with_reducible exact SS.out _ (T1.only.mono fun _ e => .inl e)) | (with_reducible exact SS.out _ ((T1.only.mono fun _ e => .inl e).alloc _))))
    (refine takeD (i := 0) (some 97) (v := ?_) rfl (by rfl) (by rfl) (by kernel_rfl) (by rfl) (fun _ _ _ h => h) ?_ ?_; rotate_left; (intro w; go_simp; try with_reducible rfl); try go_frame)
    (refine takeD (i := 1) (some 98) (v := ?_) rfl (by rfl) (by rfl) (by kernel_rfl) (by rfl) (fun _ _ _ h => h) ?_ ?_; rotate_left; (intro w; go_simp; try with_reducible rfl); try go_frame)
    (refine takeD (i := 2) (some 99) (v := ?_) rfl (by rfl) (by rfl) (by kernel_rfl) (by rfl) (fun _ _ _ h => h) ?_ ?_; rotate_left; (intro w; go_simp; try with_reducible rfl); try go_frame)
    (refine takeD (i := 3) (some 100) (v := ?_) rfl (by rfl) (by rfl) (by kernel_rfl) (by rfl) (fun _ _ _ h => h) ?_ ?_; rotate_left; (intro w; go_simp; try with_reducible rfl); try go_frame)
    (refine takeD (i := 4) (some 101) (v := ?_) rfl (by rfl) (by rfl) (by kernel_rfl) (by rfl) (fun _ _ _ h => h) ?_ ?_; rotate_left; (intro w; go_simp; try with_reducible rfl); try go_frame)
    (refine takeD (i := 6) (some 103) (v := ?_) rfl (by rfl) (by rfl) (by kernel_rfl) (by rfl) (fun _ _ _ h => h) ?_ ?_; rotate_left; (intro w; go_simp; try with_reducible rfl); try go_frame)
    (refine takeD (i := 7) (some 104) (v := ?_) rfl (by rfl) (by rfl) (by kernel_rfl) (by rfl) (fun _ _ _ h => h) ?_ ?_; rotate_left; (intro w; go_simp; try with_reducible rfl); try go_frame)
    (refine takeD (i := 8) (some 105) (v := ?_) rfl (by rfl) (by rfl) (by kernel_rfl) (by rfl) (fun _ _ _ h => h) ?_ ?_; rotate_left; (intro w; go_simp; try with_reducible rfl); try go_frame)
    (refine takeD (i := 9) (some 106) (v := ?_) rfl (by rfl) (by rfl) (by kernel_rfl) (by rfl) (fun _ _ _ h => h) ?_ ?_; rotate_left; (intro w; go_simp; try with_reducible rfl); try go_frame)
    (refine takeD (i := 10) (some 107) (v := ?_) rfl (by rfl) (by rfl) (by kernel_rfl) (by rfl) (fun _ _ _ h => h) ?_ ?_; rotate_left; (intro w; go_simp; try with_reducible rfl); try go_frame)
    (refine takeD (i := 16) (some 113) (v := ?_) rfl (by rfl) (by rfl) (by kernel_rfl) (by rfl) (fun _ _ _ h => h) ?_ ?_; rotate_left; (intro w; go_simp; try with_reducible rfl); try go_frame)
    (refine takeD (i := 17) (some 114) (v := ?_) rfl (by rfl) (by rfl) (by kernel_rfl) (by rfl) (fun _ _ _ h => h) ?_ ?_; rotate_left; (intro w; go_simp; try with_reducible rfl); try go_frame)
    (refine takeD (i := 18) (some 115) (v := ?_) rfl (by rfl) (by rfl) (by kernel_rfl) (by rfl) (fun _ _ _ h => h) ?_ ?_; rotate_left; (intro w; go_simp; try with_reducible rfl); try go_frame)
    (refine takeD (i := 20) (some 117) (v := ?_) rfl (by rfl) (by rfl) (by kernel_rfl) (by rfl) (fun _ _ _ h => h) ?_ ?_; rotate_left; (intro w; go_simp; try with_reducible rfl); try go_frame)
    (refine takeD (i := 21) (some 118) (v := ?_) rfl (by rfl) (by rfl) (by kernel_rfl) (by rfl) (fun _ _ _ h => h) ?_ ?_; rotate_left; (intro w; go_simp; try with_reducible rfl); try go_frame)
    (refine takeD (i := 22) (some 119) (v := ?_) rfl (by rfl) (by rfl) (by kernel_rfl) (by rfl) (fun _ _ _ h => h) ?_ ?_; rotate_left; (intro w; go_simp; try with_reducible rfl); try go_frame)
    (refine takeS (i := 5) (some 102) (v := ?_) rfl (by rfl) (by rfl) (by kernel_rfl) (by rfl) (fun _ _ _ h => h) (by assumption) ?_ ?_; rotate_left; (intro w hSw; (try dsimp only at hSw); go_simp; try with_reducible rfl); try go_frame)
    (refine takeS (i := 11) (some 108) (v := ?_) rfl (by rfl) (by rfl) (by kernel_rfl) (by rfl) (fun _ _ _ h => h) (by assumption) ?_ ?_; rotate_left; (intro w hSw; (try dsimp only at hSw); go_simp; try with_reducible rfl); try go_frame)
    (refine takeS (i := 12) (some 109) (v := ?_) rfl (by rfl) (by rfl) (by kernel_rfl) (by rfl) (fun _ _ _ h => h) (by assumption) ?_ ?_; rotate_left; (intro w hSw; (try dsimp only at hSw); go_simp; try with_reducible rfl); try go_frame)
    (refine takeS (i := 13) (some 110) (v := ?_) rfl (by rfl) (by rfl) (by kernel_rfl) (by rfl) (fun _ _ _ h => h) (by assumption) ?_ ?_; rotate_left; (intro w hSw; (try dsimp only at hSw); go_simp; try with_reducible rfl); try go_frame)
    (refine takeS (i := 19) (some 116) (v := ?_) rfl (by rfl) (by rfl) (by kernel_rfl) (by rfl) (fun _ _ _ h => h) (by assumption) ?_ ?_; rotate_left; (intro w hSw; (try dsimp only at hSw); go_simp; try with_reducible rfl); try go_frame)
    refine wpAnyD_ready (rs := [14, 23]) (by kernel_rfl) (by simp) ?_
    refine ReadyD.cons rfl (fun K hK => ?_) ?_
    go_simp
    (refine hK.out _ _ ?_ (fun hNew => ?_); (focus ((try dsimp only) <;> (first | (with_reducible exact SS.out _ (Only.drew (Only.refl _ w3))) | (with_reducible exact SS.out _ ((O1.out _).mono fun _ e => e.elim)) | (with_reducible exact SS.out _ ((O2.out _ _).mono fun _ e => e.elim)) | (with_reducible exact SS.out _ T2.only) | (with_reducible exact SS.out _ (T1.only.mono fun _ e => .inl e)) | (with_reducible exact SS.out _ ((T1.only.mono fun _ e => .inl e).alloc _))))); clear hHeld; have hHeld := hNew; clear hNew)
    (clear hK K; try go_frame)
    refine wpAnyD_ready (rs := [15, 23]) (by kernel_rfl) (by simp) ?_
    refine ReadyD.cons rfl (fun K hK => ?_) ?_
    go_simp
    (first | (go_at_call 67; (with_reducible refine (I1.out _ ?_ _ ?_ ?_).mono ?_); (focus (first | (with_reducible exact O1.out _) | (with_reducible exact O2.out _ _))); (focus (first | (with_reducible exact K1.out _) | (with_reducible exact K2.out _ _) | (with_reducible exact K3.out _ _))); (focus (first | exact Nat.le_refl _ | exact Nat.le_succ _)); rintro e w5 ⟨a1, c1, rfl, T1⟩) | (go_at_call 75; (with_reducible refine (I2.out _ ?_ _ ?_ ?_).mono ?_); (focus (first | (with_reducible exact T1.only) | (with_reducible exact T1.only.alloc _))); (focus (first | (with_reducible exact cellsAt_new w5 [.pointer (some ⟨y, 0, none⟩)] _) | (with_reducible exact T1.keep _ _ (Nat.le_succ _) (L3.out _ _)) | (with_reducible exact T1.keep _ _ (Nat.le_refl _) (L2.out _ _)))); (focus (first | (with_reducible exact T1.only.size) | exact Nat.le_refl _ | exact Nat.le_succ _)); rintro e w6 ⟨a2, c2, rfl, T2⟩; obtain ⟨g0, g1, g2, g3⟩ := ZZ.out _ T2.only))
    go_wp2_with fail
    (refine hK.out _ _ ?_ (fun hNew => ?_); (focus ((try dsimp only) <;> (first | (with_reducible exact SS.out _ (Only.drew (Only.refl _ w3))) | (with_reducible exact SS.out _ ((O1.out _).mono fun _ e => e.elim)) | (with_reducible exact SS.out _ ((O2.out _ _).mono fun _ e => e.elim)) | (with_reducible exact SS.out _ T2.only) | (with_reducible exact SS.out _ (T1.only.mono fun _ e => .inl e)) | (with_reducible exact SS.out _ ((T1.only.mono fun _ e => .inl e).alloc _))))); clear hHeld; have hHeld := hNew; clear hNew)
    (clear hK K; try go_frame)
    refine wpAnyD_ready (rs := [23]) (by kernel_rfl) (by simp) ?_
    refine ReadyD.cons rfl (fun K hK => ?_) ?_
    go_simp
    (refine hK.out _ _ ?_ (fun hNew => ?_); (focus ((try dsimp only) <;> (first | (with_reducible exact SS.out _ (Only.drew (Only.refl _ w3))) | (with_reducible exact SS.out _ ((O1.out _).mono fun _ e => e.elim)) | (with_reducible exact SS.out _ ((O2.out _ _).mono fun _ e => e.elim)) | (with_reducible exact SS.out _ T2.only) | (with_reducible exact SS.out _ (T1.only.mono fun _ e => .inl e)) | (with_reducible exact SS.out _ ((T1.only.mono fun _ e => .inl e).alloc _))))); clear hHeld; have hHeld := hNew; clear hNew)
    (clear hK K; try go_frame)
    refine wpAnyD_ready (rs := [24]) (by kernel_rfl) (by simp) ?_
    refine ReadyD.cons rfl (fun K hK => ?_) ?_
    go_simp
    (first | (go_at_call 67; (with_reducible refine (I1.out _ ?_ _ ?_ ?_).mono ?_); (focus (first | (with_reducible exact O1.out _) | (with_reducible exact O2.out _ _))); (focus (first | (with_reducible exact K1.out _) | (with_reducible exact K2.out _ _) | (with_reducible exact K3.out _ _))); (focus (first | exact Nat.le_refl _ | exact Nat.le_succ _)); rintro e w5 ⟨a1, c1, rfl, T1⟩) | (go_at_call 75; (with_reducible refine (I2.out _ ?_ _ ?_ ?_).mono ?_); (focus (first | (with_reducible exact T1.only) | (with_reducible exact T1.only.alloc _))); (focus (first | (with_reducible exact cellsAt_new w5 [.pointer (some ⟨y, 0, none⟩)] _) | (with_reducible exact T1.keep _ _ (Nat.le_succ _) (L3.out _ _)) | (with_reducible exact T1.keep _ _ (Nat.le_refl _) (L2.out _ _)))); (focus (first | (with_reducible exact T1.only.size) | exact Nat.le_refl _ | exact Nat.le_succ _)); rintro e w6 ⟨a2, c2, rfl, T2⟩; obtain ⟨g0, g1, g2, g3⟩ := ZZ.out _ T2.only))
    go_wp2_with fail
    (refine hK.out _ _ ?_ (fun hNew => ?_); (focus ((try dsimp only) <;> (first | (with_reducible exact SS.out _ (Only.drew (Only.refl _ w3))) | (with_reducible exact SS.out _ ((O1.out _).mono fun _ e => e.elim)) | (with_reducible exact SS.out _ ((O2.out _ _).mono fun _ e => e.elim)) | (with_reducible exact SS.out _ T2.only) | (with_reducible exact SS.out _ (T1.only.mono fun _ e => .inl e)) | (with_reducible exact SS.out _ ((T1.only.mono fun _ e => .inl e).alloc _))))); clear hHeld; have hHeld := hNew; clear hNew)
    (clear hK K; try go_frame)
    (refine takeD (i := 25) (some 122) (v := ?_) rfl (by rfl) (by rfl) (by kernel_rfl) (by rfl) (fun _ _ _ h => h) ?_ ?_; rotate_left; (intro w; go_simp; try with_reducible rfl); try go_frame)
    (refine takeD (i := 26) (some 123) (v := ?_) rfl (by rfl) (by rfl) (by kernel_rfl) (by rfl) (fun _ _ _ h => h) ?_ ?_; rotate_left; (intro w; go_simp; try with_reducible rfl); try go_frame)
    refine wpAnyD_ready (rs := [27]) (by kernel_rfl) (by simp) ?_
    refine ReadyD.last rfl (by rfl) (fun K hK => ?_) ?_
    go_simp
    refine hK.out _ _ ?_
    (clear hK K; try go_frame)
    (refine takeD (i := 28) (some 124) (v := ?_) rfl (by rfl) (by rfl) (by kernel_rfl) (by rfl) (fun _ _ _ h => h) ?_ ?_; rotate_left; (intro w; go_simp; try with_reducible rfl); try go_frame)
    (refine takeD (i := 29) (some 125) (v := ?_) rfl (by rfl) (by rfl) (by kernel_rfl) (by rfl) (fun _ _ _ h => h) ?_ ?_; rotate_left; (intro w; go_simp; try with_reducible rfl); try go_frame)
    refine wpAnyD_ready (rs := [30]) (by kernel_rfl) (by simp) ?_
    refine ReadyD.last rfl (by rfl) (fun K hK => ?_) ?_
    go_simp
    refine hK.out _ _ ?_
    (clear hK K; try go_frame)
    refine wpAnyD_done (by kernel_rfl) ?_ _
    rotate_left
    exact ReadyD.nil
    exact ReadyD.nil
    exact ReadyD.nil
    exact ReadyD.nil
    refine ReadyD.cons rfl (fun K hK => ?_) ?_
    go_simp
    (refine hK.out _ _ ?_ (fun hNew => ?_); (focus ((try dsimp only) <;> (first | (with_reducible exact SS.out _ (Only.drew (Only.refl _ w3))) | (with_reducible exact SS.out _ ((O1.out _).mono fun _ e => e.elim)) | (with_reducible exact SS.out _ ((O2.out _ _).mono fun _ e => e.elim)) | (with_reducible exact SS.out _ T2.only) | (with_reducible exact SS.out _ (T1.only.mono fun _ e => .inl e)) | (with_reducible exact SS.out _ ((T1.only.mono fun _ e => .inl e).alloc _))))); clear hHeld; have hHeld := hNew; clear hNew)
    (clear hK K; try go_frame)
    refine wpAnyD_ready (rs := [15]) (by kernel_rfl) (by simp) ?_
    refine ReadyD.cons rfl (fun K hK => ?_) ?_
    go_simp
    (first | (go_at_call 67; (with_reducible refine (I1.out _ ?_ _ ?_ ?_).mono ?_); (focus (first | (with_reducible exact O1.out _) | (with_reducible exact O2.out _ _))); (focus (first | (with_reducible exact K1.out _) | (with_reducible exact K2.out _ _) | (with_reducible exact K3.out _ _))); (focus (first | exact Nat.le_refl _ | exact Nat.le_succ _)); rintro e w5 ⟨a1, c1, rfl, T1⟩) | (go_at_call 75; (with_reducible refine (I2.out _ ?_ _ ?_ ?_).mono ?_); (focus (first | (with_reducible exact T1.only) | (with_reducible exact T1.only.alloc _))); (focus (first | (with_reducible exact cellsAt_new w5 [.pointer (some ⟨y, 0, none⟩)] _) | (with_reducible exact T1.keep _ _ (Nat.le_succ _) (L3.out _ _)) | (with_reducible exact T1.keep _ _ (Nat.le_refl _) (L2.out _ _)))); (focus (first | (with_reducible exact T1.only.size) | exact Nat.le_refl _ | exact Nat.le_succ _)); rintro e w6 ⟨a2, c2, rfl, T2⟩; obtain ⟨g0, g1, g2, g3⟩ := ZZ.out _ T2.only))
    go_wp2_with fail
    (refine hK.out _ _ ?_ (fun hNew => ?_); (focus ((try dsimp only) <;> (first | (with_reducible exact SS.out _ (Only.drew (Only.refl _ w3))) | (with_reducible exact SS.out _ ((O1.out _).mono fun _ e => e.elim)) | (with_reducible exact SS.out _ ((O2.out _ _).mono fun _ e => e.elim)) | (with_reducible exact SS.out _ T2.only) | (with_reducible exact SS.out _ (T1.only.mono fun _ e => .inl e)) | (with_reducible exact SS.out _ ((T1.only.mono fun _ e => .inl e).alloc _))))); clear hHeld; have hHeld := hNew; clear hNew)
    (clear hK K; try go_frame)
    refine wpAnyD_ready (rs := [24]) (by kernel_rfl) (by simp) ?_
    refine ReadyD.cons rfl (fun K hK => ?_) ?_
    go_simp
    (first | (go_at_call 67; (with_reducible refine (I1.out _ ?_ _ ?_ ?_).mono ?_); (focus (first | (with_reducible exact O1.out _) | (with_reducible exact O2.out _ _))); (focus (first | (with_reducible exact K1.out _) | (with_reducible exact K2.out _ _) | (with_reducible exact K3.out _ _))); (focus (first | exact Nat.le_refl _ | exact Nat.le_succ _)); rintro e w5 ⟨a1, c1, rfl, T1⟩) | (go_at_call 75; (with_reducible refine (I2.out _ ?_ _ ?_ ?_).mono ?_); (focus (first | (with_reducible exact T1.only) | (with_reducible exact T1.only.alloc _))); (focus (first | (with_reducible exact cellsAt_new w5 [.pointer (some ⟨y, 0, none⟩)] _) | (with_reducible exact T1.keep _ _ (Nat.le_succ _) (L3.out _ _)) | (with_reducible exact T1.keep _ _ (Nat.le_refl _) (L2.out _ _)))); (focus (first | (with_reducible exact T1.only.size) | exact Nat.le_refl _ | exact Nat.le_succ _)); rintro e w6 ⟨a2, c2, rfl, T2⟩; obtain ⟨g0, g1, g2, g3⟩ := ZZ.out _ T2.only))
    go_wp2_with fail
    (refine hK.out _ _ ?_ (fun hNew => ?_); (focus ((try dsimp only) <;> (first | (with_reducible exact SS.out _ (Only.drew (Only.refl _ w3))) | (with_reducible exact SS.out _ ((O1.out _).mono fun _ e => e.elim)) | (with_reducible exact SS.out _ ((O2.out _ _).mono fun _ e => e.elim)) | (with_reducible exact SS.out _ T2.only) | (with_reducible exact SS.out _ (T1.only.mono fun _ e => .inl e)) | (with_reducible exact SS.out _ ((T1.only.mono fun _ e => .inl e).alloc _))))); clear hHeld; have hHeld := hNew; clear hNew)
    (clear hK K; try go_frame)
    (refine takeD (i := 25) (some 122) (v := ?_) rfl (by rfl) (by rfl) (by kernel_rfl) (by rfl) (fun _ _ _ h => h) ?_ ?_; rotate_left; (intro w; go_simp; try with_reducible rfl); try go_frame)
    (refine takeD (i := 26) (some 123) (v := ?_) rfl (by rfl) (by rfl) (by kernel_rfl) (by rfl) (fun _ _ _ h => h) ?_ ?_; rotate_left; (intro w; go_simp; try with_reducible rfl); try go_frame)
    refine wpAnyD_ready (rs := [27]) (by kernel_rfl) (by simp) ?_
    refine ReadyD.last rfl (by rfl) (fun K hK => ?_) ?_
    go_simp
    refine hK.out _ _ ?_
    (clear hK K; try go_frame)
    (refine takeD (i := 28) (some 124) (v := ?_) rfl (by rfl) (by rfl) (by kernel_rfl) (by rfl) (fun _ _ _ h => h) ?_ ?_; rotate_left; (intro w; go_simp; try with_reducible rfl); try go_frame)
    (refine takeD (i := 29) (some 125) (v := ?_) rfl (by rfl) (by rfl) (by kernel_rfl) (by rfl) (fun _ _ _ h => h) ?_ ?_; rotate_left; (intro w; go_simp; try with_reducible rfl); try go_frame)
    refine wpAnyD_ready (rs := [30]) (by kernel_rfl) (by simp) ?_
    refine ReadyD.last rfl (by rfl) (fun K hK => ?_) ?_
    go_simp
    refine hK.out _ _ ?_
    (clear hK K; try go_frame)
    refine wpAnyD_done (by kernel_rfl) ?_ _
    rotate_left
    exact ReadyD.nil
    exact ReadyD.nil
    exact ReadyD.nil
    exact ReadyD.nil
    exact ReadyD.nil
    refine ReadyD.cons rfl (fun K hK => ?_) ?_
    go_simp
    (refine hK.out _ _ ?_ (fun hNew => ?_); (focus ((try dsimp only) <;> (first | (with_reducible exact SS.out _ (Only.drew (Only.refl _ w3))) | (with_reducible exact SS.out _ ((O1.out _).mono fun _ e => e.elim)) | (with_reducible exact SS.out _ ((O2.out _ _).mono fun _ e => e.elim)) | (with_reducible exact SS.out _ T2.only) | (with_reducible exact SS.out _ (T1.only.mono fun _ e => .inl e)) | (with_reducible exact SS.out _ ((T1.only.mono fun _ e => .inl e).alloc _))))); clear hHeld; have hHeld := hNew; clear hNew)
    (clear hK K; try go_frame)
    refine wpAnyD_ready (rs := [14]) (by kernel_rfl) (by simp) ?_
    refine ReadyD.cons rfl (fun K hK => ?_) ?_
    go_simp
    (refine hK.out _ _ ?_ (fun hNew => ?_); (focus ((try dsimp only) <;> (first | (with_reducible exact SS.out _ (Only.drew (Only.refl _ w3))) | (with_reducible exact SS.out _ ((O1.out _).mono fun _ e => e.elim)) | (with_reducible exact SS.out _ ((O2.out _ _).mono fun _ e => e.elim)) | (with_reducible exact SS.out _ T2.only) | (with_reducible exact SS.out _ (T1.only.mono fun _ e => .inl e)) | (with_reducible exact SS.out _ ((T1.only.mono fun _ e => .inl e).alloc _))))); clear hHeld; have hHeld := hNew; clear hNew)
    (clear hK K; try go_frame)
    refine wpAnyD_ready (rs := [15]) (by kernel_rfl) (by simp) ?_
    refine ReadyD.cons rfl (fun K hK => ?_) ?_
    go_simp
    (first | (go_at_call 67; (with_reducible refine (I1.out _ ?_ _ ?_ ?_).mono ?_); (focus (first | (with_reducible exact O1.out _) | (with_reducible exact O2.out _ _))); (focus (first | (with_reducible exact K1.out _) | (with_reducible exact K2.out _ _) | (with_reducible exact K3.out _ _))); (focus (first | exact Nat.le_refl _ | exact Nat.le_succ _)); rintro e w5 ⟨a1, c1, rfl, T1⟩) | (go_at_call 75; (with_reducible refine (I2.out _ ?_ _ ?_ ?_).mono ?_); (focus (first | (with_reducible exact T1.only) | (with_reducible exact T1.only.alloc _))); (focus (first | (with_reducible exact cellsAt_new w5 [.pointer (some ⟨y, 0, none⟩)] _) | (with_reducible exact T1.keep _ _ (Nat.le_succ _) (L3.out _ _)) | (with_reducible exact T1.keep _ _ (Nat.le_refl _) (L2.out _ _)))); (focus (first | (with_reducible exact T1.only.size) | exact Nat.le_refl _ | exact Nat.le_succ _)); rintro e w6 ⟨a2, c2, rfl, T2⟩; obtain ⟨g0, g1, g2, g3⟩ := ZZ.out _ T2.only))
    go_wp2_with fail
    (refine hK.out _ _ ?_ (fun hNew => ?_); (focus ((try dsimp only) <;> (first | (with_reducible exact SS.out _ (Only.drew (Only.refl _ w3))) | (with_reducible exact SS.out _ ((O1.out _).mono fun _ e => e.elim)) | (with_reducible exact SS.out _ ((O2.out _ _).mono fun _ e => e.elim)) | (with_reducible exact SS.out _ T2.only) | (with_reducible exact SS.out _ (T1.only.mono fun _ e => .inl e)) | (with_reducible exact SS.out _ ((T1.only.mono fun _ e => .inl e).alloc _))))); clear hHeld; have hHeld := hNew; clear hNew)
    (clear hK K; try go_frame)
    refine wpAnyD_ready (rs := [24]) (by kernel_rfl) (by simp) ?_
    refine ReadyD.cons rfl (fun K hK => ?_) ?_
    go_simp
    (first | (go_at_call 67; (with_reducible refine (I1.out _ ?_ _ ?_ ?_).mono ?_); (focus (first | (with_reducible exact O1.out _) | (with_reducible exact O2.out _ _))); (focus (first | (with_reducible exact K1.out _) | (with_reducible exact K2.out _ _) | (with_reducible exact K3.out _ _))); (focus (first | exact Nat.le_refl _ | exact Nat.le_succ _)); rintro e w5 ⟨a1, c1, rfl, T1⟩) | (go_at_call 75; (with_reducible refine (I2.out _ ?_ _ ?_ ?_).mono ?_); (focus (first | (with_reducible exact T1.only) | (with_reducible exact T1.only.alloc _))); (focus (first | (with_reducible exact cellsAt_new w5 [.pointer (some ⟨y, 0, none⟩)] _) | (with_reducible exact T1.keep _ _ (Nat.le_succ _) (L3.out _ _)) | (with_reducible exact T1.keep _ _ (Nat.le_refl _) (L2.out _ _)))); (focus (first | (with_reducible exact T1.only.size) | exact Nat.le_refl _ | exact Nat.le_succ _)); rintro e w6 ⟨a2, c2, rfl, T2⟩; obtain ⟨g0, g1, g2, g3⟩ := ZZ.out _ T2.only))
    go_wp2_with fail
    (refine hK.out _ _ ?_ (fun hNew => ?_); (focus ((try dsimp only) <;> (first | (with_reducible exact SS.out _ (Only.drew (Only.refl _ w3))) | (with_reducible exact SS.out _ ((O1.out _).mono fun _ e => e.elim)) | (with_reducible exact SS.out _ ((O2.out _ _).mono fun _ e => e.elim)) | (with_reducible exact SS.out _ T2.only) | (with_reducible exact SS.out _ (T1.only.mono fun _ e => .inl e)) | (with_reducible exact SS.out _ ((T1.only.mono fun _ e => .inl e).alloc _))))); clear hHeld; have hHeld := hNew; clear hNew)
    (clear hK K; try go_frame)
    (refine takeD (i := 25) (some 122) (v := ?_) rfl (by rfl) (by rfl) (by kernel_rfl) (by rfl) (fun _ _ _ h => h) ?_ ?_; rotate_left; (intro w; go_simp; try with_reducible rfl); try go_frame)
    (refine takeD (i := 26) (some 123) (v := ?_) rfl (by rfl) (by rfl) (by kernel_rfl) (by rfl) (fun _ _ _ h => h) ?_ ?_; rotate_left; (intro w; go_simp; try with_reducible rfl); try go_frame)
    refine wpAnyD_ready (rs := [27]) (by kernel_rfl) (by simp) ?_
    refine ReadyD.last rfl (by rfl) (fun K hK => ?_) ?_
    go_simp
    refine hK.out _ _ ?_
    (clear hK K; try go_frame)
    (refine takeD (i := 28) (some 124) (v := ?_) rfl (by rfl) (by rfl) (by kernel_rfl) (by rfl) (fun _ _ _ h => h) ?_ ?_; rotate_left; (intro w; go_simp; try with_reducible rfl); try go_frame)
    (refine takeD (i := 29) (some 125) (v := ?_) rfl (by rfl) (by rfl) (by kernel_rfl) (by rfl) (fun _ _ _ h => h) ?_ ?_; rotate_left; (intro w; go_simp; try with_reducible rfl); try go_frame)
    refine wpAnyD_ready (rs := [30]) (by kernel_rfl) (by simp) ?_
    refine ReadyD.last rfl (by rfl) (fun K hK => ?_) ?_
    go_simp
    refine hK.out _ _ ?_
    (clear hK K; try go_frame)
    refine wpAnyD_done (by kernel_rfl) ?_ _
    rotate_left
    exact ReadyD.nil
    exact ReadyD.nil
    exact ReadyD.nil
    exact ReadyD.nil
    exact ReadyD.nil
    exact ReadyD.nil
    all_goals
      have FC := Lib.hid (fun hs => two_turnedC HI3.out.2.1 HI3.out.2.2.1 (Still.refl _) T1 T2 hs HE.out.1 HE.out.2 (.bool bf))
      go_wp2_with fail
      go_ret
      first
        | exact FB.out _ (FC.out (Still.refl _))
        | exact FB.out _ (FC.out ((Only.refl _ _).alloc _))
end Go.Proofs.YtedfijmaeoednaaGreatDoor

/- Put and Cut of a tree as it is held. Conditions: a tree in memory. The second instance: a place and a second key. Cut of a tree as it is held. Conditions: a tree in memory. The second instance: a place and a second key. Get of a tree as it is held. Conditions: a tree in memory. The second instance: a place and a second key. How many keys a tree has. Conditions: a tree in memory. The second instance: a place and a second key. -/
import Derived.Test.YtedfijmaeoednaaGreatDoorBx19
import Derived.Laws.ResultCell
namespace Go.Proofs.YtedfijmaeoednaaGreatDoor.Ke
open Go.RowKit Go.Wh

def TPut (w : World) (t : Nat) (l : Nd 0) (F : List Nat) (k : Key) (v : Rid) (e : Ending) (w' : World) : Prop :=
  ∃ F', e = .returned (.bool !(hasK (keys l) k)) ∧ TreeAt w' t (insL l k v) F' ∧ Only (fun b => b ∈ F) w w' ∧ ∀ b ∈ F', b ∈ F ∨ w.heap.size ≤ b
def TCut (w : World) (t : Nat) (l : Nd 0) (F : List Nat) (k : Key) (e : Ending) (w' : World) : Prop :=
  ∃ F', e = .returned (.bool (hasK (keys l) k)) ∧ TreeAt w' t (delL l k) F' ∧ Only (fun b => b ∈ F) w w' ∧ ∀ b ∈ F', b ∈ F ∨ w.heap.size ≤ b

/-- The last step: how many there are. -/
theorem tree_count {w : World} {t d r n m : Nat} {x : Nd d} {G : List Nat} {l : Nd 0} (hc : cellsAt w t [ptr r, .int .i64 n]) (hat : At d w r x G) (ht : t ∉ G) (hg : Good d x) (hf : flat d x = l) (hm : m = l.length) :
    TreeAt (w.setCell ⟨t, 1, none⟩ (.int .i64 m)) t l (t :: G) ∧ (n = m → TreeAt w t l (t :: G)) := by
  subst hm
  refine ⟨⟨d, r, x, G, hc.setCell 1 _, hat.only (setCell_only w ⟨t, 1, none⟩ _) fun b hb e => ht (by have e' : b = t := e; exact e' ▸ hb), rfl, ht, hg, hf⟩, fun e => ?_⟩
  subst e
  exact ⟨d, r, x, G, hc, hat, rfl, ht, hg, hf⟩

/-- A root of two children. -/
theorem root_two {d : Nat} {w W : World} {r y b1 b2 rr t : Nat} {c1 c2 : Nd d} {F1 F2 : List Nat} {k1 k2 : Key} (h1 : At d w r c1 F1) (h2 : At d w y c2 F2) (hn : (F1 ++ F2).Nodup) (ho : Only (fun b => b = t) w W) (ht : t ∉ F1 ++ F2)
    (e1 : cellsAt W b1 [.string k1, .string k2]) (e2 : cellsAt W b2 [ptr r, ptr y]) (e3 : cellsAt W rr [.slice (some ⟨b1, 0, none⟩) 2 2, .slice none 0 0, .slice (some ⟨b2, 0, none⟩) 2 2])
    (n1 : w.heap.size ≤ b1) (n2 : w.heap.size ≤ b2) (n3 : w.heap.size ≤ rr) (m1 : b1 ≠ b2) (m2 : rr ≠ b1) (m3 : rr ≠ b2) : At (d + 1) W rr [kn k1 c1, kn k2 c2] ([rr, b1, b2] ++ (F1 ++ F2)) := by
  have hnot : ∀ b, b ∈ F1 ++ F2 → ¬ b = t := fun b hb e => ht (e ▸ hb)
  have hr : Raw W rr [k1, k2] [] [r, y] [rr, b1, b2] := by
    refine ⟨.slice (some ⟨b1, 0, none⟩) 2 2, .slice none 0 0, .slice (some ⟨b2, 0, none⟩) 2 2, ⟨e3, ?_, Vec.nil _ _, ?_⟩, rfl, by simp [m1, m2, m3], ?_⟩
    · obtain ⟨tt, hb⟩ := e1
      have := vecAt_block (size := 1) (n := 2) (cap := 2) hb (by simp) (Nat.le_refl _) (by simp [maxLen])
      exact .inr ⟨b1, 0, 2, rfl, by simpa [kcells] using this⟩
    · obtain ⟨tt, hb⟩ := e2
      have := vecAt_block (size := 1) (n := 2) (cap := 2) hb (by simp) (Nat.le_refl _) (by simp [maxLen])
      exact .inr ⟨b2, 0, 2, rfl, by simpa [pcells] using this⟩
    · intro b hb
      simp only [List.mem_cons, List.not_mem_nil, or_false] at hb
      rcases hb with rfl | rfl | rfl
      · exact e3.lt
      · exact e1.lt
      · exact e2.lt
  have k1' : At d W r c1 F1 := h1.only ho fun b hb => hnot b (List.mem_append_left _ hb)
  have k2' : At d W y c2 F2 := h2.only ho fun b hb => hnot b (List.mem_append_right _ hb)
  refine ⟨[r, y], [rr, b1, b2], [F1, F2], hr, Sons.cons k1' (Sons.one k2'), by simp, ?_⟩
  refine List.nodup_append.2 ⟨hr.nodup, hn, fun a ha b hb e => ?_⟩
  subst e
  have hlt : a < w.heap.size := by
    rcases List.mem_append.1 hb with hb | hb
    · exact h1.lt a hb
    · exact h2.lt a hb
  simp only [List.mem_cons, List.not_mem_nil, or_false] at ha
  omega

theorem parted_great {d : Nat} {c : Nd d} (h : ¬ c.length ≤ 4) : parted c = [kn (fk (c.take (c.length / 2))) (c.take (c.length / 2)), kn (fk (c.drop (c.length / 2))) (c.drop (c.length / 2))] := by
  unfold parted
  rw [if_neg h]

def RootTwo (d : Nat) (w2 : World) (t n : Nat) (k1 k2 : Key) (c1 c2 : Nd d) (F : List Nat) (wc : World) : Prop :=
  ∃ G2, At (d + 1) wc (w2.heap.size + 1 + 1) [kn k1 c1, kn k2 c2] G2 ∧ cellsAt wc t [ptr (w2.heap.size + 1 + 1), .int .i64 n] ∧ Only (fun b => b = t) w2 wc ∧ ∀ b ∈ G2, b ∈ F ∨ w2.heap.size ≤ b

theorem two_one {d : Nat} {w : World} {r y t n : Nat} {c1 c2 : Nd d} {F1 F2 : List Nat} {k1 k2 : Key} (h1 : At d w r c1 F1) (h2 : At d w y c2 F2) (hn : (F1 ++ F2).Nodup) (ht : t ∉ F1 ++ F2) (hc : cellsAt w t [ptr r, .int .i64 n]) (t1 t2 t3 : TypeId) :
    RootTwo d w t n k1 k2 c1 c2 (F1 ++ F2) ((((w.alloc (.cells #[.string k1, .string k2] t1)).alloc (.cells #[ptr r, ptr y] t2)).alloc (.cells #[.slice (some ⟨w.heap.size, 0, none⟩) 2 2, .slice none 0 0, .slice (some ⟨w.heap.size + 1, 0, none⟩) 2 2] t3)).drew.setCell ⟨t, 0, none⟩ (ptr (w.heap.size + 1 + 1))) := by
  have hlt := hc.lt
  have a1 := cellsAt_new w [.string k1, .string k2] t1
  have a2 := cellsAt_new (w.alloc (.cells #[.string k1, .string k2] t1)) [ptr r, ptr y] t2
  have a3 := cellsAt_new ((w.alloc (.cells #[.string k1, .string k2] t1)).alloc (.cells #[ptr r, ptr y] t2)) [.slice (some ⟨w.heap.size, 0, none⟩) 2 2, .slice none 0 0, .slice (some ⟨w.heap.size + 1, 0, none⟩) 2 2] t3
  have z1 : (w.alloc (.cells #[.string k1, .string k2] t1)).heap.size = w.heap.size + 1 := by simp
  have z2 : ((w.alloc (.cells #[.string k1, .string k2] t1)).alloc (.cells #[ptr r, ptr y] t2)).heap.size = w.heap.size + 1 + 1 := by simp
  rw [z1] at a2
  rw [z2] at a3
  have s0 : Still w (((w.alloc (.cells #[.string k1, .string k2] t1)).alloc (.cells #[ptr r, ptr y] t2)).alloc (.cells #[.slice (some ⟨w.heap.size, 0, none⟩) 2 2, .slice none 0 0, .slice (some ⟨w.heap.size + 1, 0, none⟩) 2 2] t3)).drew := ((((Still.refl w).alloc _).alloc _).alloc _).drew
  have ho := (s0.only (S := fun b => b = t)).setCell (p := ⟨t, 0, none⟩) (.inl rfl) (ptr (w.heap.size + 1 + 1))
  have e1 := ((a1.alloc (.cells #[ptr r, ptr y] t2)).alloc (.cells #[.slice (some ⟨w.heap.size, 0, none⟩) 2 2, .slice none 0 0, .slice (some ⟨w.heap.size + 1, 0, none⟩) 2 2] t3)).drew.setOther (p := ⟨t, 0, none⟩) (by simp; omega) (ptr (w.heap.size + 1 + 1))
  have e2 := (a2.alloc (.cells #[.slice (some ⟨w.heap.size, 0, none⟩) 2 2, .slice none 0 0, .slice (some ⟨w.heap.size + 1, 0, none⟩) 2 2] t3)).drew.setOther (p := ⟨t, 0, none⟩) (by simp; omega) (ptr (w.heap.size + 1 + 1))
  have e3 := a3.drew.setOther (p := ⟨t, 0, none⟩) (by simp; omega) (ptr (w.heap.size + 1 + 1))
  refine ⟨_, root_two h1 h2 hn ho ht e1 e2 e3 (Nat.le_refl _) (by omega) (by omega) (by omega) (by omega) (by omega), (cellsAt.still s0 hc).setCell 0 _, ho, fun b hb => ?_⟩
  rcases List.mem_append.1 hb with hb | hb
  · simp only [List.mem_cons, List.not_mem_nil, or_false] at hb
    exact .inr (by omega)
  · exact .inl hb
theorem two_two {d : Nat} {w : World} {r y t n : Nat} {c1 c2 : Nd d} {F1 F2 : List Nat} {k1 k2 : Key} (h1 : At d w r c1 F1) (h2 : At d w y c2 F2) (hn : (F1 ++ F2).Nodup) (ht : t ∉ F1 ++ F2) (hc : cellsAt w t [ptr r, .int .i64 n]) (t1 t2 t3 : TypeId) :
    RootTwo d w t n k1 k2 c1 c2 (F1 ++ F2) ((((w.alloc (.cells #[ptr r, ptr y] t2)).alloc (.cells #[.string k1, .string k2] t1)).alloc (.cells #[.slice (some ⟨w.heap.size + 1, 0, none⟩) 2 2, .slice none 0 0, .slice (some ⟨w.heap.size, 0, none⟩) 2 2] t3)).drew.setCell ⟨t, 0, none⟩ (ptr (w.heap.size + 1 + 1))) := by
  have hlt := hc.lt
  have a2 := cellsAt_new w [ptr r, ptr y] t2
  have a1 := cellsAt_new (w.alloc (.cells #[ptr r, ptr y] t2)) [.string k1, .string k2] t1
  have a3 := cellsAt_new ((w.alloc (.cells #[ptr r, ptr y] t2)).alloc (.cells #[.string k1, .string k2] t1)) [.slice (some ⟨w.heap.size + 1, 0, none⟩) 2 2, .slice none 0 0, .slice (some ⟨w.heap.size, 0, none⟩) 2 2] t3
  have z1 : (w.alloc (.cells #[ptr r, ptr y] t2)).heap.size = w.heap.size + 1 := by simp
  have z2 : ((w.alloc (.cells #[ptr r, ptr y] t2)).alloc (.cells #[.string k1, .string k2] t1)).heap.size = w.heap.size + 1 + 1 := by simp
  rw [z1] at a1
  rw [z2] at a3
  have s0 : Still w (((w.alloc (.cells #[ptr r, ptr y] t2)).alloc (.cells #[.string k1, .string k2] t1)).alloc (.cells #[.slice (some ⟨w.heap.size + 1, 0, none⟩) 2 2, .slice none 0 0, .slice (some ⟨w.heap.size, 0, none⟩) 2 2] t3)).drew := ((((Still.refl w).alloc _).alloc _).alloc _).drew
  have ho := (s0.only (S := fun b => b = t)).setCell (p := ⟨t, 0, none⟩) (.inl rfl) (ptr (w.heap.size + 1 + 1))
  have e2 := ((a2.alloc (.cells #[.string k1, .string k2] t1)).alloc (.cells #[.slice (some ⟨w.heap.size + 1, 0, none⟩) 2 2, .slice none 0 0, .slice (some ⟨w.heap.size, 0, none⟩) 2 2] t3)).drew.setOther (p := ⟨t, 0, none⟩) (by simp; omega) (ptr (w.heap.size + 1 + 1))
  have e1 := (a1.alloc (.cells #[.slice (some ⟨w.heap.size + 1, 0, none⟩) 2 2, .slice none 0 0, .slice (some ⟨w.heap.size, 0, none⟩) 2 2] t3)).drew.setOther (p := ⟨t, 0, none⟩) (by simp; omega) (ptr (w.heap.size + 1 + 1))
  have e3 := a3.drew.setOther (p := ⟨t, 0, none⟩) (by simp; omega) (ptr (w.heap.size + 1 + 1))
  refine ⟨_, root_two h1 h2 hn ho ht e1 e2 e3 (by omega) (Nat.le_refl _) (by omega) (by omega) (by omega) (by omega), (cellsAt.still s0 hc).setCell 0 _, ho, fun b hb => ?_⟩
  rcases List.mem_append.1 hb with hb | hb
  · simp only [List.mem_cons, List.not_mem_nil, or_false] at hb
    exact .inr (by omega)
  · exact .inl hb

set_option maxHeartbeats 1000000 in
set_option maxRecDepth 100000 in
theorem tput (w : World) (t : Nat) (l : Nd 0) (F : List Nat) (k : Key) (v : Rid) (h : TreeAt w t l F) (hl : l.length ≤ 100000) :
    Calls Tryz.prog 31 #[ptr t, .string k, ridV v] w (TPut w t l F k v) := by
  obtain ⟨d, r, x, G, hc, hat, hF, htG, hg, hfl⟩ := h
  obtain ⟨vp, vq, vz⟩ := v
  obtain ⟨n, hn⟩ : ∃ n, l.length = n := ⟨_, rfl⟩
  rw [hn] at hc hl
  have hc1 : ∀ ob, cellsAt (w.alloc ob) t [ptr r, .int .i64 n] := fun ob => hc.alloc ob
  have c0 : ∀ ob, (w.alloc ob).cell? ⟨t, 0, none⟩ = some (ptr r) := fun ob => (hc1 ob).cell 0
  have d0 : ∀ tt, (w.alloc (.cells #[.int .i64 vp, .int .i64 vq, .string vz] tt)).cell? ⟨w.heap.size, 0, none⟩ = some (.int .i64 vp) := fun tt => (cellsAt_new w [.int .i64 vp, .int .i64 vq, .string vz] tt).cell 0
  have d1 : ∀ tt, (w.alloc (.cells #[.int .i64 vp, .int .i64 vq, .string vz] tt)).cell? ⟨w.heap.size, 1, none⟩ = some (.int .i64 vq) := fun tt => (cellsAt_new w [.int .i64 vp, .int .i64 vq, .string vz] tt).cell 1
  have d2 : ∀ tt, (w.alloc (.cells #[.int .i64 vp, .int .i64 vq, .string vz] tt)).cell? ⟨w.heap.size, 2, none⟩ = some (.string vz) := fun tt => (cellsAt_new w [.int .i64 vp, .int .i64 vq, .string vz] tt).cell 2
  have hfp := flat_put d x k (vp, vq, vz) hg.fit hg.nonempty hg.ks
  rw [hfl] at hfp
  have HP := Lib.hid (fun w' (hs : Still w w') => put_any d w' r x G k (vp, vq, vz) (hat.only hs fun _ _ e => e) (able_of_fit d x hg.fit hg.nonempty (by have := hg.four; omega) hg.ks))
  have HT := Lib.hid (And.intro hc (And.intro hF (And.intro htG (And.intro hg (And.intro hfl (And.intro hfp (And.intro hn hl)))))))
  have u1 : IntKind.i64.wrap ((n : Int) + 1) = (n : Int) + 1 := IntWalk.i64_in _ (by omega)
  clear hc hc1 hat hF htG hg hfl hfp hn hl
  unfold ptr ridV at HP ⊢
  unfold ptr at c0
  go_enter Tryz.func31, Tryz.ntmps31
  go_wp2_with fail
  have s2 := c0 (.cells #[.int .i64 vp, .int .i64 vq, .string vz] 58)
  have s4 := d0 58
  have s5 := d1 58
  have s5z := d2 58
  have SW := Lib.hid (show Still w (w.alloc (.cells #[.int .i64 vp, .int .i64 vq, .string vz] 58)) from (Only.refl _ w).alloc _)
  clear c0 d0 d1 d2
  generalize w.alloc _ = W at *
  generalize w.heap.size = bx at *
  go_still_tail 6, (by kernel_rfl)
  go_wp2_with fail
  (with_reducible refine (HP.out _ ?_).mono ?_)
  · exact (SW.out.trans (Only.drew (Only.refl _ _)))
  rintro e w1 ⟨G', rfl, hat1, ho1, hf1⟩
  have hoW : Only (fun b => b ∈ G) w w1 := (SW.out.only.trans (Only.drew (Only.refl _ _))).trans ho1
  have hlW : w.heap.size ≤ W.drew.heap.size := SW.out.size
  have hct1 : cellsAt w1 t [ptr r, .int .i64 n] := HT.out.1.only hoW HT.out.2.2.1
  have htG' : t ∉ G' := fun hb => by
    rcases hf1 t hb with h | h
    · exact HT.out.2.2.1 h
    · have := HT.out.1.lt; omega
  have c0 : w1.cell? ⟨t, 0, none⟩ = some (.pointer (some ⟨r, 0, none⟩)) := hct1.cell 0
  obtain ⟨x', hx'⟩ : ∃ x', putM d x k (vp, vq, vz) = x' := ⟨_, rfl⟩
  have hpl := putM_length d x k (vp, vq, vz) HT.out.2.2.2.1.nonempty
  have hx5 : x'.length ≤ 5 := by rw [← hx']; have := HT.out.2.2.2.1.four; omega
  rw [hx'] at hat1
  have SP1 := Lib.hid (fun (h4 : x'.length ≤ 4) => split_at_small d w1 r x' G' hat1 h4)
  have SP2 := Lib.hid (fun (h4 : ¬ x'.length ≤ 4) => split_at d w1 r x' G' hat1 (by omega) (by omega))
  have HS1 := Lib.hid (And.intro hat1 (And.intro hoW (And.intro (And.intro hct1 htG') (And.intro hx' (And.intro hx5 (fun b hb => (hf1 b hb).imp id (Nat.le_trans hlW)))))))
  unfold ptr at SP1 SP2
  rw [HT.out.2.2.2.2.2.1.2]
  clear hat1 ho1 hf1 hoW hlW hct1 htG' hx' hpl hx5 s2 s4 s5 HP
  by_cases h4 : x'.length ≤ 4
  · have hgood := good_put_small HT.out.2.2.2.1 k (vp, vq, vz) (by rw [HS1.out.2.2.2.1]; exact h4)
    rw [HS1.out.2.2.2.1] at hgood
    have hfx : flat d x' = insL l k (vp, vq, vz) := by rw [← HS1.out.2.2.2.1]; exact HT.out.2.2.2.2.2.1.1
    go_wp2_with fail
    refine (SP1.out h4).mono ?_
    rintro e w2 ⟨rfl, hs2⟩
    have hct2 := HS1.out.2.2.1.1.only hs2 fun e => e
    have hat2 := HS1.out.1.only hs2 fun _ _ e => e
    have hcnt := tree_count (m := (insL l k (vp, vq, vz)).length) hct2 hat2 HS1.out.2.2.1.2 hgood hfx rfl
    have hO : Only (fun b => b ∈ F) w w2 := ((HS1.out.2.1.mono fun b hb => by rw [HT.out.2.1]; simp [hb])).trans (hs2.mono fun _ e => e.elim)
    have hS : ∀ b ∈ t :: G', b ∈ F ∨ w.heap.size ≤ b := fun b hb => by
      rw [HT.out.2.1]
      rcases List.mem_cons.1 hb with rfl | hb
      · exact .inl (by simp)
      · exact (HS1.out.2.2.2.2.2 b hb).imp (fun h => by simp [h]) id
    have hil := insL_length' (l := l) k (vp, vq, vz)
    rw [HT.out.2.2.2.2.2.2.1] at hil
    have c1 : w2.cell? ⟨t, 1, none⟩ = some (.int .i64 n) := hct2.cell 1
    have c2 : w2.frozen? ⟨t, 1, none⟩ = false := hct2.free 1
    cases hk : hasK (keys l) k with
    | true =>
      rw [hk] at hil
      have FIN := Lib.hid (show TPut w t l F k (vp, vq, vz) (.returned (.bool false)) w2 from ⟨_, by rw [hk]; rfl, hcnt.2 (by simp at hil; omega), hO, hS⟩)
      clear hct2 hat2 hcnt hO hS hil hgood hfx h4 hs2 hk
      go_wp2_with fail
      go_ret
      exact FIN.out
    | false =>
      rw [hk] at hil
      have hil' : ((insL l k (vp, vq, vz)).length : Int) = (n : Int) + 1 := by simp at hil; omega
      have FIN := Lib.hid (show TPut w t l F k (vp, vq, vz) (.returned (.bool true)) (w2.setCell ⟨t, 1, none⟩ (.int .i64 ((n : Int) + 1))) from
        ⟨_, by rw [hk]; rfl, by have := hcnt.1; rw [hil'] at this; exact this, hO.setCell (p := ⟨t, 1, none⟩) (.inl (by rw [HT.out.2.1]; simp)) _, hS⟩)
      clear hct2 hat2 hcnt hO hS hil hgood hfx h4 hs2 hk hil'
      go_wp2_with fail
      go_ret
      exact FIN.out
  · have hgood := good_put_great HT.out.2.2.2.1 k (vp, vq, vz) (by rw [HS1.out.2.2.2.1]; exact h4)
    rw [HS1.out.2.2.2.1, HT.out.2.2.2.2.1, parted_great h4] at hgood
    go_wp2_with fail
    refine (SP2.out h4).mono ?_
    rintro e w2 ⟨y, F1, F2, rfl, hy1, hy2, ho2, hn2, hf2⟩
    have hct2 := HS1.out.2.2.1.1.only ho2 HS1.out.2.2.1.2
    have htF : t ∉ F1 ++ F2 := fun hb => by
      rcases hf2 t hb with h | h
      · exact HS1.out.2.2.1.2 h
      · have := HS1.out.2.2.1.1.lt; omega
    obtain ⟨g1, o1, m1, p1, l1, l2, l3, _, _⟩ := hy1.least (by rw [List.length_take]; omega)
    obtain ⟨g2, o2, m2, p2, l4, l5, l6, _, _⟩ := hy2.least (by rw [List.length_drop]; omega)
    generalize hk1 : fk (x'.take (x'.length / 2)) = k1 at *
    generalize hk2 : fk (x'.drop (x'.length / 2)) = k2 at *
    have c1 : w2.cell? ⟨t, 0, none⟩ = some (.pointer (some ⟨r, 0, none⟩)) := hct2.cell 0
    have HH := Lib.hid (And.intro hgood (And.intro hy1 (And.intro hy2 (And.intro ho2 (And.intro hn2 (And.intro hf2 (And.intro hct2 htF)))))))
    have CF := Lib.hid (fun w' (hs : Still w2 w') => And.intro hs (And.intro (Still.cell hs l1) (And.intro (Still.cell hs l3) (And.intro (Still.cell hs l4) (Still.cell hs l6)))))
    have z0 : ∀ A B C, (((w2.alloc A).alloc B).alloc C).drew.cell? ⟨t, 0, none⟩ = some (.pointer (some ⟨r, 0, none⟩)) := fun A B C => (((hct2.alloc A).alloc B).alloc C).drew.cell 0
    have z1 : ∀ A B C, (((w2.alloc A).alloc B).alloc C).drew.frozen? ⟨t, 0, none⟩ = false := fun A B C => (((hct2.alloc A).alloc B).alloc C).drew.free 0
    have R1 := Lib.hid (fun t1 t2 t3 => two_one (k1 := k1) (k2 := k2) hy1 hy2 hn2 htF hct2 t1 t2 t3)
    have R2 := Lib.hid (fun t1 t2 t3 => two_two (k1 := k1) (k2 := k2) hy1 hy2 hn2 htF hct2 t1 t2 t3)
    clear hgood hy1 hy2 ho2 hn2 hf2 hct2 htF hk1 hk2
    unfold ptr
    go_wp2_with fail
    go_cut [] (fun wc => RootTwo d w2 t n k1 k2 (x'.take (x'.length / 2)) (x'.drop (x'.length / 2)) (F1 ++ F2) wc)
    case first =>
      refine wp_region_D_drew (D := (fun i => [0, 1, 2, 3, 7, 8, 9, 14, 15, 17, 19, 20, 21].contains i)) (S := (fun w' => Still w2 w' ∧ w'.cell? ⟨r, 0, none⟩ = some (.slice (some ⟨g1, o1, none⟩) m1 p1) ∧ w'.cell? ⟨g1, o1, none⟩ = some (.string k1) ∧ w'.cell? ⟨y, 0, none⟩ = some (.slice (some ⟨g2, o2, none⟩) m2 p2) ∧ w'.cell? ⟨g2, o2, none⟩ = some (.string k2))) (by kernel_rfl) ?_ (fun hHeld => ?_)
      · ((try dsimp only) <;> ((with_reducible refine CF.out _ ?_); (repeat (first | (with_reducible exact Still.refl _) | (with_reducible refine Still.drew ?_) | (with_reducible refine Still.alloc ?_ _)))))
      (refine takeD (i := 0) (some 28) (v := ?_) rfl (by rfl) (by rfl) (by kernel_rfl) (by rfl) (fun _ _ _ h => h) ?_ ?_; rotate_left; (intro w; go_simp; try with_reducible rfl); try go_frame)
      (refine takeD (i := 1) (some 29) (v := ?_) rfl (by rfl) (by rfl) (by kernel_rfl) (by rfl) (fun _ _ _ h => h) ?_ ?_; rotate_left; (intro w; go_simp; try with_reducible rfl); try go_frame)
      (refine takeD (i := 2) (some 30) (v := ?_) rfl (by rfl) (by rfl) (by kernel_rfl) (by rfl) (fun _ _ _ h => h) ?_ ?_; rotate_left; (intro w; go_simp; try with_reducible rfl); try go_frame)
      (refine takeD (i := 3) (some 31) (v := ?_) rfl (by rfl) (by rfl) (by kernel_rfl) (by rfl) (fun _ _ _ h => h) ?_ ?_; rotate_left; (intro w; go_simp; try with_reducible rfl); try go_frame)
      (refine takeD (i := 7) (some 35) (v := ?_) rfl (by rfl) (by rfl) (by kernel_rfl) (by rfl) (fun _ _ _ h => h) ?_ ?_; rotate_left; (intro w; go_simp; try with_reducible rfl); try go_frame)
      (refine takeD (i := 8) (some 36) (v := ?_) rfl (by rfl) (by rfl) (by kernel_rfl) (by rfl) (fun _ _ _ h => h) ?_ ?_; rotate_left; (intro w; go_simp; try with_reducible rfl); try go_frame)
      (refine takeD (i := 9) (some 37) (v := ?_) rfl (by rfl) (by rfl) (by kernel_rfl) (by rfl) (fun _ _ _ h => h) ?_ ?_; rotate_left; (intro w; go_simp; try with_reducible rfl); try go_frame)
      (refine takeD (i := 14) (some 42) (v := ?_) rfl (by rfl) (by rfl) (by kernel_rfl) (by rfl) (fun _ _ _ h => h) ?_ ?_; rotate_left; (intro w; go_simp; try with_reducible rfl); try go_frame)
      (refine takeD (i := 15) (some 43) (v := ?_) rfl (by rfl) (by rfl) (by kernel_rfl) (by rfl) (fun _ _ _ h => h) ?_ ?_; rotate_left; (intro w; go_simp; try with_reducible rfl); try go_frame)
      (refine takeS (i := 4) (some 32) (v := ?_) rfl (by rfl) (by rfl) (by kernel_rfl) (by rfl) (fun _ _ _ h => h) (by assumption) ?_ ?_; rotate_left; (intro w hSw; (try dsimp only at hSw); go_simp; try with_reducible rfl); try go_frame)
      (refine takeS (i := 5) (some 33) (v := ?_) rfl (by rfl) (by rfl) (by kernel_rfl) (by rfl) (fun _ _ _ h => h) (by assumption) ?_ ?_; rotate_left; (intro w hSw; (try dsimp only at hSw); go_simp; try with_reducible rfl); try go_frame)
      (refine takeS (i := 6) (some 34) (v := ?_) rfl (by rfl) (by rfl) (by kernel_rfl) (by rfl) (fun _ _ _ h => h) (by assumption) ?_ ?_; rotate_left; (intro w hSw; (try dsimp only at hSw); go_simp; try with_reducible rfl); try go_frame)
      (refine takeS (i := 10) (some 38) (v := ?_) rfl (by rfl) (by rfl) (by kernel_rfl) (by rfl) (fun _ _ _ h => h) (by assumption) ?_ ?_; rotate_left; (intro w hSw; (try dsimp only at hSw); go_simp; try with_reducible rfl); try go_frame)
      (refine takeS (i := 11) (some 39) (v := ?_) rfl (by rfl) (by rfl) (by kernel_rfl) (by rfl) (fun _ _ _ h => h) (by assumption) ?_ ?_; rotate_left; (intro w hSw; (try dsimp only at hSw); go_simp; try with_reducible rfl); try go_frame)
      (refine takeS (i := 12) (some 40) (v := ?_) rfl (by rfl) (by rfl) (by kernel_rfl) (by rfl) (fun _ _ _ h => h) (by assumption) ?_ ?_; rotate_left; (intro w hSw; (try dsimp only at hSw); go_simp; try with_reducible rfl); try go_frame)
      refine wpAnyD_ready (rs := [13, 16]) (by kernel_rfl) (by simp) ?_
      refine ReadyD.cons rfl (fun K hK => ?_) ?_
      go_simp
      (refine hK.out _ _ ?_ (fun hNew => ?_); (focus ((try dsimp only) <;> ((with_reducible refine CF.out _ ?_); (repeat (first | (with_reducible exact Still.refl _) | (with_reducible refine Still.drew ?_) | (with_reducible refine Still.alloc ?_ _)))))); clear hHeld; have hHeld := hNew; clear hNew)
      (clear hK K; try go_frame)
      refine wpAnyD_ready (rs := [16]) (by kernel_rfl) (by simp) ?_
      refine ReadyD.cons rfl (fun K hK => ?_) ?_
      go_simp
      (refine hK.out _ _ ?_ (fun hNew => ?_); (focus ((try dsimp only) <;> ((with_reducible refine CF.out _ ?_); (repeat (first | (with_reducible exact Still.refl _) | (with_reducible refine Still.drew ?_) | (with_reducible refine Still.alloc ?_ _)))))); clear hHeld; have hHeld := hNew; clear hNew)
      (clear hK K; try go_frame)
      (refine takeD (i := 17) (some 45) (v := ?_) rfl (by rfl) (by rfl) (by kernel_rfl) (by rfl) (fun _ _ _ h => h) ?_ ?_; rotate_left; (intro w; go_simp; try with_reducible rfl); try go_frame)
      refine wpAnyD_ready (rs := [18]) (by kernel_rfl) (by simp) ?_
      refine ReadyD.cons rfl (fun K hK => ?_) ?_
      go_simp
      (refine hK.out _ _ ?_ (fun hNew => ?_); (focus ((try dsimp only) <;> ((with_reducible refine CF.out _ ?_); (repeat (first | (with_reducible exact Still.refl _) | (with_reducible refine Still.drew ?_) | (with_reducible refine Still.alloc ?_ _)))))); clear hHeld; have hHeld := hNew; clear hNew)
      (clear hK K; try go_frame)
      (refine takeD (i := 19) (some 47) (v := ?_) rfl (by rfl) (by rfl) (by kernel_rfl) (by rfl) (fun _ _ _ h => h) ?_ ?_; rotate_left; (intro w; go_simp; try with_reducible rfl); try go_frame)
      (refine takeD (i := 20) (some 48) (v := ?_) rfl (by rfl) (by rfl) (by kernel_rfl) (by rfl) (fun _ _ _ h => h) ?_ ?_; rotate_left; (intro w; go_simp; try with_reducible rfl); try go_frame)
      refine wpAnyD_ready (rs := [21]) (by kernel_rfl) (by simp) ?_
      refine ReadyD.last rfl (by rfl) (fun K hK => ?_) ?_
      go_simp
      refine hK.out _ _ ?_
      (clear hK K; try go_frame)
      refine wpAnyD_done (by kernel_rfl) ?_ _
      rotate_left
      exact ReadyD.nil
      exact ReadyD.nil
      exact ReadyD.nil
      refine ReadyD.cons rfl (fun K hK => ?_) ?_
      go_simp
      (refine hK.out _ _ ?_ (fun hNew => ?_); (focus ((try dsimp only) <;> ((with_reducible refine CF.out _ ?_); (repeat (first | (with_reducible exact Still.refl _) | (with_reducible refine Still.drew ?_) | (with_reducible refine Still.alloc ?_ _)))))); clear hHeld; have hHeld := hNew; clear hNew)
      (clear hK K; try go_frame)
      refine wpAnyD_ready (rs := [13]) (by kernel_rfl) (by simp) ?_
      refine ReadyD.cons rfl (fun K hK => ?_) ?_
      go_simp
      (refine hK.out _ _ ?_ (fun hNew => ?_); (focus ((try dsimp only) <;> ((with_reducible refine CF.out _ ?_); (repeat (first | (with_reducible exact Still.refl _) | (with_reducible refine Still.drew ?_) | (with_reducible refine Still.alloc ?_ _)))))); clear hHeld; have hHeld := hNew; clear hNew)
      (clear hK K; try go_frame)
      (refine takeD (i := 17) (some 45) (v := ?_) rfl (by rfl) (by rfl) (by kernel_rfl) (by rfl) (fun _ _ _ h => h) ?_ ?_; rotate_left; (intro w; go_simp; try with_reducible rfl); try go_frame)
      refine wpAnyD_ready (rs := [18]) (by kernel_rfl) (by simp) ?_
      refine ReadyD.cons rfl (fun K hK => ?_) ?_
      go_simp
      (refine hK.out _ _ ?_ (fun hNew => ?_); (focus ((try dsimp only) <;> ((with_reducible refine CF.out _ ?_); (repeat (first | (with_reducible exact Still.refl _) | (with_reducible refine Still.drew ?_) | (with_reducible refine Still.alloc ?_ _)))))); clear hHeld; have hHeld := hNew; clear hNew)
      (clear hK K; try go_frame)
      (refine takeD (i := 19) (some 47) (v := ?_) rfl (by rfl) (by rfl) (by kernel_rfl) (by rfl) (fun _ _ _ h => h) ?_ ?_; rotate_left; (intro w; go_simp; try with_reducible rfl); try go_frame)
      (refine takeD (i := 20) (some 48) (v := ?_) rfl (by rfl) (by rfl) (by kernel_rfl) (by rfl) (fun _ _ _ h => h) ?_ ?_; rotate_left; (intro w; go_simp; try with_reducible rfl); try go_frame)
      refine wpAnyD_ready (rs := [21]) (by kernel_rfl) (by simp) ?_
      refine ReadyD.last rfl (by rfl) (fun K hK => ?_) ?_
      go_simp
      refine hK.out _ _ ?_
      (clear hK K; try go_frame)
      refine wpAnyD_done (by kernel_rfl) ?_ _
      rotate_left
      exact ReadyD.nil
      exact ReadyD.nil
      exact ReadyD.nil
      exact ReadyD.nil
      all_goals
        go_wp2_with fail
        go_meet
        case rel =>
          first
            | exact R1.out _ _ _
            | exact R2.out _ _ _
    case rest =>
      obtain ⟨G2, hr1, hr2, hr3, hr4⟩ := hcut
      have htG2 : t ∉ G2 := fun hb => by
        rcases hr4 t hb with h | h
        · exact HH.out.2.2.2.2.2.2.2 h
        · have := HH.out.2.2.2.2.2.2.1.lt; omega
      have hO : Only (fun b => b ∈ F) w wc := by
        refine (((HS1.out.2.1.mono fun b hb => by rw [HT.out.2.1]; simp [hb]).andThen HH.out.2.2.2.1 fun b hb hb' => ?_)).andThen hr3 fun b hb hb' => by rw [HT.out.2.1]; simp [hb']
        rcases HS1.out.2.2.2.2.2 b hb' with h | h
        · rw [HT.out.2.1]; simp [h]
        · omega
      have hsz : w.heap.size ≤ w2.heap.size := Nat.le_trans HS1.out.2.1.size HH.out.2.2.2.1.size
      have hS : ∀ b ∈ t :: G2, b ∈ F ∨ w.heap.size ≤ b := fun b hb => by
        rw [HT.out.2.1]
        rcases List.mem_cons.1 hb with rfl | hb
        · exact .inl (by simp)
        · rcases hr4 b hb with h | h
          · rcases HH.out.2.2.2.2.2.1 b h with h | h
            · exact (HS1.out.2.2.2.2.2 b h).imp (fun h => by simp [h]) id
            · exact .inr (Nat.le_trans HS1.out.2.1.size h)
          · exact .inr (by omega)
      have hcnt := tree_count (m := (insL l k (vp, vq, vz)).length) hr2 hr1 htG2 HH.out.1.1 HH.out.1.2 rfl
      have hil := insL_length' (l := l) k (vp, vq, vz)
      rw [HT.out.2.2.2.2.2.2.1] at hil
      have c4 : wc.cell? ⟨t, 1, none⟩ = some (.int .i64 n) := hr2.cell 1
      have c5 : wc.frozen? ⟨t, 1, none⟩ = false := hr2.free 1
      clear c1 l1 l3 l4 l6 z0 z1 hr1 hr2 hr3 hr4 htG2 hsz R1 R2
      cases hk : hasK (keys l) k with
      | true =>
        rw [hk] at hil
        have FIN := Lib.hid (show TPut w t l F k (vp, vq, vz) (.returned (.bool false)) wc from ⟨_, by rw [hk]; rfl, hcnt.2 (by simp at hil; omega), hO, hS⟩)
        clear hcnt hO hS hil hk
        go_wp2_with fail
        go_ret
        exact FIN.out
      | false =>
        rw [hk] at hil
        have hil' : ((insL l k (vp, vq, vz)).length : Int) = (n : Int) + 1 := by simp at hil; omega
        have FIN := Lib.hid (show TPut w t l F k (vp, vq, vz) (.returned (.bool true)) (wc.setCell ⟨t, 1, none⟩ (.int .i64 ((n : Int) + 1))) from
          ⟨_, by rw [hk]; rfl, by have := hcnt.1; rw [hil'] at this; exact this, hO.setCell (p := ⟨t, 1, none⟩) (.inl (by rw [HT.out.2.1]; simp)) _, hS⟩)
        clear hcnt hO hS hil hil' hk
        go_wp2_with fail
        go_ret
        exact FIN.out
end Go.Proofs.YtedfijmaeoednaaGreatDoor.Ke

namespace Go.Proofs.YtedfijmaeoednaaGreatDoor.Ke
open Go.RowKit Go.Wh

theorem tcut_fin {w W : World} {t d r n : Nat} {x : Nd d} {G F : List Nat} {l : Nd 0} {k : Key} (hc : cellsAt W t [ptr r, .int .i64 n]) (hat : At d W r x G) (ht : t ∉ G) (hg : Good d x) (hf : flat d x = delL l k) (hn : l.length = n) (hO : Only (fun b => b ∈ F) w W) (hS : ∀ b ∈ t :: G, b ∈ F ∨ w.heap.size ≤ b) (htF : t ∈ F) :
    (hasK (keys l) k = false → TCut w t l F k (.returned (.bool false)) W) ∧ (hasK (keys l) k = true → TCut w t l F k (.returned (.bool true)) (W.setCell ⟨t, 1, none⟩ (.int .i64 ((n : Int) - 1)))) := by
  have hcnt := tree_count (m := (delL l k).length) hc hat ht hg hf rfl
  have hil := delL_length' (l := l) k
  refine ⟨fun hk => ⟨_, by rw [hk], hcnt.2 (by rw [hk] at hil; simp at hil; omega), hO, hS⟩, fun hk => ⟨_, by rw [hk], ?_, hO.setCell (p := ⟨t, 1, none⟩) (.inl htF) _, hS⟩⟩
  have e : ((delL l k).length : Int) = (n : Int) - 1 := by rw [hk] at hil; simp at hil; omega
  have := hcnt.1
  rw [e] at this
  exact this

/-- The root's row of children. -/
theorem At.row : ∀ {d : Nat} {w : World} {r : Nat} {x : Nd d} {G : List Nat}, At d w r x G → ∃ a m c, w.cell? ⟨r, 2, none⟩ = some (.slice a m c) ∧ (d = 0 ∧ m = 0 ∨ 0 < d ∧ m = x.length)
  | 0, _, _, _, _, h => by
    obtain ⟨kv, vv, cv, hn, _, _, _⟩ := (show Raw _ _ _ _ [] _ from h)
    obtain ⟨a, c, rfl⟩ := hn.c.form'
    exact ⟨a, _, c, hn.cells.cell 2, .inl ⟨rfl, rfl⟩⟩
  | d + 1, _, _, _, _, h => by
    obtain ⟨rs, F0, Fs, h1, h2, _, _⟩ := h
    obtain ⟨kv, vv, cv, hn, _, _, _⟩ := h1
    obtain ⟨a, c, rfl⟩ := hn.c.form'
    exact ⟨a, _, c, hn.cells.cell 2, .inr ⟨by omega, h2.lenR.trans (subs_length _)⟩⟩

set_option maxHeartbeats 1000000 in
set_option maxRecDepth 100000 in
theorem tcut (w : World) (t : Nat) (l : Nd 0) (F : List Nat) (k : Key) (h : TreeAt w t l F) (hl : l.length ≤ 100000) :
    Calls Tryz.prog 27 #[ptr t, .string k] w (TCut w t l F k) := by
  obtain ⟨d, r, x, G, hc, hat, hF, htG, hg, hfl⟩ := h
  obtain ⟨n, hn⟩ : ∃ n, l.length = n := ⟨_, rfl⟩
  rw [hn] at hc hl
  have c0 : w.cell? ⟨t, 0, none⟩ = some (.pointer (some ⟨r, 0, none⟩)) := hc.cell 0
  have hfp := flat_cut d x k hg.fit hg.nonempty hg.ks
  rw [hfl] at hfp
  have HP := Lib.hid (cut_any d w r x G k hat (cutAble_of_fit d x hg.fit hg.nonempty (by have := hg.four; omega) hg.ks))
  have HT := Lib.hid (And.intro hc (And.intro hF (And.intro htG (And.intro hg (And.intro hfl (And.intro hfp (And.intro hn hl)))))))
  have u1 : IntKind.i64.wrap ((n : Int) - 1) = (n : Int) - 1 := IntWalk.i64_in _ (by omega)
  clear hc hat hF htG hg hfl hfp hn hl
  unfold ptr at HP ⊢
  go_enter Tryz.func27, Tryz.ntmps27
  go_wp2_with fail
  refine HP.out.mono ?_
  rintro e w1 ⟨G', rfl, hat1, ho1, hf1⟩
  have hct1 : cellsAt w1 t [ptr r, .int .i64 n] := HT.out.1.only ho1 HT.out.2.2.1
  have htG' : t ∉ G' := fun hb => by
    rcases hf1 t hb with h | h
    · exact HT.out.2.2.1 h
    · have := HT.out.1.lt; omega
  have c1 : w1.cell? ⟨t, 0, none⟩ = some (.pointer (some ⟨r, 0, none⟩)) := hct1.cell 0
  have c2 : w1.cell? ⟨t, 1, none⟩ = some (.int .i64 n) := hct1.cell 1
  have c3 : w1.frozen? ⟨t, 0, none⟩ = false := hct1.free 0
  have c4 : w1.frozen? ⟨t, 1, none⟩ = false := hct1.free 1
  obtain ⟨ca, m, cc, r0, hm⟩ := hat1.row
  have hO : Only (fun b => b ∈ F) w w1 := ho1.mono fun b hb => by rw [HT.out.2.1]; simp [hb]
  have htF : t ∈ F := by rw [HT.out.2.1]; simp
  have hS : ∀ b ∈ t :: G', b ∈ F ∨ w.heap.size ≤ b := fun b hb => by
    rw [HT.out.2.1]
    rcases List.mem_cons.1 hb with rfl | hb
    · exact .inl (by simp)
    · exact (hf1 b hb).imp (fun h => by simp [h]) id
  have hcl := cutM_length d x k HT.out.2.2.2.1.nonempty
  rw [HT.out.2.2.2.2.2.1.2]
  by_cases hm1 : m = 1
  · obtain ⟨d, rfl⟩ : ∃ d', d = d' + 1 := ⟨d - 1, by omega⟩
    have hx1 : (cutM (d + 1) x k).length = 1 := by omega
    have hfit := fit_cut (d + 1) x k HT.out.2.2.2.1.fit HT.out.2.2.2.1.two
    have hdown := good_down hfit hx1 (by rw [HT.out.2.2.2.2.2.1.1]; exact KS_del (HT.out.2.2.2.2.1 ▸ HT.out.2.2.2.1.ks) k)
    rw [HT.out.2.2.2.2.2.1.1] at hdown
    obtain ⟨rs, F0, Fs, hin, hG'⟩ := hat1.inr
    have hsp := subs_split (cutM (d + 1) x k) 0 (by omega)
    obtain ⟨ra, q, rb, Fa, f, Fb, hrs, hFs, hra, _, hq, _, hrq⟩ := hin.focus 0 hsp (subs_length_take _ 0 (by omega))
    obtain ⟨g2, o2, p2, k0, k1⟩ := hin.raw.kids (by rw [hrs]; simp only [List.length_append, List.length_cons]; omega)
    have k2 : w1.cell? ⟨g2, o2, none⟩ = some (.pointer (some ⟨q, 0, none⟩)) := k1 0 q hrq
    rw [k0] at r0
    have hrl : rs.length = 1 := by have := hin.kids.lenR; rw [subs_length] at this; omega
    rw [hrl] at k0
    have hfG : ∀ b ∈ f, b ∈ G' := fun b hb => by
      rw [hG', hFs]
      simp [hb]
    have hct2 := hct1.setCell 0 (ptr q)
    have hat2 : At d (w1.setCell ⟨t, 0, none⟩ (ptr q)) q (sub (cutM (d + 1) x k) 0) f := hq.only (setCell_only w1 ⟨t, 0, none⟩ _) fun b hb e => by
      have e' : b = t := e
      exact htG' (e' ▸ hfG b hb)
    have hfin := tcut_fin hct2 hat2 (fun hb => htG' (hfG t hb)) hdown.1 hdown.2 HT.out.2.2.2.2.2.2.1 (hO.setCell (p := ⟨t, 0, none⟩) (.inl htF) _) (fun b hb => by
      rcases List.mem_cons.1 hb with rfl | hb
      · exact hS _ (by simp)
      · exact hS b (by simp [hfG b hb])) htF
    have HFIN := Lib.hid hfin
    clear hct1 htG' hat1 ho1 hf1 hm hO htF hS hcl hx1 hfit hdown hin hG' hsp hrs hFs hra hq hrq k1 hrl hfG hct2 hat2 hfin r0 c0
    unfold ptr at HFIN
    cases hk : hasK (keys l) k with
    | true =>
      have FF := Lib.hid (HFIN.out.2 hk)
      clear hk
      go_wp2_with fail
      go_ret
      exact FF.out
    | false =>
      have FF := Lib.hid (HFIN.out.1 hk)
      clear hk
      go_wp2_with fail
      go_ret
      exact FF.out
  · have hm1' : ((m : Int) == 1) = false := by rw [beq_eq_false_iff_ne]; omega
    have hm1'' : (m == 1) = false := by rw [beq_eq_false_iff_ne]; omega
    have hgood := good_cut HT.out.2.2.2.1 k (by
      have := HT.out.2.2.2.1.two
      omega)
    have hfin := tcut_fin hct1 hat1 htG' hgood HT.out.2.2.2.2.2.1.1 HT.out.2.2.2.2.2.2.1 hO hS htF
    have HFIN := Lib.hid hfin
    clear hct1 htG' hat1 ho1 hf1 hm hO htF hS hcl hgood hfin c0
    cases hk : hasK (keys l) k with
    | true =>
      have FF := Lib.hid (HFIN.out.2 hk)
      clear hk
      go_wp2_with fail
      go_ret
      exact FF.out
    | false =>
      have FF := Lib.hid (HFIN.out.1 hk)
      clear hk
      go_wp2_with fail
      go_ret
      exact FF.out
end Go.Proofs.YtedfijmaeoednaaGreatDoor.Ke

namespace Go.Proofs.YtedfijmaeoednaaGreatDoor.Ke
open Go.RowKit Go.Wh

def TGet (w : World) (l : Nd 0) (k : Key) (e : Ending) (w' : World) : Prop :=
  e = .returned (.tuple #[ridV ((getL l k).getD (0, 0, ⟨#[]⟩)), .bool (getL l k).isSome]) ∧ Still w w'

/-- On the way down. -/
structure Way (d : Nat) (x : Nd d) (k : Key) (W : World) (e : Nat) (u : Nd e) (r : Nat) (G : List Nat) (wr : World) : Prop where
  at_ : At e wr r u G
  get : getM e u k = getM d x k
  fit : Fit e u
  four : u.length ≤ 4
  ne : e = 0 ∨ 0 < u.length
  ks : KS (keys (flat e u))
  still : Still W wr
  le : e ≤ d
  drawn : wr.drawn = W.drawn + (d - e)

theorem Way.down {d : Nat} {x : Nd d} {k : Key} {W wr : World} {e : Nat} {u : Nd (e + 1)} {r : Nat} {G : List Nat} (h : Way d x k W (e + 1) u r G wr) :
    ∃ q f g2 o2 p2, wr.cell? ⟨r, 2, none⟩ = some (.slice (some ⟨g2, o2, none⟩) u.length p2) ∧ wr.cell? ⟨g2, o2 + childI (keys u) k, none⟩ = some (.pointer (some ⟨q, 0, none⟩)) ∧ childI (keys u) k < u.length ∧
      Way d x k W e (sub u (childI (keys u) k)) q f wr.drew ∧ Calls Tryz.prog 49 #[ptr r, .string k] wr.drew (fun e w' => e = .returned (.int .i64 (childI (keys u) k)) ∧ w' = wr.drew) := by
  have hi := child_lt (show 0 < u.length by have := h.ne; omega) k
  obtain ⟨rs, F0, Fs, hin, hG⟩ := h.at_.inr
  have hlen : rs.length = u.length := by have := hin.kids.lenR; rw [subs_length] at this; exact this
  have hkl := keys_length u
  obtain ⟨ra, q, rb, Fa, f, Fb, _, _, _, _, hq, _, hrq⟩ := hin.focus _ (subs_split u _ hi) (subs_length_take u _ hi)
  obtain ⟨g2, o2, p2, k0, k1⟩ := hin.raw.kids (by omega)
  rw [hlen] at k0
  have hsub := h.fit.sub hi
  have h4 := h.four
  have hle := h.le
  refine ⟨q, f, g2, o2, p2, k0, k1 _ q hrq, hi, ⟨hq.only (Only.drew (Only.refl _ _)) fun _ _ e => e, h.get, hsub.2.2.1, hsub.2.1, .inr (by omega), Ke.KS.sub h.ks hi, h.still.drew, by omega, ?_⟩, child_any wr.drew r (keys u) [] rs F0 k (hin.raw.still (Only.drew (Only.refl _ _))) (by omega) (by omega) (by omega)⟩
  have := h.drawn
  simp only [World.drew] at this ⊢
  omega

set_option maxHeartbeats 1000000 in
set_option maxRecDepth 100000 in
theorem tget (w : World) (t : Nat) (l : Nd 0) (F : List Nat) (k : Key) (h : TreeAt w t l F) :
    Calls Tryz.prog 34 #[ptr t, .string k] w (TGet w l k) := by
  obtain ⟨d, r, x, G, hc, hat, hF, htG, hg, hfl⟩ := h
  have hfg := flat_get d x k hg.fit hg.nonempty hg.ks
  rw [hfl] at hfg
  have c0 : ∀ ob, (w.alloc ob).cell? ⟨t, 0, none⟩ = some (.pointer (some ⟨r, 0, none⟩)) := fun ob => (hc.alloc ob).cell 0
  have W0 : ∀ ob, Way d x k (w.alloc ob) d x r G (w.alloc ob) := fun ob => ⟨hat.only ((Only.refl (fun _ => False) w).alloc ob) fun _ _ e => e, rfl, hg.fit, hg.four, hg.nonempty, hg.ks, Still.refl _, Nat.le_refl _, by omega⟩
  have HW0 := Lib.hid W0
  have HG := Lib.hid hfg
  have B0 := Lib.hid (fun tt => cellsAt_new w [.int .i64 0, .int .i64 0, .string ⟨#[]⟩] tt)
  clear hc hat hF htG hg hfl hfg W0
  unfold ptr
  go_enter Tryz.func34, Tryz.ntmps34
  go_wp2_with fail
  have SW := Lib.hid (show Still w (w.alloc (.cells #[.int .i64 0, .int .i64 0, .string ⟨#[]⟩] 58)) from (Only.refl _ w).alloc _)
  have B1 := Lib.hid (B0.out 58)
  have W1 := Lib.hid (HW0.out (.cells #[.int .i64 0, .int .i64 0, .string ⟨#[]⟩] 58))
  clear B0 HW0 c0
  have hb : w.heap.size ≤ w.heap.size := Nat.le_refl _
  generalize w.alloc _ = W at *
  generalize hbx : w.heap.size = bx at *
  have HB := Lib.hid hbx
  clear hb hbx
  go_loopw [6] (fun s wr => ∃ (e : Nat) (u : Nd e) (r' : Nat) (G' : List Nat), s = .pointer (some ⟨r', 0, none⟩) ∧ Way d x k W e u r' G' wr) (fun _ wr => d - (wr.drawn - W.drawn))
  case atStart => exact ⟨d, x, r, G, rfl, W1.out⟩
  case round =>
    obtain ⟨e, u, r', G', rfl, hw⟩ := hrel
    cases e with
    | succ e =>
      obtain ⟨q, f, g2, o2, p2, k0, k1, k2, k3, k4⟩ := hw.down
      obtain ⟨i, hi⟩ : ∃ i, childI (keys u) k = i := ⟨_, rfl⟩
      obtain ⟨n, hn⟩ : ∃ n, u.length = n := ⟨_, rfl⟩
      rw [hi] at k1 k2 k3 k4
      rw [hn] at k0 k2
      have HC := Lib.hid k4
      have HK := Lib.hid k3
      have HD := Lib.hid (And.intro hw.drawn hw.le)
      have t1 : decide ((n : Int) > 0) = true := by simp; omega
      have t2 : decide (0 < n) = true := by simp; omega
      have b0 : (0 : Int) ≤ (i : Int) := by omega
      have b1 : (i : Int) < (n : Int) := by omega
      clear hw k4 k3 hi hn
      unfold ptr at HC
      go_wp2_with fail
      refine wp_region_D_drew (D := (fun i => [0, 1, 2, 4, 5].contains i)) (S := (fun w' => w'.cell? ⟨r', 2, none⟩ = some (.slice (some ⟨g2, o2, none⟩) n p2) ∧ w'.cell? ⟨g2, o2 + i, none⟩ = some (.pointer (some ⟨q, 0, none⟩)))) (by kernel_rfl) ?_ (fun hHeld => ?_)
      · ((try dsimp only) <;> (exact And.intro k0 k1))
      (refine takeD (i := 0) (some 18) (v := ?_) rfl (by rfl) (by rfl) (by kernel_rfl) (by rfl) (fun _ _ _ h => h) ?_ ?_; rotate_left; (intro w; go_simp; try with_reducible rfl); try go_frame)
      (refine takeD (i := 1) (some 19) (v := ?_) rfl (by rfl) (by rfl) (by kernel_rfl) (by rfl) (fun _ _ _ h => h) ?_ ?_; rotate_left; (intro w; go_simp; try with_reducible rfl); try go_frame)
      (refine takeD (i := 2) (some 20) (v := ?_) rfl (by rfl) (by rfl) (by kernel_rfl) (by rfl) (fun _ _ _ h => h) ?_ ?_; rotate_left; (intro w; go_simp; try with_reducible rfl); try go_frame)
      (refine takeD (i := 4) (some 22) (v := ?_) rfl (by rfl) (by rfl) (by kernel_rfl) (by rfl) (fun _ _ _ h => h) ?_ ?_; rotate_left; (intro w; go_simp; try with_reducible rfl); try go_frame)
      (refine takeD (i := 5) (some 23) (v := ?_) rfl (by rfl) (by rfl) (by kernel_rfl) (by rfl) (fun _ _ _ h => h) ?_ ?_; rotate_left; (intro w; go_simp; try with_reducible rfl); try go_frame)
      (refine takeS (i := 3) (some 21) (v := ?_) rfl (by rfl) (by rfl) (by kernel_rfl) (by rfl) (fun _ _ _ h => h) (by assumption) ?_ ?_; rotate_left; (intro w hSw; (try dsimp only at hSw); go_simp; try with_reducible rfl); try go_frame)
      refine wpAnyD_ready (rs := [6]) (by kernel_rfl) (by simp) ?_
      refine ReadyD.cons rfl (fun K hK => ?_) ?_
      go_simp
      (go_at_call 49; (with_reducible refine HC.out.mono ?_); rintro e w0 ⟨rfl, rfl⟩)
      go_wp2_with fail
      (refine hK.out _ _ ?_ (fun hNew => ?_); (focus ((try dsimp only) <;> (exact And.intro k0 k1))); clear hHeld; have hHeld := hNew; clear hNew)
      (clear hK K; try go_frame)
      (refine takeS (i := 7) (some 25) (v := ?_) rfl (by rfl) (by rfl) (by kernel_rfl) (by rfl) (fun _ _ _ h => h) (by assumption) ?_ ?_; rotate_left; (intro w hSw; (try dsimp only at hSw); go_simp; try with_reducible rfl); try go_frame)
      (refine takeS (i := 8) (some 26) (v := ?_) rfl (by rfl) (by rfl) (by kernel_rfl) (by rfl) (fun _ _ _ h => h) (by assumption) ?_ ?_; rotate_left; (intro w hSw; (try dsimp only at hSw); go_simp; try with_reducible rfl); try go_frame)
      (refine takeS (i := 9) (some 6) (v := ?_) rfl (by rfl) (by rfl) (by kernel_rfl) (by rfl) (fun _ _ _ h => h) (by assumption) ?_ ?_; rotate_left; (intro w hSw; (try dsimp only at hSw); go_simp; try with_reducible rfl); try go_frame)
      refine wpAnyD_done (by kernel_rfl) ?_ _
      rotate_left
      exact ReadyD.nil
      go_wp2_with fail
      go_roundw
      case rel => exact ⟨e, _, q, f, rfl, HK.out⟩
      case measure =>
        have h1 := HD.out
        have h2 := HK.out.drawn
        have h3 := HK.out.le
        simp only [World.drew] at h1 h2 ⊢
        omega
    | zero =>
      obtain ⟨kv, vv, cv, hnd, hF, hd, hlt⟩ := (show Raw wr r' (keys u) (vals u) [] G' from hw.at_)
      obtain ⟨ca, cc, rfl⟩ := hnd.c.form'
      obtain ⟨ka, kc, rfl⟩ := hnd.k.form'
      obtain ⟨va, vc, rfl⟩ := hnd.v.form'
      have r0 : wr.cell? ⟨r', 0, none⟩ = some (.slice ka (keys u).length kc) := hnd.cells.cell 0
      have r1 : wr.cell? ⟨r', 1, none⟩ = some (.slice va (vals u).length vc) := hnd.cells.cell 1
      have r2 : wr.cell? ⟨r', 2, none⟩ = some (.slice ca 0 cc) := hnd.cells.cell 2
      have hu4 := hw.four
      have hku := keys_length u
      have hvu := vals_length u
      have HS := Lib.hid (search_any (.slice ka (keys u).length kc) (keys u).length (keys u) k wr hnd.k hw.ks (by omega))
      have hbb : cellsAt wr bx [.int .i64 0, .int .i64 0, .string ⟨#[]⟩] := cellsAt.still hw.still B1.out
      have q0 : wr.cell? ⟨bx, 0, none⟩ = some (.int .i64 0) := hbb.cell 0
      have q1 : wr.cell? ⟨bx, 1, none⟩ = some (.int .i64 0) := hbb.cell 1
      have q1z : wr.cell? ⟨bx, 2, none⟩ = some (.string ⟨#[]⟩) := hbb.cell 2
      have q3z : wr.frozen? ⟨bx, 2, none⟩ = false := hbb.free 2
      have q2 : wr.frozen? ⟨bx, 0, none⟩ = false := hbb.free 0
      have q3 : wr.frozen? ⟨bx, 1, none⟩ = false := hbb.free 1
      have hgl : getL u k = getL l k := hw.get.trans HG.out
      have hws : Still w wr := SW.out.trans hw.still
      have hfin : ∀ a b c : Value, Still w (((wr.setCell ⟨bx, 0, none⟩ a).setCell ⟨bx, 1, none⟩ b).setCell ⟨bx, 2, none⟩ c) := fun a b c => ((Only.setCell hws (p := ⟨bx, 0, none⟩) (.inr (by rw [HB.out]; exact Nat.le_refl _)) a).setCell (p := ⟨bx, 1, none⟩) (.inr (by rw [HB.out]; exact Nat.le_refl _)) b).setCell (p := ⟨bx, 2, none⟩) (.inr (by rw [HB.out]; exact Nat.le_refl _)) c
      have HFIN := Lib.hid hfin
      have HGL := Lib.hid hgl
      have HU := Lib.hid (And.intro hku hvu)
      have HV := Lib.hid hnd.v
      clear hw hnd hF hd hlt hu4 hku hvu hgl hws hfin hbb
      cases hk : hasK (keys u) k with
      | false =>
        rw [hk] at HS
        have HX := Lib.hid (show TGet w l k (.returned (.tuple #[.agg #[.int .i64 0, .int .i64 0, .string ⟨#[]⟩], .bool false])) (((wr.setCell ⟨bx, 0, none⟩ (.int .i64 0)).setCell ⟨bx, 1, none⟩ (.int .i64 0)).setCell ⟨bx, 2, none⟩ (.string ⟨#[]⟩)) from by
          have e : getL l k = none := by rw [← HGL.out]; unfold getL; rw [hk]; rfl
          refine ⟨?_, HFIN.out _ _ _⟩
          rw [e]
          rfl)
        clear hk
        go_wp2_with fail
        refine HS.out.mono ?_
        rintro e w0 ⟨rfl, rfl⟩
        go_wp2_with fail
        (try simp only [Exit.inBlock, Exit.then])
        refine bodyPost_ret (v := .tuple #[.agg #[.int .i64 0, .int .i64 0, .string ⟨#[]⟩], .bool false]) ?_ rfl HX.out
        rw [results_cell_tmp rfl]
        go_simp
      | true =>
        rw [hk] at HS
        obtain ⟨i, hi⟩ : ∃ i, pos (keys u) k = i := ⟨_, rfl⟩
        have hil : i < (vals u).length := by
          have := hasK_lt hk
          have := HU.out
          omega
        rw [hi] at HS
        obtain ⟨g, o, cap, hve, hv⟩ := HV.out.form (by omega)
        injection hve with hva _ hvc
        subst hva hvc
        have hr0 := rcells_get (vals u) i (vals u)[i] (List.getElem?_eq_getElem hil)
        have e0 : wr.cell? ⟨g, o + i * 3, none⟩ = some (.int .i64 (vals u)[i].1) := (hv.cell (i * 3) (by omega)).trans hr0.1
        have e1 : wr.cell? ⟨g, o + i * 3 + 1, none⟩ = some (.int .i64 (vals u)[i].2.1) := by rw [Nat.add_assoc]; exact (hv.cell (i * 3 + 1) (by omega)).trans hr0.2.1
        have e2 : wr.cell? ⟨g, o + i * 3 + 2, none⟩ = some (.string (vals u)[i].2.2) := by rw [Nat.add_assoc]; exact (hv.cell (i * 3 + 2) (by omega)).trans hr0.2.2
        have HX := Lib.hid (show TGet w l k (.returned (.tuple #[.agg #[.int .i64 (vals u)[i].1, .int .i64 (vals u)[i].2.1, .string (vals u)[i].2.2], .bool true])) (((wr.setCell ⟨bx, 0, none⟩ (.int .i64 (vals u)[i].1)).setCell ⟨bx, 1, none⟩ (.int .i64 (vals u)[i].2.1)).setCell ⟨bx, 2, none⟩ (.string (vals u)[i].2.2)) from by
          have e : getL l k = some (vals u)[i] := by
            rw [← HGL.out]
            unfold getL
            rw [hk, hi, List.getElem?_eq_getElem hil]
            rfl
          refine ⟨?_, HFIN.out _ _ _⟩
          rw [e]
          rfl)
        have b0 : (0 : Int) ≤ (i : Int) := by omega
        have b1 : (i : Int) < ((vals u).length : Int) := by omega
        generalize (vals u)[i].1 = v1 at *
        generalize (vals u)[i].2.1 = v2 at *
        generalize (vals u)[i].2.2 = v3 at *
        generalize (vals u).length = n2 at *
        clear hk hi hil hr0 hv
        go_wp2_with fail
        refine HS.out.mono ?_
        rintro e w0 ⟨rfl, rfl⟩
        go_wp2_with fail
        (try simp only [Exit.inBlock, Exit.then])
        refine bodyPost_ret (v := .tuple #[.agg #[.int .i64 v1, .int .i64 v2, .string v3], .bool true]) ?_ rfl HX.out
        rw [results_cell_tmp rfl]
        go_simp
end Go.Proofs.YtedfijmaeoednaaGreatDoor.Ke

namespace Go.Proofs.YtedfijmaeoednaaGreatDoor.Ke
open Go.RowKit Go.Wh

theorem len_any (w : World) (t : Nat) (l : Nd 0) (F : List Nat) (h : TreeAt w t l F) : Calls Tryz.prog 39 #[ptr t] w (fun e w' => e = .returned (.int .i64 l.length) ∧ w' = w) := by
  obtain ⟨d, r, x, G, h1, -, -, -, -, -⟩ := h
  have c1 : w.cell? ⟨t, 1, none⟩ = some (.int .i64 l.length) := h1.cell 1
  clear h1
  unfold ptr
  go_enter Tryz.func39, Tryz.ntmps39
  go_wp2_with fail
  go_ret
  exact ⟨rfl, rfl⟩
end Go.Proofs.YtedfijmaeoednaaGreatDoor.Ke

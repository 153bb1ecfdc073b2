/- Put and Cut of a tree as it is held. Conditions: a tree in memory. Cut of a tree as it is held. Conditions: a tree in memory. The order of keys, and where a key lies in a sorted row of keys. No conditions. The second instance: a place and a second key. A node in memory: its keys, places, children, and the blocks it is made of. No conditions. The second instance: a place and a second key. A tree in memory: nodes whose children are trees, all blocks apart. No conditions. The second instance: a place and a second key. A node's size, and which child a key belongs to. Conditions: a node in memory. The second instance: a place and a second key. -/
import Derived.Test.YtedfijmaeoednaaGreatDoorBx10
import Derived.Sort.Walk0
namespace Go.Proofs.YtedfijmaeoednaaGreatDoor
open Go.RowKit Go.Wh

def TPut (w : World) (t : Nat) (l : Nd 0) (F : List Nat) (k : Key) (v : Rid) (e : Ending) (w' : World) : Prop :=
  ∃ F', e = .returned (.bool !(hasK (keys l) k)) ∧ TreeAt w' t (insL l k v) F' ∧ Only (fun b => b ∈ F) w w' ∧ ∀ b ∈ F', b ∈ F ∨ w.heap.size ≤ b
def TCut (w : World) (t : Nat) (l : Nd 0) (F : List Nat) (k : Key) (e : Ending) (w' : World) : Prop :=
  ∃ F', e = .returned (.bool (hasK (keys l) k)) ∧ TreeAt w' t (delL l k) F' ∧ Only (fun b => b ∈ F) w w' ∧ ∀ b ∈ F', b ∈ F ∨ w.heap.size ≤ b

/-- The last step: how many there are. -/
theorem tree_count {w : World} {t d r n m : Nat} {x : Nd d} {G : List Nat} {l : Nd 0} (hc : cellsAt w t [ptr r, .int .i64 n]) (hat : At d w r x G) (ht : t ∉ G) (hg : Good d x) (hf : flat d x = l) (hm : m = l.length) :
    TreeAt (w.setCell ⟨t, 1, none⟩ (.int .i64 m)) t l (t :: G) ∧ (n = m → TreeAt w t l (t :: G)) := by
  subst hm
  refine ⟨⟨d, r, x, G, hc.setCell 1 _, hat.only (setCell_only w ⟨t, 1, none⟩ _) fun b hb e => ht (by have e' : b = t := e; exact e' ▸ hb), rfl, ht, hg, hf⟩, fun e => ?_⟩
  subst e
  exact ⟨d, r, x, G, hc, hat, rfl, ht, hg, hf⟩

/-- A root of two children. -/
theorem root_two {d : Nat} {w W : World} {r y b1 b2 rr t : Nat} {c1 c2 : Nd d} {F1 F2 : List Nat} {k1 k2 : Key} (h1 : At d w r c1 F1) (h2 : At d w y c2 F2) (hn : (F1 ++ F2).Nodup) (ho : Only (fun b => b = t) w W) (ht : t ∉ F1 ++ F2)
    (e1 : cellsAt W b1 [.string k1, .string k2]) (e2 : cellsAt W b2 [ptr r, ptr y]) (e3 : cellsAt W rr [.slice (some ⟨b1, 0, none⟩) 2 2, .slice none 0 0, .slice (some ⟨b2, 0, none⟩) 2 2])
    (n1 : w.heap.size ≤ b1) (n2 : w.heap.size ≤ b2) (n3 : w.heap.size ≤ rr) (m1 : b1 ≠ b2) (m2 : rr ≠ b1) (m3 : rr ≠ b2) : At (d + 1) W rr [kn k1 c1, kn k2 c2] ([rr, b1, b2] ++ (F1 ++ F2)) := by
  have hnot : ∀ b, b ∈ F1 ++ F2 → ¬ b = t := fun b hb e => ht (e ▸ hb)
  have hr : Raw W rr [k1, k2] [] [r, y] [rr, b1, b2] := by
    refine ⟨.slice (some ⟨b1, 0, none⟩) 2 2, .slice none 0 0, .slice (some ⟨b2, 0, none⟩) 2 2, ⟨e3, ?_, Vec.nil _ _, ?_⟩, rfl, by simp [m1, m2, m3], ?_⟩
    · obtain ⟨tt, hb⟩ := e1
      have := vecAt_block (size := 1) (n := 2) (cap := 2) hb (by simp) (Nat.le_refl _) (by simp [maxLen])
      exact .inr ⟨b1, 0, 2, rfl, by simpa [kcells] using this⟩
    · obtain ⟨tt, hb⟩ := e2
      have := vecAt_block (size := 1) (n := 2) (cap := 2) hb (by simp) (Nat.le_refl _) (by simp [maxLen])
      exact .inr ⟨b2, 0, 2, rfl, by simpa [pcells] using this⟩
    · intro b hb
      simp only [List.mem_cons, List.not_mem_nil, or_false] at hb
      rcases hb with rfl | rfl | rfl
      · exact e3.lt
      · exact e1.lt
      · exact e2.lt
  have k1' : At d W r c1 F1 := h1.only ho fun b hb => hnot b (List.mem_append_left _ hb)
  have k2' : At d W y c2 F2 := h2.only ho fun b hb => hnot b (List.mem_append_right _ hb)
  refine ⟨[r, y], [rr, b1, b2], [F1, F2], hr, Sons.cons k1' (Sons.one k2'), by simp, ?_⟩
  refine List.nodup_append.2 ⟨hr.nodup, hn, fun a ha b hb e => ?_⟩
  subst e
  have hlt : a < w.heap.size := by
    rcases List.mem_append.1 hb with hb | hb
    · exact h1.lt a hb
    · exact h2.lt a hb
  simp only [List.mem_cons, List.not_mem_nil, or_false] at ha
  omega

theorem parted_great {d : Nat} {c : Nd d} (h : ¬ c.length ≤ 4) : parted c = [kn (fk (c.take (c.length / 2))) (c.take (c.length / 2)), kn (fk (c.drop (c.length / 2))) (c.drop (c.length / 2))] := by
  unfold parted
  rw [if_neg h]

def RootTwo (d : Nat) (w2 : World) (t n : Nat) (k1 k2 : Key) (c1 c2 : Nd d) (F : List Nat) (wc : World) : Prop :=
  ∃ G2, At (d + 1) wc (w2.heap.size + 1 + 1) [kn k1 c1, kn k2 c2] G2 ∧ cellsAt wc t [ptr (w2.heap.size + 1 + 1), .int .i64 n] ∧ Only (fun b => b = t) w2 wc ∧ ∀ b ∈ G2, b ∈ F ∨ w2.heap.size ≤ b

theorem two_one {d : Nat} {w : World} {r y t n : Nat} {c1 c2 : Nd d} {F1 F2 : List Nat} {k1 k2 : Key} (h1 : At d w r c1 F1) (h2 : At d w y c2 F2) (hn : (F1 ++ F2).Nodup) (ht : t ∉ F1 ++ F2) (hc : cellsAt w t [ptr r, .int .i64 n]) (t1 t2 t3 : TypeId) :
    RootTwo d w t n k1 k2 c1 c2 (F1 ++ F2) ((((w.alloc (.cells #[.string k1, .string k2] t1)).alloc (.cells #[ptr r, ptr y] t2)).alloc (.cells #[.slice (some ⟨w.heap.size, 0, none⟩) 2 2, .slice none 0 0, .slice (some ⟨w.heap.size + 1, 0, none⟩) 2 2] t3)).drew.setCell ⟨t, 0, none⟩ (ptr (w.heap.size + 1 + 1))) := by
  have hlt := hc.lt
  have a1 := cellsAt_new w [.string k1, .string k2] t1
  have a2 := cellsAt_new (w.alloc (.cells #[.string k1, .string k2] t1)) [ptr r, ptr y] t2
  have a3 := cellsAt_new ((w.alloc (.cells #[.string k1, .string k2] t1)).alloc (.cells #[ptr r, ptr y] t2)) [.slice (some ⟨w.heap.size, 0, none⟩) 2 2, .slice none 0 0, .slice (some ⟨w.heap.size + 1, 0, none⟩) 2 2] t3
  have z1 : (w.alloc (.cells #[.string k1, .string k2] t1)).heap.size = w.heap.size + 1 := by simp
  have z2 : ((w.alloc (.cells #[.string k1, .string k2] t1)).alloc (.cells #[ptr r, ptr y] t2)).heap.size = w.heap.size + 1 + 1 := by simp
  rw [z1] at a2
  rw [z2] at a3
  have s0 : Still w (((w.alloc (.cells #[.string k1, .string k2] t1)).alloc (.cells #[ptr r, ptr y] t2)).alloc (.cells #[.slice (some ⟨w.heap.size, 0, none⟩) 2 2, .slice none 0 0, .slice (some ⟨w.heap.size + 1, 0, none⟩) 2 2] t3)).drew := ((((Still.refl w).alloc _).alloc _).alloc _).drew
  have ho := (s0.only (S := fun b => b = t)).setCell (p := ⟨t, 0, none⟩) (.inl rfl) (ptr (w.heap.size + 1 + 1))
  have e1 := ((a1.alloc (.cells #[ptr r, ptr y] t2)).alloc (.cells #[.slice (some ⟨w.heap.size, 0, none⟩) 2 2, .slice none 0 0, .slice (some ⟨w.heap.size + 1, 0, none⟩) 2 2] t3)).drew.setOther (p := ⟨t, 0, none⟩) (by simp; omega) (ptr (w.heap.size + 1 + 1))
  have e2 := (a2.alloc (.cells #[.slice (some ⟨w.heap.size, 0, none⟩) 2 2, .slice none 0 0, .slice (some ⟨w.heap.size + 1, 0, none⟩) 2 2] t3)).drew.setOther (p := ⟨t, 0, none⟩) (by simp; omega) (ptr (w.heap.size + 1 + 1))
  have e3 := a3.drew.setOther (p := ⟨t, 0, none⟩) (by simp; omega) (ptr (w.heap.size + 1 + 1))
  refine ⟨_, root_two h1 h2 hn ho ht e1 e2 e3 (Nat.le_refl _) (by omega) (by omega) (by omega) (by omega) (by omega), (cellsAt.still s0 hc).setCell 0 _, ho, fun b hb => ?_⟩
  rcases List.mem_append.1 hb with hb | hb
  · simp only [List.mem_cons, List.not_mem_nil, or_false] at hb
    exact .inr (by omega)
  · exact .inl hb
theorem two_two {d : Nat} {w : World} {r y t n : Nat} {c1 c2 : Nd d} {F1 F2 : List Nat} {k1 k2 : Key} (h1 : At d w r c1 F1) (h2 : At d w y c2 F2) (hn : (F1 ++ F2).Nodup) (ht : t ∉ F1 ++ F2) (hc : cellsAt w t [ptr r, .int .i64 n]) (t1 t2 t3 : TypeId) :
    RootTwo d w t n k1 k2 c1 c2 (F1 ++ F2) ((((w.alloc (.cells #[ptr r, ptr y] t2)).alloc (.cells #[.string k1, .string k2] t1)).alloc (.cells #[.slice (some ⟨w.heap.size + 1, 0, none⟩) 2 2, .slice none 0 0, .slice (some ⟨w.heap.size, 0, none⟩) 2 2] t3)).drew.setCell ⟨t, 0, none⟩ (ptr (w.heap.size + 1 + 1))) := by
  have hlt := hc.lt
  have a2 := cellsAt_new w [ptr r, ptr y] t2
  have a1 := cellsAt_new (w.alloc (.cells #[ptr r, ptr y] t2)) [.string k1, .string k2] t1
  have a3 := cellsAt_new ((w.alloc (.cells #[ptr r, ptr y] t2)).alloc (.cells #[.string k1, .string k2] t1)) [.slice (some ⟨w.heap.size + 1, 0, none⟩) 2 2, .slice none 0 0, .slice (some ⟨w.heap.size, 0, none⟩) 2 2] t3
  have z1 : (w.alloc (.cells #[ptr r, ptr y] t2)).heap.size = w.heap.size + 1 := by simp
  have z2 : ((w.alloc (.cells #[ptr r, ptr y] t2)).alloc (.cells #[.string k1, .string k2] t1)).heap.size = w.heap.size + 1 + 1 := by simp
  rw [z1] at a1
  rw [z2] at a3
  have s0 : Still w (((w.alloc (.cells #[ptr r, ptr y] t2)).alloc (.cells #[.string k1, .string k2] t1)).alloc (.cells #[.slice (some ⟨w.heap.size + 1, 0, none⟩) 2 2, .slice none 0 0, .slice (some ⟨w.heap.size, 0, none⟩) 2 2] t3)).drew := ((((Still.refl w).alloc _).alloc _).alloc _).drew
  have ho := (s0.only (S := fun b => b = t)).setCell (p := ⟨t, 0, none⟩) (.inl rfl) (ptr (w.heap.size + 1 + 1))
  have e2 := ((a2.alloc (.cells #[.string k1, .string k2] t1)).alloc (.cells #[.slice (some ⟨w.heap.size + 1, 0, none⟩) 2 2, .slice none 0 0, .slice (some ⟨w.heap.size, 0, none⟩) 2 2] t3)).drew.setOther (p := ⟨t, 0, none⟩) (by simp; omega) (ptr (w.heap.size + 1 + 1))
  have e1 := (a1.alloc (.cells #[.slice (some ⟨w.heap.size + 1, 0, none⟩) 2 2, .slice none 0 0, .slice (some ⟨w.heap.size, 0, none⟩) 2 2] t3)).drew.setOther (p := ⟨t, 0, none⟩) (by simp; omega) (ptr (w.heap.size + 1 + 1))
  have e3 := a3.drew.setOther (p := ⟨t, 0, none⟩) (by simp; omega) (ptr (w.heap.size + 1 + 1))
  refine ⟨_, root_two h1 h2 hn ho ht e1 e2 e3 (by omega) (Nat.le_refl _) (by omega) (by omega) (by omega) (by omega), (cellsAt.still s0 hc).setCell 0 _, ho, fun b hb => ?_⟩
  rcases List.mem_append.1 hb with hb | hb
  · simp only [List.mem_cons, List.not_mem_nil, or_false] at hb
    exact .inr (by omega)
  · exact .inl hb

set_option maxHeartbeats 1000000 in
set_option maxRecDepth 100000 in
theorem tput (w : World) (t : Nat) (l : Nd 0) (F : List Nat) (k : Key) (v : Rid) (h : TreeAt w t l F) (hl : l.length ≤ 100000) :
    Calls Tryz.prog 32 #[ptr t, .string k, ridV v] w (TPut w t l F k v) := by
  obtain ⟨d, r, x, G, hc, hat, hF, htG, hg, hfl⟩ := h
  obtain ⟨vp, vq⟩ := v
  obtain ⟨n, hn⟩ : ∃ n, l.length = n := ⟨_, rfl⟩
  rw [hn] at hc hl
  have hc1 : ∀ ob, cellsAt (w.alloc ob) t [ptr r, .int .i64 n] := fun ob => hc.alloc ob
  have c0 : ∀ ob, (w.alloc ob).cell? ⟨t, 0, none⟩ = some (ptr r) := fun ob => (hc1 ob).cell 0
  have d0 : ∀ tt, (w.alloc (.cells #[.int .i64 vp, .int .i64 vq] tt)).cell? ⟨w.heap.size, 0, none⟩ = some (.int .i64 vp) := fun tt => (cellsAt_new w [.int .i64 vp, .int .i64 vq] tt).cell 0
  have d1 : ∀ tt, (w.alloc (.cells #[.int .i64 vp, .int .i64 vq] tt)).cell? ⟨w.heap.size, 1, none⟩ = some (.int .i64 vq) := fun tt => (cellsAt_new w [.int .i64 vp, .int .i64 vq] tt).cell 1
  have hfp := flat_put d x k (vp, vq) hg.fit hg.nonempty hg.ks
  rw [hfl] at hfp
  have HP := Lib.hid (fun w' (hs : Still w w') => put_any d w' r x G k (vp, vq) (hat.only hs fun _ _ e => e) (able_of_fit d x hg.fit hg.nonempty (by have := hg.four; omega) hg.ks))
  have HT := Lib.hid (And.intro hc (And.intro hF (And.intro htG (And.intro hg (And.intro hfl (And.intro hfp (And.intro hn hl)))))))
  have u1 : IntKind.i64.wrap ((n : Int) + 1) = (n : Int) + 1 := IntWalk.i64_in _ (by omega)
  clear hc hc1 hat hF htG hg hfl hfp hn hl
  unfold ptr ridV at HP ⊢
  unfold ptr at c0
  go_enter Tryz.func32, Tryz.ntmps32
  go_wp2_with fail
  have s2 := c0 (.cells #[.int .i64 vp, .int .i64 vq] 31)
  have s4 := d0 31
  have s5 := d1 31
  have SW := Lib.hid (show Still w (w.alloc (.cells #[.int .i64 vp, .int .i64 vq] 31)) from (Only.refl _ w).alloc _)
  clear c0 d0 d1
  generalize w.alloc _ = W at *
  generalize w.heap.size = bx at *
  go_still_tail 6, (by kernel_rfl)
  go_wp2_with fail
  (with_reducible refine (HP.out _ ?_).mono ?_)
  · exact (SW.out.trans (Only.drew (Only.refl _ _)))
  rintro e w1 ⟨G', rfl, hat1, ho1, hf1⟩
  have hoW : Only (fun b => b ∈ G) w w1 := (SW.out.only.trans (Only.drew (Only.refl _ _))).trans ho1
  have hlW : w.heap.size ≤ W.drew.heap.size := SW.out.size
  have hct1 : cellsAt w1 t [ptr r, .int .i64 n] := HT.out.1.only hoW HT.out.2.2.1
  have htG' : t ∉ G' := fun hb => by
    rcases hf1 t hb with h | h
    · exact HT.out.2.2.1 h
    · have := HT.out.1.lt; omega
  have c0 : w1.cell? ⟨t, 0, none⟩ = some (.pointer (some ⟨r, 0, none⟩)) := hct1.cell 0
  obtain ⟨x', hx'⟩ : ∃ x', putM d x k (vp, vq) = x' := ⟨_, rfl⟩
  have hpl := putM_length d x k (vp, vq) HT.out.2.2.2.1.nonempty
  have hx5 : x'.length ≤ 5 := by rw [← hx']; have := HT.out.2.2.2.1.four; omega
  rw [hx'] at hat1
  have SP1 := Lib.hid (fun (h4 : x'.length ≤ 4) => split_at_small d w1 r x' G' hat1 h4)
  have SP2 := Lib.hid (fun (h4 : ¬ x'.length ≤ 4) => split_at d w1 r x' G' hat1 (by omega) (by omega))
  have HS1 := Lib.hid (And.intro hat1 (And.intro hoW (And.intro (And.intro hct1 htG') (And.intro hx' (And.intro hx5 (fun b hb => (hf1 b hb).imp id (Nat.le_trans hlW)))))))
  unfold ptr at SP1 SP2
  rw [HT.out.2.2.2.2.2.1.2]
  clear hat1 ho1 hf1 hoW hlW hct1 htG' hx' hpl hx5 s2 s4 s5 HP
  by_cases h4 : x'.length ≤ 4
  · have hgood := good_put_small HT.out.2.2.2.1 k (vp, vq) (by rw [HS1.out.2.2.2.1]; exact h4)
    rw [HS1.out.2.2.2.1] at hgood
    have hfx : flat d x' = insL l k (vp, vq) := by rw [← HS1.out.2.2.2.1]; exact HT.out.2.2.2.2.2.1.1
    go_wp2_with fail
    refine (SP1.out h4).mono ?_
    rintro e w2 ⟨rfl, hs2⟩
    have hct2 := HS1.out.2.2.1.1.only hs2 fun e => e
    have hat2 := HS1.out.1.only hs2 fun _ _ e => e
    have hcnt := tree_count (m := (insL l k (vp, vq)).length) hct2 hat2 HS1.out.2.2.1.2 hgood hfx rfl
    have hO : Only (fun b => b ∈ F) w w2 := ((HS1.out.2.1.mono fun b hb => by rw [HT.out.2.1]; simp [hb])).trans (hs2.mono fun _ e => e.elim)
    have hS : ∀ b ∈ t :: G', b ∈ F ∨ w.heap.size ≤ b := fun b hb => by
      rw [HT.out.2.1]
      rcases List.mem_cons.1 hb with rfl | hb
      · exact .inl (by simp)
      · exact (HS1.out.2.2.2.2.2 b hb).imp (fun h => by simp [h]) id
    have hil := insL_length' (l := l) k (vp, vq)
    rw [HT.out.2.2.2.2.2.2.1] at hil
    have c1 : w2.cell? ⟨t, 1, none⟩ = some (.int .i64 n) := hct2.cell 1
    have c2 : w2.frozen? ⟨t, 1, none⟩ = false := hct2.free 1
    cases hk : hasK (keys l) k with
    | true =>
      rw [hk] at hil
      have FIN := Lib.hid (show TPut w t l F k (vp, vq) (.returned (.bool false)) w2 from ⟨_, by rw [hk]; rfl, hcnt.2 (by simp at hil; omega), hO, hS⟩)
      clear hct2 hat2 hcnt hO hS hil hgood hfx h4 hs2 hk
      go_wp2_with fail
      go_ret
      exact FIN.out
    | false =>
      rw [hk] at hil
      have hil' : ((insL l k (vp, vq)).length : Int) = (n : Int) + 1 := by simp at hil; omega
      have FIN := Lib.hid (show TPut w t l F k (vp, vq) (.returned (.bool true)) (w2.setCell ⟨t, 1, none⟩ (.int .i64 ((n : Int) + 1))) from
        ⟨_, by rw [hk]; rfl, by have := hcnt.1; rw [hil'] at this; exact this, hO.setCell (p := ⟨t, 1, none⟩) (.inl (by rw [HT.out.2.1]; simp)) _, hS⟩)
      clear hct2 hat2 hcnt hO hS hil hgood hfx h4 hs2 hk hil'
      go_wp2_with fail
      go_ret
      exact FIN.out
  · have hgood := good_put_great HT.out.2.2.2.1 k (vp, vq) (by rw [HS1.out.2.2.2.1]; exact h4)
    rw [HS1.out.2.2.2.1, HT.out.2.2.2.2.1, parted_great h4] at hgood
    go_wp2_with fail
    refine (SP2.out h4).mono ?_
    rintro e w2 ⟨y, F1, F2, rfl, hy1, hy2, ho2, hn2, hf2⟩
    have hct2 := HS1.out.2.2.1.1.only ho2 HS1.out.2.2.1.2
    have htF : t ∉ F1 ++ F2 := fun hb => by
      rcases hf2 t hb with h | h
      · exact HS1.out.2.2.1.2 h
      · have := HS1.out.2.2.1.1.lt; omega
    obtain ⟨g1, o1, m1, p1, l1, l2, l3, _, _⟩ := hy1.least (by rw [List.length_take]; omega)
    obtain ⟨g2, o2, m2, p2, l4, l5, l6, _, _⟩ := hy2.least (by rw [List.length_drop]; omega)
    generalize hk1 : fk (x'.take (x'.length / 2)) = k1 at *
    generalize hk2 : fk (x'.drop (x'.length / 2)) = k2 at *
    have c1 : w2.cell? ⟨t, 0, none⟩ = some (.pointer (some ⟨r, 0, none⟩)) := hct2.cell 0
    have HH := Lib.hid (And.intro hgood (And.intro hy1 (And.intro hy2 (And.intro ho2 (And.intro hn2 (And.intro hf2 (And.intro hct2 htF)))))))
    have CF := Lib.hid (fun w' (hs : Still w2 w') => And.intro hs (And.intro (Still.cell hs l1) (And.intro (Still.cell hs l3) (And.intro (Still.cell hs l4) (Still.cell hs l6)))))
    have z0 : ∀ A B C, (((w2.alloc A).alloc B).alloc C).drew.cell? ⟨t, 0, none⟩ = some (.pointer (some ⟨r, 0, none⟩)) := fun A B C => (((hct2.alloc A).alloc B).alloc C).drew.cell 0
    have z1 : ∀ A B C, (((w2.alloc A).alloc B).alloc C).drew.frozen? ⟨t, 0, none⟩ = false := fun A B C => (((hct2.alloc A).alloc B).alloc C).drew.free 0
    have R1 := Lib.hid (fun t1 t2 t3 => two_one (k1 := k1) (k2 := k2) hy1 hy2 hn2 htF hct2 t1 t2 t3)
    have R2 := Lib.hid (fun t1 t2 t3 => two_two (k1 := k1) (k2 := k2) hy1 hy2 hn2 htF hct2 t1 t2 t3)
    clear hgood hy1 hy2 ho2 hn2 hf2 hct2 htF hk1 hk2
    unfold ptr
    go_wp2_with fail
    go_cut [] (fun wc => RootTwo d w2 t n k1 k2 (x'.take (x'.length / 2)) (x'.drop (x'.length / 2)) (F1 ++ F2) wc)
    case first =>
      refine wp_region_D_drew (D := (fun i => [0, 1, 2, 3, 7, 8, 9, 14, 15, 17, 19, 20, 21].contains i)) (S := (fun w' => Still w2 w' ∧ w'.cell? ⟨r, 0, none⟩ = some (.slice (some ⟨g1, o1, none⟩) m1 p1) ∧ w'.cell? ⟨g1, o1, none⟩ = some (.string k1) ∧ w'.cell? ⟨y, 0, none⟩ = some (.slice (some ⟨g2, o2, none⟩) m2 p2) ∧ w'.cell? ⟨g2, o2, none⟩ = some (.string k2))) (by kernel_rfl) ?_ (fun hHeld => ?_)
      · ((try dsimp only) <;> ((with_reducible refine CF.out _ ?_); (repeat (first | (with_reducible exact Still.refl _) | (with_reducible refine Still.drew ?_) | (with_reducible refine Still.alloc ?_ _)))))
      (refine takeD (i := 0) (some 28) (v := ?_) rfl (by rfl) (by rfl) (by kernel_rfl) (by rfl) (fun _ _ _ h => h) ?_ ?_; rotate_left; (intro w; go_simp; try with_reducible rfl); try go_frame)
      (refine takeD (i := 1) (some 29) (v := ?_) rfl (by rfl) (by rfl) (by kernel_rfl) (by rfl) (fun _ _ _ h => h) ?_ ?_; rotate_left; (intro w; go_simp; try with_reducible rfl); try go_frame)
      (refine takeD (i := 2) (some 30) (v := ?_) rfl (by rfl) (by rfl) (by kernel_rfl) (by rfl) (fun _ _ _ h => h) ?_ ?_; rotate_left; (intro w; go_simp; try with_reducible rfl); try go_frame)
      (refine takeD (i := 3) (some 31) (v := ?_) rfl (by rfl) (by rfl) (by kernel_rfl) (by rfl) (fun _ _ _ h => h) ?_ ?_; rotate_left; (intro w; go_simp; try with_reducible rfl); try go_frame)
      (refine takeD (i := 7) (some 35) (v := ?_) rfl (by rfl) (by rfl) (by kernel_rfl) (by rfl) (fun _ _ _ h => h) ?_ ?_; rotate_left; (intro w; go_simp; try with_reducible rfl); try go_frame)
      (refine takeD (i := 8) (some 36) (v := ?_) rfl (by rfl) (by rfl) (by kernel_rfl) (by rfl) (fun _ _ _ h => h) ?_ ?_; rotate_left; (intro w; go_simp; try with_reducible rfl); try go_frame)
      (refine takeD (i := 9) (some 37) (v := ?_) rfl (by rfl) (by rfl) (by kernel_rfl) (by rfl) (fun _ _ _ h => h) ?_ ?_; rotate_left; (intro w; go_simp; try with_reducible rfl); try go_frame)
      (refine takeD (i := 14) (some 42) (v := ?_) rfl (by rfl) (by rfl) (by kernel_rfl) (by rfl) (fun _ _ _ h => h) ?_ ?_; rotate_left; (intro w; go_simp; try with_reducible rfl); try go_frame)
      (refine takeD (i := 15) (some 43) (v := ?_) rfl (by rfl) (by rfl) (by kernel_rfl) (by rfl) (fun _ _ _ h => h) ?_ ?_; rotate_left; (intro w; go_simp; try with_reducible rfl); try go_frame)
      (refine takeS (i := 4) (some 32) (v := ?_) rfl (by rfl) (by rfl) (by kernel_rfl) (by rfl) (fun _ _ _ h => h) (by assumption) ?_ ?_; rotate_left; (intro w hSw; (try dsimp only at hSw); go_simp; try with_reducible rfl); try go_frame)
      (refine takeS (i := 5) (some 33) (v := ?_) rfl (by rfl) (by rfl) (by kernel_rfl) (by rfl) (fun _ _ _ h => h) (by assumption) ?_ ?_; rotate_left; (intro w hSw; (try dsimp only at hSw); go_simp; try with_reducible rfl); try go_frame)
      (refine takeS (i := 6) (some 34) (v := ?_) rfl (by rfl) (by rfl) (by kernel_rfl) (by rfl) (fun _ _ _ h => h) (by assumption) ?_ ?_; rotate_left; (intro w hSw; (try dsimp only at hSw); go_simp; try with_reducible rfl); try go_frame)
      (refine takeS (i := 10) (some 38) (v := ?_) rfl (by rfl) (by rfl) (by kernel_rfl) (by rfl) (fun _ _ _ h => h) (by assumption) ?_ ?_; rotate_left; (intro w hSw; (try dsimp only at hSw); go_simp; try with_reducible rfl); try go_frame)
      (refine takeS (i := 11) (some 39) (v := ?_) rfl (by rfl) (by rfl) (by kernel_rfl) (by rfl) (fun _ _ _ h => h) (by assumption) ?_ ?_; rotate_left; (intro w hSw; (try dsimp only at hSw); go_simp; try with_reducible rfl); try go_frame)
      (refine takeS (i := 12) (some 40) (v := ?_) rfl (by rfl) (by rfl) (by kernel_rfl) (by rfl) (fun _ _ _ h => h) (by assumption) ?_ ?_; rotate_left; (intro w hSw; (try dsimp only at hSw); go_simp; try with_reducible rfl); try go_frame)
      refine wpAnyD_ready (rs := [13, 16]) (by kernel_rfl) (by simp) ?_
      refine ReadyD.cons rfl (fun K hK => ?_) ?_
      go_simp
      (refine hK.out _ _ ?_ (fun hNew => ?_); (focus ((try dsimp only) <;> ((with_reducible refine CF.out _ ?_); (repeat (first | (with_reducible exact Still.refl _) | (with_reducible refine Still.drew ?_) | (with_reducible refine Still.alloc ?_ _)))))); clear hHeld; have hHeld := hNew; clear hNew)
      (clear hK K; try go_frame)
      refine wpAnyD_ready (rs := [16]) (by kernel_rfl) (by simp) ?_
      refine ReadyD.cons rfl (fun K hK => ?_) ?_
      go_simp
      (refine hK.out _ _ ?_ (fun hNew => ?_); (focus ((try dsimp only) <;> ((with_reducible refine CF.out _ ?_); (repeat (first | (with_reducible exact Still.refl _) | (with_reducible refine Still.drew ?_) | (with_reducible refine Still.alloc ?_ _)))))); clear hHeld; have hHeld := hNew; clear hNew)
      (clear hK K; try go_frame)
      (refine takeD (i := 17) (some 45) (v := ?_) rfl (by rfl) (by rfl) (by kernel_rfl) (by rfl) (fun _ _ _ h => h) ?_ ?_; rotate_left; (intro w; go_simp; try with_reducible rfl); try go_frame)
      refine wpAnyD_ready (rs := [18]) (by kernel_rfl) (by simp) ?_
      refine ReadyD.cons rfl (fun K hK => ?_) ?_
      go_simp
      (refine hK.out _ _ ?_ (fun hNew => ?_); (focus ((try dsimp only) <;> ((with_reducible refine CF.out _ ?_); (repeat (first | (with_reducible exact Still.refl _) | (with_reducible refine Still.drew ?_) | (with_reducible refine Still.alloc ?_ _)))))); clear hHeld; have hHeld := hNew; clear hNew)
      (clear hK K; try go_frame)
      (refine takeD (i := 19) (some 47) (v := ?_) rfl (by rfl) (by rfl) (by kernel_rfl) (by rfl) (fun _ _ _ h => h) ?_ ?_; rotate_left; (intro w; go_simp; try with_reducible rfl); try go_frame)
      (refine takeD (i := 20) (some 48) (v := ?_) rfl (by rfl) (by rfl) (by kernel_rfl) (by rfl) (fun _ _ _ h => h) ?_ ?_; rotate_left; (intro w; go_simp; try with_reducible rfl); try go_frame)
      refine wpAnyD_ready (rs := [21]) (by kernel_rfl) (by simp) ?_
      refine ReadyD.last rfl (by rfl) (fun K hK => ?_) ?_
      go_simp
      refine hK.out _ _ ?_
      (clear hK K; try go_frame)
      refine wpAnyD_done (by kernel_rfl) ?_ _
      rotate_left
      exact ReadyD.nil
      exact ReadyD.nil
      exact ReadyD.nil
      refine ReadyD.cons rfl (fun K hK => ?_) ?_
      go_simp
      (refine hK.out _ _ ?_ (fun hNew => ?_); (focus ((try dsimp only) <;> ((with_reducible refine CF.out _ ?_); (repeat (first | (with_reducible exact Still.refl _) | (with_reducible refine Still.drew ?_) | (with_reducible refine Still.alloc ?_ _)))))); clear hHeld; have hHeld := hNew; clear hNew)
      (clear hK K; try go_frame)
      refine wpAnyD_ready (rs := [13]) (by kernel_rfl) (by simp) ?_
      refine ReadyD.cons rfl (fun K hK => ?_) ?_
      go_simp
      (refine hK.out _ _ ?_ (fun hNew => ?_); (focus ((try dsimp only) <;> ((with_reducible refine CF.out _ ?_); (repeat (first | (with_reducible exact Still.refl _) | (with_reducible refine Still.drew ?_) | (with_reducible refine Still.alloc ?_ _)))))); clear hHeld; have hHeld := hNew; clear hNew)
      (clear hK K; try go_frame)
      (refine takeD (i := 17) (some 45) (v := ?_) rfl (by rfl) (by rfl) (by kernel_rfl) (by rfl) (fun _ _ _ h => h) ?_ ?_; rotate_left; (intro w; go_simp; try with_reducible rfl); try go_frame)
      refine wpAnyD_ready (rs := [18]) (by kernel_rfl) (by simp) ?_
      refine ReadyD.cons rfl (fun K hK => ?_) ?_
      go_simp
      (refine hK.out _ _ ?_ (fun hNew => ?_); (focus ((try dsimp only) <;> ((with_reducible refine CF.out _ ?_); (repeat (first | (with_reducible exact Still.refl _) | (with_reducible refine Still.drew ?_) | (with_reducible refine Still.alloc ?_ _)))))); clear hHeld; have hHeld := hNew; clear hNew)
      (clear hK K; try go_frame)
      (refine takeD (i := 19) (some 47) (v := ?_) rfl (by rfl) (by rfl) (by kernel_rfl) (by rfl) (fun _ _ _ h => h) ?_ ?_; rotate_left; (intro w; go_simp; try with_reducible rfl); try go_frame)
      (refine takeD (i := 20) (some 48) (v := ?_) rfl (by rfl) (by rfl) (by kernel_rfl) (by rfl) (fun _ _ _ h => h) ?_ ?_; rotate_left; (intro w; go_simp; try with_reducible rfl); try go_frame)
      refine wpAnyD_ready (rs := [21]) (by kernel_rfl) (by simp) ?_
      refine ReadyD.last rfl (by rfl) (fun K hK => ?_) ?_
      go_simp
      refine hK.out _ _ ?_
      (clear hK K; try go_frame)
      refine wpAnyD_done (by kernel_rfl) ?_ _
      rotate_left
      exact ReadyD.nil
      exact ReadyD.nil
      exact ReadyD.nil
      exact ReadyD.nil
      all_goals
        go_wp2_with fail
        go_meet
        case rel =>
          first
            | exact R1.out _ _ _
            | exact R2.out _ _ _
    case rest =>
      obtain ⟨G2, hr1, hr2, hr3, hr4⟩ := hcut
      have htG2 : t ∉ G2 := fun hb => by
        rcases hr4 t hb with h | h
        · exact HH.out.2.2.2.2.2.2.2 h
        · have := HH.out.2.2.2.2.2.2.1.lt; omega
      have hO : Only (fun b => b ∈ F) w wc := by
        refine (((HS1.out.2.1.mono fun b hb => by rw [HT.out.2.1]; simp [hb]).andThen HH.out.2.2.2.1 fun b hb hb' => ?_)).andThen hr3 fun b hb hb' => by rw [HT.out.2.1]; simp [hb']
        rcases HS1.out.2.2.2.2.2 b hb' with h | h
        · rw [HT.out.2.1]; simp [h]
        · omega
      have hsz : w.heap.size ≤ w2.heap.size := Nat.le_trans HS1.out.2.1.size HH.out.2.2.2.1.size
      have hS : ∀ b ∈ t :: G2, b ∈ F ∨ w.heap.size ≤ b := fun b hb => by
        rw [HT.out.2.1]
        rcases List.mem_cons.1 hb with rfl | hb
        · exact .inl (by simp)
        · rcases hr4 b hb with h | h
          · rcases HH.out.2.2.2.2.2.1 b h with h | h
            · exact (HS1.out.2.2.2.2.2 b h).imp (fun h => by simp [h]) id
            · exact .inr (Nat.le_trans HS1.out.2.1.size h)
          · exact .inr (by omega)
      have hcnt := tree_count (m := (insL l k (vp, vq)).length) hr2 hr1 htG2 HH.out.1.1 HH.out.1.2 rfl
      have hil := insL_length' (l := l) k (vp, vq)
      rw [HT.out.2.2.2.2.2.2.1] at hil
      have c4 : wc.cell? ⟨t, 1, none⟩ = some (.int .i64 n) := hr2.cell 1
      have c5 : wc.frozen? ⟨t, 1, none⟩ = false := hr2.free 1
      clear c1 l1 l3 l4 l6 z0 z1 hr1 hr2 hr3 hr4 htG2 hsz R1 R2
      cases hk : hasK (keys l) k with
      | true =>
        rw [hk] at hil
        have FIN := Lib.hid (show TPut w t l F k (vp, vq) (.returned (.bool false)) wc from ⟨_, by rw [hk]; rfl, hcnt.2 (by simp at hil; omega), hO, hS⟩)
        clear hcnt hO hS hil hk
        go_wp2_with fail
        go_ret
        exact FIN.out
      | false =>
        rw [hk] at hil
        have hil' : ((insL l k (vp, vq)).length : Int) = (n : Int) + 1 := by simp at hil; omega
        have FIN := Lib.hid (show TPut w t l F k (vp, vq) (.returned (.bool true)) (wc.setCell ⟨t, 1, none⟩ (.int .i64 ((n : Int) + 1))) from
          ⟨_, by rw [hk]; rfl, by have := hcnt.1; rw [hil'] at this; exact this, hO.setCell (p := ⟨t, 1, none⟩) (.inl (by rw [HT.out.2.1]; simp)) _, hS⟩)
        clear hcnt hO hS hil hil' hk
        go_wp2_with fail
        go_ret
        exact FIN.out
end Go.Proofs.YtedfijmaeoednaaGreatDoor

namespace Go.Proofs.YtedfijmaeoednaaGreatDoor
open Go.RowKit Go.Wh

theorem tcut_fin {w W : World} {t d r n : Nat} {x : Nd d} {G F : List Nat} {l : Nd 0} {k : Key} (hc : cellsAt W t [ptr r, .int .i64 n]) (hat : At d W r x G) (ht : t ∉ G) (hg : Good d x) (hf : flat d x = delL l k) (hn : l.length = n) (hO : Only (fun b => b ∈ F) w W) (hS : ∀ b ∈ t :: G, b ∈ F ∨ w.heap.size ≤ b) (htF : t ∈ F) :
    (hasK (keys l) k = false → TCut w t l F k (.returned (.bool false)) W) ∧ (hasK (keys l) k = true → TCut w t l F k (.returned (.bool true)) (W.setCell ⟨t, 1, none⟩ (.int .i64 ((n : Int) - 1)))) := by
  have hcnt := tree_count (m := (delL l k).length) hc hat ht hg hf rfl
  have hil := delL_length' (l := l) k
  refine ⟨fun hk => ⟨_, by rw [hk], hcnt.2 (by rw [hk] at hil; simp at hil; omega), hO, hS⟩, fun hk => ⟨_, by rw [hk], ?_, hO.setCell (p := ⟨t, 1, none⟩) (.inl htF) _, hS⟩⟩
  have e : ((delL l k).length : Int) = (n : Int) - 1 := by rw [hk] at hil; simp at hil; omega
  have := hcnt.1
  rw [e] at this
  exact this

/-- The root's row of children. -/
theorem At.row : ∀ {d : Nat} {w : World} {r : Nat} {x : Nd d} {G : List Nat}, At d w r x G → ∃ a m c, w.cell? ⟨r, 2, none⟩ = some (.slice a m c) ∧ (d = 0 ∧ m = 0 ∨ 0 < d ∧ m = x.length)
  | 0, _, _, _, _, h => by
    obtain ⟨kv, vv, cv, hn, _, _, _⟩ := (show Raw _ _ _ _ [] _ from h)
    obtain ⟨a, c, rfl⟩ := hn.c.form'
    exact ⟨a, _, c, hn.cells.cell 2, .inl ⟨rfl, rfl⟩⟩
  | d + 1, _, _, _, _, h => by
    obtain ⟨rs, F0, Fs, h1, h2, _, _⟩ := h
    obtain ⟨kv, vv, cv, hn, _, _, _⟩ := h1
    obtain ⟨a, c, rfl⟩ := hn.c.form'
    exact ⟨a, _, c, hn.cells.cell 2, .inr ⟨by omega, h2.lenR.trans (subs_length _)⟩⟩

set_option maxHeartbeats 1000000 in
set_option maxRecDepth 100000 in
theorem tcut (w : World) (t : Nat) (l : Nd 0) (F : List Nat) (k : Key) (h : TreeAt w t l F) (hl : l.length ≤ 100000) :
    Calls Tryz.prog 28 #[ptr t, .string k] w (TCut w t l F k) := by
  obtain ⟨d, r, x, G, hc, hat, hF, htG, hg, hfl⟩ := h
  obtain ⟨n, hn⟩ : ∃ n, l.length = n := ⟨_, rfl⟩
  rw [hn] at hc hl
  have c0 : w.cell? ⟨t, 0, none⟩ = some (.pointer (some ⟨r, 0, none⟩)) := hc.cell 0
  have hfp := flat_cut d x k hg.fit hg.nonempty hg.ks
  rw [hfl] at hfp
  have HP := Lib.hid (cut_any d w r x G k hat (cutAble_of_fit d x hg.fit hg.nonempty (by have := hg.four; omega) hg.ks))
  have HT := Lib.hid (And.intro hc (And.intro hF (And.intro htG (And.intro hg (And.intro hfl (And.intro hfp (And.intro hn hl)))))))
  have u1 : IntKind.i64.wrap ((n : Int) - 1) = (n : Int) - 1 := IntWalk.i64_in _ (by omega)
  clear hc hat hF htG hg hfl hfp hn hl
  unfold ptr at HP ⊢
  go_enter Tryz.func28, Tryz.ntmps28
  go_wp2_with fail
  refine HP.out.mono ?_
  rintro e w1 ⟨G', rfl, hat1, ho1, hf1⟩
  have hct1 : cellsAt w1 t [ptr r, .int .i64 n] := HT.out.1.only ho1 HT.out.2.2.1
  have htG' : t ∉ G' := fun hb => by
    rcases hf1 t hb with h | h
    · exact HT.out.2.2.1 h
    · have := HT.out.1.lt; omega
  have c1 : w1.cell? ⟨t, 0, none⟩ = some (.pointer (some ⟨r, 0, none⟩)) := hct1.cell 0
  have c2 : w1.cell? ⟨t, 1, none⟩ = some (.int .i64 n) := hct1.cell 1
  have c3 : w1.frozen? ⟨t, 0, none⟩ = false := hct1.free 0
  have c4 : w1.frozen? ⟨t, 1, none⟩ = false := hct1.free 1
  obtain ⟨ca, m, cc, r0, hm⟩ := hat1.row
  have hO : Only (fun b => b ∈ F) w w1 := ho1.mono fun b hb => by rw [HT.out.2.1]; simp [hb]
  have htF : t ∈ F := by rw [HT.out.2.1]; simp
  have hS : ∀ b ∈ t :: G', b ∈ F ∨ w.heap.size ≤ b := fun b hb => by
    rw [HT.out.2.1]
    rcases List.mem_cons.1 hb with rfl | hb
    · exact .inl (by simp)
    · exact (hf1 b hb).imp (fun h => by simp [h]) id
  have hcl := cutM_length d x k HT.out.2.2.2.1.nonempty
  rw [HT.out.2.2.2.2.2.1.2]
  by_cases hm1 : m = 1
  · obtain ⟨d, rfl⟩ : ∃ d', d = d' + 1 := ⟨d - 1, by omega⟩
    have hx1 : (cutM (d + 1) x k).length = 1 := by omega
    have hfit := fit_cut (d + 1) x k HT.out.2.2.2.1.fit HT.out.2.2.2.1.two
    have hdown := good_down hfit hx1 (by rw [HT.out.2.2.2.2.2.1.1]; exact KS_del (HT.out.2.2.2.2.1 ▸ HT.out.2.2.2.1.ks) k)
    rw [HT.out.2.2.2.2.2.1.1] at hdown
    obtain ⟨rs, F0, Fs, hin, hG'⟩ := hat1.inr
    have hsp := subs_split (cutM (d + 1) x k) 0 (by omega)
    obtain ⟨ra, q, rb, Fa, f, Fb, hrs, hFs, hra, _, hq, _, hrq⟩ := hin.focus 0 hsp (subs_length_take _ 0 (by omega))
    obtain ⟨g2, o2, p2, k0, k1⟩ := hin.raw.kids (by rw [hrs]; simp only [List.length_append, List.length_cons]; omega)
    have k2 : w1.cell? ⟨g2, o2, none⟩ = some (.pointer (some ⟨q, 0, none⟩)) := k1 0 q hrq
    rw [k0] at r0
    have hrl : rs.length = 1 := by have := hin.kids.lenR; rw [subs_length] at this; omega
    rw [hrl] at k0
    have hfG : ∀ b ∈ f, b ∈ G' := fun b hb => by
      rw [hG', hFs]
      simp [hb]
    have hct2 := hct1.setCell 0 (ptr q)
    have hat2 : At d (w1.setCell ⟨t, 0, none⟩ (ptr q)) q (sub (cutM (d + 1) x k) 0) f := hq.only (setCell_only w1 ⟨t, 0, none⟩ _) fun b hb e => by
      have e' : b = t := e
      exact htG' (e' ▸ hfG b hb)
    have hfin := tcut_fin hct2 hat2 (fun hb => htG' (hfG t hb)) hdown.1 hdown.2 HT.out.2.2.2.2.2.2.1 (hO.setCell (p := ⟨t, 0, none⟩) (.inl htF) _) (fun b hb => by
      rcases List.mem_cons.1 hb with rfl | hb
      · exact hS _ (by simp)
      · exact hS b (by simp [hfG b hb])) htF
    have HFIN := Lib.hid hfin
    clear hct1 htG' hat1 ho1 hf1 hm hO htF hS hcl hx1 hfit hdown hin hG' hsp hrs hFs hra hq hrq k1 hrl hfG hct2 hat2 hfin r0 c0
    unfold ptr at HFIN
    cases hk : hasK (keys l) k with
    | true =>
      have FF := Lib.hid (HFIN.out.2 hk)
      clear hk
      go_wp2_with fail
      go_ret
      exact FF.out
    | false =>
      have FF := Lib.hid (HFIN.out.1 hk)
      clear hk
      go_wp2_with fail
      go_ret
      exact FF.out
  · have hm1' : ((m : Int) == 1) = false := by rw [beq_eq_false_iff_ne]; omega
    have hm1'' : (m == 1) = false := by rw [beq_eq_false_iff_ne]; omega
    have hgood := good_cut HT.out.2.2.2.1 k (by
      have := HT.out.2.2.2.1.two
      omega)
    have hfin := tcut_fin hct1 hat1 htG' hgood HT.out.2.2.2.2.2.1.1 HT.out.2.2.2.2.2.2.1 hO hS htF
    have HFIN := Lib.hid hfin
    clear hct1 htG' hat1 ho1 hf1 hm hO htF hS hcl hgood hfin c0
    cases hk : hasK (keys l) k with
    | true =>
      have FF := Lib.hid (HFIN.out.2 hk)
      clear hk
      go_wp2_with fail
      go_ret
      exact FF.out
    | false =>
      have FF := Lib.hid (HFIN.out.1 hk)
      clear hk
      go_wp2_with fail
      go_ret
      exact FF.out
end Go.Proofs.YtedfijmaeoednaaGreatDoor

namespace Go.Proofs.YtedfijmaeoednaaGreatDoor.Ke
open Go.RowKit Go.Wh

abbrev Rid := Int × Int × Key

def rcells (l : List Rid) : List Value := l.flatMap fun r => [.int .i64 r.1, .int .i64 r.2.1, .string r.2.2]
theorem rcells_one (l : List Rid) : ∀ u ∈ rcells l, u.oneCell' = true := by
  intro u hu
  simp only [rcells, List.mem_flatMap] at hu
  obtain ⟨a, _, hu⟩ := hu
  simp at hu
  rcases hu with rfl | rfl | rfl <;> rfl
theorem rcells_length (l : List Rid) : (rcells l).length = l.length * 3 := by
  induction l with
  | nil => rfl
  | cons a l ih =>
    have : rcells (a :: l) = [.int .i64 a.1, .int .i64 a.2.1, .string a.2.2] ++ rcells l := rfl
    rw [this]
    simp [ih]
    omega
theorem rcells_append (a b : List Rid) : rcells (a ++ b) = rcells a ++ rcells b := List.flatMap_append
theorem rcells_cons (a : Rid) (l : List Rid) : rcells (a :: l) = .int .i64 a.1 :: .int .i64 a.2.1 :: .string a.2.2 :: rcells l := rfl
theorem rcells_take (l : List Rid) (n : Nat) : (rcells l).take (n * 3) = rcells (l.take n) := by
  induction l generalizing n with
  | nil => simp [rcells]
  | cons a l ih =>
    cases n with
    | zero => simp [rcells]
    | succ n =>
      rw [rcells_cons, List.take_succ_cons, rcells_cons, ← ih, show (n + 1) * 3 = n * 3 + 1 + 1 + 1 by omega]
      rfl
theorem rcells_drop (l : List Rid) (n : Nat) : (rcells l).drop (n * 3) = rcells (l.drop n) := by
  induction l generalizing n with
  | nil => simp [rcells]
  | cons a l ih =>
    cases n with
    | zero => simp
    | succ n =>
      rw [rcells_cons, List.drop_succ_cons, ← ih, show (n + 1) * 3 = n * 3 + 1 + 1 + 1 by omega]
      rfl
theorem rcells_get (l : List Rid) (i : Nat) (r : Rid) (h : l[i]? = some r) : (rcells l)[i * 3]? = some (.int .i64 r.1) ∧ (rcells l)[i * 3 + 1]? = some (.int .i64 r.2.1) ∧ (rcells l)[i * 3 + 2]? = some (.string r.2.2) := by
  induction l generalizing i with
  | nil => simp at h
  | cons a l ih =>
    cases i with
    | zero =>
      simp at h
      subst h
      simp [rcells_cons]
    | succ i =>
      simp at h
      have := ih i h
      rw [rcells_cons, show (i + 1) * 3 = i * 3 + 1 + 1 + 1 by omega]
      simpa using this
theorem rcells_set (l : List Rid) (i : Nat) (r : Rid) (h : i < l.length) : (((rcells l).set (i * 3) (.int .i64 r.1)).set (i * 3 + 1) (.int .i64 r.2.1)).set (i * 3 + 2) (.string r.2.2) = rcells (l.set i r) := by
  induction l generalizing i with
  | nil => simp at h
  | cons a l ih =>
    cases i with
    | zero => simp [rcells_cons]
    | succ i =>
      simp at h
      rw [rcells_cons, show (i + 1) * 3 = i * 3 + 1 + 1 + 1 by omega]
      simp only [List.set_cons_succ, rcells_cons]
      rw [ih i h]
end Go.Proofs.YtedfijmaeoednaaGreatDoor.Ke

namespace Go.Proofs.YtedfijmaeoednaaGreatDoor.Ke
open Go.RowKit Go.Wh

structure NodeAt (w : World) (r : Nat) (kv vv cv : Value) (ks : List Key) (vs : List Rid) (cs : List Nat) : Prop where
  cells : cellsAt w r [kv, vv, cv]
  k : Vec w 1 kv ks.length (kcells ks)
  v : Vec w 3 vv vs.length (rcells vs)
  c : Vec w 1 cv cs.length (pcells cs)

/-- A node, with its blocks. -/
def Raw (w : World) (r : Nat) (ks : List Key) (vs : List Rid) (cs : List Nat) (F : List Nat) : Prop :=
  ∃ kv vv cv, NodeAt w r kv vv cv ks vs cs ∧ F = foot r kv vv cv ∧ F.Nodup ∧ ∀ b ∈ F, b < w.heap.size

section
variable {w w' : World} {r : Nat} {kv vv cv : Value} {ks : List Key} {vs : List Rid} {cs : List Nat} {F : List Nat} {S : Nat → Prop}

theorem NodeAt.only (h : NodeAt w r kv vv cv ks vs cs) (ho : Only S w w') (hs : ∀ b ∈ foot r kv vv cv, ¬ S b) : NodeAt w' r kv vv cv ks vs cs :=
  ⟨h.cells.only ho (hs r (mem_foot.2 (.inl rfl))), h.k.only ho fun g hg => hs g (mem_foot.2 (.inr (.inl hg))), h.v.only ho fun g hg => hs g (mem_foot.2 (.inr (.inr (.inl hg)))), h.c.only ho fun g hg => hs g (mem_foot.2 (.inr (.inr (.inr hg))))⟩

theorem Raw.only (h : Raw w r ks vs cs F) (ho : Only S w w') (hs : ∀ b ∈ F, ¬ S b) : Raw w' r ks vs cs F := by
  obtain ⟨kv, vv, cv, hn, rfl, hd, hl⟩ := h
  exact ⟨kv, vv, cv, hn.only ho hs, rfl, hd, fun b hb => Nat.lt_of_lt_of_le (hl b hb) ho.size⟩

theorem Raw.still (h : Raw w r ks vs cs F) (ho : Still w w') : Raw w' r ks vs cs F := h.only ho fun _ _ e => e
theorem Raw.lt (h : Raw w r ks vs cs F) : ∀ b ∈ F, b < w.heap.size := by
  obtain ⟨_, _, _, _, _, _, hl⟩ := h
  exact hl
theorem Raw.nodup (h : Raw w r ks vs cs F) : F.Nodup := by
  obtain ⟨_, _, _, _, _, hd, _⟩ := h
  exact hd
theorem Raw.self (h : Raw w r ks vs cs F) : r ∈ F := by
  obtain ⟨_, _, _, _, rfl, _, _⟩ := h
  simp [foot]

theorem NodeAt.setK {u : Value} {ks' : List Key} (h : NodeAt w r kv vv cv ks vs cs) (ha : Apt r kv vv cv) (hu : Vec w 1 u ks'.length (kcells ks')) (hur : u.ownBlock ≠ some r) : NodeAt (w.setCell ⟨r, 0, none⟩ u) r u vv cv ks' vs cs :=
  ⟨h.cells.setCell 0 u, vec_set hu hur u, vec_set h.v (fun e => ha.rv r e rfl) u, vec_set h.c (fun e => ha.rc r e rfl) u⟩
theorem NodeAt.setV {u : Value} {vs' : List Rid} (h : NodeAt w r kv vv cv ks vs cs) (ha : Apt r kv vv cv) (hu : Vec w 3 u vs'.length (rcells vs')) (hur : u.ownBlock ≠ some r) : NodeAt (w.setCell ⟨r, 1, none⟩ u) r kv u cv ks vs' cs :=
  ⟨h.cells.setCell 1 u, vec_set h.k (fun e => ha.rk r e rfl) u, vec_set hu hur u, vec_set h.c (fun e => ha.rc r e rfl) u⟩
theorem NodeAt.setC {u : Value} {cs' : List Nat} (h : NodeAt w r kv vv cv ks vs cs) (ha : Apt r kv vv cv) (hu : Vec w 1 u cs'.length (pcells cs')) (hur : u.ownBlock ≠ some r) : NodeAt (w.setCell ⟨r, 2, none⟩ u) r kv vv u ks vs cs' :=
  ⟨h.cells.setCell 2 u, vec_set h.k (fun e => ha.rk r e rfl) u, vec_set h.v (fun e => ha.rv r e rfl) u, vec_set hu hur u⟩
theorem NodeAt.setOther (h : NodeAt w r kv vv cv ks vs cs) {p : Addr} (hp : p.block ∉ foot r kv vv cv) (u : Value) : NodeAt (w.setCell p u) r kv vv cv ks vs cs :=
  h.only (setCell_only w p u) fun _ hb e => hp (e ▸ hb)
theorem NodeAt.alloc (h : NodeAt w r kv vv cv ks vs cs) (ob : Obj) : NodeAt (w.alloc ob) r kv vv cv ks vs cs := ⟨h.cells.alloc ob, h.k.alloc ob, h.v.alloc ob, h.c.alloc ob⟩
/-- A new node. -/
theorem NodeAt.new {kv : Value} (t : TypeId) (h : Vec w 1 kv ks.length (kcells ks)) : NodeAt (w.alloc (.cells #[kv, .slice none 0 0, .slice none 0 0] t)) w.heap.size kv (.slice none 0 0) (.slice none 0 0) ks [] [] :=
  ⟨cellsAt_new w [kv, .slice none 0 0, .slice none 0 0] t, h.alloc _, Vec.nil _ _, Vec.nil _ _⟩
theorem Raw.of (h : NodeAt w r kv vv cv ks vs cs) (ha : Apt r kv vv cv) (hl : ∀ b ∈ foot r kv vv cv, b < w.heap.size) : Raw w r ks vs cs (foot r kv vv cv) := ⟨kv, vv, cv, h, rfl, foot_nodup.2 ha, hl⟩
end
end Go.Proofs.YtedfijmaeoednaaGreatDoor.Ke

namespace Go.Proofs.YtedfijmaeoednaaGreatDoor.Ke
open Go.RowKit Go.Wh

/-- What stands by a key at a level: a place in a leaf, a node above. -/
def E : Nat → Type
  | 0 => Rid
  | d + 1 => List (Key × E d)

/-- A node of level d. -/
abbrev Nd (d : Nat) := List (Key × E d)

/-- The places of a leaf; the children of a node above. -/
def vals (l : Nd 0) : List Rid := l.map fun x => x.2
def subs {d : Nat} (l : Nd (d + 1)) : List (Nd d) := l.map fun x => x.2
theorem vals_length (l : Nd 0) : (vals l).length = l.length := List.length_map _
theorem vals_take (l : Nd 0) (m : Nat) : (vals l).take m = vals (l.take m) := (List.map_take ..).symm
theorem vals_drop (l : Nd 0) (m : Nat) : (vals l).drop m = vals (l.drop m) := (List.map_drop ..).symm
theorem vals_append (a b : Nd 0) : vals (a ++ b) = vals a ++ vals b := List.map_append
theorem subs_length {d : Nat} (l : Nd (d + 1)) : (subs l).length = l.length := List.length_map _
theorem subs_append {d : Nat} (a b : Nd (d + 1)) : subs (a ++ b) = subs a ++ subs b := List.map_append
theorem subs_cons {d : Nat} (k : Key) (c : Nd d) (l : Nd (d + 1)) : subs ((k, c) :: l) = c :: subs l := rfl
def keys {d : Nat} (l : Nd d) : List Key := l.map fun x => x.1
theorem keys_length {d : Nat} (l : Nd d) : (keys l).length = l.length := List.length_map _
theorem keys_append {d : Nat} (a b : Nd d) : keys (a ++ b) = keys a ++ keys b := List.map_append
theorem keys_take {d : Nat} (l : Nd d) (m : Nat) : (keys l).take m = keys (l.take m) := (List.map_take ..).symm
theorem keys_drop {d : Nat} (l : Nd d) (m : Nat) : (keys l).drop m = keys (l.drop m) := (List.map_drop ..).symm

section
variable {α : Type} {R R' : Nat → α → List Nat → Prop}

end

/-- A node of level d with all below it. -/
def At : (d : Nat) → World → Nat → Nd d → List Nat → Prop
  | 0, w, r, l, F => Raw w r (keys l) (vals l) [] F
  | d + 1, w, r, l, F => ∃ rs F0 Fs, Raw w r (keys l) [] rs F0 ∧ Sons (At d w) rs (subs l) Fs ∧ F = F0 ++ Fs.flatten ∧ F.Nodup

theorem At.lt : ∀ {d : Nat} {w : World} {r : Nat} {l : Nd d} {F : List Nat}, At d w r l F → ∀ b ∈ F, b < w.heap.size
  | 0, _, _, _, _, h => Raw.lt h
  | d + 1, w, _, _, _, ⟨_, _, _, h1, h2, h3, _⟩ => by
    intro b hb
    subst h3
    rcases List.mem_append.1 hb with hb | hb
    · exact h1.lt b hb
    · obtain ⟨f, hf, hbf⟩ := List.mem_flatten.1 hb
      exact h2.all (P := fun f => ∀ b ∈ f, b < w.heap.size) (fun _ _ _ h => At.lt h) f hf b hbf

theorem At.nodup : ∀ {d : Nat} {w : World} {r : Nat} {l : Nd d} {F : List Nat}, At d w r l F → F.Nodup
  | 0, _, _, _, _, h => Raw.nodup h
  | _ + 1, _, _, _, _, ⟨_, _, _, _, _, _, h⟩ => h

theorem At.only : ∀ {d : Nat} {w w' : World} {r : Nat} {l : Nd d} {F : List Nat} {S : Nat → Prop}, At d w r l F → Only S w w' → (∀ b ∈ F, ¬ S b) → At d w' r l F
  | 0, _, _, _, _, _, _, h, ho, hs => Raw.only h ho hs
  | _ + 1, _, _, _, _, _, _, ⟨rs, F0, Fs, h1, h2, h3, h4⟩, ho, hs => by
    subst h3
    exact ⟨rs, F0, Fs, h1.only ho fun b hb => hs b (by simp [hb]), h2.imp fun r a f hf h => At.only h ho fun b hb => hs b (List.mem_append_right _ (List.mem_flatten.2 ⟨f, hf, hb⟩)), rfl, h4⟩

theorem At.self : ∀ {d : Nat} {w : World} {r : Nat} {l : Nd d} {F : List Nat}, At d w r l F → r ∈ F
  | 0, _, _, _, _, h => Raw.self h
  | _ + 1, _, _, _, _, ⟨_, _, _, h1, _, h3, _⟩ => by
    subst h3
    simp [h1.self]

/-- The node alone. -/
theorem At.raw : ∀ {d : Nat} {w : World} {r : Nat} {l : Nd d} {F : List Nat}, At d w r l F → ∃ vs cs F0, Raw w r (keys l) vs cs F0 ∧ max cs.length vs.length = l.length ∧ (cs = [] ∨ vs = []) ∧ ∀ b ∈ F0, b ∈ F
  | 0, _, _, l, F, h => ⟨_, _, F, h, (Nat.zero_max _).trans (vals_length _), .inl rfl, fun _ h => h⟩
  | _ + 1, _, _, _, _, ⟨rs, F0, Fs, h1, h2, h3, _⟩ => ⟨_, _, F0, h1, (Nat.max_zero _).trans (h2.lenR.trans (subs_length _)), .inr rfl, fun b hb => by rw [h3]; simp [hb]⟩

/-- A node of children, in the making: what its own pointers are, and which children there are. -/
structure Inr (d : Nat) (w : World) (r : Nat) (ks : List Key) (qs rs : List Nat) (cs : List (Nd d)) (F0 : List Nat) (Fs : List (List Nat)) : Prop where
  raw : Raw w r ks [] qs F0
  kids : Sons (At d w) rs cs Fs
  nd : (F0 ++ Fs.flatten).Nodup

theorem At.inr {d : Nat} {w : World} {r : Nat} {l : Nd (d + 1)} {F : List Nat} (h : At (d + 1) w r l F) : ∃ rs F0 Fs, Inr d w r (keys l) rs rs (subs l) F0 Fs ∧ F = F0 ++ Fs.flatten := by
  obtain ⟨rs, F0, Fs, h1, h2, h3, h4⟩ := h
  exact ⟨rs, F0, Fs, ⟨h1, h2, h3 ▸ h4⟩, h3⟩
theorem Inr.at {d : Nat} {w : World} {r : Nat} {l : Nd (d + 1)} {rs F0 : List Nat} {Fs : List (List Nat)} (h : Inr d w r (keys l) rs rs (subs l) F0 Fs) : At (d + 1) w r l (F0 ++ Fs.flatten) :=
  ⟨rs, F0, Fs, h.raw, h.kids, rfl, h.nd⟩

theorem Inr.lt {d : Nat} {w : World} {r : Nat} {ks : List Key} {qs rs : List Nat} {cs : List (Nd d)} {F0 : List Nat} {Fs : List (List Nat)} (h : Inr d w r ks qs rs cs F0 Fs) : ∀ b ∈ F0 ++ Fs.flatten, b < w.heap.size := by
  intro b hb
  rcases List.mem_append.1 hb with hb | hb
  · exact h.raw.lt b hb
  · obtain ⟨f, hf, hbf⟩ := List.mem_flatten.1 hb
    exact h.kids.all (P := fun f => ∀ b ∈ f, b < w.heap.size) (fun _ _ _ h => At.lt h) f hf b hbf

/-- The node's own row turns. -/
theorem Inr.rawTurn {d : Nat} {w w' : World} {r : Nat} {ks ks' : List Key} {qs qs' rs : List Nat} {cs : List (Nd d)} {F0 F0' : List Nat} {Fs : List (List Nat)} (h : Inr d w r ks qs rs cs F0 Fs)
    (hr : Raw w' r ks' [] qs' F0') (ho : Only (fun b => b ∈ F0) w w') (ht : ∀ b ∈ F0', b ∈ F0 ∨ w.heap.size ≤ b) : Inr d w' r ks' qs' rs cs F0' Fs := by
  refine ⟨hr, h.kids.imp fun r a f hf h' => h'.only ho fun b hb hb0 => ?_, ?_⟩
  · exact (List.nodup_append.1 h.nd).2.2 b hb0 b (List.mem_flatten.2 ⟨f, hf, hb⟩) rfl
  · have := nodup_turn (A := []) (M := F0) (M' := F0') (B := Fs.flatten) (N := w.heap.size) (by simpa using h.nd) hr.nodup (fun b hb => h.lt b (by simp at hb; simp [hb])) ht
    simpa using this

/-- Some of the children turn. -/
theorem Inr.turn {d : Nat} {w w' : World} {r : Nat} {ks : List Key} {qs ra rm rb rm' : List Nat} {A M B M' : List (Nd d)} {F0 : List Nat} {Fa Fm Fb Fm' : List (List Nat)} (h : Inr d w r ks qs (ra ++ (rm ++ rb)) (A ++ (M ++ B)) F0 (Fa ++ (Fm ++ Fb)))
    (la : Sons (At d w) ra A Fa) (lb : Sons (At d w) rb B Fb) (hm : Sons (At d w') rm' M' Fm') (hn : Fm'.flatten.Nodup) (ho : Only (fun b => b ∈ Fm.flatten) w w') (ht : ∀ b ∈ Fm'.flatten, b ∈ Fm.flatten ∨ w.heap.size ≤ b) :
    Inr d w' r ks qs (ra ++ (rm' ++ rb)) (A ++ (M' ++ B)) F0 (Fa ++ (Fm' ++ Fb)) := by
  have hnd := h.nd
  have hlt := h.lt
  simp only [List.flatten_append] at hnd hlt
  have h1 := List.nodup_append.1 hnd
  have h2 := List.nodup_append.1 h1.2.1
  have h3 := List.nodup_append.1 h2.2.1
  refine ⟨h.raw.only ho fun b hb hm => h1.2.2 b hb b (by simp [List.mem_flatten.1 hm]) rfl, (la.imp fun r a f hf h' => h'.only ho fun b hb hm => ?_).append (hm.append (lb.imp fun r a f hf h' => h'.only ho fun b hb hm => ?_)), ?_⟩
  · exact h2.2.2 b (List.mem_flatten.2 ⟨f, hf, hb⟩) b (List.mem_append_left _ hm) rfl
  · exact h3.2.2 b hm b (List.mem_flatten.2 ⟨f, hf, hb⟩) rfl
  · simp only [List.flatten_append]
    rw [← List.append_assoc]
    refine nodup_turn (M := Fm.flatten) (N := w.heap.size) (by rw [List.append_assoc]; exact hnd) hn (fun b hb => hlt b ?_) ht
    simp only [List.mem_append] at hb ⊢
    rcases hb with (h | h) | h
    · exact .inl h
    · exact .inr (.inl h)
    · exact .inr (.inr (.inr h))
end Go.Proofs.YtedfijmaeoednaaGreatDoor.Ke

namespace Go.Proofs.YtedfijmaeoednaaGreatDoor.Ke
open Go.RowKit Go.Wh

set_option maxHeartbeats 400000 in
theorem size_any (w : World) (r : Nat) (ks : List Key) (vs : List Rid) (cs : List Nat) (F : List Nat) (h : Raw w r ks vs cs F) :
    Calls Tryz.prog 70 #[ptr r] w fun e w' => e = .returned (.int .i64 ((max cs.length vs.length : Nat))) ∧ Still w w' := by
  obtain ⟨kv, vv, cv, hn, _, _, _⟩ := h
  obtain ⟨a1, k1, rfl⟩ := hn.v.form'
  obtain ⟨a2, k2, rfl⟩ := hn.c.form'
  have c1 : w.cell? ⟨r, 1, none⟩ = _ := hn.cells.cell 1
  have c2 : w.cell? ⟨r, 2, none⟩ = _ := hn.cells.cell 2
  simp only [List.getElem?_cons_succ, List.getElem?_cons_zero] at c1 c2
  generalize vs.length = n at *
  generalize cs.length = m at *
  clear hn
  unfold ptr
  go_enter Tryz.func70, Tryz.ntmps70
  go_wp2_with fail
  go_region
  go_wp2_with fail
  go_ret
  exact ⟨by rw [show ((max m n : Nat) : Int) = max (m : Int) (n : Int) by omega]; rfl, still_drewN w 1⟩

set_option maxHeartbeats 1000000 in
set_option maxRecDepth 100000 in
theorem child_any (w : World) (r : Nat) (ks : List Key) (vs : List Rid) (cs : List Nat) (F : List Nat) (k : Key) (h : Raw w r ks vs cs F) (hkc : ks.length = cs.length) (hne : 0 < cs.length) (h2 : cs.length ≤ 10000) :
    Calls Tryz.prog 49 #[ptr r, .string k] w fun e w' => e = .returned (.int .i64 (childI ks k)) ∧ w' = w := by
  obtain ⟨kv, vv, cv, hn, _, _, _⟩ := h
  obtain ⟨g, o, cap, rfl, hv⟩ := hn.k.form (by omega)
  obtain ⟨a2, k2, rfl⟩ := hn.c.form'
  have c0 : w.cell? ⟨r, 0, none⟩ = _ := hn.cells.cell 0
  have c2 : w.cell? ⟨r, 2, none⟩ = _ := hn.cells.cell 2
  simp only [List.getElem?_cons_succ, List.getElem?_cons_zero] at c0 c2
  rw [hkc] at c0
  have HC := Lib.hid (fun (j : Nat) (hj : j < ks.length) => show ∃ a, ks[j]? = some a ∧ w.cell? ⟨g, o + j, none⟩ = some (.string a) from
    ⟨_, List.getElem?_eq_getElem hj, by rw [hv.cells j (by omega)]; exact kcells_get (List.getElem?_eq_getElem hj)⟩)
  have hlt := childI_lt (ks := ks) (fun e => by rw [e] at hkc; simp at hkc; omega) k
  obtain ⟨p, hp⟩ : ∃ p, childI ks k = p := ⟨_, rfl⟩
  have hat := fun (i : Nat) (a : Key) => childI_at (ks := ks) (k := k) (a := a) (i := i)
  rw [hp] at hlt ⊢
  simp only [hp] at hat
  have HA := Lib.hid hat
  have HKC := Lib.hid hkc
  rw [hkc] at hlt
  generalize cs.length = n at *
  clear hn hv hat hp hkc
  unfold ptr
  go_enter Tryz.func49, Tryz.ntmps49
  go_wp2_with fail
  go_loopw [5] (fun s wr => ∃ i : Nat, s = .int .i64 i ∧ i ≤ p ∧ wr = w) (fun s _ => p - (intOf s).toNat)
  case atStart => exact ⟨0, rfl, Nat.zero_le _, rfl⟩
  case round =>
    obtain ⟨i, rfl, hip, rfl⟩ := hrel
    by_cases hin : i + 1 < n
    · obtain ⟨a, ha, hcell⟩ := HC.out (i + 1) (by rw [HKC.out]; exact hin)
      have hA := HA.out i a hip ha
      have t1 : decide ((i : Int) + 1 < (n : Int)) = true := by simp; omega
      have t2 := leq_bl a k
      have b1 : ((i : Int) + 1).toNat = i + 1 := by omega
      have b2 : (0 : Int) ≤ (i : Int) + 1 := by omega
      have b3 : (i : Int) + 1 < (n : Int) := by omega
      clear ha
      cases hb : bl k a with
      | false =>
        have hlt' := hA.1 hb
        rw [hb] at t2
        clear hb hA
        go_wp2_with fail
        go_roundw
        case rel => exact ⟨i + 1, by go_num, by omega, trivial⟩
        case measure => simp [intOf]; omega
      | true =>
        have hge : i = p := by
          rcases Nat.lt_or_ge i p with h1 | h1
          · rw [hA.2 h1] at hb; cases hb
          · omega
        rw [hb] at t2
        clear hb hA
        subst hge
        go_wp2_with fail
        go_ret
        exact ⟨rfl, rfl⟩
    · have hge : i = p := by omega
      subst hge
      have t1 : decide ((i : Int) + 1 < (n : Int)) = false := by simp; omega
      go_wp2_with fail
      go_ret
      exact ⟨rfl, rfl⟩
end Go.Proofs.YtedfijmaeoednaaGreatDoor.Ke

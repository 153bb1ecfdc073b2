/- A key is put into a node of children. Conditions: a tree in memory. -/
import Derived.Test.YtjmkfppnimengaaTreeH
namespace Go.Proofs.Ytjmkfppnimengaa
open Go.RowKit Go.Wh

/-- Keys and children turn, one behind the other, and are stored. -/
theorem two_turnedC {w W w0 w1 w2 w3 : World} {r n m : Nat} {kv vv cv v1 v2 : Value} {ks ks' : List Key} {vs : List Rid} {cs cs' F : List Nat} (hn : NodeAt W r kv vv cv ks vs cs) (hF : F = foot r kv vv cv ∧ F.Nodup ∧ ∀ b ∈ F, b < w.heap.size) (hw : Still w W)
    (T1 : Turn W (fun _ => False) 1 n kv (kcells ks') v1 w0 w1) (T2 : Turn W (fun b => False ∨ kv.ownBlock = some b) 1 m cv (pcells cs') v2 w2 w3) (hs : Still w1 w2) (hn1 : n = ks'.length) (hm : m = cs'.length) (b : Value) :
    RawPost w r ks' vs cs' F b (.returned b) ((w3.setCell ⟨r, 0, none⟩ v1).setCell ⟨r, 2, none⟩ v2) := by
  subst hn1 hm
  have hF' : F = foot r kv vv cv ∧ F.Nodup ∧ ∀ b ∈ F, b < W.heap.size := ⟨hF.1, hF.2.1, fun b hb => Nat.lt_of_lt_of_le (hF.2.2 b hb) hw.size⟩
  have hA := foot_nodup.1 (hF.1 ▸ hF.2.1)
  have hr : r < W.heap.size := hF'.2.2 r (hF.1 ▸ mem_foot.2 (.inl rfl))
  have lk := fun b h => hF'.2.2 b (hF.1 ▸ mem_foot.2 (.inr (.inl h)))
  have lv := fun b h => hF'.2.2 b (hF.1 ▸ mem_foot.2 (.inr (.inr (.inl h))))
  have lc := fun b h => hF'.2.2 b (hF.1 ▸ mem_foot.2 (.inr (.inr (.inr h))))
  have hsz : w1.heap.size ≤ w3.heap.size := Nat.le_trans hs.size T2.step.size
  have n1 := T1.nw (M := w3.heap.size) hsz
  have n2 := T2.nw (M := w3.heap.size) (Nat.le_refl _)
  have o1 : v1.ownBlock ≠ some r := fun e => by
    rcases n1.cases e with h | h
    · exact hA.rk r h rfl
    · omega
  have o2 : v2.ownBlock ≠ some r := fun e => by
    rcases n2.cases e with h | h
    · exact hA.rc r h rfl
    · omega
  have hv1 : Vec w3 1 v1 ks'.length (kcells ks') := (T1.vec.only hs fun _ _ e => e).only T2.step fun g hg e => by
    rcases n1.cases hg with h | h
    · exact hA.akc g h e
    · have := lc g e; omega
  have hcell : cellsAt w3 r [kv, vv, cv] := hn.cells.only T2.only fun e => by
    rcases e with (e | e) | e
    · exact e
    · exact hA.rk r e rfl
    · exact hA.rc r e rfl
  have hcv : Vec w3 2 vv vs.length (rcells vs) := hn.v.only T2.only fun g hg e => by
    rcases e with (e | e) | e
    · exact e
    · exact hA.akv g e hg
    · exact hA.avc g hg e
  have hc4 : cellsAt ((w3.setCell ⟨r, 0, none⟩ v1).setCell ⟨r, 2, none⟩ v2) r [v1, vv, v2] := (hcell.setCell 0 v1).setCell 2 v2
  have ho : Only (fun b => b ∈ F) W ((w3.setCell ⟨r, 0, none⟩ v1).setCell ⟨r, 2, none⟩ v2) :=
    ((T2.only.mono fun b e => by
      rw [hF.1]
      rcases e with (e | e) | e
      · exact e.elim
      · exact mem_foot.2 (.inr (.inl e))
      · exact mem_foot.2 (.inr (.inr (.inr e)))).setCell (p := ⟨r, 0, none⟩) (.inl (hF.1 ▸ mem_foot.2 (.inl rfl))) v1).setCell (p := ⟨r, 2, none⟩) (.inl (hF.1 ▸ mem_foot.2 (.inl rfl))) v2
  have hz : ((w3.setCell ⟨r, 0, none⟩ v1).setCell ⟨r, 2, none⟩ v2).heap.size = w3.heap.size := by simp [World.setCell]
  obtain ⟨F', h1, h2⟩ := raw_turn (ks' := ks') (vs' := vs) (cs' := cs') hn hF' ho hc4 (vec_set (vec_set hv1 (p := ⟨r, 0, none⟩) o1 _) (p := ⟨r, 2, none⟩) o1 _) (vec_set (vec_set hcv (p := ⟨r, 0, none⟩) (fun e => hA.rv r e rfl) _) (p := ⟨r, 2, none⟩) (fun e => hA.rv r e rfl) _)
    (vec_set (vec_set T2.vec (p := ⟨r, 0, none⟩) o2 _) (p := ⟨r, 2, none⟩) o2 _) (hz ▸ n1) (Nw.refl _ _ _) (hz ▸ n2)
    (fun g hg _ e2 => by have := lv g e2; omega)
    (fun g hg e1 e2 => by
      rcases T2.own with h | ⟨g', h, h3, _⟩
      · have := lc g (h ▸ e2); omega
      · rw [h] at e2
        injection e2 with e2
        rcases T1.own with h4 | ⟨g2, h4, _, h5⟩
        · have := lk g (h4 ▸ e1); omega
        · rw [h4] at e1
          injection e1 with e1
          have := hs.size
          omega)
    (fun g hg e1 _ => by have := lv g e1; omega)
  exact ⟨F', rfl, h1, (hw.only (S := fun b => b ∈ F)).trans ho, fun b hb => (h2 b hb).imp id fun h => Nat.le_trans hw.size h⟩

theorem pcells_ins (cs : List Nat) (i c : Nat) : (pcells cs).take (i * 1) ++ [ptr c] ++ (pcells cs).drop (i * 1) = pcells (cs.take i ++ c :: cs.drop i) := by
  simp [pcells, List.map_take, List.map_drop]

/-- All that an insertion of a key and a child wants, laid ahead of the walk. -/
theorem ins2 {W : World} {r n kc cc j ry gy oy ny py : Nat} {ka ca : Option Addr} {vv : Value} {ks : List Key} {cs F : List Nat} {y0 : Key} (hn : NodeAt W r (.slice ka n kc) vv (.slice ca n cc) ks [] cs) (hF : F = foot r (.slice ka n kc) vv (.slice ca n cc) ∧ F.Nodup ∧ ∀ b ∈ F, b < W.heap.size)
    (hk : ks.length = n) (hc : cs.length = n) (h100 : n ≤ 1000) (hj : j ≤ n) (y1 : W.cell? ⟨ry, 0, none⟩ = some (.slice (some ⟨gy, oy, none⟩) ny py)) (y2 : W.cell? ⟨gy, oy, none⟩ = some (.string y0)) (hry : ry ∉ F) (hgy : gy ∉ F) :
    (∀ w', Only (fun _ => False) W w' → ∀ vb, cellsAt w' vb [.string y0] → W.heap.size ≤ vb → Calls Try.prog 37 #[.slice ka n kc, .int .i64 j, .slice (some ⟨vb, 0, none⟩) 1 1] w' fun e w2 =>
      ∃ a c, e = .returned (.slice a (n + 1) c) ∧ Turn W (fun _ => False) 1 (n + 1) (.slice ka n kc) (kcells (ks.take j ++ y0 :: ks.drop j)) (.slice a (n + 1) c) w' w2) ∧
    (∀ w', Only (fun b => False ∨ (Value.slice ka n kc).ownBlock = some b) W w' → ∀ vb, cellsAt w' vb [.pointer (some ⟨ry, 0, none⟩)] → W.heap.size ≤ vb → Calls Try.prog 39 #[.slice ca n cc, .int .i64 j, .slice (some ⟨vb, 0, none⟩) 1 1] w' fun e w2 =>
      ∃ a c, e = .returned (.slice a (n + 1) c) ∧ Turn W (fun b => False ∨ (Value.slice ka n kc).ownBlock = some b) 1 (n + 1) (.slice ca n cc) (pcells (cs.take j ++ ry :: cs.drop j)) (.slice a (n + 1) c) w' w2) ∧
    (∀ w', Only (fun b => (False ∨ (Value.slice ka n kc).ownBlock = some b) ∨ (Value.slice ca n cc).ownBlock = some b) W w' → w'.cell? ⟨r, 0, none⟩ = some (.slice ka n kc) ∧ w'.cell? ⟨r, 2, none⟩ = some (.slice ca n cc) ∧ w'.frozen? ⟨r, 0, none⟩ = false ∧ w'.frozen? ⟨r, 2, none⟩ = false) ∧
    (∀ w', Only (fun b => (False ∨ (Value.slice ka n kc).ownBlock = some b) ∨ (Value.slice ca n cc).ownBlock = some b) W w' → w'.cell? ⟨r, 0, none⟩ = some (.slice ka n kc) ∧ w'.cell? ⟨r, 2, none⟩ = some (.slice ca n cc) ∧ w'.cell? ⟨ry, 0, none⟩ = some (.slice (some ⟨gy, oy, none⟩) ny py) ∧ w'.cell? ⟨gy, oy, none⟩ = some (.string y0)) := by
  obtain ⟨hF1, hd, hlt⟩ := hF
  have hA := foot_nodup.1 (hF1 ▸ hd)
  have lk := fun b h => hlt b (hF1 ▸ mem_foot.2 (.inr (.inl h)))
  have lc := fun b h => hlt b (hF1 ▸ mem_foot.2 (.inr (.inr (.inr h))))
  have hr := hlt r (hF1 ▸ mem_foot.2 (.inl rfl))
  have hnot : ∀ b, b ∉ F → ¬ ((False ∨ (Value.slice ka n kc).ownBlock = some b) ∨ (Value.slice ca n cc).ownBlock = some b) := fun b hb e => by
    rcases e with (e | e) | e
    · exact e
    · exact hb (hF1 ▸ mem_foot.2 (.inr (.inl e)))
    · exact hb (hF1 ▸ mem_foot.2 (.inr (.inr (.inr e))))
  have hnr : ¬ ((False ∨ (Value.slice ka n kc).ownBlock = some r) ∨ (Value.slice ca n cc).ownBlock = some r) := fun e => by
    rcases e with (e | e) | e
    · exact e
    · exact hA.rk r e rfl
    · exact hA.rc r e rfl
  have z := fun (w' : World) (hs : Only (fun b => (False ∨ (Value.slice ka n kc).ownBlock = some b) ∨ (Value.slice ca n cc).ownBlock = some b) W w') =>
    And.intro ((hs.cell (p := ⟨r, 0, none⟩) hr hnr).trans (hn.cells.cell 0)) ((hs.cell (p := ⟨r, 2, none⟩) hr hnr).trans (hn.cells.cell 2))
  have hk' := hn.k
  have hc' := hn.c
  rw [hk] at hk'
  rw [hc] at hc'
  refine ⟨fun w' hs vb hb hg => ?_, fun w' hs vb hb hg => ?_, fun w' hs => ⟨(z w' hs).1, (z w' hs).2, (hs.frozen (p := ⟨r, 0, none⟩) hr hnr).trans (hn.cells.free 0), (hs.frozen (p := ⟨r, 2, none⟩) hr hnr).trans (hn.cells.free 2)⟩,
    fun w' hs => ⟨(z w' hs).1, (z w' hs).2, (hs.cell (p := ⟨ry, 0, none⟩) (World.block_lt_of_cell? _ _ y1) (hnot ry hry)).trans y1, (hs.cell (p := ⟨gy, oy, none⟩) (World.block_lt_of_cell? _ _ y2) (hnot gy hgy)).trans y2⟩⟩
  · refine (insert_s (.slice ka n kc) n (kcells ks) vb [.string y0] j w' (hk'.only hs fun _ _ e => e) hb rfl (kcells_one ks) (by intro u hu; simp at hu; subst hu; rfl) (fun e => by have := lk vb e; omega) hj (by omega)).mono fun e w2 h => ?_
    rw [kcells_ins] at h
    exact turn_of h hs lk
  · refine (insert_n (.slice ca n cc) n (pcells cs) vb [ptr ry] j w' (hc'.only hs fun g hg e => ?_) hb rfl (pcells_one cs) (by intro u hu; simp at hu; subst hu; rfl) (fun e => by have := lc vb e; omega) hj (by omega)).mono fun e w2 h => ?_
    · rcases e with e | e
      · exact e
      · exact hA.akc g e hg
    · rw [pcells_ins] at h
      exact turn_of h hs lc
end Go.Proofs.Ytjmkfppnimengaa

/- The disk: sync, a new one. Conditions: it lies in memory, alive, nothing to be cut; at most two thousand tiles. -/
import Derived.Test.YtojkggppcmdepaaGreatTrB
namespace Go.Proofs.YtojkggppcmdepaaGreat
open Go.RowKit Go.Wh Go.Maps

def SyPost (w : World) (d : Nat) (T : List (List Int)) (tv : Value) (mb : Nat) (vs : List Value) (e : Ending) (w' : World) : Prop :=
  e = .returned (.int .i64 0) ∧ DkAt w' d T tv mb vs ∧ Only (fun b => b = mb) w w'
set_option maxHeartbeats 1000000 in
set_option maxRecDepth 100000 in
theorem sync_any (w : World) (d : Nat) (T : List (List Int)) (tv : Value) (mb : Nat) (vs : List Value) (h : DkAt w d T tv mb vs) :
    Calls Tryz.prog 85 #[.pointer (some ⟨d, 0, none⟩)] w (SyPost w d T tv mb vs) := by
  have HCU := Lib.hid (cut_any w d T tv mb vs h)
  have H := Lib.hid h
  obtain ⟨V, hm⟩ := h.m
  have HMB := Lib.hid hm
  have c1 : w.cell? ⟨d, 1, none⟩ = some (.map (some mb)) := h.cells.cell 1
  have c2 : w.cell? ⟨d, 2, none⟩ = some (.bool false) := h.cells.cell 2
  clear h hm
  go_enter Tryz.func85, Tryz.ntmps85
  go_wp2_with fail
  refine HCU.out.mono ?_
  rintro e w1 ⟨rfl, rfl⟩
  clear HCU
  obtain ⟨w3, hrun, hk3, hg3, hs3⟩ := kmap.clear (ty := 0) HMB.out Tryz.underlying81
  have F := Lib.hid (show SyPost w1 d T tv mb vs (.returned (.int .i64 0)) w3 from ⟨rfl, H.out.map hk3 (Only.grown hg3 fun j e => (Option.some.inj e).symm), Only.grown hg3 fun j e => (Option.some.inj e).symm⟩)
  clear hk3 hg3 hs3
  go_wp2_with fail
  go_ret
  exact F.out

theorem info_bb : (Tryz.prog.info? 23).map (fun i => (i.zero, i.size, i.bytes)) = some (some (.slice none 0 0), 1, 24) := by kernel_rfl

theorem DkAt.push {w w' : World} {d mb : Nat} {T : List (List Int)} {tv tv' v : Value} {vs : List Value} {l : List Int} (h : DkAt w d T tv mb vs) (ho : Only (fun b => tv.ownBlock = some b) w w') (hv : Vec w' 1 tv' (T.length + 1) (vs ++ [v])) (hr : Reads w' 1 v 64 (bc l))
    (hvb : ∀ g, v.ownBlock = some g → w.heap.size ≤ g ∧ g < w'.heap.size) (htb : ∀ g, tv'.ownBlock = some g → (tv.ownBlock = some g ∨ w.heap.size ≤ g) ∧ g < w'.heap.size) (hne : ∀ g, v.ownBlock = some g → tv'.ownBlock ≠ some g) (h1 : v.oneCell' = true) :
    DkAt (w'.setCell ⟨d, 0, none⟩ tv') d (T ++ [l]) tv' mb (vs ++ [v]) := by
  have hs := setCell_only w' ⟨d, 0, none⟩ tv'
  have hz : (w'.setCell ⟨d, 0, none⟩ tv').heap.size = w'.heap.size := by simp [World.setCell]
  have hlt := h.lt
  have hsz := ho.size
  have hlen : vs.length = T.length := by have := h.t.len; omega
  have htd : ∀ g, tv'.ownBlock = some g → g ≠ d ∧ g ≠ mb := fun g hg => by
    rcases (htb g hg).1 with e | e
    · exact ⟨(h.td g e).1, (h.td g e).2.1⟩
    · exact ⟨by omega, by omega⟩
  refine ⟨?_, ?_, fun i l' hi => ?_, ?_, h.dm, fun g hg => ?_, fun u hu g hg => ?_, fun u hu => ?_⟩
  · exact ((h.cells.only ho fun e => (h.td d e).1 rfl).setCell 0 tv' : cellsAt _ d _)
  · rw [List.length_append]
    exact hv.only hs fun g hg e => (htd g hg).1 e
  · rcases Nat.lt_or_ge i T.length with hlt' | hge
    · rw [List.getElem?_append_left hlt'] at hi
      obtain ⟨u, hu, hr'⟩ := h.ins i l' hi
      have hui := h.ia u (List.mem_of_getElem? hu)
      refine ⟨u, by rw [List.getElem?_append_left (by omega)]; exact hu, Reads.only (Reads.only hr' ho fun g hg e => (hui g hg).2.2.1 e) hs fun g hg e => (hui g hg).1 e⟩
    · have hi' : i = T.length := by
        have := (List.getElem?_eq_some_iff.1 hi).1
        rw [List.length_append, List.length_singleton] at this
        omega
      subst hi'
      rw [List.getElem?_concat_length] at hi
      cases hi
      refine ⟨v, by rw [← hlen, List.getElem?_concat_length], Reads.only hr hs fun g hg e => ?_⟩
      have := hvb g hg
      have e' : g = d := e
      omega
  · obtain ⟨V, hm⟩ := h.m
    exact ⟨V, (hm.block (ho.block mb hm.lt fun e => (h.td mb e).2.1 rfl)).block (hs.block mb (by omega) fun e => h.dm (show mb = d from e).symm)⟩
  · have := htb g hg
    rw [hz]
    exact ⟨(htd g hg).1, (htd g hg).2, this.2⟩
  · rw [hz]
    rcases List.mem_append.1 hu with hu | hu
    · have hui := h.ia u hu g hg
      refine ⟨hui.1, hui.2.1, fun e => ?_, by omega⟩
      rcases (htb g e).1 with e' | e'
      · exact hui.2.2.1 e'
      · omega
    · rw [List.mem_singleton.1 hu] at hg
      have := hvb g hg
      exact ⟨by omega, by omega, hne g hg, this.2⟩
  · rcases List.mem_append.1 hu with hu | hu
    · exact h.one u hu
    · rw [List.mem_singleton.1 hu]
      exact h1

/-- On the way to a new disk. -/
def NewRel (w : World) (d mb i : Nat) (wr : World) : Prop := ∃ tv vs, DkAt wr d (List.replicate i (List.replicate 64 0)) tv mb vs ∧ Still w wr ∧ (∀ g, tv.ownBlock = some g → w.heap.size ≤ g) ∧ ∀ u ∈ vs, ∀ g, u.ownBlock = some g → w.heap.size ≤ g

set_option maxHeartbeats 2000000 in
set_option maxRecDepth 100000 in
theorem new_any (w : World) (n : Nat) (hn : n ≤ 2000) :
    Calls Tryz.prog 13 #[.int .i64 n] w (fun e w' => ∃ d mb, e = .returned (.pointer (some ⟨d, 0, none⟩)) ∧ w.heap.size ≤ d ∧ w.heap.size ≤ mb ∧ NewRel w d mb n w') := by
  have HW := Lib.hid (fun t => show NewRel w (w.heap.size + 1) w.heap.size 0 ((w.alloc (.map #[] 0)).alloc (.cells #[.slice none 0 0, .map (some w.heap.size), .bool false, .pointer none] t)) from by
    have hz : (w.alloc (.map #[] 0)).heap.size = w.heap.size + 1 := by simp
    refine ⟨.slice none 0 0, [], ⟨?_, Vec.nil _ _, fun i l hi => by simp at hi, ⟨_, (kmap_made w _ _ _).block (by rw [heap_alloc_old _ _ (by rw [hz]; omega)])⟩, by omega, (fun g e => by cases e), (fun v hv => by cases hv), (fun v hv => by cases hv)⟩, ((Still.refl w).alloc _).alloc _, (fun g e => by cases e), (fun v hv => by cases hv)⟩
    have := cellsAt_new (w.alloc (.map #[] 0)) [.slice none 0 0, .map (some w.heap.size), .bool false, .pointer none] t
    rw [hz] at this
    exact this)
  have hmk : ∀ w : World, (Instr.makeMap 81 none).run Tryz.prog w = .ok (.map (some w.heap.size)) (w.alloc (.map #[] 0)) := fun w => by kernel_rfl
  have e1 : max (n : Int) 0 = n := by omega
  have e2 : min (n : Int) 2000 = n := by omega
  have HN := Lib.hid hn
  clear hn
  go_enter Tryz.func13, Tryz.ntmps13
  go_wp2_with fail
  have hW := HW.out 85
  clear HW
  generalize ((w.alloc (.map #[] 0)).alloc (.cells #[.slice none 0 0, .map (some w.heap.size), .bool false, .pointer none] 85)) = w0 at hW ⊢
  have HD := Lib.hid (show w.heap.size ≤ w.heap.size + 1 ∧ w.heap.size ≤ w.heap.size from ⟨by omega, by omega⟩)
  obtain ⟨d, hd⟩ : ∃ d, w.heap.size + 1 = d := ⟨_, rfl⟩
  obtain ⟨mb, hmb⟩ : ∃ mb, w.heap.size = mb := ⟨_, rfl⟩
  have HD := Lib.hid (show w.heap.size ≤ d ∧ w.heap.size ≤ mb from ⟨by omega, by omega⟩)
  rw [hd, hmb] at hW
  rw [hd]
  have HW := Lib.hid hW
  clear hW hd hmb hmk
  go_loopw [10] (fun s wr => ∃ i : Nat, s = .int .i64 i ∧ i ≤ n ∧ NewRel w d mb i wr) (fun s _ => n - (intOf s).toNat)
  case atStart => exact ⟨0, rfl, Nat.zero_le _, HW.out⟩
  case round =>
    clear HW
    obtain ⟨i, rfl, hin, tv, vs, h, hs, ht, hv⟩ := hrel
    by_cases hi : i < n
    · have b1 : decide ((i : Int) < (n : Int)) = true := by simp; omega
      have b2 : decide (i < n) = true := by simp; omega
      have u9 : IntKind.i64.wrap ((i : Int) + 1) = (i : Int) + 1 := IntWalk.i64_in _ (by have := HN.out; omega)
      obtain ⟨ta, tc, htv⟩ := h.form
      rw [List.length_replicate] at htv
      subst htv
      have H := Lib.hid h
      have HH := Lib.hid (And.intro hs (And.intro ht hv))
      have SS := Lib.hid (fun w' (hst : Only (fun _ => False) wr w') => show w'.cell? ⟨d, 0, none⟩ = some (.slice ta i tc) from Still.cell hst (H.out.cells.cell 0))
      have hmk := make64
      obtain ⟨i0, hi0, hz0, hz1, hz2⟩ := info_parts info_bb
      have HI := Lib.hid (And.intro hi0 (And.intro hz0 (And.intro hz1 hz2)))
      have HVT := Lib.hid (fun A B => show Vec ((wr.drew.alloc A).alloc B) 1 (.slice ta i tc) i vs from by
        have := h.t
        rw [List.length_replicate] at this
        exact (this.drew.alloc A).alloc B)
      have HRX := Lib.hid (fun A => show Reads ((wr.drew.alloc A).alloc (.cells #[.slice (some ⟨wr.heap.size, 0, none⟩) 64 64] 23)) 1 (.slice (some ⟨wr.heap.size + 1, 0, none⟩) 1 1) 1 [.slice (some ⟨wr.heap.size, 0, none⟩) 64 64] from by
        have := cellsAt_new (wr.drew.alloc A) [.slice (some ⟨wr.heap.size, 0, none⟩) 64 64] 23
        rw [show (wr.drew.alloc A).heap.size = wr.heap.size + 1 from by simp] at this
        exact this.reads rfl)
      have HFIN := Lib.hid (fun v' w' (hv' : Vec w' 1 v' (i + 1) (vs ++ [.slice (some ⟨wr.heap.size, 0, none⟩) 64 64])) (ho' : Only (fun k => (Value.slice ta i tc).ownBlock = some k) ((wr.drew.alloc (.cells (bc (List.replicate 64 0)).toArray 5)).alloc (.cells #[.slice (some ⟨wr.heap.size, 0, none⟩) 64 64] 23)) w')
          (hb' : v'.ownBlock = (Value.slice ta i tc).ownBlock ∨ ∃ g, v'.ownBlock = some g ∧ ((wr.drew.alloc (.cells (bc (List.replicate 64 0)).toArray 5)).alloc (.cells #[.slice (some ⟨wr.heap.size, 0, none⟩) 64 64] 23)).heap.size ≤ g ∧ g < w'.heap.size) =>
          show w'.cell? ⟨d, 0, none⟩ = some (.slice ta i tc) ∧ w'.frozen? ⟨d, 0, none⟩ = false ∧ NewRel w d mb (i + 1) (w'.setCell ⟨d, 0, none⟩ v') from by
        have hz : ((wr.drew.alloc (.cells (bc (List.replicate 64 0)).toArray 5)).alloc (.cells #[.slice (some ⟨wr.heap.size, 0, none⟩) 64 64] 23)).heap.size = wr.heap.size + 2 := by simp
        have hs0 : Still wr ((wr.drew.alloc (.cells (bc (List.replicate 64 0)).toArray 5)).alloc (.cells #[.slice (some ⟨wr.heap.size, 0, none⟩) 64 64] 23)) := ((still_drew wr).alloc _).alloc _
        have hO : Only (fun b => (Value.slice ta i tc).ownBlock = some b) wr w' := (hs0.mono fun _ e => e.elim).trans ho'
        have hdc := h.cells.only hO fun e => (h.td d e).1 rfl
        have hsz := ho'.size
        have hlt := h.lt
        have hw := hs.size
        rw [hz] at hsz hb'
        have hown : (Value.slice (some ⟨wr.heap.size, 0, none⟩) 64 64).ownBlock = some wr.heap.size := rfl
        refine ⟨hdc.cell 0, hdc.free 0, ?_⟩
        have hrd : Reads w' 1 (.slice (some ⟨wr.heap.size, 0, none⟩) 64 64) 64 (bc (List.replicate 64 0)) := by
          have h1 := cellsAt_new wr.drew (bc (List.replicate 64 0)) 5
          have h2 := (h1.alloc (.cells #[.slice (some ⟨wr.heap.size, 0, none⟩) 64 64] 23)).only ho' fun e => by
            have e2 := (h.td _ e).2.2
            have e3 : wr.drew.heap.size = wr.heap.size := rfl
            omega
          exact h2.reads (by rw [bc_length, List.length_replicate])
        have hp := h.push (l := List.replicate 64 0) hO (by rw [List.length_replicate]; exact hv') hrd (fun g hg => by rw [hown] at hg; injection hg with hg; omega) (fun g hg => by
          rcases hb' with e | ⟨g', e, e1, e2⟩
          · rw [e] at hg
            exact ⟨.inl hg, by have := (h.td g hg).2.2; omega⟩
          · rw [e] at hg
            injection hg with hg
            exact ⟨.inr (by omega), by omega⟩) (fun g hg e => by
          rw [hown] at hg
          injection hg with hg
          rcases hb' with e' | ⟨g', e', e1, e2⟩
          · rw [e'] at e
            have := (h.td g e).2.2
            omega
          · rw [e'] at e
            injection e with e
            omega) rfl
        refine ⟨v', _, by rw [List.replicate_succ']; exact hp, ?_, fun g hg => ?_, fun u hu g hg => ?_⟩
        · have h1 : Only (fun b => w.heap.size ≤ b) w w' := (hs.mono fun _ e => e.elim).trans (hO.mono fun b e => ht b e)
          have h2 := h1.setCell (p := ⟨d, 0, none⟩) (.inl HD.out.1) v'
          exact ⟨h2.os, h2.tape, h2.output, h2.size, fun b hb _ => h2.block b hb fun e => by omega⟩
        · rcases hb' with e | ⟨g', e, e1, e2⟩
          · rw [e] at hg
            exact ht g hg
          · rw [e] at hg
            injection hg with hg
            omega
        · rcases List.mem_append.1 hu with hu | hu
          · exact hv u hu g hg
          · rw [List.mem_singleton.1 hu, hown] at hg
            injection hg with hg
            omega)
      clear h hs ht hv hi0 hz0 hz1 hz2
      go_wp2_with fail
      refine wp_region_D_drew (D := (fun i => [0, 1, 2, 3, 8, 9, 10].contains i)) (S := (fun w' => w'.cell? ⟨d, 0, none⟩ = some (.slice ta i tc))) (by kernel_rfl) ?_ (fun hHeld => ?_)
      · exact SS.out _ (still_drew _)
      (refine takeD (i := 0) (some 12) (v := ?_) rfl (by rfl) (by rfl) (by kernel_rfl) (by rfl) (fun _ _ _ h => h) ?_ ?_; rotate_left; (intro w; go_simp; try with_reducible rfl); try go_frame)
      (refine takeD (i := 1) (some 13) (v := ?_) rfl (by rfl) (by rfl) (by kernel_rfl) (by rfl) (fun _ _ _ h => h) ?_ ?_; rotate_left; (intro w; go_simp; try with_reducible rfl); try go_frame)
      (refine takeD (i := 2) (some 14) (v := ?_) rfl (by rfl) (by rfl) (by kernel_rfl) (by rfl) (fun _ _ _ h => h) ?_ ?_; rotate_left; (intro w; go_simp; try with_reducible rfl); try go_frame)
      (refine takeD (i := 3) (some 15) (v := ?_) rfl (by rfl) (by rfl) (by kernel_rfl) (by rfl) (fun _ _ _ h => h) ?_ ?_; rotate_left; (intro w; go_simp; try with_reducible rfl); try go_frame)
      (refine takeS (i := 4) (some 16) (v := ?_) rfl (by rfl) (by rfl) (by kernel_rfl) (by rfl) (fun _ _ _ h => h) (by assumption) ?_ ?_; rotate_left; (intro w hSw; (try dsimp only at hSw); go_simp; try with_reducible rfl); try go_frame)
      refine wpAnyD_ready (rs := [5]) (by kernel_rfl) (by simp) ?_
      refine ReadyD.cons rfl (fun K hK => ?_) ?_
      go_simp
      (refine hK.out _ _ ?_ (fun hNew => ?_); (focus (exact SS.out _ (Only.alloc (still_drew _) _))); clear hHeld; have hHeld := hNew; clear hNew)
      (clear hK K; try go_frame)
      refine wpAnyD_ready (rs := [6]) (by kernel_rfl) (by simp) ?_
      refine ReadyD.cons rfl (fun K hK => ?_) ?_
      go_simp
      (refine hK.out _ _ ?_ (fun hNew => ?_); (focus (exact SS.out _ (Only.alloc (Only.alloc (still_drew _) _) _))); clear hHeld; have hHeld := hNew; clear hNew)
      (clear hK K; try go_frame)
      refine wpAnyD_ready (rs := [7]) (by kernel_rfl) (by simp) ?_
      refine ReadyD.cons rfl (fun K hK => ?_) ?_
      refine step_append_vec rfl _ _ 82 rfl 23 i0 _ 1 24 Tryz.underlying82 HI.out.1 HI.out.2.1 HI.out.2.2.1 HI.out.2.2.2 rfl (by decide) (.slice ta i tc) i vs (by simp [Act.eval]) (HVT.out _ _) (.slice (some ⟨wr.heap.size + 1, 0, none⟩) 1 1) 1 [.slice (some ⟨wr.heap.size, 0, none⟩) 64 64] (by simp [Act.eval]) (HRX.out _) (by intro u hu; simp at hu; rw [hu]; rfl) (by have := HN.out; simp only [maxLen]; omega) (by have := HN.out; omega) ?_
      intro v' w' hv' ho' hb'
      have hfin := HFIN.out v' w' hv' ho' hb'
      obtain ⟨k1, k2, k3⟩ := hfin
      obtain ⟨va, vc, rfl⟩ := hv'.form'
      have HK3 := Lib.hid k3
      (refine hK.out _ _ ?_ (fun hNew => ?_); (focus (exact k1)); clear hHeld; have hHeld := hNew; clear hNew)
      (clear hK K hv' ho' hb' k3; try go_frame)
      (refine takeD (i := 8) (some 20) (v := ?_) rfl (by rfl) (by rfl) (by kernel_rfl) (by rfl) (fun _ _ _ h => h) ?_ ?_; rotate_left; (intro w; go_simp; try with_reducible rfl); try go_frame)
      (refine takeD (i := 9) (some 21) (v := ?_) rfl (by rfl) (by rfl) (by kernel_rfl) (by rfl) (fun _ _ _ h => h) ?_ ?_; rotate_left; (intro w; go_simp; try with_reducible rfl); try go_frame)
      refine wpAnyD_ready (rs := [10]) (by kernel_rfl) (by simp) ?_
      refine ReadyD.last rfl (by rfl) (fun K hK => ?_) ?_
      go_simp
      refine hK.out _ _ ?_
      (clear hK K; try go_frame)
      refine wpAnyD_done (by kernel_rfl) ?_ _
      rotate_left
      exact ReadyD.nil
      exact ReadyD.nil
      exact ReadyD.nil
      exact ReadyD.nil
      go_wp2_with fail
      go_roundw
      case rel => exact ⟨i + 1, by go_num, by omega, HK3.out⟩
      case measure => simp [intOf]; omega
    · have hge : i = n := by omega
      subst hge
      have b1 : decide ((i : Int) < (i : Int)) = false := by simp
      have F := Lib.hid (show ∃ d' mb, (Ending.returned (.pointer (some ⟨d, 0, none⟩))) = .returned (.pointer (some ⟨d', 0, none⟩)) ∧ w.heap.size ≤ d' ∧ w.heap.size ≤ mb ∧ NewRel w d' mb i wr from ⟨d, mb, rfl, HD.out.1, HD.out.2, tv, vs, h, hs, ht, hv⟩)
      clear h hs ht hv
      go_wp2_with fail
      go_ret
      exact F.out
end Go.Proofs.YtojkggppcmdepaaGreat

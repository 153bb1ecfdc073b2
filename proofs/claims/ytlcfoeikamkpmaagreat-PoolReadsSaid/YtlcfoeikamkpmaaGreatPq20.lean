/- A new disk. Conditions: at most two thousand tiles. What a cleaning leaves on a disk: plain. No program. No conditions. What a disk's Write, a trail's Force and Open leave: plain. No program. No conditions. A pool of pages: plain: what each of its operations answers and leaves. No program. No conditions. A page as two tiles. Conditions: its cells lie in memory. A stub's cell; a part of a cell. Conditions: the cell lies in memory. A part of a cell as a text. Conditions: the cell lies in memory. -/
import Derived.Test.YtlcfoeikamkpmaaGreatPq19
namespace Go.Proofs.YtlcfoeikamkpmaaGreat
open Go.RowKit Go.Wh Go.Maps

def NewRelK (w : World) (d mb i : Nat) (wr : World) : Prop := NewRel w d mb i wr ∧ kmap wr Tryz.prog 3 (fun z : Int => .int .i64 z) mb (fun _ => none)
set_option maxHeartbeats 2000000 in
set_option maxRecDepth 100000 in
theorem new_k (w : World) (n : Nat) (hn : n ≤ 2000) :
 Calls Tryz.prog 10 #[.int .i64 n] w (fun e w' => ∃ d mb, e = .returned (.pointer (some ⟨d, 0, none⟩)) ∧ w.heap.size ≤ d ∧ w.heap.size ≤ mb ∧ NewRelK w d mb n w') := by
 have HW := Lib.hid (fun t => show NewRelK w (w.heap.size + 1) w.heap.size 0 ((w.alloc (.map #[] 0)).alloc (.cells #[.slice none 0 0, .map (some w.heap.size), .bool false, .pointer none] t)) from by
  have hz : (w.alloc (.map #[] 0)).heap.size = w.heap.size + 1 := by simp
  have hk0 : kmap ((w.alloc (.map #[] 0)).alloc (.cells #[.slice none 0 0, .map (some w.heap.size), .bool false, .pointer none] t)) Tryz.prog 3 (fun z : Int => .int .i64 z) w.heap.size (fun _ => none) := (kmap_made w _ _ _).block (alloc_kept (w.alloc (.map #[] 0)) _ (by rw [hz]; omega))
  refine ⟨⟨.slice none 0 0, [], ⟨?_, Vec.nil _ _, fun i l hi => by simp at hi, ⟨_, hk0⟩, by omega, (fun g e => by cases e), (fun v hv => by cases hv), (fun v hv => by cases hv)⟩, ((Still.refl w).alloc _).alloc _, (fun g e => by cases e), (fun v hv => by cases hv)⟩, hk0⟩
  have := cellsAt_new (w.alloc (.map #[] 0)) [.slice none 0 0, .map (some w.heap.size), .bool false, .pointer none] t
  rw [hz] at this
  exact this)
 have hmk : ∀ w : World, (Instr.makeMap 80 none).run Tryz.prog w = .ok (.map (some w.heap.size)) (w.alloc (.map #[] 0)) := fun w => by kernel_rfl
 have e1 : max (n : Int) 0 = n := by omega
 have e2 : min (n : Int) 2000 = n := by omega
 have HN := Lib.hid hn
 clear hn
 go_enter Tryz.func10, Tryz.ntmps10
 go_wp2_with fail
 have hW := HW.out 84
 clear HW
 generalize ((w.alloc (.map #[] 0)).alloc (.cells #[.slice none 0 0, .map (some w.heap.size), .bool false, .pointer none] 84)) = w0 at hW ⊢
 have HD := Lib.hid (show w.heap.size ≤ w.heap.size + 1 ∧ w.heap.size ≤ w.heap.size from ⟨by omega, by omega⟩)
 obtain ⟨d, hd⟩ : ∃ d, w.heap.size + 1 = d := ⟨_, rfl⟩
 obtain ⟨mb, hmb⟩ : ∃ mb, w.heap.size = mb := ⟨_, rfl⟩
 have HD := Lib.hid (show w.heap.size ≤ d ∧ w.heap.size ≤ mb from ⟨by omega, by omega⟩)
 rw [hd, hmb] at hW
 rw [hd]
 have HW := Lib.hid hW
 clear hW hd hmb hmk
 go_loopw [10] (fun s wr => ∃ i : Nat, s = .int .i64 i ∧ i ≤ n ∧ NewRelK w d mb i wr) (fun s _ => n - (intOf s).toNat)
 case atStart => exact ⟨0, rfl, Nat.zero_le _, HW.out⟩
 case round =>
  clear HW
  obtain ⟨i, rfl, hin, ⟨tv, vs, h, hs, ht, hv⟩, hkm⟩ := hrel
  have HKM := Lib.hid hkm
  by_cases hi : i < n
  · have b1 : decide ((i : Int) < (n : Int)) = true := by simp; omega
    have b2 : decide (i < n) = true := by simp; omega
    have u9 : IntKind.i64.wrap ((i : Int) + 1) = (i : Int) + 1 := IntWalk.i64_in _ (by have := HN.out; omega)
    obtain ⟨ta, tc, htv⟩ := h.form
    rw [List.length_replicate] at htv
    subst htv
    have H := Lib.hid h
    have HH := Lib.hid (And.intro hs (And.intro ht hv))
    have SS := Lib.hid (fun w' (hst : Only (fun _ => False) wr w') => show w'.cell? ⟨d, 0, none⟩ = some (.slice ta i tc) from Still.cell hst (H.out.cells.cell 0))
    have hmk := make64
    obtain ⟨i0, hi0, hz0, hz1, hz2⟩ := info_parts info_bb
    have HI := Lib.hid (And.intro hi0 (And.intro hz0 (And.intro hz1 hz2)))
    have HVT := Lib.hid (fun A B => show Vec ((wr.drew.alloc A).alloc B) 1 (.slice ta i tc) i vs from by
     have := h.t
     rw [List.length_replicate] at this
     exact (this.drew.alloc A).alloc B)
    have HRX := Lib.hid (fun A => show Reads ((wr.drew.alloc A).alloc (.cells #[.slice (some ⟨wr.heap.size, 0, none⟩) 64 64] 22)) 1 (.slice (some ⟨wr.heap.size + 1, 0, none⟩) 1 1) 1 [.slice (some ⟨wr.heap.size, 0, none⟩) 64 64] from by
     have := cellsAt_new (wr.drew.alloc A) [.slice (some ⟨wr.heap.size, 0, none⟩) 64 64] 22
     rw [show (wr.drew.alloc A).heap.size = wr.heap.size + 1 from by simp] at this
     exact this.reads rfl)
    have HFIN := Lib.hid (fun v' w' (hv' : Vec w' 1 v' (i + 1) (vs ++ [.slice (some ⟨wr.heap.size, 0, none⟩) 64 64])) (ho' : Only (fun k => (Value.slice ta i tc).ownBlock = some k) ((wr.drew.alloc (.cells (bc (List.replicate 64 0)).toArray 5)).alloc (.cells #[.slice (some ⟨wr.heap.size, 0, none⟩) 64 64] 22)) w')
     (hb' : v'.ownBlock = (Value.slice ta i tc).ownBlock ∨ ∃ g, v'.ownBlock = some g ∧ ((wr.drew.alloc (.cells (bc (List.replicate 64 0)).toArray 5)).alloc (.cells #[.slice (some ⟨wr.heap.size, 0, none⟩) 64 64] 22)).heap.size ≤ g ∧ g < w'.heap.size) =>
     show w'.cell? ⟨d, 0, none⟩ = some (.slice ta i tc) ∧ w'.frozen? ⟨d, 0, none⟩ = false ∧ NewRelK w d mb (i + 1) (w'.setCell ⟨d, 0, none⟩ v') from by
     have hz : ((wr.drew.alloc (.cells (bc (List.replicate 64 0)).toArray 5)).alloc (.cells #[.slice (some ⟨wr.heap.size, 0, none⟩) 64 64] 22)).heap.size = wr.heap.size + 2 := by simp
     have hs0 : Still wr ((wr.drew.alloc (.cells (bc (List.replicate 64 0)).toArray 5)).alloc (.cells #[.slice (some ⟨wr.heap.size, 0, none⟩) 64 64] 22)) := ((still_drew wr).alloc _).alloc _
     have hO : Only (fun b => (Value.slice ta i tc).ownBlock = some b) wr w' := (hs0.mono fun _ e => e.elim).trans ho'
     have hdc := h.cells.only hO fun e => (h.td d e).1 rfl
     have hsz := ho'.size
     have hlt := h.lt
     have hw := hs.size
     rw [hz] at hsz hb'
     have hown : (Value.slice (some ⟨wr.heap.size, 0, none⟩) 64 64).ownBlock = some wr.heap.size := rfl
     refine ⟨hdc.cell 0, hdc.free 0, ?_⟩
     have hrd : Reads w' 1 (.slice (some ⟨wr.heap.size, 0, none⟩) 64 64) 64 (bc (List.replicate 64 0)) := by
      have h1 := cellsAt_new wr.drew (bc (List.replicate 64 0)) 5
      have h2 := (h1.alloc (.cells #[.slice (some ⟨wr.heap.size, 0, none⟩) 64 64] 22)).only ho' fun e => by
       have e2 := (h.td _ e).2.2
       have e3 : wr.drew.heap.size = wr.heap.size := rfl
       omega
      exact h2.reads (by rw [bc_length, List.length_replicate])
     have hp := h.push (l := List.replicate 64 0) hO (by rw [List.length_replicate]; exact hv') hrd (fun g hg => by rw [hown] at hg; injection hg with hg; omega) (fun g hg => by
      rcases hb' with e | ⟨g', e, e1, e2⟩
      · rw [e] at hg
        exact ⟨.inl hg, by have := (h.td g hg).2.2; omega⟩
      · rw [e] at hg
        injection hg with hg
        exact ⟨.inr (by omega), by omega⟩) (fun g hg e => by
      rw [hown] at hg
      injection hg with hg
      rcases hb' with e' | ⟨g', e', e1, e2⟩
      · rw [e'] at e
        have := (h.td g e).2.2
        omega
      · rw [e'] at e
        injection e with e
        omega) rfl
     have hkf : kmap (w'.setCell ⟨d, 0, none⟩ v') Tryz.prog 3 (fun z : Int => .int .i64 z) mb (fun _ => none) := (hkm.block (hO.block mb hkm.lt fun e => (h.td mb e).2.1 rfl)).block ((setCell_only w' ⟨d, 0, none⟩ v').block mb (by have := hO.size; have := hkm.lt; omega) fun e => h.dm (show mb = d from e).symm)
     refine ⟨⟨v', _, by rw [List.replicate_succ']; exact hp, ?_, fun g hg => ?_, fun u hu g hg => ?_⟩, hkf⟩
     · have h1 : Only (fun b => w.heap.size ≤ b) w w' := (hs.mono fun _ e => e.elim).trans (hO.mono fun b e => ht b e)
       have h2 := h1.setCell (p := ⟨d, 0, none⟩) (.inl HD.out.1) v'
       exact ⟨h2.os, h2.tape, h2.output, h2.size, fun b hb _ => h2.block b hb fun e => by omega⟩
     · rcases hb' with e | ⟨g', e, e1, e2⟩
       · rw [e] at hg
         exact ht g hg
       · rw [e] at hg
         injection hg with hg
         omega
     · rcases List.mem_append.1 hu with hu | hu
       · exact hv u hu g hg
       · rw [List.mem_singleton.1 hu, hown] at hg
         injection hg with hg
         omega)
    clear h hs ht hv hkm hi0 hz0 hz1 hz2
    go_wp2_with fail
    refine wp_region_D_drew (D := (fun i => [0, 1, 2, 3, 8, 9, 10].contains i)) (S := (fun w' => w'.cell? ⟨d, 0, none⟩ = some (.slice ta i tc))) (by kernel_rfl) ?_ (fun hHeld => ?_)
    · exact SS.out _ (still_drew _)
    (refine takeD (i := 0) (some 12) (v := ?_) rfl (by rfl) (by rfl) (by kernel_rfl) (by rfl) (fun _ _ _ h => h) ?_ ?_; rotate_left; (intro w; go_simp; try with_reducible rfl); try go_frame)
    (refine takeD (i := 1) (some 13) (v := ?_) rfl (by rfl) (by rfl) (by kernel_rfl) (by rfl) (fun _ _ _ h => h) ?_ ?_; rotate_left; (intro w; go_simp; try with_reducible rfl); try go_frame)
    (refine takeD (i := 2) (some 14) (v := ?_) rfl (by rfl) (by rfl) (by kernel_rfl) (by rfl) (fun _ _ _ h => h) ?_ ?_; rotate_left; (intro w; go_simp; try with_reducible rfl); try go_frame)
    (refine takeD (i := 3) (some 15) (v := ?_) rfl (by rfl) (by rfl) (by kernel_rfl) (by rfl) (fun _ _ _ h => h) ?_ ?_; rotate_left; (intro w; go_simp; try with_reducible rfl); try go_frame)
    (refine takeS (i := 4) (some 16) (v := ?_) rfl (by rfl) (by rfl) (by kernel_rfl) (by rfl) (fun _ _ _ h => h) (by assumption) ?_ ?_; rotate_left; (intro w hSw; (try dsimp only at hSw); go_simp; try with_reducible rfl); try go_frame)
    refine wpAnyD_ready (rs := [5]) (by kernel_rfl) (by simp) ?_
    refine ReadyD.cons rfl (fun K hK => ?_) ?_
    go_simp
    (refine hK.out _ _ ?_ (fun hNew => ?_); (focus (exact SS.out _ (Only.alloc (still_drew _) _))); clear hHeld; have hHeld := hNew; clear hNew)
    (clear hK K; try go_frame)
    refine wpAnyD_ready (rs := [6]) (by kernel_rfl) (by simp) ?_
    refine ReadyD.cons rfl (fun K hK => ?_) ?_
    go_simp
    (refine hK.out _ _ ?_ (fun hNew => ?_); (focus (exact SS.out _ (Only.alloc (Only.alloc (still_drew _) _) _))); clear hHeld; have hHeld := hNew; clear hNew)
    (clear hK K; try go_frame)
    refine wpAnyD_ready (rs := [7]) (by kernel_rfl) (by simp) ?_
    refine ReadyD.cons rfl (fun K hK => ?_) ?_
    refine step_append_vec rfl _ _ 81 rfl 22 i0 _ 1 24 Tryz.underlying81 HI.out.1 HI.out.2.1 HI.out.2.2.1 HI.out.2.2.2 rfl (by decide) (.slice ta i tc) i vs (by simp [Act.eval]) (HVT.out _ _) (.slice (some ⟨wr.heap.size + 1, 0, none⟩) 1 1) 1 [.slice (some ⟨wr.heap.size, 0, none⟩) 64 64] (by simp [Act.eval]) (HRX.out _) (by intro u hu; simp at hu; rw [hu]; rfl) (by have := HN.out; simp only [maxLen]; omega) (by have := HN.out; omega) ?_
    intro v' w' hv' ho' hb'
    have hfin := HFIN.out v' w' hv' ho' hb'
    obtain ⟨k1, k2, k3⟩ := hfin
    obtain ⟨va, vc, rfl⟩ := hv'.form'
    have HK3 := Lib.hid k3
    (refine hK.out _ _ ?_ (fun hNew => ?_); (focus (exact k1)); clear hHeld; have hHeld := hNew; clear hNew)
    (clear hK K hv' ho' hb' k3; try go_frame)
    (refine takeD (i := 8) (some 20) (v := ?_) rfl (by rfl) (by rfl) (by kernel_rfl) (by rfl) (fun _ _ _ h => h) ?_ ?_; rotate_left; (intro w; go_simp; try with_reducible rfl); try go_frame)
    (refine takeD (i := 9) (some 21) (v := ?_) rfl (by rfl) (by rfl) (by kernel_rfl) (by rfl) (fun _ _ _ h => h) ?_ ?_; rotate_left; (intro w; go_simp; try with_reducible rfl); try go_frame)
    refine wpAnyD_ready (rs := [10]) (by kernel_rfl) (by simp) ?_
    refine ReadyD.last rfl (by rfl) (fun K hK => ?_) ?_
    go_simp
    refine hK.out _ _ ?_
    (clear hK K; try go_frame)
    refine wpAnyD_done (by kernel_rfl) ?_ _
    rotate_left
    exact ReadyD.nil
    exact ReadyD.nil
    exact ReadyD.nil
    exact ReadyD.nil
    go_wp2_with fail
    go_roundw
    case rel => exact ⟨i + 1, by go_num, by omega, HK3.out⟩
    case measure => simp [intOf]; omega
  · have hge : i = n := by omega
    subst hge
    have b1 : decide ((i : Int) < (i : Int)) = false := by simp
    have F := Lib.hid (show ∃ d' mb, (Ending.returned (.pointer (some ⟨d, 0, none⟩))) = .returned (.pointer (some ⟨d', 0, none⟩)) ∧ w.heap.size ≤ d' ∧ w.heap.size ≤ mb ∧ NewRelK w d' mb i wr from ⟨d, mb, rfl, HD.out.1, HD.out.2, ⟨tv, vs, h, hs, ht, hv⟩, hkm⟩)
    clear h hs ht hv hkm
    go_wp2_with fail
    go_ret
    exact F.out

theorem dg_of_dk {A : Nat → Prop} {w : World} {d mb : Nat} {T : List (List Int)} {tv : Value} {vs : List Value} (h : DkAt w d T tv mb vs) (hk : kmap w Tryz.prog 3 (fun z : Int => .int .i64 z) mb (fun _ => none)) (h1 : A d) (h2 : A mb) (h3 : ∀ g, tv.ownBlock = some g → A g) (h4 : ∀ v ∈ vs, ∀ g, v.ownBlock = some g → A g) (hl : ∀ g, A g → g < w.heap.size) :
 DgAt A w d ⟨T, fun _ => none, false, none⟩ tv mb vs (fun _ => none) none where
 cells := h.cells
 t := h.t
 ins := h.ins
 m := hk
 wi x v hv := by cases hv
 wn i _ := rfl
 pl k mask hp := by cases hp
 pn _ := rfl
 dm := h.dm
 td g hg := ⟨(h.td g hg).1, (h.td g hg).2.1⟩
 pd g hg := by cases hg
 mu g hg := by
  rcases hg with e | e | e | e
  · exact e ▸ h1
  · exact e ▸ h2
  · exact h3 g e
  · cases e
 ct v hv := ⟨h.one v hv, fun g hg => ⟨h4 v hv g hg, fun e => by
  have hi := h.ia v hv g hg
  rcases e with e | e | e | e
  · exact hi.1 e
  · exact hi.2.1 e
  · exact hi.2.2.1 e
  · cases e⟩⟩
 cw x v hv := by cases hv
 lt := hl
def newD (n : Nat) : PDk := ⟨zeroT n, fun _ => none, false, none⟩
theorem new_g (w : World) (n : Nat) (hn : n ≤ 2000) {N : Int} (hN : (n : Int) = N) :
 Calls Tryz.prog 10 #[.int .i64 N] w (fun e w' => ∃ d, e = .returned (.pointer (some ⟨d, 0, none⟩)) ∧ DgX (fun g => w.heap.size ≤ g ∧ g < w'.heap.size) d (newD n) w' ∧ Still w w') := by
 subst hN
 refine (new_k w n hn).mono fun e w' h => ?_
 obtain ⟨d, mb, rfl, h1, h2, ⟨tv, vs, hd, hs, ht, hv⟩, hk⟩ := h
 have hlt := hd.lt
 exact ⟨d, rfl, ⟨tv, mb, vs, _, none, dg_of_dk hd hk ⟨h1, hlt.1⟩ ⟨h2, hlt.2⟩ (fun g hg => ⟨ht g hg, (hd.td g hg).2.2⟩) (fun v hv' g hg => ⟨hv v hv' g hg, (hd.ia v hv' g hg).2.2.2⟩) fun g hg => hg.2⟩, hs⟩
end Go.Proofs.YtlcfoeikamkpmaaGreat

namespace Go.Proofs.YtlcfoeikamkpmaaGreat
open Go.Wh

def PDk.byt (D : PDk) : Prop := (∀ l ∈ D.T, Byt l) ∧ ∀ i l, D.was i = some l → Byt l
theorem crashN_byt {was : Nat → Option (List Int)} {mask : List Int} {L : List Nat} {T : List (List Int)} (h1 : ∀ l ∈ T, Byt l) (h2 : ∀ i l, was i = some l → Byt l) : ∀ (i : Nat), ∀ l ∈ crashN was mask L T i, Byt l
 | 0 => h1
 | i + 1 => fun l hl => by
  unfold crashN at hl
  split at hl
  · exact crashN_byt h1 h2 i l hl
  · rcases List.mem_or_eq_of_mem_set hl with hl | rfl
    · exact crashN_byt h1 h2 i l hl
    · cases hw : was (L.getD i 0) with
      | none => exact fun z hz => by cases hz
      | some o => exact h2 _ _ hw
theorem PDk.byt_crash {D : PDk} (h : D.byt) (mask : List Int) : (D.crash mask).byt := ⟨crashN_byt h.1 h.2 _, fun i l e => by cases e⟩
theorem PDk.byt_less {D : PDk} (h : D.byt) : D.less.byt := h
theorem PDk.byt_done {D : PDk} (h : D.byt) : D.done.2.byt := by
 unfold PDk.done
 cases hp : D.plan with
 | none => exact h
 | some p =>
  dsimp only
  split
  · exact PDk.byt_crash h _
  · exact h
theorem PDk.byt_laid {D : PDk} (h : D.byt) {i : Nat} {l : List Int} (hl : Byt l) : (D.laid i l).byt := by
 refine ⟨fun x hx => (List.mem_or_eq_of_mem_set hx).elim (h.1 x) fun e => e ▸ hl, fun j o hj => ?_⟩
 have hj' : (D.wet i).was j = some o := hj
 unfold PDk.wet at hj'
 dsimp only at hj'
 split at hj'
 · exact h.2 j o hj'
 · by_cases hji : j = i
   · subst hji
     rw [upd_same] at hj'
     exact h.1 o (List.mem_of_getElem? hj')
   · rw [upd_other _ _ hji] at hj'
     exact h.2 j o hj'
theorem PDk.byt_sync {D : PDk} (h : D.byt) : D.sync.2.byt := by
 unfold PDk.sync
 split
 · exact h
 · split
   · exact PDk.byt_crash (PDk.byt_less h) _
   · exact ⟨h.1, fun i l e => by cases e⟩
theorem clN_byt {D : PDk} {at_ : Nat} {S : List Int} (h : D.byt) (hS : Byt S) : ∀ (i : Nat), (clN D at_ S i).2.1.byt
 | 0 => h
 | i + 1 => by
  unfold clN
  split
  · exact clN_byt h hS i
  · split
    · exact clN_byt h hS i
    · exact PDk.byt_done (PDk.byt_laid (clN_byt h hS i) (tileB_byt hS))
theorem PDk.byt_clean {D : PDk} {at_ n : Nat} {S : List Int} (h : D.byt) (hS : Byt S) : (D.clean at_ S n).2.byt := by
 unfold PDk.clean
 split
 · exact clN_byt h hS n
 · split
   · exact PDk.byt_sync (clN_byt h hS n)
   · exact clN_byt h hS n
theorem clN_byte {D : PDk} {at_ : Nat} {S : List Int} (h : D.byt) (hS : Byt S) (i : Nat) (l : List Int) (hl : (clN D at_ S i).2.1.T[at_ + i]? = some l) : Byt l := (clN_byt h hS i).1 l (List.mem_of_getElem? hl)
theorem clN_T {D : PDk} {at_ : Nat} {S : List Int} (hf : D.fine) (hq : D.dead = false) : ∀ (i : Nat), (clN D at_ S i).1 = 0 → (clN D at_ S i).2.1.T = layB D.T at_ S i
 | 0, _ => rfl
 | i + 1, h => by
  by_cases he : (clN D at_ S i).1 = 0
  · have ih := clN_T (S := S) (at_ := at_) hf hq i he
    have hok := clN_ok (S := S) (at_ := at_) hf hq i he
    have e : clN D at_ S (i + 1) = (if (clN D at_ S i).2.1.T[at_ + i]? = some (tileB S i) then clN D at_ S i else ((((clN D at_ S i).2.1.laid (at_ + i) (tileB S i)).done).1, (((clN D at_ S i).2.1.laid (at_ + i) (tileB S i)).done).2, true)) := by
     show (if (clN D at_ S i).1 ≠ 0 then _ else _) = _
     rw [if_neg (by rw [he]; decide)]
    rw [e] at h ⊢
    show _ = (layB D.T at_ S i).set (at_ + i) (tileB S i)
    split at h
    · rename_i hx
      rw [if_pos hx, ih]
      rw [ih] at hx
      obtain ⟨h1, h2⟩ := List.getElem?_eq_some_iff.1 hx
      rw [← h2, List.set_getElem_self]
    · rename_i hx
      rw [if_neg hx]
      have := (PDk.done_ok (D := (clN D at_ S i).2.1.laid (at_ + i) (tileB S i)) hok.1 hok.2 h).2.2.1
      show (((clN D at_ S i).2.1.laid (at_ + i) (tileB S i)).done).2.T = _
      rw [this]
      show (clN D at_ S i).2.1.T.set _ _ = _
      rw [ih]
  · exfalso
    have e : clN D at_ S (i + 1) = clN D at_ S i := by
     show (if (clN D at_ S i).1 ≠ 0 then _ else _) = _
     rw [if_pos he]
    rw [e] at h
    exact he h
theorem PDk.sync_ok {D : PDk} (hf : D.fine) (hq : D.dead = false) (h : D.sync.1 = 0) : D.sync.2.fine ∧ D.sync.2.dead = false ∧ D.sync.2.T = D.T ∧ D.sync.2.was = fun _ => none := by
 unfold PDk.sync at h ⊢
 rw [if_neg (by rw [hq]; decide)] at h ⊢
 split at h
 · cases h
 · rename_i hc
   rw [if_neg hc]
   refine ⟨fun k mask he => ?_, hq, rfl, rfl⟩
   have he' : D.plan.map (fun p => (p.1 - 1, p.2)) = some (k, mask) := he
   cases hp : D.plan with
   | none => rw [hp] at he'; cases he'
   | some p =>
    obtain ⟨k', m'⟩ := p
    rw [hp] at he'
    injection he' with he'
    injection he' with e1 e2
    have h1 := hf k' m' hp
    have h2 : ¬ (k' - 1 < 0) := fun e => hc (by unfold PDk.cuts; rw [hp]; exact decide_eq_true e)
    dsimp only at e1
    omega
theorem PDk.clean_ok {D : PDk} {at_ n : Nat} {S : List Int} (hf : D.fine) (hq : D.dead = false) (hw : D.was = fun _ => none) (h : (D.clean at_ S n).1 = 0) : (D.clean at_ S n).2.fine ∧ (D.clean at_ S n).2.dead = false ∧ (D.clean at_ S n).2.T = layB D.T at_ S n ∧ (D.clean at_ S n).2.was = fun _ => none := by
 unfold PDk.clean at h ⊢
 split at h
 · rename_i he
   exact absurd h he
 · rename_i he
   have he : (clN D at_ S n).1 = 0 := by
    by_cases hx : (clN D at_ S n).1 = 0
    · exact hx
    · exact absurd hx he
   have hok := clN_ok (S := S) (at_ := at_) hf hq n he
   have hT := clN_T (S := S) (at_ := at_) hf hq n he
   rw [if_neg (by rw [he]; decide)]
   split at h
   · rename_i ha
     rw [if_pos ha]
     have := PDk.sync_ok hok.1 hok.2 h
     exact ⟨this.1, this.2.1, this.2.2.1.trans hT, this.2.2.2⟩
   · rename_i ha
     rw [if_neg ha]
     refine ⟨hok.1, hok.2, hT, ?_⟩
     have key : ∀ i, (clN D at_ S i).2.2 = false → (clN D at_ S i).2.1.was = D.was := fun i => by
      induction i with
      | zero => intro _; rfl
      | succ i ih =>
       intro hf
       unfold clN at hf ⊢
       split
       · rename_i h1
         rw [if_pos h1] at hf
         exact ih hf
       · rename_i h1
         rw [if_neg h1] at hf
         split
         · rename_i h2
           rw [if_pos h2] at hf
           exact ih hf
         · rename_i h2
           rw [if_neg h2] at hf
           cases hf
     rw [key n (by simpa using ha), hw]
theorem PDk.done_plain {D : PDk} (hp : D.plan = none) : D.done = (0, D) := by
 unfold PDk.done
 rw [hp]
theorem clN_plain {D : PDk} {at_ : Nat} {S : List Int} (hp : D.plan = none) : ∀ (i : Nat), (clN D at_ S i).1 = 0 ∧ (clN D at_ S i).2.1.plan = none
 | 0 => ⟨rfl, hp⟩
 | i + 1 => by
  have ih := clN_plain (S := S) (at_ := at_) hp i
  unfold clN
  rw [if_neg (by rw [ih.1]; decide)]
  split
  · exact ih
  · have : ((clN D at_ S i).2.1.laid (at_ + i) (tileB S i)).plan = none := ih.2
    rw [PDk.done_plain this]
    exact ⟨rfl, ih.2⟩
theorem PDk.clean_plain {D : PDk} {at_ n : Nat} {S : List Int} (hq : D.dead = false) (hp : D.plan = none) : (D.clean at_ S n).1 = 0 ∧ (D.clean at_ S n).2.plan = none := by
 have h := clN_plain (S := S) (at_ := at_) hp n
 have hf : D.fine := fun k mask e => by rw [hp] at e; cases e
 have hok := clN_ok (S := S) (at_ := at_) hf hq n h.1
 unfold PDk.clean
 rw [if_neg (by rw [h.1]; decide)]
 split
 · unfold PDk.sync PDk.cuts
   rw [if_neg (by rw [hok.2]; decide), h.2]
   refine ⟨rfl, ?_⟩
   show (clN D at_ S n).2.1.plan.map _ = none
   rw [h.2]
   rfl
 · exact ⟨rfl, h.2⟩
theorem PDk.fine_none {D : PDk} (hp : D.plan = none) : D.fine := fun k mask e => by rw [hp] at e; cases e
def PDk.down (D : PDk) : Prop := D.dead = true ∧ D.plan = none ∧ D.was = fun _ => none
theorem PDk.crash_down (D : PDk) (mask : List Int) : (D.crash mask).down := ⟨rfl, rfl, rfl⟩
theorem PDk.done_cut {D : PDk} (h : D.done.1 ≠ 0) : D.done.2.down := by
 unfold PDk.done at h ⊢
 cases hp : D.plan with
 | none => rw [hp] at h; exact absurd rfl h
 | some p =>
  rw [hp] at h
  dsimp only at h ⊢
  split at h
  · rename_i hk
    rw [if_pos hk]
    exact PDk.crash_down _ _
  · exact absurd rfl h
theorem clN_cut {D : PDk} {at_ : Nat} {S : List Int} : ∀ (i : Nat), (clN D at_ S i).1 ≠ 0 → (clN D at_ S i).2.1.down
 | 0, h => absurd rfl h
 | i + 1, h => by
  unfold clN at h ⊢
  split at h
  · rename_i he
    rw [if_pos he]
    exact clN_cut i he
  · rename_i he
    rw [if_neg he]
    split at h
    · exact absurd h he
    · rename_i hx
      rw [if_neg hx]
      exact PDk.done_cut h
theorem PDk.clean_cut {D : PDk} {at_ n : Nat} {S : List Int} (hf : D.fine) (hq : D.dead = false) (h : (D.clean at_ S n).1 ≠ 0) : (D.clean at_ S n).2.down := by
 unfold PDk.clean at h ⊢
 split at h
 · rename_i he
   rw [if_pos he]
   exact clN_cut n he
 · rename_i he
   rw [if_neg he]
   have he0 : (clN D at_ S n).1 = 0 := by
    by_cases hx : (clN D at_ S n).1 = 0
    · exact hx
    · exact absurd hx he
   have hok := clN_ok (S := S) (at_ := at_) hf hq n he0
   split at h
   · rename_i ha
     rw [if_pos ha]
     unfold PDk.sync at h ⊢
     rw [if_neg (by rw [hok.2]; decide)] at h ⊢
     split at h
     · rename_i hc
       rw [if_pos hc]
       exact PDk.crash_down _ _
     · exact absurd rfl h
   · exact absurd rfl h
end Go.Proofs.YtlcfoeikamkpmaaGreat

namespace Go.Proofs.YtlcfoeikamkpmaaGreat
open Go.Wh

def PDk.put (D : PDk) (i : Int) (l : List Int) : Int × PDk := if D.may i ≠ 0 then (D.may i, D) else (D.laid i.toNat l).done
def foB (D : PDk) (at_ : Nat) (S : List Int) (n c st : Nat) : Int × PDk × Nat :=
 if st = c then (0, D, st) else if D.dead = true then (2, D, st) else ((D.clean at_ S n).1, (D.clean at_ S n).2, if (D.clean at_ S n).1 = 0 then c else st)
def openE (D : PDk) (at_ n : Nat) : List PE := (scanB ((readB (tls D.T at_ n)).length + 1) (readB (tls D.T at_ n))).1
end Go.Proofs.YtlcfoeikamkpmaaGreat

namespace Go.Proofs.YtlcfoeikamkpmaaGreat

structure PCf where
 first : Nat
 pages : Nat
 at_ : Nat
 n : Nat
 tr : Bool
structure PSt where
 D : PDk
 es : List PE
 st : Nat
 H : Hd PFr
def PPg.may (p : PPg) : Bool := lsnMay p.lsn && p.c.all (fun l => l.isEmpty || l.length == 26)
def PSt.force (c : PCf) (s : PSt) : Int × PSt := ((foB s.D c.at_ (streamB s.es) c.n s.es.length s.st).1, ⟨(foB s.D c.at_ (streamB s.es) c.n s.es.length s.st).2.1, s.es, (foB s.D c.at_ (streamB s.es) c.n s.es.length s.st).2.2, s.H⟩)
def PDk.two (D : PDk) (i : Int) (a b : List Int) : Int × PDk :=
 if (D.put i a).1 ≠ 0 then D.put i a
 else if ((D.put i a).2.put (i + 1) b).1 ≠ 0 then (D.put i a).2.put (i + 1) b
 else ((D.put i a).2.put (i + 1) b).2.sync
def PSt.ahead (c : PCf) (f : PFr) (s : PSt) : Int × PSt := if c.tr = true ∧ (s.st : Int) < f.p.lsn then s.force c else (0, s)
def PSt.write (c : PCf) (k : Int) (f : PFr) (s : PSt) : Int × PSt :=
 if (s.ahead c f).1 ≠ 0 then s.ahead c f
 else if f.p.may = false then (1, (s.ahead c f).2)
 else (((s.ahead c f).2.D.two ((c.first : Int) + 2 * k) (leafA f.p) (leafB f.p)).1, { (s.ahead c f).2 with D := ((s.ahead c f).2.D.two ((c.first : Int) + 2 * k) (leafA f.p) (leafB f.p)).2 })
def PSt.lay (c : PCf) (k : Int) (f : PFr) (s : PSt) : Int × PSt :=
 if (s.H.put PFr.void k f).1.2.2 = true ∧ (s.H.put PFr.void k f).1.2.1.dirty = true ∧ (s.write c (s.H.put PFr.void k f).1.1 (s.H.put PFr.void k f).1.2.1).1 ≠ 0 then s.write c (s.H.put PFr.void k f).1.1 (s.H.put PFr.void k f).1.2.1
 else if (s.H.put PFr.void k f).1.2.2 = true ∧ (s.H.put PFr.void k f).1.2.1.dirty = true then (0, { (s.write c (s.H.put PFr.void k f).1.1 (s.H.put PFr.void k f).1.2.1).2 with H := (s.H.put PFr.void k f).2 })
 else (0, { s with H := (s.H.put PFr.void k f).2 })
def PCf.may (c : PCf) (k : Int) : Bool := decide (0 ≤ k) && decide (k < c.pages)
def PSt.tile (c : PCf) (s : PSt) (k : Int) : List Int := s.D.T.getD (c.first + (k.toNat)) []
def PSt.get (c : PCf) (k : Int) (s : PSt) : Int × PFr × PSt :=
 if c.may k = false then (1, PFr.void, s)
 else match s.H.look k with
  | some f => (0, f, { s with H := s.H.touch k })
  | none =>
   if s.D.dead = true then (2, PFr.void, s)
   else if (takeT (s.tile c (2 * k)) (s.tile c (2 * k + 1))).1 ≠ 0 then ((takeT (s.tile c (2 * k)) (s.tile c (2 * k + 1))).1, PFr.void, s)
   else ((s.lay c k ⟨(takeT (s.tile c (2 * k)) (s.tile c (2 * k + 1))).2, false, 0⟩).1, ⟨(takeT (s.tile c (2 * k)) (s.tile c (2 * k + 1))).2, false, 0⟩, (s.lay c k ⟨(takeT (s.tile c (2 * k)) (s.tile c (2 * k + 1))).2, false, 0⟩).2)
def PPg.set (p : PPg) (i : Nat) (b : List Int) (z : Int) : PPg := ⟨p.c.set i b, z⟩
def PSt.set (c : PCf) (k i : Int) (b : List Int) (z : Int) (s : PSt) : Int × PSt :=
 if (s.get c k).1 ≠ 0 then ((s.get c k).1, (s.get c k).2.2)
 else if i < 0 ∨ 4 ≤ i ∨ (b.length ≠ 0 ∧ b.length ≠ 26) then (1, (s.get c k).2.2)
 else if z ≤ (s.get c k).2.1.p.lsn then (0, (s.get c k).2.2)
 else (0, { (s.get c k).2.2 with H := ((s.get c k).2.2.H.put PFr.void k ⟨(s.get c k).2.1.p.set i.toNat b z, true, if (s.get c k).2.1.dirty = true then (s.get c k).2.1.rec_ else z⟩).2 })
def PSt.laid (c : PCf) (k : Int) (g : PPg) (r : Int) (s : PSt) : Int × PSt :=
 if c.may k = false then (1, s)
 else if g.may = false then (1, s)
 else s.lay c k ⟨g, true, match s.H.look k with
  | some f => if f.dirty = true then min r f.rec_ else r
  | none => r⟩
def PSt.flush (c : PCf) (k : Int) (s : PSt) : Int × PSt :=
 if c.may k = false then (1, s)
 else match s.H.look k with
  | none => (0, s)
  | some f => if f.dirty = false then (0, s)
   else if (s.write c k f).1 ≠ 0 then s.write c k f
   else (0, { (s.write c k f).2 with H := (s.write c k f).2.H.swap k { f with dirty := false } })
def PSt.dirtyL (s : PSt) : List (Int × Int) := s.H.keys.filterMap fun k => match s.H.look k with
 | some f => if f.dirty = true then some (k, f.rec_) else none
 | none => none
end Go.Proofs.YtlcfoeikamkpmaaGreat

namespace Go.Proofs.YtlcfoeikamkpmaaGreat
open Go.RowKit Go.Wh Go.Maps

theorem make26 (w : World) : (Instr.makeSlice 22 (.int .i64 26) (.int .i64 26)).run Tryz.prog w = .ok (.slice (some ⟨w.heap.size, 0, none⟩) 26 26) (w.alloc (.cells (bc (List.replicate 26 0)).toArray 5)) := by
 obtain ⟨i, hi, hz0, hz1, hz2⟩ := info_parts info_b
 have h := run_makeSlice (P := Tryz.prog) (w := w) 22 5 i (.int .u8 0) Tryz.underlying22 hi hz0 .i64 .i64 26 26 (by omega) (by omega) (by rw [hz1]; decide) (by rw [hz2]; decide) (by decide)
 rw [hz1] at h
 have e : madeCells (Value.int .u8 0).cells (Int.toNat 26 * 1) = (bc (List.replicate 26 0)).toArray := by kernel_rfl
 rw [e] at h
 exact h
def zeros26 : Array Value := (bc (List.replicate 26 0)).toArray
theorem full_any {Q : Nat → Prop} (w : World) (v : Value) (l : List Int) (h : Sl w Q 1 v l.length (bc l)) (hl : l = [] ∨ l.length = 26) :
 Calls Tryz.prog 79 #[v] w (fun e w' => ∃ v', e = .returned v' ∧ Reads w' 1 v' 26 (bc (fullB l)) ∧ Still w w') := by
 obtain ⟨a, c, rfl⟩ := h.form
 have hmk : ∀ w : World, (Instr.makeSlice 22 (.int .i64 26) (.int .i64 26)).run Tryz.prog w = .ok (.slice (some ⟨w.heap.size, 0, none⟩) 26 26) (w.alloc (.cells zeros26 5)) := make26
 rcases hl with rfl | hl
 · have F := Lib.hid (show ∃ v', Ending.returned (.slice (some ⟨w.heap.size, 0, none⟩) 26 26) = .returned v' ∧ Reads (w.alloc (.cells zeros26 5)) 1 v' 26 (bc (fullB [])) ∧ Still w (w.alloc (.cells zeros26 5)) from
    ⟨_, rfl, cellsAt.reads (cellsAt_new w (bc (List.replicate 26 0)) 5) rfl, (Still.refl w).alloc _⟩)
   clear h
   go_enter Tryz.func79, Tryz.ntmps79
   go_wp2_with fail
   go_ret
   exact F.out
 · have F := Lib.hid (show ∃ v', Ending.returned (.slice a 26 c) = .returned v' ∧ Reads w 1 v' 26 (bc (fullB l)) ∧ Still w w from by
    refine ⟨_, rfl, ?_, Still.refl w⟩
    unfold fullB
    rw [if_neg (fun e => by rw [e] at hl; cases hl)]
    rw [hl] at h
    exact h.reads)
   rw [hl]
   clear h hmk
   go_enter Tryz.func79, Tryz.ntmps79
   go_wp2_with fail
   go_ret
   exact F.out
structure PgIs (w : World) (Q : Nat → Prop) (vs : List Value) (ls : List (List Int)) : Prop where
 n : vs.length = 4
 m : ls.length = 4
 at_ : ∀ (i : Nat) (v : Value) (l : List Int), vs[i]? = some v → ls[i]? = some l → Sl w Q 1 v l.length (bc l)
theorem PgIs.only {w w' : World} {Q X : Nat → Prop} {vs : List Value} {ls : List (List Int)} (h : PgIs w Q vs ls) (ho : Only X w w') (hq : ∀ g, Q g → ¬ X g) : PgIs w' Q vs ls := ⟨h.n, h.m, fun i v l h1 h2 => (h.at_ i v l h1 h2).only ho hq⟩
theorem PgIs.still {w w' : World} {Q : Nat → Prop} {vs : List Value} {ls : List (List Int)} (h : PgIs w Q vs ls) (hs : Still w w') : PgIs w' Q vs ls := h.only hs fun _ _ e => e
theorem PgIs.mono {w : World} {Q R : Nat → Prop} {vs : List Value} {ls : List (List Int)} (h : PgIs w Q vs ls) (hr : ∀ g, Q g → R g) : PgIs w R vs ls := ⟨h.n, h.m, fun i v l h1 h2 => (h.at_ i v l h1 h2).mono hr⟩
def okC (l : List Int) : Bool := l.isEmpty || l.length == 26
theorem okC_iff {l : List Int} : okC l = true ↔ l = [] ∨ l.length = 26 := by simp [okC]
theorem body_len : ∀ (ls : List (List Int)), (∀ l ∈ ls, okC l = true) → (ls.flatMap fullB).length = ls.length * 26
 | [], _ => rfl
 | l :: ls, h => by
  rw [List.flatMap_cons, List.length_append, fullB_length (okC_iff.1 (h l (by simp))), body_len ls (fun x hx => h x (by simp [hx])), List.length_cons, Nat.add_mul]
  omega
def LpPost (w : World) (p : PPg) (e : Ending) (w' : World) : Prop := if p.may = true then TwoPost w (leafA p) (leafB p) e w' else NoTwo w e w'
set_option maxHeartbeats 2000000 in
set_option maxRecDepth 100000 in
theorem lput_any {Q : Nat → Prop} (w : World) (p : PPg) (v0 v1 v2 v3 : Value) (h : PgIs w Q [v0, v1, v2, v3] p.c) :
 Calls Tryz.prog 48 #[.agg #[v0, v1, v2, v3, .int .i64 p.lsn]] w (LpPost w p) := by
 obtain ⟨ti, hi0, hi1, hi2, hi3⟩ := info_parts info_b
 have HI := Lib.hid (And.intro hi0 (And.intro hi1 (And.intro hi2 hi3)))
 have HH := Lib.hid h
 obtain ⟨z, hz⟩ : ∃ z, p.lsn = z := ⟨_, rfl⟩
 have HZ := Lib.hid hz
 rw [hz]
 clear h hi0 hi1 hi2 hi3 hz
 go_enter Tryz.func48, Tryz.ntmps48
 go_upto_region 3 with fail
 have hc := cellsAt_new w [v0, v1, v2, v3, .int .i64 z] 36
 have hs1 : Still w (w.alloc (.cells #[v0, v1, v2, v3, .int .i64 z] 36)) := (Still.refl w).alloc _
 change cellsAt (w.alloc (.cells #[v0, v1, v2, v3, .int .i64 z] 36)) w.heap.size _ at hc
 generalize (w.alloc (.cells #[v0, v1, v2, v3, .int .i64 z] 36)) = w1 at *
 obtain ⟨b, hb⟩ : ∃ b, w.heap.size = b := ⟨_, rfl⟩
 rw [hb] at hc
 rw [hb]
 have H1 := Lib.hid (And.intro hs1 (And.intro hc hb))
 clear hs1 hc hb
 go_loopw [5, 10] (fun s5 s10 wr => ∃ i : Nat, s10 = .int .i64 i ∧ i ≤ 4 ∧ Still w wr ∧ cellsAt wr b [v0, v1, v2, v3, .int .i64 z] ∧ Vec wr 1 s5 (26 * i) (bc ((p.c.take i).flatMap fullB)) ∧ (∀ g, s5.ownBlock = some g → b < g ∧ g < wr.heap.size) ∧ ∀ l ∈ p.c.take i, okC l = true) (fun _ s10 _ => 4 - (intOf s10).toNat)
 case atStart => exact ⟨0, rfl, Nat.zero_le _, H1.out.1, H1.out.2.1, Vec.nil _ _, (fun g e => by cases e), fun l hl => by simp at hl⟩
 obtain ⟨i, rfl, hin, hs, hc, hv, hf, hok⟩ := hrel
 obtain ⟨va, vc, rfl⟩ := hv.form'
 have HR := Lib.hid (And.intro hs (And.intro hc (And.intro hv (And.intro hf hok))))
 by_cases hi : i < 4
 rotate_left
 · have d1 : decide ((i : Int) < 4) = false := decide_eq_false (by omega)
   have d2 : decide (i < 4) = false := decide_eq_false hi
   have c4 : wr.cell? ⟨b, 4, none⟩ = some (.int .i64 z) := hc.cell 4
   have hi4 : i = 4 := by omega
   have ht : p.c.take i = p.c := List.take_of_length_le (by have := HH.out.m; omega)
   have hbl := body_len p.c (by rw [← ht]; exact hok)
   have hsl : Sl wr (fun _ => True) 1 (.slice va 104 vc) 104 (bc p.body) := by
    have := Vec.sl0 hv (by omega)
    rw [ht, hi4] at this
    exact this
   have e26 : 26 * i = 104 := by omega
   have HS := Lib.hid (sput_any wr z (.slice va 104 vc) p.body hsl (by have := Vec.capOf hv; rw [e26] at this; exact this))
   have HL := Lib.hid (show lsnMay z = p.may from by
    unfold PPg.may
    have : p.c.all (fun l => l.isEmpty || l.length == 26) = true := by
     rw [List.all_eq_true]
     intro l hl
     exact hok l (by rw [ht]; exact hl)
    rw [this, HZ.out, Bool.and_true])
   rw [e26]
   clear hs hc hv hf hok hi hin hi4 ht hbl hsl e26
   go_wp2_with fail
   refine HS.out.mono ?_
   intro e w2 hp
   unfold PutPost at hp
   by_cases hm : lsnMay z = true
   · rw [if_pos hm] at hp
     obtain ⟨va, vb, rfl, k1, k2, k3, k4, k5⟩ := hp
     have F := Lib.hid (show LpPost w p (.returned (.tuple #[va, vb, .int .i64 0])) w2 from by
      unfold LpPost
      rw [if_pos (by rw [← HL.out]; exact hm)]
      have h1 := HR.out.1.size
      refine ⟨va, vb, rfl, ?_, ?_, HR.out.1.trans k3, fun g hg => by have := k4 g hg; omega, fun g hg => by have := k5 g hg; omega⟩
      · unfold leafA; rw [HZ.out]; exact k1
      · unfold leafB; rw [HZ.out]; exact k2)
     clear k1 k2 k3 k4 k5
     go_wp2_with fail
     go_ret3
     exact F.out
   · rw [if_neg hm] at hp
     obtain ⟨rfl, k⟩ := hp
     have F := Lib.hid (show LpPost w p (.returned (.tuple #[.slice none 0 0, .slice none 0 0, .int .i64 1])) w2 from by
      unfold LpPost
      rw [if_neg (by rw [← HL.out]; exact hm)]
      exact ⟨rfl, HR.out.1.trans k⟩)
     clear k
     go_wp2_with fail
     go_ret3
     exact F.out
 have d1 : decide ((i : Int) < 4) = true := decide_eq_true (by omega)
 have d2 : decide (i < 4) = true := decide_eq_true hi
 have i0 : (0 : Int) ≤ (i : Int) := by omega
 have i1 : (i : Int) < (4 : Int) := by omega
 have u9 : IntKind.i64.wrap ((i : Int) + 1) = (i : Int) + 1 := IntWalk.i64_in _ (by omega)
 obtain ⟨v, hv'⟩ : ∃ v, [v0, v1, v2, v3][i]? = some v := ⟨_, List.getElem?_eq_getElem (by simp; omega)⟩
 obtain ⟨l, hl'⟩ : ∃ l, p.c[i]? = some l := ⟨_, List.getElem?_eq_getElem (by have := HH.out.m; omega)⟩
 have hsl := (HH.out.at_ i v l hv' hl').still hs
 have hix : ∀ w : World, (Instr.index 34 (.agg #[v0, v1, v2, v3]) (.int .i64 (i : Int))).run Tryz.prog w = .ok v w := fun w => by
  rcases (show i = 0 ∨ i = 1 ∨ i = 2 ∨ i = 3 from by omega) with rfl | rfl | rfl | rfl <;> (cases hv'; rfl)
 have HL' := Lib.hid hl'
 have HI' := Lib.hid hi
 clear hs hc hv hf hok hv' hl' hin hi
 obtain ⟨ea, ec, rfl⟩ := hsl.form
 by_cases hok : l = [] ∨ l.length = 26
 rotate_left
 · have n1 : ¬ l.length = 0 := fun e => hok (.inl (List.length_eq_zero_iff.1 e))
   have n2 : ¬ l.length = 26 := fun e => hok (.inr e)
   have F := Lib.hid (show LpPost w p (.returned (.tuple #[.slice none 0 0, .slice none 0 0, .int .i64 1])) wr from by
    unfold LpPost
    rw [if_neg (fun e => by
     unfold PPg.may at e
     rw [Bool.and_eq_true, List.all_eq_true] at e
     exact hok (okC_iff.1 (e.2 l (List.mem_of_getElem? HL'.out))))]
    exact ⟨rfl, HR.out.1⟩)
   obtain ⟨m, hm⟩ : ∃ m, l.length = m := ⟨_, rfl⟩
   rw [hm] at n1 n2 hix
   have e1 : ¬ (m : Int) = 0 := by omega
   have e2 : ¬ (m : Int) = 26 := by omega
   have e3 : ((m : Int) != 0) = true := bne_iff_ne.2 e1
   have e4 : ((m : Int) != 26) = true := bne_iff_ne.2 e2
   clear hok hsl hm
   go_wp2_with fail
   go_ret3
   exact F.out
 have HF := Lib.hid (fun w' (hs : Still wr w') => full_any w' (.slice ea l.length ec) l (hsl.still hs) hok)
 have HOK := Lib.hid hok
 obtain ⟨m, hm⟩ : ∃ m, l.length = m := ⟨_, rfl⟩
 have hm2 : m = 0 ∨ m = 26 := by
  rcases hok with rfl | h
  · exact .inl hm.symm
  · exact .inr (hm.symm.trans h)
 rw [hm] at hix HF
 clear hok hsl hm
 have HNX : ∀ v' w2 v3' w3, Reads w2 1 v' 26 (bc (fullB l)) → Still wr w2 → Vec w3 1 v3' (26 * i + 26) (bc ((p.c.take i).flatMap fullB) ++ bc (fullB l)) → Only (fun k => (Value.slice va (26 * i) vc).ownBlock = some k) w2 w3 → (v3'.ownBlock = (Value.slice va (26 * i) vc).ownBlock ∨ ∃ g, v3'.ownBlock = some g ∧ w2.heap.size ≤ g ∧ g < w3.heap.size) →
  Hid (Still w w3 ∧ cellsAt w3 b [v0, v1, v2, v3, .int .i64 z] ∧ Vec w3 1 v3' (26 * (i + 1)) (bc ((p.c.take (i + 1)).flatMap fullB)) ∧ (∀ g, v3'.ownBlock = some g → b < g ∧ g < w3.heap.size) ∧ ∀ l ∈ p.c.take (i + 1), okC l = true) := fun v' w2 v3' w3 _ hs2 hv3 ho hb3 => by
  obtain ⟨hs, hc, hv, hf, hok⟩ := HR.out
  have hz2 := hs2.size
  have hz3 := ho.size
  have hbs := hc.lt
  have e : p.c.take (i + 1) = p.c.take i ++ [l] := by rw [List.take_add_one, HL'.out]; rfl
  refine Lib.hid ⟨?_, (hc.only hs2 fun e => e).only ho (fun e => by have := (hf b e).1; omega), ?_, ?_, ?_⟩
  · refine (hs.trans hs2).andThen ho fun g hg e => ?_
    have := (hf g e).1
    have := H1.out.2.2
    omega
  · rw [e, List.flatMap_append, show 26 * (i + 1) = 26 * i + 26 by omega]
    have e2 : bc ((p.c.take i).flatMap fullB ++ [l].flatMap fullB) = bc ((p.c.take i).flatMap fullB) ++ bc (fullB l) := by
     unfold bc
     rw [List.map_append]
     simp
    rw [e2]
    exact hv3
  · intro g hg
    rcases hb3 with hb3 | ⟨g', h1, h2, h3⟩
    · rw [hb3] at hg
      have := hf g hg
      omega
    · rw [h1] at hg
      cases hg
      omega
  · rw [e]
    intro x hx
    rcases List.mem_append.1 hx with hx | hx
    · exact hok x hx
    · rw [List.mem_singleton.1 hx]
      exact okC_iff.2 HOK.out
 have HNX := Lib.hid HNX
 have HB1 := Lib.hid (show 26 * i + 26 ≤ maxLen from by simp only [maxLen]; omega)
 have HB2 := Lib.hid (show (26 * i + 26) * 1 ≤ 140737488355328 from by omega)
 rcases hm2 with rfl | rfl
 all_goals
  go_upto_region 6 with fail
  go_upto_region 7 with fail
  go_wp2_with fail
  refine (HF.out wr (Still.refl _)).mono ?_
  rintro e w2 ⟨v', rfl, hr2, hs2⟩
  have HR2 := Lib.hid (And.intro hr2 hs2)
  have HA2 := Lib.hid (show Vec w2 1 (.slice va (26 * i) vc) (26 * i) (bc ((p.c.take i).flatMap fullB)) from HR.out.2.2.1.belowAll (Only.below hs2 (Nat.le_refl _) fun _ _ e => e))
  obtain ⟨xa, xc, rfl⟩ : ∃ xa xc, v' = .slice xa 26 xc := by
   rcases hr2.2 with ⟨rfl, e⟩ | ⟨a, c, rfl, -⟩
   · omega
   · exact ⟨_, _, rfl⟩
  clear hr2 hs2
  go_wp2_with (at_builtin; refine wpList_append_vec rfl _ _ 22 rfl 5 ti _ 1 1 Tryz.underlying22 HI.out.1 HI.out.2.1 HI.out.2.2.1 HI.out.2.2.2 rfl (by decide) (.slice va (26 * i) vc) (26 * i) (bc ((p.c.take i).flatMap fullB)) (by simp [Act.eval]) HA2.out (.slice xa 26 xc) 26 (bc (fullB l)) (by simp [Act.eval]) HR2.out.1 (bc_one _) HB1.out HB2.out ?_; intro v3' w3 hv3 ho3 hb3; have HN := HNX.out _ _ v3' w3 HR2.out.1 HR2.out.2 hv3 ho3 hb3; clear hv3 ho3 hb3)
  go_roundw
  case rel => exact ⟨i + 1, by go_num, by have := HI'.out; omega, HN.out⟩
  case measure => first | (simp [intOf]; done) | (simp [intOf]; have := HI'.out; omega)
end Go.Proofs.YtlcfoeikamkpmaaGreat

namespace Go.Proofs.YtlcfoeikamkpmaaGreat
open Go.RowKit Go.Wh Go.Maps

def stubB (p c : Int) : List Int := 2 :: p :: c :: List.replicate 23 0
def stubMay (p c : Int) : Bool := decide (0 ≤ p) && decide (p < 32) && decide (0 ≤ c) && decide (c < 4)
def CsPost (w : World) (p c : Int) (e : Ending) (w' : World) : Prop :=
 if stubMay p c = true then ∃ v', e = .returned (.tuple #[v', .int .i64 0]) ∧ Vec w' 1 v' 26 (bc (stubB p c)) ∧ Still w w' ∧ ∀ g, v'.ownBlock = some g → w.heap.size ≤ g ∧ g < w'.heap.size
 else e = .returned (.tuple #[.slice none 0 0, .int .i64 1]) ∧ Still w w'
set_option maxHeartbeats 1000000 in
set_option maxRecDepth 100000 in
theorem cstub_any (w : World) (p c : Int) :
 Calls Tryz.prog 146 #[.agg #[.int .i64 p, .int .i64 c]] w (CsPost w p c) := by
 have hmk : ∀ w : World, (Instr.makeSlice 22 (.int .i64 26) (.int .i64 26)).run Tryz.prog w = .ok (.slice (some ⟨w.heap.size, 0, none⟩) 26 26) (w.alloc (.cells zeros26 5)) := make26
 cases hm : stubMay p c with
 | false =>
  have F := Lib.hid (fun w' (hs : Still w w') => show CsPost w p c (.returned (.tuple #[.slice none 0 0, .int .i64 1])) w' from by
   unfold CsPost
   rw [if_neg (by rw [hm]; decide)]
   exact ⟨rfl, hs⟩)
  unfold stubMay at hm
  simp only [Bool.and_eq_false_iff, decide_eq_false_iff_not] at hm
  have hm' : p < 0 ∨ (0 ≤ p ∧ 32 ≤ p) ∨ ((0 ≤ p ∧ p < 32) ∧ c < 0) ∨ (0 ≤ p ∧ p < 32) ∧ 0 ≤ c ∧ 4 ≤ c := by omega
  clear hm hmk
  have F2 := Lib.hid (F.out (w.alloc (.cells #[.int .i64 p, .int .i64 c] 64)) ((Still.refl w).alloc _))
  clear F
  rcases hm' with h | ⟨h1, h⟩ | ⟨⟨h1, h2⟩, h⟩ | ⟨⟨h1, h2⟩, h3, h⟩ <;>
  · go_enter Tryz.func146, Tryz.ntmps146
    go_wp2_with fail
    go_ret2
    exact F2.out
 | true =>
  have HM := Lib.hid hm
  unfold stubMay at hm
  simp only [Bool.and_eq_true, decide_eq_true_eq] at hm
  obtain ⟨⟨⟨h1, h2⟩, h3⟩, h4⟩ := hm
  have u1 : IntKind.u8.wrap p = p := by rw [IntKind.wrap_u8]; omega
  have u2 : IntKind.u8.wrap c = c := by rw [IntKind.wrap_u8]; omega
  go_enter Tryz.func146, Tryz.ntmps146
  go_upto_region 4 with fail
  have hc := (cellsAt_new w [.int .i64 p, .int .i64 c] 64).alloc (.cells zeros26 5)
  have hB := cellsAt_new (w.alloc (.cells #[.int .i64 p, .int .i64 c] 64)) (bc (List.replicate 26 0)) 5
  have hz : (w.alloc (.cells #[.int .i64 p, .int .i64 c] 64)).heap.size = w.heap.size + 1 := by simp
  rw [hz] at hB
  change cellsAt ((w.alloc (.cells #[.int .i64 p, .int .i64 c] 64)).alloc (.cells zeros26 5)) w.heap.size _ at hc
  change cellsAt ((w.alloc (.cells #[.int .i64 p, .int .i64 c] 64)).alloc (.cells zeros26 5)) (w.heap.size + 1) _ at hB
  have hs : Still w ((w.alloc (.cells #[.int .i64 p, .int .i64 c] 64)).alloc (.cells zeros26 5)) := ((Still.refl w).alloc _).alloc _
  clear hmk hz
  generalize ((w.alloc (.cells #[.int .i64 p, .int .i64 c] 64)).alloc (.cells zeros26 5)) = w1 at *
  obtain ⟨b, hb⟩ : ∃ b, w.heap.size = b := ⟨_, rfl⟩
  obtain ⟨B, hBB⟩ : ∃ B, w.heap.size + 1 = B := ⟨_, rfl⟩
  rw [hBB] at hB ⊢
  rw [hb] at hc ⊢
  have hne : b ≠ B := by omega
  have k0 : w1.cell? ⟨B, 0, none⟩ = some (.int .u8 0) := hB.cell 0
  have k1 : w1.cell? ⟨B, 1, none⟩ = some (.int .u8 0) := hB.cell 1
  have k2 : w1.cell? ⟨B, 2, none⟩ = some (.int .u8 0) := hB.cell 2
  have f0 : w1.frozen? ⟨B, 0, none⟩ = false := hB.free 0
  have f1 : w1.frozen? ⟨B, 1, none⟩ = false := hB.free 1
  have f2 : w1.frozen? ⟨B, 2, none⟩ = false := hB.free 2
  have o0 : Only (fun g => g = B) w1 w1 := Only.refl _ _
  have o1 : Only (fun g => g = B) w1 (w1.setCell ⟨B, 0, none⟩ (.int .u8 2)) := o0.setCell (p := ⟨B, 0, none⟩) (.inl rfl) _
  have o2 : Only (fun g => g = B) w1 ((w1.setCell ⟨B, 0, none⟩ (.int .u8 2)).setCell ⟨B, 1, none⟩ (.int .u8 p)) := o1.setCell (p := ⟨B, 1, none⟩) (.inl rfl) _
  have HO := Lib.hid (And.intro o0.drew (And.intro o1.drew o2.drew))
  have SS := Lib.hid (fun w' (ho : Only (fun g => g = B) w1 w') => show w'.cell? ⟨b, 0, none⟩ = some (.int .i64 p) ∧ w'.cell? ⟨b, 1, none⟩ = some (.int .i64 c) from ⟨(hc.only ho fun e => hne e).cell 0, (hc.only ho fun e => hne e).cell 1⟩)
  have HF := Lib.hid (show Only (fun g => g = B) w1 (((w1.setCell ⟨B, 0, none⟩ (.int .u8 2)).setCell ⟨B, 1, none⟩ (.int .u8 p)).setCell ⟨B, 2, none⟩ (.int .u8 c)).drew ∧ CsPost w p c (.returned (.tuple #[.slice (some ⟨B, 0, none⟩) 26 26, .int .i64 0])) (((w1.setCell ⟨B, 0, none⟩ (.int .u8 2)).setCell ⟨B, 1, none⟩ (.int .u8 p)).setCell ⟨B, 2, none⟩ (.int .u8 c)).drew from by
   have ho : Only (fun g => g = B) w1 (((w1.setCell ⟨B, 0, none⟩ (.int .u8 2)).setCell ⟨B, 1, none⟩ (.int .u8 p)).setCell ⟨B, 2, none⟩ (.int .u8 c)).drew := (o2.setCell (p := ⟨B, 2, none⟩) (.inl rfl) _).drew
   refine ⟨ho, ?_⟩
   unfold CsPost
   rw [if_pos HM.out]
   have hc3 := ((hB.setCell 0 (.int .u8 2)).setCell 1 (.int .u8 p)).setCell 2 (.int .u8 c)
   have hlt := hc3.lt
   have hl : (((bc (List.replicate 26 0)).set 0 (.int .u8 2)).set 1 (.int .u8 p)).set 2 (.int .u8 c) = bc (stubB p c) := rfl
   rw [hl] at hc3
   obtain ⟨t, ht⟩ := hc3
   refine ⟨_, rfl, Vec.drew (vec_block (size := 1) (n := 26) ht rfl (by decide)), hs.andThen ho fun g hg e => by omega, fun g hg => ?_⟩
   have e : B = g := Option.some.inj hg
   rw [← e]
   exact ⟨by omega, hlt⟩)
  clear hc hB hs o0 o1 o2
  go_region_held3 (fun w' => w'.cell? ⟨b, 0, none⟩ = some (.int .i64 p) ∧ w'.cell? ⟨b, 1, none⟩ = some (.int .i64 c)) (first | exact SS.out _ HO.out.1 | exact SS.out _ HO.out.2.1 | exact SS.out _ HO.out.2.2 | exact SS.out _ HF.out.1) (fail)
  have F := Lib.hid HF.out.2
  clear HF
  go_wp2_with fail
  go_ret2
  exact F.out
end Go.Proofs.YtlcfoeikamkpmaaGreat

namespace Go.Proofs.YtlcfoeikamkpmaaGreat
open Go.RowKit Go.Wh Go.Maps

set_option maxHeartbeats 1000000 in
set_option maxRecDepth 100000 in
theorem part_any {Q : Nat → Prop} (w : World) (v : Value) (l : List Int) (h : Sl w Q 1 v 26 (bc l)) (hc : Cap 26 v) (hb : Byt l) (i most : Nat) (hi : i + 1 + most ≤ 26) :
 Calls Tryz.prog 144 #[v, .int .i64 (i : Int), .int .i64 (most : Int)] w (SamePost w (.string (strOfNums (partT l i most)))) := by
 have hln : l.length = 26 := by have := h.1; rw [bc_length] at this; omega
 obtain ⟨x, hx⟩ : ∃ x, l[i]? = some x := ⟨_, List.getElem?_eq_getElem (by omega)⟩
 have hx2 := hb x (List.mem_of_getElem? hx)
 obtain ⟨M, hM⟩ : ∃ M : Nat, min x (most : Int) = (M : Int) := ⟨(min x (most : Int)).toNat, by omega⟩
 have hMm : M ≤ most := by omega
 obtain ⟨pv, r1, -, -, -, hp⟩ := h.part (P := Tryz.prog) (size := 1) 22 Tryz.underlying22 (fun w => rfl) hc (show i + 1 ≤ i + 1 + M by omega) (show i + 1 + M ≤ 26 by omega)
 have hp' := hp w Q h
 have e1 : ((bc l).drop ((i + 1) * 1)).take ((i + 1 + M - (i + 1)) * 1) = bc (partT l i most) := by
  unfold bc partT
  rw [Nat.mul_one, Nat.mul_one, List.map_take, List.map_drop, List.getD_eq_getElem?_getD, hx]
  congr 1
  show i + 1 + M - (i + 1) = min x.toNat most
  omega
 rw [e1] at hp'
 have q1 := convB hp'
 obtain ⟨a, c, rfl⟩ := h.form
 obtain ⟨pa, pc, rfl⟩ := hp'.form
 obtain ⟨g, o, c', e, -, -, hcs⟩ := h.pos (by omega)
 cases e
 have p0 : w.cell? ⟨g, o + i, none⟩ = some (.int .u8 x) := hcs i _ (bc_get hx)
 have i0 : (0 : Int) ≤ (i : Int) := by omega
 have i1 : (i : Int) < 26 := by omega
 obtain ⟨lo, hlo⟩ : ∃ lo : Nat, i + 1 = lo := ⟨_, rfl⟩
 obtain ⟨hh, hhi⟩ : ∃ hh : Nat, lo + M = hh := ⟨_, rfl⟩
 have a1 : (i : Int) + 1 = (lo : Int) := by omega
 have a2 : (lo : Int) + (M : Int) = (hh : Int) := by omega
 have u1 : IntKind.i64.wrap (lo : Int) = (lo : Int) := IntWalk.i64_in _ (by omega)
 have u2 : IntKind.i64.wrap (hh : Int) = (hh : Int) := IntWalk.i64_in _ (by omega)
 have wx : wrap64 x = x := IntWalk.wrap64_in x ⟨by omega, by omega⟩
 have wx2 : IntKind.i64.wrap x = x := IntWalk.i64_in _ (by omega)
 have hx0 := hx2.1
 have hx3 := hx2.2
 rw [hlo, hhi] at r1
 rw [hlo, hhi] at q1
 have F := Lib.hid (show SamePost w (.string (strOfNums (partT l i most))) (.returned (.string (strOfNums (partT l i most)))) w from ⟨rfl, rfl⟩)
 obtain ⟨n, hn⟩ : ∃ n, hh - lo = n := ⟨_, rfl⟩
 rw [hn] at r1
 rw [hn] at q1
 clear h hc hp hp' e1 hcs hx hln hb hlo hhi hn hMm hi hx2
 generalize strOfNums (partT l i most) = s at *
 go_enter Tryz.func144, Tryz.ntmps144
 go_wp2_with fail
 go_ret
 exact F.out
end Go.Proofs.YtlcfoeikamkpmaaGreat

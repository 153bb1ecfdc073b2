/- The writer of bytes: numbers. Conditions: it lies in memory; numbers from 0 on. -/
import Derived.Test.YtojkggppcmdepaaGreatTrG
import Derived.Test.YtojkggppcmdepaaGreatTrN
namespace Go.Proofs.YtojkggppcmdepaaGreat
open Go.RowKit Go.Wh Go.Maps

/-- Numbers as cells. -/
def ic (l : List Int) : List Value := l.map fun z => .int .i64 z
/-- The writer at r, of the bytes S; v: its slice. Since W nothing but X has turned. -/
structure WrAt (W : World) (X : Nat → Prop) (r : Nat) (S : List Int) (v : Value) (w : World) : Prop where
  only : Only X W w
  rx : X r
  rl : r < W.heap.size
  cells : cellsAt w r [v]
  vec : Vec w 1 v S.length (bc S)
  own : ∀ g, v.ownBlock = some g → (X g ∨ W.heap.size ≤ g) ∧ g ≠ r ∧ g < w.heap.size
  byt : Byt S
section
variable {W w w' w2 : World} {X : Nat → Prop} {r : Nat} {S S' : List Int} {v v' : Value}
theorem WrAt.still (h : WrAt W X r S v w) (hs : Still w w') : WrAt W X r S v w' :=
  ⟨h.only.trans (hs.mono fun _ e => e.elim), h.rx, h.rl, h.cells.only hs (fun e => e), h.vec.only hs (fun _ _ e => e), fun g hg => ⟨(h.own g hg).1, (h.own g hg).2.1, Nat.lt_of_lt_of_le (h.own g hg).2.2 hs.size⟩, h.byt⟩
/-- What belongs to the writer. -/
def Its (r : Nat) (v : Value) (b : Nat) : Prop := b = r ∨ v.ownBlock = some b
theorem WrAt.base (h : WrAt W X r S v w) : WrAt w (Its r v) r S v w := ⟨Only.refl _ _, .inl rfl, h.cells.lt, h.cells, h.vec, fun g hg => ⟨.inl (.inr hg), (h.own g hg).2⟩, h.byt⟩
theorem WrAt.back (h : WrAt W X r S v w) (k : WrAt w (Its r v) r S' v' w') : WrAt W X r S' v' w' :=
  ⟨h.only.andThen k.only fun i hi e => e.elim (fun e => e ▸ h.rx) fun e => (h.own i e).1.elim id fun e => by omega, h.rx, h.rl, k.cells, k.vec, fun g hg => ⟨(k.own g hg).1.elim (fun e => e.elim (fun e => absurd e (k.own g hg).2.1) fun e => (h.own g e).1) fun e => .inr (Nat.le_trans h.only.size e), (k.own g hg).2⟩, k.byt⟩
theorem WrAt.apart (h : WrAt W X r S v w) {b : Nat} (hb : w.heap.size ≤ b) : ¬ Its r v b := fun e => e.elim (fun e => by have := h.cells.lt; omega) fun e => by have := (h.own b e).2.2; omega
theorem WrAt.off (h : WrAt W X r S v w) {b : Nat} (hx : ¬ X b) (hb : b < W.heap.size) : ¬ Its r v b := fun e => e.elim (fun e => hx (e ▸ h.rx)) fun e => (h.own b e).1.elim hx fun e => by omega
theorem WrAt.put {Y : List Int} (h : WrAt W X r S v w) (hv : Vec w' 1 v' (S.length + Y.length) (bc S ++ bc Y)) (ho : Only (fun k => v.ownBlock = some k) w w') (hb : v'.ownBlock = v.ownBlock ∨ ∃ g, v'.ownBlock = some g ∧ w.heap.size ≤ g ∧ g < w'.heap.size) (hx : Byt Y) : WrAt W X r (S ++ Y) v' (w'.setCell ⟨r, 0, none⟩ v') := by
  have hz : (w'.setCell ⟨r, 0, none⟩ v').heap.size = w'.heap.size := by simp [World.setCell]
  have z1 := h.only.size
  have z2 := ho.size
  have hs := setCell_only w' ⟨r, 0, none⟩ v'
  have hlt := h.cells.lt
  have hv' : ∀ g, v'.ownBlock = some g → (X g ∨ W.heap.size ≤ g) ∧ g ≠ r ∧ g < w'.heap.size := fun g hg => by
    rcases hb with e | ⟨g', e, e1, e2⟩
    · rw [e] at hg
      have := h.own g hg
      exact ⟨this.1, this.2.1, by omega⟩
    · rw [e] at hg
      injection hg with hg
      exact ⟨.inr (by omega), by omega, by omega⟩
  refine ⟨?_, h.rx, h.rl, ?_, ?_, fun g hg => by rw [hz]; exact hv' g hg, h.byt.append hx⟩
  · have h1 : Only X W w' := h.only.andThen ho fun k hk e => (h.own k e).1.elim id fun e => by omega
    exact h1.trans (hs.mono fun b e => by rw [show b = r from e]; exact h.rx)
  · exact (h.cells.only ho fun e => (h.own r e).2.1 rfl).setCell 0 v'
  · rw [List.length_append, bc_append]
    exact hv.only hs fun g hg e => (hv' g hg).2.1 e
end
theorem byte_shr (z : Int) (q : Nat) : IntKind.u8.wrap (z / 2 ^ (8 * (q : Int)).toNat) = z / 256 ^ q % 256 := by
  have e : (8 * (q : Int)).toNat = 8 * q := by omega
  rw [e, Int.pow_mul]
  have e2 : (2 : Int) ^ 8 = 256 := rfl
  rw [e2]
  generalize z / 256 ^ q = x
  rw [IntKind.wrap_u8]
/-- What the writer's functions leave. -/
def WPost (W : World) (X : Nat → Prop) (r : Nat) (S : List Int) (e : Ending) (w' : World) : Prop := e = .returned (.tuple #[]) ∧ ∃ v, WrAt W X r S v w'

def NumRel (W : World) (X : Nat → Prop) (r : Nat) (S T : List Int) (a : Addr) (l : List Int) (w : World) : Prop := ∃ v pre, WrAt W X r pre v w ∧ pre ++ T = S ∧ (∀ j u, (ic l)[j]? = some u → w.cell? (a.add j) = some u) ∧ v.ownBlock ≠ some a.block ∧ r ≠ a.block

set_option maxHeartbeats 2000000 in
set_option maxRecDepth 100000 in
theorem num_any (W w : World) (X : Nat → Prop) (r : Nat) (S : List Int) (v : Value) (n : Nat) (a : Addr) (m c : Nat) (l : List Int) (h : WrAt W X r S v w) (hl : Reads w 1 (.slice (some a) m c) m (ic l)) (hv : v.ownBlock ≠ some a.block) (hr : r ≠ a.block) (hn : n ≤ 3) (hp : ∀ z ∈ l, 0 ≤ z) (hS : S.length ≤ 100000) (hm : m ≤ 10) :
    Calls Tryz.prog 60 #[.pointer (some ⟨r, 0, none⟩), .int .i64 n, .slice (some a) m c] w (WPost W X r (S ++ numsB n l)) := by
  have H := Lib.hid (And.intro h (And.intro hl (And.intro hv (And.intro hr (And.intro hn (And.intro hp (And.intro hS hm)))))))
  obtain ⟨i0, hi0, hz0, hz1, hz2⟩ := info_parts info_b
  have HI := Lib.hid (And.intro hi0 (And.intro hz0 (And.intro hz1 hz2)))
  have HST := Lib.hid (show NumRel W X r (S ++ numsB n l) (numsB n (l.drop 0)) a l w from ⟨v, S, h, rfl, fun j u hj => by
    rcases hl.2 with ⟨e, _⟩ | ⟨a', c', e, hc⟩
    · cases e
    · cases e
      exact hc j u hj, hv, hr⟩)
  have hlm : l.length = m := by have := hl.1; unfold ic at this; rw [List.length_map] at this; omega
  have HL := Lib.hid hlm
  clear h hl hv hr hn hp hS hm hi0 hz0 hz1 hz2 hlm
  go_enter Tryz.func60, Tryz.ntmps60
  go_wp2_with fail
  go_loopw [11] (fun s wr => ∃ k : Nat, s = .int .i64 k ∧ k ≤ m ∧ NumRel W X r (S ++ numsB n l) (numsB n (l.drop k)) a l wr) (fun s _ => m - (intOf s).toNat)
  case atStart => exact ⟨0, rfl, Nat.zero_le _, HST.out⟩
  case round =>
    clear HST
    obtain ⟨k, rfl, hk, hr0⟩ := hrel
    have HR := Lib.hid hr0
    by_cases hi : k < m
    · obtain ⟨z, hz⟩ : ∃ z, l[k]? = some z := ⟨_, List.getElem?_eq_getElem (by have := HL.out; omega)⟩
      obtain ⟨_, _, _, _, hc, _, _⟩ := hr0
      have c1 := hc k (.int .i64 z) (by unfold ic; rw [List.getElem?_map, hz]; rfl)
      have b1 : decide ((k : Int) < (m : Int)) = true := by simp; omega
      have b2 : decide (k < m) = true := by simp; omega
      have b3 : (0 : Int) ≤ (k : Int) := by omega
      have b4 : (k : Int) < (m : Int) := by omega
      have HZ := Lib.hid hz
      have hn3 := H.out.2.2.2.2.1
      have u9 : IntKind.i64.wrap ((k : Int) + 1) = (k : Int) + 1 := IntWalk.i64_in _ (by have := H.out.2.2.2.2.2.2.2; omega)
      have HR2 := Lib.hid (show NumRel W X r (S ++ numsB n l) (numB n z ++ numsB n (l.drop (k + 1))) a l wr from by
        have := HR.out
        rwa [List.drop_eq_getElem_cons (by have := HL.out; omega), numsB_cons, show l[k]'(by have := HL.out; omega) = z from (List.getElem?_eq_some_iff.1 hz).2] at this)
      clear hc hz
      go_wp2_with fail
      obtain ⟨wo, rfl⟩ : ∃ wo : World, wo = wr := ⟨_, rfl⟩
      go_loopw [8] (fun s wr => ∃ q : Nat, s = .int .i64 ((q : Int) - 1) ∧ q ≤ n ∧ NumRel W X r (S ++ numsB n l) (numB q z ++ numsB n (l.drop (k + 1))) a l wr) (fun s _ => ((intOf s) + 1).toNat)
      case atStart => exact ⟨n, rfl, Nat.le_refl _, HR2.out⟩
      case round =>
        clear HR2
        obtain ⟨q, rfl, hq, hr1⟩ := hrel
        by_cases hq0 : 0 < q
        · obtain ⟨q, rfl⟩ : ∃ q', q = q' + 1 := ⟨q - 1, by omega⟩
          have e0 : (((q + 1 : Nat) : Int) - 1) = (q : Int) := by omega
          rw [e0]
          have c1 : decide ((0 : Int) ≤ (q : Int)) = true := by simp
          obtain ⟨v, pre, hw, hpre, hcs, hva, hra⟩ := hr1
          obtain ⟨va, vc, rfl⟩ := hw.vec.form'
          have SS := Lib.hid (fun w' (hs : Still wr w') => show w'.cell? ⟨r, 0, none⟩ = some (.slice va pre.length vc) from Still.cell hs (hw.cells.cell 0))
          have HW := Lib.hid (And.intro hw (And.intro hpre (And.intro hcs (And.intro hva hra))))
          have HFIN := Lib.hid (fun tt v' w' (hv' : Vec w' 1 v' (pre.length + 1) (bc pre ++ [.int .u8 (IntKind.u8.wrap (z / 2 ^ (8 * (q : Int)).toNat))])) (ho' : Only (fun k => (Value.slice va pre.length vc).ownBlock = some k) (wr.drew.alloc (.cells #[.int .u8 (IntKind.u8.wrap (z / 2 ^ (8 * (q : Int)).toNat))] tt)) w')
              (hb' : v'.ownBlock = (Value.slice va pre.length vc).ownBlock ∨ ∃ g, v'.ownBlock = some g ∧ (wr.drew.alloc (.cells #[.int .u8 (IntKind.u8.wrap (z / 2 ^ (8 * (q : Int)).toNat))] tt)).heap.size ≤ g ∧ g < w'.heap.size) =>
            show w'.cell? ⟨r, 0, none⟩ = some (.slice va pre.length vc) ∧ w'.frozen? ⟨r, 0, none⟩ = false ∧ NumRel W X r (S ++ numsB n l) (numB q z ++ numsB n (l.drop (k + 1))) a l (w'.setCell ⟨r, 0, none⟩ v') from by
              have z0 := H.out.2.2.2.2.2.1 z (List.mem_of_getElem? HZ.out)
              have hst : Still wr (wr.drew.alloc (.cells #[.int .u8 (IntKind.u8.wrap (z / 2 ^ (8 * (q : Int)).toNat))] tt)) := (still_drew wr).alloc _
              rw [byte_shr] at hv' ho' hb' hst
              have h1 := hw.still hst
              have hne : ¬ (Value.slice va pre.length vc).ownBlock = some r := fun e => (hw.own r e).2.1 rfl
              have hc1 := h1.cells.only ho' hne
              refine ⟨hc1.cell 0, hc1.free 0, ?_⟩
              have hp := h1.put (Y := [z / 256 ^ q % 256]) hv' ho' hb' (fun y hy => by rw [List.mem_singleton.1 hy]; omega)
              refine ⟨v', pre ++ [z / 256 ^ q % 256], hp, ?_, fun j u hj => ?_, fun e => ?_, hra⟩
              · rw [← hpre, List.append_assoc]
                rfl
              · have hcu := hcs j u hj
                have hlt := World.block_lt_of_cell? _ _ hcu
                have hb : (a.add j).block = a.block := by unfold Addr.add; split <;> rfl
                rw [hb] at hlt
                have e1 := Still.cell hst hcu
                have e2 := (ho'.cell (World.block_lt_of_cell? _ _ e1) (by rw [hb]; exact hva)).trans e1
                exact ((setCell_only w' ⟨r, 0, none⟩ v').cell (World.block_lt_of_cell? _ _ e2) (by rw [hb]; exact fun e => hra e.symm)).trans e2
              · have hcu := hcs k _ (show (ic l)[k]? = some (.int .i64 z) from by unfold ic; rw [List.getElem?_map, HZ.out]; rfl)
                have hlt := World.block_lt_of_cell? _ _ hcu
                have hb : (a.add k).block = a.block := by unfold Addr.add; split <;> rfl
                rw [hb] at hlt
                rcases hb' with e' | ⟨g, e', e1, e2⟩
                · rw [e'] at e
                  exact hva e
                · rw [e'] at e
                  injection e with e
                  have := hst.size
                  omega)
          have HVT := Lib.hid (fun A => show Vec (wr.drew.alloc A) 1 (.slice va pre.length vc) pre.length (bc pre) from hw.vec.drew.alloc A)
          have HLN := Lib.hid (show pre.length ≤ 101000 from by
            have e1 := congrArg List.length hpre
            simp only [List.length_append, numsB_length] at e1
            have e2 := H.out.2.2.2.2.2.2
            have e3 := HL.out
            have e4 : l.length * n ≤ 10 * 3 := Nat.mul_le_mul (by omega) hn3
            omega)
          have HRX := Lib.hid (fun tt => show Reads (wr.drew.alloc (.cells #[.int .u8 (IntKind.u8.wrap (z / 2 ^ (8 * (q : Int)).toNat))] tt)) 1 (.slice (some ⟨wr.heap.size, 0, none⟩) 1 1) 1 [.int .u8 (IntKind.u8.wrap (z / 2 ^ (8 * (q : Int)).toNat))] from
            (cellsAt_new wr.drew [.int .u8 (IntKind.u8.wrap (z / 2 ^ (8 * (q : Int)).toNat))] tt).reads rfl)
          clear hw hpre hcs hva hra
          generalize hpl : pre.length = pl at *
          have HPL := Lib.hid hpl
          clear hpl
          have u8 : IntKind.i64.wrap (8 * (q : Int)) = 8 * (q : Int) := IntWalk.i64_in _ (by omega)
          have s0 : (0 : Int) ≤ 8 * (q : Int) := by omega
          have s1 : 8 * (q : Int) < 64 := by omega
          have z0 := H.out.2.2.2.2.2.1 z (List.mem_of_getElem? HZ.out)
          go_wp2_with fail
          refine wp_region_D_drew (D := (fun i => [0, 1, 2, 3, 12, 13, 14].contains i)) (S := (fun w' => w'.cell? ⟨r, 0, none⟩ = some (.slice va pl vc))) (by kernel_rfl) ?_ (fun hHeld => ?_)
          · exact SS.out _ (still_drew _)
          (refine takeD (i := 0) (some 21) (v := ?_) rfl (by rfl) (by rfl) (by kernel_rfl) (by rfl) (fun _ _ _ h => h) ?_ ?_; rotate_left; (intro w; go_simp; try with_reducible rfl); try go_frame)
          (refine takeD (i := 1) (some 22) (v := ?_) rfl (by rfl) (by rfl) (by kernel_rfl) (by rfl) (fun _ _ _ h => h) ?_ ?_; rotate_left; (intro w; go_simp; try with_reducible rfl); try go_frame)
          (refine takeD (i := 2) (some 23) (v := ?_) rfl (by rfl) (by rfl) (by kernel_rfl) (by rfl) (fun _ _ _ h => h) ?_ ?_; rotate_left; (intro w; go_simp; try with_reducible rfl); try go_frame)
          (refine takeD (i := 3) (some 24) (v := ?_) rfl (by rfl) (by rfl) (by kernel_rfl) (by rfl) (fun _ _ _ h => h) ?_ ?_; rotate_left; (intro w; go_simp; try with_reducible rfl); try go_frame)
          (refine takeS (i := 4) (some 25) (v := ?_) rfl (by rfl) (by rfl) (by kernel_rfl) (by rfl) (fun _ _ _ h => h) (by assumption) ?_ ?_; rotate_left; (intro w hSw; (try dsimp only at hSw); go_simp; try with_reducible rfl); try go_frame)
          (refine takeS (i := 5) (some 26) (v := ?_) rfl (by rfl) (by rfl) (by kernel_rfl) (by rfl) (fun _ _ _ h => h) (by assumption) ?_ ?_; rotate_left; (intro w hSw; (try dsimp only at hSw); go_simp; try with_reducible rfl); try go_frame)
          (refine takeS (i := 6) (some 27) (v := ?_) rfl (by rfl) (by rfl) (by kernel_rfl) (by rfl) (fun _ _ _ h => h) (by assumption) ?_ ?_; rotate_left; (intro w hSw; (try dsimp only at hSw); go_simp; try with_reducible rfl); try go_frame)
          (refine takeS (i := 7) (some 28) (v := ?_) rfl (by rfl) (by rfl) (by kernel_rfl) (by rfl) (fun _ _ _ h => h) (by assumption) ?_ ?_; rotate_left; (intro w hSw; (try dsimp only at hSw); go_simp; try with_reducible rfl); try go_frame)
          (refine takeS (i := 8) (some 29) (v := ?_) rfl (by rfl) (by rfl) (by kernel_rfl) (by rfl) (fun _ _ _ h => h) (by assumption) ?_ ?_; rotate_left; (intro w hSw; (try dsimp only at hSw); go_simp; try with_reducible rfl); try go_frame)
          (refine takeS (i := 9) (some 30) (v := ?_) rfl (by rfl) (by rfl) (by kernel_rfl) (by rfl) (fun _ _ _ h => h) (by assumption) ?_ ?_; rotate_left; (intro w hSw; (try dsimp only at hSw); go_simp; try with_reducible rfl); try go_frame)
          refine wpAnyD_ready (rs := [10]) (by kernel_rfl) (by simp) ?_
          refine ReadyD.cons rfl (fun K hK => ?_) ?_
          go_simp
          (refine hK.out _ _ ?_ (fun hNew => ?_); (focus (exact SS.out _ ((still_drew _).alloc _))); clear hHeld; have hHeld := hNew; clear hNew)
          (clear hK K; try go_frame)
          refine wpAnyD_ready (rs := [11]) (by kernel_rfl) (by simp) ?_
          refine ReadyD.cons rfl (fun K hK => ?_) ?_
          refine step_append_vec rfl _ _ 23 rfl 5 i0 _ 1 1 Tryz.underlying23 HI.out.1 HI.out.2.1 HI.out.2.2.1 HI.out.2.2.2 rfl (by decide) (.slice va pl vc) pl (bc pre) (by simp [Act.eval]) (HVT.out _) (.slice (some ⟨wr.heap.size, 0, none⟩) 1 1) 1 [.int .u8 (IntKind.u8.wrap (z / 2 ^ (8 * (q : Int)).toNat))] (by simp [Act.eval]) (HRX.out _) (by intro u hu; simp at hu; rw [hu]; rfl) (by have := HLN.out; simp only [maxLen]; omega) (by have := HLN.out; omega) ?_
          intro v' w' hv' ho' hb'
          obtain ⟨k1, k2, k3⟩ := HFIN.out _ v' w' hv' ho' hb'
          obtain ⟨va', vc', rfl⟩ := hv'.form'
          have HK3 := Lib.hid k3
          (refine hK.out _ _ ?_ (fun hNew => ?_); (focus (exact k1)); clear hHeld; have hHeld := hNew; clear hNew)
          (clear hK K hv' ho' hb' k3; try go_frame)
          (refine takeD (i := 12) (some 33) (v := ?_) rfl (by rfl) (by rfl) (by kernel_rfl) (by rfl) (fun _ _ _ h => h) ?_ ?_; rotate_left; (intro w; go_simp; try with_reducible rfl); try go_frame)
          (refine takeD (i := 13) (some 34) (v := ?_) rfl (by rfl) (by rfl) (by kernel_rfl) (by rfl) (fun _ _ _ h => h) ?_ ?_; rotate_left; (intro w; go_simp; try with_reducible rfl); try go_frame)
          refine wpAnyD_ready (rs := [14]) (by kernel_rfl) (by simp) ?_
          refine ReadyD.last rfl (by rfl) (fun K hK => ?_) ?_
          go_simp
          refine hK.out _ _ ?_
          (clear hK K; try go_frame)
          refine wpAnyD_done (by kernel_rfl) ?_ _
          rotate_left
          exact ReadyD.nil
          exact ReadyD.nil
          exact ReadyD.nil
          go_wp2_with fail
          go_roundw
          case rel => exact ⟨q, by go_num, by omega, HK3.out⟩
          case measure => simp [intOf]
        · have hq0 : q = 0 := by omega
          subst hq0
          have c1 : decide ((0 : Int) ≤ ((0 : Nat) : Int) - 1) = false := by decide
          have HR3 := Lib.hid (show NumRel W X r (S ++ numsB n l) (numsB n (l.drop (k + 1))) a l wr from hr1)
          clear hr1
          go_wp2_with fail
          go_roundw
          case rel => exact ⟨k + 1, by go_num, by omega, HR3.out⟩
          case measure => simp [intOf]; omega
    · have hke : k = m := by omega
      subst hke
      have b1 : decide ((k : Int) < (k : Int)) = false := by simp
      have F := Lib.hid (show WPost W X r (S ++ numsB n l) (.returned (.tuple #[])) wr from by
        obtain ⟨v, pre, hw, hpre, -⟩ := hr0
        rw [List.drop_eq_nil_of_le (by have := HL.out; omega), numsB_nil, List.append_nil] at hpre
        rw [← hpre]
        exact ⟨rfl, v, hw⟩)
      clear hr0
      go_wp2_with fail
      go_end0
      exact F.out

theorem num_new (W w : World) (X : Nat → Prop) (r : Nat) (S : List Int) (v : Value) (n m : Nat) (N : Int) (l : List Int) (tt : TypeId) {B : Nat} (hB : w.heap.size = B) (hN : (n : Int) = N) (h : WrAt W X r S v w) (hl : l.length = m) (hn : n ≤ 3) (hp : ∀ z ∈ l, 0 ≤ z) (hS : S.length ≤ 100000) (hm : m ≤ 10) :
    Calls Tryz.prog 60 #[.pointer (some ⟨r, 0, none⟩), .int .i64 N, .slice (some ⟨B, 0, none⟩) m m] (w.alloc (.cells (ic l).toArray tt)) (WPost W X r (S ++ numsB n l)) := by
  subst hN
  subst hB
  exact num_any W _ X r S v n ⟨w.heap.size, 0, none⟩ m m l (h.still ((Still.refl w).alloc _)) ((cellsAt_new w (ic l) tt).reads (by unfold ic; rw [List.length_map, hl]; omega)) (fun e => by have := (h.own _ e).2.2; simp at this) (fun e => by have := h.cells.lt; simp at e; omega) hn hp hS hm
theorem num1 {W w : World} {X : Nat → Prop} {r : Nat} {S : List Int} {v : Value} (n : Nat) {N : Int} (hN : (n : Int) = N) (z : Int) (tt : TypeId) {B : Nat} (hB : w.heap.size = B) (h : WrAt W X r S v w) (hn : n ≤ 3) (hz : 0 ≤ z) (hS : S.length ≤ 100000) :
    Calls Tryz.prog 60 #[.pointer (some ⟨r, 0, none⟩), .int .i64 N, .slice (some ⟨B, 0, none⟩) 1 1] (w.alloc (.cells #[.int .i64 z] tt)) (WPost W X r (S ++ numsB n [z])) :=
  num_new W w X r S v n 1 N [z] tt hB hN h rfl hn (fun y hy => by rw [List.mem_singleton.1 hy]; exact hz) hS (by omega)
theorem num2 {W w : World} {X : Nat → Prop} {r : Nat} {S : List Int} {v : Value} (n : Nat) {N : Int} (hN : (n : Int) = N) (y z : Int) (tt : TypeId) {B : Nat} (hB : w.heap.size = B) (h : WrAt W X r S v w) (hn : n ≤ 3) (hy : 0 ≤ y) (hz : 0 ≤ z) (hS : S.length ≤ 100000) :
    Calls Tryz.prog 60 #[.pointer (some ⟨r, 0, none⟩), .int .i64 N, .slice (some ⟨B, 0, none⟩) 2 2] (w.alloc (.cells #[.int .i64 y, .int .i64 z] tt)) (WPost W X r (S ++ numsB n [y, z])) :=
  num_new W w X r S v n 2 N [y, z] tt hB hN h rfl hn (fun x hx => by simp at hx; rcases hx with rfl | rfl <;> assumption) hS (by omega)

set_option maxHeartbeats 1000000 in
theorem wspot_any {W w : World} {X : Nat → Prop} {r : Nat} {S : List Int} {v : Value} (p c : Int) (h : WrAt W X r S v w) (hp : 0 ≤ p) (hc : 0 ≤ c) (hS : S.length ≤ 100000) :
    Calls Tryz.prog 61 #[.pointer (some ⟨r, 0, none⟩), .agg #[.int .i64 p, .int .i64 c]] w (WPost W X r (S ++ numsB 1 [p, c])) := by
  have HN := Lib.hid (fun t tt => num2 1 rfl p c tt (B := w.heap.size + 1) (by simp) (h.still ((Still.refl w).alloc (.cells #[.int .i64 p, .int .i64 c] t))) (by omega) hp hc hS)
  clear h hp hc hS
  go_enter Tryz.func61, Tryz.ntmps61
  go_wp2_with fail
  refine (HN.out _ _).mono ?_
  rintro e w' ⟨rfl, hw⟩
  have F := Lib.hid (show WPost W X r (S ++ numsB 1 [p, c]) (.returned (.tuple #[])) w' from ⟨rfl, hw⟩)
  clear hw
  go_wp2_with fail
  go_end0
  exact F.out
set_option maxHeartbeats 1000000 in
theorem wmove_any {W w : World} {X : Nat → Prop} {r : Nat} {S : List Int} {v : Value} (m : PMv) (h : WrAt W X r S v w) (hm : mvMay m = true) (hS : S.length ≤ 90000) :
    Calls Tryz.prog 64 #[.pointer (some ⟨r, 0, none⟩), .agg #[.int .i64 m.fp, .int .i64 m.fc, .int .i64 m.tp, .int .i64 m.tc]] w (WPost W X r (S ++ mvB m)) := by
  obtain ⟨a, b, c, d⟩ := m
  have hm' := hm
  unfold mvMay at hm'
  simp only [Bool.and_eq_true, fitsB_cons] at hm'
  have H := Lib.hid (And.intro h hS)
  have HM := Lib.hid hm'
  have HN := Lib.hid (fun t => show Calls Tryz.prog 61 #[.pointer (some ⟨r, 0, none⟩), .agg #[.int .i64 a, .int .i64 b]] (w.alloc (.cells #[.int .i64 a, .int .i64 b, .int .i64 c, .int .i64 d] t)) (fun e w2 => e = .returned (.tuple #[]) ∧ ∃ v2, WrAt W X r (S ++ numsB 1 [a, b]) v2 w2 ∧ cellsAt w2 w.heap.size [.int .i64 a, .int .i64 b, .int .i64 c, .int .i64 d]) from by
    have h1 := h.still ((Still.refl w).alloc (.cells #[.int .i64 a, .int .i64 b, .int .i64 c, .int .i64 d] t))
    refine (wspot_any a b h1.base hm'.1.1.1 hm'.1.2.1.1 (by omega)).mono ?_
    rintro e w2 ⟨rfl, v2, h2⟩
    exact ⟨rfl, v2, h1.back h2, (cellsAt_new w [.int .i64 a, .int .i64 b, .int .i64 c, .int .i64 d] t).only h2.only fun e => h.apart (Nat.le_refl _) e⟩)
  clear h hm hm' hS
  go_enter Tryz.func64, Tryz.ntmps64
  go_wp2_with fail
  refine (HN.out _).mono ?_
  rintro e w2 ⟨rfl, v2, h2, hb2⟩
  have c2 : w2.cell? ⟨w.heap.size, 2, none⟩ = some (.int .i64 c) := hb2.cell 2
  have c3 : w2.cell? ⟨w.heap.size, 3, none⟩ = some (.int .i64 d) := hb2.cell 3
  have H2 := Lib.hid h2
  clear h2 hb2 HN
  go_wp2_with fail
  refine (wspot_any c d H2.out HM.out.2.1.1 HM.out.2.2.1.1 (by rw [List.length_append, numsB_length]; simp; have := H.out.2; omega)).mono ?_
  rintro e w3 ⟨rfl, h3⟩
  have F := Lib.hid (show WPost W X r (S ++ mvB ⟨a, b, c, d⟩) (.returned (.tuple #[])) w3 from ⟨rfl, by
    rw [List.append_assoc] at h3
    exact h3⟩)
  clear h3 H2 c2 c3
  go_wp2_with fail
  go_end0
  exact F.out
end Go.Proofs.YtojkggppcmdepaaGreat

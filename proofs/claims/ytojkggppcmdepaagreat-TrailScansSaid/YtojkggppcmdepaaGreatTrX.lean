/- The reader of bytes: lists of moves. Conditions: it lies in memory, apart from its bytes. -/
import Derived.Test.YtojkggppcmdepaaGreatTrW
namespace Go.Proofs.YtojkggppcmdepaaGreat
open Go.RowKit Go.Wh Go.Maps

/-- Nothing but block r has turned. -/
abbrev Still' (w : World) (r : Nat) (w' : World) : Prop := Only (fun b => b = r) w w'
theorem mvS_len {s : RS} {k : Nat} (h : s.1.length ≤ k) : (mvS s).2.1.length ≤ k := numS_len (numS_len (numS_len (numS_len h)))

theorem info_mv : (Tryz.prog.info? 119).map (fun i => (i.zero, i.size, i.bytes)) = some (some (.agg #[.int .i64 0, .int .i64 0, .int .i64 0, .int .i64 0]), 4, 32) := by kernel_rfl
/-- On the way: ls has been read. -/
def Rdmv (W w : World) (X Q : Nat → Prop) (r : Nat) (R : List PMv × RS) (k : Nat) (lv : Value) (wr : World) : Prop :=
  ∃ (ls : List PMv) (s : RS), RAt W X Q r s wr ∧ s.1.length ≤ 100000 ∧ ls.length + k ≤ 255 ∧ (ls ++ (loopS mvS k s).1, (loopS mvS k s).2) = R ∧ Still' w r wr ∧ Vec wr 4 lv ls.length (ls.flatMap mvC) ∧ ∀ g, lv.ownBlock = some g → w.heap.size ≤ g ∧ g < wr.heap.size
set_option maxHeartbeats 2000000 in
set_option maxRecDepth 100000 in
theorem reads_mv {W w : World} {X Q : Nat → Prop} {r : Nat} {s : RS} (h : RAt W X Q r s w) (hl : s.1.length ≤ 100000) :
    Calls Tryz.prog 110 #[.pointer (some ⟨r, 0, none⟩), .func (.func 111) #[.pointer (some ⟨r, 0, none⟩)] #[]] w (NwPost W X Q r (fun v w' => Sl w' (fun g => w.heap.size ≤ g) 4 v (readsS mvS s).1.length ((readsS mvS s).1.flatMap mvC)) (readsS mvS s).2) := by
  have HN := Lib.hid (rnum_any 1 rfl h.base (by omega) hl)
  have hr := numS_range (n := 1) h.byt
  have p1 : (256 : Int) ^ 1 = 256 := rfl
  rw [p1] at hr
  have hl1 : (numS 1 s).2.1.length ≤ 100000 := numS_len hl
  have hrl := h.base.rl
  have H := Lib.hid (And.intro h hrl)
  obtain ⟨R, hR⟩ : ∃ R, readsS mvS s = R := ⟨_, rfl⟩
  rw [hR]
  unfold readsS at hR
  generalize numS 1 s = q1 at *
  obtain ⟨n, hn⟩ : ∃ n : Nat, q1.1 = n := ⟨q1.1.toNat, by omega⟩
  have hnn : n ≤ 255 := by omega
  rw [hn, Int.toNat_natCast] at hR
  obtain ⟨z, q⟩ := q1
  dsimp only at *
  subst hn
  have HR := Lib.hid (And.intro hR (And.intro hl1 hnn))
  obtain ⟨i0, hi0, hz0, hz1, hz2⟩ := info_parts info_mv
  have HI := Lib.hid (And.intro hi0 (And.intro hz0 (And.intro hz1 hz2)))
  clear h hl hr p1 hl1 hR hnn hrl hi0 hz0 hz1 hz2
  go_enter Tryz.func110, Tryz.ntmps110
  go_wp2_with fail
  refine HN.out.mono ?_
  rintro e w2 ⟨rfl, k2⟩
  have HST := Lib.hid (show Rdmv W w X Q r R n (.slice none 0 0) w2 from ⟨[], q, H.out.1.back k2, HR.out.2.1, by simp; exact HR.out.2.2, by rw [← HR.out.1]; rfl, k2.only, Vec.nil _ _, fun g e => by cases e⟩)
  clear HN k2
  go_wp2_with fail
  go_loopw [5, 6] (fun s5 s6 wr => ∃ k : Nat, s6 = .int .i64 k ∧ k ≤ n ∧ Rdmv W w X Q r R k s5 wr) (fun _ s6 _ => (intOf s6).toNat)
  case atStart => exact ⟨n, rfl, Nat.le_refl _, HST.out⟩
  case round =>
    clear HST
    obtain ⟨k, rfl, hk, ls, s', h3, hl3, hlen, hRR, hst, hv, hown⟩ := hrel
    obtain ⟨l', sh⟩ := s'
    dsimp only at hl3
    obtain ⟨bv, hcc, -⟩ := h3.b
    have c1 : wr.cell? ⟨r, 1, none⟩ = some (.bool sh) := hcc.cell 1
    obtain ⟨va, vc, rfl⟩ := hv.form'
    have HH := Lib.hid (And.intro h3 (And.intro hl3 (And.intro hlen (And.intro hRR (And.intro hst (And.intro hv hown))))))
    have hexit : k = 0 ∨ sh = true → NwPost W X Q r (fun v w' => Sl w' (fun g => w.heap.size ≤ g) 4 v R.1.length (R.1.flatMap mvC)) R.2 (.returned (.slice va ls.length vc)) wr := fun hx => by
      have hR2 : R = (ls, (l', sh)) := by
        rw [← hRR]
        rcases hx with rfl | rfl
        · simp [loopS]
        · cases k with
          | zero => simp [loopS]
          | succ k => simp [loopS]
      rw [hR2]
      exact ⟨_, rfl, Vec.sl hv hown, h3⟩
    have HX := Lib.hid hexit
    clear h3 hl3 hlen hRR hst hv hown hcc hexit
    by_cases hi : 0 < k
    rotate_left
    · have hk0 : k = 0 := by omega
      subst hk0
      have b1 : decide ((0 : Int) < ((0 : Nat) : Int)) = false := by decide
      have F := Lib.hid (HX.out (.inl rfl))
      clear HX
      go_wp2_with fail
      go_ret
      exact F.out
    · obtain ⟨k, rfl⟩ : ∃ j, k = j + 1 := ⟨k - 1, by omega⟩
      have b1 : decide ((0 : Int) < ((k + 1 : Nat) : Int)) = true := decide_eq_true (by omega)
      have u9 : IntKind.i64.wrap (((k + 1 : Nat) : Int) - 1) = (k : Int) := by
        have e : ((k + 1 : Nat) : Int) - 1 = (k : Int) := by omega
        rw [e]
        exact IntWalk.i64_in _ (by have := HR.out.2.2; omega)
      cases sh with
      | true =>
        have F := Lib.hid (HX.out (.inr rfl))
        clear HX
        go_wp2_with fail
        go_ret
        exact F.out
      | false =>
        have HC := Lib.hid (rmove_any HH.out.1.base HH.out.2.1)
        have hS2 : ((mvS (l', false)).2).1.length ≤ 100000 := mvS_len HH.out.2.1
        have HLP := Lib.hid (show loopS mvS (k + 1) (l', false) = ((mvS (l', false)).1 :: (loopS mvS k (mvS (l', false)).2).1, (loopS mvS k (mvS (l', false)).2).2) from rfl)
        generalize mvS (l', false) = xs at *
        obtain ⟨x, s2⟩ := xs
        dsimp only at *
        have HS2 := Lib.hid hS2
        unfold mvV at HC
        clear HX hS2
        obtain ⟨K, hK⟩ : ∃ K : Int, ((k + 1 : Nat) : Int) = K := ⟨_, rfl⟩
        rw [hK] at b1 u9 ⊢
        have HK := Lib.hid hK
        clear hK hi
        go_wp2_with fail
        refine HC.out.mono ?_
        rintro e w4 ⟨rfl, k4⟩
        have hz4 := k4.only.size
        have HV4 := Lib.hid (HH.out.2.2.2.2.2.1.only k4.only fun g hg e => by have := HH.out.2.2.2.2.2.2 g hg; have := H.out.2; omega)
        have HNX0 := Lib.hid (fun ob v' w' (hv' : Vec w' 4 v' (ls.length + 1) (ls.flatMap mvC ++ [.int .i64 x.fp, .int .i64 x.fc, .int .i64 x.tp, .int .i64 x.tc])) (ho' : Only (fun k => (Value.slice va ls.length vc).ownBlock = some k) (w4.alloc ob) w') (hb' : v'.ownBlock = (Value.slice va ls.length vc).ownBlock ∨ ∃ g, v'.ownBlock = some g ∧ (w4.alloc ob).heap.size ≤ g ∧ g < w'.heap.size) => show Rdmv W w X Q r R k v' w' from by
          have hst : Still w4 (w4.alloc ob) := (Still.refl w4).alloc _
          have hzs := hst.size
          have hzo := ho'.size
          have hzw := HH.out.2.2.2.2.1.size
          have h4 := (HH.out.1.back k4).still hst
          have hrw := H.out.2
          refine ⟨ls ++ [x], s2, ?_, HS2.out, ?_, ?_, ?_, ?_, fun g hg => ?_⟩
          · obtain ⟨bv, e1, e2, e3⟩ := h4.b
            refine ⟨h4.only.andThen ho' fun i hi e => ?_, h4.rx, h4.rl, h4.qx, ⟨bv, e1.only ho' fun e => ?_, e2.only ho' fun g hg e => ?_, e3⟩, h4.byt⟩
            · have := HH.out.2.2.2.2.2.2 i e
              have := H.out.1.only.size
              omega
            · have := HH.out.2.2.2.2.2.2 r e
              omega
            · have := HH.out.2.2.2.2.2.2 g e
              have := (h4.qx g hg).2
              have := H.out.1.only.size
              omega
          · have := HH.out.2.2.1
            rw [List.length_append, List.length_singleton]
            omega
          · have := HH.out.2.2.2.1
            rw [HLP.out] at this
            rw [← this, List.append_assoc]
            rfl
          · exact ((HH.out.2.2.2.2.1.trans k4.only).trans (hst.mono fun _ e => e.elim)).andThen ho' fun i hi e => by have := HH.out.2.2.2.2.2.2 i e; omega
          · rw [List.length_append, List.length_singleton, List.flatMap_append]
            have e : [x].flatMap mvC = [.int .i64 x.fp, .int .i64 x.fc, .int .i64 x.tp, .int .i64 x.tc] := rfl
            rw [e]
            exact hv'
          · rcases hb' with e | ⟨g', e, e1, e2⟩
            · rw [e] at hg
              have := HH.out.2.2.2.2.2.2 g hg
              omega
            · rw [e] at hg
              injection hg with hg
              omega)
        clear k4 hz4 HC
        go_wp2_with (at_builtin; refine wpList_append_vec rfl _ _ 29 rfl 119 i0 _ 4 32 Tryz.underlying29 HI.out.1 HI.out.2.1 HI.out.2.2.1 HI.out.2.2.2 rfl (by decide) (.slice va ls.length vc) ls.length (ls.flatMap mvC) (by simp [Act.eval]) (HV4.out.alloc _) (.slice (some ⟨w4.heap.size, 0, none⟩) 1 1) 1 [.int .i64 x.fp, .int .i64 x.fc, .int .i64 x.tp, .int .i64 x.tc] (by simp [Act.eval]) ((cellsAt_new w4 [.int .i64 x.fp, .int .i64 x.fc, .int .i64 x.tp, .int .i64 x.tc] _).reads rfl) (by intro u hu; simp at hu; rcases hu with rfl | rfl | rfl | rfl <;> rfl) (by have := HH.out.2.2.1; simp only [maxLen]; omega) (by have := HH.out.2.2.1; omega) ?_; intro v' w' hv' ho' hb'; have HNX := Lib.hid (HNX0.out _ v' w' hv' ho' hb'); clear hv' ho' hb' HNX0)
        go_roundw
        case rel => exact ⟨k, by rfl, by omega, HNX.out⟩
        case measure => simp [intOf]; have := HK.out; omega
end Go.Proofs.YtojkggppcmdepaaGreat

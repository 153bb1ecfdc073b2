/- The reader of bytes: lists of lives, dirty pages, units. Conditions: it lies in memory, apart from its bytes. A struct of many cells stored or loaded at once: what becomes of the memory, by its words. No conditions. Bytes as an entry: words. Conditions: they lie in memory. -/
import Derived.Test.YtlcfoeikamkpmaaGreatPr08
import Derived.Laws.Tables
namespace Go.Proofs.YtlcfoeikamkpmaaGreat
open Go.RowKit Go.Wh Go.Maps

theorem info_lv : (Tryz.prog.info? 184).map (fun i => (i.zero, i.size, i.bytes)) = some (some (.agg #[.int .i64 0, .int .i64 0, .int .i64 0, .bool false]), 4, 32) := by kernel_rfl
def Rdlv (W w : World) (X Q : Nat → Prop) (r : Nat) (R : List PLv × RS) (k : Nat) (lv : Value) (wr : World) : Prop :=
 ∃ (ls : List PLv) (s : RS), RAt W X Q r s wr ∧ s.1.length ≤ 100000 ∧ ls.length + k ≤ 255 ∧ (ls ++ (loopS lvS k s).1, (loopS lvS k s).2) = R ∧ Still' w r wr ∧ Vec wr 4 lv ls.length (ls.flatMap lvC) ∧ ∀ g, lv.ownBlock = some g → w.heap.size ≤ g ∧ g < wr.heap.size
set_option maxHeartbeats 2000000 in
set_option maxRecDepth 100000 in
theorem reads_lv {W w : World} {X Q : Nat → Prop} {r : Nat} {s : RS} (h : RAt W X Q r s w) (hl : s.1.length ≤ 100000) :
 Calls Tryz.prog 134 #[.pointer (some ⟨r, 0, none⟩), .func (.func 135) #[.pointer (some ⟨r, 0, none⟩)] #[]] w (NwPost W X Q r (fun v w' => Sl w' (fun g => w.heap.size ≤ g) 4 v (readsS lvS s).1.length ((readsS lvS s).1.flatMap lvC)) (readsS lvS s).2) := by
 have HN := Lib.hid (rnum_any 1 rfl h.base (by omega) hl)
 have hr := numS_range (n := 1) h.byt
 have p1 : (256 : Int) ^ 1 = 256 := rfl
 rw [p1] at hr
 have hl1 : (numS 1 s).2.1.length ≤ 100000 := numS_len hl
 have hrl := h.base.rl
 have H := Lib.hid (And.intro h hrl)
 obtain ⟨R, hR⟩ : ∃ R, readsS lvS s = R := ⟨_, rfl⟩
 rw [hR]
 unfold readsS at hR
 generalize numS 1 s = q1 at *
 obtain ⟨n, hn⟩ : ∃ n : Nat, q1.1 = n := ⟨q1.1.toNat, by omega⟩
 have hnn : n ≤ 255 := by omega
 rw [hn, Int.toNat_natCast] at hR
 obtain ⟨z, q⟩ := q1
 dsimp only at *
 subst hn
 have HR := Lib.hid (And.intro hR (And.intro hl1 hnn))
 obtain ⟨i0, hi0, hz0, hz1, hz2⟩ := info_parts info_lv
 have HI := Lib.hid (And.intro hi0 (And.intro hz0 (And.intro hz1 hz2)))
 clear h hl hr p1 hl1 hR hnn hrl hi0 hz0 hz1 hz2
 go_enter Tryz.func134, Tryz.ntmps134
 go_wp2_with fail
 refine HN.out.mono ?_
 rintro e w2 ⟨rfl, k2⟩
 have HST := Lib.hid (show Rdlv W w X Q r R n (.slice none 0 0) w2 from ⟨[], q, H.out.1.back k2, HR.out.2.1, by simp; exact HR.out.2.2, by rw [← HR.out.1]; rfl, k2.only, Vec.nil _ _, fun g e => by cases e⟩)
 clear HN k2
 go_wp2_with fail
 go_loopw [5, 6] (fun s5 s6 wr => ∃ k : Nat, s6 = .int .i64 k ∧ k ≤ n ∧ Rdlv W w X Q r R k s5 wr) (fun _ s6 _ => (intOf s6).toNat)
 case atStart => exact ⟨n, rfl, Nat.le_refl _, HST.out⟩
 case round =>
  clear HST
  obtain ⟨k, rfl, hk, ls, s', h3, hl3, hlen, hRR, hst, hv, hown⟩ := hrel
  obtain ⟨l', sh⟩ := s'
  dsimp only at hl3
  obtain ⟨bv, hcc, -⟩ := h3.b
  have c1 : wr.cell? ⟨r, 1, none⟩ = some (.bool sh) := hcc.cell 1
  obtain ⟨va, vc, rfl⟩ := hv.form'
  have HH := Lib.hid (And.intro h3 (And.intro hl3 (And.intro hlen (And.intro hRR (And.intro hst (And.intro hv hown))))))
  have hexit : k = 0 ∨ sh = true → NwPost W X Q r (fun v w' => Sl w' (fun g => w.heap.size ≤ g) 4 v R.1.length (R.1.flatMap lvC)) R.2 (.returned (.slice va ls.length vc)) wr := fun hx => by
   have hR2 : R = (ls, (l', sh)) := by
    rw [← hRR]
    rcases hx with rfl | rfl
    · simp [loopS]
    · cases k with
      | zero => simp [loopS]
      | succ k => simp [loopS]
   rw [hR2]
   exact ⟨_, rfl, Vec.sl hv hown, h3⟩
  have HX := Lib.hid hexit
  clear h3 hl3 hlen hRR hst hv hown hcc hexit
  by_cases hi : 0 < k
  rotate_left
  · have hk0 : k = 0 := by omega
    subst hk0
    have b1 : decide ((0 : Int) < ((0 : Nat) : Int)) = false := by decide
    have F := Lib.hid (HX.out (.inl rfl))
    clear HX
    go_wp2_with fail
    go_ret
    exact F.out
  · obtain ⟨k, rfl⟩ : ∃ j, k = j + 1 := ⟨k - 1, by omega⟩
    have b1 : decide ((0 : Int) < ((k + 1 : Nat) : Int)) = true := decide_eq_true (by omega)
    have u9 : IntKind.i64.wrap (((k + 1 : Nat) : Int) - 1) = (k : Int) := by
     have e : ((k + 1 : Nat) : Int) - 1 = (k : Int) := by omega
     rw [e]
     exact IntWalk.i64_in _ (by have := HR.out.2.2; omega)
    cases sh with
    | true =>
     have F := Lib.hid (HX.out (.inr rfl))
     clear HX
     go_wp2_with fail
     go_ret
     exact F.out
    | false =>
     have HC := Lib.hid (rlv_any HH.out.1.base HH.out.2.1)
     have hS2 : ((lvS (l', false)).2).1.length ≤ 100000 := lvS_len HH.out.2.1
     have HLP := Lib.hid (show loopS lvS (k + 1) (l', false) = ((lvS (l', false)).1 :: (loopS lvS k (lvS (l', false)).2).1, (loopS lvS k (lvS (l', false)).2).2) from rfl)
     generalize lvS (l', false) = xs at *
     obtain ⟨x, s2⟩ := xs
     dsimp only at *
     have HS2 := Lib.hid hS2
     unfold lvV at HC
     clear HX hS2
     obtain ⟨K, hK⟩ : ∃ K : Int, ((k + 1 : Nat) : Int) = K := ⟨_, rfl⟩
     rw [hK] at b1 u9 ⊢
     have HK := Lib.hid hK
     clear hK hi
     go_wp2_with fail
     refine HC.out.mono ?_
     rintro e w4 ⟨rfl, k4⟩
     have hz4 := k4.only.size
     have HV4 := Lib.hid (HH.out.2.2.2.2.2.1.only k4.only fun g hg e => by have := HH.out.2.2.2.2.2.2 g hg; have := H.out.2; omega)
     have HNX0 := Lib.hid (fun ob v' w' (hv' : Vec w' 4 v' (ls.length + 1) (ls.flatMap lvC ++ [.int .i64 x.txn, .int .i64 x.last, .int .i64 x.next, .bool x.commit])) (ho' : Only (fun k => (Value.slice va ls.length vc).ownBlock = some k) (w4.alloc ob) w') (hb' : v'.ownBlock = (Value.slice va ls.length vc).ownBlock ∨ ∃ g, v'.ownBlock = some g ∧ (w4.alloc ob).heap.size ≤ g ∧ g < w'.heap.size) => show Rdlv W w X Q r R k v' w' from by
      have hst : Still w4 (w4.alloc ob) := (Still.refl w4).alloc _
      have hzs := hst.size
      have hzo := ho'.size
      have hzw := HH.out.2.2.2.2.1.size
      have h4 := (HH.out.1.back k4).still hst
      have hrw := H.out.2
      refine ⟨ls ++ [x], s2, ?_, HS2.out, ?_, ?_, ?_, ?_, fun g hg => ?_⟩
      · obtain ⟨bv, e1, e2, e3⟩ := h4.b
        refine ⟨h4.only.andThen ho' fun i hi e => ?_, h4.rx, h4.rl, h4.qx, ⟨bv, e1.only ho' fun e => ?_, e2.only ho' fun g hg e => ?_, e3⟩, h4.byt⟩
        · have := HH.out.2.2.2.2.2.2 i e
          have := H.out.1.only.size
          omega
        · have := HH.out.2.2.2.2.2.2 r e
          omega
        · have := HH.out.2.2.2.2.2.2 g e
          have := (h4.qx g hg).2
          have := H.out.1.only.size
          omega
      · have := HH.out.2.2.1
        rw [List.length_append, List.length_singleton]
        omega
      · have := HH.out.2.2.2.1
        rw [HLP.out] at this
        rw [← this, List.append_assoc]
        rfl
      · exact ((HH.out.2.2.2.2.1.trans k4.only).trans (hst.mono fun _ e => e.elim)).andThen ho' fun i hi e => by have := HH.out.2.2.2.2.2.2 i e; omega
      · rw [List.length_append, List.length_singleton, List.flatMap_append]
        have e : [x].flatMap lvC = [.int .i64 x.txn, .int .i64 x.last, .int .i64 x.next, .bool x.commit] := rfl
        rw [e]
        exact hv'
      · rcases hb' with e | ⟨g', e, e1, e2⟩
        · rw [e] at hg
          have := HH.out.2.2.2.2.2.2 g hg
          omega
        · rw [e] at hg
          injection hg with hg
          omega)
     clear k4 hz4 HC
     go_wp2_with (at_builtin; refine wpList_append_vec rfl _ _ 66 rfl 184 i0 _ 4 32 Tryz.underlying66 HI.out.1 HI.out.2.1 HI.out.2.2.1 HI.out.2.2.2 rfl (by decide) (.slice va ls.length vc) ls.length (ls.flatMap lvC) (by simp [Act.eval]) (HV4.out.alloc _) (.slice (some ⟨w4.heap.size, 0, none⟩) 1 1) 1 [.int .i64 x.txn, .int .i64 x.last, .int .i64 x.next, .bool x.commit] (by simp [Act.eval]) ((cellsAt_new w4 [.int .i64 x.txn, .int .i64 x.last, .int .i64 x.next, .bool x.commit] _).reads rfl) (by intro u hu; simp at hu; rcases hu with rfl | rfl | rfl | rfl <;> rfl) (by have := HH.out.2.2.1; simp only [maxLen]; omega) (by have := HH.out.2.2.1; omega) ?_; intro v' w' hv' ho' hb'; have HNX := Lib.hid (HNX0.out _ v' w' hv' ho' hb'); clear hv' ho' hb' HNX0)
     go_roundw
     case rel => exact ⟨k, by rfl, by omega, HNX.out⟩
     case measure => simp [intOf]; have := HK.out; omega

theorem info_dt : (Tryz.prog.info? 49).map (fun i => (i.zero, i.size, i.bytes)) = some (some (.agg #[.int .i64 0, .int .i64 0]), 2, 16) := by kernel_rfl
def Rddt (W w : World) (X Q : Nat → Prop) (r : Nat) (R : List PDt × RS) (k : Nat) (lv : Value) (wr : World) : Prop :=
 ∃ (ls : List PDt) (s : RS), RAt W X Q r s wr ∧ s.1.length ≤ 100000 ∧ ls.length + k ≤ 255 ∧ (ls ++ (loopS dtS k s).1, (loopS dtS k s).2) = R ∧ Still' w r wr ∧ Vec wr 2 lv ls.length (ls.flatMap dtC) ∧ ∀ g, lv.ownBlock = some g → w.heap.size ≤ g ∧ g < wr.heap.size
set_option maxHeartbeats 2000000 in
set_option maxRecDepth 100000 in
theorem reads_dt {W w : World} {X Q : Nat → Prop} {r : Nat} {s : RS} (h : RAt W X Q r s w) (hl : s.1.length ≤ 100000) :
 Calls Tryz.prog 136 #[.pointer (some ⟨r, 0, none⟩), .func (.func 137) #[.pointer (some ⟨r, 0, none⟩)] #[]] w (NwPost W X Q r (fun v w' => Sl w' (fun g => w.heap.size ≤ g) 2 v (readsS dtS s).1.length ((readsS dtS s).1.flatMap dtC)) (readsS dtS s).2) := by
 have HN := Lib.hid (rnum_any 1 rfl h.base (by omega) hl)
 have hr := numS_range (n := 1) h.byt
 have p1 : (256 : Int) ^ 1 = 256 := rfl
 rw [p1] at hr
 have hl1 : (numS 1 s).2.1.length ≤ 100000 := numS_len hl
 have hrl := h.base.rl
 have H := Lib.hid (And.intro h hrl)
 obtain ⟨R, hR⟩ : ∃ R, readsS dtS s = R := ⟨_, rfl⟩
 rw [hR]
 unfold readsS at hR
 generalize numS 1 s = q1 at *
 obtain ⟨n, hn⟩ : ∃ n : Nat, q1.1 = n := ⟨q1.1.toNat, by omega⟩
 have hnn : n ≤ 255 := by omega
 rw [hn, Int.toNat_natCast] at hR
 obtain ⟨z, q⟩ := q1
 dsimp only at *
 subst hn
 have HR := Lib.hid (And.intro hR (And.intro hl1 hnn))
 obtain ⟨i0, hi0, hz0, hz1, hz2⟩ := info_parts info_dt
 have HI := Lib.hid (And.intro hi0 (And.intro hz0 (And.intro hz1 hz2)))
 clear h hl hr p1 hl1 hR hnn hrl hi0 hz0 hz1 hz2
 go_enter Tryz.func136, Tryz.ntmps136
 go_wp2_with fail
 refine HN.out.mono ?_
 rintro e w2 ⟨rfl, k2⟩
 have HST := Lib.hid (show Rddt W w X Q r R n (.slice none 0 0) w2 from ⟨[], q, H.out.1.back k2, HR.out.2.1, by simp; exact HR.out.2.2, by rw [← HR.out.1]; rfl, k2.only, Vec.nil _ _, fun g e => by cases e⟩)
 clear HN k2
 go_wp2_with fail
 go_loopw [5, 6] (fun s5 s6 wr => ∃ k : Nat, s6 = .int .i64 k ∧ k ≤ n ∧ Rddt W w X Q r R k s5 wr) (fun _ s6 _ => (intOf s6).toNat)
 case atStart => exact ⟨n, rfl, Nat.le_refl _, HST.out⟩
 case round =>
  clear HST
  obtain ⟨k, rfl, hk, ls, s', h3, hl3, hlen, hRR, hst, hv, hown⟩ := hrel
  obtain ⟨l', sh⟩ := s'
  dsimp only at hl3
  obtain ⟨bv, hcc, -⟩ := h3.b
  have c1 : wr.cell? ⟨r, 1, none⟩ = some (.bool sh) := hcc.cell 1
  obtain ⟨va, vc, rfl⟩ := hv.form'
  have HH := Lib.hid (And.intro h3 (And.intro hl3 (And.intro hlen (And.intro hRR (And.intro hst (And.intro hv hown))))))
  have hexit : k = 0 ∨ sh = true → NwPost W X Q r (fun v w' => Sl w' (fun g => w.heap.size ≤ g) 2 v R.1.length (R.1.flatMap dtC)) R.2 (.returned (.slice va ls.length vc)) wr := fun hx => by
   have hR2 : R = (ls, (l', sh)) := by
    rw [← hRR]
    rcases hx with rfl | rfl
    · simp [loopS]
    · cases k with
      | zero => simp [loopS]
      | succ k => simp [loopS]
   rw [hR2]
   exact ⟨_, rfl, Vec.sl hv hown, h3⟩
  have HX := Lib.hid hexit
  clear h3 hl3 hlen hRR hst hv hown hcc hexit
  by_cases hi : 0 < k
  rotate_left
  · have hk0 : k = 0 := by omega
    subst hk0
    have b1 : decide ((0 : Int) < ((0 : Nat) : Int)) = false := by decide
    have F := Lib.hid (HX.out (.inl rfl))
    clear HX
    go_wp2_with fail
    go_ret
    exact F.out
  · obtain ⟨k, rfl⟩ : ∃ j, k = j + 1 := ⟨k - 1, by omega⟩
    have b1 : decide ((0 : Int) < ((k + 1 : Nat) : Int)) = true := decide_eq_true (by omega)
    have u9 : IntKind.i64.wrap (((k + 1 : Nat) : Int) - 1) = (k : Int) := by
     have e : ((k + 1 : Nat) : Int) - 1 = (k : Int) := by omega
     rw [e]
     exact IntWalk.i64_in _ (by have := HR.out.2.2; omega)
    cases sh with
    | true =>
     have F := Lib.hid (HX.out (.inr rfl))
     clear HX
     go_wp2_with fail
     go_ret
     exact F.out
    | false =>
     have HC := Lib.hid (rdt_any HH.out.1.base HH.out.2.1)
     have hS2 : ((dtS (l', false)).2).1.length ≤ 100000 := dtS_len HH.out.2.1
     have HLP := Lib.hid (show loopS dtS (k + 1) (l', false) = ((dtS (l', false)).1 :: (loopS dtS k (dtS (l', false)).2).1, (loopS dtS k (dtS (l', false)).2).2) from rfl)
     generalize dtS (l', false) = xs at *
     obtain ⟨x, s2⟩ := xs
     dsimp only at *
     have HS2 := Lib.hid hS2
     unfold dtV at HC
     clear HX hS2
     obtain ⟨K, hK⟩ : ∃ K : Int, ((k + 1 : Nat) : Int) = K := ⟨_, rfl⟩
     rw [hK] at b1 u9 ⊢
     have HK := Lib.hid hK
     clear hK hi
     go_wp2_with fail
     refine HC.out.mono ?_
     rintro e w4 ⟨rfl, k4⟩
     have hz4 := k4.only.size
     have HV4 := Lib.hid (HH.out.2.2.2.2.2.1.only k4.only fun g hg e => by have := HH.out.2.2.2.2.2.2 g hg; have := H.out.2; omega)
     have HNX0 := Lib.hid (fun ob v' w' (hv' : Vec w' 2 v' (ls.length + 1) (ls.flatMap dtC ++ [.int .i64 x.page, .int .i64 x.rc])) (ho' : Only (fun k => (Value.slice va ls.length vc).ownBlock = some k) (w4.alloc ob) w') (hb' : v'.ownBlock = (Value.slice va ls.length vc).ownBlock ∨ ∃ g, v'.ownBlock = some g ∧ (w4.alloc ob).heap.size ≤ g ∧ g < w'.heap.size) => show Rddt W w X Q r R k v' w' from by
      have hst : Still w4 (w4.alloc ob) := (Still.refl w4).alloc _
      have hzs := hst.size
      have hzo := ho'.size
      have hzw := HH.out.2.2.2.2.1.size
      have h4 := (HH.out.1.back k4).still hst
      have hrw := H.out.2
      refine ⟨ls ++ [x], s2, ?_, HS2.out, ?_, ?_, ?_, ?_, fun g hg => ?_⟩
      · obtain ⟨bv, e1, e2, e3⟩ := h4.b
        refine ⟨h4.only.andThen ho' fun i hi e => ?_, h4.rx, h4.rl, h4.qx, ⟨bv, e1.only ho' fun e => ?_, e2.only ho' fun g hg e => ?_, e3⟩, h4.byt⟩
        · have := HH.out.2.2.2.2.2.2 i e
          have := H.out.1.only.size
          omega
        · have := HH.out.2.2.2.2.2.2 r e
          omega
        · have := HH.out.2.2.2.2.2.2 g e
          have := (h4.qx g hg).2
          have := H.out.1.only.size
          omega
      · have := HH.out.2.2.1
        rw [List.length_append, List.length_singleton]
        omega
      · have := HH.out.2.2.2.1
        rw [HLP.out] at this
        rw [← this, List.append_assoc]
        rfl
      · exact ((HH.out.2.2.2.2.1.trans k4.only).trans (hst.mono fun _ e => e.elim)).andThen ho' fun i hi e => by have := HH.out.2.2.2.2.2.2 i e; omega
      · rw [List.length_append, List.length_singleton, List.flatMap_append]
        have e : [x].flatMap dtC = [.int .i64 x.page, .int .i64 x.rc] := rfl
        rw [e]
        exact hv'
      · rcases hb' with e | ⟨g', e, e1, e2⟩
        · rw [e] at hg
          have := HH.out.2.2.2.2.2.2 g hg
          omega
        · rw [e] at hg
          injection hg with hg
          omega)
     clear k4 hz4 HC
     go_wp2_with (at_builtin; refine wpList_append_vec rfl _ _ 45 rfl 49 i0 _ 2 16 Tryz.underlying45 HI.out.1 HI.out.2.1 HI.out.2.2.1 HI.out.2.2.2 rfl (by decide) (.slice va ls.length vc) ls.length (ls.flatMap dtC) (by simp [Act.eval]) (HV4.out.alloc _) (.slice (some ⟨w4.heap.size, 0, none⟩) 1 1) 1 [.int .i64 x.page, .int .i64 x.rc] (by simp [Act.eval]) ((cellsAt_new w4 [.int .i64 x.page, .int .i64 x.rc] _).reads rfl) (by intro u hu; simp at hu; rcases hu with rfl | rfl <;> rfl) (by have := HH.out.2.2.1; simp only [maxLen]; omega) (by have := HH.out.2.2.1; omega) ?_; intro v' w' hv' ho' hb'; have HNX := Lib.hid (HNX0.out _ v' w' hv' ho' hb'); clear hv' ho' hb' HNX0)
     go_roundw
     case rel => exact ⟨k, by rfl, by omega, HNX.out⟩
     case measure => simp [intOf]; have := HK.out; omega

def OpVec (P : Nat → Prop) (w : World) (v : Value) (l : List POp) : Prop :=
 ∃ mvs : List Value, mvs.length = l.length ∧ Vec w 3 v l.length ((l.zip mvs).flatMap opC) ∧ ∀ (k : Nat) (o : POp) (mv : Value), l[k]? = some o → mvs[k]? = some mv → Sl w P 4 mv o.moves.length (o.moves.flatMap mvC)
theorem OpVec.nil (P : Nat → Prop) (w : World) : OpVec P w (.slice none 0 0) [] := ⟨[], rfl, Vec.nil _ _, fun k o mv hk _ => by simp at hk⟩
theorem OpVec.form {P : Nat → Prop} {w : World} {v : Value} {l : List POp} (h : OpVec P w v l) : ∃ a c, v = .slice a l.length c := by
 obtain ⟨mvs, _, h, _⟩ := h
 exact h.form'
theorem OpVec.sl {P R : Nat → Prop} {w : World} {v : Value} {l : List POp} (h : OpVec P w v l) (hp : ∀ g, P g → R g) (hq : ∀ g, v.ownBlock = some g → R g ∧ g < w.heap.size) : OpSl w R v l.length l := by
 obtain ⟨mvs, h1, h2, h3⟩ := h
 exact ⟨mvs, h1, Vec.sl h2 hq, fun k o mv hk hm => (h3 k o mv hk hm).mono hp⟩

theorem info_op : (Tryz.prog.info? 190).map (fun i => (i.zero, i.size, i.bytes)) = some (some (.agg #[.int .i64 0, .slice none 0 0, .int .i64 0]), 3, 40) := by kernel_rfl
def Rdop (W w : World) (X Q : Nat → Prop) (r : Nat) (R : List POp × RS) (k : Nat) (lv : Value) (wr : World) : Prop :=
 ∃ (ls : List POp) (s : RS), RAt W X Q r s wr ∧ s.1.length ≤ 100000 ∧ ls.length + k ≤ 255 ∧ (ls ++ (loopS opS k s).1, (loopS opS k s).2) = R ∧ Still' w r wr ∧ OpVec (fun g => w.heap.size ≤ g ∧ lv.ownBlock ≠ some g) wr lv ls ∧ ∀ g, lv.ownBlock = some g → w.heap.size ≤ g ∧ g < wr.heap.size
set_option maxHeartbeats 2000000 in
set_option maxRecDepth 100000 in
theorem reads_op {W w : World} {X Q : Nat → Prop} {r : Nat} {s : RS} (h : RAt W X Q r s w) (hl : s.1.length ≤ 100000) :
 Calls Tryz.prog 138 #[.pointer (some ⟨r, 0, none⟩), .func (.func 139) #[.pointer (some ⟨r, 0, none⟩)] #[]] w (NwPost W X Q r (fun v w' => OpSl w' (fun g => w.heap.size ≤ g) v (readsS opS s).1.length (readsS opS s).1) (readsS opS s).2) := by
 have HN := Lib.hid (rnum_any 1 rfl h.base (by omega) hl)
 have hr := numS_range (n := 1) h.byt
 have p1 : (256 : Int) ^ 1 = 256 := rfl
 rw [p1] at hr
 have hl1 : (numS 1 s).2.1.length ≤ 100000 := numS_len hl
 have hrl := h.base.rl
 have H := Lib.hid (And.intro h hrl)
 obtain ⟨R, hR⟩ : ∃ R, readsS opS s = R := ⟨_, rfl⟩
 rw [hR]
 unfold readsS at hR
 generalize numS 1 s = q1 at *
 obtain ⟨n, hn⟩ : ∃ n : Nat, q1.1 = n := ⟨q1.1.toNat, by omega⟩
 have hnn : n ≤ 255 := by omega
 rw [hn, Int.toNat_natCast] at hR
 obtain ⟨z, q⟩ := q1
 dsimp only at *
 subst hn
 have HR := Lib.hid (And.intro hR (And.intro hl1 hnn))
 obtain ⟨i0, hi0, hz0, hz1, hz2⟩ := info_parts info_op
 have HI := Lib.hid (And.intro hi0 (And.intro hz0 (And.intro hz1 hz2)))
 clear h hl hr p1 hl1 hR hnn hrl hi0 hz0 hz1 hz2
 go_enter Tryz.func138, Tryz.ntmps138
 go_wp2_with fail
 refine HN.out.mono ?_
 rintro e w2 ⟨rfl, k2⟩
 have HST := Lib.hid (show Rdop W w X Q r R n (.slice none 0 0) w2 from ⟨[], q, H.out.1.back k2, HR.out.2.1, by simp; exact HR.out.2.2, by rw [← HR.out.1]; rfl, k2.only, OpVec.nil _ _, fun g e => by cases e⟩)
 clear HN k2
 go_wp2_with fail
 go_loopw [5, 6] (fun s5 s6 wr => ∃ k : Nat, s6 = .int .i64 k ∧ k ≤ n ∧ Rdop W w X Q r R k s5 wr) (fun _ s6 _ => (intOf s6).toNat)
 case atStart => exact ⟨n, rfl, Nat.le_refl _, HST.out⟩
 case round =>
  clear HST
  obtain ⟨k, rfl, hk, ls, s', h3, hl3, hlen, hRR, hst, hv, hown⟩ := hrel
  obtain ⟨l', sh⟩ := s'
  dsimp only at hl3
  obtain ⟨bv, hcc, -⟩ := h3.b
  have c1 : wr.cell? ⟨r, 1, none⟩ = some (.bool sh) := hcc.cell 1
  obtain ⟨va, vc, rfl⟩ := hv.form
  have HH := Lib.hid (And.intro h3 (And.intro hl3 (And.intro hlen (And.intro hRR (And.intro hst (And.intro hv hown))))))
  have hexit : k = 0 ∨ sh = true → NwPost W X Q r (fun v w' => OpSl w' (fun g => w.heap.size ≤ g) v R.1.length R.1) R.2 (.returned (.slice va ls.length vc)) wr := fun hx => by
   have hR2 : R = (ls, (l', sh)) := by
    rw [← hRR]
    rcases hx with rfl | rfl
    · simp [loopS]
    · cases k with
      | zero => simp [loopS]
      | succ k => simp [loopS]
   rw [hR2]
   exact ⟨_, rfl, hv.sl (fun g e => e.1) hown, h3⟩
  have HX := Lib.hid hexit
  clear h3 hl3 hlen hRR hst hv hown hcc hexit
  by_cases hi : 0 < k
  rotate_left
  · have hk0 : k = 0 := by omega
    subst hk0
    have b1 : decide ((0 : Int) < ((0 : Nat) : Int)) = false := by decide
    have F := Lib.hid (HX.out (.inl rfl))
    clear HX
    go_wp2_with fail
    go_ret
    exact F.out
  · obtain ⟨k, rfl⟩ : ∃ j, k = j + 1 := ⟨k - 1, by omega⟩
    have b1 : decide ((0 : Int) < ((k + 1 : Nat) : Int)) = true := decide_eq_true (by omega)
    have u9 : IntKind.i64.wrap (((k + 1 : Nat) : Int) - 1) = (k : Int) := by
     have e : ((k + 1 : Nat) : Int) - 1 = (k : Int) := by omega
     rw [e]
     exact IntWalk.i64_in _ (by have := HR.out.2.2; omega)
    cases sh with
    | true =>
     have F := Lib.hid (HX.out (.inr rfl))
     clear HX
     go_wp2_with fail
     go_ret
     exact F.out
    | false =>
     have HC := Lib.hid (rop_any HH.out.1.base HH.out.2.1)
     have hS2 : ((opS (l', false)).2).1.length ≤ 100000 := opS_len HH.out.2.1
     have HLP := Lib.hid (show loopS opS (k + 1) (l', false) = ((opS (l', false)).1 :: (loopS opS k (opS (l', false)).2).1, (loopS opS k (opS (l', false)).2).2) from rfl)
     generalize opS (l', false) = xs at *
     obtain ⟨x, s2⟩ := xs
     dsimp only at *
     have HS2 := Lib.hid hS2
     clear HX hS2
     obtain ⟨K, hK⟩ : ∃ K : Int, ((k + 1 : Nat) : Int) = K := ⟨_, rfl⟩
     rw [hK] at b1 u9 ⊢
     have HK := Lib.hid hK
     clear hK hi
     go_wp2_with fail
     refine HC.out.mono ?_
     rintro e w4 ⟨ma, mc, rfl, hmv4, k4⟩
     have hz4 := k4.only.size
     obtain ⟨mvs, hml, hvv, hmvs⟩ := HH.out.2.2.2.2.2.1
     have HV4 := Lib.hid (hvv.only k4.only fun g hg e => by have := HH.out.2.2.2.2.2.2 g hg; have := H.out.2; omega)
     have HMS := Lib.hid (And.intro hml (fun k o mv hk hm => (hmvs k o mv hk hm).only k4.only fun g hg e => by have := H.out.2; omega))
     have HMV := Lib.hid hmv4
     have HNX0 := Lib.hid (fun ob v' w' (hv' : Vec w' 3 v' (ls.length + 1) ((ls.zip mvs).flatMap opC ++ [.int .i64 x.unit, .slice ma x.moves.length mc, .int .i64 x.done])) (ho' : Only (fun k => (Value.slice va ls.length vc).ownBlock = some k) (w4.alloc ob) w') (hb' : v'.ownBlock = (Value.slice va ls.length vc).ownBlock ∨ ∃ g, v'.ownBlock = some g ∧ (w4.alloc ob).heap.size ≤ g ∧ g < w'.heap.size) => show Rdop W w X Q r R k v' w' from by
      have hst : Still w4 (w4.alloc ob) := (Still.refl w4).alloc _
      have hzs := hst.size
      have hzo := ho'.size
      have hzw := HH.out.2.2.2.2.1.size
      have h4 := (HH.out.1.back k4).still hst
      have hrw := H.out.2
      refine ⟨ls ++ [x], s2, ?_, HS2.out, ?_, ?_, ?_, ?_, fun g hg => ?_⟩
      · obtain ⟨bv, e1, e2, e3⟩ := h4.b
        refine ⟨h4.only.andThen ho' fun i hi e => ?_, h4.rx, h4.rl, h4.qx, ⟨bv, e1.only ho' fun e => ?_, e2.only ho' fun g hg e => ?_, e3⟩, h4.byt⟩
        · have := HH.out.2.2.2.2.2.2 i e
          have := H.out.1.only.size
          omega
        · have := HH.out.2.2.2.2.2.2 r e
          omega
        · have := HH.out.2.2.2.2.2.2 g e
          have := (h4.qx g hg).2
          have := H.out.1.only.size
          omega
      · have := HH.out.2.2.1
        rw [List.length_append, List.length_singleton]
        omega
      · have := HH.out.2.2.2.1
        rw [HLP.out] at this
        rw [← this, List.append_assoc]
        rfl
      · exact ((HH.out.2.2.2.2.1.trans k4.only).trans (hst.mono fun _ e => e.elim)).andThen ho' fun i hi e => by have := HH.out.2.2.2.2.2.2 i e; omega
      · refine ⟨mvs ++ [.slice ma x.moves.length mc], by rw [List.length_append, List.length_append, HMS.out.1]; rfl, ?_, fun j o mv hj hm => ?_⟩
        · rw [List.length_append, List.length_singleton, List.zip_append HMS.out.1.symm, List.flatMap_append]
          have e : ([x].zip [Value.slice ma x.moves.length mc]).flatMap opC = [.int .i64 x.unit, .slice ma x.moves.length mc, .int .i64 x.done] := rfl
          rw [e]
          exact hv'
        · have key : ∀ (o : POp) (mv : Value), Sl w4 (fun g => w.heap.size ≤ g ∧ (Value.slice va ls.length vc).ownBlock ≠ some g) 4 mv o.moves.length (o.moves.flatMap mvC) → Sl w' (fun g => w.heap.size ≤ g ∧ v'.ownBlock ≠ some g) 4 mv o.moves.length (o.moves.flatMap mvC) := fun o mv hs => by
           refine ((hs.low.still hst).only ho' fun g hg e => hg.1.2 e).mono fun g hg => ⟨hg.1.1, fun e => ?_⟩
           rcases hb' with e' | ⟨g', e', e1, e2⟩
           · rw [e'] at e
             exact hg.1.2 e
           · rw [e'] at e
             injection e with e
             have := hg.2
             omega
          by_cases hjl : j < ls.length
          · rw [List.getElem?_append_left hjl] at hj
            rw [List.getElem?_append_left (by rw [HMS.out.1]; exact hjl)] at hm
            exact key o mv (HMS.out.2 j o mv hj hm)
          · rw [List.getElem?_append_right (by omega)] at hj
            rw [List.getElem?_append_right (by rw [HMS.out.1]; omega), HMS.out.1] at hm
            have hj0 : j - ls.length = 0 := by
             have := (List.getElem?_eq_some_iff.1 hj).1
             simp at this
             omega
            rw [hj0] at hj hm
            cases hj
            cases hm
            refine key _ _ (HMV.out.mono fun g hg => ⟨by omega, fun e => ?_⟩)
            have := HH.out.2.2.2.2.2.2 g e
            omega
      · rcases hb' with e | ⟨g', e, e1, e2⟩
        · rw [e] at hg
          have := HH.out.2.2.2.2.2.2 g hg
          omega
        · rw [e] at hg
          injection hg with hg
          omega)
     clear hml hvv hmvs hmv4
     clear k4 hz4 HC
     go_wp2_with (at_builtin; refine wpList_append_vec rfl _ _ 67 rfl 190 i0 _ 3 40 Tryz.underlying67 HI.out.1 HI.out.2.1 HI.out.2.2.1 HI.out.2.2.2 rfl (by decide) (.slice va ls.length vc) ls.length ((ls.zip mvs).flatMap opC) (by simp [Act.eval]) (HV4.out.alloc _) (.slice (some ⟨w4.heap.size, 0, none⟩) 1 1) 1 [.int .i64 x.unit, .slice ma x.moves.length mc, .int .i64 x.done] (by simp [Act.eval]) ((cellsAt_new w4 [.int .i64 x.unit, .slice ma x.moves.length mc, .int .i64 x.done] _).reads rfl) (by intro u hu; simp at hu; rcases hu with rfl | rfl | rfl <;> rfl) (by have := HH.out.2.2.1; simp only [maxLen]; omega) (by have := HH.out.2.2.1; omega) ?_; intro v' w' hv' ho' hb'; have HNX := Lib.hid (HNX0.out _ v' w' hv' ho' hb'); clear hv' ho' hb' HNX0)
     go_roundw
     case rel => exact ⟨k, by rfl, by omega, HNX.out⟩
     case measure => simp [intOf]; have := HK.out; omega
end Go.Proofs.YtlcfoeikamkpmaaGreat

namespace Go.Wh
open Go.RowKit
def aggB : TypeDesc → Bool
 | .struct _ => true
 | .array _ _ => true
 | _ => false
section
variable {P : Program} {w : World} {ops : Array Oper} {rest : List Oper} {o : Oper} {a : Act} {Q : Exit → Act → World → Prop}
theorem setRow_words {g : Nat} {old : List Value} (cells : Array Value) (hc : cellsAt w g old) : cellsAt (w.setRow g cells) g cells.toList ∧ Only (fun b => b = g) w (w.setRow g cells) ∧ (w.setRow g cells).heap.size = w.heap.size := by
 obtain ⟨t, h⟩ := hc
 have hlt := (Array.getElem?_eq_some_iff.1 h).1
 refine ⟨⟨t, ?_⟩, ⟨rfl, rfl, rfl, ?_, fun k hk hn => ?_⟩, ?_⟩
 · simp [World.setRow, Array.getElem?_modify, h]
 · simp [World.setRow]
 · simp [World.setRow, Array.getElem?_modify]
   intro e
   exact absurd e.symm hn
 · simp [World.setRow]
theorem wpList_storeAgg (hgd : o.guard = none) (ty : TypeId) (x y : Operand) (ho : o.op = .store ty x y) (g : Nat) (cells : Array Value) (hx : a.eval x = .pointer (some ⟨g, 0, none⟩)) (hy : a.eval y = .agg cells)
 {old : List Value} (hc : cellsAt w g old) (hi : (P.info? ty).map (·.size) = some cells.size) (hold : old.length = cells.size) (h1 : cells.toList.all (·.oneCell') = true)
 (hK : ∀ w', cellsAt w' g cells.toList → Only (fun b => b = g) w w' → w'.heap.size = w.heap.size → wpList P ops Q rest (a.put o.dst undef) w') : wpList P ops Q (o :: rest) a w := by
 have hc' := hc
 obtain ⟨t, h⟩ := hc'
 obtain ⟨k1, k2, k3⟩ := setRow_words cells hc
 exact wpList_store_row hgd ty x y ho g cells hx hy t old.toArray h hi (by simpa using hold) (by rw [← Array.all_toList]; exact h1) (hK _ k1 k2 k3)
theorem wpList_loadAgg (hgd : o.guard = none) (ty : TypeId) (x : Operand) (ho : o.op = .load ty x) (g : Nat) (cells : Array Value) (hx : a.eval x = .pointer (some ⟨g, 0, none⟩)) (hc : cellsAt w g cells.toList)
 (d : TypeDesc) (hu : P.underlying ty = some d) (hd : aggB d = true) (hi : (P.info? ty).map (·.size) = some cells.size)
 (hK : wpList P ops Q rest (a.put o.dst (.agg cells)) w) : wpList P ops Q (o :: rest) a w := by
 obtain ⟨t, h⟩ := hc
 exact wpList_load_row hgd ty x ho g hx t cells (0, 0) d (by simpa using h) hu (by cases d <;> first | rfl | (simp [aggB] at hd)) hi hK
end
end Go.Wh

namespace Go.Proofs.YtlcfoeikamkpmaaGreat
open Go.RowKit Go.Wh Go.Maps

theorem size_en : (Tryz.prog.info? 69).map (·.size) = some 16 := by kernel_rfl
theorem under_en : ∃ d, Tryz.prog.underlying 69 = some d ∧ aggB d = true := ⟨_, Tryz.underlying69, rfl⟩
def zE : List Value := [.int .i64 0, .int .i64 0, .int .i64 0, .int .i64 0, .int .i64 0, .int .i64 0, .int .i64 0, .int .i64 0, .int .i64 0, .int .i64 0, .slice none 0 0, .slice none 0 0, .slice none 0 0, .slice none 0 0, .slice none 0 0, .slice none 0 0]
structure TkSt (W : World) (Q : Nat → Prop) (r b2 b3 : Nat) (s : RS) (e : PE) (ov nv mv lv dv pv : Value) (w : World) : Prop where
 rd : RAt W (fun b => b = r) Q r s w
 z : cellsAt w b2 zE
 c : cellsAt w b3 (eV e ov nv mv lv dv pv).toList
 el : EIs w (fun g => b3 < g) e ov nv mv lv dv pv
 z2 : b2 < W.heap.size
 z3 : W.heap.size ≤ b3
 n2 : b2 ≠ r
section
variable {W w w' : World} {Q : Nat → Prop} {r b2 b3 : Nat} {s s' : RS} {e e' : PE} {ov nv mv lv dv pv ov' nv' mv' lv' dv' pv' : Value}
theorem TkSt.r3 (h : TkSt W Q r b2 b3 s e ov nv mv lv dv pv w) : r < b3 := Nat.lt_of_lt_of_le h.rd.rl h.z3
theorem TkSt.call (h : TkSt W Q r b2 b3 s e ov nv mv lv dv pv w) (k : RAt w (fun b => b = r) Q r s' w') : TkSt W Q r b2 b3 s' e ov nv mv lv dv pv w' :=
 ⟨h.rd.back k, h.z.only k.only h.n2, h.c.only k.only (fun e => by have := h.r3; omega), h.el.only k.only (fun g hg e => by have := h.r3; omega), h.z2, h.z3, h.n2⟩
theorem TkSt.store (h : TkSt W Q r b2 b3 s e ov nv mv lv dv pv w) (i : Nat) (u : Value) (hc : (eV e ov nv mv lv dv pv).toList.set i u = (eV e' ov' nv' mv' lv' dv' pv').toList) (he : EIs w (fun g => b3 < g) e' ov' nv' mv' lv' dv' pv') : TkSt W Q r b2 b3 s e' ov' nv' mv' lv' dv' pv' (w.setCell ⟨b3, i, none⟩ u) :=
 ⟨h.rd.setNew h.z3 u, h.z.setOther (fun e => by have := h.z2; have := h.z3; have e' : b2 = b3 := e; omega) u, by rw [← hc]; exact h.c.setCell i u, he.only (setCell_only w ⟨b3, i, none⟩ u) (fun g hg e => by have e' : g = b3 := e; omega), h.z2, h.z3, h.n2⟩
theorem EIs.none (k t u hf p n a b c d : Int) {P : Nat → Prop} : EIs w P ⟨k, t, u, hf, p, n, a, b, c, d, [], [], [], [], [], []⟩ (.slice none 0 0) (.slice none 0 0) (.slice none 0 0) (.slice none 0 0) (.slice none 0 0) (.slice none 0 0) :=
 ⟨Sl.nil, Sl.nil, Sl.nil, Sl.nil, Sl.nil, OpSl.nil, (fun z hz => by cases hz), (fun z hz => by cases hz)⟩
theorem numS_byt {n : Nat} (h : Byt s.1) : Byt (numS n s).2.1 := by
 unfold numS tkS
 split
 · intro z hz; cases hz
 · exact h.drop n
theorem imS_byt (h : Byt s.1) : Byt (imS s).1 := tkS_byt (numS_byt h)
theorem imS_len {k : Nat} (h : s.1.length ≤ k) : (imS s).2.1.length ≤ k := tkS_len (numS_len h)
theorem OpSl.mono {P R : Nat → Prop} {dv : Value} {m : Nat} {l : List POp} (h : OpSl w P dv m l) (hr : ∀ g, P g → R g) : OpSl w R dv m l := by
 obtain ⟨mvs, h1, h2, h3⟩ := h
 exact ⟨mvs, h1, h2.mono hr, fun k o mv hk hm => (h3 k o mv hk hm).mono hr⟩
theorem EIs.put_num {P : Nat → Prop} (h : EIs w P e ov nv mv lv dv pv) (h1 : e'.old = e.old) (h2 : e'.new = e.new) (h3 : e'.moves = e.moves) (h4 : e'.lives = e.lives) (h5 : e'.dirty = e.dirty) (h6 : e'.opens = e.opens) : EIs w P e' ov nv mv lv dv pv :=
 ⟨by rw [h1]; exact h.o, by rw [h2]; exact h.n, by rw [h3]; exact h.m, by rw [h4]; exact h.l, by rw [h5]; exact h.d, by rw [h6]; exact h.p, by rw [h1]; exact h.bo, by rw [h2]; exact h.bn⟩
theorem EIs.mono {P R : Nat → Prop} (h : EIs w P e ov nv mv lv dv pv) (hr : ∀ g, P g → R g) : EIs w R e ov nv mv lv dv pv :=
 ⟨h.o.mono hr, h.n.mono hr, h.m.mono hr, h.l.mono hr, h.d.mono hr, OpSl.mono h.p hr, h.bo, h.bn⟩
theorem cellsAt.still {r : Nat} {l : List Value} (h : cellsAt w r l) (hs : Still w w') : cellsAt w' r l := h.only hs fun e => e
end

theorem decS_of {s : RS} {q0 : Int × RS} {q1 : Int × RS} {q2 : Int × RS} {q3 : Int × RS} {q4 : Int × RS} {q5 : Int × RS} {q6 : (Int × Int) × RS} {q7 : (Int × Int) × RS} {q8 : List Int × RS} {q9 : List Int × RS} {q10 : List PMv × RS} {q11 : List PLv × RS} {q12 : List PDt × RS} {q13 : List POp × RS} (h0 : numS 1 s = q0) (h1 : numS 1 q0.2 = q1) (h2 : numS 2 q1.2 = q2) (h3 : numS 1 q2.2 = q3) (h4 : numS 3 q3.2 = q4) (h5 : numS 3 q4.2 = q5) (h6 : spS q5.2 = q6) (h7 : spS q6.2 = q7) (h8 : imS q7.2 = q8) (h9 : imS q8.2 = q9) (h10 : readsS mvS q9.2 = q10) (h11 : readsS lvS q10.2 = q11) (h12 : readsS dtS q11.2 = q12) (h13 : readsS opS q12.2 = q13) : decS s = (⟨q0.1, q1.1, q2.1, q3.1, q4.1, q5.1, q6.1.1, q6.1.2, q7.1.1, q7.1.2, q8.1, q9.1, q10.1, q11.1, q12.1, q13.1⟩, q13.2) := by
 subst h6 h7
 have e8 : imS (numS 1 (numS 1 (numS 1 (numS 1 q5.2).2).2).2).2 = q8 := h8
 simp only [decS, h0, h1, h2, h3, h4, h5, e8, h9, h10, h11, h12, h13]
 rfl

def TakePost (w : World) (b : List Int) (en : Ending) (w' : World) : Prop :=
 Still w w' ∧ match takeE b with
 | some e => ∃ ov nv mv lv dv pv, en = .returned (.tuple #[.agg (eV e ov nv mv lv dv pv), .int .i64 0]) ∧ EIs w' (fun g => w.heap.size ≤ g) e ov nv mv lv dv pv
 | none => en = .returned (.tuple #[.agg zE.toArray, .int .i64 4])
theorem TakePost.yes {w w' : World} {b : List Int} {e : PE} {ov nv mv lv dv pv : Value} (ht : takeE b = some e) (hs : Still w w') (he : EIs w' (fun g => w.heap.size ≤ g) e ov nv mv lv dv pv) : TakePost w b (.returned (.tuple #[.agg (eV e ov nv mv lv dv pv), .int .i64 0])) w' := by
 refine ⟨hs, ?_⟩
 rw [ht]
 exact ⟨ov, nv, mv, lv, dv, pv, rfl, he⟩
theorem TakePost.no {w w' : World} {b : List Int} (ht : takeE b = none) (hs : Still w w') : TakePost w b (.returned (.tuple #[.agg zE.toArray, .int .i64 4])) w' := by
 refine ⟨hs, ?_⟩
 rw [ht]
end Go.Proofs.YtlcfoeikamkpmaaGreat

/- Package plan: Next, of fewer than twenty spots. Conditions: keys differ. -/
import Derived.Test.YtpppphalacojjaaPlanE
import Derived.Test.YtpppphalacojjaaVecStep
namespace Go.Proofs.Ytpppphalacojjaa
open Go.RowKit Go.Wh

/-- A row's place. -/
structure Rid where
  p : Int
  c : Int
def rc (s : Rid) : List Value := [.int .i64 s.p, .int .i64 s.c]
def flatR (l : List Rid) : List Value := l.flatMap rc
theorem flatR_cons (s : Rid) (l : List Rid) : flatR (s :: l) = .int .i64 s.p :: .int .i64 s.c :: flatR l := rfl
theorem flatR_append (l m : List Rid) : flatR (l ++ m) = flatR l ++ flatR m := by simp [flatR]
theorem flatR_length (l : List Rid) : (flatR l).length = l.length * 2 := by
  induction l with
  | nil => rfl
  | cons s l ih => rw [flatR_cons]; simp [ih]; omega
theorem flatR_at (F : List Rid) (s : Rid) (G : List Rid) : (flatR (F ++ s :: G))[F.length * 2]? = some (.int .i64 s.p) ∧ (flatR (F ++ s :: G))[F.length * 2 + 1]? = some (.int .i64 s.c) := by
  rw [flatR_append, flatR_cons]
  have e := flatR_length F
  refine ⟨?_, ?_⟩ <;> rw [List.getElem?_append_right (by omega), e]
  · simp
  · rw [Nat.add_sub_cancel_left]; rfl

/-- A move. -/
structure Mv where
  fp : Int
  fc : Int
  tp : Int
  tc : Int
def mc (s : Mv) : List Value := [.int .i64 s.fp, .int .i64 s.fc, .int .i64 s.tp, .int .i64 s.tc]
def flatM (l : List Mv) : List Value := l.flatMap mc
theorem flatM_cons (s : Mv) (l : List Mv) : flatM (s :: l) = .int .i64 s.fp :: .int .i64 s.fc :: .int .i64 s.tp :: .int .i64 s.tc :: flatM l := rfl
theorem flatM_append (l m : List Mv) : flatM (l ++ m) = flatM l ++ flatM m := by simp [flatM]
theorem flatM_length (l : List Mv) : (flatM l).length = l.length * 4 := by
  induction l with
  | nil => rfl
  | cons s l ih => rw [flatM_cons]; simp [ih]; omega
def mvs (l : List Spot) (r : List Rid) : List Mv := List.zipWith (fun s t => ⟨s.p, s.c, t.p, t.c⟩) l r
theorem mvs_snoc (l : List Spot) (r : List Rid) (k : Nat) (h1 : k < l.length) (h2 : k < r.length) : mvs (l.take (k + 1)) (r.take (k + 1)) = mvs (l.take k) (r.take k) ++ [⟨l[k].p, l[k].c, r[k].p, r[k].c⟩] := by
  unfold mvs
  rw [List.take_succ_eq_append_getElem h1, List.take_succ_eq_append_getElem h2, List.zipWith_append]
  · rfl
  · simp; omega

theorem mvs_min (l : List Spot) (r : List Rid) (k : Nat) (hk : k = min (min l.length r.length) 2) : mvs (l.take 2) (r.take 2) = mvs (l.take k) (r.take k) := by
  subst hk
  unfold mvs
  apply List.ext_getElem
  · simp; omega
  · intro i h1 h2
    simp

theorem infoMv : (Try.prog.info? 39).map (fun i => (i.zero, i.size, i.bytes)) = some (some (.agg #[.int .i64 0, .int .i64 0, .int .i64 0, .int .i64 0]), 4, 32) := by kernel_rfl

/-- The two cells of a spot's place, and of a free cell. -/
theorem at_of {w : World} {g o n cap : Nat} {l : List Spot} (h : VecAt w 3 g o n cap (flat l)) (k : Nat) (hk : k < l.length) : w.cell? ⟨g, o + k * 3, none⟩ = some (.string l[k].key) ∧ w.cell? ⟨g, o + k * 3 + 1, none⟩ = some (.int .i64 l[k].p) ∧ w.cell? ⟨g, o + k * 3 + 2, none⟩ = some (.int .i64 l[k].c) := by
  have hl := h.len
  rw [flat_length] at hl
  have e : l = l.take k ++ l[k] :: l.drop (k + 1) := by
    rw [← List.drop_eq_getElem_cons hk, List.take_append_drop]
  have a := flat_at (l.take k) l[k] (l.drop (k + 1))
  rw [← e] at a
  have hk2 : (l.take k).length = k := by simp; omega
  rw [hk2] at a
  refine ⟨?_, ?_, ?_⟩
  · rw [h.cells _ (by omega)]; exact a.1
  · rw [Nat.add_assoc, h.cells _ (by omega)]; exact a.2.1
  · rw [Nat.add_assoc, h.cells _ (by omega)]; exact a.2.2
theorem rid_of {w : World} {g o n cap : Nat} {l : List Rid} (h : VecAt w 2 g o n cap (flatR l)) (k : Nat) (hk : k < l.length) : w.cell? ⟨g, o + k * 2, none⟩ = some (.int .i64 l[k].p) ∧ w.cell? ⟨g, o + k * 2 + 1, none⟩ = some (.int .i64 l[k].c) := by
  have hl := h.len
  rw [flatR_length] at hl
  have e : l = l.take k ++ l[k] :: l.drop (k + 1) := by
    rw [← List.drop_eq_getElem_cons hk, List.take_append_drop]
  have a := flatR_at (l.take k) l[k] (l.drop (k + 1))
  rw [← e] at a
  have hk2 : (l.take k).length = k := by simp; omega
  rw [hk2] at a
  refine ⟨?_, ?_⟩
  · rw [h.cells _ (by omega)]; exact a.1
  · rw [Nat.add_assoc, h.cells _ (by omega)]; exact a.2

/-- The world that Next has turned, with what it answers. -/
def NextPost (w : World) (l : List Spot) (r : List Rid) (e : Ending) (w' : World) : Prop :=
  ∃ v' l', e = .returned v' ∧ l'.Perm l ∧ Sorted l' ∧ Vec w' 4 v' (min (min l.length r.length) 2) (flatM (mvs (l'.take 2) (r.take 2))) ∧ Below w.heap.size w w' ∧ ∀ g, v'.ownBlock = some g → w.heap.size ≤ g

structure NextRel (w w2 : World) (l : List Spot) (r : List Rid) (k : Nat) (vo : Value) (wr : World) : Prop where
  vec : Vec wr 4 vo k (flatM (mvs (l.take k) (r.take k)))
  below : Below w2.heap.size w2 wr
  fresh : ∀ g, vo.ownBlock = some g → w2.heap.size ≤ g

/-- A new block of a move. -/
def mob (T : TypeId) (a b c d : Int) : Obj := .cells #[.int .i64 a, .int .i64 b, .int .i64 c, .int .i64 d] T

structure NextStep (T : TypeId) (w w2 : World) (l : List Spot) (r : List Rid) (k : Nat) (vo : Value) (wr : World) (g o g1 o1 : Nat) (a b c d : Int) : Prop where
  c1 : wr.cell? ⟨g, o + k * 3 + 1, none⟩ = some (.int .i64 a)
  c2 : wr.cell? ⟨g, o + k * 3 + 1 + 1, none⟩ = some (.int .i64 b)
  d0 : wr.cell? ⟨g1, o1 + k * 2, none⟩ = some (.int .i64 c)
  d1 : wr.cell? ⟨g1, o1 + k * 2 + 1, none⟩ = some (.int .i64 d)
  old : Vec (wr.drew.alloc (.cells #[.int .i64 a, .int .i64 b, .int .i64 c, .int .i64 d] T)) 4 vo k (flatM (mvs (l.take k) (r.take k)))
  new : Reads (wr.drew.alloc (.cells #[.int .i64 a, .int .i64 b, .int .i64 c, .int .i64 d] T)) 4 (.slice (some ⟨wr.heap.size, 0, none⟩) 1 1) 1 [.int .i64 a, .int .i64 b, .int .i64 c, .int .i64 d]
  kept : ∀ w', Only (fun k => vo.ownBlock = some k) (wr.drew.alloc (.cells #[.int .i64 a, .int .i64 b, .int .i64 c, .int .i64 d] T)) w' →
    w'.cell? ⟨g, o + k * 3 + 1, none⟩ = some (.int .i64 a) ∧ w'.cell? ⟨g, o + k * 3 + 1 + 1, none⟩ = some (.int .i64 b) ∧ w'.cell? ⟨g1, o1 + k * 2, none⟩ = some (.int .i64 c) ∧ w'.cell? ⟨g1, o1 + k * 2 + 1, none⟩ = some (.int .i64 d)
  next : ∀ v' w', Vec w' 4 v' (k + 1) (flatM (mvs (l.take k) (r.take k)) ++ [.int .i64 a, .int .i64 b, .int .i64 c, .int .i64 d]) → Only (fun k => vo.ownBlock = some k) (wr.drew.alloc (.cells #[.int .i64 a, .int .i64 b, .int .i64 c, .int .i64 d] T)) w' →
    (v'.ownBlock = vo.ownBlock ∨ ∃ g, v'.ownBlock = some g ∧ (wr.drew.alloc (.cells #[.int .i64 a, .int .i64 b, .int .i64 c, .int .i64 d] T)).heap.size ≤ g ∧ g < w'.heap.size) → NextRel w w2 l r (k + 1) v' w'

theorem NextRel.step (T : TypeId) {w w2 wr : World} {l : List Spot} {r : List Rid} {k n m : Nat} {vo : Value} (h : NextRel w w2 l r k vo wr) {g o cap g1 o1 cap1 : Nat}
    (hv : VecAt w2 3 g o n cap (flat l)) (hf : VecAt w2 2 g1 o1 m cap1 (flatR r)) (hn : l.length = n) (hm : r.length = m) (hkn : k < n) (hkm : k < m) :
    ∃ a b c d, NextStep T w w2 l r k vo wr g o g1 o1 a b c d := by
  have hgl := hv.lt (by have := hv.le; omega)
  have hgf := hf.lt (by have := hf.le; omega)
  have hv' := hv.block (h.below.block g hgl)
  have hf' := hf.block (h.below.block g1 hgf)
  obtain ⟨c0, c1, c2⟩ := at_of hv' k (by omega)
  obtain ⟨d0, d1⟩ := rid_of hf' k (by omega)
  have hbl : Below w2.heap.size w2 (wr.drew.alloc (.cells #[.int .i64 l[k].p, .int .i64 l[k].c, .int .i64 r[k].p, .int .i64 r[k].c] T)) := (h.below.trans (Below.mono below_drew h.below.size)).alloc h.below.size _
  have hbw : ∀ w', Only (fun k => vo.ownBlock = some k) (wr.drew.alloc (.cells #[.int .i64 l[k].p, .int .i64 l[k].c, .int .i64 r[k].p, .int .i64 r[k].c] T)) w' → Below w2.heap.size w2 w' := fun w' ho =>
    hbl.trans (ho.below hbl.size (fun i hi e => by have := h.fresh i e; omega))
  refine ⟨l[k].p, l[k].c, r[k].p, r[k].c, c1, c2, d0, d1, h.vec.drew.alloc _, reads_block (n := 1) (size := 4) (c := 1) (heap_alloc_new wr.drew _) rfl, fun w' ho => ?_, fun v' w' hv' ho hb => ?_⟩
  · have hb := hbw w' ho
    have hv2 := hv.block (hb.block g hgl)
    have hf2 := hf.block (hb.block g1 hgf)
    obtain ⟨c0, c1, c2⟩ := at_of hv2 k (by omega)
    obtain ⟨d0, d1⟩ := rid_of hf2 k (by omega)
    exact ⟨c1, c2, d0, d1⟩
  · refine ⟨?_, hbw w' ho, fun g hg => ?_⟩
    · rw [mvs_snoc l r k (by omega) (by omega), flatM_append]
      exact hv'
    · rcases hb with e | ⟨g', e, h1, _⟩
      · exact h.fresh g (e.symm.trans hg)
      · rw [e] at hg
        injection hg with hg
        have := hbl.size
        omega

theorem mc_one (s : Mv) : ∀ u ∈ mc s, u.oneCell' = true := by
  intro u hu
  simp only [mc, List.mem_cons, List.not_mem_nil, or_false] at hu
  rcases hu with rfl | rfl | rfl | rfl <;> rfl

theorem distinct_adj {l : List Spot} (h : Distinct l) : ∀ F y x G, l = F ++ y :: x :: G → (x.key.toList == y.key.toList) = false := by
  rintro F y x G rfl
  have h1 := (List.pairwise_append.1 h).2.1
  have h2 := (List.pairwise_cons.1 h1).1 x (by simp)
  have : ¬ x.key.toList = y.key.toList := fun e => h2 (toList_inj e.symm)
  simpa using this

set_option maxRecDepth 100000 in
set_option maxHeartbeats 2000000 in
theorem next_of (l : List Spot) (r : List Rid) (v fv : Value) (w : World)
    (hs : Calls Try.prog 12 #[v] w (SortedPost w l.length l)) (hd : Distinct l) (hn : l.length ≤ 10000) (hr : r.length ≤ 10000) (hf : Vec w 2 fv r.length (flatR r)) :
    Calls Try.prog 11 #[v, fv] w (NextPost w l r) := by
  have C := Lib.hid hs
  have HF := Lib.hid hf
  have HD := Lib.hid hd
  obtain ⟨fa, fcap, rfl⟩ := hf.form'
  clear hs hd hf
  go_enter Try.func11, Try.ntmps11
  go_wp2_with fail
  refine C.out.mono ?_
  clear C
  rintro e w1 ⟨v1, l', rfl, hp, hso, hv1, hb1, hg1⟩
  have C2 := Lib.hid (compact_any v1 l.length l' w1 hv1 (distinct_adj (HD.out.perm hp.symm)) hn)
  have HF1 := Lib.hid (HF.out.belowAll hb1)
  have HV1 := Lib.hid hv1
  have HB1 := Lib.hid hb1
  have HP := Lib.hid hp
  have HSO := Lib.hid hso
  clear hp hso hv1 hb1 hg1 HF HD
  go_wp2_with fail
  refine C2.out.mono ?_
  clear C2
  rintro e w2 ⟨rfl, hb2⟩
  have HF2 := Lib.hid (HF1.out.belowAll hb2)
  have HV2 := Lib.hid (HV1.out.belowAll hb2)
  have HB2 := Lib.hid (HB1.out.trans (Below.mono hb2 HB1.out.size))
  clear hb2 HF1 HV1 HB1
  obtain ⟨va, vcap, rfl⟩ := HV2.out.form'
  obtain ⟨n, hnn⟩ : ∃ n, l.length = n := ⟨_, rfl⟩
  obtain ⟨m, hmm⟩ : ∃ m, r.length = m := ⟨_, rfl⟩
  rw [hnn] at hn HV2 ⊢
  rw [hmm] at hr HF2 ⊢
  have HN := Lib.hid (show l'.length = n from HP.out.length_eq.trans hnn)
  have HM := Lib.hid hmm
  have HNN := Lib.hid hnn
  clear hnn hmm
  have hif : (if m < n then m else n) = min n m := by split <;> omega
  by_cases hA : m < n <;> by_cases hB : 2 < min n m
  all_goals
    first
    | (have hB1 : (2 : Nat) < m := by omega
       have hB2 : (2 : Nat) < n := by omega)
    | have hB1 : ¬ (2 : Nat) < m := by omega
    | have hB1 : ¬ (2 : Nat) < n := by omega
    go_wp2_with fail
    go_loopw [5, 15] (fun so s wr => ∃ k : Nat, s = .int .i64 k ∧ k ≤ min (min n m) 2 ∧ NextRel w w2 l' r k so wr) (fun _ s _ => 2 - (intOf s).toNat)
    case atStart =>
      exact ⟨0, rfl, by omega, ⟨by simpa [mvs, flatM] using Vec.nil _ _, Below.refl _ _, fun g hg => by cases hg⟩⟩
    case round =>
      obtain ⟨k, rfl, hk, hrel⟩ := hrel
      have HR := Lib.hid hrel
      clear hrel
      by_cases hkc : k < min (min n m) 2
      · obtain ⟨g, o, cap, hve, hv⟩ := HV2.out.form (by omega)
        injection hve with hva _ hvc
        subst hva hvc
        obtain ⟨g1, o1, cap1, hfe, hf⟩ := HF2.out.form (by omega)
        injection hfe with hfa _ hfc
        subst hfa hfc
        have hkn : k < n := by omega
        have hkm : k < m := by omega
        have hk2 : k < 2 := by omega
        obtain ⟨a, b, c, d, hst⟩ := HR.out.step 39 hv hf HN.out HM.out hkn hkm
        have HS := Lib.hid hst
        clear hst hv hf
        go_wp2_with fail
        have c1 := HS.out.c1
        have c2 := HS.out.c2
        have d0 := HS.out.d0
        have d1 := HS.out.d1
        have a1 : (0 : Int) ≤ (k : Int) := by omega
        have a2 : (k : Int) < (n : Int) := by omega
        have a3 : (k : Int) < (m : Int) := by omega
        obtain ⟨i0, hi, hz0, hz1, hz2⟩ := info_parts infoMv
        go_region_held3 (fun w' => w'.cell? ⟨g, o + k * 3 + 1, none⟩ = some (.int .i64 a) ∧ w'.cell? ⟨g, o + k * 3 + 1 + 1, none⟩ = some (.int .i64 b) ∧ w'.cell? ⟨g1, o1 + k * 2, none⟩ = some (.int .i64 c) ∧ w'.cell? ⟨g1, o1 + k * 2 + 1, none⟩ = some (.int .i64 d))
          (first | go_keep | (exact HS.out.kept _ ho'))
          (first | (refine step_append_vec rfl _ _ 36 rfl 39 i0 _ 4 32 Try.underlying36 hi hz0 hz1 hz2 rfl (by decide) u5 k _ (by simp [Act.eval]) HS.out.old _ 1 _ (by simp [Act.eval]) HS.out.new (mc_one ⟨_, _, _, _⟩) (by simp only [maxLen]; omega) (by omega) ?_; intro v' w' hv' ho' hb'))
        have HN2 := Lib.hid (HS.out.next _ _ hv' ho' hb')
        clear hv' ho' hb' c1 c2 d0 d1 a1 a2 a3 hi hz0 hz1 hz2
        go_wp2_with fail
        go_roundw
        case rel => exact ⟨k + 1, by go_num, by omega, HN2.out⟩
        case measure => simp [intOf]; omega
      · have hke : k = min (min n m) 2 := by omega
        have F := Lib.hid (show NextPost w l r (.returned u5) wr from by
          refine ⟨u5, l', rfl, HP.out, HSO.out, ?_, HB2.out.trans (Below.mono HR.out.below HB2.out.size), fun g hg => ?_⟩
          · have hv := HR.out.vec
            rw [HNN.out, HM.out, ← hke]
            have hz : mvs (l'.take 2) (r.take 2) = mvs (l'.take k) (r.take k) := mvs_min l' r k (by rw [HN.out, HM.out]; exact hke)
            rw [hz]
            exact hv
          · have := HR.out.fresh g hg
            have := HB2.out.size
            omega)
        clear HR
        have hk0 : ¬ k < min (min n m) 2 := hkc
        go_wp2_with fail
        go_ret
        exact F.out
end Go.Proofs.Ytpppphalacojjaa

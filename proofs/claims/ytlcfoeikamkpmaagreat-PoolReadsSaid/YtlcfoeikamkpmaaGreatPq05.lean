/- Bytes: whether they are equal; their two sums. Conditions: they lie in memory. A trail in memory; what a tile of it should say; how much room there is. Conditions: it lies in memory; a stream of at most a million bytes. A trail: what its tiles say. Conditions: it and the disk lie in memory; its tiles are the disk's, bytes. A trail: its tiles say what they should (clean). Conditions: it and the disk lie in memory, apart; its tiles are the disk's, bytes. -/
import Derived.Test.YtlcfoeikamkpmaaGreatPq04
import Derived.Laws.BytesArg
import Derived.LoopTactic
namespace Go.Proofs.YtlcfoeikamkpmaaGreat
open Go.RowKit Go.Wh Go.Maps

theorem convB0 {w : World} (a : Addr) (c : Nat) : (convert 22 9 (.slice (some a) 0 c)).run Tryz.prog w = .ok (.string (strOfNums [])) w := by
 have hl : (loadCells a 0).run Tryz.prog w = .ok (([] : List Int).map (Value.int .u8)).toArray w := by
  have := run_loadCells_list (P := Tryz.prog) w a (([] : List Int).map (Value.int .u8)) (fun j v hj => by simp at hj)
  simpa using this
 rw [run_convert_bytes_string w 22 9 5 _ 0 c Tryz.underlying22 Tryz.underlying5 Tryz.underlying9, run_bytesToString w a 0 c [] hl, foldl_push_bytes]
 simp [strOfNums, ByteArray.empty, ByteArray.emptyWithCapacity]
 rfl
theorem convB {w : World} {Q : Nat → Prop} {v : Value} {n : Nat} {l : List Int} (h : Sl w Q 1 v n (bc l)) : (convert 22 9 v).run Tryz.prog w = .ok (.string (strOfNums l)) w := by
 have hlen : l.length = n := by have := h.1; rw [bc_length] at this; omega
 rcases h.2 with ⟨rfl | ⟨a, c, rfl⟩, rfl⟩ | ⟨g, o, c, rfl, -, hv⟩
 rotate_left
 · have : l = [] := by cases l with | nil => rfl | cons a l => cases hlen
   subst this
   exact convB0 a c
 rotate_left
 · have : l = [] := by cases l with | nil => rfl | cons a l => cases hlen
   subst this
   exact run_convert_bytes_nil w 22 5 Tryz.underlying22 Tryz.underlying5 0 0 9 Tryz.underlying9
 · refine run_convert_bytes_arg w 22 5 Tryz.underlying22 Tryz.underlying5 g o n c l hlen (fun i hi => ?_) 9 Tryz.underlying9
   refine hv i _ (bc_get ?_)
   rw [List.getD_eq_getElem?_getD, List.getElem?_eq_getElem (by omega)]
   rfl
theorem str_inj {a b : List Int} (ha : Byt a) (hb : Byt b) (h : (strOfNums a).toList = (strOfNums b).toList) : a = b := by
 rw [ByteArray.toList_eq, ByteArray.toList_eq, strOfNums_data, strOfNums_data] at h
 induction a generalizing b with
 | nil => cases b with | nil => rfl | cons y b => cases h
 | cons x a ih =>
  cases b with
  | nil => cases h
  | cons y b =>
   simp only [List.map_cons, List.cons.injEq] at h
   have h1 := congrArg UInt8.toNat h.1
   rw [UInt8.toNat_ofNat', UInt8.toNat_ofNat'] at h1
   have hx := ha x (by simp)
   have hy := hb y (by simp)
   have e : x = y := by omega
   rw [e, ih (fun z hz => ha z (by simp [hz])) (fun z hz => hb z (by simp [hz])) h.2]
theorem str_eq {a b : List Int} (ha : Byt a) (hb : Byt b) : ((strOfNums a).toList == (strOfNums b).toList) = decide (a = b) := by
 by_cases h : a = b
 · subst h
   simp
 · rw [decide_eq_false h, beq_eq_false_iff_ne]
   exact fun e => h (str_inj ha hb e)

theorem equal_any {Q1 Q2 : Nat → Prop} (w : World) (v1 v2 : Value) (n1 n2 : Nat) (l1 l2 : List Int) (h1 : Sl w Q1 1 v1 n1 (bc l1)) (h2 : Sl w Q2 1 v2 n2 (bc l2)) (b1 : Byt l1) (b2 : Byt l2) :
 Calls Tryz.prog 68 #[v1, v2] w (SamePost w (.bool (decide (l1 = l2)))) := by
 have q1 := convB h1
 have q2 := convB h2
 have HE := Lib.hid (str_eq b1 b2)
 have F := Lib.hid (show SamePost w (.bool (decide (l1 = l2))) (.returned (.bool (decide (l1 = l2)))) w from ⟨rfl, rfl⟩)
 obtain ⟨a1, c1, rfl⟩ := h1.form
 obtain ⟨a2, c2, rfl⟩ := h2.form
 clear h1 h2 b1 b2
 rw [← HE.out] at F ⊢
 generalize strOfNums l1 = s1 at *
 generalize strOfNums l2 = s2 at *
 go_enter Tryz.func68, Tryz.ntmps68
 go_wp2_with fail
 go_ret
 exact F.out

theorem sumB_append (a : List Int) (c : Int) : ∀ s : Int × Int, sumB (a ++ [c]) s = (((sumB a s).1 + c) % 255, ((sumB a s).2 + ((sumB a s).1 + c) % 255) % 255) := by
 induction a with
 | nil => intro s; obtain ⟨x, y⟩ := s; rfl
 | cons b a ih =>
  intro s
  obtain ⟨x, y⟩ := s
  show sumB (a ++ [c]) _ = _
  rw [ih]
  rfl

set_option maxHeartbeats 1000000 in
theorem check_any {Q : Nat → Prop} (w : World) (v : Value) (n : Nat) (l : List Int) (h : Sl w Q 1 v n (bc l)) (hb : Byt l) (hn : n ≤ 100000) :
 Calls Tryz.prog 89 #[v] w (FreshPost w 1 2 (bc (chkB l))) := by
 have hlen : l.length = n := by have := h.1; rw [bc_length] at this; omega
 have H := Lib.hid (And.intro h (And.intro hb (And.intro hlen hn)))
 obtain ⟨a, c, rfl⟩ := h.form
 clear h hb hlen hn
 go_enter Tryz.func89, Tryz.ntmps89
 go_wp2_with fail
 go_loopw [3, 4, 9] (fun s3 s4 s9 wr => ∃ i : Nat, s9 = .int .i64 i ∧ i ≤ n ∧ wr = w ∧ s3 = .int .i64 (sumB (l.take i) (0, 0)).1 ∧ s4 = .int .i64 (sumB (l.take i) (0, 0)).2) (fun _ _ s9 _ => n - (intOf s9).toNat)
 case atStart => exact ⟨0, rfl, Nat.zero_le _, rfl, rfl, rfl⟩
 case round =>
  obtain ⟨i, rfl, hi, rfl, rfl, rfl⟩ := hrel
  by_cases hin : i < n
  · obtain ⟨g, o, c', he, -, -, hv⟩ := H.out.1.pos (by omega)
    injection he with he _ hec
    subst he hec
    obtain ⟨z, hz⟩ : ∃ z, l[i]? = some z := ⟨_, List.getElem?_eq_getElem (by have := H.out.2.2.1; omega)⟩
    have c1 : wr.cell? ⟨g, o + i, none⟩ = some (.int .u8 z) := hv i _ (bc_get hz)
    have hzb := H.out.2.1 z (List.mem_of_getElem? hz)
    have hsr := sumB_range (l.take i) (0, 0) (by decide) (by decide)
    have hap : sumB (l.take (i + 1)) (0, 0) = (((sumB (l.take i) (0, 0)).1 + z) % 255, ((sumB (l.take i) (0, 0)).2 + ((sumB (l.take i) (0, 0)).1 + z) % 255) % 255) := by
     rw [List.take_add_one, hz]
     exact sumB_append _ _ _
    have HAP := Lib.hid hap
    generalize (sumB (l.take i) (0, 0)).1 = x at *
    generalize (sumB (l.take i) (0, 0)).2 = y at *
    have d1 : decide ((i : Int) < (n : Int)) = true := by simp; omega
    have d2 : decide (i < n) = true := by simp; omega
    have d3 : (0 : Int) ≤ (i : Int) := by omega
    have d4 : (i : Int) < (n : Int) := by omega
    have u9 : IntKind.i64.wrap ((i : Int) + 1) = (i : Int) + 1 := IntWalk.i64_in _ (by have := H.out.2.2.2; omega)
    obtain ⟨⟨x0, x1⟩, y0, y1⟩ := hsr
    obtain ⟨z0, z1⟩ := hzb
    clear hap hz hv
    go_wp2_with fail
    go_roundw
    case rel => exact ⟨i + 1, by go_num, by omega, trivial, by rw [HAP.out], by rw [HAP.out]⟩
    case measure => simp [intOf]; omega
  · have hie : i = n := by omega
    have hta : l.take i = l := List.take_of_length_le (by have := H.out.2.2.1; omega)
    have hsr := sumB_range l (0, 0) (by decide) (by decide)
    rw [hta]
    have F := Lib.hid (fun t => show FreshPost wr 1 2 (bc (chkB l)) (.returned (.slice (some ⟨wr.heap.size, 0, none⟩) 2 2)) (wr.alloc (.cells #[.int .u8 (sumB l (0, 0)).1, .int .u8 (sumB l (0, 0)).2] t)) from by
     have hc := cellsAt_new wr [.int .u8 (sumB l (0, 0)).1, .int .u8 (sumB l (0, 0)).2] t
     exact ⟨_, rfl, vec_block (n := 2) (heap_alloc_new _ _) rfl (by simp only [maxLen]; omega), (Below.refl _ _).alloc (Nat.le_refl _) _, fun g hg => by cases hg; exact ⟨Nat.le_refl _, by simp⟩⟩)
    generalize (sumB l (0, 0)).1 = x at *
    generalize (sumB l (0, 0)).2 = y at *
    have d1 : decide ((i : Int) < (n : Int)) = false := by simp; omega
    have d2 : decide (i < n) = false := by simp; omega
    obtain ⟨⟨x0, x1⟩, y0, y1⟩ := hsr
    have f1 : IntKind.u8.wrap x = x := IntWalk.u8_in _ (by omega)
    have f2 : IntKind.u8.wrap y = y := IntWalk.u8_in _ (by omega)
    clear hta
    go_wp2_with fail
    go_ret
    exact F.out _
end Go.Proofs.YtlcfoeikamkpmaaGreat

namespace Go.Proofs.YtlcfoeikamkpmaaGreat
open Go.RowKit Go.Wh Go.Maps

structure TlAt (w : World) (t d at_ n : Nat) (S : List Int) (sv : Value) (c st : Nat) : Prop where
 cells : cellsAt w t [.pointer (some ⟨d, 0, none⟩), .int .i64 at_, .int .i64 n, sv, .int .i64 c, .int .i64 st]
 s : Vec w 1 sv S.length (bc S)
 byt : Byt S
 st_ : ∀ g, sv.ownBlock = some g → g ≠ t ∧ g < w.heap.size
section
variable {w w' : World} {t d at_ n c st : Nat} {S : List Int} {sv : Value}
theorem TlAt.only {X : Nat → Prop} (h : TlAt w t d at_ n S sv c st) (ho : Only X w w') (h1 : ¬ X t) (h2 : ∀ g, sv.ownBlock = some g → ¬ X g) : TlAt w' t d at_ n S sv c st :=
 ⟨h.cells.only ho h1, h.s.only ho h2, h.byt, fun g hg => ⟨(h.st_ g hg).1, Nat.lt_of_lt_of_le (h.st_ g hg).2 ho.size⟩⟩
theorem TlAt.still (h : TlAt w t d at_ n S sv c st) (hs : Still w w') : TlAt w' t d at_ n S sv c st := h.only hs (fun e => e) (fun _ _ e => e)
end

def StPost (w : World) (v : Value) (e : Ending) (w' : World) : Prop := e = .returned v ∧ Still w w'
theorem left_any (w : World) (t d at_ n : Nat) (S : List Int) (sv : Value) (c st : Nat) (h : TlAt w t d at_ n S sv c st) (hn : n ≤ 2000) (hS : S.length ≤ 1000000) :
 Calls Tryz.prog 61 #[.pointer (some ⟨t, 0, none⟩)] w (StPost w (.int .i64 (63 * (n : Int) - (S.length : Int)))) := by
 obtain ⟨a, k, rfl⟩ := h.s.form'
 have c2 : w.cell? ⟨t, 2, none⟩ = some (.int .i64 n) := h.cells.cell 2
 have c3 : w.cell? ⟨t, 3, none⟩ = some (.slice a S.length k) := h.cells.cell 3
 have F := Lib.hid (fun w' (hs : Still w w') => show StPost w (.int .i64 (63 * (n : Int) - (S.length : Int))) (.returned (.int .i64 (63 * (n : Int) - (S.length : Int)))) w' from ⟨rfl, hs⟩)
 have u1 : IntKind.i64.wrap (63 * (n : Int)) = 63 * (n : Int) := IntWalk.i64_in _ (by omega)
 generalize S.length = m at *
 have u2 : IntKind.i64.wrap (63 * (n : Int) - (m : Int)) = 63 * (n : Int) - (m : Int) := IntWalk.i64_in _ (by omega)
 clear h
 go_enter Tryz.func61, Tryz.ntmps61
 go_wp2_with fail
 go_quiet (fail)
 go_wp2_with fail
 go_ret
 exact F.out _ ((Still.refl _).drewN _)
theorem count_any (w : World) (t d at_ n : Nat) (S : List Int) (sv : Value) (c st : Nat) (h : TlAt w t d at_ n S sv c st) :
 Calls Tryz.prog 26 #[.pointer (some ⟨t, 0, none⟩)] w (SamePost w (.int .i64 c)) := by
 have c4 : w.cell? ⟨t, 4, none⟩ = some (.int .i64 c) := h.cells.cell 4
 clear h
 go_enter Tryz.func26, Tryz.ntmps26
 go_wp2_with fail
 go_ret
 exact ⟨rfl, rfl⟩
theorem stable_any (w : World) (t d at_ n : Nat) (S : List Int) (sv : Value) (c st : Nat) (h : TlAt w t d at_ n S sv c st) :
 Calls Tryz.prog 25 #[.pointer (some ⟨t, 0, none⟩)] w (SamePost w (.int .i64 st)) := by
 have c5 : w.cell? ⟨t, 5, none⟩ = some (.int .i64 st) := h.cells.cell 5
 clear h
 go_enter Tryz.func25, Tryz.ntmps25
 go_wp2_with fail
 go_ret
 exact ⟨rfl, rfl⟩

theorem tile_cells (S : List Int) (i : Nat) : ((bc (List.replicate 64 0)).set 0 (.int .u8 ((partB S i).length : Int))).take 1 ++ bc (partB S i) ++ ((bc (List.replicate 64 0)).set 0 (.int .u8 ((partB S i).length : Int))).drop (1 + (partB S i).length) = bc (tileB S i) := by
 have hp := partB_length S i
 have e : (bc (List.replicate 64 0)).set 0 (.int .u8 ((partB S i).length : Int)) = .int .u8 ((partB S i).length : Int) :: bc (List.replicate 63 0) := rfl
 rw [e]
 unfold tileB bc
 rw [List.take_succ_cons, List.take_zero, show 1 + (partB S i).length = (partB S i).length + 1 from Nat.add_comm _ _, List.drop_succ_cons, List.map_replicate, List.drop_replicate]
 simp

def zeros64 : Array Value := (bc (List.replicate 64 0)).toArray
theorem take_len (l : List Int) (k : Nat) : l.take (l.take k).length = l.take k := by
 rw [List.length_take]
 rcases Nat.le_total k l.length with h | h
 · rw [Nat.min_eq_left h]
 · rw [Nat.min_eq_right h, List.take_length, List.take_of_length_le h]
set_option maxHeartbeats 2000000 in
set_option maxRecDepth 100000 in
theorem tile_any (w : World) (t d at_ n : Nat) (S : List Int) (sv : Value) (c st : Nat) (i : Nat) (h : TlAt w t d at_ n S sv c st) (hi : i ≤ 2000) (hS : S.length ≤ 1000000) :
 Calls Tryz.prog 67 #[.pointer (some ⟨t, 0, none⟩), .int .i64 i] w (FreshPost w 1 64 (bc (tileB S i))) := by
 have H := Lib.hid h
 obtain ⟨from_, hfrom⟩ : ∃ k, k = min (i * 63) S.length := ⟨_, rfl⟩
 obtain ⟨to_, hto⟩ : ∃ k, k = min (from_ + 63) S.length := ⟨_, rfl⟩
 obtain ⟨pv, r1, -, -, hpv⟩ := h.s.part (size := 1) 22 Tryz.underlying22 (fun w => rfl) (show from_ ≤ to_ by omega) (show to_ ≤ S.length by omega)
 have hpl := partB_length S i
 have hlen : to_ - from_ = (partB S i).length := by omega
 have hpc : ((bc S).drop (from_ * 1)).take ((to_ - from_) * 1) = bc (partB S i) := by
  rw [Nat.mul_one, Nat.mul_one, hlen, bc_drop, bc_take]
  unfold partB
  congr 1
  rcases Nat.le_total (i * 63) S.length with hle | hle
  · rw [show from_ = i * 63 by omega, take_len]
  · rw [List.drop_eq_nil_of_le hle, List.take_nil, List.length_nil, List.take_zero]
 rw [hpc, hlen] at hpv
 obtain ⟨sa, sk, rfl⟩ := h.s.form'
 have c3 : w.cell? ⟨t, 3, none⟩ = some (.slice sa S.length sk) := h.cells.cell 3
 obtain ⟨pa, pk, hpe⟩ := (hpv w h.s).form'
 subst hpe
 have HPV := Lib.hid (fun w' (hs : Still w w') => hpv w' (h.s.only hs fun _ _ e => e))
 have HP := Lib.hid (show (partB S i).length ≤ 63 from by omega)
 generalize hm : S.length = m at *
 have SS := Lib.hid (fun w' (hs : Still w w') => show w'.cell? ⟨t, 3, none⟩ = some (.slice sa m sk) from Still.cell hs c3)
 have hmk : ∀ w : World, (Instr.makeSlice 22 (.int .i64 64) (.int .i64 64)).run Tryz.prog w = .ok (.slice (some ⟨w.heap.size, 0, none⟩) 64 64) (w.alloc (.cells zeros64 5)) := make64
 have u1 : IntKind.i64.wrap ((i : Int) * 63) = (i : Int) * 63 := IntWalk.i64_in _ (by omega)
 have e1 : min ((i : Int) * 63) (m : Int) = (from_ : Int) := by omega
 have u2 : IntKind.i64.wrap ((from_ : Int) + 63) = (from_ : Int) + 63 := IntWalk.i64_in _ (by omega)
 have e2 : min ((from_ : Int) + 63) (m : Int) = (to_ : Int) := by omega
 have c3A := fun ob => Still.cell ((Still.refl w).alloc ob) c3
 have HC := Lib.hid (tile_cells S i)
 generalize hpp : (partB S i).length = pl at *
 have HPL := Lib.hid hpp
 clear h hpv hpc hpl hlen hfrom hto hm hi hS hpp
 go_enter Tryz.func67, Tryz.ntmps67
 go_upto_region 3 with fail
 have hz := cellsAt_new w (bc (List.replicate 64 0)) 5
 have hs1 : Still w (w.alloc (.cells zeros64 5)) := (Still.refl w).alloc _
 change cellsAt (w.alloc (.cells zeros64 5)) w.heap.size _ at hz
 have hzz : (w.alloc (.cells zeros64 5)).heap.size = w.heap.size + 1 := by simp
 clear hmk c3A
 generalize (w.alloc (.cells zeros64 5)) = w1 at *
 obtain ⟨b, hb⟩ : ∃ b, w.heap.size = b := ⟨_, rfl⟩
 rw [hb] at hz hzz
 rw [hb]
 have c3' := SS.out _ hs1
 have hP := HP.out
 have cb : w1.cell? ⟨b, 0, none⟩ = some (.int .u8 0) := hz.cell 0
 have fb : w1.frozen? ⟨b, 0, none⟩ = false := hz.free 0
 have pm : (pl : Int) % 256 = pl := by omega
 have rs : ∀ w : World, (Instr.slice 22 (.slice (some ⟨b, 0, none⟩) 64 64) (some (.int .i64 1)) none none).run Tryz.prog w = .ok (.slice (some ⟨b, 1, none⟩) 63 63) w := fun w => by kernel_rfl
 have hcp : ∀ q, ∃ w3, (Builtin.copy_ #[22, 22] 3 #[.slice (some ⟨b, 1, none⟩) 63 63, .slice pa pl pk]).run Tryz.prog ((w1.drewN q).setCell ⟨b, 0, none⟩ (.int .u8 (pl : Int))) = .ok (.int .i64 (pl : Int)) w3 ∧ FreshPost w 1 64 (bc (tileB S i)) (.returned (.slice (some ⟨b, 0, none⟩) 64 64)) w3 := fun q => by
  have hz2 : cellsAt ((w1.drewN q).setCell ⟨b, 0, none⟩ (.int .u8 (pl : Int))) b ((bc (List.replicate 64 0)).set 0 (.int .u8 (pl : Int))) := (show cellsAt (w1.drewN q) b (bc (List.replicate 64 0)) from hz).setCell 0 _
  have hs2 : Only (fun k => k = b) w ((w1.drewN q).setCell ⟨b, 0, none⟩ (.int .u8 (pl : Int))) := Only.setCell (S := fun k => k = b) ((hs1.drewN q).mono fun _ e => e.elim) (.inl rfl) _
  have hv2 : VecAt ((w1.drewN q).setCell ⟨b, 0, none⟩ (.int .u8 (pl : Int))) 1 b 0 64 64 ((bc (List.replicate 64 0)).set 0 (.int .u8 (pl : Int))) := by
   obtain ⟨tt, hb2⟩ := hz2
   have := vecAt_block (size := 1) (n := 64) (cap := 64) hb2 rfl (by omega) (by simp only [maxLen]; omega)
   exact this
  have hpv2 : Vec ((w1.drewN q).setCell ⟨b, 0, none⟩ (.int .u8 (pl : Int))) 1 (.slice pa pl pk) pl (bc (partB S i)) := by
   exact Vec.kept (HPV.out w (Still.refl w)) fun g hg hl => hs2.block g hl fun e => by
    have e' : g = b := e
    omega
  have key : ∀ cs : List Value, cs = bc (partB S i) → ∀ w3, w3 = ((w1.drewN q).setCell ⟨b, 0, none⟩ (.int .u8 (pl : Int))).setCells b 1 cs → VecAt w3 1 b 0 64 64 (((bc (List.replicate 64 0)).set 0 (.int .u8 (pl : Int))).take 1 ++ cs ++ ((bc (List.replicate 64 0)).set 0 (.int .u8 (pl : Int))).drop (1 + pl)) → FreshPost w 1 64 (bc (tileB S i)) (.returned (.slice (some ⟨b, 0, none⟩) 64 64)) w3 := fun cs hcs w3 hw3 hva => by
   subst hcs
   rw [HC.out] at hva
   have hs3 : Only (fun k => k = b) w w3 := by
    rw [hw3]
    exact hs2.trans (Go.Wh.setCells_only _ b 1 _)
   refine ⟨_, rfl, .inr ⟨_, _, _, rfl, hva⟩, hs3.below (Nat.le_refl _) fun i hi e => by omega, fun g hg => ?_⟩
   have e : b = g := Option.some.inj hg
   have := hva.lt (by omega)
   omega
  rcases hpv2 with ⟨he, hn0, hnil⟩ | ⟨g, o, cc, he, hpa⟩
  · injection he with e1 e2 e3
    subst e1 e2 e3
    refine ⟨_, ?_, key [] hnil.symm _ rfl ?_⟩
    · simp [Builtin.copy_, run_underlying Tryz.underlying22, Builtin.lenOf, Builtin.firstCells, World.setCells, goInt, storeCells, Result.andThen]
    · rw [List.append_nil, List.take_append_drop]
      exact hv2
  · injection he with e1 e2 e3
    subst e1 e3
    have hmn : Nat.min pl 63 = pl := Nat.min_eq_left hP
    have h := run_copy_at (P := Tryz.prog) (size := 1) 22 22 3 5 Tryz.underlying22 (by kernel_rfl) hv2 1 63 63 ⟨g, o, none⟩ pl pk (bc (partB S i)) (by rw [bc_length, HPL.out, hmn]; omega) (by rw [hmn]; omega) (fun j u hj => by
     rw [Addr.add_lit]
     have hj' := (List.getElem?_eq_some_iff.1 hj).1
     have hlp := hpa.len
     rw [hpa.cells j (by omega)]
     exact hj) (bc_one _)
    rw [hmn] at h
    refine ⟨_, h.1, key _ rfl _ rfl ?_⟩
    simpa using h.2
 have HZ := Lib.hid (And.intro hs1 (And.intro hb hzz))
 clear hz hs1 hb hzz c3
 go_quiet (fail)
 obtain ⟨w3, hrun, hpost⟩ := hcp nq
 have F := Lib.hid hpost
 clear hpost hcp
 go_wp2_with fail
 go_ret
 exact F.out
end Go.Proofs.YtlcfoeikamkpmaaGreat

namespace Go.Proofs.YtlcfoeikamkpmaaGreat
open Go.RowKit Go.Wh Go.Maps

theorem readB_cons (s : List Int) (l : List (List Int)) : readB (s :: l) = if 63 < s.headD 0 then [] else (s.drop 1).take (s.headD 0).toNat ++ (if s.headD 0 < 63 then [] else readB l) := rfl

def tls (T : List (List Int)) (a n : Nat) : List (List Int) := (T.drop a).take n
theorem tls_get {T : List (List Int)} {a n i : Nat} {l : List Int} (h : T[a + i]? = some l) (hi : i < n) : (tls T a n).drop i = l :: (tls T a n).drop (i + 1) := by
 have h1 : (tls T a n)[i]? = some l := by
  unfold tls
  rw [List.getElem?_take, if_pos hi, List.getElem?_drop]
  exact h
 obtain ⟨hl, he⟩ := List.getElem?_eq_some_iff.1 h1
 rw [List.drop_eq_getElem_cons hl, he]

structure RdRel (w : World) (i : Nat) (u : Value) (acc : List Int) (wr : World) : Prop where
 v : Vec wr 1 u acc.length (bc acc)
 still : Still w wr
 own : ∀ g, u.ownBlock = some g → w.heap.size ≤ g ∧ g < wr.heap.size
 byt : Byt acc
 len : acc.length ≤ 63 * i

theorem RdRel.next {w wr w1 w2 : World} {i : Nat} {u v' : Value} {acc part : List Int} {X : Nat} (h : RdRel w i u acc wr) (hs : Still wr w1) (hv : Vec w2 1 v' (acc.length + X) (bc acc ++ bc part)) (hX : part.length = X) (ho : Only (fun k => u.ownBlock = some k) w1 w2)
 (hb : v'.ownBlock = u.ownBlock ∨ ∃ g, v'.ownBlock = some g ∧ w1.heap.size ≤ g ∧ g < w2.heap.size) (hp : Byt part) (hl : part.length ≤ 63) {j : Nat} (hj : i + 1 = j) : RdRel w j v' (acc ++ part) w2 := by
 have z1 := h.still.size
 have z2 := hs.size
 have z3 := ho.size
 have h1 := h.still.trans hs
 refine ⟨?_, h1.andThen ho fun k hk e => by have := (h.own k e).1; omega, fun g hg => ?_, h.byt.append hp, ?_⟩
 · rw [List.length_append, hX, bc_append]
   exact hv
 · rcases hb with e | ⟨g', e, e1, e2⟩
   · rw [e] at hg
     have := h.own g hg
     omega
   · rw [e] at hg
     injection hg with hg
     omega
 · rw [List.length_append]
   have := h.len
   omega

def RdPost (w : World) (B : List Int) (e : Ending) (w' : World) : Prop := ∃ v, e = .returned (.tuple #[v, .int .i64 0]) ∧ Vec w' 1 v B.length (bc B) ∧ Still w w' ∧ (∀ g, v.ownBlock = some g → w.heap.size ≤ g ∧ g < w'.heap.size) ∧ Byt B

set_option maxHeartbeats 2000000 in
set_option maxRecDepth 100000 in
theorem readT_any (w : World) (t d at_ n : Nat) (S : List Int) (sv : Value) (c st : Nat) (T : List (List Int)) (tv : Value) (mb : Nat) (vs : List Value) (h : TlAt w t d at_ n S sv c st) (hd : DkAt w d T tv mb vs) (hT : T.length ≤ 2000) (hn : at_ + n ≤ T.length) (hb : ∀ l ∈ T, Byt l) :
 Calls Tryz.prog 34 #[.pointer (some ⟨t, 0, none⟩)] w (RdPost w (readB (tls T at_ n))) := by
 have H := Lib.hid h
 have HDK := Lib.hid hd
 have HB := Lib.hid (And.intro hT (And.intro hn hb))
 have c0 : w.cell? ⟨t, 0, none⟩ = some (.pointer (some ⟨d, 0, none⟩)) := h.cells.cell 0
 have c1 : w.cell? ⟨t, 1, none⟩ = some (.int .i64 at_) := h.cells.cell 1
 have c2 : w.cell? ⟨t, 2, none⟩ = some (.int .i64 n) := h.cells.cell 2
 have SS := Lib.hid (fun w' (hs : Still w w') => show w'.cell? ⟨t, 0, none⟩ = some (.pointer (some ⟨d, 0, none⟩)) ∧ w'.cell? ⟨t, 1, none⟩ = some (.int .i64 at_) from ⟨Still.cell hs c0, Still.cell hs c1⟩)
 obtain ⟨i0, hi0, hz0, hz1, hz2⟩ := info_parts info_b
 have HI := Lib.hid (And.intro hi0 (And.intro hz0 (And.intro hz1 hz2)))
 clear h hd hT hn hb hi0 hz0 hz1 hz2 c0 c1
 go_enter Tryz.func34, Tryz.ntmps34
 go_wp2_with fail
 go_loopw [2, 12] (fun s2 s12 wr => ∃ (i : Nat) (acc : List Int), s12 = .int .i64 i ∧ i ≤ n ∧ RdRel w i s2 acc wr ∧ acc ++ readB ((tls T at_ n).drop i) = readB (tls T at_ n)) (fun _ s12 _ => n - (intOf s12).toNat)
 case atStart => exact ⟨0, [], rfl, Nat.zero_le _, ⟨Vec.nil _ _, Still.refl _, (fun g e => by cases e), (fun z hz => by cases hz), Nat.le_refl _⟩, by simp⟩
 case round =>
  obtain ⟨i, acc, rfl, hin, hr, hre⟩ := hrel
  have HE := Lib.hid hre
  clear hre
  have HR := Lib.hid hr
  have hvf := hr.v.form'
  have hst := hr.still
  obtain ⟨c0, c1⟩ := SS.out _ hst
  clear hr
  by_cases hi : i < n
  · obtain ⟨l, hl⟩ : ∃ l, T[at_ + i]? = some l := ⟨_, List.getElem?_eq_getElem (by have := HB.out.2.1; omega)⟩
    have HRD := Lib.hid (fun w' (hs : Still wr w') => show Calls Tryz.prog 31 #[.pointer (some ⟨d, 0, none⟩), .int .i64 ((at_ : Int) + (i : Int))] w' (fun e w'' => ∃ v, e = .returned (.tuple #[v, .int .i64 0]) ∧ Vec w'' 1 v 64 (bc l) ∧ Still w' w'' ∧ ∀ g, v.ownBlock = some g → w'.heap.size ≤ g ∧ g < w''.heap.size) from by
     have := read_any w' d T tv mb vs (at_ + i) l (HDK.out.still (hst.trans hs)) hl
     rwa [Int.natCast_add] at this)
    have hl64 := HDK.out.lens hl
    have hlb := HB.out.2.2 l (List.mem_of_getElem? hl)
    have htl := tls_get (n := n) hl hi
    have HT := Lib.hid (And.intro htl (And.intro hl64 hlb))
    have b1 : decide ((i : Int) < (n : Int)) = true := by simp; omega
    have b2 : decide (i < n) = true := by simp; omega
    have u9 : IntKind.i64.wrap ((i : Int) + 1) = (i : Int) + 1 := IntWalk.i64_in _ (by have := HB.out; omega)
    have u8 : IntKind.i64.wrap ((at_ : Int) + (i : Int)) = (at_ : Int) + (i : Int) := IntWalk.i64_in _ (by have := HB.out; omega)
    have HS := Lib.hid (Still.refl wr)
    obtain ⟨ua, uc, rfl⟩ := hvf
    clear hl hl64 hlb htl hst c2
    go_wp2_with fail
    go_region_held3 (fun w' => w'.cell? ⟨t, 0, none⟩ = some (.pointer (some ⟨d, 0, none⟩)) ∧ w'.cell? ⟨t, 1, none⟩ = some (.int .i64 at_)) (first | exact ⟨c0, c1⟩ | exact SS.out _ (HR.out.still.trans (by assumption)))
     (first | (go_at_call 31; (with_reducible refine (HRD.out _ HS.out.drew).mono ?_); rintro e w3 ⟨v3, rfl, hv3, hs3, hg3⟩; have hs3' : Still wr w3 := HS.out.drew.trans hs3))
    obtain ⟨z, l', rfl⟩ : ∃ z l', l = z :: l' := by
     cases l with
     | nil => have := HT.out.2.1; cases this
     | cons z l' => exact ⟨z, l', rfl⟩
    obtain ⟨g3, o3, k3, rfl, hva⟩ := hv3.form (by omega)
    have hzb := HT.out.2.2 z (by simp)
    have cz : w3.cell? ⟨g3, o3, none⟩ = some (.int .u8 z) := hva.cell 0 (by omega)
    obtain ⟨zn, hzn⟩ : ∃ zn : Nat, z = (zn : Int) := ⟨z.toNat, by omega⟩
    subst hzn
    have hw3 := HR.out.still.trans hs3'
    have HV3 := Lib.hid (And.intro hv3 (And.intro hs3' hg3))
    have hrd : readB ((tls T at_ n).drop i) = if 63 < (zn : Int) then [] else l'.take zn ++ (if (zn : Int) < 63 then [] else readB ((tls T at_ n).drop (i + 1))) := by
     rw [HT.out.1, readB_cons]
     simp
    have HRB := Lib.hid hrd
    clear hva hs3 hg3 hv3 hs3' hrd
    by_cases h63 : (zn : Int) ≤ 63
    rotate_left
    · have q1 : decide (63 < (zn : Int)) = true := decide_eq_true (by omega)
      have q1' : decide (63 < zn) = true := decide_eq_true (by omega)
      have F := Lib.hid (show RdPost w (readB (tls T at_ n)) (.returned (.tuple #[.slice ua acc.length uc, .int .i64 0])) w3 from by
       have he := HE.out
       rw [HRB.out, if_pos (by omega), List.append_nil] at he
       rw [← he]
       exact ⟨_, rfl, HR.out.v.only HV3.out.2.1 fun _ _ e => e, hw3, fun g hg => by have := HR.out.own g hg; have := HV3.out.2.1.size; omega, HR.out.byt⟩)
      clear hw3
      go_wp2_with fail
      go_ret2
      exact F.out
    · have q1 : decide (63 < (zn : Int)) = false := decide_eq_false (by omega)
      have q1' : decide (63 < zn) = false := decide_eq_false (by omega)
      have hl'64 : l'.length = 63 := by have := HT.out.2.1; simp at this; omega
      obtain ⟨pv, r1, -, -, hpv⟩ := Go.Wh.Vec.part (P := Tryz.prog) (size := 1) 22 Tryz.underlying22 (fun w => rfl) HV3.out.1 (show 1 ≤ 1 + zn by omega) (show 1 + zn ≤ 64 by omega)
      have hpc : ((bc ((zn : Int) :: l')).drop (1 * 1)).take ((1 + zn - 1) * 1) = bc (l'.take zn) := by
       rw [show (1 + zn - 1) * 1 = zn by omega, bc_drop, bc_take]
       rfl
      have hpl : (l'.take zn).length = zn := by rw [List.length_take]; omega
      rw [hpc, show 1 + zn - 1 = zn by omega] at hpv
      have HPV := Lib.hid (hpv w3 HV3.out.1).reads
      have r1' : ∀ w : World, (Instr.slice 22 (.slice (some ⟨g3, o3, none⟩) 64 k3) (some (.int .i64 1)) (some (.int .i64 (1 + (zn : Int)))) none).run Tryz.prog w = .ok pv w := fun w => by
       have := r1 w
       rwa [Int.natCast_add] at this
      have u7 : IntKind.i64.wrap (1 + (zn : Int)) = 1 + (zn : Int) := IntWalk.i64_in _ (by omega)
      have HUV := Lib.hid (HR.out.v.only HV3.out.2.1 fun _ _ e => e)
      obtain ⟨pa, pk, rfl⟩ := (hpv w3 HV3.out.1).form'
      have HPB := Lib.hid (show Byt (l'.take zn) from Byt.take (fun y hy => HT.out.2.2 y (by simp [hy])) zn)
      have HPL := Lib.hid hpl
      clear hpc hpl hl'64 r1 hpv hw3
      by_cases hlt : (zn : Int) < 63
      · have q2 : decide ((zn : Int) < 63) = true := decide_eq_true hlt
        have q2' : decide (zn < 63) = true := decide_eq_true (by omega)
        have heq : (acc ++ l'.take zn) = readB (tls T at_ n) := by
         have he := HE.out
         rw [HRB.out, if_neg (by omega), if_pos hlt, List.append_nil] at he
         exact he
        have HEQ := Lib.hid heq
        clear heq hlt
        go_upto_region 9 with fail
        go_wp2_with (at_builtin; refine wpList_append_vec rfl _ _ 22 rfl 5 i0 _ 1 1 Tryz.underlying22 HI.out.1 HI.out.2.1 HI.out.2.2.1 HI.out.2.2.2 rfl (by decide) _ acc.length _ rfl HUV.out _ zn (bc (l'.take zn)) rfl HPV.out (bc_one _) (by have := HR.out.len; have := HB.out; simp only [maxLen]; omega) (by have := HR.out.len; have := HB.out; omega) ?_; intro v' w' hv' ho' hb'; have HNX := Lib.hid (HR.out.next (j := i + 1) HV3.out.2.1 hv' HPL.out ho' hb' HPB.out (by have := HPL.out; omega) rfl); have HB2 := Lib.hid (show RdPost w (readB (tls T at_ n)) (.returned (.tuple #[v', .int .i64 0])) w' from by
         rw [← HEQ.out]
         exact ⟨_, rfl, HNX.out.v, HNX.out.still, HNX.out.own, HNX.out.byt⟩); clear hv' ho' hb')
        go_wp2_with fail
        go_ret2
        exact HB2.out
      · have q2 : decide ((zn : Int) < 63) = false := decide_eq_false hlt
        have q2' : decide (zn < 63) = false := decide_eq_false (by omega)
        have heq : (acc ++ l'.take zn) ++ readB ((tls T at_ n).drop (i + 1)) = readB (tls T at_ n) := by
         have he := HE.out
         rw [HRB.out, if_neg (by omega), if_neg hlt, ← List.append_assoc] at he
         exact he
        have HEQ := Lib.hid heq
        clear heq hlt
        go_upto_region 9 with fail
        go_wp2_with (at_builtin; refine wpList_append_vec rfl _ _ 22 rfl 5 i0 _ 1 1 Tryz.underlying22 HI.out.1 HI.out.2.1 HI.out.2.2.1 HI.out.2.2.2 rfl (by decide) _ acc.length _ rfl HUV.out _ zn (bc (l'.take zn)) rfl HPV.out (bc_one _) (by have := HR.out.len; have := HB.out; simp only [maxLen]; omega) (by have := HR.out.len; have := HB.out; omega) ?_; intro v' w' hv' ho' hb'; have HNX := Lib.hid (HR.out.next (j := i + 1) HV3.out.2.1 hv' HPL.out ho' hb' HPB.out (by have := HPL.out; omega) rfl); clear hv' ho' hb')
        go_roundw
        case rel => exact ⟨i + 1, _, by go_num, by omega, HNX.out, HEQ.out⟩
        case measure => simp [intOf]; omega
  · have hge : i = n := by omega
    subst hge
    have b1 : decide ((i : Int) < (i : Int)) = false := by simp
    obtain ⟨ua, uc, rfl⟩ := hvf
    have F := Lib.hid (show RdPost w (readB (tls T at_ i)) (.returned (.tuple #[.slice ua acc.length uc, .int .i64 0])) wr from by
     have he := HE.out
     rw [List.drop_eq_nil_of_le (by unfold tls; rw [List.length_take]; omega)] at he
     rw [show readB ([] : List (List Int)) = [] from rfl, List.append_nil] at he
     rw [← he]
     exact ⟨_, rfl, HR.out.v, HR.out.still, HR.out.own, HR.out.byt⟩)
    go_wp2_with fail
    go_ret2
    exact F.out
end Go.Proofs.YtlcfoeikamkpmaaGreat

namespace Go.Proofs.YtlcfoeikamkpmaaGreat
open Go.RowKit Go.Wh Go.Maps

def layB (T : List (List Int)) (a : Nat) (S : List Int) : Nat → List (List Int)
 | 0 => T
 | i + 1 => (layB T a S i).set (a + i) (tileB S i)
section
variable {T : List (List Int)} {a i j : Nat} {S : List Int}
theorem layB_length : (layB T a S i).length = T.length := by
 induction i with
 | zero => rfl
 | succ i ih => simp [layB, ih]
theorem tileB_byt (h : Byt S) : Byt (tileB S i) := by
 have hp := partB_length S i
 intro z hz
 unfold tileB at hz
 rcases List.mem_cons.1 hz with rfl | hz
 · omega
 · exact ((h.drop _).take _).append (Byt.zeros _) z hz
theorem layB_byt (hb : ∀ l ∈ T, Byt l) (hS : Byt S) : ∀ l ∈ layB T a S i, Byt l := by
 induction i with
 | zero => exact hb
 | succ i ih =>
  intro l hl
  rcases List.mem_or_eq_of_mem_set hl with hl | rfl
  · exact ih l hl
  · exact tileB_byt hS
theorem layB_other (h : j < a ∨ a + i ≤ j) : (layB T a S i)[j]? = T[j]? := by
 induction i with
 | zero => rfl
 | succ i ih =>
  unfold layB
  rw [List.getElem?_set_ne (by omega)]
  exact ih (by omega)
theorem layB_get (hl : a + i ≤ T.length) (h : j < i) : (layB T a S i)[a + j]? = some (tileB S j) := by
 induction i with
 | zero => omega
 | succ i ih =>
  unfold layB
  by_cases e : j = i
  · subst e
    rw [List.getElem?_set_self (by rw [layB_length]; omega)]
  · rw [List.getElem?_set_ne (by omega)]
    exact ih (by omega) (by omega)
theorem layB_tls {n : Nat} (hl : a + n ≤ T.length) : tls (layB T a S n) a n = (List.range n).map fun j => tileB S (0 + j) := by
 unfold tls
 apply List.ext_getElem?
 intro k
 by_cases hk : k < n
 · rw [List.getElem?_take, if_pos hk, List.getElem?_drop, layB_get hl hk, List.getElem?_map, List.getElem?_range hk]
   simp
 · rw [List.getElem?_take, if_neg hk, List.getElem?_eq_none (by simp; omega)]
theorem layB_read {n : Nat} (hl : a + n ≤ T.length) (hS : S.length ≤ n * 63) : readB (tls (layB T a S n) a n) = S := by
 rw [layB_tls hl, readB_tiles S n 0 (by omega), Nat.zero_mul, List.drop_zero]
end

def SepT (t : Nat) (sv : Value) (mb : Nat) (tv : Value) : Prop := t ≠ mb ∧ tv.ownBlock ≠ some t ∧ ∀ g, sv.ownBlock = some g → g ≠ mb ∧ tv.ownBlock ≠ some g
theorem TlAt.turned {w w' : World} {t d at_ n c st mb : Nat} {S : List Int} {sv tv : Value} (h : TlAt w t d at_ n S sv c st) (hs : SepT t sv mb tv) (ho : Only (fun b => b = mb ∨ tv.ownBlock = some b) w w') : TlAt w' t d at_ n S sv c st :=
 h.only ho (fun e => e.elim hs.1 hs.2.1) fun g hg e => e.elim (hs.2.2 g hg).1 (hs.2.2 g hg).2

def ClRel (w : World) (d : Nat) (T : List (List Int)) (tv : Value) (mb : Nat) (vs : List Value) (w' : World) : Prop := ∃ vs', DkAt w' d T tv mb vs' ∧ Only (fun b => b = mb ∨ tv.ownBlock = some b) w w' ∧ ∀ u ∈ vs', u ∈ vs ∨ ∀ g, u.ownBlock = some g → w.heap.size ≤ g
theorem ClRel.post {w w' : World} {d mb : Nat} {T : List (List Int)} {tv : Value} {vs : List Value} (h : ClRel w d T tv mb vs w') : WrPost w d T tv mb vs (.returned (.int .i64 0)) w' := ⟨rfl, h⟩
theorem ClRel.still {w w' w'' : World} {d mb : Nat} {T : List (List Int)} {tv : Value} {vs : List Value} (h : ClRel w d T tv mb vs w') (hs : Still w' w'') : ClRel w d T tv mb vs w'' := by
 obtain ⟨vs', h1, h2, h3⟩ := h
 exact ⟨vs', h1.still hs, h2.trans (hs.mono fun _ e => e.elim), h3⟩
theorem ClRel.write {w w1 w2 : World} {d mb : Nat} {T' : List (List Int)} {tv : Value} {vs vs1 : List Value} {e : Ending} (ho : Only (fun b => b = mb ∨ tv.ownBlock = some b) w w1) (hv : ∀ u ∈ vs1, u ∈ vs ∨ ∀ g, u.ownBlock = some g → w.heap.size ≤ g) (h : WrPost w1 d T' tv mb vs1 e w2) : ClRel w d T' tv mb vs w2 := by
 obtain ⟨-, vs', h1, h2, h3⟩ := h
 refine ⟨vs', h1, ho.trans h2, fun u hu => ?_⟩
 rcases h3 u hu with h | h
 · exact hv u h
 · exact .inr fun g hg => Nat.le_trans ho.size (h g hg)
theorem ClRel.sync {w w1 w2 : World} {d mb : Nat} {T : List (List Int)} {tv : Value} {vs vs1 : List Value} {e : Ending} (ho : Only (fun b => b = mb ∨ tv.ownBlock = some b) w w1) (hv : ∀ u ∈ vs1, u ∈ vs ∨ ∀ g, u.ownBlock = some g → w.heap.size ≤ g) (h : SyPost w1 d T tv mb vs1 e w2) : ClRel w d T tv mb vs w2 := by
 obtain ⟨-, h1, h2⟩ := h
 exact ⟨vs1, h1, ho.trans (h2.mono fun _ e => .inl e), hv⟩

set_option maxHeartbeats 2000000 in
set_option maxRecDepth 100000 in
theorem clean_any (w : World) (t d at_ n : Nat) (S : List Int) (sv : Value) (c st : Nat) (T : List (List Int)) (tv : Value) (mb : Nat) (vs : List Value) (h : TlAt w t d at_ n S sv c st) (hd : DkAt w d T tv mb vs) (hsep : SepT t sv mb tv) (hT : T.length ≤ 2000) (hn : at_ + n ≤ T.length) (hb : ∀ l ∈ T, Byt l) (hS : S.length ≤ 1000000) :
 Calls Tryz.prog 37 #[.pointer (some ⟨t, 0, none⟩)] w (WrPost w d (layB T at_ S n) tv mb vs) := by
 have H := Lib.hid h
 have HSEP := Lib.hid hsep
 have HB := Lib.hid (And.intro hT (And.intro hn (And.intro hb hS)))
 have c2 : w.cell? ⟨t, 2, none⟩ = some (.int .i64 n) := h.cells.cell 2
 have SS := Lib.hid (fun w' (ho : Only (fun b => b = mb ∨ tv.ownBlock = some b) w w') => show w'.cell? ⟨t, 0, none⟩ = some (.pointer (some ⟨d, 0, none⟩)) ∧ w'.cell? ⟨t, 1, none⟩ = some (.int .i64 at_) from ⟨(h.turned hsep ho).cells.cell 0, (h.turned hsep ho).cells.cell 1⟩)
 have H0 := Lib.hid (show ClRel w d (layB T at_ S 0) tv mb vs w from ⟨vs, hd, Only.refl _ _, fun u hu => .inl hu⟩)
 clear h hd hT hn hb hS hsep
 go_enter Tryz.func37, Tryz.ntmps37
 go_wp2_with fail
 go_loopw [3, 13] (fun s3 s13 wr => ∃ (i : Nat) (b : Bool), s13 = .int .i64 i ∧ s3 = .bool b ∧ i ≤ n ∧ ClRel w d (layB T at_ S i) tv mb vs wr) (fun _ s13 _ => n - (intOf s13).toNat)
 case atStart => exact ⟨0, false, rfl, rfl, Nat.zero_le _, H0.out⟩
 case round =>
  obtain ⟨i, b, rfl, rfl, hin, hr⟩ := hrel
  have HR := Lib.hid hr
  obtain ⟨vs1, hd1, ho1, hv1⟩ := hr
  obtain ⟨c0, c1⟩ := SS.out _ ho1
  have HO := Lib.hid (And.intro hd1 (And.intro ho1 hv1))
  clear hd1 ho1 hv1
  by_cases hi : i < n
  · obtain ⟨l, hl⟩ : ∃ l, (layB T at_ S i)[at_ + i]? = some l := ⟨_, List.getElem?_eq_getElem (by have := HB.out.2.1; rw [layB_length]; omega)⟩
    have HL := Lib.hid hl
    have HRD := Lib.hid (fun w' (hs : Still wr w') => show Calls Tryz.prog 31 #[.pointer (some ⟨d, 0, none⟩), .int .i64 ((at_ : Int) + (i : Int))] w' (fun e w'' => ∃ v, e = .returned (.tuple #[v, .int .i64 0]) ∧ Vec w'' 1 v 64 (bc l) ∧ Still w' w'' ∧ ∀ g, v.ownBlock = some g → w'.heap.size ≤ g ∧ g < w''.heap.size) from by
     have := read_any w' d _ tv mb vs1 (at_ + i) l (HO.out.1.still hs) hl
     rwa [Int.natCast_add] at this)
    have HLB := Lib.hid (show Byt l from layB_byt HB.out.2.2.1 H.out.byt l (List.mem_of_getElem? hl))
    have b1 : decide ((i : Int) < (n : Int)) = true := by simp; omega
    have b2 : decide (i < n) = true := by simp; omega
    have u9 : IntKind.i64.wrap ((i : Int) + 1) = (i : Int) + 1 := IntWalk.i64_in _ (by have := HB.out; omega)
    have u8 : IntKind.i64.wrap ((at_ : Int) + (i : Int)) = (at_ : Int) + (i : Int) := IntWalk.i64_in _ (by have := HB.out; omega)
    have HS := Lib.hid (Still.refl wr)
    have SSR := Lib.hid (fun w' (hs : Still wr w') => SS.out w' (HO.out.2.1.trans (hs.mono fun _ e => e.elim)))
    clear hl c2
    go_wp2_with fail
    go_region_held3 (fun w' => w'.cell? ⟨t, 0, none⟩ = some (.pointer (some ⟨d, 0, none⟩)) ∧ w'.cell? ⟨t, 1, none⟩ = some (.int .i64 at_)) (first | exact ⟨c0, c1⟩ | exact SSR.out _ (by assumption))
     (first | (go_at_call 31; (with_reducible refine (HRD.out _ HS.out.drew).mono ?_); rintro e w3 ⟨v3, rfl, hv3, hs3, hg3⟩; have hs3' : Still wr w3 := HS.out.drew.trans hs3))
    have HT3 := Lib.hid (show TlAt w3 t d at_ n S sv c st from (H.out.turned HSEP.out HO.out.2.1).still hs3')
    have hTI := tile_any w3 t d at_ n S sv c st i HT3.out (by have := HB.out; omega) HB.out.2.2.2
    have HV3 := Lib.hid (And.intro hv3 (And.intro hs3' hg3))
    obtain ⟨va, vc, rfl⟩ := hv3.form'
    clear hv3 hs3 hg3 hs3'
    go_wp2_with fail
    refine hTI.mono ?_
    rintro e w4 ⟨v4, rfl, hv4, hb4, hg4⟩
    have hs4 : Still w3 w4 := Only.ofBelow hb4
    have HV4 := Lib.hid (And.intro hv4 (And.intro hs4 hg4))
    have hEQ := equal_any w4 _ v4 64 64 l (tileB S i) (Vec.sl0 (HV3.out.1.only hs4 fun _ _ e => e) (by omega)) (Vec.sl0 hv4 (by omega)) HLB.out (tileB_byt H.out.byt)
    have HOO := Lib.hid (show Still wr w4 from HV3.out.2.1.trans hs4)
    obtain ⟨wa, wc, rfl⟩ := hv4.form'
    clear hv4 hb4 hg4 hs4 hTI
    go_wp2_with fail
    refine hEQ.mono ?_
    rintro e w5 ⟨rfl, rfl⟩
    clear hEQ
    by_cases hlt : l = tileB S i
    · have q : decide (l = tileB S i) = true := decide_eq_true hlt
      rw [q]
      have HN := Lib.hid (show ClRel w d (layB T at_ S (i + 1)) tv mb vs w5 from by
       have h := HR.out.still HOO.out
       have e : layB T at_ S (i + 1) = layB T at_ S i := by
        show (layB T at_ S i).set (at_ + i) (tileB S i) = _
        obtain ⟨hx, hy⟩ := List.getElem?_eq_some_iff.1 HL.out
        rw [← hlt, ← hy, List.set_getElem_self]
       rw [e]
       exact h)
      clear hlt q
      go_wp2_with fail
      go_roundw
      case rel => exact ⟨i + 1, b, by go_num, rfl, by omega, HN.out⟩
      case measure => simp [intOf]; omega
    · have q : decide (l = tileB S i) = false := decide_eq_false hlt
      rw [q]
      have HWR := Lib.hid (fun w' (hs : Still wr w') (hs4 : Still w5 w') => show Calls Tryz.prog 14 #[.pointer (some ⟨d, 0, none⟩), .int .i64 ((at_ : Int) + (i : Int)), .slice wa 64 wc] w' (WrPost w' d ((layB T at_ S i).set (at_ + i) (tileB S i)) tv mb vs1) from by
       have hdk := HO.out.1.still hs
       have := write_any w' d _ tv mb vs1 (at_ + i) (tileB S i) (.slice wa 64 wc) hdk (by rw [layB_length]; have := HB.out.2.1; omega) (by rw [layB_length]; exact HB.out.1) (HV4.out.1.only hs4 fun _ _ e => e).reads (fun g hg => by
        have h1 := (HV4.out.2.2 g hg).1
        have h2 := (HO.out.1.still HV3.out.2.1).lt.2
        omega)
       rwa [Int.natCast_add] at this)
      have HFIN := Lib.hid (fun w' w'' e (hs : Still wr w') (hp : WrPost w' d ((layB T at_ S i).set (at_ + i) (tileB S i)) tv mb vs1 e w'') => show ClRel w d (layB T at_ S (i + 1)) tv mb vs w'' from ClRel.write (HO.out.2.1.trans (hs.mono fun _ e => e.elim)) HO.out.2.2 hp)
      obtain ⟨k0, k1⟩ := SS.out _ (HO.out.2.1.trans (HOO.out.mono fun _ e => e.elim))
      clear hlt q c0 c1
      go_wp2_with fail
      go_region_held3 (fun w' => w'.cell? ⟨t, 0, none⟩ = some (.pointer (some ⟨d, 0, none⟩)) ∧ w'.cell? ⟨t, 1, none⟩ = some (.int .i64 at_)) (first | exact ⟨k0, k1⟩ | exact SS.out _ (by assumption))
       (first | (go_at_call 14; (with_reducible refine (HWR.out _ (HOO.out.trans (still_drew _)) (still_drew _)).mono ?_); rintro e w6 hp6; have hcl := HFIN.out _ _ _ (HOO.out.trans (still_drew _)) hp6; have hO6 : Only (fun b => b = mb ∨ tv.ownBlock = some b) w w6 := (by obtain ⟨_, _, h, _⟩ := hcl; exact h); obtain ⟨rfl, -⟩ := hp6))
      have HN := Lib.hid hcl
      clear hcl hO6
      go_wp2_with fail
      go_roundw
      case rel => exact ⟨i + 1, true, by go_num, rfl, by omega, HN.out⟩
      case measure => simp [intOf]; omega
  · have hge : i = n := by omega
    subst hge
    have b1 : decide ((i : Int) < (i : Int)) = false := by simp
    cases b with
    | false =>
     have F := Lib.hid HR.out.post
     go_wp2_with fail
     go_ret
     exact F.out
    | true =>
     have hSY := sync_any wr d _ tv mb vs1 HO.out.1
     have HF := Lib.hid (fun e w'' (hp : SyPost wr d (layB T at_ S i) tv mb vs1 e w'') => show WrPost w d (layB T at_ S i) tv mb vs e w'' from by
      have h := ClRel.sync HO.out.2.1 HO.out.2.2 hp
      obtain ⟨rfl, -⟩ := hp
      exact h.post)
     go_wp2_with fail
     refine hSY.mono ?_
     intro e w6 hp
     have F := Lib.hid (HF.out _ _ hp)
     obtain ⟨rfl, -⟩ := hp
     clear hSY
     go_wp2_with fail
     go_ret
     exact F.out
end Go.Proofs.YtlcfoeikamkpmaaGreat

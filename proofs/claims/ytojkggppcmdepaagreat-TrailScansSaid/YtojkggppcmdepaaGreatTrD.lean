/- Bytes: whether they are equal; their two sums. Conditions: they lie in memory. -/
import Derived.Test.YtojkggppcmdepaaGreatTrC
import Derived.Test.YtojkggppcmdepaaGreatSl
import Derived.Laws.BytesArg
import Derived.LoopTactic
namespace Go.Proofs.YtojkggppcmdepaaGreat
open Go.RowKit Go.Wh Go.Maps

/-- No bytes, wherever they would lie, as a text. -/
theorem convB0 {w : World} (a : Addr) (c : Nat) : (convert 23 9 (.slice (some a) 0 c)).run Tryz.prog w = .ok (.string (strOfNums [])) w := by
  have hl : (loadCells a 0).run Tryz.prog w = .ok (([] : List Int).map (Value.int .u8)).toArray w := by
    have := run_loadCells_list (P := Tryz.prog) w a (([] : List Int).map (Value.int .u8)) (fun j v hj => by simp at hj)
    simpa using this
  rw [run_convert_bytes_string w 23 9 5 _ 0 c Tryz.underlying23 Tryz.underlying5 Tryz.underlying9, run_bytesToString w a 0 c [] hl, foldl_push_bytes]
  simp [strOfNums, ByteArray.empty, ByteArray.emptyWithCapacity]
  rfl
/-- Bytes as a text. -/
theorem convB {w : World} {Q : Nat → Prop} {v : Value} {n : Nat} {l : List Int} (h : Sl w Q 1 v n (bc l)) : (convert 23 9 v).run Tryz.prog w = .ok (.string (strOfNums l)) w := by
  have hlen : l.length = n := by have := h.1; rw [bc_length] at this; omega
  rcases h.2 with ⟨rfl | ⟨a, c, rfl⟩, rfl⟩ | ⟨g, o, c, rfl, -, hv⟩
  rotate_left
  · have : l = [] := by cases l with | nil => rfl | cons a l => cases hlen
    subst this
    exact convB0 a c
  rotate_left
  · have : l = [] := by cases l with | nil => rfl | cons a l => cases hlen
    subst this
    exact run_convert_bytes_nil w 23 5 Tryz.underlying23 Tryz.underlying5 0 0 9 Tryz.underlying9
  · refine run_convert_bytes_arg w 23 5 Tryz.underlying23 Tryz.underlying5 g o n c l hlen (fun i hi => ?_) 9 Tryz.underlying9
    refine hv i _ (bc_get ?_)
    rw [List.getD_eq_getElem?_getD, List.getElem?_eq_getElem (by omega)]
    rfl
theorem str_inj {a b : List Int} (ha : Byt a) (hb : Byt b) (h : (strOfNums a).toList = (strOfNums b).toList) : a = b := by
  rw [ByteArray.toList_eq, ByteArray.toList_eq, strOfNums_data, strOfNums_data] at h
  induction a generalizing b with
  | nil => cases b with | nil => rfl | cons y b => cases h
  | cons x a ih =>
    cases b with
    | nil => cases h
    | cons y b =>
      simp only [List.map_cons, List.cons.injEq] at h
      have h1 := congrArg UInt8.toNat h.1
      rw [UInt8.toNat_ofNat', UInt8.toNat_ofNat'] at h1
      have hx := ha x (by simp)
      have hy := hb y (by simp)
      have e : x = y := by omega
      rw [e, ih (fun z hz => ha z (by simp [hz])) (fun z hz => hb z (by simp [hz])) h.2]
theorem str_eq {a b : List Int} (ha : Byt a) (hb : Byt b) : ((strOfNums a).toList == (strOfNums b).toList) = decide (a = b) := by
  by_cases h : a = b
  · subst h
    simp
  · rw [decide_eq_false h, beq_eq_false_iff_ne]
    exact fun e => h (str_inj ha hb e)

theorem equal_any {Q1 Q2 : Nat → Prop} (w : World) (v1 v2 : Value) (n1 n2 : Nat) (l1 l2 : List Int) (h1 : Sl w Q1 1 v1 n1 (bc l1)) (h2 : Sl w Q2 1 v2 n2 (bc l2)) (b1 : Byt l1) (b2 : Byt l2) :
    Calls Tryz.prog 72 #[v1, v2] w (SamePost w (.bool (decide (l1 = l2)))) := by
  have q1 := convB h1
  have q2 := convB h2
  have HE := Lib.hid (str_eq b1 b2)
  have F := Lib.hid (show SamePost w (.bool (decide (l1 = l2))) (.returned (.bool (decide (l1 = l2)))) w from ⟨rfl, rfl⟩)
  obtain ⟨a1, c1, rfl⟩ := h1.form
  obtain ⟨a2, c2, rfl⟩ := h2.form
  clear h1 h2 b1 b2
  rw [← HE.out] at F ⊢
  generalize strOfNums l1 = s1 at *
  generalize strOfNums l2 = s2 at *
  go_enter Tryz.func72, Tryz.ntmps72
  go_wp2_with fail
  go_ret
  exact F.out

theorem sumB_append (a : List Int) (c : Int) : ∀ s : Int × Int, sumB (a ++ [c]) s = (((sumB a s).1 + c) % 255, ((sumB a s).2 + ((sumB a s).1 + c) % 255) % 255) := by
  induction a with
  | nil => intro s; obtain ⟨x, y⟩ := s; rfl
  | cons b a ih =>
    intro s
    obtain ⟨x, y⟩ := s
    show sumB (a ++ [c]) _ = _
    rw [ih]
    rfl

set_option maxHeartbeats 1000000 in
theorem check_any {Q : Nat → Prop} (w : World) (v : Value) (n : Nat) (l : List Int) (h : Sl w Q 1 v n (bc l)) (hb : Byt l) (hn : n ≤ 100000) :
    Calls Tryz.prog 37 #[v] w (FreshPost w 1 2 (bc (chkB l))) := by
  have hlen : l.length = n := by have := h.1; rw [bc_length] at this; omega
  have H := Lib.hid (And.intro h (And.intro hb (And.intro hlen hn)))
  obtain ⟨a, c, rfl⟩ := h.form
  clear h hb hlen hn
  go_enter Tryz.func37, Tryz.ntmps37
  go_wp2_with fail
  go_loopw [3, 4, 9] (fun s3 s4 s9 wr => ∃ i : Nat, s9 = .int .i64 i ∧ i ≤ n ∧ wr = w ∧ s3 = .int .i64 (sumB (l.take i) (0, 0)).1 ∧ s4 = .int .i64 (sumB (l.take i) (0, 0)).2) (fun _ _ s9 _ => n - (intOf s9).toNat)
  case atStart => exact ⟨0, rfl, Nat.zero_le _, rfl, rfl, rfl⟩
  case round =>
    obtain ⟨i, rfl, hi, rfl, rfl, rfl⟩ := hrel
    by_cases hin : i < n
    · obtain ⟨g, o, c', he, -, -, hv⟩ := H.out.1.pos (by omega)
      injection he with he _ hec
      subst he hec
      obtain ⟨z, hz⟩ : ∃ z, l[i]? = some z := ⟨_, List.getElem?_eq_getElem (by have := H.out.2.2.1; omega)⟩
      have c1 : wr.cell? ⟨g, o + i, none⟩ = some (.int .u8 z) := hv i _ (bc_get hz)
      have hzb := H.out.2.1 z (List.mem_of_getElem? hz)
      have hsr := sumB_range (l.take i) (0, 0) (by decide) (by decide)
      have hap : sumB (l.take (i + 1)) (0, 0) = (((sumB (l.take i) (0, 0)).1 + z) % 255, ((sumB (l.take i) (0, 0)).2 + ((sumB (l.take i) (0, 0)).1 + z) % 255) % 255) := by
        rw [List.take_add_one, hz]
        exact sumB_append _ _ _
      have HAP := Lib.hid hap
      generalize (sumB (l.take i) (0, 0)).1 = x at *
      generalize (sumB (l.take i) (0, 0)).2 = y at *
      have d1 : decide ((i : Int) < (n : Int)) = true := by simp; omega
      have d2 : decide (i < n) = true := by simp; omega
      have d3 : (0 : Int) ≤ (i : Int) := by omega
      have d4 : (i : Int) < (n : Int) := by omega
      have u9 : IntKind.i64.wrap ((i : Int) + 1) = (i : Int) + 1 := IntWalk.i64_in _ (by have := H.out.2.2.2; omega)
      obtain ⟨⟨x0, x1⟩, y0, y1⟩ := hsr
      obtain ⟨z0, z1⟩ := hzb
      clear hap hz hv
      go_wp2_with fail
      go_roundw
      case rel => exact ⟨i + 1, by go_num, by omega, trivial, by rw [HAP.out], by rw [HAP.out]⟩
      case measure => simp [intOf]; omega
    · have hie : i = n := by omega
      have hta : l.take i = l := List.take_of_length_le (by have := H.out.2.2.1; omega)
      have hsr := sumB_range l (0, 0) (by decide) (by decide)
      rw [hta]
      have F := Lib.hid (fun t => show FreshPost wr 1 2 (bc (chkB l)) (.returned (.slice (some ⟨wr.heap.size, 0, none⟩) 2 2)) (wr.alloc (.cells #[.int .u8 (sumB l (0, 0)).1, .int .u8 (sumB l (0, 0)).2] t)) from by
        have hc := cellsAt_new wr [.int .u8 (sumB l (0, 0)).1, .int .u8 (sumB l (0, 0)).2] t
        exact ⟨_, rfl, vec_block (n := 2) (heap_alloc_new _ _) rfl (by simp only [maxLen]; omega), (Below.refl _ _).alloc (Nat.le_refl _) _, fun g hg => by cases hg; exact ⟨Nat.le_refl _, by simp⟩⟩)
      generalize (sumB l (0, 0)).1 = x at *
      generalize (sumB l (0, 0)).2 = y at *
      have d1 : decide ((i : Int) < (n : Int)) = false := by simp; omega
      have d2 : decide (i < n) = false := by simp; omega
      obtain ⟨⟨x0, x1⟩, y0, y1⟩ := hsr
      have f1 : IntKind.u8.wrap x = x := IntWalk.u8_in _ (by omega)
      have f2 : IntKind.u8.wrap y = y := IntWalk.u8_in _ (by omega)
      clear hta
      go_wp2_with fail
      go_ret
      exact F.out _
end Go.Proofs.YtojkggppcmdepaaGreat

/- A hand in memory: a value put in the place of a key's; the keys; is a number among them. Conditions: it lies in memory. A trail whose entries are all stable: a Force does nothing. Conditions: it lies in memory. From a law's walk to its row: the call returns true and below nothing has turned, so the row holds. Conditions: none but those of the row. The library's contracts at this program, as the kit's tools have laid them: maps.Keys, slices.Sorted, slices.Sort of numbers. No conditions. The keys of a map with numbers, sorted: plain. No program's function. Conditions: the numbers are below a bound. The loose tiles of a disk: the keys of its map, sorted. Conditions: the map lies in memory, its keys are below a bound. A disk that may be dead, or armed: a mask's bits; what a crash leaves: plain; its small calls. Conditions: they lie in memory. A disk that may be dead, or armed, in memory; what a crash leaves. Conditions: it lies in memory. -/
import Derived.Test.YtlcfoeikamkpmaaGreatPr14
import Derived.Lib.Hide
import Derived.WalkKit
import Derived.ProofKit
import Derived.OpenShut
import Derived.ShutString
import Derived.ChangeOld
import Derived.Below
import Derived.Shelf.SlIterI.Nil
import Derived.Shelf.SortM.Plain
import Derived.Shelf.SortM.SortNone
import Derived.Ground.GgzProg
import Derived.Ground.SlgmProg
import Derived.Test.YtlcfoeikamkpmaaGreatProg
import Derived.Lib.SlKeysI
namespace Go.Proofs.YtlcfoeikamkpmaaGreat
open Go.RowKit Go.Wh Go.Maps

section
variable {w w' : World} {hb g o n cap : Nat} {H : Hd (List Value)}
set_option maxHeartbeats 1000000 in
set_option maxRecDepth 100000 in
theorem hswap_any (h : HdAt w hb g o n cap H) (k : Int) (v0 v1 v2 v3 v4 v5 v6 : Value) (h1 : ∀ u ∈ [v0, v1, v2, v3, v4, v5, v6], u.oneCell' = true) (hin : fdI (isK k) H.l < n) :
 Calls Tryz.prog 57 #[.pointer (some ⟨hb, 0, none⟩), .int .i64 k, .agg #[v0, v1, v2, v3, v4, v5, v6]] w (fun e w' => e = .returned (.tuple #[]) ∧ HdAt w' hb g o n cap (H.swap k [v0, v1, v2, v3, v4, v5, v6]) ∧ Only (fun b => b = g) w w') := by
 obtain ⟨i, hi⟩ : ∃ i, fdI (isK k) H.l = i := ⟨_, rfl⟩
 rw [hi] at hin
 have HF := Lib.hid (fun w' (hs : Still w w') => show Calls Tryz.prog 75 #[.pointer (some ⟨hb, 0, none⟩), .int .i64 k] w' (SamePost w' (.pointer (some ⟨g, o + i * 11, none⟩))) from by
  have := hfind_any (h.still hs) k
  rw [hi] at this
  unfold plP at this
  rw [if_pos hin] at this
  exact this)
 obtain ⟨x, hx⟩ : ∃ x, H.l[i]? = some x := ⟨_, List.getElem?_eq_getElem (by rw [h.len]; exact hin)⟩
 have HC := Lib.hid (fun tt => cellsAt_new w [v0, v1, v2, v3, v4, v5, v6] tt)
 have HP := Lib.hid (fun w' (hs : Still w w') => show w'.there g (o + i * 11 + 1) 7 ∧ HdAt (w'.setCells g (o + i * 11 + 1) [v0, v1, v2, v3, v4, v5, v6]) hb g o n cap (H.swap k [v0, v1, v2, v3, v4, v5, v6]) from by
  have h' := h.still hs
  refine ⟨?_, ?_⟩
  · rw [Nat.add_assoc]
    exact h'.there hin (by omega)
  · unfold Hd.swap
    rw [hi, Nat.add_assoc]
    exact h'.valSet hx [v0, v1, v2, v3, v4, v5, v6] rfl h1)
 have HONE := Lib.hid (show (#[v0, v1, v2, v3, v4, v5, v6] : Array Value).all (·.oneCell') = true from all_oneCell_toArray h1)
 clear h hi hin hx h1
 go_enter Tryz.func57, Tryz.ntmps57
 go_upto_region 1 with fail
 have hc := HC.out 100
 have hs : Still w (w.alloc (.cells #[v0, v1, v2, v3, v4, v5, v6] 100)) := (Still.refl w).alloc _
 clear HC
 change cellsAt (w.alloc (.cells #[v0, v1, v2, v3, v4, v5, v6] 100)) w.heap.size _ at hc
 generalize (w.alloc (.cells #[v0, v1, v2, v3, v4, v5, v6] 100)) = w1 at *
 obtain ⟨b, hb'⟩ : ∃ b, w.heap.size = b := ⟨_, rfl⟩
 rw [hb'] at hc
 rw [hb']
 have HW := Lib.hid (And.intro hs hc)
 clear hs hc hb'
 go_wp2_with fail
 refine (HF.out w1 HW.out.1).mono ?_
 rintro e w2 ⟨rfl, rfl⟩
 have F := Lib.hid (show HdAt (w2.setCells g (o + i * 11 + 1) [v0, v1, v2, v3, v4, v5, v6]) hb g o n cap (H.swap k [v0, v1, v2, v3, v4, v5, v6]) ∧ Only (fun b => b = g) w (w2.setCells g (o + i * 11 + 1) [v0, v1, v2, v3, v4, v5, v6]) from
  ⟨(HP.out w2 HW.out.1).2, (HW.out.1.mono fun _ e => e.elim).trans (setCells_only w2 g _ _)⟩)
 go_wp2_with (first
  | ((with_reducible (show wpList _ _ _ ({ dst := some 13, op := _, type := _, pos := _, after := _, guard := _ } :: _) _ _)); (refine wpList_loadAgg rfl 100 _ rfl b #[v0, v1, v2, v3, v4, v5, v6] rfl HW.out.2 _ Tryz.underlying100 rfl size_fr ?_))
  | ((with_reducible (show wpList _ _ _ ({ dst := none, op := Op.store 100 _ _, type := _, pos := _, after := _, guard := _ } :: _) _ _)); (refine wpList_store_mid rfl 100 _ _ rfl g (o + i * 11 + 1) #[v0, v1, v2, v3, v4, v5, v6] rfl rfl (HP.out w2 HW.out.1).1 size_fr HONE.out ?_)))
 go_end0
 exact ⟨rfl, F.out⟩
def keysN (l : List (Pl (List Value))) (i : Nat) : List Int := ((l.take i).filter (·.has)).map (·.k)
theorem keysN_next {l : List (Pl (List Value))} {i : Nat} {x : Pl (List Value)} (hx : l[i]? = some x) : keysN l (i + 1) = keysN l i ++ (if x.has = true then [x.k] else []) := by
 unfold keysN
 rw [List.take_add_one, hx, List.filter_append, List.map_append]
 congr 1
 by_cases h : x.has = true
 · rw [if_pos h]
   simp [h]
 · rw [if_neg h]
   simp [h]
theorem keysN_len (l : List (Pl (List Value))) (i : Nat) : (keysN l i).length ≤ i := by
 unfold keysN
 rw [List.length_map]
 have h1 := List.length_filter_le (·.has) (l.take i)
 rw [List.length_take] at h1
 omega
def kiC (l : List Int) : List Value := l.map fun z => .int .i64 z
theorem info_i : (Tryz.prog.info? 3).map (fun i => (i.zero, i.size, i.bytes)) = some (some (.int .i64 0), 1, 8) := by kernel_rfl
set_option maxHeartbeats 2000000 in
set_option maxRecDepth 100000 in
theorem hkeys_any (h : HdAt w hb g o n cap H) : Calls Tryz.prog 51 #[.pointer (some ⟨hb, 0, none⟩)] w (FreshPost w 1 H.keys.length (kiC H.keys)) := by
 obtain ⟨ti, hi0, hi1, hi2, hi3⟩ := info_parts info_i
 have HI := Lib.hid (And.intro hi0 (And.intro hi1 (And.intro hi2 hi3)))
 have HH := Lib.hid h
 have c0 : w.cell? ⟨hb, 0, none⟩ = some (.slice (some ⟨g, o, none⟩) n cap) := h.cells.cell 0
 have hk : keysN H.l n = H.keys := by
  unfold keysN Hd.keys
  rw [List.take_of_length_le (by rw [h.len]; exact Nat.le_refl _)]
 have HK := Lib.hid hk
 clear h hi0 hi1 hi2 hi3 hk
 go_enter Tryz.func51, Tryz.ntmps51
 go_upto_region 3 with fail
 go_loopw [3, 11] (fun s3 s11 wr => ∃ i : Nat, s11 = .int .i64 i ∧ i ≤ n ∧ Still w wr ∧ Vec wr 1 s3 (keysN H.l i).length (kiC (keysN H.l i)) ∧ ∀ b, s3.ownBlock = some b → w.heap.size ≤ b ∧ b < wr.heap.size) (fun _ s11 _ => n - (intOf s11).toNat)
 case atStart => exact ⟨0, rfl, Nat.zero_le _, Still.refl w, Vec.nil _ _, fun b e => by cases e⟩
 clear c0
 obtain ⟨i, rfl, hin, hs, hv, hf⟩ := hrel
 obtain ⟨va, vc, rfl⟩ := hv.form'
 have HR := Lib.hid (And.intro hs (And.intro hv hf))
 have hkl := keysN_len H.l i
 have hn64 := HH.out.n64
 have HKL := Lib.hid (And.intro hkl hn64)
 by_cases hi : i < n
 rotate_left
 · have e : i = n := by omega
   have F := Lib.hid (show FreshPost w 1 H.keys.length (kiC H.keys) (.returned (.slice va (keysN H.l i).length vc)) wr from by
    rw [← HK.out, ← e]
    exact ⟨_, rfl, hv, Only.below hs (Nat.le_refl _) fun _ _ e => e, hf⟩)
   have d1 : decide ((i : Int) < (n : Int)) = false := decide_eq_false (by omega)
   have d2 : decide (i < n) = false := decide_eq_false hi
   clear hs hv hf e hkl hi hin hn64
   go_wp2_with fail
   go_ret
   exact F.out
 have d1 : decide ((i : Int) < (n : Int)) = true := decide_eq_true (by omega)
 have d2 : decide (i < n) = true := decide_eq_true hi
 have i0 : (0 : Int) ≤ (i : Int) := by omega
 have i1 : (i : Int) < (n : Int) := by omega
 have u9 : IntKind.i64.wrap ((i : Int) + 1) = (i : Int) + 1 := IntWalk.i64_in _ (by omega)
 obtain ⟨x, hx⟩ : ∃ x, H.l[i]? = some x := ⟨_, List.getElem?_eq_getElem (by rw [HH.out.len]; exact hi)⟩
 have hfx := HH.out.fits x (List.mem_of_getElem? hx)
 have HRG := Lib.hid ((HH.out.still hs).range hx)
 have HNX := Lib.hid (keysN_next hx)
 have HL := Lib.hid (show (Tryz.prog.info? 137).map (·.size) = some (plC x).length from by rw [plC_length hfx]; exact size_pl)
 have HIX := Lib.hid (And.intro hi hfx)
 obtain ⟨xk, xv, xh, xb⟩ := x
 obtain ⟨h7, hone⟩ := hfx
 obtain ⟨u0, u1, u2, u3, u4, u5, u6, rfl⟩ : ∃ u0 u1 u2 u3 u4 u5 u6, xv = [u0, u1, u2, u3, u4, u5, u6] := by
  match xv, h7 with
  | [u0, u1, u2, u3, u4, u5, u6], _ => exact ⟨u0, u1, u2, u3, u4, u5, u6, rfl⟩
 have HONE := Lib.hid (show (#[.int .i64 xk, u0, u1, u2, u3, u4, u5, u6, .bool xh, .bool xb, .int .i64 0] : Array Value).toList.all (·.oneCell') = true from by
  rw [List.all_eq_true]
  exact plC_one HIX.out.2)
 have HZ := Lib.hid (fun tt => cellsAt_new wr (plC plZero) tt)
 have hsz : wr.heap.size ≤ wr.heap.size := Nat.le_refl _
 clear hs hv hf hkl hi hin hn64 hx h7 hone hsz
 go_upto_region 5 with (first
  | ((with_reducible (show wpList _ _ _ ({ dst := some 14, op := _, type := _, pos := _, after := _, guard := _ } :: _) _ _)); (refine wpList_load_mid rfl 137 _ rfl g (o + i * 11) rfl [.int .i64 xk, u0, u1, u2, u3, u4, u5, u6, .bool xh, .bool xb, .int .i64 0] _ HRG.out Tryz.underlying137 rfl HL.out ?_))
  | ((with_reducible (show wpList _ _ _ ({ dst := none, op := Op.store 137 _ _, type := _, pos := _, after := _, guard := _ } :: _) _ _)); (refine wpList_storeAgg rfl 137 _ _ rfl wr.heap.size #[.int .i64 xk, u0, u1, u2, u3, u4, u5, u6, .bool xh, .bool xb, .int .i64 0] rfl rfl (HZ.out _) size_pl rfl HONE.out ?_; intro w2 hcf hof hzf; have H2 := Lib.hid (And.intro hcf (And.intro hof hzf)); clear hcf hof hzf)))
 obtain ⟨b5, hb5⟩ : ∃ b, wr.heap.size = b := ⟨_, rfl⟩
 rw [hb5] at H2
 rw [hb5]
 have z0 : w2.cell? ⟨b5, 0, none⟩ = some (.int .i64 xk) := H2.out.1.cell 0
 have z8 : w2.cell? ⟨b5, 8, none⟩ = some (.bool xh) := H2.out.1.cell 8
 have HS2 := Lib.hid (show Still wr w2 from ((Still.refl wr).alloc _).andThen H2.out.2.1 fun c hc e => by have e' : c = b5 := e; omega)
 clear hb5 HZ HONE HL HRG
 cases xh with
 | false =>
  have HN := Lib.hid (show Still w w2 ∧ Vec w2 1 (.slice va (keysN H.l i).length vc) (keysN H.l (i + 1)).length (kiC (keysN H.l (i + 1))) ∧ ∀ b, (Value.slice va (keysN H.l i).length vc).ownBlock = some b → w.heap.size ≤ b ∧ b < w2.heap.size from by
   rw [HNX.out, if_neg (fun e => by cases e), List.append_nil]
   exact ⟨HR.out.1.trans HS2.out, HR.out.2.1.belowAll (Only.below HS2.out (Nat.le_refl _) fun _ _ e => e), fun b hb => by have := HR.out.2.2 b hb; have := HS2.out.size; omega⟩)
  go_wp2_with fail
  go_roundw
  case rel => exact ⟨i + 1, by go_num, by have := HIX.out.1; omega, HN.out⟩
  case measure => first | (simp [intOf]; done) | (simp [intOf]; have := HIX.out.1; omega)
 | true =>
  have HB1 := Lib.hid (show (keysN H.l i).length + 1 ≤ maxLen from by have := HKL.out; simp only [maxLen]; have := HIX.out.1; omega)
  have HB2 := Lib.hid (show ((keysN H.l i).length + 1) * 8 ≤ 140737488355328 from by have := HKL.out; have := HIX.out.1; omega)
  have HV2 := Lib.hid (HR.out.2.1.belowAll (Only.below HS2.out (Nat.le_refl _) fun _ _ e => e))
  have HNN := Lib.hid (fun v3 w3 ob (hv3 : Vec w3 1 v3 ((keysN H.l i).length + 1) (kiC (keysN H.l i) ++ [.int .i64 xk])) (ho3 : Only (fun k => (Value.slice va (keysN H.l i).length vc).ownBlock = some k) (w2.alloc ob) w3) (hb3 : v3.ownBlock = (Value.slice va (keysN H.l i).length vc).ownBlock ∨ ∃ g, v3.ownBlock = some g ∧ (w2.alloc ob).heap.size ≤ g ∧ g < w3.heap.size) => show Still w w3 ∧ Vec w3 1 v3 (keysN H.l (i + 1)).length (kiC (keysN H.l (i + 1))) ∧ ∀ b, v3.ownBlock = some b → w.heap.size ≤ b ∧ b < w3.heap.size from by
   have s1 : Still w (w2.alloc ob) := (HR.out.1.trans HS2.out).alloc ob
   have hz : (w2.alloc ob).heap.size = w2.heap.size + 1 := by simp
   obtain ⟨s3, f3⟩ := append_fresh s1 (fun b hb => by have := HR.out.2.2 b hb; have := HS2.out.size; omega) ho3 hb3
   refine ⟨s3, ?_, f3⟩
   rw [HNX.out, if_pos rfl, List.length_append]
   unfold kiC
   rw [List.map_append]
   exact hv3)
  go_wp2_with (at_builtin; refine wpList_append_vec rfl _ _ 112 rfl 3 ti _ 1 8 Tryz.underlying112 HI.out.1 HI.out.2.1 HI.out.2.2.1 HI.out.2.2.2 rfl (by decide) (.slice va (keysN H.l i).length vc) (keysN H.l i).length (kiC (keysN H.l i)) (by simp [Act.eval]) (HV2.out.alloc _) (.slice (some ⟨w2.heap.size, 0, none⟩) 1 1) 1 [.int .i64 xk] (by simp [Act.eval]) ((cellsAt_new w2 [.int .i64 xk] _).reads rfl) (by intro u hu; simp at hu; rw [hu]; rfl) HB1.out HB2.out ?_; intro v3 w3 hv3 ho3 hb3; have HN := Lib.hid (HNN.out v3 w3 _ hv3 ho3 hb3); clear hv3 ho3 hb3)
  go_roundw
  case rel => exact ⟨i + 1, by go_num, by have := HIX.out.1; omega, HN.out⟩
  case measure => first | (simp [intOf]; done) | (simp [intOf]; have := HIX.out.1; omega)
end
def CoiPost (w : World) (l : List Int) (k : Int) (e : Ending) (w' : World) : Prop := ∃ r : Int, e = .returned (.int .i64 r) ∧ decide (0 ≤ r) = l.contains k ∧ w' = w
set_option maxHeartbeats 1000000 in
set_option maxRecDepth 100000 in
theorem iindex_any {Q : Nat → Prop} (w : World) (v : Value) (n : Nat) (l : List Int) (k : Int) (h : Sl w Q 1 v n (kiC l)) (hn : n ≤ 100000) :
 Calls Tryz.prog 101 #[v, .int .i64 k] w (CoiPost w l k) := by
 have hln : l.length = n := by have := h.1; unfold kiC at this; rw [List.length_map] at this; omega
 obtain ⟨a, c, rfl⟩ := h.form
 have HH := Lib.hid (And.intro h (And.intro hn hln))
 clear h hn hln
 go_enter Tryz.func101, Tryz.ntmps101
 go_wp2_with fail
 go_loopw [8] (fun s wr => ∃ i : Nat, s = .int .i64 i ∧ i ≤ n ∧ w = wr ∧ (l.take i).contains k = false) (fun s _ => n - (intOf s).toNat)
 case atStart => exact ⟨0, rfl, Nat.zero_le _, rfl, rfl⟩
 obtain ⟨i, rfl, hin, rfl, hno⟩ := hrel
 have HNO := Lib.hid hno
 clear hno
 by_cases hi : i < n
 rotate_left
 · have d1 : decide ((i : Int) < (n : Int)) = false := decide_eq_false (by omega)
   have d2 : decide (i < n) = false := decide_eq_false hi
   have F := Lib.hid (show CoiPost w l k (.returned (.int .i64 (-1))) w from by
    have := HNO.out
    rw [List.take_of_length_le (by have := HH.out.2.2; omega)] at this
    exact ⟨-1, rfl, by rw [this]; rfl, rfl⟩)
   clear hi hin
   go_wp2_with fail
   go_ret
   exact F.out
 have d1 : decide ((i : Int) < (n : Int)) = true := decide_eq_true (by omega)
 have d2 : decide (i < n) = true := decide_eq_true hi
 have i0 : (0 : Int) ≤ (i : Int) := by omega
 have i1 : (i : Int) < (n : Int) := by omega
 have u9 : IntKind.i64.wrap ((i : Int) + 1) = (i : Int) + 1 := IntWalk.i64_in _ (by have := HH.out; omega)
 obtain ⟨x, hx⟩ : ∃ x, l[i]? = some x := ⟨_, List.getElem?_eq_getElem (by have := HH.out; omega)⟩
 obtain ⟨g, o, c', e, -, -, hc⟩ := HH.out.1.pos (by omega)
 cases e
 have p0 : w.cell? ⟨g, o + i, none⟩ = some (.int .i64 x) := hc i _ (by unfold kiC; rw [List.getElem?_map, hx]; rfl)
 have HX := Lib.hid hx
 have HI := Lib.hid hi
 clear hx hi hin hc
 by_cases h0 : k = x
 · have F := Lib.hid (show CoiPost w l k (.returned (.int .i64 (i : Nat))) w from ⟨i, rfl, by
    rw [decide_eq_true (by omega), Eq.comm, List.contains_iff_mem, h0]
    exact List.mem_of_getElem? HX.out, rfl⟩)
   have d3 : (k == x) = true := beq_iff_eq.2 h0
   clear h0
   go_wp2_with fail
   go_ret
   exact F.out
 · have d3 : (k == x) = false := beq_eq_false_iff_ne.2 h0
   have HN2 := Lib.hid (show (l.take (i + 1)).contains k = false from by
    rw [List.take_add_one, HX.out]
    have h1 := HNO.out
    rw [Bool.eq_false_iff, ne_eq, List.contains_iff_mem] at h1 ⊢
    intro h2
    rcases List.mem_append.1 h2 with h2 | h2
    · exact h1 h2
    · exact h0 (List.mem_singleton.1 h2))
   go_wp2_with fail
   go_roundw
   case rel => exact ⟨i + 1, by go_num, by have := HI.out; omega, (by first | trivial | rfl), HN2.out⟩
   case measure => first | (simp [intOf]; done) | (simp [intOf]; have := HI.out; omega)
set_option maxHeartbeats 1000000 in
theorem icontains_any {Q : Nat → Prop} (w : World) (v : Value) (n : Nat) (l : List Int) (k : Int) (h : Sl w Q 1 v n (kiC l)) (hn : n ≤ 100000) :
 Calls Tryz.prog 81 #[v, .int .i64 k] w (SamePost w (.bool (l.contains k))) := by
 have HI := Lib.hid (iindex_any w v n l k h hn)
 obtain ⟨a, c, rfl⟩ := h.form
 obtain ⟨b, hb⟩ : ∃ b, l.contains k = b := ⟨_, rfl⟩
 rw [hb]
 clear h hn
 go_enter Tryz.func81, Tryz.ntmps81
 go_wp2_with fail
 refine HI.out.mono ?_
 rintro e w2 ⟨r, rfl, hr, rfl⟩
 rw [hb] at hr
 have F := Lib.hid (show SamePost w2 (.bool b) (.returned (.bool b)) w2 from ⟨rfl, rfl⟩)
 go_wp2_with fail
 go_ret
 exact F.out
end Go.Proofs.YtlcfoeikamkpmaaGreat

namespace Go.Proofs.YtlcfoeikamkpmaaGreat
open Go.RowKit Go.Wh Go.Maps

set_option maxHeartbeats 2000000 in
set_option maxRecDepth 100000 in
theorem force_same {B : Nat → Prop} {w : World} {t d at_ n st : Nat} {es : List PE} (h : TlX B t d at_ n es st w) (hs : st = es.length) :
 Calls Tryz.prog 86 #[.pointer (some ⟨t, 0, none⟩)] w (StPost w (.int .i64 0)) := by
 obtain ⟨sv, h1, h2, h3⟩ := h.tl
 have c4 : w.cell? ⟨t, 4, none⟩ = some (.int .i64 es.length) := h1.cells.cell 4
 have c5 : w.cell? ⟨t, 5, none⟩ = some (.int .i64 st) := h1.cells.cell 5
 have hq : ((st : Int) == (es.length : Int)) = true := by rw [hs]; simp
 have F := Lib.hid (fun w' (k : Still w w') => show StPost w (.int .i64 0) (.returned (.int .i64 0)) w' from ⟨rfl, k⟩)
 clear h h1 h2 h3 hs
 generalize es.length = L at *
 go_enter Tryz.func86, Tryz.ntmps86
 go_wp2_with fail
 go_quiet (fail)
 go_wp2_with fail
 go_ret
 exact F.out _ ((Still.refl w).drewN _)
end Go.Proofs.YtlcfoeikamkpmaaGreat

namespace Go.Wh
open Go.ChangeShapes Go.WideShapes Go.ChangeAt Go.RowKit

section
variable {H : Type} {enc : TypeId × Value → H} {P : Program}

theorem trodAll_stays (hl : laidOutB P = true) {W W' : World} (hb : Below W.heap.size W W') : ∀ (ts : List TypeId) (vs : List Value) (ds : List (DataW H)) (ps : List MemPlace), (∀ t ∈ ts, P.readableRec t = true ∧ t < P.types.size) →
 DataW.TrodAll enc P W 0 (fun _ => true) true ts vs ds ps → DataW.TrodAll enc P W' 0 (fun b => decide (b < W.heap.size)) true ts vs ds ps
 | [], [], [], _, _, h => h
 | t :: ts, v :: vs, d :: ds, _, hr, h => by
  obtain ⟨p, q, h1, h2, e⟩ := h
  refine ⟨p, q, ?_, trodAll_stays hl hb ts vs ds q (fun t ht => hr t (by simp [ht])) h2, e⟩
  obtain ⟨m, hm⟩ := id h1
  exact Below.trod hl (hr t (by simp)).1 (hr t (by simp)).2 h1 hb (fun x hx => DataW.trod_lt m _ _ _ hm x hx)
 | [], _ :: _, _, _, _, h => h.elim
 | [], [], _ :: _, _, _, h => h.elim
 | _ :: _, [], _, _, _, h => h.elim
 | _ :: _, _ :: _, [], _, _, h => h.elim

theorem law_post {f : Func} {s : ChangeSpec} {apart fresh handsOn : Bool} {W W' : World} {args : Array Value} {ds gs : List (DataW H)} {before : List MemPlace} {t : TypeId} (hl : laidOutB P = true) (hres : f.resultTypes = #[t]) (hbool : P.underlying t = some .bool) (hv : s.vars = [])
 (hp : ∀ t ∈ f.params.toList, P.readableRec t = true ∧ t < P.types.size) (hW : DataW.Whole enc P f.params.toList s.vars apart W args.toList ds gs before)
 (hsp : s.fn H ds = { results := [.lit (.bool true)], args := ds }) (hb : Below W.heap.size W W') : s.post enc P f apart fresh handsOn false W args (.bool true) W' := by
 have hW' := hW
 obtain ⟨p, q, hA, hV, rfl, hz, hn⟩ := hW
 rw [hv] at hV
 obtain ⟨rfl, rfl⟩ := trodVars_none hV
 refine ⟨ds, [], _, [], p, [], hW', ?_, ?_, ?_, hb.frame _, fun h => by cases h⟩
 · rw [List.append_nil, hsp, hres]
   exact trodAll_mk1 (RowKit.shut_bool hbool true)
 · rw [List.append_nil, hsp]
   exact trodAll_stays hl hb _ _ _ _ hp hA
 · rw [List.append_nil, hsp, hv]
   exact hV

end

theorem byte_wf {z : Int} (h : (Lit.int .u8 z).wf = true) : 0 ≤ z ∧ z < 256 := by
 have e1 : IntKind.u8.min = 0 := by decide
 have e2 : IntKind.u8.max = 255 := by decide
 simp only [Lit.wf, e1, e2, Bool.and_eq_true, decide_eq_true_eq] at h
 omega
end Go.Wh

namespace Go.Proofs.YtlcfoeikamkpmaaGreat
open Go.Shelf
def ls_keysA_ren : Go.Shelf.Ren := ⟨fun | 7 => 91 | 10 => 128 | n => n, fun | 23 => 80 | 26 => 3 | 3 => 22 | 28 => 149 | 0 => 0 | 27 => 148 | 33 => 53 | 4 => 4 | n => n, fun | n => n⟩
theorem ls_keysA : Go.Proofs.SlLaysZI.n7 Tryz.prog ls_keysA_ren := {
 mixed := by kernel_rfl
 f7 := ⟨Tryz.f91.name, by decide, Tryz.func91.trans (congrArg some (by kernel_rfl))⟩
 f10 := ⟨Tryz.f128.name, by decide, Tryz.func128.trans (congrArg some (by kernel_rfl))⟩
 t0 := Tryz.underlying0
 a0 := Tryz.isAgg0
 z0 := Tryz.sizeOf0
 v0 := Tryz.zeroValue0
 t4 := Tryz.underlying4
 a4 := Tryz.isAgg4
 z4 := Tryz.sizeOf4
 v4 := Tryz.zeroValue4
 t23 := Tryz.underlying80
 a23 := Tryz.isAgg80
 z23 := Tryz.sizeOf80
 v23 := Tryz.zeroValue80
 t26 := Tryz.underlying3
 a26 := Tryz.isAgg3
 z26 := Tryz.sizeOf3
 v26 := Tryz.zeroValue3
 t27 := Tryz.underlying148
 a27 := Tryz.isAgg148
 z27 := Tryz.sizeOf148
 v27 := Tryz.zeroValue148
 t28 := Tryz.underlying149
 a28 := Tryz.isAgg149
 z28 := Tryz.sizeOf149
 v28 := Tryz.zeroValue149
 t33 := Tryz.underlying53
 a33 := Tryz.isAgg53
 z33 := Tryz.sizeOf53
 v33 := Tryz.zeroValue53 }
def ls_sortedA_ren : Go.Shelf.Ren := ⟨fun | 6 => 90 | 8 => 126 | 9 => 127 | 11 => 164 | 13 => 84 | 12 => 165 | 23 => 111 | 24 => 112 | 14 => 184 | 15 => 185 | 16 => 186 | 17 => 187 | 18 => 188 | 19 => 189 | 20 => 190 | 21 => 191 | 22 => 192 | 25 => 203 | 26 => 149 | 27 => 150 | 28 => 204 | 29 => 205 | 30 => 85 | 31 => 208 | n => n, fun | 26 => 3 | 28 => 149 | 24 => 112 | 0 => 0 | 3 => 3 | 37 => 145 | 48 => 71 | 50 => 171 | 4 => 4 | 40 => 163 | 39 => 162 | 45 => 167 | 5 => 5 | 9 => 9 | 51 => 214 | 55 => 218 | 57 => 234 | 58 => 235 | 33 => 53 | n => n, fun | n => n⟩
theorem ls_sortedA : Go.Proofs.SlLaysZI.n6 Tryz.prog ls_sortedA_ren := {
 mixed := by kernel_rfl
 f6 := ⟨Tryz.f90.name, by decide, Tryz.func90.trans (congrArg some (by kernel_rfl))⟩
 f8 := ⟨Tryz.f126.name, by decide, Tryz.func126.trans (congrArg some (by kernel_rfl))⟩
 f11 := ⟨Tryz.f164.name, by decide, Tryz.func164.trans (congrArg some (by kernel_rfl))⟩
 t0 := Tryz.underlying0
 a0 := Tryz.isAgg0
 z0 := Tryz.sizeOf0
 v0 := Tryz.zeroValue0
 t24 := Tryz.underlying112
 a24 := Tryz.isAgg112
 z24 := Tryz.sizeOf112
 v24 := Tryz.zeroValue112
 t26 := Tryz.underlying3
 a26 := Tryz.isAgg3
 z26 := Tryz.sizeOf3
 v26 := Tryz.zeroValue3
 t28 := Tryz.underlying149
 a28 := Tryz.isAgg149
 z28 := Tryz.sizeOf149
 v28 := Tryz.zeroValue149
 i26 := by kernel_rfl }
def ls_sortA_ren : Go.Shelf.Ren := ⟨fun | 5 => 127 | 8 => 84 | 7 => 165 | 19 => 111 | 20 => 112 | 10 => 184 | 11 => 185 | 12 => 186 | 13 => 187 | 14 => 188 | 15 => 189 | 16 => 190 | 17 => 191 | 18 => 192 | 30 => 203 | 31 => 149 | 32 => 150 | 33 => 204 | 34 => 205 | 35 => 85 | 40 => 208 | n => n, fun | 23 => 112 | 25 => 3 | 3 => 3 | 32 => 145 | 22 => 112 | 0 => 0 | 44 => 71 | 46 => 171 | 4 => 4 | 36 => 163 | 35 => 162 | 41 => 167 | 5 => 5 | 9 => 9 | 53 => 214 | 57 => 218 | 63 => 234 | 64 => 235 | n => n, fun | n => n⟩
theorem ls_sortA : Go.Proofs.SlLaysM.n5 Tryz.prog ls_sortA_ren := {
 mixed := by kernel_rfl
 f5 := ⟨Tryz.f127.name, by decide, Tryz.func127.trans (congrArg some (by kernel_rfl))⟩
 f7 := ⟨Tryz.f165.name, by decide, Tryz.func165.trans (congrArg some (by kernel_rfl))⟩
 f8 := Tryz.func84.trans (congrArg some (by kernel_rfl))
 f10 := ⟨Tryz.f184.name, by decide, Tryz.func184.trans (congrArg some (by kernel_rfl))⟩
 f11 := ⟨Tryz.f185.name, by decide, Tryz.func185.trans (congrArg some (by kernel_rfl))⟩
 f12 := ⟨Tryz.f186.name, by decide, Tryz.func186.trans (congrArg some (by kernel_rfl))⟩
 f13 := ⟨Tryz.f187.name, by decide, Tryz.func187.trans (congrArg some (by kernel_rfl))⟩
 f14 := ⟨Tryz.f188.name, by decide, Tryz.func188.trans (congrArg some (by kernel_rfl))⟩
 f15 := ⟨Tryz.f189.name, by decide, Tryz.func189.trans (congrArg some (by kernel_rfl))⟩
 f16 := ⟨Tryz.f190.name, by decide, Tryz.func190.trans (congrArg some (by kernel_rfl))⟩
 f17 := ⟨Tryz.f191.name, by decide, Tryz.func191.trans (congrArg some (by kernel_rfl))⟩
 f18 := ⟨Tryz.f192.name, by decide, Tryz.func192.trans (congrArg some (by kernel_rfl))⟩
 f19 := Tryz.func111.trans (congrArg some (by kernel_rfl))
 f20 := Tryz.func112.trans (congrArg some (by kernel_rfl))
 f30 := ⟨Tryz.f203.name, by decide, Tryz.func203.trans (congrArg some (by kernel_rfl))⟩
 f31 := Tryz.func149.trans (congrArg some (by kernel_rfl))
 f32 := Tryz.func150.trans (congrArg some (by kernel_rfl))
 f33 := ⟨Tryz.f204.name, by decide, Tryz.func204.trans (congrArg some (by kernel_rfl))⟩
 f34 := ⟨Tryz.f205.name, by decide, Tryz.func205.trans (congrArg some (by kernel_rfl))⟩
 f35 := ⟨Tryz.f85.name, by decide, Tryz.func85.trans (congrArg some (by kernel_rfl))⟩
 f40 := ⟨Tryz.f208.name, by decide, Tryz.func208.trans (congrArg some (by kernel_rfl))⟩
 t0 := Tryz.underlying0
 a0 := Tryz.isAgg0
 z0 := Tryz.sizeOf0
 v0 := Tryz.zeroValue0
 t3 := Tryz.underlying3
 a3 := Tryz.isAgg3
 z3 := Tryz.sizeOf3
 v3 := Tryz.zeroValue3
 t4 := Tryz.underlying4
 a4 := Tryz.isAgg4
 z4 := Tryz.sizeOf4
 v4 := Tryz.zeroValue4
 t5 := Tryz.underlying5
 a5 := Tryz.isAgg5
 z5 := Tryz.sizeOf5
 v5 := Tryz.zeroValue5
 t9 := Tryz.underlying9
 a9 := Tryz.isAgg9
 z9 := Tryz.sizeOf9
 v9 := Tryz.zeroValue9
 t22 := Tryz.underlying112
 a22 := Tryz.isAgg112
 z22 := Tryz.sizeOf112
 v22 := Tryz.zeroValue112
 t23 := Tryz.underlying112
 a23 := Tryz.isAgg112
 z23 := Tryz.sizeOf112
 v23 := Tryz.zeroValue112
 t25 := Tryz.underlying3
 a25 := Tryz.isAgg3
 z25 := Tryz.sizeOf3
 v25 := Tryz.zeroValue3
 t32 := Tryz.underlying145
 a32 := Tryz.isAgg145
 z32 := Tryz.sizeOf145
 v32 := Tryz.zeroValue145
 t35 := Tryz.underlying162
 a35 := Tryz.isAgg162
 z35 := Tryz.sizeOf162
 v35 := Tryz.zeroValue162
 t36 := Tryz.underlying163
 a36 := Tryz.isAgg163
 z36 := Tryz.sizeOf163
 v36 := Tryz.zeroValue163
 t41 := Tryz.underlying167
 a41 := Tryz.isAgg167
 z41 := Tryz.sizeOf167
 v41 := Tryz.zeroValue167
 t44 := Tryz.underlying71
 a44 := Tryz.isAgg71
 z44 := Tryz.sizeOf71
 v44 := Tryz.zeroValue71
 t46 := Tryz.underlying171
 a46 := Tryz.isAgg171
 z46 := Tryz.sizeOf171
 v46 := Tryz.zeroValue171
 t53 := Tryz.underlying214
 a53 := Tryz.isAgg214
 z53 := Tryz.sizeOf214
 v53 := Tryz.zeroValue214
 t57 := Tryz.underlying218
 a57 := Tryz.isAgg218
 z57 := Tryz.sizeOf218
 v57 := Tryz.zeroValue218
 t63 := Tryz.underlying234
 a63 := Tryz.isAgg234
 z63 := Tryz.sizeOf234
 v63 := Tryz.zeroValue234
 t64 := Tryz.underlying235
 a64 := Tryz.isAgg235
 z64 := Tryz.sizeOf235
 v64 := Tryz.zeroValue235 }
end Go.Proofs.YtlcfoeikamkpmaaGreat

namespace Go.Wh
open Go.MapKept Go.RowKit Go.Maps
open Go.WideElems (Fit rd rg rd_mk rg_of)

theorem nodup_below : ∀ (n : Nat) (l : List Int), l.Nodup → (∀ x ∈ l, 0 ≤ x ∧ x < n) → l.length ≤ n
 | 0, [], _, _ => Nat.le_refl _
 | 0, x :: l, _, h => by have := h x (by simp); omega
 | n + 1, l, hnd, h => by
  by_cases hm : (n : Int) ∈ l
  · have h1 := List.length_erase_of_mem hm
    have h2 := nodup_below n (l.erase (n : Int)) (hnd.erase _) fun x hx => by
     have h3 := (List.Nodup.mem_erase_iff hnd).1 hx
     have h4 := h x h3.2
     have h5 := h3.1
     omega
    have := List.length_pos_of_mem hm
    omega
  · have := nodup_below n l hnd fun x hx => by
     have h4 := h x hx
     have : x ≠ (n : Int) := fun e => hm (e ▸ hx)
     omega
    omega
def looseL (q : Nat → Bool) (n : Nat) : List Nat := (List.range n).filter q
theorem looseL_mem {q : Nat → Bool} {n i : Nat} : i ∈ looseL q n ↔ i < n ∧ q i = true := by
 unfold looseL
 rw [List.mem_filter, List.mem_range]
theorem looseL_sorted (q : Nat → Bool) (n : Nat) : (looseL q n).Pairwise (· < ·) := (List.pairwise_lt_range (n := n)).filter _
theorem looseL_nodup (q : Nat → Bool) (n : Nat) : (looseL q n).Nodup := (looseL_sorted q n).imp fun h => Nat.ne_of_lt h
theorem sort_loose {q : Nat → Bool} {n : Nat} {ss : List Int} (hnd : ss.Nodup) (hm : ∀ x, x ∈ ss ↔ ∃ i : Nat, i < n ∧ q i = true ∧ x = i) : ss.mergeSort (fun x y => decide (x ≤ y)) = (looseL q n).map fun i : Nat => (i : Int) := by
 have tr : ∀ a b c : Int, leI a b = true → leI b c = true → leI a c = true := fun a b c h1 h2 => by simp only [leI, decide_eq_true_eq] at *; exact Int.le_trans h1 h2
 have tot : ∀ a b : Int, (leI a b || leI b a) = true := fun a b => by simp only [leI, Bool.or_eq_true, decide_eq_true_eq]; exact Int.le_total a b
 have hnd2 : ((looseL q n).map fun i : Nat => (i : Int)).Nodup := List.pairwise_map.2 ((looseL_nodup q n).imp fun {a b} h e => h (by have e' : (a : Int) = (b : Int) := e; omega))
 have hp : ss.Perm ((looseL q n).map fun i : Nat => (i : Int)) := (List.perm_ext_iff_of_nodup hnd hnd2).2 fun x => by
  rw [hm x, List.mem_map]
  constructor
  · rintro ⟨i, h1, h2, rfl⟩
    exact ⟨i, looseL_mem.2 ⟨h1, h2⟩, rfl⟩
  · rintro ⟨i, h1, rfl⟩
    exact ⟨i, (looseL_mem.1 h1).1, (looseL_mem.1 h1).2, rfl⟩
 refine List.Perm.eq_of_pairwise (le := fun a b => leI a b = true) (fun a b _ _ h1 h2 => ?_) (List.pairwise_mergeSort tr tot ss) (List.pairwise_map.2 ((looseL_sorted q n).imp fun {a b} h => ?_)) ((List.mergeSort_perm ss leI).trans hp)
 · simp only [leI, decide_eq_true_eq] at h1 h2
   exact Int.le_antisymm h1 h2
 · simp only [leI, decide_eq_true_eq]
   omega
def anyV (H : Type) : Value → Option (DataW H × List MemPlace) := fun _ => some (.lit (.bool true), [])
theorem kmap_owns {P : Program} {k : TypeId} (hk : P.underlying k = some (.int .i64)) {w : World} {b n : Nat} {V : Int → Option Value} (h : kmap w P k encZ b V) (hn : n ≤ 100000) (hr : ∀ x v, V x = some v → 0 ≤ x ∧ x < n) :
 ∃ D : DataW Unit, w.ownsMap P k (anyV Unit) b n D ∧ Maps.size D ≤ n ∧ ∀ ss : List Int, ss.Perm (intKeys D) → ss.Nodup ∧ ∀ x, x ∈ ss ↔ (V x).isSome = true := by
 obtain ⟨es, clock, hb, hst, hkey, hE, hV⟩ := h
 have hint : ∀ x ∈ es.toList, ∃ a : Int, x.key = encZ a ∧ rd P k (anyV Unit) x = some (.int .i64 a, .lit (.bool true)) := fun x hx => by
  obtain ⟨l, hl⟩ := hkey x hx
  obtain ⟨a, ha, hla, -⟩ := Maps.keyOf_i64 hk hl
  refine ⟨a, ha, ?_⟩
  unfold rd
  rw [hl, hla]
  rfl
 have hlen : es.size ≤ n := by
  have h1 : (es.toList.map fun x => intOf (rg P k (anyV Unit) x).1).length ≤ n := by
   refine nodup_below n _ ?_ fun z hz => ?_
   · refine List.pairwise_map.2 ((List.pairwise_map.1 hst.2.2).imp_of_mem fun {x y} hx hy hne e => hne ?_)
     obtain ⟨a, ha, hra⟩ := hint x hx
     obtain ⟨c, hc, hrc⟩ := hint y hy
     rw [rg_of hra, rg_of hrc] at e
     rw [ha, hc]
     exact congrArg encZ e
   · obtain ⟨x, hx, rfl⟩ := List.mem_map.1 hz
     obtain ⟨a, ha, hra⟩ := hint x hx
     rw [rg_of hra]
     exact hr a x.val ((hV a x.val).2 ⟨x, hx, ha, rfl⟩)
  rw [List.length_map, Array.length_toList] at h1
  exact h1
 have hfit : Fit P k (anyV Unit) es clock := ⟨by simp only [maxLen]; omega, hst, fun x hx => by
  obtain ⟨a, -, hra⟩ := hint x hx
  exact ⟨_, hra⟩⟩
 have hown : w.ownsMap P k (anyV Unit) b n (.map ((es.toList.map (rg P k (anyV Unit))).foldr DataW.insert [])) := ⟨es, clock, hb, hfit, hlen, rfl⟩
 refine ⟨_, hown, ?_, fun ss hp => ?_⟩
 · show ((es.toList.map (rg P k (anyV Unit))).foldr DataW.insert []).length ≤ n
   rw [(Go.WideShapes.sorted_perm _).length_eq, List.length_map, Array.length_toList]
   exact hlen
 · obtain ⟨es', he', hpw, -⟩ := hown.entries (int_keyed hk)
   injection he' with he'
   have hmem : ∀ x : Int, x ∈ intKeys (DataW.map ((es.toList.map (rg P k (anyV Unit))).foldr DataW.insert [])) ↔ (V x).isSome = true := fun x => by
    show x ∈ ((es.toList.map (rg P k (anyV Unit))).foldr DataW.insert []).map (fun p => intOf p.1) ↔ _
    rw [List.mem_map]
    constructor
    · rintro ⟨p, hp, rfl⟩
      obtain ⟨y, hy, rfl⟩ := List.mem_map.1 (mem_sorted.1 hp)
      obtain ⟨a, ha, hra⟩ := hint y hy
      rw [rg_of hra]
      show (V a).isSome = true
      rw [(hV a y.val).2 ⟨y, hy, ha, rfl⟩]
      rfl
    · intro hx
      obtain ⟨v, hv⟩ := Option.isSome_iff_exists.1 hx
      obtain ⟨y, hy, hyk, -⟩ := (hV x v).1 hv
      obtain ⟨a, ha, hra⟩ := hint y hy
      refine ⟨rg P k (anyV Unit) y, mem_sorted.2 (List.mem_map.2 ⟨y, hy, rfl⟩), ?_⟩
      rw [rg_of hra]
      exact encZ_inj (ha.symm.trans hyk)
   have hnd : (intKeys (DataW.map ((es.toList.map (rg P k (anyV Unit))).foldr DataW.insert []))).Nodup := by
    show (((es.toList.map (rg P k (anyV Unit))).foldr DataW.insert []).map (fun p => intOf p.1)).Nodup
    rw [he']
    refine List.pairwise_map.2 (hpw.imp_of_mem fun {p q} hp hq hne e => hne ?_)
    rw [← he'] at hp hq
    obtain ⟨y, hy, rfl⟩ := List.mem_map.1 (mem_sorted.1 hp)
    obtain ⟨z, hz, rfl⟩ := List.mem_map.1 (mem_sorted.1 hq)
    obtain ⟨a, ha, hra⟩ := hint y hy
    obtain ⟨c, hc, hrc⟩ := hint z hz
    rw [rg_of hra, rg_of hrc] at e ⊢
    have e' : a = c := e
    rw [e']
   exact ⟨hp.nodup_iff.2 hnd, fun x => (hp.mem_iff).trans (hmem x)⟩
end Go.Wh

namespace Go.Proofs.YtlcfoeikamkpmaaGreat
open Go.RowKit Go.Wh Go.Maps Go.Sort Go.Shelf

theorem sorts_int (m : Nat) : AnyZI.SortsIn Tryz.prog ls_sortedA_ren Fence.wide m :=
 ⟨fun blk off cap ss W hH hblk hsz => callsIn_wide.2 (AnyM.slices_Sort_int ls_sortA blk off cap ss W hH hblk hsz),
  fun p cap W => callsIn_wide.2 (AnyM.slices_Sort_int_none ls_sortA p cap W)⟩
theorem keys_any (mb : Option Nat) (W : World) : Calls Tryz.prog 91 #[.map mb] W fun e w' => e = .returned (.func (.func 128) #[] #[.pointer (some ⟨W.heap.size, 0, none⟩)]) ∧ w' = W.alloc (.cells #[.map mb] 80) :=
 (callsIn_wide (n := 5)).1 (AnyZI.keys_in ls_keysA Fence.wide 5 trivial rfl mb W)
def NumsPost (w : World) (l : List Nat) (e : Ending) (w' : World) : Prop :=
 ∃ v, e = .returned v ∧ Vec w' 1 v l.length (l.map fun i : Nat => Value.int .i64 (i : Int)) ∧ Still w w' ∧ ∀ g, v.ownBlock = some g → w.heap.size ≤ g ∧ g < w'.heap.size
theorem sorted_keys (w : World) (mb n : Nat) (V : Int → Option Value) (hk : kmap w Tryz.prog 3 (fun z : Int => .int .i64 z) mb V) (hn : n ≤ 100000) (hr : ∀ x v, V x = some v → 0 ≤ x ∧ x < n) :
 Calls Tryz.prog 90 #[.func (.func 128) #[] #[.pointer (some ⟨w.heap.size, 0, none⟩)]] (w.alloc (.cells #[.map (some mb)] 80)) (NumsPost w (looseL (fun i => (V (i : Int)).isSome) n)) := by
 have hlt := hk.lt
 obtain ⟨D, hown, hsz, hD⟩ := kmap_owns Tryz.underlying3 hk hn hr
 have hseq : SeqGives Fence.wide 2 Tryz.prog 128 #[.pointer (some ⟨w.heap.size, 0, none⟩)] encZ (fun ss => ss.Perm (intKeys D)) (Maps.size D) (w.alloc (.cells #[.map (some mb)] 80)) :=
  AnyZI.keys_gives (ρ := ls_keysA_ren) { ls_keysA with } Fence.wide _ trivial rfl (by omega) w.heap.size mb n D _ (by simp) (by simp) (by
   obtain ⟨es, clock, hb, Ft, hs, hD⟩ := hown
   exact ⟨es, clock, (Below.heap_alloc _ _ mb hlt).trans hb, Ft, hs, hD⟩)
 have cS := AnyZI.sorted_in ls_sortedA Fence.wide 5 trivial trivial trivial trivial rfl (by omega) (sorts_int _) (enters_of Tryz.func127 (by kernel_rfl) rfl) 128 #[.pointer (some ⟨w.heap.size, 0, none⟩)] trivial (enters_of Tryz.func128 (by kernel_rfl) rfl) _ _ (by simp only [maxLen]; omega) (by omega) _ hseq
 change CallsIn _ _ Tryz.prog 90 _ _ _ at cS
 refine ((callsIn_wide (n := 5)).1 cS).mono ?_
 rintro e w' ⟨v, ss, rfl, hS, hrow, -, hb⟩
 obtain ⟨hnd, hm⟩ := hD ss hS
 have hs := sort_loose (q := fun i => (V (i : Int)).isSome) (n := n) hnd fun x => by
  rw [hm x]
  constructor
  · intro hx
    obtain ⟨v, hv⟩ := Option.isSome_iff_exists.1 hx
    have := hr x v hv
    obtain ⟨i, rfl⟩ : ∃ i : Nat, x = i := ⟨x.toNat, by omega⟩
    exact ⟨i, by omega, hx, rfl⟩
  · rintro ⟨i, -, h2, rfl⟩
    exact h2
 have hlen : ss.length = (looseL (fun i => (V (i : Int)).isSome) n).length := by
  have := congrArg List.length hs
  rw [List.length_mergeSort, List.length_map] at this
  exact this
 have hrow2 := hrow
 rw [hs, List.map_map, hlen] at hrow2
 have hst : Still w (w.alloc (.cells #[.map (some mb)] 80)) := (Still.refl w).alloc _
 refine ⟨v, rfl, ?_, hst.trans (Only.ofBelow hb), fun g hg => ?_⟩
 · exact vec_of_owns hrow2
 · have h1 := hrow2.lt g hg
   have h2 := h1.1
   simp at h2
   exact ⟨by omega, h1.2⟩
theorem loose_any (w : World) (d mb n : Nat) (V : Int → Option Value) (c1 : w.cell? ⟨d, 1, none⟩ = some (.map (some mb))) (hk : kmap w Tryz.prog 3 (fun z : Int => .int .i64 z) mb V) (hn : n ≤ 100000) (hr : ∀ x v, V x = some v → 0 ≤ x ∧ x < n) :
 Calls Tryz.prog 62 #[.pointer (some ⟨d, 0, none⟩)] w (NumsPost w (looseL (fun i => (V (i : Int)).isSome) n)) := by
 have HK := Lib.hid (keys_any (some mb) w)
 have HS := Lib.hid (sorted_keys w mb n V hk hn hr)
 clear hk hr hn
 go_enter Tryz.func62, Tryz.ntmps62
 go_wp2_with fail
 refine HK.out.mono ?_
 rintro e w1 ⟨rfl, rfl⟩
 go_wp2_with fail
 refine HS.out.mono ?_
 intro e w2 h
 obtain ⟨v, rfl, h⟩ := h
 have F := Lib.hid (show NumsPost w (looseL (fun i => (V (i : Int)).isSome) n) (.returned v) w2 from ⟨v, rfl, h⟩)
 clear h
 go_wp2_with fail
 go_ret
 exact F.out
end Go.Proofs.YtlcfoeikamkpmaaGreat

namespace Go.Proofs.YtlcfoeikamkpmaaGreat
open Go.RowKit Go.Wh Go.Maps

def mskB (mask : List Int) (i : Nat) : Bool := decide (i / 8 < mask.length) && (mask.getD (i / 8) 0 / 2 ^ (i % 8) % 2 != 0)
theorem u8_and1 : ∀ n : Fin 256, bits BinOp.and IntKind.u8 (n.val : Int) 1 = (n.val : Int) % 2 := by decide +kernel
theorem u8_bit {z : Int} {r : Nat} (h : 0 ≤ z ∧ z ≤ 255) : bits BinOp.and IntKind.u8 (z / 2 ^ r) 1 = z / 2 ^ r % 2 := by
 have h1 : 0 ≤ z / 2 ^ r := Int.ediv_nonneg h.1 (Int.le_of_lt (Int.pow_pos (by decide)))
 have h2 : z / 2 ^ r ≤ z := Int.ediv_le_self _ h.1
 have := u8_and1 ⟨(z / 2 ^ r).toNat, by omega⟩
 simp only [Int.toNat_of_nonneg h1] at this
 exact this
set_option maxRecDepth 10000 in
theorem set_any (w : World) (Q : Nat → Prop) (a : Option Addr) (n c i : Nat) (mask : List Int) (h : 0 < n → Sl w Q 1 (.slice a n c) n (bc mask)) (hl : mask.length = n) (hb : Byt mask) (hi : i ≤ 100000) :
 Calls Tryz.prog 63 #[.slice a n c, .int .i64 i] w (SamePost w (.bool (mskB mask i))) := by
 obtain ⟨q, hq⟩ : ∃ q, i / 8 = q := ⟨_, rfl⟩
 obtain ⟨r, hr⟩ : ∃ r, i % 8 = r := ⟨_, rfl⟩
 have e0 : (0 : Int) ≤ (i : Int) := by omega
 have e1 : (i : Int) / 8 = (q : Int) := by omega
 have e2 : (i : Int) % 8 = (r : Int) := by omega
 have e3 : IntKind.i64.wrap (q : Int) = (q : Int) := IntWalk.i64_in _ (by omega)
 have e4 : (0 : Int) ≤ (r : Int) := by omega
 have hr8 : r < 8 := by omega
 unfold mskB
 rw [hq, hr, hl]
 by_cases hqn : q < n
 · obtain ⟨g, o, c', hg, -, -, hcs⟩ := (h (by omega)).pos (by omega)
   cases hg
   obtain ⟨z, hz⟩ : ∃ z, mask[q]? = some z := ⟨_, List.getElem?_eq_getElem (by omega)⟩
   have hzb := hb z (List.mem_of_getElem? hz)
   have cz : w.cell? ⟨g, o + q, none⟩ = some (.int .u8 z) := hcs q _ (bc_get hz)
   have d1 : decide ((q : Int) < (n : Int)) = true := decide_eq_true (by omega)
   have d2 : decide (q < n) = true := decide_eq_true hqn
   have l0 : (0 : Int) ≤ (q : Int) := by omega
   have l1 : (q : Int) < (n : Int) := by omega
   have hgd : mask.getD q 0 = z := by rw [List.getD_eq_getElem?_getD, hz]; rfl
   rw [hgd, d2, Bool.true_and]
   have e5 := u8_bit (r := r) hzb
   clear h hl hb hi hq hr hqn hcs hz hgd
   go_enter Tryz.func63, Tryz.ntmps63
   go_wp2_with fail
   go_ret
   exact ⟨rfl, rfl⟩
 · have d1 : decide ((q : Int) < (n : Int)) = false := decide_eq_false (by omega)
   have d2 : decide (q < n) = false := decide_eq_false hqn
   rw [d2, Bool.false_and]
   clear h hl hb hi hq hr hqn
   go_enter Tryz.func63, Tryz.ntmps63
   go_wp2_with fail
   go_ret
   exact ⟨rfl, rfl⟩
end Go.Proofs.YtlcfoeikamkpmaaGreat

namespace Go.Proofs.YtlcfoeikamkpmaaGreat
open Go.RowKit Go.Wh Go.Maps

structure PDk where
 T : List (List Int)
 was : Nat → Option (List Int)
 dead : Bool
 plan : Option (Int × List Int)
def PDk.loose (D : PDk) : List Nat := looseL (fun i => (D.was i).isSome) D.T.length
def crashN (was : Nat → Option (List Int)) (mask : List Int) (L : List Nat) (T : List (List Int)) : Nat → List (List Int)
 | 0 => T
 | i + 1 => if mskB mask i = true then crashN was mask L T i else (crashN was mask L T i).set (L.getD i 0) ((was (L.getD i 0)).getD [])
theorem crashN_length {was : Nat → Option (List Int)} {mask : List Int} {L : List Nat} {T : List (List Int)} : ∀ {i : Nat}, (crashN was mask L T i).length = T.length
 | 0 => rfl
 | i + 1 => by
  unfold crashN
  split
  · exact crashN_length
  · rw [List.length_set]
    exact crashN_length
def PDk.crash (D : PDk) (mask : List Int) : PDk := ⟨crashN D.was mask D.loose D.T D.loose.length, fun _ => none, true, none⟩

def ptrV : Option Nat → Value
 | none => .pointer none
 | some b => .pointer (some ⟨b, 0, none⟩)
def Mu (d mb : Nat) (tv : Value) (pp : Option Nat) (g : Nat) : Prop := g = d ∨ g = mb ∨ tv.ownBlock = some g ∨ pp = some g
structure DgAt (A : Nat → Prop) (w : World) (d : Nat) (D : PDk) (tv : Value) (mb : Nat) (vs : List Value) (V : Int → Option Value) (pp : Option Nat) : Prop where
 cells : cellsAt w d [tv, .map (some mb), .bool D.dead, ptrV pp]
 t : Vec w 1 tv D.T.length vs
 ins : ∀ (i : Nat) (l : List Int), D.T[i]? = some l → ∃ v, vs[i]? = some v ∧ Reads w 1 v 64 (bc l)
 m : kmap w Tryz.prog 3 (fun z : Int => .int .i64 z) mb V
 wi : ∀ x v, V x = some v → ∃ (i : Nat) (l : List Int), i < D.T.length ∧ x = i ∧ D.was i = some l ∧ Reads w 1 v 64 (bc l)
 wn : ∀ i : Nat, V i = none → D.was i = none
 pl : ∀ k mask, D.plan = some (k, mask) → ∃ b mv, pp = some b ∧ cellsAt w b [.int .i64 k, mv] ∧ Sl w (fun g => A g ∧ ¬ Mu d mb tv pp g) 1 mv mask.length (bc mask) ∧ Byt mask
 pn : D.plan = none → pp = none
 dm : d ≠ mb
 td : ∀ g, tv.ownBlock = some g → g ≠ d ∧ g ≠ mb
 pd : ∀ g, pp = some g → g ≠ d ∧ g ≠ mb ∧ tv.ownBlock ≠ some g
 mu : ∀ g, Mu d mb tv pp g → A g
 ct : ∀ v ∈ vs, v.oneCell' = true ∧ ∀ g, v.ownBlock = some g → A g ∧ ¬ Mu d mb tv pp g
 cw : ∀ x v, V x = some v → v.oneCell' = true ∧ ∀ g, v.ownBlock = some g → A g ∧ ¬ Mu d mb tv pp g
 lt : ∀ g, A g → g < w.heap.size
section
variable {A X : Nat → Prop} {w w' : World} {d mb : Nat} {D : PDk} {tv : Value} {vs : List Value} {V : Int → Option Value} {pp : Option Nat}
theorem DgAt.only (h : DgAt A w d D tv mb vs V pp) (ho : Only X w w') (hx : ∀ g, A g → ¬ X g) : DgAt A w' d D tv mb vs V pp where
 cells := h.cells.only ho (hx d (h.mu d (.inl rfl)))
 t := h.t.only ho fun g hg => hx g (h.mu g (.inr (.inr (.inl hg))))
 ins i l hi := by
  obtain ⟨v, hv, hr⟩ := h.ins i l hi
  exact ⟨v, hv, Reads.only hr ho fun g hg => hx g ((h.ct v (List.mem_of_getElem? hv)).2 g hg).1⟩
 m := h.m.block (ho.block mb h.m.lt (hx mb (h.mu mb (.inr (.inl rfl)))))
 wi x v hv := by
  obtain ⟨i, l, h1, h2, h3, h4⟩ := h.wi x v hv
  exact ⟨i, l, h1, h2, h3, Reads.only h4 ho fun g hg => hx g ((h.cw x v hv).2 g hg).1⟩
 wn := h.wn
 pl k mask hp := by
  obtain ⟨b, mv, h1, h2, h3, h4⟩ := h.pl k mask hp
  exact ⟨b, mv, h1, h2.only ho (hx b (h.mu b (.inr (.inr (.inr h1))))), h3.only ho fun g hg => hx g hg.1, h4⟩
 pn := h.pn
 dm := h.dm
 td := h.td
 pd := h.pd
 mu := h.mu
 ct := h.ct
 cw := h.cw
 lt g hg := Nat.lt_of_lt_of_le (h.lt g hg) ho.size
theorem DgAt.still (h : DgAt A w d D tv mb vs V pp) (hs : Still w w') : DgAt A w' d D tv mb vs V pp := h.only hs fun _ _ e => e
theorem DgAt.form (h : DgAt A w d D tv mb vs V pp) : ∃ a c, tv = .slice a D.T.length c := h.t.form'
theorem DgAt.inr (h : DgAt A w d D tv mb vs V pp) : ∀ x v, V x = some v → 0 ≤ x ∧ x < D.T.length := fun x v hv => by
 obtain ⟨i, l, h1, h2, -, -⟩ := h.wi x v hv
 omega
theorem DgAt.was (h : DgAt A w d D tv mb vs V pp) (i : Nat) : (V (i : Int)).isSome = (D.was i).isSome := by
 cases hv : V (i : Int) with
 | none =>
  rw [h.wn i hv]
  rfl
 | some v =>
  obtain ⟨j, l, -, h2, h3, -⟩ := h.wi i v hv
  obtain rfl : i = j := by omega
  rw [h3]
  rfl
theorem DgAt.put {g o c i : Nat} {l : List Int} {v : Value} (h : DgAt A w d D tv mb vs V pp) (htv : tv = .slice (some ⟨g, o, none⟩) D.T.length c) (hi : i < D.T.length) (hv : Reads w 1 v 64 (bc l)) (hf : ∀ g', v.ownBlock = some g' → A g' ∧ ¬ Mu d mb tv pp g') (h1 : v.oneCell' = true) :
 DgAt A (w.setCell ⟨g, o + i, none⟩ v) d { D with T := D.T.set i l } tv mb (vs.set i v) V pp := by
 subst htv
 have ho := setCell_only w ⟨g, o + i, none⟩ v
 have hz : (w.setCell ⟨g, o + i, none⟩ v).heap.size = w.heap.size := by simp [World.setCell]
 have hlen : vs.length = D.T.length := by have := h.t.len; omega
 have hg := h.td g rfl
 have hmu : ∀ g', ¬ Mu d mb (.slice (some ⟨g, o, none⟩) D.T.length c) pp g' → ¬ g' = g := fun g' hn e => hn (.inr (.inr (.inl (by rw [e]; rfl))))
 have htl : (D.T.set i l).length = D.T.length := List.length_set
 exact {
  cells := h.cells.only ho (fun e => hg.1 (show d = g from e).symm)
  t := by
   show Vec _ 1 _ (D.T.set i l).length _
   rw [htl]
   obtain ⟨g', o', c', he, ht⟩ := h.t.form (by omega)
   injection he with he _ hec
   injection he with he
   injection he with hg' ho'
   subst hg' ho' hec
   exact .inr ⟨_, _, _, rfl, ht.set i (by omega) v⟩
  ins := fun j l' hj => by
   by_cases e : i = j
   · subst e
     rw [List.getElem?_set_self hi] at hj
     cases hj
     exact ⟨v, List.getElem?_set_self (by omega), Reads.only hv ho fun g' hg' => hmu g' (hf g' hg').2⟩
   · rw [List.getElem?_set_ne e] at hj
     obtain ⟨u, hu, hr⟩ := h.ins j l' hj
     exact ⟨u, by rw [List.getElem?_set_ne e]; exact hu, Reads.only hr ho fun g' hg' => hmu g' ((h.ct u (List.mem_of_getElem? hu)).2 g' hg').2⟩
  m := h.m.block (ho.block mb h.m.lt fun e => hg.2 (show mb = g from e).symm)
  wi := fun x u hu => by
   obtain ⟨j, l', k1, k2, k3, k4⟩ := h.wi x u hu
   exact ⟨j, l', by rw [htl]; exact k1, k2, k3, Reads.only k4 ho fun g' hg' => hmu g' ((h.cw x u hu).2 g' hg').2⟩
  wn := h.wn
  pl := fun k mask hp => by
   obtain ⟨b, mv, k1, k2, k3, k4⟩ := h.pl k mask hp
   exact ⟨b, mv, k1, k2.only ho fun e => (h.pd b k1).2.2 (by rw [show b = g from e]; rfl), k3.only ho fun g' hg' => hmu g' hg'.2, k4⟩
  pn := h.pn
  dm := h.dm
  td := h.td
  pd := h.pd
  mu := h.mu
  ct := fun u hu => by
   rcases List.mem_or_eq_of_mem_set hu with hu | rfl
   · exact h.ct u hu
   · exact ⟨h1, hf⟩
  cw := h.cw
  lt := fun g' hg' => by rw [hz]; exact h.lt g' hg' }
end
end Go.Proofs.YtlcfoeikamkpmaaGreat

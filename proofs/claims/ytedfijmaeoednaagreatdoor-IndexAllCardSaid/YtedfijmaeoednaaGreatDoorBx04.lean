/- A node that is too great is parted. Conditions: a node in memory, of keys and places, or of keys and children. Parting at any level of a tree in memory. Conditions: a tree in memory. A region that draws its order, whose last stores wait for all that was loaded: the loads are taken first under a condition that need not outlive those stores. No conditions. -/
import Derived.Test.YtedfijmaeoednaaGreatDoorBx03
import Derived.Deep.RegionHeld3
import Derived.Maps.RangeWalk
namespace Go.Proofs.YtedfijmaeoednaaGreatDoor
open Go.RowKit Go.Wh

/-- What parting leaves. -/
def SplitPost (w : World) (r : Nat) (ks : List Key) (vs : List Rid) (cs : List Nat) (F : List Nat) (h : Nat) (e : Ending) (w' : World) : Prop :=
  ∃ r' F1 F2, e = .returned (ptr r') ∧ Raw w' r (ks.take h) (vs.take h) (cs.take h) F1 ∧ Raw w' r' (ks.drop h) (vs.drop h) (cs.drop h) F2 ∧ Only (fun b => b ∈ F) w w' ∧ (∀ b ∈ F1, b ∈ F) ∧ ∀ b ∈ F2, w.heap.size ≤ b

/-- Where the parting is at when the keys are parted. -/
structure Mid (w : World) (r r' : Nat) (kv' vv cv kv2 : Value) (ks : List Key) (vs : List Rid) (cs : List Nat) (F : List Nat) (m : Nat) (W : World) : Prop where
  x : NodeAt W r kv' vv cv (ks.take m) vs cs
  y : NodeAt W r' kv2 (.slice none 0 0) (.slice none 0 0) (ks.drop m) [] []
  a : Apt r kv' vv cv
  f : ∀ b, b ∈ F ↔ b ∈ foot r kv' vv cv
  lt : ∀ b ∈ F, b < w.heap.size
  r1 : w.heap.size ≤ r'
  r2 : r' < W.heap.size
  k2 : ∀ b, kv2.ownBlock = some b → w.heap.size ≤ b ∧ b < r'
  o : Only (fun b => b ∈ F) w W

theorem Mid.endC {w W w6 : World} {r r' : Nat} {kv' vv kv2 cv2 : Value} {ks : List Key} {vs : List Rid} {cs F : List Nat} {m n g2 o2 cap2 : Nat}
    (h : Mid w r r' kv' vv (.slice (some ⟨g2, o2, none⟩) n cap2) kv2 ks vs cs F m W) (hcs : cs.length = n) (hm : m < n) (hvs : vs = [])
    (B6 : Below W.heap.size W w6) (V6 : Vec w6 1 cv2 (n - m) (pcells (cs.drop m))) (f6 : ∀ b, cv2.ownBlock = some b → W.heap.size ≤ b ∧ b < w6.heap.size) :
    SplitPost w r ks vs cs F m (.returned (ptr r')) ((w6.setCell ⟨r', 2, none⟩ cv2).setCell ⟨r, 2, none⟩ (.slice (some ⟨g2, o2, none⟩) m m)) := by
  subst hvs
  have hr : r ∈ F := (h.f r).2 (mem_foot.2 (.inl rfl))
  have hrw := h.lt r hr
  have hs6 := B6.size
  have hsW := h.o.size
  have r1 := h.r1
  have r2 := h.r2
  have hx6 : NodeAt w6 r kv' vv (.slice (some ⟨g2, o2, none⟩) n cap2) (ks.take m) [] cs := h.x.only (Only.ofBelow (S := fun _ => False) B6) fun _ _ e => e
  have hy6 : NodeAt w6 r' kv2 (.slice none 0 0) (.slice none 0 0) (ks.drop m) [] [] := h.y.only (Only.ofBelow (S := fun _ => False) B6) fun _ _ e => e
  have hay : Apt r' kv2 (.slice none 0 0) (.slice none 0 0) := Apt.new fun b hb => by have := h.k2 b hb; omega
  have hay2 : Apt r' kv2 (.slice none 0 0) cv2 := Apt.newC (fun b hb => by have := h.k2 b hb; omega) (fun b hb => by have := f6 b hb; omega) (fun b hb e => by have h1 := h.k2 b hb; have h2 := f6 b e; omega)
  have hy7 : NodeAt (w6.setCell ⟨r', 2, none⟩ cv2) r' kv2 (.slice none 0 0) cv2 (ks.drop m) [] (cs.drop m) :=
    hy6.setC hay (by rw [List.length_drop, hcs]; exact V6) (fun e => by have := f6 r' e; omega)
  have hfx : ∀ b ∈ foot r kv' vv (.slice (some ⟨g2, o2, none⟩) n cap2), b < w.heap.size := fun b hb => h.lt b ((h.f b).2 hb)
  have hx7 : NodeAt (w6.setCell ⟨r', 2, none⟩ cv2) r kv' vv (.slice (some ⟨g2, o2, none⟩) n cap2) (ks.take m) [] cs := hx6.setOther (fun e => by have := hfx r' e; omega) _
  have hfy : ∀ b ∈ foot r' kv2 (.slice none 0 0) cv2, w.heap.size ≤ b ∧ b < w6.heap.size := fun b hb => by
    rcases mem_foot.1 hb with rfl | hb | hb | hb
    · exact ⟨r1, by omega⟩
    · have := h.k2 b hb; omega
    · cases hb
    · have := f6 b hb; omega
  have hy8 := hy7.setOther (p := ⟨r, 2, none⟩) (fun e => by have := (hfy r e).1; omega) (.slice (some ⟨g2, o2, none⟩) m m)
  have hcv := hx7.c
  rw [hcs] at hcv
  have hva := hcv.at.head m (by omega)
  rw [show (pcells cs).take (m * 1) = pcells (cs.take m) by simp [pcells]] at hva
  have hx8 := hx7.setC (u := .slice (some ⟨g2, o2, none⟩) m m) (cs' := cs.take m) h.a (by rw [List.length_take, hcs, Nat.min_eq_left (by omega)]; exact .inr ⟨_, _, _, rfl, hva⟩) (fun e => h.a.rc r e rfl)
  have ho : Only (fun b => b ∈ F) w ((w6.setCell ⟨r', 2, none⟩ cv2).setCell ⟨r, 2, none⟩ (.slice (some ⟨g2, o2, none⟩) m m)) :=
    ((h.o.andThen (Only.ofBelow (S := fun _ => False) B6) fun _ _ e => e.elim).setCell (.inr r1) cv2).setCell (.inl hr) _
  have HX := Raw.of hx8 ⟨h.a.rk, h.a.rv, h.a.rc, h.a.akv, h.a.akc, h.a.avc⟩ (fun b hb => by
    have := hfx b hb
    simp
    omega)
  have HY := Raw.of hy8 hay2 (fun b hb => by
    have := (hfy b hb).2
    simpa using this)
  exact ⟨r', foot r kv' vv (.slice (some ⟨g2, o2, none⟩) m m), _, rfl, by simpa using HX, by simpa using HY, ho, fun b hb => (h.f b).2 hb, fun b hb => (hfy b hb).1⟩

theorem Mid.endV {w W w6 : World} {r r' : Nat} {kv' cv kv2 vv2 : Value} {ks : List Key} {vs : List Rid} {cs F : List Nat} {m n g2 o2 cap2 : Nat}
    (h : Mid w r r' kv' (.slice (some ⟨g2, o2, none⟩) n cap2) cv kv2 ks vs cs F m W) (hcs : vs.length = n) (hm : m < n) (hvs : cs = [])
    (B6 : Below W.heap.size W w6) (V6 : Vec w6 2 vv2 (n - m) (rcells (vs.drop m))) (f6 : ∀ b, vv2.ownBlock = some b → W.heap.size ≤ b ∧ b < w6.heap.size) :
    SplitPost w r ks vs cs F m (.returned (ptr r')) ((w6.setCell ⟨r', 1, none⟩ vv2).setCell ⟨r, 1, none⟩ (.slice (some ⟨g2, o2, none⟩) m m)) := by
  subst hvs
  have hr : r ∈ F := (h.f r).2 (mem_foot.2 (.inl rfl))
  have hrw := h.lt r hr
  have hs6 := B6.size
  have hsW := h.o.size
  have r1 := h.r1
  have r2 := h.r2
  have hx6 : NodeAt w6 r kv' (.slice (some ⟨g2, o2, none⟩) n cap2) cv (ks.take m) vs [] := h.x.only (Only.ofBelow (S := fun _ => False) B6) fun _ _ e => e
  have hy6 : NodeAt w6 r' kv2 (.slice none 0 0) (.slice none 0 0) (ks.drop m) [] [] := h.y.only (Only.ofBelow (S := fun _ => False) B6) fun _ _ e => e
  have hay : Apt r' kv2 (.slice none 0 0) (.slice none 0 0) := Apt.new fun b hb => by have := h.k2 b hb; omega
  have hay2 : Apt r' kv2 vv2 (.slice none 0 0) := Apt.newV (fun b hb => by have := h.k2 b hb; omega) (fun b hb => by have := f6 b hb; omega) (fun b hb e => by have h1 := h.k2 b hb; have h2 := f6 b e; omega)
  have hy7 : NodeAt (w6.setCell ⟨r', 1, none⟩ vv2) r' kv2 vv2 (.slice none 0 0) (ks.drop m) (vs.drop m) [] :=
    hy6.setV hay (by rw [List.length_drop, hcs]; exact V6) (fun e => by have := f6 r' e; omega)
  have hfx : ∀ b ∈ foot r kv' (.slice (some ⟨g2, o2, none⟩) n cap2) cv, b < w.heap.size := fun b hb => h.lt b ((h.f b).2 hb)
  have hx7 : NodeAt (w6.setCell ⟨r', 1, none⟩ vv2) r kv' (.slice (some ⟨g2, o2, none⟩) n cap2) cv (ks.take m) vs [] := hx6.setOther (fun e => by have := hfx r' e; omega) _
  have hfy : ∀ b ∈ foot r' kv2 vv2 (.slice none 0 0), w.heap.size ≤ b ∧ b < w6.heap.size := fun b hb => by
    rcases mem_foot.1 hb with rfl | hb | hb | hb
    · exact ⟨r1, by omega⟩
    · have := h.k2 b hb; omega
    · have := f6 b hb; omega
    · cases hb
  have hy8 := hy7.setOther (p := ⟨r, 1, none⟩) (fun e => by have := (hfy r e).1; omega) (.slice (some ⟨g2, o2, none⟩) m m)
  have hcv := hx7.v
  rw [hcs] at hcv
  have hva := hcv.at.head m (by omega)
  rw [show (rcells vs).take (m * 2) = rcells (vs.take m) from rcells_take vs m] at hva
  have hx8 := hx7.setV (u := .slice (some ⟨g2, o2, none⟩) m m) (vs' := vs.take m) h.a (by rw [List.length_take, hcs, Nat.min_eq_left (by omega)]; exact .inr ⟨_, _, _, rfl, hva⟩) (fun e => h.a.rv r e rfl)
  have ho : Only (fun b => b ∈ F) w ((w6.setCell ⟨r', 1, none⟩ vv2).setCell ⟨r, 1, none⟩ (.slice (some ⟨g2, o2, none⟩) m m)) :=
    ((h.o.andThen (Only.ofBelow (S := fun _ => False) B6) fun _ _ e => e.elim).setCell (.inr r1) vv2).setCell (.inl hr) _
  have HX := Raw.of hx8 ⟨h.a.rk, h.a.rv, h.a.rc, h.a.akv, h.a.akc, h.a.avc⟩ (fun b hb => by
    have := hfx b hb
    simp
    omega)
  have HY := Raw.of hy8 hay2 (fun b hb => by
    have := (hfy b hb).2
    simpa using this)
  exact ⟨r', foot r kv' (.slice (some ⟨g2, o2, none⟩) m m) cv, _, rfl, by simpa using HX, by simpa using HY, ho, fun b hb => (h.f b).2 hb, fun b hb => (hfy b hb).1⟩

set_option maxHeartbeats 1000000 in
set_option maxRecDepth 100000 in
theorem split_small (w : World) (r : Nat) (ks : List Key) (vs : List Rid) (cs : List Nat) (F : List Nat) (h : Raw w r ks vs cs F) (hn : max cs.length vs.length ≤ 4) :
    Calls Tryz.prog 48 #[ptr r] w fun e w' => e = .returned (.pointer none) ∧ Still w w' := by
  have HS := Lib.hid (size_any w r ks vs cs F h)
  obtain ⟨n, hn'⟩ : ∃ n, max cs.length vs.length = n := ⟨_, rfl⟩
  rw [hn'] at HS hn
  have t1 : decide ((n : Int) ≤ 4) = true := by simp; omega
  clear hn' h
  unfold ptr at HS ⊢
  go_enter Tryz.func48, Tryz.ntmps48
  go_wp2_with fail
  refine HS.out.mono ?_
  rintro e w' ⟨rfl, hst⟩
  have HST := Lib.hid hst
  clear hst
  go_wp2_with fail
  go_ret
  exact ⟨rfl, HST.out⟩

set_option maxHeartbeats 1000000 in
set_option maxRecDepth 100000 in
theorem split_great (w : World) (r : Nat) (ks : List Key) (vs : List Rid) (cs : List Nat) (F : List Nat) (n : Nat) (h : Raw w r ks vs cs F) (hn : max cs.length vs.length = n) (hk : ks.length = n) (h4 : 4 < n) (hs : n ≤ 100) (he : cs = [] ∨ vs = []) :
    Calls Tryz.prog 48 #[ptr r] w (SplitPost w r ks vs cs F (n / 2)) := by
  have HS := Lib.hid (fun w' (hst : Still w w') => size_any w' r ks vs cs F (h.still hst))
  rw [hn] at HS
  have t1 : decide ((n : Int) ≤ 4) = false := by simp; omega
  have H := Lib.hid h
  have HN := Lib.hid hn
  have b1 : (n : Int) / 2 = ((n / 2 : Nat) : Int) := by omega
  have b0 : (n : Int).tdiv 2 = ((n / 2 : Nat) : Int) := by rw [Int.tdiv_eq_ediv_of_nonneg (by omega)]; omega
  obtain ⟨m, hm⟩ : ∃ m, n / 2 = m := ⟨_, rfl⟩
  rw [hm] at b1 b0 ⊢
  have hmn : m < n := by omega
  have hm1 : 1 ≤ m := by omega
  clear hn h hm
  unfold ptr at HS ⊢
  go_enter Tryz.func48, Tryz.ntmps48
  go_wp2_with fail
  refine (HS.out w (Still.refl w)).mono ?_
  rintro e w1 ⟨rfl, hst1⟩
  have HST := Lib.hid hst1
  clear hst1
  go_wp2_with fail
  refine (HS.out w1 HST.out).mono ?_
  rintro e w2 ⟨rfl, hst2⟩
  have HST2 := Lib.hid (show Still w w2 from Only.trans HST.out hst2)
  clear hst2 HST HS
  obtain ⟨kv, vv, cv, hnd, hF, hd, _⟩ := H.out.still HST2.out
  obtain ⟨g, o, cap, rfl, hv⟩ := hnd.k.form (by omega)
  have c0 : w2.cell? ⟨r, 0, none⟩ = _ := hnd.cells.cell 0
  simp only [List.getElem?_cons_zero] at c0
  rw [hk] at c0
  have b2 : (m : Int) ≤ (n : Int) := by omega
  have b3 : (0 : Int) ≤ (m : Int) := by omega
  have hcapn : n ≤ cap := by have := hv.le; omega
  have b4 : ¬ (cap = m) := by omega
  have hcut := hv.cut m n cap (by omega) (by omega) hcapn (Nat.le_refl _)
  rw [cutAddr_eq _ _ _ _ _ b4] at hcut
  have HK := Lib.hid (clone_s _ _ _ w2 hcut.reads (fun u hu => kcells_one ks u (List.mem_of_mem_drop (List.mem_of_mem_take hu))) (by omega))
  simp only [Nat.mul_one] at HK
  have HND := Lib.hid hnd
  have HD := Lib.hid (And.intro hF hd)
  clear hnd hv hcut hF hd
  go_wp2_with fail
  refine HK.out.mono ?_
  rintro e w3 ⟨kv2, rfl, hk2, hb3, hf3⟩
  have hk2' := hk2.form'
  obtain ⟨ka, kc, rfl⟩ := hk2'
  have hlt2 : ∀ b ∈ F, b < w2.heap.size := fun b hb => Nat.lt_of_lt_of_le (H.out.lt b hb) HST2.out.size
  have hnd2 := HND.out
  have hA := foot_nodup.1 (HD.out.1 ▸ HD.out.2)
  have hnd3 : NodeAt w3 r (.slice (some ⟨g, o, none⟩) ks.length cap) vv cv ks vs cs := hnd2.only (Only.ofBelow (S := fun _ => False) hb3) fun _ _ e => e
  have hrF : r ∈ F := H.out.self
  have hrr : ¬ (r = w3.heap.size) := by have := hlt2 r hrF; have := hb3.size; omega
  have hmid : ∀ tt, Mid w r w3.heap.size (.slice (some ⟨g, o, none⟩) m m) vv cv (.slice ka (n - m) kc) ks vs cs F m ((w3.alloc (.cells #[.slice ka (n - m) kc, .slice none 0 0, .slice none 0 0] tt)).setCell ⟨r, 0, none⟩ (.slice (some ⟨g, o, none⟩) m m)) := fun tt => by
    have hFm : ∀ b, b ∈ F ↔ b ∈ foot r (.slice (some ⟨g, o, none⟩) m m) vv cv := fun b => by rw [HD.out.1]; exact Iff.rfl
    have hs3 := hb3.size
    have hs2 := HST2.out.size
    have hk3 : Vec w3 1 (.slice ka (n - m) kc) (ks.drop m).length (kcells (ks.drop m)) := by
      have e : (List.drop (m * 1) (kcells ks)).take ((n - m) * 1) = kcells (ks.drop m) := by rw [List.take_of_length_le (by simp [kcells, hk])]; simp [kcells]
      rw [← e, List.length_drop, hk]
      simpa using hk2
    have hkk := (hnd3.alloc (.cells #[.slice ka (n - m) kc, .slice none 0 0, .slice none 0 0] tt)).k
    have hva := hkk.at.head m (by omega)
    rw [show (kcells ks).take (m * 1) = kcells (ks.take m) by simp [kcells]] at hva
    have hnw := (NodeAt.new (w := w3) tt hk3).setOther (p := ⟨r, 0, none⟩) (fun e => by
      rcases mem_foot.1 e with e | e | e | e
      · exact hrr e
      · have := (hf3 r e).1; have := hlt2 r hrF; omega
      · cases e
      · cases e) (.slice (some ⟨g, o, none⟩) m m)
    refine ⟨(hnd3.alloc _).setK hA (by rw [List.length_take, hk, Nat.min_eq_left (by omega)]; exact .inr ⟨_, _, _, rfl, hva⟩) (fun e => hA.rk r e rfl), hnw, ⟨hA.rk, hA.rv, hA.rc, hA.akv, hA.akc, hA.avc⟩, hFm, H.out.lt, by omega, by simp, fun b hb => ?_, ?_⟩
    · have := hf3 b hb
      omega
    · exact (((HST2.out.only).andThen (Only.ofBelow (S := fun _ => False) hb3) fun _ _ e => e.elim).alloc _).setCell (.inl hrF) _
  have c03 : ∀ ob, (w3.alloc ob).cell? ⟨r, 0, none⟩ = some (.slice (some ⟨g, o, none⟩) n cap) := fun ob => by rw [← hk]; exact (hnd3.cells.alloc ob).cell 0
  have c13 : ∀ ob, (w3.alloc ob).cell? ⟨r, 1, none⟩ = some vv := fun ob => (hnd3.cells.alloc ob).cell 1
  have c23 : ∀ ob, (w3.alloc ob).cell? ⟨r, 2, none⟩ = some cv := fun ob => (hnd3.cells.alloc ob).cell 2
  have f03 : ∀ ob, (w3.alloc ob).frozen? ⟨r, 0, none⟩ = false := fun ob => (hnd3.cells.alloc ob).free 0
  have HM := Lib.hid hmid
  have hvv := hnd3.v
  have hcv := hnd3.c
  clear hk2 hb3 hf3 hnd3 hnd2 c0 HK HND hlt2 hmid
  by_cases hcs : cs = []
  · have hcn : vs.length = n := by have := HN.out; rw [hcs] at this; simpa using this
    rw [hcn] at hvv
    obtain ⟨g2, o2, cap2, rfl, hcv'⟩ := hvv.form (by omega)
    have hcv0 := hcv
    rw [hcs] at hcv0
    obtain ⟨ca, cc, rfl⟩ := hcv0.form'
    clear hcv0
    have t3 : ¬ (cap2 = m) := by have := hcv'.le; omega
    have HCL := Lib.hid hcv'.le
    have t4 : (m : Int) ≤ (cap2 : Int) := by have := hcv'.le; omega
    clear hcv hcv' hvv
    go_wp2_with fail
    have HMt := HM.out 94
    generalize hW5 : (w3.alloc _).setCell _ _ = W5 at HMt ⊢
    have hat := HMt.x.v
    rw [hcn] at hat
    have hcut := hat.at.cut m n cap2 (by omega) (by omega) HCL.out (Nat.le_refl _)
    rw [cutAddr_eq _ _ _ _ _ t3] at hcut
    have HK := Lib.hid (clone_r _ _ _ W5 hcut.reads (fun u hu => rcells_one vs u (List.mem_of_mem_drop (List.mem_of_mem_take hu))) (by omega))
    skip
    clear hat hcut
    refine HK.out.mono ?_
    rintro e w6 ⟨cv2, rfl, hv2, hb6, hf6⟩
    have d2 : w6.cell? ⟨w3.heap.size, 1, none⟩ = some (.slice none 0 0) := (hb6.cell HMt.r2).trans (HMt.y.cells.cell 1)
    have d3 : w6.frozen? ⟨w3.heap.size, 1, none⟩ = false := (hb6.frozen HMt.r2).trans (HMt.y.cells.free 1)
    have hrW : r < W5.heap.size := lt_of_cell (HMt.x.cells.cell 1)
    have d4 : w6.cell? ⟨r, 1, none⟩ = some (.slice (some ⟨g2, o2, none⟩) n cap2) := (hb6.cell hrW).trans (HMt.x.cells.cell 1)
    have d5 : w6.frozen? ⟨r, 1, none⟩ = false := (hb6.frozen hrW).trans (HMt.x.cells.free 1)
    have F := Lib.hid (HMt.endV (vv2 := cv2) (w6 := w6) hcn hmn hcs hb6 (by
      have e : (List.drop (m * 2) (rcells vs)).take ((n - m) * 2) = rcells (vs.drop m) := by rw [rcells_drop, List.take_of_length_le (by rw [rcells_length, List.length_drop, hcn]; omega)]
      rw [← e]
      simpa using hv2) hf6)
    have hrr' : ¬ (w3.heap.size = r) := fun e => hrr e.symm
    obtain ⟨ka2, kc2, rfl⟩ := hv2.form'
    clear hb6 hf6 hv2 HMt HK hW5
    go_wp2_with fail
    go_ret
    exact F.out
  · have hvs : vs = [] := he.resolve_left hcs
    have hcn : cs.length = n := by have := HN.out; rw [hvs] at this; simpa using this
    rw [hcn] at hcv
    obtain ⟨g2, o2, cap2, rfl, hcv'⟩ := hcv.form (by omega)
    have t2 : decide (0 < n) = true := by simp; omega
    have t3 : ¬ (cap2 = m) := by have := hcv'.le; omega
    have HCL := Lib.hid hcv'.le
    have t4 : (m : Int) ≤ (cap2 : Int) := by have := hcv'.le; omega
    clear hcv hcv' hvv
    go_wp2_with fail
    have HMt := HM.out 94
    generalize hW5 : (w3.alloc _).setCell _ _ = W5 at HMt ⊢
    have hat := HMt.x.c
    rw [hcn] at hat
    have hcut := hat.at.cut m n cap2 (by omega) (by omega) HCL.out (Nat.le_refl _)
    rw [cutAddr_eq _ _ _ _ _ t3] at hcut
    have HK := Lib.hid (clone_n _ _ _ W5 hcut.reads (fun u hu => pcells_one cs u (List.mem_of_mem_drop (List.mem_of_mem_take hu))) (by omega))
    simp only [Nat.mul_one] at HK
    clear hat hcut
    refine HK.out.mono ?_
    rintro e w6 ⟨cv2, rfl, hv2, hb6, hf6⟩
    have d2 : w6.cell? ⟨w3.heap.size, 2, none⟩ = some (.slice none 0 0) := (hb6.cell HMt.r2).trans (HMt.y.cells.cell 2)
    have d3 : w6.frozen? ⟨w3.heap.size, 2, none⟩ = false := (hb6.frozen HMt.r2).trans (HMt.y.cells.free 2)
    have hrW : r < W5.heap.size := lt_of_cell (HMt.x.cells.cell 2)
    have d4 : w6.cell? ⟨r, 2, none⟩ = some (.slice (some ⟨g2, o2, none⟩) n cap2) := (hb6.cell hrW).trans (HMt.x.cells.cell 2)
    have d5 : w6.frozen? ⟨r, 2, none⟩ = false := (hb6.frozen hrW).trans (HMt.x.cells.free 2)
    have F := Lib.hid (HMt.endC (cv2 := cv2) (w6 := w6) hcn hmn hvs hb6 (by
      have e : (List.drop (m * 1) (pcells cs)).take ((n - m) * 1) = pcells (cs.drop m) := by rw [List.take_of_length_le (by simp [pcells, hcn])]; simp [pcells]
      rw [← e]
      simpa using hv2) hf6)
    have hrr' : ¬ (w3.heap.size = r) := fun e => hrr e.symm
    obtain ⟨ka2, kc2, rfl⟩ := hv2.form'
    clear hb6 hf6 hv2 HMt HK hW5
    go_wp2_with fail
    go_ret
    exact F.out
end Go.Proofs.YtedfijmaeoednaaGreatDoor

namespace Go.Proofs.YtedfijmaeoednaaGreatDoor
open Go.RowKit Go.Wh

def SplitAt (d : Nat) (w : World) (r : Nat) (l : Nd d) (F : List Nat) (e : Ending) (w' : World) : Prop :=
  ∃ r' F1 F2, e = .returned (ptr r') ∧ At d w' r (l.take (l.length / 2)) F1 ∧ At d w' r' (l.drop (l.length / 2)) F2 ∧ Only (fun b => b ∈ F) w w' ∧ (F1 ++ F2).Nodup ∧ ∀ b ∈ F1 ++ F2, b ∈ F ∨ w.heap.size ≤ b

theorem apart_new {F1 F2 : List Nat} {N : Nat} (h1 : F1.Nodup) (h2 : F2.Nodup) (l1 : ∀ b ∈ F1, b < N) (l2 : ∀ b ∈ F2, N ≤ b) : (F1 ++ F2).Nodup :=
  List.nodup_append.2 ⟨h1, h2, fun a ha b hb e => by have := l1 a ha; have := l2 b hb; omega⟩

theorem split_at (d : Nat) (w : World) (r : Nat) (l : Nd d) (F : List Nat) (h : At d w r l F) (h4 : 4 < l.length) (hs : l.length ≤ 100) :
    Calls Tryz.prog 48 #[ptr r] w (SplitAt d w r l F) := by
  cases d with
  | zero =>
    have hr : Raw w r (keys l) (vals l) [] F := h
    refine (split_great w r _ _ _ F l.length hr ((Nat.zero_max _).trans (vals_length _)) (keys_length _) h4 hs (.inl rfl)).mono ?_
    rintro e w' ⟨r', F1, F2, rfl, h1, h2, ho, hf1, hf2⟩
    rw [List.take_nil] at h1
    rw [List.drop_nil] at h2
    have e1 : Raw w' r (keys (l.take (l.length / 2))) (vals (l.take (l.length / 2))) [] F1 := by
      rw [← keys_take, ← vals_take]; exact h1
    have e2 : Raw w' r' (keys (l.drop (l.length / 2))) (vals (l.drop (l.length / 2))) [] F2 := by
      rw [← keys_drop, ← vals_drop]; exact h2
    refine ⟨r', F1, F2, rfl, e1, e2, ho, apart_new h1.nodup h2.nodup (fun b hb => hr.lt b (hf1 b hb)) hf2, fun b hb => ?_⟩
    exact (List.mem_append.1 hb).imp (hf1 b) (hf2 b)
  | succ d =>
    obtain ⟨rs, F0, Fs, hr, hk, hF, hd⟩ := h
    have hlen : rs.length = l.length := hk.lenR.trans (subs_length _)
    refine (split_great w r _ _ _ F0 l.length hr ((Nat.max_zero _).trans hlen) (keys_length _) h4 hs (.inr rfl)).mono ?_
    rintro e w' ⟨r', F1, F2, rfl, h1, h2, ho, hf1, hf2⟩
    rw [List.take_nil] at h1
    rw [List.drop_nil] at h2
    subst hF
    have hd' := List.nodup_append.1 hd
    have hk' : Sons (At d w') rs (subs l) Fs := hk.imp fun r a f hf h => h.only ho fun b hb hb0 => hd'.2.2 b hb0 b (List.mem_flatten.2 ⟨f, hf, hb⟩) rfl
    have hFl : ∀ b ∈ Fs.flatten, b < w.heap.size := fun b hb => by
      obtain ⟨f, hf, hbf⟩ := List.mem_flatten.1 hb
      exact hk.all (P := fun f => ∀ b ∈ f, b < w.heap.size) (fun _ _ _ h => At.lt h) f hf b hbf
    have hml : subs l = subs (l.take (l.length / 2)) ++ subs (l.drop (l.length / 2)) := by rw [← subs_append, List.take_append_drop]
    rw [hml] at hk'
    obtain ⟨r1, r2, f1, f2, rfl, rfl, k1, k2⟩ := hk'.part
    have l1 : r1.length = l.length / 2 := by
      have := k1.lenR
      rw [subs_length, List.length_take] at this
      omega
    rw [List.take_left' l1] at h1
    rw [List.drop_left' l1] at h2
    rw [keys_take] at h1
    rw [keys_drop] at h2
    rw [List.flatten_append] at hd hd' hFl
    have n1 := List.nodup_append.1 hd'.2.1
    have m1 : (F1 ++ f1.flatten).Nodup := List.nodup_append.2 ⟨h1.nodup, n1.1, fun a ha b hb => hd'.2.2 a (hf1 a ha) b (by simp only [List.mem_append]; exact .inl hb)⟩
    have m2 : (F2 ++ f2.flatten).Nodup := List.nodup_append.2 ⟨h2.nodup, n1.2.1, fun a ha b hb e => by
      have := hf2 a ha
      have := hFl b (by simp only [List.mem_append]; exact .inr hb)
      omega⟩
    refine ⟨r', F1 ++ f1.flatten, F2 ++ f2.flatten, rfl, ⟨r1, F1, f1, h1, k1, rfl, m1⟩, ⟨r2, F2, f2, h2, k2, rfl, m2⟩, ho.mono fun b hb => List.mem_append_left _ hb, List.nodup_append.2 ⟨m1, m2, fun a ha b hb e => ?_⟩, fun b hb => ?_⟩
    · subst e
      rcases List.mem_append.1 ha with ha | ha <;> rcases List.mem_append.1 hb with hb | hb
      · have := hr.lt a (hf1 a ha); have := hf2 a hb; omega
      · exact hd'.2.2 a (hf1 a ha) a (by simp only [List.mem_append]; exact .inr hb) rfl
      · have := hFl a (by simp only [List.mem_append]; exact .inl ha); have := hf2 a hb; omega
      · exact n1.2.2 a ha a hb rfl
    · rw [List.flatten_append]
      simp only [List.mem_append] at hb ⊢
      rcases hb with (hb | hb) | (hb | hb)
      · exact .inl (.inl (hf1 b hb))
      · exact .inl (.inr (.inl hb))
      · exact .inr (hf2 b hb)
      · exact .inl (.inr (.inr hb))

theorem split_at_small (d : Nat) (w : World) (r : Nat) (l : Nd d) (F : List Nat) (h : At d w r l F) (h4 : l.length ≤ 4) :
    Calls Tryz.prog 48 #[ptr r] w fun e w' => e = .returned (.pointer none) ∧ Still w w' := by
  obtain ⟨vs, cs, F0, hr, hm, _, _⟩ := h.raw
  exact split_small w r _ vs cs F0 hr (by omega)
end Go.Proofs.YtedfijmaeoednaaGreatDoor

namespace Go.Wh

section
variable {P : Program} {ops : Array Oper} {Q : Exit → Act → World → Prop} {md : Region.Mode} {S : World → Prop} {D : Nat → Bool}

/-- Whatever order is picked from here on, and S holds behind every operation that is carried out, but for those of D. -/
def wpAnyD (P : Program) (md : Region.Mode) (ops : Array Oper) (Q : Exit → Act → World → Prop) (S : World → Prop) (D : Nat → Bool) : Nat → Array Bool → Act → World → Prop
  | 0, listed, a, w => Region.ready md ops listed = [] ∧ Q .normal a w
  | fuel + 1, listed, a, w =>
    (Region.ready md ops listed = [] → Q .normal a w) ∧
    ∀ i ∈ Region.ready md ops listed, wpOp P ops Q i (fun a' w' => (D i = false → S w') ∧ wpAnyD P md ops Q S D fuel (listed.setIfInBounds i true) a' w') a w

theorem wpAny_of_D : ∀ (fuel : Nat) (listed : Array Bool) (a : Act) (w : World), wpAnyD P md ops Q S D fuel listed a w → wpAny P md ops Q fuel listed a w
  | 0, _, _, _, h => h
  | fuel + 1, _, _, _, h => ⟨h.1, fun i hi => wpOp_mono (fun a' w' h' => wpAny_of_D fuel _ a' w' h'.2) (h.2 i hi)⟩

/-- What is listed has all listed that it waits for. -/
def Closed (md : Region.Mode) (ops : Array Oper) (listed : Array Bool) : Prop := ∀ k ok, ops[k]? = some ok → listed.getD k true = true → ∀ e ∈ ok.after, Region.binds md e = true → listed.getD e.on false = true

/-- Does j wait for i, straight or through others? -/
def waitsFor (md : Region.Mode) (ops : Array Oper) : Nat → Nat → Nat → Bool
  | 0, _, _ => false
  | f + 1, j, i => match ops[j]? with
    | some oj => oj.after.any fun e => Region.binds md e && (e.on == i || waitsFor md ops f e.on i)
    | none => false

theorem waitsFor_listed {listed : Array Bool} (hc : Closed md ops listed) : ∀ (f j i : Nat), waitsFor md ops f j i = true → (∀ oj, ops[j]? = some oj → ∀ e ∈ oj.after, Region.binds md e = true → listed.getD e.on false = true) → listed.getD i false = true
  | 0, _, _, h, _ => by simp [waitsFor] at h
  | f + 1, j, i, h, hall => by
    unfold waitsFor at h
    cases hj : ops[j]? with
    | none => simp [hj] at h
    | some oj =>
      simp only [hj] at h
      obtain ⟨e, he, hb⟩ := Array.any_eq_true'.1 h
      simp only [Bool.and_eq_true, Bool.or_eq_true, beq_iff_eq] at hb
      have h1 := hall oj hj e he hb.1
      rcases hb.2 with h2 | h2
      · rw [← h2]; exact h1
      · refine waitsFor_listed hc f e.on i h2 fun ok hk e' he' hb' => hc e.on ok hk ?_ e' he' hb'
        have hlt : e.on < listed.size := by
          rcases Nat.lt_or_ge e.on listed.size with h' | h'
          · exact h'
          · simp [Array.getElem?_eq_none h'] at h1
        simpa [hlt] using h1

theorem Closed.set {listed : Array Bool} {i : Nat} (hc : Closed md ops listed) (hr : i ∈ Region.ready md ops listed) : Closed md ops (listed.setIfInBounds i true) := by
  intro k ok hk hl e he hb
  by_cases hki : i = k
  · subst hki
    obtain ⟨_, o, ho, hall⟩ := mem_ready.1 hr
    rw [ho] at hk
    cases hk
    exact getD_set_true (hall e he hb)
  · rw [getD_set_ne true hki] at hl
    exact getD_set_true (hc k ok hk hl e he hb)

theorem wpAnyD_first {i : Nat} {oi : Oper} {v : Value} (hi : ops[i]? = some oi) (hsel : ∀ (j : Nat) (o : Oper) cs b, ops[j]? = some o → o.op ≠ .select cs b)
    (hQ : ∀ c a w, Q (.panic c) (a.put oi.dst v) w → Q (.panic c) a w) :
    ∀ (fuel : Nat) (listed : Array Bool) (a : Act) (w : World),
      (∀ j oj, ops[j]? = some oj → j ≠ i → listed.getD j true = false → (∀ e ∈ oj.after, Region.binds md e = true → e.on ≠ i) → oi.apart ops oj = true) →
      (∀ j oj, ops[j]? = some oj → D j = true → listed.getD j true = false → ∃ f, waitsFor md ops f j i = true) → Closed md ops listed →
      i ∈ Region.ready md ops listed → YieldsIf P ops S oi v a → S w →
      wpAnyD P md ops Q S D fuel (listed.setIfInBounds i true) (a.put oi.dst v) w → wpAnyD P md ops Q S D (fuel + 1) listed a w := by
  intro fuel
  induction fuel with
  | zero =>
    intro listed a w _ _ _ hr hy hS H
    refine ⟨fun h => (by rw [h] at hr; cases hr), fun j hj => ?_⟩
    by_cases hji : j = i
    · subst hji; exact hy.wpOp hi hS ⟨fun _ => hS, H⟩
    · have := ready_mono hj hji
      rw [H.1] at this
      cases this
  | succ fuel ih =>
    intro listed a w hfree hD hcl hr hy hS H
    refine ⟨fun h => (by rw [h] at hr; cases hr), fun j hj => ?_⟩
    by_cases hji : j = i
    · subst hji; exact hy.wpOp hi hS ⟨fun _ => hS, H⟩
    · have h1 := H.2 j (ready_mono hj hji)
      obtain ⟨hjun, oj, hoj, hall⟩ := mem_ready.1 hj
      have h0 := (mem_ready.1 hr).1
      have hno : ∀ e, listed.getD e false = true → e ≠ i := fun e h1 heq => by
        rw [heq] at h1
        rcases Nat.lt_or_ge i listed.size with h' | h'
        · simp [h'] at h0 h1; rw [h0] at h1; cases h1
        · simp [Array.getElem?_eq_none h'] at h1
      have hnot : ∀ e ∈ oj.after, Region.binds md e = true → e.on ≠ i := fun e he hb => hno e.on (hall e he hb)
      have hDj : D j = false := by
        cases hd : D j with
        | false => rfl
        | true =>
          obtain ⟨f, hf⟩ := hD j oj hoj hd hjun
          exact absurd rfl (hno i (waitsFor_listed hcl f j i hf fun ok hk => by rw [hoj] at hk; cases hk; exact hall))
      have h2 := wpOp_putIf hoj (hfree j oj hoj hji hjun hnot) (fun cs b => hsel i oi cs b hi) (fun cs b => hsel j oj cs b hoj) hQ hy h1
      have hfree' : ∀ k ok, ops[k]? = some ok → k ≠ i → (listed.setIfInBounds j true).getD k true = false →
          (∀ e ∈ ok.after, Region.binds md e = true → e.on ≠ i) → oi.apart ops ok = true := fun k ok hk hki hun hno => by
        refine hfree k ok hk hki ?_ hno
        by_cases hjk : j = k
        · subst hjk; exact hjun
        · rw [getD_set_ne true hjk] at hun; exact hun
      have hD' : ∀ k ok, ops[k]? = some ok → D k = true → (listed.setIfInBounds j true).getD k true = false → ∃ f, waitsFor md ops f k i = true := fun k ok hk hd hun => by
        refine hD k ok hk hd ?_
        by_cases hjk : j = k
        · subst hjk; exact hjun
        · rw [getD_set_ne true hjk] at hun; exact hun
      refine wpOp_mono (fun a' w' h3 => ⟨h3.2.1, ih (listed.setIfInBounds j true) a' w' hfree' hD' (hcl.set hj) (ready_mono hr (Ne.symm hji)) h3.1 (h3.2.1 hDj) ?_⟩) h2
      rw [Array.setIfInBounds_comm _ _ hji]
      exact h3.2.2

/-- What yields in whatever world may be taken first without a word of S. -/
theorem wpAnyD_firstY {i : Nat} {oi : Oper} {v : Value} (hi : ops[i]? = some oi) (hsel : ∀ (j : Nat) (o : Oper) cs b, ops[j]? = some o → o.op ≠ .select cs b)
    (hQ : ∀ c a w, Q (.panic c) (a.put oi.dst v) w → Q (.panic c) a w) :
    ∀ (fuel : Nat) (listed : Array Bool) (a : Act) (w : World),
      (∀ j oj, ops[j]? = some oj → j ≠ i → listed.getD j true = false → (∀ e ∈ oj.after, Region.binds md e = true → e.on ≠ i) → oi.apart ops oj = true) →
      i ∈ Region.ready md ops listed → Yields P ops oi v a → D i = true →
      wpAnyD P md ops Q S D fuel (listed.setIfInBounds i true) (a.put oi.dst v) w → wpAnyD P md ops Q S D (fuel + 1) listed a w := by
  intro fuel
  induction fuel with
  | zero =>
    intro listed a w _ hr hy hS H
    refine ⟨fun h => (by rw [h] at hr; cases hr), fun j hj => ?_⟩
    by_cases hji : j = i
    · subst hji; exact hy.wpOp hi ⟨fun e => (by rw [hS] at e; cases e), H⟩
    · have := ready_mono hj hji
      rw [H.1] at this
      cases this
  | succ fuel ih =>
    intro listed a w hfree hr hy hS H
    refine ⟨fun h => (by rw [h] at hr; cases hr), fun j hj => ?_⟩
    by_cases hji : j = i
    · subst hji; exact hy.wpOp hi ⟨fun e => (by rw [hS] at e; cases e), H⟩
    · have h1 := H.2 j (ready_mono hj hji)
      obtain ⟨hjun, oj, hoj, hall⟩ := mem_ready.1 hj
      have hnot : ∀ e ∈ oj.after, Region.binds md e = true → e.on ≠ i := fun e he hb heq => by
        have h1 := hall e he hb
        have h0 := (mem_ready.1 hr).1
        rw [heq] at h1
        rcases Nat.lt_or_ge i listed.size with h' | h'
        · simp [h'] at h0 h1; rw [h0] at h1; cases h1
        · simp [Array.getElem?_eq_none h'] at h1
      have h2 := wpOp_put hoj (hfree j oj hoj hji hjun hnot) (fun cs b => hsel i oi cs b hi) (fun cs b => hsel j oj cs b hoj) hQ hy h1
      have hfree' : ∀ k ok, ops[k]? = some ok → k ≠ i → (listed.setIfInBounds j true).getD k true = false →
          (∀ e ∈ ok.after, Region.binds md e = true → e.on ≠ i) → oi.apart ops ok = true := fun k ok hk hki hun hno => by
        refine hfree k ok hk hki ?_ hno
        by_cases hjk : j = k
        · subst hjk; exact hjun
        · rw [getD_set_ne true hjk] at hun; exact hun
      refine wpOp_mono (fun a' w' h3 => ⟨h3.2.1, ih (listed.setIfInBounds j true) a' w' hfree' (ready_mono hr (Ne.symm hji)) h3.1 hS ?_⟩) h2
      rw [Array.setIfInBounds_comm _ _ hji]
      exact h3.2.2

/-- The two side conditions, to be reckoned. -/
def waitsAll (md : Region.Mode) (ops : Array Oper) (D : Nat → Bool) (listed : Array Bool) (i : Nat) : Bool :=
  (List.range ops.size).all fun j => !D j || listed.getD j true || waitsFor md ops 5 j i
def closedB (md : Region.Mode) (ops : Array Oper) (listed : Array Bool) : Bool :=
  (List.range ops.size).all fun k => !listed.getD k true || match ops[k]? with
    | some ok => ok.after.all fun e => !Region.binds md e || listed.getD e.on false
    | none => true

theorem waitsAll_spec {listed : Array Bool} {i : Nat} (h : waitsAll md ops D listed i = true) (j : Nat) (oj : Oper) (hj : ops[j]? = some oj) (hd : D j = true) (hl : listed.getD j true = false) : ∃ f, waitsFor md ops f j i = true := by
  simp only [waitsAll, List.all_eq_true, List.mem_range] at h
  have h1 := h j (Array.getElem?_eq_some_iff.1 hj).1
  simp only [hd, hl, Bool.not_true, Bool.false_or] at h1
  exact ⟨5, h1⟩
theorem closedB_spec {listed : Array Bool} (h : closedB md ops listed = true) : Closed md ops listed := by
  intro k ok hk hl e he hb
  simp only [closedB, List.all_eq_true, List.mem_range] at h
  have h1 := h k (Array.getElem?_eq_some_iff.1 hk).1
  simp only [hl, hk, Bool.not_true, Bool.false_or] at h1
  have h2 := Array.all_eq_true'.1 h1 e he
  simpa [hb] using h2

theorem wpAnyD_take {i : Nat} {oi : Oper} {v : Value} {fuel : Nat} {listed : Array Bool} {a : Act} {w : World} (hi : ops[i]? = some oi)
    (hs : Region.noSelect ops = true) (hf : Region.free md ops listed i = true) (hr : (Region.ready md ops listed).contains i = true) (hw : waitsAll md ops D listed i = true) (hc : closedB md ops listed = true)
    (hQ : ∀ c a w, Q (.panic c) (a.put oi.dst v) w → Q (.panic c) a w) (hy : YieldsIf P ops S oi v a) (hS : S w)
    (h : wpAnyD P md ops Q S D fuel (listed.setIfInBounds i true) (a.put oi.dst v) w) : wpAnyD P md ops Q S D (fuel + 1) listed a w :=
  wpAnyD_first hi (Region.noSelect_spec hs) hQ fuel listed a w (Region.free_spec hi hf) (waitsAll_spec hw) (closedB_spec hc) (by simpa using hr) hy hS h

theorem wpAnyD_takeY {i : Nat} {oi : Oper} {v : Value} {fuel : Nat} {listed : Array Bool} {a : Act} {w : World} (hi : ops[i]? = some oi)
    (hs : Region.noSelect ops = true) (hf : Region.free md ops listed i = true) (hr : (Region.ready md ops listed).contains i = true) (hd : D i = true)
    (hQ : ∀ c a w, Q (.panic c) (a.put oi.dst v) w → Q (.panic c) a w) (hy : Yields P ops oi v a)
    (h : wpAnyD P md ops Q S D fuel (listed.setIfInBounds i true) (a.put oi.dst v) w) : wpAnyD P md ops Q S D (fuel + 1) listed a w :=
  wpAnyD_firstY hi (Region.noSelect_spec hs) hQ fuel listed a w (Region.free_spec hi hf) (by simpa using hr) hy hd h

theorem wpAnyD_all {rs : List Nat} {fuel : Nat} {listed : Array Bool} {a : Act} {w : World} (hr : Region.ready md ops listed = rs) (hne : rs ≠ [])
    (h : ∀ i ∈ rs, wpOp P ops Q i (fun a' w' => (D i = false → S w') ∧ wpAnyD P md ops Q S D fuel (listed.setIfInBounds i true) a' w') a w) : wpAnyD P md ops Q S D (fuel + 1) listed a w :=
  ⟨fun h0 => absurd (hr ▸ h0) hne, hr ▸ h⟩

theorem wpAnyD_done {listed : Array Bool} {a : Act} {w : World} (hr : Region.ready md ops listed = []) (h : Q .normal a w) :
    ∀ fuel, wpAnyD P md ops Q S D fuel listed a w
  | 0 => ⟨hr, h⟩
  | _ + 1 => ⟨fun _ => h, by rw [hr]; simp⟩

theorem wp_region_D {id : Nat} {a : Act} {w : World} (hm : P.follows .mixedOrders = true)
    (h : wpAnyD P .any ops Q S D ops.size (Array.replicate ops.size false) a { w with drawn := w.drawn + 1 }) : (Code.region id ops true).wp P Q a w :=
  wp_region_any hm (wpAny_of_D _ _ _ _ h)

/-- All that may come up next. -/
def ReadyD (P : Program) (md : Region.Mode) (ops : Array Oper) (Q : Exit → Act → World → Prop) (S : World → Prop) (D : Nat → Bool) (fuel : Nat) (listed : Array Bool) (a : Act) (w : World) (rs : List Nat) : Prop :=
  ∀ i ∈ rs, wpOp P ops Q i (fun a' w' => (D i = false → S w') ∧ wpAnyD P md ops Q S D fuel (listed.setIfInBounds i true) a' w') a w

theorem ReadyD.nil {fuel : Nat} {listed : Array Bool} {a : Act} {w : World} : ReadyD P md ops Q S D fuel listed a w [] := fun _ h => by cases h
theorem ReadyD.cons {fuel : Nat} {listed : Array Bool} {a : Act} {w : World} {i : Nat} {o : Oper} {rs : List Nat} (ho : ops[i]? = some o)
    (h : ∀ K' : Act → World → Prop, Shut (∀ a w, S w → (S w → wpAnyD P md ops Q S D fuel (listed.setIfInBounds i true) a w) → K' a w) → if Region.wanted o (yielded ops a.tmps) = true then Oper.wp P o a w K' Q else K' (a.put o.dst undef) w)
    (hs : ReadyD P md ops Q S D fuel listed a w rs) : ReadyD P md ops Q S D fuel listed a w (i :: rs) := fun j hj => by
  rcases List.mem_cons.1 hj with rfl | hj
  · exact wpOp_step ho (fun K' hK => h K' (fun a w hS hW => hK a w ⟨fun _ => hS, hW hS⟩))
  · exact hs j hj
theorem ReadyD.last {fuel : Nat} {listed : Array Bool} {a : Act} {w : World} {i : Nat} {o : Oper} {rs : List Nat} (ho : ops[i]? = some o) (hd : D i = true)
    (h : ∀ K' : Act → World → Prop, Shut (∀ a w, wpAnyD P md ops Q S D fuel (listed.setIfInBounds i true) a w → K' a w) → if Region.wanted o (yielded ops a.tmps) = true then Oper.wp P o a w K' Q else K' (a.put o.dst undef) w)
    (hs : ReadyD P md ops Q S D fuel listed a w rs) : ReadyD P md ops Q S D fuel listed a w (i :: rs) := fun j hj => by
  rcases List.mem_cons.1 hj with rfl | hj
  · exact wpOp_step ho (fun K' hK => h K' (fun a w hW => hK a w ⟨fun e => (by rw [hd] at e; cases e), hW⟩))
  · exact hs j hj
theorem wpAnyD_ready {rs : List Nat} {fuel : Nat} {listed : Array Bool} {a : Act} {w : World} (hr : Region.ready md ops listed = rs) (hne : rs ≠ [])
    (h : ReadyD P md ops Q S D fuel listed a w rs) : wpAnyD P md ops Q S D (fuel + 1) listed a w := wpAnyD_all hr hne h
theorem wp_region_D_drew {id : Nat} {a : Act} {w : World} (hm : P.follows .mixedOrders = true) (hS : S w.drew)
    (h : S w.drew → wpAnyD P .any ops Q S D ops.size (Array.replicate ops.size false) a w.drew) : (Code.region id ops true).wp P Q a w :=
  wp_region_D hm (h hS)
end

/-- All that is asked of an operation that is taken first. -/
def okTake (md : Region.Mode) (ops : Array Oper) (D : Nat → Bool) (listed : Array Bool) (i : Nat) : Bool :=
  Region.noSelect ops && Region.free md ops listed i && (Region.ready md ops listed).contains i && (D i || (waitsAll md ops D listed i && closedB md ops listed))

section
variable {P : Program} {ops : Array Oper} {Q : Exit → Act → World → Prop} {md : Region.Mode} {S : World → Prop} {D : Nat → Bool}
theorem takeD {i : Nat} (d : Option Tmp) {oi : Oper} {v : Value} {fuel : Nat} {listed : Array Bool} {a : Act} {w : World} (hi : ops[i]? = some oi) (hd : oi.dst = d) (hD : D i = true) (hok : okTake md ops D listed i = true) (hw : Region.wanted oi (yielded ops a.tmps) = true)
    (hQ : ∀ c a w, Q (.panic c) (a.put oi.dst v) w → Q (.panic c) a w) (hy : ∀ w, (execOp a.eval oi).run P w = .ok (.value v) w)
    (h : wpAnyD P md ops Q S D fuel (listed.setIfInBounds i true) (a.put d v) w) : wpAnyD P md ops Q S D (fuel + 1) listed a w := by
  subst hd
  simp only [okTake, Bool.and_eq_true] at hok
  exact wpAnyD_takeY hi hok.1.1.1 hok.1.1.2 hok.1.2 hD hQ (.inl ⟨hw, hy⟩) h
theorem takeS {i : Nat} (d : Option Tmp) {oi : Oper} {v : Value} {fuel : Nat} {listed : Array Bool} {a : Act} {w : World} (hi : ops[i]? = some oi) (hd : oi.dst = d) (hD : D i = false) (hok : okTake md ops D listed i = true) (hw : Region.wanted oi (yielded ops a.tmps) = true)
    (hQ : ∀ c a w, Q (.panic c) (a.put oi.dst v) w → Q (.panic c) a w) (hS : S w) (hy : ∀ w, S w → (execOp a.eval oi).run P w = .ok (.value v) w)
    (h : wpAnyD P md ops Q S D fuel (listed.setIfInBounds i true) (a.put d v) w) : wpAnyD P md ops Q S D (fuel + 1) listed a w := by
  subst hd
  simp only [okTake, hD, Bool.false_or, Bool.and_eq_true] at hok
  exact wpAnyD_take hi hok.1.1.1 hok.1.1.2 hok.1.2 hok.2.1 hok.2.2 hQ (.inl ⟨hw, hy⟩) hS h
end
end Go.Wh

/- A node that is too great is parted. Conditions: a node in memory, of keys and places, or of keys and children. The second instance: a place and a second key. Parting at any level of a tree in memory. Conditions: a tree in memory. The second instance: a place and a second key. -/
import Derived.Test.YtedfijmaeoednaaGreatDoorBx12
namespace Go.Proofs.YtedfijmaeoednaaGreatDoor.Ke
open Go.RowKit Go.Wh

/-- What parting leaves. -/
def SplitPost (w : World) (r : Nat) (ks : List Key) (vs : List Rid) (cs : List Nat) (F : List Nat) (h : Nat) (e : Ending) (w' : World) : Prop :=
  ∃ r' F1 F2, e = .returned (ptr r') ∧ Raw w' r (ks.take h) (vs.take h) (cs.take h) F1 ∧ Raw w' r' (ks.drop h) (vs.drop h) (cs.drop h) F2 ∧ Only (fun b => b ∈ F) w w' ∧ (∀ b ∈ F1, b ∈ F) ∧ ∀ b ∈ F2, w.heap.size ≤ b

/-- Where the parting is at when the keys are parted. -/
structure Mid (w : World) (r r' : Nat) (kv' vv cv kv2 : Value) (ks : List Key) (vs : List Rid) (cs : List Nat) (F : List Nat) (m : Nat) (W : World) : Prop where
  x : NodeAt W r kv' vv cv (ks.take m) vs cs
  y : NodeAt W r' kv2 (.slice none 0 0) (.slice none 0 0) (ks.drop m) [] []
  a : Apt r kv' vv cv
  f : ∀ b, b ∈ F ↔ b ∈ foot r kv' vv cv
  lt : ∀ b ∈ F, b < w.heap.size
  r1 : w.heap.size ≤ r'
  r2 : r' < W.heap.size
  k2 : ∀ b, kv2.ownBlock = some b → w.heap.size ≤ b ∧ b < r'
  o : Only (fun b => b ∈ F) w W

theorem Mid.endC {w W w6 : World} {r r' : Nat} {kv' vv kv2 cv2 : Value} {ks : List Key} {vs : List Rid} {cs F : List Nat} {m n g2 o2 cap2 : Nat}
    (h : Mid w r r' kv' vv (.slice (some ⟨g2, o2, none⟩) n cap2) kv2 ks vs cs F m W) (hcs : cs.length = n) (hm : m < n) (hvs : vs = [])
    (B6 : Below W.heap.size W w6) (V6 : Vec w6 1 cv2 (n - m) (pcells (cs.drop m))) (f6 : ∀ b, cv2.ownBlock = some b → W.heap.size ≤ b ∧ b < w6.heap.size) :
    SplitPost w r ks vs cs F m (.returned (ptr r')) ((w6.setCell ⟨r', 2, none⟩ cv2).setCell ⟨r, 2, none⟩ (.slice (some ⟨g2, o2, none⟩) m m)) := by
  subst hvs
  have hr : r ∈ F := (h.f r).2 (mem_foot.2 (.inl rfl))
  have hrw := h.lt r hr
  have hs6 := B6.size
  have hsW := h.o.size
  have r1 := h.r1
  have r2 := h.r2
  have hx6 : NodeAt w6 r kv' vv (.slice (some ⟨g2, o2, none⟩) n cap2) (ks.take m) [] cs := h.x.only (Only.ofBelow (S := fun _ => False) B6) fun _ _ e => e
  have hy6 : NodeAt w6 r' kv2 (.slice none 0 0) (.slice none 0 0) (ks.drop m) [] [] := h.y.only (Only.ofBelow (S := fun _ => False) B6) fun _ _ e => e
  have hay : Apt r' kv2 (.slice none 0 0) (.slice none 0 0) := Apt.new fun b hb => by have := h.k2 b hb; omega
  have hay2 : Apt r' kv2 (.slice none 0 0) cv2 := Apt.newC (fun b hb => by have := h.k2 b hb; omega) (fun b hb => by have := f6 b hb; omega) (fun b hb e => by have h1 := h.k2 b hb; have h2 := f6 b e; omega)
  have hy7 : NodeAt (w6.setCell ⟨r', 2, none⟩ cv2) r' kv2 (.slice none 0 0) cv2 (ks.drop m) [] (cs.drop m) :=
    hy6.setC hay (by rw [List.length_drop, hcs]; exact V6) (fun e => by have := f6 r' e; omega)
  have hfx : ∀ b ∈ foot r kv' vv (.slice (some ⟨g2, o2, none⟩) n cap2), b < w.heap.size := fun b hb => h.lt b ((h.f b).2 hb)
  have hx7 : NodeAt (w6.setCell ⟨r', 2, none⟩ cv2) r kv' vv (.slice (some ⟨g2, o2, none⟩) n cap2) (ks.take m) [] cs := hx6.setOther (fun e => by have := hfx r' e; omega) _
  have hfy : ∀ b ∈ foot r' kv2 (.slice none 0 0) cv2, w.heap.size ≤ b ∧ b < w6.heap.size := fun b hb => by
    rcases mem_foot.1 hb with rfl | hb | hb | hb
    · exact ⟨r1, by omega⟩
    · have := h.k2 b hb; omega
    · cases hb
    · have := f6 b hb; omega
  have hy8 := hy7.setOther (p := ⟨r, 2, none⟩) (fun e => by have := (hfy r e).1; omega) (.slice (some ⟨g2, o2, none⟩) m m)
  have hcv := hx7.c
  rw [hcs] at hcv
  have hva := hcv.at.head m (by omega)
  rw [show (pcells cs).take (m * 1) = pcells (cs.take m) by simp [pcells]] at hva
  have hx8 := hx7.setC (u := .slice (some ⟨g2, o2, none⟩) m m) (cs' := cs.take m) h.a (by rw [List.length_take, hcs, Nat.min_eq_left (by omega)]; exact .inr ⟨_, _, _, rfl, hva⟩) (fun e => h.a.rc r e rfl)
  have ho : Only (fun b => b ∈ F) w ((w6.setCell ⟨r', 2, none⟩ cv2).setCell ⟨r, 2, none⟩ (.slice (some ⟨g2, o2, none⟩) m m)) :=
    ((h.o.andThen (Only.ofBelow (S := fun _ => False) B6) fun _ _ e => e.elim).setCell (.inr r1) cv2).setCell (.inl hr) _
  have HX := Raw.of hx8 ⟨h.a.rk, h.a.rv, h.a.rc, h.a.akv, h.a.akc, h.a.avc⟩ (fun b hb => by
    have := hfx b hb
    simp
    omega)
  have HY := Raw.of hy8 hay2 (fun b hb => by
    have := (hfy b hb).2
    simpa using this)
  exact ⟨r', foot r kv' vv (.slice (some ⟨g2, o2, none⟩) m m), _, rfl, by simpa using HX, by simpa using HY, ho, fun b hb => (h.f b).2 hb, fun b hb => (hfy b hb).1⟩

theorem Mid.endV {w W w6 : World} {r r' : Nat} {kv' cv kv2 vv2 : Value} {ks : List Key} {vs : List Rid} {cs F : List Nat} {m n g2 o2 cap2 : Nat}
    (h : Mid w r r' kv' (.slice (some ⟨g2, o2, none⟩) n cap2) cv kv2 ks vs cs F m W) (hcs : vs.length = n) (hm : m < n) (hvs : cs = [])
    (B6 : Below W.heap.size W w6) (V6 : Vec w6 3 vv2 (n - m) (rcells (vs.drop m))) (f6 : ∀ b, vv2.ownBlock = some b → W.heap.size ≤ b ∧ b < w6.heap.size) :
    SplitPost w r ks vs cs F m (.returned (ptr r')) ((w6.setCell ⟨r', 1, none⟩ vv2).setCell ⟨r, 1, none⟩ (.slice (some ⟨g2, o2, none⟩) m m)) := by
  subst hvs
  have hr : r ∈ F := (h.f r).2 (mem_foot.2 (.inl rfl))
  have hrw := h.lt r hr
  have hs6 := B6.size
  have hsW := h.o.size
  have r1 := h.r1
  have r2 := h.r2
  have hx6 : NodeAt w6 r kv' (.slice (some ⟨g2, o2, none⟩) n cap2) cv (ks.take m) vs [] := h.x.only (Only.ofBelow (S := fun _ => False) B6) fun _ _ e => e
  have hy6 : NodeAt w6 r' kv2 (.slice none 0 0) (.slice none 0 0) (ks.drop m) [] [] := h.y.only (Only.ofBelow (S := fun _ => False) B6) fun _ _ e => e
  have hay : Apt r' kv2 (.slice none 0 0) (.slice none 0 0) := Apt.new fun b hb => by have := h.k2 b hb; omega
  have hay2 : Apt r' kv2 vv2 (.slice none 0 0) := Apt.newV (fun b hb => by have := h.k2 b hb; omega) (fun b hb => by have := f6 b hb; omega) (fun b hb e => by have h1 := h.k2 b hb; have h2 := f6 b e; omega)
  have hy7 : NodeAt (w6.setCell ⟨r', 1, none⟩ vv2) r' kv2 vv2 (.slice none 0 0) (ks.drop m) (vs.drop m) [] :=
    hy6.setV hay (by rw [List.length_drop, hcs]; exact V6) (fun e => by have := f6 r' e; omega)
  have hfx : ∀ b ∈ foot r kv' (.slice (some ⟨g2, o2, none⟩) n cap2) cv, b < w.heap.size := fun b hb => h.lt b ((h.f b).2 hb)
  have hx7 : NodeAt (w6.setCell ⟨r', 1, none⟩ vv2) r kv' (.slice (some ⟨g2, o2, none⟩) n cap2) cv (ks.take m) vs [] := hx6.setOther (fun e => by have := hfx r' e; omega) _
  have hfy : ∀ b ∈ foot r' kv2 vv2 (.slice none 0 0), w.heap.size ≤ b ∧ b < w6.heap.size := fun b hb => by
    rcases mem_foot.1 hb with rfl | hb | hb | hb
    · exact ⟨r1, by omega⟩
    · have := h.k2 b hb; omega
    · have := f6 b hb; omega
    · cases hb
  have hy8 := hy7.setOther (p := ⟨r, 1, none⟩) (fun e => by have := (hfy r e).1; omega) (.slice (some ⟨g2, o2, none⟩) m m)
  have hcv := hx7.v
  rw [hcs] at hcv
  have hva := hcv.at.head m (by omega)
  rw [show (rcells vs).take (m * 3) = rcells (vs.take m) from rcells_take vs m] at hva
  have hx8 := hx7.setV (u := .slice (some ⟨g2, o2, none⟩) m m) (vs' := vs.take m) h.a (by rw [List.length_take, hcs, Nat.min_eq_left (by omega)]; exact .inr ⟨_, _, _, rfl, hva⟩) (fun e => h.a.rv r e rfl)
  have ho : Only (fun b => b ∈ F) w ((w6.setCell ⟨r', 1, none⟩ vv2).setCell ⟨r, 1, none⟩ (.slice (some ⟨g2, o2, none⟩) m m)) :=
    ((h.o.andThen (Only.ofBelow (S := fun _ => False) B6) fun _ _ e => e.elim).setCell (.inr r1) vv2).setCell (.inl hr) _
  have HX := Raw.of hx8 ⟨h.a.rk, h.a.rv, h.a.rc, h.a.akv, h.a.akc, h.a.avc⟩ (fun b hb => by
    have := hfx b hb
    simp
    omega)
  have HY := Raw.of hy8 hay2 (fun b hb => by
    have := (hfy b hb).2
    simpa using this)
  exact ⟨r', foot r kv' (.slice (some ⟨g2, o2, none⟩) m m) cv, _, rfl, by simpa using HX, by simpa using HY, ho, fun b hb => (h.f b).2 hb, fun b hb => (hfy b hb).1⟩

set_option maxHeartbeats 1000000 in
set_option maxRecDepth 100000 in
theorem split_small (w : World) (r : Nat) (ks : List Key) (vs : List Rid) (cs : List Nat) (F : List Nat) (h : Raw w r ks vs cs F) (hn : max cs.length vs.length ≤ 4) :
    Calls Tryz.prog 46 #[ptr r] w fun e w' => e = .returned (.pointer none) ∧ Still w w' := by
  have HS := Lib.hid (size_any w r ks vs cs F h)
  obtain ⟨n, hn'⟩ : ∃ n, max cs.length vs.length = n := ⟨_, rfl⟩
  rw [hn'] at HS hn
  have t1 : decide ((n : Int) ≤ 4) = true := by simp; omega
  clear hn' h
  unfold ptr at HS ⊢
  go_enter Tryz.func46, Tryz.ntmps46
  go_wp2_with fail
  refine HS.out.mono ?_
  rintro e w' ⟨rfl, hst⟩
  have HST := Lib.hid hst
  clear hst
  go_wp2_with fail
  go_ret
  exact ⟨rfl, HST.out⟩

set_option maxHeartbeats 1000000 in
set_option maxRecDepth 100000 in
theorem split_great (w : World) (r : Nat) (ks : List Key) (vs : List Rid) (cs : List Nat) (F : List Nat) (n : Nat) (h : Raw w r ks vs cs F) (hn : max cs.length vs.length = n) (hk : ks.length = n) (h4 : 4 < n) (hs : n ≤ 100) (he : cs = [] ∨ vs = []) :
    Calls Tryz.prog 46 #[ptr r] w (SplitPost w r ks vs cs F (n / 2)) := by
  have HS := Lib.hid (fun w' (hst : Still w w') => size_any w' r ks vs cs F (h.still hst))
  rw [hn] at HS
  have t1 : decide ((n : Int) ≤ 4) = false := by simp; omega
  have H := Lib.hid h
  have HN := Lib.hid hn
  have b1 : (n : Int) / 2 = ((n / 2 : Nat) : Int) := by omega
  have b0 : (n : Int).tdiv 2 = ((n / 2 : Nat) : Int) := by rw [Int.tdiv_eq_ediv_of_nonneg (by omega)]; omega
  obtain ⟨m, hm⟩ : ∃ m, n / 2 = m := ⟨_, rfl⟩
  rw [hm] at b1 b0 ⊢
  have hmn : m < n := by omega
  have hm1 : 1 ≤ m := by omega
  clear hn h hm
  unfold ptr at HS ⊢
  go_enter Tryz.func46, Tryz.ntmps46
  go_wp2_with fail
  refine (HS.out w (Still.refl w)).mono ?_
  rintro e w1 ⟨rfl, hst1⟩
  have HST := Lib.hid hst1
  clear hst1
  go_wp2_with fail
  refine (HS.out w1 HST.out).mono ?_
  rintro e w2 ⟨rfl, hst2⟩
  have HST2 := Lib.hid (show Still w w2 from Only.trans HST.out hst2)
  clear hst2 HST HS
  obtain ⟨kv, vv, cv, hnd, hF, hd, _⟩ := H.out.still HST2.out
  obtain ⟨g, o, cap, rfl, hv⟩ := hnd.k.form (by omega)
  have c0 : w2.cell? ⟨r, 0, none⟩ = _ := hnd.cells.cell 0
  simp only [List.getElem?_cons_zero] at c0
  rw [hk] at c0
  have b2 : (m : Int) ≤ (n : Int) := by omega
  have b3 : (0 : Int) ≤ (m : Int) := by omega
  have hcapn : n ≤ cap := by have := hv.le; omega
  have b4 : ¬ (cap = m) := by omega
  have hcut := hv.cut m n cap (by omega) (by omega) hcapn (Nat.le_refl _)
  rw [cutAddr_eq _ _ _ _ _ b4] at hcut
  have HK := Lib.hid (clone_s _ _ _ w2 hcut.reads (fun u hu => kcells_one ks u (List.mem_of_mem_drop (List.mem_of_mem_take hu))) (by omega))
  simp only [Nat.mul_one] at HK
  have HND := Lib.hid hnd
  have HD := Lib.hid (And.intro hF hd)
  clear hnd hv hcut hF hd
  go_wp2_with fail
  refine HK.out.mono ?_
  rintro e w3 ⟨kv2, rfl, hk2, hb3, hf3⟩
  have hk2' := hk2.form'
  obtain ⟨ka, kc, rfl⟩ := hk2'
  have hlt2 : ∀ b ∈ F, b < w2.heap.size := fun b hb => Nat.lt_of_lt_of_le (H.out.lt b hb) HST2.out.size
  have hnd2 := HND.out
  have hA := foot_nodup.1 (HD.out.1 ▸ HD.out.2)
  have hnd3 : NodeAt w3 r (.slice (some ⟨g, o, none⟩) ks.length cap) vv cv ks vs cs := hnd2.only (Only.ofBelow (S := fun _ => False) hb3) fun _ _ e => e
  have hrF : r ∈ F := H.out.self
  have hrr : ¬ (r = w3.heap.size) := by have := hlt2 r hrF; have := hb3.size; omega
  have hmid : ∀ tt, Mid w r w3.heap.size (.slice (some ⟨g, o, none⟩) m m) vv cv (.slice ka (n - m) kc) ks vs cs F m ((w3.alloc (.cells #[.slice ka (n - m) kc, .slice none 0 0, .slice none 0 0] tt)).setCell ⟨r, 0, none⟩ (.slice (some ⟨g, o, none⟩) m m)) := fun tt => by
    have hFm : ∀ b, b ∈ F ↔ b ∈ foot r (.slice (some ⟨g, o, none⟩) m m) vv cv := fun b => by rw [HD.out.1]; exact Iff.rfl
    have hs3 := hb3.size
    have hs2 := HST2.out.size
    have hk3 : Vec w3 1 (.slice ka (n - m) kc) (ks.drop m).length (kcells (ks.drop m)) := by
      have e : (List.drop (m * 1) (kcells ks)).take ((n - m) * 1) = kcells (ks.drop m) := by rw [List.take_of_length_le (by simp [kcells, hk])]; simp [kcells]
      rw [← e, List.length_drop, hk]
      simpa using hk2
    have hkk := (hnd3.alloc (.cells #[.slice ka (n - m) kc, .slice none 0 0, .slice none 0 0] tt)).k
    have hva := hkk.at.head m (by omega)
    rw [show (kcells ks).take (m * 1) = kcells (ks.take m) by simp [kcells]] at hva
    have hnw := (NodeAt.new (w := w3) tt hk3).setOther (p := ⟨r, 0, none⟩) (fun e => by
      rcases mem_foot.1 e with e | e | e | e
      · exact hrr e
      · have := (hf3 r e).1; have := hlt2 r hrF; omega
      · cases e
      · cases e) (.slice (some ⟨g, o, none⟩) m m)
    refine ⟨(hnd3.alloc _).setK hA (by rw [List.length_take, hk, Nat.min_eq_left (by omega)]; exact .inr ⟨_, _, _, rfl, hva⟩) (fun e => hA.rk r e rfl), hnw, ⟨hA.rk, hA.rv, hA.rc, hA.akv, hA.akc, hA.avc⟩, hFm, H.out.lt, by omega, by simp, fun b hb => ?_, ?_⟩
    · have := hf3 b hb
      omega
    · exact (((HST2.out.only).andThen (Only.ofBelow (S := fun _ => False) hb3) fun _ _ e => e.elim).alloc _).setCell (.inl hrF) _
  have c03 : ∀ ob, (w3.alloc ob).cell? ⟨r, 0, none⟩ = some (.slice (some ⟨g, o, none⟩) n cap) := fun ob => by rw [← hk]; exact (hnd3.cells.alloc ob).cell 0
  have c13 : ∀ ob, (w3.alloc ob).cell? ⟨r, 1, none⟩ = some vv := fun ob => (hnd3.cells.alloc ob).cell 1
  have c23 : ∀ ob, (w3.alloc ob).cell? ⟨r, 2, none⟩ = some cv := fun ob => (hnd3.cells.alloc ob).cell 2
  have f03 : ∀ ob, (w3.alloc ob).frozen? ⟨r, 0, none⟩ = false := fun ob => (hnd3.cells.alloc ob).free 0
  have HM := Lib.hid hmid
  have hvv := hnd3.v
  have hcv := hnd3.c
  clear hk2 hb3 hf3 hnd3 hnd2 c0 HK HND hlt2 hmid
  by_cases hcs : cs = []
  · have hcn : vs.length = n := by have := HN.out; rw [hcs] at this; simpa using this
    rw [hcn] at hvv
    obtain ⟨g2, o2, cap2, rfl, hcv'⟩ := hvv.form (by omega)
    have hcv0 := hcv
    rw [hcs] at hcv0
    obtain ⟨ca, cc, rfl⟩ := hcv0.form'
    clear hcv0
    have t3 : ¬ (cap2 = m) := by have := hcv'.le; omega
    have HCL := Lib.hid hcv'.le
    have t4 : (m : Int) ≤ (cap2 : Int) := by have := hcv'.le; omega
    clear hcv hcv' hvv
    go_wp2_with fail
    have HMt := HM.out 86
    generalize hW5 : (w3.alloc _).setCell _ _ = W5 at HMt ⊢
    have hat := HMt.x.v
    rw [hcn] at hat
    have hcut := hat.at.cut m n cap2 (by omega) (by omega) HCL.out (Nat.le_refl _)
    rw [cutAddr_eq _ _ _ _ _ t3] at hcut
    have HK := Lib.hid (clone_k _ _ _ W5 hcut.reads (fun u hu => rcells_one vs u (List.mem_of_mem_drop (List.mem_of_mem_take hu))) (by omega))
    skip
    clear hat hcut
    refine HK.out.mono ?_
    rintro e w6 ⟨cv2, rfl, hv2, hb6, hf6⟩
    have d2 : w6.cell? ⟨w3.heap.size, 1, none⟩ = some (.slice none 0 0) := (hb6.cell HMt.r2).trans (HMt.y.cells.cell 1)
    have d3 : w6.frozen? ⟨w3.heap.size, 1, none⟩ = false := (hb6.frozen HMt.r2).trans (HMt.y.cells.free 1)
    have hrW : r < W5.heap.size := lt_of_cell (HMt.x.cells.cell 1)
    have d4 : w6.cell? ⟨r, 1, none⟩ = some (.slice (some ⟨g2, o2, none⟩) n cap2) := (hb6.cell hrW).trans (HMt.x.cells.cell 1)
    have d5 : w6.frozen? ⟨r, 1, none⟩ = false := (hb6.frozen hrW).trans (HMt.x.cells.free 1)
    have F := Lib.hid (HMt.endV (vv2 := cv2) (w6 := w6) hcn hmn hcs hb6 (by
      have e : (List.drop (m * 3) (rcells vs)).take ((n - m) * 3) = rcells (vs.drop m) := by rw [rcells_drop, List.take_of_length_le (by rw [rcells_length, List.length_drop, hcn]; omega)]
      rw [← e]
      simpa using hv2) hf6)
    have hrr' : ¬ (w3.heap.size = r) := fun e => hrr e.symm
    obtain ⟨ka2, kc2, rfl⟩ := hv2.form'
    clear hb6 hf6 hv2 HMt HK hW5
    go_wp2_with fail
    go_ret
    exact F.out
  · have hvs : vs = [] := he.resolve_left hcs
    have hcn : cs.length = n := by have := HN.out; rw [hvs] at this; simpa using this
    rw [hcn] at hcv
    obtain ⟨g2, o2, cap2, rfl, hcv'⟩ := hcv.form (by omega)
    have t2 : decide (0 < n) = true := by simp; omega
    have t3 : ¬ (cap2 = m) := by have := hcv'.le; omega
    have HCL := Lib.hid hcv'.le
    have t4 : (m : Int) ≤ (cap2 : Int) := by have := hcv'.le; omega
    clear hcv hcv' hvv
    go_wp2_with fail
    have HMt := HM.out 86
    generalize hW5 : (w3.alloc _).setCell _ _ = W5 at HMt ⊢
    have hat := HMt.x.c
    rw [hcn] at hat
    have hcut := hat.at.cut m n cap2 (by omega) (by omega) HCL.out (Nat.le_refl _)
    rw [cutAddr_eq _ _ _ _ _ t3] at hcut
    have HK := Lib.hid (clone_m _ _ _ W5 hcut.reads (fun u hu => pcells_one cs u (List.mem_of_mem_drop (List.mem_of_mem_take hu))) (by omega))
    simp only [Nat.mul_one] at HK
    clear hat hcut
    refine HK.out.mono ?_
    rintro e w6 ⟨cv2, rfl, hv2, hb6, hf6⟩
    have d2 : w6.cell? ⟨w3.heap.size, 2, none⟩ = some (.slice none 0 0) := (hb6.cell HMt.r2).trans (HMt.y.cells.cell 2)
    have d3 : w6.frozen? ⟨w3.heap.size, 2, none⟩ = false := (hb6.frozen HMt.r2).trans (HMt.y.cells.free 2)
    have hrW : r < W5.heap.size := lt_of_cell (HMt.x.cells.cell 2)
    have d4 : w6.cell? ⟨r, 2, none⟩ = some (.slice (some ⟨g2, o2, none⟩) n cap2) := (hb6.cell hrW).trans (HMt.x.cells.cell 2)
    have d5 : w6.frozen? ⟨r, 2, none⟩ = false := (hb6.frozen hrW).trans (HMt.x.cells.free 2)
    have F := Lib.hid (HMt.endC (cv2 := cv2) (w6 := w6) hcn hmn hvs hb6 (by
      have e : (List.drop (m * 1) (pcells cs)).take ((n - m) * 1) = pcells (cs.drop m) := by rw [List.take_of_length_le (by simp [pcells, hcn])]; simp [pcells]
      rw [← e]
      simpa using hv2) hf6)
    have hrr' : ¬ (w3.heap.size = r) := fun e => hrr e.symm
    obtain ⟨ka2, kc2, rfl⟩ := hv2.form'
    clear hb6 hf6 hv2 HMt HK hW5
    go_wp2_with fail
    go_ret
    exact F.out
end Go.Proofs.YtedfijmaeoednaaGreatDoor.Ke

namespace Go.Proofs.YtedfijmaeoednaaGreatDoor.Ke
open Go.RowKit Go.Wh

def SplitAt (d : Nat) (w : World) (r : Nat) (l : Nd d) (F : List Nat) (e : Ending) (w' : World) : Prop :=
  ∃ r' F1 F2, e = .returned (ptr r') ∧ At d w' r (l.take (l.length / 2)) F1 ∧ At d w' r' (l.drop (l.length / 2)) F2 ∧ Only (fun b => b ∈ F) w w' ∧ (F1 ++ F2).Nodup ∧ ∀ b ∈ F1 ++ F2, b ∈ F ∨ w.heap.size ≤ b

theorem split_at (d : Nat) (w : World) (r : Nat) (l : Nd d) (F : List Nat) (h : At d w r l F) (h4 : 4 < l.length) (hs : l.length ≤ 100) :
    Calls Tryz.prog 46 #[ptr r] w (SplitAt d w r l F) := by
  cases d with
  | zero =>
    have hr : Raw w r (keys l) (vals l) [] F := h
    refine (split_great w r _ _ _ F l.length hr ((Nat.zero_max _).trans (vals_length _)) (keys_length _) h4 hs (.inl rfl)).mono ?_
    rintro e w' ⟨r', F1, F2, rfl, h1, h2, ho, hf1, hf2⟩
    rw [List.take_nil] at h1
    rw [List.drop_nil] at h2
    have e1 : Raw w' r (keys (l.take (l.length / 2))) (vals (l.take (l.length / 2))) [] F1 := by
      rw [← keys_take, ← vals_take]; exact h1
    have e2 : Raw w' r' (keys (l.drop (l.length / 2))) (vals (l.drop (l.length / 2))) [] F2 := by
      rw [← keys_drop, ← vals_drop]; exact h2
    refine ⟨r', F1, F2, rfl, e1, e2, ho, apart_new h1.nodup h2.nodup (fun b hb => hr.lt b (hf1 b hb)) hf2, fun b hb => ?_⟩
    exact (List.mem_append.1 hb).imp (hf1 b) (hf2 b)
  | succ d =>
    obtain ⟨rs, F0, Fs, hr, hk, hF, hd⟩ := h
    have hlen : rs.length = l.length := hk.lenR.trans (subs_length _)
    refine (split_great w r _ _ _ F0 l.length hr ((Nat.max_zero _).trans hlen) (keys_length _) h4 hs (.inr rfl)).mono ?_
    rintro e w' ⟨r', F1, F2, rfl, h1, h2, ho, hf1, hf2⟩
    rw [List.take_nil] at h1
    rw [List.drop_nil] at h2
    subst hF
    have hd' := List.nodup_append.1 hd
    have hk' : Sons (At d w') rs (subs l) Fs := hk.imp fun r a f hf h => h.only ho fun b hb hb0 => hd'.2.2 b hb0 b (List.mem_flatten.2 ⟨f, hf, hb⟩) rfl
    have hFl : ∀ b ∈ Fs.flatten, b < w.heap.size := fun b hb => by
      obtain ⟨f, hf, hbf⟩ := List.mem_flatten.1 hb
      exact hk.all (P := fun f => ∀ b ∈ f, b < w.heap.size) (fun _ _ _ h => At.lt h) f hf b hbf
    have hml : subs l = subs (l.take (l.length / 2)) ++ subs (l.drop (l.length / 2)) := by rw [← subs_append, List.take_append_drop]
    rw [hml] at hk'
    obtain ⟨r1, r2, f1, f2, rfl, rfl, k1, k2⟩ := hk'.part
    have l1 : r1.length = l.length / 2 := by
      have := k1.lenR
      rw [subs_length, List.length_take] at this
      omega
    rw [List.take_left' l1] at h1
    rw [List.drop_left' l1] at h2
    rw [keys_take] at h1
    rw [keys_drop] at h2
    rw [List.flatten_append] at hd hd' hFl
    have n1 := List.nodup_append.1 hd'.2.1
    have m1 : (F1 ++ f1.flatten).Nodup := List.nodup_append.2 ⟨h1.nodup, n1.1, fun a ha b hb => hd'.2.2 a (hf1 a ha) b (by simp only [List.mem_append]; exact .inl hb)⟩
    have m2 : (F2 ++ f2.flatten).Nodup := List.nodup_append.2 ⟨h2.nodup, n1.2.1, fun a ha b hb e => by
      have := hf2 a ha
      have := hFl b (by simp only [List.mem_append]; exact .inr hb)
      omega⟩
    refine ⟨r', F1 ++ f1.flatten, F2 ++ f2.flatten, rfl, ⟨r1, F1, f1, h1, k1, rfl, m1⟩, ⟨r2, F2, f2, h2, k2, rfl, m2⟩, ho.mono fun b hb => List.mem_append_left _ hb, List.nodup_append.2 ⟨m1, m2, fun a ha b hb e => ?_⟩, fun b hb => ?_⟩
    · subst e
      rcases List.mem_append.1 ha with ha | ha <;> rcases List.mem_append.1 hb with hb | hb
      · have := hr.lt a (hf1 a ha); have := hf2 a hb; omega
      · exact hd'.2.2 a (hf1 a ha) a (by simp only [List.mem_append]; exact .inr hb) rfl
      · have := hFl a (by simp only [List.mem_append]; exact .inl ha); have := hf2 a hb; omega
      · exact n1.2.2 a ha a hb rfl
    · rw [List.flatten_append]
      simp only [List.mem_append] at hb ⊢
      rcases hb with (hb | hb) | (hb | hb)
      · exact .inl (.inl (hf1 b hb))
      · exact .inl (.inr (.inl hb))
      · exact .inr (hf2 b hb)
      · exact .inl (.inr (.inr hb))

theorem split_at_small (d : Nat) (w : World) (r : Nat) (l : Nd d) (F : List Nat) (h : At d w r l F) (h4 : l.length ≤ 4) :
    Calls Tryz.prog 46 #[ptr r] w fun e w' => e = .returned (.pointer none) ∧ Still w w' := by
  obtain ⟨vs, cs, F0, hr, hm, _, _⟩ := h.raw
  exact split_small w r _ vs cs F0 hr (by omega)
end Go.Proofs.YtedfijmaeoednaaGreatDoor.Ke

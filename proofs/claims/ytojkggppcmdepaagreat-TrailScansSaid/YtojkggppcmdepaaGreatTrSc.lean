/- Entries in memory; the frames that some bytes begin with. Conditions: they lie in memory. -/
import Derived.Test.YtojkggppcmdepaaGreatTrFi
namespace Go.Proofs.YtojkggppcmdepaaGreat
open Go.RowKit Go.Wh Go.Maps

/-- Each row of cells is an entry. -/
def EIall (w : World) (P : Nat → Prop) (es : List PE) (vs : List (List Value)) : Prop :=
  vs.length = es.length ∧ ∀ (k : Nat) (e : PE) (c : List Value), es[k]? = some e → vs[k]? = some c → ∃ ov nv mv lv dv pv, c = (eV e ov nv mv lv dv pv).toList ∧ EIs w P e ov nv mv lv dv pv
/-- Entries in a slice of the call's own. -/
def EnVec (P : Nat → Prop) (w : World) (lv : Value) (es : List PE) : Prop := ∃ vs, EIall w P es vs ∧ Vec w 16 lv es.length vs.flatten
/-- Entries that are read. -/
def Ents (w : World) (P : Nat → Prop) (lv : Value) (es : List PE) : Prop := ∃ vs, EIall w P es vs ∧ Sl w P 16 lv es.length vs.flatten
section
variable {w w' : World} {P R X : Nat → Prop} {es : List PE} {vs : List (List Value)} {lv : Value}
theorem EIall.only (h : EIall w P es vs) (ho : Only X w w') (hq : ∀ g, P g → ¬ X g) : EIall w' P es vs :=
  ⟨h.1, fun k e c hk hc => by
    obtain ⟨ov, nv, mv, lv, dv, pv, h1, h2⟩ := h.2 k e c hk hc
    exact ⟨ov, nv, mv, lv, dv, pv, h1, h2.only ho hq⟩⟩
theorem EIall.mono (h : EIall w P es vs) (hr : ∀ g, P g → R g) : EIall w R es vs :=
  ⟨h.1, fun k e c hk hc => by
    obtain ⟨ov, nv, mv, lv, dv, pv, h1, h2⟩ := h.2 k e c hk hc
    exact ⟨ov, nv, mv, lv, dv, pv, h1, EIs.mono h2 hr⟩⟩
theorem Sl.low2 {Q : Nat → Prop} {sz m : Nat} {dv : Value} {xs : List Value} (h : Sl w Q sz dv m xs) : Sl w (fun g => Q g ∧ g < w.heap.size) sz dv m xs := h.low
theorem EIs.low2 {Q : Nat → Prop} {e : PE} {ov nv mv lv dv pv : Value} (h : EIs w Q e ov nv mv lv dv pv) : EIs w (fun g => Q g ∧ g < w.heap.size) e ov nv mv lv dv pv := by
  obtain ⟨mvs, k1, k2, k3⟩ := h.p
  exact ⟨h.o.low, h.n.low, h.m.low, h.l.low, h.d.low, ⟨mvs, k1, k2.low, fun k o mv hk hm => (k3 k o mv hk hm).low⟩, h.bo, h.bn⟩
theorem EIall.low (h : EIall w P es vs) : EIall w (fun g => P g ∧ g < w.heap.size) es vs :=
  ⟨h.1, fun k e c hk hc => by
    obtain ⟨ov, nv, mv, lv, dv, pv, h1, h2⟩ := h.2 k e c hk hc
    exact ⟨ov, nv, mv, lv, dv, pv, h1, h2.low2⟩⟩
theorem EIall.snoc (h : EIall w P es vs) {e : PE} {ov nv mv lv dv pv : Value} (he : EIs w P e ov nv mv lv dv pv) : EIall w P (es ++ [e]) (vs ++ [(eV e ov nv mv lv dv pv).toList]) := by
  refine ⟨by simp [h.1], fun k e' c hk hc => ?_⟩
  by_cases hkl : k < es.length
  · rw [List.getElem?_append_left hkl] at hk
    rw [List.getElem?_append_left (by rw [h.1]; exact hkl)] at hc
    exact h.2 k e' c hk hc
  · rw [List.getElem?_append_right (by omega)] at hk
    rw [List.getElem?_append_right (by rw [h.1]; omega), h.1] at hc
    have h0 : k - es.length = 0 := by
      have := (List.getElem?_eq_some_iff.1 hk).1
      simp at this
      omega
    rw [h0] at hk hc
    cases hk
    cases hc
    exact ⟨ov, nv, mv, lv, dv, pv, rfl, he⟩
theorem Ents.only (h : Ents w P lv es) (ho : Only X w w') (hq : ∀ g, P g → ¬ X g) : Ents w' P lv es := by
  obtain ⟨vs, h1, h2⟩ := h
  exact ⟨vs, h1.only ho hq, h2.only ho hq⟩
theorem Ents.still (h : Ents w P lv es) (hs : Still w w') : Ents w' P lv es := h.only hs fun _ _ e => e
theorem Ents.mono (h : Ents w P lv es) (hr : ∀ g, P g → R g) : Ents w R lv es := by
  obtain ⟨vs, h1, h2⟩ := h
  exact ⟨vs, h1.mono hr, h2.mono hr⟩
theorem Ents.low (h : Ents w P lv es) : Ents w (fun g => P g ∧ g < w.heap.size) lv es := by
  obtain ⟨vs, h1, h2⟩ := h
  exact ⟨vs, h1.low, h2.low⟩
theorem Ents.form (h : Ents w P lv es) : ∃ a c, lv = .slice a es.length c := by
  obtain ⟨vs, h1, h2⟩ := h
  exact h2.form
theorem Ents.nil : Ents w P (.slice none 0 0) [] := ⟨[], ⟨rfl, fun k e c hk _ => by simp at hk⟩, Sl.nil⟩
theorem EnVec.nil : EnVec P w (.slice none 0 0) [] := ⟨[], ⟨rfl, fun k e c hk _ => by simp at hk⟩, Vec.nil _ _⟩
theorem EnVec.form (h : EnVec P w lv es) : ∃ a c, lv = .slice a es.length c := by
  obtain ⟨vs, h1, h2⟩ := h
  exact h2.form'
theorem EnVec.ents (h : EnVec P w lv es) (hp : ∀ g, P g → R g) (hq : ∀ g, lv.ownBlock = some g → R g ∧ g < w.heap.size) : Ents w R lv es := by
  obtain ⟨vs, h1, h2⟩ := h
  exact ⟨vs, h1.mono hp, Vec.sl h2 hq⟩
/-- An entry's cells, from a slice of them. -/
theorem flatten_get {sz : Nat} : ∀ (vs : List (List Value)) (k j : Nat) (c : List Value), (∀ v ∈ vs, v.length = sz) → vs[k]? = some c → j < sz → vs.flatten[k * sz + j]? = c[j]?
  | [], _, _, _, _, h, _ => by simp at h
  | v :: vs, 0, j, c, hs, h, hj => by
    simp at h
    subst h
    rw [List.flatten_cons, Nat.zero_mul, Nat.zero_add, List.getElem?_append_left (by rw [hs v (by simp)]; exact hj)]
  | v :: vs, k + 1, j, c, hs, h, hj => by
    rw [List.flatten_cons, List.getElem?_append_right (by rw [hs v (by simp), Nat.add_mul]; omega), hs v (by simp)]
    have e : (k + 1) * sz + j - sz = k * sz + j := by rw [Nat.add_mul]; omega
    rw [e]
    exact flatten_get vs k j c (fun u hu => hs u (by simp [hu])) (by simpa using h) hj
theorem EIall.sizes (h : EIall w P es vs) : ∀ v ∈ vs, v.length = 16 := fun v hv => by
  obtain ⟨k, hk, rfl⟩ := List.getElem_of_mem hv
  obtain ⟨ov, nv, mv, lv, dv, pv, h1, _⟩ := h.2 k (es[k]'(by rw [← h.1]; exact hk)) vs[k] (List.getElem?_eq_getElem _) (List.getElem?_eq_getElem _)
  rw [h1]
  rfl
end
theorem info_en : (Tryz.prog.info? 34).map (fun i => (i.zero, i.size, i.bytes)) = some (some (.agg #[.int .i64 0, .int .i64 0, .int .i64 0, .int .i64 0, .int .i64 0, .int .i64 0, .int .i64 0, .int .i64 0, .int .i64 0, .int .i64 0, .slice none 0 0, .slice none 0 0, .slice none 0 0, .slice none 0 0, .slice none 0 0, .slice none 0 0]), 16, 224) := by kernel_rfl

/-- One more entry, behind an append. -/
theorem EnVec.push {w w' : World} {B : Nat} {va : Option Addr} {vc : Nat} {v' : Value} {es : List PE} {e : PE} {ov nv mv lv dv pv : Value} {vs : List (List Value)} (h : EIall w (fun g => B ≤ g ∧ (Value.slice va es.length vc).ownBlock ≠ some g) es vs) (he : EIs w (fun g => B ≤ g ∧ (Value.slice va es.length vc).ownBlock ≠ some g) e ov nv mv lv dv pv)
    (hv' : Vec w' 16 v' (es.length + 1) (vs.flatten ++ (eV e ov nv mv lv dv pv).toList)) (ho' : Only (fun k => (Value.slice va es.length vc).ownBlock = some k) w w') (hb' : v'.ownBlock = (Value.slice va es.length vc).ownBlock ∨ ∃ g, v'.ownBlock = some g ∧ w.heap.size ≤ g ∧ g < w'.heap.size) : EnVec (fun g => B ≤ g ∧ v'.ownBlock ≠ some g) w' v' (es ++ [e]) := by
  have h1 := ((h.snoc he).low.only ho' fun g hg e => hg.1.2 e).mono (R := fun g => B ≤ g ∧ v'.ownBlock ≠ some g) fun g hg => ⟨hg.1.1, fun e => by
    rcases hb' with e' | ⟨g', e', e1, e2⟩
    · rw [e'] at e
      exact hg.1.2 e
    · rw [e'] at e
      injection e with e
      have := hg.2
      omega⟩
  refine ⟨_, h1, ?_⟩
  rw [List.length_append, List.length_singleton, List.flatten_append]
  simpa using hv'

theorem scanB_len : ∀ (k : Nat) (b : List Int), (scanB k b).2 ≤ b.length ∧ (scanB k b).1.length * 4 ≤ (scanB k b).2
  | 0, _ => ⟨Nat.zero_le _, Nat.le_refl _⟩
  | k + 1, b => by
    unfold scanB
    cases hf : firstB b with
    | none => exact ⟨Nat.zero_le _, Nat.le_refl _⟩
    | some p =>
      obtain ⟨e, n⟩ := p
      have h1 := firstB_pos hf
      have h2 := scanB_len k (b.drop n)
      rw [List.length_drop] at h2
      refine ⟨by simp only; omega, ?_⟩
      simp only [List.length_cons]
      omega
theorem scanB_up (b : List Int) : ∀ (j k : Nat), b.length < k → scanB (k + j) b = scanB k b
  | 0, _, _ => rfl
  | j + 1, k, h => by rw [← Nat.add_assoc, scanB_more (k + j) b (by omega), scanB_up b j k h]
theorem scanB_fuel {b : List Int} (k1 k2 : Nat) (h1 : b.length < k1) (h2 : b.length < k2) : scanB k1 b = scanB k2 b := by
  rcases Nat.le_total k1 k2 with h | h
  · obtain ⟨j, rfl⟩ : ∃ j, k2 = k1 + j := ⟨k2 - k1, by omega⟩
    exact (scanB_up b j k1 h1).symm
  · obtain ⟨j, rfl⟩ : ∃ j, k1 = k2 + j := ⟨k1 - k2, by omega⟩
    exact scanB_up b j k2 h2
/-- What is told of some bytes. -/
def ScanPost (w : World) (b : List Int) (en : Ending) (w' : World) : Prop :=
  ∃ lv, en = .returned (.tuple #[lv, .int .i64 ((scanB (b.length + 1) b).2 : Nat)]) ∧ Ents w' (fun g => w.heap.size ≤ g) lv (scanB (b.length + 1) b).1 ∧ Still w w'
/-- On the way. -/
def ScRel (w : World) (b : List Int) (m : Nat) (lv : Value) (wr : World) : Prop :=
  ∃ es, EnVec (fun g => w.heap.size ≤ g ∧ lv.ownBlock ≠ some g) wr lv es ∧ Still w wr ∧ (∀ g, lv.ownBlock = some g → w.heap.size ≤ g ∧ g < wr.heap.size) ∧ m ≤ b.length ∧ es.length * 4 ≤ m ∧
    (es ++ (scanB (b.length - m + 1) (b.drop m)).1, m + (scanB (b.length - m + 1) (b.drop m)).2) = scanB (b.length + 1) b
set_option maxHeartbeats 4000000 in
set_option maxRecDepth 100000 in
theorem scan_any (w : World) (Q : Nat → Prop) (bv : Value) (n : Nat) (b : List Int) (hb : Sl w Q 1 bv n (bc b)) (hc : Cap n bv) (hby : Byt b) (hn : n ≤ 100000) :
    Calls Tryz.prog 10 #[bv] w (ScanPost w b) := by
  have hl : b.length = n := by have := hb.1; rw [bc_length] at this; omega
  have H := Lib.hid (And.intro hb (And.intro hc (And.intro hby (And.intro hn hl))))
  obtain ⟨ba, bcp, rfl⟩ := hb.form
  obtain ⟨i0, hi0, hz0, hz1, hz2⟩ := info_parts info_en
  have HI := Lib.hid (And.intro hi0 (And.intro hz0 (And.intro hz1 hz2)))
  clear hb hc hby hn hl hi0 hz0 hz1 hz2
  go_enter Tryz.func10, Tryz.ntmps10
  go_wp2_with fail
  go_loopw [2, 3] (fun s2 s3 wr => ∃ m : Nat, s3 = .int .i64 m ∧ ScRel w b m s2 wr) (fun _ s3 _ => n - (intOf s3).toNat)
  case atStart => exact ⟨0, rfl, [], EnVec.nil, Still.refl _, fun g e => (by cases e), Nat.zero_le _, Nat.le_refl _, by simp⟩
  case round =>
    obtain ⟨m, rfl, es, hev, hst, hown, hm, h4, hsc⟩ := hrel
    obtain ⟨va, vc, rfl⟩ := hev.form
    have hb' := H.out.1.still hst
    have hbl := H.out.2.2.2.2
    obtain ⟨pv, -, -, r1, hp1, hp2⟩ := hb'.part (P := Tryz.prog) (size := 1) 23 Tryz.underlying23 (fun w => rfl) H.out.2.1 (show m ≤ n by omega) (Nat.le_refl n)
    have r1' := r1 rfl
    have hps := hp2 wr Q hb'
    have hpc : ((bc b).drop (m * 1)).take ((n - m) * 1) = bc (b.drop m) := by
      rw [Nat.mul_one, Nat.mul_one, bc_drop, List.take_of_length_le (by rw [bc_length, List.length_drop]; omega)]
    rw [hpc] at hps
    obtain ⟨pa, pc, rfl⟩ := hps.form
    have HF := Lib.hid (first_any wr Q (.slice pa (n - m) pc) (n - m) (b.drop m) hps hp1 (H.out.2.2.1.drop m) (by have := H.out.2.2.2.1; omega))
    have HH := Lib.hid (And.intro hev (And.intro hst (And.intro hown (And.intro hm (And.intro h4 hsc)))))
    have b3 : (m : Int) ≤ (n : Int) := by omega
    have b4 : (0 : Int) ≤ (m : Int) := by omega
    have HN5 := Lib.hid H.out.2.2.2.1
    clear hb' r1 hp1 hp2 hps hpc hev hst hown hm h4 hsc hbl
    go_wp2_with fail
    refine HF.out.mono ?_
    rintro en w2 hfp0
    obtain ⟨hs2, hres⟩ := hfp0.split
    have HS2 := Lib.hid hs2
    clear HF hs2 hfp0
    rcases hres with ⟨hf, z, hen⟩ | ⟨e, k, ov, nv, mv, lv, dv, pv, hf, rfl, hel⟩
    · have hen2 : en = .returned (.tuple #[.agg #[.int .i64 0, .int .i64 0, .int .i64 0, .int .i64 0, .int .i64 0, .int .i64 0, .int .i64 0, .int .i64 0, .int .i64 0, .int .i64 0, .slice none 0 0, .slice none 0 0, .slice none 0 0, .slice none 0 0, .slice none 0 0, .slice none 0 0], .int .i64 z, .bool false]) := hen
      subst hen2
      have F := Lib.hid (fun ob => show ScanPost w b (.returned (.tuple #[.slice va es.length vc, .int .i64 (m : Nat)])) (w2.alloc ob) from by
        have hs := HH.out.2.2.2.2.2
        have e0 : scanB (b.length - m + 1) (b.drop m) = ([], 0) := by
          unfold scanB
          rw [hf]
        rw [e0] at hs
        simp only [List.append_nil, Nat.add_zero] at hs
        have hw2 := HS2.out.alloc ob
        have hz := hw2.size
        obtain ⟨vs, hv1, hv2⟩ := HH.out.1
        refine ⟨_, by rw [← hs], ?_, HH.out.2.1.trans hw2⟩
        rw [← hs]
        exact EnVec.ents (P := fun g => w.heap.size ≤ g ∧ (Value.slice va es.length vc).ownBlock ≠ some g) ⟨vs, hv1.only hw2 (fun _ _ e => e), hv2.only hw2 (fun _ _ e => e)⟩ (fun g hg => hg.1) fun g hg => ⟨(HH.out.2.2.1 g hg).1, by have := (HH.out.2.2.1 g hg).2; omega⟩)
      clear hf
      go_wp2_with fail
      go_ret2
      exact F.out _
    · have hfp := firstB_pos hf
      rw [List.length_drop] at hfp
      obtain ⟨oa, oc, na, nc, ma, mc, la, lc, da, dc, xa, xc, rfl, rfl, rfl, rfl, rfl, rfl⟩ := hel.forms
      have HNX := Lib.hid (fun (o1 o2 : Obj) v' w' (vs : List (List Value)) (hvs : EIall wr (fun g => w.heap.size ≤ g ∧ (Value.slice va es.length vc).ownBlock ≠ some g) es vs) (hv' : Vec w' 16 v' (es.length + 1) (vs.flatten ++ (eV e (.slice oa e.old.length oc) (.slice na e.new.length nc) (.slice ma e.moves.length mc) (.slice la e.lives.length lc) (.slice da e.dirty.length dc) (.slice xa e.opens.length xc)).toList)) (ho' : Only (fun k => (Value.slice va es.length vc).ownBlock = some k) ((w2.alloc o1).alloc o2) w') (hb' : v'.ownBlock = (Value.slice va es.length vc).ownBlock ∨ ∃ g, v'.ownBlock = some g ∧ w2.heap.size + 1 + 1 ≤ g ∧ g < w'.heap.size) => show ScRel w b (m + k) v' w' from by
        have hs3 : Still w2 ((w2.alloc o1).alloc o2) := ((Still.refl w2).alloc _).alloc _
        have hz3 : ((w2.alloc o1).alloc o2).heap.size = w2.heap.size + 1 + 1 := by simp
        rw [← hz3] at hb'
        have hs4 := HS2.out.trans hs3
        have hz := HH.out.2.1.size
        have hz2 := hs4.size
        have hzo := ho'.size
        have hsc := HH.out.2.2.2.2.2
        have hbl := H.out.2.2.2.2
        refine ⟨es ++ [e], EnVec.push (hvs.only hs4 fun _ _ e => e) (EIs.mono (hel.still hs3) fun g hg => ⟨by omega, fun e => by have := (HH.out.2.2.1 g e).2; omega⟩) hv' ho' hb', (HH.out.2.1.trans hs4).andThen ho' fun i hi e => by have := (HH.out.2.2.1 i e).1; omega, fun g hg => ?_, by omega, ?_, ?_⟩
        · rcases hb' with e' | ⟨g', e', e1, e2⟩
          · rw [e'] at hg
            have := HH.out.2.2.1 g hg
            omega
          · rw [e'] at hg
            injection hg with hg
            omega
        · rw [List.length_append, List.length_singleton]
          have := HH.out.2.2.2.2.1
          omega
        · have e1 : scanB (b.length - m + 1) (b.drop m) = (e :: (scanB (b.length - m) (b.drop (m + k))).1, k + (scanB (b.length - m) (b.drop (m + k))).2) := by
            show (match firstB (b.drop m) with | none => _ | some (e, n) => _) = _
            rw [hf]
            simp only [List.drop_drop]
          rw [e1, scanB_fuel (b.length - m) (b.length - (m + k) + 1) (by rw [List.length_drop]; omega) (by rw [List.length_drop]; omega)] at hsc
          rw [← hsc, List.append_assoc, Nat.add_assoc]
          rfl)
      obtain ⟨vs, hvs, hvv⟩ := HH.out.1
      have HVS := Lib.hid hvs
      have HV2 := Lib.hid (hvv.only HS2.out fun _ _ e => e)
      have HEL := Lib.hid (And.intro hfp hf)
      have hk1 : (k : Int) ≤ 100000 := by have := H.out.2.2.2; omega
      have hm1 : (m : Int) ≤ 100000 := by have := H.out.2.2.2; omega
      have u9 : IntKind.i64.wrap ((m : Int) + (k : Int)) = (m : Int) + (k : Int) := IntWalk.i64_in _ (by omega)
      unfold eV
      unfold eV at HNX
      clear hel hf hfp hvs hvv
      go_wp2_with (at_builtin; refine wpList_append_vec rfl _ _ 22 rfl 34 i0 _ 16 224 Tryz.underlying22 HI.out.1 HI.out.2.1 HI.out.2.2.1 HI.out.2.2.2 rfl (by decide) (.slice va es.length vc) es.length vs.flatten (by simp [Act.eval]) ((HV2.out.alloc _).alloc _) (.slice (some ⟨w2.heap.size + 1, 0, none⟩) 1 1) 1 [.int .i64 e.kind, .int .i64 e.txn, .int .i64 e.unit, .int .i64 e.half, .int .i64 e.prev, .int .i64 e.next, .int .i64 e.ap, .int .i64 e.ac, .int .i64 e.tp, .int .i64 e.tc, .slice oa e.old.length oc, .slice na e.new.length nc, .slice ma e.moves.length mc, .slice la e.lives.length lc, .slice da e.dirty.length dc, .slice xa e.opens.length xc] (by simp [Act.eval]) ?_ (by intro u hu; simp only [List.mem_cons, List.not_mem_nil, or_false] at hu; rcases hu with rfl | rfl | rfl | rfl | rfl | rfl | rfl | rfl | rfl | rfl | rfl | rfl | rfl | rfl | rfl | rfl <;> rfl) (by have := HH.out.2.2.2.2.1; have := HH.out.2.2.2.1; have := H.out.2.2.2; simp only [maxLen]; omega) (by have := HH.out.2.2.2.2.1; have := HH.out.2.2.2.1; have := H.out.2.2.2; omega) ?_)
      · have := (cellsAt_new (w2.alloc (.cells #[.int .i64 e.kind, .int .i64 e.txn, .int .i64 e.unit, .int .i64 e.half, .int .i64 e.prev, .int .i64 e.next, .int .i64 e.ap, .int .i64 e.ac, .int .i64 e.tp, .int .i64 e.tc, .slice oa e.old.length oc, .slice na e.new.length nc, .slice ma e.moves.length mc, .slice la e.lives.length lc, .slice da e.dirty.length dc, .slice xa e.opens.length xc] 34)) [.int .i64 e.kind, .int .i64 e.txn, .int .i64 e.unit, .int .i64 e.half, .int .i64 e.prev, .int .i64 e.next, .int .i64 e.ap, .int .i64 e.ac, .int .i64 e.tp, .int .i64 e.tc, .slice oa e.old.length oc, .slice na e.new.length nc, .slice ma e.moves.length mc, .slice la e.lives.length lc, .slice da e.dirty.length dc, .slice xa e.opens.length xc] 34)
        rw [show (w2.alloc (.cells #[.int .i64 e.kind, .int .i64 e.txn, .int .i64 e.unit, .int .i64 e.half, .int .i64 e.prev, .int .i64 e.next, .int .i64 e.ap, .int .i64 e.ac, .int .i64 e.tp, .int .i64 e.tc, .slice oa e.old.length oc, .slice na e.new.length nc, .slice ma e.moves.length mc, .slice la e.lives.length lc, .slice da e.dirty.length dc, .slice xa e.opens.length xc] 34)).heap.size = w2.heap.size + 1 from by simp] at this
        exact this.reads rfl
      · intro v' w' hv' ho' hb'
        have HN2 := Lib.hid (HNX.out _ _ v' w' vs HVS.out hv' ho' hb')
        clear hv' ho' hb' HNX
        go_wp2_with fail
        go_roundw
        case rel => exact ⟨m + k, by go_num, HN2.out⟩
        case measure => simp [intOf]; have := HEL.out.1; have := H.out.2.2.2.2; omega
end Go.Proofs.YtojkggppcmdepaaGreat

/- A page in a pool's memory, without a touch. Conditions: the pool lies in memory. A page of a pool as it is. Conditions: the pool, the disk and the trail lie in memory, apart. A page of a pool is on the disk as it is. Conditions: the pool, the disk and the trail lie in memory, apart. A page is laid into a pool, whatever it was. Conditions: the pool, the disk and the trail lie in memory, apart; the page too. -/
import Derived.Test.YtlcfoeikamkpmaaGreatPr24
namespace Go.Proofs.YtlcfoeikamkpmaaGreat
open Go.RowKit Go.Wh Go.Maps

section
variable {c : Nat → Nat} {m r : Nat} {w : World} {d : Nat} {t : Option Nat} {cf : PCf} {H : Hd PFr}
theorem keys_look {V : Type} (h : Hd V) (k : Int) : h.keys.contains k = (h.look k).isSome := by
 have key : h.keys.contains k = true ↔ fdI (isK k) h.l < h.l.length := by
  rw [List.contains_iff_mem]
  unfold Hd.keys
  rw [List.mem_map]
  constructor
  · rintro ⟨x, hx, e⟩
    obtain ⟨hx, hh⟩ := List.mem_filter.1 hx
    obtain ⟨i, hi⟩ := List.mem_iff_getElem?.1 hx
    refine Classical.byContradiction fun h1 => ?_
    have h2 := fdI_no (p := isK k) (l := h.l) (i := i) (x := x) (by have := (List.getElem?_eq_some_iff.1 hi).1; omega) hi
    unfold isK at h2
    rw [hh, e] at h2
    simp at h2
  · intro h1
    obtain ⟨x, hx, hk⟩ := fdI_lt h1
    unfold isK at hk
    rw [Bool.and_eq_true] at hk
    exact ⟨x, List.mem_filter.2 ⟨List.mem_of_getElem? hx, hk.1⟩, by simpa using hk.2⟩
 unfold Hd.look
 rw [Option.isSome_map]
 by_cases h1 : fdI (isK k) h.l < h.l.length
 · rw [key.2 h1, List.getElem?_eq_getElem h1]
   rfl
 · rw [List.getElem?_eq_none (by omega)]
   have : ¬ h.keys.contains k = true := fun e => h1 (key.1 e)
   simpa using this
def LkPost (c : Nat → Nat) (r : Nat) (w : World) (H : Hd PFr) (k : Int) (e : Ending) (w' : World) : Prop :=
 Still w w' ∧ ((H.look k = none ∧ e = .returned (.tuple #[.agg #[.slice none 0 0, .slice none 0 0, .slice none 0 0, .slice none 0 0, .int .i64 0, .bool false, .int .i64 0], .bool false])) ∨ ∃ f v0 v1 v2 v3, H.look k = some f ∧ e = .returned (.tuple #[.agg #[v0, v1, v2, v3, .int .i64 f.p.lsn, .bool f.dirty, .int .i64 f.rec_], .bool true]) ∧ PgIs w' (Cs c r) [v0, v1, v2, v3] f.p.c)
set_option maxHeartbeats 4000000 in
set_option maxRecDepth 100000 in
theorem plook_any {pb : Nat} (hP : PoAt c m r w pb d t cf H) (k : Int) :
 Calls Tryz.prog 49 #[.pointer (some ⟨pb, 0, none⟩), .int .i64 k] w (LkPost c r w H k) := by
 obtain ⟨⟨hb, g, o, n, cap, Hv, hcp, hha, hrel, -⟩, -⟩ := hP
 have HHA := Lib.hid hha
 have HREL := Lib.hid hrel
 have HC := Lib.hid (fun tt => cellsAt_new w frZ tt)
 have HCP := Lib.hid hcp
 clear hha hrel hcp
 go_enter Tryz.func49, Tryz.ntmps49
 go_upto_region 1 with fail
 have hc := HC.out 100
 have hs : Still w (w.alloc (.cells #[.slice none 0 0, .slice none 0 0, .slice none 0 0, .slice none 0 0, .int .i64 0, .bool false, .int .i64 0] 100)) := (Still.refl w).alloc _
 clear HC
 change cellsAt (w.alloc (.cells #[.slice none 0 0, .slice none 0 0, .slice none 0 0, .slice none 0 0, .int .i64 0, .bool false, .int .i64 0] 100)) w.heap.size _ at hc
 generalize (w.alloc (.cells #[.slice none 0 0, .slice none 0 0, .slice none 0 0, .slice none 0 0, .int .i64 0, .bool false, .int .i64 0] 100)) = w1 at *
 obtain ⟨b4, hb4⟩ : ∃ b, w.heap.size = b := ⟨_, rfl⟩
 rw [hb4] at hc
 rw [hb4]
 have p4 : w1.cell? ⟨pb, 4, none⟩ = some (.pointer (some ⟨hb, 0, none⟩)) := (HCP.out.only hs fun e => e).cell 4
 have HB := Lib.hid hb4
 have HS := Lib.hid hs
 have HB4 := Lib.hid hc
 have hk := HREL.out.keys
 have HKL := Lib.hid (show H.keys.length ≤ 64 from by
  have h1 : Hv.keys.length ≤ Hv.l.length := by unfold Hd.keys; rw [List.length_map]; exact List.length_filter_le _ _
  have := HHA.out.len
  have := HHA.out.n64
  rw [← hk]
  omega)
 have HKY := Lib.hid (hkeys_any (HHA.out.still hs))
 rw [hk] at HKY
 clear hk
 clear hs hc hb4
 go_wp2_with fail
 refine HKY.out.mono ?_
 rintro e w2 ⟨v2, rfl, hv2, hb2, hf2⟩
 have HS2 := Lib.hid (show Still w1 w2 from Still.of hb2)
 have HIC := Lib.hid (icontains_any w2 v2 H.keys.length H.keys k (Vec.sl0 hv2 (by decide)) (by have := HKL.out; omega))
 rw [keys_look] at HIC
 obtain ⟨va, vc, rfl⟩ := hv2.form'
 have hlook := HREL.out.look (k := k)
 have p4' := Still.cell HS2.out p4
 clear hv2 hb2 hf2 HKY p4
 rcases hlook with ⟨h1, h2⟩ | ⟨v, f, h1, h2, u0, u1', u2', u3', h3, h4⟩
 · rw [h2] at HIC
   have HIC := Lib.hid (show Calls _ _ _ w2 (SamePost w2 (.bool false)) from HIC.out)
   go_wp2_with fail
   refine HIC.out.mono ?_
   rintro e w3 ⟨rfl, rfl⟩
   have HB42 := Lib.hid (HB4.out.only HS2.out fun e => e)
   go_wp2_with ((with_reducible (show wpList _ _ _ ({ dst := none, op := Op.store 100 _ _, type := _, pos := _, after := _, guard := _ } :: _) _ _)); (refine wpList_storeAgg rfl 100 _ _ rfl b4 #[.slice none 0 0, .slice none 0 0, .slice none 0 0, .slice none 0 0, .int .i64 0, .bool false, .int .i64 0] rfl rfl HB42.out size_fr rfl rfl ?_; intro wf hcf hof hzf; have HF := Lib.hid (And.intro hcf (And.intro hof hzf)); clear hcf hof hzf))
   have F2 := Lib.hid (show LkPost c r w H k (.returned (.tuple #[.agg #[.slice none 0 0, .slice none 0 0, .slice none 0 0, .slice none 0 0, .int .i64 0, .bool false, .int .i64 0], .bool false])) wf from
    ⟨(HS.out.trans HS2.out).andThen HF.out.2.1 fun x hx e => by have e' : x = b4 := e; have := HB.out; omega, .inl ⟨h2, rfl⟩⟩)
   have z0 : wf.cell? ⟨b4, 0, none⟩ = some (.slice none 0 0) := HF.out.1.cell 0
   have z1 : wf.cell? ⟨b4, 1, none⟩ = some (.slice none 0 0) := HF.out.1.cell 1
   have z2 : wf.cell? ⟨b4, 2, none⟩ = some (.slice none 0 0) := HF.out.1.cell 2
   have z3 : wf.cell? ⟨b4, 3, none⟩ = some (.slice none 0 0) := HF.out.1.cell 3
   have z4 : wf.cell? ⟨b4, 4, none⟩ = some (.int .i64 0) := HF.out.1.cell 4
   have z5 : wf.cell? ⟨b4, 5, none⟩ = some (.bool false) := HF.out.1.cell 5
   have z6 : wf.cell? ⟨b4, 6, none⟩ = some (.int .i64 0) := HF.out.1.cell 6
   exact bodyPost_ret (v := .tuple #[.agg #[.slice none 0 0, .slice none 0 0, .slice none 0 0, .slice none 0 0, .int .i64 0, .bool false, .int .i64 0], .bool false]) (by simp [results, Tryz.results49, go_sem, z0, z1, z2, z3, z4, z5, z6]) rfl F2.out
 · subst h3
   rw [h2] at HIC
   have HIC := Lib.hid (show Calls _ _ _ w2 (SamePost w2 (.bool true)) from HIC.out)
   have HPG := Lib.hid (And.intro h2 h4)
   have HLK := Lib.hid h1
   obtain ⟨z, hz⟩ : ∃ z, f.p.lsn = z := ⟨_, rfl⟩
   obtain ⟨dd, hdd⟩ : ∃ z, f.dirty = z := ⟨_, rfl⟩
   obtain ⟨rr, hrr⟩ : ∃ z, f.rec_ = z := ⟨_, rfl⟩
   have HFZ := Lib.hid (And.intro hz (And.intro hdd hrr))
   rw [hz, hdd, hrr] at HLK
   have HCO := Lib.hid (hcopy_any ((HHA.out.still HS.out).still HS2.out))
   clear h1 h2 h4 hz hdd hrr
   go_wp2_with fail
   refine HIC.out.mono ?_
   rintro e w3 ⟨rfl, rfl⟩
   go_wp2_with fail
   refine HCO.out.mono ?_
   rintro e w4 ⟨hb2, g2, o2, cap2, rfl, hha2, hs4, hl1, hl2⟩
   have HGT := Lib.hid (hget_any hha2 k)
   have H4 := Lib.hid (And.intro hha2 (And.intro hs4 (And.intro hl1 hl2)))
   clear hha2 hs4 hl1 hl2 HCO HIC
   go_wp2_with fail
   refine HGT.out.mono ?_
   intro e w5 hp
   rcases hp with ⟨hn, rfl, hs5⟩ | ⟨v, hv, rfl, hha5, ho5⟩
   · rw [HLK.out] at hn
     cases hn
   · rw [HLK.out] at hv
     cases hv
     have HS5 := Lib.hid (show Still w w5 from ((HS.out.trans HS2.out).trans H4.out.2.1).andThen ho5 fun x hx e => by
      have e' : x = g2 := e
      have := H4.out.2.2.2
      have := HS.out.size
      have := HS2.out.size
      omega)
     have HB45 := Lib.hid (show cellsAt w5 b4 frZ from ((HB4.out.only HS2.out fun e => e).only H4.out.2.1 fun e => e).only ho5 fun e => by
      have e' : b4 = g2 := e
      have := H4.out.2.2.2
      have := HB4.out.lt
      have := HS2.out.size
      omega)
     have HONE := Lib.hid (show (#[u0, u1', u2', u3', .int .i64 z, .bool dd, .int .i64 rr] : Array Value).toList.all (·.oneCell') = true from by
      have := pg_one HPG.out.2
      rw [List.all_eq_true]
      intro y hy
      simp only [List.mem_cons, List.not_mem_nil, or_false] at hy
      rcases hy with rfl | rfl | rfl | rfl | rfl | rfl | rfl
      · exact this _ (by simp)
      · exact this _ (by simp)
      · exact this _ (by simp)
      · exact this _ (by simp)
      · rfl
      · rfl
      · rfl)
     clear hha5 ho5 HGT
     go_wp2_with ((with_reducible (show wpList _ _ _ ({ dst := none, op := Op.store 100 _ _, type := _, pos := _, after := _, guard := _ } :: _) _ _)); (refine wpList_storeAgg rfl 100 _ _ rfl b4 #[u0, u1', u2', u3', .int .i64 z, .bool dd, .int .i64 rr] rfl rfl HB45.out size_fr rfl HONE.out ?_; intro wf hcf hof hzf; have HF := Lib.hid (And.intro hcf (And.intro hof hzf)); clear hcf hof hzf))
     have F2 := Lib.hid (show LkPost c r w H k (.returned (.tuple #[.agg #[u0, u1', u2', u3', .int .i64 z, .bool dd, .int .i64 rr], .bool true])) wf from by
      have hst : Still w wf := HS5.out.andThen HF.out.2.1 fun x hx e => by have e' : x = b4 := e; have := HB.out; omega
      exact ⟨hst, .inr ⟨f, u0, u1', u2', u3', HPG.out.1, by rw [HFZ.out.1, HFZ.out.2.1, HFZ.out.2.2], HPG.out.2.still hst⟩⟩)
     have z0 : wf.cell? ⟨b4, 0, none⟩ = some (u0) := HF.out.1.cell 0
     have z1 : wf.cell? ⟨b4, 1, none⟩ = some (u1') := HF.out.1.cell 1
     have z2 : wf.cell? ⟨b4, 2, none⟩ = some (u2') := HF.out.1.cell 2
     have z3 : wf.cell? ⟨b4, 3, none⟩ = some (u3') := HF.out.1.cell 3
     have z4 : wf.cell? ⟨b4, 4, none⟩ = some (.int .i64 z) := HF.out.1.cell 4
     have z5 : wf.cell? ⟨b4, 5, none⟩ = some (.bool dd) := HF.out.1.cell 5
     have z6 : wf.cell? ⟨b4, 6, none⟩ = some (.int .i64 rr) := HF.out.1.cell 6
     exact bodyPost_ret (v := .tuple #[.agg #[u0, u1', u2', u3', .int .i64 z, .bool dd, .int .i64 rr], .bool true]) (by simp [results, Tryz.results49, go_sem, z0, z1, z2, z3, z4, z5, z6]) rfl F2.out
end
end Go.Proofs.YtlcfoeikamkpmaaGreat

namespace Go.Proofs.YtlcfoeikamkpmaaGreat
open Go.RowKit Go.Wh Go.Maps

section
variable {c : Nat → Nat} {a b m r : Nat} {w : World} {d : Nat} {t : Option Nat} {cf : PCf} {s : PSt}
theorem look_memR {H : Hd PFr} {k : Int} {f : PFr} (h : H.look k = some f) {P : PFr → Prop} (hP : ∀ x ∈ H.l, P x.v) : P f := by
 obtain ⟨y, hy, rfl⟩ := look_mem h
 exact hP y hy
theorem get_ok (hD : Dt c a b w d t cf s) (hok : ∀ x ∈ s.H.l, x.v.p.ok ∧ 0 ≤ x.k ∧ x.k ≤ cf.pages) (k : Int) : (s.get cf k).1 = 0 → (s.get cf k).2.1.p.ok := by
 unfold PSt.get
 by_cases hm : cf.may k = false
 · rw [if_pos hm]
   intro e; cases e
 · rw [if_neg hm]
   cases hl : s.H.look k with
   | some f =>
    intro _
    exact look_memR hl (P := fun f => f.p.ok) fun x hx => (hok x hx).1
   | none =>
    simp only
    by_cases hq : s.D.dead = true
    · rw [if_pos hq]
      intro e; cases e
    · rw [if_neg hq]
      by_cases ht : (takeT (s.tile cf (2 * k)) (s.tile cf (2 * k + 1))).1 ≠ 0
      · rw [if_pos ht]
        intro e
        exact absurd e ht
      · rw [if_neg ht]
        intro _
        have hm' : cf.may k = true := by simpa using hm
        unfold PCf.may at hm'
        simp only [Bool.and_eq_true, decide_eq_true_eq] at hm'
        have hfit := hD.fit
        have key : ∀ j : Nat, cf.first + j < s.D.T.length → (s.D.T.getD (cf.first + j) []).length = 64 ∧ Byt (s.D.T.getD (cf.first + j) []) := fun j hj => by
         obtain ⟨l, hl⟩ : ∃ l, s.D.T[cf.first + j]? = some l := ⟨_, List.getElem?_eq_getElem hj⟩
         rw [List.getD_eq_getElem?_getD, hl]
         exact ⟨hD.dk.lens hl, hD.byt.1 l (List.mem_of_getElem? hl)⟩
        have k1 := key (2 * k).toNat (by omega)
        have k2 := key (2 * k + 1).toNat (by omega)
        exact takeT_ok k1.1 k2.1 k1.2 k2.2 (by simpa using ht)
def PSt.page (cf : PCf) (k : Int) (s : PSt) : Int × PPg × PSt := ((s.get cf k).1, if (s.get cf k).1 = 0 then (s.get cf k).2.1.p else PPg.void, (s.get cf k).2.2)
def PpPost (c : Nat → Nat) (a b m r : Nat) (w : World) (pb d : Nat) (t : Option Nat) (cf : PCf) (R : Int × PPg × PSt) (e : Ending) (w' : World) : Prop :=
 ∃ v0 v1 v2 v3, e = .returned (.tuple #[.agg #[v0, v1, v2, v3, .int .i64 R.2.1.lsn], .int .i64 R.1]) ∧
  ∃ c', Stp (fun i => i = a ∨ i = b ∨ i = m) (fun i => i = a ∨ i = m ∨ i = r) c c' w w' ∧ Dt c' a b w' d t cf R.2.2 ∧ PoAt c' m r w' pb d t cf R.2.2.H ∧ PgIs w' (fun g => c' g = 0 ∧ w.heap.size ≤ g) [v0, v1, v2, v3] R.2.1.c
set_option maxHeartbeats 4000000 in
set_option maxRecDepth 100000 in
theorem ppage_any (hD : Dt c a b w d t cf s) (hf : Dif a b m r) {pb : Nat} (hP : PoAt c m r w pb d t cf s.H) (k : Int) :
 Calls Tryz.prog 16 #[.pointer (some ⟨pb, 0, none⟩), .int .i64 k] w (PpPost c a b m r w pb d t cf (s.page cf k)) := by
 have HGK := Lib.hid (get_ok hD hP.ok k)
 have HGT := Lib.hid (fun w' (hs : Still w w') => pget_any (hD.still hs hf.a0 hf.b0) hf (hP.still hD.low hs hf.m0 hf.r0) k)
 have HD := Lib.hid hD
 have HN := Lib.hid hf
 have HC := Lib.hid (fun tt => cellsAt_new w [.slice none 0 0, .slice none 0 0, .slice none 0 0, .slice none 0 0, .int .i64 0] tt)
 clear hD hf hP
 go_enter Tryz.func16, Tryz.ntmps16
 go_upto_region 1 with fail
 have hc := HC.out 36
 have hs : Still w (w.alloc (.cells #[.slice none 0 0, .slice none 0 0, .slice none 0 0, .slice none 0 0, .int .i64 0] 36)) := (Still.refl w).alloc _
 clear HC
 change cellsAt (w.alloc (.cells #[.slice none 0 0, .slice none 0 0, .slice none 0 0, .slice none 0 0, .int .i64 0] 36)) w.heap.size _ at hc
 generalize (w.alloc (.cells #[.slice none 0 0, .slice none 0 0, .slice none 0 0, .slice none 0 0, .int .i64 0] 36)) = w1 at *
 obtain ⟨b4, hb4⟩ : ∃ b, w.heap.size = b := ⟨_, rfl⟩
 rw [hb4] at hc
 rw [hb4]
 have HB := Lib.hid (show c b4 = 0 ∧ w.heap.size = b4 from ⟨Classical.byContradiction fun e => by have := HD.out.low b4 e; omega, hb4⟩)
 have HS := Lib.hid hs
 have HB4 := Lib.hid hc
 have HGT1 := Lib.hid (HGT.out w1 hs)
 clear hs hc hb4 HGT
 go_wp2_with fail
 refine HGT1.out.mono ?_
 intro e w2 hp
 obtain ⟨R, hR⟩ : ∃ R, s.get cf k = R := ⟨_, rfl⟩
 rw [hR] at hp HGK
 obtain ⟨E, f, s'⟩ := R
 have HPE := Lib.hid (show s.page cf k = (E, if E = 0 then f.p else PPg.void, s') from by
  unfold PSt.page
  rw [hR])
 obtain ⟨u0, u1', u2', u3', he, c2, hst, hd, hpo, hpg⟩ := hp
 dsimp only at he hd hpo hpg HGK
 obtain ⟨z, hz⟩ : ∃ z, f.p.lsn = z := ⟨_, rfl⟩
 obtain ⟨dd, hdd⟩ : ∃ z, f.dirty = z := ⟨_, rfl⟩
 obtain ⟨rr, hrr⟩ : ∃ z, f.rec_ = z := ⟨_, rfl⟩
 rw [hz, hdd, hrr] at he
 subst he
 have HZ := Lib.hid hz
 have H2 := Lib.hid (And.intro hst (And.intro hd (And.intro hpo hpg)))
 have off0 : ∀ x, c x = 0 → ¬ (c x = a ∨ c x = b ∨ c x = m) := fun x e h => by
  rw [e] at h
  rcases h with h | h | h
  · exact HN.out.a0 h.symm
  · exact HN.out.b0 h.symm
  · exact HN.out.m0 h.symm
 have HB42 := Lib.hid (show cellsAt w2 b4 [.slice none 0 0, .slice none 0 0, .slice none 0 0, .slice none 0 0, .int .i64 0] ∧ c2 b4 = 0 from ⟨HB4.out.only hst.only (off0 _ HB.out.1), by rw [hst.old b4 HB4.out.lt]; exact HB.out.1⟩)
 have HONE7 := Lib.hid (show (#[u0, u1', u2', u3', .int .i64 z, .bool dd, .int .i64 rr] : Array Value).toList.all (·.oneCell') = true from by
  have := pg_one hpg
  rw [List.all_eq_true]
  intro y hy
  simp only [List.mem_cons, List.not_mem_nil, or_false] at hy
  rcases hy with rfl | rfl | rfl | rfl | rfl | rfl | rfl
  · exact this _ (by simp)
  · exact this _ (by simp)
  · exact this _ (by simp)
  · exact this _ (by simp)
  · rfl
  · rfl
  · rfl)
 have HC6 := Lib.hid (fun w tt => cellsAt_new w frZ tt)
 clear hst hd hpo hpg hz hdd hrr off0 hR HGT1
 go_upto_region 2 with ((with_reducible (show wpList _ _ _ ({ dst := none, op := Op.store 100 _ _, type := _, pos := _, after := _, guard := _ } :: _) _ _)); (refine wpList_storeAgg rfl 100 _ _ rfl w2.heap.size #[u0, u1', u2', u3', .int .i64 z, .bool dd, .int .i64 rr] rfl rfl (HC6.out _ _) size_fr rfl HONE7.out ?_; intro w3 hcf hof hzf; have H3 := Lib.hid (And.intro hcf (And.intro hof hzf)); clear hcf hof hzf))
 obtain ⟨b6, hb6⟩ : ∃ b, w2.heap.size = b := ⟨_, rfl⟩
 rw [hb6] at H3
 rw [hb6]
 have HS23 := Lib.hid (show Still w2 w3 from ((Still.refl w2).alloc _).andThen H3.out.2.1 fun x hx e => by have e' : x = b6 := e; omega)
 have HST3 := Lib.hid (show Stp (fun i => i = a ∨ i = b ∨ i = m) (fun i => i = a ∨ i = m ∨ i = r) c c2 w w3 from ((Stp.still HD.out.low HS.out).trans H2.out.1).trans (Stp.still H2.out.2.1.low HS23.out))
 have HB43 := Lib.hid (HB42.out.1.only HS23.out fun e => e)
 have HDP3 := Lib.hid (show Dt c2 a b w3 d t cf s' ∧ PoAt c2 m r w3 pb d t cf s'.H from ⟨H2.out.2.1.still HS23.out HN.out.a0 HN.out.b0, H2.out.2.2.1.still H2.out.2.1.low HS23.out HN.out.m0 HN.out.r0⟩)
 clear hb6 HC6 HONE7
 have HEND := Lib.hid (fun (w4 wf : World) (hs : Still w3 w4) (ho : Only (fun x => x = b4) w4 wf) => show Stp (fun i => i = a ∨ i = b ∨ i = m) (fun i => i = a ∨ i = m ∨ i = r) c c2 w wf ∧ Dt c2 a b wf d t cf s' ∧ PoAt c2 m r wf pb d t cf s'.H from by
  have hl3 := HDP3.out.1.low
  have hD4 := HDP3.out.1.still hs HN.out.a0 HN.out.b0
  have hsc : Stp (fun i => i = 0) (fun _ => False) c2 c2 w4 wf := Stp.owns hD4.low (ho.mono fun g e => by
   have e' : g = b4 := e
   show c2 g = 0
   rw [e']
   exact HB42.out.2)
  exact ⟨(HST3.out.trans (Stp.still hl3 hs)).scratch ho (Nat.le_of_eq HB.out.2), hD4.keep hsc HN.out.a0 HN.out.b0 (fun e => e) (fun e => e) HN.out.a0 HN.out.b0, (HDP3.out.2.still hl3 hs HN.out.m0 HN.out.r0).keep hD4.low hsc HN.out.m0 HN.out.r0 (fun e => e) HN.out.m0 HN.out.r0⟩)
 by_cases hE : E = 0
 rotate_left
 · rw [if_neg hE] at HPE
   have d1 : (E != 0) = true := bne_iff_ne.2 hE
   clear hE
   go_wp2_with ((with_reducible (show wpList _ _ _ ({ dst := none, op := Op.store 36 _ _, type := _, pos := _, after := _, guard := _ } :: _) _ _)); (refine wpList_storeAgg rfl 36 _ _ rfl b4 #[.slice none 0 0, .slice none 0 0, .slice none 0 0, .slice none 0 0, .int .i64 0] rfl rfl HB43.out size_page rfl rfl ?_; intro wf hcf hof hzf; have HF := Lib.hid (And.intro hcf (And.intro hof hzf)); clear hcf hof hzf))
   have F2 := Lib.hid (show PpPost c a b m r w pb d t cf (s.page cf k) (.returned (.tuple #[.agg #[.slice none 0 0, .slice none 0 0, .slice none 0 0, .slice none 0 0, .int .i64 0], .int .i64 E])) wf from by
    rw [HPE.out]
    obtain ⟨x0, x1, x2, x3, e, hp⟩ := FrIs.void (w := wf) (Q := fun g => c2 g = 0 ∧ w.heap.size ≤ g)
    injection e with e0 e
    injection e with e1 e
    injection e with e2 e
    injection e with e3 e
    subst e0 e1 e2 e3
    obtain ⟨k1, k2, k3⟩ := HEND.out w3 wf (Still.refl _) HF.out.2.1
    exact ⟨_, _, _, _, rfl, c2, k1, k2, k3, hp⟩)
   have z0 : wf.cell? ⟨b4, 0, none⟩ = some (.slice none 0 0) := HF.out.1.cell 0
   have z1 : wf.cell? ⟨b4, 1, none⟩ = some (.slice none 0 0) := HF.out.1.cell 1
   have z2 : wf.cell? ⟨b4, 2, none⟩ = some (.slice none 0 0) := HF.out.1.cell 2
   have z3 : wf.cell? ⟨b4, 3, none⟩ = some (.slice none 0 0) := HF.out.1.cell 3
   have z4 : wf.cell? ⟨b4, 4, none⟩ = some (.int .i64 0) := HF.out.1.cell 4
   exact bodyPost_ret (v := .tuple #[.agg #[.slice none 0 0, .slice none 0 0, .slice none 0 0, .slice none 0 0, .int .i64 0], .int .i64 E]) (by simp [results, Tryz.results16, go_sem, z0, z1, z2, z3, z4]) rfl F2.out
 subst hE
 rw [if_pos rfl] at HPE
 have HOKP := Lib.hid (HGK.out rfl)
 have HPG3 := Lib.hid (H2.out.2.2.2.still HS23.out)
 have HTW := Lib.hid (ptwin_any w3 u0 u1' u2' u3' z f.p.c HPG3.out (fun l hl => by
  rcases HOKP.out.each l hl with e | e
  · rw [e]; exact Nat.zero_le _
  · omega))
 have HRG := Lib.hid (show w3.rangeAt b6 0 [u0, u1', u2', u3', .int .i64 z] from fun j u hj => by
  rw [Nat.zero_add, H3.out.1.cell j]
  rcases (show j = 0 ∨ j = 1 ∨ j = 2 ∨ j = 3 ∨ j = 4 from by have := (List.getElem?_eq_some_iff.1 hj).1; simp at this; omega) with rfl | rfl | rfl | rfl | rfl <;> exact hj)
 go_upto_region 4 with fail
 go_wp2_with ((with_reducible (show wpList _ _ _ ({ dst := some 19, op := _, type := _, pos := _, after := _, guard := _ } :: _) _ _)); (refine wpList_load_mid rfl 36 _ rfl b6 0 rfl [u0, u1', u2', u3', .int .i64 z] _ HRG.out Tryz.underlying36 rfl size_page ?_))
 refine HTW.out.mono ?_
 rintro e w4 ⟨x0, x1, x2, x3, rfl, hpg4, hs4⟩
 have HP4 := Lib.hid (And.intro hpg4 hs4)
 have HONE := Lib.hid (show (#[x0, x1, x2, x3, .int .i64 z] : Array Value).toList.all (·.oneCell') = true from by
  have := pg_one hpg4
  rw [List.all_eq_true]
  intro y hy
  simp only [List.mem_cons, List.not_mem_nil, or_false] at hy
  rcases hy with rfl | rfl | rfl | rfl | rfl
  · exact this _ (by simp)
  · exact this _ (by simp)
  · exact this _ (by simp)
  · exact this _ (by simp)
  · rfl)
 have HB44 := Lib.hid (HB43.out.only hs4 fun e => e)
 clear hpg4 hs4 HTW HRG
 go_wp2_with ((with_reducible (show wpList _ _ _ ({ dst := none, op := Op.store 36 _ _, type := _, pos := _, after := _, guard := _ } :: _) _ _)); (refine wpList_storeAgg rfl 36 _ _ rfl b4 #[x0, x1, x2, x3, .int .i64 z] rfl rfl HB44.out size_page rfl HONE.out ?_; intro wf hcf hof hzf; have HF := Lib.hid (And.intro hcf (And.intro hof hzf)); clear hcf hof hzf))
 have F2 := Lib.hid (show PpPost c a b m r w pb d t cf (s.page cf k) (.returned (.tuple #[.agg #[x0, x1, x2, x3, .int .i64 z], .int .i64 0])) wf from by
  rw [HPE.out]
  obtain ⟨k1, k2, k3⟩ := HEND.out w4 wf HP4.out.2 HF.out.2.1
  refine ⟨x0, x1, x2, x3, by rw [HZ.out], c2, k1, k2, k3, (HP4.out.1.only HF.out.2.1 fun g hg e => ?_).mono fun g hg => ?_⟩
  · have e' : g = b4 := e
    have := HB43.out.lt
    omega
  · refine ⟨Classical.byContradiction fun e => ?_, ?_⟩
    · have := HDP3.out.1.low g e
      omega
    · have := HST3.out.only.size
      omega)
 have z0 : wf.cell? ⟨b4, 0, none⟩ = some (x0) := HF.out.1.cell 0
 have z1 : wf.cell? ⟨b4, 1, none⟩ = some (x1) := HF.out.1.cell 1
 have z2 : wf.cell? ⟨b4, 2, none⟩ = some (x2) := HF.out.1.cell 2
 have z3 : wf.cell? ⟨b4, 3, none⟩ = some (x3) := HF.out.1.cell 3
 have z4 : wf.cell? ⟨b4, 4, none⟩ = some (.int .i64 z) := HF.out.1.cell 4
 exact bodyPost_ret (v := .tuple #[.agg #[x0, x1, x2, x3, .int .i64 z], .int .i64 0]) (by simp [results, Tryz.results16, go_sem, z0, z1, z2, z3, z4]) rfl F2.out
end
end Go.Proofs.YtlcfoeikamkpmaaGreat

namespace Go.Proofs.YtlcfoeikamkpmaaGreat
open Go.RowKit Go.Wh Go.Maps

section
variable {c : Nat → Nat} {a b m r : Nat} {w : World} {d : Nat} {t : Option Nat} {cf : PCf} {s : PSt}
theorem po_same {pb : Nat} {w' : World} {E : Int} (hD : Dt c a b w d t cf s) (hf : Dif a b m r) (hP : PoAt c m r w pb d t cf s.H) (hs : Still w w') : PoPost c a b m r w pb d t cf (.int .i64 E) s (.returned (.int .i64 E)) w' :=
 ⟨rfl, c, Stp.still hD.low hs, hD.still hs hf.a0 hf.b0, hP.still hD.low hs hf.m0 hf.r0⟩
theorem look_lt {V : Type} {h : Hd V} {k : Int} {v : V} (hv : h.look k = some v) : fdI (isK k) h.l < h.l.length := by
 unfold Hd.look at hv
 cases e : h.l[fdI (isK k) h.l]? with
 | none => rw [e] at hv; cases hv
 | some y => exact (List.getElem?_eq_some_iff.1 e).1
set_option maxHeartbeats 4000000 in
set_option maxRecDepth 100000 in
theorem pflush_any (hD : Dt c a b w d t cf s) (hf : Dif a b m r) {pb : Nat} (hP : PoAt c m r w pb d t cf s.H) (k : Int) :
 Calls Tryz.prog 21 #[.pointer (some ⟨pb, 0, none⟩), .int .i64 k] w (PoPost c a b m r w pb d t cf (.int .i64 (s.flush cf k).1) (s.flush cf k).2) := by
 have HP := Lib.hid hP
 have HD := Lib.hid hD
 have HN := Lib.hid hf
 obtain ⟨⟨hb, g, o, n, cap, Hv, hcp, hha, hrel, cpb, chb, cg, npb, npg⟩, hoks⟩ := hP
 have HCP := Lib.hid hcp
 have HHA := Lib.hid hha
 have HREL := Lib.hid hrel
 have HOK := Lib.hid hoks
 have HCC := Lib.hid (And.intro cpb (And.intro chb (And.intro cg (And.intro npb npg))))
 have HMY := Lib.hid (pmay_any (cf := cf) hcp k)
 have HLK := Lib.hid (plook_any HP.out k)
 clear hha hrel hoks hD hf cpb chb cg npb npg hcp
 cases hm : cf.may k with
 | false =>
  rw [hm] at HMY
  have HFL := Lib.hid (show s.flush cf k = (1, s) from by
   unfold PSt.flush
   rw [if_pos hm])
  clear hm
  go_enter Tryz.func21, Tryz.ntmps21
  go_wp2_with fail
  refine HMY.out.mono ?_
  rintro e w2 ⟨rfl, rfl⟩
  have F := Lib.hid (show PoPost c a b m r w2 pb d t cf (.int .i64 (s.flush cf k).1) (s.flush cf k).2 (.returned (.int .i64 1)) w2 from by
   rw [HFL.out]
   exact po_same HD.out HN.out HP.out (Still.refl _))
  go_wp2_with fail
  go_ret
  exact F.out
 | true =>
 rw [hm] at HMY
 have hm2 := hm
 unfold PCf.may at hm2
 simp only [Bool.and_eq_true, decide_eq_true_eq] at hm2
 have HM := Lib.hid (And.intro hm hm2)
 clear hm hm2
 go_enter Tryz.func21, Tryz.ntmps21
 go_wp2_with fail
 refine HMY.out.mono ?_
 rintro e w1 ⟨rfl, rfl⟩
 clear HMY
 go_wp2_with fail
 refine HLK.out.mono ?_
 intro e w2 hp
 obtain ⟨hs2, hp⟩ := hp
 have HS2 := Lib.hid hs2
 have HC5 := Lib.hid (fun w tt => cellsAt_new w frZ tt)
 clear HLK hs2
 rcases hp with ⟨hn, rfl⟩ | ⟨f, u0, u1', u2', u3', hk, rfl, hpg⟩
 · have HFL := Lib.hid (show s.flush cf k = (0, s) from by
    unfold PSt.flush
    rw [if_neg (by rw [HM.out.1]; decide), hn])
   clear hn
   go_upto_region 4 with ((with_reducible (show wpList _ _ _ ({ dst := none, op := Op.store 100 _ _, type := _, pos := _, after := _, guard := _ } :: _) _ _)); (refine wpList_storeAgg rfl 100 _ _ rfl w2.heap.size #[.slice none 0 0, .slice none 0 0, .slice none 0 0, .slice none 0 0, .int .i64 0, .bool false, .int .i64 0] rfl rfl (HC5.out _ _) size_fr rfl rfl ?_; intro w3 hcf hof hzf; have H3 := Lib.hid (And.intro hcf (And.intro hof hzf)); clear hcf hof hzf))
   have F := Lib.hid (show PoPost c a b m r w1 pb d t cf (.int .i64 (s.flush cf k).1) (s.flush cf k).2 (.returned (.int .i64 0)) w3 from by
    rw [HFL.out]
    exact po_same HD.out HN.out HP.out ((HS2.out.alloc _).andThen H3.out.2.1 fun x hx e => by have e' : x = w2.heap.size := e; have := HS2.out.size; omega))
   go_wp2_with fail
   go_ret
   exact F.out
 obtain ⟨z, hz⟩ : ∃ z, f.p.lsn = z := ⟨_, rfl⟩
 obtain ⟨dd, hdd⟩ : ∃ z, f.dirty = z := ⟨_, rfl⟩
 obtain ⟨rr, hrr⟩ : ∃ z, f.rec_ = z := ⟨_, rfl⟩
 rw [hz, hdd, hrr]
 have HFZ := Lib.hid (And.intro hz (And.intro hdd hrr))
 have HKF := Lib.hid (And.intro hk (And.intro hpg (look_memR hk (P := fun f => f.p.ok) fun x hx => (HOK.out x hx).1)))
 have HONE7 := Lib.hid (show (#[u0, u1', u2', u3', .int .i64 z, .bool dd, .int .i64 rr] : Array Value).toList.all (·.oneCell') = true from by
  have := pg_one hpg
  rw [List.all_eq_true]
  intro y hy
  simp only [List.mem_cons, List.not_mem_nil, or_false] at hy
  rcases hy with rfl | rfl | rfl | rfl | rfl | rfl | rfl
  · exact this _ (by simp)
  · exact this _ (by simp)
  · exact this _ (by simp)
  · exact this _ (by simp)
  · rfl
  · rfl
  · rfl)
 clear hk hpg hz hdd hrr
 go_upto_region 4 with ((with_reducible (show wpList _ _ _ ({ dst := none, op := Op.store 100 _ _, type := _, pos := _, after := _, guard := _ } :: _) _ _)); (refine wpList_storeAgg rfl 100 _ _ rfl w2.heap.size #[u0, u1', u2', u3', .int .i64 z, .bool dd, .int .i64 rr] rfl rfl (HC5.out _ _) size_fr rfl HONE7.out ?_; intro w3 hcf hof hzf; have H3 := Lib.hid (And.intro hcf (And.intro hof hzf)); clear hcf hof hzf))
 obtain ⟨b5, hb5⟩ : ∃ b, w2.heap.size = b := ⟨_, rfl⟩
 rw [hb5] at H3
 rw [hb5]
 have HS13 := Lib.hid (show Still w1 w3 from (HS2.out.alloc _).andThen H3.out.2.1 fun x hx e => by have e' : x = b5 := e; have := HS2.out.size; omega)
 have HB5 := Lib.hid (show w1.heap.size ≤ b5 from by have := HS2.out.size; omega)
 have q5 : w3.cell? ⟨b5, 5, none⟩ = some (.bool dd) := H3.out.1.cell 5
 have HS23 := Lib.hid (show Still w2 w3 from ((Still.refl w2).alloc _).andThen H3.out.2.1 fun x hx e => by have e' : x = b5 := e; omega)
 clear hb5 HC5
 cases dd with
 | false =>
  have HFL := Lib.hid (show s.flush cf k = (0, s) from by
   unfold PSt.flush
   rw [if_neg (by rw [HM.out.1]; decide), HKF.out.1]
   simp only
   rw [if_pos HFZ.out.2.1])
  have F := Lib.hid (show PoPost c a b m r w1 pb d t cf (.int .i64 (s.flush cf k).1) (s.flush cf k).2 (.returned (.int .i64 0)) w3 from by
   rw [HFL.out]
   exact po_same HD.out HN.out HP.out HS13.out)
  go_wp2_with fail
  go_ret
  exact F.out
 | true =>
 have HD3 := Lib.hid (HD.out.still HS13.out HN.out.a0 HN.out.b0)
 have HPG3 := Lib.hid (HKF.out.2.1.still HS23.out)
 have HCP3 := Lib.hid (HCP.out.only HS13.out fun e => e)
 have HWR := Lib.hid (show Calls Tryz.prog 56 #[.pointer (some ⟨pb, 0, none⟩), .int .i64 k, .agg #[u0, u1', u2', u3', .int .i64 z, .bool true, .int .i64 rr]] w3 (DtPost c a b w3 d t cf (s.write cf k f)) from by
  have := pwrite_any HD3.out HN.out.a0 HN.out.b0 HN.out.ab HCP3.out (by rw [HCC.out.1]; exact Ne.symm HN.out.am) (by rw [HCC.out.1]; exact Ne.symm HN.out.bm) HPG3.out (fun g hg => by have e : c g = r := hg; rw [e]; exact ⟨Ne.symm HN.out.ar, Ne.symm HN.out.br⟩) HKF.out.2.2 k HM.out.2.1 (by have := HM.out.2.2; have := HD3.out.fit; have := HD3.out.len; omega) (by have := HD3.out.fit; have := HD3.out.len; omega)
  rw [HFZ.out.1, HFZ.out.2.1, HFZ.out.2.2] at this
  exact this)
 have HFL := Lib.hid (show s.flush cf k = if (s.write cf k f).1 ≠ 0 then s.write cf k f else (0, { (s.write cf k f).2 with H := (s.write cf k f).2.H.swap k { f with dirty := false } }) from by
  unfold PSt.flush
  rw [if_neg (by rw [HM.out.1]; decide), HKF.out.1]
  simp only
  rw [if_neg (by rw [HFZ.out.2.1]; decide)])
 go_upto_region 6 with fail
 clear q5
 go_wp2_with ((with_reducible (show wpList _ _ _ ({ dst := some 27, op := _, type := _, pos := _, after := _, guard := _ } :: _) _ _)); (refine wpList_loadAgg rfl 100 _ rfl b5 #[u0, u1', u2', u3', .int .i64 z, .bool true, .int .i64 rr] rfl H3.out.1 _ Tryz.underlying100 rfl size_fr ?_))
 refine HWR.out.mono ?_
 rintro e w4 ⟨rfl, c4, hst, hd⟩
 have hpoK : PoAt c4 m r w4 pb d t cf s.H := (HP.out.still HD.out.low HS13.out HN.out.m0 HN.out.r0).keep HD3.out.low hst (fun e => e.elim (fun e => HN.out.am e.symm) fun e => HN.out.bm e.symm) (fun e => e.elim (fun e => HN.out.ar e.symm) fun e => HN.out.br e.symm) (fun e => HN.out.ar e.symm) HN.out.m0 HN.out.r0
 have H4 := Lib.hid (And.intro hst (And.intro hd hpoK))
 have HST4 := Lib.hid (show Stp (fun i => i = a ∨ i = b ∨ i = m) (fun i => i = a ∨ i = m ∨ i = r) c c4 w1 w4 from (Stp.still HD.out.low HS13.out).trans (hst.mono (fun i e => by rcases e with e | e; exact .inl e; exact .inr (.inl e)) fun i e => .inl e))
 obtain ⟨E, hE⟩ : ∃ E, (s.write cf k f).1 = E := ⟨_, rfl⟩
 have HE := Lib.hid hE
 rw [hE]
 by_cases hE0 : E = 0
 rotate_left
 · have F := Lib.hid (show PoPost c a b m r w1 pb d t cf (.int .i64 (s.flush cf k).1) (s.flush cf k).2 (.returned (.int .i64 E)) w4 from by
    rw [HFL.out, if_pos (by rw [hE]; exact hE0)]
    exact ⟨by rw [hE], c4, HST4.out, hd, by rw [write_hand]; exact hpoK⟩)
   have d1 : (E != 0) = true := bne_iff_ne.2 hE0
   clear hst hd hpoK hE hE0
   go_wp2_with fail
   go_ret
   exact F.out
 subst hE0
 have off0 : ∀ x, c x = 0 → ¬ (c x = a ∨ c x = b) := fun x e h => by rw [e] at h; exact h.elim (fun e => HN.out.a0 e.symm) fun e => HN.out.b0 e.symm
 have h5c : c b5 = 0 := Classical.byContradiction fun e => by have := HD.out.low b5 e; have := HB5.out; omega
 have HC54 := Lib.hid (show cellsAt w4 b5 [u0, u1', u2', u3', .int .i64 z, .bool true, .int .i64 rr] ∧ c4 b5 = 0 from ⟨H3.out.1.only hst.only (off0 _ h5c), by rw [hst.old b5 H3.out.1.lt]; exact h5c⟩)
 have q5 : w4.cell? ⟨b5, 5, none⟩ = some (.bool true) := HC54.out.1.cell 5
 have f5 : w4.frozen? ⟨b5, 5, none⟩ = false := HC54.out.1.free 5
 clear hst hd hpoK hE off0 h5c HWR
 go_upto_region 10 with fail
 have HC5' := Lib.hid (HC54.out.1.setCell 5 (.bool false))
 have HO5 := Lib.hid (setCell_only w4 ⟨b5, 5, none⟩ (.bool false))
 clear q5 f5
 generalize w4.setCell ⟨b5, 5, none⟩ (.bool false) = w5 at *
 have hsc : Stp (fun i => i = 0) (fun _ => False) c4 c4 w4 w5 := Stp.owns H4.out.2.1.low (HO5.out.mono fun x e => by
  have e' : x = b5 := e
  show c4 x = 0
  rw [e']
  exact HC54.out.2)
 have HST5 := Lib.hid (HST4.out.scratch HO5.out HB5.out)
 have HD5 := Lib.hid (H4.out.2.1.keep hsc HN.out.a0 HN.out.b0 (fun e => e) (fun e => e) HN.out.a0 HN.out.b0)
 have hpo5 := H4.out.2.2.keep H4.out.2.1.low hsc HN.out.m0 HN.out.r0 (fun e => e) HN.out.m0 HN.out.r0
 have HPG5 := Lib.hid (show PgIs w5 (Cs c4 r) [u0, u1', u2', u3'] f.p.c from by
  have h1 := (HPG3.out.only H4.out.1.only (H4.out.1.off (j := r) fun e => e.elim (fun e => HN.out.ar e.symm) fun e => HN.out.br e.symm))
  refine (h1.only HO5.out fun g hg e => ?_).mono fun g hg => ?_
  · have e' : g = b5 := e
    have e1 : c g = r := hg
    have h0 : c b5 = 0 := Classical.byContradiction fun h => by have := HD.out.low b5 h; have := HB5.out; omega
    rw [e', h0] at e1
    exact HN.out.r0 e1.symm
  · exact H4.out.1.sub HD3.out.low HN.out.r0 g hg)
 clear hsc
 obtain ⟨⟨hb2, g2, o2, n2, cap2, Hv2, hcp2, hha2, hrel2, cpb2, chb2, cg2, npb2, npg2⟩, -⟩ := hpo5
 have HH2 := Lib.hid (And.intro hha2 (And.intro hrel2 (And.intro cg2 (And.intro cpb2 (And.intro chb2 (And.intro hcp2 (And.intro npb2 npg2)))))))
 have hlkv := hrel2.look (k := k)
 have hlt : fdI (isK k) Hv2.l < n2 := by
  rw [← hha2.len]
  rcases hlkv with ⟨_, h2⟩ | ⟨v, f', h1, _, _⟩
  · rw [HKF.out.1] at h2
    cases h2
  · exact look_lt h1
 have HSWP := Lib.hid (fun w' (hs : Still w5 w') => hswap_any (hha2.still hs) k u0 u1' u2' u3' (.int .i64 z) (.bool false) (.int .i64 rr) (fun u hu => by
  have := pg_one HPG5.out
  simp only [List.mem_cons, List.not_mem_nil, or_false] at hu
  rcases hu with rfl | rfl | rfl | rfl | rfl | rfl | rfl
  · exact this _ (by simp)
  · exact this _ (by simp)
  · exact this _ (by simp)
  · exact this _ (by simp)
  · rfl
  · rfl
  · rfl) hlt)
 have p4 : w5.cell? ⟨pb, 4, none⟩ = some (.pointer (some ⟨hb2, 0, none⟩)) := hcp2.cell 4
 have HSS := Lib.hid (show w5.drew.cell? ⟨pb, 4, none⟩ = some (.pointer (some ⟨hb2, 0, none⟩)) ∧ cellsAt w5.drew b5 [u0, u1', u2', u3', .int .i64 z, .bool false, .int .i64 rr] from ⟨p4, HC5'.out⟩)
 clear hha2 hrel2 cg2 cpb2 chb2 hcp2 npb2 npg2 hlkv hlt p4
 refine wp_region_D_drew (D := (fun i => false)) (S := (fun w' => w'.cell? ⟨pb, 4, none⟩ = some (.pointer (some ⟨hb2, 0, none⟩)) ∧ cellsAt w' b5 [u0, u1', u2', u3', .int .i64 z, .bool false, .int .i64 rr])) (by kernel_rfl) ?_ (fun hHeld => ?_)
 · exact HSS.out
 (refine takeS (i := 0) (some 33) (v := ?_) rfl (by rfl) (by rfl) (by kernel_rfl) (by rfl) (fun _ _ _ h => h) hHeld ?_ ?_; rotate_left; (intro w hSw; go_simp; try with_reducible rfl); try go_frame)
 (refine takeS (i := 1) (some 34) (v := ?_) rfl (by rfl) (by rfl) (by kernel_rfl) (by rfl) (fun _ _ _ h => h) hHeld ?_ ?_; rotate_left; (intro w hSw; go_simp; try with_reducible rfl); try go_frame)
 (refine takeS (i := 2) (some 35) (v := ?_) rfl (by rfl) (by rfl) (by kernel_rfl) (by rfl) (fun _ _ _ h => h) hHeld ?_ ?_; rotate_left; (intro w hSw; go_simp; try with_reducible rfl); try go_frame)
 (refine takeS (i := 3) (some 36) (v := .pointer (some ⟨hb2, 0, none⟩)) rfl (by rfl) (by rfl) (by kernel_rfl) (by rfl) (fun _ _ _ h => h) hHeld ?_ ?_; (intro w hSw; have c := hSw.1; go_simp); try go_frame)
 (refine takeS (i := 4) (some 37) (v := ?_) rfl (by rfl) (by rfl) (by kernel_rfl) (by rfl) (fun _ _ _ h => h) hHeld ?_ ?_; rotate_left; (intro w hSw; go_simp; try with_reducible rfl); try go_frame)
 (refine takeS (i := 5) (some 38) (v := .agg #[u0, u1', u2', u3', .int .i64 z, .bool false, .int .i64 rr]) rfl (by rfl) (by rfl) (by kernel_rfl) (by rfl) (fun _ _ _ h => h) hHeld ?_ ?_; (intro w hSw; exact exec_load7 rfl rfl hSw.2 rfl); try go_frame)
 refine wpAnyD_ready (rs := [6]) (by kernel_rfl) (by simp) ?_
 refine ReadyD.cons rfl (fun K hK => ?_) ?_
 go_simp
 (go_at_call 57; (with_reducible refine (HSWP.out _ (still_drew _)).mono ?_))
 rintro e w6 ⟨rfl, hha6, ho6⟩
 have ho56 : Only (fun x => x = g2) w5 w6 := ((still_drew w5).mono fun _ e => e.elim).trans ho6
 have F := Lib.hid (show PoPost c a b m r w1 pb d t cf (.int .i64 (s.flush cf k).1) (s.flush cf k).2 (.returned (.int .i64 0)) w6 from by
  rw [HFL.out, if_neg (fun e => e HE.out)]
  obtain ⟨q1, q2, q3, q4, q5, q6, q7, q8⟩ := HH2.out
  have hX : ∀ x, x = g2 → c4 x = m := fun x e => by rw [e]; exact q3
  have hst6 : Stp (fun i => i = a ∨ i = b ∨ i = m) (fun i => i = a ∨ i = m ∨ i = r) c4 c4 w5 w6 := Stp.own (i := m) HD5.out.low (ho56.mono hX) (.inr (.inr rfl))
  have hst7 : Stp (fun i => i = m) (fun i => i = m) c4 c4 w5 w6 := Stp.own (i := m) HD5.out.low (ho56.mono hX) rfl
  have offr : ∀ x, Cs c4 r x → ¬ x = g2 := fun x e1 e2 => by
   have e1' : c4 x = r := e1
   rw [e2, q3] at e1'
   exact HN.out.mr e1'
  refine ⟨rfl, c4, HST5.out.trans hst6, (HD5.out.keep hst7 HN.out.am HN.out.bm HN.out.am HN.out.bm HN.out.a0 HN.out.b0).hand _, ⟨hb2, g2, o2, n2, cap2, _, q6.only ho56 (fun e => q8 e), hha6, ?_, q4, q5, q3, q7, q8⟩, fun x hx => ?_⟩
  · rw [write_hand]
    refine (q2.mono fun v f hv => hv.only ho56 offr).swap ?_
    exact ⟨u0, u1', u2', u3', by rw [HFZ.out.1, HFZ.out.2.2], HPG5.out.only ho56 offr⟩
  · rw [write_hand] at hx
    rcases modI_mem hx with hx | ⟨y, hy, rfl⟩
    · exact HOK.out x hx
    · exact ⟨HKF.out.2.2, (HOK.out y hy).2⟩)
 have hh6 : w6.cell? ⟨pb, 4, none⟩ = some (.pointer (some ⟨hb2, 0, none⟩)) ∧ cellsAt w6 b5 [u0, u1', u2', u3', .int .i64 z, .bool false, .int .i64 rr] := by
  obtain ⟨q1, q2, q3, q4, q5, q6, q7, q8⟩ := HH2.out
  have hl5 := H4.out.2.1.low
  refine ⟨(q6.only ho56 (fun e => q8 e)).cell 4, HC5'.out.only ho56 fun e => ?_⟩
  have e' : b5 = g2 := e
  have := HC54.out.2
  rw [e', q3] at this
  exact HN.out.m0 this
 clear hha6 ho6 ho56 hHeld
 go_wp2_with fail
 refine hK.out _ _ hh6 (fun hNew => ?_)
 clear hh6 hNew
 (clear hK K; try go_frame)
 refine wpAnyD_done (by kernel_rfl) ?_ _
 rotate_left
 exact ReadyD.nil
 go_wp2_with fail
 go_ret
 exact F.out
end
end Go.Proofs.YtlcfoeikamkpmaaGreat

namespace Go.Proofs.YtlcfoeikamkpmaaGreat
open Go.RowKit Go.Wh Go.Maps

section
variable {c : Nat → Nat} {a b m r : Nat} {w : World} {d : Nat} {t : Option Nat} {cf : PCf} {s : PSt}
theorem paint_sys {N : Nat → Prop} {pb : Nat} {w' : World} (hD : Dt c a b w d t cf s) (hf : Dif a b m r) (hP : PoAt c m r w pb d t cf s.H) (hs : Still w w') (hcN : ∀ g, N g → c g = 0) (hN : ∀ g, N g → w.heap.size ≤ g ∧ g < w'.heap.size) :
 Dt (paint c N r) a b w' d t cf s ∧ PoAt (paint c N r) m r w' pb d t cf s.H ∧ Stp (fun i => i = a ∨ i = b ∨ i = m) (fun i => i = a ∨ i = m ∨ i = r) c (paint c N r) w w' ∧ ∀ x, Cs c r x → Cs (paint c N r) r x := by
 have hst : Stp (fun i => i = a ∨ i = b ∨ i = m) (fun i => i = a ∨ i = m ∨ i = r) c (paint c N r) w w' := (Stp.still hD.low hs).paint hN (.inr (.inr rfl))
 have ea := paint_same (i := r) hcN hf.a0 hf.ar
 have eb := paint_same (i := r) hcN hf.b0 hf.br
 have h9 := hD.still hs hf.a0 hf.b0
 have kept : ∀ x, c x = m → paint c N r x = m := fun x e => by
  rw [paint_out (fun hx => by have := hcN x hx; have := hf.m0; omega)]
  exact e
 have hsubr : ∀ x, Cs c r x → Cs (paint c N r) r x := fun x e => by
  have e' : c x = r := e
  show paint c N r x = r
  rw [paint_out (fun hx => by have := hcN x hx; have := hf.r0; omega)]
  exact e'
 obtain ⟨⟨hb, g, o, n, cap, Hv, hcp, hha, hrel, cpb, chb, cg, npb, npg⟩, hoks⟩ := hP
 exact ⟨⟨hst.low, by rw [ea]; exact h9.dk, fun t' e => by rw [eb]; exact h9.tr t' e, h9.trf, h9.fine, h9.byt, h9.len, h9.trl, h9.fit⟩,
  ⟨⟨hb, g, o, n, cap, Hv, hcp.only hs (fun e => e), hha.still hs, hrel.mono (fun v f hv => (hv.only hs fun _ _ e => e).mono hsubr), kept _ cpb, kept _ chb, kept _ cg, npb, npg⟩, hoks⟩, hst, hsubr⟩
set_option maxHeartbeats 4000000 in
set_option maxRecDepth 100000 in
theorem plaid_any (hD : Dt c a b w d t cf s) (hf : Dif a b m r) {pb : Nat} (hP : PoAt c m r w pb d t cf s.H) (k : Int) {Q : Nat → Prop} {v0 v1 v2 v3 : Value} {g : PPg} (hg : PgIs w Q [v0, v1, v2, v3] g.c) (hby : ∀ l ∈ g.c, Byt l) (rc : Int) :
 Calls Tryz.prog 18 #[.pointer (some ⟨pb, 0, none⟩), .int .i64 k, .agg #[v0, v1, v2, v3, .int .i64 g.lsn], .int .i64 rc] w (PoPost c a b m r w pb d t cf (.int .i64 (s.laid cf k g rc).1) (s.laid cf k g rc).2) := by
 have HP := Lib.hid hP
 have HD := Lib.hid hD
 have HN := Lib.hid hf
 have HG := Lib.hid (And.intro hg hby)
 obtain ⟨⟨hb, gg, o, n, cap, Hv, hcp, -⟩, -⟩ := hP
 obtain ⟨z, hz⟩ : ∃ z, g.lsn = z := ⟨_, rfl⟩
 have HZ := Lib.hid hz
 rw [hz]
 have HC6 := Lib.hid (fun tt => cellsAt_new w [v0, v1, v2, v3, .int .i64 z] tt)
 have HMY := Lib.hid (fun w' (hs : Still w w') => pmay_any (cf := cf) (hcp.only hs fun e => e) k)
 have HLP := Lib.hid (fun w' (hs : Still w w') => show Calls Tryz.prog 48 #[.agg #[v0, v1, v2, v3, .int .i64 z]] w' (LpPost w' g) from by
  have := lput_any w' g v0 v1 v2 v3 (hg.still hs)
  rw [hz] at this
  exact this)
 have HLK := Lib.hid (fun w' (hs : Still w w') => plook_any (HP.out.still HD.out.low hs HN.out.m0 HN.out.r0) k)
 clear hD hf hg hby hcp hz
 go_enter Tryz.func18, Tryz.ntmps18
 go_upto_region 1 with fail
 have hc := HC6.out 36
 have hs : Still w (w.alloc (.cells #[v0, v1, v2, v3, .int .i64 z] 36)) := (Still.refl w).alloc _
 clear HC6
 change cellsAt (w.alloc (.cells #[v0, v1, v2, v3, .int .i64 z] 36)) w.heap.size _ at hc
 generalize (w.alloc (.cells #[v0, v1, v2, v3, .int .i64 z] 36)) = w1 at *
 obtain ⟨b6, hb6⟩ : ∃ b, w.heap.size = b := ⟨_, rfl⟩
 rw [hb6] at hc
 rw [hb6]
 have H1 := Lib.hid (And.intro hs hc)
 have HMY1 := Lib.hid (HMY.out w1 hs)
 have HLP1 := Lib.hid (HLP.out w1 hs)
 clear hs hc hb6 HMY HLP
 cases hm : cf.may k with
 | false =>
  rw [hm] at HMY1
  have HLA := Lib.hid (show s.laid cf k g rc = (1, s) from by
   unfold PSt.laid
   rw [if_pos hm])
  clear hm
  go_wp2_with fail
  refine HMY1.out.mono ?_
  rintro e w2 ⟨rfl, rfl⟩
  have F := Lib.hid (show PoPost c a b m r w pb d t cf (.int .i64 (s.laid cf k g rc).1) (s.laid cf k g rc).2 (.returned (.int .i64 1)) w2 from by
   rw [HLA.out]
   exact po_same HD.out HN.out HP.out H1.out.1)
  go_wp2_with fail
  go_ret
  exact F.out
 | true =>
 rw [hm] at HMY1
 have hm2 := hm
 unfold PCf.may at hm2
 simp only [Bool.and_eq_true, decide_eq_true_eq] at hm2
 have HM := Lib.hid (And.intro hm hm2)
 clear hm hm2
 go_wp2_with fail
 refine HMY1.out.mono ?_
 rintro e w2 ⟨rfl, rfl⟩
 clear HMY1
 go_upto_region 3 with fail
 go_wp2_with ((with_reducible (show wpList _ _ _ ({ dst := some 19, op := _, type := _, pos := _, after := _, guard := _ } :: _) _ _)); (refine wpList_loadAgg rfl 36 _ rfl b6 #[v0, v1, v2, v3, .int .i64 z] rfl H1.out.2 _ Tryz.underlying36 rfl size_page ?_))
 refine HLP1.out.mono ?_
 intro e w3 hp
 unfold LpPost at hp
 by_cases hgm : g.may = true
 rotate_left
 · rw [if_neg hgm] at hp
   obtain ⟨rfl, hs3⟩ := hp
   have F := Lib.hid (show PoPost c a b m r w pb d t cf (.int .i64 (s.laid cf k g rc).1) (s.laid cf k g rc).2 (.returned (.int .i64 1)) w3 from by
    have : s.laid cf k g rc = (1, s) := by
     unfold PSt.laid
     rw [if_neg (by rw [HM.out.1]; decide), if_pos (by simpa using hgm)]
    rw [this]
    exact po_same HD.out HN.out HP.out (H1.out.1.trans hs3))
   clear hs3 hgm
   go_wp2_with fail
   go_ret
   exact F.out
 rw [if_pos hgm] at hp
 obtain ⟨va, vb, rfl, -, -, hs3, -, -⟩ := hp
 have HOKG := Lib.hid (show g.ok from by
  unfold PPg.may at hgm
  rw [Bool.and_eq_true, List.all_eq_true] at hgm
  exact ⟨HG.out.1.m, fun l hl => okC_iff.1 (hgm.2 l hl), HG.out.2⟩)
 have HGM := Lib.hid hgm
 have HS3 := Lib.hid (H1.out.1.trans hs3)
 have HB63 := Lib.hid (H1.out.2.only hs3 fun e => e)
 have HLK3 := Lib.hid (HLK.out w3 HS3.out)
 clear hs3 hgm HLK HLP1
 go_upto_region 6 with fail
 go_wp2_with fail
 refine HLK3.out.mono ?_
 intro e w4 hp
 obtain ⟨hs4, hp⟩ := hp
 have HS4 := Lib.hid (HS3.out.trans hs4)
 have HB64 := Lib.hid (HB63.out.only hs4 fun e => e)
 have HC12 := Lib.hid (fun w tt => cellsAt_new w frZ tt)
 clear hs4 HLK3
 rcases hp with ⟨hn, rfl⟩ | ⟨f, u0, u1', u2', u3', hk, rfl, hpg⟩
 · have HLA := Lib.hid (show s.laid cf k g rc = s.lay cf k ⟨g, true, rc⟩ from by
    unfold PSt.laid
    rw [if_neg (by rw [HM.out.1]; decide), if_neg (by rw [HGM.out]; decide), hn])
   clear hn
   go_upto_region 7 with ((with_reducible (show wpList _ _ _ ({ dst := none, op := Op.store 100 _ _, type := _, pos := _, after := _, guard := _ } :: _) _ _)); (refine wpList_storeAgg rfl 100 _ _ rfl w4.heap.size #[.slice none 0 0, .slice none 0 0, .slice none 0 0, .slice none 0 0, .int .i64 0, .bool false, .int .i64 0] rfl rfl (HC12.out _ _) size_fr rfl rfl ?_; intro w5 hcf hof hzf; have H5 := Lib.hid (And.intro hcf (And.intro hof hzf)); clear hcf hof hzf))
   have HSW := Lib.hid (show Still w w5 from (HS4.out.alloc _).andThen H5.out.2.1 fun x hx e => by have e' : x = w4.heap.size := e; have := HS4.out.size; omega)
   have HB6W := Lib.hid (show cellsAt w5 b6 [v0, v1, v2, v3, .int .i64 z] from (HB64.out.alloc _).only H5.out.2.1 fun e => by have e' : b6 = w4.heap.size := e; have := HB64.out.lt; omega)
   have HPGW := Lib.hid (HG.out.1.still HSW.out)
   have HTW := Lib.hid (ptwin_any w5 v0 v1 v2 v3 z g.c HPGW.out (fun l hl => by
    rcases HOKG.out.each l hl with e | e
    · rw [e]; exact Nat.zero_le _
    · omega))
   go_upto_region 9 with fail
   go_wp2_with ((with_reducible (show wpList _ _ _ ({ dst := some 44, op := _, type := _, pos := _, after := _, guard := _ } :: _) _ _)); (refine wpList_loadAgg rfl 36 _ rfl b6 #[v0, v1, v2, v3, .int .i64 z] rfl HB6W.out _ Tryz.underlying36 rfl size_page ?_))
   refine HTW.out.mono ?_
   rintro e w8 ⟨x0, x1, x2, x3, rfl, hpg8, hs8⟩
   have hsW8 : Still w w8 := HSW.out.trans hs8
   obtain ⟨N, hN⟩ : ∃ N : Nat → Prop, N = fun g => (w5).heap.size ≤ g ∧ g < w8.heap.size := ⟨_, rfl⟩
   have hcN : ∀ g, N g → c g = 0 := fun g hg => Classical.byContradiction fun e => by
    rw [hN] at hg
    have := HD.out.low g e
    have := HSW.out.size
    omega
   obtain ⟨hD8, hP8, hst8, hsub8⟩ := paint_sys HD.out HN.out HP.out hsW8 hcN (fun g hg => by rw [hN] at hg; have := HSW.out.size; omega)
   have hpg9 : PgIs w8 (Cs (paint c N r) r) [x0, x1, x2, x3] g.c := by
    refine PgIs.mono (Q := fun x => (w5).heap.size ≤ x ∧ x < w8.heap.size) ⟨hpg8.n, hpg8.m, fun j v l h1 h2 => (hpg8.at_ j v l h1 h2).low⟩ fun x hx => ?_
    exact paint_in (by rw [hN]; exact hx)
   have HLY := Lib.hid (show Calls Tryz.prog 50 #[.pointer (some ⟨pb, 0, none⟩), .int .i64 k, .agg #[x0, x1, x2, x3, .int .i64 z, .bool true, .int .i64 rc]] w8 (PoPost (paint c N r) a b m r w8 pb d t cf (.int .i64 (s.lay cf k ⟨g, true, rc⟩).1) (s.lay cf k ⟨g, true, rc⟩).2) from by
    have := play_any hD8 HN.out hP8 k HM.out.2.1 (by have := HM.out.2.2; omega) (f := ⟨g, true, rc⟩) hpg9 HOKG.out
    dsimp only at this
    rw [HZ.out] at this
    exact this)
   have HST8 := Lib.hid hst8
   clear hpg8 hs8 hsW8 hcN hN hD8 hP8 hst8 hsub8 hpg9 HTW
   go_wp2_with fail
   refine HLY.out.mono ?_
   rintro e w9 ⟨rfl, c9, h1, h2, h3⟩
   have F := Lib.hid (show PoPost c a b m r w pb d t cf (.int .i64 (s.laid cf k g rc).1) (s.laid cf k g rc).2 (.returned (.int .i64 (s.lay cf k ⟨g, true, rc⟩).1)) w9 from by
    rw [HLA.out]
    exact ⟨rfl, c9, HST8.out.trans h1, h2, h3⟩)
   clear h1 h2 h3
   go_wp2_with fail
   go_ret
   exact F.out
 obtain ⟨fz, hz⟩ : ∃ z, f.p.lsn = z := ⟨_, rfl⟩
 obtain ⟨dd, hdd⟩ : ∃ z, f.dirty = z := ⟨_, rfl⟩
 obtain ⟨rr, hrr⟩ : ∃ z, f.rec_ = z := ⟨_, rfl⟩
 rw [hz, hdd, hrr]
 have HLA0 := Lib.hid (show s.laid cf k g rc = s.lay cf k ⟨g, true, if dd = true then min rc rr else rc⟩ from by
  unfold PSt.laid
  rw [if_neg (by rw [HM.out.1]; decide), if_neg (by rw [HGM.out]; decide), hk]
  simp only
  rw [hdd, hrr])
 have HONE7 := Lib.hid (show (#[u0, u1', u2', u3', .int .i64 fz, .bool dd, .int .i64 rr] : Array Value).toList.all (·.oneCell') = true from by
  have := pg_one hpg
  rw [List.all_eq_true]
  intro y hy
  simp only [List.mem_cons, List.not_mem_nil, or_false] at hy
  rcases hy with rfl | rfl | rfl | rfl | rfl | rfl | rfl
  · exact this _ (by simp)
  · exact this _ (by simp)
  · exact this _ (by simp)
  · exact this _ (by simp)
  · rfl
  · rfl
  · rfl)
 clear hk hpg hz hdd hrr
 go_upto_region 7 with ((with_reducible (show wpList _ _ _ ({ dst := none, op := Op.store 100 _ _, type := _, pos := _, after := _, guard := _ } :: _) _ _)); (refine wpList_storeAgg rfl 100 _ _ rfl w4.heap.size #[u0, u1', u2', u3', .int .i64 fz, .bool dd, .int .i64 rr] rfl rfl (HC12.out _ _) size_fr rfl HONE7.out ?_; intro w5 hcf hof hzf; have H5 := Lib.hid (And.intro hcf (And.intro hof hzf)); clear hcf hof hzf))
 have HSW := Lib.hid (show Still w w5 from (HS4.out.alloc _).andThen H5.out.2.1 fun x hx e => by have e' : x = w4.heap.size := e; have := HS4.out.size; omega)
 have HB6W := Lib.hid (show cellsAt w5 b6 [v0, v1, v2, v3, .int .i64 z] from (HB64.out.alloc _).only H5.out.2.1 fun e => by have e' : b6 = w4.heap.size := e; have := HB64.out.lt; omega)
 have HPGW := Lib.hid (HG.out.1.still HSW.out)
 obtain ⟨b12, hb12⟩ : ∃ b, w4.heap.size = b := ⟨_, rfl⟩
 rw [hb12] at H5
 rw [hb12]
 have q5 : w5.cell? ⟨b12, 5, none⟩ = some (.bool dd) := H5.out.1.cell 5
 have q6 : w5.cell? ⟨b12, 6, none⟩ = some (.int .i64 rr) := H5.out.1.cell 6
 clear hb12
 cases dd with
 | false =>
  have HLA := Lib.hid (show s.laid cf k g rc = s.lay cf k ⟨g, true, rc⟩ from HLA0.out)
  have HTW := Lib.hid (ptwin_any w5 v0 v1 v2 v3 z g.c HPGW.out (fun l hl => by
   rcases HOKG.out.each l hl with e | e
   · rw [e]; exact Nat.zero_le _
   · omega))
  go_upto_region 9 with fail
  go_wp2_with ((with_reducible (show wpList _ _ _ ({ dst := some 44, op := _, type := _, pos := _, after := _, guard := _ } :: _) _ _)); (refine wpList_loadAgg rfl 36 _ rfl b6 #[v0, v1, v2, v3, .int .i64 z] rfl HB6W.out _ Tryz.underlying36 rfl size_page ?_))
  refine HTW.out.mono ?_
  rintro e w8 ⟨x0, x1, x2, x3, rfl, hpg8, hs8⟩
  have hsW8 : Still w w8 := HSW.out.trans hs8
  obtain ⟨N, hN⟩ : ∃ N : Nat → Prop, N = fun g => (w5).heap.size ≤ g ∧ g < w8.heap.size := ⟨_, rfl⟩
  have hcN : ∀ g, N g → c g = 0 := fun g hg => Classical.byContradiction fun e => by
   rw [hN] at hg
   have := HD.out.low g e
   have := HSW.out.size
   omega
  obtain ⟨hD8, hP8, hst8, hsub8⟩ := paint_sys HD.out HN.out HP.out hsW8 hcN (fun g hg => by rw [hN] at hg; have := HSW.out.size; omega)
  have hpg9 : PgIs w8 (Cs (paint c N r) r) [x0, x1, x2, x3] g.c := by
   refine PgIs.mono (Q := fun x => (w5).heap.size ≤ x ∧ x < w8.heap.size) ⟨hpg8.n, hpg8.m, fun j v l h1 h2 => (hpg8.at_ j v l h1 h2).low⟩ fun x hx => ?_
   exact paint_in (by rw [hN]; exact hx)
  have HLY := Lib.hid (show Calls Tryz.prog 50 #[.pointer (some ⟨pb, 0, none⟩), .int .i64 k, .agg #[x0, x1, x2, x3, .int .i64 z, .bool true, .int .i64 rc]] w8 (PoPost (paint c N r) a b m r w8 pb d t cf (.int .i64 (s.lay cf k ⟨g, true, rc⟩).1) (s.lay cf k ⟨g, true, rc⟩).2) from by
   have := play_any hD8 HN.out hP8 k HM.out.2.1 (by have := HM.out.2.2; omega) (f := ⟨g, true, rc⟩) hpg9 HOKG.out
   dsimp only at this
   rw [HZ.out] at this
   exact this)
  have HST8 := Lib.hid hst8
  clear hpg8 hs8 hsW8 hcN hN hD8 hP8 hst8 hsub8 hpg9 HTW
  go_wp2_with fail
  refine HLY.out.mono ?_
  rintro e w9 ⟨rfl, c9, h1, h2, h3⟩
  have F := Lib.hid (show PoPost c a b m r w pb d t cf (.int .i64 (s.laid cf k g rc).1) (s.laid cf k g rc).2 (.returned (.int .i64 (s.lay cf k ⟨g, true, rc⟩).1)) w9 from by
   rw [HLA.out]
   exact ⟨rfl, c9, HST8.out.trans h1, h2, h3⟩)
  clear h1 h2 h3
  go_wp2_with fail
  go_ret
  exact F.out
 | true =>
  obtain ⟨R, hR⟩ : ∃ R, min rc rr = R := ⟨_, rfl⟩
  have HLA := Lib.hid (show s.laid cf k g rc = s.lay cf k ⟨g, true, R⟩ from by rw [← hR]; exact HLA0.out)
  have HTW := Lib.hid (ptwin_any w5 v0 v1 v2 v3 z g.c HPGW.out (fun l hl => by
   rcases HOKG.out.each l hl with e | e
   · rw [e]; exact Nat.zero_le _
   · omega))
  go_upto_region 9 with fail
  go_wp2_with ((with_reducible (show wpList _ _ _ ({ dst := some 44, op := _, type := _, pos := _, after := _, guard := _ } :: _) _ _)); (refine wpList_loadAgg rfl 36 _ rfl b6 #[v0, v1, v2, v3, .int .i64 z] rfl HB6W.out _ Tryz.underlying36 rfl size_page ?_))
  refine HTW.out.mono ?_
  rintro e w8 ⟨x0, x1, x2, x3, rfl, hpg8, hs8⟩
  have hsW8 : Still w w8 := HSW.out.trans hs8
  obtain ⟨N, hN⟩ : ∃ N : Nat → Prop, N = fun g => (w5).heap.size ≤ g ∧ g < w8.heap.size := ⟨_, rfl⟩
  have hcN : ∀ g, N g → c g = 0 := fun g hg => Classical.byContradiction fun e => by
   rw [hN] at hg
   have := HD.out.low g e
   have := HSW.out.size
   omega
  obtain ⟨hD8, hP8, hst8, hsub8⟩ := paint_sys HD.out HN.out HP.out hsW8 hcN (fun g hg => by rw [hN] at hg; have := HSW.out.size; omega)
  have hpg9 : PgIs w8 (Cs (paint c N r) r) [x0, x1, x2, x3] g.c := by
   refine PgIs.mono (Q := fun x => (w5).heap.size ≤ x ∧ x < w8.heap.size) ⟨hpg8.n, hpg8.m, fun j v l h1 h2 => (hpg8.at_ j v l h1 h2).low⟩ fun x hx => ?_
   exact paint_in (by rw [hN]; exact hx)
  have HLY := Lib.hid (show Calls Tryz.prog 50 #[.pointer (some ⟨pb, 0, none⟩), .int .i64 k, .agg #[x0, x1, x2, x3, .int .i64 z, .bool true, .int .i64 R]] w8 (PoPost (paint c N r) a b m r w8 pb d t cf (.int .i64 (s.lay cf k ⟨g, true, R⟩).1) (s.lay cf k ⟨g, true, R⟩).2) from by
   have := play_any hD8 HN.out hP8 k HM.out.2.1 (by have := HM.out.2.2; omega) (f := ⟨g, true, R⟩) hpg9 HOKG.out
   dsimp only at this
   rw [HZ.out] at this
   exact this)
  have HST8 := Lib.hid hst8
  clear hpg8 hs8 hsW8 hcN hN hD8 hP8 hst8 hsub8 hpg9 HTW
  go_wp2_with fail
  refine HLY.out.mono ?_
  rintro e w9 ⟨rfl, c9, h1, h2, h3⟩
  have F := Lib.hid (show PoPost c a b m r w pb d t cf (.int .i64 (s.laid cf k g rc).1) (s.laid cf k g rc).2 (.returned (.int .i64 (s.lay cf k ⟨g, true, R⟩).1)) w9 from by
   rw [HLA.out]
   exact ⟨rfl, c9, HST8.out.trans h1, h2, h3⟩)
  clear h1 h2 h3
  go_wp2_with fail
  go_ret
  exact F.out
end
end Go.Proofs.YtlcfoeikamkpmaaGreat

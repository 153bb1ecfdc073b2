/- A hand in memory: a copy of it, a new one. Conditions: it lies in memory, at least one place, at most 64. A hand in memory: a key's value, a touch; a value laid. Conditions: it lies in memory, at least one place, at most 64. A hand in memory: Get, Swap. Conditions: it lies in memory, at least one place, at most 64. A hand in memory: Put. Conditions: it lies in memory, at least one place, at most 64. A hand in memory: made new; a value put in the place of a key's; the keys; is a number among them. Conditions: it lies in memory. -/
import Derived.Test.YtlcfoeikamkpmaaGreatPr13
namespace Go.Proofs.YtlcfoeikamkpmaaGreat
open Go.RowKit Go.Wh Go.Maps

theorem info_pl : (Tryz.prog.info? 137).map (fun i => (i.zero, i.size, i.bytes)) = some (some (.agg #[.int .i64 0, .slice none 0 0, .slice none 0 0, .slice none 0 0, .slice none 0 0, .int .i64 0, .bool false, .int .i64 0, .bool false, .bool false, .int .i64 0]), 11, 144) := by kernel_rfl
section
variable {w w' : World} {hb g o n cap : Nat} {H : Hd (List Value)}
theorem rowsC_one : ∀ (l : List (Pl (List Value))), (∀ x ∈ l, Fits x) → ∀ u ∈ rowsC l, u.oneCell' = true
 | [], _ => by simp [rowsC]
 | x :: l, h => by
  intro u hu
  rw [rowsC_cons] at hu
  rcases List.mem_append.1 hu with hu | hu
  · exact plC_one (h x (by simp)) u hu
  · exact rowsC_one l (fun y hy => h y (by simp [hy])) u hu
theorem HdAt.reads (h : HdAt w hb g o n cap H) : Reads w 11 (.slice (some ⟨g, o, none⟩) n cap) n (rowsC H.l) := Vec.reads (.inr ⟨g, o, cap, rfl, h.row⟩)
set_option maxHeartbeats 1000000 in
set_option maxRecDepth 100000 in
theorem hclone_any (h : HdAt w hb g o n cap H) : Calls Tryz.prog 102 #[.slice (some ⟨g, o, none⟩) n cap] w (FreshPost w 11 n (rowsC H.l)) := by
 obtain ⟨i0, hi, hz0, hz1, hz2⟩ := info_parts info_pl
 have HN := Lib.hid h.n64
 have HC := Lib.hid (rowsC_one H.l h.fits)
 have hnn := fun W : World => Lib.run_eql_slice_nil (P := Tryz.prog) W 133 137 (some ⟨g, o, none⟩) n cap 0 0 Tryz.underlying133
 have H1 := Lib.hid (h.reads.belowAll ((Below.refl _ _).alloc (Nat.le_refl _) (Obj.cells #[] 137)))
 clear h
 go_enter Tryz.func102, Tryz.ntmps102
 go_wp2_with (at_builtin; refine wpList_append_vec rfl _ _ 133 rfl 137 i0 _ 11 144 Tryz.underlying133 hi hz0 hz1 hz2 rfl (by decide) _ 0 [] rfl (Vec.none_ _ _ _ _) _ n (rowsC H.l) rfl H1.out HC.out (by have := HN.out; simp only [maxLen]; omega) (by have := HN.out; omega) ?_; intro v' w' hv' ho' hb')
 have F := Lib.hid (show FreshPost w 11 n (rowsC H.l) (.returned v') w' from by
  have hbel := (Below.refl w.heap.size w).alloc (Nat.le_refl _) (Obj.cells #[] 137)
  refine ⟨v', rfl, by simpa using hv', hbel.trans (ho'.below (by simp) (fun i hi e => ?_)), fun g hg => ?_⟩
  · have e2 : w.heap.size = i := Option.some.inj e
    omega
  · rcases hb' with e | ⟨g', e, h1, h2⟩
    · have e2 : w.heap.size = g := Option.some.inj (e.symm.trans hg)
      have h3 := ho'.size
      simp at h3
      omega
    · rw [e] at hg
      injection hg with hg
      simp at h1
      omega)
 clear hv' ho' hb' H1 HC
 go_wp2_with fail
 go_ret
 exact F.out
def CoPost (w : World) (n : Nat) (H : Hd (List Value)) (e : Ending) (w' : World) : Prop :=
 ∃ hb g o cap, e = .returned (.pointer (some ⟨hb, 0, none⟩)) ∧ HdAt w' hb g o n cap H ∧ Still w w' ∧ w.heap.size ≤ hb ∧ w.heap.size ≤ g
set_option maxHeartbeats 1000000 in
set_option maxRecDepth 100000 in
theorem hcopy_any (h : HdAt w hb g o n cap H) : Calls Tryz.prog 82 #[.pointer (some ⟨hb, 0, none⟩)] w (CoPost w n H) := by
 obtain ⟨a, ha⟩ : ∃ a, H.at_ = a := ⟨_, rfl⟩
 have HH := Lib.hid h
 have SS := Lib.hid (fun w' (hs : Still w w') => show w'.cell? ⟨hb, 0, none⟩ = some (.slice (some ⟨g, o, none⟩) n cap) ∧ w'.cell? ⟨hb, 1, none⟩ = some (.int .i64 (a : Nat)) from by
  rw [← ha]
  exact ⟨(h.still hs).cells.cell 0, (h.still hs).cells.cell 1⟩)
 have HA := Lib.hid ha
 have HC := Lib.hid (hclone_any (h.still (still_drew w)))
 have F := Lib.hid (fun w2 v tt (hv : Vec w2 11 v n (rowsC H.l)) (hb2 : Below w.drew.heap.size w.drew w2) (hg2 : ∀ g, v.ownBlock = some g → w.drew.heap.size ≤ g ∧ g < w2.heap.size) => show CoPost w n H (.returned (.pointer (some ⟨w2.heap.size, 0, none⟩))) (w2.alloc (.cells #[v, .int .i64 (a : Nat)] tt)) from by
  have hs2 : Still w w2 := (still_drew w).trans (Only.ofBelow hb2)
  obtain ⟨g2, o2, c2, rfl, hva⟩ := hv.form HH.out.pos
  have hg := hg2 g2 rfl
  have hz := hs2.size
  have hzd : w.drew.heap.size = w.heap.size := rfl
  have hst : Still w2 (w2.alloc (.cells #[.slice (some ⟨g2, o2, none⟩) n c2, .int .i64 (a : Nat)] tt)) := (Still.refl w2).alloc _
  refine ⟨w2.heap.size, g2, o2, c2, rfl, ⟨?_, ?_, HH.out.len, HH.out.fits, HH.out.pos, HH.out.n64, HH.out.lt, by omega⟩, hs2.trans hst, by omega, by omega⟩
  · have := cellsAt_new w2 [.slice (some ⟨g2, o2, none⟩) n c2, .int .i64 (a : Nat)] tt
    rw [HA.out]
    exact this
  · exact hva.block (hst.block g2 (by omega) fun e => e))
 clear h ha
 go_enter Tryz.func82, Tryz.ntmps82
 go_wp2_with fail
 go_region_held3 (fun w' => w'.cell? ⟨hb, 0, none⟩ = some (.slice (some ⟨g, o, none⟩) n cap) ∧ w'.cell? ⟨hb, 1, none⟩ = some (.int .i64 (a : Nat))) (first | exact SS.out _ (still_drew _) | exact SS.out _ (by assumption) | exact SS.out _ (Only.alloc hs3 _))
  (first | (go_at_call 102; (with_reducible refine HC.out.mono ?_); rintro e w2 ⟨v, rfl, hv, hb2, hg2⟩; have hs3 : Still w w2 := (still_drew w).trans (Only.ofBelow hb2); obtain ⟨va, vc, rfl⟩ := hv.form'; have HF := Lib.hid (fun tt => F.out w2 _ tt hv hb2 hg2)))
 clear hv hb2 hg2 hs3 HC SS F
 go_wp2_with fail
 go_ret
 exact HF.out _
end
end Go.Proofs.YtlcfoeikamkpmaaGreat

namespace Go.Proofs.YtlcfoeikamkpmaaGreat
open Go.RowKit Go.Wh Go.Maps

theorem plC_sw (x : Pl (List Value)) (v : List Value) : plC (x.swap v) = .int .i64 x.k :: (v ++ [.bool x.has, .bool x.bit, .int .i64 0]) := rfl
theorem rows_setV (v : List Value) (hv : v.length = 7) : ∀ (i : Nat) (l : List (Pl (List Value))) (x : Pl (List Value)), (∀ y ∈ l, Fits y) → l[i]? = some x → rowsC (modI (·.swap v) i l) = (rowsC l).take (i * 11 + 1) ++ v ++ (rowsC l).drop (i * 11 + 8)
 | _, [], _, _, h => by simp at h
 | 0, y :: l, x, hf, h => by
  obtain ⟨k, u, a, b⟩ := y
  have h7 := (hf _ (by simp : (⟨k, u, a, b⟩ : Pl (List Value)) ∈ _)).1
  show rowsC (Pl.swap ⟨k, u, a, b⟩ v :: l) = _
  rw [rowsC_cons, rowsC_cons, plC_sw]
  match u, h7 with
  | [u0, u1, u2, u3, u4, u5, u6], _ => simp [plC]
 | i + 1, y :: l, x, hf, h => by
  have ih := rows_setV v hv i l x (fun z hz => hf z (by simp [hz])) (by simpa using h)
  have hl := plC_length (hf y (by simp))
  show rowsC (y :: modI _ i l) = _
  rw [rowsC_cons, rowsC_cons, ih, show (i + 1) * 11 + 1 = (plC y).length + (i * 11 + 1) by rw [hl, Nat.add_mul]; omega, show (i + 1) * 11 + 8 = (plC y).length + (i * 11 + 8) by rw [hl, Nat.add_mul]; omega, List.take_length_add_append, List.drop_length_add_append]
  simp
section
variable {w w' : World} {hb g o n cap : Nat} {H : Hd (List Value)}
theorem HdAt.there (h : HdAt w hb g o n cap H) {i p m : Nat} (hi : i < n) (hp : p + m ≤ 11) : w.there g (o + (i * 11 + p)) m := fun j hj => by
 have hl := h.row.len
 have hij : i * 11 + (p + j) < n * 11 := by
  have : (i + 1) * 11 ≤ n * 11 := Nat.mul_le_mul_right 11 (by omega)
  rw [Nat.add_mul] at this
  omega
 rw [show o + (i * 11 + p) + j = o + (i * 11 + (p + j)) by omega]
 refine ⟨?_, h.row.free _ hij⟩
 rw [h.row.cell _ hij, List.getElem?_eq_getElem (by omega)]
 rfl
theorem HdAt.valSet (h : HdAt w hb g o n cap H) {i : Nat} {x : Pl (List Value)} (hx : H.l[i]? = some x) (v : List Value) (hv : v.length = 7) (h1 : ∀ u ∈ v, u.oneCell' = true) : HdAt (w.setCells g (o + (i * 11 + 1)) v) hb g o n cap ⟨modI (·.swap v) i H.l, H.at_⟩ := by
 have hi := (List.getElem?_eq_some_iff.1 hx).1
 rw [h.len] at hi
 have hle : (i + 1) * 11 ≤ n * 11 := Nat.mul_le_mul_right 11 (by omega)
 rw [Nat.add_mul] at hle
 have hlr : (rowsC H.l).length = n * 11 := h.row.len
 refine ⟨h.cells.only (setCells_only w g _ v) fun e => h.ne e, ?_, by rw [modI_length]; exact h.len, fits_mod (fun y hy => ⟨hv, h1⟩) i _ h.fits, h.pos, h.n64, h.lt, h.ne⟩
 have hp := h.row.put (i * 11 + 1) v (by omega)
 rw [rows_setV v hv i H.l x h.fits hx]
 have e : (rowsC H.l).take (i * 11 + 1) ++ v ++ (rowsC H.l).drop (i * 11 + 1 + v.length) = (rowsC H.l).take (i * 11 + 1) ++ v ++ (rowsC H.l).drop (i * 11 + 8) := by rw [hv]
 rw [← e]
 exact hp
end
end Go.Proofs.YtlcfoeikamkpmaaGreat

namespace Go.Proofs.YtlcfoeikamkpmaaGreat
open Go.RowKit Go.Wh Go.Maps

section
variable {w w' : World} {hb g o n cap : Nat} {H : Hd (List Value)}
def GePost (w : World) (hb g o n cap : Nat) (H : Hd (List Value)) (k : Int) (e : Ending) (w' : World) : Prop :=
 (H.look k = none ∧ e = .returned (.tuple #[.agg #[.slice none 0 0, .slice none 0 0, .slice none 0 0, .slice none 0 0, .int .i64 0, .bool false, .int .i64 0], .bool false]) ∧ Still w w') ∨ ∃ v, H.look k = some v ∧ e = .returned (.tuple #[.agg v.toArray, .bool true]) ∧ HdAt w' hb g o n cap (H.touch k) ∧ Only (fun b => b = g) w w'
theorem look_at {k : Int} {x : Pl (List Value)} (hx : H.l[fdI (isK k) H.l]? = some x) : H.look k = some x.v := by
 unfold Hd.look
 rw [hx]
 rfl
theorem look_no {k : Int} (hl : H.l.length ≤ fdI (isK k) H.l) : H.look k = none := by
 unfold Hd.look
 rw [List.getElem?_eq_none hl]
 rfl
set_option maxHeartbeats 1000000 in
set_option maxRecDepth 100000 in
theorem hget_any (h : HdAt w hb g o n cap H) (k : Int) : Calls Tryz.prog 72 #[.pointer (some ⟨hb, 0, none⟩), .int .i64 k] w (GePost w hb g o n cap H k) := by
 have HH := Lib.hid h
 have HS := Lib.hid (fun tt => (Still.refl w).alloc (.cells #[.slice none 0 0, .slice none 0 0, .slice none 0 0, .slice none 0 0, .int .i64 0, .bool false, .int .i64 0] tt))
 have HZ := Lib.hid (fun tt => cellsAt_new w frZ tt)
 clear h
 go_enter Tryz.func72, Tryz.ntmps72
 go_upto_region 1 with fail
 have hs0 := HS.out 100
 have hz0 := HZ.out 100
 change cellsAt (w.alloc (.cells #[.slice none 0 0, .slice none 0 0, .slice none 0 0, .slice none 0 0, .int .i64 0, .bool false, .int .i64 0] 100)) w.heap.size frZ at hz0
 clear HS HZ
 generalize (w.alloc (.cells #[.slice none 0 0, .slice none 0 0, .slice none 0 0, .slice none 0 0, .int .i64 0, .bool false, .int .i64 0] 100)) = w0 at *
 obtain ⟨b, hb0⟩ : ∃ b, w.heap.size = b := ⟨_, rfl⟩
 rw [hb0] at hz0
 rw [hb0]
 have H0 := Lib.hid (And.intro (HH.out.still hs0) (And.intro hs0 (And.intro hz0 hb0)))
 have HF := Lib.hid (hfind_any (HH.out.still hs0) k)
 obtain ⟨i, hi⟩ : ∃ i, fdI (isK k) H.l = i := ⟨_, rfl⟩
 have HI := Lib.hid hi
 rw [hi] at HF
 clear hs0 hz0 hb0 hi
 by_cases hin : i < n
 rotate_left
 · have HFN := Lib.hid (show Calls _ _ _ w0 (SamePost w0 (.pointer none)) from by
    have := HF.out
    unfold plP at this
    rw [if_neg hin] at this
    exact this)
   have F := Lib.hid (fun wf (ho : Only (fun c => c = b) w0 wf) => show GePost w hb g o n cap H k (.returned (.tuple #[.agg #[.slice none 0 0, .slice none 0 0, .slice none 0 0, .slice none 0 0, .int .i64 0, .bool false, .int .i64 0], .bool false])) wf from
    .inl ⟨look_no (by rw [HI.out, HH.out.len]; omega), rfl, H0.out.2.1.andThen ho fun c hc e => by have := H0.out.2.2.2; omega⟩)
   clear hin HF
   go_wp2_with fail
   refine HFN.out.mono ?_
   rintro e w1 ⟨rfl, rfl⟩
   go_wp2_with (first
    | (refine wpList_loadAgg rfl 100 _ rfl b #[.slice none 0 0, .slice none 0 0, .slice none 0 0, .slice none 0 0, .int .i64 0, .bool false, .int .i64 0] rfl H0.out.2.2.1 _ Tryz.underlying100 rfl size_fr ?_)
    | (refine wpList_storeAgg rfl 100 _ _ rfl b #[.slice none 0 0, .slice none 0 0, .slice none 0 0, .slice none 0 0, .int .i64 0, .bool false, .int .i64 0] rfl rfl H0.out.2.2.1 size_fr rfl rfl ?_; intro wf hcf hof hzf; have HW := Lib.hid hcf; have F2 := Lib.hid (F.out wf hof); clear hcf hof hzf))
   have z0 : wf.cell? ⟨b, 0, none⟩ = some (.slice none 0 0) := HW.out.cell 0
   have z1 : wf.cell? ⟨b, 1, none⟩ = some (.slice none 0 0) := HW.out.cell 1
   have z2 : wf.cell? ⟨b, 2, none⟩ = some (.slice none 0 0) := HW.out.cell 2
   have z3 : wf.cell? ⟨b, 3, none⟩ = some (.slice none 0 0) := HW.out.cell 3
   have z4 : wf.cell? ⟨b, 4, none⟩ = some (.int .i64 0) := HW.out.cell 4
   have z5 : wf.cell? ⟨b, 5, none⟩ = some (.bool false) := HW.out.cell 5
   have z6 : wf.cell? ⟨b, 6, none⟩ = some (.int .i64 0) := HW.out.cell 6
   exact bodyPost_ret (v := .tuple #[.agg #[.slice none 0 0, .slice none 0 0, .slice none 0 0, .slice none 0 0, .int .i64 0, .bool false, .int .i64 0], .bool false]) (by simp [results, Tryz.results72, go_sem, z0, z1, z2, z3, z4, z5, z6]) rfl F2.out
 obtain ⟨x, hx⟩ : ∃ x, H.l[i]? = some x := ⟨_, List.getElem?_eq_getElem (by rw [HH.out.len]; exact hin)⟩
 have hf := HH.out.fits x (List.mem_of_getElem? hx)
 have HX := Lib.hid (And.intro hx hf)
 have HFY := Lib.hid (show Calls _ _ _ w0 (SamePost w0 (.pointer (some ⟨g, o + i * 11, none⟩))) from by
  have := HF.out
  unfold plP at this
  rw [if_pos hin] at this
  exact this)
 have p9 : w0.cell? ⟨g, o + i * 11 + 9, none⟩ = some (.bool x.bit) := (H0.out.1.tests hx).2.2.1
 have f9 : w0.frozen? ⟨g, o + i * 11 + 9, none⟩ = false := by
  rw [Nat.add_assoc]
  exact (H0.out.1.there (i := i) (p := 9) (m := 1) hin (by omega) 0 (by omega)).2
 have HT := Lib.hid (show HdAt (w0.setCell ⟨g, o + i * 11 + 9, none⟩ (.bool true)) hb g o n cap (H.touch k) from by
  have := H0.out.1.bitSet hx true (f := Pl.on) fun y => rfl
  unfold Hd.touch
  rw [HI.out, Nat.add_assoc]
  exact this)
 have HO := Lib.hid (setCell_only w0 ⟨g, o + i * 11 + 9, none⟩ (.bool true))
 have hgb : g ≠ b := by
  have h1 := HH.out.row.lt (by have := HH.out.pos; have := HH.out.row.le; omega)
  have := H0.out.2.2.2
  omega
 have HGB := Lib.hid hgb
 clear hin hx hf HF hgb
 go_wp2_with fail
 refine HFY.out.mono ?_
 rintro e w1 ⟨rfl, rfl⟩
 go_upto_region 5 with fail
 generalize w1.setCell ⟨g, o + i * 11 + 9, none⟩ (.bool true) = w2 at *
 clear p9 f9
 have hxt : (H.touch k).l[i]? = some x.on := by
  unfold Hd.touch
  rw [HI.out, modI_set _ i _ x HX.out.1, List.getElem?_set_self (by have := (List.getElem?_eq_some_iff.1 HX.out.1).1; exact this)]
 have HRV := Lib.hid (HT.out.rangeV hxt)
 have HZ2 := Lib.hid (H0.out.2.2.1.only HO.out fun e => HGB.out (show b = g from e).symm)
 have hgf := HGB.out
 have F := Lib.hid (fun wf (ho : Only (fun c => c = b) w2 wf) => show GePost w hb g o n cap H k (.returned (.tuple #[.agg x.v.toArray, .bool true])) wf from by
  have hbl : b < w1.heap.size := H0.out.2.2.1.lt
  refine .inr ⟨x.v, look_at (by rw [HI.out]; exact HX.out.1), rfl, HT.out.only ho (fun e => ?_) (fun e => HGB.out e), ?_⟩
  · have h1 := HH.out.cells.lt
    have := H0.out.2.2.2
    have e' : hb = b := e
    omega
  · have h1 : Only (fun c => c = g) w w2 := (H0.out.2.1.mono fun _ e => e.elim).trans HO.out
    exact h1.andThen ho fun c hc e => by
     have := H0.out.2.2.2
     have e' : c = b := e
     omega)
 obtain ⟨kk, v, a, c⟩ := x
 obtain ⟨h7, h1⟩ := HX.out.2
 match v, h7, h1 with
 | [v0, v1, v2, v3, v4, v5, v6], _, h1 =>
  have HONE := Lib.hid (show (#[v0, v1, v2, v3, v4, v5, v6] : Array Value).toList.all (·.oneCell') = true from by
   rw [List.all_eq_true]
   exact h1)
  change Hid (w2.rangeAt g (o + i * 11 + 1) [v0, v1, v2, v3, v4, v5, v6]) at HRV
  clear h1 hxt hgf
  go_wp2_with (first
   | (refine wpList_load_mid rfl 100 _ rfl g (o + i * 11 + 1) rfl [v0, v1, v2, v3, v4, v5, v6] _ HRV.out Tryz.underlying100 rfl size_fr ?_)
   | (refine wpList_storeAgg rfl 100 _ _ rfl b #[v0, v1, v2, v3, v4, v5, v6] rfl rfl HZ2.out size_fr rfl HONE.out ?_; intro wf hcf hof hzf; have HW := Lib.hid hcf; have F2 := Lib.hid (F.out wf hof); clear hcf hof hzf))
  have z0 : wf.cell? ⟨b, 0, none⟩ = some v0 := HW.out.cell 0
  have z1 : wf.cell? ⟨b, 1, none⟩ = some v1 := HW.out.cell 1
  have z2 : wf.cell? ⟨b, 2, none⟩ = some v2 := HW.out.cell 2
  have z3 : wf.cell? ⟨b, 3, none⟩ = some v3 := HW.out.cell 3
  have z4 : wf.cell? ⟨b, 4, none⟩ = some v4 := HW.out.cell 4
  have z5 : wf.cell? ⟨b, 5, none⟩ = some v5 := HW.out.cell 5
  have z6 : wf.cell? ⟨b, 6, none⟩ = some v6 := HW.out.cell 6
  exact bodyPost_ret (v := .tuple #[.agg #[v0, v1, v2, v3, v4, v5, v6], .bool true]) (by simp [results, Tryz.results72, go_sem, z0, z1, z2, z3, z4, z5, z6]) rfl F2.out
end
end Go.Proofs.YtlcfoeikamkpmaaGreat

namespace Go.Proofs.YtlcfoeikamkpmaaGreat
open Go.RowKit Go.Wh Go.Maps

theorem cellsAt.there0 {w : World} {b : Nat} {l : List Value} (h : cellsAt w b l) (m : Nat) (hm : l.length = m) : w.there b 0 m := fun j hj => by
 rw [Nat.zero_add]
 refine ⟨?_, h.free j⟩
 rw [h.cell j, List.getElem?_eq_getElem (by omega)]
 rfl
theorem cellsAt.over {w : World} {b : Nat} {l : List Value} (h : cellsAt w b l) (m : List Value) (hm : l.length = m.length) : cellsAt (w.setCells b 0 m) b m := by
 have key : ∀ (m l : List Value) (w : World) (o : Nat) (t : TypeId) (pre : List Value), pre.length = o → l.length = m.length → w.heap[b]? = some (.cells (pre ++ l).toArray t (0, 0)) → (w.setCells b o m).heap[b]? = some (.cells (pre ++ m).toArray t (0, 0)) := fun m => by
  induction m with
  | nil =>
   intro l w o t pre _ hl hb
   have : l = [] := List.eq_nil_of_length_eq_zero hl
   subst this
   exact hb
  | cons u m ih =>
   intro l w o t pre ho hl hb
   match l, hl with
   | x :: l, hl =>
    have e : (w.setCell ⟨b, o, none⟩ u).heap[b]? = some (.cells ((pre ++ [u]) ++ l).toArray t (0, 0)) := by
     simp [World.setCell, Array.getElem?_modify, hb, ← ho]
    have := ih l (w.setCell ⟨b, o, none⟩ u) (o + 1) t (pre ++ [u]) (by simp [ho]) (by simpa using hl) e
    rw [List.append_assoc] at this
    exact this
 obtain ⟨t, hb⟩ := h
 exact ⟨t, key m l w 0 t [] rfl hm (by simpa using hb)⟩
theorem rows_setP (y : Pl (List Value)) (hy : Fits y) : ∀ (i : Nat) (l : List (Pl (List Value))) (x : Pl (List Value)), (∀ z ∈ l, Fits z) → l[i]? = some x → rowsC (l.set i y) = (rowsC l).take (i * 11) ++ plC y ++ (rowsC l).drop (i * 11 + 11)
 | _, [], _, _, h => by simp at h
 | 0, z :: l, x, hf, h => by
  have hl := plC_length (hf z (by simp))
  show rowsC (y :: l) = _
  rw [rowsC_cons, rowsC_cons, Nat.zero_mul, List.take_zero, List.nil_append, Nat.zero_add, ← hl, List.drop_left]
 | i + 1, z :: l, x, hf, h => by
  have ih := rows_setP y hy i l x (fun u hu => hf u (by simp [hu])) (by simpa using h)
  have hl := plC_length (hf z (by simp))
  show rowsC (z :: l.set i y) = _
  rw [rowsC_cons, rowsC_cons, ih, show (i + 1) * 11 = (plC z).length + i * 11 by rw [hl, Nat.add_mul]; omega, Nat.add_assoc, List.take_length_add_append, List.drop_length_add_append]
  simp
theorem fits_set {y : Pl (List Value)} (hy : Fits y) {l : List (Pl (List Value))} {i : Nat} (h : ∀ z ∈ l, Fits z) : ∀ z ∈ l.set i y, Fits z := fun z hz => by
 rcases List.mem_or_eq_of_mem_set hz with hz | rfl
 · exact h z hz
 · exact hy
theorem HdAt.placeSet {w : World} {hb g o n cap : Nat} {H : Hd (List Value)} (h : HdAt w hb g o n cap H) {i : Nat} {x : Pl (List Value)} (hx : H.l[i]? = some x) (y : Pl (List Value)) (hy : Fits y) : HdAt (w.setCells g (o + i * 11) (plC y)) hb g o n cap ⟨H.l.set i y, H.at_⟩ := by
 have hi := (List.getElem?_eq_some_iff.1 hx).1
 rw [h.len] at hi
 have hle : (i + 1) * 11 ≤ n * 11 := Nat.mul_le_mul_right 11 (by omega)
 rw [Nat.add_mul] at hle
 have hlr : (rowsC H.l).length = n * 11 := h.row.len
 have hly := plC_length hy
 refine ⟨h.cells.only (setCells_only w g _ _) fun e => h.ne e, ?_, by rw [List.length_set]; exact h.len, fits_set hy h.fits, h.pos, h.n64, h.lt, h.ne⟩
 have hp := h.row.put (i * 11) (plC y) (by omega)
 rw [rows_setP y hy i H.l x h.fits hx]
 have e : (rowsC H.l).take (i * 11) ++ plC y ++ (rowsC H.l).drop (i * 11 + (plC y).length) = (rowsC H.l).take (i * 11) ++ plC y ++ (rowsC H.l).drop (i * 11 + 11) := by rw [hly]
 rw [← e]
 exact hp
section
variable {w w' : World} {hb g o n cap : Nat} {H : Hd (List Value)}
def PtPost (w : World) (hb g o n cap : Nat) (R : (Int × List Value × Bool) × Hd (List Value)) (e : Ending) (w' : World) : Prop :=
 e = .returned (.tuple #[.int .i64 R.1.1, .agg R.1.2.1.toArray, .bool R.1.2.2, .int .i64 0]) ∧ HdAt w' hb g o n cap R.2 ∧ Only (fun b => b = hb ∨ b = g) w w'
def plZ : List Value := [.int .i64 0, .slice none 0 0, .slice none 0 0, .slice none 0 0, .slice none 0 0, .int .i64 0, .bool false, .int .i64 0, .bool false, .bool false, .int .i64 0]
theorem run_load7 {w : World} {b : Nat} {l : List Value} (h : cellsAt w b l) (hl : l.length = 7) : (Instr.loadAt 100 (.pointer (some ⟨b, 0, none⟩))).run Tryz.prog w = .ok (.agg l.toArray) w :=
 run_loadAt_mid w b 0 100 l _ (fun j v hj => by rw [Nat.zero_add, h.cell j]; exact hj) Tryz.underlying100 rfl (by rw [hl]; exact size_fr)
theorem exec_load7 {w : World} {b : Nat} {l : List Value} {ev : Operand → Value} {oi : Oper} {x : Operand} (ho : oi.op = .load 100 x) (hx : ev x = .pointer (some ⟨b, 0, none⟩)) (h : cellsAt w b l) (hl : l.length = 7) : (execOp ev oi).run Tryz.prog w = .ok (.value (.agg l.toArray)) w := by
 unfold execOp
 simp only [ho, hx, Sem.run_bind, Sem.run_pure, run_load7 h hl, Result.andThen_ok]
theorem exec_loadm {w : World} {b ofs : Nat} {l : List Value} {ev : Operand → Value} {oi : Oper} {x : Operand} (ho : oi.op = .load 100 x) (hx : ev x = .pointer (some ⟨b, ofs, none⟩)) (h : w.rangeAt b ofs l) (hl : l.length = 7) : (execOp ev oi).run Tryz.prog w = .ok (.value (.agg l.toArray)) w := by
 unfold execOp
 have e := run_loadAt_mid w b ofs 100 l _ h Tryz.underlying100 rfl (by rw [hl]; exact size_fr)
 simp only [ho, hx, Sem.run_bind, Sem.run_pure, e, Result.andThen_ok]
set_option maxHeartbeats 2000000 in
set_option maxRecDepth 100000 in
theorem hput_any (h : HdAt w hb g o n cap H) (k : Int) (v0 v1 v2 v3 v4 v5 v6 : Value) (h1 : ∀ u ∈ [v0, v1, v2, v3, v4, v5, v6], u.oneCell' = true) :
 Calls Tryz.prog 46 #[.pointer (some ⟨hb, 0, none⟩), .int .i64 k, .agg #[v0, v1, v2, v3, v4, v5, v6]] w (PtPost w hb g o n cap (H.put frZ k [v0, v1, v2, v3, v4, v5, v6])) := by
 have HONE := Lib.hid (show (#[v0, v1, v2, v3, v4, v5, v6] : Array Value).toList.all (·.oneCell') = true from by rw [List.all_eq_true]; exact h1)
 have HONEP := Lib.hid (show (#[.int .i64 k, v0, v1, v2, v3, v4, v5, v6, .bool true, .bool true, .int .i64 0] : Array Value).toList.all (·.oneCell') = true from by
  rw [List.all_eq_true]
  intro u hu
  simp only [List.mem_cons, List.not_mem_nil, or_false] at hu
  rcases hu with rfl | rfl | rfl | rfl | rfl | rfl | rfl | rfl | rfl | rfl | rfl
  · rfl
  · exact h1 _ (by simp)
  · exact h1 _ (by simp)
  · exact h1 _ (by simp)
  · exact h1 _ (by simp)
  · exact h1 _ (by simp)
  · exact h1 _ (by simp)
  · exact h1 _ (by simp)
  · rfl
  · rfl
  · rfl)
 have HV1 := Lib.hid h1
 have HH := Lib.hid h
 have HZ := Lib.hid (fun tt tt2 => show Still w ((w.alloc (.cells #[v0, v1, v2, v3, v4, v5, v6] tt)).alloc (.cells #[.slice none 0 0, .slice none 0 0, .slice none 0 0, .slice none 0 0, .int .i64 0, .bool false, .int .i64 0] tt2)) ∧ cellsAt ((w.alloc (.cells #[v0, v1, v2, v3, v4, v5, v6] tt)).alloc (.cells #[.slice none 0 0, .slice none 0 0, .slice none 0 0, .slice none 0 0, .int .i64 0, .bool false, .int .i64 0] tt2)) w.heap.size (#[v0, v1, v2, v3, v4, v5, v6] : Array Value).toList ∧ cellsAt ((w.alloc (.cells #[v0, v1, v2, v3, v4, v5, v6] tt)).alloc (.cells #[.slice none 0 0, .slice none 0 0, .slice none 0 0, .slice none 0 0, .int .i64 0, .bool false, .int .i64 0] tt2)) (w.heap.size + 1) frZ ∧ ((w.alloc (.cells #[v0, v1, v2, v3, v4, v5, v6] tt)).alloc (.cells #[.slice none 0 0, .slice none 0 0, .slice none 0 0, .slice none 0 0, .int .i64 0, .bool false, .int .i64 0] tt2)).heap.size = w.heap.size + 2 from by
  have hz : (w.alloc (.cells #[v0, v1, v2, v3, v4, v5, v6] tt)).heap.size = w.heap.size + 1 := by simp
  refine ⟨((Still.refl w).alloc _).alloc _, (cellsAt_new w (#[v0, v1, v2, v3, v4, v5, v6] : Array Value).toList tt).alloc _, ?_, by simp⟩
  have := cellsAt_new (w.alloc (.cells #[v0, v1, v2, v3, v4, v5, v6] tt)) frZ tt2
  rw [hz] at this
  exact this)
 clear h h1
 go_enter Tryz.func46, Tryz.ntmps46
 go_upto_region 1 with fail
 have hz := HZ.out 100 100
 clear HZ
 generalize ((w.alloc (.cells #[v0, v1, v2, v3, v4, v5, v6] 100)).alloc (.cells #[.slice none 0 0, .slice none 0 0, .slice none 0 0, .slice none 0 0, .int .i64 0, .bool false, .int .i64 0] 100)) = w0 at *
 obtain ⟨b1, hb1⟩ : ∃ b, w.heap.size = b := ⟨_, rfl⟩
 obtain ⟨b2, hb2⟩ : ∃ b, w.heap.size + 1 = b := ⟨_, rfl⟩
 rw [hb2, hb1] at hz
 rw [hb2, hb1]
 obtain ⟨hs0, hc1, hc2, hz0⟩ := hz
 have H0 := Lib.hid (And.intro hs0 (And.intro hc1 (And.intro hc2 (And.intro hz0 (And.intro hb1 hb2)))))
 have HZP := Lib.hid (fun tt => cellsAt_new w0 plZ tt)
 have HSP := Lib.hid (fun tt wf (hof : Only (fun b => b = w0.heap.size) (w0.alloc (.cells #[.int .i64 0, .slice none 0 0, .slice none 0 0, .slice none 0 0, .slice none 0 0, .int .i64 0, .bool false, .int .i64 0, .bool false, .bool false, .int .i64 0] tt)) wf) => show Still w0 wf from Only.andThen ((Still.refl w0).alloc _) hof fun i hi e => by have e' : i = w0.heap.size := e; omega)
 clear hs0 hc1 hc2 hz0 hb1 hb2
 go_upto_region 2 with (first
  | (refine wpList_loadAgg rfl 100 _ rfl b1 #[v0, v1, v2, v3, v4, v5, v6] rfl H0.out.2.1 _ Tryz.underlying100 rfl size_fr ?_)
  | (refine wpList_storeAgg rfl 137 _ _ rfl w0.heap.size #[.int .i64 k, v0, v1, v2, v3, v4, v5, v6, .bool true, .bool true, .int .i64 0] rfl rfl (HZP.out _) size_pl rfl HONEP.out ?_; intro w1 hcf hof hzf; have HW1 := Lib.hid (And.intro hcf (HSP.out _ w1 hof)); clear hcf hof hzf))
 obtain ⟨b3, hb3⟩ : ∃ b, w0.heap.size = b := ⟨_, rfl⟩
 rw [hb3] at HW1 ⊢
 have H1 := Lib.hid (show HdAt w1 hb g o n cap H ∧ Still w w1 ∧ cellsAt w1 b1 (#[v0, v1, v2, v3, v4, v5, v6] : Array Value).toList ∧ cellsAt w1 b2 frZ ∧ cellsAt w1 b3 (#[.int .i64 k, v0, v1, v2, v3, v4, v5, v6, .bool true, .bool true, .int .i64 0] : Array Value).toList ∧ (w.heap.size = b1 ∧ b1 + 1 = b2 ∧ b2 + 1 = b3 ∧ b3 < w1.heap.size ∧ g < b1 ∧ hb < b1) from by
  obtain ⟨q1, q2, q3, q4, q5, q6⟩ := H0.out
  have hgl := HH.out.row.lt (by have := HH.out.pos; have := HH.out.row.le; omega)
  have hbl := HH.out.cells.lt
  exact ⟨(HH.out.still q1).still HW1.out.2, q1.trans HW1.out.2, q2.only HW1.out.2 fun e => e, q3.only HW1.out.2 fun e => e, HW1.out.1, q5, by omega, by omega, HW1.out.1.lt, by omega, by omega⟩)
 clear HZP HSP hb3 HW1 H0
 obtain ⟨i, hi⟩ : ∃ i, fdI (isK k) H.l = i := ⟨_, rfl⟩
 have HI := Lib.hid hi
 have HF := Lib.hid (hfind_any H1.out.1 k)
 rw [hi] at HF
 have HONE2 := Lib.hid (all_oneCell_toArray HV1.out)
 change Hid ((#[v0, v1, v2, v3, v4, v5, v6] : Array Value).all (·.oneCell') = true) at HONE2
 clear hi
 by_cases hin : i < n
 · have HFY := Lib.hid (show Calls _ _ _ w1 (SamePost w1 (.pointer (some ⟨g, o + i * 11, none⟩))) from by
    have := HF.out
    unfold plP at this
    rw [if_pos hin] at this
    exact this)
   obtain ⟨x, hx⟩ : ∃ x, H.l[i]? = some x := ⟨_, List.getElem?_eq_getElem (by rw [HH.out.len]; exact hin)⟩
   have HP2 := Lib.hid (H1.out.1.valSet hx [v0, v1, v2, v3, v4, v5, v6] rfl HV1.out)
   have HT := Lib.hid (show w1.there g (o + i * 11 + 1) 7 from by
    rw [Nat.add_assoc]
    exact H1.out.1.there hin (by omega))
   have hx2 : (modI (·.swap [v0, v1, v2, v3, v4, v5, v6]) i H.l)[i]? = some (x.swap [v0, v1, v2, v3, v4, v5, v6]) := by
    rw [modI_set _ i _ x hx, List.getElem?_set_self (List.getElem?_eq_some_iff.1 hx).1]
   have f9 : (w1.setCells g (o + i * 11 + 1) [v0, v1, v2, v3, v4, v5, v6]).frozen? ⟨g, o + i * 11 + 9, none⟩ = false := by
    rw [Nat.add_assoc, Nat.add_assoc]
    exact (HP2.out.there (i := i) (p := 9) (m := 1) hin (by omega) 0 (by omega)).2
   have p9 : (w1.setCells g (o + i * 11 + 1) [v0, v1, v2, v3, v4, v5, v6]).cell? ⟨g, o + i * 11 + 9, none⟩ = some (.bool x.bit) := by
    have := (HP2.out.tests hx2).2.2.1
    rw [← Nat.add_assoc] at this
    exact this
   have HP := Lib.hid (show HdAt ((w1.setCells g (o + i * 11 + 1) [v0, v1, v2, v3, v4, v5, v6]).setCell ⟨g, o + i * 11 + 9, none⟩ (.bool true)) hb g o n cap ⟨modI (·.with [v0, v1, v2, v3, v4, v5, v6]) i H.l, H.at_⟩ from by
    have := HP2.out.bitSet hx2 true (f := Pl.on) fun y => rfl
    rw [modI_set _ i _ _ hx2, modI_set _ i _ x hx, List.set_set] at this
    rw [modI_set _ i _ x hx, Nat.add_assoc, Nat.add_assoc]
    exact this)
   have HO := Lib.hid (show Only (fun b => b = g) w1 ((w1.setCells g (o + i * 11 + 1) [v0, v1, v2, v3, v4, v5, v6]).setCell ⟨g, o + i * 11 + 9, none⟩ (.bool true)) from
    (setCells_only w1 g _ _).setCell (p := ⟨g, o + i * 11 + 9, none⟩) (.inl rfl) _)
   have HIN := Lib.hid hin
   clear hin hx hx2 HF HP2
   go_wp2_with fail
   refine HFY.out.mono ?_
   rintro e w2 ⟨rfl, rfl⟩
   go_upto_region 4 with fail
   go_upto_region 5 with (first
    | ((with_reducible (show wpList _ _ _ ({ dst := some 24, op := _, type := _, pos := _, after := _, guard := _ } :: _) _ _)); (refine wpList_loadAgg rfl 100 _ rfl b1 #[v0, v1, v2, v3, v4, v5, v6] rfl H1.out.2.2.1 _ Tryz.underlying100 rfl size_fr ?_))
    | ((with_reducible (show wpList _ _ _ ({ dst := none, op := Op.store 100 _ _, type := _, pos := _, after := _, guard := _ } :: _) _ _)); (refine wpList_store_mid rfl 100 _ _ rfl g (o + i * 11 + 1) #[v0, v1, v2, v3, v4, v5, v6] rfl rfl HT.out size_fr HONE2.out ?_)))
   generalize (w2.setCells g (o + i * 11 + 1) [v0, v1, v2, v3, v4, v5, v6]).setCell ⟨g, o + i * 11 + 9, none⟩ (.bool true) = w3 at *
   have HC2 := Lib.hid (H1.out.2.2.2.1.only HO.out fun e => by have := H1.out.2.2.2.2.2; have e' : b2 = g := e; omega)
   have F := Lib.hid (fun wf (ho : Only (fun c => c = b2) w3 wf) => show PtPost w hb g o n cap (H.put frZ k [v0, v1, v2, v3, v4, v5, v6]) (.returned (.tuple #[.int .i64 0, .agg #[.slice none 0 0, .slice none 0 0, .slice none 0 0, .slice none 0 0, .int .i64 0, .bool false, .int .i64 0], .bool false, .int .i64 0])) wf from by
    have hq := H1.out.2.2.2.2.2
    unfold Hd.put
    rw [HI.out, if_pos (by rw [HH.out.len]; exact HIN.out)]
    refine ⟨rfl, HP.out.only ho (fun e => by have e' : hb = b2 := e; omega) (fun e => by have e' : g = b2 := e; omega), ?_⟩
    have h1 : Only (fun b => b = hb ∨ b = g) w w3 := (H1.out.2.1.mono fun _ e => e.elim).trans (HO.out.mono fun _ e => .inr e)
    exact h1.andThen ho fun c hc e => by
     have e' : c = b2 := e
     omega)
   clear p9 f9 HT
   go_wp2_with fail
   refine wp_region_D_drew (D := (fun i => [0, 3, 4, 5].contains i)) (S := (fun w' => cellsAt w' b2 frZ)) (by kernel_rfl) ?_ (fun hHeld => ?_)
   · exact cellsAt.only HC2.out (still_drew _) fun e => e
   (refine takeD (i := 0) (some 29) (v := ?_) rfl (by rfl) (by rfl) (by kernel_rfl) (by rfl) (fun _ _ _ h => h) ?_ ?_; rotate_left; (intro w; go_simp; try with_reducible rfl); try go_frame)
   (refine takeS (i := 1) (some 30) (v := .agg #[.slice none 0 0, .slice none 0 0, .slice none 0 0, .slice none 0 0, .int .i64 0, .bool false, .int .i64 0]) rfl (by rfl) (by rfl) (by kernel_rfl) (by rfl) (fun _ _ _ h => h) (by assumption) ?_ ?_; (intro w hSw; exact exec_load7 rfl rfl hSw rfl); try go_frame)
   refine wpAnyD_ready (rs := [2]) (by kernel_rfl) (by simp) ?_
   refine ReadyD.cons rfl (fun K hK => ?_) ?_
   go_simp
   refine hK.out _ _ hHeld (fun hNew => ?_)
   clear hNew
   (clear hK K; try go_frame)
   refine wpAnyD_ready (rs := [3]) (by kernel_rfl) (by simp) ?_
   refine ReadyD.last rfl (by rfl) (fun K hK => ?_) ?_
   rw [if_pos (by rfl)]
   refine wp_store_mid 100 _ _ rfl b2 0 #[.slice none 0 0, .slice none 0 0, .slice none 0 0, .slice none 0 0, .int .i64 0, .bool false, .int .i64 0] rfl rfl (cellsAt.there0 (cellsAt.only HC2.out (still_drew _) fun e => e) _ rfl) size_fr (by rw [← Array.all_toList]; rfl) ?_
   refine hK.out _ _ ?_
   (clear hK K; try go_frame)
   refine wpAnyD_ready (rs := [4]) (by kernel_rfl) (by simp) ?_
   refine ReadyD.last rfl (by rfl) (fun K hK => ?_) ?_
   go_simp
   refine hK.out _ _ ?_
   (clear hK K; try go_frame)
   refine wpAnyD_ready (rs := [5]) (by kernel_rfl) (by simp) ?_
   refine ReadyD.last rfl (by rfl) (fun K hK => ?_) ?_
   go_simp
   refine hK.out _ _ ?_
   (clear hK K; try go_frame)
   refine wpAnyD_done (by kernel_rfl) ?_ _
   rotate_left
   exact ReadyD.nil
   exact ReadyD.nil
   exact ReadyD.nil
   exact ReadyD.nil
   have HW := cellsAt.over (cellsAt.only HC2.out (still_drew w3) fun e => e) (#[.slice none 0 0, .slice none 0 0, .slice none 0 0, .slice none 0 0, .int .i64 0, .bool false, .int .i64 0] : Array Value).toList rfl
   have F2 := Lib.hid (F.out _ (((still_drew w3).mono fun _ e => e.elim).trans (setCells_only w3.drew b2 0 (#[.slice none 0 0, .slice none 0 0, .slice none 0 0, .slice none 0 0, .int .i64 0, .bool false, .int .i64 0] : Array Value).toList)))
   clear hHeld F
   generalize w3.drew.setCells b2 0 (#[.slice none 0 0, .slice none 0 0, .slice none 0 0, .slice none 0 0, .int .i64 0, .bool false, .int .i64 0] : Array Value).toList = wf at *
   have z0 : wf.cell? ⟨b2, 0, none⟩ = some (.slice none 0 0) := HW.cell 0
   have z1 : wf.cell? ⟨b2, 1, none⟩ = some (.slice none 0 0) := HW.cell 1
   have z2 : wf.cell? ⟨b2, 2, none⟩ = some (.slice none 0 0) := HW.cell 2
   have z3 : wf.cell? ⟨b2, 3, none⟩ = some (.slice none 0 0) := HW.cell 3
   have z4 : wf.cell? ⟨b2, 4, none⟩ = some (.int .i64 0) := HW.cell 4
   have z5 : wf.cell? ⟨b2, 5, none⟩ = some (.bool false) := HW.cell 5
   have z6 : wf.cell? ⟨b2, 6, none⟩ = some (.int .i64 0) := HW.cell 6
   clear HW
   go_wp2_with fail
   exact bodyPost_ret (v := .tuple #[.int .i64 0, .agg #[.slice none 0 0, .slice none 0 0, .slice none 0 0, .slice none 0 0, .int .i64 0, .bool false, .int .i64 0], .bool false, .int .i64 0]) (by simp [results, Tryz.results46, go_sem, z0, z1, z2, z3, z4, z5, z6]) rfl F2.out
 have HFN := Lib.hid (show Calls _ _ _ w1 (SamePost w1 (.pointer none)) from by
  have := HF.out
  unfold plP at this
  rw [if_neg hin] at this
  exact this)
 have HIN := Lib.hid hin
 obtain ⟨j, hj⟩ : ∃ j, fdI noH H.l = j := ⟨_, rfl⟩
 have HJ := Lib.hid hj
 have HR := Lib.hid (hfree_any H1.out.1)
 rw [hj] at HR
 clear hin hj HF
 by_cases hjn : j < n
 · have HRY := Lib.hid (show Calls _ _ _ w1 (SamePost w1 (.pointer (some ⟨g, o + j * 11, none⟩))) from by
    have := HR.out
    unfold plP at this
    rw [if_pos hjn] at this
    exact this)
   obtain ⟨x, hx⟩ : ∃ x, H.l[j]? = some x := ⟨_, List.getElem?_eq_getElem (by rw [HH.out.len]; exact hjn)⟩
   have HT := Lib.hid (show w1.there g (o + j * 11) 11 from H1.out.1.there (p := 0) hjn (by omega))
   have HP := Lib.hid (show HdAt (w1.setCells g (o + j * 11) (#[.int .i64 k, v0, v1, v2, v3, v4, v5, v6, .bool true, .bool true, .int .i64 0] : Array Value).toList) hb g o n cap ⟨H.l.set j ⟨k, [v0, v1, v2, v3, v4, v5, v6], true, true⟩, H.at_⟩ from
    H1.out.1.placeSet hx ⟨k, [v0, v1, v2, v3, v4, v5, v6], true, true⟩ ⟨rfl, HV1.out⟩)
   have HO := Lib.hid (setCells_only w1 g (o + j * 11) (#[.int .i64 k, v0, v1, v2, v3, v4, v5, v6, .bool true, .bool true, .int .i64 0] : Array Value).toList)
   have HJN := Lib.hid hjn
   have HONE3 := Lib.hid (show (#[.int .i64 k, v0, v1, v2, v3, v4, v5, v6, .bool true, .bool true, .int .i64 0] : Array Value).all (·.oneCell') = true from by rw [← Array.all_toList]; exact HONEP.out)
   clear hjn hx HR
   go_wp2_with fail
   refine HFN.out.mono ?_
   rintro e w2 ⟨rfl, rfl⟩
   go_wp2_with fail
   refine HRY.out.mono ?_
   rintro e w2 ⟨rfl, rfl⟩
   go_upto_region 8 with fail
   go_upto_region 9 with (first
    | ((with_reducible (show wpList _ _ _ ({ dst := some 36, op := _, type := _, pos := _, after := _, guard := _ } :: _) _ _)); (refine wpList_loadAgg rfl 137 _ rfl b3 #[.int .i64 k, v0, v1, v2, v3, v4, v5, v6, .bool true, .bool true, .int .i64 0] rfl H1.out.2.2.2.2.1 _ Tryz.underlying137 rfl size_pl ?_))
    | ((with_reducible (show wpList _ _ _ ({ dst := none, op := Op.store 137 _ _, type := _, pos := _, after := _, guard := _ } :: _) _ _)); (refine wpList_store_mid rfl 137 _ _ rfl g (o + j * 11) #[.int .i64 k, v0, v1, v2, v3, v4, v5, v6, .bool true, .bool true, .int .i64 0] rfl rfl HT.out size_pl HONE3.out ?_)))
   generalize w2.setCells g (o + j * 11) (#[.int .i64 k, v0, v1, v2, v3, v4, v5, v6, .bool true, .bool true, .int .i64 0] : Array Value).toList = w3 at *
   have HC2 := Lib.hid (H1.out.2.2.2.1.only HO.out fun e => by have := H1.out.2.2.2.2.2; have e' : b2 = g := e; omega)
   have F := Lib.hid (fun wf (ho : Only (fun c => c = b2) w3 wf) => show PtPost w hb g o n cap (H.put frZ k [v0, v1, v2, v3, v4, v5, v6]) (.returned (.tuple #[.int .i64 0, .agg #[.slice none 0 0, .slice none 0 0, .slice none 0 0, .slice none 0 0, .int .i64 0, .bool false, .int .i64 0], .bool false, .int .i64 0])) wf from by
    have hq := H1.out.2.2.2.2.2
    unfold Hd.put
    rw [HI.out, if_neg (by rw [HH.out.len]; exact HIN.out), HJ.out, if_pos (by rw [HH.out.len]; exact HJN.out)]
    refine ⟨rfl, HP.out.only ho (fun e => by have e' : hb = b2 := e; omega) (fun e => by have e' : g = b2 := e; omega), ?_⟩
    have h1 : Only (fun b => b = hb ∨ b = g) w w3 := (H1.out.2.1.mono fun _ e => e.elim).trans (HO.out.mono fun _ e => .inr e)
    exact h1.andThen ho fun c hc e => by
     have e' : c = b2 := e
     omega)
   clear HT
   go_wp2_with fail
   refine wp_region_D_drew (D := (fun i => [0, 3, 4, 5].contains i)) (S := (fun w' => cellsAt w' b2 frZ)) (by kernel_rfl) ?_ (fun hHeld => ?_)
   · exact cellsAt.only HC2.out (still_drew _) fun e => e
   (refine takeD (i := 0) (some 38) (v := ?_) rfl (by rfl) (by rfl) (by kernel_rfl) (by rfl) (fun _ _ _ h => h) ?_ ?_; rotate_left; (intro w; go_simp; try with_reducible rfl); try go_frame)
   (refine takeS (i := 1) (some 39) (v := .agg #[.slice none 0 0, .slice none 0 0, .slice none 0 0, .slice none 0 0, .int .i64 0, .bool false, .int .i64 0]) rfl (by rfl) (by rfl) (by kernel_rfl) (by rfl) (fun _ _ _ h => h) (by assumption) ?_ ?_; (intro w hSw; exact exec_load7 rfl rfl hSw rfl); try go_frame)
   refine wpAnyD_ready (rs := [2]) (by kernel_rfl) (by simp) ?_
   refine ReadyD.cons rfl (fun K hK => ?_) ?_
   go_simp
   refine hK.out _ _ hHeld (fun hNew => ?_)
   clear hNew
   (clear hK K; try go_frame)
   refine wpAnyD_ready (rs := [3]) (by kernel_rfl) (by simp) ?_
   refine ReadyD.last rfl (by rfl) (fun K hK => ?_) ?_
   rw [if_pos (by rfl)]
   refine wp_store_mid 100 _ _ rfl b2 0 #[.slice none 0 0, .slice none 0 0, .slice none 0 0, .slice none 0 0, .int .i64 0, .bool false, .int .i64 0] rfl rfl (cellsAt.there0 (cellsAt.only HC2.out (still_drew _) fun e => e) _ rfl) size_fr (by rw [← Array.all_toList]; rfl) ?_
   refine hK.out _ _ ?_
   (clear hK K; try go_frame)
   refine wpAnyD_ready (rs := [4]) (by kernel_rfl) (by simp) ?_
   refine ReadyD.last rfl (by rfl) (fun K hK => ?_) ?_
   go_simp
   refine hK.out _ _ ?_
   (clear hK K; try go_frame)
   refine wpAnyD_ready (rs := [5]) (by kernel_rfl) (by simp) ?_
   refine ReadyD.last rfl (by rfl) (fun K hK => ?_) ?_
   go_simp
   refine hK.out _ _ ?_
   (clear hK K; try go_frame)
   refine wpAnyD_done (by kernel_rfl) ?_ _
   rotate_left
   exact ReadyD.nil
   exact ReadyD.nil
   exact ReadyD.nil
   exact ReadyD.nil
   have HW := cellsAt.over (cellsAt.only HC2.out (still_drew w3) fun e => e) (#[.slice none 0 0, .slice none 0 0, .slice none 0 0, .slice none 0 0, .int .i64 0, .bool false, .int .i64 0] : Array Value).toList rfl
   have F2 := Lib.hid (F.out _ (((still_drew w3).mono fun _ e => e.elim).trans (setCells_only w3.drew b2 0 (#[.slice none 0 0, .slice none 0 0, .slice none 0 0, .slice none 0 0, .int .i64 0, .bool false, .int .i64 0] : Array Value).toList)))
   clear hHeld F
   generalize w3.drew.setCells b2 0 (#[.slice none 0 0, .slice none 0 0, .slice none 0 0, .slice none 0 0, .int .i64 0, .bool false, .int .i64 0] : Array Value).toList = wf at *
   have z0 : wf.cell? ⟨b2, 0, none⟩ = some (.slice none 0 0) := HW.cell 0
   have z1 : wf.cell? ⟨b2, 1, none⟩ = some (.slice none 0 0) := HW.cell 1
   have z2 : wf.cell? ⟨b2, 2, none⟩ = some (.slice none 0 0) := HW.cell 2
   have z3 : wf.cell? ⟨b2, 3, none⟩ = some (.slice none 0 0) := HW.cell 3
   have z4 : wf.cell? ⟨b2, 4, none⟩ = some (.int .i64 0) := HW.cell 4
   have z5 : wf.cell? ⟨b2, 5, none⟩ = some (.bool false) := HW.cell 5
   have z6 : wf.cell? ⟨b2, 6, none⟩ = some (.int .i64 0) := HW.cell 6
   clear HW
   go_wp2_with fail
   exact bodyPost_ret (v := .tuple #[.int .i64 0, .agg #[.slice none 0 0, .slice none 0 0, .slice none 0 0, .slice none 0 0, .int .i64 0, .bool false, .int .i64 0], .bool false, .int .i64 0]) (by simp [results, Tryz.results46, go_sem, z0, z1, z2, z3, z4, z5, z6]) rfl F2.out
 have HRN := Lib.hid (show Calls _ _ _ w1 (SamePost w1 (.pointer none)) from by
  have := HR.out
  unfold plP at this
  rw [if_neg hjn] at this
  exact this)
 have HJN := Lib.hid hjn
 have HPN := Lib.hid (hpinned_any H1.out.1)
 clear hjn HR
 go_wp2_with fail
 refine HFN.out.mono ?_
 rintro e w2 ⟨rfl, rfl⟩
 go_wp2_with fail
 refine HRN.out.mono ?_
 rintro e w2 ⟨rfl, rfl⟩
 go_wp2_with fail
 refine HPN.out.mono ?_
 rintro e w3 ⟨rfl, hs⟩
 have HS3 := Lib.hid hs
 obtain ⟨R, hR⟩ : ∃ R, H.turn (2 * n) = R := ⟨_, rfl⟩
 obtain ⟨i, T⟩ := R
 have HTU := Lib.hid (show Calls _ _ _ w3 (fun e w' => e = .returned (.pointer (some ⟨g, o + i * 11, none⟩)) ∧ i < n ∧ HdAt w' hb g o n cap T ∧ Only (fun b => b = hb ∨ b = g) w3 w') from by
  have := hturn_any (H1.out.1.still hs) (2 * n) (by have h1 := bitsN_le H.l; have h2 := HH.out.len; have h3 := HH.out.pos; omega)
  rw [hR] at this
  exact this)
 have HRT := Lib.hid hR
 clear hs HPN hR
 go_wp2_with fail
 refine HTU.out.mono ?_
 rintro e w4 ⟨rfl, ht1, ht2, ht3⟩
 have HT4 := Lib.hid (And.intro ht1 (And.intro ht2 ht3))
 obtain ⟨x, hx⟩ : ∃ x, T.l[i]? = some x := ⟨_, List.getElem?_eq_getElem (by rw [ht2.len]; exact ht1)⟩
 have hfx := ht2.fits x (List.mem_of_getElem? hx)
 obtain ⟨xk, xv, xh, xb⟩ := x
 obtain ⟨h7, hone⟩ := hfx
 obtain ⟨u0, u1, u2, u3, u4, u5, u6, rfl⟩ : ∃ u0 u1 u2 u3 u4 u5 u6, xv = [u0, u1, u2, u3, u4, u5, u6] := by
  match xv, h7 with
  | [u0, u1, u2, u3, u4, u5, u6], _ => exact ⟨u0, u1, u2, u3, u4, u5, u6, rfl⟩
 have HX := Lib.hid hx
 have HXO := Lib.hid (show (#[u0, u1, u2, u3, u4, u5, u6] : Array Value).all (·.oneCell') = true from by
  rw [← Array.all_toList, List.all_eq_true]
  exact hone)
 have HC2 := Lib.hid (show cellsAt w4 b2 frZ from (H1.out.2.2.2.1.only HS3.out fun e => e).only ht3 fun e => by have := H1.out.2.2.2.2.2; rcases e with e | e <;> omega)
 have HC3 := Lib.hid (show cellsAt w4 b3 (#[.int .i64 k, v0, v1, v2, v3, v4, v5, v6, .bool true, .bool true, .int .i64 0] : Array Value).toList from (H1.out.2.2.2.2.1.only HS3.out fun e => e).only ht3 fun e => by have := H1.out.2.2.2.2.2; rcases e with e | e <;> omega)
 have HO4 := Lib.hid (show Only (fun b => b = hb ∨ b = g) w w4 from ((H1.out.2.1.mono fun _ e => e.elim).trans (HS3.out.mono fun _ e => e.elim)).trans ht3)
 clear ht1 ht2 ht3 HTU hx h7 hone
 go_upto_region 13 with fail
 refine wp_region_D_drew (D := (fun i => false)) (S := (fun w' => HdAt w' hb g o n cap T)) (by kernel_rfl) ?_ (fun hHeld => ?_)
 · exact HT4.out.2.1.still (still_drew _)
 (refine takeS (i := 0) (some 46) (v := ?_) rfl (by rfl) (by rfl) (by kernel_rfl) (by rfl) (fun _ _ _ h => h) hHeld ?_ ?_; rotate_left; (intro w hSw; go_simp; try with_reducible rfl); try go_frame)
 (refine takeS (i := 1) (some 47) (v := ?_) rfl (by rfl) (by rfl) (by kernel_rfl) (by rfl) (fun _ _ _ h => h) hHeld ?_ ?_; rotate_left; (intro w hSw; go_simp; try with_reducible rfl); try go_frame)
 (refine takeS (i := 2) (some 48) (v := ?_) rfl (by rfl) (by rfl) (by kernel_rfl) (by rfl) (fun _ _ _ h => h) hHeld ?_ ?_; rotate_left; (intro w hSw; go_simp; try with_reducible rfl); try go_frame)
 (refine takeS (i := 3) (some 49) (v := .int .i64 xk) rfl (by rfl) (by rfl) (by kernel_rfl) (by rfl) (fun _ _ _ h => h) hHeld ?_ ?_; (intro w hSw; have c := hSw.place HX.out (j := 0) (by omega); rw [Nat.add_zero] at c; have c' : w.cell? ⟨g, o + i * 11, none⟩ = some (.int .i64 xk) := c; clear c; go_simp); try go_frame)
 (refine takeS (i := 4) (some 50) (v := ?_) rfl (by rfl) (by rfl) (by kernel_rfl) (by rfl) (fun _ _ _ h => h) hHeld ?_ ?_; rotate_left; (intro w hSw; go_simp; try with_reducible rfl); try go_frame)
 (refine takeS (i := 5) (some 51) (v := ?_) rfl (by rfl) (by rfl) (by kernel_rfl) (by rfl) (fun _ _ _ h => h) hHeld ?_ ?_; rotate_left; (intro w hSw; go_simp; try with_reducible rfl); try go_frame)
 (refine takeS (i := 6) (some 52) (v := ?_) rfl (by rfl) (by rfl) (by kernel_rfl) (by rfl) (fun _ _ _ h => h) hHeld ?_ ?_; rotate_left; (intro w hSw; go_simp; try with_reducible rfl); try go_frame)
 (refine takeS (i := 7) (some 53) (v := .agg #[u0, u1, u2, u3, u4, u5, u6]) rfl (by rfl) (by rfl) (by kernel_rfl) (by rfl) (fun _ _ _ h => h) hHeld ?_ ?_; (intro w hSw; exact exec_loadm rfl rfl (hSw.rangeV HX.out) rfl); try go_frame)
 refine wpAnyD_ready (rs := [8]) (by kernel_rfl) (by simp) ?_
 refine ReadyD.cons rfl (fun K hK => ?_) ReadyD.nil
 go_simp
 refine hK.out _ _ hHeld (fun hNew => ?_)
 clear hNew
 (clear hK K; try go_frame)
 refine wpAnyD_ready (rs := [9]) (by kernel_rfl) (by simp) ?_
 refine ReadyD.cons rfl (fun K hK => ?_) ReadyD.nil
 rw [if_pos (by rfl)]
 refine wp_store_mid 100 _ _ rfl b2 0 #[u0, u1, u2, u3, u4, u5, u6] rfl rfl (cellsAt.there0 (cellsAt.only HC2.out (still_drew _) fun e => e) _ rfl) size_fr HXO.out ?_
 refine hK.out _ _ (hHeld.only (setCells_only _ b2 0 _) (fun e => by have := H1.out.2.2.2.2.2; have e' : hb = b2 := e; omega) (fun e => by have := H1.out.2.2.2.2.2; have e' : g = b2 := e; omega)) (fun hNew => ?_)
 (clear hK K; try go_frame)
 refine wpAnyD_done (by kernel_rfl) ?_ _
 have HCU := Lib.hid (cellsAt.over (cellsAt.only HC2.out (still_drew w4) fun e => e) (#[u0, u1, u2, u3, u4, u5, u6] : Array Value).toList rfl)
 have HO5 := Lib.hid (show Only (fun b => b = b2) w4 (w4.drew.setCells b2 0 (#[u0, u1, u2, u3, u4, u5, u6] : Array Value).toList) from ((still_drew w4).mono fun _ e => e.elim).trans (setCells_only w4.drew b2 0 _))
 have HT5 := Lib.hid hNew
 clear hNew hHeld
 generalize w4.drew.setCells b2 0 (#[u0, u1, u2, u3, u4, u5, u6] : Array Value).toList = w5 at *
 have HT := Lib.hid (show w5.there g (o + i * 11) 11 from HT5.out.there (p := 0) HT4.out.1 (by omega))
 have HP := Lib.hid (show HdAt (w5.setCells g (o + i * 11) (#[.int .i64 k, v0, v1, v2, v3, v4, v5, v6, .bool true, .bool true, .int .i64 0] : Array Value).toList) hb g o n cap ⟨T.l.set i ⟨k, [v0, v1, v2, v3, v4, v5, v6], true, true⟩, T.at_⟩ from
  HT5.out.placeSet HX.out ⟨k, [v0, v1, v2, v3, v4, v5, v6], true, true⟩ ⟨rfl, HV1.out⟩)
 have HC35 := Lib.hid (HC3.out.only HO5.out fun e => by have := H1.out.2.2.2.2.2; have e' : b3 = b2 := e; omega)
 have HO6 := Lib.hid (setCells_only w5 g (o + i * 11) (#[.int .i64 k, v0, v1, v2, v3, v4, v5, v6, .bool true, .bool true, .int .i64 0] : Array Value).toList)
 have HONE3 := Lib.hid (show (#[.int .i64 k, v0, v1, v2, v3, v4, v5, v6, .bool true, .bool true, .int .i64 0] : Array Value).all (·.oneCell') = true from by rw [← Array.all_toList]; exact HONEP.out)
 go_upto_region 14 with fail
 go_upto_region 15 with (first
  | ((with_reducible (show wpList _ _ _ ({ dst := some 55, op := _, type := _, pos := _, after := _, guard := _ } :: _) _ _)); (refine wpList_loadAgg rfl 137 _ rfl b3 #[.int .i64 k, v0, v1, v2, v3, v4, v5, v6, .bool true, .bool true, .int .i64 0] rfl HC35.out _ Tryz.underlying137 rfl size_pl ?_))
  | ((with_reducible (show wpList _ _ _ ({ dst := none, op := Op.store 137 _ _, type := _, pos := _, after := _, guard := _ } :: _) _ _)); (refine wpList_store_mid rfl 137 _ _ rfl g (o + i * 11) #[.int .i64 k, v0, v1, v2, v3, v4, v5, v6, .bool true, .bool true, .int .i64 0] rfl rfl HT.out size_pl HONE3.out ?_)))
 generalize w5.setCells g (o + i * 11) (#[.int .i64 k, v0, v1, v2, v3, v4, v5, v6, .bool true, .bool true, .int .i64 0] : Array Value).toList = w6 at *
 have HC6 := Lib.hid (show cellsAt w6 b2 [u0, u1, u2, u3, u4, u5, u6] from HCU.out.only HO6.out fun e => by have := H1.out.2.2.2.2.2; have e' : b2 = g := e; omega)
 have F := Lib.hid (fun wf (ho : Only (fun c => c = b2) w6 wf) => show PtPost w hb g o n cap (H.put frZ k [v0, v1, v2, v3, v4, v5, v6]) (.returned (.tuple #[.int .i64 xk, .agg #[u0, u1, u2, u3, u4, u5, u6], .bool true, .int .i64 0])) wf from by
  have hq := H1.out.2.2.2.2.2
  unfold Hd.put
  rw [HI.out, if_neg (by rw [HH.out.len]; exact HIN.out), HJ.out, if_neg (by rw [HH.out.len]; exact HJN.out), HH.out.len, HRT.out]
  simp only
  rw [HX.out]
  refine ⟨rfl, HP.out.only ho (fun e => by have e' : hb = b2 := e; omega) (fun e => by have e' : g = b2 := e; omega), ?_⟩
  refine ((HO4.out.andThen HO5.out ?_).andThen (HO6.out.mono fun _ e => .inr e) fun c hc e => e).andThen ho ?_
  · intro c hc e
    have e' : c = b2 := e
    omega
  · intro c hc e
    have e' : c = b2 := e
    omega)
 clear HT
 go_wp2_with fail
 refine wp_region_D_drew (D := (fun i => [0, 3, 4, 5].contains i)) (S := (fun w' => cellsAt w' b2 [u0, u1, u2, u3, u4, u5, u6])) (by kernel_rfl) ?_ (fun hHeld => ?_)
 · exact cellsAt.only HC6.out (still_drew _) fun e => e
 (refine takeD (i := 0) (some 57) (v := ?_) rfl (by rfl) (by rfl) (by kernel_rfl) (by rfl) (fun _ _ _ h => h) ?_ ?_; rotate_left; (intro w; go_simp; try with_reducible rfl); try go_frame)
 (refine takeS (i := 1) (some 58) (v := .agg #[u0, u1, u2, u3, u4, u5, u6]) rfl (by rfl) (by rfl) (by kernel_rfl) (by rfl) (fun _ _ _ h => h) (by assumption) ?_ ?_; (intro w hSw; exact exec_load7 rfl rfl hSw rfl); try go_frame)
 refine wpAnyD_ready (rs := [2]) (by kernel_rfl) (by simp) ?_
 refine ReadyD.cons rfl (fun K hK => ?_) ?_
 go_simp
 refine hK.out _ _ hHeld (fun hNew => ?_)
 clear hNew
 (clear hK K; try go_frame)
 refine wpAnyD_ready (rs := [3]) (by kernel_rfl) (by simp) ?_
 refine ReadyD.last rfl (by rfl) (fun K hK => ?_) ?_
 rw [if_pos (by rfl)]
 refine wp_store_mid 100 _ _ rfl b2 0 #[u0, u1, u2, u3, u4, u5, u6] rfl rfl (cellsAt.there0 (cellsAt.only HC6.out (still_drew _) fun e => e) _ rfl) size_fr HXO.out ?_
 refine hK.out _ _ ?_
 (clear hK K; try go_frame)
 refine wpAnyD_ready (rs := [4]) (by kernel_rfl) (by simp) ?_
 refine ReadyD.last rfl (by rfl) (fun K hK => ?_) ?_
 go_simp
 refine hK.out _ _ ?_
 (clear hK K; try go_frame)
 refine wpAnyD_ready (rs := [5]) (by kernel_rfl) (by simp) ?_
 refine ReadyD.last rfl (by rfl) (fun K hK => ?_) ?_
 go_simp
 refine hK.out _ _ ?_
 (clear hK K; try go_frame)
 refine wpAnyD_done (by kernel_rfl) ?_ _
 rotate_left
 exact ReadyD.nil
 exact ReadyD.nil
 exact ReadyD.nil
 exact ReadyD.nil
 have HW := cellsAt.over (cellsAt.only HC6.out (still_drew w6) fun e => e) (#[u0, u1, u2, u3, u4, u5, u6] : Array Value).toList rfl
 have F2 := Lib.hid (F.out _ (((still_drew w6).mono fun _ e => e.elim).trans (setCells_only w6.drew b2 0 (#[u0, u1, u2, u3, u4, u5, u6] : Array Value).toList)))
 clear hHeld F
 generalize w6.drew.setCells b2 0 (#[u0, u1, u2, u3, u4, u5, u6] : Array Value).toList = wf at *
 have z0 : wf.cell? ⟨b2, 0, none⟩ = some u0 := HW.cell 0
 have z1 : wf.cell? ⟨b2, 1, none⟩ = some u1 := HW.cell 1
 have z2 : wf.cell? ⟨b2, 2, none⟩ = some u2 := HW.cell 2
 have z3 : wf.cell? ⟨b2, 3, none⟩ = some u3 := HW.cell 3
 have z4 : wf.cell? ⟨b2, 4, none⟩ = some u4 := HW.cell 4
 have z5 : wf.cell? ⟨b2, 5, none⟩ = some u5 := HW.cell 5
 have z6 : wf.cell? ⟨b2, 6, none⟩ = some u6 := HW.cell 6
 clear HW
 go_wp2_with fail
 exact bodyPost_ret (v := .tuple #[.int .i64 xk, .agg #[u0, u1, u2, u3, u4, u5, u6], .bool true, .int .i64 0]) (by simp [results, Tryz.results46, go_sem, z0, z1, z2, z3, z4, z5, z6]) rfl F2.out
end
end Go.Proofs.YtlcfoeikamkpmaaGreat

namespace Go.Proofs.YtlcfoeikamkpmaaGreat
open Go.RowKit Go.Wh Go.Maps

def plZero : Pl (List Value) := ⟨0, frZ, false, false⟩
theorem fits_zero : Fits plZero := ⟨rfl, by
 intro u hu
 unfold plZero frZ at hu
 simp only [List.mem_cons, List.not_mem_nil, or_false] at hu
 rcases hu with rfl | rfl | rfl | rfl | rfl | rfl | rfl <;> rfl⟩
theorem made_rows (n : Nat) : (madeCells #[.int .i64 0, .slice none 0 0, .slice none 0 0, .slice none 0 0, .slice none 0 0, .int .i64 0, .bool false, .int .i64 0, .bool false, .bool false, .int .i64 0] (n * 11)).toList = rowsC (List.replicate n plZero) := by
 have hlen : (rowsC (List.replicate n plZero)).length = n * 11 := by
  unfold rowsC
  rw [List.map_replicate]
  induction n with
  | zero => rfl
  | succ n ih =>
   rw [List.replicate_succ, List.flatten_cons, List.length_append, ih, plC_length fits_zero]
   omega
 apply List.ext_getElem?
 intro j
 by_cases hj : j < n * 11
 · have e : j = j / 11 * 11 + j % 11 := by omega
   have hr := rows_get (sz := 11) (List.replicate n (plC plZero)) (j / 11) (j % 11) (plC plZero) (fun v hv => by rw [List.eq_of_mem_replicate hv]; exact plC_length fits_zero) (by rw [List.getElem?_replicate, if_pos (by omega)]) (by omega)
   rw [← e] at hr
   unfold rowsC
   rw [List.map_replicate, hr]
   unfold madeCells
   rw [Array.toList_map, List.getElem?_map, Array.toList_range, List.getElem?_range hj]
   have key : ∀ m, m < 11 → some ((#[.int .i64 0, .slice none 0 0, .slice none 0 0, .slice none 0 0, .slice none 0 0, .int .i64 0, .bool false, .int .i64 0, .bool false, .bool false, .int .i64 0] : Array Value)[m]!) = (plC plZero)[m]? := by
    intro m hm
    rcases (show m = 0 ∨ m = 1 ∨ m = 2 ∨ m = 3 ∨ m = 4 ∨ m = 5 ∨ m = 6 ∨ m = 7 ∨ m = 8 ∨ m = 9 ∨ m = 10 from by omega) with rfl | rfl | rfl | rfl | rfl | rfl | rfl | rfl | rfl | rfl | rfl <;> rfl
   exact key _ (Nat.mod_lt _ (by decide))
 · rw [List.getElem?_eq_none (by rw [Array.length_toList]; simp [madeCells]; omega), List.getElem?_eq_none (by omega)]
def MkPost (w : World) (n : Nat) (e : Ending) (w' : World) : Prop := ∃ hb g, e = .returned (.pointer (some ⟨hb, 0, none⟩)) ∧ HdAt w' hb g 0 n n (mkHd frZ n) ∧ Still w w' ∧ w.heap.size ≤ hb ∧ w.heap.size ≤ g
set_option maxHeartbeats 1000000 in
set_option maxRecDepth 100000 in
theorem hmake_any (w : World) (r : Int) (n : Nat) (hn : min (max r 1) 64 = (n : Int)) : Calls Tryz.prog 42 #[.int .i64 r] w (MkPost w n) := by
 obtain ⟨ti, hi0, hi1, hi2, hi3⟩ := info_parts info_pl
 have hmk := run_makeSlice (P := Tryz.prog) (w := w) 133 137 ti _ Tryz.underlying133 hi0 hi1 .i64 .i64 n n (by omega) (by omega) (by rw [hi2]; omega) (by rw [hi3]; omega) (by omega)
 rw [hi2, Int.toNat_natCast] at hmk
 have hrows := made_rows n
 have hsz : (madeCells #[.int .i64 0, .slice none 0 0, .slice none 0 0, .slice none 0 0, .slice none 0 0, .int .i64 0, .bool false, .int .i64 0, .bool false, .bool false, .int .i64 0] (n * 11)).size = n * 11 := by simp [madeCells]
 change (Instr.makeSlice _ _ _).run _ _ = .ok _ (w.alloc (.cells (madeCells #[.int .i64 0, .slice none 0 0, .slice none 0 0, .slice none 0 0, .slice none 0 0, .int .i64 0, .bool false, .int .i64 0, .bool false, .bool false, .int .i64 0] (n * 11)) 137)) at hmk
 generalize madeCells #[.int .i64 0, .slice none 0 0, .slice none 0 0, .slice none 0 0, .slice none 0 0, .int .i64 0, .bool false, .int .i64 0, .bool false, .bool false, .int .i64 0] (n * 11) = M at *
 have F := Lib.hid (show MkPost w n (.returned (.pointer (some ⟨w.heap.size + 1, 0, none⟩))) ((w.alloc (.cells M 137)).alloc (.cells #[.slice (some ⟨w.heap.size, 0, none⟩) n n, .int .i64 0] 135)) from by
  have hz : (w.alloc (.cells M 137)).heap.size = w.heap.size + 1 := by simp
  have hc := cellsAt_new (w.alloc (.cells M 137)) [.slice (some ⟨w.heap.size, 0, none⟩) n n, .int .i64 0] 135
  rw [hz] at hc
  have hb := heap_alloc_new w (.cells M 137)
  have hv := vecAt_block (size := 11) (n := n) (cap := n) hb hsz (Nat.le_refl _) (by simp only [maxLen]; omega)
  rw [hrows, List.take_of_length_le (by rw [← hrows, Array.length_toList, hsz]; exact Nat.le_refl _)] at hv
  refine ⟨w.heap.size + 1, w.heap.size, rfl, ⟨hc, hv.block (alloc_kept _ _ (by rw [hz]; omega)), by simp [mkHd], fun x hx => ?_, by omega, by omega, by show 0 < n; omega, by omega⟩, ((Still.refl w).alloc _).alloc _, by omega, Nat.le_refl _⟩
  rw [List.eq_of_mem_replicate hx]
  exact fits_zero)
 clear hi0 hi1 hi2 hi3 hrows hsz
 go_enter Tryz.func42, Tryz.ntmps42
 go_wp2_with fail
 go_ret
 exact F.out
end Go.Proofs.YtlcfoeikamkpmaaGreat

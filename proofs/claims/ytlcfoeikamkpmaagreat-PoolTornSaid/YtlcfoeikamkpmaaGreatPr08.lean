/- The reader of bytes: numbers, places. Conditions: it lies in memory, apart from its bytes. The reader of bytes: images, moves. Conditions: it lies in memory, apart from its bytes. The reader of bytes: lists of moves. Conditions: it lies in memory, apart from its bytes. The reader of bytes: lives, dirty pages, units. Conditions: it lies in memory, apart from its bytes. The reader of bytes: units; lists of lives, dirty pages. Conditions: it lies in memory, apart from its bytes. -/
import Derived.Test.YtlcfoeikamkpmaaGreatPr07
import Derived.Laws.BitsLemmas
namespace Go.Proofs.YtlcfoeikamkpmaaGreat
open Go.RowKit Go.Wh Go.Maps

def NuPost (W : World) (X Q : Nat → Prop) (r : Nat) (t : Int × RS) (e : Ending) (w' : World) : Prop := e = .returned (.int .i64 t.1) ∧ RAt W X Q r t.2 w'
theorem wraps_i64' (n : Int) (h₀ : 0 ≤ n) (h₁ : n < 2 ^ 31) : IntKind.i64.wrap n = n := by rw [IntKind.wrap_i64]; omega
theorem or_join (v z : Int) (h0 : 0 ≤ v) (h1 : v < 65536) (z0 : 0 ≤ z) (z1 : z ≤ 255) : bits .or .i64 (v * 256) z = v * 256 + z :=
 bits_join .i64 31 (by decide) wraps_i64' 8 (v * 256) z (by omega) (by omega) (by omega) z0 (by omega) (by omega)
theorem decB_snoc (l : List Int) (x : Int) : decB (l ++ [x]) = decB l * 256 + x := by
 unfold decB
 rw [List.foldl_append]
 rfl
theorem decB_range : ∀ (l : List Int), Byt l → 0 ≤ decB l ∧ decB l < 256 ^ l.length := by
 have key : ∀ (l : List Int) (v : Int), 0 ≤ v → Byt l → 0 ≤ l.foldl (fun v x => v * 256 + x) v ∧ l.foldl (fun v x => v * 256 + x) v < (v + 1) * 256 ^ l.length := by
  intro l
  induction l with
  | nil =>
   intro v hv _
   have : (256 : Int) ^ 0 = 1 := rfl
   refine ⟨hv, ?_⟩
   show v < (v + 1) * 256 ^ 0
   rw [this]
   omega
  | cons x l ih =>
   intro v hv hb
   have hx := hb x (by simp)
   have := ih (v * 256 + x) (by omega) fun z hz => hb z (by simp [hz])
   refine ⟨this.1, Int.lt_of_lt_of_le this.2 ?_⟩
   have e : (256 : Int) ^ (x :: l).length = 256 * 256 ^ l.length := by rw [List.length_cons, Int.pow_succ, Int.mul_comm]
   rw [e, ← Int.mul_assoc]
   exact Int.mul_le_mul_of_nonneg_right (by omega) (Int.le_of_lt (Int.pow_pos (by decide)))
 intro l hl
 have := key l 0 (by omega) hl
 simpa [decB] using this
set_option maxHeartbeats 1000000 in
set_option maxRecDepth 100000 in
theorem rnum_any {W w : World} {X Q : Nat → Prop} {r : Nat} {s : RS} (n : Nat) {N : Int} (hN : (n : Int) = N) (h : RAt W X Q r s w) (hn : n ≤ 3) (hl : s.1.length ≤ 100000) :
 Calls Tryz.prog 129 #[.pointer (some ⟨r, 0, none⟩), .int .i64 N] w (NuPost W X Q r (numS n s)) := by
 subst hN
 have HT := Lib.hid (take_any W w X Q r n s h (by omega) hl)
 have hb : Byt (tkS n s).1 := by
  unfold tkS
  split
  · exact Byt.zeros n
  · exact h.byt.take n
 have htl : (tkS n s).1.length = n := by
  unfold tkS
  split
  · simp
  · simp only [List.length_take]
    omega
 have HB := Lib.hid (And.intro hb (And.intro htl hn))
 unfold numS
 generalize tkS n s = T at *
 obtain ⟨t, st⟩ := T
 dsimp only at *
 clear h hn hl hb htl
 go_enter Tryz.func129, Tryz.ntmps129
 go_wp2_with fail
 refine HT.out.mono ?_
 rintro e w2 ⟨v, rfl, hv, hr⟩
 obtain ⟨va, vc, rfl⟩ := hv.form
 have HV := Lib.hid (And.intro hv hr)
 clear hv hr HT
 go_wp2_with fail
 go_loopw [5, 12] (fun s5 s12 wr => ∃ k : Nat, s12 = .int .i64 k ∧ k ≤ n ∧ wr = w2 ∧ s5 = .int .i64 (decB (t.take k))) (fun _ s12 _ => n - (intOf s12).toNat)
 case atStart => exact ⟨0, rfl, Nat.zero_le _, rfl, rfl⟩
 case round =>
  obtain ⟨k, rfl, hk, rfl, rfl⟩ := hrel
  by_cases hi : k < n
  · obtain ⟨z, hz⟩ : ∃ z, t[k]? = some z := ⟨_, List.getElem?_eq_getElem (by have := HB.out.2.1; omega)⟩
    obtain ⟨g, o, c, hg, -, -, hcs⟩ := HV.out.1.pos (by omega)
    cases hg
    have c0 : wr.cell? ⟨g, o + k, none⟩ = some (.int .u8 z) := hcs k _ (bc_get hz)
    have b1 : decide ((k : Int) < (n : Int)) = true := by simp; omega
    have b2 : decide (k < n) = true := by simp; omega
    have b3 : (0 : Int) ≤ (k : Int) := by omega
    have b4 : (k : Int) < (n : Int) := by omega
    have u9 : IntKind.i64.wrap ((k : Int) + 1) = (k : Int) + 1 := IntWalk.i64_in _ (by have := HB.out.2.2; omega)
    have hzb := HB.out.1 z (List.mem_of_getElem? hz)
    obtain ⟨z0, z1⟩ := hzb
    have hdr := decB_range (t.take k) (HB.out.1.take k)
    have hle : decB (t.take k) < 65536 := by
     have e : (t.take k).length = k := by rw [List.length_take]; have := HB.out.2.1; omega
     rw [e] at hdr
     have hn3 := HB.out.2.2
     have hk2 : k = 0 ∨ k = 1 ∨ k = 2 := by omega
     have p0 : (256 : Int) ^ 0 = 1 := rfl
     have p1 : (256 : Int) ^ 1 = 256 := rfl
     have p2 : (256 : Int) ^ 2 = 65536 := rfl
     rcases hk2 with rfl | rfl | rfl
     · rw [p0] at hdr; omega
     · rw [p1] at hdr; omega
     · rw [p2] at hdr; omega
    have h0 := hdr.1
    have HSN := Lib.hid (show decB (t.take (k + 1)) = decB (t.take k) * 256 + z from by rw [List.take_add_one, hz, Option.toList_some, decB_snoc])
    generalize decB (t.take k) = v at *
    clear hcs hz hdr
    go_wp2_with fail
    go_roundw
    case rel => exact ⟨k + 1, by go_num, by omega, trivial, by rw [or_join v z h0 hle z0 z1, HSN.out]⟩
    case measure => simp [intOf]; omega
  · have hke : k = n := by omega
    subst hke
    have b1 : decide ((k : Int) < (k : Int)) = false := by simp
    have F := Lib.hid (show NuPost W X Q r (decB t, st) (.returned (.int .i64 (decB (t.take k)))) wr from ⟨by rw [List.take_of_length_le (by have := HB.out.2.1; omega)], HV.out.2⟩)
    generalize decB (t.take k) = v at *
    go_wp2_with fail
    go_ret
    exact F.out

theorem RAt.setNew {W w : World} {X Q : Nat → Prop} {r : Nat} {s : RS} (h : RAt W X Q r s w) {p : Addr} (hp : W.heap.size ≤ p.block) (u : Value) : RAt W X Q r s (w.setCell p u) := by
 have hs := setCell_only w p u
 have hrl := h.rl
 obtain ⟨bv, h1, h2, h3⟩ := h.b
 exact ⟨h.only.setCell (.inr hp) u, h.rx, h.rl, h.qx, ⟨bv, h1.only hs (fun e => by have e' : r = p.block := e; omega), h2.only hs fun g hg e => by have := (h.qx g hg).2; have e' : g = p.block := e; omega, h3⟩, h.byt⟩

def StrPost (W : World) (X Q : Nat → Prop) (r : Nat) (v : Value) (s : RS) (e : Ending) (w' : World) : Prop := e = .returned v ∧ RAt W X Q r s w'
def spS (s : RS) : (Int × Int) × RS :=
 let a := numS 1 s
 let b := numS 1 a.2
 ((a.1, b.1), b.2)
theorem numS_len {n : Nat} {s : RS} {k : Nat} (h : s.1.length ≤ k) : (numS n s).2.1.length ≤ k := by
 unfold numS tkS
 split
 · exact Nat.zero_le _
 · simp only [List.length_drop]
   omega
set_option maxHeartbeats 1000000 in
theorem rspot_any {W w : World} {X Q : Nat → Prop} {r : Nat} {s : RS} (h : RAt W X Q r s w) (hl : s.1.length ≤ 100000) :
 Calls Tryz.prog 130 #[.pointer (some ⟨r, 0, none⟩)] w (StrPost W X Q r (.agg #[.int .i64 (spS s).1.1, .int .i64 (spS s).1.2]) (spS s).2) := by
 have hst : Still w (w.alloc (.cells #[.int .i64 0, .int .i64 0] 64)) := (Still.refl w).alloc _
 have h1 := h.still hst
 have HN := Lib.hid (rnum_any 1 rfl h1.base (by omega) hl)
 have H := Lib.hid (And.intro h h1)
 have hbx := cellsAt_new w [.int .i64 0, .int .i64 0] 64
 have hbr : w.heap.size ≠ r := by
  obtain ⟨bv, hc, -⟩ := h.b
  have := hc.lt
  omega
 have HK := Lib.hid (fun s' w' (k : RAt (w.alloc (.cells #[.int .i64 0, .int .i64 0] 64)) (fun b => b = r) Q r s' w') => show RAt W X Q r s' w' ∧ cellsAt w' w.heap.size [.int .i64 0, .int .i64 0] from ⟨h1.back k, hbx.only k.only hbr⟩)
 have HZ := Lib.hid h.only.size
 unfold spS
 dsimp only
 generalize hq1 : numS 1 s = q1 at *
 have hl1 : q1.2.1.length ≤ 100000 := by rw [← hq1]; exact numS_len hl
 have HM := Lib.hid (fun w2 (k : RAt (w.alloc (.cells #[.int .i64 0, .int .i64 0] 64)) (fun b => b = r) Q r q1.2 w2) => rnum_any 1 rfl k (by omega) hl1)
 generalize hq2 : numS 1 q1.2 = q2 at *
 clear h hl hl1 hq1 hq2 h1 hst hbx hbr
 go_enter Tryz.func130, Tryz.ntmps130
 go_wp2_with fail
 refine HN.out.mono ?_
 rintro e w2 ⟨rfl, k2⟩
 have HM2 := Lib.hid (HM.out _ k2)
 clear k2 HM HN
 go_wp2_with fail
 refine HM2.out.mono ?_
 rintro e w3 ⟨rfl, k3⟩
 obtain ⟨h3, hb3⟩ := HK.out _ _ k3
 have c0 := hb3.cell 0
 have f0 := hb3.free 0
 have c1 := hb3.cell 1
 have f1 := hb3.free 1
 have hz := h3.only.size
 have F := Lib.hid (show StrPost W X Q r (.agg #[.int .i64 q1.1, .int .i64 q2.1]) q2.2 (.returned (.agg #[.int .i64 q1.1, .int .i64 q2.1])) ((w3.setCell ⟨w.heap.size, 0, none⟩ (.int .i64 q1.1)).setCell ⟨w.heap.size, 1, none⟩ (.int .i64 q2.1)) from ⟨rfl, (h3.setNew HZ.out _).setNew HZ.out _⟩)
 clear k3 h3 hb3 HM2 HK hz
 go_wp2_with fail
 exact bodyPost_ret (v := .agg #[.int .i64 q1.1, .int .i64 q2.1]) (by simp [results, Tryz.results130, go_sem, c0, c1]) rfl F.out
end Go.Proofs.YtlcfoeikamkpmaaGreat

namespace Go.Proofs.YtlcfoeikamkpmaaGreat
open Go.RowKit Go.Wh Go.Maps

def NwPost (W : World) (X Q : Nat → Prop) (r : Nat) (P : Value → World → Prop) (s : RS) (e : Ending) (w' : World) : Prop := ∃ v, e = .returned v ∧ P v w' ∧ RAt W X Q r s w'
theorem numS_range {n : Nat} {s : RS} (h : Byt s.1) : 0 ≤ (numS n s).1 ∧ (numS n s).1 < 256 ^ n := by
 unfold numS tkS
 split
 · have := decB_range (List.replicate n 0) (Byt.zeros n)
   rwa [List.length_replicate] at this
 · rename_i hn
   have := decB_range (s.1.take n) (h.take n)
   rwa [List.length_take, Nat.min_eq_left (by omega)] at this
theorem tkS_len {n : Nat} {s : RS} {k : Nat} (h : s.1.length ≤ k) : (tkS n s).2.1.length ≤ k := by
 unfold tkS
 split
 · exact Nat.zero_le _
 · simp only [List.length_drop]
   omega
theorem tkS_length {n : Nat} {s : RS} : (tkS n s).1.length = n := by
 unfold tkS
 split
 · simp
 · simp only [List.length_take]
   omega
theorem tkS_byt {n : Nat} {s : RS} (h : Byt s.1) : Byt (tkS n s).1 := by
 unfold tkS
 split
 · exact Byt.zeros n
 · exact h.take n
theorem rimage_any {W w : World} {X Q : Nat → Prop} {r : Nat} {s : RS} (h : RAt W X Q r s w) (hl : s.1.length ≤ 100000) :
 Calls Tryz.prog 131 #[.pointer (some ⟨r, 0, none⟩)] w (NwPost W X Q r (fun v w' => Sl w' (fun g => w.heap.size ≤ g) 1 v (imS s).1.length (bc (imS s).1)) (imS s).2) := by
 have HN := Lib.hid (rnum_any 1 rfl h.base (by omega) hl)
 have hr := numS_range (n := 1) h.byt
 have p1 : (256 : Int) ^ 1 = 256 := rfl
 rw [p1] at hr
 have hl1 : (numS 1 s).2.1.length ≤ 100000 := numS_len hl
 have H := Lib.hid h
 unfold imS
 rw [tkS_length]
 generalize numS 1 s = q1 at *
 obtain ⟨n, hn⟩ : ∃ n : Nat, q1.1 = n := ⟨q1.1.toNat, by omega⟩
 have hnn : n ≤ 255 := by omega
 rw [hn, Int.toNat_natCast]
 obtain ⟨z, q⟩ := q1
 dsimp only at *
 subst hn
 have HT := Lib.hid (fun w2 (k : RAt w (fun b => b = r) Q r q w2) => take_any _ _ _ _ r n q k hnn hl1)
 have HC := Lib.hid (show n ≤ 10000 by omega)
 clear h hl hr p1 hl1 hnn
 go_enter Tryz.func131, Tryz.ntmps131
 go_wp2_with fail
 refine HN.out.mono ?_
 rintro e w2 ⟨rfl, k2⟩
 have HT2 := Lib.hid (HT.out _ k2)
 clear k2 HT HN
 go_wp2_with fail
 refine HT2.out.mono ?_
 rintro e w3 ⟨v, rfl, hv, k3⟩
 have HCL := Lib.hid (clone_b v n (bc (tkS n q).1) w3 hv.reads (bc_one _) HC.out)
 have H3 := Lib.hid (H.out.back k3)
 have hz := k3.only.size
 have HZ := Lib.hid hz
 clear HT2 hv k3 hz
 go_wp2_with fail
 refine HCL.out.mono ?_
 rintro e w4 ⟨v4, rfl, hv4, hb4, hg4⟩
 have F := Lib.hid (show NwPost W X Q r (fun v w' => Sl w' (fun g => w.heap.size ≤ g) 1 v n (bc (tkS n q).1)) (tkS n q).2 (.returned v4) w4 from ⟨_, rfl, Vec.sl hv4 fun g hg => ⟨by have := hg4 g hg; have := HZ.out; omega, (hg4 g hg).2⟩, H3.out.still (Only.ofBelow hb4)⟩)
 clear hv4 hb4 hg4 HCL
 go_wp2_with fail
 go_ret
 exact F.out
def mvV (m : PMv) : Value := .agg #[.int .i64 m.fp, .int .i64 m.fc, .int .i64 m.tp, .int .i64 m.tc]
theorem mvS_spS (s : RS) : mvS s = (⟨(spS s).1.1, (spS s).1.2, (spS (spS s).2).1.1, (spS (spS s).2).1.2⟩, (spS (spS s).2).2) := rfl
theorem spS_len {s : RS} {k : Nat} (h : s.1.length ≤ k) : (spS s).2.1.length ≤ k := numS_len (numS_len h)
set_option maxHeartbeats 1000000 in
theorem rmove_any {W w : World} {X Q : Nat → Prop} {r : Nat} {s : RS} (h : RAt W X Q r s w) (hl : s.1.length ≤ 100000) :
 Calls Tryz.prog 133 #[.pointer (some ⟨r, 0, none⟩)] w (StrPost W X Q r (mvV (mvS s).1) (mvS s).2) := by
 have hst : Still w (w.alloc (.cells #[.int .i64 0, .int .i64 0, .int .i64 0, .int .i64 0] 180)) := (Still.refl w).alloc _
 have h1 := h.still hst
 have HN := Lib.hid (rspot_any h1.base hl)
 have hbx := cellsAt_new w [.int .i64 0, .int .i64 0, .int .i64 0, .int .i64 0] 180
 have hbr : w.heap.size ≠ r := by
  obtain ⟨bv, hc, -⟩ := h.b
  have := hc.lt
  omega
 have HZ := Lib.hid (show W.heap.size ≤ w.heap.size ∧ w.heap.size ≠ r ∧ w.heap.size < (w.alloc (.cells #[.int .i64 0, .int .i64 0, .int .i64 0, .int .i64 0] 180)).heap.size from ⟨h.only.size, hbr, by simp⟩)
 rw [mvS_spS]
 unfold mvV
 have hl1 : (spS s).2.1.length ≤ 100000 := spS_len hl
 generalize spS s = q1 at *
 have HM := Lib.hid (fun (W2 : World) (X2 : Nat → Prop) w2 (k : RAt W2 X2 Q r q1.2 w2) => rspot_any k hl1)
 generalize spS q1.2 = q2 at *
 have HB := Lib.hid (fun s' w' (k : RAt (w.alloc (.cells #[.int .i64 0, .int .i64 0, .int .i64 0, .int .i64 0] 180)) (fun b => b = r) Q r s' w') => show RAt W X Q r s' w' ∧ cellsAt w' w.heap.size [.int .i64 0, .int .i64 0, .int .i64 0, .int .i64 0] from ⟨h1.back k, hbx.only k.only hbr⟩)
 clear h hl hl1 h1 hst hbx hbr
 obtain ⟨⟨p1, c1⟩, s1⟩ := q1
 obtain ⟨⟨p2, c2⟩, s2⟩ := q2
 dsimp only at *
 go_enter Tryz.func133, Tryz.ntmps133
 go_wp2_with fail
 refine HN.out.mono ?_
 rintro e w2 ⟨rfl, k2⟩
 have hz2 := k2.only.size
 obtain ⟨h2, hb2⟩ := HB.out _ _ k2
 have hst2 : Still w2 (w2.alloc (.cells #[.int .i64 p1, .int .i64 c1] 64)) := (Still.refl w2).alloc _
 have hb3 := cellsAt_new w2 [.int .i64 p1, .int .i64 c1] 64
 have k3 := k2.still hst2
 have h3 := h2.still hst2
 have hb2' := hb2.only hst2 fun e => e
 have HH := Lib.hid (And.intro h3 (And.intro k3 (And.intro hb2' hb3)))
 have HZ2 := Lib.hid (show w.heap.size < w2.heap.size ∧ r < w2.heap.size from ⟨hb2.lt, Nat.lt_of_lt_of_le k2.rl hz2⟩)
 clear HN hz2 h2 hb2 hst2 HB k2 hb3 k3 h3 hb2'
 go_wp2_with fail
 generalize hw3 : w2.alloc (.cells #[.int .i64 p1, .int .i64 c1] 64) = w3 at *
 clear hw3
 obtain ⟨b3, hb3⟩ : ∃ b, w2.heap.size = b := ⟨_, rfl⟩
 rw [hb3] at HH HZ2
 rw [hb3]
 obtain ⟨b2, hb2⟩ : ∃ b, w.heap.size = b := ⟨_, rfl⟩
 rw [hb2] at HH HZ2 HZ
 rw [hb2]
 clear hb2 hb3
 have HC := Lib.hid (fun w' (hs : Still w3 w') => show w'.cell? ⟨b3, 0, none⟩ = some (.int .i64 p1) ∧ w'.cell? ⟨b3, 1, none⟩ = some (.int .i64 c1) from ⟨Still.cell hs (HH.out.2.2.2.cell 0), Still.cell hs (HH.out.2.2.2.cell 1)⟩)
 have HCALL := Lib.hid (fun w' (hs : Still w3 w') => show Calls Tryz.prog 130 #[.pointer (some ⟨r, 0, none⟩)] w' (fun e w4 => e = .returned (.agg #[.int .i64 p2, .int .i64 c2]) ∧ RAt W X Q r s2 w4 ∧ cellsAt w4 b2 [.int .i64 0, .int .i64 0, .int .i64 0, .int .i64 0] ∧ cellsAt w4 b3 [.int .i64 p1, .int .i64 c1]) from by
  have h3 := HH.out.1.still hs
  refine (HM.out _ _ w' h3.base).mono ?_
  rintro e w4 ⟨rfl, k4⟩
  exact ⟨rfl, h3.back k4, (HH.out.2.2.1.only hs fun e => e).only k4.only HZ.out.2.1, (HH.out.2.2.2.only hs fun e => e).only k4.only fun e => by have := HZ2.out; omega⟩)
 have HS := Lib.hid (Still.refl w3)
 clear HM
 refine wp_region_D_drew (D := (fun i => [4].contains i)) (S := (fun w' => w'.cell? ⟨b3, 0, none⟩ = some (.int .i64 p1) ∧ w'.cell? ⟨b3, 1, none⟩ = some (.int .i64 c1))) (by kernel_rfl) ?_ (fun hHeld => ?_)
 · exact HC.out _ HS.out.drew
 (refine takeS (i := 0) (some 6) (v := ?_) rfl (by rfl) (by rfl) (by kernel_rfl) (by rfl) (fun _ _ _ h => h) (by assumption) ?_ ?_; rotate_left; (intro w hSw; (try dsimp only at hSw); obtain ⟨hSw0, hSw1⟩ := hSw; go_simp; try with_reducible rfl); try go_frame)
 (refine takeS (i := 1) (some 7) (v := ?_) rfl (by rfl) (by rfl) (by kernel_rfl) (by rfl) (fun _ _ _ h => h) (by assumption) ?_ ?_; rotate_left; (intro w hSw; (try dsimp only at hSw); obtain ⟨hSw0, hSw1⟩ := hSw; go_simp; try with_reducible rfl); try go_frame)
 refine wpAnyD_ready (rs := [2]) (by kernel_rfl) (by simp) ?_
 refine ReadyD.cons rfl (fun K hK => ?_) ?_
 go_simp
 refine (HCALL.out _ HS.out.drew).mono ?_
 rintro e w4 ⟨rfl, k4, hb2, hb3⟩
 go_wp2_with fail
 (refine hK.out _ _ ?_ (fun hNew => ?_); (focus (exact ⟨hb3.cell 0, hb3.cell 1⟩)); clear hHeld; have hHeld := hNew; clear hNew)
 (clear hK K; try go_frame)
 (refine takeS (i := 3) (some 9) (v := ?_) rfl (by rfl) (by rfl) (by kernel_rfl) (by rfl) (fun _ _ _ h => h) (by assumption) ?_ ?_; rotate_left; (intro w hSw; (try dsimp only at hSw); obtain ⟨hSw0, hSw1⟩ := hSw; go_simp; try with_reducible rfl); try go_frame)
 have g0 := hb2.cell 0
 have g1 := hb2.cell 1
 have g2 := hb2.cell 2
 have g3 := hb2.cell 3
 have f0 := hb2.free 0
 have f1 := hb2.free 1
 have f2 := hb2.free 2
 have f3 := hb2.free 3
 have F := Lib.hid (show StrPost W X Q r (.agg #[.int .i64 p1, .int .i64 c1, .int .i64 p2, .int .i64 c2]) s2 (.returned (.agg #[.int .i64 p1, .int .i64 c1, .int .i64 p2, .int .i64 c2])) ((((w4.setCell ⟨b2, 0, none⟩ (.int .i64 p1)).setCell ⟨b2, 1, none⟩ (.int .i64 c1)).setCell ⟨b2, 2, none⟩ (.int .i64 p2)).setCell ⟨b2, 3, none⟩ (.int .i64 c2)) from ⟨rfl, (((k4.setNew HZ.out.1 _).setNew HZ.out.1 _).setNew HZ.out.1 _).setNew HZ.out.1 _⟩)
 clear hb2 hb3 k4 HCALL HC
 refine wpAnyD_ready (rs := [4]) (by kernel_rfl) (by simp) ?_
 refine ReadyD.last rfl (by rfl) (fun K hK => ?_) ?_
 go_simp
 refine hK.out _ _ ?_
 (clear hK K; try go_frame)
 refine wpAnyD_done (by kernel_rfl) ?_ _
 rotate_left
 exact ReadyD.nil
 exact ReadyD.nil
 go_wp2_with fail
 exact bodyPost_ret (v := .agg #[.int .i64 p1, .int .i64 c1, .int .i64 p2, .int .i64 c2]) (by simp [results, Tryz.results133, go_sem, g0, g1, g2, g3]) rfl F.out
end Go.Proofs.YtlcfoeikamkpmaaGreat

namespace Go.Proofs.YtlcfoeikamkpmaaGreat
open Go.RowKit Go.Wh Go.Maps

abbrev Still' (w : World) (r : Nat) (w' : World) : Prop := Only (fun b => b = r) w w'
theorem mvS_len {s : RS} {k : Nat} (h : s.1.length ≤ k) : (mvS s).2.1.length ≤ k := numS_len (numS_len (numS_len (numS_len h)))

theorem info_mv : (Tryz.prog.info? 180).map (fun i => (i.zero, i.size, i.bytes)) = some (some (.agg #[.int .i64 0, .int .i64 0, .int .i64 0, .int .i64 0]), 4, 32) := by kernel_rfl
def Rdmv (W w : World) (X Q : Nat → Prop) (r : Nat) (R : List PMv × RS) (k : Nat) (lv : Value) (wr : World) : Prop :=
 ∃ (ls : List PMv) (s : RS), RAt W X Q r s wr ∧ s.1.length ≤ 100000 ∧ ls.length + k ≤ 255 ∧ (ls ++ (loopS mvS k s).1, (loopS mvS k s).2) = R ∧ Still' w r wr ∧ Vec wr 4 lv ls.length (ls.flatMap mvC) ∧ ∀ g, lv.ownBlock = some g → w.heap.size ≤ g ∧ g < wr.heap.size
set_option maxHeartbeats 2000000 in
set_option maxRecDepth 100000 in
theorem reads_mv {W w : World} {X Q : Nat → Prop} {r : Nat} {s : RS} (h : RAt W X Q r s w) (hl : s.1.length ≤ 100000) :
 Calls Tryz.prog 132 #[.pointer (some ⟨r, 0, none⟩), .func (.func 133) #[.pointer (some ⟨r, 0, none⟩)] #[]] w (NwPost W X Q r (fun v w' => Sl w' (fun g => w.heap.size ≤ g) 4 v (readsS mvS s).1.length ((readsS mvS s).1.flatMap mvC)) (readsS mvS s).2) := by
 have HN := Lib.hid (rnum_any 1 rfl h.base (by omega) hl)
 have hr := numS_range (n := 1) h.byt
 have p1 : (256 : Int) ^ 1 = 256 := rfl
 rw [p1] at hr
 have hl1 : (numS 1 s).2.1.length ≤ 100000 := numS_len hl
 have hrl := h.base.rl
 have H := Lib.hid (And.intro h hrl)
 obtain ⟨R, hR⟩ : ∃ R, readsS mvS s = R := ⟨_, rfl⟩
 rw [hR]
 unfold readsS at hR
 generalize numS 1 s = q1 at *
 obtain ⟨n, hn⟩ : ∃ n : Nat, q1.1 = n := ⟨q1.1.toNat, by omega⟩
 have hnn : n ≤ 255 := by omega
 rw [hn, Int.toNat_natCast] at hR
 obtain ⟨z, q⟩ := q1
 dsimp only at *
 subst hn
 have HR := Lib.hid (And.intro hR (And.intro hl1 hnn))
 obtain ⟨i0, hi0, hz0, hz1, hz2⟩ := info_parts info_mv
 have HI := Lib.hid (And.intro hi0 (And.intro hz0 (And.intro hz1 hz2)))
 clear h hl hr p1 hl1 hR hnn hrl hi0 hz0 hz1 hz2
 go_enter Tryz.func132, Tryz.ntmps132
 go_wp2_with fail
 refine HN.out.mono ?_
 rintro e w2 ⟨rfl, k2⟩
 have HST := Lib.hid (show Rdmv W w X Q r R n (.slice none 0 0) w2 from ⟨[], q, H.out.1.back k2, HR.out.2.1, by simp; exact HR.out.2.2, by rw [← HR.out.1]; rfl, k2.only, Vec.nil _ _, fun g e => by cases e⟩)
 clear HN k2
 go_wp2_with fail
 go_loopw [5, 6] (fun s5 s6 wr => ∃ k : Nat, s6 = .int .i64 k ∧ k ≤ n ∧ Rdmv W w X Q r R k s5 wr) (fun _ s6 _ => (intOf s6).toNat)
 case atStart => exact ⟨n, rfl, Nat.le_refl _, HST.out⟩
 case round =>
  clear HST
  obtain ⟨k, rfl, hk, ls, s', h3, hl3, hlen, hRR, hst, hv, hown⟩ := hrel
  obtain ⟨l', sh⟩ := s'
  dsimp only at hl3
  obtain ⟨bv, hcc, -⟩ := h3.b
  have c1 : wr.cell? ⟨r, 1, none⟩ = some (.bool sh) := hcc.cell 1
  obtain ⟨va, vc, rfl⟩ := hv.form'
  have HH := Lib.hid (And.intro h3 (And.intro hl3 (And.intro hlen (And.intro hRR (And.intro hst (And.intro hv hown))))))
  have hexit : k = 0 ∨ sh = true → NwPost W X Q r (fun v w' => Sl w' (fun g => w.heap.size ≤ g) 4 v R.1.length (R.1.flatMap mvC)) R.2 (.returned (.slice va ls.length vc)) wr := fun hx => by
   have hR2 : R = (ls, (l', sh)) := by
    rw [← hRR]
    rcases hx with rfl | rfl
    · simp [loopS]
    · cases k with
      | zero => simp [loopS]
      | succ k => simp [loopS]
   rw [hR2]
   exact ⟨_, rfl, Vec.sl hv hown, h3⟩
  have HX := Lib.hid hexit
  clear h3 hl3 hlen hRR hst hv hown hcc hexit
  by_cases hi : 0 < k
  rotate_left
  · have hk0 : k = 0 := by omega
    subst hk0
    have b1 : decide ((0 : Int) < ((0 : Nat) : Int)) = false := by decide
    have F := Lib.hid (HX.out (.inl rfl))
    clear HX
    go_wp2_with fail
    go_ret
    exact F.out
  · obtain ⟨k, rfl⟩ : ∃ j, k = j + 1 := ⟨k - 1, by omega⟩
    have b1 : decide ((0 : Int) < ((k + 1 : Nat) : Int)) = true := decide_eq_true (by omega)
    have u9 : IntKind.i64.wrap (((k + 1 : Nat) : Int) - 1) = (k : Int) := by
     have e : ((k + 1 : Nat) : Int) - 1 = (k : Int) := by omega
     rw [e]
     exact IntWalk.i64_in _ (by have := HR.out.2.2; omega)
    cases sh with
    | true =>
     have F := Lib.hid (HX.out (.inr rfl))
     clear HX
     go_wp2_with fail
     go_ret
     exact F.out
    | false =>
     have HC := Lib.hid (rmove_any HH.out.1.base HH.out.2.1)
     have hS2 : ((mvS (l', false)).2).1.length ≤ 100000 := mvS_len HH.out.2.1
     have HLP := Lib.hid (show loopS mvS (k + 1) (l', false) = ((mvS (l', false)).1 :: (loopS mvS k (mvS (l', false)).2).1, (loopS mvS k (mvS (l', false)).2).2) from rfl)
     generalize mvS (l', false) = xs at *
     obtain ⟨x, s2⟩ := xs
     dsimp only at *
     have HS2 := Lib.hid hS2
     unfold mvV at HC
     clear HX hS2
     obtain ⟨K, hK⟩ : ∃ K : Int, ((k + 1 : Nat) : Int) = K := ⟨_, rfl⟩
     rw [hK] at b1 u9 ⊢
     have HK := Lib.hid hK
     clear hK hi
     go_wp2_with fail
     refine HC.out.mono ?_
     rintro e w4 ⟨rfl, k4⟩
     have hz4 := k4.only.size
     have HV4 := Lib.hid (HH.out.2.2.2.2.2.1.only k4.only fun g hg e => by have := HH.out.2.2.2.2.2.2 g hg; have := H.out.2; omega)
     have HNX0 := Lib.hid (fun ob v' w' (hv' : Vec w' 4 v' (ls.length + 1) (ls.flatMap mvC ++ [.int .i64 x.fp, .int .i64 x.fc, .int .i64 x.tp, .int .i64 x.tc])) (ho' : Only (fun k => (Value.slice va ls.length vc).ownBlock = some k) (w4.alloc ob) w') (hb' : v'.ownBlock = (Value.slice va ls.length vc).ownBlock ∨ ∃ g, v'.ownBlock = some g ∧ (w4.alloc ob).heap.size ≤ g ∧ g < w'.heap.size) => show Rdmv W w X Q r R k v' w' from by
      have hst : Still w4 (w4.alloc ob) := (Still.refl w4).alloc _
      have hzs := hst.size
      have hzo := ho'.size
      have hzw := HH.out.2.2.2.2.1.size
      have h4 := (HH.out.1.back k4).still hst
      have hrw := H.out.2
      refine ⟨ls ++ [x], s2, ?_, HS2.out, ?_, ?_, ?_, ?_, fun g hg => ?_⟩
      · obtain ⟨bv, e1, e2, e3⟩ := h4.b
        refine ⟨h4.only.andThen ho' fun i hi e => ?_, h4.rx, h4.rl, h4.qx, ⟨bv, e1.only ho' fun e => ?_, e2.only ho' fun g hg e => ?_, e3⟩, h4.byt⟩
        · have := HH.out.2.2.2.2.2.2 i e
          have := H.out.1.only.size
          omega
        · have := HH.out.2.2.2.2.2.2 r e
          omega
        · have := HH.out.2.2.2.2.2.2 g e
          have := (h4.qx g hg).2
          have := H.out.1.only.size
          omega
      · have := HH.out.2.2.1
        rw [List.length_append, List.length_singleton]
        omega
      · have := HH.out.2.2.2.1
        rw [HLP.out] at this
        rw [← this, List.append_assoc]
        rfl
      · exact ((HH.out.2.2.2.2.1.trans k4.only).trans (hst.mono fun _ e => e.elim)).andThen ho' fun i hi e => by have := HH.out.2.2.2.2.2.2 i e; omega
      · rw [List.length_append, List.length_singleton, List.flatMap_append]
        have e : [x].flatMap mvC = [.int .i64 x.fp, .int .i64 x.fc, .int .i64 x.tp, .int .i64 x.tc] := rfl
        rw [e]
        exact hv'
      · rcases hb' with e | ⟨g', e, e1, e2⟩
        · rw [e] at hg
          have := HH.out.2.2.2.2.2.2 g hg
          omega
        · rw [e] at hg
          injection hg with hg
          omega)
     clear k4 hz4 HC
     go_wp2_with (at_builtin; refine wpList_append_vec rfl _ _ 65 rfl 180 i0 _ 4 32 Tryz.underlying65 HI.out.1 HI.out.2.1 HI.out.2.2.1 HI.out.2.2.2 rfl (by decide) (.slice va ls.length vc) ls.length (ls.flatMap mvC) (by simp [Act.eval]) (HV4.out.alloc _) (.slice (some ⟨w4.heap.size, 0, none⟩) 1 1) 1 [.int .i64 x.fp, .int .i64 x.fc, .int .i64 x.tp, .int .i64 x.tc] (by simp [Act.eval]) ((cellsAt_new w4 [.int .i64 x.fp, .int .i64 x.fc, .int .i64 x.tp, .int .i64 x.tc] _).reads rfl) (by intro u hu; simp at hu; rcases hu with rfl | rfl | rfl | rfl <;> rfl) (by have := HH.out.2.2.1; simp only [maxLen]; omega) (by have := HH.out.2.2.1; omega) ?_; intro v' w' hv' ho' hb'; have HNX := Lib.hid (HNX0.out _ v' w' hv' ho' hb'); clear hv' ho' hb' HNX0)
     go_roundw
     case rel => exact ⟨k, by rfl, by omega, HNX.out⟩
     case measure => simp [intOf]; have := HK.out; omega
end Go.Proofs.YtlcfoeikamkpmaaGreat

namespace Go.Proofs.YtlcfoeikamkpmaaGreat
open Go.RowKit Go.Wh Go.Maps

structure BxSt (W : World) (X Q : Nat → Prop) (r : Nat) (b2 b3 : Nat) (s : RS) (zs cs : List Value) (w : World) : Prop where
 rd : RAt W X Q r s w
 z : cellsAt w b2 zs
 c : cellsAt w b3 cs
 z2 : W.heap.size ≤ b2
 z3 : W.heap.size ≤ b3
 ne : b2 ≠ b3
 n2 : b2 ≠ r
 n3 : b3 ≠ r
section
variable {W w w' : World} {X Q : Nat → Prop} {r b2 b3 : Nat} {s s' : RS} {zs cs : List Value}
theorem BxSt.call (h : BxSt W X Q r b2 b3 s zs cs w) (k : RAt w (fun b => b = r) Q r s' w') : BxSt W X Q r b2 b3 s' zs cs w' :=
 ⟨h.rd.back k, h.z.only k.only h.n2, h.c.only k.only h.n3, h.z2, h.z3, h.ne, h.n2, h.n3⟩
theorem BxSt.store (h : BxSt W X Q r b2 b3 s zs cs w) (i : Nat) (u : Value) : BxSt W X Q r b2 b3 s zs (cs.set i u) (w.setCell ⟨b3, i, none⟩ u) :=
 ⟨h.rd.setNew h.z3 u, h.z.setOther h.ne u, h.c.setCell i u, h.z2, h.z3, h.ne, h.n2, h.n3⟩
theorem RAt.ne (h : RAt W X Q r s w) {b : Nat} (hb : w.heap.size ≤ b) : b ≠ r := by
 obtain ⟨bv, hc, -⟩ := h.b
 have := hc.lt
 omega
theorem BxSt.start (h : RAt W X Q r s w) (zs cs : List Value) (t1 t2 : TypeId) (k : RAt (w.alloc (.cells zs.toArray t1)) (fun b => b = r) Q r s' w') : BxSt W X Q r w.heap.size w'.heap.size s' zs cs (w'.alloc (.cells cs.toArray t2)) := by
 have hst : Still w (w.alloc (.cells zs.toArray t1)) := (Still.refl w).alloc _
 have hs2 : Still w' (w'.alloc (.cells cs.toArray t2)) := (Still.refl w').alloc _
 have hz := k.only.size
 have hz0 : (w.alloc (.cells zs.toArray t1)).heap.size = w.heap.size + 1 := by simp
 have hn := h.ne (Nat.le_refl _)
 have hsz := h.only.size
 have hk := (h.still hst).back k
 exact ⟨hk.still hs2, ((cellsAt_new w zs t1).only k.only hn).alloc _, cellsAt_new w' cs t2, hsz, by omega, by omega, hn, hk.ne (Nat.le_refl _)⟩
end

def lvV (x : PLv) : Value := .agg #[.int .i64 x.txn, .int .i64 x.last, .int .i64 x.next, .bool x.commit]
theorem lvS_len {s : RS} {k : Nat} (h : s.1.length ≤ k) : (lvS s).2.1.length ≤ k := numS_len (numS_len (numS_len (numS_len (h))))
set_option maxHeartbeats 2000000 in
set_option maxRecDepth 100000 in
theorem rlv_any {W w : World} {X Q : Nat → Prop} {r : Nat} {s : RS} (h : RAt W X Q r s w) (hl : s.1.length ≤ 100000) :
 Calls Tryz.prog 135 #[.pointer (some ⟨r, 0, none⟩)] w (StrPost W X Q r (lvV (lvS s).1) (lvS s).2) := by
 have hst : Still w (w.alloc (.cells #[.int .i64 0, .int .i64 0, .int .i64 0, .bool false] 184)) := (Still.refl w).alloc _
 have HN := Lib.hid (rnum_any 1 rfl (h.still hst).base (by omega) hl)
 have HS := Lib.hid (fun q w' (k : RAt (w.alloc (.cells #[.int .i64 0, .int .i64 0, .int .i64 0, .bool false] 184)) (fun b => b = r) Q r q w') u => BxSt.start h [.int .i64 0, .int .i64 0, .int .i64 0, .bool false] (u :: [.int .i64 0, .int .i64 0, .bool false]) 184 184 k)
 unfold lvS lvV
 dsimp only
 generalize hq0 : numS 1 s = q0 at *
 have hl0 : q0.2.1.length ≤ 100000 := by rw [← hq0]; exact numS_len hl
 generalize hq1 : numS 3 q0.2 = q1 at *
 have hl1 : q1.2.1.length ≤ 100000 := by rw [← hq1]; exact numS_len hl0
 generalize hq2 : numS 3 q1.2 = q2 at *
 have hl2 : q2.2.1.length ≤ 100000 := by rw [← hq2]; exact numS_len hl1
 generalize hq3 : numS 1 q2.2 = q3 at *
 have hl3 : q3.2.1.length ≤ 100000 := by rw [← hq3]; exact numS_len hl2
 have HM1 := Lib.hid (fun (W2 : World) (X2 : Nat → Prop) w2 (k : RAt W2 X2 Q r q0.2 w2) => rnum_any 3 rfl k (by omega) hl0)
 rw [hq1] at HM1
 have HM2 := Lib.hid (fun (W2 : World) (X2 : Nat → Prop) w2 (k : RAt W2 X2 Q r q1.2 w2) => rnum_any 3 rfl k (by omega) hl1)
 rw [hq2] at HM2
 have HM3 := Lib.hid (fun (W2 : World) (X2 : Nat → Prop) w2 (k : RAt W2 X2 Q r q2.2 w2) => rnum_any 1 rfl k (by omega) hl2)
 rw [hq3] at HM3
 clear h hl hst hl0 hq0 hl1 hq1 hl2 hq2 hl3 hq3
 go_enter Tryz.func135, Tryz.ntmps135
 go_wp2_with fail
 refine HN.out.mono ?_
 rintro e w2 ⟨rfl, k2⟩
 have HB0 := Lib.hid (HS.out _ _ k2 (.int .i64 q0.1))
 clear k2 HN HS
 go_wp2_with fail
 refine (HM1.out _ _ _ HB0.out.rd.base).mono ?_
 rintro e w3 ⟨rfl, k1⟩
 have hb1 := HB0.out.call k1
 have e1 := hb1.c.cell 1
 have f1 := hb1.c.free 1
 have HB1 := Lib.hid (hb1.store 1 (.int .i64 q1.1))
 clear hb1 k1
 go_wp2_with fail
 refine (HM2.out _ _ _ HB1.out.rd.base).mono ?_
 rintro e w4 ⟨rfl, k2⟩
 have hb2 := HB1.out.call k2
 have e2 := hb2.c.cell 2
 have f2 := hb2.c.free 2
 have HB2 := Lib.hid (hb2.store 2 (.int .i64 q2.1))
 clear hb2 k2
 go_wp2_with fail
 refine (HM3.out _ _ _ HB2.out.rd.base).mono ?_
 rintro e w5 ⟨rfl, k3⟩
 have hb3 := HB2.out.call k3
 have e3 := hb3.c.cell 3
 have f3 := hb3.c.free 3
 have HB3 := Lib.hid (hb3.store 3 (.bool (q3.1 == 1)))
 have c0 := hb3.c.cell 0
 have z0 := hb3.z.cell 0
 have y0 := hb3.z.free 0
 have c1 := hb3.c.cell 1
 have z1 := hb3.z.cell 1
 have y1 := hb3.z.free 1
 have c2 := hb3.c.cell 2
 have z2 := hb3.z.cell 2
 have y2 := hb3.z.free 2
 have c3 := hb3.c.cell 3
 have z3 := hb3.z.cell 3
 have y3 := hb3.z.free 3
 have hne : w.heap.size ≠ w2.heap.size := hb3.ne
 clear hb3 k3
 have F := Lib.hid (show StrPost W X Q r (.agg #[.int .i64 q0.1, .int .i64 q1.1, .int .i64 q2.1, .bool (q3.1 == 1)]) q3.2 (.returned (.agg #[.int .i64 q0.1, .int .i64 q1.1, .int .i64 q2.1, .bool (q3.1 == 1)])) (((((w5.setCell ⟨w2.heap.size, 3, none⟩ (.bool (q3.1 == 1))).setCell ⟨w.heap.size, 0, none⟩ (.int .i64 q0.1)).setCell ⟨w.heap.size, 1, none⟩ (.int .i64 q1.1)).setCell ⟨w.heap.size, 2, none⟩ (.int .i64 q2.1)).setCell ⟨w.heap.size, 3, none⟩ (.bool (q3.1 == 1))) from ⟨rfl, ((((HB3.out.rd.setNew HB3.out.z2 _).setNew HB3.out.z2 _).setNew HB3.out.z2 _).setNew HB3.out.z2 _)⟩)
 go_wp2_with fail
 exact bodyPost_ret (v := .agg #[.int .i64 q0.1, .int .i64 q1.1, .int .i64 q2.1, .bool (q3.1 == 1)]) (by simp [results, Tryz.results135, go_sem, z0, z1, z2, z3]) rfl F.out

def dtV (x : PDt) : Value := .agg #[.int .i64 x.page, .int .i64 x.rc]
theorem dtS_len {s : RS} {k : Nat} (h : s.1.length ≤ k) : (dtS s).2.1.length ≤ k := numS_len (numS_len (h))
set_option maxHeartbeats 2000000 in
set_option maxRecDepth 100000 in
theorem rdt_any {W w : World} {X Q : Nat → Prop} {r : Nat} {s : RS} (h : RAt W X Q r s w) (hl : s.1.length ≤ 100000) :
 Calls Tryz.prog 137 #[.pointer (some ⟨r, 0, none⟩)] w (StrPost W X Q r (dtV (dtS s).1) (dtS s).2) := by
 have hst : Still w (w.alloc (.cells #[.int .i64 0, .int .i64 0] 49)) := (Still.refl w).alloc _
 have HN := Lib.hid (rnum_any 1 rfl (h.still hst).base (by omega) hl)
 have HS := Lib.hid (fun q w' (k : RAt (w.alloc (.cells #[.int .i64 0, .int .i64 0] 49)) (fun b => b = r) Q r q w') u => BxSt.start h [.int .i64 0, .int .i64 0] (u :: [.int .i64 0]) 49 49 k)
 unfold dtS dtV
 dsimp only
 generalize hq0 : numS 1 s = q0 at *
 have hl0 : q0.2.1.length ≤ 100000 := by rw [← hq0]; exact numS_len hl
 generalize hq1 : numS 3 q0.2 = q1 at *
 have hl1 : q1.2.1.length ≤ 100000 := by rw [← hq1]; exact numS_len hl0
 have HM1 := Lib.hid (fun (W2 : World) (X2 : Nat → Prop) w2 (k : RAt W2 X2 Q r q0.2 w2) => rnum_any 3 rfl k (by omega) hl0)
 rw [hq1] at HM1
 clear h hl hst hl0 hq0 hl1 hq1
 go_enter Tryz.func137, Tryz.ntmps137
 go_wp2_with fail
 refine HN.out.mono ?_
 rintro e w2 ⟨rfl, k2⟩
 have HB0 := Lib.hid (HS.out _ _ k2 (.int .i64 q0.1))
 clear k2 HN HS
 go_wp2_with fail
 refine (HM1.out _ _ _ HB0.out.rd.base).mono ?_
 rintro e w3 ⟨rfl, k1⟩
 have hb1 := HB0.out.call k1
 have e1 := hb1.c.cell 1
 have f1 := hb1.c.free 1
 have HB1 := Lib.hid (hb1.store 1 (.int .i64 q1.1))
 have c0 := hb1.c.cell 0
 have z0 := hb1.z.cell 0
 have y0 := hb1.z.free 0
 have c1 := hb1.c.cell 1
 have z1 := hb1.z.cell 1
 have y1 := hb1.z.free 1
 have hne : w.heap.size ≠ w2.heap.size := hb1.ne
 clear hb1 k1
 have F := Lib.hid (show StrPost W X Q r (.agg #[.int .i64 q0.1, .int .i64 q1.1]) q1.2 (.returned (.agg #[.int .i64 q0.1, .int .i64 q1.1])) (((w3.setCell ⟨w2.heap.size, 1, none⟩ (.int .i64 q1.1)).setCell ⟨w.heap.size, 0, none⟩ (.int .i64 q0.1)).setCell ⟨w.heap.size, 1, none⟩ (.int .i64 q1.1)) from ⟨rfl, ((HB1.out.rd.setNew HB1.out.z2 _).setNew HB1.out.z2 _)⟩)
 go_wp2_with fail
 exact bodyPost_ret (v := .agg #[.int .i64 q0.1, .int .i64 q1.1]) (by simp [results, Tryz.results137, go_sem, z0, z1]) rfl F.out
end Go.Proofs.YtlcfoeikamkpmaaGreat

namespace Go.Proofs.YtlcfoeikamkpmaaGreat
open Go.RowKit Go.Wh Go.Maps

def UnPost (W w : World) (X Q : Nat → Prop) (r : Nat) (o : POp) (s : RS) (e : Ending) (w' : World) : Prop :=
 ∃ ma mc, e = .returned (.agg #[.int .i64 o.unit, .slice ma o.moves.length mc, .int .i64 o.done]) ∧ Sl w' (fun g => w.heap.size ≤ g) 4 (.slice ma o.moves.length mc) o.moves.length (o.moves.flatMap mvC) ∧ RAt W X Q r s w'
theorem loopS_len {α : Type} {f : RS → α × RS} {k : Nat} (hf : ∀ s : RS, s.1.length ≤ k → (f s).2.1.length ≤ k) : ∀ (n : Nat) (s : RS), s.1.length ≤ k → (loopS f n s).2.1.length ≤ k
 | 0, _, h => h
 | n + 1, s, h => by
  unfold loopS
  split
  · exact h
  · exact loopS_len hf n _ (hf s h)
theorem readsS_len {α : Type} {f : RS → α × RS} {k : Nat} (hf : ∀ s : RS, s.1.length ≤ k → (f s).2.1.length ≤ k) {s : RS} (h : s.1.length ≤ k) : (readsS f s).2.1.length ≤ k := loopS_len hf _ _ (numS_len h)
theorem opS_len {s : RS} {k : Nat} (h : s.1.length ≤ k) : (opS s).2.1.length ≤ k := readsS_len (fun _ => mvS_len) (numS_len (numS_len h))
set_option maxHeartbeats 2000000 in
set_option maxRecDepth 100000 in
theorem rop_any {W w : World} {X Q : Nat → Prop} {r : Nat} {s : RS} (h : RAt W X Q r s w) (hl : s.1.length ≤ 100000) :
 Calls Tryz.prog 139 #[.pointer (some ⟨r, 0, none⟩)] w (UnPost W w X Q r (opS s).1 (opS s).2) := by
 have hst : Still w (w.alloc (.cells #[.int .i64 0, .slice none 0 0, .int .i64 0] 190)) := (Still.refl w).alloc _
 have HN := Lib.hid (rnum_any 2 rfl (h.still hst).base (by omega) hl)
 have HS := Lib.hid (fun q w' (k : RAt (w.alloc (.cells #[.int .i64 0, .slice none 0 0, .int .i64 0] 190)) (fun b => b = r) Q r q w') u => BxSt.start h [.int .i64 0, .slice none 0 0, .int .i64 0] (u :: [.slice none 0 0, .int .i64 0]) 190 190 k)
 unfold opS
 dsimp only
 generalize hq0 : numS 2 s = q0 at *
 have hl0 : q0.2.1.length ≤ 100000 := by rw [← hq0]; exact numS_len hl
 generalize hq1 : numS 1 q0.2 = q1 at *
 have hl1 : q1.2.1.length ≤ 100000 := by rw [← hq1]; exact numS_len hl0
 generalize hq2 : readsS mvS q1.2 = q2 at *
 have HM1 := Lib.hid (fun (W2 : World) (X2 : Nat → Prop) w2 (k : RAt W2 X2 Q r q0.2 w2) => rnum_any 1 rfl k (by omega) hl0)
 rw [hq1] at HM1
 have HM2 := Lib.hid (fun (W2 : World) (X2 : Nat → Prop) w2 (k : RAt W2 X2 Q r q1.2 w2) => reads_mv k hl1)
 rw [hq2] at HM2
 clear h hl hst hl0 hq0 hl1 hq1 hq2
 go_enter Tryz.func139, Tryz.ntmps139
 go_wp2_with fail
 refine HN.out.mono ?_
 rintro e w2 ⟨rfl, k2⟩
 have HB0 := Lib.hid (HS.out _ _ k2 (.int .i64 q0.1))
 have HZ2 := Lib.hid (show w.heap.size < w2.heap.size from by have := k2.only.size; simp at this; omega)
 clear k2 HN HS
 go_wp2_with fail
 refine (HM1.out _ _ _ HB0.out.rd.base).mono ?_
 rintro e w3 ⟨rfl, k1⟩
 have hb1 := HB0.out.call k1
 have e1 := hb1.c.cell 2
 have f1 := hb1.c.free 2
 have HB1 := Lib.hid (hb1.store 2 (.int .i64 q1.1))
 have HZ3 := Lib.hid (show w2.heap.size < (w3.setCell ⟨w2.heap.size, 2, none⟩ (.int .i64 q1.1)).heap.size from by have := hb1.c.lt; simpa [World.setCell] using this)
 clear hb1 k1
 go_wp2_with fail
 refine (HM2.out _ _ _ HB1.out.rd.base).mono ?_
 rintro e w4 ⟨mv, rfl, hmv, k2⟩
 have hb2 := HB1.out.call k2
 obtain ⟨ma, mc, rfl⟩ := hmv.form
 have e2 := hb2.c.cell 1
 have f2 := hb2.c.free 1
 have HB2 := Lib.hid (hb2.store 1 (.slice ma q2.1.length mc))
 have HMV := Lib.hid hmv
 have c0 := hb2.c.cell 0
 have z0 := hb2.z.cell 0
 have y0 := hb2.z.free 0
 have c1 := hb2.c.cell 1
 have z1 := hb2.z.cell 1
 have y1 := hb2.z.free 1
 have c2 := hb2.c.cell 2
 have z2 := hb2.z.cell 2
 have y2 := hb2.z.free 2
 have hne : w.heap.size ≠ w2.heap.size := hb2.ne
 clear hb2 k2 hmv
 have F := Lib.hid (show UnPost W w X Q r ⟨q0.1, q2.1, q1.1⟩ q2.2 (.returned (.agg #[.int .i64 q0.1, .slice ma q2.1.length mc, .int .i64 q1.1])) ((((w4.setCell ⟨w2.heap.size, 1, none⟩ (.slice ma q2.1.length mc)).setCell ⟨w.heap.size, 0, none⟩ (.int .i64 q0.1)).setCell ⟨w.heap.size, 1, none⟩ (.slice ma q2.1.length mc)).setCell ⟨w.heap.size, 2, none⟩ (.int .i64 q1.1)) from ⟨ma, mc, rfl, by
  have hz2 := HZ2.out
  have hz3 := HZ3.out
  have s1 := HMV.out.only (setCell_only w4 ⟨w2.heap.size, 1, none⟩ (.slice ma q2.1.length mc)) fun g hg e => by have e' : g = w2.heap.size := e; omega
  have s2 := s1.only (setCell_only _ ⟨w.heap.size, 0, none⟩ (.int .i64 q0.1)) fun g hg e => by have e' : g = w.heap.size := e; omega
  have s3 := s2.only (setCell_only _ ⟨w.heap.size, 1, none⟩ (.slice ma q2.1.length mc)) fun g hg e => by have e' : g = w.heap.size := e; omega
  have s4 := s3.only (setCell_only _ ⟨w.heap.size, 2, none⟩ (.int .i64 q1.1)) fun g hg e => by have e' : g = w.heap.size := e; omega
  exact s4.mono fun g hg => by omega, ((HB2.out.rd.setNew HB2.out.z2 _).setNew HB2.out.z2 _).setNew HB2.out.z2 _⟩)
 go_wp2_with fail
 exact bodyPost_ret (v := .agg #[.int .i64 q0.1, .slice ma q2.1.length mc, .int .i64 q1.1]) (by simp [results, Tryz.results139, go_sem, z0, z1, z2]) rfl F.out
end Go.Proofs.YtlcfoeikamkpmaaGreat

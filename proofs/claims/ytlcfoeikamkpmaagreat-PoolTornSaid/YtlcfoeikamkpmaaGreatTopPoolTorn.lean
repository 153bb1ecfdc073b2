/- What dirty pages are: plain (apart from a bundle that lacks it). No program. No conditions. The document's reader of tiles: a number of four bytes, a text that is padded. Conditions: they lie in memory. The document's number of four bytes. Conditions: it may be. The document's two tiles of a number and bytes. Conditions: the bytes of a page lie in memory; the number may be. The document's two tiles of a page. Conditions: the page lies in memory and may be. The document's cell of a place. Conditions: there is such a place. A page made of numbers. Conditions: they lie in memory. The document's SamePage: two pages with the same cells are the same, blank ones too. Conditions: they lie in memory. A torn page, laid anew: plain; what its contracts show. Conditions: all lies in memory. A page whose halves do not go together, laid anew: the law's walk. Conditions: two slices of bytes that lie in memory, two numbers. Rows of bytes that came in, empty or not. Conditions: it can be read as data. PoolTorn: for every input the law returns true and its arguments read as before. No conditions beyond the row's. -/
import Derived.Test.YtlcfoeikamkpmaaGreatPr28
import Derived.Deep.RegionHeld
import Derived.BigQuiet
import Derived.Deep.Slices
import Derived.Deep.Fields
import Derived.ChangeSame
namespace Go.Proofs.YtlcfoeikamkpmaaGreat

theorem dsorted_unique : ∀ {l m : List Drt}, l.Perm m → DSorted l → DSorted m → DDistinct l → l = m
 | [], m, hp, _, _, _ => by simpa using hp.symm.eq_nil.symm
 | a :: l, [], hp, _, _, _ => by simpa using hp.eq_nil
 | a :: l, b :: m, hp, hl, hm, hd => by
  have hdm : DDistinct (b :: m) := hd.perm hp
  have hab : a = b := by
   have ha : a ∈ b :: m := hp.mem_iff.1 (by simp)
   have hb : b ∈ a :: l := hp.mem_iff.2 (by simp)
   rcases List.mem_cons.1 ha with e | ha
   · exact e
   · rcases List.mem_cons.1 hb with e | hb
     · exact e.symm
     · have h1 := (List.pairwise_cons.1 hl).1 b hb
       have h2 := (List.pairwise_cons.1 hm).1 a ha
       unfold dl at h1 h2
       simp only [decide_eq_false_iff_not] at h1 h2
       exact absurd (by omega) ((List.pairwise_cons.1 hd).1 b hb)
  subst hab
  rw [dsorted_unique ((List.perm_cons a).1 hp) (List.pairwise_cons.1 hl).2 (List.pairwise_cons.1 hm).2 (List.pairwise_cons.1 hd).2]
section
variable {V : Type}
theorem keys_iff {h : Hd V} (hn : h.nice) {k : Int} : k ∈ h.keys ↔ (h.look k).isSome = true := by
 unfold Hd.keys
 rw [List.mem_map]
 constructor
 · rintro ⟨x, hx, rfl⟩
   obtain ⟨h1, h2⟩ := List.mem_filter.1 hx
   obtain ⟨i, hi⟩ := List.getElem?_of_mem h1
   rw [(look_iff hn).2 ⟨i, x, hi, h2, rfl, rfl⟩]
   rfl
 · intro e
   cases hl : h.look k with
   | none => rw [hl] at e; cases e
   | some v =>
    obtain ⟨i, x, hx, h1, h2, -⟩ := (look_iff hn).1 hl
    exact ⟨x, List.mem_filter.2 ⟨List.mem_of_getElem? hx, h1⟩, h2⟩
theorem keys_nodup {h : Hd V} (hn : h.nice) : h.keys.Pairwise (· ≠ ·) := by
 unfold Hd.keys
 rw [List.pairwise_map, List.pairwise_filter, List.pairwise_iff_getElem]
 intro i j hi hj hij h1 h2 e
 have := hn.uni i j _ _ (List.getElem?_eq_getElem hi) (List.getElem?_eq_getElem hj) h1 h2 e
 omega
theorem dirtyK_some {H : Hd PFr} {k : Int} {x : Drt} : dirtyK H k = some x ↔ x.p = k ∧ ∃ f, H.look k = some f ∧ f.dirty = true ∧ x.r = f.rec_ := by
 unfold dirtyK
 cases h : H.look k with
 | none => simp
 | some f =>
  dsimp only
  split
  · rename_i hd
    constructor
    · intro e
      cases e
      exact ⟨rfl, f, rfl, hd, rfl⟩
    · rintro ⟨h1, g, h2, h3, h4⟩
      cases h2
      obtain ⟨xp, xr⟩ := x
      dsimp only at h1 h4
      rw [h1, h4]
  · rename_i hd
    constructor
    · intro e; cases e
    · rintro ⟨h1, g, h2, h3, h4⟩
      cases h2
      exact absurd h3 hd
theorem dirty_mem {H : Hd PFr} (hn : H.nice) {x : Drt} : x ∈ dirtyD H ↔ ∃ f, H.look x.p = some f ∧ f.dirty = true ∧ x.r = f.rec_ := by
 unfold dirtyD
 rw [List.mem_filterMap]
 constructor
 · rintro ⟨k, hk, e⟩
   obtain ⟨h1, h2⟩ := dirtyK_some.1 e
   rw [h1]
   exact h2
 · rintro ⟨f, h1, h2, h3⟩
   exact ⟨x.p, (keys_iff hn).2 (by rw [h1]; rfl), dirtyK_some.2 ⟨rfl, f, h1, h2, h3⟩⟩
theorem dirty_dist {H : Hd PFr} (hn : H.nice) : DDistinct (dirtyD H) := by
 unfold DDistinct dirtyD
 rw [List.pairwise_filterMap]
 refine (keys_nodup hn).imp ?_
 intro a b hab x hx y hy e
 exact hab (by rw [← (dirtyK_some.1 hx).1, ← (dirtyK_some.1 hy).1, e])
theorem dirty_is {H : Hd PFr} (hn : H.nice) {M E : List Drt} (hM : M.Perm (dirtyD H)) (hS : DSorted M) (hE : E.Pairwise fun a b => a.p < b.p) (hm : ∀ x, x ∈ E ↔ ∃ f, H.look x.p = some f ∧ f.dirty = true ∧ x.r = f.rec_) : M = E := by
 have hd : DDistinct M := (dirty_dist hn).perm hM.symm
 have hsE : DSorted E := hE.imp fun {a b} h => by
  unfold dl
  simp only [decide_eq_false_iff_not]
  omega
 have hdE : E.Pairwise (· ≠ ·) := hE.imp fun {a b} h e => by
  rw [e] at h
  omega
 have hdM : M.Pairwise (· ≠ ·) := hd.imp fun {a b} h e => h (by rw [e])
 refine dsorted_unique ?_ hS hsE hd
 refine (List.perm_ext_iff_of_nodup hdM hdE).2 fun x => ?_
 rw [hM.mem_iff, dirty_mem hn, hm]
end
end Go.Proofs.YtlcfoeikamkpmaaGreat

namespace Go.Proofs.YtlcfoeikamkpmaaGreat
open Go.RowKit Go.Wh Go.Maps

set_option maxHeartbeats 1000000 in
theorem rsaid4 (w : World) (Q : Nat → Prop) (v : Value) (l : List Int) (h : Sl w Q 1 v 4 (bc l)) (hb : Byt l) :
 Calls Tryz.prog 92 #[v] w (SamePost w (.int .i64 (decB l))) := by
 have hl : l.length = 4 := by have := h.1; rw [bc_length] at this; omega
 obtain ⟨va, vc, rfl⟩ := h.form
 have HB := Lib.hid (And.intro h (And.intro hb hl))
 clear h hb hl
 go_enter Tryz.func92, Tryz.ntmps92
 go_wp2_with fail
 go_loopw [3, 4] (fun s3 s4 wr => ∃ k : Nat, s4 = .int .i64 k ∧ k ≤ 4 ∧ wr = w ∧ s3 = .int .i64 (decB (l.take k))) (fun _ s4 _ => 4 - (intOf s4).toNat)
 case atStart => exact ⟨0, rfl, Nat.zero_le _, rfl, rfl⟩
 case round =>
  obtain ⟨k, rfl, hk, rfl, rfl⟩ := hrel
  by_cases hi : k < 4
  · obtain ⟨z, hz⟩ : ∃ z, l[k]? = some z := ⟨_, List.getElem?_eq_getElem (by have := HB.out.2.2; omega)⟩
    obtain ⟨g, o, c, hg, -, -, hcs⟩ := HB.out.1.pos (by omega)
    cases hg
    have c0 : wr.cell? ⟨g, o + k, none⟩ = some (.int .u8 z) := hcs k _ (bc_get hz)
    have b1 : decide ((k : Int) < 4) = true := decide_eq_true (by omega)
    have b2 : decide (k < 4) = true := decide_eq_true hi
    have b3 : (0 : Int) ≤ (k : Int) := by omega
    have b4 : (k : Int) < 4 := by omega
    have u9 : IntKind.i64.wrap ((k : Int) + 1) = (k : Int) + 1 := IntWalk.i64_in _ (by omega)
    have hzb := HB.out.2.1 z (List.mem_of_getElem? hz)
    obtain ⟨z0, z1⟩ := hzb
    have hdr := numT_range (HB.out.2.1.take k)
    rw [numT_dec, List.take_take, show min 4 k = k by omega] at hdr
    obtain ⟨h0, h1⟩ := hdr
    have HSN := Lib.hid (show decB (l.take (k + 1)) = decB (l.take k) * 256 + z from by rw [List.take_add_one, hz, Option.toList_some, decB_snoc])
    generalize decB (l.take k) = v at *
    have u1 : IntKind.i64.wrap (v * 256) = v * 256 := IntWalk.i64_in _ (by omega)
    have u2 : IntKind.i64.wrap (v * 256 + z) = v * 256 + z := IntWalk.i64_in _ (by omega)
    have u3 : IntKind.i64.wrap z = z := IntWalk.i64_in _ (by omega)
    clear hcs hz
    go_wp2_with fail
    go_roundw
    case rel => exact ⟨k + 1, by go_num, by omega, trivial, by rw [HSN.out]⟩
    case measure => simp [intOf]; omega
  · have hke : k = 4 := by omega
    have HE := Lib.hid hke
    have b1 : decide ((k : Int) < 4) = false := decide_eq_false (by omega)
    have b2 : decide (k < 4) = false := decide_eq_false hi
    have F := Lib.hid (show SamePost wr (.int .i64 (decB l)) (.returned (.int .i64 (decB (l.take k)))) wr from ⟨by rw [List.take_of_length_le (by have := HB.out.2.2; have := HE.out; omega)], rfl⟩)
    generalize decB (l.take k) = v at *
    clear hke
    go_wp2_with fail
    go_ret
    exact F.out
def TxPost (w : World) (t : List Int) (e : Ending) (w' : World) : Prop := e = .returned (.tuple #[.string (strOfNums t), .bool true]) ∧ Still w w'
theorem padT_get {t r : List Int} {n i : Nat} (h1 : t.length < i) (h2 : i ≤ n) : (padT t n ++ r)[i]? = some 0 := by
 unfold padT
 obtain ⟨j, rfl⟩ : ∃ j, i = j + 1 := ⟨i - 1, by omega⟩
 rw [List.cons_append, List.getElem?_cons_succ, List.append_assoc, List.getElem?_append_right (by omega), List.getElem?_append_left (by rw [List.length_replicate]; omega), List.getElem?_replicate, if_pos (by omega)]
theorem padT_part {t r : List Int} {n : Nat} : ((padT t n ++ r).drop 1).take t.length = t := by
 unfold padT
 rw [List.cons_append, List.drop_succ_cons, List.drop_zero, List.append_assoc, List.take_left' rfl]
set_option maxHeartbeats 2000000 in
set_option maxRecDepth 100000 in
theorem rtext_ok (w : World) (Q : Nat → Prop) (v : Value) (m : Nat) (t r : List Int) (n : Nat) (h : Sl w Q 1 v m (bc (padT t n ++ r))) (hc : Cap m v) (ht : t.length ≤ n) (hn : n ≤ 8) :
 Calls Tryz.prog 93 #[v, .int .i64 n] w (TxPost w t) := by
 have hm : 1 + n ≤ m := by
  have := h.1
  rw [bc_length, List.length_append] at this
  unfold padT at this
  rw [List.length_cons, List.length_append, List.length_replicate] at this
  omega
 obtain ⟨k, hk⟩ : ∃ k, t.length = k := ⟨_, rfl⟩
 obtain ⟨pv, r0, -, -, -, hp⟩ := h.part (P := Tryz.prog) (size := 1) 22 Tryz.underlying22 (fun w => rfl) hc (show 1 ≤ 1 + k by omega) (show 1 + k ≤ m by omega)
 have hp' := hp w Q h
 have e1 : ((bc (padT t n ++ r)).drop (1 * 1)).take ((1 + k - 1) * 1) = bc t := by
  unfold bc
  rw [← List.map_drop, ← List.map_take, show (1 + k - 1) * 1 = t.length by omega, Nat.mul_one, padT_part]
 rw [e1, show 1 + k - 1 = k by omega] at hp'
 have hcv := conv_sl hp'
 obtain ⟨a, c, rfl⟩ := h.form
 have r0 : ∀ w, (Instr.slice 22 (.slice a m c) (some (.int .i64 1)) (some (.int .i64 (1 + (k : Int)))) none).run Tryz.prog w = .ok pv w := by
  intro w
  have := r0 w
  rw [show ((1 + k : Nat) : Int) = 1 + (k : Int) by omega] at this
  exact this
 obtain ⟨g, o, c', e, -, -, hcs⟩ := h.pos (by omega)
 cases e
 obtain ⟨pa, pc, rfl⟩ := hp'.form
 have c0 : w.cell? ⟨g, o, none⟩ = some (.int .u8 k) := by
  have := hcs 0 (.int .u8 k) (bc_get (by unfold padT; rw [List.cons_append, List.getElem?_cons_zero, hk]))
  exact this
 have HC := Lib.hid (fun i (h1 : k < i) (h2 : i ≤ n) => show w.cell? ⟨g, o + i, none⟩ = some (.int .u8 0) from hcs i _ (bc_get (padT_get (by omega) h2)))
 have HN := Lib.hid (And.intro (show k ≤ n by omega) (And.intro hn hm))
 have m0 : (0 : Int) < (m : Int) := by omega
 have d1 : decide ((n : Int) < (k : Int)) = false := decide_eq_false (by omega)
 have d2 : decide (n < k) = false := decide_eq_false (by omega)
 have uk : IntKind.i64.wrap (k : Int) = (k : Int) := IntWalk.i64_in _ (by omega)
 have uk1 : IntKind.i64.wrap (1 + (k : Int)) = 1 + (k : Int) := IntWalk.i64_in _ (by omega)
 have F := Lib.hid (fun w' (hs : Still w w') => show TxPost w t (.returned (.tuple #[.string (strOfNums t), .bool true])) w' from ⟨rfl, hs⟩)
 generalize strOfNums t = ZS at *
 clear h hc ht hn hm hk hp hp' e1 hcs
 go_enter Tryz.func93, Tryz.ntmps93
 go_wp2_with fail
 go_loopw [7] (fun s7 wr => ∃ i : Nat, s7 = .int .i64 i ∧ k < i ∧ i ≤ n + 1 ∧ w = wr) (fun s7 _ => n + 1 - (intOf s7).toNat)
 case atStart => exact ⟨1 + k, by go_num, by omega, by have := HN.out; omega, rfl⟩
 obtain ⟨i, rfl, hki, hi, rfl⟩ := hrel
 by_cases hin : i ≤ n
 · have q1 : decide ((i : Int) ≤ (n : Int)) = true := decide_eq_true (by omega)
   have q2 : decide (i ≤ n) = true := decide_eq_true hin
   have ci := HC.out i hki hin
   have i0 : (0 : Int) ≤ (i : Int) := by omega
   have i1 : (i : Int) < (m : Int) := by have := HN.out; omega
   have ui : IntKind.i64.wrap ((i : Int) + 1) = (i : Int) + 1 := IntWalk.i64_in _ (by have := HN.out; omega)
   have HI := Lib.hid (And.intro hki hin)
   clear hki hi hin
   go_wp2_with fail
   go_roundw
   case rel => exact ⟨i + 1, by go_num, by have := HI.out; omega, by have := HI.out; omega, trivial⟩
   case measure => simp [intOf]; have := HI.out; omega
 · have q1 : decide ((i : Int) ≤ (n : Int)) = false := decide_eq_false (by omega)
   have q2 : decide (i ≤ n) = false := decide_eq_false hin
   clear hki hi hin
   go_wp2_with fail
   go_ret2
   exact F.out _ (Still.refl _)
end Go.Proofs.YtlcfoeikamkpmaaGreat

namespace Go.Proofs.YtlcfoeikamkpmaaGreat
open Go.RowKit Go.Wh Go.Maps

theorem numB_nextq {n k : Nat} (v : Int) (hk : k < n) : ((List.replicate (k + 1) (0 : Int) ++ numB (n - (k + 1)) v).set k (v / 256 ^ (n - (k + 1)) % 256)) = List.replicate k 0 ++ numB (n - k) v := by
 have e : n - k = n - (k + 1) + 1 := by omega
 rw [e, List.replicate_succ', List.append_assoc, List.set_append_right _ _ (by rw [List.length_replicate]; omega), List.length_replicate, Nat.sub_self]
 rfl
theorem bc_setq (l : List Int) (i : Nat) (z : Int) : (bc l).set i (.int .u8 z) = bc (l.set i z) := by
 unfold bc
 rw [List.map_set]
theorem numB_be4 (z : Int) : numB 4 z = be4 z := by
 have e : numB 4 z = [z / 256 ^ 3 % 256, z / 256 ^ 2 % 256, z / 256 ^ 1 % 256, z / 256 ^ 0 % 256] := rfl
 rw [e]
 unfold be4
 have h3 : (256 : Int) ^ 3 = 16777216 := rfl
 have h2 : (256 : Int) ^ 2 = 65536 := rfl
 have h1 : (256 : Int) ^ 1 = 256 := rfl
 have h0 : (256 : Int) ^ 0 = 1 := rfl
 rw [h3, h2, h1, h0, Int.ediv_one]
theorem cellsAt.vecq {w : World} {r n : Nat} {l : List Value} (h : cellsAt w r l) (hl : l.length = n) (hn : n ≤ maxLen) : Vec w 1 (.slice (some ⟨r, 0, none⟩) n n) n l := by
 obtain ⟨t, h⟩ := h
 have := vec_block (size := 1) (n := n) h (by simp; omega) hn
 simpa using this
def OwnRow (w : World) (l : List Int) (e : Ending) (w' : World) : Prop := ∃ b, e = .returned (.slice (some ⟨b, 0, none⟩) l.length l.length) ∧ cellsAt w' b (bc l) ∧ Still w w' ∧ w.heap.size ≤ b
set_option maxHeartbeats 1000000 in
set_option maxRecDepth 10000 in
theorem rnum4 (w : World) (v : Int) (hv : 0 ≤ v) (hv2 : v ≤ 2147483647) : Calls Tryz.prog 70 #[.int .i64 v, .int .i64 4] w (OwnRow w (be4 v)) := by
 have hmk : (Instr.makeSlice 22 (.int .i64 4) (.int .i64 4)).run Tryz.prog w = .ok (.slice (some ⟨w.heap.size, 0, none⟩) 4 4) (w.alloc (.cells (bc (List.replicate 4 0)).toArray 5)) := by kernel_rfl
 have hz := cellsAt_new w (bc (List.replicate 4 0)) 5
 have hs : Still w (w.alloc (.cells (bc (List.replicate 4 0)).toArray 5)) := (Still.refl w).alloc _
 have HB := Lib.hid (And.intro hz (And.intro hs (And.intro hv hv2)))
 obtain ⟨Z, hZ⟩ : ∃ Z, Z = (bc (List.replicate 4 0)).toArray := ⟨_, rfl⟩
 rw [← hZ] at hmk
 have HZ := Lib.hid hZ
 clear hv hv2 hz hs hZ
 go_enter Tryz.func70, Tryz.ntmps70
 go_wp2_with fail
 obtain ⟨b, hb⟩ : ∃ b, w.heap.size = b := ⟨_, rfl⟩
 have H0 := Lib.hid (show cellsAt (w.alloc (.cells Z 5)) b (bc (List.replicate 4 0)) ∧ Still w (w.alloc (.cells Z 5)) from by
  rw [HZ.out, ← hb]
  exact ⟨HB.out.1, HB.out.2.1⟩)
 have HBB := Lib.hid hb
 rw [hb]
 generalize (w.alloc (.cells Z 5)) = w1 at *
 clear hmk hb
 go_loopw [0, 6] (fun s0 s6 wr => ∃ (k : Nat), ((k = 0 ∧ s6 = .int .i64 (-1)) ∨ ∃ j : Nat, k = j + 1 ∧ s6 = .int .i64 j) ∧ k ≤ 4 ∧ s0 = .int .i64 (v / 256 ^ (4 - k)) ∧ cellsAt wr b (bc (List.replicate k 0 ++ numB (4 - k) v)) ∧ Only (fun g => g = b) w1 wr) (fun _ s6 _ => (intOf s6 + 1).toNat)
 case atStart => exact ⟨4, .inr ⟨3, rfl, rfl⟩, Nat.le_refl _, by rw [Nat.sub_self]; simp, by rw [Nat.sub_self]; have : numB 0 v = [] := rfl; rw [this, List.append_nil]; exact H0.out.1, Only.refl _ _⟩
 case round =>
  obtain ⟨k, hk6, hkn, rfl, hc, ho⟩ := hrel
  rcases hk6 with ⟨rfl, rfl⟩ | ⟨j, rfl, rfl⟩
  · have F := Lib.hid (show OwnRow w (be4 v) (.returned (.slice (some ⟨b, 0, none⟩) 4 4)) wr from by
     rw [Nat.sub_zero, List.replicate_zero, List.nil_append, numB_be4] at hc
     have hbb := HBB.out
     exact ⟨b, rfl, hc, H0.out.2.andThen ho fun i hi e => by omega, by omega⟩)
    clear hc ho hkn
    go_wp2_with fail
    go_ret
    exact F.out
  · obtain ⟨V, hV⟩ : ∃ V, v / 256 ^ (4 - (j + 1)) = V := ⟨_, rfl⟩
    have hV0 : 0 ≤ V := by rw [← hV]; exact Int.ediv_nonneg HB.out.2.2.1 (Int.le_of_lt (Int.pow_pos (by decide)))
    have hV1 : V ≤ v := by rw [← hV]; exact Int.ediv_le_self _ HB.out.2.2.1
    have hv9 := HB.out.2.2.2
    rw [hV]
    have j0 : (0 : Int) ≤ (j : Int) := by omega
    have j1 : (j : Int) < 4 := by omega
    have d1 : decide ((0 : Int) ≤ (j : Int)) = true := decide_eq_true j0
    have e1 : V % 256 % 256 = V % 256 := by omega
    have t2 : V.tdiv 256 = V / 256 := Int.tdiv_eq_ediv_of_nonneg hV0
    have e2 : IntKind.i64.wrap (V / 256) = V / 256 := IntWalk.i64_in _ (by omega)
    have e2' : wrap64 (V / 256) = V / 256 := IntWalk.wrap64_in _ (by omega)
    have hjl : j < (List.replicate (j + 1) (0 : Int) ++ numB (4 - (j + 1)) v).length := by rw [List.length_append, List.length_replicate]; omega
    obtain ⟨y, hy⟩ : ∃ y, (List.replicate (j + 1) (0 : Int) ++ numB (4 - (j + 1)) v)[j]? = some y := ⟨_, List.getElem?_eq_getElem hjl⟩
    have cj : wr.cell? ⟨b, j, none⟩ = some (.int .u8 y) := (hc.cell j).trans (bc_get hy)
    have fj : wr.frozen? ⟨b, j, none⟩ = false := hc.free j
    have HX := Lib.hid (show cellsAt (wr.setCell ⟨b, j, none⟩ (.int .u8 (V % 256))) b (bc (List.replicate j 0 ++ numB (4 - j) v)) ∧ Only (fun g => g = b) w1 (wr.setCell ⟨b, j, none⟩ (.int .u8 (V % 256))) ∧ V / 256 = v / 256 ^ (4 - j) ∧ j ≤ 4 from by
     refine ⟨?_, ho.setCell (p := ⟨b, j, none⟩) (.inl rfl) _, ?_, by omega⟩
     · have := hc.setCell j (.int .u8 (V % 256))
       rw [bc_setq, ← hV, numB_nextq v (by omega)] at this
       rw [← hV]
       exact this
     · rw [← hV, show 4 - j = 4 - (j + 1) + 1 by omega, Int.pow_succ, Int.ediv_ediv_of_nonneg (Int.le_of_lt (Int.pow_pos (by decide)))])
    have u6 : IntKind.i64.wrap ((j : Int) - 1) = (j : Int) - 1 := IntWalk.i64_in _ (by omega)
    clear hc ho hkn hjl hV hv9 hV1 hy
    go_wp2_with fail
    go_roundw
    case rel =>
     refine ⟨j, ?_, HX.out.2.2.2, by rw [← HX.out.2.2.1], HX.out.1, HX.out.2.1⟩
     rcases j with _ | j
     · exact .inl ⟨rfl, rfl⟩
     · refine .inr ⟨j, rfl, ?_⟩
       show Value.int .i64 (((j + 1 : Nat) : Int) - 1) = _
       rw [show ((j + 1 : Nat) : Int) - 1 = (j : Int) by omega]
    case measure => simp [intOf]
end Go.Proofs.YtlcfoeikamkpmaaGreat

namespace Go.Proofs.YtlcfoeikamkpmaaGreat
open Go.RowKit Go.Wh Go.Maps

def ShPost (w : World) (a b : List Int) (e : Ending) (w' : World) : Prop := ∃ u v, e = .returned (.tuple #[u, v, .int .i64 0]) ∧ Sl w' (fun g => w.heap.size ≤ g ∧ g < w'.heap.size) 1 u 64 (bc a) ∧ Sl w' (fun g => w.heap.size ≤ g ∧ g < w'.heap.size) 1 v 64 (bc b) ∧ Cap 64 u ∧ Cap 64 v ∧ Still w w'
theorem take_one {l : List Int} (h : l.length = 104) (z : Int) : be4 z ++ (l ++ List.replicate 16 0).take 60 = oneB z (l.take 60) ∧ be4 z ++ (l ++ List.replicate 16 0).drop 60 = oneB z (l.drop 60) := by
 unfold oneB
 refine ⟨?_, ?_⟩
 · rw [List.take_append_of_le_length (by omega), List.length_take, show 60 - min 60 l.length = 0 by omega, List.replicate_zero, List.append_nil]
 · rw [List.drop_append_of_le_length (by omega), List.length_drop, show 60 - (l.length - 60) = 16 by omega]
set_option maxHeartbeats 4000000 in
set_option maxRecDepth 100000 in
theorem rsheet_ok {Q : Nat → Prop} (w : World) (x : Int) (v : Value) (l : List Int) (h : Sl w Q 1 v 104 (bc l)) (x0 : 0 ≤ x) (x1 : x ≤ 2147483647) :
 Calls Tryz.prog 38 #[.int .i64 x, v] w (ShPost w (oneB x (l.take 60)) (oneB x (l.drop 60))) := by
 obtain ⟨ti, hi0, hi1, hi2, hi3⟩ := info_parts info_b
 have HI := Lib.hid (And.intro hi0 (And.intro hi1 (And.intro hi2 hi3)))
 have hln : l.length = 104 := by have := h.1; rw [bc_length] at this; omega
 have HL := Lib.hid (And.intro h hln)
 obtain ⟨va, vc, rfl⟩ := h.form
 have d1 : decide (x < 0) = false := decide_eq_false (by omega)
 have d2 : decide (2147483647 < x) = false := decide_eq_false (by omega)
 have HX := Lib.hid (And.intro x0 x1)
 have HV0 := Lib.hid (show Vec (w.alloc (.cells #[] 5)) 1 (.slice (some ⟨w.heap.size, 0, none⟩) 0 0) 0 [] from Vec.none_ _ _ _ _)
 have HSA := Lib.hid (show Still w (w.alloc (.cells #[] 5)) from (Still.refl _).alloc _)
 have HZA := Lib.hid (show (w.alloc (.cells #[] 5)).heap.size = w.heap.size + 1 by simp)
 clear h x0 x1 hln hi0 hi1 hi2 hi3
 go_enter Tryz.func38, Tryz.ntmps38
 go_upto_region 4 with (at_builtin; first
  | (refine wpList_append_vec rfl _ _ 22 rfl 5 ti _ 1 1 Tryz.underlying22 HI.out.1 HI.out.2.1 HI.out.2.2.1 HI.out.2.2.2 rfl (by decide) (.slice (some ⟨w.heap.size, 0, none⟩) 0 0) 0 [] rfl HV0.out (.slice va 104 vc) 104 (bc l) rfl (HL.out.1.still HSA.out).reads (bc_one _) (by decide) (by decide) ?_; intro y w1 hy ho1 hb1; obtain ⟨s1, f1⟩ := append_fresh HSA.out (fun g hg => by have e : w.heap.size = g := Option.some.inj hg; have := HZA.out; omega) ho1 hb1; obtain ⟨ya, yc, rfl⟩ := hy.form'; have H1 := Lib.hid (And.intro hy (And.intro s1 f1)); clear hy ho1 hb1 s1 f1)
  | (refine wpList_append_vec_zeros rfl _ _ 22 3 rfl 5 ti .i64 .i64 Tryz.underlying22 Tryz.underlying3 HI.out.1 HI.out.2.1 HI.out.2.2.1 HI.out.2.2.2 (.slice ya (0 + 104) yc) (0 + 104) ([] ++ bc l) rfl H1.out.1 (by decide) 16 rfl (by decide) (by decide) ?_; intro z w2 hz ho2 hb2; obtain ⟨s2, f2⟩ := append_fresh H1.out.2.1 H1.out.2.2 ho2 hb2; obtain ⟨za, zc, rfl⟩ := hz.form'; have H2 := Lib.hid (And.intro hz (And.intro s2 f2)); clear hz ho2 hb2 s2 f2))
 have hz2 : Vec w2 1 (.slice za 120 zc) 120 (bc (l ++ List.replicate 16 0)) := by
  have e : bc (l ++ List.replicate 16 0) = [] ++ bc l ++ List.replicate 16 (.int .u8 0) := by
   rw [bc_append, List.nil_append]
   rfl
  rw [e]
  exact H2.out.1
 have hsl := Vec.sl (Q := fun g => w.heap.size ≤ g ∧ g < w2.heap.size) hz2 fun g hg => ⟨H2.out.2.2 g hg, (H2.out.2.2 g hg).2⟩
 have hcap : Cap 120 (.slice za 120 zc) := Vec.capOf hz2
 obtain ⟨pv, -, r1, -, -, hp⟩ := hsl.part (P := Tryz.prog) (size := 1) 22 Tryz.underlying22 (fun w => rfl) hcap (show 0 ≤ 60 by decide) (show 60 ≤ 120 by decide)
 obtain ⟨qv, -, -, r2, -, hq⟩ := hsl.part (P := Tryz.prog) (size := 1) 22 Tryz.underlying22 (fun w => rfl) hcap (show 60 ≤ 120 by decide) (Nat.le_refl 120)
 have hp' := hp w2 _ hsl
 have hq' := hq w2 _ hsl
 have hll : (l ++ List.replicate 16 0).length = 120 := by rw [List.length_append, List.length_replicate, HL.out.2]
 have e1 : ((bc (l ++ List.replicate 16 0)).drop (0 * 1)).take ((60 - 0) * 1) = bc ((l ++ List.replicate 16 0).take 60) := by unfold bc; rw [Nat.zero_mul, List.drop_zero, List.map_take]
 have e2 : ((bc (l ++ List.replicate 16 0)).drop (60 * 1)).take ((120 - 60) * 1) = bc ((l ++ List.replicate 16 0).drop 60) := by
  unfold bc
  rw [← List.map_drop, List.take_of_length_le (by rw [List.length_map, List.length_drop, hll]; decide)]
 rw [e1] at hp'
 rw [e2] at hq'
 have r1 : ∀ w, (Instr.slice 22 (.slice za 120 zc) none (some (.int .i64 60)) none).run Tryz.prog w = .ok pv w := r1 rfl
 have r2 : ∀ w, (Instr.slice 22 (.slice za 120 zc) (some (.int .i64 60)) none none).run Tryz.prog w = .ok qv w := r2 rfl
 obtain ⟨pa, pc, rfl⟩ := hp'.form
 obtain ⟨qa, qc, rfl⟩ := hq'.form
 have HP := Lib.hid (show Sl w2 (fun g => w.heap.size ≤ g ∧ g < w2.heap.size) 1 (.slice pa 60 pc) 60 (bc ((l ++ List.replicate 16 0).take 60)) ∧ Sl w2 (fun g => w.heap.size ≤ g ∧ g < w2.heap.size) 1 (.slice qa 60 qc) 60 (bc ((l ++ List.replicate 16 0).drop 60)) from ⟨hp', hq'⟩)
 have HW := Lib.hid H2.out.2.1
 have HNM := Lib.hid (fun w' => rnum4 w' x HX.out.1 HX.out.2)
 clear hz2 hsl hcap hp hq hp' hq' e1 e2 hll H1 H2 HV0 HSA HZA d1 d2
 refine wp_region_D_drew (D := (fun i => false)) (S := (fun _ => True)) (by kernel_rfl) trivial (fun hHeld => ?_)
 have hsw : Still w2 w2.drew := still_drew w2
 generalize w2.drew = w3 at *
 have H3 := Lib.hid hsw
 clear hsw
 (refine takeS (i := 0) (some 26) (v := ?_) rfl (by rfl) (by rfl) (by kernel_rfl) (by rfl) (fun _ _ _ h => h) hHeld ?_ ?_; rotate_left; (intro w hSw; go_simp; try with_reducible rfl); try go_frame)
 (refine takeS (i := 2) (some 28) (v := ?_) rfl (by rfl) (by rfl) (by kernel_rfl) (by rfl) (fun _ _ _ h => h) hHeld ?_ ?_; rotate_left; (intro w hSw; go_simp; try with_reducible rfl); try go_frame)
 (refine takeS (i := 3) (some 29) (v := ?_) rfl (by rfl) (by rfl) (by kernel_rfl) (by rfl) (fun _ _ _ h => h) hHeld ?_ ?_; rotate_left; (intro w hSw; go_simp; try with_reducible rfl); try go_frame)
 (refine takeS (i := 5) (some 31) (v := ?_) rfl (by rfl) (by rfl) (by kernel_rfl) (by rfl) (fun _ _ _ h => h) hHeld ?_ ?_; rotate_left; (intro w hSw; go_simp; try with_reducible rfl); try go_frame)
 (refine takeS (i := 7) (some 33) (v := ?_) rfl (by rfl) (by rfl) (by kernel_rfl) (by rfl) (fun _ _ _ h => h) hHeld ?_ ?_; rotate_left; (intro w hSw; go_simp; try with_reducible rfl); try go_frame)
 (refine takeS (i := 8) (some 34) (v := ?_) rfl (by rfl) (by rfl) (by kernel_rfl) (by rfl) (fun _ _ _ h => h) hHeld ?_ ?_; rotate_left; (intro w hSw; go_simp; try with_reducible rfl); try go_frame)
 refine wpAnyD_ready (rs := [1]) (by kernel_rfl) (by simp) ?_
 refine ReadyD.cons rfl (fun K hK => ?_) ?_
 go_simp
 (go_at_call 70; (with_reducible refine (HNM.out w3).mono ?_))
 rintro e w4 ⟨b4, rfl, hc4, hs4, hz4⟩
 have HB4 := Lib.hid (show Vec w4 1 (.slice (some ⟨b4, 0, none⟩) 4 4) 4 (bc (be4 x)) from cellsAt.vecq hc4 rfl (by decide))
 have HN4 := Lib.hid (And.intro hs4 (And.intro hz4 hc4.lt))
 clear hc4 hs4 hz4
 go_wp2_with fail
 refine hK.out _ _ trivial (fun _ => ?_)
 (clear hK K; try go_frame)
 refine wpAnyD_ready (rs := [4]) (by kernel_rfl) (by simp) ?_
 refine ReadyD.cons rfl (fun K hK => ?_) ?_
 refine step_append_vec rfl _ _ 22 rfl 5 ti _ 1 1 Tryz.underlying22 HI.out.1 HI.out.2.1 HI.out.2.2.1 HI.out.2.2.2 rfl (by decide) (.slice (some ⟨b4, 0, none⟩) 4 4) 4 (bc (be4 x)) rfl HB4.out (.slice pa 60 pc) 60 (bc ((l ++ List.replicate 16 0).take 60)) rfl (((HP.out.1.still H3.out).still HN4.out.1)).reads (bc_one _) (by decide) (by decide) ?_
 intro y5 w5 hy5 ho5 hb5
 obtain ⟨s5, f5⟩ := append_fresh HN4.out.1 (fun g hg => by have e : b4 = g := Option.some.inj hg; have := HN4.out.2; omega) ho5 hb5
 obtain ⟨ya5, yc5, rfl⟩ := hy5.form'
 have HY5 := Lib.hid (And.intro hy5 (And.intro s5 f5))
 clear hy5 ho5 hb5 s5 f5
 refine hK.out _ _ trivial (fun _ => ?_)
 (clear hK K; try go_frame)
 refine wpAnyD_ready (rs := [6]) (by kernel_rfl) (by simp) ?_
 refine ReadyD.cons rfl (fun K hK => ?_) ?_
 go_simp
 (go_at_call 70; (with_reducible refine (HNM.out w5).mono ?_))
 rintro e w6 ⟨b6, rfl, hc6, hs6, hz6⟩
 have HB6 := Lib.hid (show Vec w6 1 (.slice (some ⟨b6, 0, none⟩) 4 4) 4 (bc (be4 x)) from cellsAt.vecq hc6 rfl (by decide))
 have HN6 := Lib.hid (And.intro hs6 (And.intro hz6 hc6.lt))
 clear hc6 hs6 hz6
 go_wp2_with fail
 refine hK.out _ _ trivial (fun _ => ?_)
 (clear hK K; try go_frame)
 refine wpAnyD_ready (rs := [9]) (by kernel_rfl) (by simp) ?_
 refine ReadyD.cons rfl (fun K hK => ?_) ?_
 refine step_append_vec rfl _ _ 22 rfl 5 ti _ 1 1 Tryz.underlying22 HI.out.1 HI.out.2.1 HI.out.2.2.1 HI.out.2.2.2 rfl (by decide) (.slice (some ⟨b6, 0, none⟩) 4 4) 4 (bc (be4 x)) rfl HB6.out (.slice qa 60 qc) 60 (bc ((l ++ List.replicate 16 0).drop 60)) rfl ((((HP.out.2.still H3.out).still HY5.out.2.1).still HN6.out.1)).reads (bc_one _) (by decide) (by decide) ?_
 intro y7 w7 hy7 ho7 hb7
 obtain ⟨s7, f7⟩ := append_fresh HN6.out.1 (fun g hg => by have e : b6 = g := Option.some.inj hg; have := HN6.out.2; omega) ho7 hb7
 obtain ⟨ya7, yc7, rfl⟩ := hy7.form'
 have HY7 := Lib.hid (And.intro hy7 (And.intro s7 f7))
 clear hy7 ho7 hb7 s7 f7
 refine hK.out _ _ trivial (fun _ => ?_)
 (clear hK K; try go_frame)
 refine wpAnyD_ready (rs := [10]) (by kernel_rfl) (by simp) ?_
 refine ReadyD.cons rfl (fun K hK => ?_) ?_
 go_simp
 refine hK.out _ _ trivial (fun _ => ?_)
 (clear hK K; try go_frame)
 refine wpAnyD_ready (rs := [11]) (by kernel_rfl) (by simp) ?_
 refine ReadyD.cons rfl (fun K hK => ?_) ?_
 go_simp
 refine hK.out _ _ trivial (fun _ => ?_)
 (clear hK K; try go_frame)
 refine wpAnyD_ready (rs := [12]) (by kernel_rfl) (by simp) ?_
 refine ReadyD.cons rfl (fun K hK => ?_) ?_
 go_simp
 refine hK.out _ _ trivial (fun _ => ?_)
 (clear hK K; try go_frame)
 refine wpAnyD_done (by kernel_rfl) ?_ _
 have F := Lib.hid (show ShPost w (oneB x (l.take 60)) (oneB x (l.drop 60)) (.returned (.tuple #[.slice ya5 64 yc5, .slice ya7 64 yc7, .int .i64 0])) w7 from by
  obtain ⟨t1, t2⟩ := take_one HL.out.2 x
  have hw := HW.out.size
  have h3 := H3.out.size
  have h5 := HY5.out.2.1.size
  have s57 : Still w5 w7 := HY7.out.2.1
  refine ⟨_, _, rfl, ?_, ?_, Vec.capOf HY5.out.1, Vec.capOf HY7.out.1, ((HW.out.trans H3.out).trans HY5.out.2.1).trans s57⟩
  · have := (Vec.sl (Q := fun g => w.heap.size ≤ g ∧ g < w7.heap.size) HY5.out.1 fun g hg => ⟨by have := HY5.out.2.2 g hg; have := s57.size; omega, (HY5.out.2.2 g hg).2⟩).still s57
    rw [← bc_append, t1] at this
    exact this
  · have := Vec.sl (Q := fun g => w.heap.size ≤ g ∧ g < w7.heap.size) HY7.out.1 fun g hg => ⟨by have := HY7.out.2.2 g hg; omega, (HY7.out.2.2 g hg).2⟩
    rw [← bc_append, t2] at this
    exact this)
 go_wp2_with fail
 go_ret3
 exact F.out
 all_goals exact ReadyD.nil
end Go.Proofs.YtlcfoeikamkpmaaGreat

namespace Go.Proofs.YtlcfoeikamkpmaaGreat
open Go.RowKit Go.Wh Go.Maps

section
variable {P : Program} {w : World}
theorem run_append_none_zeros (t tn ty e : TypeId) (i : TypeInfo) (kq kn : IntKind) (h1 : P.underlying t = some (.slice e)) (htn : P.underlying tn = some (.int kn)) (h2 : P.info? e = some i) (h3 : i.zero = some (.int .u8 0)) (h4 : i.size = 1) (h5 : i.bytes = 1)
 (k : Nat) (hk : 0 < k) (b1 : k ≤ 100000) :
 ∃ v' w', (Builtin.append_ #[t, tn] ty #[.slice none 0 0, .int kq k]).run P w = .ok v' w' ∧ Vec w' 1 v' k (List.replicate k (.int .u8 0)) ∧ Still w w' ∧ ∃ g, v'.ownBlock = some g ∧ w.heap.size ≤ g ∧ g < w'.heap.size := by
 have hold : (Builtin.firstCells i.size 0 (.slice none 0 0)).run P w.drew = .ok ([] : List Value).toArray w.drew := by simp [Builtin.firstCells]
 have hrun := Lib.run_append_grow_zeros (P := P) w t tn ty e i (.int .u8 0) kq kn h1 htn h2 h3 none 0 0 [] hold k hk (by omega) (by omega) (by omega) (by rw [h5]; omega) (by rw [h5]; exact growslice_fits (by omega) (by omega))
 have hge := grownCap_ge w (0 + k) 0 e
 have hg := grown_vec w (0 + k) 0 e ([] ++ List.replicate k (.int .u8 0)) (by simp only [maxLen]; omega) (by rw [List.length_append, List.length_replicate]; rfl) (cells := (([] : List Value).toArray ++ Builtin.zeroCells (Value.int .u8 0).cells k ++ Builtin.zeroCells (Value.int .u8 0).cells (grownCap w (0 + k) 0 e - (0 + k))))
  (by rw [Array.size_append, Array.size_append, ← Array.length_toList (xs := Builtin.zeroCells _ (grownCap w (0 + k) 0 e - (0 + k))), zeroCells_list, ← Array.length_toList (xs := Builtin.zeroCells _ k), zeroCells_list, List.length_replicate, List.length_replicate, List.size_toArray, List.length_nil]; omega)
  (by rw [Array.toList_append, Array.toList_append, zeroCells_list, List.take_append_of_le_length (by rw [List.length_append]; simp), List.take_of_length_le (by rw [List.length_append]; simp)])
 have hv := hg.1
 rw [Nat.zero_add, List.nil_append] at hv
 exact ⟨_, _, hrun, by rw [Nat.zero_add]; exact hv, hg.2 _, w.heap.size, rfl, Nat.le_refl _, by simp⟩
theorem run_append_any_zeros (t tn ty e : TypeId) (i : TypeInfo) (kq kn : IntKind) (h1 : P.underlying t = some (.slice e)) (htn : P.underlying tn = some (.int kn)) (h2 : P.info? e = some i) (h3 : i.zero = some (.int .u8 0)) (h4 : i.size = 1) (h5 : i.bytes = 1)
 {v : Value} {n : Nat} {xs : List Value} (h : Vec w 1 v n xs) (k : Nat) (hk : 0 < k) (b1 : n + k ≤ 100000) :
 ∃ v' w', (Builtin.append_ #[t, tn] ty #[v, .int kq k]).run P w = .ok v' w' ∧ Vec w' 1 v' (n + k) (xs ++ List.replicate k (.int .u8 0)) ∧ Only (fun k => v.ownBlock = some k) w w' ∧ (v'.ownBlock = v.ownBlock ∨ ∃ g, v'.ownBlock = some g ∧ w.heap.size ≤ g ∧ g < w'.heap.size) := by
 rcases h with ⟨rfl, rfl, rfl⟩ | ⟨g, o, c, rfl, h⟩
 · obtain ⟨v', w', r1, r2, r3, r4⟩ := run_append_none_zeros (P := P) (w := w) t tn ty e i kq kn h1 htn h2 h3 h4 h5 k hk (by omega)
   exact ⟨v', w', r1, by rw [Nat.zero_add, List.nil_append]; exact r2, r3.mono fun _ e => e.elim, .inr r4⟩
 · obtain ⟨v', w', r1, r2, r3, r4⟩ := run_append_at_zeros (P := P) (w := w) t tn ty e i kq kn h1 htn h2 h3 h4 h5 h k b1
   exact ⟨v', w', r1, r2, r3.mono fun b e => by rw [show b = g from e]; rfl, r4.imp (fun e => e) id⟩
end
theorem flat_next {c : List (List Int)} {i : Nat} {l : List Int} (h : c[i]? = some l) : (c.take (i + 1)).flatMap fullB = (c.take i).flatMap fullB ++ fullB l := by
 rw [List.take_add_one, h, Option.toList_some, List.flatMap_append, List.flatMap_singleton]
set_option maxHeartbeats 4000000 in
set_option maxRecDepth 100000 in
theorem rleaf_ok {Q : Nat → Prop} (w : World) (v0 v1 v2 v3 : Value) (p : PPg) {z : Int} (hz : p.lsn = z) (h : PgIs w Q [v0, v1, v2, v3] p.c) (hok : p.ok) (hl : lsnMay z = true) :
 Calls Tryz.prog 12 #[.agg #[v0, v1, v2, v3, .int .i64 z]] w (ShPost w (leafA p) (leafB p)) := by
 obtain ⟨ti, hi0, hi1, hi2, hi3⟩ := info_parts info_b
 have HI := Lib.hid (And.intro hi0 (And.intro hi1 (And.intro hi2 hi3)))
 unfold lsnMay at hl
 simp only [Bool.and_eq_true, decide_eq_true_eq] at hl
 have HH := Lib.hid (And.intro h (And.intro hok (And.intro hl hz)))
 have HC1 := Lib.hid (fun tt => cellsAt_new w [v0, v1, v2, v3, .int .i64 z] tt)
 clear h hok hl hi0 hi1 hi2 hi3
 go_enter Tryz.func12, Tryz.ntmps12
 go_upto_region 1 with fail
 have hs1 : Still w (w.alloc (.cells #[v0, v1, v2, v3, .int .i64 z] 36)) := (Still.refl w).alloc _
 have hc1 := HC1.out 36
 change cellsAt (w.alloc (.cells #[v0, v1, v2, v3, .int .i64 z] 36)) w.heap.size _ at hc1
 generalize (w.alloc (.cells #[v0, v1, v2, v3, .int .i64 z] 36)) = w1 at *
 obtain ⟨b1, hb1⟩ : ∃ b, w.heap.size = b := ⟨_, rfl⟩
 rw [hb1] at hc1
 rw [hb1]
 have H1 := Lib.hid (And.intro hs1 (And.intro hc1 hb1))
 clear hs1 hc1 hb1 HC1
 go_wp2_with fail
 go_loopw [5, 6] (fun s5 s6 wr => ∃ i : Nat, s6 = .int .i64 i ∧ i ≤ 4 ∧ Still w1 wr ∧ Vec wr 1 s5 (i * 26) (bc ((p.c.take i).flatMap fullB)) ∧ ∀ g, s5.ownBlock = some g → w1.heap.size ≤ g ∧ g < wr.heap.size) (fun _ s6 _ => 4 - (intOf s6).toNat)
 case atStart => exact ⟨0, rfl, Nat.zero_le _, Still.refl _, by rw [List.take_zero]; exact Vec.nil _ _, fun g e => by cases e⟩
 obtain ⟨i, rfl, hi4, hst, hv, hg⟩ := hrel
 have HR := Lib.hid (And.intro hst (And.intro hv hg))
 obtain ⟨ba, bcp, rfl⟩ := hv.form'
 have HP := Lib.hid (H1.out.2.1.only hst fun e => e)
 clear hst hv hg
 by_cases hi : i < 4
 rotate_left
 · have d1 : decide ((i : Int) < 4) = false := decide_eq_false (by omega)
   have d2 : decide (i < 4) = false := decide_eq_false hi
   obtain rfl : i = 4 := by omega
   have c4 : wr.cell? ⟨b1, 4, none⟩ = some (.int .i64 z) := HP.out.cell 4
   have hbody : (p.c.take 4).flatMap fullB = p.body := by
    rw [List.take_of_length_le (by have := HH.out.2.1.four; omega)]
    rfl
   have HV := Lib.hid (show Sl wr (fun g => g < wr.heap.size) 1 (.slice ba (4 * 26) bcp) 104 (bc p.body) from by
    have := Vec.sl (Q := fun g => g < wr.heap.size) HR.out.2.1 fun g hg => ⟨(HR.out.2.2 g hg).2, (HR.out.2.2 g hg).2⟩
    rw [hbody] at this
    exact this)
   have HS := Lib.hid (rsheet_ok wr z (.slice ba (4 * 26) bcp) p.body HV.out HH.out.2.2.1.1 HH.out.2.2.1.2)
   clear hi hi4 hbody
   go_wp2_with fail
   refine HS.out.mono ?_
   rintro en w2 ⟨u, v, rfl, hu, hv, cu, cv, hs⟩
   have F := Lib.hid (show ShPost w (leafA p) (leafB p) (.returned (.tuple #[u, v, .int .i64 0])) w2 from by
    have hsz := (H1.out.1.trans HR.out.1).size
    refine ⟨u, v, rfl, ?_, ?_, cu, cv, (H1.out.1.trans HR.out.1).trans hs⟩
    · unfold leafA
      rw [hz]
      exact hu.mono fun g e => by have e' : wr.heap.size ≤ g ∧ g < w2.heap.size := e; omega
    · unfold leafB
      rw [hz]
      exact hv.mono fun g e => by have e' : wr.heap.size ≤ g ∧ g < w2.heap.size := e; omega)
   clear hu hv cu cv hs HS
   go_wp2_with fail
   go_ret3
   exact F.out
 have d1 : decide ((i : Int) < 4) = true := decide_eq_true (by omega)
 have d2 : decide (i < 4) = true := decide_eq_true hi
 have i0 : (0 : Int) ≤ (i : Int) := by omega
 have i1 : (i : Int) < 4 := by omega
 have ui : IntKind.i64.wrap ((i : Int) + 1) = (i : Int) + 1 := IntWalk.i64_in _ (by omega)
 obtain ⟨u, hu⟩ : ∃ u, [v0, v1, v2, v3][i]? = some u := ⟨_, List.getElem?_eq_getElem (by simpa using hi)⟩
 obtain ⟨l, hl⟩ : ∃ l, p.c[i]? = some l := ⟨_, List.getElem?_eq_getElem (by have := HH.out.2.1.four; omega)⟩
 have hsl := HH.out.1.at_ i u l hu hl
 have hlen := HH.out.2.1.each l (List.mem_of_getElem? hl)
 have HNX := Lib.hid (flat_next hl)
 have hp : ∀ {x : Value} {p q r s t : Value}, [p, q, r, s][i]? = some x → [p, q, r, s, t][i]? = some x := fun {x p q r s t} e => by
  rcases (show i = 0 ∨ i = 1 ∨ i = 2 ∨ i = 3 from by omega) with rfl | rfl | rfl | rfl <;> exact e
 have cu : wr.cell? ⟨b1, i, none⟩ = some u := (HP.out.cell i).trans (hp hu)
 have HI4 := Lib.hid hi
 obtain ⟨N, hN⟩ : ∃ N, i * 26 = N := ⟨_, rfl⟩
 rw [hN] at HR
 have HNN := Lib.hid hN
 rw [hN]
 clear hu hl hp hi hi4 hN
 rcases hlen with rfl | h26
 · obtain ⟨ua, uc, rfl⟩ := hsl.form
   have cu0 : wr.cell? ⟨b1, i, none⟩ = some (.slice ua 0 uc) := cu
   obtain ⟨v', w', hrun, r2, r3, r4⟩ := run_append_any_zeros (P := Tryz.prog) (w := wr) 22 3 22 5 ti .i64 .i64 Tryz.underlying22 Tryz.underlying3 HI.out.1 HI.out.2.1 HI.out.2.2.1 HI.out.2.2.2 HR.out.2.1 26 (by decide) (by have := HNN.out; have := HI4.out; omega)
   have HN := Lib.hid (show Still w1 w' ∧ Vec w' 1 v' ((i + 1) * 26) (bc ((p.c.take (i + 1)).flatMap fullB)) ∧ ∀ g, v'.ownBlock = some g → w1.heap.size ≤ g ∧ g < w'.heap.size from by
    obtain ⟨s1, f1⟩ := append_fresh HR.out.1 HR.out.2.2 r3 r4
    refine ⟨s1, ?_, f1⟩
    rw [HNX.out, bc_append, Nat.add_mul, HNN.out]
    exact r2)
   have HRUN := Lib.hid hrun
   clear cu hsl hrun r2 r3 r4
   go_wp2_with (at_builtin; refine wpList_append_given rfl _ _ 22 3 rfl (.slice ba N bcp) (.int .i64 26) rfl rfl v' w' HRUN.out ?_)
   go_roundw
   case rel => exact ⟨i + 1, by go_num, by have := HI4.out; omega, HN.out⟩
   case measure => simp [intOf]; have := HI4.out; omega
 obtain ⟨ua, uc, rfl⟩ := hsl.form
 rw [h26] at cu hsl
 have HSL := Lib.hid ((hsl.still H1.out.1).still HR.out.1)
 have HF := Lib.hid (show fullB l = l from by
  unfold fullB
  rw [if_neg fun e => by rw [e] at h26; cases h26])
 have e1 : ((26 : Int) == 0) = false := rfl
 clear hsl h26
 go_wp2_with (at_builtin; refine wpList_append_vec rfl _ _ 22 rfl 5 ti _ 1 1 Tryz.underlying22 HI.out.1 HI.out.2.1 HI.out.2.2.1 HI.out.2.2.2 rfl (by decide) (.slice ba N bcp) N (bc ((p.c.take i).flatMap fullB)) rfl HR.out.2.1 (.slice ua 26 uc) 26 (bc l) rfl HSL.out.reads (bc_one _) (by have := HNN.out; have := HI4.out; simp only [maxLen]; omega) (by have := HNN.out; have := HI4.out; omega) ?_; intro y w' hy ho1 hb1; obtain ⟨s1, f1⟩ := append_fresh HR.out.1 HR.out.2.2 ho1 hb1; have HN := Lib.hid (show Still w1 w' ∧ Vec w' 1 y ((i + 1) * 26) (bc ((p.c.take (i + 1)).flatMap fullB)) ∧ ∀ g, y.ownBlock = some g → w1.heap.size ≤ g ∧ g < w'.heap.size from ⟨s1, (by rw [HNX.out, HF.out, bc_append, Nat.add_mul, HNN.out]; exact hy), f1⟩); clear hy ho1 hb1 s1 f1)
 go_roundw
 case rel => exact ⟨i + 1, by go_num, by have := HI4.out; omega, HN.out⟩
 case measure => simp [intOf]; have := HI4.out; omega
end Go.Proofs.YtlcfoeikamkpmaaGreat

namespace Go.Proofs.YtlcfoeikamkpmaaGreat
open Go.RowKit Go.Wh Go.Maps

set_option maxHeartbeats 1000000 in
theorem rthere_ok (w : World) (p c : Int) (p0 : 0 ≤ p) (p1 : p < 32) (c0 : 0 ≤ c) (c1 : c < 4) : Calls Tryz.prog 71 #[.agg #[.int .i64 p, .int .i64 c]] w (BlPost w true) := by
 have HC1 := Lib.hid (fun tt => cellsAt_new w [.int .i64 p, .int .i64 c] tt)
 go_enter Tryz.func71, Tryz.ntmps71
 go_upto_region 1 with fail
 have hs1 : Still w (w.alloc (.cells #[.int .i64 p, .int .i64 c] 64)) := (Still.refl w).alloc _
 have hc1 := HC1.out 64
 change cellsAt (w.alloc (.cells #[.int .i64 p, .int .i64 c] 64)) w.heap.size _ at hc1
 generalize (w.alloc (.cells #[.int .i64 p, .int .i64 c] 64)) = w1 at *
 have q0 : w1.cell? ⟨w.heap.size, 0, none⟩ = some (.int .i64 p) := hc1.cell 0
 have q1 : w1.cell? ⟨w.heap.size, 1, none⟩ = some (.int .i64 c) := hc1.cell 1
 have d0 : decide ((0 : Int) ≤ p) = true := decide_eq_true p0
 have d1 : decide (p < 32) = true := decide_eq_true p1
 have d2 : decide ((0 : Int) ≤ c) = true := decide_eq_true c0
 have d3 : decide (c < 4) = true := decide_eq_true c1
 have F0 := Lib.hid (show BlPost w true (.returned (.bool true)) w1 from ⟨rfl, hs1⟩)
 clear hs1 hc1 HC1
 go_wp2_with fail
 go_ret
 exact F0.out
def stubL (p c : Int) : List Int := 2 :: p :: c :: List.replicate 23 0
def StbPost (w : World) (p c : Int) (e : Ending) (w' : World) : Prop := ∃ v, e = .returned (.tuple #[v, .int .i64 0]) ∧ Vec w' 1 v 26 (bc (stubL p c)) ∧ Still w w' ∧ ∀ g, v.ownBlock = some g → w.heap.size ≤ g ∧ g < w'.heap.size
set_option maxHeartbeats 2000000 in
set_option maxRecDepth 100000 in
theorem rstub_ok (w : World) (p c : Int) (p0 : 0 ≤ p) (p1 : p < 32) (c0 : 0 ≤ c) (c1 : c < 4) : Calls Tryz.prog 39 #[.agg #[.int .i64 p, .int .i64 c]] w (StbPost w p c) := by
 obtain ⟨ti, hi0, hi1, hi2, hi3⟩ := info_parts info_b
 have HI := Lib.hid (And.intro hi0 (And.intro hi1 (And.intro hi2 hi3)))
 have HC1 := Lib.hid (fun tt => cellsAt_new w [.int .i64 p, .int .i64 c] tt)
 have HT := Lib.hid (fun w' => rthere_ok w' p c p0 p1 c0 c1)
 have u1 : IntKind.u8.wrap p = p := by rw [IntKind.wrap_u8]; omega
 have u2 : IntKind.u8.wrap c = c := by rw [IntKind.wrap_u8]; omega
 have u3 : p % 256 = p := by omega
 have u4 : c % 256 = c := by omega
 clear hi0 hi1 hi2 hi3 p0 p1 c0 c1
 go_enter Tryz.func39, Tryz.ntmps39
 go_upto_region 1 with fail
 have hs1 : Still w (w.alloc (.cells #[.int .i64 p, .int .i64 c] 64)) := (Still.refl w).alloc _
 have hc1 := HC1.out 64
 change cellsAt (w.alloc (.cells #[.int .i64 p, .int .i64 c] 64)) w.heap.size _ at hc1
 generalize (w.alloc (.cells #[.int .i64 p, .int .i64 c] 64)) = w1 at *
 obtain ⟨b1, hb1⟩ : ∃ b, w.heap.size = b := ⟨_, rfl⟩
 rw [hb1] at hc1
 rw [hb1]
 have q0 : w1.cell? ⟨b1, 0, none⟩ = some (.int .i64 p) := hc1.cell 0
 have q1 : w1.cell? ⟨b1, 1, none⟩ = some (.int .i64 c) := hc1.cell 1
 have H1 := Lib.hid (And.intro hs1 hc1)
 clear hs1 hc1 HC1 hb1
 go_wp2_with fail
 refine (HT.out w1).mono ?_
 rintro en w2 ⟨rfl, hs2⟩
 have hc2 := H1.out.2.only hs2 fun e => e
 have q0 : w2.cell? ⟨b1, 0, none⟩ = some (.int .i64 p) := hc2.cell 0
 have q1 : w2.cell? ⟨b1, 1, none⟩ = some (.int .i64 c) := hc2.cell 1
 have H2 := Lib.hid (H1.out.1.trans hs2)
 have HV := Lib.hid (show Vec (w2.alloc (.cells #[.int .u8 2, .int .u8 p, .int .u8 c] 5)) 1 (.slice (some ⟨w2.heap.size, 0, none⟩) 3 3) 3 [.int .u8 2, .int .u8 p, .int .u8 c] from vec_block (t := 5) (cs := #[.int .u8 2, .int .u8 p, .int .u8 c]) (heap_alloc_new _ _) rfl (by decide))
 have HSA := Lib.hid (show Still w2 (w2.alloc (.cells #[.int .u8 2, .int .u8 p, .int .u8 c] 5)) from (Still.refl _).alloc _)
 have HZA := Lib.hid (show (w2.alloc (.cells #[.int .u8 2, .int .u8 p, .int .u8 c] 5)).heap.size = w2.heap.size + 1 by simp)
 clear hs2 hc2 HT H1
 go_wp2_with (at_builtin; refine wpList_append_vec_zeros rfl _ _ 22 3 rfl 5 ti .i64 .i64 Tryz.underlying22 Tryz.underlying3 HI.out.1 HI.out.2.1 HI.out.2.2.1 HI.out.2.2.2 (.slice (some ⟨w2.heap.size, 0, none⟩) 3 3) 3 [.int .u8 2, .int .u8 p, .int .u8 c] rfl HV.out (by decide) 23 rfl (by decide) (by decide) ?_; intro v2 w3 hv2 ho2 hb2; obtain ⟨s1, f1⟩ := append_fresh HSA.out (fun g hg => by have e : w2.heap.size = g := Option.some.inj hg; have := HZA.out; omega) ho2 hb2; have H3 := Lib.hid (And.intro hv2 (And.intro s1 f1)); clear hv2 ho2 hb2 s1 f1)
 have F := Lib.hid (show StbPost w p c (.returned (.tuple #[v2, .int .i64 0])) w3 from by
  refine ⟨_, rfl, ?_, H2.out.trans H3.out.2.1, fun g hg => by have := H3.out.2.2 g hg; have := H2.out.size; omega⟩
  exact H3.out.1)
 go_ret2
 exact F.out
end Go.Proofs.YtlcfoeikamkpmaaGreat

namespace Go.Proofs.YtlcfoeikamkpmaaGreat
open Go.RowKit Go.Wh Go.Maps

def madeL : Option Int → List Int
 | none => []
 | some x => if x % 4 = 1 then rowC (97 + x / 4 % 20) [115] [118] else if x % 4 = 2 then stubL (x / 4 % 32) 2 else if x % 4 = 3 then List.replicate 26 0 else []
def madeN (L : List Int) (i : Nat) : List (List Int) := [if 0 < i then madeL L[0]? else [], if 1 < i then madeL L[1]? else [], if 2 < i then madeL L[2]? else [], if 3 < i then madeL L[3]? else []]
theorem madeN_next (L : List Int) {i : Nat} (hi : i < 4) : madeN L (i + 1) = (madeN L i).set i (madeL L[i]?) := by
 rcases (show i = 0 ∨ i = 1 ∨ i = 2 ∨ i = 3 from by omega) with rfl | rfl | rfl | rfl <;> rfl
theorem madeN_keep (L : List Int) {i : Nat} (hi : i < 4) (h : madeL L[i]? = []) : madeN L (i + 1) = madeN L i := by
 rw [madeN_next L hi, h]
 rcases (show i = 0 ∨ i = 1 ∨ i = 2 ∨ i = 3 from by omega) with rfl | rfl | rfl | rfl <;> rfl
theorem madeN_end (L : List Int) {i : Nat} (hi : L.length ≤ i) : madeN L i = madeN L 4 := by
 have key : ∀ j, i ≤ j → madeL L[j]? = [] := fun j hj => by
  rw [List.getElem?_eq_none (by omega)]
  rfl
 have k : ∀ j, j < 4 → (if j < i then madeL L[j]? else []) = madeL L[j]? := fun j hj => by
  split
  · rfl
  · exact (key j (by omega)).symm
 unfold madeN
 rw [k 0 (by decide), k 1 (by decide), k 2 (by decide), k 3 (by decide)]
 rfl
theorem madeL_cases (x : Int) : madeL (some x) = rowC (97 + x / 4 % 20) [115] [118] ∨ madeL (some x) = stubL (x / 4 % 32) 2 ∨ madeL (some x) = List.replicate 26 0 ∨ madeL (some x) = [] := by
 unfold madeL
 dsimp only
 split
 · exact .inl rfl
 · split
   · exact .inr (.inl rfl)
   · split
     · exact .inr (.inr (.inl rfl))
     · exact .inr (.inr (.inr rfl))
theorem madeL_len (o : Option Int) : madeL o = [] ∨ (madeL o).length = 26 := by
 cases o with
 | none => exact .inl rfl
 | some x =>
  rcases madeL_cases x with e | e | e | e
  · exact .inr (by rw [e]; rfl)
  · exact .inr (by rw [e]; rfl)
  · exact .inr (by rw [e]; rfl)
  · exact .inl e
theorem madeL_byt (o : Option Int) : Byt (madeL o) := by
 cases o with
 | none => intro z hz; cases hz
 | some x =>
  rcases madeL_cases x with e | e | e | e <;> rw [e]
  · intro z hz
    have : z ∈ 1 :: ((1 : Int) :: ([97 + x / 4 % 20] ++ List.replicate 7 0) ++ (1 :: ([115] ++ List.replicate 5 0)) ++ (1 :: ([118] ++ List.replicate 7 0))) := hz
    simp only [List.mem_cons, List.mem_append, List.mem_replicate, List.not_mem_nil, or_false] at this
    omega
  · intro z hz
    have : z ∈ 2 :: (x / 4 % 32) :: 2 :: List.replicate 23 (0 : Int) := hz
    simp only [List.mem_cons, List.mem_replicate] at this
    omega
  · intro z hz
    rw [List.eq_of_mem_replicate hz]
    omega
  · intro z hz
    cases hz
theorem madeN_mem {L : List Int} {l : List Int} (h : l ∈ madeN L 4) : ∃ o, l = madeL o := by
 have : l ∈ [madeL L[0]?, madeL L[1]?, madeL L[2]?, madeL L[3]?] := h
 simp only [List.mem_cons, List.not_mem_nil, or_false] at this
 rcases this with e | e | e | e <;> exact ⟨_, e⟩
def MdPost (w : World) (z : Int) (ls : List (List Int)) (e : Ending) (w' : World) : Prop := ∃ v0 v1 v2 v3, e = .returned (.agg #[v0, v1, v2, v3, .int .i64 z]) ∧ PgIs w' (fun g => w.heap.size ≤ g) [v0, v1, v2, v3] ls ∧ Still w w'
def MdRel (w : World) (b4 b5 : Nat) (z : Int) (ls : List (List Int)) (vs : List Value) (w' : World) : Prop := vs.length = 4 ∧ Still w w' ∧ cellsAt w' b4 [.slice none 0 0, .slice none 0 0, .slice none 0 0, .slice none 0 0, .int .i64 0] ∧ cellsAt w' b5 (vs ++ [.int .i64 z]) ∧ PgIs w' (fun g => b5 < g) vs ls
theorem md_set {w w1 w' : World} {b4 b5 i : Nat} {z : Int} {ls : List (List Int)} {vs : List Value} {l : List Int} {y : Value} (h : MdRel w b4 b5 z ls vs w1) (h45 : b4 < b5) (hb : w.heap.size ≤ b4) (hs : Still w1 w') (hi : i < 4) (hy : Sl w' (fun g => b5 < g) 1 y l.length (bc l)) : MdRel w b4 b5 z (ls.set i l) (vs.set i y) (w'.setCell ⟨b5, i, none⟩ y) := by
 obtain ⟨h1, h2, h3, h4, h5⟩ := h
 have ho : Only (fun k => k = b5) w' (w'.setCell ⟨b5, i, none⟩ y) := setCell_only w' ⟨b5, i, none⟩ y
 refine ⟨by rw [List.length_set]; exact h1, (h2.trans hs).andThen ho fun g hg e => ?_, (h3.only hs fun e => e).only ho fun e => ?_, ?_, ⟨by rw [List.length_set]; exact h1, by rw [List.length_set]; exact h5.m, fun j u l' e1 e2 => ?_⟩⟩
 · have e' : g = b5 := e
   omega
 · have e' : b4 = b5 := e
   omega
 · have := (h4.only hs fun e => e).setCell i y
   rw [List.set_append_left _ _ (by omega)] at this
   exact this
 · by_cases hj : j = i
   · subst hj
     rw [List.getElem?_set_self (by omega)] at e1
     rw [List.getElem?_set_self (by have := h5.m; omega)] at e2
     cases e1
     cases e2
     exact hy.only ho fun g hg e => by have e' : g = b5 := e; have h' : b5 < g := hg; omega
   · rw [List.getElem?_set_ne (Ne.symm hj)] at e1 e2
     exact ((h5.at_ j u l' e1 e2).still hs).only ho fun g hg e => by have e' : g = b5 := e; have h' : b5 < g := hg; omega
theorem md_cell {w w1 w' : World} {b4 b5 i : Nat} {z : Int} {ls : List (List Int)} {vs : List Value} (h : MdRel w b4 b5 z ls vs w1) (hs : Still w1 w') (hi : i < 4) : ∃ u, w'.cell? ⟨b5, i, none⟩ = some u ∧ w'.frozen? ⟨b5, i, none⟩ = false := by
 obtain ⟨h1, -, -, h4, -⟩ := h
 have h9 := h4.only hs fun e => e
 obtain ⟨u, hu⟩ : ∃ u, vs[i]? = some u := ⟨_, List.getElem?_eq_getElem (by omega)⟩
 refine ⟨u, ?_, h9.free i⟩
 rw [h9.cell i, List.getElem?_append_left (by omega)]
 exact hu
theorem MdRel.calm {w w1 w' : World} {b4 b5 : Nat} {z : Int} {ls : List (List Int)} {vs : List Value} (h : MdRel w b4 b5 z ls vs w1) (hs : Still w1 w') : MdRel w b4 b5 z ls vs w' :=
 ⟨h.1, h.2.1.trans hs, h.2.2.1.only hs fun e => e, h.2.2.2.1.only hs fun e => e, h.2.2.2.2.still hs⟩
theorem row_made (k : Int) (h0 : 0 ≤ k) (h1 : k < 20) : rowB (strOfNums [97 + k]) ⟨#[115]⟩ ⟨#[118]⟩ = rowC (97 + k) [115] [118] := by
 have h1 : txt (strOfNums [97 + k]) = [97 + k] := txt_str (l := [97 + k]) (fun x hx => by
  rw [List.mem_singleton.1 hx]
  omega)
 have h2 : (strOfNums [97 + k]).size = 1 := str_size [97 + k]
 unfold rowB rowC padB padT
 rw [h1, h2]
 rfl
theorem conv_atq {w : World} {g : Nat} {x : Int} (h : w.cell? ⟨g, 0, none⟩ = some (.int .u8 x)) : (convert 22 9 (.slice (some ⟨g, 0, none⟩) 1 1)).run Tryz.prog w = .ok (.string (strOfNums [x])) w :=
 run_convert_bytes_arg _ 22 5 Tryz.underlying22 Tryz.underlying5 g 0 1 1 [x] rfl (fun i hi => by
  have : i = 0 := by omega
  subst this
  rw [Nat.zero_add, h]
  rfl) 9 Tryz.underlying9
set_option maxHeartbeats 8000000 in
set_option maxRecDepth 100000 in
theorem made_any {Q : Nat → Prop} (w : World) (v : Value) (m : Nat) (L : List Int) (z : Int) (h : Sl w Q 1 v m (bc L)) (hb : Byt L) : Calls Tryz.prog 13 #[v, .int .i64 z] w (MdPost w z (madeN L 4)) := by
 have hln : L.length = m := by have := h.1; rw [bc_length] at this; omega
 have HL := Lib.hid (And.intro h (And.intro hb hln))
 obtain ⟨va, vc, rfl⟩ := h.form
 have HC0 := Lib.hid (fun tt => cellsAt_new w [.slice none 0 0, .slice none 0 0, .slice none 0 0, .slice none 0 0, .int .i64 0] tt)
 clear h hb hln
 go_enter Tryz.func13, Tryz.ntmps13
 go_upto_region 1 with fail
 have hc0 := HC0.out 36
 have hs0 : Still w (w.alloc (.cells #[.slice none 0 0, .slice none 0 0, .slice none 0 0, .slice none 0 0, .int .i64 0] 36)) := (Still.refl w).alloc _
 have hz0 : (w.alloc (.cells #[.slice none 0 0, .slice none 0 0, .slice none 0 0, .slice none 0 0, .int .i64 0] 36)).heap.size = w.heap.size + 1 := by simp
 clear HC0
 change cellsAt (w.alloc (.cells #[.slice none 0 0, .slice none 0 0, .slice none 0 0, .slice none 0 0, .int .i64 0] 36)) w.heap.size _ at hc0
 generalize (w.alloc (.cells #[.slice none 0 0, .slice none 0 0, .slice none 0 0, .slice none 0 0, .int .i64 0] 36)) = w0 at *
 obtain ⟨b4, hb4⟩ : ∃ b, w.heap.size = b := ⟨_, rfl⟩
 obtain ⟨b5, hb5⟩ : ∃ b, w0.heap.size = b := ⟨_, rfl⟩
 rw [hb4] at hc0
 rw [hb4]
 have HC9 := Lib.hid (fun tt => cellsAt_new w0 [.slice none 0 0, .slice none 0 0, .slice none 0 0, .slice none 0 0, .int .i64 z] tt)
 have H0 := Lib.hid (And.intro hs0 hc0)
 have HB := Lib.hid (show b4 < b5 ∧ w.heap.size ≤ b4 from by omega)
 have HB5 := Lib.hid hb5
 clear hs0 hc0 hz0 hb4 hb5
 go_upto_region 2 with fail
 have hc9 := HC9.out 36
 have h01 : Only (fun g => g = b5) w0 (w0.alloc (.cells #[.slice none 0 0, .slice none 0 0, .slice none 0 0, .slice none 0 0, .int .i64 z] 36)) := (Only.refl _ _).alloc _
 change cellsAt (w0.alloc (.cells #[.slice none 0 0, .slice none 0 0, .slice none 0 0, .slice none 0 0, .int .i64 z] 36)) w0.heap.size _ at hc9
 generalize (w0.alloc (.cells #[.slice none 0 0, .slice none 0 0, .slice none 0 0, .slice none 0 0, .int .i64 z] 36)) = w1 at *
 rw [HB5.out] at hc9
 have H1 := Lib.hid (And.intro hc9 h01)
 rw [HB5.out]
 clear hc9 h01
 have HREL := Lib.hid (show MdRel w b4 b5 z (madeN L 0) [.slice none 0 0, .slice none 0 0, .slice none 0 0, .slice none 0 0] w1 from by
  have h45 := HB.out
  have e01 : Only (fun g => g = b5) w0 w1 := H1.out.2
  refine ⟨rfl, H0.out.1.andThen e01 fun g hg e => by have e' : g = b5 := e; omega, H0.out.2.only e01 fun e => by have e' : b4 = b5 := e; omega, H1.out.1, ⟨rfl, rfl, fun j v l h1 h2 => ?_⟩⟩
  rcases (show j = 0 ∨ j = 1 ∨ j = 2 ∨ j = 3 from by have := (List.getElem?_eq_some_iff.1 h1).1; simp at this; omega) with rfl | rfl | rfl | rfl <;> (cases h1; cases h2; exact Sl.nil))
 clear HC9 H0 H1
 go_wp2_with fail
 go_loopw [6] (fun s6 wr => ∃ (i : Nat) (vs : List Value), s6 = .int .i64 i ∧ i ≤ 4 ∧ i ≤ m ∧ MdRel w b4 b5 z (madeN L i) vs wr) (fun s6 _ => 4 - (intOf s6).toNat)
 case atStart => exact ⟨0, _, rfl, Nat.zero_le _, Nat.zero_le _, HREL.out⟩
 clear HREL
 obtain ⟨i, vs, rfl, hi4, him, hrel⟩ := hrel
 have HR := Lib.hid hrel
 clear hrel
 by_cases hi : i < m
 rotate_left
 · have d1 : decide ((i : Int) < (m : Int)) = false := decide_eq_false (by omega)
   have d2 : decide (i < m) = false := decide_eq_false hi
   have hme := madeN_end L (i := i) (by have := HL.out.2.2; omega)
   have HME := Lib.hid hme
   obtain ⟨u0, u1, u2, u3, rfl⟩ : ∃ u0 u1 u2 u3, vs = [u0, u1, u2, u3] := by
    have hvl := HR.out.1
    match vs, hvl with
    | [u0, u1, u2, u3], _ => exact ⟨u0, u1, u2, u3, rfl⟩
   have HONE := Lib.hid (show (#[u0, u1, u2, u3, .int .i64 z] : Array Value).toList.all (·.oneCell') = true from by
    have := pg_one HR.out.2.2.2.2
    rw [List.all_eq_true]
    intro y hy
    simp only [List.mem_cons, List.not_mem_nil, or_false] at hy
    rcases hy with rfl | rfl | rfl | rfl | rfl
    · exact this _ (by simp)
    · exact this _ (by simp)
    · exact this _ (by simp)
    · exact this _ (by simp)
    · rfl)
   clear hme
   go_wp2_with (first
    | ((with_reducible (show wpList _ _ _ ({ dst := some 72, op := _, type := _, pos := _, after := _, guard := _ } :: _) _ _)); (refine wpList_loadAgg rfl 36 _ rfl b5 #[u0, u1, u2, u3, .int .i64 z] rfl HR.out.2.2.2.1 _ Tryz.underlying36 rfl size_page ?_))
    | ((with_reducible (show wpList _ _ _ ({ dst := none, op := Op.store 36 _ _, type := _, pos := _, after := _, guard := _ } :: _) _ _)); (refine wpList_storeAgg rfl 36 _ _ rfl b4 #[u0, u1, u2, u3, .int .i64 z] rfl rfl HR.out.2.2.1 size_page rfl HONE.out ?_; intro wf hcf hof hzf; have HF := Lib.hid (And.intro hcf (And.intro hof hzf)); clear hcf hof hzf)))
   have z0 : wf.cell? ⟨b4, 0, none⟩ = some u0 := HF.out.1.cell 0
   have z1 : wf.cell? ⟨b4, 1, none⟩ = some u1 := HF.out.1.cell 1
   have z2 : wf.cell? ⟨b4, 2, none⟩ = some u2 := HF.out.1.cell 2
   have z3 : wf.cell? ⟨b4, 3, none⟩ = some u3 := HF.out.1.cell 3
   have z4 : wf.cell? ⟨b4, 4, none⟩ = some (.int .i64 z) := HF.out.1.cell 4
   have FF := Lib.hid (show MdPost w z (madeN L 4) (.returned (.agg #[u0, u1, u2, u3, .int .i64 z])) wf from by
    have h45 := HB.out
    refine ⟨u0, u1, u2, u3, rfl, ?_, HR.out.2.1.andThen HF.out.2.1 fun g hg e => by have e' : g = b4 := e; omega⟩
    first | rw [← HME.out] | skip
    exact (HR.out.2.2.2.2.only HF.out.2.1 fun g hg e => by have e' : g = b4 := e; have h' : b5 < g := hg; omega).mono fun g hg => by omega)
   exact bodyPost_ret (v := .agg #[u0, u1, u2, u3, .int .i64 z]) (by simp [results, Tryz.results13, go_sem, z0, z1, z2, z3, z4]) rfl FF.out
 have d1 : decide ((i : Int) < (m : Int)) = true := decide_eq_true (by omega)
 have d2 : decide (i < m) = true := decide_eq_true hi
 by_cases hi2 : i < 4
 rotate_left
 · have d3 : decide ((i : Int) < 4) = false := decide_eq_false (by omega)
   have d4 : decide (i < 4) = false := decide_eq_false hi2
   obtain rfl : i = 4 := by omega
   have hme := (rfl : madeN L 4 = madeN L 4)
   have HME := Lib.hid hme
   obtain ⟨u0, u1, u2, u3, rfl⟩ : ∃ u0 u1 u2 u3, vs = [u0, u1, u2, u3] := by
    have hvl := HR.out.1
    match vs, hvl with
    | [u0, u1, u2, u3], _ => exact ⟨u0, u1, u2, u3, rfl⟩
   have HONE := Lib.hid (show (#[u0, u1, u2, u3, .int .i64 z] : Array Value).toList.all (·.oneCell') = true from by
    have := pg_one HR.out.2.2.2.2
    rw [List.all_eq_true]
    intro y hy
    simp only [List.mem_cons, List.not_mem_nil, or_false] at hy
    rcases hy with rfl | rfl | rfl | rfl | rfl
    · exact this _ (by simp)
    · exact this _ (by simp)
    · exact this _ (by simp)
    · exact this _ (by simp)
    · rfl)
   clear hme
   go_wp2_with (first
    | ((with_reducible (show wpList _ _ _ ({ dst := some 72, op := _, type := _, pos := _, after := _, guard := _ } :: _) _ _)); (refine wpList_loadAgg rfl 36 _ rfl b5 #[u0, u1, u2, u3, .int .i64 z] rfl HR.out.2.2.2.1 _ Tryz.underlying36 rfl size_page ?_))
    | ((with_reducible (show wpList _ _ _ ({ dst := none, op := Op.store 36 _ _, type := _, pos := _, after := _, guard := _ } :: _) _ _)); (refine wpList_storeAgg rfl 36 _ _ rfl b4 #[u0, u1, u2, u3, .int .i64 z] rfl rfl HR.out.2.2.1 size_page rfl HONE.out ?_; intro wf hcf hof hzf; have HF := Lib.hid (And.intro hcf (And.intro hof hzf)); clear hcf hof hzf)))
   have z0 : wf.cell? ⟨b4, 0, none⟩ = some u0 := HF.out.1.cell 0
   have z1 : wf.cell? ⟨b4, 1, none⟩ = some u1 := HF.out.1.cell 1
   have z2 : wf.cell? ⟨b4, 2, none⟩ = some u2 := HF.out.1.cell 2
   have z3 : wf.cell? ⟨b4, 3, none⟩ = some u3 := HF.out.1.cell 3
   have z4 : wf.cell? ⟨b4, 4, none⟩ = some (.int .i64 z) := HF.out.1.cell 4
   have FF := Lib.hid (show MdPost w z (madeN L 4) (.returned (.agg #[u0, u1, u2, u3, .int .i64 z])) wf from by
    have h45 := HB.out
    refine ⟨u0, u1, u2, u3, rfl, ?_, HR.out.2.1.andThen HF.out.2.1 fun g hg e => by have e' : g = b4 := e; omega⟩
    first | rw [← HME.out] | skip
    exact (HR.out.2.2.2.2.only HF.out.2.1 fun g hg e => by have e' : g = b4 := e; have h' : b5 < g := hg; omega).mono fun g hg => by omega)
   exact bodyPost_ret (v := .agg #[u0, u1, u2, u3, .int .i64 z]) (by simp [results, Tryz.results13, go_sem, z0, z1, z2, z3, z4]) rfl FF.out
 have d3 : decide ((i : Int) < 4) = true := decide_eq_true (by omega)
 have d4 : decide (i < 4) = true := decide_eq_true hi2
 have HI := Lib.hid (And.intro hi hi2)
 obtain ⟨x, hx⟩ : ∃ x, L[i]? = some x := ⟨_, List.getElem?_eq_getElem (by have := HL.out.2.2; omega)⟩
 have hxb := HL.out.2.1 x (List.mem_of_getElem? hx)
 obtain ⟨g, o, cc, he, -, -, hcs⟩ := HL.out.1.pos (by omega)
 cases he
 have hcw : w.cell? ⟨g, o + i, none⟩ = some (.int .u8 x) := hcs i _ (bc_get hx)
 have HCW := Lib.hid (fun w' (hs : Still wr w') => Still.cell (HR.out.2.1.trans hs) hcw)
 have HCY := Lib.hid (fun w' (hs : Still w w') => Still.cell hs hcw)
 have c0 := HCW.out wr (Still.refl _)
 have i0 : (0 : Int) ≤ (i : Int) := by omega
 have i1 : (i : Int) < (m : Int) := by omega
 have i2 : (i : Int) < 4 := by omega
 have ui : IntKind.i64.wrap ((i : Int) + 1) = (i : Int) + 1 := IntWalk.i64_in _ (by omega)
 obtain ⟨kn, hkn⟩ : ∃ k : Nat, x / 4 % 20 = (k : Int) := ⟨(x / 4 % 20).toNat, by omega⟩
 obtain ⟨xn, rfl⟩ : ∃ k : Nat, x = (k : Int) := ⟨x.toNat, by omega⟩
 have h256 : (xn : Int) / 4 % 256 = (xn : Int) / 4 := by omega
 have HX := Lib.hid (And.intro hx (And.intro hxb (And.intro hkn (show kn < 20 from by omega))))
 have hsplit : (xn : Int) % 4 = 0 ∨ (xn : Int) % 4 = 1 ∨ (xn : Int) % 4 = 2 ∨ (xn : Int) % 4 = 3 := by omega
 clear hx hxb hcs hcw hi hi2 hi4 him
 rcases hsplit with h0 | h1 | h2 | h3
 · have HN := Lib.hid (show MdRel w b4 b5 z (madeN L (i + 1)) vs wr from by
    rw [madeN_keep L HI.out.2 (by rw [HX.out.1]; unfold madeL; dsimp only; rw [if_neg (by omega), if_neg (by omega), if_neg (by omega)])]
    exact HR.out)
   go_wp2_with fail
   go_roundw
   case rel => exact ⟨i + 1, _, by go_num, by have := HI.out; omega, by have := HI.out; omega, HN.out⟩
   case measure => simp [intOf]; have := HI.out; omega
 · have HR1 := Lib.hid (fun w' => row_any w' (strOfNums [97 + (kn : Int)]) ⟨#[115]⟩ ⟨#[118]⟩ 1 1 1 (str_size [97 + (kn : Int)]) rfl rfl (by decide) (by decide) (by decide) (by decide))
   have q1 : (convert 22 9 (.slice (some ⟨wr.heap.size, 0, none⟩) 1 1)).run Tryz.prog (wr.alloc (.cells #[.int .u8 (97 + (kn : Int))] 5)) = .ok (.string (strOfNums [97 + (kn : Int)])) (wr.alloc (.cells #[.int .u8 (97 + (kn : Int))] 5)) :=
    conv_atq ((cellsAt_new wr [.int .u8 (97 + (kn : Int))] 5).cell 0)
   have u9 : (97 + (kn : Int)) % 256 = 97 + (kn : Int) := by have := HX.out.2.2.2; omega
   have u8 : IntKind.u8.wrap (97 + (kn : Int)) = 97 + (kn : Int) := by rw [IntKind.wrap_u8]; exact u9
   go_wp2_with fail
   refine (HR1.out _).mono ?_
   rintro en wb ⟨y, rfl, hv, hbl, hgv⟩
   have hsb : Still wr wb := ((Still.refl wr).alloc _).trans (Still.of hbl)
   obtain ⟨ya, yc, rfl⟩ := hv.form'
   obtain ⟨u, cu, fu⟩ := md_cell HR.out hsb HI.out.2
   have HN := Lib.hid (show MdRel w b4 b5 z (madeN L (i + 1)) (vs.set i (.slice ya 26 yc)) (wb.setCell ⟨b5, i, none⟩ (.slice ya 26 yc)) from by
    have hb5 := HR.out.2.2.2.1.lt
    have hz1 : (wr.alloc (.cells #[.int .u8 (97 + (kn : Int))] 5)).heap.size = wr.heap.size + 1 := by simp
    rw [madeN_next L HI.out.2, HX.out.1]
    refine md_set HR.out HB.out.1 HB.out.2 hsb HI.out.2 ?_
    unfold madeL
    dsimp only
    rw [if_pos h1, HX.out.2.2.1, ← row_made (kn : Int) (by omega) (by have := HX.out.2.2.2; omega)]
    exact Vec.sl hv fun g hg => ⟨by have := hgv g hg; omega, (hgv g hg).2⟩)
   clear hv hbl hgv hsb HR1 q1
   go_wp2_with fail
   go_roundw
   case rel => exact ⟨i + 1, _, by go_num, by have := HI.out; omega, by have := HI.out; omega, HN.out⟩
   case measure => simp [intOf]; have := HI.out; omega
 · have HSB := Lib.hid (fun w' (p c : Int) (p0 : p = (xn : Int) / 4 % 32) (c0 : c = 2) => show Calls Tryz.prog 39 #[.agg #[.int .i64 p, .int .i64 c]] w' (StbPost w' ((xn : Int) / 4 % 32) 2) from by
    rw [p0, c0]
    exact rstub_ok w' _ _ (by omega) (by omega) (by decide) (by decide))
   have HNX := Lib.hid (fun w' w'' (hs : Still wr w') (e : Ending) (hp : StbPost w' ((xn : Int) / 4 % 32) 2 e w'') => show ∃ a c u, e = .returned (.tuple #[.slice a 26 c, .int .i64 0]) ∧ Still wr w'' ∧ w''.cell? ⟨b5, i, none⟩ = some u ∧ w''.frozen? ⟨b5, i, none⟩ = false ∧ MdRel w b4 b5 z (madeN L (i + 1)) (vs.set i (.slice a 26 c)) (w''.setCell ⟨b5, i, none⟩ (.slice a 26 c)) from by
    obtain ⟨y, rfl, hv, hs2, hgv⟩ := hp
    obtain ⟨ya, yc, rfl⟩ := hv.form'
    have hsb := hs.trans hs2
    obtain ⟨u, cu, fu⟩ := md_cell HR.out hsb HI.out.2
    refine ⟨ya, yc, u, rfl, hsb, cu, fu, ?_⟩
    have hb5 := HR.out.2.2.2.1.lt
    have hsz := hs.size
    rw [madeN_next L HI.out.2, HX.out.1]
    refine md_set HR.out HB.out.1 HB.out.2 hsb HI.out.2 ?_
    unfold madeL
    dsimp only
    rw [if_neg (by omega), if_pos h2]
    exact Vec.sl hv fun g hg => ⟨by have := hgv g hg; omega, (hgv g hg).2⟩)
   have HPP := Lib.hid (show (IntKind.i64.wrap (IntKind.u8.wrap ((xn : Int) / 4))).tmod 32 = (xn : Int) / 4 % 32 ∧ (IntKind.i64.wrap (xn : Int)).tmod 4 = 2 from by
    have := HX.out.2.1
    rw [IntKind.wrap_u8, IntWalk.i64_in _ (by omega), IntWalk.i64_in _ (by omega), Int.tmod_eq_emod_of_nonneg (by omega), Int.tmod_eq_emod_of_nonneg (by omega)]
    omega)
   go_upto_region 9 with fail
   go_region_held3 (fun w' => w'.cell? ⟨g, o + i, none⟩ = some (.int .u8 xn)) (first | exact HCW.out _ (still_drew _) | exact HCW.out _ (by assumption) | exact HCY.out _ HN.out.2.1) (first
    | (go_at_call 39; (with_reducible refine (HSB.out _ _ _ HPP.out.1 HPP.out.2).mono ?_); intro en wc hp; obtain ⟨ya, yc, u, rfl, hsc, cu, fu, hn⟩ := HNX.out _ wc (still_drew _) en hp; have HN := Lib.hid hn; clear hn hp))
   go_wp2_with fail
   go_roundw
   case rel => exact ⟨i + 1, _, by go_num, by have := HI.out; omega, by have := HI.out; omega, HN.out⟩
   case measure => simp [intOf]; have := HI.out; omega
 · have hmk : ∀ w : World, (Instr.makeSlice 22 (.int .i64 26) (.int .i64 26)).run Tryz.prog w = .ok (.slice (some ⟨w.heap.size, 0, none⟩) 26 26) (w.alloc (.cells (bc (List.replicate 26 0)).toArray 5)) := make26
   have HC6 := Lib.hid (cellsAt_new wr (bc (List.replicate 26 0)) 5)
   have hsb : Still wr (wr.alloc (.cells (bc (List.replicate 26 0)).toArray 5)) := (Still.refl wr).alloc _
   obtain ⟨Z26, hZ⟩ : ∃ Z, (bc (List.replicate 26 0)).toArray = Z := ⟨_, rfl⟩
   rw [hZ] at hmk hsb
   have hc6 := HC6.out
   rw [hZ] at hc6
   obtain ⟨u, cu, fu⟩ := md_cell HR.out hsb HI.out.2
   have HN := Lib.hid (show MdRel w b4 b5 z (madeN L (i + 1)) (vs.set i (.slice (some ⟨wr.heap.size, 0, none⟩) 26 26)) ((wr.alloc (.cells Z26 5)).setCell ⟨b5, i, none⟩ (.slice (some ⟨wr.heap.size, 0, none⟩) 26 26)) from by
    have hb5 := HR.out.2.2.2.1.lt
    rw [madeN_next L HI.out.2, HX.out.1]
    refine md_set HR.out HB.out.1 HB.out.2 hsb HI.out.2 ?_
    unfold madeL
    dsimp only
    rw [if_neg (by omega), if_neg (by omega), if_pos h3]
    exact Vec.sl (cellsAt.vecq hc6 rfl (by decide)) fun g hg => by
     have e : wr.heap.size = g := Option.some.inj hg
     have := hc6.lt
     exact ⟨by omega, by omega⟩)
   clear hc6 hsb HC6
   generalize hW : (wr.alloc (.cells Z26 5)) = w6 at *
   have hmk6 : (Instr.makeSlice 22 (.int .i64 26) (.int .i64 26)).run Tryz.prog wr = .ok (.slice (some ⟨wr.heap.size, 0, none⟩) 26 26) w6 := by rw [← hW]; exact hmk wr
   clear hmk hZ hW
   go_wp2_with fail
   go_roundw
   case rel => exact ⟨i + 1, _, by go_num, by have := HI.out; omega, by have := HI.out; omega, HN.out⟩
   case measure => simp [intOf]; have := HI.out; omega
end Go.Proofs.YtlcfoeikamkpmaaGreat

namespace Go.Proofs.YtlcfoeikamkpmaaGreat
open Go.RowKit Go.Wh Go.Maps

set_option maxHeartbeats 4000000 in
set_option maxRecDepth 100000 in
theorem samepage_all {Q R : Nat → Prop} (w : World) (u0 u1 u2 u3 v0 v1 v2 v3 : Value) (ls : List (List Int)) (z : Int) (h1 : PgIs w Q [u0, u1, u2, u3] ls) (h2 : PgIs w R [v0, v1, v2, v3] ls) (hok : ∀ l ∈ ls, l = [] ∨ (l.length = 26 ∧ Byt l)) :
 Calls Tryz.prog 20 #[.agg #[u0, u1, u2, u3, .int .i64 z], .agg #[v0, v1, v2, v3, .int .i64 z]] w (BlPost w true) := by
 have H := Lib.hid (And.intro h1 (And.intro h2 hok))
 have HC1 := Lib.hid (fun tt => cellsAt_new w [u0, u1, u2, u3, .int .i64 z] tt)
 have HC2 := Lib.hid (fun w' tt => cellsAt_new w' [v0, v1, v2, v3, .int .i64 z] tt)
 clear h1 h2 hok
 go_enter Tryz.func20, Tryz.ntmps20
 go_upto_region 1 with fail
 have hs1 : Still w (w.alloc (.cells #[u0, u1, u2, u3, .int .i64 z] 36)) := (Still.refl w).alloc _
 have hc1 := HC1.out 36
 change cellsAt (w.alloc (.cells #[u0, u1, u2, u3, .int .i64 z] 36)) w.heap.size _ at hc1
 have hz1 : (w.alloc (.cells #[u0, u1, u2, u3, .int .i64 z] 36)).heap.size = w.heap.size + 1 := by simp
 generalize (w.alloc (.cells #[u0, u1, u2, u3, .int .i64 z] 36)) = w1 at *
 have hs2 : Still w1 (w1.alloc (.cells #[v0, v1, v2, v3, .int .i64 z] 36)) := (Still.refl w1).alloc _
 have hc2 := HC2.out w1 36
 change cellsAt (w1.alloc (.cells #[v0, v1, v2, v3, .int .i64 z] 36)) w1.heap.size _ at hc2
 rw [hz1] at hc2
 generalize (w1.alloc (.cells #[v0, v1, v2, v3, .int .i64 z] 36)) = w2 at *
 obtain ⟨b2, hb2⟩ : ∃ b, w.heap.size = b := ⟨_, rfl⟩
 obtain ⟨b3, hb3⟩ : ∃ b, w.heap.size + 1 = b := ⟨_, rfl⟩
 rw [hb3] at hc2
 rw [hb2] at hc1
 rw [hb3, hb2]
 have H2 := Lib.hid (And.intro (hc1.only hs2 fun e => e) (And.intro hc2 (hs1.trans hs2)))
 clear hs1 hs2 hc1 hc2 hz1 hb2 hb3 HC1 HC2
 go_wp2_with fail
 go_loopw [5] (fun s wr => ∃ i : Nat, s = .int .i64 i ∧ i ≤ 4 ∧ Still w2 wr) (fun s _ => 4 - (intOf s).toNat)
 case atStart => exact ⟨0, rfl, Nat.zero_le _, Still.refl _⟩
 obtain ⟨i, rfl, hi4, hst⟩ := hrel
 have HST := Lib.hid hst
 have HR := Lib.hid (And.intro (H2.out.1.only hst fun e => e) (H2.out.2.1.only hst fun e => e))
 clear hst
 by_cases hi : i < 4
 rotate_left
 · have d1 : decide ((i : Int) < 4) = false := decide_eq_false (by omega)
   have d2 : decide (i < 4) = false := decide_eq_false hi
   have c1 : wr.cell? ⟨b2, 4, none⟩ = some (.int .i64 z) := HR.out.1.cell 4
   have c2 : wr.cell? ⟨b3, 4, none⟩ = some (.int .i64 z) := HR.out.2.cell 4
   have F := Lib.hid (show BlPost w true (.returned (.bool true)) wr from ⟨rfl, H2.out.2.2.trans HST.out⟩)
   clear hi hi4
   go_wp2_with fail
   go_ret
   exact F.out
 have d1 : decide ((i : Int) < 4) = true := decide_eq_true (by omega)
 have d2 : decide (i < 4) = true := decide_eq_true hi
 have i0 : (0 : Int) ≤ (i : Int) := by omega
 have i1 : (i : Int) < 4 := by omega
 have ui : IntKind.i64.wrap ((i : Int) + 1) = (i : Int) + 1 := IntWalk.i64_in _ (by omega)
 obtain ⟨u, hu⟩ : ∃ u, [u0, u1, u2, u3][i]? = some u := ⟨_, List.getElem?_eq_getElem (by simpa using hi)⟩
 obtain ⟨v, hv⟩ : ∃ u, [v0, v1, v2, v3][i]? = some u := ⟨_, List.getElem?_eq_getElem (by simpa using hi)⟩
 obtain ⟨l, hl⟩ : ∃ l, ls[i]? = some l := ⟨_, List.getElem?_eq_getElem (by have := H.out.1.m; omega)⟩
 have hlk := H.out.2.2 l (List.mem_of_getElem? hl)
 have hsu := H.out.1.at_ i u l hu hl
 have hsv := H.out.2.1.at_ i v l hv hl
 have hp : ∀ {x : Value} {p q r s t : Value}, [p, q, r, s][i]? = some x → [p, q, r, s, t][i]? = some x := fun {x p q r s t} e => by
  rcases (show i = 0 ∨ i = 1 ∨ i = 2 ∨ i = 3 from by omega) with rfl | rfl | rfl | rfl <;> exact e
 have SS := Lib.hid (fun w' (hs : Still wr w') => show w'.cell? ⟨b2, i, none⟩ = some u ∧ w'.cell? ⟨b3, i, none⟩ = some v from
  ⟨Still.cell hs ((HR.out.1.cell i).trans (hp hu)), Still.cell hs ((HR.out.2.cell i).trans (hp hv))⟩)
 have cu : wr.cell? ⟨b2, i, none⟩ = some u := (SS.out wr (Still.refl _)).1
 have cv : wr.cell? ⟨b3, i, none⟩ = some v := (SS.out wr (Still.refl _)).2
 have HN := Lib.hid (fun w' (hs : Still wr w') => show (∃ k : Nat, Value.int .i64 ((i : Int) + 1) = .int .i64 k ∧ k ≤ 4 ∧ Still w2 w') from ⟨i + 1, rfl, by omega, HST.out.trans hs⟩)
 rcases hlk with rfl | hlk
 · obtain ⟨ua, uc, rfl⟩ := hsu.form
   obtain ⟨va, vc, rfl⟩ := hsv.form
   have cu0 : wr.cell? ⟨b2, i, none⟩ = some (.slice ua 0 uc) := cu
   have cv0 : wr.cell? ⟨b3, i, none⟩ = some (.slice va 0 vc) := cv
   clear hu hv hl hsu hsv hp hi hi4 HR SS cu cv
   go_upto_region 4 with fail
   go_quiet (first
    | (go_at_call 55; (with_reducible refine Calls.quiet_of (blank_nil _ ua uc)))
    | (go_at_call 55; (with_reducible refine Calls.quiet_of (blank_nil _ va vc))))
   go_wp2_with fail
   go_roundw
   case rel => exact HN.out _ (Only.drewN (Still.refl wr) _)
   case measure => simp [intOf]; omega
 have HU := Lib.hid (fun w' (hs : Still wr w') => blank_any w' u l.length l (((hsu.still H2.out.2.2).still HST.out).still hs) hlk.2 (by omega))
 have HV := Lib.hid (fun w' (hs : Still wr w') => blank_any w' v l.length l (((hsv.still H2.out.2.2).still HST.out).still hs) hlk.2 (by omega))
 have HQU := Lib.hid (fun w' (hs : Still wr w') => conv_sl (((hsu.still H2.out.2.2).still HST.out).still hs))
 have HQV := Lib.hid (fun w' (hs : Still wr w') => conv_sl (((hsv.still H2.out.2.2).still HST.out).still hs))
 cases hbk : blankB l with
 | true =>
  rw [hbk] at HU HV
  obtain ⟨ua, uc, rfl⟩ := hsu.form
  obtain ⟨va, vc, rfl⟩ := hsv.form
  obtain ⟨n, hn⟩ : ∃ n, l.length = n := ⟨_, rfl⟩
  rw [hn] at HU HV SS cu cv
  clear hu hv hl hlk hsu hsv hp hi hi4 HR hn cu cv HQU HQV hbk
  go_upto_region 4 with fail
  refine wp_region_held_drew (S := fun w' => Still wr w') (by kernel_rfl) (still_drew _) (fun hHeld => ?_)
  refine wpAnyH_take (i := 0) (v := (.int .i64 (i : Int))) (by simp only [List.getElem?_toArray, List.getElem?_cons_zero]; rfl) (by kernel_rfl) (by kernel_rfl) (by kernel_rfl) (by exact fun _ _ _ h => h) (by exact Or.inl ⟨by rfl, by intro wz hwz; go_simp⟩) hHeld ?_
  simp only [Act.put, List.setIfInBounds_toArray, List.set_cons_zero, List.set_cons_succ]
  refine wpAnyH_take (i := 1) (v := (.pointer (some ⟨b2, 0, none⟩))) (by simp only [List.getElem?_toArray, List.getElem?_cons_succ, List.getElem?_cons_zero]; rfl) (by kernel_rfl) (by kernel_rfl) (by kernel_rfl) (by exact fun _ _ _ h => h) (by exact Or.inl ⟨by rfl, by intro wz hwz; go_simp⟩) hHeld ?_
  simp only [Act.put, List.setIfInBounds_toArray, List.set_cons_zero, List.set_cons_succ]
  refine wpAnyH_take (i := 2) (v := (.pointer (some ⟨b2, i, none⟩))) (by simp only [List.getElem?_toArray, List.getElem?_cons_succ, List.getElem?_cons_zero]; rfl) (by kernel_rfl) (by kernel_rfl) (by kernel_rfl) (by exact fun _ _ _ h => h) (by exact Or.inl ⟨by rfl, by intro wz hwz; go_simp⟩) hHeld ?_
  simp only [Act.put, List.setIfInBounds_toArray, List.set_cons_zero, List.set_cons_succ]
  refine wpAnyH_take (i := 3) (v := (.slice ua n uc)) (by simp only [List.getElem?_toArray, List.getElem?_cons_succ, List.getElem?_cons_zero]; rfl) (by kernel_rfl) (by kernel_rfl) (by kernel_rfl) (by exact fun _ _ _ h => h) (by exact Or.inl ⟨by rfl, by intro wz hwz; have hq1 := (SS.out wz hwz).1; go_simp⟩) hHeld ?_
  simp only [Act.put, List.setIfInBounds_toArray, List.set_cons_zero, List.set_cons_succ]
  refine wpAnyH_take (i := 5) (v := (.int .i64 (i : Int))) (by simp only [List.getElem?_toArray, List.getElem?_cons_succ, List.getElem?_cons_zero]; rfl) (by kernel_rfl) (by kernel_rfl) (by kernel_rfl) (by exact fun _ _ _ h => h) (by exact Or.inl ⟨by rfl, by intro wz hwz; go_simp⟩) hHeld ?_
  simp only [Act.put, List.setIfInBounds_toArray, List.set_cons_zero, List.set_cons_succ]
  refine wpAnyH_take (i := 6) (v := (.pointer (some ⟨b3, 0, none⟩))) (by simp only [List.getElem?_toArray, List.getElem?_cons_succ, List.getElem?_cons_zero]; rfl) (by kernel_rfl) (by kernel_rfl) (by kernel_rfl) (by exact fun _ _ _ h => h) (by exact Or.inl ⟨by rfl, by intro wz hwz; go_simp⟩) hHeld ?_
  simp only [Act.put, List.setIfInBounds_toArray, List.set_cons_zero, List.set_cons_succ]
  refine wpAnyH_take (i := 7) (v := (.pointer (some ⟨b3, i, none⟩))) (by simp only [List.getElem?_toArray, List.getElem?_cons_succ, List.getElem?_cons_zero]; rfl) (by kernel_rfl) (by kernel_rfl) (by kernel_rfl) (by exact fun _ _ _ h => h) (by exact Or.inl ⟨by rfl, by intro wz hwz; go_simp⟩) hHeld ?_
  simp only [Act.put, List.setIfInBounds_toArray, List.set_cons_zero, List.set_cons_succ]
  refine wpAnyH_take (i := 8) (v := (.slice va n vc)) (by simp only [List.getElem?_toArray, List.getElem?_cons_succ, List.getElem?_cons_zero]; rfl) (by kernel_rfl) (by kernel_rfl) (by kernel_rfl) (by exact fun _ _ _ h => h) (by exact Or.inl ⟨by rfl, by intro wz hwz; have hq2 := (SS.out wz hwz).2; go_simp⟩) hHeld ?_
  simp only [Act.put, List.setIfInBounds_toArray, List.set_cons_zero, List.set_cons_succ]
  refine wpAnyH_ready (rs := [4]) (by kernel_rfl) (by simp) ?_
  refine AllReadyH.cons (by simp only [List.getElem?_toArray, List.getElem?_cons_succ, List.getElem?_cons_zero]; rfl) (fun K hK => ?_) AllReadyH.nil
  go_simp
  refine (HU.out _ hHeld).mono ?_
  rintro e w9 ⟨rfl, hs9⟩
  have hg9 := stl_trans hHeld hs9
  clear hHeld hs9
  go_wp2_with fail
  refine hK.out _ _ hg9 (fun hHeld => ?_)
  clear hK K hg9
  try simp only [Act.put, List.setIfInBounds_toArray, List.set_cons_zero, List.set_cons_succ]
  refine wpAnyH_ready (rs := [9]) (by kernel_rfl) (by simp) ?_
  refine AllReadyH.cons (by simp only [List.getElem?_toArray, List.getElem?_cons_succ, List.getElem?_cons_zero]; rfl) (fun K hK => ?_) AllReadyH.nil
  go_simp
  refine (HV.out _ hHeld).mono ?_
  rintro e w9 ⟨rfl, hs9⟩
  have hg9 := stl_trans hHeld hs9
  clear hHeld hs9
  go_wp2_with fail
  refine hK.out _ _ hg9 (fun hHeld => ?_)
  clear hK K hg9
  try simp only [Act.put, List.setIfInBounds_toArray, List.set_cons_zero, List.set_cons_succ]
  refine wpAnyH_take (i := 10) (v := (.bool false)) (by simp only [List.getElem?_toArray, List.getElem?_cons_succ, List.getElem?_cons_zero]; rfl) (by kernel_rfl) (by kernel_rfl) (by kernel_rfl) (by exact fun _ _ _ h => h) (by exact Or.inl ⟨by rfl, by intro wz hwz; go_simp⟩) hHeld ?_
  simp only [Act.put, List.setIfInBounds_toArray, List.set_cons_zero, List.set_cons_succ]
  refine wpAnyH_take (i := 11) (v := (.bool false)) (by simp only [List.getElem?_toArray, List.getElem?_cons_succ, List.getElem?_cons_zero]; rfl) (by kernel_rfl) (by kernel_rfl) (by kernel_rfl) (by exact fun _ _ _ h => h) (by exact Or.inl ⟨by rfl, by intro wz hwz; go_simp⟩) hHeld ?_
  simp only [Act.put, List.setIfInBounds_toArray, List.set_cons_zero, List.set_cons_succ]
  refine wpAnyH_take (i := 12) (v := (.int .i64 (i : Int))) (by simp only [List.getElem?_toArray, List.getElem?_cons_succ, List.getElem?_cons_zero]; rfl) (by kernel_rfl) (by kernel_rfl) (by kernel_rfl) (by exact fun _ _ _ h => h) (by exact Or.inl ⟨by rfl, by intro wz hwz; go_simp⟩) hHeld ?_
  simp only [Act.put, List.setIfInBounds_toArray, List.set_cons_zero, List.set_cons_succ]
  refine wpAnyH_take (i := 13) (v := (.pointer (some ⟨b2, 0, none⟩))) (by simp only [List.getElem?_toArray, List.getElem?_cons_succ, List.getElem?_cons_zero]; rfl) (by kernel_rfl) (by kernel_rfl) (by kernel_rfl) (by exact fun _ _ _ h => h) (by exact Or.inl ⟨by rfl, by intro wz hwz; go_simp⟩) hHeld ?_
  simp only [Act.put, List.setIfInBounds_toArray, List.set_cons_zero, List.set_cons_succ]
  refine wpAnyH_take (i := 14) (v := (.pointer (some ⟨b2, i, none⟩))) (by simp only [List.getElem?_toArray, List.getElem?_cons_succ, List.getElem?_cons_zero]; rfl) (by kernel_rfl) (by kernel_rfl) (by kernel_rfl) (by exact fun _ _ _ h => h) (by exact Or.inl ⟨by rfl, by intro wz hwz; go_simp⟩) hHeld ?_
  simp only [Act.put, List.setIfInBounds_toArray, List.set_cons_zero, List.set_cons_succ]
  refine wpAnyH_take (i := 15) (v := (.slice ua n uc)) (by simp only [List.getElem?_toArray, List.getElem?_cons_succ, List.getElem?_cons_zero]; rfl) (by kernel_rfl) (by kernel_rfl) (by kernel_rfl) (by exact fun _ _ _ h => h) (by exact Or.inl ⟨by rfl, by intro wz hwz; have hq1 := (SS.out wz hwz).1; go_simp⟩) hHeld ?_
  simp only [Act.put, List.setIfInBounds_toArray, List.set_cons_zero, List.set_cons_succ]
  refine wpAnyH_ready (rs := [16]) (by kernel_rfl) (by simp) ?_
  refine AllReadyH.cons (by simp only [List.getElem?_toArray, List.getElem?_cons_succ, List.getElem?_cons_zero]; rfl) (fun K hK => ?_) AllReadyH.nil
  go_simp
  refine (HU.out _ hHeld).mono ?_
  rintro e w9 ⟨rfl, hs9⟩
  have hg9 := stl_trans hHeld hs9
  clear hHeld hs9
  go_wp2_with fail
  refine hK.out _ _ hg9 (fun hHeld => ?_)
  clear hK K hg9
  try simp only [Act.put, List.setIfInBounds_toArray, List.set_cons_zero, List.set_cons_succ]
  refine wpAnyH_take (i := 17) (v := (.bool false)) (by simp only [List.getElem?_toArray, List.getElem?_cons_succ, List.getElem?_cons_zero]; rfl) (by kernel_rfl) (by kernel_rfl) (by kernel_rfl) (by exact fun _ _ _ h => h) (by exact Or.inl ⟨by rfl, by intro wz hwz; go_simp⟩) hHeld ?_
  simp only [Act.put, List.setIfInBounds_toArray, List.set_cons_zero, List.set_cons_succ]
  refine wpAnyH_take (i := 18) (v := (.bool false)) (by simp only [List.getElem?_toArray, List.getElem?_cons_succ, List.getElem?_cons_zero]; rfl) (by kernel_rfl) (by kernel_rfl) (by kernel_rfl) (by exact fun _ _ _ h => h) (by exact Or.inl ⟨by rfl, by intro wz hwz; go_simp⟩) hHeld ?_
  simp only [Act.put, List.setIfInBounds_toArray, List.set_cons_zero, List.set_cons_succ]
  refine wpAnyH_take (i := 19) (v := undef) (by simp only [List.getElem?_toArray, List.getElem?_cons_succ, List.getElem?_cons_zero]; rfl) (by kernel_rfl) (by kernel_rfl) (by kernel_rfl) (by exact fun _ _ _ h => h) (by exact Or.inr ⟨by rfl, rfl⟩) hHeld ?_
  simp only [Act.put, List.setIfInBounds_toArray, List.set_cons_zero, List.set_cons_succ]
  refine wpAnyH_take (i := 20) (v := undef) (by simp only [List.getElem?_toArray, List.getElem?_cons_succ, List.getElem?_cons_zero]; rfl) (by kernel_rfl) (by kernel_rfl) (by kernel_rfl) (by exact fun _ _ _ h => h) (by exact Or.inr ⟨by rfl, rfl⟩) hHeld ?_
  simp only [Act.put, List.setIfInBounds_toArray, List.set_cons_zero, List.set_cons_succ]
  refine wpAnyH_take (i := 21) (v := undef) (by simp only [List.getElem?_toArray, List.getElem?_cons_succ, List.getElem?_cons_zero]; rfl) (by kernel_rfl) (by kernel_rfl) (by kernel_rfl) (by exact fun _ _ _ h => h) (by exact Or.inr ⟨by rfl, rfl⟩) hHeld ?_
  simp only [Act.put, List.setIfInBounds_toArray, List.set_cons_zero, List.set_cons_succ]
  refine wpAnyH_take (i := 22) (v := undef) (by simp only [List.getElem?_toArray, List.getElem?_cons_succ, List.getElem?_cons_zero]; rfl) (by kernel_rfl) (by kernel_rfl) (by kernel_rfl) (by exact fun _ _ _ h => h) (by exact Or.inr ⟨by rfl, rfl⟩) hHeld ?_
  simp only [Act.put, List.setIfInBounds_toArray, List.set_cons_zero, List.set_cons_succ]
  refine wpAnyH_take (i := 23) (v := undef) (by simp only [List.getElem?_toArray, List.getElem?_cons_succ, List.getElem?_cons_zero]; rfl) (by kernel_rfl) (by kernel_rfl) (by kernel_rfl) (by exact fun _ _ _ h => h) (by exact Or.inr ⟨by rfl, rfl⟩) hHeld ?_
  simp only [Act.put, List.setIfInBounds_toArray, List.set_cons_zero, List.set_cons_succ]
  refine wpAnyH_take (i := 24) (v := undef) (by simp only [List.getElem?_toArray, List.getElem?_cons_succ, List.getElem?_cons_zero]; rfl) (by kernel_rfl) (by kernel_rfl) (by kernel_rfl) (by exact fun _ _ _ h => h) (by exact Or.inr ⟨by rfl, rfl⟩) hHeld ?_
  simp only [Act.put, List.setIfInBounds_toArray, List.set_cons_zero, List.set_cons_succ]
  refine wpAnyH_take (i := 25) (v := undef) (by simp only [List.getElem?_toArray, List.getElem?_cons_succ, List.getElem?_cons_zero]; rfl) (by kernel_rfl) (by kernel_rfl) (by kernel_rfl) (by exact fun _ _ _ h => h) (by exact Or.inr ⟨by rfl, rfl⟩) hHeld ?_
  simp only [Act.put, List.setIfInBounds_toArray, List.set_cons_zero, List.set_cons_succ]
  refine wpAnyH_take (i := 26) (v := undef) (by simp only [List.getElem?_toArray, List.getElem?_cons_succ, List.getElem?_cons_zero]; rfl) (by kernel_rfl) (by kernel_rfl) (by kernel_rfl) (by exact fun _ _ _ h => h) (by exact Or.inr ⟨by rfl, rfl⟩) hHeld ?_
  simp only [Act.put, List.setIfInBounds_toArray, List.set_cons_zero, List.set_cons_succ]
  refine wpAnyH_take (i := 27) (v := undef) (by simp only [List.getElem?_toArray, List.getElem?_cons_succ, List.getElem?_cons_zero]; rfl) (by kernel_rfl) (by kernel_rfl) (by kernel_rfl) (by exact fun _ _ _ h => h) (by exact Or.inr ⟨by rfl, rfl⟩) hHeld ?_
  simp only [Act.put, List.setIfInBounds_toArray, List.set_cons_zero, List.set_cons_succ]
  refine wpAnyH_take (i := 28) (v := undef) (by simp only [List.getElem?_toArray, List.getElem?_cons_succ, List.getElem?_cons_zero]; rfl) (by kernel_rfl) (by kernel_rfl) (by kernel_rfl) (by exact fun _ _ _ h => h) (by exact Or.inr ⟨by rfl, rfl⟩) hHeld ?_
  simp only [Act.put, List.setIfInBounds_toArray, List.set_cons_zero, List.set_cons_succ]
  refine wpAnyH_take (i := 29) (v := undef) (by simp only [List.getElem?_toArray, List.getElem?_cons_succ, List.getElem?_cons_zero]; rfl) (by kernel_rfl) (by kernel_rfl) (by kernel_rfl) (by exact fun _ _ _ h => h) (by exact Or.inr ⟨by rfl, rfl⟩) hHeld ?_
  simp only [Act.put, List.setIfInBounds_toArray, List.set_cons_zero, List.set_cons_succ]
  refine wpAnyH_take (i := 30) (v := (.bool false)) (by simp only [List.getElem?_toArray, List.getElem?_cons_succ, List.getElem?_cons_zero]; rfl) (by kernel_rfl) (by kernel_rfl) (by kernel_rfl) (by exact fun _ _ _ h => h) (by exact Or.inl ⟨by rfl, by intro wz hwz; go_simp⟩) hHeld ?_
  simp only [Act.put, List.setIfInBounds_toArray, List.set_cons_zero, List.set_cons_succ]
  refine wpAnyH_take (i := 31) (v := (.bool false)) (by simp only [List.getElem?_toArray, List.getElem?_cons_succ, List.getElem?_cons_zero]; rfl) (by kernel_rfl) (by kernel_rfl) (by kernel_rfl) (by exact fun _ _ _ h => h) (by exact Or.inl ⟨by rfl, by intro wz hwz; go_simp⟩) hHeld ?_
  simp only [Act.put, List.setIfInBounds_toArray, List.set_cons_zero, List.set_cons_succ]
  refine wpAnyH_done (by kernel_rfl) ?_ _
  have t5 := Lib.hid hHeld
  clear hHeld
  go_wp2_with fail
  go_roundw
  case rel => exact HN.out _ t5.out
  case measure => simp [intOf]; omega
 | false =>
  rw [hbk] at HU HV
  obtain ⟨ua, uc, rfl⟩ := hsu.form
  obtain ⟨va, vc, rfl⟩ := hsv.form
  obtain ⟨n, hn⟩ : ∃ n, l.length = n := ⟨_, rfl⟩
  rw [hn] at HU HV HQU HQV SS cu cv
  generalize strOfNums l = ZS at *
  have SS2 := Lib.hid (fun w' (hs : Still wr w') => show (w'.cell? ⟨b2, i, none⟩ = some (.slice ua n uc) ∧ w'.cell? ⟨b3, i, none⟩ = some (.slice va n vc)) ∧ (convert 22 9 (.slice ua n uc)).run Tryz.prog w' = .ok (.string ZS) w' ∧ (convert 22 9 (.slice va n vc)).run Tryz.prog w' = .ok (.string ZS) w' from ⟨SS.out w' hs, HQU.out w' hs, HQV.out w' hs⟩)
  clear hu hv hl hlk hsu hsv hp hi hi4 HR hn
  go_upto_region 4 with fail
  go_region_held3 (fun w' => (w'.cell? ⟨b2, i, none⟩ = some (.slice ua n uc) ∧ w'.cell? ⟨b3, i, none⟩ = some (.slice va n vc)) ∧ (convert 22 9 (.slice ua n uc)).run Tryz.prog w' = .ok (.string ZS) w' ∧ (convert 22 9 (.slice va n vc)).run Tryz.prog w' = .ok (.string ZS) w') (first | exact SS2.out _ (still_drew _) | exact SS2.out _ (by assumption)) (first
   | (go_at_call 55; (with_reducible refine (HU.out _ (by first | exact still_drew _ | assumption)).mono ?_); rintro e w5 ⟨rfl, hs5⟩; have t5 : Still wr w5 := stl_trans (by first | exact still_drew _ | assumption) hs5; clear hs5)
   | (go_at_call 55; (with_reducible refine (HV.out _ (by first | exact still_drew _ | assumption)).mono ?_); rintro e w6 ⟨rfl, hs6⟩; have t6 : Still wr w6 := stl_trans (by first | exact still_drew _ | assumption) hs6; clear hs6))
  go_wp2_with fail
  go_roundw
  case rel => exact HN.out _ t5
  case measure => simp [intOf]; omega
end Go.Proofs.YtlcfoeikamkpmaaGreat

namespace Go.Proofs.YtlcfoeikamkpmaaGreat
open Go.RowKit Go.Wh Go.Maps

def cfT : PCf := ⟨0, 4, 10, 10, true⟩
def mkP (L : List Int) (z : Int) : PPg := ⟨madeN L 4, z⟩
theorem mkP_ok (L : List Int) (z : Int) : (mkP L z).ok := by
 refine ⟨rfl, fun l hl => ?_, fun l hl => ?_⟩
 · obtain ⟨o, rfl⟩ := madeN_mem hl
   exact madeL_len o
 · obtain ⟨o, rfl⟩ := madeN_mem hl
   exact madeL_byt o
theorem mkP_all (L : List Int) : ∀ l ∈ madeN L 4, l = [] ∨ (l.length = 26 ∧ Byt l) := fun l hl => by
 obtain ⟨o, rfl⟩ := madeN_mem hl
 exact (madeL_len o).imp id fun e => ⟨e, madeL_byt o⟩
theorem takeT_same {p q : PPg} (h1 : lsnMay p.lsn = true) (h2 : lsnMay q.lsn = true) (he : p.lsn = q.lsn) : (takeT (leafA p) (leafB q)).1 = 0 ∨ (takeT (leafA p) (leafB q)).1 = 4 := by
 unfold lsnMay at h1 h2
 simp only [Bool.and_eq_true, decide_eq_true_eq] at h1 h2
 have hA : numT (leafA p) = p.lsn := numT_be4 h1.1 h1.2 _
 have hB : numT (leafB q) = q.lsn := numT_be4 h2.1 h2.2 _
 unfold takeT
 rw [hA, hB, if_neg (fun e => e he)]
 split
 · exact .inr rfl
 · split
   · exact .inr rfl
   · split
     · exact .inr rfl
     · exact .inl rfl
theorem lay_empty {cf : PCf} {D : PDk} {es : List PE} {st n : Nat} (hn : 0 < n) (k : Int) (f : PFr) :
 ∃ H', PSt.lay cf k f ⟨D, es, st, mkHd PFr.void n⟩ = (0, ⟨D, es, st, H'⟩) ∧ H'.nice ∧ H'.l.length = n ∧ ∀ j, H'.look j = if j = k then some f else none := by
 obtain ⟨h1, h2⟩ := mk_nice PFr.void hn
 obtain ⟨n1, n2, n3⟩ := put_spec h1 PFr.void k f
 rcases n3 with ⟨e, -, hlook⟩ | ⟨-, -, k0, v0, -, -, hv0, -⟩
 · refine ⟨((mkHd PFr.void n).put PFr.void k f).2, ?_, n1, ?_, fun j => ?_⟩
   · unfold PSt.lay
     dsimp only
     rw [e, if_neg (by simp), if_neg (by simp)]
   · rw [n2]
     show (List.replicate _ _).length = n
     rw [List.length_replicate]
   · rw [hlook j, h2 j]
 · rw [h2] at hv0
   cases hv0
structure Tor (D : PDk) (a b : List Int) : Prop where
 dead : D.dead = false
 fst : D.T.getD 2 [] = a
 snd : D.T.getD 3 [] = b
theorem tor_same {D : PDk} {p q : PPg} {es : List PE} {st : Nat} (h : Tor D (leafA p) (leafB q)) (h1 : lsnMay p.lsn = true) (h2 : lsnMay q.lsn = true) (he : p.lsn = q.lsn) :
 (PSt.page cfT 1 ⟨D, es, st, mkHd PFr.void 4⟩).1 = 0 ∨ (PSt.page cfT 1 ⟨D, es, st, mkHd PFr.void 4⟩).1 = 4 := by
 have hlook := (mk_nice PFr.void (n := 4) (by decide)).2 1
 show (PSt.get cfT 1 ⟨D, es, st, mkHd PFr.void 4⟩).1 = 0 ∨ (PSt.get cfT 1 ⟨D, es, st, mkHd PFr.void 4⟩).1 = 4
 unfold PSt.get
 rw [if_neg (by decide)]
 simp only [hlook]
 rw [if_neg (by rw [h.dead]; decide)]
 have ht : takeT (PSt.tile cfT ⟨D, es, st, mkHd PFr.void 4⟩ (2 * 1)) (PSt.tile cfT ⟨D, es, st, mkHd PFr.void 4⟩ (2 * 1 + 1)) = takeT (leafA p) (leafB q) := by
  rw [← h.fst, ← h.snd]
  rfl
 rw [ht]
 rcases takeT_same h1 h2 he with e | e
 · rw [if_neg (by rw [e]; decide)]
   obtain ⟨H', e1, -⟩ := lay_empty (cf := cfT) (D := D) (es := es) (st := st) (n := 4) (by decide) 1 ⟨(takeT (leafA p) (leafB q)).2, false, 0⟩
   rw [e1]
   exact .inl rfl
 · rw [if_pos (by rw [e]; decide)]
   exact .inr e
theorem tor_get {D : PDk} {p q : PPg} {es : List PE} {st : Nat} (h : Tor D (leafA p) (leafB q)) (h1 : lsnMay p.lsn = true) (h2 : lsnMay q.lsn = true) (he : p.lsn ≠ q.lsn) :
 PSt.get cfT 1 ⟨D, es, st, mkHd PFr.void 4⟩ = (3, PFr.void, ⟨D, es, st, mkHd PFr.void 4⟩) := by
 have hlook := (mk_nice PFr.void (n := 4) (by decide)).2 1
 unfold PSt.get
 rw [if_neg (by decide)]
 simp only [hlook]
 rw [if_neg (by rw [h.dead]; decide)]
 have ht : takeT (PSt.tile cfT ⟨D, es, st, mkHd PFr.void 4⟩ (2 * 1)) (PSt.tile cfT ⟨D, es, st, mkHd PFr.void 4⟩ (2 * 1 + 1)) = takeT (leafA p) (leafB q) := by
  rw [← h.fst, ← h.snd]
  rfl
 rw [ht, takeT_torn h1 h2 he, if_pos (by decide)]
theorem tor_page {D : PDk} {p q : PPg} {es : List PE} {st : Nat} (h : Tor D (leafA p) (leafB q)) (h1 : lsnMay p.lsn = true) (h2 : lsnMay q.lsn = true) (he : p.lsn ≠ q.lsn) :
 PSt.page cfT 1 ⟨D, es, st, mkHd PFr.void 4⟩ = (3, PPg.void, ⟨D, es, st, mkHd PFr.void 4⟩) := by
 unfold PSt.page
 rw [tor_get h h1 h2 he]
 rfl
theorem tor_set {D : PDk} {p q : PPg} {es : List PE} {st : Nat} (h : Tor D (leafA p) (leafB q)) (h1 : lsnMay p.lsn = true) (h2 : lsnMay q.lsn = true) (he : p.lsn ≠ q.lsn) :
 PSt.set cfT 1 0 [] 70000 ⟨D, es, st, mkHd PFr.void 4⟩ = (3, ⟨D, es, st, mkHd PFr.void 4⟩) := by
 unfold PSt.set
 rw [tor_get h h1 h2 he, if_pos (show (3 : Int) ≠ 0 by decide)]
theorem tor_lay {D : PDk} {es : List PE} {st : Nat} (L : List Int) : ∃ H', PSt.laid cfT 1 (mkP L 3) 2 ⟨D, es, st, mkHd PFr.void 4⟩ = (0, ⟨D, es, st, H'⟩) ∧ H'.nice ∧ H'.l.length = 4 ∧ ∀ j, H'.look j = if j = 1 then some ⟨mkP L 3, true, 2⟩ else none := by
 have hlook := (mk_nice PFr.void (n := 4) (by decide)).2 1
 have hm : (mkP L 3).may = true := by
  unfold PPg.may
  have h3 : lsnMay (mkP L 3).lsn = true := by
   show lsnMay 3 = true
   decide
  rw [h3, Bool.true_and, List.all_eq_true]
  intro l hl
  rcases (mkP_ok L 3).each l hl with e | e
  · rw [e]; rfl
  · rw [e]; simp
 obtain ⟨H', e1, e2, e3, e4⟩ := lay_empty (cf := cfT) (D := D) (es := es) (st := st) (n := 4) (by decide) 1 ⟨mkP L 3, true, 2⟩
 refine ⟨H', ?_, e2, e3, e4⟩
 unfold PSt.laid
 rw [if_neg (by decide), if_neg (by rw [hm]; decide)]
 simp only [hlook]
 exact e1
theorem tor_again {D : PDk} {es : List PE} {st : Nat} {H : Hd PFr} {f : PFr} (hn : H.nice) (hl : H.look 1 = some f) :
 PSt.page cfT 1 ⟨D, es, st, H⟩ = (0, f.p, ⟨D, es, st, H.touch 1⟩) ∧ (H.touch 1).nice ∧ (H.touch 1).l.length = H.l.length ∧ ∀ j, (H.touch 1).look j = H.look j := by
 obtain ⟨t1, t2, t3⟩ := touch_spec hn 1
 refine ⟨?_, t1, t2, t3⟩
 have hg : PSt.get cfT 1 ⟨D, es, st, H⟩ = (0, f, ⟨D, es, st, H.touch 1⟩) := by
  unfold PSt.get
  rw [if_neg (by decide)]
  simp only [hl]
 unfold PSt.page
 rw [hg]
 rfl
theorem tor_dirty {H : Hd PFr} {p : PPg} (hn : H.nice) (hl : ∀ j, H.look j = if j = 1 then some ⟨p, true, 2⟩ else none) {M : List Drt} (hM : M.Perm (dirtyD H)) (hS : DSorted M) : M = [⟨1, 2⟩] := by
 refine dirty_is hn hM hS (List.pairwise_singleton _ _) fun x => ?_
 rw [List.mem_singleton]
 constructor
 · rintro rfl
   exact ⟨⟨p, true, 2⟩, by rw [hl]; rfl, rfl, rfl⟩
 · rintro ⟨f, h1, h2, h3⟩
   rw [hl] at h1
   split at h1
   · rename_i e
     cases h1
     obtain ⟨a, b⟩ := x
     dsimp only at e h3
     rw [e, h3]
   · cases h1
section
variable {W : World} {c : Nat → Nat} {a b m r : Nat} {w : World} {pb d : Nat} {t : Option Nat} {cf : PCf} {s : PSt}
theorem dt_write (hg : Lg W c w) (h : Dt c a b w d t cf s) (a0 : a ≠ 0) (b0 : b ≠ 0) (ab : a ≠ b) (z : Int) {l : List Int} {x : Value} {R : Nat → Prop} (hx : Sl w R 1 x 64 (bc l)) (hR : ∀ g, R g → c g = 0) (hl : Byt l) (hw : s.D.dead = false) (hp : s.D.plan = none) (h0 : 0 ≤ z) (h1 : z < s.D.T.length) :
 Calls Tryz.prog 14 #[.pointer (some ⟨d, 0, none⟩), .int .i64 z, x] w (fun e w' => e = .returned (.int .i64 0) ∧ ∃ c', Stp (fun i => i = a ∨ i = b) (fun i => i = a) c c' w w' ∧ Lg W c' w' ∧ Dt c' a b w' d t cf { s with D := s.D.laid z.toNat l }) := by
 have hput := put_well (l := l) hw hp h0 h1
 refine (dwrite_any h.dk h.fine h.len z l x hx.reads fun g hg' e => ?_).mono ?_
 · obtain ⟨g', o, c', e', hq, -, -⟩ := hx.pos (by decide)
   cases e'
   have e2 : g' = g := Option.some.inj hg'
   have e3 : c g = a := e
   rw [← e2, hR g' hq] at e3
   exact a0 e3.symm
 · rintro e w' ⟨rfl, k2, k3⟩
   obtain ⟨c', hs, hd⟩ := h.ofPut hl k2 k3 a0 b0 ab
   rw [hput] at hd
   exact ⟨by rw [hput], c', hs, hg.step hs (fun e => by rcases e with e | e; exact a0 e.symm; exact b0 e.symm), hd⟩
theorem px_laid (h : PX W c a b m r w pb d t cf s) (hf : Dif a b m r) (k : Int) {Q : Nat → Prop} {v0 v1 v2 v3 : Value} {g : PPg} (hg : PgIs w Q [v0, v1, v2, v3] g.c) (hby : ∀ l ∈ g.c, Byt l) (rc : Int) {z : Int} (hz : g.lsn = z) {E : Int} {s' : PSt} (he : s.laid cf k g rc = (E, s')) :
 Calls Tryz.prog 18 #[.pointer (some ⟨pb, 0, none⟩), .int .i64 k, .agg #[v0, v1, v2, v3, .int .i64 z], .int .i64 rc] w (PxPost W c a b m r w pb d t cf (.int .i64 E) s') := by
 subst hz
 refine (plaid_any h.dt hf h.po k hg hby rc).mono fun e w' hp => ?_
 rw [he] at hp
 exact px_of h hf hp
end
end Go.Proofs.YtlcfoeikamkpmaaGreat

namespace Go.Proofs.YtlcfoeikamkpmaaGreat
open Go.RowKit Go.Wh Go.Maps

theorem one_pageq {w : World} {Q : Nat → Prop} {v0 v1 v2 v3 : Value} {l : List (List Int)} (h : PgIs w Q [v0, v1, v2, v3] l) (z : Int) : (#[v0, v1, v2, v3, .int .i64 z] : Array Value).toList.all (·.oneCell') = true := by
 have := pg_one h
 rw [List.all_eq_true]
 intro y hy
 simp only [List.mem_cons, List.not_mem_nil, or_false] at hy
 rcases hy with rfl | rfl | rfl | rfl | rfl
 · exact this _ (by simp)
 · exact this _ (by simp)
 · exact this _ (by simp)
 · exact this _ (by simp)
 · rfl
theorem lsn16 {x : Int} (h0 : 0 ≤ x) (h1 : x ≤ 65535) : lsnMay x = true := by
 unfold lsnMay
 simp only [Bool.and_eq_true, decide_eq_true_eq]
 omega
theorem tor_new {a b : List Int} : Tor (((newD 20).laid 2 a).laid 3 b) a b := by
 refine ⟨rfl, ?_, ?_⟩
 · show (((newD 20).T.set 2 a).set 3 b).getD 2 [] = a
   rw [List.getD_eq_getElem?_getD, List.getElem?_set_ne (by decide), List.getElem?_set_self (by rw [newD_len]; decide)]
   rfl
 · show (((newD 20).T.set 2 a).set 3 b).getD 3 [] = b
   rw [List.getD_eq_getElem?_getD, List.getElem?_set_self (by rw [List.length_set, newD_len]; decide)]
   rfl
set_option maxHeartbeats 16000000 in
set_option maxRecDepth 100000 in
theorem torn_walk (W : World) (xa : Option Addr) (m xc : Nat) (L : List Int) (ya : Option Addr) (k yc : Nat) (K : List Int) (x y : Int) (hl : Sl W (fun g => g < W.heap.size) 1 (.slice xa m xc) m (bc L) ∧ Byt L) (hk : Sl W (fun g => g < W.heap.size) 1 (.slice ya k yc) k (bc K) ∧ Byt K) (hx : 0 ≤ x ∧ x ≤ 65535) (hy : 0 ≤ y ∧ y ≤ 65535) :
 Calls Tryz.prog 3 #[.slice xa m xc, .slice ya k yc, .int .u16 x, .int .u16 y] W (BTrue W) := by
 have HBG := Lib.hid (begun_any W)
 have HL := Lib.hid hl
 have HK := Lib.hid hk
 have HX := Lib.hid (And.intro hx hy)
 clear hl hk
 by_cases hbad : 4 < m
 · have b1 : decide ((4 : Int) < (m : Int)) = true := decide_eq_true (by omega)
   have b2 : decide (4 < m) = true := decide_eq_true hbad
   clear hbad hx hy
   go_enter Tryz.func3, Tryz.ntmps3
   go_wp2_with fail
   refine HBG.out.mono ?_
   rintro en w1 ⟨rfl, hs1⟩
   have F := Lib.hid (show BTrue W (.returned (.bool true)) w1 from ⟨rfl, hs1⟩)
   clear hs1 HBG
   go_wp2_with fail
   go_ret
   exact F.out
 have b1 : decide ((4 : Int) < (m : Int)) = false := decide_eq_false (by omega)
 have b2 : decide (4 < m) = false := decide_eq_false hbad
 clear hbad
 by_cases hbad : 4 < k
 · have b3 : decide ((4 : Int) < (k : Int)) = true := decide_eq_true (by omega)
   have b4 : decide (4 < k) = true := decide_eq_true hbad
   clear hbad hx hy
   go_enter Tryz.func3, Tryz.ntmps3
   go_wp2_with fail
   refine HBG.out.mono ?_
   rintro en w1 ⟨rfl, hs1⟩
   have F := Lib.hid (show BTrue W (.returned (.bool true)) w1 from ⟨rfl, hs1⟩)
   clear hs1 HBG
   go_wp2_with fail
   go_ret
   exact F.out
 have b3 : decide ((4 : Int) < (k : Int)) = false := decide_eq_false (by omega)
 have b4 : decide (4 < k) = false := decide_eq_false hbad
 clear hbad
 have wx : IntKind.i64.wrap x = x := IntWalk.i64_in _ (by omega)
 have wy : IntKind.i64.wrap y = y := IntWalk.i64_in _ (by omega)
 clear hx hy
 go_enter Tryz.func3, Tryz.ntmps3
 go_wp2_with fail
 refine HBG.out.mono ?_
 rintro en w1 ⟨rfl, hs1⟩
 have L1 := Lg.start hs1
 have HN := Lib.hid (dnew_any L1.low 1 (fun _ e => by cases e) 20 (by decide) rfl)
 have H1 := Lib.hid L1
 clear hs1 L1 HBG
 go_wp2_with fail
 refine HN.out.mono ?_
 rintro en w2 ⟨d, c2, rfl, hs2, hd2⟩
 have L2 := H1.out.step hs2 fun e => e
 have n2 := Lg.none (j := 2) hs2 H1.out.low (fun _ e => by cases e) (fun e => by cases e) (by decide)
 have n3 := Lg.none (j := 3) hs2 H1.out.low (fun _ e => by cases e) (fun e => by cases e) (by decide)
 have HO := Lib.hid (dopen_new (b := 2) (m := 20) (at_ := 10) (n := 10) L2.low hd2 (by decide) (by decide) n2 (by decide) (by decide) (by decide) rfl rfl)
 have H2 := Lib.hid (And.intro L2 n3)
 clear hs2 hd2 L2 n2 n3 HN H1
 go_wp2_with fail
 refine HO.out.mono ?_
 rintro en w3 ⟨t, la, lc, c3, rfl, hs3, hd3, ht3⟩
 have L3 := H2.out.1.step hs3 fun e => by cases e
 have m3 := Lg.none (j := 3) hs3 H2.out.1.low H2.out.2 (by rintro (e | e) <;> cases e) (by decide)
 have hD3 : Dt c3 1 2 w3 d (some t) cfT ⟨newD 20, [], 0, mkHd PFr.void 1⟩ := ⟨L3.low, hd3, fun t' e => (by cases e; exact ht3), rfl, newD_fine 20, newD_byt 20, by decide, fun _ => ⟨by decide, by decide⟩, by decide⟩
 have H3 := Lib.hid (And.intro L3 (And.intro hD3 m3))
 have HMD := Lib.hid (fun w' (hs : Still w3 w') => made_any w' (.slice xa m xc) m L x ((HL.out.1.still L3.still).still hs) HL.out.2)
 have HMK := Lib.hid (fun w' (hs : Still w3 w') => made_any w' (.slice ya k yc) k K y ((HK.out.1.still L3.still).still hs) HK.out.2)
 clear hs3 hd3 ht3 L3 hD3 m3 HO H2
 go_wp2_with fail
 refine (HMD.out w3 (Still.refl _)).mono ?_
 rintro en w4 ⟨u0, u1, u2, u3, rfl, hp4, hs4⟩
 have HLF := Lib.hid (rleaf_ok w4 u0 u1 u2 u3 (mkP L x) rfl hp4 (mkP_ok L x) (lsn16 HX.out.1.1 HX.out.1.2))
 have H4 := Lib.hid hs4
 clear hp4 hs4 HMD
 go_wp2_with fail
 refine HLF.out.mono ?_
 rintro en w5 ⟨av, av2, rfl, ha5, -, ca5, -, hs5⟩
 have H5 := Lib.hid (And.intro (H4.out.trans hs5) (And.intro (ha5.mono fun g e => by have e' : w4.heap.size ≤ g ∧ g < w5.heap.size := e; have := H4.out.size; exact (show w3.heap.size ≤ g ∧ g < w5.heap.size from by omega)) ca5))
 clear ha5 ca5 hs5 HLF
 go_wp2_with fail
 refine (HMK.out w5 H5.out.1).mono ?_
 rintro en w6 ⟨y0, y1, y2, y3, rfl, hp6, hs6⟩
 have HLF := Lib.hid (rleaf_ok w6 y0 y1 y2 y3 (mkP K y) rfl hp6 (mkP_ok K y) (lsn16 HX.out.2.1 HX.out.2.2))
 have H6 := Lib.hid (H5.out.1.trans hs6)
 have HS6 := Lib.hid hs6
 clear hp6 hs6 HMK
 go_wp2_with fail
 refine HLF.out.mono ?_
 rintro en w7 ⟨bv0, bv, rfl, -, hb7, -, cb7, hs7⟩
 obtain ⟨R, hmine⟩ : ∃ R, R = fun g => w3.heap.size ≤ g ∧ g < w7.heap.size := ⟨_, rfl⟩
 have hz5 := H5.out.1.size
 have hz6 := H6.out.size
 have hz67 := hs7.size
 have hz56 := HS6.out.size
 have HA := Lib.hid (show Sl w7 R 1 av 64 (bc (leafA (mkP L x))) from by
  rw [hmine]
  exact ((H5.out.2.1.still HS6.out).still hs7).mono fun g e => by have e' : w3.heap.size ≤ g ∧ g < w5.heap.size := e; exact (show w3.heap.size ≤ g ∧ g < w7.heap.size from by omega))
 have HBV := Lib.hid (show Sl w7 R 1 bv 64 (bc (leafB (mkP K y))) from by
  rw [hmine]
  exact hb7.mono fun g e => by have e' : w6.heap.size ≤ g ∧ g < w7.heap.size := e; exact (show w3.heap.size ≤ g ∧ g < w7.heap.size from by omega))
 have hcz : ∀ g, R g → c3 g = 0 ∧ g < w7.heap.size := fun g e => by
  rw [hmine] at e
  have e' : w3.heap.size ≤ g ∧ g < w7.heap.size := e
  exact ⟨Classical.byContradiction fun h => by have := H3.out.1.low g h; omega, e'.2⟩
 have hs37 : Still w3 w7 := H6.out.trans hs7
 have L7 := H3.out.1.calm hs37
 have HW := Lib.hid (dt_write L7 (H3.out.2.1.still hs37 (by decide) (by decide)) (by decide) (by decide) (by decide) 2 HA.out (fun g e => (hcz g e).1) (leafA_byt (mkP_ok L x)) rfl rfl (by decide) (by show (2 : Int) < ((newD 20).T.length : Int); rw [newD_len]; decide))
 have H7 := Lib.hid (And.intro hcz L7.low)
 clear hmine hz5 hz6 hz67 hz56 hcz hs37 L7 hb7 cb7 hs7 HLF H4 H5 H6 HS6 HA
 go_wp2_with fail
 refine HW.out.mono ?_
 rintro en w8 ⟨rfl, c8, hs8, L8, hd8⟩
 have hcz8 : ∀ g, R g → c8 g = 0 := fun g e => (hs8.old g (H7.out.1 g e).2).trans (H7.out.1 g e).1
 have hb8 : Sl w8 R 1 bv 64 (bc (leafB (mkP K y))) := HBV.out.only hs8.only fun g hg e => by
  rw [(H7.out.1 g hg).1] at e
  rcases e with e | e <;> cases e
 have n8 := Lg.none (j := 3) hs8 H7.out.2 H3.out.2.2 (fun e => by cases e) (by decide)
 have HW2 := Lib.hid (dt_write L8 hd8 (by decide) (by decide) (by decide) 3 hb8 hcz8 (leafB_byt (mkP_ok K y)) rfl rfl (by decide) (by show (3 : Int) < (((newD 20).T.set 2 _).length : Int); rw [List.length_set, newD_len]; decide))
 have H8 := Lib.hid (And.intro L8 n8)
 clear hs8 L8 hd8 hcz8 hb8 n8 HW HBV H7 H3
 go_wp2_with fail
 refine HW2.out.mono ?_
 rintro en w9 ⟨rfl, c9, hs9, L9, hd9⟩
 have HTN := Lib.hid (tor_new (a := leafA (mkP L x)) (b := leafB (mkP K y)))
 obtain ⟨D9, hD9⟩ : ∃ D, ((newD 20).laid 2 (leafA (mkP L x))).laid 3 (leafB (mkP K y)) = D := ⟨_, rfl⟩
 have hd9 : Dt c9 1 2 w9 d (some t) cfT ⟨((newD 20).laid 2 (leafA (mkP L x))).laid 3 (leafB (mkP K y)), [], 0, mkHd PFr.void 1⟩ := hd9
 rw [hD9] at HTN hd9
 have HNP := Lib.hid (px_new (m := 3) (r := 4) L9 hd9 dif1 4 4 (by decide) rfl rfl)
 have HCN := Lib.hid (fun w tt => cellsAt_new w [.slice none 0 0, .slice none 0 0, .slice none 0 0, .slice none 0 0, .int .i64 0] tt)
 clear hs9 L9 hd9 hD9 HW2 H8
 go_wp2_with fail
 refine HNP.out.mono ?_
 rintro en wa ⟨pb, ca, rfl, -, hxa⟩
 have HXA := Lib.hid (show PX W ca 1 2 3 4 wa pb d (some t) cfT ⟨D9, [], 0, mkHd PFr.void 4⟩ from hxa)
 clear hxa HNP
 by_cases hxy : x = y
 · have q0 : (x == y) = true := by rw [hxy]; simp
   have q1 : decide (x = y) = true := decide_eq_true hxy
   have HE := Lib.hid (tor_same (es := []) (st := 0) HTN.out (lsn16 HX.out.1.1 HX.out.1.2) (lsn16 HX.out.2.1 HX.out.2.2) (show (mkP L x).lsn = (mkP K y).lsn from hxy))
   have HPG := Lib.hid (px_page HXA.out dif1 1 (E := (PSt.page cfT 1 ⟨D9, [], 0, mkHd PFr.void 4⟩).1) (p := (PSt.page cfT 1 ⟨D9, [], 0, mkHd PFr.void 4⟩).2.1) (s' := (PSt.page cfT 1 ⟨D9, [], 0, mkHd PFr.void 4⟩).2.2) rfl)
   generalize PSt.page cfT 1 ⟨D9, [], 0, mkHd PFr.void 4⟩ = r at *
   obtain ⟨E, pg, s'⟩ := r
   dsimp only at HPG HE
   go_wp2_with fail
   refine HPG.out.mono ?_
   rintro en wb ⟨v0, v1, v2, v3, cb, rfl, hsb, hxb, hpb⟩
   obtain ⟨z, hz⟩ : ∃ z, pg.lsn = z := ⟨_, rfl⟩
   rw [hz]
   have HONE := Lib.hid (one_pageq hpb z)
   have HSB := Lib.hid hxb.lg.still
   clear hsb hxb hpb hz HPG hxy
   go_upto_region 13 with ((with_reducible (show wpList _ _ _ ({ dst := none, op := Op.store 36 _ _, type := _, pos := _, after := _, guard := _ } :: _) _ _)); (refine wpList_storeAgg rfl 36 _ _ rfl wb.heap.size #[v0, v1, v2, v3, .int .i64 z] rfl rfl (HCN.out _ _) size_page rfl HONE.out ?_; intro wd hcf hof hzf; have HD := Lib.hid (And.intro hcf (And.intro hof hzf)); clear hcf hof hzf))
   have F := Lib.hid (show BTrue W (.returned (.bool true)) wd from ⟨rfl, (HSB.out.alloc _).andThen HD.out.2.1 fun x hx e => by have e' : x = wb.heap.size := e; have := HSB.out.size; omega⟩)
   have he := HE.out
   clear HE
   rcases he with he | he
   · have he' : E = 0 := he
     subst he'
     clear he
     go_wp2_with fail
     go_ret
     exact F.out
   · have he' : E = 4 := he
     subst he'
     clear he
     go_wp2_with fail
     go_ret
     exact F.out
 have q0 : (x == y) = false := by simpa using hxy
 have q1 : decide (x = y) = false := decide_eq_false hxy
 have HXY := Lib.hid (show (mkP L x).lsn ≠ (mkP K y).lsn from hxy)
 have HPG := Lib.hid (px_page HXA.out dif1 1 (tor_page HTN.out (lsn16 HX.out.1.1 HX.out.1.2) (lsn16 HX.out.2.1 HX.out.2.2) HXY.out))
 clear hxy
 go_wp2_with fail
 refine HPG.out.mono ?_
 rintro en wb ⟨v0, v1, v2, v3, cb, rfl, hsb, hxb, hpb⟩
 have HONE := Lib.hid (one_pageq hpb PPg.void.lsn)
 have HXB := Lib.hid hxb
 clear hsb hxb hpb HPG HXA
 go_upto_region 13 with ((with_reducible (show wpList _ _ _ ({ dst := none, op := Op.store 36 _ _, type := _, pos := _, after := _, guard := _ } :: _) _ _)); (refine wpList_storeAgg rfl 36 _ _ rfl wb.heap.size #[v0, v1, v2, v3, .int .i64 PPg.void.lsn] rfl rfl (HCN.out _ _) size_page rfl HONE.out ?_; intro wd hcf hof hzf; have HD := Lib.hid (And.intro hcf (And.intro hof hzf)); clear hcf hof hzf))
 have hsd : Still wb wd := ((Still.refl wb).alloc _).andThen HD.out.2.1 fun x hx e => by have e' : x = wb.heap.size := e; omega
 have HST := Lib.hid (px_set (HXB.out.calm dif1 hsd) dif1 1 0 (R := fun _ => False) (x := .slice none 0 0) (bl := []) Sl.nil (fun g e => e.elim) (fun z hz => by cases hz) 70000 (tor_set HTN.out (lsn16 HX.out.1.1 HX.out.1.2) (lsn16 HX.out.2.1 HX.out.2.2) HXY.out))
 clear hsd HD HONE
 go_wp2_with fail
 refine HST.out.mono ?_
 rintro en we ⟨rfl, ce, hse, hxe⟩
 have HXE := Lib.hid hxe
 have HMD := Lib.hid (fun w' (hs : Still W w') => made_any w' (.slice xa m xc) m L 3 (HL.out.1.still hs) HL.out.2)
 obtain ⟨H1', l1, l2, l3, l4⟩ := tor_lay (D := D9) (es := []) (st := 0) L
 have HLY := Lib.hid (And.intro l1 (And.intro l2 (And.intro l3 l4)))
 clear hse hxe HST l1 l2 l3 l4 HXB
 go_wp2_with fail
 refine (HMD.out we HXE.out.lg.still).mono ?_
 rintro en wf ⟨u0, u1, u2, u3, rfl, hpf, hsf⟩
 have HLD := Lib.hid (px_laid (HXE.out.calm dif1 hsf) dif1 1 (g := mkP L 3) hpf (mkP_ok L 3).byt 2 rfl HLY.out.1)
 clear hpf hsf HXE
 go_wp2_with fail
 refine HLD.out.mono ?_
 rintro en wg ⟨rfl, cg, hsg, hxg⟩
 obtain ⟨p1, p2, p3, p4⟩ := tor_again (D := D9) (es := []) (st := 0) HLY.out.2.1 (HLY.out.2.2.2 1)
 have HPA := Lib.hid (px_page hxg dif1 1 p1)
 have HPB := Lib.hid (And.intro p2 (And.intro p3 p4))
 clear hsg hxg p1 p2 p3 p4 HLD
 go_wp2_with fail
 refine HPA.out.mono ?_
 rintro en wh ⟨x0, x1, x2, x3, ch, rfl, hsh, hxh, hph⟩
 have hph : PgIs wh (fun g => ch g = 0 ∧ wg.heap.size ≤ g) [x0, x1, x2, x3] (madeN L 4) := hph
 have HONE2 := Lib.hid (show (#[x0, x1, x2, x3, .int .i64 3] : Array Value).toList.all (·.oneCell') = true from one_pageq hph 3)
 have HXH := Lib.hid (And.intro hxh hph)
 clear hsh hxh hph HPA
 go_upto_region 18 with ((with_reducible (show wpList _ _ _ ({ dst := none, op := Op.store 36 _ _, type := _, pos := _, after := _, guard := _ } :: _) _ _)); (refine wpList_storeAgg rfl 36 _ _ rfl wh.heap.size #[x0, x1, x2, x3, .int .i64 3] rfl rfl (HCN.out _ _) size_page rfl HONE2.out ?_; intro wi hcf hof hzf; have HI := Lib.hid (And.intro hcf (And.intro hof hzf)); clear hcf hof hzf))
 have hsi : Still wh wi := ((Still.refl wh).alloc _).andThen HI.out.2.1 fun x hx e => by have e' : x = wh.heap.size := e; omega
 have hxi := HXH.out.1.calm dif1 hsi
 have HDY := Lib.hid (px_dirty hxi dif1 (by show (H1'.touch 1).l.length ≤ 12; rw [HPB.out.2.1, HLY.out.2.2.1]; decide))
 have HXI := Lib.hid (And.intro hxi.lg.still (HXH.out.2.still hsi))
 clear hsi hxi
 go_wp2_with fail
 refine HDY.out.mono ?_
 rintro en wj ⟨dv, M, rfl, hM, hS, hdv, hsj, hgd⟩
 have hM1 : M = [⟨1, 2⟩] := tor_dirty HPB.out.1 (p := mkP L 3) (fun j => by rw [HPB.out.2.2 j, HLY.out.2.2.2 j]) hM hS
 subst hM1
 obtain ⟨da, dc, rfl⟩ := hdv.form'
 have hdv : Vec wj 2 (.slice da 1 dc) 1 [.int .i64 1, .int .i64 2] := hdv
 have hds := Vec.sl (Q := fun _ => True) hdv fun g hg => ⟨trivial, (hgd g hg).2⟩
 obtain ⟨g, o', cc, he, -, -, hcs⟩ := hds.pos (by decide)
 cases he
 have HC := Lib.hid (fun w' (hs : Still wj w') => show w'.cell? ⟨g, o', none⟩ = some (.int .i64 1) ∧ w'.cell? ⟨g, o' + 1, none⟩ = some (.int .i64 2) ∧ cellsAt w' wh.heap.size [x0, x1, x2, x3, .int .i64 3] from
  ⟨Still.cell hs (hcs 0 _ rfl), Still.cell hs (hcs 1 _ rfl), (HI.out.1.only hsj fun e => e).only hs fun e => e⟩)
 have HSJ := Lib.hid (And.intro (HXI.out.1.trans hsj) (HXI.out.2.still hsj))
 have HSP := Lib.hid (fun w' (hs : Still wj w') (u0 u1 u2 u3 : Value) (Q : Nat → Prop) (hu : PgIs w' Q [u0, u1, u2, u3] (madeN L 4)) => samepage_all w' x0 x1 x2 x3 u0 u1 u2 u3 (madeN L 4) 3 (HSJ.out.2.still hs) hu (mkP_all L))
 clear hM hS hdv hds hcs hsj hgd HDY
 go_upto_region 19 with fail
 have HSC := Lib.hid (fun w' (hs : Still wj w') => show (w'.cell? ⟨wh.heap.size, 0, none⟩ = some x0 ∧ w'.cell? ⟨wh.heap.size, 1, none⟩ = some x1 ∧ w'.cell? ⟨wh.heap.size, 2, none⟩ = some x2 ∧ w'.cell? ⟨wh.heap.size, 3, none⟩ = some x3 ∧ w'.cell? ⟨wh.heap.size, 4, none⟩ = some (.int .i64 3)) ∧ w'.cell? ⟨g, o', none⟩ = some (.int .i64 1) ∧ w'.cell? ⟨g, o' + 1, none⟩ = some (.int .i64 2) from
  ⟨⟨(HC.out w' hs).2.2.cell 0, (HC.out w' hs).2.2.cell 1, (HC.out w' hs).2.2.cell 2, (HC.out w' hs).2.2.cell 3, (HC.out w' hs).2.2.cell 4⟩, (HC.out w' hs).1, (HC.out w' hs).2.1⟩)
 go_region_held3 (fun w' => (w'.cell? ⟨wh.heap.size, 0, none⟩ = some x0 ∧ w'.cell? ⟨wh.heap.size, 1, none⟩ = some x1 ∧ w'.cell? ⟨wh.heap.size, 2, none⟩ = some x2 ∧ w'.cell? ⟨wh.heap.size, 3, none⟩ = some x3 ∧ w'.cell? ⟨wh.heap.size, 4, none⟩ = some (.int .i64 3)) ∧ w'.cell? ⟨g, o', none⟩ = some (.int .i64 1) ∧ w'.cell? ⟨g, o' + 1, none⟩ = some (.int .i64 2)) (first | exact HSC.out _ (still_drew _) | exact HSC.out _ (by assumption)) (first
  | (go_at_call 13; (with_reducible refine (HMD.out _ (HSJ.out.1.trans (still_drew _))).mono ?_); rintro en wk ⟨u0, u1, u2, u3, rfl, hpk, hsk⟩; have t5 : Still wj wk := stl_trans (still_drew _) hsk; have HPK := Lib.hid hpk; clear hpk hsk)
  | (go_at_call 20; (with_reducible refine (HSP.out _ t5 _ _ _ _ _ HPK.out).mono ?_); rintro en wl ⟨rfl, hsl⟩; have t6 : Still wj wl := stl_trans t5 hsl; clear hsl))
 have F := Lib.hid (show BTrue W (.returned (.bool true)) wl from ⟨rfl, HSJ.out.1.trans t6⟩)
 clear t5 t6
 go_wp2_with fail
 go_ret
 exact F.out
end Go.Proofs.YtlcfoeikamkpmaaGreat

namespace Go.Proofs.YtlcfoeikamkpmaaGreat
open Go.RowKit Go.Wh Go.ChangeShapes Go.WideShapes Go.Deep

theorem choose_rw {α : Type} {P : Nat → α → Prop} {m : Nat} (hm : 0 < m) (h : ∀ i, i < m → ∃ a, P i a) : ∃ A : Nat → α, ∀ i, i < m → P i (A i) := by
 obtain ⟨a0, -⟩ := h 0 hm
 have key : ∀ i, ∃ a, i < m → P i a := fun i => by
  by_cases hi : i < m
  · obtain ⟨a, ha⟩ := h i hi
    exact ⟨a, fun _ => ha⟩
  · exact ⟨a0, fun e => absurd e hi⟩
 exact ⟨fun i => (key i).choose, fun i hi => (key i).choose_spec hi⟩
section
variable {H : Type} {enc : TypeId × Value → H}
theorem open_sls {P : Program} {W : World} {t e : TypeId} {sz : Nat} {fuel : Nat} {cs : List Value} {x : DataW H × List MemPlace} (ht : P.underlying t = some (.slice e)) (hsz : P.cellsOf e = sz) (hs0 : 0 < sz) (h : DataW.trod enc P W 0 (fun _ => true) true fuel t cs = some x)
 {α : Type} (f : α → List Value) (hfl : ∀ a, (f a).length = sz) (R : α → Prop) (hf : ∀ n cs' y, cs'.length = sz → DataW.trod enc P W 0 (fun _ => true) true n e cs' = some y → ∃ a, cs' = f a ∧ R a) :
 ∃ (dv : Value) (m : Nat) (l : List α), cs = [dv] ∧ Sl W (fun g => g < W.heap.size) sz dv m (l.flatMap f) ∧ l.length = m ∧ (∀ a ∈ l, R a) ∧ Cap m dv := by
 rcases open_slice ht h with ⟨rfl, -⟩ | ⟨a, len, cap, m, n, D, Pl, rfl, -, hle, -, hm, -, hcell⟩
 · exact ⟨_, 0, [], rfl, Sl.nil, rfl, (fun a ha => by cases ha), ⟨_, _, rfl, Nat.le_refl _⟩⟩
 simp only [if_true] at hm
 subst hm
 rcases Nat.eq_zero_or_pos len with h0 | h0
 · subst h0
   exact ⟨_, 0, [], rfl, Sl.empty (fun e => by cases e), rfl, (fun a ha => by cases ha), ⟨_, _, rfl, Nat.zero_le _⟩⟩
 obtain ⟨b, off, spot⟩ := a
 have hspot : spot = none := by
  obtain ⟨cs0, hc0, _⟩ := hcell 0 (by omega)
  rw [hsz] at hc0
  obtain ⟨_, hlen0, hat0⟩ := World.cells?_some hc0
  have g := hat0 0 (by omega)
  rw [List.getElem?_eq_getElem (by omega)] at g
  have := World.cell?_spot g
  simpa [Addr.add] using this
 subst hspot
 have hadd : ∀ j, (⟨b, off, none⟩ : Addr).add j = ⟨b, off + j, none⟩ := fun j => by unfold Addr.add; split <;> simp_all
 have hel : ∀ i, i < len → ∃ a : α, (∀ r, r < sz → W.cell? ⟨b, off + i * sz + r, none⟩ = (f a)[r]?) ∧ R a := fun i hi => by
  obtain ⟨cs', hc, htr⟩ := hcell i (by omega)
  rw [hsz] at hc
  obtain ⟨_, hlen, hat⟩ := World.cells?_some hc
  obtain ⟨a, rfl, hr⟩ := hf n cs' _ hlen htr
  refine ⟨a, fun r hr => ?_, hr⟩
  have := hat r (by omega)
  rw [hadd] at this
  rw [← this]
  unfold Addr.add
  split <;> simp_all
 obtain ⟨A, hA⟩ := choose_rw h0 hel
 have hb : b < W.heap.size := by
  have h1 := (hA 0 h0).1 0 hs0
  rw [List.getElem?_eq_getElem (by rw [hfl]; exact hs0)] at h1
  exact lt_of_cell h1
 refine ⟨_, len, (List.range len).map A, rfl, ⟨by rw [flat_len hfl]; simp, .inr ⟨b, off, _, rfl, fun _ => ⟨hb, hb⟩, fun j u hj => ?_⟩⟩, by simp, fun a ha => ?_, ⟨_, _, rfl, hle⟩⟩
 · have hjl := (List.getElem?_eq_some_iff.1 hj).1
   rw [flat_len hfl] at hjl
   simp only [List.length_map, List.length_range] at hjl
   have hq : j / sz < len := Nat.div_lt_of_lt_mul (by rw [Nat.mul_comm]; exact hjl)
   have hr : j % sz < sz := Nat.mod_lt _ hs0
   have hjd : j / sz * sz + j % sz = j := by rw [Nat.mul_comm]; exact Nat.div_add_mod j sz
   have h1 := (hA (j / sz) hq).1 (j % sz) hr
   rw [Nat.add_assoc, hjd] at h1
   rw [h1, ← hj]
   have h2 := flat_get hfl ((List.range len).map A) (j / sz) (j % sz) (A (j / sz)) (by rw [List.getElem?_map, List.getElem?_range hq]; rfl) hr
   rw [hjd] at h2
   exact h2.symm
 · obtain ⟨i, hi, rfl⟩ := List.mem_map.1 ha
   exact (hA i (List.mem_range.1 hi)).2
variable {W : World} {fuel : Nat} {cs : List Value} {x : DataW H × List MemPlace}
theorem ks_int : Tryz.prog.cellsOf 3 = 1 := by kernel_rfl
theorem ks_u8 : Tryz.prog.cellsOf 5 = 1 := by kernel_rfl
theorem flat_bcs : ∀ l : List Int, l.flatMap (fun z => [Value.int .u8 z]) = bc l
 | [] => rfl
 | a :: l => by
  rw [List.flatMap_cons, flat_bcs l]
  rfl
set_option maxRecDepth 100000 in
theorem open_b8 {base : Nat} {v : Value} {d : DataW H} {p : List MemPlace} (hval : Value.okWide Tryz.prog W .any base 22 v) (h : DataW.Trod enc Tryz.prog W 0 (fun _ => true) true 22 v d p) :
 ∃ (a : Option Addr) (m c : Nat) (l : List Int), v = .slice a m c ∧ Sl W (fun g => g < W.heap.size) 1 v m (bc l) ∧ l.length = m ∧ Byt l := by
 obtain ⟨a0, len0, cap0, rfl⟩ := okWide_slice Tryz.underlying22 hval
 obtain ⟨fuel, hf⟩ := h
 obtain ⟨dv, m, l, h1, h2, h3, h4, h5⟩ := open_sls (α := Int) Tryz.underlying22 ks_u8 (by decide) hf (fun z => [.int .u8 z]) (fun _ => rfl) (fun z => 0 ≤ z ∧ z ≤ 255) (fun n cs' y _ ht => by
  obtain ⟨z, e, _, hw⟩ := DataW.trod_int Tryz.underlying5 ht
  have := byte_wf hw
  exact ⟨z, e, by omega, by omega⟩)
 rw [flat_bcs] at h2
 have h1' : Value.slice a0 len0 cap0 = dv := by
  have : [Value.slice a0 len0 cap0] = [dv] := h1
  exact (List.cons.inj this).1
 obtain ⟨a, c, e⟩ := h2.form
 rw [← h1'] at e h2
 have e2 : len0 = m := (Value.slice.inj e).2.1
 subst e2
 exact ⟨a0, _, cap0, l, rfl, h2, h3, h4⟩
end
end Go.Proofs.YtlcfoeikamkpmaaGreat

namespace Go.Proofs.YtlcfoeikamkpmaaGreat
open Go.RowKit Go.Wh Go.ChangeShapes Go.WideShapes Go.ChangeAt

theorem torOwn : ownKnob Tryz.prog.godebug = none := by kernel_rfl
theorem torLaid : laidOutB Tryz.prog = true := by kernel_rfl
theorem trodAll_four' {H : Type} {enc : TypeId × Value → H} {P : Program} {w : World} {base : Nat} {spare : Nat → Bool} {held : Bool} {t t' t2 t3 : TypeId} {args : Array Value} {ds : List (DataW H)} {ps : List MemPlace} (h : DataW.TrodAll enc P w base spare held [t, t', t2, t3] args.toList ds ps) :
 ∃ v v' v2 v3 d d' d2 d3 p p' p2 p3, args = #[v, v', v2, v3] ∧ ds = [d, d', d2, d3] ∧ ps = p ++ (p' ++ (p2 ++ p3)) ∧ DataW.Trod enc P w base spare held t v d p ∧ DataW.Trod enc P w base spare held t' v' d' p' ∧ DataW.Trod enc P w base spare held t2 v2 d2 p2 ∧ DataW.Trod enc P w base spare held t3 v3 d3 p3 := by
 obtain ⟨v, vs, d, ds', p, q, hargs, rfl, rfl, hd, hrest⟩ := trodAll_cons h
 obtain ⟨v', vs', d', ds'', p', q', rfl, rfl, rfl, hd', hrest'⟩ := trodAll_cons hrest
 obtain ⟨v2, vs2, d2, ds2, p2, q2, rfl, rfl, rfl, hd2, hrest2⟩ := trodAll_cons hrest'
 obtain ⟨v3, vs3, d3, ds3, p3, q3, rfl, rfl, rfl, hd3, hrest3⟩ := trodAll_cons hrest2
 obtain ⟨rfl, rfl, rfl⟩ := trodAll_nil hrest3
 exact ⟨v, v', v2, v3, d, d', d2, d3, p, p', p2, p3, by cases args; simp_all, rfl, by simp, hd, hd', hd2, hd3⟩
theorem u16_wf {z : Int} (h : (Lit.int .u16 z).wf = true) : 0 ≤ z ∧ z ≤ 65535 := by
 have e1 : IntKind.u16.min = 0 := by decide
 have e2 : IntKind.u16.max = 65535 := by decide
 simp only [Lit.wf, e1, e2, Bool.and_eq_true, decide_eq_true_eq] at h
 omega
set_option maxRecDepth 100000 in
theorem poolTorn_lifted (os : Os) (started : os.Started) (H : Type) (enc : TypeId × Value → H) :
 ReturnsInHanded {} Tryz.checked os 3 .any (Rows.poolTornSpec.pre6 enc Tryz.prog Tryz.f3 Rows.poolTornRow.domain false) (Rows.poolTornSpec.post enc Tryz.prog Tryz.f3 false true false false) := by
 refine returnsInHanded_of_change (C := Tryz.checked) torOwn started (by kernel_rfl) Tryz.func3
  (ChangeSpec.witness6 (enc := enc) (C := Tryz.checked) false ⟨#[], #[.slice none 0 0, .slice none 0 0, .int .u16 0, .int .u16 0], []⟩ 8 (by kernel_rfl) (by kernel_rfl) (by kernel_rfl) (by kernel_rfl)) ?_
 intro W base args ds gs before hval0 hW hcnd _
 have hval : ∀ (j : Nat) t v, Tryz.f3.params[j]? = some t → args[j]? = some v → Value.okWide Tryz.prog W .any base t v := hval0
 have hW' := hW
 obtain ⟨p, q, hA0, hV, rfl, hfz, hnd⟩ := hW
 have hA : DataW.TrodAll enc Tryz.prog W 0 (fun _ => true) true Tryz.f3.params.toList args.toList ds p := hA0
 rw [Tryz.params3] at hA hval
 obtain ⟨v0, v1, v2, v3, d0, d1, d2, d3, p0, p1, p2, p3, rfl, rfl, rfl, h0, h1, h2, h3⟩ := trodAll_four' hA
 obtain ⟨a0, m0, c0, L, rfl, s0, l0, y0⟩ := open_b8 (hval 0 22 v0 rfl rfl) h0
 obtain ⟨a1, m1, c1, K, rfl, s1, l1, y1⟩ := open_b8 (hval 1 22 v1 rfl rfl) h1
 obtain ⟨n2, rfl, rfl, rfl, w2⟩ := open_int Tryz.underlying23 (hval 2 23 v2 rfl rfl) h2
 obtain ⟨n3, rfl, rfl, rfl, w3⟩ := open_int Tryz.underlying23 (hval 3 23 v3 rfl rfl) h3
 have walk : Calls Tryz.prog 3 #[.slice a0 m0 c0, .slice a1 m1 c1, .int .u16 n2, .int .u16 n3] W (BTrue W) := by
  exact torn_walk W a0 m0 c0 L a1 m1 c1 K n2 n3 ⟨s0, y0⟩ ⟨s1, y1⟩ (u16_wf w2) (u16_wf w3)
 refine walk.mono fun e W' ⟨he, bel⟩ => ?_
 subst he
 exact ⟨_, rfl, law_post torLaid (t := 4) rfl Tryz.underlying4 rfl (by intro t ht; rw [show Tryz.f3.params.toList = [22, 22, 23, 23] from rfl] at ht; simp at ht; rcases ht with rfl | rfl; all_goals exact ⟨by kernel_rfl, of_decide_eq_true (by kernel_rfl)⟩) hW' rfl (Only.below bel (Nat.le_refl _) fun _ _ e => e)⟩

theorem poolTorn_holds : Rows.PoolTornSaid :=
 OpenClaim.holds_of_wide 3 Tryz.f3 rfl rfl rfl rfl rfl rfl rfl ⟨rfl, rfl, rfl, rfl, rfl⟩ rfl rfl rfl rfl rfl (by kernel_rfl) Tryz.func3 (by kernel_rfl)
  (of_decide_eq_true (by kernel_rfl)) (by unfold Func.isWrapper; first | (rw [if_pos (by decide +kernel)]; kernel_rfl) | (rw [if_neg (by decide +kernel)]; exact ⟨rfl, rfl⟩))
  (fun os started H enc _ => poolTorn_lifted os started H enc)
#print axioms poolTorn_holds
end Go.Proofs.YtlcfoeikamkpmaaGreat

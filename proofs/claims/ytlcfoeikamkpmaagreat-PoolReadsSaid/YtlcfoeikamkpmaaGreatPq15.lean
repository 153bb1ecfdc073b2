/- A text in a cell: its length, its bytes, noughts. Conditions: it is no longer than its place. May a row be; a row's cell. No conditions. A page's half as a tile. Conditions: the bytes lie in memory. A page's bytes as two tiles. Conditions: 104 bytes that lie in memory. A cache of places with a hand that goes round, of whatever values: plain. No program. No conditions. A trail is opened. Conditions: the disk lies in memory; at most a thousand tiles. -/
import Derived.Test.YtlcfoeikamkpmaaGreatPq14
namespace Go.Proofs.YtlcfoeikamkpmaaGreat
open Go.RowKit Go.Wh Go.Maps

theorem only_own {a b c : World} {v v1 : Value} (h1 : Only (fun k => v.ownBlock = some k) a b) (hb : v1.ownBlock = v.ownBlock ∨ ∃ g, v1.ownBlock = some g ∧ a.heap.size ≤ g ∧ g < b.heap.size) (h2 : Only (fun k => v1.ownBlock = some k) b c) : Only (fun k => v.ownBlock = some k) a c :=
 h1.andThen h2 fun i hi e => by
  rcases hb with hb | ⟨g, hb, h3, _⟩
  · rw [← hb]; exact e
  · rw [hb] at e
    have := Option.some.inj e
    omega
theorem own_step {a b c : World} {v v1 v2 : Value} (hb : v1.ownBlock = v.ownBlock ∨ ∃ g, v1.ownBlock = some g ∧ a.heap.size ≤ g ∧ g < b.heap.size) (hc : v2.ownBlock = v1.ownBlock ∨ ∃ g, v2.ownBlock = some g ∧ b.heap.size ≤ g ∧ g < c.heap.size) (h1 : a.heap.size ≤ b.heap.size) (h2 : b.heap.size ≤ c.heap.size) :
 v2.ownBlock = v.ownBlock ∨ ∃ g, v2.ownBlock = some g ∧ a.heap.size ≤ g ∧ g < c.heap.size := by
 rcases hc with hc | ⟨g, hc, h3, h4⟩
 · rw [hc]
   rcases hb with hb | ⟨g, hb, h3, h4⟩
   · exact .inl hb
   · exact .inr ⟨g, hb, h3, by omega⟩
 · exact .inr ⟨g, hc, by omega, h4⟩
set_option maxHeartbeats 1000000 in
set_option maxRecDepth 100000 in
theorem ctext_any (w : World) (v : Value) (n : Nat) (xs : List Value) (hv : Vec w 1 v n xs) (hn : 0 < n) (hnl : n ≤ 1000) (s : ByteArray) (m k : Nat) (hs : s.size = m) (hmk : m ≤ k) (hk : k ≤ 100) :
 Calls Tryz.prog 172 #[v, .string s, .int .i64 (k : Int)] w (TurnedPost w v 1 (n + (k + 1)) (xs ++ bc (padB s k))) := by
 obtain ⟨ti, hi, hz0, hz1, hz2⟩ := info_parts info_b
 have HI := Lib.hid (And.intro hi (And.intro hz0 (And.intro hz1 hz2)))
 obtain ⟨N, hN⟩ : ∃ N, k - m = N := ⟨_, rfl⟩
 have HB := Lib.hid (And.intro hs (And.intro hmk (And.intro hk hN)))
 have hwr : IntKind.u8.wrap (m : Int) = (m : Int) := by rw [IntKind.wrap_u8]; omega
 have hwr2 : IntKind.i64.wrap ((k : Int) - (m : Int)) = (N : Int) := by rw [IntKind.wrap_i64]; omega
 obtain ⟨va, vc, rfl⟩ := hv.form'
 have HV := Lib.hid (And.intro hv (And.intro hn hnl))
 have HSR := Lib.hid (fun w => Src.ofString (P := Tryz.prog) (w := w) (tx := 9) Tryz.underlying9 s)
 clear hi hz0 hz1 hz2 hmk hk hN hv hn hnl
 go_enter Tryz.func172, Tryz.ntmps172
 go_upto_region 2 with (at_builtin; first
  | (refine wpList_append_vec rfl _ _ 22 rfl 5 ti _ 1 1 Tryz.underlying22 HI.out.1 HI.out.2.1 HI.out.2.2.1 HI.out.2.2.2 rfl (by decide) (.slice va n vc) n xs (by simp [Act.eval]) (HV.out.1.alloc _) (.slice (some ⟨w.heap.size, 0, none⟩) 1 1) 1 [.int .u8 (m : Int)] (by simp [Act.eval]) ((cellsAt_new w [.int .u8 (m : Int)] _).reads rfl) (by intro u hu; simp at hu; rw [hu]; rfl) (by have := HV.out; simp only [maxLen]; omega) (by have := HV.out; omega) ?_; intro v1 w1 hv1 ho1 hb1; obtain ⟨a1, c1, rfl⟩ := hv1.form'; have HV1 := Lib.hid (And.intro hv1 (And.intro ho1 hb1)); clear hv1 ho1 hb1)
  | (refine wpList_append_vec_src rfl _ _ 22 9 rfl 5 ti Tryz.underlying22 HI.out.1 HI.out.2.1 HI.out.2.2.1 HI.out.2.2.2 (.slice a1 (n + 1) c1) (n + 1) _ (by simp [Act.eval]) HV1.out.1 (by omega) (.string s) m (byteCells s) (by simp [Act.eval]) (by have := HSR.out; rw [HB.out.1] at this; exact this _) (by have := HB.out; have := HV.out; omega) ?_; intro v2 w2 hv2 ho2 hb2; obtain ⟨a2, c2, rfl⟩ := hv2.form'; have HV2 := Lib.hid (And.intro hv2 (And.intro ho2 hb2)); clear hv2 ho2 hb2))
 obtain ⟨g2, o2, cap2, he2, hva2⟩ := HV2.out.1.form (by omega)
 injection he2 with e1 _ e3
 subst e1 e3
 obtain ⟨v3, w3, hrun, hv3, ho3, hb3⟩ := run_append_at_zeros (P := Tryz.prog) 22 3 22 5 ti .i64 .i64 Tryz.underlying22 Tryz.underlying3 HI.out.1 HI.out.2.1 HI.out.2.2.1 HI.out.2.2.2 hva2 N (by have := HB.out; have := HV.out; omega)
 have HRUN := Lib.hid hrun
 have F := Lib.hid (show TurnedPost w (.slice va n vc) 1 (n + (k + 1)) (xs ++ bc (padB s k)) (.returned v3) w3 from by
  obtain ⟨hv1, ho1, hb1⟩ := HV1.out
  obtain ⟨hv2, ho2, hb2⟩ := HV2.out
  obtain ⟨h1, h2, h3, h4⟩ := HB.out
  have e : xs ++ bc (padB s k) = xs ++ [.int .u8 (m : Int)] ++ byteCells s ++ List.replicate N (.int .u8 0) := by
   unfold padB
   rw [bc_append, txt_cells, h1, h4]
   simp [bc]
  have hz : (w.alloc (.cells #[.int .u8 (m : Int)] 5)).heap.size = w.heap.size + 1 := by simp
  have oo1 : Only (fun k => (Value.slice va n vc).ownBlock = some k) w w1 := (Only.alloc (Only.refl _ _) _).trans ho1
  have b1 : (Value.slice a1 (n + 1) c1).ownBlock = (Value.slice va n vc).ownBlock ∨ ∃ g, (Value.slice a1 (n + 1) c1).ownBlock = some g ∧ w.heap.size ≤ g ∧ g < w1.heap.size := hb1.imp id fun ⟨g, k1, k2, k3⟩ => ⟨g, k1, by omega, k3⟩
  have oo2 := only_own oo1 b1 ho2
  have b2 := own_step b1 hb2 (by have := ho1.size; omega) ho2.size
  have b3 : v3.ownBlock = (Value.slice (some ⟨g2, o2, none⟩) (n + 1 + m) c2).ownBlock ∨ ∃ g, v3.ownBlock = some g ∧ w2.heap.size ≤ g ∧ g < w3.heap.size := hb3
  have o3 : Only (fun k => (Value.slice (some ⟨g2, o2, none⟩) (n + 1 + m) c2).ownBlock = some k) w2 w3 := ho3.mono fun b e => by rw [e]; rfl
  refine ⟨v3, rfl, ?_, only_own oo2 b2 o3, own_step b2 b3 (by have := ho1.size; have := ho2.size; omega) ho3.size⟩
  rw [e, show n + (k + 1) = n + 1 + m + N by omega]
  exact hv3)
 clear HV1 HV2 HV HSR HI hva2 hv3 ho3 hb3 hrun
 go_wp2_with (refine wpList_append_given (by rfl) _ _ 22 3 rfl (.slice (some ⟨g2, o2, none⟩) (n + 1 + m) c2) (.int .i64 (N : Nat)) rfl rfl v3 w3 HRUN.out ?_)
 go_ret
 exact F.out
end Go.Proofs.YtlcfoeikamkpmaaGreat

namespace Go.Proofs.YtlcfoeikamkpmaaGreat
open Go.RowKit Go.Wh Go.Maps

def rowMay (k s v : ByteArray) : Bool := decide (0 < k.size) && decide (k.size ≤ 8) && decide (s.size ≤ 6) && decide (v.size ≤ 8)
theorem kempty (k : ByteArray) : (k.toList = []) ↔ k.size = 0 := by
 rw [ByteArray.toList_eq]
 constructor
 · intro h
   have := congrArg List.length h
   simpa using this
 · intro h
   refine List.eq_nil_of_length_eq_zero ?_
   simpa using h
theorem cmay_any (w : World) (k s v : ByteArray) :
 Calls Tryz.prog 171 #[.agg #[.string k, .string s, .string v]] w (StPost w (.bool (rowMay k s v))) := by
 go_enter Tryz.func171, Tryz.ntmps171
 go_wp2_with fail
 all_goals
  go_ret
  refine ⟨congrArg (fun b => Ending.returned (.bool b)) ?_, (Still.refl w).alloc _⟩
  have hk := kempty k
  have hk2 : k.toList.isEmpty = decide (k.size = 0) := by
   rw [Bool.eq_iff_iff, List.isEmpty_iff, hk, decide_eq_true_eq]
  simp only [hk] at *
  rw [Bool.eq_iff_iff]
  simp only [rowMay, hk2, Bool.and_eq_true, Bool.not_eq_true', decide_eq_true_eq, decide_eq_false_iff_not, Bool.false_eq_true]
  constructor <;> (intro hq; first | exact hq.elim | omega)
def CrPost (w : World) (k s v : ByteArray) (e : Ending) (w' : World) : Prop :=
 if rowMay k s v = true then ∃ v', e = .returned (.tuple #[v', .int .i64 0]) ∧ Vec w' 1 v' 26 (bc (rowB k s v)) ∧ Still w w' ∧ ∀ g, v'.ownBlock = some g → w.heap.size ≤ g ∧ g < w'.heap.size
 else e = .returned (.tuple #[.slice none 0 0, .int .i64 1]) ∧ Still w w'
set_option maxHeartbeats 1000000 in
set_option maxRecDepth 100000 in
theorem crow_any (w : World) (k s v : ByteArray) :
 Calls Tryz.prog 145 #[.agg #[.string k, .string s, .string v]] w (CrPost w k s v) := by
 have HM := Lib.hid (fun w => cmay_any w k s v)
 have HC := Lib.hid (fun tt => cellsAt_new w [.string k, .string s, .string v] tt)
 have HS1 := Lib.hid (fun tt => show Still w (w.alloc (.cells #[.string k, .string s, .string v] tt)) from (Still.refl w).alloc _)
 go_enter Tryz.func145, Tryz.ntmps145
 go_upto_region 1 with fail
 have hc := HC.out 60
 have hs1 := HS1.out 60
 clear HC HS1
 change cellsAt (w.alloc (.cells #[.string k, .string s, .string v] 60)) w.heap.size _ at hc
 generalize (w.alloc (.cells #[.string k, .string s, .string v] 60)) = w1 at *
 obtain ⟨b, hb⟩ : ∃ b, w.heap.size = b := ⟨_, rfl⟩
 rw [hb] at hc
 rw [hb]
 have SS := Lib.hid (fun w' (hs : Still w1 w') => show w'.cell? ⟨b, 0, none⟩ = some (.string k) ∧ w'.cell? ⟨b, 1, none⟩ = some (.string s) ∧ w'.cell? ⟨b, 2, none⟩ = some (.string v) from ⟨(hc.only hs fun e => e).cell 0, (hc.only hs fun e => e).cell 1, (hc.only hs fun e => e).cell 2⟩)
 obtain ⟨k0, k1, k2⟩ := SS.out w1 (Still.refl _)
 have H1 := Lib.hid (And.intro hs1 (And.intro hc hb))
 clear hs1 hc hb
 cases hm : rowMay k s v with
 | false =>
  have F := Lib.hid (show ∀ w', Still w w' → CrPost w k s v (.returned (.tuple #[.slice none 0 0, .int .i64 1])) w' from fun w' hs => by
   unfold CrPost
   rw [if_neg (by rw [hm]; decide)]
   exact ⟨rfl, hs⟩)
  rw [hm] at HM
  clear hm
  go_wp2_with fail
  refine (HM.out _).mono ?_
  rintro e w2 ⟨rfl, hs2⟩
  have F2 := Lib.hid (F.out w2 (H1.out.1.trans hs2))
  clear hs2 F
  go_wp2_with fail
  go_ret2
  exact F2.out
 | true =>
  rw [hm] at HM
  go_upto_region 2 with fail
  refine (HM.out _).mono ?_
  rintro e w2 ⟨rfl, hs2⟩
  have H2 := Lib.hid hs2
  clear hs2
  go_upto_region 3 with fail
  obtain ⟨B, hB⟩ : ∃ B, w2.heap.size = B := ⟨_, rfl⟩
  have HB := Lib.hid hB
  have hw1 := cellsAt_new w2 [.int .u8 1] 5
  rw [hB] at hw1
  have hm' := hm
  unfold rowMay at hm'
  simp only [Bool.and_eq_true, decide_eq_true_eq] at hm'
  have HT1 := Lib.hid (show Calls Tryz.prog 172 #[.slice (some ⟨B, 0, none⟩) 1 1, .string k, .int .i64 8] (w2.alloc (.cells #[.int .u8 1] 5)).drew (TurnedPost _ (.slice (some ⟨B, 0, none⟩) 1 1) 1 10 (bc (1 :: padB k 8))) from
   ctext_any _ (.slice (some ⟨B, 0, none⟩) 1 1) 1 [.int .u8 1] (Vec.drew (by
    obtain ⟨t, h⟩ := hw1
    exact vec_block (size := 1) (n := 1) h rfl (by decide))) (by decide) (by decide) k k.size 8 rfl hm'.1.1.2 (by decide))
  have HT2 := Lib.hid (fun v1 w4 (hv : Vec w4 1 v1 10 (bc (1 :: padB k 8))) => show Calls Tryz.prog 172 #[v1, .string s, .int .i64 6] w4 (TurnedPost w4 v1 1 17 (bc (1 :: padB k 8) ++ bc (padB s 6))) from
   ctext_any w4 v1 10 _ hv (by decide) (by decide) s s.size 6 rfl hm'.1.2 (by decide))
  have HT3 := Lib.hid (fun v1 w4 (hv : Vec w4 1 v1 17 (bc (1 :: padB k 8) ++ bc (padB s 6))) => show Calls Tryz.prog 172 #[v1, .string v, .int .i64 8] w4 (TurnedPost w4 v1 1 26 (bc (1 :: padB k 8) ++ bc (padB s 6) ++ bc (padB v 8))) from
   ctext_any w4 v1 17 _ hv (by decide) (by decide) v v.size 8 rfl hm'.2 (by decide))
  have HM' := Lib.hid hm
  have HB1 := Lib.hid (show ∀ g, (Value.slice (some ⟨B, 0, none⟩) 1 1).ownBlock = some g → w2.heap.size ≤ g ∧ g < (w2.alloc (.cells #[.int .u8 1] 5)).drew.heap.size from fun g hg => by
   have e : B = g := Option.some.inj hg
   have := hw1.lt
   rw [← e]
   exact ⟨Nat.le_of_eq HB.out, this⟩)
  have HSA := Lib.hid (show Still w2 (w2.alloc (.cells #[.int .u8 1] 5)).drew from (((Still.refl w2).alloc _).drew))
  clear hw1 hm hm' HM
  go_region_held3 (fun w' => w'.cell? ⟨b, 0, none⟩ = some (.string k) ∧ w'.cell? ⟨b, 1, none⟩ = some (.string s) ∧ w'.cell? ⟨b, 2, none⟩ = some (.string v)) (first | exact SS.out _ (H2.out.drew) | exact SS.out _ (by assumption) | exact SS.out _ (H2.out.drew.alloc _)) (first
   | (go_at_call 172; (with_reducible refine HT1.out.mono ?_); rintro e w4 ⟨v4, rfl, hv4, ho4, hb4⟩; obtain ⟨s4, f4⟩ := append_fresh HSA.out HB1.out ho4 hb4; have K4 := Lib.hid (And.intro hv4 (And.intro s4 f4)); have t4 := H2.out.trans s4; clear hv4 ho4 hb4 s4 f4)
   | (go_at_call 172; (with_reducible refine (HT2.out _ _ K4.out.1).mono ?_); rintro e w5 ⟨v5, rfl, hv5, ho5, hb5⟩; obtain ⟨s5, f5⟩ := append_fresh K4.out.2.1 K4.out.2.2 ho5 hb5; have K5 := Lib.hid (And.intro hv5 (And.intro s5 f5)); have t5 := H2.out.trans s5; clear hv5 ho5 hb5 s5 f5)
   | (go_at_call 172; (with_reducible refine (HT3.out _ _ K5.out.1).mono ?_); rintro e w6 ⟨v6, rfl, hv6, ho6, hb6⟩; obtain ⟨s6, f6⟩ := append_fresh K5.out.2.1 K5.out.2.2 ho6 hb6; have K6 := Lib.hid (And.intro hv6 (And.intro s6 f6)); have t6 := H2.out.trans s6; clear hv6 ho6 hb6 s6 f6))
  have F := Lib.hid (show CrPost w k s v (.returned (.tuple #[v6, .int .i64 0])) w6 from by
   unfold CrPost
   rw [if_pos HM'.out]
   have z1 := H1.out.1.size
   have z2 := H2.out.size
   refine ⟨v6, rfl, ?_, (H1.out.1.trans H2.out).trans K6.out.2.1, fun g hg => by have := K6.out.2.2 g hg; omega⟩
   have := K6.out.1
   rw [← bc_append, ← bc_append] at this
   exact this)
  clear t4 t5 t6
  go_wp2_with fail
  go_ret2
  exact F.out
end Go.Proofs.YtlcfoeikamkpmaaGreat

namespace Go.Proofs.YtlcfoeikamkpmaaGreat
open Go.RowKit Go.Wh Go.Maps

def hd4 (z : Int) (i : Nat) : List Int := (be4 z).take i ++ List.replicate (64 - i) 0
theorem hd4_len (z : Int) {i : Nat} (h : i ≤ 4) : (hd4 z i).length = 64 := by
 simp [hd4, be4]
 omega
theorem hd4_four (z : Int) (l : List Int) : (hd4 z 4).take 4 ++ l ++ (hd4 z 4).drop (4 + l.length) = oneB z l := by
 have e : hd4 z 4 = be4 z ++ List.replicate 60 0 := rfl
 have h4 : (be4 z).length = 4 := rfl
 rw [e, List.take_append_of_le_length (by rw [h4]; omega), List.take_of_length_le (by rw [h4]; omega), List.append_assoc]
 unfold oneB
 congr 1
 congr 1
 rw [show 4 + l.length = (be4 z).length + l.length by rw [h4], List.drop_length_add_append, List.drop_replicate]
set_option maxRecDepth 100000 in
theorem copy_cells {Q : Nat → Prop} {w : World} {b off m c' n c : Nat} {a : Option Addr} {l : List Int} {xs : List Value} (hb : cellsAt w b xs) (h : Sl w Q 1 (.slice a n c) n (bc l)) (hn0 : 0 < n) (hnm : n ≤ m) (hm : off + m ≤ xs.length) (hx : xs.length ≤ 100000) :
 (Builtin.copy_ #[22, 22] 3 #[.slice (some ⟨b, off, none⟩) m c', .slice a n c]).run Tryz.prog w = .ok (.int .i64 (n : Int)) (w.setCells b off (bc l)) ∧ Only (fun k => k = b) w (w.setCells b off (bc l)) ∧ VecAt (w.setCells b off (bc l)) 1 b 0 xs.length xs.length (xs.take off ++ bc l ++ xs.drop (off + n)) := by
 have hln : l.length = n := by have := h.1; rw [bc_length] at this; omega
 obtain ⟨g, o, cc, e, -, -, hcs⟩ := h.pos hn0
 injection e with e1 e2 e3
 subst e1 e3
 obtain ⟨tt, hb2⟩ := hb
 have hv := vecAt_block (size := 1) (n := xs.length) (cap := xs.length) hb2 (by simp) (by omega) (by simp only [maxLen]; omega)
 simp only [Nat.mul_one, List.take_length] at hv
 have hmn : Nat.min n m = n := Nat.min_eq_left hnm
 have h := run_copy_at (P := Tryz.prog) (size := 1) 22 22 3 5 Tryz.underlying22 (by kernel_rfl) hv off m c' ⟨g, o, none⟩ n c (bc l) (by rw [bc_length, hln, hmn]; omega) (by rw [hmn]; omega) (fun j u hj => by
  rw [Addr.add_lit]
  exact hcs j u hj) (bc_one _)
 rw [hmn, Nat.mul_one, Nat.mul_one, Nat.zero_add] at h
 exact ⟨h.1, Go.Wh.setCells_only _ _ _ _, h.2⟩
set_option maxHeartbeats 1000000 in
set_option maxRecDepth 100000 in
theorem one_any {Q : Nat → Prop} (w : World) (z : Int) (v : Value) (n : Nat) (l : List Int) (h : Sl w Q 1 v n (bc l)) (hn0 : 0 < n) (hn : n ≤ 60) (h0 : 0 ≤ z) (h1 : z ≤ 2147483647) :
 Calls Tryz.prog 100 #[.int .i64 z, v] w (FreshPost w 1 64 (bc (oneB z l))) := by
 have hln : l.length = n := by have := h.1; rw [bc_length] at this; omega
 obtain ⟨a, c, rfl⟩ := h.form
 have HH := Lib.hid (And.intro h (And.intro hn0 (And.intro hn (And.intro h0 (And.intro h1 hln)))))
 have hmk : ∀ w : World, (Instr.makeSlice 22 (.int .i64 64) (.int .i64 64)).run Tryz.prog w = .ok (.slice (some ⟨w.heap.size, 0, none⟩) 64 64) (w.alloc (.cells zeros64 5)) := make64
 clear h hn hln
 go_enter Tryz.func100, Tryz.ntmps100
 go_upto_region 2 with fail
 have hzc := cellsAt_new w (bc (List.replicate 64 0)) 5
 have hs1 : Still w (w.alloc (.cells zeros64 5)) := (Still.refl w).alloc _
 change cellsAt (w.alloc (.cells zeros64 5)) w.heap.size _ at hzc
 clear hmk
 generalize (w.alloc (.cells zeros64 5)) = w1 at *
 obtain ⟨b, hb⟩ : ∃ b, w.heap.size = b := ⟨_, rfl⟩
 rw [hb] at hzc
 rw [hb]
 have HST := Lib.hid (And.intro hs1 (show cellsAt w1 b (bc (hd4 z 0)) from hzc))
 have HB := Lib.hid hb
 clear hzc hs1 hb
 go_wp2_with fail
 go_loopw [8] (fun s wr => ∃ i : Nat, s = .int .i64 i ∧ i ≤ 4 ∧ Still w wr ∧ cellsAt wr b (bc (hd4 z i))) (fun s _ => 4 - (intOf s).toNat)
 case atStart => exact ⟨0, rfl, Nat.zero_le _, HST.out.1, HST.out.2⟩
 obtain ⟨i, rfl, hin, hs, hv⟩ := hrel
 by_cases hi : i < 4
 rotate_left
 · have d1 : decide ((i : Int) < 4) = false := decide_eq_false (by omega)
   have d2 : decide (i < 4) = false := decide_eq_false hi
   obtain ⟨q1, q2, q3, q4, q5, q6⟩ := HH.out
   have hv4 : cellsAt wr b (bc (hd4 z 4)) := by rw [show i = 4 by omega] at hv; exact hv
   have hl4 : (bc (hd4 z 4)).length = 64 := by rw [bc_length, hd4_len z (Nat.le_refl 4)]
   obtain ⟨k1, k2, k3⟩ := copy_cells (off := 4) (m := 60) (c' := 60) hv4 (q1.still hs) q2 q3 (by rw [hl4]; decide) (by rw [hl4]; omega)
   have F := Lib.hid (show FreshPost w 1 64 (bc (oneB z l)) (.returned (.slice (some ⟨b, 0, none⟩) 64 64)) (wr.setCells b 4 (bc l)) from by
    have k4 : Only (fun k => k = b) w (wr.setCells b 4 (bc l)) := (hs.mono fun _ e => e.elim).trans k2
    have hbl := hv4.lt
    have hsz := k2.size
    refine ⟨_, rfl, .inr ⟨_, _, _, rfl, ?_⟩, k4.below (Nat.le_refl _) fun i hi e => by have := HB.out; omega, fun g hg => ?_⟩
    · rw [hl4] at k3
      have e2 : (bc (hd4 z 4)).take 4 ++ bc l ++ (bc (hd4 z 4)).drop (4 + n) = bc (oneB z l) := by
       rw [← hd4_four z l, q6]
       unfold bc
       rw [List.map_append, List.map_append, List.map_take, List.map_drop]
      rw [e2] at k3
      exact k3
    · have e : b = g := Option.some.inj hg
      have := HB.out
      omega)
   have rs : ∀ w : World, (Instr.slice 22 (.slice (some ⟨b, 0, none⟩) 64 64) (some (.int .i64 4)) none none).run Tryz.prog w = .ok (.slice (some ⟨b, 4, none⟩) 60 60) w := fun w => by kernel_rfl
   clear k2 k3 hv hv4 hl4 q1 q2 q3 q4 q5 q6 hs hi hin
   go_wp2_with fail
   go_ret
   exact F.out
 have fr : wr.frozen? ⟨b, i, none⟩ = false := hv.free i
 obtain ⟨u0, s0⟩ : ∃ u, wr.cell? ⟨b, i, none⟩ = some u := ⟨_, (hv.cell i).trans (List.getElem?_eq_getElem (by rw [bc_length, hd4_len z hin]; omega))⟩
 have HN : ∀ x : Int, (be4 z)[i]? = some x → Hid (Still w (wr.setCell ⟨b, i, none⟩ (.int .u8 x)) ∧ cellsAt (wr.setCell ⟨b, i, none⟩ (.int .u8 x)) b (bc (hd4 z (i + 1)))) := fun x hx => by
  refine Lib.hid ⟨hs.setCell (p := ⟨b, i, none⟩) (.inr (by show w.heap.size ≤ b; have := HB.out; omega)) _, ?_⟩
  have := hv.setCell i (.int .u8 x)
  have e : (bc (hd4 z i)).set i (.int .u8 x) = bc (hd4 z (i + 1)) := by
   rcases (show i = 0 ∨ i = 1 ∨ i = 2 ∨ i = 3 from by omega) with rfl | rfl | rfl | rfl <;> (cases hx; rfl)
  rw [e] at this
  exact this
 clear hs hv
 have hz256 : z / 16777216 % 256 = z / 16777216 := by omega
 rcases (show i = 0 ∨ i = 1 ∨ i = 2 ∨ i = 3 from by omega) with rfl | rfl | rfl | rfl
 · have HN := HN (z / 16777216) (by rw [← hz256]; rfl)
   clear hz256
   go_wp2_with fail
   go_roundw
   case rel => exact ⟨1, by rfl, by omega, HN.out.1, HN.out.2⟩
   case measure => simp [intOf]
 · have HN := HN (z / 65536 % 256) rfl
   clear hz256
   go_wp2_with fail
   go_roundw
   case rel => exact ⟨2, by rfl, by omega, HN.out.1, HN.out.2⟩
   case measure => simp [intOf]
 · have HN := HN (z / 256 % 256) rfl
   clear hz256
   go_wp2_with fail
   go_roundw
   case rel => exact ⟨3, by rfl, by omega, HN.out.1, HN.out.2⟩
   case measure => simp [intOf]
 · have HN := HN (z % 256) rfl
   clear hz256
   go_wp2_with fail
   go_roundw
   case rel => exact ⟨4, by rfl, by omega, HN.out.1, HN.out.2⟩
   case measure => simp [intOf]
end Go.Proofs.YtlcfoeikamkpmaaGreat

namespace Go.Proofs.YtlcfoeikamkpmaaGreat
open Go.RowKit Go.Wh Go.Maps

def TwoPost (w : World) (a b : List Int) (e : Ending) (w' : World) : Prop :=
 ∃ va vb, e = .returned (.tuple #[va, vb, .int .i64 0]) ∧ Vec w' 1 va 64 (bc a) ∧ Vec w' 1 vb 64 (bc b) ∧ Still w w' ∧ (∀ g, va.ownBlock = some g → w.heap.size ≤ g ∧ g < w'.heap.size) ∧ (∀ g, vb.ownBlock = some g → w.heap.size ≤ g ∧ g < w'.heap.size)
def NoTwo (w : World) (e : Ending) (w' : World) : Prop := e = .returned (.tuple #[.slice none 0 0, .slice none 0 0, .int .i64 1]) ∧ Still w w'
def PutPost (w : World) (z : Int) (l : List Int) (e : Ending) (w' : World) : Prop := if lsnMay z = true then TwoPost w (oneB z (l.take 60)) (oneB z (l.drop 60)) e w' else NoTwo w e w'
set_option maxHeartbeats 1000000 in
set_option maxRecDepth 100000 in
theorem sput_any {Q : Nat → Prop} (w : World) (z : Int) (v : Value) (l : List Int) (h : Sl w Q 1 v 104 (bc l)) (hc : Cap 104 v) :
 Calls Tryz.prog 80 #[.int .i64 z, v] w (PutPost w z l) := by
 have hln : l.length = 104 := by have := h.1; rw [bc_length] at this; omega
 obtain ⟨a, c, rfl⟩ := h.form
 obtain ⟨pv, -, r1, -, -, hp⟩ := h.part (P := Tryz.prog) (size := 1) 22 Tryz.underlying22 (fun w => rfl) hc (Nat.zero_le 60) (show 60 ≤ 104 by omega)
 obtain ⟨qv, -, -, r2, -, hq⟩ := h.part (P := Tryz.prog) (size := 1) 22 Tryz.underlying22 (fun w => rfl) hc (show 60 ≤ 104 by omega) (Nat.le_refl 104)
 have r1 : ∀ w, (Instr.slice 22 (.slice a 104 c) none (some (.int .i64 60)) none).run Tryz.prog w = .ok pv w := r1 rfl
 have r2 : ∀ w, (Instr.slice 22 (.slice a 104 c) (some (.int .i64 60)) none none).run Tryz.prog w = .ok qv w := r2 rfl
 have hp' := hp w Q h
 have hq' := hq w Q h
 rw [show bc l = bc l from rfl, show (0 : Nat) * 1 = 0 from rfl, List.drop_zero] at hp'
 rw [List.take_of_length_le (by rw [List.length_drop, bc_length, hln]; decide)] at hq'
 have e1 : (bc l).take ((60 - 0) * 1) = bc (l.take 60) := by unfold bc; rw [List.map_take]
 have e2 : (bc l).drop (60 * 1) = bc (l.drop 60) := by unfold bc; rw [List.map_drop]
 rw [e1] at hp'
 rw [e2] at hq'
 clear hp hq e1 e2
 by_cases hm : lsnMay z = true
 rotate_left
 · have F := Lib.hid (show PutPost w z l (.returned (.tuple #[.slice none 0 0, .slice none 0 0, .int .i64 1])) w from by
    unfold PutPost
    rw [if_neg hm]
    exact ⟨rfl, Still.refl _⟩)
   unfold lsnMay at hm
   simp only [Bool.and_eq_true, decide_eq_true_eq] at hm
   clear h hc hln r1 r2 hp' hq'
   by_cases h0 : z < 0
   · have d1 : decide (z < 0) = true := decide_eq_true h0
     clear hm
     go_enter Tryz.func80, Tryz.ntmps80
     go_wp2_with fail
     go_ret3
     exact F.out
   · have d1 : decide (z < 0) = false := decide_eq_false h0
     have d2 : decide (2147483647 < z) = true := decide_eq_true (by omega)
     clear hm
     go_enter Tryz.func80, Tryz.ntmps80
     go_wp2_with fail
     go_ret3
     exact F.out
 have hm' := hm
 unfold lsnMay at hm'
 simp only [Bool.and_eq_true, decide_eq_true_eq] at hm'
 have hz0 := hm'.1
 have hz1 := hm'.2
 have d1 : decide (z < 0) = false := decide_eq_false (by omega)
 have d2 : decide (2147483647 < z) = false := decide_eq_false (by omega)
 have HP := Lib.hid (fun w' (hs : Still w w') => one_any w' z pv 60 (l.take 60) (hp'.still hs) (by omega) (by omega) hz0 hz1)
 have HQ := Lib.hid (fun w' (hs : Still w w') => one_any w' z qv 44 (l.drop 60) (hq'.still hs) (by omega) (by omega) hz0 hz1)
 obtain ⟨pa, pc, rfl⟩ := hp'.form
 obtain ⟨qa, qc, rfl⟩ := hq'.form
 have HM := Lib.hid hm
 clear h hc hln hp' hq' hm hm' hz0 hz1
 have m1 : min (104 : Int) 60 = 60 := by decide
 go_enter Tryz.func80, Tryz.ntmps80
 go_upto_region 4 with fail
 go_region_held3 (fun _ => True) (trivial) (first
  | (go_at_call 100; (with_reducible refine (HP.out _ (still_drew _)).mono ?_); rintro e w1 ⟨va, rfl, k1, k2, k3⟩; have K1 := Lib.hid (And.intro k1 (And.intro k2 k3)); clear k1 k2 k3)
  | (go_at_call 100; (with_reducible refine (HQ.out _ ((still_drew w).trans (Still.of K1.out.2.1))).mono ?_); rintro e w2 ⟨vb, rfl, k1, k2, k3⟩; have K2 := Lib.hid (And.intro k1 (And.intro k2 k3)); clear k1 k2 k3))
 have F := Lib.hid (show PutPost w z l (.returned (.tuple #[va, vb, .int .i64 0])) w2 from by
  unfold PutPost
  rw [if_pos HM.out]
  have s1 : Still w w1 := (still_drew w).trans (Still.of K1.out.2.1)
  have s2 : Still w1 w2 := Still.of K2.out.2.1
  have z1 := s1.size
  have z2 := s2.size
  exact ⟨va, vb, rfl, K1.out.1.belowAll K2.out.2.1, K2.out.1, s1.trans s2, fun g hg => by have := K1.out.2.2 g hg; have e : w.drew.heap.size = w.heap.size := rfl; omega, fun g hg => by have := K2.out.2.2 g hg; omega⟩)
 go_wp2_with fail
 go_ret3
 exact F.out
end Go.Proofs.YtlcfoeikamkpmaaGreat

namespace Go.Proofs.YtlcfoeikamkpmaaGreat

structure Pl (V : Type) where
 k : Int
 v : V
 has : Bool
 bit : Bool
structure Hd (V : Type) where
 l : List (Pl V)
 at_ : Nat
section
variable {V U : Type}
def fdI (p : Pl V → Bool) : List (Pl V) → Nat
 | [] => 0
 | x :: l => if p x = true then 0 else fdI p l + 1
def isK (k : Int) (x : Pl V) : Bool := x.has && x.k == k
def noH (x : Pl V) : Bool := !x.has
def Pl.with (x : Pl V) (v : V) : Pl V := { x with v := v, bit := true }
def Pl.off (x : Pl V) : Pl V := { x with bit := false }
def Pl.on (x : Pl V) : Pl V := { x with bit := true }
def Pl.swap (x : Pl V) (v : V) : Pl V := { x with v := v }
def modI (f : Pl V → Pl V) : Nat → List (Pl V) → List (Pl V)
 | _, [] => []
 | 0, x :: l => f x :: l
 | i + 1, x :: l => x :: modI f i l
theorem modI_length (f : Pl V → Pl V) : ∀ (i : Nat) (l : List (Pl V)), (modI f i l).length = l.length
 | _, [] => by simp [modI]
 | 0, x :: l => rfl
 | i + 1, x :: l => by simp [modI, modI_length f i l]
theorem modI_set (f : Pl V → Pl V) : ∀ (i : Nat) (l : List (Pl V)) (x : Pl V), l[i]? = some x → modI f i l = l.set i (f x)
 | _, [], _, h => by simp at h
 | 0, y :: l, x, h => by
  simp at h
  subst h
  rfl
 | i + 1, y :: l, x, h => by
  simp at h
  simp [modI, modI_set f i l x h]
theorem fdI_le (p : Pl V → Bool) : ∀ (l : List (Pl V)), fdI p l ≤ l.length
 | [] => Nat.le_refl _
 | x :: l => by
  unfold fdI
  split
  · omega
  · have := fdI_le p l
    simp
    omega
theorem fdI_lt {p : Pl V → Bool} : ∀ {l : List (Pl V)}, fdI p l < l.length → ∃ x, l[fdI p l]? = some x ∧ p x = true
 | [], h => by simp [fdI] at h
 | x :: l, h => by
  unfold fdI at h ⊢
  split
  · rename_i hp
    exact ⟨x, rfl, hp⟩
  · rename_i hp
    rw [if_neg hp] at h
    simp only [List.length_cons] at h
    obtain ⟨y, hy, hq⟩ := fdI_lt (p := p) (l := l) (by omega)
    exact ⟨y, by simpa using hy, hq⟩
theorem fdI_no {p : Pl V → Bool} : ∀ {l : List (Pl V)} {i : Nat} {x : Pl V}, i < fdI p l → l[i]? = some x → p x = false
 | [], i, x, h, _ => by simp [fdI] at h
 | y :: l, i, x, h, hx => by
  unfold fdI at h
  split at h
  · omega
  · rename_i hp
    cases i with
    | zero =>
     simp at hx
     subst hx
     simpa using hp
    | succ i => exact fdI_no (l := l) (i := i) (by omega) (by simpa using hx)
theorem fdI_at {p : Pl V → Bool} : ∀ {l : List (Pl V)} {i : Nat} {x : Pl V}, (∀ (j : Nat) (y : Pl V), j < i → l[j]? = some y → p y = false) → l[i]? = some x → p x = true → fdI p l = i
 | [], i, x, _, hx, _ => by simp at hx
 | y :: l, 0, x, _, hx, hp => by
  simp at hx
  subst hx
  unfold fdI
  rw [if_pos hp]
 | y :: l, i + 1, x, h, hx, hp => by
  unfold fdI
  have h0 := h 0 y (by omega) rfl
  rw [if_neg (by rw [h0]; decide), fdI_at (l := l) (i := i) (x := x) (fun j z hj hz => h (j + 1) z (by omega) (by simpa using hz)) (by simpa using hx) hp]
theorem fdI_end {p : Pl V → Bool} : ∀ {l : List (Pl V)}, (∀ (j : Nat) (y : Pl V), l[j]? = some y → p y = false) → fdI p l = l.length
 | [], _ => rfl
 | y :: l, h => by
  unfold fdI
  have h0 := h 0 y rfl
  rw [if_neg (by rw [h0]; decide), fdI_end (l := l) fun j z hz => h (j + 1) z (by simpa using hz)]
  rfl
def Hd.turn : Nat → Hd V → Nat × Hd V
 | 0, h => (h.at_, h)
 | n + 1, h => match h.l[h.at_]? with
  | none => (h.at_, h)
  | some x => if x.bit = false then (h.at_, ⟨h.l, (h.at_ + 1) % h.l.length⟩) else Hd.turn n ⟨modI Pl.off h.at_ h.l, (h.at_ + 1) % h.l.length⟩
def Hd.put (h : Hd V) (void : V) (k : Int) (v : V) : (Int × V × Bool) × Hd V :=
 if fdI (isK k) h.l < h.l.length then ((0, void, false), ⟨modI (·.with v) (fdI (isK k) h.l) h.l, h.at_⟩)
 else if fdI noH h.l < h.l.length then ((0, void, false), ⟨h.l.set (fdI noH h.l) ⟨k, v, true, true⟩, h.at_⟩)
 else match (h.turn (2 * h.l.length)).2.l[(h.turn (2 * h.l.length)).1]? with
  | none => ((0, void, false), h)
  | some x => ((x.k, x.v, true), ⟨(h.turn (2 * h.l.length)).2.l.set (h.turn (2 * h.l.length)).1 ⟨k, v, true, true⟩, (h.turn (2 * h.l.length)).2.at_⟩)
def Hd.look (h : Hd V) (k : Int) : Option V := (h.l[fdI (isK k) h.l]?).map (·.v)
def Hd.touch (h : Hd V) (k : Int) : Hd V := ⟨modI Pl.on (fdI (isK k) h.l) h.l, h.at_⟩
def Hd.swap (h : Hd V) (k : Int) (v : V) : Hd V := ⟨modI (·.swap v) (fdI (isK k) h.l) h.l, h.at_⟩
def Hd.keys (h : Hd V) : List Int := (h.l.filter (·.has)).map (·.k)
def mkHd (void : V) (n : Nat) : Hd V := ⟨List.replicate n ⟨0, void, false, false⟩, 0⟩

def PlR (R : V → U → Prop) (x : Pl V) (y : Pl U) : Prop := x.k = y.k ∧ x.has = y.has ∧ x.bit = y.bit ∧ R x.v y.v
inductive LR (R : V → U → Prop) : List (Pl V) → List (Pl U) → Prop
 | nil : LR R [] []
 | cons {x : Pl V} {y : Pl U} {l : List (Pl V)} {m : List (Pl U)} : PlR R x y → LR R l m → LR R (x :: l) (y :: m)
def HdR (R : V → U → Prop) (h : Hd V) (g : Hd U) : Prop := LR R h.l g.l ∧ h.at_ = g.at_
variable {R : V → U → Prop}
theorem LR.length {l : List (Pl V)} {m : List (Pl U)} (h : LR R l m) : l.length = m.length := by
 induction h with
 | nil => rfl
 | cons _ _ ih => simp [ih]
theorem LR.mono {R' : V → U → Prop} (hr : ∀ a b, R a b → R' a b) {l : List (Pl V)} {m : List (Pl U)} (h : LR R l m) : LR R' l m := by
 induction h with
 | nil => exact .nil
 | cons hx _ ih => exact .cons ⟨hx.1, hx.2.1, hx.2.2.1, hr _ _ hx.2.2.2⟩ ih
theorem LR.at {l : List (Pl V)} {m : List (Pl U)} (h : LR R l m) : ∀ (i : Nat) (x : Pl V), l[i]? = some x → ∃ y, m[i]? = some y ∧ PlR R x y := by
 induction h with
 | nil => intro i x hx; simp at hx
 | cons hx _ ih =>
  intro i z hz
  cases i with
  | zero =>
   simp at hz
   subst hz
   exact ⟨_, rfl, hx⟩
  | succ i =>
   obtain ⟨y, hy, hr⟩ := ih i z (by simpa using hz)
   exact ⟨y, by simpa using hy, hr⟩
theorem LR.none {l : List (Pl V)} {m : List (Pl U)} (h : LR R l m) {i : Nat} (hi : l[i]? = none) : m[i]? = none := by
 rw [List.getElem?_eq_none_iff] at hi ⊢
 rw [← h.length]
 exact hi
theorem LR.fd {p : Pl V → Bool} {q : Pl U → Bool} (hpq : ∀ x y, PlR R x y → p x = q y) {l : List (Pl V)} {m : List (Pl U)} (h : LR R l m) : fdI p l = fdI q m := by
 induction h with
 | nil => rfl
 | cons hx _ ih =>
  unfold fdI
  rw [hpq _ _ hx, ih]
theorem isK_R {k : Int} (x : Pl V) (y : Pl U) (h : PlR R x y) : isK k x = isK k y := by
 unfold isK
 rw [h.1, h.2.1]
theorem noH_R (x : Pl V) (y : Pl U) (h : PlR R x y) : noH x = noH y := by
 unfold noH
 rw [h.2.1]
theorem LR.mod {f : Pl V → Pl V} {g : Pl U → Pl U} (hfg : ∀ x y, PlR R x y → PlR R (f x) (g y)) {l : List (Pl V)} {m : List (Pl U)} (h : LR R l m) : ∀ i, LR R (modI f i l) (modI g i m) := by
 induction h with
 | nil => intro i; simp only [modI]; exact .nil
 | cons hx ht ih =>
  intro i
  cases i with
  | zero => exact .cons (hfg _ _ hx) ht
  | succ i => exact .cons hx (ih i)
theorem LR.set {x : Pl V} {y : Pl U} (hxy : PlR R x y) {l : List (Pl V)} {m : List (Pl U)} (h : LR R l m) : ∀ i, LR R (l.set i x) (m.set i y) := by
 induction h with
 | nil => intro i; exact .nil
 | cons hx ht ih =>
  intro i
  cases i with
  | zero => exact .cons hxy ht
  | succ i => exact .cons hx (ih i)
theorem HdR.turn : ∀ (n : Nat) {h : Hd V} {g : Hd U}, HdR R h g → (h.turn n).1 = (g.turn n).1 ∧ HdR R (h.turn n).2 (g.turn n).2
 | 0, h, g, hr => ⟨hr.2, hr⟩
 | n + 1, h, g, hr => by
  have hl := hr.1.length
  have ha := hr.2
  unfold Hd.turn
  cases hx : h.l[h.at_]? with
  | none =>
   have := hr.1.none hx
   rw [ha] at this
   rw [this]
   exact ⟨ha, hr⟩
  | some x =>
   obtain ⟨y, hy, hxy⟩ := hr.1.at _ x hx
   rw [ha] at hy
   rw [hy]
   simp only
   rw [hxy.2.2.1]
   split
   · exact ⟨ha, hr.1, by simp only; rw [ha, hl]⟩
   · refine HdR.turn n ⟨?_, by simp only; rw [ha, hl]⟩
     rw [ha]
     exact hr.1.mod (f := Pl.off) (g := Pl.off) (fun x y h => ⟨h.1, h.2.1, rfl, h.2.2.2⟩) _
theorem HdR.put {h : Hd V} {g : Hd U} {a : V} {b : U} {k : Int} {v : V} {u : U} (hr : HdR R h g) (hab : R a b) (hvu : R v u) :
 (h.put a k v).1.1 = (g.put b k u).1.1 ∧ (h.put a k v).1.2.2 = (g.put b k u).1.2.2 ∧ R (h.put a k v).1.2.1 (g.put b k u).1.2.1 ∧ HdR R (h.put a k v).2 (g.put b k u).2 := by
 have hl := hr.1.length
 have e1 : fdI (isK k) h.l = fdI (isK k) g.l := hr.1.fd isK_R
 have e2 : fdI noH h.l = fdI noH g.l := hr.1.fd noH_R
 unfold Hd.put
 rw [e1, e2, hl]
 split
 · exact ⟨rfl, rfl, hab, hr.1.mod (f := (·.with v)) (g := (·.with u)) (fun x y h => ⟨h.1, h.2.1, rfl, hvu⟩) _, hr.2⟩
 · split
   · exact ⟨rfl, rfl, hab, hr.1.set (show PlR R ⟨k, v, true, true⟩ ⟨k, u, true, true⟩ from ⟨rfl, rfl, rfl, hvu⟩) _, hr.2⟩
   · have ht := hr.turn (2 * g.l.length)
     rw [ht.1]
     cases hx : (h.turn (2 * g.l.length)).2.l[(g.turn (2 * g.l.length)).1]? with
     | none =>
      rw [ht.2.1.none hx]
      exact ⟨rfl, rfl, hab, hr⟩
     | some x =>
      obtain ⟨y, hy, hxy⟩ := ht.2.1.at _ x hx
      rw [hy]
      exact ⟨hxy.1, rfl, hxy.2.2.2, ht.2.1.set (show PlR R ⟨k, v, true, true⟩ ⟨k, u, true, true⟩ from ⟨rfl, rfl, rfl, hvu⟩) _, ht.2.2⟩
theorem HdR.look {h : Hd V} {g : Hd U} {k : Int} (hr : HdR R h g) : (h.look k = none ∧ g.look k = none) ∨ ∃ v u, h.look k = some v ∧ g.look k = some u ∧ R v u := by
 have e1 : fdI (isK k) h.l = fdI (isK k) g.l := hr.1.fd isK_R
 unfold Hd.look
 rw [← e1]
 cases hx : h.l[fdI (isK k) h.l]? with
 | none =>
  rw [hr.1.none hx]
  exact .inl ⟨rfl, rfl⟩
 | some x =>
  obtain ⟨y, hy, hxy⟩ := hr.1.at _ x hx
  rw [hy]
  exact .inr ⟨_, _, rfl, rfl, hxy.2.2.2⟩
theorem HdR.touch {h : Hd V} {g : Hd U} {k : Int} (hr : HdR R h g) : HdR R (h.touch k) (g.touch k) := by
 have e1 : fdI (isK k) h.l = fdI (isK k) g.l := hr.1.fd isK_R
 unfold Hd.touch
 rw [e1]
 exact ⟨hr.1.mod (f := Pl.on) (g := Pl.on) (fun x y h => ⟨h.1, h.2.1, rfl, h.2.2.2⟩) _, hr.2⟩
theorem HdR.swap {h : Hd V} {g : Hd U} {k : Int} {v : V} {u : U} (hr : HdR R h g) (hvu : R v u) : HdR R (h.swap k v) (g.swap k u) := by
 have e1 : fdI (isK k) h.l = fdI (isK k) g.l := hr.1.fd isK_R
 unfold Hd.swap
 rw [e1]
 exact ⟨hr.1.mod (f := (·.swap v)) (g := (·.swap u)) (fun x y h => ⟨h.1, h.2.1, h.2.2.1, hvu⟩) _, hr.2⟩
theorem HdR.keys {h : Hd V} {g : Hd U} (hr : HdR R h g) : h.keys = g.keys := by
 obtain ⟨hl, -⟩ := hr
 unfold Hd.keys
 generalize h.l = l at hl
 generalize g.l = m at hl
 induction hl with
 | nil => rfl
 | cons hx _ ih =>
  simp only [List.filter_cons, hx.2.1]
  split
  · simp only [List.map_cons, hx.1, ih]
  · exact ih
theorem LR.replicate {a : V} {b : U} (hab : R a b) : ∀ n, LR R (List.replicate n ⟨0, a, false, false⟩) (List.replicate n ⟨0, b, false, false⟩)
 | 0 => .nil
 | n + 1 => by
  rw [List.replicate_succ, List.replicate_succ]
  exact .cons ⟨rfl, rfl, rfl, hab⟩ (LR.replicate hab n)
end
end Go.Proofs.YtlcfoeikamkpmaaGreat

namespace Go.Proofs.YtlcfoeikamkpmaaGreat
open Go.RowKit Go.Wh Go.Maps

set_option maxHeartbeats 400000 in
theorem clone_big (v : Value) (n : Nat) (xs : List Value) (w : World) (h : Reads w 1 v n xs) (h1c : ∀ u ∈ xs, u.oneCell' = true) (hn : n ≤ 100000) :
 Calls Tryz.prog 36 #[v] w (FreshPost w 1 n xs) := by
 rcases id h with ⟨hl, ⟨rfl, rfl⟩ | ⟨a, c, rfl, hc⟩⟩
 · have hnil : xs = [] := by simpa using hl
   have F := Lib.hid (show FreshPost w 1 0 xs (.returned (.slice none 0 0)) w from ⟨_, rfl, by rw [hnil]; exact Vec.nil _ _, Below.refl _ _, fun g hg => by cases hg⟩)
   clear h hl hnil
   have hnn := fun W : World => Lib.run_eql_slice_nil (P := Tryz.prog) W 22 5 none 0 0 0 0 Tryz.underlying22
   go_enter Tryz.func36, Tryz.ntmps36
   go_wp2_with fail
   go_ret
   exact F.out
 · obtain ⟨i0, hi, hz0, hz1, hz2⟩ := info_parts info_b
   have H := Lib.hid h
   have HC := Lib.hid h1c
   clear h hl hc h1c
   have hnn := fun W : World => Lib.run_eql_slice_nil (P := Tryz.prog) W 22 5 (some a) n c 0 0 Tryz.underlying22
   go_enter Tryz.func36, Tryz.ntmps36
   have H1 := Lib.hid (H.out.belowAll ((Below.refl _ _).alloc (Nat.le_refl _) (Obj.cells #[] 5)))
   go_wp2_with (at_builtin; refine wpList_append_vec rfl _ _ 22 rfl 5 i0 _ 1 1 Tryz.underlying22 hi hz0 hz1 hz2 rfl (by decide) _ 0 [] rfl (Vec.none_ _ _ _ _) _ n xs rfl H1.out HC.out (by simp only [maxLen]; omega) (by omega) ?_; intro v' w' hv' ho' hb')
   have F := Lib.hid (show FreshPost w 1 n xs (.returned v') w' from by
    have hbel := (Below.refl w.heap.size w).alloc (Nat.le_refl _) (Obj.cells #[] 5)
    refine ⟨v', rfl, by simpa using hv', hbel.trans (ho'.below (by simp) (fun i hi e => ?_)), fun g hg => ?_⟩
    · have e2 : w.heap.size = i := Option.some.inj e
      omega
    · rcases hb' with e | ⟨g', e, h1, h2⟩
      · have e2 : w.heap.size = g := Option.some.inj (e.symm.trans hg)
        have h3 := ho'.size
        simp at h3
        omega
      · rw [e] at hg
        injection hg with hg
        simp at h1
        omega)
   clear hv' ho' hb' H H1 HC
   go_wp2_with fail
   go_ret
   exact F.out

def OpPost (A : Nat → Prop) (w : World) (d at_ n : Nat) (T : List (List Int)) (en : Ending) (w' : World) : Prop :=
 ∃ (t : Nat) (lv : Value) (es : List PE) (A' B C : Nat → Prop), en = .returned (.tuple #[.pointer (some ⟨t, 0, none⟩), lv, .int .i64 0]) ∧ es = (scanB ((readB (tls T at_ n)).length + 1) (readB (tls T at_ n))).1 ∧
  DkX A' d (layB T at_ (streamB es) n) w' ∧ TlX B t d at_ n es es.length w' ∧ Ents w' C lv es ∧ Only A w w' ∧
  (∀ g, A' g → A g ∨ w.heap.size ≤ g) ∧ (∀ g, B g → w.heap.size ≤ g) ∧ (∀ g, C g → w.heap.size ≤ g ∧ g < w'.heap.size) ∧ (∀ g, A' g → ¬ B g) ∧ (∀ g, A' g → ¬ C g) ∧ ∀ g, B g → ¬ C g

theorem tlx_new (w : World) (d at_ n : Nat) (tt : TypeId) (hn : n ≤ 2000) : TlX (fun b => b = w.heap.size) w.heap.size d at_ n [] 0 (w.alloc (.cells #[.pointer (some ⟨d, 0, none⟩), .int .i64 at_, .int .i64 n, .slice none 0 0, .int .i64 0, .int .i64 0] tt)) :=
 ⟨⟨.slice none 0 0, ⟨cellsAt_new w [.pointer (some ⟨d, 0, none⟩), .int .i64 at_, .int .i64 n, .slice none 0 0, .int .i64 0, .int .i64 0] tt, Vec.nil _ _, (fun z hz => by cases hz), (fun g e => by cases e)⟩, rfl, (fun g e => by cases e)⟩, fun g hg => by simp; omega, by simp [streamB], hn, (fun e he => by cases he), (fun e he => by cases he), Nat.le_refl _⟩
set_option maxHeartbeats 4000000 in
set_option maxRecDepth 100000 in
theorem open_any {A : Nat → Prop} {w : World} {d at_ n : Nat} {T : List (List Int)} (hd : DkX A d T w) (hn : at_ + n ≤ T.length) (hk : n ≤ 1000) :
 Calls Tryz.prog 11 #[.pointer (some ⟨d, 0, none⟩), .int .i64 at_, .int .i64 n] w (OpPost A w d at_ n T) := by
 obtain ⟨tv, mb, vs, hdk, k2, k3, k4, k5⟩ := hd.dk
 have HT := Lib.hid (tiles_any w d T tv mb vs hdk)
 have HDD := Lib.hid (dead_any w d T tv mb vs hdk)
 have hTl := hd.len
 have HD := Lib.hid (And.intro hd (And.intro hn hk))
 have a1 : decide ((at_ : Int) < 0) = false := by simp
 have a2 : decide ((n : Int) < 0) = false := by simp
 have a3 : decide ((T.length : Int) < (at_ : Int)) = false := decide_eq_false (by omega)
 have a3' : decide (T.length < at_) = false := decide_eq_false (by omega)
 have a4 : decide ((T.length : Int) - (at_ : Int) < (n : Int)) = false := decide_eq_false (by omega)
 have u1 : IntKind.i64.wrap ((T.length : Int) - (at_ : Int)) = (T.length : Int) - (at_ : Int) := IntWalk.i64_in _ (by omega)
 clear hd hdk k2 k3 k4 k5
 go_enter Tryz.func11, Tryz.ntmps11
 go_wp2_with fail
 refine HT.out.mono ?_
 rintro en w1 ⟨rfl, rfl⟩
 go_wp2_with fail
 refine HT.out.mono ?_
 rintro en w2 ⟨rfl, rfl⟩
 go_wp2_with fail
 refine HDD.out.mono ?_
 rintro en w3 ⟨rfl, rfl⟩
 clear HT HDD a1 a2 a3 a3' a4 u1
 go_upto_region 6 with fail
 have hst : Still w3 (w3.alloc (.cells #[.pointer (some ⟨d, 0, none⟩), .int .i64 at_, .int .i64 n, .slice none 0 0, .int .i64 0, .int .i64 0] 86)) := (Still.refl w3).alloc _
 have htl := tlx_new w3 d at_ n 86 (by omega)
 have hz0 : (w3.alloc (.cells #[.pointer (some ⟨d, 0, none⟩), .int .i64 at_, .int .i64 n, .slice none 0 0, .int .i64 0, .int .i64 0] 86)).heap.size = w3.heap.size + 1 := by simp
 generalize w3.alloc (.cells #[.pointer (some ⟨d, 0, none⟩), .int .i64 at_, .int .i64 n, .slice none 0 0, .int .i64 0, .int .i64 0] 86) = W at *
 obtain ⟨t, ht⟩ : ∃ t, w3.heap.size = t := ⟨_, rfl⟩
 rw [ht] at htl
 rw [ht]
 have hdW := HD.out.1.still hst
 obtain ⟨sv, t1, -, -⟩ := htl.tl
 obtain ⟨tv', mb', vs', hdk', -, -, -, -⟩ := hdW.dk
 have HRD := Lib.hid (readT_any W t d at_ n (streamB []) sv 0 0 T tv' mb' vs' t1 hdk' HD.out.1.len HD.out.2.1 HD.out.1.byt)
 have H0 := Lib.hid (And.intro hst (And.intro htl (And.intro hdW (And.intro ht hz0))))
 clear hst htl hdW ht hz0 t1 hdk'
 obtain ⟨b, hb⟩ : ∃ b, readB (tls T at_ n) = b := ⟨_, rfl⟩
 have hbl : b.length ≤ 63000 := by
  have h1 := readB_len (tls T at_ n)
  have h2 : (tls T at_ n).length ≤ n := by unfold tls; rw [List.length_take]; omega
  rw [hb] at h1
  have := HD.out.2.2
  omega
 rw [hb] at HRD
 have HB := Lib.hid hb
 clear hb
 go_wp2_with fail
 refine HRD.out.mono ?_
 rintro en w4 ⟨bv, rfl, hbv, hs4, ho4, hby⟩
 have HSC := Lib.hid (scan_any w4 (fun _ => True) bv b.length b (Vec.sl0 hbv (by omega)) (Vec.capOf hbv) hby (by omega))
 obtain ⟨ba, bcp, rfl⟩ := hbv.form'
 have H4 := Lib.hid (And.intro hbv (And.intro hs4 (And.intro hby ho4)))
 have HBL := Lib.hid hbl
 obtain ⟨es, hes⟩ : ∃ es, (scanB (b.length + 1) b).1 = es := ⟨_, rfl⟩
 obtain ⟨m, hm⟩ : ∃ m, (scanB (b.length + 1) b).2 = m := ⟨_, rfl⟩
 have hsi := scanB_is (b.length + 1) b hby
 have hsl := scanB_len (b.length + 1) b
 unfold ScanPost at HSC
 rw [hes, hm] at HSC hsi hsl
 have HSI := Lib.hid (And.intro hsi (And.intro hsl hes))
 have hmb : m ≤ b.length := hsl.1
 clear hbv hs4 ho4 hby HRD hsi hsl hes hm
 go_wp2_with fail
 refine HSC.out.mono ?_
 rintro en w5 ⟨lv, rfl, hen, hs5⟩
 obtain ⟨la, lc, rfl⟩ := hen.form
 have hbv5 := H4.out.1.only hs5 fun _ _ e => e
 obtain ⟨pv, -, r1, -, hpv⟩ := Go.Wh.Vec.part (P := Tryz.prog) (size := 1) 22 Tryz.underlying22 (fun w => rfl) hbv5 (Nat.zero_le m) hmb
 have r1' := r1 rfl
 have hp5 := hpv w5 hbv5
 have hpc : ((bc b).drop (0 * 1)).take ((m - 0) * 1) = bc (streamB es) := by
  rw [Nat.zero_mul, List.drop_zero, Nat.mul_one, Nat.sub_zero, bc_take, HSI.out.1.1]
 rw [hpc, Nat.sub_zero] at hp5
 obtain ⟨pa, pc, rfl⟩ := hp5.form'
 have HCL := Lib.hid (clone_big (.slice pa m pc) m (bc (streamB es)) w5 hp5.reads (bc_one _) (by have := HBL.out; omega))
 have H5 := Lib.hid (And.intro hen hs5)
 have htl5 := (H0.out.2.1.still H4.out.2.1).still hs5
 have HT5 := Lib.hid htl5
 clear hen hs5 hbv5 r1 hpv hp5 hpc HSC htl5
 go_wp2_with fail
 refine HCL.out.mono ?_
 rintro en w6 ⟨sv, rfl, hsv, hb6, ho6⟩
 have hs6 : Still w5 w6 := Only.ofBelow hb6
 obtain ⟨sa, sc, rfl⟩ := hsv.form'
 have htl6 := HT5.out.still hs6
 obtain ⟨sv0, t6, -, -⟩ := htl6.tl
 have c3 : ∃ u, w6.cell? ⟨t, 3, none⟩ = some u := ⟨_, t6.cells.cell 3⟩
 obtain ⟨u3, c3⟩ := c3
 have c4 : w6.cell? ⟨t, 4, none⟩ = some (.int .i64 ((0 : Nat) : Int)) := t6.cells.cell 4
 have c5 : w6.cell? ⟨t, 5, none⟩ = some (.int .i64 ((0 : Nat) : Int)) := t6.cells.cell 5
 have f3 := t6.cells.free 3
 have f4 := t6.cells.free 4
 have f5 := t6.cells.free 5
 have H6 := Lib.hid (And.intro hsv (And.intro hs6 (And.intro ho6 t6)))
 clear hsv hb6 ho6 hs6 htl6 t6 HCL HT5
 go_upto_region 11 with fail
 have hmS : (streamB es).length = m := by
  have := congrArg List.length HSI.out.1.1
  rw [List.length_take] at this
  omega
 have htX : TlX (fun g => g = t ∨ (Value.slice sa m sc).ownBlock = some g) t d at_ n es es.length (((w6.setCell ⟨t, 3, none⟩ (.slice sa m sc)).setCell ⟨t, 4, none⟩ (.int .i64 (es.length : Int))).setCell ⟨t, 5, none⟩ (.int .i64 (es.length : Int))) := by
  have t6 := H6.out.2.2.2
  have hzz : (((w6.setCell ⟨t, 3, none⟩ (.slice sa m sc)).setCell ⟨t, 4, none⟩ (.int .i64 (es.length : Int))).setCell ⟨t, 5, none⟩ (.int .i64 (es.length : Int))).heap.size = w6.heap.size := by simp [World.setCell]
  have hss : Only (fun b => b = t) w6 (((w6.setCell ⟨t, 3, none⟩ (.slice sa m sc)).setCell ⟨t, 4, none⟩ (.int .i64 (es.length : Int))).setCell ⟨t, 5, none⟩ (.int .i64 (es.length : Int))) := ((setCell_only w6 ⟨t, 3, none⟩ _).trans (setCell_only _ ⟨t, 4, none⟩ _)).trans (setCell_only _ ⟨t, 5, none⟩ _)
  have hlt := t6.cells.lt
  have ht5 : t < w5.heap.size := by
   have h1 := H0.out.2.2.2.1
   have h2 := H0.out.2.2.2.2
   have h3 := H4.out.2.1.size
   have h4 := H5.out.2.size
   omega
  refine ⟨⟨.slice sa m sc, ⟨((t6.cells.setCell 3 _).setCell 4 _).setCell 5 _, ?_, streamB_byt HSI.out.1.2.2, fun g hg => ?_⟩, .inl rfl, fun g hg => .inr hg⟩, fun g hg => ?_, ?_, by have := HD.out.2.2; omega, HSI.out.1.2.1, HSI.out.1.2.2, Nat.le_refl _⟩
  · rw [hmS]
    exact H6.out.1.only hss fun g hg e => by have := (H6.out.2.2.1 g hg).1; have e' : g = t := e; omega
  · rw [hzz]
    have := H6.out.2.2.1 g hg
    exact ⟨by omega, this.2⟩
  · rw [hzz]
    rcases hg with rfl | hg
    · exact hlt
    · exact (H6.out.2.2.1 g hg).2
  · rw [hmS]
    have h1 := readB_len (tls T at_ n)
    have h2 : (tls T at_ n).length ≤ n := by unfold tls; rw [List.length_take]; omega
    rw [HB.out] at h1
    have := HSI.out.2.1.1
    omega
 have hss : Still w3 (((w6.setCell ⟨t, 3, none⟩ (.slice sa m sc)).setCell ⟨t, 4, none⟩ (.int .i64 (es.length : Int))).setCell ⟨t, 5, none⟩ (.int .i64 (es.length : Int))) := by
  have h1 := ((H0.out.1.trans H4.out.2.1).trans H5.out.2).trans H6.out.2.1
  have ht := H0.out.2.2.2.1
  exact ((h1.setCell (.inr (by show w3.heap.size ≤ t; omega)) _).setCell (.inr (by show w3.heap.size ≤ t; omega)) _).setCell (.inr (by show w3.heap.size ≤ t; omega)) _
 have hz6 : (((w6.setCell ⟨t, 3, none⟩ (.slice sa m sc)).setCell ⟨t, 4, none⟩ (.int .i64 (es.length : Int))).setCell ⟨t, 5, none⟩ (.int .i64 (es.length : Int))).heap.size = w6.heap.size := by simp [World.setCell]
 have hne : Ents (((w6.setCell ⟨t, 3, none⟩ (.slice sa m sc)).setCell ⟨t, 4, none⟩ (.int .i64 (es.length : Int))).setCell ⟨t, 5, none⟩ (.int .i64 (es.length : Int))) (fun g => w4.heap.size ≤ g ∧ g < w5.heap.size) (.slice la es.length lc) es := by
  have ht4 : t < w4.heap.size := by
   have h1 := H0.out.2.2.2.1
   have h2 := H0.out.2.2.2.2
   have h3 := H4.out.2.1.size
   omega
  have hss2 : Only (fun b => b = t) w6 (((w6.setCell ⟨t, 3, none⟩ (.slice sa m sc)).setCell ⟨t, 4, none⟩ (.int .i64 (es.length : Int))).setCell ⟨t, 5, none⟩ (.int .i64 (es.length : Int))) := ((setCell_only w6 ⟨t, 3, none⟩ _).trans (setCell_only _ ⟨t, 4, none⟩ _)).trans (setCell_only _ ⟨t, 5, none⟩ _)
  exact (H5.out.1.low.still H6.out.2.1).only hss2 fun g hg e => by omega
 generalize (((w6.setCell ⟨t, 3, none⟩ (.slice sa m sc)).setCell ⟨t, 4, none⟩ (.int .i64 (es.length : Int))).setCell ⟨t, 5, none⟩ (.int .i64 (es.length : Int))) = wT at *
 have hdT := HD.out.1.still hss
 have hA3 : ∀ g, A g → g < w3.heap.size := HD.out.1.lt
 have hord : w3.heap.size = t ∧ t < w4.heap.size ∧ w4.heap.size ≤ w5.heap.size ∧ w5.heap.size ≤ w6.heap.size := by
  have h1 := H0.out.2.2.2.1
  have h2 := H0.out.2.2.2.2
  have h3 := H4.out.2.1.size
  have h4 := H5.out.2.size
  have h5 := H6.out.2.1.size
  exact ⟨h1, by omega, h4, h5⟩
 have HCN := Lib.hid (clean_x htX hdT (fun g hg e => by
  have := hA3 g hg
  rcases e with e | e
  · omega
  · have := (H6.out.2.2.1 g e).1
    omega) HD.out.2.1)
 have HF := Lib.hid (And.intro htX (And.intro hss (And.intro hz6 (And.intro hne (And.intro hA3 hord)))))
 clear htX hss hz6 hne hA3 hord hdT c3 c4 c5 f3 f4 f5 hmS
 go_wp2_with fail
 refine HCN.out.mono ?_
 rintro en w7 ⟨rfl, kd, ko⟩
 have F := Lib.hid (show OpPost A w3 d at_ n T (.returned (.tuple #[.pointer (some ⟨t, 0, none⟩), .slice la es.length lc, .int .i64 0])) w7 from by
  obtain ⟨htX, hss, hz6, hne, hA3, o1, o2, o3, o4⟩ := HF.out
  have hz7 := ko.size
  refine ⟨t, _, es, Newer A wT w7, fun g => g = t ∨ (Value.slice sa m sc).ownBlock = some g, fun g => w4.heap.size ≤ g ∧ g < w5.heap.size, rfl, ?_, kd, ?_, ?_, ?_, ?_, ?_, ?_, ?_, ?_, ?_⟩
  · rw [HB.out, HSI.out.2.2]
  · refine htX.only ko fun g hg e => ?_
    have := hA3 g e
    rcases hg with hg | hg
    · omega
    · have := (H6.out.2.2.1 g hg).1
      omega
  · exact hne.only ko fun g hg e => by have := hA3 g e; omega
  · exact (hss.mono fun _ e => e.elim).trans ko
  · intro g hg
    rcases hg with hg | hg
    · exact .inl hg
    · exact .inr (by omega)
  · intro g hg
    rcases hg with hg | hg
    · omega
    · have := (H6.out.2.2.1 g hg).1
      omega
  · intro g hg
    exact ⟨by omega, by omega⟩
  · intro g hg e
    rcases hg with hg | hg
    · have := hA3 g hg
      rcases e with e | e
      · omega
      · have := (H6.out.2.2.1 g e).1
        omega
    · rcases e with e | e
      · omega
      · have := (H6.out.2.2.1 g e).2
        omega
  · intro g hg e
    rcases hg with hg | hg
    · have := hA3 g hg
      omega
    · omega
  · intro g hg e
    rcases hg with hg | hg
    · omega
    · have := (H6.out.2.2.1 g hg).1
      omega)
 clear kd ko HCN
 go_wp2_with fail
 go_ret3
 exact F.out
end Go.Proofs.YtlcfoeikamkpmaaGreat

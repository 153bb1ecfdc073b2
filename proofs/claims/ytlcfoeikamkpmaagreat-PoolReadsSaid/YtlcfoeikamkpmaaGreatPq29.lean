/- The dirty pages of a pool. Conditions: the pool lies in memory; it has at most twelve frames. A pool made new; how many pages it has. Conditions: none. How many pages a pool has; what no pool answers. Conditions: none. How laws begin: a new disk, its trail, an entry noted; by colours. Conditions: none. What whimlaw8's begun reckons: plain. No conditions. begun answers true. No conditions. -/
import Derived.Test.YtlcfoeikamkpmaaGreatPq28
namespace Go.Proofs.YtlcfoeikamkpmaaGreat
open Go.RowKit Go.Wh Go.Maps

section
variable {c : Nat → Nat} {m r : Nat} {w : World} {d : Nat} {t : Option Nat} {cf : PCf} {H : Hd PFr}
def dirtyK (H : Hd PFr) (k : Int) : Option Drt := match H.look k with
 | some f => if f.dirty = true then some ⟨k, f.rec_⟩ else none
 | none => none
def dirtyN (H : Hd PFr) (i : Nat) : List Drt := (H.keys.take i).filterMap (dirtyK H)
def dirtyD (H : Hd PFr) : List Drt := H.keys.filterMap (dirtyK H)
theorem dirtyN_next {i : Nat} {k : Int} (h : H.keys[i]? = some k) : dirtyN H (i + 1) = dirtyN H i ++ (dirtyK H k).toList := by
 unfold dirtyN
 rw [List.take_add_one, h, List.filterMap_append]
 cases e : dirtyK H k <;> simp [e]
theorem dirtyN_len (i : Nat) : (dirtyN H i).length ≤ i := by
 unfold dirtyN
 have h1 := List.length_filterMap_le (dirtyK H) (H.keys.take i)
 rw [List.length_take] at h1
 omega
theorem keys_len : H.keys.length ≤ H.l.length := by
 unfold Hd.keys
 rw [List.length_map]
 exact List.length_filter_le _ _
def DyPost (w : World) (H : Hd PFr) (e : Ending) (w' : World) : Prop :=
 ∃ v M, e = .returned v ∧ M.Perm (dirtyD H) ∧ DSorted M ∧ Vec w' 2 v M.length (dflat M) ∧ Still w w' ∧ ∀ g, v.ownBlock = some g → w.heap.size ≤ g ∧ g < w'.heap.size
theorem info_dirty : (Tryz.prog.info? 49).map (fun i => (i.zero, i.size, i.bytes)) = some (some (.agg #[.int .i64 0, .int .i64 0]), 2, 16) := by kernel_rfl
set_option maxHeartbeats 4000000 in
set_option maxRecDepth 100000 in
theorem pdirty_any {pb : Nat} (hP : PoAt c m r w pb d t cf H) (hl : Low c w) (m0 : m ≠ 0) (r0 : r ≠ 0) (h12 : H.l.length ≤ 12) :
 Calls Tryz.prog 19 #[.pointer (some ⟨pb, 0, none⟩)] w (DyPost w H) := by
 obtain ⟨ti, hi0, hi1, hi2, hi3⟩ := info_parts info_dirty
 have HI := Lib.hid (And.intro hi0 (And.intro hi1 (And.intro hi2 hi3)))
 have HLK := Lib.hid (fun w' (hs : Still w w') k => plook_any (hP.still hl hs m0 r0) k)
 obtain ⟨⟨hb, g, o, n, cap, Hv, hcp, hha, hrel, -⟩, -⟩ := hP
 have hk := hrel.keys
 have HKY := Lib.hid (hkeys_any hha)
 rw [hk] at HKY
 have HKL := Lib.hid (show H.keys.length ≤ 12 from Nat.le_trans keys_len h12)
 have p4 : w.cell? ⟨pb, 4, none⟩ = some (.pointer (some ⟨hb, 0, none⟩)) := hcp.cell 4
 clear hha hrel hcp hl m0 r0 h12 hi0 hi1 hi2 hi3 hk
 go_enter Tryz.func19, Tryz.ntmps19
 go_upto_region 4 with fail
 go_wp2_with fail
 refine HKY.out.mono ?_
 rintro e w1 ⟨vk, rfl, hvk, hb1, hf1⟩
 have HS1 := Lib.hid (show Still w w1 from Still.of hb1)
 have HVK := Lib.hid (And.intro hvk hf1)
 obtain ⟨ka, kc, rfl⟩ := hvk.form'
 obtain ⟨kl, hkl⟩ : ∃ kl, H.keys.length = kl := ⟨_, rfl⟩
 have HKN := Lib.hid hkl
 rw [hkl] at HKL HVK
 rw [hkl]
 clear hvk hb1 hf1 HKY p4 hkl
 go_upto_region 5 with fail
 go_loopw [3, 16] (fun s3 s16 wr => ∃ i : Nat, s16 = .int .i64 i ∧ i ≤ kl ∧ Still w1 wr ∧ Vec wr 2 s3 (dirtyN H i).length (dflat (dirtyN H i)) ∧ ∀ b, s3.ownBlock = some b → w1.heap.size ≤ b ∧ b < wr.heap.size) (fun _ s16 _ => kl - (intOf s16).toNat)
 case atStart => exact ⟨0, rfl, Nat.zero_le _, Still.refl _, Vec.nil _ _, fun b e => by cases e⟩
 obtain ⟨i, rfl, hin, hs, hv, hf⟩ := hrel
 obtain ⟨va, vc, rfl⟩ := hv.form'
 have HR := Lib.hid (And.intro hs (And.intro hv hf))
 by_cases hi : i < kl
 rotate_left
 · have d1 : decide ((i : Int) < (kl : Int)) = false := decide_eq_false (by omega)
   have d2 : decide (i < kl) = false := decide_eq_false hi
   have hall : dirtyN H i = dirtyD H := by
    unfold dirtyN dirtyD
    rw [List.take_of_length_le (by rw [HKN.out]; omega)]
   have HSO := Lib.hid (sortf_small (.slice va (dirtyN H i).length vc) (dirtyN H i).length (dirtyN H i) wr hv rfl (by have := dirtyN_len (H := H) i; have := HKL.out; omega))
   have HALL := Lib.hid hall
   clear hs hv hf hi hin hall
   go_wp2_with fail
   refine HSO.out.mono ?_
   rintro e w3 ⟨rfl, M, hperm, hsort, hv3, ho3⟩
   have F := Lib.hid (show DyPost w H (.returned (.slice va (dirtyN H i).length vc)) w3 from by
    have hlen : (dirtyN H i).length = M.length := hperm.length_eq.symm
    refine ⟨_, M, rfl, by rw [← HALL.out]; exact hperm, hsort, by rw [← hlen]; simpa using hv3, ((HS1.out.trans HR.out.1).andThen ho3 fun x hx e => ?_), fun b hb => ?_⟩
    · have := (HR.out.2.2 x e).1
      have := HS1.out.size
      omega
    · have := HR.out.2.2 b hb
      have := HS1.out.size
      have := ho3.size
      omega)
   clear hperm hsort hv3 ho3 HSO
   go_wp2_with fail
   go_ret
   exact F.out
 have d1 : decide ((i : Int) < (kl : Int)) = true := decide_eq_true (by omega)
 have d2 : decide (i < kl) = true := decide_eq_true hi
 have i0 : (0 : Int) ≤ (i : Int) := by omega
 have i1 : (i : Int) < (kl : Int) := by omega
 have u9 : IntKind.i64.wrap ((i : Int) + 1) = (i : Int) + 1 := IntWalk.i64_in _ (by have := HKL.out; omega)
 obtain ⟨k, hk⟩ : ∃ k, H.keys[i]? = some k := ⟨_, List.getElem?_eq_getElem (by rw [HKN.out]; exact hi)⟩
 have hsk := (Vec.sl0 HVK.out.1 (by decide)).still hs
 obtain ⟨gk, ok, c', e, -, -, hcs⟩ := hsk.pos (by omega)
 cases e
 have p0 : wr.cell? ⟨gk, ok + i, none⟩ = some (.int .i64 k) := hcs i _ (by unfold kiC; rw [List.getElem?_map, hk]; rfl)
 have HNX := Lib.hid (dirtyN_next hk)
 have HII := Lib.hid (And.intro hi (dirtyN_len (H := H) i))
 have HLK1 := Lib.hid (HLK.out wr (HS1.out.trans hs) k)
 clear hs hv hf hsk hcs hi hin hk
 go_upto_region 7 with fail
 go_wp2_with fail
 refine HLK1.out.mono ?_
 intro e w3 hp
 obtain ⟨hs3, hp⟩ := hp
 have HC6 := Lib.hid (fun w tt => cellsAt_new w frZ tt)
 have HS3 := Lib.hid hs3
 clear hs3 p0
 have HSAME := Lib.hid (fun (w4 : World) (hs4 : Still w3 w4) (hno : dirtyK H k = none) => show Still w1 w4 ∧ Vec w4 2 (.slice va (dirtyN H i).length vc) (dirtyN H (i + 1)).length (dflat (dirtyN H (i + 1))) ∧ ∀ b, (Value.slice va (dirtyN H i).length vc).ownBlock = some b → w1.heap.size ≤ b ∧ b < w4.heap.size from by
  have hs := HS3.out.trans hs4
  rw [HNX.out, hno]
  simp only [Option.toList_none, List.append_nil]
  exact ⟨HR.out.1.trans hs, HR.out.2.1.belowAll (Only.below hs (Nat.le_refl _) fun _ _ e => e), fun b hb => by have := HR.out.2.2 b hb; have := hs.size; omega⟩)
 rcases hp with ⟨hn, rfl⟩ | ⟨f, u0, u1', u2', u3', hkf, rfl, hpg⟩
 · have hdk : dirtyK H k = none := by unfold dirtyK; rw [hn]
   have HDK := Lib.hid hdk
   clear hn hdk
   go_upto_region 8 with ((with_reducible (show wpList _ _ _ ({ dst := none, op := Op.store 100 _ _, type := _, pos := _, after := _, guard := _ } :: _) _ _)); (refine wpList_storeAgg rfl 100 _ _ rfl w3.heap.size #[.slice none 0 0, .slice none 0 0, .slice none 0 0, .slice none 0 0, .int .i64 0, .bool false, .int .i64 0] rfl rfl (HC6.out _ _) size_fr rfl rfl ?_; intro w4 hcf hof hzf; have H4 := Lib.hid (And.intro hcf (And.intro hof hzf)); clear hcf hof hzf))
   obtain ⟨b6, hb6⟩ : ∃ b, w3.heap.size = b := ⟨_, rfl⟩
   rw [hb6] at H4
   rw [hb6]
   have HN := Lib.hid (HSAME.out w4 (((Still.refl w3).alloc _).andThen H4.out.2.1 fun x hx e => by have e' : x = b6 := e; omega) HDK.out)
   have q5 : w4.cell? ⟨b6, 5, none⟩ = some (.bool false) := H4.out.1.cell 5
   clear hb6
   go_wp2_with fail
   go_roundw
   case rel => exact ⟨i + 1, by go_num, by have := HII.out.1; omega, HN.out⟩
   case measure => first | (simp [intOf]; done) | (simp [intOf]; have := HII.out.1; omega)
 · obtain ⟨z, hz⟩ : ∃ z, f.p.lsn = z := ⟨_, rfl⟩
   obtain ⟨dd, hdd⟩ : ∃ z, f.dirty = z := ⟨_, rfl⟩
   obtain ⟨rr, hrr⟩ : ∃ z, f.rec_ = z := ⟨_, rfl⟩
   rw [hz, hdd, hrr]
   have hdk : dirtyK H k = if dd = true then some ⟨k, rr⟩ else none := by
    unfold dirtyK
    rw [hkf]
    simp only
    rw [hdd, hrr]
   have HDK := Lib.hid hdk
   have HONE7 := Lib.hid (show (#[u0, u1', u2', u3', .int .i64 z, .bool dd, .int .i64 rr] : Array Value).toList.all (·.oneCell') = true from by
    have := pg_one hpg
    rw [List.all_eq_true]
    intro y hy
    simp only [List.mem_cons, List.not_mem_nil, or_false] at hy
    rcases hy with rfl | rfl | rfl | rfl | rfl | rfl | rfl
    · exact this _ (by simp)
    · exact this _ (by simp)
    · exact this _ (by simp)
    · exact this _ (by simp)
    · rfl
    · rfl
    · rfl)
   clear hkf hpg hz hdd hrr hdk
   go_upto_region 8 with ((with_reducible (show wpList _ _ _ ({ dst := none, op := Op.store 100 _ _, type := _, pos := _, after := _, guard := _ } :: _) _ _)); (refine wpList_storeAgg rfl 100 _ _ rfl w3.heap.size #[u0, u1', u2', u3', .int .i64 z, .bool dd, .int .i64 rr] rfl rfl (HC6.out _ _) size_fr rfl HONE7.out ?_; intro w4 hcf hof hzf; have H4 := Lib.hid (And.intro hcf (And.intro hof hzf)); clear hcf hof hzf))
   obtain ⟨b6, hb6⟩ : ∃ b, w3.heap.size = b := ⟨_, rfl⟩
   rw [hb6] at H4
   rw [hb6]
   have HS4 := Lib.hid (show Still w3 w4 from ((Still.refl w3).alloc _).andThen H4.out.2.1 fun x hx e => by have e' : x = b6 := e; omega)
   have q5 : w4.cell? ⟨b6, 5, none⟩ = some (.bool dd) := H4.out.1.cell 5
   have q6 : w4.cell? ⟨b6, 6, none⟩ = some (.int .i64 rr) := H4.out.1.cell 6
   clear hb6
   cases dd with
   | false =>
    have HN := Lib.hid (HSAME.out w4 HS4.out HDK.out)
    go_wp2_with fail
    go_roundw
    case rel => exact ⟨i + 1, by go_num, by have := HII.out.1; omega, HN.out⟩
    case measure => first | (simp [intOf]; done) | (simp [intOf]; have := HII.out.1; omega)
   | true =>
    have HB1 := Lib.hid (show (dirtyN H i).length + 1 ≤ maxLen from by have := HII.out.2; have := HII.out.1; have := HKL.out; simp only [maxLen]; omega)
    have HB2 := Lib.hid (show ((dirtyN H i).length + 1) * 16 ≤ 140737488355328 from by have := HII.out.2; have := HII.out.1; have := HKL.out; omega)
    have HV4 := Lib.hid (HR.out.2.1.belowAll (Only.below (HS3.out.trans HS4.out) (Nat.le_refl _) fun _ _ e => e))
    have HNN := Lib.hid (fun v5 w5 ob (hv5 : Vec w5 2 v5 ((dirtyN H i).length + 1) (dflat (dirtyN H i) ++ [.int .i64 k, .int .i64 rr])) (ho5 : Only (fun k => (Value.slice va (dirtyN H i).length vc).ownBlock = some k) (w4.alloc ob) w5) (hb5 : v5.ownBlock = (Value.slice va (dirtyN H i).length vc).ownBlock ∨ ∃ g, v5.ownBlock = some g ∧ (w4.alloc ob).heap.size ≤ g ∧ g < w5.heap.size) => show Still w1 w5 ∧ Vec w5 2 v5 (dirtyN H (i + 1)).length (dflat (dirtyN H (i + 1))) ∧ ∀ b, v5.ownBlock = some b → w1.heap.size ≤ b ∧ b < w5.heap.size from by
     have s1 : Still w1 (w4.alloc ob) := ((HR.out.1.trans HS3.out).trans HS4.out).alloc ob
     have hz : (w4.alloc ob).heap.size = w4.heap.size + 1 := by simp
     obtain ⟨s5, f5⟩ := append_fresh s1 (fun b hb => by have := HR.out.2.2 b hb; have := HS3.out.size; have := HS4.out.size; omega) ho5 hb5
     refine ⟨s5, ?_, f5⟩
     rw [HNX.out, HDK.out, if_pos rfl]
     simp only [Option.toList_some, List.length_append, List.length_singleton, dflat_append]
     exact hv5)
    go_wp2_with (at_builtin; refine wpList_append_vec rfl _ _ 45 rfl 49 ti _ 2 16 Tryz.underlying45 HI.out.1 HI.out.2.1 HI.out.2.2.1 HI.out.2.2.2 rfl (by decide) (.slice va (dirtyN H i).length vc) (dirtyN H i).length (dflat (dirtyN H i)) (by simp [Act.eval]) (HV4.out.alloc _) (.slice (some ⟨w4.heap.size, 0, none⟩) 1 1) 1 [.int .i64 k, .int .i64 rr] (by simp [Act.eval]) ((cellsAt_new w4 [.int .i64 k, .int .i64 rr] _).reads rfl) (by intro u hu; simp at hu; rcases hu with rfl | rfl <;> rfl) HB1.out HB2.out ?_; intro v5 w5 hv5 ho5 hb5; have HN := Lib.hid (HNN.out v5 w5 _ hv5 ho5 hb5); clear hv5 ho5 hb5)
    go_roundw
    case rel => exact ⟨i + 1, by go_num, by have := HII.out.1; omega, HN.out⟩
    case measure => first | (simp [intOf]; done) | (simp [intOf]; have := HII.out.1; omega)
end
end Go.Proofs.YtlcfoeikamkpmaaGreat

namespace Go.Proofs.YtlcfoeikamkpmaaGreat
open Go.RowKit Go.Wh Go.Maps

section
variable {c : Nat → Nat} {a b m r : Nat} {w : World} {d : Nat} {t : Option Nat} {cf : PCf} {H : Hd PFr}
def NpPost (c : Nat → Nat) (m r : Nat) (w : World) (d : Nat) (t : Option Nat) (cf : PCf) (n : Nat) (e : Ending) (w' : World) : Prop :=
 ∃ pb c', e = .returned (.pointer (some ⟨pb, 0, none⟩)) ∧ Stp (fun _ => False) (fun i => i = m) c c' w w' ∧ PoAt c' m r w' pb d t cf (mkHd PFr.void n)
theorem mk_ok {n : Nat} : ∀ x ∈ (mkHd PFr.void n).l, x.v.p.ok ∧ 0 ≤ x.k ∧ x.k ≤ cf.pages := by
 intro x hx
 rw [List.eq_of_mem_replicate hx]
 refine ⟨⟨rfl, fun l hl => ?_, fun l hl => ?_⟩, Int.le_refl 0, by show (0 : Int) ≤ (cf.pages : Int); omega⟩
 · refine .inl ?_
   have : l ∈ ([[], [], [], []] : List (List Int)) := hl
   simp only [List.mem_cons, List.not_mem_nil, or_false] at this
   rcases this with rfl | rfl | rfl | rfl <;> rfl
 · have : l ∈ ([[], [], [], []] : List (List Int)) := hl
   simp only [List.mem_cons, List.not_mem_nil, or_false] at this
   rcases this with rfl | rfl | rfl | rfl <;> (intro z hz; cases hz)
theorem np_of {w1 w2 : World} {d n hb g : Nat} {t : Option Nat} (hl : Low c w) (hd : HdAt w1 hb g 0 n n (mkHd frZ n)) (hs : Still w w1) (hs2 : Still w1 w2)
 (hc : cellsAt w2 w1.heap.size [.pointer (some ⟨d, 0, none⟩), ptrV t, .int .i64 (cf.first : Nat), .int .i64 (cf.pages : Nat), .pointer (some ⟨hb, 0, none⟩)]) (h1 : w.heap.size ≤ hb) (h2 : w.heap.size ≤ g) :
 NpPost c m r w d t cf n (.returned (.pointer (some ⟨w1.heap.size, 0, none⟩))) w2 := by
 have z1 := hs.size
 have z2 := hs2.size
 have l1 := hd.cells.lt
 have l2 : g < w1.heap.size := hd.row.lt (by have := hd.pos; have := hd.row.le; omega)
 have l0 := hd.lt
 have l4 := hd.ne
 have l3 := hc.lt
 have hst : Stp (fun _ => False) (fun i => i = m) c (paint c (fun x => x = hb ∨ x = g ∨ x = w1.heap.size) m) w w2 := (Stp.still hl (hs.trans hs2)).paint (fun x hx => by rcases hx with rfl | rfl | rfl <;> omega) rfl
 refine ⟨w1.heap.size, _, rfl, hst, ⟨hb, g, 0, n, n, mkHd frZ n, hc, hd.only hs2 (fun e => e) (fun e => e), ⟨LR.replicate FrIs.void n, rfl⟩, paint_in (.inr (.inr rfl)), paint_in (.inl rfl), paint_in (.inr (.inl rfl)), by omega, by omega⟩, mk_ok⟩
set_option maxHeartbeats 2000000 in
set_option maxRecDepth 100000 in
theorem pnew_any (hl : Low c w) (d : Nat) (t : Option Nat) (cf : PCf) (k : Int) (n : Nat) (hn : min (max k 1) 64 = (n : Int)) {A B : Int} (hA : (cf.first : Int) = A) (hB : (cf.pages : Int) = B) :
 Calls Tryz.prog 15 #[.pointer (some ⟨d, 0, none⟩), ptrV t, .int .i64 A, .int .i64 B, .int .i64 k] w (NpPost c m r w d t cf n) := by
 subst hA hB
 rcases t with _ | t
 · have HMK := Lib.hid (hmake_any w k n hn)
   have HL := Lib.hid hl
   clear hl hn
   unfold ptrV
   go_enter Tryz.func15, Tryz.ntmps15
   go_wp2_with fail
   refine HMK.out.mono ?_
   rintro e w1 ⟨hb, g, rfl, hd, hs, h1, h2⟩
   have H1 := Lib.hid (And.intro hd (And.intro hs (And.intro h1 h2)))
   have HC := Lib.hid (fun tt => cellsAt_new w1 [.pointer (some ⟨d, 0, none⟩), .pointer none, .int .i64 (cf.first : Nat), .int .i64 (cf.pages : Nat), .pointer (some ⟨hb, 0, none⟩)] tt)
   clear hd hs h1 h2 HMK
   go_wp2_with fail
   have F := Lib.hid (show NpPost c m r w d none cf n (.returned (.pointer (some ⟨w1.heap.size, 0, none⟩))) (w1.alloc (.cells #[.pointer (some ⟨d, 0, none⟩), .pointer none, .int .i64 (cf.first : Nat), .int .i64 (cf.pages : Nat), .pointer (some ⟨hb, 0, none⟩)] 102)) from by
    have hs2 : Still w1 (w1.alloc (.cells #[.pointer (some ⟨d, 0, none⟩), .pointer none, .int .i64 (cf.first : Nat), .int .i64 (cf.pages : Nat), .pointer (some ⟨hb, 0, none⟩)] 102)) := (Still.refl w1).alloc _
    exact np_of HL.out H1.out.1 H1.out.2.1 hs2 (HC.out _) H1.out.2.2.1 H1.out.2.2.2)
   go_ret
   exact F.out
 · have HMK := Lib.hid (hmake_any w k n hn)
   have HL := Lib.hid hl
   clear hl hn
   unfold ptrV
   go_enter Tryz.func15, Tryz.ntmps15
   go_wp2_with fail
   refine HMK.out.mono ?_
   rintro e w1 ⟨hb, g, rfl, hd, hs, h1, h2⟩
   have H1 := Lib.hid (And.intro hd (And.intro hs (And.intro h1 h2)))
   have HC := Lib.hid (fun tt => cellsAt_new w1 [.pointer (some ⟨d, 0, none⟩), .pointer (some ⟨t, 0, none⟩), .int .i64 (cf.first : Nat), .int .i64 (cf.pages : Nat), .pointer (some ⟨hb, 0, none⟩)] tt)
   clear hd hs h1 h2 HMK
   go_wp2_with fail
   have F := Lib.hid (show NpPost c m r w d (some t) cf n (.returned (.pointer (some ⟨w1.heap.size, 0, none⟩))) (w1.alloc (.cells #[.pointer (some ⟨d, 0, none⟩), .pointer (some ⟨t, 0, none⟩), .int .i64 (cf.first : Nat), .int .i64 (cf.pages : Nat), .pointer (some ⟨hb, 0, none⟩)] 102)) from by
    have hs2 : Still w1 (w1.alloc (.cells #[.pointer (some ⟨d, 0, none⟩), .pointer (some ⟨t, 0, none⟩), .int .i64 (cf.first : Nat), .int .i64 (cf.pages : Nat), .pointer (some ⟨hb, 0, none⟩)] 102)) := (Still.refl w1).alloc _
    exact np_of HL.out H1.out.1 H1.out.2.1 hs2 (HC.out _) H1.out.2.2.1 H1.out.2.2.2)
   go_ret
   exact F.out
end
end Go.Proofs.YtlcfoeikamkpmaaGreat

namespace Go.Proofs.YtlcfoeikamkpmaaGreat
open Go.RowKit Go.Wh Go.Maps

section
variable {c : Nat → Nat} {a b m r : Nat} {w : World} {d : Nat} {t : Option Nat} {cf : PCf} {H : Hd PFr}
theorem ppages_any {pb : Nat} (hP : PoAt c m r w pb d t cf H) {N : Int} (hN : (cf.pages : Int) = N) : Calls Tryz.prog 22 #[.pointer (some ⟨pb, 0, none⟩)] w (SamePost w (.int .i64 N)) := by
 subst hN
 obtain ⟨⟨hb, g, o, n, cap, Hv, h1, -⟩, -⟩ := hP
 have p3 : w.cell? ⟨pb, 3, none⟩ = some (.int .i64 (cf.pages : Nat)) := h1.cell 3
 clear h1
 have F := Lib.hid (show SamePost w (.int .i64 (cf.pages : Int)) (.returned (.int .i64 (cf.pages : Int))) w from ⟨rfl, rfl⟩)
 go_enter Tryz.func22, Tryz.ntmps22
 go_wp2_with fail
 go_ret
 exact F.out
end
theorem ppages_nil (w : World) : Calls Tryz.prog 22 #[.pointer none] w (SamePost w (.int .i64 0)) := by
 have F := Lib.hid (show SamePost w (.int .i64 0) (.returned (.int .i64 0)) w from ⟨rfl, rfl⟩)
 go_enter Tryz.func22, Tryz.ntmps22
 go_wp2_with fail
 go_ret
 exact F.out
theorem pmay_nil (w : World) (k : Int) : Calls Tryz.prog 47 #[.pointer none, .int .i64 k] w (SamePost w (.bool false)) := by
 have F := Lib.hid (show SamePost w (.bool false) (.returned (.bool false)) w from ⟨rfl, rfl⟩)
 go_enter Tryz.func47, Tryz.ntmps47
 go_wp2_with fail
 go_ret
 exact F.out
theorem pdirty_nil (w : World) : Calls Tryz.prog 19 #[.pointer none] w (SamePost w (.slice none 0 0)) := by
 have F := Lib.hid (show SamePost w (.slice none 0 0) (.returned (.slice none 0 0)) w from ⟨rfl, rfl⟩)
 go_enter Tryz.func19, Tryz.ntmps19
 go_wp2_with fail
 go_ret
 exact F.out
theorem pflush_nil (w : World) (k : Int) : Calls Tryz.prog 21 #[.pointer none, .int .i64 k] w (SamePost w (.int .i64 1)) := by
 have F := Lib.hid (show SamePost w (.int .i64 1) (.returned (.int .i64 1)) w from ⟨rfl, rfl⟩)
 have HM := Lib.hid (pmay_nil w k)
 go_enter Tryz.func21, Tryz.ntmps21
 go_wp2_with fail
 refine HM.out.mono ?_
 rintro e w1 ⟨rfl, rfl⟩
 clear HM
 go_wp2_with fail
 go_ret
 exact F.out
def SxPost (w : World) (v : Value) (e : Ending) (w' : World) : Prop := e = .returned v ∧ Still w w'
set_option maxRecDepth 100000 in
theorem play_nil (w : World) (k rc : Int) : Calls Tryz.prog 18 #[.pointer none, .int .i64 k, .agg #[.slice none 0 0, .slice none 0 0, .slice none 0 0, .slice none 0 0, .int .i64 0], .int .i64 rc] w (SxPost w (.int .i64 1)) := by
 go_enter Tryz.func18, Tryz.ntmps18
 go_upto_region 1 with fail
 have hs : Still w (w.alloc (.cells #[.slice none 0 0, .slice none 0 0, .slice none 0 0, .slice none 0 0, .int .i64 0] 36)) := (Still.refl w).alloc _
 change Still w (w.alloc (.cells #[.slice none 0 0, .slice none 0 0, .slice none 0 0, .slice none 0 0, .int .i64 0] 36)) at hs
 generalize (w.alloc (.cells #[.slice none 0 0, .slice none 0 0, .slice none 0 0, .slice none 0 0, .int .i64 0] 36)) = w1 at *
 have F := Lib.hid (show SxPost w (.int .i64 1) (.returned (.int .i64 1)) w1 from ⟨rfl, hs⟩)
 have HM := Lib.hid (pmay_nil w1 k)
 clear hs
 go_wp2_with fail
 refine HM.out.mono ?_
 rintro e w2 ⟨rfl, rfl⟩
 clear HM
 go_wp2_with fail
 go_ret
 exact F.out
set_option maxRecDepth 100000 in
theorem pget_nil (w : World) (k : Int) : Calls Tryz.prog 43 #[.pointer none, .int .i64 k] w (SxPost w (.tuple #[.agg #[.slice none 0 0, .slice none 0 0, .slice none 0 0, .slice none 0 0, .int .i64 0, .bool false, .int .i64 0], .int .i64 1])) := by
 have HC := Lib.hid (fun tt => cellsAt_new w [.slice none 0 0, .slice none 0 0, .slice none 0 0, .slice none 0 0, .int .i64 0, .bool false, .int .i64 0] tt)
 go_enter Tryz.func43, Tryz.ntmps43
 go_upto_region 1 with fail
 have hc := HC.out 100
 have hs : Still w (w.alloc (.cells #[.slice none 0 0, .slice none 0 0, .slice none 0 0, .slice none 0 0, .int .i64 0, .bool false, .int .i64 0] 100)) := (Still.refl w).alloc _
 clear HC
 change cellsAt (w.alloc (.cells #[.slice none 0 0, .slice none 0 0, .slice none 0 0, .slice none 0 0, .int .i64 0, .bool false, .int .i64 0] 100)) w.heap.size _ at hc
 generalize (w.alloc (.cells #[.slice none 0 0, .slice none 0 0, .slice none 0 0, .slice none 0 0, .int .i64 0, .bool false, .int .i64 0] 100)) = w1 at *
 obtain ⟨b4, hb4⟩ : ∃ b, w.heap.size = b := ⟨_, rfl⟩
 rw [hb4] at hc
 rw [hb4]
 have HB := Lib.hid hb4
 have HS := Lib.hid hs
 have HB4 := Lib.hid hc
 have HM := Lib.hid (pmay_nil w1 k)
 clear hs hc hb4
 go_wp2_with fail
 refine HM.out.mono ?_
 rintro e w2 ⟨rfl, rfl⟩
 clear HM
 go_wp2_with ((with_reducible (show wpList _ _ _ ({ dst := none, op := Op.store 100 _ _, type := _, pos := _, after := _, guard := _ } :: _) _ _)); (refine wpList_storeAgg rfl 100 _ _ rfl b4 #[.slice none 0 0, .slice none 0 0, .slice none 0 0, .slice none 0 0, .int .i64 0, .bool false, .int .i64 0] rfl rfl HB4.out size_fr rfl rfl ?_; intro wf hcf hof hzf; have HF := Lib.hid (And.intro hcf (And.intro hof hzf)); clear hcf hof hzf))
 have F2 := Lib.hid (show SxPost w (.tuple #[.agg #[.slice none 0 0, .slice none 0 0, .slice none 0 0, .slice none 0 0, .int .i64 0, .bool false, .int .i64 0], .int .i64 1]) (.returned (.tuple #[.agg #[.slice none 0 0, .slice none 0 0, .slice none 0 0, .slice none 0 0, .int .i64 0, .bool false, .int .i64 0], .int .i64 1])) wf from
  ⟨rfl, HS.out.andThen HF.out.2.1 fun g hg e => by have e' : g = b4 := e; have := HB.out; omega⟩)
 have z0 : wf.cell? ⟨b4, 0, none⟩ = some (.slice none 0 0) := HF.out.1.cell 0
 have z1 : wf.cell? ⟨b4, 1, none⟩ = some (.slice none 0 0) := HF.out.1.cell 1
 have z2 : wf.cell? ⟨b4, 2, none⟩ = some (.slice none 0 0) := HF.out.1.cell 2
 have z3 : wf.cell? ⟨b4, 3, none⟩ = some (.slice none 0 0) := HF.out.1.cell 3
 have z4 : wf.cell? ⟨b4, 4, none⟩ = some (.int .i64 0) := HF.out.1.cell 4
 have z5 : wf.cell? ⟨b4, 5, none⟩ = some (.bool false) := HF.out.1.cell 5
 have z6 : wf.cell? ⟨b4, 6, none⟩ = some (.int .i64 0) := HF.out.1.cell 6
 exact bodyPost_ret (v := .tuple #[.agg #[.slice none 0 0, .slice none 0 0, .slice none 0 0, .slice none 0 0, .int .i64 0, .bool false, .int .i64 0], .int .i64 1]) (by simp [results, Tryz.results43, go_sem, z0, z1, z2, z3, z4, z5, z6]) rfl F2.out
set_option maxHeartbeats 1000000 in
set_option maxRecDepth 100000 in
theorem ppage_nil (w : World) (k : Int) : Calls Tryz.prog 16 #[.pointer none, .int .i64 k] w (SxPost w (.tuple #[.agg #[.slice none 0 0, .slice none 0 0, .slice none 0 0, .slice none 0 0, .int .i64 0], .int .i64 1])) := by
 have HC := Lib.hid (fun tt => cellsAt_new w [.slice none 0 0, .slice none 0 0, .slice none 0 0, .slice none 0 0, .int .i64 0] tt)
 go_enter Tryz.func16, Tryz.ntmps16
 go_upto_region 1 with fail
 have hc := HC.out 36
 have hs : Still w (w.alloc (.cells #[.slice none 0 0, .slice none 0 0, .slice none 0 0, .slice none 0 0, .int .i64 0] 36)) := (Still.refl w).alloc _
 clear HC
 change cellsAt (w.alloc (.cells #[.slice none 0 0, .slice none 0 0, .slice none 0 0, .slice none 0 0, .int .i64 0] 36)) w.heap.size _ at hc
 generalize (w.alloc (.cells #[.slice none 0 0, .slice none 0 0, .slice none 0 0, .slice none 0 0, .int .i64 0] 36)) = w1 at *
 obtain ⟨b4, hb4⟩ : ∃ b, w.heap.size = b := ⟨_, rfl⟩
 rw [hb4] at hc
 rw [hb4]
 have HB := Lib.hid hb4
 have HS := Lib.hid hs
 have HB4 := Lib.hid hc
 have HM := Lib.hid (pget_nil w1 k)
 clear hs hc hb4
 go_wp2_with fail
 refine HM.out.mono ?_
 rintro e w2 ⟨rfl, hs2⟩
 have H2 := Lib.hid hs2
 have HB42 := Lib.hid (HB4.out.only hs2 fun e => e)
 have HC6 := Lib.hid (fun w tt => cellsAt_new w frZ tt)
 clear HM hs2
 go_upto_region 2 with ((with_reducible (show wpList _ _ _ ({ dst := none, op := Op.store 100 _ _, type := _, pos := _, after := _, guard := _ } :: _) _ _)); (refine wpList_storeAgg rfl 100 _ _ rfl w2.heap.size #[.slice none 0 0, .slice none 0 0, .slice none 0 0, .slice none 0 0, .int .i64 0, .bool false, .int .i64 0] rfl rfl (HC6.out _ _) size_fr rfl rfl ?_; intro w3 hcf hof hzf; have H3 := Lib.hid (And.intro hcf (And.intro hof hzf)); clear hcf hof hzf))
 have HS23 := Lib.hid (show Still w2 w3 from ((Still.refl w2).alloc _).andThen H3.out.2.1 fun x hx e => by have e' : x = w2.heap.size := e; omega)
 have HB43 := Lib.hid (HB42.out.only HS23.out fun e => e)
 go_wp2_with ((with_reducible (show wpList _ _ _ ({ dst := none, op := Op.store 36 _ _, type := _, pos := _, after := _, guard := _ } :: _) _ _)); (refine wpList_storeAgg rfl 36 _ _ rfl b4 #[.slice none 0 0, .slice none 0 0, .slice none 0 0, .slice none 0 0, .int .i64 0] rfl rfl HB43.out size_page rfl rfl ?_; intro wf hcf hof hzf; have HF := Lib.hid (And.intro hcf (And.intro hof hzf)); clear hcf hof hzf))
 have F2 := Lib.hid (show SxPost w (.tuple #[.agg #[.slice none 0 0, .slice none 0 0, .slice none 0 0, .slice none 0 0, .int .i64 0], .int .i64 1]) (.returned (.tuple #[.agg #[.slice none 0 0, .slice none 0 0, .slice none 0 0, .slice none 0 0, .int .i64 0], .int .i64 1])) wf from
  ⟨rfl, ((HS.out.trans H2.out).trans HS23.out).andThen HF.out.2.1 fun g hg e => by have e' : g = b4 := e; have := HB.out; omega⟩)
 have z0 : wf.cell? ⟨b4, 0, none⟩ = some (.slice none 0 0) := HF.out.1.cell 0
 have z1 : wf.cell? ⟨b4, 1, none⟩ = some (.slice none 0 0) := HF.out.1.cell 1
 have z2 : wf.cell? ⟨b4, 2, none⟩ = some (.slice none 0 0) := HF.out.1.cell 2
 have z3 : wf.cell? ⟨b4, 3, none⟩ = some (.slice none 0 0) := HF.out.1.cell 3
 have z4 : wf.cell? ⟨b4, 4, none⟩ = some (.int .i64 0) := HF.out.1.cell 4
 exact bodyPost_ret (v := .tuple #[.agg #[.slice none 0 0, .slice none 0 0, .slice none 0 0, .slice none 0 0, .int .i64 0], .int .i64 1]) (by simp [results, Tryz.results16, go_sem, z0, z1, z2, z3, z4]) rfl F2.out
set_option maxHeartbeats 1000000 in
set_option maxRecDepth 100000 in
theorem pset_nil (w : World) (k i y : Int) : Calls Tryz.prog 17 #[.pointer none, .int .i64 k, .int .i64 i, .slice none 0 0, .int .i64 y] w (SxPost w (.int .i64 1)) := by
 have HM := Lib.hid (pget_nil w k)
 go_enter Tryz.func17, Tryz.ntmps17
 go_wp2_with fail
 refine HM.out.mono ?_
 rintro e w2 ⟨rfl, hs2⟩
 have H2 := Lib.hid hs2
 have HC6 := Lib.hid (fun w tt => cellsAt_new w frZ tt)
 clear HM hs2
 go_upto_region 2 with ((with_reducible (show wpList _ _ _ ({ dst := none, op := Op.store 100 _ _, type := _, pos := _, after := _, guard := _ } :: _) _ _)); (refine wpList_storeAgg rfl 100 _ _ rfl w2.heap.size #[.slice none 0 0, .slice none 0 0, .slice none 0 0, .slice none 0 0, .int .i64 0, .bool false, .int .i64 0] rfl rfl (HC6.out _ _) size_fr rfl rfl ?_; intro w3 hcf hof hzf; have H3 := Lib.hid (And.intro hcf (And.intro hof hzf)); clear hcf hof hzf))
 have F := Lib.hid (show SxPost w (.int .i64 1) (.returned (.int .i64 1)) w3 from ⟨rfl, H2.out.trans (((Still.refl w2).alloc _).andThen H3.out.2.1 fun x hx e => by have e' : x = w2.heap.size := e; omega)⟩)
 go_wp2_with fail
 go_ret
 exact F.out
end Go.Proofs.YtlcfoeikamkpmaaGreat

namespace Go.Proofs.YtlcfoeikamkpmaaGreat
open Go.RowKit Go.Wh Go.Maps

theorem newD_fine (n : Nat) : (newD n).fine := fun _ _ e => by cases e
theorem newD_byt (n : Nat) : (newD n).byt := by
 refine ⟨fun l hl z hz => ?_, fun i l e => by cases e⟩
 unfold newD zeroT at hl
 rw [List.eq_of_mem_replicate hl] at hz
 rw [List.eq_of_mem_replicate hz]
 decide
theorem newD_len (n : Nat) : (newD n).T.length = n := by simp [newD, zeroT]
theorem openE_new {m a n : Nat} (h : a + n ≤ m) : openE (newD m) a n = [] := by
 unfold openE
 rw [show (newD m).T = zeroT m from rfl, tls_zero h, readB_zero]
 rfl
theorem clN_new {m a : Nat} : ∀ (i : Nat), a + i ≤ m → clN (newD m) a [] i = (0, newD m, false)
 | 0, _ => rfl
 | i + 1, h => by
  unfold clN
  rw [clN_new i (by omega)]
  dsimp only
  rw [if_neg (by decide), if_pos]
  rw [tileB_nil]
  unfold newD zeroT
  rw [List.getElem?_replicate, if_pos (by omega)]
theorem clean_new {m a n : Nat} (h : a + n ≤ m) : (newD m).clean a [] n = (0, newD m) := by
 unfold PDk.clean
 rw [clN_new n h]
 rfl
section
variable {c : Nat → Nat} {a b m r : Nat} {w : World} {d : Nat} {t : Option Nat} {cf : PCf} {s : PSt}
def DnPost (c : Nat → Nat) (a : Nat) (w : World) (n : Nat) (e : Ending) (w' : World) : Prop :=
 ∃ d c', e = .returned (.pointer (some ⟨d, 0, none⟩)) ∧ Stp (fun _ => False) (fun i => i = a) c c' w w' ∧ DgX (Cs c' a) d (newD n) w'
theorem dnew_any (hl : Low c w) (a : Nat) (hn0 : ∀ g, c g ≠ a) (n : Nat) (hn : n ≤ 2000) {N : Int} (hN : (n : Int) = N) :
 Calls Tryz.prog 10 #[.int .i64 N] w (DnPost c a w n) := by
 refine (new_g w n hn hN).mono ?_
 rintro e w' ⟨d, rfl, hd, hs⟩
 have hst : Stp (fun _ => False) (fun i => i = a) c (paint c (fun g => w.heap.size ≤ g ∧ g < w'.heap.size) a) w w' := (Stp.still hl hs).paint (fun g hg => hg) rfl
 refine ⟨d, _, rfl, hst, hd.grow (fun g hg => paint_in hg) fun g hg => ?_⟩
 have hg' : paint c (fun g => w.heap.size ≤ g ∧ g < w'.heap.size) a g = a := hg
 by_cases h : w.heap.size ≤ g ∧ g < w'.heap.size
 · exact h.2
 · rw [paint_out (N := fun g => w.heap.size ≤ g ∧ g < w'.heap.size) h] at hg'
   exact absurd hg' (hn0 g)
def DoPost (c : Nat → Nat) (a b : Nat) (w : World) (d at_ n m : Nat) (e : Ending) (w' : World) : Prop :=
 ∃ t la lc c', e = .returned (.tuple #[.pointer (some ⟨t, 0, none⟩), .slice la 0 lc, .int .i64 0]) ∧ Stp (fun i => i = a) (fun i => i = a ∨ i = b) c c' w w' ∧ DgX (Cs c' a) d (newD m) w' ∧ TlX (Cs c' b) t d at_ n [] 0 w'
theorem dopen_new (hl : Low c w) {m : Nat} (hd : DgX (Cs c a) d (newD m) w) (a0 : a ≠ 0) (ab : a ≠ b) (hb0 : ∀ g, c g ≠ b) {at_ n : Nat} (hm : m ≤ 2000) (hn : at_ + n ≤ m) (hk : n ≤ 1000) {A B : Int} (hA : (at_ : Int) = A) (hB : (n : Int) = B) :
 Calls Tryz.prog 11 #[.pointer (some ⟨d, 0, none⟩), .int .i64 A, .int .i64 B] w (DoPost c a b w d at_ n m) := by
 subst hA hB
 refine (open_a (n := n) (at_ := at_) hd rfl (newD_fine m) (newD_byt m) (by rw [newD_len]; exact hm) (by rw [newD_len]; exact hn) hk).mono ?_
 intro e w' hp
 unfold OpPostA at hp
 rw [openE_new hn, show streamB [] = ([] : List Int) from rfl, clean_new hn, if_pos rfl] at hp
 obtain ⟨t, lv, es', A', B, C, rfl, rfl, h1, h2, h3, h4, h5, h6, h7, h8, h9, h10⟩ := hp
 obtain ⟨la, lc, rfl⟩ := h3.form
 have z := h4.size
 have hst1 : Stp (fun i => i = a) (fun i => i = a ∨ i = b) c (paint c (fun g => A' g ∧ w.heap.size ≤ g) a) w w' :=
  Stp.paint (N := fun g => A' g ∧ w.heap.size ≤ g) (i := a) (Stp.own (X := fun i => i = a) (K := fun i => i = a ∨ i = b) (i := a) hl h4 rfl) (fun g hg => ⟨hg.2, h1.lt g hg.1⟩) (.inl rfl)
 have hst2 : Stp (fun i => i = a) (fun i => i = a ∨ i = b) c (paint (paint c (fun g => A' g ∧ w.heap.size ≤ g) a) B b) w w' :=
  hst1.paint (fun g hg => ⟨h6 g hg, h2.lt g hg⟩) (.inr rfl)
 refine ⟨t, la, lc, _, rfl, hst2, h1.grow (fun g hg => ?_) fun g hg => ?_, ?_⟩
 · show paint (paint c (fun g => A' g ∧ w.heap.size ≤ g) a) B b g = a
   rw [paint_out (h8 g hg)]
   by_cases h : w.heap.size ≤ g
   · exact paint_in (N := fun g => A' g ∧ w.heap.size ≤ g) ⟨hg, h⟩
   · rw [paint_out (N := fun g => A' g ∧ w.heap.size ≤ g) (fun e => h e.2)]
     exact (h5 g hg).elim id fun e => absurd e h
 · have hg' : paint (paint c (fun g => A' g ∧ w.heap.size ≤ g) a) B b g = a := hg
   exact hst2.low g (by rw [hg']; exact a0)
 · have e : Cs (paint (paint c (fun g => A' g ∧ w.heap.size ≤ g) a) B b) b = B := by
    funext g
    apply propext
    constructor
    · intro hg
      have hg' : paint (paint c (fun g => A' g ∧ w.heap.size ≤ g) a) B b g = b := hg
      by_cases h : B g
      · exact h
      · rw [paint_out h] at hg'
        by_cases h2 : A' g ∧ w.heap.size ≤ g
        · rw [paint_in (N := fun g => A' g ∧ w.heap.size ≤ g) h2] at hg'
          exact absurd hg' ab
        · rw [paint_out (N := fun g => A' g ∧ w.heap.size ≤ g) h2] at hg'
          exact absurd hg' (hb0 g)
    · intro hg
      exact paint_in hg
   rw [e]
   exact h2
def DaPost (c : Nat → Nat) (a b : Nat) (w : World) (d : Nat) (t : Option Nat) (cf : PCf) (s : PSt) (p : PE) (e : Ending) (w' : World) : Prop :=
 e = .returned (.tuple #[.int .i64 ((s.es.length + 1 : Nat) : Int), .int .i64 0]) ∧ ∃ c', Stp (fun i => i = b) (fun i => i = b) c c' w w' ∧ Dt c' a b w' d t cf { s with es := s.es ++ [p] }
theorem dt_append {t' : Nat} (hD : Dt c a b w d (some t') cf s) (a0 : a ≠ 0) (b0 : b ≠ 0) (ab : a ≠ b) {k x : Int} (hm : (nE k x).may = true) (hr : (streamB s.es).length + 25 ≤ cf.n * 63) :
 Calls Tryz.prog 24 #[.pointer (some ⟨t', 0, none⟩), .agg #[.int .i64 k, .int .i64 x, .int .i64 0, .int .i64 0, .int .i64 0, .int .i64 0, .int .i64 0, .int .i64 0, .int .i64 0, .int .i64 0, .slice none 0 0, .slice none 0 0, .slice none 0 0, .slice none 0 0, .slice none 0 0, .slice none 0 0]] w (DaPost c a b w d (some t') cf s (nE k x)) := by
 have ht := hD.tr t' rfl
 refine (ap_ok (e := nE k x) (ov := .slice none 0 0) (nv := .slice none 0 0) (mv := .slice none 0 0) (lv := .slice none 0 0) (dv := .slice none 0 0) (pv := .slice none 0 0) ht (nE_is w (fun _ => True) k x) hm (by rw [nE_len]; exact hr) rfl).mono ?_
 rintro en w' ⟨rfl, h1, h2⟩
 have hst : Stp (fun i => i = b) (fun i => i = b) c (recol c w w' b) w w' := Stp.newer hD.low h2 rfl rfl
 refine ⟨rfl, _, hst, hst.low, ?_, fun t2 e => ?_, hD.trf, hD.fine, hD.byt, hD.len, hD.trl, hD.fit⟩
 · rw [recol_old hD.low a0 ab]
   exact hD.dk.only h2 fun g e1 e2 => by have e1' : c g = a := e1; have e2' : c g = b := e2; omega
 · cases e
   rw [recol_new hD.low b0]
   exact h1
end
end Go.Proofs.YtlcfoeikamkpmaaGreat

namespace Go.Proofs.YtlcfoeikamkpmaaGreat
open Go.RowKit Go.Wh Go.Maps

def cfB : PCf := ⟨0, 4, 8, 12, true⟩
def rowBa : List Int := rowB ⟨#[97]⟩ ⟨#[]⟩ ⟨#[]⟩
def sB0 : PSt := ⟨newD 20, [], 0, mkHd PFr.void 2⟩
def sB1 : PSt := (sB0.set cfB 1 0 rowBa 1).2
def sB2 : PSt := (sB1.page cfB 1).2.2
def sB3 : PSt := (sB2.flush cfB 1).2
theorem rowBa_len : rowBa.length = 26 := by kernel_rfl
theorem rowBa_byt : Byt rowBa := by
 intro z hz
 revert z
 decide
theorem b_set : (sB0.set cfB 1 0 rowBa 1).1 = 0 := by kernel_rfl
theorem b_page : (sB1.page cfB 1).1 = 0 ∧ (sB1.page cfB 1).2.1 = ⟨[rowBa, [], [], []], 1⟩ := by
 refine ⟨by kernel_rfl, by kernel_rfl⟩
theorem b_len : sB2.H.l.length ≤ 12 := by decide
theorem b_dirty : dirtyD sB2.H = [⟨1, 1⟩] := by kernel_rfl
theorem b_flush : (sB2.flush cfB 1).1 = 0 := by kernel_rfl
theorem b_len3 : sB3.H.l.length ≤ 12 := by decide
theorem b_none : dirtyD sB3.H = [] := by kernel_rfl
end Go.Proofs.YtlcfoeikamkpmaaGreat

namespace Go.Proofs.YtlcfoeikamkpmaaGreat
open Go.RowKit Go.Wh Go.Maps

def BTrue (W : World) (e : Ending) (w' : World) : Prop := e = .returned (.bool true) ∧ Still W w'
structure Lg (W : World) (c : Nat → Nat) (w : World) : Prop where
 still : Still W w
 hi : ∀ g, c g ≠ 0 → W.heap.size ≤ g
 low : Low c w
theorem Lg.start {W w : World} (h : Still W w) : Lg W (fun _ => 0) w := ⟨h, fun _ e => absurd rfl e, fun _ e => absurd rfl e⟩
theorem Lg.step {W w w' : World} {c c' : Nat → Nat} {X K : Nat → Prop} (h : Lg W c w) (hs : Stp X K c c' w w') (x0 : ¬ X 0) : Lg W c' w' := by
 refine ⟨h.still.andThen hs.only fun g hg e => ?_, fun g hg => ?_, hs.low⟩
 · by_cases h0 : c g = 0
   · rw [h0] at e
     exact x0 e
   · have := h.hi g h0
     omega
 · rcases Nat.lt_or_ge g w.heap.size with h1 | h1
   · rw [hs.old g h1] at hg
     exact h.hi g hg
   · have := h.still.size
     omega
theorem Lg.calm {W w w' : World} {c : Nat → Nat} (h : Lg W c w) (hs : Still w w') : Lg W c w' := h.step (X := fun _ => False) (K := fun _ => False) (Stp.still h.low hs) fun e => e
theorem Lg.none {c : Nat → Nat} {K : Nat → Prop} {X : Nat → Prop} {c' : Nat → Nat} {w w' : World} {j : Nat} (hs : Stp X K c c' w w') (hl : Low c w) (hj : ∀ g, c g ≠ j) (hk : ¬ K j) (j0 : j ≠ 0) : ∀ g, c' g ≠ j := fun g e => by
 have := hs.same hl j0 hk
 have h2 : Cs c' j g := e
 rw [this] at h2
 exact hj g h2
theorem row_slow {w w' : World} {c : Nat → Nat} {v : Value} {l : List Int} {n : Nat} (hl : Low c w) (hv : Vec w' 1 v n (bc l)) (hg : ∀ g, v.ownBlock = some g → w.heap.size ≤ g ∧ g < w'.heap.size) : Sl w' (fun g => c g = 0) 1 v n (bc l) :=
 Vec.sl hv fun g e => ⟨Classical.byContradiction fun h => by have := hl g h; have := (hg g e).1; omega, (hg g e).2⟩
theorem one_dirty {M : List Drt} {x : Drt} (h : M.Perm [x]) : M = [x] := List.perm_singleton.1 h
theorem dif1 : Dif 1 2 3 4 := ⟨by decide, by decide, by decide, by decide, by decide, by decide, by decide, by decide, by decide, by decide⟩
set_option maxHeartbeats 4000000 in
set_option maxRecDepth 100000 in
theorem begun_any (W : World) : Calls Tryz.prog 9 #[] W (BTrue W) := by
 have HN := Lib.hid (dnew_any (Lg.start (Still.refl W)).low 1 (fun _ e => by cases e) 20 (by decide) rfl)
 go_enter Tryz.func9, Tryz.ntmps9
 go_wp2_with fail
 refine HN.out.mono ?_
 rintro en w1 ⟨d, c1, rfl, hs1, hd1⟩
 have L1 := (Lg.start (Still.refl W)).step hs1 fun e => e
 have n2 := Lg.none (j := 2) hs1 (Lg.start (Still.refl W)).low (fun _ e => by cases e) (fun e => by cases e) (by decide)
 have HO := Lib.hid (dopen_new (b := 2) (m := 20) (at_ := 8) (n := 12) L1.low hd1 (by decide) (by decide) n2 (by decide) (by decide) (by decide) rfl rfl)
 have H1 := Lib.hid L1
 clear hs1 hd1 L1 n2 HN
 go_wp2_with fail
 refine HO.out.mono ?_
 rintro en w2 ⟨t, la, lc, c2, rfl, hs2, hd2, ht2⟩
 have L2 := H1.out.step hs2 fun e => by cases e
 have hD2 : Dt c2 1 2 w2 d (some t) cfB sB0 := ⟨L2.low, hd2, fun t' e => by cases e; exact ht2, rfl, newD_fine 20, newD_byt 20, by decide, fun _ => ⟨by decide, by decide⟩, by decide⟩
 have HNP := Lib.hid (pnew_any (m := 3) (r := 4) L2.low d (some t) cfB 2 2 rfl rfl rfl)
 have H2 := Lib.hid (And.intro L2 hD2)
 clear hs2 hd2 ht2 L2 hD2 HO
 go_wp2_with fail
 refine HNP.out.mono ?_
 rintro en w3 ⟨pb, c3, rfl, hs3, hp3⟩
 have L3 := H2.out.1.step hs3 fun e => e
 have hD3 := H2.out.2.keep hs3 (fun e => e) (fun e => e) (fun e => by cases e) (fun e => by cases e) (by decide) (by decide)
 have HRW := Lib.hid (row_any w3 ⟨#[97]⟩ ⟨#[]⟩ ⟨#[]⟩ 1 0 0 rfl rfl rfl (by decide) (by decide) (by decide) (by decide))
 have H3 := Lib.hid (And.intro L3 (And.intro hD3 hp3))
 clear hs3 hp3 L3 hD3 HNP
 go_wp2_with fail
 refine HRW.out.mono ?_
 rintro en w4 ⟨v, rfl, hv, hb, hg⟩
 have hs4 : Still w3 w4 := Still.of hb
 have hsl := row_slow H3.out.1.low hv hg
 have L4 := H3.out.1.calm hs4
 have hD4 := H3.out.2.1.still hs4 (by decide) (by decide)
 have hP4 := H3.out.2.2.still H3.out.1.low hs4 (by decide) (by decide)
 have HST := Lib.hid (pset_any (s := sB0) (a := 1) (b := 2) hD4 dif1 hP4 1 0 (bl := rowBa) hsl (fun g e => e) rowBa_byt 1)
 obtain ⟨va, vc, rfl⟩ := hv.form'
 have H4 := Lib.hid L4
 clear hv hb hg hs4 hsl L4 hD4 hP4 HRW
 go_wp2_with fail
 refine HST.out.mono ?_
 rintro en w5 ⟨he, c5, hs5, hD5, hP5⟩
 rw [b_set] at he
 subst he
 change Dt c5 1 2 w5 d (some t) cfB sB1 at hD5
 change PoAt c5 3 4 w5 pb d (some t) cfB sB1.H at hP5
 have L5 := H4.out.step hs5 fun e => by rcases e with e | e | e <;> cases e
 have HPG := Lib.hid (ppage_any (s := sB1) hD5 dif1 hP5 1)
 have H5 := Lib.hid L5
 clear hs5 hD5 hP5 L5 HST
 go_wp2_with fail
 refine HPG.out.mono ?_
 rintro en w6 ⟨v0, v1, v2, v3, he, c6, hs6, hD6, hP6, hpg⟩
 rw [b_page.1, b_page.2] at he
 rw [b_page.2] at hpg
 subst he
 change Dt c6 1 2 w6 d (some t) cfB sB2 at hD6
 change PoAt c6 3 4 w6 pb d (some t) cfB sB2.H at hP6
 have L6 := H5.out.step hs6 fun e => by rcases e with e | e | e <;> cases e
 have hv0 := hpg.at_ 0 v0 rowBa rfl rfl
 rw [rowBa_len] at hv0
 obtain ⟨xa, xc, rfl⟩ := hv0.form
 have HONE := Lib.hid (show (#[.slice xa 26 xc, v1, v2, v3, .int .i64 1] : Array Value).toList.all (·.oneCell') = true from by
  have := pg_one hpg
  rw [List.all_eq_true]
  intro y hy
  simp only [List.mem_cons, List.not_mem_nil, or_false] at hy
  rcases hy with rfl | rfl | rfl | rfl | rfl
  · exact this _ (by simp)
  · exact this _ (by simp)
  · exact this _ (by simp)
  · exact this _ (by simp)
  · rfl)
 have HCN := Lib.hid (fun w tt => cellsAt_new w [.slice none 0 0, .slice none 0 0, .slice none 0 0, .slice none 0 0, .int .i64 0] tt)
 have H6 := Lib.hid (And.intro L6 (And.intro hD6 hP6))
 clear hs6 hD6 hP6 L6 hv0 hpg HPG
 go_upto_region 9 with ((with_reducible (show wpList _ _ _ ({ dst := none, op := Op.store 36 _ _, type := _, pos := _, after := _, guard := _ } :: _) _ _)); (refine wpList_storeAgg rfl 36 _ _ rfl w6.heap.size #[.slice xa 26 xc, v1, v2, v3, .int .i64 1] rfl rfl (HCN.out _ _) size_page rfl HONE.out ?_; intro w7 hcf hof hzf; have H7 := Lib.hid (And.intro hcf (And.intro hof hzf)); clear hcf hof hzf))
 have hs7 : Still w6 w7 := ((Still.refl w6).alloc _).andThen H7.out.2.1 fun x hx e => by have e' : x = w6.heap.size := e; omega
 have L7 := H6.out.1.calm hs7
 have hD7 := H6.out.2.1.still hs7 (by decide) (by decide)
 have hP7 := H6.out.2.2.still H6.out.1.low hs7 (by decide) (by decide)
 have HDY := Lib.hid (pdirty_any (H := sB2.H) hP7 L7.low (by decide) (by decide) b_len)
 have H7' := Lib.hid (And.intro L7 (And.intro hD7 hP7))
 clear hs7 L7 hD7 hP7 HONE HCN
 go_wp2_with fail
 refine HDY.out.mono ?_
 rintro en w8 ⟨dv, M, rfl, hM, -, hdv, hs8, -⟩
 rw [b_dirty] at hM
 have hM1 := one_dirty hM
 subst hM1
 obtain ⟨ga, go, gc, rfl, hda⟩ := hdv.form (by decide)
 have y0 : w8.cell? ⟨ga, go, none⟩ = some (.int .i64 1) := hda.cells 0 (by decide)
 have y1 : w8.cell? ⟨ga, go + 1, none⟩ = some (.int .i64 1) := hda.cells 1 (by decide)
 have L8 := H7'.out.1.calm hs8
 have hD8 := H7'.out.2.1.still hs8 (by decide) (by decide)
 have hP8 := H7'.out.2.2.still H7'.out.1.low hs8 (by decide) (by decide)
 have hC8 := H7.out.1.only hs8 fun e => e
 have x0 : w8.cell? ⟨w6.heap.size, 0, none⟩ = some (.slice xa 26 xc) := hC8.cell 0
 have x4 : w8.cell? ⟨w6.heap.size, 4, none⟩ = some (.int .i64 1) := hC8.cell 4
 have HFL := Lib.hid (pflush_any (s := sB2) hD8 dif1 hP8 1)
 have H8 := Lib.hid L8
 clear hM hdv hda hs8 L8 hD8 hP8 hC8 HDY
 go_wp2_with fail
 refine HFL.out.mono ?_
 rintro en w9 ⟨he, c9, hs9, hD9, hP9⟩
 rw [b_flush] at he
 subst he
 change PoAt c9 3 4 w9 pb d (some t) cfB sB3.H at hP9
 have L9 := H8.out.step hs9 fun e => by rcases e with e | e | e <;> cases e
 have HDY := Lib.hid (pdirty_any (H := sB3.H) hP9 L9.low (by decide) (by decide) b_len3)
 have H9 := Lib.hid (And.intro L9 hP9)
 clear hs9 hD9 hP9 L9 HFL
 go_wp2_with fail
 refine HDY.out.mono ?_
 rintro en w10 ⟨ev, N, rfl, hN, -, hev, hs10, -⟩
 rw [b_none] at hN
 have hN1 : N = [] := List.perm_nil.1 hN
 subst hN1
 obtain ⟨ea, ec, rfl⟩ := hev.form'
 have hP10 := H9.out.2.still H9.out.1.low hs10 (by decide) (by decide)
 have HPS := Lib.hid (ppages_any hP10 (N := 4) rfl)
 have H10 := Lib.hid (H9.out.1.calm hs10)
 clear hN hev hs10 hP10 HDY
 go_wp2_with fail
 refine HPS.out.mono ?_
 rintro en w11 ⟨rfl, rfl⟩
 have F := Lib.hid (show BTrue W (.returned (.bool true)) w11 from ⟨rfl, H10.out.still⟩)
 clear HPS
 go_wp2_with fail
 go_ret
 exact F.out
end Go.Proofs.YtlcfoeikamkpmaaGreat

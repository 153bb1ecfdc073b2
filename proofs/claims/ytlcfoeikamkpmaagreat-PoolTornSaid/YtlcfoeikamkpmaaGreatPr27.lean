/- The dirty pages of a pool. Conditions: the pool lies in memory; it has at most twelve frames. What a hand shows: plain laws of look, touch, swap, put; the dirty pages. No program. No conditions. A pool on a disk that nothing cuts: what its operations show: plain. No program. No conditions. A pool made new; how many pages it has. Conditions: none. How many pages a pool has; what no pool answers. Conditions: none. How laws begin: a new disk, its trail, an entry noted; by colours. Conditions: none. -/
import Derived.Test.YtlcfoeikamkpmaaGreatPr26
namespace Go.Proofs.YtlcfoeikamkpmaaGreat
open Go.RowKit Go.Wh Go.Maps

section
variable {c : Nat → Nat} {m r : Nat} {w : World} {d : Nat} {t : Option Nat} {cf : PCf} {H : Hd PFr}
def dirtyK (H : Hd PFr) (k : Int) : Option Drt := match H.look k with
 | some f => if f.dirty = true then some ⟨k, f.rec_⟩ else none
 | none => none
def dirtyN (H : Hd PFr) (i : Nat) : List Drt := (H.keys.take i).filterMap (dirtyK H)
def dirtyD (H : Hd PFr) : List Drt := H.keys.filterMap (dirtyK H)
theorem dirtyN_next {i : Nat} {k : Int} (h : H.keys[i]? = some k) : dirtyN H (i + 1) = dirtyN H i ++ (dirtyK H k).toList := by
 unfold dirtyN
 rw [List.take_add_one, h, List.filterMap_append]
 cases e : dirtyK H k <;> simp [e]
theorem dirtyN_len (i : Nat) : (dirtyN H i).length ≤ i := by
 unfold dirtyN
 have h1 := List.length_filterMap_le (dirtyK H) (H.keys.take i)
 rw [List.length_take] at h1
 omega
theorem keys_len : H.keys.length ≤ H.l.length := by
 unfold Hd.keys
 rw [List.length_map]
 exact List.length_filter_le _ _
def DyPost (w : World) (H : Hd PFr) (e : Ending) (w' : World) : Prop :=
 ∃ v M, e = .returned v ∧ M.Perm (dirtyD H) ∧ DSorted M ∧ Vec w' 2 v M.length (dflat M) ∧ Still w w' ∧ ∀ g, v.ownBlock = some g → w.heap.size ≤ g ∧ g < w'.heap.size
theorem info_dirty : (Tryz.prog.info? 49).map (fun i => (i.zero, i.size, i.bytes)) = some (some (.agg #[.int .i64 0, .int .i64 0]), 2, 16) := by kernel_rfl
set_option maxHeartbeats 4000000 in
set_option maxRecDepth 100000 in
theorem pdirty_any {pb : Nat} (hP : PoAt c m r w pb d t cf H) (hl : Low c w) (m0 : m ≠ 0) (r0 : r ≠ 0) (h12 : H.l.length ≤ 12) :
 Calls Tryz.prog 19 #[.pointer (some ⟨pb, 0, none⟩)] w (DyPost w H) := by
 obtain ⟨ti, hi0, hi1, hi2, hi3⟩ := info_parts info_dirty
 have HI := Lib.hid (And.intro hi0 (And.intro hi1 (And.intro hi2 hi3)))
 have HLK := Lib.hid (fun w' (hs : Still w w') k => plook_any (hP.still hl hs m0 r0) k)
 obtain ⟨⟨hb, g, o, n, cap, Hv, hcp, hha, hrel, -⟩, -⟩ := hP
 have hk := hrel.keys
 have HKY := Lib.hid (hkeys_any hha)
 rw [hk] at HKY
 have HKL := Lib.hid (show H.keys.length ≤ 12 from Nat.le_trans keys_len h12)
 have p4 : w.cell? ⟨pb, 4, none⟩ = some (.pointer (some ⟨hb, 0, none⟩)) := hcp.cell 4
 clear hha hrel hcp hl m0 r0 h12 hi0 hi1 hi2 hi3 hk
 go_enter Tryz.func19, Tryz.ntmps19
 go_upto_region 4 with fail
 go_wp2_with fail
 refine HKY.out.mono ?_
 rintro e w1 ⟨vk, rfl, hvk, hb1, hf1⟩
 have HS1 := Lib.hid (show Still w w1 from Still.of hb1)
 have HVK := Lib.hid (And.intro hvk hf1)
 obtain ⟨ka, kc, rfl⟩ := hvk.form'
 obtain ⟨kl, hkl⟩ : ∃ kl, H.keys.length = kl := ⟨_, rfl⟩
 have HKN := Lib.hid hkl
 rw [hkl] at HKL HVK
 rw [hkl]
 clear hvk hb1 hf1 HKY p4 hkl
 go_upto_region 5 with fail
 go_loopw [3, 16] (fun s3 s16 wr => ∃ i : Nat, s16 = .int .i64 i ∧ i ≤ kl ∧ Still w1 wr ∧ Vec wr 2 s3 (dirtyN H i).length (dflat (dirtyN H i)) ∧ ∀ b, s3.ownBlock = some b → w1.heap.size ≤ b ∧ b < wr.heap.size) (fun _ s16 _ => kl - (intOf s16).toNat)
 case atStart => exact ⟨0, rfl, Nat.zero_le _, Still.refl _, Vec.nil _ _, fun b e => by cases e⟩
 obtain ⟨i, rfl, hin, hs, hv, hf⟩ := hrel
 obtain ⟨va, vc, rfl⟩ := hv.form'
 have HR := Lib.hid (And.intro hs (And.intro hv hf))
 by_cases hi : i < kl
 rotate_left
 · have d1 : decide ((i : Int) < (kl : Int)) = false := decide_eq_false (by omega)
   have d2 : decide (i < kl) = false := decide_eq_false hi
   have hall : dirtyN H i = dirtyD H := by
    unfold dirtyN dirtyD
    rw [List.take_of_length_le (by rw [HKN.out]; omega)]
   have HSO := Lib.hid (sortf_small (.slice va (dirtyN H i).length vc) (dirtyN H i).length (dirtyN H i) wr hv rfl (by have := dirtyN_len (H := H) i; have := HKL.out; omega))
   have HALL := Lib.hid hall
   clear hs hv hf hi hin hall
   go_wp2_with fail
   refine HSO.out.mono ?_
   rintro e w3 ⟨rfl, M, hperm, hsort, hv3, ho3⟩
   have F := Lib.hid (show DyPost w H (.returned (.slice va (dirtyN H i).length vc)) w3 from by
    have hlen : (dirtyN H i).length = M.length := hperm.length_eq.symm
    refine ⟨_, M, rfl, by rw [← HALL.out]; exact hperm, hsort, by rw [← hlen]; simpa using hv3, ((HS1.out.trans HR.out.1).andThen ho3 fun x hx e => ?_), fun b hb => ?_⟩
    · have := (HR.out.2.2 x e).1
      have := HS1.out.size
      omega
    · have := HR.out.2.2 b hb
      have := HS1.out.size
      have := ho3.size
      omega)
   clear hperm hsort hv3 ho3 HSO
   go_wp2_with fail
   go_ret
   exact F.out
 have d1 : decide ((i : Int) < (kl : Int)) = true := decide_eq_true (by omega)
 have d2 : decide (i < kl) = true := decide_eq_true hi
 have i0 : (0 : Int) ≤ (i : Int) := by omega
 have i1 : (i : Int) < (kl : Int) := by omega
 have u9 : IntKind.i64.wrap ((i : Int) + 1) = (i : Int) + 1 := IntWalk.i64_in _ (by have := HKL.out; omega)
 obtain ⟨k, hk⟩ : ∃ k, H.keys[i]? = some k := ⟨_, List.getElem?_eq_getElem (by rw [HKN.out]; exact hi)⟩
 have hsk := (Vec.sl0 HVK.out.1 (by decide)).still hs
 obtain ⟨gk, ok, c', e, -, -, hcs⟩ := hsk.pos (by omega)
 cases e
 have p0 : wr.cell? ⟨gk, ok + i, none⟩ = some (.int .i64 k) := hcs i _ (by unfold kiC; rw [List.getElem?_map, hk]; rfl)
 have HNX := Lib.hid (dirtyN_next hk)
 have HII := Lib.hid (And.intro hi (dirtyN_len (H := H) i))
 have HLK1 := Lib.hid (HLK.out wr (HS1.out.trans hs) k)
 clear hs hv hf hsk hcs hi hin hk
 go_upto_region 7 with fail
 go_wp2_with fail
 refine HLK1.out.mono ?_
 intro e w3 hp
 obtain ⟨hs3, hp⟩ := hp
 have HC6 := Lib.hid (fun w tt => cellsAt_new w frZ tt)
 have HS3 := Lib.hid hs3
 clear hs3 p0
 have HSAME := Lib.hid (fun (w4 : World) (hs4 : Still w3 w4) (hno : dirtyK H k = none) => show Still w1 w4 ∧ Vec w4 2 (.slice va (dirtyN H i).length vc) (dirtyN H (i + 1)).length (dflat (dirtyN H (i + 1))) ∧ ∀ b, (Value.slice va (dirtyN H i).length vc).ownBlock = some b → w1.heap.size ≤ b ∧ b < w4.heap.size from by
  have hs := HS3.out.trans hs4
  rw [HNX.out, hno]
  simp only [Option.toList_none, List.append_nil]
  exact ⟨HR.out.1.trans hs, HR.out.2.1.belowAll (Only.below hs (Nat.le_refl _) fun _ _ e => e), fun b hb => by have := HR.out.2.2 b hb; have := hs.size; omega⟩)
 rcases hp with ⟨hn, rfl⟩ | ⟨f, u0, u1', u2', u3', hkf, rfl, hpg⟩
 · have hdk : dirtyK H k = none := by unfold dirtyK; rw [hn]
   have HDK := Lib.hid hdk
   clear hn hdk
   go_upto_region 8 with ((with_reducible (show wpList _ _ _ ({ dst := none, op := Op.store 100 _ _, type := _, pos := _, after := _, guard := _ } :: _) _ _)); (refine wpList_storeAgg rfl 100 _ _ rfl w3.heap.size #[.slice none 0 0, .slice none 0 0, .slice none 0 0, .slice none 0 0, .int .i64 0, .bool false, .int .i64 0] rfl rfl (HC6.out _ _) size_fr rfl rfl ?_; intro w4 hcf hof hzf; have H4 := Lib.hid (And.intro hcf (And.intro hof hzf)); clear hcf hof hzf))
   obtain ⟨b6, hb6⟩ : ∃ b, w3.heap.size = b := ⟨_, rfl⟩
   rw [hb6] at H4
   rw [hb6]
   have HN := Lib.hid (HSAME.out w4 (((Still.refl w3).alloc _).andThen H4.out.2.1 fun x hx e => by have e' : x = b6 := e; omega) HDK.out)
   have q5 : w4.cell? ⟨b6, 5, none⟩ = some (.bool false) := H4.out.1.cell 5
   clear hb6
   go_wp2_with fail
   go_roundw
   case rel => exact ⟨i + 1, by go_num, by have := HII.out.1; omega, HN.out⟩
   case measure => first | (simp [intOf]; done) | (simp [intOf]; have := HII.out.1; omega)
 · obtain ⟨z, hz⟩ : ∃ z, f.p.lsn = z := ⟨_, rfl⟩
   obtain ⟨dd, hdd⟩ : ∃ z, f.dirty = z := ⟨_, rfl⟩
   obtain ⟨rr, hrr⟩ : ∃ z, f.rec_ = z := ⟨_, rfl⟩
   rw [hz, hdd, hrr]
   have hdk : dirtyK H k = if dd = true then some ⟨k, rr⟩ else none := by
    unfold dirtyK
    rw [hkf]
    simp only
    rw [hdd, hrr]
   have HDK := Lib.hid hdk
   have HONE7 := Lib.hid (show (#[u0, u1', u2', u3', .int .i64 z, .bool dd, .int .i64 rr] : Array Value).toList.all (·.oneCell') = true from by
    have := pg_one hpg
    rw [List.all_eq_true]
    intro y hy
    simp only [List.mem_cons, List.not_mem_nil, or_false] at hy
    rcases hy with rfl | rfl | rfl | rfl | rfl | rfl | rfl
    · exact this _ (by simp)
    · exact this _ (by simp)
    · exact this _ (by simp)
    · exact this _ (by simp)
    · rfl
    · rfl
    · rfl)
   clear hkf hpg hz hdd hrr hdk
   go_upto_region 8 with ((with_reducible (show wpList _ _ _ ({ dst := none, op := Op.store 100 _ _, type := _, pos := _, after := _, guard := _ } :: _) _ _)); (refine wpList_storeAgg rfl 100 _ _ rfl w3.heap.size #[u0, u1', u2', u3', .int .i64 z, .bool dd, .int .i64 rr] rfl rfl (HC6.out _ _) size_fr rfl HONE7.out ?_; intro w4 hcf hof hzf; have H4 := Lib.hid (And.intro hcf (And.intro hof hzf)); clear hcf hof hzf))
   obtain ⟨b6, hb6⟩ : ∃ b, w3.heap.size = b := ⟨_, rfl⟩
   rw [hb6] at H4
   rw [hb6]
   have HS4 := Lib.hid (show Still w3 w4 from ((Still.refl w3).alloc _).andThen H4.out.2.1 fun x hx e => by have e' : x = b6 := e; omega)
   have q5 : w4.cell? ⟨b6, 5, none⟩ = some (.bool dd) := H4.out.1.cell 5
   have q6 : w4.cell? ⟨b6, 6, none⟩ = some (.int .i64 rr) := H4.out.1.cell 6
   clear hb6
   cases dd with
   | false =>
    have HN := Lib.hid (HSAME.out w4 HS4.out HDK.out)
    go_wp2_with fail
    go_roundw
    case rel => exact ⟨i + 1, by go_num, by have := HII.out.1; omega, HN.out⟩
    case measure => first | (simp [intOf]; done) | (simp [intOf]; have := HII.out.1; omega)
   | true =>
    have HB1 := Lib.hid (show (dirtyN H i).length + 1 ≤ maxLen from by have := HII.out.2; have := HII.out.1; have := HKL.out; simp only [maxLen]; omega)
    have HB2 := Lib.hid (show ((dirtyN H i).length + 1) * 16 ≤ 140737488355328 from by have := HII.out.2; have := HII.out.1; have := HKL.out; omega)
    have HV4 := Lib.hid (HR.out.2.1.belowAll (Only.below (HS3.out.trans HS4.out) (Nat.le_refl _) fun _ _ e => e))
    have HNN := Lib.hid (fun v5 w5 ob (hv5 : Vec w5 2 v5 ((dirtyN H i).length + 1) (dflat (dirtyN H i) ++ [.int .i64 k, .int .i64 rr])) (ho5 : Only (fun k => (Value.slice va (dirtyN H i).length vc).ownBlock = some k) (w4.alloc ob) w5) (hb5 : v5.ownBlock = (Value.slice va (dirtyN H i).length vc).ownBlock ∨ ∃ g, v5.ownBlock = some g ∧ (w4.alloc ob).heap.size ≤ g ∧ g < w5.heap.size) => show Still w1 w5 ∧ Vec w5 2 v5 (dirtyN H (i + 1)).length (dflat (dirtyN H (i + 1))) ∧ ∀ b, v5.ownBlock = some b → w1.heap.size ≤ b ∧ b < w5.heap.size from by
     have s1 : Still w1 (w4.alloc ob) := ((HR.out.1.trans HS3.out).trans HS4.out).alloc ob
     have hz : (w4.alloc ob).heap.size = w4.heap.size + 1 := by simp
     obtain ⟨s5, f5⟩ := append_fresh s1 (fun b hb => by have := HR.out.2.2 b hb; have := HS3.out.size; have := HS4.out.size; omega) ho5 hb5
     refine ⟨s5, ?_, f5⟩
     rw [HNX.out, HDK.out, if_pos rfl]
     simp only [Option.toList_some, List.length_append, List.length_singleton, dflat_append]
     exact hv5)
    go_wp2_with (at_builtin; refine wpList_append_vec rfl _ _ 45 rfl 49 ti _ 2 16 Tryz.underlying45 HI.out.1 HI.out.2.1 HI.out.2.2.1 HI.out.2.2.2 rfl (by decide) (.slice va (dirtyN H i).length vc) (dirtyN H i).length (dflat (dirtyN H i)) (by simp [Act.eval]) (HV4.out.alloc _) (.slice (some ⟨w4.heap.size, 0, none⟩) 1 1) 1 [.int .i64 k, .int .i64 rr] (by simp [Act.eval]) ((cellsAt_new w4 [.int .i64 k, .int .i64 rr] _).reads rfl) (by intro u hu; simp at hu; rcases hu with rfl | rfl <;> rfl) HB1.out HB2.out ?_; intro v5 w5 hv5 ho5 hb5; have HN := Lib.hid (HNN.out v5 w5 _ hv5 ho5 hb5); clear hv5 ho5 hb5)
    go_roundw
    case rel => exact ⟨i + 1, by go_num, by have := HII.out.1; omega, HN.out⟩
    case measure => first | (simp [intOf]; done) | (simp [intOf]; have := HII.out.1; omega)
end
end Go.Proofs.YtlcfoeikamkpmaaGreat

namespace Go.Proofs.YtlcfoeikamkpmaaGreat
open Go.Wh

section
variable {V : Type}
def Pl.core (x : Pl V) : Int × V × Bool := (x.k, x.v, x.has)
def coreL (l : List (Pl V)) : List (Int × V × Bool) := l.map Pl.core
structure Hd.nice (h : Hd V) : Prop where
 uni : ∀ (i j : Nat) (x y : Pl V), h.l[i]? = some x → h.l[j]? = some y → x.has = true → y.has = true → x.k = y.k → i = j
 lt : h.at_ < h.l.length
theorem look_iff {h : Hd V} (hn : h.nice) {k : Int} {v : V} : h.look k = some v ↔ ∃ (i : Nat) (x : Pl V), h.l[i]? = some x ∧ x.has = true ∧ x.k = k ∧ x.v = v := by
 unfold Hd.look
 constructor
 · intro e
   cases hx : h.l[fdI (isK k) h.l]? with
   | none => rw [hx] at e; cases e
   | some x =>
    rw [hx] at e
    have hlt : fdI (isK k) h.l < h.l.length := (List.getElem?_eq_some_iff.1 hx).1
    obtain ⟨y, hy, hp⟩ := fdI_lt hlt
    rw [hx] at hy
    cases hy
    unfold isK at hp
    simp only [Bool.and_eq_true, beq_iff_eq] at hp
    exact ⟨_, x, hx, hp.1, hp.2, Option.some.inj e⟩
 · rintro ⟨i, x, hx, h1, h2, rfl⟩
   have hp : isK k x = true := by
    unfold isK
    rw [h1, h2]
    simp
   have e : fdI (isK k) h.l = i := fdI_at (fun j y hj hy => by
    by_cases hq : isK k y = true
    · exfalso
      unfold isK at hq
      simp only [Bool.and_eq_true, beq_iff_eq] at hq
      have := hn.uni i j x y hx hy h1 hq.1 (by rw [h2, hq.2])
      omega
    · simpa using hq) hx hp
   rw [e, hx]
   rfl
theorem core_get {l m : List (Pl V)} (h : coreL l = coreL m) {i : Nat} {x : Pl V} (hx : l[i]? = some x) : ∃ y, m[i]? = some y ∧ y.has = x.has ∧ y.k = x.k ∧ y.v = x.v := by
 have e : (coreL m)[i]? = some x.core := by
  rw [← h]
  unfold coreL
  rw [List.getElem?_map, hx]
  rfl
 unfold coreL at e
 rw [List.getElem?_map] at e
 cases hy : m[i]? with
 | none => rw [hy] at e; cases e
 | some y =>
  rw [hy] at e
  have e2 : y.core = x.core := Option.some.inj e
  unfold Pl.core at e2
  injection e2 with a b
  injection b with b c
  exact ⟨y, rfl, c, a, b⟩
theorem nice_core {h g : Hd V} (hc : coreL g.l = coreL h.l) (hn : h.nice) (hl : g.at_ < h.l.length) : g.nice := by
 refine ⟨fun i j x y hx hy h1 h2 h3 => ?_, ?_⟩
 · obtain ⟨x', a1, a2, a3, a4⟩ := core_get hc hx
   obtain ⟨y', b1, b2, b3, b4⟩ := core_get hc hy
   exact hn.uni i j x' y' a1 b1 (by rw [a2]; exact h1) (by rw [b2]; exact h2) (by rw [a3, b3]; exact h3)
 · have : (coreL g.l).length = (coreL h.l).length := by rw [hc]
   unfold coreL at this
   rw [List.length_map, List.length_map] at this
   omega
theorem core_len {l m : List (Pl V)} (h : coreL l = coreL m) : l.length = m.length := by
 have : (coreL l).length = (coreL m).length := by rw [h]
 unfold coreL at this
 rwa [List.length_map, List.length_map] at this
theorem look_core {h g : Hd V} (hc : coreL g.l = coreL h.l) (hn : h.nice) (gn : g.nice) (k : Int) : g.look k = h.look k := by
 apply Option.ext
 intro v
 rw [look_iff hn, look_iff gn]
 constructor
 · rintro ⟨i, x, hx, h1, h2, h3⟩
   obtain ⟨y, a1, a2, a3, a4⟩ := core_get hc hx
   exact ⟨i, y, a1, by rw [a2]; exact h1, by rw [a3]; exact h2, by rw [a4]; exact h3⟩
 · rintro ⟨i, x, hx, h1, h2, h3⟩
   obtain ⟨y, a1, a2, a3, a4⟩ := core_get hc.symm hx
   exact ⟨i, y, a1, by rw [a2]; exact h1, by rw [a3]; exact h2, by rw [a4]; exact h3⟩
theorem modI_core {f : Pl V → Pl V} (hf : ∀ x, (f x).core = x.core) : ∀ (i : Nat) (l : List (Pl V)), coreL (modI f i l) = coreL l
 | _, [] => by simp [modI]
 | 0, x :: l => by simp [modI, coreL, hf x]
 | i + 1, x :: l => by
  have := modI_core hf i l
  unfold coreL at this ⊢
  simp [modI, this]
theorem turn_core : ∀ (n : Nat) (h : Hd V), h.at_ < h.l.length → coreL (h.turn n).2.l = coreL h.l ∧ (h.turn n).2.at_ < h.l.length ∧ (h.turn n).1 < h.l.length
 | 0, h, hl => ⟨rfl, hl, hl⟩
 | n + 1, h, hl => by
  unfold Hd.turn
  have hm : (h.at_ + 1) % h.l.length < h.l.length := Nat.mod_lt _ (by omega)
  cases e : h.l[h.at_]? with
  | none => exact ⟨rfl, hl, hl⟩
  | some x =>
   simp only
   split
   · exact ⟨rfl, hm, hl⟩
   · have hlen : (modI Pl.off h.at_ h.l).length = h.l.length := modI_length _ _ _
     obtain ⟨a1, a2, a3⟩ := turn_core n ⟨modI Pl.off h.at_ h.l, (h.at_ + 1) % h.l.length⟩ (by rw [hlen]; exact hm)
     refine ⟨a1.trans (modI_core (f := Pl.off) (fun _ => rfl) _ _), ?_, ?_⟩
     · have := a2
       dsimp only at this
       rw [hlen] at this
       exact this
     · have := a3
       dsimp only at this
       rw [hlen] at this
       exact this
theorem touch_spec {h : Hd V} (hn : h.nice) (k : Int) : (h.touch k).nice ∧ (h.touch k).l.length = h.l.length ∧ ∀ k', (h.touch k).look k' = h.look k' := by
 have hc : coreL (h.touch k).l = coreL h.l := modI_core (f := Pl.on) (fun _ => rfl) _ _
 have hn' := nice_core (g := h.touch k) hc hn hn.lt
 exact ⟨hn', core_len hc, look_core hc hn hn'⟩
theorem modI_get {f : Pl V → Pl V} : ∀ (i : Nat) (l : List (Pl V)) (j : Nat), (modI f i l)[j]? = if j = i then l[j]?.map f else l[j]?
 | _, [], j => by simp [modI]
 | 0, x :: l, j => by
  cases j with
  | zero => simp [modI]
  | succ j => simp [modI]
 | i + 1, x :: l, j => by
  cases j with
  | zero => simp [modI]
  | succ j =>
   simp only [modI, List.getElem?_cons_succ, Nat.add_right_cancel_iff]
   exact modI_get i l j
theorem mod_spec {h : Hd V} (hn : h.nice) (k : Int) (v : V) {f : Pl V → Pl V} (hf : ∀ x, (f x).core = (x.k, v, x.has)) (a : Nat) (ha : a < h.l.length) :
 Hd.nice ⟨modI f (fdI (isK k) h.l) h.l, a⟩ ∧ ∀ k', Hd.look ⟨modI f (fdI (isK k) h.l) h.l, a⟩ k' = if k' = k ∧ (h.look k).isSome = true then some v else h.look k' := by
 have f1 : ∀ x, (f x).k = x.k ∧ (f x).v = v ∧ (f x).has = x.has := fun x => by
  have := hf x
  unfold Pl.core at this
  injection this with a b
  injection b with b c
  exact ⟨a, b, c⟩
 have hget : ∀ {j : Nat} {y : Pl V}, (modI f (fdI (isK k) h.l) h.l)[j]? = some y → ∃ x, h.l[j]? = some x ∧ y.k = x.k ∧ y.has = x.has ∧ (j = fdI (isK k) h.l → y.v = v) ∧ (j ≠ fdI (isK k) h.l → y.v = x.v) := by
  intro j y hy
  rw [modI_get] at hy
  split at hy
  · rename_i hj
    cases hx : h.l[j]? with
    | none => rw [hx] at hy; cases hy
    | some x =>
     rw [hx] at hy
     have e : f x = y := Option.some.inj hy
     subst e
     exact ⟨x, rfl, (f1 x).1, (f1 x).2.2, fun _ => (f1 x).2.1, fun e => absurd hj e⟩
  · rename_i hj
    exact ⟨y, hy, rfl, rfl, fun e => absurd e hj, fun _ => rfl⟩
 have hn' : Hd.nice (⟨modI f (fdI (isK k) h.l) h.l, a⟩ : Hd V) := by
  refine ⟨fun i j x y hx hy h1 h2 h3 => ?_, by show a < (modI _ _ _).length; rw [modI_length]; exact ha⟩
  obtain ⟨x', a1, a2, a3, -⟩ := hget hx
  obtain ⟨y', b1, b2, b3, -⟩ := hget hy
  exact hn.uni i j x' y' a1 b1 (by rw [← a3]; exact h1) (by rw [← b3]; exact h2) (by rw [← a2, ← b2]; exact h3)
 have hat : ∀ {i : Nat} {x : Pl V}, h.l[i]? = some x → x.has = true → x.k = k → fdI (isK k) h.l = i := by
  intro i x hx h1 h2
  have hlt : fdI (isK k) h.l < h.l.length := by
   rcases Nat.lt_or_ge (fdI (isK k) h.l) h.l.length with hq | hq
   · exact hq
   · exfalso
     have hi := (List.getElem?_eq_some_iff.1 hx).1
     have := fdI_no (p := isK k) (l := h.l) (i := i) (x := x) (by omega) hx
     unfold isK at this
     rw [h1, h2] at this
     simp at this
  obtain ⟨y, hy, hp⟩ := fdI_lt hlt
  unfold isK at hp
  simp only [Bool.and_eq_true, beq_iff_eq] at hp
  exact hn.uni _ _ y x hy hx hp.1 h1 (by rw [hp.2, h2])
 refine ⟨hn', fun k' => ?_⟩
 apply Option.ext
 intro u
 rw [look_iff hn']
 constructor
 · rintro ⟨j, y, hy, h1, h2, h3⟩
   obtain ⟨x, a1, a2, a3, a4, a5⟩ := hget hy
   by_cases hk : k' = k
   · have hj := hat a1 (by rw [← a3]; exact h1) (by rw [← a2, h2, hk])
     have hsome : h.look k = some x.v := (look_iff hn).2 ⟨j, x, a1, by rw [← a3]; exact h1, by rw [← a2, h2, hk], rfl⟩
     rw [if_pos ⟨hk, by rw [hsome]; rfl⟩, ← h3, a4 hj.symm]
   · rw [if_neg (fun e => hk e.1)]
     by_cases hj : j = fdI (isK k) h.l
     · exfalso
       have hi := (List.getElem?_eq_some_iff.1 a1).1
       obtain ⟨z, hz, hp⟩ := fdI_lt (p := isK k) (l := h.l) (by omega)
       rw [← hj, a1] at hz
       cases hz
       unfold isK at hp
       simp only [Bool.and_eq_true, beq_iff_eq] at hp
       exact hk (by rw [← h2, a2, hp.2])
     · exact (look_iff hn).2 ⟨j, x, a1, by rw [← a3]; exact h1, by rw [← a2]; exact h2, by rw [← a5 hj]; exact h3⟩
 · intro e
   split at e
   · rename_i hc
     obtain ⟨hk, hs⟩ := hc
     cases e
     cases hl : h.look k with
     | none => rw [hl] at hs; cases hs
     | some z =>
      obtain ⟨i, x, hx, h1, h2, h3⟩ := (look_iff hn).1 hl
      have hi := hat hx h1 h2
      refine ⟨i, f x, ?_, by rw [(f1 x).2.2]; exact h1, by rw [(f1 x).1, h2, hk], (f1 x).2.1⟩
      show (modI f (fdI (isK k) h.l) h.l)[i]? = _
      rw [modI_get, if_pos hi.symm, hx]
      rfl
   · rename_i hc
     obtain ⟨i, x, hx, h1, h2, h3⟩ := (look_iff hn).1 e
     by_cases hi : i = fdI (isK k) h.l
     · exfalso
       have hil := (List.getElem?_eq_some_iff.1 hx).1
       obtain ⟨z, hz, hp⟩ := fdI_lt (p := isK k) (l := h.l) (by omega)
       rw [← hi, hx] at hz
       cases hz
       unfold isK at hp
       simp only [Bool.and_eq_true, beq_iff_eq] at hp
       refine hc ⟨by rw [← h2, hp.2], ?_⟩
       rw [(look_iff hn).2 ⟨i, x, hx, hp.1, hp.2, rfl⟩]
       rfl
     · refine ⟨i, x, ?_, h1, h2, h3⟩
       show (modI f (fdI (isK k) h.l) h.l)[i]? = _
       rw [modI_get, if_neg hi]
       exact hx
theorem swap_spec {h : Hd V} (hn : h.nice) (k : Int) (v : V) : (h.swap k v).nice ∧ (h.swap k v).l.length = h.l.length ∧ ∀ k', (h.swap k v).look k' = if k' = k ∧ (h.look k).isSome = true then some v else h.look k' := by
 obtain ⟨a1, a2⟩ := mod_spec hn k v (f := (·.swap v)) (fun x => rfl) h.at_ hn.lt
 exact ⟨a1, modI_length _ _ _, a2⟩
theorem set_spec {h : Hd V} (hn : h.nice) (k : Int) (v : V) (hk : h.look k = none) (i : Nat) (z : Pl V) (hz : h.l[i]? = some z) (a : Nat) (ha : a < h.l.length) :
 Hd.nice ⟨h.l.set i ⟨k, v, true, true⟩, a⟩ ∧ ∀ k', Hd.look ⟨h.l.set i ⟨k, v, true, true⟩, a⟩ k' = if k' = k then some v else if z.has = true ∧ k' = z.k then none else h.look k' := by
 have hi := (List.getElem?_eq_some_iff.1 hz).1
 have hno : ∀ {j : Nat} {y : Pl V}, h.l[j]? = some y → y.has = true → y.k ≠ k := fun {j y} hy h1 h2 => by
  rw [(look_iff hn).2 ⟨j, y, hy, h1, h2, rfl⟩] at hk
  cases hk
 have hget : ∀ {j : Nat} {y : Pl V}, (h.l.set i ⟨k, v, true, true⟩)[j]? = some y → (j = i ∧ y = ⟨k, v, true, true⟩) ∨ (j ≠ i ∧ h.l[j]? = some y) := by
  intro j y hy
  by_cases hj : j = i
  · subst hj
    rw [List.getElem?_set_self hi] at hy
    exact .inl ⟨rfl, (Option.some.inj hy).symm⟩
  · rw [List.getElem?_set_ne (Ne.symm hj)] at hy
    exact .inr ⟨hj, hy⟩
 have hn' : Hd.nice (⟨h.l.set i ⟨k, v, true, true⟩, a⟩ : Hd V) := by
  refine ⟨fun p q x y hx hy h1 h2 h3 => ?_, by show a < (List.set _ _ _).length; rw [List.length_set]; exact ha⟩
  rcases hget hx with ⟨rfl, rfl⟩ | ⟨e1, x1⟩
  · rcases hget hy with ⟨rfl, rfl⟩ | ⟨e2, y1⟩
    · rfl
    · exact absurd h3.symm (hno y1 h2)
  · rcases hget hy with ⟨rfl, rfl⟩ | ⟨e2, y1⟩
    · exact absurd h3 (hno x1 h1)
    · exact hn.uni p q x y x1 y1 h1 h2 h3
 refine ⟨hn', fun k' => ?_⟩
 apply Option.ext
 intro u
 rw [look_iff hn']
 constructor
 · rintro ⟨j, y, hy, h1, h2, h3⟩
   rcases hget hy with ⟨rfl, rfl⟩ | ⟨e1, y1⟩
   · rw [if_pos h2.symm, ← h3]
   · rw [if_neg (fun e => hno y1 h1 (by rw [h2, e])), if_neg (fun e => e1 (hn.uni j i y z y1 hz h1 e.1 (by rw [h2, e.2])))]
     exact (look_iff hn).2 ⟨j, y, y1, h1, h2, h3⟩
 · intro e
   split at e
   · rename_i hc
     cases e
     refine ⟨i, ⟨k, v, true, true⟩, ?_, rfl, hc.symm, rfl⟩
     show (h.l.set i _)[i]? = _
     rw [List.getElem?_set_self hi]
   · rename_i hc
     split at e
     · cases e
     · rename_i hd
       obtain ⟨j, x, hx, h1, h2, h3⟩ := (look_iff hn).1 e
       refine ⟨j, x, ?_, h1, h2, h3⟩
       show (h.l.set i _)[j]? = _
       rw [List.getElem?_set_ne (fun e => by
        subst e
        rw [hz] at hx
        cases hx
        exact hd ⟨h1, h2.symm⟩)]
       exact hx
theorem put_spec {h : Hd V} (hn : h.nice) (void : V) (k : Int) (v : V) : (h.put void k v).2.nice ∧ (h.put void k v).2.l.length = h.l.length ∧
 (((h.put void k v).1 = (0, void, false) ∧ ((h.look k).isSome = true ∨ ∃ x ∈ h.l, x.has = false) ∧ ∀ k', (h.put void k v).2.look k' = if k' = k then some v else h.look k') ∨
  (h.look k = none ∧ (∀ x ∈ h.l, x.has = true) ∧ ∃ k0 v0, k0 ≠ k ∧ (h.put void k v).1 = (k0, v0, true) ∧ h.look k0 = some v0 ∧ ∀ k', (h.put void k v).2.look k' = if k' = k then some v else if k' = k0 then none else h.look k')) := by
 have hlen := put_len h void v k
 by_cases h1 : fdI (isK k) h.l < h.l.length
 · obtain ⟨a1, a2⟩ := mod_spec hn k v (f := (·.with v)) (fun x => rfl) h.at_ hn.lt
   have hs : (h.look k).isSome = true := by
    obtain ⟨x, hx, hp⟩ := fdI_lt h1
    unfold Hd.look
    rw [hx]
    rfl
   have e : h.put void k v = ((0, void, false), ⟨modI (·.with v) (fdI (isK k) h.l) h.l, h.at_⟩) := by
    unfold Hd.put
    rw [if_pos h1]
   rw [e] at hlen ⊢
   refine ⟨a1, hlen, .inl ⟨rfl, .inl hs, fun k' => ?_⟩⟩
   rw [a2 k']
   by_cases e : k' = k
   · rw [if_pos ⟨e, hs⟩, if_pos e]
   · rw [if_neg (fun e2 => e e2.1), if_neg e]
 have hk : h.look k = none := by
  unfold Hd.look
  rw [List.getElem?_eq_none (by omega)]
  rfl
 by_cases h2 : fdI noH h.l < h.l.length
 · obtain ⟨z, hz, hp⟩ := fdI_lt h2
   have hzh : z.has = false := by
    unfold noH at hp
    simpa using hp
   obtain ⟨a1, a2⟩ := set_spec hn k v hk _ z hz h.at_ hn.lt
   have e : h.put void k v = ((0, void, false), ⟨h.l.set (fdI noH h.l) ⟨k, v, true, true⟩, h.at_⟩) := by
    unfold Hd.put
    rw [if_neg h1, if_pos h2]
   rw [e] at hlen ⊢
   refine ⟨a1, hlen, .inl ⟨rfl, .inr ⟨z, List.mem_of_getElem? hz, hzh⟩, fun k' => ?_⟩⟩
   rw [a2 k', hzh]
   simp
 obtain ⟨t1, t2, t3⟩ := turn_core (2 * h.l.length) h hn.lt
 have tl := core_len t1
 have tn := nice_core (g := (h.turn (2 * h.l.length)).2) t1 hn t2
 have tk := look_core t1 hn tn
 obtain ⟨z, hz⟩ : ∃ z, (h.turn (2 * h.l.length)).2.l[(h.turn (2 * h.l.length)).1]? = some z := ⟨_, List.getElem?_eq_getElem (by rw [tl]; exact t3)⟩
 have hall : ∀ x ∈ h.l, x.has = true := fun x hx => by
  obtain ⟨j, hj⟩ := List.getElem?_of_mem hx
  have hjl := (List.getElem?_eq_some_iff.1 hj).1
  have := fdI_no (p := noH) (l := h.l) (i := j) (x := x) (by omega) hj
  unfold noH at this
  simpa using this
 have hzh : z.has = true := by
  obtain ⟨y, hy, e1, -⟩ := core_get t1 hz
  rw [← e1]
  exact hall y (List.mem_of_getElem? hy)
 obtain ⟨a1, a2⟩ := set_spec tn k v (by rw [tk]; exact hk) _ z hz (h.turn (2 * h.l.length)).2.at_ (by rw [tl]; exact t2)
 have hzl : h.look z.k = some z.v := by
  rw [← tk]
  exact (look_iff tn).2 ⟨_, z, hz, hzh, rfl, rfl⟩
 have e : h.put void k v = ((z.k, z.v, true), ⟨(h.turn (2 * h.l.length)).2.l.set (h.turn (2 * h.l.length)).1 ⟨k, v, true, true⟩, (h.turn (2 * h.l.length)).2.at_⟩) := by
  unfold Hd.put
  rw [if_neg h1, if_neg h2, hz]
 rw [e] at hlen ⊢
 refine ⟨a1, hlen, .inr ⟨hk, hall, z.k, z.v, fun e => ?_, rfl, hzl, fun k' => ?_⟩⟩
 · rw [e, hk] at hzl
   cases hzl
 · rw [a2 k', tk k', hzh]
   simp
theorem mk_nice (void : V) {n : Nat} (hn : 0 < n) : (mkHd void n).nice ∧ ∀ k, (mkHd void n).look k = none := by
 have hx : ∀ {i : Nat} {x : Pl V}, (mkHd void n).l[i]? = some x → x.has = false := fun {i x} e => by
  rw [List.eq_of_mem_replicate (List.mem_of_getElem? e)]
 have hni : (mkHd void n).nice := ⟨fun i j x y e1 e2 h1 => (by rw [hx e1] at h1; cases h1), by show 0 < (List.replicate n _).length; rw [List.length_replicate]; exact hn⟩
 refine ⟨hni, fun k => ?_⟩
 cases e : (mkHd void n).look k with
 | none => rfl
 | some v =>
  obtain ⟨i, x, h1, h2, -⟩ := (look_iff hni).1 e
  rw [hx h1] at h2
  cases h2
end
end Go.Proofs.YtlcfoeikamkpmaaGreat

namespace Go.Proofs.YtlcfoeikamkpmaaGreat
open Go.Wh

structure PDk.well (D : PDk) : Prop where
 dead : D.dead = false
 plan : D.plan = none
 was : D.was = fun _ => none
theorem put_well {D : PDk} (hd : D.dead = false) (hp : D.plan = none) {i : Int} {l : List Int} (h0 : 0 ≤ i) (h1 : i < D.T.length) : D.put i l = (0, D.laid i.toNat l) := by
 have hm : D.may i = 0 := by
  unfold PDk.may
  rw [if_neg (by rw [hd]; decide), if_neg (by omega)]
 unfold PDk.put
 rw [hm, if_neg (by decide)]
 exact PDk.done_plain (D := D.laid i.toNat l) hp
theorem sync_well {D : PDk} (hd : D.dead = false) (hp : D.plan = none) : D.sync = (0, { D with was := fun _ => none }) := by
 have hc : D.cuts = false := by
  unfold PDk.cuts
  rw [hp]
 unfold PDk.sync
 rw [if_neg (by rw [hd]; decide), if_neg (by rw [hc]; decide)]
 unfold PDk.less
 rw [hp]
 rfl
theorem two_well {D : PDk} (hd : D.dead = false) (hp : D.plan = none) {i : Int} {a b : List Int} (h0 : 0 ≤ i) (h1 : i + 1 < D.T.length) :
 ∃ D', D.two i a b = (0, D') ∧ D'.well ∧ D'.T = (D.T.set i.toNat a).set (i.toNat + 1) b := by
 have e1 := put_well (l := a) hd hp h0 (show i < D.T.length by omega)
 have hd2 : (D.laid i.toNat a).dead = false := hd
 have hp2 : (D.laid i.toNat a).plan = none := hp
 have hl2 : (D.laid i.toNat a).T.length = D.T.length := List.length_set
 have e2 := put_well (l := b) hd2 hp2 (show 0 ≤ i + 1 by omega) (show i + 1 < (D.laid i.toNat a).T.length by rw [hl2]; omega)
 have hd3 : ((D.laid i.toNat a).laid (i + 1).toNat b).dead = false := hd
 have hp3 : ((D.laid i.toNat a).laid (i + 1).toNat b).plan = none := hp
 refine ⟨{ ((D.laid i.toNat a).laid (i + 1).toNat b) with was := fun _ => none }, ?_, ⟨hd3, hp3, rfl⟩, ?_⟩
 · unfold PDk.two
   rw [e1]
   dsimp only
   rw [if_neg (by decide), e2]
   dsimp only
   rw [if_neg (by decide), sync_well hd3 hp3]
 · show (D.T.set i.toNat a).set (i + 1).toNat b = _
   rw [show (i + 1).toNat = i.toNat + 1 by omega]
def onD (cf : PCf) (D : PDk) (k : Int) (p : PPg) : Prop := takeT (D.T.getD (cf.first + (2 * k).toNat) []) (D.T.getD (cf.first + (2 * k + 1).toNat) []) = (0, p)
structure PPg.fit (p : PPg) : Prop where
 ok : p.ok
 lsn : lsnMay p.lsn = true
 cell : ∀ l ∈ p.c, l = [] ∨ (cellT l = true ∧ nought l = false)
theorem fit_norm {p : PPg} (h : p.fit) : p.norm = p := by
 obtain ⟨c, z⟩ := p
 unfold PPg.norm
 congr 1
 have key : ∀ l ∈ c, (if nought (fullB l) then [] else fullB l) = l := fun l hl => by
  rcases h.cell l hl with rfl | ⟨_, e⟩
  · rfl
  · have hne : l ≠ [] := fun e2 => by
     rw [e2] at e
     cases e
    unfold fullB
    rw [if_neg hne, e]
    rfl
 rw [List.map_congr_left key]
 exact List.map_id _
theorem fit_take {p : PPg} (h : p.fit) : takeT (leafA p) (leafB p) = (0, p) := by
 have := takeT_leaf h.ok h.lsn fun l hl => (h.cell l hl).imp id fun e => e.1
 rw [this, fit_norm h]
theorem fit_may {p : PPg} (h : p.fit) : p.may = true := by
 unfold PPg.may
 rw [h.lsn, Bool.true_and, List.all_eq_true]
 intro l hl
 rcases h.ok.each l hl with e | e
 · rw [e]; rfl
 · rw [e]; simp
theorem fit_void : PPg.void.fit := by
 refine ⟨⟨rfl, fun l hl => ?_, fun l hl => ?_⟩, by decide, fun l hl => ?_⟩ <;>
  · have : l ∈ ([[], [], [], []] : List (List Int)) := hl
    simp only [List.mem_cons, List.not_mem_nil, or_false] at this
    rcases this with rfl | rfl | rfl | rfl <;> first | exact .inl rfl | (intro z hz; cases hz)
structure Good (cf : PCf) (s : PSt) (C : Int → PPg) : Prop where
 well : s.D.well
 sep : cf.first + 2 * cf.pages ≤ cf.at_
 room : cf.at_ + cf.n ≤ s.D.T.length
 nice : s.H.nice
 st_le : s.st ≤ s.es.length
 fit : ∀ k : Int, 0 ≤ k → k < cf.pages → (C k).fit
 key : ∀ k f, s.H.look k = some f → 0 ≤ k ∧ k < cf.pages ∧ f.p = C k ∧ (f.dirty = false → onD cf s.D k (C k))
 none : ∀ k : Int, 0 ≤ k → k < cf.pages → s.H.look k = none → onD cf s.D k (C k)
section
variable {cf : PCf} {s : PSt} {C : Int → PPg}
def stW (cf : PCf) (s : PSt) (z : Int) : Nat := if cf.tr = true ∧ (s.st : Int) < z then s.es.length else s.st
theorem ahead_well (hw : s.D.well) (f : PFr) : ∃ D', s.ahead cf f = (0, ⟨D', s.es, stW cf s f.p.lsn, s.H⟩) ∧ D'.well ∧ D'.T.length = s.D.T.length ∧ ∀ j, j < cf.at_ → D'.T[j]? = s.D.T[j]? := by
 unfold PSt.ahead stW
 split
 · unfold PSt.force foB
   by_cases hs : s.st = s.es.length
   · rw [if_pos hs]
     exact ⟨s.D, by rw [← hs], hw, rfl, fun _ _ => rfl⟩
   · rw [if_neg hs, if_neg (by rw [hw.dead]; decide)]
     obtain ⟨h1, h2⟩ := PDk.clean_plain (S := streamB s.es) (at_ := cf.at_) (n := cf.n) hw.dead hw.plan
     obtain ⟨k1, k2, k3, k4⟩ := PDk.clean_ok (S := streamB s.es) (at_ := cf.at_) (n := cf.n) (PDk.fine_none hw.plan) hw.dead hw.was h1
     refine ⟨(s.D.clean cf.at_ (streamB s.es) cf.n).2, ?_, ⟨k2, h2, k4⟩, ?_, fun j hj => ?_⟩
     · dsimp only
       rw [h1, if_pos rfl]
     · rw [k3, layB_length]
     · rw [k3]
       exact layB_other (.inl hj)
 · exact ⟨s.D, rfl, hw, rfl, fun _ _ => rfl⟩
theorem getD_same {T U : List (List Int)} {j : Nat} (h : T[j]? = U[j]?) : T.getD j [] = U.getD j [] := by
 rw [List.getD_eq_getElem?_getD, List.getD_eq_getElem?_getD, h]
theorem write_well (h : Good cf s C) {k : Int} {f : PFr} (h0 : 0 ≤ k) (h1 : k < cf.pages) (hf : f.p = C k) :
 ∃ D', s.write cf k f = (0, ⟨D', s.es, stW cf s (C k).lsn, s.H⟩) ∧ D'.well ∧ D'.T.length = s.D.T.length ∧ onD cf D' k (C k) ∧ ∀ (j : Int) p, 0 ≤ j → j < cf.pages → j ≠ k → onD cf s.D j p → onD cf D' j p := by
 obtain ⟨D1, e1, w1, l1, t1⟩ := ahead_well h.well f
 have hsep := h.sep
 have hroom := h.room
 obtain ⟨D2, e2, w2, t2⟩ := two_well (D := D1) (i := (cf.first : Int) + 2 * k) (a := leafA f.p) (b := leafB f.p) w1.dead w1.plan (by omega) (by rw [l1]; omega)
 have ht : ((cf.first : Int) + 2 * k).toNat = cf.first + (2 * k).toNat := by omega
 rw [ht] at t2
 have hl2 : D2.T.length = s.D.T.length := by
  rw [t2, List.length_set, List.length_set, l1]
 refine ⟨D2, ?_, w2, hl2, ?_, fun j p j0 j1 jk hj => ?_⟩
 · unfold PSt.write
   rw [e1]
   dsimp only
   rw [if_neg (by decide), if_neg (by rw [hf, fit_may (h.fit k h0 h1)]; decide), e2]
   rw [hf]
 · unfold onD
   rw [show (2 * k + 1).toNat = (2 * k).toNat + 1 by omega, ← Nat.add_assoc, t2]
   rw [List.getD_eq_getElem?_getD, List.getD_eq_getElem?_getD, List.getElem?_set_ne (by omega), List.getElem?_set_self (by rw [l1]; omega), List.getElem?_set_self (by rw [List.length_set, l1]; omega)]
   rw [hf]
   exact fit_take (h.fit k h0 h1)
 · unfold onD at hj ⊢
   have key : ∀ q : Nat, q < cf.at_ → q ≠ cf.first + (2 * k).toNat → q ≠ cf.first + (2 * k).toNat + 1 → D2.T.getD q [] = s.D.T.getD q [] := fun q q0 q1 q2 => getD_same (by
    rw [t2, List.getElem?_set_ne (Ne.symm q2), List.getElem?_set_ne (Ne.symm q1)]
    exact t1 q q0)
   rw [key _ (by omega) (by omega) (by omega), key _ (by omega) (by omega) (by omega)]
   exact hj
def Last (s : PSt) : Prop := s.st = s.es.length ∨ ∃ k f, s.H.look k = some f ∧ f.dirty = true ∧ f.p.lsn = (s.es.length : Int)
theorem stW_last (h : s.st ≤ s.es.length) (ht : cf.tr = true) : stW cf s (s.es.length : Int) = s.es.length := by
 unfold stW
 split
 · rfl
 · rename_i e
   have : ¬ (s.st : Int) < s.es.length := fun e2 => e ⟨ht, e2⟩
   omega
theorem stW_done (h : s.st = s.es.length) (z : Int) : stW cf s z = s.es.length := by
 unfold stW
 split
 · rfl
 · exact h
theorem lay_well (h : Good cf s C) {k : Int} (h0 : 0 ≤ k) (h1 : k < cf.pages) (hk : s.H.look k = Option.none) :
 ∃ s', s.lay cf k ⟨C k, false, 0⟩ = (0, s') ∧ Good cf s' C ∧ s'.es = s.es ∧ s'.H.l.length = s.H.l.length ∧ s'.H.look k = some ⟨C k, false, 0⟩ ∧ s.st ≤ s'.st ∧ (∀ j, dirtyK s'.H j = dirtyK s.H j ∨ dirtyK s'.H j = Option.none) ∧
  ((∃ x ∈ s.H.l, x.has = false) → ∀ j, dirtyK s'.H j = dirtyK s.H j) ∧ (cf.tr = true → Last s → Last s') := by
 obtain ⟨n1, n2, n3⟩ := put_spec h.nice PFr.void k ⟨C k, false, 0⟩
 have hon := h.none k h0 h1 hk
 rcases n3 with ⟨e, hr, hlook⟩ | ⟨_, hall, k0, v0, hk0, e, hv0, hlook⟩
 · have hd : ∀ j, dirtyK (s.H.put PFr.void k ⟨C k, false, 0⟩).2 j = dirtyK s.H j := fun j => by
    unfold dirtyK
    rw [hlook j]
    by_cases hj : j = k
    · rw [if_pos hj, hj, hk]
      rfl
    · rw [if_neg hj]
   refine ⟨{ s with H := (s.H.put PFr.void k ⟨C k, false, 0⟩).2 }, ?_, ⟨h.well, h.sep, h.room, n1, h.st_le, h.fit, fun j f hf => ?_, fun j j0 j1 hj => ?_⟩, rfl, n2, ?_, Nat.le_refl _, fun j => .inl (hd j), fun _ => hd, fun _ hL => ?_⟩
   · unfold PSt.lay
     rw [e, if_neg (by simp), if_neg (by simp)]
   · have hf' : (s.H.put PFr.void k ⟨C k, false, 0⟩).2.look j = some f := hf
     rw [hlook j] at hf'
     split at hf'
     · rename_i hj
       cases hf'
       subst hj
       exact ⟨h0, h1, rfl, fun _ => hon⟩
     · exact h.key j f hf'
   · have hj' : (s.H.put PFr.void k ⟨C k, false, 0⟩).2.look j = Option.none := hj
     rw [hlook j] at hj'
     split at hj'
     · cases hj'
     · exact h.none j j0 j1 hj'
   · show (s.H.put PFr.void k ⟨C k, false, 0⟩).2.look k = _
     rw [hlook k, if_pos rfl]
   · rcases hL with e | ⟨q, f, q1, q2, q3⟩
     · exact .inl e
     · refine .inr ⟨q, f, ?_, q2, q3⟩
       show (s.H.put PFr.void k ⟨C k, false, 0⟩).2.look q = _
       rw [hlook q, if_neg (fun e => by rw [e, hk] at q1; cases q1)]
       exact q1
 · obtain ⟨a0, a1, a2, a3⟩ := h.key k0 v0 hv0
   have hno : ¬ ∃ x ∈ s.H.l, x.has = false := fun ⟨x, hx, e⟩ => by
    rw [hall x hx] at e
    cases e
   have hdj : ∀ j, dirtyK (s.H.put PFr.void k ⟨C k, false, 0⟩).2 j = dirtyK s.H j ∨ dirtyK (s.H.put PFr.void k ⟨C k, false, 0⟩).2 j = Option.none := fun j => by
    unfold dirtyK
    rw [hlook j]
    by_cases hj : j = k
    · rw [if_pos hj]
      exact .inr rfl
    · rw [if_neg hj]
      by_cases hj0 : j = k0
      · rw [if_pos hj0]
        exact .inr rfl
      · rw [if_neg hj0]
        exact .inl rfl
   have hlk : (s.H.put PFr.void k ⟨C k, false, 0⟩).2.look k = some ⟨C k, false, 0⟩ := by rw [hlook k, if_pos rfl]
   by_cases hd : v0.dirty = true
   · obtain ⟨D', ew, ww, lw, ow, kw⟩ := write_well h a0 a1 a2
     refine ⟨⟨D', s.es, stW cf s (C k0).lsn, (s.H.put PFr.void k ⟨C k, false, 0⟩).2⟩, ?_, ⟨ww, h.sep, by rw [lw]; exact h.room, n1, ?_, h.fit, fun j f hf => ?_, fun j j0 j1 hj => ?_⟩, rfl, n2, hlk, ?_, hdj, fun e => absurd e hno, fun ht hL => ?_⟩
     · unfold PSt.lay
       rw [e]
       dsimp only
       rw [ew, if_neg (by simp), if_pos ⟨rfl, hd⟩]
     · show stW cf s _ ≤ s.es.length
       unfold stW
       split
       · exact Nat.le_refl _
       · exact h.st_le
     · have hf' : (s.H.put PFr.void k ⟨C k, false, 0⟩).2.look j = some f := hf
       rw [hlook j] at hf'
       split at hf'
       · rename_i hj
         cases hf'
         subst hj
         exact ⟨h0, h1, rfl, fun _ => kw j (C j) h0 h1 (fun e => hk0 e.symm) hon⟩
       · rename_i hj
         split at hf'
         · cases hf'
         · rename_i hj0
           obtain ⟨b0, b1, b2, b3⟩ := h.key j f hf'
           exact ⟨b0, b1, b2, fun e => kw j (C j) b0 b1 hj0 (b3 e)⟩
     · have hj' : (s.H.put PFr.void k ⟨C k, false, 0⟩).2.look j = Option.none := hj
       rw [hlook j] at hj'
       split at hj'
       · cases hj'
       · rename_i hjk
         by_cases hj0 : j = k0
         · rw [hj0]
           exact ow
         · rw [if_neg hj0] at hj'
           exact kw j (C j) j0 j1 hj0 (h.none j j0 j1 hj')
     · show s.st ≤ stW cf s _
       unfold stW
       split
       · exact h.st_le
       · exact Nat.le_refl _
     · rcases hL with e | ⟨q, f, q1, q2, q3⟩
       · exact .inl (stW_done e _)
       · by_cases hq : q = k0
         · refine .inl ?_
           show stW cf s (C k0).lsn = s.es.length
           rw [hq, hv0] at q1
           cases q1
           rw [← a2, q3]
           exact stW_last h.st_le ht
         · refine .inr ⟨q, f, ?_, q2, q3⟩
           show (s.H.put PFr.void k ⟨C k, false, 0⟩).2.look q = _
           rw [hlook q, if_neg (fun e => by rw [e, hk] at q1; cases q1), if_neg hq]
           exact q1
   · have hd' : v0.dirty = false := by simpa using hd
     refine ⟨{ s with H := (s.H.put PFr.void k ⟨C k, false, 0⟩).2 }, ?_, ⟨h.well, h.sep, h.room, n1, h.st_le, h.fit, fun j f hf => ?_, fun j j0 j1 hj => ?_⟩, rfl, n2, hlk, Nat.le_refl _, hdj, fun e => absurd e hno, fun _ hL => ?_⟩
     · unfold PSt.lay
       rw [e, if_neg (fun e => hd e.2.1), if_neg (fun e => hd e.2)]
     · have hf' : (s.H.put PFr.void k ⟨C k, false, 0⟩).2.look j = some f := hf
       rw [hlook j] at hf'
       split at hf'
       · rename_i hj
         cases hf'
         subst hj
         exact ⟨h0, h1, rfl, fun _ => hon⟩
       · split at hf'
         · cases hf'
         · exact h.key j f hf'
     · have hj' : (s.H.put PFr.void k ⟨C k, false, 0⟩).2.look j = Option.none := hj
       rw [hlook j] at hj'
       split at hj'
       · cases hj'
       · by_cases hj0 : j = k0
         · rw [hj0]
           exact a3 hd'
         · rw [if_neg hj0] at hj'
           exact h.none j j0 j1 hj'
     · rcases hL with e | ⟨q, f, q1, q2, q3⟩
       · exact .inl e
       · refine .inr ⟨q, f, ?_, q2, q3⟩
         show (s.H.put PFr.void k ⟨C k, false, 0⟩).2.look q = _
         rw [hlook q, if_neg (fun e => by rw [e, hk] at q1; cases q1), if_neg (fun e => by rw [e, hv0] at q1; cases q1; rw [hd'] at q2; cases q2)]
         exact q1
end
end Go.Proofs.YtlcfoeikamkpmaaGreat

namespace Go.Proofs.YtlcfoeikamkpmaaGreat
open Go.RowKit Go.Wh Go.Maps

section
variable {c : Nat → Nat} {a b m r : Nat} {w : World} {d : Nat} {t : Option Nat} {cf : PCf} {H : Hd PFr}
def NpPost (c : Nat → Nat) (m r : Nat) (w : World) (d : Nat) (t : Option Nat) (cf : PCf) (n : Nat) (e : Ending) (w' : World) : Prop :=
 ∃ pb c', e = .returned (.pointer (some ⟨pb, 0, none⟩)) ∧ Stp (fun _ => False) (fun i => i = m) c c' w w' ∧ PoAt c' m r w' pb d t cf (mkHd PFr.void n)
theorem mk_ok {n : Nat} : ∀ x ∈ (mkHd PFr.void n).l, x.v.p.ok ∧ 0 ≤ x.k ∧ x.k ≤ cf.pages := by
 intro x hx
 rw [List.eq_of_mem_replicate hx]
 refine ⟨⟨rfl, fun l hl => ?_, fun l hl => ?_⟩, Int.le_refl 0, by show (0 : Int) ≤ (cf.pages : Int); omega⟩
 · refine .inl ?_
   have : l ∈ ([[], [], [], []] : List (List Int)) := hl
   simp only [List.mem_cons, List.not_mem_nil, or_false] at this
   rcases this with rfl | rfl | rfl | rfl <;> rfl
 · have : l ∈ ([[], [], [], []] : List (List Int)) := hl
   simp only [List.mem_cons, List.not_mem_nil, or_false] at this
   rcases this with rfl | rfl | rfl | rfl <;> (intro z hz; cases hz)
theorem np_of {w1 w2 : World} {d n hb g : Nat} {t : Option Nat} (hl : Low c w) (hd : HdAt w1 hb g 0 n n (mkHd frZ n)) (hs : Still w w1) (hs2 : Still w1 w2)
 (hc : cellsAt w2 w1.heap.size [.pointer (some ⟨d, 0, none⟩), ptrV t, .int .i64 (cf.first : Nat), .int .i64 (cf.pages : Nat), .pointer (some ⟨hb, 0, none⟩)]) (h1 : w.heap.size ≤ hb) (h2 : w.heap.size ≤ g) :
 NpPost c m r w d t cf n (.returned (.pointer (some ⟨w1.heap.size, 0, none⟩))) w2 := by
 have z1 := hs.size
 have z2 := hs2.size
 have l1 := hd.cells.lt
 have l2 : g < w1.heap.size := hd.row.lt (by have := hd.pos; have := hd.row.le; omega)
 have l0 := hd.lt
 have l4 := hd.ne
 have l3 := hc.lt
 have hst : Stp (fun _ => False) (fun i => i = m) c (paint c (fun x => x = hb ∨ x = g ∨ x = w1.heap.size) m) w w2 := (Stp.still hl (hs.trans hs2)).paint (fun x hx => by rcases hx with rfl | rfl | rfl <;> omega) rfl
 refine ⟨w1.heap.size, _, rfl, hst, ⟨hb, g, 0, n, n, mkHd frZ n, hc, hd.only hs2 (fun e => e) (fun e => e), ⟨LR.replicate FrIs.void n, rfl⟩, paint_in (.inr (.inr rfl)), paint_in (.inl rfl), paint_in (.inr (.inl rfl)), by omega, by omega⟩, mk_ok⟩
set_option maxHeartbeats 2000000 in
set_option maxRecDepth 100000 in
theorem pnew_any (hl : Low c w) (d : Nat) (t : Option Nat) (cf : PCf) (k : Int) (n : Nat) (hn : min (max k 1) 64 = (n : Int)) {A B : Int} (hA : (cf.first : Int) = A) (hB : (cf.pages : Int) = B) :
 Calls Tryz.prog 15 #[.pointer (some ⟨d, 0, none⟩), ptrV t, .int .i64 A, .int .i64 B, .int .i64 k] w (NpPost c m r w d t cf n) := by
 subst hA hB
 rcases t with _ | t
 · have HMK := Lib.hid (hmake_any w k n hn)
   have HL := Lib.hid hl
   clear hl hn
   unfold ptrV
   go_enter Tryz.func15, Tryz.ntmps15
   go_wp2_with fail
   refine HMK.out.mono ?_
   rintro e w1 ⟨hb, g, rfl, hd, hs, h1, h2⟩
   have H1 := Lib.hid (And.intro hd (And.intro hs (And.intro h1 h2)))
   have HC := Lib.hid (fun tt => cellsAt_new w1 [.pointer (some ⟨d, 0, none⟩), .pointer none, .int .i64 (cf.first : Nat), .int .i64 (cf.pages : Nat), .pointer (some ⟨hb, 0, none⟩)] tt)
   clear hd hs h1 h2 HMK
   go_wp2_with fail
   have F := Lib.hid (show NpPost c m r w d none cf n (.returned (.pointer (some ⟨w1.heap.size, 0, none⟩))) (w1.alloc (.cells #[.pointer (some ⟨d, 0, none⟩), .pointer none, .int .i64 (cf.first : Nat), .int .i64 (cf.pages : Nat), .pointer (some ⟨hb, 0, none⟩)] 102)) from by
    have hs2 : Still w1 (w1.alloc (.cells #[.pointer (some ⟨d, 0, none⟩), .pointer none, .int .i64 (cf.first : Nat), .int .i64 (cf.pages : Nat), .pointer (some ⟨hb, 0, none⟩)] 102)) := (Still.refl w1).alloc _
    exact np_of HL.out H1.out.1 H1.out.2.1 hs2 (HC.out _) H1.out.2.2.1 H1.out.2.2.2)
   go_ret
   exact F.out
 · have HMK := Lib.hid (hmake_any w k n hn)
   have HL := Lib.hid hl
   clear hl hn
   unfold ptrV
   go_enter Tryz.func15, Tryz.ntmps15
   go_wp2_with fail
   refine HMK.out.mono ?_
   rintro e w1 ⟨hb, g, rfl, hd, hs, h1, h2⟩
   have H1 := Lib.hid (And.intro hd (And.intro hs (And.intro h1 h2)))
   have HC := Lib.hid (fun tt => cellsAt_new w1 [.pointer (some ⟨d, 0, none⟩), .pointer (some ⟨t, 0, none⟩), .int .i64 (cf.first : Nat), .int .i64 (cf.pages : Nat), .pointer (some ⟨hb, 0, none⟩)] tt)
   clear hd hs h1 h2 HMK
   go_wp2_with fail
   have F := Lib.hid (show NpPost c m r w d (some t) cf n (.returned (.pointer (some ⟨w1.heap.size, 0, none⟩))) (w1.alloc (.cells #[.pointer (some ⟨d, 0, none⟩), .pointer (some ⟨t, 0, none⟩), .int .i64 (cf.first : Nat), .int .i64 (cf.pages : Nat), .pointer (some ⟨hb, 0, none⟩)] 102)) from by
    have hs2 : Still w1 (w1.alloc (.cells #[.pointer (some ⟨d, 0, none⟩), .pointer (some ⟨t, 0, none⟩), .int .i64 (cf.first : Nat), .int .i64 (cf.pages : Nat), .pointer (some ⟨hb, 0, none⟩)] 102)) := (Still.refl w1).alloc _
    exact np_of HL.out H1.out.1 H1.out.2.1 hs2 (HC.out _) H1.out.2.2.1 H1.out.2.2.2)
   go_ret
   exact F.out
end
end Go.Proofs.YtlcfoeikamkpmaaGreat

namespace Go.Proofs.YtlcfoeikamkpmaaGreat
open Go.RowKit Go.Wh Go.Maps

section
variable {c : Nat → Nat} {a b m r : Nat} {w : World} {d : Nat} {t : Option Nat} {cf : PCf} {H : Hd PFr}
theorem ppages_any {pb : Nat} (hP : PoAt c m r w pb d t cf H) {N : Int} (hN : (cf.pages : Int) = N) : Calls Tryz.prog 22 #[.pointer (some ⟨pb, 0, none⟩)] w (SamePost w (.int .i64 N)) := by
 subst hN
 obtain ⟨⟨hb, g, o, n, cap, Hv, h1, -⟩, -⟩ := hP
 have p3 : w.cell? ⟨pb, 3, none⟩ = some (.int .i64 (cf.pages : Nat)) := h1.cell 3
 clear h1
 have F := Lib.hid (show SamePost w (.int .i64 (cf.pages : Int)) (.returned (.int .i64 (cf.pages : Int))) w from ⟨rfl, rfl⟩)
 go_enter Tryz.func22, Tryz.ntmps22
 go_wp2_with fail
 go_ret
 exact F.out
end
end Go.Proofs.YtlcfoeikamkpmaaGreat

namespace Go.Proofs.YtlcfoeikamkpmaaGreat
open Go.RowKit Go.Wh Go.Maps

theorem newD_fine (n : Nat) : (newD n).fine := fun _ _ e => by cases e
theorem newD_byt (n : Nat) : (newD n).byt := by
 refine ⟨fun l hl z hz => ?_, fun i l e => by cases e⟩
 unfold newD zeroT at hl
 rw [List.eq_of_mem_replicate hl] at hz
 rw [List.eq_of_mem_replicate hz]
 decide
theorem newD_len (n : Nat) : (newD n).T.length = n := by simp [newD, zeroT]
theorem openE_new {m a n : Nat} (h : a + n ≤ m) : openE (newD m) a n = [] := by
 unfold openE
 rw [show (newD m).T = zeroT m from rfl, tls_zero h, readB_zero]
 rfl
theorem clN_new {m a : Nat} : ∀ (i : Nat), a + i ≤ m → clN (newD m) a [] i = (0, newD m, false)
 | 0, _ => rfl
 | i + 1, h => by
  unfold clN
  rw [clN_new i (by omega)]
  dsimp only
  rw [if_neg (by decide), if_pos]
  rw [tileB_nil]
  unfold newD zeroT
  rw [List.getElem?_replicate, if_pos (by omega)]
theorem clean_new {m a n : Nat} (h : a + n ≤ m) : (newD m).clean a [] n = (0, newD m) := by
 unfold PDk.clean
 rw [clN_new n h]
 rfl
section
variable {c : Nat → Nat} {a b m r : Nat} {w : World} {d : Nat} {t : Option Nat} {cf : PCf} {s : PSt}
def DnPost (c : Nat → Nat) (a : Nat) (w : World) (n : Nat) (e : Ending) (w' : World) : Prop :=
 ∃ d c', e = .returned (.pointer (some ⟨d, 0, none⟩)) ∧ Stp (fun _ => False) (fun i => i = a) c c' w w' ∧ DgX (Cs c' a) d (newD n) w'
theorem dnew_any (hl : Low c w) (a : Nat) (hn0 : ∀ g, c g ≠ a) (n : Nat) (hn : n ≤ 2000) {N : Int} (hN : (n : Int) = N) :
 Calls Tryz.prog 10 #[.int .i64 N] w (DnPost c a w n) := by
 refine (new_g w n hn hN).mono ?_
 rintro e w' ⟨d, rfl, hd, hs⟩
 have hst : Stp (fun _ => False) (fun i => i = a) c (paint c (fun g => w.heap.size ≤ g ∧ g < w'.heap.size) a) w w' := (Stp.still hl hs).paint (fun g hg => hg) rfl
 refine ⟨d, _, rfl, hst, hd.grow (fun g hg => paint_in hg) fun g hg => ?_⟩
 have hg' : paint c (fun g => w.heap.size ≤ g ∧ g < w'.heap.size) a g = a := hg
 by_cases h : w.heap.size ≤ g ∧ g < w'.heap.size
 · exact h.2
 · rw [paint_out (N := fun g => w.heap.size ≤ g ∧ g < w'.heap.size) h] at hg'
   exact absurd hg' (hn0 g)
def DoPost (c : Nat → Nat) (a b : Nat) (w : World) (d at_ n m : Nat) (e : Ending) (w' : World) : Prop :=
 ∃ t la lc c', e = .returned (.tuple #[.pointer (some ⟨t, 0, none⟩), .slice la 0 lc, .int .i64 0]) ∧ Stp (fun i => i = a) (fun i => i = a ∨ i = b) c c' w w' ∧ DgX (Cs c' a) d (newD m) w' ∧ TlX (Cs c' b) t d at_ n [] 0 w'
theorem dopen_new (hl : Low c w) {m : Nat} (hd : DgX (Cs c a) d (newD m) w) (a0 : a ≠ 0) (ab : a ≠ b) (hb0 : ∀ g, c g ≠ b) {at_ n : Nat} (hm : m ≤ 2000) (hn : at_ + n ≤ m) (hk : n ≤ 1000) {A B : Int} (hA : (at_ : Int) = A) (hB : (n : Int) = B) :
 Calls Tryz.prog 11 #[.pointer (some ⟨d, 0, none⟩), .int .i64 A, .int .i64 B] w (DoPost c a b w d at_ n m) := by
 subst hA hB
 refine (open_a (n := n) (at_ := at_) hd rfl (newD_fine m) (newD_byt m) (by rw [newD_len]; exact hm) (by rw [newD_len]; exact hn) hk).mono ?_
 intro e w' hp
 unfold OpPostA at hp
 rw [openE_new hn, show streamB [] = ([] : List Int) from rfl, clean_new hn, if_pos rfl] at hp
 obtain ⟨t, lv, es', A', B, C, rfl, rfl, h1, h2, h3, h4, h5, h6, h7, h8, h9, h10⟩ := hp
 obtain ⟨la, lc, rfl⟩ := h3.form
 have z := h4.size
 have hst1 : Stp (fun i => i = a) (fun i => i = a ∨ i = b) c (paint c (fun g => A' g ∧ w.heap.size ≤ g) a) w w' :=
  Stp.paint (N := fun g => A' g ∧ w.heap.size ≤ g) (i := a) (Stp.own (X := fun i => i = a) (K := fun i => i = a ∨ i = b) (i := a) hl h4 rfl) (fun g hg => ⟨hg.2, h1.lt g hg.1⟩) (.inl rfl)
 have hst2 : Stp (fun i => i = a) (fun i => i = a ∨ i = b) c (paint (paint c (fun g => A' g ∧ w.heap.size ≤ g) a) B b) w w' :=
  hst1.paint (fun g hg => ⟨h6 g hg, h2.lt g hg⟩) (.inr rfl)
 refine ⟨t, la, lc, _, rfl, hst2, h1.grow (fun g hg => ?_) fun g hg => ?_, ?_⟩
 · show paint (paint c (fun g => A' g ∧ w.heap.size ≤ g) a) B b g = a
   rw [paint_out (h8 g hg)]
   by_cases h : w.heap.size ≤ g
   · exact paint_in (N := fun g => A' g ∧ w.heap.size ≤ g) ⟨hg, h⟩
   · rw [paint_out (N := fun g => A' g ∧ w.heap.size ≤ g) (fun e => h e.2)]
     exact (h5 g hg).elim id fun e => absurd e h
 · have hg' : paint (paint c (fun g => A' g ∧ w.heap.size ≤ g) a) B b g = a := hg
   exact hst2.low g (by rw [hg']; exact a0)
 · have e : Cs (paint (paint c (fun g => A' g ∧ w.heap.size ≤ g) a) B b) b = B := by
    funext g
    apply propext
    constructor
    · intro hg
      have hg' : paint (paint c (fun g => A' g ∧ w.heap.size ≤ g) a) B b g = b := hg
      by_cases h : B g
      · exact h
      · rw [paint_out h] at hg'
        by_cases h2 : A' g ∧ w.heap.size ≤ g
        · rw [paint_in (N := fun g => A' g ∧ w.heap.size ≤ g) h2] at hg'
          exact absurd hg' ab
        · rw [paint_out (N := fun g => A' g ∧ w.heap.size ≤ g) h2] at hg'
          exact absurd hg' (hb0 g)
    · intro hg
      exact paint_in hg
   rw [e]
   exact h2
def DaPost (c : Nat → Nat) (a b : Nat) (w : World) (d : Nat) (t : Option Nat) (cf : PCf) (s : PSt) (p : PE) (e : Ending) (w' : World) : Prop :=
 e = .returned (.tuple #[.int .i64 ((s.es.length + 1 : Nat) : Int), .int .i64 0]) ∧ ∃ c', Stp (fun i => i = b) (fun i => i = b) c c' w w' ∧ Dt c' a b w' d t cf { s with es := s.es ++ [p] }
theorem dt_append {t' : Nat} (hD : Dt c a b w d (some t') cf s) (a0 : a ≠ 0) (b0 : b ≠ 0) (ab : a ≠ b) {k x : Int} (hm : (nE k x).may = true) (hr : (streamB s.es).length + 25 ≤ cf.n * 63) :
 Calls Tryz.prog 24 #[.pointer (some ⟨t', 0, none⟩), .agg #[.int .i64 k, .int .i64 x, .int .i64 0, .int .i64 0, .int .i64 0, .int .i64 0, .int .i64 0, .int .i64 0, .int .i64 0, .int .i64 0, .slice none 0 0, .slice none 0 0, .slice none 0 0, .slice none 0 0, .slice none 0 0, .slice none 0 0]] w (DaPost c a b w d (some t') cf s (nE k x)) := by
 have ht := hD.tr t' rfl
 refine (ap_ok (e := nE k x) (ov := .slice none 0 0) (nv := .slice none 0 0) (mv := .slice none 0 0) (lv := .slice none 0 0) (dv := .slice none 0 0) (pv := .slice none 0 0) ht (nE_is w (fun _ => True) k x) hm (by rw [nE_len]; exact hr) rfl).mono ?_
 rintro en w' ⟨rfl, h1, h2⟩
 have hst : Stp (fun i => i = b) (fun i => i = b) c (recol c w w' b) w w' := Stp.newer hD.low h2 rfl rfl
 refine ⟨rfl, _, hst, hst.low, ?_, fun t2 e => ?_, hD.trf, hD.fine, hD.byt, hD.len, hD.trl, hD.fit⟩
 · rw [recol_old hD.low a0 ab]
   exact hD.dk.only h2 fun g e1 e2 => by have e1' : c g = a := e1; have e2' : c g = b := e2; omega
 · cases e
   rw [recol_new hD.low b0]
   exact h1
end
end Go.Proofs.YtlcfoeikamkpmaaGreat

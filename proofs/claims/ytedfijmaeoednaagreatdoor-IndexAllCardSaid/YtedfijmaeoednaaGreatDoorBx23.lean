/- From of a tree as it is held. Conditions: a tree in memory. The second instance: a place and a second key. The library's contracts at this program, as the kit's tools have laid them: IndexByte, HasPrefix, ReplaceAll, Builder. No conditions. Two texts as one: the plain law. No conditions. Package twin's Join and Front, and the reference's Join. Conditions: texts of at most a thousand bytes. Package twin's Split, and the reference's. Conditions: texts of at most two thousand bytes. Package twin's Split. Conditions: texts of at most two thousand bytes. The contracts in one form; the laws' own begun; TwinAll. Conditions: the library's variable holds a number. -/
import Derived.Test.YtedfijmaeoednaaGreatDoorBx22
import Derived.Laws.ResultCell
import Derived.Shelf.Strings.Builder1
import Derived.Shelf.Small.Strs
import Derived.Shelf.Strings.Prefix
import Derived.Shelf.Strings.Replace
import Derived.Test.YtedfijmaeoednaaGreatDoorProg
import Derived.Sort.Walk0
import Derived.WalkKit
import Derived.WalkSpells
import Derived.WalkLawsBesides
import Derived.LoopTactic
import Derived.Deep.QuietTactic
import Derived.BigQuiet
import Derived.StillTailTactics
import Derived.Lib.Hide
import Derived.Deep.RegionHeld3
import Derived.Deep.DeepCutAuto
import Derived.Below
namespace Go.Proofs.YtedfijmaeoednaaGreatDoor.Ke
open Go.RowKit Go.Wh

theorem from_any : ∀ (d : Nat), FromOK d
  | 0 => fun w r x G k mb kb vb most a N h _ _ h4 hs hG hg ha => from_zero w r x G k mb kb vb most a N h (by omega) hs hG hg ha
  | d + 1 => from_in d (from_any d)

/-- What From tells. -/
def fromL (l : Nd 0) (k : Key) (most : Int) : Nd 0 := (gather most [] (l.drop (pos (keys l) k))).1
structure Told (w w' : World) (res : Nd 0) (kv vv : Value) : Prop where
  k : Vec w' 1 kv res.length (kcells (keys res))
  v : Vec w' 3 vv res.length (rcells (vals res))
  ok : ∀ g, kv.ownBlock = some g → w.heap.size ≤ g ∧ g < w'.heap.size
  ov : ∀ g, vv.ownBlock = some g → w.heap.size ≤ g ∧ g < w'.heap.size
  ap : ∀ g, kv.ownBlock = some g → vv.ownBlock ≠ some g
  still : Still w w'
def TFrom (w : World) (l : Nd 0) (k : Key) (most : Int) (e : Ending) (w' : World) : Prop := ∃ kv vv, e = .returned (.tuple #[kv, vv]) ∧ Told w w' (fromL l k most) kv vv

theorem gath_new (w : World) (most : Int) (t1 t2 t3 : TypeId) : Gath (((w.alloc (.cells #[.int .i64 most] t1)).alloc (.cells #[.slice none 0 0] t2)).alloc (.cells #[.slice none 0 0] t3)) w.heap.size (w.heap.size + 1) (w.heap.size + 1 + 1) most [] w.heap.size := by
  have a1 := cellsAt_new w [.int .i64 most] t1
  have a2 := cellsAt_new (w.alloc (.cells #[.int .i64 most] t1)) [.slice none 0 0] t2
  have a3 := cellsAt_new ((w.alloc (.cells #[.int .i64 most] t1)).alloc (.cells #[.slice none 0 0] t2)) [.slice none 0 0] t3
  have z1 : (w.alloc (.cells #[.int .i64 most] t1)).heap.size = w.heap.size + 1 := by simp
  have z2 : ((w.alloc (.cells #[.int .i64 most] t1)).alloc (.cells #[.slice none 0 0] t2)).heap.size = w.heap.size + 1 + 1 := by simp
  rw [z1] at a2
  rw [z2] at a3
  exact ⟨.slice none 0 0, .slice none 0 0, (a1.alloc _).alloc _, a2.alloc _, a3, Vec.nil _ _, Vec.nil _ _, (by intro g h; cases h), (by intro g h; cases h), (by intro g h; cases h), by omega, by omega, by omega, by omega⟩

set_option maxHeartbeats 1000000 in
set_option maxRecDepth 100000 in
theorem tfrom (w : World) (t : Nat) (l : Nd 0) (F : List Nat) (k : Key) (most : Int) (h : TreeAt w t l F) (hl : l.length ≤ 90000) :
    Calls Tryz.prog 40 #[ptr t, .string k, .int .i64 most] w (TFrom w l k most) := by
  obtain ⟨d, r, x, G, hc, hat, hF, htG, hg, hfl⟩ := h
  have hfm := fromM_flat d x k hg.fit hg.nonempty hg.ks
  rw [hfl] at hfm
  have c0 : ∀ A B C, (((w.alloc A).alloc B).alloc C).cell? ⟨t, 0, none⟩ = some (.pointer (some ⟨r, 0, none⟩)) := fun A B C => (((hc.alloc A).alloc B).alloc C).cell 0
  have S3 : ∀ A B C, Still w (((w.alloc A).alloc B).alloc C) := fun A B C => (((Still.refl w).alloc A).alloc B).alloc C
  have HP := Lib.hid (fun t1 t2 t3 => from_any d (((w.alloc (.cells #[.int .i64 most] t1)).alloc (.cells #[.slice none 0 0] t2)).alloc (.cells #[.slice none 0 0] t3)) r x G k w.heap.size (w.heap.size + 1) (w.heap.size + 1 + 1) most [] w.heap.size
    (hat.only (S3 _ _ _) fun _ _ e => e) hg.fit hg.nonempty hg.four hg.ks hat.lt (gath_new w most t1 t2 t3) (by rw [hfl]; simpa using hl))
  have HS3 := Lib.hid S3
  have HX := Lib.hid hfm
  clear hc hat hF htG hg hfl hfm S3
  unfold clo ptr at HP
  unfold ptr
  go_enter Tryz.func40, Tryz.ntmps40
  go_wp2_with fail
  refine (HP.out _ _ _).mono ?_
  rintro e w2 ⟨rfl, hg2, ho2⟩
  rw [HX.out] at hg2
  have SW := Lib.hid ((HS3.out (.cells #[.int .i64 most] 3) (.cells #[.slice none 0 0] 42) (.cells #[.slice none 0 0] 80)).size)
  have hst : Still w w2 := by
    have h1 : Only (fun b => w.heap.size ≤ b) w w2 := ((HS3.out (.cells #[.int .i64 most] 3) (.cells #[.slice none 0 0] 42) (.cells #[.slice none 0 0] 80)).only (S := fun b => w.heap.size ≤ b)).trans ho2
    exact ⟨h1.os, h1.tape, h1.output, h1.size, fun i hi _ => h1.block i hi (by omega)⟩
  obtain ⟨kv, vv, hgv⟩ := hg2
  have hres : (gather most [] (l.drop (pos (keys l) k))).1 = fromL l k most := rfl
  rw [hres] at hgv
  obtain ⟨n, hn⟩ : ∃ n, (fromL l k most).length = n := ⟨_, rfl⟩
  obtain ⟨ka, kc, rfl⟩ := hgv.kk.form'
  obtain ⟨va, vc, rfl⟩ := hgv.vk.form'
  have hk0 := hgv.k
  have hv0 := hgv.v
  have h1 := hgv.nm
  have h2 := hgv.n3
  have hold := hgv.ok
  have hovd := hgv.ov
  have hbl : w.heap.size + 1 + 1 < w2.heap.size := hv0.lt
  have hTold : Told w ((w2.setCell ⟨w.heap.size + 1, 0, none⟩ (.slice ka (fromL l k most).length kc)).setCell ⟨w.heap.size + 1 + 1, 0, none⟩ (.slice va (fromL l k most).length vc)).drew (fromL l k most) (.slice ka (fromL l k most).length kc) (.slice va (fromL l k most).length vc) := by
    have hz : ((w2.setCell ⟨w.heap.size + 1, 0, none⟩ (.slice ka (fromL l k most).length kc)).setCell ⟨w.heap.size + 1 + 1, 0, none⟩ (.slice va (fromL l k most).length vc)).drew.heap.size = w2.heap.size := by simp [World.setCell]
    refine ⟨(vec_set (vec_set hgv.kk (p := ⟨w.heap.size + 1, 0, none⟩) (fun e => (hold _ e).2.2.2.1 rfl) _) (p := ⟨w.heap.size + 1 + 1, 0, none⟩) (fun e => (hold _ e).2.2.2.2 rfl) _).drew, (vec_set (vec_set hgv.vk (p := ⟨w.heap.size + 1, 0, none⟩) (fun e => (hovd _ e).2.2.2.1 rfl) _) (p := ⟨w.heap.size + 1 + 1, 0, none⟩) (fun e => (hovd _ e).2.2.2.2 rfl) _).drew,
      fun g hg => by rw [hz]; have := hold g hg; omega, fun g hg => by rw [hz]; have := hovd g hg; omega, hgv.ap, ?_⟩
    exact (Only.setCell (Only.setCell hst (p := ⟨w.heap.size + 1, 0, none⟩) (.inr (by simp)) _) (p := ⟨w.heap.size + 1 + 1, 0, none⟩) (.inr (by simp; omega)) _).drew
  have s0 : w2.cell? ⟨w.heap.size + 1, 0, none⟩ = some (.slice ka n kc) := by rw [← hn]; exact hk0.cell 0
  have s1 : w2.cell? ⟨w.heap.size + 1 + 1, 0, none⟩ = some (.slice va n vc) := by rw [← hn]; exact hv0.cell 0
  have s2 : w2.frozen? ⟨w.heap.size + 1, 0, none⟩ = false := hk0.free 0
  have s3 : w2.frozen? ⟨w.heap.size + 1 + 1, 0, none⟩ = false := hv0.free 0
  have s4 : ∀ u, (w2.setCell ⟨w.heap.size + 1, 0, none⟩ u).cell? ⟨w.heap.size + 1 + 1, 0, none⟩ = some (.slice va n vc) := fun u => by
    rw [← hn]
    exact (hv0.setOther (p := ⟨w.heap.size + 1, 0, none⟩) (Ne.symm h2) u).cell 0
  have s5 : ∀ u, (w2.setCell ⟨w.heap.size + 1, 0, none⟩ u).frozen? ⟨w.heap.size + 1 + 1, 0, none⟩ = false := fun u => (hv0.setOther (p := ⟨w.heap.size + 1, 0, none⟩) (Ne.symm h2) u).free 0
  rw [hn] at hTold
  have HT := Lib.hid hTold
  have HR := Lib.hid (show ∀ A B, ((w2.setCell ⟨w.heap.size + 1, 0, none⟩ A).setCell ⟨w.heap.size + 1 + 1, 0, none⟩ B).cell? ⟨w.heap.size + 1, 0, none⟩ = some A from fun A B => by
    exact ((hk0.setCell 0 A).setOther (p := ⟨w.heap.size + 1 + 1, 0, none⟩) h2 _).cell 0)
  have HR2 := Lib.hid (show ∀ A B, ((w2.setCell ⟨w.heap.size + 1, 0, none⟩ A).setCell ⟨w.heap.size + 1 + 1, 0, none⟩ B).cell? ⟨w.heap.size + 1 + 1, 0, none⟩ = some B from fun A B => by
    exact ((hv0.setOther (p := ⟨w.heap.size + 1, 0, none⟩) (Ne.symm h2) A).setCell 0 B).cell 0)
  clear hk0 hv0 h1 h2 hold hovd hTold hgv hn hres ho2 hst HP HX HS3 SW c0 hbl
  go_wp2_with fail
  refine wp_region_D_drew (D := (fun i => [0, 1, 2, 3].contains i)) (S := (fun _ => True)) (by kernel_rfl) ?_ (fun hHeld => ?_)
  · ((try dsimp only) <;> (trivial))
  refine wpAnyD_ready (rs := [0, 1]) (by kernel_rfl) (by simp) ?_
  refine ReadyD.last rfl (by rfl) (fun K hK => ?_) ?_
  go_simp
  refine hK.out _ _ ?_
  (clear hK K; try go_frame)
  refine wpAnyD_ready (rs := [1, 2]) (by kernel_rfl) (by simp) ?_
  refine ReadyD.last rfl (by rfl) (fun K hK => ?_) ?_
  go_simp
  refine hK.out _ _ ?_
  (clear hK K; try go_frame)
  refine wpAnyD_ready (rs := [2]) (by kernel_rfl) (by simp) ?_
  refine ReadyD.last rfl (by rfl) (fun K hK => ?_) ?_
  go_simp
  refine hK.out _ _ ?_
  (clear hK K; try go_frame)
  refine wpAnyD_ready (rs := [3]) (by kernel_rfl) (by simp) ?_
  refine ReadyD.last rfl (by rfl) (fun K hK => ?_) ?_
  go_simp
  refine hK.out _ _ ?_
  (clear hK K; try go_frame)
  refine wpAnyD_done (by kernel_rfl) ?_ _
  rotate_left
  exact ReadyD.nil
  exact ReadyD.nil
  refine ReadyD.last rfl (by rfl) (fun K hK => ?_) ?_
  go_simp
  refine hK.out _ _ ?_
  (clear hK K; try go_frame)
  refine wpAnyD_ready (rs := [1]) (by kernel_rfl) (by simp) ?_
  refine ReadyD.last rfl (by rfl) (fun K hK => ?_) ?_
  go_simp
  refine hK.out _ _ ?_
  (clear hK K; try go_frame)
  refine wpAnyD_ready (rs := [3]) (by kernel_rfl) (by simp) ?_
  refine ReadyD.last rfl (by rfl) (fun K hK => ?_) ?_
  go_simp
  refine hK.out _ _ ?_
  (clear hK K; try go_frame)
  refine wpAnyD_done (by kernel_rfl) ?_ _
  rotate_left
  exact ReadyD.nil
  exact ReadyD.nil
  exact ReadyD.nil
  refine ReadyD.last rfl (by rfl) (fun K hK => ?_) ?_
  go_simp
  refine hK.out _ _ ?_
  (clear hK K; try go_frame)
  refine wpAnyD_ready (rs := [0]) (by kernel_rfl) (by simp) ?_
  refine ReadyD.last rfl (by rfl) (fun K hK => ?_) ?_
  go_simp
  refine hK.out _ _ ?_
  (clear hK K; try go_frame)
  refine wpAnyD_ready (rs := [2]) (by kernel_rfl) (by simp) ?_
  refine ReadyD.last rfl (by rfl) (fun K hK => ?_) ?_
  go_simp
  refine hK.out _ _ ?_
  (clear hK K; try go_frame)
  refine wpAnyD_ready (rs := [3]) (by kernel_rfl) (by simp) ?_
  refine ReadyD.last rfl (by rfl) (fun K hK => ?_) ?_
  go_simp
  refine hK.out _ _ ?_
  (clear hK K; try go_frame)
  refine wpAnyD_done (by kernel_rfl) ?_ _
  rotate_left
  exact ReadyD.nil
  exact ReadyD.nil
  exact ReadyD.nil
  exact ReadyD.nil
  all_goals
    go_wp2_with fail
    (try simp only [Exit.inBlock, Exit.then])
    refine bodyPost_ret (v := .tuple #[.slice ka n kc, .slice va n vc]) ?_ rfl ⟨_, _, rfl, HT.out⟩
    rw [results_cell2 rfl]
    have q1 := HR.out
    have q2 := HR2.out
    go_simp
end Go.Proofs.YtedfijmaeoednaaGreatDoor.Ke

namespace Go.Proofs.YtedfijmaeoednaaGreatDoor
open Go.Shelf Go.RowKit Go.Lib
def tw_lays137_ren : Go.Shelf.Ren := ⟨fun | 137 => 53 | 217 => 81 | 266 => 106 | n => n, fun | 9 => 9 | 5 => 5 | 3 => 3 | n => n, fun | n => n⟩
theorem tw_lays137 : Go.Proofs.Lays.n137 Tryz.prog tw_lays137_ren := {
  mixed := by kernel_rfl
  f137 := Tryz.func53.trans (congrArg some (by kernel_rfl))
  f217 := Tryz.func81.trans (congrArg some (by kernel_rfl))
  f266 := Tryz.func106.trans (congrArg some (by kernel_rfl))
  t3 := Tryz.underlying3
  a3 := Tryz.isAgg3
  z3 := Tryz.sizeOf3
  v3 := Tryz.zeroValue3
  t5 := Tryz.underlying5
  a5 := Tryz.isAgg5
  z5 := Tryz.sizeOf5
  v5 := Tryz.zeroValue5
  t9 := Tryz.underlying9
  a9 := Tryz.isAgg9
  z9 := Tryz.sizeOf9
  v9 := Tryz.zeroValue9 }
theorem tw_strings_IndexByte (s : ByteArray) (c : Int) (w : World) :
    Calls Tryz.prog 53 #[.string s, .int .u8 c] w fun e w' => e = .returned (.int .i64 (Lib.indexByte s.data.toList c.toNat.toUInt8)) ∧ w' = w := Any.strings_IndexByte tw_lays137 s c w
def tw_lays99_ren : Go.Shelf.Ren := ⟨fun | 99 => 55 | 206 => 83 | n => n, fun | 9 => 9 | 4 => 4 | 3 => 3 | n => n, fun | n => n⟩
theorem tw_lays99 : Go.Proofs.Lays.n99 Tryz.prog tw_lays99_ren := {
  mixed := by kernel_rfl
  f99 := Tryz.func55.trans (congrArg some (by kernel_rfl))
  f206 := Tryz.func83.trans (congrArg some (by kernel_rfl))
  t3 := Tryz.underlying3
  a3 := Tryz.isAgg3
  z3 := Tryz.sizeOf3
  v3 := Tryz.zeroValue3
  t4 := Tryz.underlying4
  a4 := Tryz.isAgg4
  z4 := Tryz.sizeOf4
  v4 := Tryz.zeroValue4
  t9 := Tryz.underlying9
  a9 := Tryz.isAgg9
  z9 := Tryz.sizeOf9
  v9 := Tryz.zeroValue9 }
theorem tw_strings_HasPrefix (s p : ByteArray) (w : World) :
    Calls Tryz.prog 55 #[.string s, .string p] w fun e w' => e = .returned (.bool (Lib.hasPrefix s.data.toList p.data.toList)) ∧ w' = w := Any.strings_HasPrefix tw_lays99 s p w
def tw_lays155_ren : Go.Shelf.Ren := ⟨fun | 155 => 44 | 154 => 66 | 138 => 91 | 165 => 92 | 143 => 93 | 166 => 54 | 197 => 94 | 169 => 56 | 195 => 113 | 218 => 114 | 240 => 82 | 241 => 115 | 219 => 116 | 260 => 117 | 276 => 107 | 277 => 123 | 217 => 81 | 225 => 124 | 224 => 125 | 267 => 126 | 266 => 106 | 314 => 132 | n => n, fun | 9 => 9 | 3 => 3 | 4 => 4 | 72 => 103 | 0 => 0 | 76 => 107 | 105 => 138 | 21 => 21 | 5 => 5 | 70 => 101 | 20 => 20 | 37 => 52 | 75 => 106 | 127 => 129 | 164 => 150 | 46 => 128 | 119 => 164 | 139 => 167 | 138 => 166 | 146 => 174 | 51 => 173 | 80 => 110 | n => n, fun | 1 => 0 | 3 => 1 | 4 => 2 | n => n⟩
theorem tw_lays155 : Go.Proofs.Lays.n155 Tryz.prog tw_lays155_ren := {
  mixed := by kernel_rfl
  f138 := Tryz.func91.trans (congrArg some (by kernel_rfl))
  f143 := Tryz.func93.trans (congrArg some (by kernel_rfl))
  f154 := Tryz.func66.trans (congrArg some (by kernel_rfl))
  f155 := Tryz.func44.trans (congrArg some (by kernel_rfl))
  f165 := Tryz.func92.trans (congrArg some (by kernel_rfl))
  f166 := Tryz.func54.trans (congrArg some (by kernel_rfl))
  f169 := Tryz.func56.trans (congrArg some (by kernel_rfl))
  f195 := Tryz.func113.trans (congrArg some (by kernel_rfl))
  f197 := Tryz.func94.trans (congrArg some (by kernel_rfl))
  f217 := Tryz.func81.trans (congrArg some (by kernel_rfl))
  f218 := Tryz.func114.trans (congrArg some (by kernel_rfl))
  f219 := Tryz.func116.trans (congrArg some (by kernel_rfl))
  f224 := Tryz.func125.trans (congrArg some (by kernel_rfl))
  f225 := Tryz.func124.trans (congrArg some (by kernel_rfl))
  f240 := Tryz.func82.trans (congrArg some (by kernel_rfl))
  f241 := Tryz.func115.trans (congrArg some (by kernel_rfl))
  f260 := Tryz.func117.trans (congrArg some (by kernel_rfl))
  f266 := Tryz.func106.trans (congrArg some (by kernel_rfl))
  f267 := Tryz.func126.trans (congrArg some (by kernel_rfl))
  f276 := Tryz.func107.trans (congrArg some (by kernel_rfl))
  f277 := Tryz.func123.trans (congrArg some (by kernel_rfl))
  f314 := Tryz.func132.trans (congrArg some (by kernel_rfl))
  t0 := Tryz.underlying0
  a0 := Tryz.isAgg0
  z0 := Tryz.sizeOf0
  v0 := Tryz.zeroValue0
  t3 := Tryz.underlying3
  a3 := Tryz.isAgg3
  z3 := Tryz.sizeOf3
  v3 := Tryz.zeroValue3
  t4 := Tryz.underlying4
  a4 := Tryz.isAgg4
  z4 := Tryz.sizeOf4
  v4 := Tryz.zeroValue4
  t5 := Tryz.underlying5
  a5 := Tryz.isAgg5
  z5 := Tryz.sizeOf5
  v5 := Tryz.zeroValue5
  t9 := Tryz.underlying9
  a9 := Tryz.isAgg9
  z9 := Tryz.sizeOf9
  v9 := Tryz.zeroValue9
  t20 := Tryz.underlying20
  a20 := Tryz.isAgg20
  z20 := Tryz.sizeOf20
  v20 := Tryz.zeroValue20
  t21 := Tryz.underlying21
  a21 := Tryz.isAgg21
  z21 := Tryz.sizeOf21
  v21 := Tryz.zeroValue21
  t37 := Tryz.underlying52
  a37 := Tryz.isAgg52
  z37 := Tryz.sizeOf52
  v37 := Tryz.zeroValue52
  t46 := Tryz.underlying128
  a46 := Tryz.isAgg128
  z46 := Tryz.sizeOf128
  v46 := Tryz.zeroValue128
  t51 := Tryz.underlying173
  a51 := Tryz.isAgg173
  z51 := Tryz.sizeOf173
  v51 := Tryz.zeroValue173
  t70 := Tryz.underlying101
  a70 := Tryz.isAgg101
  z70 := Tryz.sizeOf101
  v70 := Tryz.zeroValue101
  t72 := Tryz.underlying103
  a72 := Tryz.isAgg103
  z72 := Tryz.sizeOf103
  v72 := Tryz.zeroValue103
  t75 := Tryz.underlying106
  a75 := Tryz.isAgg106
  z75 := Tryz.sizeOf106
  v75 := Tryz.zeroValue106
  t76 := Tryz.underlying107
  a76 := Tryz.isAgg107
  z76 := Tryz.sizeOf107
  v76 := Tryz.zeroValue107
  t105 := Tryz.underlying138
  a105 := Tryz.isAgg138
  z105 := Tryz.sizeOf138
  v105 := Tryz.zeroValue138
  t119 := Tryz.underlying164
  a119 := Tryz.isAgg164
  z119 := Tryz.sizeOf164
  t127 := Tryz.underlying129
  a127 := Tryz.isAgg129
  z127 := Tryz.sizeOf129
  v127 := Tryz.zeroValue129
  t138 := Tryz.underlying166
  a138 := Tryz.isAgg166
  z138 := Tryz.sizeOf166
  v138 := Tryz.zeroValue166
  t139 := Tryz.underlying167
  a139 := Tryz.isAgg167
  z139 := Tryz.sizeOf167
  v139 := Tryz.zeroValue167
  t146 := Tryz.underlying174
  a146 := Tryz.isAgg174
  z146 := Tryz.sizeOf174
  v146 := Tryz.zeroValue174
  t164 := Tryz.underlying150
  a164 := Tryz.isAgg150
  z164 := Tryz.sizeOf150
  v164 := Tryz.zeroValue150
  g1 := by kernel_rfl
  g3 := by kernel_rfl
  g4 := by kernel_rfl }
theorem tw_Builder_Extra_155 : Builder.Extra Tryz.prog tw_lays155_ren := {
  sizeBuilder := by kernel_rfl
  liesBuilder := by kernel_rfl
  t5 := Tryz.underlying5
  a5 := Tryz.isAgg5
  z5 := Tryz.sizeOf5
  v5 := Tryz.zeroValue5
  infoByte := by kernel_rfl
  cellsByte := by kernel_rfl
  sizeByte := by kernel_rfl
  neB5 := by decide }
theorem tw_strings_ReplaceAll (s old new : ByteArray) (m : Int) (w : World) (hs : s.size < 4294967281) (hm : w.cell? ⟨0, 0, none⟩ = some (.int .i64 m)) (h1 : 1 ≤ old.size) (hlen : s.size + Lib.countB s old * new.size ≤ 140737488355328) :
    Calls Tryz.prog 44 #[.string s, .string old, .string new] w fun e w' =>
      e = .returned (.string ⟨(Lib.replaceAll s.data.toList old.data.toList new.data.toList).toArray⟩) ∧ Below w.heap.size w w' := Any.strings_ReplaceAll tw_lays155 tw_Builder_Extra_155 s old new m w hs hm h1 hlen
def tw_lays169_ren : Go.Shelf.Ren := ⟨fun | 169 => 56 | n => n, fun | 70 => 101 | 9 => 9 | 0 => 0 | 72 => 103 | 37 => 52 | 127 => 129 | 3 => 3 | 5 => 5 | n => n, fun | n => n⟩
theorem tw_lays169 : Go.Proofs.Lays.n169 Tryz.prog tw_lays169_ren := {
  mixed := by kernel_rfl
  f169 := Tryz.func56.trans (congrArg some (by kernel_rfl))
  t0 := Tryz.underlying0
  a0 := Tryz.isAgg0
  z0 := Tryz.sizeOf0
  v0 := Tryz.zeroValue0
  t3 := Tryz.underlying3
  a3 := Tryz.isAgg3
  z3 := Tryz.sizeOf3
  v3 := Tryz.zeroValue3
  t9 := Tryz.underlying9
  a9 := Tryz.isAgg9
  z9 := Tryz.sizeOf9
  v9 := Tryz.zeroValue9
  t37 := Tryz.underlying52
  a37 := Tryz.isAgg52
  z37 := Tryz.sizeOf52
  v37 := Tryz.zeroValue52
  t70 := Tryz.underlying101
  a70 := Tryz.isAgg101
  z70 := Tryz.sizeOf101
  v70 := Tryz.zeroValue101
  t72 := Tryz.underlying103
  a72 := Tryz.isAgg103
  z72 := Tryz.sizeOf103
  v72 := Tryz.zeroValue103
  t127 := Tryz.underlying129
  a127 := Tryz.isAgg129
  z127 := Tryz.sizeOf129
  v127 := Tryz.zeroValue129 }
theorem tw_Builder_Extra_169 : Builder.Extra Tryz.prog tw_lays169_ren := {
  sizeBuilder := by kernel_rfl
  liesBuilder := by kernel_rfl
  t5 := Tryz.underlying5
  a5 := Tryz.isAgg5
  z5 := Tryz.sizeOf5
  v5 := Tryz.zeroValue5
  infoByte := by kernel_rfl
  cellsByte := by kernel_rfl
  sizeByte := by kernel_rfl
  neB5 := by decide }
theorem tw_Builder_String (B b : Nat) (l : List UInt8) (w : World) (h : Lib.IsBuilder 103 5 B b (Lib.byteCells l) w) (h0 : l ≠ []) :
    Calls Tryz.prog 56 #[.pointer (some ⟨b, 0, none⟩)] w fun e w' => e = .returned (.string ⟨l.toArray⟩) ∧ Below B w w' := Any.Builder_String tw_lays169 tw_Builder_Extra_169 B b l w h h0
theorem tw_Builder_String_empty (B b : Nat) (w : World) (h : Lib.IsBuilder 103 5 B b [] w) (hBw : B ≤ w.heap.size) :
    Calls Tryz.prog 56 #[.pointer (some ⟨b, 0, none⟩)] w fun e w' => e = .returned (.string ⟨#[]⟩) ∧ Below B w w' := Any.Builder_String_empty tw_lays169 tw_Builder_Extra_169 B b w h hBw
theorem tw_Builder_String_any (B b : Nat) (l : List UInt8) (w : World) (h : Lib.IsBuilder 103 5 B b (Lib.byteCells l) w) (hBw : B ≤ w.heap.size) :
    Calls Tryz.prog 56 #[.pointer (some ⟨b, 0, none⟩)] w fun e w' => e = .returned (.string ⟨l.toArray⟩) ∧ Below B w w' := Any.Builder_String_any tw_lays169 tw_Builder_Extra_169 B b l w h hBw
def tw_lays167_ren : Go.Shelf.Ren := ⟨fun | 167 => 57 | 240 => 82 | 276 => 107 | n => n, fun | 9 => 9 | 3 => 3 | 4 => 4 | 72 => 103 | 0 => 0 | 76 => 107 | 105 => 138 | 21 => 21 | 5 => 5 | 70 => 101 | 20 => 20 | 37 => 52 | 75 => 106 | 127 => 129 | 164 => 150 | 46 => 128 | 119 => 164 | 139 => 167 | 138 => 166 | 146 => 174 | 51 => 173 | 80 => 110 | n => n, fun | n => n⟩
theorem tw_lays167 : Go.Proofs.Lays.n167 Tryz.prog tw_lays167_ren := {
  mixed := by kernel_rfl
  f167 := Tryz.func57.trans (congrArg some (by kernel_rfl))
  f240 := Tryz.func82.trans (congrArg some (by kernel_rfl))
  f276 := Tryz.func107.trans (congrArg some (by kernel_rfl))
  t0 := Tryz.underlying0
  a0 := Tryz.isAgg0
  z0 := Tryz.sizeOf0
  v0 := Tryz.zeroValue0
  t4 := Tryz.underlying4
  a4 := Tryz.isAgg4
  z4 := Tryz.sizeOf4
  v4 := Tryz.zeroValue4
  t5 := Tryz.underlying5
  a5 := Tryz.isAgg5
  z5 := Tryz.sizeOf5
  v5 := Tryz.zeroValue5
  t9 := Tryz.underlying9
  a9 := Tryz.isAgg9
  z9 := Tryz.sizeOf9
  v9 := Tryz.zeroValue9
  t20 := Tryz.underlying20
  a20 := Tryz.isAgg20
  z20 := Tryz.sizeOf20
  v20 := Tryz.zeroValue20
  t37 := Tryz.underlying52
  a37 := Tryz.isAgg52
  z37 := Tryz.sizeOf52
  v37 := Tryz.zeroValue52
  t70 := Tryz.underlying101
  a70 := Tryz.isAgg101
  z70 := Tryz.sizeOf101
  v70 := Tryz.zeroValue101
  t72 := Tryz.underlying103
  a72 := Tryz.isAgg103
  z72 := Tryz.sizeOf103
  v72 := Tryz.zeroValue103
  t75 := Tryz.underlying106
  a75 := Tryz.isAgg106
  z75 := Tryz.sizeOf106
  v75 := Tryz.zeroValue106
  t164 := Tryz.underlying150
  a164 := Tryz.isAgg150
  z164 := Tryz.sizeOf150
  v164 := Tryz.zeroValue150 }
theorem tw_Builder_Extra_167 : Builder.Extra Tryz.prog tw_lays167_ren := {
  sizeBuilder := by kernel_rfl
  liesBuilder := by kernel_rfl
  t5 := Tryz.underlying5
  a5 := Tryz.isAgg5
  z5 := Tryz.sizeOf5
  v5 := Tryz.zeroValue5
  infoByte := by kernel_rfl
  cellsByte := by kernel_rfl
  sizeByte := by kernel_rfl
  neB5 := by decide }
theorem tw_WriteByte (B b : Nat) (bs : List Value) (c : Int) (w : World) (h : Lib.IsBuilder 103 5 B b bs w) (hlen : bs.length + 1 ≤ 140737488355328) (hBw : B ≤ w.heap.size) :
    Calls Tryz.prog 57 #[.pointer (some ⟨b, 0, none⟩), .int .u8 c] w fun e w' => e = .returned .nilIface ∧ (Lib.BuilderAt 103 5 B b (.pointer (some ⟨b, 0, none⟩)) (bs ++ [.int .u8 c]) w' ∧ Below B w w') := Any.Builder_WriteByte tw_lays167 tw_Builder_Extra_167 B b bs c w h hlen hBw
theorem tw_WriteString (B b : Nat) (bs : List Value) (s : ByteArray) (w : World) (h : Lib.IsBuilder 103 5 B b bs w) (hlen : bs.length + s.size ≤ 140737488355328) (hBw : B ≤ w.heap.size) :
    Calls Tryz.prog 54 #[.pointer (some ⟨b, 0, none⟩), .string s] w fun e w' => e = .returned (.tuple #[.int .i64 s.size, .nilIface]) ∧ (Lib.BuilderAt 103 5 B b (.pointer (some ⟨b, 0, none⟩)) (bs ++ Lib.strCells s) w' ∧ Below B w w') := Any.Builder_WriteString { tw_lays155 with } tw_Builder_Extra_155 B b bs s w h hlen hBw
end Go.Proofs.YtedfijmaeoednaaGreatDoor

namespace Go.Proofs.YtedfijmaeoednaaGreatDoor.Tw
open Go.RowKit Go.Lib

/-- Each nought gets a mark behind it. -/
def esc : List UInt8 → List UInt8
  | [] => []
  | b :: l => if b = 0 then 0 :: 255 :: esc l else b :: esc l
theorem esc_zero (l : List UInt8) : esc (0 :: l) = 0 :: 255 :: esc l := by simp [esc]
theorem esc_other {b : UInt8} (h : b ≠ 0) (l : List UInt8) : esc (b :: l) = b :: esc l := by simp [esc, h]
theorem esc_append : ∀ (a b : List UInt8), esc (a ++ b) = esc a ++ esc b
  | [], _ => rfl
  | x :: a, b => by
    rw [List.cons_append]
    by_cases h : x = 0
    · subst h
      rw [esc_zero, esc_zero, esc_append a b]
      rfl
    · rw [esc_other h, esc_other h, esc_append a b]
      rfl
theorem esc_len : ∀ l : List UInt8, (esc l).length ≤ 2 * l.length
  | [] => by simp [esc]
  | x :: l => by
    have := esc_len l
    unfold esc
    split <;> simp <;> omega
theorem esc_free : ∀ l : List UInt8, (∀ b ∈ l, b ≠ 0) → esc l = l
  | [], _ => rfl
  | x :: l, h => by rw [esc_other (h x (by simp)), esc_free l (fun b hb => h b (by simp [hb]))]

def joinL (a b : List UInt8) : List UInt8 := esc a ++ ([0, 1] ++ b)

/-- Where a nought is. -/
theorem index_zero : ∀ (l : List UInt8), (index l [0] = -1 ∧ ∀ b ∈ l, b ≠ 0) ∨ ∃ i r, index l [0] = (i : Nat) ∧ i < l.length ∧ l.drop i = 0 :: r ∧ ∀ b ∈ l.take i, b ≠ 0
  | [] => .inl ⟨rfl, fun _ h => by cases h⟩
  | x :: l => by
    by_cases hx : x = 0
    · subst hx
      exact .inr ⟨0, l, rfl, by simp, rfl, by simp⟩
    · have hp : ([0] : List UInt8).isPrefixOf (x :: l) = false := by simp [List.isPrefixOf]; exact fun h => hx h.symm
      unfold index
      rw [hp]
      rcases index_zero l with ⟨h1, h2⟩ | ⟨i, r, h1, h2, h3, h4⟩
      · refine .inl ⟨by rw [h1]; rfl, fun b hb => ?_⟩
        rcases List.mem_cons.1 hb with rfl | hb
        · exact hx
        · exact h2 b hb
      · refine .inr ⟨i + 1, r, ?_, by simp; omega, by simpa using h3, fun b hb => ?_⟩
        · have : ¬ (index l [0] == -1) = true := fun e => by have := beq_iff_eq.1 e; omega
          rw [if_neg (by simp), if_neg this, h1]
          rfl
        · rw [List.take_succ_cons] at hb
          rcases List.mem_cons.1 hb with rfl | hb
          · exact hx
          · exact h4 b hb

theorem replaceK_zero : ∀ (n : Nat) (l : List UInt8), l.length ≤ n → replaceK [0] [0, 255] (count l [0]) l = esc l
  | n, l, hn => by
    rcases index_zero l with ⟨h1, h2⟩ | ⟨i, r, h1, h2, h3, h4⟩
    · rw [count_miss h1, esc_free l h2]
      rfl
    · rw [count_hit (by simp) h1, Nat.add_comm, replaceK_hit _ _ _ _ _ h1]
      have hd : l.drop (i + [(0 : UInt8)].length) = r := by
        have : l.drop (i + 1) = (l.drop i).drop 1 := by rw [List.drop_drop]
        show l.drop (i + 1) = r
        rw [this, h3]
        rfl
      rw [hd]
      match n, hn with
      | 0, hn => omega
      | n + 1, hn =>
        have hr : r.length ≤ n := by
          have := congrArg List.length h3
          simp at this
          omega
        rw [replaceK_zero n r hr]
        have e : l = l.take i ++ 0 :: r := by rw [← h3, List.take_append_drop]
        have e2 : esc l = esc (l.take i) ++ esc (0 :: r) := by rw [← esc_append, ← e]
        rw [e2, esc_free _ h4, esc_zero]
        simp

theorem replaceAll_zero (l : List UInt8) : replaceAll l [0] [0, 255] = esc l := by
  have e : (([0] : List UInt8) == [0, 255]) = false := by decide
  unfold replaceAll replace replaceNum
  rw [e, if_neg (by simp), if_pos (by omega)]
  exact replaceK_zero l.length l (Nat.le_refl _)

theorem count_zero_le (l : List UInt8) : count l [0] ≤ l.length + 1 := count_le l [0]

/-- The two texts of one. -/
def spl : List UInt8 → List UInt8 → Option (List UInt8 × List UInt8)
  | _, [] => none
  | _, [_] => none
  | acc, b :: c :: r => if b = 0 then (if c = 1 then some (acc, r) else if c = 255 then spl (acc ++ [0]) r else none) else spl (acc ++ [b]) (c :: r)

theorem spl_other {b : UInt8} (h : b ≠ 0) (acc l : List UInt8) : spl acc (b :: l) = spl (acc ++ [b]) l := by
  cases l with
  | nil => rfl
  | cons c r => simp [spl, h]
theorem spl_free : ∀ (p acc l : List UInt8), (∀ b ∈ p, b ≠ 0) → spl acc (p ++ l) = spl (acc ++ p) l
  | [], acc, l, _ => by simp
  | b :: p, acc, l, h => by
    rw [List.cons_append, spl_other (h b (by simp)), spl_free p _ l (fun x hx => h x (by simp [hx]))]
    simp
theorem spl_end (acc l : List UInt8) (h : ∀ b ∈ l, b ≠ 0) : spl acc l = none := by
  have := spl_free l acc [] h
  rw [List.append_nil] at this
  rw [this]
  rfl
theorem spl_join : ∀ (a acc b : List UInt8), spl acc (joinL a b) = some (acc ++ a, b)
  | [], acc, b => by simp [joinL, esc, spl]
  | x :: a, acc, b => by
    have ih := fun acc => spl_join a acc b
    unfold joinL at ih ⊢
    by_cases h : x = 0
    · subst h
      rw [esc_zero]
      have : spl acc (0 :: 255 :: esc a ++ ([0, 1] ++ b)) = spl (acc ++ [0]) (esc a ++ ([0, 1] ++ b)) := by
        simp only [List.cons_append]
        rw [spl]
        simp
      rw [this, ih]
      simp
    · rw [esc_other h, List.cons_append, spl_other h, ih]
      simp
theorem join_inj {a b c d : List UInt8} (h : joinL a b = joinL c d) : a = c ∧ b = d := by
  have h1 := spl_join a [] b
  rw [h, spl_join] at h1
  simpa using h1.symm

theorem lt_cons_same (x : UInt8) (a b : List UInt8) : (x :: a < x :: b) ↔ a < b := by
  rw [List.cons_lt_cons_iff]
  constructor
  · rintro (h | ⟨_, h⟩)
    · exact absurd h (UInt8.lt_irrefl x)
    · exact h
  · exact fun h => .inr ⟨rfl, h⟩
theorem zero_lt {x : UInt8} (h : x ≠ 0) : (0 : UInt8) < x := by
  rw [UInt8.lt_iff_toNat_lt]
  have : x.toNat ≠ 0 := fun e => h (UInt8.toNat_inj.1 e)
  show 0 < x.toNat
  omega

theorem join_lt : ∀ (a c b d : List UInt8), joinL a b < joinL c d ↔ (a < c ∨ (a = c ∧ b < d))
  | [], [], b, d => by
    show 0 :: 1 :: b < 0 :: 1 :: d ↔ _
    rw [lt_cons_same, lt_cons_same]
    simp
  | [], y :: c, b, d => by
    have h : ([] : List UInt8) < y :: c := List.nil_lt_cons y c
    refine ⟨fun _ => .inl h, fun _ => ?_⟩
    unfold joinL
    by_cases hy : y = 0
    · subst hy
      rw [esc_zero]
      show 0 :: 1 :: b < 0 :: 255 :: (esc c ++ ([0, 1] ++ d))
      rw [lt_cons_same, List.cons_lt_cons_iff]
      exact .inl (by decide)
    · rw [esc_other hy]
      show 0 :: 1 :: b < y :: (esc c ++ ([0, 1] ++ d))
      rw [List.cons_lt_cons_iff]
      exact .inl (zero_lt hy)
  | x :: a, [], b, d => by
    have hn : ¬ ((x :: a) < ([] : List UInt8) ∨ (x :: a = [] ∧ b < d)) := by simp
    refine ⟨fun h => absurd h ?_, fun h => absurd h hn⟩
    unfold joinL
    by_cases hx : x = 0
    · subst hx
      rw [esc_zero]
      show ¬ (0 :: 255 :: (esc a ++ ([0, 1] ++ b)) < 0 :: 1 :: d)
      rw [lt_cons_same, List.cons_lt_cons_iff]
      rintro (h | ⟨h, _⟩)
      · revert h; decide
      · revert h; decide
    · rw [esc_other hx]
      show ¬ (x :: (esc a ++ ([0, 1] ++ b)) < 0 :: 1 :: d)
      rw [List.cons_lt_cons_iff]
      rintro (h | ⟨h, _⟩)
      · exact absurd h (UInt8.lt_asymm (zero_lt hx))
      · exact hx h
  | x :: a, y :: c, b, d => by
    have ih := join_lt a c b d
    unfold joinL at ih ⊢
    by_cases hxy : x = y
    · subst hxy
      have hr : (x :: a < x :: c ∨ (x :: a = x :: c ∧ b < d)) ↔ (a < c ∨ (a = c ∧ b < d)) := by
        rw [lt_cons_same]
        simp
      rw [hr, ← ih]
      by_cases hx : x = 0
      · subst hx
        rw [esc_zero, esc_zero]
        show 0 :: 255 :: _ < 0 :: 255 :: _ ↔ _
        rw [lt_cons_same, lt_cons_same]
        exact Iff.rfl
      · rw [esc_other hx, esc_other hx]
        show x :: _ < x :: _ ↔ _
        rw [lt_cons_same]
        exact Iff.rfl
    · have hr : (x :: a < y :: c ∨ (x :: a = y :: c ∧ b < d)) ↔ x < y := by
        rw [List.cons_lt_cons_iff]
        simp [hxy]
      rw [hr]
      have e : ∀ (z : UInt8) (l m : List UInt8), ∃ t, esc (z :: l) ++ m = z :: t := fun z l m => by
        by_cases hz : z = 0
        · subst hz
          exact ⟨_, by rw [esc_zero]; rfl⟩
        · exact ⟨_, by rw [esc_other hz]; rfl⟩
      obtain ⟨t1, e1⟩ := e x a ([0, 1] ++ b)
      obtain ⟨t2, e2⟩ := e y c ([0, 1] ++ d)
      rw [e1, e2, List.cons_lt_cons_iff]
      simp [hxy]

/-- What begins with the front of a text is of that text. -/
theorem join_front (s k c : List UInt8) : ((joinL c []) <+: joinL s k) ↔ s = c := by
  constructor
  · rintro ⟨r, h⟩
    have e : joinL c [] ++ r = joinL c r := by simp [joinL]
    rw [e] at h
    exact (join_inj h).1.symm
  · rintro rfl
    exact ⟨k, by simp [joinL]⟩
end Go.Proofs.YtedfijmaeoednaaGreatDoor.Tw

namespace Go.Proofs.YtedfijmaeoednaaGreatDoor.Tw
open Go.RowKit
open Go.Lib hiding intOf

theorem app_list (a b : ByteArray) : (a ++ b).data.toList = a.data.toList ++ b.data.toList := by
  rw [ByteArray.data_append, Array.toList_append]
theorem size_list (a : ByteArray) : a.data.toList.length = a.size := by
  rw [Array.length_toList]
  rfl

def JoinPost (s k : ByteArray) (w : World) (e : Ending) (w' : World) : Prop :=
  ∃ t : ByteArray, e = .returned (.string t) ∧ t.data.toList = joinL s.data.toList k.data.toList ∧ Below w.heap.size w w'

set_option maxHeartbeats 400000 in
theorem join_any (s k : ByteArray) (m : Int) (w : World) (hm : w.cell? ⟨0, 0, none⟩ = some (.int .i64 m)) (hs : s.size ≤ 1000) (hk : k.size ≤ 1000) :
    Calls Tryz.prog 29 #[.string s, .string k] w (JoinPost s k w) := by
  have hc : countB s ⟨#[0]⟩ ≤ s.size + 1 := by
    have := count_zero_le s.data.toList
    rw [size_list] at this
    exact this
  have C := Lib.hid (tw_strings_ReplaceAll s ⟨#[0]⟩ ⟨#[0, 255]⟩ m w (by omega) hm (by decide) (by
    show s.size + countB s ⟨#[0]⟩ * 2 ≤ _
    omega))
  have HL := Lib.hid (show (esc s.data.toList).length ≤ 2000 by
    have := esc_len s.data.toList
    rw [size_list] at this
    omega)
  clear hm hc
  go_enter Tryz.func29, Tryz.ntmps29
  go_wp2_with fail
  refine C.out.mono ?_
  clear C
  rintro e w1 ⟨rfl, hb⟩
  have HR := Lib.hid (show (⟨(replaceAll s.data.toList [0] [0, 255]).toArray⟩ : ByteArray).data.toList = esc s.data.toList from by
    rw [replaceAll_zero])
  have hd : (⟨(replaceAll s.data.toList (ByteArray.mk #[0]).data.toList (ByteArray.mk #[0, 255]).data.toList).toArray⟩ : ByteArray) = ⟨(replaceAll s.data.toList [0] [0, 255]).toArray⟩ := rfl
  rw [hd]
  clear hd
  generalize (⟨(replaceAll s.data.toList [0] [0, 255]).toArray⟩ : ByteArray) = t at *
  have hts : t.size ≤ 2000 := by
    rw [← size_list, HR.out]
    exact HL.out
  have HB := Lib.hid hb
  clear hb
  have F := Lib.hid (show JoinPost s k w (.returned (.string (t ++ ⟨#[0, 1]⟩ ++ k))) w1 from ⟨_, rfl, by rw [app_list, app_list, HR.out, List.append_assoc]; rfl, HB.out⟩)
  clear HB HR HL
  go_wp2_with fail
  go_ret
  exact F.out

set_option maxHeartbeats 400000 in
theorem front_any (s : ByteArray) (m : Int) (w : World) (hm : w.cell? ⟨0, 0, none⟩ = some (.int .i64 m)) (hs : s.size ≤ 1000) :
    Calls Tryz.prog 37 #[.string s] w (JoinPost s ⟨#[]⟩ w) := by
  have C := Lib.hid (join_any s ⟨#[]⟩ m w hm hs (by decide))
  clear hm
  go_enter Tryz.func37, Tryz.ntmps37
  go_wp2_with fail
  refine C.out.mono ?_
  clear C
  rintro e w1 ⟨t, rfl, ht, hb⟩
  have F := Lib.hid (show JoinPost s ⟨#[]⟩ w (.returned (.string t)) w1 from ⟨t, rfl, ht, hb⟩)
  clear ht hb
  go_wp2_with fail
  go_ret
  exact F.out

theorem extract_list (s : ByteArray) (i j : Nat) : (s.extract i j).data.toList = (s.data.toList.drop i).take (j - i) := by
  rw [ByteArray.data_extract, Array.toList_extract]

theorem extract_one (s : ByteArray) (i : Nat) (h : i < s.size) : (s.extract i (i + 1)).data.toList = [s[i]] := by
  rw [extract_list, Nat.add_sub_cancel_left, List.take_one]
  have : (s.data.toList.drop i).head? = some s[i] := by
    rw [List.head?_drop, List.getElem?_eq_getElem (by rw [size_list]; exact h)]
    rfl
  rw [this]
  rfl
theorem take_snoc (s : ByteArray) (k : Nat) (h : k < s.size) : s.data.toList.take (k + 1) = s.data.toList.take k ++ [s[k]] := by
  rw [List.take_succ_eq_append_getElem (by rw [size_list]; exact h)]; rfl

theorem esc_snoc0 (l : List UInt8) {b : UInt8} (h : b.toNat = 0) : esc (l ++ [b]) = esc l ++ [b] ++ [255] := by
  have : b = 0 := UInt8.toNat_inj.1 h
  subst this
  rw [esc_append, esc_zero]
  simp [esc]
theorem esc_snoc1 (l : List UInt8) {b : UInt8} (h : ¬ b.toNat = 0) : esc (l ++ [b]) = esc l ++ [b] := by
  have : b ≠ 0 := fun e => h (by rw [e]; rfl)
  rw [esc_append, esc_other this]
  rfl

structure RJ (s t : ByteArray) (i : Nat) : Prop where
  list : t.data.toList = esc (s.data.toList.take i)
theorem RJ.size {s t : ByteArray} {i : Nat} (h : RJ s t i) (hi : i ≤ s.size) : t.size ≤ 2 * i := by
  have := esc_len (s.data.toList.take i)
  rw [← size_list, h.list]
  rw [List.length_take, size_list] at this
  omega

def RJPost (s k : ByteArray) (w : World) (e : Ending) (w' : World) : Prop :=
  ∃ t : ByteArray, e = .returned (.string t) ∧ t.data.toList = joinL s.data.toList k.data.toList ∧ w = w'

end Go.Proofs.YtedfijmaeoednaaGreatDoor.Tw

namespace Go.Proofs.YtedfijmaeoednaaGreatDoor.Tw
open Go.RowKit
open Go.Lib hiding intOf

inductive SplitEnd (s : ByteArray) : Ending → Prop where
  | no (h : spl [] s.data.toList = none) : SplitEnd s (.returned (.tuple #[.string ⟨#[]⟩, .string ⟨#[]⟩, .bool false]))
  | yes (x y : ByteArray) (h : spl [] s.data.toList = some (x.data.toList, y.data.toList)) : SplitEnd s (.returned (.tuple #[.string x, .string y, .bool true]))
def SplitPost (s : ByteArray) (w : World) (e : Ending) (w' : World) : Prop := SplitEnd s e ∧ Below w.heap.size w w'

/-- The reference's round. -/
structure RS (s t : ByteArray) (i : Nat) : Prop where
  spl_ : spl [] s.data.toList = spl t.data.toList (s.data.toList.drop i)
  small : t.size ≤ i
theorem RS.start (s : ByteArray) : RS s ⟨#[]⟩ 0 := ⟨rfl, Nat.le_refl _⟩
theorem drop_at (s : ByteArray) (i : Nat) (h : i < s.size) : s.data.toList.drop i = s[i] :: s.data.toList.drop (i + 1) := by
  rw [List.drop_eq_getElem_cons (by rw [size_list]; exact h)]; rfl
theorem RS.other {s t : ByteArray} {i : Nat} (h : RS s t i) (hi : i < s.size) (hz : ¬ s[i].toNat = 0) : RS s (t ++ s.extract i (i + 1)) (i + 1) := by
  have h1 := extract_one s i hi
  refine ⟨?_, ?_⟩
  · rw [h.spl_, drop_at s i hi, spl_other (fun e => hz (by rw [e]; rfl)), app_list, h1]
  · rw [← size_list, app_list, h1, List.length_append, size_list]
    have := h.small
    simp
    omega
theorem RS.last {s t : ByteArray} {i : Nat} (h : RS s t i) (hi : i + 1 = s.size) : spl [] s.data.toList = none := by
  rw [h.spl_, drop_at s i (by omega), List.drop_of_length_le (by rw [size_list]; omega)]
  rfl
theorem RS.over {s t : ByteArray} {i : Nat} (h : RS s t i) (hi : ¬ i < s.size) : spl [] s.data.toList = none := by
  rw [h.spl_, List.drop_of_length_le (by rw [size_list]; omega)]
  rfl
theorem two_at (s : ByteArray) (i : Nat) (hi : i < s.size) (h2 : i + 1 < s.size) (hz : s[i].toNat = 0) : s.data.toList.drop i = 0 :: s[i + 1] :: s.data.toList.drop (i + 2) := by
  rw [drop_at s i hi, drop_at s (i + 1) h2]
  have : s[i] = 0 := UInt8.toNat_inj.1 hz
  rw [this]
theorem RS.found {s t : ByteArray} {i : Nat} (h : RS s t i) (h2 : i + 1 < s.size) (hz : (s[i]'(by omega)).toNat = 0) (h1 : s[i + 1].toNat = 1) : spl [] s.data.toList = some (t.data.toList, (s.extract (i + 2) s.size).data.toList) := by
  have e : s[i + 1] = 1 := UInt8.toNat_inj.1 h1
  rw [h.spl_, two_at s i (by omega) h2 hz, e, extract_list, List.take_of_length_le (by rw [List.length_drop, size_list]; omega)]
  simp [spl]
theorem RS.bad {s t : ByteArray} {i : Nat} (h : RS s t i) (h2 : i + 1 < s.size) (hz : (s[i]'(by omega)).toNat = 0) (h1 : ¬ s[i + 1].toNat = 1) (h3 : ¬ s[i + 1].toNat = 255) : spl [] s.data.toList = none := by
  have e1 : s[i + 1] ≠ 1 := fun e => h1 (by rw [e]; rfl)
  have e2 : s[i + 1] ≠ 255 := fun e => h3 (by rw [e]; rfl)
  rw [h.spl_, two_at s i (by omega) h2 hz]
  simp [spl, e1, e2]
theorem RS.nought {s t : ByteArray} {i : Nat} (h : RS s t i) (h2 : i + 1 < s.size) (hz : (s[i]'(by omega)).toNat = 0) (h3 : s[i + 1].toNat = 255) : RS s (t ++ ⟨#[0]⟩) (i + 2) := by
  have e : s[i + 1] = 255 := UInt8.toNat_inj.1 h3
  refine ⟨?_, ?_⟩
  · rw [h.spl_, two_at s i (by omega) h2 hz, e, app_list]
    simp [spl]
  · rw [← size_list, app_list, List.length_append, size_list]
    have := h.small
    simp
    omega

end Go.Proofs.YtedfijmaeoednaaGreatDoor.Tw

namespace Go.Proofs.YtedfijmaeoednaaGreatDoor.Tw
open Go.RowKit
open Go.Lib hiding intOf

theorem ix_any (x : ByteArray) (i : Int) (w : World) (h : indexByte x.data.toList 0 = i) : Calls Tryz.prog 53 #[.string x, .int .u8 0] w fun e w' => e = .returned (.int .i64 i) ∧ w = w' := by
  refine (tw_strings_IndexByte x 0 w).mono ?_
  rintro e w' ⟨rfl, rfl⟩
  exact ⟨by rw [← h]; rfl, rfl⟩
theorem hp_any (x p : ByteArray) (b : Bool) (w : World) (h : hasPrefix x.data.toList p.data.toList = b) : Calls Tryz.prog 55 #[.string x, .string p] w fun e w' => e = .returned (.bool b) ∧ w = w' := by
  refine (tw_strings_HasPrefix x p w).mono ?_
  rintro e w' ⟨rfl, rfl⟩
  exact ⟨by rw [h], rfl⟩

theorem ib_zero : ∀ (l : List UInt8), (indexByte l 0 = -1 ∧ ∀ b ∈ l, b ≠ 0) ∨ ∃ i r, indexByte l 0 = (i : Nat) ∧ i < l.length ∧ l.drop i = 0 :: r ∧ ∀ b ∈ l.take i, b ≠ 0
  | [] => .inl ⟨rfl, fun _ h => by cases h⟩
  | x :: l => by
    by_cases hx : x = 0
    · subst hx
      exact .inr ⟨0, l, rfl, by simp, rfl, by simp⟩
    · have hp : (x == (0 : UInt8)) = false := by simpa using hx
      unfold indexByte
      rw [hp]
      rcases ib_zero l with ⟨h1, h2⟩ | ⟨i, r, h1, h2, h3, h4⟩
      · refine .inl ⟨by rw [h1]; rfl, fun b hb => ?_⟩
        rcases List.mem_cons.1 hb with rfl | hb
        · exact hx
        · exact h2 b hb
      · refine .inr ⟨i + 1, r, ?_, by simp; omega, by simpa using h3, fun b hb => ?_⟩
        · have : ¬ (indexByte l 0 == -1) = true := fun e => by have := beq_iff_eq.1 e; omega
          rw [if_neg (by simp), if_neg this, h1]
          rfl
        · rw [List.take_succ_cons] at hb
          rcases List.mem_cons.1 hb with rfl | hb
          · exact hx
          · exact h4 b hb

structure TS (s : ByteArray) (W : World) (x : ByteArray) (acc : List UInt8) (wr : World) : Prop where
  spl_ : spl [] s.data.toList = spl acc x.data.toList
  small : acc.length + x.size ≤ s.size
  is : IsBuilder 103 5 W.heap.size W.heap.size (Go.Lib.byteCells acc) wr
  below : Below W.heap.size W wr

theorem TS.start (s : ByteArray) (W : World) : TS s W s [] (W.alloc (.cells #[.pointer none, .slice none 0 0] 103)) :=
  ⟨rfl, by simp, .inl ⟨Nat.le_refl _, .slice none 0 0, heap_alloc_new W _, World.ownsRow_nil _ _ _ _, by intro h; cases h⟩, (Below.refl _ _).alloc (Nat.le_refl _) _⟩

def strSize : Value → Nat
  | .string s => s.size
  | _ => 0

/-- Behind the writing of what stands ahead of the nought. -/
structure TM (s : ByteArray) (W : World) (y : ByteArray) (acc r : List UInt8) (wr : World) : Prop where
  list : y.data.toList = 0 :: r
  ts : TS s W y acc wr

theorem TS.chunk {s : ByteArray} {W : World} {x : ByteArray} {acc r : List UInt8} {wr w1 : World} {i : Nat} (h : TS s W x acc wr) (hi : i < x.data.toList.length) (hd : x.data.toList.drop i = 0 :: r) (hf : ∀ b ∈ x.data.toList.take i, b ≠ 0)
    (hb : BuilderAt 103 5 W.heap.size W.heap.size (.pointer (some ⟨W.heap.size, 0, none⟩)) (Go.Lib.byteCells acc ++ strCells (x.extract 0 i)) w1) (hbe : Below W.heap.size wr w1) : TM s W (x.extract i x.size) (acc ++ x.data.toList.take i) r w1 := by
  have e1 : (x.extract i x.size).data.toList = x.data.toList.drop i := by
    rw [extract_list, List.take_of_length_le (by rw [List.length_drop, size_list]; omega)]
  refine ⟨by rw [e1, hd], ?_, ?_, .inr ?_, h.below.trans hbe⟩
  · rw [e1, h.spl_]
    have := spl_free (x.data.toList.take i) acc (x.data.toList.drop i) hf
    rw [List.take_append_drop] at this
    exact this
  · have h1 := h.small
    rw [size_list] at hi
    rw [← size_list (x.extract i x.size), e1, List.length_append, List.length_take, List.length_drop, size_list]
    omega
  · rw [byteCells_append]
    rw [strCells_eq, extract_list] at hb
    simpa using hb

theorem TM.end_ {s : ByteArray} {W : World} {y : ByteArray} {acc r : List UInt8} {wr : World} (h : TM s W y acc r wr) {c : UInt8} {r' : List UInt8} (hr : r = c :: r') (hc : c = 1) : spl [] s.data.toList = some ((⟨acc.toArray⟩ : ByteArray).data.toList, (y.extract 2 y.size).data.toList) := by
  have e1 : (y.extract 2 y.size).data.toList = r' := by
    rw [extract_list, h.list, hr, List.take_of_length_le (by rw [← size_list, h.list, hr]; simp)]
    rfl
  rw [h.ts.spl_, h.list, hr, hc, e1]
  simp [spl]
theorem TM.bad {s : ByteArray} {W : World} {y : ByteArray} {acc r : List UInt8} {wr : World} (h : TM s W y acc r wr) (hr : ∀ c r', r = c :: r' → c ≠ 1 ∧ c ≠ 255) : spl [] s.data.toList = none := by
  rw [h.ts.spl_, h.list]
  cases r with
  | nil => rfl
  | cons c r' =>
    obtain ⟨h1, h2⟩ := hr c r' rfl
    simp [spl, h1, h2]
theorem TM.next {s : ByteArray} {W : World} {y : ByteArray} {acc r : List UInt8} {wr w1 : World} (h : TM s W y acc r wr) {c : UInt8} {r' : List UInt8} (hr : r = c :: r') (hc : c = 255)
    (hb : BuilderAt 103 5 W.heap.size W.heap.size (.pointer (some ⟨W.heap.size, 0, none⟩)) (Go.Lib.byteCells acc ++ [.int .u8 0]) w1) (hbe : Below W.heap.size wr w1) : TS s W (y.extract 2 y.size) (acc ++ [0]) w1 := by
  have hl := congrArg List.length h.list
  rw [size_list, hr] at hl
  simp at hl
  have e1 : (y.extract 2 y.size).data.toList = r' := by
    rw [extract_list, h.list, hr, List.take_of_length_le (by simp; omega)]
    rfl
  refine ⟨?_, ?_, .inr ?_, h.ts.below.trans hbe⟩
  · rw [h.ts.spl_, h.list, hr, hc, e1]
    simp [spl]
  · have := h.ts.small
    rw [← size_list (y.extract 2 y.size), e1, List.length_append]
    simp
    omega
  · rw [byteCells_append]
    exact hb
theorem TM.two {s : ByteArray} {W : World} {y : ByteArray} {acc r : List UInt8} {wr : World} (h : TM s W y acc r wr) {c : UInt8} {r' : List UInt8} (hr : r = c :: r') : 2 ≤ y.size := by
  have hl := congrArg List.length h.list
  rw [size_list, hr] at hl
  simp at hl
  omega

set_option maxRecDepth 100000 in
set_option maxHeartbeats 1000000 in
theorem split_any (s : ByteArray) (w : World) (hs : s.size ≤ 2000) :
    Calls Tryz.prog 38 #[.string s] w (SplitPost s w) := by
  have H0 := Lib.hid (TS.start s w)
  go_enter Tryz.func38, Tryz.ntmps38
  go_wp2_with fail
  go_loopw [0] (fun u wr => ∃ (x : ByteArray) (acc : List UInt8), u = .string x ∧ x.size ≤ s.size ∧ TS s w x acc wr) (fun u _ => strSize u)
  case atStart => exact ⟨s, [], rfl, Nat.le_refl _, H0.out⟩
  case round =>
    clear H0
    obtain ⟨x, acc, rfl, hx, hr⟩ := hrel
    have HR := Lib.hid hr
    clear hr
    rcases ib_zero x.data.toList with ⟨h1, h2⟩ | ⟨i, r, h1, h2, h3, h4⟩
    · have C := Lib.hid (ix_any x _ wr h1)
      have F := Lib.hid (show SplitPost s w (.returned (.tuple #[.string ⟨#[]⟩, .string ⟨#[]⟩, .bool false])) wr from ⟨.no (by rw [HR.out.spl_, spl_end _ _ h2]), HR.out.below⟩)
      clear h1 h2 HR
      go_wp2_with fail
      refine C.out.mono ?_
      clear C
      rintro e w' ⟨rfl, rfl⟩
      go_wp2_with fail
      go_ret3
      exact F.out
    · have C := Lib.hid (ix_any x _ wr h1)
      have hix : i < x.size := by rw [size_list] at h2; exact h2
      have hacc := HR.out.small
      have C2 := Lib.hid (tw_WriteString w.heap.size w.heap.size (Go.Lib.byteCells acc) (x.extract 0 i) wr HR.out.is (by
        have e1 : (Go.Lib.byteCells acc).length = acc.length := by simp [Go.Lib.byteCells]
        have e2 : (x.extract 0 i).size ≤ x.size := by
          rw [← size_list, extract_list, List.length_take, List.length_drop, size_list]
          omega
        rw [e1]
        omega) HR.out.below.size)
      have HH := Lib.hid (fun w1 hb hbe => HR.out.chunk (w1 := w1) h2 h3 h4 hb hbe)
      have hxs : x.size ≤ 2000 := by omega
      clear h1 h2 h3 h4 HR hacc
      go_wp2_with fail
      refine C.out.mono ?_
      clear C
      rintro e w' ⟨rfl, rfl⟩
      go_wp2_with fail
      refine C2.out.mono ?_
      clear C2
      rintro e w1 ⟨rfl, hb, hbe⟩
      have HM := Lib.hid (HH.out w1 hb hbe)
      clear hb hbe HH
      have hys : (x.extract i x.size).size ≤ x.size := by
        rw [← size_list, extract_list, List.length_take, List.length_drop, size_list]
        omega
      go_wp2_with fail
      generalize x.extract i x.size = y at *
      have hpre : ∀ p : List UInt8, hasPrefix y.data.toList p = p.isPrefixOf (0 :: r) := fun p => by unfold hasPrefix; rw [HM.out.list]
      have HP := Lib.hid hpre
      have hacc2 := HM.out.ts.small
      have HL := Lib.hid (show (Go.Lib.byteCells acc).length = acc.length by simp [Go.Lib.byteCells])
      clear hpre
      by_cases hr1 : ∃ r', r = 1 :: r'
      · obtain ⟨r', hr1⟩ := hr1
        have hy2 := HM.out.two hr1
        have C1 := Lib.hid (hp_any y ⟨#[0, 1]⟩ true w1 (by rw [HP.out, hr1]; rfl))
        have HF := Lib.hid (fun wz (hb : Below w.heap.size w wz) => show SplitPost s w (.returned (.tuple #[.string ⟨(acc ++ x.data.toList.take i).toArray⟩, .string (y.extract 2 y.size), .bool true])) wz from ⟨.yes _ _ (HM.out.end_ hr1 rfl), hb⟩)
        have HB := Lib.hid (HM.out.ts.below)
        have HST := Lib.hid (fun n => tw_Builder_String_any w.heap.size w.heap.size (acc ++ x.data.toList.take i) (w1.drewN n) (by
          rcases HM.out.ts.is with h | h
          · exact .inl h
          · exact .inr h) HM.out.ts.below.size)
        clear hr1 HP HM hacc2
        refine C1.out.mono ?_
        clear C1
        rintro e w' ⟨rfl, rfl⟩
        go_wp2_with fail
        have a1 : (2 : Int) ≤ (y.size : Int) := by omega
        go_region_held3 (fun _ => True) (trivial) (first | (go_at_call 56; refine (HST.out 1).mono ?_; rintro e w5 ⟨rfl, hb5⟩))
        have F := Lib.hid (HF.out w5 ((below_drewN HB.out 1).trans hb5))
        clear hb5 HF HST HB a1
        go_wp2_with fail
        go_ret3
        exact F.out
      · have C1 := Lib.hid (hp_any y ⟨#[0, 1]⟩ false w1 (by
          rw [HP.out]
          cases r with
          | nil => rfl
          | cons c r' =>
            have hc : ¬ c = 1 := fun e => hr1 ⟨r', by rw [e]⟩
            have hc2 : ((1 : UInt8) == c) = false := by simpa using fun e => hc e.symm
            show (0 == 0 && (1 == c && _)) = false
            rw [hc2]
            rfl))
        refine C1.out.mono ?_
        clear C1
        rintro e w' ⟨rfl, rfl⟩
        by_cases hr2 : ∃ r', r = 255 :: r'
        · obtain ⟨r', hr2⟩ := hr2
          have hy2 := HM.out.two hr2
          have C1 := Lib.hid (hp_any y ⟨#[0, 255]⟩ true w1 (by rw [HP.out, hr2]; rfl))
          have C2 := Lib.hid (tw_WriteByte w.heap.size w.heap.size (Go.Lib.byteCells (acc ++ x.data.toList.take i)) 0 w1 HM.out.ts.is (by
            have e1 : (Go.Lib.byteCells (acc ++ x.data.toList.take i)).length = (acc ++ x.data.toList.take i).length := by simp [Go.Lib.byteCells]
            have := HM.out.ts.small
            omega) HM.out.ts.below.size)
          have HH := Lib.hid (fun w5 hb hbe => HM.out.next (w1 := w5) hr2 rfl hb hbe)
          have HSZ := Lib.hid (show (y.extract 2 y.size).size + 2 ≤ x.size by
            rw [← size_list, extract_list, List.length_take, List.length_drop, size_list]
            omega)
          clear hr1 hr2 HP HM hacc2
          go_wp2_with fail
          refine C1.out.mono ?_
          clear C1
          rintro e w' ⟨rfl, rfl⟩
          go_wp2_with fail
          refine C2.out.mono ?_
          clear C2
          rintro e w5 ⟨rfl, hb, hbe⟩
          have HN := Lib.hid (HH.out w5 hb hbe)
          clear hb hbe HH
          go_wp2_with fail
          go_roundw
          case rel => exact ⟨_, _, rfl, by have := HSZ.out; omega, HN.out⟩
          case measure =>
            have := HSZ.out
            show (y.extract 2 y.size).size < x.size
            omega
        · have C1 := Lib.hid (hp_any y ⟨#[0, 255]⟩ false w1 (by
            rw [HP.out]
            cases r with
            | nil => rfl
            | cons c r' =>
              have hc : ¬ c = 255 := fun e => hr2 ⟨r', by rw [e]⟩
              have hc2 : ((255 : UInt8) == c) = false := by simpa using fun e => hc e.symm
              show (0 == 0 && (255 == c && _)) = false
              rw [hc2]
              rfl))
          have F := Lib.hid (show SplitPost s w (.returned (.tuple #[.string ⟨#[]⟩, .string ⟨#[]⟩, .bool false])) w1 from ⟨.no (HM.out.bad (fun c r' e => ⟨fun h => hr1 ⟨r', by rw [e, h]⟩, fun h => hr2 ⟨r', by rw [e, h]⟩⟩)), HM.out.ts.below⟩)
          clear hr1 hr2 HP HM hacc2
          go_wp2_with fail
          refine C1.out.mono ?_
          clear C1
          rintro e w' ⟨rfl, rfl⟩
          go_wp2_with fail
          go_ret3
          exact F.out
end Go.Proofs.YtedfijmaeoednaaGreatDoor.Tw

namespace Go.Proofs.YtedfijmaeoednaaGreatDoor.Tw
open Go.RowKit
open Go.Lib hiding intOf

theorem ba_ext {a b : ByteArray} (h : a.data.toList = b.data.toList) : a = b := by
  cases a; cases b
  simp only at h
  congr
  exact Array.toList_inj.1 h
def jB (s k : ByteArray) : ByteArray := ⟨(joinL s.data.toList k.data.toList).toArray⟩
def spT (s : ByteArray) : ByteArray × ByteArray × Bool := match spl [] s.data.toList with
  | none => (⟨#[]⟩, ⟨#[]⟩, false)
  | some (a, b) => (⟨a.toArray⟩, ⟨b.toArray⟩, true)
theorem spT_join (a b : ByteArray) : spT (jB a b) = (a, b, true) := by
  unfold spT jB
  rw [spl_join]
  rfl

/-- The library's variable holds a number. -/
def HasM (w : World) : Prop := ∃ m, w.cell? ⟨0, 0, none⟩ = some (.int .i64 m)
theorem HasM.below {w w' : World} (h : HasM w) (hb : Below w.heap.size w w') : HasM w' := by
  obtain ⟨m, hm⟩ := h
  exact ⟨m, (hb.cell (p := ⟨0, 0, none⟩) (World.block_lt_of_cell? _ _ hm)).trans hm⟩

def StrPost (t : ByteArray) (w : World) (e : Ending) (w' : World) : Prop := e = .returned (.string t) ∧ Below w.heap.size w w' ∧ HasM w'
theorem join_of (s k t : ByteArray) (w : World) (hm : HasM w) (hs : s.size ≤ 1000) (hk : k.size ≤ 1000) (ht : jB s k = t) : Calls Tryz.prog 29 #[.string s, .string k] w (StrPost t w) := by
  obtain ⟨m, h⟩ := id hm
  refine (join_any s k m w h hs hk).mono ?_
  rintro e w' ⟨t', rfl, h1, hb⟩
  exact ⟨by rw [← ht, ba_ext (b := jB s k) h1], hb, hm.below hb⟩
theorem front_of (s t : ByteArray) (w : World) (hm : HasM w) (hs : s.size ≤ 1000) (ht : jB s ⟨#[]⟩ = t) : Calls Tryz.prog 37 #[.string s] w (StrPost t w) := by
  obtain ⟨m, h⟩ := id hm
  refine (front_any s m w h hs).mono ?_
  rintro e w' ⟨t', rfl, h1, hb⟩
  exact ⟨by rw [← ht, ba_ext (b := jB s ⟨#[]⟩) h1], hb, hm.below hb⟩
theorem splitEnd_eq {s : ByteArray} {e : Ending} (h : SplitEnd s e) {x y : ByteArray} {b : Bool} (hx : spT s = (x, y, b)) : e = .returned (.tuple #[.string x, .string y, .bool b]) := by
  unfold spT at hx
  cases h with
  | no h =>
    rw [h] at hx
    simp only [Prod.mk.injEq] at hx
    obtain ⟨rfl, rfl, rfl⟩ := hx
    rfl
  | yes x' y' h =>
    rw [h] at hx
    simp only [Prod.mk.injEq] at hx
    obtain ⟨rfl, rfl, rfl⟩ := hx
    rfl
def TriPost (x y : ByteArray) (b : Bool) (w : World) (e : Ending) (w' : World) : Prop := e = .returned (.tuple #[.string x, .string y, .bool b]) ∧ Below w.heap.size w w' ∧ HasM w'
theorem split_of (s x y : ByteArray) (b : Bool) (w : World) (hm : HasM w) (hs : s.size ≤ 2000) (hx : spT s = (x, y, b)) : Calls Tryz.prog 38 #[.string s] w (TriPost x y b w) := by
  refine (split_any s w hs).mono ?_
  rintro e w' ⟨h, hb⟩
  exact ⟨splitEnd_eq h hx, hb, hm.below hb⟩
def TruePost (w : World) (e : Ending) (w' : World) : Prop := e = .returned (.bool true) ∧ Below w.heap.size w w' ∧ HasM w'

theorem bg1 : jB ⟨#[115]⟩ ⟨#[107]⟩ = ⟨#[115, 0, 1, 107]⟩ := by decide +kernel
theorem bg2 : jB ⟨#[115]⟩ ⟨#[]⟩ = ⟨#[115, 0, 1]⟩ := by decide +kernel
theorem bg3 : spT ⟨#[115, 0, 1, 107]⟩ = (⟨#[115]⟩, ⟨#[107]⟩, true) := by decide +kernel
theorem bg4 : spT ⟨#[]⟩ = (⟨#[]⟩, ⟨#[]⟩, false) := by decide +kernel

end Go.Proofs.YtedfijmaeoednaaGreatDoor.Tw

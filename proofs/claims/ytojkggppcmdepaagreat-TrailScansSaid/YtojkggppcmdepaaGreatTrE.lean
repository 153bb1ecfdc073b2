/- A trail in memory; what a tile of it should say; how much room there is. Conditions: it lies in memory; a stream of at most a million bytes. -/
import Derived.Test.YtojkggppcmdepaaGreatTrD
import Derived.Test.YtojkggppcmdepaaGreatChain
namespace Go.Proofs.YtojkggppcmdepaaGreat
open Go.RowKit Go.Wh Go.Maps

/-- The trail at t: of the disk d, n tiles from at on; its stream, how many entries, how many are stable. -/
structure TlAt (w : World) (t d at_ n : Nat) (S : List Int) (sv : Value) (c st : Nat) : Prop where
  cells : cellsAt w t [.pointer (some ⟨d, 0, none⟩), .int .i64 at_, .int .i64 n, sv, .int .i64 c, .int .i64 st]
  s : Vec w 1 sv S.length (bc S)
  byt : Byt S
  st_ : ∀ g, sv.ownBlock = some g → g ≠ t ∧ g < w.heap.size
section
variable {w w' : World} {t d at_ n c st : Nat} {S : List Int} {sv : Value}
theorem TlAt.only {X : Nat → Prop} (h : TlAt w t d at_ n S sv c st) (ho : Only X w w') (h1 : ¬ X t) (h2 : ∀ g, sv.ownBlock = some g → ¬ X g) : TlAt w' t d at_ n S sv c st :=
  ⟨h.cells.only ho h1, h.s.only ho h2, h.byt, fun g hg => ⟨(h.st_ g hg).1, Nat.lt_of_lt_of_le (h.st_ g hg).2 ho.size⟩⟩
theorem TlAt.still (h : TlAt w t d at_ n S sv c st) (hs : Still w w') : TlAt w' t d at_ n S sv c st := h.only hs (fun e => e) (fun _ _ e => e)
end

def StPost (w : World) (v : Value) (e : Ending) (w' : World) : Prop := e = .returned v ∧ Still w w'
theorem left_any (w : World) (t d at_ n : Nat) (S : List Int) (sv : Value) (c st : Nat) (h : TlAt w t d at_ n S sv c st) (hn : n ≤ 2000) (hS : S.length ≤ 1000000) :
    Calls Tryz.prog 31 #[.pointer (some ⟨t, 0, none⟩)] w (StPost w (.int .i64 (63 * (n : Int) - (S.length : Int)))) := by
  obtain ⟨a, k, rfl⟩ := h.s.form'
  have c2 : w.cell? ⟨t, 2, none⟩ = some (.int .i64 n) := h.cells.cell 2
  have c3 : w.cell? ⟨t, 3, none⟩ = some (.slice a S.length k) := h.cells.cell 3
  have F := Lib.hid (fun w' (hs : Still w w') => show StPost w (.int .i64 (63 * (n : Int) - (S.length : Int))) (.returned (.int .i64 (63 * (n : Int) - (S.length : Int)))) w' from ⟨rfl, hs⟩)
  have u1 : IntKind.i64.wrap (63 * (n : Int)) = 63 * (n : Int) := IntWalk.i64_in _ (by omega)
  generalize S.length = m at *
  have u2 : IntKind.i64.wrap (63 * (n : Int) - (m : Int)) = 63 * (n : Int) - (m : Int) := IntWalk.i64_in _ (by omega)
  clear h
  go_enter Tryz.func31, Tryz.ntmps31
  go_wp2_with fail
  go_quiet (fail)
  go_wp2_with fail
  go_ret
  exact F.out _ ((Still.refl _).drewN _)
theorem count_any (w : World) (t d at_ n : Nat) (S : List Int) (sv : Value) (c st : Nat) (h : TlAt w t d at_ n S sv c st) :
    Calls Tryz.prog 29 #[.pointer (some ⟨t, 0, none⟩)] w (SamePost w (.int .i64 c)) := by
  have c4 : w.cell? ⟨t, 4, none⟩ = some (.int .i64 c) := h.cells.cell 4
  clear h
  go_enter Tryz.func29, Tryz.ntmps29
  go_wp2_with fail
  go_ret
  exact ⟨rfl, rfl⟩
theorem stable_any (w : World) (t d at_ n : Nat) (S : List Int) (sv : Value) (c st : Nat) (h : TlAt w t d at_ n S sv c st) :
    Calls Tryz.prog 30 #[.pointer (some ⟨t, 0, none⟩)] w (SamePost w (.int .i64 st)) := by
  have c5 : w.cell? ⟨t, 5, none⟩ = some (.int .i64 st) := h.cells.cell 5
  clear h
  go_enter Tryz.func30, Tryz.ntmps30
  go_wp2_with fail
  go_ret
  exact ⟨rfl, rfl⟩

theorem tile_cells (S : List Int) (i : Nat) : ((bc (List.replicate 64 0)).set 0 (.int .u8 ((partB S i).length : Int))).take 1 ++ bc (partB S i) ++ ((bc (List.replicate 64 0)).set 0 (.int .u8 ((partB S i).length : Int))).drop (1 + (partB S i).length) = bc (tileB S i) := by
  have hp := partB_length S i
  have e : (bc (List.replicate 64 0)).set 0 (.int .u8 ((partB S i).length : Int)) = .int .u8 ((partB S i).length : Int) :: bc (List.replicate 63 0) := rfl
  rw [e]
  unfold tileB bc
  rw [List.take_succ_cons, List.take_zero, show 1 + (partB S i).length = (partB S i).length + 1 from Nat.add_comm _ _, List.drop_succ_cons, List.map_replicate, List.drop_replicate]
  simp

def zeros64 : Array Value := (bc (List.replicate 64 0)).toArray
theorem take_len (l : List Int) (k : Nat) : l.take (l.take k).length = l.take k := by
  rw [List.length_take]
  rcases Nat.le_total k l.length with h | h
  · rw [Nat.min_eq_left h]
  · rw [Nat.min_eq_right h, List.take_length, List.take_of_length_le h]
set_option maxHeartbeats 2000000 in
set_option maxRecDepth 100000 in
theorem tile_any (w : World) (t d at_ n : Nat) (S : List Int) (sv : Value) (c st : Nat) (i : Nat) (h : TlAt w t d at_ n S sv c st) (hi : i ≤ 2000) (hS : S.length ≤ 1000000) :
    Calls Tryz.prog 84 #[.pointer (some ⟨t, 0, none⟩), .int .i64 i] w (FreshPost w 1 64 (bc (tileB S i))) := by
  have H := Lib.hid h
  obtain ⟨from_, hfrom⟩ : ∃ k, k = min (i * 63) S.length := ⟨_, rfl⟩
  obtain ⟨to_, hto⟩ : ∃ k, k = min (from_ + 63) S.length := ⟨_, rfl⟩
  obtain ⟨pv, r1, -, -, hpv⟩ := h.s.part (size := 1) 23 Tryz.underlying23 (fun w => rfl) (show from_ ≤ to_ by omega) (show to_ ≤ S.length by omega)
  have hpl := partB_length S i
  have hlen : to_ - from_ = (partB S i).length := by omega
  have hpc : ((bc S).drop (from_ * 1)).take ((to_ - from_) * 1) = bc (partB S i) := by
    rw [Nat.mul_one, Nat.mul_one, hlen, bc_drop, bc_take]
    unfold partB
    congr 1
    rcases Nat.le_total (i * 63) S.length with hle | hle
    · rw [show from_ = i * 63 by omega, take_len]
    · rw [List.drop_eq_nil_of_le hle, List.take_nil, List.length_nil, List.take_zero]
  rw [hpc, hlen] at hpv
  obtain ⟨sa, sk, rfl⟩ := h.s.form'
  have c3 : w.cell? ⟨t, 3, none⟩ = some (.slice sa S.length sk) := h.cells.cell 3
  obtain ⟨pa, pk, hpe⟩ := (hpv w h.s).form'
  subst hpe
  have HPV := Lib.hid (fun w' (hs : Still w w') => hpv w' (h.s.only hs fun _ _ e => e))
  have HP := Lib.hid (show (partB S i).length ≤ 63 from by omega)
  generalize hm : S.length = m at *
  have SS := Lib.hid (fun w' (hs : Still w w') => show w'.cell? ⟨t, 3, none⟩ = some (.slice sa m sk) from Still.cell hs c3)
  have hmk : ∀ w : World, (Instr.makeSlice 23 (.int .i64 64) (.int .i64 64)).run Tryz.prog w = .ok (.slice (some ⟨w.heap.size, 0, none⟩) 64 64) (w.alloc (.cells zeros64 5)) := make64
  have u1 : IntKind.i64.wrap ((i : Int) * 63) = (i : Int) * 63 := IntWalk.i64_in _ (by omega)
  have e1 : min ((i : Int) * 63) (m : Int) = (from_ : Int) := by omega
  have u2 : IntKind.i64.wrap ((from_ : Int) + 63) = (from_ : Int) + 63 := IntWalk.i64_in _ (by omega)
  have e2 : min ((from_ : Int) + 63) (m : Int) = (to_ : Int) := by omega
  have c3A := fun ob => Still.cell ((Still.refl w).alloc ob) c3
  have HC := Lib.hid (tile_cells S i)
  generalize hpp : (partB S i).length = pl at *
  have HPL := Lib.hid hpp
  clear h hpv hpc hpl hlen hfrom hto hm hi hS hpp
  go_enter Tryz.func84, Tryz.ntmps84
  go_upto_region 3 with fail
  have hz := cellsAt_new w (bc (List.replicate 64 0)) 5
  have hs1 : Still w (w.alloc (.cells zeros64 5)) := (Still.refl w).alloc _
  change cellsAt (w.alloc (.cells zeros64 5)) w.heap.size _ at hz
  have hzz : (w.alloc (.cells zeros64 5)).heap.size = w.heap.size + 1 := by simp
  clear hmk c3A
  generalize (w.alloc (.cells zeros64 5)) = w1 at *
  obtain ⟨b, hb⟩ : ∃ b, w.heap.size = b := ⟨_, rfl⟩
  rw [hb] at hz hzz
  rw [hb]
  have c3' := SS.out _ hs1
  have hP := HP.out
  have cb : w1.cell? ⟨b, 0, none⟩ = some (.int .u8 0) := hz.cell 0
  have fb : w1.frozen? ⟨b, 0, none⟩ = false := hz.free 0
  have pm : (pl : Int) % 256 = pl := by omega
  have rs : ∀ w : World, (Instr.slice 23 (.slice (some ⟨b, 0, none⟩) 64 64) (some (.int .i64 1)) none none).run Tryz.prog w = .ok (.slice (some ⟨b, 1, none⟩) 63 63) w := fun w => by kernel_rfl
  have hcp : ∀ q, ∃ w3, (Builtin.copy_ #[23, 23] 3 #[.slice (some ⟨b, 1, none⟩) 63 63, .slice pa pl pk]).run Tryz.prog ((w1.drewN q).setCell ⟨b, 0, none⟩ (.int .u8 (pl : Int))) = .ok (.int .i64 (pl : Int)) w3 ∧ FreshPost w 1 64 (bc (tileB S i)) (.returned (.slice (some ⟨b, 0, none⟩) 64 64)) w3 := fun q => by
    have hz2 : cellsAt ((w1.drewN q).setCell ⟨b, 0, none⟩ (.int .u8 (pl : Int))) b ((bc (List.replicate 64 0)).set 0 (.int .u8 (pl : Int))) := (show cellsAt (w1.drewN q) b (bc (List.replicate 64 0)) from hz).setCell 0 _
    have hs2 : Only (fun k => k = b) w ((w1.drewN q).setCell ⟨b, 0, none⟩ (.int .u8 (pl : Int))) := Only.setCell (S := fun k => k = b) ((hs1.drewN q).mono fun _ e => e.elim) (.inl rfl) _
    have hv2 : VecAt ((w1.drewN q).setCell ⟨b, 0, none⟩ (.int .u8 (pl : Int))) 1 b 0 64 64 ((bc (List.replicate 64 0)).set 0 (.int .u8 (pl : Int))) := by
      obtain ⟨tt, hb2⟩ := hz2
      have := vecAt_block (size := 1) (n := 64) (cap := 64) hb2 rfl (by omega) (by simp only [maxLen]; omega)
      exact this
    have hpv2 : Vec ((w1.drewN q).setCell ⟨b, 0, none⟩ (.int .u8 (pl : Int))) 1 (.slice pa pl pk) pl (bc (partB S i)) := by
      exact Vec.kept (HPV.out w (Still.refl w)) fun g hg hl => hs2.block g hl fun e => by
        have e' : g = b := e
        omega
    have key : ∀ cs : List Value, cs = bc (partB S i) → ∀ w3, w3 = ((w1.drewN q).setCell ⟨b, 0, none⟩ (.int .u8 (pl : Int))).setCells b 1 cs → VecAt w3 1 b 0 64 64 (((bc (List.replicate 64 0)).set 0 (.int .u8 (pl : Int))).take 1 ++ cs ++ ((bc (List.replicate 64 0)).set 0 (.int .u8 (pl : Int))).drop (1 + pl)) → FreshPost w 1 64 (bc (tileB S i)) (.returned (.slice (some ⟨b, 0, none⟩) 64 64)) w3 := fun cs hcs w3 hw3 hva => by
      subst hcs
      rw [HC.out] at hva
      have hs3 : Only (fun k => k = b) w w3 := by
        rw [hw3]
        exact hs2.trans (Go.Wh.setCells_only _ b 1 _)
      refine ⟨_, rfl, .inr ⟨_, _, _, rfl, hva⟩, hs3.below (Nat.le_refl _) fun i hi e => by omega, fun g hg => ?_⟩
      have e : b = g := Option.some.inj hg
      have := hva.lt (by omega)
      omega
    rcases hpv2 with ⟨he, hn0, hnil⟩ | ⟨g, o, cc, he, hpa⟩
    · injection he with e1 e2 e3
      subst e1 e2 e3
      refine ⟨_, ?_, key [] hnil.symm _ rfl ?_⟩
      · simp [Builtin.copy_, run_underlying Tryz.underlying23, Builtin.lenOf, Builtin.firstCells, World.setCells, goInt, storeCells, Result.andThen]
      · rw [List.append_nil, List.take_append_drop]
        exact hv2
    · injection he with e1 e2 e3
      subst e1 e3
      have hmn : Nat.min pl 63 = pl := Nat.min_eq_left hP
      have h := run_copy_at (P := Tryz.prog) (size := 1) 23 23 3 5 Tryz.underlying23 (by kernel_rfl) hv2 1 63 63 ⟨g, o, none⟩ pl pk (bc (partB S i)) (by rw [bc_length, HPL.out, hmn]; omega) (by rw [hmn]; omega) (fun j u hj => by
        rw [Addr.add_lit]
        have hj' := (List.getElem?_eq_some_iff.1 hj).1
        have hlp := hpa.len
        rw [hpa.cells j (by omega)]
        exact hj) (bc_one _)
      rw [hmn] at h
      refine ⟨_, h.1, key _ rfl _ rfl ?_⟩
      simpa using h.2
  have HZ := Lib.hid (And.intro hs1 (And.intro hb hzz))
  clear hz hs1 hb hzz c3
  go_quiet (fail)
  obtain ⟨w3, hrun, hpost⟩ := hcp nq
  have F := Lib.hid hpost
  clear hpost hcp
  go_wp2_with fail
  go_ret
  exact F.out
end Go.Proofs.YtojkggppcmdepaaGreat

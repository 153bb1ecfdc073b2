/- The reader of bytes: numbers, places. Conditions: it lies in memory, apart from its bytes. -/
import Derived.Test.YtojkggppcmdepaaGreatTrU
import Derived.Test.YtojkggppcmdepaaGreatTrN
import Derived.Laws.BitsLemmas
namespace Go.Proofs.YtojkggppcmdepaaGreat
open Go.RowKit Go.Wh Go.Maps

/-- The number that is read, and what is left. -/
def NuPost (W : World) (X Q : Nat → Prop) (r : Nat) (t : Int × RS) (e : Ending) (w' : World) : Prop := e = .returned (.int .i64 t.1) ∧ RAt W X Q r t.2 w'
theorem wraps_i64' (n : Int) (h₀ : 0 ≤ n) (h₁ : n < 2 ^ 31) : IntKind.i64.wrap n = n := by rw [IntKind.wrap_i64]; omega
theorem or_join (v z : Int) (h0 : 0 ≤ v) (h1 : v < 65536) (z0 : 0 ≤ z) (z1 : z ≤ 255) : bits .or .i64 (v * 256) z = v * 256 + z :=
  bits_join .i64 31 (by decide) wraps_i64' 8 (v * 256) z (by omega) (by omega) (by omega) z0 (by omega) (by omega)
theorem decB_snoc (l : List Int) (x : Int) : decB (l ++ [x]) = decB l * 256 + x := by
  unfold decB
  rw [List.foldl_append]
  rfl
theorem decB_range : ∀ (l : List Int), Byt l → 0 ≤ decB l ∧ decB l < 256 ^ l.length := by
  have key : ∀ (l : List Int) (v : Int), 0 ≤ v → Byt l → 0 ≤ l.foldl (fun v x => v * 256 + x) v ∧ l.foldl (fun v x => v * 256 + x) v < (v + 1) * 256 ^ l.length := by
    intro l
    induction l with
    | nil =>
      intro v hv _
      have : (256 : Int) ^ 0 = 1 := rfl
      refine ⟨hv, ?_⟩
      show v < (v + 1) * 256 ^ 0
      rw [this]
      omega
    | cons x l ih =>
      intro v hv hb
      have hx := hb x (by simp)
      have := ih (v * 256 + x) (by omega) fun z hz => hb z (by simp [hz])
      refine ⟨this.1, Int.lt_of_lt_of_le this.2 ?_⟩
      have e : (256 : Int) ^ (x :: l).length = 256 * 256 ^ l.length := by rw [List.length_cons, Int.pow_succ, Int.mul_comm]
      rw [e, ← Int.mul_assoc]
      exact Int.mul_le_mul_of_nonneg_right (by omega) (Int.le_of_lt (Int.pow_pos (by decide)))
  intro l hl
  have := key l 0 (by omega) hl
  simpa [decB] using this
set_option maxHeartbeats 1000000 in
set_option maxRecDepth 100000 in
theorem rnum_any {W w : World} {X Q : Nat → Prop} {r : Nat} {s : RS} (n : Nat) {N : Int} (hN : (n : Int) = N) (h : RAt W X Q r s w) (hn : n ≤ 3) (hl : s.1.length ≤ 100000) :
    Calls Tryz.prog 107 #[.pointer (some ⟨r, 0, none⟩), .int .i64 N] w (NuPost W X Q r (numS n s)) := by
  subst hN
  have HT := Lib.hid (take_any W w X Q r n s h (by omega) hl)
  have hb : Byt (tkS n s).1 := by
    unfold tkS
    split
    · exact Byt.zeros n
    · exact h.byt.take n
  have htl : (tkS n s).1.length = n := by
    unfold tkS
    split
    · simp
    · simp only [List.length_take]
      omega
  have HB := Lib.hid (And.intro hb (And.intro htl hn))
  unfold numS
  generalize tkS n s = T at *
  obtain ⟨t, st⟩ := T
  dsimp only at *
  clear h hn hl hb htl
  go_enter Tryz.func107, Tryz.ntmps107
  go_wp2_with fail
  refine HT.out.mono ?_
  rintro e w2 ⟨v, rfl, hv, hr⟩
  obtain ⟨va, vc, rfl⟩ := hv.form
  have HV := Lib.hid (And.intro hv hr)
  clear hv hr HT
  go_wp2_with fail
  go_loopw [5, 12] (fun s5 s12 wr => ∃ k : Nat, s12 = .int .i64 k ∧ k ≤ n ∧ wr = w2 ∧ s5 = .int .i64 (decB (t.take k))) (fun _ s12 _ => n - (intOf s12).toNat)
  case atStart => exact ⟨0, rfl, Nat.zero_le _, rfl, rfl⟩
  case round =>
    obtain ⟨k, rfl, hk, rfl, rfl⟩ := hrel
    by_cases hi : k < n
    · obtain ⟨z, hz⟩ : ∃ z, t[k]? = some z := ⟨_, List.getElem?_eq_getElem (by have := HB.out.2.1; omega)⟩
      obtain ⟨g, o, c, hg, -, -, hcs⟩ := HV.out.1.pos (by omega)
      cases hg
      have c0 : wr.cell? ⟨g, o + k, none⟩ = some (.int .u8 z) := hcs k _ (bc_get hz)
      have b1 : decide ((k : Int) < (n : Int)) = true := by simp; omega
      have b2 : decide (k < n) = true := by simp; omega
      have b3 : (0 : Int) ≤ (k : Int) := by omega
      have b4 : (k : Int) < (n : Int) := by omega
      have u9 : IntKind.i64.wrap ((k : Int) + 1) = (k : Int) + 1 := IntWalk.i64_in _ (by have := HB.out.2.2; omega)
      have hzb := HB.out.1 z (List.mem_of_getElem? hz)
      obtain ⟨z0, z1⟩ := hzb
      have hdr := decB_range (t.take k) (HB.out.1.take k)
      have hle : decB (t.take k) < 65536 := by
        have e : (t.take k).length = k := by rw [List.length_take]; have := HB.out.2.1; omega
        rw [e] at hdr
        have hn3 := HB.out.2.2
        have hk2 : k = 0 ∨ k = 1 ∨ k = 2 := by omega
        have p0 : (256 : Int) ^ 0 = 1 := rfl
        have p1 : (256 : Int) ^ 1 = 256 := rfl
        have p2 : (256 : Int) ^ 2 = 65536 := rfl
        rcases hk2 with rfl | rfl | rfl
        · rw [p0] at hdr; omega
        · rw [p1] at hdr; omega
        · rw [p2] at hdr; omega
      have h0 := hdr.1
      have HSN := Lib.hid (show decB (t.take (k + 1)) = decB (t.take k) * 256 + z from by rw [List.take_add_one, hz, Option.toList_some, decB_snoc])
      generalize decB (t.take k) = v at *
      clear hcs hz hdr
      go_wp2_with fail
      go_roundw
      case rel => exact ⟨k + 1, by go_num, by omega, trivial, by rw [or_join v z h0 hle z0 z1, HSN.out]⟩
      case measure => simp [intOf]; omega
    · have hke : k = n := by omega
      subst hke
      have b1 : decide ((k : Int) < (k : Int)) = false := by simp
      have F := Lib.hid (show NuPost W X Q r (decB t, st) (.returned (.int .i64 (decB (t.take k)))) wr from ⟨by rw [List.take_of_length_le (by have := HB.out.2.1; omega)], HV.out.2⟩)
      generalize decB (t.take k) = v at *
      go_wp2_with fail
      go_ret
      exact F.out

theorem RAt.setNew {W w : World} {X Q : Nat → Prop} {r : Nat} {s : RS} (h : RAt W X Q r s w) {p : Addr} (hp : W.heap.size ≤ p.block) (u : Value) : RAt W X Q r s (w.setCell p u) := by
  have hs := setCell_only w p u
  have hrl := h.rl
  obtain ⟨bv, h1, h2, h3⟩ := h.b
  exact ⟨h.only.setCell (.inr hp) u, h.rx, h.rl, h.qx, ⟨bv, h1.only hs (fun e => by have e' : r = p.block := e; omega), h2.only hs fun g hg e => by have := (h.qx g hg).2; have e' : g = p.block := e; omega, h3⟩, h.byt⟩

/-- A struct that is read. -/
def StrPost (W : World) (X Q : Nat → Prop) (r : Nat) (v : Value) (s : RS) (e : Ending) (w' : World) : Prop := e = .returned v ∧ RAt W X Q r s w'
def spS (s : RS) : (Int × Int) × RS :=
  let a := numS 1 s
  let b := numS 1 a.2
  ((a.1, b.1), b.2)
theorem numS_len {n : Nat} {s : RS} {k : Nat} (h : s.1.length ≤ k) : (numS n s).2.1.length ≤ k := by
  unfold numS tkS
  split
  · exact Nat.zero_le _
  · simp only [List.length_drop]
    omega
set_option maxHeartbeats 1000000 in
theorem rspot_any {W w : World} {X Q : Nat → Prop} {r : Nat} {s : RS} (h : RAt W X Q r s w) (hl : s.1.length ≤ 100000) :
    Calls Tryz.prog 108 #[.pointer (some ⟨r, 0, none⟩)] w (StrPost W X Q r (.agg #[.int .i64 (spS s).1.1, .int .i64 (spS s).1.2]) (spS s).2) := by
  have hst : Still w (w.alloc (.cells #[.int .i64 0, .int .i64 0] 28)) := (Still.refl w).alloc _
  have h1 := h.still hst
  have HN := Lib.hid (rnum_any 1 rfl h1.base (by omega) hl)
  have H := Lib.hid (And.intro h h1)
  have hbx := cellsAt_new w [.int .i64 0, .int .i64 0] 28
  have hbr : w.heap.size ≠ r := by
    obtain ⟨bv, hc, -⟩ := h.b
    have := hc.lt
    omega
  have HK := Lib.hid (fun s' w' (k : RAt (w.alloc (.cells #[.int .i64 0, .int .i64 0] 28)) (fun b => b = r) Q r s' w') => show RAt W X Q r s' w' ∧ cellsAt w' w.heap.size [.int .i64 0, .int .i64 0] from ⟨h1.back k, hbx.only k.only hbr⟩)
  have HZ := Lib.hid h.only.size
  unfold spS
  dsimp only
  generalize hq1 : numS 1 s = q1 at *
  have hl1 : q1.2.1.length ≤ 100000 := by rw [← hq1]; exact numS_len hl
  have HM := Lib.hid (fun w2 (k : RAt (w.alloc (.cells #[.int .i64 0, .int .i64 0] 28)) (fun b => b = r) Q r q1.2 w2) => rnum_any 1 rfl k (by omega) hl1)
  generalize hq2 : numS 1 q1.2 = q2 at *
  clear h hl hl1 hq1 hq2 h1 hst hbx hbr
  go_enter Tryz.func108, Tryz.ntmps108
  go_wp2_with fail
  refine HN.out.mono ?_
  rintro e w2 ⟨rfl, k2⟩
  have HM2 := Lib.hid (HM.out _ k2)
  clear k2 HM HN
  go_wp2_with fail
  refine HM2.out.mono ?_
  rintro e w3 ⟨rfl, k3⟩
  obtain ⟨h3, hb3⟩ := HK.out _ _ k3
  have c0 := hb3.cell 0
  have f0 := hb3.free 0
  have c1 := hb3.cell 1
  have f1 := hb3.free 1
  have hz := h3.only.size
  have F := Lib.hid (show StrPost W X Q r (.agg #[.int .i64 q1.1, .int .i64 q2.1]) q2.2 (.returned (.agg #[.int .i64 q1.1, .int .i64 q2.1])) ((w3.setCell ⟨w.heap.size, 0, none⟩ (.int .i64 q1.1)).setCell ⟨w.heap.size, 1, none⟩ (.int .i64 q2.1)) from ⟨rfl, (h3.setNew HZ.out _).setNew HZ.out _⟩)
  clear k3 h3 hb3 HM2 HK hz
  go_wp2_with fail
  exact bodyPost_ret (v := .agg #[.int .i64 q1.1, .int .i64 q2.1]) (by simp [results, Tryz.results108, go_sem, c0, c1]) rfl F.out
end Go.Proofs.YtojkggppcmdepaaGreat

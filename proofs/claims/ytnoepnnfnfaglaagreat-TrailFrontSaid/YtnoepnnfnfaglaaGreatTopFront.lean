/- TrailFront answers true. Conditions: a slice of bytes that lies in memory, a byte. TrailFront: for every input the law returns true and its arguments read as before. No conditions beyond the row's. -/
import Derived.Test.YtnoepnnfnfaglaaGreatTrQlM
namespace Go.Proofs.YtnoepnnfnfaglaaGreat
open Go.RowKit Go.Wh Go.Maps

set_option maxHeartbeats 16000000 in
set_option maxRecDepth 100000 in
theorem front_walk (W : World) (Q : Nat → Prop) (lv : Value) (m : Nat) (L : List Int) (z : Int) (hl : ∃ a c, lv = .slice a m c ∧ L.length = m ∧ (0 < m → Sl W Q 1 lv m (bc L))) (hb : Byt L) (h0 : 0 ≤ z) (h1 : z ≤ 255) : Calls Tryz.prog 5 #[lv, .int .u8 z] W (BTrue W) := by
  obtain ⟨xa, xc, rfl, hL, hl⟩ := hl
  have HBG := Lib.hid (begun_any W)
  have HL := Lib.hid (And.intro hl (And.intro hb hL))
  clear hl hb hL
  obtain ⟨n, hn⟩ : ∃ n : Nat, z % 8 = (n : Int) := ⟨(z % 8).toNat, by omega⟩
  have hn7 : n ≤ 7 := by omega
  by_cases h12 : 12 < m
  · have b1 : decide ((12 : Int) < (m : Int)) = true := decide_eq_true (by omega)
    have b2 : decide ((m : Int) > 12) = true := decide_eq_true (by omega)
    have b3 : decide (12 < m) = true := decide_eq_true h12
    clear hn hn7
    go_enter Tryz.func5, Tryz.ntmps5
    go_wp2_with fail
    refine HBG.out.mono ?_
    rintro en w1 ⟨rfl, hs1⟩
    have F := Lib.hid (show BTrue W (.returned (.bool true)) w1 from ⟨rfl, hs1⟩)
    clear hs1 HBG
    go_wp2_with fail
    go_ret
    exact F.out
  have b1 : decide ((12 : Int) < (m : Int)) = false := decide_eq_false (by omega)
  have b2 : decide ((m : Int) > 12) = false := decide_eq_false (by omega)
  have b3 : decide (12 < m) = false := decide_eq_false h12
  have HM := Lib.hid (show m ≤ 12 from by omega)
  have v33 : IntKind.i64.wrap ((n : Int) + 33) = (n : Int) + 33 := IntWalk.i64_in _ (by omega)
  have v32 : IntKind.i64.wrap ((n : Int) + 32) = (n : Int) + 32 := IntWalk.i64_in _ (by omega)
  have HN7 := Lib.hid hn7
  clear h12 hn7
  go_enter Tryz.func5, Tryz.ntmps5
  go_wp2_with fail
  refine HBG.out.mono ?_
  rintro en w1 ⟨rfl, hs1⟩
  have HN := Lib.hid (newx_any w1 (n + 33) (by have := HN7.out; omega) (N := (n : Int) + 33) (by omega))
  have H1 := Lib.hid hs1
  clear hs1 HBG
  go_wp2_with fail
  rw [hn]
  clear hn
  go_wp2_with fail
  refine HN.out.mono ?_
  rintro en w2 ⟨d, rfl, hd2, hs2⟩
  have hmk : (Instr.makeSlice 23 (.int .i64 64) (.int .i64 64)).run Tryz.prog w2 = .ok (.slice (some ⟨w2.heap.size, 0, none⟩) 64 64) (w2.alloc (.cells zeros64 5)) := make64 w2
  have H2 := Lib.hid (And.intro hd2 (And.intro hs2 (H1.out.trans hs2)))
  clear hd2 hs2 HN
  go_wp2_with fail
  have hz := cellsAt_new w2 (bc (List.replicate 64 0)) 5
  have hs3 : Still w2 (w2.alloc (.cells zeros64 5)) := (Still.refl w2).alloc _
  change cellsAt (w2.alloc (.cells zeros64 5)) w2.heap.size _ at hz
  clear hmk
  generalize (w2.alloc (.cells zeros64 5)) = w3 at *
  obtain ⟨b, hbb⟩ : ∃ b, w2.heap.size = b := ⟨_, rfl⟩
  rw [hbb] at hz
  rw [hbb]
  have HB := Lib.hid (And.intro hbb (And.intro hs3 hz))
  clear hbb hs3 hz
  go_wp2_with fail
  go_loopw [8] (fun s wr => ∃ i : Nat, s = .int .i64 i ∧ i ≤ 64 ∧ cellsAt wr b (bc (patN i)) ∧ Only (fun g => g = b) w3 wr) (fun s _ => 64 - (intOf s).toNat)
  case atStart => exact ⟨0, rfl, Nat.zero_le _, HB.out.2.2, Only.refl _ _⟩
  case round =>
    obtain ⟨i, rfl, hi64, hcb, hob⟩ := hrel
    have u1 : IntKind.i64.wrap ((i : Int) + 1) = (i : Int) + 1 := IntWalk.i64_in _ (by omega)
    have i0 : (0 : Int) ≤ (i : Int) := by omega
    by_cases hi : i < 64
    · have d1 : decide ((i : Int) < 64) = true := decide_eq_true (by omega)
      have d2 : decide (i < 64) = true := decide_eq_true hi
      have i1 : (i : Int) < 64 := by omega
      have e1 : IntKind.i64.wrap (200 + (i : Int) % 50) = 200 + (i : Int) % 50 := IntWalk.i64_in _ (by omega)
      have e2 : (200 + (i : Int) % 50) % 256 = 200 + (i : Int) % 50 := by omega
      have cb : wr.cell? ⟨b, i, none⟩ = some (.int .u8 0) := (hcb.cell i).trans (bc_get (patN_at hi))
      have fb : wr.frozen? ⟨b, i, none⟩ = false := hcb.free i
      have HX := Lib.hid (show cellsAt (wr.setCell ⟨b, i, none⟩ (.int .u8 (200 + (i : Int) % 50))) b (bc (patN (i + 1))) ∧ Only (fun g => g = b) w3 (wr.setCell ⟨b, i, none⟩ (.int .u8 (200 + (i : Int) % 50))) from ⟨by
        have := hcb.setCell i (.int .u8 (200 + (i : Int) % 50))
        rw [bc_set, patN_next hi] at this
        exact this, hob.setCell (p := ⟨b, i, none⟩) (.inl rfl) _⟩)
      clear hcb hob hi64
      go_wp2_with fail
      go_roundw
      case rel => exact ⟨i + 1, by go_num, by omega, HX.out.1, HX.out.2⟩
      case measure => simp [intOf]; omega
    · have d1 : decide ((i : Int) < 64) = false := decide_eq_false (by omega)
      have d2 : decide (i < 64) = false := decide_eq_false hi
      have h64 : i = 64 := by omega
      rw [h64, patN_all] at hcb
      have HFR := Lib.hid (show FrRel W d b n 0 wr from by
        obtain ⟨hd2, hs2, hs12⟩ := H2.out
        obtain ⟨hb0, hs3, -⟩ := HB.out
        have hsb : Still w2 wr := hs3.andThen hob fun j hj e => by omega
        have hz1 := H1.out.size
        exact ⟨⟨_, by rw [frT_zero]; exact (hd2.still hsb), fun g hg => by have := hg.1; omega, fun e => by have := e.2; omega⟩, hcb, hs12.trans hsb⟩)
      clear hcb hob hi hi64 h64
      go_wp2_with fail
      go_loopw [9] (fun s wr => ∃ i : Nat, s = .int .i64 i ∧ i ≤ n ∧ FrRel W d b n i wr) (fun s _ => n - (intOf s).toNat)
      case atStart => exact ⟨0, rfl, Nat.zero_le _, HFR.out⟩
      case round =>
        clear HFR
        obtain ⟨i, rfl, hin, ⟨⟨A, hd, hA, hAb⟩, hcb, hst⟩⟩ := hrel
        have u1 : IntKind.i64.wrap ((i : Int) + 1) = (i : Int) + 1 := IntWalk.i64_in _ (by have := HN7.out; omega)
        by_cases hi : i < n
        · have d1 : decide ((i : Int) < (n : Int)) = true := decide_eq_true (by omega)
          have d2 : decide (i < n) = true := decide_eq_true hi
          have HW := Lib.hid (write_x (i := i) (bv := .slice (some ⟨b, 0, none⟩) 64 64) (l := patB) hd (by rw [frT_length hin]; omega) (hcb.reads (by rw [bc_length, patB_length])) patB_byt (fun g hg => by cases hg; exact hAb) (I := (i : Int)) rfl)
          have HH := Lib.hid (And.intro hcb (And.intro hst (And.intro hA (And.intro hAb hi))))
          clear hd hA hAb hcb hst hin hi
          go_wp2_with fail
          refine HW.out.mono ?_
          rintro en w4 ⟨rfl, hd4, ho4⟩
          have HNX := Lib.hid (FrRel.next HH.out.1 HH.out.2.1 HH.out.2.2.1 HH.out.2.2.2.1 HH.out.2.2.2.2 hd4 ho4)
          have hi := HH.out.2.2.2.2
          clear hd4 ho4 HW
          go_wp2_with fail
          go_roundw
          case rel => exact ⟨i + 1, by go_num, by omega, HNX.out⟩
          case measure => simp [intOf]; omega
        · have d1 : decide ((i : Int) < (n : Int)) = false := decide_eq_false (by omega)
          have d2 : decide (i < n) = false := decide_eq_false hi
          obtain rfl : n = i := by omega
          have HW := Lib.hid (write_x (i := n + 32) (bv := .slice (some ⟨b, 0, none⟩) 64 64) (l := patB) hd (by rw [frT_length hin]; omega) (hcb.reads (by rw [bc_length, patB_length])) patB_byt (fun g hg => by cases hg; exact hAb) (I := (n : Int) + 32) (by omega))
          have HH := Lib.hid (And.intro hcb (And.intro hst (And.intro hA hAb)))
          clear hd hA hAb hcb hst hin hi
          go_wp2_with fail
          refine HW.out.mono ?_
          rintro en w4 ⟨rfl, hd4, ho4⟩
          have HO := Lib.hid (fr_open (n := n) (a := (n : Int)) hd4 rfl)
          have H4 := Lib.hid (show cellsAt w4 b (bc patB) ∧ Still W w4 ∧ (∀ g, Newer A wr w4 g → W.heap.size ≤ g) ∧ ¬ Newer A wr w4 b from by
            have := HH.out.2.1.size
            have := HH.out.1.lt
            exact ⟨HH.out.1.only ho4 HH.out.2.2.2, still_of HH.out.2.1 ho4 HH.out.2.2.1, fun g hg => hg.elim (HH.out.2.2.1 g) fun e => by omega, fun e => e.elim HH.out.2.2.2 fun e => by omega⟩)
          clear hd4 ho4 HW
          generalize Newer A wr w4 = A4 at *
          go_wp2_with fail
          refine HO.out.mono ?_
          rintro en w5 ⟨t, la, lc, A5, B5, C5, rfl, hd5, ht5, -, ho5, ha5, hb5, -, hab5, -, -⟩
          have hz4 := H4.out.2.1.size
          have hs5 : Still W w5 := still_of H4.out.2.1 ho5 H4.out.2.2.1
          have hc5 : cellsAt w5 b (bc patB) := H4.out.1.only ho5 H4.out.2.2.2
          have HSM := Lib.hid (some_any w5 Q (.slice xa m xc) m L ⟨xa, xc, rfl, HL.out.2.2, fun h => (HL.out.1 h).still hs5⟩ HL.out.2.1 (by have := HM.out; omega))
          have HA5 := Lib.hid (show (∀ g, A5 g → W.heap.size ≤ g) ∧ ¬ A5 b from ⟨fun g hg => (ha5 g hg).elim (H4.out.2.2.1 g) fun e => by omega, fun e => (ha5 b e).elim H4.out.2.2.2 fun e => by have := H4.out.1.lt; omega⟩)
          have H5 := Lib.hid (And.intro hd5 (And.intro ht5 (And.intro hs5 (And.intro (show ∀ g, B5 g → W.heap.size ≤ g from fun g hg => by have := hb5 g hg; omega) (And.intro hab5 (And.intro hc5 (show ¬ B5 b from fun e => by have := hb5 b e; have := H4.out.1.lt; omega)))))))
          clear hd5 ht5 ho5 ha5 hb5 hab5 hs5 hc5 HO hz4
          go_wp2_with fail
          refine HSM.out.mono ?_
          rintro en w6 ⟨sv, rfl, hen, hs6⟩
          obtain ⟨sa, sc, rfl⟩ := hen.form
          have hlen : (someL L).length = m := by rw [someL_length]; exact HL.out.2.2
          rw [hlen] at hen ⊢
          have hREL : LoS W A5 d t n 32 (frE n) (fun g => (w5.heap.size ≤ g ∧ g < w6.heap.size) ∨ g = b) (.slice sa m sc) (someL L) (.slice none 0 0) [] [] 0 0 w6 :=
            ⟨⟨B5, H5.out.2.1.still hs6, H5.out.2.2.2.1, H5.out.2.2.2.2.1, fun g hg e => hg.elim (fun hg => by have := H5.out.2.1.lt g e; omega) fun hg => H5.out.2.2.2.2.2.2 (hg ▸ e)⟩, H5.out.1.still hs6, hen.low.mono fun g hg => .inl hg, Ents.nil, fun g hg => hg.elim (fun hg => hg.2) fun hg => by have := hs6.size; have := H5.out.2.2.2.2.2.1.lt; omega, H5.out.2.2.1.trans hs6⟩
          have hcb6 : cellsAt w6 b (bc patB) := H5.out.2.2.2.2.2.1.only hs6 fun e => e
          have HES := Lib.hid (And.intro (someL_may (L := L) (by have := HL.out.2.2; have := HM.out; omega)) (And.intro (someL_51 L) hlen))
          generalize someL L = es at *
          obtain ⟨C6, hC6⟩ : ∃ C, C = (fun g => (w5.heap.size ≤ g ∧ g < w6.heap.size) ∨ g = b) := ⟨_, rfl⟩
          rw [← hC6] at hREL
          have HC6 := Lib.hid (show C6 b ∧ ∀ g, C6 g → ¬ A5 g from by
            rw [hC6]
            exact ⟨.inr rfl, fun g hg e => hg.elim (fun hg => by have := H5.out.1.lt g e; omega) fun hg => HA5.out.2 (hg ▸ e)⟩)
          have HREL := Lib.hid (And.intro hREL hcb6)
          clear hREL hen hs6 HSM hlen hcb6 hC6
          go_wp2_with fail
          go_loopw [14] (fun s wr => ∃ i : Nat, s = .int .i64 i ∧ i ≤ m ∧ LoS W A5 d t n 32 (frE n) C6 (.slice sa m sc) es (.slice none 0 0) [] [] 0 i wr ∧ cellsAt wr b (bc patB)) (fun s _ => m - (intOf s).toNat)
          case atStart => exact ⟨0, rfl, Nat.zero_le _, HREL.out⟩
          case round =>
            clear HREL
            obtain ⟨i, rfl, him, ⟨⟨B, ht, hB, hab, hcb⟩, hd, hen, -, hcl, hst⟩, hbb⟩ := hrel
            have HH := Lib.hid (And.intro ht (And.intro hB (And.intro hab (And.intro hcb (And.intro hd (And.intro hen (And.intro hcl (And.intro hst hbb))))))))
            have u1 : IntKind.i64.wrap ((i : Int) + 1) = (i : Int) + 1 := IntWalk.i64_in _ (by have := HM.out; omega)
            by_cases hi : i < m
            · have d1 : decide ((i : Int) < (m : Int)) = true := decide_eq_true (by omega)
              have d2 : decide (i < m) = true := decide_eq_true hi
              have l0 : (0 : Int) ≤ (i : Int) := by omega
              have l1 : (i : Int) < (m : Int) := by omega
              obtain ⟨e, he⟩ : ∃ e, es[i]? = some e := ⟨_, List.getElem?_eq_getElem (by rw [HES.out.2.2]; exact hi)⟩
              obtain ⟨g, o, oa, oc, na, nc, ma, mc, ka, kc, da, dc, va, vc, rfl, -, hei, hcs⟩ := hen.at he
              have hmem := List.mem_of_getElem? he
              have hlen : ([] ++ es.take i).length = i := by rw [List.nil_append, List.length_take, HES.out.2.2]; omega
              have h51 : (streamB ([] ++ es.take i)).length = 51 * i := by rw [List.nil_append]; exact LoS.len HES.out.2.1 (by rw [HES.out.2.2]; exact him)
              have HAP := Lib.hid (ap_ok ht hei (HES.out.1 e hmem) (by rw [h51, HES.out.2.1 e hmem]; have := HM.out; omega) (N := (i : Int) + 1) (by rw [hlen]; omega))
              have HE := Lib.hid (And.intro he hi)
              have c0 : wr.cell? ⟨g, o + i * 16, none⟩ = some (.int .i64 e.kind) := hcs 0 _ (by decide) rfl
              have c1 : wr.cell? ⟨g, o + i * 16 + 1, none⟩ = some (.int .i64 e.txn) := by rw [Nat.add_assoc]; exact hcs 1 _ (by decide) rfl
              have c2 : wr.cell? ⟨g, o + i * 16 + 2, none⟩ = some (.int .i64 e.unit) := by rw [Nat.add_assoc]; exact hcs 2 _ (by decide) rfl
              have c3 : wr.cell? ⟨g, o + i * 16 + 3, none⟩ = some (.int .i64 e.half) := by rw [Nat.add_assoc]; exact hcs 3 _ (by decide) rfl
              have c4 : wr.cell? ⟨g, o + i * 16 + 4, none⟩ = some (.int .i64 e.prev) := by rw [Nat.add_assoc]; exact hcs 4 _ (by decide) rfl
              have c5 : wr.cell? ⟨g, o + i * 16 + 5, none⟩ = some (.int .i64 e.next) := by rw [Nat.add_assoc]; exact hcs 5 _ (by decide) rfl
              have c6 : wr.cell? ⟨g, o + i * 16 + 6, none⟩ = some (.int .i64 e.ap) := by rw [Nat.add_assoc]; exact hcs 6 _ (by decide) rfl
              have c7 : wr.cell? ⟨g, o + i * 16 + 7, none⟩ = some (.int .i64 e.ac) := by rw [Nat.add_assoc]; exact hcs 7 _ (by decide) rfl
              have c8 : wr.cell? ⟨g, o + i * 16 + 8, none⟩ = some (.int .i64 e.tp) := by rw [Nat.add_assoc]; exact hcs 8 _ (by decide) rfl
              have c9 : wr.cell? ⟨g, o + i * 16 + 9, none⟩ = some (.int .i64 e.tc) := by rw [Nat.add_assoc]; exact hcs 9 _ (by decide) rfl
              have c10 : wr.cell? ⟨g, o + i * 16 + 10, none⟩ = some (.slice oa e.old.length oc) := by rw [Nat.add_assoc]; exact hcs 10 _ (by decide) rfl
              have c11 : wr.cell? ⟨g, o + i * 16 + 11, none⟩ = some (.slice na e.new.length nc) := by rw [Nat.add_assoc]; exact hcs 11 _ (by decide) rfl
              have c12 : wr.cell? ⟨g, o + i * 16 + 12, none⟩ = some (.slice ma e.moves.length mc) := by rw [Nat.add_assoc]; exact hcs 12 _ (by decide) rfl
              have c13 : wr.cell? ⟨g, o + i * 16 + 13, none⟩ = some (.slice ka e.lives.length kc) := by rw [Nat.add_assoc]; exact hcs 13 _ (by decide) rfl
              have c14 : wr.cell? ⟨g, o + i * 16 + 14, none⟩ = some (.slice da e.dirty.length dc) := by rw [Nat.add_assoc]; exact hcs 14 _ (by decide) rfl
              have c15 : wr.cell? ⟨g, o + i * 16 + 15, none⟩ = some (.slice va e.opens.length vc) := by rw [Nat.add_assoc]; exact hcs 15 _ (by decide) rfl
              unfold eV at HAP
              clear ht hB hab hcb hd hen hcl hst hei hcs hmem hlen h51 he hbb him hi
              go_wp2_with fail
              refine HAP.out.mono ?_
              rintro en w7 ⟨rfl, ht7, ho7⟩
              have HNX := Lib.hid (show LoS W A5 d t n 32 (frE n) C6 (.slice (some ⟨g, o, none⟩) m sc) es (.slice none 0 0) [] [] 0 (i + 1) w7 ∧ cellsAt w7 b (bc patB) from ⟨LoS.next HH.out.2.2.2.2.1 HH.out.2.2.2.2.2.1 Ents.nil HH.out.2.2.2.2.2.2.1 HH.out.2.2.2.2.2.2.2.1 HH.out.2.1 HH.out.2.2.1 HH.out.2.2.2.1 HE.out.1 ht7 ho7, HH.out.2.2.2.2.2.2.2.2.only ho7 (HH.out.2.2.2.1 b HC6.out.1)⟩)
              have hi := HE.out.2
              clear ht7 ho7 HAP
              go_wp2_with fail
              go_roundw
              case rel => exact ⟨i + 1, by go_num, by omega, HNX.out⟩
              case measure => simp [intOf]; omega
            · have d1 : decide ((i : Int) < (m : Int)) = false := decide_eq_false (by omega)
              have d2 : decide (i < m) = false := decide_eq_false hi
              have hte : es.take i = es := List.take_of_length_le (by rw [HES.out.2.2]; omega)
              rw [List.nil_append, hte] at ht
              have hfo := force_any ht hd hab (by rw [frE_length]; omega)
              rw [fr_lay] at hfo
              have HFO := Lib.hid hfo
              have HBX := Lib.hid (And.intro hB (And.intro hab (And.intro hcb (And.intro hen (And.intro hst hbb)))))
              have HLX := Lib.hid (And.intro hcl (And.intro hd.lt hB))
              clear ht hB hab hcb hd hen hcl hst him hte hfo hbb hi
              go_wp2_with fail
              refine HFO.out.mono ?_
              rintro en w7 ⟨rfl, -, hd7, ho7⟩
              have H7 := Lib.hid (show Still W w7 ∧ cellsAt w7 b (bc patB) ∧ Ents w7 C6 (.slice sa m sc) es ∧ (∀ g, C6 g → ¬ Newer A5 wr w7 g) ∧ ∀ g, Newer A5 wr w7 g → W.heap.size ≤ g from by
                obtain ⟨hB, hab, hcb, hen, hst, hbb⟩ := HBX.out
                have hz := hst.size
                have hcx : ∀ g, C6 g → ¬ (A5 g ∨ B g) := fun g hg e => e.elim (HC6.out.2 g hg) (hcb g hg)
                exact ⟨still_of hst ho7 fun g hg => hg.elim (HA5.out.1 g) (hB g), hbb.only ho7 (hcx b HC6.out.1), hen.only ho7 hcx, fun g hg e => e.elim (HC6.out.2 g hg) fun e => by have := HLX.out.1 g hg; omega, fun g hg => hg.elim (HA5.out.1 g) fun e => by omega⟩)
              have HD7 := Lib.hid hd7
              clear hd7 ho7 HFO HBX HLX
              generalize Newer A5 wr w7 = A7 at *
              go_wp2_with fail
              go_loopw [15] (fun s wr => ∃ i : Nat, s = .int .i64 i ∧ i ≤ n + 33 ∧ Still w7 wr) (fun s _ => n + 33 - (intOf s).toNat)
              case atStart => exact ⟨0, rfl, Nat.zero_le _, Still.refl _⟩
              case round =>
                obtain ⟨i, rfl, hin, hsr⟩ := hrel
                have u1 : IntKind.i64.wrap ((i : Int) + 1) = (i : Int) + 1 := IntWalk.i64_in _ (by have := HN7.out; omega)
                by_cases hi : i < n + 33
                · have d1 : decide ((i : Int) < (n : Int) + 33) = true := decide_eq_true (by omega)
                  obtain ⟨l, hl, hpat⟩ := frL_get (n := n) (S := streamB es) hi
                  have HR := Lib.hid (read_x (HD7.out.still hsr) hl (I := (i : Int)) rfl)
                  have HSR := Lib.hid hsr
                  have HI := Lib.hid hi
                  clear hl hsr hi hin
                  by_cases hp : i < n
                  · have p1 : decide ((i : Int) < (n : Int)) = true := decide_eq_true (by omega)
                    have p2 : decide (i < n) = true := decide_eq_true hp
                    have hle := hpat (.inl hp)
                    subst hle
                    clear hpat hp
                    go_wp2_with fail
                    refine HR.out.mono ?_
                    rintro en w8 ⟨v, rfl, hv, hs8, -⟩
                    have q1 := conv_sl (Vec.sl0 hv (by decide))
                    have q2 := conv_sl (cells_sl (n := 64) (c := 64) (H7.out.2.1.only (HSR.out.trans hs8) fun e => e) patB_length)
                    have HS8 := Lib.hid (HSR.out.trans hs8)
                    obtain ⟨va, vc, rfl⟩ := hv.form'
                    clear hv hs8 HR
                    go_wp2_with fail
                    go_roundw
                    case rel => exact ⟨i + 1, by go_num, by have := HI.out; omega, HS8.out⟩
                    case measure => simp [intOf]; have := HI.out; omega
                  · have p1 : decide ((i : Int) < (n : Int)) = false := decide_eq_false (by omega)
                    have p2 : decide (i < n) = false := decide_eq_false hp
                    by_cases hp2 : i = n + 32
                    · have p3 : ((i : Int) == (n : Int) + 32) = true := by rw [beq_iff_eq]; omega
                      have p4 : decide ((i : Int) = (n : Int) + 32) = true := decide_eq_true (by omega)
                      have p5 : (i : Int) = (n : Int) + 32 := by omega
                      have hle := hpat (.inr hp2)
                      subst hle
                      have HP5 := Lib.hid p5
                      clear hpat hp hp2 p5
                      go_wp2_with fail
                      refine HR.out.mono ?_
                      rintro en w8 ⟨v, rfl, hv, hs8, -⟩
                      have q1 := conv_sl (Vec.sl0 hv (by decide))
                      have q2 := conv_sl (cells_sl (n := 64) (c := 64) (H7.out.2.1.only (HSR.out.trans hs8) fun e => e) patB_length)
                      have HS8 := Lib.hid (HSR.out.trans hs8)
                      obtain ⟨va, vc, rfl⟩ := hv.form'
                      clear hv hs8 HR
                      go_wp2_with fail
                      go_roundw
                      case rel => exact ⟨i + 1, by go_num, by have := HI.out; omega, HS8.out⟩
                      case measure => simp [intOf]; have := HI.out; omega
                    · have p3 : ((i : Int) == (n : Int) + 32) = false := by rw [beq_eq_false_iff_ne]; omega
                      have p4 : decide ((i : Int) = (n : Int) + 32) = false := decide_eq_false (by omega)
                      clear hpat hp hp2
                      go_wp2_with fail
                      refine HR.out.mono ?_
                      rintro en w8 ⟨v, rfl, hv, hs8, -⟩
                      have HS8 := Lib.hid (HSR.out.trans hs8)
                      obtain ⟨va, vc, rfl⟩ := hv.form'
                      clear hv hs8 HR
                      go_wp2_with fail
                      go_roundw
                      case rel => exact ⟨i + 1, by go_num, by have := HI.out; omega, HS8.out⟩
                      case measure => simp [intOf]; have := HI.out; omega
                · have d1 : decide ((i : Int) < (n : Int) + 33) = false := decide_eq_false (by omega)
                  have HO9 := Lib.hid (open_laid (HD7.out.still hsr) (by rw [frE_length]; omega) (by decide) HES.out.1 (by rw [stream_51 HES.out.2.1, HES.out.2.2]; have := HM.out; omega) (a := (n : Int)) (k := 32) rfl rfl)
                  have HSR := Lib.hid hsr
                  clear hsr hin hi
                  go_wp2_with fail
                  refine HO9.out.mono ?_
                  rintro en w9 ⟨t2, la2, lc2, A9, B9, C9, rfl, -, -, hen9, ho9, -⟩
                  have hsm := same_entries (w := w9) _ _ es hen9 ((H7.out.2.2.1.still HSR.out).only ho9 H7.out.2.2.2.1) HES.out.1 (by rw [HES.out.2.2]; have := HM.out; omega)
                  rw [HES.out.2.2] at hsm ⊢
                  have HSE := Lib.hid hsm
                  have HS9 := Lib.hid (still_of (H7.out.1.trans HSR.out) ho9 H7.out.2.2.2.2)
                  clear hen9 ho9 hsm HO9
                  go_wp2_with fail
                  refine HSE.out.mono ?_
                  rintro en w10 ⟨rfl, hs10⟩
                  have F := Lib.hid (show BTrue W (.returned (.bool true)) w10 from ⟨rfl, HS9.out.trans hs10⟩)
                  clear hs10 HSE
                  go_wp2_with fail
                  go_ret
                  exact F.out
end Go.Proofs.YtnoepnnfnfaglaaGreat

namespace Go.Proofs.YtnoepnnfnfaglaaGreat
open Go.RowKit Go.Wh Go.ChangeShapes Go.WideShapes Go.ChangeAt

theorem frontOwn : ownKnob Tryz.prog.godebug = none := by kernel_rfl
theorem frontLaid : laidOutB Tryz.prog = true := by kernel_rfl

set_option maxRecDepth 100000 in
theorem trailFront_lifted (os : Os) (started : os.Started) (H : Type) (enc : TypeId × Value → H) :
    ReturnsInHanded {} Tryz.checked os 5 .any (Rows.trailFrontSpec.pre6 enc Tryz.prog Tryz.f5 Rows.trailFrontRow.domain false) (Rows.trailFrontSpec.post enc Tryz.prog Tryz.f5 false true false false) := by
  refine returnsInHanded_of_change (C := Tryz.checked) frontOwn started (by kernel_rfl) Tryz.func5
    (ChangeSpec.witness6 (enc := enc) (C := Tryz.checked) false ⟨#[], #[.slice none 0 0, .int .u8 0], []⟩ 8 (by kernel_rfl) (by kernel_rfl) (by kernel_rfl) (by kernel_rfl)) ?_
  intro W base args ds gs before hval0 hW hcnd _
  have hval : ∀ (j : Nat) t v, Tryz.f5.params[j]? = some t → args[j]? = some v → Value.okWide Tryz.prog W .any base t v := hval0
  have hW' := hW
  obtain ⟨p, q, hA0, hV, rfl, hfz, hnd⟩ := hW
  have hA : DataW.TrodAll enc Tryz.prog W 0 (fun _ => true) true Tryz.f5.params.toList args.toList ds p := hA0
  rw [Tryz.params5] at hA hval
  obtain ⟨v0, v1, d0, d1, p0, p1, rfl, rfl, rfl, h0, h1⟩ := trodAll_two hA
  obtain ⟨a0, m0, c0, z0, rfl, w0, l0⟩ := open_row Tryz.underlying23 Tryz.underlying5 (by kernel_rfl) (hval 0 23 v0 rfl rfl) h0
  obtain ⟨n1, rfl, rfl, rfl, w1⟩ := open_int Tryz.underlying5 (hval 1 5 v1 rfl rfl) h1
  have walk : Calls Tryz.prog 5 #[.slice a0 m0 c0, .int .u8 n1] W (BTrue W) := by
    exact front_walk W (fun _ => True) (.slice a0 m0 c0) m0 z0 n1 ⟨a0, c0, rfl, l0, row_sl w0⟩ (row_byt w0) (byte_wf w1).1 (by have := byte_wf w1; omega)
  refine walk.mono fun e W' ⟨he, bel⟩ => ?_
  subst he
  exact ⟨_, rfl, law_post frontLaid (t := 4) rfl Tryz.underlying4 rfl (by intro t ht; rw [show Tryz.f5.params.toList = [23, 5] from rfl] at ht; simp at ht; rcases ht with rfl | rfl; all_goals exact ⟨by kernel_rfl, of_decide_eq_true (by kernel_rfl)⟩) hW' rfl (Only.below bel (Nat.le_refl _) fun _ _ e => e)⟩

theorem trailFront_holds : Rows.TrailFrontSaid :=
  OpenClaim.holds_of_wide 5 Tryz.f5 rfl rfl rfl rfl rfl rfl rfl ⟨rfl, rfl, rfl, rfl, rfl⟩ rfl rfl rfl rfl rfl (by kernel_rfl) Tryz.func5 (by kernel_rfl)
    (of_decide_eq_true (by kernel_rfl)) (by unfold Func.isWrapper; first | (rw [if_pos (by decide +kernel)]; kernel_rfl) | (rw [if_neg (by decide +kernel)]; exact ⟨rfl, rfl⟩))
    (fun os started H enc _ => trailFront_lifted os started H enc)
#print axioms trailFront_holds
end Go.Proofs.YtnoepnnfnfaglaaGreat

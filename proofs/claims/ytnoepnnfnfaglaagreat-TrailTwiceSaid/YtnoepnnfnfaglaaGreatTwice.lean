/- TrailTwice answers true. Conditions: a slice of bytes that lies in memory. -/
import Derived.Test.YtnoepnnfnfaglaaGreatLoR
namespace Go.Proofs.YtnoepnnfnfaglaaGreat
open Go.RowKit Go.Wh Go.Maps

set_option maxHeartbeats 8000000 in
set_option maxRecDepth 100000 in
theorem twice_walk (W : World) (Q : Nat → Prop) (lv : Value) (n : Nat) (L : List Int) (hl : ∃ a c, lv = .slice a n c ∧ L.length = n ∧ (0 < n → Sl W Q 1 lv n (bc L))) (hb : Byt L) : Calls Tryz.prog 7 #[lv] W (BTrue W) := by
  obtain ⟨xa, xc, rfl, hL, hl⟩ := hl
  have HBG := Lib.hid (begun_any W)
  have HL := Lib.hid (And.intro hl (And.intro hb hL))
  clear hl hb hL
  by_cases h12 : 12 < n
  · have b1 : decide ((12 : Int) < (n : Int)) = true := decide_eq_true (by omega)
    have b2 : decide ((n : Int) > 12) = true := decide_eq_true (by omega)
    have b3 : decide (12 < n) = true := decide_eq_true h12
    go_enter Tryz.func7, Tryz.ntmps7
    go_wp2_with fail
    refine HBG.out.mono ?_
    rintro en w1 ⟨rfl, hs1⟩
    have F := Lib.hid (show BTrue W (.returned (.bool true)) w1 from ⟨rfl, hs1⟩)
    clear hs1 HBG
    go_wp2_with fail
    go_ret
    exact F.out
  have b1 : decide ((12 : Int) < (n : Int)) = false := decide_eq_false (by omega)
  have b2 : decide ((n : Int) > 12) = false := decide_eq_false (by omega)
  have b3 : decide (12 < n) = false := decide_eq_false h12
  go_enter Tryz.func7, Tryz.ntmps7
  go_wp2_with fail
  refine HBG.out.mono ?_
  rintro en w1 ⟨rfl, hs1⟩
  have HN := Lib.hid (newx_any w1 40 (by decide) (N := 40) rfl)
  have H1 := Lib.hid hs1
  clear hs1 HBG
  go_wp2_with fail
  refine HN.out.mono ?_
  rintro en w2 ⟨d, rfl, hd2, hs2⟩
  have HO := Lib.hid (open_zero (at_ := 0) (n := 40) (a := 0) (k := 40) hd2 (by decide) (by decide) rfl rfl)
  have H2 := Lib.hid (H1.out.trans hs2)
  clear hd2 hs2 HN
  go_wp2_with fail
  refine HO.out.mono ?_
  rintro en w3 ⟨t, la, lc, A3, B3, C3, rfl, hd3, ht3, -, ho3, ha3, hb3, -, hab3, -, -⟩
  have hs3 : Still W w3 := still_of H2.out ho3 fun g hg => by have := hg.1; have := H1.out.size; omega
  have HSM := Lib.hid (some_any w3 Q (.slice xa n xc) n L ⟨xa, xc, rfl, HL.out.2.2, fun h => (HL.out.1 h).still hs3⟩ HL.out.2.1 (by omega))
  have HA3 := Lib.hid (show ∀ g, A3 g → W.heap.size ≤ g from fun g hg => (ha3 g hg).elim (fun e => by have := e.1; have := H1.out.size; omega) fun e => by have := H2.out.size; omega)
  have H3 := Lib.hid (And.intro hd3 (And.intro ht3 (And.intro hs3 (And.intro (show ∀ g, B3 g → W.heap.size ≤ g from fun g hg => by have := hb3 g hg; have := H2.out.size; omega) hab3))))
  clear hd3 ht3 ho3 ha3 hb3 hab3 hs3 HO
  go_wp2_with fail
  refine HSM.out.mono ?_
  rintro en w4 ⟨sv, rfl, hen, hs4⟩
  obtain ⟨sa, sc, rfl⟩ := hen.form
  have hlen : (someL L).length = n := by rw [someL_length]; exact HL.out.2.2
  rw [hlen] at hen ⊢
  have hREL : LoRel W A3 d t 0 40 (zeroT 40) (fun g => w3.heap.size ≤ g ∧ g < w4.heap.size) (.slice sa n sc) (someL L) 0 w4 :=
    ⟨⟨B3, H3.out.2.1.still hs4, H3.out.2.2.2.1, H3.out.2.2.2.2, fun g hg e => by have := H3.out.2.1.lt g e; omega⟩, H3.out.1.still hs4, hen.low, fun g hg => hg.2, H3.out.2.2.1.trans hs4⟩
  have HES := Lib.hid (And.intro (someL_may (L := L) (by have := HL.out.2.2; omega)) (And.intro (someL_51 L) hlen))
  generalize someL L = es at *
  generalize (fun g => w3.heap.size ≤ g ∧ g < w4.heap.size) = C4 at *
  have HREL := Lib.hid hREL
  clear hREL hen hs4 HSM hlen
  go_wp2_with fail
  go_loopw [8] (fun s wr => ∃ i : Nat, s = .int .i64 i ∧ i ≤ n ∧ LoRel W A3 d t 0 40 (zeroT 40) C4 (.slice sa n sc) es i wr) (fun s _ => n - (intOf s).toNat)
  case atStart => exact ⟨0, rfl, Nat.zero_le _, HREL.out⟩
  case round =>
    clear HREL
    obtain ⟨i, rfl, hin, ⟨⟨B, ht, hB, hab, hcb⟩, hd, hen, hcl, hst⟩⟩ := hrel
    have HH := Lib.hid (And.intro ht (And.intro hB (And.intro hab (And.intro hcb (And.intro hd (And.intro hen (And.intro hcl hst)))))))
    have u1 : IntKind.i64.wrap ((i : Int) + 1) = (i : Int) + 1 := IntWalk.i64_in _ (by omega)
    by_cases hi : i < n
    · have d1 : decide ((i : Int) < (n : Int)) = true := decide_eq_true (by omega)
      have d2 : decide (i < n) = true := decide_eq_true hi
      have l0 : (0 : Int) ≤ (i : Int) := by omega
      have l1 : (i : Int) < (n : Int) := by omega
      obtain ⟨e, he⟩ : ∃ e, es[i]? = some e := ⟨_, List.getElem?_eq_getElem (by rw [HES.out.2.2]; exact hi)⟩
      obtain ⟨g, o, oa, oc, na, nc, ma, mc, ka, kc, da, dc, va, vc, rfl, -, hei, hcs⟩ := hen.at he
      have hmem := List.mem_of_getElem? he
      have hlen : (es.take i).length = i := by rw [List.length_take, HES.out.2.2]; omega
      have h51 : (streamB (es.take i)).length = 51 * i := by rw [stream_51 fun x hx => HES.out.2.1 x (List.mem_of_mem_take hx), hlen]
      have HAP := Lib.hid (ap_ok ht hei (HES.out.1 e hmem) (by rw [h51, HES.out.2.1 e hmem]; omega) (N := (i : Int) + 1) (by rw [hlen]; omega))
      have HE := Lib.hid he
      have c0 : wr.cell? ⟨g, o + i * 16, none⟩ = some (.int .i64 e.kind) := hcs 0 _ (by decide) rfl
      have c1 : wr.cell? ⟨g, o + i * 16 + 1, none⟩ = some (.int .i64 e.txn) := by rw [Nat.add_assoc]; exact hcs 1 _ (by decide) rfl
      have c2 : wr.cell? ⟨g, o + i * 16 + 2, none⟩ = some (.int .i64 e.unit) := by rw [Nat.add_assoc]; exact hcs 2 _ (by decide) rfl
      have c3 : wr.cell? ⟨g, o + i * 16 + 3, none⟩ = some (.int .i64 e.half) := by rw [Nat.add_assoc]; exact hcs 3 _ (by decide) rfl
      have c4 : wr.cell? ⟨g, o + i * 16 + 4, none⟩ = some (.int .i64 e.prev) := by rw [Nat.add_assoc]; exact hcs 4 _ (by decide) rfl
      have c5 : wr.cell? ⟨g, o + i * 16 + 5, none⟩ = some (.int .i64 e.next) := by rw [Nat.add_assoc]; exact hcs 5 _ (by decide) rfl
      have c6 : wr.cell? ⟨g, o + i * 16 + 6, none⟩ = some (.int .i64 e.ap) := by rw [Nat.add_assoc]; exact hcs 6 _ (by decide) rfl
      have c7 : wr.cell? ⟨g, o + i * 16 + 7, none⟩ = some (.int .i64 e.ac) := by rw [Nat.add_assoc]; exact hcs 7 _ (by decide) rfl
      have c8 : wr.cell? ⟨g, o + i * 16 + 8, none⟩ = some (.int .i64 e.tp) := by rw [Nat.add_assoc]; exact hcs 8 _ (by decide) rfl
      have c9 : wr.cell? ⟨g, o + i * 16 + 9, none⟩ = some (.int .i64 e.tc) := by rw [Nat.add_assoc]; exact hcs 9 _ (by decide) rfl
      have c10 : wr.cell? ⟨g, o + i * 16 + 10, none⟩ = some (.slice oa e.old.length oc) := by rw [Nat.add_assoc]; exact hcs 10 _ (by decide) rfl
      have c11 : wr.cell? ⟨g, o + i * 16 + 11, none⟩ = some (.slice na e.new.length nc) := by rw [Nat.add_assoc]; exact hcs 11 _ (by decide) rfl
      have c12 : wr.cell? ⟨g, o + i * 16 + 12, none⟩ = some (.slice ma e.moves.length mc) := by rw [Nat.add_assoc]; exact hcs 12 _ (by decide) rfl
      have c13 : wr.cell? ⟨g, o + i * 16 + 13, none⟩ = some (.slice ka e.lives.length kc) := by rw [Nat.add_assoc]; exact hcs 13 _ (by decide) rfl
      have c14 : wr.cell? ⟨g, o + i * 16 + 14, none⟩ = some (.slice da e.dirty.length dc) := by rw [Nat.add_assoc]; exact hcs 14 _ (by decide) rfl
      have c15 : wr.cell? ⟨g, o + i * 16 + 15, none⟩ = some (.slice va e.opens.length vc) := by rw [Nat.add_assoc]; exact hcs 15 _ (by decide) rfl
      unfold eV at HAP
      clear ht hB hab hcb hd hen hcl hst hei hcs hmem hlen h51 he hin
      go_wp2_with fail
      refine HAP.out.mono ?_
      rintro en w5 ⟨rfl, ht5, ho5⟩
      have HNX := Lib.hid (show LoRel W A3 d t 0 40 (zeroT 40) C4 (.slice (some ⟨g, o, none⟩) n sc) es (i + 1) w5 from LoRel.next HH.out.2.2.2.2.1 HH.out.2.2.2.2.2.1 HH.out.2.2.2.2.2.2.1 HH.out.2.2.2.2.2.2.2 HH.out.2.1 HH.out.2.2.1 HH.out.2.2.2.1 HE.out ht5 ho5)
      clear ht5 ho5 HAP
      go_wp2_with fail
      go_roundw
      case rel => exact ⟨i + 1, by go_num, by omega, HNX.out⟩
      case measure => simp [intOf]; omega
    · have d1 : decide ((i : Int) < (n : Int)) = false := decide_eq_false (by omega)
      have d2 : decide (i < n) = false := decide_eq_false hi
      have hin2 : i = n := by omega
      have hte : es.take i = es := List.take_of_length_le (by rw [HES.out.2.2]; omega)
      rw [hte] at ht
      have HS0 := Lib.hid (stable_x ht (N := 0) rfl)
      have HFO := Lib.hid (force_any ht hd hab (by unfold zeroT; rw [List.length_replicate]; omega))
      have HB := Lib.hid (And.intro ht (And.intro hB (And.intro hab hst)))
      clear ht hB hab hcb hd hen hcl hst hin hte
      go_wp2_with fail
      refine HS0.out.mono ?_
      rintro en w5 ⟨rfl, rfl⟩
      go_wp2_with fail
      refine HFO.out.mono ?_
      rintro en w6 ⟨rfl, ht6, hd6, ho6⟩
      have hs6 : Still W w6 := HB.out.2.2.2.andThen ho6 fun j hj e => e.elim (fun e => by have := HA3.out j e; omega) fun e => by have := HB.out.2.1 j e; omega
      have HS1 := Lib.hid (stable_x ht6 (N := n) (by rw [HES.out.2.2]))
      have HC1 := Lib.hid (count_x ht6 (N := n) (by rw [HES.out.2.2]))
      have hdB : ¬ B d := fun e => by
        obtain ⟨tv, mb, vs, k1, k2, k3, k4, k5⟩ := HH.out.2.2.2.2.1.dk
        exact HB.out.2.2.1 d k2 e
      have hdW : W.heap.size ≤ d := by
        obtain ⟨tv, mb, vs, k1, k2, k3, k4, k5⟩ := HH.out.2.2.2.2.1.dk
        exact HA3.out d k2
      obtain ⟨tv, mb, vs, k1, -, -, -, -⟩ := hd6.dk
      have HAR := Lib.hid (arm_zero k1.cells)
      have H6 := Lib.hid (And.intro ht6 (And.intro hs6 (And.intro hdB hdW)))
      clear ht6 hd6 ho6 hs6 hdB hdW k1 HFO HS0
      go_wp2_with fail
      refine HS1.out.mono ?_
      rintro en w7 ⟨rfl, rfl⟩
      go_wp2_with fail
      refine HC1.out.mono ?_
      rintro en w8 ⟨rfl, rfl⟩
      go_wp2_with fail
      refine HAR.out.mono ?_
      rintro en w9 ⟨rfl, ho9, hc9⟩
      have HF2 := Lib.hid (force_same (H6.out.1.only ho9 fun g hg e => H6.out.2.2.1 (e ▸ hg)) rfl)
      have H9 := Lib.hid (And.intro (still_of H6.out.2.1 ho9 fun g e => e ▸ H6.out.2.2.2) hc9)
      clear ho9 hc9 HAR HS1 HC1
      go_wp2_with fail
      refine HF2.out.mono ?_
      rintro en w10 ⟨rfl, hs10⟩
      have HDD := Lib.hid (dead_c (Still.cell hs10 H9.out.2))
      have F := Lib.hid (show BTrue W (.returned (.bool true)) w10 from ⟨rfl, H9.out.1.trans hs10⟩)
      clear hs10 HF2
      go_wp2_with fail
      refine HDD.out.mono ?_
      rintro en w11 ⟨rfl, rfl⟩
      go_wp2_with fail
      go_ret
      exact F.out
end Go.Proofs.YtnoepnnfnfaglaaGreat

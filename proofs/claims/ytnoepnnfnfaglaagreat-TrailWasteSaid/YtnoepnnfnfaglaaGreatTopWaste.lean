/- TrailWaste answers true. Conditions: three slices of bytes that lie in memory, a byte. TrailWaste: for every input the law returns true and its arguments read as before. No conditions beyond the row's. -/
import Derived.Test.YtnoepnnfnfaglaaGreatTrQlM
namespace Go.Proofs.YtnoepnnfnfaglaaGreat
open Go.RowKit Go.Wh Go.Maps

theorem wa_zero {es : List PE} : (if 0 = es.length then zeroT 60 else layB (zeroT 60) 0 (streamB es) 60) = layB (zeroT 60) 0 (streamB es) 60 := by
  split
  · rename_i h
    rw [List.length_eq_zero_iff.1 h.symm]
    exact (layB_zero 60 (by decide)).symm
  · rfl
theorem wa_more {T : List (List Int)} {es fs : List PE} (h : T.length = 60) : (if es.length = (es ++ fs).length then layB T 0 (streamB es) 60 else layB (layB T 0 (streamB es) 60) 0 (streamB (es ++ fs)) 60) = layB (layB T 0 (streamB es) 60) 0 (streamB (es ++ fs)) 60 := by
  split
  · rename_i e
    rw [List.length_append] at e
    have hf : fs = [] := List.length_eq_zero_iff.1 (by omega)
    rw [hf, List.append_nil, layB_same (by omega) (Nat.le_refl _)]
  · rfl
theorem zero60 : (zeroT 60).length = 60 := by
  unfold zeroT
  rw [List.length_replicate]
theorem waste_open {A : Nat → Prop} {w : World} {d K : Nat} {es : List PE} {b : List Int} (hd : DkX A d ((layB (zeroT 60) 0 (streamB es) 60).set K b) w) (hm : ∀ e ∈ es, e.may = true) (hk : (streamB es).length / 63 < K) (hn : (streamB es).length / 63 < 60) :
    ∃ T : List (List Int), T.length = 60 ∧ Calls Tryz.prog 17 #[.pointer (some ⟨d, 0, none⟩), .int .i64 0, .int .i64 60] w (OqPost A w d 0 60 (layB T 0 (streamB es) 60) es) := by
  obtain ⟨n, hn60⟩ : ∃ n, 60 = n := ⟨_, rfl⟩
  have hz : (zeroT n).length = n := by unfold zeroT; rw [List.length_replicate]
  have e : (60 : Int) = (n : Int) := by rw [← hn60]; rfl
  rw [e]
  rw [hn60] at hd hn ⊢
  have hl : ((layB (zeroT n) 0 (streamB es) n).set K b).length = n := by rw [List.length_set, layB_length', hz]
  have hs := waste_scan (T := zeroT n) (n := n) (k := K) (es := es) (b := b) (by rw [hz]; exact Nat.le_refl _) hm hk hn
  exact ⟨_, hl, open_q hd (by rw [hl]; omega) (by omega) hs rfl rfl rfl⟩
theorem raw_byt {R : List Int} (h : Byt R) (N : Nat) : Byt (R ++ List.replicate N 0) := h.append (Byt.zeros N)

set_option maxHeartbeats 16000000 in
set_option maxRecDepth 100000 in
theorem waste_walk (W : World) (Q : Nat → Prop) (xa ya ra : Option Addr) (xc yc rc m m2 rn : Nat) (L M R : List Int) (z : Int) (hl : L.length = m ∧ (0 < m → Sl W Q 1 (.slice xa m xc) m (bc L)) ∧ Byt L) (hm : M.length = m2 ∧ (0 < m2 → Sl W Q 1 (.slice ya m2 yc) m2 (bc M)) ∧ Byt M) (hr : R.length = rn ∧ (0 < rn → Sl W Q 1 (.slice ra rn rc) rn (bc R)) ∧ Byt R) (h0 : 0 ≤ z) (h1 : z ≤ 255) :
    Calls Tryz.prog 6 #[.slice xa m xc, .slice ya m2 yc, .slice ra rn rc, .int .u8 z] W (BTrue W) := by
  have HBG := Lib.hid (begun_any W)
  have HL := Lib.hid (And.intro hl (And.intro hm hr))
  clear hl hm hr
  obtain ⟨c, hc⟩ : ∃ c : Nat, z % 20 = (c : Int) := ⟨(z % 20).toNat, by omega⟩
  have HC := Lib.hid (show c ≤ 19 from by omega)
  by_cases hbad : 10 < m ∨ 10 < m2 ∨ 64 < rn
  · obtain ⟨x1, e1⟩ : ∃ b, decide ((10 : Int) < (m : Int)) = b := ⟨_, rfl⟩
    obtain ⟨x2, e2⟩ : ∃ b, decide ((10 : Int) < (m2 : Int)) = b := ⟨_, rfl⟩
    obtain ⟨x3, e3⟩ : ∃ b, decide ((64 : Int) < (rn : Int)) = b := ⟨_, rfl⟩
    have f1 : decide (10 < m) = x1 := by rw [← e1]; exact decide_eq_decide.2 (by omega)
    have f2 : decide (10 < m2) = x2 := by rw [← e2]; exact decide_eq_decide.2 (by omega)
    have f3 : decide (64 < rn) = x3 := by rw [← e3]; exact decide_eq_decide.2 (by omega)
    have hx : x1 = true ∨ x2 = true ∨ x3 = true := by
      rcases hbad with h | h | h
      · left; rw [← f1]; exact decide_eq_true h
      · right; left; rw [← f2]; exact decide_eq_true h
      · right; right; rw [← f3]; exact decide_eq_true h
    have HX := Lib.hid hx
    clear hbad hc hx
    go_enter Tryz.func6, Tryz.ntmps6
    go_wp2_with fail
    refine HBG.out.mono ?_
    rintro en w1 ⟨rfl, hs1⟩
    have F := Lib.hid (show BTrue W (.returned (.bool true)) w1 from ⟨rfl, hs1⟩)
    clear hs1 HBG
    cases x1
    · cases x2
      · cases x3
        · exact absurd HX.out (by simp)
        · go_wp2_with fail
          go_ret
          exact F.out
      · go_wp2_with fail
        go_ret
        exact F.out
    · go_wp2_with fail
      go_ret
      exact F.out
  have b1 : decide ((10 : Int) < (m : Int)) = false := decide_eq_false (by omega)
  have b2 : decide ((10 : Int) < (m2 : Int)) = false := decide_eq_false (by omega)
  have b3 : decide ((64 : Int) < (rn : Int)) = false := decide_eq_false (by omega)
  have b4 : decide (10 < m) = false := decide_eq_false (by omega)
  have b5 : decide (10 < m2) = false := decide_eq_false (by omega)
  have b6 : decide (64 < rn) = false := decide_eq_false (by omega)
  have HM := Lib.hid (show m ≤ 10 ∧ m2 ≤ 10 ∧ rn ≤ 64 from by omega)
  clear hbad
  go_enter Tryz.func6, Tryz.ntmps6
  go_wp2_with fail
  refine HBG.out.mono ?_
  rintro en w1 ⟨rfl, hs1⟩
  have HN := Lib.hid (newx_any w1 60 (by decide) (N := 60) rfl)
  have H1 := Lib.hid hs1
  clear hs1 HBG
  go_wp2_with fail
  refine HN.out.mono ?_
  rintro en w2 ⟨d, rfl, hd2, hs2⟩
  have HO := Lib.hid (open_zero (at_ := 0) (n := 60) (a := 0) (k := 60) hd2 (by decide) (by decide) rfl rfl)
  have H2 := Lib.hid (H1.out.trans hs2)
  clear hd2 hs2 HN
  go_wp2_with fail
  refine HO.out.mono ?_
  rintro en w3 ⟨t, la, lc, A3, B3, C3, rfl, hd3, ht3, -, ho3, ha3, hb3, -, hab3, -, -⟩
  have hs3 : Still W w3 := still_of H2.out ho3 fun g hg => by have := hg.1; have := H1.out.size; omega
  have HSM := Lib.hid (some_any w3 Q (.slice xa m xc) m L ⟨xa, xc, rfl, HL.out.1.1, fun h => (HL.out.1.2.1 h).still hs3⟩ HL.out.1.2.2 (by have := HM.out; omega))
  have HA3 := Lib.hid (show ∀ g, A3 g → W.heap.size ≤ g from fun g hg => (ha3 g hg).elim (fun e => by have := e.1; have := H1.out.size; omega) fun e => by have := H2.out.size; omega)
  have H3 := Lib.hid (And.intro hd3 (And.intro ht3 (And.intro hs3 (And.intro (show ∀ g, B3 g → W.heap.size ≤ g from fun g hg => by have := hb3 g hg; have := H2.out.size; omega) hab3))))
  clear hd3 ht3 ho3 ha3 hb3 hab3 hs3 HO
  go_wp2_with fail
  refine HSM.out.mono ?_
  rintro en w4 ⟨sv, rfl, hen, hs4⟩
  obtain ⟨sa, sc, rfl⟩ := hen.form
  have hlen : (someL L).length = m := by rw [someL_length]; exact HL.out.1.1
  rw [hlen] at hen ⊢
  have hREL : LoS W A3 d t 0 60 (zeroT 60) (fun g => w3.heap.size ≤ g ∧ g < w4.heap.size) (.slice sa m sc) (someL L) (.slice none 0 0) [] [] 0 0 w4 :=
    ⟨⟨B3, H3.out.2.1.still hs4, H3.out.2.2.2.1, H3.out.2.2.2.2, fun g hg e => by have := H3.out.2.1.lt g e; omega⟩, H3.out.1.still hs4, hen.low, Ents.nil, fun g hg => hg.2, H3.out.2.2.1.trans hs4⟩
  have HES := Lib.hid (And.intro (someL_may (L := L) (by have := HL.out.1.1; have := HM.out; omega)) (And.intro (someL_51 L) hlen))
  generalize someL L = es at *
  obtain ⟨C4, hC4⟩ : ∃ C, C = (fun g => w3.heap.size ≤ g ∧ g < w4.heap.size) := ⟨_, rfl⟩
  rw [← hC4] at hREL
  have HC4 := Lib.hid (show ∀ g, C4 g → ¬ A3 g from by
    rw [hC4]
    exact fun g hg e => by have := H3.out.1.lt g e; omega)
  have HREL := Lib.hid hREL
  clear hREL hen hs4 HSM hlen hC4
  go_wp2_with fail
  go_loopw [14] (fun s wr => ∃ i : Nat, s = .int .i64 i ∧ i ≤ m ∧ LoS W A3 d t 0 60 (zeroT 60) C4 (.slice sa m sc) es (.slice none 0 0) [] [] 0 i wr) (fun s _ => m - (intOf s).toNat)
  case atStart => exact ⟨0, rfl, Nat.zero_le _, HREL.out⟩
  case round =>
    clear HREL
    obtain ⟨i, rfl, him, ⟨⟨B, ht, hB, hab, hcb⟩, hd, hen, hke, hcl, hst⟩⟩ := hrel
    have HH := Lib.hid (And.intro ht (And.intro hB (And.intro hab (And.intro hcb (And.intro hd (And.intro hen (And.intro hke (And.intro hcl hst))))))))
    have u1 : IntKind.i64.wrap ((i : Int) + 1) = (i : Int) + 1 := IntWalk.i64_in _ (by have := HM.out; omega)
    by_cases hi : i < m
    · have d1 : decide ((i : Int) < (m : Int)) = true := decide_eq_true (by omega)
      have d2 : decide (i < m) = true := decide_eq_true hi
      have l0 : (0 : Int) ≤ (i : Int) := by omega
      have l1 : (i : Int) < (m : Int) := by omega
      obtain ⟨e, he⟩ : ∃ e, es[i]? = some e := ⟨_, List.getElem?_eq_getElem (by rw [HES.out.2.2]; exact hi)⟩
      obtain ⟨g, o, oa, oc, na, nc, ma, mc, ka, kc, da, dc, va, vc, hsa, -, hei, hcs⟩ := hen.at he
      subst hsa
      have hmem := List.mem_of_getElem? he
      have hlen : ([] ++ es.take i).length = 0 + i := by rw [List.length_append, List.length_take, HES.out.2.2, show ([] : List PE).length = 0 from rfl]; omega
      have h51 : (streamB ([] ++ es.take i)).length = 51 * (0 + i) := by rw [streamB_append, List.length_append, LoS.len HES.out.2.1 (by rw [HES.out.2.2]; exact him), show (streamB []).length = 0 from rfl]; omega
      have HAP := Lib.hid (ap_ok ht hei (HES.out.1 e hmem) (by rw [h51, HES.out.2.1 e hmem]; have := HM.out; omega) (N := (((0 + i + 1 : Nat)) : Int)) (by rw [hlen]))
      have HE := Lib.hid (And.intro he hi)
      have c0 : wr.cell? ⟨g, o + i * 16, none⟩ = some (.int .i64 e.kind) := hcs 0 _ (by decide) rfl
      have c1 : wr.cell? ⟨g, o + i * 16 + 1, none⟩ = some (.int .i64 e.txn) := by rw [Nat.add_assoc]; exact hcs 1 _ (by decide) rfl
      have c2 : wr.cell? ⟨g, o + i * 16 + 2, none⟩ = some (.int .i64 e.unit) := by rw [Nat.add_assoc]; exact hcs 2 _ (by decide) rfl
      have c3 : wr.cell? ⟨g, o + i * 16 + 3, none⟩ = some (.int .i64 e.half) := by rw [Nat.add_assoc]; exact hcs 3 _ (by decide) rfl
      have c4 : wr.cell? ⟨g, o + i * 16 + 4, none⟩ = some (.int .i64 e.prev) := by rw [Nat.add_assoc]; exact hcs 4 _ (by decide) rfl
      have c5 : wr.cell? ⟨g, o + i * 16 + 5, none⟩ = some (.int .i64 e.next) := by rw [Nat.add_assoc]; exact hcs 5 _ (by decide) rfl
      have c6 : wr.cell? ⟨g, o + i * 16 + 6, none⟩ = some (.int .i64 e.ap) := by rw [Nat.add_assoc]; exact hcs 6 _ (by decide) rfl
      have c7 : wr.cell? ⟨g, o + i * 16 + 7, none⟩ = some (.int .i64 e.ac) := by rw [Nat.add_assoc]; exact hcs 7 _ (by decide) rfl
      have c8 : wr.cell? ⟨g, o + i * 16 + 8, none⟩ = some (.int .i64 e.tp) := by rw [Nat.add_assoc]; exact hcs 8 _ (by decide) rfl
      have c9 : wr.cell? ⟨g, o + i * 16 + 9, none⟩ = some (.int .i64 e.tc) := by rw [Nat.add_assoc]; exact hcs 9 _ (by decide) rfl
      have c10 : wr.cell? ⟨g, o + i * 16 + 10, none⟩ = some (.slice oa e.old.length oc) := by rw [Nat.add_assoc]; exact hcs 10 _ (by decide) rfl
      have c11 : wr.cell? ⟨g, o + i * 16 + 11, none⟩ = some (.slice na e.new.length nc) := by rw [Nat.add_assoc]; exact hcs 11 _ (by decide) rfl
      have c12 : wr.cell? ⟨g, o + i * 16 + 12, none⟩ = some (.slice ma e.moves.length mc) := by rw [Nat.add_assoc]; exact hcs 12 _ (by decide) rfl
      have c13 : wr.cell? ⟨g, o + i * 16 + 13, none⟩ = some (.slice ka e.lives.length kc) := by rw [Nat.add_assoc]; exact hcs 13 _ (by decide) rfl
      have c14 : wr.cell? ⟨g, o + i * 16 + 14, none⟩ = some (.slice da e.dirty.length dc) := by rw [Nat.add_assoc]; exact hcs 14 _ (by decide) rfl
      have c15 : wr.cell? ⟨g, o + i * 16 + 15, none⟩ = some (.slice va e.opens.length vc) := by rw [Nat.add_assoc]; exact hcs 15 _ (by decide) rfl
      unfold eV at HAP
      clear ht hB hab hcb hd hen hke hcl hst hei hcs hmem hlen h51 he him hi
      go_wp2_with fail
      refine HAP.out.mono ?_
      rintro en wx ⟨rfl, htx, hox⟩
      have HNX := Lib.hid (show LoS W A3 d t 0 60 (zeroT 60) C4 (.slice (some ⟨g, o, none⟩) m sc) es (.slice none 0 0) [] [] 0 (i + 1) wx from LoS.next HH.out.2.2.2.2.1 HH.out.2.2.2.2.2.1 HH.out.2.2.2.2.2.2.1 HH.out.2.2.2.2.2.2.2.1 HH.out.2.2.2.2.2.2.2.2 HH.out.2.1 HH.out.2.2.1 HH.out.2.2.2.1 HE.out.1 htx hox)
      have hi := HE.out.2
      clear htx hox HAP
      go_wp2_with fail
      go_roundw
      case rel => exact ⟨i + 1, by go_num, by omega, HNX.out⟩
      case measure => simp [intOf]; omega
    · have d1 : decide ((i : Int) < (m : Int)) = false := decide_eq_false (by omega)
      have d2 : decide (i < m) = false := decide_eq_false hi
      have hte : es.take i = es := List.take_of_length_le (by rw [HES.out.2.2]; omega)
      rw [hte] at ht
      clear hte
      rw [List.nil_append] at ht
      have hfo := force_any ht hd hab (by unfold zeroT; rw [List.length_replicate]; omega)
      rw [wa_zero] at hfo
      have HFO := Lib.hid hfo
      have HBX := Lib.hid (And.intro hB (And.intro hab (And.intro hcb (And.intro hen (And.intro hst (And.intro hcl hd.lt))))))
      clear ht hB hab hcb hd hen hke hcl hst him hfo hi
      go_wp2_with fail
      refine HFO.out.mono ?_
      rintro en w5 ⟨rfl, ht5, hd5, ho5⟩
      have h5len : (streamB es).length = 51 * m := by rw [stream_51 HES.out.2.1, HES.out.2.2]
      have H5 := Lib.hid (show Still W w5 ∧ Ents w5 C4 (.slice sa m sc) es ∧ (∀ g, C4 g → ¬ Newer A3 wr w5 g ∧ g < w5.heap.size) ∧ ∀ g, Newer A3 wr w5 g → W.heap.size ≤ g from by
        obtain ⟨hB, hab, hcb, hen, hst, hcl, hdl⟩ := HBX.out
        have hz := hst.size
        have hz5 := ho5.size
        have hcx : ∀ g, C4 g → ¬ (A3 g ∨ B g) := fun g hg e => e.elim (HC4.out g hg) (hcb g hg)
        exact ⟨still_of hst ho5 fun g hg => hg.elim (HA3.out g) (hB g), hen.only ho5 hcx, fun g hg => ⟨fun e => e.elim (HC4.out g hg) fun e => by have := hcl g hg; omega, by have := hcl g hg; omega⟩, fun g hg => hg.elim (HA3.out g) fun e => by omega⟩)
      obtain ⟨NL, hNL⟩ : ∃ NL : Int, 63 * ((60 : Nat) : Int) - ((streamB es).length : Int) = NL := ⟨_, rfl⟩
      have HLE := Lib.hid (left_x ht5 hNL)
      obtain ⟨U, hU⟩ : ∃ U : Nat, 51 * m = U := ⟨_, rfl⟩
      obtain ⟨V, hV⟩ : ∃ V : Nat, U / 63 = V := ⟨_, rfl⟩
      obtain ⟨K, hK⟩ : ∃ K : Nat, V + 1 + c = K := ⟨_, rfl⟩
      have hm10 := HM.out.1
      have hc19 := HC.out
      have y1 : IntKind.i64.wrap (3780 - NL) = (U : Int) := by
        rw [h5len] at hNL
        rw [show 3780 - NL = (U : Int) by omega]
        exact IntWalk.i64_in _ (by omega)
      have y0 : (0 : Int) ≤ (U : Int) := by omega
      have y2 : (U : Int) / 63 = (V : Int) := by omega
      have y2b : IntKind.i64.wrap (V : Int) = (V : Int) := IntWalk.i64_in _ (by omega)
      have y3 : IntKind.i64.wrap ((V : Int) + 1) = (V : Int) + 1 := IntWalk.i64_in _ (by omega)
      have y4 : IntKind.i64.wrap ((V : Int) + 1 + (c : Int)) = (K : Int) := by
        rw [show (V : Int) + 1 + (c : Int) = (K : Int) by omega]
        exact IntWalk.i64_in _ (by omega)
      have HKK := Lib.hid (show (streamB es).length / 63 < K ∧ (streamB es).length / 63 < 60 ∧ K < 60 from by
        rw [h5len, hU, hV]
        omega)
      have HD5 := Lib.hid hd5
      clear hd5 ht5 ho5 HFO HBX h5len hNL hU hV hK hm10 hc19
      generalize Newer A3 wr w5 = A5 at *
      go_wp2_with fail
      refine HLE.out.mono ?_
      rintro en w6 ⟨rfl, hs6⟩
      obtain ⟨RN, hRN⟩ : ∃ RN, 64 - rn = RN := ⟨_, rfl⟩
      have y6 : IntKind.i64.wrap (64 - (rn : Int)) = (RN : Int) := by
        rw [show 64 - (rn : Int) = (RN : Int) by have := HM.out.2.2; omega]
        exact IntWalk.i64_in _ (by have := HM.out.2.2; omega)
      obtain ⟨v7, w7, v8, w8, hr7, hr8, hrd8, hs8, hv8⟩ := raw_row w6 Q ra rc rn RN R (fun h => (HL.out.2.2.2.1 h).still (H5.out.1.trans hs6)) HL.out.2.2.1 HM.out.2.2 hRN
      have HS8 := Lib.hid (hs6.trans hs8)
      have HWR := Lib.hid (write_x (i := K) (bv := v8) (l := R ++ List.replicate RN 0) (HD5.out.still (hs6.trans hs8)) (by rw [layB_length']; unfold zeroT; rw [List.length_replicate]; exact HKK.out.2.2) hrd8 (raw_byt HL.out.2.2.2.2 RN) (fun g hg e => by
        have e1 := hv8 g hg
        have e2 := HD5.out.lt g e
        have e3 := hs6.size
        omega) (I := (K : Int)) rfl)
      have HR7 := Lib.hid (And.intro hr7 hr8)
      clear hs6 hrd8 hs8 hv8 HLE hRN hr7 hr8
      go_wp2_with (at_builtin; first
        | (refine wpList_append_given (by rfl) _ _ 23 23 rfl (.slice (some ⟨w6.heap.size, 0, none⟩) 0 0) (.slice ra rn rc) rfl rfl v7 w7 HR7.out.1 ?_)
        | (refine wpList_append_given (by rfl) _ _ 23 3 rfl v7 (.int .i64 (RN : Int)) rfl rfl v8 w8 HR7.out.2 ?_))
      refine HWR.out.mono ?_
      rintro en w9 ⟨rfl, hd9, ho9⟩
      have H9 := Lib.hid (show Still W w9 ∧ Ents w9 C4 (.slice sa m sc) es ∧ (∀ g, C4 g → ¬ Newer A5 w8 w9 g ∧ g < w9.heap.size) ∧ ∀ g, Newer A5 w8 w9 g → W.heap.size ≤ g from by
        obtain ⟨k1, k2, k3, k4⟩ := H5.out
        have hz := HS8.out.size
        have hz9 := ho9.size
        have hzW := k1.size
        exact ⟨still_of (k1.trans HS8.out) ho9 k4, (k2.still HS8.out).only ho9 fun g hg => (k3 g hg).1, fun g hg => ⟨fun e => e.elim (k3 g hg).1 fun e => by have := (k3 g hg).2; omega, by have := (k3 g hg).2; omega⟩, fun g hg => hg.elim (k4 g) fun e => by omega⟩)
      obtain ⟨T9, hT9, hoq9⟩ := waste_open hd9 HES.out.1 HKK.out.1 HKK.out.2.1
      have HO9 := Lib.hid hoq9
      have HT9 := Lib.hid hT9
      clear hoq9
      clear hd9 ho9 HWR hT9
      generalize Newer A5 w8 w9 = A9 at *
      go_wp2_with fail
      refine HO9.out.mono ?_
      rintro en w10 ⟨t2, la2, lc2, A10, B10, C10, rfl, hd10, ht10, hen10, ho10, ha10, hb10, hc10, hab10, hac10, hbc10⟩
      have H10 := Lib.hid (show Still W w10 ∧ Ents w10 C4 (.slice sa m sc) es ∧ (∀ g, C4 g → ¬ A10 g ∧ ¬ B10 g ∧ g < w10.heap.size) ∧ (∀ g, A10 g → W.heap.size ≤ g) ∧ (∀ g, B10 g → W.heap.size ≤ g) from by
        obtain ⟨k1, k2, k3, k4⟩ := H9.out
        have hz := ho10.size
        have hzW := k1.size
        exact ⟨still_of k1 ho10 k4, k2.only ho10 fun g hg => (k3 g hg).1, fun g hg => ⟨fun e => (ha10 g e).elim (k3 g hg).1 fun e => by have := (k3 g hg).2; omega, fun e => by have := hb10 g e; have := (k3 g hg).2; omega, by have := (k3 g hg).2; omega⟩, fun g hg => (ha10 g hg).elim (k4 g) fun e => by omega, fun g hg => by have := hb10 g hg; omega⟩)
      have hsm := same_entries (w := w10) _ _ es hen10 H10.out.2.1 HES.out.1 (by rw [HES.out.2.2]; have := HM.out; omega)
      rw [HES.out.2.2] at hsm ⊢
      have HSE := Lib.hid hsm
      rw [HES.out.2.2] at ht10
      have HX10 := Lib.hid (And.intro hd10 (And.intro ht10 hab10))
      clear hd10 ht10 hen10 ho10 ha10 hb10 hc10 hab10 hac10 hbc10 HO9 hsm
      go_wp2_with fail
      refine HSE.out.mono ?_
      rintro en w11 ⟨rfl, hs11⟩
      have HSM := Lib.hid (some_any w11 Q (.slice ya m2 yc) m2 M ⟨ya, yc, rfl, HL.out.2.1.1, fun h => (HL.out.2.1.2.1 h).still (H10.out.1.trans hs11)⟩ HL.out.2.1.2.2 (by have := HM.out; omega))
      have HS11 := Lib.hid hs11
      clear hs11 HSE
      go_wp2_with fail
      refine HSM.out.mono ?_
      rintro en w12 ⟨sv, rfl, hen, hs12⟩
      obtain ⟨sa2, sc2, rfl⟩ := hen.form
      have hlen : (someL M).length = m2 := by rw [someL_length]; exact HL.out.2.1.1
      rw [hlen] at hen ⊢
      have hz11 := HS11.out.size
      have hz12 := hs12.size
      have hREL : LoS W A10 d t2 0 60 (layB T9 0 (streamB es) 60) (fun g => C4 g ∨ (w11.heap.size ≤ g ∧ g < w12.heap.size)) (.slice sa2 m2 sc2) (someL M) (.slice sa m sc) es es m 0 w12 :=
        ⟨⟨B10, by rw [List.take_zero, List.append_nil]; exact (HX10.out.2.1.still HS11.out).still hs12, H10.out.2.2.2.2, HX10.out.2.2, fun g hg e => hg.elim (fun hg => (H10.out.2.2.1 g hg).2.1 e) fun hg => by have := HX10.out.2.1.lt g e; omega⟩, (HX10.out.1.still HS11.out).still hs12, hen.low.mono fun g hg => .inr hg, ((H10.out.2.1.still HS11.out).still hs12).mono fun g hg => .inl hg, fun g hg => hg.elim (fun hg => by have := (H10.out.2.2.1 g hg).2.2; omega) fun hg => hg.2, (H10.out.1.trans HS11.out).trans hs12⟩
      have HFS := Lib.hid (And.intro (someL_may (L := M) (by have := HL.out.2.1.1; have := HM.out; omega)) (And.intro (someL_51 M) hlen))
      generalize someL M = fs at *
      obtain ⟨C12, hC12⟩ : ∃ C, C = (fun g => C4 g ∨ (w11.heap.size ≤ g ∧ g < w12.heap.size)) := ⟨_, rfl⟩
      rw [← hC12] at hREL
      have HC12 := Lib.hid (show ∀ g, C12 g → ¬ A10 g from by
        rw [hC12]
        exact fun g hg e => hg.elim (fun hg => (H10.out.2.2.1 g hg).1 e) fun hg => by have := HX10.out.1.lt g e; omega)
      have HREL := Lib.hid hREL
      clear hREL hen hs12 HSM hlen hC12 hz11 hz12
      go_wp2_with fail
      go_loopw [21] (fun s wr => ∃ i : Nat, s = .int .i64 i ∧ i ≤ m2 ∧ LoS W A10 d t2 0 60 (layB T9 0 (streamB es) 60) C12 (.slice sa2 m2 sc2) fs (.slice sa m sc) es es m i wr) (fun s _ => m2 - (intOf s).toNat)
      case atStart => exact ⟨0, rfl, Nat.zero_le _, HREL.out⟩
      case round =>
        clear HREL
        obtain ⟨i, rfl, him, ⟨⟨B, ht, hB, hab, hcb⟩, hd, hen, hke, hcl, hst⟩⟩ := hrel
        have HH := Lib.hid (And.intro ht (And.intro hB (And.intro hab (And.intro hcb (And.intro hd (And.intro hen (And.intro hke (And.intro hcl hst))))))))
        have u1 : IntKind.i64.wrap ((i : Int) + 1) = (i : Int) + 1 := IntWalk.i64_in _ (by have := HM.out; omega)
        by_cases hi : i < m2
        · have d1 : decide ((i : Int) < (m2 : Int)) = true := decide_eq_true (by omega)
          have d2 : decide (i < m2) = true := decide_eq_true hi
          have l0 : (0 : Int) ≤ (i : Int) := by omega
          have l1 : (i : Int) < (m2 : Int) := by omega
          obtain ⟨e, he⟩ : ∃ e, fs[i]? = some e := ⟨_, List.getElem?_eq_getElem (by rw [HFS.out.2.2]; exact hi)⟩
          obtain ⟨g, o, oa, oc, na, nc, ma, mc, ka, kc, da, dc, va, vc, hsa, -, hei, hcs⟩ := hen.at he
          subst hsa
          have hmem := List.mem_of_getElem? he
          have hlen : (es ++ fs.take i).length = m + i := by rw [List.length_append, List.length_take, HFS.out.2.2, HES.out.2.2]; omega
          have h51 : (streamB (es ++ fs.take i)).length = 51 * (m + i) := by rw [streamB_append, List.length_append, LoS.len HFS.out.2.1 (by rw [HFS.out.2.2]; exact him), stream_51 HES.out.2.1, HES.out.2.2]; omega
          have HAP := Lib.hid (ap_ok ht hei (HFS.out.1 e hmem) (by rw [h51, HFS.out.2.1 e hmem]; have := HM.out; omega) (N := (((m + i + 1 : Nat)) : Int)) (by rw [hlen]))
          have HE := Lib.hid (And.intro he hi)
          have c0 : wr.cell? ⟨g, o + i * 16, none⟩ = some (.int .i64 e.kind) := hcs 0 _ (by decide) rfl
          have c1 : wr.cell? ⟨g, o + i * 16 + 1, none⟩ = some (.int .i64 e.txn) := by rw [Nat.add_assoc]; exact hcs 1 _ (by decide) rfl
          have c2 : wr.cell? ⟨g, o + i * 16 + 2, none⟩ = some (.int .i64 e.unit) := by rw [Nat.add_assoc]; exact hcs 2 _ (by decide) rfl
          have c3 : wr.cell? ⟨g, o + i * 16 + 3, none⟩ = some (.int .i64 e.half) := by rw [Nat.add_assoc]; exact hcs 3 _ (by decide) rfl
          have c4 : wr.cell? ⟨g, o + i * 16 + 4, none⟩ = some (.int .i64 e.prev) := by rw [Nat.add_assoc]; exact hcs 4 _ (by decide) rfl
          have c5 : wr.cell? ⟨g, o + i * 16 + 5, none⟩ = some (.int .i64 e.next) := by rw [Nat.add_assoc]; exact hcs 5 _ (by decide) rfl
          have c6 : wr.cell? ⟨g, o + i * 16 + 6, none⟩ = some (.int .i64 e.ap) := by rw [Nat.add_assoc]; exact hcs 6 _ (by decide) rfl
          have c7 : wr.cell? ⟨g, o + i * 16 + 7, none⟩ = some (.int .i64 e.ac) := by rw [Nat.add_assoc]; exact hcs 7 _ (by decide) rfl
          have c8 : wr.cell? ⟨g, o + i * 16 + 8, none⟩ = some (.int .i64 e.tp) := by rw [Nat.add_assoc]; exact hcs 8 _ (by decide) rfl
          have c9 : wr.cell? ⟨g, o + i * 16 + 9, none⟩ = some (.int .i64 e.tc) := by rw [Nat.add_assoc]; exact hcs 9 _ (by decide) rfl
          have c10 : wr.cell? ⟨g, o + i * 16 + 10, none⟩ = some (.slice oa e.old.length oc) := by rw [Nat.add_assoc]; exact hcs 10 _ (by decide) rfl
          have c11 : wr.cell? ⟨g, o + i * 16 + 11, none⟩ = some (.slice na e.new.length nc) := by rw [Nat.add_assoc]; exact hcs 11 _ (by decide) rfl
          have c12 : wr.cell? ⟨g, o + i * 16 + 12, none⟩ = some (.slice ma e.moves.length mc) := by rw [Nat.add_assoc]; exact hcs 12 _ (by decide) rfl
          have c13 : wr.cell? ⟨g, o + i * 16 + 13, none⟩ = some (.slice ka e.lives.length kc) := by rw [Nat.add_assoc]; exact hcs 13 _ (by decide) rfl
          have c14 : wr.cell? ⟨g, o + i * 16 + 14, none⟩ = some (.slice da e.dirty.length dc) := by rw [Nat.add_assoc]; exact hcs 14 _ (by decide) rfl
          have c15 : wr.cell? ⟨g, o + i * 16 + 15, none⟩ = some (.slice va e.opens.length vc) := by rw [Nat.add_assoc]; exact hcs 15 _ (by decide) rfl
          unfold eV at HAP
          clear ht hB hab hcb hd hen hke hcl hst hei hcs hmem hlen h51 he him hi
          go_wp2_with fail
          refine HAP.out.mono ?_
          rintro en wx ⟨rfl, htx, hox⟩
          have HNX := Lib.hid (show LoS W A10 d t2 0 60 (layB T9 0 (streamB es) 60) C12 (.slice (some ⟨g, o, none⟩) m2 sc2) fs (.slice sa m sc) es es m (i + 1) wx from LoS.next HH.out.2.2.2.2.1 HH.out.2.2.2.2.2.1 HH.out.2.2.2.2.2.2.1 HH.out.2.2.2.2.2.2.2.1 HH.out.2.2.2.2.2.2.2.2 HH.out.2.1 HH.out.2.2.1 HH.out.2.2.2.1 HE.out.1 htx hox)
          have hi := HE.out.2
          clear htx hox HAP
          go_wp2_with fail
          go_roundw
          case rel => exact ⟨i + 1, by go_num, by omega, HNX.out⟩
          case measure => simp [intOf]; omega
        · have d1 : decide ((i : Int) < (m2 : Int)) = false := decide_eq_false (by omega)
          have d2 : decide (i < m2) = false := decide_eq_false hi
          have hte : fs.take i = fs := List.take_of_length_le (by rw [HFS.out.2.2]; omega)
          rw [hte] at ht
          clear hte
          have hfo := force_any ht hd hab (by rw [layB_length', HT9.out]; omega)
          have hmm : m = es.length := HES.out.2.2.symm
          rw [hmm, wa_more HT9.out] at hfo
          have HFO := Lib.hid hfo
          have HBX := Lib.hid (And.intro hB (And.intro hab (And.intro hcb (And.intro hen (And.intro hke (And.intro hst (And.intro hcl hd.lt)))))))
          clear ht hB hab hcb hd hen hke hcl hst him hfo hi hmm
          go_wp2_with fail
          refine HFO.out.mono ?_
          rintro en w13 ⟨rfl, -, hd13, ho13⟩
          have H13 := Lib.hid (show Still W w13 ∧ Ents w13 C12 (.slice sa2 m2 sc2) fs ∧ Ents w13 C12 (.slice sa m sc) es ∧ (∀ g, C12 g → ¬ Newer A10 wr w13 g) ∧ ∀ g, Newer A10 wr w13 g → W.heap.size ≤ g from by
            obtain ⟨hB, hab, hcb, hen, hke, hst, hcl, hdl⟩ := HBX.out
            have hz := hst.size
            have hz5 := ho13.size
            have hcx : ∀ g, C12 g → ¬ (A10 g ∨ B g) := fun g hg e => e.elim (HC12.out g hg) (hcb g hg)
            exact ⟨still_of hst ho13 fun g hg => hg.elim (H10.out.2.2.2.1 g) (hB g), hen.only ho13 hcx, hke.only ho13 hcx, fun g hg e => e.elim (HC12.out g hg) fun e => by have := hcl g hg; omega, fun g hg => hg.elim (H10.out.2.2.2.1 g) fun e => by omega⟩)
          have HO13 := Lib.hid (open_laid (at_ := 0) (n := 60) (a := 0) (k := 60) hd13 (by rw [layB_length', HT9.out]; decide) (by decide) (fun e he => (List.mem_append.1 he).elim (HES.out.1 e) (HFS.out.1 e)) (by rw [streamB_append, List.length_append, stream_51 HES.out.2.1, stream_51 HFS.out.2.1, HES.out.2.2, HFS.out.2.2]; have := HM.out; omega) rfl rfl)
          clear hd13 ho13 HFO HBX
          generalize Newer A10 wr w13 = A13 at *
          go_wp2_with fail
          refine HO13.out.mono ?_
          rintro en w14 ⟨t3, la3, lc3, A14, B14, C14, rfl, -, -, hen14, ho14, -⟩
          have hs14 := still_of H13.out.1 ho14 H13.out.2.2.2.2
          obtain ⟨v15, w15, v16, w16, hr15, hr16, hen16, hs16⟩ := both_rows w14 sa sa2 sc sc2 m m2 es fs (H13.out.2.2.1.only ho14 H13.out.2.2.2.1) (H13.out.2.1.only ho14 H13.out.2.2.2.1) HES.out.2.2 HFS.out.2.2 (by have := HM.out; omega) (by have := HM.out; omega)
          have HSE := Lib.hid (same_entries (w := w16) _ v16 (es ++ fs) (hen14.still hs16) hen16 (fun e he => (List.mem_append.1 he).elim (HES.out.1 e) (HFS.out.1 e)) (by rw [List.length_append, HES.out.2.2, HFS.out.2.2]; have := HM.out; omega))
          have HS16 := Lib.hid (hs14.trans hs16)
          have HR15 := Lib.hid (And.intro hr15 hr16)
          clear hen14 ho14 hs14 hen16 hs16 HO13 hr15 hr16
          generalize (es ++ fs).length = NN at *
          go_wp2_with (at_builtin; first
            | (refine wpList_append_given (by rfl) _ _ 22 22 rfl (.slice (some ⟨w14.heap.size, 0, none⟩) 0 0) (.slice sa m sc) rfl rfl v15 w15 HR15.out.1 ?_)
            | (refine wpList_append_given (by rfl) _ _ 22 22 rfl v15 (.slice sa2 m2 sc2) rfl rfl v16 w16 HR15.out.2 ?_))
          refine HSE.out.mono ?_
          rintro en w17 ⟨rfl, hs17⟩
          have F := Lib.hid (show BTrue W (.returned (.bool true)) w17 from ⟨rfl, HS16.out.trans hs17⟩)
          clear hs17 HSE
          go_wp2_with fail
          go_ret
          exact F.out
end Go.Proofs.YtnoepnnfnfaglaaGreat

namespace Go.Proofs.YtnoepnnfnfaglaaGreat
open Go.RowKit Go.Wh Go.ChangeShapes Go.WideShapes Go.ChangeAt

theorem wasteOwn : ownKnob Tryz.prog.godebug = none := by kernel_rfl
theorem wasteLaid : laidOutB Tryz.prog = true := by kernel_rfl

set_option maxRecDepth 100000 in
theorem trailWaste_lifted (os : Os) (started : os.Started) (H : Type) (enc : TypeId × Value → H) :
    ReturnsInHanded {} Tryz.checked os 6 .any (Rows.trailWasteSpec.pre6 enc Tryz.prog Tryz.f6 Rows.trailWasteRow.domain false) (Rows.trailWasteSpec.post enc Tryz.prog Tryz.f6 false true false false) := by
  refine returnsInHanded_of_change (C := Tryz.checked) wasteOwn started (by kernel_rfl) Tryz.func6
    (ChangeSpec.witness6 (enc := enc) (C := Tryz.checked) false ⟨#[], #[.slice none 0 0, .slice none 0 0, .slice none 0 0, .int .u8 0], []⟩ 8 (by kernel_rfl) (by kernel_rfl) (by kernel_rfl) (by kernel_rfl)) ?_
  intro W base args ds gs before hval0 hW hcnd _
  have hval : ∀ (j : Nat) t v, Tryz.f6.params[j]? = some t → args[j]? = some v → Value.okWide Tryz.prog W .any base t v := hval0
  have hW' := hW
  obtain ⟨p, q, hA0, hV, rfl, hfz, hnd⟩ := hW
  have hA : DataW.TrodAll enc Tryz.prog W 0 (fun _ => true) true Tryz.f6.params.toList args.toList ds p := hA0
  rw [Tryz.params6] at hA hval
  obtain ⟨v0, v1, v2, v3, d0, d1, d2, d3, p0, p1, p2, p3, rfl, rfl, rfl, h0, h1, h2, h3⟩ := trodAll_four hA
  obtain ⟨a0, m0, c0, z0, rfl, w0, l0⟩ := open_row Tryz.underlying23 Tryz.underlying5 (by kernel_rfl) (hval 0 23 v0 rfl rfl) h0
  obtain ⟨a1, m1, c1, z1, rfl, w1, l1⟩ := open_row Tryz.underlying23 Tryz.underlying5 (by kernel_rfl) (hval 1 23 v1 rfl rfl) h1
  obtain ⟨a2, m2, c2, z2, rfl, w2, l2⟩ := open_row Tryz.underlying23 Tryz.underlying5 (by kernel_rfl) (hval 2 23 v2 rfl rfl) h2
  obtain ⟨n3, rfl, rfl, rfl, w3⟩ := open_int Tryz.underlying5 (hval 3 5 v3 rfl rfl) h3
  have walk : Calls Tryz.prog 6 #[.slice a0 m0 c0, .slice a1 m1 c1, .slice a2 m2 c2, .int .u8 n3] W (BTrue W) := by
    exact waste_walk W (fun _ => True) a0 a1 a2 c0 c1 c2 m0 m1 m2 z0 z1 z2 n3 ⟨l0, row_sl w0, row_byt w0⟩ ⟨l1, row_sl w1, row_byt w1⟩ ⟨l2, row_sl w2, row_byt w2⟩ (byte_wf w3).1 (by have := byte_wf w3; omega)
  refine walk.mono fun e W' ⟨he, bel⟩ => ?_
  subst he
  exact ⟨_, rfl, law_post wasteLaid (t := 4) rfl Tryz.underlying4 rfl (by intro t ht; rw [show Tryz.f6.params.toList = [23, 23, 23, 5] from rfl] at ht; simp at ht; rcases ht with rfl | rfl; all_goals exact ⟨by kernel_rfl, of_decide_eq_true (by kernel_rfl)⟩) hW' rfl (Only.below bel (Nat.le_refl _) fun _ _ e => e)⟩

theorem trailWaste_holds : Rows.TrailWasteSaid :=
  OpenClaim.holds_of_wide 6 Tryz.f6 rfl rfl rfl rfl rfl rfl rfl ⟨rfl, rfl, rfl, rfl, rfl⟩ rfl rfl rfl rfl rfl (by kernel_rfl) Tryz.func6 (by kernel_rfl)
    (of_decide_eq_true (by kernel_rfl)) (by unfold Func.isWrapper; first | (rw [if_pos (by decide +kernel)]; kernel_rfl) | (rw [if_neg (by decide +kernel)]; exact ⟨rfl, rfl⟩))
    (fun os started H enc _ => trailWaste_lifted os started H enc)
#print axioms trailWaste_holds
end Go.Proofs.YtnoepnnfnfaglaaGreat

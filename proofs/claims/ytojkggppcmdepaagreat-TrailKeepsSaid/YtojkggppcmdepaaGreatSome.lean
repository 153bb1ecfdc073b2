/- The law's Some: entries by numbers. Conditions: at most 20 numbers. -/
import Derived.Test.YtojkggppcmdepaaGreatRw
import Derived.Test.YtojkggppcmdepaaGreatTrSc
namespace Go.Proofs.YtojkggppcmdepaaGreat
open Go.RowKit Go.Wh Go.Maps

/-- A text of one byte, wherever it lies. -/
theorem conv_at {w : World} {g : Nat} {x : Int} (h : w.cell? ⟨g, 0, none⟩ = some (.int .u8 x)) : (convert 23 9 (.slice (some ⟨g, 0, none⟩) 1 1)).run Tryz.prog w = .ok (.string (strOfNums [x])) w :=
  run_convert_bytes_arg _ 23 5 Tryz.underlying23 Tryz.underlying5 g 0 1 1 [x] rfl (fun i hi => by
    have : i = 0 := by omega
    subst this
    rw [Nat.zero_add, h]
    rfl) 9 Tryz.underlying9
/-- The text of one letter. -/
def keyS (z : Int) : ByteArray := strOfNums [97 + z % 20]
/-- An entry by a number. -/
def someE (i : Nat) (z : Int) : PE := ⟨1 + z % 9, z % 7, 0, 0, i, 0, z % 32, z % 4, 0, 0, [], rowB (keyS z) ⟨#[115]⟩ ⟨#[]⟩, [], [], [], []⟩
def someL (L : List Int) : List PE := L.mapIdx someE
theorem someL_length (L : List Int) : (someL L).length = L.length := List.length_mapIdx
theorem someL_take {L : List Int} {i : Nat} {z : Int} (h : L[i]? = some z) : someL (L.take (i + 1)) = someL (L.take i) ++ [someE i z] := by
  obtain ⟨hl, rfl⟩ := List.getElem?_eq_some_iff.1 h
  unfold someL
  rw [List.take_succ_eq_append_getElem hl, List.mapIdx_append, List.length_take, Nat.min_eq_left (Nat.le_of_lt hl)]
  simp
theorem txt_byt (s : ByteArray) : Byt (txt s) := fun z hz => by
  unfold txt at hz
  obtain ⟨b, -, rfl⟩ := List.mem_map.1 hz
  have := b.toNat_lt
  omega
theorem padB_byt {s : ByteArray} (h : s.size ≤ 255) (k : Nat) : Byt (padB s k) := by
  unfold padB
  refine Byt.append (fun z hz => ?_) (Byt.zeros _)
  rcases List.mem_cons.1 hz with rfl | hz
  · omega
  · exact txt_byt s z hz
theorem someE_byt (i : Nat) (z : Int) : Byt (someE i z).new := by
  show Byt (1 :: (padB (keyS z) 8 ++ padB ⟨#[115]⟩ 6 ++ padB ⟨#[]⟩ 8))
  intro u hu
  rcases List.mem_cons.1 hu with rfl | hu
  · omega
  · exact ((padB_byt (by rw [keyS, strOfNums_size]; simp) 8).append (padB_byt (by decide) 6)).append (padB_byt (by decide) 8) u hu
theorem someE_new (i : Nat) (z : Int) : (someE i z).new.length = 26 := by
  show (1 :: (padB (keyS z) 8 ++ padB ⟨#[115]⟩ 6 ++ padB ⟨#[]⟩ 8)).length = 26
  rw [List.length_cons, List.length_append, List.length_append, padB_length (by rw [keyS, strOfNums_size]; simp), padB_length (by decide), padB_length (by decide)]
/-- What Some leaves. -/
def SomePost (w : World) (es : List PE) (en : Ending) (w' : World) : Prop :=
  ∃ lv, en = .returned lv ∧ Ents w' (fun g => w.heap.size ≤ g) lv es ∧ Still w w'
/-- .. and there is room for what it holds. -/
def SomePostC (w : World) (es : List PE) (en : Ending) (w' : World) : Prop :=
  ∃ lv, en = .returned lv ∧ Ents w' (fun g => w.heap.size ≤ g) lv es ∧ Cap es.length lv ∧ Still w w'
/-- On the way. -/
def SoRel (w : World) (L : List Int) (i : Nat) (lv : Value) (wr : World) : Prop :=
  EnVec (fun g => w.heap.size ≤ g ∧ lv.ownBlock ≠ some g) wr lv (someL (L.take i)) ∧ Still w wr ∧ (∀ g, lv.ownBlock = some g → w.heap.size ≤ g ∧ g < wr.heap.size) ∧ i ≤ L.length
set_option maxHeartbeats 4000000 in
set_option maxRecDepth 100000 in
theorem some_cap (w : World) (Q : Nat → Prop) (bv : Value) (n : Nat) (L : List Int) (hb : ∃ a c, bv = .slice a n c ∧ L.length = n ∧ (0 < n → Sl w Q 1 bv n (bc L))) (hby : Byt L) (hn : n ≤ 20) :
    Calls Tryz.prog 33 #[bv] w (SomePostC w (someL L)) := by
  obtain ⟨ba, bcp, rfl, hl, hb⟩ := hb
  have H := Lib.hid (And.intro hb (And.intro hby (And.intro hn hl)))
  obtain ⟨i0, hi0, hz0, hz1, hz2⟩ := info_parts info_en
  have HI := Lib.hid (And.intro hi0 (And.intro hz0 (And.intro hz1 hz2)))
  clear hb hby hn hl hi0 hz0 hz1 hz2
  go_enter Tryz.func33, Tryz.ntmps33
  go_wp2_with fail
  go_loopw [3, 4] (fun s3 s4 wr => ∃ i : Nat, s4 = .int .i64 i ∧ SoRel w L i s3 wr) (fun _ s4 _ => n - (intOf s4).toNat)
  case atStart => exact ⟨0, rfl, EnVec.nil, Still.refl _, fun g e => (by cases e), Nat.zero_le _⟩
  case round =>
    obtain ⟨i, rfl, hev, hst, hown, hi⟩ := hrel
    have hlen : (someL (L.take i)).length = i := by rw [someL_length, List.length_take]; omega
    obtain ⟨va, vc, rfl⟩ := hev.form
    have HH := Lib.hid (And.intro hev (And.intro hst (And.intro hown hi)))
    by_cases hin : i < n
    rotate_left
    · have d1 : decide ((i : Int) < (n : Int)) = false := decide_eq_false (by omega)
      have d2 : decide (i < n) = false := decide_eq_false hin
      have F := Lib.hid (show SomePostC w (someL L) (.returned (.slice va (someL (L.take i)).length vc)) wr from by
        have e : L.take i = L := List.take_of_length_le (by have := H.out.2.2.2; omega)
        obtain ⟨vs, hv1, hv2⟩ := HH.out.1
        rw [e] at hv1 hv2
        refine ⟨_, rfl, ?_, by rw [e]; exact Vec.capOf hv2, HH.out.2.1⟩
        rw [e]
        exact EnVec.ents (P := fun g => w.heap.size ≤ g ∧ (Value.slice va (someL L).length vc).ownBlock ≠ some g) ⟨vs, by rw [← e]; rw [e]; exact (by rw [e] at *; exact hv1), hv2⟩ (fun g hg => hg.1) fun g hg => HH.out.2.2.1 g (by rw [e]; exact hg))
      clear hev hst hown hi
      go_wp2_with fail
      go_ret
      exact F.out
    · have d1 : decide ((i : Int) < (n : Int)) = true := decide_eq_true (by omega)
      have d2 : decide (i < n) = true := decide_eq_true hin
      obtain ⟨z, hz⟩ : ∃ z, L[i]? = some z := ⟨_, List.getElem?_eq_getElem (by have := H.out.2.2.2; omega)⟩
      have hzb := H.out.2.1 z (List.mem_of_getElem? hz)
      obtain ⟨g, o, c, he, -, -, hcs⟩ := (H.out.1 (by omega)).pos (by omega)
      cases he
      have hcw : w.cell? ⟨g, o + i, none⟩ = some (.int .u8 z) := hcs i _ (bc_get hz)
      have hc1 := Still.cell hst hcw
      have l0 : (0 : Int) ≤ (i : Int) := by omega
      have l1 : (i : Int) < (n : Int) := by omega
      obtain ⟨zn, rfl⟩ : ∃ zn : Nat, z = (zn : Int) := ⟨z.toNat, by omega⟩
      have HZ := Lib.hid (And.intro hz hzb)
      clear hz hzb hcs hev hst hown hi
      have q1 : (convert 23 9 (.slice (some ⟨wr.heap.size, 0, none⟩) 1 1)).run Tryz.prog (wr.alloc (.cells #[.int .u8 (97 + (zn : Int) % 20)] 5)) = .ok (.string (keyS zn)) (wr.alloc (.cells #[.int .u8 (97 + (zn : Int) % 20)] 5)) :=
        conv_at ((cellsAt_new wr [.int .u8 (97 + (zn : Int) % 20)] 5).cell 0)
      have HR := Lib.hid (fun w' => row_any w' (keyS zn) ⟨#[115]⟩ ⟨#[]⟩ 1 1 0 rfl rfl rfl (by decide) (by decide) (by decide) (by decide))
      have HCW := Lib.hid (fun w' (hs : Still w w') => Still.cell hs hcw)
      have HC7 := Lib.hid (fun (W : World) (v' : Value) (w' : World) (ho : Only (fun k => (Value.slice va i vc).ownBlock = some k) W w') (hs : Still w W) => show w'.cell? ⟨g, o + i, none⟩ = some (.int .u8 (zn : Int)) from
        (ho.cell (Nat.lt_of_lt_of_le (World.block_lt_of_cell? _ _ hcw) hs.size) (fun e => by rw [← hlen] at e; have h1 := (HH.out.2.2.1 _ e).1; have h2 := World.block_lt_of_cell? _ _ hcw; simp only at h1 h2; omega)).trans (Still.cell hs hcw))
      clear hcw
      go_wp2_with (go_at_call 53; (refine (HR.out _).mono ?_); rintro e w2 ⟨v2, rfl, hv2, hb2, hg2⟩; have hs2 : Still w w2 := (HH.out.2.1.alloc _).trans (Still.of hb2); have HS2 := Lib.hid hs2; have HSR := Lib.hid (show Still wr w2 from ((Still.refl wr).alloc _).trans (Still.of hb2)); have hc2 := HCW.out _ hs2; have HV2 := Lib.hid (And.intro hv2 hg2); have hvf := hv2.form'; clear hv2 hb2 hg2 hs2)
      obtain ⟨na, nc, rfl⟩ := hvf
      obtain ⟨vs, hvs, hvv⟩ := HH.out.1
      have HVS := Lib.hid hvs
      have hw2 : Still wr w2 := HSR.out
      have HVV := Lib.hid (show Vec w2 16 (.slice va i vc) i vs.flatten from by
        have := hvv.only hw2 fun _ _ e => e
        rw [hlen] at this
        exact this)
      have HW2 := Lib.hid hw2
      have w0 : IntKind.i64.wrap (zn : Int) = (zn : Int) := IntWalk.i64_in _ (by have := HZ.out.2; omega)
      have t9 : IntKind.i64.wrap (1 + (IntKind.i64.wrap (zn : Int)).tmod 9) = 1 + (zn : Int) % 9 := by rw [w0, Int.tmod_eq_emod_of_nonneg (by omega)]; exact IntWalk.i64_in _ (by omega)
      have t7 : (IntKind.i64.wrap (zn : Int)).tmod 7 = (zn : Int) % 7 := by rw [w0, Int.tmod_eq_emod_of_nonneg (by omega)]
      have t32 : (IntKind.i64.wrap (zn : Int)).tmod 32 = (zn : Int) % 32 := by rw [w0, Int.tmod_eq_emod_of_nonneg (by omega)]
      have t4 : (IntKind.i64.wrap (zn : Int)).tmod 4 = (zn : Int) % 4 := by rw [w0, Int.tmod_eq_emod_of_nonneg (by omega)]
      have HRD := Lib.hid (show Reads (w2.alloc (.cells #[.int .i64 (IntKind.i64.wrap (1 + (IntKind.i64.wrap (zn : Int)).tmod 9)), .int .i64 ((IntKind.i64.wrap (zn : Int)).tmod 7), .int .i64 0, .int .i64 0, .int .i64 (i : Int), .int .i64 0, .int .i64 ((IntKind.i64.wrap (zn : Int)).tmod 32), .int .i64 ((IntKind.i64.wrap (zn : Int)).tmod 4), .int .i64 0, .int .i64 0, .slice none 0 0, .slice na 26 nc, .slice none 0 0, .slice none 0 0, .slice none 0 0, .slice none 0 0] 34)).drew 16 (.slice (some ⟨w2.heap.size, 0, none⟩) 1 1) 1 [.int .i64 (1 + (zn : Int) % 9), .int .i64 ((zn : Int) % 7), .int .i64 0, .int .i64 0, .int .i64 (i : Int), .int .i64 0, .int .i64 ((zn : Int) % 32), .int .i64 ((zn : Int) % 4), .int .i64 0, .int .i64 0, .slice none 0 0, .slice na 26 nc, .slice none 0 0, .slice none 0 0, .slice none 0 0, .slice none 0 0] from by
        have h0 : Reads (w2.alloc (.cells #[.int .i64 (IntKind.i64.wrap (1 + (IntKind.i64.wrap (zn : Int)).tmod 9)), .int .i64 ((IntKind.i64.wrap (zn : Int)).tmod 7), .int .i64 0, .int .i64 0, .int .i64 (i : Int), .int .i64 0, .int .i64 ((IntKind.i64.wrap (zn : Int)).tmod 32), .int .i64 ((IntKind.i64.wrap (zn : Int)).tmod 4), .int .i64 0, .int .i64 0, .slice none 0 0, .slice na 26 nc, .slice none 0 0, .slice none 0 0, .slice none 0 0, .slice none 0 0] 34)).drew 16 (.slice (some ⟨w2.heap.size, 0, none⟩) 1 1) 1 [.int .i64 (IntKind.i64.wrap (1 + (IntKind.i64.wrap (zn : Int)).tmod 9)), .int .i64 ((IntKind.i64.wrap (zn : Int)).tmod 7), .int .i64 0, .int .i64 0, .int .i64 (i : Int), .int .i64 0, .int .i64 ((IntKind.i64.wrap (zn : Int)).tmod 32), .int .i64 ((IntKind.i64.wrap (zn : Int)).tmod 4), .int .i64 0, .int .i64 0, .slice none 0 0, .slice na 26 nc, .slice none 0 0, .slice none 0 0, .slice none 0 0, .slice none 0 0] := (cellsAt_new w2 [.int .i64 (IntKind.i64.wrap (1 + (IntKind.i64.wrap (zn : Int)).tmod 9)), .int .i64 ((IntKind.i64.wrap (zn : Int)).tmod 7), .int .i64 0, .int .i64 0, .int .i64 (i : Int), .int .i64 0, .int .i64 ((IntKind.i64.wrap (zn : Int)).tmod 32), .int .i64 ((IntKind.i64.wrap (zn : Int)).tmod 4), .int .i64 0, .int .i64 0, .slice none 0 0, .slice na 26 nc, .slice none 0 0, .slice none 0 0, .slice none 0 0, .slice none 0 0] 34).drew.reads rfl
        simpa only [t9, t7, t32, t4] using h0)
      clear w0 t9 t7 t32 t4
      have u9 : IntKind.i64.wrap ((i : Int) + 1) = (i : Int) + 1 := IntWalk.i64_in _ (by have := H.out.2.2.1; omega)
      have HC3 := Lib.hid (fun ob => HCW.out _ (HS2.out.alloc ob).drew)
      clear hvs hvv hw2 hlen
      go_region_held3 (fun w' => w'.cell? ⟨g, o + i, none⟩ = some (.int .u8 zn)) (first | exact hc2 | exact HC3.out _ | assumption)
        (first | (refine step_append_vec rfl _ _ 22 rfl 34 i0 _ 16 224 Tryz.underlying22 HI.out.1 HI.out.2.1 HI.out.2.2.1 HI.out.2.2.2 rfl (by decide) (.slice va i vc) i vs.flatten (by simp [Act.eval]) (HVV.out.alloc _).drew (.slice (some ⟨w2.heap.size, 0, none⟩) 1 1) 1 [.int .i64 (1 + (zn : Int) % 9), .int .i64 ((zn : Int) % 7), .int .i64 0, .int .i64 0, .int .i64 (i : Int), .int .i64 0, .int .i64 ((zn : Int) % 32), .int .i64 ((zn : Int) % 4), .int .i64 0, .int .i64 0, .slice none 0 0, .slice na 26 nc, .slice none 0 0, .slice none 0 0, .slice none 0 0, .slice none 0 0] (by simp [Act.eval]) HRD.out (by intro u hu; simp only [List.mem_cons, List.not_mem_nil, or_false] at hu; rcases hu with rfl | rfl | rfl | rfl | rfl | rfl | rfl | rfl | rfl | rfl | rfl | rfl | rfl | rfl | rfl | rfl <;> rfl) (by have := H.out.2.2.1; simp only [maxLen]; omega) (by have := H.out.2.2.1; omega) ?_; intro v7 w7 hv7 ho7 hb7; have hc7 := HC7.out _ v7 w7 ho7 (HS2.out.alloc _).drew; have HV7 := Lib.hid (And.intro hv7 (And.intro ho7 hb7)); clear hv7 ho7 hb7))
      have HN := Lib.hid (show SoRel w L (i + 1) v7 w7 from by
        obtain ⟨hv7, ho7, hb7⟩ := HV7.out
        have hw2 := HW2.out
        have hlen : (someL (L.take i)).length = i := by rw [someL_length, List.length_take]; have := HH.out.2.2.2; omega
        have hz := HH.out.2.1.size
        have hzw := hw2.size
        have hs3 : ∀ ob, Still w2 (w2.alloc ob).drew := fun ob => ((Still.refl w2).alloc ob).drew
        have hown := HH.out.2.2.1
        have hil : i < L.length := by have := H.out.2.2.2; omega
        have hn26 := someE_new i zn
        rw [← hlen] at hb7 ho7
        have hv7' : Vec w7 16 v7 ((someL (L.take i)).length + 1) (vs.flatten ++ (eV (someE i zn) (.slice none 0 0) (.slice na 26 nc) (.slice none 0 0) (.slice none 0 0) (.slice none 0 0) (.slice none 0 0)).toList) := by
          rw [hlen]
          exact hv7
        have he : EIs w2 (fun g => w.heap.size ≤ g ∧ (Value.slice va (someL (L.take i)).length vc).ownBlock ≠ some g) (someE i zn) (.slice none 0 0) (.slice na 26 nc) (.slice none 0 0) (.slice none 0 0) (.slice none 0 0) (.slice none 0 0) := by
          refine ⟨Sl.nil, ?_, Sl.nil, Sl.nil, Sl.nil, OpSl.nil, (fun z hz => by cases hz), someE_byt i zn⟩
          rw [hn26]
          exact Vec.sl HV2.out.1 fun g hg => ⟨⟨by have := HV2.out.2 g hg; have h8 : (wr.alloc (.cells #[.int .u8 (97 + (zn : Int) % 20)] 5)).heap.size = wr.heap.size + 1 := (by simp); omega, fun e => by have := HV2.out.2 g hg; have h8 : (wr.alloc (.cells #[.int .u8 (97 + (zn : Int) % 20)] 5)).heap.size = wr.heap.size + 1 := (by simp); have := (hown g e).2; omega⟩, (HV2.out.2 g hg).2⟩
        refine ⟨?_, (HS2.out.trans (hs3 _)).andThen ho7 fun i hi e => by have := (hown i e).1; omega, fun g hg => ?_, hil⟩
        · rw [someL_take HZ.out.1]
          exact EnVec.push (HVS.out.only (hw2.trans (hs3 _)) fun _ _ e => e) (he.still (hs3 _)) hv7' ho7 hb7
        · have h8 : w2.heap.size ≤ w7.heap.size := Nat.le_trans (hs3 _).size ho7.size
          rcases hb7 with e' | ⟨g', e', e1, e2⟩
          · rw [e'] at hg
            have := hown g hg
            omega
          · rw [e'] at hg
            injection hg with hg
            have h9 : w2.heap.size ≤ g' := Nat.le_trans (hs3 _).size e1
            omega)
      clear HV7 HV2 HVS HVV HS2 HSR HW2 HC3 HC7 HRD HCW HR hc7
      go_wp2_with fail
      go_roundw
      case rel => exact ⟨i + 1, by go_num, HN.out⟩
      case measure => simp [intOf]; have := H.out.2.2.2; omega
theorem some_any (w : World) (Q : Nat → Prop) (bv : Value) (n : Nat) (L : List Int) (hb : ∃ a c, bv = .slice a n c ∧ L.length = n ∧ (0 < n → Sl w Q 1 bv n (bc L))) (hby : Byt L) (hn : n ≤ 20) :
    Calls Tryz.prog 33 #[bv] w (SomePost w (someL L)) :=
  (some_cap w Q bv n L hb hby hn).mono fun e w' h => by
    obtain ⟨lv, h1, h2, -, h3⟩ := h
    exact ⟨lv, h1, h2, h3⟩
end Go.Proofs.YtojkggppcmdepaaGreat

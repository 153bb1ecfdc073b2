/- Package twin's Split. Conditions: texts of at most two thousand bytes. -/
import Derived.Test.YtbpllldmeeokgaaDoorTwinB
namespace Go.Proofs.YtbpllldmeeokgaaDoor
open Go.RowKit
open Go.Lib hiding intOf

theorem ix_any (x : ByteArray) (i : Int) (w : World) (h : indexByte x.data.toList 0 = i) : Calls Tryd.prog 13 #[.string x, .int .u8 0] w fun e w' => e = .returned (.int .i64 i) ∧ w = w' := by
  refine (tw_strings_IndexByte x 0 w).mono ?_
  rintro e w' ⟨rfl, rfl⟩
  exact ⟨by rw [← h]; rfl, rfl⟩
theorem hp_any (x p : ByteArray) (b : Bool) (w : World) (h : hasPrefix x.data.toList p.data.toList = b) : Calls Tryd.prog 15 #[.string x, .string p] w fun e w' => e = .returned (.bool b) ∧ w = w' := by
  refine (tw_strings_HasPrefix x p w).mono ?_
  rintro e w' ⟨rfl, rfl⟩
  exact ⟨by rw [h], rfl⟩

theorem ib_zero : ∀ (l : List UInt8), (indexByte l 0 = -1 ∧ ∀ b ∈ l, b ≠ 0) ∨ ∃ i r, indexByte l 0 = (i : Nat) ∧ i < l.length ∧ l.drop i = 0 :: r ∧ ∀ b ∈ l.take i, b ≠ 0
  | [] => .inl ⟨rfl, fun _ h => by cases h⟩
  | x :: l => by
    by_cases hx : x = 0
    · subst hx
      exact .inr ⟨0, l, rfl, by simp, rfl, by simp⟩
    · have hp : (x == (0 : UInt8)) = false := by simpa using hx
      unfold indexByte
      rw [hp]
      rcases ib_zero l with ⟨h1, h2⟩ | ⟨i, r, h1, h2, h3, h4⟩
      · refine .inl ⟨by rw [h1]; rfl, fun b hb => ?_⟩
        rcases List.mem_cons.1 hb with rfl | hb
        · exact hx
        · exact h2 b hb
      · refine .inr ⟨i + 1, r, ?_, by simp; omega, by simpa using h3, fun b hb => ?_⟩
        · have : ¬ (indexByte l 0 == -1) = true := fun e => by have := beq_iff_eq.1 e; omega
          rw [if_neg (by simp), if_neg this, h1]
          rfl
        · rw [List.take_succ_cons] at hb
          rcases List.mem_cons.1 hb with rfl | hb
          · exact hx
          · exact h4 b hb

structure TS (s : ByteArray) (W : World) (x : ByteArray) (acc : List UInt8) (wr : World) : Prop where
  spl_ : spl [] s.data.toList = spl acc x.data.toList
  small : acc.length + x.size ≤ s.size
  is : IsBuilder 34 5 W.heap.size W.heap.size (byteCells acc) wr
  below : Below W.heap.size W wr

theorem TS.start (s : ByteArray) (W : World) : TS s W s [] (W.alloc (.cells #[.pointer none, .slice none 0 0] 34)) :=
  ⟨rfl, by simp, .inl ⟨Nat.le_refl _, .slice none 0 0, heap_alloc_new W _, World.ownsRow_nil _ _ _ _, by intro h; cases h⟩, (Below.refl _ _).alloc (Nat.le_refl _) _⟩

def strSize : Value → Nat
  | .string s => s.size
  | _ => 0

/-- Behind the writing of what stands ahead of the nought. -/
structure TM (s : ByteArray) (W : World) (y : ByteArray) (acc r : List UInt8) (wr : World) : Prop where
  list : y.data.toList = 0 :: r
  ts : TS s W y acc wr

theorem TS.chunk {s : ByteArray} {W : World} {x : ByteArray} {acc r : List UInt8} {wr w1 : World} {i : Nat} (h : TS s W x acc wr) (hi : i < x.data.toList.length) (hd : x.data.toList.drop i = 0 :: r) (hf : ∀ b ∈ x.data.toList.take i, b ≠ 0)
    (hb : BuilderAt 34 5 W.heap.size W.heap.size (.pointer (some ⟨W.heap.size, 0, none⟩)) (byteCells acc ++ strCells (x.extract 0 i)) w1) (hbe : Below W.heap.size wr w1) : TM s W (x.extract i x.size) (acc ++ x.data.toList.take i) r w1 := by
  have e1 : (x.extract i x.size).data.toList = x.data.toList.drop i := by
    rw [extract_list, List.take_of_length_le (by rw [List.length_drop, size_list]; omega)]
  refine ⟨by rw [e1, hd], ?_, ?_, .inr ?_, h.below.trans hbe⟩
  · rw [e1, h.spl_]
    have := spl_free (x.data.toList.take i) acc (x.data.toList.drop i) hf
    rw [List.take_append_drop] at this
    exact this
  · have h1 := h.small
    rw [size_list] at hi
    rw [← size_list (x.extract i x.size), e1, List.length_append, List.length_take, List.length_drop, size_list]
    omega
  · rw [byteCells_append]
    rw [strCells_eq, extract_list] at hb
    simpa using hb

theorem TM.end_ {s : ByteArray} {W : World} {y : ByteArray} {acc r : List UInt8} {wr : World} (h : TM s W y acc r wr) {c : UInt8} {r' : List UInt8} (hr : r = c :: r') (hc : c = 1) : spl [] s.data.toList = some ((⟨acc.toArray⟩ : ByteArray).data.toList, (y.extract 2 y.size).data.toList) := by
  have e1 : (y.extract 2 y.size).data.toList = r' := by
    rw [extract_list, h.list, hr, List.take_of_length_le (by rw [← size_list, h.list, hr]; simp)]
    rfl
  rw [h.ts.spl_, h.list, hr, hc, e1]
  simp [spl]
theorem TM.bad {s : ByteArray} {W : World} {y : ByteArray} {acc r : List UInt8} {wr : World} (h : TM s W y acc r wr) (hr : ∀ c r', r = c :: r' → c ≠ 1 ∧ c ≠ 255) : spl [] s.data.toList = none := by
  rw [h.ts.spl_, h.list]
  cases r with
  | nil => rfl
  | cons c r' =>
    obtain ⟨h1, h2⟩ := hr c r' rfl
    simp [spl, h1, h2]
theorem TM.next {s : ByteArray} {W : World} {y : ByteArray} {acc r : List UInt8} {wr w1 : World} (h : TM s W y acc r wr) {c : UInt8} {r' : List UInt8} (hr : r = c :: r') (hc : c = 255)
    (hb : BuilderAt 34 5 W.heap.size W.heap.size (.pointer (some ⟨W.heap.size, 0, none⟩)) (byteCells acc ++ [.int .u8 0]) w1) (hbe : Below W.heap.size wr w1) : TS s W (y.extract 2 y.size) (acc ++ [0]) w1 := by
  have hl := congrArg List.length h.list
  rw [size_list, hr] at hl
  simp at hl
  have e1 : (y.extract 2 y.size).data.toList = r' := by
    rw [extract_list, h.list, hr, List.take_of_length_le (by simp; omega)]
    rfl
  refine ⟨?_, ?_, .inr ?_, h.ts.below.trans hbe⟩
  · rw [h.ts.spl_, h.list, hr, hc, e1]
    simp [spl]
  · have := h.ts.small
    rw [← size_list (y.extract 2 y.size), e1, List.length_append]
    simp
    omega
  · rw [byteCells_append]
    exact hb
theorem TM.two {s : ByteArray} {W : World} {y : ByteArray} {acc r : List UInt8} {wr : World} (h : TM s W y acc r wr) {c : UInt8} {r' : List UInt8} (hr : r = c :: r') : 2 ≤ y.size := by
  have hl := congrArg List.length h.list
  rw [size_list, hr] at hl
  simp at hl
  omega

set_option maxRecDepth 100000 in
set_option maxHeartbeats 1000000 in
theorem split_any (s : ByteArray) (w : World) (hs : s.size ≤ 2000) :
    Calls Tryd.prog 8 #[.string s] w (SplitPost s w) := by
  have H0 := Lib.hid (TS.start s w)
  go_enter Tryd.func8, Tryd.ntmps8
  go_wp2_with fail
  go_loopw [0] (fun u wr => ∃ (x : ByteArray) (acc : List UInt8), u = .string x ∧ x.size ≤ s.size ∧ TS s w x acc wr) (fun u _ => strSize u)
  case atStart => exact ⟨s, [], rfl, Nat.le_refl _, H0.out⟩
  case round =>
    clear H0
    obtain ⟨x, acc, rfl, hx, hr⟩ := hrel
    have HR := Lib.hid hr
    clear hr
    rcases ib_zero x.data.toList with ⟨h1, h2⟩ | ⟨i, r, h1, h2, h3, h4⟩
    · have C := Lib.hid (ix_any x _ wr h1)
      have F := Lib.hid (show SplitPost s w (.returned (.tuple #[.string ⟨#[]⟩, .string ⟨#[]⟩, .bool false])) wr from ⟨.no (by rw [HR.out.spl_, spl_end _ _ h2]), HR.out.below⟩)
      clear h1 h2 HR
      go_wp2_with fail
      refine C.out.mono ?_
      clear C
      rintro e w' ⟨rfl, rfl⟩
      go_wp2_with fail
      go_ret3
      exact F.out
    · have C := Lib.hid (ix_any x _ wr h1)
      have hix : i < x.size := by rw [size_list] at h2; exact h2
      have hacc := HR.out.small
      have C2 := Lib.hid (tw_WriteString w.heap.size w.heap.size (byteCells acc) (x.extract 0 i) wr HR.out.is (by
        have e1 : (byteCells acc).length = acc.length := by simp [byteCells]
        have e2 : (x.extract 0 i).size ≤ x.size := by
          rw [← size_list, extract_list, List.length_take, List.length_drop, size_list]
          omega
        rw [e1]
        omega) HR.out.below.size)
      have HH := Lib.hid (fun w1 hb hbe => HR.out.chunk (w1 := w1) h2 h3 h4 hb hbe)
      have hxs : x.size ≤ 2000 := by omega
      clear h1 h2 h3 h4 HR hacc
      go_wp2_with fail
      refine C.out.mono ?_
      clear C
      rintro e w' ⟨rfl, rfl⟩
      go_wp2_with fail
      refine C2.out.mono ?_
      clear C2
      rintro e w1 ⟨rfl, hb, hbe⟩
      have HM := Lib.hid (HH.out w1 hb hbe)
      clear hb hbe HH
      have hys : (x.extract i x.size).size ≤ x.size := by
        rw [← size_list, extract_list, List.length_take, List.length_drop, size_list]
        omega
      go_wp2_with fail
      generalize x.extract i x.size = y at *
      have hpre : ∀ p : List UInt8, hasPrefix y.data.toList p = p.isPrefixOf (0 :: r) := fun p => by unfold hasPrefix; rw [HM.out.list]
      have HP := Lib.hid hpre
      have hacc2 := HM.out.ts.small
      have HL := Lib.hid (show (byteCells acc).length = acc.length by simp [byteCells])
      clear hpre
      by_cases hr1 : ∃ r', r = 1 :: r'
      · obtain ⟨r', hr1⟩ := hr1
        have hy2 := HM.out.two hr1
        have C1 := Lib.hid (hp_any y ⟨#[0, 1]⟩ true w1 (by rw [HP.out, hr1]; rfl))
        have HF := Lib.hid (fun wz (hb : Below w.heap.size w wz) => show SplitPost s w (.returned (.tuple #[.string ⟨(acc ++ x.data.toList.take i).toArray⟩, .string (y.extract 2 y.size), .bool true])) wz from ⟨.yes _ _ (HM.out.end_ hr1 rfl), hb⟩)
        have HB := Lib.hid (HM.out.ts.below)
        have HST := Lib.hid (fun n => tw_Builder_String_any w.heap.size w.heap.size (acc ++ x.data.toList.take i) (w1.drewN n) (by
          rcases HM.out.ts.is with h | h
          · exact .inl h
          · exact .inr h) HM.out.ts.below.size)
        clear hr1 HP HM hacc2
        refine C1.out.mono ?_
        clear C1
        rintro e w' ⟨rfl, rfl⟩
        go_wp2_with fail
        have a1 : (2 : Int) ≤ (y.size : Int) := by omega
        go_region_held3 (fun _ => True) (trivial) (first | (go_at_call 16; refine (HST.out 1).mono ?_; rintro e w5 ⟨rfl, hb5⟩))
        have F := Lib.hid (HF.out w5 ((below_drewN HB.out 1).trans hb5))
        clear hb5 HF HST HB a1
        go_wp2_with fail
        go_ret3
        exact F.out
      · have C1 := Lib.hid (hp_any y ⟨#[0, 1]⟩ false w1 (by
          rw [HP.out]
          cases r with
          | nil => rfl
          | cons c r' =>
            have hc : ¬ c = 1 := fun e => hr1 ⟨r', by rw [e]⟩
            have hc2 : ((1 : UInt8) == c) = false := by simpa using fun e => hc e.symm
            show (0 == 0 && (1 == c && _)) = false
            rw [hc2]
            rfl))
        refine C1.out.mono ?_
        clear C1
        rintro e w' ⟨rfl, rfl⟩
        by_cases hr2 : ∃ r', r = 255 :: r'
        · obtain ⟨r', hr2⟩ := hr2
          have hy2 := HM.out.two hr2
          have C1 := Lib.hid (hp_any y ⟨#[0, 255]⟩ true w1 (by rw [HP.out, hr2]; rfl))
          have C2 := Lib.hid (tw_WriteByte w.heap.size w.heap.size (byteCells (acc ++ x.data.toList.take i)) 0 w1 HM.out.ts.is (by
            have e1 : (byteCells (acc ++ x.data.toList.take i)).length = (acc ++ x.data.toList.take i).length := by simp [byteCells]
            have := HM.out.ts.small
            omega) HM.out.ts.below.size)
          have HH := Lib.hid (fun w5 hb hbe => HM.out.next (w1 := w5) hr2 rfl hb hbe)
          have HSZ := Lib.hid (show (y.extract 2 y.size).size + 2 ≤ x.size by
            rw [← size_list, extract_list, List.length_take, List.length_drop, size_list]
            omega)
          clear hr1 hr2 HP HM hacc2
          go_wp2_with fail
          refine C1.out.mono ?_
          clear C1
          rintro e w' ⟨rfl, rfl⟩
          go_wp2_with fail
          refine C2.out.mono ?_
          clear C2
          rintro e w5 ⟨rfl, hb, hbe⟩
          have HN := Lib.hid (HH.out w5 hb hbe)
          clear hb hbe HH
          go_wp2_with fail
          go_roundw
          case rel => exact ⟨_, _, rfl, by have := HSZ.out; omega, HN.out⟩
          case measure =>
            have := HSZ.out
            show (y.extract 2 y.size).size < x.size
            omega
        · have C1 := Lib.hid (hp_any y ⟨#[0, 255]⟩ false w1 (by
            rw [HP.out]
            cases r with
            | nil => rfl
            | cons c r' =>
              have hc : ¬ c = 255 := fun e => hr2 ⟨r', by rw [e]⟩
              have hc2 : ((255 : UInt8) == c) = false := by simpa using fun e => hc e.symm
              show (0 == 0 && (255 == c && _)) = false
              rw [hc2]
              rfl))
          have F := Lib.hid (show SplitPost s w (.returned (.tuple #[.string ⟨#[]⟩, .string ⟨#[]⟩, .bool false])) w1 from ⟨.no (HM.out.bad (fun c r' e => ⟨fun h => hr1 ⟨r', by rw [e, h]⟩, fun h => hr2 ⟨r', by rw [e, h]⟩⟩)), HM.out.ts.below⟩)
          clear hr1 hr2 HP HM hacc2
          go_wp2_with fail
          refine C1.out.mono ?_
          clear C1
          rintro e w' ⟨rfl, rfl⟩
          go_wp2_with fail
          go_ret3
          exact F.out
end Go.Proofs.YtbpllldmeeokgaaDoor

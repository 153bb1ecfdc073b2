/- The contracts in one form; the laws' own begun; TwinAll. Conditions: the library's variable holds a number. -/
import Derived.Test.YtbpllldmeeokgaaDoorTwinC
import Derived.Below
namespace Go.Proofs.YtbpllldmeeokgaaDoor
open Go.RowKit
open Go.Lib hiding intOf

theorem ba_ext {a b : ByteArray} (h : a.data.toList = b.data.toList) : a = b := by
  cases a; cases b
  simp only at h
  congr
  exact Array.toList_inj.1 h
def jB (s k : ByteArray) : ByteArray := ⟨(joinL s.data.toList k.data.toList).toArray⟩
def spT (s : ByteArray) : ByteArray × ByteArray × Bool := match spl [] s.data.toList with
  | none => (⟨#[]⟩, ⟨#[]⟩, false)
  | some (a, b) => (⟨a.toArray⟩, ⟨b.toArray⟩, true)
theorem spT_join (a b : ByteArray) : spT (jB a b) = (a, b, true) := by
  unfold spT jB
  rw [spl_join]
  rfl

/-- The library's variable holds a number. -/
def HasM (w : World) : Prop := ∃ m, w.cell? ⟨0, 0, none⟩ = some (.int .i64 m)
theorem HasM.below {w w' : World} (h : HasM w) (hb : Below w.heap.size w w') : HasM w' := by
  obtain ⟨m, hm⟩ := h
  exact ⟨m, (hb.cell (p := ⟨0, 0, none⟩) (World.block_lt_of_cell? _ _ hm)).trans hm⟩

def StrPost (t : ByteArray) (w : World) (e : Ending) (w' : World) : Prop := e = .returned (.string t) ∧ Below w.heap.size w w' ∧ HasM w'
theorem join_of (s k t : ByteArray) (w : World) (hm : HasM w) (hs : s.size ≤ 1000) (hk : k.size ≤ 1000) (ht : jB s k = t) : Calls Tryd.prog 10 #[.string s, .string k] w (StrPost t w) := by
  obtain ⟨m, h⟩ := id hm
  refine (join_any s k m w h hs hk).mono ?_
  rintro e w' ⟨t', rfl, h1, hb⟩
  exact ⟨by rw [← ht, ba_ext (b := jB s k) h1], hb, hm.below hb⟩
theorem front_of (s t : ByteArray) (w : World) (hm : HasM w) (hs : s.size ≤ 1000) (ht : jB s ⟨#[]⟩ = t) : Calls Tryd.prog 12 #[.string s] w (StrPost t w) := by
  obtain ⟨m, h⟩ := id hm
  refine (front_any s m w h hs).mono ?_
  rintro e w' ⟨t', rfl, h1, hb⟩
  exact ⟨by rw [← ht, ba_ext (b := jB s ⟨#[]⟩) h1], hb, hm.below hb⟩
theorem rjoin_of (s k t : ByteArray) (w : World) (hs : s.size ≤ 1000) (hk : k.size ≤ 1000) (ht : jB s k = t) : Calls Tryd.prog 11 #[.string s, .string k] w fun e w' => e = .returned (.string t) ∧ w = w' := by
  refine (rjoin_any s k w hs hk).mono ?_
  rintro e w' ⟨t', rfl, h1, rfl⟩
  exact ⟨by rw [← ht, ba_ext (b := jB s k) h1], rfl⟩
theorem splitEnd_eq {s : ByteArray} {e : Ending} (h : SplitEnd s e) {x y : ByteArray} {b : Bool} (hx : spT s = (x, y, b)) : e = .returned (.tuple #[.string x, .string y, .bool b]) := by
  unfold spT at hx
  cases h with
  | no h =>
    rw [h] at hx
    simp only [Prod.mk.injEq] at hx
    obtain ⟨rfl, rfl, rfl⟩ := hx
    rfl
  | yes x' y' h =>
    rw [h] at hx
    simp only [Prod.mk.injEq] at hx
    obtain ⟨rfl, rfl, rfl⟩ := hx
    rfl
def TriPost (x y : ByteArray) (b : Bool) (w : World) (e : Ending) (w' : World) : Prop := e = .returned (.tuple #[.string x, .string y, .bool b]) ∧ Below w.heap.size w w' ∧ HasM w'
theorem split_of (s x y : ByteArray) (b : Bool) (w : World) (hm : HasM w) (hs : s.size ≤ 2000) (hx : spT s = (x, y, b)) : Calls Tryd.prog 8 #[.string s] w (TriPost x y b w) := by
  refine (split_any s w hs).mono ?_
  rintro e w' ⟨h, hb⟩
  exact ⟨splitEnd_eq h hx, hb, hm.below hb⟩
theorem rsplit_of (s x y : ByteArray) (b : Bool) (w : World) (hm : HasM w) (hs : s.size ≤ 2000) (hx : spT s = (x, y, b)) : Calls Tryd.prog 9 #[.string s] w (TriPost x y b w) := by
  refine (rsplit_any s w hs).mono ?_
  rintro e w' ⟨h, hb⟩
  exact ⟨splitEnd_eq h hx, hb, hm.below hb⟩

def TruePost (w : World) (e : Ending) (w' : World) : Prop := e = .returned (.bool true) ∧ Below w.heap.size w w' ∧ HasM w'

theorem bg1 : jB ⟨#[115]⟩ ⟨#[107]⟩ = ⟨#[115, 0, 1, 107]⟩ := by decide +kernel
theorem bg2 : jB ⟨#[115]⟩ ⟨#[]⟩ = ⟨#[115, 0, 1]⟩ := by decide +kernel
theorem bg3 : spT ⟨#[115, 0, 1, 107]⟩ = (⟨#[115]⟩, ⟨#[107]⟩, true) := by decide +kernel
theorem bg4 : spT ⟨#[]⟩ = (⟨#[]⟩, ⟨#[]⟩, false) := by decide +kernel

set_option maxRecDepth 100000 in
set_option maxHeartbeats 1000000 in
theorem begun_any (w : World) (hm : HasM w) : Calls Tryd.prog 7 #[] w (TruePost w) := by
  have C1 := Lib.hid (join_of _ _ _ w hm (by decide) (by decide) bg1)
  clear hm
  go_enter Tryd.func7, Tryd.ntmps7
  go_wp2_with fail
  refine C1.out.mono ?_
  clear C1
  rintro e w1 ⟨rfl, hb1, hm1⟩
  have C2 := Lib.hid (split_of _ _ _ _ w1 hm1 (by decide) bg3)
  have HB := Lib.hid hb1
  clear hb1 hm1
  go_wp2_with fail
  refine C2.out.mono ?_
  clear C2
  rintro e w2 ⟨rfl, hb2, hm2⟩
  have C3 := Lib.hid (split_of _ _ _ _ w2 hm2 (by decide) bg4)
  have HB2 := Lib.hid (HB.out.trans (Below.mono hb2 HB.out.size))
  clear hb2 hm2 HB
  go_wp2_with fail
  refine C3.out.mono ?_
  clear C3
  rintro e w3 ⟨rfl, hb3, hm3⟩
  have C4 := Lib.hid (front_of _ _ w3 hm3 (by decide) bg2)
  have HB3 := Lib.hid (HB2.out.trans (Below.mono hb3 HB2.out.size))
  clear hb3 hm3 HB2
  go_wp2_with fail
  refine C4.out.mono ?_
  clear C4
  rintro e w4 ⟨rfl, hb4, hm4⟩
  have F := Lib.hid (show TruePost w (.returned (.bool true)) w4 from ⟨rfl, HB3.out.trans (Below.mono hb4 HB3.out.size), hm4⟩)
  clear hb4 hm4 HB3
  go_wp2_with fail
  go_ret
  exact F.out

set_option maxRecDepth 100000 in
set_option maxHeartbeats 1000000 in
theorem twinAll_walk (sec key s : ByteArray) (w : World) (hm : HasM w) (h1 : sec.size ≤ 20) (h2 : key.size ≤ 20) (h3 : s.size ≤ 40) : Calls Tryd.prog 3 #[.string sec, .string key, .string s] w (TruePost w) := by
  have C1 := Lib.hid (begun_any w hm)
  obtain ⟨x, y, b, hx⟩ : ∃ x y b, spT s = (x, y, b) := ⟨_, _, _, rfl⟩
  obtain ⟨t, ht⟩ : ∃ t, jB sec key = t := ⟨_, rfl⟩
  obtain ⟨f, hf⟩ : ∃ f, jB sec ⟨#[]⟩ = f := ⟨_, rfl⟩
  have HX := Lib.hid hx
  have HT := Lib.hid ht
  have HF := Lib.hid hf
  clear hm hx ht hf
  go_enter Tryd.func3, Tryd.ntmps3
  go_wp2_with fail
  refine C1.out.mono ?_
  clear C1
  rintro e w1 ⟨rfl, hb1, hm1⟩
  have C2 := Lib.hid (split_of s x y b w1 hm1 (by omega) HX.out)
  have HB := Lib.hid hb1
  clear hb1 hm1
  go_wp2_with fail
  refine C2.out.mono ?_
  clear C2
  rintro e w2 ⟨rfl, hb2, hm2⟩
  have C3 := Lib.hid (rsplit_of s x y b w2 hm2 (by omega) HX.out)
  have HB2 := Lib.hid (HB.out.trans (Below.mono hb2 HB.out.size))
  clear hb2 hm2 HB
  go_wp2_with fail
  refine C3.out.mono ?_
  clear C3
  rintro e w3 ⟨rfl, hb3, hm3⟩
  have C4 := Lib.hid (join_of sec key t w3 hm3 (by omega) (by omega) HT.out)
  have HB3 := Lib.hid (HB2.out.trans (Below.mono hb3 HB2.out.size))
  clear hb3 hm3 HB2
  go_wp2_with fail
  refine C4.out.mono ?_
  clear C4
  rintro e w4 ⟨rfl, hb4, hm4⟩
  have C5 := Lib.hid (rjoin_of sec key t w4 (by omega) (by omega) HT.out)
  have HB4 := Lib.hid (HB3.out.trans (Below.mono hb4 HB3.out.size))
  have HM4 := Lib.hid hm4
  clear hb4 hm4 HB3
  go_wp2_with fail
  refine C5.out.mono ?_
  clear C5
  rintro e w' ⟨rfl, rfl⟩
  have C6 := Lib.hid (front_of sec f w4 HM4.out (by omega) HF.out)
  go_wp2_with fail
  refine C6.out.mono ?_
  clear C6
  rintro e w5 ⟨rfl, hb5, hm5⟩
  have C7 := Lib.hid (rjoin_of sec ⟨#[]⟩ f w5 (by omega) (by decide) HF.out)
  have F := Lib.hid (show TruePost w (.returned (.bool true)) w5 from ⟨rfl, HB4.out.trans (Below.mono hb5 HB4.out.size), hm5⟩)
  clear hb5 hm5 HB4
  go_wp2_with fail
  refine C7.out.mono ?_
  clear C7
  rintro e w' ⟨rfl, rfl⟩
  go_wp2_with fail
  go_ret
  exact F.out

set_option maxRecDepth 100000 in
set_option maxHeartbeats 1000000 in
theorem twinAll_long (sec key s : ByteArray) (w : World) (hm : HasM w) (h : 20 < sec.size ∨ 20 < key.size ∨ 40 < s.size) : Calls Tryd.prog 3 #[.string sec, .string key, .string s] w (TruePost w) := by
  have C1 := Lib.hid (begun_any w hm)
  clear hm
  have h' : 20 < sec.size ∨ (¬ 20 < sec.size ∧ 20 < key.size) ∨ (¬ 20 < sec.size ∧ ¬ 20 < key.size ∧ 40 < s.size) := by omega
  clear h
  rcases h' with h | ⟨h1, h2⟩ | ⟨h1, h2, h3⟩
  all_goals
    go_enter Tryd.func3, Tryd.ntmps3
    go_wp2_with fail
    refine C1.out.mono ?_
    rintro e w1 ⟨rfl, hb1, hm1⟩
    have F := Lib.hid (show TruePost w (.returned (.bool true)) w1 from ⟨rfl, hb1, hm1⟩)
    clear C1 hb1 hm1
    go_wp2_with fail
    go_ret
    exact F.out
end Go.Proofs.YtbpllldmeeokgaaDoor

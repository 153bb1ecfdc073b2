/- TwinOrder: the walk. Conditions: the library's variable holds a number. -/
import Derived.Test.YtbpllldmeeokgaaDoorTwinD
namespace Go.Proofs.YtbpllldmeeokgaaDoor
open Go.RowKit
open Go.Lib hiding intOf

theorem jB_list (a b : ByteArray) : (jB a b).toList = joinL a.toList b.toList := by
  rw [ByteArray.toList_eq, ByteArray.toList_eq, ByteArray.toList_eq]
  rfl
theorem jB_size (a b : ByteArray) : (jB a b).size ≤ 2 * a.size + b.size + 2 := by
  rw [← size_list]
  show (joinL a.data.toList b.data.toList).length ≤ _
  unfold joinL
  have := esc_len a.data.toList
  rw [size_list] at this
  simp only [List.length_append, List.length_cons, List.length_nil, size_list]
  omega
theorem toList_inj' {a b : ByteArray} (h : a.toList = b.toList) : a = b := ba_ext (by rw [ByteArray.toList_eq, ByteArray.toList_eq] at h; exact h)

structure OrdF (a b c d x y fa fc : ByteArray) (p q r u : Bool) : Prop where
  e1 : Op.bytesLess a.toList c.toList = p
  e2 : (a.toList == c.toList) = q
  e3 : Op.bytesLess b.toList d.toList = r
  e4 : (b.toList == d.toList) = u
  e5 : Op.bytesLess x.toList y.toList = (p || (q && r))
  e6 : (x.toList == y.toList) = (q && u)
  e7 : (Op.bytesLess fa.toList x.toList || fa.toList == x.toList) = true
  e8 : p = true → Op.bytesLess x.toList fc.toList = true
  e9 : Op.bytesLess c.toList a.toList = (!p && !q)
  ea : (c.toList == a.toList) = q

theorem ordF (a b c d : ByteArray) : OrdF a b c d (jB a b) (jB c d) (jB a ⟨#[]⟩) (jB c ⟨#[]⟩) (Op.bytesLess a.toList c.toList) (a.toList == c.toList) (Op.bytesLess b.toList d.toList) (b.toList == d.toList) := by
  refine ⟨rfl, rfl, rfl, rfl, ?_, ?_, ?_, fun h => ?_, ?_, ?_⟩
  · rw [jB_list, jB_list, bytesLess_eq, bytesLess_eq, bytesLess_eq, Bool.eq_iff_iff]
    simp [join_lt]
  · rw [jB_list, jB_list, Bool.eq_iff_iff]
    simp only [beq_iff_eq, Bool.and_eq_true]
    exact ⟨join_inj, fun ⟨h1, h2⟩ => by rw [h1, h2]⟩
  · have hn : (ByteArray.mk #[]).toList = [] := by rw [ByteArray.toList_eq]
    rw [jB_list, jB_list, bytesLess_eq, hn, Bool.or_eq_true, decide_eq_true_eq, beq_iff_eq, join_lt]
    cases hb : b.toList with
    | nil => exact .inr rfl
    | cons x l => exact .inl (.inr ⟨rfl, List.nil_lt_cons x l⟩)
  · rw [bytesLess_eq, decide_eq_true_eq] at h
    rw [jB_list, jB_list, bytesLess_eq, decide_eq_true_eq, join_lt]
    exact .inl h
  · rw [bytesLess_eq, bytesLess_eq, Bool.eq_iff_iff]
    simp only [decide_eq_true_eq, Bool.and_eq_true, Bool.not_eq_true', decide_eq_false_iff_not, beq_eq_false_iff_ne, ne_eq]
    constructor
    · intro h
      exact ⟨List.lt_asymm h, fun e => by rw [e] at h; exact List.lt_irrefl _ h⟩
    · rintro ⟨h1, h2⟩
      rcases List.le_total a.toList c.toList with h | h
      · exact absurd (List.le_antisymm h (List.not_lt.1 h1)) h2
      · by_cases h3 : c.toList < a.toList
        · exact h3
        · exact absurd (List.le_antisymm (List.not_lt.1 h3) h) h2
  · rw [Bool.eq_iff_iff]
    simp only [beq_iff_eq]
    exact eq_comm

set_option maxRecDepth 100000 in
set_option maxHeartbeats 4000000 in
theorem twinOrder_walk (a b c d : ByteArray) (w : World) (hm : HasM w) (h1 : a.size ≤ 20) (h2 : b.size ≤ 20) (h3 : c.size ≤ 20) (h4 : d.size ≤ 20) : Calls Tryd.prog 4 #[.string a, .string b, .string c, .string d] w (TruePost w) := by
  have C1 := Lib.hid (begun_any w hm)
  have hO := ordF a b c d
  have hxs := jB_size a b
  obtain ⟨x, hx⟩ : ∃ x, jB a b = x := ⟨_, rfl⟩
  obtain ⟨y, hy⟩ : ∃ y, jB c d = y := ⟨_, rfl⟩
  obtain ⟨fa, hfa⟩ : ∃ x, jB a ⟨#[]⟩ = x := ⟨_, rfl⟩
  obtain ⟨fc, hfc⟩ : ∃ x, jB c ⟨#[]⟩ = x := ⟨_, rfl⟩
  have HSP := Lib.hid (show spT x = (a, b, true) by rw [← hx, spT_join])
  rw [hx] at hxs
  rw [hx, hy, hfa, hfc] at hO
  have hx62 : x.size ≤ 100 := by omega
  generalize hp : Op.bytesLess a.toList c.toList = p at hO
  generalize hq : (a.toList == c.toList) = q at hO
  generalize hr : Op.bytesLess b.toList d.toList = r at hO
  generalize hu : (b.toList == d.toList) = u at hO
  have HX := Lib.hid hx
  have HY := Lib.hid hy
  have HFA := Lib.hid hfa
  have HFC := Lib.hid hfc
  have HO := Lib.hid hO
  clear hm hx hy hfa hfc hO hxs hp hq hr hu
  go_enter Tryd.func4, Tryd.ntmps4
  go_wp2_with fail
  refine C1.out.mono ?_
  clear C1
  rintro e w1 ⟨rfl, hb1, hm1⟩
  have C2 := Lib.hid (join_of a b x w1 hm1 (by omega) (by omega) HX.out)
  have HB := Lib.hid hb1
  clear hb1 hm1
  go_wp2_with fail
  refine C2.out.mono ?_
  clear C2
  rintro e w2 ⟨rfl, hb2, hm2⟩
  have C3 := Lib.hid (join_of c d y w2 hm2 (by omega) (by omega) HY.out)
  have HB2 := Lib.hid (HB.out.trans (Below.mono hb2 HB.out.size))
  clear hb2 hm2 HB
  go_wp2_with fail
  refine C3.out.mono ?_
  clear C3
  rintro e w3 ⟨rfl, hb3, hm3⟩
  have C4 := Lib.hid (split_of x a b true w3 hm3 (by omega) HSP.out)
  have HB3 := Lib.hid (HB2.out.trans (Below.mono hb3 HB2.out.size))
  clear hb3 hm3 HB2 HX HY HSP
  have hle : ∀ (p q r u : Bool), OrdF a b c d x y fa fc p q r u → (p = true ∧ q = true ∧ u = true) ∨ (p = true ∧ q = true ∧ u = false) ∨ (p = true ∧ q = false) ∨ (p = false ∧ q = false) ∨ (p = false ∧ q = true ∧ r = true ∧ u = true) ∨ (p = false ∧ q = true ∧ r = true ∧ u = false) ∨ (p = false ∧ q = true ∧ r = false ∧ u = true) ∨ (p = false ∧ q = true ∧ r = false ∧ u = false) := by
    intro p q r u _
    cases p <;> cases q <;> cases r <;> cases u <;> simp
  rcases hle p q r u HO.out with ⟨rfl, rfl, rfl⟩ | ⟨rfl, rfl, rfl⟩ | ⟨rfl, rfl⟩ | ⟨rfl, rfl⟩ | ⟨rfl, rfl, rfl, rfl⟩ | ⟨rfl, rfl, rfl, rfl⟩ | ⟨rfl, rfl, rfl, rfl⟩ | ⟨rfl, rfl, rfl, rfl⟩
  all_goals
    have e1 := HO.out.e1
    have e2 := HO.out.e2
    have e3 := HO.out.e3
    have e4 := HO.out.e4
    first
    | have e5 := HO.out.e5.trans (show _ = true from rfl)
    | have e5 := HO.out.e5.trans (show _ = false from rfl)
    first
    | have e6 := HO.out.e6.trans (show _ = true from rfl)
    | have e6 := HO.out.e6.trans (show _ = false from rfl)
    first
    | have e9 := HO.out.e9.trans (show _ = true from rfl)
    | have e9 := HO.out.e9.trans (show _ = false from rfl)
    have e7 := HO.out.e7
    have ea := HO.out.ea
    first
    | have e8 := HO.out.e8 rfl
    | skip
    clear hle HO
    go_wp2_with fail
    refine C4.out.mono ?_
    clear C4
    rintro e w4 ⟨rfl, hb4, hm4⟩
    have C5 := Lib.hid (front_of a fa w4 hm4 (by omega) HFA.out)
    have HB4 := Lib.hid (HB3.out.trans (Below.mono hb4 HB3.out.size))
    clear hb4 hm4 HB3
    go_wp2_with fail
    refine C5.out.mono ?_
    clear C5
    rintro e w5 ⟨rfl, hb5, hm5⟩
    have C6 := Lib.hid (front_of c fc w5 hm5 (by omega) HFC.out)
    have HB5 := Lib.hid (HB4.out.trans (Below.mono hb5 HB4.out.size))
    have HM5 := Lib.hid hm5
    clear hb5 HB4
    clear hm5
    go_wp2_with fail
    first
    | (refine C6.out.mono ?_
       rintro e w6 ⟨rfl, hb6, hm6⟩
       have F := Lib.hid (show TruePost w (.returned (.bool true)) w6 from ⟨rfl, HB5.out.trans (Below.mono hb6 HB5.out.size), hm6⟩)
       clear C6 hb6 hm6 HB5
       go_wp2_with fail
       go_ret
       exact F.out)
    | (go_ret
       exact ⟨rfl, HB5.out, HM5.out⟩)

set_option maxRecDepth 100000 in
set_option maxHeartbeats 1000000 in
theorem twinOrder_long (a b c d : ByteArray) (w : World) (hm : HasM w) (h : 20 < a.size ∨ 20 < b.size ∨ 20 < c.size ∨ 20 < d.size) : Calls Tryd.prog 4 #[.string a, .string b, .string c, .string d] w (TruePost w) := by
  have C1 := Lib.hid (begun_any w hm)
  clear hm
  have h' : 20 < a.size ∨ (¬ 20 < a.size ∧ 20 < b.size) ∨ (¬ 20 < a.size ∧ ¬ 20 < b.size ∧ 20 < c.size) ∨ (¬ 20 < a.size ∧ ¬ 20 < b.size ∧ ¬ 20 < c.size ∧ 20 < d.size) := by omega
  clear h
  rcases h' with h | ⟨h1, h2⟩ | ⟨h1, h2, h3⟩ | ⟨h1, h2, h3, h4⟩
  all_goals
    go_enter Tryd.func4, Tryd.ntmps4
    go_wp2_with fail
    refine C1.out.mono ?_
    rintro e w1 ⟨rfl, hb1, hm1⟩
    have F := Lib.hid (show TruePost w (.returned (.bool true)) w1 from ⟨rfl, hb1, hm1⟩)
    clear C1 hb1 hm1
    go_wp2_with fail
    go_ret
    exact F.out
end Go.Proofs.YtbpllldmeeokgaaDoor

/- The writer of bytes: lists. Conditions: all lies in memory, apart from the writer; what is written may be. -/
import Derived.Test.YtojkggppcmdepaaGreatTrI
namespace Go.Proofs.YtojkggppcmdepaaGreat
open Go.RowKit Go.Wh Go.Maps

/-- On the way through a list: T is still to be written. -/
def LsRel (W : World) (X : Nat → Prop) (r : Nat) (S T : List Int) (k : Nat) (w : World) : Prop := ∃ v pre, WrAt W X r pre v w ∧ pre ++ T = S ∧ pre.length ≤ k

set_option maxHeartbeats 1000000 in
theorem wlist_mv {W w : World} {X Q : Nat → Prop} {r : Nat} {S : List Int} {v dv : Value} {m : Nat} {l : List PMv} (h : WrAt W X r S v w) (hd : Sl W Q 4 dv m (l.flatMap mvC)) (hq : ∀ g, Q g → ¬ X g) (hl : l.length = m) (hp : eachB mvMay l = true) (hS : S.length ≤ 80000) :
    Calls Tryz.prog 63 #[.pointer (some ⟨r, 0, none⟩), dv, .func (.func 64) #[.pointer (some ⟨r, 0, none⟩)] #[]] w (WPost W X r (S ++ listB mvB l)) := by
  have hm := (eachB_len hp).1
  have H := Lib.hid (And.intro h (And.intro hd (And.intro hl (And.intro (eachB_len hp) hS))))
  have HQ := Lib.hid hq
  have HN := Lib.hid (fun tt => num1 (W := W) (X := X) 1 rfl (m : Int) tt rfl h (by omega) (by omega) (by omega))
  obtain ⟨da, dc, rfl⟩ := hd.form
  clear h hd hq hp hS hl hm
  go_enter Tryz.func63, Tryz.ntmps63
  go_wp2_with fail
  refine (HN.out _).mono ?_
  rintro e w2 ⟨rfl, v2, h2⟩
  have HST := Lib.hid (show LsRel W X r (S ++ listB mvB l) ((l.drop 0).flatMap mvB) (80100 + 0 * 164) w2 from ⟨v2, _, h2, by
    unfold listB
    rw [H.out.2.2.1, List.append_assoc]
    rfl, by rw [List.length_append, numsB_length]; simp only [List.length_cons, List.length_nil]; have := H.out.2.2.2.2; omega⟩)
  clear HN h2
  go_wp2_with fail
  go_loopw [15] (fun s wr => ∃ k : Nat, s = .int .i64 k ∧ k ≤ m ∧ LsRel W X r (S ++ listB mvB l) ((l.drop k).flatMap mvB) (80100 + k * 164) wr) (fun s _ => m - (intOf s).toNat)
  case atStart => exact ⟨0, rfl, Nat.zero_le _, HST.out⟩
  case round =>
    clear HST
    obtain ⟨k, rfl, hk, v3, pre, h3, hpre, hlen⟩ := hrel
    by_cases hi : k < m
    · obtain ⟨x, hx⟩ : ∃ x, l[k]? = some x := ⟨_, List.getElem?_eq_getElem (by have := H.out.2.2.1; omega)⟩
      have hd3 := H.out.2.1.only h3.only HQ.out
      obtain ⟨g, o, c, hg, hgq, hgl, hcs⟩ := hd3.pos (by omega)
      cases hg
      have hfc : ∀ j, j < 4 → (l.flatMap mvC)[k * 4 + j]? = (mvC x)[j]? := fun j hj => flat_get (sz := 4) (fun _ => rfl) l k j x hx hj
      have c0 : wr.cell? ⟨g, o + k * 4, none⟩ = some (.int .i64 x.fp) := hcs (k * 4) _ (hfc 0 (by omega))
      have c1 : wr.cell? ⟨g, o + k * 4 + 1, none⟩ = some (.int .i64 x.fc) := by rw [Nat.add_assoc]; exact hcs (k * 4 + 1) _ (hfc 1 (by omega))
      have c2 : wr.cell? ⟨g, o + k * 4 + 2, none⟩ = some (.int .i64 x.tp) := by rw [Nat.add_assoc]; exact hcs (k * 4 + 2) _ (hfc 2 (by omega))
      have c3 : wr.cell? ⟨g, o + k * 4 + 3, none⟩ = some (.int .i64 x.tc) := by rw [Nat.add_assoc]; exact hcs (k * 4 + 3) _ (hfc 3 (by omega))
      have b1 : decide ((k : Int) < (m : Int)) = true := by simp; omega
      have b2 : decide (k < m) = true := by simp; omega
      have b3 : (0 : Int) ≤ (k : Int) := by omega
      have hk40 : k < 40 := by have := H.out.2.2.2.1.1; have := H.out.2.2.1; omega
      have b4 : (k : Int) < (m : Int) := by omega
      have H3 := Lib.hid (And.intro h3 (And.intro hpre hlen))
      clear h3 hpre hlen hfc hcs hd3 hgq hgl
      go_wp2_with fail
      have HX := Lib.hid (And.intro hx (H.out.2.2.2.1.2 x (List.mem_of_getElem? hx)))
      refine (wmove_any x (H3.out.1.still ((Still.refl _).alloc _)) HX.out.2 (by have := H3.out.2.2; omega)).mono ?_
      rintro e w4 ⟨rfl, v4, h4⟩
      have HNX := Lib.hid (show LsRel W X r (S ++ listB mvB l) ((l.drop (k + 1)).flatMap mvB) (80100 + (k + 1) * 164) w4 from ⟨v4, _, h4, by
        rw [List.append_assoc, ← H3.out.2.1, List.drop_eq_getElem_cons (show k < l.length by have := H.out.2.2.1; omega), show l[k]'(by have := H.out.2.2.1; omega) = x from (List.getElem?_eq_some_iff.1 HX.out.1).2, List.flatMap_cons], by
        have h4l : (mvB x).length ≤ 164 := by simp [mvB, numsB_length]
        rw [List.length_append]; have := H3.out.2.2; omega⟩)
      clear h4 hx c0 c1 c2 c3
      have u9 : IntKind.i64.wrap ((k : Int) + 1) = (k : Int) + 1 := IntWalk.i64_in _ (by have := H.out.2.2.2.1.1; have := H.out.2.2.1; omega)
      go_wp2_with fail
      go_roundw
      case rel => exact ⟨k + 1, by go_num, by omega, HNX.out⟩
      case measure => simp [intOf]; omega
    · have hke : k = m := by omega
      subst hke
      have b1 : decide ((k : Int) < (k : Int)) = false := by simp
      have F := Lib.hid (show WPost W X r (S ++ listB mvB l) (.returned (.tuple #[])) wr from by
        rw [List.drop_eq_nil_of_le (by have := H.out.2.2.1; omega), List.flatMap_nil, List.append_nil] at hpre
        rw [← hpre]
        exact ⟨rfl, v3, h3⟩)
      clear h3 hpre
      go_wp2_with fail
      go_end0
      exact F.out
end Go.Proofs.YtojkggppcmdepaaGreat

/- The writer of bytes: lists of lives, dirty pages, units. Conditions: all lies in memory, apart from the writer; what is written may be. -/
import Derived.Test.YtojkggppcmdepaaGreatTrK
namespace Go.Proofs.YtojkggppcmdepaaGreat
open Go.RowKit Go.Wh Go.Maps

theorem wlive_any {W w : World} {X : Nat → Prop} {r vb : Nat} {S : List Int} {v : Value} (x : PLv) (h : WrAt W X r S v w) (hc : W.cell? ⟨vb, 0, none⟩ = some (.pointer (some ⟨r, 0, none⟩))) (hvb : ¬ X vb) (hx : lvMay x = true) (hS : S.length ≤ 70000) :
    Calls Tryz.prog 66 #[.agg #[.int .i64 x.txn, .int .i64 x.last, .int .i64 x.next, .bool x.commit], .pointer (some ⟨vb, 0, none⟩)] w (WPost W X r (S ++ lvB x)) := by
  obtain ⟨a, b, c, d⟩ := x
  cases d
  · exact wlive_f a b c h hc hvb hx hS
  · exact wlive_t a b c h hc hvb hx hS
theorem wdirty_x {W w : World} {X : Nat → Prop} {r vb : Nat} {S : List Int} {v : Value} (x : PDt) (h : WrAt W X r S v w) (hc : W.cell? ⟨vb, 0, none⟩ = some (.pointer (some ⟨r, 0, none⟩))) (hvb : ¬ X vb) (hx : dtMay x = true) (hS : S.length ≤ 70000) :
    Calls Tryz.prog 68 #[.agg #[.int .i64 x.page, .int .i64 x.rc], .pointer (some ⟨vb, 0, none⟩)] w (WPost W X r (S ++ dtB x)) := wdirty_any x.page x.rc h hc hvb hx hS
theorem wopen_x {W w : World} {X Q : Nat → Prop} {r vb : Nat} {S : List Int} {v : Value} (x : POp) (mv : Value) (h : WrAt W X r S v w) (hc : W.cell? ⟨vb, 0, none⟩ = some (.pointer (some ⟨r, 0, none⟩))) (hvb : ¬ X vb) (hx : opMay x = true) (hS : S.length ≤ 70000) (hd : Sl W Q 4 mv x.moves.length (x.moves.flatMap mvC)) (hq : ∀ g, Q g → ¬ X g) :
    Calls Tryz.prog 70 #[.agg #[.int .i64 x.unit, mv, .int .i64 x.done], .pointer (some ⟨vb, 0, none⟩)] w (WPost W X r (S ++ opB x)) := wopen_any x.unit x.moves x.done mv h hc hvb hx hS hd hq
set_option maxHeartbeats 1000000 in
theorem wlist_lv {W w : World} {X Q : Nat → Prop} {r vb : Nat} {S : List Int} {v dv : Value} {m : Nat} {l : List PLv} (h : WrAt W X r S v w) (hd : Sl W Q 4 dv m (l.flatMap lvC)) (hq : ∀ g, Q g → ¬ X g) (hc : W.cell? ⟨vb, 0, none⟩ = some (.pointer (some ⟨r, 0, none⟩))) (hvb : ¬ X vb) (hl : l.length = m) (hp : eachB lvMay l = true) (hS : S.length ≤ 60000) :
    Calls Tryz.prog 65 #[.pointer (some ⟨r, 0, none⟩), dv, .func (.func 66) #[] #[.pointer (some ⟨vb, 0, none⟩)]] w (WPost W X r (S ++ listB lvB l)) := by
  have hm := (eachB_len hp).1
  have H := Lib.hid (And.intro h (And.intro hd (And.intro hl (And.intro (eachB_len hp) hS))))
  have HQ := Lib.hid hq
  have HC := Lib.hid (And.intro hc hvb)
  have HN := Lib.hid (fun tt => num1 (W := W) (X := X) 1 rfl (m : Int) tt rfl h (by omega) (by omega) (by omega))
  obtain ⟨da, dc, rfl⟩ := hd.form
  clear h hd hq hp hS hl hm hc hvb
  go_enter Tryz.func65, Tryz.ntmps65
  go_wp2_with fail
  refine (HN.out _).mono ?_
  rintro e w2 ⟨rfl, v2, h2⟩
  have HST := Lib.hid (show LsRel W X r (S ++ listB lvB l) ((l.drop 0).flatMap lvB) (60100 + 0 * 164) w2 from ⟨v2, _, h2, by
    unfold listB
    rw [H.out.2.2.1, List.append_assoc]
    rfl, by rw [List.length_append, numsB_length]; simp only [List.length_cons, List.length_nil]; have := H.out.2.2.2.2; omega⟩)
  clear HN h2
  go_wp2_with fail
  go_loopw [15] (fun s wr => ∃ k : Nat, s = .int .i64 k ∧ k ≤ m ∧ LsRel W X r (S ++ listB lvB l) ((l.drop k).flatMap lvB) (60100 + k * 164) wr) (fun s _ => m - (intOf s).toNat)
  case atStart => exact ⟨0, rfl, Nat.zero_le _, HST.out⟩
  case round =>
    clear HST
    obtain ⟨k, rfl, hk, v3, pre, h3, hpre, hlen⟩ := hrel
    by_cases hi : k < m
    · obtain ⟨x, hx⟩ : ∃ x, l[k]? = some x := ⟨_, List.getElem?_eq_getElem (by have := H.out.2.2.1; omega)⟩
      have hd3 := H.out.2.1.only h3.only HQ.out
      obtain ⟨g, o, c, hg, hgq, hgl, hcs⟩ := hd3.pos (by omega)
      cases hg
      have hfc : ∀ j, j < 4 → (l.flatMap lvC)[k * 4 + j]? = (lvC x)[j]? := fun j hj => flat_get (sz := 4) (fun _ => rfl) l k j x hx hj
      have c0 : wr.cell? ⟨g, o + k * 4, none⟩ = some (.int .i64 x.txn) := hcs (k * 4) _ (hfc 0 (by omega))
      have c1 : wr.cell? ⟨g, o + k * 4 + 1, none⟩ = some (.int .i64 x.last) := by rw [Nat.add_assoc]; exact hcs (k * 4 + 1) _ (hfc 1 (by omega))
      have c2 : wr.cell? ⟨g, o + k * 4 + 2, none⟩ = some (.int .i64 x.next) := by rw [Nat.add_assoc]; exact hcs (k * 4 + 2) _ (hfc 2 (by omega))
      have c3 : wr.cell? ⟨g, o + k * 4 + 3, none⟩ = some (.bool x.commit) := by rw [Nat.add_assoc]; exact hcs (k * 4 + 3) _ (hfc 3 (by omega))
      have b1 : decide ((k : Int) < (m : Int)) = true := by simp; omega
      have b2 : decide (k < m) = true := by simp; omega
      have b3 : (0 : Int) ≤ (k : Int) := by omega
      have hk40 : k < 40 := by have := H.out.2.2.2.1.1; have := H.out.2.2.1; omega
      have b4 : (k : Int) < (m : Int) := by omega
      have H3 := Lib.hid (And.intro h3 (And.intro hpre hlen))
      clear h3 hpre hlen hfc hcs hd3 hgq hgl
      go_wp2_with fail
      have HX := Lib.hid (And.intro hx (H.out.2.2.2.1.2 x (List.mem_of_getElem? hx)))
      refine (wlive_any x ( H3.out.1.still ((Still.refl _).alloc _)) HC.out.1 HC.out.2 HX.out.2 (by have := H3.out.2.2; have := H.out; omega)).mono ?_
      rintro e w4 ⟨rfl, v4, h4⟩
      have HNX := Lib.hid (show LsRel W X r (S ++ listB lvB l) ((l.drop (k + 1)).flatMap lvB) (60100 + (k + 1) * 164) w4 from ⟨v4, _, h4, by
        rw [List.append_assoc, ← H3.out.2.1, List.drop_eq_getElem_cons (show k < l.length by have := H.out.2.2.1; omega), show l[k]'(by have := H.out.2.2.1; omega) = x from (List.getElem?_eq_some_iff.1 HX.out.1).2, List.flatMap_cons], by
        have h4l : (lvB x).length ≤ 164 := by simp [lvB, numsB_length]
        rw [List.length_append]; have := H3.out.2.2; omega⟩)
      clear h4 hx c0 c1 c2 c3
      have u9 : IntKind.i64.wrap ((k : Int) + 1) = (k : Int) + 1 := IntWalk.i64_in _ (by have := H.out.2.2.2.1.1; have := H.out.2.2.1; omega)
      go_wp2_with fail
      go_roundw
      case rel => exact ⟨k + 1, by go_num, by omega, HNX.out⟩
      case measure => simp [intOf]; omega
    · have hke : k = m := by omega
      subst hke
      have b1 : decide ((k : Int) < (k : Int)) = false := by simp
      have F := Lib.hid (show WPost W X r (S ++ listB lvB l) (.returned (.tuple #[])) wr from by
        rw [List.drop_eq_nil_of_le (by have := H.out.2.2.1; omega), List.flatMap_nil, List.append_nil] at hpre
        rw [← hpre]
        exact ⟨rfl, v3, h3⟩)
      clear h3 hpre
      go_wp2_with fail
      go_end0
      exact F.out
set_option maxHeartbeats 1000000 in
theorem wlist_dt {W w : World} {X Q : Nat → Prop} {r vb : Nat} {S : List Int} {v dv : Value} {m : Nat} {l : List PDt} (h : WrAt W X r S v w) (hd : Sl W Q 2 dv m (l.flatMap dtC)) (hq : ∀ g, Q g → ¬ X g) (hc : W.cell? ⟨vb, 0, none⟩ = some (.pointer (some ⟨r, 0, none⟩))) (hvb : ¬ X vb) (hl : l.length = m) (hp : eachB dtMay l = true) (hS : S.length ≤ 60000) :
    Calls Tryz.prog 67 #[.pointer (some ⟨r, 0, none⟩), dv, .func (.func 68) #[] #[.pointer (some ⟨vb, 0, none⟩)]] w (WPost W X r (S ++ listB dtB l)) := by
  have hm := (eachB_len hp).1
  have H := Lib.hid (And.intro h (And.intro hd (And.intro hl (And.intro (eachB_len hp) hS))))
  have HQ := Lib.hid hq
  have HC := Lib.hid (And.intro hc hvb)
  have HN := Lib.hid (fun tt => num1 (W := W) (X := X) 1 rfl (m : Int) tt rfl h (by omega) (by omega) (by omega))
  obtain ⟨da, dc, rfl⟩ := hd.form
  clear h hd hq hp hS hl hm hc hvb
  go_enter Tryz.func67, Tryz.ntmps67
  go_wp2_with fail
  refine (HN.out _).mono ?_
  rintro e w2 ⟨rfl, v2, h2⟩
  have HST := Lib.hid (show LsRel W X r (S ++ listB dtB l) ((l.drop 0).flatMap dtB) (60100 + 0 * 164) w2 from ⟨v2, _, h2, by
    unfold listB
    rw [H.out.2.2.1, List.append_assoc]
    rfl, by rw [List.length_append, numsB_length]; simp only [List.length_cons, List.length_nil]; have := H.out.2.2.2.2; omega⟩)
  clear HN h2
  go_wp2_with fail
  go_loopw [15] (fun s wr => ∃ k : Nat, s = .int .i64 k ∧ k ≤ m ∧ LsRel W X r (S ++ listB dtB l) ((l.drop k).flatMap dtB) (60100 + k * 164) wr) (fun s _ => m - (intOf s).toNat)
  case atStart => exact ⟨0, rfl, Nat.zero_le _, HST.out⟩
  case round =>
    clear HST
    obtain ⟨k, rfl, hk, v3, pre, h3, hpre, hlen⟩ := hrel
    by_cases hi : k < m
    · obtain ⟨x, hx⟩ : ∃ x, l[k]? = some x := ⟨_, List.getElem?_eq_getElem (by have := H.out.2.2.1; omega)⟩
      have hd3 := H.out.2.1.only h3.only HQ.out
      obtain ⟨g, o, c, hg, hgq, hgl, hcs⟩ := hd3.pos (by omega)
      cases hg
      have hfc : ∀ j, j < 2 → (l.flatMap dtC)[k * 2 + j]? = (dtC x)[j]? := fun j hj => flat_get (sz := 2) (fun _ => rfl) l k j x hx hj
      have c0 : wr.cell? ⟨g, o + k * 2, none⟩ = some (.int .i64 x.page) := hcs (k * 2) _ (hfc 0 (by omega))
      have c1 : wr.cell? ⟨g, o + k * 2 + 1, none⟩ = some (.int .i64 x.rc) := by rw [Nat.add_assoc]; exact hcs (k * 2 + 1) _ (hfc 1 (by omega))
      have b1 : decide ((k : Int) < (m : Int)) = true := by simp; omega
      have b2 : decide (k < m) = true := by simp; omega
      have b3 : (0 : Int) ≤ (k : Int) := by omega
      have hk40 : k < 40 := by have := H.out.2.2.2.1.1; have := H.out.2.2.1; omega
      have b4 : (k : Int) < (m : Int) := by omega
      have H3 := Lib.hid (And.intro h3 (And.intro hpre hlen))
      clear h3 hpre hlen hfc hcs hd3 hgq hgl
      go_wp2_with fail
      have HX := Lib.hid (And.intro hx (H.out.2.2.2.1.2 x (List.mem_of_getElem? hx)))
      refine (wdirty_x x ( H3.out.1.still ((Still.refl _).alloc _)) HC.out.1 HC.out.2 HX.out.2 (by have := H3.out.2.2; have := H.out; omega)).mono ?_
      rintro e w4 ⟨rfl, v4, h4⟩
      have HNX := Lib.hid (show LsRel W X r (S ++ listB dtB l) ((l.drop (k + 1)).flatMap dtB) (60100 + (k + 1) * 164) w4 from ⟨v4, _, h4, by
        rw [List.append_assoc, ← H3.out.2.1, List.drop_eq_getElem_cons (show k < l.length by have := H.out.2.2.1; omega), show l[k]'(by have := H.out.2.2.1; omega) = x from (List.getElem?_eq_some_iff.1 HX.out.1).2, List.flatMap_cons], by
        have h4l : (dtB x).length ≤ 164 := by simp [dtB, numsB_length]
        rw [List.length_append]; have := H3.out.2.2; omega⟩)
      clear h4 hx c0 c1
      have u9 : IntKind.i64.wrap ((k : Int) + 1) = (k : Int) + 1 := IntWalk.i64_in _ (by have := H.out.2.2.2.1.1; have := H.out.2.2.1; omega)
      go_wp2_with fail
      go_roundw
      case rel => exact ⟨k + 1, by go_num, by omega, HNX.out⟩
      case measure => simp [intOf]; omega
    · have hke : k = m := by omega
      subst hke
      have b1 : decide ((k : Int) < (k : Int)) = false := by simp
      have F := Lib.hid (show WPost W X r (S ++ listB dtB l) (.returned (.tuple #[])) wr from by
        rw [List.drop_eq_nil_of_le (by have := H.out.2.2.1; omega), List.flatMap_nil, List.append_nil] at hpre
        rw [← hpre]
        exact ⟨rfl, v3, h3⟩)
      clear h3 hpre
      go_wp2_with fail
      go_end0
      exact F.out

def opC (p : POp × Value) : List Value := [.int .i64 p.1.unit, p.2, .int .i64 p.1.done]
/-- Units that are read: their moves lie elsewhere. -/
def OpSl (w : World) (Q : Nat → Prop) (dv : Value) (m : Nat) (l : List POp) : Prop :=
  ∃ mvs : List Value, mvs.length = l.length ∧ Sl w Q 3 dv m ((l.zip mvs).flatMap opC) ∧ ∀ (k : Nat) (o : POp) (mv : Value), l[k]? = some o → mvs[k]? = some mv → Sl w Q 4 mv o.moves.length (o.moves.flatMap mvC)
theorem OpSl.only {w w' : World} {Q X : Nat → Prop} {dv : Value} {m : Nat} {l : List POp} (h : OpSl w Q dv m l) (ho : Only X w w') (hq : ∀ g, Q g → ¬ X g) : OpSl w' Q dv m l := by
  obtain ⟨mvs, h1, h2, h3⟩ := h
  exact ⟨mvs, h1, h2.only ho hq, fun k o mv hk hm => (h3 k o mv hk hm).only ho hq⟩
theorem OpSl.nil {w : World} {Q : Nat → Prop} : OpSl w Q (.slice none 0 0) 0 [] := ⟨[], rfl, Sl.nil, fun k o mv hk _ => by simp at hk⟩
theorem opB_le (x : POp) (hx : opMay x = true) : (opB x).length ≤ 164 := by
  unfold opMay at hx
  simp only [Bool.and_eq_true] at hx
  have := listB_le mvB 4 x.moves hx.2 fun x _ => by simp [mvB, numsB_length]
  simp only [opB, List.length_append, numsB_length, List.length_cons, List.length_nil]
  omega
set_option maxHeartbeats 1000000 in
theorem wlist_op {W w : World} {X Q : Nat → Prop} {r vb : Nat} {S : List Int} {v dv : Value} {m : Nat} {l : List POp} (h : WrAt W X r S v w) (hd : OpSl W Q dv m l) (hq : ∀ g, Q g → ¬ X g) (hc : W.cell? ⟨vb, 0, none⟩ = some (.pointer (some ⟨r, 0, none⟩))) (hvb : ¬ X vb) (hl : l.length = m) (hp : eachB opMay l = true) (hS : S.length ≤ 60000) :
    Calls Tryz.prog 69 #[.pointer (some ⟨r, 0, none⟩), dv, .func (.func 70) #[] #[.pointer (some ⟨vb, 0, none⟩)]] w (WPost W X r (S ++ listB opB l)) := by
  have hm := (eachB_len hp).1
  obtain ⟨mvs, hml, hd, hmv⟩ := hd
  have HMS := Lib.hid (And.intro hml hmv)
  have H := Lib.hid (And.intro h (And.intro hd (And.intro hl (And.intro (eachB_len hp) hS))))
  have HQ := Lib.hid hq
  have HC := Lib.hid (And.intro hc hvb)
  have HN := Lib.hid (fun tt => num1 (W := W) (X := X) 1 rfl (m : Int) tt rfl h (by omega) (by omega) (by omega))
  obtain ⟨da, dc, rfl⟩ := hd.form
  clear h hd hq hp hS hl hm hc hvb hml hmv
  go_enter Tryz.func69, Tryz.ntmps69
  go_wp2_with fail
  refine (HN.out _).mono ?_
  rintro e w2 ⟨rfl, v2, h2⟩
  have HST := Lib.hid (show LsRel W X r (S ++ listB opB l) ((l.drop 0).flatMap opB) (60100 + 0 * 164) w2 from ⟨v2, _, h2, by
    unfold listB
    rw [H.out.2.2.1, List.append_assoc]
    rfl, by rw [List.length_append, numsB_length]; simp only [List.length_cons, List.length_nil]; have := H.out.2.2.2.2; omega⟩)
  clear HN h2
  go_wp2_with fail
  go_loopw [15] (fun s wr => ∃ k : Nat, s = .int .i64 k ∧ k ≤ m ∧ LsRel W X r (S ++ listB opB l) ((l.drop k).flatMap opB) (60100 + k * 164) wr) (fun s _ => m - (intOf s).toNat)
  case atStart => exact ⟨0, rfl, Nat.zero_le _, HST.out⟩
  case round =>
    clear HST
    obtain ⟨k, rfl, hk, v3, pre, h3, hpre, hlen⟩ := hrel
    by_cases hi : k < m
    · obtain ⟨x, hx⟩ : ∃ x, l[k]? = some x := ⟨_, List.getElem?_eq_getElem (by have := H.out.2.2.1; omega)⟩
      obtain ⟨mv, hmx⟩ : ∃ mv, mvs[k]? = some mv := ⟨_, List.getElem?_eq_getElem (by have := H.out.2.2.1; have := HMS.out.1; omega)⟩
      have HMV := Lib.hid (HMS.out.2 k x mv hx hmx)
      have hmf := HMV.out.form
      have hd3 := H.out.2.1.only h3.only HQ.out
      obtain ⟨g, o, c, hg, hgq, hgl, hcs⟩ := hd3.pos (by omega)
      cases hg
      have hfc : ∀ j, j < 3 → ((l.zip mvs).flatMap opC)[k * 3 + j]? = (opC (x, mv))[j]? := fun j hj => flat_get (sz := 3) (fun _ => rfl) (l.zip mvs) k j (x, mv) (by rw [List.getElem?_zip_eq_some]; exact ⟨hx, hmx⟩) hj
      obtain ⟨ma, mc, rfl⟩ := hmf
      have c0 : wr.cell? ⟨g, o + k * 3, none⟩ = some (.int .i64 x.unit) := hcs (k * 3) _ (hfc 0 (by omega))
      have c1 : wr.cell? ⟨g, o + k * 3 + 1, none⟩ = some (.slice ma x.moves.length mc) := by rw [Nat.add_assoc]; exact hcs (k * 3 + 1) _ (hfc 1 (by omega))
      have c2 : wr.cell? ⟨g, o + k * 3 + 2, none⟩ = some (.int .i64 x.done) := by rw [Nat.add_assoc]; exact hcs (k * 3 + 2) _ (hfc 2 (by omega))
      have b1 : decide ((k : Int) < (m : Int)) = true := by simp; omega
      have b2 : decide (k < m) = true := by simp; omega
      have b3 : (0 : Int) ≤ (k : Int) := by omega
      have hk40 : k < 40 := by have := H.out.2.2.2.1.1; have := H.out.2.2.1; omega
      have b4 : (k : Int) < (m : Int) := by omega
      have H3 := Lib.hid (And.intro h3 (And.intro hpre hlen))
      clear h3 hpre hlen hfc hcs hd3 hgq hgl hmx
      go_wp2_with fail
      have HX := Lib.hid (And.intro hx (H.out.2.2.2.1.2 x (List.mem_of_getElem? hx)))
      refine (wopen_x x (.slice ma x.moves.length mc) (H3.out.1.still ((Still.refl _).alloc _)) HC.out.1 HC.out.2 HX.out.2 (by have := H3.out.2.2; have := H.out; omega) HMV.out HQ.out).mono ?_
      rintro e w4 ⟨rfl, v4, h4⟩
      have HNX := Lib.hid (show LsRel W X r (S ++ listB opB l) ((l.drop (k + 1)).flatMap opB) (60100 + (k + 1) * 164) w4 from ⟨v4, _, h4, by
        rw [List.append_assoc, ← H3.out.2.1, List.drop_eq_getElem_cons (show k < l.length by have := H.out.2.2.1; omega), show l[k]'(by have := H.out.2.2.1; omega) = x from (List.getElem?_eq_some_iff.1 HX.out.1).2, List.flatMap_cons], by
        have h4l : (opB x).length ≤ 164 := opB_le x HX.out.2
        rw [List.length_append]; have := H3.out.2.2; omega⟩)
      clear h4 hx c0 c1 c2
      have u9 : IntKind.i64.wrap ((k : Int) + 1) = (k : Int) + 1 := IntWalk.i64_in _ (by have := H.out.2.2.2.1.1; have := H.out.2.2.1; omega)
      go_wp2_with fail
      go_roundw
      case rel => exact ⟨k + 1, by go_num, by omega, HNX.out⟩
      case measure => simp [intOf]; omega
    · have hke : k = m := by omega
      subst hke
      have b1 : decide ((k : Int) < (k : Int)) = false := by simp
      have F := Lib.hid (show WPost W X r (S ++ listB opB l) (.returned (.tuple #[])) wr from by
        rw [List.drop_eq_nil_of_le (by have := H.out.2.2.1; omega), List.flatMap_nil, List.append_nil] at hpre
        rw [← hpre]
        exact ⟨rfl, v3, h3⟩)
      clear h3 hpre
      go_wp2_with fail
      go_end0
      exact F.out
end Go.Proofs.YtojkggppcmdepaaGreat

/- The writer of bytes: images, lists of moves. Conditions: all lies in memory, apart from the writer; what is written may be. -/
import Derived.Test.YtojkggppcmdepaaGreatTrH
namespace Go.Proofs.YtojkggppcmdepaaGreat
open Go.RowKit Go.Wh Go.Maps

/-- Where the cells of an element stand. -/
theorem flat_get {α : Type} {f : α → List Value} {sz : Nat} (hf : ∀ x, (f x).length = sz) : ∀ (l : List α) (k j : Nat) (x : α), l[k]? = some x → j < sz → (l.flatMap f)[k * sz + j]? = (f x)[j]?
  | [], _, _, _, h, _ => by simp at h
  | y :: l, 0, j, x, h, hj => by
    simp at h
    subst h
    rw [List.flatMap_cons, Nat.zero_mul, Nat.zero_add, List.getElem?_append_left (by rw [hf]; exact hj)]
  | y :: l, k + 1, j, x, h, hj => by
    rw [List.flatMap_cons, List.getElem?_append_right (by rw [hf, Nat.add_mul]; omega), hf]
    have e : (k + 1) * sz + j - sz = k * sz + j := by rw [Nat.add_mul]; omega
    rw [e]
    exact flat_get hf l k j x (by simpa using h) hj
theorem flat_len {α : Type} {f : α → List Value} {sz : Nat} (hf : ∀ x, (f x).length = sz) (l : List α) : (l.flatMap f).length = l.length * sz := by
  induction l with
  | nil => simp
  | cons x l ih => rw [List.flatMap_cons, List.length_append, hf, ih, List.length_cons, Nat.add_mul]; omega

def mvC (m : PMv) : List Value := [.int .i64 m.fp, .int .i64 m.fc, .int .i64 m.tp, .int .i64 m.tc]
def lvC (x : PLv) : List Value := [.int .i64 x.txn, .int .i64 x.last, .int .i64 x.next, .bool x.commit]
def dtC (x : PDt) : List Value := [.int .i64 x.page, .int .i64 x.rc]

set_option maxHeartbeats 1000000 in
theorem wimage_any {W w : World} {X Q : Nat → Prop} {r : Nat} {S : List Int} {v dv : Value} {m : Nat} {l : List Int} (h : WrAt W X r S v w) (hd : Sl W Q 1 dv m (bc l)) (hq : ∀ g, Q g → ¬ X g) (hm : m ≤ 26) (hb : Byt l) (hS : S.length ≤ 90000) :
    Calls Tryz.prog 62 #[.pointer (some ⟨r, 0, none⟩), dv] w (WPost W X r (S ++ imB l)) := by
  have hlen : l.length = m := by have := hd.1; rw [bc_length] at this; omega
  have H := Lib.hid (And.intro h (And.intro hd (And.intro hm (And.intro hb hS))))
  have HN := Lib.hid (fun tt => show Calls Tryz.prog 60 #[.pointer (some ⟨r, 0, none⟩), .int .i64 1, .slice (some ⟨w.heap.size, 0, none⟩) 1 1] (w.alloc (.cells #[.int .i64 (m : Int)] tt)) (fun e w2 => e = .returned (.tuple #[]) ∧ ∃ v2, WrAt W X r (S ++ numsB 1 [(m : Int)]) v2 w2 ∧ Sl w2 Q 1 dv m (bc l)) from by
    refine (num1 1 rfl (m : Int) tt rfl h (by omega) (by omega) (by omega)).mono ?_
    rintro e w2 ⟨rfl, v2, h2⟩
    exact ⟨rfl, v2, h2, hd.only h2.only hq⟩)
  have HL := Lib.hid hlen
  obtain ⟨da, dc, rfl⟩ := hd.form
  obtain ⟨i0, hi0, hz0, hz1, hz2⟩ := info_parts info_b
  have HI := Lib.hid (And.intro hi0 (And.intro hz0 (And.intro hz1 hz2)))
  clear h hd hq hm hb hS hlen hi0 hz0 hz1 hz2
  go_enter Tryz.func62, Tryz.ntmps62
  go_wp2_with fail
  refine (HN.out _).mono ?_
  rintro e w2 ⟨rfl, v2, h2, hd2⟩
  obtain ⟨va, vc, rfl⟩ := h2.vec.form'
  have c0 : w2.cell? ⟨r, 0, none⟩ = some (.slice va (S ++ numsB 1 [(m : Int)]).length vc) := h2.cells.cell 0
  have H2 := Lib.hid (And.intro h2 hd2)
  clear h2 hd2 HN
  generalize hpl : (S ++ numsB 1 [(m : Int)]).length = pl at *
  have HP := Lib.hid hpl
  clear hpl
  go_wp2_with (at_builtin; refine wpList_append_vec rfl _ _ 23 rfl 5 i0 _ 1 1 Tryz.underlying23 HI.out.1 HI.out.2.1 HI.out.2.2.1 HI.out.2.2.2 rfl (by decide) (.slice va pl vc) pl (bc (S ++ numsB 1 [(m : Int)])) (by simp [Act.eval]) ?_ (.slice da m dc) m (bc l) (by simp [Act.eval]) H2.out.2.reads (bc_one _) ?_ ?_ ?_)
  · have := H2.out.1.vec
    rwa [HP.out] at this
  · have := HP.out; rw [List.length_append, numsB_length] at this; simp only [List.length_cons, List.length_nil] at this; have := H.out; simp only [maxLen]; omega
  · have := HP.out; rw [List.length_append, numsB_length] at this; simp only [List.length_cons, List.length_nil] at this; have := H.out; omega
  · intro v' w' hv' ho' hb'
    have h3 := H2.out.1.put (Y := l) (by rw [HL.out, HP.out]; exact hv') ho' hb' H.out.2.2.2.1
    have hcl := (H2.out.1.cells.only ho' fun e => (H2.out.1.own r e).2.1 rfl)
    have c1 := hcl.cell 0
    have f1 := hcl.free 0
    obtain ⟨va', vc', rfl⟩ := hv'.form'
    have F := Lib.hid (show WPost W X r (S ++ imB l) (.returned (.tuple #[])) (w'.setCell ⟨r, 0, none⟩ (.slice va' (pl + m) vc')) from ⟨rfl, _, by
      have e : S ++ imB l = S ++ numsB 1 [(m : Int)] ++ l := by
        unfold imB
        rw [HL.out, List.append_assoc]
      rw [e]
      exact h3⟩)
    clear h3 hcl hv' ho' hb' c0
    go_wp2_with fail
    go_end0
    exact F.out
end Go.Proofs.YtojkggppcmdepaaGreat

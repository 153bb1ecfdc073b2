/- What is scanned is what stands there; how much tiles say: plain. No program. No conditions. -/
import Derived.Test.YtojkggppcmdepaaGreatTrG
import Derived.Test.YtojkggppcmdepaaGreatTrN
namespace Go.Proofs.YtojkggppcmdepaaGreat

theorem readB_len : ∀ (l : List (List Int)), (readB l).length ≤ 63 * l.length
  | [] => Nat.le_refl _
  | s :: l => by
    rw [readB_cons]
    split
    · simp
    · rename_i h
      have h1 := readB_len l
      have h2 : ((s.drop 1).take (s.headD 0).toNat).length ≤ 63 := by
        rw [List.length_take]
        omega
      rw [List.length_append, List.length_cons]
      split
      · simp only [List.length_nil]; omega
      · omega
theorem readB_byt : ∀ (l : List (List Int)), (∀ s ∈ l, Byt s) → Byt (readB l)
  | [], _ => fun z hz => by cases hz
  | s :: l, h => by
    rw [readB_cons]
    split
    · intro z hz; cases hz
    · refine (((h s (by simp)).drop 1).take _).append ?_
      split
      · intro z hz; cases hz
      · exact readB_byt l fun x hx => h x (by simp [hx])
theorem encB_parts {e : PE} (h : Byt (encB e)) : Byt e.old ∧ Byt e.new := by
  constructor
  · intro z hz
    refine h z ?_
    unfold encB imB
    simp only [List.mem_append]
    simp [hz]
  · intro z hz
    refine h z ?_
    unfold encB imB
    simp only [List.mem_append]
    simp [hz]
theorem firstB_is {b : List Int} (hb : Byt b) {e : PE} {n : Nat} (h : firstB b = some (e, n)) : b.take n = frameB e ∧ n = (frameB e).length ∧ e.may = true ∧ Byt e.old ∧ Byt e.new := by
  match b with
  | [] => cases h
  | [_] => cases h
  | x :: y :: t =>
    have hx := hb x (by simp)
    have hy := hb y (by simp)
    have ht : Byt t := fun z hz => hb z (by simp [hz])
    rw [firstB_cons] at h
    obtain ⟨N, hN⟩ : ∃ N : Nat, x * 256 + y = (N : Int) := ⟨(x * 256 + y).toNat, by omega⟩
    rw [hN, Int.toNat_natCast] at h
    split at h
    · cases h
    · rename_i hl
      split at h
      · rename_i hc
        rw [Option.map_eq_some_iff] at h
        obtain ⟨e', he, hq⟩ := h
        cases hq
        obtain ⟨hm, hte⟩ := (takeE_iff _ _).1 he
        have hlen : (encB e).length = N := by
          rw [← hte, List.length_take]
          omega
        have hbe : Byt (encB e) := by
          rw [← hte]
          exact ht.take N
        have hp := encB_parts hbe
        refine ⟨?_, by rw [frameB_length, hlen]; omega, hm, hp.1, hp.2⟩
        have e1 : (x :: y :: t).take (N + 4) = x :: y :: t.take (N + 2) := by
          rw [show N + 4 = (N + 2) + 1 + 1 by omega, List.take_succ_cons, List.take_succ_cons]
        have e2 : t.take (N + 2) = t.take N ++ (t.drop N).take 2 := by rw [List.take_add]
        rw [e1, e2, hc, hte]
        unfold frameB
        rw [numsB2, hlen]
        have hx2 : (N : Int) / 256 % 256 = x := by omega
        have hy2 : (N : Int) % 256 = y := by omega
        rw [hx2, hy2]
        rfl
      · cases h
theorem scanB_is : ∀ (k : Nat) (b : List Int), Byt b → b.take (scanB k b).2 = streamB (scanB k b).1 ∧ (∀ e ∈ (scanB k b).1, e.may = true) ∧ ∀ e ∈ (scanB k b).1, Byt e.old ∧ Byt e.new
  | 0, b, _ => ⟨rfl, (fun e he => by cases he), (fun e he => by cases he)⟩
  | k + 1, b, hb => by
    unfold scanB
    cases hf : firstB b with
    | none => exact ⟨rfl, (fun e he => by cases he), (fun e he => by cases he)⟩
    | some p =>
      obtain ⟨e, n⟩ := p
      obtain ⟨h1, h2, h3, h4, h5⟩ := firstB_is hb hf
      obtain ⟨i1, i2, i3⟩ := scanB_is k (b.drop n) (hb.drop n)
      simp only
      refine ⟨?_, fun x hx => ?_, fun x hx => ?_⟩
      · rw [List.take_add, h1, i1]
        rfl
      · rcases List.mem_cons.1 hx with rfl | hx
        · exact h3
        · exact i2 x hx
      · rcases List.mem_cons.1 hx with rfl | hx
        · exact ⟨h4, h5⟩
        · exact i3 x hx
/-- What the tiles say of a stream that was laid there is scanned whole. -/
theorem scan_laid {T : List (List Int)} {a n : Nat} {es : List PE} (hl : a + n ≤ T.length) (hm : ∀ e ∈ es, e.may = true) (hs : (streamB es).length ≤ n * 63) : (scanB ((readB (tls (layB T a (streamB es) n) a n)).length + 1) (readB (tls (layB T a (streamB es) n) a n))).1 = es := by
  rw [layB_read hl hs]
  have := scanB_stream firstB_nil es ((streamB es).length + 1) hm (by have := streamB_len es; omega)
  rw [List.append_nil] at this
  rw [this]
end Go.Proofs.YtojkggppcmdepaaGreat

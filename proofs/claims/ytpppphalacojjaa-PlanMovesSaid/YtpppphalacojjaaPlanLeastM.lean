/- The keys of PlanLeast: spots of bytes, each byte's first one, and what the sorted ones are. No conditions. -/
import Derived.Test.YtpppphalacojjaaPlanBegun
import Derived.Test.YtpppphalacojjaaRow
import Derived.Laws.BytesArg
namespace Go.Proofs.Ytpppphalacojjaa
open Go.RowKit Go.Wh

def kz (z : Int) : ByteArray := strOfNums [z]
theorem kz_list (z : Int) : (kz z).toList = [UInt8.ofNat z.toNat] := by
  rw [ByteArray.toList_eq]
  rfl
theorem kz_lt {a b : Int} (a0 : 0 ≤ a) (a1 : a < 256) (b0 : 0 ≤ b) (b1 : b < 256) : bl (kz a) (kz b) = decide (a < b) := by
  apply Bool.eq_iff_iff.2
  rw [bl_iff, kz_list, kz_list]
  have e : ([UInt8.ofNat a.toNat] < [UInt8.ofNat b.toNat]) ↔ UInt8.ofNat a.toNat < UInt8.ofNat b.toNat := by rw [List.cons_lt_cons_iff]; exact ⟨fun h => h.elim id (fun h => absurd h.2 (List.not_lt_nil _)), .inl⟩
  rw [e, UInt8.lt_iff_toNat_lt, UInt8.toNat_ofNat', UInt8.toNat_ofNat']
  simp
  omega
theorem kz_inj {a b : Int} (a0 : 0 ≤ a) (a1 : a < 256) (b0 : 0 ≤ b) (b1 : b < 256) (h : kz a = kz b) : a = b := by
  have h1 := kz_lt a0 a1 b0 b1
  have h2 := kz_lt b0 b1 a0 a1
  rw [h, bl_irrefl] at h1
  rw [h, bl_irrefl] at h2
  simp at h1 h2
  omega

def fsts (zs : List Int) : Nat → List Spot
  | 0 => []
  | i + 1 => fsts zs i ++ (if zs.getD i 0 ∈ zs.take i then [] else [⟨kz (zs.getD i 0), i, 0⟩])

theorem fsts_len (zs : List Int) : ∀ i, (fsts zs i).length ≤ i
  | 0 => Nat.le_refl _
  | i + 1 => by
    have := fsts_len zs i
    unfold fsts
    split <;> simp <;> omega
theorem fsts_mem (zs : List Int) : ∀ i s, s ∈ fsts zs i → ∃ j, j < i ∧ s = ⟨kz (zs.getD j 0), j, 0⟩ ∧ ¬ zs.getD j 0 ∈ zs.take j
  | 0, s, h => by cases h
  | i + 1, s, h => by
    unfold fsts at h
    rcases List.mem_append.1 h with h | h
    · obtain ⟨j, h1, h2⟩ := fsts_mem zs i s h
      exact ⟨j, by omega, h2⟩
    · split at h
      · cases h
      · rename_i hn
        exact ⟨i, by omega, List.mem_singleton.1 h, hn⟩
theorem take_getD {zs : List Int} {i : Nat} {z : Int} (h : z ∈ zs.take i) : ∃ j, j < i ∧ j < zs.length ∧ zs.getD j 0 = z := by
  obtain ⟨j, hj, e⟩ := List.mem_iff_getElem.1 h
  simp at hj
  refine ⟨j, by omega, by omega, ?_⟩
  rw [List.getD_eq_getElem?_getD, List.getElem?_eq_getElem (by omega)]
  simpa using e
theorem getD_take {zs : List Int} {i j : Nat} (h : j < i) (hj : j < zs.length) : zs.getD j 0 ∈ zs.take i := by
  rw [List.getD_eq_getElem?_getD, List.getElem?_eq_getElem hj]
  exact List.mem_iff_getElem.2 ⟨j, by simp; omega, by simp⟩
theorem fsts_cover (zs : List Int) : ∀ i, i ≤ zs.length → ∀ z, z ∈ zs.take i → ∃ s ∈ fsts zs i, s.key = kz z
  | 0, _, z, h => by simp at h
  | i + 1, hi, z, h => by
    by_cases hz : z ∈ zs.take i
    · obtain ⟨s, h1, h2⟩ := fsts_cover zs i (by omega) z hz
      exact ⟨s, by unfold fsts; exact List.mem_append_left _ h1, h2⟩
    · obtain ⟨j, h1, h2, h3⟩ := take_getD h
      have : j = i := by
        by_cases hj : j = i
        · exact hj
        · exact absurd (h3 ▸ getD_take (by omega) h2) hz
      subst this
      refine ⟨⟨kz (zs.getD j 0), j, 0⟩, ?_, by rw [h3]⟩
      unfold fsts
      rw [h3, if_neg hz]
      exact List.mem_append_right _ (List.mem_singleton.2 rfl)
theorem fsts_distinct (zs : List Int) (hz : ∀ j, j < zs.length → 0 ≤ zs.getD j 0 ∧ zs.getD j 0 < 256) : ∀ i, i ≤ zs.length → Distinct (fsts zs i)
  | 0, _ => List.Pairwise.nil
  | i + 1, hi => by
    unfold fsts Distinct
    refine List.pairwise_append.2 ⟨fsts_distinct zs hz i (by omega), ?_, fun a ha b hb => ?_⟩
    · split <;> simp
    · split at hb
      · cases hb
      · rename_i hn
        obtain ⟨j, h1, h2, _⟩ := fsts_mem zs i a ha
        rw [List.mem_singleton.1 hb, h2]
        intro e
        have a1 := hz j (by omega)
        have a2 := hz i (by omega)
        have := kz_inj a1.1 a1.2 a2.1 a2.2 e
        exact hn (this ▸ getD_take h1 (by omega))

/-- What the sorted ones are. -/
structure Lf (zs : List Int) (n : Nat) (l : List Spot) : Prop where
  at_ : ∀ i (h : i < l.length), ∃ p : Nat, p < n ∧ l[i] = ⟨kz (zs.getD p 0), p, 0⟩
  lt : ∀ i (h : i + 1 < l.length), zs.getD (l[i]'(by omega)).p.toNat 0 < zs.getD (l[i + 1]).p.toNat 0
  gap : ∀ i (h : i + 1 < l.length), ∀ z ∈ zs.take n, z ≤ zs.getD (l[i]'(by omega)).p.toNat 0 ∨ zs.getD (l[i + 1]).p.toNat 0 ≤ z
  gap0 : ∀ (h : 0 < l.length), ∀ z ∈ zs.take n, zs.getD (l[0]).p.toNat 0 ≤ z

theorem lf_of {zs : List Int} {n : Nat} {l : List Spot} (hn : n ≤ zs.length) (hz : ∀ j, j < zs.length → 0 ≤ zs.getD j 0 ∧ zs.getD j 0 < 256) (hp : l.Perm (fsts zs n)) (hs : Sorted l) : Lf zs n l := by
  have hd : Distinct l := (fsts_distinct zs hz n hn).perm hp.symm
  have at_ : ∀ i (h : i < l.length), ∃ p : Nat, p < n ∧ l[i] = ⟨kz (zs.getD p 0), p, 0⟩ := fun i h => by
    obtain ⟨j, h1, h2, _⟩ := fsts_mem zs n l[i] (hp.mem_iff.1 (List.getElem_mem _))
    exact ⟨j, h1, h2⟩
  have key : ∀ i (h : i < l.length), (l[i]).key = kz (zs.getD (l[i]).p.toNat 0) ∧ 0 ≤ zs.getD (l[i]).p.toNat 0 ∧ zs.getD (l[i]).p.toNat 0 < 256 := fun i h => by
    obtain ⟨p, h1, h2⟩ := at_ i h
    rw [h2]
    have := hz p (by omega)
    exact ⟨rfl, this.1, this.2⟩
  have le : ∀ i j (hi : i < j) (hj : j < l.length), zs.getD (l[i]'(by omega)).p.toNat 0 < zs.getD (l[j]).p.toNat 0 := fun i j hi hj => by
    have h1 := (List.pairwise_iff_getElem.1 hs) i j (by omega) hj hi
    have h2 := (List.pairwise_iff_getElem.1 hd) i j (by omega) hj hi
    obtain ⟨k1, a0, a1⟩ := key i (by omega)
    obtain ⟨k2, b0, b1⟩ := key j hj
    rw [k1, k2, kz_lt b0 b1 a0 a1] at h1
    rw [k1, k2] at h2
    have h1 := of_decide_eq_false h1
    rcases Int.lt_or_eq_of_le (Int.not_lt.1 h1) with h | h
    · exact h
    · exact absurd (by rw [h]) h2
  have cover : ∀ z ∈ zs.take n, ∃ m, ∃ h : m < l.length, zs.getD (l[m]).p.toNat 0 = z := fun z hzz => by
    obtain ⟨s, h1, h2⟩ := fsts_cover zs n hn z hzz
    obtain ⟨m, hm, e⟩ := List.mem_iff_getElem.1 (hp.mem_iff.2 h1)
    refine ⟨m, hm, ?_⟩
    obtain ⟨k1, a0, a1⟩ := key m hm
    obtain ⟨j, j1, j2, j3⟩ := take_getD hzz
    have := hz j j2
    rw [j3] at this
    rw [e, h2] at k1
    rw [e] at a0 a1 ⊢
    exact (kz_inj this.1 this.2 a0 a1 k1).symm
  refine ⟨at_, fun i h => le i (i + 1) (by omega) h, fun i h z hzz => ?_, fun h z hzz => ?_⟩
  · obtain ⟨m, hm, e⟩ := cover z hzz
    by_cases hmi : m ≤ i
    · left
      rcases Nat.lt_or_eq_of_le hmi with h1 | rfl
      · have := le m i h1 (by omega)
        omega
      · omega
    · right
      rcases Nat.lt_or_eq_of_le (show i + 1 ≤ m by omega) with h1 | rfl
      · have := le (i + 1) m h1 hm
        omega
      · omega
  · obtain ⟨m, hm, e⟩ := cover z hzz
    rcases Nat.eq_zero_or_pos m with rfl | h1
    · omega
    · have := le 0 m h1 hm
      omega
end Go.Proofs.Ytpppphalacojjaa

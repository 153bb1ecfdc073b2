/- Trail: bytes, sums, tiles: plain. No program. No conditions. -/
import Derived.WalkKit
namespace Go.Proofs.YtojkggppcmdepaaGreat

/-- Bytes. -/
def Byt (l : List Int) : Prop := ∀ z ∈ l, 0 ≤ z ∧ z ≤ 255
theorem Byt.append {a b : List Int} (ha : Byt a) (hb : Byt b) : Byt (a ++ b) := fun z hz => (List.mem_append.1 hz).elim (ha z) (hb z)
theorem Byt.left {a b : List Int} (h : Byt (a ++ b)) : Byt a := fun z hz => h z (List.mem_append_left _ hz)
theorem Byt.right {a b : List Int} (h : Byt (a ++ b)) : Byt b := fun z hz => h z (List.mem_append_right _ hz)
theorem Byt.drop {a : List Int} (h : Byt a) (n : Nat) : Byt (a.drop n) := fun z hz => h z (List.mem_of_mem_drop hz)
theorem Byt.take {a : List Int} (h : Byt a) (n : Nat) : Byt (a.take n) := fun z hz => h z (List.mem_of_mem_take hz)
theorem Byt.zeros (n : Nat) : Byt (List.replicate n 0) := fun z hz => by
  rw [(List.mem_replicate.1 hz).2]
  omega

/-- A number as so many bytes, the highest first. -/
def numB : Nat → Int → List Int
  | 0, _ => []
  | n + 1, v => v / 256 ^ n % 256 :: numB n v
theorem numB_length (n : Nat) (v : Int) : (numB n v).length = n := by
  induction n with
  | zero => rfl
  | succ n ih => simp [numB, ih]
theorem numB_byt (n : Nat) (v : Int) : Byt (numB n v) := by
  induction n with
  | zero => intro z hz; cases hz
  | succ n ih =>
    intro z hz
    rcases List.mem_cons.1 hz with rfl | hz
    · omega
    · exact ih z hz
def numsB (n : Nat) (l : List Int) : List Int := l.flatMap (numB n)
theorem numsB_length (n : Nat) (l : List Int) : (numsB n l).length = l.length * n := by
  induction l with
  | nil => simp [numsB]
  | cons a l ih =>
    have : numsB n (a :: l) = numB n a ++ numsB n l := rfl
    rw [this, List.length_append, numB_length, ih, List.length_cons, Nat.add_mul]
    omega
theorem numsB_byt (n : Nat) (l : List Int) : Byt (numsB n l) := fun z hz => by
  obtain ⟨v, _, h⟩ := List.mem_flatMap.1 hz
  exact numB_byt n v z h

/-- The two sums. -/
def sumB : List Int → Int × Int → Int × Int
  | [], s => s
  | c :: l, (x, y) => sumB l ((x + c) % 255, (y + (x + c) % 255) % 255)
def chkB (b : List Int) : List Int := [(sumB b (0, 0)).1, (sumB b (0, 0)).2]
theorem sumB_range (b : List Int) : ∀ s : Int × Int, 0 ≤ s.1 ∧ s.1 < 255 → 0 ≤ s.2 ∧ s.2 < 255 → (0 ≤ (sumB b s).1 ∧ (sumB b s).1 < 255) ∧ 0 ≤ (sumB b s).2 ∧ (sumB b s).2 < 255 := by
  induction b with
  | nil => intro s h1 h2; exact ⟨h1, h2⟩
  | cons c l ih =>
    intro s h1 h2
    obtain ⟨x, y⟩ := s
    unfold sumB
    exact ih _ (by simp only; omega) (by simp only; omega)
/-- What the i-th tile says of a stream. -/
def partB (S : List Int) (i : Nat) : List Int := (S.drop (i * 63)).take 63
def tileB (S : List Int) (i : Nat) : List Int := ((partB S i).length : Int) :: (partB S i ++ List.replicate (63 - (partB S i).length) 0)
theorem partB_length (S : List Int) (i : Nat) : (partB S i).length = min 63 (S.length - i * 63) := by
  unfold partB
  rw [List.length_take, List.length_drop]
theorem tileB_length (S : List Int) (i : Nat) : (tileB S i).length = 64 := by
  unfold tileB
  have := partB_length S i
  simp only [List.length_cons, List.length_append, List.length_replicate]
  omega
/-- What is read of tiles. -/
def readB : List (List Int) → List Int
  | [] => []
  | s :: l => if 63 < s.headD 0 then [] else (s.drop 1).take (s.headD 0).toNat ++ (if s.headD 0 < 63 then [] else readB l)
theorem readB_tiles (S : List Int) : ∀ (n i : Nat), S.length ≤ (i + n) * 63 → readB ((List.range n).map fun j => tileB S (i + j)) = S.drop (i * 63)
  | 0, i, h => by
    rw [List.drop_eq_nil_of_le (by omega)]
    rfl
  | n + 1, i, h => by
    have e : (List.range (n + 1)).map (fun j => tileB S (i + j)) = tileB S i :: (List.range n).map fun j => tileB S (i + 1 + j) := by
      rw [List.range_succ_eq_map, List.map_cons, List.map_map]
      congr 1
      refine List.map_congr_left fun j _ => ?_
      show tileB S (i + (j + 1)) = _
      rw [Nat.add_assoc, Nat.add_comm 1 j]
    rw [e]
    unfold readB
    have hp := partB_length S i
    have h1 : (tileB S i).headD 0 = ((partB S i).length : Int) := rfl
    have h2 : (tileB S i).drop 1 = partB S i ++ List.replicate (63 - (partB S i).length) 0 := rfl
    rw [h1, h2, if_neg (by omega), Int.toNat_natCast, List.take_left' rfl]
    by_cases hf : ((partB S i).length : Int) < 63
    · rw [if_pos hf, List.append_nil]
      unfold partB
      rw [List.take_of_length_le]
      rw [List.length_drop]
      omega
    · rw [if_neg hf, readB_tiles S n (i + 1) (by omega)]
      unfold partB
      rw [show (i + 1) * 63 = i * 63 + 63 by omega, ← List.drop_drop, List.take_append_drop]

/-- The number of some bytes. -/
def decB (l : List Int) : Int := l.foldl (fun v x => v * 256 + x) 0
theorem dec1 {v : Int} (h : 0 ≤ v ∧ v < 256) : decB (numB 1 v) = v := by
  simp only [decB, numB, List.foldl_cons, List.foldl_nil]
  omega
theorem dec2 {v : Int} (h : 0 ≤ v ∧ v < 65536) : decB (numB 2 v) = v := by
  simp only [decB, numB, List.foldl_cons, List.foldl_nil]
  omega
theorem dec3 {v : Int} (h : 0 ≤ v ∧ v < 16777216) : decB (numB 3 v) = v := by
  simp only [decB, numB, List.foldl_cons, List.foldl_nil]
  omega
end Go.Proofs.YtojkggppcmdepaaGreat

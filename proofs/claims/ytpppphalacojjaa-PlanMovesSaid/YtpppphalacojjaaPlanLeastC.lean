/- PlanLeast: the two answers of Next. No conditions. -/
import Derived.Test.YtpppphalacojjaaPlanLeastB
namespace Go.Proofs.Ytpppphalacojjaa
open Go.RowKit Go.Wh

theorem least_next (A : List Spot) (m j : Nat) (v vc : Value) (w : World) (hA : A.length = m) (hm : m ≤ 12) (hd : Distinct A) (hv : Vec w 3 v m (flat A)) (hj : j ≤ 3) (hc : Vec w 2 vc j (flatR (rids j))) :
    Calls Try.prog 11 #[v, vc] w (NextPost w A (rids j)) := by
  subst hA
  exact next_of A (rids j) v vc w (sorted_small v _ A w hv.reads (by omega)) hd (by omega) (by rw [rids_len]; omega) (by rw [rids_len]; exact hc)

/-- What holds at the start of the last part. -/
structure Fin (zs : List Int) (n m j q r : Nat) (W : World) (v1 v2 vc : Value) (l : List Spot) (w : World) : Prop where
  lf : Lf zs n l
  len : l.length = m
  q_ : q = min (min m j) 2
  x : Vec w 4 v1 q (flatM (mvs (l.take 2) ((rids j).take 2)))
  y : Vec w 4 v2 q (flatM (mvs (l.take 2) ((rids j).take 2)))
  c : Vec w 2 vc j (flatR (rids j))
  flags : Flags w r 256 (fun k => decide ((k : Int) ∈ zs.take n))
  below : Below W.heap.size W w

theorem fin_of {zs : List Int} {n m j r : Nat} {W w3 w4 w5 : World} {vc : Value} {B : List Spot} {e1 e2 : Ending} (hn : n ≤ zs.length) (hz : ∀ j, j < zs.length → 0 ≤ zs.getD j 0 ∧ zs.getD j 0 < 256) (hm : (fsts zs n).length = m) (hB : B.Perm (fsts zs n))
    (hc : Vec w3 2 vc j (flatR (rids j))) (hf : Flags w3 r 256 (fun k => decide ((k : Int) ∈ zs.take n))) (hb : Below W.heap.size W w3)
    (h1 : NextPost w3 (fsts zs n) (rids j) e1 w4) (h2 : NextPost w4 B (rids j) e2 w5) : ∃ v1 v2 l, e1 = .returned v1 ∧ e2 = .returned v2 ∧ Fin zs n m j (min (min m j) 2) r W v1 v2 vc l w5 := by
  obtain ⟨v1, l1, he1, hp1, hs1, hv1, hb1, _⟩ := h1
  obtain ⟨v2, l2, he2, hp2, hs2, hv2, hb2, _⟩ := h2
  have hd := (fsts_distinct zs hz n hn).perm hp1.symm
  have el : l1 = l2 := sorted_unique (hp1.trans (hp2.trans hB).symm) hs1 hs2 hd
  subst el
  have hBl : B.length = m := hB.length_eq.trans hm
  rw [rids_len, hm] at hv1
  rw [rids_len, hBl] at hv2
  have hr := hf.lt (by omega)
  have hb12 : Below w3.heap.size w3 w5 := hb1.trans (Below.mono hb2 hb1.size)
  exact ⟨v1, v2, l1, he1, he2, lf_of hn hz hp1 hs1, hp1.length_eq.trans hm, rfl, hv1.belowAll hb2, hv2, hc.belowAll hb12, hf.kept (hb12.block r hr), hb.trans (Below.mono hb12 hb.size)⟩

theorem Fin.drewN {zs : List Int} {n m j q r : Nat} {W : World} {v1 v2 vc : Value} {l : List Spot} {w : World} (h : Fin zs n m j q r W v1 v2 vc l w) (k : Nat) : Fin zs n m j q r W v1 v2 vc l (w.drewN k) :=
  have hb : Below w.heap.size w (w.drewN k) := below_drewN (Below.refl _ _) k
  ⟨h.lf, h.len, h.q_, h.x.belowAll hb, h.y.belowAll hb, h.c.belowAll hb, h.flags.kept (hb.block r (h.flags.lt (by omega))), below_drewN h.below k⟩

theorem mv_of {w : World} {g o n cap : Nat} {l : List Mv} (h : VecAt w 4 g o n cap (flatM l)) (k : Nat) (hk : k < l.length) : w.cell? ⟨g, o + k * 4, none⟩ = some (.int .i64 l[k].fp) ∧ w.cell? ⟨g, o + k * 4 + 1, none⟩ = some (.int .i64 l[k].fc) ∧ w.cell? ⟨g, o + k * 4 + 2, none⟩ = some (.int .i64 l[k].tp) ∧ w.cell? ⟨g, o + k * 4 + 3, none⟩ = some (.int .i64 l[k].tc) := by
  have hl := h.len
  rw [flatM_length] at hl
  have e : l = l.take k ++ l[k] :: l.drop (k + 1) := by
    rw [← List.drop_eq_getElem_cons hk, List.take_append_drop]
  have ef : flatM l = flatM (l.take k) ++ flatM (l[k] :: l.drop (k + 1)) := by rw [← flatM_append, ← e]
  have e2 : (flatM (l.take k)).length = k * 4 := by rw [flatM_length]; simp; omega
  rw [flatM_cons] at ef
  have C : ∀ i, i < 4 → w.cell? ⟨g, o + (k * 4 + i), none⟩ = ([Value.int .i64 l[k].fp, .int .i64 l[k].fc, .int .i64 l[k].tp, .int .i64 l[k].tc] ++ flatM (l.drop (k + 1)))[i]? := fun i hi => by
    rw [h.cells _ (by omega), ef, List.getElem?_append_right (by omega), e2, Nat.add_sub_cancel_left]
    rfl
  refine ⟨C 0 (by omega), ?_, ?_, ?_⟩
  · rw [Nat.add_assoc]; exact C 1 (by omega)
  · rw [Nat.add_assoc]; exact C 2 (by omega)
  · rw [Nat.add_assoc]; exact C 3 (by omega)

/-- One round of the last part. -/
structure Rd (zs : List Int) (n r : Nat) (w : World) (g1 o1 g2 o2 g3 o3 t : Nat) (p : Nat) : Prop where
  pn : p < n
  x0 : w.cell? ⟨g1, o1 + t * 4, none⟩ = some (.int .i64 p)
  x1 : w.cell? ⟨g1, o1 + t * 4 + 1, none⟩ = some (.int .i64 0)
  x2 : w.cell? ⟨g1, o1 + t * 4 + 2, none⟩ = some (.int .i64 20)
  x3 : w.cell? ⟨g1, o1 + t * 4 + 3, none⟩ = some (.int .i64 t)
  y0 : w.cell? ⟨g2, o2 + t * 4, none⟩ = some (.int .i64 p)
  y1 : w.cell? ⟨g2, o2 + t * 4 + 1, none⟩ = some (.int .i64 0)
  y2 : w.cell? ⟨g2, o2 + t * 4 + 2, none⟩ = some (.int .i64 20)
  y3 : w.cell? ⟨g2, o2 + t * 4 + 3, none⟩ = some (.int .i64 t)
  c0 : w.cell? ⟨g3, o3 + t * 2, none⟩ = some (.int .i64 20)
  c1 : w.cell? ⟨g3, o3 + t * 2 + 1, none⟩ = some (.int .i64 t)

/-- The last key that was seen, ahead of round t. -/
def lastOf (zs : List Int) (l : List Spot) : Nat → Int
  | 0 => -1
  | t + 1 => match l[t]? with | some s => zs.getD s.p.toNat 0 | none => 0

theorem lastOf_succ (zs : List Int) (l : List Spot) (t : Nat) (h : t < l.length) : lastOf zs l (t + 1) = zs.getD (l[t]).p.toNat 0 := by
  show (match l[t]? with | some s => zs.getD s.p.toNat 0 | none => 0) = _
  rw [List.getElem?_eq_getElem h]

theorem Fin.round {zs : List Int} {n m j q r : Nat} {W : World} {g1 o1 c1 g2 o2 c2 g3 o3 c3 : Nat} {l : List Spot} {w : World} (h : Fin zs n m j q r W (.slice (some ⟨g1, o1, none⟩) q c1) (.slice (some ⟨g2, o2, none⟩) q c2) (.slice (some ⟨g3, o3, none⟩) j c3) l w)
    (hn : n ≤ zs.length) (hz : ∀ j, j < zs.length → 0 ≤ zs.getD j 0 ∧ zs.getD j 0 < 256) {t : Nat} (ht : t < q) :
    ∃ p, Rd zs n r w g1 o1 g2 o2 g3 o3 t p ∧ lastOf zs l (t + 1) = zs.getD p 0 ∧ lastOf zs l t < zs.getD p 0 ∧ -2 < lastOf zs l t ∧ 0 ≤ zs.getD p 0 ∧ zs.getD p 0 < 256 ∧ ∀ k : Int, lastOf zs l t < k → k < zs.getD p 0 → ¬ k ∈ zs.take n := by
  have hq := h.q_
  have htl : t < l.length := by rw [h.len]; omega
  obtain ⟨p, hp, e⟩ := h.lf.at_ t htl
  have hlen : (mvs (l.take 2) ((rids j).take 2)).length = q := by
    simp [mvs, rids_len, h.len, hq]
    omega
  have hme : (mvs (l.take 2) ((rids j).take 2))[t]'(by omega) = ⟨p, 0, 20, t⟩ := by
    simp only [mvs, List.getElem_zipWith, List.getElem_take, e, rids_at]
  obtain ⟨x0, x1, x2, x3⟩ := mv_of h.x.at t (by omega)
  obtain ⟨y0, y1, y2, y3⟩ := mv_of h.y.at t (by omega)
  obtain ⟨d0, d1⟩ := rid_of h.c.at t (by rw [rids_len]; omega)
  rw [hme] at x0 x1 x2 x3 y0 y1 y2 y3
  rw [rids_at] at d0 d1
  have hpz := hz p (by omega)
  have hl1 : lastOf zs l (t + 1) = zs.getD p 0 := by
    rw [lastOf_succ _ _ _ htl, e]
    rfl
  refine ⟨p, ⟨hp, x0, x1, x2, x3, y0, y1, y2, y3, d0, d1⟩, hl1, ?_, ?_, hpz.1, hpz.2, ?_⟩
  · cases t with
    | zero => show (-1 : Int) < _; omega
    | succ t =>
      have := h.lf.lt t htl
      rw [e] at this
      rw [lastOf_succ _ _ _ (by omega)]
      exact this
  · cases t with
    | zero => show (-2 : Int) < -1; omega
    | succ t =>
      obtain ⟨p', hp', e'⟩ := h.lf.at_ t (by omega)
      rw [lastOf_succ _ _ _ (by omega), e']
      have := (hz p' (by omega)).1
      show (-2 : Int) < zs.getD p' 0
      omega
  · intro k h1 h2 hk
    cases t with
    | zero =>
      have := h.lf.gap0 htl k hk
      rw [e] at this
      have : zs.getD p 0 ≤ k := this
      omega
    | succ t =>
      have := h.lf.gap t htl k hk
      rw [e] at this
      rw [lastOf_succ _ _ _ (by omega)] at h1
      rcases this with h3 | h3
      · exact absurd h3 (Int.not_le.2 h1)
      · have : zs.getD p 0 ≤ k := h3
        omega
end Go.Proofs.Ytpppphalacojjaa

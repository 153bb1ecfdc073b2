/- PlanMoves: what holds between the rounds of its loops. No conditions. -/
import Derived.Test.YtpppphalacojjaaPlanMovesM
import Derived.Test.YtpppphalacojjaaPlanLeastC
namespace Go.Proofs.Ytpppphalacojjaa
open Go.RowKit Go.Wh

theorem zero64 : ∀ w : World, (zeroValue 34).run Try.prog w = .ok (.agg (List.replicate 64 (.bool false)).toArray) w := fun w => by kernel_rfl

structure P1 (W : World) (r : Nat) (zs : List Int) (i : Nat) (v : Value) (wr : World) : Prop where
  flags : Flags wr r 64 (fun c => met zs i c)
  vec : Vec wr 3 v (hs zs i).length (flat (hs zs i))
  below : Below W.heap.size W wr
  r0 : W.heap.size ≤ r
  own : ∀ g, v.ownBlock = some g → W.heap.size ≤ g ∧ g ≠ r ∧ g < wr.heap.size

theorem P1.flag {W : World} {r : Nat} {zs : List Int} {i : Nat} {v : Value} {wr : World} (h : P1 W r zs i v wr) {c : Nat} (hc : c < 64) : wr.cell? ⟨r, c, none⟩ = some (.bool (met zs i c)) ∧ wr.frozen? ⟨r, c, none⟩ = false := h.flags c hc

theorem met_set {w : World} {r : Nat} {zs : List Int} {i c : Nat} (hc : c < 64) (e : mz zs i = (c : Int)) (h : Flags w r 64 (fun c => met zs i c)) : Flags (w.setCell ⟨r, c, none⟩ (.bool true)) r 64 (fun c => met zs (i + 1) c) := by
  refine (h.set (i := c) hc true).same fun j hj => ?_
  show (if j = c then true else met zs i j) = met zs (i + 1) j
  rw [met_next, e]
  by_cases hjc : j = c
  · subst hjc
    simp
  · have : ¬ (c : Int) = (j : Int) := by omega
    simp [hjc, this]

theorem P1.seen {W : World} {r : Nat} {zs : List Int} {i : Nat} {v : Value} {wr : World} (h : P1 W r zs i v wr) {c : Nat} (hc : c < 64) (e : mz zs i = (c : Int)) (hm : met zs i c = true) : P1 W r zs (i + 1) v (wr.setCell ⟨r, c, none⟩ (.bool true)) := by
  have ef : hs zs (i + 1) = hs zs i := by
    show hs zs i ++ _ = _
    rw [e, if_pos hm, List.append_nil]
  refine ⟨met_set hc e h.flags, ?_, h.below.setCell (p := ⟨r, c, none⟩) h.r0 _, h.r0, fun g hg => by have := h.own g hg; simpa [World.setCell] using this⟩
  rw [ef]
  exact h.vec.kept fun g hg _ => Below.heap_setCell _ _ _ _ (h.own g hg).2.1

structure P1App (T U : TypeId) (W : World) (r : Nat) (zs : List Int) (i : Nat) (v : Value) (wr : World) (c : Nat) (a p q : Int) : Prop where
  old : Vec ((wr.alloc (.cells #[.int .u8 a, .int .u8 i] T)).alloc (.cells #[.string (kz2 a i), .int .i64 p, .int .i64 q] U)) 3 v (hs zs i).length (flat (hs zs i))
  new : Reads ((wr.alloc (.cells #[.int .u8 a, .int .u8 i] T)).alloc (.cells #[.string (kz2 a i), .int .i64 p, .int .i64 q] U)) 3 (.slice (some ⟨wr.heap.size + 1, 0, none⟩) 1 1) 1 [.string (kz2 a i), .int .i64 p, .int .i64 q]
  next : ∀ v' w', Vec w' 3 v' ((hs zs i).length + 1) (flat (hs zs i) ++ [.string (kz2 a i), .int .i64 p, .int .i64 q]) → Only (fun k => v.ownBlock = some k) ((wr.alloc (.cells #[.int .u8 a, .int .u8 i] T)).alloc (.cells #[.string (kz2 a i), .int .i64 p, .int .i64 q] U)) w' →
    (v'.ownBlock = v.ownBlock ∨ ∃ g, v'.ownBlock = some g ∧ ((wr.alloc (.cells #[.int .u8 a, .int .u8 i] T)).alloc (.cells #[.string (kz2 a i), .int .i64 p, .int .i64 q] U)).heap.size ≤ g ∧ g < w'.heap.size) →
    w'.cell? ⟨r, c, none⟩ = some (.bool false) ∧ w'.frozen? ⟨r, c, none⟩ = false ∧ P1 W r zs (i + 1) v' (w'.setCell ⟨r, c, none⟩ (.bool true))

theorem P1.app (T U : TypeId) {W : World} {r : Nat} {zs : List Int} {i : Nat} {v : Value} {wr : World} (h : P1 W r zs i v wr) {c : Nat} (hc : c < 64) (e : mz zs i = (c : Int)) (hm : met zs i c = false) {a p q : Int} (ha : a = zs.getD i 0 / 64 + 97) (hp : p = (c : Int) / 4) (hq : q = (c : Int) % 4) : P1App T U W r zs i v wr c a p q := by
  have ef : hs zs (i + 1) = hs zs i ++ [⟨kz2 a i, p, q⟩] := by
    show hs zs i ++ _ = _
    rw [e, if_neg (by rw [hm]; simp)]
    unfold msp
    rw [e, ha, hp, hq]
  have hbl : Below W.heap.size W ((wr.alloc (.cells #[.int .u8 a, .int .u8 i] T)).alloc (.cells #[.string (kz2 a i), .int .i64 p, .int .i64 q] U)) := (h.below.alloc h.below.size _).alloc (by have := h.below.size; simp; omega) _
  refine ⟨(h.vec.alloc _).alloc _, ?_, fun v' w' hv ho hb => ?_⟩
  · have := reads_block (n := 1) (size := 3) (c := 1) (heap_alloc_new (wr.alloc (.cells #[.int .u8 a, .int .u8 i] T)) (.cells #[.string (kz2 a i), .int .i64 p, .int .i64 q] U)) rfl
    simp only [World.size_alloc] at this
    exact this
  · have hr := h.flags.lt (by omega)
    have hf : Flags w' r 64 (fun c => met zs i c) := h.flags.kept ((ho.block r (by simp; omega) (fun e => (h.own r e).2.1 rfl)).trans ((heap_alloc_old _ _ (by simp; omega)).trans (heap_alloc_old _ _ hr)))
    have hbw : Below W.heap.size W w' := hbl.trans (ho.below hbl.size (fun i hi e => by have := (h.own i e).1; omega))
    have hsz := ho.size
    have hown : ∀ g, v'.ownBlock = some g → W.heap.size ≤ g ∧ g ≠ r ∧ g < w'.heap.size := fun g hg => by
      rcases hb with e | ⟨g', e, h1, h2⟩
      · have := h.own g (e.symm.trans hg)
        simp at hsz
        omega
      · rw [e] at hg
        injection hg with hg
        have := h.below.size
        simp at h1
        omega
    have hcc := hf c hc
    simp only [hm] at hcc
    refine ⟨hcc.1, hcc.2, met_set hc e hf, ?_, hbw.setCell (p := ⟨r, c, none⟩) h.r0 _, h.r0, fun g hg => by have := hown g hg; simpa [World.setCell] using this⟩
    have hv2 : Vec w' 3 v' (hs zs (i + 1)).length (flat (hs zs (i + 1))) := by
      rw [ef, flat_append, List.length_append]
      exact hv
    exact hv2.kept fun g hg _ => Below.heap_setCell w' ⟨r, c, none⟩ _ g (hown g hg).2.1

/-- While free cells are collected. -/
structure F3 (d : Nat) (w : World) (c : Nat) (v : Value) (wr : World) : Prop where
  le : c ≤ 2
  vec : Vec wr 2 v c (flatR (fre d c))
  below : Below w.heap.size w wr
  own : ∀ g, v.ownBlock = some g → w.heap.size ≤ g
theorem F3.start (d : Nat) (w : World) : F3 d w 0 (.slice none 0 0) w := ⟨by omega, Vec.nil _ _, Below.refl _ _, fun g hg => by cases hg⟩

structure F3App (T : TypeId) (d : Nat) (w : World) (c : Nat) (v : Value) (w3 : World) (sz : Nat) (p q : Int) : Prop where
  old : Vec (w3.alloc (.cells #[.int .i64 p, .int .i64 q] T)) 2 v c (flatR (fre d c))
  new : Reads (w3.alloc (.cells #[.int .i64 p, .int .i64 q] T)) 2 (.slice (some ⟨sz, 0, none⟩) 1 1) 1 [.int .i64 p, .int .i64 q]
  next : ∀ v' w', Vec w' 2 v' (c + 1) (flatR (fre d c) ++ [.int .i64 p, .int .i64 q]) → Only (fun k => v.ownBlock = some k) (w3.alloc (.cells #[.int .i64 p, .int .i64 q] T)) w' →
    (v'.ownBlock = v.ownBlock ∨ ∃ g, v'.ownBlock = some g ∧ (w3.alloc (.cells #[.int .i64 p, .int .i64 q] T)).heap.size ≤ g ∧ g < w'.heap.size) → F3 d w (c + 1) v' w'

theorem F3.app (T : TypeId) {d : Nat} {w : World} {c : Nat} {v : Value} {wr w3 : World} (h : F3 d w c v wr) (hb3 : Below wr.heap.size wr w3) (hc : c < 2) {k sz : Nat} (hk : k = d + c) (hsz : w3.heap.size = sz) {p q : Int} (hp : p = 1 * 16 + (k : Int) / 3) (hq : q = (k : Int) % 3) : F3App T d w c v w3 sz p q := by
  subst hsz
  have hb := h.below.trans (Below.mono hb3 h.below.size)
  have hbl : Below w.heap.size w (w3.alloc (.cells #[.int .i64 p, .int .i64 q] T)) := hb.alloc hb.size _
  refine ⟨(h.vec.belowAll hb3).alloc _, reads_block (n := 1) (size := 2) (c := 1) (heap_alloc_new w3 _) rfl, fun v' w' hv ho hbk => ⟨by omega, ?_, hbl.trans (ho.below hbl.size (fun i hi e => by have := h.own i e; omega)), fun g hg => ?_⟩⟩
  · rw [fre_next, flatR_append]
    have e1 : (16 : Int) + ((d + c : Nat) : Int) / 3 = p := by rw [hp, hk]; omega
    have e2 : ((d + c : Nat) : Int) % 3 = q := by rw [hq, hk]
    rw [e1, e2]
    exact hv
  · rcases hbk with e | ⟨g', e, h1, _⟩
    · exact h.own g (e.symm.trans hg)
    · rw [e] at hg
      injection hg with hg
      have := hbl.size
      omega

/-- Ahead of each unit. -/
structure Out (W : World) (h0 T H : List Spot) (tv hv : Value) (wr : World) : Prop where
  mvd : Mvd h0 T H
  tvec : Vec wr 3 tv T.length (flat (thr 0 T))
  hvec : Vec wr 3 hv H.length (flat H)
  apart : Apart W.heap.size wr [tv, hv]
  below : Below W.heap.size W wr

/-- Ahead of each move of a unit. -/
structure In4 (W : World) (T L : List Spot) (M : List Mv) (mv : Value) (k : Nat) (H : List Spot) (tv hv : Value) (wr : World) : Prop where
  perm : H.Perm (L.drop k)
  tvec : Vec wr 3 tv (T ++ L.take k).length (flat (thr 0 (T ++ L.take k)))
  hvec : Vec wr 3 hv H.length (flat H)
  mvec : Vec wr 4 mv M.length (flatM M)
  apart : Apart W.heap.size wr [tv, hv, mv]
  below : Below W.heap.size W wr

/-- Ahead of each spot that is looked at. -/
structure In5 (W : World) (P : List Spot) (x : Spot) (H : List Spot) (hv : Value) (M : List Mv) (mv : Value) (j : Nat) (tv rv : Value) (wr : World) : Prop where
  tvec : Vec wr 3 tv (P ++ (H.take j).filter (sameAt x)).length (flat (thr 0 (P ++ (H.take j).filter (sameAt x))))
  rvec : Vec wr 3 rv ((H.take j).filter fun s => !sameAt x s).length (flat ((H.take j).filter fun s => !sameAt x s))
  hvec : Vec wr 3 hv H.length (flat H)
  mvec : Vec wr 4 mv M.length (flatM M)
  apart : Apart W.heap.size wr [tv, rv, hv, mv]
  below : Below W.heap.size W wr

theorem In4.begin_ {W : World} {T L : List Spot} {M : List Mv} {mv : Value} {k : Nat} {H : List Spot} {tv hv : Value} {wr : World} (h : In4 W T L M mv k H tv hv wr) (x : Spot) : In5 W (T ++ L.take k) x H hv M mv 0 tv (.slice none 0 0) wr :=
  ⟨by simpa using h.tvec, by simpa [flat] using Vec.nil wr 3, h.hvec, h.mvec, h.apart.nil_cons.perm (List.Perm.swap _ _ _), h.below⟩

theorem In5.end_ {W : World} {T L : List Spot} {M : List Mv} {mv : Value} {k n : Nat} {H : List Spot} {tv rv hv : Value} {x : Spot} {wr : World} (h : In5 W (T ++ L.take k) x H hv M mv n tv rv wr) (hn : H.length = n) (hp : H.Perm (L.drop k)) (hd : DistAt H) (hk : k < L.length) (hx : x = L[k]) :
    ∃ H', H'.length + 1 = n ∧ In4 W T L M mv (k + 1) H' tv rv wr := by
  have e1 : L.drop k = x :: L.drop (k + 1) := by rw [hx, List.drop_eq_getElem_cons hk]
  rw [e1] at hp
  obtain ⟨f1, f2⟩ := take_out hp hd
  have e2 : H.take n = H := List.take_of_length_le (by omega)
  have ht := h.tvec
  have hr := h.rvec
  rw [e2, f1] at ht
  rw [e2] at hr
  have e3 : T ++ L.take k ++ [x] = T ++ L.take (k + 1) := by rw [List.take_succ_eq_append_getElem hk, hx, List.append_assoc]
  rw [e3] at ht
  refine ⟨_, ?_, f2, ht, hr, h.mvec, (h.apart.perm (m := [hv, tv, rv, mv]) ?_).tail, h.below⟩
  · have h1 := hp.length_eq
    have h2 := f2.length_eq
    simp only [List.length_cons] at h1
    omega
  · exact (List.Perm.cons tv (List.Perm.swap hv rv [mv])).trans (List.Perm.swap hv tv [rv, mv])

theorem In5.drewN {W : World} {P : List Spot} {x : Spot} {H : List Spot} {hv : Value} {M : List Mv} {mv : Value} {j : Nat} {tv rv : Value} {wr : World} (h : In5 W P x H hv M mv j tv rv wr) (n : Nat) : In5 W P x H hv M mv j tv rv (wr.drewN n) :=
  have hb : Below wr.heap.size wr (wr.drewN n) := below_drewN (Below.refl _ _) n
  ⟨h.tvec.belowAll hb, h.rvec.belowAll hb, h.hvec.belowAll hb, h.mvec.belowAll hb, h.apart.grow hb.size, below_drewN h.below n⟩

/-- What is read in a round. -/
structure In5At (w : World) (gh oh gm om j k : Nat) (s : Spot) (m : Mv) : Prop where
  c0 : w.cell? ⟨gh, oh + j * 3, none⟩ = some (.string s.key)
  c1 : w.cell? ⟨gh, oh + j * 3 + 1, none⟩ = some (.int .i64 s.p)
  c2 : w.cell? ⟨gh, oh + j * 3 + 1 + 1, none⟩ = some (.int .i64 s.c)
  m0 : w.cell? ⟨gm, om + k * 4, none⟩ = some (.int .i64 m.fp)
  m1 : w.cell? ⟨gm, om + k * 4 + 1, none⟩ = some (.int .i64 m.fc)
  m2 : w.cell? ⟨gm, om + k * 4 + 2, none⟩ = some (.int .i64 m.tp)
  m3 : w.cell? ⟨gm, om + k * 4 + 2 + 1, none⟩ = some (.int .i64 m.tc)

theorem in5_at {w : World} {gh oh n ch gm om q cm : Nat} {H : List Spot} {M : List Mv} (hh : VecAt w 3 gh oh n ch (flat H)) (hm : VecAt w 4 gm om q cm (flatM M)) {j k : Nat} (hj : j < H.length) (hk : k < M.length) : In5At w gh oh gm om j k H[j] M[k] := by
  obtain ⟨c0, c1, c2⟩ := at_of hh j hj
  obtain ⟨m0, m1, m2, m3⟩ := mv_of hm k hk
  exact ⟨c0, c1, c2, m0, m1, m2, m3⟩

theorem app3_new (w : World) (key : ByteArray) (p c : Int) (T : TypeId) : Reads (w.alloc (.cells #[.string key, .int .i64 p, .int .i64 c] T)) 3 (.slice (some ⟨w.heap.size, 0, none⟩) 1 1) 1 [.string key, .int .i64 p, .int .i64 c] :=
  reads_block (n := 1) (size := 3) (c := 1) (heap_alloc_new w _) rfl

/-- The spot that is moved. -/
structure Hit (T : TypeId) (W : World) (P : List Spot) (x : Spot) (H : List Spot) (gh oh n ch : Nat) (M : List Mv) (gm om q cm : Nat) (j k : Nat) (tv rv : Value) (wr : World) (key : ByteArray) (p c : Int) : Prop where
  old : Vec (wr.drew.alloc (.cells #[.string key, .int .i64 p, .int .i64 c] T)) 3 tv P.length (flat (thr 0 P))
  new : Reads (wr.drew.alloc (.cells #[.string key, .int .i64 p, .int .i64 c] T)) 3 (.slice (some ⟨wr.heap.size, 0, none⟩) 1 1) 1 [.string key, .int .i64 p, .int .i64 c]
  kept : ∀ w', Only (fun k => tv.ownBlock = some k) (wr.drew.alloc (.cells #[.string key, .int .i64 p, .int .i64 c] T)) w' →
    w'.cell? ⟨gh, oh + j * 3, none⟩ = some (.string key) ∧ w'.cell? ⟨gm, om + k * 4 + 2, none⟩ = some (.int .i64 p) ∧ w'.cell? ⟨gm, om + k * 4 + 2 + 1, none⟩ = some (.int .i64 c)
  next : ∀ v' w', Vec w' 3 v' (P.length + 1) (flat (thr 0 P) ++ [.string key, .int .i64 p, .int .i64 c]) → Only (fun k => tv.ownBlock = some k) (wr.drew.alloc (.cells #[.string key, .int .i64 p, .int .i64 c] T)) w' →
    (v'.ownBlock = tv.ownBlock ∨ ∃ g, v'.ownBlock = some g ∧ (wr.drew.alloc (.cells #[.string key, .int .i64 p, .int .i64 c] T)).heap.size ≤ g ∧ g < w'.heap.size) → In5 W P x H (.slice (some ⟨gh, oh, none⟩) n ch) M (.slice (some ⟨gm, om, none⟩) q cm) (j + 1) v' rv w'

theorem In5.hit (T : TypeId) {W : World} {P : List Spot} {x : Spot} {H : List Spot} {gh oh n ch : Nat} {M : List Mv} {gm om q cm : Nat} {j k : Nat} {tv rv : Value} {wr : World} (h : In5 W P x H (.slice (some ⟨gh, oh, none⟩) n ch) M (.slice (some ⟨gm, om, none⟩) q cm) j tv rv wr)
    (hn : H.length = n) (hq : M.length = q) (hd : DistAt H) (hj : j < H.length) (hk : k < M.length) (hs : sameAt x H[j] = true) (hp : M[k].tp = 16 + (P.length : Int) / 3) (hc : M[k].tc = (P.length : Int) % 3) : Hit T W P x H gh oh n ch M gm om q cm j k tv rv wr H[j].key M[k].tp M[k].tc := by
  have hF := none_ahead hd hj hs
  have ht := h.tvec
  rw [hF, List.append_nil] at ht
  subst hn hq
  have hb0 : Below wr.heap.size wr (wr.drew.alloc (.cells #[.string H[j].key, .int .i64 M[k].tp, .int .i64 M[k].tc] T)) := below_drew.alloc (Nat.le_refl _) _
  have hap := h.apart.grow hb0.size
  have hB : W.heap.size ≤ (wr.drew.alloc (.cells #[.string H[j].key, .int .i64 M[k].tp, .int .i64 M[k].tc] T)).heap.size := Nat.le_trans h.below.size hb0.size
  refine ⟨ht.belowAll hb0, app3_new wr.drew _ _ _ T, fun w' ho => ?_, fun v' w' hv ho hbk => ?_⟩
  · have h1 := hap.kept ho (by simp) (h.hvec.belowAll hb0)
    have h2 := hap.kept ho (by simp) (h.mvec.belowAll hb0)
    have := in5_at h1.at h2.at hj hk
    exact ⟨this.c0, this.m2, this.m3⟩
  · have e1 : P ++ (H.take (j + 1)).filter (sameAt x) = P ++ [H[j]] := by
      rw [filter_take_next _ hj, hF, if_pos hs]
      rfl
    have e2 : (H.take (j + 1)).filter (fun s => !sameAt x s) = (H.take j).filter (fun s => !sameAt x s) := by
      rw [filter_take_next _ hj, if_neg (by rw [hs]; simp), List.append_nil]
    refine ⟨?_, ?_, hap.kept ho (by simp) (h.hvec.belowAll hb0), hap.kept ho (by simp) (h.mvec.belowAll hb0), hap.app hB ho.size hbk, hap.below (h.below.trans (Below.mono hb0 h.below.size)) hB ho⟩
    · rw [e1, thr_snoc, flat_append, List.length_append]
      have e3 : (16 : Int) + ((0 + P.length : Nat) : Int) / 3 = M[k].tp := by rw [hp, Nat.zero_add]
      have e4 : ((0 + P.length : Nat) : Int) % 3 = M[k].tc := by rw [hc, Nat.zero_add]
      rw [e3, e4]
      exact hv
    · rw [e2]
      exact hap.kept ho (by simp) (h.rvec.belowAll hb0)

/-- A spot that stays. -/
structure Mis (T : TypeId) (W : World) (P : List Spot) (x : Spot) (H : List Spot) (hv : Value) (M : List Mv) (mv : Value) (j : Nat) (tv rv : Value) (wr : World) (key : ByteArray) (p c : Int) : Prop where
  old : Vec (wr.alloc (.cells #[.string key, .int .i64 p, .int .i64 c] T)) 3 rv ((H.take j).filter fun s => !sameAt x s).length (flat ((H.take j).filter fun s => !sameAt x s))
  new : Reads (wr.alloc (.cells #[.string key, .int .i64 p, .int .i64 c] T)) 3 (.slice (some ⟨wr.heap.size, 0, none⟩) 1 1) 1 [.string key, .int .i64 p, .int .i64 c]
  next : ∀ v' w', Vec w' 3 v' (((H.take j).filter fun s => !sameAt x s).length + 1) (flat ((H.take j).filter fun s => !sameAt x s) ++ [.string key, .int .i64 p, .int .i64 c]) → Only (fun k => rv.ownBlock = some k) (wr.alloc (.cells #[.string key, .int .i64 p, .int .i64 c] T)) w' →
    (v'.ownBlock = rv.ownBlock ∨ ∃ g, v'.ownBlock = some g ∧ (wr.alloc (.cells #[.string key, .int .i64 p, .int .i64 c] T)).heap.size ≤ g ∧ g < w'.heap.size) → In5 W P x H hv M mv (j + 1) tv v' w'

theorem In5.mis (T : TypeId) {W : World} {P : List Spot} {x : Spot} {H : List Spot} {hv : Value} {M : List Mv} {mv : Value} {j : Nat} {tv rv : Value} {wr : World} (h : In5 W P x H hv M mv j tv rv wr)
    (hj : j < H.length) (hs : sameAt x H[j] = false) : Mis T W P x H hv M mv j tv rv wr H[j].key H[j].p H[j].c := by
  have hb0 : Below wr.heap.size wr (wr.alloc (.cells #[.string H[j].key, .int .i64 H[j].p, .int .i64 H[j].c] T)) := (Below.refl _ _).alloc (Nat.le_refl _) _
  have hap : Apart W.heap.size (wr.alloc (.cells #[.string H[j].key, .int .i64 H[j].p, .int .i64 H[j].c] T)) [rv, tv, hv, mv] := (h.apart.grow hb0.size).perm (List.Perm.swap _ _ _)
  have hB : W.heap.size ≤ (wr.alloc (.cells #[.string H[j].key, .int .i64 H[j].p, .int .i64 H[j].c] T)).heap.size := Nat.le_trans h.below.size hb0.size
  refine ⟨h.rvec.belowAll hb0, app3_new wr _ _ _ T, fun v' w' hv ho hbk => ?_⟩
  have e1 : (H.take (j + 1)).filter (sameAt x) = (H.take j).filter (sameAt x) := by
    rw [filter_take_next _ hj, if_neg (by rw [hs]; simp), List.append_nil]
  have e2 : (H.take (j + 1)).filter (fun s => !sameAt x s) = (H.take j).filter (fun s => !sameAt x s) ++ [H[j]] := by
    rw [filter_take_next _ hj, if_pos (by rw [hs]; rfl)]
  refine ⟨?_, ?_, hap.kept ho (by simp) (h.hvec.belowAll hb0), hap.kept ho (by simp) (h.mvec.belowAll hb0), (hap.app hB ho.size hbk).perm (List.Perm.swap _ _ _), hap.below (h.below.trans (Below.mono hb0 h.below.size)) hB ho⟩
  · rw [e1]
    exact hap.kept ho (by simp) (h.tvec.belowAll hb0)
  · rw [e2, flat_append, List.length_append]
    exact hv

/-- Behind Next: the unit begins. -/
theorem Out.unit {W : World} {h0 T H : List Spot} {tv hv : Value} {w3 wr w5 : World} {d : Nat} {e : Ending} (h : Out W h0 T H tv hv w3) (hb : Below w3.heap.size w3 wr) (hd : d = T.length) (hH : 0 < H.length) (hn : NextPost wr H (fre d 2) e w5) :
    ∃ mv L, e = .returned mv ∧ L.Perm H ∧ Sorted L ∧ (mvs (L.take 2) ((fre d 2).take 2)).length = min H.length 2 ∧ In4 W T L (mvs (L.take 2) ((fre d 2).take 2)) mv 0 H tv hv w5 ∧
      (∀ k (h1 : k < L.length) (h2 : k < (mvs (L.take 2) ((fre d 2).take 2)).length), (mvs (L.take 2) ((fre d 2).take 2))[k] = ⟨L[k].p, L[k].c, 16 + ((T ++ L.take k).length : Int) / 3, ((T ++ L.take k).length : Int) % 3⟩) := by
  obtain ⟨mv, L, he, hp, hs, hvm, hb5, hg⟩ := hn
  have hlen : (mvs (L.take 2) ((fre d 2).take 2)).length = min H.length 2 := by
    have := hp.length_eq
    simp [mvs, fre_len]
    omega
  have hw5 := hb.trans (Below.mono hb5 hb.size)
  refine ⟨mv, L, he, hp, hs, hlen, ⟨hp.symm, ?_, ?_, ?_, ?_, h.below.trans (Below.mono hw5 h.below.size)⟩, fun k h1 h2 => ?_⟩
  · simpa using h.tvec.belowAll hw5
  · exact h.hvec.belowAll hw5
  · rw [fre_len] at hvm
    have e1 : min (min H.length 2) 2 = min H.length 2 := by omega
    rw [e1] at hvm
    rw [hlen]
    exact hvm
  · have ha := h.apart.grow hw5.size
    have hlt : ∀ g, mv.ownBlock = some g → g < w5.heap.size := fun g hg' => by
      obtain ⟨g', o', c', rfl, hva⟩ := hvm.form (by rw [fre_len]; omega)
      have h1 := hva.lt (by have := hva.le; rw [fre_len] at this; omega)
      have e : g' = g := Option.some.inj hg'
      omega
    refine (Apart.perm (l := [mv, tv, hv]) ⟨List.pairwise_cons.2 ⟨fun u hu g hgm hgu => ?_, ha.pw⟩, fun u hu g hgu => ?_⟩ ((List.Perm.swap tv mv [hv]).trans (List.Perm.cons tv (List.Perm.swap hv mv []))))
    · have := (h.apart.lies u hu g hgu).2
      have := hg g hgm
      have := hb.size
      omega
    · rcases List.mem_cons.1 hu with rfl | hu
      · have h1 := hg g hgu
        have h2 := hlt g hgu
        have := hb.size
        have := h.below.size
        omega
      · exact ha.lies u hu g hgu
  · have e1 : ((T ++ L.take k).length : Int) = ((d + k : Nat) : Int) := by
      rw [List.length_append, List.length_take, Nat.min_eq_left (Nat.le_of_lt h1), hd]
    simp only [mvs, List.getElem_zipWith, List.getElem_take, fre_at, e1]
end Go.Proofs.Ytpppphalacojjaa

/- PlanRight: the walk. No conditions. -/
import Derived.Test.YtpppphalacojjaaPlanRightM
import Derived.Test.YtpppphalacojjaaPlanLeastB
import Derived.Deep.DeepCutAuto
namespace Go.Proofs.Ytpppphalacojjaa
open Go.RowKit Go.Wh

structure RRel (W : World) (h : Int) (k c : Nat) (v : Value) (wr : World) : Prop where
  le : c ≤ k
  vec : Vec wr 3 v c (flat (dn id h k c))
  below : Below W.heap.size W wr
  own : ∀ g, v.ownBlock = some g → W.heap.size ≤ g

structure RApp (T U : TypeId) (W : World) (h : Int) (k c : Nat) (v : Value) (w3 : World) (sz t : Nat) : Prop where
  old : Vec ((w3.alloc (.cells #[.int .u8 t] T)).alloc (.cells #[.string (kz t), .int .i64 (h * 16 + (t : Int) / 3), .int .i64 ((t : Int) % 3)] U)) 3 v c (flat (dn id h k c))
  new : Reads ((w3.alloc (.cells #[.int .u8 t] T)).alloc (.cells #[.string (kz t), .int .i64 (h * 16 + (t : Int) / 3), .int .i64 ((t : Int) % 3)] U)) 3 (.slice (some ⟨sz + 1, 0, none⟩) 1 1) 1 [.string (kz t), .int .i64 (h * 16 + (t : Int) / 3), .int .i64 ((t : Int) % 3)]
  next : ∀ v' w', Vec w' 3 v' (c + 1) (flat (dn id h k c) ++ [.string (kz t), .int .i64 (h * 16 + (t : Int) / 3), .int .i64 ((t : Int) % 3)]) → Only (fun k => v.ownBlock = some k) ((w3.alloc (.cells #[.int .u8 t] T)).alloc (.cells #[.string (kz t), .int .i64 (h * 16 + (t : Int) / 3), .int .i64 ((t : Int) % 3)] U)) w' →
    (v'.ownBlock = v.ownBlock ∨ ∃ g, v'.ownBlock = some g ∧ ((w3.alloc (.cells #[.int .u8 t] T)).alloc (.cells #[.string (kz t), .int .i64 (h * 16 + (t : Int) / 3), .int .i64 ((t : Int) % 3)] U)).heap.size ≤ g ∧ g < w'.heap.size) → RRel W h k (c + 1) v' w'

theorem RRel.app (T U : TypeId) {W : World} {h : Int} {k c : Nat} {v : Value} {wr w3 : World} (hr : RRel W h k c v wr) (hb : Below wr.heap.size wr w3) {t sz : Nat} (ht : t + c + 1 = k) (hsz : w3.heap.size = sz) : RApp T U W h k c v w3 sz t := by
  subst hsz
  have hb3 := hr.below.trans (Below.mono hb hr.below.size)
  have hbl : Below W.heap.size W ((w3.alloc (.cells #[.int .u8 t] T)).alloc (.cells #[.string (kz t), .int .i64 (h * 16 + (t : Int) / 3), .int .i64 ((t : Int) % 3)] U)) := (hb3.alloc hb3.size _).alloc (by have := hb3.size; simp; omega) _
  refine ⟨((hr.vec.belowAll hb).alloc _).alloc _, ?_, fun v' w' hv ho hbk => ⟨by omega, ?_, hbl.trans (ho.below hbl.size (fun i hi e => by have := hr.own i e; omega)), fun g hg => ?_⟩⟩
  · have := reads_block (n := 1) (size := 3) (c := 1) (heap_alloc_new (w3.alloc (.cells #[.int .u8 t] T)) (.cells #[.string (kz t), .int .i64 (h * 16 + (t : Int) / 3), .int .i64 ((t : Int) % 3)] U)) rfl
    simp only [World.size_alloc] at this
    exact this
  · have e : k - 1 - c = t := by omega
    rw [dn_next, flat_append, e]
    exact hv
  · rcases hbk with e | ⟨g', e, h1, _⟩
    · exact hr.own g (e.symm.trans hg)
    · rw [e] at hg
      injection hg with hg
      have := hbl.size
      omega

/-- What the row without its last one is read from. -/
theorem gap_reads {w : World} {g o k cap : Nat} {h : Int} (hv : VecAt w 3 g o k cap (flat (dn id h k k))) {q : Nat} (hq : q ≤ k) : Reads w 3 (.slice (some ⟨g, o, none⟩) q cap) q (flat (dn id h k q)) := by
  have hc := hv.le
  refine ⟨by rw [flat_length, dn_len], .inr ⟨_, _, rfl, fun j u hj => ?_⟩⟩
  have hjl := (List.getElem?_eq_some_iff.1 hj).1
  rw [flat_length, dn_len] at hjl
  rw [Addr.add_lit, hv.cells j (by omega)]
  have e : flat (dn id h k q) = (flat (dn id h k k)).take (q * 3) := by
    rw [flat_take]
    congr 1
    simp only [dn, ← List.map_take]
    rw [List.take_range, Nat.min_eq_left hq]
  rw [e, List.getElem?_take, if_pos (by omega)] at hj
  exact hj

theorem reads_none (w : World) (a : Addr) (c : Nat) : Reads w 3 (.slice (some a) 0 c) 0 [] := ⟨rfl, .inr ⟨_, _, rfl, fun j u hj => by simp at hj⟩⟩

/-- Two appends to what is new, and a call that makes memory alone: nothing old has turned. -/
theorem gap_below {w3 w1 w2 w5 : World} {n : Nat} {T : TypeId} {v1 : Value}
    (ho1 : Only (fun j => (Value.slice (some ⟨w3.heap.size, 0, none⟩) 0 0).ownBlock = some j) ((w3.drewN n).alloc (.cells #[] T)) w1)
    (hb1 : v1.ownBlock = (Value.slice (some ⟨w3.heap.size, 0, none⟩) 0 0).ownBlock ∨ ∃ g, v1.ownBlock = some g ∧ ((w3.drewN n).alloc (.cells #[] T)).heap.size ≤ g ∧ g < w1.heap.size)
    (ho2 : Only (fun j => v1.ownBlock = some j) w1 w2) (hb3 : Below w2.heap.size w2 w5) : Below w3.heap.size w3 w5 := by
  have h0 : Below w3.heap.size w3 ((w3.drewN n).alloc (.cells #[] T)) := (below_drewN (Below.refl _ _) n).alloc (Nat.le_refl _) _
  have h1 : Below w3.heap.size w3 w1 := h0.trans (ho1.below h0.size (fun i hi e => by
    have e2 : w3.heap.size = i := Option.some.inj e
    omega))
  have h2 : Below w3.heap.size w3 w2 := h1.trans (ho2.below h1.size (fun i hi e => by
    rcases hb1 with e2 | ⟨g, e2, h3, _⟩
    · have e3 : w3.heap.size = i := Option.some.inj (e2.symm.trans e)
      omega
    · rw [e2] at e
      injection e with e
      have h4 : ((w3.drewN n).alloc (.cells #[] T)).heap.size = w3.heap.size + 1 := by simp
      omega))
  exact h2.trans (Below.mono hb3 h2.size)

theorem flat_setAt (l : List Spot) (k : Nat) (hk : k < l.length) (p c : Int) : ((flat l).set (k * 3 + 1) (.int .i64 p)).set (k * 3 + 2) (.int .i64 c) = flat (l.set k ⟨l[k].key, p, c⟩) := by
  have e : l = l.take k ++ l[k] :: l.drop (k + 1) := by
    rw [← List.drop_eq_getElem_cons hk, List.take_append_drop]
  have hk2 : (l.take k).length = k := by simp; omega
  have hf : (flat (l.take k)).length = k * 3 := by rw [flat_length, hk2]
  have e1 : flat l = flat (l.take k) ++ flat (l[k] :: l.drop (k + 1)) := by rw [← flat_append, ← e]
  have e2 : l.set k ⟨l[k].key, p, c⟩ = l.take k ++ ⟨l[k].key, p, c⟩ :: l.drop (k + 1) := by
    rw [List.set_eq_take_append_cons_drop, if_pos hk]
  rw [e1, e2, flat_append, flat_cons, flat_cons, set_behind _ _ _ _ _ hf, set_behind _ _ _ _ _ hf]
  rfl

theorem setAt_vec {w : World} {g o n cap : Nat} {l : List Spot} (h : VecAt w 3 g o n cap (flat l)) (k : Nat) (hk : k < l.length) (p c : Int) :
    VecAt ((w.setCell ⟨g, o + k * 3 + 1, none⟩ (.int .i64 p)).setCell ⟨g, o + k * 3 + 1 + 1, none⟩ (.int .i64 c)) 3 g o n cap (flat (l.set k ⟨l[k].key, p, c⟩)) := by
  have hl := h.len
  rw [flat_length] at hl
  have h2 := h.set (k * 3 + 1) (by omega) (.int .i64 p)
  have h3 := h2.set (k * 3 + 2) (by omega) (.int .i64 c)
  rw [flat_setAt l k hk p c] at h3
  have e1 : o + (k * 3 + 1) = o + k * 3 + 1 := by omega
  have e2 : o + (k * 3 + 2) = o + k * 3 + 1 + 1 := by omega
  rw [e1, e2] at h3
  exact h3

/-- What the exchange of two places needs, and leaves. -/
structure SwIn (h : Int) (k x y : Nat) (w : World) (g o cap : Nat) (px cx py cy : Int) : Prop where
  c1 : w.cell? ⟨g, o + x * 3 + 1, none⟩ = some (.int .i64 px)
  c2 : w.cell? ⟨g, o + x * 3 + 1 + 1, none⟩ = some (.int .i64 cx)
  d1 : w.cell? ⟨g, o + y * 3 + 1, none⟩ = some (.int .i64 py)
  d2 : w.cell? ⟨g, o + y * 3 + 1 + 1, none⟩ = some (.int .i64 cy)
  e1 : w.frozen? ⟨g, o + x * 3 + 1, none⟩ = false
  e2 : w.frozen? ⟨g, o + x * 3 + 1 + 1, none⟩ = false
  f1 : w.frozen? ⟨g, o + y * 3 + 1, none⟩ = false
  f2 : w.frozen? ⟨g, o + y * 3 + 1 + 1, none⟩ = false
  next : VecAt ((((w.setCell ⟨g, o + x * 3 + 1, none⟩ (.int .i64 py)).setCell ⟨g, o + x * 3 + 1 + 1, none⟩ (.int .i64 cy)).setCell ⟨g, o + y * 3 + 1, none⟩ (.int .i64 px)).setCell ⟨g, o + y * 3 + 1 + 1, none⟩ (.int .i64 cx)) 3 g o k cap (flat (dn (swp (k - 1 - x) (k - 1 - y)) h k k))

theorem swIn_of {h : Int} {k x y : Nat} {w : World} {g o cap : Nat} (hv : VecAt w 3 g o k cap (flat (dn id h k k))) (hx : x < k) (hy : y < k) : ∃ px cx py cy, SwIn h k x y w g o cap px cx py cy := by
  have hlx : x < (dn id h k k).length := by rw [dn_len]; exact hx
  have hly : y < (dn id h k k).length := by rw [dn_len]; exact hy
  obtain ⟨⟨_, c1, c2⟩, _, e1, e2⟩ := spot_cells hv x hlx
  obtain ⟨⟨_, d1, d2⟩, _, f1, f2⟩ := spot_cells hv y hly
  have ex : (dn id h k k)[x] = nsp id h (k - 1 - x) := by
    apply Option.some.inj
    rw [← List.getElem?_eq_getElem hlx, dn_at _ _ _ _ _ hx]
  have ey : (dn id h k k)[y] = nsp id h (k - 1 - y) := by
    apply Option.some.inj
    rw [← List.getElem?_eq_getElem hly, dn_at _ _ _ _ _ hy]
  rw [ex] at c1 c2
  rw [ey] at d1 d2
  refine ⟨_, _, _, _, c1, c2, d1, d2, e1, e2, f1, f2, ?_⟩
  have h1 := setAt_vec hv x hlx (nsp id h (k - 1 - y)).p (nsp id h (k - 1 - y)).c
  have h2 := setAt_vec h1 y (by rw [List.length_set]; exact hly) (nsp id h (k - 1 - x)).p (nsp id h (k - 1 - x)).c
  have ek : (((dn id h k k).set x ⟨((dn id h k k)[x]).key, (nsp id h (k - 1 - y)).p, (nsp id h (k - 1 - y)).c⟩)[y]'(by rw [List.length_set]; exact hly)).key = kz ((k - 1 - y : Nat) : Int) := by
    rw [List.getElem_set]
    split
    · rename_i e
      subst e
      rw [ex]
      rfl
    · rw [ey]
      rfl
  rw [ek, ex] at h2
  have e3 := dn_swap h k x y hx hy
  have e4 : (nsp id h (k - 1 - x)).key = kz ((k - 1 - x : Nat) : Int) := rfl
  rw [e4, e3] at h2
  exact h2

theorem below_set4 {B : Nat} {a w : World} (h : Below B a w) {g : Nat} (hg : B ≤ g) (o1 o2 o3 o4 : Nat) (v1 v2 v3 v4 : Value) : Below B a ((((w.setCell ⟨g, o1, none⟩ v1).setCell ⟨g, o2, none⟩ v2).setCell ⟨g, o3, none⟩ v3).setCell ⟨g, o4, none⟩ v4) := by
  have h1 := h.setCell (p := ⟨g, o1, none⟩) hg v1
  have h2 := h1.setCell (p := ⟨g, o2, none⟩) hg v2
  have h3 := h2.setCell (p := ⟨g, o3, none⟩) hg v3
  exact h3.setCell (p := ⟨g, o4, none⟩) hg v4

theorem right_dn_swap' (h : Int) (k x y : Nat) (v : Value) (w : World) (hh : h = 0 ∨ h = 1) (hk : k ≤ 48) (hx : x < k) (hy : y < k) (hv : Vec w 3 v k (flat (dn (swp (k - 1 - x) (k - 1 - y)) h k k))) :
    Calls Try.prog 10 #[v, .int .i64 h] w (BIs (decide (x = y)) w) := by
  have := right_dn_swap h k (k - 1 - x) (k - 1 - y) v w hh hk (by omega) hv
  have e : decide (k - 1 - x = k - 1 - y) = decide (x = y) := by
    rw [decide_eq_decide]
    omega
  rw [e] at this
  exact this

set_option maxRecDepth 100000 in
set_option maxHeartbeats 4000000 in
theorem planRight_walk (n : Int) (half : Bool) (a b : Int) (W : World) (n0 : 0 ≤ n) (n1 : n < 256) (a0 : 0 ≤ a) (a1 : a < 256) (b0 : 0 ≤ b) (b1 : b < 256) :
    Calls Try.prog 3 #[.int .u8 n, .bool half, .int .u8 a, .int .u8 b] W (BTrue W) := by
  obtain ⟨k, hk⟩ : ∃ k : Nat, n % 49 = (k : Int) := ⟨(n % 49).toNat, by omega⟩
  have hk48 : k ≤ 48 := by omega
  obtain ⟨h, hh⟩ : ∃ h : Int, h = if half then 1 else 0 := ⟨_, rfl⟩
  have HH := Lib.hid (show h = 0 ∨ h = 1 by rw [hh]; split <;> simp)
  have h0 : 0 ≤ h := by have := HH.out; omega
  have h1 : h ≤ 1 := by have := HH.out; omega
  have HHH := Lib.hid hh
  have hcv := fun (w : World) (b : Nat) (z : Int) (hc : w.cell? ⟨b, 0, none⟩ = some (.int .u8 z)) => run_convert_bytes_arg (P := Try.prog) w 29 5 Try.underlying29 Try.underlying5 b 0 1 1 [z] rfl (fun i hi => by
    have : i = 0 := by omega
    subst this
    exact hc) 9 Try.underlying9
  have HCV := Lib.hid hcv
  obtain ⟨i0, hi0, hz0, hz1, hz2⟩ := info_parts infoSpot
  have HI0 := Lib.hid hi0
  have HZ0 := Lib.hid hz0
  have HZ1 := Lib.hid hz1
  have HZ2 := Lib.hid hz2
  clear hcv hh hi0 hz0 hz1 hz2
  go_enter Try.func3, Try.ntmps3
  go_wp2_with fail
  refine (begun_any _).mono ?_
  rintro e w1 ⟨rfl, hb1⟩
  have HB1 := Lib.hid hb1
  clear hb1
  go_wp2_with fail
  refine (most_any _).mono ?_
  rintro e w' ⟨rfl, rfl⟩
  go_upto_if 25 with fail
  go_cut [10] (fun v wc => v = .int .i64 h ∧ w1 = wc)
  case first =>
    cases half with
    | true =>
      have HE := Lib.hid (show h = 1 from HHH.out)
      clear HHH HH
      go_wp2_with fail
      go_meet
      case rel => exact ⟨by rw [HE.out], rfl⟩
    | false =>
      have HE := Lib.hid (show h = 0 from HHH.out)
      clear HHH HH
      go_wp2_with fail
      go_meet
      case rel => exact ⟨by rw [HE.out], rfl⟩
  case rest =>
    obtain ⟨rfl, rfl⟩ := hcut
    rw [hk]
    clear hk
    go_wp2_with fail
    go_loopw [11, 12] (fun v s wr => ∃ (c : Nat) (z : Int), s = .int .i64 z ∧ z = (k : Int) - 1 - c ∧ RRel W h k c v wr) (fun _ s _ => ((intOf s) + 1).toNat)
    case atStart => exact ⟨0, _, rfl, by simp, Nat.zero_le _, Vec.nil _ _, HB1.out, fun g hg => by cases hg⟩
    case round =>
      obtain ⟨c, z, rfl, hz, hr⟩ := hrel
      have hck := hr.le
      have HR := Lib.hid hr
      clear hr
      by_cases hlt : c < k
      · obtain ⟨t, ht⟩ : ∃ t : Nat, z = (t : Int) := ⟨z.toNat, by omega⟩
        subst ht
        have HT := Lib.hid (show t + c + 1 = k by omega)
        have ht47 : t < 48 := by omega
        clear hz
        go_wp2_with fail
        refine (place_yes h t _ h0 h1 (by omega) (by omega)).mono ?_
        rintro e w2 ⟨rfl, hb2⟩
        have HB2 := Lib.hid hb2
        have hb3 : Below wr.heap.size wr (w2.alloc (.cells #[.int .i64 (h * 16 + (t : Int) / 3), .int .i64 ((t : Int) % 3)] 26)) := hb2.alloc hb2.size _
        have HA := Lib.hid (HR.out.app 5 31 hb3 (t := t) (sz := w2.heap.size + 1) HT.out (by simp))
        have hcf : cellsAt ((w2.alloc (.cells #[.int .i64 (h * 16 + (t : Int) / 3), .int .i64 ((t : Int) % 3)] 26)).alloc (.cells #[.int .u8 t] 5)) w2.heap.size [.int .i64 (h * 16 + (t : Int) / 3), .int .i64 ((t : Int) % 3)] := (cellsAt_new w2 [.int .i64 (h * 16 + (t : Int) / 3), .int .i64 ((t : Int) % 3)] 26).alloc _
        have f0 := hcf.cell 0
        have f1 := hcf.cell 1
        simp only [List.getElem?_cons_zero, List.getElem?_cons_succ] at f0 f1
        have hcx : (convert 29 9 (.slice (some ⟨w2.heap.size + 1, 0, none⟩) 1 1)).run Try.prog ((w2.alloc (.cells #[.int .i64 (h * 16 + (t : Int) / 3), .int .i64 ((t : Int) % 3)] 26)).alloc (.cells #[.int .u8 t] 5)) = .ok (.string (kz t)) ((w2.alloc (.cells #[.int .i64 (h * 16 + (t : Int) / 3), .int .i64 ((t : Int) % 3)] 26)).alloc (.cells #[.int .u8 t] 5)) := by
          have h := cellsAt_new (w2.alloc (.cells #[.int .i64 (h * 16 + (t : Int) / 3), .int .i64 ((t : Int) % 3)] 26)) [.int .u8 t] 5
          have h2 := HCV.out _ _ (t : Int) (h.cell 0)
          simp only [World.size_alloc] at h2
          exact h2
        have hck2 : c + 1 ≤ 48 := by omega
        clear hb2 hb3 hcf
        go_wp2_with (at_builtin; refine wpList_append_vec rfl _ _ 24 rfl 31 i0 _ 3 32 Try.underlying24 HI0.out HZ0.out HZ1.out HZ2.out rfl (by decide) _ _ _ rfl HA.out.old _ 1 _ rfl HA.out.new (sc_one [⟨kz t, _, _⟩]) (by simp only [maxLen]; omega) (by omega) ?_; intro v' w' hv' ho' hb'; have HN := Lib.hid (HA.out.next v' w' hv' ho' hb'); clear hv' ho' hb' HA hcx f0 f1)
        have HZT := Lib.hid (show (t : Int) - 1 = (k : Int) - 1 - ((c + 1 : Nat) : Int) by have := HT.out; omega)
        go_roundw
        case rel => exact ⟨c + 1, _, rfl, HZT.out, HN.out⟩
        case measure => simp [intOf]
      · have hck : k = c := by omega
        subst hck
        have hz1 : z = -1 := by omega
        subst hz1
        clear hz hlt
        go_wp2_with fail
        refine (right_dn_yes h k u11 wr HH.out hk48 HR.out.vec).mono ?_
        rintro e w2 ⟨rfl, hb2⟩
        have HV2 := Lib.hid (HR.out.vec.belowAll hb2)
        have HB2 := Lib.hid (HR.out.below.trans (Below.mono hb2 HR.out.below.size))
        clear hb2 HR HB1 HCV
        rcases Nat.lt_or_ge k 1 with hk1 | hk1
        · have hk0 : k = 0 := by omega
          have F := Lib.hid (show BTrue W (.returned (.bool true)) w2 from ⟨rfl, HB2.out⟩)
          subst hk0
          go_wp2_with fail
          go_ret
          exact F.out
        · have hk1' : (0 : Int) < (k : Int) := by omega
          go_wp2_with fail
          refine (right_dn_other h (1 - h) k u11 w2 (by have := HH.out; omega) (by have := HH.out; omega) hk48 (by omega) HV2.out).mono ?_
          rintro e w3 ⟨rfl, hb3⟩
          have HV3 := Lib.hid (HV2.out.belowAll hb3)
          have HB3 := Lib.hid (HB2.out.trans (Below.mono hb3 HB2.out.size))
          clear hb3 HV2 HB2
          by_cases hk2 : k < 2
          · have F := Lib.hid (show BTrue W (.returned (.bool true)) w3 from ⟨rfl, HB3.out⟩)
            go_wp2_with fail
            go_ret
            exact F.out
          · obtain ⟨x, hx⟩ : ∃ x : Nat, a % (k : Int) = (x : Int) := ⟨(a % (k : Int)).toNat, by have := Int.emod_nonneg a (show (k : Int) ≠ 0 by omega); omega⟩
            obtain ⟨y, hy⟩ : ∃ y : Nat, b % (k : Int) = (y : Int) := ⟨(b % (k : Int)).toNat, by have := Int.emod_nonneg b (show (k : Int) ≠ 0 by omega); omega⟩
            have hxk : x < k := by have := Int.emod_lt_of_pos a (show (0 : Int) < k by omega); omega
            have hyk : y < k := by have := Int.emod_lt_of_pos b (show (0 : Int) < k by omega); omega
            obtain ⟨g, o, cap, rfl, hva⟩ := HV3.out.form (by omega)
            have hcap := hva.le
            have HVA := Lib.hid hva
            clear hva
            go_wp2_with fail
            go_quiet (fail)
            rw [hx, hy]
            clear hx hy
            obtain ⟨q, hq⟩ : ∃ q, q = k - 1 := ⟨_, rfl⟩
            have eq : (k : Int) - 1 = (q : Int) := by omega
            have HQ := Lib.hid hq
            have hqk : q ≤ k := by omega
            clear hq
            have HX1 := Lib.hid (fun n => (gap_reads HVA.out hqk).belowAll ((below_drewN (Below.refl w3.heap.size w3) n).alloc (Nat.le_refl _) (.cells #[] 31)))
            have HQ2 := Lib.hid (show q ≤ 47 ∧ q = k - 1 by have := HQ.out; omega)
            go_upto_region 20 with fail
            go_cut [84] (fun v wc => v = .bool false ∧ Below w3.heap.size w3 wc)
            case first => as_aux_lemma =>
              by_cases hck : cap = k
              · go_wp2_with fail
                have a1 : (0 : Int) ≤ (q : Int) := by omega
                have a2 : (q : Int) ≤ (k : Int) := by omega
                have a3 : (q : Int) ≤ (cap : Int) := by omega
                have a4 : (k : Int) ≤ (cap : Int) := by omega
                have a5 : IntKind.i64.wrap ((k : Int) - 1) = (q : Int) := by rw [eq]; exact IntWalk.i64_in _ (by omega)
                have a6 : IntKind.i64.wrap (q : Int) = (q : Int) := IntWalk.i64_in _ (by omega)
                have a7 : ((k : Int) - 1).toNat = q := by omega
                subst hck
                go_region_held3 (fun _ => True) (trivial) (first
                  | (refine step_append_vec rfl _ _ 24 rfl 31 i0 _ 3 32 Try.underlying24 HI0.out HZ0.out HZ1.out HZ2.out rfl (by decide) (.slice (some ⟨w3.heap.size, 0, none⟩) 0 0) 0 [] (by simp [Act.eval]) (Vec.none_ _ _ _ _) (.slice (some ⟨g, o, none⟩) q cap) q _ (by simp [Act.eval]) (HX1.out _) (sc_one _) (by simp only [maxLen]; omega) (by omega) ?_; intro v1' w1' hv1' ho1' hb1')
                  | (refine step_append_vec rfl _ _ 24 rfl 31 i0 _ 3 32 Try.underlying24 HI0.out HZ0.out HZ1.out HZ2.out rfl (by decide) v1' (0 + q) _ (by simp [Act.eval]) hv1' (.slice (some ⟨g, o, none⟩) 0 0) 0 [] (by simp [Act.eval]) (reads_none _ _ _) (sc_one []) (by simp only [maxLen]; omega) (by omega) ?_; intro v2' w2' hv2' ho2' hb2')
                  | (go_at_call 10; refine (right_dn_gap h cap v2' _ HH.out hk48 (by omega) (by have := HQ2.out.2; subst this; simpa using hv2')).mono ?_; rintro e w5 ⟨rfl, hb5⟩))
                have F := Lib.hid (gap_below ho1' hb1' ho2' hb5)
                clear hv1' ho1' hb1' hv2' ho2' hb2' hb5
                go_wp2_with fail
                go_meet
                case rel => exact ⟨rfl, F.out⟩
              · go_wp2_with fail
                have a1 : (0 : Int) ≤ (q : Int) := by omega
                have a2 : (q : Int) ≤ (k : Int) := by omega
                have a3 : (q : Int) ≤ (cap : Int) := by omega
                have a4 : (k : Int) ≤ (cap : Int) := by omega
                have a5 : IntKind.i64.wrap ((k : Int) - 1) = (q : Int) := by rw [eq]; exact IntWalk.i64_in _ (by omega)
                have a6 : IntKind.i64.wrap (q : Int) = (q : Int) := IntWalk.i64_in _ (by omega)
                have a7 : ((k : Int) - 1).toNat = q := by omega
                go_region_held3 (fun _ => True) (trivial) (first
                  | (refine step_append_vec rfl _ _ 24 rfl 31 i0 _ 3 32 Try.underlying24 HI0.out HZ0.out HZ1.out HZ2.out rfl (by decide) (.slice (some ⟨w3.heap.size, 0, none⟩) 0 0) 0 [] (by simp [Act.eval]) (Vec.none_ _ _ _ _) (.slice (some ⟨g, o, none⟩) q cap) q _ (by simp [Act.eval]) (HX1.out _) (sc_one _) (by simp only [maxLen]; omega) (by omega) ?_; intro v1' w1' hv1' ho1' hb1')
                  | (refine step_append_vec rfl _ _ 24 rfl 31 i0 _ 3 32 Try.underlying24 HI0.out HZ0.out HZ1.out HZ2.out rfl (by decide) v1' (0 + q) _ (by simp [Act.eval]) hv1' (.slice (some ⟨g, o + k * 3, none⟩) 0 (cap - k)) 0 [] (by simp [Act.eval]) (reads_none _ _ _) (sc_one []) (by simp only [maxLen]; omega) (by omega) ?_; intro v2' w2' hv2' ho2' hb2')
                  | (go_at_call 10; refine (right_dn_gap h k v2' _ HH.out hk48 (by omega) (by have := HQ2.out.2; subst this; simpa using hv2')).mono ?_; rintro e w5 ⟨rfl, hb5⟩))
                have F := Lib.hid (gap_below ho1' hb1' ho2' hb5)
                clear hv1' ho1' hb1' hv2' ho2' hb2' hb5
                go_wp2_with fail
                go_meet
                case rel => exact ⟨rfl, F.out⟩
            case rest =>
              obtain ⟨rfl, hbc⟩ := hcut
              have HVC := Lib.hid (HV3.out.belowAll hbc)
              have HBC := Lib.hid (HB3.out.trans (Below.mono hbc HB3.out.size))
              clear hbc HV3 HB3 HVA HX1 HQ HQ2 eq hqk hcap
              have HX2 := Lib.hid (show Reads (wc.alloc (.cells #[] 31)) 3 (.slice (some ⟨g, o, none⟩) k cap) k (flat (dn id h k k)) from (HVC.out.alloc _).reads)
              have hbo : Below wc.heap.size wc (wc.alloc (.cells #[] 31)) := (Below.refl _ _).alloc (Nat.le_refl _) _
              have HBO := Lib.hid hbo
              clear hbo
              go_wp2_with (at_builtin; refine wpList_append_vec rfl _ _ 24 rfl 31 i0 _ 3 32 Try.underlying24 HI0.out HZ0.out HZ1.out HZ2.out rfl (by decide) _ 0 [] rfl (Vec.none_ _ _ _ _) _ k _ rfl HX2.out (sc_one _) (by simp only [maxLen]; omega) (by omega) ?_; intro vm wm hvm hom hbm)
              have hvm' : Vec wm 3 vm k (flat (dn id h k k)) := by simpa using hvm
              obtain ⟨gm, om, capm, rfl, hva⟩ := hvm'.form (by omega)
              have hgm : wc.heap.size ≤ gm := by
                rcases hbm with e | ⟨g', e, h1, _⟩
                · have e2 : gm = wc.heap.size := Option.some.inj e
                  omega
                · have e2 : gm = g' := Option.some.inj e
                  simp at h1
                  omega
              have hbw : Below wc.heap.size wc wm := HBO.out.trans (hom.below HBO.out.size (fun i hi e => by
                have e2 : wc.heap.size = i := Option.some.inj e
                omega))
              have HGM := Lib.hid (show W.heap.size ≤ gm by have := HBC.out.size; omega)
              have HBM := Lib.hid (HBC.out.trans (Below.mono hbw HBC.out.size))
              obtain ⟨px, cx, py, cy, hsw⟩ := swIn_of hva hxk hyk
              have HS := Lib.hid hsw
              have HN := Lib.hid (right_dn_swap' h k x y (.slice (some ⟨gm, om, none⟩) k capm) _ HH.out hk48 hxk hyk (.inr ⟨_, _, _, rfl, hsw.next.drew⟩))
              have HF := Lib.hid (below_set4 HBM.out HGM.out (om + x * 3 + 1) (om + x * 3 + 1 + 1) (om + y * 3 + 1) (om + y * 3 + 1 + 1) (.int .i64 py) (.int .i64 cy) (.int .i64 px) (.int .i64 cx))
              clear hvm hvm' hom hbm hva hgm hbw hsw HBO HX2 HVC HBC HBM
              rcases Nat.lt_trichotomy x y with hxy | hxy | hxy
              all_goals
                have c1 := HS.out.c1
                have c2 := HS.out.c2
                have d1 := HS.out.d1
                have d2 := HS.out.d2
                have e1 := HS.out.e1
                have e2 := HS.out.e2
                have f1 := HS.out.f1
                have f2 := HS.out.f2
              · have HNB := Lib.hid (show decide (x = y) = false by simp; omega)
                clear HS
                go_wp2_with fail
                have a1 : (0 : Int) ≤ (x : Int) := by omega
                have a2 : (x : Int) < (k : Int) := by omega
                have a3 : (0 : Int) ≤ (y : Int) := by omega
                have a4 : (y : Int) < (k : Int) := by omega
                go_region
                clear a1 a2 a3 a4 c1 c2 d1 d2 e1 e2 f1 f2
                go_wp2_with fail
                refine HN.out.mono ?_
                clear HN
                rintro e w5 ⟨rfl, hb5⟩
                rw [HNB.out]
                have F := Lib.hid (show BTrue W (.returned (.bool true)) w5 from ⟨rfl, HF.out.trans (Below.mono (below_undrew hb5) HF.out.size)⟩)
                have hxe : ((x : Int) == (y : Int)) = false := by simp; omega
                clear hb5 HF HNB hxy
                go_wp2_with fail
                go_ret
                exact F.out
              · have HNB := Lib.hid (show decide (x = y) = true by simp; omega)
                subst hxy
                obtain rfl : py = px := by simpa using d1.symm.trans c1
                obtain rfl : cy = cx := by simpa using d2.symm.trans c2
                clear d1 d2 f1 f2
                clear HS
                go_wp2_with fail
                have a1 : (0 : Int) ≤ (x : Int) := by omega
                have a2 : (x : Int) < (k : Int) := by omega
                go_region
                clear a1 a2 c1 c2 e1 e2
                go_wp2_with fail
                refine HN.out.mono ?_
                clear HN
                rintro e w5 ⟨rfl, hb5⟩
                rw [HNB.out]
                have F := Lib.hid (show BTrue W (.returned (.bool true)) w5 from ⟨rfl, HF.out.trans (Below.mono (below_undrew hb5) HF.out.size)⟩)
                clear hb5 HF HNB
                go_wp2_with fail
                go_ret
                exact F.out
              · have HNB := Lib.hid (show decide (x = y) = false by simp; omega)
                clear HS
                go_wp2_with fail
                have a1 : (0 : Int) ≤ (x : Int) := by omega
                have a2 : (x : Int) < (k : Int) := by omega
                have a3 : (0 : Int) ≤ (y : Int) := by omega
                have a4 : (y : Int) < (k : Int) := by omega
                go_region
                clear a1 a2 a3 a4 c1 c2 d1 d2 e1 e2 f1 f2
                go_wp2_with fail
                refine HN.out.mono ?_
                clear HN
                rintro e w5 ⟨rfl, hb5⟩
                rw [HNB.out]
                have F := Lib.hid (show BTrue W (.returned (.bool true)) w5 from ⟨rfl, HF.out.trans (Below.mono (below_undrew hb5) HF.out.size)⟩)
                have hxe : ((x : Int) == (y : Int)) = false := by simp; omega
                clear hb5 HF HNB hxy
                go_wp2_with fail
                go_ret
                exact F.out
end Go.Proofs.Ytpppphalacojjaa

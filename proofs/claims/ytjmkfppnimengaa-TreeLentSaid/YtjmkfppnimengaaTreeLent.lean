/- TreeLent: the walk. Conditions: a row of bytes. -/
import Derived.Test.YtjmkfppnimengaaTreeKey
namespace Go.Proofs.Ytjmkfppnimengaa
open Go.RowKit Go.Wh

theorem keys_ins_mem {l : Nd 0} {k a : Key} {v : Rid} (h : a ∈ keys (insL l k v)) : a = k ∨ a ∈ keys l := by
  rw [keys_ins] at h
  rcases List.mem_append.1 h with h | h
  · exact .inr (List.mem_of_mem_take h)
  · rcases List.mem_cons.1 h with h | h
    · exact .inl h
    · exact .inr (List.mem_of_mem_drop h)
theorem vals_ins_mem {l : Nd 0} {k : Key} {v a : Rid} (h : a ∈ vals (insL l k v)) : a = v ∨ a ∈ vals l := by
  unfold insL at h
  rw [vals_append] at h
  rcases List.mem_append.1 h with h | h
  · rw [← vals_take] at h
    exact .inr (List.mem_of_mem_take h)
  · rcases List.mem_cons.1 (show a ∈ v :: vals (l.drop _) from h) with h | h
    · exact .inl h
    · rw [← vals_drop] at h
      exact .inr (List.mem_of_mem_drop h)

/-- Short keys, pages that are none below 0. -/
def Tame (l : Nd 0) : Prop := (∀ a ∈ keys l, a.size ≤ 2) ∧ ∀ v ∈ vals l, 0 ≤ v.1
theorem Tame.nil : Tame [] := ⟨(by simp [keys]), fun v h => absurd (show v ∈ ([] : List Rid) from h) (by simp)⟩
theorem Tame.ins {l : Nd 0} (h : Tame l) {k : Key} {p q : Int} (hk : k.size ≤ 2) (hp : 0 ≤ p) : Tame (insL l k (p, q)) :=
  ⟨fun a ha => (keys_ins_mem ha).elim (fun e => e ▸ hk) (h.1 a), fun v hv => (vals_ins_mem hv).elim (fun e => e ▸ hp) (h.2 v)⟩

/-- The first row of a shape. -/
theorem shape_first {w w' : World} {l : Nd 0} {e : Ending} (h : TShape w l e w') : ∃ g o dp c g2 o2 c2 v, e = .returned (.slice (some ⟨g, o, none⟩) dp c) ∧ 1 ≤ dp ∧ w'.cell? ⟨g, o, none⟩ = some (.slice (some ⟨g2, o2, none⟩) 1 c2) ∧
    w'.cell? ⟨g2, o2, none⟩ = some (.int .i64 v) ∧ w'.frozen? ⟨g2, o2, none⟩ = false ∧ (∀ b, b = g2 ∨ b = g → w.heap.size ≤ b ∧ b < w'.heap.size) ∧ g ≠ g2 ∧ Still w w' := by
  obtain ⟨out, ps, d, x, rfl, h1, h2, h3, h4, h5, h6, h7⟩ := h
  have hlen := shp_length d [x]
  have hhead : (shp d [x])[0]? = some [x.length] := shp_head d [x]
  obtain ⟨g, o, c, rfl, hv⟩ := h1.form (by omega)
  obtain ⟨p, hp⟩ : ∃ p, ps[0]? = some p := ⟨_, List.getElem?_eq_getElem (by rw [h2.1]; omega)⟩
  obtain ⟨hp1, hp2⟩ := h2.2 0 p _ hp hhead
  obtain ⟨g2, o2, c2, rfl, hv2⟩ := hp1.form (by simp)
  refine ⟨g, o, _, c, g2, o2, c2, _, rfl, by omega, by rw [show (⟨g, o, none⟩ : Addr) = ⟨g, o + 0, none⟩ from rfl, hv.cell 0 (by omega), hp]; rfl, hv2.cell 0 (by simp), hv2.free 0 (by simp), fun b hb => ?_, fun e => (hp2 g2 rfl).2.2 (by rw [e]; rfl), h5⟩
  rcases hb with rfl | rfl
  · exact ⟨(hp2 _ rfl).1, (hp2 _ rfl).2.1⟩
  · exact h3 _ rfl

/-- While what was told is spoilt. -/
structure LentS (W : World) (A : Nat → Prop) (t : Nat) (l : Nd 0) (n : Nat) (kv vv : Value) (g o g2 o2 c2 : Nat) (w : World) : Prop where
  own : Own W A w t l
  still : Still W w
  k : ∃ ks, Vec w 1 kv n ks
  v : ∃ vs, Vec w 2 vv n vs
  x1 : w.cell? ⟨g, o, none⟩ = some (.slice (some ⟨g2, o2, none⟩) 1 c2)
  x2 : ∃ u, w.cell? ⟨g2, o2, none⟩ = some u
  x3 : w.frozen? ⟨g2, o2, none⟩ = false
/-- Where it lies. -/
structure LentA (W : World) (A : Nat → Prop) (kv vv : Value) (g g2 : Nat) : Prop where
  ka : ∀ b, kv.ownBlock = some b → A b ∧ W.heap.size ≤ b ∧ b ≠ g ∧ b ≠ g2
  va : ∀ b, vv.ownBlock = some b → A b ∧ W.heap.size ≤ b ∧ b ≠ g ∧ b ≠ g2
  ap : ∀ b, kv.ownBlock = some b → vv.ownBlock ≠ some b
  g2a : A g2 ∧ W.heap.size ≤ g2

section
variable {W w : World} {A : Nat → Prop} {t n g o g2 o2 c2 : Nat} {l : Nd 0} {kv vv : Value} {ka va : Addr} {gk ok kc gv ov vc : Nat}
theorem LentS.other (h : LentS W A t l n kv vv g o g2 o2 c2 w) {p : Addr} {u : Value} (hA : A p.block) (hW : W.heap.size ≤ p.block) (h1 : p.block ≠ g) (h2 : p.block ≠ g2) :
    Own W A (w.setCell p u) t l ∧ Still W (w.setCell p u) ∧ (w.setCell p u).cell? ⟨g, o, none⟩ = some (.slice (some ⟨g2, o2, none⟩) 1 c2) ∧ (∃ u', (w.setCell p u).cell? ⟨g2, o2, none⟩ = some u') ∧ (w.setCell p u).frozen? ⟨g2, o2, none⟩ = false := by
  have e1 : ∀ q : Addr, q.block ≠ p.block → (w.setCell p u).cell? q = w.cell? q := fun q hq => World.cell?_setCell_other _ _ _ _ fun e => hq (by rw [e])
  obtain ⟨u', hu⟩ := h.x2
  exact ⟨h.own.only (setCell_only w p u) fun b e => (show b = p.block from e) ▸ hA, Only.setCell h.still (.inr hW) u, (e1 ⟨g, o, none⟩ (Ne.symm h1)).trans h.x1, ⟨u', (e1 ⟨g2, o2, none⟩ (Ne.symm h2)).trans hu⟩, by rw [World.frozen?_setCell]; exact h.x3⟩
theorem LentS.storeK (h : LentS W A t l n (.slice (some ⟨gk, ok, none⟩) n kc) vv g o g2 o2 c2 w) (ha : LentA W A (.slice (some ⟨gk, ok, none⟩) n kc) vv g g2) {i : Nat} (hi : i < n) (u : Value) :
    LentS W A t l n (.slice (some ⟨gk, ok, none⟩) n kc) vv g o g2 o2 c2 (w.setCell ⟨gk, ok + i, none⟩ u) := by
  obtain ⟨a1, a2, a3, a4⟩ := ha.ka gk rfl
  obtain ⟨h1, h2, h3, h4, h5⟩ := h.other (p := ⟨gk, ok + i, none⟩) (u := u) a1 a2 a3 a4
  obtain ⟨ks, hk⟩ := h.k
  obtain ⟨vs, hv⟩ := h.v
  exact ⟨h1, h2, ⟨_, .inr ⟨gk, ok, kc, rfl, hk.at.set i (by omega) u⟩⟩, ⟨vs, hv.only (setCell_only w ⟨gk, ok + i, none⟩ u) fun b hb e => ha.ap gk rfl (by rw [hb]; exact congrArg some e)⟩, h3, h4, h5⟩
theorem LentS.storeV (h : LentS W A t l n kv (.slice (some ⟨gv, ov, none⟩) n vc) g o g2 o2 c2 w) (ha : LentA W A kv (.slice (some ⟨gv, ov, none⟩) n vc) g g2) {i : Nat} (hi : i < n) (u : Value) :
    LentS W A t l n kv (.slice (some ⟨gv, ov, none⟩) n vc) g o g2 o2 c2 (w.setCell ⟨gv, ov + i * 2, none⟩ u) := by
  obtain ⟨a1, a2, a3, a4⟩ := ha.va gv rfl
  obtain ⟨h1, h2, h3, h4, h5⟩ := h.other (p := ⟨gv, ov + i * 2, none⟩) (u := u) a1 a2 a3 a4
  obtain ⟨ks, hk⟩ := h.k
  obtain ⟨vs, hv⟩ := h.v
  exact ⟨h1, h2, ⟨ks, hk.only (setCell_only w ⟨gv, ov + i * 2, none⟩ u) fun b hb e => ha.ap b hb (by have e' : b = gv := e; rw [e']; rfl)⟩, ⟨_, .inr ⟨gv, ov, vc, rfl, hv.at.set (i * 2) (by omega) u⟩⟩, h3, h4, h5⟩
theorem LentS.cellsK (h : LentS W A t l n (.slice (some ⟨gk, ok, none⟩) n kc) vv g o g2 o2 c2 w) {i : Nat} (hi : i < n) : (∃ u, w.cell? ⟨gk, ok + i, none⟩ = some u) ∧ w.frozen? ⟨gk, ok + i, none⟩ = false := by
  obtain ⟨ks, hk⟩ := h.k
  have h1 := hk.at.cell i (by omega)
  have h2 := hk.at.len
  exact ⟨⟨_, h1.trans (List.getElem?_eq_getElem (by omega))⟩, hk.at.free i (by omega)⟩
theorem LentS.cellsV (h : LentS W A t l n kv (.slice (some ⟨gv, ov, none⟩) n vc) g o g2 o2 c2 w) {i : Nat} (hi : i < n) : (∃ u, w.cell? ⟨gv, ov + i * 2, none⟩ = some u) ∧ w.frozen? ⟨gv, ov + i * 2, none⟩ = false := by
  obtain ⟨vs, hv⟩ := h.v
  have h1 := hv.at.cell (i * 2) (by omega)
  have h2 := hv.at.len
  exact ⟨⟨_, h1.trans (List.getElem?_eq_getElem (by omega))⟩, hv.at.free (i * 2) (by omega)⟩
theorem Vec.two {ks vs : List Value} (h1 : Vec w 1 kv n ks) (h2 : Vec w 2 vv n vs) (hn : 0 < n) : ∃ gk ok kc gv ov vc, kv = .slice (some ⟨gk, ok, none⟩) n kc ∧ vv = .slice (some ⟨gv, ov, none⟩) n vc := by
  obtain ⟨gk, ok, kc, rfl, -⟩ := h1.form hn
  obtain ⟨gv, ov, vc, rfl, -⟩ := h2.form hn
  exact ⟨_, _, _, _, _, _, rfl, rfl⟩
end

set_option maxHeartbeats 1000000 in
set_option maxRecDepth 100000 in
theorem lent_walk (a0 : Option Addr) (m cap : Nat) (zs : List Int) (W : World) (hr : IsRow .u8 W a0 m zs) (hm : m ≤ 30) :
    Calls Try.prog 8 #[.slice a0 m cap] W (BTrue W) := by
  have HR := Lib.hid hr
  have HM := Lib.hid hm
  have HBG := Lib.hid (begun_any W)
  have a0m : decide ((30 : Int) < (m : Int)) = false := by simp; omega
  have a0m' : decide (30 < m) = false := by simp; omega
  clear hr hm
  go_enter Try.func8, Try.ntmps8
  go_wp2_with fail
  refine HBG.out.mono ?_
  rintro e w1 ⟨rfl, hs1⟩
  have HN := Lib.hid (own_new (w0 := W) (A := fun _ => False) hs1 (fun _ e => e.elim))
  have HS1 := Lib.hid hs1
  clear hs1 HBG
  go_wp2_with fail
  refine HN.out.mono ?_
  rintro e w2 ⟨t, rfl, ho2, hs2⟩
  have HO2 := Lib.hid (And.intro ho2 (HS1.out.trans hs2))
  clear ho2 hs2 HN HS1
  unfold ptr
  go_wp2_with fail
  go_loopw [4] (fun s wr => ∃ (i : Nat) (l : Nd 0), s = .int .i64 i ∧ i ≤ m ∧ Own W (fun _ => False) wr t l ∧ Still W wr ∧ l.length ≤ i ∧ Tame l) (fun s _ => m - (intOf s).toNat)
  case atStart => exact ⟨0, [], rfl, Nat.zero_le _, HO2.out.1, HO2.out.2, Nat.le_refl _, Tame.nil⟩
  case round =>
    obtain ⟨i, l, rfl, hin, ho, hs, hl, ht⟩ := hrel
    have HL := Lib.hid (And.intro ho (And.intro hs (And.intro hl ht)))
    clear ho hs hl ht
    by_cases hi : i < m
    · have a1 : decide ((i : Int) < (m : Int)) = true := by simp; omega
      have a2 : decide (i < m) = true := by simp; omega
      have a3 : (0 : Int) ≤ (i : Int) := by omega
      have a4 : (i : Int) < (m : Int) := by omega
      have u9 : IntKind.i64.wrap ((i : Int) + 1) = (i : Int) + 1 := IntWalk.i64_in _ (by have := HM.out; omega)
      obtain ⟨b, off, hab, hcW, hwf⟩ := isRow_later HR.out (Below.refl _ _) hi
      subst hab
      have hcell := Still.cell HL.out.2.1 hcW
      have hwf' := byte_wf hwf
      obtain ⟨z, hz⟩ : ∃ z, zs.getD i 0 = z := ⟨_, rfl⟩
      rw [hz] at hcell hwf'
      have HKY := Lib.hid (key_any wr z hwf'.1 hwf'.2)
      have HPUT := Lib.hid (fun w' (hs : Still wr w') => (own_put (HL.out.1.still hs) (by have := HL.out.2.2.1; have := HM.out; omega) (HL.out.2.1.trans hs) (keyB z) ((i : Int), 0)).mono (fun e w'' (h : _ ∧ _ ∧ _) => show ∃ bo l', e = .returned (.bool bo) ∧ Hid (Own W (fun _ => False) w'' t l' ∧ Still W w'' ∧ l'.length ≤ i + 1 ∧ Tame l') from
        ⟨_, _, h.1, Lib.hid ⟨h.2.1, h.2.2.still (HL.out.2.1.trans hs), (Nat.le_trans (insL_length _ _ _).2.1 (by have := HL.out.2.2.1; omega)), HL.out.2.2.2.ins (keyB_size z) (by omega)⟩⟩))
      unfold ptr ridV at HPUT
      dsimp only at HPUT
      clear hcW hwf hwf' hz
      go_wp2_with fail
      refine HKY.out.mono ?_
      rintro e w3 ⟨rfl, hs3⟩
      have HS3 := Lib.hid hs3
      clear hs3
      go_wp2_with fail
      refine (HPUT.out _ HS3.out).mono ?_
      rintro e w4 ⟨bo, l4, rfl, HO4⟩
      go_wp2_with fail
      go_roundw
      case rel => exact ⟨i + 1, l4, by go_num, by omega, HO4⟩
      case measure => simp [intOf]; omega
    · have hge : i = m := by omega
      subst hge
      have a1 : decide ((i : Int) < (i : Int)) = false := by simp
      have hl80 : l.length ≤ 80000 := by have := HL.out.2.2.1; have := HM.out; omega
      have HFR := Lib.hid (own_from HL.out.1 hl80 ⟨#[]⟩ (-1))
      clear hl80
      unfold ptr at HFR
      go_wp2_with fail
      refine HFR.out.mono ?_
      rintro e w5 ⟨kv, vv, rfl, ht⟩
      rw [fromL_all _ _ (by omega)] at ht
      have HO5 := Lib.hid (HL.out.1.avoid (B := fun b => kv.ownBlock = some b ∨ vv.ownBlock = some b) ht.still (fun b hb => hb.elim (ht.ok b) (ht.ov b)))
      have HT := Lib.hid ht
      obtain ⟨ka, kc, rfl⟩ := ht.k.form'
      obtain ⟨va, vc, rfl⟩ := ht.v.form'
      obtain ⟨n, hn⟩ : ∃ n, l.length = n := ⟨_, rfl⟩
      have HNN := Lib.hid hn
      rw [hn] at HO5 HT
      rw [hn]
      have hl80 : l.length ≤ 80000 := by have := HL.out.2.2.1; have := HM.out; omega
      have HSH := Lib.hid (own_shape HO5.out hl80)
      unfold ptr at HSH
      clear hn hl80 ht HFR
      go_wp2_with fail
      refine HSH.out.mono ?_
      intro e w6 h6
      obtain ⟨g, o, dp, c, g2, o2, c2, v2, rfl, hdp, x1, x2, x3, x4, x5, hs6⟩ := shape_first h6
      have HO6 := Lib.hid (HO5.out.avoid (B := fun b => b = g2 ∨ b = g) hs6 x4)
      have HS6 := Lib.hid (show LentS W (fun b => (False ∨ (Value.slice ka n kc).ownBlock = some b ∨ (Value.slice va n vc).ownBlock = some b) ∨ b = g2 ∨ b = g) t l n (.slice ka n kc) (.slice va n vc) g o g2 o2 c2 w6 from
        ⟨HO6.out, (HL.out.2.1.trans HT.out.still).trans hs6, ⟨_, by have := HT.out.k; rw [HNN.out] at this; exact this.only hs6 fun _ _ e => e⟩, ⟨_, by have := HT.out.v; rw [HNN.out] at this; exact this.only hs6 fun _ _ e => e⟩, x1, ⟨_, x2⟩, x3⟩)
      have HA6 := Lib.hid (show LentA W (fun b => (False ∨ (Value.slice ka n kc).ownBlock = some b ∨ (Value.slice va n vc).ownBlock = some b) ∨ b = g2 ∨ b = g) (.slice ka n kc) (.slice va n vc) g g2 from
        ⟨fun b hb => by
          have h1 := HT.out.ok b hb
          have h2 := HL.out.2.1.size
          have h3 := (x4 g2 (.inl rfl)).1
          have h4 := (x4 g (.inr rfl)).1
          exact ⟨.inl (.inr (.inl hb)), by omega, by omega, by omega⟩,
        fun b hb => by
          have h1 := HT.out.ov b hb
          have h2 := HL.out.2.1.size
          have h3 := (x4 g2 (.inl rfl)).1
          have h4 := (x4 g (.inr rfl)).1
          exact ⟨.inl (.inr (.inr hb)), by omega, by omega, by omega⟩, HT.out.ap,
        .inr (.inl rfl), by have := (x4 g2 (.inl rfl)).1; have := (HL.out.2.1.trans HT.out.still).size; omega⟩)
      generalize (fun b => (False ∨ (Value.slice ka n kc).ownBlock = some b ∨ (Value.slice va n vc).ownBlock = some b) ∨ b = g2 ∨ b = g) = A at HS6 HA6
      have HLN := Lib.hid (own_len HS6.out.own)
      have hl80 : l.length ≤ 80000 := by have := HL.out.2.2.1; have := HM.out; omega
      have HL80 := Lib.hid hl80
      have htm := HL.out.2.2.2
      have hks := HL.out.1.ks
      have HTM := Lib.hid (And.intro htm hks)
      have hn30 : n ≤ 30 := by have := HNN.out; have := HL.out.2.2.1; have := HM.out; omega
      rw [HNN.out] at HLN
      unfold ptr at HLN
      have b1 : ((dp : Int) == 0) = false := by rw [beq_eq_false_iff_ne]; omega
      have b1' : (dp == 0) = false := by rw [beq_eq_false_iff_ne]; omega
      have b2 : (0 : Int) < (dp : Int) := by omega
      clear h6 x2 x3 x4 x5 hs6 hl80 HO5 HO6 HSH HL HT htm hks
      go_wp2_with fail
      refine HLN.out.mono ?_
      rintro e w7 ⟨rfl, rfl⟩
      go_wp2_with fail
      refine HLN.out.mono ?_
      rintro e w8 ⟨rfl, rfl⟩
      clear HLN
      go_wp2_with fail
      go_loopw [8] (fun s wr => ∃ j : Nat, s = .int .i64 j ∧ j ≤ n ∧ LentS W A t l n (.slice ka n kc) (.slice va n vc) g o g2 o2 c2 wr) (fun s _ => n - (intOf s).toNat)
      case atStart => exact ⟨0, rfl, Nat.zero_le _, HS6.out⟩
      case round =>
        obtain ⟨j, rfl, hjn, hls⟩ := hrel
        have HLS := Lib.hid hls
        clear hls x1
        by_cases hj : j < n
        · obtain ⟨ks, hk⟩ := HLS.out.k
          obtain ⟨vs, hv⟩ := HLS.out.v
          obtain ⟨gk, ok, kc', gv, ov, vc', e1, e2⟩ := Vec.two hk hv (by omega)
          injection e1 with e1 _ e1c
          injection e2 with e2 _ e2c
          subst e1 e1c e2 e2c
          clear hk hv ks vs
          obtain ⟨⟨u1, c1⟩, f1⟩ := HLS.out.cellsK hj
          have HLS2 := Lib.hid (HLS.out.storeK HA6.out hj (.string ⟨#[115, 112, 111, 105, 108, 116]⟩))
          obtain ⟨⟨u2, c2'⟩, f2⟩ := HLS2.out.cellsV hj
          have HLS3 := Lib.hid (HLS2.out.storeV HA6.out hj (.int .i64 (-1)))
          have d1 : decide ((j : Int) < (n : Int)) = true := by simp; omega
          have d2 : decide (j < n) = true := by simp; omega
          have d3 : (0 : Int) ≤ (j : Int) := by omega
          have d4 : (j : Int) < (n : Int) := by omega
          have u9 : IntKind.i64.wrap ((j : Int) + 1) = (j : Int) + 1 := IntWalk.i64_in _ (by omega)
          go_wp2_with fail
          go_roundw
          case rel => exact ⟨j + 1, by go_num, by omega, HLS3.out⟩
          case measure => simp [intOf]; omega
        · have hge : j = n := by omega
          subst hge
          have d1 : decide ((j : Int) < (j : Int)) = false := by simp
          have y1 := HLS.out.x1
          obtain ⟨u, y2⟩ := HLS.out.x2
          have y3 := HLS.out.x3
          obtain ⟨z1, z2, -, -, -⟩ : Own W A (wr.setCell ⟨g2, o2, none⟩ (.int .i64 99)) t l ∧ Still W (wr.setCell ⟨g2, o2, none⟩ (.int .i64 99)) ∧ True ∧ True ∧ True :=
            ⟨HLS.out.own.only (setCell_only wr ⟨g2, o2, none⟩ _) fun b e => (show b = g2 from e) ▸ HA6.out.g2a.1, Only.setCell HLS.out.still (.inr HA6.out.g2a.2) _, trivial, trivial, trivial⟩
          have HFR := Lib.hid (own_from z1 HL80.out ⟨#[]⟩ (-1))
          have HZ := Lib.hid (And.intro z1 z2)
          unfold ptr at HFR
          clear z1 z2
          go_wp2_with fail
          refine HFR.out.mono ?_
          rintro e w9 ⟨kv2, vv2, rfl, ht⟩
          rw [fromL_all _ _ (by omega)] at ht
          have HT := Lib.hid ht
          have HZ9 := Lib.hid (And.intro (HZ.out.1.still ht.still) (HZ.out.2.trans ht.still))
          obtain ⟨ka2, kc2, rfl⟩ := ht.k.form'
          obtain ⟨va2, vc2, rfl⟩ := ht.v.form'
          have hk := ht.k
          have hv := ht.v
          rw [HNN.out] at hk hv
          rw [HNN.out]
          have HKV := Lib.hid (And.intro hk hv)
          clear ht hk hv HZ HFR y1 y2 y3
          go_wp2_with fail
          go_loopw [11] (fun s wr => ∃ i : Nat, s = .int .i64 i ∧ i ≤ j ∧ Still w9 wr) (fun s _ => j - (intOf s).toNat)
          case atStart => exact ⟨0, rfl, Nat.zero_le _, Still.refl _⟩
          case round =>
            obtain ⟨i, rfl, hin, hst⟩ := hrel
            have HST := Lib.hid hst
            clear hst
            by_cases hi : i < j
            · obtain ⟨gk, ok, kc3, e1, hk⟩ := HKV.out.1.form (by omega)
              obtain ⟨gv, ov, vc3, e2, hv⟩ := HKV.out.2.form (by omega)
              injection e1 with e1 _ e1c
              injection e2 with e2 _ e2c
              subst e1 e1c e2 e2c
              obtain ⟨k, hki⟩ : ∃ k, (keys l)[i]? = some k := ⟨_, List.getElem?_eq_getElem (by rw [keys_length, HNN.out]; exact hi)⟩
              obtain ⟨v, hvi⟩ : ∃ v, (vals l)[i]? = some v := ⟨_, List.getElem?_eq_getElem (by rw [vals_length, HNN.out]; exact hi)⟩
              have c1 : wr.cell? ⟨gk, ok + i, none⟩ = some (.string k) := Still.cell HST.out (by rw [hk.cell i (by omega)]; exact kcells_get hki)
              have c2 : wr.cell? ⟨gv, ov + i * 2, none⟩ = some (.int .i64 v.1) := Still.cell HST.out (by rw [hv.cell (i * 2) (by omega)]; exact (rcells_get _ i v hvi).1)
              have t1 : (k.toList == [115, 112, 111, 105, 108, 116]) = false := by
                rw [beq_eq_false_iff_ne]
                intro e
                have h1 := HTM.out.1.1 k (List.mem_of_getElem? hki)
                have h2 : k.toList.length = 6 := by rw [e]; rfl
                rw [ByteArray.toList_eq, Array.length_toList] at h2
                have h3 : k.size = 6 := h2
                omega
              have t2 : decide (v.1 < 0) = false := by
                have := HTM.out.1.2 v (List.mem_of_getElem? hvi)
                simp
                omega
              have d1 : decide ((i : Int) < (j : Int)) = true := by simp; omega
              have d2 : decide (i < j) = true := by simp; omega
              have d3 : (0 : Int) ≤ (i : Int) := by omega
              have d4 : (i : Int) < (j : Int) := by omega
              have u9 : IntKind.i64.wrap ((i : Int) + 1) = (i : Int) + 1 := IntWalk.i64_in _ (by omega)
              rcases Nat.eq_zero_or_pos i with hi0 | hi0
              · have e1 : decide ((0 : Int) < (i : Int)) = false := by simp; omega
                have e1' : decide (0 < i) = false := by simp; omega
                clear hki hvi hk hv hi0
                go_wp2_with fail
                go_quiet (fail)
                go_wp2_with fail
                go_roundw
                case rel => exact ⟨i + 1, by go_num, by omega, HST.out.drewN _⟩
                case measure => simp [intOf]; omega
              · obtain ⟨k0, hk0⟩ : ∃ k, (keys l)[i - 1]? = some k := ⟨_, List.getElem?_eq_getElem (by rw [keys_length, HNN.out]; omega)⟩
                have c0 : wr.cell? ⟨gk, ok + (i - 1), none⟩ = some (.string k0) := Still.cell HST.out (by rw [hk.cell (i - 1) (by omega)]; exact kcells_get hk0)
                have e1 : decide ((0 : Int) < (i : Int)) = true := by simp; omega
                have e1' : decide (0 < i) = true := by simp; omega
                have e2 : IntKind.i64.wrap ((i : Int) - 1) = (i : Int) - 1 := IntWalk.i64_in _ (by omega)
                have e3 : (0 : Int) ≤ (i : Int) - 1 := by omega
                have e4 : (i : Int) - 1 < (j : Int) := by omega
                have e5 : ((i : Int) - 1).toNat = i - 1 := by omega
                have e6 : Op.bytesLess k0.toList k.toList = true := by
                  have h1 := List.pairwise_iff_getElem.1 HTM.out.2 (i - 1) i (by have := (List.getElem?_eq_some_iff.1 hk0).1; exact this) (by have := (List.getElem?_eq_some_iff.1 hki).1; exact this) (by omega)
                  rw [(List.getElem?_eq_some_iff.1 hk0).2, (List.getElem?_eq_some_iff.1 hki).2] at h1
                  exact h1
                clear hki hvi hk hv hk0
                go_wp2_with fail
                go_quiet (fail)
                go_wp2_with fail
                go_roundw
                case rel => exact ⟨i + 1, by go_num, by omega, HST.out.drewN _⟩
                case measure => simp [intOf]; omega
            · have hge : i = j := by omega
              subst hge
              have d1 : decide ((i : Int) < (i : Int)) = false := by simp
              have HZR := Lib.hid (And.intro (HZ9.out.1.still HST.out) (HZ9.out.2.trans HST.out))
              have HSH := Lib.hid (own_shape HZR.out.1 HL80.out)
              unfold ptr at HSH
              go_wp2_with fail
              refine HSH.out.mono ?_
              intro e w10 h10
              obtain ⟨sa, sc, dp2, rfl, -, -, -, -, hs10, -, hsnd⟩ := told_shape h10 HL80.out
              have HLN := Lib.hid (own_len (HZR.out.1.still hs10))
              have HSN := Lib.hid (hsnd w10 i (Still.refl _) HNN.out.symm)
              have F := Lib.hid (show BTrue W (.returned (.bool true)) w10 from ⟨rfl, HZR.out.2.trans hs10⟩)
              rw [HNN.out] at HLN
              unfold ptr at HLN
              clear h10 hs10 hsnd HSH
              go_wp2_with fail
              refine HLN.out.mono ?_
              rintro e w11 ⟨rfl, rfl⟩
              go_wp2_with fail
              refine HSN.out.mono ?_
              rintro e w12 ⟨rfl, rfl⟩
              go_wp2_with fail
              go_ret
              exact F.out
end Go.Proofs.Ytjmkfppnimengaa

/- The reference's tree: where a key stands. Conditions: it lies in memory. The reference's tree: put. Conditions: it lies in memory. The reference's tree: cut. Conditions: it lies in memory. The reference's tree: get, from. Conditions: it lies in memory. A tree and the reference's tree side by side; what is alike. Conditions: both lie in memory. -/
import Derived.Test.YtjmkfppnimengaaTreeGet
import Derived.Test.YtjmkfppnimengaaChain
import Derived.Deep.QuietTactic
import Derived.BigQuiet
import Derived.Laws.ResultCell
import Derived.Test.YtjmkfppnimengaaTreeKey
namespace Go.Proofs.Ytjmkfppnimengaa
open Go.RowKit Go.Wh

/-- The reference's tree at r: its keys, its places. -/
structure RefAt (w : World) (r : Nat) (l : Nd 0) (kv vv : Value) : Prop where
  cells : cellsAt w r [kv, vv]
  k : Vec w 1 kv l.length (kcells (keys l))
  v : Vec w 2 vv l.length (rcells (vals l))
  ks : KS (keys l)
  nk : kv.ownBlock ≠ some r
  nv : vv.ownBlock ≠ some r
  bk : ∀ g, kv.ownBlock = some g → g < w.heap.size
  bv : ∀ g, vv.ownBlock = some g → g < w.heap.size

section
variable {w w' : World} {r : Nat} {l : Nd 0} {kv vv : Value}
theorem RefAt.only {S : Nat → Prop} (h : RefAt w r l kv vv) (ho : Only S w w') (hr : ¬ S r) (hk : ∀ g, kv.ownBlock = some g → ¬ S g) (hv : ∀ g, vv.ownBlock = some g → ¬ S g) : RefAt w' r l kv vv :=
  ⟨h.cells.only ho hr, h.k.only ho hk, h.v.only ho hv, h.ks, h.nk, h.nv, fun g hg => Nat.lt_of_lt_of_le (h.bk g hg) ho.size, fun g hg => Nat.lt_of_lt_of_le (h.bv g hg) ho.size⟩
theorem RefAt.still (h : RefAt w r l kv vv) (hs : Still w w') : RefAt w' r l kv vv := h.only hs (fun e => e) (fun _ _ e => e) (fun _ _ e => e)
end

/-- What a put, a cut leaves. -/
def RefTo (w : World) (r : Nat) (kv vv : Value) (l : Nd 0) (b : Bool) (e : Ending) (w' : World) : Prop :=
  e = .returned (.bool b) ∧ ∃ kv' vv', RefAt w' r l kv' vv' ∧ Only (fun b => b = r) w w' ∧ (∀ g, kv'.ownBlock = some g → kv.ownBlock = some g ∨ w.heap.size ≤ g) ∧ ∀ g, vv'.ownBlock = some g → vv.ownBlock = some g ∨ w.heap.size ≤ g

/-- Between two stores, and behind them. -/
theorem RefAt.mid {w1 w' : World} {r : Nat} {l : Nd 0} {kv vv k3 : Value} {n' : Nat} {c : List Value} (h : RefAt w1 r l kv vv) (hs : Still w1 w') (hk : Vec w' 1 k3 n' c) (hf : ∀ g, k3.ownBlock = some g → w1.heap.size ≤ g ∧ g < w'.heap.size) :
    cellsAt (w'.setCell ⟨r, 0, none⟩ k3) r [k3, vv] ∧ Vec (w'.setCell ⟨r, 0, none⟩ k3) 1 k3 n' c ∧ Vec (w'.setCell ⟨r, 0, none⟩ k3) 2 vv l.length (rcells (vals l)) ∧ Only (fun b => b = r) w1 (w'.setCell ⟨r, 0, none⟩ k3) ∧ (w'.setCell ⟨r, 0, none⟩ k3).heap.size = w'.heap.size := by
  have hr := h.cells.lt
  refine ⟨(h.cells.only hs fun e => e).setCell 0 k3, hk.only (setCell_only w' ⟨r, 0, none⟩ k3) fun g hg e => ?_, (h.v.only hs fun _ _ e => e).only (setCell_only w' ⟨r, 0, none⟩ k3) fun g hg e => h.nv (by rw [hg]; exact congrArg some e), (Only.setCell (S := fun b => b = r) (hs.mono fun _ e => e.elim) (.inl rfl) k3), by simp [World.setCell]⟩
  have h1 := hf g hg
  have e' : g = r := e
  omega
theorem RefAt.fin {w w1 w2 w3 : World} {r : Nat} {l l' : Nd 0} {kv vv k3 v3 : Value} {b : Bool} (h : RefAt w1 r l kv vv) (hw : Still w w1) (c : cellsAt w2 r [k3, vv]) (hk : Vec w2 1 k3 l'.length (kcells (keys l'))) (hkf : ∀ g, k3.ownBlock = some g → w1.heap.size ≤ g ∧ g < w2.heap.size) (ho : Only (fun b => b = r) w1 w2)
    (hs : Still w2 w3) (hv : Vec w3 2 v3 l'.length (rcells (vals l'))) (hvf : ∀ g, v3.ownBlock = some g → w2.heap.size ≤ g ∧ g < w3.heap.size) (ks : KS (keys l')) : RefTo w r kv vv l' b (.returned (.bool b)) (w3.setCell ⟨r, 1, none⟩ v3) := by
  have hr := h.cells.lt
  have h1 := ho.size
  have h0 := hw.size
  refine ⟨rfl, k3, v3, ⟨(c.only hs fun e => e).setCell 1 v3, (hk.only hs fun _ _ e => e).only (setCell_only w3 ⟨r, 1, none⟩ v3) fun g hg e => ?_, hv.only (setCell_only w3 ⟨r, 1, none⟩ v3) fun g hg e => ?_, ks, fun e => ?_, fun e => ?_, fun g hg => ?_, fun g hg => ?_⟩, ?_, fun g hg => .inr ?_, fun g hg => .inr ?_⟩
  · have h2 := hkf g hg
    have e' : g = r := e
    omega
  · have h2 := hvf g hg
    have e' : g = r := e
    omega
  · have h2 := hkf r e
    omega
  · have h2 := hvf r e
    omega
  · have h2 := hkf g hg
    have h3 := hs.size
    rw [show (w3.setCell ⟨r, 1, none⟩ v3).heap.size = w3.heap.size by simp [World.setCell]]
    omega
  · have h2 := hvf g hg
    rw [show (w3.setCell ⟨r, 1, none⟩ v3).heap.size = w3.heap.size by simp [World.setCell]]
    omega
  · exact Only.setCell (S := fun b => b = r) (((hw.mono fun _ e => e.elim : Only (fun b => b = r) w w1).trans ho).trans (hs.mono fun _ e => e.elim)) (.inl rfl) v3
  · have h2 := hkf g hg
    omega
  · have h2 := hvf g hg
    omega

/-- A part of the keys, of the places. -/
theorem mid_k {w : World} {kv : Value} {ks : List Key} {n lo hi : Nat} (h : Vec w 1 kv n (kcells ks)) (h1 : lo ≤ hi) (h2 : hi ≤ n) :
    ∃ k', (∀ wz, (Instr.slice 27 kv (some (.int .i64 (lo : Int))) (some (.int .i64 (hi : Int))) none).run Try.prog wz = .ok k' wz) ∧ (lo = 0 → ∀ wz, (Instr.slice 27 kv none (some (.int .i64 (hi : Int))) none).run Try.prog wz = .ok k' wz) ∧
      (hi = n → ∀ wz, (Instr.slice 27 kv (some (.int .i64 (lo : Int))) none none).run Try.prog wz = .ok k' wz) ∧ ∀ w', Vec w' 1 kv n (kcells ks) → Vec w' 1 k' (hi - lo) (kcells ((ks.drop lo).take (hi - lo))) := by
  obtain ⟨k', r1, r2, r3, hv⟩ := h.part (size := 1) 27 Try.underlying27 (fun w => rfl) h1 h2
  refine ⟨k', r1, r2, r3, fun w' hw => ?_⟩
  have := hv w' hw
  rw [Nat.mul_one, Nat.mul_one] at this
  rw [show kcells ((ks.drop lo).take (hi - lo)) = ((kcells ks).drop lo).take (hi - lo) by simp [kcells]]
  exact this
theorem mid_v {w : World} {vv : Value} {vs : List Rid} {n lo hi : Nat} (h : Vec w 2 vv n (rcells vs)) (h1 : lo ≤ hi) (h2 : hi ≤ n) :
    ∃ k', (∀ wz, (Instr.slice 28 vv (some (.int .i64 (lo : Int))) (some (.int .i64 (hi : Int))) none).run Try.prog wz = .ok k' wz) ∧ (lo = 0 → ∀ wz, (Instr.slice 28 vv none (some (.int .i64 (hi : Int))) none).run Try.prog wz = .ok k' wz) ∧
      (hi = n → ∀ wz, (Instr.slice 28 vv (some (.int .i64 (lo : Int))) none none).run Try.prog wz = .ok k' wz) ∧ ∀ w', Vec w' 2 vv n (rcells vs) → Vec w' 2 k' (hi - lo) (rcells ((vs.drop lo).take (hi - lo))) := by
  obtain ⟨k', r1, r2, r3, hv⟩ := h.part (size := 2) 28 Try.underlying28 (fun w => rfl) h1 h2
  refine ⟨k', r1, r2, r3, fun w' hw => ?_⟩
  have := hv w' hw
  rw [rcells_drop, rcells_take] at this
  exact this

def FindPost (w : World) (l : Nd 0) (k : Key) (e : Ending) (w' : World) : Prop := e = .returned (.tuple #[.int .i64 (pos (keys l) k), .bool (hasK (keys l) k)]) ∧ Still w w'

theorem key_eq {a k : Key} (h : a ≠ k) : (a.toList == k.toList) = false := by
  rw [beq_eq_false_iff_ne]
  exact fun e => h (key_ext e)

set_option maxHeartbeats 1000000 in
set_option maxRecDepth 100000 in
theorem find_any (w : World) (r : Nat) (l : Nd 0) (kv vv : Value) (k : Key) (h : RefAt w r l kv vv) (hl : l.length ≤ 100000) :
    Calls Try.prog 26 #[ptr r, .string k] w (FindPost w l k) := by
  have H := Lib.hid h
  obtain ⟨a, c, rfl⟩ := h.k.form'
  obtain ⟨n, hn⟩ : ∃ n, l.length = n := ⟨_, rfl⟩
  have HN := Lib.hid (And.intro hn hl)
  have c0 : w.cell? ⟨r, 0, none⟩ = some (.slice a l.length c) := h.cells.cell 0
  rw [hn] at c0
  have hp := pos_le (keys l) k
  rw [keys_length, hn] at hp
  obtain ⟨p, hpp⟩ : ∃ p, pos (keys l) k = p := ⟨_, rfl⟩
  rw [hpp] at hp
  have HP := Lib.hid hpp
  clear h hn hl hpp
  unfold ptr
  go_enter Try.func26, Try.ntmps26
  go_wp2_with fail
  go_loopw [6] (fun s wr => ∃ i : Nat, s = .int .i64 i ∧ i ≤ p ∧ wr = w) (fun s _ => n - (intOf s).toNat)
  case atStart => exact ⟨0, rfl, Nat.zero_le _, rfl⟩
  case round =>
    obtain ⟨i, rfl, hi, rfl⟩ := hrel
    by_cases hin : i < n
    · obtain ⟨g, o, c', he, hv⟩ := H.out.k.form (by have := HN.out; omega)
      injection he with he _ hec
      subst he hec
      obtain ⟨x, hx⟩ : ∃ x, (keys l)[i]? = some x := ⟨_, List.getElem?_eq_getElem (by rw [keys_length, HN.out.1]; exact hin)⟩
      have c1 : wr.cell? ⟨g, o + i, none⟩ = some (.string x) := by rw [hv.cell i (by have := HN.out; omega)]; exact kcells_get hx
      have hpl := pos_lt H.out.ks k hx
      rw [HP.out] at hpl
      have d1 : decide ((i : Int) < (n : Int)) = true := by simp; omega
      have d2 : decide (i < n) = true := by simp; omega
      have d3 : (0 : Int) ≤ (i : Int) := by omega
      have d4 : (i : Int) < (n : Int) := by omega
      have u9 : IntKind.i64.wrap ((i : Int) + 1) = (i : Int) + 1 := IntWalk.i64_in _ (by have := HN.out; omega)
      by_cases hip : i < p
      · have e1 : Op.bytesLess x.toList k.toList = true := hpl.2 hip
        clear hpl hx hv
        go_wp2_with fail
        go_roundw
        case rel => exact ⟨i + 1, by go_num, by omega, trivial⟩
        case measure => simp [intOf]; omega
      · have e1 : Op.bytesLess x.toList k.toList = false := by
          cases hb : Op.bytesLess x.toList k.toList with
          | false => rfl
          | true => exact absurd (hpl.1 hb) hip
        have hip' : i = p := by omega
        have hh : hasK (keys l) k = decide (x = k) := hasK_of_get (by rw [HP.out, ← hip']; exact hx)
        by_cases hxk : x = k
        · have F := Lib.hid (show ∀ w', Still wr w' → FindPost wr l k (.returned (.tuple #[.int .i64 i, .bool true])) w' from fun w' hs => ⟨by rw [HP.out, hh, hip']; simp [hxk], hs⟩)
          subst hxk
          clear hpl hx hv hh hip' hip hi hp
          go_wp2_with fail
          go_quiet (fail)
          go_wp2_with fail
          go_ret2
          exact F.out _ ((Still.refl _).drewN _)
        · have F := Lib.hid (show ∀ w', Still wr w' → FindPost wr l k (.returned (.tuple #[.int .i64 i, .bool false])) w' from fun w' hs => ⟨by rw [HP.out, hh, hip']; simp [hxk], hs⟩)
          have e2 := key_eq hxk
          clear hpl hx hv hh hip' hip hi hp hxk
          go_wp2_with fail
          go_quiet (fail)
          go_wp2_with fail
          go_ret2
          exact F.out _ ((Still.refl _).drewN _)
    · have hip' : i = p := by omega
      have hin' : i = n := by omega
      have hh : hasK (keys l) k = false := hasK_false_end (by rw [HP.out, keys_length, HN.out.1]; omega)
      have F := Lib.hid (show ∀ w', Still wr w' → FindPost wr l k (.returned (.tuple #[.int .i64 i, .bool false])) w' from fun w' hs => ⟨by rw [HP.out, hh, hip'], hs⟩)
      have d1 : decide ((i : Int) < (n : Int)) = false := by simp; omega
      have d2 : decide (i < n) = false := by simp; omega
      clear hh hip' hin' hi hp
      go_wp2_with fail
      go_quiet (fail)
      go_wp2_with fail
      go_ret2
      exact F.out _ ((Still.refl _).drewN _)
end Go.Proofs.Ytjmkfppnimengaa

namespace Go.Proofs.Ytjmkfppnimengaa
open Go.RowKit Go.Wh

theorem RefTo.drew {w w' : World} {r : Nat} {kv vv : Value} {l : Nd 0} {b : Bool} {e : Ending} (h : RefTo w r kv vv l b e w') : RefTo w r kv vv l b e w'.drew := by
  obtain ⟨h1, kv', vv', h2, h3, h4⟩ := h
  exact ⟨h1, kv', vv', ⟨h2.cells.drew, h2.k.drew, h2.v.drew, h2.ks, h2.nk, h2.nv, h2.bk, h2.bv⟩, h3.drew, h4⟩
theorem copied {w1 w' : World} {ob : Obj} {v' : Value} (ho : Only (fun k => some w1.heap.size = some k) (w1.alloc ob) w') (hb : v'.ownBlock = some w1.heap.size ∨ ∃ g, v'.ownBlock = some g ∧ (w1.alloc ob).heap.size ≤ g ∧ g < w'.heap.size) :
    Still w1 w' ∧ ∀ g, v'.ownBlock = some g → w1.heap.size ≤ g ∧ g < w'.heap.size := by
  refine ⟨((Still.refl w1).alloc ob).andThen ho fun i hi e => ?_, fun g hg => ?_⟩
  · injection e with e
    omega
  · have hz : (w1.alloc ob).heap.size = w1.heap.size + 1 := by simp
    have hz2 := ho.size
    rcases hb with e | ⟨g', e, h1, h2⟩
    · rw [e] at hg
      injection hg with hg
      omega
    · rw [e] at hg
      injection hg with hg
      omega
theorem vals_ins (l : Nd 0) (k : Key) (v : Rid) : vals (insL l k v) = (vals l).take (pos (keys l) k) ++ v :: (vals l).drop (if hasK (keys l) k then pos (keys l) k + 1 else pos (keys l) k) := by
  unfold insL
  rw [vals_append, ← vals_take]
  congr 1
  show v :: vals (l.drop _) = _
  rw [← vals_drop]

set_option maxHeartbeats 1000000 in
set_option maxRecDepth 100000 in
theorem rput_any (w : World) (r : Nat) (l : Nd 0) (kv vv : Value) (k : Key) (v : Rid) (h : RefAt w r l kv vv) (hl : l.length ≤ 100000) :
    Calls Try.prog 15 #[ptr r, .string k, ridV v] w (RefTo w r kv vv (insL l k v) !(hasK (keys l) k)) := by
  have HF := Lib.hid (fun w' (hs : Still w w') => find_any w' r l kv vv k (h.still hs) hl)
  obtain ⟨vp, vq⟩ := v
  have H := Lib.hid h
  obtain ⟨n, hn⟩ : ∃ n, l.length = n := ⟨_, rfl⟩
  have HN := Lib.hid (And.intro hn hl)
  have hp := pos_le (keys l) k
  rw [keys_length, hn] at hp
  obtain ⟨p, hpp⟩ : ∃ p, pos (keys l) k = p := ⟨_, rfl⟩
  rw [hpp] at hp
  obtain ⟨q, hq⟩ : ∃ q, hasK (keys l) k = q := ⟨_, rfl⟩
  unfold FindPost at HF
  rw [hpp, hq] at HF
  have HP := Lib.hid (And.intro hpp (And.intro hq hp))
  rw [hq]
  clear h hn hl hpp hq
  unfold ptr at HF ⊢
  unfold ridV
  dsimp only
  go_enter Try.func15, Try.ntmps15
  go_wp2_with fail
  refine (HF.out _ ((Still.refl _).alloc _)).mono ?_
  rintro e w1 ⟨rfl, hs1⟩
  have hs01 := ((Still.refl w).alloc (.cells #[.int .i64 vp, .int .i64 vq] 35)).trans hs1
  have HS1 := Lib.hid hs01
  have HR1 := Lib.hid (H.out.still hs01)
  have bx0 : w1.cell? ⟨w.heap.size, 0, none⟩ = some (.int .i64 vp) := Still.cell hs1 ((cellsAt_new w [.int .i64 vp, .int .i64 vq] 35).cell 0)
  have bx1 : w1.cell? ⟨w.heap.size, 1, none⟩ = some (.int .i64 vq) := Still.cell hs1 ((cellsAt_new w [.int .i64 vp, .int .i64 vq] 35).cell 1)
  obtain ⟨bx, hbx⟩ : ∃ bx, w.heap.size = bx := ⟨_, rfl⟩
  rw [hbx] at bx0 bx1
  have HBX := Lib.hid (And.intro hbx (And.intro bx0 bx1))
  rw [hbx]
  clear hs1 hs01 HF bx0 bx1 hbx
  cases q with
  | true =>
    have hpn : p < n := by
      have := hasK_lt HP.out.2.1
      rw [keys_length, HP.out.1, HN.out.1] at this
      exact this
    have c0 := HR1.out.cells.cell 1
    have f0 := HR1.out.cells.free 1
    have hrd := HR1.out.v.reads
    rw [HN.out.1] at hrd
    obtain ⟨i1, hi1, hy0, hy1, hy2⟩ := info_parts info_r
    have HJ := Lib.hid (And.intro hi1 (And.intro hy0 (And.intro hy1 hy2)))
    have hcA : ∀ ob, (w1.alloc ob).cell? ⟨r, 1, none⟩ = some vv := fun ob => Still.cell ((Still.refl w1).alloc ob) c0
    have HRD := Lib.hid (fun ob => hrd.belowAll ((Below.refl w1.heap.size w1).alloc (Nat.le_refl _) ob))
    clear hrd hi1 hy0 hy1 hy2
    go_wp2_with (at_builtin; refine wpList_append_vec rfl _ _ 28 rfl 35 i1 _ 2 16 Try.underlying28 HJ.out.1 HJ.out.2.1 HJ.out.2.2.1 HJ.out.2.2.2 rfl (by decide) _ 0 [] rfl (Vec.none_ _ _ _ _) _ n (rcells (vals l)) rfl (HRD.out _) (fun u hu => rcells_one _ u hu) (by simp only [maxLen]; have := HN.out; omega) (by have := HN.out; omega) ?_; intro v' w' hv' ho' hb'; rw [Nat.zero_add, List.nil_append] at hv'; have hst := copied ho' hb'; clear ho' hb'; have c0' := Still.cell hst.1 c0; have f0' := (HR1.out.cells.only hst.1 fun e => e).free 1; have HVP := Lib.hid (And.intro hv' hst); obtain ⟨va, vc, rfl⟩ := hv'.form'; clear hv' hst)
    obtain ⟨gv, ov, cv, he, hva⟩ := HVP.out.1.form (by omega)
    injection he with he _ hec
    subst he hec
    have hgv := HVP.out.2.2 gv rfl
    have hrl := HR1.out.cells.lt
    have hgr : gv ≠ r := by omega
    have hbl : bx < w1.heap.size := World.block_lt_of_cell? _ _ HBX.out.2.1
    have hgb : gv ≠ bx := by omega
    have hbr : bx ≠ r := by have := HBX.out.1; have := H.out.cells.lt; omega
    obtain ⟨wz, hwz⟩ : ∃ wz, w'.setCell ⟨r, 1, none⟩ (.slice (some ⟨gv, ov, none⟩) n vc) = wz := ⟨_, rfl⟩
    have e1 : wz.cell? ⟨r, 1, none⟩ = some (.slice (some ⟨gv, ov, none⟩) n vc) := by rw [← hwz]; exact World.cell?_setCell_same _ _ _ c0'
    have e2 : ∀ j, j < n * 2 → wz.cell? ⟨gv, ov + j, none⟩ = (rcells (vals l))[j]? ∧ wz.frozen? ⟨gv, ov + j, none⟩ = false := fun j hj => by
      rw [← hwz, World.frozen?_setCell, World.cell?_setCell_other _ _ _ _ fun e => hgr (congrArg Addr.block e).symm]
      exact ⟨hva.cell j hj, hva.free j hj⟩
    have e3 : wz.cell? ⟨bx, 0, none⟩ = some (.int .i64 vp) := by rw [← hwz, World.cell?_setCell_other _ _ _ _ fun e => hbr (congrArg Addr.block e).symm]; exact Still.cell HVP.out.2.1 HBX.out.2.1
    have e4 : wz.cell? ⟨bx, 1, none⟩ = some (.int .i64 vq) := by rw [← hwz, World.cell?_setCell_other _ _ _ _ fun e => hbr (congrArg Addr.block e).symm]; exact Still.cell HVP.out.2.1 HBX.out.2.2
    obtain ⟨x, hx⟩ : ∃ x, (vals l)[p]? = some x := ⟨_, List.getElem?_eq_getElem (by rw [vals_length, HN.out.1]; exact hpn)⟩
    have e5 : wz.cell? ⟨gv, ov + p * 2, none⟩ = some (.int .i64 x.1) := (e2 (p * 2) (by omega)).1.trans (rcells_get _ p x hx).1
    have e6 : wz.cell? ⟨gv, ov + p * 2 + 1, none⟩ = some (.int .i64 x.2) := (e2 (p * 2 + 1) (by omega)).1.trans (rcells_get _ p x hx).2
    have e7 := (e2 (p * 2) (by omega)).2
    have e8 : wz.frozen? ⟨gv, ov + p * 2 + 1, none⟩ = false := (e2 (p * 2 + 1) (by omega)).2
    have p1 : (0 : Int) ≤ (p : Int) := by omega
    have p2 : (p : Int) < (n : Int) := by omega
    have F := Lib.hid (show RefTo w r kv vv (insL l k (vp, vq)) false (.returned (.bool false)) ((wz.setCell ⟨gv, ov + p * 2, none⟩ (.int .i64 vp)).setCell ⟨gv, ov + p * 2 + 1, none⟩ (.int .i64 vq)) from by
      have hz : wz = w'.setCell ⟨r, 1, none⟩ (.slice (some ⟨gv, ov, none⟩) n vc) := hwz.symm
      have o1 : Only (fun b => b = r) w1 wz := by rw [hz]; exact Only.setCell (S := fun b => b = r) (HVP.out.2.1.mono fun _ e => e.elim) (.inl rfl) _
      have o2 := Only.setCell (S := fun b => b = r) (Only.setCell (S := fun b => b = r) o1 (p := ⟨gv, ov + p * 2, none⟩) (.inr hgv.1) (.int .i64 vp)) (p := ⟨gv, ov + p * 2 + 1, none⟩) (.inr hgv.1) (.int .i64 vq)
      have cz : cellsAt wz r [kv, .slice (some ⟨gv, ov, none⟩) n vc] := by rw [hz]; exact (HR1.out.cells.only HVP.out.2.1 fun e => e).setCell 1 _
      have vz : VecAt wz 2 gv ov n vc (rcells (vals l)) := by
        have := Vec.only (S := fun b => b = r) (.inr ⟨gv, ov, vc, rfl, hva⟩ : Vec w' 2 (.slice (some ⟨gv, ov, none⟩) n vc) n (rcells (vals l))) (setCell_only w' ⟨r, 1, none⟩ (.slice (some ⟨gv, ov, none⟩) n vc)) fun g hg e => hgr ((Option.some.inj hg).trans e)
        rw [hz]
        exact this.at
      have kl : (keys l)[p]? = some k := by have := HP.out.2.1; unfold hasK at this; rw [HP.out.1] at this; exact of_decide_eq_true this
      have ek : keys (insL l k (vp, vq)) = keys l := by
        rw [keys_ins, HP.out.1, HP.out.2.1]
        simp only [if_true]
        have hpl := (List.getElem?_eq_some_iff.1 kl).1
        conv => rhs; rw [← List.take_append_drop p (keys l), List.drop_eq_getElem_cons hpl]
        rw [(List.getElem?_eq_some_iff.1 kl).2]
      have ev : vals (insL l k (vp, vq)) = (vals l).set p (vp, vq) := by
        rw [vals_ins, HP.out.1, HP.out.2.1]
        simp only [if_true]
        rw [List.set_eq_take_append_cons_drop, if_pos (by rw [vals_length, HN.out.1]; exact hpn)]
      have el : (insL l k (vp, vq)).length = n := by
        have := insL_length' (l := l) k (vp, vq)
        rw [HP.out.2.1, HN.out.1] at this
        simpa using this
      refine ⟨rfl, kv, .slice (some ⟨gv, ov, none⟩) n vc, ⟨((cz.setOther (p := ⟨gv, ov + p * 2, none⟩) (Ne.symm hgr) _).setOther (p := ⟨gv, ov + p * 2 + 1, none⟩) (Ne.symm hgr) _), ?_, ?_, KS_ins HR1.out.ks k (vp, vq), HR1.out.nk, fun e => hgr (Option.some.inj e), fun g hg => Nat.lt_of_lt_of_le (HR1.out.bk g hg) o2.size, fun g hg => ?_⟩, ?_, fun g hg => .inl hg, fun g hg => .inr ?_⟩
      · rw [ek, el]
        have := HR1.out.k.only o2 fun g hg e => HR1.out.nk (by rw [hg, e])
        rw [HN.out.1] at this
        exact this
      · rw [ev, el]
        have := (vz.set (p * 2) (by omega) (.int .i64 vp)).set (p * 2 + 1) (by omega) (.int .i64 vq)
        rw [rcells_set (vals l) p (vp, vq) (by rw [vals_length, HN.out.1]; exact hpn), ← Nat.add_assoc] at this
        exact .inr ⟨gv, ov, vc, rfl, this⟩
      · have h1 : gv = g := Option.some.inj hg
        rw [hz]
        simp only [World.setCell, Array.size_modify]
        omega
      · exact (HS1.out.mono fun _ e => e.elim).trans o2
      · have h1 : gv = g := Option.some.inj hg
        have := HS1.out.size
        omega)
    rw [hwz]
    clear hwz e2 hx hva c0 c0' f0 f0' hcA
    go_still_tail 7, (by kernel_rfl)
    change wpList _ _ _ _ _ wz.drew
    go_wp2_with fail
    go_ret
    exact F.out.drew
  | false =>
    have hk1 := HR1.out.k
    rw [HN.out.1] at hk1
    obtain ⟨k1, -, r1, -, v1⟩ := mid_k hk1 (Nat.zero_le p) hp
    obtain ⟨k2, -, -, r2, v2⟩ := mid_k hk1 hp (Nat.le_refl n)
    have r1' := r1 rfl
    have r2' := r2 rfl
    simp only [List.drop_zero, Nat.sub_zero] at v1
    rw [List.take_of_length_le (by rw [List.length_drop, keys_length, HN.out.1]; omega)] at v2
    have HV := Lib.hid (fun w' (hs : Still w1 w') => And.intro (v1 w' (hk1.only hs fun _ _ e => e)).reads (v2 w' (hk1.only hs fun _ _ e => e)).reads)
    have c0 := HR1.out.cells.cell 0
    have f0 := HR1.out.cells.free 0
    have SS := Lib.hid (fun w' (hs : Still w1 w') => show w'.cell? ⟨r, 0, none⟩ = some kv ∧ w'.frozen? ⟨r, 0, none⟩ = false from ⟨Still.cell hs c0, (HR1.out.cells.only hs fun e => e).free 0⟩)
    obtain ⟨i0, hi0, hz0, hz1, hz2⟩ := info_parts info_s
    obtain ⟨i1, hi1, hy0, hy1, hy2⟩ := info_parts info_r
    have HI := Lib.hid (And.intro hi0 (And.intro hz0 (And.intro hz1 hz2)))
    have HJ := Lib.hid (And.intro hi1 (And.intro hy0 (And.intro hy1 hy2)))
    have hn10 : n ≤ 100000 := by have := HN.out; omega
    clear hi0 hz0 hz1 hz2 hi1 hy0 hy1 hy2 hk1 r1 r2 v1 v2
    go_wp2_with fail
    refine wp_region_D_drew (D := (fun i => [0, 2, 3, 4, 6, 9, 12, 13, 14, 16, 19, 20, 21].contains i)) (S := (fun w' => w'.cell? ⟨r, 0, none⟩ = some kv ∧ w'.frozen? ⟨r, 0, none⟩ = false)) (by kernel_rfl) ?_ (fun hHeld => ?_)
    · exact ⟨c0, f0⟩
    (refine takeD (i := 0) (some 32) (v := ?_) rfl (by rfl) (by rfl) (by kernel_rfl) (by rfl) (fun _ _ _ h => h) ?_ ?_; rotate_left; (intro w; go_simp; try with_reducible rfl); try go_frame)
    (refine takeD (i := 2) (some 34) (v := ?_) rfl (by rfl) (by rfl) (by kernel_rfl) (by rfl) (fun _ _ _ h => h) ?_ ?_; rotate_left; (intro w; go_simp; try with_reducible rfl); try go_frame)
    (refine takeD (i := 3) (some 35) (v := ?_) rfl (by rfl) (by rfl) (by kernel_rfl) (by rfl) (fun _ _ _ h => h) ?_ ?_; rotate_left; (intro w; go_simp; try with_reducible rfl); try go_frame)
    (refine takeD (i := 4) (some 36) (v := ?_) rfl (by rfl) (by rfl) (by kernel_rfl) (by rfl) (fun _ _ _ h => h) ?_ ?_; rotate_left; (intro w; go_simp; try with_reducible rfl); try go_frame)
    (refine takeD (i := 6) (some 38) (v := ?_) rfl (by rfl) (by rfl) (by kernel_rfl) (by rfl) (fun _ _ _ h => h) ?_ ?_; rotate_left; (intro w; go_simp; try with_reducible rfl); try go_frame)
    (refine takeD (i := 9) (some 41) (v := ?_) rfl (by rfl) (by rfl) (by kernel_rfl) (by rfl) (fun _ _ _ h => h) ?_ ?_; rotate_left; (intro w; go_simp; try with_reducible rfl); try go_frame)
    (refine takeD (i := 12) (some 44) (v := ?_) rfl (by rfl) (by rfl) (by kernel_rfl) (by rfl) (fun _ _ _ h => h) ?_ ?_; rotate_left; (intro w; go_simp; try with_reducible rfl); try go_frame)
    (refine takeD (i := 13) (some 45) (v := ?_) rfl (by rfl) (by rfl) (by kernel_rfl) (by rfl) (fun _ _ _ h => h) ?_ ?_; rotate_left; (intro w; go_simp; try with_reducible rfl); try go_frame)
    (refine takeD (i := 14) (some 46) (v := ?_) rfl (by rfl) (by rfl) (by kernel_rfl) (by rfl) (fun _ _ _ h => h) ?_ ?_; rotate_left; (intro w; go_simp; try with_reducible rfl); try go_frame)
    (refine takeD (i := 16) (some 48) (v := ?_) rfl (by rfl) (by rfl) (by kernel_rfl) (by rfl) (fun _ _ _ h => h) ?_ ?_; rotate_left; (intro w; go_simp; try with_reducible rfl); try go_frame)
    (refine takeS (i := 5) (some 37) (v := ?_) rfl (by rfl) (by rfl) (by kernel_rfl) (by rfl) (fun _ _ _ h => h) (by assumption) ?_ ?_; rotate_left; (intro w hSw; (try dsimp only at hSw); go_simp; try with_reducible rfl); try go_frame)
    (refine takeS (i := 7) (some 39) (v := ?_) rfl (by rfl) (by rfl) (by kernel_rfl) (by rfl) (fun _ _ _ h => h) (by assumption) ?_ ?_; rotate_left; (intro w hSw; (try dsimp only at hSw); go_simp; try with_reducible rfl); try go_frame)
    (refine takeS (i := 15) (some 47) (v := ?_) rfl (by rfl) (by rfl) (by kernel_rfl) (by rfl) (fun _ _ _ h => h) (by assumption) ?_ ?_; rotate_left; (intro w hSw; (try dsimp only at hSw); go_simp; try with_reducible rfl); try go_frame)
    (refine takeS (i := 17) (some 49) (v := ?_) rfl (by rfl) (by rfl) (by kernel_rfl) (by rfl) (fun _ _ _ h => h) (by assumption) ?_ ?_; rotate_left; (intro w hSw; (try dsimp only at hSw); go_simp; try with_reducible rfl); try go_frame)
    refine wpAnyD_merged (J := ChJ w1 (chain3 1 8 10 11 18 1 p (n - p) (kcells ((keys l).take p)) [.string k] (kcells ((keys l).drop p)))) [(1, 33), (8, 40), (10, 42), (11, 43), (18, 50)] (fun i => if i = 8 then [1] else if i = 11 then [8, 10] else if i = 18 then [11] else []) #[true, true, true, true, true, true, true, true, true, true, true, true, true, true, true, true, true, true, true, false, false, false] rfl (by kernel_rfl) (by kernel_rfl) ?_ ?_ ?_ ?_
    · intro L xs w' hJ
      exact SS.out _ hJ.still
    · intro xs
      refine ChJ.start (Still.refl _).drew ?_
      intro j hj
      simp only [chain3, List.mem_cons, List.not_mem_nil, or_false] at hj
      rcases hj with rfl | rfl | rfl | rfl | rfl <;> kernel_rfl
    · intro q hq
      simp only [List.mem_cons, List.not_mem_nil, or_false] at hq
      rcases hq with rfl | rfl | rfl | rfl | rfl
      · refine StepM.of rfl (fun L xs w' hd hl hJ K hK => ?_)
        (unfold fillA; simp only [List.foldl]; try go_frame)
        go_simp
        refine hK.out _ _ (hJ.build (v := .slice (some ⟨w'.heap.size, 0, none⟩) 0 0) _ (Vec.none_ _ _ _ _) (fun g e => by cases e; rfl)) _ (by kernel_rfl)
      · refine ChJ.stepApp 1 rfl rfl (.tmp 33) (.tmp 39) 27 rfl rfl 9 i0 _ 1 16 Try.underlying27 HI.out.1 HI.out.2.1 HI.out.2.2.1 HI.out.2.2.2 rfl (by decide) p (kcells ((keys l).take p)) rfl rfl (by decide) rfl rfl (by first | rfl | exact (Nat.zero_add _).symm) rfl (fun u hu => kcells_one _ u hu) (show 0 + p ≤ maxLen by simp only [maxLen]; omega) (show (0 + p) * 16 ≤ 140737488355328 by omega) ?_ ?_
        · intro xs
          (unfold fillA; simp only [List.foldl]; try go_frame)
          simp [Act.eval]
        · intro L xs w' hd hl hJ
          refine ⟨k1, ?_, (HV.out _ hJ.still).1⟩
          (unfold fillA; simp only [List.foldl]; try go_frame)
          simp [Act.eval]
      · refine StepM.of rfl (fun L xs w' hd hl hJ K hK => ?_)
        (unfold fillA; simp only [List.foldl]; try go_frame)
        go_simp
        refine hK.out _ _ (hJ.build (v := .slice (some ⟨w'.heap.size, 0, none⟩) 1 1) _ (vec_block (n := 1) (heap_alloc_new _ _) rfl (by simp only [maxLen]; omega)) (fun g e => by cases e; rfl)) _ (by kernel_rfl)
      · refine ChJ.stepApp 8 rfl rfl (.tmp 40) (.tmp 42) 27 rfl rfl 9 i0 _ 1 16 Try.underlying27 HI.out.1 HI.out.2.1 HI.out.2.2.1 HI.out.2.2.2 rfl (by decide) 1 [.string k] rfl rfl (by decide) rfl rfl (by first | rfl | exact (Nat.zero_add _).symm) rfl (by intro u hu; simp at hu; rw [hu]; rfl) (show p + 1 ≤ maxLen by simp only [maxLen]; omega) (show (p + 1) * 16 ≤ 140737488355328 by omega) ?_ ?_
        · intro xs
          (unfold fillA; simp only [List.foldl]; try go_frame)
          simp [Act.eval]
        · intro L xs w' hd hl hJ
          refine ⟨xs 10, ?_, (hJ.vec 10 (List.contains_iff_mem.1 rfl) (hd 10 (by simp)) hl).1.reads⟩
          (unfold fillA; simp only [List.foldl]; try go_frame)
          simp [Act.eval]
      · refine ChJ.stepApp 11 rfl rfl (.tmp 43) (.tmp 49) 27 rfl rfl 9 i0 _ 1 16 Try.underlying27 HI.out.1 HI.out.2.1 HI.out.2.2.1 HI.out.2.2.2 rfl (by decide) (n - p) (kcells ((keys l).drop p)) rfl rfl (by decide) rfl rfl (by first | rfl | exact (Nat.zero_add _).symm) rfl (fun u hu => kcells_one _ u hu) (show p + 1 + (n - p) ≤ maxLen by simp only [maxLen]; omega) (show (p + 1 + (n - p)) * 16 ≤ 140737488355328 by omega) ?_ ?_
        · intro xs
          (unfold fillA; simp only [List.foldl]; try go_frame)
          simp [Act.eval]
        · intro L xs w' hd hl hJ
          refine ⟨k2, ?_, (HV.out _ hJ.still).2⟩
          (unfold fillA; simp only [List.foldl]; try go_frame)
          simp [Act.eval]
    · intro xs w' hJ
      (unfold fillA; simp only [List.foldl]; try go_frame)
      obtain ⟨hk3, hf3⟩ := hJ.vec 18 (List.contains_iff_mem.1 rfl) (by kernel_rfl) (by kernel_rfl)
      have hk3' : Vec w' 1 (xs 18) (n + 1) (kcells (keys (insL l k (vp, vq)))) := by
        rw [keys_ins, HP.out.1, HP.out.2.1]
        simp only [Bool.false_eq_true, if_false]
        have e1 : p + 1 + (n - p) = n + 1 := by omega
        have e2 : kcells ((keys l).take p ++ k :: (keys l).drop p) = kcells ((keys l).take p) ++ [.string k] ++ kcells ((keys l).drop p) := by simp [kcells]
        rw [e2, ← e1]
        exact hk3
      have hmid := HR1.out.mid hJ.still hk3' hf3
      have hbr : bx ≠ r := by have := HBX.out.1; have := H.out.cells.lt; omega
      have hb0 : ∀ u, (w'.setCell ⟨r, 0, none⟩ u).cell? ⟨bx, 0, none⟩ = some (.int .i64 vp) ∧ (w'.setCell ⟨r, 0, none⟩ u).cell? ⟨bx, 1, none⟩ = some (.int .i64 vq) := fun u =>
        ⟨(World.cell?_setCell_other _ _ _ _ fun e => hbr (congrArg Addr.block e).symm).trans (Still.cell hJ.still HBX.out.2.1), (World.cell?_setCell_other _ _ _ _ fun e => hbr (congrArg Addr.block e).symm).trans (Still.cell hJ.still HBX.out.2.2)⟩
      have hb0' := hb0 (xs 18)
      obtain ⟨s0, s1⟩ := SS.out _ hJ.still
      have hfk : ∀ g, (xs 18).ownBlock = some g → w1.heap.size ≤ g ∧ g < (w'.setCell ⟨r, 0, none⟩ (xs 18)).heap.size := fun g hg => by rw [hmid.2.2.2.2]; exact hf3 g hg
      clear hk3 hk3' hf3 hJ hb0 hbr
      generalize xs 18 = k3 at *
      obtain ⟨ka, kc, rfl⟩ := hmid.2.1.form'
      refine wpAnyD_ready (rs := [19]) (by kernel_rfl) (by simp) ?_
      refine ReadyD.last rfl (by rfl) (fun K hK => ?_) ?_
      go_simp
      refine hK.out _ _ ?_
      (clear hK K; try go_frame)
      refine wpAnyD_ready (rs := [20]) (by kernel_rfl) (by simp) ?_
      refine ReadyD.last rfl (by rfl) (fun K hK => ?_) ?_
      go_simp
      refine hK.out _ _ ?_
      (clear hK K; try go_frame)
      refine wpAnyD_ready (rs := [21]) (by kernel_rfl) (by simp) ?_
      refine ReadyD.last rfl (by rfl) (fun K hK => ?_) ?_
      go_simp
      refine hK.out _ _ ?_
      (clear hK K; try go_frame)
      refine wpAnyD_done (by kernel_rfl) ?_ _
      rotate_left
      exact ReadyD.nil
      exact ReadyD.nil
      exact ReadyD.nil
      generalize w'.setCell ⟨r, 0, none⟩ (.slice ka (n + 1) kc) = w2 at *
      have HM := Lib.hid (And.intro hmid hfk)
      have HB2 := Lib.hid hb0'
      clear hmid hb0' hfk s0 s1 r1' r2' c0 f0
      have hv1 := HM.out.1.2.2.1
      rw [HN.out.1] at hv1
      obtain ⟨v1, -, q1, -, x1⟩ := mid_v hv1 (Nat.zero_le p) hp
      obtain ⟨v2, -, -, q2, x2⟩ := mid_v hv1 hp (Nat.le_refl n)
      have q1' := q1 rfl
      have q2' := q2 rfl
      simp only [List.drop_zero, Nat.sub_zero] at x1
      rw [List.take_of_length_le (by rw [List.length_drop, vals_length, HN.out.1]; omega)] at x2
      have HV2 := Lib.hid (fun w' (hs : Still w2 w') => And.intro (x1 w' (hv1.only hs fun _ _ e => e)).reads (x2 w' (hv1.only hs fun _ _ e => e)).reads)
      have SS2 := Lib.hid (fun w' (hs : Still w2 w') => show w'.cell? ⟨r, 1, none⟩ = some vv ∧ w'.frozen? ⟨r, 1, none⟩ = false ∧ w'.cell? ⟨bx, 0, none⟩ = some (.int .i64 vp) ∧ w'.cell? ⟨bx, 1, none⟩ = some (.int .i64 vq) from
        ⟨Still.cell hs (HM.out.1.1.cell 1), (HM.out.1.1.only hs fun e => e).free 1, Still.cell hs HB2.out.1, Still.cell hs HB2.out.2⟩)
      clear hv1 q1 q2 x1 x2
      go_wp2_with fail
      refine wp_region_D_drew (D := (fun i => [0, 2, 3, 4, 6, 12, 13, 14, 16, 19, 20, 21].contains i)) (S := (fun w' => w'.cell? ⟨r, 1, none⟩ = some vv ∧ w'.frozen? ⟨r, 1, none⟩ = false ∧ w'.cell? ⟨bx, 0, none⟩ = some (.int .i64 vp) ∧ w'.cell? ⟨bx, 1, none⟩ = some (.int .i64 vq))) (by kernel_rfl) ?_ (fun hHeld => ?_)
      · exact SS2.out _ (Still.refl _).drew
      (refine takeD (i := 0) (some 53) (v := ?_) rfl (by rfl) (by rfl) (by kernel_rfl) (by rfl) (fun _ _ _ h => h) ?_ ?_; rotate_left; (intro w; go_simp; try with_reducible rfl); try go_frame)
      (refine takeD (i := 2) (some 55) (v := ?_) rfl (by rfl) (by rfl) (by kernel_rfl) (by rfl) (fun _ _ _ h => h) ?_ ?_; rotate_left; (intro w; go_simp; try with_reducible rfl); try go_frame)
      (refine takeD (i := 3) (some 56) (v := ?_) rfl (by rfl) (by rfl) (by kernel_rfl) (by rfl) (fun _ _ _ h => h) ?_ ?_; rotate_left; (intro w; go_simp; try with_reducible rfl); try go_frame)
      (refine takeD (i := 4) (some 57) (v := ?_) rfl (by rfl) (by rfl) (by kernel_rfl) (by rfl) (fun _ _ _ h => h) ?_ ?_; rotate_left; (intro w; go_simp; try with_reducible rfl); try go_frame)
      (refine takeD (i := 6) (some 59) (v := ?_) rfl (by rfl) (by rfl) (by kernel_rfl) (by rfl) (fun _ _ _ h => h) ?_ ?_; rotate_left; (intro w; go_simp; try with_reducible rfl); try go_frame)
      (refine takeD (i := 12) (some 65) (v := ?_) rfl (by rfl) (by rfl) (by kernel_rfl) (by rfl) (fun _ _ _ h => h) ?_ ?_; rotate_left; (intro w; go_simp; try with_reducible rfl); try go_frame)
      (refine takeD (i := 13) (some 66) (v := ?_) rfl (by rfl) (by rfl) (by kernel_rfl) (by rfl) (fun _ _ _ h => h) ?_ ?_; rotate_left; (intro w; go_simp; try with_reducible rfl); try go_frame)
      (refine takeD (i := 14) (some 67) (v := ?_) rfl (by rfl) (by rfl) (by kernel_rfl) (by rfl) (fun _ _ _ h => h) ?_ ?_; rotate_left; (intro w; go_simp; try with_reducible rfl); try go_frame)
      (refine takeD (i := 16) (some 69) (v := ?_) rfl (by rfl) (by rfl) (by kernel_rfl) (by rfl) (fun _ _ _ h => h) ?_ ?_; rotate_left; (intro w; go_simp; try with_reducible rfl); try go_frame)
      (refine takeS (i := 5) (some 58) (v := ?_) rfl (by rfl) (by rfl) (by kernel_rfl) (by rfl) (fun _ _ _ h => h) (by assumption) ?_ ?_; rotate_left; (intro w hSw; (try dsimp only at hSw); go_simp; try with_reducible rfl); try go_frame)
      (refine takeS (i := 7) (some 60) (v := ?_) rfl (by rfl) (by rfl) (by kernel_rfl) (by rfl) (fun _ _ _ h => h) (by assumption) ?_ ?_; rotate_left; (intro w hSw; (try dsimp only at hSw); go_simp; try with_reducible rfl); try go_frame)
      (refine takeS (i := 9) (some 62) (v := ?_) rfl (by rfl) (by rfl) (by kernel_rfl) (by rfl) (fun _ _ _ h => h) (by assumption) ?_ ?_; rotate_left; (intro w hSw; (try dsimp only at hSw); go_simp; try with_reducible rfl); try go_frame)
      (refine takeS (i := 15) (some 68) (v := ?_) rfl (by rfl) (by rfl) (by kernel_rfl) (by rfl) (fun _ _ _ h => h) (by assumption) ?_ ?_; rotate_left; (intro w hSw; (try dsimp only at hSw); go_simp; try with_reducible rfl); try go_frame)
      (refine takeS (i := 17) (some 70) (v := ?_) rfl (by rfl) (by rfl) (by kernel_rfl) (by rfl) (fun _ _ _ h => h) (by assumption) ?_ ?_; rotate_left; (intro w hSw; (try dsimp only at hSw); go_simp; try with_reducible rfl); try go_frame)
      refine wpAnyD_merged (J := ChJ w2 (chain3 1 8 10 11 18 2 p (n - p) (rcells ((vals l).take p)) [.int .i64 vp, .int .i64 vq] (rcells ((vals l).drop p)))) [(1, 54), (8, 61), (10, 63), (11, 64), (18, 71)] (fun i => if i = 8 then [1] else if i = 11 then [8, 10] else if i = 18 then [11] else []) #[true, true, true, true, true, true, true, true, true, true, true, true, true, true, true, true, true, true, true, false, false, false] rfl (by kernel_rfl) (by kernel_rfl) ?_ ?_ ?_ ?_
      · intro L xs w' hJ
        exact SS2.out _ hJ.still
      · intro xs
        refine ChJ.start (Still.refl _).drew ?_
        intro j hj
        simp only [chain3, List.mem_cons, List.not_mem_nil, or_false] at hj
        rcases hj with rfl | rfl | rfl | rfl | rfl <;> kernel_rfl
      · intro q hq
        simp only [List.mem_cons, List.not_mem_nil, or_false] at hq
        rcases hq with rfl | rfl | rfl | rfl | rfl
        · refine StepM.of rfl (fun L xs w' hd hl hJ K hK => ?_)
          (unfold fillA; simp only [List.foldl]; try go_frame)
          go_simp
          refine hK.out _ _ (hJ.build (v := .slice (some ⟨w'.heap.size, 0, none⟩) 0 0) _ (Vec.none_ _ _ _ _) (fun g e => by cases e; rfl)) _ (by kernel_rfl)
        · refine ChJ.stepApp 1 rfl rfl (.tmp 54) (.tmp 60) 28 rfl rfl 35 i1 _ 2 16 Try.underlying28 HJ.out.1 HJ.out.2.1 HJ.out.2.2.1 HJ.out.2.2.2 rfl (by decide) p (rcells ((vals l).take p)) rfl rfl (by decide) rfl rfl (by first | rfl | exact (Nat.zero_add _).symm) rfl (fun u hu => rcells_one _ u hu) (show 0 + p ≤ maxLen by simp only [maxLen]; omega) (show (0 + p) * 16 ≤ 140737488355328 by omega) ?_ ?_
          · intro xs
            (unfold fillA; simp only [List.foldl]; try go_frame)
            simp [Act.eval]
          · intro L xs w' hd hl hJ
            refine ⟨v1, ?_, (HV2.out _ hJ.still).1⟩
            (unfold fillA; simp only [List.foldl]; try go_frame)
            simp [Act.eval]
        · refine StepM.of rfl (fun L xs w' hd hl hJ K hK => ?_)
          (unfold fillA; simp only [List.foldl]; try go_frame)
          go_simp
          refine hK.out _ _ (hJ.build (v := .slice (some ⟨w'.heap.size, 0, none⟩) 1 1) _ (vec_block (n := 1) (heap_alloc_new _ _) rfl (by simp only [maxLen]; omega)) (fun g e => by cases e; rfl)) _ (by kernel_rfl)
        · refine ChJ.stepApp 8 rfl rfl (.tmp 61) (.tmp 63) 28 rfl rfl 35 i1 _ 2 16 Try.underlying28 HJ.out.1 HJ.out.2.1 HJ.out.2.2.1 HJ.out.2.2.2 rfl (by decide) 1 [.int .i64 vp, .int .i64 vq] rfl rfl (by decide) rfl rfl (by first | rfl | exact (Nat.zero_add _).symm) rfl (by intro u hu; simp at hu; rcases hu with hu | hu <;> (rw [hu]; rfl)) (show p + 1 ≤ maxLen by simp only [maxLen]; omega) (show (p + 1) * 16 ≤ 140737488355328 by omega) ?_ ?_
          · intro xs
            (unfold fillA; simp only [List.foldl]; try go_frame)
            simp [Act.eval]
          · intro L xs w' hd hl hJ
            refine ⟨xs 10, ?_, (hJ.vec 10 (List.contains_iff_mem.1 rfl) (hd 10 (by simp)) hl).1.reads⟩
            (unfold fillA; simp only [List.foldl]; try go_frame)
            simp [Act.eval]
        · refine ChJ.stepApp 11 rfl rfl (.tmp 64) (.tmp 70) 28 rfl rfl 35 i1 _ 2 16 Try.underlying28 HJ.out.1 HJ.out.2.1 HJ.out.2.2.1 HJ.out.2.2.2 rfl (by decide) (n - p) (rcells ((vals l).drop p)) rfl rfl (by decide) rfl rfl (by first | rfl | exact (Nat.zero_add _).symm) rfl (fun u hu => rcells_one _ u hu) (show p + 1 + (n - p) ≤ maxLen by simp only [maxLen]; omega) (show (p + 1 + (n - p)) * 16 ≤ 140737488355328 by omega) ?_ ?_
          · intro xs
            (unfold fillA; simp only [List.foldl]; try go_frame)
            simp [Act.eval]
          · intro L xs w' hd hl hJ
            refine ⟨v2, ?_, (HV2.out _ hJ.still).2⟩
            (unfold fillA; simp only [List.foldl]; try go_frame)
            simp [Act.eval]
      · intro xs w' hJ
        (unfold fillA; simp only [List.foldl]; try go_frame)
        obtain ⟨hv3, hg3⟩ := hJ.vec 18 (List.contains_iff_mem.1 rfl) (by kernel_rfl) (by kernel_rfl)
        have hv3' : Vec w' 2 (xs 18) (n + 1) (rcells (vals (insL l k (vp, vq)))) := by
          rw [vals_ins, HP.out.1, HP.out.2.1]
          simp only [Bool.false_eq_true, if_false]
          have e1 : p + 1 + (n - p) = n + 1 := by omega
          have e2 : rcells ((vals l).take p ++ (vp, vq) :: (vals l).drop p) = rcells ((vals l).take p) ++ [.int .i64 vp, .int .i64 vq] ++ rcells ((vals l).drop p) := by rw [rcells_append, rcells_cons]; simp
          rw [e2, ← e1]
          exact hv3
        have hlen : (insL l k (vp, vq)).length = n + 1 := by
          have := insL_length' (l := l) k (vp, vq)
          rw [HP.out.2.1, HN.out.1] at this
          simpa using this
        have F := Lib.hid (HR1.out.fin (b := true) HS1.out HM.out.1.1 (by rw [hlen]; exact HM.out.1.2.1) HM.out.2 HM.out.1.2.2.2.1 hJ.still (by rw [hlen]; exact hv3') hg3 (KS_ins HR1.out.ks k (vp, vq)))
        obtain ⟨s0, s1, -, -⟩ := SS2.out _ hJ.still
        have hvf := hv3'.form'
        clear hv3 hg3 hv3' hlen hJ
        generalize xs 18 = v3 at *
        obtain ⟨va, vc, rfl⟩ := hvf
        refine wpAnyD_ready (rs := [19]) (by kernel_rfl) (by simp) ?_
        refine ReadyD.last rfl (by rfl) (fun K hK => ?_) ?_
        go_simp
        refine hK.out _ _ ?_
        (clear hK K; try go_frame)
        refine wpAnyD_ready (rs := [20]) (by kernel_rfl) (by simp) ?_
        refine ReadyD.last rfl (by rfl) (fun K hK => ?_) ?_
        go_simp
        refine hK.out _ _ ?_
        (clear hK K; try go_frame)
        refine wpAnyD_ready (rs := [21]) (by kernel_rfl) (by simp) ?_
        refine ReadyD.last rfl (by rfl) (fun K hK => ?_) ?_
        go_simp
        refine hK.out _ _ ?_
        (clear hK K; try go_frame)
        refine wpAnyD_done (by kernel_rfl) ?_ _
        rotate_left
        exact ReadyD.nil
        exact ReadyD.nil
        exact ReadyD.nil
        go_wp2_with fail
        go_ret
        exact F.out
end Go.Proofs.Ytjmkfppnimengaa

namespace Go.Proofs.Ytjmkfppnimengaa
open Go.RowKit Go.Wh

theorem keys_del {l : Nd 0} {k : Key} (h : hasK (keys l) k = true) : keys (delL l k) = (keys l).take (pos (keys l) k) ++ (keys l).drop (pos (keys l) k + 1) := by
  unfold delL
  rw [if_pos h, keys_append, ← keys_take, ← keys_drop]
theorem vals_del {l : Nd 0} {k : Key} (h : hasK (keys l) k = true) : vals (delL l k) = (vals l).take (pos (keys l) k) ++ (vals l).drop (pos (keys l) k + 1) := by
  unfold delL
  rw [if_pos h, vals_append, ← vals_take, ← vals_drop]

set_option maxHeartbeats 1000000 in
set_option maxRecDepth 100000 in
theorem rcut_any (w : World) (r : Nat) (l : Nd 0) (kv vv : Value) (k : Key) (h : RefAt w r l kv vv) (hl : l.length ≤ 100000) :
    Calls Try.prog 13 #[ptr r, .string k] w (RefTo w r kv vv (delL l k) (hasK (keys l) k)) := by
  have HF := Lib.hid (find_any w r l kv vv k h hl)
  have H := Lib.hid h
  obtain ⟨n, hn⟩ : ∃ n, l.length = n := ⟨_, rfl⟩
  have HN := Lib.hid (And.intro hn hl)
  have hp := pos_le (keys l) k
  rw [keys_length, hn] at hp
  obtain ⟨p, hpp⟩ : ∃ p, pos (keys l) k = p := ⟨_, rfl⟩
  rw [hpp] at hp
  obtain ⟨q, hq⟩ : ∃ q, hasK (keys l) k = q := ⟨_, rfl⟩
  unfold FindPost at HF
  rw [hpp, hq] at HF
  have HP := Lib.hid (And.intro hpp (And.intro hq hp))
  rw [hq]
  clear h hn hl hpp hq
  unfold ptr at HF ⊢
  go_enter Try.func13, Try.ntmps13
  go_wp2_with fail
  refine HF.out.mono ?_
  rintro e w1 ⟨rfl, hs1⟩
  have HS1 := Lib.hid hs1
  have HR1 := Lib.hid (H.out.still hs1)
  clear hs1 HF
  cases q with
  | false =>
    have F := Lib.hid (show RefTo w r kv vv (delL l k) false (.returned (.bool false)) w1 from ⟨rfl, kv, vv, by
      have e : delL l k = l := by unfold delL; rw [HP.out.2.1]; rfl
      rw [e]
      exact HR1.out, HS1.out.mono fun _ e => e.elim, fun g hg => .inl hg, fun g hg => .inl hg⟩)
    go_wp2_with fail
    go_ret
    exact F.out
  | true =>
    have hpn : p + 1 ≤ n := by
      have := hasK_lt HP.out.2.1
      rw [keys_length, HP.out.1, HN.out.1] at this
      exact this
    have hk1 := HR1.out.k
    rw [HN.out.1] at hk1
    obtain ⟨k1, -, r1, -, v1⟩ := mid_k hk1 (Nat.zero_le p) hp
    obtain ⟨k2, -, -, r2, v2⟩ := mid_k hk1 hpn (Nat.le_refl n)
    have r1' := r1 rfl
    have r2' := r2 rfl
    rw [show ((p + 1 : Nat) : Int) = (p : Int) + 1 from by omega] at r2'
    simp only [List.drop_zero, Nat.sub_zero] at v1
    rw [List.take_of_length_le (by rw [List.length_drop, keys_length, HN.out.1]; omega)] at v2
    have HV := Lib.hid (fun w' (hs : Still w1 w') => And.intro (v1 w' (hk1.only hs fun _ _ e => e)).reads (v2 w' (hk1.only hs fun _ _ e => e)).reads)
    have c0 := HR1.out.cells.cell 0
    have f0 := HR1.out.cells.free 0
    have SS := Lib.hid (fun w' (hs : Still w1 w') => show w'.cell? ⟨r, 0, none⟩ = some kv ∧ w'.frozen? ⟨r, 0, none⟩ = false from ⟨Still.cell hs c0, (HR1.out.cells.only hs fun e => e).free 0⟩)
    obtain ⟨i0, hi0, hz0, hz1, hz2⟩ := info_parts info_s
    obtain ⟨i1, hi1, hy0, hy1, hy2⟩ := info_parts info_r
    have HI := Lib.hid (And.intro hi0 (And.intro hz0 (And.intro hz1 hz2)))
    have HJ := Lib.hid (And.intro hi1 (And.intro hy0 (And.intro hy1 hy2)))
    have hn10 : n ≤ 100000 := by have := HN.out; omega
    have u9 : IntKind.i64.wrap ((p : Int) + 1) = (p : Int) + 1 := IntWalk.i64_in _ (by omega)
    clear hi0 hz0 hz1 hz2 hi1 hy0 hy1 hy2 hk1 r1 r2 v1 v2
    go_wp2_with fail
    refine wp_region_D_drew (D := (fun i => [0, 2, 3, 4, 6, 9, 10, 11, 13, 14, 17, 18, 19].contains i)) (S := (fun w' => w'.cell? ⟨r, 0, none⟩ = some kv ∧ w'.frozen? ⟨r, 0, none⟩ = false)) (by kernel_rfl) ?_ (fun hHeld => ?_)
    · exact ⟨c0, f0⟩
    (refine takeD (i := 0) (some 14) (v := ?_) rfl (by rfl) (by rfl) (by kernel_rfl) (by rfl) (fun _ _ _ h => h) ?_ ?_; rotate_left; (intro w; go_simp; try with_reducible rfl); try go_frame)
    (refine takeD (i := 2) (some 16) (v := ?_) rfl (by rfl) (by rfl) (by kernel_rfl) (by rfl) (fun _ _ _ h => h) ?_ ?_; rotate_left; (intro w; go_simp; try with_reducible rfl); try go_frame)
    (refine takeD (i := 3) (some 17) (v := ?_) rfl (by rfl) (by rfl) (by kernel_rfl) (by rfl) (fun _ _ _ h => h) ?_ ?_; rotate_left; (intro w; go_simp; try with_reducible rfl); try go_frame)
    (refine takeD (i := 4) (some 18) (v := ?_) rfl (by rfl) (by rfl) (by kernel_rfl) (by rfl) (fun _ _ _ h => h) ?_ ?_; rotate_left; (intro w; go_simp; try with_reducible rfl); try go_frame)
    (refine takeD (i := 6) (some 20) (v := ?_) rfl (by rfl) (by rfl) (by kernel_rfl) (by rfl) (fun _ _ _ h => h) ?_ ?_; rotate_left; (intro w; go_simp; try with_reducible rfl); try go_frame)
    (refine takeD (i := 9) (some 23) (v := ?_) rfl (by rfl) (by rfl) (by kernel_rfl) (by rfl) (fun _ _ _ h => h) ?_ ?_; rotate_left; (intro w; go_simp; try with_reducible rfl); try go_frame)
    (refine takeD (i := 10) (some 24) (v := ?_) rfl (by rfl) (by rfl) (by kernel_rfl) (by rfl) (fun _ _ _ h => h) ?_ ?_; rotate_left; (intro w; go_simp; try with_reducible rfl); try go_frame)
    (refine takeD (i := 11) (some 25) (v := ?_) rfl (by rfl) (by rfl) (by kernel_rfl) (by rfl) (fun _ _ _ h => h) ?_ ?_; rotate_left; (intro w; go_simp; try with_reducible rfl); try go_frame)
    (refine takeD (i := 13) (some 27) (v := ?_) rfl (by rfl) (by rfl) (by kernel_rfl) (by rfl) (fun _ _ _ h => h) ?_ ?_; rotate_left; (intro w; go_simp; try with_reducible rfl); try go_frame)
    (refine takeD (i := 14) (some 28) (v := ?_) rfl (by rfl) (by rfl) (by kernel_rfl) (by rfl) (fun _ _ _ h => h) ?_ ?_; rotate_left; (intro w; go_simp; try with_reducible rfl); try go_frame)
    (refine takeS (i := 5) (some 19) (v := ?_) rfl (by rfl) (by rfl) (by kernel_rfl) (by rfl) (fun _ _ _ h => h) (by assumption) ?_ ?_; rotate_left; (intro w hSw; (try dsimp only at hSw); go_simp; try with_reducible rfl); try go_frame)
    (refine takeS (i := 7) (some 21) (v := ?_) rfl (by rfl) (by rfl) (by kernel_rfl) (by rfl) (fun _ _ _ h => h) (by assumption) ?_ ?_; rotate_left; (intro w hSw; (try dsimp only at hSw); go_simp; try with_reducible rfl); try go_frame)
    (refine takeS (i := 12) (some 26) (v := ?_) rfl (by rfl) (by rfl) (by kernel_rfl) (by rfl) (fun _ _ _ h => h) (by assumption) ?_ ?_; rotate_left; (intro w hSw; (try dsimp only at hSw); go_simp; try with_reducible rfl); try go_frame)
    (refine takeS (i := 15) (some 29) (v := ?_) rfl (by rfl) (by rfl) (by kernel_rfl) (by rfl) (fun _ _ _ h => h) (by assumption) ?_ ?_; rotate_left; (intro w hSw; (try dsimp only at hSw); go_simp; try with_reducible rfl); try go_frame)
    refine wpAnyD_merged (J := ChJ w1 (chain2 1 8 16 1 p (n - (p + 1)) (kcells ((keys l).take p)) (kcells ((keys l).drop (p + 1))))) [(1, 15), (8, 22), (16, 30)] (fun i => if i = 8 then [1] else if i = 16 then [8] else []) #[true, true, true, true, true, true, true, true, true, true, true, true, true, true, true, true, true, false, false, false] rfl (by kernel_rfl) (by kernel_rfl) ?_ ?_ ?_ ?_
    · intro L xs w' hJ
      exact SS.out _ hJ.still
    · intro xs
      refine ChJ.start (Still.refl _).drew ?_
      intro j hj
      simp only [chain2, List.mem_cons, List.not_mem_nil, or_false] at hj
      rcases hj with rfl | rfl | rfl <;> kernel_rfl
    · intro q hq
      simp only [List.mem_cons, List.not_mem_nil, or_false] at hq
      rcases hq with rfl | rfl | rfl
      · refine StepM.of rfl (fun L xs w' hd hl hJ K hK => ?_)
        (unfold fillA; simp only [List.foldl]; try go_frame)
        go_simp
        refine hK.out _ _ (hJ.build (v := .slice (some ⟨w'.heap.size, 0, none⟩) 0 0) _ (Vec.none_ _ _ _ _) (fun g e => by cases e; rfl)) _ (by kernel_rfl)
      · refine ChJ.stepApp 1 rfl rfl (.tmp 15) (.tmp 21) 27 rfl rfl 9 i0 _ 1 16 Try.underlying27 HI.out.1 HI.out.2.1 HI.out.2.2.1 HI.out.2.2.2 rfl (by decide) p (kcells ((keys l).take p)) rfl rfl (by decide) rfl rfl (by first | rfl | exact (Nat.zero_add _).symm) rfl (fun u hu => kcells_one _ u hu) (show 0 + p ≤ maxLen by simp only [maxLen]; omega) (show (0 + p) * 16 ≤ 140737488355328 by omega) ?_ ?_
        · intro xs
          (unfold fillA; simp only [List.foldl]; try go_frame)
          simp [Act.eval]
        · intro L xs w' hd hl hJ
          refine ⟨k1, ?_, (HV.out _ hJ.still).1⟩
          (unfold fillA; simp only [List.foldl]; try go_frame)
          simp [Act.eval]
      · refine ChJ.stepApp 8 rfl rfl (.tmp 22) (.tmp 29) 27 rfl rfl 9 i0 _ 1 16 Try.underlying27 HI.out.1 HI.out.2.1 HI.out.2.2.1 HI.out.2.2.2 rfl (by decide) (n - (p + 1)) (kcells ((keys l).drop (p + 1))) rfl rfl (by decide) rfl rfl (by first | rfl | exact (Nat.zero_add _).symm) rfl (fun u hu => kcells_one _ u hu) (show p + (n - (p + 1)) ≤ maxLen by simp only [maxLen]; omega) (show (p + (n - (p + 1))) * 16 ≤ 140737488355328 by omega) ?_ ?_
        · intro xs
          (unfold fillA; simp only [List.foldl]; try go_frame)
          simp [Act.eval]
        · intro L xs w' hd hl hJ
          refine ⟨k2, ?_, (HV.out _ hJ.still).2⟩
          (unfold fillA; simp only [List.foldl]; try go_frame)
          simp [Act.eval]
    · intro xs w' hJ
      (unfold fillA; simp only [List.foldl]; try go_frame)
      obtain ⟨hk3, hf3⟩ := hJ.vec 16 (List.contains_iff_mem.1 rfl) (by kernel_rfl) (by kernel_rfl)
      have hk3' : Vec w' 1 (xs 16) (n - 1) (kcells (keys (delL l k))) := by
        rw [keys_del HP.out.2.1, HP.out.1]
        have e1 : p + (n - (p + 1)) = n - 1 := by omega
        have e2 : kcells ((keys l).take p ++ (keys l).drop (p + 1)) = kcells ((keys l).take p) ++ kcells ((keys l).drop (p + 1)) := by simp [kcells]
        rw [e2, ← e1]
        exact hk3
      have hmid := HR1.out.mid hJ.still hk3' hf3
      obtain ⟨s0, s1⟩ := SS.out _ hJ.still
      have hfk : ∀ g, (xs 16).ownBlock = some g → w1.heap.size ≤ g ∧ g < (w'.setCell ⟨r, 0, none⟩ (xs 16)).heap.size := fun g hg => by rw [hmid.2.2.2.2]; exact hf3 g hg
      clear hk3 hk3' hf3 hJ
      generalize xs 16 = k3 at *
      obtain ⟨ka, kc, rfl⟩ := hmid.2.1.form'
      refine wpAnyD_ready (rs := [17]) (by kernel_rfl) (by simp) ?_
      refine ReadyD.last rfl (by rfl) (fun K hK => ?_) ?_
      go_simp
      refine hK.out _ _ ?_
      (clear hK K; try go_frame)
      refine wpAnyD_ready (rs := [18]) (by kernel_rfl) (by simp) ?_
      refine ReadyD.last rfl (by rfl) (fun K hK => ?_) ?_
      go_simp
      refine hK.out _ _ ?_
      (clear hK K; try go_frame)
      refine wpAnyD_ready (rs := [19]) (by kernel_rfl) (by simp) ?_
      refine ReadyD.last rfl (by rfl) (fun K hK => ?_) ?_
      go_simp
      refine hK.out _ _ ?_
      (clear hK K; try go_frame)
      refine wpAnyD_done (by kernel_rfl) ?_ _
      rotate_left
      exact ReadyD.nil
      exact ReadyD.nil
      exact ReadyD.nil
      generalize w'.setCell ⟨r, 0, none⟩ (.slice ka (n - 1) kc) = w2 at *
      have HM := Lib.hid (And.intro hmid hfk)
      clear hmid hfk s0 s1 r1' r2' c0 f0
      have hv1 := HM.out.1.2.2.1
      rw [HN.out.1] at hv1
      obtain ⟨v1, -, q1, -, x1⟩ := mid_v hv1 (Nat.zero_le p) hp
      obtain ⟨v2, -, -, q2, x2⟩ := mid_v hv1 hpn (Nat.le_refl n)
      have q1' := q1 rfl
      have q2' := q2 rfl
      rw [show ((p + 1 : Nat) : Int) = (p : Int) + 1 from by omega] at q2'
      simp only [List.drop_zero, Nat.sub_zero] at x1
      rw [List.take_of_length_le (by rw [List.length_drop, vals_length, HN.out.1]; omega)] at x2
      have HV2 := Lib.hid (fun w' (hs : Still w2 w') => And.intro (x1 w' (hv1.only hs fun _ _ e => e)).reads (x2 w' (hv1.only hs fun _ _ e => e)).reads)
      have SS2 := Lib.hid (fun w' (hs : Still w2 w') => show w'.cell? ⟨r, 1, none⟩ = some vv ∧ w'.frozen? ⟨r, 1, none⟩ = false from
        ⟨Still.cell hs (HM.out.1.1.cell 1), (HM.out.1.1.only hs fun e => e).free 1⟩)
      clear hv1 q1 q2 x1 x2
      go_wp2_with fail
      refine wp_region_D_drew (D := (fun i => [0, 2, 3, 4, 6, 9, 10, 11, 13, 14, 17, 18, 19].contains i)) (S := (fun w' => w'.cell? ⟨r, 1, none⟩ = some vv ∧ w'.frozen? ⟨r, 1, none⟩ = false)) (by kernel_rfl) ?_ (fun hHeld => ?_)
      · exact SS2.out _ (Still.refl _).drew
      (refine takeD (i := 0) (some 33) (v := ?_) rfl (by rfl) (by rfl) (by kernel_rfl) (by rfl) (fun _ _ _ h => h) ?_ ?_; rotate_left; (intro w; go_simp; try with_reducible rfl); try go_frame)
      (refine takeD (i := 2) (some 35) (v := ?_) rfl (by rfl) (by rfl) (by kernel_rfl) (by rfl) (fun _ _ _ h => h) ?_ ?_; rotate_left; (intro w; go_simp; try with_reducible rfl); try go_frame)
      (refine takeD (i := 3) (some 36) (v := ?_) rfl (by rfl) (by rfl) (by kernel_rfl) (by rfl) (fun _ _ _ h => h) ?_ ?_; rotate_left; (intro w; go_simp; try with_reducible rfl); try go_frame)
      (refine takeD (i := 4) (some 37) (v := ?_) rfl (by rfl) (by rfl) (by kernel_rfl) (by rfl) (fun _ _ _ h => h) ?_ ?_; rotate_left; (intro w; go_simp; try with_reducible rfl); try go_frame)
      (refine takeD (i := 6) (some 39) (v := ?_) rfl (by rfl) (by rfl) (by kernel_rfl) (by rfl) (fun _ _ _ h => h) ?_ ?_; rotate_left; (intro w; go_simp; try with_reducible rfl); try go_frame)
      (refine takeD (i := 9) (some 42) (v := ?_) rfl (by rfl) (by rfl) (by kernel_rfl) (by rfl) (fun _ _ _ h => h) ?_ ?_; rotate_left; (intro w; go_simp; try with_reducible rfl); try go_frame)
      (refine takeD (i := 10) (some 43) (v := ?_) rfl (by rfl) (by rfl) (by kernel_rfl) (by rfl) (fun _ _ _ h => h) ?_ ?_; rotate_left; (intro w; go_simp; try with_reducible rfl); try go_frame)
      (refine takeD (i := 11) (some 44) (v := ?_) rfl (by rfl) (by rfl) (by kernel_rfl) (by rfl) (fun _ _ _ h => h) ?_ ?_; rotate_left; (intro w; go_simp; try with_reducible rfl); try go_frame)
      (refine takeD (i := 13) (some 46) (v := ?_) rfl (by rfl) (by rfl) (by kernel_rfl) (by rfl) (fun _ _ _ h => h) ?_ ?_; rotate_left; (intro w; go_simp; try with_reducible rfl); try go_frame)
      (refine takeD (i := 14) (some 47) (v := ?_) rfl (by rfl) (by rfl) (by kernel_rfl) (by rfl) (fun _ _ _ h => h) ?_ ?_; rotate_left; (intro w; go_simp; try with_reducible rfl); try go_frame)
      (refine takeS (i := 5) (some 38) (v := ?_) rfl (by rfl) (by rfl) (by kernel_rfl) (by rfl) (fun _ _ _ h => h) (by assumption) ?_ ?_; rotate_left; (intro w hSw; (try dsimp only at hSw); go_simp; try with_reducible rfl); try go_frame)
      (refine takeS (i := 7) (some 40) (v := ?_) rfl (by rfl) (by rfl) (by kernel_rfl) (by rfl) (fun _ _ _ h => h) (by assumption) ?_ ?_; rotate_left; (intro w hSw; (try dsimp only at hSw); go_simp; try with_reducible rfl); try go_frame)
      (refine takeS (i := 12) (some 45) (v := ?_) rfl (by rfl) (by rfl) (by kernel_rfl) (by rfl) (fun _ _ _ h => h) (by assumption) ?_ ?_; rotate_left; (intro w hSw; (try dsimp only at hSw); go_simp; try with_reducible rfl); try go_frame)
      (refine takeS (i := 15) (some 48) (v := ?_) rfl (by rfl) (by rfl) (by kernel_rfl) (by rfl) (fun _ _ _ h => h) (by assumption) ?_ ?_; rotate_left; (intro w hSw; (try dsimp only at hSw); go_simp; try with_reducible rfl); try go_frame)
      refine wpAnyD_merged (J := ChJ w2 (chain2 1 8 16 2 p (n - (p + 1)) (rcells ((vals l).take p)) (rcells ((vals l).drop (p + 1))))) [(1, 34), (8, 41), (16, 49)] (fun i => if i = 8 then [1] else if i = 16 then [8] else []) #[true, true, true, true, true, true, true, true, true, true, true, true, true, true, true, true, true, false, false, false] rfl (by kernel_rfl) (by kernel_rfl) ?_ ?_ ?_ ?_
      · intro L xs w' hJ
        exact SS2.out _ hJ.still
      · intro xs
        refine ChJ.start (Still.refl _).drew ?_
        intro j hj
        simp only [chain2, List.mem_cons, List.not_mem_nil, or_false] at hj
        rcases hj with rfl | rfl | rfl <;> kernel_rfl
      · intro q hq
        simp only [List.mem_cons, List.not_mem_nil, or_false] at hq
        rcases hq with rfl | rfl | rfl
        · refine StepM.of rfl (fun L xs w' hd hl hJ K hK => ?_)
          (unfold fillA; simp only [List.foldl]; try go_frame)
          go_simp
          refine hK.out _ _ (hJ.build (v := .slice (some ⟨w'.heap.size, 0, none⟩) 0 0) _ (Vec.none_ _ _ _ _) (fun g e => by cases e; rfl)) _ (by kernel_rfl)
        · refine ChJ.stepApp 1 rfl rfl (.tmp 34) (.tmp 40) 28 rfl rfl 35 i1 _ 2 16 Try.underlying28 HJ.out.1 HJ.out.2.1 HJ.out.2.2.1 HJ.out.2.2.2 rfl (by decide) p (rcells ((vals l).take p)) rfl rfl (by decide) rfl rfl (by first | rfl | exact (Nat.zero_add _).symm) rfl (fun u hu => rcells_one _ u hu) (show 0 + p ≤ maxLen by simp only [maxLen]; omega) (show (0 + p) * 16 ≤ 140737488355328 by omega) ?_ ?_
          · intro xs
            (unfold fillA; simp only [List.foldl]; try go_frame)
            simp [Act.eval]
          · intro L xs w' hd hl hJ
            refine ⟨v1, ?_, (HV2.out _ hJ.still).1⟩
            (unfold fillA; simp only [List.foldl]; try go_frame)
            simp [Act.eval]
        · refine ChJ.stepApp 8 rfl rfl (.tmp 41) (.tmp 48) 28 rfl rfl 35 i1 _ 2 16 Try.underlying28 HJ.out.1 HJ.out.2.1 HJ.out.2.2.1 HJ.out.2.2.2 rfl (by decide) (n - (p + 1)) (rcells ((vals l).drop (p + 1))) rfl rfl (by decide) rfl rfl (by first | rfl | exact (Nat.zero_add _).symm) rfl (fun u hu => rcells_one _ u hu) (show p + (n - (p + 1)) ≤ maxLen by simp only [maxLen]; omega) (show (p + (n - (p + 1))) * 16 ≤ 140737488355328 by omega) ?_ ?_
          · intro xs
            (unfold fillA; simp only [List.foldl]; try go_frame)
            simp [Act.eval]
          · intro L xs w' hd hl hJ
            refine ⟨v2, ?_, (HV2.out _ hJ.still).2⟩
            (unfold fillA; simp only [List.foldl]; try go_frame)
            simp [Act.eval]
      · intro xs w' hJ
        (unfold fillA; simp only [List.foldl]; try go_frame)
        obtain ⟨hv3, hg3⟩ := hJ.vec 16 (List.contains_iff_mem.1 rfl) (by kernel_rfl) (by kernel_rfl)
        have hv3' : Vec w' 2 (xs 16) (n - 1) (rcells (vals (delL l k))) := by
          rw [vals_del HP.out.2.1, HP.out.1]
          have e1 : p + (n - (p + 1)) = n - 1 := by omega
          rw [rcells_append, ← e1]
          exact hv3
        have hlen : (delL l k).length = n - 1 := by
          have := delL_length' (l := l) k
          rw [HP.out.2.1, HN.out.1] at this
          simp at this
          omega
        have F := Lib.hid (HR1.out.fin (b := true) HS1.out HM.out.1.1 (by rw [hlen]; exact HM.out.1.2.1) HM.out.2 HM.out.1.2.2.2.1 hJ.still (by rw [hlen]; exact hv3') hg3 (KS_del HR1.out.ks k))
        obtain ⟨s0, s1⟩ := SS2.out _ hJ.still
        have hvf := hv3'.form'
        clear hv3 hg3 hv3' hlen hJ
        generalize xs 16 = v3 at *
        obtain ⟨va, vc, rfl⟩ := hvf
        refine wpAnyD_ready (rs := [17]) (by kernel_rfl) (by simp) ?_
        refine ReadyD.last rfl (by rfl) (fun K hK => ?_) ?_
        go_simp
        refine hK.out _ _ ?_
        (clear hK K; try go_frame)
        refine wpAnyD_ready (rs := [18]) (by kernel_rfl) (by simp) ?_
        refine ReadyD.last rfl (by rfl) (fun K hK => ?_) ?_
        go_simp
        refine hK.out _ _ ?_
        (clear hK K; try go_frame)
        refine wpAnyD_ready (rs := [19]) (by kernel_rfl) (by simp) ?_
        refine ReadyD.last rfl (by rfl) (fun K hK => ?_) ?_
        go_simp
        refine hK.out _ _ ?_
        (clear hK K; try go_frame)
        refine wpAnyD_done (by kernel_rfl) ?_ _
        rotate_left
        exact ReadyD.nil
        exact ReadyD.nil
        exact ReadyD.nil
        go_wp2_with fail
        go_ret
        exact F.out
end Go.Proofs.Ytjmkfppnimengaa

namespace Go.Proofs.Ytjmkfppnimengaa
open Go.RowKit Go.Wh

set_option maxHeartbeats 1000000 in
set_option maxRecDepth 100000 in
theorem rget_any (w : World) (r : Nat) (l : Nd 0) (kv vv : Value) (k : Key) (h : RefAt w r l kv vv) (hl : l.length ≤ 100000) :
    Calls Try.prog 17 #[ptr r, .string k] w (TGet w l k) := by
  have HF := Lib.hid (fun w' (hs : Still w w') => find_any w' r l kv vv k (h.still hs) hl)
  have H := Lib.hid h
  obtain ⟨n, hn⟩ : ∃ n, l.length = n := ⟨_, rfl⟩
  have HN := Lib.hid (And.intro hn hl)
  obtain ⟨p, hpp⟩ : ∃ p, pos (keys l) k = p := ⟨_, rfl⟩
  obtain ⟨q, hq⟩ : ∃ q, hasK (keys l) k = q := ⟨_, rfl⟩
  unfold FindPost at HF
  rw [hpp, hq] at HF
  have HP := Lib.hid (And.intro hpp hq)
  clear h hn hl hpp hq
  unfold ptr at HF ⊢
  go_enter Try.func17, Try.ntmps17
  go_wp2_with fail
  refine (HF.out _ ((Still.refl _).alloc _)).mono ?_
  rintro e w1 ⟨rfl, hs1⟩
  have hs01 := ((Still.refl w).alloc (.cells #[.int .i64 0, .int .i64 0] 35)).trans hs1
  have hbx := cellsAt.only (cellsAt_new w [.int .i64 0, .int .i64 0] 35) hs1 (fun e => e)
  have HS1 := Lib.hid hs01
  have HR1 := Lib.hid (H.out.still hs01)
  obtain ⟨bx, hb⟩ : ∃ bx, w.heap.size = bx := ⟨_, rfl⟩
  rw [hb] at hbx
  rw [hb]
  have HBX := Lib.hid (And.intro hb hbx)
  have q0 : w1.cell? ⟨bx, 0, none⟩ = some (.int .i64 0) := hbx.cell 0
  have q1 : w1.cell? ⟨bx, 1, none⟩ = some (.int .i64 0) := hbx.cell 1
  have q2 : w1.frozen? ⟨bx, 0, none⟩ = false := hbx.free 0
  have q3 : w1.frozen? ⟨bx, 1, none⟩ = false := hbx.free 1
  have HFIN := Lib.hid (fun (a b : Value) => show Still w ((w1.setCell ⟨bx, 0, none⟩ a).setCell ⟨bx, 1, none⟩ b) from (Only.setCell hs01 (p := ⟨bx, 0, none⟩) (.inr (by rw [hb]; exact Nat.le_refl _)) a).setCell (p := ⟨bx, 1, none⟩) (.inr (by rw [hb]; exact Nat.le_refl _)) b)
  have z1 : ∀ a b : Value, ((w1.setCell ⟨bx, 0, none⟩ a).setCell ⟨bx, 1, none⟩ b).cell? ⟨bx, 0, none⟩ = some a := fun a b => ((hbx.setCell 0 a).setCell 1 b).cell 0
  have z2 : ∀ a b : Value, ((w1.setCell ⟨bx, 0, none⟩ a).setCell ⟨bx, 1, none⟩ b).cell? ⟨bx, 1, none⟩ = some b := fun a b => ((hbx.setCell 0 a).setCell 1 b).cell 1
  have HZ := Lib.hid (And.intro z1 z2)
  clear hs1 hs01 HF hbx hb z1 z2
  cases q with
  | false =>
    have hg : getL l k = none := by unfold getL; rw [HP.out.2]; rfl
    have F := Lib.hid (show TGet w l k (.returned (.tuple #[ridV (0, 0), .bool false])) ((w1.setCell ⟨bx, 0, none⟩ (.int .i64 0)).setCell ⟨bx, 1, none⟩ (.int .i64 0)) from ⟨by rw [hg]; rfl, HFIN.out _ _⟩)
    clear hg
    go_wp2_with fail
    (try simp only [Exit.inBlock, Exit.then])
    refine bodyPost_ret (v := .tuple #[ridV (0, 0), .bool false]) ?_ rfl F.out
    have y1 := HZ.out.1
    have y2 := HZ.out.2
    unfold ridV
    simp [results, Try.results17, go_sem, y1, y2]
  | true =>
    have hlt := hasK_lt HP.out.2
    rw [keys_length, HP.out.1, HN.out.1] at hlt
    obtain ⟨g, o, c, rfl, hv⟩ := HR1.out.v.form (by rw [HN.out.1]; omega)
    obtain ⟨x, hx⟩ : ∃ x, (vals l)[p]? = some x := ⟨_, List.getElem?_eq_getElem (by rw [vals_length, HN.out.1]; exact hlt)⟩
    have c1 : w1.cell? ⟨r, 1, none⟩ = some (.slice (some ⟨g, o, none⟩) l.length c) := HR1.out.cells.cell 1
    rw [HN.out.1] at c1 hv
    have e1 : w1.cell? ⟨g, o + p * 2, none⟩ = some (.int .i64 x.1) := (hv.cell (p * 2) (by omega)).trans (rcells_get _ p x hx).1
    have e2 : w1.cell? ⟨g, o + p * 2 + 1, none⟩ = some (.int .i64 x.2) := (hv.cell (p * 2 + 1) (by omega)).trans (rcells_get _ p x hx).2
    have hg : getL l k = some x := by unfold getL; rw [HP.out.2, HP.out.1, hx]; rfl
    have p1 : (0 : Int) ≤ (p : Int) := by omega
    have p2 : (p : Int) < (n : Int) := by omega
    have F := Lib.hid (show TGet w l k (.returned (.tuple #[ridV x, .bool true])) ((w1.setCell ⟨bx, 0, none⟩ (.int .i64 x.1)).setCell ⟨bx, 1, none⟩ (.int .i64 x.2)) from ⟨by rw [hg]; rfl, HFIN.out _ _⟩)
    clear hg hv hx
    go_wp2_with fail
    (try simp only [Exit.inBlock, Exit.then])
    refine bodyPost_ret (v := .tuple #[ridV x, .bool true]) ?_ rfl F.out
    have y1 := HZ.out.1
    have y2 := HZ.out.2
    unfold ridV
    simp [results, Try.results17, go_sem, y1, y2]

theorem gather_take (most : Int) (hm : 0 ≤ most) : ∀ (l a : Nd 0), (gather most a l).1 = a ++ l.take (most.toNat - a.length)
  | [], a => by simp [gather]
  | e :: l, a => by
    rw [gather_cons]
    by_cases hf : most ≤ (a.length : Int)
    · have h1 : full most a = true := by simp [full]; omega
      rw [h1]
      simp only [if_true]
      rw [show most.toNat - a.length = 0 by omega]
      simp
    · have h1 : full most a = false := by simp [full]; omega
      rw [h1]
      simp only [Bool.false_eq_true, if_false]
      rw [gather_take most hm l]
      have h2 : most.toNat - a.length = (most.toNat - (a ++ [e]).length) + 1 := by simp; omega
      rw [h2, List.take_succ_cons, List.append_assoc]
      rfl
/-- How many are told. -/
def howMany (l : Nd 0) (k : Key) (most : Int) : Nat := if most < 0 then l.length - pos (keys l) k else min (l.length - pos (keys l) k) most.toNat
theorem fromL_take (l : Nd 0) (k : Key) (most : Int) : fromL l k most = (l.drop (pos (keys l) k)).take (howMany l k most) := by
  unfold fromL howMany
  by_cases hm : most < 0
  · rw [if_pos hm, gather_all most hm, List.nil_append, List.take_of_length_le (by rw [List.length_drop]; exact Nat.le_refl _)]
  · rw [if_neg hm, gather_take most (by omega), List.nil_append, List.length_nil, Nat.sub_zero]
    rcases Nat.le_total (l.length - pos (keys l) k) most.toNat with h | h
    · rw [Nat.min_eq_left h, List.take_of_length_le (by rw [List.length_drop]; exact h), List.take_of_length_le (by rw [List.length_drop]; exact Nat.le_refl _)]
    · rw [Nat.min_eq_right h]

/-- Two copies side by side. -/
def chainP (b1 a1 b2 a2 m : Nat) (c1 c2 : List Value) : ChS :=
  { I := [b1, a1, b2, a2], sz := fun i => if i = b1 then 1 else if i = a1 then 1 else 2, n := fun i => if i = a1 then m else if i = a2 then m else 0,
    cs := fun i => if i = a1 then c1 else if i = a2 then c2 else [], use := fun i => if i = b1 then a1 else if i = b2 then a2 else 999 }

set_option maxHeartbeats 1000000 in
set_option maxRecDepth 100000 in
theorem rfrom_any (w : World) (r : Nat) (l : Nd 0) (kv vv : Value) (k : Key) (most : Int) (h : RefAt w r l kv vv) (hl : l.length ≤ 100000) :
    Calls Try.prog 22 #[ptr r, .string k, .int .i64 most] w (TFrom w l k most) := by
  have HF := Lib.hid (find_any w r l kv vv k h hl)
  have H := Lib.hid h
  have hft := fromL_take l k most
  have hhm : howMany l k most = if most < 0 then l.length - pos (keys l) k else min (l.length - pos (keys l) k) most.toNat := rfl
  obtain ⟨n, hn⟩ : ∃ n, l.length = n := ⟨_, rfl⟩
  have HN := Lib.hid (And.intro hn hl)
  have hp := pos_le (keys l) k
  rw [keys_length, hn] at hp
  obtain ⟨p, hpp⟩ : ∃ p, pos (keys l) k = p := ⟨_, rfl⟩
  obtain ⟨q, hq⟩ : ∃ q, hasK (keys l) k = q := ⟨_, rfl⟩
  obtain ⟨m, hm⟩ : ∃ m, howMany l k most = m := ⟨_, rfl⟩
  rw [hpp] at hp
  rw [hpp, hm] at hft
  rw [hpp, hm, hn] at hhm
  unfold FindPost at HF
  rw [hpp, hq] at HF
  have HT := Lib.hid hft
  have hmn : p + m ≤ n := by rw [hhm]; split <;> omega
  have hlm : ((l.drop p).take m).length = m := by rw [List.length_take, List.length_drop, hn]; omega
  have HLM := Lib.hid hlm
  clear h hn hl hpp hq hm hft hlm
  unfold ptr at HF ⊢
  go_enter Try.func22, Try.ntmps22
  go_wp2_with fail
  refine HF.out.mono ?_
  rintro e w1 ⟨rfl, hs1⟩
  have HS1 := Lib.hid hs1
  have HR1 := Lib.hid (H.out.still hs1)
  obtain ⟨ka, kc, hke⟩ := (H.out.still hs1).k.form'
  rw [HN.out.1] at hke
  have c0 : w1.cell? ⟨r, 0, none⟩ = some (.slice ka n kc) := by rw [← hke]; exact HR1.out.cells.cell 0
  have HKE := Lib.hid hke
  have u1 : IntKind.i64.wrap ((n : Int) - (p : Int)) = ((n - p : Nat) : Int) := by rw [IntWalk.i64_in _ (by have := HN.out; omega)]; omega
  clear hs1 HF hke
  go_upto_if 25 with fail
  go_cut [10] (fun v wc => v = .int .i64 m ∧ w1 = wc)
  case first =>
    by_cases h0 : most < 0
    · rw [if_pos h0] at hhm
      have t1 : decide (0 ≤ most) = false := by simp; omega
      subst hhm
      rw [t1]
      clear h0 t1
      go_wp2_with fail
      go_meet
      case rel => exact ⟨rfl, rfl⟩
    · rw [if_neg h0] at hhm
      have t1 : decide (0 ≤ most) = true := by simp; omega
      have e1 : min ((n - p : Nat) : Int) most = (m : Int) := by rw [hhm]; omega
      rw [t1]
      clear h0 hhm t1
      go_wp2_with fail
      go_meet
      case rel => exact ⟨rfl, rfl⟩
  case rest =>
    obtain ⟨rfl, rfl⟩ := hcut
    have hk1 := HR1.out.k
    have hv1 := HR1.out.v
    rw [HN.out.1] at hk1 hv1
    obtain ⟨k1, r1, -, -, x1⟩ := mid_k hk1 (show p ≤ p + m by omega) hmn
    obtain ⟨v1, r2, -, -, x2⟩ := mid_v hv1 (show p ≤ p + m by omega) hmn
    rw [Nat.add_sub_cancel_left] at x1 x2
    rw [Int.natCast_add] at r1 r2
    have HV := Lib.hid (fun w' (hs : Still w1 w') => And.intro (x1 w' (hk1.only hs fun _ _ e => e)).reads (x2 w' (hv1.only hs fun _ _ e => e)).reads)
    have d0 : w1.cell? ⟨r, 0, none⟩ = some kv := HR1.out.cells.cell 0
    have d1 : w1.cell? ⟨r, 1, none⟩ = some vv := HR1.out.cells.cell 1
    have SS := Lib.hid (fun w' (hs : Still w1 w') => show w'.cell? ⟨r, 0, none⟩ = some kv ∧ w'.cell? ⟨r, 1, none⟩ = some vv from ⟨Still.cell hs d0, Still.cell hs d1⟩)
    obtain ⟨i0, hi0, hz0, hz1, hz2⟩ := info_parts info_s
    obtain ⟨i1, hi1, hy0, hy1, hy2⟩ := info_parts info_r
    have HI := Lib.hid (And.intro hi0 (And.intro hz0 (And.intro hz1 hz2)))
    have HJ := Lib.hid (And.intro hi1 (And.intro hy0 (And.intro hy1 hy2)))
    have hn10 : n ≤ 100000 := by have := HN.out; omega
    have u9 : IntKind.i64.wrap ((p : Int) + (m : Int)) = (p : Int) + (m : Int) := IntWalk.i64_in _ (by omega)
    clear hi0 hz0 hz1 hz2 hi1 hy0 hy1 hy2 hk1 hv1 x1 x2 c0 d0 d1 u1 hhm
    go_wp2_with fail
    refine wp_region_D_drew (D := (fun i => [1, 2, 3, 5, 6, 7, 8, 12, 13, 14, 16, 17, 18, 19, 22, 23].contains i)) (S := (fun w' => w'.cell? ⟨r, 0, none⟩ = some kv ∧ w'.cell? ⟨r, 1, none⟩ = some vv)) (by kernel_rfl) ?_ (fun hHeld => ?_)
    · exact SS.out _ (Still.refl _).drew
    (refine takeD (i := 1) (some 30) (v := ?_) rfl (by rfl) (by rfl) (by kernel_rfl) (by rfl) (fun _ _ _ h => h) ?_ ?_; rotate_left; (intro w; go_simp; try with_reducible rfl); try go_frame)
    (refine takeD (i := 2) (some 31) (v := ?_) rfl (by rfl) (by rfl) (by kernel_rfl) (by rfl) (fun _ _ _ h => h) ?_ ?_; rotate_left; (intro w; go_simp; try with_reducible rfl); try go_frame)
    (refine takeD (i := 3) (some 32) (v := ?_) rfl (by rfl) (by rfl) (by kernel_rfl) (by rfl) (fun _ _ _ h => h) ?_ ?_; rotate_left; (intro w; go_simp; try with_reducible rfl); try go_frame)
    (refine takeD (i := 5) (some 34) (v := ?_) rfl (by rfl) (by rfl) (by kernel_rfl) (by rfl) (fun _ _ _ h => h) ?_ ?_; rotate_left; (intro w; go_simp; try with_reducible rfl); try go_frame)
    (refine takeD (i := 6) (some 35) (v := ?_) rfl (by rfl) (by rfl) (by kernel_rfl) (by rfl) (fun _ _ _ h => h) ?_ ?_; rotate_left; (intro w; go_simp; try with_reducible rfl); try go_frame)
    (refine takeD (i := 7) (some 36) (v := ?_) rfl (by rfl) (by rfl) (by kernel_rfl) (by rfl) (fun _ _ _ h => h) ?_ ?_; rotate_left; (intro w; go_simp; try with_reducible rfl); try go_frame)
    (refine takeD (i := 8) (some 37) (v := ?_) rfl (by rfl) (by rfl) (by kernel_rfl) (by rfl) (fun _ _ _ h => h) ?_ ?_; rotate_left; (intro w; go_simp; try with_reducible rfl); try go_frame)
    (refine takeD (i := 12) (some 41) (v := ?_) rfl (by rfl) (by rfl) (by kernel_rfl) (by rfl) (fun _ _ _ h => h) ?_ ?_; rotate_left; (intro w; go_simp; try with_reducible rfl); try go_frame)
    (refine takeD (i := 13) (some 42) (v := ?_) rfl (by rfl) (by rfl) (by kernel_rfl) (by rfl) (fun _ _ _ h => h) ?_ ?_; rotate_left; (intro w; go_simp; try with_reducible rfl); try go_frame)
    (refine takeD (i := 14) (some 43) (v := ?_) rfl (by rfl) (by rfl) (by kernel_rfl) (by rfl) (fun _ _ _ h => h) ?_ ?_; rotate_left; (intro w; go_simp; try with_reducible rfl); try go_frame)
    (refine takeD (i := 16) (some 45) (v := ?_) rfl (by rfl) (by rfl) (by kernel_rfl) (by rfl) (fun _ _ _ h => h) ?_ ?_; rotate_left; (intro w; go_simp; try with_reducible rfl); try go_frame)
    (refine takeD (i := 17) (some 46) (v := ?_) rfl (by rfl) (by rfl) (by kernel_rfl) (by rfl) (fun _ _ _ h => h) ?_ ?_; rotate_left; (intro w; go_simp; try with_reducible rfl); try go_frame)
    (refine takeD (i := 18) (some 47) (v := ?_) rfl (by rfl) (by rfl) (by kernel_rfl) (by rfl) (fun _ _ _ h => h) ?_ ?_; rotate_left; (intro w; go_simp; try with_reducible rfl); try go_frame)
    (refine takeD (i := 19) (some 48) (v := ?_) rfl (by rfl) (by rfl) (by kernel_rfl) (by rfl) (fun _ _ _ h => h) ?_ ?_; rotate_left; (intro w; go_simp; try with_reducible rfl); try go_frame)
    (refine takeS (i := 4) (some 33) (v := ?_) rfl (by rfl) (by rfl) (by kernel_rfl) (by rfl) (fun _ _ _ h => h) (by assumption) ?_ ?_; rotate_left; (intro w hSw; (try dsimp only at hSw); go_simp; try with_reducible rfl); try go_frame)
    (refine takeS (i := 9) (some 38) (v := ?_) rfl (by rfl) (by rfl) (by kernel_rfl) (by rfl) (fun _ _ _ h => h) (by assumption) ?_ ?_; rotate_left; (intro w hSw; (try dsimp only at hSw); go_simp; try with_reducible rfl); try go_frame)
    (refine takeS (i := 15) (some 44) (v := ?_) rfl (by rfl) (by rfl) (by kernel_rfl) (by rfl) (fun _ _ _ h => h) (by assumption) ?_ ?_; rotate_left; (intro w hSw; (try dsimp only at hSw); go_simp; try with_reducible rfl); try go_frame)
    (refine takeS (i := 20) (some 49) (v := ?_) rfl (by rfl) (by rfl) (by kernel_rfl) (by rfl) (fun _ _ _ h => h) (by assumption) ?_ ?_; rotate_left; (intro w hSw; (try dsimp only at hSw); go_simp; try with_reducible rfl); try go_frame)
    refine wpAnyD_merged (J := ChJ w1 (chainP 0 10 11 21 m (kcells (((keys l).drop p).take m)) (rcells (((vals l).drop p).take m)))) [(0, 29), (10, 39), (11, 40), (21, 50)] (fun i => if i = 10 then [0] else if i = 21 then [11] else []) #[true, true, true, true, true, true, true, true, true, true, true, true, true, true, true, true, true, true, true, true, true, true, false, false] rfl (by kernel_rfl) (by kernel_rfl) ?_ ?_ ?_ ?_
    · intro L xs w' hJ
      exact SS.out _ hJ.still
    · intro xs
      refine ChJ.start (Still.refl _).drew ?_
      intro j hj
      simp only [chainP, List.mem_cons, List.not_mem_nil, or_false] at hj
      rcases hj with rfl | rfl | rfl | rfl <;> kernel_rfl
    · intro q hq
      simp only [List.mem_cons, List.not_mem_nil, or_false] at hq
      rcases hq with rfl | rfl | rfl | rfl
      · refine StepM.of rfl (fun L xs w' hd hl hJ K hK => ?_)
        (unfold fillA; simp only [List.foldl]; try go_frame)
        go_simp
        refine hK.out _ _ (hJ.build (v := .slice (some ⟨w'.heap.size, 0, none⟩) 0 0) _ (Vec.none_ _ _ _ _) (fun g e => by cases e; rfl)) _ (by kernel_rfl)
      · refine ChJ.stepApp 0 rfl rfl (.tmp 29) (.tmp 38) 27 rfl rfl 9 i0 _ 1 16 Try.underlying27 HI.out.1 HI.out.2.1 HI.out.2.2.1 HI.out.2.2.2 rfl (by decide) m (kcells (((keys l).drop p).take m)) rfl rfl (by decide) rfl rfl (by first | rfl | exact (Nat.zero_add _).symm) rfl (fun u hu => kcells_one _ u hu) (show 0 + m ≤ maxLen by simp only [maxLen]; omega) (show (0 + m) * 16 ≤ 140737488355328 by omega) ?_ ?_
        · intro xs
          (unfold fillA; simp only [List.foldl]; try go_frame)
          simp [Act.eval]
        · intro L xs w' hd hl hJ
          refine ⟨k1, ?_, (HV.out _ hJ.still).1⟩
          (unfold fillA; simp only [List.foldl]; try go_frame)
          simp [Act.eval]
      · refine StepM.of rfl (fun L xs w' hd hl hJ K hK => ?_)
        (unfold fillA; simp only [List.foldl]; try go_frame)
        go_simp
        refine hK.out _ _ (hJ.build (v := .slice (some ⟨w'.heap.size, 0, none⟩) 0 0) _ (Vec.none_ _ _ _ _) (fun g e => by cases e; rfl)) _ (by kernel_rfl)
      · refine ChJ.stepApp 11 rfl rfl (.tmp 40) (.tmp 49) 28 rfl rfl 35 i1 _ 2 16 Try.underlying28 HJ.out.1 HJ.out.2.1 HJ.out.2.2.1 HJ.out.2.2.2 rfl (by decide) m (rcells (((vals l).drop p).take m)) rfl rfl (by decide) rfl rfl (by first | rfl | exact (Nat.zero_add _).symm) rfl (fun u hu => rcells_one _ u hu) (show 0 + m ≤ maxLen by simp only [maxLen]; omega) (show (0 + m) * 16 ≤ 140737488355328 by omega) ?_ ?_
        · intro xs
          (unfold fillA; simp only [List.foldl]; try go_frame)
          simp [Act.eval]
        · intro L xs w' hd hl hJ
          refine ⟨v1, ?_, (HV.out _ hJ.still).2⟩
          (unfold fillA; simp only [List.foldl]; try go_frame)
          simp [Act.eval]
    · intro xs w' hJ
      (unfold fillA; simp only [List.foldl]; try go_frame)
      obtain ⟨hk3, hf3⟩ := hJ.vec 10 (List.contains_iff_mem.1 rfl) (by kernel_rfl) (by kernel_rfl)
      obtain ⟨hv3, hg3⟩ := hJ.vec 21 (List.contains_iff_mem.1 rfl) (by kernel_rfl) (by kernel_rfl)
      have hap := hJ.apart 10 (List.contains_iff_mem.1 rfl) 21 (List.contains_iff_mem.1 rfl) (by decide) (by kernel_rfl) (by kernel_rfl) (by kernel_rfl) (by kernel_rfl)
      have hkk : Vec w' 1 (xs 10) m (kcells (keys ((l.drop p).take m))) := by rw [← keys_take, ← keys_drop]; exact hk3
      have hvv : Vec w' 2 (xs 21) m (rcells (vals ((l.drop p).take m))) := by rw [← vals_take, ← vals_drop]; exact hv3
      have F := Lib.hid (show ∀ w2, Still w' w2 → TFrom w l k most (.returned (.tuple #[xs 10, xs 21])) w2 from fun w2 hs => ⟨_, _, rfl, by
        rw [HT.out]
        have hz := HS1.out.size
        have hz2 := hs.size
        refine ⟨by rw [HLM.out]; exact hkk.only hs fun _ _ e => e, by rw [HLM.out]; exact hvv.only hs fun _ _ e => e, fun g hg => ?_, fun g hg => ?_, hap, (HS1.out.trans hJ.still).trans hs⟩
        · have := hf3 g hg
          omega
        · have := hg3 g hg
          omega⟩)
      have hkf := hkk.form'
      have hvf := hvv.form'
      clear hk3 hf3 hv3 hg3 hap hkk hvv hJ
      generalize xs 10 = k3 at *
      generalize xs 21 = v3 at *
      obtain ⟨ka3, kc3, rfl⟩ := hkf
      obtain ⟨va3, vc3, rfl⟩ := hvf
      (refine takeD (i := 22) (some 6) (v := ?_) rfl (by rfl) (by rfl) (by kernel_rfl) (by rfl) (fun _ _ _ h => h) ?_ ?_; rotate_left; (intro w; go_simp; try with_reducible rfl); try go_frame)
      (refine takeD (i := 23) (some 7) (v := ?_) rfl (by rfl) (by rfl) (by kernel_rfl) (by rfl) (fun _ _ _ h => h) ?_ ?_; rotate_left; (intro w; go_simp; try with_reducible rfl); try go_frame)
      refine wpAnyD_done (by kernel_rfl) ?_ _
      go_wp2_with fail
      go_ret2
      exact F.out _ (Still.refl _)
end Go.Proofs.Ytjmkfppnimengaa

namespace Go.Proofs.Ytjmkfppnimengaa
open Go.RowKit Go.Wh

theorem Own.avoid2 {w0 w w' : World} {A B S : Nat → Prop} {t : Nat} {l : Nd 0} (h : Own w0 A w t l) (hs : Only S w w') (hS : ∀ b, S b → A b) (hB : ∀ b, B b → w.heap.size ≤ b ∧ b < w'.heap.size) : Own w0 (fun b => A b ∨ B b) w' t l := by
  obtain ⟨F, h1, h2, h3⟩ := h
  refine ⟨F, h1.only hs fun b hb e => (h2 b hb).2 (hS b e), fun b hb => ⟨(h2 b hb).1, fun e => ?_⟩, fun b hb => ?_⟩
  · rcases e with e | e
    · exact (h2 b hb).2 e
    · have := h1.lt b hb
      have := (hB b e).1
      omega
  · rcases hb with e | e
    · exact Nat.lt_of_lt_of_le (h3 b e) hs.size
    · exact (hB b e).2

/-- A tree and the reference's, apart. -/
structure Two (W : World) (A : Nat → Prop) (w : World) (t r : Nat) (lt lr : Nd 0) : Prop where
  own : Own W A w t lt
  ref : ∃ kv vv, RefAt w r lr kv vv ∧ (∀ g, kv.ownBlock = some g → A g) ∧ ∀ g, vv.ownBlock = some g → A g
  ra : A r
  rw_ : W.heap.size ≤ r
  still : Still W w
/-- What was there, and is none of the tree's, nor the reference's node, stays. -/
def Keeps (A : Nat → Prop) (r : Nat) (w w' : World) : Prop := ∀ p u, A p.block → p.block ≠ r → w.cell? p = some u → w'.cell? p = some u

section
variable {W w w' : World} {A : Nat → Prop} {t r : Nat} {lt lr : Nd 0}
theorem Two.later (h : Two W A w t r lt lr) (hs : Still w w') : Two W A w' t r lt lr := by
  obtain ⟨kv, vv, h1, h2⟩ := h.ref
  exact ⟨h.own.still hs, ⟨kv, vv, h1.still hs, h2⟩, h.ra, h.rw_, h.still.trans hs⟩
/-- What is made later is none of either. -/
theorem Two.avoid {B : Nat → Prop} (h : Two W A w t r lt lr) (hs : Still w w') (hB : ∀ b, B b → w.heap.size ≤ b ∧ b < w'.heap.size) : Two W (fun b => A b ∨ B b) w' t r lt lr := by
  obtain ⟨kv, vv, h1, h2, h3⟩ := h.ref
  exact ⟨h.own.avoid hs hB, ⟨kv, vv, h1.still hs, fun g hg => .inl (h2 g hg), fun g hg => .inl (h3 g hg)⟩, .inl h.ra, h.rw_, h.still.trans hs⟩
theorem Two.start {w1 : World} (hw : Still W w) (ho : Own W (fun _ => False) w t []) (tt : TypeId) (hw1 : w1 = w.alloc (.cells #[.slice none 0 0, .slice none 0 0] tt)) : Two W (fun b => False ∨ b = w.heap.size) w1 t w.heap.size [] [] := by
  have hs : Still w w1 := by rw [hw1]; exact (Still.refl _).alloc _
  have hz : w1.heap.size = w.heap.size + 1 := by rw [hw1]; simp
  refine ⟨ho.avoid hs fun b hb => by omega, ⟨.slice none 0 0, .slice none 0 0, ⟨?_, Vec.nil _ _, Vec.nil _ _, List.Pairwise.nil, (fun e => by cases e), (fun e => by cases e), (fun g e => by cases e), (fun g e => by cases e)⟩, (fun g e => by cases e), (fun g e => by cases e)⟩, .inr rfl, hw.size, hw.trans hs⟩
  rw [hw1]
  exact cellsAt_new w [.slice none 0 0, .slice none 0 0] tt

theorem Two.mine (h : Two W A w t r lt lr) {lt' : Nd 0} (ho : Own W A w' t lt') (hm : Mine W A w w') : Two W A w' t r lt' lr ∧ Keeps A r w w' := by
  obtain ⟨kv, vv, h1, h2, h3⟩ := h.ref
  exact ⟨⟨ho, ⟨kv, vv, h1.only hm (fun e => e.2 h.ra) (fun g hg e => e.2 (h2 g hg)) (fun g hg e => e.2 (h3 g hg)), h2, h3⟩, h.ra, h.rw_, hm.still h.still⟩, fun p u hp _ hc => hm.cell hc hp⟩
theorem Two.tput (h : Two W A w t r lt lr) (hl : lt.length ≤ 80000) (k : Key) (v : Rid) :
    Calls Try.prog 14 #[ptr t, .string k, ridV v] w (fun e w' => e = .returned (.bool !(hasK (keys lt) k)) ∧ Two W A w' t r (insL lt k v) lr ∧ Keeps A r w w') :=
  (own_put h.own hl h.still k v).mono fun _ _ hp => ⟨hp.1, h.mine hp.2.1 hp.2.2⟩
theorem Two.tcut (h : Two W A w t r lt lr) (hl : lt.length ≤ 80000) (k : Key) :
    Calls Try.prog 12 #[ptr t, .string k] w (fun e w' => e = .returned (.bool (hasK (keys lt) k)) ∧ Two W A w' t r (delL lt k) lr ∧ Keeps A r w w') :=
  (own_cut h.own hl h.still k).mono fun _ _ hp => ⟨hp.1, h.mine hp.2.1 hp.2.2⟩
theorem Two.refTo (h : Two W A w t r lt lr) {kv vv : Value} {lr' : Nd 0} {b : Bool} {e : Ending} (h2 : ∀ g, kv.ownBlock = some g → A g) (h3 : ∀ g, vv.ownBlock = some g → A g) (hp : RefTo w r kv vv lr' b e w') :
    e = .returned (.bool b) ∧ ∃ A', Two W A' w' t r lt lr' ∧ Keeps A r w w' := by
  obtain ⟨he, kv', vv', q1, q2, q3, q4⟩ := hp
  refine ⟨he, fun b => A b ∨ (w.heap.size ≤ b ∧ (kv'.ownBlock = some b ∨ vv'.ownBlock = some b)), ⟨h.own.avoid2 q2 (fun b e => (show b = r from e) ▸ h.ra) fun b hb => ⟨hb.1, hb.2.elim (q1.bk b) (q1.bv b)⟩, ⟨kv', vv', q1, fun g hg => ?_, fun g hg => ?_⟩, .inl h.ra, h.rw_, ?_⟩, fun p u _ hr hc => (Only.cell q2 (World.block_lt_of_cell? _ _ hc) hr).trans hc⟩
  · rcases q3 g hg with e | e
    · exact .inl (h2 g e)
    · exact .inr ⟨e, .inl hg⟩
  · rcases q4 g hg with e | e
    · exact .inl (h3 g e)
    · exact .inr ⟨e, .inr hg⟩
  · exact h.still.andThen q2 fun i hi e => by have := h.rw_; have e' : i = r := e; omega
theorem Two.rput (h : Two W A w t r lt lr) (hl : lr.length ≤ 80000) (k : Key) (v : Rid) :
    Calls Try.prog 15 #[ptr r, .string k, ridV v] w (fun e w' => e = .returned (.bool !(hasK (keys lr) k)) ∧ ∃ A', Two W A' w' t r lt (insL lr k v) ∧ Keeps A r w w') := by
  obtain ⟨kv, vv, h1, h2, h3⟩ := h.ref
  exact (rput_any w r lr kv vv k v h1 (by omega)).mono fun _ _ hp => h.refTo h2 h3 hp
theorem Two.rcut (h : Two W A w t r lt lr) (hl : lr.length ≤ 80000) (k : Key) :
    Calls Try.prog 13 #[ptr r, .string k] w (fun e w' => e = .returned (.bool (hasK (keys lr) k)) ∧ ∃ A', Two W A' w' t r lt (delL lr k) ∧ Keeps A r w w') := by
  obtain ⟨kv, vv, h1, h2, h3⟩ := h.ref
  exact (rcut_any w r lr kv vv k h1 (by omega)).mono fun _ _ hp => h.refTo h2 h3 hp
theorem Two.tget (h : Two W A w t r lt lr) (k : Key) : Calls Try.prog 16 #[ptr t, .string k] w (TGet w lt k) := own_get h.own k
theorem Two.rget (h : Two W A w t r lt lr) (hl : lr.length ≤ 80000) (k : Key) : Calls Try.prog 17 #[ptr r, .string k] w (TGet w lr k) := by
  obtain ⟨kv, vv, h1, h2, h3⟩ := h.ref
  exact rget_any w r lr kv vv k h1 (by omega)
theorem Two.tfrom (h : Two W A w t r lt lr) (hl : lt.length ≤ 80000) (k : Key) (most : Int) : Calls Try.prog 21 #[ptr t, .string k, .int .i64 most] w (TFrom w lt k most) := own_from h.own hl k most
theorem Two.rfrom (h : Two W A w t r lt lr) (hl : lr.length ≤ 80000) (k : Key) (most : Int) : Calls Try.prog 22 #[ptr r, .string k, .int .i64 most] w (TFrom w lr k most) := by
  obtain ⟨kv, vv, h1, h2, h3⟩ := h.ref
  exact rfrom_any w r lr kv vv k most h1 (by omega)
/-- How many keys the reference has. -/
theorem Two.rlen (h : Two W A w t r lt lr) : ∃ a c, w.cell? ⟨r, 0, none⟩ = some (.slice a lr.length c) := by
  obtain ⟨kv, vv, h1, -⟩ := h.ref
  obtain ⟨a, c, rfl⟩ := h1.k.form'
  exact ⟨a, c, h1.cells.cell 0⟩
end

def AlikePost (w : World) (e : Ending) (w' : World) : Prop := e = .returned (.bool true) ∧ Still w w'

set_option maxHeartbeats 1000000 in
set_option maxRecDepth 100000 in
theorem alike_any (w : World) (res : Nd 0) (kv vv kv2 vv2 : Value) (h1 : Vec w 1 kv res.length (kcells (keys res))) (h2 : Vec w 2 vv res.length (rcells (vals res))) (h3 : Vec w 1 kv2 res.length (kcells (keys res))) (h4 : Vec w 2 vv2 res.length (rcells (vals res))) (hl : res.length ≤ 90000) :
    Calls Try.prog 23 #[kv, vv, kv2, vv2] w (AlikePost w) := by
  have H := Lib.hid (And.intro h1 (And.intro h2 (And.intro h3 h4)))
  obtain ⟨n, hn⟩ : ∃ n, res.length = n := ⟨_, rfl⟩
  have HN := Lib.hid (And.intro hn hl)
  obtain ⟨a1, c1, rfl⟩ := h1.form'
  obtain ⟨a2, c2, rfl⟩ := h2.form'
  obtain ⟨a3, c3, rfl⟩ := h3.form'
  obtain ⟨a4, c4, rfl⟩ := h4.form'
  rw [hn] at H ⊢
  clear h1 h2 h3 h4 hn hl
  go_enter Try.func23, Try.ntmps23
  go_wp2_with fail
  go_loopw [9] (fun s wr => ∃ i : Nat, s = .int .i64 i ∧ i ≤ n ∧ Still w wr) (fun s _ => n - (intOf s).toNat)
  case atStart => exact ⟨0, rfl, Nat.zero_le _, Still.refl _⟩
  case round =>
    obtain ⟨i, rfl, hi, hst⟩ := hrel
    have HST := Lib.hid hst
    clear hst
    by_cases hin : i < n
    · obtain ⟨g1, o1, d1, e1, v1⟩ := H.out.1.form (by omega)
      obtain ⟨g2, o2, d2, e2, v2⟩ := H.out.2.1.form (by omega)
      obtain ⟨g3, o3, d3, e3, v3⟩ := H.out.2.2.1.form (by omega)
      obtain ⟨g4, o4, d4, e4, v4⟩ := H.out.2.2.2.form (by omega)
      injection e1 with e1 _ f1
      injection e2 with e2 _ f2
      injection e3 with e3 _ f3
      injection e4 with e4 _ f4
      subst e1 e2 e3 e4 f1 f2 f3 f4
      obtain ⟨x, hx⟩ : ∃ x, (keys res)[i]? = some x := ⟨_, List.getElem?_eq_getElem (by rw [keys_length, HN.out.1]; exact hin)⟩
      obtain ⟨y, hy⟩ : ∃ y, (vals res)[i]? = some y := ⟨_, List.getElem?_eq_getElem (by rw [vals_length, HN.out.1]; exact hin)⟩
      have q1 : wr.cell? ⟨g1, o1 + i, none⟩ = some (.string x) := Still.cell HST.out (by rw [v1.cell i (by omega)]; exact kcells_get hx)
      have q3 : wr.cell? ⟨g3, o3 + i, none⟩ = some (.string x) := Still.cell HST.out (by rw [v3.cell i (by omega)]; exact kcells_get hx)
      have q2 : wr.cell? ⟨g2, o2 + i * 2, none⟩ = some (.int .i64 y.1) := Still.cell HST.out (by rw [v2.cell (i * 2) (by omega)]; exact (rcells_get _ i y hy).1)
      have q2' : wr.cell? ⟨g2, o2 + i * 2 + 1, none⟩ = some (.int .i64 y.2) := Still.cell HST.out (by rw [Nat.add_assoc, v2.cell (i * 2 + 1) (by omega)]; exact (rcells_get _ i y hy).2)
      have q4 : wr.cell? ⟨g4, o4 + i * 2, none⟩ = some (.int .i64 y.1) := Still.cell HST.out (by rw [v4.cell (i * 2) (by omega)]; exact (rcells_get _ i y hy).1)
      have q4' : wr.cell? ⟨g4, o4 + i * 2 + 1, none⟩ = some (.int .i64 y.2) := Still.cell HST.out (by rw [Nat.add_assoc, v4.cell (i * 2 + 1) (by omega)]; exact (rcells_get _ i y hy).2)
      have b1 : decide ((i : Int) < (n : Int)) = true := by simp; omega
      have b2 : decide (i < n) = true := by simp; omega
      have b3 : (0 : Int) ≤ (i : Int) := by omega
      have b4 : (i : Int) < (n : Int) := by omega
      have u9 : IntKind.i64.wrap ((i : Int) + 1) = (i : Int) + 1 := IntWalk.i64_in _ (by have := HN.out; omega)
      clear hx hy v1 v2 v3 v4
      go_wp2_with fail
      go_quiet (fail)
      go_wp2_with fail
      go_roundw
      case rel => exact ⟨i + 1, by go_num, by omega, HST.out.drewN _⟩
      case measure => simp [intOf]; omega
    · have hge : i = n := by omega
      subst hge
      have b1 : decide ((i : Int) < (i : Int)) = false := by simp
      have F := Lib.hid (show AlikePost w (.returned (.bool true)) wr from ⟨rfl, HST.out⟩)
      go_wp2_with fail
      go_ret
      exact F.out
/-- What was told of both is alike. -/
theorem alike_told {w w1 w2 : World} {l : Nd 0} {kv vv kv2 vv2 : Value} (h1 : Told w w1 l kv vv) (h2 : Told w1 w2 l kv2 vv2) (hl : l.length ≤ 90000) : Calls Try.prog 23 #[kv, vv, kv2, vv2] w2 (AlikePost w2) :=
  alike_any w2 l kv vv kv2 vv2 (h1.k.only h2.still fun _ _ e => e) (h1.v.only h2.still fun _ _ e => e) h2.k h2.v hl
end Go.Proofs.Ytjmkfppnimengaa

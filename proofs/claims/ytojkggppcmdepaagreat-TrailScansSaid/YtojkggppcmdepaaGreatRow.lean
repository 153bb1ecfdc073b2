/- From a law's walk to its row: the call returns true and below nothing has turned, so the row holds. Conditions: none but those of the row. -/
import Derived.WalkKit
import Derived.ProofKit
import Derived.OpenShut
import Derived.ShutString
import Derived.ChangeOld
import Derived.Below
namespace Go.Wh
open Go.ChangeShapes Go.WideShapes Go.ChangeAt Go.RowKit

section
variable {H : Type} {enc : TypeId × Value → H} {P : Program}

theorem trodAll_stays (hl : laidOutB P = true) {W W' : World} (hb : Below W.heap.size W W') : ∀ (ts : List TypeId) (vs : List Value) (ds : List (DataW H)) (ps : List MemPlace), (∀ t ∈ ts, P.readableRec t = true ∧ t < P.types.size) →
    DataW.TrodAll enc P W 0 (fun _ => true) true ts vs ds ps → DataW.TrodAll enc P W' 0 (fun b => decide (b < W.heap.size)) true ts vs ds ps
  | [], [], [], _, _, h => h
  | t :: ts, v :: vs, d :: ds, _, hr, h => by
    obtain ⟨p, q, h1, h2, e⟩ := h
    refine ⟨p, q, ?_, trodAll_stays hl hb ts vs ds q (fun t ht => hr t (by simp [ht])) h2, e⟩
    obtain ⟨m, hm⟩ := id h1
    exact Below.trod hl (hr t (by simp)).1 (hr t (by simp)).2 h1 hb (fun x hx => DataW.trod_lt m _ _ _ hm x hx)
  | [], _ :: _, _, _, _, h => h.elim
  | [], [], _ :: _, _, _, h => h.elim
  | _ :: _, [], _, _, _, h => h.elim
  | _ :: _, _ :: _, [], _, _, h => h.elim

theorem law_post {f : Func} {s : ChangeSpec} {apart fresh handsOn : Bool} {W W' : World} {args : Array Value} {ds gs : List (DataW H)} {before : List MemPlace} {t : TypeId} (hl : laidOutB P = true) (hres : f.resultTypes = #[t]) (hbool : P.underlying t = some .bool) (hv : s.vars = [])
    (hp : ∀ t ∈ f.params.toList, P.readableRec t = true ∧ t < P.types.size) (hW : DataW.Whole enc P f.params.toList s.vars apart W args.toList ds gs before)
    (hsp : s.fn H ds = { results := [.lit (.bool true)], args := ds }) (hb : Below W.heap.size W W') : s.post enc P f apart fresh handsOn false W args (.bool true) W' := by
  have hW' := hW
  obtain ⟨p, q, hA, hV, rfl, hz, hn⟩ := hW
  rw [hv] at hV
  obtain ⟨rfl, rfl⟩ := trodVars_none hV
  refine ⟨ds, [], _, [], p, [], hW', ?_, ?_, ?_, hb.frame _, fun h => by cases h⟩
  · rw [List.append_nil, hsp, hres]
    exact trodAll_mk1 (RowKit.shut_bool hbool true)
  · rw [List.append_nil, hsp]
    exact trodAll_stays hl hb _ _ _ _ hp hA
  · rw [List.append_nil, hsp, hv]
    exact hV

/-- A slice of integers that came in: it is empty, or it leads to its numbers. -/
def IsRow (k : IntKind) (w : World) (a : Option Addr) (len : Nat) (zs : List Int) : Prop :=
  (len = 0 ∧ zs = []) ∨
  ∃ b off, a = some ⟨b, off, none⟩ ∧ b < w.heap.size ∧ 0 < len ∧ len ≤ maxLen ∧ zs.length = len ∧ (∀ i, i < len → w.cell? ⟨b, off + i, none⟩ = some (.int k (zs.getD i 0))) ∧ ∀ n ∈ zs, (Lit.int k n).wf = true

theorem open_row {t e : TypeId} {k : IntKind} {W : World} {base : Nat} {v : Value} {d : DataW H} {p : List MemPlace} (ht : P.underlying t = some (.slice e)) (he : P.underlying e = some (.int k)) (hc : P.cellsOf e = 1)
    (hval : Value.okWide P W .any base t v) (h : DataW.Trod enc P W 0 (fun _ => true) true t v d p) : ∃ a len cap zs, v = .slice a len cap ∧ IsRow k W a len zs ∧ zs.length = len := by
  obtain ⟨a0, len0, cap0, rfl⟩ := okWide_slice ht hval
  refine ⟨a0, len0, cap0, ?_⟩
  obtain ⟨fuel, hf⟩ := h
  rcases open_ints ht he hc hf with ⟨hcs, _⟩ | ⟨x, l, c, zs, hcs, _, hl, hm, hz, _, hcell, hwz⟩
  · simp [Value.cells] at hcs
    obtain ⟨rfl, rfl, rfl⟩ := hcs
    exact ⟨[], rfl, .inl ⟨rfl, rfl⟩, rfl⟩
  · simp [Value.cells] at hcs
    obtain ⟨rfl, rfl, rfl⟩ := hcs
    simp only [if_true] at hz
    by_cases h0 : len0 = 0
    · exact ⟨[], rfl, .inl ⟨h0, rfl⟩, by simp [h0]⟩
    · have hc0 := hcell 0 (by omega)
      obtain ⟨b, off, spot⟩ := x
      have hspot : spot = none := by simpa [Addr.add] using World.cell?_spot hc0
      subst hspot
      refine ⟨zs.take len0, rfl, .inr ⟨b, off, rfl, World.block_lt_of_cell? _ _ (by simpa [Addr.add] using hc0), by omega, by omega, by simp; omega, fun i hi => ?_, fun n hn => hwz n (List.mem_of_mem_take hn)⟩, by simp; omega⟩
      have := hcell i (by omega)
      rw [show (⟨b, off, none⟩ : Addr).add i = ⟨b, off + i, none⟩ from by unfold Addr.add; split <;> simp_all] at this
      rw [this]
      simp [List.getD, hi]

end

/-- A number of an argument, later. -/
theorem isRow_later {k : IntKind} {W wr : World} {a : Option Addr} {len : Nat} {zs : List Int} (h : IsRow k W a len zs) (hb : Below W.heap.size W wr) {i : Nat} (hi : i < len) :
    ∃ b off, a = some ⟨b, off, none⟩ ∧ wr.cell? ⟨b, off + i, none⟩ = some (.int k (zs.getD i 0)) ∧ (Lit.int k (zs.getD i 0)).wf = true := by
  rcases h with ⟨rfl, _⟩ | ⟨b, off, rfl, hbl, _, _, hz, hc, hw⟩
  · omega
  · refine ⟨b, off, rfl, (hb.cell (p := ⟨b, off + i, none⟩) hbl).trans (hc i hi), hw _ ?_⟩
    rw [List.getD_eq_getElem?_getD, List.getElem?_eq_getElem (by omega)]
    exact List.getElem_mem _

theorem byte_wf {z : Int} (h : (Lit.int .u8 z).wf = true) : 0 ≤ z ∧ z < 256 := by
  have e1 : IntKind.u8.min = 0 := by decide
  have e2 : IntKind.u8.max = 255 := by decide
  simp only [Lit.wf, e1, e2, Bool.and_eq_true, decide_eq_true_eq] at h
  omega
end Go.Wh

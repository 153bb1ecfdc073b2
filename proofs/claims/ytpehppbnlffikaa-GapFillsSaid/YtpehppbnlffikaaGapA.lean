/- The cells of package gap: what each of its functions does to a map of cells in memory. Conditions: the map was made by New, and numbers fit their kind. -/
import Derived.Test.YtpehppbnlffikaaRows
import Derived.Test.YtpehppbnlffikaaKMap
import Derived.WalkKit
import Derived.WalkSpells
import Derived.WalkLawsBesides
import Derived.Deep.QuietTactic
import Derived.BigQuiet
import Derived.StillTailTactics
import Derived.DeepKeys4
namespace Go.Proofs.Ytpehppbnlffikaa
open Go.RowKit Go.Wh Go.Maps

/-- A place as a value. -/
def rid (x : Int × Int) : Value := .agg #[.int .i64 x.1, .int .i64 x.2]
theorem rid_inj (x y : Int × Int) (h : rid x = rid y) : x = y := by
  unfold rid at h
  simp at h
  exact Prod.ext h.1 h.2
theorem gapLaid : laidOutB Try.prog = true := by kernel_rfl
theorem ridRow : (28 : TypeId) < Try.prog.types.size := of_decide_eq_true (by kernel_rfl)
theorem ridWide : (match Try.prog.underlying 28 with | some (.array _ _) | some (.struct _) => true | _ => false) = true := by rw [Try.underlying28]
theorem ridKeyed : Keyed Try.prog 28 := Keyed.of_law (deep_law_laid gapLaid (m := 3) (by omega) ridRow (by kernel_rfl) ridWide)
def Fits (x : Int × Int) : Prop := (Lit.int .i64 x.1).wf = true ∧ (Lit.int .i64 x.2).wf = true
theorem rid_key (x : Int × Int) (h : Fits x) : ∃ l, keyOf Try.prog 28 (rid x) = some l := by
  obtain ⟨p, c⟩ := x
  obtain ⟨h1, h2⟩ := h
  simp only at h1 h2
  have e1 : Try.prog.keyType 28 = true := by kernel_rfl
  have e2 : (Value.agg #[Value.int .i64 p, Value.int .i64 c]).formed Try.prog 28 = true := by
    have : Try.prog.cellsOf 28 = 2 := by kernel_rfl
    simp [Value.formed, Try.underlying28, this]
  have e3 : ∃ ls, Try.prog.keyLits (Try.prog.types.size + 1) 28 [.int .i64 p, .int .i64 c] = some ls := by
    have hc : Try.prog.cellsOf 28 = 2 := by kernel_rfl
    have hc2 : Try.prog.cellsOf 3 = 1 := by kernel_rfl
    obtain ⟨n, hn⟩ : ∃ n, Try.prog.types.size = n + 1 := Nat.exists_eq_add_one.2 (Nat.lt_of_le_of_lt (Nat.zero_le _) ridRow)
    rw [hn]
    exact ⟨_, by simp [Program.keyLits, Try.underlying28, Try.underlying3, hc, hc2, h1, h2]; rfl⟩
  obtain ⟨ls, e3⟩ := e3
  refine ⟨.string (keyBytes ls), ?_⟩
  unfold keyOf
  rw [Try.underlying28]
  simp only
  rw [show rid (p, c) = Value.agg #[Value.int .i64 p, Value.int .i64 c] from rfl, if_pos (by rw [e1, e2]; rfl), show (Value.agg #[Value.int .i64 p, Value.int .i64 c]).cells.toList = [Value.int .i64 p, Value.int .i64 c] from rfl, e3]
  rfl

end Go.Proofs.Ytpehppbnlffikaa

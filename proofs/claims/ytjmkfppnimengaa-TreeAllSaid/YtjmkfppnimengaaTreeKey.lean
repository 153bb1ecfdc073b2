/- The keys of the laws, by a number. Conditions: a byte. -/
import Derived.Test.YtjmkfppnimengaaTreeRa
import Derived.Test.YtjmkfppnimengaaRow
import Derived.Deep.DeepCutAuto
namespace Go.Proofs.Ytjmkfppnimengaa
open Go.RowKit Go.Wh

def keyW (n : Int) : Key := strOfNums [97 + n % 26, 97 + n / 26 % 26]
/-- A key by a number: one byte, or two. -/
def keyB (n : Int) : Key := (keyW n).extract 0 (1 + n % 2).toNat
theorem keyW_size (n : Int) : (keyW n).size = 2 := strOfNums_size _
theorem keyB_size (n : Int) : (keyB n).size ≤ 2 := by
  unfold keyB
  rw [ByteArray.size_extract, keyW_size]
  omega

set_option maxHeartbeats 1000000 in
theorem key_any (w : World) (n : Int) (h0 : 0 ≤ n) (h1 : n < 256) :
    Calls Try.prog 11 #[.int .u8 n] w (fun e w' => e = .returned (.string (keyB n)) ∧ Still w w') := by
  have cv := fun x y => conv2 w x y
  have hs := strOfNums_size
  go_enter Try.func11, Try.ntmps11
  go_wp2_with fail
  go_ret
  exact ⟨rfl, (Still.refl _).alloc _⟩
end Go.Proofs.Ytjmkfppnimengaa

/- bindle, part FieldA: contracts of the program, walked. -/
import Derived.Test.YtpapbnmacjoihaaDoorProg
import Derived.Test.YtpapbnmacjoihaaDoorBase
import Derived.WalkKit
import Derived.KernelRfl
import Derived.Outline
import Derived.Deep.LoopGhost
import Derived.Deep.QuietTactic
import Derived.BigQuiet
import Derived.Deep.DeepCutAuto
import Derived.Lib.Hide
namespace Go.Proofs.YtpapbnmacjoihaaDoor
open Go.RowKit

/-- is n in the bounds? -/
def inB (n a b : Int) : Bool := decide (a ≤ n) && decide (n ≤ b)
theorem inB_yes {n a b : Int} (h1 : a ≤ n) (h2 : n ≤ b) : inB n a b = true := by simp [inB, h1, h2]
theorem inB_lo {n a b : Int} (h1 : n < a) : inB n a b = false := by simp [inB]; omega
theorem inB_hi {n a b : Int} (h1 : b < n) : inB n a b = false := by simp [inB]; omega

theorem num_In (n a b : Int) (w : World) :
    Calls Tryd.prog 38 #[.int .i64 n, .int .i64 a, .int .i64 b] w fun e w' => e = .returned (.bool (inB n a b)) ∧ w = w' := by
  by_cases h1 : a ≤ n
  · by_cases h2 : n ≤ b
    · rw [inB_yes h1 h2]
      go_enter Tryd.func38, Tryd.ntmps38
      go_wp2
      go_ret
      simp
    · rw [inB_hi (by omega)]
      go_enter Tryd.func38, Tryd.ntmps38
      go_wp2
      go_ret
      simp
  · rw [inB_lo (by omega)]
    go_enter Tryd.func38, Tryd.ntmps38
    go_wp2
    go_ret
    simp

end Go.Proofs.YtpapbnmacjoihaaDoor

/- A PART OF THE PROOF: an abstract run of the loaded code over value trees, and the functions walked by it. No condition of its own. -/
import Derived.Test.YtanmknmlphkeaaaDoorD0
namespace Go.Proofs.Aw
open Go Go.Proofs
set_option maxRecDepth 100000
abbrev KL := Nat → Bool × List UInt8
def kv (k : KL) (i : Nat) : List LV := [.bs (k i).1, .str (k i).2]
theorem kv_flat (k : KL) (i : Nat) : flatL (kv k i) = true := rfl
theorem clone_ct (n : Nat) (k : KL) (hn : n ≤ 400) : CtN Tryd.prog 26 [.sl 2 n (kv k)] 48 2 n (kv k) := by
  refine CtN.enter Tryd.tabOk ft26 (fun i _ => kv_flat k i) ?_
  refine fun q hq => ⟨fun h => hq h, fun h => ⟨by show (0 + n) * 24 ≤ _; omega, by omega, ⟨rfl, rfl, ?_⟩, fun i _ => rfl⟩⟩
  exact Nat.zero_add n
end Go.Proofs.Aw

/- A PART OF THE PROOF: an abstract run of the loaded code over value trees, and the functions walked by it. No condition of its own. -/
import Derived.Test.YtanmknmlphkeaaaDoorD7
namespace Go.Proofs.Aw
open Go Go.Proofs
set_option maxHeartbeats 4000000
set_option maxRecDepth 100000
theorem within_lit : Ct Tryd.prog 53 [.v (.int .i64 0), .v (.int .i64 1), .v (.int .i64 1000)] (.v (.bool false)) := by
  refine Ct.enter Tryd.tabOk ft53 ?_
  refine ⟨fun h => absurd h (by decide), fun h => ?_⟩
  exact ⟨LV.le.refl _, rfl⟩
/-- a machine whose quantum is 0 -/
def macB (c : Int) (M0 M1 : Nat) (w0 w1 : TL) : List LV := [.v (.int .u64 c), .v (.int .i64 0), .any, .any, .sl 1 M0 (tx w0), .any, .any, .any, .any, .any, .any, .any, .any, .sl 1 M1 (tx w1), .any, .any, .any]
theorem check_bad (c : Int) (M0 M1 : Nat) (w0 w1 : TL) : Ct Tryd.prog 32 [.agg (macB c M0 M1 w0 w1)] (.v (.int .i64 2)) := by
  refine Ct.enter Tryd.tabOk ft32 ?_
  refine Ct.callC within_lit rfl (leL.refl _) ?_
  exact ⟨LV.le.refl _, rfl⟩
theorem of_bad (c : Int) (M0 M1 : Nat) (w0 w1 : TL) : Ct Tryd.prog 17 [.agg (macB c M0 M1 w0 w1)] (.agg [.any, .any, .str []]) := by
  refine Ct.enter Tryd.tabOk ft17 ?_
  refine Ct.callC (check_bad c M0 M1 w0 w1) rfl (leL.refl _) ?_
  refine ⟨fun h => ?_, fun h => absurd h (by decide)⟩
  exact ⟨LV.le.agg ⟨_, _, rfl, LV.le.any _, _, _, rfl, LV.le.any _, _, _, rfl, LV.le.refl _, rfl⟩, rfl⟩
def noneK : KL := fun _ => (false, [])
theorem begin1 (n : Nat) (hn : n ≤ 400) : Ct Tryd.prog 50 [.any, .v (.int .i64 (n : Int))] (.sl 2 n (kv noneK)) := by
  refine Ct.enter Tryd.tabOk ft50 ?_
  refine ⟨⟨by omega, by omega, by show 24 * (n : Int) ≤ _; omega, by omega⟩, ?_⟩
  exact ⟨LV.le.slL rfl fun i hi => ⟨_, _, rfl, LV.le.bs false, leL.refl _⟩, rfl⟩
theorem begin_both (c : Int) (n0 n1 : Nat) (r : List UInt8) (h0 : n0 ≤ 400) (h1 : n1 ≤ 400) :
    Ct Tryd.prog 49 [.v (.int .i64 (n0 : Int)), .v (.int .i64 (n1 : Int)), .v (.func (.func 50) #[] #[]), .agg [.v (.int .u64 c), .any, .any, .str r]] (shot c n0 n1 noneK noneK r) := by
  refine Ct.enter Tryd.tabOk ft49 ?_
  refine DrawA.run Tryd.tabOk Tryd.mixed [0, 0, 2, 0, 15, 0, 0, 64, 0, 511, 223, 2047, 4095, 8191] [11, 13] rfl ?_
  refine ⟨_, ⟨LV.le.refl _, rfl⟩, ?_⟩
  refine ⟨_, ⟨LV.le.refl _, rfl⟩, ?_⟩
  refine ⟨_, ⟨LV.le.refl _, rfl⟩, ?_⟩
  refine ⟨_, ⟨LV.le.refl _, rfl⟩, ?_⟩
  refine ⟨_, Ct.callC (begin1 n0 h0) rfl (leL.refl _) ⟨LV.le.refl _, rfl⟩, ?_⟩
  refine ⟨_, ⟨LV.le.refl _, rfl⟩, ?_⟩
  refine ⟨_, ⟨LV.le.refl _, rfl⟩, ?_⟩
  refine ⟨_, ⟨LV.le.refl _, rfl⟩, ?_⟩
  refine ⟨_, ⟨LV.le.refl _, rfl⟩, ?_⟩
  refine ⟨_, Ct.callC (begin1 n1 h1) rfl (leL.refl _) ⟨LV.le.refl _, rfl⟩, ?_⟩
  refine ⟨_, ⟨LV.le.refl _, rfl⟩, ?_⟩
  refine ⟨_, _, ⟨LV.le.refl _, rfl⟩, ?_⟩
  refine ⟨_, ⟨LV.le.refl _, rfl⟩, ?_⟩
  refine ⟨_, _, ⟨LV.le.refl _, rfl⟩, ?_⟩
  refine ⟨True.intro, ?_⟩
  exact ⟨LV.le.refl _, rfl⟩
theorem begin_bad (c : Int) (n0 n1 : Nat) (w0 w1 : TL) (h0 : n0 ≤ 400) (h1 : n1 ≤ 400) : Ct Tryd.prog 23 [.agg (macB c n0 n1 w0 w1)] (shot c n0 n1 noneK noneK []) := by
  refine Ct.enter Tryd.tabOk ft23 ?_
  refine DrawA.run Tryd.tabOk Tryd.mixed [0, 1, 0, 4, 12, 31, 0, 127] [6, 7] rfl ?_
  refine ⟨_, ⟨LV.le.refl _, rfl⟩, ?_⟩
  refine ⟨_, ⟨LV.le.refl _, rfl⟩, ?_⟩
  refine ⟨_, ⟨LV.le.refl _, rfl⟩, ?_⟩
  refine ⟨_, Ct.callC (of_bad c n0 n1 w0 w1) rfl (leL.refl _) ⟨LV.le.refl _, rfl⟩, ?_⟩
  refine ⟨_, ⟨LV.le.refl _, rfl⟩, ?_⟩
  refine ⟨_, ⟨LV.le.refl _, rfl⟩, ?_⟩
  refine ⟨_, _, ⟨LV.le.refl _, rfl⟩, ?_⟩
  refine ⟨_, _, ⟨LV.le.refl _, rfl⟩, ?_⟩
  refine ⟨?_, ?_⟩
  · refine ⟨⟨True.intro, ⟨LV.le.refl _, rfl⟩, True.intro⟩, ?_⟩
    refine ⟨⟨True.intro, ⟨LV.le.refl _, rfl⟩, True.intro⟩, ?_⟩
    refine ⟨⟨True.intro, ⟨LV.le.refl _, rfl⟩, True.intro⟩, ?_⟩
    refine ⟨⟨True.intro, Ct.callC (of_bad c n0 n1 w0 w1) rfl (leL.refl _) ⟨LV.le.refl _, rfl⟩, True.intro⟩, ?_⟩
    refine ⟨⟨True.intro, ⟨LV.le.refl _, rfl⟩, True.intro⟩, ?_⟩
    refine ⟨⟨True.intro, ⟨LV.le.refl _, rfl⟩, True.intro⟩, ?_⟩
    exact True.intro
  refine Ct.callC (begin_both c n0 n1 [] h0 h1) rfl ⟨_, _, rfl, LV.le.refl _, _, _, rfl, LV.le.refl _, _, _, rfl, LV.le.refl _, _, _, rfl, LV.le.agg ⟨_, _, rfl, LV.le.refl _, _, _, rfl, LV.le.any _, _, _, rfl, LV.le.any _, _, _, rfl, LV.le.refl _, rfl⟩, rfl⟩ ?_
  exact ⟨LV.le.refl _, rfl⟩
end Go.Proofs.Aw

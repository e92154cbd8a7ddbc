/- A PART OF THE PROOF: an abstract run of the loaded code over value trees, and the functions walked by it. No condition of its own. -/
import Derived.Test.YtanmknmlphkeaaaDoorD6
namespace Go.Proofs.Aw
open Go Go.Proofs
set_option maxHeartbeats 4000000
set_option maxRecDepth 100000
theorem pump_ct (c n : Int) (n0 n1 M0 M1 : Nat) (k0 k1 : KL) (r : List UInt8) (w0 w1 : TL) (h0 : n0 ≤ 400) (h1 : n1 ≤ 400) (hM0 : M0 ≤ 400) (hM1 : M1 ≤ 400) (hn : n ≤ 9223372036854775807) :
    Ct Tryd.prog 14 [shot c n0 n1 k0 k1 r, .agg (macK M0 M1 w0 w1), .v (.int .i64 n)] (shot c n0 n1 (pK k0 w0 M0 n) (pK k1 w1 M1 (pN k0 M0 n n0)) r) := by
  have hn2 : pN k0 M0 n n0 ≤ 9223372036854775807 := by have := pN_le k0 M0 n n0; omega
  refine Ct.enter Tryd.tabOk ft14 ?_
  refine CallA.body Tryd.tabOk ft29 ?_
  refine DrawA.run Tryd.tabOk Tryd.mixed [0, 0, 2, 0, 15, 0, 0, 64, 0, 511, 223, 2047, 4095, 8191] [4, 9, 11, 13] rfl ?_
  refine ⟨_, ⟨LV.le.refl _, rfl⟩, ?_⟩
  refine ⟨_, ⟨LV.le.refl _, rfl⟩, ?_⟩
  refine ⟨_, ⟨LV.le.refl _, rfl⟩, ?_⟩
  refine ⟨_, ⟨LV.le.refl _, rfl⟩, ?_⟩
  refine ⟨_, _, pump1 _ _ _ _ _ rfl rfl rfl rfl rfl _ _ n n0 M0 k0 w0 h0 hM0 hn ⟨LV.le.refl _, rfl⟩, ?_⟩
  refine ⟨_, ⟨LV.le.refl _, rfl⟩, ?_⟩
  refine ⟨_, ⟨LV.le.refl _, rfl⟩, ?_⟩
  refine ⟨_, ⟨LV.le.refl _, rfl⟩, ?_⟩
  refine ⟨_, ⟨LV.le.refl _, rfl⟩, ?_⟩
  refine ⟨_, _, pump1 _ _ _ _ _ rfl rfl rfl rfl rfl _ _ (pN k0 M0 n n0) n1 M1 k1 w1 h1 hM1 hn2 ⟨LV.le.refl _, rfl⟩, ?_⟩
  refine ⟨_, ⟨LV.le.refl _, rfl⟩, ?_⟩
  refine ⟨_, _, ⟨LV.le.refl _, rfl⟩, ?_⟩
  refine ⟨_, ⟨LV.le.refl _, rfl⟩, ?_⟩
  refine ⟨_, _, ⟨LV.le.refl _, rfl⟩, ?_⟩
  refine ⟨?_, ?_⟩
  · refine ⟨⟨⟨LV.le.refl _, rfl⟩, trivial, trivial⟩, ?_⟩
    refine ⟨⟨⟨LV.le.refl _, rfl⟩, trivial, trivial⟩, ?_⟩
    refine ⟨⟨⟨LV.le.refl _, rfl⟩, trivial, trivial⟩, ?_⟩
    refine ⟨⟨⟨LV.le.refl _, rfl⟩, trivial, trivial⟩, ?_⟩
    refine ⟨⟨⟨LV.le.refl _, rfl⟩, trivial, trivial⟩, ?_⟩
    exact True.intro
  exact ⟨LV.le.refl _, rfl⟩
end Go.Proofs.Aw

/- A PART OF THE PROOF: an abstract run of the loaded code over value trees, and the functions walked by it. No condition of its own. -/
import Derived.Test.YtanmknmlphkeaaaDoorD5
namespace Go.Proofs.Aw
open Go Go.Proofs
set_option maxRecDepth 100000
theorem went_both (c : Int) (n0 n1 M0 M0' M1 M1' : Nat) (k0 k1 : KL) (r : List UInt8) (w0 w0' w1 w1' : TL) (h0 : n0 ≤ 400) (h1 : n1 ≤ 400) (hM0 : M0 ≤ 400) (hM0' : M0' ≤ 400) (hM1 : M1 ≤ 400) (hM1' : M1' ≤ 400) :
    Ct Tryd.prog 27 [.agg [.sl 1 M0 (tx w0), .sl 1 M0' (tx w0')], .agg [.sl 1 M1 (tx w1), .sl 1 M1' (tx w1')], .v (.func (.func 25) #[] #[]), shot c n0 n1 k0 k1 r] (shot c n0 n1 (wK k0 w0 w0' M0 M0') (wK k1 w1 w1' M1 M1') r) := by
  refine Ct.enter Tryd.tabOk ft27 ?_
  refine DrawA.run Tryd.tabOk Tryd.mixed [0, 0, 2, 0, 15, 0, 0, 64, 0, 511, 223, 2047, 4095, 8191] [11, 13] rfl ?_
  refine ⟨_, ⟨LV.le.refl _, rfl⟩, ?_⟩
  refine ⟨_, ⟨LV.le.refl _, rfl⟩, ?_⟩
  refine ⟨_, ⟨LV.le.refl _, rfl⟩, ?_⟩
  refine ⟨_, ⟨LV.le.refl _, rfl⟩, ?_⟩
  refine ⟨_, Ct.callC (went1 n0 M0 M0' k0 w0 w0' h0 hM0 hM0') rfl (leL.refl _) ⟨LV.le.refl _, rfl⟩, ?_⟩
  refine ⟨_, ⟨LV.le.refl _, rfl⟩, ?_⟩
  refine ⟨_, ⟨LV.le.refl _, rfl⟩, ?_⟩
  refine ⟨_, ⟨LV.le.refl _, rfl⟩, ?_⟩
  refine ⟨_, ⟨LV.le.refl _, rfl⟩, ?_⟩
  refine ⟨_, Ct.callC (went1 n1 M1 M1' k1 w1 w1' h1 hM1 hM1') rfl (leL.refl _) ⟨LV.le.refl _, rfl⟩, ?_⟩
  refine ⟨_, ⟨LV.le.refl _, rfl⟩, ?_⟩
  refine ⟨_, _, ⟨LV.le.refl _, rfl⟩, ?_⟩
  refine ⟨_, ⟨LV.le.refl _, rfl⟩, ?_⟩
  refine ⟨_, _, ⟨LV.le.refl _, rfl⟩, ?_⟩
  refine ⟨trivial, ?_⟩
  exact ⟨LV.le.refl _, rfl⟩
/-- a machine of which only these are asked -/
def macK (M0 M1 : Nat) (w0 w1 : TL) : List LV := [.any, .any, .any, .any, .sl 1 M0 (tx w0), .any, .any, .any, .any, .any, .any, .any, .any, .sl 1 M1 (tx w1), .any, .any, .any]
theorem went_ct (c : Int) (n0 n1 M0 M0' M1 M1' : Nat) (k0 k1 : KL) (r : List UInt8) (w0 w0' w1 w1' : TL) (h0 : n0 ≤ 400) (h1 : n1 ≤ 400) (hM0 : M0 ≤ 400) (hM0' : M0' ≤ 400) (hM1 : M1 ≤ 400) (hM1' : M1' ≤ 400) :
    Ct Tryd.prog 13 [shot c n0 n1 k0 k1 r, .agg (macK M0 M1 w0 w1), .agg (macK M0' M1' w0' w1')] (shot c n0 n1 (wK k0 w0 w0' M0 M0') (wK k1 w1 w1' M1 M1') r) := by
  refine Ct.enter Tryd.tabOk ft13 ?_
  refine Ct.callC (went_both c n0 n1 M0 M0' M1 M1' k0 k1 r w0 w0' w1 w1' h0 h1 hM0 hM0' hM1 hM1') rfl (leL.refl _) ?_
  exact ⟨LV.le.refl _, rfl⟩
end Go.Proofs.Aw

/- A PART OF THE PROOF: an abstract run of the loaded code over value trees, and the functions walked by it. No condition of its own. -/
import Derived.Test.YtanmknmlphkeaaaDoorE2
namespace Go.Proofs.Aw
open Go Go.Proofs
set_option maxHeartbeats 8000000
set_option maxRecDepth 100000
theorem pumps_ct (m : MV) (c i j : Int) (n0 n1 : Nat) (k0 k1 : KL) (r : List UInt8) (hi : 0 ≤ i) (hi2 : i ≤ 255) (hj : 0 ≤ j) (hj2 : j ≤ 255) : Ct Tryd.prog 5 [shot c n0 n1 k0 k1 r, .agg m.lv, .v (.int .u8 i), .v (.int .u8 j)] (.v (.bool true)) := by
  have wi : IntKind.i64.wrap i = i := w64 (by omega) (by omega)
  have wj : IntKind.i64.wrap j = j := w64 (by omega) (by omega)
  refine Ct.enter Tryd.tabOk ft5 ?_
  refine Ct.callC alive_ct rfl (leL.refl _) ?_
  by_cases hb1 : Big m n0 n1
  · refine Ct.callC (great_yes m c n0 n1 k0 k1 r hb1) rfl (leL.refl _) ?_
    refine ⟨fun _ => ?_, fun h => absurd h (by decide)⟩
    exact ⟨LV.le.refl _, rfl⟩
  refine Ct.callC (great_no m c n0 n1 k0 k1 r hb1) rfl (leL.refl _) ?_
  refine ⟨fun h => absurd h (by decide), fun _ => ?_⟩
  simp only [Big, not_or] at hb1
  refine DrawA.run Tryd.tabOk Tryd.mixed [0, 0, 0, 7, 0, 0, 63, 0, 255] [7, 8] rfl ?_
  refine ⟨_, ⟨LV.le.refl _, rfl⟩, ?_⟩
  refine ⟨_, ⟨LV.le.refl _, rfl⟩, ?_⟩
  refine ⟨_, ⟨LV.le.refl _, rfl⟩, ?_⟩
  refine ⟨_, Ct.callC (pump_ct c i n0 n1 m.M0 m.M1 k0 k1 r m.w0 m.w1 (by omega) (by omega) (by omega) (by omega) (by omega)) rfl ⟨_, _, rfl, LV.le.refl _, _, _, rfl, LV.le.agg ⟨_, _, rfl, LV.le.any _, _, _, rfl, LV.le.any _, _, _, rfl, LV.le.any _, _, _, rfl, LV.le.any _, _, _, rfl, LV.le.refl _, _, _, rfl, LV.le.any _, _, _, rfl, LV.le.any _, _, _, rfl, LV.le.any _, _, _, rfl, LV.le.any _, _, _, rfl, LV.le.any _, _, _, rfl, LV.le.any _, _, _, rfl, LV.le.any _, _, _, rfl, LV.le.any _, _, _, rfl, LV.le.refl _, _, _, rfl, LV.le.any _, _, _, rfl, LV.le.any _, _, _, rfl, LV.le.any _, rfl⟩, _, _, rfl, LV.le.int wi, rfl⟩ ⟨LV.le.refl _, rfl⟩, ?_⟩
  refine ⟨_, ⟨LV.le.refl _, rfl⟩, ?_⟩
  refine ⟨_, ⟨LV.le.refl _, rfl⟩, ?_⟩
  refine ⟨_, Ct.callC (pump_ct c j n0 n1 m.M0 m.M1 (pK k0 m.w0 m.M0 i) (pK k1 m.w1 m.M1 (pN k0 m.M0 i n0)) r m.w0 m.w1 (by omega) (by omega) (by omega) (by omega) (by omega)) rfl ⟨_, _, rfl, LV.le.refl _, _, _, rfl, LV.le.agg ⟨_, _, rfl, LV.le.any _, _, _, rfl, LV.le.any _, _, _, rfl, LV.le.any _, _, _, rfl, LV.le.any _, _, _, rfl, LV.le.refl _, _, _, rfl, LV.le.any _, _, _, rfl, LV.le.any _, _, _, rfl, LV.le.any _, _, _, rfl, LV.le.any _, _, _, rfl, LV.le.any _, _, _, rfl, LV.le.any _, _, _, rfl, LV.le.any _, _, _, rfl, LV.le.any _, _, _, rfl, LV.le.refl _, _, _, rfl, LV.le.any _, _, _, rfl, LV.le.any _, _, _, rfl, LV.le.any _, rfl⟩, _, _, rfl, LV.le.int wj, rfl⟩ ⟨LV.le.refl _, rfl⟩, ?_⟩
  refine ⟨_, _, ⟨LV.le.refl _, rfl⟩, ?_⟩
  refine ⟨_, _, ⟨LV.le.refl _, rfl⟩, ?_⟩
  refine ⟨?_, ?_⟩
  · refine ⟨⟨True.intro, ⟨LV.le.refl _, rfl⟩, True.intro⟩, ?_⟩
    refine ⟨⟨True.intro, ⟨LV.le.refl _, rfl⟩, True.intro⟩, ?_⟩
    refine ⟨⟨True.intro, ⟨LV.le.refl _, rfl⟩, True.intro⟩, ?_⟩
    refine ⟨⟨True.intro, Ct.callC (pump_ct c i n0 n1 m.M0 m.M1 k0 k1 r m.w0 m.w1 (by omega) (by omega) (by omega) (by omega) (by omega)) rfl ⟨_, _, rfl, LV.le.refl _, _, _, rfl, LV.le.agg ⟨_, _, rfl, LV.le.any _, _, _, rfl, LV.le.any _, _, _, rfl, LV.le.any _, _, _, rfl, LV.le.any _, _, _, rfl, LV.le.refl _, _, _, rfl, LV.le.any _, _, _, rfl, LV.le.any _, _, _, rfl, LV.le.any _, _, _, rfl, LV.le.any _, _, _, rfl, LV.le.any _, _, _, rfl, LV.le.any _, _, _, rfl, LV.le.any _, _, _, rfl, LV.le.any _, _, _, rfl, LV.le.refl _, _, _, rfl, LV.le.any _, _, _, rfl, LV.le.any _, _, _, rfl, LV.le.any _, rfl⟩, _, _, rfl, LV.le.int wi, rfl⟩ ⟨LV.le.refl _, rfl⟩, True.intro⟩, ?_⟩
    refine ⟨⟨True.intro, ⟨LV.le.refl _, rfl⟩, True.intro⟩, ?_⟩
    refine ⟨⟨True.intro, ⟨LV.le.refl _, rfl⟩, True.intro⟩, ?_⟩
    refine ⟨⟨True.intro, Ct.callC (pump_ct c j n0 n1 m.M0 m.M1 (pK k0 m.w0 m.M0 i) (pK k1 m.w1 m.M1 (pN k0 m.M0 i n0)) r m.w0 m.w1 (by omega) (by omega) (by omega) (by omega) (by omega)) rfl ⟨_, _, rfl, LV.le.refl _, _, _, rfl, LV.le.agg ⟨_, _, rfl, LV.le.any _, _, _, rfl, LV.le.any _, _, _, rfl, LV.le.any _, _, _, rfl, LV.le.any _, _, _, rfl, LV.le.refl _, _, _, rfl, LV.le.any _, _, _, rfl, LV.le.any _, _, _, rfl, LV.le.any _, _, _, rfl, LV.le.any _, _, _, rfl, LV.le.any _, _, _, rfl, LV.le.any _, _, _, rfl, LV.le.any _, _, _, rfl, LV.le.any _, _, _, rfl, LV.le.refl _, _, _, rfl, LV.le.any _, _, _, rfl, LV.le.any _, _, _, rfl, LV.le.any _, rfl⟩, _, _, rfl, LV.le.int wj, rfl⟩ ⟨LV.le.refl _, rfl⟩, True.intro⟩, ?_⟩
    exact True.intro
  have wij : IntKind.i64.wrap (IntKind.i64.wrap i + IntKind.i64.wrap j) = i + j := by rw [wi, wj]; exact w64 (by omega) (by omega)
  have wn : IntKind.i64.wrap (0 - IntKind.i64.wrap i) = -i := by rw [wi, w64 (by omega) (by omega)]; omega
  refine Ct.callC (pump_ct c (i + j) n0 n1 m.M0 m.M1 k0 k1 r m.w0 m.w1 (by omega) (by omega) (by omega) (by omega) (by omega)) rfl ⟨_, _, rfl, LV.le.refl _, _, _, rfl, LV.le.agg ⟨_, _, rfl, LV.le.any _, _, _, rfl, LV.le.any _, _, _, rfl, LV.le.any _, _, _, rfl, LV.le.any _, _, _, rfl, LV.le.refl _, _, _, rfl, LV.le.any _, _, _, rfl, LV.le.any _, _, _, rfl, LV.le.any _, _, _, rfl, LV.le.any _, _, _, rfl, LV.le.any _, _, _, rfl, LV.le.any _, _, _, rfl, LV.le.any _, _, _, rfl, LV.le.any _, _, _, rfl, LV.le.refl _, _, _, rfl, LV.le.any _, _, _, rfl, LV.le.any _, _, _, rfl, LV.le.any _, rfl⟩, _, _, rfl, LV.le.int wij, rfl⟩ ?_
  refine Ct.callC (pump_ct c (-i) n0 n1 m.M0 m.M1 k0 k1 r m.w0 m.w1 (by omega) (by omega) (by omega) (by omega) (by omega)) rfl ⟨_, _, rfl, LV.le.refl _, _, _, rfl, LV.le.agg ⟨_, _, rfl, LV.le.any _, _, _, rfl, LV.le.any _, _, _, rfl, LV.le.any _, _, _, rfl, LV.le.any _, _, _, rfl, LV.le.refl _, _, _, rfl, LV.le.any _, _, _, rfl, LV.le.any _, _, _, rfl, LV.le.any _, _, _, rfl, LV.le.any _, _, _, rfl, LV.le.any _, _, _, rfl, LV.le.any _, _, _, rfl, LV.le.any _, _, _, rfl, LV.le.any _, _, _, rfl, LV.le.refl _, _, _, rfl, LV.le.any _, _, _, rfl, LV.le.any _, _, _, rfl, LV.le.any _, rfl⟩, _, _, rfl, LV.le.int wn, rfl⟩ ?_
  have q0 := pN_nonneg (k := k0) (M := m.M0) hi n0
  have q1 := pN_nonneg (k := pK k0 m.w0 m.M0 i) (M := m.M0) hj n0
  have q2 := pN_add (k := k0) (w := m.w0) (M := m.M0) hi hj n0
  refine Ct.callC (same_ct c n0 n1 _ _ _ _ r (by omega) (by omega) (fun x _ => pK_add hi hj x) (fun x _ => by rw [q2]; exact pK_add q0 q1 x)) rfl (leL.refl _) ?_
  refine Ct.callC (same_ct c n0 n1 _ _ _ _ r (by omega) (by omega) (fun x _ => pK_none (by omega) x) (fun x _ => pK_none (by have := pN_le k0 m.M0 (-i) n0; omega) x)) rfl (leL.refl _) ?_
  refine ⟨fun _ => ?_, fun h5 => ⟨fun _ => ?_, fun h6 => ?_⟩⟩
  · exact ⟨LV.le.refl _, rfl⟩
  · exact ⟨LV.le.refl _, rfl⟩
  · have h5 := dF h5
    have h6 := dF h6
    have l1 := cnt_cat (n0 := n0) (k0 := pK k0 m.w0 m.M0 (i + j)) (k1 := pK k1 m.w1 m.M1 (pN k0 m.M0 (i + j) n0)) n1
    have l2 := cnt_cat (n0 := n0) (k0 := k0) (k1 := k1) n1
    have l3 := cnt_max (k := k0) (w := m.w0) (M := m.M0) (n := i + j) (by omega) n0 (by omega)
    have l4 := pN_max (k := k0) (M := m.M0) (n := i + j) (by omega) n0 (by omega)
    have l5 := cnt_max (k := k1) (w := m.w1) (M := m.M1) (n := pN k0 m.M0 (i + j) n0) (by omega) n1 (by omega)
    have b1 := cnt_le k0 n0
    have b2 := cnt_le k1 n1
    refine DrawA.run Tryd.tabOk Tryd.mixed [0, 1, 0, 7, 0, 31, 0, 127, 255, 511, 1023] [] rfl ?_
    refine ⟨_, ⟨LV.le.refl _, rfl⟩, ?_⟩
    refine ⟨_, Ct.callC (left_ct c n0 n1 (pK k0 m.w0 m.M0 (i + j)) (pK k1 m.w1 m.M1 (pN k0 m.M0 (i + j) n0)) r (by omega) (by omega)) rfl (leL.refl _) ⟨LV.le.refl _, rfl⟩, ?_⟩
    refine ⟨_, ⟨LV.le.refl _, rfl⟩, ?_⟩
    refine ⟨_, Ct.callC (left_ct c n0 n1 k0 k1 r (by omega) (by omega)) rfl (leL.refl _) ⟨LV.le.refl _, rfl⟩, ?_⟩
    refine ⟨.v (.int .i64 i), ⟨LV.le.int wi, rfl⟩, ?_⟩
    refine ⟨.v (.int .i64 ((cnt (catK n0 k0 k1) (n0 + n1) : Int) - i)), ⟨LV.le.int (w64 (by omega) (by omega)), rfl⟩, ?_⟩
    refine ⟨.v (.int .i64 j), ⟨LV.le.int wj, rfl⟩, ?_⟩
    refine ⟨.v (.int .i64 ((cnt (catK n0 k0 k1) (n0 + n1) : Int) - i - j)), ⟨LV.le.int (w64 (by omega) (by omega)), rfl⟩, ?_⟩
    refine ⟨_, ⟨LV.le.refl _, rfl⟩, ?_⟩
    refine ⟨.v (.bool true), ⟨LV.le.bsV (decide_eq_true (by split <;> omega)), rfl⟩, ?_⟩
    refine ⟨_, ⟨LV.le.refl _, rfl⟩, ?_⟩
    refine ⟨True.intro, ?_⟩
    exact ⟨LV.le.refl _, rfl⟩
end Go.Proofs.Aw

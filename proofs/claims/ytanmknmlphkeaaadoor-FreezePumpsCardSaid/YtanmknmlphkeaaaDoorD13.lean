/- A PART OF THE PROOF: an abstract run of the loaded code over value trees, and the functions walked by it. No condition of its own. -/
import Derived.Test.YtanmknmlphkeaaaDoorD10
import Derived.Test.YtanmknmlphkeaaaDoorD12
namespace Go.Proofs.Aw
open Go Go.Proofs
set_option maxHeartbeats 8000000
set_option maxRecDepth 100000
theorem cnt_mono {k k' : KL} : ∀ {n : Nat}, (∀ i, i < n → (k i).1 = true → (k' i).1 = true) → cnt k' n ≤ cnt k n
  | 0, _ => Nat.le_refl _
  | n + 1, h => by
    have ih := cnt_mono (k := k) (k' := k') (n := n) fun i hi => h i (by omega)
    have hn := h n (by omega)
    simp only [cnt]
    cases h1 : (k n).1 with
    | true => simp [hn h1]; omega
    | false => simp; split <;> omega
theorem wK_is {k : KL} {w w' : TL} {M M' i : Nat} (h : (k i).1 = true) : wK k w w' M M' i = k i := by
  unfold wK; rw [if_neg]; rw [h]; simp
theorem pK_is {k : KL} {w : TL} {M i : Nat} {n : Int} (h : (k i).1 = true) : pK k w M n i = k i := by
  unfold pK; rw [if_neg]; rw [h]; simp
theorem catK_mono {n0 n : Nat} {k0 k1 k0' k1' : KL} (h0 : ∀ i, (k0 i).1 = true → (k0' i).1 = true) (h1 : ∀ i, (k1 i).1 = true → (k1' i).1 = true) : cnt (catK n0 k0' k1') n ≤ cnt (catK n0 k0 k1) n :=
  cnt_mono fun i _ h => by
    simp only [catK] at h ⊢
    split
    · rename_i hi; rw [if_pos hi] at h; exact h0 _ h
    · rename_i hi; rw [if_neg hi] at h; exact h1 _ h
theorem great_yes (m : MV) (c : Int) (n0 n1 : Nat) (k0 k1 : KL) (r : List UInt8) (h : Big m n0 n1) : Ct Tryd.prog 12 [.agg m.lv, shot c n0 n1 k0 k1 r] (.v (.int .i64 1)) := by
  have := great_ct m c n0 n1 k0 k1 r
  rwa [if_pos h] at this
theorem great_no (m : MV) (c : Int) (n0 n1 : Nat) (k0 k1 : KL) (r : List UInt8) (h : ¬ Big m n0 n1) : Ct Tryd.prog 12 [.agg m.lv, shot c n0 n1 k0 k1 r] (.v (.int .i64 0)) := by
  have := great_ct m c n0 n1 k0 k1 r
  rwa [if_neg h] at this
theorem once_ct (was now : MV) (c n : Int) (n0 n1 : Nat) (k0 k1 : KL) (r : List UInt8) (hn : n ≤ 9223372036854775807) : Ct Tryd.prog 4 [shot c n0 n1 k0 k1 r, .agg was.lv, .agg now.lv, .v (.int .i64 n)] (.v (.bool true)) := by
  refine Ct.enter Tryd.tabOk ft4 ?_
  refine Ct.callC alive_ct rfl (leL.refl _) ?_
  by_cases hb1 : Big was n0 n1
  · refine Ct.callC (great_yes was c n0 n1 k0 k1 r hb1) rfl (leL.refl _) ?_
    refine ⟨fun _ => ?_, fun h => absurd h (by decide)⟩
    exact ⟨LV.le.refl _, rfl⟩
  refine Ct.callC (great_no was c n0 n1 k0 k1 r hb1) rfl (leL.refl _) ?_
  refine ⟨fun h => absurd h (by decide), fun _ => ?_⟩
  by_cases hb2 : Big now n0 n1
  · refine Ct.callC (great_yes now c n0 n1 k0 k1 r hb2) rfl (leL.refl _) ?_
    refine ⟨fun _ => ?_, fun h => absurd h (by decide)⟩
    exact ⟨LV.le.refl _, rfl⟩
  refine Ct.callC (great_no now c n0 n1 k0 k1 r hb2) rfl (leL.refl _) ?_
  refine ⟨fun h => absurd h (by decide), fun _ => ?_⟩
  simp only [Big, not_or] at hb1 hb2
  refine Ct.callC (went_ct c n0 n1 was.M0 now.M0 was.M1 now.M1 k0 k1 r was.w0 now.w0 was.w1 now.w1 (by omega) (by omega) (by omega) (by omega) (by omega) (by omega)) rfl ⟨_, _, rfl, LV.le.refl _, _, _, rfl, LV.le.agg ⟨_, _, rfl, LV.le.any _, _, _, rfl, LV.le.any _, _, _, rfl, LV.le.any _, _, _, rfl, LV.le.any _, _, _, rfl, LV.le.refl _, _, _, rfl, LV.le.any _, _, _, rfl, LV.le.any _, _, _, rfl, LV.le.any _, _, _, rfl, LV.le.any _, _, _, rfl, LV.le.any _, _, _, rfl, LV.le.any _, _, _, rfl, LV.le.any _, _, _, rfl, LV.le.any _, _, _, rfl, LV.le.refl _, _, _, rfl, LV.le.any _, _, _, rfl, LV.le.any _, _, _, rfl, LV.le.any _, rfl⟩, _, _, rfl, LV.le.agg ⟨_, _, rfl, LV.le.any _, _, _, rfl, LV.le.any _, _, _, rfl, LV.le.any _, _, _, rfl, LV.le.any _, _, _, rfl, LV.le.refl _, _, _, rfl, LV.le.any _, _, _, rfl, LV.le.any _, _, _, rfl, LV.le.any _, _, _, rfl, LV.le.any _, _, _, rfl, LV.le.any _, _, _, rfl, LV.le.any _, _, _, rfl, LV.le.any _, _, _, rfl, LV.le.any _, _, _, rfl, LV.le.refl _, _, _, rfl, LV.le.any _, _, _, rfl, LV.le.any _, _, _, rfl, LV.le.any _, rfl⟩, rfl⟩ ?_
  generalize ha0 : wK k0 was.w0 now.w0 was.M0 now.M0 = a0
  generalize ha1 : wK k1 was.w1 now.w1 was.M1 now.M1 = a1
  refine Ct.callC (pump_ct c n n0 n1 now.M0 now.M1 a0 a1 r now.w0 now.w1 (by omega) (by omega) (by omega) (by omega) hn) rfl ⟨_, _, rfl, LV.le.refl _, _, _, rfl, LV.le.agg ⟨_, _, rfl, LV.le.any _, _, _, rfl, LV.le.any _, _, _, rfl, LV.le.any _, _, _, rfl, LV.le.any _, _, _, rfl, LV.le.refl _, _, _, rfl, LV.le.any _, _, _, rfl, LV.le.any _, _, _, rfl, LV.le.any _, _, _, rfl, LV.le.any _, _, _, rfl, LV.le.any _, _, _, rfl, LV.le.any _, _, _, rfl, LV.le.any _, _, _, rfl, LV.le.any _, _, _, rfl, LV.le.refl _, _, _, rfl, LV.le.any _, _, _, rfl, LV.le.any _, _, _, rfl, LV.le.any _, rfl⟩, _, _, rfl, LV.le.refl _, rfl⟩ ?_
  generalize hq0 : pK a0 now.w0 now.M0 n = b0
  generalize hq1 : pK a1 now.w1 now.M1 (pN a0 now.M0 n n0) = b1
  have sa0 : ∀ i, (k0 i).1 = true → a0 i = k0 i := fun i h => by rw [← ha0]; exact wK_is h
  have sa1 : ∀ i, (k1 i).1 = true → a1 i = k1 i := fun i h => by rw [← ha1]; exact wK_is h
  have sb0 : ∀ i, (a0 i).1 = true → b0 i = a0 i := fun i h => by rw [← hq0]; exact pK_is h
  have sb1 : ∀ i, (a1 i).1 = true → b1 i = a1 i := fun i h => by rw [← hq1]; exact pK_is h
  have e0 : ∀ i, (k0 i).1 = true → b0 i = k0 i := fun i h => by rw [sb0 i (by rw [sa0 i h]; exact h), sa0 i h]
  have e1 : ∀ i, (k1 i).1 = true → b1 i = k1 i := fun i h => by rw [sb1 i (by rw [sa1 i h]; exact h), sa1 i h]
  have l1 : cnt (catK n0 a0 a1) (n0 + n1) ≤ cnt (catK n0 k0 k1) (n0 + n1) := catK_mono (fun i h => by rw [sa0 i h]; exact h) fun i h => by rw [sa1 i h]; exact h
  have l2 : cnt (catK n0 b0 b1) (n0 + n1) ≤ cnt (catK n0 a0 a1) (n0 + n1) := catK_mono (fun i h => by rw [sb0 i h]; exact h) fun i h => by rw [sb1 i h]; exact h
  clear ha0 ha1 hq0 hq1 sa0 sa1 sb0 sb1
  refine DrawA.run Tryd.tabOk Tryd.mixed [0, 1, 3, 0, 8, 24, 63, 127, 255, 511, 1023, 255, 2303, 6399, 16383, 32767, 65535, 131071, 262143, 131071, 655359, 2097151, 4194303, 8388607, 16777215, 33554431, 16777215, 134217727, 268435455, 536870911, 1073741823, 2147483647, 4294967295, 2147483647, 17179869183, 34359738367, 68719476735] [] rfl ?_
  refine ⟨_, ⟨LV.le.refl _, rfl⟩, ?_⟩
  refine ⟨_, ⟨LV.le.refl _, rfl⟩, ?_⟩
  refine ⟨_, ⟨LV.le.refl _, rfl⟩, ?_⟩
  refine ⟨_, ⟨LV.le.refl _, rfl⟩, ?_⟩
  refine ⟨_, ⟨LV.le.refl _, rfl⟩, ?_⟩
  refine ⟨_, ⟨LV.le.refl _, rfl⟩, ?_⟩
  refine ⟨.v (.bool false), ⟨LV.le.bsV (by simp), rfl⟩, ?_⟩
  refine ⟨_, ⟨LV.le.refl _, rfl⟩, ?_⟩
  refine ⟨_, ⟨LV.le.refl _, rfl⟩, ?_⟩
  refine ⟨_, ⟨LV.le.refl _, rfl⟩, ?_⟩
  refine ⟨_, ⟨LV.le.refl _, rfl⟩, ?_⟩
  refine ⟨_, ⟨LV.le.refl _, rfl⟩, ?_⟩
  refine ⟨_, ⟨LV.le.refl _, rfl⟩, ?_⟩
  refine ⟨_, ⟨LV.le.refl _, rfl⟩, ?_⟩
  refine ⟨.v (.bool false), ⟨LV.le.bsV (by simp), rfl⟩, ?_⟩
  refine ⟨_, ⟨LV.le.refl _, rfl⟩, ?_⟩
  refine ⟨_, ⟨LV.le.refl _, rfl⟩, ?_⟩
  refine ⟨_, ⟨LV.le.refl _, rfl⟩, ?_⟩
  refine ⟨_, ⟨LV.le.refl _, rfl⟩, ?_⟩
  refine ⟨_, ⟨LV.le.refl _, rfl⟩, ?_⟩
  refine ⟨_, ⟨LV.le.refl _, rfl⟩, ?_⟩
  refine ⟨.v (.bool false), ⟨LV.le.bsV (by simp), rfl⟩, ?_⟩
  refine ⟨_, ⟨LV.le.refl _, rfl⟩, ?_⟩
  refine ⟨_, ⟨LV.le.refl _, rfl⟩, ?_⟩
  refine ⟨_, ⟨LV.le.refl _, rfl⟩, ?_⟩
  refine ⟨_, Ct.callC (left_ct c n0 n1 a0 a1 r (by omega) (by omega)) rfl (leL.refl _) ⟨LV.le.refl _, rfl⟩, ?_⟩
  refine ⟨_, ⟨LV.le.refl _, rfl⟩, ?_⟩
  refine ⟨_, Ct.callC (left_ct c n0 n1 k0 k1 r (by omega) (by omega)) rfl (leL.refl _) ⟨LV.le.refl _, rfl⟩, ?_⟩
  refine ⟨.v (.bool false), ⟨LV.le.bsV (decide_eq_false (by omega)), rfl⟩, ?_⟩
  refine ⟨_, ⟨LV.le.refl _, rfl⟩, ?_⟩
  refine ⟨_, ⟨LV.le.refl _, rfl⟩, ?_⟩
  refine ⟨_, ⟨LV.le.refl _, rfl⟩, ?_⟩
  refine ⟨_, Ct.callC (left_ct c n0 n1 b0 b1 r (by omega) (by omega)) rfl (leL.refl _) ⟨LV.le.refl _, rfl⟩, ?_⟩
  refine ⟨_, ⟨LV.le.refl _, rfl⟩, ?_⟩
  refine ⟨_, Ct.callC (left_ct c n0 n1 a0 a1 r (by omega) (by omega)) rfl (leL.refl _) ⟨LV.le.refl _, rfl⟩, ?_⟩
  refine ⟨.v (.bool false), ⟨LV.le.bsV (decide_eq_false (by omega)), rfl⟩, ?_⟩
  refine ⟨_, ⟨LV.le.refl _, rfl⟩, ?_⟩
  refine ⟨True.intro, ?_⟩
  refine ⟨Nat, fun j => ⟨[(11, .v (.int .i64 (j : Int))), (4, .lp 0 0), (10, .lp 4 0)], [(4, .box 35 [.v (.int .u64 c), .sl 2 n0 (kv b0), .sl 2 n1 (kv b1), .str r]), (0, .box 35 [.v (.int .u64 c), .sl 2 n0 (kv k0), .sl 2 n1 (kv k1), .str r])], 5, 0⟩, fun j => j ≤ n0, fun j => n0 - j, 0, Nat.zero_le _,
    .le ⟨rfl, ⟨rfl, Nat.le_refl _⟩, ⟨LV.le.refl _, rfl, LV.le.refl _, rfl, LV.le.refl _, rfl, trivial⟩, ⟨⟨_, rfl, LO.le.refl _⟩, rfl, rfl, ⟨_, rfl, LO.le.refl _⟩, rfl, rfl, trivial⟩⟩, fun j hj => ⟨fun h => ?_, fun h => ?_⟩⟩
  · have h := dT h
    have e11 : IntKind.i64.wrap ((j : Int) + 1) = ((j + 1 : Nat) : Int) := by rw [w64] <;> omega
    cases hk : (k0 j).1 with
    | true =>
      have ej := e0 j hk
      refine DrawA.run Tryd.tabOk Tryd.mixed [0, 1, 0, 7, 15, 31, 63, 127, 255, 127, 1023, 2047, 127, 4223, 127, 28799, 61567, 131071, 262143] [] rfl ?_
      refine ⟨_, ⟨LV.le.refl _, rfl⟩, ?_⟩
      refine ⟨_, ⟨LV.le.refl _, rfl⟩, ?_⟩
      refine ⟨_, ⟨LV.le.refl _, rfl⟩, ?_⟩
      refine ⟨_, ⟨⟨by omega, by omega⟩, LV.le.refl _, rfl⟩, ?_⟩
      refine ⟨_, ⟨LV.le.refl _, rfl⟩, ?_⟩
      refine ⟨_, ⟨LV.le.refl _, rfl⟩, ?_⟩
      refine ⟨.v (.bool true), ⟨LV.le.bsV hk, rfl⟩, ?_⟩
      refine ⟨_, ⟨LV.le.refl _, rfl⟩, ?_⟩
      refine ⟨_, ⟨LV.le.refl _, rfl⟩, ?_⟩
      refine ⟨_, ⟨LV.le.refl _, rfl⟩, ?_⟩
      refine ⟨_, ⟨⟨by omega, by omega⟩, LV.le.refl _, rfl⟩, ?_⟩
      refine ⟨_, ⟨LV.le.refl _, rfl⟩, ?_⟩
      refine ⟨_, ⟨LV.le.refl _, rfl⟩, ?_⟩
      refine ⟨_, ⟨LV.le.refl _, rfl⟩, ?_⟩
      refine ⟨_, ⟨LV.le.refl _, rfl⟩, ?_⟩
      refine ⟨_, ⟨⟨by omega, by omega⟩, LV.le.refl _, rfl⟩, ?_⟩
      refine ⟨_, ⟨LV.le.refl _, rfl⟩, ?_⟩
      refine ⟨.v (.bool false), ⟨_, eqF_kept (b0 j).1 (k0 j).1 (b0 j).2 (k0 j).2, LV.le.bsV (by rw [ej]; simp), rfl⟩, ?_⟩
      refine ⟨_, ⟨LV.le.refl _, rfl⟩, ?_⟩
      refine ⟨True.intro, ?_⟩
      exact ⟨j + 1, (by omega : j + 1 ≤ n0), (by omega : n0 - (j + 1) < n0 - j), .le ⟨rfl, ⟨rfl, Nat.le_refl _⟩, ⟨LV.le.int e11, rfl, LV.le.refl _, rfl, LV.le.refl _, rfl, trivial⟩, ⟨⟨_, rfl, LO.le.refl _⟩, rfl, rfl, ⟨_, rfl, LO.le.refl _⟩, rfl, rfl, trivial⟩⟩⟩
        | false =>
      refine DrawA.run Tryd.tabOk Tryd.mixed [0, 1, 0, 7, 15, 31, 63, 127, 255, 127, 1023, 2047, 127, 4223, 127, 28799, 61567, 131071, 262143] [] rfl ?_
      refine ⟨_, ⟨LV.le.refl _, rfl⟩, ?_⟩
      refine ⟨_, ⟨LV.le.refl _, rfl⟩, ?_⟩
      refine ⟨_, ⟨LV.le.refl _, rfl⟩, ?_⟩
      refine ⟨_, ⟨⟨by omega, by omega⟩, LV.le.refl _, rfl⟩, ?_⟩
      refine ⟨_, ⟨LV.le.refl _, rfl⟩, ?_⟩
      refine ⟨_, ⟨LV.le.refl _, rfl⟩, ?_⟩
      refine ⟨.v (.bool false), ⟨LV.le.bsV hk, rfl⟩, ?_⟩
      refine ⟨_, ⟨LV.le.refl _, rfl⟩, ?_⟩
      refine ⟨_, ⟨LV.le.refl _, rfl⟩, ?_⟩
      refine ⟨_, ⟨LV.le.refl _, rfl⟩, ?_⟩
      refine ⟨_, ⟨LV.le.refl _, rfl⟩, ?_⟩
      refine ⟨_, ⟨LV.le.refl _, rfl⟩, ?_⟩
      refine ⟨_, ⟨LV.le.refl _, rfl⟩, ?_⟩
      refine ⟨_, ⟨LV.le.refl _, rfl⟩, ?_⟩
      refine ⟨_, ⟨LV.le.refl _, rfl⟩, ?_⟩
      refine ⟨_, ⟨LV.le.refl _, rfl⟩, ?_⟩
      refine ⟨_, ⟨LV.le.refl _, rfl⟩, ?_⟩
      refine ⟨_, ⟨LV.le.refl _, rfl⟩, ?_⟩
      refine ⟨_, ⟨LV.le.refl _, rfl⟩, ?_⟩
      refine ⟨True.intro, ?_⟩
      exact ⟨j + 1, (by omega : j + 1 ≤ n0), (by omega : n0 - (j + 1) < n0 - j), .le ⟨rfl, ⟨rfl, Nat.le_refl _⟩, ⟨LV.le.int e11, rfl, LV.le.refl _, rfl, LV.le.refl _, rfl, trivial⟩, ⟨⟨_, rfl, LO.le.refl _⟩, rfl, rfl, ⟨_, rfl, LO.le.refl _⟩, rfl, rfl, trivial⟩⟩⟩
  · have hj : j ≤ n0 := hj
    obtain rfl : n0 = j := by have := dF h; omega
    refine ⟨Nat, fun j => ⟨[(12, .v (.int .i64 (j : Int))), (4, .lp 0 0), (10, .lp 4 0)], [(4, .box 35 [.v (.int .u64 c), .sl 2 n0 (kv b0), .sl 2 n1 (kv b1), .str r]), (0, .box 35 [.v (.int .u64 c), .sl 2 n0 (kv k0), .sl 2 n1 (kv k1), .str r])], 5, 0⟩, fun j => j ≤ n1, fun j => n1 - j, 0, Nat.zero_le _,
      .le ⟨rfl, ⟨rfl, Nat.le_refl _⟩, ⟨LV.le.refl _, rfl, LV.le.refl _, rfl, LV.le.refl _, rfl, trivial⟩, ⟨⟨_, rfl, LO.le.refl _⟩, rfl, rfl, ⟨_, rfl, LO.le.refl _⟩, rfl, rfl, trivial⟩⟩, fun j hj => ⟨fun h => ?_, fun h => ?_⟩⟩
    · have h := dT h
      have e11 : IntKind.i64.wrap ((j : Int) + 1) = ((j + 1 : Nat) : Int) := by rw [w64] <;> omega
      cases hk : (k1 j).1 with
      | true =>
        have ej := e1 j hk
        refine DrawA.run Tryd.tabOk Tryd.mixed [0, 1, 0, 7, 15, 31, 63, 127, 255, 127, 1023, 2047, 127, 4223, 127, 28799, 61567, 131071, 262143] [] rfl ?_
        refine ⟨_, ⟨LV.le.refl _, rfl⟩, ?_⟩
        refine ⟨_, ⟨LV.le.refl _, rfl⟩, ?_⟩
        refine ⟨_, ⟨LV.le.refl _, rfl⟩, ?_⟩
        refine ⟨_, ⟨⟨by omega, by omega⟩, LV.le.refl _, rfl⟩, ?_⟩
        refine ⟨_, ⟨LV.le.refl _, rfl⟩, ?_⟩
        refine ⟨_, ⟨LV.le.refl _, rfl⟩, ?_⟩
        refine ⟨.v (.bool true), ⟨LV.le.bsV hk, rfl⟩, ?_⟩
        refine ⟨_, ⟨LV.le.refl _, rfl⟩, ?_⟩
        refine ⟨_, ⟨LV.le.refl _, rfl⟩, ?_⟩
        refine ⟨_, ⟨LV.le.refl _, rfl⟩, ?_⟩
        refine ⟨_, ⟨⟨by omega, by omega⟩, LV.le.refl _, rfl⟩, ?_⟩
        refine ⟨_, ⟨LV.le.refl _, rfl⟩, ?_⟩
        refine ⟨_, ⟨LV.le.refl _, rfl⟩, ?_⟩
        refine ⟨_, ⟨LV.le.refl _, rfl⟩, ?_⟩
        refine ⟨_, ⟨LV.le.refl _, rfl⟩, ?_⟩
        refine ⟨_, ⟨⟨by omega, by omega⟩, LV.le.refl _, rfl⟩, ?_⟩
        refine ⟨_, ⟨LV.le.refl _, rfl⟩, ?_⟩
        refine ⟨.v (.bool false), ⟨_, eqF_kept (b1 j).1 (k1 j).1 (b1 j).2 (k1 j).2, LV.le.bsV (by rw [ej]; simp), rfl⟩, ?_⟩
        refine ⟨_, ⟨LV.le.refl _, rfl⟩, ?_⟩
        refine ⟨True.intro, ?_⟩
        exact ⟨j + 1, (by omega : j + 1 ≤ n1), (by omega : n1 - (j + 1) < n1 - j), .le ⟨rfl, ⟨rfl, Nat.le_refl _⟩, ⟨LV.le.int e11, rfl, LV.le.refl _, rfl, LV.le.refl _, rfl, trivial⟩, ⟨⟨_, rfl, LO.le.refl _⟩, rfl, rfl, ⟨_, rfl, LO.le.refl _⟩, rfl, rfl, trivial⟩⟩⟩
            | false =>
        refine DrawA.run Tryd.tabOk Tryd.mixed [0, 1, 0, 7, 15, 31, 63, 127, 255, 127, 1023, 2047, 127, 4223, 127, 28799, 61567, 131071, 262143] [] rfl ?_
        refine ⟨_, ⟨LV.le.refl _, rfl⟩, ?_⟩
        refine ⟨_, ⟨LV.le.refl _, rfl⟩, ?_⟩
        refine ⟨_, ⟨LV.le.refl _, rfl⟩, ?_⟩
        refine ⟨_, ⟨⟨by omega, by omega⟩, LV.le.refl _, rfl⟩, ?_⟩
        refine ⟨_, ⟨LV.le.refl _, rfl⟩, ?_⟩
        refine ⟨_, ⟨LV.le.refl _, rfl⟩, ?_⟩
        refine ⟨.v (.bool false), ⟨LV.le.bsV hk, rfl⟩, ?_⟩
        refine ⟨_, ⟨LV.le.refl _, rfl⟩, ?_⟩
        refine ⟨_, ⟨LV.le.refl _, rfl⟩, ?_⟩
        refine ⟨_, ⟨LV.le.refl _, rfl⟩, ?_⟩
        refine ⟨_, ⟨LV.le.refl _, rfl⟩, ?_⟩
        refine ⟨_, ⟨LV.le.refl _, rfl⟩, ?_⟩
        refine ⟨_, ⟨LV.le.refl _, rfl⟩, ?_⟩
        refine ⟨_, ⟨LV.le.refl _, rfl⟩, ?_⟩
        refine ⟨_, ⟨LV.le.refl _, rfl⟩, ?_⟩
        refine ⟨_, ⟨LV.le.refl _, rfl⟩, ?_⟩
        refine ⟨_, ⟨LV.le.refl _, rfl⟩, ?_⟩
        refine ⟨_, ⟨LV.le.refl _, rfl⟩, ?_⟩
        refine ⟨_, ⟨LV.le.refl _, rfl⟩, ?_⟩
        refine ⟨True.intro, ?_⟩
        exact ⟨j + 1, (by omega : j + 1 ≤ n1), (by omega : n1 - (j + 1) < n1 - j), .le ⟨rfl, ⟨rfl, Nat.le_refl _⟩, ⟨LV.le.int e11, rfl, LV.le.refl _, rfl, LV.le.refl _, rfl, trivial⟩, ⟨⟨_, rfl, LO.le.refl _⟩, rfl, rfl, ⟨_, rfl, LO.le.refl _⟩, rfl, rfl, trivial⟩⟩⟩
    · have hj : j ≤ n1 := hj
      obtain rfl : n1 = j := by have := dF h; omega
      exact ⟨LV.le.refl _, rfl⟩
end Go.Proofs.Aw

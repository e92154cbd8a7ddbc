/- A PART OF THE PROOF: an abstract run of the loaded code over value trees, and the functions walked by it. No condition of its own. -/
import Derived.Test.YtanmknmlphkeaaaDoorD2
namespace Go.Proofs.Aw
open Go Go.Proofs
set_option maxRecDepth 100000
/-- how many of the first n aren't kept -/
def cnt (k : KL) : Nat → Nat
  | 0 => 0
  | n + 1 => cnt k n + if (k n).1 then 0 else 1
theorem cnt_le (k : KL) : ∀ n, cnt k n ≤ n
  | 0 => Nat.le_refl _
  | n + 1 => by have := cnt_le k n; simp only [cnt]; split <;> omega
def shot (c : Int) (n0 n1 : Nat) (k0 k1 : KL) (r : List UInt8) : LV := .agg [.v (.int .u64 c), .sl 2 n0 (kv k0), .sl 2 n1 (kv k1), .str r]
theorem left_ct (c : Int) (n0 n1 : Nat) (k0 k1 : KL) (r : List UInt8) (h0 : n0 ≤ 400) (h1 : n1 ≤ 400) : Ct Tryd.prog 15 [shot c n0 n1 k0 k1 r] (.v (.int .i64 (cnt (catK n0 k0 k1) (n0 + n1) : Int))) := by
  refine Ct.enter Tryd.tabOk ft15 ?_
  refine CtN.callL (concat_ct n0 n1 k0 k1 h0 h1) rfl ?_ ?_
  · refine ⟨_, _, rfl, LV.le.sl rfl fun i hi => ?_, rfl⟩
    rcases (by omega : i = 0 ∨ i = 1) with rfl | rfl <;> rfl
  · refine ⟨Nat, fun j => ⟨[(13, .v (.int .i64 (j : Int))), (12, .v (.int .i64 ((n0 + n1 : Nat) : Int))), (11, .ls 2 (n0 + n1)), (3, .v (.int .i64 (cnt (catK n0 k0 k1) j : Int)))], [(2, .arr 48 2 (n0 + n1) (kv (catK n0 k0 k1)))], 3, 0⟩, fun j => j ≤ n0 + n1, fun j => n0 + n1 - j, 0, Nat.zero_le _,
      .le ⟨rfl, ⟨rfl, Nat.le_refl _⟩, ⟨LV.le.refl _, rfl, LV.le.refl _, rfl, LV.le.refl _, rfl, LV.le.refl _, rfl, trivial⟩, ⟨⟨_, rfl, LO.le.refl _⟩, rfl, rfl, trivial⟩⟩, fun j hj => ⟨fun h => ?_, fun h => ?_⟩⟩
    · have h := dT h
      refine ⟨⟨by omega, by omega⟩, ?_⟩
      have hjn : j < n0 + n1 := by omega
      have hcj := cnt_le (catK n0 k0 k1) j
      have e13 : IntKind.i64.wrap ((j : Int) + 1) = ((j + 1 : Nat) : Int) := by rw [w64] <;> omega
      refine ⟨fun hb => ⟨j + 1, hjn, (by omega : n0 + n1 - (j + 1) < n0 + n1 - j), .le ⟨rfl, ⟨rfl, Nat.le_of_ble_eq_true rfl⟩, ⟨LV.le.int e13, rfl, LV.le.refl _, rfl, LV.le.refl _, rfl, LV.le.int ?_, rfl, trivial⟩, ⟨⟨_, rfl, LO.le.refl _⟩, rfl, rfl, trivial⟩⟩⟩,
        fun hb => ⟨j + 1, hjn, (by omega : n0 + n1 - (j + 1) < n0 + n1 - j), .le ⟨rfl, ⟨rfl, Nat.le_of_ble_eq_true rfl⟩, ⟨LV.le.int e13, rfl, LV.le.refl _, rfl, LV.le.refl _, rfl, LV.le.int ?_, rfl, trivial⟩, ⟨⟨_, rfl, LO.le.refl _⟩, rfl, rfl, trivial⟩⟩⟩⟩
      · have hb : (!(catK n0 k0 k1 j).1) = true := hb
        have : (catK n0 k0 k1 j).1 = false := by simpa using hb
        rw [w64 (by omega) (by omega)]
        simp [cnt, this]
      · have hb : (!(catK n0 k0 k1 j).1) = false := hb
        have : (catK n0 k0 k1 j).1 = true := by simpa using hb
        simp [cnt, this]
    · have hj : j ≤ n0 + n1 := hj
      obtain rfl : j = n0 + n1 := by have := dF h; omega
      exact ⟨LV.le.refl _, rfl⟩
end Go.Proofs.Aw

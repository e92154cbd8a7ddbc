/- A PART OF THE PROOF: an abstract run of the loaded code over value trees, and the functions walked by it. No condition of its own. -/
import Derived.Test.YtanmknmlphkeaaaDoorD8
namespace Go.Proofs.Aw
open Go Go.Proofs
set_option maxHeartbeats 4000000
set_option maxRecDepth 100000
def imgV (a b : LV) (r : List UInt8) : LV := .agg [a, b, .str r]
theorem image_busy (c : Int) (n0 n1 : Nat) (k0 k1 : KL) (r : List UInt8) (h0 : n0 ≤ 400) (h1 : n1 ≤ 400) (hc : 0 < cnt (catK n0 k0 k1) (n0 + n1)) :
    Ct Tryd.prog 24 [shot c n0 n1 k0 k1 r] (.tup [imgV (.v (.slice none 0 0)) (.v (.slice none 0 0)) [], .v (.int .i64 12)]) := by
  refine Ct.enter Tryd.tabOk ft24 ?_
  refine Ct.callC (left_ct c n0 n1 k0 k1 r h0 h1) rfl (leL.refl _) ?_
  refine ⟨fun h => ?_, fun h => absurd (dF h) (by show ¬ ¬ (0 : Int) < (cnt (catK n0 k0 k1) (n0 + n1) : Int); omega)⟩
  exact ⟨LV.le.refl _, rfl⟩
def dat (k : KL) : TL := fun i => (k i).2
theorem bltF {i : Nat} : Nat.blt i i = false := by
  cases h : Nat.blt i i with
  | false => rfl
  | true => rw [Nat.blt_eq] at h; omega
theorem image_all (c : Int) (n0 n1 : Nat) (k0 k1 : KL) (r : List UInt8) (h0 : n0 ≤ 400) (h1 : n1 ≤ 400) (hc : cnt (catK n0 k0 k1) (n0 + n1) = 0) :
    Ct Tryd.prog 24 [shot c n0 n1 k0 k1 r] (.tup [imgV (.sl 1 n0 (tx (dat k0))) (.sl 1 n1 (tx (dat k1))) r, .v (.int .i64 0)]) := by
  refine Ct.enter Tryd.tabOk ft24 ?_
  refine Ct.callC (left_ct c n0 n1 k0 k1 r h0 h1) rfl (leL.refl _) ?_
  refine ⟨fun h => absurd (dT h) (by rw [hc]; decide), fun h => ?_⟩
  refine ⟨Nat, fun j => ⟨[(19, .v (.int .i64 (j : Int))), (18, .v (.int .i64 (n0 : Int))), (17, .sl 2 n0 (kv k0)), (1, .lp 0 0), (2, .lp 1 0), (4, .lp 2 0)],
      [(3, .arr 9 1 j (tx (dat k0))), (2, .box 25 [.ls 3 j, .v (.slice none 0 0), .str r]), (1, .box 25 [.v (.slice none 0 0), .v (.slice none 0 0), .str []]), (0, .box 35 [.v (.int .u64 c), .sl 2 n0 (kv k0), .sl 2 n1 (kv k1), .str r])], 4, 0⟩, fun j => j ≤ n0, fun j => n0 - j, 0, Nat.zero_le _,
      .own (ty := 9) (sz := 1) ⟨rfl, rfl, ⟨.refl _, rfl, .refl _, rfl, .refl _, rfl, .refl _, rfl, .refl _, rfl, .refl _, rfl, trivial⟩, ⟨⟨_, rfl, .of (LO.le.arr rfl fun i hi => absurd hi (by omega))⟩, rfl, rfl, ⟨_, rfl, .box ⟨_, _, rfl, .nil, _, _, rfl, .refl _, _, _, rfl, .refl _, rfl⟩⟩, rfl, rfl, ⟨_, rfl, .refl _⟩, rfl, rfl, ⟨_, rfl, .refl _⟩, rfl, rfl, trivial⟩⟩, fun j hj => ⟨fun h => ?_, fun h2 => ?_⟩⟩
  · have h := dT h
    have e11 : IntKind.i64.wrap ((j : Int) + 1) = ((j + 1 : Nat) : Int) := by rw [w64] <;> omega
    refine ⟨⟨by omega, by omega⟩, by show (j + 1) * 16 ≤ _; omega, by show j + 1 ≤ _; omega, ⟨j + 1, (by omega : j + 1 ≤ n0), (by omega : n0 - (j + 1) < n0 - j), .ren (a := 3) (b := 6) ⟨rfl, ⟨rfl, rfl, rfl, Nat.le_of_ble_eq_true rfl⟩, ⟨LV.le.int e11, rfl, LV.le.refl _, rfl, LV.le.refl _, rfl, LV.le.refl _, rfl, LV.le.refl _, rfl, LV.le.refl _, rfl, trivial⟩,
      ⟨⟨_, rfl, LO.le.arr rfl fun i hi => by
        rcases Nat.lt_or_ge i j with hlt | hge
        · have hb := Nat.blt_eq.mpr hlt
          dsimp only; rw [hb]
        · obtain rfl : i = j := by have : i < j + 1 := hi; omega
          dsimp only; rw [bltF, Nat.sub_self]; rfl⟩, rfl, rfl, ⟨_, rfl, LO.le.refl _⟩, rfl, rfl, ⟨_, rfl, LO.le.refl _⟩, rfl, rfl, ⟨_, rfl, LO.le.refl _⟩, rfl, rfl, trivial⟩⟩⟩⟩
  · have hj : j ≤ n0 := hj
    obtain rfl : j = n0 := by have := dF h2; omega
    refine ⟨Nat, fun i => ⟨[(34, .v (.int .i64 (i : Int))), (33, .v (.int .i64 (n1 : Int))), (32, .sl 2 n1 (kv k1)), (1, .lp 0 0), (2, .lp 1 0), (4, .lp 2 0)],
      [(4, .arr 9 1 i (tx (dat k1))), (3, .arr 9 1 j (tx (dat k0))), (2, .box 25 [.ls 3 j, .ls 4 i, .str r]), (1, .box 25 [.v (.slice none 0 0), .v (.slice none 0 0), .str []]), (0, .box 35 [.v (.int .u64 c), .sl 2 j (kv k0), .sl 2 n1 (kv k1), .str r])], 5, 0⟩, fun j => j ≤ n1, fun j => n1 - j, 0, Nat.zero_le _,
      .own (ty := 9) (sz := 1) ⟨rfl, rfl, ⟨.refl _, rfl, .refl _, rfl, .refl _, rfl, .refl _, rfl, .refl _, rfl, .refl _, rfl, trivial⟩, ⟨⟨_, rfl, .of (LO.le.arr rfl fun i hi => absurd hi (by omega))⟩, rfl, rfl, ⟨_, rfl, .refl _⟩, rfl, rfl, ⟨_, rfl, .box ⟨_, _, rfl, .refl _, _, _, rfl, .nil, _, _, rfl, .refl _, rfl⟩⟩, rfl, rfl, ⟨_, rfl, .refl _⟩, rfl, rfl, ⟨_, rfl, .refl _⟩, rfl, rfl, trivial⟩⟩, fun i hi => ⟨fun h => ?_, fun h3 => ?_⟩⟩
    · have h := dT h
      have e11 : IntKind.i64.wrap ((i : Int) + 1) = ((i + 1 : Nat) : Int) := by rw [w64] <;> omega
      refine ⟨⟨by omega, by omega⟩, by show (i + 1) * 16 ≤ _; omega, by show i + 1 ≤ _; omega, ⟨i + 1, (by omega : i + 1 ≤ n1), (by omega : n1 - (i + 1) < n1 - i), .ren (a := 4) (b := 7) ⟨rfl, ⟨rfl, rfl, rfl, Nat.le_of_ble_eq_true rfl⟩, ⟨LV.le.int e11, rfl, LV.le.refl _, rfl, LV.le.refl _, rfl, LV.le.refl _, rfl, LV.le.refl _, rfl, LV.le.refl _, rfl, trivial⟩,
        ⟨⟨_, rfl, LO.le.arr rfl fun q hq => by
        rcases Nat.lt_or_ge q i with hlt | hge
        · have hb := Nat.blt_eq.mpr hlt
          dsimp only; rw [hb]
        · obtain rfl : q = i := by have : q < i + 1 := hq; omega
          dsimp only; rw [bltF, Nat.sub_self]; rfl⟩, rfl, rfl, ⟨_, rfl, LO.le.refl _⟩, rfl, rfl, ⟨_, rfl, LO.le.refl _⟩, rfl, rfl, ⟨_, rfl, LO.le.refl _⟩, rfl, rfl, ⟨_, rfl, LO.le.refl _⟩, rfl, rfl, trivial⟩⟩⟩⟩
    · have hi : i ≤ n1 := hi
      obtain rfl : i = n1 := by have := dF h3; omega
      exact ⟨LV.le.refl _, rfl⟩
end Go.Proofs.Aw

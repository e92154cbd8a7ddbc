/- A PART OF THE PROOF: an abstract run of the loaded code over value trees, and the functions walked by it. No condition of its own. -/
import Derived.Test.YtanmknmlphkeaaaDoorD3
namespace Go.Proofs.Aw
open Go Go.Proofs
set_option maxRecDepth 100000
abbrev TL := Nat → List UInt8
def tx (w : TL) (i : Nat) : List LV := [.str (w i)]
/-- how many pages are still asked for behind the first i -/
def pN (k : KL) (M : Nat) (n : Int) : Nat → Int
  | 0 => n
  | i + 1 => if 0 < pN k M n i ∧ (k i).1 = false ∧ i < M then pN k M n i - 1 else pN k M n i
def pK (k : KL) (w : TL) (M : Nat) (n : Int) : KL := fun i => if 0 < pN k M n i ∧ (k i).1 = false ∧ i < M then (true, w i) else k i
def mix (a b : KL) (j : Nat) : KL := fun i => if i < j then a i else b i
theorem pN_le (k : KL) (M : Nat) (n : Int) : ∀ i, pN k M n i ≤ n
  | 0 => Int.le_refl _
  | i + 1 => by have := pN_le k M n i; simp only [pN]; split <;> omega
theorem mix_lt {a b : KL} {i j : Nat} (h : i < j) : kv (mix a b j) i = kv a i := by simp [kv, mix, h]
theorem mix_ge {a b : KL} {i j : Nat} (h : ¬ i < j) : kv (mix a b j) i = kv b i := by simp [kv, mix, h]
theorem pump1 (a0 a1 a3 a4 a5 : LO) (u0 : a0.under 6 = true) (u1 : a1.under 6 = true) (u3 : a3.under 6 = true) (u4 : a4.under 6 = true) (u5 : a5.under 6 = true) (env : List (Nat × LV)) (low : Nat) (n : Int) (L M : Nat) (k : KL) (w : TL) (hL : L ≤ 400) (hM : M ≤ 400) (hn : n ≤ 9223372036854775807)
    {K : LV → St → Prop} {kp : Value → St → Prop}
    (h : K (.sl 2 L (kv (pK k w M n))) ⟨env, [(5, a5), (4, a4), (3, a3), (2, .box 3 [.v (.int .i64 (pN k M n L))]), (1, a1), (0, a0)], 6, low⟩) :
    CallA Tryd.prog 28 [.sl 2 L (kv k), .sl 1 M (tx w), .lp 2 0] K kp ⟨env, [(5, a5), (4, a4), (3, a3), (2, .box 3 [.v (.int .i64 n)]), (1, a1), (0, a0)], 6, low⟩ := by
  have v0 := LO.under_mono (Nat.le_succ 6) u0
  have v1 := LO.under_mono (Nat.le_succ 6) u1
  have v3 := LO.under_mono (Nat.le_succ 6) u3
  have v4 := LO.under_mono (Nat.le_succ 6) u4
  have v5 := LO.under_mono (Nat.le_succ 6) u5
  refine CallA.bodyS Tryd.tabOk ft28 ?_
  refine CtN.call (clone_ct L k hL) rfl ?_
  refine ⟨Nat, fun j => ⟨[(11, .v (.int .i64 (j : Int))), (10, .v (.int .i64 (L : Int))), (0, .ls 6 L), (1, .sl 1 M (tx w)), (2, .lp 2 0)],
      [(6, .arr 48 2 L (kv (mix (pK k w M n) k j))), (5, a5), (4, a4), (3, a3), (2, .box 3 [.v (.int .i64 (pN k M n j))]), (1, a1), (0, a0)], 7, 6⟩, fun j => j ≤ L, fun j => L - j, 0, Nat.zero_le _,
      .le ⟨rfl, ⟨rfl, Nat.le_refl _⟩, ⟨LV.le.refl _, rfl, LV.le.refl _, rfl, LV.le.refl _, rfl, LV.le.refl _, rfl, LV.le.refl _, rfl, trivial⟩, ⟨⟨_, rfl, LO.le.arr rfl fun i hi => rfl⟩, rfl, rfl, ⟨_, rfl, LO.le.refl _⟩, rfl, v5, ⟨_, rfl, LO.le.refl _⟩, rfl, v4, ⟨_, rfl, LO.le.refl _⟩, rfl, v3, ⟨_, rfl, LO.le.refl _⟩, rfl, rfl, ⟨_, rfl, LO.le.refl _⟩, rfl, v1, ⟨_, rfl, LO.le.refl _⟩, rfl, v0, trivial⟩⟩, fun j hj => ⟨fun h => ?_, fun h2 => ?_⟩⟩
  · have h := dT h
    have hjn : j < L := by omega
    have e11 : IntKind.i64.wrap ((j : Int) + 1) = ((j + 1 : Nat) : Int) := by rw [w64] <;> omega
    have hpn := pN_le k M n j
    -- nothing more is kept here
    have stay : ¬ (0 < pN k M n j ∧ (k j).1 = false ∧ j < M) → pN k M n j = pN k M n (j + 1) ∧ ∀ i, kv (mix (pK k w M n) k j) i = kv (mix (pK k w M n) k (j + 1)) i := by
      intro hc
      refine ⟨by simp only [pN]; rw [if_neg hc], fun i => ?_⟩
      by_cases h1 : i < j
      · rw [mix_lt h1, mix_lt (by omega)]
      · rw [mix_ge h1]
        by_cases h2 : i < j + 1
        · obtain rfl : i = j := by omega
          rw [mix_lt h2]
          simp [kv, pK, hc]
        · rw [mix_ge h2]
    have mk : (mix (pK k w M n) k j j).1 = (k j).1 := by simp [mix]
    refine ⟨fun h1 => ⟨⟨by omega, by omega⟩, fun h2 => ⟨fun h3 => ?_, fun h3 => ?_⟩, fun h2 => ?_⟩, fun h1 => ?_⟩
    · have h3 := dT h3
      have hcond : 0 < pN k M n j ∧ (k j).1 = false ∧ j < M := ⟨dT h1, by
        have h2 : (!(mix (pK k w M n) k j j).1) = true := h2
        rw [mk] at h2; simpa using h2, by omega⟩
      have eN : pN k M n (j + 1) = pN k M n j - 1 := by simp only [pN]; rw [if_pos hcond]
      refine ⟨⟨by omega, by omega⟩, ⟨by omega, by omega⟩, ⟨j + 1, hjn, (by omega : L - (j + 1) < L - j), .le ⟨rfl, ⟨rfl, Nat.le_of_ble_eq_true rfl⟩, ⟨LV.le.int e11, rfl, LV.le.refl _, rfl, LV.le.refl _, rfl, LV.le.refl _, rfl, LV.le.refl _, rfl, trivial⟩,
        ⟨⟨_, rfl, LO.le.arrL rfl fun i hi => ?_⟩, rfl, rfl, ⟨_, rfl, LO.le.refl _⟩, rfl, v5, ⟨_, rfl, LO.le.refl _⟩, rfl, v4, ⟨_, rfl, LO.le.refl _⟩, rfl, v3, ⟨_, rfl, LO.le.box ⟨_, _, rfl, LV.le.int ?_, rfl⟩⟩, rfl, rfl, ⟨_, rfl, LO.le.refl _⟩, rfl, v1, ⟨_, rfl, LO.le.refl _⟩, rfl, v0, trivial⟩⟩⟩⟩
      · show leL (match Nat.beq i j with | true => [.v (.bool true), .str (w j)] | false => kv (mix (pK k w M n) k j) i) _
        by_cases e : i = j
        · subst e
          rw [beqT, mix_lt (Nat.lt_succ_self i)]
          have : kv (pK k w M n) i = [.bs true, .str (w i)] := by simp [kv, pK, hcond]
          rw [this]
          exact ⟨_, _, rfl, LV.le.bs true, leL.refl _⟩
        · rw [beqF e]
          refine leL.of ?_
          by_cases h1 : i < j
          · rw [mix_lt h1, mix_lt (by omega)]
          · rw [mix_ge h1, mix_ge (by omega)]
      · show IntKind.i64.wrap (pN k M n j - 1) = _
        rw [w64 (by have := hcond.1; omega) (by omega), eN]
    · have hc := stay fun hc => absurd (dF h3) (by have := hc.2.2; omega)
      exact ⟨j + 1, hjn, (by omega : L - (j + 1) < L - j), .le ⟨rfl, ⟨rfl, Nat.le_of_ble_eq_true rfl⟩, ⟨LV.le.int e11, rfl, LV.le.refl _, rfl, LV.le.refl _, rfl, LV.le.refl _, rfl, LV.le.refl _, rfl, trivial⟩,
        ⟨⟨_, rfl, LO.le.arr rfl fun i hi => hc.2 i⟩, rfl, rfl, ⟨_, rfl, LO.le.refl _⟩, rfl, v5, ⟨_, rfl, LO.le.refl _⟩, rfl, v4, ⟨_, rfl, LO.le.refl _⟩, rfl, v3, ⟨_, rfl, LO.le.box ⟨_, _, rfl, LV.le.int hc.1, rfl⟩⟩, rfl, rfl, ⟨_, rfl, LO.le.refl _⟩, rfl, v1, ⟨_, rfl, LO.le.refl _⟩, rfl, v0, trivial⟩⟩⟩
    · have hc := stay fun hc => by
        have h2 : (!(mix (pK k w M n) k j j).1) = false := h2
        rw [mk, hc.2.1] at h2; cases h2
      exact ⟨j + 1, hjn, (by omega : L - (j + 1) < L - j), .le ⟨rfl, ⟨rfl, Nat.le_of_ble_eq_true rfl⟩, ⟨LV.le.int e11, rfl, LV.le.refl _, rfl, LV.le.refl _, rfl, LV.le.refl _, rfl, LV.le.refl _, rfl, trivial⟩,
        ⟨⟨_, rfl, LO.le.arr rfl fun i hi => hc.2 i⟩, rfl, rfl, ⟨_, rfl, LO.le.refl _⟩, rfl, v5, ⟨_, rfl, LO.le.refl _⟩, rfl, v4, ⟨_, rfl, LO.le.refl _⟩, rfl, v3, ⟨_, rfl, LO.le.box ⟨_, _, rfl, LV.le.int hc.1, rfl⟩⟩, rfl, rfl, ⟨_, rfl, LO.le.refl _⟩, rfl, v1, ⟨_, rfl, LO.le.refl _⟩, rfl, v0, trivial⟩⟩⟩
    · have hc := stay fun hc => absurd (dF h1) (by have := hc.1; omega)
      exact ⟨j + 1, hjn, (by omega : L - (j + 1) < L - j), .le ⟨rfl, ⟨rfl, Nat.le_of_ble_eq_true rfl⟩, ⟨LV.le.int e11, rfl, LV.le.refl _, rfl, LV.le.refl _, rfl, LV.le.refl _, rfl, LV.le.refl _, rfl, trivial⟩,
        ⟨⟨_, rfl, LO.le.arr rfl fun i hi => hc.2 i⟩, rfl, rfl, ⟨_, rfl, LO.le.refl _⟩, rfl, v5, ⟨_, rfl, LO.le.refl _⟩, rfl, v4, ⟨_, rfl, LO.le.refl _⟩, rfl, v3, ⟨_, rfl, LO.le.box ⟨_, _, rfl, LV.le.int hc.1, rfl⟩⟩, rfl, rfl, ⟨_, rfl, LO.le.refl _⟩, rfl, v1, ⟨_, rfl, LO.le.refl _⟩, rfl, v0, trivial⟩⟩⟩
  · have hj : j ≤ L := hj
    obtain rfl : j = L := by have := dF h2; omega
    refine ⟨⟨rfl, rfl, ?_⟩, _, LV.le.slL rfl fun i hi => leL.of (mix_lt hi), h⟩
    show (a5.under 6 && (a4.under 6 && (a3.under 6 && (true && (a1.under 6 && (a0.under 6 && true)))))) = true
    rw [u0, u1, u3, u4, u5]
    rfl
end Go.Proofs.Aw

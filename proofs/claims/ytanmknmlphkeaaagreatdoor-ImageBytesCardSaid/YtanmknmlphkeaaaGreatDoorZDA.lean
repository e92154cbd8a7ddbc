/- A PART OF THE PROOF: an abstract run of the loaded code over value trees, and the functions walked by it. No condition of its own. -/
import Derived.Test.YtanmknmlphkeaaaGreatDoorZ0
import Derived.Test.YtanmknmlphkeaaaGreatDoorZG1
namespace Go.Proofs.Aw
open Go Go.Proofs
set_option maxRecDepth 100000
abbrev KL := Nat → Bool × List UInt8
def kv (k : KL) (i : Nat) : List LV := [.bs (k i).1, .str (k i).2]
theorem kv_flat (k : KL) (i : Nat) : flatL (kv k i) = true := rfl
theorem clone_ct (n : Nat) (k : KL) (hn : n ≤ 400) : CtN Tryz.prog 61 [.sl 2 n (kv k)] 101 2 n (kv k) := by
  refine CtN.enter Tryz.tabOk ft61 (fun i _ => kv_flat k i) ?_
  refine fun q hq => ⟨fun h => hq h, fun h => ⟨by show (0 + n) * 24 ≤ _; omega, by omega, ⟨rfl, rfl, ?_⟩, fun i _ => rfl⟩⟩
  exact Nat.zero_add n
end Go.Proofs.Aw
namespace Go.Proofs.Aw
open Go Go.Proofs
set_option maxRecDepth 100000
theorem w64 {z : Int} (h0 : -9223372036854775808 ≤ z) (h1 : z ≤ 9223372036854775807) : IntKind.i64.wrap z = z := by
  rw [IntKind.wrap_i64]; omega
theorem dT {p : Prop} [Decidable p] (h : decide p = true) : p := of_decide_eq_true h
theorem dF {p : Prop} [Decidable p] (h : decide p = false) : ¬ p := of_decide_eq_false h
/-- two lists, as a slice of slices -/
def twoA (n0 n1 : Nat) (k0 k1 : KL) (i : Nat) : List LV := match Nat.beq i 0 with
  | true => [.sl 2 n0 (kv k0)]
  | false => [.sl 2 n1 (kv k1)]
def tot (n0 n1 : Nat) (j : Nat) : Nat := match Nat.beq j 0 with
  | true => 0
  | false => match Nat.beq j 1 with
    | true => n0
    | false => n0 + n1
def catK (n0 : Nat) (k0 k1 : KL) : KL := fun i => if i < n0 then k0 i else k1 (i - n0)
theorem catK_lt {n0 i : Nat} {k0 k1 : KL} (h : i < n0) : kv (catK n0 k0 k1) i = kv k0 i := by simp [kv, catK, h]
theorem catK_ge {n0 i : Nat} {k0 k1 : KL} (h : ¬ i < n0) : kv (catK n0 k0 k1) i = kv k1 (i - n0) := by simp [kv, catK, h]
theorem concat_ct (n0 n1 : Nat) (k0 k1 : KL) (h0 : n0 ≤ 400) (h1 : n1 ≤ 400) : CtN Tryz.prog 58 [.sl 1 2 (twoA n0 n1 k0 k1)] 101 2 (n0 + n1) (kv (catK n0 k0 k1)) := by
  refine CtN.enter Tryz.tabOk ft58 (fun i _ => kv_flat _ i) ?_
  refine ⟨Nat, fun j => ⟨[(11, .v (.int .i64 (j : Int))), (10, .v (.int .i64 2)), (9, .sl 1 2 (twoA n0 n1 k0 k1)), (3, .v (.int .i64 (tot n0 n1 j : Int))), (0, .sl 1 2 (twoA n0 n1 k0 k1))], [], 0, 0⟩, fun j => j ≤ 2, fun j => 2 - j, 0, Nat.zero_le _,
    .le ⟨rfl, ⟨rfl, Nat.le_refl _⟩, ⟨LV.le.refl _, rfl, LV.le.refl _, rfl, LV.le.refl _, rfl, LV.le.refl _, rfl, LV.le.refl _, rfl, trivial⟩, trivial⟩, fun j hj => ⟨fun h => ?_, fun h => ?_⟩⟩
  · have h := dT h
    refine ⟨⟨by omega, by omega⟩, ?_⟩
    rcases (by omega : j = 0 ∨ j = 1) with rfl | rfl
    · have e : IntKind.i64.wrap ((tot n0 n1 0 : Int) + (n0 : Int)) = n0 := by rw [w64] <;> simp [tot] <;> omega
      refine ⟨fun h2 => absurd (dT h2) (by show ¬ IntKind.i64.wrap ((tot n0 n1 0 : Int) + (n0 : Int)) < 0; omega), fun _ => ⟨1, (by omega : 1 ≤ 2), (by omega : 2 - 1 < 2 - 0), .le ⟨rfl, ⟨rfl, Nat.le_refl _⟩, ⟨LV.le.refl _, rfl, LV.le.refl _, rfl, LV.le.refl _, rfl, LV.le.int e, rfl, LV.le.refl _, rfl, trivial⟩, trivial⟩⟩⟩
    · have e : IntKind.i64.wrap ((tot n0 n1 1 : Int) + (n1 : Int)) = (tot n0 n1 2 : Int) := by rw [w64] <;> simp [tot] <;> omega
      have e3 : (0 : Int) ≤ (tot n0 n1 2 : Int) := by omega
      refine ⟨fun h2 => absurd (dT h2) (by show ¬ IntKind.i64.wrap ((tot n0 n1 1 : Int) + (n1 : Int)) < 0; omega), fun _ => ⟨2, (by omega : 2 ≤ 2), (by omega : 2 - 2 < 2 - 1), .le ⟨rfl, ⟨rfl, Nat.le_refl _⟩, ⟨LV.le.refl _, rfl, LV.le.refl _, rfl, LV.le.refl _, rfl, LV.le.int e, rfl, LV.le.refl _, rfl, trivial⟩, trivial⟩⟩⟩
  · obtain rfl : j = 2 := by have := dF h; omega
    refine CtN.call (grow_ct (n0 + n1) (by omega)) rfl ?_
    refine ⟨Nat, fun j => ⟨[(27, .v (.int .i64 (j : Int))), (26, .v (.int .i64 2)), (25, .sl 1 2 (twoA n0 n1 k0 k1)), (6, .ls j (tot n0 n1 j))], [(j, .arr 101 2 (tot n0 n1 j) (kv (catK n0 k0 k1)))], j + 1, 0⟩, fun j => j ≤ 2, fun j => 2 - j, 0, Nat.zero_le _,
      .le ⟨rfl, ⟨rfl, Nat.le_refl _⟩, ⟨LV.le.refl _, rfl, LV.le.refl _, rfl, LV.le.refl _, rfl, LV.le.refl _, rfl, trivial⟩, ⟨⟨_, rfl, LO.le.arr rfl fun i hi => absurd hi (by omega)⟩, rfl, rfl, trivial⟩⟩, fun j hj => ⟨fun h => ?_, fun h => ?_⟩⟩
    · have h := dT h
      refine ⟨⟨by omega, by omega⟩, ?_⟩
      rcases (by omega : j = 0 ∨ j = 1) with rfl | rfl
      · refine ⟨by show (tot n0 n1 0 + n0) * 24 ≤ _; simp only [tot]; omega, by simp only [tot]; omega, ⟨1, (by omega : 1 ≤ 2), (by omega : 2 - 1 < 2 - 0), .le ⟨rfl, ⟨rfl, Nat.le_refl _⟩, ⟨LV.le.refl _, rfl, LV.le.refl _, rfl, LV.le.refl _, rfl, ?_, rfl, trivial⟩, ⟨⟨_, rfl, LO.le.arr ?_ fun i hi => ?_⟩, rfl, rfl, trivial⟩⟩⟩⟩
        · exact LV.le.eq (congrArg (LV.ls 1) (Nat.zero_add n0))
        · exact Nat.zero_add n0
        · rw [catK_lt (by have : i < 0 + n0 := hi; omega)]; rfl
      · refine ⟨by show (tot n0 n1 1 + n1) * 24 ≤ _; simp only [tot]; omega, by simp only [tot]; omega, ⟨2, (by omega : 2 ≤ 2), (by omega : 2 - 2 < 2 - 1), .le ⟨rfl, ⟨rfl, Nat.le_refl _⟩, ⟨LV.le.refl _, rfl, LV.le.refl _, rfl, LV.le.refl _, rfl, LV.le.refl _, rfl, trivial⟩, ⟨⟨_, rfl, LO.le.arr rfl fun i hi => ?_⟩, rfl, rfl, trivial⟩⟩⟩⟩
        show (match Nat.blt i n0 with | true => kv (catK n0 k0 k1) i | false => kv k1 (i - n0)) = _
        cases hb : Nat.blt i n0 with
        | true => rfl
        | false =>
          show kv k1 (i - n0) = _
          rw [catK_ge]
          intro h; rw [Nat.blt_eq.mpr h] at hb; cases hb
    · obtain rfl : j = 2 := by have := dF h; omega
      exact ⟨⟨rfl, rfl, rfl⟩, fun i _ => rfl⟩
end Go.Proofs.Aw
namespace Go.Proofs.Aw
open Go Go.Proofs
set_option maxRecDepth 100000
/-- how many of the first n aren't kept -/
def cnt (k : KL) : Nat → Nat
  | 0 => 0
  | n + 1 => cnt k n + if (k n).1 then 0 else 1
theorem cnt_le (k : KL) : ∀ n, cnt k n ≤ n
  | 0 => Nat.le_refl _
  | n + 1 => by have := cnt_le k n; simp only [cnt]; split <;> omega
def shot (c : Int) (n0 n1 : Nat) (k0 k1 : KL) (r : List UInt8) : LV := .agg [.v (.int .u64 c), .sl 2 n0 (kv k0), .sl 2 n1 (kv k1), .str r]
theorem left_ct (c : Int) (n0 n1 : Nat) (k0 k1 : KL) (r : List UInt8) (h0 : n0 ≤ 400) (h1 : n1 ≤ 400) : Ct Tryz.prog 21 [shot c n0 n1 k0 k1 r] (.v (.int .i64 (cnt (catK n0 k0 k1) (n0 + n1) : Int))) := by
  refine Ct.enter Tryz.tabOk ft21 ?_
  refine CtN.callL (concat_ct n0 n1 k0 k1 h0 h1) rfl ?_ ?_
  · refine ⟨_, _, rfl, LV.le.sl rfl fun i hi => ?_, rfl⟩
    rcases (by omega : i = 0 ∨ i = 1) with rfl | rfl <;> rfl
  · refine ⟨Nat, fun j => ⟨[(13, .v (.int .i64 (j : Int))), (12, .v (.int .i64 ((n0 + n1 : Nat) : Int))), (11, .ls 2 (n0 + n1)), (3, .v (.int .i64 (cnt (catK n0 k0 k1) j : Int)))], [(2, .arr 101 2 (n0 + n1) (kv (catK n0 k0 k1)))], 3, 0⟩, fun j => j ≤ n0 + n1, fun j => n0 + n1 - j, 0, Nat.zero_le _,
      .le ⟨rfl, ⟨rfl, Nat.le_refl _⟩, ⟨LV.le.refl _, rfl, LV.le.refl _, rfl, LV.le.refl _, rfl, LV.le.refl _, rfl, trivial⟩, ⟨⟨_, rfl, LO.le.refl _⟩, rfl, rfl, trivial⟩⟩, fun j hj => ⟨fun h => ?_, fun h => ?_⟩⟩
    · have h := dT h
      refine ⟨⟨by omega, by omega⟩, ?_⟩
      have hjn : j < n0 + n1 := by omega
      have hcj := cnt_le (catK n0 k0 k1) j
      have e13 : IntKind.i64.wrap ((j : Int) + 1) = ((j + 1 : Nat) : Int) := by rw [w64] <;> omega
      refine ⟨fun hb => ⟨j + 1, hjn, (by omega : n0 + n1 - (j + 1) < n0 + n1 - j), .le ⟨rfl, ⟨rfl, Nat.le_of_ble_eq_true rfl⟩, ⟨LV.le.int e13, rfl, LV.le.refl _, rfl, LV.le.refl _, rfl, LV.le.int ?_, rfl, trivial⟩, ⟨⟨_, rfl, LO.le.refl _⟩, rfl, rfl, trivial⟩⟩⟩,
        fun hb => ⟨j + 1, hjn, (by omega : n0 + n1 - (j + 1) < n0 + n1 - j), .le ⟨rfl, ⟨rfl, Nat.le_of_ble_eq_true rfl⟩, ⟨LV.le.int e13, rfl, LV.le.refl _, rfl, LV.le.refl _, rfl, LV.le.int ?_, rfl, trivial⟩, ⟨⟨_, rfl, LO.le.refl _⟩, rfl, rfl, trivial⟩⟩⟩⟩
      · have hb : (!(catK n0 k0 k1 j).1) = true := hb
        have : (catK n0 k0 k1 j).1 = false := by simpa using hb
        rw [w64 (by omega) (by omega)]
        simp [cnt, this]
      · have hb : (!(catK n0 k0 k1 j).1) = false := hb
        have : (catK n0 k0 k1 j).1 = true := by simpa using hb
        simp [cnt, this]
    · have hj : j ≤ n0 + n1 := hj
      obtain rfl : j = n0 + n1 := by have := dF h; omega
      exact ⟨LV.le.refl _, rfl⟩
end Go.Proofs.Aw
namespace Go.Proofs.Aw
open Go Go.Proofs
set_option maxRecDepth 100000
abbrev TL := Nat → List UInt8
def tx (w : TL) (i : Nat) : List LV := [.str (w i)]
/-- how many pages are still asked for behind the first i -/
def pN (k : KL) (M : Nat) (n : Int) : Nat → Int
  | 0 => n
  | i + 1 => if 0 < pN k M n i ∧ (k i).1 = false ∧ i < M then pN k M n i - 1 else pN k M n i
def pK (k : KL) (w : TL) (M : Nat) (n : Int) : KL := fun i => if 0 < pN k M n i ∧ (k i).1 = false ∧ i < M then (true, w i) else k i
def mix (a b : KL) (j : Nat) : KL := fun i => if i < j then a i else b i
theorem pN_le (k : KL) (M : Nat) (n : Int) : ∀ i, pN k M n i ≤ n
  | 0 => Int.le_refl _
  | i + 1 => by have := pN_le k M n i; simp only [pN]; split <;> omega
theorem mix_lt {a b : KL} {i j : Nat} (h : i < j) : kv (mix a b j) i = kv a i := by simp [kv, mix, h]
theorem mix_ge {a b : KL} {i j : Nat} (h : ¬ i < j) : kv (mix a b j) i = kv b i := by simp [kv, mix, h]
theorem pump1 (a0 a1 a3 a4 a5 : LO) (u0 : a0.under 6 = true) (u1 : a1.under 6 = true) (u3 : a3.under 6 = true) (u4 : a4.under 6 = true) (u5 : a5.under 6 = true) (env : List (Nat × LV)) (low : Nat) (n : Int) (L M : Nat) (k : KL) (w : TL) (hL : L ≤ 400) (hM : M ≤ 400) (hn : n ≤ 9223372036854775807)
    {K : LV → St → Prop} {kp : Value → St → Prop}
    (h : K (.sl 2 L (kv (pK k w M n))) ⟨env, [(5, a5), (4, a4), (3, a3), (2, .box 3 [.v (.int .i64 (pN k M n L))]), (1, a1), (0, a0)], 6, low⟩) :
    CallA Tryz.prog 64 [.sl 2 L (kv k), .sl 1 M (tx w), .lp 2 0] K kp ⟨env, [(5, a5), (4, a4), (3, a3), (2, .box 3 [.v (.int .i64 n)]), (1, a1), (0, a0)], 6, low⟩ := by
  have v0 := LO.under_mono (Nat.le_succ 6) u0
  have v1 := LO.under_mono (Nat.le_succ 6) u1
  have v3 := LO.under_mono (Nat.le_succ 6) u3
  have v4 := LO.under_mono (Nat.le_succ 6) u4
  have v5 := LO.under_mono (Nat.le_succ 6) u5
  refine CallA.bodyS Tryz.tabOk ft64 ?_
  refine CtN.call (clone_ct L k hL) rfl ?_
  refine ⟨Nat, fun j => ⟨[(11, .v (.int .i64 (j : Int))), (10, .v (.int .i64 (L : Int))), (0, .ls 6 L), (1, .sl 1 M (tx w)), (2, .lp 2 0)],
      [(6, .arr 101 2 L (kv (mix (pK k w M n) k j))), (5, a5), (4, a4), (3, a3), (2, .box 3 [.v (.int .i64 (pN k M n j))]), (1, a1), (0, a0)], 7, 6⟩, fun j => j ≤ L, fun j => L - j, 0, Nat.zero_le _,
      .le ⟨rfl, ⟨rfl, Nat.le_refl _⟩, ⟨LV.le.refl _, rfl, LV.le.refl _, rfl, LV.le.refl _, rfl, LV.le.refl _, rfl, LV.le.refl _, rfl, trivial⟩, ⟨⟨_, rfl, LO.le.arr rfl fun i hi => rfl⟩, rfl, rfl, ⟨_, rfl, LO.le.refl _⟩, rfl, v5, ⟨_, rfl, LO.le.refl _⟩, rfl, v4, ⟨_, rfl, LO.le.refl _⟩, rfl, v3, ⟨_, rfl, LO.le.refl _⟩, rfl, rfl, ⟨_, rfl, LO.le.refl _⟩, rfl, v1, ⟨_, rfl, LO.le.refl _⟩, rfl, v0, trivial⟩⟩, fun j hj => ⟨fun h => ?_, fun h2 => ?_⟩⟩
  · have h := dT h
    have hjn : j < L := by omega
    have e11 : IntKind.i64.wrap ((j : Int) + 1) = ((j + 1 : Nat) : Int) := by rw [w64] <;> omega
    have hpn := pN_le k M n j
    -- nothing more is kept here
    have stay : ¬ (0 < pN k M n j ∧ (k j).1 = false ∧ j < M) → pN k M n j = pN k M n (j + 1) ∧ ∀ i, kv (mix (pK k w M n) k j) i = kv (mix (pK k w M n) k (j + 1)) i := by
      intro hc
      refine ⟨by simp only [pN]; rw [if_neg hc], fun i => ?_⟩
      by_cases h1 : i < j
      · rw [mix_lt h1, mix_lt (by omega)]
      · rw [mix_ge h1]
        by_cases h2 : i < j + 1
        · obtain rfl : i = j := by omega
          rw [mix_lt h2]
          simp [kv, pK, hc]
        · rw [mix_ge h2]
    have mk : (mix (pK k w M n) k j j).1 = (k j).1 := by simp [mix]
    refine ⟨fun h1 => ⟨⟨by omega, by omega⟩, fun h2 => ⟨fun h3 => ?_, fun h3 => ?_⟩, fun h2 => ?_⟩, fun h1 => ?_⟩
    · have h3 := dT h3
      have hcond : 0 < pN k M n j ∧ (k j).1 = false ∧ j < M := ⟨dT h1, by
        have h2 : (!(mix (pK k w M n) k j j).1) = true := h2
        rw [mk] at h2; simpa using h2, by omega⟩
      have eN : pN k M n (j + 1) = pN k M n j - 1 := by simp only [pN]; rw [if_pos hcond]
      refine ⟨⟨by omega, by omega⟩, ⟨by omega, by omega⟩, ⟨j + 1, hjn, (by omega : L - (j + 1) < L - j), .le ⟨rfl, ⟨rfl, Nat.le_of_ble_eq_true rfl⟩, ⟨LV.le.int e11, rfl, LV.le.refl _, rfl, LV.le.refl _, rfl, LV.le.refl _, rfl, LV.le.refl _, rfl, trivial⟩,
        ⟨⟨_, rfl, LO.le.arrL rfl fun i hi => ?_⟩, rfl, rfl, ⟨_, rfl, LO.le.refl _⟩, rfl, v5, ⟨_, rfl, LO.le.refl _⟩, rfl, v4, ⟨_, rfl, LO.le.refl _⟩, rfl, v3, ⟨_, rfl, LO.le.box ⟨_, _, rfl, LV.le.int ?_, rfl⟩⟩, rfl, rfl, ⟨_, rfl, LO.le.refl _⟩, rfl, v1, ⟨_, rfl, LO.le.refl _⟩, rfl, v0, trivial⟩⟩⟩⟩
      · show leL (match Nat.beq i j with | true => [.v (.bool true), .str (w j)] | false => kv (mix (pK k w M n) k j) i) _
        by_cases e : i = j
        · subst e
          rw [beqT, mix_lt (Nat.lt_succ_self i)]
          have : kv (pK k w M n) i = [.bs true, .str (w i)] := by simp [kv, pK, hcond]
          rw [this]
          exact ⟨_, _, rfl, LV.le.bs true, leL.refl _⟩
        · rw [beqF e]
          refine leL.of ?_
          by_cases h1 : i < j
          · rw [mix_lt h1, mix_lt (by omega)]
          · rw [mix_ge h1, mix_ge (by omega)]
      · show IntKind.i64.wrap (pN k M n j - 1) = _
        rw [w64 (by have := hcond.1; omega) (by omega), eN]
    · have hc := stay fun hc => absurd (dF h3) (by have := hc.2.2; omega)
      exact ⟨j + 1, hjn, (by omega : L - (j + 1) < L - j), .le ⟨rfl, ⟨rfl, Nat.le_of_ble_eq_true rfl⟩, ⟨LV.le.int e11, rfl, LV.le.refl _, rfl, LV.le.refl _, rfl, LV.le.refl _, rfl, LV.le.refl _, rfl, trivial⟩,
        ⟨⟨_, rfl, LO.le.arr rfl fun i hi => hc.2 i⟩, rfl, rfl, ⟨_, rfl, LO.le.refl _⟩, rfl, v5, ⟨_, rfl, LO.le.refl _⟩, rfl, v4, ⟨_, rfl, LO.le.refl _⟩, rfl, v3, ⟨_, rfl, LO.le.box ⟨_, _, rfl, LV.le.int hc.1, rfl⟩⟩, rfl, rfl, ⟨_, rfl, LO.le.refl _⟩, rfl, v1, ⟨_, rfl, LO.le.refl _⟩, rfl, v0, trivial⟩⟩⟩
    · have hc := stay fun hc => by
        have h2 : (!(mix (pK k w M n) k j j).1) = false := h2
        rw [mk, hc.2.1] at h2; cases h2
      exact ⟨j + 1, hjn, (by omega : L - (j + 1) < L - j), .le ⟨rfl, ⟨rfl, Nat.le_of_ble_eq_true rfl⟩, ⟨LV.le.int e11, rfl, LV.le.refl _, rfl, LV.le.refl _, rfl, LV.le.refl _, rfl, LV.le.refl _, rfl, trivial⟩,
        ⟨⟨_, rfl, LO.le.arr rfl fun i hi => hc.2 i⟩, rfl, rfl, ⟨_, rfl, LO.le.refl _⟩, rfl, v5, ⟨_, rfl, LO.le.refl _⟩, rfl, v4, ⟨_, rfl, LO.le.refl _⟩, rfl, v3, ⟨_, rfl, LO.le.box ⟨_, _, rfl, LV.le.int hc.1, rfl⟩⟩, rfl, rfl, ⟨_, rfl, LO.le.refl _⟩, rfl, v1, ⟨_, rfl, LO.le.refl _⟩, rfl, v0, trivial⟩⟩⟩
    · have hc := stay fun hc => absurd (dF h1) (by have := hc.1; omega)
      exact ⟨j + 1, hjn, (by omega : L - (j + 1) < L - j), .le ⟨rfl, ⟨rfl, Nat.le_of_ble_eq_true rfl⟩, ⟨LV.le.int e11, rfl, LV.le.refl _, rfl, LV.le.refl _, rfl, LV.le.refl _, rfl, LV.le.refl _, rfl, trivial⟩,
        ⟨⟨_, rfl, LO.le.arr rfl fun i hi => hc.2 i⟩, rfl, rfl, ⟨_, rfl, LO.le.refl _⟩, rfl, v5, ⟨_, rfl, LO.le.refl _⟩, rfl, v4, ⟨_, rfl, LO.le.refl _⟩, rfl, v3, ⟨_, rfl, LO.le.box ⟨_, _, rfl, LV.le.int hc.1, rfl⟩⟩, rfl, rfl, ⟨_, rfl, LO.le.refl _⟩, rfl, v1, ⟨_, rfl, LO.le.refl _⟩, rfl, v0, trivial⟩⟩⟩
  · have hj : j ≤ L := hj
    obtain rfl : j = L := by have := dF h2; omega
    refine ⟨⟨rfl, rfl, ?_⟩, _, LV.le.slL rfl fun i hi => leL.of (mix_lt hi), h⟩
    show (a5.under 6 && (a4.under 6 && (a3.under 6 && (true && (a1.under 6 && (a0.under 6 && true)))))) = true
    rw [u0, u1, u3, u4, u5]
    rfl
end Go.Proofs.Aw
namespace Go.Proofs.Aw
open Go Go.Proofs
set_option maxRecDepth 100000
/-- what a step turned is kept -/
def wK (k : KL) (w w' : TL) (M M' : Nat) : KL := fun i => if i < M ∧ (k i).1 = false ∧ (M' ≤ i ∨ w' i ≠ w i) then (true, w i) else k i
theorem mix_keep {a b : KL} {j : Nat} {d : List UInt8} (ha : a j = (true, d)) (i : Nat) : leL (match Nat.beq i j with | true => [.v (.bool true), .str d] | false => kv (mix a b j) i) (kv (mix a b (j + 1)) i) := by
  by_cases e : i = j
  · subst e
    rw [beqT, mix_lt (Nat.lt_succ_self i)]
    have : kv a i = [.bs true, .str d] := by simp [kv, ha]
    rw [this]
    exact ⟨_, _, rfl, LV.le.bs true, leL.refl _⟩
  · rw [beqF e]
    refine leL.of ?_
    by_cases h1 : i < j
    · rw [mix_lt h1, mix_lt (by omega)]
    · rw [mix_ge h1, mix_ge (by omega)]
theorem mix_stay {a b : KL} {j : Nat} (ha : a j = b j) (i : Nat) : kv (mix a b j) i = kv (mix a b (j + 1)) i := by
  by_cases h1 : i < j
  · rw [mix_lt h1, mix_lt (by omega)]
  · rw [mix_ge h1]
    by_cases h2 : i < j + 1
    · obtain rfl : i = j := by omega
      rw [mix_lt h2]; simp [kv, ha]
    · rw [mix_ge h2]
theorem mix_all {a b : KL} {L M : Nat} (hb : ∀ i, M ≤ i → a i = b i) (i : Nat) : kv (mix a b M) i = kv a i := by
  by_cases h : i < M
  · rw [mix_lt h]
  · rw [mix_ge h]; simp [kv, hb i (by omega)]
theorem went1 (L M M' : Nat) (k : KL) (w w' : TL) (hL : L ≤ 400) (hM : M ≤ 400) (hM' : M' ≤ 400) :
    Ct Tryz.prog 60 [.sl 2 L (kv k), .agg [.sl 1 M (tx w), .sl 1 M' (tx w')]] (.sl 2 L (kv (wK k w w' M M'))) := by
  refine Ct.enter Tryz.tabOk ft60 ?_
  refine CtN.call (clone_ct L k hL) rfl ?_
  refine ⟨Nat, fun j => ⟨[(12, .v (.int .i64 (j : Int))), (11, .v (.int .i64 (M : Int))), (10, .sl 1 M (tx w)), (0, .ls 1 L), (3, .lp 0 0)],
      [(1, .arr 101 2 L (kv (mix (wK k w w' M M') k j))), (0, .box 104 [.sl 1 M (tx w), .sl 1 M' (tx w')])], 2, 0⟩, fun j => j ≤ M, fun j => M - j, 0, Nat.zero_le _,
      .le ⟨rfl, ⟨rfl, Nat.le_refl _⟩, ⟨LV.le.refl _, rfl, LV.le.refl _, rfl, LV.le.refl _, rfl, LV.le.refl _, rfl, LV.le.refl _, rfl, trivial⟩, ⟨⟨_, rfl, LO.le.arr rfl fun i hi => rfl⟩, rfl, rfl, ⟨_, rfl, LO.le.refl _⟩, rfl, rfl, trivial⟩⟩, fun j hj => ⟨fun h => ?_, fun h2 => ?_⟩⟩
  · have h := dT h
    have e11 : IntKind.i64.wrap ((j : Int) + 1) = ((j + 1 : Nat) : Int) := by rw [w64] <;> omega
    have mk : (!(mix (wK k w w' M M') k j j).1) = !(k j).1 := by simp [mix]
    have keep : (k j).1 = false → (M' ≤ j ∨ w' j ≠ w j) → wK k w w' M M' j = (true, w j) := fun h1 h2 => by
      unfold wK; rw [if_pos ⟨by omega, h1, h2⟩]
    have stay : ¬ (j < M ∧ (k j).1 = false ∧ (M' ≤ j ∨ w' j ≠ w j)) → wK k w w' M M' j = k j := fun h1 => by
      unfold wK; rw [if_neg h1]
    refine ⟨⟨by omega, by omega⟩, fun h1 => ⟨⟨by omega, by have := dT h1; omega⟩, fun h2 => ⟨fun h3 => ⟨⟨by omega, by have := dT h1; omega⟩, ?_⟩, fun h3 => ⟨⟨by omega, by have := dF h3; omega⟩, fun h4 => ⟨⟨by omega, by have := dT h1; omega⟩, ?_⟩, fun h4 => ?_⟩⟩, fun h2 => ?_⟩, fun h1 => ?_⟩
    · have h2 := mk.symm.trans h2
      exact ⟨j + 1, (by omega : j + 1 ≤ M), (by omega : M - (j + 1) < M - j), .le ⟨rfl, ⟨rfl, Nat.le_of_ble_eq_true rfl⟩, ⟨LV.le.int e11, rfl, LV.le.refl _, rfl, LV.le.refl _, rfl, LV.le.refl _, rfl, LV.le.refl _, rfl, trivial⟩,
        ⟨⟨_, rfl, LO.le.arrL rfl fun i hi => mix_keep (keep (by simpa using h2) (.inl (by have := dT h3; omega))) i⟩, rfl, rfl, ⟨_, rfl, LO.le.refl _⟩, rfl, rfl, trivial⟩⟩⟩
    · have h2 := mk.symm.trans h2
      have h4 : (w' j != w j) = true := h4
      exact ⟨j + 1, (by omega : j + 1 ≤ M), (by omega : M - (j + 1) < M - j), .le ⟨rfl, ⟨rfl, Nat.le_of_ble_eq_true rfl⟩, ⟨LV.le.int e11, rfl, LV.le.refl _, rfl, LV.le.refl _, rfl, LV.le.refl _, rfl, LV.le.refl _, rfl, trivial⟩,
        ⟨⟨_, rfl, LO.le.arrL rfl fun i hi => mix_keep (keep (by simpa using h2) (.inr (by simpa using h4))) i⟩, rfl, rfl, ⟨_, rfl, LO.le.refl _⟩, rfl, rfl, trivial⟩⟩⟩
    · have h4 : (w' j != w j) = false := h4
      exact ⟨j + 1, (by omega : j + 1 ≤ M), (by omega : M - (j + 1) < M - j), .le ⟨rfl, ⟨rfl, Nat.le_of_ble_eq_true rfl⟩, ⟨LV.le.int e11, rfl, LV.le.refl _, rfl, LV.le.refl _, rfl, LV.le.refl _, rfl, LV.le.refl _, rfl, trivial⟩,
        ⟨⟨_, rfl, LO.le.arr rfl fun i hi => mix_stay (stay fun ⟨_, _, hc⟩ => by have := dF h3; rcases hc with hc | hc; omega; exact hc (by simpa using h4)) i⟩, rfl, rfl, ⟨_, rfl, LO.le.refl _⟩, rfl, rfl, trivial⟩⟩⟩
    · have h2 := mk.symm.trans h2
      exact ⟨j + 1, (by omega : j + 1 ≤ M), (by omega : M - (j + 1) < M - j), .le ⟨rfl, ⟨rfl, Nat.le_of_ble_eq_true rfl⟩, ⟨LV.le.int e11, rfl, LV.le.refl _, rfl, LV.le.refl _, rfl, LV.le.refl _, rfl, LV.le.refl _, rfl, trivial⟩,
        ⟨⟨_, rfl, LO.le.arr rfl fun i hi => mix_stay (stay fun ⟨_, hc, _⟩ => by rw [hc] at h2; cases h2) i⟩, rfl, rfl, ⟨_, rfl, LO.le.refl _⟩, rfl, rfl, trivial⟩⟩⟩
    · exact ⟨j + 1, (by omega : j + 1 ≤ M), (by omega : M - (j + 1) < M - j), .le ⟨rfl, ⟨rfl, Nat.le_of_ble_eq_true rfl⟩, ⟨LV.le.int e11, rfl, LV.le.refl _, rfl, LV.le.refl _, rfl, LV.le.refl _, rfl, LV.le.refl _, rfl, trivial⟩,
        ⟨⟨_, rfl, LO.le.arr rfl fun i hi => by
          have hi : i < L := hi
          have h1 := dF h1
          rw [mix_lt (by omega), mix_lt (by omega)]⟩, rfl, rfl, ⟨_, rfl, LO.le.refl _⟩, rfl, rfl, trivial⟩⟩⟩
  · have hj : j ≤ M := hj
    obtain rfl : j = M := by have := dF h2; omega
    exact ⟨LV.le.slL rfl fun i hi => leL.of (mix_all (L := L) (fun i hi => by unfold wK; rw [if_neg (by omega)]) i), rfl⟩
end Go.Proofs.Aw
namespace Go.Proofs.Aw
open Go Go.Proofs
set_option maxRecDepth 100000
theorem went_both (c : Int) (n0 n1 M0 M0' M1 M1' : Nat) (k0 k1 : KL) (r : List UInt8) (w0 w0' w1 w1' : TL) (h0 : n0 ≤ 400) (h1 : n1 ≤ 400) (hM0 : M0 ≤ 400) (hM0' : M0' ≤ 400) (hM1 : M1 ≤ 400) (hM1' : M1' ≤ 400) :
    Ct Tryz.prog 62 [.agg [.sl 1 M0 (tx w0), .sl 1 M0' (tx w0')], .agg [.sl 1 M1 (tx w1), .sl 1 M1' (tx w1')], .v (.func (.func 60) #[] #[]), shot c n0 n1 k0 k1 r] (shot c n0 n1 (wK k0 w0 w0' M0 M0') (wK k1 w1 w1' M1 M1') r) := by
  refine Ct.enter Tryz.tabOk ft62 ?_
  refine DrawA.run Tryz.tabOk Tryz.mixed [0, 0, 2, 0, 15, 0, 0, 64, 0, 511, 223, 2047, 4095, 8191] [11, 13] rfl ?_
  refine ⟨_, ⟨LV.le.refl _, rfl⟩, ?_⟩
  refine ⟨_, ⟨LV.le.refl _, rfl⟩, ?_⟩
  refine ⟨_, ⟨LV.le.refl _, rfl⟩, ?_⟩
  refine ⟨_, ⟨LV.le.refl _, rfl⟩, ?_⟩
  refine ⟨_, Ct.callC (went1 n0 M0 M0' k0 w0 w0' h0 hM0 hM0') rfl (leL.refl _) ⟨LV.le.refl _, rfl⟩, ?_⟩
  refine ⟨_, ⟨LV.le.refl _, rfl⟩, ?_⟩
  refine ⟨_, ⟨LV.le.refl _, rfl⟩, ?_⟩
  refine ⟨_, ⟨LV.le.refl _, rfl⟩, ?_⟩
  refine ⟨_, ⟨LV.le.refl _, rfl⟩, ?_⟩
  refine ⟨_, Ct.callC (went1 n1 M1 M1' k1 w1 w1' h1 hM1 hM1') rfl (leL.refl _) ⟨LV.le.refl _, rfl⟩, ?_⟩
  refine ⟨_, ⟨LV.le.refl _, rfl⟩, ?_⟩
  refine ⟨_, _, ⟨LV.le.refl _, rfl⟩, ?_⟩
  refine ⟨_, ⟨LV.le.refl _, rfl⟩, ?_⟩
  refine ⟨_, _, ⟨LV.le.refl _, rfl⟩, ?_⟩
  refine ⟨trivial, ?_⟩
  exact ⟨LV.le.refl _, rfl⟩
/-- a machine of which only these are asked -/
def macK (M0 M1 : Nat) (w0 w1 : TL) : List LV := [.any, .any, .any, .any, .sl 1 M0 (tx w0), .any, .any, .any, .any, .any, .any, .any, .any, .sl 1 M1 (tx w1), .any, .any, .any]
theorem went_ct (c : Int) (n0 n1 M0 M0' M1 M1' : Nat) (k0 k1 : KL) (r : List UInt8) (w0 w0' w1 w1' : TL) (h0 : n0 ≤ 400) (h1 : n1 ≤ 400) (hM0 : M0 ≤ 400) (hM0' : M0' ≤ 400) (hM1 : M1 ≤ 400) (hM1' : M1' ≤ 400) :
    Ct Tryz.prog 23 [shot c n0 n1 k0 k1 r, .agg (macK M0 M1 w0 w1), .agg (macK M0' M1' w0' w1')] (shot c n0 n1 (wK k0 w0 w0' M0 M0') (wK k1 w1 w1' M1 M1') r) := by
  refine Ct.enter Tryz.tabOk ft23 ?_
  refine Ct.callC (went_both c n0 n1 M0 M0' M1 M1' k0 k1 r w0 w0' w1 w1' h0 h1 hM0 hM0' hM1 hM1') rfl (leL.refl _) ?_
  exact ⟨LV.le.refl _, rfl⟩
end Go.Proofs.Aw
namespace Go.Proofs.Aw
open Go Go.Proofs
set_option maxHeartbeats 4000000
set_option maxRecDepth 100000
theorem pump_ct (c n : Int) (n0 n1 M0 M1 : Nat) (k0 k1 : KL) (r : List UInt8) (w0 w1 : TL) (h0 : n0 ≤ 400) (h1 : n1 ≤ 400) (hM0 : M0 ≤ 400) (hM1 : M1 ≤ 400) (hn : n ≤ 9223372036854775807) :
    Ct Tryz.prog 25 [shot c n0 n1 k0 k1 r, .agg (macK M0 M1 w0 w1), .v (.int .i64 n)] (shot c n0 n1 (pK k0 w0 M0 n) (pK k1 w1 M1 (pN k0 M0 n n0)) r) := by
  have hn2 : pN k0 M0 n n0 ≤ 9223372036854775807 := by have := pN_le k0 M0 n n0; omega
  refine Ct.enter Tryz.tabOk ft25 ?_
  refine CallA.body Tryz.tabOk ft65 ?_
  refine DrawA.run Tryz.tabOk Tryz.mixed [0, 0, 2, 0, 15, 0, 0, 64, 0, 511, 223, 2047, 4095, 8191] [4, 9, 11, 13] rfl ?_
  refine ⟨_, ⟨LV.le.refl _, rfl⟩, ?_⟩
  refine ⟨_, ⟨LV.le.refl _, rfl⟩, ?_⟩
  refine ⟨_, ⟨LV.le.refl _, rfl⟩, ?_⟩
  refine ⟨_, ⟨LV.le.refl _, rfl⟩, ?_⟩
  refine ⟨_, _, pump1 _ _ _ _ _ rfl rfl rfl rfl rfl _ _ n n0 M0 k0 w0 h0 hM0 hn ⟨LV.le.refl _, rfl⟩, ?_⟩
  refine ⟨_, ⟨LV.le.refl _, rfl⟩, ?_⟩
  refine ⟨_, ⟨LV.le.refl _, rfl⟩, ?_⟩
  refine ⟨_, ⟨LV.le.refl _, rfl⟩, ?_⟩
  refine ⟨_, ⟨LV.le.refl _, rfl⟩, ?_⟩
  refine ⟨_, _, pump1 _ _ _ _ _ rfl rfl rfl rfl rfl _ _ (pN k0 M0 n n0) n1 M1 k1 w1 h1 hM1 hn2 ⟨LV.le.refl _, rfl⟩, ?_⟩
  refine ⟨_, ⟨LV.le.refl _, rfl⟩, ?_⟩
  refine ⟨_, _, ⟨LV.le.refl _, rfl⟩, ?_⟩
  refine ⟨_, ⟨LV.le.refl _, rfl⟩, ?_⟩
  refine ⟨_, _, ⟨LV.le.refl _, rfl⟩, ?_⟩
  refine ⟨?_, ?_⟩
  · refine ⟨⟨⟨LV.le.refl _, rfl⟩, trivial, trivial⟩, ?_⟩
    refine ⟨⟨⟨LV.le.refl _, rfl⟩, trivial, trivial⟩, ?_⟩
    refine ⟨⟨⟨LV.le.refl _, rfl⟩, trivial, trivial⟩, ?_⟩
    refine ⟨⟨⟨LV.le.refl _, rfl⟩, trivial, trivial⟩, ?_⟩
    refine ⟨⟨⟨LV.le.refl _, rfl⟩, trivial, trivial⟩, ?_⟩
    exact True.intro
  exact ⟨LV.le.refl _, rfl⟩
end Go.Proofs.Aw

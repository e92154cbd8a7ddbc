/- A PART OF THE PROOF: an abstract run of the loaded code over value trees, and the functions walked by it. No condition of its own. -/
import Derived.Test.YtanmknmlphkeaaaDoorD4
namespace Go.Proofs.Aw
open Go Go.Proofs
set_option maxRecDepth 100000
/-- what a step turned is kept -/
def wK (k : KL) (w w' : TL) (M M' : Nat) : KL := fun i => if i < M ∧ (k i).1 = false ∧ (M' ≤ i ∨ w' i ≠ w i) then (true, w i) else k i
theorem mix_keep {a b : KL} {j : Nat} {d : List UInt8} (ha : a j = (true, d)) (i : Nat) : leL (match Nat.beq i j with | true => [.v (.bool true), .str d] | false => kv (mix a b j) i) (kv (mix a b (j + 1)) i) := by
  by_cases e : i = j
  · subst e
    rw [beqT, mix_lt (Nat.lt_succ_self i)]
    have : kv a i = [.bs true, .str d] := by simp [kv, ha]
    rw [this]
    exact ⟨_, _, rfl, LV.le.bs true, leL.refl _⟩
  · rw [beqF e]
    refine leL.of ?_
    by_cases h1 : i < j
    · rw [mix_lt h1, mix_lt (by omega)]
    · rw [mix_ge h1, mix_ge (by omega)]
theorem mix_stay {a b : KL} {j : Nat} (ha : a j = b j) (i : Nat) : kv (mix a b j) i = kv (mix a b (j + 1)) i := by
  by_cases h1 : i < j
  · rw [mix_lt h1, mix_lt (by omega)]
  · rw [mix_ge h1]
    by_cases h2 : i < j + 1
    · obtain rfl : i = j := by omega
      rw [mix_lt h2]; simp [kv, ha]
    · rw [mix_ge h2]
theorem mix_all {a b : KL} {L M : Nat} (hb : ∀ i, M ≤ i → a i = b i) (i : Nat) : kv (mix a b M) i = kv a i := by
  by_cases h : i < M
  · rw [mix_lt h]
  · rw [mix_ge h]; simp [kv, hb i (by omega)]
theorem went1 (L M M' : Nat) (k : KL) (w w' : TL) (hL : L ≤ 400) (hM : M ≤ 400) (hM' : M' ≤ 400) :
    Ct Tryd.prog 25 [.sl 2 L (kv k), .agg [.sl 1 M (tx w), .sl 1 M' (tx w')]] (.sl 2 L (kv (wK k w w' M M'))) := by
  refine Ct.enter Tryd.tabOk ft25 ?_
  refine CtN.call (clone_ct L k hL) rfl ?_
  refine ⟨Nat, fun j => ⟨[(12, .v (.int .i64 (j : Int))), (11, .v (.int .i64 (M : Int))), (10, .sl 1 M (tx w)), (0, .ls 1 L), (3, .lp 0 0)],
      [(1, .arr 48 2 L (kv (mix (wK k w w' M M') k j))), (0, .box 65 [.sl 1 M (tx w), .sl 1 M' (tx w')])], 2, 0⟩, fun j => j ≤ M, fun j => M - j, 0, Nat.zero_le _,
      .le ⟨rfl, ⟨rfl, Nat.le_refl _⟩, ⟨LV.le.refl _, rfl, LV.le.refl _, rfl, LV.le.refl _, rfl, LV.le.refl _, rfl, LV.le.refl _, rfl, trivial⟩, ⟨⟨_, rfl, LO.le.arr rfl fun i hi => rfl⟩, rfl, rfl, ⟨_, rfl, LO.le.refl _⟩, rfl, rfl, trivial⟩⟩, fun j hj => ⟨fun h => ?_, fun h2 => ?_⟩⟩
  · have h := dT h
    have e11 : IntKind.i64.wrap ((j : Int) + 1) = ((j + 1 : Nat) : Int) := by rw [w64] <;> omega
    have mk : (!(mix (wK k w w' M M') k j j).1) = !(k j).1 := by simp [mix]
    have keep : (k j).1 = false → (M' ≤ j ∨ w' j ≠ w j) → wK k w w' M M' j = (true, w j) := fun h1 h2 => by
      unfold wK; rw [if_pos ⟨by omega, h1, h2⟩]
    have stay : ¬ (j < M ∧ (k j).1 = false ∧ (M' ≤ j ∨ w' j ≠ w j)) → wK k w w' M M' j = k j := fun h1 => by
      unfold wK; rw [if_neg h1]
    refine ⟨⟨by omega, by omega⟩, fun h1 => ⟨⟨by omega, by have := dT h1; omega⟩, fun h2 => ⟨fun h3 => ⟨⟨by omega, by have := dT h1; omega⟩, ?_⟩, fun h3 => ⟨⟨by omega, by have := dF h3; omega⟩, fun h4 => ⟨⟨by omega, by have := dT h1; omega⟩, ?_⟩, fun h4 => ?_⟩⟩, fun h2 => ?_⟩, fun h1 => ?_⟩
    · have h2 := mk.symm.trans h2
      exact ⟨j + 1, (by omega : j + 1 ≤ M), (by omega : M - (j + 1) < M - j), .le ⟨rfl, ⟨rfl, Nat.le_of_ble_eq_true rfl⟩, ⟨LV.le.int e11, rfl, LV.le.refl _, rfl, LV.le.refl _, rfl, LV.le.refl _, rfl, LV.le.refl _, rfl, trivial⟩,
        ⟨⟨_, rfl, LO.le.arrL rfl fun i hi => mix_keep (keep (by simpa using h2) (.inl (by have := dT h3; omega))) i⟩, rfl, rfl, ⟨_, rfl, LO.le.refl _⟩, rfl, rfl, trivial⟩⟩⟩
    · have h2 := mk.symm.trans h2
      have h4 : (w' j != w j) = true := h4
      exact ⟨j + 1, (by omega : j + 1 ≤ M), (by omega : M - (j + 1) < M - j), .le ⟨rfl, ⟨rfl, Nat.le_of_ble_eq_true rfl⟩, ⟨LV.le.int e11, rfl, LV.le.refl _, rfl, LV.le.refl _, rfl, LV.le.refl _, rfl, LV.le.refl _, rfl, trivial⟩,
        ⟨⟨_, rfl, LO.le.arrL rfl fun i hi => mix_keep (keep (by simpa using h2) (.inr (by simpa using h4))) i⟩, rfl, rfl, ⟨_, rfl, LO.le.refl _⟩, rfl, rfl, trivial⟩⟩⟩
    · have h4 : (w' j != w j) = false := h4
      exact ⟨j + 1, (by omega : j + 1 ≤ M), (by omega : M - (j + 1) < M - j), .le ⟨rfl, ⟨rfl, Nat.le_of_ble_eq_true rfl⟩, ⟨LV.le.int e11, rfl, LV.le.refl _, rfl, LV.le.refl _, rfl, LV.le.refl _, rfl, LV.le.refl _, rfl, trivial⟩,
        ⟨⟨_, rfl, LO.le.arr rfl fun i hi => mix_stay (stay fun ⟨_, _, hc⟩ => by have := dF h3; rcases hc with hc | hc; omega; exact hc (by simpa using h4)) i⟩, rfl, rfl, ⟨_, rfl, LO.le.refl _⟩, rfl, rfl, trivial⟩⟩⟩
    · have h2 := mk.symm.trans h2
      exact ⟨j + 1, (by omega : j + 1 ≤ M), (by omega : M - (j + 1) < M - j), .le ⟨rfl, ⟨rfl, Nat.le_of_ble_eq_true rfl⟩, ⟨LV.le.int e11, rfl, LV.le.refl _, rfl, LV.le.refl _, rfl, LV.le.refl _, rfl, LV.le.refl _, rfl, trivial⟩,
        ⟨⟨_, rfl, LO.le.arr rfl fun i hi => mix_stay (stay fun ⟨_, hc, _⟩ => by rw [hc] at h2; cases h2) i⟩, rfl, rfl, ⟨_, rfl, LO.le.refl _⟩, rfl, rfl, trivial⟩⟩⟩
    · exact ⟨j + 1, (by omega : j + 1 ≤ M), (by omega : M - (j + 1) < M - j), .le ⟨rfl, ⟨rfl, Nat.le_of_ble_eq_true rfl⟩, ⟨LV.le.int e11, rfl, LV.le.refl _, rfl, LV.le.refl _, rfl, LV.le.refl _, rfl, LV.le.refl _, rfl, trivial⟩,
        ⟨⟨_, rfl, LO.le.arr rfl fun i hi => by
          have hi : i < L := hi
          have h1 := dF h1
          rw [mix_lt (by omega), mix_lt (by omega)]⟩, rfl, rfl, ⟨_, rfl, LO.le.refl _⟩, rfl, rfl, trivial⟩⟩⟩
  · have hj : j ≤ M := hj
    obtain rfl : j = M := by have := dF h2; omega
    exact ⟨LV.le.slL rfl fun i hi => leL.of (mix_all (L := L) (fun i hi => by unfold wK; rw [if_neg (by omega)]) i), rfl⟩
end Go.Proofs.Aw

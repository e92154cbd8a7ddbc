/- A PART OF THE PROOF: an abstract run of the loaded code over value trees, and the functions walked by it. No condition of its own. -/
import Derived.Test.YtanmknmlphkeaaaGreatDoorZDB
namespace Go.Proofs.Aw
open Go Go.Proofs
set_option maxHeartbeats 8000000
set_option maxRecDepth 100000
theorem kept_ct (n : Nat) (a b : KL) (hn : n ≤ 400) (h : ∀ i, i < n → a i = b i) : Ct Tryz.prog 54 [.sl 2 n (kv a), .sl 2 n (kv b)] (.v (.bool true)) := by
  refine Ct.enter Tryz.tabOk ft54 ?_
  refine ⟨fun h => absurd h (by simp), fun _ => ?_⟩
  refine ⟨Nat, fun j => ⟨[(5, .v (.int .i64 (j : Int))), (0, .sl 2 n (kv a)), (1, .sl 2 n (kv b))], [], 0, 0⟩, fun j => j ≤ n, fun j => n - j, 0, Nat.zero_le _,
    .le ⟨rfl, ⟨rfl, Nat.le_refl _⟩, ⟨LV.le.refl _, rfl, LV.le.refl _, rfl, LV.le.refl _, rfl, trivial⟩, trivial⟩, fun j hj => ⟨fun h1 => ?_, fun h1 => ?_⟩⟩
  · have h1 := dT h1
    have ej := h j (by omega)
    have e11 : IntKind.i64.wrap ((j : Int) + 1) = ((j + 1 : Nat) : Int) := by rw [w64] <;> omega
    refine DrawA.run Tryz.tabOk Tryz.mixed [0, 0, 3, 7, 0, 0, 48, 112, 255] [] rfl ?_
    refine ⟨_, ⟨LV.le.refl _, rfl⟩, ?_⟩
    refine ⟨_, ⟨LV.le.refl _, rfl⟩, ?_⟩
    refine ⟨_, ⟨⟨by omega, by omega⟩, LV.le.refl _, rfl⟩, ?_⟩
    refine ⟨_, ⟨LV.le.refl _, rfl⟩, ?_⟩
    refine ⟨_, ⟨LV.le.refl _, rfl⟩, ?_⟩
    refine ⟨_, ⟨LV.le.refl _, rfl⟩, ?_⟩
    refine ⟨_, ⟨⟨by omega, by omega⟩, LV.le.refl _, rfl⟩, ?_⟩
    refine ⟨_, ⟨LV.le.refl _, rfl⟩, ?_⟩
    refine ⟨.v (.bool false), ⟨_, eqF_kept (a j).1 (b j).1 (a j).2 (b j).2, LV.le.bsV (by rw [ej]; simp), rfl⟩, ?_⟩
    refine ⟨True.intro, ?_⟩
    exact ⟨j + 1, (by omega : j + 1 ≤ n), (by omega : n - (j + 1) < n - j), .le ⟨rfl, ⟨rfl, Nat.le_refl _⟩, ⟨LV.le.int e11, rfl, LV.le.refl _, rfl, LV.le.refl _, rfl, trivial⟩, trivial⟩⟩
  · exact ⟨LV.le.refl _, rfl⟩
theorem same_ct (c : Int) (n0 n1 : Nat) (a0 a1 b0 b1 : KL) (r : List UInt8) (h0 : n0 ≤ 400) (h1 : n1 ≤ 400) (e0 : ∀ i, i < n0 → a0 i = b0 i) (e1 : ∀ i, i < n1 → a1 i = b1 i) :
    Ct Tryz.prog 18 [shot c n0 n1 a0 a1 r, shot c n0 n1 b0 b1 r] (.v (.bool true)) := by
  refine Ct.enter Tryz.tabOk ft18 ?_
  refine ⟨fun _ => ?_, fun h => absurd h (by simp)⟩
  refine ⟨fun _ => ?_, fun h => absurd h (by simp)⟩
  refine Ct.callC (kept_ct n0 a0 b0 h0 e0) rfl (leL.refl _) ?_
  refine Ct.callC (kept_ct n1 a1 b1 h1 e1) rfl (leL.refl _) ?_
  exact ⟨LV.le.refl _, rfl⟩
end Go.Proofs.Aw
namespace Go.Proofs.Aw
open Go Go.Proofs
theorem pN_nonneg {k : KL} {M : Nat} {n : Int} (hn : 0 ≤ n) : ∀ x, 0 ≤ pN k M n x
  | 0 => hn
  | x + 1 => by have := pN_nonneg (k := k) (M := M) hn x; simp only [pN]; split <;> omega
/-- so many and so many more are as many at once -/
theorem pN_add {k : KL} {w : TL} {M : Nat} {i j : Int} (hi : 0 ≤ i) (hj : 0 ≤ j) : ∀ x, pN k M (i + j) x = pN k M i x + pN (pK k w M i) M j x
  | 0 => rfl
  | x + 1 => by
    have ih := pN_add (k := k) (w := w) (M := M) hi hj x
    have p0 := pN_nonneg (k := k) (M := M) hi x
    have q0 := pN_nonneg (k := pK k w M i) (M := M) hj x
    simp only [pN]
    by_cases ho : (k x).1 = false ∧ x < M
    · by_cases hp : 0 < pN k M i x
      · have hc : 0 < pN k M i x ∧ (k x).1 = false ∧ x < M := ⟨hp, ho⟩
        have hk : (pK k w M i x).1 = true := by unfold pK; rw [if_pos hc]
        rw [if_pos (show 0 < pN k M (i + j) x ∧ _ from ⟨by omega, ho⟩), if_pos hc, if_neg (fun h => by rw [hk] at h; exact absurd h.2.1 (by simp))]
        omega
      · have hk : pK k w M i x = k x := by unfold pK; rw [if_neg fun h => hp h.1]
        rw [if_neg (show ¬ (0 < pN k M i x ∧ _) from fun h => hp h.1), hk]
        by_cases hq : 0 < pN (pK k w M i) M j x
        · rw [if_pos (show 0 < pN k M (i + j) x ∧ _ from ⟨by omega, ho⟩), if_pos ⟨hq, ho⟩]; omega
        · rw [if_neg fun h => hq (by omega), if_neg fun h => hq h.1]; omega
    · rw [if_neg fun h => ho h.2, if_neg fun h => ho h.2]
      have hk : pK k w M i x = k x := by unfold pK; rw [if_neg fun h => ho h.2]
      rw [hk, if_neg fun h => ho h.2]
      omega
theorem pK_add {k : KL} {w : TL} {M : Nat} {i j : Int} (hi : 0 ≤ i) (hj : 0 ≤ j) (x : Nat) : pK (pK k w M i) w M j x = pK k w M (i + j) x := by
  have ih := pN_add (k := k) (w := w) (M := M) hi hj x
  have p0 := pN_nonneg (k := k) (M := M) hi x
  have q0 := pN_nonneg (k := pK k w M i) (M := M) hj x
  by_cases ho : (k x).1 = false ∧ x < M
  · by_cases hp : 0 < pN k M i x
    · have hc : 0 < pN k M i x ∧ (k x).1 = false ∧ x < M := ⟨hp, ho⟩
      have hk : pK k w M i x = (true, w x) := by unfold pK; rw [if_pos hc]
      have h1 : pK (pK k w M i) w M j x = pK k w M i x := pK_is (by rw [hk])
      rw [h1, hk]
      unfold pK
      rw [if_pos ⟨by omega, ho⟩]
    · have hk : pK k w M i x = k x := by unfold pK; rw [if_neg fun h => hp h.1]
      by_cases hq : 0 < pN (pK k w M i) M j x
      · have h1 : pK (pK k w M i) w M j x = (true, w x) := by
          show (if _ then _ else _) = _
          rw [if_pos ⟨hq, by rw [hk]; exact ho⟩]
        rw [h1]
        unfold pK
        rw [if_pos ⟨by omega, ho⟩]
      · have h1 : pK (pK k w M i) w M j x = pK k w M i x := by
          show (if _ then _ else _) = _
          rw [if_neg fun h => hq h.1]
        rw [h1, hk]
        unfold pK
        rw [if_neg fun h => hq (by omega)]
  · have hk : pK k w M i x = k x := by unfold pK; rw [if_neg fun h => ho h.2]
    have h1 : pK (pK k w M i) w M j x = pK k w M i x := by
      show (if _ then _ else _) = _
      rw [if_neg fun h => ho (by rw [hk] at h; exact h.2)]
    rw [h1, hk]
    unfold pK
    rw [if_neg fun h => ho h.2]
/-- the second list is pumped with what the first one left over -/
theorem pN_congr {a b : KL} {M : Nat} {n : Int} (h : ∀ x, a x = b x) : ∀ x, pN a M n x = pN b M n x
  | 0 => rfl
  | x + 1 => by simp only [pN, pN_congr h x, h]
theorem pK_none {k : KL} {w : TL} {M : Nat} {n : Int} (hn : n ≤ 0) (x : Nat) : pK k w M n x = k x := by
  have := pN_le k M n x
  unfold pK
  rw [if_neg fun h => by omega]
theorem pN_max {k : KL} {M : Nat} {n : Int} (hn : 0 ≤ n) : ∀ x, x ≤ M → pN k M n x = max (n - cnt k x) 0
  | 0, _ => by simp only [pN, cnt]; omega
  | x + 1, hx => by
    have ih := pN_max (k := k) (M := M) hn x (by omega)
    simp only [pN, cnt]
    cases hk : (k x).1 with
    | true => simp; omega
    | false =>
      simp only [Bool.false_eq_true, if_false]
      by_cases hp : 0 < pN k M n x
      · rw [if_pos ⟨hp, trivial, by omega⟩]; omega
      · rw [if_neg fun h => hp h.1]; omega
theorem cnt_max {k : KL} {w : TL} {M : Nat} {n : Int} (hn : 0 ≤ n) : ∀ x, x ≤ M → (cnt (pK k w M n) x : Int) = max (cnt k x - n) 0
  | 0, _ => by simp only [cnt]; omega
  | x + 1, hx => by
    have ih := cnt_max (k := k) (w := w) (M := M) hn x (by omega)
    have hp := pN_max (k := k) (M := M) hn x (by omega)
    simp only [cnt]
    cases hk : (k x).1 with
    | true =>
      rw [pK_is hk, hk]
      simp only [if_true]
      omega
    | false =>
      by_cases hq : 0 < pN k M n x
      · have : (pK k w M n x).1 = true := by unfold pK; rw [if_pos ⟨hq, hk, by omega⟩]
        rw [this]
        simp only [if_true, Bool.false_eq_true, if_false]
        omega
      · have : pK k w M n x = k x := by unfold pK; rw [if_neg fun h => hq h.1]
        rw [this, hk]
        simp only [Bool.false_eq_true, if_false]
        omega
theorem cnt_cat {n0 : Nat} {k0 k1 : KL} : ∀ n1, cnt (catK n0 k0 k1) (n0 + n1) = cnt k0 n0 + cnt k1 n1
  | 0 => by
    have : ∀ x, x ≤ n0 → cnt (catK n0 k0 k1) x = cnt k0 x := by
      intro x
      induction x with
      | zero => intro _; rfl
      | succ x ih =>
        intro hx
        simp only [cnt, ih (by omega)]
        have : catK n0 k0 k1 x = k0 x := by unfold catK; rw [if_pos (by omega)]
        rw [this]
    simpa [cnt] using this n0 (Nat.le_refl _)
  | n1 + 1 => by
    have ih := cnt_cat (n0 := n0) (k0 := k0) (k1 := k1) n1
    show cnt (catK n0 k0 k1) (n0 + n1 + 1) = _
    simp only [cnt, ih]
    have : catK n0 k0 k1 (n0 + n1) = k1 n1 := by
      unfold catK
      rw [if_neg (by omega)]
      congr 1
      omega
    rw [this]
    omega
end Go.Proofs.Aw

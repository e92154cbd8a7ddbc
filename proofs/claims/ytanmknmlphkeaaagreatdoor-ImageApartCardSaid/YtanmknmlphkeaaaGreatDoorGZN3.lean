/- A PART OF THE PROOF: an abstract run of the loaded code over value trees, and the functions walked by it. No condition of its own. -/
import Derived.Test.YtanmknmlphkeaaaGreatDoorGZM13
namespace Go.Proofs.Aw
open Go Go.Proofs Go.RowKit
set_option maxHeartbeats 8000000
set_option maxRecDepth 100000
theorem LV.le.bsV2 {a b : Bool} (h : a = b) : LV.le (.v (.bool a)) (.v (.bool b)) := by rw [h]; exact LV.le.refl _
/-- the frames met, behind the first k pages -/
def metN (p : PV) (f : Int → Bool) : Nat → Int → Bool
  | 0 => f
  | k + 1 => if (p.pt k).1 = true then upB (metN p f k) (p.pt k).2.2 true else metN p f k
def PgOk (m : MM) (p : PV) (f : Int → Bool) (k : Nat) : Prop := ((p.pt k).1 = false → (p.pt k).2.1 = false ∧ (p.pt k).2.2 = 0) ∧ ((p.pt k).1 = true → 0 ≤ (p.pt k).2.2 ∧ (p.pt k).2.2 < (m.nF : Int) ∧ metN p f k (p.pt k).2.2 = false ∧ p.st ≠ 3)
theorem pages_call (m : MM) (p : PV) (env : List (Nat × LV)) (low n : Nat) (f : Int → Bool) (hn : n ≤ 100000) (hF : m.nF ≤ 1000) (k0 : Nat) (h16 : k0 ≤ 16) (good : ∀ k, k < k0 → PgOk m p f k) (bad : k0 = 16 ∨ ¬ PgOk m p f k0) {K : LV → St → Prop} {kp : Value → St → Prop}
    (hK : K (.v (.bool (decide (k0 = 16)))) ⟨env, [(2, .box 77 p.c), (1, .mp Tryz.prog 3 4 (n + k0) (metN p f k0)), (0, .box 30 m.c)], 3, low⟩) :
    CallA Tryz.prog 141 [.agg m.c, .agg p.c, .mp 1] K kp ⟨env, [(2, .box 77 p.c), (1, .mp Tryz.prog 3 4 n f), (0, .box 30 m.c)], 3, low⟩ := by
  refine CallA.bodyS Tryz.tab2Ok ft141 ?_
  refine ⟨Nat, fun k => ⟨[(11, iv (k : Int)), (10, .agg p.ptc), (2, .mp 1), (3, .lp 3 0), (4, .lp 4 0)], [(4, .box 77 p.c), (3, .box 30 m.c), (2, .box 77 p.c), (1, .mp Tryz.prog 3 4 (n + k) (metN p f k)), (0, .box 30 m.c)], 5, 3⟩, fun k => k ≤ 16 ∧ (k ≤ k0), fun k => 16 - k, 0, ⟨Nat.zero_le _, Nat.zero_le _⟩, .le ⟨rfl, ⟨rfl, Nat.le_of_ble_eq_true rfl⟩, ⟨LV.le.refl _, rfl, LV.le.refl _, rfl, LV.le.refl _, rfl, LV.le.refl _, rfl, LV.le.refl _, rfl, trivial⟩, ⟨⟨_, rfl, LO.le.refl _⟩, rfl, rfl, ⟨_, rfl, LO.le.refl _⟩, rfl, rfl, ⟨_, rfl, LO.le.refl _⟩, rfl, rfl, ⟨_, rfl, LO.le.refl _⟩, rfl, rfl, ⟨_, rfl, LO.le.refl _⟩, rfl, rfl, trivial⟩⟩, fun k hj => ⟨fun h => ?_, fun h => ?_⟩⟩
  · obtain ⟨hj, hp⟩ := hj
    have h := dT h
    have h : (k : Int) < ((16 : Nat) : Int) := h
    have hk : k < 16 := by omega
    have ek := w1 hk (by omega)
    refine ⟨⟨by omega, by omega⟩, loadK_at _ (pt_at p k hk) ?_⟩
    refine ⟨fun a => ⟨_, eqF_pte (p.pt k) (false, false, 0), ⟨fun b => ?_, fun b => ⟨fun c => ?_, fun c => ?_⟩⟩⟩, fun a => ⟨fun c => ?_, fun c => ?_⟩⟩
    · have a := nbT a
      have b := nbT b
      obtain rfl : k = k0 := by
        rcases Nat.lt_or_ge k k0 with hlt | hge
        · exact absurd (good k hlt) (by intro hg; have := hg.1 a; simp_all)
        · have : k ≤ k0 := hp; omega
      rw [show decide (k = 16) = false from decide_eq_false (by omega)] at hK
      exact ⟨⟨rfl, rfl, rfl⟩, _, LV.le.refl _, hK⟩
    · have a : (p.pt k).1 = false := nbT a
      have b := nbF b
      have hlt : k < k0 := by
        rcases Nat.lt_or_ge k k0 with hlt | hge
        · exact hlt
        · have h0 : k ≤ k0 := hp
          obtain rfl : k = k0 := by omega
          exact absurd (show PgOk m p f k from ⟨fun _ => by simpa [a] using b, fun h => by rw [a] at h; cases h⟩) (bad.resolve_left (by omega))
      exact ⟨k + 1, ⟨(by omega : k + 1 ≤ 16), hlt⟩, (by omega : 16 - (k + 1) < 16 - k), .le ⟨rfl, ⟨rfl, Nat.le_of_ble_eq_true rfl⟩, ⟨LV.le.int ek, rfl, LV.le.refl _, rfl, LV.le.refl _, rfl, LV.le.refl _, rfl, LV.le.refl _, rfl, trivial⟩, ⟨⟨_, rfl, LO.le.refl _⟩, rfl, rfl, ⟨_, rfl, LO.le.refl _⟩, rfl, rfl, ⟨_, rfl, LO.le.refl _⟩, rfl, rfl, ⟨_, rfl, LO.le.mp (by omega) fun x => by simp only [metN]; rw [if_neg (by rw [a]; simp)]⟩, rfl, rfl, ⟨_, rfl, LO.le.refl _⟩, rfl, rfl, trivial⟩⟩⟩
    · rw [nbT a] at c; cases c
    · rw [nbF a] at c; cases c
    have a : (p.pt k).1 = true := nbF a
    have hw : IntKind.i64.wrap ((m.nF : Int) - 1) = (m.nF : Int) - 1 := w64 (by omega) (by omega)
    refine Ct.callC (within_ct (p.pt k).2.2 0 ((m.nF : Int) - 1)) rfl ⟨_, _, rfl, LV.le.refl _, _, _, rfl, LV.le.refl _, _, _, rfl, LV.le.int hw, rfl⟩ ?_
    refine ⟨fun d => ?_, fun d => ?_⟩
    · have d := dF (nbT d)
      obtain rfl : k = k0 := by
        rcases Nat.lt_or_ge k k0 with hlt | hge
        · exact absurd (good k hlt) (by intro hg; have := hg.2 a; omega)
        · have : k ≤ k0 := hp; omega
      rw [show decide (k = 16) = false from decide_eq_false (by omega)] at hK
      exact ⟨⟨rfl, rfl, rfl⟩, _, LV.le.refl _, hK⟩
    have d := dT (nbF d)
    refine ⟨⟨rfl, by omega, by omega⟩, ⟨fun e => ?_, fun e => ⟨fun g => ?_, fun g => ?_⟩⟩⟩
    · obtain rfl : k = k0 := by
        rcases Nat.lt_or_ge k k0 with hlt | hge
        · exact absurd (good k hlt) (by intro hg; have := (hg.2 a).2.2.1; rw [show metN p f k (p.pt k).2.2 = true from e] at this; cases this)
        · have : k ≤ k0 := hp; omega
      rw [show decide (k = 16) = false from decide_eq_false (by omega)] at hK
      exact ⟨⟨rfl, rfl, rfl⟩, _, LV.le.refl _, hK⟩
    · have g := beT g
      obtain rfl : k = k0 := by
        rcases Nat.lt_or_ge k k0 with hlt | hge
        · exact absurd (good k hlt) (by intro hg; exact (hg.2 a).2.2.2 g)
        · have : k ≤ k0 := hp; omega
      rw [show decide (k = 16) = false from decide_eq_false (by omega)] at hK
      exact ⟨⟨rfl, rfl, rfl⟩, _, LV.le.refl _, hK⟩
    have g := beF g
    refine ⟨⟨rfl, by omega, by omega, by omega⟩, ?_⟩
    have hlt : k < k0 := by
      rcases Nat.lt_or_ge k k0 with hlt | hge
      · exact hlt
      · have h0 : k ≤ k0 := hp
        obtain rfl : k = k0 := by omega
        exact absurd (show PgOk m p f k from ⟨fun h => absurd h (by rw [a]; simp), fun _ => ⟨by omega, by omega, e, g⟩⟩) (bad.resolve_left (by omega))
    exact ⟨k + 1, ⟨(by omega : k + 1 ≤ 16), hlt⟩, (by omega : 16 - (k + 1) < 16 - k), .le ⟨rfl, ⟨rfl, Nat.le_of_ble_eq_true rfl⟩, ⟨LV.le.int ek, rfl, LV.le.refl _, rfl, LV.le.refl _, rfl, LV.le.refl _, rfl, LV.le.refl _, rfl, trivial⟩, ⟨⟨_, rfl, LO.le.refl _⟩, rfl, rfl, ⟨_, rfl, LO.le.refl _⟩, rfl, rfl, ⟨_, rfl, LO.le.refl _⟩, rfl, rfl, ⟨_, rfl, LO.le.mp (Nat.le_refl _) fun x => by simp only [metN]; rw [if_pos a]⟩, rfl, rfl, ⟨_, rfl, LO.le.refl _⟩, rfl, rfl, trivial⟩⟩⟩
  · obtain ⟨hj, hp⟩ := hj
    have h := dF h
    have h : ¬ (k : Int) < ((16 : Nat) : Int) := h
    have hn : k = 16 := by have : k ≤ 16 := hj; omega
    obtain rfl : k0 = 16 := by have : k ≤ k0 := hp; omega
    obtain rfl : k = 16 := by omega
    exact ⟨⟨rfl, rfl, rfl⟩, _, LV.le.refl _, hK⟩
def metA (m : MM) : Nat → Int → Bool
  | 0 => fun _ => false
  | i + 1 => metN (m.ps i) (metA m i) 16
def RowSt (m : MM) (i : Nat) : Prop := (0 < i → (m.ps (i - 1)).pid < (m.ps i).pid) ∧ ProcS m (m.ps i) ∧ ∀ k, k < 16 → PgOk m (m.ps i) (metA m i) k
open Classical in
theorem firstBad {p : Nat → Prop} : ∀ n : Nat, ∃ k0, k0 ≤ n ∧ (∀ k, k < k0 → p k) ∧ (k0 = n ∨ ¬ p k0)
  | 0 => ⟨0, Nat.le_refl _, fun k h => absurd h (by omega), .inl rfl⟩
  | n + 1 => by
    obtain ⟨k0, h1, h2, h3⟩ := firstBad (p := p) n
    rcases h3 with rfl | h3
    · by_cases h : p k0
      · exact ⟨k0 + 1, Nat.le_refl _, fun k hk => by
          rcases (by omega : k < k0 ∨ k = k0) with h4 | rfl
          · exact h2 k h4
          · exact h, .inl rfl⟩
      · exact ⟨k0, by omega, h2, .inr h⟩
    · exact ⟨k0, by omega, h2, .inr h3⟩
open Classical in
theorem procs_ct (m : MM) (hn : m.nP ≤ 1000) (hQ : m.nQ ≤ 9223372036854775807) (hF : m.nF ≤ 1000) (hx : 1 ≤ m.next ∧ m.next ≤ 1000000000) : Ct Tryz.prog 92 [.agg m.c] (.bs (decide (∀ i, i < m.nP → RowSt m i))) := by
  refine Ct.enter Tryz.tab2Ok ft92 ?_
  refine ⟨Nat, fun k => ⟨[(10, iv (k : Int)), (9, iv (m.nP : Int)), (8, .sl 96 m.nP m.pc), (1, .lp 0 0), (3, .mp 1)], [(1, .mp Tryz.prog 3 4 (16 * k) (metA m k)), (0, .box 30 m.c)], 2, 0⟩, fun k => k ≤ m.nP ∧ (∀ i, i < k → RowSt m i), fun k => m.nP - k, 0, ⟨Nat.zero_le _, fun i hi => absurd hi (by omega)⟩, .le ⟨rfl, ⟨rfl, Nat.le_of_ble_eq_true rfl⟩, ⟨LV.le.refl _, rfl, LV.le.refl _, rfl, LV.le.refl _, rfl, LV.le.refl _, rfl, LV.le.refl _, rfl, trivial⟩, ⟨⟨_, rfl, LO.le.refl _⟩, rfl, rfl, ⟨_, rfl, LO.le.refl _⟩, rfl, rfl, trivial⟩⟩, fun k hj => ⟨fun h => ?_, fun h => ?_⟩⟩
  · obtain ⟨hj, hp⟩ := hj
    have h := dT h
    have h : (k : Int) < ((m.nP : Nat) : Int) := h
    have hk : k < m.nP := by omega
    have ek := w1 hk (by omega)
    refine ⟨⟨by omega, by omega⟩, ?_⟩
    refine DrawA.le (T := Tryz.tab2) (st' := ⟨[(1, .lp 0 0), (3, .mp 1), (4, iv (k : Int)), (5, .lp 2 0), (10, iv (k : Int)), (9, iv (m.nP : Int)), (8, .sl 96 m.nP m.pc)], [(2, .box 77 (m.ps k).c), (1, .mp Tryz.prog 3 4 (16 * k) (metA m k)), (0, .box 30 m.c)], 3, 0⟩) ⟨rfl, ⟨rfl, Nat.le_of_ble_eq_true rfl⟩, ⟨LV.le.refl _, rfl, LV.le.refl _, rfl, LV.le.refl _, rfl, LV.le.refl _, rfl, LV.le.refl _, rfl, LV.le.refl _, rfl, LV.le.refl _, rfl, trivial⟩, ⟨⟨_, rfl, LO.le.refl _⟩, rfl, rfl, ⟨_, rfl, LO.le.refl _⟩, rfl, rfl, ⟨_, rfl, LO.le.refl _⟩, rfl, rfl, trivial⟩⟩ ?_
    by_cases y : 0 < k ∧ (m.ps (k - 1)).pid ≥ (m.ps k).pid
    · refine DrawA.run Tryz.tab2Ok Tryz.mixed [0, 1, 3, 7, 15, 7, 39, 127, 255, 511, 7, 1031, 4095, 8191, 16383, 32767, 32767, 131071, 262143, 524287, 1048575, 2097151, 2097151, 2097151, 16777215, 33554431, 67108863] [24] rfl ?_
      refine ⟨_, ⟨LV.le.refl _, rfl⟩, ?_⟩
      refine ⟨.v (.bool true), ⟨LV.le.bsV (decide_eq_true (by omega)), rfl⟩, ?_⟩
      refine ⟨_, ⟨LV.le.refl _, rfl⟩, ?_⟩
      refine ⟨_, ⟨LV.le.refl _, rfl⟩, ?_⟩
      refine ⟨_, ⟨LV.le.refl _, rfl⟩, ?_⟩
      refine ⟨_, ⟨LV.le.refl _, rfl⟩, ?_⟩
      refine ⟨iv ((k - 1 : Nat) : Int), ⟨LV.le.int (by rw [w64] <;> omega), rfl⟩, ?_⟩
      refine ⟨_, ⟨⟨by omega, by omega⟩, LV.le.refl _, rfl⟩, ?_⟩
      refine ⟨_, ⟨LV.le.refl _, rfl⟩, ?_⟩
      refine ⟨_, ⟨LV.le.refl _, rfl⟩, ?_⟩
      refine ⟨_, ⟨LV.le.refl _, rfl⟩, ?_⟩
      refine ⟨_, ⟨LV.le.refl _, rfl⟩, ?_⟩
      refine ⟨.v (.bool true), ⟨LV.le.bsV (decide_eq_true y.2), rfl⟩, ?_⟩
      refine ⟨_, ⟨LV.le.refl _, rfl⟩, ?_⟩
      refine ⟨_, ⟨LV.le.refl _, rfl⟩, ?_⟩
      refine ⟨_, ⟨LV.le.refl _, rfl⟩, ?_⟩
      refine ⟨_, ⟨LV.le.refl _, rfl⟩, ?_⟩
      refine ⟨_, ⟨LV.le.refl _, rfl⟩, ?_⟩
      refine ⟨_, ⟨LV.le.refl _, rfl⟩, ?_⟩
      refine ⟨_, ⟨LV.le.refl _, rfl⟩, ?_⟩
      refine ⟨_, ⟨LV.le.refl _, rfl⟩, ?_⟩
      refine ⟨_, ⟨LV.le.refl _, rfl⟩, ?_⟩
      refine ⟨_, ⟨LV.le.refl _, rfl⟩, ?_⟩
      refine ⟨_, ⟨LV.le.refl _, rfl⟩, ?_⟩
      refine ⟨_, _, ⟨LV.le.refl _, rfl⟩, ?_⟩
      refine ⟨_, ⟨LV.le.refl _, rfl⟩, ?_⟩
      refine ⟨_, ⟨LV.le.refl _, rfl⟩, ?_⟩
      refine ⟨True.intro, ?_⟩
      exact ⟨LV.le.bF fun hall => absurd ((hall k hk).1 y.1) (by have := y.2; omega), rfl⟩
    have hord : 0 < k → (m.ps (k - 1)).pid < (m.ps k).pid := fun h0 => by
      have : ¬ (m.ps (k - 1)).pid ≥ (m.ps k).pid := fun hc => y ⟨h0, hc⟩
      omega
    obtain ⟨k0, q1, q2, q3⟩ := firstBad (p := PgOk m (m.ps k) (metA m k)) 16
    by_cases z : k = 0
    · by_cases hps : ProcS m (m.ps k)
      rotate_left
      · refine DrawA.run Tryz.tab2Ok Tryz.mixed [0, 1, 3, 7, 15, 7, 39, 127, 255, 511, 7, 1031, 4095, 8191, 16383, 32767, 32767, 131071, 262143, 524287, 1048575, 2097151, 2097151, 2097151, 16777215, 33554431, 67108863] [24] rfl ?_
        refine ⟨_, ⟨LV.le.refl _, rfl⟩, ?_⟩
        refine ⟨.v (.bool false), ⟨LV.le.bsV (decide_eq_false (by omega)), rfl⟩, ?_⟩
        refine ⟨_, ⟨LV.le.refl _, rfl⟩, ?_⟩
        refine ⟨_, ⟨LV.le.refl _, rfl⟩, ?_⟩
        refine ⟨_, ⟨LV.le.refl _, rfl⟩, ?_⟩
        refine ⟨_, ⟨LV.le.refl _, rfl⟩, ?_⟩
        refine ⟨_, ⟨LV.le.refl _, rfl⟩, ?_⟩
        refine ⟨_, ⟨LV.le.refl _, rfl⟩, ?_⟩
        refine ⟨_, ⟨LV.le.refl _, rfl⟩, ?_⟩
        refine ⟨_, ⟨LV.le.refl _, rfl⟩, ?_⟩
        refine ⟨_, ⟨LV.le.refl _, rfl⟩, ?_⟩
        refine ⟨_, ⟨LV.le.refl _, rfl⟩, ?_⟩
        refine ⟨_, ⟨LV.le.refl _, rfl⟩, ?_⟩
        refine ⟨_, ⟨LV.le.refl _, rfl⟩, ?_⟩
        refine ⟨_, ⟨LV.le.refl _, rfl⟩, ?_⟩
        refine ⟨_, ⟨LV.le.refl _, rfl⟩, ?_⟩
        refine ⟨_, ⟨LV.le.refl _, rfl⟩, ?_⟩
        refine ⟨.v (.bool false), Ct.callC (proc_ct m (m.ps k) hn hQ hx) rfl (leL.refl _) ⟨LV.le.bsV (decide_eq_false hps), rfl⟩, ?_⟩
        refine ⟨_, ⟨LV.le.refl _, rfl⟩, ?_⟩
        refine ⟨_, ⟨LV.le.refl _, rfl⟩, ?_⟩
        refine ⟨_, ⟨LV.le.refl _, rfl⟩, ?_⟩
        refine ⟨_, ⟨LV.le.refl _, rfl⟩, ?_⟩
        refine ⟨_, ⟨LV.le.refl _, rfl⟩, ?_⟩
        refine ⟨_, ⟨LV.le.refl _, rfl⟩, ?_⟩
        refine ⟨_, _, ⟨LV.le.refl _, rfl⟩, ?_⟩
        refine ⟨_, ⟨LV.le.refl _, rfl⟩, ?_⟩
        refine ⟨_, ⟨LV.le.refl _, rfl⟩, ?_⟩
        refine ⟨True.intro, ?_⟩
        exact ⟨LV.le.bF fun hall => hps (hall k hk).2.1, rfl⟩
      by_cases e16 : k0 = 16
      rotate_left
      · refine DrawA.run Tryz.tab2Ok Tryz.mixed [0, 1, 3, 7, 15, 7, 39, 127, 255, 511, 7, 1031, 4095, 8191, 16383, 32767, 32767, 131071, 262143, 524287, 1048575, 2097151, 2097151, 2097151, 16777215, 33554431, 67108863] [24] rfl ?_
        refine ⟨_, ⟨LV.le.refl _, rfl⟩, ?_⟩
        refine ⟨.v (.bool false), ⟨LV.le.bsV (decide_eq_false (by omega)), rfl⟩, ?_⟩
        refine ⟨_, ⟨LV.le.refl _, rfl⟩, ?_⟩
        refine ⟨_, ⟨LV.le.refl _, rfl⟩, ?_⟩
        refine ⟨_, ⟨LV.le.refl _, rfl⟩, ?_⟩
        refine ⟨_, ⟨LV.le.refl _, rfl⟩, ?_⟩
        refine ⟨_, ⟨LV.le.refl _, rfl⟩, ?_⟩
        refine ⟨_, ⟨LV.le.refl _, rfl⟩, ?_⟩
        refine ⟨_, ⟨LV.le.refl _, rfl⟩, ?_⟩
        refine ⟨_, ⟨LV.le.refl _, rfl⟩, ?_⟩
        refine ⟨_, ⟨LV.le.refl _, rfl⟩, ?_⟩
        refine ⟨_, ⟨LV.le.refl _, rfl⟩, ?_⟩
        refine ⟨_, ⟨LV.le.refl _, rfl⟩, ?_⟩
        refine ⟨_, ⟨LV.le.refl _, rfl⟩, ?_⟩
        refine ⟨_, ⟨LV.le.refl _, rfl⟩, ?_⟩
        refine ⟨_, ⟨LV.le.refl _, rfl⟩, ?_⟩
        refine ⟨_, ⟨LV.le.refl _, rfl⟩, ?_⟩
        refine ⟨.v (.bool true), Ct.callC (proc_ct m (m.ps k) hn hQ hx) rfl (leL.refl _) ⟨LV.le.bsV (decide_eq_true hps), rfl⟩, ?_⟩
        refine ⟨_, ⟨LV.le.refl _, rfl⟩, ?_⟩
        refine ⟨_, ⟨LV.le.refl _, rfl⟩, ?_⟩
        refine ⟨_, ⟨LV.le.refl _, rfl⟩, ?_⟩
        refine ⟨_, ⟨LV.le.refl _, rfl⟩, ?_⟩
        refine ⟨_, ⟨LV.le.refl _, rfl⟩, ?_⟩
        refine ⟨_, ⟨LV.le.refl _, rfl⟩, ?_⟩
        refine ⟨_, _, pages_call m (m.ps k) _ _ (16 * k) (metA m k) (by omega) hF k0 q1 q2 q3 ⟨LV.le.bsV2 (decide_eq_false e16), rfl⟩, ?_⟩
        refine ⟨_, ⟨LV.le.refl _, rfl⟩, ?_⟩
        refine ⟨_, ⟨LV.le.refl _, rfl⟩, ?_⟩
        refine ⟨True.intro, ?_⟩
        
        exact ⟨LV.le.bF fun hall => (q3.resolve_left e16) ((hall k hk).2.2 k0 (by omega)), rfl⟩
      refine DrawA.run Tryz.tab2Ok Tryz.mixed [0, 1, 3, 7, 15, 7, 39, 127, 255, 511, 7, 1031, 4095, 8191, 16383, 32767, 32767, 131071, 262143, 524287, 1048575, 2097151, 2097151, 2097151, 16777215, 33554431, 67108863] [24] rfl ?_
      refine ⟨_, ⟨LV.le.refl _, rfl⟩, ?_⟩
      refine ⟨.v (.bool false), ⟨LV.le.bsV (decide_eq_false (by omega)), rfl⟩, ?_⟩
      refine ⟨_, ⟨LV.le.refl _, rfl⟩, ?_⟩
      refine ⟨_, ⟨LV.le.refl _, rfl⟩, ?_⟩
      refine ⟨_, ⟨LV.le.refl _, rfl⟩, ?_⟩
      refine ⟨_, ⟨LV.le.refl _, rfl⟩, ?_⟩
      refine ⟨_, ⟨LV.le.refl _, rfl⟩, ?_⟩
      refine ⟨_, ⟨LV.le.refl _, rfl⟩, ?_⟩
      refine ⟨_, ⟨LV.le.refl _, rfl⟩, ?_⟩
      refine ⟨_, ⟨LV.le.refl _, rfl⟩, ?_⟩
      refine ⟨_, ⟨LV.le.refl _, rfl⟩, ?_⟩
      refine ⟨_, ⟨LV.le.refl _, rfl⟩, ?_⟩
      refine ⟨_, ⟨LV.le.refl _, rfl⟩, ?_⟩
      refine ⟨_, ⟨LV.le.refl _, rfl⟩, ?_⟩
      refine ⟨_, ⟨LV.le.refl _, rfl⟩, ?_⟩
      refine ⟨_, ⟨LV.le.refl _, rfl⟩, ?_⟩
      refine ⟨_, ⟨LV.le.refl _, rfl⟩, ?_⟩
      refine ⟨.v (.bool true), Ct.callC (proc_ct m (m.ps k) hn hQ hx) rfl (leL.refl _) ⟨LV.le.bsV (decide_eq_true hps), rfl⟩, ?_⟩
      refine ⟨_, ⟨LV.le.refl _, rfl⟩, ?_⟩
      refine ⟨_, ⟨LV.le.refl _, rfl⟩, ?_⟩
      refine ⟨_, ⟨LV.le.refl _, rfl⟩, ?_⟩
      refine ⟨_, ⟨LV.le.refl _, rfl⟩, ?_⟩
      refine ⟨_, ⟨LV.le.refl _, rfl⟩, ?_⟩
      refine ⟨_, ⟨LV.le.refl _, rfl⟩, ?_⟩
      refine ⟨_, _, pages_call m (m.ps k) _ _ (16 * k) (metA m k) (by omega) hF k0 q1 q2 q3 ⟨LV.le.bsV2 (decide_eq_true e16), rfl⟩, ?_⟩
      refine ⟨_, ⟨LV.le.refl _, rfl⟩, ?_⟩
      refine ⟨_, ⟨LV.le.refl _, rfl⟩, ?_⟩
      refine ⟨True.intro, ?_⟩

      subst e16
      exact ⟨k + 1, ⟨(by omega : k + 1 ≤ m.nP), upTo hp ⟨hord, hps, q2⟩⟩, (by omega : m.nP - (k + 1) < m.nP - k), .le ⟨rfl, ⟨rfl, Nat.le_of_ble_eq_true rfl⟩, ⟨LV.le.int ek, rfl, LV.le.refl _, rfl, LV.le.refl _, rfl, LV.le.refl _, rfl, LV.le.refl _, rfl, trivial⟩, ⟨⟨_, rfl, LO.le.mp (by omega) fun x => rfl⟩, rfl, rfl, ⟨_, rfl, LO.le.refl _⟩, rfl, rfl, trivial⟩⟩⟩
    · by_cases hps : ProcS m (m.ps k)
      rotate_left
      · refine DrawA.run Tryz.tab2Ok Tryz.mixed [0, 1, 3, 7, 15, 7, 39, 127, 255, 511, 7, 1031, 4095, 8191, 16383, 32767, 32767, 131071, 262143, 524287, 1048575, 2097151, 2097151, 2097151, 16777215, 33554431, 67108863] [24] rfl ?_
        refine ⟨_, ⟨LV.le.refl _, rfl⟩, ?_⟩
        refine ⟨.v (.bool true), ⟨LV.le.bsV (decide_eq_true (by omega)), rfl⟩, ?_⟩
        refine ⟨_, ⟨LV.le.refl _, rfl⟩, ?_⟩
        refine ⟨_, ⟨LV.le.refl _, rfl⟩, ?_⟩
        refine ⟨_, ⟨LV.le.refl _, rfl⟩, ?_⟩
        refine ⟨_, ⟨LV.le.refl _, rfl⟩, ?_⟩
        refine ⟨iv ((k - 1 : Nat) : Int), ⟨LV.le.int (by rw [w64] <;> omega), rfl⟩, ?_⟩
        refine ⟨_, ⟨⟨by omega, by omega⟩, LV.le.refl _, rfl⟩, ?_⟩
        refine ⟨_, ⟨LV.le.refl _, rfl⟩, ?_⟩
        refine ⟨_, ⟨LV.le.refl _, rfl⟩, ?_⟩
        refine ⟨_, ⟨LV.le.refl _, rfl⟩, ?_⟩
        refine ⟨_, ⟨LV.le.refl _, rfl⟩, ?_⟩
        refine ⟨.v (.bool false), ⟨LV.le.bsV (decide_eq_false (fun hc => y ⟨by omega, hc⟩)), rfl⟩, ?_⟩
        refine ⟨_, ⟨LV.le.refl _, rfl⟩, ?_⟩
        refine ⟨_, ⟨LV.le.refl _, rfl⟩, ?_⟩
        refine ⟨_, ⟨LV.le.refl _, rfl⟩, ?_⟩
        refine ⟨_, ⟨LV.le.refl _, rfl⟩, ?_⟩
        refine ⟨.v (.bool false), Ct.callC (proc_ct m (m.ps k) hn hQ hx) rfl (leL.refl _) ⟨LV.le.bsV (decide_eq_false hps), rfl⟩, ?_⟩
        refine ⟨_, ⟨LV.le.refl _, rfl⟩, ?_⟩
        refine ⟨_, ⟨LV.le.refl _, rfl⟩, ?_⟩
        refine ⟨_, ⟨LV.le.refl _, rfl⟩, ?_⟩
        refine ⟨_, ⟨LV.le.refl _, rfl⟩, ?_⟩
        refine ⟨_, ⟨LV.le.refl _, rfl⟩, ?_⟩
        refine ⟨_, ⟨LV.le.refl _, rfl⟩, ?_⟩
        refine ⟨_, _, ⟨LV.le.refl _, rfl⟩, ?_⟩
        refine ⟨_, ⟨LV.le.refl _, rfl⟩, ?_⟩
        refine ⟨_, ⟨LV.le.refl _, rfl⟩, ?_⟩
        refine ⟨True.intro, ?_⟩
        exact ⟨LV.le.bF fun hall => hps (hall k hk).2.1, rfl⟩
      by_cases e16 : k0 = 16
      rotate_left
      · refine DrawA.run Tryz.tab2Ok Tryz.mixed [0, 1, 3, 7, 15, 7, 39, 127, 255, 511, 7, 1031, 4095, 8191, 16383, 32767, 32767, 131071, 262143, 524287, 1048575, 2097151, 2097151, 2097151, 16777215, 33554431, 67108863] [24] rfl ?_
        refine ⟨_, ⟨LV.le.refl _, rfl⟩, ?_⟩
        refine ⟨.v (.bool true), ⟨LV.le.bsV (decide_eq_true (by omega)), rfl⟩, ?_⟩
        refine ⟨_, ⟨LV.le.refl _, rfl⟩, ?_⟩
        refine ⟨_, ⟨LV.le.refl _, rfl⟩, ?_⟩
        refine ⟨_, ⟨LV.le.refl _, rfl⟩, ?_⟩
        refine ⟨_, ⟨LV.le.refl _, rfl⟩, ?_⟩
        refine ⟨iv ((k - 1 : Nat) : Int), ⟨LV.le.int (by rw [w64] <;> omega), rfl⟩, ?_⟩
        refine ⟨_, ⟨⟨by omega, by omega⟩, LV.le.refl _, rfl⟩, ?_⟩
        refine ⟨_, ⟨LV.le.refl _, rfl⟩, ?_⟩
        refine ⟨_, ⟨LV.le.refl _, rfl⟩, ?_⟩
        refine ⟨_, ⟨LV.le.refl _, rfl⟩, ?_⟩
        refine ⟨_, ⟨LV.le.refl _, rfl⟩, ?_⟩
        refine ⟨.v (.bool false), ⟨LV.le.bsV (decide_eq_false (fun hc => y ⟨by omega, hc⟩)), rfl⟩, ?_⟩
        refine ⟨_, ⟨LV.le.refl _, rfl⟩, ?_⟩
        refine ⟨_, ⟨LV.le.refl _, rfl⟩, ?_⟩
        refine ⟨_, ⟨LV.le.refl _, rfl⟩, ?_⟩
        refine ⟨_, ⟨LV.le.refl _, rfl⟩, ?_⟩
        refine ⟨.v (.bool true), Ct.callC (proc_ct m (m.ps k) hn hQ hx) rfl (leL.refl _) ⟨LV.le.bsV (decide_eq_true hps), rfl⟩, ?_⟩
        refine ⟨_, ⟨LV.le.refl _, rfl⟩, ?_⟩
        refine ⟨_, ⟨LV.le.refl _, rfl⟩, ?_⟩
        refine ⟨_, ⟨LV.le.refl _, rfl⟩, ?_⟩
        refine ⟨_, ⟨LV.le.refl _, rfl⟩, ?_⟩
        refine ⟨_, ⟨LV.le.refl _, rfl⟩, ?_⟩
        refine ⟨_, ⟨LV.le.refl _, rfl⟩, ?_⟩
        refine ⟨_, _, pages_call m (m.ps k) _ _ (16 * k) (metA m k) (by omega) hF k0 q1 q2 q3 ⟨LV.le.bsV2 (decide_eq_false e16), rfl⟩, ?_⟩
        refine ⟨_, ⟨LV.le.refl _, rfl⟩, ?_⟩
        refine ⟨_, ⟨LV.le.refl _, rfl⟩, ?_⟩
        refine ⟨True.intro, ?_⟩
        
        exact ⟨LV.le.bF fun hall => (q3.resolve_left e16) ((hall k hk).2.2 k0 (by omega)), rfl⟩
      refine DrawA.run Tryz.tab2Ok Tryz.mixed [0, 1, 3, 7, 15, 7, 39, 127, 255, 511, 7, 1031, 4095, 8191, 16383, 32767, 32767, 131071, 262143, 524287, 1048575, 2097151, 2097151, 2097151, 16777215, 33554431, 67108863] [24] rfl ?_
      refine ⟨_, ⟨LV.le.refl _, rfl⟩, ?_⟩
      refine ⟨.v (.bool true), ⟨LV.le.bsV (decide_eq_true (by omega)), rfl⟩, ?_⟩
      refine ⟨_, ⟨LV.le.refl _, rfl⟩, ?_⟩
      refine ⟨_, ⟨LV.le.refl _, rfl⟩, ?_⟩
      refine ⟨_, ⟨LV.le.refl _, rfl⟩, ?_⟩
      refine ⟨_, ⟨LV.le.refl _, rfl⟩, ?_⟩
      refine ⟨iv ((k - 1 : Nat) : Int), ⟨LV.le.int (by rw [w64] <;> omega), rfl⟩, ?_⟩
      refine ⟨_, ⟨⟨by omega, by omega⟩, LV.le.refl _, rfl⟩, ?_⟩
      refine ⟨_, ⟨LV.le.refl _, rfl⟩, ?_⟩
      refine ⟨_, ⟨LV.le.refl _, rfl⟩, ?_⟩
      refine ⟨_, ⟨LV.le.refl _, rfl⟩, ?_⟩
      refine ⟨_, ⟨LV.le.refl _, rfl⟩, ?_⟩
      refine ⟨.v (.bool false), ⟨LV.le.bsV (decide_eq_false (fun hc => y ⟨by omega, hc⟩)), rfl⟩, ?_⟩
      refine ⟨_, ⟨LV.le.refl _, rfl⟩, ?_⟩
      refine ⟨_, ⟨LV.le.refl _, rfl⟩, ?_⟩
      refine ⟨_, ⟨LV.le.refl _, rfl⟩, ?_⟩
      refine ⟨_, ⟨LV.le.refl _, rfl⟩, ?_⟩
      refine ⟨.v (.bool true), Ct.callC (proc_ct m (m.ps k) hn hQ hx) rfl (leL.refl _) ⟨LV.le.bsV (decide_eq_true hps), rfl⟩, ?_⟩
      refine ⟨_, ⟨LV.le.refl _, rfl⟩, ?_⟩
      refine ⟨_, ⟨LV.le.refl _, rfl⟩, ?_⟩
      refine ⟨_, ⟨LV.le.refl _, rfl⟩, ?_⟩
      refine ⟨_, ⟨LV.le.refl _, rfl⟩, ?_⟩
      refine ⟨_, ⟨LV.le.refl _, rfl⟩, ?_⟩
      refine ⟨_, ⟨LV.le.refl _, rfl⟩, ?_⟩
      refine ⟨_, _, pages_call m (m.ps k) _ _ (16 * k) (metA m k) (by omega) hF k0 q1 q2 q3 ⟨LV.le.bsV2 (decide_eq_true e16), rfl⟩, ?_⟩
      refine ⟨_, ⟨LV.le.refl _, rfl⟩, ?_⟩
      refine ⟨_, ⟨LV.le.refl _, rfl⟩, ?_⟩
      refine ⟨True.intro, ?_⟩

      subst e16
      exact ⟨k + 1, ⟨(by omega : k + 1 ≤ m.nP), upTo hp ⟨hord, hps, q2⟩⟩, (by omega : m.nP - (k + 1) < m.nP - k), .le ⟨rfl, ⟨rfl, Nat.le_of_ble_eq_true rfl⟩, ⟨LV.le.int ek, rfl, LV.le.refl _, rfl, LV.le.refl _, rfl, LV.le.refl _, rfl, LV.le.refl _, rfl, trivial⟩, ⟨⟨_, rfl, LO.le.mp (by omega) fun x => rfl⟩, rfl, rfl, ⟨_, rfl, LO.le.refl _⟩, rfl, rfl, trivial⟩⟩⟩
  · obtain ⟨hj, hp⟩ := hj
    have h := dF h
    have h : ¬ (k : Int) < ((m.nP : Nat) : Int) := h
    have hn : k = m.nP := by have : k ≤ m.nP := hj; omega
    exact ⟨LV.le.bT fun i hi => hp i (by omega), rfl⟩
end Go.Proofs.Aw
namespace Go.Proofs.Aw
open Go Go.Proofs Go.RowKit
set_option maxHeartbeats 8000000
set_option maxRecDepth 100000
open Classical in
theorem right_ct (m : MM) (hQ : m.nQ ≤ 9223372036854775807) (hx : 1 ≤ m.newPipe ∧ m.newPipe ≤ 1000000000) : Ct Tryz.prog 93 [.agg m.c] (.bs (decide (∀ i, i < m.nQ → PipeOk m i))) := by
  have ex : IntKind.i64.wrap (m.newPipe - 1) = m.newPipe - 1 := w64 (by omega) (by omega)
  refine Ct.enter Tryz.tab2Ok ft93 ?_
  refine ⟨Nat, fun q => ⟨[(8, iv (q : Int)), (7, iv (m.nQ : Int)), (6, .sl 2 m.nQ (wvs m.pq)), (1, .lp 0 0)], [(0, .box 30 m.c)], 1, 0⟩, fun q => q ≤ m.nQ ∧ (∀ i, i < q → PipeOk m i), fun q => m.nQ - q, 0, ⟨Nat.zero_le _, fun i hi => absurd hi (by omega)⟩, .le ⟨rfl, ⟨rfl, Nat.le_of_ble_eq_true rfl⟩, ⟨LV.le.refl _, rfl, LV.le.refl _, rfl, LV.le.refl _, rfl, LV.le.refl _, rfl, trivial⟩, ⟨⟨_, rfl, LO.le.refl _⟩, rfl, rfl, trivial⟩⟩, fun q hj => ⟨fun h => ?_, fun h => ?_⟩⟩
  · obtain ⟨hj, hp⟩ := hj
    have h := dT h
    have h : (q : Int) < ((m.nQ : Nat) : Int) := h
    have hq : q < m.nQ := by omega
    have eq := w1 hq (by omega)
    refine ⟨⟨by omega, by omega⟩, ?_⟩
    by_cases z : q = 0
    · by_cases w : 1 ≤ (m.pq q).1 ∧ (m.pq q).1 ≤ m.newPipe - 1
      rotate_left
      · refine DrawA.run Tryz.tab2Ok Tryz.mixed [0, 1, 3, 7, 15, 7, 39, 127, 255, 511, 7, 1031, 4095, 8191, 16383, 32767, 65535, 32767, 163839, 425983, 1048575, 2097151, 4194303, 8388607, 16777215, 33554431, 67108863, 134217727, 268435455] [] rfl ?_
        refine ⟨_, ⟨LV.le.refl _, rfl⟩, ?_⟩
        refine ⟨.v (.bool false), ⟨LV.le.bsV (decide_eq_false (by omega)), rfl⟩, ?_⟩
        refine ⟨_, ⟨LV.le.refl _, rfl⟩, ?_⟩
        refine ⟨_, ⟨LV.le.refl _, rfl⟩, ?_⟩
        refine ⟨_, ⟨LV.le.refl _, rfl⟩, ?_⟩
        refine ⟨_, ⟨LV.le.refl _, rfl⟩, ?_⟩
        refine ⟨_, ⟨LV.le.refl _, rfl⟩, ?_⟩
        refine ⟨_, ⟨LV.le.refl _, rfl⟩, ?_⟩
        refine ⟨_, ⟨LV.le.refl _, rfl⟩, ?_⟩
        refine ⟨_, ⟨LV.le.refl _, rfl⟩, ?_⟩
        refine ⟨_, ⟨LV.le.refl _, rfl⟩, ?_⟩
        refine ⟨_, ⟨LV.le.refl _, rfl⟩, ?_⟩
        refine ⟨_, ⟨LV.le.refl _, rfl⟩, ?_⟩
        refine ⟨_, ⟨LV.le.refl _, rfl⟩, ?_⟩
        refine ⟨_, ⟨LV.le.refl _, rfl⟩, ?_⟩
        refine ⟨_, ⟨LV.le.refl _, rfl⟩, ?_⟩
        refine ⟨_, ⟨LV.le.refl _, rfl⟩, ?_⟩
        refine ⟨_, ⟨LV.le.refl _, rfl⟩, ?_⟩
        refine ⟨_, ⟨LV.le.refl _, rfl⟩, ?_⟩
        refine ⟨iv (m.newPipe - 1), ⟨LV.le.int ex, rfl⟩, ?_⟩
        refine ⟨.v (.bool false), Ct.callC (within_ct (m.pq q).1 1 (m.newPipe - 1)) rfl (leL.refl _) ⟨LV.le.bsV (decide_eq_false w), rfl⟩, ?_⟩
        refine ⟨_, ⟨LV.le.refl _, rfl⟩, ?_⟩
        refine ⟨_, ⟨LV.le.refl _, rfl⟩, ?_⟩
        refine ⟨_, ⟨LV.le.refl _, rfl⟩, ?_⟩
        refine ⟨_, ⟨LV.le.refl _, rfl⟩, ?_⟩
        refine ⟨_, ⟨LV.le.refl _, rfl⟩, ?_⟩
        refine ⟨_, ⟨LV.le.refl _, rfl⟩, ?_⟩
        refine ⟨_, ⟨LV.le.refl _, rfl⟩, ?_⟩
        refine ⟨_, ⟨LV.le.refl _, rfl⟩, ?_⟩
        refine ⟨True.intro, ?_⟩
        exact ⟨LV.le.bF fun hall => absurd (hall q hq) (by unfold PipeOk; omega), rfl⟩
      refine DrawA.run Tryz.tab2Ok Tryz.mixed [0, 1, 3, 7, 15, 7, 39, 127, 255, 511, 7, 1031, 4095, 8191, 16383, 32767, 65535, 32767, 163839, 425983, 1048575, 2097151, 4194303, 8388607, 16777215, 33554431, 67108863, 134217727, 268435455] [] rfl ?_
      refine ⟨_, ⟨LV.le.refl _, rfl⟩, ?_⟩
      refine ⟨.v (.bool false), ⟨LV.le.bsV (decide_eq_false (by omega)), rfl⟩, ?_⟩
      refine ⟨_, ⟨LV.le.refl _, rfl⟩, ?_⟩
      refine ⟨_, ⟨LV.le.refl _, rfl⟩, ?_⟩
      refine ⟨_, ⟨LV.le.refl _, rfl⟩, ?_⟩
      refine ⟨_, ⟨LV.le.refl _, rfl⟩, ?_⟩
      refine ⟨_, ⟨LV.le.refl _, rfl⟩, ?_⟩
      refine ⟨_, ⟨LV.le.refl _, rfl⟩, ?_⟩
      refine ⟨_, ⟨LV.le.refl _, rfl⟩, ?_⟩
      refine ⟨_, ⟨LV.le.refl _, rfl⟩, ?_⟩
      refine ⟨_, ⟨LV.le.refl _, rfl⟩, ?_⟩
      refine ⟨_, ⟨LV.le.refl _, rfl⟩, ?_⟩
      refine ⟨_, ⟨LV.le.refl _, rfl⟩, ?_⟩
      refine ⟨_, ⟨LV.le.refl _, rfl⟩, ?_⟩
      refine ⟨_, ⟨LV.le.refl _, rfl⟩, ?_⟩
      refine ⟨_, ⟨LV.le.refl _, rfl⟩, ?_⟩
      refine ⟨_, ⟨LV.le.refl _, rfl⟩, ?_⟩
      refine ⟨_, ⟨LV.le.refl _, rfl⟩, ?_⟩
      refine ⟨_, ⟨LV.le.refl _, rfl⟩, ?_⟩
      refine ⟨iv (m.newPipe - 1), ⟨LV.le.int ex, rfl⟩, ?_⟩
      refine ⟨.v (.bool true), Ct.callC (within_ct (m.pq q).1 1 (m.newPipe - 1)) rfl (leL.refl _) ⟨LV.le.bsV (decide_eq_true w), rfl⟩, ?_⟩
      refine ⟨_, ⟨LV.le.refl _, rfl⟩, ?_⟩
      refine ⟨_, ⟨LV.le.refl _, rfl⟩, ?_⟩
      refine ⟨_, ⟨LV.le.refl _, rfl⟩, ?_⟩
      refine ⟨_, ⟨LV.le.refl _, rfl⟩, ?_⟩
      refine ⟨_, ⟨LV.le.refl _, rfl⟩, ?_⟩
      refine ⟨_, ⟨LV.le.refl _, rfl⟩, ?_⟩
      refine ⟨_, ⟨LV.le.refl _, rfl⟩, ?_⟩
      refine ⟨_, ⟨LV.le.refl _, rfl⟩, ?_⟩
      refine ⟨True.intro, ?_⟩
      refine ⟨fun s => ?_, fun s => ?_⟩
      · have s : ((m.pq q).2.length : Int) > 64 := dT s
        exact ⟨LV.le.bF fun hall => absurd (hall q hq) (by unfold PipeOk; omega), rfl⟩
      · have s : ¬ ((m.pq q).2.length : Int) > 64 := dF s
        exact ⟨q + 1, ⟨(by omega : q + 1 ≤ m.nQ), upTo hp ⟨by omega, by omega, fun hc => absurd hc (by omega), by omega⟩⟩, (by omega : m.nQ - (q + 1) < m.nQ - q), .le ⟨rfl, ⟨rfl, Nat.le_of_ble_eq_true rfl⟩, ⟨LV.le.int eq, rfl, LV.le.refl _, rfl, LV.le.refl _, rfl, LV.le.refl _, rfl, trivial⟩, ⟨⟨_, rfl, LO.le.refl _⟩, rfl, rfl, trivial⟩⟩⟩
    by_cases y : (m.pq (q - 1)).1 ≥ (m.pq q).1
    · refine DrawA.run Tryz.tab2Ok Tryz.mixed [0, 1, 3, 7, 15, 7, 39, 127, 255, 511, 7, 1031, 4095, 8191, 16383, 32767, 65535, 32767, 163839, 425983, 1048575, 2097151, 4194303, 8388607, 16777215, 33554431, 67108863, 134217727, 268435455] [] rfl ?_
      refine ⟨_, ⟨LV.le.refl _, rfl⟩, ?_⟩
      refine ⟨.v (.bool true), ⟨LV.le.bsV (decide_eq_true (by omega)), rfl⟩, ?_⟩
      refine ⟨_, ⟨LV.le.refl _, rfl⟩, ?_⟩
      refine ⟨_, ⟨LV.le.refl _, rfl⟩, ?_⟩
      refine ⟨_, ⟨LV.le.refl _, rfl⟩, ?_⟩
      refine ⟨_, ⟨LV.le.refl _, rfl⟩, ?_⟩
      refine ⟨iv ((q - 1 : Nat) : Int), ⟨LV.le.int (by rw [w64] <;> omega), rfl⟩, ?_⟩
      refine ⟨_, ⟨⟨by omega, by omega⟩, LV.le.refl _, rfl⟩, ?_⟩
      refine ⟨_, ⟨LV.le.refl _, rfl⟩, ?_⟩
      refine ⟨_, ⟨LV.le.refl _, rfl⟩, ?_⟩
      refine ⟨_, ⟨LV.le.refl _, rfl⟩, ?_⟩
      refine ⟨_, ⟨LV.le.refl _, rfl⟩, ?_⟩
      refine ⟨.v (.bool true), ⟨LV.le.bsV (decide_eq_true y), rfl⟩, ?_⟩
      refine ⟨_, ⟨LV.le.refl _, rfl⟩, ?_⟩
      refine ⟨_, ⟨LV.le.refl _, rfl⟩, ?_⟩
      refine ⟨_, ⟨LV.le.refl _, rfl⟩, ?_⟩
      refine ⟨_, ⟨LV.le.refl _, rfl⟩, ?_⟩
      refine ⟨_, ⟨LV.le.refl _, rfl⟩, ?_⟩
      refine ⟨_, ⟨LV.le.refl _, rfl⟩, ?_⟩
      refine ⟨_, ⟨LV.le.refl _, rfl⟩, ?_⟩
      refine ⟨_, ⟨LV.le.refl _, rfl⟩, ?_⟩
      refine ⟨_, ⟨LV.le.refl _, rfl⟩, ?_⟩
      refine ⟨_, ⟨LV.le.refl _, rfl⟩, ?_⟩
      refine ⟨_, ⟨LV.le.refl _, rfl⟩, ?_⟩
      refine ⟨_, ⟨LV.le.refl _, rfl⟩, ?_⟩
      refine ⟨_, ⟨LV.le.refl _, rfl⟩, ?_⟩
      refine ⟨_, ⟨LV.le.refl _, rfl⟩, ?_⟩
      refine ⟨_, ⟨LV.le.refl _, rfl⟩, ?_⟩
      refine ⟨_, ⟨LV.le.refl _, rfl⟩, ?_⟩
      refine ⟨True.intro, ?_⟩
      exact ⟨LV.le.bF fun hall => absurd (hall q hq) (by unfold PipeOk; omega), rfl⟩
    by_cases w : 1 ≤ (m.pq q).1 ∧ (m.pq q).1 ≤ m.newPipe - 1
    rotate_left
    · refine DrawA.run Tryz.tab2Ok Tryz.mixed [0, 1, 3, 7, 15, 7, 39, 127, 255, 511, 7, 1031, 4095, 8191, 16383, 32767, 65535, 32767, 163839, 425983, 1048575, 2097151, 4194303, 8388607, 16777215, 33554431, 67108863, 134217727, 268435455] [] rfl ?_
      refine ⟨_, ⟨LV.le.refl _, rfl⟩, ?_⟩
      refine ⟨.v (.bool true), ⟨LV.le.bsV (decide_eq_true (by omega)), rfl⟩, ?_⟩
      refine ⟨_, ⟨LV.le.refl _, rfl⟩, ?_⟩
      refine ⟨_, ⟨LV.le.refl _, rfl⟩, ?_⟩
      refine ⟨_, ⟨LV.le.refl _, rfl⟩, ?_⟩
      refine ⟨_, ⟨LV.le.refl _, rfl⟩, ?_⟩
      refine ⟨iv ((q - 1 : Nat) : Int), ⟨LV.le.int (by rw [w64] <;> omega), rfl⟩, ?_⟩
      refine ⟨_, ⟨⟨by omega, by omega⟩, LV.le.refl _, rfl⟩, ?_⟩
      refine ⟨_, ⟨LV.le.refl _, rfl⟩, ?_⟩
      refine ⟨_, ⟨LV.le.refl _, rfl⟩, ?_⟩
      refine ⟨_, ⟨LV.le.refl _, rfl⟩, ?_⟩
      refine ⟨_, ⟨LV.le.refl _, rfl⟩, ?_⟩
      refine ⟨.v (.bool false), ⟨LV.le.bsV (decide_eq_false y), rfl⟩, ?_⟩
      refine ⟨_, ⟨LV.le.refl _, rfl⟩, ?_⟩
      refine ⟨_, ⟨LV.le.refl _, rfl⟩, ?_⟩
      refine ⟨_, ⟨LV.le.refl _, rfl⟩, ?_⟩
      refine ⟨_, ⟨LV.le.refl _, rfl⟩, ?_⟩
      refine ⟨_, ⟨LV.le.refl _, rfl⟩, ?_⟩
      refine ⟨_, ⟨LV.le.refl _, rfl⟩, ?_⟩
      refine ⟨iv (m.newPipe - 1), ⟨LV.le.int ex, rfl⟩, ?_⟩
      refine ⟨.v (.bool false), Ct.callC (within_ct (m.pq q).1 1 (m.newPipe - 1)) rfl (leL.refl _) ⟨LV.le.bsV (decide_eq_false w), rfl⟩, ?_⟩
      refine ⟨_, ⟨LV.le.refl _, rfl⟩, ?_⟩
      refine ⟨_, ⟨LV.le.refl _, rfl⟩, ?_⟩
      refine ⟨_, ⟨LV.le.refl _, rfl⟩, ?_⟩
      refine ⟨_, ⟨LV.le.refl _, rfl⟩, ?_⟩
      refine ⟨_, ⟨LV.le.refl _, rfl⟩, ?_⟩
      refine ⟨_, ⟨LV.le.refl _, rfl⟩, ?_⟩
      refine ⟨_, ⟨LV.le.refl _, rfl⟩, ?_⟩
      refine ⟨_, ⟨LV.le.refl _, rfl⟩, ?_⟩
      refine ⟨True.intro, ?_⟩
      exact ⟨LV.le.bF fun hall => absurd (hall q hq) (by unfold PipeOk; omega), rfl⟩
    refine DrawA.run Tryz.tab2Ok Tryz.mixed [0, 1, 3, 7, 15, 7, 39, 127, 255, 511, 7, 1031, 4095, 8191, 16383, 32767, 65535, 32767, 163839, 425983, 1048575, 2097151, 4194303, 8388607, 16777215, 33554431, 67108863, 134217727, 268435455] [] rfl ?_
    refine ⟨_, ⟨LV.le.refl _, rfl⟩, ?_⟩
    refine ⟨.v (.bool true), ⟨LV.le.bsV (decide_eq_true (by omega)), rfl⟩, ?_⟩
    refine ⟨_, ⟨LV.le.refl _, rfl⟩, ?_⟩
    refine ⟨_, ⟨LV.le.refl _, rfl⟩, ?_⟩
    refine ⟨_, ⟨LV.le.refl _, rfl⟩, ?_⟩
    refine ⟨_, ⟨LV.le.refl _, rfl⟩, ?_⟩
    refine ⟨iv ((q - 1 : Nat) : Int), ⟨LV.le.int (by rw [w64] <;> omega), rfl⟩, ?_⟩
    refine ⟨_, ⟨⟨by omega, by omega⟩, LV.le.refl _, rfl⟩, ?_⟩
    refine ⟨_, ⟨LV.le.refl _, rfl⟩, ?_⟩
    refine ⟨_, ⟨LV.le.refl _, rfl⟩, ?_⟩
    refine ⟨_, ⟨LV.le.refl _, rfl⟩, ?_⟩
    refine ⟨_, ⟨LV.le.refl _, rfl⟩, ?_⟩
    refine ⟨.v (.bool false), ⟨LV.le.bsV (decide_eq_false y), rfl⟩, ?_⟩
    refine ⟨_, ⟨LV.le.refl _, rfl⟩, ?_⟩
    refine ⟨_, ⟨LV.le.refl _, rfl⟩, ?_⟩
    refine ⟨_, ⟨LV.le.refl _, rfl⟩, ?_⟩
    refine ⟨_, ⟨LV.le.refl _, rfl⟩, ?_⟩
    refine ⟨_, ⟨LV.le.refl _, rfl⟩, ?_⟩
    refine ⟨_, ⟨LV.le.refl _, rfl⟩, ?_⟩
    refine ⟨iv (m.newPipe - 1), ⟨LV.le.int ex, rfl⟩, ?_⟩
    refine ⟨.v (.bool true), Ct.callC (within_ct (m.pq q).1 1 (m.newPipe - 1)) rfl (leL.refl _) ⟨LV.le.bsV (decide_eq_true w), rfl⟩, ?_⟩
    refine ⟨_, ⟨LV.le.refl _, rfl⟩, ?_⟩
    refine ⟨_, ⟨LV.le.refl _, rfl⟩, ?_⟩
    refine ⟨_, ⟨LV.le.refl _, rfl⟩, ?_⟩
    refine ⟨_, ⟨LV.le.refl _, rfl⟩, ?_⟩
    refine ⟨_, ⟨LV.le.refl _, rfl⟩, ?_⟩
    refine ⟨_, ⟨LV.le.refl _, rfl⟩, ?_⟩
    refine ⟨_, ⟨LV.le.refl _, rfl⟩, ?_⟩
    refine ⟨_, ⟨LV.le.refl _, rfl⟩, ?_⟩
    refine ⟨True.intro, ?_⟩
    refine ⟨fun s => ?_, fun s => ?_⟩
    · have s : ((m.pq q).2.length : Int) > 64 := dT s
      exact ⟨LV.le.bF fun hall => absurd (hall q hq) (by unfold PipeOk; omega), rfl⟩
    · have s : ¬ ((m.pq q).2.length : Int) > 64 := dF s
      exact ⟨q + 1, ⟨(by omega : q + 1 ≤ m.nQ), upTo hp ⟨by omega, by omega, fun _ => by omega, by omega⟩⟩, (by omega : m.nQ - (q + 1) < m.nQ - q), .le ⟨rfl, ⟨rfl, Nat.le_of_ble_eq_true rfl⟩, ⟨LV.le.int eq, rfl, LV.le.refl _, rfl, LV.le.refl _, rfl, LV.le.refl _, rfl, trivial⟩, ⟨⟨_, rfl, LO.le.refl _⟩, rfl, rfl, trivial⟩⟩⟩
  · obtain ⟨hj, hp⟩ := hj
    have h := dF h
    have h : ¬ (q : Int) < ((m.nQ : Nat) : Int) := h
    have hn : q = m.nQ := by have : q ≤ m.nQ := hj; omega
    exact ⟨LV.le.bT fun i hi => hp i (by omega), rfl⟩
theorem odd89_ct (s : List UInt8) : Ct Tryz.prog 89 [.str s] (.bs ((s.length : Int) != 128)) := by
  refine Ct.enter Tryz.tab2Ok ft89 ?_
  exact ⟨LV.le.refl _, rfl⟩
theorem odd172_ct (s : List UInt8) : Ct Tryz.prog 172 [.str s] (.bs ((s.length : Int) != 128)) := by
  refine Ct.enter Tryz.tab2Ok ft172 ?_
  exact ⟨LV.le.refl _, rfl⟩
open Classical in
theorem anyOdd89_ct (n : Nat) (w : TL) (hn : n ≤ 1000) : Ct Tryz.prog 91 [.sl 1 n (tx w), .v (.func (.func 89) #[] #[])] (.bs (decide (∃ i, i < n ∧ (w i).length ≠ 128))) := by
  refine Ct.enter Tryz.tab2Ok ft91 ?_
  refine CallA.body Tryz.tab2Ok ft139 ?_
  refine ⟨Nat, fun j => ⟨[(8, iv (j : Int)), (7, iv (n : Int)), (0, .sl 1 n (tx w)), (1, .v (.func (.func 89) #[] #[]))], [], 0, 0⟩, fun j => j ≤ n ∧ (∀ i, i < j → (w i).length = 128), fun j => n - j, 0, ⟨Nat.zero_le _, fun i hi => absurd hi (by omega)⟩, .le ⟨rfl, ⟨rfl, Nat.le_of_ble_eq_true rfl⟩, ⟨LV.le.refl _, rfl, LV.le.refl _, rfl, LV.le.refl _, rfl, LV.le.refl _, rfl, trivial⟩, trivial⟩, fun j hj => ⟨fun h => ?_, fun h => ?_⟩⟩
  · obtain ⟨hj, hp⟩ := hj
    have h := dT h
    have h : (j : Int) < ((n : Nat) : Int) := h
    have hj : j < n := by omega
    have ej := w1 hj (by omega)
    refine ⟨⟨by omega, by omega⟩, ?_⟩
    refine Ct.callC (odd89_ct (w j)) rfl (leL.refl _) ?_
    refine ⟨fun h1 => ?_, fun h1 => ?_⟩
    · have h1 : ((w j).length : Int) ≠ 128 := bnT h1
      exact ⟨LV.le.bD ⟨fun _ => ⟨j, hj, by omega⟩, fun _ => decide_eq_true (by omega)⟩, rfl⟩
    · have h1 : ((w j).length : Int) = 128 := bnF h1
      exact ⟨j + 1, ⟨(by omega : j + 1 ≤ n), upTo hp (by omega)⟩, (by omega : n - (j + 1) < n - j), .le ⟨rfl, ⟨rfl, Nat.le_of_ble_eq_true rfl⟩, ⟨LV.le.int ej, rfl, LV.le.refl _, rfl, LV.le.refl _, rfl, LV.le.refl _, rfl, trivial⟩, trivial⟩⟩
  · obtain ⟨hj, hp⟩ := hj
    have h := dF h
    have h : ¬ (j : Int) < ((n : Nat) : Int) := h
    have hn : j = n := by have : j ≤ n := hj; omega
    exact ⟨LV.le.bD ⟨fun hc => absurd hc (by decide), fun ⟨i, hi, hc⟩ => absurd (hp i (by omega)) hc⟩, rfl⟩
open Classical in
theorem anyOdd172_ct (n : Nat) (w : TL) (hn : n ≤ 1000) : Ct Tryz.prog 91 [.sl 1 n (tx w), .v (.func (.func 172) #[] #[])] (.bs (decide (∃ i, i < n ∧ (w i).length ≠ 128))) := by
  refine Ct.enter Tryz.tab2Ok ft91 ?_
  refine CallA.body Tryz.tab2Ok ft139 ?_
  refine ⟨Nat, fun j => ⟨[(8, iv (j : Int)), (7, iv (n : Int)), (0, .sl 1 n (tx w)), (1, .v (.func (.func 172) #[] #[]))], [], 0, 0⟩, fun j => j ≤ n ∧ (∀ i, i < j → (w i).length = 128), fun j => n - j, 0, ⟨Nat.zero_le _, fun i hi => absurd hi (by omega)⟩, .le ⟨rfl, ⟨rfl, Nat.le_of_ble_eq_true rfl⟩, ⟨LV.le.refl _, rfl, LV.le.refl _, rfl, LV.le.refl _, rfl, LV.le.refl _, rfl, trivial⟩, trivial⟩, fun j hj => ⟨fun h => ?_, fun h => ?_⟩⟩
  · obtain ⟨hj, hp⟩ := hj
    have h := dT h
    have h : (j : Int) < ((n : Nat) : Int) := h
    have hj : j < n := by omega
    have ej := w1 hj (by omega)
    refine ⟨⟨by omega, by omega⟩, ?_⟩
    refine Ct.callC (odd172_ct (w j)) rfl (leL.refl _) ?_
    refine ⟨fun h1 => ?_, fun h1 => ?_⟩
    · have h1 : ((w j).length : Int) ≠ 128 := bnT h1
      exact ⟨LV.le.bD ⟨fun _ => ⟨j, hj, by omega⟩, fun _ => decide_eq_true (by omega)⟩, rfl⟩
    · have h1 : ((w j).length : Int) = 128 := bnF h1
      exact ⟨j + 1, ⟨(by omega : j + 1 ≤ n), upTo hp (by omega)⟩, (by omega : n - (j + 1) < n - j), .le ⟨rfl, ⟨rfl, Nat.le_of_ble_eq_true rfl⟩, ⟨LV.le.int ej, rfl, LV.le.refl _, rfl, LV.le.refl _, rfl, LV.le.refl _, rfl, trivial⟩, trivial⟩⟩
  · obtain ⟨hj, hp⟩ := hj
    have h := dF h
    have h : ¬ (j : Int) < ((n : Nat) : Int) := h
    have hn : j = n := by have : j ≤ n := hj; omega
    exact ⟨LV.le.bD ⟨fun hc => absurd hc (by decide), fun ⟨i, hi, hc⟩ => absurd (hp i (by omega)) hc⟩, rfl⟩
theorem look_ct (m : MM) (w : Int × List UInt8) (_hB : m.nB ≤ 1000) : Ct Tryz.prog 173 [.agg m.drive, iv w.1, .str w.2] (iv (wErr m.nB w)) := by
  refine Ct.enter Tryz.tab2Ok ft173 ?_
  refine ⟨fun a => ?_, fun a => ⟨fun b => ?_, fun b => ⟨fun c => ?_, fun c => ?_⟩⟩⟩
  · have a : w.1 < 0 := dT a
    exact ⟨LV.le.int (by rw [wErr, if_pos (.inl a)]), rfl⟩
  · have b : w.1 ≥ (m.nB : Int) := dT b
    exact ⟨LV.le.int (by rw [wErr, if_pos (.inr b)]), rfl⟩
  · have a : ¬ w.1 < 0 := dF a
    have b : ¬ w.1 ≥ (m.nB : Int) := dF b
    have c : (w.2.length : Int) ≠ 128 := bnT c
    exact ⟨LV.le.int (by rw [wErr, if_neg (by omega), if_pos (by omega)]), rfl⟩
  · have a : ¬ w.1 < 0 := dF a
    have b : ¬ w.1 ≥ (m.nB : Int) := dF b
    have c : (w.2.length : Int) = 128 := bnF c
    exact ⟨LV.le.int (by rw [wErr, if_neg (by omega), if_neg (by omega)]), rfl⟩
open Classical in
theorem dcheck_ct (m : MM) (hB : m.nB ≤ 1000) (hW : m.nW ≤ 1000) : Ct Tryz.prog 142 [.agg m.drive] (iv (drvErr m)) := by
  refine Ct.enter Tryz.tab2Ok ft142 ?_
  refine ⟨fun h0 => ?_, fun h0 => ?_⟩
  · have h0 : (m.nB : Int) > 256 := dT h0
    exact ⟨LV.le.int (by rw [drvErr, if_pos (by omega)]), rfl⟩
  have h0 : ¬ (m.nB : Int) > 256 := dF h0
  refine Ct.callC (anyOdd172_ct m.nB m.bl hB) rfl (leL.refl _) ?_
  refine ⟨fun h1 => ?_, fun h1 => ?_⟩
  · exact ⟨LV.le.int (by rw [drvErr, if_neg (by omega), if_pos (dT h1)]), rfl⟩
  have hno := dF h1
  refine ⟨Nat, fun k => ⟨[(16, iv (k : Int)), (15, iv (m.nW : Int)), (14, .sl 2 m.nW (wvs m.pend)), (1, .lp 0 0)], [(0, .box 28 m.drive)], 1, 0⟩, fun k => k ≤ m.nW ∧ (pErr m.nB m.pend k = 0), fun k => m.nW - k, 0, ⟨Nat.zero_le _, rfl⟩, .le ⟨rfl, ⟨rfl, Nat.le_of_ble_eq_true rfl⟩, ⟨LV.le.refl _, rfl, LV.le.refl _, rfl, LV.le.refl _, rfl, LV.le.refl _, rfl, trivial⟩, ⟨⟨_, rfl, LO.le.refl _⟩, rfl, rfl, trivial⟩⟩, fun k hj => ⟨fun h => ?_, fun h => ?_⟩⟩
  · obtain ⟨hj, hp⟩ := hj
    have h := dT h
    have h : (k : Int) < ((m.nW : Nat) : Int) := h
    have hk : k < m.nW := by omega
    have ek := w1 hk (by omega)
    refine ⟨⟨by omega, by omega⟩, ?_⟩
    refine Ct.callC (look_ct m (m.pend k) hB) rfl (leL.refl _) ?_
    generalize he : wErr m.nB (m.pend k) = e
    refine ⟨fun c => ?_, fun c => ?_⟩
    · have hz := pErr_at (n := m.nB) (f := m.pend) hp hk (by rw [he]; exact bnT c)
      exact ⟨LV.le.int (by rw [drvErr, if_neg (by omega), if_neg hno, hz, he]), rfl⟩
    · exact ⟨k + 1, ⟨(by omega : k + 1 ≤ m.nW), by simp only [pErr]; rw [if_pos hp, he]; exact bnF c⟩, (by omega : m.nW - (k + 1) < m.nW - k), .le ⟨rfl, ⟨rfl, Nat.le_of_ble_eq_true rfl⟩, ⟨LV.le.int ek, rfl, LV.le.refl _, rfl, LV.le.refl _, rfl, LV.le.refl _, rfl, trivial⟩, ⟨⟨_, rfl, LO.le.refl _⟩, rfl, rfl, trivial⟩⟩⟩
  · obtain ⟨hj, hp⟩ := hj
    have h := dF h
    have h : ¬ (k : Int) < ((m.nW : Nat) : Int) := h
    have hn : k = m.nW := by have : k ≤ m.nW := hj; omega
    subst hn
    exact ⟨LV.le.int (by rw [drvErr, if_neg (by omega), if_neg hno, hp]), rfl⟩
open Classical in
theorem bad_ct (m : MM) (hB : m.nB ≤ 1000) (hW : m.nW ≤ 1000) : Ct Tryz.prog 174 [.agg m.drive] (iv (badErr m)) := by
  refine Ct.enter Tryz.tab2Ok ft174 ?_
  refine Ct.callC (dcheck_ct m hB hW) rfl (leL.refl _) ?_
  generalize hd : drvErr m = d
  refine ⟨fun h => ?_, fun h => ⟨fun g => ?_, fun g => ?_⟩⟩
  · exact ⟨LV.le.int (by rw [badErr, hd, if_pos (bnT h)]), rfl⟩
  · have g : (m.nB : Int) ≤ 33 := dT g
    exact ⟨LV.le.int (by rw [badErr, hd, if_neg (by rw [bnF h]; simp), if_pos (by omega)]), rfl⟩
  · have g : ¬ (m.nB : Int) ≤ 33 := dF g
    exact ⟨LV.le.int (by rw [badErr, hd, if_neg (by rw [bnF h]; simp), if_neg (by omega)]), rfl⟩
end Go.Proofs.Aw

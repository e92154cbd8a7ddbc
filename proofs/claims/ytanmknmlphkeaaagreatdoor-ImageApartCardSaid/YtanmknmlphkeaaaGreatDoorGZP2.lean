/- A PART OF THE PROOF: an abstract run of the loaded code over value trees, and the functions walked by it. No condition of its own. -/
import Derived.Test.YtanmknmlphkeaaaGreatDoorZM1
import Derived.Lib.ItoaMem
import Derived.Lib.ItoaLen
namespace Go.Proofs.Aw
open Go Go.Proofs Go.RowKit
set_option maxHeartbeats 4000000
set_option maxRecDepth 100000
theorem itoa_one {n : Int} (h0 : 0 ≤ n) (h1 : n < 10) : Lib.itoa n = [UInt8.ofNat (48 + n.toNat)] := by
  unfold Lib.itoa; rw [if_neg (by omega)]; unfold Lib.decDigits; rw [dif_pos (by omega)]
theorem decDigits_app {u : Nat} (h : 10 ≤ u) : Lib.decDigits u = Lib.decDigits (u / 10) ++ [UInt8.ofNat (48 + u % 10)] := by
  rw [Lib.decDigits]; rw [dif_neg (by omega)]
theorem itoa_big {n : Int} (h : 10 ≤ n) : Lib.itoa n = Lib.itoa (n / 10) ++ Lib.itoa (n % 10) := by
  rw [itoa_one (n := n % 10) (by omega) (by omega)]
  unfold Lib.itoa
  rw [if_neg (by omega), if_neg (by omega), decDigits_app (by omega)]
  congr 2
  · congr 1; omega
  · congr 2; omega
theorem itoa_neg1 {n : Int} (h : n < 0) : Lib.itoa n = 45 :: Lib.itoa (-n) := by
  unfold Lib.itoa; rw [if_pos h, if_neg (by omega)]; congr 2
  omega
theorem itoa_len {n : Int} (h0 : -9223372036854775808 ≤ n) (h1 : n ≤ 9223372036854775807) : (Lib.itoa n).length ≤ 21 := Lib.itoa_length_le n h0 h1
theorem tdm (n : Int) : (0 ≤ n ∧ n.tdiv 10 = n / 10 ∧ n.tmod 10 = n % 10) ∨ (n < 0 ∧ n.tdiv 10 = -((-n) / 10) ∧ n.tmod 10 = -((-n) % 10)) := by
  by_cases h : 0 ≤ n
  · exact .inl ⟨h, Int.tdiv_eq_ediv_of_nonneg h, Int.tmod_eq_emod_of_nonneg h⟩
  · refine .inr ⟨by omega, ?_, ?_⟩
    · rw [← Int.tdiv_eq_ediv_of_nonneg (by omega : 0 ≤ -n), Int.neg_tdiv]; omega
    · rw [← Int.tmod_eq_emod_of_nonneg (by omega : 0 ≤ -n), Int.neg_tmod]; omega
theorem rdec_one (n : Int) (h0 : 0 ≤ n) (h1 : n < 10) : Ct Tryz.prog 150 [.v (.int .i64 n)] (.str (Lib.itoa n)) := by
  refine Ct.enter Tryz.tabOk ft150 ?_
  refine ⟨fun h => ⟨fun h2 => ?_, fun h2 => ?_⟩, fun h => ?_⟩
  · refine ⟨[UInt8.ofNat (48 + n.toNat)], ⟨rfl, fun i (hi : i < 1) => ?_⟩, ?_⟩
    · obtain rfl : i = 0 := by omega
      exact congrArg (fun z => [LV.v (.int .u8 z)]) (by
        show IntKind.u8.wrap (IntKind.i64.wrap (48 + n)) = ((UInt8.ofNat (48 + n.toNat)).toNat : Int)
        rw [w64 (by omega) (by omega), w8 _ (48 + n.toNat) (by omega) (by omega)])
    · exact ⟨LV.le.eq (congrArg LV.str (itoa_one h0 h1).symm), rfl⟩
  · have h2 : ¬ n < 10 := dF h2
    omega
  · have h : ¬ n ≥ 0 := dF h
    omega
theorem rdec_ct : ∀ (f : Nat) (n : Int), n.natAbs ≤ f → -9223372036854775808 ≤ n → n ≤ 9223372036854775807 → Ct Tryz.prog 150 [.v (.int .i64 n)] (.str (Lib.itoa n))
  | f, n, hf, h0, h1 => by
    by_cases hs : 0 ≤ n ∧ n < 10
    · exact rdec_one n hs.1 hs.2
    by_cases hm : -10 < n ∧ n < 0
    · refine Ct.enter Tryz.tabOk ft150 ?_
      refine ⟨fun h => ?_, fun h => ⟨fun h3 => ⟨fun h4 => ?_, fun h4 => ?_⟩, fun h3 => ?_⟩⟩
      · have h : n ≥ 0 := dT h
        omega
      · refine Ct.callC (rdec_one (-n) (by omega) (by omega)) rfl ⟨_, _, rfl, LV.le.int (by rw [w64 (by omega) (by omega)]; omega), rfl⟩ ?_
        have hl := itoa_len (n := -n) (by omega) (by omega)
        refine ⟨by show 1 + (Lib.itoa (-n)).length ≤ _; omega, ?_⟩
        exact ⟨LV.le.eq (congrArg LV.str (itoa_neg1 hm.2).symm), rfl⟩
      · have h4 : ¬ n > -10 := dF h4
        omega
      · have h3 : ¬ n < 0 := dF h3
        omega
    have tq := tdm n
    have hl1 := itoa_len (n := n.tdiv 10) (by omega) (by omega)
    cases f with
    | zero => omega
    | succ f =>
    have hq : IntKind.i64.wrap (n.tdiv 10) = n.tdiv 10 := w64 (by omega) (by omega)
    have ih1 := rdec_ct f (n.tdiv 10) (by omega) (by omega) (by omega)
    refine Ct.enter Tryz.tabOk ft150 ?_
    refine ⟨fun h => ⟨fun h2 => ?_, fun h2 => ⟨fun h3 => ?_, fun _ => ?_⟩⟩, fun h => ⟨fun h3 => ⟨fun h4 => ?_, fun h4 => ?_⟩, fun h3 => ?_⟩⟩
    · have h : n ≥ 0 := dT h
      have h2 : n < 10 := dT h2
      omega
    · have h : n ≥ 0 := dT h
      have h3 : n < 0 := dT h3
      omega
    · have h : n ≥ 0 := dT h
      have h2 : ¬ n < 10 := dF h2
      have hr : n.tmod 10 = n % 10 := Int.tmod_eq_emod_of_nonneg h
      have hd : n.tdiv 10 = n / 10 := Int.tdiv_eq_ediv_of_nonneg h
      refine ⟨by decide, ⟨fun h5 => ?_, fun h5 => ?_⟩⟩
      · have h5 : n.tmod 10 < 0 := dT h5
        omega
      · refine ⟨by decide, ?_⟩
        refine Ct.callC ih1 rfl ⟨_, _, rfl, LV.le.int hq, rfl⟩ ?_
        refine Ct.callC (rdec_one (n.tmod 10) (by omega) (by omega)) rfl (leL.refl _) ?_
        have hl2 := itoa_len (n := n.tmod 10) (by omega) (by omega)
        refine ⟨by show (Lib.itoa (n.tdiv 10)).length + (Lib.itoa (n.tmod 10)).length ≤ _; omega, ?_⟩
        exact ⟨LV.le.eq (congrArg LV.str (by rw [hr, hd, ← itoa_big (by omega)])), rfl⟩
    · have h3 : n < 0 := dT h3
      have h4 : n > -10 := dT h4
      omega
    · have h3 : n < 0 := dT h3
      have h4 : ¬ n > -10 := dF h4
      have hr : n.tmod 10 = -((-n) % 10) := by omega
      have hd : n.tdiv 10 = -((-n) / 10) := by omega
      have hl2 := itoa_len (n := -(n.tmod 10)) (by omega) (by omega)
      have key : Lib.itoa (n.tdiv 10) ++ Lib.itoa (-(n.tmod 10)) = Lib.itoa n := by
        rw [itoa_neg1 (n := n.tdiv 10) (by omega), itoa_neg1 (n := n) h3, itoa_big (n := -n) (by omega), hr, hd, Int.neg_neg, Int.neg_neg]; rfl
      refine ⟨by decide, ⟨fun h5 => ?_, fun h5 => ?_⟩⟩
      · refine ⟨by decide, ?_⟩
        refine Ct.callC ih1 rfl ⟨_, _, rfl, LV.le.int hq, rfl⟩ ?_
        refine Ct.callC (rdec_one (-(n.tmod 10)) (by omega) (by omega)) rfl ⟨_, _, rfl, LV.le.int (by rw [w64 (by omega) (by omega)]; omega), rfl⟩ ?_
        refine ⟨by show (Lib.itoa (n.tdiv 10)).length + (Lib.itoa (-(n.tmod 10))).length ≤ _; omega, ?_⟩
        exact ⟨LV.le.eq (congrArg LV.str key), rfl⟩
      · have h5 : ¬ n.tmod 10 < 0 := dF h5
        have e0 : -(n.tmod 10) = n.tmod 10 := by omega
        rw [e0] at key hl2
        refine ⟨by decide, ?_⟩
        refine Ct.callC ih1 rfl ⟨_, _, rfl, LV.le.int hq, rfl⟩ ?_
        refine Ct.callC (rdec_one (n.tmod 10) (by omega) (by omega)) rfl (leL.refl _) ?_
        refine ⟨by show (Lib.itoa (n.tdiv 10)).length + (Lib.itoa (n.tmod 10)).length ≤ _; omega, ?_⟩
        exact ⟨LV.le.eq (congrArg LV.str key), rfl⟩
    · have h : ¬ n ≥ 0 := dF h
      have h3 : ¬ n < 0 := dF h3
      omega
theorem rnum_ct (n : Int) (h0 : -9223372036854775808 ≤ n) (h1 : n ≤ 9223372036854775807) : Ct Tryz.prog 99 [.v (.int .i64 n)] (.str (Lib.itoa n)) := by
  refine Ct.enter Tryz.tabOk ft99 ?_
  refine Ct.callC (rdec_ct n.natAbs n (Nat.le_refl _) h0 h1) rfl (leL.refl _) ?_
  exact ⟨LV.le.refl _, rfl⟩
def flagB (b : Bool) : List UInt8 := if b then [49] else [48]
theorem flag_ct (b : Bool) : Ct Tryz.prog 44 [.bs b] (.str (flagB b)) := by
  refine Ct.enter Tryz.tabOk ft44 ?_
  refine ⟨fun h => ?_, fun h => ?_⟩
  · exact ⟨LV.le.eq (congrArg LV.str (by rw [h]; rfl)), rfl⟩
  · exact ⟨LV.le.eq (congrArg LV.str (by rw [h]; rfl)), rfl⟩
theorem rflag_ct (b : Bool) : Ct Tryz.prog 100 [.bs b] (.str (flagB b)) := by
  refine Ct.enter Tryz.tabOk ft100 ?_
  refine ⟨fun h => ?_, fun h => ?_⟩
  · exact ⟨LV.le.eq (congrArg LV.str (by rw [h]; rfl)), rfl⟩
  · exact ⟨LV.le.eq (congrArg LV.str (by rw [h]; rfl)), rfl⟩
end Go.Proofs.Aw
namespace Go.Proofs.Aw
open Go Go.Proofs Go.RowKit
set_option maxHeartbeats 8000000
set_option maxRecDepth 100000
def Liv (p : PV) : Prop := p.st = 1 ∨ p.st = 2
def LivAt (m : MM) (pid : Int) : Prop := ∃ i, i < m.nP ∧ (m.ps i).pid = pid ∧ Liv (m.ps i)
open Classical in
theorem rlives_ct (m : MM) (pid : Int) (hn : m.nP ≤ 1000) : Ct Tryz.prog 78 [.agg m.c, iv pid] (.bs (decide (LivAt m pid))) := by
  refine Ct.enter Tryz.tab2Ok ft78 ?_
  refine ⟨Nat, fun j => ⟨[(10, iv (j : Int)), (9, iv (m.nP : Int)), (8, .sl 96 m.nP m.pc), (1, iv pid)], [], 0, 0⟩, fun j => j ≤ m.nP ∧ (∀ i, i < j → ¬ ((m.ps i).pid = pid ∧ Liv (m.ps i))), fun j => m.nP - j, 0, ⟨Nat.zero_le _, fun i hi => absurd hi (by omega)⟩, .le ⟨rfl, ⟨rfl, Nat.le_of_ble_eq_true rfl⟩, ⟨LV.le.refl _, rfl, LV.le.refl _, rfl, LV.le.refl _, rfl, LV.le.refl _, rfl, trivial⟩, trivial⟩, fun j hj => ⟨fun h => ?_, fun h => ?_⟩⟩
  · obtain ⟨hj, hp⟩ := hj
    have h := dT h
    have h : (j : Int) < ((m.nP : Nat) : Int) := h
    have hj : j < m.nP := by omega
    have ej := w1 hj (by omega)
    refine ⟨⟨by omega, by omega⟩, ⟨fun h1 => ⟨fun h2 => ?_, fun h2 => ⟨fun h3 => ?_, fun h3 => ?_⟩⟩, fun h1 => ?_⟩⟩
    · exact ⟨LV.le.bT ⟨j, hj, beT h1, .inl (beT h2)⟩, rfl⟩
    · exact ⟨LV.le.bT ⟨j, hj, beT h1, .inr (beT h3)⟩, rfl⟩
    · exact ⟨j + 1, ⟨(by omega : j + 1 ≤ m.nP), fun i hi => by
        rcases (by omega : i < j ∨ i = j) with h4 | rfl
        · exact hp i h4
        · exact fun hc => hc.2.elim (beF h2) (beF h3)⟩, (by omega : m.nP - (j + 1) < m.nP - j), .le ⟨rfl, ⟨rfl, Nat.le_of_ble_eq_true rfl⟩, ⟨LV.le.int ej, rfl, LV.le.refl _, rfl, LV.le.refl _, rfl, LV.le.refl _, rfl, trivial⟩, trivial⟩⟩
    · exact ⟨j + 1, ⟨(by omega : j + 1 ≤ m.nP), fun i hi => by
        rcases (by omega : i < j ∨ i = j) with h4 | rfl
        · exact hp i h4
        · exact fun hc => beF h1 hc.1⟩, (by omega : m.nP - (j + 1) < m.nP - j), .le ⟨rfl, ⟨rfl, Nat.le_of_ble_eq_true rfl⟩, ⟨LV.le.int ej, rfl, LV.le.refl _, rfl, LV.le.refl _, rfl, LV.le.refl _, rfl, trivial⟩, trivial⟩⟩
  · obtain ⟨hj, hp⟩ := hj
    have h := dF h
    have h : ¬ (j : Int) < ((m.nP : Nat) : Int) := h
    have hn : j = m.nP := by have : j ≤ m.nP := hj; omega
    exact ⟨LV.le.bF fun ⟨i, hi, hc⟩ => hp i (by omega) hc, rfl⟩
end Go.Proofs.Aw
namespace Go.Proofs.Aw
open Go Go.Proofs Go.RowKit
set_option maxHeartbeats 8000000
set_option maxRecDepth 100000
def cntP (p : PV) (fr : Int) : Nat → Nat
  | 0 => 0
  | k + 1 => cntP p fr k + if (p.pt k).1 = true ∧ (p.pt k).2.2 = fr then 1 else 0
def usr (m : MM) (fr : Int) : Nat → Nat
  | 0 => 0
  | j + 1 => usr m fr j + cntP (m.ps j) fr 16
theorem cntP_le (p : PV) (fr : Int) : ∀ k, cntP p fr k ≤ k
  | 0 => Nat.le_refl _
  | k + 1 => by have := cntP_le p fr k; simp only [cntP]; split <;> omega
theorem usr_le (m : MM) (fr : Int) : ∀ j, usr m fr j ≤ 16 * j
  | 0 => Nat.le_refl _
  | j + 1 => by have := usr_le m fr j; have := cntP_le (m.ps j) fr 16; simp only [usr]; omega
theorem users_ct (m : MM) (fr : Int) (hn : m.nP ≤ 1000) : Ct Tryz.prog 79 [.agg m.c, iv fr] (iv (usr m fr m.nP : Int)) := by
  refine Ct.enter Tryz.tab2Ok ft79 ?_
  refine ⟨Nat, fun j => ⟨[(13, iv (j : Int)), (12, iv (m.nP : Int)), (11, .sl 96 m.nP m.pc), (1, iv fr), (5, iv (usr m fr j : Int))], [], 0, 0⟩, fun j => j ≤ m.nP ∧ True, fun j => m.nP - j, 0, ⟨Nat.zero_le _, True.intro⟩, .le ⟨rfl, ⟨rfl, Nat.le_of_ble_eq_true rfl⟩, ⟨LV.le.refl _, rfl, LV.le.refl _, rfl, LV.le.refl _, rfl, LV.le.refl _, rfl, LV.le.refl _, rfl, trivial⟩, trivial⟩, fun j hj => ⟨fun h => ?_, fun h => ?_⟩⟩
  · obtain ⟨hj, hp⟩ := hj
    have h := dT h
    have h : (j : Int) < ((m.nP : Nat) : Int) := h
    have hj : j < m.nP := by omega
    have ej := w1 hj (by omega)
    have b1 := usr_le m fr j
    refine ⟨⟨by omega, by omega⟩, ?_⟩
    refine ⟨Nat, fun k => ⟨[(19, iv (k : Int)), (13, iv (j : Int)), (12, iv (m.nP : Int)), (11, .sl 96 m.nP m.pc), (1, iv fr), (5, iv ((usr m fr j + cntP (m.ps j) fr k : Nat) : Int)), (18, .agg (m.ps j).ptc)], [], 0, 0⟩, fun k => k ≤ 16 ∧ True, fun k => 16 - k, 0, ⟨Nat.zero_le _, True.intro⟩, .le ⟨rfl, ⟨rfl, Nat.le_of_ble_eq_true rfl⟩, ⟨LV.le.refl _, rfl, LV.le.refl _, rfl, LV.le.refl _, rfl, LV.le.refl _, rfl, LV.le.refl _, rfl, LV.le.refl _, rfl, LV.le.refl _, rfl, trivial⟩, trivial⟩, fun k hj => ⟨fun h => ?_, fun h => ?_⟩⟩
    · obtain ⟨hk, _⟩ := hj
      have h := dT h
      have h : (k : Int) < 16 := h
      have hk : k < 16 := by omega
      have ek := w1 hk (by omega)
      have b2 := cntP_le (m.ps j) fr k
      refine ⟨⟨by omega, by omega⟩, loadK_at _ (pt_at (m.ps j) k hk) ?_⟩
      refine ⟨fun h1 => ⟨fun h2 => ?_, fun h2 => ?_⟩, fun h1 => ?_⟩
      · exact ⟨k + 1, ⟨(by omega : k + 1 ≤ 16), True.intro⟩, (by omega : 16 - (k + 1) < 16 - k), .le ⟨rfl, ⟨rfl, Nat.le_of_ble_eq_true rfl⟩, ⟨LV.le.int ek, rfl, LV.le.refl _, rfl, LV.le.refl _, rfl, LV.le.refl _, rfl, LV.le.refl _, rfl, LV.le.int (by rw [w64 (by omega) (by omega)]; simp only [cntP]; rw [if_pos ⟨h1, beT h2⟩]; omega), rfl, LV.le.refl _, rfl, trivial⟩, trivial⟩⟩
      · exact ⟨k + 1, ⟨(by omega : k + 1 ≤ 16), True.intro⟩, (by omega : 16 - (k + 1) < 16 - k), .le ⟨rfl, ⟨rfl, Nat.le_of_ble_eq_true rfl⟩, ⟨LV.le.int ek, rfl, LV.le.refl _, rfl, LV.le.refl _, rfl, LV.le.refl _, rfl, LV.le.refl _, rfl, LV.le.int (by simp only [cntP]; rw [if_neg fun hc => beF h2 hc.2]; rfl), rfl, LV.le.refl _, rfl, trivial⟩, trivial⟩⟩
      · exact ⟨k + 1, ⟨(by omega : k + 1 ≤ 16), True.intro⟩, (by omega : 16 - (k + 1) < 16 - k), .le ⟨rfl, ⟨rfl, Nat.le_of_ble_eq_true rfl⟩, ⟨LV.le.int ek, rfl, LV.le.refl _, rfl, LV.le.refl _, rfl, LV.le.refl _, rfl, LV.le.refl _, rfl, LV.le.int (by simp only [cntP]; rw [if_neg fun hc => by rw [hc.1] at h1; cases h1]; rfl), rfl, LV.le.refl _, rfl, trivial⟩, trivial⟩⟩
    · obtain ⟨hk, _⟩ := hj
      have h := dF h
      have h : ¬ (k : Int) < 16 := h
      obtain rfl : k = 16 := by omega
      exact ⟨j + 1, ⟨(by omega : j + 1 ≤ m.nP), True.intro⟩, (by omega : m.nP - (j + 1) < m.nP - j), .le ⟨rfl, ⟨rfl, Nat.le_of_ble_eq_true rfl⟩, ⟨LV.le.int ej, rfl, LV.le.refl _, rfl, LV.le.refl _, rfl, LV.le.refl _, rfl, LV.le.refl _, rfl, trivial⟩, trivial⟩⟩
  · obtain ⟨hj, hp⟩ := hj
    have h := dF h
    have h : ¬ (j : Int) < ((m.nP : Nat) : Int) := h
    have hn : j = m.nP := by have : j ≤ m.nP := hj; omega
    subst hn
    exact ⟨LV.le.refl _, rfl⟩
end Go.Proofs.Aw
namespace Go.Proofs.Aw
open Go Go.Proofs Go.RowKit
set_option maxHeartbeats 8000000
set_option maxRecDepth 100000
def PipeAt (m : MM) (id : Int) : Prop := ∃ i, i < m.nQ ∧ (m.pq i).1 = id
open Classical in
theorem rpipe_ct (m : MM) (id : Int) (hn : m.nQ ≤ 9223372036854775807) : Ct Tryz.prog 131 [.agg m.c, iv id] (.tup [.agg [.any, .any], .bs (decide (PipeAt m id))]) := by
  refine Ct.enter Tryz.tab2Ok ft131 ?_
  refine ⟨Nat, fun j => ⟨[(11, iv (j : Int)), (10, iv (m.nQ : Int)), (9, .sl 2 m.nQ (wvs m.pq)), (1, iv id), (4, .lp 1 0)], [(1, .box 80 [iv 0, .str []])], 2, 0⟩, fun j => j ≤ m.nQ ∧ (∀ i, i < j → ¬ (m.pq i).1 = id), fun j => m.nQ - j, 0, ⟨Nat.zero_le _, fun i hi => absurd hi (by omega)⟩, .le ⟨rfl, ⟨rfl, Nat.le_of_ble_eq_true rfl⟩, ⟨LV.le.refl _, rfl, LV.le.refl _, rfl, LV.le.refl _, rfl, LV.le.refl _, rfl, LV.le.refl _, rfl, trivial⟩, ⟨⟨_, rfl, LO.le.refl _⟩, rfl, rfl, trivial⟩⟩, fun j hj => ⟨fun h => ?_, fun h => ?_⟩⟩
  · obtain ⟨hj, hp⟩ := hj
    have h := dT h
    have h : (j : Int) < ((m.nQ : Nat) : Int) := h
    have hj : j < m.nQ := by omega
    have ej := w1 hj (by omega)
    refine ⟨⟨by omega, by omega⟩, ⟨fun h1 => ?_, fun h1 => ?_⟩⟩
    · exact ⟨LV.le.tup ⟨_, _, rfl, LV.le.agg ⟨_, _, rfl, LV.le.any _, _, _, rfl, LV.le.any _, rfl⟩, _, _, rfl, LV.le.bT ⟨j, hj, beT h1⟩, rfl⟩, rfl⟩
    · exact ⟨j + 1, ⟨(by omega : j + 1 ≤ m.nQ), fun i hi => by
        rcases (by omega : i < j ∨ i = j) with h4 | rfl
        · exact hp i h4
        · exact beF h1⟩, (by omega : m.nQ - (j + 1) < m.nQ - j), .le ⟨rfl, ⟨rfl, Nat.le_of_ble_eq_true rfl⟩, ⟨LV.le.int ej, rfl, LV.le.refl _, rfl, LV.le.refl _, rfl, LV.le.refl _, rfl, LV.le.refl _, rfl, trivial⟩, ⟨⟨_, rfl, LO.le.refl _⟩, rfl, rfl, trivial⟩⟩⟩
  · obtain ⟨hj, hp⟩ := hj
    have h := dF h
    have h : ¬ (j : Int) < ((m.nQ : Nat) : Int) := h
    have hn : j = m.nQ := by have : j ≤ m.nQ := hj; omega
    exact ⟨LV.le.tup ⟨_, _, rfl, LV.le.agg ⟨_, _, rfl, LV.le.any _, _, _, rfl, LV.le.any _, rfl⟩, _, _, rfl, LV.le.bF fun ⟨i, hi, hc⟩ => hp i (by omega) hc, rfl⟩, rfl⟩
def FdOk (m : MM) (f : Int × Int × Int) : Prop :=
  ((f.1 = 0 ∨ f.1 = 1 ∨ f.1 = 2) ∧ f.2.1 = 0 ∧ f.2.2 = 0) ∨ (f.1 = 3 ∧ 1 ≤ f.2.1 ∧ f.2.1 ≤ 64 ∧ 0 ≤ f.2.2 ∧ f.2.2 ≤ 8960) ∨ ((f.1 = 4 ∨ f.1 = 5) ∧ f.2.2 = 0 ∧ PipeAt m f.2.1)
open Classical in
theorem rfd_ct (m : MM) (f : Int × Int × Int) (hn : m.nQ ≤ 9223372036854775807) : Ct Tryz.prog 80 [.agg m.c, .agg (fde f)] (.bs (decide (FdOk m f))) := by
  obtain ⟨k, n, p⟩ := f
  refine Ct.enter Tryz.tab2Ok ft80 ?_
  refine Ct.callC (rpipe_ct m n hn) rfl (leL.refl _) ?_
  generalize hq : decide (PipeAt m n) = q
  have low : (k = 0 ∨ k = 1 ∨ k = 2) → (n = 0 ∧ p = 0 ↔ FdOk m (k, n, p)) := fun hk => by
    constructor
    · exact fun h => .inl ⟨hk, h⟩
    · rintro (⟨_, h⟩ | ⟨h, _⟩ | ⟨h, _⟩)
      · exact h
      · simp only at h; omega
      · simp only at h; omega
  have three : k = 3 → ((1 ≤ n ∧ n ≤ 64) ∧ 0 ≤ p ∧ p ≤ 8960 ↔ FdOk m (k, n, p)) := fun hk => by
    constructor
    · exact fun h => .inr (.inl ⟨hk, h.1.1, h.1.2, h.2.1, h.2.2⟩)
    · rintro (⟨h, _⟩ | ⟨_, h⟩ | ⟨h, _⟩)
      · simp only at h; omega
      · exact ⟨⟨h.1, h.2.1⟩, h.2.2.1, h.2.2.2⟩
      · simp only at h; omega
  have four : (k = 4 ∨ k = 5) → (p = 0 ∧ PipeAt m n ↔ FdOk m (k, n, p)) := fun hk => by
    constructor
    · exact fun h => .inr (.inr ⟨hk, h⟩)
    · rintro (⟨h, _⟩ | ⟨h, _⟩ | ⟨_, h⟩)
      · simp only at h; omega
      · simp only at h; omega
      · exact h
  have hqq : q = true ↔ PipeAt m n := by rw [← hq]; simp
  refine ⟨fun h0 => ⟨fun _ => ?_, fun hx => absurd h0 (by rw [hx]; simp)⟩, fun h0 => ⟨fun h1 => ⟨fun _ => ?_, fun hx => absurd h1 (by rw [hx]; simp)⟩, fun h1 => ⟨fun h2 => ?_, fun h2 => ⟨fun h3 => ?_, fun h3 => ⟨fun h4 => ⟨fun _ => ?_, fun hx => absurd h4 (by rw [hx]; simp)⟩, fun h4 => ⟨fun h5 => ?_, fun h5 => ?_⟩⟩⟩⟩⟩⟩
  · refine ⟨fun a => ?_, fun a => ?_⟩
    · exact ⟨LV.le.bD (by rw [← low (.inl (beT h0))]; simp; exact fun _ => beT a), rfl⟩
    · exact ⟨LV.le.bF fun h => beF a ((low (.inl (beT h0))).2 h).1, rfl⟩
  · refine ⟨fun a => ?_, fun a => ?_⟩
    · exact ⟨LV.le.bD (by rw [← low (.inr (.inl (beT h1)))]; simp; exact fun _ => beT a), rfl⟩
    · exact ⟨LV.le.bF fun h => beF a ((low (.inr (.inl (beT h1)))).2 h).1, rfl⟩
  · refine ⟨fun a => ?_, fun a => ?_⟩
    · exact ⟨LV.le.bD (by rw [← low (.inr (.inr (beT h2)))]; simp; exact fun _ => beT a), rfl⟩
    · exact ⟨LV.le.bF fun h => beF a ((low (.inr (.inr (beT h2)))).2 h).1, rfl⟩
  · have g := three (beT h3)
    refine ⟨fun a => ⟨fun b => ⟨fun c => ?_, fun c => ?_⟩, fun b => ?_⟩, fun a => ?_⟩
    · exact ⟨LV.le.bD (by rw [← g]; have a : n ≥ 1 := dT a; have b : n ≤ 64 := dT b; have c : p ≥ 0 := dT c; show decide (p ≤ 8960) = true ↔ _; rw [decide_eq_true_iff]; omega), rfl⟩
    · exact ⟨LV.le.bF fun h => by have := g.2 h; have c : ¬ p ≥ 0 := dF c; omega, rfl⟩
    · exact ⟨LV.le.bF fun h => by have := g.2 h; have b : ¬ n ≤ 64 := dF b; omega, rfl⟩
    · exact ⟨LV.le.bF fun h => by have := g.2 h; have a : ¬ n ≥ 1 := dF a; omega, rfl⟩
  · have g := four (.inl (beT h4))
    refine ⟨fun a => ?_, fun a => ?_⟩
    · exact ⟨LV.le.bD (by rw [← g, hqq]; exact ⟨fun h => ⟨beT a, h⟩, fun h => h.2⟩), rfl⟩
    · exact ⟨LV.le.bF fun h => beF a (g.2 h).1, rfl⟩
  · have g := four (.inr (beT h5))
    refine ⟨fun a => ?_, fun a => ?_⟩
    · exact ⟨LV.le.bD (by rw [← g, hqq]; exact ⟨fun h => ⟨beT a, h⟩, fun h => h.2⟩), rfl⟩
    · exact ⟨LV.le.bF fun h => beF a (g.2 h).1, rfl⟩
  · exact ⟨LV.le.bF fun h => by
      have h0 := beF h0; have h1 := beF h1; have h2 := beF h2; have h3 := beF h3; have h4 := beF h4; have h5 := beF h5
      rcases h with ⟨h, _⟩ | ⟨h, _⟩ | ⟨h, _⟩ <;> simp only at h <;> omega, rfl⟩
end Go.Proofs.Aw

/- A PART OF THE PROOF: an abstract run of the loaded code over value trees, and the functions walked by it. No condition of its own. -/
import Derived.Test.YtanmknmlphkeaaaGreatDoorGZM10
namespace Go.Proofs.Aw
open Go Go.Proofs Go.RowKit
set_option maxHeartbeats 8000000
set_option maxRecDepth 100000
def RangeOk (m : MM) : Prop := 1 ≤ m.quantum ∧ m.quantum ≤ 1000 ∧ 0 ≤ m.left ∧ m.left ≤ m.quantum ∧ 0 ≤ m.cur ∧ 1 ≤ m.next ∧ m.next ≤ 1000000000 ∧ 1 ≤ m.newPipe ∧ m.newPipe ≤ 1000000000
def PipeOk (m : MM) (i : Nat) : Prop := 1 ≤ (m.pq i).1 ∧ (m.pq i).1 < m.newPipe ∧ (0 < i → (m.pq (i - 1)).1 < (m.pq i).1) ∧ (m.pq i).2.length ≤ 64
def RowOk (m : MM) (i : Nat) : Prop := (0 < i → (m.ps (i - 1)).pid < (m.ps i).pid) ∧ ProcOk m (m.ps i)
open Classical in
/-- why a machine may not be -/
noncomputable def chkE (m : MM) : Int :=
  if ¬ RangeOk m then 2 else if m.nF < 1 ∨ 64 < m.nF then 6 else if ¬ ∀ i, i < m.nF → (m.fr i).length = 128 then 3 else if 8 < m.nP then 6
  else if ¬ ∀ i, i < m.nP → RowOk m i then 3 else if 64 < m.nQ then 6 else if ¬ ∀ i, i < m.nQ → PipeOk m i then 3
  else if 65536 < m.inp.length ∨ 128 < m.init.length then 6 else diskE m
/-- what is looked at: the bounds of slices that are gone through before their number is checked -/
structure Fits (m : MM) : Prop where
  F : m.nF ≤ 1000
  P : m.nP ≤ 1000
  Q : m.nQ ≤ 9223372036854775807
  B : m.nB ≤ 1000
  W : m.nW ≤ 1000
  D : m.nD ≤ 1000
open Classical in
theorem rcheck_ct (m : MM) (hm : Fits m) : Ct Tryz.prog 10 [.agg m.c] (iv (chkE m)) := by
  have hF := hm.F
  have hP := hm.P
  refine Ct.enter Tryz.tab2Ok ft10 ?_
  refine ⟨fun g0 => ⟨LV.le.int (by have g : m.quantum < 1 := dT g0; rw [chkE, if_pos (by unfold RangeOk; omega)]), rfl⟩, fun g0 => ⟨fun g1 => ⟨LV.le.int (by have g : m.quantum > 1000 := dT g1; rw [chkE, if_pos (by unfold RangeOk; omega)]), rfl⟩, fun g1 => ⟨fun g2 => ⟨LV.le.int (by have g : m.left < 0 := dT g2; rw [chkE, if_pos (by unfold RangeOk; omega)]), rfl⟩, fun g2 => ⟨fun g3 => ⟨LV.le.int (by have g : m.left > m.quantum := dT g3; rw [chkE, if_pos (by unfold RangeOk; omega)]), rfl⟩, fun g3 => ⟨fun g4 => ⟨LV.le.int (by have g : m.cur < 0 := dT g4; rw [chkE, if_pos (by unfold RangeOk; omega)]), rfl⟩, fun g4 => ⟨fun g5 => ⟨LV.le.int (by have g : m.next < 1 := dT g5; rw [chkE, if_pos (by unfold RangeOk; omega)]), rfl⟩, fun g5 => ⟨fun g6 => ⟨LV.le.int (by have g : m.next > 1000000000 := dT g6; rw [chkE, if_pos (by unfold RangeOk; omega)]), rfl⟩, fun g6 => ⟨fun g7 => ⟨LV.le.int (by have g : m.newPipe < 1 := dT g7; rw [chkE, if_pos (by unfold RangeOk; omega)]), rfl⟩, fun g7 => ⟨fun g8 => ⟨LV.le.int (by have g : m.newPipe > 1000000000 := dT g8; rw [chkE, if_pos (by unfold RangeOk; omega)]), rfl⟩, fun g8 => ?_⟩⟩⟩⟩⟩⟩⟩⟩⟩
  replace g0 : ¬ m.quantum < 1 := dF g0
  replace g1 : ¬ m.quantum > 1000 := dF g1
  replace g2 : ¬ m.left < 0 := dF g2
  replace g3 : ¬ m.left > m.quantum := dF g3
  replace g4 : ¬ m.cur < 0 := dF g4
  replace g5 : ¬ m.next < 1 := dF g5
  replace g6 : ¬ m.next > 1000000000 := dF g6
  replace g7 : ¬ m.newPipe < 1 := dF g7
  replace g8 : ¬ m.newPipe > 1000000000 := dF g8
  have e0 : ¬ ¬ RangeOk m := fun hc => hc (by unfold RangeOk; omega)
  clear g0 g1 g2 g3 g4 g5 g6 g7 g8
  refine ⟨fun a => ?_, fun a => ⟨fun b => ?_, fun b => ?_⟩⟩
  · have a : (m.nF : Int) < 1 := dT a
    exact ⟨LV.le.int (by rw [chkE, if_neg e0, if_pos (by omega)]), rfl⟩
  · have b : (m.nF : Int) > 64 := dT b
    exact ⟨LV.le.int (by rw [chkE, if_neg e0, if_pos (by omega)]), rfl⟩
  have a : ¬ (m.nF : Int) < 1 := dF a
  have b : ¬ (m.nF : Int) > 64 := dF b
  have e1 : ¬ (m.nF < 1 ∨ 64 < m.nF) := by omega
  clear a b
  refine ⟨Nat, fun j => ⟨[(70, iv (j : Int)), (69, iv (m.nF : Int)), (68, .sl 1 m.nF (tx m.fr)), (1, .lp 0 0)], [(0, .box 30 m.c)], 1, 0⟩, fun j => j ≤ m.nF ∧ (∀ i, i < j → (m.fr i).length = 128), fun j => m.nF - j, 0, ⟨Nat.zero_le _, fun i hi => absurd hi (by omega)⟩, .le ⟨rfl, ⟨rfl, Nat.le_of_ble_eq_true rfl⟩, ⟨LV.le.refl _, rfl, LV.le.refl _, rfl, LV.le.refl _, rfl, LV.le.refl _, rfl, trivial⟩, ⟨⟨_, rfl, LO.le.refl _⟩, rfl, rfl, trivial⟩⟩, fun j hj => ⟨fun h => ?_, fun h => ?_⟩⟩
  · obtain ⟨hj, hp⟩ := hj
    have h := dT h
    have h : (j : Int) < ((m.nF : Nat) : Int) := h
    have hj : j < m.nF := by omega
    have ej := w1 hj (by omega)
    refine ⟨⟨by omega, by omega⟩, ⟨fun h1 => ?_, fun h1 => ?_⟩⟩
    · have h1 : ((m.fr j).length : Int) ≠ 128 := bnT h1
      exact ⟨LV.le.int (by rw [chkE, if_neg e0, if_neg e1, if_pos fun hall => absurd (hall j hj) (by omega)]), rfl⟩
    · have h1 : ((m.fr j).length : Int) = 128 := bnF h1
      exact ⟨j + 1, ⟨(by omega : j + 1 ≤ m.nF), upTo hp (by omega)⟩, (by omega : m.nF - (j + 1) < m.nF - j), .le ⟨rfl, ⟨rfl, Nat.le_of_ble_eq_true rfl⟩, ⟨LV.le.int ej, rfl, LV.le.refl _, rfl, LV.le.refl _, rfl, LV.le.refl _, rfl, trivial⟩, ⟨⟨_, rfl, LO.le.refl _⟩, rfl, rfl, trivial⟩⟩⟩
  · obtain ⟨hj, hp⟩ := hj
    have h := dF h
    have h : ¬ (j : Int) < ((m.nF : Nat) : Int) := h
    have hn : j = m.nF := by have : j ≤ m.nF := hj; omega
    have e2 : ¬ ¬ ∀ i, i < m.nF → (m.fr i).length = 128 := fun hc => hc fun i hi => hp i (by omega)
    clear hp hj h hn
    refine ⟨fun a => ?_, fun a => ?_⟩
    · have a : (m.nP : Int) > 8 := dT a
      exact ⟨LV.le.int (by rw [chkE, if_neg e0, if_neg e1, if_neg e2, if_pos (by omega)]), rfl⟩
    have a : ¬ (m.nP : Int) > 8 := dF a
    have e3 : ¬ 8 < m.nP := by omega
    clear a
    refine ⟨Nat, fun k => ⟨[(85, iv (k : Int)), (84, iv (m.nP : Int)), (83, .sl 96 m.nP m.pc), (1, .lp 0 0)], [(0, .box 30 m.c)], 1, 0⟩, fun k => k ≤ m.nP ∧ (∀ i, i < k → RowOk m i), fun k => m.nP - k, 0, ⟨Nat.zero_le _, fun i hi => absurd hi (by omega)⟩, .le ⟨rfl, ⟨rfl, Nat.le_of_ble_eq_true rfl⟩, ⟨LV.le.refl _, rfl, LV.le.refl _, rfl, LV.le.refl _, rfl, LV.le.refl _, rfl, trivial⟩, ⟨⟨_, rfl, LO.le.refl _⟩, rfl, rfl, trivial⟩⟩, fun k hj => ⟨fun h => ?_, fun h => ?_⟩⟩
    · obtain ⟨hj, hp⟩ := hj
      have h := dT h
      have h : (k : Int) < ((m.nP : Nat) : Int) := h
      have hk : k < m.nP := by omega
      have ek := w1 hk (by omega)
      refine ⟨⟨by omega, by omega⟩, ?_⟩
      by_cases z : k = 0
      · refine DrawA.run Tryz.tab2Ok Tryz.mixed [0, 1, 3, 7, 15, 7, 39, 127, 255, 511, 7, 1031, 4095, 8191, 16383, 32767, 32767, 131071, 262143, 524287] [] rfl ?_
        refine ⟨_, ⟨LV.le.refl _, rfl⟩, ?_⟩
        refine ⟨.v (.bool false), ⟨LV.le.bsV (decide_eq_false (by omega)), rfl⟩, ?_⟩
        refine ⟨_, ⟨LV.le.refl _, rfl⟩, ?_⟩
        refine ⟨_, ⟨LV.le.refl _, rfl⟩, ?_⟩
        refine ⟨_, ⟨LV.le.refl _, rfl⟩, ?_⟩
        refine ⟨_, ⟨LV.le.refl _, rfl⟩, ?_⟩
        refine ⟨_, ⟨LV.le.refl _, rfl⟩, ?_⟩
        refine ⟨_, ⟨LV.le.refl _, rfl⟩, ?_⟩
        refine ⟨_, ⟨LV.le.refl _, rfl⟩, ?_⟩
        refine ⟨_, ⟨LV.le.refl _, rfl⟩, ?_⟩
        refine ⟨_, ⟨LV.le.refl _, rfl⟩, ?_⟩
        refine ⟨_, ⟨LV.le.refl _, rfl⟩, ?_⟩
        refine ⟨_, ⟨LV.le.refl _, rfl⟩, ?_⟩
        refine ⟨_, ⟨LV.le.refl _, rfl⟩, ?_⟩
        refine ⟨_, ⟨LV.le.refl _, rfl⟩, ?_⟩
        refine ⟨_, ⟨LV.le.refl _, rfl⟩, ?_⟩
        refine ⟨_, ⟨LV.le.refl _, rfl⟩, ?_⟩
        refine ⟨_, Ct.callC (process_ct m (m.ps k) hP hm.Q hF) rfl (leL.refl _) ⟨LV.le.refl _, rfl⟩, ?_⟩
        refine ⟨_, ⟨LV.le.refl _, rfl⟩, ?_⟩
        refine ⟨_, ⟨LV.le.refl _, rfl⟩, ?_⟩
        refine ⟨True.intro, ?_⟩
        refine ⟨fun s => ?_, fun s => ?_⟩
        · exact ⟨LV.le.int (by rw [chkE, if_neg e0, if_neg e1, if_neg e2, if_neg e3, if_pos fun hall => (dF (nbT s)) (hall k hk).2]), rfl⟩
        · exact ⟨k + 1, ⟨(by omega : k + 1 ≤ m.nP), upTo hp ⟨fun hc => absurd hc (by omega), dT (nbF s)⟩⟩, (by omega : m.nP - (k + 1) < m.nP - k), .le ⟨rfl, ⟨rfl, Nat.le_of_ble_eq_true rfl⟩, ⟨LV.le.int ek, rfl, LV.le.refl _, rfl, LV.le.refl _, rfl, LV.le.refl _, rfl, trivial⟩, ⟨⟨_, rfl, LO.le.refl _⟩, rfl, rfl, trivial⟩⟩⟩
      by_cases y : (m.ps (k - 1)).pid ≥ (m.ps k).pid
      · refine DrawA.run Tryz.tab2Ok Tryz.mixed [0, 1, 3, 7, 15, 7, 39, 127, 255, 511, 7, 1031, 4095, 8191, 16383, 32767, 32767, 131071, 262143, 524287] [] rfl ?_
        refine ⟨_, ⟨LV.le.refl _, rfl⟩, ?_⟩
        refine ⟨.v (.bool true), ⟨LV.le.bsV (decide_eq_true (by omega)), rfl⟩, ?_⟩
        refine ⟨_, ⟨LV.le.refl _, rfl⟩, ?_⟩
        refine ⟨_, ⟨LV.le.refl _, rfl⟩, ?_⟩
        refine ⟨_, ⟨LV.le.refl _, rfl⟩, ?_⟩
        refine ⟨_, ⟨LV.le.refl _, rfl⟩, ?_⟩
        refine ⟨iv ((k - 1 : Nat) : Int), ⟨LV.le.int (by rw [w64] <;> omega), rfl⟩, ?_⟩
        refine ⟨_, ⟨⟨by omega, by omega⟩, LV.le.refl _, rfl⟩, ?_⟩
        refine ⟨_, ⟨LV.le.refl _, rfl⟩, ?_⟩
        refine ⟨_, ⟨LV.le.refl _, rfl⟩, ?_⟩
        refine ⟨_, ⟨LV.le.refl _, rfl⟩, ?_⟩
        refine ⟨_, ⟨LV.le.refl _, rfl⟩, ?_⟩
        refine ⟨.v (.bool true), ⟨LV.le.bsV (decide_eq_true y), rfl⟩, ?_⟩
        refine ⟨_, ⟨LV.le.refl _, rfl⟩, ?_⟩
        refine ⟨_, ⟨LV.le.refl _, rfl⟩, ?_⟩
        refine ⟨_, ⟨LV.le.refl _, rfl⟩, ?_⟩
        refine ⟨_, ⟨LV.le.refl _, rfl⟩, ?_⟩
        refine ⟨_, ⟨LV.le.refl _, rfl⟩, ?_⟩
        refine ⟨_, ⟨LV.le.refl _, rfl⟩, ?_⟩
        refine ⟨_, ⟨LV.le.refl _, rfl⟩, ?_⟩
        refine ⟨True.intro, ?_⟩
        exact ⟨LV.le.int (by rw [chkE, if_neg e0, if_neg e1, if_neg e2, if_neg e3, if_pos fun hall => absurd ((hall k hk).1 (by omega)) (by omega)]), rfl⟩
      refine DrawA.run Tryz.tab2Ok Tryz.mixed [0, 1, 3, 7, 15, 7, 39, 127, 255, 511, 7, 1031, 4095, 8191, 16383, 32767, 32767, 131071, 262143, 524287] [] rfl ?_
      refine ⟨_, ⟨LV.le.refl _, rfl⟩, ?_⟩
      refine ⟨.v (.bool true), ⟨LV.le.bsV (decide_eq_true (by omega)), rfl⟩, ?_⟩
      refine ⟨_, ⟨LV.le.refl _, rfl⟩, ?_⟩
      refine ⟨_, ⟨LV.le.refl _, rfl⟩, ?_⟩
      refine ⟨_, ⟨LV.le.refl _, rfl⟩, ?_⟩
      refine ⟨_, ⟨LV.le.refl _, rfl⟩, ?_⟩
      refine ⟨iv ((k - 1 : Nat) : Int), ⟨LV.le.int (by rw [w64] <;> omega), rfl⟩, ?_⟩
      refine ⟨_, ⟨⟨by omega, by omega⟩, LV.le.refl _, rfl⟩, ?_⟩
      refine ⟨_, ⟨LV.le.refl _, rfl⟩, ?_⟩
      refine ⟨_, ⟨LV.le.refl _, rfl⟩, ?_⟩
      refine ⟨_, ⟨LV.le.refl _, rfl⟩, ?_⟩
      refine ⟨_, ⟨LV.le.refl _, rfl⟩, ?_⟩
      refine ⟨.v (.bool false), ⟨LV.le.bsV (decide_eq_false y), rfl⟩, ?_⟩
      refine ⟨_, ⟨LV.le.refl _, rfl⟩, ?_⟩
      refine ⟨_, ⟨LV.le.refl _, rfl⟩, ?_⟩
      refine ⟨_, ⟨LV.le.refl _, rfl⟩, ?_⟩
      refine ⟨_, ⟨LV.le.refl _, rfl⟩, ?_⟩
      refine ⟨_, Ct.callC (process_ct m (m.ps k) hP hm.Q hF) rfl (leL.refl _) ⟨LV.le.refl _, rfl⟩, ?_⟩
      refine ⟨_, ⟨LV.le.refl _, rfl⟩, ?_⟩
      refine ⟨_, ⟨LV.le.refl _, rfl⟩, ?_⟩
      refine ⟨True.intro, ?_⟩
      refine ⟨fun s => ?_, fun s => ?_⟩
      · exact ⟨LV.le.int (by rw [chkE, if_neg e0, if_neg e1, if_neg e2, if_neg e3, if_pos fun hall => (dF (nbT s)) (hall k hk).2]), rfl⟩
      · exact ⟨k + 1, ⟨(by omega : k + 1 ≤ m.nP), upTo hp ⟨fun _ => by omega, dT (nbF s)⟩⟩, (by omega : m.nP - (k + 1) < m.nP - k), .le ⟨rfl, ⟨rfl, Nat.le_of_ble_eq_true rfl⟩, ⟨LV.le.int ek, rfl, LV.le.refl _, rfl, LV.le.refl _, rfl, LV.le.refl _, rfl, trivial⟩, ⟨⟨_, rfl, LO.le.refl _⟩, rfl, rfl, trivial⟩⟩⟩
    · obtain ⟨hj, hp⟩ := hj
      have h := dF h
      have h : ¬ (k : Int) < ((m.nP : Nat) : Int) := h
      have hn : k = m.nP := by have : k ≤ m.nP := hj; omega
      have e4 : ¬ ¬ ∀ i, i < m.nP → RowOk m i := fun hc => hc fun i hi => hp i (by omega)
      clear hp hj h hn
      refine ⟨fun a => ?_, fun a => ?_⟩
      · have a : (m.nQ : Int) > 64 := dT a
        exact ⟨LV.le.int (by rw [chkE, if_neg e0, if_neg e1, if_neg e2, if_neg e3, if_neg e4, if_pos (by omega)]), rfl⟩
      have a : ¬ (m.nQ : Int) > 64 := dF a
      have e5 : ¬ 64 < m.nQ := by omega
      clear a
      refine ⟨Nat, fun q => ⟨[(118, iv (q : Int)), (117, iv (m.nQ : Int)), (116, .sl 2 m.nQ (wvs m.pq)), (1, .lp 0 0)], [(0, .box 30 m.c)], 1, 0⟩, fun q => q ≤ m.nQ ∧ (∀ i, i < q → PipeOk m i), fun q => m.nQ - q, 0, ⟨Nat.zero_le _, fun i hi => absurd hi (by omega)⟩, .le ⟨rfl, ⟨rfl, Nat.le_of_ble_eq_true rfl⟩, ⟨LV.le.refl _, rfl, LV.le.refl _, rfl, LV.le.refl _, rfl, LV.le.refl _, rfl, trivial⟩, ⟨⟨_, rfl, LO.le.refl _⟩, rfl, rfl, trivial⟩⟩, fun q hj => ⟨fun h => ?_, fun h => ?_⟩⟩
      · obtain ⟨hj, hp⟩ := hj
        have h := dT h
        have h : (q : Int) < ((m.nQ : Nat) : Int) := h
        have hq : q < m.nQ := by omega
        have eq := w1 hq (by omega)
        refine ⟨⟨by omega, by omega⟩, ?_⟩
        by_cases a : (m.pq q).1 < 1
        · refine DrawA.run Tryz.tab2Ok Tryz.mixed [0, 1, 3, 7, 15, 31, 15, 79, 255, 511, 1023, 2047, 4095, 8191, 16383, 32767, 16383, 81919, 262143, 524287, 1048575, 16383, 2113535, 8388607, 16777215, 33554431, 67108863, 134217727, 268435455, 536870911, 1073741823, 2147483647] [] rfl ?_
          refine ⟨_, ⟨LV.le.refl _, rfl⟩, ?_⟩
          refine ⟨_, ⟨LV.le.refl _, rfl⟩, ?_⟩
          refine ⟨.v (.bool true), ⟨LV.le.bsV (decide_eq_true a), rfl⟩, ?_⟩
          refine ⟨_, ⟨LV.le.refl _, rfl⟩, ?_⟩
          refine ⟨_, ⟨LV.le.refl _, rfl⟩, ?_⟩
          refine ⟨_, ⟨LV.le.refl _, rfl⟩, ?_⟩
          refine ⟨_, ⟨LV.le.refl _, rfl⟩, ?_⟩
          refine ⟨_, ⟨LV.le.refl _, rfl⟩, ?_⟩
          refine ⟨_, ⟨LV.le.refl _, rfl⟩, ?_⟩
          refine ⟨_, ⟨LV.le.refl _, rfl⟩, ?_⟩
          refine ⟨_, ⟨LV.le.refl _, rfl⟩, ?_⟩
          refine ⟨_, ⟨LV.le.refl _, rfl⟩, ?_⟩
          refine ⟨_, ⟨LV.le.refl _, rfl⟩, ?_⟩
          refine ⟨_, ⟨LV.le.refl _, rfl⟩, ?_⟩
          refine ⟨_, ⟨LV.le.refl _, rfl⟩, ?_⟩
          refine ⟨_, ⟨LV.le.refl _, rfl⟩, ?_⟩
          refine ⟨_, ⟨LV.le.refl _, rfl⟩, ?_⟩
          refine ⟨_, ⟨LV.le.refl _, rfl⟩, ?_⟩
          refine ⟨_, ⟨LV.le.refl _, rfl⟩, ?_⟩
          refine ⟨_, ⟨LV.le.refl _, rfl⟩, ?_⟩
          refine ⟨_, ⟨LV.le.refl _, rfl⟩, ?_⟩
          refine ⟨_, ⟨LV.le.refl _, rfl⟩, ?_⟩
          refine ⟨_, ⟨LV.le.refl _, rfl⟩, ?_⟩
          refine ⟨_, ⟨LV.le.refl _, rfl⟩, ?_⟩
          refine ⟨_, ⟨LV.le.refl _, rfl⟩, ?_⟩
          refine ⟨_, ⟨LV.le.refl _, rfl⟩, ?_⟩
          refine ⟨_, ⟨LV.le.refl _, rfl⟩, ?_⟩
          refine ⟨_, ⟨LV.le.refl _, rfl⟩, ?_⟩
          refine ⟨_, ⟨LV.le.refl _, rfl⟩, ?_⟩
          refine ⟨_, ⟨LV.le.refl _, rfl⟩, ?_⟩
          refine ⟨_, ⟨LV.le.refl _, rfl⟩, ?_⟩
          refine ⟨_, ⟨LV.le.refl _, rfl⟩, ?_⟩
          refine ⟨True.intro, ?_⟩
          exact ⟨LV.le.int (by rw [chkE, if_neg e0, if_neg e1, if_neg e2, if_neg e3, if_neg e4, if_neg e5, if_pos fun hall => absurd (hall q hq) (by unfold PipeOk; omega)]), rfl⟩
        by_cases b : (m.pq q).1 ≥ m.newPipe
        · refine DrawA.run Tryz.tab2Ok Tryz.mixed [0, 1, 3, 7, 15, 31, 15, 79, 255, 511, 1023, 2047, 4095, 8191, 16383, 32767, 16383, 81919, 262143, 524287, 1048575, 16383, 2113535, 8388607, 16777215, 33554431, 67108863, 134217727, 268435455, 536870911, 1073741823, 2147483647] [] rfl ?_
          refine ⟨_, ⟨LV.le.refl _, rfl⟩, ?_⟩
          refine ⟨_, ⟨LV.le.refl _, rfl⟩, ?_⟩
          refine ⟨.v (.bool false), ⟨LV.le.bsV (decide_eq_false a), rfl⟩, ?_⟩
          refine ⟨_, ⟨LV.le.refl _, rfl⟩, ?_⟩
          refine ⟨_, ⟨LV.le.refl _, rfl⟩, ?_⟩
          refine ⟨_, ⟨LV.le.refl _, rfl⟩, ?_⟩
          refine ⟨_, ⟨LV.le.refl _, rfl⟩, ?_⟩
          refine ⟨_, ⟨LV.le.refl _, rfl⟩, ?_⟩
          refine ⟨.v (.bool true), ⟨LV.le.bsV (decide_eq_true b), rfl⟩, ?_⟩
          refine ⟨_, ⟨LV.le.refl _, rfl⟩, ?_⟩
          refine ⟨_, ⟨LV.le.refl _, rfl⟩, ?_⟩
          refine ⟨_, ⟨LV.le.refl _, rfl⟩, ?_⟩
          refine ⟨_, ⟨LV.le.refl _, rfl⟩, ?_⟩
          refine ⟨_, ⟨LV.le.refl _, rfl⟩, ?_⟩
          refine ⟨_, ⟨LV.le.refl _, rfl⟩, ?_⟩
          refine ⟨_, ⟨LV.le.refl _, rfl⟩, ?_⟩
          refine ⟨_, ⟨LV.le.refl _, rfl⟩, ?_⟩
          refine ⟨_, ⟨LV.le.refl _, rfl⟩, ?_⟩
          refine ⟨_, ⟨LV.le.refl _, rfl⟩, ?_⟩
          refine ⟨_, ⟨LV.le.refl _, rfl⟩, ?_⟩
          refine ⟨_, ⟨LV.le.refl _, rfl⟩, ?_⟩
          refine ⟨_, ⟨LV.le.refl _, rfl⟩, ?_⟩
          refine ⟨_, ⟨LV.le.refl _, rfl⟩, ?_⟩
          refine ⟨_, ⟨LV.le.refl _, rfl⟩, ?_⟩
          refine ⟨_, ⟨LV.le.refl _, rfl⟩, ?_⟩
          refine ⟨_, ⟨LV.le.refl _, rfl⟩, ?_⟩
          refine ⟨_, ⟨LV.le.refl _, rfl⟩, ?_⟩
          refine ⟨_, ⟨LV.le.refl _, rfl⟩, ?_⟩
          refine ⟨_, ⟨LV.le.refl _, rfl⟩, ?_⟩
          refine ⟨_, ⟨LV.le.refl _, rfl⟩, ?_⟩
          refine ⟨_, ⟨LV.le.refl _, rfl⟩, ?_⟩
          refine ⟨_, ⟨LV.le.refl _, rfl⟩, ?_⟩
          refine ⟨True.intro, ?_⟩
          exact ⟨LV.le.int (by rw [chkE, if_neg e0, if_neg e1, if_neg e2, if_neg e3, if_neg e4, if_neg e5, if_pos fun hall => absurd (hall q hq) (by unfold PipeOk; omega)]), rfl⟩
        by_cases z : q = 0
        · refine DrawA.run Tryz.tab2Ok Tryz.mixed [0, 1, 3, 7, 15, 31, 15, 79, 255, 511, 1023, 2047, 4095, 8191, 16383, 32767, 16383, 81919, 262143, 524287, 1048575, 16383, 2113535, 8388607, 16777215, 33554431, 67108863, 134217727, 268435455, 536870911, 1073741823, 2147483647] [] rfl ?_
          refine ⟨_, ⟨LV.le.refl _, rfl⟩, ?_⟩
          refine ⟨_, ⟨LV.le.refl _, rfl⟩, ?_⟩
          refine ⟨.v (.bool false), ⟨LV.le.bsV (decide_eq_false a), rfl⟩, ?_⟩
          refine ⟨_, ⟨LV.le.refl _, rfl⟩, ?_⟩
          refine ⟨_, ⟨LV.le.refl _, rfl⟩, ?_⟩
          refine ⟨_, ⟨LV.le.refl _, rfl⟩, ?_⟩
          refine ⟨_, ⟨LV.le.refl _, rfl⟩, ?_⟩
          refine ⟨_, ⟨LV.le.refl _, rfl⟩, ?_⟩
          refine ⟨.v (.bool false), ⟨LV.le.bsV (decide_eq_false b), rfl⟩, ?_⟩
          refine ⟨_, ⟨LV.le.refl _, rfl⟩, ?_⟩
          refine ⟨_, ⟨LV.le.refl _, rfl⟩, ?_⟩
          refine ⟨_, ⟨LV.le.refl _, rfl⟩, ?_⟩
          refine ⟨.v (.bool false), ⟨LV.le.bsV (decide_eq_false (by omega)), rfl⟩, ?_⟩
          refine ⟨_, ⟨LV.le.refl _, rfl⟩, ?_⟩
          refine ⟨_, ⟨LV.le.refl _, rfl⟩, ?_⟩
          refine ⟨_, ⟨LV.le.refl _, rfl⟩, ?_⟩
          refine ⟨_, ⟨LV.le.refl _, rfl⟩, ?_⟩
          refine ⟨_, ⟨LV.le.refl _, rfl⟩, ?_⟩
          refine ⟨_, ⟨LV.le.refl _, rfl⟩, ?_⟩
          refine ⟨_, ⟨LV.le.refl _, rfl⟩, ?_⟩
          refine ⟨_, ⟨LV.le.refl _, rfl⟩, ?_⟩
          refine ⟨_, ⟨LV.le.refl _, rfl⟩, ?_⟩
          refine ⟨_, ⟨LV.le.refl _, rfl⟩, ?_⟩
          refine ⟨_, ⟨LV.le.refl _, rfl⟩, ?_⟩
          refine ⟨_, ⟨LV.le.refl _, rfl⟩, ?_⟩
          refine ⟨_, ⟨LV.le.refl _, rfl⟩, ?_⟩
          refine ⟨_, ⟨LV.le.refl _, rfl⟩, ?_⟩
          refine ⟨_, ⟨LV.le.refl _, rfl⟩, ?_⟩
          refine ⟨_, ⟨LV.le.refl _, rfl⟩, ?_⟩
          refine ⟨_, ⟨LV.le.refl _, rfl⟩, ?_⟩
          refine ⟨_, ⟨LV.le.refl _, rfl⟩, ?_⟩
          refine ⟨_, ⟨LV.le.refl _, rfl⟩, ?_⟩
          refine ⟨True.intro, ?_⟩
          refine ⟨fun s => ?_, fun s => ?_⟩
          · have s : ((m.pq q).2.length : Int) > 64 := dT s
            exact ⟨LV.le.int (by rw [chkE, if_neg e0, if_neg e1, if_neg e2, if_neg e3, if_neg e4, if_neg e5, if_pos fun hall => absurd (hall q hq) (by unfold PipeOk; omega)]), rfl⟩
          · have s : ¬ ((m.pq q).2.length : Int) > 64 := dF s
            exact ⟨q + 1, ⟨(by omega : q + 1 ≤ m.nQ), upTo hp ⟨by omega, by omega, fun hc => absurd hc (by omega), by omega⟩⟩, (by omega : m.nQ - (q + 1) < m.nQ - q), .le ⟨rfl, ⟨rfl, Nat.le_of_ble_eq_true rfl⟩, ⟨LV.le.int eq, rfl, LV.le.refl _, rfl, LV.le.refl _, rfl, LV.le.refl _, rfl, trivial⟩, ⟨⟨_, rfl, LO.le.refl _⟩, rfl, rfl, trivial⟩⟩⟩
        by_cases y : (m.pq (q - 1)).1 ≥ (m.pq q).1
        · refine DrawA.run Tryz.tab2Ok Tryz.mixed [0, 1, 3, 7, 15, 31, 15, 79, 255, 511, 1023, 2047, 4095, 8191, 16383, 32767, 16383, 81919, 262143, 524287, 1048575, 16383, 2113535, 8388607, 16777215, 33554431, 67108863, 134217727, 268435455, 536870911, 1073741823, 2147483647] [] rfl ?_
          refine ⟨_, ⟨LV.le.refl _, rfl⟩, ?_⟩
          refine ⟨_, ⟨LV.le.refl _, rfl⟩, ?_⟩
          refine ⟨.v (.bool false), ⟨LV.le.bsV (decide_eq_false a), rfl⟩, ?_⟩
          refine ⟨_, ⟨LV.le.refl _, rfl⟩, ?_⟩
          refine ⟨_, ⟨LV.le.refl _, rfl⟩, ?_⟩
          refine ⟨_, ⟨LV.le.refl _, rfl⟩, ?_⟩
          refine ⟨_, ⟨LV.le.refl _, rfl⟩, ?_⟩
          refine ⟨_, ⟨LV.le.refl _, rfl⟩, ?_⟩
          refine ⟨.v (.bool false), ⟨LV.le.bsV (decide_eq_false b), rfl⟩, ?_⟩
          refine ⟨_, ⟨LV.le.refl _, rfl⟩, ?_⟩
          refine ⟨_, ⟨LV.le.refl _, rfl⟩, ?_⟩
          refine ⟨_, ⟨LV.le.refl _, rfl⟩, ?_⟩
          refine ⟨.v (.bool true), ⟨LV.le.bsV (decide_eq_true (by omega)), rfl⟩, ?_⟩
          refine ⟨_, ⟨LV.le.refl _, rfl⟩, ?_⟩
          refine ⟨_, ⟨LV.le.refl _, rfl⟩, ?_⟩
          refine ⟨_, ⟨LV.le.refl _, rfl⟩, ?_⟩
          refine ⟨_, ⟨LV.le.refl _, rfl⟩, ?_⟩
          refine ⟨iv ((q - 1 : Nat) : Int), ⟨LV.le.int (by rw [w64] <;> omega), rfl⟩, ?_⟩
          refine ⟨_, ⟨⟨by omega, by omega⟩, LV.le.refl _, rfl⟩, ?_⟩
          refine ⟨_, ⟨LV.le.refl _, rfl⟩, ?_⟩
          refine ⟨_, ⟨LV.le.refl _, rfl⟩, ?_⟩
          refine ⟨_, ⟨LV.le.refl _, rfl⟩, ?_⟩
          refine ⟨_, ⟨LV.le.refl _, rfl⟩, ?_⟩
          refine ⟨.v (.bool true), ⟨LV.le.bsV (decide_eq_true y), rfl⟩, ?_⟩
          refine ⟨_, ⟨LV.le.refl _, rfl⟩, ?_⟩
          refine ⟨_, ⟨LV.le.refl _, rfl⟩, ?_⟩
          refine ⟨_, ⟨LV.le.refl _, rfl⟩, ?_⟩
          refine ⟨_, ⟨LV.le.refl _, rfl⟩, ?_⟩
          refine ⟨_, ⟨LV.le.refl _, rfl⟩, ?_⟩
          refine ⟨_, ⟨LV.le.refl _, rfl⟩, ?_⟩
          refine ⟨_, ⟨LV.le.refl _, rfl⟩, ?_⟩
          refine ⟨_, ⟨LV.le.refl _, rfl⟩, ?_⟩
          refine ⟨True.intro, ?_⟩
          exact ⟨LV.le.int (by rw [chkE, if_neg e0, if_neg e1, if_neg e2, if_neg e3, if_neg e4, if_neg e5, if_pos fun hall => absurd (hall q hq) (by unfold PipeOk; omega)]), rfl⟩
        refine DrawA.run Tryz.tab2Ok Tryz.mixed [0, 1, 3, 7, 15, 31, 15, 79, 255, 511, 1023, 2047, 4095, 8191, 16383, 32767, 16383, 81919, 262143, 524287, 1048575, 16383, 2113535, 8388607, 16777215, 33554431, 67108863, 134217727, 268435455, 536870911, 1073741823, 2147483647] [] rfl ?_
        refine ⟨_, ⟨LV.le.refl _, rfl⟩, ?_⟩
        refine ⟨_, ⟨LV.le.refl _, rfl⟩, ?_⟩
        refine ⟨.v (.bool false), ⟨LV.le.bsV (decide_eq_false a), rfl⟩, ?_⟩
        refine ⟨_, ⟨LV.le.refl _, rfl⟩, ?_⟩
        refine ⟨_, ⟨LV.le.refl _, rfl⟩, ?_⟩
        refine ⟨_, ⟨LV.le.refl _, rfl⟩, ?_⟩
        refine ⟨_, ⟨LV.le.refl _, rfl⟩, ?_⟩
        refine ⟨_, ⟨LV.le.refl _, rfl⟩, ?_⟩
        refine ⟨.v (.bool false), ⟨LV.le.bsV (decide_eq_false b), rfl⟩, ?_⟩
        refine ⟨_, ⟨LV.le.refl _, rfl⟩, ?_⟩
        refine ⟨_, ⟨LV.le.refl _, rfl⟩, ?_⟩
        refine ⟨_, ⟨LV.le.refl _, rfl⟩, ?_⟩
        refine ⟨.v (.bool true), ⟨LV.le.bsV (decide_eq_true (by omega)), rfl⟩, ?_⟩
        refine ⟨_, ⟨LV.le.refl _, rfl⟩, ?_⟩
        refine ⟨_, ⟨LV.le.refl _, rfl⟩, ?_⟩
        refine ⟨_, ⟨LV.le.refl _, rfl⟩, ?_⟩
        refine ⟨_, ⟨LV.le.refl _, rfl⟩, ?_⟩
        refine ⟨iv ((q - 1 : Nat) : Int), ⟨LV.le.int (by rw [w64] <;> omega), rfl⟩, ?_⟩
        refine ⟨_, ⟨⟨by omega, by omega⟩, LV.le.refl _, rfl⟩, ?_⟩
        refine ⟨_, ⟨LV.le.refl _, rfl⟩, ?_⟩
        refine ⟨_, ⟨LV.le.refl _, rfl⟩, ?_⟩
        refine ⟨_, ⟨LV.le.refl _, rfl⟩, ?_⟩
        refine ⟨_, ⟨LV.le.refl _, rfl⟩, ?_⟩
        refine ⟨.v (.bool false), ⟨LV.le.bsV (decide_eq_false y), rfl⟩, ?_⟩
        refine ⟨_, ⟨LV.le.refl _, rfl⟩, ?_⟩
        refine ⟨_, ⟨LV.le.refl _, rfl⟩, ?_⟩
        refine ⟨_, ⟨LV.le.refl _, rfl⟩, ?_⟩
        refine ⟨_, ⟨LV.le.refl _, rfl⟩, ?_⟩
        refine ⟨_, ⟨LV.le.refl _, rfl⟩, ?_⟩
        refine ⟨_, ⟨LV.le.refl _, rfl⟩, ?_⟩
        refine ⟨_, ⟨LV.le.refl _, rfl⟩, ?_⟩
        refine ⟨_, ⟨LV.le.refl _, rfl⟩, ?_⟩
        refine ⟨True.intro, ?_⟩
        refine ⟨fun s => ?_, fun s => ?_⟩
        · have s : ((m.pq q).2.length : Int) > 64 := dT s
          exact ⟨LV.le.int (by rw [chkE, if_neg e0, if_neg e1, if_neg e2, if_neg e3, if_neg e4, if_neg e5, if_pos fun hall => absurd (hall q hq) (by unfold PipeOk; omega)]), rfl⟩
        · have s : ¬ ((m.pq q).2.length : Int) > 64 := dF s
          exact ⟨q + 1, ⟨(by omega : q + 1 ≤ m.nQ), upTo hp ⟨by omega, by omega, fun _ => by omega, by omega⟩⟩, (by omega : m.nQ - (q + 1) < m.nQ - q), .le ⟨rfl, ⟨rfl, Nat.le_of_ble_eq_true rfl⟩, ⟨LV.le.int eq, rfl, LV.le.refl _, rfl, LV.le.refl _, rfl, LV.le.refl _, rfl, trivial⟩, ⟨⟨_, rfl, LO.le.refl _⟩, rfl, rfl, trivial⟩⟩⟩
      · obtain ⟨hj, hp⟩ := hj
        have h := dF h
        have h : ¬ (q : Int) < ((m.nQ : Nat) : Int) := h
        have hn : q = m.nQ := by have : q ≤ m.nQ := hj; omega
        have e6 : ¬ ¬ ∀ i, i < m.nQ → PipeOk m i := fun hc => hc fun i hi => hp i (by omega)
        clear hp hj h hn
        have e : chkE m = if 65536 < m.inp.length ∨ 128 < m.init.length then 6 else diskE m := by rw [chkE, if_neg e0, if_neg e1, if_neg e2, if_neg e3, if_neg e4, if_neg e5, if_neg e6]
        refine ⟨fun a => ?_, fun a => ⟨fun b => ?_, fun b => ?_⟩⟩
        · have a : (m.inp.length : Int) > 65536 := dT a
          exact ⟨LV.le.int (by rw [e, if_pos (by omega)]), rfl⟩
        · have b : (m.init.length : Int) > 128 := dT b
          exact ⟨LV.le.int (by rw [e, if_pos (by omega)]), rfl⟩
        have a : ¬ (m.inp.length : Int) > 65536 := dF a
        have b : ¬ (m.init.length : Int) > 128 := dF b
        refine Ct.callC (rdisk_ct m hm.B hm.W hm.D) rfl (leL.refl _) ?_
        exact ⟨LV.le.int (by rw [e, if_neg (by omega)]), rfl⟩
end Go.Proofs.Aw
namespace Go.Proofs.Aw
open Go Go.Proofs Go.RowKit
set_option maxHeartbeats 8000000
set_option maxRecDepth 100000
/-! ### the program's own functions: processes -/
open Classical in
theorem slives_ct (p : PV) : Ct Tryz.prog 169 [.agg p.c] (.bs (decide (Liv p))) := by
  refine Ct.enter Tryz.tab2Ok ft169 ?_
  refine ⟨fun h => ?_, fun h => ?_⟩
  · exact ⟨LV.le.bT (.inl (beT h)), rfl⟩
  · exact ⟨LV.le.bD ⟨fun g => .inr (beT g), fun g => by
      have g2 := g.resolve_left (beF h)
      show (p.st == 2) = true
      simp [g2]⟩, rfl⟩
open Classical in
theorem parent_ct (m : MM) (p : PV) (hn : m.nP ≤ 1000) : Ct Tryz.prog 170 [.agg m.c, .agg p.c] (.bs (decide ((Liv p ∧ p.par = 0) ∨ LivAt m p.par))) := by
  refine Ct.enterA Tryz.tab2Ok ft170 fun org => ?_
  refine AW.step Tryz.tab2Ok rfl ?_
  refine AW.cut Tryz.tab2Ok (¬ (Liv p ∧ p.par = 0)) ⟨[(2, .lp 0 0), (3, .lp 1 0)], [(0, .box 30 m.c), (1, .box 77 p.c)], 2, 0⟩ rfl ?_ fun g1 => ?_
  · refine Ct.callC (slives_ct p) rfl (leL.refl _) ?_
    refine ⟨fun h1 => ⟨fun h2 => ?_, fun h2 => ⟨?_, .le ⟨rfl, ⟨rfl, Nat.le_of_ble_eq_true rfl⟩, ⟨LV.le.refl _, rfl, LV.le.refl _, rfl, trivial⟩, ⟨⟨_, rfl, LO.le.refl _⟩, rfl, rfl, ⟨_, rfl, LO.le.refl _⟩, rfl, rfl, trivial⟩⟩⟩⟩, fun h1 => ⟨?_, .le ⟨rfl, ⟨rfl, Nat.le_of_ble_eq_true rfl⟩, ⟨LV.le.refl _, rfl, LV.le.refl _, rfl, trivial⟩, ⟨⟨_, rfl, LO.le.refl _⟩, rfl, rfl, ⟨_, rfl, LO.le.refl _⟩, rfl, rfl, trivial⟩⟩⟩⟩
    · exact ⟨LV.le.bT (.inl ⟨dT h1, beT h2⟩), rfl⟩
    · exact fun hc => beF h2 hc.2
    · exact fun hc => dF h1 hc.1
  refine AW.run Tryz.tab2Ok rfl ?_
  refine CallA.body Tryz.tab2Ok ft188 ?_
  refine CallA.body Tryz.tab2Ok ft201 ?_
  refine ⟨Nat, fun j => ⟨[(8, iv (j : Int)), (7, iv (m.nP : Int)), (0, .sl 96 m.nP m.pc), (1, .clo (.func 189) [] [.lp 1 0])], [(0, .box 30 m.c), (1, .box 77 p.c)], 2, 2⟩, fun j => j ≤ m.nP ∧ (∀ i, i < j → ¬ ((m.ps i).pid = p.par ∧ Liv (m.ps i))), fun j => m.nP - j, 0, ⟨Nat.zero_le _, fun i hi => absurd hi (by omega)⟩, .le ⟨rfl, ⟨rfl, Nat.le_of_ble_eq_true rfl⟩, ⟨LV.le.refl _, rfl, LV.le.refl _, rfl, LV.le.refl _, rfl, LV.le.refl _, rfl, trivial⟩, ⟨⟨_, rfl, LO.le.refl _⟩, rfl, rfl, ⟨_, rfl, LO.le.refl _⟩, rfl, rfl, trivial⟩⟩, fun j hj => ⟨fun h => ?_, fun h => ?_⟩⟩
  · obtain ⟨hj, hp⟩ := hj
    have h := dT h
    have h : (j : Int) < ((m.nP : Nat) : Int) := h
    have hj : j < m.nP := by omega
    have ej := w1 hj (by omega)
    refine ⟨⟨by omega, by omega⟩, ?_⟩
    refine CallA.body Tryz.tab2Ok ft189 ?_
    refine ⟨fun h1 => ?_, fun h1 => ?_⟩
    · refine Ct.callC (slives_ct (m.ps j)) rfl (leL.refl _) ?_
      refine ⟨fun h2 => ?_, fun h2 => ?_⟩
      · refine ⟨?_, rfl⟩
        exact LV.le.bD ⟨fun _ => .inr ⟨j, hj, beT h1, dT h2⟩, fun _ => decide_eq_true (by omega)⟩
      · exact ⟨j + 1, ⟨(by omega : j + 1 ≤ m.nP), upTo hp fun hc => dF h2 hc.2⟩, (by omega : m.nP - (j + 1) < m.nP - j), .le ⟨rfl, ⟨rfl, Nat.le_of_ble_eq_true rfl⟩, ⟨LV.le.int ej, rfl, LV.le.refl _, rfl, LV.le.refl _, rfl, LV.le.refl _, rfl, trivial⟩, ⟨⟨_, rfl, LO.le.refl _⟩, rfl, rfl, ⟨_, rfl, LO.le.refl _⟩, rfl, rfl, trivial⟩⟩⟩
    · exact ⟨j + 1, ⟨(by omega : j + 1 ≤ m.nP), upTo hp fun hc => beF h1 hc.1⟩, (by omega : m.nP - (j + 1) < m.nP - j), .le ⟨rfl, ⟨rfl, Nat.le_of_ble_eq_true rfl⟩, ⟨LV.le.int ej, rfl, LV.le.refl _, rfl, LV.le.refl _, rfl, LV.le.refl _, rfl, trivial⟩, ⟨⟨_, rfl, LO.le.refl _⟩, rfl, rfl, ⟨_, rfl, LO.le.refl _⟩, rfl, rfl, trivial⟩⟩⟩
  · obtain ⟨hj, hp⟩ := hj
    have h := dF h
    have h : ¬ (j : Int) < ((m.nP : Nat) : Int) := h
    have hn : j = m.nP := by have : j ≤ m.nP := hj; omega
    exact ⟨LV.le.bD ⟨fun hc => absurd hc (by decide), fun hc => by
      rcases hc with hc | ⟨i, hi, hc⟩
      · exact absurd hc g1
      · exact absurd hc (hp i (by omega))⟩, rfl⟩
end Go.Proofs.Aw
namespace Go.Proofs.Aw
open Go Go.Proofs Go.RowKit
set_option maxHeartbeats 8000000
set_option maxRecDepth 100000
/-- the first one's place; -1 -/
def fnd (f : Nat → Int) (id : Int) : Nat → Int
  | 0 => -1
  | k + 1 => if fnd f id k = -1 then (if f k = id then (k : Int) else -1) else fnd f id k
theorem fnd_none {f : Nat → Int} {id : Int} : ∀ {k : Nat}, (∀ i, i < k → ¬ f i = id) → fnd f id k = -1
  | 0, _ => rfl
  | k + 1, h => by
    simp only [fnd]
    rw [if_pos (fnd_none fun i hi => h i (by omega)), if_neg (h k (by omega))]
theorem fnd_stay {f : Nat → Int} {id : Int} {k : Nat} (h : fnd f id k ≠ -1) : ∀ d, fnd f id (k + d) = fnd f id k
  | 0 => rfl
  | d + 1 => by
    have ih := fnd_stay h d
    show (if fnd f id (k + d) = -1 then _ else fnd f id (k + d)) = _
    rw [ih, if_neg h]
theorem fnd_hit {f : Nat → Int} {id : Int} {k n : Nat} (h : ∀ i, i < k → ¬ f i = id) (hk : f k = id) (hn : k < n) : fnd f id n = k := by
  have e : fnd f id (k + 1) = k := by simp only [fnd]; rw [if_pos (fnd_none h), if_pos hk]
  have := fnd_stay (f := f) (id := id) (k := k + 1) (by rw [e]; omega) (n - (k + 1))
  rw [show k + 1 + (n - (k + 1)) = n by omega, e] at this
  exact this
theorem fnd_is {f : Nat → Int} {id : Int} {n : Nat} : (fnd f id n = -1 ∧ ∀ i, i < n → ¬ f i = id) ∨ ∃ k, k < n ∧ f k = id ∧ fnd f id n = k := by
  by_cases h : ∀ i, i < n → ¬ f i = id
  · exact .inl ⟨fnd_none h, h⟩
  · right
    induction n with
    | zero => exact absurd (fun i hi => absurd hi (by omega)) h
    | succ n ih =>
      by_cases h2 : ∀ i, i < n → ¬ f i = id
      · have hf : f n = id := by
          by_cases e : f n = id
          · exact e
          · exact absurd (fun i hi => by
              rcases (by omega : i < n ∨ i = n) with h4 | rfl
              · exact h2 i h4
              · exact e) h
        exact ⟨n, by omega, hf, fnd_hit h2 hf (by omega)⟩
      · obtain ⟨k, h3, h4, h5⟩ := ih h2
        exact ⟨k, by omega, h4, by rw [fnd_stay (by rw [h5]; omega) 1]; exact h5⟩
def pid (m : MM) (i : Nat) : Int := (m.pq i).1
theorem find_ct (m : MM) (id : Int) (hn : m.nQ ≤ 9223372036854775807) : Ct Tryz.prog 202 [.agg m.c, iv id] (iv (fnd (pid m) id m.nQ)) := by
  refine Ct.enter Tryz.tab2Ok ft202 ?_
  refine CallA.body Tryz.tab2Ok ft215 ?_
  refine ⟨Nat, fun j => ⟨[(8, iv (j : Int)), (7, iv (m.nQ : Int)), (0, .sl 2 m.nQ (wvs m.pq)), (1, .clo (.func 216) [] [.lp 1 0])], [(0, .box 30 m.c), (1, .box 3 [iv id])], 2, 2⟩, fun j => j ≤ m.nQ ∧ (∀ i, i < j → ¬ pid m i = id), fun j => m.nQ - j, 0, ⟨Nat.zero_le _, fun i hi => absurd hi (by omega)⟩, .le ⟨rfl, ⟨rfl, Nat.le_of_ble_eq_true rfl⟩, ⟨LV.le.refl _, rfl, LV.le.refl _, rfl, LV.le.refl _, rfl, LV.le.refl _, rfl, trivial⟩, ⟨⟨_, rfl, LO.le.refl _⟩, rfl, rfl, ⟨_, rfl, LO.le.refl _⟩, rfl, rfl, trivial⟩⟩, fun j hj => ⟨fun h => ?_, fun h => ?_⟩⟩
  · obtain ⟨hj, hp⟩ := hj
    have h := dT h
    have h : (j : Int) < ((m.nQ : Nat) : Int) := h
    have hj : j < m.nQ := by omega
    have ej := w1 hj (by omega)
    refine ⟨⟨by omega, by omega⟩, ?_⟩
    refine CallA.body Tryz.tab2Ok ft216 ?_
    refine ⟨fun h1 => ?_, fun h1 => ?_⟩
    · exact ⟨LV.le.int (fnd_hit (f := pid m) hp (beT h1) hj).symm, rfl⟩
    · exact ⟨j + 1, ⟨(by omega : j + 1 ≤ m.nQ), upTo hp (beF h1)⟩, (by omega : m.nQ - (j + 1) < m.nQ - j), .le ⟨rfl, ⟨rfl, Nat.le_of_ble_eq_true rfl⟩, ⟨LV.le.int ej, rfl, LV.le.refl _, rfl, LV.le.refl _, rfl, LV.le.refl _, rfl, trivial⟩, ⟨⟨_, rfl, LO.le.refl _⟩, rfl, rfl, ⟨_, rfl, LO.le.refl _⟩, rfl, rfl, trivial⟩⟩⟩
  · obtain ⟨hj, hp⟩ := hj
    have h := dF h
    have h : ¬ (j : Int) < ((m.nQ : Nat) : Int) := h
    have hn : j = m.nQ := by have : j ≤ m.nQ := hj; omega
    exact ⟨LV.le.int (fnd_none fun i hi => hp i (by omega)).symm, rfl⟩
open Classical in
theorem pipe_ct (m : MM) (id : Int) (hn : m.nQ ≤ 9223372036854775807) : Ct Tryz.prog 190 [.agg m.c, iv id] (.tup [.agg [.any, .any], .bs (decide (PipeAt m id))]) := by
  refine Ct.enter Tryz.tab2Ok ft190 ?_
  refine Ct.callC (find_ct m id hn) rfl (leL.refl _) ?_
  rcases fnd_is (f := pid m) (id := id) (n := m.nQ) with ⟨e, h⟩ | ⟨k, hk, h, e⟩
  · rw [e]
    refine ⟨fun _ => ?_, fun hc => absurd (dF hc) (by decide)⟩
    exact ⟨LV.le.tup ⟨_, _, rfl, LV.le.agg ⟨_, _, rfl, LV.le.any _, _, _, rfl, LV.le.any _, rfl⟩, _, _, rfl, LV.le.bF fun ⟨i, hi, hc⟩ => h i hi hc, rfl⟩, rfl⟩
  · rw [e]
    refine ⟨fun hc => absurd (dT hc) (by omega), fun _ => ⟨⟨by omega, by omega⟩, ?_⟩⟩
    exact ⟨LV.le.tup ⟨_, _, rfl, LV.le.agg ⟨_, _, rfl, LV.le.any _, _, _, rfl, LV.le.any _, rfl⟩, _, _, rfl, LV.le.bT ⟨k, hk, h⟩, rfl⟩, rfl⟩
theorem fd_low {m : MM} {k n p : Int} (hk : k = 0 ∨ k = 1 ∨ k = 2) : n = 0 ∧ p = 0 ↔ FdOk m (k, n, p) := by
  constructor
  · exact fun h => .inl ⟨hk, h⟩
  · rintro (⟨_, h⟩ | ⟨h, _⟩ | ⟨h, _⟩)
    · exact h
    · simp only at h; omega
    · simp only at h; omega
theorem fd_three {m : MM} {k n p : Int} (hk : k = 3) : (1 ≤ n ∧ n ≤ 64) ∧ 0 ≤ p ∧ p ≤ 8960 ↔ FdOk m (k, n, p) := by
  constructor
  · exact fun h => .inr (.inl ⟨hk, h.1.1, h.1.2, h.2.1, h.2.2⟩)
  · rintro (⟨h, _⟩ | ⟨_, h⟩ | ⟨h, _⟩)
    · simp only at h; omega
    · exact ⟨⟨h.1, h.2.1⟩, h.2.2.1, h.2.2.2⟩
    · simp only at h; omega
theorem fd_four {m : MM} {k n p : Int} (hk : k = 4 ∨ k = 5) : p = 0 ∧ PipeAt m n ↔ FdOk m (k, n, p) := by
  constructor
  · exact fun h => .inr (.inr ⟨hk, h⟩)
  · rintro (⟨h, _⟩ | ⟨h, _⟩ | ⟨_, h⟩)
    · simp only at h; omega
    · simp only at h; omega
    · exact h
open Classical in
theorem fd_ct (m : MM) (f : Int × Int × Int) (hn : m.nQ ≤ 9223372036854775807) : Ct Tryz.prog 171 [.agg m.c, .agg (fde f)] (.bs (decide (FdOk m f))) := by
  obtain ⟨k, n, p⟩ := f
  refine Ct.enter Tryz.tab2Ok ft171 ?_
  refine ⟨fun h0 => ⟨fun _ => ?_, fun hx => absurd h0 (by rw [hx]; simp)⟩, fun h0 => ⟨fun h1 => ⟨fun _ => ?_, fun hx => absurd h1 (by rw [hx]; simp)⟩, fun h1 => ⟨fun h2 => ?_, fun h2 => ⟨fun h3 => ?_, fun h3 => ⟨fun h4 => ⟨fun _ => ?_, fun hx => absurd h4 (by rw [hx]; simp)⟩, fun h4 => ⟨fun h5 => ?_, fun h5 => ?_⟩⟩⟩⟩⟩⟩
  · refine ⟨fun a => ?_, fun a => ?_⟩
    · exact ⟨LV.le.bD (by rw [← fd_low (.inl (beT h0))]; simp; exact fun _ => beT a), rfl⟩
    · exact ⟨LV.le.bF fun h => beF a ((fd_low (.inl (beT h0))).2 h).1, rfl⟩
  · refine ⟨fun a => ?_, fun a => ?_⟩
    · exact ⟨LV.le.bD (by rw [← fd_low (.inr (.inl (beT h1)))]; simp; exact fun _ => beT a), rfl⟩
    · exact ⟨LV.le.bF fun h => beF a ((fd_low (.inr (.inl (beT h1)))).2 h).1, rfl⟩
  · refine ⟨fun a => ?_, fun a => ?_⟩
    · exact ⟨LV.le.bD (by rw [← fd_low (.inr (.inr (beT h2)))]; simp; exact fun _ => beT a), rfl⟩
    · exact ⟨LV.le.bF fun h => beF a ((fd_low (.inr (.inr (beT h2)))).2 h).1, rfl⟩
  · have g := fd_three (m := m) (n := n) (p := p) (beT h3)
    refine Ct.callC (within_ct n 1 64) rfl (leL.refl _) ?_
    refine ⟨fun a => ?_, fun a => ?_⟩
    · refine Ct.callC (within_ct p 0 8960) rfl (leL.refl _) ?_
      exact ⟨LV.le.bD (by rw [← g]; have a := dT a; rw [decide_eq_true_iff]; exact ⟨fun h => ⟨a, h⟩, fun h => h.2⟩), rfl⟩
    · exact ⟨LV.le.bF fun h => dF a (g.2 h).1, rfl⟩
  · have g := fd_four (m := m) (n := n) (p := p) (.inl (beT h4))
    refine Ct.callC (pipe_ct m n hn) rfl (leL.refl _) ?_
    refine ⟨fun a => ?_, fun a => ?_⟩
    · exact ⟨LV.le.bD (by rw [← g]; exact ⟨fun h => ⟨beT h, dT a⟩, fun h => by show (p == 0) = true; simp [h.1]⟩), rfl⟩
    · exact ⟨LV.le.bF fun h => dF a (g.2 h).2, rfl⟩
  · have g := fd_four (m := m) (n := n) (p := p) (.inr (beT h5))
    refine Ct.callC (pipe_ct m n hn) rfl (leL.refl _) ?_
    refine ⟨fun a => ?_, fun a => ?_⟩
    · exact ⟨LV.le.bD (by rw [← g]; exact ⟨fun h => ⟨beT h, dT a⟩, fun h => by show (p == 0) = true; simp [h.1]⟩), rfl⟩
    · exact ⟨LV.le.bF fun h => dF a (g.2 h).2, rfl⟩
  · exact ⟨LV.le.bF fun h => by
      have h0 := beF h0; have h1 := beF h1; have h2 := beF h2; have h3 := beF h3; have h4 := beF h4; have h5 := beF h5
      rcases h with ⟨h, _⟩ | ⟨h, _⟩ | ⟨h, _⟩ <;> simp only at h <;> omega, rfl⟩
def ProcS (m : MM) (p : PV) : Prop := P1 m p ∧ P2 m p ∧ P3 p ∧ ∀ k, k < 8 → P5 m p k
theorem p2_of {m : MM} {p : PV} (h : p.st = 1 ∨ p.st = 2 ∨ p.st = 3) : ((Liv p ∧ p.par = 0) ∨ LivAt m p.par) ↔ P2 m p := by
  unfold P2 Liv
  constructor
  · rintro (⟨h1, h2⟩ | h1)
    · exact .inr ⟨by omega, h2⟩
    · exact .inl h1
  · rintro (h1 | ⟨h1, h2⟩)
    · exact .inr h1
    · exact .inl ⟨by omega, h2⟩
open Classical in
theorem proc_ct (m : MM) (p : PV) (hn : m.nP ≤ 1000) (hQ : m.nQ ≤ 9223372036854775807) (hx : 1 ≤ m.next ∧ m.next ≤ 1000000000) : Ct Tryz.prog 140 [.agg m.c, .agg p.c] (.bs (decide (ProcS m p))) := by
  have ex : IntKind.i64.wrap (m.next - 1) = m.next - 1 := w64 (by omega) (by omega)
  refine Ct.enterA Tryz.tab2Ok ft140 fun org => ?_
  refine AW.step Tryz.tab2Ok rfl ?_
  refine AW.cut Tryz.tab2Ok True ⟨[(2, .lp 0 0), (3, .lp 1 0), (5, .bs (p.st == 2)), (6, .bs (p.st == 3))], [(0, .box 30 m.c), (1, .box 77 p.c)], 2, 0⟩ rfl ?_ fun _ => ?_
  · refine DrawA.run Tryz.tab2Ok Tryz.mixed [0, 1, 3, 0, 8, 24, 7, 127] [] rfl ?_
    refine ⟨_, ⟨LV.le.refl _, rfl⟩, ?_⟩
    refine ⟨_, ⟨LV.le.refl _, rfl⟩, ?_⟩
    refine ⟨_, ⟨LV.le.refl _, rfl⟩, ?_⟩
    refine ⟨_, ⟨LV.le.refl _, rfl⟩, ?_⟩
    refine ⟨_, ⟨LV.le.refl _, rfl⟩, ?_⟩
    refine ⟨_, ⟨LV.le.refl _, rfl⟩, ?_⟩
    refine ⟨_, ⟨LV.le.refl _, rfl⟩, ?_⟩
    refine ⟨_, ⟨LV.le.refl _, rfl⟩, ?_⟩
    refine ⟨True.intro, ?_⟩
    exact ⟨trivial, .le ⟨rfl, ⟨rfl, Nat.le_of_ble_eq_true rfl⟩, ⟨LV.le.refl _, rfl, LV.le.refl _, rfl, LV.le.refl _, rfl, LV.le.refl _, rfl, trivial⟩, ⟨⟨_, rfl, LO.le.refl _⟩, rfl, rfl, ⟨_, rfl, LO.le.refl _⟩, rfl, rfl, trivial⟩⟩⟩
  refine AW.cut Tryz.tab2Ok (P1 m p ∧ P2 m p ∧ P3 p) ⟨[(2, .lp 0 0), (3, .lp 1 0), (5, .bs (p.st == 2)), (6, .bs (p.st == 3))], [(0, .box 30 m.c), (1, .box 77 p.c)], 2, 0⟩ rfl ?_ fun g => ?_
  · refine Ct.callC (within_ct p.pid 1 (m.next - 1)) rfl ⟨_, _, rfl, LV.le.refl _, _, _, rfl, LV.le.refl _, _, _, rfl, LV.le.int ex, rfl⟩ ?_
    refine ⟨fun h1 => ⟨fun _ => ?_, fun hy => absurd h1 (by rw [hy]; simp)⟩, fun h1 => ?_⟩
    · exact ⟨LV.le.bF fun hc => by have := dF (nbT h1); have := hc.1.1; have := hc.1.2.1; omega, rfl⟩
    have h1 := dT (nbF h1)
    refine Ct.callC (slives_ct p) rfl (leL.refl _) ?_
    have fin : ∀ (c : Prop), c → c := fun c h => h
    refine ⟨fun a => ⟨fun b => ⟨fun _ => ?_, fun hy => absurd b (by rw [hy]; simp)⟩, fun b => ?_⟩, fun a => ?_⟩
    · exact ⟨LV.le.bF fun hc => by have a := dF (nbT a); have b := beF (nbT b); have := hc.1.2.2.1; unfold Liv at a; omega, rfl⟩
    all_goals
      have s3 : p.st = 1 ∨ p.st = 2 ∨ p.st = 3 := by
        first
          | exact .inr (.inr (beT (nbF b)))
          | (have a := dT (nbF a); unfold Liv at a; omega)
      refine Ct.callC (parent_ct m p hn) rfl (leL.refl _) ?_
      refine ⟨fun d => ⟨fun _ => ?_, fun hy => absurd d (by rw [hy]; simp)⟩, fun d => ⟨⟨by omega, by omega⟩, ⟨fun e => ?_, fun e => ?_⟩⟩⟩
      · exact ⟨LV.le.bF fun hc => dF (nbT d) ((p2_of s3).2 hc.2.1), rfl⟩
      · exact ⟨LV.le.bF fun hc => bnT e hc.1.2.2.2, rfl⟩
      have g2 := (p2_of s3).1 (dT (nbF d))
      have g1 : P1 m p := ⟨h1.1, by omega, s3, bnF e⟩
      clear a d e h1
      refine ⟨fun w => ?_, fun w => ?_⟩
      · have w := beT w
        refine Ct.callC (within_ct p.why 1 5) rfl (leL.refl _) ?_
        refine ⟨fun f => ⟨fun _ => ?_, fun hy => absurd f (by rw [hy]; simp)⟩, fun f => ?_⟩
        · exact ⟨LV.le.bF fun hc => by have f := dF (nbT f); have q := hc.2.2.1; have := q.1.1 w; have := q.2.1; have := q.2.2.1; omega, rfl⟩
        have f := dT (nbF f)
        refine ⟨fun q => absurd w (beF (nbT q)), fun _ => ?_⟩
        refine ⟨fun q => ⟨fun r => ?_, fun r => ?_⟩, fun q => absurd (beT (nbF q)) (by omega)⟩
        · exact ⟨LV.le.bF fun hc => by have r := bnT r; have := hc.2.2.1.2.2.2.2; omega, rfl⟩
        · exact ⟨⟨g1, g2, ⟨by omega, by omega, by omega, .inl w, .inr (bnF r)⟩⟩, .le ⟨rfl, ⟨rfl, Nat.le_of_ble_eq_true rfl⟩, ⟨LV.le.refl _, rfl, LV.le.refl _, rfl, LV.le.refl _, rfl, LV.le.refl _, rfl, trivial⟩, ⟨⟨_, rfl, LO.le.refl _⟩, rfl, rfl, ⟨_, rfl, LO.le.refl _⟩, rfl, rfl, trivial⟩⟩⟩
      · have w := beF w
        refine ⟨fun _ => ⟨fun q => ?_, fun q => ⟨fun r => ⟨fun _ => ?_, fun hy => absurd r (by rw [hy]; simp)⟩, fun r => ?_⟩⟩, fun q => absurd (beT (nbF q)) w⟩
        · exact ⟨LV.le.bF fun hc => by have q := bnT q; exact w (hc.2.2.1.1.2 q), rfl⟩
        · exact ⟨LV.le.bF fun hc => by have r := bnT r; exact hc.2.2.1.2.2.2.1.elim w r, rfl⟩
        have q := bnF q
        have r := bnF r
        refine ⟨fun s => ⟨fun t => ?_, fun t => ?_⟩, fun s => ?_⟩
        · exact ⟨LV.le.bF fun hc => by have t := bnT t; exact hc.2.2.1.2.2.2.2.elim (beF (nbT s)) t, rfl⟩
        · exact ⟨⟨g1, g2, ⟨by omega, by omega, by omega, .inr r, .inr (bnF t)⟩⟩, .le ⟨rfl, ⟨rfl, Nat.le_of_ble_eq_true rfl⟩, ⟨LV.le.refl _, rfl, LV.le.refl _, rfl, LV.le.refl _, rfl, LV.le.refl _, rfl, trivial⟩, ⟨⟨_, rfl, LO.le.refl _⟩, rfl, rfl, ⟨_, rfl, LO.le.refl _⟩, rfl, rfl, trivial⟩⟩⟩
        · exact ⟨⟨g1, g2, ⟨by omega, by omega, by omega, .inr r, .inl (beT (nbF s))⟩⟩, .le ⟨rfl, ⟨rfl, Nat.le_of_ble_eq_true rfl⟩, ⟨LV.le.refl _, rfl, LV.le.refl _, rfl, LV.le.refl _, rfl, LV.le.refl _, rfl, trivial⟩, ⟨⟨_, rfl, LO.le.refl _⟩, rfl, rfl, ⟨_, rfl, LO.le.refl _⟩, rfl, rfl, trivial⟩⟩⟩
  obtain ⟨g1, g2, g3⟩ := g
  refine AW.run Tryz.tab2Ok rfl ?_
  refine ⟨Nat, fun k => ⟨[(68, iv (k : Int)), (67, .agg p.fdc), (2, .lp 0 0), (6, .bs (p.st == 3))], [(0, .box 30 m.c), (1, .box 77 p.c)], 2, 0⟩, fun k => k ≤ 8 ∧ (∀ i, i < k → P5 m p i), fun k => 8 - k, 0, ⟨Nat.zero_le _, fun i hi => absurd hi (by omega)⟩, .le ⟨rfl, ⟨rfl, Nat.le_of_ble_eq_true rfl⟩, ⟨LV.le.refl _, rfl, LV.le.refl _, rfl, LV.le.refl _, rfl, LV.le.refl _, rfl, trivial⟩, ⟨⟨_, rfl, LO.le.refl _⟩, rfl, rfl, ⟨_, rfl, LO.le.refl _⟩, rfl, rfl, trivial⟩⟩, fun k hj => ⟨fun h => ?_, fun h => ?_⟩⟩
  · obtain ⟨hj, hp⟩ := hj
    have h := dT h
    have h : (k : Int) < ((8 : Nat) : Int) := h
    have hk : k < 8 := by omega
    have ek := w1 hk (by omega)
    refine ⟨⟨by omega, by omega⟩, loadK_at _ (fd_at p k hk) ?_⟩
    refine Ct.callC (fd_ct m (p.fd k) hQ) rfl (leL.refl _) ?_
    refine ⟨fun c1 => ?_, fun c1 => ⟨fun c2 => ⟨fun c3 => ?_, fun c3 => ?_⟩, fun c2 => ?_⟩⟩
    · exact ⟨LV.le.bF fun hc => by have hc5 := hc.2.2.2 k hk; exact dF (nbT c1) hc5.1, rfl⟩
    · exact ⟨LV.le.bF fun hc => by have hc5 := hc.2.2.2 k hk; exact bnT c3 (hc5.2 (beT c2)), rfl⟩
    · exact ⟨k + 1, ⟨(by omega : k + 1 ≤ 8), upTo hp ⟨dT (nbF c1), fun _ => bnF c3⟩⟩, (by omega : 8 - (k + 1) < 8 - k), .le ⟨rfl, ⟨rfl, Nat.le_of_ble_eq_true rfl⟩, ⟨LV.le.int ek, rfl, LV.le.refl _, rfl, LV.le.refl _, rfl, LV.le.refl _, rfl, trivial⟩, ⟨⟨_, rfl, LO.le.refl _⟩, rfl, rfl, ⟨_, rfl, LO.le.refl _⟩, rfl, rfl, trivial⟩⟩⟩
    · exact ⟨k + 1, ⟨(by omega : k + 1 ≤ 8), upTo hp ⟨dT (nbF c1), fun h => absurd h (beF c2)⟩⟩, (by omega : 8 - (k + 1) < 8 - k), .le ⟨rfl, ⟨rfl, Nat.le_of_ble_eq_true rfl⟩, ⟨LV.le.int ek, rfl, LV.le.refl _, rfl, LV.le.refl _, rfl, LV.le.refl _, rfl, trivial⟩, ⟨⟨_, rfl, LO.le.refl _⟩, rfl, rfl, ⟨_, rfl, LO.le.refl _⟩, rfl, rfl, trivial⟩⟩⟩
  · obtain ⟨hj, hp⟩ := hj
    have h := dF h
    have h : ¬ (k : Int) < ((8 : Nat) : Int) := h
    have hn : k = 8 := by have : k ≤ 8 := hj; omega
    exact ⟨LV.le.bT ⟨g1, g2, g3, fun i hi => hp i (by omega)⟩, rfl⟩
end Go.Proofs.Aw

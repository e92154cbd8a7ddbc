/- A PART OF THE PROOF: an abstract run of the loaded code over value trees, and the functions walked by it. No condition of its own. -/
import Derived.Test.YtanmknmlphkeaaaGreatDoorGZP2
import Derived.Test.YtanmknmlphkeaaaGreatDoorGA27
import Derived.Laws.StructEq
namespace Go.Proofs.Aw
open Go Go.Proofs Go.RowKit
set_option maxHeartbeats 4000000
set_option maxRecDepth 100000
theorem eqF_pte (x y : Bool × Bool × Int) : EqF Tryz.prog 70 (pte x) (pte y) (x.1 == y.1 && (x.2.1 == y.2.1 && x.2.2 == y.2.2)) := by
  obtain ⟨a, b, c⟩ := x
  obtain ⟨a', b', c'⟩ := y
  intro m N ys zs w op x y h1 h2
  obtain ⟨y1, r1, rfl, e1, y2, r2, rfl, e2, y3, r3, rfl, e3, e4⟩ := h1
  obtain ⟨z1, q1, rfl, f1, z2, q2, rfl, f2, z3, q3, rfl, f3, f4⟩ := h2
  have e1 : y1 = .bool a := e1
  have e2 : y2 = .bool b := e2
  have e3 : y3 = .int .i64 c := e3
  have e4 : r3 = [] := e4
  have f1 : z1 = .bool a' := f1
  have f2 : z2 = .bool b' := f2
  have f3 : z3 = .int .i64 c' := f3
  have f4 : q3 = [] := f4
  subst e1; subst e2; subst e3; subst e4; subst f1; subst f2; subst f3; subst f4
  have u4 := Tryz.underlying4
  have u3 := Tryz.underlying3
  refine ⟨run_eqGuard_agg w op 70 x y _ _ Tryz.eqGuardType70, ?_⟩
  show (Op.equalIn (9999 + 1) 70 _ _).run Tryz.prog w = _
  rw [run_equalIn_agg w 9999 70 _ _ rfl Tryz.stoodInHeld70]
  have hf : (Tryz.prog.fieldsOf 70).toList = [{ name := "Is", type := 4, offset := 0, embedded := false, tag := "", pkgPath := "", byteOffset := 0 }, { name := "Write", type := 4, offset := 1, embedded := false, tag := "", pkgPath := "", byteOffset := 1 }, { name := "Frame", type := 3, offset := 2, embedded := false, tag := "", pkgPath := "", byteOffset := 8 }] := rfl
  rw [hf]
  simp only [Op.eqFields]
  have q1 := fun (b c : Bool) (w : World) => run_equalIn_bool' w 9998 4 b c u4
  have q2 := fun (b c : Int) (w : World) => run_equalIn_int w 9998 3 .i64 .i64 b c u3
  simp only [Nat.reduceAdd] at q1 q2
  cases a <;> cases a' <;> cases b <;> cases b' <;> simp [part, q1, q2]
  all_goals (cases hs : (c == c') <;> simp_all)
end Go.Proofs.Aw
namespace Go.Proofs.Aw
open Go Go.Proofs Go.RowKit
set_option maxHeartbeats 8000000
set_option maxRecDepth 100000
def P1 (m : MM) (p : PV) : Prop := 1 ≤ p.pid ∧ p.pid < m.next ∧ (p.st = 1 ∨ p.st = 2 ∨ p.st = 3) ∧ p.R 0 = 0
def P2 (m : MM) (p : PV) : Prop := LivAt m p.par ∨ (p.st ≠ 3 ∧ p.par = 0)
def P3 (p : PV) : Prop := (p.st = 2 ↔ p.why ≠ 0) ∧ 0 ≤ p.why ∧ p.why ≤ 5 ∧ (p.st = 2 ∨ p.n = 0) ∧ (p.st = 3 ∨ p.code = 0)
def P4 (m : MM) (p : PV) (k : Nat) : Prop := ((p.pt k).1 = false → (p.pt k).2.1 = false ∧ (p.pt k).2.2 = 0) ∧ ((p.pt k).1 = true → p.st ≠ 3 ∧ 0 ≤ (p.pt k).2.2 ∧ (p.pt k).2.2 < (m.nF : Int) ∧ usr m (p.pt k).2.2 m.nP = 1)
def P5 (m : MM) (p : PV) (k : Nat) : Prop := FdOk m (p.fd k) ∧ (p.st = 3 → (p.fd k).1 = 0)
def ProcOk (m : MM) (p : PV) : Prop := P1 m p ∧ P2 m p ∧ P3 p ∧ (∀ k, k < 16 → P4 m p k) ∧ ∀ k, k < 8 → P5 m p k
theorem nbT {b : Bool} (h : (!b) = true) : b = false := by simpa using h
theorem nbF {b : Bool} (h : (!b) = false) : b = true := by simpa using h
open Classical in
theorem process_ct (m : MM) (p : PV) (hn : m.nP ≤ 1000) (hQ : m.nQ ≤ 9223372036854775807) (_hF : m.nF ≤ 1000) : Ct Tryz.prog 38 [.agg m.c, .agg p.c] (.bs (decide (ProcOk m p))) := by
  refine Ct.enterA Tryz.tab2Ok ft38 fun org => ?_
  refine AW.step Tryz.tab2Ok rfl ?_
  refine AW.step Tryz.tab2Ok rfl ?_
  refine AW.step Tryz.tab2Ok rfl ?_
  refine AW.cut Tryz.tab2Ok (P1 m p) ⟨[(2, .lp 0 0), (3, .lp 1 0), (5, .bs (p.st == 3)), (6, .bs (p.st == 2))], [(0, .box 30 m.c), (1, .box 77 p.c)], 2, 0⟩ rfl ?_ fun g1 => ?_
  · refine ⟨fun h1 => ⟨LV.le.bF fun hc => by have := dT h1; have h1 : p.pid < 1 := this; have := hc.1.1; omega, rfl⟩, fun h1 => ⟨fun h2 => ⟨LV.le.bF fun hc => by have := dT h2; have h2 : p.pid ≥ m.next := this; have := hc.1.2.1; omega, rfl⟩, fun h2 => ⟨fun h3 => ⟨fun h4 => ⟨fun h5 => ⟨LV.le.bF fun hc => by have a := bnT h3; have b := beF (nbT h4); have c := beF (nbT h5); have := hc.1.2.2.1; omega, rfl⟩, fun h5 => ⟨⟨by omega, by omega⟩, ⟨fun h6 => ⟨LV.le.bF fun hc => bnT h6 hc.1.2.2.2, rfl⟩, fun h6 => ⟨?_, .le ⟨rfl, ⟨rfl, Nat.le_of_ble_eq_true rfl⟩, ⟨LV.le.refl _, rfl, LV.le.refl _, rfl, LV.le.refl _, rfl, LV.le.refl _, rfl, trivial⟩, ⟨⟨_, rfl, LO.le.refl _⟩, rfl, rfl, ⟨_, rfl, LO.le.refl _⟩, rfl, rfl, trivial⟩⟩⟩⟩⟩⟩, fun h4 => ⟨⟨by omega, by omega⟩, ⟨fun h6 => ⟨LV.le.bF fun hc => bnT h6 hc.1.2.2.2, rfl⟩, fun h6 => ⟨?_, .le ⟨rfl, ⟨rfl, Nat.le_of_ble_eq_true rfl⟩, ⟨LV.le.refl _, rfl, LV.le.refl _, rfl, LV.le.refl _, rfl, LV.le.refl _, rfl, trivial⟩, ⟨⟨_, rfl, LO.le.refl _⟩, rfl, rfl, ⟨_, rfl, LO.le.refl _⟩, rfl, rfl, trivial⟩⟩⟩⟩⟩⟩, fun h3 => ⟨⟨by omega, by omega⟩, ⟨fun h6 => ⟨LV.le.bF fun hc => bnT h6 hc.1.2.2.2, rfl⟩, fun h6 => ⟨?_, .le ⟨rfl, ⟨rfl, Nat.le_of_ble_eq_true rfl⟩, ⟨LV.le.refl _, rfl, LV.le.refl _, rfl, LV.le.refl _, rfl, LV.le.refl _, rfl, trivial⟩, ⟨⟨_, rfl, LO.le.refl _⟩, rfl, rfl, ⟨_, rfl, LO.le.refl _⟩, rfl, rfl, trivial⟩⟩⟩⟩⟩⟩⟩⟩
    all_goals
      have h1 := dF h1
      have h2 := dF h2
      have h1 : ¬ p.pid < 1 := h1
      have h2 : ¬ p.pid ≥ m.next := h2
      refine ⟨by omega, by omega, ?_, bnF h6⟩
    · exact .inr (.inr (beT (nbF h5)))
    · exact .inr (.inl (beT (nbF h4)))
    · exact .inl (bnF h3)
  refine AW.cut Tryz.tab2Ok (P2 m p) ⟨[(2, .lp 0 0), (3, .lp 1 0), (5, .bs (p.st == 3)), (6, .bs (p.st == 2))], [(0, .box 30 m.c), (1, .box 77 p.c)], 2, 0⟩ rfl ?_ fun g2 => ?_
  · refine Ct.callC (rlives_ct m p.par hn) rfl (leL.refl _) ?_
    refine ⟨fun h1 => ⟨fun h2 => ⟨LV.le.bF fun hc => by have a := dF (nbT h1); have b := beT h2; rcases hc.2.1 with h | h; exact a h; exact h.1 b, rfl⟩, fun h2 => ⟨fun h3 => ⟨LV.le.bF fun hc => by have a := dF (nbT h1); have b := bnT h3; rcases hc.2.1 with h | h; exact a h; exact b h.2, rfl⟩, fun h3 => ⟨?_, .le ⟨rfl, ⟨rfl, Nat.le_of_ble_eq_true rfl⟩, ⟨LV.le.refl _, rfl, LV.le.refl _, rfl, LV.le.refl _, rfl, LV.le.refl _, rfl, trivial⟩, ⟨⟨_, rfl, LO.le.refl _⟩, rfl, rfl, ⟨_, rfl, LO.le.refl _⟩, rfl, rfl, trivial⟩⟩⟩⟩⟩, fun h1 => ⟨?_, .le ⟨rfl, ⟨rfl, Nat.le_of_ble_eq_true rfl⟩, ⟨LV.le.refl _, rfl, LV.le.refl _, rfl, LV.le.refl _, rfl, LV.le.refl _, rfl, trivial⟩, ⟨⟨_, rfl, LO.le.refl _⟩, rfl, rfl, ⟨_, rfl, LO.le.refl _⟩, rfl, rfl, trivial⟩⟩⟩⟩
    · exact .inr ⟨beF h2, bnF h3⟩
    · exact .inl (dT (nbF h1))
  refine AW.cut Tryz.tab2Ok (P3 p) ⟨[(2, .lp 0 0), (3, .lp 1 0), (5, .bs (p.st == 3)), (6, .bs (p.st == 2))], [(0, .box 30 m.c), (1, .box 77 p.c)], 2, 0⟩ rfl ?_ fun g3 => ?_
  · refine ⟨fun h1 => ⟨LV.le.bF fun hc => by
        have h1 : ((p.st == 2) != (p.why != 0)) = true := h1
        have := hc.2.2.1.1
        cases a : (p.st == 2) <;> cases b : (p.why != 0) <;> simp_all, rfl⟩, fun h1 => ⟨fun h2 => ⟨LV.le.bF fun hc => by have := dT h2; have h2 : p.why < 0 := this; have := hc.2.2.1.2.1; omega, rfl⟩, fun h2 => ⟨fun h3 => ⟨LV.le.bF fun hc => by have := dT h3; have h3 : p.why > 5 := this; have := hc.2.2.1.2.2.1; omega, rfl⟩, fun h3 => ⟨fun h4 => ⟨fun h5 => ⟨LV.le.bF fun hc => by have a := beF (nbT h4); have b := bnT h5; exact hc.2.2.1.2.2.2.1.elim a b, rfl⟩, fun h5 => ⟨fun h6 => ⟨fun h7 => ⟨LV.le.bF fun hc => by have a := beF (nbT h6); have b := bnT h7; exact hc.2.2.1.2.2.2.2.elim a b, rfl⟩, fun h7 => ⟨?_, .le ⟨rfl, ⟨rfl, Nat.le_of_ble_eq_true rfl⟩, ⟨LV.le.refl _, rfl, LV.le.refl _, rfl, LV.le.refl _, rfl, LV.le.refl _, rfl, trivial⟩, ⟨⟨_, rfl, LO.le.refl _⟩, rfl, rfl, ⟨_, rfl, LO.le.refl _⟩, rfl, rfl, trivial⟩⟩⟩⟩, fun h6 => ⟨?_, .le ⟨rfl, ⟨rfl, Nat.le_of_ble_eq_true rfl⟩, ⟨LV.le.refl _, rfl, LV.le.refl _, rfl, LV.le.refl _, rfl, LV.le.refl _, rfl, trivial⟩, ⟨⟨_, rfl, LO.le.refl _⟩, rfl, rfl, ⟨_, rfl, LO.le.refl _⟩, rfl, rfl, trivial⟩⟩⟩⟩⟩, fun h4 => ⟨fun h6 => ⟨fun h7 => ⟨LV.le.bF fun hc => by have a := beF (nbT h6); have b := bnT h7; exact hc.2.2.1.2.2.2.2.elim a b, rfl⟩, fun h7 => ⟨?_, .le ⟨rfl, ⟨rfl, Nat.le_of_ble_eq_true rfl⟩, ⟨LV.le.refl _, rfl, LV.le.refl _, rfl, LV.le.refl _, rfl, LV.le.refl _, rfl, trivial⟩, ⟨⟨_, rfl, LO.le.refl _⟩, rfl, rfl, ⟨_, rfl, LO.le.refl _⟩, rfl, rfl, trivial⟩⟩⟩⟩, fun h6 => ⟨?_, .le ⟨rfl, ⟨rfl, Nat.le_of_ble_eq_true rfl⟩, ⟨LV.le.refl _, rfl, LV.le.refl _, rfl, LV.le.refl _, rfl, LV.le.refl _, rfl, trivial⟩, ⟨⟨_, rfl, LO.le.refl _⟩, rfl, rfl, ⟨_, rfl, LO.le.refl _⟩, rfl, rfl, trivial⟩⟩⟩⟩⟩⟩⟩⟩
    all_goals
      have h1 : ((p.st == 2) != (p.why != 0)) = false := h1
      have g : p.st = 2 ↔ p.why ≠ 0 := by
        cases a : (p.st == 2) <;> cases b : (p.why != 0) <;> simp_all
      have h2 : ¬ p.why < 0 := dF h2
      have h3 : ¬ p.why > 5 := dF h3
      refine ⟨g, by omega, by omega, ?_, ?_⟩
    · exact .inr (bnF h5)
    · exact .inr (bnF h7)
    · exact .inr (bnF h5)
    · exact .inl (beT (nbF h6))
    · exact .inl (beT (nbF h4))
    · exact .inr (bnF h7)
    · exact .inl (beT (nbF h4))
    · exact .inl (beT (nbF h6))
  refine AW.run Tryz.tab2Ok rfl ?_
  refine ⟨Nat, fun k => ⟨[(96, iv (k : Int)), (95, .agg p.ptc), (2, .lp 0 0), (3, .lp 1 0), (5, .bs (p.st == 3)), (6, .bs (p.st == 2))], [(0, .box 30 m.c), (1, .box 77 p.c)], 2, 0⟩, fun k => k ≤ 16 ∧ (∀ i, i < k → P4 m p i), fun k => 16 - k, 0, ⟨Nat.zero_le _, fun i hi => absurd hi (by omega)⟩, .le ⟨rfl, ⟨rfl, Nat.le_of_ble_eq_true rfl⟩, ⟨LV.le.refl _, rfl, LV.le.refl _, rfl, LV.le.refl _, rfl, LV.le.refl _, rfl, LV.le.refl _, rfl, LV.le.refl _, rfl, trivial⟩, ⟨⟨_, rfl, LO.le.refl _⟩, rfl, rfl, ⟨_, rfl, LO.le.refl _⟩, rfl, rfl, trivial⟩⟩, fun k hj => ⟨fun h => ?_, fun h => ?_⟩⟩
  · obtain ⟨hj, hp⟩ := hj
    have h := dT h
    have h : (k : Int) < ((16 : Nat) : Int) := h
    have hk : k < 16 := by omega
    have ek := w1 hk (by omega)
    refine ⟨⟨by omega, by omega⟩, loadK_at _ (pt_at p k hk) ?_⟩
    refine ⟨_, eqF_pte (p.pt k) (false, false, 0), ?_⟩
    refine ⟨fun b1 => ⟨fun b2 => ?_, fun b2 => ⟨fun b3 => ?_, fun b3 => ?_⟩⟩, fun b1 => ⟨fun b3 => ⟨fun b4 => ?_, fun b4 => ⟨fun b5 => ?_, fun b5 => ⟨fun b6 => ?_, fun b6 => ?_⟩⟩⟩, fun b3 => ?_⟩⟩
    · exact ⟨LV.le.bF fun hc => by have hc4 := hc.2.2.2.1 k hk; have a := hc4.1 (nbT b1); have b := nbT b1; simp_all, rfl⟩
    · exact absurd b3 (by rw [show (p.pt k).1 = false from nbT b1]; simp)
    · exact ⟨k + 1, ⟨(by omega : k + 1 ≤ 16), fun i hi => by
        rcases (by omega : i < k ∨ i = k) with h4 | rfl
        · exact hp i h4
        · exact ⟨fun _ => by have b2 := nbF b2; simpa [nbT b1] using b2, fun h => by rw [nbT b1] at h; cases h⟩⟩, (by omega : 16 - (k + 1) < 16 - k), .le ⟨rfl, ⟨rfl, Nat.le_of_ble_eq_true rfl⟩, ⟨LV.le.int ek, rfl, LV.le.refl _, rfl, LV.le.refl _, rfl, LV.le.refl _, rfl, LV.le.refl _, rfl, LV.le.refl _, rfl, trivial⟩, ⟨⟨_, rfl, LO.le.refl _⟩, rfl, rfl, ⟨_, rfl, LO.le.refl _⟩, rfl, rfl, trivial⟩⟩⟩
    · exact ⟨LV.le.bF fun hc => by have hc4 := hc.2.2.2.1 k hk; exact (hc4.2 b3).1 (beT b4), rfl⟩
    · exact ⟨LV.le.bF fun hc => by have hc4 := hc.2.2.2.1 k hk; have := dT b5; have b5 : (p.pt k).2.2 < 0 := this; have := (hc4.2 b3).2.1; omega, rfl⟩
    · exact ⟨LV.le.bF fun hc => by have hc4 := hc.2.2.2.1 k hk; have := dT b6; have b6 : (p.pt k).2.2 ≥ (m.nF : Int) := this; have := (hc4.2 b3).2.2.1; omega, rfl⟩
    · refine Ct.callC (users_ct m (p.pt k).2.2 hn) rfl (leL.refl _) ?_
      refine ⟨fun b7 => ?_, fun b7 => ?_⟩
      · exact ⟨LV.le.bF fun hc => by have hc4 := hc.2.2.2.1 k hk; exact bnT b7 (by rw [(hc4.2 b3).2.2.2]; rfl), rfl⟩
      · exact ⟨k + 1, ⟨(by omega : k + 1 ≤ 16), fun i hi => by
          rcases (by omega : i < k ∨ i = k) with h4 | rfl
          · exact hp i h4
          · exact ⟨fun h => (by rw [show (p.pt i).1 = true from b3] at h; cases h), fun _ => by
              have b5 : ¬ (p.pt i).2.2 < 0 := dF b5
              have b6 : ¬ (p.pt i).2.2 ≥ (m.nF : Int) := dF b6
              have b7 := bnF b7
              exact ⟨beF b4, by omega, by omega, by omega⟩⟩⟩, (by omega : 16 - (k + 1) < 16 - k), .le ⟨rfl, ⟨rfl, Nat.le_of_ble_eq_true rfl⟩, ⟨LV.le.int ek, rfl, LV.le.refl _, rfl, LV.le.refl _, rfl, LV.le.refl _, rfl, LV.le.refl _, rfl, LV.le.refl _, rfl, trivial⟩, ⟨⟨_, rfl, LO.le.refl _⟩, rfl, rfl, ⟨_, rfl, LO.le.refl _⟩, rfl, rfl, trivial⟩⟩⟩
    · exact absurd b3 (by rw [show (p.pt k).1 = true from nbF b1]; simp)
  · obtain ⟨hj, hp⟩ := hj
    have h := dF h
    have h : ¬ (k : Int) < ((16 : Nat) : Int) := h
    have hn : k = 16 := by have : k ≤ 16 := hj; omega
    have g4 : ∀ k, k < 16 → P4 m p k := fun i hi => hp i (by omega)
    clear hp hj h
    refine ⟨Nat, fun k => ⟨[(139, iv (k : Int)), (138, .agg p.fdc), (2, .lp 0 0), (3, .lp 1 0), (5, .bs (p.st == 3)), (6, .bs (p.st == 2))], [(0, .box 30 m.c), (1, .box 77 p.c)], 2, 0⟩, fun k => k ≤ 8 ∧ (∀ i, i < k → P5 m p i), fun k => 8 - k, 0, ⟨Nat.zero_le _, fun i hi => absurd hi (by omega)⟩, .le ⟨rfl, ⟨rfl, Nat.le_of_ble_eq_true rfl⟩, ⟨LV.le.refl _, rfl, LV.le.refl _, rfl, LV.le.refl _, rfl, LV.le.refl _, rfl, LV.le.refl _, rfl, LV.le.refl _, rfl, trivial⟩, ⟨⟨_, rfl, LO.le.refl _⟩, rfl, rfl, ⟨_, rfl, LO.le.refl _⟩, rfl, rfl, trivial⟩⟩, fun k hj => ⟨fun h => ?_, fun h => ?_⟩⟩
    · obtain ⟨hj, hp⟩ := hj
      have h := dT h
      have h : (k : Int) < ((8 : Nat) : Int) := h
      have hk : k < 8 := by omega
      have ek := w1 hk (by omega)
      refine ⟨⟨by omega, by omega⟩, loadK_at _ (fd_at p k hk) ?_⟩
      refine Ct.callC (rfd_ct m (p.fd k) hQ) rfl (leL.refl _) ?_
      refine ⟨fun c1 => ?_, fun c1 => ⟨fun c2 => ⟨fun c3 => ?_, fun c3 => ?_⟩, fun c2 => ?_⟩⟩
      · exact ⟨LV.le.bF fun hc => by have hc5 := hc.2.2.2.2 k hk; exact dF (nbT c1) hc5.1, rfl⟩
      · exact ⟨LV.le.bF fun hc => by have hc5 := hc.2.2.2.2 k hk; exact bnT c3 (hc5.2 (beT c2)), rfl⟩
      · exact ⟨k + 1, ⟨(by omega : k + 1 ≤ 8), fun i hi => by
          rcases (by omega : i < k ∨ i = k) with h4 | rfl
          · exact hp i h4
          · exact ⟨dT (nbF c1), fun _ => bnF c3⟩⟩, (by omega : 8 - (k + 1) < 8 - k), .le ⟨rfl, ⟨rfl, Nat.le_of_ble_eq_true rfl⟩, ⟨LV.le.int ek, rfl, LV.le.refl _, rfl, LV.le.refl _, rfl, LV.le.refl _, rfl, LV.le.refl _, rfl, LV.le.refl _, rfl, trivial⟩, ⟨⟨_, rfl, LO.le.refl _⟩, rfl, rfl, ⟨_, rfl, LO.le.refl _⟩, rfl, rfl, trivial⟩⟩⟩
      · exact ⟨k + 1, ⟨(by omega : k + 1 ≤ 8), fun i hi => by
          rcases (by omega : i < k ∨ i = k) with h4 | rfl
          · exact hp i h4
          · exact ⟨dT (nbF c1), fun h => absurd h (beF c2)⟩⟩, (by omega : 8 - (k + 1) < 8 - k), .le ⟨rfl, ⟨rfl, Nat.le_of_ble_eq_true rfl⟩, ⟨LV.le.int ek, rfl, LV.le.refl _, rfl, LV.le.refl _, rfl, LV.le.refl _, rfl, LV.le.refl _, rfl, LV.le.refl _, rfl, trivial⟩, ⟨⟨_, rfl, LO.le.refl _⟩, rfl, rfl, ⟨_, rfl, LO.le.refl _⟩, rfl, rfl, trivial⟩⟩⟩
    · obtain ⟨hj, hp⟩ := hj
      have h := dF h
      have h : ¬ (k : Int) < ((8 : Nat) : Int) := h
      have hn : k = 8 := by have : k ≤ 8 := hj; omega
      exact ⟨LV.le.bT ⟨g1, g2, g3, g4, fun i hi => hp i (by omega)⟩, rfl⟩
end Go.Proofs.Aw
namespace Go.Proofs.Aw
open Go Go.Proofs Go.RowKit
set_option maxHeartbeats 8000000
set_option maxRecDepth 100000
def wErr (n : Nat) (w : Int × List UInt8) : Int := if w.1 < 0 ∨ (n : Int) ≤ w.1 then 2 else if w.2.length ≠ 128 then 3 else 0
def pErr (n : Nat) (f : Nat → Int × List UInt8) : Nat → Int
  | 0 => 0
  | k + 1 => if pErr n f k = 0 then wErr n (f k) else pErr n f k
theorem pErr_stay {n : Nat} {f : Nat → Int × List UInt8} {k : Nat} (h : pErr n f k ≠ 0) : ∀ d, pErr n f (k + d) = pErr n f k
  | 0 => rfl
  | d + 1 => by
    have ih := pErr_stay h d
    show (if pErr n f (k + d) = 0 then _ else pErr n f (k + d)) = _
    rw [ih, if_neg h]
theorem pErr_at {n N : Nat} {f : Nat → Int × List UInt8} {k : Nat} (h0 : pErr n f k = 0) (hk : k < N) (h : wErr n (f k) ≠ 0) : pErr n f N = wErr n (f k) := by
  have e : pErr n f (k + 1) = wErr n (f k) := by simp only [pErr]; rw [if_pos h0]
  have := pErr_stay (n := n) (f := f) (k := k + 1) (by rw [e]; exact h) (N - (k + 1))
  rw [show k + 1 + (N - (k + 1)) = N by omega, e] at this
  exact this
open Classical in
noncomputable def drvErr (m : MM) : Int := if 256 < m.nB then 6 else if ∃ i, i < m.nB ∧ (m.bl i).length ≠ 128 then 3 else pErr m.nB m.pend m.nW
open Classical in
noncomputable def badErr (m : MM) : Int := if drvErr m ≠ 0 then drvErr m else if m.nB ≤ 33 then 2 else 0
open Classical in
theorem rdcheck_ct (m : MM) (hB : m.nB ≤ 1000) (hW : m.nW ≤ 1000) : Ct Tryz.prog 81 [.agg m.drive] (iv (drvErr m)) := by
  refine Ct.enter Tryz.tab2Ok ft81 ?_
  refine ⟨fun h0 => ?_, fun h0 => ?_⟩
  · have h0 := dT h0
    have h0 : (m.nB : Int) > 256 := h0
    exact ⟨LV.le.int (by rw [drvErr, if_pos (by omega)]), rfl⟩
  have h0 := dF h0
  have h0 : ¬ (m.nB : Int) > 256 := h0
  refine ⟨Nat, fun j => ⟨[(3, iv (j : Int)), (1, .lp 0 0)], [(0, .box 28 m.drive)], 1, 0⟩, fun j => j ≤ m.nB ∧ (∀ i, i < j → (m.bl i).length = 128), fun j => m.nB - j, 0, ⟨Nat.zero_le _, fun i hi => absurd hi (by omega)⟩, .le ⟨rfl, ⟨rfl, Nat.le_of_ble_eq_true rfl⟩, ⟨LV.le.refl _, rfl, LV.le.refl _, rfl, trivial⟩, ⟨⟨_, rfl, LO.le.refl _⟩, rfl, rfl, trivial⟩⟩, fun j hj => ⟨fun h => ?_, fun h => ?_⟩⟩
  · obtain ⟨hj, hp⟩ := hj
    have h := dT h
    have h : (j : Int) < ((m.nB : Nat) : Int) := h
    have hj : j < m.nB := by omega
    have ej := w1 hj (by omega)
    refine ⟨⟨by omega, by omega⟩, ⟨fun h1 => ?_, fun h1 => ?_⟩⟩
    · have h1 : ((m.bl j).length : Int) ≠ 128 := bnT h1
      exact ⟨LV.le.int (by rw [drvErr, if_neg (by omega), if_pos ⟨j, hj, by omega⟩]), rfl⟩
    · exact ⟨j + 1, ⟨(by omega : j + 1 ≤ m.nB), fun i hi => by
        rcases (by omega : i < j ∨ i = j) with h4 | rfl
        · exact hp i h4
        · have h1 : ((m.bl i).length : Int) = 128 := bnF h1; omega⟩, (by omega : m.nB - (j + 1) < m.nB - j), .le ⟨rfl, ⟨rfl, Nat.le_of_ble_eq_true rfl⟩, ⟨LV.le.int ej, rfl, LV.le.refl _, rfl, trivial⟩, ⟨⟨_, rfl, LO.le.refl _⟩, rfl, rfl, trivial⟩⟩⟩
  · obtain ⟨hj, hp⟩ := hj
    have h := dF h
    have h : ¬ (j : Int) < ((m.nB : Nat) : Int) := h
    have hn : j = m.nB := by have : j ≤ m.nB := hj; omega
    have hno : ¬ ∃ i, i < m.nB ∧ (m.bl i).length ≠ 128 := fun ⟨i, hi, hc⟩ => hc (hp i (by omega))
    clear hp hj h
    refine ⟨Nat, fun k => ⟨[(4, iv (k : Int)), (1, .lp 0 0)], [(0, .box 28 m.drive)], 1, 0⟩, fun k => k ≤ m.nW ∧ (pErr m.nB m.pend k = 0), fun k => m.nW - k, 0, ⟨Nat.zero_le _, rfl⟩, .le ⟨rfl, ⟨rfl, Nat.le_of_ble_eq_true rfl⟩, ⟨LV.le.refl _, rfl, LV.le.refl _, rfl, trivial⟩, ⟨⟨_, rfl, LO.le.refl _⟩, rfl, rfl, trivial⟩⟩, fun k hj => ⟨fun h => ?_, fun h => ?_⟩⟩
    · obtain ⟨hj, hp⟩ := hj
      have h := dT h
      have h : (k : Int) < ((m.nW : Nat) : Int) := h
      have hk : k < m.nW := by omega
      have ek := w1 hk (by omega)
      by_cases a : (m.pend k).1 < 0
      · have he : wErr m.nB (m.pend k) = 2 := by rw [wErr, if_pos (.inl a)]
        refine DrawA.run Tryz.tab2Ok Tryz.mixed [0, 1, 0, 7, 15, 31, 63, 127, 255, 511, 255, 2047, 4095, 8191, 255, 16639, 49407, 131071, 262143] [] rfl ?_
        refine ⟨_, ⟨LV.le.refl _, rfl⟩, ?_⟩
        refine ⟨_, ⟨LV.le.refl _, rfl⟩, ?_⟩
        refine ⟨_, ⟨LV.le.refl _, rfl⟩, ?_⟩
        refine ⟨_, ⟨⟨by omega, by omega⟩, LV.le.refl _, rfl⟩, ?_⟩
        refine ⟨_, ⟨LV.le.refl _, rfl⟩, ?_⟩
        refine ⟨_, ⟨LV.le.refl _, rfl⟩, ?_⟩
        refine ⟨.v (.bool true), ⟨LV.le.bsV (decide_eq_true a), rfl⟩, ?_⟩
        refine ⟨_, ⟨LV.le.refl _, rfl⟩, ?_⟩
        refine ⟨_, ⟨LV.le.refl _, rfl⟩, ?_⟩
        refine ⟨_, ⟨LV.le.refl _, rfl⟩, ?_⟩
        refine ⟨_, ⟨LV.le.refl _, rfl⟩, ?_⟩
        refine ⟨_, ⟨LV.le.refl _, rfl⟩, ?_⟩
        refine ⟨_, ⟨LV.le.refl _, rfl⟩, ?_⟩
        refine ⟨_, ⟨LV.le.refl _, rfl⟩, ?_⟩
        refine ⟨_, ⟨LV.le.refl _, rfl⟩, ?_⟩
        refine ⟨_, ⟨LV.le.refl _, rfl⟩, ?_⟩
        refine ⟨_, ⟨LV.le.refl _, rfl⟩, ?_⟩
        refine ⟨_, ⟨LV.le.refl _, rfl⟩, ?_⟩
        refine ⟨_, ⟨LV.le.refl _, rfl⟩, ?_⟩
        refine ⟨True.intro, ?_⟩
        have hz := pErr_at (n := m.nB) (f := m.pend) hp hk (by rw [he]; decide)
        exact ⟨LV.le.int (by rw [drvErr, if_neg (by omega), if_neg hno, hz, he]), rfl⟩
      refine DrawA.run Tryz.tab2Ok Tryz.mixed [0, 1, 0, 7, 15, 31, 63, 127, 255, 511, 255, 2047, 4095, 8191, 255, 16639, 49407, 131071, 262143] [] rfl ?_
      refine ⟨_, ⟨LV.le.refl _, rfl⟩, ?_⟩
      refine ⟨_, ⟨LV.le.refl _, rfl⟩, ?_⟩
      refine ⟨_, ⟨LV.le.refl _, rfl⟩, ?_⟩
      refine ⟨_, ⟨⟨by omega, by omega⟩, LV.le.refl _, rfl⟩, ?_⟩
      refine ⟨_, ⟨LV.le.refl _, rfl⟩, ?_⟩
      refine ⟨_, ⟨LV.le.refl _, rfl⟩, ?_⟩
      refine ⟨.v (.bool false), ⟨LV.le.bsV (decide_eq_false a), rfl⟩, ?_⟩
      refine ⟨_, ⟨LV.le.refl _, rfl⟩, ?_⟩
      refine ⟨_, ⟨LV.le.refl _, rfl⟩, ?_⟩
      refine ⟨_, ⟨LV.le.refl _, rfl⟩, ?_⟩
      refine ⟨_, ⟨LV.le.refl _, rfl⟩, ?_⟩
      refine ⟨_, ⟨⟨by omega, by omega⟩, LV.le.refl _, rfl⟩, ?_⟩
      refine ⟨_, ⟨LV.le.refl _, rfl⟩, ?_⟩
      refine ⟨_, ⟨LV.le.refl _, rfl⟩, ?_⟩
      refine ⟨_, ⟨LV.le.refl _, rfl⟩, ?_⟩
      refine ⟨_, ⟨LV.le.refl _, rfl⟩, ?_⟩
      refine ⟨_, ⟨LV.le.refl _, rfl⟩, ?_⟩
      refine ⟨_, ⟨LV.le.refl _, rfl⟩, ?_⟩
      refine ⟨_, ⟨LV.le.refl _, rfl⟩, ?_⟩
      refine ⟨True.intro, ?_⟩
      refine ⟨fun b => ?_, fun b => ?_⟩
      · have b := dT b
        have b : (m.pend k).1 ≥ (m.nB : Int) := b
        have he : wErr m.nB (m.pend k) = 2 := by rw [wErr, if_pos (.inr (by omega))]
        have hz := pErr_at (n := m.nB) (f := m.pend) hp hk (by rw [he]; decide)
        exact ⟨LV.le.int (by rw [drvErr, if_neg (by omega), if_neg hno, hz, he]), rfl⟩
      have b := dF b
      have b : ¬ (m.pend k).1 ≥ (m.nB : Int) := b
      refine ⟨⟨by omega, by omega⟩, ⟨fun c => ?_, fun c => ?_⟩⟩
      · have c : ((m.pend k).2.length : Int) ≠ 128 := bnT c
        have he : wErr m.nB (m.pend k) = 3 := by rw [wErr, if_neg (by omega), if_pos (by omega)]
        have hz := pErr_at (n := m.nB) (f := m.pend) hp hk (by rw [he]; decide)
        exact ⟨LV.le.int (by rw [drvErr, if_neg (by omega), if_neg hno, hz, he]), rfl⟩
      · exact ⟨k + 1, ⟨(by omega : k + 1 ≤ m.nW), by
          have c : ((m.pend k).2.length : Int) = 128 := bnF c
          simp only [pErr]; rw [if_pos hp, wErr, if_neg (by omega), if_neg (by omega)]⟩, (by omega : m.nW - (k + 1) < m.nW - k), .le ⟨rfl, ⟨rfl, Nat.le_of_ble_eq_true rfl⟩, ⟨LV.le.int ek, rfl, LV.le.refl _, rfl, trivial⟩, ⟨⟨_, rfl, LO.le.refl _⟩, rfl, rfl, trivial⟩⟩⟩
    · obtain ⟨hj, hp⟩ := hj
      have h := dF h
      have h : ¬ (k : Int) < ((m.nW : Nat) : Int) := h
      have hn : k = m.nW := by have : k ≤ m.nW := hj; omega
      subst hn
      exact ⟨LV.le.int (by rw [drvErr, if_neg (by omega), if_neg hno, hp]), rfl⟩
open Classical in
theorem rbad_ct (m : MM) (hB : m.nB ≤ 1000) (hW : m.nW ≤ 1000) : Ct Tryz.prog 132 [.agg m.drive] (iv (badErr m)) := by
  refine Ct.enter Tryz.tab2Ok ft132 ?_
  refine Ct.callC (rdcheck_ct m hB hW) rfl (leL.refl _) ?_
  generalize hd : drvErr m = d
  refine ⟨fun h => ?_, fun h => ⟨fun g => ?_, fun g => ?_⟩⟩
  · exact ⟨LV.le.int (by rw [badErr, hd, if_pos (bnT h)]), rfl⟩
  · have g := dT g
    have g : (m.nB : Int) ≤ 33 := g
    exact ⟨LV.le.int (by rw [badErr, hd, if_neg (by rw [bnF h]; simp), if_pos (by omega)]), rfl⟩
  · have g := dF g
    have g : ¬ (m.nB : Int) ≤ 33 := g
    exact ⟨LV.le.int (by rw [badErr, hd, if_neg (by rw [bnF h]; simp), if_neg (by omega)]), rfl⟩
/-- a block as it was last written, of the first k writes -/
def getN (m : MM) (i : Nat) : Nat → List UInt8
  | 0 => m.bl i
  | k + 1 => if (m.pend k).1 = (i : Int) then (m.pend k).2 else getN m i k
theorem rget_ct (m : MM) (i : Nat) (hi : i < m.nB) (_hB : m.nB ≤ 1000) (hW : m.nW ≤ 1000) : Ct Tryz.prog 133 [.agg m.drive, iv (i : Int)] (.tup [.str (getN m i m.nW), iv 0]) := by
  refine Ct.enter Tryz.tab2Ok ft133 ?_
  refine ⟨fun h => absurd (dT h) (by omega), fun _ => ⟨fun h => absurd (dT h) (by show ¬ (i : Int) ≥ (m.nB : Int); omega), fun _ => ?_⟩⟩
  refine ⟨⟨by omega, by omega⟩, ?_⟩
  refine ⟨Nat, fun k => ⟨[(7, iv (k : Int)), (6, .str (getN m i k)), (1, iv (i : Int)), (2, .lp 0 0)], [(0, .box 28 m.drive)], 1, 0⟩, fun k => k ≤ m.nW ∧ True, fun k => m.nW - k, 0, ⟨Nat.zero_le _, True.intro⟩, .le ⟨rfl, ⟨rfl, Nat.le_of_ble_eq_true rfl⟩, ⟨LV.le.refl _, rfl, LV.le.refl _, rfl, LV.le.refl _, rfl, LV.le.refl _, rfl, trivial⟩, ⟨⟨_, rfl, LO.le.refl _⟩, rfl, rfl, trivial⟩⟩, fun k hj => ⟨fun h => ?_, fun h => ?_⟩⟩
  · obtain ⟨hj, hp⟩ := hj
    have h := dT h
    have h : (k : Int) < ((m.nW : Nat) : Int) := h
    have hk : k < m.nW := by omega
    have ek := w1 hk (by omega)
    refine ⟨⟨by omega, by omega⟩, ⟨fun c => ?_, fun c => ?_⟩⟩
    · refine ⟨⟨by omega, by omega⟩, ?_⟩
      exact ⟨k + 1, ⟨(by omega : k + 1 ≤ m.nW), True.intro⟩, (by omega : m.nW - (k + 1) < m.nW - k), .le ⟨rfl, ⟨rfl, Nat.le_of_ble_eq_true rfl⟩, ⟨LV.le.int ek, rfl, LV.le.eq (congrArg LV.str (by simp only [getN]; rw [if_pos (show (m.pend k).1 = (i : Int) from beT c)]; rfl)), rfl, LV.le.refl _, rfl, LV.le.refl _, rfl, trivial⟩, ⟨⟨_, rfl, LO.le.refl _⟩, rfl, rfl, trivial⟩⟩⟩
    · exact ⟨k + 1, ⟨(by omega : k + 1 ≤ m.nW), True.intro⟩, (by omega : m.nW - (k + 1) < m.nW - k), .le ⟨rfl, ⟨rfl, Nat.le_of_ble_eq_true rfl⟩, ⟨LV.le.int ek, rfl, LV.le.eq (congrArg LV.str (by simp only [getN]; rw [if_neg (show ¬ (m.pend k).1 = (i : Int) from beF c)])), rfl, LV.le.refl _, rfl, LV.le.refl _, rfl, trivial⟩, ⟨⟨_, rfl, LO.le.refl _⟩, rfl, rfl, trivial⟩⟩⟩
  · obtain ⟨hj, hp⟩ := hj
    have h := dF h
    have h : ¬ (k : Int) < ((m.nW : Nat) : Int) := h
    have hn : k = m.nW := by have : k ≤ m.nW := hj; omega
    subst hn
    exact ⟨LV.le.refl _, rfl⟩
end Go.Proofs.Aw
namespace Go.Proofs.Aw
open Go Go.Proofs Go.RowKit
set_option maxHeartbeats 8000000
set_option maxRecDepth 100000
open Classical in
noncomputable def hN (m : MM) : Nat := if badErr m = 0 then m.nB - 33 else 0
def homeF (m : MM) : TL := fun j => getN m (33 + j) m.nW
theorem bad_big {m : MM} (h : badErr m = 0) : 33 < m.nB := by
  rw [badErr] at h
  split at h
  · rename_i h1; exact absurd h h1
  · split at h
    · cases h
    · omega
theorem rhome_ct (m : MM) (hB : m.nB ≤ 1000) (hW : m.nW ≤ 1000) : Ct Tryz.prog 82 [.agg m.drive] (.sl 1 (hN m) (tx (homeF m))) := by
  refine Ct.enter Tryz.tab2Ok ft82 ?_
  refine Ct.callC (rbad_ct m hB hW) rfl (leL.refl _) ?_
  generalize hd : badErr m = d
  refine ⟨fun h => ?_, fun h => ?_⟩
  · have e : hN m = 0 := by rw [hN, hd, if_neg (bnT h)]
    rw [e]
    exact ⟨LV.le.slL rfl fun i hi => absurd hi (by omega), rfl⟩
  have hz := bnF h
  subst hz
  have hb := bad_big hd
  have e : hN m = m.nB - 33 := by rw [hN, hd, if_pos rfl]
  rw [e]
  generalize hL : m.nB - 33 = L
  refine ⟨Nat, fun j => ⟨[(4, iv ((33 + j : Nat) : Int)), (3, .ls 1 j), (1, .lp 0 0)], [(1, .arr 9 1 j (tx (homeF m))), (0, .box 28 m.drive)], 2, 0⟩, fun j => j ≤ L ∧ True, fun j => L - j, 0, ⟨Nat.zero_le _, True.intro⟩, .le ⟨rfl, ⟨rfl, Nat.le_of_ble_eq_true rfl⟩, ⟨LV.le.refl _, rfl, LV.le.refl _, rfl, LV.le.refl _, rfl, trivial⟩, ⟨⟨_, rfl, LO.le.arr rfl fun i hi => absurd hi (by omega)⟩, rfl, rfl, ⟨_, rfl, LO.le.refl _⟩, rfl, rfl, trivial⟩⟩, fun j hj => ⟨fun h => ?_, fun h => ?_⟩⟩
  · obtain ⟨hj, hp⟩ := hj
    have h := dT h
    have h : ((33 + j : Nat) : Int) < (m.nB : Int) := h
    have hj : j < L := by omega
    have ej : IntKind.i64.wrap (((33 + j : Nat) : Int) + 1) = ((33 + (j + 1) : Nat) : Int) := by rw [w64] <;> omega
    refine Ct.callC (rget_ct m (33 + j) (by omega) hB hW) rfl (leL.refl _) ?_
    exact ⟨by show (j + 1) * 16 ≤ _; omega, by show j + 1 ≤ _; omega, ⟨j + 1, ⟨(by omega : j + 1 ≤ L), True.intro⟩, (by omega : L - (j + 1) < L - j), .ren (a := 1) (b := 3) ⟨rfl, ⟨rfl, rfl, rfl, Nat.le_of_ble_eq_true rfl⟩, ⟨LV.le.int ej, rfl, LV.le.refl _, rfl, LV.le.refl _, rfl, trivial⟩, ⟨⟨_, rfl, LO.le.arrL rfl fun i hi => snocL (leL.refl _) i hi⟩, rfl, rfl, ⟨_, rfl, LO.le.refl _⟩, rfl, rfl, trivial⟩⟩⟩⟩
  · obtain ⟨hj, hp⟩ := hj
    have h := dF h
    have h : ¬ ((33 + j : Nat) : Int) < (m.nB : Int) := h
    obtain rfl : j = L := by have : j ≤ L := hj; omega
    exact ⟨LV.le.refl _, rfl⟩
/-- the blocks, with the first k of what is kept back -/
noncomputable def volN (m : MM) : Nat → TL
  | 0 => homeF m
  | k + 1 => fun i => if (m.dirty k).1 = (i : Int) then (m.dirty k).2 else volN m k i
theorem hN_le (m : MM) : hN m ≤ m.nB := by rw [hN]; split <;> omega
theorem rvol_ct (m : MM) (hB : m.nB ≤ 1000) (hW : m.nW ≤ 1000) (hD : m.nD ≤ 1000) : Ct Tryz.prog 84 [.agg m.c] (.sl 1 (hN m) (tx (volN m m.nD))) := by
  have hh := hN_le m
  refine Ct.enter Tryz.tab2Ok ft84 ?_
  refine Ct.callC (rhome_ct m hB hW) rfl (leL.refl _) ?_
  generalize hL : hN m = L at *
  refine ⟨by show (0 + L) * 16 ≤ _; omega, by show 0 + L ≤ _; omega, ?_⟩
  refine ⟨Nat, fun k => ⟨[(14, iv (k : Int)), (3, .ls 2 L), (12, .sl 2 m.nD (wvs m.dirty)), (13, iv (m.nD : Int))], [(2, .arr 9 1 L (tx (volN m k)))], 3, 0⟩, fun k => k ≤ m.nD ∧ True, fun k => m.nD - k, 0, ⟨Nat.zero_le _, True.intro⟩, .le ⟨rfl, ⟨rfl, Nat.le_of_ble_eq_true rfl⟩, ⟨LV.le.refl _, rfl, LV.le.eq (congrArg (LV.ls 2) (Nat.zero_add L)), rfl, LV.le.refl _, rfl, LV.le.refl _, rfl, trivial⟩, ⟨⟨_, rfl, LO.le.arrL (Nat.zero_add L) fun i hi => leL.refl _⟩, rfl, rfl, trivial⟩⟩, fun k hj => ⟨fun h => ?_, fun h => ?_⟩⟩
  · obtain ⟨hj, hp⟩ := hj
    have h := dT h
    have h : (k : Int) < ((m.nD : Nat) : Int) := h
    have hk : k < m.nD := by omega
    have ek := w1 hk (by omega)
    refine ⟨⟨by omega, by omega⟩, ⟨fun a => ⟨fun b => ?_, fun b => ?_⟩, fun a => ?_⟩⟩
    · have a : (m.dirty k).1 ≥ 0 := dT a
      have b : (m.dirty k).1 < (L : Int) := dT b
      refine ⟨⟨a, b⟩, ?_⟩
      exact ⟨k + 1, ⟨(by omega : k + 1 ≤ m.nD), True.intro⟩, (by omega : m.nD - (k + 1) < m.nD - k), .le ⟨rfl, ⟨rfl, Nat.le_of_ble_eq_true rfl⟩, ⟨LV.le.int ek, rfl, LV.le.refl _, rfl, LV.le.refl _, rfl, LV.le.refl _, rfl, trivial⟩, ⟨⟨_, rfl, LO.le.arrL rfl fun i hi => by
        by_cases e : i = (m.dirty k).1.toNat
        · have e' : Nat.beq i (m.dirty k).1.toNat = true := by rw [e]; exact beqT _
          show leL (match Nat.beq i (m.dirty k).1.toNat with | true => _ | false => _) _
          rw [e']
          refine ⟨_, _, rfl, LV.le.eq (congrArg LV.str ?_), rfl⟩
          simp only [volN]
          rw [if_pos (by omega)]
          rfl
        · have e' : Nat.beq i (m.dirty k).1.toNat = false := beqF e
          show leL (match Nat.beq i (m.dirty k).1.toNat with | true => _ | false => _) _
          rw [e']
          refine ⟨_, _, rfl, LV.le.eq (congrArg LV.str ?_), rfl⟩
          simp only [volN]
          rw [if_neg (by omega)]⟩, rfl, rfl, trivial⟩⟩⟩
    · have a : (m.dirty k).1 ≥ 0 := dT a
      have b : ¬ (m.dirty k).1 < (L : Int) := dF b
      exact ⟨k + 1, ⟨(by omega : k + 1 ≤ m.nD), True.intro⟩, (by omega : m.nD - (k + 1) < m.nD - k), .le ⟨rfl, ⟨rfl, Nat.le_of_ble_eq_true rfl⟩, ⟨LV.le.int ek, rfl, LV.le.refl _, rfl, LV.le.refl _, rfl, LV.le.refl _, rfl, trivial⟩, ⟨⟨_, rfl, LO.le.arrL rfl fun i hi => by
        refine ⟨_, _, rfl, LV.le.eq (congrArg LV.str ?_), rfl⟩
        simp only [volN]
        rw [if_neg (by omega)]⟩, rfl, rfl, trivial⟩⟩⟩
    · have a : ¬ (m.dirty k).1 ≥ 0 := dF a
      exact ⟨k + 1, ⟨(by omega : k + 1 ≤ m.nD), True.intro⟩, (by omega : m.nD - (k + 1) < m.nD - k), .le ⟨rfl, ⟨rfl, Nat.le_of_ble_eq_true rfl⟩, ⟨LV.le.int ek, rfl, LV.le.refl _, rfl, LV.le.refl _, rfl, LV.le.refl _, rfl, trivial⟩, ⟨⟨_, rfl, LO.le.arrL rfl fun i hi => by
        refine ⟨_, _, rfl, LV.le.eq (congrArg LV.str ?_), rfl⟩
        simp only [volN]
        rw [if_neg (by omega)]⟩, rfl, rfl, trivial⟩⟩⟩
  · obtain ⟨hj, hp⟩ := hj
    have h := dF h
    have h : ¬ (k : Int) < ((m.nD : Nat) : Int) := h
    have hn : k = m.nD := by have : k ≤ m.nD := hj; omega
    subst hn
    exact ⟨LV.le.refl _, rfl⟩
end Go.Proofs.Aw
namespace Go.Proofs.Aw
open Go Go.Proofs Go.RowKit
set_option maxHeartbeats 8000000
set_option maxRecDepth 100000
theorem wq {z : Int} (h0 : 0 ≤ z) (h1 : z < 18446744073709551616) : IntKind.u64.wrap z = z := by
  have : IntKind.u64.wrap z = z % 18446744073709551616 := by simp [IntKind.wrap, IntKind.bits, IntKind.signed]
  rw [this]; omega
/-- the lowest k bytes of a number -/
def putF (n : Nat) : Nat → List UInt8
  | 0 => []
  | k + 1 => putF n k ++ [UInt8.ofNat (n / 256 ^ k % 256)]
theorem putF_len (n : Nat) : ∀ k, (putF n k).length = k
  | 0 => rfl
  | k + 1 => by rw [putF, List.length_append, putF_len n k]; rfl
theorem putF_get (n : Nat) : ∀ k i, i < k → (putF n k).getD i 0 = UInt8.ofNat (n / 256 ^ i % 256)
  | 0, i, h => by omega
  | k + 1, i, h => by
    have e : (putF n (k + 1)).getD i 0 = (putF n k ++ [UInt8.ofNat (n / 256 ^ k % 256)]).getD i 0 := rfl
    rcases (by omega : i < k ∨ i = k) with h1 | rfl
    · rw [e, ← putF_get n k i h1, List.getD_eq_getElem?_getD, List.getD_eq_getElem?_getD, List.getElem?_append_left (by rw [putF_len]; exact h1)]
    · rw [e]; simp [putF_len]
theorem tq1 (q : Nat) : (q : Int).tmod 256 = ((q % 256 : Nat) : Int) := by rw [Int.tmod_eq_emod_of_nonneg (by omega)]; omega
theorem tq2 (q : Nat) (h : q < 18446744073709551616) : IntKind.u64.wrap ((q : Int).tdiv 256) = ((q / 256 : Nat) : Int) := by
  rw [Int.tdiv_eq_ediv_of_nonneg (by omega), wq (by omega) (by omega)]; omega
theorem w8q (q : Nat) : IntKind.u8.wrap (q : Int) = ((UInt8.ofNat (q % 256)).toNat : Int) := w8 _ (q % 256) (by omega) (by omega)
theorem w8r (q : Nat) : IntKind.u8.wrap ((q : Int).tmod 256) = ((UInt8.ofNat (q % 256)).toNat : Int) := by rw [tq1]; exact w8 _ (q % 256) (by omega) (by omega)
theorem rput_ct (n s : Nat) (hn : n < 18446744073709551616) (hs : s ≤ 8) : Ct Tryz.prog 98 [lv (n : Int), iv (s : Int)] (.str (putF n s)) := by
  refine Ct.enter Tryz.tab2Ok ft98 ?_
  refine ⟨Nat, fun j => ⟨[(6, iv (j : Int)), (5, .str (putF n j)), (0, lv ((n / 256 ^ j : Nat) : Int)), (1, iv (s : Int))], [], 0, 0⟩, fun j => j ≤ s ∧ True, fun j => s - j, 0, ⟨Nat.zero_le _, True.intro⟩, .le ⟨rfl, ⟨rfl, Nat.le_of_ble_eq_true rfl⟩, ⟨LV.le.refl _, rfl, LV.le.refl _, rfl, LV.le.int (by simp), rfl, LV.le.refl _, rfl, trivial⟩, trivial⟩, fun j hj => ⟨fun h => ⟨fun h8 => ?_, fun h8 => ?_⟩, fun h => ?_⟩⟩
  · obtain ⟨hj, hp⟩ := hj
    have h := dT h
    have h : (j : Int) < ((s : Nat) : Int) := h
    have hj : j < s := by omega
    have ej := w1 hj (by omega)
    have hl := putF_len n j
    have hb : n / 256 ^ j < 18446744073709551616 := Nat.lt_of_le_of_lt (Nat.div_le_self _ _) hn
    have t2 : IntKind.u64.wrap (((n / 256 ^ j : Nat) : Int).tdiv 256) = ((n / 256 ^ (j + 1) : Nat) : Int) := by
      rw [Nat.pow_succ, ← Nat.div_div_eq_div_mul]; exact tq2 _ hb
    refine ⟨by decide, [UInt8.ofNat (n / 256 ^ j % 256)], ⟨rfl, fun i hi => ?_⟩, ?_⟩
    · obtain rfl : i = 0 := by omega
      exact congrArg (fun z => [LV.v (.int .u8 z)]) (w8r _)
    refine ⟨by show (putF n j).length + 1 ≤ _; omega, by decide, ?_⟩
    exact ⟨j + 1, ⟨(by omega : j + 1 ≤ s), True.intro⟩, (by omega : s - (j + 1) < s - j), .le ⟨rfl, ⟨rfl, Nat.le_of_ble_eq_true rfl⟩, ⟨LV.le.int ej, rfl, LV.le.refl _, rfl, LV.le.int t2, rfl, LV.le.refl _, rfl, trivial⟩, trivial⟩⟩
  · exact absurd (dF h8) (by have := dT h; have h : (j : Int) < (s : Int) := this; show ¬ ¬ (j : Int) < 8; omega)
  · obtain ⟨hj, hp⟩ := hj
    have h := dF h
    have h : ¬ (j : Int) < ((s : Nat) : Int) := h
    have hn : j = s := by have : j ≤ s := hj; omega
    obtain rfl : j = s := by assumption
    exact ⟨LV.le.refl _, rfl⟩
theorem fdiv256 (n i : Nat) (h : i < 8) : (n : Int).fdiv (2 ^ (min (IntKind.i64.wrap (8 * (i : Int))).toNat IntKind.u64.bits)) = ((n / 256 ^ i : Nat) : Int) := by
  have e : (IntKind.i64.wrap (8 * (i : Int))).toNat = 8 * i := by rw [w64 (by omega) (by omega)]; omega
  rw [e, show IntKind.u64.bits = 64 from rfl, Nat.min_eq_left (by omega), Int.fdiv_eq_ediv_of_nonneg _ (Int.pow_nonneg (by decide)), show (256 : Nat) = 2 ^ 8 from rfl, ← Nat.pow_mul]
  exact (Int.natCast_ediv n (2 ^ (8 * i))).symm ▸ rfl
def pgF (n j i : Nat) : List LV := [.v (.int .u8 (if i < j then ((UInt8.ofNat (n / 256 ^ i % 256)).toNat : Int) else 0))]
theorem pgF_in {n j i : Nat} (h : i < j) : pgF n j i = [.v (.int .u8 ((UInt8.ofNat (n / 256 ^ i % 256)).toNat : Int))] := by rw [pgF, if_pos h]
theorem pgF_out {n j i : Nat} (h : ¬ i < j) : pgF n j i = [.v (.int .u8 0)] := by rw [pgF, if_neg h]
theorem put_ct (n s : Nat) (_hn : n < 18446744073709551616) (hs : s ≤ 8) : Ct Tryz.prog 42 [lv (n : Int), iv (s : Int)] (.str (putF n s)) := by
  refine Ct.enter Tryz.tab2Ok ft42 ?_
  have hm : ∀ z : Int, z = s → (if (8 : Int) < z then (8 : Int) else z) = s := fun z hz => by rw [hz, if_neg (by omega)]
  have hx : (if (0 : Int) > (s : Int) then (0 : Int) else (s : Int)) = s := by rw [if_neg (by omega)]
  have hq := hm _ hx
  refine ⟨⟨by rw [hq]; omega, Int.le_refl _, by rw [hq]; show (1 : Int) * (s : Int) ≤ _; omega, by rw [hq]; omega⟩, .inl ?_⟩
  refine ⟨Nat, fun j => ⟨[(13, iv (j : Int)), (12, iv (s : Int)), (5, .ls 0 s), (0, lv (n : Int))], [(0, .arr 5 1 s (pgF n j))], 1, 0⟩, fun j => j ≤ s ∧ True, fun j => s - j, 0, ⟨Nat.zero_le _, True.intro⟩, .le ⟨rfl, ⟨rfl, Nat.le_of_ble_eq_true rfl⟩, ⟨LV.le.refl _, rfl, LV.le.int (by show (((if (8 : Int) < (if (0 : Int) > (s : Int) then (0 : Int) else (s : Int)) then (8 : Int) else (if (0 : Int) > (s : Int) then (0 : Int) else (s : Int))).toNat : Nat) : Int) = s; rw [hq]; omega), rfl, LV.le.eq (congrArg (LV.ls 0) (by rw [hq]; omega)), rfl, LV.le.refl _, rfl, trivial⟩, ⟨⟨_, rfl, LO.le.arr (by rw [hq]; omega) fun i hi => by rw [pgF_out (by omega)]; rfl⟩, rfl, rfl, trivial⟩⟩, fun j hj => ⟨fun h => ?_, fun h => ?_⟩⟩
  · obtain ⟨hj, hp⟩ := hj
    have h := dT h
    have h : (j : Int) < ((s : Nat) : Int) := h
    have hj : j < s := by omega
    have ej := w1 hj (by omega)
    have e8 : IntKind.i64.wrap (8 * (j : Int)) = ((8 * j : Nat) : Int) := by rw [w64] <;> omega
    refine ⟨by rw [e8]; omega, ⟨by omega, by omega⟩, ?_⟩
    have hw := w8q (n / 256 ^ j)
    exact ⟨j + 1, ⟨(by omega : j + 1 ≤ s), True.intro⟩, (by omega : s - (j + 1) < s - j), .le ⟨rfl, ⟨rfl, Nat.le_of_ble_eq_true rfl⟩, ⟨LV.le.int ej, rfl, LV.le.refl _, rfl, LV.le.refl _, rfl, LV.le.refl _, rfl, trivial⟩, ⟨⟨_, rfl, LO.le.arr rfl fun i hi => by
        by_cases e : i = j
        · have e' : Nat.beq i j = true := by rw [e]; exact beqT _
          show (match Nat.beq i j with | true => _ | false => _) = _
          rw [e', pgF_in (show i < j + 1 by omega), e]
          exact congrArg (fun z => [LV.v (.int .u8 z)]) ((congrArg IntKind.u8.wrap (fdiv256 n j (by omega))).trans hw)
        · have e' : Nat.beq i j = false := beqF e
          show (match Nat.beq i j with | true => _ | false => _) = _
          rw [e']
          by_cases hlt : i < j
          · rw [pgF_in (show i < j + 1 by omega)]; exact pgF_in hlt
          · rw [pgF_out (show ¬ i < j + 1 by omega)]; exact pgF_out hlt⟩, rfl, rfl, trivial⟩⟩⟩
  · obtain ⟨hj, hp⟩ := hj
    have h := dF h
    have h : ¬ (j : Int) < ((s : Nat) : Int) := h
    have hn : j = s := by have : j ≤ s := hj; omega
    obtain rfl : j = s := by assumption
    refine ⟨putF n j, ⟨putF_len n j, fun i hi => ?_⟩, ⟨LV.le.refl _, rfl⟩⟩
    rw [putF_get n j i hi]
    exact congrArg (fun z => [LV.v (.int .u8 z)]) (if_pos hi)
end Go.Proofs.Aw
namespace Go.Proofs.Aw
open Go Go.Proofs Go.RowKit
set_option maxHeartbeats 8000000
set_option maxRecDepth 100000
/-- the number of bytes -/
def getF : List UInt8 → Nat
  | [] => 0
  | b :: r => b.toNat + 256 * getF r
theorem getF_lt : ∀ l : List UInt8, getF l < 256 ^ l.length
  | [] => by simp [getF]
  | b :: r => by
    have := getF_lt r
    have hb : b.toNat < 256 := b.toNat_lt
    simp only [getF, List.length_cons, Nat.pow_succ]
    omega
theorem getF_lt8 {l : List UInt8} (n : Nat) (h : l.length ≤ n) : getF l < 256 ^ n := Nat.lt_of_lt_of_le (getF_lt l) (Nat.pow_le_pow_right (by decide) h)
theorem getF_snoc (b : UInt8) : ∀ l : List UInt8, getF (l ++ [b]) = getF l + b.toNat * 256 ^ l.length
  | [] => by simp [getF]
  | a :: r => by
    simp only [List.cons_append, getF, getF_snoc b r, List.length_cons, Nat.pow_succ]
    rw [Nat.mul_add, Nat.add_assoc]
    congr 2
    rw [Nat.mul_comm 256, Nat.mul_assoc]
theorem drop_at2 {l : List UInt8} {i : Nat} (h : i < l.length) : l.drop i = l.getD i 0 :: l.drop (i + 1) := by
  rw [List.drop_eq_getElem_cons h]; simp [h]
theorem take_at2 {l : List UInt8} {i : Nat} (h : i < l.length) : l.take (i + 1) = l.take i ++ [l.getD i 0] := by
  rw [List.take_add_one]; simp [h]
theorem getS (l : List UInt8) (q : Nat) (z : Int) (hz : z = q) (hq : q < l.length) (h8 : l.length ≤ 8) :
    IntKind.u64.wrap (IntKind.u64.wrap ((getF (l.drop (q + 1)) : Int) * 256) + IntKind.u64.wrap ((l.getD z.toNat 0).toNat : Int)) = (getF (l.drop q) : Int) := by
  have hx : z.toNat = q := by omega
  rw [hx, drop_at2 hq, getF]
  have h1 := getF_lt8 (l := l.drop (q + 1)) 7 (by rw [List.length_drop]; omega)
  have h2 : (256 : Nat) ^ 7 = 72057594037927936 := by decide
  rw [h2] at h1
  have h3 : (l.getD q 0).toNat < 256 := (l.getD q 0).toNat_lt
  rw [wq (z := (getF (l.drop (q + 1)) : Int) * 256) (by omega) (by omega), wq (z := ((l.getD q 0).toNat : Int)) (by omega) (by omega), wq (by omega) (by omega)]
  omega
theorem rget64_ct (l : List UInt8) (h8 : l.length ≤ 8) : Ct Tryz.prog 135 [.str l] (lv (getF l : Int)) := by
  refine Ct.enter Tryz.tab2Ok ft135 ?_
  refine ⟨Nat, fun k => ⟨[(4, iv ((k : Int) - 1)), (3, lv (getF (l.drop k) : Int)), (0, .str l)], [], 0, 0⟩, fun k => k ≤ l.length, fun k => k, l.length, Nat.le_refl _,
    .le ⟨rfl, ⟨rfl, Nat.le_of_ble_eq_true rfl⟩, ⟨LV.le.int (by rw [w64] <;> omega), rfl, LV.le.int (by rw [List.drop_length]; rfl), rfl, LV.le.refl _, rfl, trivial⟩, trivial⟩, fun k hk => ⟨fun h => ⟨fun h9 => ?_, fun h9 => ?_⟩, fun h => ?_⟩⟩
  · have h := dT h
    have h : (k : Int) - 1 ≥ 0 := h
    have hk : k ≤ l.length := hk
    obtain ⟨q, rfl⟩ : ∃ q, k = q + 1 := ⟨k - 1, by omega⟩
    refine ⟨⟨by omega, by omega⟩, ?_⟩
    exact ⟨q, (by omega : q ≤ l.length), (by omega : q < q + 1), .le ⟨rfl, ⟨rfl, Nat.le_of_ble_eq_true rfl⟩, ⟨LV.le.int (by rw [w64] <;> omega), rfl, LV.le.int (getS l q _ (by omega) (by omega) h8), rfl, LV.le.refl _, rfl, trivial⟩, trivial⟩⟩
  · have h := dT h
    have h : (k : Int) - 1 ≥ 0 := h
    have hk : k ≤ l.length := hk
    exact absurd (dF h9) (by show ¬ ¬ (k : Int) - 1 < 8; omega)
  · have h := dF h
    have h : ¬ (k : Int) - 1 ≥ 0 := h
    obtain rfl : k = 0 := by omega
    exact ⟨LV.le.refl _, rfl⟩
theorem or64 (a c : Nat) (ha : a < 2 ^ 64) (hc : c < 2 ^ 64) : bitsA .or .u64 (a : Int) (c : Int) = ((a ||| c : Nat) : Int) := by
  show IntKind.u64.wrap (((BitVec.ofInt 64 (a : Int) ||| BitVec.ofInt 64 (c : Int)).toNat : Nat) : Int) = _
  rw [BitVec.ofInt_natCast, BitVec.ofInt_natCast, BitVec.toNat_or, BitVec.toNat_ofNat, BitVec.toNat_ofNat, Nat.mod_eq_of_lt ha, Nat.mod_eq_of_lt hc]
  have := Nat.or_lt_two_pow ha hc
  exact wq (by omega) (by omega)
theorem getO (l : List UInt8) (q : Nat) (hq : q < l.length) (h8 : l.length ≤ 8) :
    bitsA .or .u64 (getF (l.take q) : Int) (IntKind.u64.wrap (IntKind.u64.wrap ((l.getD q 0).toNat : Int) * 2 ^ (min (IntKind.i64.wrap (8 * (q : Int))).toNat IntKind.u64.bits))) = (getF (l.take (q + 1)) : Int) := by
  have e : (IntKind.i64.wrap (8 * (q : Int))).toNat = 8 * q := by rw [w64 (by omega) (by omega)]; omega
  have h3 : (l.getD q 0).toNat < 256 := (l.getD q 0).toNat_lt
  have h1 := getF_lt8 (l := l.take q) q (by rw [List.length_take]; omega)
  have hl : (l.take q).length = q := by rw [List.length_take]; omega
  rw [e, show IntKind.u64.bits = 64 from rfl, Nat.min_eq_left (by omega), wq (z := ((l.getD q 0).toNat : Int)) (by omega) (by omega), take_at2 hq, getF_snoc, hl]
  generalize (l.getD q 0).toNat = b at *
  generalize getF (l.take q) = a at *
  have hp : (256 : Nat) ^ q = 2 ^ (8 * q) := by rw [show (256 : Nat) = 2 ^ 8 from rfl, ← Nat.pow_mul]
  rw [hp] at h1
  rw [hp]
  have hb : b * 2 ^ (8 * q) < 2 ^ 64 := by
    have h4 : b * 2 ^ (8 * q) ≤ 255 * 2 ^ (8 * q) := Nat.mul_le_mul_right _ (by omega)
    have h5 : (2 : Nat) ^ (8 * q) ≤ 2 ^ 56 := Nat.pow_le_pow_right (by decide) (by omega)
    omega
  have ha : a < 2 ^ 64 := Nat.lt_of_lt_of_le h1 (Nat.pow_le_pow_right (by decide) (by omega))
  have e2 : (b : Int) * 2 ^ (8 * q) = ((b * 2 ^ (8 * q) : Nat) : Int) := by rw [Int.natCast_mul, Int.natCast_pow]; rfl
  rw [e2, wq (by omega) (by omega), or64 a _ ha hb]
  have := Nat.two_pow_add_eq_or_of_lt h1 b
  rw [Nat.mul_comm] at this
  rw [Nat.add_comm a, this]
  congr 1
  exact Nat.or_comm _ _
theorem get64_ct (l : List UInt8) (h8 : l.length ≤ 8) : Ct Tryz.prog 158 [.str l] (lv (getF l : Int)) := by
  refine Ct.enter Tryz.tab2Ok ft158 ?_
  refine ⟨Nat, fun j => ⟨[(8, iv (j : Int)), (7, iv (l.length : Int)), (3, lv (getF (l.take j) : Int)), (0, .str l)], [], 0, 0⟩, fun j => j ≤ l.length ∧ True, fun j => l.length - j, 0, ⟨Nat.zero_le _, True.intro⟩, .le ⟨rfl, ⟨rfl, Nat.le_of_ble_eq_true rfl⟩, ⟨LV.le.refl _, rfl, LV.le.int (if_neg (by omega)), rfl, LV.le.refl _, rfl, LV.le.refl _, rfl, trivial⟩, trivial⟩, fun j hj => ⟨fun h => ?_, fun h => ?_⟩⟩
  · obtain ⟨hj, hp⟩ := hj
    have h := dT h
    have h : (j : Int) < ((l.length : Nat) : Int) := h
    have hj : j < l.length := by omega
    have ej := w1 hj (by omega)
    have e8 : IntKind.i64.wrap (8 * (j : Int)) = ((8 * j : Nat) : Int) := by rw [w64] <;> omega
    refine ⟨⟨by omega, by omega⟩, by rw [e8]; omega, ?_⟩
    exact ⟨j + 1, ⟨(by omega : j + 1 ≤ l.length), True.intro⟩, (by omega : l.length - (j + 1) < l.length - j), .le ⟨rfl, ⟨rfl, Nat.le_of_ble_eq_true rfl⟩, ⟨LV.le.int ej, rfl, LV.le.refl _, rfl, LV.le.int (getO l j hj h8), rfl, LV.le.refl _, rfl, trivial⟩, trivial⟩⟩
  · obtain ⟨hj, hp⟩ := hj
    have h := dF h
    have h : ¬ (j : Int) < ((l.length : Nat) : Int) := h
    have hn : j = l.length := by have : j ≤ l.length := hj; omega
    exact ⟨LV.le.int (by rw [show l.take j = l from List.take_of_length_le (by omega)]), rfl⟩
theorem rzeros_ct (n : Nat) (hn : n ≤ 1000000) : Ct Tryz.prog 167 [iv (n : Int)] (.str (List.replicate n 0)) := by
  refine Ct.enter Tryz.tab2Ok ft167 ?_
  refine ⟨Nat, fun j => ⟨[(4, iv (j : Int)), (3, .str (List.replicate j 0)), (0, iv (n : Int))], [], 0, 0⟩, fun j => j ≤ n ∧ True, fun j => n - j, 0, ⟨Nat.zero_le _, True.intro⟩, .le ⟨rfl, ⟨rfl, Nat.le_of_ble_eq_true rfl⟩, ⟨LV.le.refl _, rfl, LV.le.refl _, rfl, LV.le.refl _, rfl, trivial⟩, trivial⟩, fun j hj => ⟨fun h => ?_, fun h => ?_⟩⟩
  · obtain ⟨hj, hp⟩ := hj
    have h := dT h
    have h : (j : Int) < ((n : Nat) : Int) := h
    have hj : j < n := by omega
    have ej := w1 hj (by omega)
    refine ⟨by show (List.replicate j (0 : UInt8)).length + 1 ≤ _; rw [List.length_replicate]; omega, ?_⟩
    exact ⟨j + 1, ⟨(by omega : j + 1 ≤ n), True.intro⟩, (by omega : n - (j + 1) < n - j), .le ⟨rfl, ⟨rfl, Nat.le_of_ble_eq_true rfl⟩, ⟨LV.le.int ej, rfl, LV.le.eq (congrArg LV.str List.replicate_succ'.symm), rfl, LV.le.refl _, rfl, trivial⟩, trivial⟩⟩
  · obtain ⟨hj, hp⟩ := hj
    have h := dF h
    have h : ¬ (j : Int) < ((n : Nat) : Int) := h
    have hn : j = n := by have : j ≤ n := hj; omega
    obtain rfl : j = n := by assumption
    exact ⟨LV.le.refl _, rfl⟩
theorem zeros_ct : Ct Tryz.prog 192 [] (.str (List.replicate 128 0)) := by
  refine Ct.enter Tryz.tab2Ok ft192 ?_
  refine Ct.callC (repeat_ct 128 (by omega)) rfl (leL.refl _) ?_
  generalize List.replicate 128 (0 : UInt8) = z
  exact ⟨LV.le.refl _, rfl⟩
/-- is a bit set? -/
def bitF (l : List UInt8) (i : Int) : Bool := bitsA .and .u8 (((l.getD (IntKind.i64.wrap (i.tdiv 8)).toNat 0).toNat : Int).fdiv (2 ^ (min (i.tmod 8).toNat IntKind.u8.bits))) 1 == 1
theorem bit_side (l : List UInt8) (i : Nat) (h : i < 8 * l.length) (hl : l.length ≤ 1000000) : (0 ≤ IntKind.i64.wrap ((i : Int).tdiv 8) ∧ IntKind.i64.wrap ((i : Int).tdiv 8) < (l.length : Int)) ∧ 0 ≤ (i : Int).tmod 8 := by
  rw [Int.tdiv_eq_ediv_of_nonneg (by omega), Int.tmod_eq_emod_of_nonneg (by omega), w64 (by omega) (by omega)]
  omega
theorem rbit_ct (l : List UInt8) (i : Nat) (h : i < 8 * l.length) (hl : l.length ≤ 1000000) : Ct Tryz.prog 137 [.str l, iv (i : Int)] (.bs (bitF l i)) := by
  obtain ⟨h1, h2⟩ := bit_side l i h hl
  refine Ct.enter Tryz.tab2Ok ft137 ?_
  refine ⟨by decide, h1, by decide, h2, ?_⟩
  exact ⟨LV.le.refl _, rfl⟩
theorem has_ct (l : List UInt8) (i : Nat) (h : i < 8 * l.length) (hl : l.length ≤ 1000000) : Ct Tryz.prog 193 [.str l, iv (i : Int)] (.bs (bitF l i)) := by
  obtain ⟨h1, h2⟩ := bit_side l i h hl
  refine Ct.enter Tryz.tab2Ok ft193 ?_
  refine ⟨by decide, h1, by decide, h2, ?_⟩
  exact ⟨LV.le.refl _, rfl⟩
end Go.Proofs.Aw

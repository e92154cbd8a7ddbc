/- A PART OF THE PROOF: an abstract run of the loaded code over value trees, and the functions walked by it. No condition of its own. -/
import Derived.Test.YtanmknmlphkeaaaDoorJB
namespace Go.Proofs.Aw
open Go Go.Proofs Go.RowKit
set_option maxHeartbeats 8000000
set_option maxRecDepth 100000
theorem mul7 (k x : Nat) (hk : k ≤ 3) (hx : x < 128) : IntKind.i64.wrap ((x : Int) * ((2 ^ (7 * k) : Nat) : Int)) = ((x * 2 ^ (7 * k) : Nat) : Int) ∧ x * 2 ^ (7 * k) < 268435456 := by
  have h : x * 2 ^ (7 * k) < 268435456 := by rcases (by omega : k = 0 ∨ k = 1 ∨ k = 2 ∨ k = 3) with rfl | rfl | rfl | rfl <;> simp <;> omega
  refine ⟨?_, h⟩
  rw [← Int.natCast_mul, w64 (by omega) (by omega)]
theorem up7 (k : Nat) (hk : k ≤ 3) : IntKind.i64.wrap (((2 ^ (7 * k) : Nat) : Int) * 128) = ((2 ^ (7 * (k + 1)) : Nat) : Int) := by
  rcases (by omega : k = 0 ∨ k = 1 ∨ k = 2 ∨ k = 3) with rfl | rfl | rfl | rfl <;> rw [w64] <;> simp
theorem rtexts_ct (b : List UInt8) (hb : b.length ≤ 100000000) (T : Tx) (hT : rdT b = T) : Ct Tryd.prog 48 [.str b] (txRes T) := by
  refine Ct.enter Tryd.tabOk ft48 ?_
  refine ⟨List (List UInt8) × Nat, fun q => ⟨[(5, .v (.int .i64 (q.2 : Int))), (4, .ls 0 q.1.length), (0, .str b)], [(0, .arr 9 1 q.1.length (tx (atL q.1)))], 1, 0⟩, fun q => q.2 ≤ b.length ∧ (rdT (b.drop q.2)).pre q.1 = T ∧ q.1.length ≤ q.2, fun q => b.length - q.2, ([], 0), ⟨Nat.zero_le _, by rw [Tx.pre_nil]; exact hT, Nat.le_refl _⟩,
    .le ⟨rfl, ⟨rfl, Nat.le_refl _⟩, ⟨LV.le.refl _, rfl, LV.le.refl _, rfl, LV.le.refl _, rfl, trivial⟩, ⟨⟨_, rfl, LO.le.arr rfl fun i hi => absurd hi (by simp)⟩, rfl, rfl, trivial⟩⟩, fun q hq => ⟨fun h => ?_, fun h => ?_⟩⟩
  · obtain ⟨acc, p⟩ := q
    obtain ⟨f1, f2, f3⟩ := hq
    have f1 : p ≤ b.length := f1
    have f2 : (rdT (b.drop p)).pre acc = T := f2
    have f3 : acc.length ≤ p := f3
    have h := dT h
    have h : (p : Int) < b.length := h
    have hpl : p < b.length := by omega
    have hd0 : b.drop p ≠ [] := by rw [drop_at hpl]; simp
    clear hT
    refine ⟨Nat × Nat, fun q => ⟨[(8, .v (.int .i64 (q.1 : Int))), (7, .v (.int .i64 ((2 ^ (7 * q.1) : Nat) : Int))), (6, .v (.int .i64 (q.2 : Int))), (5, .v (.int .i64 ((p + q.1 : Nat) : Int))), (4, .ls 0 acc.length), (0, .str b)], [(0, .arr 9 1 acc.length (tx (atL acc)))], 1, 0⟩, fun q => q.1 ≤ 3 ∧ p + q.1 ≤ b.length ∧ q.2 < 2 ^ (7 * q.1) ∧ rdAt q.1 q.2 (b.drop (p + q.1)) = rdAt 0 0 (b.drop p), fun q => b.length - (p + q.1), (0, 0), ⟨Nat.zero_le _, f1, by decide, rfl⟩,
      .le ⟨rfl, ⟨rfl, Nat.le_refl _⟩, ⟨LV.le.refl _, rfl, LV.le.refl _, rfl, LV.le.refl _, rfl, LV.le.refl _, rfl, LV.le.refl _, rfl, LV.le.refl _, rfl, trivial⟩, ⟨⟨_, rfl, LO.le.refl _⟩, rfl, rfl, trivial⟩⟩, fun q hq => ⟨fun hl => ?_, fun hl => ?_⟩⟩
    · obtain ⟨k, n⟩ := q
      obtain ⟨g1, g2, g3, g4⟩ := hq
      have g4 : rdAt k n (b.drop (p + k)) = rdAt 0 0 (b.drop p) := g4
      have hl : ((p + k : Nat) : Int) = b.length := eqI hl
      have e : p + k = b.length := by omega
      rw [e, List.drop_length] at g4
      rw [rdT_bad hd0 g4.symm] at f2
      obtain rfl : T = .bad 4 := f2.symm
      exact ⟨LV.le.refl _, rfl⟩
    obtain ⟨k, n⟩ := q
    obtain ⟨g1, g2, g3, g4⟩ := hq
    have g1 : k ≤ 3 := g1
    have g2 : p + k ≤ b.length := g2
    have g3 : n < 2 ^ (7 * k) := g3
    have g4 : rdAt k n (b.drop (p + k)) = rdAt 0 0 (b.drop p) := g4
    have hl : ((p + k : Nat) : Int) ≠ b.length := neI hl
    have hil : p + k < b.length := by omega
    rw [drop_at hil] at g4
    have hx : (b.getD (p + k) 0).toNat < 256 := (b.getD (p + k) 0).toNat_lt
    have wx : IntKind.i64.wrap ((b.getD (p + k) 0).toNat : Int) = ((b.getD (p + k) 0).toNat : Int) := w64 (by omega) (by omega)
    have wp : IntKind.i64.wrap (((p + k : Nat) : Int) + 1) = ((p + k + 1 : Nat) : Int) := by rw [w64] <;> omega
    have wk : IntKind.i64.wrap ((k : Int) + 1) = ((k + 1 : Nat) : Int) := by rw [w64] <;> omega
    have hm : (b.getD (p + k) 0).toNat % 128 < 128 := Nat.mod_lt _ (by decide)
    have tm : (IntKind.i64.wrap ((b.getD (p + k) 0).toNat : Int)).tmod 128 = (((b.getD (p + k) 0).toNat % 128 : Nat) : Int) := by rw [wx, Int.tmod_eq_emod_of_nonneg (by omega)]; omega
    have hs := mul7 k ((b.getD (p + k) 0).toNat % 128) g1 hm
    have hn2 := pow28 g1 g3
    have hadd : IntKind.i64.wrap ((n : Int) + IntKind.i64.wrap ((IntKind.i64.wrap ((b.getD (p + k) 0).toNat : Int)).tmod 128 * ((2 ^ (7 * k) : Nat) : Int))) = ((n + (b.getD (p + k) 0).toNat % 128 * 2 ^ (7 * k) : Nat) : Int) := by
      rw [tm, hs.1, w64 (by omega) (by omega)]
      omega
    have good : ¬ ((k = 3 ∧ 128 ≤ (b.getD (p + k) 0).toNat) ∨ (0 < k ∧ (b.getD (p + k) 0).toNat = 0)) → ((b.getD (p + k) 0).toNat < 128 → rdAt k n (b.getD (p + k) 0 :: b.drop (p + k + 1)) = .ok (n + (b.getD (p + k) 0).toNat % 128 * 2 ^ (7 * k)) (k + 1)) ∧ (¬ (b.getD (p + k) 0).toNat < 128 → rdAt k n (b.getD (p + k) 0 :: b.drop (p + k + 1)) = rdAt (k + 1) (n + (b.getD (p + k) 0).toNat % 128 * 2 ^ (7 * k)) (b.drop (p + k + 1))) := by
      intro hg
      simp only [rdAt]
      rw [if_neg hg]
      exact ⟨fun hl => if_pos hl, fun hl => if_neg hl⟩
    have bad : ((k = 3 ∧ 128 ≤ (b.getD (p + k) 0).toNat) ∨ (0 < k ∧ (b.getD (p + k) 0).toNat = 0)) → T = .bad 3 := by
      intro hg
      simp only [rdAt] at g4
      rw [if_pos hg] at g4
      rw [rdT_bad hd0 g4.symm] at f2
      exact f2.symm
    refine ⟨⟨by omega, by exact Int.ofNat_lt.mpr hil⟩, by decide, ⟨fun al => ⟨fun az => ⟨fun ak => ?_, fun ak => ?_⟩, fun az => ?_⟩, fun al => ⟨fun a3 => ?_, fun a3 => ?_⟩⟩⟩
    · have al := dT al
      have al : IntKind.i64.wrap ((b.getD (p + k) 0).toNat : Int) < 128 := al
      have az : IntKind.i64.wrap ((b.getD (p + k) 0).toNat : Int) = 0 := eqI az
      have ak := dT ak
      have ak : (k : Int) > 0 := ak
      obtain rfl := bad (by omega)
      exact ⟨LV.le.refl _, rfl⟩
    · have al := dT al
      have al : IntKind.i64.wrap ((b.getD (p + k) 0).toNat : Int) < 128 := al
      have az : IntKind.i64.wrap ((b.getD (p + k) 0).toNat : Int) = 0 := eqI az
      have ak := dF ak
      have ak : ¬ (k : Int) > 0 := ak
      have hE : rdAt 0 0 (b.drop p) = .ok (n + (b.getD (p + k) 0).toNat % 128 * 2 ^ (7 * k)) (k + 1) := by
        rw [← g4]
        exact (good (by omega)).1 (by omega)
      generalize hN : n + (b.getD (p + k) 0).toNat % 128 * 2 ^ (7 * k) = N at hE hadd
      have ws : IntKind.i64.wrap ((b.length : Int) - IntKind.i64.wrap (((p + k : Nat) : Int) + 1)) = (b.length : Int) - (p + k + 1 : Nat) := by rw [wp, w64] <;> omega
      have hdl : (b.drop p).length = b.length - p := List.length_drop
      refine ⟨fun hs => ?_, fun hs => ?_⟩
      · have hs := dT hs
        have hs : IntKind.i64.wrap ((b.length : Int) - IntKind.i64.wrap (((p + k : Nat) : Int) + 1)) < IntKind.i64.wrap ((n : Int) + IntKind.i64.wrap ((IntKind.i64.wrap ((b.getD (p + k) 0).toNat : Int)).tmod 128 * ((2 ^ (7 * k) : Nat) : Int))) := hs
        rw [hadd, ws] at hs
        rw [rdT_short hE (by omega)] at f2
        obtain rfl : T = .bad 4 := f2.symm
        exact ⟨LV.le.refl _, rfl⟩
      · have hs := dF hs
        have hs : ¬ IntKind.i64.wrap ((b.length : Int) - IntKind.i64.wrap (((p + k : Nat) : Int) + 1)) < IntKind.i64.wrap ((n : Int) + IntKind.i64.wrap ((IntKind.i64.wrap ((b.getD (p + k) 0).toNat : Int)).tmod 128 * ((2 ^ (7 * k) : Nat) : Int))) := hs
        rw [hadd, ws] at hs
        have hle : p + k + 1 + N ≤ b.length := by omega
        rw [rdT_step hE (by omega), Tx.pre_pre, List.drop_drop, List.drop_drop] at f2
        have wa : IntKind.i64.wrap (IntKind.i64.wrap (((p + k : Nat) : Int) + 1) + IntKind.i64.wrap ((n : Int) + IntKind.i64.wrap ((IntKind.i64.wrap ((b.getD (p + k) 0).toNat : Int)).tmod 128 * ((2 ^ (7 * k) : Nat) : Int)))) = ((p + k + 1 + N : Nat) : Int) := by rw [hadd, wp, w64] <;> omega
        refine ⟨⟨by show (0 : Int) ≤ IntKind.i64.wrap (((p + k : Nat) : Int) + 1); rw [wp]; omega, by show IntKind.i64.wrap (((p + k : Nat) : Int) + 1) ≤ IntKind.i64.wrap (IntKind.i64.wrap (((p + k : Nat) : Int) + 1) + IntKind.i64.wrap ((n : Int) + IntKind.i64.wrap ((IntKind.i64.wrap ((b.getD (p + k) 0).toNat : Int)).tmod 128 * ((2 ^ (7 * k) : Nat) : Int)))); rw [wa, wp]; omega, by show IntKind.i64.wrap (IntKind.i64.wrap (((p + k : Nat) : Int) + 1) + IntKind.i64.wrap ((n : Int) + IntKind.i64.wrap ((IntKind.i64.wrap ((b.getD (p + k) 0).toNat : Int)).tmod 128 * ((2 ^ (7 * k) : Nat) : Int)))) ≤ (b.length : Int); rw [wa]; exact Int.ofNat_le.mpr hle⟩, by show (acc.length + 1) * 16 ≤ _; omega, by show acc.length + 1 ≤ _; omega, ⟨(acc ++ [(b.drop (p + (k + 1))).take N], p + k + 1 + N), ⟨hle, by show (rdT (b.drop (p + k + 1 + N))).pre _ = T; rw [← f2, show p + k + 1 + N = p + (k + 1 + N) from by omega], by show (acc ++ [_]).length ≤ p + k + 1 + N; rw [List.length_append]; show acc.length + 1 ≤ _; omega⟩, (by show b.length - (p + k + 1 + N) < b.length - p; omega), .ren (a := 0) (b := 2) ⟨rfl, ⟨rfl, rfl, rfl, Nat.le_of_ble_eq_true rfl⟩, ⟨LV.le.int wa, rfl, LV.le.eq (congrArg (LV.ls 2) (by simp)), rfl, LV.le.refl _, rfl, trivial⟩, ⟨⟨_, rfl, LO.le.arr (by simp) fun i hi => ?_⟩, rfl, rfl, trivial⟩⟩⟩⟩
        refine texts_snoc (x := (b.drop (p + (k + 1))).take N) (c := [_]) ?_ i hi
        refine congrArg (fun z => [LV.str z]) ?_
        show (b.take (IntKind.i64.wrap (IntKind.i64.wrap (((p + k : Nat) : Int) + 1) + IntKind.i64.wrap ((n : Int) + IntKind.i64.wrap ((IntKind.i64.wrap ((b.getD (p + k) 0).toNat : Int)).tmod 128 * ((2 ^ (7 * k) : Nat) : Int))))).toNat).drop (IntKind.i64.wrap (((p + k : Nat) : Int) + 1)).toNat = _
        rw [wa, wp]
        show (b.take (p + k + 1 + N)).drop (p + k + 1) = _
        rw [List.drop_take, ← Nat.add_assoc]
        congr 1
        omega
    · have al := dT al
      have al : IntKind.i64.wrap ((b.getD (p + k) 0).toNat : Int) < 128 := al
      have az : IntKind.i64.wrap ((b.getD (p + k) 0).toNat : Int) ≠ 0 := neI az
      have hE : rdAt 0 0 (b.drop p) = .ok (n + (b.getD (p + k) 0).toNat % 128 * 2 ^ (7 * k)) (k + 1) := by
        rw [← g4]
        exact (good (by omega)).1 (by omega)
      generalize hN : n + (b.getD (p + k) 0).toNat % 128 * 2 ^ (7 * k) = N at hE hadd
      have ws : IntKind.i64.wrap ((b.length : Int) - IntKind.i64.wrap (((p + k : Nat) : Int) + 1)) = (b.length : Int) - (p + k + 1 : Nat) := by rw [wp, w64] <;> omega
      have hdl : (b.drop p).length = b.length - p := List.length_drop
      refine ⟨fun hs => ?_, fun hs => ?_⟩
      · have hs := dT hs
        have hs : IntKind.i64.wrap ((b.length : Int) - IntKind.i64.wrap (((p + k : Nat) : Int) + 1)) < IntKind.i64.wrap ((n : Int) + IntKind.i64.wrap ((IntKind.i64.wrap ((b.getD (p + k) 0).toNat : Int)).tmod 128 * ((2 ^ (7 * k) : Nat) : Int))) := hs
        rw [hadd, ws] at hs
        rw [rdT_short hE (by omega)] at f2
        obtain rfl : T = .bad 4 := f2.symm
        exact ⟨LV.le.refl _, rfl⟩
      · have hs := dF hs
        have hs : ¬ IntKind.i64.wrap ((b.length : Int) - IntKind.i64.wrap (((p + k : Nat) : Int) + 1)) < IntKind.i64.wrap ((n : Int) + IntKind.i64.wrap ((IntKind.i64.wrap ((b.getD (p + k) 0).toNat : Int)).tmod 128 * ((2 ^ (7 * k) : Nat) : Int))) := hs
        rw [hadd, ws] at hs
        have hle : p + k + 1 + N ≤ b.length := by omega
        rw [rdT_step hE (by omega), Tx.pre_pre, List.drop_drop, List.drop_drop] at f2
        have wa : IntKind.i64.wrap (IntKind.i64.wrap (((p + k : Nat) : Int) + 1) + IntKind.i64.wrap ((n : Int) + IntKind.i64.wrap ((IntKind.i64.wrap ((b.getD (p + k) 0).toNat : Int)).tmod 128 * ((2 ^ (7 * k) : Nat) : Int)))) = ((p + k + 1 + N : Nat) : Int) := by rw [hadd, wp, w64] <;> omega
        refine ⟨⟨by show (0 : Int) ≤ IntKind.i64.wrap (((p + k : Nat) : Int) + 1); rw [wp]; omega, by show IntKind.i64.wrap (((p + k : Nat) : Int) + 1) ≤ IntKind.i64.wrap (IntKind.i64.wrap (((p + k : Nat) : Int) + 1) + IntKind.i64.wrap ((n : Int) + IntKind.i64.wrap ((IntKind.i64.wrap ((b.getD (p + k) 0).toNat : Int)).tmod 128 * ((2 ^ (7 * k) : Nat) : Int)))); rw [wa, wp]; omega, by show IntKind.i64.wrap (IntKind.i64.wrap (((p + k : Nat) : Int) + 1) + IntKind.i64.wrap ((n : Int) + IntKind.i64.wrap ((IntKind.i64.wrap ((b.getD (p + k) 0).toNat : Int)).tmod 128 * ((2 ^ (7 * k) : Nat) : Int)))) ≤ (b.length : Int); rw [wa]; exact Int.ofNat_le.mpr hle⟩, by show (acc.length + 1) * 16 ≤ _; omega, by show acc.length + 1 ≤ _; omega, ⟨(acc ++ [(b.drop (p + (k + 1))).take N], p + k + 1 + N), ⟨hle, by show (rdT (b.drop (p + k + 1 + N))).pre _ = T; rw [← f2, show p + k + 1 + N = p + (k + 1 + N) from by omega], by show (acc ++ [_]).length ≤ p + k + 1 + N; rw [List.length_append]; show acc.length + 1 ≤ _; omega⟩, (by show b.length - (p + k + 1 + N) < b.length - p; omega), .ren (a := 0) (b := 2) ⟨rfl, ⟨rfl, rfl, rfl, Nat.le_of_ble_eq_true rfl⟩, ⟨LV.le.int wa, rfl, LV.le.eq (congrArg (LV.ls 2) (by simp)), rfl, LV.le.refl _, rfl, trivial⟩, ⟨⟨_, rfl, LO.le.arr (by simp) fun i hi => ?_⟩, rfl, rfl, trivial⟩⟩⟩⟩
        refine texts_snoc (x := (b.drop (p + (k + 1))).take N) (c := [_]) ?_ i hi
        refine congrArg (fun z => [LV.str z]) ?_
        show (b.take (IntKind.i64.wrap (IntKind.i64.wrap (((p + k : Nat) : Int) + 1) + IntKind.i64.wrap ((n : Int) + IntKind.i64.wrap ((IntKind.i64.wrap ((b.getD (p + k) 0).toNat : Int)).tmod 128 * ((2 ^ (7 * k) : Nat) : Int))))).toNat).drop (IntKind.i64.wrap (((p + k : Nat) : Int) + 1)).toNat = _
        rw [wa, wp]
        show (b.take (p + k + 1 + N)).drop (p + k + 1) = _
        rw [List.drop_take, ← Nat.add_assoc]
        congr 1
        omega
    · have al := dF al
      have al : ¬ IntKind.i64.wrap ((b.getD (p + k) 0).toNat : Int) < 128 := al
      have a3 : (k : Int) = 3 := eqI a3
      obtain rfl := bad (by omega)
      exact ⟨LV.le.refl _, rfl⟩
    · have al := dF al
      have al : ¬ IntKind.i64.wrap ((b.getD (p + k) 0).toNat : Int) < 128 := al
      have a3 : (k : Int) ≠ 3 := neI a3
      have hE := (good (by omega)).2 (by omega)
      exact ⟨(k + 1, n + (b.getD (p + k) 0).toNat % 128 * 2 ^ (7 * k)), ⟨(by omega : k + 1 ≤ 3), (by omega : p + (k + 1) ≤ b.length), pow7 g1 g3 hm, by rw [← g4]; exact hE.symm⟩, (by show b.length - (p + (k + 1)) < b.length - (p + k); omega), .le ⟨rfl, ⟨rfl, Nat.le_refl _⟩, ⟨LV.le.int wk, rfl, LV.le.int (up7 k g1), rfl, LV.le.int hadd, rfl, LV.le.int wp, rfl, LV.le.refl _, rfl, LV.le.refl _, rfl, trivial⟩, ⟨⟨_, rfl, LO.le.refl _⟩, rfl, rfl, trivial⟩⟩⟩
  · obtain ⟨acc, p⟩ := q
    obtain ⟨f1, f2, f3⟩ := hq
    have f1 : p ≤ b.length := f1
    have f2 : (rdT (b.drop p)).pre acc = T := f2
    have h := dF h
    have h : ¬ (p : Int) < b.length := h
    obtain rfl : p = b.length := by omega
    rw [List.drop_length, rdT_nil] at f2
    have f2 : Tx.ok (acc ++ []) = T := f2
    rw [List.append_nil] at f2
    obtain rfl : T = .ok acc := f2.symm
    exact ⟨LV.le.refl _, rfl⟩
end Go.Proofs.Aw

/- A PART OF THE PROOF: an abstract run of the loaded code over value trees, and the functions walked by it. No condition of its own. -/
import Derived.Test.YtanmknmlphkeaaaGreatDoorZK5
import Derived.ChangeKeysEq
namespace Go.Proofs.Aw
open Go Go.Proofs Go.RowKit
set_option maxHeartbeats 8000000
set_option maxRecDepth 100000
abbrev b8 (x : Int) : LV := .v (.int .u8 x)
def L32 (B : Nat → Int) : List LV := [b8 (B 0), b8 (B 1), b8 (B 2), b8 (B 3), b8 (B 4), b8 (B 5), b8 (B 6), b8 (B 7), b8 (B 8), b8 (B 9), b8 (B 10), b8 (B 11), b8 (B 12), b8 (B 13), b8 (B 14), b8 (B 15), b8 (B 16), b8 (B 17), b8 (B 18), b8 (B 19), b8 (B 20), b8 (B 21), b8 (B 22), b8 (B 23), b8 (B 24), b8 (B 25), b8 (B 26), b8 (B 27), b8 (B 28), b8 (B 29), b8 (B 30), b8 (B 31)]
abbrev u64w (x : Int) : Int := IntKind.u64.wrap x
def finF (H : Nat → Int) (c : Int) (s : List UInt8) : Nat → Int := takeF H (s ++ List.replicate (64 - s.length) 0) (u64w (c + u64w (s.length : Int))) true
def digF : Nat → (Nat → Int) → Int → List UInt8 → (Nat → Int)
  | 0, H, c, s => finF H c s
  | f + 1, H, c, s => if 64 < s.length then digF f (takeF H (s.take 64) (u64w (c + 64)) false) (u64w (c + 64)) (s.drop 64) else finF H c s
def byteOf (H : Nat → Int) (i k : Nat) : Int := IntKind.u8.wrap ((H i).fdiv (2 ^ (min (IntKind.i64.wrap (8 * (k : Int))).toNat IntKind.u32.bits)))
def OB (H : Nat → Int) : Nat → Nat → Int
  | 0 => zeroV
  | t + 1 => updV (OB H t) t (byteOf H (t / 4) (t % 4))
theorem OB_succ (H : Nat → Int) (i k : Nat) (hk : k < 4) : OB H (4 * i + (k + 1)) = updV (OB H (4 * i + k)) (4 * i + k) (byteOf H i k) := by
  show OB H ((4 * i + k) + 1) = _
  simp only [OB]
  rw [show (4 * i + k) / 4 = i by omega, show (4 * i + k) % 4 = k by omega]
theorem digF_go {f : Nat} {H : Nat → Int} {c : Int} {s : List UInt8} (h : 64 < s.length) : digF (f + 1) H c s = digF f (takeF H (s.take 64) (u64w (c + 64)) false) (u64w (c + 64)) (s.drop 64) := by
  simp only [digF]; rw [if_pos h]
theorem digF_end {f : Nat} {H : Nat → Int} {c : Int} {s : List UInt8} (h : ¬ 64 < s.length) : digF f H c s = finF H c s := by
  cases f with
  | zero => rfl
  | succ f => simp only [digF]; rw [if_neg h]
theorem digest_ct (H : Nat → Int) (s : List UInt8) (R : Nat → Int) (hR : digF s.length H 0 s = R) : Ct Tryz.prog 72 [.agg (L8 H), .str s] (.agg (L32 (OB R 32))) := by
  refine Ct.enter Tryz.tabOk ft72 ?_
  refine ⟨List UInt8 × Int × (Nat → Int), fun q => ⟨[(5, .v (.int .u64 q.2.1)), (1, .str q.1), (2, .lp 0 0), (4, .lp 1 0)], [(1, .box 57 (L32 zeroV)), (0, .box 117 (L8 q.2.2))], 2, 0⟩, fun q => ∃ f, q.1.length ≤ f ∧ digF f q.2.2 q.2.1 q.1 = R, fun q => q.1.length, (s, 0, H), ⟨s.length, Nat.le_refl _, hR⟩,
    .le ⟨rfl, ⟨rfl, Nat.le_refl _⟩, ⟨LV.le.refl _, rfl, LV.le.refl _, rfl, LV.le.refl _, rfl, LV.le.refl _, rfl, trivial⟩, ⟨⟨_, rfl, LO.le.refl _⟩, rfl, rfl, ⟨_, rfl, LO.le.refl _⟩, rfl, rfl, trivial⟩⟩, fun q hq => ⟨fun h => ?_, fun h => ?_⟩⟩
  · obtain ⟨s, c, H⟩ := q
    obtain ⟨f, hf, hR⟩ := hq
    have hf : s.length ≤ f := hf
    have hR : digF f H c s = R := hR
    have h := dT h
    have h : (s.length : Int) > 64 := h
    have hl : 64 < s.length := by omega
    obtain ⟨g, rfl⟩ : ∃ g, f = g + 1 := ⟨f - 1, by omega⟩
    rw [digF_go hl] at hR
    have ht : (s.take 64).length = 64 := by rw [List.length_take]; omega
    refine DrawA.le (T := Tryz.tab) (st' := ⟨[(5, .v (.int .u64 (u64w (c + 64)))), (1, .str s), (2, .lp 0 0), (4, .lp 1 0)], [(1, .box 57 (L32 zeroV)), (0, .box 117 (L8 H))], 2, 0⟩) ⟨rfl, ⟨rfl, Nat.le_refl _⟩, ⟨LV.le.refl _, rfl, LV.le.refl _, rfl, LV.le.refl _, rfl, LV.le.refl _, rfl, trivial⟩, ⟨⟨_, rfl, LO.le.refl _⟩, rfl, rfl, ⟨_, rfl, LO.le.refl _⟩, rfl, rfl, trivial⟩⟩ ?_
    refine DrawA.run Tryz.tabOk Tryz.mixed [0, 0, 2, 0, 15, 0, 32, 31, 255] [7] rfl ?_
    refine ⟨_, ⟨LV.le.refl _, rfl⟩, ?_⟩
    refine ⟨_, ⟨LV.le.refl _, rfl⟩, ?_⟩
    refine ⟨.str (s.take 64), ⟨⟨by decide, by decide, by omega⟩, LV.le.refl _, rfl⟩, ?_⟩
    refine ⟨_, ⟨LV.le.refl _, rfl⟩, ?_⟩
    refine ⟨_, Ct.callC (take_ct H (s.take 64) (u64w (c + 64)) false ht) rfl (leL.refl _) ⟨LV.le.refl _, rfl⟩, ?_⟩
    refine ⟨_, ⟨LV.le.refl _, rfl⟩, ?_⟩
    refine ⟨.str (s.drop 64), ⟨⟨by decide, by show (64 : Int) ≤ s.length; omega, Int.le_refl _⟩, LV.le.eq (congrArg LV.str (by show (s.take s.length).drop 64 = _; rw [List.take_length])), rfl⟩, ?_⟩
    refine ⟨_, _, ⟨LV.le.refl _, rfl⟩, ?_⟩
    refine ⟨_, ⟨LV.le.refl _, rfl⟩, ?_⟩
    refine ⟨?_, ?_⟩
    · refine ⟨⟨True.intro, ⟨LV.le.refl _, rfl⟩, True.intro⟩, ?_⟩
      refine ⟨⟨True.intro, ⟨⟨by decide, by show (64 : Int) ≤ s.length; omega, Int.le_refl _⟩, LV.le.eq (congrArg LV.str (by show (s.take s.length).drop 64 = _; rw [List.take_length])), rfl⟩, True.intro⟩, ?_⟩
      exact True.intro
    exact ⟨(s.drop 64, u64w (c + 64), takeF H (s.take 64) (u64w (c + 64)) false), ⟨g, by show (s.drop 64).length ≤ g; rw [List.length_drop]; omega, hR⟩, (by show (s.drop 64).length < s.length; rw [List.length_drop]; omega), .le ⟨rfl, ⟨rfl, Nat.le_refl _⟩, ⟨LV.le.refl _, rfl, LV.le.refl _, rfl, LV.le.refl _, rfl, LV.le.refl _, rfl, trivial⟩, ⟨⟨_, rfl, LO.le.refl _⟩, rfl, rfl, ⟨_, rfl, LO.le.refl _⟩, rfl, rfl, trivial⟩⟩⟩
  · obtain ⟨s, c, H⟩ := q
    obtain ⟨f, hf, hR⟩ := hq
    have hR : digF f H c s = R := hR
    have h := dF h
    have h : ¬ (s.length : Int) > 64 := h
    rw [digF_end (by omega)] at hR
    have hR : takeF H (s ++ List.replicate (64 - s.length) 0) (u64w (c + u64w (s.length : Int))) true = R := hR
    have ht : (s ++ List.replicate (64 - s.length) (0 : UInt8)).length = 64 := by rw [List.length_append, List.length_replicate]; omega
    refine DrawA.le (T := Tryz.tab) (st' := ⟨[(5, .v (.int .u64 (u64w (c + u64w (s.length : Int))))), (1, .str s), (2, .lp 0 0), (4, .lp 1 0)], [(1, .box 57 (L32 zeroV)), (0, .box 117 (L8 H))], 2, 0⟩) ⟨rfl, ⟨rfl, Nat.le_refl _⟩, ⟨LV.le.refl _, rfl, LV.le.refl _, rfl, LV.le.refl _, rfl, LV.le.refl _, rfl, trivial⟩, ⟨⟨_, rfl, LO.le.refl _⟩, rfl, rfl, ⟨_, rfl, LO.le.refl _⟩, rfl, rfl, trivial⟩⟩ ?_
    refine DrawA.run Tryz.tabOk Tryz.mixed [0, 0, 0, 4, 12, 28, 62, 0, 255, 511] [9] rfl ?_
    refine ⟨_, ⟨LV.le.refl _, rfl⟩, ?_⟩
    refine ⟨_, ⟨LV.le.refl _, rfl⟩, ?_⟩
    refine ⟨_, ⟨LV.le.refl _, rfl⟩, ?_⟩
    refine ⟨_, ⟨LV.le.refl _, rfl⟩, ?_⟩
    refine ⟨.v (.int .i64 ((64 - s.length : Nat) : Int)), ⟨LV.le.int (by rw [w64 (by omega) (by omega)]; omega), rfl⟩, ?_⟩
    refine ⟨_, Ct.callC (repeat_ct (64 - s.length) (by omega)) rfl (leL.refl _) ⟨LV.le.refl _, rfl⟩, ?_⟩
    refine ⟨_, ⟨by show s.length + (List.replicate (64 - s.length) (0 : UInt8)).length ≤ _; rw [List.length_replicate]; omega, LV.le.refl _, rfl⟩, ?_⟩
    refine ⟨_, ⟨LV.le.refl _, rfl⟩, ?_⟩
    refine ⟨_, Ct.callC (take_ct H (s ++ List.replicate (64 - s.length) 0) (u64w (c + u64w (s.length : Int))) true ht) rfl (leL.refl _) ⟨LV.le.refl _, rfl⟩, ?_⟩
    rw [hR]
    refine ⟨_, _, ⟨LV.le.refl _, rfl⟩, ?_⟩
    refine ⟨True.intro, ?_⟩
    clear hR hf
    refine ⟨Nat, fun i => ⟨[(37, .v (.int .i64 (i : Int))), (36, .agg (L8 R)), (6, .lp 2 0), (4, .lp 1 0)], [(2, .box 57 (L32 (OB R (4 * i)))), (1, .box 57 (L32 zeroV))], 3, 0⟩, fun i => i ≤ 8, fun i => 8 - i, 0, Nat.zero_le _, .le ⟨rfl, ⟨rfl, Nat.le_refl _⟩, ⟨LV.le.refl _, rfl, LV.le.refl _, rfl, LV.le.refl _, rfl, LV.le.refl _, rfl, trivial⟩, ⟨⟨_, rfl, LO.le.refl _⟩, rfl, rfl, ⟨_, rfl, LO.le.refl _⟩, rfl, rfl, trivial⟩⟩, fun i hi => ⟨fun h => ?_, fun h => ?_⟩⟩
    · have h := dT h
      have h : (i : Int) < 8 := h
      have e11 : IntKind.i64.wrap ((i : Int) + 1) = ((i + 1 : Nat) : Int) := by rw [w64] <;> omega
      clear hi
      rcases (by omega : i = 0 ∨ i = 1 ∨ i = 2 ∨ i = 3 ∨ i = 4 ∨ i = 5 ∨ i = 6 ∨ i = 7) with rfl | rfl | rfl | rfl | rfl | rfl | rfl | rfl
      · refine ⟨⟨by decide, by decide⟩, ?_⟩
        refine ⟨Nat, fun k => ⟨[(41, .v (.int .i64 (k : Int))), (7, .v (.int .i64 0)), (8, u (R 0)), (37, .v (.int .i64 0)), (36, .agg (L8 R)), (6, .lp 2 0), (4, .lp 1 0)], [(2, .box 57 (L32 (OB R (4 * 0 + k)))), (1, .box 57 (L32 zeroV))], 3, 0⟩, fun k => k ≤ 4, fun k => 4 - k, 0, Nat.zero_le _, .le ⟨rfl, ⟨rfl, Nat.le_refl _⟩, ⟨LV.le.refl _, rfl, LV.le.refl _, rfl, LV.le.refl _, rfl, LV.le.refl _, rfl, LV.le.refl _, rfl, LV.le.refl _, rfl, LV.le.refl _, rfl, trivial⟩, ⟨⟨_, rfl, LO.le.refl _⟩, rfl, rfl, ⟨_, rfl, LO.le.refl _⟩, rfl, rfl, trivial⟩⟩, fun k hk => ⟨fun g => ?_, fun g => ?_⟩⟩
        · have g := dT g
          have g : (k : Int) < 4 := g
          have e12 : IntKind.i64.wrap ((k : Int) + 1) = ((k + 1 : Nat) : Int) := by rw [w64] <;> omega
          have hO := OB_succ R 0 k (by omega)
          clear hk
          generalize OB R (4 * 0 + k) = B at hO ⊢
          rcases (by omega : k = 0 ∨ k = 1 ∨ k = 2 ∨ k = 3) with rfl | rfl | rfl | rfl
          all_goals
            refine ⟨by decide, ⟨by decide, by decide⟩, ?_⟩
            exact ⟨_, (by decide), (by decide), .le ⟨rfl, ⟨rfl, Nat.le_refl _⟩, ⟨LV.le.int e12, rfl, LV.le.refl _, rfl, LV.le.refl _, rfl, LV.le.refl _, rfl, LV.le.refl _, rfl, LV.le.refl _, rfl, LV.le.refl _, rfl, trivial⟩, ⟨⟨_, rfl, by rw [hO]; exact LO.le.refl _⟩, rfl, rfl, ⟨_, rfl, LO.le.refl _⟩, rfl, rfl, trivial⟩⟩⟩
        · have hk : k ≤ 4 := hk
          have g := dF g
          have g : ¬ (k : Int) < 4 := g
          obtain rfl : k = 4 := by omega
          exact ⟨1, (by decide), (by decide), .le ⟨rfl, ⟨rfl, Nat.le_refl _⟩, ⟨LV.le.int e11, rfl, LV.le.refl _, rfl, LV.le.refl _, rfl, LV.le.refl _, rfl, trivial⟩, ⟨⟨_, rfl, LO.le.refl _⟩, rfl, rfl, ⟨_, rfl, LO.le.refl _⟩, rfl, rfl, trivial⟩⟩⟩
      · refine ⟨⟨by decide, by decide⟩, ?_⟩
        refine ⟨Nat, fun k => ⟨[(41, .v (.int .i64 (k : Int))), (7, .v (.int .i64 1)), (8, u (R 1)), (37, .v (.int .i64 1)), (36, .agg (L8 R)), (6, .lp 2 0), (4, .lp 1 0)], [(2, .box 57 (L32 (OB R (4 * 1 + k)))), (1, .box 57 (L32 zeroV))], 3, 0⟩, fun k => k ≤ 4, fun k => 4 - k, 0, Nat.zero_le _, .le ⟨rfl, ⟨rfl, Nat.le_refl _⟩, ⟨LV.le.refl _, rfl, LV.le.refl _, rfl, LV.le.refl _, rfl, LV.le.refl _, rfl, LV.le.refl _, rfl, LV.le.refl _, rfl, LV.le.refl _, rfl, trivial⟩, ⟨⟨_, rfl, LO.le.refl _⟩, rfl, rfl, ⟨_, rfl, LO.le.refl _⟩, rfl, rfl, trivial⟩⟩, fun k hk => ⟨fun g => ?_, fun g => ?_⟩⟩
        · have g := dT g
          have g : (k : Int) < 4 := g
          have e12 : IntKind.i64.wrap ((k : Int) + 1) = ((k + 1 : Nat) : Int) := by rw [w64] <;> omega
          have hO := OB_succ R 1 k (by omega)
          clear hk
          generalize OB R (4 * 1 + k) = B at hO ⊢
          rcases (by omega : k = 0 ∨ k = 1 ∨ k = 2 ∨ k = 3) with rfl | rfl | rfl | rfl
          all_goals
            refine ⟨by decide, ⟨by decide, by decide⟩, ?_⟩
            exact ⟨_, (by decide), (by decide), .le ⟨rfl, ⟨rfl, Nat.le_refl _⟩, ⟨LV.le.int e12, rfl, LV.le.refl _, rfl, LV.le.refl _, rfl, LV.le.refl _, rfl, LV.le.refl _, rfl, LV.le.refl _, rfl, LV.le.refl _, rfl, trivial⟩, ⟨⟨_, rfl, by rw [hO]; exact LO.le.refl _⟩, rfl, rfl, ⟨_, rfl, LO.le.refl _⟩, rfl, rfl, trivial⟩⟩⟩
        · have hk : k ≤ 4 := hk
          have g := dF g
          have g : ¬ (k : Int) < 4 := g
          obtain rfl : k = 4 := by omega
          exact ⟨2, (by decide), (by decide), .le ⟨rfl, ⟨rfl, Nat.le_refl _⟩, ⟨LV.le.int e11, rfl, LV.le.refl _, rfl, LV.le.refl _, rfl, LV.le.refl _, rfl, trivial⟩, ⟨⟨_, rfl, LO.le.refl _⟩, rfl, rfl, ⟨_, rfl, LO.le.refl _⟩, rfl, rfl, trivial⟩⟩⟩
      · refine ⟨⟨by decide, by decide⟩, ?_⟩
        refine ⟨Nat, fun k => ⟨[(41, .v (.int .i64 (k : Int))), (7, .v (.int .i64 2)), (8, u (R 2)), (37, .v (.int .i64 2)), (36, .agg (L8 R)), (6, .lp 2 0), (4, .lp 1 0)], [(2, .box 57 (L32 (OB R (4 * 2 + k)))), (1, .box 57 (L32 zeroV))], 3, 0⟩, fun k => k ≤ 4, fun k => 4 - k, 0, Nat.zero_le _, .le ⟨rfl, ⟨rfl, Nat.le_refl _⟩, ⟨LV.le.refl _, rfl, LV.le.refl _, rfl, LV.le.refl _, rfl, LV.le.refl _, rfl, LV.le.refl _, rfl, LV.le.refl _, rfl, LV.le.refl _, rfl, trivial⟩, ⟨⟨_, rfl, LO.le.refl _⟩, rfl, rfl, ⟨_, rfl, LO.le.refl _⟩, rfl, rfl, trivial⟩⟩, fun k hk => ⟨fun g => ?_, fun g => ?_⟩⟩
        · have g := dT g
          have g : (k : Int) < 4 := g
          have e12 : IntKind.i64.wrap ((k : Int) + 1) = ((k + 1 : Nat) : Int) := by rw [w64] <;> omega
          have hO := OB_succ R 2 k (by omega)
          clear hk
          generalize OB R (4 * 2 + k) = B at hO ⊢
          rcases (by omega : k = 0 ∨ k = 1 ∨ k = 2 ∨ k = 3) with rfl | rfl | rfl | rfl
          all_goals
            refine ⟨by decide, ⟨by decide, by decide⟩, ?_⟩
            exact ⟨_, (by decide), (by decide), .le ⟨rfl, ⟨rfl, Nat.le_refl _⟩, ⟨LV.le.int e12, rfl, LV.le.refl _, rfl, LV.le.refl _, rfl, LV.le.refl _, rfl, LV.le.refl _, rfl, LV.le.refl _, rfl, LV.le.refl _, rfl, trivial⟩, ⟨⟨_, rfl, by rw [hO]; exact LO.le.refl _⟩, rfl, rfl, ⟨_, rfl, LO.le.refl _⟩, rfl, rfl, trivial⟩⟩⟩
        · have hk : k ≤ 4 := hk
          have g := dF g
          have g : ¬ (k : Int) < 4 := g
          obtain rfl : k = 4 := by omega
          exact ⟨3, (by decide), (by decide), .le ⟨rfl, ⟨rfl, Nat.le_refl _⟩, ⟨LV.le.int e11, rfl, LV.le.refl _, rfl, LV.le.refl _, rfl, LV.le.refl _, rfl, trivial⟩, ⟨⟨_, rfl, LO.le.refl _⟩, rfl, rfl, ⟨_, rfl, LO.le.refl _⟩, rfl, rfl, trivial⟩⟩⟩
      · refine ⟨⟨by decide, by decide⟩, ?_⟩
        refine ⟨Nat, fun k => ⟨[(41, .v (.int .i64 (k : Int))), (7, .v (.int .i64 3)), (8, u (R 3)), (37, .v (.int .i64 3)), (36, .agg (L8 R)), (6, .lp 2 0), (4, .lp 1 0)], [(2, .box 57 (L32 (OB R (4 * 3 + k)))), (1, .box 57 (L32 zeroV))], 3, 0⟩, fun k => k ≤ 4, fun k => 4 - k, 0, Nat.zero_le _, .le ⟨rfl, ⟨rfl, Nat.le_refl _⟩, ⟨LV.le.refl _, rfl, LV.le.refl _, rfl, LV.le.refl _, rfl, LV.le.refl _, rfl, LV.le.refl _, rfl, LV.le.refl _, rfl, LV.le.refl _, rfl, trivial⟩, ⟨⟨_, rfl, LO.le.refl _⟩, rfl, rfl, ⟨_, rfl, LO.le.refl _⟩, rfl, rfl, trivial⟩⟩, fun k hk => ⟨fun g => ?_, fun g => ?_⟩⟩
        · have g := dT g
          have g : (k : Int) < 4 := g
          have e12 : IntKind.i64.wrap ((k : Int) + 1) = ((k + 1 : Nat) : Int) := by rw [w64] <;> omega
          have hO := OB_succ R 3 k (by omega)
          clear hk
          generalize OB R (4 * 3 + k) = B at hO ⊢
          rcases (by omega : k = 0 ∨ k = 1 ∨ k = 2 ∨ k = 3) with rfl | rfl | rfl | rfl
          all_goals
            refine ⟨by decide, ⟨by decide, by decide⟩, ?_⟩
            exact ⟨_, (by decide), (by decide), .le ⟨rfl, ⟨rfl, Nat.le_refl _⟩, ⟨LV.le.int e12, rfl, LV.le.refl _, rfl, LV.le.refl _, rfl, LV.le.refl _, rfl, LV.le.refl _, rfl, LV.le.refl _, rfl, LV.le.refl _, rfl, trivial⟩, ⟨⟨_, rfl, by rw [hO]; exact LO.le.refl _⟩, rfl, rfl, ⟨_, rfl, LO.le.refl _⟩, rfl, rfl, trivial⟩⟩⟩
        · have hk : k ≤ 4 := hk
          have g := dF g
          have g : ¬ (k : Int) < 4 := g
          obtain rfl : k = 4 := by omega
          exact ⟨4, (by decide), (by decide), .le ⟨rfl, ⟨rfl, Nat.le_refl _⟩, ⟨LV.le.int e11, rfl, LV.le.refl _, rfl, LV.le.refl _, rfl, LV.le.refl _, rfl, trivial⟩, ⟨⟨_, rfl, LO.le.refl _⟩, rfl, rfl, ⟨_, rfl, LO.le.refl _⟩, rfl, rfl, trivial⟩⟩⟩
      · refine ⟨⟨by decide, by decide⟩, ?_⟩
        refine ⟨Nat, fun k => ⟨[(41, .v (.int .i64 (k : Int))), (7, .v (.int .i64 4)), (8, u (R 4)), (37, .v (.int .i64 4)), (36, .agg (L8 R)), (6, .lp 2 0), (4, .lp 1 0)], [(2, .box 57 (L32 (OB R (4 * 4 + k)))), (1, .box 57 (L32 zeroV))], 3, 0⟩, fun k => k ≤ 4, fun k => 4 - k, 0, Nat.zero_le _, .le ⟨rfl, ⟨rfl, Nat.le_refl _⟩, ⟨LV.le.refl _, rfl, LV.le.refl _, rfl, LV.le.refl _, rfl, LV.le.refl _, rfl, LV.le.refl _, rfl, LV.le.refl _, rfl, LV.le.refl _, rfl, trivial⟩, ⟨⟨_, rfl, LO.le.refl _⟩, rfl, rfl, ⟨_, rfl, LO.le.refl _⟩, rfl, rfl, trivial⟩⟩, fun k hk => ⟨fun g => ?_, fun g => ?_⟩⟩
        · have g := dT g
          have g : (k : Int) < 4 := g
          have e12 : IntKind.i64.wrap ((k : Int) + 1) = ((k + 1 : Nat) : Int) := by rw [w64] <;> omega
          have hO := OB_succ R 4 k (by omega)
          clear hk
          generalize OB R (4 * 4 + k) = B at hO ⊢
          rcases (by omega : k = 0 ∨ k = 1 ∨ k = 2 ∨ k = 3) with rfl | rfl | rfl | rfl
          all_goals
            refine ⟨by decide, ⟨by decide, by decide⟩, ?_⟩
            exact ⟨_, (by decide), (by decide), .le ⟨rfl, ⟨rfl, Nat.le_refl _⟩, ⟨LV.le.int e12, rfl, LV.le.refl _, rfl, LV.le.refl _, rfl, LV.le.refl _, rfl, LV.le.refl _, rfl, LV.le.refl _, rfl, LV.le.refl _, rfl, trivial⟩, ⟨⟨_, rfl, by rw [hO]; exact LO.le.refl _⟩, rfl, rfl, ⟨_, rfl, LO.le.refl _⟩, rfl, rfl, trivial⟩⟩⟩
        · have hk : k ≤ 4 := hk
          have g := dF g
          have g : ¬ (k : Int) < 4 := g
          obtain rfl : k = 4 := by omega
          exact ⟨5, (by decide), (by decide), .le ⟨rfl, ⟨rfl, Nat.le_refl _⟩, ⟨LV.le.int e11, rfl, LV.le.refl _, rfl, LV.le.refl _, rfl, LV.le.refl _, rfl, trivial⟩, ⟨⟨_, rfl, LO.le.refl _⟩, rfl, rfl, ⟨_, rfl, LO.le.refl _⟩, rfl, rfl, trivial⟩⟩⟩
      · refine ⟨⟨by decide, by decide⟩, ?_⟩
        refine ⟨Nat, fun k => ⟨[(41, .v (.int .i64 (k : Int))), (7, .v (.int .i64 5)), (8, u (R 5)), (37, .v (.int .i64 5)), (36, .agg (L8 R)), (6, .lp 2 0), (4, .lp 1 0)], [(2, .box 57 (L32 (OB R (4 * 5 + k)))), (1, .box 57 (L32 zeroV))], 3, 0⟩, fun k => k ≤ 4, fun k => 4 - k, 0, Nat.zero_le _, .le ⟨rfl, ⟨rfl, Nat.le_refl _⟩, ⟨LV.le.refl _, rfl, LV.le.refl _, rfl, LV.le.refl _, rfl, LV.le.refl _, rfl, LV.le.refl _, rfl, LV.le.refl _, rfl, LV.le.refl _, rfl, trivial⟩, ⟨⟨_, rfl, LO.le.refl _⟩, rfl, rfl, ⟨_, rfl, LO.le.refl _⟩, rfl, rfl, trivial⟩⟩, fun k hk => ⟨fun g => ?_, fun g => ?_⟩⟩
        · have g := dT g
          have g : (k : Int) < 4 := g
          have e12 : IntKind.i64.wrap ((k : Int) + 1) = ((k + 1 : Nat) : Int) := by rw [w64] <;> omega
          have hO := OB_succ R 5 k (by omega)
          clear hk
          generalize OB R (4 * 5 + k) = B at hO ⊢
          rcases (by omega : k = 0 ∨ k = 1 ∨ k = 2 ∨ k = 3) with rfl | rfl | rfl | rfl
          all_goals
            refine ⟨by decide, ⟨by decide, by decide⟩, ?_⟩
            exact ⟨_, (by decide), (by decide), .le ⟨rfl, ⟨rfl, Nat.le_refl _⟩, ⟨LV.le.int e12, rfl, LV.le.refl _, rfl, LV.le.refl _, rfl, LV.le.refl _, rfl, LV.le.refl _, rfl, LV.le.refl _, rfl, LV.le.refl _, rfl, trivial⟩, ⟨⟨_, rfl, by rw [hO]; exact LO.le.refl _⟩, rfl, rfl, ⟨_, rfl, LO.le.refl _⟩, rfl, rfl, trivial⟩⟩⟩
        · have hk : k ≤ 4 := hk
          have g := dF g
          have g : ¬ (k : Int) < 4 := g
          obtain rfl : k = 4 := by omega
          exact ⟨6, (by decide), (by decide), .le ⟨rfl, ⟨rfl, Nat.le_refl _⟩, ⟨LV.le.int e11, rfl, LV.le.refl _, rfl, LV.le.refl _, rfl, LV.le.refl _, rfl, trivial⟩, ⟨⟨_, rfl, LO.le.refl _⟩, rfl, rfl, ⟨_, rfl, LO.le.refl _⟩, rfl, rfl, trivial⟩⟩⟩
      · refine ⟨⟨by decide, by decide⟩, ?_⟩
        refine ⟨Nat, fun k => ⟨[(41, .v (.int .i64 (k : Int))), (7, .v (.int .i64 6)), (8, u (R 6)), (37, .v (.int .i64 6)), (36, .agg (L8 R)), (6, .lp 2 0), (4, .lp 1 0)], [(2, .box 57 (L32 (OB R (4 * 6 + k)))), (1, .box 57 (L32 zeroV))], 3, 0⟩, fun k => k ≤ 4, fun k => 4 - k, 0, Nat.zero_le _, .le ⟨rfl, ⟨rfl, Nat.le_refl _⟩, ⟨LV.le.refl _, rfl, LV.le.refl _, rfl, LV.le.refl _, rfl, LV.le.refl _, rfl, LV.le.refl _, rfl, LV.le.refl _, rfl, LV.le.refl _, rfl, trivial⟩, ⟨⟨_, rfl, LO.le.refl _⟩, rfl, rfl, ⟨_, rfl, LO.le.refl _⟩, rfl, rfl, trivial⟩⟩, fun k hk => ⟨fun g => ?_, fun g => ?_⟩⟩
        · have g := dT g
          have g : (k : Int) < 4 := g
          have e12 : IntKind.i64.wrap ((k : Int) + 1) = ((k + 1 : Nat) : Int) := by rw [w64] <;> omega
          have hO := OB_succ R 6 k (by omega)
          clear hk
          generalize OB R (4 * 6 + k) = B at hO ⊢
          rcases (by omega : k = 0 ∨ k = 1 ∨ k = 2 ∨ k = 3) with rfl | rfl | rfl | rfl
          all_goals
            refine ⟨by decide, ⟨by decide, by decide⟩, ?_⟩
            exact ⟨_, (by decide), (by decide), .le ⟨rfl, ⟨rfl, Nat.le_refl _⟩, ⟨LV.le.int e12, rfl, LV.le.refl _, rfl, LV.le.refl _, rfl, LV.le.refl _, rfl, LV.le.refl _, rfl, LV.le.refl _, rfl, LV.le.refl _, rfl, trivial⟩, ⟨⟨_, rfl, by rw [hO]; exact LO.le.refl _⟩, rfl, rfl, ⟨_, rfl, LO.le.refl _⟩, rfl, rfl, trivial⟩⟩⟩
        · have hk : k ≤ 4 := hk
          have g := dF g
          have g : ¬ (k : Int) < 4 := g
          obtain rfl : k = 4 := by omega
          exact ⟨7, (by decide), (by decide), .le ⟨rfl, ⟨rfl, Nat.le_refl _⟩, ⟨LV.le.int e11, rfl, LV.le.refl _, rfl, LV.le.refl _, rfl, LV.le.refl _, rfl, trivial⟩, ⟨⟨_, rfl, LO.le.refl _⟩, rfl, rfl, ⟨_, rfl, LO.le.refl _⟩, rfl, rfl, trivial⟩⟩⟩
      · refine ⟨⟨by decide, by decide⟩, ?_⟩
        refine ⟨Nat, fun k => ⟨[(41, .v (.int .i64 (k : Int))), (7, .v (.int .i64 7)), (8, u (R 7)), (37, .v (.int .i64 7)), (36, .agg (L8 R)), (6, .lp 2 0), (4, .lp 1 0)], [(2, .box 57 (L32 (OB R (4 * 7 + k)))), (1, .box 57 (L32 zeroV))], 3, 0⟩, fun k => k ≤ 4, fun k => 4 - k, 0, Nat.zero_le _, .le ⟨rfl, ⟨rfl, Nat.le_refl _⟩, ⟨LV.le.refl _, rfl, LV.le.refl _, rfl, LV.le.refl _, rfl, LV.le.refl _, rfl, LV.le.refl _, rfl, LV.le.refl _, rfl, LV.le.refl _, rfl, trivial⟩, ⟨⟨_, rfl, LO.le.refl _⟩, rfl, rfl, ⟨_, rfl, LO.le.refl _⟩, rfl, rfl, trivial⟩⟩, fun k hk => ⟨fun g => ?_, fun g => ?_⟩⟩
        · have g := dT g
          have g : (k : Int) < 4 := g
          have e12 : IntKind.i64.wrap ((k : Int) + 1) = ((k + 1 : Nat) : Int) := by rw [w64] <;> omega
          have hO := OB_succ R 7 k (by omega)
          clear hk
          generalize OB R (4 * 7 + k) = B at hO ⊢
          rcases (by omega : k = 0 ∨ k = 1 ∨ k = 2 ∨ k = 3) with rfl | rfl | rfl | rfl
          all_goals
            refine ⟨by decide, ⟨by decide, by decide⟩, ?_⟩
            exact ⟨_, (by decide), (by decide), .le ⟨rfl, ⟨rfl, Nat.le_refl _⟩, ⟨LV.le.int e12, rfl, LV.le.refl _, rfl, LV.le.refl _, rfl, LV.le.refl _, rfl, LV.le.refl _, rfl, LV.le.refl _, rfl, LV.le.refl _, rfl, trivial⟩, ⟨⟨_, rfl, by rw [hO]; exact LO.le.refl _⟩, rfl, rfl, ⟨_, rfl, LO.le.refl _⟩, rfl, rfl, trivial⟩⟩⟩
        · have hk : k ≤ 4 := hk
          have g := dF g
          have g : ¬ (k : Int) < 4 := g
          obtain rfl : k = 4 := by omega
          exact ⟨8, (by decide), (by decide), .le ⟨rfl, ⟨rfl, Nat.le_refl _⟩, ⟨LV.le.int e11, rfl, LV.le.refl _, rfl, LV.le.refl _, rfl, LV.le.refl _, rfl, trivial⟩, ⟨⟨_, rfl, LO.le.refl _⟩, rfl, rfl, ⟨_, rfl, LO.le.refl _⟩, rfl, rfl, trivial⟩⟩⟩
    · have hi : i ≤ 8 := hi
      have h := dF h
      have h : ¬ (i : Int) < 8 := h
      obtain rfl : i = 8 := by omega
      exact ⟨LV.le.refl _, rfl⟩
def sumH : Nat → Int := fun k => match k with
  | 0 => bitsA .xor .u32 (H0 0) 16842784
  | 1 => H0 1
  | 2 => H0 2
  | 3 => H0 3
  | 4 => H0 4
  | 5 => H0 5
  | 6 => H0 6
  | _ => H0 7
def sumF (s : List UInt8) : Nat → Int := OB (digF s.length sumH 0 s) 32
theorem sum_ct (s : List UInt8) : Ct Tryz.prog 34 [.sl 1 1 (tx fun _ => s)] (.agg (L32 (sumF s))) := by
  refine Ct.enter Tryz.tabOk ft34 ?_
  refine Ct.callC eight_ct rfl (leL.refl _) ?_
  refine ⟨⟨by decide, by decide⟩, ⟨⟨by decide, by decide⟩, ?_⟩⟩
  refine DrawA.le (T := Tryz.tab) (st' := ⟨[(3, .lp 1 0), (0, .sl 1 1 (tx fun _ => s)), (2, .lp 0 0)], [(1, .box 117 (L8 sumH)), (0, .box 57 (L32 zeroV))], 2, 0⟩) ⟨rfl, ⟨rfl, Nat.le_refl _⟩, ⟨LV.le.refl _, rfl, LV.le.refl _, rfl, LV.le.refl _, rfl, trivial⟩, ⟨⟨_, rfl, LO.le.refl _⟩, rfl, rfl, ⟨_, rfl, LO.le.refl _⟩, rfl, rfl, trivial⟩⟩ ?_
  refine DrawA.run Tryz.tabOk Tryz.mixed [0, 0, 2, 7, 15] [4] rfl ?_
  refine ⟨_, ⟨LV.le.refl _, rfl⟩, ?_⟩
  refine ⟨_, ⟨LV.le.refl _, rfl⟩, ?_⟩
  refine ⟨_, Ct.callC (join_ct s) rfl (leL.refl _) ⟨LV.le.refl _, rfl⟩, ?_⟩
  refine ⟨_, Ct.callC (digest_ct sumH s _ rfl) rfl (leL.refl _) ⟨LV.le.refl _, rfl⟩, ?_⟩
  show ∃ v s', _
  have e : OB (digF s.length sumH 0 s) 32 = sumF s := rfl
  rw [e]
  generalize sumF s = B
  clear e
  refine ⟨_, _, ⟨LV.le.refl _, rfl⟩, ?_⟩
  refine ⟨True.intro, ?_⟩
  exact ⟨LV.le.refl _, rfl⟩
end Go.Proofs.Aw

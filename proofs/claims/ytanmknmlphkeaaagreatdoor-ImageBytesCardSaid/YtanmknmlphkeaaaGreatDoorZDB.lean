/- A PART OF THE PROOF: an abstract run of the loaded code over value trees, and the functions walked by it. No condition of its own. -/
import Derived.Test.YtanmknmlphkeaaaGreatDoorZDA
import Derived.Laws.StructEq
namespace Go.Proofs.Aw
open Go Go.Proofs
set_option maxHeartbeats 4000000
set_option maxRecDepth 100000
theorem within_lit : Ct Tryz.prog 90 [.v (.int .i64 0), .v (.int .i64 1), .v (.int .i64 1000)] (.v (.bool false)) := by
  refine Ct.enter Tryz.tabOk ft90 ?_
  refine ⟨fun h => absurd h (by decide), fun h => ?_⟩
  exact ⟨LV.le.refl _, rfl⟩
/-- a machine whose quantum is 0 -/
def macB (c : Int) (M0 M1 : Nat) (w0 w1 : TL) : List LV := [.v (.int .u64 c), .v (.int .i64 0), .any, .any, .sl 1 M0 (tx w0), .any, .any, .any, .any, .any, .any, .any, .any, .sl 1 M1 (tx w1), .any, .any, .any]
theorem check_bad (c : Int) (M0 M1 : Nat) (w0 w1 : TL) : Ct Tryz.prog 41 [.agg (macB c M0 M1 w0 w1)] (.v (.int .i64 2)) := by
  refine Ct.enter Tryz.tabOk ft41 ?_
  refine Ct.callC within_lit rfl (leL.refl _) ?_
  exact ⟨LV.le.refl _, rfl⟩
theorem of_bad (c : Int) (M0 M1 : Nat) (w0 w1 : TL) : Ct Tryz.prog 12 [.agg (macB c M0 M1 w0 w1)] (.agg [.any, .any, .str []]) := by
  refine Ct.enter Tryz.tabOk ft12 ?_
  refine Ct.callC (check_bad c M0 M1 w0 w1) rfl (leL.refl _) ?_
  refine ⟨fun h => ?_, fun h => absurd h (by decide)⟩
  exact ⟨LV.le.agg ⟨_, _, rfl, LV.le.any _, _, _, rfl, LV.le.any _, _, _, rfl, LV.le.refl _, rfl⟩, rfl⟩
def noneK : KL := fun _ => (false, [])
theorem begin1 (n : Nat) (hn : n ≤ 400) : Ct Tryz.prog 56 [.any, .v (.int .i64 (n : Int))] (.sl 2 n (kv noneK)) := by
  refine Ct.enter Tryz.tabOk ft56 ?_
  refine ⟨⟨by omega, by omega, by show 24 * (n : Int) ≤ _; omega, by omega⟩, ?_⟩
  exact ⟨LV.le.slL rfl fun i hi => ⟨_, _, rfl, LV.le.bs false, leL.refl _⟩, rfl⟩
theorem begin_both (c : Int) (n0 n1 : Nat) (r : List UInt8) (h0 : n0 ≤ 400) (h1 : n1 ≤ 400) :
    Ct Tryz.prog 55 [.v (.int .i64 (n0 : Int)), .v (.int .i64 (n1 : Int)), .v (.func (.func 56) #[] #[]), .agg [.v (.int .u64 c), .any, .any, .str r]] (shot c n0 n1 noneK noneK r) := by
  refine Ct.enter Tryz.tabOk ft55 ?_
  refine DrawA.run Tryz.tabOk Tryz.mixed [0, 0, 2, 0, 15, 0, 0, 64, 0, 511, 223, 2047, 4095, 8191] [11, 13] rfl ?_
  refine ⟨_, ⟨LV.le.refl _, rfl⟩, ?_⟩
  refine ⟨_, ⟨LV.le.refl _, rfl⟩, ?_⟩
  refine ⟨_, ⟨LV.le.refl _, rfl⟩, ?_⟩
  refine ⟨_, ⟨LV.le.refl _, rfl⟩, ?_⟩
  refine ⟨_, Ct.callC (begin1 n0 h0) rfl (leL.refl _) ⟨LV.le.refl _, rfl⟩, ?_⟩
  refine ⟨_, ⟨LV.le.refl _, rfl⟩, ?_⟩
  refine ⟨_, ⟨LV.le.refl _, rfl⟩, ?_⟩
  refine ⟨_, ⟨LV.le.refl _, rfl⟩, ?_⟩
  refine ⟨_, ⟨LV.le.refl _, rfl⟩, ?_⟩
  refine ⟨_, Ct.callC (begin1 n1 h1) rfl (leL.refl _) ⟨LV.le.refl _, rfl⟩, ?_⟩
  refine ⟨_, ⟨LV.le.refl _, rfl⟩, ?_⟩
  refine ⟨_, _, ⟨LV.le.refl _, rfl⟩, ?_⟩
  refine ⟨_, ⟨LV.le.refl _, rfl⟩, ?_⟩
  refine ⟨_, _, ⟨LV.le.refl _, rfl⟩, ?_⟩
  refine ⟨True.intro, ?_⟩
  exact ⟨LV.le.refl _, rfl⟩
theorem begin_bad (c : Int) (n0 n1 : Nat) (w0 w1 : TL) (h0 : n0 ≤ 400) (h1 : n1 ≤ 400) : Ct Tryz.prog 19 [.agg (macB c n0 n1 w0 w1)] (shot c n0 n1 noneK noneK []) := by
  refine Ct.enter Tryz.tabOk ft19 ?_
  refine DrawA.run Tryz.tabOk Tryz.mixed [0, 1, 0, 4, 12, 31, 0, 127] [6, 7] rfl ?_
  refine ⟨_, ⟨LV.le.refl _, rfl⟩, ?_⟩
  refine ⟨_, ⟨LV.le.refl _, rfl⟩, ?_⟩
  refine ⟨_, ⟨LV.le.refl _, rfl⟩, ?_⟩
  refine ⟨_, Ct.callC (of_bad c n0 n1 w0 w1) rfl (leL.refl _) ⟨LV.le.refl _, rfl⟩, ?_⟩
  refine ⟨_, ⟨LV.le.refl _, rfl⟩, ?_⟩
  refine ⟨_, ⟨LV.le.refl _, rfl⟩, ?_⟩
  refine ⟨_, _, ⟨LV.le.refl _, rfl⟩, ?_⟩
  refine ⟨_, _, ⟨LV.le.refl _, rfl⟩, ?_⟩
  refine ⟨?_, ?_⟩
  · refine ⟨⟨True.intro, ⟨LV.le.refl _, rfl⟩, True.intro⟩, ?_⟩
    refine ⟨⟨True.intro, ⟨LV.le.refl _, rfl⟩, True.intro⟩, ?_⟩
    refine ⟨⟨True.intro, ⟨LV.le.refl _, rfl⟩, True.intro⟩, ?_⟩
    refine ⟨⟨True.intro, Ct.callC (of_bad c n0 n1 w0 w1) rfl (leL.refl _) ⟨LV.le.refl _, rfl⟩, True.intro⟩, ?_⟩
    refine ⟨⟨True.intro, ⟨LV.le.refl _, rfl⟩, True.intro⟩, ?_⟩
    refine ⟨⟨True.intro, ⟨LV.le.refl _, rfl⟩, True.intro⟩, ?_⟩
    exact True.intro
  refine Ct.callC (begin_both c n0 n1 [] h0 h1) rfl ⟨_, _, rfl, LV.le.refl _, _, _, rfl, LV.le.refl _, _, _, rfl, LV.le.refl _, _, _, rfl, LV.le.agg ⟨_, _, rfl, LV.le.refl _, _, _, rfl, LV.le.any _, _, _, rfl, LV.le.any _, _, _, rfl, LV.le.refl _, rfl⟩, rfl⟩ ?_
  exact ⟨LV.le.refl _, rfl⟩
end Go.Proofs.Aw
namespace Go.Proofs.Aw
open Go Go.Proofs
set_option maxHeartbeats 4000000
set_option maxRecDepth 100000
def imgV (a b : LV) (r : List UInt8) : LV := .agg [a, b, .str r]
theorem image_busy (c : Int) (n0 n1 : Nat) (k0 k1 : KL) (r : List UInt8) (h0 : n0 ≤ 400) (h1 : n1 ≤ 400) (hc : 0 < cnt (catK n0 k0 k1) (n0 + n1)) :
    Ct Tryz.prog 27 [shot c n0 n1 k0 k1 r] (.tup [imgV (.v (.slice none 0 0)) (.v (.slice none 0 0)) [], .v (.int .i64 12)]) := by
  refine Ct.enter Tryz.tabOk ft27 ?_
  refine Ct.callC (left_ct c n0 n1 k0 k1 r h0 h1) rfl (leL.refl _) ?_
  refine ⟨fun h => ?_, fun h => absurd (dF h) (by show ¬ ¬ (0 : Int) < (cnt (catK n0 k0 k1) (n0 + n1) : Int); omega)⟩
  exact ⟨LV.le.refl _, rfl⟩
def dat (k : KL) : TL := fun i => (k i).2
theorem bltF {i : Nat} : Nat.blt i i = false := by
  cases h : Nat.blt i i with
  | false => rfl
  | true => rw [Nat.blt_eq] at h; omega
theorem image_all (c : Int) (n0 n1 : Nat) (k0 k1 : KL) (r : List UInt8) (h0 : n0 ≤ 400) (h1 : n1 ≤ 400) (hc : cnt (catK n0 k0 k1) (n0 + n1) = 0) :
    Ct Tryz.prog 27 [shot c n0 n1 k0 k1 r] (.tup [imgV (.sl 1 n0 (tx (dat k0))) (.sl 1 n1 (tx (dat k1))) r, .v (.int .i64 0)]) := by
  refine Ct.enter Tryz.tabOk ft27 ?_
  refine Ct.callC (left_ct c n0 n1 k0 k1 r h0 h1) rfl (leL.refl _) ?_
  refine ⟨fun h => absurd (dT h) (by rw [hc]; decide), fun h => ?_⟩
  refine ⟨Nat, fun j => ⟨[(19, .v (.int .i64 (j : Int))), (18, .v (.int .i64 (n0 : Int))), (17, .sl 2 n0 (kv k0)), (1, .lp 0 0), (2, .lp 1 0), (4, .lp 2 0)],
      [(3, .arr 9 1 j (tx (dat k0))), (2, .box 36 [.ls 3 j, .v (.slice none 0 0), .str r]), (1, .box 36 [.v (.slice none 0 0), .v (.slice none 0 0), .str []]), (0, .box 43 [.v (.int .u64 c), .sl 2 n0 (kv k0), .sl 2 n1 (kv k1), .str r])], 4, 0⟩, fun j => j ≤ n0, fun j => n0 - j, 0, Nat.zero_le _,
      .own (ty := 9) (sz := 1) ⟨rfl, rfl, ⟨.refl _, rfl, .refl _, rfl, .refl _, rfl, .refl _, rfl, .refl _, rfl, .refl _, rfl, trivial⟩, ⟨⟨_, rfl, .of (LO.le.arr rfl fun i hi => absurd hi (by omega))⟩, rfl, rfl, ⟨_, rfl, .box ⟨_, _, rfl, .nil, _, _, rfl, .refl _, _, _, rfl, .refl _, rfl⟩⟩, rfl, rfl, ⟨_, rfl, .refl _⟩, rfl, rfl, ⟨_, rfl, .refl _⟩, rfl, rfl, trivial⟩⟩, fun j hj => ⟨fun h => ?_, fun h2 => ?_⟩⟩
  · have h := dT h
    have e11 : IntKind.i64.wrap ((j : Int) + 1) = ((j + 1 : Nat) : Int) := by rw [w64] <;> omega
    refine ⟨⟨by omega, by omega⟩, by show (j + 1) * 16 ≤ _; omega, by show j + 1 ≤ _; omega, ⟨j + 1, (by omega : j + 1 ≤ n0), (by omega : n0 - (j + 1) < n0 - j), .ren (a := 3) (b := 6) ⟨rfl, ⟨rfl, rfl, rfl, Nat.le_of_ble_eq_true rfl⟩, ⟨LV.le.int e11, rfl, LV.le.refl _, rfl, LV.le.refl _, rfl, LV.le.refl _, rfl, LV.le.refl _, rfl, LV.le.refl _, rfl, trivial⟩,
      ⟨⟨_, rfl, LO.le.arr rfl fun i hi => by
        rcases Nat.lt_or_ge i j with hlt | hge
        · have hb := Nat.blt_eq.mpr hlt
          dsimp only; rw [hb]
        · obtain rfl : i = j := by have : i < j + 1 := hi; omega
          dsimp only; rw [bltF, Nat.sub_self]; rfl⟩, rfl, rfl, ⟨_, rfl, LO.le.refl _⟩, rfl, rfl, ⟨_, rfl, LO.le.refl _⟩, rfl, rfl, ⟨_, rfl, LO.le.refl _⟩, rfl, rfl, trivial⟩⟩⟩⟩
  · have hj : j ≤ n0 := hj
    obtain rfl : j = n0 := by have := dF h2; omega
    refine ⟨Nat, fun i => ⟨[(34, .v (.int .i64 (i : Int))), (33, .v (.int .i64 (n1 : Int))), (32, .sl 2 n1 (kv k1)), (1, .lp 0 0), (2, .lp 1 0), (4, .lp 2 0)],
      [(4, .arr 9 1 i (tx (dat k1))), (3, .arr 9 1 j (tx (dat k0))), (2, .box 36 [.ls 3 j, .ls 4 i, .str r]), (1, .box 36 [.v (.slice none 0 0), .v (.slice none 0 0), .str []]), (0, .box 43 [.v (.int .u64 c), .sl 2 j (kv k0), .sl 2 n1 (kv k1), .str r])], 5, 0⟩, fun j => j ≤ n1, fun j => n1 - j, 0, Nat.zero_le _,
      .own (ty := 9) (sz := 1) ⟨rfl, rfl, ⟨.refl _, rfl, .refl _, rfl, .refl _, rfl, .refl _, rfl, .refl _, rfl, .refl _, rfl, trivial⟩, ⟨⟨_, rfl, .of (LO.le.arr rfl fun i hi => absurd hi (by omega))⟩, rfl, rfl, ⟨_, rfl, .refl _⟩, rfl, rfl, ⟨_, rfl, .box ⟨_, _, rfl, .refl _, _, _, rfl, .nil, _, _, rfl, .refl _, rfl⟩⟩, rfl, rfl, ⟨_, rfl, .refl _⟩, rfl, rfl, ⟨_, rfl, .refl _⟩, rfl, rfl, trivial⟩⟩, fun i hi => ⟨fun h => ?_, fun h3 => ?_⟩⟩
    · have h := dT h
      have e11 : IntKind.i64.wrap ((i : Int) + 1) = ((i + 1 : Nat) : Int) := by rw [w64] <;> omega
      refine ⟨⟨by omega, by omega⟩, by show (i + 1) * 16 ≤ _; omega, by show i + 1 ≤ _; omega, ⟨i + 1, (by omega : i + 1 ≤ n1), (by omega : n1 - (i + 1) < n1 - i), .ren (a := 4) (b := 7) ⟨rfl, ⟨rfl, rfl, rfl, Nat.le_of_ble_eq_true rfl⟩, ⟨LV.le.int e11, rfl, LV.le.refl _, rfl, LV.le.refl _, rfl, LV.le.refl _, rfl, LV.le.refl _, rfl, LV.le.refl _, rfl, trivial⟩,
        ⟨⟨_, rfl, LO.le.arr rfl fun q hq => by
        rcases Nat.lt_or_ge q i with hlt | hge
        · have hb := Nat.blt_eq.mpr hlt
          dsimp only; rw [hb]
        · obtain rfl : q = i := by have : q < i + 1 := hq; omega
          dsimp only; rw [bltF, Nat.sub_self]; rfl⟩, rfl, rfl, ⟨_, rfl, LO.le.refl _⟩, rfl, rfl, ⟨_, rfl, LO.le.refl _⟩, rfl, rfl, ⟨_, rfl, LO.le.refl _⟩, rfl, rfl, ⟨_, rfl, LO.le.refl _⟩, rfl, rfl, trivial⟩⟩⟩⟩
    · have hi : i ≤ n1 := hi
      obtain rfl : i = n1 := by have := dF h3; omega
      exact ⟨LV.le.refl _, rfl⟩
end Go.Proofs.Aw
namespace Go.Proofs.Aw
open Go Go.Proofs
set_option maxHeartbeats 4000000
set_option maxRecDepth 100000
def wab : TL := fun i => match i with
  | 0 => [97]
  | _ => [98]
def wax : TL := fun i => match i with
  | 0 => [97]
  | _ => [120]
def wc : TL := fun _ => [99]
abbrev kA : KL := pK (wK noneK wab wax 2 2) wax 2 9
abbrev kB : KL := pK (wK noneK wc wc 1 1) wc 1 (pN (wK noneK wab wax 2 2) 2 9 (2 : Nat))
theorem LV.le.bsV {b c : Bool} (h : b = c) : LV.le (.bs b) (.v (.bool c)) := fun m N y hr => by subst h; exact hr
theorem alive_cnt : cnt (catK 2 kA kB) (2 + 1) = 0 := by decide
theorem alive_cnt0 : 0 < cnt (catK 2 noneK noneK) (2 + 1) := by decide
theorem alive_ct : Ct Tryz.prog 16 [] (.v (.bool true)) := by
  refine Ct.enter Tryz.tabOk ft16 ?_
  refine CallA.frz [0, 1, 4] ?_
  refine Ct.callC (begin_bad 7 2 1 wab wc (by omega) (by omega)) rfl ?_ ?_
  · exact ⟨_, _, rfl, LV.le.agg ⟨_, _, rfl, LV.le.refl _, _, _, rfl, LV.le.refl _, _, _, rfl, LV.le.any _, _, _, rfl, LV.le.any _, _, _, rfl, (LV.le.slL rfl fun i hi => by rcases (by omega : i = 0 ∨ i = 1) with rfl | rfl <;> exact leL.of rfl), _, _, rfl, LV.le.any _, _, _, rfl, LV.le.any _, _, _, rfl, LV.le.any _, _, _, rfl, LV.le.any _, _, _, rfl, LV.le.any _, _, _, rfl, LV.le.any _, _, _, rfl, LV.le.any _, _, _, rfl, LV.le.any _, _, _, rfl, (LV.le.slL rfl fun i hi => by obtain rfl : i = 0 := (by omega); exact leL.of rfl), _, _, rfl, LV.le.any _, _, _, rfl, LV.le.any _, _, _, rfl, LV.le.any _, rfl⟩, rfl⟩
  refine Ct.callC (image_busy 7 2 1 noneK noneK [] (by omega) (by omega) alive_cnt0) rfl (leL.refl _) ?_
  refine DrawA.run Tryz.tabOk Tryz.mixed [0, 0, 0, 7, 0, 31, 0, 127] [6, 7] rfl ?_
  refine ⟨_, ⟨LV.le.refl _, rfl⟩, ?_⟩
  refine ⟨_, ⟨LV.le.refl _, rfl⟩, ?_⟩
  refine ⟨_, ⟨LV.le.refl _, rfl⟩, ?_⟩
  refine ⟨_, Ct.callC (went_ct 7 2 1 2 2 1 1 noneK noneK [] wab wax wc wc (by omega) (by omega) (by omega) (by omega) (by omega) (by omega)) rfl ⟨_, _, rfl, LV.le.refl _, _, _, rfl, LV.le.agg ⟨_, _, rfl, LV.le.any _, _, _, rfl, LV.le.any _, _, _, rfl, LV.le.any _, _, _, rfl, LV.le.any _, _, _, rfl, (LV.le.slL rfl fun i hi => by rcases (by omega : i = 0 ∨ i = 1) with rfl | rfl <;> exact leL.of rfl), _, _, rfl, LV.le.any _, _, _, rfl, LV.le.any _, _, _, rfl, LV.le.any _, _, _, rfl, LV.le.any _, _, _, rfl, LV.le.any _, _, _, rfl, LV.le.any _, _, _, rfl, LV.le.any _, _, _, rfl, LV.le.any _, _, _, rfl, (LV.le.slL rfl fun i hi => by obtain rfl : i = 0 := (by omega); exact leL.of rfl), _, _, rfl, LV.le.any _, _, _, rfl, LV.le.any _, _, _, rfl, LV.le.any _, rfl⟩, _, _, rfl, LV.le.agg ⟨_, _, rfl, LV.le.any _, _, _, rfl, LV.le.any _, _, _, rfl, LV.le.any _, _, _, rfl, LV.le.any _, _, _, rfl, (LV.le.slL rfl fun i hi => by rcases (by omega : i = 0 ∨ i = 1) with rfl | rfl <;> exact leL.of rfl), _, _, rfl, LV.le.any _, _, _, rfl, LV.le.any _, _, _, rfl, LV.le.any _, _, _, rfl, LV.le.any _, _, _, rfl, LV.le.any _, _, _, rfl, LV.le.any _, _, _, rfl, LV.le.any _, _, _, rfl, LV.le.any _, _, _, rfl, (LV.le.slL rfl fun i hi => by obtain rfl : i = 0 := (by omega); exact leL.of rfl), _, _, rfl, LV.le.any _, _, _, rfl, LV.le.any _, _, _, rfl, LV.le.any _, rfl⟩, rfl⟩ ⟨LV.le.refl _, rfl⟩, ?_⟩
  refine ⟨_, ⟨LV.le.refl _, rfl⟩, ?_⟩
  refine ⟨_, Ct.callC (pump_ct 7 9 2 1 2 1 (wK noneK wab wax 2 2) (wK noneK wc wc 1 1) [] wax wc (by omega) (by omega) (by omega) (by omega) (by omega)) rfl ⟨_, _, rfl, LV.le.refl _, _, _, rfl, LV.le.agg ⟨_, _, rfl, LV.le.any _, _, _, rfl, LV.le.any _, _, _, rfl, LV.le.any _, _, _, rfl, LV.le.any _, _, _, rfl, (LV.le.slL rfl fun i hi => by rcases (by omega : i = 0 ∨ i = 1) with rfl | rfl <;> exact leL.of rfl), _, _, rfl, LV.le.any _, _, _, rfl, LV.le.any _, _, _, rfl, LV.le.any _, _, _, rfl, LV.le.any _, _, _, rfl, LV.le.any _, _, _, rfl, LV.le.any _, _, _, rfl, LV.le.any _, _, _, rfl, LV.le.any _, _, _, rfl, (LV.le.slL rfl fun i hi => by obtain rfl : i = 0 := (by omega); exact leL.of rfl), _, _, rfl, LV.le.any _, _, _, rfl, LV.le.any _, _, _, rfl, LV.le.any _, rfl⟩, _, _, rfl, LV.le.refl _, rfl⟩ ⟨LV.le.refl _, rfl⟩, ?_⟩
  refine ⟨_, _, ⟨LV.le.refl _, rfl⟩, ?_⟩
  refine ⟨_, _, ⟨LV.le.refl _, rfl⟩, ?_⟩
  refine ⟨?_, ?_⟩
  · refine ⟨⟨True.intro, ⟨LV.le.refl _, rfl⟩, True.intro⟩, ?_⟩
    refine ⟨⟨True.intro, ⟨LV.le.refl _, rfl⟩, True.intro⟩, ?_⟩
    refine ⟨⟨True.intro, ⟨LV.le.refl _, rfl⟩, True.intro⟩, ?_⟩
    refine ⟨⟨True.intro, Ct.callC (went_ct 7 2 1 2 2 1 1 noneK noneK [] wab wax wc wc (by omega) (by omega) (by omega) (by omega) (by omega) (by omega)) rfl ⟨_, _, rfl, LV.le.refl _, _, _, rfl, LV.le.agg ⟨_, _, rfl, LV.le.any _, _, _, rfl, LV.le.any _, _, _, rfl, LV.le.any _, _, _, rfl, LV.le.any _, _, _, rfl, (LV.le.slL rfl fun i hi => by rcases (by omega : i = 0 ∨ i = 1) with rfl | rfl <;> exact leL.of rfl), _, _, rfl, LV.le.any _, _, _, rfl, LV.le.any _, _, _, rfl, LV.le.any _, _, _, rfl, LV.le.any _, _, _, rfl, LV.le.any _, _, _, rfl, LV.le.any _, _, _, rfl, LV.le.any _, _, _, rfl, LV.le.any _, _, _, rfl, (LV.le.slL rfl fun i hi => by obtain rfl : i = 0 := (by omega); exact leL.of rfl), _, _, rfl, LV.le.any _, _, _, rfl, LV.le.any _, _, _, rfl, LV.le.any _, rfl⟩, _, _, rfl, LV.le.agg ⟨_, _, rfl, LV.le.any _, _, _, rfl, LV.le.any _, _, _, rfl, LV.le.any _, _, _, rfl, LV.le.any _, _, _, rfl, (LV.le.slL rfl fun i hi => by rcases (by omega : i = 0 ∨ i = 1) with rfl | rfl <;> exact leL.of rfl), _, _, rfl, LV.le.any _, _, _, rfl, LV.le.any _, _, _, rfl, LV.le.any _, _, _, rfl, LV.le.any _, _, _, rfl, LV.le.any _, _, _, rfl, LV.le.any _, _, _, rfl, LV.le.any _, _, _, rfl, LV.le.any _, _, _, rfl, (LV.le.slL rfl fun i hi => by obtain rfl : i = 0 := (by omega); exact leL.of rfl), _, _, rfl, LV.le.any _, _, _, rfl, LV.le.any _, _, _, rfl, LV.le.any _, rfl⟩, rfl⟩ ⟨LV.le.refl _, rfl⟩, True.intro⟩, ?_⟩
    refine ⟨⟨True.intro, ⟨LV.le.refl _, rfl⟩, True.intro⟩, ?_⟩
    refine ⟨⟨True.intro, Ct.callC (pump_ct 7 9 2 1 2 1 (wK noneK wab wax 2 2) (wK noneK wc wc 1 1) [] wax wc (by omega) (by omega) (by omega) (by omega) (by omega)) rfl ⟨_, _, rfl, LV.le.refl _, _, _, rfl, LV.le.agg ⟨_, _, rfl, LV.le.any _, _, _, rfl, LV.le.any _, _, _, rfl, LV.le.any _, _, _, rfl, LV.le.any _, _, _, rfl, (LV.le.slL rfl fun i hi => by rcases (by omega : i = 0 ∨ i = 1) with rfl | rfl <;> exact leL.of rfl), _, _, rfl, LV.le.any _, _, _, rfl, LV.le.any _, _, _, rfl, LV.le.any _, _, _, rfl, LV.le.any _, _, _, rfl, LV.le.any _, _, _, rfl, LV.le.any _, _, _, rfl, LV.le.any _, _, _, rfl, LV.le.any _, _, _, rfl, (LV.le.slL rfl fun i hi => by obtain rfl : i = 0 := (by omega); exact leL.of rfl), _, _, rfl, LV.le.any _, _, _, rfl, LV.le.any _, _, _, rfl, LV.le.any _, rfl⟩, _, _, rfl, LV.le.refl _, rfl⟩ ⟨LV.le.refl _, rfl⟩, True.intro⟩, ?_⟩
    exact True.intro
  refine CallA.le ⟨[(3, .lp 5 0), (5, .v (.int .i64 12))], [(5, .box 43 [.v (.int .u64 7), .sl 2 2 (kv noneK), .sl 2 1 (kv noneK), .str []])], 8, 0⟩
    ⟨rfl, ⟨rfl, Nat.le_refl _⟩, ⟨LV.le.refl _, rfl, LV.le.refl _, rfl, trivial⟩, ⟨⟨_, rfl, LO.le.refl _⟩, rfl, rfl, trivial⟩⟩ (leL.refl [shot 7 2 1 kA kB []]) rfl ?_
  refine Ct.callC (image_all 7 2 1 kA kB [] (by omega) (by omega) alive_cnt) rfl (leL.refl _) ?_
  refine ⟨fun _ => ?_, fun h => absurd h (by decide)⟩
  refine Ct.callC (left_ct 7 2 1 noneK noneK [] (by omega) (by omega)) rfl (leL.refl _) ?_
  refine ⟨fun _ => ?_, fun h => absurd h (by decide)⟩
  refine ⟨fun _ => ?_, fun h => absurd h (by decide)⟩
  refine ⟨fun _ => ?_, fun h => absurd h (by decide)⟩
  refine ⟨fun _ => ?_, fun h => absurd h (by decide)⟩
  refine ⟨⟨by decide, by decide⟩, ?_⟩
  refine ⟨fun _ => ?_, fun h => absurd h (by decide)⟩
  refine ⟨⟨by decide, by decide⟩, ?_⟩
  refine ⟨fun _ => ?_, fun h => absurd h (by decide)⟩
  refine ⟨fun _ => ?_, fun h => absurd h (by decide)⟩
  refine ⟨⟨by decide, by decide⟩, ?_⟩
  exact ⟨LV.le.bsV (by decide), rfl⟩
end Go.Proofs.Aw
namespace Go.Proofs.Aw
open Go Go.Proofs
set_option maxHeartbeats 4000000
set_option maxRecDepth 100000
/-- the lists of a machine, as the statements look at them -/
structure MV where
  M0 : Nat
  M1 : Nat
  w0 : TL
  w1 : TL
  np : Nat
  nd : Nat
  nq : Nat
  Ap : Option Addr
  Ad : Option Addr
  Aq : Option Addr
  cp : Nat
  cd : Nat
  cq : Nat
def MV.lv (m : MV) : List LV := [.any, .any, .any, .any, .sl 1 m.M0 (tx m.w0), .v (.slice m.Ap m.np m.cp), .any, .any, .any, .any, .any, .any, .any, .sl 1 m.M1 (tx m.w1), .v (.slice m.Ad m.nd m.cd), .any, .v (.slice m.Aq m.nq m.cq)]
def Big (m : MV) (n0 n1 : Nat) : Prop := m.M0 > 70 ∨ m.M1 > 260 ∨ n0 > 70 ∨ n1 > 260 ∨ m.np > 10 ∨ m.nd > 80 ∨ m.nq > 40
instance (m : MV) (n0 n1 : Nat) : Decidable (Big m n0 n1) := by unfold Big; infer_instance
theorem great_ct (m : MV) (c : Int) (n0 n1 : Nat) (k0 k1 : KL) (r : List UInt8) : Ct Tryz.prog 17 [.agg m.lv, shot c n0 n1 k0 k1 r] (.v (.int .i64 (if Big m n0 n1 then 1 else 0))) := by
  have yes : Big m n0 n1 → (1 : Int) = if Big m n0 n1 then 1 else 0 := fun h => by rw [if_pos h]
  refine Ct.enter Tryz.tabOk ft17 ?_
  refine ⟨fun h1 => ?_, fun h1 => ⟨fun h2 => ?_, fun h2 => ⟨fun h3 => ?_, fun h3 => ⟨fun h4 => ?_, fun h4 => ⟨fun h5 => ?_, fun h5 => ⟨fun h6 => ?_, fun h6 => ⟨fun h7 => ?_, fun h7 => ?_⟩⟩⟩⟩⟩⟩⟩
  · exact ⟨LV.le.int (yes (.inl (by have := dT h1; omega))), rfl⟩
  · exact ⟨LV.le.int (yes (.inr (.inl (by have := dT h2; omega)))), rfl⟩
  · exact ⟨LV.le.int (yes (.inr (.inr (.inl (by have := dT h3; omega))))), rfl⟩
  · exact ⟨LV.le.int (yes (.inr (.inr (.inr (.inl (by have := dT h4; omega)))))), rfl⟩
  · exact ⟨LV.le.int (yes (.inr (.inr (.inr (.inr (.inl (by have := dT h5; omega))))))), rfl⟩
  · exact ⟨LV.le.int (yes (.inr (.inr (.inr (.inr (.inr (.inl (by have := dT h6; omega)))))))), rfl⟩
  · exact ⟨LV.le.int (yes (.inr (.inr (.inr (.inr (.inr (.inr (by have := dT h7; omega)))))))), rfl⟩
  · refine ⟨LV.le.int ?_, rfl⟩
    rw [if_neg]
    have a1 := dF h1; have a2 := dF h2; have a3 := dF h3; have a4 := dF h4; have a5 := dF h5; have a6 := dF h6; have a7 := dF h7
    unfold Big
    omega
end Go.Proofs.Aw
namespace Go.Proofs.Aw
open Go Go.Proofs
set_option maxHeartbeats 4000000
set_option maxRecDepth 100000
theorem eqF_kept (a a' : Bool) (s s' : List UInt8) : EqF Tryz.prog 101 [.bs a, .str s] [.bs a', .str s'] (a == a' && s == s') := by
  intro m N ys zs w op x y h1 h2
  obtain ⟨y1, r1, rfl, e1, y2, r2, rfl, e2, e3⟩ := h1
  obtain ⟨z1, q1, rfl, f1, z2, q2, rfl, f2, f3⟩ := h2
  have e1 : y1 = .bool a := e1
  have e2 : y2 = strV s := e2
  have e3 : r2 = [] := e3
  have f1 : z1 = .bool a' := f1
  have f2 : z2 = strV s' := f2
  have f3 : q2 = [] := f3
  subst e1; subst e2; subst e3; subst f1; subst f2; subst f3
  have u4 := Tryz.underlying4
  have u9 := Tryz.underlying9
  refine ⟨run_eqGuard_agg w op 101 x y _ _ Tryz.eqGuardType101, ?_⟩
  show (Op.equalIn (9999 + 1) 101 _ _).run Tryz.prog w = _
  rw [run_equalIn_agg w 9999 101 _ _ rfl Tryz.stoodInHeld101]
  have hf : (Tryz.prog.fieldsOf 101).toList = [{ name := "Is", type := 4, offset := 0, embedded := false, tag := "", pkgPath := "", byteOffset := 0 }, { name := "Data", type := 9, offset := 1, embedded := false, tag := "", pkgPath := "", byteOffset := 8 }] := rfl
  rw [hf]
  simp only [Op.eqFields]
  have q1 := fun (b c : Bool) (w : World) => run_equalIn_bool' w 9998 4 b c u4
  have q2 := fun (w : World) => run_equalIn_string w 9998 9 ⟨s.toArray⟩ ⟨s'.toArray⟩ u9
  have q3 : ((⟨s.toArray⟩ : ByteArray).toList == (⟨s'.toArray⟩ : ByteArray).toList) = (s == s') := by
    rw [ByteArray.toList_eq, ByteArray.toList_eq]
  rw [q3] at q2
  simp only [Nat.reduceAdd] at q1 q2
  have d1 : ("Is" ≠ "_") = True := by simp
  have d2 : ("Data" ≠ "_") = True := by simp
  cases a <;> cases a' <;> simp [part, strV, q1, q2]
  all_goals (cases hs : (s == s') <;> simp_all)
end Go.Proofs.Aw
namespace Go.Proofs.Aw
open Go Go.Proofs
set_option maxHeartbeats 8000000
set_option maxRecDepth 100000
theorem cnt_mono {k k' : KL} : ∀ {n : Nat}, (∀ i, i < n → (k i).1 = true → (k' i).1 = true) → cnt k' n ≤ cnt k n
  | 0, _ => Nat.le_refl _
  | n + 1, h => by
    have ih := cnt_mono (k := k) (k' := k') (n := n) fun i hi => h i (by omega)
    have hn := h n (by omega)
    simp only [cnt]
    cases h1 : (k n).1 with
    | true => simp [hn h1]; omega
    | false => simp; split <;> omega
theorem wK_is {k : KL} {w w' : TL} {M M' i : Nat} (h : (k i).1 = true) : wK k w w' M M' i = k i := by
  unfold wK; rw [if_neg]; rw [h]; simp
theorem pK_is {k : KL} {w : TL} {M i : Nat} {n : Int} (h : (k i).1 = true) : pK k w M n i = k i := by
  unfold pK; rw [if_neg]; rw [h]; simp
theorem catK_mono {n0 n : Nat} {k0 k1 k0' k1' : KL} (h0 : ∀ i, (k0 i).1 = true → (k0' i).1 = true) (h1 : ∀ i, (k1 i).1 = true → (k1' i).1 = true) : cnt (catK n0 k0' k1') n ≤ cnt (catK n0 k0 k1) n :=
  cnt_mono fun i _ h => by
    simp only [catK] at h ⊢
    split
    · rename_i hi; rw [if_pos hi] at h; exact h0 _ h
    · rename_i hi; rw [if_neg hi] at h; exact h1 _ h
theorem great_yes (m : MV) (c : Int) (n0 n1 : Nat) (k0 k1 : KL) (r : List UInt8) (h : Big m n0 n1) : Ct Tryz.prog 17 [.agg m.lv, shot c n0 n1 k0 k1 r] (.v (.int .i64 1)) := by
  have := great_ct m c n0 n1 k0 k1 r
  rwa [if_pos h] at this
theorem great_no (m : MV) (c : Int) (n0 n1 : Nat) (k0 k1 : KL) (r : List UInt8) (h : ¬ Big m n0 n1) : Ct Tryz.prog 17 [.agg m.lv, shot c n0 n1 k0 k1 r] (.v (.int .i64 0)) := by
  have := great_ct m c n0 n1 k0 k1 r
  rwa [if_neg h] at this
end Go.Proofs.Aw

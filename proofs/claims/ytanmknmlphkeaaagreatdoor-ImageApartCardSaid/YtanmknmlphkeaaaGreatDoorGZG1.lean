/- A PART OF THE PROOF: an abstract run of the loaded code over value trees, and the functions walked by it. No condition of its own. -/
import Derived.Test.YtanmknmlphkeaaaGreatDoorGZ0
import Derived.Lib.AppendZerosOnto
import Derived.Lib.SliceRun
import Derived.Lib.Walk
import Derived.Shelf.RegionOpenPlain
namespace Go.Proofs
open Go Go.RowKit Go.Lib
set_option maxHeartbeats 4000000
set_option maxRecDepth 100000
theorem Tryz.mixed : Tryz.prog.follows .mixedOrders = true := rfl
/-- behind a Grow of the nil slice -/
def GrowPost (w : World) (e : Ending) (w' : World) : Prop := ∃ G cur, e = .returned (.slice (some ⟨w.heap.size, 0, none⟩) 0 G) ∧ w' = w.drew.alloc (.cells cur 101) ∧ G ≤ maxLen ∧ cur.size = G * 2 ∧ ∀ u ∈ cur.toList, u.oneCell' = true

theorem grow_grow (n : Nat) (w : World) (h0 : 0 < n) (h63 : n ≤ 100000) :
    Calls Tryz.prog 103 #[.slice none 0 0, .int .i64 n] w (GrowPost w) := by
  have mixed := Tryz.mixed
  have u41 := Tryz.underlying41
  have u3 := Tryz.underlying3
  have u9 := Tryz.underlying9
  have h1 : ¬ ((n : Int) < 0) := by omega
  have h2 : wrap64 ((0 : Int) - (0 : Int)) = 0 := by unfold wrap64; omega
  have h3 : wrap64 ((n : Int) - 0) = (n : Int) := by unfold wrap64; omega
  have h4 : (n : Int) > 0 := by omega
  obtain ⟨i0, z, hi0, hs0, hb0, hz0, hc1, hc2, hc3⟩ := Tryz.tiOk101.i
  have hs0 : i0.size = 2 := hs0
  have hb0 : i0.bytes = 24 := hb0
  have hold : (Builtin.firstCells i0.size 0 (.slice none 0 0)).run Tryz.prog w.drew = .ok ([] : List Value).toArray w.drew := run_firstCells_none w.drew i0.size 0 0 0
  have hge := grownCap_ge w n 0 101
  have hG63 := grownCap_le_maxLen w n 0 101 (by unfold maxLen; omega)
  have hrz : ∀ ty, (Builtin.append_ #[41, 3] ty #[.slice none 0 0, .int .i64 (n : Int)]).run Tryz.prog w =
      .ok (.slice (some ⟨w.heap.size, 0, none⟩) n (grownCap w n 0 101)) (w.drew.alloc (.cells (([] : List Value).toArray ++ Builtin.zeroCells z.cells n ++ Builtin.zeroCells z.cells (grownCap w n 0 101 - n)) 101)) := fun ty => by
    have h := Lib.run_append_grow_zeros w 41 3 ty 101 i0 z .i64 .i64 u41 u3 hi0 hz0 none 0 0 [] hold n h0 (by omega) (by omega) (by omega) (by rw [hb0]; omega)
      (by rw [Nat.zero_add]; exact growslice_fits h0 (by rw [hb0]; omega))
    simpa using h
  obtain ⟨G, hG⟩ : ∃ G, G = grownCap w n 0 101 := ⟨_, rfl⟩
  rw [← hG] at hrz hge hG63
  obtain ⟨c0, hc0⟩ : ∃ c, c = ([] : List Value).toArray ++ Builtin.zeroCells z.cells n ++ Builtin.zeroCells z.cells (G - n) := ⟨_, rfl⟩
  rw [← hc0] at hrz
  have fin : GrowPost w (.returned (.slice (some ⟨w.heap.size, 0, none⟩) 0 G)) (w.drew.alloc (.cells c0 101)) := by
    have h9 : z.cells.size = 2 := hc3
    have hzero : ∀ k, ∀ u ∈ (Builtin.zeroCells z.cells k).toList, u.oneCell' = true := by
      intro k u hu
      simp only [Builtin.zeroCells, h9, Array.toList_map, List.mem_map, Array.toList_range, List.mem_range] at hu
      obtain ⟨i, hi, rfl⟩ := hu
      have hlt : i % 2 < z.cells.size := by rw [h9]; omega
      rw [getElem!_pos z.cells (i % 2) hlt]
      exact List.all_eq_true.1 hc2 _ (by simp)
    refine ⟨G, c0, rfl, rfl, hG63, ?_, ?_⟩
    · rw [hc0]
      simp only [Array.size_append, List.size_toArray, size_zeroCells, h9, List.length_nil]
      omega
    · rw [hc0]
      intro u hu
      simp only [Array.toList_append, List.mem_append] at hu
      rcases hu with (hu | hu) | hu
      · simp at hu
      · exact hzero _ u hu
      · exact hzero _ u hu
  clear hold hG hc0 hc1 hc2 hc3 hz0 hi0 hs0 hb0
  go_enter Tryz.func103, Tryz.ntmps103
  go_wp2_with (at_builtin; refine Lib.wpList_append_run _ rfl _ _ _ _ rfl _ _ rfl rfl _ _ (hrz _) ?_)
  all_goals (go_ret; exact fin)

theorem grow_nil (w : World) : Calls Tryz.prog 103 #[.slice none 0 0, .int .i64 0] w fun e w' => e = .returned (.slice none 0 0) ∧ w' = w := by
  have mixed := Tryz.mixed
  have u41 := Tryz.underlying41
  have u3 := Tryz.underlying3
  have u9 := Tryz.underlying9
  have h2 : wrap64 ((0 : Int) - (0 : Int)) = 0 := by unfold wrap64; omega
  go_enter Tryz.func103, Tryz.ntmps103
  go_wp2
  go_ret
  exact ⟨rfl, rfl⟩

namespace Aw
theorem grow_ct (n : Nat) (hn : n ≤ 100000) : CtN Tryz.prog 103 [.v (.slice none 0 0), .v (.int .i64 (n : Int))] 101 2 0 (fun _ => []) := by
  refine ⟨ft103.ok, fun i hi => absurd hi (by omega), fun w vo lt vs hargs => ?_⟩
  obtain ⟨y, r, rfl, e1, y2, r2, rfl, e2, e3⟩ := hargs
  have e1 : y = .slice none 0 0 := e1
  have e2 : y2 = .int .i64 (n : Int) := e2
  have e3 : r2 = [] := e3
  subst e1; subst e2; subst e3
  rcases Nat.eq_zero_or_pos n with rfl | h0
  · refine (grow_nil w).mono ?_
    rintro e w' ⟨rfl, rfl⟩
    exact ⟨_, [], rfl, ⟨SameSys.refl _, Nat.le_refl _, fun _ _ => rfl⟩, ⟨by simp, .inl ⟨rfl, rfl⟩⟩, by simp, fun i hi => absurd hi (by omega)⟩
  · refine (grow_grow n w h0 hn).mono ?_
    rintro e w' ⟨G, cur, rfl, rfl, h1, h2, h3⟩
    exact ⟨_, [], rfl, ⟨⟨rfl, rfl, rfl⟩, Nat.le_of_lt (by show w.heap.size < (w.heap.push _).size; simp), fun k hk => alloc_old w _ k hk⟩,
      ⟨by simp, .inr ⟨w.heap.size, G, cur, rfl, Nat.le_refl _, alloc_new w _, Nat.zero_le _, h1, h2, by simp⟩⟩, by simp, fun i hi => absurd hi (by omega)⟩
end Aw
end Go.Proofs
namespace Go.Proofs.Aw
open Go Go.Proofs
set_option maxRecDepth 100000
theorem w64 {z : Int} (h0 : -9223372036854775808 ≤ z) (h1 : z ≤ 9223372036854775807) : IntKind.i64.wrap z = z := by
  rw [IntKind.wrap_i64]; omega
theorem dT {p : Prop} [Decidable p] (h : decide p = true) : p := of_decide_eq_true h
theorem dF {p : Prop} [Decidable p] (h : decide p = false) : ¬ p := of_decide_eq_false h
/-- two lists, as a slice of slices -/
def twoA (n0 n1 : Nat) (k0 k1 : KL) (i : Nat) : List LV := match Nat.beq i 0 with
  | true => [.sl 2 n0 (kv k0)]
  | false => [.sl 2 n1 (kv k1)]
def tot (n0 n1 : Nat) (j : Nat) : Nat := match Nat.beq j 0 with
  | true => 0
  | false => match Nat.beq j 1 with
    | true => n0
    | false => n0 + n1
def catK (n0 : Nat) (k0 k1 : KL) : KL := fun i => if i < n0 then k0 i else k1 (i - n0)
theorem catK_lt {n0 i : Nat} {k0 k1 : KL} (h : i < n0) : kv (catK n0 k0 k1) i = kv k0 i := by simp [kv, catK, h]
theorem catK_ge {n0 i : Nat} {k0 k1 : KL} (h : ¬ i < n0) : kv (catK n0 k0 k1) i = kv k1 (i - n0) := by simp [kv, catK, h]
theorem concat_ct (n0 n1 : Nat) (k0 k1 : KL) (h0 : n0 ≤ 400) (h1 : n1 ≤ 400) : CtN Tryz.prog 58 [.sl 1 2 (twoA n0 n1 k0 k1)] 101 2 (n0 + n1) (kv (catK n0 k0 k1)) := by
  refine CtN.enter Tryz.tabOk ft58 (fun i _ => kv_flat _ i) ?_
  refine ⟨Nat, fun j => ⟨[(11, .v (.int .i64 (j : Int))), (10, .v (.int .i64 2)), (9, .sl 1 2 (twoA n0 n1 k0 k1)), (3, .v (.int .i64 (tot n0 n1 j : Int))), (0, .sl 1 2 (twoA n0 n1 k0 k1))], [], 0, 0⟩, fun j => j ≤ 2, fun j => 2 - j, 0, Nat.zero_le _,
    .le ⟨rfl, ⟨rfl, Nat.le_refl _⟩, ⟨LV.le.refl _, rfl, LV.le.refl _, rfl, LV.le.refl _, rfl, LV.le.refl _, rfl, LV.le.refl _, rfl, trivial⟩, trivial⟩, fun j hj => ⟨fun h => ?_, fun h => ?_⟩⟩
  · have h := dT h
    refine ⟨⟨by omega, by omega⟩, ?_⟩
    rcases (by omega : j = 0 ∨ j = 1) with rfl | rfl
    · have e : IntKind.i64.wrap ((tot n0 n1 0 : Int) + (n0 : Int)) = n0 := by rw [w64] <;> simp [tot] <;> omega
      refine ⟨fun h2 => absurd (dT h2) (by show ¬ IntKind.i64.wrap ((tot n0 n1 0 : Int) + (n0 : Int)) < 0; omega), fun _ => ⟨1, (by omega : 1 ≤ 2), (by omega : 2 - 1 < 2 - 0), .le ⟨rfl, ⟨rfl, Nat.le_refl _⟩, ⟨LV.le.refl _, rfl, LV.le.refl _, rfl, LV.le.refl _, rfl, LV.le.int e, rfl, LV.le.refl _, rfl, trivial⟩, trivial⟩⟩⟩
    · have e : IntKind.i64.wrap ((tot n0 n1 1 : Int) + (n1 : Int)) = (tot n0 n1 2 : Int) := by rw [w64] <;> simp [tot] <;> omega
      have e3 : (0 : Int) ≤ (tot n0 n1 2 : Int) := by omega
      refine ⟨fun h2 => absurd (dT h2) (by show ¬ IntKind.i64.wrap ((tot n0 n1 1 : Int) + (n1 : Int)) < 0; omega), fun _ => ⟨2, (by omega : 2 ≤ 2), (by omega : 2 - 2 < 2 - 1), .le ⟨rfl, ⟨rfl, Nat.le_refl _⟩, ⟨LV.le.refl _, rfl, LV.le.refl _, rfl, LV.le.refl _, rfl, LV.le.int e, rfl, LV.le.refl _, rfl, trivial⟩, trivial⟩⟩⟩
  · obtain rfl : j = 2 := by have := dF h; omega
    refine CtN.call (grow_ct (n0 + n1) (by omega)) rfl ?_
    refine ⟨Nat, fun j => ⟨[(27, .v (.int .i64 (j : Int))), (26, .v (.int .i64 2)), (25, .sl 1 2 (twoA n0 n1 k0 k1)), (6, .ls j (tot n0 n1 j))], [(j, .arr 101 2 (tot n0 n1 j) (kv (catK n0 k0 k1)))], j + 1, 0⟩, fun j => j ≤ 2, fun j => 2 - j, 0, Nat.zero_le _,
      .le ⟨rfl, ⟨rfl, Nat.le_refl _⟩, ⟨LV.le.refl _, rfl, LV.le.refl _, rfl, LV.le.refl _, rfl, LV.le.refl _, rfl, trivial⟩, ⟨⟨_, rfl, LO.le.arr rfl fun i hi => absurd hi (by omega)⟩, rfl, rfl, trivial⟩⟩, fun j hj => ⟨fun h => ?_, fun h => ?_⟩⟩
    · have h := dT h
      refine ⟨⟨by omega, by omega⟩, ?_⟩
      rcases (by omega : j = 0 ∨ j = 1) with rfl | rfl
      · refine ⟨by show (tot n0 n1 0 + n0) * 24 ≤ _; simp only [tot]; omega, by simp only [tot]; omega, ⟨1, (by omega : 1 ≤ 2), (by omega : 2 - 1 < 2 - 0), .le ⟨rfl, ⟨rfl, Nat.le_refl _⟩, ⟨LV.le.refl _, rfl, LV.le.refl _, rfl, LV.le.refl _, rfl, ?_, rfl, trivial⟩, ⟨⟨_, rfl, LO.le.arr ?_ fun i hi => ?_⟩, rfl, rfl, trivial⟩⟩⟩⟩
        · exact LV.le.eq (congrArg (LV.ls 1) (Nat.zero_add n0))
        · exact Nat.zero_add n0
        · rw [catK_lt (by have : i < 0 + n0 := hi; omega)]; rfl
      · refine ⟨by show (tot n0 n1 1 + n1) * 24 ≤ _; simp only [tot]; omega, by simp only [tot]; omega, ⟨2, (by omega : 2 ≤ 2), (by omega : 2 - 2 < 2 - 1), .le ⟨rfl, ⟨rfl, Nat.le_refl _⟩, ⟨LV.le.refl _, rfl, LV.le.refl _, rfl, LV.le.refl _, rfl, LV.le.refl _, rfl, trivial⟩, ⟨⟨_, rfl, LO.le.arr rfl fun i hi => ?_⟩, rfl, rfl, trivial⟩⟩⟩⟩
        show (match Nat.blt i n0 with | true => kv (catK n0 k0 k1) i | false => kv k1 (i - n0)) = _
        cases hb : Nat.blt i n0 with
        | true => rfl
        | false =>
          show kv k1 (i - n0) = _
          rw [catK_ge]
          intro h; rw [Nat.blt_eq.mpr h] at hb; cases hb
    · obtain rfl : j = 2 := by have := dF h; omega
      exact ⟨⟨rfl, rfl, rfl⟩, fun i _ => rfl⟩
end Go.Proofs.Aw
namespace Go.Proofs.Aw
open Go Go.Proofs
set_option maxRecDepth 100000
/-- how many of the first n aren't kept -/
def cnt (k : KL) : Nat → Nat
  | 0 => 0
  | n + 1 => cnt k n + if (k n).1 then 0 else 1
theorem cnt_le (k : KL) : ∀ n, cnt k n ≤ n
  | 0 => Nat.le_refl _
  | n + 1 => by have := cnt_le k n; simp only [cnt]; split <;> omega
def shot (c : Int) (n0 n1 : Nat) (k0 k1 : KL) (r : List UInt8) : LV := .agg [.v (.int .u64 c), .sl 2 n0 (kv k0), .sl 2 n1 (kv k1), .str r]
theorem left_ct (c : Int) (n0 n1 : Nat) (k0 k1 : KL) (r : List UInt8) (h0 : n0 ≤ 400) (h1 : n1 ≤ 400) : Ct Tryz.prog 21 [shot c n0 n1 k0 k1 r] (.v (.int .i64 (cnt (catK n0 k0 k1) (n0 + n1) : Int))) := by
  refine Ct.enter Tryz.tabOk ft21 ?_
  refine CtN.callL (concat_ct n0 n1 k0 k1 h0 h1) rfl ?_ ?_
  · refine ⟨_, _, rfl, LV.le.sl rfl fun i hi => ?_, rfl⟩
    rcases (by omega : i = 0 ∨ i = 1) with rfl | rfl <;> rfl
  · refine ⟨Nat, fun j => ⟨[(13, .v (.int .i64 (j : Int))), (12, .v (.int .i64 ((n0 + n1 : Nat) : Int))), (11, .ls 2 (n0 + n1)), (3, .v (.int .i64 (cnt (catK n0 k0 k1) j : Int)))], [(2, .arr 101 2 (n0 + n1) (kv (catK n0 k0 k1)))], 3, 0⟩, fun j => j ≤ n0 + n1, fun j => n0 + n1 - j, 0, Nat.zero_le _,
      .le ⟨rfl, ⟨rfl, Nat.le_refl _⟩, ⟨LV.le.refl _, rfl, LV.le.refl _, rfl, LV.le.refl _, rfl, LV.le.refl _, rfl, trivial⟩, ⟨⟨_, rfl, LO.le.refl _⟩, rfl, rfl, trivial⟩⟩, fun j hj => ⟨fun h => ?_, fun h => ?_⟩⟩
    · have h := dT h
      refine ⟨⟨by omega, by omega⟩, ?_⟩
      have hjn : j < n0 + n1 := by omega
      have hcj := cnt_le (catK n0 k0 k1) j
      have e13 : IntKind.i64.wrap ((j : Int) + 1) = ((j + 1 : Nat) : Int) := by rw [w64] <;> omega
      refine ⟨fun hb => ⟨j + 1, hjn, (by omega : n0 + n1 - (j + 1) < n0 + n1 - j), .le ⟨rfl, ⟨rfl, Nat.le_of_ble_eq_true rfl⟩, ⟨LV.le.int e13, rfl, LV.le.refl _, rfl, LV.le.refl _, rfl, LV.le.int ?_, rfl, trivial⟩, ⟨⟨_, rfl, LO.le.refl _⟩, rfl, rfl, trivial⟩⟩⟩,
        fun hb => ⟨j + 1, hjn, (by omega : n0 + n1 - (j + 1) < n0 + n1 - j), .le ⟨rfl, ⟨rfl, Nat.le_of_ble_eq_true rfl⟩, ⟨LV.le.int e13, rfl, LV.le.refl _, rfl, LV.le.refl _, rfl, LV.le.int ?_, rfl, trivial⟩, ⟨⟨_, rfl, LO.le.refl _⟩, rfl, rfl, trivial⟩⟩⟩⟩
      · have hb : (!(catK n0 k0 k1 j).1) = true := hb
        have : (catK n0 k0 k1 j).1 = false := by simpa using hb
        rw [w64 (by omega) (by omega)]
        simp [cnt, this]
      · have hb : (!(catK n0 k0 k1 j).1) = false := hb
        have : (catK n0 k0 k1 j).1 = true := by simpa using hb
        simp [cnt, this]
    · have hj : j ≤ n0 + n1 := hj
      obtain rfl : j = n0 + n1 := by have := dF h; omega
      exact ⟨LV.le.refl _, rfl⟩
end Go.Proofs.Aw
namespace Go.Proofs.Aw
open Go Go.Proofs
set_option maxRecDepth 100000
abbrev TL := Nat → List UInt8
def tx (w : TL) (i : Nat) : List LV := [.str (w i)]
/-- how many pages are still asked for behind the first i -/
def pN (k : KL) (M : Nat) (n : Int) : Nat → Int
  | 0 => n
  | i + 1 => if 0 < pN k M n i ∧ (k i).1 = false ∧ i < M then pN k M n i - 1 else pN k M n i
def pK (k : KL) (w : TL) (M : Nat) (n : Int) : KL := fun i => if 0 < pN k M n i ∧ (k i).1 = false ∧ i < M then (true, w i) else k i
def mix (a b : KL) (j : Nat) : KL := fun i => if i < j then a i else b i
theorem pN_le (k : KL) (M : Nat) (n : Int) : ∀ i, pN k M n i ≤ n
  | 0 => Int.le_refl _
  | i + 1 => by have := pN_le k M n i; simp only [pN]; split <;> omega
theorem mix_lt {a b : KL} {i j : Nat} (h : i < j) : kv (mix a b j) i = kv a i := by simp [kv, mix, h]
theorem mix_ge {a b : KL} {i j : Nat} (h : ¬ i < j) : kv (mix a b j) i = kv b i := by simp [kv, mix, h]
theorem pump1 (a0 a1 a3 a4 a5 : LO) (u0 : a0.under 6 = true) (u1 : a1.under 6 = true) (u3 : a3.under 6 = true) (u4 : a4.under 6 = true) (u5 : a5.under 6 = true) (env : List (Nat × LV)) (low : Nat) (n : Int) (L M : Nat) (k : KL) (w : TL) (hL : L ≤ 400) (hM : M ≤ 400) (hn : n ≤ 9223372036854775807)
    {K : LV → St → Prop} {kp : Value → St → Prop}
    (h : K (.sl 2 L (kv (pK k w M n))) ⟨env, [(5, a5), (4, a4), (3, a3), (2, .box 3 [.v (.int .i64 (pN k M n L))]), (1, a1), (0, a0)], 6, low⟩) :
    CallA Tryz.prog 64 [.sl 2 L (kv k), .sl 1 M (tx w), .lp 2 0] K kp ⟨env, [(5, a5), (4, a4), (3, a3), (2, .box 3 [.v (.int .i64 n)]), (1, a1), (0, a0)], 6, low⟩ := by
  have v0 := LO.under_mono (Nat.le_succ 6) u0
  have v1 := LO.under_mono (Nat.le_succ 6) u1
  have v3 := LO.under_mono (Nat.le_succ 6) u3
  have v4 := LO.under_mono (Nat.le_succ 6) u4
  have v5 := LO.under_mono (Nat.le_succ 6) u5
  refine CallA.bodyS Tryz.tabOk ft64 ?_
  refine CtN.call (clone_ct L k hL) rfl ?_
  refine ⟨Nat, fun j => ⟨[(11, .v (.int .i64 (j : Int))), (10, .v (.int .i64 (L : Int))), (0, .ls 6 L), (1, .sl 1 M (tx w)), (2, .lp 2 0)],
      [(6, .arr 101 2 L (kv (mix (pK k w M n) k j))), (5, a5), (4, a4), (3, a3), (2, .box 3 [.v (.int .i64 (pN k M n j))]), (1, a1), (0, a0)], 7, 6⟩, fun j => j ≤ L, fun j => L - j, 0, Nat.zero_le _,
      .le ⟨rfl, ⟨rfl, Nat.le_refl _⟩, ⟨LV.le.refl _, rfl, LV.le.refl _, rfl, LV.le.refl _, rfl, LV.le.refl _, rfl, LV.le.refl _, rfl, trivial⟩, ⟨⟨_, rfl, LO.le.arr rfl fun i hi => rfl⟩, rfl, rfl, ⟨_, rfl, LO.le.refl _⟩, rfl, v5, ⟨_, rfl, LO.le.refl _⟩, rfl, v4, ⟨_, rfl, LO.le.refl _⟩, rfl, v3, ⟨_, rfl, LO.le.refl _⟩, rfl, rfl, ⟨_, rfl, LO.le.refl _⟩, rfl, v1, ⟨_, rfl, LO.le.refl _⟩, rfl, v0, trivial⟩⟩, fun j hj => ⟨fun h => ?_, fun h2 => ?_⟩⟩
  · have h := dT h
    have hjn : j < L := by omega
    have e11 : IntKind.i64.wrap ((j : Int) + 1) = ((j + 1 : Nat) : Int) := by rw [w64] <;> omega
    have hpn := pN_le k M n j
    -- nothing more is kept here
    have stay : ¬ (0 < pN k M n j ∧ (k j).1 = false ∧ j < M) → pN k M n j = pN k M n (j + 1) ∧ ∀ i, kv (mix (pK k w M n) k j) i = kv (mix (pK k w M n) k (j + 1)) i := by
      intro hc
      refine ⟨by simp only [pN]; rw [if_neg hc], fun i => ?_⟩
      by_cases h1 : i < j
      · rw [mix_lt h1, mix_lt (by omega)]
      · rw [mix_ge h1]
        by_cases h2 : i < j + 1
        · obtain rfl : i = j := by omega
          rw [mix_lt h2]
          simp [kv, pK, hc]
        · rw [mix_ge h2]
    have mk : (mix (pK k w M n) k j j).1 = (k j).1 := by simp [mix]
    refine ⟨fun h1 => ⟨⟨by omega, by omega⟩, fun h2 => ⟨fun h3 => ?_, fun h3 => ?_⟩, fun h2 => ?_⟩, fun h1 => ?_⟩
    · have h3 := dT h3
      have hcond : 0 < pN k M n j ∧ (k j).1 = false ∧ j < M := ⟨dT h1, by
        have h2 : (!(mix (pK k w M n) k j j).1) = true := h2
        rw [mk] at h2; simpa using h2, by omega⟩
      have eN : pN k M n (j + 1) = pN k M n j - 1 := by simp only [pN]; rw [if_pos hcond]
      refine ⟨⟨by omega, by omega⟩, ⟨by omega, by omega⟩, ⟨j + 1, hjn, (by omega : L - (j + 1) < L - j), .le ⟨rfl, ⟨rfl, Nat.le_of_ble_eq_true rfl⟩, ⟨LV.le.int e11, rfl, LV.le.refl _, rfl, LV.le.refl _, rfl, LV.le.refl _, rfl, LV.le.refl _, rfl, trivial⟩,
        ⟨⟨_, rfl, LO.le.arrL rfl fun i hi => ?_⟩, rfl, rfl, ⟨_, rfl, LO.le.refl _⟩, rfl, v5, ⟨_, rfl, LO.le.refl _⟩, rfl, v4, ⟨_, rfl, LO.le.refl _⟩, rfl, v3, ⟨_, rfl, LO.le.box ⟨_, _, rfl, LV.le.int ?_, rfl⟩⟩, rfl, rfl, ⟨_, rfl, LO.le.refl _⟩, rfl, v1, ⟨_, rfl, LO.le.refl _⟩, rfl, v0, trivial⟩⟩⟩⟩
      · show leL (match Nat.beq i j with | true => [.v (.bool true), .str (w j)] | false => kv (mix (pK k w M n) k j) i) _
        by_cases e : i = j
        · subst e
          rw [beqT, mix_lt (Nat.lt_succ_self i)]
          have : kv (pK k w M n) i = [.bs true, .str (w i)] := by simp [kv, pK, hcond]
          rw [this]
          exact ⟨_, _, rfl, LV.le.bs true, leL.refl _⟩
        · rw [beqF e]
          refine leL.of ?_
          by_cases h1 : i < j
          · rw [mix_lt h1, mix_lt (by omega)]
          · rw [mix_ge h1, mix_ge (by omega)]
      · show IntKind.i64.wrap (pN k M n j - 1) = _
        rw [w64 (by have := hcond.1; omega) (by omega), eN]
    · have hc := stay fun hc => absurd (dF h3) (by have := hc.2.2; omega)
      exact ⟨j + 1, hjn, (by omega : L - (j + 1) < L - j), .le ⟨rfl, ⟨rfl, Nat.le_of_ble_eq_true rfl⟩, ⟨LV.le.int e11, rfl, LV.le.refl _, rfl, LV.le.refl _, rfl, LV.le.refl _, rfl, LV.le.refl _, rfl, trivial⟩,
        ⟨⟨_, rfl, LO.le.arr rfl fun i hi => hc.2 i⟩, rfl, rfl, ⟨_, rfl, LO.le.refl _⟩, rfl, v5, ⟨_, rfl, LO.le.refl _⟩, rfl, v4, ⟨_, rfl, LO.le.refl _⟩, rfl, v3, ⟨_, rfl, LO.le.box ⟨_, _, rfl, LV.le.int hc.1, rfl⟩⟩, rfl, rfl, ⟨_, rfl, LO.le.refl _⟩, rfl, v1, ⟨_, rfl, LO.le.refl _⟩, rfl, v0, trivial⟩⟩⟩
    · have hc := stay fun hc => by
        have h2 : (!(mix (pK k w M n) k j j).1) = false := h2
        rw [mk, hc.2.1] at h2; cases h2
      exact ⟨j + 1, hjn, (by omega : L - (j + 1) < L - j), .le ⟨rfl, ⟨rfl, Nat.le_of_ble_eq_true rfl⟩, ⟨LV.le.int e11, rfl, LV.le.refl _, rfl, LV.le.refl _, rfl, LV.le.refl _, rfl, LV.le.refl _, rfl, trivial⟩,
        ⟨⟨_, rfl, LO.le.arr rfl fun i hi => hc.2 i⟩, rfl, rfl, ⟨_, rfl, LO.le.refl _⟩, rfl, v5, ⟨_, rfl, LO.le.refl _⟩, rfl, v4, ⟨_, rfl, LO.le.refl _⟩, rfl, v3, ⟨_, rfl, LO.le.box ⟨_, _, rfl, LV.le.int hc.1, rfl⟩⟩, rfl, rfl, ⟨_, rfl, LO.le.refl _⟩, rfl, v1, ⟨_, rfl, LO.le.refl _⟩, rfl, v0, trivial⟩⟩⟩
    · have hc := stay fun hc => absurd (dF h1) (by have := hc.1; omega)
      exact ⟨j + 1, hjn, (by omega : L - (j + 1) < L - j), .le ⟨rfl, ⟨rfl, Nat.le_of_ble_eq_true rfl⟩, ⟨LV.le.int e11, rfl, LV.le.refl _, rfl, LV.le.refl _, rfl, LV.le.refl _, rfl, LV.le.refl _, rfl, trivial⟩,
        ⟨⟨_, rfl, LO.le.arr rfl fun i hi => hc.2 i⟩, rfl, rfl, ⟨_, rfl, LO.le.refl _⟩, rfl, v5, ⟨_, rfl, LO.le.refl _⟩, rfl, v4, ⟨_, rfl, LO.le.refl _⟩, rfl, v3, ⟨_, rfl, LO.le.box ⟨_, _, rfl, LV.le.int hc.1, rfl⟩⟩, rfl, rfl, ⟨_, rfl, LO.le.refl _⟩, rfl, v1, ⟨_, rfl, LO.le.refl _⟩, rfl, v0, trivial⟩⟩⟩
  · have hj : j ≤ L := hj
    obtain rfl : j = L := by have := dF h2; omega
    refine ⟨⟨rfl, rfl, ?_⟩, _, LV.le.slL rfl fun i hi => leL.of (mix_lt hi), h⟩
    show (a5.under 6 && (a4.under 6 && (a3.under 6 && (true && (a1.under 6 && (a0.under 6 && true)))))) = true
    rw [u0, u1, u3, u4, u5]
    rfl
end Go.Proofs.Aw
namespace Go.Proofs.Aw
open Go Go.Proofs
set_option maxRecDepth 100000
/-- what a step turned is kept -/
def wK (k : KL) (w w' : TL) (M M' : Nat) : KL := fun i => if i < M ∧ (k i).1 = false ∧ (M' ≤ i ∨ w' i ≠ w i) then (true, w i) else k i
theorem mix_keep {a b : KL} {j : Nat} {d : List UInt8} (ha : a j = (true, d)) (i : Nat) : leL (match Nat.beq i j with | true => [.v (.bool true), .str d] | false => kv (mix a b j) i) (kv (mix a b (j + 1)) i) := by
  by_cases e : i = j
  · subst e
    rw [beqT, mix_lt (Nat.lt_succ_self i)]
    have : kv a i = [.bs true, .str d] := by simp [kv, ha]
    rw [this]
    exact ⟨_, _, rfl, LV.le.bs true, leL.refl _⟩
  · rw [beqF e]
    refine leL.of ?_
    by_cases h1 : i < j
    · rw [mix_lt h1, mix_lt (by omega)]
    · rw [mix_ge h1, mix_ge (by omega)]
theorem mix_stay {a b : KL} {j : Nat} (ha : a j = b j) (i : Nat) : kv (mix a b j) i = kv (mix a b (j + 1)) i := by
  by_cases h1 : i < j
  · rw [mix_lt h1, mix_lt (by omega)]
  · rw [mix_ge h1]
    by_cases h2 : i < j + 1
    · obtain rfl : i = j := by omega
      rw [mix_lt h2]; simp [kv, ha]
    · rw [mix_ge h2]
theorem mix_all {a b : KL} {L M : Nat} (hb : ∀ i, M ≤ i → a i = b i) (i : Nat) : kv (mix a b M) i = kv a i := by
  by_cases h : i < M
  · rw [mix_lt h]
  · rw [mix_ge h]; simp [kv, hb i (by omega)]
theorem went1 (L M M' : Nat) (k : KL) (w w' : TL) (hL : L ≤ 400) (hM : M ≤ 400) (hM' : M' ≤ 400) :
    Ct Tryz.prog 60 [.sl 2 L (kv k), .agg [.sl 1 M (tx w), .sl 1 M' (tx w')]] (.sl 2 L (kv (wK k w w' M M'))) := by
  refine Ct.enter Tryz.tabOk ft60 ?_
  refine CtN.call (clone_ct L k hL) rfl ?_
  refine ⟨Nat, fun j => ⟨[(12, .v (.int .i64 (j : Int))), (11, .v (.int .i64 (M : Int))), (10, .sl 1 M (tx w)), (0, .ls 1 L), (3, .lp 0 0)],
      [(1, .arr 101 2 L (kv (mix (wK k w w' M M') k j))), (0, .box 104 [.sl 1 M (tx w), .sl 1 M' (tx w')])], 2, 0⟩, fun j => j ≤ M, fun j => M - j, 0, Nat.zero_le _,
      .le ⟨rfl, ⟨rfl, Nat.le_refl _⟩, ⟨LV.le.refl _, rfl, LV.le.refl _, rfl, LV.le.refl _, rfl, LV.le.refl _, rfl, LV.le.refl _, rfl, trivial⟩, ⟨⟨_, rfl, LO.le.arr rfl fun i hi => rfl⟩, rfl, rfl, ⟨_, rfl, LO.le.refl _⟩, rfl, rfl, trivial⟩⟩, fun j hj => ⟨fun h => ?_, fun h2 => ?_⟩⟩
  · have h := dT h
    have e11 : IntKind.i64.wrap ((j : Int) + 1) = ((j + 1 : Nat) : Int) := by rw [w64] <;> omega
    have mk : (!(mix (wK k w w' M M') k j j).1) = !(k j).1 := by simp [mix]
    have keep : (k j).1 = false → (M' ≤ j ∨ w' j ≠ w j) → wK k w w' M M' j = (true, w j) := fun h1 h2 => by
      unfold wK; rw [if_pos ⟨by omega, h1, h2⟩]
    have stay : ¬ (j < M ∧ (k j).1 = false ∧ (M' ≤ j ∨ w' j ≠ w j)) → wK k w w' M M' j = k j := fun h1 => by
      unfold wK; rw [if_neg h1]
    refine ⟨⟨by omega, by omega⟩, fun h1 => ⟨⟨by omega, by have := dT h1; omega⟩, fun h2 => ⟨fun h3 => ⟨⟨by omega, by have := dT h1; omega⟩, ?_⟩, fun h3 => ⟨⟨by omega, by have := dF h3; omega⟩, fun h4 => ⟨⟨by omega, by have := dT h1; omega⟩, ?_⟩, fun h4 => ?_⟩⟩, fun h2 => ?_⟩, fun h1 => ?_⟩
    · have h2 := mk.symm.trans h2
      exact ⟨j + 1, (by omega : j + 1 ≤ M), (by omega : M - (j + 1) < M - j), .le ⟨rfl, ⟨rfl, Nat.le_of_ble_eq_true rfl⟩, ⟨LV.le.int e11, rfl, LV.le.refl _, rfl, LV.le.refl _, rfl, LV.le.refl _, rfl, LV.le.refl _, rfl, trivial⟩,
        ⟨⟨_, rfl, LO.le.arrL rfl fun i hi => mix_keep (keep (by simpa using h2) (.inl (by have := dT h3; omega))) i⟩, rfl, rfl, ⟨_, rfl, LO.le.refl _⟩, rfl, rfl, trivial⟩⟩⟩
    · have h2 := mk.symm.trans h2
      have h4 : (w' j != w j) = true := h4
      exact ⟨j + 1, (by omega : j + 1 ≤ M), (by omega : M - (j + 1) < M - j), .le ⟨rfl, ⟨rfl, Nat.le_of_ble_eq_true rfl⟩, ⟨LV.le.int e11, rfl, LV.le.refl _, rfl, LV.le.refl _, rfl, LV.le.refl _, rfl, LV.le.refl _, rfl, trivial⟩,
        ⟨⟨_, rfl, LO.le.arrL rfl fun i hi => mix_keep (keep (by simpa using h2) (.inr (by simpa using h4))) i⟩, rfl, rfl, ⟨_, rfl, LO.le.refl _⟩, rfl, rfl, trivial⟩⟩⟩
    · have h4 : (w' j != w j) = false := h4
      exact ⟨j + 1, (by omega : j + 1 ≤ M), (by omega : M - (j + 1) < M - j), .le ⟨rfl, ⟨rfl, Nat.le_of_ble_eq_true rfl⟩, ⟨LV.le.int e11, rfl, LV.le.refl _, rfl, LV.le.refl _, rfl, LV.le.refl _, rfl, LV.le.refl _, rfl, trivial⟩,
        ⟨⟨_, rfl, LO.le.arr rfl fun i hi => mix_stay (stay fun ⟨_, _, hc⟩ => by have := dF h3; rcases hc with hc | hc; omega; exact hc (by simpa using h4)) i⟩, rfl, rfl, ⟨_, rfl, LO.le.refl _⟩, rfl, rfl, trivial⟩⟩⟩
    · have h2 := mk.symm.trans h2
      exact ⟨j + 1, (by omega : j + 1 ≤ M), (by omega : M - (j + 1) < M - j), .le ⟨rfl, ⟨rfl, Nat.le_of_ble_eq_true rfl⟩, ⟨LV.le.int e11, rfl, LV.le.refl _, rfl, LV.le.refl _, rfl, LV.le.refl _, rfl, LV.le.refl _, rfl, trivial⟩,
        ⟨⟨_, rfl, LO.le.arr rfl fun i hi => mix_stay (stay fun ⟨_, hc, _⟩ => by rw [hc] at h2; cases h2) i⟩, rfl, rfl, ⟨_, rfl, LO.le.refl _⟩, rfl, rfl, trivial⟩⟩⟩
    · exact ⟨j + 1, (by omega : j + 1 ≤ M), (by omega : M - (j + 1) < M - j), .le ⟨rfl, ⟨rfl, Nat.le_of_ble_eq_true rfl⟩, ⟨LV.le.int e11, rfl, LV.le.refl _, rfl, LV.le.refl _, rfl, LV.le.refl _, rfl, LV.le.refl _, rfl, trivial⟩,
        ⟨⟨_, rfl, LO.le.arr rfl fun i hi => by
          have hi : i < L := hi
          have h1 := dF h1
          rw [mix_lt (by omega), mix_lt (by omega)]⟩, rfl, rfl, ⟨_, rfl, LO.le.refl _⟩, rfl, rfl, trivial⟩⟩⟩
  · have hj : j ≤ M := hj
    obtain rfl : j = M := by have := dF h2; omega
    exact ⟨LV.le.slL rfl fun i hi => leL.of (mix_all (L := L) (fun i hi => by unfold wK; rw [if_neg (by omega)]) i), rfl⟩
end Go.Proofs.Aw
namespace Go.Proofs.Aw
open Go Go.Proofs
set_option maxRecDepth 100000
theorem went_both (c : Int) (n0 n1 M0 M0' M1 M1' : Nat) (k0 k1 : KL) (r : List UInt8) (w0 w0' w1 w1' : TL) (h0 : n0 ≤ 400) (h1 : n1 ≤ 400) (hM0 : M0 ≤ 400) (hM0' : M0' ≤ 400) (hM1 : M1 ≤ 400) (hM1' : M1' ≤ 400) :
    Ct Tryz.prog 62 [.agg [.sl 1 M0 (tx w0), .sl 1 M0' (tx w0')], .agg [.sl 1 M1 (tx w1), .sl 1 M1' (tx w1')], .v (.func (.func 60) #[] #[]), shot c n0 n1 k0 k1 r] (shot c n0 n1 (wK k0 w0 w0' M0 M0') (wK k1 w1 w1' M1 M1') r) := by
  refine Ct.enter Tryz.tabOk ft62 ?_
  refine DrawA.run Tryz.tabOk Tryz.mixed [0, 0, 2, 0, 15, 0, 0, 64, 0, 511, 223, 2047, 4095, 8191] [11, 13] rfl ?_
  refine ⟨_, ⟨LV.le.refl _, rfl⟩, ?_⟩
  refine ⟨_, ⟨LV.le.refl _, rfl⟩, ?_⟩
  refine ⟨_, ⟨LV.le.refl _, rfl⟩, ?_⟩
  refine ⟨_, ⟨LV.le.refl _, rfl⟩, ?_⟩
  refine ⟨_, Ct.callC (went1 n0 M0 M0' k0 w0 w0' h0 hM0 hM0') rfl (leL.refl _) ⟨LV.le.refl _, rfl⟩, ?_⟩
  refine ⟨_, ⟨LV.le.refl _, rfl⟩, ?_⟩
  refine ⟨_, ⟨LV.le.refl _, rfl⟩, ?_⟩
  refine ⟨_, ⟨LV.le.refl _, rfl⟩, ?_⟩
  refine ⟨_, ⟨LV.le.refl _, rfl⟩, ?_⟩
  refine ⟨_, Ct.callC (went1 n1 M1 M1' k1 w1 w1' h1 hM1 hM1') rfl (leL.refl _) ⟨LV.le.refl _, rfl⟩, ?_⟩
  refine ⟨_, ⟨LV.le.refl _, rfl⟩, ?_⟩
  refine ⟨_, _, ⟨LV.le.refl _, rfl⟩, ?_⟩
  refine ⟨_, ⟨LV.le.refl _, rfl⟩, ?_⟩
  refine ⟨_, _, ⟨LV.le.refl _, rfl⟩, ?_⟩
  refine ⟨trivial, ?_⟩
  exact ⟨LV.le.refl _, rfl⟩
/-- a machine of which only these are asked -/
def macK (M0 M1 : Nat) (w0 w1 : TL) : List LV := [.any, .any, .any, .any, .sl 1 M0 (tx w0), .any, .any, .any, .any, .any, .any, .any, .any, .sl 1 M1 (tx w1), .any, .any, .any]
theorem went_ct (c : Int) (n0 n1 M0 M0' M1 M1' : Nat) (k0 k1 : KL) (r : List UInt8) (w0 w0' w1 w1' : TL) (h0 : n0 ≤ 400) (h1 : n1 ≤ 400) (hM0 : M0 ≤ 400) (hM0' : M0' ≤ 400) (hM1 : M1 ≤ 400) (hM1' : M1' ≤ 400) :
    Ct Tryz.prog 23 [shot c n0 n1 k0 k1 r, .agg (macK M0 M1 w0 w1), .agg (macK M0' M1' w0' w1')] (shot c n0 n1 (wK k0 w0 w0' M0 M0') (wK k1 w1 w1' M1 M1') r) := by
  refine Ct.enter Tryz.tabOk ft23 ?_
  refine Ct.callC (went_both c n0 n1 M0 M0' M1 M1' k0 k1 r w0 w0' w1 w1' h0 h1 hM0 hM0' hM1 hM1') rfl (leL.refl _) ?_
  exact ⟨LV.le.refl _, rfl⟩
end Go.Proofs.Aw
namespace Go.Proofs.Aw
open Go Go.Proofs
set_option maxHeartbeats 4000000
set_option maxRecDepth 100000
theorem pump_ct (c n : Int) (n0 n1 M0 M1 : Nat) (k0 k1 : KL) (r : List UInt8) (w0 w1 : TL) (h0 : n0 ≤ 400) (h1 : n1 ≤ 400) (hM0 : M0 ≤ 400) (hM1 : M1 ≤ 400) (hn : n ≤ 9223372036854775807) :
    Ct Tryz.prog 25 [shot c n0 n1 k0 k1 r, .agg (macK M0 M1 w0 w1), .v (.int .i64 n)] (shot c n0 n1 (pK k0 w0 M0 n) (pK k1 w1 M1 (pN k0 M0 n n0)) r) := by
  have hn2 : pN k0 M0 n n0 ≤ 9223372036854775807 := by have := pN_le k0 M0 n n0; omega
  refine Ct.enter Tryz.tabOk ft25 ?_
  refine CallA.body Tryz.tabOk ft65 ?_
  refine DrawA.run Tryz.tabOk Tryz.mixed [0, 0, 2, 0, 15, 0, 0, 64, 0, 511, 223, 2047, 4095, 8191] [4, 9, 11, 13] rfl ?_
  refine ⟨_, ⟨LV.le.refl _, rfl⟩, ?_⟩
  refine ⟨_, ⟨LV.le.refl _, rfl⟩, ?_⟩
  refine ⟨_, ⟨LV.le.refl _, rfl⟩, ?_⟩
  refine ⟨_, ⟨LV.le.refl _, rfl⟩, ?_⟩
  refine ⟨_, _, pump1 _ _ _ _ _ rfl rfl rfl rfl rfl _ _ n n0 M0 k0 w0 h0 hM0 hn ⟨LV.le.refl _, rfl⟩, ?_⟩
  refine ⟨_, ⟨LV.le.refl _, rfl⟩, ?_⟩
  refine ⟨_, ⟨LV.le.refl _, rfl⟩, ?_⟩
  refine ⟨_, ⟨LV.le.refl _, rfl⟩, ?_⟩
  refine ⟨_, ⟨LV.le.refl _, rfl⟩, ?_⟩
  refine ⟨_, _, pump1 _ _ _ _ _ rfl rfl rfl rfl rfl _ _ (pN k0 M0 n n0) n1 M1 k1 w1 h1 hM1 hn2 ⟨LV.le.refl _, rfl⟩, ?_⟩
  refine ⟨_, ⟨LV.le.refl _, rfl⟩, ?_⟩
  refine ⟨_, _, ⟨LV.le.refl _, rfl⟩, ?_⟩
  refine ⟨_, ⟨LV.le.refl _, rfl⟩, ?_⟩
  refine ⟨_, _, ⟨LV.le.refl _, rfl⟩, ?_⟩
  refine ⟨?_, ?_⟩
  · refine ⟨⟨⟨LV.le.refl _, rfl⟩, trivial, trivial⟩, ?_⟩
    refine ⟨⟨⟨LV.le.refl _, rfl⟩, trivial, trivial⟩, ?_⟩
    refine ⟨⟨⟨LV.le.refl _, rfl⟩, trivial, trivial⟩, ?_⟩
    refine ⟨⟨⟨LV.le.refl _, rfl⟩, trivial, trivial⟩, ?_⟩
    refine ⟨⟨⟨LV.le.refl _, rfl⟩, trivial, trivial⟩, ?_⟩
    exact True.intro
  exact ⟨LV.le.refl _, rfl⟩
end Go.Proofs.Aw
namespace Go.Proofs.Aw
open Go Go.Proofs
set_option maxHeartbeats 4000000
set_option maxRecDepth 100000
theorem within_lit : Ct Tryz.prog 90 [.v (.int .i64 0), .v (.int .i64 1), .v (.int .i64 1000)] (.v (.bool false)) := by
  refine Ct.enter Tryz.tabOk ft90 ?_
  refine ⟨fun h => absurd h (by decide), fun h => ?_⟩
  exact ⟨LV.le.refl _, rfl⟩
/-- a machine whose quantum is 0 -/
def macB (c : Int) (M0 M1 : Nat) (w0 w1 : TL) : List LV := [.v (.int .u64 c), .v (.int .i64 0), .any, .any, .sl 1 M0 (tx w0), .any, .any, .any, .any, .any, .any, .any, .any, .sl 1 M1 (tx w1), .any, .any, .any]
theorem check_bad (c : Int) (M0 M1 : Nat) (w0 w1 : TL) : Ct Tryz.prog 41 [.agg (macB c M0 M1 w0 w1)] (.v (.int .i64 2)) := by
  refine Ct.enter Tryz.tabOk ft41 ?_
  refine Ct.callC within_lit rfl (leL.refl _) ?_
  exact ⟨LV.le.refl _, rfl⟩
theorem of_bad (c : Int) (M0 M1 : Nat) (w0 w1 : TL) : Ct Tryz.prog 12 [.agg (macB c M0 M1 w0 w1)] (.agg [.any, .any, .str []]) := by
  refine Ct.enter Tryz.tabOk ft12 ?_
  refine Ct.callC (check_bad c M0 M1 w0 w1) rfl (leL.refl _) ?_
  refine ⟨fun h => ?_, fun h => absurd h (by decide)⟩
  exact ⟨LV.le.agg ⟨_, _, rfl, LV.le.any _, _, _, rfl, LV.le.any _, _, _, rfl, LV.le.refl _, rfl⟩, rfl⟩
def noneK : KL := fun _ => (false, [])
theorem begin1 (n : Nat) (hn : n ≤ 400) : Ct Tryz.prog 56 [.any, .v (.int .i64 (n : Int))] (.sl 2 n (kv noneK)) := by
  refine Ct.enter Tryz.tabOk ft56 ?_
  refine ⟨⟨by omega, by omega, by show 24 * (n : Int) ≤ _; omega, by omega⟩, .inl ?_⟩
  exact ⟨LV.le.slL rfl fun i hi => ⟨_, _, rfl, LV.le.bs false, leL.refl _⟩, rfl⟩
theorem begin_both (c : Int) (n0 n1 : Nat) (r : List UInt8) (h0 : n0 ≤ 400) (h1 : n1 ≤ 400) :
    Ct Tryz.prog 55 [.v (.int .i64 (n0 : Int)), .v (.int .i64 (n1 : Int)), .v (.func (.func 56) #[] #[]), .agg [.v (.int .u64 c), .any, .any, .str r]] (shot c n0 n1 noneK noneK r) := by
  refine Ct.enter Tryz.tabOk ft55 ?_
  refine DrawA.run Tryz.tabOk Tryz.mixed [0, 0, 2, 0, 15, 0, 0, 64, 0, 511, 223, 2047, 4095, 8191] [11, 13] rfl ?_
  refine ⟨_, ⟨LV.le.refl _, rfl⟩, ?_⟩
  refine ⟨_, ⟨LV.le.refl _, rfl⟩, ?_⟩
  refine ⟨_, ⟨LV.le.refl _, rfl⟩, ?_⟩
  refine ⟨_, ⟨LV.le.refl _, rfl⟩, ?_⟩
  refine ⟨_, Ct.callC (begin1 n0 h0) rfl (leL.refl _) ⟨LV.le.refl _, rfl⟩, ?_⟩
  refine ⟨_, ⟨LV.le.refl _, rfl⟩, ?_⟩
  refine ⟨_, ⟨LV.le.refl _, rfl⟩, ?_⟩
  refine ⟨_, ⟨LV.le.refl _, rfl⟩, ?_⟩
  refine ⟨_, ⟨LV.le.refl _, rfl⟩, ?_⟩
  refine ⟨_, Ct.callC (begin1 n1 h1) rfl (leL.refl _) ⟨LV.le.refl _, rfl⟩, ?_⟩
  refine ⟨_, ⟨LV.le.refl _, rfl⟩, ?_⟩
  refine ⟨_, _, ⟨LV.le.refl _, rfl⟩, ?_⟩
  refine ⟨_, ⟨LV.le.refl _, rfl⟩, ?_⟩
  refine ⟨_, _, ⟨LV.le.refl _, rfl⟩, ?_⟩
  refine ⟨True.intro, ?_⟩
  exact ⟨LV.le.refl _, rfl⟩
theorem begin_bad (c : Int) (n0 n1 : Nat) (w0 w1 : TL) (h0 : n0 ≤ 400) (h1 : n1 ≤ 400) : Ct Tryz.prog 19 [.agg (macB c n0 n1 w0 w1)] (shot c n0 n1 noneK noneK []) := by
  refine Ct.enter Tryz.tabOk ft19 ?_
  refine DrawA.run Tryz.tabOk Tryz.mixed [0, 1, 0, 4, 12, 31, 0, 127] [6, 7] rfl ?_
  refine ⟨_, ⟨LV.le.refl _, rfl⟩, ?_⟩
  refine ⟨_, ⟨LV.le.refl _, rfl⟩, ?_⟩
  refine ⟨_, ⟨LV.le.refl _, rfl⟩, ?_⟩
  refine ⟨_, Ct.callC (of_bad c n0 n1 w0 w1) rfl (leL.refl _) ⟨LV.le.refl _, rfl⟩, ?_⟩
  refine ⟨_, ⟨LV.le.refl _, rfl⟩, ?_⟩
  refine ⟨_, ⟨LV.le.refl _, rfl⟩, ?_⟩
  refine ⟨_, _, ⟨LV.le.refl _, rfl⟩, ?_⟩
  refine ⟨_, _, ⟨LV.le.refl _, rfl⟩, ?_⟩
  refine ⟨?_, ?_⟩
  · refine ⟨⟨True.intro, ⟨LV.le.refl _, rfl⟩, True.intro⟩, ?_⟩
    refine ⟨⟨True.intro, ⟨LV.le.refl _, rfl⟩, True.intro⟩, ?_⟩
    refine ⟨⟨True.intro, ⟨LV.le.refl _, rfl⟩, True.intro⟩, ?_⟩
    refine ⟨⟨True.intro, Ct.callC (of_bad c n0 n1 w0 w1) rfl (leL.refl _) ⟨LV.le.refl _, rfl⟩, True.intro⟩, ?_⟩
    refine ⟨⟨True.intro, ⟨LV.le.refl _, rfl⟩, True.intro⟩, ?_⟩
    refine ⟨⟨True.intro, ⟨LV.le.refl _, rfl⟩, True.intro⟩, ?_⟩
    exact True.intro
  refine Ct.callC (begin_both c n0 n1 [] h0 h1) rfl ⟨_, _, rfl, LV.le.refl _, _, _, rfl, LV.le.refl _, _, _, rfl, LV.le.refl _, _, _, rfl, LV.le.agg ⟨_, _, rfl, LV.le.refl _, _, _, rfl, LV.le.any _, _, _, rfl, LV.le.any _, _, _, rfl, LV.le.refl _, rfl⟩, rfl⟩ ?_
  exact ⟨LV.le.refl _, rfl⟩
end Go.Proofs.Aw
namespace Go.Proofs.Aw
open Go Go.Proofs
set_option maxHeartbeats 4000000
set_option maxRecDepth 100000
def imgV (a b : LV) (r : List UInt8) : LV := .agg [a, b, .str r]
theorem image_busy (c : Int) (n0 n1 : Nat) (k0 k1 : KL) (r : List UInt8) (h0 : n0 ≤ 400) (h1 : n1 ≤ 400) (hc : 0 < cnt (catK n0 k0 k1) (n0 + n1)) :
    Ct Tryz.prog 27 [shot c n0 n1 k0 k1 r] (.tup [imgV (.v (.slice none 0 0)) (.v (.slice none 0 0)) [], .v (.int .i64 12)]) := by
  refine Ct.enter Tryz.tabOk ft27 ?_
  refine Ct.callC (left_ct c n0 n1 k0 k1 r h0 h1) rfl (leL.refl _) ?_
  refine ⟨fun h => ?_, fun h => absurd (dF h) (by show ¬ ¬ (0 : Int) < (cnt (catK n0 k0 k1) (n0 + n1) : Int); omega)⟩
  exact ⟨LV.le.refl _, rfl⟩
def dat (k : KL) : TL := fun i => (k i).2
theorem bltF {i : Nat} : Nat.blt i i = false := by
  cases h : Nat.blt i i with
  | false => rfl
  | true => rw [Nat.blt_eq] at h; omega
theorem image_all (c : Int) (n0 n1 : Nat) (k0 k1 : KL) (r : List UInt8) (h0 : n0 ≤ 400) (h1 : n1 ≤ 400) (hc : cnt (catK n0 k0 k1) (n0 + n1) = 0) :
    Ct Tryz.prog 27 [shot c n0 n1 k0 k1 r] (.tup [imgV (.sl 1 n0 (tx (dat k0))) (.sl 1 n1 (tx (dat k1))) r, .v (.int .i64 0)]) := by
  refine Ct.enter Tryz.tabOk ft27 ?_
  refine Ct.callC (left_ct c n0 n1 k0 k1 r h0 h1) rfl (leL.refl _) ?_
  refine ⟨fun h => absurd (dT h) (by rw [hc]; decide), fun h => ?_⟩
  refine ⟨Nat, fun j => ⟨[(19, .v (.int .i64 (j : Int))), (18, .v (.int .i64 (n0 : Int))), (17, .sl 2 n0 (kv k0)), (1, .lp 0 0), (2, .lp 1 0), (4, .lp 2 0)],
      [(3, .arr 9 1 j (tx (dat k0))), (2, .box 36 [.ls 3 j, .v (.slice none 0 0), .str r]), (1, .box 36 [.v (.slice none 0 0), .v (.slice none 0 0), .str []]), (0, .box 43 [.v (.int .u64 c), .sl 2 n0 (kv k0), .sl 2 n1 (kv k1), .str r])], 4, 0⟩, fun j => j ≤ n0, fun j => n0 - j, 0, Nat.zero_le _,
      .own (ty := 9) (sz := 1) ⟨rfl, rfl, ⟨.refl _, rfl, .refl _, rfl, .refl _, rfl, .refl _, rfl, .refl _, rfl, .refl _, rfl, trivial⟩, ⟨⟨_, rfl, .of (LO.le.arr rfl fun i hi => absurd hi (by omega))⟩, rfl, rfl, ⟨_, rfl, .box ⟨_, _, rfl, .nil, _, _, rfl, .refl _, _, _, rfl, .refl _, rfl⟩⟩, rfl, rfl, ⟨_, rfl, .refl _⟩, rfl, rfl, ⟨_, rfl, .refl _⟩, rfl, rfl, trivial⟩⟩, fun j hj => ⟨fun h => ?_, fun h2 => ?_⟩⟩
  · have h := dT h
    have e11 : IntKind.i64.wrap ((j : Int) + 1) = ((j + 1 : Nat) : Int) := by rw [w64] <;> omega
    refine ⟨⟨by omega, by omega⟩, by show (j + 1) * 16 ≤ _; omega, by show j + 1 ≤ _; omega, ⟨j + 1, (by omega : j + 1 ≤ n0), (by omega : n0 - (j + 1) < n0 - j), .ren (a := 3) (b := 6) ⟨rfl, ⟨rfl, rfl, rfl, Nat.le_of_ble_eq_true rfl⟩, ⟨LV.le.int e11, rfl, LV.le.refl _, rfl, LV.le.refl _, rfl, LV.le.refl _, rfl, LV.le.refl _, rfl, LV.le.refl _, rfl, trivial⟩,
      ⟨⟨_, rfl, LO.le.arr rfl fun i hi => by
        rcases Nat.lt_or_ge i j with hlt | hge
        · have hb := Nat.blt_eq.mpr hlt
          dsimp only; rw [hb]
        · obtain rfl : i = j := by have : i < j + 1 := hi; omega
          dsimp only; rw [bltF, Nat.sub_self]; rfl⟩, rfl, rfl, ⟨_, rfl, LO.le.refl _⟩, rfl, rfl, ⟨_, rfl, LO.le.refl _⟩, rfl, rfl, ⟨_, rfl, LO.le.refl _⟩, rfl, rfl, trivial⟩⟩⟩⟩
  · have hj : j ≤ n0 := hj
    obtain rfl : j = n0 := by have := dF h2; omega
    refine ⟨Nat, fun i => ⟨[(34, .v (.int .i64 (i : Int))), (33, .v (.int .i64 (n1 : Int))), (32, .sl 2 n1 (kv k1)), (1, .lp 0 0), (2, .lp 1 0), (4, .lp 2 0)],
      [(4, .arr 9 1 i (tx (dat k1))), (3, .arr 9 1 j (tx (dat k0))), (2, .box 36 [.ls 3 j, .ls 4 i, .str r]), (1, .box 36 [.v (.slice none 0 0), .v (.slice none 0 0), .str []]), (0, .box 43 [.v (.int .u64 c), .sl 2 j (kv k0), .sl 2 n1 (kv k1), .str r])], 5, 0⟩, fun j => j ≤ n1, fun j => n1 - j, 0, Nat.zero_le _,
      .own (ty := 9) (sz := 1) ⟨rfl, rfl, ⟨.refl _, rfl, .refl _, rfl, .refl _, rfl, .refl _, rfl, .refl _, rfl, .refl _, rfl, trivial⟩, ⟨⟨_, rfl, .of (LO.le.arr rfl fun i hi => absurd hi (by omega))⟩, rfl, rfl, ⟨_, rfl, .refl _⟩, rfl, rfl, ⟨_, rfl, .box ⟨_, _, rfl, .refl _, _, _, rfl, .nil, _, _, rfl, .refl _, rfl⟩⟩, rfl, rfl, ⟨_, rfl, .refl _⟩, rfl, rfl, ⟨_, rfl, .refl _⟩, rfl, rfl, trivial⟩⟩, fun i hi => ⟨fun h => ?_, fun h3 => ?_⟩⟩
    · have h := dT h
      have e11 : IntKind.i64.wrap ((i : Int) + 1) = ((i + 1 : Nat) : Int) := by rw [w64] <;> omega
      refine ⟨⟨by omega, by omega⟩, by show (i + 1) * 16 ≤ _; omega, by show i + 1 ≤ _; omega, ⟨i + 1, (by omega : i + 1 ≤ n1), (by omega : n1 - (i + 1) < n1 - i), .ren (a := 4) (b := 7) ⟨rfl, ⟨rfl, rfl, rfl, Nat.le_of_ble_eq_true rfl⟩, ⟨LV.le.int e11, rfl, LV.le.refl _, rfl, LV.le.refl _, rfl, LV.le.refl _, rfl, LV.le.refl _, rfl, LV.le.refl _, rfl, trivial⟩,
        ⟨⟨_, rfl, LO.le.arr rfl fun q hq => by
        rcases Nat.lt_or_ge q i with hlt | hge
        · have hb := Nat.blt_eq.mpr hlt
          dsimp only; rw [hb]
        · obtain rfl : q = i := by have : q < i + 1 := hq; omega
          dsimp only; rw [bltF, Nat.sub_self]; rfl⟩, rfl, rfl, ⟨_, rfl, LO.le.refl _⟩, rfl, rfl, ⟨_, rfl, LO.le.refl _⟩, rfl, rfl, ⟨_, rfl, LO.le.refl _⟩, rfl, rfl, ⟨_, rfl, LO.le.refl _⟩, rfl, rfl, trivial⟩⟩⟩⟩
    · have hi : i ≤ n1 := hi
      obtain rfl : i = n1 := by have := dF h3; omega
      exact ⟨LV.le.refl _, rfl⟩
end Go.Proofs.Aw
namespace Go.Proofs.Aw
open Go Go.Proofs
set_option maxHeartbeats 4000000
set_option maxRecDepth 100000
/-- the lists of a machine, as the statements look at them -/
structure MV where
  M0 : Nat
  M1 : Nat
  w0 : TL
  w1 : TL
  np : Nat
  nd : Nat
  nq : Nat
  Ap : Option Addr
  Ad : Option Addr
  Aq : Option Addr
  cp : Nat
  cd : Nat
  cq : Nat
def MV.lv (m : MV) : List LV := [.any, .any, .any, .any, .sl 1 m.M0 (tx m.w0), .v (.slice m.Ap m.np m.cp), .any, .any, .any, .any, .any, .any, .any, .sl 1 m.M1 (tx m.w1), .v (.slice m.Ad m.nd m.cd), .any, .v (.slice m.Aq m.nq m.cq)]
def Big (m : MV) (n0 n1 : Nat) : Prop := m.M0 > 70 ∨ m.M1 > 260 ∨ n0 > 70 ∨ n1 > 260 ∨ m.np > 10 ∨ m.nd > 80 ∨ m.nq > 40
instance (m : MV) (n0 n1 : Nat) : Decidable (Big m n0 n1) := by unfold Big; infer_instance
theorem great_ct (m : MV) (c : Int) (n0 n1 : Nat) (k0 k1 : KL) (r : List UInt8) : Ct Tryz.prog 17 [.agg m.lv, shot c n0 n1 k0 k1 r] (.v (.int .i64 (if Big m n0 n1 then 1 else 0))) := by
  have yes : Big m n0 n1 → (1 : Int) = if Big m n0 n1 then 1 else 0 := fun h => by rw [if_pos h]
  refine Ct.enter Tryz.tabOk ft17 ?_
  refine ⟨fun h1 => ?_, fun h1 => ⟨fun h2 => ?_, fun h2 => ⟨fun h3 => ?_, fun h3 => ⟨fun h4 => ?_, fun h4 => ⟨fun h5 => ?_, fun h5 => ⟨fun h6 => ?_, fun h6 => ⟨fun h7 => ?_, fun h7 => ?_⟩⟩⟩⟩⟩⟩⟩
  · exact ⟨LV.le.int (yes (.inl (by have := dT h1; omega))), rfl⟩
  · exact ⟨LV.le.int (yes (.inr (.inl (by have := dT h2; omega)))), rfl⟩
  · exact ⟨LV.le.int (yes (.inr (.inr (.inl (by have := dT h3; omega))))), rfl⟩
  · exact ⟨LV.le.int (yes (.inr (.inr (.inr (.inl (by have := dT h4; omega)))))), rfl⟩
  · exact ⟨LV.le.int (yes (.inr (.inr (.inr (.inr (.inl (by have := dT h5; omega))))))), rfl⟩
  · exact ⟨LV.le.int (yes (.inr (.inr (.inr (.inr (.inr (.inl (by have := dT h6; omega)))))))), rfl⟩
  · exact ⟨LV.le.int (yes (.inr (.inr (.inr (.inr (.inr (.inr (by have := dT h7; omega)))))))), rfl⟩
  · refine ⟨LV.le.int ?_, rfl⟩
    rw [if_neg]
    have a1 := dF h1; have a2 := dF h2; have a3 := dF h3; have a4 := dF h4; have a5 := dF h5; have a6 := dF h6; have a7 := dF h7
    unfold Big
    omega
end Go.Proofs.Aw

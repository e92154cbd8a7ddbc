/- A PART OF THE PROOF: an abstract run of the loaded code over value trees, and the functions walked by it. No condition of its own. -/
import Derived.Test.YtanmknmlphkeaaaGreatDoorZK4
namespace Go.Proofs.Aw
open Go Go.Proofs Go.RowKit
set_option maxHeartbeats 8000000
set_option maxRecDepth 100000
def digitsL : List UInt8 := [48, 49, 50, 51, 52, 53, 54, 55, 56, 57, 97, 98, 99, 100, 101, 102]
def rowsL : List UInt8 := [48, 49, 50, 51, 52, 53, 54, 55, 56, 57, 97, 98, 99, 100, 101, 102, 101, 97, 52, 56, 57, 102, 100, 54, 49, 99, 48, 50, 98, 55, 53, 51, 98, 56, 99, 48, 53, 50, 102, 100, 97, 101, 51, 54, 55, 49, 57, 52, 55, 57, 51, 49, 100, 99, 98, 101, 50, 54, 53, 97, 52, 48, 102, 56, 57, 48, 53, 55, 50, 52, 97, 102, 101, 49, 98, 99, 54, 56, 51, 100, 50, 99, 54, 97, 48, 98, 56, 51, 52, 100, 55, 53, 102, 101, 49, 57, 99, 53, 49, 102, 101, 100, 52, 97, 48, 55, 54, 51, 57, 50, 56, 98, 100, 98, 55, 101, 99, 49, 51, 57, 53, 48, 102, 52, 56, 54, 50, 97, 54, 102, 101, 57, 98, 51, 48, 56, 99, 50, 100, 55, 49, 52, 97, 53, 97, 50, 56, 52, 55, 54, 49, 53, 102, 98, 57, 101, 51, 99, 100, 48]
def rowF (r i : Nat) : Int := Lib.indexByte digitsL (rowsL.getD (16 * r + i) 0)
def rowN16 (r i : Nat) : Nat := (rowF r i).toNat
theorem rowF_all : ∀ k, k < 160 → 0 ≤ Lib.indexByte digitsL (rowsL.getD k 0) ∧ Lib.indexByte digitsL (rowsL.getD k 0) < 16 := by decide +kernel
theorem rowF_ix (r i : Nat) (hr : r < 10) (hi : i < 16) : 0 ≤ rowF r i ∧ rowF r i < ((16 : Nat) : Int) := by
  have := rowF_all (16 * r + i) (by omega)
  exact ⟨this.1, this.2⟩
theorem rowN16_lt (r i : Nat) (hr : r < 10) (hi : i < 16) : rowN16 r i < 16 := by
  have := rowF_ix r i hr hi
  unfold rowN16; omega
theorem hrow_ct (r i : Nat) (hr : r < 10) (hi : i < 16) : Ct Tryz.prog 153 [.v (.int .i64 (r : Int)), .v (.int .i64 (i : Int))] (.v (.int .i64 (rowF r i))) := by
  have w1 : IntKind.i64.wrap (16 * (r : Int)) = ((16 * r : Nat) : Int) := by rw [w64 (by omega) (by omega)]; omega
  have w2 : IntKind.i64.wrap (IntKind.i64.wrap (16 * (r : Int)) + (i : Int)) = ((16 * r + i : Nat) : Int) := by rw [w1, w64 (by omega) (by omega)]; omega
  have hlt : 16 * r + i < 160 := by omega
  refine Ct.enter Tryz.tabOk ft153 ?_
  refine ⟨⟨by rw [w2]; omega, by rw [w2]; exact Int.ofNat_lt.mpr hlt⟩, ?_⟩
  refine Ct.callC (ixb2_ct digitsL (rowsL.getD (16 * r + i) 0)) rfl ⟨_, _, rfl, LV.le.refl _, _, _, rfl, LV.le.int ?_, rfl⟩ ?_
  · show ((rowsL.getD (IntKind.i64.wrap (IntKind.i64.wrap (16 * (r : Int)) + (i : Int))).toNat 0).toNat : Int) = _
    rw [w2]
    rfl
  · exact ⟨LV.le.refl _, rfl⟩

theorem storeK_at {st : St} {o off : Nat} {ty : TypeId} {cs cs' xs : List LV} {k : St → Prop} (hob : lookO o st.objs = some (.box ty cs)) (hb : Nat.ble (off + xs.length) cs.length = true) (hw : writeL cs off xs = cs') (h : k (st.setO o (.box ty cs'))) : storeK st (.lp o off) xs k := by
  simp only [storeK, hob, hb, frcC_eq, hw]; exact h
theorem loadK_at {ti : TI} {cs : List LV} {off j : Nat} {x : LV} {k : LV → Prop} (hag : ti.k.agg = false) (ho : off = j) (hx : nth cs j = some x) (h : k x) : loadK ti cs off k := by
  subst ho; simp only [loadK, hag, hx]; exact h
def zeroV : Nat → Int := fun _ => 0
def Mj (bl : List UInt8) : Nat → Nat → Int
  | 0 => zeroV
  | j + 1 => updV (Mj bl j) j (wordF (bl.drop (4 * j)))
def V1 (H : Nat → Int) (c : Int) (last : Bool) : Nat → Int := fun k => match k with
  | 0 => H 0
  | 1 => H 1
  | 2 => H 2
  | 3 => H 3
  | 4 => H 4
  | 5 => H 5
  | 6 => H 6
  | 7 => H 7
  | 8 => H0 0
  | 9 => H0 1
  | 10 => H0 2
  | 11 => H0 3
  | 12 => bitsA .xor .u32 (H0 4) (IntKind.u32.wrap c)
  | 13 => bitsA .xor .u32 (H0 5) (IntKind.u32.wrap (c.fdiv (2 ^ (min (32 : Int).toNat IntKind.u64.bits))))
  | 14 => match last with
    | true => bitsA .xor .u32 (if IntKind.u32.signed then -1 else IntKind.u32.max) (H0 6)
    | false => H0 6
  | _ => H0 7
def stepA (M : Nat → Int) (r : Nat) (V : Nat → Int) : Nat → Nat → Int
  | 0 => V
  | i + 1 => mixF (stepA M r V i) i (4 + i) (8 + i) (12 + i) (M (rowN16 r (2 * i))) (M (rowN16 r (2 * i + 1)))
def stepB (M : Nat → Int) (r : Nat) (V : Nat → Int) : Nat → Nat → Int
  | 0 => V
  | i + 1 => mixF (stepB M r V i) i (4 + (i + 1) % 4) (8 + (i + 2) % 4) (12 + (i + 3) % 4) (M (rowN16 r (8 + 2 * i))) (M (rowN16 r (9 + 2 * i)))
def roundsF (M V : Nat → Int) : Nat → Nat → Int
  | 0 => V
  | r + 1 => stepB M r (stepA M r (roundsF M V r) 4) 4
def endF (H V : Nat → Int) : Nat → Nat → Int
  | 0 => H
  | i + 1 => updV (endF H V i) i (bitsA .xor .u32 (endF H V i i) (bitsA .xor .u32 (V i) (V (i + 8))))
def takeF (H : Nat → Int) (bl : List UInt8) (c : Int) (last : Bool) : Nat → Int := endF H (roundsF (Mj bl 16) (V1 H c last) 10) 8
theorem ble8 {V : Nat → Int} {x : LV} {a : Nat} (h : a < 8) : Nat.ble (a + [x].length) (L8 V).length = true := by
  rw [Nat.ble_eq]; show a + 1 ≤ 8; omega
theorem take_ct (H : Nat → Int) (bl : List UInt8) (c : Int) (last : Bool) (hl : bl.length = 64) : Ct Tryz.prog 106 [.agg (L8 H), .str bl, .v (.int .u64 c), .v (.bool last)] (.agg (L8 (takeF H bl c last))) := by
  refine Ct.enter Tryz.tabOk ft106 ?_
  refine ⟨Nat, fun j => ⟨[(17, .v (.int .i64 (j : Int))), (1, .str bl), (9, .lp 2 0), (4, .lp 0 0), (8, .lp 1 0), (2, .v (.int .u64 c)), (3, .v (.bool last))], [(2, .box 66 (L16 (Mj bl j))), (1, .box 117 (L8 zeroV)), (0, .box 117 (L8 H))], 3, 0⟩, fun j => j ≤ 16, fun j => 16 - j, 0, Nat.zero_le _,
    .le ⟨rfl, ⟨rfl, Nat.le_refl _⟩, ⟨LV.le.refl _, rfl, LV.le.refl _, rfl, LV.le.refl _, rfl, LV.le.refl _, rfl, LV.le.refl _, rfl, LV.le.refl _, rfl, LV.le.refl _, rfl, trivial⟩, ⟨⟨_, rfl, LO.le.refl _⟩, rfl, rfl, ⟨_, rfl, LO.le.refl _⟩, rfl, rfl, ⟨_, rfl, LO.le.refl _⟩, rfl, rfl, trivial⟩⟩, fun j hj => ⟨fun h => ?_, fun h => ?_⟩⟩
  · have h := dT h
    have h : (j : Int) < 16 := h
    have e11 : IntKind.i64.wrap ((j : Int) + 1) = ((j + 1 : Nat) : Int) := by rw [w64] <;> omega
    have w4 : IntKind.i64.wrap (4 * (j : Int)) = ((4 * j : Nat) : Int) := by rw [w64 (by omega) (by omega)]; omega
    have hjl : j < 16 := by omega
    refine ⟨⟨by rw [w4]; omega, by rw [w4, hl]; omega, Int.le_refl _⟩, ?_⟩
    refine Ct.callC (word_ct (bl.drop (4 * j)) (by rw [List.length_drop]; omega)) rfl ⟨_, _, rfl, LV.le.eq (congrArg LV.str ?_), rfl⟩ ?_
    · rw [w4]
      show (bl.take bl.length).drop (4 * j) = _
      rw [List.take_length]
    refine ⟨⟨by omega, by omega⟩, ?_⟩
    clear h
    have hM : Mj bl (j + 1) = updV (Mj bl j) j (wordF (bl.drop (4 * j))) := rfl
    generalize Mj bl j = V at hM ⊢
    generalize wordF (bl.drop (4 * j)) = x at hM ⊢
    clear w4
    rcases (by omega : j = 0 ∨ j = 1 ∨ j = 2 ∨ j = 3 ∨ j = 4 ∨ j = 5 ∨ j = 6 ∨ j = 7 ∨ j = 8 ∨ j = 9 ∨ j = 10 ∨ j = 11 ∨ j = 12 ∨ j = 13 ∨ j = 14 ∨ j = 15) with rfl | rfl | rfl | rfl | rfl | rfl | rfl | rfl | rfl | rfl | rfl | rfl | rfl | rfl | rfl | rfl
    all_goals
      exact ⟨_, (by decide), (by decide), .le ⟨rfl, ⟨rfl, Nat.le_refl _⟩, ⟨LV.le.int e11, rfl, LV.le.refl _, rfl, LV.le.refl _, rfl, LV.le.refl _, rfl, LV.le.refl _, rfl, LV.le.refl _, rfl, LV.le.refl _, rfl, trivial⟩, ⟨⟨_, rfl, by rw [hM]; exact LO.le.refl _⟩, rfl, rfl, ⟨_, rfl, LO.le.refl _⟩, rfl, rfl, ⟨_, rfl, LO.le.refl _⟩, rfl, rfl, trivial⟩⟩⟩
  have hj : j ≤ 16 := hj
  have h := dF h
  have h : ¬ (j : Int) < 16 := h
  obtain rfl : j = 16 := by omega
  clear hj h
  unfold takeF
  generalize Mj bl 16 = M
  refine Ct.callC eight_ct rfl (leL.refl _) ?_
  refine DrawA.run Tryz.tabOk Tryz.mixed [0, 0, 3] [2] rfl ?_
  refine ⟨_, ⟨⟨by decide, by decide, by decide, by decide⟩, LV.le.refl _, rfl⟩, ?_⟩
  refine ⟨_, ⟨⟨by decide, by decide, by decide, by decide⟩, LV.le.refl _, rfl⟩, ?_⟩
  refine ⟨_, _, ⟨LV.le.refl _, rfl⟩, ?_⟩
  refine ⟨True.intro, ?_⟩
  refine DrawA.run Tryz.tabOk Tryz.mixed [0, 0, 3] [2] rfl ?_
  refine ⟨_, ⟨⟨by decide, by decide, by decide, by decide⟩, LV.le.refl _, rfl⟩, ?_⟩
  refine ⟨_, ⟨⟨by decide, by decide, by decide, by decide⟩, LV.le.refl _, rfl⟩, ?_⟩
  refine ⟨_, _, ⟨LV.le.refl _, rfl⟩, ?_⟩
  refine ⟨True.intro, ?_⟩
  cases last with
  | false =>
    refine ⟨⟨by decide, by decide⟩, ⟨⟨by decide, by decide⟩, ⟨⟨by decide, by decide⟩, ⟨by decide, ⟨⟨by decide, by decide⟩, ?_⟩⟩⟩⟩⟩
    refine ⟨Nat, fun r => ⟨[(53, .v (.int .i64 (r : Int))), (9, .lp 2 0), (11, .lp 3 0), (4, .lp 0 0), (8, .lp 1 0)], [(4, .box 117 (L8 H0)), (3, .box 66 (L16 (roundsF M (V1 H c false) r))), (2, .box 66 (L16 M)), (1, .box 117 (L8 zeroV)), (0, .box 117 (L8 (H)))], 5, 0⟩, fun r => r ≤ 10, fun r => 10 - r, 0, Nat.zero_le _, .le ⟨rfl, ⟨rfl, Nat.le_refl _⟩, ⟨LV.le.refl _, rfl, LV.le.refl _, rfl, LV.le.refl _, rfl, LV.le.refl _, rfl, LV.le.refl _, rfl, trivial⟩, ⟨⟨_, rfl, LO.le.refl _⟩, rfl, rfl, ⟨_, rfl, LO.le.refl _⟩, rfl, rfl, ⟨_, rfl, LO.le.refl _⟩, rfl, rfl, ⟨_, rfl, LO.le.refl _⟩, rfl, rfl, ⟨_, rfl, LO.le.refl _⟩, rfl, rfl, trivial⟩⟩, fun r hr => ⟨fun h => ?_, fun h => ?_⟩⟩
    · have h := dT h
      have h : (r : Int) < 10 := h
      have e10 : IntKind.i64.wrap ((r : Int) + 1) = ((r + 1 : Nat) : Int) := by rw [w64] <;> omega
      have hr : r < 10 := by omega
      have hR : roundsF M (V1 H c false) (r + 1) = stepB M r (stepA M r (roundsF M (V1 H c false) r) 4) 4 := rfl
      generalize roundsF M (V1 H c false) r = V at hR ⊢
      refine ⟨Nat, fun i => ⟨[(56, .v (.int .i64 (i : Int))), (53, .v (.int .i64 (r : Int))), (13, .v (.int .i64 (r : Int))), (9, .lp 2 0), (11, .lp 3 0), (4, .lp 0 0), (8, .lp 1 0)], [(4, .box 117 (L8 H0)), (3, .box 66 (L16 (stepA M r V i))), (2, .box 66 (L16 M)), (1, .box 117 (L8 zeroV)), (0, .box 117 (L8 (H)))], 5, 0⟩, fun i => i ≤ 4, fun i => 4 - i, 0, Nat.zero_le _, .le ⟨rfl, ⟨rfl, Nat.le_refl _⟩, ⟨LV.le.refl _, rfl, LV.le.refl _, rfl, LV.le.refl _, rfl, LV.le.refl _, rfl, LV.le.refl _, rfl, LV.le.refl _, rfl, LV.le.refl _, rfl, trivial⟩, ⟨⟨_, rfl, LO.le.refl _⟩, rfl, rfl, ⟨_, rfl, LO.le.refl _⟩, rfl, rfl, ⟨_, rfl, LO.le.refl _⟩, rfl, rfl, ⟨_, rfl, LO.le.refl _⟩, rfl, rfl, ⟨_, rfl, LO.le.refl _⟩, rfl, rfl, trivial⟩⟩, fun i hi => ⟨fun h => ?_, fun h => ?_⟩⟩
      · have h := dT h
        have h : (i : Int) < 4 := h
        have e11 : IntKind.i64.wrap ((i : Int) + 1) = ((i + 1 : Nat) : Int) := by rw [w64] <;> omega
        refine DrawA.le (T := Tryz.tab) (st' := ⟨[(14, .v (.int .i64 (i : Int))), (56, .v (.int .i64 (i : Int))), (53, .v (.int .i64 (r : Int))), (13, .v (.int .i64 (r : Int))), (9, .lp 2 0), (11, .lp 3 0), (4, .lp 0 0), (8, .lp 1 0)], [(4, .box 117 (L8 H0)), (3, .box 66 (L16 (stepA M r V i))), (2, .box 66 (L16 M)), (1, .box 117 (L8 zeroV)), (0, .box 117 (L8 (H)))], 5, 0⟩) ⟨rfl, ⟨rfl, Nat.le_refl _⟩, ⟨LV.le.refl _, rfl, LV.le.refl _, rfl, LV.le.refl _, rfl, LV.le.refl _, rfl, LV.le.refl _, rfl, LV.le.refl _, rfl, LV.le.refl _, rfl, LV.le.refl _, rfl, trivial⟩, ⟨⟨_, rfl, LO.le.refl _⟩, rfl, rfl, ⟨_, rfl, LO.le.refl _⟩, rfl, rfl, ⟨_, rfl, LO.le.refl _⟩, rfl, rfl, ⟨_, rfl, LO.le.refl _⟩, rfl, rfl, ⟨_, rfl, LO.le.refl _⟩, rfl, rfl, trivial⟩⟩ ?_
        refine DrawA.run Tryz.tabOk Tryz.mixed [0, 0, 2, 0, 8, 0, 32, 0, 0, 256, 896, 1920, 3968, 0, 0, 16384, 49152, 124800, 255872, 518016, 1048575] [20] rfl ?_
        refine ⟨_, ⟨LV.le.refl _, rfl⟩, ?_⟩
        refine ⟨_, ⟨LV.le.refl _, rfl⟩, ?_⟩
        refine ⟨.v (.int .i64 ((4 + i : Nat) : Int)), ⟨LV.le.int (by rw [w64 (by omega) (by omega)]; omega), rfl⟩, ?_⟩
        refine ⟨_, ⟨LV.le.refl _, rfl⟩, ?_⟩
        refine ⟨.v (.int .i64 ((8 + i : Nat) : Int)), ⟨LV.le.int (by rw [w64 (by omega) (by omega)]; omega), rfl⟩, ?_⟩
        refine ⟨_, ⟨LV.le.refl _, rfl⟩, ?_⟩
        refine ⟨.v (.int .i64 ((12 + i : Nat) : Int)), ⟨LV.le.int (by rw [w64 (by omega) (by omega)]; omega), rfl⟩, ?_⟩
        refine ⟨_, ⟨LV.le.refl _, rfl⟩, ?_⟩
        refine ⟨_, ⟨LV.le.refl _, rfl⟩, ?_⟩
        refine ⟨.v (.int .i64 ((2 * i : Nat) : Int)), ⟨LV.le.int (by rw [w64 (by omega) (by omega)]; omega), rfl⟩, ?_⟩
        refine ⟨_, Ct.callC (hrow_ct r (2 * i) hr (by omega)) rfl (leL.refl _) ⟨LV.le.refl _, rfl⟩, ?_⟩
        refine ⟨.lp 2 (rowN16 r (2 * i)), ⟨rowF_ix r (2 * i) hr (by omega), LV.le.eq (congrArg (LV.lp 2) (by show 0 + (rowF r (2 * i)).toNat * 1 = _; rw [Nat.mul_one, Nat.zero_add]; rfl)), rfl⟩, ?_⟩
        refine ⟨_, stepF_load rfl rfl rfl rfl rfl rfl (nth16 M _ (rowN16_lt r (2 * i) hr (by omega))) (LV.le.refl _), ?_⟩
        refine ⟨_, ⟨LV.le.refl _, rfl⟩, ?_⟩
        refine ⟨_, ⟨LV.le.refl _, rfl⟩, ?_⟩
        refine ⟨.v (.int .i64 ((2 * i : Nat) : Int)), ⟨LV.le.int (by rw [w64 (by omega) (by omega)]; omega), rfl⟩, ?_⟩
        refine ⟨.v (.int .i64 ((2 * i + 1 : Nat) : Int)), ⟨LV.le.int (by rw [w64 (by omega) (by omega)]; omega), rfl⟩, ?_⟩
        refine ⟨_, Ct.callC (hrow_ct r (2 * i + 1) hr (by omega)) rfl (leL.refl _) ⟨LV.le.refl _, rfl⟩, ?_⟩
        refine ⟨.lp 2 (rowN16 r (2 * i + 1)), ⟨rowF_ix r (2 * i + 1) hr (by omega), LV.le.eq (congrArg (LV.lp 2) (by show 0 + (rowF r (2 * i + 1)).toNat * 1 = _; rw [Nat.mul_one, Nat.zero_add]; rfl)), rfl⟩, ?_⟩
        refine ⟨_, stepF_load rfl rfl rfl rfl rfl rfl (nth16 M _ (rowN16_lt r (2 * i + 1) hr (by omega))) (LV.le.refl _), ?_⟩
        refine ⟨_, _, mix_ca _ _ H zeroV H0 M (stepA M r V i) (i) (4 + i) (8 + i) (12 + i) _ _ (by omega) (by omega) (by omega) (by omega) ⟨LV.le.refl _, rfl⟩, ?_⟩
        refine ⟨True.intro, ?_⟩
        exact ⟨i + 1, (by omega : i + 1 ≤ 4), (by omega : 4 - (i + 1) < 4 - i), .le ⟨rfl, ⟨rfl, Nat.le_refl _⟩, ⟨LV.le.int e11, rfl, LV.le.refl _, rfl, LV.le.refl _, rfl, LV.le.refl _, rfl, LV.le.refl _, rfl, LV.le.refl _, rfl, LV.le.refl _, rfl, trivial⟩, ⟨⟨_, rfl, LO.le.refl _⟩, rfl, rfl, ⟨_, rfl, LO.le.refl _⟩, rfl, rfl, ⟨_, rfl, LO.le.refl _⟩, rfl, rfl, ⟨_, rfl, LO.le.refl _⟩, rfl, rfl, ⟨_, rfl, LO.le.refl _⟩, rfl, rfl, trivial⟩⟩⟩
      · have hi : i ≤ 4 := hi
        have h := dF h
        have h : ¬ (i : Int) < 4 := h
        obtain rfl : i = 4 := by omega
        clear hi h
        generalize hW : stepA M r V 4 = W at hR ⊢
        clear hW
        refine ⟨Nat, fun i => ⟨[(81, .v (.int .i64 (i : Int))), (53, .v (.int .i64 (r : Int))), (13, .v (.int .i64 (r : Int))), (9, .lp 2 0), (11, .lp 3 0), (4, .lp 0 0), (8, .lp 1 0)], [(4, .box 117 (L8 H0)), (3, .box 66 (L16 (stepB M r W i))), (2, .box 66 (L16 M)), (1, .box 117 (L8 zeroV)), (0, .box 117 (L8 (H)))], 5, 0⟩, fun i => i ≤ 4, fun i => 4 - i, 0, Nat.zero_le _, .le ⟨rfl, ⟨rfl, Nat.le_refl _⟩, ⟨LV.le.refl _, rfl, LV.le.refl _, rfl, LV.le.refl _, rfl, LV.le.refl _, rfl, LV.le.refl _, rfl, LV.le.refl _, rfl, LV.le.refl _, rfl, trivial⟩, ⟨⟨_, rfl, LO.le.refl _⟩, rfl, rfl, ⟨_, rfl, LO.le.refl _⟩, rfl, rfl, ⟨_, rfl, LO.le.refl _⟩, rfl, rfl, ⟨_, rfl, LO.le.refl _⟩, rfl, rfl, ⟨_, rfl, LO.le.refl _⟩, rfl, rfl, trivial⟩⟩, fun i hi => ⟨fun h => ?_, fun h => ?_⟩⟩
        · have h := dT h
          have h : (i : Int) < 4 := h
          have e11 : IntKind.i64.wrap ((i : Int) + 1) = ((i + 1 : Nat) : Int) := by rw [w64] <;> omega
          refine DrawA.le (T := Tryz.tab) (st' := ⟨[(15, .v (.int .i64 (i : Int))), (81, .v (.int .i64 (i : Int))), (53, .v (.int .i64 (r : Int))), (13, .v (.int .i64 (r : Int))), (9, .lp 2 0), (11, .lp 3 0), (4, .lp 0 0), (8, .lp 1 0)], [(4, .box 117 (L8 H0)), (3, .box 66 (L16 (stepB M r W i))), (2, .box 66 (L16 M)), (1, .box 117 (L8 zeroV)), (0, .box 117 (L8 (H)))], 5, 0⟩) ⟨rfl, ⟨rfl, Nat.le_refl _⟩, ⟨LV.le.refl _, rfl, LV.le.refl _, rfl, LV.le.refl _, rfl, LV.le.refl _, rfl, LV.le.refl _, rfl, LV.le.refl _, rfl, LV.le.refl _, rfl, LV.le.refl _, rfl, trivial⟩, ⟨⟨_, rfl, LO.le.refl _⟩, rfl, rfl, ⟨_, rfl, LO.le.refl _⟩, rfl, rfl, ⟨_, rfl, LO.le.refl _⟩, rfl, rfl, ⟨_, rfl, LO.le.refl _⟩, rfl, rfl, ⟨_, rfl, LO.le.refl _⟩, rfl, rfl, trivial⟩⟩ ?_
          refine DrawA.run Tryz.tabOk Tryz.mixed [0, 0, 2, 6, 14, 0, 32, 96, 224, 0, 512, 1536, 3584, 0, 0, 16384, 49152, 122880, 253952, 516096, 0, 0, 2097152, 6291456, 15982592, 32759808, 66314240, 134217727] [27] rfl ?_
          refine ⟨_, ⟨LV.le.refl _, rfl⟩, ?_⟩
          refine ⟨_, ⟨LV.le.refl _, rfl⟩, ?_⟩
          refine ⟨.v (.int .i64 ((i + 1 : Nat) : Int)), ⟨LV.le.int (by rw [w64 (by omega) (by omega)]; omega), rfl⟩, ?_⟩
          refine ⟨.v (.int .i64 (((i + 1) % 4 : Nat) : Int)), ⟨by decide, LV.le.int (by rw [Int.tmod_eq_emod_of_nonneg (by omega)]; omega), rfl⟩, ?_⟩
          refine ⟨.v (.int .i64 ((4 + (i + 1) % 4 : Nat) : Int)), ⟨LV.le.int (by rw [w64 (by omega) (by omega)]; omega), rfl⟩, ?_⟩
          refine ⟨_, ⟨LV.le.refl _, rfl⟩, ?_⟩
          refine ⟨.v (.int .i64 ((i + 2 : Nat) : Int)), ⟨LV.le.int (by rw [w64 (by omega) (by omega)]; omega), rfl⟩, ?_⟩
          refine ⟨.v (.int .i64 (((i + 2) % 4 : Nat) : Int)), ⟨by decide, LV.le.int (by rw [Int.tmod_eq_emod_of_nonneg (by omega)]; omega), rfl⟩, ?_⟩
          refine ⟨.v (.int .i64 ((8 + (i + 2) % 4 : Nat) : Int)), ⟨LV.le.int (by rw [w64 (by omega) (by omega)]; omega), rfl⟩, ?_⟩
          refine ⟨_, ⟨LV.le.refl _, rfl⟩, ?_⟩
          refine ⟨.v (.int .i64 ((i + 3 : Nat) : Int)), ⟨LV.le.int (by rw [w64 (by omega) (by omega)]; omega), rfl⟩, ?_⟩
          refine ⟨.v (.int .i64 (((i + 3) % 4 : Nat) : Int)), ⟨by decide, LV.le.int (by rw [Int.tmod_eq_emod_of_nonneg (by omega)]; omega), rfl⟩, ?_⟩
          refine ⟨.v (.int .i64 ((12 + (i + 3) % 4 : Nat) : Int)), ⟨LV.le.int (by rw [w64 (by omega) (by omega)]; omega), rfl⟩, ?_⟩
          refine ⟨_, ⟨LV.le.refl _, rfl⟩, ?_⟩
          refine ⟨_, ⟨LV.le.refl _, rfl⟩, ?_⟩
          refine ⟨.v (.int .i64 ((2 * i : Nat) : Int)), ⟨LV.le.int (by rw [w64 (by omega) (by omega)]; omega), rfl⟩, ?_⟩
          refine ⟨.v (.int .i64 ((8 + 2 * i : Nat) : Int)), ⟨LV.le.int (by rw [w64 (by omega) (by omega)]; omega), rfl⟩, ?_⟩
          refine ⟨_, Ct.callC (hrow_ct r (8 + 2 * i) hr (by omega)) rfl (leL.refl _) ⟨LV.le.refl _, rfl⟩, ?_⟩
          refine ⟨.lp 2 (rowN16 r (8 + 2 * i)), ⟨rowF_ix r (8 + 2 * i) hr (by omega), LV.le.eq (congrArg (LV.lp 2) (by show 0 + (rowF r (8 + 2 * i)).toNat * 1 = _; rw [Nat.mul_one, Nat.zero_add]; rfl)), rfl⟩, ?_⟩
          refine ⟨_, stepF_load rfl rfl rfl rfl rfl rfl (nth16 M _ (rowN16_lt r (8 + 2 * i) hr (by omega))) (LV.le.refl _), ?_⟩
          refine ⟨_, ⟨LV.le.refl _, rfl⟩, ?_⟩
          refine ⟨_, ⟨LV.le.refl _, rfl⟩, ?_⟩
          refine ⟨.v (.int .i64 ((2 * i : Nat) : Int)), ⟨LV.le.int (by rw [w64 (by omega) (by omega)]; omega), rfl⟩, ?_⟩
          refine ⟨.v (.int .i64 ((9 + 2 * i : Nat) : Int)), ⟨LV.le.int (by rw [w64 (by omega) (by omega)]; omega), rfl⟩, ?_⟩
          refine ⟨_, Ct.callC (hrow_ct r (9 + 2 * i) hr (by omega)) rfl (leL.refl _) ⟨LV.le.refl _, rfl⟩, ?_⟩
          refine ⟨.lp 2 (rowN16 r (9 + 2 * i)), ⟨rowF_ix r (9 + 2 * i) hr (by omega), LV.le.eq (congrArg (LV.lp 2) (by show 0 + (rowF r (9 + 2 * i)).toNat * 1 = _; rw [Nat.mul_one, Nat.zero_add]; rfl)), rfl⟩, ?_⟩
          refine ⟨_, stepF_load rfl rfl rfl rfl rfl rfl (nth16 M _ (rowN16_lt r (9 + 2 * i) hr (by omega))) (LV.le.refl _), ?_⟩
          refine ⟨_, _, mix_ca _ _ H zeroV H0 M (stepB M r W i) (i) (4 + (i + 1) % 4) (8 + (i + 2) % 4) (12 + (i + 3) % 4) _ _ (by omega) (by omega) (by omega) (by omega) ⟨LV.le.refl _, rfl⟩, ?_⟩
          refine ⟨True.intro, ?_⟩
          exact ⟨i + 1, (by omega : i + 1 ≤ 4), (by omega : 4 - (i + 1) < 4 - i), .le ⟨rfl, ⟨rfl, Nat.le_refl _⟩, ⟨LV.le.int e11, rfl, LV.le.refl _, rfl, LV.le.refl _, rfl, LV.le.refl _, rfl, LV.le.refl _, rfl, LV.le.refl _, rfl, LV.le.refl _, rfl, trivial⟩, ⟨⟨_, rfl, LO.le.refl _⟩, rfl, rfl, ⟨_, rfl, LO.le.refl _⟩, rfl, rfl, ⟨_, rfl, LO.le.refl _⟩, rfl, rfl, ⟨_, rfl, LO.le.refl _⟩, rfl, rfl, ⟨_, rfl, LO.le.refl _⟩, rfl, rfl, trivial⟩⟩⟩
        · have hi : i ≤ 4 := hi
          have h := dF h
          have h : ¬ (i : Int) < 4 := h
          obtain rfl : i = 4 := by omega
          clear hi h
          exact ⟨r + 1, (by omega : r + 1 ≤ 10), (by omega : 10 - (r + 1) < 10 - r), .le ⟨rfl, ⟨rfl, Nat.le_refl _⟩, ⟨LV.le.int e10, rfl, LV.le.refl _, rfl, LV.le.refl _, rfl, LV.le.refl _, rfl, LV.le.refl _, rfl, trivial⟩, ⟨⟨_, rfl, LO.le.refl _⟩, rfl, rfl, ⟨_, rfl, by rw [hR]; exact LO.le.refl _⟩, rfl, rfl, ⟨_, rfl, LO.le.refl _⟩, rfl, rfl, ⟨_, rfl, LO.le.refl _⟩, rfl, rfl, ⟨_, rfl, LO.le.refl _⟩, rfl, rfl, trivial⟩⟩⟩
    · have hr : r ≤ 10 := hr
      have h := dF h
      have h : ¬ (r : Int) < 10 := h
      obtain rfl : r = 10 := by omega
      clear hr h
      generalize roundsF M (V1 H c false) 10 = V
      refine ⟨Nat, fun i => ⟨[(114, .v (.int .i64 (i : Int))), (11, .lp 3 0), (4, .lp 0 0), (8, .lp 1 0)], [(4, .box 117 (L8 H0)), (3, .box 66 (L16 (V))), (2, .box 66 (L16 M)), (1, .box 117 (L8 zeroV)), (0, .box 117 (L8 (endF H V i)))], 5, 0⟩, fun i => i ≤ 8, fun i => 8 - i, 0, Nat.zero_le _, .le ⟨rfl, ⟨rfl, Nat.le_refl _⟩, ⟨LV.le.refl _, rfl, LV.le.refl _, rfl, LV.le.refl _, rfl, LV.le.refl _, rfl, trivial⟩, ⟨⟨_, rfl, LO.le.refl _⟩, rfl, rfl, ⟨_, rfl, LO.le.refl _⟩, rfl, rfl, ⟨_, rfl, LO.le.refl _⟩, rfl, rfl, ⟨_, rfl, LO.le.refl _⟩, rfl, rfl, ⟨_, rfl, LO.le.refl _⟩, rfl, rfl, trivial⟩⟩, fun i hi => ⟨fun h => ?_, fun h => ?_⟩⟩
      · have h := dT h
        have h : (i : Int) < 8 := h
        have hi8 : i < 8 := by omega
        have e11 : IntKind.i64.wrap ((i : Int) + 1) = ((i + 1 : Nat) : Int) := by rw [w64] <;> omega
        refine DrawA.le (T := Tryz.tab) (st' := ⟨[(16, .v (.int .i64 (i : Int))), (114, .v (.int .i64 (i : Int))), (116, .v (.int .i64 (i : Int))), (11, .lp 3 0), (4, .lp 0 0), (8, .lp 1 0)], [(4, .box 117 (L8 H0)), (3, .box 66 (L16 (V))), (2, .box 66 (L16 M)), (1, .box 117 (L8 zeroV)), (0, .box 117 (L8 (endF H V i)))], 5, 0⟩) ⟨rfl, ⟨rfl, Nat.le_refl _⟩, ⟨LV.le.refl _, rfl, LV.le.refl _, rfl, LV.le.refl _, rfl, LV.le.refl _, rfl, LV.le.refl _, rfl, LV.le.refl _, rfl, trivial⟩, ⟨⟨_, rfl, LO.le.refl _⟩, rfl, rfl, ⟨_, rfl, LO.le.refl _⟩, rfl, rfl, ⟨_, rfl, LO.le.refl _⟩, rfl, rfl, ⟨_, rfl, LO.le.refl _⟩, rfl, rfl, ⟨_, rfl, LO.le.refl _⟩, rfl, rfl, trivial⟩⟩ ?_
        refine DrawA.run Tryz.tabOk Tryz.mixed [0, 1, 3, 0, 8, 24, 0, 64, 192, 448, 1016, 2047, 4095, 8191] [13] rfl ?_
        refine ⟨_, ⟨LV.le.refl _, rfl⟩, ?_⟩
        refine ⟨.lp 0 (i), ⟨⟨by omega, by omega⟩, LV.le.eq (congrArg (LV.lp 0) (by show 0 + ((i : Nat) : Int).toNat * 1 = _; omega)), rfl⟩, ?_⟩
        refine ⟨_, stepF_load rfl rfl rfl rfl rfl rfl (nth8 (endF H V i) i hi8) (LV.le.refl _), ?_⟩
        refine ⟨_, ⟨LV.le.refl _, rfl⟩, ?_⟩
        refine ⟨.lp 3 (i), ⟨⟨by omega, by omega⟩, LV.le.eq (congrArg (LV.lp 3) (by show 0 + ((i : Nat) : Int).toNat * 1 = _; omega)), rfl⟩, ?_⟩
        refine ⟨_, stepF_load rfl rfl rfl rfl rfl rfl (nth16 V i (by omega)) (LV.le.refl _), ?_⟩
        refine ⟨_, ⟨LV.le.refl _, rfl⟩, ?_⟩
        refine ⟨.v (.int .i64 ((i + 8 : Nat) : Int)), ⟨LV.le.int (by rw [w64 (by omega) (by omega)]; omega), rfl⟩, ?_⟩
        refine ⟨.lp 3 (i + 8), ⟨⟨by omega, by omega⟩, LV.le.eq (congrArg (LV.lp 3) (by show 0 + ((i + 8 : Nat) : Int).toNat * 1 = _; omega)), rfl⟩, ?_⟩
        refine ⟨_, stepF_load rfl rfl rfl rfl rfl rfl (nth16 V (i + 8) (by omega)) (LV.le.refl _), ?_⟩
        refine ⟨_, ⟨LV.le.refl _, rfl⟩, ?_⟩
        refine ⟨_, ⟨LV.le.refl _, rfl⟩, ?_⟩
        refine ⟨.lp 0 (i), ⟨⟨by omega, by omega⟩, LV.le.eq (congrArg (LV.lp 0) (by show 0 + ((i : Nat) : Int).toNat * 1 = _; omega)), rfl⟩, ?_⟩
        refine ⟨_, _, stepF_store rfl rfl rfl rfl rfl rfl rfl rfl (ble8 hi8) (set8 (endF H V i) _ i hi8), ?_⟩
        refine ⟨True.intro, ?_⟩
        exact ⟨i + 1, (by omega : i + 1 ≤ 8), (by omega : 8 - (i + 1) < 8 - i), .le ⟨rfl, ⟨rfl, Nat.le_refl _⟩, ⟨LV.le.int e11, rfl, LV.le.refl _, rfl, LV.le.refl _, rfl, LV.le.refl _, rfl, trivial⟩, ⟨⟨_, rfl, LO.le.refl _⟩, rfl, rfl, ⟨_, rfl, LO.le.refl _⟩, rfl, rfl, ⟨_, rfl, LO.le.refl _⟩, rfl, rfl, ⟨_, rfl, LO.le.refl _⟩, rfl, rfl, ⟨_, rfl, LO.le.refl _⟩, rfl, rfl, trivial⟩⟩⟩
      · have hi : i ≤ 8 := hi
        have h := dF h
        have h : ¬ (i : Int) < 8 := h
        obtain rfl : i = 8 := by omega
        exact ⟨LV.le.refl _, rfl⟩
  | true =>
    refine ⟨⟨by decide, by decide⟩, ⟨⟨by decide, by decide⟩, ⟨⟨by decide, by decide⟩, ⟨by decide, ⟨⟨by decide, by decide⟩, ⟨⟨by decide, by decide⟩, ⟨⟨by decide, by decide⟩, ?_⟩⟩⟩⟩⟩⟩⟩
    refine ⟨Nat, fun r => ⟨[(53, .v (.int .i64 (r : Int))), (9, .lp 2 0), (11, .lp 3 0), (4, .lp 0 0), (8, .lp 1 0)], [(4, .box 117 (L8 H0)), (3, .box 66 (L16 (roundsF M (V1 H c true) r))), (2, .box 66 (L16 M)), (1, .box 117 (L8 zeroV)), (0, .box 117 (L8 (H)))], 5, 0⟩, fun r => r ≤ 10, fun r => 10 - r, 0, Nat.zero_le _, .le ⟨rfl, ⟨rfl, Nat.le_refl _⟩, ⟨LV.le.refl _, rfl, LV.le.refl _, rfl, LV.le.refl _, rfl, LV.le.refl _, rfl, LV.le.refl _, rfl, trivial⟩, ⟨⟨_, rfl, LO.le.refl _⟩, rfl, rfl, ⟨_, rfl, LO.le.refl _⟩, rfl, rfl, ⟨_, rfl, LO.le.refl _⟩, rfl, rfl, ⟨_, rfl, LO.le.refl _⟩, rfl, rfl, ⟨_, rfl, LO.le.refl _⟩, rfl, rfl, trivial⟩⟩, fun r hr => ⟨fun h => ?_, fun h => ?_⟩⟩
    · have h := dT h
      have h : (r : Int) < 10 := h
      have e10 : IntKind.i64.wrap ((r : Int) + 1) = ((r + 1 : Nat) : Int) := by rw [w64] <;> omega
      have hr : r < 10 := by omega
      have hR : roundsF M (V1 H c true) (r + 1) = stepB M r (stepA M r (roundsF M (V1 H c true) r) 4) 4 := rfl
      generalize roundsF M (V1 H c true) r = V at hR ⊢
      refine ⟨Nat, fun i => ⟨[(56, .v (.int .i64 (i : Int))), (53, .v (.int .i64 (r : Int))), (13, .v (.int .i64 (r : Int))), (9, .lp 2 0), (11, .lp 3 0), (4, .lp 0 0), (8, .lp 1 0)], [(4, .box 117 (L8 H0)), (3, .box 66 (L16 (stepA M r V i))), (2, .box 66 (L16 M)), (1, .box 117 (L8 zeroV)), (0, .box 117 (L8 (H)))], 5, 0⟩, fun i => i ≤ 4, fun i => 4 - i, 0, Nat.zero_le _, .le ⟨rfl, ⟨rfl, Nat.le_refl _⟩, ⟨LV.le.refl _, rfl, LV.le.refl _, rfl, LV.le.refl _, rfl, LV.le.refl _, rfl, LV.le.refl _, rfl, LV.le.refl _, rfl, LV.le.refl _, rfl, trivial⟩, ⟨⟨_, rfl, LO.le.refl _⟩, rfl, rfl, ⟨_, rfl, LO.le.refl _⟩, rfl, rfl, ⟨_, rfl, LO.le.refl _⟩, rfl, rfl, ⟨_, rfl, LO.le.refl _⟩, rfl, rfl, ⟨_, rfl, LO.le.refl _⟩, rfl, rfl, trivial⟩⟩, fun i hi => ⟨fun h => ?_, fun h => ?_⟩⟩
      · have h := dT h
        have h : (i : Int) < 4 := h
        have e11 : IntKind.i64.wrap ((i : Int) + 1) = ((i + 1 : Nat) : Int) := by rw [w64] <;> omega
        refine DrawA.le (T := Tryz.tab) (st' := ⟨[(14, .v (.int .i64 (i : Int))), (56, .v (.int .i64 (i : Int))), (53, .v (.int .i64 (r : Int))), (13, .v (.int .i64 (r : Int))), (9, .lp 2 0), (11, .lp 3 0), (4, .lp 0 0), (8, .lp 1 0)], [(4, .box 117 (L8 H0)), (3, .box 66 (L16 (stepA M r V i))), (2, .box 66 (L16 M)), (1, .box 117 (L8 zeroV)), (0, .box 117 (L8 (H)))], 5, 0⟩) ⟨rfl, ⟨rfl, Nat.le_refl _⟩, ⟨LV.le.refl _, rfl, LV.le.refl _, rfl, LV.le.refl _, rfl, LV.le.refl _, rfl, LV.le.refl _, rfl, LV.le.refl _, rfl, LV.le.refl _, rfl, LV.le.refl _, rfl, trivial⟩, ⟨⟨_, rfl, LO.le.refl _⟩, rfl, rfl, ⟨_, rfl, LO.le.refl _⟩, rfl, rfl, ⟨_, rfl, LO.le.refl _⟩, rfl, rfl, ⟨_, rfl, LO.le.refl _⟩, rfl, rfl, ⟨_, rfl, LO.le.refl _⟩, rfl, rfl, trivial⟩⟩ ?_
        refine DrawA.run Tryz.tabOk Tryz.mixed [0, 0, 2, 0, 8, 0, 32, 0, 0, 256, 896, 1920, 3968, 0, 0, 16384, 49152, 124800, 255872, 518016, 1048575] [20] rfl ?_
        refine ⟨_, ⟨LV.le.refl _, rfl⟩, ?_⟩
        refine ⟨_, ⟨LV.le.refl _, rfl⟩, ?_⟩
        refine ⟨.v (.int .i64 ((4 + i : Nat) : Int)), ⟨LV.le.int (by rw [w64 (by omega) (by omega)]; omega), rfl⟩, ?_⟩
        refine ⟨_, ⟨LV.le.refl _, rfl⟩, ?_⟩
        refine ⟨.v (.int .i64 ((8 + i : Nat) : Int)), ⟨LV.le.int (by rw [w64 (by omega) (by omega)]; omega), rfl⟩, ?_⟩
        refine ⟨_, ⟨LV.le.refl _, rfl⟩, ?_⟩
        refine ⟨.v (.int .i64 ((12 + i : Nat) : Int)), ⟨LV.le.int (by rw [w64 (by omega) (by omega)]; omega), rfl⟩, ?_⟩
        refine ⟨_, ⟨LV.le.refl _, rfl⟩, ?_⟩
        refine ⟨_, ⟨LV.le.refl _, rfl⟩, ?_⟩
        refine ⟨.v (.int .i64 ((2 * i : Nat) : Int)), ⟨LV.le.int (by rw [w64 (by omega) (by omega)]; omega), rfl⟩, ?_⟩
        refine ⟨_, Ct.callC (hrow_ct r (2 * i) hr (by omega)) rfl (leL.refl _) ⟨LV.le.refl _, rfl⟩, ?_⟩
        refine ⟨.lp 2 (rowN16 r (2 * i)), ⟨rowF_ix r (2 * i) hr (by omega), LV.le.eq (congrArg (LV.lp 2) (by show 0 + (rowF r (2 * i)).toNat * 1 = _; rw [Nat.mul_one, Nat.zero_add]; rfl)), rfl⟩, ?_⟩
        refine ⟨_, stepF_load rfl rfl rfl rfl rfl rfl (nth16 M _ (rowN16_lt r (2 * i) hr (by omega))) (LV.le.refl _), ?_⟩
        refine ⟨_, ⟨LV.le.refl _, rfl⟩, ?_⟩
        refine ⟨_, ⟨LV.le.refl _, rfl⟩, ?_⟩
        refine ⟨.v (.int .i64 ((2 * i : Nat) : Int)), ⟨LV.le.int (by rw [w64 (by omega) (by omega)]; omega), rfl⟩, ?_⟩
        refine ⟨.v (.int .i64 ((2 * i + 1 : Nat) : Int)), ⟨LV.le.int (by rw [w64 (by omega) (by omega)]; omega), rfl⟩, ?_⟩
        refine ⟨_, Ct.callC (hrow_ct r (2 * i + 1) hr (by omega)) rfl (leL.refl _) ⟨LV.le.refl _, rfl⟩, ?_⟩
        refine ⟨.lp 2 (rowN16 r (2 * i + 1)), ⟨rowF_ix r (2 * i + 1) hr (by omega), LV.le.eq (congrArg (LV.lp 2) (by show 0 + (rowF r (2 * i + 1)).toNat * 1 = _; rw [Nat.mul_one, Nat.zero_add]; rfl)), rfl⟩, ?_⟩
        refine ⟨_, stepF_load rfl rfl rfl rfl rfl rfl (nth16 M _ (rowN16_lt r (2 * i + 1) hr (by omega))) (LV.le.refl _), ?_⟩
        refine ⟨_, _, mix_ca _ _ H zeroV H0 M (stepA M r V i) (i) (4 + i) (8 + i) (12 + i) _ _ (by omega) (by omega) (by omega) (by omega) ⟨LV.le.refl _, rfl⟩, ?_⟩
        refine ⟨True.intro, ?_⟩
        exact ⟨i + 1, (by omega : i + 1 ≤ 4), (by omega : 4 - (i + 1) < 4 - i), .le ⟨rfl, ⟨rfl, Nat.le_refl _⟩, ⟨LV.le.int e11, rfl, LV.le.refl _, rfl, LV.le.refl _, rfl, LV.le.refl _, rfl, LV.le.refl _, rfl, LV.le.refl _, rfl, LV.le.refl _, rfl, trivial⟩, ⟨⟨_, rfl, LO.le.refl _⟩, rfl, rfl, ⟨_, rfl, LO.le.refl _⟩, rfl, rfl, ⟨_, rfl, LO.le.refl _⟩, rfl, rfl, ⟨_, rfl, LO.le.refl _⟩, rfl, rfl, ⟨_, rfl, LO.le.refl _⟩, rfl, rfl, trivial⟩⟩⟩
      · have hi : i ≤ 4 := hi
        have h := dF h
        have h : ¬ (i : Int) < 4 := h
        obtain rfl : i = 4 := by omega
        clear hi h
        generalize hW : stepA M r V 4 = W at hR ⊢
        clear hW
        refine ⟨Nat, fun i => ⟨[(81, .v (.int .i64 (i : Int))), (53, .v (.int .i64 (r : Int))), (13, .v (.int .i64 (r : Int))), (9, .lp 2 0), (11, .lp 3 0), (4, .lp 0 0), (8, .lp 1 0)], [(4, .box 117 (L8 H0)), (3, .box 66 (L16 (stepB M r W i))), (2, .box 66 (L16 M)), (1, .box 117 (L8 zeroV)), (0, .box 117 (L8 (H)))], 5, 0⟩, fun i => i ≤ 4, fun i => 4 - i, 0, Nat.zero_le _, .le ⟨rfl, ⟨rfl, Nat.le_refl _⟩, ⟨LV.le.refl _, rfl, LV.le.refl _, rfl, LV.le.refl _, rfl, LV.le.refl _, rfl, LV.le.refl _, rfl, LV.le.refl _, rfl, LV.le.refl _, rfl, trivial⟩, ⟨⟨_, rfl, LO.le.refl _⟩, rfl, rfl, ⟨_, rfl, LO.le.refl _⟩, rfl, rfl, ⟨_, rfl, LO.le.refl _⟩, rfl, rfl, ⟨_, rfl, LO.le.refl _⟩, rfl, rfl, ⟨_, rfl, LO.le.refl _⟩, rfl, rfl, trivial⟩⟩, fun i hi => ⟨fun h => ?_, fun h => ?_⟩⟩
        · have h := dT h
          have h : (i : Int) < 4 := h
          have e11 : IntKind.i64.wrap ((i : Int) + 1) = ((i + 1 : Nat) : Int) := by rw [w64] <;> omega
          refine DrawA.le (T := Tryz.tab) (st' := ⟨[(15, .v (.int .i64 (i : Int))), (81, .v (.int .i64 (i : Int))), (53, .v (.int .i64 (r : Int))), (13, .v (.int .i64 (r : Int))), (9, .lp 2 0), (11, .lp 3 0), (4, .lp 0 0), (8, .lp 1 0)], [(4, .box 117 (L8 H0)), (3, .box 66 (L16 (stepB M r W i))), (2, .box 66 (L16 M)), (1, .box 117 (L8 zeroV)), (0, .box 117 (L8 (H)))], 5, 0⟩) ⟨rfl, ⟨rfl, Nat.le_refl _⟩, ⟨LV.le.refl _, rfl, LV.le.refl _, rfl, LV.le.refl _, rfl, LV.le.refl _, rfl, LV.le.refl _, rfl, LV.le.refl _, rfl, LV.le.refl _, rfl, LV.le.refl _, rfl, trivial⟩, ⟨⟨_, rfl, LO.le.refl _⟩, rfl, rfl, ⟨_, rfl, LO.le.refl _⟩, rfl, rfl, ⟨_, rfl, LO.le.refl _⟩, rfl, rfl, ⟨_, rfl, LO.le.refl _⟩, rfl, rfl, ⟨_, rfl, LO.le.refl _⟩, rfl, rfl, trivial⟩⟩ ?_
          refine DrawA.run Tryz.tabOk Tryz.mixed [0, 0, 2, 6, 14, 0, 32, 96, 224, 0, 512, 1536, 3584, 0, 0, 16384, 49152, 122880, 253952, 516096, 0, 0, 2097152, 6291456, 15982592, 32759808, 66314240, 134217727] [27] rfl ?_
          refine ⟨_, ⟨LV.le.refl _, rfl⟩, ?_⟩
          refine ⟨_, ⟨LV.le.refl _, rfl⟩, ?_⟩
          refine ⟨.v (.int .i64 ((i + 1 : Nat) : Int)), ⟨LV.le.int (by rw [w64 (by omega) (by omega)]; omega), rfl⟩, ?_⟩
          refine ⟨.v (.int .i64 (((i + 1) % 4 : Nat) : Int)), ⟨by decide, LV.le.int (by rw [Int.tmod_eq_emod_of_nonneg (by omega)]; omega), rfl⟩, ?_⟩
          refine ⟨.v (.int .i64 ((4 + (i + 1) % 4 : Nat) : Int)), ⟨LV.le.int (by rw [w64 (by omega) (by omega)]; omega), rfl⟩, ?_⟩
          refine ⟨_, ⟨LV.le.refl _, rfl⟩, ?_⟩
          refine ⟨.v (.int .i64 ((i + 2 : Nat) : Int)), ⟨LV.le.int (by rw [w64 (by omega) (by omega)]; omega), rfl⟩, ?_⟩
          refine ⟨.v (.int .i64 (((i + 2) % 4 : Nat) : Int)), ⟨by decide, LV.le.int (by rw [Int.tmod_eq_emod_of_nonneg (by omega)]; omega), rfl⟩, ?_⟩
          refine ⟨.v (.int .i64 ((8 + (i + 2) % 4 : Nat) : Int)), ⟨LV.le.int (by rw [w64 (by omega) (by omega)]; omega), rfl⟩, ?_⟩
          refine ⟨_, ⟨LV.le.refl _, rfl⟩, ?_⟩
          refine ⟨.v (.int .i64 ((i + 3 : Nat) : Int)), ⟨LV.le.int (by rw [w64 (by omega) (by omega)]; omega), rfl⟩, ?_⟩
          refine ⟨.v (.int .i64 (((i + 3) % 4 : Nat) : Int)), ⟨by decide, LV.le.int (by rw [Int.tmod_eq_emod_of_nonneg (by omega)]; omega), rfl⟩, ?_⟩
          refine ⟨.v (.int .i64 ((12 + (i + 3) % 4 : Nat) : Int)), ⟨LV.le.int (by rw [w64 (by omega) (by omega)]; omega), rfl⟩, ?_⟩
          refine ⟨_, ⟨LV.le.refl _, rfl⟩, ?_⟩
          refine ⟨_, ⟨LV.le.refl _, rfl⟩, ?_⟩
          refine ⟨.v (.int .i64 ((2 * i : Nat) : Int)), ⟨LV.le.int (by rw [w64 (by omega) (by omega)]; omega), rfl⟩, ?_⟩
          refine ⟨.v (.int .i64 ((8 + 2 * i : Nat) : Int)), ⟨LV.le.int (by rw [w64 (by omega) (by omega)]; omega), rfl⟩, ?_⟩
          refine ⟨_, Ct.callC (hrow_ct r (8 + 2 * i) hr (by omega)) rfl (leL.refl _) ⟨LV.le.refl _, rfl⟩, ?_⟩
          refine ⟨.lp 2 (rowN16 r (8 + 2 * i)), ⟨rowF_ix r (8 + 2 * i) hr (by omega), LV.le.eq (congrArg (LV.lp 2) (by show 0 + (rowF r (8 + 2 * i)).toNat * 1 = _; rw [Nat.mul_one, Nat.zero_add]; rfl)), rfl⟩, ?_⟩
          refine ⟨_, stepF_load rfl rfl rfl rfl rfl rfl (nth16 M _ (rowN16_lt r (8 + 2 * i) hr (by omega))) (LV.le.refl _), ?_⟩
          refine ⟨_, ⟨LV.le.refl _, rfl⟩, ?_⟩
          refine ⟨_, ⟨LV.le.refl _, rfl⟩, ?_⟩
          refine ⟨.v (.int .i64 ((2 * i : Nat) : Int)), ⟨LV.le.int (by rw [w64 (by omega) (by omega)]; omega), rfl⟩, ?_⟩
          refine ⟨.v (.int .i64 ((9 + 2 * i : Nat) : Int)), ⟨LV.le.int (by rw [w64 (by omega) (by omega)]; omega), rfl⟩, ?_⟩
          refine ⟨_, Ct.callC (hrow_ct r (9 + 2 * i) hr (by omega)) rfl (leL.refl _) ⟨LV.le.refl _, rfl⟩, ?_⟩
          refine ⟨.lp 2 (rowN16 r (9 + 2 * i)), ⟨rowF_ix r (9 + 2 * i) hr (by omega), LV.le.eq (congrArg (LV.lp 2) (by show 0 + (rowF r (9 + 2 * i)).toNat * 1 = _; rw [Nat.mul_one, Nat.zero_add]; rfl)), rfl⟩, ?_⟩
          refine ⟨_, stepF_load rfl rfl rfl rfl rfl rfl (nth16 M _ (rowN16_lt r (9 + 2 * i) hr (by omega))) (LV.le.refl _), ?_⟩
          refine ⟨_, _, mix_ca _ _ H zeroV H0 M (stepB M r W i) (i) (4 + (i + 1) % 4) (8 + (i + 2) % 4) (12 + (i + 3) % 4) _ _ (by omega) (by omega) (by omega) (by omega) ⟨LV.le.refl _, rfl⟩, ?_⟩
          refine ⟨True.intro, ?_⟩
          exact ⟨i + 1, (by omega : i + 1 ≤ 4), (by omega : 4 - (i + 1) < 4 - i), .le ⟨rfl, ⟨rfl, Nat.le_refl _⟩, ⟨LV.le.int e11, rfl, LV.le.refl _, rfl, LV.le.refl _, rfl, LV.le.refl _, rfl, LV.le.refl _, rfl, LV.le.refl _, rfl, LV.le.refl _, rfl, trivial⟩, ⟨⟨_, rfl, LO.le.refl _⟩, rfl, rfl, ⟨_, rfl, LO.le.refl _⟩, rfl, rfl, ⟨_, rfl, LO.le.refl _⟩, rfl, rfl, ⟨_, rfl, LO.le.refl _⟩, rfl, rfl, ⟨_, rfl, LO.le.refl _⟩, rfl, rfl, trivial⟩⟩⟩
        · have hi : i ≤ 4 := hi
          have h := dF h
          have h : ¬ (i : Int) < 4 := h
          obtain rfl : i = 4 := by omega
          clear hi h
          exact ⟨r + 1, (by omega : r + 1 ≤ 10), (by omega : 10 - (r + 1) < 10 - r), .le ⟨rfl, ⟨rfl, Nat.le_refl _⟩, ⟨LV.le.int e10, rfl, LV.le.refl _, rfl, LV.le.refl _, rfl, LV.le.refl _, rfl, LV.le.refl _, rfl, trivial⟩, ⟨⟨_, rfl, LO.le.refl _⟩, rfl, rfl, ⟨_, rfl, by rw [hR]; exact LO.le.refl _⟩, rfl, rfl, ⟨_, rfl, LO.le.refl _⟩, rfl, rfl, ⟨_, rfl, LO.le.refl _⟩, rfl, rfl, ⟨_, rfl, LO.le.refl _⟩, rfl, rfl, trivial⟩⟩⟩
    · have hr : r ≤ 10 := hr
      have h := dF h
      have h : ¬ (r : Int) < 10 := h
      obtain rfl : r = 10 := by omega
      clear hr h
      generalize roundsF M (V1 H c true) 10 = V
      refine ⟨Nat, fun i => ⟨[(114, .v (.int .i64 (i : Int))), (11, .lp 3 0), (4, .lp 0 0), (8, .lp 1 0)], [(4, .box 117 (L8 H0)), (3, .box 66 (L16 (V))), (2, .box 66 (L16 M)), (1, .box 117 (L8 zeroV)), (0, .box 117 (L8 (endF H V i)))], 5, 0⟩, fun i => i ≤ 8, fun i => 8 - i, 0, Nat.zero_le _, .le ⟨rfl, ⟨rfl, Nat.le_refl _⟩, ⟨LV.le.refl _, rfl, LV.le.refl _, rfl, LV.le.refl _, rfl, LV.le.refl _, rfl, trivial⟩, ⟨⟨_, rfl, LO.le.refl _⟩, rfl, rfl, ⟨_, rfl, LO.le.refl _⟩, rfl, rfl, ⟨_, rfl, LO.le.refl _⟩, rfl, rfl, ⟨_, rfl, LO.le.refl _⟩, rfl, rfl, ⟨_, rfl, LO.le.refl _⟩, rfl, rfl, trivial⟩⟩, fun i hi => ⟨fun h => ?_, fun h => ?_⟩⟩
      · have h := dT h
        have h : (i : Int) < 8 := h
        have hi8 : i < 8 := by omega
        have e11 : IntKind.i64.wrap ((i : Int) + 1) = ((i + 1 : Nat) : Int) := by rw [w64] <;> omega
        refine DrawA.le (T := Tryz.tab) (st' := ⟨[(16, .v (.int .i64 (i : Int))), (114, .v (.int .i64 (i : Int))), (116, .v (.int .i64 (i : Int))), (11, .lp 3 0), (4, .lp 0 0), (8, .lp 1 0)], [(4, .box 117 (L8 H0)), (3, .box 66 (L16 (V))), (2, .box 66 (L16 M)), (1, .box 117 (L8 zeroV)), (0, .box 117 (L8 (endF H V i)))], 5, 0⟩) ⟨rfl, ⟨rfl, Nat.le_refl _⟩, ⟨LV.le.refl _, rfl, LV.le.refl _, rfl, LV.le.refl _, rfl, LV.le.refl _, rfl, LV.le.refl _, rfl, LV.le.refl _, rfl, trivial⟩, ⟨⟨_, rfl, LO.le.refl _⟩, rfl, rfl, ⟨_, rfl, LO.le.refl _⟩, rfl, rfl, ⟨_, rfl, LO.le.refl _⟩, rfl, rfl, ⟨_, rfl, LO.le.refl _⟩, rfl, rfl, ⟨_, rfl, LO.le.refl _⟩, rfl, rfl, trivial⟩⟩ ?_
        refine DrawA.run Tryz.tabOk Tryz.mixed [0, 1, 3, 0, 8, 24, 0, 64, 192, 448, 1016, 2047, 4095, 8191] [13] rfl ?_
        refine ⟨_, ⟨LV.le.refl _, rfl⟩, ?_⟩
        refine ⟨.lp 0 (i), ⟨⟨by omega, by omega⟩, LV.le.eq (congrArg (LV.lp 0) (by show 0 + ((i : Nat) : Int).toNat * 1 = _; omega)), rfl⟩, ?_⟩
        refine ⟨_, stepF_load rfl rfl rfl rfl rfl rfl (nth8 (endF H V i) i hi8) (LV.le.refl _), ?_⟩
        refine ⟨_, ⟨LV.le.refl _, rfl⟩, ?_⟩
        refine ⟨.lp 3 (i), ⟨⟨by omega, by omega⟩, LV.le.eq (congrArg (LV.lp 3) (by show 0 + ((i : Nat) : Int).toNat * 1 = _; omega)), rfl⟩, ?_⟩
        refine ⟨_, stepF_load rfl rfl rfl rfl rfl rfl (nth16 V i (by omega)) (LV.le.refl _), ?_⟩
        refine ⟨_, ⟨LV.le.refl _, rfl⟩, ?_⟩
        refine ⟨.v (.int .i64 ((i + 8 : Nat) : Int)), ⟨LV.le.int (by rw [w64 (by omega) (by omega)]; omega), rfl⟩, ?_⟩
        refine ⟨.lp 3 (i + 8), ⟨⟨by omega, by omega⟩, LV.le.eq (congrArg (LV.lp 3) (by show 0 + ((i + 8 : Nat) : Int).toNat * 1 = _; omega)), rfl⟩, ?_⟩
        refine ⟨_, stepF_load rfl rfl rfl rfl rfl rfl (nth16 V (i + 8) (by omega)) (LV.le.refl _), ?_⟩
        refine ⟨_, ⟨LV.le.refl _, rfl⟩, ?_⟩
        refine ⟨_, ⟨LV.le.refl _, rfl⟩, ?_⟩
        refine ⟨.lp 0 (i), ⟨⟨by omega, by omega⟩, LV.le.eq (congrArg (LV.lp 0) (by show 0 + ((i : Nat) : Int).toNat * 1 = _; omega)), rfl⟩, ?_⟩
        refine ⟨_, _, stepF_store rfl rfl rfl rfl rfl rfl rfl rfl (ble8 hi8) (set8 (endF H V i) _ i hi8), ?_⟩
        refine ⟨True.intro, ?_⟩
        exact ⟨i + 1, (by omega : i + 1 ≤ 8), (by omega : 8 - (i + 1) < 8 - i), .le ⟨rfl, ⟨rfl, Nat.le_refl _⟩, ⟨LV.le.int e11, rfl, LV.le.refl _, rfl, LV.le.refl _, rfl, LV.le.refl _, rfl, trivial⟩, ⟨⟨_, rfl, LO.le.refl _⟩, rfl, rfl, ⟨_, rfl, LO.le.refl _⟩, rfl, rfl, ⟨_, rfl, LO.le.refl _⟩, rfl, rfl, ⟨_, rfl, LO.le.refl _⟩, rfl, rfl, ⟨_, rfl, LO.le.refl _⟩, rfl, rfl, trivial⟩⟩⟩
      · have hi : i ≤ 8 := hi
        have h := dF h
        have h : ¬ (i : Int) < 8 := h
        obtain rfl : i = 8 := by omega
        exact ⟨LV.le.refl _, rfl⟩
end Go.Proofs.Aw

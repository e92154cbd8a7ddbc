/- A PART OF THE PROOF: an abstract run of the loaded code over value trees, and the functions walked by it. No condition of its own. -/
import Derived.Test.YtanmknmlphkeaaaGreatDoorZL1
import Derived.Test.YtanmknmlphkeaaaGreatDoorGZD12
import Derived.Lib.Bytealg
import Derived.Test.YtanmknmlphkeaaaGreatDoorGZJ2
namespace Go.Proofs.Aw
open Go Go.Proofs Go.RowKit
set_option maxHeartbeats 4000000
set_option maxRecDepth 100000
theorem Ct.ofCalls {P : Program} {f : FuncId} {args : List LV} {vs : List Value} {v : Value} {x : LV} (hf : FnOk P f) (hargs : ∀ w vo lt us, RepL (Me.base w vo lt) 0 args us → us = vs) (hx : ∀ (m : Me), Rep m 0 x v) (h : ∀ w, Calls P f vs.toArray w fun e w' => e = .returned v ∧ Below w.heap.size w w') : Ct P f args x := by
  refine ⟨hf, fun w vo lt us hu => ?_⟩
  rw [hargs w vo lt us hu]
  refine (h w).mono fun e w' he => ?_
  obtain ⟨rfl, hb⟩ := he
  exact ⟨v, fun k hk => Nat.lt_of_lt_of_le (lt k hk) hb.size, rfl, ⟨⟨hb.os, hb.tape, hb.output⟩, hb.size, fun k hk => hb.block k hk⟩, hx _⟩
theorem repeatL_one (c : Nat) : Lib.repeatL [(0 : UInt8)] c = List.replicate c 0 := by
  induction c with
  | zero => rfl
  | succ c ih => simp [Lib.repeatL, ih, List.replicate_succ]
theorem repeat_ct (c : Nat) (hc : c ≤ 1000000) : Ct Tryz.prog 107 [.str [0], .v (.int .i64 (c : Int))] (.str (List.replicate c 0)) := by
  refine Ct.ofCalls (vs := [.string ⟨#[0]⟩, .int .i64 (c : Int)]) (v := strV (List.replicate c 0)) ft107.ok (fun w vo lt us hu => ?_) (fun m => rfl) fun w => ?_
  · obtain ⟨y, r, rfl, e1, y2, r2, rfl, e2, e3⟩ := hu
    have e1 : y = strV [0] := e1
    have e2 : y2 = .int .i64 (c : Int) := e2
    have e3 : r2 = [] := e3
    subst e1; subst e2; subst e3; rfl
  · have h := Any.strings_Repeat Tryz.lays105 Tryz.extra105 ⟨#[0]⟩ c w (by omega) (by show 1 * c ≤ _; omega)
    refine h.mono fun e w' he => ?_
    obtain ⟨rfl, hb⟩ := he
    exact ⟨by rw [show (⟨#[0]⟩ : ByteArray).data.toList = [0] from rfl, repeatL_one]; rfl, hb⟩
end Go.Proofs.Aw
namespace Go.Proofs
open Go Go.RowKit
set_option maxHeartbeats 4000000
set_option maxRecDepth 100000
theorem ixb_w (s : ByteArray) (c : Int) (w : World) : Calls Tryz.prog 198 #[.string s, .int .u8 c] w fun e w' => e = .returned (.int .i64 (Lib.indexByte s.data.toList c.toNat.toUInt8)) ∧ w' = w := by
  have mixed := Tryz.mixed
  go_enter Tryz.func198, Tryz.ntmps198
  go_wp2
  rw [run_callFunc_extern Tryz.func209 (by kernel_rfl) (by kernel_rfl) (by kernel_rfl) (e := Extern.BytealgIndexByte.indexByte) (by kernel_rfl)]
  rw [Lib.run_indexByteString]
  simp only [Result.andThen]
  rw [Oper.upon_value]
  go_wp2
  go_ret
  exact ⟨rfl, rfl⟩
end Go.Proofs
namespace Go.Proofs.Aw
open Go Go.Proofs Go.RowKit
set_option maxRecDepth 100000
theorem ixb_ct (l : List UInt8) (c : UInt8) : Ct Tryz.prog 198 [.str l, .v (.int .u8 (c.toNat : Int))] (.v (.int .i64 (Lib.indexByte l c))) := by
  refine Ct.ofCalls (vs := [.string ⟨l.toArray⟩, .int .u8 (c.toNat : Int)]) (v := .int .i64 (Lib.indexByte l c)) ft198.ok (fun w vo lt us hu => ?_) (fun m => rfl) fun w => ?_
  · obtain ⟨y, r, rfl, e1, y2, r2, rfl, e2, e3⟩ := hu
    have e1 : y = strV l := e1
    have e2 : y2 = .int .u8 (c.toNat : Int) := e2
    have e3 : r2 = [] := e3
    subst e1; subst e2; subst e3; rfl
  · refine (ixb_w ⟨l.toArray⟩ (c.toNat : Int) w).mono fun e w' he => ?_
    obtain ⟨rfl, rfl⟩ := he
    have e : ((c.toNat : Int)).toNat.toUInt8 = c := by simp
    rw [e]
    exact ⟨rfl, Below.refl _ _⟩
theorem ixb2_ct (l : List UInt8) (c : UInt8) : Ct Tryz.prog 182 [.str l, .v (.int .u8 (c.toNat : Int))] (.v (.int .i64 (Lib.indexByte l c))) := by
  refine Ct.enter Tryz.tabOk ft182 ?_
  refine Ct.callC (ixb_ct l c) rfl (leL.refl _) ?_
  exact ⟨LV.le.refl _, rfl⟩
end Go.Proofs.Aw
/-! the plain law of rows of texts: what was written is read as it -/
namespace Go.Proofs.Aw
theorem rdAt_of : ∀ (f v i n : Nat) (r : List UInt8), v ≤ f → i ≤ 3 → v < 2 ^ (7 * (4 - i)) → (0 < i → v ≠ 0) → rdAt i n (lenEnc v ++ r) = .ok (n + v * 2 ^ (7 * i)) (i + (lenEnc v).length)
  | f, v, i, n, r, hf, hi, hv, h0 => by
    rw [lenEnc]
    split
    · rename_i h1
      have hx : (UInt8.ofNat v).toNat = v := by simp; omega
      simp only [List.cons_append, List.nil_append, rdAt, hx, List.length_cons, List.length_nil]
      rw [if_neg (by omega), if_pos h1, Nat.mod_eq_of_lt h1]
    · rename_i h1
      have hx : (UInt8.ofNat (v % 128 + 128)).toNat = v % 128 + 128 := by simp; omega
      have hi2 : i ≠ 3 := fun e => by subst e; simp at hv; omega
      cases f with
      | zero => omega
      | succ f =>
        have hq : v / 128 < 2 ^ (7 * (4 - (i + 1))) := by
          rcases (by omega : i = 0 ∨ i = 1 ∨ i = 2) with rfl | rfl | rfl <;> simp at hv ⊢ <;> omega
        have ih := rdAt_of f (v / 128) (i + 1) (n + v % 128 * 2 ^ (7 * i)) r (by omega) (by omega) hq (by omega)
        simp only [List.cons_append, rdAt, hx, List.length_cons]
        rw [if_neg (by omega), if_neg (by omega)]
        have e : (v % 128 + 128) % 128 = v % 128 := by omega
        rw [e, ih]
        congr 1
        · rw [Nat.mul_add 7 i 1, Nat.pow_add, Nat.add_assoc]
          congr 1
          have : v / 128 * (2 ^ (7 * i) * 2 ^ (7 * 1)) = v / 128 * 128 * 2 ^ (7 * i) := by
            rw [show (2 : Nat) ^ (7 * 1) = 128 from rfl, Nat.mul_comm (2 ^ (7 * i)) 128, ← Nat.mul_assoc]
          rw [this, ← Nat.add_mul]
          congr 1
          omega
        · omega
theorem rdT_rowL : ∀ (l : List (List UInt8)), (∀ s ∈ l, s.length < 268435456) → rdT (rowL l) = .ok l
  | [], _ => rfl
  | s :: r, h => by
    have hs := h s (by simp)
    have h1 : rdAt 0 0 (rowL (s :: r)) = .ok s.length (lenEnc s.length).length := by
      simp only [rowL]
      rw [List.append_assoc, rdAt_of s.length s.length 0 0 (s ++ rowL r) (Nat.le_refl _) (by omega) (by simpa using hs) (by omega)]
      simp
    have hl : (rowL (s :: r)).length = (lenEnc s.length).length + s.length + (rowL r).length := by simp only [rowL, List.length_append]
    rw [rdT_step h1 (by omega)]
    have hd : (rowL (s :: r)).drop ((lenEnc s.length).length + s.length) = rowL r := by
      simp only [rowL]
      rw [← List.length_append]
      exact List.drop_left
    have ht : ((rowL (s :: r)).drop (lenEnc s.length).length).take s.length = s := by
      simp only [rowL, List.append_assoc]
      rw [List.drop_left]
      exact List.take_left
    rw [hd, ht, rdT_rowL r fun t ht => h t (by simp [ht])]
    rfl
end Go.Proofs.Aw
namespace Go.Proofs.Aw
open Go Go.Proofs Go.RowKit
set_option maxHeartbeats 4000000
set_option maxRecDepth 100000
theorem rlen_ct : ∀ (f n : Nat), n ≤ f → n ≤ 1000000000 → Ct Tryz.prog 105 [.v (.int .i64 (n : Int))] (.str (lenEnc n))
  | f, n, hf, hn => by
    refine Ct.enter Tryz.tabOk ft105 ?_
    refine ⟨fun h => ?_, fun h => ?_⟩
    · have h := dT h
      have h : (n : Int) < 128 := h
      refine ⟨[UInt8.ofNat n], ⟨rfl, fun i hi => ?_⟩, ?_⟩
      · obtain rfl : i = 0 := by omega
        exact congrArg (fun z => [LV.v (.int .u8 z)]) (w8 _ n (by omega) (by omega))
      · rw [lenEnc_lt (by omega)]
        exact ⟨LV.le.refl _, rfl⟩
    · have h := dF h
      have h : ¬ (n : Int) < 128 := h
      have hge : ¬ n < 128 := by omega
      cases f with
      | zero => omega
      | succ f =>
        have ih := rlen_ct f (n / 128) (by omega) (by omega)
        have hl := lenEnc_len (n / 128) (n / 128) (Nat.le_refl _)
        have t1 : (n : Int).tmod 128 = ((n % 128 : Nat) : Int) := by rw [Int.tmod_eq_emod_of_nonneg (by omega)]; omega
        have t2 : IntKind.i64.wrap ((n : Int).tdiv 128) = ((n / 128 : Nat) : Int) := by rw [Int.tdiv_eq_ediv_of_nonneg (by omega), w64 (by omega) (by omega)]; omega
        have t3 : IntKind.i64.wrap ((n : Int).tmod 128 + 128) = ((n % 128 + 128 : Nat) : Int) := by rw [t1, w64 (by omega) (by omega)]; omega
        rw [lenEnc_ge hge]
        refine DrawA.run Tryz.tabOk Tryz.mixed [0, 1, 3, 7, 15, 31, 0, 64, 192, 511, 1023] [4] rfl ?_
        refine ⟨_, ⟨LV.le.refl _, rfl⟩, ?_⟩
        refine ⟨.v (.int .i64 ((n % 128 : Nat) : Int)), ⟨by decide, LV.le.int t1, rfl⟩, ?_⟩
        refine ⟨.v (.int .i64 ((n % 128 + 128 : Nat) : Int)), ⟨LV.le.int (by rw [w64 (by omega) (by omega)]; omega), rfl⟩, ?_⟩
        refine ⟨.v (.int .u8 ((UInt8.ofNat (n % 128 + 128)).toNat : Int)), ⟨LV.le.int (w8 _ _ (by omega) (by omega)), rfl⟩, ?_⟩
        refine ⟨_, _, ⟨LV.le.refl _, rfl⟩, ?_⟩
        refine ⟨.str [UInt8.ofNat (n % 128 + 128)], ⟨[UInt8.ofNat (n % 128 + 128)], ⟨rfl, fun i (hi : i < 1) => by
          obtain rfl : i = 0 := by omega
          rfl⟩, LV.le.refl _, rfl⟩, ?_⟩
        refine ⟨_, ⟨LV.le.refl _, rfl⟩, ?_⟩
        refine ⟨.v (.int .i64 ((n / 128 : Nat) : Int)), ⟨by decide, LV.le.int t2, rfl⟩, ?_⟩
        refine ⟨_, Ct.callC ih rfl (leL.refl _) ⟨LV.le.refl _, rfl⟩, ?_⟩
        refine ⟨_, ⟨by show 1 + (lenEnc (n / 128)).length ≤ _; omega, LV.le.refl _, rfl⟩, ?_⟩
        refine ⟨_, ⟨LV.le.refl _, rfl⟩, ?_⟩
        refine ⟨?_, ?_⟩
        · refine ⟨⟨⟨LV.le.refl _, rfl⟩, True.intro, True.intro⟩, ?_⟩
          refine ⟨⟨⟨by decide, LV.le.int t2, rfl⟩, True.intro, True.intro⟩, ?_⟩
          refine ⟨⟨Ct.callC ih rfl (leL.refl _) ⟨LV.le.refl _, rfl⟩, True.intro, True.intro⟩, ?_⟩
          exact True.intro
        exact ⟨LV.le.refl _, rfl⟩
theorem rrow_ct (n : Nat) (w : TL) (hn : n ≤ 100000000) (hl : (rowN w n).length ≤ 1000000000) : Ct Tryz.prog 70 [.sl 1 n (tx w)] (.str (rowN w n)) := by
  refine Ct.enter Tryz.tabOk ft70 ?_
  refine ⟨Nat, fun j => ⟨[(8, .v (.int .i64 (j : Int))), (7, .v (.int .i64 (n : Int))), (6, .sl 1 n (tx w)), (3, .str (rowN w j))], [], 0, 0⟩, fun j => j ≤ n, fun j => n - j, 0, Nat.zero_le _,
    .le ⟨rfl, ⟨rfl, Nat.le_refl _⟩, ⟨LV.le.refl _, rfl, LV.le.refl _, rfl, LV.le.refl _, rfl, LV.le.refl _, rfl, trivial⟩, trivial⟩, fun j hj => ⟨fun h => ?_, fun h => ?_⟩⟩
  · have h := dT h
    have h : (j : Int) < n := h
    have e11 : IntKind.i64.wrap ((j : Int) + 1) = ((j + 1 : Nat) : Int) := by rw [w64] <;> omega
    have hle := rowN_le (w := w) (i := j + 1) (n := n) (by omega)
    have hll : (rowN w (j + 1)).length = (rowN w j).length + (lenEnc (w j).length).length + (w j).length := by simp only [rowN, List.length_append]
    refine ⟨⟨by omega, by omega⟩, ?_⟩
    refine Ct.callC (rlen_ct (w j).length (w j).length (Nat.le_refl _) (by omega)) rfl (leL.refl _) ?_
    refine ⟨by show (lenEnc (w j).length).length + (w j).length ≤ _; omega, by show (rowN w j).length + (lenEnc (w j).length ++ w j).length ≤ _; rw [List.length_append]; omega, ⟨j + 1, (by omega : j + 1 ≤ n), (by omega : n - (j + 1) < n - j), .le ⟨rfl, ⟨rfl, Nat.le_refl _⟩, ⟨LV.le.int e11, rfl, LV.le.refl _, rfl, LV.le.refl _, rfl, LV.le.eq (congrArg LV.str (List.append_assoc _ _ _).symm), rfl, trivial⟩, trivial⟩⟩⟩
  · have hj : j ≤ n := hj
    have h := dF h
    have h : ¬ (j : Int) < n := h
    obtain rfl : j = n := by omega
    exact ⟨LV.le.refl _, rfl⟩
theorem rbytes_ct (n m : Nat) (a c : TL) (z : List UInt8) (hn : n ≤ 100000000) (hm : m ≤ 100000000) (h1 : (rowN a n).length ≤ 1000000000) (h2 : (rowN c m).length ≤ 1000000000) (h3 : (rowL [hibi, rowN a n, rowN c m, z]).length ≤ 1000000000) :
    Ct Tryz.prog 32 [imgL n m a c z] (.str (rowL [hibi, rowN a n, rowN c m, z])) := by
  have e4 := rowN_list [hibi, rowN a n, rowN c m, z]
  refine Ct.enter Tryz.tabOk ft32 ?_
  refine DrawA.run Tryz.tabOk Tryz.mixed [0, 1, 3, 0, 8, 31, 0, 64, 255, 511, 1023] [8] rfl ?_
  refine ⟨_, ⟨LV.le.refl _, rfl⟩, ?_⟩
  refine ⟨_, ⟨LV.le.refl _, rfl⟩, ?_⟩
  refine ⟨_, Ct.callC (rrow_ct n a hn h1) rfl (leL.refl _) ⟨LV.le.refl _, rfl⟩, ?_⟩
  refine ⟨_, ⟨LV.le.refl _, rfl⟩, ?_⟩
  refine ⟨_, ⟨LV.le.refl _, rfl⟩, ?_⟩
  refine ⟨_, Ct.callC (rrow_ct m c hm h2) rfl (leL.refl _) ⟨LV.le.refl _, rfl⟩, ?_⟩
  refine ⟨_, ⟨LV.le.refl _, rfl⟩, ?_⟩
  refine ⟨_, ⟨LV.le.refl _, rfl⟩, ?_⟩
  refine ⟨_, _, ⟨LV.le.refl _, rfl⟩, ?_⟩
  refine ⟨_, Ct.callF (rrow_ct 4 (atL [hibi, rowN a n, rowN c m, z]) (by omega) (by rw [← e4] at h3; exact h3)) rfl ⟨_, _, rfl, LV.le.sl rfl fun i hi => ?_, rfl⟩ rfl ⟨LV.le.refl _, rfl⟩, ?_⟩
  · rcases (by omega : i = 0 ∨ i = 1 ∨ i = 2 ∨ i = 3) with rfl | rfl | rfl | rfl <;> rfl
  refine ⟨_, ⟨LV.le.refl _, rfl⟩, ?_⟩
  refine ⟨True.intro, ?_⟩
  exact ⟨LV.le.eq (congrArg LV.str e4), rfl⟩
/-- no more than is gone through -/
def Sm (n m : Nat) (a c : TL) (z : List UInt8) : Prop := n ≤ 20 ∧ m ≤ 80 ∧ z.length ≤ 4000 ∧ (∀ i, i < n → (a i).length ≤ 200) ∧ ∀ i, i < m → (c i).length ≤ 200
open Classical in
theorem igreat_ct (n m : Nat) (a c : TL) (z : List UInt8) : Ct Tryz.prog 30 [imgL n m a c z] (.v (.int .i64 (if Sm n m a c z then 0 else 1))) := by
  have no : ¬ Sm n m a c z → (1 : Int) = if Sm n m a c z then 0 else 1 := fun h => by rw [if_neg h]
  refine Ct.enter Tryz.tabOk ft30 ?_
  refine ⟨fun h => ?_, fun h1 => ⟨fun h => ?_, fun h2 => ⟨fun h => ?_, fun h3 => ?_⟩⟩⟩
  · have h := dT h
    have h : (n : Int) > 20 := h
    exact ⟨LV.le.int (no fun hs => by have := hs.1; omega), rfl⟩
  · have h := dT h
    have h : (m : Int) > 80 := h
    exact ⟨LV.le.int (no fun hs => by have := hs.2.1; omega), rfl⟩
  · have h := dT h
    have h : (z.length : Int) > 4000 := h
    exact ⟨LV.le.int (no fun hs => by have := hs.2.2.1; omega), rfl⟩
  have h1 := dF h1
  have h1 : ¬ (n : Int) > 20 := h1
  have h2 := dF h2
  have h2 : ¬ (m : Int) > 80 := h2
  have h3 := dF h3
  have h3 : ¬ (z.length : Int) > 4000 := h3
  refine ⟨Nat, fun j => ⟨[(24, .v (.int .i64 (j : Int))), (23, .v (.int .i64 (n : Int))), (1, .lp 0 0)], [(0, .box 36 [.sl 1 n (tx a), .sl 1 m (tx c), .str z])], 1, 0⟩, fun j => j ≤ n ∧ ∀ i, i < j → (a i).length ≤ 200, fun j => n - j, 0, ⟨Nat.zero_le _, fun i hi => absurd hi (by omega)⟩,
    .le ⟨rfl, ⟨rfl, Nat.le_refl _⟩, ⟨LV.le.refl _, rfl, LV.le.refl _, rfl, LV.le.refl _, rfl, trivial⟩, ⟨⟨_, rfl, LO.le.refl _⟩, rfl, rfl, trivial⟩⟩, fun j hj => ⟨fun h => ?_, fun h => ?_⟩⟩
  · obtain ⟨hj1, hj2⟩ := hj
    have h := dT h
    have h : (j : Int) < n := h
    have e11 : IntKind.i64.wrap ((j : Int) + 1) = ((j + 1 : Nat) : Int) := by rw [w64] <;> omega
    refine ⟨⟨by omega, by omega⟩, ⟨fun hg => ?_, fun hg => ?_⟩⟩
    · have hg := dT hg
      have hg : ((a j).length : Int) > 200 := hg
      exact ⟨LV.le.int (no fun hs => by have := hs.2.2.2.1 j (by omega); omega), rfl⟩
    · have hg := dF hg
      have hg : ¬ ((a j).length : Int) > 200 := hg
      exact ⟨j + 1, ⟨(by omega : j + 1 ≤ n), fun i hi => by
        rcases (by omega : i < j ∨ i = j) with h4 | rfl
        · exact hj2 i h4
        · omega⟩, (by omega : n - (j + 1) < n - j), .le ⟨rfl, ⟨rfl, Nat.le_refl _⟩, ⟨LV.le.int e11, rfl, LV.le.refl _, rfl, LV.le.refl _, rfl, trivial⟩, ⟨⟨_, rfl, LO.le.refl _⟩, rfl, rfl, trivial⟩⟩⟩
  · obtain ⟨hj1, hj2⟩ := hj
    have h := dF h
    have h : ¬ (j : Int) < n := h
    obtain rfl : j = n := by omega
    refine ⟨Nat, fun q => ⟨[(38, .v (.int .i64 (q : Int))), (37, .v (.int .i64 (m : Int))), (1, .lp 0 0)], [(0, .box 36 [.sl 1 j (tx a), .sl 1 m (tx c), .str z])], 1, 0⟩, fun q => q ≤ m ∧ ∀ i, i < q → (c i).length ≤ 200, fun q => m - q, 0, ⟨Nat.zero_le _, fun i hi => absurd hi (by omega)⟩,
      .le ⟨rfl, ⟨rfl, Nat.le_refl _⟩, ⟨LV.le.refl _, rfl, LV.le.refl _, rfl, LV.le.refl _, rfl, trivial⟩, ⟨⟨_, rfl, LO.le.refl _⟩, rfl, rfl, trivial⟩⟩, fun q hq => ⟨fun h => ?_, fun h => ?_⟩⟩
    · obtain ⟨hq1, hq2⟩ := hq
      have h := dT h
      have h : (q : Int) < m := h
      have e11 : IntKind.i64.wrap ((q : Int) + 1) = ((q + 1 : Nat) : Int) := by rw [w64] <;> omega
      refine ⟨⟨by omega, by omega⟩, ⟨fun hg => ?_, fun hg => ?_⟩⟩
      · have hg := dT hg
        have hg : ((c q).length : Int) > 200 := hg
        exact ⟨LV.le.int (no fun hs => by have := hs.2.2.2.2 q (by omega); omega), rfl⟩
      · have hg := dF hg
        have hg : ¬ ((c q).length : Int) > 200 := hg
        exact ⟨q + 1, ⟨(by omega : q + 1 ≤ m), fun i hi => by
          rcases (by omega : i < q ∨ i = q) with h4 | rfl
          · exact hq2 i h4
          · omega⟩, (by omega : m - (q + 1) < m - q), .le ⟨rfl, ⟨rfl, Nat.le_refl _⟩, ⟨LV.le.int e11, rfl, LV.le.refl _, rfl, LV.le.refl _, rfl, trivial⟩, ⟨⟨_, rfl, LO.le.refl _⟩, rfl, rfl, trivial⟩⟩⟩
    · obtain ⟨hq1, hq2⟩ := hq
      have h := dF h
      have h : ¬ (q : Int) < m := h
      obtain rfl : q = m := by omega
      have hs : Sm j q a c z := ⟨by omega, by omega, by omega, hj2, hq2⟩
      exact ⟨LV.le.int (by rw [if_pos hs]), rfl⟩
end Go.Proofs.Aw

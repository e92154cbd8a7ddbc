/- A PART OF THE PROOF: an abstract run of the loaded code over value trees, and the functions walked by it. No condition of its own. -/
import Derived.Test.YtanmknmlphkeaaaGreatDoorZJA
import Derived.Test.YtanmknmlphkeaaaGreatDoorI1
import Derived.Test.YtanmknmlphkeaaaGreatDoorZDB
namespace Go.Proofs.Aw
open Go Go.Proofs Go.RowKit
set_option maxHeartbeats 4000000
set_option maxRecDepth 100000
theorem lenEnc_len : ∀ (f n : Nat), n ≤ f → (lenEnc n).length ≤ n + 1
  | f, n, h => by
    rw [lenEnc]
    split
    · simp
    · rename_i h1
      cases f with
      | zero => omega
      | succ f =>
        have := lenEnc_len f (n / 128) (by omega)
        simp only [List.length_cons]
        omega
theorem lenEnc_pos (n : Nat) : 0 < (lenEnc n).length := by
  rw [lenEnc]; split <;> simp
theorem lenEnc_lt {n : Nat} (h : n < 128) : lenEnc n = [UInt8.ofNat n] := by rw [lenEnc, dif_pos h]
theorem lenEnc_ge {n : Nat} (h : ¬ n < 128) : lenEnc n = UInt8.ofNat (n % 128 + 128) :: lenEnc (n / 128) := by rw [lenEnc, dif_neg h]
theorem u8nat {n : Nat} (h : n < 256) : ((UInt8.ofNat n).toNat : Int) = n := by
  simp; omega
theorem w8 (z : Int) (n : Nat) (hn : n < 256) (h : z % 256 = n) : IntKind.u8.wrap z = ((UInt8.ofNat n).toNat : Int) := by
  rw [u8nat hn]
  have : IntKind.u8.wrap z = z % 256 := by simp [IntKind.wrap, IntKind.bits, IntKind.signed]
  omega
theorem bytesG_app {l r : List UInt8} {i : Nat} (h : i < l.length) : bytesG (l ++ r) i = bytesG l i := by
  simp only [bytesG, List.getD_eq_getElem?_getD, List.getElem?_append_left h]
theorem bytesG_last {l : List UInt8} {x : UInt8} : bytesG (l ++ [x]) l.length = [.v (.int .u8 (x.toNat : Int))] := by
  simp [bytesG]
theorem bltT {i n : Nat} (h : i < n) : Nat.blt i n = true := Nat.blt_eq.mpr h
theorem bltN {i n : Nat} (h : ¬ i < n) : Nat.blt i n = false := by
  cases hb : Nat.blt i n with
  | false => rfl
  | true => exact absurd (Nat.blt_eq.mp hb) h
/-- one byte more -/
theorem bytes_snoc {l : List UInt8} {x : UInt8} {c : List LV} (hc : c = [.v (.int .u8 (x.toNat : Int))]) : ∀ i, i < l.length + 1 → (match Nat.blt i l.length with | true => bytesG l i | false => (([c].flatten).drop ((i - l.length) * 1)).take 1) = bytesG (l ++ [x]) i := by
  intro i hi
  by_cases h : i < l.length
  · rw [bltT h, bytesG_app h]
  · obtain rfl : i = l.length := by omega
    rw [bltN h, bytesG_last, hc, Nat.sub_self]
    rfl
theorem length_ct (n0 : Nat) (hn : n0 ≤ 1000000000) : CtN Tryz.prog 86 [.v (.int .i64 (n0 : Int))] 5 1 (lenEnc n0).length (bytesG (lenEnc n0)) := by
  refine CtN.enter Tryz.tabOk ft86 (fun i _ => rfl) ?_
  have h0 := lenEnc_len n0 n0 (Nat.le_refl _)
  refine ⟨List UInt8 × Nat, fun q => ⟨[(3, .ls 0 q.1.length), (0, .v (.int .i64 (q.2 : Int)))], [(0, .arr 5 1 q.1.length (bytesG q.1))], 1, 0⟩, fun q => q.1 ++ lenEnc q.2 = lenEnc n0 ∧ q.2 ≤ n0, fun q => q.2, ([], n0), ⟨rfl, Nat.le_refl _⟩,
    .own (ty := 5) (sz := 1) ⟨rfl, rfl, ⟨.nil, rfl, .refl _, rfl, trivial⟩, ⟨⟨_, rfl, .of (LO.le.arr rfl fun i hi => absurd hi (by simp))⟩, rfl, rfl, trivial⟩⟩, fun q hq => ⟨fun h => ?_, fun h => ?_⟩⟩
  · obtain ⟨acc, n⟩ := q
    obtain ⟨e, hle⟩ := hq
    have e : acc ++ lenEnc n = lenEnc n0 := e
    have hle : n ≤ n0 := hle
    have h := dT h
    have h : ((n : Int) ≥ 128) := h
    have hge : ¬ n < 128 := by omega
    have hlen : acc.length + (lenEnc n).length = (lenEnc n0).length := by rw [← e, List.length_append]
    have t1 : (n : Int).tmod 128 = ((n % 128 : Nat) : Int) := by rw [Int.tmod_eq_emod_of_nonneg (by omega)]; omega
    have t2 : (n : Int).tdiv 128 = ((n / 128 : Nat) : Int) := by rw [Int.tdiv_eq_ediv_of_nonneg (by omega)]; omega
    refine ⟨by decide, by show (acc.length + 1) * 1 ≤ _; omega, by show acc.length + 1 ≤ _; omega, by decide, ⟨(acc ++ [UInt8.ofNat (n % 128 + 128)], n / 128), ⟨by rw [← e, lenEnc_ge hge]; simp, by show n / 128 ≤ n0; omega⟩, (by show n / 128 < n; omega), .ren (a := 0) (b := 2) ⟨rfl, ⟨rfl, rfl, rfl, Nat.le_of_ble_eq_true rfl⟩, ⟨LV.le.eq (congrArg (LV.ls 2) (by simp)), rfl, LV.le.int ?_, rfl, trivial⟩, ⟨⟨_, rfl, LO.le.arr (by simp) fun i hi => ?_⟩, rfl, rfl, trivial⟩⟩⟩⟩
    · rw [t2, w64 (by omega) (by omega)]
    · refine bytes_snoc (x := UInt8.ofNat (n % 128 + 128)) (c := [_]) ?_ i hi
      refine congrArg (fun z => [LV.v (.int .u8 z)]) ?_
      rw [t1]
      have e1 : IntKind.u8.wrap ((n % 128 : Nat) : Int) = ((n % 128 : Nat) : Int) := by
        have : IntKind.u8.wrap ((n % 128 : Nat) : Int) = ((n % 128 : Nat) : Int) % 256 := by simp [IntKind.wrap, IntKind.bits, IntKind.signed]
        omega
      rw [e1]
      exact w8 _ _ (by omega) (by omega)
  · obtain ⟨acc, n⟩ := q
    obtain ⟨e, hle⟩ := hq
    have e : acc ++ lenEnc n = lenEnc n0 := e
    have hle : n ≤ n0 := hle
    have h := dF h
    have h : ¬ ((n : Int) ≥ 128) := h
    have hlt : n < 128 := by omega
    rw [lenEnc_lt hlt] at e
    have hlen : acc.length + 1 = (lenEnc n0).length := by rw [← e]; simp
    refine ⟨by show (acc.length + 1) * 1 ≤ _; omega, by show acc.length + 1 ≤ _; omega, ⟨rfl, rfl, hlen⟩, fun i hi => ?_⟩
    rw [← e]
    rw [← hlen] at hi
    refine bytes_snoc (x := UInt8.ofNat n) (c := [_]) ?_ i hi
    exact congrArg (fun z => [LV.v (.int .u8 z)]) (w8 _ _ (by omega) (by omega))
end Go.Proofs.Aw
namespace Go.Proofs.Aw
open Go Go.Proofs Go.RowKit
set_option maxHeartbeats 4000000
set_option maxRecDepth 100000
/-- the row of the first n texts -/
def rowN (w : TL) : Nat → List UInt8
  | 0 => []
  | n + 1 => (rowN w n ++ lenEnc (w n).length) ++ w n
theorem rowN_le {w : TL} {i n : Nat} (h : i ≤ n) : (rowN w i).length ≤ (rowN w n).length := by
  induction n with
  | zero => obtain rfl : i = 0 := by omega
            exact Nat.le_refl _
  | succ n ih =>
    by_cases e : i = n + 1
    · subst e; exact Nat.le_refl _
    · have := ih (by omega)
      simp only [rowN, List.length_append]; omega
theorem bytes_app {a b : List UInt8} : ∀ i, i < a.length + b.length → (match Nat.blt i a.length with | true => bytesG a i | false => bytesG b (i - a.length)) = bytesG (a ++ b) i := by
  intro i hi
  by_cases h : i < a.length
  · rw [bltT h, bytesG_app h]
  · rw [bltN h]
    simp only [bytesG, List.getD_eq_getElem?_getD]
    rw [List.getElem?_append_right (by omega)]
def adJ (j : Nat) : LV := match j with
  | 0 => .v (.pointer none)
  | _ + 1 => .lp 0 0
theorem adJ_is (j : Nat) : adJ j = .v (.pointer none) ∨ adJ j = .lp 0 0 := by
  cases j with
  | zero => exact .inl rfl
  | succ j => exact .inr rfl
theorem adJ_under (j : Nat) : (adJ j).under 2 = true := by cases j <;> rfl
theorem row_ct (n : Nat) (w : TL) (hn : n ≤ 100000000) (hl : (rowN w n).length ≤ 1000000000) : Ct Tryz.prog 40 [.sl 1 n (tx w)] (.str (rowN w n)) := by
  refine Ct.enter Tryz.tabOk ft40 ?_
  refine ⟨Nat, fun j => ⟨[(8, .v (.int .i64 (j : Int))), (7, .v (.int .i64 (n : Int))), (6, .sl 1 n (tx w)), (3, .lp 0 0)], [(1, .arr 5 1 (rowN w j).length (bytesG (rowN w j))), (0, .box 137 [adJ j, .ls 1 (rowN w j).length])], 2, 0⟩, fun j => j ≤ n, fun j => n - j, 0, Nat.zero_le _,
    .own (ty := 5) (sz := 1) ⟨rfl, rfl, ⟨.refl _, rfl, .refl _, rfl, .refl _, rfl, .refl _, rfl, trivial⟩, ⟨⟨_, rfl, .of (LO.le.arr rfl fun i hi => absurd hi (by simp))⟩, rfl, rfl, ⟨_, rfl, .box ⟨_, _, rfl, .refl _, _, _, rfl, .nil, rfl⟩⟩, rfl, rfl, trivial⟩⟩, fun j hj => ⟨fun h => ?_, fun h => ?_⟩⟩
  · have h := dT h
    have h : (j : Int) < n := h
    have e11 : IntKind.i64.wrap ((j : Int) + 1) = ((j + 1 : Nat) : Int) := by rw [w64] <;> omega
    have hle := rowN_le (w := w) (i := j + 1) (n := n) (by omega)
    have hll : (rowN w (j + 1)).length = (rowN w j).length + (lenEnc (w j).length).length + (w j).length := by simp only [rowN, List.length_append]
    refine ⟨⟨by omega, by omega⟩, ?_⟩
    refine CtN.call (length_ct (w j).length (by omega)) rfl ?_
    refine CallA.body Tryz.tabOk ft85 ?_
    refine cc_ca (adJ_is j) rfl ?_
    refine ⟨by show ((rowN w j).length + (lenEnc (w j).length).length) * 1 ≤ _; omega, by show (rowN w j).length + (lenEnc (w j).length).length ≤ _; omega, ?_⟩
    refine CallA.body Tryz.tabOk ft87 ?_
    refine cc_ca (.inr rfl) rfl ?_
    refine ⟨by show (rowN w j).length + (lenEnc (w j).length).length + (w j).length ≤ _; omega, ?_⟩
    refine ⟨j + 1, (by omega : j + 1 ≤ n), (by omega : n - (j + 1) < n - j), .ren (a := 1) (b := 4) ⟨rfl, ⟨rfl, rfl, rfl, Nat.le_of_ble_eq_true rfl⟩, ⟨LV.le.int e11, rfl, LV.le.refl _, rfl, LV.le.refl _, rfl, LV.le.refl _, rfl, trivial⟩,
      ⟨⟨_, rfl, LO.le.arr hll.symm fun i hi => ?_⟩, rfl, rfl, ⟨_, rfl, LO.le.box ⟨_, _, rfl, LV.le.refl _, _, _, rfl, LV.le.eq (congrArg (LV.ls 4) hll.symm), rfl⟩⟩, rfl, rfl, trivial⟩⟩⟩
    have hi : i < (rowN w j).length + (lenEnc (w j).length).length + (w j).length := hi
    show (match Nat.blt i ((rowN w j).length + (lenEnc (w j).length).length) with | true => (match Nat.blt i (rowN w j).length with | true => bytesG (rowN w j) i | false => bytesG (lenEnc (w j).length) (i - (rowN w j).length)) | false => bytesG (w j) (i - ((rowN w j).length + (lenEnc (w j).length).length))) = bytesG ((rowN w j ++ lenEnc (w j).length) ++ w j) i
    rw [← bytes_app (a := rowN w j ++ lenEnc (w j).length) (b := w j) i (by rw [List.length_append]; exact hi), List.length_append]
    by_cases h2 : i < (rowN w j).length + (lenEnc (w j).length).length
    · rw [bltT h2]
      exact bytes_app i h2
    · rw [bltN h2]
  · have hj : j ≤ n := hj
    have h := dF h
    have h : ¬ (j : Int) < n := h
    obtain rfl : j = n := by omega
    refine bs_ca (l := rowN w j) rfl rfl ⟨rfl, fun i hi => rfl⟩ ?_
    exact ⟨LV.le.refl _, rfl⟩
end Go.Proofs.Aw
namespace Go.Proofs.Aw
open Go Go.Proofs Go.RowKit
set_option maxHeartbeats 4000000
set_option maxRecDepth 100000
def rdRes : Rd → LV
  | .bad e => .tup [.v (.int .i64 0), .v (.int .i64 0), .v (.int .i64 e)]
  | .ok n s => .tup [.v (.int .i64 (n : Int)), .v (.int .i64 (s : Int)), .v (.int .i64 0)]
theorem drop_at {b : List UInt8} {i : Nat} (h : i < b.length) : b.drop i = b.getD i 0 :: b.drop (i + 1) := by
  rw [List.drop_eq_getElem_cons h]
  simp [List.getElem?_eq_getElem h]
theorem shl7 (i x : Nat) (hi : i ≤ 3) (hx : x < 128) : IntKind.i64.wrap ((x : Int) * 2 ^ (min (7 * (i : Int)).toNat IntKind.i64.bits)) = ((x * 2 ^ (7 * i) : Nat) : Int) ∧ x * 2 ^ (7 * i) < 268435456 := by
  rcases (by omega : i = 0 ∨ i = 1 ∨ i = 2 ∨ i = 3) with rfl | rfl | rfl | rfl <;> (refine ⟨?_, by simp; omega⟩; rw [IntKind.wrap_i64]; simp [IntKind.bits]; omega)
theorem pow7 {i n x : Nat} (hi : i ≤ 3) (hn : n < 2 ^ (7 * i)) (hx : x < 128) : n + x * 2 ^ (7 * i) < 2 ^ (7 * (i + 1)) := by
  rcases (by omega : i = 0 ∨ i = 1 ∨ i = 2 ∨ i = 3) with rfl | rfl | rfl | rfl <;> simp at hn ⊢ <;> omega
theorem pow28 {i n : Nat} (hi : i ≤ 3) (hn : n < 2 ^ (7 * i)) : n < 268435456 := by
  rcases (by omega : i = 0 ∨ i = 1 ∨ i = 2 ∨ i = 3) with rfl | rfl | rfl | rfl <;> simp at hn ⊢ <;> omega
theorem eqI {a b : Int} (h : (a == b) = true) : a = b := by simpa using h
theorem neI {a b : Int} (h : (a == b) = false) : a ≠ b := by simpa using h
theorem read_ct (b : List UInt8) (hb : b.length ≤ 1000000000) (R : Rd) (hR : rdAt 0 0 b = R) : Ct Tryz.prog 104 [.str b] (rdRes R) := by
  refine Ct.enter Tryz.tabOk ft104 ?_
  refine ⟨Nat × Nat, fun q => ⟨[(9, .v (.int .i64 (q.1 : Int))), (8, .v (.int .i64 (b.length : Int))), (2, .v (.int .i64 (q.2 : Int))), (0, .str b)], [], 0, 0⟩, fun q => q.1 ≤ b.length ∧ q.1 ≤ 3 ∧ q.2 < 2 ^ (7 * q.1) ∧ rdAt q.1 q.2 (b.drop q.1) = R, fun q => b.length - q.1, (0, 0), ⟨Nat.zero_le _, Nat.zero_le _, by decide, hR⟩,
    .le ⟨rfl, ⟨rfl, Nat.le_refl _⟩, ⟨LV.le.refl _, rfl, LV.le.refl _, rfl, LV.le.refl _, rfl, LV.le.refl _, rfl, trivial⟩, trivial⟩, fun q hq => ⟨fun h => ?_, fun h => ?_⟩⟩
  · obtain ⟨i, n⟩ := q
    obtain ⟨h1, h2, h3, h4⟩ := hq
    have h1 : i ≤ b.length := h1
    have h2 : i ≤ 3 := h2
    have h3 : n < 2 ^ (7 * i) := h3
    have h4 : rdAt i n (b.drop i) = R := h4
    have h := dT h
    have h : (i : Int) < b.length := h
    have hil : i < b.length := by omega
    rw [drop_at hil] at h4
    have hx : (b.getD i 0).toNat < 256 := (b.getD i 0).toNat_lt
    have wx : IntKind.i64.wrap ((b.getD i 0).toNat : Int) = ((b.getD i 0).toNat : Int) := w64 (by omega) (by omega)
    have wi : IntKind.i64.wrap ((i : Int) + 1) = ((i + 1 : Nat) : Int) := by rw [w64] <;> omega
    have w7 : IntKind.i64.wrap (7 * (i : Int)) = 7 * (i : Int) := w64 (by omega) (by omega)
    have hm : (b.getD i 0).toNat % 128 < 128 := Nat.mod_lt _ (by decide)
    have tm : (IntKind.i64.wrap ((b.getD i 0).toNat : Int)).tmod 128 = (((b.getD i 0).toNat % 128 : Nat) : Int) := by rw [wx, Int.tmod_eq_emod_of_nonneg (by omega)]; omega
    have hs := shl7 i ((b.getD i 0).toNat % 128) h2 hm
    have hn2 := pow28 h2 h3
    have hadd : IntKind.i64.wrap ((n : Int) + IntKind.i64.wrap ((IntKind.i64.wrap ((b.getD i 0).toNat : Int)).tmod 128 * 2 ^ (min (IntKind.i64.wrap (7 * (i : Int))).toNat IntKind.i64.bits))) = ((n + (b.getD i 0).toNat % 128 * 2 ^ (7 * i) : Nat) : Int) := by
      rw [tm, w7, hs.1, w64 (by omega) (by omega)]
      omega
    have h0 : (0 : Int) ≤ IntKind.i64.wrap (7 * (i : Int)) := by rw [w7]; omega
    simp only [rdAt] at h4
    -- what stands behind the two tests
    have good : ¬ ((i = 3 ∧ 128 ≤ (b.getD i 0).toNat) ∨ (0 < i ∧ (b.getD i 0).toNat = 0)) → ((b.getD i 0).toNat < 128 → R = .ok (n + (b.getD i 0).toNat % 128 * 2 ^ (7 * i)) (i + 1)) ∧ (¬ (b.getD i 0).toNat < 128 → i + 1 ≤ 3 ∧ rdAt (i + 1) (n + (b.getD i 0).toNat % 128 * 2 ^ (7 * i)) (b.drop (i + 1)) = R) := by
      intro hg
      rw [if_neg hg] at h4
      refine ⟨fun hl => ?_, fun hl => ⟨by omega, ?_⟩⟩
      · rw [if_pos hl] at h4; exact h4.symm
      · rw [if_neg hl] at h4; exact h4
    have bad : ((i = 3 ∧ 128 ≤ (b.getD i 0).toNat) ∨ (0 < i ∧ (b.getD i 0).toNat = 0)) → R = .bad 3 := by
      intro hg
      rw [if_pos hg] at h4; exact h4.symm
    clear h4 hR
    refine ⟨⟨by omega, by omega⟩, ⟨fun a3 => ⟨fun ax => ⟨fun _ => ?_, fun ay => absurd (ax.symm.trans ay) (by decide)⟩, fun ax => ⟨fun a0 => ⟨fun az => ?_, fun az => ?_⟩, fun a0 => ?_⟩⟩, fun a3 => ⟨fun a0 => ⟨fun az => ?_, fun az => ?_⟩, fun a0 => ?_⟩⟩⟩
    · have a3 : (i : Int) = 3 := eqI a3
      have ax := dT ax
      have ax : IntKind.i64.wrap ((b.getD i 0).toNat : Int) ≥ 128 := ax
      obtain rfl := bad (by omega)
      exact ⟨LV.le.refl _, rfl⟩
    · have a3 : (i : Int) = 3 := eqI a3
      have ax := dF ax
      have ax : ¬ IntKind.i64.wrap ((b.getD i 0).toNat : Int) ≥ 128 := ax
      have a0 := dT a0
      have a0 : (i : Int) > 0 := a0
      have az : IntKind.i64.wrap ((b.getD i 0).toNat : Int) = 0 := eqI az
      obtain rfl := bad (by omega)
      exact ⟨LV.le.refl _, rfl⟩
    · have a3 : (i : Int) = 3 := eqI a3
      have ax := dF ax
      have ax : ¬ IntKind.i64.wrap ((b.getD i 0).toNat : Int) ≥ 128 := ax
      have a0 := dT a0
      have a0 : (i : Int) > 0 := a0
      have az : IntKind.i64.wrap ((b.getD i 0).toNat : Int) ≠ 0 := neI az
      have hg : ¬ ((i = 3 ∧ 128 ≤ (b.getD i 0).toNat) ∨ (0 < i ∧ (b.getD i 0).toNat = 0)) := by omega
      refine ⟨by decide, h0, ⟨fun al => ?_, fun al => ?_⟩⟩
      · have al := dT al
        have al : IntKind.i64.wrap ((b.getD i 0).toNat : Int) < 128 := al
        obtain rfl := (good hg).1 (by omega)
        exact ⟨LV.le.tup ⟨_, _, rfl, LV.le.int hadd, _, _, rfl, LV.le.int wi, _, _, rfl, LV.le.refl _, rfl⟩, rfl⟩
      · have al := dF al
        have al : ¬ IntKind.i64.wrap ((b.getD i 0).toNat : Int) < 128 := al
        have g := (good hg).2 (by omega)
        exact ⟨(i + 1, n + (b.getD i 0).toNat % 128 * 2 ^ (7 * i)), ⟨(by omega : i + 1 ≤ b.length), g.1, pow7 h2 h3 hm, g.2⟩, (by show b.length - (i + 1) < b.length - i; omega), .le ⟨rfl, ⟨rfl, Nat.le_refl _⟩, ⟨LV.le.int wi, rfl, LV.le.refl _, rfl, LV.le.int hadd, rfl, LV.le.refl _, rfl, trivial⟩, trivial⟩⟩
    · have a3 : (i : Int) = 3 := eqI a3
      have ax := dF ax
      have ax : ¬ IntKind.i64.wrap ((b.getD i 0).toNat : Int) ≥ 128 := ax
      have a0 := dF a0
      have a0 : ¬ (i : Int) > 0 := a0
      exfalso; omega
    · have a3 : (i : Int) ≠ 3 := neI a3
      have a0 := dT a0
      have a0 : (i : Int) > 0 := a0
      have az : IntKind.i64.wrap ((b.getD i 0).toNat : Int) = 0 := eqI az
      obtain rfl := bad (by omega)
      exact ⟨LV.le.refl _, rfl⟩
    · have a3 : (i : Int) ≠ 3 := neI a3
      have a0 := dT a0
      have a0 : (i : Int) > 0 := a0
      have az : IntKind.i64.wrap ((b.getD i 0).toNat : Int) ≠ 0 := neI az
      have hg : ¬ ((i = 3 ∧ 128 ≤ (b.getD i 0).toNat) ∨ (0 < i ∧ (b.getD i 0).toNat = 0)) := by omega
      refine ⟨by decide, h0, ⟨fun al => ?_, fun al => ?_⟩⟩
      · have al := dT al
        have al : IntKind.i64.wrap ((b.getD i 0).toNat : Int) < 128 := al
        obtain rfl := (good hg).1 (by omega)
        exact ⟨LV.le.tup ⟨_, _, rfl, LV.le.int hadd, _, _, rfl, LV.le.int wi, _, _, rfl, LV.le.refl _, rfl⟩, rfl⟩
      · have al := dF al
        have al : ¬ IntKind.i64.wrap ((b.getD i 0).toNat : Int) < 128 := al
        have g := (good hg).2 (by omega)
        exact ⟨(i + 1, n + (b.getD i 0).toNat % 128 * 2 ^ (7 * i)), ⟨(by omega : i + 1 ≤ b.length), g.1, pow7 h2 h3 hm, g.2⟩, (by show b.length - (i + 1) < b.length - i; omega), .le ⟨rfl, ⟨rfl, Nat.le_refl _⟩, ⟨LV.le.int wi, rfl, LV.le.refl _, rfl, LV.le.int hadd, rfl, LV.le.refl _, rfl, trivial⟩, trivial⟩⟩
    · have a3 : (i : Int) ≠ 3 := neI a3
      have a0 := dF a0
      have a0 : ¬ (i : Int) > 0 := a0
      have hg : ¬ ((i = 3 ∧ 128 ≤ (b.getD i 0).toNat) ∨ (0 < i ∧ (b.getD i 0).toNat = 0)) := by omega
      refine ⟨by decide, h0, ⟨fun al => ?_, fun al => ?_⟩⟩
      · have al := dT al
        have al : IntKind.i64.wrap ((b.getD i 0).toNat : Int) < 128 := al
        obtain rfl := (good hg).1 (by omega)
        exact ⟨LV.le.tup ⟨_, _, rfl, LV.le.int hadd, _, _, rfl, LV.le.int wi, _, _, rfl, LV.le.refl _, rfl⟩, rfl⟩
      · have al := dF al
        have al : ¬ IntKind.i64.wrap ((b.getD i 0).toNat : Int) < 128 := al
        have g := (good hg).2 (by omega)
        exact ⟨(i + 1, n + (b.getD i 0).toNat % 128 * 2 ^ (7 * i)), ⟨(by omega : i + 1 ≤ b.length), g.1, pow7 h2 h3 hm, g.2⟩, (by show b.length - (i + 1) < b.length - i; omega), .le ⟨rfl, ⟨rfl, Nat.le_refl _⟩, ⟨LV.le.int wi, rfl, LV.le.refl _, rfl, LV.le.int hadd, rfl, LV.le.refl _, rfl, trivial⟩, trivial⟩⟩
  · obtain ⟨i, n⟩ := q
    obtain ⟨h1, h2, h3, h4⟩ := hq
    have h1 : i ≤ b.length := h1
    have h4 : rdAt i n (b.drop i) = R := h4
    have h := dF h
    have h : ¬ (i : Int) < b.length := h
    obtain rfl : i = b.length := by omega
    rw [List.drop_length] at h4
    obtain rfl : R = .bad 4 := h4.symm
    exact ⟨LV.le.refl _, rfl⟩
end Go.Proofs.Aw
namespace Go.Proofs.Aw
open Go Go.Proofs Go.RowKit
set_option maxHeartbeats 4000000
set_option maxRecDepth 100000
theorem rdAt_bad : ∀ (b : List UInt8) (i n : Nat) (e : Int), rdAt i n b = .bad e → e = 3 ∨ e = 4
  | [], i, n, e, h => by simp [rdAt] at h; omega
  | x :: r, i, n, e, h => by
    simp only [rdAt] at h
    split at h
    · injection h with h; omega
    · split at h
      · cases h
      · exact rdAt_bad r _ _ _ h
theorem rdT_bads {b : List UInt8} {e : Int} (h : rdT b = .bad e) : e = 3 ∨ e = 4 := by
  have key : ∀ (f : Nat) (b : List UInt8), b.length ≤ f → rdT b = .bad e → e = 3 ∨ e = 4 := by
    intro f
    induction f with
    | zero =>
      intro b hb h
      obtain rfl : b = [] := List.eq_nil_of_length_eq_zero (by omega)
      cases h
    | succ f ih =>
      intro b hb h
      by_cases h0 : b = []
      · subst h0; cases h
      · rw [rdT_cons h0] at h
        split at h
        · rename_i e' hr
          injection h with h; subst h
          exact rdAt_bad _ _ _ _ hr
        · rename_i n s hr
          have hs := rdAt_size _ _ _ _ _ hr
          split at h
          · injection h with h; omega
          · split at h
            · rename_i e' he
              injection h with h; subst h
              exact ih _ (by rw [List.length_drop]; omega) he
            · cases h
  exact key _ b (Nat.le_refl _) h
def atL (l : List (List UInt8)) : TL := fun i => l.getD i []
def txL (l : List (List UInt8)) : LV := .sl 1 l.length (tx (atL l))
def txRes : Tx → LV
  | .bad e => .tup [.v (.slice none 0 0), .v (.int .i64 e)]
  | .ok l => .tup [txL l, .v (.int .i64 0)]
theorem atL_app {a r : List (List UInt8)} {i : Nat} (h : i < a.length) : atL (a ++ r) i = atL a i := by
  simp only [atL, List.getD_eq_getElem?_getD, List.getElem?_append_left h]
theorem atL_last {a : List (List UInt8)} {x : List UInt8} : atL (a ++ [x]) a.length = x := by
  simp [atL]
/-- one text more -/
theorem texts_snoc {a : List (List UInt8)} {x : List UInt8} {c : List LV} (hc : c = [.str x]) : ∀ i, i < a.length + 1 → (match Nat.blt i a.length with | true => tx (atL a) i | false => (([c].flatten).drop ((i - a.length) * 1)).take 1) = tx (atL (a ++ [x])) i := by
  intro i hi
  by_cases h : i < a.length
  · rw [bltT h]; simp only [tx]; rw [atL_app h]
  · obtain rfl : i = a.length := by omega
    rw [bltN h, hc, Nat.sub_self]
    simp only [tx]
    rw [atL_last]
    rfl
theorem texts_ct (b : List UInt8) (hb : b.length ≤ 100000000) (T : Tx) (hT : rdT b = T) : Ct Tryz.prog 69 [.str b] (txRes T) := by
  refine Ct.enter Tryz.tabOk ft69 ?_
  refine ⟨List (List UInt8) × List UInt8, fun q => ⟨[(4, .ls 0 q.1.length), (0, .str q.2)], [(0, .arr 9 1 q.1.length (tx (atL q.1)))], 1, 0⟩, fun q => (rdT q.2).pre q.1 = T ∧ q.1.length + q.2.length ≤ b.length, fun q => q.2.length, ([], b), ⟨by rw [Tx.pre_nil]; exact hT, by simp⟩,
    .own (ty := 9) (sz := 1) ⟨rfl, rfl, ⟨.nil, rfl, .refl _, rfl, trivial⟩, ⟨⟨_, rfl, .of (LO.le.arr rfl fun i hi => absurd hi (by simp))⟩, rfl, rfl, trivial⟩⟩, fun q hq => ⟨fun h => ?_, fun h => ?_⟩⟩
  · obtain ⟨acc, r⟩ := q
    obtain ⟨h1, h2⟩ := hq
    have h1 : (rdT r).pre acc = T := h1
    have h2 : acc.length + r.length ≤ b.length := h2
    have h : (r != []) = true := h
    have hr0 : r ≠ [] := by simpa using h
    clear hT
    cases hR : rdAt 0 0 r with
    | bad e =>
      refine Ct.callC (read_ct r (by omega) _ hR) rfl (leL.refl _) ?_
      refine ⟨fun _ => ?_, fun h => ?_⟩
      · rw [rdT_bad hr0 hR] at h1
        obtain rfl : T = .bad e := h1.symm
        exact ⟨LV.le.refl _, rfl⟩
      · have h : (e != 0) = false := h
        have := rdAt_bad _ _ _ _ hR
        have h0 : e = 0 := by simpa using h
        omega
    | ok n s =>
      have hs := rdAt_size _ _ _ _ _ hR
      have ws : IntKind.i64.wrap ((r.length : Int) - (s : Int)) = (r.length : Int) - s := w64 (by omega) (by omega)
      refine Ct.callC (read_ct r (by omega) _ hR) rfl (leL.refl _) ?_
      refine ⟨fun h => absurd h (by decide), fun _ => ⟨fun h => ?_, fun h => ?_⟩⟩
      · have h := dT h
        have h : IntKind.i64.wrap ((r.length : Int) - (s : Int)) < n := h
        rw [rdT_short hR (by omega)] at h1
        obtain rfl : T = .bad 4 := h1.symm
        exact ⟨LV.le.refl _, rfl⟩
      · have h := dF h
        have h : ¬ IntKind.i64.wrap ((r.length : Int) - (s : Int)) < n := h
        have hle : s + n ≤ r.length := by omega
        rw [rdT_step hR (by omega), Tx.pre_pre] at h1
        have wa : IntKind.i64.wrap ((s : Int) + (n : Int)) = ((s + n : Nat) : Int) := by rw [w64] <;> omega
        refine ⟨⟨by omega, by rw [wa]; omega, by rw [wa]; exact Int.ofNat_le.mpr hle⟩, by show (acc.length + 1) * 16 ≤ _; omega, by show acc.length + 1 ≤ _; omega, ⟨by rw [wa]; omega, by rw [wa]; exact Int.ofNat_le.mpr hle, Int.le_refl _⟩, ⟨(acc ++ [(r.drop s).take n], r.drop (s + n)), ⟨h1, by simp; omega⟩, (by show (r.drop (s + n)).length < r.length; rw [List.length_drop]; omega), .ren (a := 0) (b := 2) ⟨rfl, ⟨rfl, rfl, rfl, Nat.le_of_ble_eq_true rfl⟩, ⟨LV.le.eq (congrArg (LV.ls 2) (by simp)), rfl, LV.le.eq (congrArg LV.str ?_), rfl, trivial⟩, ⟨⟨_, rfl, LO.le.arr (by simp) fun i hi => ?_⟩, rfl, rfl, trivial⟩⟩⟩⟩
        · rw [wa]
          show (r.take r.length).drop (s + n) = _
          rw [List.take_length]
        · refine texts_snoc (x := (r.drop s).take n) (c := [_]) ?_ i hi
          refine congrArg (fun z => [LV.str z]) ?_
          rw [wa]
          show (r.take (s + n)).drop s = _
          rw [List.drop_take]
          congr 1
          omega
  · obtain ⟨acc, r⟩ := q
    obtain ⟨h1, h2⟩ := hq
    have h1 : (rdT r).pre acc = T := h1
    have h : (r != []) = false := h
    obtain rfl : r = [] := by simpa using h
    rw [rdT_nil] at h1
    have h1 : Tx.ok (acc ++ []) = T := h1
    rw [List.append_nil] at h1
    obtain rfl : T = .ok acc := h1.symm
    exact ⟨LV.le.refl _, rfl⟩
end Go.Proofs.Aw

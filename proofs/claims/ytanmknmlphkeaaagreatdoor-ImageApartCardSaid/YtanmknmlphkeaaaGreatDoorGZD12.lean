/- A PART OF THE PROOF: an abstract run of the loaded code over value trees, and the functions walked by it. No condition of its own. -/
import Derived.Test.YtanmknmlphkeaaaGreatDoorGZG1
import Derived.Laws.StructEq
import Derived.Test.YtanmknmlphkeaaaGreatDoorGZJ2
namespace Go.Proofs.Aw
open Go Go.Proofs
set_option maxHeartbeats 4000000
set_option maxRecDepth 100000
theorem eqF_kept (a a' : Bool) (s s' : List UInt8) : EqF Tryz.prog 101 [.bs a, .str s] [.bs a', .str s'] (a == a' && s == s') := by
  intro m N ys zs w op x y h1 h2
  obtain ⟨y1, r1, rfl, e1, y2, r2, rfl, e2, e3⟩ := h1
  obtain ⟨z1, q1, rfl, f1, z2, q2, rfl, f2, f3⟩ := h2
  have e1 : y1 = .bool a := e1
  have e2 : y2 = strV s := e2
  have e3 : r2 = [] := e3
  have f1 : z1 = .bool a' := f1
  have f2 : z2 = strV s' := f2
  have f3 : q2 = [] := f3
  subst e1; subst e2; subst e3; subst f1; subst f2; subst f3
  have u4 := Tryz.underlying4
  have u9 := Tryz.underlying9
  refine ⟨run_eqGuard_agg w op 101 x y _ _ Tryz.eqGuardType101, ?_⟩
  show (Op.equalIn (9999 + 1) 101 _ _).run Tryz.prog w = _
  rw [run_equalIn_agg w 9999 101 _ _ rfl Tryz.stoodInHeld101]
  have hf : (Tryz.prog.fieldsOf 101).toList = [{ name := "Is", type := 4, offset := 0, embedded := false, tag := "", pkgPath := "", byteOffset := 0 }, { name := "Data", type := 9, offset := 1, embedded := false, tag := "", pkgPath := "", byteOffset := 8 }] := rfl
  rw [hf]
  simp only [Op.eqFields]
  have q1 := fun (b c : Bool) (w : World) => run_equalIn_bool' w 9998 4 b c u4
  have q2 := fun (w : World) => run_equalIn_string w 9998 9 ⟨s.toArray⟩ ⟨s'.toArray⟩ u9
  have q3 : ((⟨s.toArray⟩ : ByteArray).toList == (⟨s'.toArray⟩ : ByteArray).toList) = (s == s') := by
    rw [ByteArray.toList_eq, ByteArray.toList_eq]
  rw [q3] at q2
  simp only [Nat.reduceAdd] at q1 q2
  have d1 : ("Is" ≠ "_") = True := by simp
  have d2 : ("Data" ≠ "_") = True := by simp
  cases a <;> cases a' <;> simp [part, strV, q1, q2]
  all_goals (cases hs : (s == s') <;> simp_all)
end Go.Proofs.Aw
namespace Go.Proofs.Aw
open Go Go.Proofs Go.RowKit
set_option maxHeartbeats 4000000
set_option maxRecDepth 100000
theorem lenEnc_len : ∀ (f n : Nat), n ≤ f → (lenEnc n).length ≤ n + 1
  | f, n, h => by
    rw [lenEnc]
    split
    · simp
    · rename_i h1
      cases f with
      | zero => omega
      | succ f =>
        have := lenEnc_len f (n / 128) (by omega)
        simp only [List.length_cons]
        omega
theorem lenEnc_pos (n : Nat) : 0 < (lenEnc n).length := by
  rw [lenEnc]; split <;> simp
theorem lenEnc_lt {n : Nat} (h : n < 128) : lenEnc n = [UInt8.ofNat n] := by rw [lenEnc, dif_pos h]
theorem lenEnc_ge {n : Nat} (h : ¬ n < 128) : lenEnc n = UInt8.ofNat (n % 128 + 128) :: lenEnc (n / 128) := by rw [lenEnc, dif_neg h]
theorem u8nat {n : Nat} (h : n < 256) : ((UInt8.ofNat n).toNat : Int) = n := by
  simp; omega
theorem w8 (z : Int) (n : Nat) (hn : n < 256) (h : z % 256 = n) : IntKind.u8.wrap z = ((UInt8.ofNat n).toNat : Int) := by
  rw [u8nat hn]
  have : IntKind.u8.wrap z = z % 256 := by simp [IntKind.wrap, IntKind.bits, IntKind.signed]
  omega
theorem bytesG_app {l r : List UInt8} {i : Nat} (h : i < l.length) : bytesG (l ++ r) i = bytesG l i := by
  simp only [bytesG, List.getD_eq_getElem?_getD, List.getElem?_append_left h]
theorem bytesG_last {l : List UInt8} {x : UInt8} : bytesG (l ++ [x]) l.length = [.v (.int .u8 (x.toNat : Int))] := by
  simp [bytesG]
theorem bltT {i n : Nat} (h : i < n) : Nat.blt i n = true := Nat.blt_eq.mpr h
theorem bltN {i n : Nat} (h : ¬ i < n) : Nat.blt i n = false := by
  cases hb : Nat.blt i n with
  | false => rfl
  | true => exact absurd (Nat.blt_eq.mp hb) h
/-- one byte more -/
theorem bytes_snoc {l : List UInt8} {x : UInt8} {c : List LV} (hc : c = [.v (.int .u8 (x.toNat : Int))]) : ∀ i, i < l.length + 1 → (match Nat.blt i l.length with | true => bytesG l i | false => (([c].flatten).drop ((i - l.length) * 1)).take 1) = bytesG (l ++ [x]) i := by
  intro i hi
  by_cases h : i < l.length
  · rw [bltT h, bytesG_app h]
  · obtain rfl : i = l.length := by omega
    rw [bltN h, bytesG_last, hc, Nat.sub_self]
    rfl
theorem length_ct (n0 : Nat) (hn : n0 ≤ 1000000000) : CtN Tryz.prog 86 [.v (.int .i64 (n0 : Int))] 5 1 (lenEnc n0).length (bytesG (lenEnc n0)) := by
  refine CtN.enter Tryz.tabOk ft86 (fun i _ => rfl) ?_
  have h0 := lenEnc_len n0 n0 (Nat.le_refl _)
  refine ⟨List UInt8 × Nat, fun q => ⟨[(3, .ls 0 q.1.length), (0, .v (.int .i64 (q.2 : Int)))], [(0, .arr 5 1 q.1.length (bytesG q.1))], 1, 0⟩, fun q => q.1 ++ lenEnc q.2 = lenEnc n0 ∧ q.2 ≤ n0, fun q => q.2, ([], n0), ⟨rfl, Nat.le_refl _⟩,
    .own (ty := 5) (sz := 1) ⟨rfl, rfl, ⟨.nil, rfl, .refl _, rfl, trivial⟩, ⟨⟨_, rfl, .of (LO.le.arr rfl fun i hi => absurd hi (by simp))⟩, rfl, rfl, trivial⟩⟩, fun q hq => ⟨fun h => ?_, fun h => ?_⟩⟩
  · obtain ⟨acc, n⟩ := q
    obtain ⟨e, hle⟩ := hq
    have e : acc ++ lenEnc n = lenEnc n0 := e
    have hle : n ≤ n0 := hle
    have h := dT h
    have h : ((n : Int) ≥ 128) := h
    have hge : ¬ n < 128 := by omega
    have hlen : acc.length + (lenEnc n).length = (lenEnc n0).length := by rw [← e, List.length_append]
    have t1 : (n : Int).tmod 128 = ((n % 128 : Nat) : Int) := by rw [Int.tmod_eq_emod_of_nonneg (by omega)]; omega
    have t2 : (n : Int).tdiv 128 = ((n / 128 : Nat) : Int) := by rw [Int.tdiv_eq_ediv_of_nonneg (by omega)]; omega
    refine ⟨by decide, by show (acc.length + 1) * 1 ≤ _; omega, by show acc.length + 1 ≤ _; omega, by decide, ⟨(acc ++ [UInt8.ofNat (n % 128 + 128)], n / 128), ⟨by rw [← e, lenEnc_ge hge]; simp, by show n / 128 ≤ n0; omega⟩, (by show n / 128 < n; omega), .ren (a := 0) (b := 2) ⟨rfl, ⟨rfl, rfl, rfl, Nat.le_of_ble_eq_true rfl⟩, ⟨LV.le.eq (congrArg (LV.ls 2) (by simp)), rfl, LV.le.int ?_, rfl, trivial⟩, ⟨⟨_, rfl, LO.le.arr (by simp) fun i hi => ?_⟩, rfl, rfl, trivial⟩⟩⟩⟩
    · rw [t2, w64 (by omega) (by omega)]
    · refine bytes_snoc (x := UInt8.ofNat (n % 128 + 128)) (c := [_]) ?_ i hi
      refine congrArg (fun z => [LV.v (.int .u8 z)]) ?_
      rw [t1]
      have e1 : IntKind.u8.wrap ((n % 128 : Nat) : Int) = ((n % 128 : Nat) : Int) := by
        have : IntKind.u8.wrap ((n % 128 : Nat) : Int) = ((n % 128 : Nat) : Int) % 256 := by simp [IntKind.wrap, IntKind.bits, IntKind.signed]
        omega
      rw [e1]
      exact w8 _ _ (by omega) (by omega)
  · obtain ⟨acc, n⟩ := q
    obtain ⟨e, hle⟩ := hq
    have e : acc ++ lenEnc n = lenEnc n0 := e
    have hle : n ≤ n0 := hle
    have h := dF h
    have h : ¬ ((n : Int) ≥ 128) := h
    have hlt : n < 128 := by omega
    rw [lenEnc_lt hlt] at e
    have hlen : acc.length + 1 = (lenEnc n0).length := by rw [← e]; simp
    refine ⟨by show (acc.length + 1) * 1 ≤ _; omega, by show acc.length + 1 ≤ _; omega, ⟨rfl, rfl, hlen⟩, fun i hi => ?_⟩
    rw [← e]
    rw [← hlen] at hi
    refine bytes_snoc (x := UInt8.ofNat n) (c := [_]) ?_ i hi
    exact congrArg (fun z => [LV.v (.int .u8 z)]) (w8 _ _ (by omega) (by omega))
end Go.Proofs.Aw
namespace Go.Proofs.Aw
open Go Go.Proofs Go.RowKit
set_option maxHeartbeats 4000000
set_option maxRecDepth 100000
/-- the row of the first n texts -/
def rowN (w : TL) : Nat → List UInt8
  | 0 => []
  | n + 1 => (rowN w n ++ lenEnc (w n).length) ++ w n
theorem rowN_le {w : TL} {i n : Nat} (h : i ≤ n) : (rowN w i).length ≤ (rowN w n).length := by
  induction n with
  | zero => obtain rfl : i = 0 := by omega
            exact Nat.le_refl _
  | succ n ih =>
    by_cases e : i = n + 1
    · subst e; exact Nat.le_refl _
    · have := ih (by omega)
      simp only [rowN, List.length_append]; omega
theorem bytes_app {a b : List UInt8} : ∀ i, i < a.length + b.length → (match Nat.blt i a.length with | true => bytesG a i | false => bytesG b (i - a.length)) = bytesG (a ++ b) i := by
  intro i hi
  by_cases h : i < a.length
  · rw [bltT h, bytesG_app h]
  · rw [bltN h]
    simp only [bytesG, List.getD_eq_getElem?_getD]
    rw [List.getElem?_append_right (by omega)]
def adJ (j : Nat) : LV := match j with
  | 0 => .v (.pointer none)
  | _ + 1 => .lp 0 0
theorem adJ_is (j : Nat) : adJ j = .v (.pointer none) ∨ adJ j = .lp 0 0 := by
  cases j with
  | zero => exact .inl rfl
  | succ j => exact .inr rfl
theorem adJ_under (j : Nat) : (adJ j).under 2 = true := by cases j <;> rfl
theorem row_ct (n : Nat) (w : TL) (hn : n ≤ 100000000) (hl : (rowN w n).length ≤ 1000000000) : Ct Tryz.prog 40 [.sl 1 n (tx w)] (.str (rowN w n)) := by
  refine Ct.enter Tryz.tabOk ft40 ?_
  refine ⟨Nat, fun j => ⟨[(8, .v (.int .i64 (j : Int))), (7, .v (.int .i64 (n : Int))), (6, .sl 1 n (tx w)), (3, .lp 0 0)], [(1, .arr 5 1 (rowN w j).length (bytesG (rowN w j))), (0, .box 137 [adJ j, .ls 1 (rowN w j).length])], 2, 0⟩, fun j => j ≤ n, fun j => n - j, 0, Nat.zero_le _,
    .own (ty := 5) (sz := 1) ⟨rfl, rfl, ⟨.refl _, rfl, .refl _, rfl, .refl _, rfl, .refl _, rfl, trivial⟩, ⟨⟨_, rfl, .of (LO.le.arr rfl fun i hi => absurd hi (by simp))⟩, rfl, rfl, ⟨_, rfl, .box ⟨_, _, rfl, .refl _, _, _, rfl, .nil, rfl⟩⟩, rfl, rfl, trivial⟩⟩, fun j hj => ⟨fun h => ?_, fun h => ?_⟩⟩
  · have h := dT h
    have h : (j : Int) < n := h
    have e11 : IntKind.i64.wrap ((j : Int) + 1) = ((j + 1 : Nat) : Int) := by rw [w64] <;> omega
    have hle := rowN_le (w := w) (i := j + 1) (n := n) (by omega)
    have hll : (rowN w (j + 1)).length = (rowN w j).length + (lenEnc (w j).length).length + (w j).length := by simp only [rowN, List.length_append]
    refine ⟨⟨by omega, by omega⟩, ?_⟩
    refine CtN.call (length_ct (w j).length (by omega)) rfl ?_
    refine CallA.body Tryz.tabOk ft85 ?_
    refine cc_ca (adJ_is j) rfl ?_
    refine ⟨by show ((rowN w j).length + (lenEnc (w j).length).length) * 1 ≤ _; omega, by show (rowN w j).length + (lenEnc (w j).length).length ≤ _; omega, ?_⟩
    refine CallA.body Tryz.tabOk ft87 ?_
    refine cc_ca (.inr rfl) rfl ?_
    refine ⟨by show (rowN w j).length + (lenEnc (w j).length).length + (w j).length ≤ _; omega, ?_⟩
    refine ⟨j + 1, (by omega : j + 1 ≤ n), (by omega : n - (j + 1) < n - j), .ren (a := 1) (b := 4) ⟨rfl, ⟨rfl, rfl, rfl, Nat.le_of_ble_eq_true rfl⟩, ⟨LV.le.int e11, rfl, LV.le.refl _, rfl, LV.le.refl _, rfl, LV.le.refl _, rfl, trivial⟩,
      ⟨⟨_, rfl, LO.le.arr hll.symm fun i hi => ?_⟩, rfl, rfl, ⟨_, rfl, LO.le.box ⟨_, _, rfl, LV.le.refl _, _, _, rfl, LV.le.eq (congrArg (LV.ls 4) hll.symm), rfl⟩⟩, rfl, rfl, trivial⟩⟩⟩
    have hi : i < (rowN w j).length + (lenEnc (w j).length).length + (w j).length := hi
    show (match Nat.blt i ((rowN w j).length + (lenEnc (w j).length).length) with | true => (match Nat.blt i (rowN w j).length with | true => bytesG (rowN w j) i | false => bytesG (lenEnc (w j).length) (i - (rowN w j).length)) | false => bytesG (w j) (i - ((rowN w j).length + (lenEnc (w j).length).length))) = bytesG ((rowN w j ++ lenEnc (w j).length) ++ w j) i
    rw [← bytes_app (a := rowN w j ++ lenEnc (w j).length) (b := w j) i (by rw [List.length_append]; exact hi), List.length_append]
    by_cases h2 : i < (rowN w j).length + (lenEnc (w j).length).length
    · rw [bltT h2]
      exact bytes_app i h2
    · rw [bltN h2]
  · have hj : j ≤ n := hj
    have h := dF h
    have h : ¬ (j : Int) < n := h
    obtain rfl : j = n := by omega
    refine bs_ca (l := rowN w j) rfl rfl ⟨rfl, fun i hi => rfl⟩ ?_
    exact ⟨LV.le.refl _, rfl⟩
end Go.Proofs.Aw
namespace Go.Proofs.Aw
open Go Go.Proofs Go.RowKit
set_option maxHeartbeats 4000000
set_option maxRecDepth 100000
def rdRes : Rd → LV
  | .bad e => .tup [.v (.int .i64 0), .v (.int .i64 0), .v (.int .i64 e)]
  | .ok n s => .tup [.v (.int .i64 (n : Int)), .v (.int .i64 (s : Int)), .v (.int .i64 0)]
theorem drop_at {b : List UInt8} {i : Nat} (h : i < b.length) : b.drop i = b.getD i 0 :: b.drop (i + 1) := by
  rw [List.drop_eq_getElem_cons h]
  simp [List.getElem?_eq_getElem h]
theorem shl7 (i x : Nat) (hi : i ≤ 3) (hx : x < 128) : IntKind.i64.wrap ((x : Int) * 2 ^ (min (7 * (i : Int)).toNat IntKind.i64.bits)) = ((x * 2 ^ (7 * i) : Nat) : Int) ∧ x * 2 ^ (7 * i) < 268435456 := by
  rcases (by omega : i = 0 ∨ i = 1 ∨ i = 2 ∨ i = 3) with rfl | rfl | rfl | rfl <;> (refine ⟨?_, by simp; omega⟩; rw [IntKind.wrap_i64]; simp [IntKind.bits]; omega)
theorem pow7 {i n x : Nat} (hi : i ≤ 3) (hn : n < 2 ^ (7 * i)) (hx : x < 128) : n + x * 2 ^ (7 * i) < 2 ^ (7 * (i + 1)) := by
  rcases (by omega : i = 0 ∨ i = 1 ∨ i = 2 ∨ i = 3) with rfl | rfl | rfl | rfl <;> simp at hn ⊢ <;> omega
theorem pow28 {i n : Nat} (hi : i ≤ 3) (hn : n < 2 ^ (7 * i)) : n < 268435456 := by
  rcases (by omega : i = 0 ∨ i = 1 ∨ i = 2 ∨ i = 3) with rfl | rfl | rfl | rfl <;> simp at hn ⊢ <;> omega
theorem eqI {a b : Int} (h : (a == b) = true) : a = b := by simpa using h
theorem neI {a b : Int} (h : (a == b) = false) : a ≠ b := by simpa using h
theorem read_ct (b : List UInt8) (hb : b.length ≤ 1000000000) (R : Rd) (hR : rdAt 0 0 b = R) : Ct Tryz.prog 104 [.str b] (rdRes R) := by
  refine Ct.enter Tryz.tabOk ft104 ?_
  refine ⟨Nat × Nat, fun q => ⟨[(9, .v (.int .i64 (q.1 : Int))), (8, .v (.int .i64 (b.length : Int))), (2, .v (.int .i64 (q.2 : Int))), (0, .str b)], [], 0, 0⟩, fun q => q.1 ≤ b.length ∧ q.1 ≤ 3 ∧ q.2 < 2 ^ (7 * q.1) ∧ rdAt q.1 q.2 (b.drop q.1) = R, fun q => b.length - q.1, (0, 0), ⟨Nat.zero_le _, Nat.zero_le _, by decide, hR⟩,
    .le ⟨rfl, ⟨rfl, Nat.le_refl _⟩, ⟨LV.le.refl _, rfl, LV.le.refl _, rfl, LV.le.refl _, rfl, LV.le.refl _, rfl, trivial⟩, trivial⟩, fun q hq => ⟨fun h => ?_, fun h => ?_⟩⟩
  · obtain ⟨i, n⟩ := q
    obtain ⟨h1, h2, h3, h4⟩ := hq
    have h1 : i ≤ b.length := h1
    have h2 : i ≤ 3 := h2
    have h3 : n < 2 ^ (7 * i) := h3
    have h4 : rdAt i n (b.drop i) = R := h4
    have h := dT h
    have h : (i : Int) < b.length := h
    have hil : i < b.length := by omega
    rw [drop_at hil] at h4
    have hx : (b.getD i 0).toNat < 256 := (b.getD i 0).toNat_lt
    have wx : IntKind.i64.wrap ((b.getD i 0).toNat : Int) = ((b.getD i 0).toNat : Int) := w64 (by omega) (by omega)
    have wi : IntKind.i64.wrap ((i : Int) + 1) = ((i + 1 : Nat) : Int) := by rw [w64] <;> omega
    have w7 : IntKind.i64.wrap (7 * (i : Int)) = 7 * (i : Int) := w64 (by omega) (by omega)
    have hm : (b.getD i 0).toNat % 128 < 128 := Nat.mod_lt _ (by decide)
    have tm : (IntKind.i64.wrap ((b.getD i 0).toNat : Int)).tmod 128 = (((b.getD i 0).toNat % 128 : Nat) : Int) := by rw [wx, Int.tmod_eq_emod_of_nonneg (by omega)]; omega
    have hs := shl7 i ((b.getD i 0).toNat % 128) h2 hm
    have hn2 := pow28 h2 h3
    have hadd : IntKind.i64.wrap ((n : Int) + IntKind.i64.wrap ((IntKind.i64.wrap ((b.getD i 0).toNat : Int)).tmod 128 * 2 ^ (min (IntKind.i64.wrap (7 * (i : Int))).toNat IntKind.i64.bits))) = ((n + (b.getD i 0).toNat % 128 * 2 ^ (7 * i) : Nat) : Int) := by
      rw [tm, w7, hs.1, w64 (by omega) (by omega)]
      omega
    have h0 : (0 : Int) ≤ IntKind.i64.wrap (7 * (i : Int)) := by rw [w7]; omega
    simp only [rdAt] at h4
    -- what stands behind the two tests
    have good : ¬ ((i = 3 ∧ 128 ≤ (b.getD i 0).toNat) ∨ (0 < i ∧ (b.getD i 0).toNat = 0)) → ((b.getD i 0).toNat < 128 → R = .ok (n + (b.getD i 0).toNat % 128 * 2 ^ (7 * i)) (i + 1)) ∧ (¬ (b.getD i 0).toNat < 128 → i + 1 ≤ 3 ∧ rdAt (i + 1) (n + (b.getD i 0).toNat % 128 * 2 ^ (7 * i)) (b.drop (i + 1)) = R) := by
      intro hg
      rw [if_neg hg] at h4
      refine ⟨fun hl => ?_, fun hl => ⟨by omega, ?_⟩⟩
      · rw [if_pos hl] at h4; exact h4.symm
      · rw [if_neg hl] at h4; exact h4
    have bad : ((i = 3 ∧ 128 ≤ (b.getD i 0).toNat) ∨ (0 < i ∧ (b.getD i 0).toNat = 0)) → R = .bad 3 := by
      intro hg
      rw [if_pos hg] at h4; exact h4.symm
    clear h4 hR
    refine ⟨⟨by omega, by omega⟩, ⟨fun a3 => ⟨fun ax => ⟨fun _ => ?_, fun ay => absurd (ax.symm.trans ay) (by decide)⟩, fun ax => ⟨fun a0 => ⟨fun az => ?_, fun az => ?_⟩, fun a0 => ?_⟩⟩, fun a3 => ⟨fun a0 => ⟨fun az => ?_, fun az => ?_⟩, fun a0 => ?_⟩⟩⟩
    · have a3 : (i : Int) = 3 := eqI a3
      have ax := dT ax
      have ax : IntKind.i64.wrap ((b.getD i 0).toNat : Int) ≥ 128 := ax
      obtain rfl := bad (by omega)
      exact ⟨LV.le.refl _, rfl⟩
    · have a3 : (i : Int) = 3 := eqI a3
      have ax := dF ax
      have ax : ¬ IntKind.i64.wrap ((b.getD i 0).toNat : Int) ≥ 128 := ax
      have a0 := dT a0
      have a0 : (i : Int) > 0 := a0
      have az : IntKind.i64.wrap ((b.getD i 0).toNat : Int) = 0 := eqI az
      obtain rfl := bad (by omega)
      exact ⟨LV.le.refl _, rfl⟩
    · have a3 : (i : Int) = 3 := eqI a3
      have ax := dF ax
      have ax : ¬ IntKind.i64.wrap ((b.getD i 0).toNat : Int) ≥ 128 := ax
      have a0 := dT a0
      have a0 : (i : Int) > 0 := a0
      have az : IntKind.i64.wrap ((b.getD i 0).toNat : Int) ≠ 0 := neI az
      have hg : ¬ ((i = 3 ∧ 128 ≤ (b.getD i 0).toNat) ∨ (0 < i ∧ (b.getD i 0).toNat = 0)) := by omega
      refine ⟨by decide, h0, ⟨fun al => ?_, fun al => ?_⟩⟩
      · have al := dT al
        have al : IntKind.i64.wrap ((b.getD i 0).toNat : Int) < 128 := al
        obtain rfl := (good hg).1 (by omega)
        exact ⟨LV.le.tup ⟨_, _, rfl, LV.le.int hadd, _, _, rfl, LV.le.int wi, _, _, rfl, LV.le.refl _, rfl⟩, rfl⟩
      · have al := dF al
        have al : ¬ IntKind.i64.wrap ((b.getD i 0).toNat : Int) < 128 := al
        have g := (good hg).2 (by omega)
        exact ⟨(i + 1, n + (b.getD i 0).toNat % 128 * 2 ^ (7 * i)), ⟨(by omega : i + 1 ≤ b.length), g.1, pow7 h2 h3 hm, g.2⟩, (by show b.length - (i + 1) < b.length - i; omega), .le ⟨rfl, ⟨rfl, Nat.le_refl _⟩, ⟨LV.le.int wi, rfl, LV.le.refl _, rfl, LV.le.int hadd, rfl, LV.le.refl _, rfl, trivial⟩, trivial⟩⟩
    · have a3 : (i : Int) = 3 := eqI a3
      have ax := dF ax
      have ax : ¬ IntKind.i64.wrap ((b.getD i 0).toNat : Int) ≥ 128 := ax
      have a0 := dF a0
      have a0 : ¬ (i : Int) > 0 := a0
      exfalso; omega
    · have a3 : (i : Int) ≠ 3 := neI a3
      have a0 := dT a0
      have a0 : (i : Int) > 0 := a0
      have az : IntKind.i64.wrap ((b.getD i 0).toNat : Int) = 0 := eqI az
      obtain rfl := bad (by omega)
      exact ⟨LV.le.refl _, rfl⟩
    · have a3 : (i : Int) ≠ 3 := neI a3
      have a0 := dT a0
      have a0 : (i : Int) > 0 := a0
      have az : IntKind.i64.wrap ((b.getD i 0).toNat : Int) ≠ 0 := neI az
      have hg : ¬ ((i = 3 ∧ 128 ≤ (b.getD i 0).toNat) ∨ (0 < i ∧ (b.getD i 0).toNat = 0)) := by omega
      refine ⟨by decide, h0, ⟨fun al => ?_, fun al => ?_⟩⟩
      · have al := dT al
        have al : IntKind.i64.wrap ((b.getD i 0).toNat : Int) < 128 := al
        obtain rfl := (good hg).1 (by omega)
        exact ⟨LV.le.tup ⟨_, _, rfl, LV.le.int hadd, _, _, rfl, LV.le.int wi, _, _, rfl, LV.le.refl _, rfl⟩, rfl⟩
      · have al := dF al
        have al : ¬ IntKind.i64.wrap ((b.getD i 0).toNat : Int) < 128 := al
        have g := (good hg).2 (by omega)
        exact ⟨(i + 1, n + (b.getD i 0).toNat % 128 * 2 ^ (7 * i)), ⟨(by omega : i + 1 ≤ b.length), g.1, pow7 h2 h3 hm, g.2⟩, (by show b.length - (i + 1) < b.length - i; omega), .le ⟨rfl, ⟨rfl, Nat.le_refl _⟩, ⟨LV.le.int wi, rfl, LV.le.refl _, rfl, LV.le.int hadd, rfl, LV.le.refl _, rfl, trivial⟩, trivial⟩⟩
    · have a3 : (i : Int) ≠ 3 := neI a3
      have a0 := dF a0
      have a0 : ¬ (i : Int) > 0 := a0
      have hg : ¬ ((i = 3 ∧ 128 ≤ (b.getD i 0).toNat) ∨ (0 < i ∧ (b.getD i 0).toNat = 0)) := by omega
      refine ⟨by decide, h0, ⟨fun al => ?_, fun al => ?_⟩⟩
      · have al := dT al
        have al : IntKind.i64.wrap ((b.getD i 0).toNat : Int) < 128 := al
        obtain rfl := (good hg).1 (by omega)
        exact ⟨LV.le.tup ⟨_, _, rfl, LV.le.int hadd, _, _, rfl, LV.le.int wi, _, _, rfl, LV.le.refl _, rfl⟩, rfl⟩
      · have al := dF al
        have al : ¬ IntKind.i64.wrap ((b.getD i 0).toNat : Int) < 128 := al
        have g := (good hg).2 (by omega)
        exact ⟨(i + 1, n + (b.getD i 0).toNat % 128 * 2 ^ (7 * i)), ⟨(by omega : i + 1 ≤ b.length), g.1, pow7 h2 h3 hm, g.2⟩, (by show b.length - (i + 1) < b.length - i; omega), .le ⟨rfl, ⟨rfl, Nat.le_refl _⟩, ⟨LV.le.int wi, rfl, LV.le.refl _, rfl, LV.le.int hadd, rfl, LV.le.refl _, rfl, trivial⟩, trivial⟩⟩
  · obtain ⟨i, n⟩ := q
    obtain ⟨h1, h2, h3, h4⟩ := hq
    have h1 : i ≤ b.length := h1
    have h4 : rdAt i n (b.drop i) = R := h4
    have h := dF h
    have h : ¬ (i : Int) < b.length := h
    obtain rfl : i = b.length := by omega
    rw [List.drop_length] at h4
    obtain rfl : R = .bad 4 := h4.symm
    exact ⟨LV.le.refl _, rfl⟩
end Go.Proofs.Aw
namespace Go.Proofs.Aw
open Go Go.Proofs Go.RowKit
set_option maxHeartbeats 4000000
set_option maxRecDepth 100000
theorem rdAt_bad : ∀ (b : List UInt8) (i n : Nat) (e : Int), rdAt i n b = .bad e → e = 3 ∨ e = 4
  | [], i, n, e, h => by simp [rdAt] at h; omega
  | x :: r, i, n, e, h => by
    simp only [rdAt] at h
    split at h
    · injection h with h; omega
    · split at h
      · cases h
      · exact rdAt_bad r _ _ _ h
theorem rdT_bads {b : List UInt8} {e : Int} (h : rdT b = .bad e) : e = 3 ∨ e = 4 := by
  have key : ∀ (f : Nat) (b : List UInt8), b.length ≤ f → rdT b = .bad e → e = 3 ∨ e = 4 := by
    intro f
    induction f with
    | zero =>
      intro b hb h
      obtain rfl : b = [] := List.eq_nil_of_length_eq_zero (by omega)
      cases h
    | succ f ih =>
      intro b hb h
      by_cases h0 : b = []
      · subst h0; cases h
      · rw [rdT_cons h0] at h
        split at h
        · rename_i e' hr
          injection h with h; subst h
          exact rdAt_bad _ _ _ _ hr
        · rename_i n s hr
          have hs := rdAt_size _ _ _ _ _ hr
          split at h
          · injection h with h; omega
          · split at h
            · rename_i e' he
              injection h with h; subst h
              exact ih _ (by rw [List.length_drop]; omega) he
            · cases h
  exact key _ b (Nat.le_refl _) h
def atL (l : List (List UInt8)) : TL := fun i => l.getD i []
def txL (l : List (List UInt8)) : LV := .sl 1 l.length (tx (atL l))
def txRes : Tx → LV
  | .bad e => .tup [.v (.slice none 0 0), .v (.int .i64 e)]
  | .ok l => .tup [txL l, .v (.int .i64 0)]
theorem atL_app {a r : List (List UInt8)} {i : Nat} (h : i < a.length) : atL (a ++ r) i = atL a i := by
  simp only [atL, List.getD_eq_getElem?_getD, List.getElem?_append_left h]
theorem atL_last {a : List (List UInt8)} {x : List UInt8} : atL (a ++ [x]) a.length = x := by
  simp [atL]
/-- one text more -/
theorem texts_snoc {a : List (List UInt8)} {x : List UInt8} {c : List LV} (hc : c = [.str x]) : ∀ i, i < a.length + 1 → (match Nat.blt i a.length with | true => tx (atL a) i | false => (([c].flatten).drop ((i - a.length) * 1)).take 1) = tx (atL (a ++ [x])) i := by
  intro i hi
  by_cases h : i < a.length
  · rw [bltT h]; simp only [tx]; rw [atL_app h]
  · obtain rfl : i = a.length := by omega
    rw [bltN h, hc, Nat.sub_self]
    simp only [tx]
    rw [atL_last]
    rfl
theorem texts_ct (b : List UInt8) (hb : b.length ≤ 100000000) (T : Tx) (hT : rdT b = T) : Ct Tryz.prog 69 [.str b] (txRes T) := by
  refine Ct.enter Tryz.tabOk ft69 ?_
  refine ⟨List (List UInt8) × List UInt8, fun q => ⟨[(4, .ls 0 q.1.length), (0, .str q.2)], [(0, .arr 9 1 q.1.length (tx (atL q.1)))], 1, 0⟩, fun q => (rdT q.2).pre q.1 = T ∧ q.1.length + q.2.length ≤ b.length, fun q => q.2.length, ([], b), ⟨by rw [Tx.pre_nil]; exact hT, by simp⟩,
    .own (ty := 9) (sz := 1) ⟨rfl, rfl, ⟨.nil, rfl, .refl _, rfl, trivial⟩, ⟨⟨_, rfl, .of (LO.le.arr rfl fun i hi => absurd hi (by simp))⟩, rfl, rfl, trivial⟩⟩, fun q hq => ⟨fun h => ?_, fun h => ?_⟩⟩
  · obtain ⟨acc, r⟩ := q
    obtain ⟨h1, h2⟩ := hq
    have h1 : (rdT r).pre acc = T := h1
    have h2 : acc.length + r.length ≤ b.length := h2
    have h : (r != []) = true := h
    have hr0 : r ≠ [] := by simpa using h
    clear hT
    cases hR : rdAt 0 0 r with
    | bad e =>
      refine Ct.callC (read_ct r (by omega) _ hR) rfl (leL.refl _) ?_
      refine ⟨fun _ => ?_, fun h => ?_⟩
      · rw [rdT_bad hr0 hR] at h1
        obtain rfl : T = .bad e := h1.symm
        exact ⟨LV.le.refl _, rfl⟩
      · have h : (e != 0) = false := h
        have := rdAt_bad _ _ _ _ hR
        have h0 : e = 0 := by simpa using h
        omega
    | ok n s =>
      have hs := rdAt_size _ _ _ _ _ hR
      have ws : IntKind.i64.wrap ((r.length : Int) - (s : Int)) = (r.length : Int) - s := w64 (by omega) (by omega)
      refine Ct.callC (read_ct r (by omega) _ hR) rfl (leL.refl _) ?_
      refine ⟨fun h => absurd h (by decide), fun _ => ⟨fun h => ?_, fun h => ?_⟩⟩
      · have h := dT h
        have h : IntKind.i64.wrap ((r.length : Int) - (s : Int)) < n := h
        rw [rdT_short hR (by omega)] at h1
        obtain rfl : T = .bad 4 := h1.symm
        exact ⟨LV.le.refl _, rfl⟩
      · have h := dF h
        have h : ¬ IntKind.i64.wrap ((r.length : Int) - (s : Int)) < n := h
        have hle : s + n ≤ r.length := by omega
        rw [rdT_step hR (by omega), Tx.pre_pre] at h1
        have wa : IntKind.i64.wrap ((s : Int) + (n : Int)) = ((s + n : Nat) : Int) := by rw [w64] <;> omega
        refine ⟨⟨by omega, by rw [wa]; omega, by rw [wa]; exact Int.ofNat_le.mpr hle⟩, by show (acc.length + 1) * 16 ≤ _; omega, by show acc.length + 1 ≤ _; omega, ⟨by rw [wa]; omega, by rw [wa]; exact Int.ofNat_le.mpr hle, Int.le_refl _⟩, ⟨(acc ++ [(r.drop s).take n], r.drop (s + n)), ⟨h1, by simp; omega⟩, (by show (r.drop (s + n)).length < r.length; rw [List.length_drop]; omega), .ren (a := 0) (b := 2) ⟨rfl, ⟨rfl, rfl, rfl, Nat.le_of_ble_eq_true rfl⟩, ⟨LV.le.eq (congrArg (LV.ls 2) (by simp)), rfl, LV.le.eq (congrArg LV.str ?_), rfl, trivial⟩, ⟨⟨_, rfl, LO.le.arr (by simp) fun i hi => ?_⟩, rfl, rfl, trivial⟩⟩⟩⟩
        · rw [wa]
          show (r.take r.length).drop (s + n) = _
          rw [List.take_length]
        · refine texts_snoc (x := (r.drop s).take n) (c := [_]) ?_ i hi
          refine congrArg (fun z => [LV.str z]) ?_
          rw [wa]
          show (r.take (s + n)).drop s = _
          rw [List.drop_take]
          congr 1
          omega
  · obtain ⟨acc, r⟩ := q
    obtain ⟨h1, h2⟩ := hq
    have h1 : (rdT r).pre acc = T := h1
    have h : (r != []) = false := h
    obtain rfl : r = [] := by simpa using h
    rw [rdT_nil] at h1
    have h1 : Tx.ok (acc ++ []) = T := h1
    rw [List.append_nil] at h1
    obtain rfl : T = .ok acc := h1.symm
    exact ⟨LV.le.refl _, rfl⟩
end Go.Proofs.Aw
namespace Go.Proofs.Aw
open Go Go.Proofs Go.RowKit
set_option maxHeartbeats 8000000
set_option maxRecDepth 100000
def hibi : List UInt8 := [104, 105, 98, 105]
/-- the image of bytes, or none -/
def img (b : List UInt8) : Option (List (List UInt8) × List (List UInt8) × List UInt8) := match rdT b with
  | .ok [w, x, y, z] => if w = hibi then (match rdT x, rdT y with
    | .ok f, .ok g => some (f, g, z)
    | _, _ => none) else none
  | _ => none
def imgRes : Option (List (List UInt8) × List (List UInt8) × List UInt8) → LV
  | none => .tup [.agg [.v (.slice none 0 0), .v (.slice none 0 0), .str []], .v (.int .i64 3)]
  | some (f, g, z) => .tup [.agg [txL f, txL g, .str z], .v (.int .i64 0)]
theorem img_bad {b : List UInt8} {e : Int} (h : rdT b = .bad e) : img b = none := by unfold img; rw [h]
theorem img_len {b : List UInt8} {l : List (List UInt8)} (h : rdT b = .ok l) (hl : l.length ≠ 4) : img b = none := by
  unfold img; rw [h]
  match l with
  | [] => rfl
  | [_] => rfl
  | [_, _] => rfl
  | [_, _, _] => rfl
  | [_, _, _, _] => simp at hl
  | _ :: _ :: _ :: _ :: _ :: _ => rfl
theorem img_word {b w x y z : List UInt8} (h : rdT b = .ok [w, x, y, z]) (hw : w ≠ hibi) : img b = none := by unfold img; rw [h]; exact if_neg hw
theorem img_x {b w x y z : List UInt8} {e : Int} (h : rdT b = .ok [w, x, y, z]) (hx : rdT x = .bad e) : img b = none := by
  unfold img; rw [h]; simp only [hx]; exact ite_self none
theorem img_y {b w x y z : List UInt8} {e : Int} (h : rdT b = .ok [w, x, y, z]) (hy : rdT y = .bad e) : img b = none := by
  unfold img; rw [h]; simp only [hy]; cases rdT x <;> exact ite_self none
theorem img_ok {b x y z : List UInt8} {f g : List (List UInt8)} (h : rdT b = .ok [hibi, x, y, z]) (hx : rdT x = .ok f) (hy : rdT y = .ok g) : img b = some (f, g, z) := by
  unfold img; rw [h]; simp only [hx, hy]; simp
theorem four {l : List (List UInt8)} (h : l.length = 4) : ∃ w x y z, l = [w, x, y, z] := by
  match l, h with
  | [w, x, y, z], _ => exact ⟨w, x, y, z, rfl⟩
theorem row_mem {l : List (List UInt8)} {x : List UInt8} (h : x ∈ l) : x.length ≤ (rowL l).length := by
  induction l with
  | nil => cases h
  | cons s r ih =>
    simp only [rowL, List.length_append]
    rcases List.mem_cons.1 h with rfl | h
    · omega
    · have := ih h; omega
theorem rdT_mem {b x : List UInt8} {l : List (List UInt8)} (h : rdT b = .ok l) (hx : x ∈ l) : x.length ≤ b.length := by
  have := rdT_row b.length b l (Nat.le_refl _) h
  have h2 := row_mem hx
  rw [this] at h2; exact h2
theorem neT {a b : List UInt8} (h : (a != b) = true) : a ≠ b := by simpa using h
theorem neF {a b : List UInt8} (h : (a != b) = false) : a = b := by simpa using h
theorem iread_ct (b : List UInt8) (hb : b.length ≤ 100000000) (R : Option (List (List UInt8) × List (List UInt8) × List UInt8)) (hR : img b = R) : Ct Tryz.prog 31 [.str b] (imgRes R) := by
  refine Ct.enter Tryz.tabOk ft31 ?_
  cases hT : rdT b with
  | bad e =>
    have he := rdT_bads hT
    refine Ct.callC (texts_ct b hb _ hT) rfl (leL.refl _) ?_
    refine ⟨fun _ => ?_, fun h => ?_⟩
    · rw [img_bad hT] at hR
      subst hR
      exact ⟨LV.le.refl _, rfl⟩
    · have h : (e != 0) = false := h
      have h0 : e = 0 := by simpa using h
      omega
  | ok l =>
    refine Ct.callC (texts_ct b hb _ hT) rfl (leL.refl _) ?_
    refine ⟨fun h => absurd h (by decide), fun _ => ⟨fun h => ?_, fun h => ?_⟩⟩
    · have h : ((l.length : Int) != 4) = true := h
      have h : (l.length : Int) ≠ 4 := by simpa using h
      rw [img_len hT (by omega)] at hR
      subst hR
      exact ⟨LV.le.refl _, rfl⟩
    · have h : ((l.length : Int) != 4) = false := h
      have h : (l.length : Int) = 4 := by simpa using h
      obtain ⟨w, x, y, z, rfl⟩ := four (l := l) (by omega)
      clear h
      refine ⟨⟨by decide, by simp⟩, ⟨fun hw => ?_, fun hw => ?_⟩⟩
      · have hw : (w != hibi) = true := hw
        rw [img_word hT (neT hw)] at hR
        subst hR
        exact ⟨LV.le.refl _, rfl⟩
      · have hw : (w != hibi) = false := hw
        obtain rfl : w = hibi := neF hw
        have lx := rdT_mem hT (x := x) (by simp)
        have ly := rdT_mem hT (x := y) (by simp)
        refine ⟨⟨by decide, by simp⟩, ?_⟩
        cases hx : rdT x with
        | bad e =>
          have he := rdT_bads hx
          rw [img_x hT hx] at hR
          subst hR
          refine Ct.callC (texts_ct x (by omega) _ hx) rfl (leL.refl _) ?_
          refine ⟨⟨by decide, by simp⟩, ?_⟩
          cases hy : rdT y with
          | bad e2 =>
            refine Ct.callC (texts_ct y (by omega) _ hy) rfl (leL.refl _) ?_
            refine ⟨fun _ => ?_, fun h => ?_⟩
            · exact ⟨LV.le.refl _, rfl⟩
            · have h : (e != 0) = false := h
              have h0 : e = 0 := by simpa using h
              omega
          | ok g =>
            refine Ct.callC (texts_ct y (by omega) _ hy) rfl (leL.refl _) ?_
            refine ⟨fun _ => ?_, fun h => ?_⟩
            · exact ⟨LV.le.refl _, rfl⟩
            · have h : (e != 0) = false := h
              have h0 : e = 0 := by simpa using h
              omega
        | ok f =>
          refine Ct.callC (texts_ct x (by omega) _ hx) rfl (leL.refl _) ?_
          refine ⟨⟨by decide, by simp⟩, ?_⟩
          cases hy : rdT y with
          | bad e2 =>
            have he := rdT_bads hy
            rw [img_y hT hy] at hR
            subst hR
            refine Ct.callC (texts_ct y (by omega) _ hy) rfl (leL.refl _) ?_
            refine ⟨fun h => absurd h (by decide), fun _ => ⟨fun _ => ?_, fun h => ?_⟩⟩
            · exact ⟨LV.le.refl _, rfl⟩
            · have h : (e2 != 0) = false := h
              have h0 : e2 = 0 := by simpa using h
              omega
          | ok g =>
            rw [img_ok hT hx hy] at hR
            subst hR
            refine Ct.callC (texts_ct y (by omega) _ hy) rfl (leL.refl _) ?_
            refine ⟨fun h => absurd h (by decide), fun _ => ⟨fun h => absurd h (by decide), fun _ => ?_⟩⟩
            refine ⟨⟨by decide, by simp⟩, ?_⟩
            exact ⟨LV.le.refl _, rfl⟩
end Go.Proofs.Aw
namespace Go.Proofs.Aw
open Go Go.Proofs
set_option maxHeartbeats 4000000
set_option maxRecDepth 100000
def wab : TL := fun i => match i with
  | 0 => [97]
  | _ => [98]
def wax : TL := fun i => match i with
  | 0 => [97]
  | _ => [120]
def wc : TL := fun _ => [99]
abbrev kA : KL := pK (wK noneK wab wax 2 2) wax 2 9
abbrev kB : KL := pK (wK noneK wc wc 1 1) wc 1 (pN (wK noneK wab wax 2 2) 2 9 (2 : Nat))
theorem LV.le.bsV {b c : Bool} (h : b = c) : LV.le (.bs b) (.v (.bool c)) := fun m N y hr => by subst h; exact hr
theorem alive_cnt : cnt (catK 2 kA kB) (2 + 1) = 0 := by decide
theorem alive_cnt0 : 0 < cnt (catK 2 noneK noneK) (2 + 1) := by decide
theorem alive_ct : Ct Tryz.prog 16 [] (.v (.bool true)) := by
  refine Ct.enter Tryz.tabOk ft16 ?_
  refine CallA.frz [0, 1, 4] ?_
  refine Ct.callC (begin_bad 7 2 1 wab wc (by omega) (by omega)) rfl ?_ ?_
  · exact ⟨_, _, rfl, LV.le.agg ⟨_, _, rfl, LV.le.refl _, _, _, rfl, LV.le.refl _, _, _, rfl, LV.le.any _, _, _, rfl, LV.le.any _, _, _, rfl, (LV.le.slL rfl fun i hi => by rcases (by omega : i = 0 ∨ i = 1) with rfl | rfl <;> exact leL.of rfl), _, _, rfl, LV.le.any _, _, _, rfl, LV.le.any _, _, _, rfl, LV.le.any _, _, _, rfl, LV.le.any _, _, _, rfl, LV.le.any _, _, _, rfl, LV.le.any _, _, _, rfl, LV.le.any _, _, _, rfl, LV.le.any _, _, _, rfl, (LV.le.slL rfl fun i hi => by obtain rfl : i = 0 := (by omega); exact leL.of rfl), _, _, rfl, LV.le.any _, _, _, rfl, LV.le.any _, _, _, rfl, LV.le.any _, rfl⟩, rfl⟩
  refine Ct.callC (image_busy 7 2 1 noneK noneK [] (by omega) (by omega) alive_cnt0) rfl (leL.refl _) ?_
  refine DrawA.run Tryz.tabOk Tryz.mixed [0, 0, 0, 7, 0, 31, 0, 127] [6, 7] rfl ?_
  refine ⟨_, ⟨LV.le.refl _, rfl⟩, ?_⟩
  refine ⟨_, ⟨LV.le.refl _, rfl⟩, ?_⟩
  refine ⟨_, ⟨LV.le.refl _, rfl⟩, ?_⟩
  refine ⟨_, Ct.callC (went_ct 7 2 1 2 2 1 1 noneK noneK [] wab wax wc wc (by omega) (by omega) (by omega) (by omega) (by omega) (by omega)) rfl ⟨_, _, rfl, LV.le.refl _, _, _, rfl, LV.le.agg ⟨_, _, rfl, LV.le.any _, _, _, rfl, LV.le.any _, _, _, rfl, LV.le.any _, _, _, rfl, LV.le.any _, _, _, rfl, (LV.le.slL rfl fun i hi => by rcases (by omega : i = 0 ∨ i = 1) with rfl | rfl <;> exact leL.of rfl), _, _, rfl, LV.le.any _, _, _, rfl, LV.le.any _, _, _, rfl, LV.le.any _, _, _, rfl, LV.le.any _, _, _, rfl, LV.le.any _, _, _, rfl, LV.le.any _, _, _, rfl, LV.le.any _, _, _, rfl, LV.le.any _, _, _, rfl, (LV.le.slL rfl fun i hi => by obtain rfl : i = 0 := (by omega); exact leL.of rfl), _, _, rfl, LV.le.any _, _, _, rfl, LV.le.any _, _, _, rfl, LV.le.any _, rfl⟩, _, _, rfl, LV.le.agg ⟨_, _, rfl, LV.le.any _, _, _, rfl, LV.le.any _, _, _, rfl, LV.le.any _, _, _, rfl, LV.le.any _, _, _, rfl, (LV.le.slL rfl fun i hi => by rcases (by omega : i = 0 ∨ i = 1) with rfl | rfl <;> exact leL.of rfl), _, _, rfl, LV.le.any _, _, _, rfl, LV.le.any _, _, _, rfl, LV.le.any _, _, _, rfl, LV.le.any _, _, _, rfl, LV.le.any _, _, _, rfl, LV.le.any _, _, _, rfl, LV.le.any _, _, _, rfl, LV.le.any _, _, _, rfl, (LV.le.slL rfl fun i hi => by obtain rfl : i = 0 := (by omega); exact leL.of rfl), _, _, rfl, LV.le.any _, _, _, rfl, LV.le.any _, _, _, rfl, LV.le.any _, rfl⟩, rfl⟩ ⟨LV.le.refl _, rfl⟩, ?_⟩
  refine ⟨_, ⟨LV.le.refl _, rfl⟩, ?_⟩
  refine ⟨_, Ct.callC (pump_ct 7 9 2 1 2 1 (wK noneK wab wax 2 2) (wK noneK wc wc 1 1) [] wax wc (by omega) (by omega) (by omega) (by omega) (by omega)) rfl ⟨_, _, rfl, LV.le.refl _, _, _, rfl, LV.le.agg ⟨_, _, rfl, LV.le.any _, _, _, rfl, LV.le.any _, _, _, rfl, LV.le.any _, _, _, rfl, LV.le.any _, _, _, rfl, (LV.le.slL rfl fun i hi => by rcases (by omega : i = 0 ∨ i = 1) with rfl | rfl <;> exact leL.of rfl), _, _, rfl, LV.le.any _, _, _, rfl, LV.le.any _, _, _, rfl, LV.le.any _, _, _, rfl, LV.le.any _, _, _, rfl, LV.le.any _, _, _, rfl, LV.le.any _, _, _, rfl, LV.le.any _, _, _, rfl, LV.le.any _, _, _, rfl, (LV.le.slL rfl fun i hi => by obtain rfl : i = 0 := (by omega); exact leL.of rfl), _, _, rfl, LV.le.any _, _, _, rfl, LV.le.any _, _, _, rfl, LV.le.any _, rfl⟩, _, _, rfl, LV.le.refl _, rfl⟩ ⟨LV.le.refl _, rfl⟩, ?_⟩
  refine ⟨_, _, ⟨LV.le.refl _, rfl⟩, ?_⟩
  refine ⟨_, _, ⟨LV.le.refl _, rfl⟩, ?_⟩
  refine ⟨?_, ?_⟩
  · refine ⟨⟨True.intro, ⟨LV.le.refl _, rfl⟩, True.intro⟩, ?_⟩
    refine ⟨⟨True.intro, ⟨LV.le.refl _, rfl⟩, True.intro⟩, ?_⟩
    refine ⟨⟨True.intro, ⟨LV.le.refl _, rfl⟩, True.intro⟩, ?_⟩
    refine ⟨⟨True.intro, Ct.callC (went_ct 7 2 1 2 2 1 1 noneK noneK [] wab wax wc wc (by omega) (by omega) (by omega) (by omega) (by omega) (by omega)) rfl ⟨_, _, rfl, LV.le.refl _, _, _, rfl, LV.le.agg ⟨_, _, rfl, LV.le.any _, _, _, rfl, LV.le.any _, _, _, rfl, LV.le.any _, _, _, rfl, LV.le.any _, _, _, rfl, (LV.le.slL rfl fun i hi => by rcases (by omega : i = 0 ∨ i = 1) with rfl | rfl <;> exact leL.of rfl), _, _, rfl, LV.le.any _, _, _, rfl, LV.le.any _, _, _, rfl, LV.le.any _, _, _, rfl, LV.le.any _, _, _, rfl, LV.le.any _, _, _, rfl, LV.le.any _, _, _, rfl, LV.le.any _, _, _, rfl, LV.le.any _, _, _, rfl, (LV.le.slL rfl fun i hi => by obtain rfl : i = 0 := (by omega); exact leL.of rfl), _, _, rfl, LV.le.any _, _, _, rfl, LV.le.any _, _, _, rfl, LV.le.any _, rfl⟩, _, _, rfl, LV.le.agg ⟨_, _, rfl, LV.le.any _, _, _, rfl, LV.le.any _, _, _, rfl, LV.le.any _, _, _, rfl, LV.le.any _, _, _, rfl, (LV.le.slL rfl fun i hi => by rcases (by omega : i = 0 ∨ i = 1) with rfl | rfl <;> exact leL.of rfl), _, _, rfl, LV.le.any _, _, _, rfl, LV.le.any _, _, _, rfl, LV.le.any _, _, _, rfl, LV.le.any _, _, _, rfl, LV.le.any _, _, _, rfl, LV.le.any _, _, _, rfl, LV.le.any _, _, _, rfl, LV.le.any _, _, _, rfl, (LV.le.slL rfl fun i hi => by obtain rfl : i = 0 := (by omega); exact leL.of rfl), _, _, rfl, LV.le.any _, _, _, rfl, LV.le.any _, _, _, rfl, LV.le.any _, rfl⟩, rfl⟩ ⟨LV.le.refl _, rfl⟩, True.intro⟩, ?_⟩
    refine ⟨⟨True.intro, ⟨LV.le.refl _, rfl⟩, True.intro⟩, ?_⟩
    refine ⟨⟨True.intro, Ct.callC (pump_ct 7 9 2 1 2 1 (wK noneK wab wax 2 2) (wK noneK wc wc 1 1) [] wax wc (by omega) (by omega) (by omega) (by omega) (by omega)) rfl ⟨_, _, rfl, LV.le.refl _, _, _, rfl, LV.le.agg ⟨_, _, rfl, LV.le.any _, _, _, rfl, LV.le.any _, _, _, rfl, LV.le.any _, _, _, rfl, LV.le.any _, _, _, rfl, (LV.le.slL rfl fun i hi => by rcases (by omega : i = 0 ∨ i = 1) with rfl | rfl <;> exact leL.of rfl), _, _, rfl, LV.le.any _, _, _, rfl, LV.le.any _, _, _, rfl, LV.le.any _, _, _, rfl, LV.le.any _, _, _, rfl, LV.le.any _, _, _, rfl, LV.le.any _, _, _, rfl, LV.le.any _, _, _, rfl, LV.le.any _, _, _, rfl, (LV.le.slL rfl fun i hi => by obtain rfl : i = 0 := (by omega); exact leL.of rfl), _, _, rfl, LV.le.any _, _, _, rfl, LV.le.any _, _, _, rfl, LV.le.any _, rfl⟩, _, _, rfl, LV.le.refl _, rfl⟩ ⟨LV.le.refl _, rfl⟩, True.intro⟩, ?_⟩
    exact True.intro
  refine CallA.le ⟨[(3, .lp 5 0), (5, .v (.int .i64 12))], [(5, .box 43 [.v (.int .u64 7), .sl 2 2 (kv noneK), .sl 2 1 (kv noneK), .str []])], 8, 0⟩
    ⟨rfl, ⟨rfl, Nat.le_refl _⟩, ⟨LV.le.refl _, rfl, LV.le.refl _, rfl, trivial⟩, ⟨⟨_, rfl, LO.le.refl _⟩, rfl, rfl, trivial⟩⟩ (leL.refl [shot 7 2 1 kA kB []]) rfl ?_
  refine Ct.callC (image_all 7 2 1 kA kB [] (by omega) (by omega) alive_cnt) rfl (leL.refl _) ?_
  refine ⟨fun _ => ?_, fun h => absurd h (by decide)⟩
  refine Ct.callC (left_ct 7 2 1 noneK noneK [] (by omega) (by omega)) rfl (leL.refl _) ?_
  refine ⟨fun _ => ?_, fun h => absurd h (by decide)⟩
  refine ⟨fun _ => ?_, fun h => absurd h (by decide)⟩
  refine ⟨fun _ => ?_, fun h => absurd h (by decide)⟩
  refine ⟨fun _ => ?_, fun h => absurd h (by decide)⟩
  refine ⟨⟨by decide, by decide⟩, ?_⟩
  refine ⟨fun _ => ?_, fun h => absurd h (by decide)⟩
  refine ⟨⟨by decide, by decide⟩, ?_⟩
  refine ⟨fun _ => ?_, fun h => absurd h (by decide)⟩
  refine ⟨fun _ => ?_, fun h => absurd h (by decide)⟩
  refine ⟨⟨by decide, by decide⟩, ?_⟩
  exact ⟨LV.le.bsV (by decide), rfl⟩
end Go.Proofs.Aw
namespace Go.Proofs.Aw
open Go Go.Proofs Go.RowKit
set_option maxHeartbeats 8000000
set_option maxRecDepth 100000
theorem texts_same_ct (n : Nat) (a : TL) (hn : n ≤ 1000000000) : Ct Tryz.prog 52 [.sl 1 n (tx a), .sl 1 n (tx a)] (.v (.bool true)) := by
  refine Ct.enter Tryz.tabOk ft52 ?_
  refine ⟨fun h => absurd h (by simp), fun _ => ?_⟩
  refine ⟨Nat, fun j => ⟨[(13, .v (.int .i64 (j : Int))), (12, .v (.int .i64 (n : Int))), (0, .sl 1 n (tx a)), (1, .sl 1 n (tx a))], [], 0, 0⟩, fun j => j ≤ n, fun j => n - j, 0, Nat.zero_le _,
    .le ⟨rfl, ⟨rfl, Nat.le_refl _⟩, ⟨LV.le.refl _, rfl, LV.le.refl _, rfl, LV.le.refl _, rfl, LV.le.refl _, rfl, trivial⟩, trivial⟩, fun j hj => ⟨fun h1 => ?_, fun h1 => ?_⟩⟩
  · have h1 := dT h1
    have e11 : IntKind.i64.wrap ((j : Int) + 1) = ((j + 1 : Nat) : Int) := by rw [w64] <;> omega
    refine DrawA.run Tryz.tabOk Tryz.mixed [0, 0, 3, 7, 0, 0, 48, 112, 255] [] rfl ?_
    refine ⟨_, ⟨LV.le.refl _, rfl⟩, ?_⟩
    refine ⟨_, ⟨LV.le.refl _, rfl⟩, ?_⟩
    refine ⟨_, ⟨⟨by omega, by omega⟩, LV.le.refl _, rfl⟩, ?_⟩
    refine ⟨_, ⟨LV.le.refl _, rfl⟩, ?_⟩
    refine ⟨_, ⟨LV.le.refl _, rfl⟩, ?_⟩
    refine ⟨_, ⟨LV.le.refl _, rfl⟩, ?_⟩
    refine ⟨_, ⟨⟨by omega, by omega⟩, LV.le.refl _, rfl⟩, ?_⟩
    refine ⟨_, ⟨LV.le.refl _, rfl⟩, ?_⟩
    refine ⟨.v (.bool false), ⟨LV.le.bsV (by simp), rfl⟩, ?_⟩
    refine ⟨True.intro, ?_⟩
    exact ⟨j + 1, (by omega : j + 1 ≤ n), (by omega : n - (j + 1) < n - j), .le ⟨rfl, ⟨rfl, Nat.le_refl _⟩, ⟨LV.le.int e11, rfl, LV.le.refl _, rfl, LV.le.refl _, rfl, LV.le.refl _, rfl, trivial⟩, trivial⟩⟩
  · exact ⟨LV.le.refl _, rfl⟩
def imgL (n m : Nat) (a c : TL) (z : List UInt8) : LV := .agg [.sl 1 n (tx a), .sl 1 m (tx c), .str z]
theorem isame_ct (n m : Nat) (a c : TL) (z : List UInt8) (hn : n ≤ 1000000000) (hm : m ≤ 1000000000) : Ct Tryz.prog 14 [imgL n m a c z, imgL n m a c z] (.v (.bool true)) := by
  refine Ct.enter Tryz.tabOk ft14 ?_
  refine Ct.callC (texts_same_ct n a hn) rfl (leL.refl _) ?_
  refine Ct.callC (texts_same_ct m c hm) rfl (leL.refl _) ?_
  exact ⟨LV.le.bsV (by simp), rfl⟩
theorem rowN_congr {w w' : TL} : ∀ {n : Nat}, (∀ i, i < n → w i = w' i) → rowN w n = rowN w' n
  | 0, _ => rfl
  | n + 1, h => by simp only [rowN]; rw [rowN_congr fun i hi => h i (by omega), h n (by omega)]
theorem rowN_shift (s : List UInt8) (w : TL) : ∀ n, rowN (fun i => match i with | 0 => s | i + 1 => w i) (n + 1) = lenEnc s.length ++ s ++ rowN w n
  | 0 => by simp [rowN]
  | n + 1 => by
    have ih := rowN_shift s w n
    rw [rowN, ih]
    simp [rowN]
theorem rowN_list : ∀ (l : List (List UInt8)), rowN (atL l) l.length = rowL l
  | [] => rfl
  | s :: r => by
    simp only [rowL]
    rw [← rowN_list r, ← rowN_shift s (atL r) r.length]
    refine rowN_congr fun i hi => ?_
    cases i <;> rfl
/-- the four texts of an image's row -/
def four4 (a b c d : List UInt8) : TL := atL [a, b, c, d]
theorem bytes_ct (n m : Nat) (a c : TL) (z : List UInt8) (hn : n ≤ 100000000) (hm : m ≤ 100000000) (h1 : (rowN a n).length ≤ 1000000000) (h2 : (rowN c m).length ≤ 1000000000) (h3 : (rowL [hibi, rowN a n, rowN c m, z]).length ≤ 1000000000) :
    Ct Tryz.prog 15 [imgL n m a c z] (.str (rowL [hibi, rowN a n, rowN c m, z])) := by
  have e4 := rowN_list [hibi, rowN a n, rowN c m, z]
  refine Ct.enter Tryz.tabOk ft15 ?_
  refine DrawA.run Tryz.tabOk Tryz.mixed [0, 1, 3, 0, 8, 31, 0, 64, 255, 511, 1023] [8] rfl ?_
  refine ⟨_, ⟨LV.le.refl _, rfl⟩, ?_⟩
  refine ⟨_, ⟨LV.le.refl _, rfl⟩, ?_⟩
  refine ⟨_, Ct.callC (row_ct n a hn h1) rfl (leL.refl _) ⟨LV.le.refl _, rfl⟩, ?_⟩
  refine ⟨_, ⟨LV.le.refl _, rfl⟩, ?_⟩
  refine ⟨_, ⟨LV.le.refl _, rfl⟩, ?_⟩
  refine ⟨_, Ct.callC (row_ct m c hm h2) rfl (leL.refl _) ⟨LV.le.refl _, rfl⟩, ?_⟩
  refine ⟨_, ⟨LV.le.refl _, rfl⟩, ?_⟩
  refine ⟨_, ⟨LV.le.refl _, rfl⟩, ?_⟩
  refine ⟨_, _, ⟨LV.le.refl _, rfl⟩, ?_⟩
  refine ⟨_, Ct.callF (row_ct 4 (atL [hibi, rowN a n, rowN c m, z]) (by omega) (by rw [← e4] at h3; exact h3)) rfl ⟨_, _, rfl, LV.le.sl rfl fun i hi => ?_, rfl⟩ rfl ⟨LV.le.refl _, rfl⟩, ?_⟩
  · rcases (by omega : i = 0 ∨ i = 1 ∨ i = 2 ∨ i = 3) with rfl | rfl | rfl | rfl <;> rfl
  refine ⟨_, ⟨LV.le.refl _, rfl⟩, ?_⟩
  refine ⟨True.intro, ?_⟩
  exact ⟨LV.le.eq (congrArg LV.str e4), rfl⟩
end Go.Proofs.Aw
namespace Go.Proofs.Aw
open Go Go.Proofs Go.RowKit
set_option maxHeartbeats 8000000
set_option maxRecDepth 100000
theorem img_some {b z : List UInt8} {f g : List (List UInt8)} (h : img b = some (f, g, z)) : rowL [hibi, rowN (atL f) f.length, rowN (atL g) g.length, z] = b := by
  unfold img at h
  split at h
  · rename_i w x y z' hT
    split at h
    · rename_i hw
      split at h
      · rename_i f' g' hx hy
        injection h with h
        injection h with h1 h2
        injection h2 with h2 h3
        subst h1; subst h2; subst h3; subst hw
        rw [rowN_list, rowN_list, rdT_row x.length x _ (Nat.le_refl _) hx, rdT_row y.length y _ (Nat.le_refl _) hy]
        exact rdT_row b.length b _ (Nat.le_refl _) hT
      · cases h
    · cases h
  · cases h
def emptyB : List UInt8 := [4, 104, 105, 98, 105, 0, 0, 0]
theorem empty_row : rowL [hibi, [], [], []] = emptyB := by
  simp only [rowL, hibi, List.length_cons, List.length_nil]
  rw [lenEnc_lt (by decide), lenEnc_lt (by decide)]
  rfl
theorem img_empty : img emptyB = some ([], [], []) := rfl
theorem of_none (c : Int) (M0 M1 : Nat) (w0 w1 : TL) : Ct Tryz.prog 12 [.agg (macB c M0 M1 w0 w1)] (.agg [.v (.slice none 0 0), .v (.slice none 0 0), .str []]) := by
  refine Ct.enter Tryz.tabOk ft12 ?_
  refine Ct.callC (check_bad c M0 M1 w0 w1) rfl (leL.refl _) ?_
  refine ⟨fun h => ?_, fun h => absurd h (by decide)⟩
  exact ⟨LV.le.refl _, rfl⟩
def noW : TL := fun _ => []
theorem imgN : leL [LV.agg [.v (.slice none 0 0), .v (.slice none 0 0), .str []]] [imgL 0 0 noW noW []] := ⟨_, _, rfl, LV.le.agg ⟨_, _, rfl, LV.le.nil, _, _, rfl, LV.le.nil, _, _, rfl, LV.le.refl _, rfl⟩, rfl⟩
theorem empty4 : rowN (atL [hibi, [], [], []]) 4 = emptyB := by rw [← empty_row]; exact rowN_list [hibi, [], [], []]
theorem awake_ct : Ct Tryz.prog 11 [] (.v (.bool true)) := by
  refine Ct.enter Tryz.tabOk ft11 ?_
  refine Ct.callC (of_none 0 0 0 noW noW) rfl ⟨_, _, rfl, LV.le.agg ⟨_, _, rfl, LV.le.refl _, _, _, rfl, LV.le.refl _, _, _, rfl, LV.le.any _, _, _, rfl, LV.le.any _, _, _, rfl, LV.le.nil, _, _, rfl, LV.le.any _, _, _, rfl, LV.le.any _, _, _, rfl, LV.le.any _, _, _, rfl, LV.le.any _, _, _, rfl, LV.le.any _, _, _, rfl, LV.le.any _, _, _, rfl, LV.le.any _, _, _, rfl, LV.le.any _, _, _, rfl, LV.le.nil, _, _, rfl, LV.le.any _, _, _, rfl, LV.le.any _, _, _, rfl, LV.le.any _, rfl⟩, rfl⟩ ?_
  refine Ct.callC (iread_ct [] (by simp) none rfl) rfl (leL.refl _) ?_
  refine Ct.callC (bytes_ct 0 0 noW noW [] (by omega) (by omega) (by simp [rowN]) (by simp [rowN]) (by show (rowL [hibi, [], [], []]).length ≤ _; rw [empty_row]; decide)) rfl imgN ?_
  refine Ct.callC (args := [.str emptyB]) (iread_ct emptyB (by decide) _ img_empty) rfl ⟨_, _, rfl, LV.le.eq (congrArg LV.str empty_row), rfl⟩ ?_
  refine ⟨fun _ => ?_, fun h => absurd h (by decide)⟩
  refine ⟨fun _ => ?_, fun h => absurd h (by decide)⟩
  refine Ct.callF (row_ct 4 (atL [hibi, [], [], []]) (by omega) (by rw [empty4]; decide)) rfl ⟨_, _, rfl, LV.le.sl rfl fun i hi => ?_, rfl⟩ rfl ?_
  · rcases (by omega : i = 0 ∨ i = 1 ∨ i = 2 ∨ i = 3) with rfl | rfl | rfl | rfl <;> rfl
  refine ⟨fun _ => ?_, fun h => ?_⟩
  rotate_left
  · have h : (rowL [hibi, [], [], []] == rowN (atL [hibi, [], [], []]) 4) = false := h
    rw [empty4, empty_row] at h
    simp at h
  refine ⟨fun _ => ?_, fun h => absurd h (by decide)⟩
  refine Ct.callC (isame_ct 0 0 noW noW [] (by omega) (by omega)) rfl ⟨_, _, rfl, LV.le.agg ⟨_, _, rfl, LV.le.nil, _, _, rfl, LV.le.nil, _, _, rfl, LV.le.refl _, rfl⟩, _, _, rfl, LV.le.agg ⟨_, _, rfl, LV.le.sl rfl (fun i hi => absurd hi (by simp)), _, _, rfl, LV.le.sl rfl (fun i hi => absurd hi (by simp)), _, _, rfl, LV.le.refl _, rfl⟩, rfl⟩ ?_
  exact ⟨LV.le.refl _, rfl⟩
end Go.Proofs.Aw

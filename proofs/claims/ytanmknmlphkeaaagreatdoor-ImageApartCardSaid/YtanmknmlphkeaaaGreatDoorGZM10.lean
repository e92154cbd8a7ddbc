/- A PART OF THE PROOF: an abstract run of the loaded code over value trees, and the functions walked by it. No condition of its own. -/
import Derived.Test.YtanmknmlphkeaaaGreatDoorGZM5e
namespace Go.Proofs.Aw
open Go Go.Proofs Go.RowKit
set_option maxHeartbeats 8000000
set_option maxRecDepth 100000
theorem within_ct (x a b : Int) : Ct Tryz.prog 90 [iv x, iv a, iv b] (.bs (decide (a ≤ x ∧ x ≤ b))) := by
  refine Ct.enter Tryz.tab2Ok ft90 ?_
  refine ⟨fun h => ?_, fun h => ?_⟩
  · have h : x ≥ a := dT h
    exact ⟨LV.le.bD (by rw [decide_eq_true_iff]; omega), rfl⟩
  · have h : ¬ x ≥ a := dF h
    exact ⟨LV.le.bF (by omega), rfl⟩
def planE (b x : Nat) : Int := if b < 16 ∨ 223 < b ∨ x < 4 ∨ 64 < x then 2 else if b ≤ 3 + (x + 1) / 2 then 10 else 0
def geomL (b x : Nat) : LV := .agg [iv (b : Int), iv (x : Int), iv 1, iv 2, iv 3, iv ((3 + (x + 1) / 2 : Nat) : Int)]
def geomA : LV := .agg [.any, .any, .any, .any, .any, .any]
theorem geom_any (cs : List LV) (h : cs.length = 6) : LV.le (.agg cs) geomA := by
  match cs, h with
  | [a, b, c, d, e, f], _ => exact LV.le.agg ⟨_, _, rfl, LV.le.any _, _, _, rfl, LV.le.any _, _, _, rfl, LV.le.any _, _, _, rfl, LV.le.any _, _, _, rfl, LV.le.any _, _, _, rfl, LV.le.any _, rfl⟩
theorem dataW (x : Nat) (h : x ≤ 65535) : IntKind.i64.wrap (3 + IntKind.i64.wrap ((IntKind.i64.wrap ((x : Int) + 1)).tdiv 2)) = ((3 + (x + 1) / 2 : Nat) : Int) := by
  rw [w64 (z := (x : Int) + 1) (by omega) (by omega), Int.tdiv_eq_ediv_of_nonneg (by omega), w64 (z := ((x : Int) + 1) / 2) (by omega) (by omega), w64 (by omega) (by omega)]
  omega
theorem rplan_no (b x : Nat) (hx : x ≤ 65535) (h : planE b x ≠ 0) : Ct Tryz.prog 134 [iv (b : Int), iv (x : Int)] (.tup [geomA, iv (planE b x)]) := by
  refine Ct.enter Tryz.tab2Ok ft134 ?_
  have two : (b < 16 ∨ 223 < b ∨ x < 4 ∨ 64 < x) → planE b x = 2 := fun h => by rw [planE, if_pos h]
  refine ⟨fun h1 => ?_, fun h1 => ⟨fun h2 => ?_, fun h2 => ⟨fun h3 => ?_, fun h3 => ⟨fun h4 => ?_, fun h4 => ?_⟩⟩⟩⟩
  · have h1 : (b : Int) < 16 := dT h1
    exact ⟨LV.le.tup ⟨_, _, rfl, geom_any _ rfl, _, _, rfl, LV.le.int (by rw [two (by omega)]), rfl⟩, rfl⟩
  · have h2 : (b : Int) > 223 := dT h2
    exact ⟨LV.le.tup ⟨_, _, rfl, geom_any _ rfl, _, _, rfl, LV.le.int (by rw [two (by omega)]), rfl⟩, rfl⟩
  · have h3 : (x : Int) < 4 := dT h3
    exact ⟨LV.le.tup ⟨_, _, rfl, geom_any _ rfl, _, _, rfl, LV.le.int (by rw [two (by omega)]), rfl⟩, rfl⟩
  · have h4 : (x : Int) > 64 := dT h4
    exact ⟨LV.le.tup ⟨_, _, rfl, geom_any _ rfl, _, _, rfl, LV.le.int (by rw [two (by omega)]), rfl⟩, rfl⟩
  · have h1 : ¬ (b : Int) < 16 := dF h1
    have h2 : ¬ (b : Int) > 223 := dF h2
    have h3 : ¬ (x : Int) < 4 := dF h3
    have h4 : ¬ (x : Int) > 64 := dF h4
    have hh : b ≤ 3 + (x + 1) / 2 ∧ planE b x = 10 := by
      have e : planE b x = if b ≤ 3 + (x + 1) / 2 then 10 else 0 := by rw [planE, if_neg (by omega)]
      by_cases hc : b ≤ 3 + (x + 1) / 2
      · exact ⟨hc, by rw [e, if_pos hc]⟩
      · rw [e, if_neg hc] at h; exact absurd rfl h
    refine ⟨by decide, ⟨fun h5 => ?_, fun h5 => ?_⟩⟩
    · exact ⟨LV.le.tup ⟨_, _, rfl, geom_any _ rfl, _, _, rfl, LV.le.int (by rw [hh.2]), rfl⟩, rfl⟩
    · exact absurd (dF h5) (by rw [dataW x hx]; show ¬ ¬ ((3 + (x + 1) / 2 : Nat) : Int) ≥ (b : Int); omega)
theorem rplan_ok (b x : Nat) (hx : x ≤ 65535) (h : planE b x = 0) : Ct Tryz.prog 134 [iv (b : Int), iv (x : Int)] (.tup [geomL b x, iv 0]) := by
  refine Ct.enter Tryz.tab2Ok ft134 ?_
  have hh : ¬ (b < 16 ∨ 223 < b ∨ x < 4 ∨ 64 < x) := fun hc => by rw [planE, if_pos hc] at h; cases h
  have h10 : ¬ b ≤ 3 + (x + 1) / 2 := fun hc => by rw [planE, if_neg hh, if_pos hc] at h; cases h
  refine ⟨fun h1 => absurd (dT h1) (by omega), fun _ => ⟨fun h1 => absurd (dT h1) (by omega), fun _ => ⟨fun h1 => absurd (dT h1) (by omega), fun _ => ⟨fun h1 => absurd (dT h1) (by omega), fun _ => ?_⟩⟩⟩⟩
  refine ⟨by decide, ⟨fun h5 => absurd (dT h5) (by rw [dataW x hx]; show ¬ ((3 + (x + 1) / 2 : Nat) : Int) ≥ (b : Int); omega), fun h5 => ?_⟩⟩
  exact ⟨LV.le.tup ⟨_, _, rfl, LV.le.agg ⟨_, _, rfl, LV.le.refl _, _, _, rfl, LV.le.refl _, _, _, rfl, LV.le.refl _, _, _, rfl, LV.le.refl _, _, _, rfl, LV.le.refl _, _, _, rfl, LV.le.int (dataW x hx), rfl⟩, _, _, rfl, LV.le.refl _, rfl⟩, rfl⟩
theorem plan_no (b x : Nat) (hx : x ≤ 65535) (h : planE b x ≠ 0) : Ct Tryz.prog 176 [iv (b : Int), iv (x : Int)] (.tup [geomA, iv (planE b x)]) := by
  refine Ct.enter Tryz.tab2Ok ft176 ?_
  have two : (b < 16 ∨ 223 < b ∨ x < 4 ∨ 64 < x) → planE b x = 2 := fun h => by rw [planE, if_pos h]
  refine ⟨fun h1 => ?_, fun h1 => ⟨fun h2 => ?_, fun h2 => ⟨fun h3 => ?_, fun h3 => ⟨fun h4 => ?_, fun h4 => ?_⟩⟩⟩⟩
  · have h1 : (b : Int) < 16 := dT h1
    exact ⟨LV.le.tup ⟨_, _, rfl, geom_any _ rfl, _, _, rfl, LV.le.int (by rw [two (by omega)]), rfl⟩, rfl⟩
  · have h2 : (b : Int) > 223 := dT h2
    exact ⟨LV.le.tup ⟨_, _, rfl, geom_any _ rfl, _, _, rfl, LV.le.int (by rw [two (by omega)]), rfl⟩, rfl⟩
  · have h3 : (x : Int) < 4 := dT h3
    exact ⟨LV.le.tup ⟨_, _, rfl, geom_any _ rfl, _, _, rfl, LV.le.int (by rw [two (by omega)]), rfl⟩, rfl⟩
  · have h4 : (x : Int) > 64 := dT h4
    exact ⟨LV.le.tup ⟨_, _, rfl, geom_any _ rfl, _, _, rfl, LV.le.int (by rw [two (by omega)]), rfl⟩, rfl⟩
  · have h1 : ¬ (b : Int) < 16 := dF h1
    have h2 : ¬ (b : Int) > 223 := dF h2
    have h3 : ¬ (x : Int) < 4 := dF h3
    have h4 : ¬ (x : Int) > 64 := dF h4
    have hh : b ≤ 3 + (x + 1) / 2 ∧ planE b x = 10 := by
      have e : planE b x = if b ≤ 3 + (x + 1) / 2 then 10 else 0 := by rw [planE, if_neg (by omega)]
      by_cases hc : b ≤ 3 + (x + 1) / 2
      · exact ⟨hc, by rw [e, if_pos hc]⟩
      · rw [e, if_neg hc] at h; exact absurd rfl h
    refine ⟨by decide, ⟨fun h5 => ?_, fun h5 => ?_⟩⟩
    · exact ⟨LV.le.tup ⟨_, _, rfl, geom_any _ rfl, _, _, rfl, LV.le.int (by rw [hh.2]), rfl⟩, rfl⟩
    · exact absurd (dF h5) (by rw [dataW x hx]; show ¬ ¬ ((3 + (x + 1) / 2 : Nat) : Int) ≥ (b : Int); omega)
theorem plan_ok (b x : Nat) (hx : x ≤ 65535) (h : planE b x = 0) : Ct Tryz.prog 176 [iv (b : Int), iv (x : Int)] (.tup [geomL b x, iv 0]) := by
  refine Ct.enter Tryz.tab2Ok ft176 ?_
  have hh : ¬ (b < 16 ∨ 223 < b ∨ x < 4 ∨ 64 < x) := fun hc => by rw [planE, if_pos hc] at h; cases h
  have h10 : ¬ b ≤ 3 + (x + 1) / 2 := fun hc => by rw [planE, if_neg hh, if_pos hc] at h; cases h
  refine ⟨fun h1 => absurd (dT h1) (by omega), fun _ => ⟨fun h1 => absurd (dT h1) (by omega), fun _ => ⟨fun h1 => absurd (dT h1) (by omega), fun _ => ⟨fun h1 => absurd (dT h1) (by omega), fun _ => ?_⟩⟩⟩⟩
  refine ⟨by decide, ⟨fun h5 => absurd (dT h5) (by rw [dataW x hx]; show ¬ ((3 + (x + 1) / 2 : Nat) : Int) ≥ (b : Int); omega), fun h5 => ?_⟩⟩
  exact ⟨LV.le.tup ⟨_, _, rfl, LV.le.agg ⟨_, _, rfl, LV.le.refl _, _, _, rfl, LV.le.refl _, _, _, rfl, LV.le.refl _, _, _, rfl, LV.le.refl _, _, _, rfl, LV.le.refl _, _, _, rfl, LV.le.int (dataW x hx), rfl⟩, _, _, rfl, LV.le.refl _, rfl⟩, rfl⟩
def hib1 : List UInt8 := [104, 105, 98, 49]
def headA (b x : Nat) : List UInt8 := (hib1 ++ putF b 2) ++ putF x 2
def headF (b x : Nat) : List UInt8 := headA b x ++ List.replicate 120 0
theorem headA_len (b x : Nat) : (headA b x).length = 8 := by simp [headA, hib1, putF_len]
theorem rhead_ct (b x : Nat) (hb : b ≤ 1000) (hx : x ≤ 65535) : Ct Tryz.prog 136 [geomL b x] (.str (headF b x)) := by
  have p1 := putF_len b 2
  have p2 := putF_len x 2
  refine Ct.enter Tryz.tab2Ok ft136 ?_
  refine DrawA.run Tryz.tab2Ok Tryz.mixed [0, 1, 3, 7, 15, 0, 32, 96, 239, 511, 495, 2047, 4095] [] rfl ?_
  refine ⟨_, ⟨LV.le.refl _, rfl⟩, ?_⟩
  refine ⟨_, ⟨LV.le.refl _, rfl⟩, ?_⟩
  refine ⟨lv (b : Int), ⟨LV.le.int (wq (by omega) (by omega)), rfl⟩, ?_⟩
  refine ⟨_, Ct.callC (rput_ct b 2 (by omega) (by omega)) rfl (leL.refl _) ⟨LV.le.refl _, rfl⟩, ?_⟩
  refine ⟨.str (hib1 ++ putF b 2), ⟨by show 4 + (putF b 2).length ≤ _; omega, LV.le.refl _, rfl⟩, ?_⟩
  refine ⟨_, ⟨LV.le.refl _, rfl⟩, ?_⟩
  refine ⟨_, ⟨LV.le.refl _, rfl⟩, ?_⟩
  refine ⟨lv (x : Int), ⟨LV.le.int (wq (by omega) (by omega)), rfl⟩, ?_⟩
  refine ⟨_, Ct.callC (rput_ct x 2 (by omega) (by omega)) rfl (leL.refl _) ⟨LV.le.refl _, rfl⟩, ?_⟩
  refine ⟨.str (headA b x), ⟨by show (hib1 ++ putF b 2).length + (putF x 2).length ≤ _; simp only [hib1, List.length_append, List.length_cons, List.length_nil]; omega, LV.le.refl _, rfl⟩, ?_⟩
  refine ⟨_, Ct.callC (rzeros_ct 120 (by omega)) rfl (leL.refl _) ⟨LV.le.refl _, rfl⟩, ?_⟩
  refine ⟨.str (headF b x), ⟨by rw [headA_len]; show 8 + (List.replicate 120 (0 : UInt8)).length ≤ _; rw [List.length_replicate]; omega, LV.le.refl _, rfl⟩, ?_⟩
  refine ⟨_, ⟨LV.le.refl _, rfl⟩, ?_⟩
  refine ⟨True.intro, ?_⟩
  exact ⟨LV.le.refl _, rfl⟩
theorem head_ct (b x : Nat) (hb : b ≤ 1000) (hx : x ≤ 65535) : Ct Tryz.prog 177 [geomL b x] (.str (headF b x)) := by
  have p1 := putF_len b 2
  have p2 := putF_len x 2
  refine Ct.enter Tryz.tab2Ok ft177 ?_
  refine DrawA.run Tryz.tab2Ok Tryz.mixed [0, 1, 3, 7, 15, 0, 32, 96, 239, 511, 1023] [] rfl ?_
  refine ⟨_, ⟨LV.le.refl _, rfl⟩, ?_⟩
  refine ⟨_, ⟨LV.le.refl _, rfl⟩, ?_⟩
  refine ⟨lv (b : Int), ⟨LV.le.int (wq (by omega) (by omega)), rfl⟩, ?_⟩
  refine ⟨_, Ct.callC (put_ct b 2 (by omega) (by omega)) rfl (leL.refl _) ⟨LV.le.refl _, rfl⟩, ?_⟩
  refine ⟨.str (hib1 ++ putF b 2), ⟨by show 4 + (putF b 2).length ≤ _; omega, LV.le.refl _, rfl⟩, ?_⟩
  refine ⟨_, ⟨LV.le.refl _, rfl⟩, ?_⟩
  refine ⟨_, ⟨LV.le.refl _, rfl⟩, ?_⟩
  refine ⟨lv (x : Int), ⟨LV.le.int (wq (by omega) (by omega)), rfl⟩, ?_⟩
  refine ⟨_, Ct.callC (put_ct x 2 (by omega) (by omega)) rfl (leL.refl _) ⟨LV.le.refl _, rfl⟩, ?_⟩
  refine ⟨.str (headA b x), ⟨by show (hib1 ++ putF b 2).length + (putF x 2).length ≤ _; simp only [hib1, List.length_append, List.length_cons, List.length_nil]; omega, LV.le.refl _, rfl⟩, ?_⟩
  refine ⟨_, ⟨LV.le.refl _, rfl⟩, ?_⟩
  refine ⟨True.intro, ?_⟩
  have hl := headA_len b x
  have hz : (List.replicate 128 (0 : UInt8)).length = 128 := List.length_replicate
  have hd : (List.replicate 128 (0 : UInt8)).drop 8 = List.replicate 120 0 := by rw [List.drop_replicate]
  unfold headF
  rw [← hd]
  generalize headA b x = y at *
  refine Ct.callC zeros_ct rfl (leL.refl _) ?_
  clear hd
  generalize List.replicate 128 (0 : UInt8) = z at *
  refine ⟨⟨by omega, by omega, by omega⟩, by show y.length + ((z.take (z.length : Int).toNat).drop (y.length : Int).toNat).length ≤ _; simp only [List.length_drop, List.length_take]; omega, ?_⟩
  exact ⟨LV.le.eq (congrArg LV.str (congrArg (y ++ ·) (by rw [hl]; show (z.take z.length).drop 8 = _; rw [List.take_length]))), rfl⟩
end Go.Proofs.Aw
namespace Go.Proofs.Aw
open Go Go.Proofs Go.RowKit
set_option maxHeartbeats 8000000
set_option maxRecDepth 100000
def inoF (v : TL) : Nat := getF (((v 0).take 8).drop 6)
theorem inoF_le (v : TL) : inoF v ≤ 65535 := by
  have := getF_lt8 (l := ((v 0).take 8).drop 6) 2 (by rw [List.length_drop, List.length_take]; omega)
  have h2 : (256 : Nat) ^ 2 = 65536 := by decide
  unfold inoF; omega
def BitOk (v : TL) (n i : Nat) : Prop := (i < 3 + (inoF v + 1) / 2 → bitF (v 2) (i : Int) = true) ∧ (n ≤ i → bitF (v 2) (i : Int) = false)
def GeoOk (n : Nat) (v : TL) : Prop := 3 ≤ n ∧ (∀ i, i < n → (v i).length = 128) ∧ planE n (inoF v) = 0 ∧ v 0 = headF n (inoF v) ∧ ∀ i, i < 1024 → BitOk v n i
open Classical in
noncomputable def geoE (n : Nat) (v : TL) : Int := if GeoOk n v then 0 else 3
theorem geo_no {n : Nat} {v : TL} (h : ¬ GeoOk n v) : geoE n v = 3 := if_neg h
theorem geo_yes {n : Nat} {v : TL} (h : GeoOk n v) : geoE n v = 0 := if_pos h
theorem ofNo {n : Nat} {v : TL} {cs : List LV} (hc : cs.length = 6) (h : ¬ GeoOk n v) : LV.le (.tup [.agg cs, iv 3]) (.tup [geomA, iv (geoE n v)]) := by
  rw [geo_no h]; exact LV.le.tup ⟨_, _, rfl, geom_any _ hc, _, _, rfl, LV.le.refl _, rfl⟩
theorem ofYes {n : Nat} {v : TL} {cs : List LV} (hc : cs.length = 6) (h : GeoOk n v) : LV.le (.tup [.agg cs, iv 0]) (.tup [geomA, iv (geoE n v)]) := by
  rw [geo_yes h]; exact LV.le.tup ⟨_, _, rfl, geom_any _ hc, _, _, rfl, LV.le.refl _, rfl⟩
theorem upTo {p : Nat → Prop} {k : Nat} (h : ∀ i, i < k → p i) (hk : p k) : ∀ i, i < k + 1 → p i := fun i hi => by
  rcases (by omega : i < k ∨ i = k) with h4 | rfl
  · exact h i h4
  · exact hk
theorem strT {a b : List UInt8} (h : (a != b) = true) : a ≠ b := by simpa using h
theorem strF {a b : List UInt8} (h : (a != b) = false) : a = b := by simpa using h
theorem rof_ct (n : Nat) (v : TL) (hn : n ≤ 1000) : Ct Tryz.prog 83 [.sl 1 n (tx v)] (.tup [geomA, iv (geoE n v)]) := by
  refine Ct.enter Tryz.tab2Ok ft83 ?_
  refine ⟨fun h => ?_, fun h => ?_⟩
  · have h : (n : Int) < 3 := dT h
    exact ⟨ofNo rfl fun hg => by have := hg.1; omega, rfl⟩
  have h3 : ¬ (n : Int) < 3 := dF h
  clear h
  refine ⟨Nat, fun j => ⟨[(15, iv (j : Int)), (14, iv (n : Int)), (13, .sl 1 n (tx v)), (0, .sl 1 n (tx v)), (2, .lp 0 0)], [(0, .box 130 [iv 0, iv 0, iv 0, iv 0, iv 0, iv 0])], 1, 0⟩, fun j => j ≤ n ∧ (∀ i, i < j → (v i).length = 128), fun j => n - j, 0, ⟨Nat.zero_le _, fun i hi => absurd hi (by omega)⟩, .le ⟨rfl, ⟨rfl, Nat.le_of_ble_eq_true rfl⟩, ⟨LV.le.refl _, rfl, LV.le.refl _, rfl, LV.le.refl _, rfl, LV.le.refl _, rfl, LV.le.refl _, rfl, trivial⟩, ⟨⟨_, rfl, LO.le.refl _⟩, rfl, rfl, trivial⟩⟩, fun j hj => ⟨fun h => ?_, fun h => ?_⟩⟩
  · obtain ⟨hj, hp⟩ := hj
    have h := dT h
    have h : (j : Int) < ((n : Nat) : Int) := h
    have hj : j < n := by omega
    have ej := w1 hj (by omega)
    refine ⟨⟨by omega, by omega⟩, ⟨fun h1 => ?_, fun h1 => ?_⟩⟩
    · have h1 : ((v j).length : Int) ≠ 128 := bnT h1
      exact ⟨ofNo rfl fun hg => by have := hg.2.1 j hj; omega, rfl⟩
    · exact ⟨j + 1, ⟨(by omega : j + 1 ≤ n), fun i hi => by
        rcases (by omega : i < j ∨ i = j) with h4 | rfl
        · exact hp i h4
        · have h1 : ((v i).length : Int) = 128 := bnF h1; omega⟩, (by omega : n - (j + 1) < n - j), .le ⟨rfl, ⟨rfl, Nat.le_of_ble_eq_true rfl⟩, ⟨LV.le.int ej, rfl, LV.le.refl _, rfl, LV.le.refl _, rfl, LV.le.refl _, rfl, LV.le.refl _, rfl, trivial⟩, ⟨⟨_, rfl, LO.le.refl _⟩, rfl, rfl, trivial⟩⟩⟩
  · obtain ⟨hj, hp⟩ := hj
    have h := dF h
    have h : ¬ (j : Int) < ((n : Nat) : Int) := h
    have hn : j = n := by have : j ≤ n := hj; omega
    obtain rfl : j = n := by assumption
    have hlen : ∀ i, i < j → (v i).length = 128 := fun i hi => hp i hi
    clear hp hj h hn
    have l0 := hlen 0 (by omega)
    have l2 := hlen 2 (by omega)
    have hx := inoF_le v
    have hsl : (((v 0).take 8).drop 6).length ≤ 8 := by rw [List.length_drop, List.length_take]; omega
    refine ⟨⟨by omega, by omega⟩, ⟨by omega, by omega, by show (8 : Int) ≤ ((v 0).length : Int); omega⟩, ?_⟩
    refine Ct.callC (rget64_ct (((v 0).take 8).drop 6) hsl) rfl (leL.refl _) ?_
    have hw : IntKind.i64.wrap (inoF v : Int) = (inoF v : Int) := w64 (by omega) (by omega)
    have hw2 : IntKind.i64.wrap (getF (((v 0).take 8).drop 6) : Int) = (inoF v : Int) := hw
    by_cases hpl : planE j (inoF v) = 0
    rotate_left
    · refine Ct.callC (rplan_no j (inoF v) hx hpl) rfl ⟨_, _, rfl, LV.le.refl _, _, _, rfl, LV.le.int hw2, rfl⟩ ?_
      generalize hpe : planE j (inoF v) = e at *
      refine DrawA.run Tryz.tab2Ok Tryz.mixed [0, 1, 3, 7, 15, 31, 7, 71, 255, 511] [] rfl ?_
      refine ⟨_, ⟨LV.le.refl _, rfl⟩, ?_⟩
      refine ⟨.v (.bool true), ⟨LV.le.bsV (by show (e != 0) = true; simpa using hpl), rfl⟩, ?_⟩
      refine ⟨_, ⟨LV.le.refl _, rfl⟩, ?_⟩
      refine ⟨_, ⟨LV.le.refl _, rfl⟩, ?_⟩
      refine ⟨_, ⟨LV.le.refl _, rfl⟩, ?_⟩
      refine ⟨_, ⟨LV.le.refl _, rfl⟩, ?_⟩
      refine ⟨_, ⟨LV.le.refl _, rfl⟩, ?_⟩
      refine ⟨_, ⟨LV.le.refl _, rfl⟩, ?_⟩
      refine ⟨_, ⟨LV.le.refl _, rfl⟩, ?_⟩
      refine ⟨_, ⟨LV.le.refl _, rfl⟩, ?_⟩
      refine ⟨True.intro, ?_⟩
      exact ⟨ofNo rfl fun hg => hpl (hpe ▸ hg.2.2.1), rfl⟩
    refine Ct.callC (rplan_ok j (inoF v) hx hpl) rfl ⟨_, _, rfl, LV.le.refl _, _, _, rfl, LV.le.int hw2, rfl⟩ ?_
    refine DrawA.run Tryz.tab2Ok Tryz.mixed [0, 1, 3, 7, 15, 31, 7, 71, 255, 511] [] rfl ?_
    refine ⟨_, ⟨LV.le.refl _, rfl⟩, ?_⟩
    refine ⟨.v (.bool false), ⟨LV.le.bsV (rfl), rfl⟩, ?_⟩
    refine ⟨_, ⟨LV.le.refl _, rfl⟩, ?_⟩
    refine ⟨_, ⟨LV.le.refl _, rfl⟩, ?_⟩
    refine ⟨_, ⟨⟨by omega, by omega⟩, LV.le.refl _, rfl⟩, ?_⟩
    refine ⟨_, ⟨LV.le.refl _, rfl⟩, ?_⟩
    refine ⟨_, ⟨LV.le.refl _, rfl⟩, ?_⟩
    refine ⟨_, Ct.callC (rhead_ct j (inoF v) (by omega) hx) rfl (leL.refl _) ⟨LV.le.refl _, rfl⟩, ?_⟩
    refine ⟨_, ⟨LV.le.refl _, rfl⟩, ?_⟩
    refine ⟨_, ⟨LV.le.refl _, rfl⟩, ?_⟩
    refine ⟨True.intro, ?_⟩
    generalize hH : headF j (inoF v) = H
    refine ⟨fun g => ?_, fun g => ?_⟩
    · have g : v 0 ≠ H := strT g
      exact ⟨ofNo rfl fun hg => g (hH ▸ hg.2.2.2.1), rfl⟩
    have g : v 0 = H := strF g
    refine ⟨Nat, fun k => ⟨[(8, iv (k : Int)), (0, .sl 1 j (tx v)), (6, .lp 1 0), (2, .lp 0 0)], [(1, .box 130 [iv (j : Int), iv (inoF v : Int), iv 1, iv 2, iv 3, iv ((3 + (inoF v + 1) / 2 : Nat) : Int)]), (0, .box 130 [iv 0, iv 0, iv 0, iv 0, iv 0, iv 0])], 2, 0⟩, fun k => k ≤ 1024 ∧ (∀ i, i < k → BitOk v j i), fun k => 1024 - k, 0, ⟨Nat.zero_le _, fun i hi => absurd hi (by omega)⟩, .le ⟨rfl, ⟨rfl, Nat.le_of_ble_eq_true rfl⟩, ⟨LV.le.refl _, rfl, LV.le.refl _, rfl, LV.le.refl _, rfl, LV.le.refl _, rfl, trivial⟩, ⟨⟨_, rfl, LO.le.refl _⟩, rfl, rfl, ⟨_, rfl, LO.le.refl _⟩, rfl, rfl, trivial⟩⟩, fun k hj => ⟨fun h => ?_, fun h => ?_⟩⟩
    · obtain ⟨hj, hp⟩ := hj
      have h := dT h
      have h : (k : Int) < ((1024 : Nat) : Int) := h
      have hk : k < 1024 := by omega
      have ek := w1 hk (by omega)
      have hk8 : k < 8 * (v 2).length := by omega
      refine ⟨fun a => ⟨⟨by omega, by omega⟩, ?_⟩, fun a => ⟨fun d => ⟨⟨by omega, by omega⟩, ?_⟩, fun d => ?_⟩⟩
      · have a : (k : Int) < ((3 + (inoF v + 1) / 2 : Nat) : Int) := dT a
        refine Ct.callC (rbit_ct (v 2) k (by omega) (by omega)) rfl (leL.refl _) ?_
        generalize hb : bitF (v 2) (k : Int) = b
        refine ⟨fun c => ?_, fun c => ⟨fun d => ⟨⟨by omega, by omega⟩, ?_⟩, fun d => ?_⟩⟩
        · exact ⟨ofNo rfl fun hg => by have := (hg.2.2.2.2 k hk).1 (by omega); rw [hb, nbT c] at this; exact absurd this (by decide), rfl⟩
        · have d : (k : Int) ≥ (j : Int) := dT d
          refine Ct.callC (rbit_ct (v 2) k (by omega) (by omega)) rfl (leL.refl _) ?_
          rw [hb]
          refine ⟨fun e => ?_, fun e => ?_⟩
          · exact ⟨ofNo rfl fun hg => by have := (hg.2.2.2.2 k hk).2 (by omega); rw [hb, e] at this; exact absurd this (by decide), rfl⟩
          · rw [nbF c] at e; cases e
        · have d : ¬ (k : Int) ≥ (j : Int) := dF d
          exact ⟨k + 1, ⟨(by omega : k + 1 ≤ 1024), upTo hp (⟨fun _ => by rw [hb]; exact nbF c, fun hh => absurd hh (by omega)⟩)⟩, (by omega : 1024 - (k + 1) < 1024 - k), .le ⟨rfl, ⟨rfl, Nat.le_of_ble_eq_true rfl⟩, ⟨LV.le.int ek, rfl, LV.le.refl _, rfl, LV.le.refl _, rfl, LV.le.refl _, rfl, trivial⟩, ⟨⟨_, rfl, LO.le.refl _⟩, rfl, rfl, ⟨_, rfl, LO.le.refl _⟩, rfl, rfl, trivial⟩⟩⟩
      · have a : ¬ (k : Int) < ((3 + (inoF v + 1) / 2 : Nat) : Int) := dF a
        have d : (k : Int) ≥ (j : Int) := dT d
        refine Ct.callC (rbit_ct (v 2) k (by omega) (by omega)) rfl (leL.refl _) ?_
        generalize hb : bitF (v 2) (k : Int) = b
        refine ⟨fun e => ?_, fun e => ?_⟩
        · exact ⟨ofNo rfl fun hg => by have := (hg.2.2.2.2 k hk).2 (by omega); rw [hb, e] at this; exact absurd this (by decide), rfl⟩
        · exact ⟨k + 1, ⟨(by omega : k + 1 ≤ 1024), upTo hp (⟨fun hh => absurd hh (by omega), fun _ => by rw [hb]; exact e⟩)⟩, (by omega : 1024 - (k + 1) < 1024 - k), .le ⟨rfl, ⟨rfl, Nat.le_of_ble_eq_true rfl⟩, ⟨LV.le.int ek, rfl, LV.le.refl _, rfl, LV.le.refl _, rfl, LV.le.refl _, rfl, trivial⟩, ⟨⟨_, rfl, LO.le.refl _⟩, rfl, rfl, ⟨_, rfl, LO.le.refl _⟩, rfl, rfl, trivial⟩⟩⟩
      · have a : ¬ (k : Int) < ((3 + (inoF v + 1) / 2 : Nat) : Int) := dF a
        have d : ¬ (k : Int) ≥ (j : Int) := dF d
        exact ⟨k + 1, ⟨(by omega : k + 1 ≤ 1024), upTo hp (⟨fun hh => absurd hh (by omega), fun hh => absurd hh (by omega)⟩)⟩, (by omega : 1024 - (k + 1) < 1024 - k), .le ⟨rfl, ⟨rfl, Nat.le_of_ble_eq_true rfl⟩, ⟨LV.le.int ek, rfl, LV.le.refl _, rfl, LV.le.refl _, rfl, LV.le.refl _, rfl, trivial⟩, ⟨⟨_, rfl, LO.le.refl _⟩, rfl, rfl, ⟨_, rfl, LO.le.refl _⟩, rfl, rfl, trivial⟩⟩⟩
    · obtain ⟨hj, hp⟩ := hj
      have h := dF h
      have h : ¬ (k : Int) < ((1024 : Nat) : Int) := h
      have hn : k = 1024 := by have : k ≤ 1024 := hj; omega
      exact ⟨ofYes rfl ⟨by omega, hlen, hpl, by rw [hH]; exact g, fun i hi => hp i (by omega)⟩, rfl⟩
end Go.Proofs.Aw
namespace Go.Proofs.Aw
open Go Go.Proofs Go.RowKit
set_option maxHeartbeats 8000000
set_option maxRecDepth 100000
def DirtyOk (m : MM) (H : Nat) (i : Nat) : Prop := 0 ≤ (m.dirty i).1 ∧ (m.dirty i).1 < (H : Int) ∧ (m.dirty i).2.length = 128 ∧ (0 < i → (m.dirty (i - 1)).1 < (m.dirty i).1)
open Classical in
noncomputable def diskE (m : MM) : Int := if drvErr m ≠ 0 then drvErr m else if hN m = 0 then 3 else if 32 < m.nD then 6 else if ¬ ∀ i, i < m.nD → DirtyOk m (hN m) i then 3 else geoE (hN m) (volN m m.nD)
open Classical in
theorem rdisk_ct (m : MM) (hB : m.nB ≤ 1000) (hW : m.nW ≤ 1000) (hD : m.nD ≤ 1000) : Ct Tryz.prog 39 [.agg m.c] (iv (diskE m)) := by
  have hh := hN_le m
  refine Ct.enter Tryz.tab2Ok ft39 ?_
  refine Ct.callC (rdcheck_ct m hB hW) rfl (leL.refl _) ?_
  generalize hd : drvErr m = d
  refine ⟨fun h => ?_, fun h => ?_⟩
  · exact ⟨LV.le.int (by rw [diskE, hd, if_pos (bnT h)]), rfl⟩
  have hz := bnF h
  subst hz
  refine Ct.callC (rhome_ct m hB hW) rfl (leL.refl _) ?_
  have e0 : diskE m = if hN m = 0 then 3 else if 32 < m.nD then 6 else if ¬ ∀ i, i < m.nD → DirtyOk m (hN m) i then 3 else geoE (hN m) (volN m m.nD) := by rw [diskE, hd, if_neg (by simp)]
  have hvol := rvol_ct m hB hW hD
  generalize hH : hN m = H at *
  refine ⟨fun g => ?_, fun g => ⟨fun f => ?_, fun f => ?_⟩⟩
  · have g : (H : Int) = 0 := beT g
    exact ⟨LV.le.int (by rw [e0, if_pos (by omega)]), rfl⟩
  · have g : (H : Int) ≠ 0 := beF g
    have f : (m.nD : Int) > 32 := dT f
    exact ⟨LV.le.int (by rw [e0, if_neg (by omega), if_pos (by omega)]), rfl⟩
  have g : (H : Int) ≠ 0 := beF g
  have f : ¬ (m.nD : Int) > 32 := dF f
  rw [if_neg (by omega), if_neg (by omega)] at e0
  refine ⟨Nat, fun k => ⟨[(26, iv (k : Int)), (25, iv (m.nD : Int)), (24, .sl 2 m.nD (wvs m.dirty)), (1, .lp 0 0), (4, iv (H : Int))], [(0, .box 30 m.c)], 1, 0⟩, fun k => k ≤ m.nD ∧ (∀ i, i < k → DirtyOk m H i), fun k => m.nD - k, 0, ⟨Nat.zero_le _, fun i hi => absurd hi (by omega)⟩, .le ⟨rfl, ⟨rfl, Nat.le_of_ble_eq_true rfl⟩, ⟨LV.le.refl _, rfl, LV.le.refl _, rfl, LV.le.refl _, rfl, LV.le.refl _, rfl, LV.le.refl _, rfl, trivial⟩, ⟨⟨_, rfl, LO.le.refl _⟩, rfl, rfl, trivial⟩⟩, fun k hj => ⟨fun h => ?_, fun h => ?_⟩⟩
  · obtain ⟨hj, hp⟩ := hj
    have h := dT h
    have h : (k : Int) < ((m.nD : Nat) : Int) := h
    have hk : k < m.nD := by omega
    have ek := w1 hk (by omega)
    refine ⟨⟨by omega, by omega⟩, ?_⟩
    by_cases a : (m.dirty k).1 < 0
    · refine DrawA.run Tryz.tab2Ok Tryz.mixed [0, 1, 3, 7, 15, 31, 15, 127, 255, 511, 1023, 2047, 4095, 8191, 16383, 32767, 65535, 131071, 262143, 524287, 1048575, 524287, 2621439, 8388607, 16777215, 33554431, 524287, 67633151, 268435455, 536870911, 1073741823] [] rfl ?_
      refine ⟨_, ⟨LV.le.refl _, rfl⟩, ?_⟩
      refine ⟨_, ⟨LV.le.refl _, rfl⟩, ?_⟩
      refine ⟨.v (.bool true), ⟨LV.le.bsV (decide_eq_true a), rfl⟩, ?_⟩
      refine ⟨_, ⟨LV.le.refl _, rfl⟩, ?_⟩
      refine ⟨_, ⟨LV.le.refl _, rfl⟩, ?_⟩
      refine ⟨_, ⟨LV.le.refl _, rfl⟩, ?_⟩
      refine ⟨_, ⟨LV.le.refl _, rfl⟩, ?_⟩
      refine ⟨_, ⟨LV.le.refl _, rfl⟩, ?_⟩
      refine ⟨_, ⟨LV.le.refl _, rfl⟩, ?_⟩
      refine ⟨_, ⟨LV.le.refl _, rfl⟩, ?_⟩
      refine ⟨_, ⟨LV.le.refl _, rfl⟩, ?_⟩
      refine ⟨_, ⟨LV.le.refl _, rfl⟩, ?_⟩
      refine ⟨_, ⟨LV.le.refl _, rfl⟩, ?_⟩
      refine ⟨_, ⟨LV.le.refl _, rfl⟩, ?_⟩
      refine ⟨_, ⟨LV.le.refl _, rfl⟩, ?_⟩
      refine ⟨_, ⟨LV.le.refl _, rfl⟩, ?_⟩
      refine ⟨_, ⟨LV.le.refl _, rfl⟩, ?_⟩
      refine ⟨_, ⟨LV.le.refl _, rfl⟩, ?_⟩
      refine ⟨_, ⟨LV.le.refl _, rfl⟩, ?_⟩
      refine ⟨_, ⟨LV.le.refl _, rfl⟩, ?_⟩
      refine ⟨_, ⟨LV.le.refl _, rfl⟩, ?_⟩
      refine ⟨_, ⟨LV.le.refl _, rfl⟩, ?_⟩
      refine ⟨_, ⟨LV.le.refl _, rfl⟩, ?_⟩
      refine ⟨_, ⟨LV.le.refl _, rfl⟩, ?_⟩
      refine ⟨_, ⟨LV.le.refl _, rfl⟩, ?_⟩
      refine ⟨_, ⟨LV.le.refl _, rfl⟩, ?_⟩
      refine ⟨_, ⟨LV.le.refl _, rfl⟩, ?_⟩
      refine ⟨_, ⟨LV.le.refl _, rfl⟩, ?_⟩
      refine ⟨_, ⟨LV.le.refl _, rfl⟩, ?_⟩
      refine ⟨_, ⟨LV.le.refl _, rfl⟩, ?_⟩
      refine ⟨_, ⟨LV.le.refl _, rfl⟩, ?_⟩
      refine ⟨True.intro, ?_⟩
      exact ⟨LV.le.int (by rw [e0, if_pos fun hall => absurd (hall k hk) (by unfold DirtyOk; omega)]), rfl⟩
    by_cases b : (m.dirty k).1 ≥ (H : Int)
    · refine DrawA.run Tryz.tab2Ok Tryz.mixed [0, 1, 3, 7, 15, 31, 15, 127, 255, 511, 1023, 2047, 4095, 8191, 16383, 32767, 65535, 131071, 262143, 524287, 1048575, 524287, 2621439, 8388607, 16777215, 33554431, 524287, 67633151, 268435455, 536870911, 1073741823] [] rfl ?_
      refine ⟨_, ⟨LV.le.refl _, rfl⟩, ?_⟩
      refine ⟨_, ⟨LV.le.refl _, rfl⟩, ?_⟩
      refine ⟨.v (.bool false), ⟨LV.le.bsV (decide_eq_false a), rfl⟩, ?_⟩
      refine ⟨_, ⟨LV.le.refl _, rfl⟩, ?_⟩
      refine ⟨_, ⟨LV.le.refl _, rfl⟩, ?_⟩
      refine ⟨_, ⟨LV.le.refl _, rfl⟩, ?_⟩
      refine ⟨_, ⟨LV.le.refl _, rfl⟩, ?_⟩
      refine ⟨.v (.bool true), ⟨LV.le.bsV (decide_eq_true b), rfl⟩, ?_⟩
      refine ⟨_, ⟨LV.le.refl _, rfl⟩, ?_⟩
      refine ⟨_, ⟨LV.le.refl _, rfl⟩, ?_⟩
      refine ⟨_, ⟨LV.le.refl _, rfl⟩, ?_⟩
      refine ⟨_, ⟨LV.le.refl _, rfl⟩, ?_⟩
      refine ⟨_, ⟨LV.le.refl _, rfl⟩, ?_⟩
      refine ⟨_, ⟨LV.le.refl _, rfl⟩, ?_⟩
      refine ⟨_, ⟨LV.le.refl _, rfl⟩, ?_⟩
      refine ⟨_, ⟨LV.le.refl _, rfl⟩, ?_⟩
      refine ⟨_, ⟨LV.le.refl _, rfl⟩, ?_⟩
      refine ⟨_, ⟨LV.le.refl _, rfl⟩, ?_⟩
      refine ⟨_, ⟨LV.le.refl _, rfl⟩, ?_⟩
      refine ⟨_, ⟨LV.le.refl _, rfl⟩, ?_⟩
      refine ⟨_, ⟨LV.le.refl _, rfl⟩, ?_⟩
      refine ⟨_, ⟨LV.le.refl _, rfl⟩, ?_⟩
      refine ⟨_, ⟨LV.le.refl _, rfl⟩, ?_⟩
      refine ⟨_, ⟨LV.le.refl _, rfl⟩, ?_⟩
      refine ⟨_, ⟨LV.le.refl _, rfl⟩, ?_⟩
      refine ⟨_, ⟨LV.le.refl _, rfl⟩, ?_⟩
      refine ⟨_, ⟨LV.le.refl _, rfl⟩, ?_⟩
      refine ⟨_, ⟨LV.le.refl _, rfl⟩, ?_⟩
      refine ⟨_, ⟨LV.le.refl _, rfl⟩, ?_⟩
      refine ⟨_, ⟨LV.le.refl _, rfl⟩, ?_⟩
      refine ⟨_, ⟨LV.le.refl _, rfl⟩, ?_⟩
      refine ⟨True.intro, ?_⟩
      exact ⟨LV.le.int (by rw [e0, if_pos fun hall => absurd (hall k hk) (by unfold DirtyOk; omega)]), rfl⟩
    by_cases c : (m.dirty k).2.length = 128
    rotate_left
    · refine DrawA.run Tryz.tab2Ok Tryz.mixed [0, 1, 3, 7, 15, 31, 15, 127, 255, 511, 1023, 2047, 4095, 8191, 16383, 32767, 65535, 131071, 262143, 524287, 1048575, 524287, 2621439, 8388607, 16777215, 33554431, 524287, 67633151, 268435455, 536870911, 1073741823] [] rfl ?_
      refine ⟨_, ⟨LV.le.refl _, rfl⟩, ?_⟩
      refine ⟨_, ⟨LV.le.refl _, rfl⟩, ?_⟩
      refine ⟨.v (.bool false), ⟨LV.le.bsV (decide_eq_false a), rfl⟩, ?_⟩
      refine ⟨_, ⟨LV.le.refl _, rfl⟩, ?_⟩
      refine ⟨_, ⟨LV.le.refl _, rfl⟩, ?_⟩
      refine ⟨_, ⟨LV.le.refl _, rfl⟩, ?_⟩
      refine ⟨_, ⟨LV.le.refl _, rfl⟩, ?_⟩
      refine ⟨.v (.bool false), ⟨LV.le.bsV (decide_eq_false b), rfl⟩, ?_⟩
      refine ⟨_, ⟨LV.le.refl _, rfl⟩, ?_⟩
      refine ⟨_, ⟨LV.le.refl _, rfl⟩, ?_⟩
      refine ⟨_, ⟨LV.le.refl _, rfl⟩, ?_⟩
      refine ⟨_, ⟨LV.le.refl _, rfl⟩, ?_⟩
      refine ⟨_, ⟨LV.le.refl _, rfl⟩, ?_⟩
      refine ⟨.v (.bool true), ⟨LV.le.bsV (by show ((((m.dirty k).2.length : Nat) : Int) != 128) = true; rw [bne_iff_ne]; omega), rfl⟩, ?_⟩
      refine ⟨_, ⟨LV.le.refl _, rfl⟩, ?_⟩
      refine ⟨_, ⟨LV.le.refl _, rfl⟩, ?_⟩
      refine ⟨_, ⟨LV.le.refl _, rfl⟩, ?_⟩
      refine ⟨_, ⟨LV.le.refl _, rfl⟩, ?_⟩
      refine ⟨_, ⟨LV.le.refl _, rfl⟩, ?_⟩
      refine ⟨_, ⟨LV.le.refl _, rfl⟩, ?_⟩
      refine ⟨_, ⟨LV.le.refl _, rfl⟩, ?_⟩
      refine ⟨_, ⟨LV.le.refl _, rfl⟩, ?_⟩
      refine ⟨_, ⟨LV.le.refl _, rfl⟩, ?_⟩
      refine ⟨_, ⟨LV.le.refl _, rfl⟩, ?_⟩
      refine ⟨_, ⟨LV.le.refl _, rfl⟩, ?_⟩
      refine ⟨_, ⟨LV.le.refl _, rfl⟩, ?_⟩
      refine ⟨_, ⟨LV.le.refl _, rfl⟩, ?_⟩
      refine ⟨_, ⟨LV.le.refl _, rfl⟩, ?_⟩
      refine ⟨_, ⟨LV.le.refl _, rfl⟩, ?_⟩
      refine ⟨_, ⟨LV.le.refl _, rfl⟩, ?_⟩
      refine ⟨_, ⟨LV.le.refl _, rfl⟩, ?_⟩
      refine ⟨True.intro, ?_⟩
      exact ⟨LV.le.int (by rw [e0, if_pos fun hall => absurd (hall k hk) (by unfold DirtyOk; omega)]), rfl⟩
    by_cases z : k = 0
    · refine DrawA.run Tryz.tab2Ok Tryz.mixed [0, 1, 3, 7, 15, 31, 15, 127, 255, 511, 1023, 2047, 4095, 8191, 16383, 32767, 65535, 131071, 262143, 524287, 1048575, 524287, 2621439, 8388607, 16777215, 33554431, 524287, 67633151, 268435455, 536870911, 1073741823] [] rfl ?_
      refine ⟨_, ⟨LV.le.refl _, rfl⟩, ?_⟩
      refine ⟨_, ⟨LV.le.refl _, rfl⟩, ?_⟩
      refine ⟨.v (.bool false), ⟨LV.le.bsV (decide_eq_false a), rfl⟩, ?_⟩
      refine ⟨_, ⟨LV.le.refl _, rfl⟩, ?_⟩
      refine ⟨_, ⟨LV.le.refl _, rfl⟩, ?_⟩
      refine ⟨_, ⟨LV.le.refl _, rfl⟩, ?_⟩
      refine ⟨_, ⟨LV.le.refl _, rfl⟩, ?_⟩
      refine ⟨.v (.bool false), ⟨LV.le.bsV (decide_eq_false b), rfl⟩, ?_⟩
      refine ⟨_, ⟨LV.le.refl _, rfl⟩, ?_⟩
      refine ⟨_, ⟨LV.le.refl _, rfl⟩, ?_⟩
      refine ⟨_, ⟨LV.le.refl _, rfl⟩, ?_⟩
      refine ⟨_, ⟨LV.le.refl _, rfl⟩, ?_⟩
      refine ⟨_, ⟨LV.le.refl _, rfl⟩, ?_⟩
      refine ⟨.v (.bool false), ⟨LV.le.bsV (by show ((((m.dirty k).2.length : Nat) : Int) != 128) = false; rw [c]; rfl), rfl⟩, ?_⟩
      refine ⟨_, ⟨LV.le.refl _, rfl⟩, ?_⟩
      refine ⟨_, ⟨LV.le.refl _, rfl⟩, ?_⟩
      refine ⟨_, ⟨LV.le.refl _, rfl⟩, ?_⟩
      refine ⟨.v (.bool false), ⟨LV.le.bsV (decide_eq_false (by omega)), rfl⟩, ?_⟩
      refine ⟨_, ⟨LV.le.refl _, rfl⟩, ?_⟩
      refine ⟨_, ⟨LV.le.refl _, rfl⟩, ?_⟩
      refine ⟨_, ⟨LV.le.refl _, rfl⟩, ?_⟩
      refine ⟨_, ⟨LV.le.refl _, rfl⟩, ?_⟩
      refine ⟨_, ⟨LV.le.refl _, rfl⟩, ?_⟩
      refine ⟨_, ⟨LV.le.refl _, rfl⟩, ?_⟩
      refine ⟨_, ⟨LV.le.refl _, rfl⟩, ?_⟩
      refine ⟨_, ⟨LV.le.refl _, rfl⟩, ?_⟩
      refine ⟨_, ⟨LV.le.refl _, rfl⟩, ?_⟩
      refine ⟨_, ⟨LV.le.refl _, rfl⟩, ?_⟩
      refine ⟨_, ⟨LV.le.refl _, rfl⟩, ?_⟩
      refine ⟨_, ⟨LV.le.refl _, rfl⟩, ?_⟩
      refine ⟨_, ⟨LV.le.refl _, rfl⟩, ?_⟩
      refine ⟨True.intro, ?_⟩
      exact ⟨k + 1, ⟨(by omega : k + 1 ≤ m.nD), upTo hp ⟨by omega, by omega, c, fun hc => absurd hc (by omega)⟩⟩, (by omega : m.nD - (k + 1) < m.nD - k), .le ⟨rfl, ⟨rfl, Nat.le_of_ble_eq_true rfl⟩, ⟨LV.le.int ek, rfl, LV.le.refl _, rfl, LV.le.refl _, rfl, LV.le.refl _, rfl, LV.le.refl _, rfl, trivial⟩, ⟨⟨_, rfl, LO.le.refl _⟩, rfl, rfl, trivial⟩⟩⟩
    refine DrawA.run Tryz.tab2Ok Tryz.mixed [0, 1, 3, 7, 15, 31, 15, 127, 255, 511, 1023, 2047, 4095, 8191, 16383, 32767, 65535, 131071, 262143, 524287, 1048575, 524287, 2621439, 8388607, 16777215, 33554431, 524287, 67633151, 268435455, 536870911, 1073741823] [] rfl ?_
    refine ⟨_, ⟨LV.le.refl _, rfl⟩, ?_⟩
    refine ⟨_, ⟨LV.le.refl _, rfl⟩, ?_⟩
    refine ⟨.v (.bool false), ⟨LV.le.bsV (decide_eq_false a), rfl⟩, ?_⟩
    refine ⟨_, ⟨LV.le.refl _, rfl⟩, ?_⟩
    refine ⟨_, ⟨LV.le.refl _, rfl⟩, ?_⟩
    refine ⟨_, ⟨LV.le.refl _, rfl⟩, ?_⟩
    refine ⟨_, ⟨LV.le.refl _, rfl⟩, ?_⟩
    refine ⟨.v (.bool false), ⟨LV.le.bsV (decide_eq_false b), rfl⟩, ?_⟩
    refine ⟨_, ⟨LV.le.refl _, rfl⟩, ?_⟩
    refine ⟨_, ⟨LV.le.refl _, rfl⟩, ?_⟩
    refine ⟨_, ⟨LV.le.refl _, rfl⟩, ?_⟩
    refine ⟨_, ⟨LV.le.refl _, rfl⟩, ?_⟩
    refine ⟨_, ⟨LV.le.refl _, rfl⟩, ?_⟩
    refine ⟨.v (.bool false), ⟨LV.le.bsV (by show ((((m.dirty k).2.length : Nat) : Int) != 128) = false; rw [c]; rfl), rfl⟩, ?_⟩
    refine ⟨_, ⟨LV.le.refl _, rfl⟩, ?_⟩
    refine ⟨_, ⟨LV.le.refl _, rfl⟩, ?_⟩
    refine ⟨_, ⟨LV.le.refl _, rfl⟩, ?_⟩
    refine ⟨.v (.bool true), ⟨LV.le.bsV (decide_eq_true (by omega)), rfl⟩, ?_⟩
    refine ⟨_, ⟨LV.le.refl _, rfl⟩, ?_⟩
    refine ⟨_, ⟨LV.le.refl _, rfl⟩, ?_⟩
    refine ⟨_, ⟨LV.le.refl _, rfl⟩, ?_⟩
    refine ⟨_, ⟨LV.le.refl _, rfl⟩, ?_⟩
    refine ⟨iv ((k - 1 : Nat) : Int), ⟨LV.le.int (by rw [w64] <;> omega), rfl⟩, ?_⟩
    refine ⟨_, ⟨⟨by omega, by omega⟩, LV.le.refl _, rfl⟩, ?_⟩
    refine ⟨_, ⟨LV.le.refl _, rfl⟩, ?_⟩
    refine ⟨_, ⟨LV.le.refl _, rfl⟩, ?_⟩
    refine ⟨_, ⟨LV.le.refl _, rfl⟩, ?_⟩
    refine ⟨_, ⟨LV.le.refl _, rfl⟩, ?_⟩
    refine ⟨_, ⟨LV.le.refl _, rfl⟩, ?_⟩
    refine ⟨_, ⟨LV.le.refl _, rfl⟩, ?_⟩
    refine ⟨_, ⟨LV.le.refl _, rfl⟩, ?_⟩
    refine ⟨True.intro, ?_⟩
    refine ⟨fun q => ?_, fun q => ?_⟩
    · have q : (m.dirty (k - 1)).1 ≥ (m.dirty k).1 := dT q
      exact ⟨LV.le.int (by rw [e0, if_pos fun hall => absurd (hall k hk) (by unfold DirtyOk; omega)]), rfl⟩
    · have q : ¬ (m.dirty (k - 1)).1 ≥ (m.dirty k).1 := dF q
      exact ⟨k + 1, ⟨(by omega : k + 1 ≤ m.nD), upTo hp ⟨by omega, by omega, c, fun _ => by omega⟩⟩, (by omega : m.nD - (k + 1) < m.nD - k), .le ⟨rfl, ⟨rfl, Nat.le_of_ble_eq_true rfl⟩, ⟨LV.le.int ek, rfl, LV.le.refl _, rfl, LV.le.refl _, rfl, LV.le.refl _, rfl, LV.le.refl _, rfl, trivial⟩, ⟨⟨_, rfl, LO.le.refl _⟩, rfl, rfl, trivial⟩⟩⟩
  · obtain ⟨hj, hp⟩ := hj
    have h := dF h
    have h : ¬ (k : Int) < ((m.nD : Nat) : Int) := h
    have hn : k = m.nD := by have : k ≤ m.nD := hj; omega
    rw [if_neg (fun hc => hc fun i hi => hp i (by omega))] at e0
    refine Ct.callC hvol rfl (leL.refl _) ?_
    refine Ct.callC (rof_ct H (volN m m.nD) (by omega)) rfl (leL.refl _) ?_
    exact ⟨LV.le.int e0.symm, rfl⟩
end Go.Proofs.Aw

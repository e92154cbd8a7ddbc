/- A PART OF THE PROOF: an abstract run of the loaded code over value trees, and the functions walked by it. No condition of its own. -/
import Derived.Test.YtanmknmlphkeaaaGreatDoorZF1
namespace Go.Proofs.Aw
open Go Go.Proofs
set_option maxHeartbeats 8000000
set_option maxRecDepth 100000
theorem rWent_ct (c : Int) (n0 n1 M0 M0' M1 M1' : Nat) (k0 k1 : KL) (r : List UInt8) (w0 w0' w1 w1' : TL) (h0 : n0 ≤ 400) (h1 : n1 ≤ 400) (hM0 : M0 ≤ 400) (hM0' : M0' ≤ 400) (hM1 : M1 ≤ 400) (hM1' : M1' ≤ 400) :
    Ct Tryz.prog 24 [shot c n0 n1 k0 k1 r, .agg (macK M0 M1 w0 w1), .agg (macK M0' M1' w0' w1')] (shot c n0 n1 (wK k0 w0 w0' M0 M0') (wK k1 w1 w1' M1 M1') r) := by
  refine Ct.enter Tryz.tabOk ft24 ?_
  refine Ct.callC (rwent_ct n0 M0 M0' k0 w0 w0' h0 hM0 hM0') rfl (leL.refl _) ?_
  refine Ct.callC (rwent_ct n1 M1 M1' k1 w1 w1' h1 hM1 hM1') rfl (leL.refl _) ?_
  exact ⟨LV.le.refl _, rfl⟩
theorem pK_stay {k : KL} {w : TL} {M j : Nat} {n : Int} (h : ¬ (0 < pN k M n j ∧ (k j).1 = false ∧ j < M)) : kv (pK k w M n) j = [.bs (k j).1, .str (k j).2] ∧ pN k M n (j + 1) = pN k M n j := by
  simp only [kv, pK, pN]; rw [if_neg h, if_neg h]; exact ⟨rfl, rfl⟩
theorem pK_turn {k : KL} {w : TL} {M j : Nat} {n : Int} (h : 0 < pN k M n j ∧ (k j).1 = false ∧ j < M) : kv (pK k w M n) j = [.bs true, .str (w j)] ∧ pN k M n (j + 1) = pN k M n j - 1 := by
  simp only [kv, pK, pN]; rw [if_pos h, if_pos h]; exact ⟨rfl, rfl⟩
theorem rpump_ct (L M : Nat) (k : KL) (w : TL) (n : Int) (hL : L ≤ 400) (hM : M ≤ 400) (hn : n ≤ 9223372036854775807) : Ct Tryz.prog 66 [.sl 2 L (kv k), .sl 1 M (tx w), .v (.int .i64 n)] (.tup [.sl 2 L (kv (pK k w M n)), .v (.int .i64 (pN k M n L))]) := by
  refine Ct.enter Tryz.tabOk ft66 ?_
  refine ⟨Nat, fun j => ⟨[(9, .v (.int .i64 (j : Int))), (8, .ls 0 j), (2, .v (.int .i64 (pN k M n j))), (0, .sl 2 L (kv k)), (1, .sl 1 M (tx w))], [(0, .arr 101 2 j (kv (pK k w M n)))], 1, 0⟩, fun j => j ≤ L, fun j => L - j, 0, Nat.zero_le _,
    .own (ty := 101) (sz := 2) ⟨rfl, rfl, ⟨.refl _, rfl, .nil, rfl, .refl _, rfl, .refl _, rfl, .refl _, rfl, trivial⟩, ⟨⟨_, rfl, .of (LO.le.arr rfl fun i hi => absurd hi (by omega))⟩, rfl, rfl, trivial⟩⟩, fun j hj => ⟨fun h => ?_, fun h => ?_⟩⟩
  · have h := dT h
    have h : (j : Int) < L := h
    have e11 : IntKind.i64.wrap ((j : Int) + 1) = ((j + 1 : Nat) : Int) := by rw [w64] <;> omega
    have hpn := pN_le k M n j
    refine ⟨⟨by omega, by omega⟩, ⟨fun a1 => ⟨fun a2 => ⟨fun a3 => ?_, fun a3 => ?_⟩, fun a2 => ?_⟩, fun a1 => ?_⟩⟩
    · have a1 := dT a1
      have a1 : pN k M n j > 0 := a1
      have a2 : (!(k j).1) = true := a2
      have a3 := dT a3
      have a3 : (j : Int) < M := a3
      have hc := pK_turn (w := w) (k := k) (M := M) (j := j) (n := n) ⟨a1, by simpa using a2, by omega⟩
      refine ⟨⟨by omega, by omega⟩, by show (j + 1) * 24 ≤ _; omega, by show j + 1 ≤ _; omega, ⟨j + 1, (by omega : j + 1 ≤ L), (by omega : L - (j + 1) < L - j), .ren (a := 0) (b := 3) ⟨rfl, ⟨rfl, rfl, rfl, Nat.le_of_ble_eq_true rfl⟩, ⟨LV.le.int e11, rfl, LV.le.refl _, rfl, LV.le.int (by rw [hc.2, w64 (by omega) (by omega)]), rfl, LV.le.refl _, rfl, LV.le.refl _, rfl, trivial⟩, ⟨⟨_, rfl, LO.le.arrL rfl fun i hi => snocL (by rw [hc.1]; exact ⟨_, _, rfl, LV.le.bs true, leL.refl _⟩) i hi⟩, rfl, rfl, trivial⟩⟩⟩⟩
    · have a3 := dF a3
      have a3 : ¬ (j : Int) < M := a3
      have hc := pK_stay (w := w) (k := k) (M := M) (j := j) (n := n) (fun hh => a3 (by omega))
      exact ⟨by show (j + 1) * 24 ≤ _; omega, by show j + 1 ≤ _; omega, ⟨j + 1, (by omega : j + 1 ≤ L), (by omega : L - (j + 1) < L - j), .ren (a := 0) (b := 3) ⟨rfl, ⟨rfl, rfl, rfl, Nat.le_of_ble_eq_true rfl⟩, ⟨LV.le.int e11, rfl, LV.le.refl _, rfl, LV.le.int hc.2.symm, rfl, LV.le.refl _, rfl, LV.le.refl _, rfl, trivial⟩, ⟨⟨_, rfl, LO.le.arrL rfl fun i hi => snocL (by rw [hc.1]; exact leL.refl _) i hi⟩, rfl, rfl, trivial⟩⟩⟩⟩
    · have a2 : (!(k j).1) = false := a2
      have hc := pK_stay (w := w) (k := k) (M := M) (j := j) (n := n) (fun hh => by rw [hh.2.1] at a2; simp at a2)
      exact ⟨by show (j + 1) * 24 ≤ _; omega, by show j + 1 ≤ _; omega, ⟨j + 1, (by omega : j + 1 ≤ L), (by omega : L - (j + 1) < L - j), .ren (a := 0) (b := 3) ⟨rfl, ⟨rfl, rfl, rfl, Nat.le_of_ble_eq_true rfl⟩, ⟨LV.le.int e11, rfl, LV.le.refl _, rfl, LV.le.int hc.2.symm, rfl, LV.le.refl _, rfl, LV.le.refl _, rfl, trivial⟩, ⟨⟨_, rfl, LO.le.arrL rfl fun i hi => snocL (by rw [hc.1]; exact leL.refl _) i hi⟩, rfl, rfl, trivial⟩⟩⟩⟩
    · have a1 := dF a1
      have a1 : ¬ pN k M n j > 0 := a1
      have hc := pK_stay (w := w) (k := k) (M := M) (j := j) (n := n) (fun hh => a1 hh.1)
      exact ⟨by show (j + 1) * 24 ≤ _; omega, by show j + 1 ≤ _; omega, ⟨j + 1, (by omega : j + 1 ≤ L), (by omega : L - (j + 1) < L - j), .ren (a := 0) (b := 3) ⟨rfl, ⟨rfl, rfl, rfl, Nat.le_of_ble_eq_true rfl⟩, ⟨LV.le.int e11, rfl, LV.le.refl _, rfl, LV.le.int hc.2.symm, rfl, LV.le.refl _, rfl, LV.le.refl _, rfl, trivial⟩, ⟨⟨_, rfl, LO.le.arrL rfl fun i hi => snocL (by rw [hc.1]; exact leL.refl _) i hi⟩, rfl, rfl, trivial⟩⟩⟩⟩
  · have hj : j ≤ L := hj
    obtain rfl : j = L := by have := dF h; omega
    exact ⟨LV.le.refl _, rfl⟩
theorem rPump_ct (c n : Int) (n0 n1 M0 M1 : Nat) (k0 k1 : KL) (r : List UInt8) (w0 w1 : TL) (h0 : n0 ≤ 400) (h1 : n1 ≤ 400) (hM0 : M0 ≤ 400) (hM1 : M1 ≤ 400) (hn : n ≤ 9223372036854775807) :
    Ct Tryz.prog 26 [shot c n0 n1 k0 k1 r, .agg (macK M0 M1 w0 w1), .v (.int .i64 n)] (shot c n0 n1 (pK k0 w0 M0 n) (pK k1 w1 M1 (pN k0 M0 n n0)) r) := by
  have := pN_le k0 M0 n n0
  refine Ct.enter Tryz.tabOk ft26 ?_
  refine Ct.callC (rpump_ct n0 M0 k0 w0 n h0 hM0 hn) rfl (leL.refl _) ?_
  refine Ct.callC (rpump_ct n1 M1 k1 w1 (pN k0 M0 n n0) h1 hM1 (by omega)) rfl (leL.refl _) ?_
  exact ⟨LV.le.refl _, rfl⟩
theorem rall_ct (n : Nat) (k : KL) (hn : n ≤ 400) : Ct Tryz.prog 67 [.sl 2 n (kv k)] (.sl 1 n (tx (dat k))) := by
  refine Ct.enter Tryz.tabOk ft67 ?_
  refine ⟨Nat, fun j => ⟨[(4, .v (.int .i64 (j : Int))), (3, .ls 0 j), (0, .sl 2 n (kv k))], [(0, .arr 9 1 j (tx (dat k)))], 1, 0⟩, fun j => j ≤ n, fun j => n - j, 0, Nat.zero_le _,
    .own (ty := 9) (sz := 1) ⟨rfl, rfl, ⟨.refl _, rfl, .nil, rfl, .refl _, rfl, trivial⟩, ⟨⟨_, rfl, .of (LO.le.arr rfl fun i hi => absurd hi (by omega))⟩, rfl, rfl, trivial⟩⟩, fun j hj => ⟨fun h => ?_, fun h => ?_⟩⟩
  · have h := dT h
    have h : (j : Int) < n := h
    have e11 : IntKind.i64.wrap ((j : Int) + 1) = ((j + 1 : Nat) : Int) := by rw [w64] <;> omega
    exact ⟨⟨by omega, by omega⟩, by show (j + 1) * 16 ≤ _; omega, by show j + 1 ≤ _; omega, ⟨j + 1, (by omega : j + 1 ≤ n), (by omega : n - (j + 1) < n - j), .ren (a := 0) (b := 2) ⟨rfl, ⟨rfl, rfl, rfl, Nat.le_of_ble_eq_true rfl⟩, ⟨LV.le.int e11, rfl, LV.le.refl _, rfl, LV.le.refl _, rfl, trivial⟩, ⟨⟨_, rfl, LO.le.arrL rfl fun i hi => snocL (leL.refl _) i hi⟩, rfl, rfl, trivial⟩⟩⟩⟩
  · have hj : j ≤ n := hj
    obtain rfl : j = n := by have := dF h; omega
    exact ⟨LV.le.refl _, rfl⟩
theorem rImage_busy (c : Int) (n0 n1 : Nat) (k0 k1 : KL) (r : List UInt8) (h0 : n0 ≤ 400) (h1 : n1 ≤ 400) (hc : 0 < cnt (catK n0 k0 k1) (n0 + n1)) :
    Ct Tryz.prog 28 [shot c n0 n1 k0 k1 r] (.tup [imgV (.v (.slice none 0 0)) (.v (.slice none 0 0)) [], .v (.int .i64 12)]) := by
  refine Ct.enter Tryz.tabOk ft28 ?_
  refine Ct.callC (rLeft_ct c n0 n1 k0 k1 r h0 h1) rfl (leL.refl _) ?_
  refine ⟨fun h => ?_, fun h => absurd (dF h) (by show ¬ ¬ (0 : Int) < (cnt (catK n0 k0 k1) (n0 + n1) : Int); omega)⟩
  exact ⟨LV.le.refl _, rfl⟩
theorem rImage_all (c : Int) (n0 n1 : Nat) (k0 k1 : KL) (r : List UInt8) (h0 : n0 ≤ 400) (h1 : n1 ≤ 400) (hc : cnt (catK n0 k0 k1) (n0 + n1) = 0) :
    Ct Tryz.prog 28 [shot c n0 n1 k0 k1 r] (.tup [imgV (.sl 1 n0 (tx (dat k0))) (.sl 1 n1 (tx (dat k1))) r, .v (.int .i64 0)]) := by
  refine Ct.enter Tryz.tabOk ft28 ?_
  refine Ct.callC (rLeft_ct c n0 n1 k0 k1 r h0 h1) rfl (leL.refl _) ?_
  refine ⟨fun h => absurd (dT h) (by rw [hc]; decide), fun h => ?_⟩
  refine DrawA.run Tryz.tabOk Tryz.mixed [0, 1, 3, 0, 8, 31, 0, 64, 255, 511, 1023] [9] rfl ?_
  refine ⟨_, ⟨LV.le.refl _, rfl⟩, ?_⟩
  refine ⟨_, ⟨LV.le.refl _, rfl⟩, ?_⟩
  refine ⟨_, Ct.callC (rall_ct n0 k0 h0) rfl (leL.refl _) ⟨LV.le.refl _, rfl⟩, ?_⟩
  refine ⟨_, ⟨LV.le.refl _, rfl⟩, ?_⟩
  refine ⟨_, ⟨LV.le.refl _, rfl⟩, ?_⟩
  refine ⟨_, Ct.callC (rall_ct n1 k1 h1) rfl (leL.refl _) ⟨LV.le.refl _, rfl⟩, ?_⟩
  refine ⟨_, ⟨LV.le.refl _, rfl⟩, ?_⟩
  refine ⟨_, ⟨LV.le.refl _, rfl⟩, ?_⟩
  refine ⟨_, ⟨LV.le.refl _, rfl⟩, ?_⟩
  refine ⟨_, _, ⟨LV.le.refl _, rfl⟩, ?_⟩
  refine ⟨_, ⟨LV.le.refl _, rfl⟩, ?_⟩
  refine ⟨True.intro, ?_⟩
  exact ⟨LV.le.refl _, rfl⟩
theorem rtexts_same (n : Nat) (a : TL) (hn : n ≤ 1000000000) : Ct Tryz.prog 68 [.sl 1 n (tx a), .sl 1 n (tx a)] (.v (.bool true)) := by
  refine Ct.enter Tryz.tabOk ft68 ?_
  refine ⟨fun h => absurd h (by simp), fun _ => ?_⟩
  refine ⟨Nat, fun j => ⟨[(5, .v (.int .i64 (j : Int))), (0, .sl 1 n (tx a)), (1, .sl 1 n (tx a))], [], 0, 0⟩, fun j => j ≤ n, fun j => n - j, 0, Nat.zero_le _,
    .le ⟨rfl, ⟨rfl, Nat.le_refl _⟩, ⟨LV.le.refl _, rfl, LV.le.refl _, rfl, LV.le.refl _, rfl, trivial⟩, trivial⟩, fun j hj => ⟨fun h1 => ?_, fun h1 => ?_⟩⟩
  · have h1 := dT h1
    have e11 : IntKind.i64.wrap ((j : Int) + 1) = ((j + 1 : Nat) : Int) := by rw [w64] <;> omega
    refine DrawA.run Tryz.tabOk Tryz.mixed [0, 0, 3, 7, 0, 0, 48, 112, 255] [] rfl ?_
    refine ⟨_, ⟨LV.le.refl _, rfl⟩, ?_⟩
    refine ⟨_, ⟨LV.le.refl _, rfl⟩, ?_⟩
    refine ⟨_, ⟨⟨by omega, by omega⟩, LV.le.refl _, rfl⟩, ?_⟩
    refine ⟨_, ⟨LV.le.refl _, rfl⟩, ?_⟩
    refine ⟨_, ⟨LV.le.refl _, rfl⟩, ?_⟩
    refine ⟨_, ⟨LV.le.refl _, rfl⟩, ?_⟩
    refine ⟨_, ⟨⟨by omega, by omega⟩, LV.le.refl _, rfl⟩, ?_⟩
    refine ⟨_, ⟨LV.le.refl _, rfl⟩, ?_⟩
    refine ⟨.v (.bool false), ⟨LV.le.bsV (by simp), rfl⟩, ?_⟩
    refine ⟨True.intro, ?_⟩
    exact ⟨j + 1, (by omega : j + 1 ≤ n), (by omega : n - (j + 1) < n - j), .le ⟨rfl, ⟨rfl, Nat.le_refl _⟩, ⟨LV.le.int e11, rfl, LV.le.refl _, rfl, LV.le.refl _, rfl, trivial⟩, trivial⟩⟩
  · exact ⟨LV.le.refl _, rfl⟩
theorem rSame_ct (n m : Nat) (a c : TL) (z : List UInt8) (hn : n ≤ 1000000000) (hm : m ≤ 1000000000) : Ct Tryz.prog 29 [imgV (.sl 1 n (tx a)) (.sl 1 m (tx c)) z, imgV (.sl 1 n (tx a)) (.sl 1 m (tx c)) z] (.v (.bool true)) := by
  refine Ct.enter Tryz.tabOk ft29 ?_
  refine ⟨fun _ => ?_, fun h => absurd h (by simp)⟩
  refine Ct.callC (rtexts_same n a hn) rfl (leL.refl _) ?_
  refine Ct.callC (rtexts_same m c hm) rfl (leL.refl _) ?_
  exact ⟨LV.le.refl _, rfl⟩
end Go.Proofs.Aw

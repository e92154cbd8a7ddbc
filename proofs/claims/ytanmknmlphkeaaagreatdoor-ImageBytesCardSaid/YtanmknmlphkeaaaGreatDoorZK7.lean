/- A PART OF THE PROOF: an abstract run of the loaded code over value trees, and the functions walked by it. No condition of its own. -/
import Derived.Test.YtanmknmlphkeaaaGreatDoorZK6
import Derived.Test.YtanmknmlphkeaaaGreatDoorZDB
namespace Go.Proofs.Aw
open Go Go.Proofs Go.RowKit
set_option maxHeartbeats 8000000
set_option maxRecDepth 100000
theorem eqItems_same {P : Program} {w : World} {d e : Nat} {xs : Array Value} (h : ∀ i, i < 32 → ∃ a, (part e xs (i * 1)).run P w = .ok a w ∧ (Op.equalIn d e a a).run P w = .ok true w) : ∀ (is : List Nat), (∀ i ∈ is, i < 32) → (Op.eqItems d e 1 xs xs is).run P w = .ok true w
  | [], _ => by simp [Op.eqItems]
  | i :: is, hi => by
    obtain ⟨a, h1, h2⟩ := h i (hi i (by simp))
    simp only [Op.eqItems, Sem.run_bind, h1, Result.andThen_ok, h2]
    simpa using eqItems_same h is fun j hj => hi j (by simp [hj])
theorem get32 (B : Nat → Int) : ∀ k, k < 32 → (L32 B)[k]? = some (b8 (B k)) := by
  intro k hk
  rcases (if h : k < 16 then .inl h else .inr ⟨k - 16, by omega, by omega⟩ : k < 16 ∨ ∃ j, k = 16 + j ∧ j < 16) with h | ⟨j, rfl, h⟩
  · exact lt16 (p := fun k => (L32 B)[k]? = some (b8 (B k))) ⟨rfl, rfl, rfl, rfl, rfl, rfl, rfl, rfl, rfl, rfl, rfl, rfl, rfl, rfl, rfl, rfl⟩ k h
  · exact lt16 (p := fun j => (L32 B)[16 + j]? = some (b8 (B (16 + j)))) ⟨rfl, rfl, rfl, rfl, rfl, rfl, rfl, rfl, rfl, rfl, rfl, rfl, rfl, rfl, rfl, rfl⟩ j h
theorem eqF_dig (B : Nat → Int) : EqF Tryz.prog 57 (L32 B) (L32 B) true := by
  intro m N ys zs w op x y h1 h2
  have key : ∀ ys : List Value, RepL m N (L32 B) ys → ys.length = 32 ∧ ∀ i, i < 32 → ys[i]? = some (.int .u8 (B i)) := fun ys h => by
    refine ⟨h.length, fun i hi => ?_⟩
    obtain ⟨y, h3, h4⟩ := RepL.get h i _ (get32 B i hi)
    have h4 : y = .int .u8 (B i) := h4
    rw [h3, h4]
  obtain ⟨l1, g1⟩ := key ys h1
  obtain ⟨l2, g2⟩ := key zs h2
  obtain rfl : ys = zs := List.ext_getElem? fun i => by
    by_cases hi : i < 32
    · rw [g1 i hi, g2 i hi]
    · rw [List.getElem?_eq_none (by omega), List.getElem?_eq_none (by omega)]
  refine ⟨run_eqGuard_agg w op 57 x y _ _ Tryz.eqGuardType57, ?_⟩
  show (Op.equalIn (9999 + 1) 57 _ _).run Tryz.prog w = _
  rw [Go.run_equalIn_array w 9999 _ _ Tryz.underlying57 Tryz.type5]
  rw [show Tryz.prog.cellsOf 5 = 1 by kernel_rfl]
  refine eqItems_same (fun i hi => ⟨.int .u8 (B i), ?_, ?_⟩) _ fun i hi => List.mem_range.1 hi
  · exact Go.run_part_plain w (by kernel_rfl) (by rw [Nat.mul_one]; simpa using g1 i hi)
  · have := run_equalIn_int w 9998 5 .u8 .u8 (B i) (B i) Tryz.underlying5
    simpa using this
end Go.Proofs.Aw
namespace Go.Proofs.Aw
open Go Go.Proofs Go.RowKit
set_option maxHeartbeats 8000000
set_option maxRecDepth 100000
theorem isum_ct (n m : Nat) (a c : TL) (z : List UInt8) (hn : n ≤ 100000000) (hm : m ≤ 100000000) (h1 : (rowN a n).length ≤ 1000000000) (h2 : (rowN c m).length ≤ 1000000000) (h3 : (rowL [hibi, rowN a n, rowN c m, z]).length ≤ 1000000000) :
    Ct Tryz.prog 33 [imgL n m a c z] (.agg (L32 (sumF (rowL [hibi, rowN a n, rowN c m, z])))) := by
  refine Ct.enter Tryz.tabOk ft33 ?_
  refine Ct.callC (bytes_ct n m a c z hn hm h1 h2 h3) rfl (leL.refl _) ?_
  generalize rowL [hibi, rowN a n, rowN c m, z] = B
  refine Ct.callF (sum_ct B) rfl ⟨_, _, rfl, LV.le.sl rfl fun i hi => ?_, rfl⟩ rfl ?_
  · obtain rfl : i = 0 := by omega
    rfl
  generalize sumF B = D
  exact ⟨LV.le.refl _, rfl⟩
def toL (a : TL) (n : Nat) : List (List UInt8) := (List.range n).map a
theorem toL_len (a : TL) (n : Nat) : (toL a n).length = n := by simp [toL]
theorem toL_at (a : TL) (n i : Nat) (h : i < n) : atL (toL a n) i = a i := by simp [toL, atL, h]
theorem toL_row (a : TL) (n : Nat) : rowL (toL a n) = rowN a n := by
  rw [← rowN_list, toL_len]
  exact rowN_congr fun i hi => toL_at a n i hi
theorem rowN_small (a : TL) (n : Nat) (h : ∀ i, i < n → (a i).length ≤ 200) : (rowN a n).length ≤ 401 * n := by
  induction n with
  | zero => simp [rowN]
  | succ n ih =>
    have := ih fun i hi => h i (by omega)
    have h1 := h n (by omega)
    have h2 := lenEnc_len (a n).length (a n).length (Nat.le_refl _)
    simp only [rowN, List.length_append]
    omega
theorem img_of (n m : Nat) (a c : TL) (z : List UInt8) (hs : Sm n m a c z) : img (rowL [hibi, rowN a n, rowN c m, z]) = some (toL a n, toL c m, z) ∧ (rowL [hibi, rowN a n, rowN c m, z]).length ≤ 100000000 ∧ (rowN a n).length ≤ 1000000 ∧ (rowN c m).length ≤ 1000000 := by
  obtain ⟨s1, s2, s3, s4, s5⟩ := hs
  have b1 := rowN_small a n s4
  have b2 := rowN_small c m s5
  have q1 : (rowN a n).length ≤ 1000000 := by omega
  have q2 : (rowN c m).length ≤ 1000000 := by omega
  have e1 : rdT (rowN a n) = .ok (toL a n) := by
    rw [← toL_row]
    refine rdT_rowL _ fun s hs => ?_
    simp only [toL, List.mem_map, List.mem_range] at hs
    obtain ⟨i, hi, rfl⟩ := hs
    have := s4 i hi; omega
  have e2 : rdT (rowN c m) = .ok (toL c m) := by
    rw [← toL_row]
    refine rdT_rowL _ fun s hs => ?_
    simp only [toL, List.mem_map, List.mem_range] at hs
    obtain ⟨i, hi, rfl⟩ := hs
    have := s5 i hi; omega
  have e3 : rdT (rowL [hibi, rowN a n, rowN c m, z]) = .ok [hibi, rowN a n, rowN c m, z] := by
    refine rdT_rowL _ fun s hs => ?_
    simp only [List.mem_cons, List.not_mem_nil, or_false] at hs
    rcases hs with rfl | rfl | rfl | rfl
    · decide
    · omega
    · omega
    · omega
  refine ⟨img_ok e3 e1 e2, ?_, q1, q2⟩
  have k1 := lenEnc_len hibi.length hibi.length (Nat.le_refl _)
  have k2 := lenEnc_len (rowN a n).length (rowN a n).length (Nat.le_refl _)
  have k3 := lenEnc_len (rowN c m).length (rowN c m).length (Nat.le_refl _)
  have k4 := lenEnc_len z.length z.length (Nat.le_refl _)
  have k5 : hibi.length = 4 := rfl
  simp only [rowL, List.length_append, List.length_nil]
  omega
theorem ibytes_ct (n m : Nat) (a c : TL) (z : List UInt8) : Ct Tryz.prog 6 [imgL n m a c z] (.v (.bool true)) := by
  refine Ct.enter Tryz.tabOk ft6 ?_
  have hg := igreat_ct n m a c z
  by_cases hs : Sm n m a c z
  · rw [if_pos hs] at hg
    obtain ⟨i1, i2, i3, i4⟩ := img_of n m a c z hs
    have hn := hs.1
    have hm := hs.2.1
    refine Ct.callC hg rfl (leL.refl _) ?_
    refine ⟨fun h => absurd h (by decide), fun _ => ?_⟩
    refine Ct.callC (bytes_ct n m a c z (by omega) (by omega) (by omega) (by omega) (by omega)) rfl (leL.refl _) ?_
    refine Ct.callC (iread_ct (rowL [hibi, rowN a n, rowN c m, z]) i2 _ i1) rfl (leL.refl _) ?_
    refine Ct.callC (rbytes_ct n m a c z (by omega) (by omega) (by omega) (by omega) (by omega)) rfl (leL.refl _) ?_
    refine ⟨fun _ => ?_, fun h => absurd h (by simp)⟩
    refine Ct.callC (isum_ct n m a c z (by omega) (by omega) (by omega) (by omega) (by omega)) rfl (leL.refl _) ?_
    generalize rowL [hibi, rowN a n, rowN c m, z] = B
    refine Ct.callF (sum_ct B) rfl ⟨_, _, rfl, LV.le.sl rfl fun i hi => ?_, rfl⟩ rfl ?_
    · obtain rfl : i = 0 := by omega
      rfl
    generalize sumF B = D
    refine ⟨true, eqF_dig D, ?_⟩
    refine ⟨fun _ => ?_, fun h => absurd h (by decide)⟩
    refine ⟨fun _ => ?_, fun h => absurd h (by decide)⟩
    refine Ct.callC (isame_ct n m a c z (by omega) (by omega)) rfl ⟨_, _, rfl, LV.le.refl _, _, _, rfl, LV.le.agg ⟨_, _, rfl, LV.le.sl (toL_len a n) (fun i hi => ?_), _, _, rfl, LV.le.sl (toL_len c m) (fun i hi => ?_), _, _, rfl, LV.le.refl _, rfl⟩, rfl⟩ ?_
    · rw [toL_len] at hi; simp only [tx]; rw [toL_at a n i hi]
    · rw [toL_len] at hi; simp only [tx]; rw [toL_at c m i hi]
    refine Ct.callC awake_ct rfl (leL.refl _) ?_
    exact ⟨LV.le.refl _, rfl⟩
  · rw [if_neg hs] at hg
    refine Ct.callC hg rfl (leL.refl _) ?_
    refine ⟨fun _ => ?_, fun h => absurd h (by decide)⟩
    refine Ct.callC awake_ct rfl (leL.refl _) ?_
    exact ⟨LV.le.refl _, rfl⟩
end Go.Proofs.Aw

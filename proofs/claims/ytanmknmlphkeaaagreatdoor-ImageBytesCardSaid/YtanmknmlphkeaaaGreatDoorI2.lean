/- A PART OF THE PROOF: an abstract run of the loaded code over value trees, and the functions walked by it. No condition of its own. -/
import Derived.Test.YtanmknmlphkeaaaGreatDoorI1
/-! the plain law of rows of texts: what was written is read as it -/
namespace Go.Proofs.Aw
theorem rdAt_of : ∀ (f v i n : Nat) (r : List UInt8), v ≤ f → i ≤ 3 → v < 2 ^ (7 * (4 - i)) → (0 < i → v ≠ 0) → rdAt i n (lenEnc v ++ r) = .ok (n + v * 2 ^ (7 * i)) (i + (lenEnc v).length)
  | f, v, i, n, r, hf, hi, hv, h0 => by
    rw [lenEnc]
    split
    · rename_i h1
      have hx : (UInt8.ofNat v).toNat = v := by simp; omega
      simp only [List.cons_append, List.nil_append, rdAt, hx, List.length_cons, List.length_nil]
      rw [if_neg (by omega), if_pos h1, Nat.mod_eq_of_lt h1]
    · rename_i h1
      have hx : (UInt8.ofNat (v % 128 + 128)).toNat = v % 128 + 128 := by simp; omega
      have hi2 : i ≠ 3 := fun e => by subst e; simp at hv; omega
      cases f with
      | zero => omega
      | succ f =>
        have hq : v / 128 < 2 ^ (7 * (4 - (i + 1))) := by
          rcases (by omega : i = 0 ∨ i = 1 ∨ i = 2) with rfl | rfl | rfl <;> simp at hv ⊢ <;> omega
        have ih := rdAt_of f (v / 128) (i + 1) (n + v % 128 * 2 ^ (7 * i)) r (by omega) (by omega) hq (by omega)
        simp only [List.cons_append, rdAt, hx, List.length_cons]
        rw [if_neg (by omega), if_neg (by omega)]
        have e : (v % 128 + 128) % 128 = v % 128 := by omega
        rw [e, ih]
        congr 1
        · rw [Nat.mul_add 7 i 1, Nat.pow_add, Nat.add_assoc]
          congr 1
          have : v / 128 * (2 ^ (7 * i) * 2 ^ (7 * 1)) = v / 128 * 128 * 2 ^ (7 * i) := by
            rw [show (2 : Nat) ^ (7 * 1) = 128 from rfl, Nat.mul_comm (2 ^ (7 * i)) 128, ← Nat.mul_assoc]
          rw [this, ← Nat.add_mul]
          congr 1
          omega
        · omega
theorem rdT_rowL : ∀ (l : List (List UInt8)), (∀ s ∈ l, s.length < 268435456) → rdT (rowL l) = .ok l
  | [], _ => rfl
  | s :: r, h => by
    have hs := h s (by simp)
    have h1 : rdAt 0 0 (rowL (s :: r)) = .ok s.length (lenEnc s.length).length := by
      simp only [rowL]
      rw [List.append_assoc, rdAt_of s.length s.length 0 0 (s ++ rowL r) (Nat.le_refl _) (by omega) (by simpa using hs) (by omega)]
      simp
    have hl : (rowL (s :: r)).length = (lenEnc s.length).length + s.length + (rowL r).length := by simp only [rowL, List.length_append]
    rw [rdT_step h1 (by omega)]
    have hd : (rowL (s :: r)).drop ((lenEnc s.length).length + s.length) = rowL r := by
      simp only [rowL]
      rw [← List.length_append]
      exact List.drop_left
    have ht : ((rowL (s :: r)).drop (lenEnc s.length).length).take s.length = s := by
      simp only [rowL, List.append_assoc]
      rw [List.drop_left]
      exact List.take_left
    rw [hd, ht, rdT_rowL r fun t ht => h t (by simp [ht])]
    rfl
end Go.Proofs.Aw

/- A PART OF THE PROOF: an abstract run of the loaded code over value trees, and the functions walked by it. No condition of its own. -/
/-! the plain law of rows of texts: reading and writing -/
namespace Go.Proofs.Aw

inductive Rd where
  | bad (e : Int)
  | ok (n size : Nat)
inductive Tx where
  | bad (e : Int)
  | ok (l : List (List UInt8))

/-- a length that bytes begin with, from the i-th byte on; n: what the bytes ahead tell -/
def rdAt : Nat → Nat → List UInt8 → Rd
  | _, _, [] => .bad 4
  | i, n, x :: r =>
    if (i = 3 ∧ 128 ≤ x.toNat) ∨ (0 < i ∧ x.toNat = 0) then .bad 3
    else if x.toNat < 128 then .ok (n + x.toNat % 128 * 2 ^ (7 * i)) (i + 1)
    else rdAt (i + 1) (n + x.toNat % 128 * 2 ^ (7 * i)) r

theorem rdAt_size : ∀ (b : List UInt8) (i n N s : Nat), rdAt i n b = .ok N s → i < s ∧ s ≤ i + b.length
  | [], i, n, N, s, h => by simp [rdAt] at h
  | x :: r, i, n, N, s, h => by
    simp only [rdAt] at h
    split at h
    · cases h
    · split at h
      · injection h with h1 h2; simp; omega
      · have := rdAt_size r _ _ _ _ h; simp; omega

def lenEnc (n : Nat) : List UInt8 := if h : n < 128 then [UInt8.ofNat n] else UInt8.ofNat (n % 128 + 128) :: lenEnc (n / 128)
termination_by n
decreasing_by omega

def rowL : List (List UInt8) → List UInt8
  | [] => []
  | s :: r => lenEnc s.length ++ s ++ rowL r

def txs : Nat → List UInt8 → Tx
  | _, [] => .ok []
  | 0, _ :: _ => .bad 0
  | f + 1, x :: b => match rdAt 0 0 (x :: b) with
    | .bad e => .bad e
    | .ok n s => if (x :: b).length < s + n then .bad 4 else match txs f ((x :: b).drop (s + n)) with
      | .bad e => .bad e
      | .ok l => .ok (((x :: b).drop s).take n :: l)
def rdT (b : List UInt8) : Tx := txs b.length b

theorem txs_fuel : ∀ (f g : Nat) (b : List UInt8), b.length ≤ f → b.length ≤ g → txs f b = txs g b
  | f, g, [], _, _ => by cases f <;> cases g <;> rfl
  | 0, _, x :: b, h, _ => by simp at h
  | _, 0, x :: b, _, h => by simp at h
  | f + 1, g + 1, x :: b, h1, h2 => by
    simp only [txs]
    split
    · rfl
    · rename_i n s hr
      have := rdAt_size _ _ _ _ _ hr
      split
      · rfl
      · rw [txs_fuel f g ((x :: b).drop (s + n)) (by rw [List.length_drop]; omega) (by rw [List.length_drop]; omega)]
theorem rdT_nil : rdT [] = .ok [] := rfl
theorem rdT_cons {b : List UInt8} (h : b ≠ []) : rdT b = match rdAt 0 0 b with
    | .bad e => .bad e
    | .ok n s => if b.length < s + n then .bad 4 else match rdT (b.drop (s + n)) with
      | .bad e => .bad e
      | .ok l => .ok ((b.drop s).take n :: l) := by
  cases b with
  | nil => exact absurd rfl h
  | cons x b =>
    show txs (b.length + 1) (x :: b) = _
    simp only [txs]
    split
    · rfl
    · rename_i n s hr
      have := rdAt_size _ _ _ _ _ hr
      split
      · rfl
      · unfold rdT
        rw [txs_fuel b.length ((x :: b).drop (s + n)).length ((x :: b).drop (s + n)) (by rw [List.length_drop]; simp; omega) (Nat.le_refl _)]

/-- texts that were read, ahead of others -/
def Tx.pre (a : List (List UInt8)) : Tx → Tx
  | .bad e => .bad e
  | .ok l => .ok (a ++ l)
theorem Tx.pre_nil (t : Tx) : t.pre [] = t := by cases t <;> rfl
theorem Tx.pre_pre (a c : List (List UInt8)) (t : Tx) : (t.pre c).pre a = t.pre (a ++ c) := by cases t <;> simp [Tx.pre]
/-- one more text is read -/
theorem rdT_step {b : List UInt8} {n s : Nat} (h : rdAt 0 0 b = .ok n s) (hl : ¬ b.length < s + n) : rdT b = (rdT (b.drop (s + n))).pre [(b.drop s).take n] := by
  have hb : b ≠ [] := by rintro rfl; simp [rdAt] at h
  rw [rdT_cons hb, h]
  simp only
  rw [if_neg hl]
  cases rdT (b.drop (s + n)) <;> rfl
theorem rdT_short {b : List UInt8} {n s : Nat} (h : rdAt 0 0 b = .ok n s) (hl : b.length < s + n) : rdT b = .bad 4 := by
  have hb : b ≠ [] := by rintro rfl; simp [rdAt] at h
  rw [rdT_cons hb, h]
  simp only
  rw [if_pos hl]
theorem rdT_bad {b : List UInt8} {e : Int} (hb : b ≠ []) (h : rdAt 0 0 b = .bad e) : rdT b = .bad e := by
  rw [rdT_cons hb, h]

/-- a length that was read is the length as it is written -/
theorem rdAt_enc : ∀ (b : List UInt8) (i n N s : Nat), rdAt i n b = .ok N s → ∃ v, N = n + v * 2 ^ (7 * i) ∧ b.take (s - i) = lenEnc v ∧ (0 < i → v ≠ 0)
  | [], i, n, N, s, h => by simp [rdAt] at h
  | x :: r, i, n, N, s, h => by
    simp only [rdAt] at h
    split at h
    · cases h
    · rename_i h1
      split at h
      · rename_i h2
        injection h with h3 h4
        refine ⟨x.toNat, by rw [← h3, Nat.mod_eq_of_lt h2], ?_, fun hi h0 => h1 (.inr ⟨hi, h0⟩)⟩
        rw [← h4, Nat.add_sub_cancel_left, lenEnc, dif_pos h2]
        simp
      · rename_i h2
        obtain ⟨v, h3, h4, h5⟩ := rdAt_enc r _ _ _ _ h
        have hs := rdAt_size _ _ _ _ _ h
        have hv := h5 (by omega)
        have hx : x.toNat < 256 := x.toNat_lt
        refine ⟨x.toNat % 128 + 128 * v, ?_, ?_, fun _ => by omega⟩
        · rw [h3, Nat.mul_add 7 i 1, Nat.pow_add, Nat.add_mul, Nat.add_assoc]
          congr 2
          rw [Nat.mul_comm 128 v, Nat.mul_assoc]
          congr 1
          exact Nat.mul_comm _ _
        · have e1 : s - i = (s - (i + 1)) + 1 := by omega
          rw [e1, List.take_succ_cons, h4, lenEnc.eq_def (x.toNat % 128 + 128 * v), dif_neg (by omega)]
          have e2 : (x.toNat % 128 + 128 * v) % 128 + 128 = x.toNat := by omega
          have e3 : (x.toNat % 128 + 128 * v) / 128 = v := by omega
          rw [e2, e3]
          simp

theorem rdT_row : ∀ (f : Nat) (b : List UInt8) (l : List (List UInt8)), b.length ≤ f → rdT b = .ok l → rowL l = b
  | f, [], l, _, h => by
    rw [rdT_nil] at h
    injection h with h
    subst h; rfl
  | 0, x :: b, l, hf, h => by simp at hf
  | f + 1, x :: b, l, hf, h => by
    rw [rdT_cons (by simp)] at h
    split at h
    · cases h
    · rename_i n s hr
      have hs := rdAt_size _ _ _ _ _ hr
      obtain ⟨v, h1, h2, _⟩ := rdAt_enc _ _ _ _ _ hr
      split at h
      · cases h
      · rename_i hl
        split at h
        · cases h
        · rename_i l' hl'
          injection h with h
          subst h
          have ih := rdT_row f _ _ (by rw [List.length_drop]; omega) hl'
          simp only [Nat.zero_add, Nat.mul_zero, Nat.pow_zero, Nat.mul_one, Nat.sub_zero] at h1 h2
          have hn : ((List.drop s (x :: b)).take n).length = n := by rw [List.length_take, List.length_drop]; omega
          simp only [rowL]
          rw [ih, hn, h1, ← h2, List.append_assoc, ← List.drop_drop, List.take_append_drop, List.take_append_drop]
end Go.Proofs.Aw

/- A PART OF THE PROOF: an abstract run of the loaded code over value trees, and the functions walked by it. No condition of its own. -/
import Derived.Test.YtanmknmlphkeaaaDoorA8
namespace Go.Proofs.Aw
open Go Go.RowKit

/-- '==' of two structs, or arrays, whose cells these are, tells b -/
def EqF (P : Program) (t : TypeId) (cs ds : List LV) (b : Bool) : Prop :=
  ∀ (m : Me) (N : Nat) (ys zs : List Value) (w : World) (op : BinOp) (x y : Operand), RepL m N cs ys → RepL m N ds zs →
    (eqGuard op t x y (.agg ys.toArray) (.agg zs.toArray)).run P w = .ok () w ∧ (Op.equal t (.agg ys.toArray) (.agg zs.toArray)).run P w = .ok b w

def boolA : LV → Option Bool
  | .v (.bool b) => some b
  | .bs b => some b
  | _ => none
theorem boolA_sound {m : Me} {N : Nat} {x : LV} {y : Value} {b : Bool} (h : boolA x = some b) (hr : Rep m N x y) : y = .bool b := by
  cases x with
  | bs c => injection h with h; subst h; exact hr
  | v c => cases c <;> first | (injection h with h; subst h; exact hr) | (cases h)
  | _ => cases h

def isNilS : LV → Bool
  | .v (.slice none 0 0) => true
  | _ => false
theorem isNilS_sound {m : Me} {N : Nat} {x : LV} {y : Value} (h : isNilS x = true) (hr : Rep m N x y) : y = .slice none 0 0 := by
  unfold isNilS at h
  split at h
  · exact hr
  · cases h

/-- is a slice nil? -/
def nilA (x : LV) (K : Bool → Prop) : Prop := match x with
  | .sl _ n _ => ∀ q : Bool, (q = true → n = 0) → K q
  | .ls _ n => ∀ q : Bool, (q = true → n = 0) → K q
  | .v (.slice none 0 0) => K true
  | _ => False
theorem nilA_sound {st : St} {m : Me} {tm : Array Value} (hs : Sim st m tm) {x : LV} {K : Bool → Prop} {y : Value} (h : nilA x K) (hr : Rep m st.next x y) : ∃ A n c, y = .slice A n c ∧ K A.isNone := by
  cases x with
  | sl sz n g =>
    obtain ⟨A, c, rfl, _, _, h1, _⟩ := hr
    exact ⟨A, n, c, rfl, h _ fun e => (h1 (by simpa using e)).1⟩
  | ls o n =>
    obtain ⟨h1, h2, A, c, h3, h4⟩ := hr
    exact ⟨A, n, c, h2.trans h3, h _ fun e => h4.nil (by simpa using e)⟩
  | v x =>
    cases x <;> first | exact h.elim | skip
    rename_i A n c
    cases A with
    | some a => exact h.elim
    | none =>
      cases n <;> cases c <;> first | exact ⟨none, 0, 0, hr, h⟩ | exact h.elim
  | _ => exact h.elim

def binA (P : Program) (T : Tab) (op : BinOp) (t : TypeId) (x y : LV) (K : LV → Prop) : Prop := match x, y with
  | .v (.int ka a), .v (.int kb b) => match op with
    | .shl => 0 ≤ b ∧ K (.v (.int ka (ka.wrap (a * 2 ^ (min b.toNat ka.bits)))))
    | .shr => 0 ≤ b ∧ K (.v (.int ka (a.fdiv (2 ^ (min b.toNat ka.bits)))))
    | _ => match kEq ka kb with
      | true => intA op ka a b K
      | false => False
  | .str a, .str b => strA op a b K
  | .agg cs, .agg ds => match op with
    | .eql => ∃ b, EqF P t cs ds b ∧ K (.bs b)
    | .neq => ∃ b, EqF P t cs ds b ∧ K (.bs (!b))
    | _ => False
  | x, y => match T.find t with
    | none => False
    | some ti => match ti.k with
      | .bool => match boolA x, boolA y with
        | some a, some b => match op with
          | .eql => K (.bs (a == b))
          | .neq => K (.bs (!(a == b)))
          | _ => False
        | _, _ => False
      | .slice _ => match isNilS y with
        | true => match op with
          | .eql => nilA x fun q => K (.bs q)
          | .neq => nilA x fun q => K (.bs (!q))
          | _ => False
        | false => False
      | _ => False


theorem run_eqGuard_plain {P : Program} (op : BinOp) (t : TypeId) (x y : Operand) (a b : Value) (w : World) (ha : a ≠ .nilIface) (hb : ∀ cs, a ≠ .agg cs) : (eqGuard op t x y a b).run P w = .ok () w := by
  unfold eqGuard
  cases op <;> first | (simp; done) | skip
  all_goals
    cases a <;> first | (cases b <;> simp; done) | (exact absurd rfl ha) | (exact absurd rfl (hb _)) | skip

theorem strV_list (l : List UInt8) : (⟨l.toArray⟩ : ByteArray).toList = l := by
  rw [ByteArray.toList_eq]
theorem strV_append (a b : List UInt8) : (⟨a.toArray⟩ ++ ⟨b.toArray⟩ : ByteArray) = ⟨(a ++ b).toArray⟩ := by
  apply ByteArray.ext
  simp
theorem strV_size (l : List UInt8) : (⟨l.toArray⟩ : ByteArray).size = l.length := rfl

theorem binA_int {P : Program} {op : BinOp} {t : TypeId} {k : IntKind} {a b : Int} {K : LV → Prop} (hs : op ≠ .shl ∧ op ≠ .shr) (h : intA op k a b K) (m : Me) (N : Nat) (w : World) :
    ∃ r v, K r ∧ Rep m N r v ∧ (binOp op t (.int k a) (.int k b)).run P w = .ok v w := by
  cases op <;> first | exact absurd rfl hs.1 | exact absurd rfl hs.2 | skip
  case add => exact ⟨_, _, h, rfl, by simp [binOp, Op.intArith]⟩
  case sub => exact ⟨_, _, h, rfl, by simp [binOp, Op.intArith]⟩
  case mul => exact ⟨_, _, h, rfl, by simp [binOp, Op.intArith]⟩
  case quo => exact ⟨_, _, h.2, rfl, by simp [binOp, Op.intDiv, h.1]⟩
  case rem => exact ⟨_, _, h.2, rfl, by simp [binOp, Op.intDiv, h.1]⟩
  case and => exact ⟨_, _, h, rfl, by simp [binOp, Op.intBits, bitsA]⟩
  case or => exact ⟨_, _, h, rfl, by simp [binOp, Op.intBits, bitsA]⟩
  case xor => exact ⟨_, _, h, rfl, by simp [binOp, Op.intBits, bitsA]⟩
  case andNot => exact ⟨_, _, h, rfl, by simp [binOp, Op.intBits, bitsA]⟩
  all_goals exact ⟨_, _, h, rfl, by simp [binOp, Op.intCmp]⟩

theorem binA_str {P : Program} {op : BinOp} {t : TypeId} {a b : List UInt8} {K : LV → Prop} (h : strA op a b K) (m : Me) (N : Nat) (w : World) :
    ∃ r v, K r ∧ Rep m N r v ∧ (binOp op t (strV a) (strV b)).run P w = .ok v w := by
  cases op <;> simp only [strA] at h
  case add =>
    refine ⟨_, strV (a ++ b), h.2, rfl, ?_⟩
    have h1 := h.1
    simp only [binOp, strV, Op.stringOp, strV_size, strV_append]
    rw [if_neg]
    · rfl
    · show ¬ ((a.length + b.length : Nat) : Int) > IntKind.i64.max
      simp [IntKind.max, IntKind.signed, IntKind.bits]; omega
  case eql => exact ⟨_, _, h, rfl, by simp [binOp, strV, Op.stringOp, strV_list]⟩
  case neq => exact ⟨_, _, h, rfl, by simp [binOp, strV, Op.stringOp, strV_list, bne]⟩
  all_goals first
    | exact h.elim
    | exact ⟨_, _, h, rfl, by simp [binOp, strV, Op.stringOp, strV_list]⟩

theorem run_eqlIn_bool {P : Program} (d : Nat) {t : TypeId} (ht : P.underlying t = some .bool) (a b : Bool) (w : World) : (Op.equalIn (d + 1) t (.bool a) (.bool b)).run P w = .ok (a == b) w := by
  simp [Op.equalIn, run_underlying ht]
theorem run_eqlIn_nil {P : Program} (d : Nat) {t e : TypeId} (ht : P.underlying t = some (.slice e)) (A : Option Addr) (n c : Nat) (w : World) : (Op.equalIn (d + 1) t (.slice A n c) (.slice none 0 0)).run P w = .ok A.isNone w := by
  cases A <;> simp [Op.equalIn, run_underlying ht]
theorem run_eql_bool {P : Program} {t : TypeId} (ht : P.underlying t = some .bool) (a b : Bool) (w : World) : (Op.equal t (.bool a) (.bool b)).run P w = .ok (a == b) w := by
  exact run_eqlIn_bool 9999 ht a b w
theorem run_eql_nil {P : Program} {t e : TypeId} (ht : P.underlying t = some (.slice e)) (A : Option Addr) (n c : Nat) (w : World) : (Op.equal t (.slice A n c) (.slice none 0 0)).run P w = .ok A.isNone w := by
  exact run_eqlIn_nil 9999 ht A n c w

theorem binA_sound {P : Program} {T : Tab} (hT : T.Ok P) {op : BinOp} {t : TypeId} {x y : LV} {K : LV → Prop} {st : St} {m : Me} {tm : Array Value} (hs : Sim st m tm) {a b : Value} (h : binA P T op t x y K)
    (ha : Rep m st.next x a) (hb : Rep m st.next y b) (o1 o2 : Operand) : ∃ r v, K r ∧ Rep m st.next r v ∧ (do eqGuard op t o1 o2 a b; binOp op t a b : Sem Value).run P m.w = .ok v m.w := by
  unfold binA at h
  split at h
  · rename_i ka a' kb b'
    have ha : a = .int ka a' := ha
    have hb : b = .int kb b' := hb
    subst ha; subst hb
    simp only [Sem.run_bind, run_eqGuard_plain op t o1 o2 (.int ka a') (.int kb b') m.w (by simp) (by simp), Result.andThen_ok]
    split at h
    · refine ⟨_, _, h.2, rfl, ?_⟩
      have : ¬ b' < 0 := by omega
      simp [binOp, Op.shift, this]
    · refine ⟨_, _, h.2, rfl, ?_⟩
      have : ¬ b' < 0 := by omega
      simp [binOp, Op.shift, this]
    · rename_i h1 h2
      split at h
      · rename_i hk
        have hk := kEq_eq hk
        subst hk
        exact binA_int ⟨h1, h2⟩ h m st.next m.w
      · exact h.elim
  · rename_i a' b'
    have ha : a = strV a' := ha
    have hb : b = strV b' := hb
    subst ha; subst hb
    simp only [Sem.run_bind, run_eqGuard_plain op t o1 o2 (strV a') (strV b') m.w (by simp [strV]) (by simp [strV]), Result.andThen_ok]
    exact binA_str h m st.next m.w
  · rename_i cs ds
    obtain ⟨ys, rfl, h1, _⟩ := ha
    obtain ⟨zs, rfl, h2, _⟩ := hb
    split at h
    · obtain ⟨q, h3, h4⟩ := h
      obtain ⟨h5, h6⟩ := h3 m st.next ys zs m.w .eql o1 o2 h1 h2
      exact ⟨_, _, h4, rfl, by simp only [Sem.run_bind, h5, Result.andThen_ok, binOp, h6]; rfl⟩
    · obtain ⟨q, h3, h4⟩ := h
      obtain ⟨h5, h6⟩ := h3 m st.next ys zs m.w .neq o1 o2 h1 h2
      exact ⟨_, _, h4, rfl, by simp only [Sem.run_bind, h5, Result.andThen_ok, binOp, h6]; rfl⟩
    · exact h.elim
  · split at h
    · exact h.elim
    · rename_i ti hti
      have hok := hT.find hti
      split at h
      · rename_i hk
        have hu := hok.k
        rw [hk] at hu
        split at h
        · rename_i p q h1 h2
          have ha := boolA_sound h1 ha
          have hb := boolA_sound h2 hb
          subst ha; subst hb
          simp only [Sem.run_bind, run_eqGuard_plain op t o1 o2 (.bool p) (.bool q) m.w (by simp) (by simp), Result.andThen_ok]
          split at h
          · exact ⟨_, _, h, rfl, by simp [binOp, run_eql_bool hu]⟩
          · exact ⟨_, _, h, rfl, by simp [binOp, run_eql_bool hu]⟩
          · exact h.elim
        · exact h.elim
      · rename_i e hk
        have hu := hok.k
        rw [hk] at hu
        split at h
        · rename_i hn
          have hb := isNilS_sound hn hb
          subst hb
          split at h
          · obtain ⟨A, n, c, rfl, h1⟩ := nilA_sound hs h ha
            simp only [Sem.run_bind, run_eqGuard_plain .eql t o1 o2 (.slice A n c) (.slice none 0 0) m.w (by simp) (by simp), Result.andThen_ok]
            exact ⟨_, _, h1, rfl, by simp [binOp, run_eql_nil hu]⟩
          · obtain ⟨A, n, c, rfl, h1⟩ := nilA_sound hs h ha
            simp only [Sem.run_bind, run_eqGuard_plain .neq t o1 o2 (.slice A n c) (.slice none 0 0) m.w (by simp) (by simp), Result.andThen_ok]
            exact ⟨_, _, h1, rfl, by simp [binOp, run_eql_nil hu]⟩
          · exact h.elim
        · exact h.elim
      · exact h.elim
end Go.Proofs.Aw

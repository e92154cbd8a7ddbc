/- A PART OF THE PROOF: an abstract run of the loaded code over value trees, and the functions walked by it. No condition of its own. -/
import Derived.Test.YtanmknmlphkeaaaDoorA7
namespace Go.Proofs.Aw
open Go Go.RowKit

/-- an address some cells on -/
def addO (x : LV) (d : Nat) (k : LV → Prop) : Prop := match x with
  | .lp o off => k (.lp o (off + d))
  | .sp cs off => k (.sp cs (off + d))
  | .el o sz i off => k (.el o sz i (off + d))
  | _ => False

theorem addO_sound {m : Me} {N : Nat} {x : LV} {d : Nat} {k : LV → Prop} {y : Value} (h : addO x d k) (hr : Rep m N x y) : ∃ x' b o, k x' ∧ y = .pointer (some ⟨b, o, none⟩) ∧ Rep m N x' (.pointer (some ⟨b, o + d, none⟩)) := by
  cases x with
  | lp o off => obtain ⟨h1, b, h2, rfl⟩ := hr; exact ⟨_, b, off, h, rfl, h1, b, h2, rfl⟩
  | sp cs off => obtain ⟨b, o, ys, rfl, h1⟩ := hr; exact ⟨_, b, o + off, h, rfl, b, o, ys, by rw [Nat.add_assoc], h1⟩
  | el o sz i off => obtain ⟨h1, b, n, c, h2, h3, rfl⟩ := hr; exact ⟨_, b, i * sz + off, h, rfl, h1, b, n, c, h2, h3, by rw [Nat.add_assoc]⟩
  | _ => exact h.elim

theorem run_fieldAt {P : Program} {s : TypeId} {ti : TI} (hs : ti.ok P s) {fs : List (Nat × TypeId)} (hk : ti.k = .struct fs) {f : Nat} {p : Nat × TypeId} (hf : nth fs f = some p) {te : TI} (ht : te.ok P p.2) (h0 : Nat.blt 0 te.size = true) (w : World) (b o : Nat) :
    (Instr.fieldAt s (.pointer (some ⟨b, o, none⟩)) f).run P w = .ok (.pointer (some ⟨b, o + p.1, none⟩)) w := by
  have h1 := hs.k
  rw [hk] at h1
  obtain ⟨a, h2, h3⟩ := h1
  rw [nth_eq, ← h3] at hf
  simp only [List.getElem?_map, Option.map_eq_some_iff] at hf
  obtain ⟨fl, h4, rfl⟩ := hf
  have h5 : a[f]? = some fl := by simpa using h4
  have h6 : te.size ≠ 0 := by have := Nat.blt_eq.mp h0; omega
  simp only [Instr.fieldAt, Sem.run_bind, run_underlying h2, Result.andThen_ok, h5, Instr.sureAddr, fieldPlace, run_sizeOf ht]
  simp [h6, add_at]

theorem run_indexAt_arr {P : Program} {t e : TypeId} {n : Nat} (hu : P.underlying t = some (.array n e)) {te : TI} (ht : te.ok P e) (k : IntKind) (i : Int) (h0 : 0 ≤ i) (h1 : i < n) (w : World) (b o : Nat) :
    (Instr.indexAt t (.pointer (some ⟨b, o, none⟩)) (.int k i)).run P w = .ok (.pointer (some ⟨b, o + i.toNat * te.size, none⟩)) w := by
  simp [Instr.indexAt, run_underlying hu, asIntOf, Instr.sureAddr, h0, h1, run_sizeOf ht, add_at]

theorem run_indexAt_sl {P : Program} {t e : TypeId} (hu : P.underlying t = some (.slice e)) {te : TI} (ht : te.ok P e) (k : IntKind) (i : Int) (n c : Nat) (h0 : 0 ≤ i) (h1 : i < n) (w : World) (b o : Nat) :
    (Instr.indexAt t (.slice (some ⟨b, o, none⟩) n c) (.int k i)).run P w = .ok (.pointer (some ⟨b, o + i.toNat * te.size, none⟩)) w := by
  simp [Instr.indexAt, run_underlying hu, asIntOf, h0, h1, run_sizeOf ht, add_at]

theorem run_part {P : Program} {t : TypeId} {ti : TI} (ht : ti.ok P t) {m : Me} {N : Nat} {cs : List LV} {ys : List Value} (hr : RepL m N cs ys) (h1 : ∀ u ∈ ys, u.oneCell' = true) {off : Nat} {k : LV → Prop} (h : loadK ti cs off k) (w : World) :
    ∃ x y, k x ∧ Rep m N x y ∧ (part t ys.toArray off).run P w = .ok y w := by
  unfold loadK at h
  split at h
  · rename_i ha
    split at h
    · rename_i hl
      rw [Nat.ble_eq] at hl
      have hlen := hr.length
      refine ⟨_, .agg ((ys.drop off).take ti.size).toArray, h, ⟨_, rfl, (hr.drop off).take _, fun u hu => h1 u (List.mem_of_mem_drop (List.mem_of_mem_take hu))⟩, ?_⟩
      simp only [part, Sem.run_bind, run_isAgg ht, Result.andThen_ok, ha, if_true, run_sizeOf ht]
      simp only [List.extract_toArray, Sem.run_pure]
      congr 3
      rw [List.extract_eq_take_drop]
      congr 1
      omega
    · exact h.elim
  · rename_i ha
    split at h
    · rename_i x hx
      rw [nth_eq] at hx
      obtain ⟨y, hy, h2⟩ := hr.get off x hx
      refine ⟨x, y, h, h2, ?_⟩
      simp [part, run_isAgg ht, ha, hy]
    · exact h.elim

theorem run_field {P : Program} {s : TypeId} {ti : TI} (hs : ti.ok P s) {fs : List (Nat × TypeId)} (hk : ti.k = .struct fs) {f : Nat} {p : Nat × TypeId} (hf : nth fs f = some p) {te : TI} (ht : te.ok P p.2)
    {m : Me} {N : Nat} {cs : List LV} {ys : List Value} (hr : RepL m N cs ys) (h1 : ∀ u ∈ ys, u.oneCell' = true) {k : LV → Prop} (h : loadK te cs p.1 k) (w : World) :
    ∃ x y, k x ∧ Rep m N x y ∧ (Instr.field s (.agg ys.toArray) f).run P w = .ok y w := by
  have h2 := hs.k
  rw [hk] at h2
  obtain ⟨a, h3, h4⟩ := h2
  rw [nth_eq, ← h4] at hf
  simp only [List.getElem?_map, Option.map_eq_some_iff] at hf
  obtain ⟨fl, h5, rfl⟩ := hf
  have h6 : a[f]? = some fl := by simpa using h5
  obtain ⟨x, y, h7, h8, h9⟩ := run_part ht hr h1 h w
  refine ⟨x, y, h7, h8, ?_⟩
  simp only [Instr.field, Sem.run_bind, run_underlying h3, Result.andThen_ok, h6, asAgg, Sem.run_pure, h9]

theorem run_index_arr {P : Program} {t e : TypeId} {n : Nat} (hu : P.underlying t = some (.array n e)) {te : TI} (ht : te.ok P e) (ik : IntKind) (i : Int) (h0 : 0 ≤ i) (hn : i < n)
    {m : Me} {N : Nat} {cs : List LV} {ys : List Value} (hr : RepL m N cs ys) (h1 : ∀ u ∈ ys, u.oneCell' = true) {k : LV → Prop} (h : loadK te cs (i.toNat * te.size) k) (w : World) :
    ∃ x y, k x ∧ Rep m N x y ∧ (Instr.index t (.agg ys.toArray) (.int ik i)).run P w = .ok y w := by
  obtain ⟨x, y, h7, h8, h9⟩ := run_part ht hr h1 h w
  refine ⟨x, y, h7, h8, ?_⟩
  simp only [Instr.index, Sem.run_bind, asIntOf, Sem.run_pure, Result.andThen_ok, run_underlying hu, h0, hn, and_self, if_true, run_sizeOf ht, h9]

theorem run_index_str {P : Program} {t : TypeId} (hu : P.underlying t = some .string) (ik : IntKind) (i : Int) (l : List UInt8) (h0 : 0 ≤ i) (hn : i < (l.length : Int)) (w : World) :
    (Instr.index t (strV l) (.int ik i)).run P w = .ok (.int .u8 ((l.getD i.toNat 0).toNat : Int)) w := by
  have h1 : i.toNat < l.length := by omega
  have h2 : (⟨l.toArray⟩ : ByteArray)[i.toNat]? = some (l.getD i.toNat 0) := by
    rw [getElem?_pos (⟨l.toArray⟩ : ByteArray) i.toNat h1]
    simp only [List.getD, List.getElem?_eq_getElem h1]
    rfl
  simp [Instr.index, strV, asIntOf, run_underlying hu, h0, h2]

/-! ### numbers and texts -/
def kEq : IntKind → IntKind → Bool
  | .i8, .i8 | .i16, .i16 | .i32, .i32 | .i64, .i64 | .u8, .u8 | .u16, .u16 | .u32, .u32 | .u64, .u64 => true
  | _, _ => false
theorem kEq_eq {a b : IntKind} (h : kEq a b = true) : a = b := by cases a <;> cases b <;> first | rfl | cases h

def bitsA (op : BinOp) (k : IntKind) (a b : Int) : Int :=
  let x := BitVec.ofInt k.bits a
  let y := BitVec.ofInt k.bits b
  match op with
  | .and => k.wrap (x &&& y).toNat
  | .or => k.wrap (x ||| y).toNat
  | .xor => k.wrap (x ^^^ y).toNat
  | _ => k.wrap (x &&& ~~~y).toNat

def intA (op : BinOp) (k : IntKind) (a b : Int) (K : LV → Prop) : Prop := match op with
  | .add => K (.v (.int k (k.wrap (a + b))))
  | .sub => K (.v (.int k (k.wrap (a - b))))
  | .mul => K (.v (.int k (k.wrap (a * b))))
  | .quo => b ≠ 0 ∧ K (.v (.int k (k.wrap (a.tdiv b))))
  | .rem => b ≠ 0 ∧ K (.v (.int k (a.tmod b)))
  | .and => K (.v (.int k (bitsA .and k a b)))
  | .or => K (.v (.int k (bitsA .or k a b)))
  | .xor => K (.v (.int k (bitsA .xor k a b)))
  | .andNot => K (.v (.int k (bitsA .andNot k a b)))
  | .eql => K (.bs (a == b))
  | .neq => K (.bs (a != b))
  | .lss => K (.bs (decide (a < b)))
  | .leq => K (.bs (decide (a ≤ b)))
  | .gtr => K (.bs (decide (a > b)))
  | .geq => K (.bs (decide (a ≥ b)))
  | _ => False

def strA (op : BinOp) (a b : List UInt8) (K : LV → Prop) : Prop := match op with
  | .add => a.length + b.length ≤ 9223372036854775807 ∧ K (.str (a ++ b))
  | .eql => K (.bs (a == b))
  | .neq => K (.bs (a != b))
  | .lss => K (.bs (Op.bytesLess a b))
  | .leq => K (.bs (Op.bytesLess a b || a == b))
  | .gtr => K (.bs (!(Op.bytesLess a b || a == b)))
  | .geq => K (.bs (!Op.bytesLess a b))
  | _ => False

end Go.Proofs.Aw

/- A PART OF THE PROOF: an abstract run of the loaded code over value trees, and the functions walked by it. No condition of its own. -/
import Derived.Test.YtanmknmlphkeaaaDoorA11
namespace Go.Proofs.Aw
open Go Go.RowKit

/-! ### parts of texts and of slices -/
def bndA (st : St) (o : Option Operand) (d : Int) (K : Int → Prop) : Prop := match o with
  | none => K d
  | some x => match evO st x with
    | .v (.int _ z) => K z
    | _ => False

def sliceA (T : Tab) (st : St) (t : TypeId) (x : LV) (lo hi mx : Option Operand) (k : LV → Prop) : Prop := match mx with
  | some _ => False
  | none => match T.find t with
    | none => False
    | some ti => match ti.k with
      | .str => match x with
        | .str l => bndA st lo 0 fun a => bndA st hi (l.length : Int) fun b => (0 ≤ a ∧ a ≤ b ∧ b ≤ (l.length : Int)) ∧ k (.str ((l.take b.toNat).drop a.toNat))
        | _ => False
      | .slice e => match T.find e with
        | none => False
        | some te => match x with
          | .sl sz n g => match Nat.beq sz te.size with
            | true => bndA st lo 0 fun a => bndA st hi (n : Int) fun b => (0 ≤ a ∧ a ≤ b ∧ b ≤ (n : Int)) ∧ k (.sl sz (b.toNat - a.toNat) (fun j => g (a.toNat + j)))
            | false => False
          | _ => False
      | _ => False

theorem bndA_sound {st : St} {m : Me} {tm : Array Value} {ds : List Deferred} (hs : Sim st m tm) {o : Option Operand} {d : Int} {K : Int → Prop} (h : bndA st o d K) (ho : ∀ x, o = some x → okO tm.size x = true) :
    ∃ z, K z ∧ ((o = none ∧ z = d) ∨ ∃ x k, o = some x ∧ Act.eval ⟨tm, ds⟩ x = .int k z) := by
  unfold bndA at h
  split at h
  · exact ⟨d, h, .inl ⟨rfl, rfl⟩⟩
  · rename_i x
    split at h
    · rename_i k z hx
      have := hs.ev (ds := ds) x (ho x rfl)
      rw [hx] at this
      exact ⟨z, h, .inr ⟨x, k, rfl, this⟩⟩
    · exact h.elim

theorem run_bounds {P : Program} (isSlice : Bool) (len cap : Nat) (lo hi : Option Operand) (ev : Operand → Value) (a b : Int) (hlc : len ≤ cap)
    (hl : (lo = none ∧ a = 0) ∨ ∃ x k, lo = some x ∧ ev x = .int k a) (hh : (hi = none ∧ b = (len : Int)) ∨ ∃ x k, hi = some x ∧ ev x = .int k b) (h0 : 0 ≤ a) (h1 : a ≤ b) (h2 : b ≤ (cap : Int)) (w : World) :
    (Instr.sliceBounds isSlice len cap (lo.map ev) (hi.map ev) none).run P w = .ok (a.toNat, b.toNat, cap) w := by
  have hb0 : 0 ≤ b := by omega
  have hab : a ≤ ((b.toNat : Nat) : Int) := by omega
  rcases hl with ⟨rfl, rfl⟩ | ⟨x, k, rfl, hx⟩ <;> rcases hh with ⟨rfl, rfl⟩ | ⟨x', k', rfl, hx'⟩
  · simp [Instr.sliceBounds]
  · simp [Instr.sliceBounds, Instr.sliceBound, asIntOf, hx', hb0, h2]
  · have : a ≤ (len : Int) := h1
    simp [Instr.sliceBounds, Instr.sliceBound, asIntOf, hx, h0, this]
  · have hm : a ≤ max b 0 := by omega
    simp [Instr.sliceBounds, Instr.sliceBound, asIntOf, hx, hx', hb0, h2, h0, hab, hm]

theorem extract_take (l : List UInt8) (a b : Nat) : (⟨l.toArray⟩ : ByteArray).extract a b = ⟨((l.take b).drop a).toArray⟩ := by
  apply ByteArray.ext
  simp only [ByteArray.data_extract, List.extract_toArray]
  rw [List.extract_eq_take_drop, List.drop_take]

theorem sliceA_sound {P : Program} {T : Tab} (hT : T.Ok P) {st : St} {m : Me} {tm : Array Value} {ds : List Deferred} (hs : Sim st m tm) {t : TypeId} {x : LV} {lo hi mx : Option Operand} {k : LV → Prop} {y : Value} (h : sliceA T st t x lo hi mx k)
    (hlo : ∀ x, lo = some x → okO tm.size x = true) (hhi : ∀ x, hi = some x → okO tm.size x = true) (hr : Rep m st.next x y) :
    ∃ r v, k r ∧ Rep m st.next r v ∧ (Instr.sliceAt t y (lo.map (Act.eval ⟨tm, ds⟩)) (hi.map (Act.eval ⟨tm, ds⟩)) (mx.map (Act.eval ⟨tm, ds⟩))).run P m.w = .ok v m.w := by
  unfold sliceA at h
  split at h
  · exact h.elim
  split at h
  · exact h.elim
  rename_i ti hti
  have hok := (hT.find hti).k
  split at h
  · rename_i hk
    rw [hk] at hok
    split at h
    · rename_i l
      have hy : y = strV l := hr
      subst hy
      obtain ⟨a, h, ha⟩ := bndA_sound (ds := ds) hs h hlo
      obtain ⟨b, ⟨⟨h0, h1, h2⟩, h⟩, hb⟩ := bndA_sound (ds := ds) hs h hhi
      refine ⟨_, _, h, rfl, ?_⟩
      have hbd := run_bounds (P := P) false l.length l.length lo hi (Act.eval ⟨tm, ds⟩) a b (Nat.le_refl _) ha hb h0 h1 h2 m.w
      simp only [Instr.sliceAt, Sem.run_bind, run_underlying hok, Result.andThen_ok, Option.map_none, Instr.slice, strV, Option.isSome, Bool.false_eq_true, if_false, strV_size, hbd, Sem.run_pure, extract_take]
    · exact h.elim
  · rename_i e hk
    rw [hk] at hok
    split at h
    · exact h.elim
    rename_i te hte
    have hoe := hT.find hte
    split at h
    rotate_left
    · exact h.elim
    rename_i sz n g
    split at h
    rotate_left
    · exact h.elim
    rename_i hsz
    have hsz := Nat.eq_of_beq_eq_true hsz
    subst hsz
    obtain ⟨A, cap, rfl, hn, hc, hnil, hcell⟩ := hr
    obtain ⟨a, h, ha⟩ := bndA_sound (ds := ds) hs h hlo
    obtain ⟨b, ⟨⟨h0, h1, h2⟩, h⟩, hb⟩ := bndA_sound (ds := ds) hs h hhi
    have hbd := run_bounds (P := P) true n cap lo hi (Act.eval ⟨tm, ds⟩) a b hn ha hb h0 h1 (by omega) m.w
    have q1 : a.toNat ≤ b.toNat := by omega
    have q2 : b.toNat ≤ n := by omega
    clear ha hb h0 h1 h2
    generalize a.toNat = a at *
    generalize b.toNat = b at *
    refine ⟨_, .slice (if cap = a then A else A.map (·.add (a * te.size))) (b - a) (cap - a), h, ?_, ?_⟩
    · refine ⟨_, _, rfl, by omega, by omega, fun hA => ?_, fun h3 => ?_⟩
      · have : A = none := by
          split at hA
          · exact hA
          · simpa using hA
        have := (hnil this).2
        omega
      · obtain ⟨b', off, rfl, h5, h6, h7⟩ := hcell (by omega)
        refine ⟨b', off + a * te.size, ?_, h5, h6, fun i hi => ?_⟩
        · rw [if_neg (by omega)]
          simp [add_at]
        · obtain ⟨ys, h8, h9, h10⟩ := h7 (a + i) (by omega)
          refine ⟨ys, h8, h9, ?_⟩
          have e : off + a * te.size + i * te.size = off + (a + i) * te.size := by rw [Nat.add_mul]; omega
          rw [e]
          exact h10
    · simp only [Instr.sliceAt, Sem.run_bind, run_underlying hok, Result.andThen_ok, Option.map_none, Instr.slice, hbd, Sem.run_pure, run_sizeOf hoe]
  · exact h.elim

/-! ### composites -/
def fillA (T : Tab) (fs : List (Nat × TypeId)) (st : St) : List LV → List (Nat × Operand) → Option (List LV)
  | cs, [] => some cs
  | cs, (i, x) :: r => match nth fs i with
    | none => none
    | some (off, t) => match T.find t, cellsA (evO st x) with
      | some ti, some xs => match Nat.beq xs.length ti.size && Nat.ble (off + xs.length) cs.length with
        | true => fillA T fs st (writeL cs off xs) r
        | false => none
      | _, _ => none

theorem foldl_set : ∀ (vs : List Value) (off j0 : Nat) (cs : List Value), off + j0 + vs.length ≤ cs.length →
    ((vs.zipIdx j0).foldl (fun (cs : Array Value) (p : Value × Nat) => cs.setIfInBounds (off + p.2) p.1) cs.toArray) = (wr cs (off + j0) vs).toArray
  | [], off, j0, cs, h => by simp [wr]
  | v :: r, off, j0, cs, h => by
    simp only [List.length_cons] at h
    have ih := foldl_set r off (j0 + 1) (cs.set (off + j0) v) (by simp; omega)
    simp only [List.zipIdx_cons, List.foldl_cons, List.setIfInBounds_toArray]
    rw [ih]
    congr 1
    apply List.ext_getElem?
    intro j
    rw [wr_get (by simp; omega), wr_get (by simp; omega)]
    by_cases h1 : off + j0 = j
    · subst h1
      rw [if_neg (by omega), if_pos (by simp), Nat.sub_self, List.getElem?_set_self (by omega)]
      rfl
    · rw [List.getElem?_set_ne h1]
      by_cases h2 : off + (j0 + 1) ≤ j ∧ j < off + (j0 + 1) + r.length
      · rw [if_pos h2, if_pos (by simp; omega)]
        have : j - (off + j0) = (j - (off + (j0 + 1))) + 1 := by omega
        rw [this]; simp
      · rw [if_neg h2, if_neg (by simp; omega)]

theorem fill_step (place : Nat → Option (Nat × Nat)) (cs : List Value) (i : Nat) (v : Value) (rest : List (Nat × Value)) (off size : Nat) (hp : place i = some (off, size)) (hv : v.cells.size = size) (hl : off + size ≤ cs.length) :
    Instr.fill place cs.toArray ((i, v) :: rest) = Instr.fill place (wr cs off v.cells.toList).toArray rest := by
  have h2 : v.cells.toList.length = size := by simpa using hv
  have := foldl_set v.cells.toList off 0 cs (by omega)
  simp only [Nat.add_zero] at this
  simp only [Instr.fill, hp]
  rw [if_neg (by simp [hv]; omega)]
  congr 1
  rw [← this]
  simp only [← Array.foldl_toList, Array.toList_zipIdx]

theorem fillA_sound {P : Program} {T : Tab} (hT : T.Ok P) {fs : List (Nat × TypeId)} {st : St} {m : Me} {tm : Array Value} {ds : List Deferred} (hs : Sim st m tm) (place : Nat → Option (Nat × Nat))
    (hp : ∀ i p ti, nth fs i = some p → T.find p.2 = some ti → place i = some (p.1, ti.size)) :
    ∀ (parts : List (Nat × Operand)) (cs cs' : List LV) (ys : List Value), fillA T fs st cs parts = some cs' → RepL m st.next cs ys → (∀ u ∈ ys, u.oneCell' = true) → (∀ p ∈ parts, okO tm.size p.2 = true) →
      ∃ ys', Instr.fill place ys.toArray (parts.map fun p => (p.1, Act.eval ⟨tm, ds⟩ p.2)) = some ys'.toArray ∧ RepL m st.next cs' ys' ∧ ∀ u ∈ ys', u.oneCell' = true
  | [], cs, cs', ys, h, hr, h1, _ => by
    simp only [fillA, Option.some.injEq] at h
    subst h
    exact ⟨ys, rfl, hr, h1⟩
  | (i, x) :: r, cs, cs', ys, h, hr, h1, ho => by
    simp only [fillA] at h
    split at h
    · cases h
    rename_i off t hn
    split at h
    rotate_left
    · cases h
    rename_i ti xs hti hx
    split at h
    rotate_left
    · cases h
    rename_i hc
    simp only [Bool.and_eq_true] at hc
    have e1 := Nat.eq_of_beq_eq_true hc.1
    have e2 := Nat.le_of_ble_eq_true hc.2
    have hev := hs.ev (ds := ds) x (ho (i, x) (by simp))
    obtain ⟨h2, h3⟩ := cellsA_sound hx hev
    have h4 := h2.length
    have h5 := hr.length
    have h6 : (Act.eval ⟨tm, ds⟩ x).cells.size = ti.size := by simp at h4; omega
    have h7 : (Act.eval ⟨tm, ds⟩ x).cells.toList.length = ti.size := by simpa using h6
    obtain ⟨ys', h8, h9, h10⟩ := fillA_sound hT hs place hp r (writeL cs off xs) cs' (wr ys off (Act.eval ⟨tm, ds⟩ x).cells.toList) h (by
      have := hr.write h2 off
      exact this) (fun u hu => by
      simp only [wr, List.mem_append] at hu
      rcases hu with (hu | hu) | hu
      · exact h1 u (List.mem_of_mem_take hu)
      · exact h3 u hu
      · exact h1 u (List.mem_of_mem_drop hu)) (fun p hp2 => ho p (by simp [hp2]))
    refine ⟨ys', ?_, h9, h10⟩
    rw [List.map_cons, fill_step place ys i _ _ off ti.size (hp i (off, t) ti hn hti) h6 (by omega)]
    exact h8
end Go.Proofs.Aw

/- A PART OF THE PROOF: an abstract run of the loaded code over value trees, and the functions walked by it. No condition of its own. -/
import Derived.WalkKit
import Derived.KernelRfl
import Derived.Below
namespace Go.Proofs.Aw
open Go Go.RowKit

inductive LV where
  | any
  | v (x : Value)
  | bs (b : Bool)
  | str (l : List UInt8)
  | agg (cs : List LV)
  | tup (cs : List LV)
  | sl (sz n : Nat) (g : Nat → List LV)
  | sp (cs : List LV) (off : Nat)
  | lp (o off : Nat)
  | el (o sz i off : Nat)
  | ls (o n : Nat)
  | as (o off n : Nat)
  | mp (o : Nat)
  /-- a value, and that block g holds o -/
  | ly (g : Nat) (o : Obj) (x : Value)
  | clo (fn : Fn) (first caps : List LV)

def strV (l : List UInt8) : Value := .string ⟨l.toArray⟩

/-- the memory part of what a value is said about: the world, where the call's own objects lie, which blocks may be written, how many objects there are -/
structure Me where
  w : World
  b : Nat → Value
  /-- what no value that stays may lie in -/
  vo : Nat → Prop
  wr : Nat → Prop
  n : Nat
  sub : ∀ k, wr k → vo k
  lt : ∀ k, vo k → k < w.heap.size

def cellsAt (w : World) (b off : Nat) (ys : List Value) : Prop := ∀ j y, ys[j]? = some y → w.cell? ⟨b, off + j, none⟩ = some y ∧ y.oneCell' = true

def lsOk (A : Option Addr) (n : Nat) : Prop := (A = none ∧ n = 0) ∨ ∃ b, A = some ⟨b, 0, none⟩
theorem lsOk.nil {A : Option Addr} {n : Nat} (h : lsOk A n) (hA : A = none) : n = 0 := by
  rcases h with h | ⟨b, h⟩
  · exact h.2
  · rw [h] at hA; cases hA

mutual
def Rep (m : Me) (N : Nat) : LV → Value → Prop
  | .any, _ => True
  | .v x, y => y = x
  | .bs b, y => y = .bool b
  | .str l, y => y = strV l
  | .agg cs, y => ∃ ys : List Value, y = .agg ys.toArray ∧ RepL m N cs ys ∧ ∀ u ∈ ys, u.oneCell' = true
  | .tup cs, y => ∃ ys : List Value, y = .tuple ys.toArray ∧ RepL m N cs ys
  | .sl sz n g, y => ∃ A cap, y = .slice A n cap ∧ n ≤ cap ∧ cap ≤ 9223372036854775807 ∧ (A = none → n = 0 ∧ cap = 0) ∧
      (0 < n → ∃ b off, A = some ⟨b, off, none⟩ ∧ ¬ m.vo b ∧ b < m.w.heap.size ∧ ∀ i, i < n → ∃ ys, RepL m 0 (g i) ys ∧ ys.length = sz ∧ cellsAt m.w b (off + i * sz) ys)
  | .sp cs off, y => ∃ b o ys, y = .pointer (some ⟨b, o + off, none⟩) ∧ ¬ m.vo b ∧ b < m.w.heap.size ∧ RepL m 0 cs ys ∧ cellsAt m.w b o ys
  | .lp o off, y => o < N ∧ ∃ b, m.b o = .pointer (some ⟨b, 0, none⟩) ∧ y = .pointer (some ⟨b, off, none⟩)
  | .el o sz i off, y => o < N ∧ ∃ b n c, m.b o = .slice (some ⟨b, 0, none⟩) n c ∧ i < n ∧ y = .pointer (some ⟨b, i * sz + off, none⟩)
  | .ls o n, y => o < N ∧ y = m.b o ∧ ∃ A c, m.b o = .slice A n c ∧ lsOk A n
  | .as o off n, y => o < N ∧ ∃ b c, m.b o = .pointer (some ⟨b, 0, none⟩) ∧ y = .slice (some ⟨b, off, none⟩) n c
  | .mp o, y => o < N ∧ y = m.b o ∧ ∃ b, m.b o = .map (some b)
  | .ly g o x, y => y = x ∧ m.w.heap[g]? = some o ∧ ¬ m.vo g
  | .clo fn first caps, y => ∃ fs cs : List Value, y = .func fn fs.toArray cs.toArray ∧ RepL m N first fs ∧ RepL m N caps cs
def RepL (m : Me) (N : Nat) : List LV → List Value → Prop
  | [], ys => ys = []
  | x :: xs, ys => ∃ y r, ys = y :: r ∧ Rep m N x y ∧ RepL m N xs r
end


structure Fr (m m' : Me) : Prop where
  os : m'.w.os = m.w.os
  tape : m'.w.tape = m.w.tape
  output : m'.w.output = m.w.output
  size : m.w.heap.size ≤ m'.w.heap.size
  keep : ∀ k, k < m.w.heap.size → ¬ m.wr k → m'.w.heap[k]? = m.w.heap[k]?
  wr : ∀ k, m'.wr k → m.wr k ∨ m.w.heap.size ≤ k
  vo : ∀ k, m'.vo k → m.vo k ∨ m.w.heap.size ≤ k
  vk : ∀ k, m.vo k → ¬ m.wr k → m'.vo k
  b : ∀ o, o < m.n → m'.b o = m.b o
  n : m.n ≤ m'.n

theorem Fr.refl (m : Me) : Fr m m := ⟨rfl, rfl, rfl, Nat.le_refl _, fun _ _ _ => rfl, fun _ h => .inl h, fun _ h => .inl h, fun _ h _ => h, fun _ _ => rfl, Nat.le_refl _⟩

theorem Fr.trans {a b c : Me} (h : Fr a b) (k : Fr b c) : Fr a c where
  os := k.os.trans h.os
  tape := k.tape.trans h.tape
  output := k.output.trans h.output
  size := Nat.le_trans h.size k.size
  keep := fun i hi hn => (k.keep i (Nat.lt_of_lt_of_le hi h.size) (fun hw => by rcases h.wr i hw with h1 | h1 <;> first | exact hn h1 | omega)).trans (h.keep i hi hn)
  wr := fun i hi => by
    rcases k.wr i hi with h1 | h1
    · exact h.wr i h1
    · exact .inr (Nat.le_trans h.size h1)
  vo := fun i hi => by
    rcases k.vo i hi with h1 | h1
    · exact h.vo i h1
    · exact .inr (Nat.le_trans h.size h1)
  vk := fun i hi hn => k.vk i (h.vk i hi hn) fun hw => by
    rcases h.wr i hw with h1 | h1
    · exact hn h1
    · have := a.lt i hi; omega
  b := fun o ho => (k.b o (Nat.lt_of_lt_of_le ho h.n)).trans (h.b o ho)
  n := Nat.le_trans h.n k.n

theorem Fr.cells {m m' : Me} (h : Fr m m') {b off : Nat} {ys : List Value} (hb : b < m.w.heap.size) (hw : ¬ m.vo b) (hc : cellsAt m.w b off ys) : cellsAt m'.w b off ys := by
  intro j y hy
  obtain ⟨h1, h2⟩ := hc j y hy
  exact ⟨(World.cell?_of_block (w := m.w) (h.keep b hb fun h3 => hw (m.sub b h3))).trans h1, h2⟩

theorem Fr.notWr {m m' : Me} (h : Fr m m') {b : Nat} (hb : b < m.w.heap.size) (hw : ¬ m.vo b) : ¬ m'.vo b := fun h1 => by
  rcases h.vo b h1 with h2 | h2
  · exact hw h2
  · omega

mutual
theorem Rep.fr {m m' : Me} (h : Fr m m') (N N' : Nat) (hN : N ≤ m.n) (hN' : N ≤ N') : ∀ (x : LV) (y : Value), Rep m N x y → Rep m' N' x y
  | .any, _, _ => trivial
  | .v _, _, hr => hr
  | .bs _, _, hr => hr
  | .str _, _, hr => hr
  | .agg cs, y, hr => by
    obtain ⟨ys, rfl, h1, h2⟩ := hr
    exact ⟨ys, rfl, RepL.fr h N N' hN hN' cs ys h1, h2⟩
  | .tup cs, y, hr => by
    obtain ⟨ys, rfl, h1⟩ := hr
    exact ⟨ys, rfl, RepL.fr h N N' hN hN' cs ys h1⟩
  | .sl sz n g, y, hr => by
    obtain ⟨A, cap, rfl, h1, h2, h3, h4⟩ := hr
    refine ⟨A, cap, rfl, h1, h2, h3, fun hn => ?_⟩
    obtain ⟨b, off, rfl, h5, h6, h7⟩ := h4 hn
    refine ⟨b, off, rfl, h.notWr h6 h5, Nat.lt_of_lt_of_le h6 h.size, fun i hi => ?_⟩
    obtain ⟨ys, h8, h9, h10⟩ := h7 i hi
    exact ⟨ys, RepL.fr h 0 0 (Nat.zero_le _) (Nat.le_refl _) (g i) ys h8, h9, h.cells h6 h5 h10⟩
  | .sp cs off, y, hr => by
    obtain ⟨b, o, ys, rfl, h1, h2, h3, h4⟩ := hr
    exact ⟨b, o, ys, rfl, h.notWr h2 h1, Nat.lt_of_lt_of_le h2 h.size, RepL.fr h 0 0 (Nat.zero_le _) (Nat.le_refl _) cs ys h3, h.cells h2 h1 h4⟩
  | .lp o off, y, hr => by
    obtain ⟨h1, b, h2, rfl⟩ := hr
    exact ⟨Nat.lt_of_lt_of_le h1 hN', b, (h.b o (Nat.lt_of_lt_of_le h1 hN)).trans h2, rfl⟩
  | .el o sz i off, y, hr => by
    obtain ⟨h1, b, n, c, h2, h3, rfl⟩ := hr
    exact ⟨Nat.lt_of_lt_of_le h1 hN', b, n, c, (h.b o (Nat.lt_of_lt_of_le h1 hN)).trans h2, h3, rfl⟩
  | .ls o n, y, hr => by
    obtain ⟨h1, rfl, A, c, h2, h3⟩ := hr
    have hb := h.b o (Nat.lt_of_lt_of_le h1 hN)
    exact ⟨Nat.lt_of_lt_of_le h1 hN', hb.symm, A, c, hb.trans h2, h3⟩
  | .as o off n, y, hr => by
    obtain ⟨h1, b, c, h2, rfl⟩ := hr
    exact ⟨Nat.lt_of_lt_of_le h1 hN', b, c, (h.b o (Nat.lt_of_lt_of_le h1 hN)).trans h2, rfl⟩
  | .mp o, y, hr => by
    obtain ⟨h1, rfl, b, h2⟩ := hr
    have hb := h.b o (Nat.lt_of_lt_of_le h1 hN)
    exact ⟨Nat.lt_of_lt_of_le h1 hN', hb.symm, b, hb.trans h2⟩
  | .ly g o x, y, hr => by
    obtain ⟨rfl, h1, h2⟩ := hr
    have hg : g < m.w.heap.size := (Array.getElem?_eq_some_iff.1 h1).1
    exact ⟨rfl, (h.keep g hg fun h3 => h2 (m.sub g h3)).trans h1, h.notWr hg h2⟩
  | .clo fn first caps, y, hr => by
    obtain ⟨fs, cs, rfl, h1, h2⟩ := hr
    exact ⟨fs, cs, rfl, RepL.fr h N N' hN hN' first fs h1, RepL.fr h N N' hN hN' caps cs h2⟩
theorem RepL.fr {m m' : Me} (h : Fr m m') (N N' : Nat) (hN : N ≤ m.n) (hN' : N ≤ N') : ∀ (xs : List LV) (ys : List Value), RepL m N xs ys → RepL m' N' xs ys
  | [], _, hr => hr
  | x :: xs, ys, hr => by
    obtain ⟨y, r, rfl, h1, h2⟩ := hr
    exact ⟨y, r, rfl, Rep.fr h N N' hN hN' x y h1, RepL.fr h N N' hN hN' xs r h2⟩
end

/-- what is closed speaks of no object of the call's own -/
theorem Rep.up {m : Me} {N N' : Nat} (hN : N ≤ m.n) (hN' : N ≤ N') {x : LV} {y : Value} (h : Rep m N x y) : Rep m N' x y := Rep.fr (Fr.refl m) N N' hN hN' x y h
theorem RepL.up {m : Me} {N N' : Nat} (hN : N ≤ m.n) (hN' : N ≤ N') {x : List LV} {y : List Value} (h : RepL m N x y) : RepL m N' x y := RepL.fr (Fr.refl m) N N' hN hN' x y h

theorem RepL.length {m : Me} {N : Nat} : ∀ {xs : List LV} {ys : List Value}, RepL m N xs ys → ys.length = xs.length
  | [], _, h => by rw [show _ = [] from h]; rfl
  | x :: xs, ys, h => by
    obtain ⟨y, r, rfl, _, h2⟩ := h
    simp [RepL.length h2]

theorem RepL.get {m : Me} {N : Nat} : ∀ {xs : List LV} {ys : List Value}, RepL m N xs ys → ∀ (i : Nat) (x : LV), xs[i]? = some x → ∃ y, ys[i]? = some y ∧ Rep m N x y
  | [], _, _, i, x, hx => by simp at hx
  | x0 :: xs, ys, h, i, x, hx => by
    obtain ⟨y, r, rfl, h1, h2⟩ := h
    cases i with
    | zero => simp at hx; subst hx; exact ⟨y, by simp, h1⟩
    | succ i => simp at hx; obtain ⟨z, hz, h3⟩ := RepL.get h2 i x hx; exact ⟨z, by simpa using hz, h3⟩

theorem RepL.mk {m : Me} {N : Nat} : ∀ {xs : List LV} {ys : List Value}, ys.length = xs.length → (∀ (i : Nat) (x : LV) (y : Value), xs[i]? = some x → ys[i]? = some y → Rep m N x y) → RepL m N xs ys
  | [], ys, h, _ => by have : ys = [] := List.eq_nil_of_length_eq_zero (by simpa using h); exact this
  | x :: xs, [], h, _ => by simp at h
  | x :: xs, y :: ys, h, hr => ⟨y, ys, rfl, hr 0 x y (by simp) (by simp), RepL.mk (by simpa using h) fun i a b h1 h2 => hr (i + 1) a b (by simpa using h1) (by simpa using h2)⟩

theorem RepL.append {m : Me} {N : Nat} {xs xs' : List LV} {ys ys' : List Value} (h : RepL m N xs ys) (h' : RepL m N xs' ys') : RepL m N (xs ++ xs') (ys ++ ys') := by
  induction xs generalizing ys with
  | nil => rw [show ys = [] from h]; exact h'
  | cons x xs ih => obtain ⟨y, r, rfl, h1, h2⟩ := h; exact ⟨y, r ++ ys', rfl, h1, ih h2⟩

theorem RepL.take {m : Me} {N : Nat} {xs : List LV} {ys : List Value} (h : RepL m N xs ys) (k : Nat) : RepL m N (xs.take k) (ys.take k) := by
  induction xs generalizing ys k with
  | nil => rw [show ys = [] from h]; simp [RepL]
  | cons x xs ih => obtain ⟨y, r, rfl, h1, h2⟩ := h; cases k with
    | zero => simp [RepL]
    | succ k => exact ⟨y, r.take k, by simp, h1, ih h2 k⟩

theorem RepL.drop {m : Me} {N : Nat} {xs : List LV} {ys : List Value} (h : RepL m N xs ys) (k : Nat) : RepL m N (xs.drop k) (ys.drop k) := by
  induction xs generalizing ys k with
  | nil => rw [show ys = [] from h]; simp [RepL]
  | cons x xs ih => obtain ⟨y, r, rfl, h1, h2⟩ := h; cases k with
    | zero => exact ⟨y, r, rfl, h1, h2⟩
    | succ k => exact ih h2 k

theorem RepL.set {m : Me} {N : Nat} {xs : List LV} {ys : List Value} (h : RepL m N xs ys) (k : Nat) {x : LV} {y : Value} (hx : Rep m N x y) : RepL m N (xs.set k x) (ys.set k y) := by
  induction xs generalizing ys k with
  | nil => rw [show ys = [] from h]; simp [RepL]
  | cons x0 xs ih => obtain ⟨y0, r, rfl, h1, h2⟩ := h; cases k with
    | zero => exact ⟨y, r, rfl, hx, h2⟩
    | succ k => exact ⟨y0, r.set k y, rfl, h1, ih h2 k⟩

end Go.Proofs.Aw

/- A PART OF THE PROOF: an abstract run of the loaded code over value trees, and the functions walked by it. No condition of its own. -/
import Derived.Test.YtanmknmlphkeaaaGreatDoorGA23
import Derived.ChangeArms
import Derived.Deep.Slices
namespace Go.Proofs.Aw
open Go Go.RowKit Go.Deep

/-! ### what the row's reading tells of an argument -/
abbrev Me.of (w : World) : Me := Me.base w (fun _ => False) (fun _ h => h.elim)

section
variable {H : Type} {enc : TypeId × Value → H} {P : Program} {w : World} {base : Nat} {sp : Nat → Bool} {held : Bool}

theorem open_slE {t e : TypeId} {fuel : Nat} {cs : List Value} {x : DataW H × List MemPlace} {F : List Value → List LV} (ht : P.underlying t = some (.slice e)) (hpos : 0 < P.cellsOf e)
    (hel : ∀ n cs x, cs.length = P.cellsOf e → DataW.trod enc P w base sp held n e cs = some x → RepL (Me.of w) 0 (F cs) cs ∧ ∀ u ∈ cs, u.oneCell' = true)
    (h : DataW.trod enc P w base sp held fuel t cs = some x) : ∃ (n : Nat) (g : Nat → List Value) (A : Option Addr) (c : Nat), cs = [.slice A n c] ∧ Rep (Me.of w) 0 (.sl (P.cellsOf e) n (fun i => F (g i))) (.slice A n c) ∧ (∀ i, i < n → ∃ k x, (g i).length = P.cellsOf e ∧ DataW.trod enc P w base sp held k e (g i) = some x) := by
  rcases open_slice ht h with ⟨rfl, rfl⟩ | ⟨a, len, cap, m, n, D, Pl, rfl, hb, hl, hm, hmm, rfl, hx⟩
  · exact ⟨0, fun _ => [], none, 0, rfl, ⟨none, 0, rfl, Nat.le_refl _, by omega, fun _ => ⟨rfl, rfl⟩, fun h => absurd h (by omega)⟩, fun i hi => absurd hi (by omega)⟩
  · have hlm : len ≤ m := by rw [hmm]; split <;> omega
    obtain ⟨g, hg⟩ := choose_lt (α := List Value) (p := fun i cs' => w.cells? base (a.add (i * P.cellsOf e)) (P.cellsOf e) = some cs' ∧ DataW.trod enc P w base sp held n e cs' = some (D i, Pl i)) hx
    refine ⟨len, g, some a, cap, rfl, ⟨some a, cap, rfl, hl, by unfold maxLen at hm; omega, (by intro h; cases h), fun h0 => ?_⟩, fun i hi => ?_⟩
    · obtain ⟨_, hlen0, hc0⟩ := World.cells?_some (hg 0 (by omega)).1
      have hcell : ∃ v, w.cell? a = some v := by
        have := hc0 0 hpos
        rw [Nat.zero_mul] at this
        have e2 : (a.add 0).add 0 = a := by unfold Addr.add; simp
        rw [e2] at this
        rw [this]
        exact ⟨_, List.getElem?_eq_getElem (by omega)⟩
      obtain ⟨v, hv⟩ := hcell
      obtain ⟨ab, ao, as⟩ := a
      have hspot : as = none := by
        unfold World.cell? at hv
        split at hv
        · split at hv
          · cases hv
          · rename_i h1; simpa using h1
        · cases hv
      subst hspot
      have hsz : ab < w.heap.size := by
        cases hh : w.heap[ab]? with
        | none => simp [World.cell?, hh] at hv
        | some o => exact (Array.getElem?_eq_some_iff.1 hh).1
      refine ⟨ab, ao, rfl, fun h => h.elim, hsz, fun i hi => ?_⟩
      obtain ⟨h1, h2⟩ := hg i (by omega)
      obtain ⟨_, h3, h4⟩ := World.cells?_some h1
      obtain ⟨h5, h6⟩ := hel n (g i) _ h3 h2
      refine ⟨g i, h5, h3, fun j y hj => ?_⟩
      have hjl : j < P.cellsOf e := by rw [← h3]; exact (List.getElem?_eq_some_iff.1 hj).1
      have h7 := h4 j hjl
      rw [hj, add_add, add_at] at h7
      refine ⟨?_, h6 y (List.mem_of_getElem? hj)⟩
      rw [Nat.add_assoc]
      exact h7
    · obtain ⟨h1, h2⟩ := hg i (by omega)
      exact ⟨n, _, (World.cells?_some h1).2.1, h2⟩
end
end Go.Proofs.Aw
namespace Go.Proofs.Aw
open Go Go.RowKit

/-! ### objects whose numbers are kept ahead -/
structure ResTo (a : Nat) (m m' : Me) : Prop where
  b : ∀ o, o ≠ a → m'.b o = m.b o
  u : m.b a = undef
  size : m.w.heap.size ≤ m'.w.heap.size
  keep : ∀ k, k < m.w.heap.size → m'.w.heap[k]? = m.w.heap[k]?
  vo : ∀ k, m'.vo k → m.vo k ∨ m.w.heap.size ≤ k

theorem ResTo.notVo {a : Nat} {m m' : Me} (h : ResTo a m m') {k : Nat} (hk : k < m.w.heap.size) (hv : ¬ m.vo k) : ¬ m'.vo k := fun h1 => by
  rcases h.vo k h1 with h2 | h2
  · exact hv h2
  · omega
theorem ResTo.cells {a : Nat} {m m' : Me} (h : ResTo a m m') {b off : Nat} {ys : List Value} (hb : b < m.w.heap.size) (hc : cellsAt m.w b off ys) : cellsAt m'.w b off ys := by
  intro j y hy
  obtain ⟨h1, h2⟩ := hc j y hy
  exact ⟨(World.cell?_of_block (w := m.w) (h.keep b hb)).trans h1, h2⟩

mutual
theorem Rep.res {a : Nat} {m m' : Me} (h : ResTo a m m') {N : Nat} : ∀ (x : LV) (y : Value), Rep m N x y → Rep m' N x y
  | .any, _, _ => trivial
  | .v _, _, hr => hr
  | .bs _, _, hr => hr
  | .ly _ _ _, _, hr => by
    obtain ⟨rfl, h1, h2⟩ := hr
    have hg := (Array.getElem?_eq_some_iff.1 h1).1
    exact ⟨rfl, (h.keep _ hg).trans h1, h.notVo hg h2⟩
  | .str _, _, hr => hr
  | .agg cs, y, hr => by
    obtain ⟨ys, rfl, h1, h2⟩ := hr
    exact ⟨ys, rfl, RepL.res h cs ys h1, h2⟩
  | .tup cs, y, hr => by
    obtain ⟨ys, rfl, h1⟩ := hr
    exact ⟨ys, rfl, RepL.res h cs ys h1⟩
  | .sl sz n g, y, hr => by
    obtain ⟨A, cap, rfl, h1, h2, h3, h4⟩ := hr
    refine ⟨A, cap, rfl, h1, h2, h3, fun hn => ?_⟩
    obtain ⟨b, off, rfl, h5, h6, h7⟩ := h4 hn
    refine ⟨b, off, rfl, h.notVo h6 h5, Nat.lt_of_lt_of_le h6 h.size, fun i hi => ?_⟩
    obtain ⟨ys, h8, h9, h10⟩ := h7 i hi
    exact ⟨ys, RepL.res h (g i) ys h8, h9, h.cells h6 h10⟩
  | .sp cs off, y, hr => by
    obtain ⟨b, o, ys, rfl, h1, h2, h3, h4⟩ := hr
    exact ⟨b, o, ys, rfl, h.notVo h2 h1, Nat.lt_of_lt_of_le h2 h.size, RepL.res h cs ys h3, h.cells h2 h4⟩
  | .lp o off, y, hr => by
    obtain ⟨h1, b, h2, rfl⟩ := hr
    have hne : o ≠ a := fun e => by subst e; rw [h.u] at h2; cases h2
    exact ⟨h1, b, (h.b o hne).trans h2, rfl⟩
  | .el o sz i off, y, hr => by
    obtain ⟨h1, b, n, c, h2, h3, rfl⟩ := hr
    have hne : o ≠ a := fun e => by subst e; rw [h.u] at h2; cases h2
    exact ⟨h1, b, n, c, (h.b o hne).trans h2, h3, rfl⟩
  | .ls o n, y, hr => by
    obtain ⟨h1, rfl, A, c, h2, h3⟩ := hr
    have hne : o ≠ a := fun e => by subst e; rw [h.u] at h2; cases h2
    have hb := h.b o hne
    exact ⟨h1, hb.symm, A, c, hb.trans h2, h3⟩
  | .as o off n, y, hr => by
    obtain ⟨h1, b, c, h2, rfl⟩ := hr
    have hne : o ≠ a := fun e => by subst e; rw [h.u] at h2; cases h2
    exact ⟨h1, b, c, (h.b o hne).trans h2, rfl⟩
  | .mp o, y, hr => by
    obtain ⟨h1, rfl, b, h2⟩ := hr
    have hne : o ≠ a := fun e => by subst e; rw [h.u] at h2; cases h2
    have hb := h.b o hne
    exact ⟨h1, hb.symm, b, hb.trans h2⟩
  | .clo fn first caps, y, hr => by
    obtain ⟨fs, cs, rfl, h1, h2⟩ := hr
    exact ⟨fs, cs, rfl, RepL.res h first fs h1, RepL.res h caps cs h2⟩
theorem RepL.res {a : Nat} {m m' : Me} (h : ResTo a m m') {N : Nat} : ∀ (xs : List LV) (ys : List Value), RepL m N xs ys → RepL m' N xs ys
  | [], _, hr => hr
  | x :: xs, ys, hr => by
    obtain ⟨y, r, rfl, h1, h2⟩ := hr
    exact ⟨y, r, rfl, Rep.res h x y h1, RepL.res h xs r h2⟩
end
theorem RepO.res {a : Nat} {m m' : Me} (h : ResTo a m m') {N : Nat} {ob : LO} {y : Value} (hr : RepO m N ob y) (hk : ∀ k, blkOf y = some k → m'.w.heap[k]? = m.w.heap[k]?) : RepO m' N ob y := by
  cases ob with
  | box ty cs =>
    obtain ⟨b, ys, rfl, h1, h2, h3⟩ := hr
    exact ⟨b, ys, rfl, (hk b rfl).trans h1, RepL.res h cs ys h2, h3⟩
  | arr ty sz n g =>
    obtain ⟨xs, h1, h2, h3⟩ := hr
    refine ⟨xs, ⟨h1.1, ?_⟩, h2, fun i hi => ?_⟩
    · rcases h1.2 with h4 | ⟨gg, cap, cur, rfl, h5, h6, h7⟩
      · exact .inl h4
      · exact .inr ⟨gg, cap, cur, rfl, h5, (hk gg rfl).trans h6, h7⟩
    · obtain ⟨ys, h4, h5, h6⟩ := h3 i hi
      exact ⟨ys, RepL.res h (g i) ys h4, h5, h6⟩
  | mp P kt et n f =>
    obtain ⟨b, D, rfl, h1, h2, h3, h4⟩ := hr
    exact ⟨b, D, rfl, h1, h2, ownsMap_of h3 (hk b rfl), h4⟩

/-- r numbers more are kept -/
def Me.more (m : Me) (r : Nat) : Me := { m with b := fun o => if o < m.n then m.b o else undef, n := m.n + r }
theorem Ok.more {org : Me} {st : St} {m : Me} {tm : Array Value} (h : Ok org st m tm) (r : Nat) : Ok org ⟨st.env, st.objs, st.next + r, st.low⟩ (m.more r) tm := by
  have e := h.sim.n
  have hf : Fr m (m.more r) := ⟨rfl, rfl, rfl, Nat.le_refl _, fun _ _ _ => rfl, fun _ hk => .inl hk, fun _ hk => .inl hk, fun _ hk _ => hk, fun o ho => by simp [Me.more, ho], Nat.le_add_right _ _⟩
  have hbo : ∀ o, o < st.next → (m.more r).b o = m.b o := fun o ho => hf.b o (by omega)
  refine ⟨⟨by show m.n + r = st.next + r; omega, fun k hk => Rep.fr hf st.next (st.next + r) (by omega) (by omega) _ _ (h.sim.env k hk), fun o ob ho => ?_, fun o o' ob ob' h1 h2 h3 k hk => ?_⟩, h.fr.trans hf, h.low⟩
  · obtain ⟨h1, h2, h3⟩ := h.sim.obj o ob ho
    rw [hbo o h1]
    exact ⟨by show o < st.next + r; omega, RepO.fr hf st.next (st.next + r) (by omega) (by omega) h2 fun k hk => rfl, h3⟩
  · have l1 := (h.sim.obj o ob h1).1
    have l2 := (h.sim.obj o' ob' h2).1
    rw [hbo o l1] at hk
    rw [hbo o' l2]
    exact h.sim.apart o o' ob ob' h1 h2 h3 k hk

def Me.resAlloc (m : Me) (a : Nat) (w' : World) (hsz : m.w.heap.size < w'.heap.size) : Me where
  w := w'
  b := setB m.b a (.pointer (some ⟨m.w.heap.size, 0, none⟩))
  vo := fun k => m.vo k ∨ k = m.w.heap.size
  wr := fun k => m.wr k ∨ k = m.w.heap.size
  n := m.n
  sub := fun k h => h.elim (fun h => .inl (m.sub k h)) .inr
  lt := fun k h => by
    rcases h with h | h
    · exact Nat.lt_trans (m.lt k h) hsz
    · subst h; exact hsz
/-- a box made under a number that was kept -/
theorem Ok.resAlloc {org : Me} {st : St} {m : Me} {tm : Array Value} (h : Ok org st m tm) (a : Nat) (ha : a < st.next) (hl : st.low ≤ a) (hu : m.b a = undef) (hno : lookO a st.objs = none) (ty : TypeId) (cs : List LV) (ys : List Value)
    (hr : RepL m st.next cs ys) (h1 : ∀ u ∈ ys, u.oneCell' = true) : ∃ m', m'.w = m.w.alloc (.cells ys.toArray ty) ∧ m'.n = m.n ∧ (∀ o, o ≠ a → m'.b o = m.b o) ∧ Fr org m' ∧ Ok org ⟨st.env, (a, .box ty cs) :: st.objs, st.next, st.low⟩ m' tm ∧ Rep m' st.next (.lp a 0) (.pointer (some ⟨m.w.heap.size, 0, none⟩)) := by
  have hsz : m.w.heap.size < (m.w.alloc (.cells ys.toArray ty)).heap.size := by simp
  refine ⟨m.resAlloc a (m.w.alloc (.cells ys.toArray ty)) hsz, rfl, rfl, fun o ho => by simp [Me.resAlloc, setB, ho], ?_⟩
  have hR : ResTo a m (m.resAlloc a (m.w.alloc (.cells ys.toArray ty)) hsz) := ⟨fun o ho => by simp [Me.resAlloc, setB, ho], hu, Nat.le_of_lt hsz, fun k hk => alloc_old _ _ k hk, fun k hk => by
    rcases hk with hk | hk
    · exact .inl hk
    · exact .inr (Nat.le_of_eq hk.symm)⟩
  have hba : (m.resAlloc a (m.w.alloc (.cells ys.toArray ty)) hsz).b a = .pointer (some ⟨m.w.heap.size, 0, none⟩) := by simp [Me.resAlloc, setB]
  have hf : Fr org (m.resAlloc a (m.w.alloc (.cells ys.toArray ty)) hsz) := by
    have f := h.fr
    have hlow := h.low
    refine ⟨f.os, f.tape, f.output, Nat.le_trans f.size (Nat.le_of_lt hsz), fun k hk hw => (alloc_old _ _ k (Nat.lt_of_lt_of_le hk f.size)).trans (f.keep k hk hw), fun k hk => ?_, fun k hk => ?_, fun k hk hn => .inl (f.vk k hk hn), fun o ho => (hR.b o (by omega)).trans (f.b o ho), f.n⟩
    · rcases hk with hk | hk
      · exact f.wr k hk
      · exact .inr (by rw [hk]; exact f.size)
    · rcases hk with hk | hk
      · exact f.vo k hk
      · exact .inr (by rw [hk]; exact f.size)
  refine ⟨hf, ⟨⟨h.sim.n, fun k hk => Rep.res hR _ _ (h.sim.env k hk), fun o ob ho => ?_, fun o o' ob ob' g1 g2 g3 k hk => ?_⟩, hf, h.low⟩, ⟨ha, m.w.heap.size, hba, rfl⟩⟩
  · by_cases e : o = a
    · subst e
      simp only [lookO, beqT, Option.some.injEq] at ho
      subst ho
      refine ⟨ha, ⟨m.w.heap.size, ys, hba, alloc_new _ _, RepL.res hR _ _ hr, h1⟩, fun k hk => ?_⟩
      rw [hba] at hk
      have hk : k = m.w.heap.size := by simpa [blkOf] using hk.symm
      exact ⟨.inr hk, by rw [hk]; exact hsz⟩
    · simp only [lookO, beqF e] at ho
      obtain ⟨g1, g2, g3⟩ := h.sim.obj o ob ho
      rw [hR.b o e]
      exact ⟨g1, RepO.res hR g2 fun k hk => alloc_old _ _ k (g3 k hk).2, fun k hk => ⟨.inl (g3 k hk).1, Nat.lt_trans (g3 k hk).2 hsz⟩⟩
  · have far : ∀ o ob k, o ≠ a → lookO o ((a, .box ty cs) :: st.objs) = some ob → blkOf ((m.resAlloc a (m.w.alloc (.cells ys.toArray ty)) hsz).b o) = some k → k < m.w.heap.size := fun o ob k e ho hk => by
      simp only [lookO, beqF e] at ho
      rw [hR.b o e] at hk
      exact ((h.sim.obj o ob ho).2.2 k hk).2
    have near : ∀ k, blkOf ((m.resAlloc a (m.w.alloc (.cells ys.toArray ty)) hsz).b a) = some k → k = m.w.heap.size := fun k hk => by
      rw [hba] at hk
      simpa [blkOf] using hk.symm
    intro hk2
    by_cases e : o = a
    · subst e
      have e' : o' ≠ o := fun e2 => g3 e2.symm
      have := far o' ob' k e' g2 hk2
      have := near k hk
      omega
    · by_cases e' : o' = a
      · subst e'
        have := far o ob k e g1 hk
        have := near k hk2
        omega
      · simp only [lookO, beqF e] at g1
        simp only [lookO, beqF e'] at g2
        rw [hR.b o e] at hk
        rw [hR.b o' e'] at hk2
        exact h.sim.apart o o' ob ob' g1 g2 g3 k hk hk2
end Go.Proofs.Aw
namespace Go.Proofs.Aw
open Go Go.RowKit

/-! ### a region whose order is open, with boxes made at any time -/
theorem Ok.objs {org : Me} {st : St} {m : Me} {tm : Array Value} (h : Ok org st m tm) (l : List (Nat × LO)) (hl : ∀ k, lookO k l = lookO k st.objs) : Ok org ⟨st.env, l, st.next, st.low⟩ m tm :=
  ⟨⟨h.sim.n, h.sim.env, fun o ob ho => h.sim.obj o ob ((hl o).symm.trans ho), fun o o' ob ob' h1 h2 => h.sim.apart o o' ob ob' ((hl o).symm.trans h1) ((hl o').symm.trans h2)⟩, h.fr, h.low⟩

def setD (D : Nat → Bool) (i : Nat) : Nat → Bool := fun j => D j || Nat.beq i j
structure Obs2 (P : Program) (T : Tab) (sz : Nat) (ops : List Oper) (ms : List Nat) (st : St) (vals : List LV) (H : (Nat → Bool) → Hp) (al : List (Nat × Nat)) : Prop where
  vlen : vals.length = ops.length
  inj : ∀ i j a b, (i, a) ∈ al → (j, b) ∈ al → (i = j ↔ a = b)
  lt : ∀ i a, (i, a) ∈ al → st.low ≤ a ∧ ∀ D, a < (H D).2
  ob : ∀ i o v, nth ops i = some o → nth vals i = some v → (∀ a, (i, a) ∉ al) → ∀ D : Nat → Bool, D i = false → (∀ j, pre ms i j = true → D j = true) → (∀ k, D k = true → ∀ j, pre ms k j = true → D j = true) → stepG P T ops sz o v (H (setD D i)) (stAt ops ms st.env vals i (H D))
  al : ∀ i a, (i, a) ∈ al → ∃ o e ti, nth ops i = some o ∧ o.guard = none ∧ o.op = .alloc e ∧ T.find e = some ti ∧ nth vals i = some (.lp a 0) ∧ ∀ D : Nat → Bool, D i = false → (∀ k, D k = true → ∀ j, pre ms k j = true → D j = true) → lookO a (H D).1 = none ∧ (H (setD D i)).2 = (H D).2 ∧ ∀ k, lookO k (H (setD D i)).1 = lookO k ((a, .box e ti.zero) :: (H D).1)

def doneOf (L : Array Bool) : Nat → Bool := fun j => L.getD j false
theorem doneOf_set {L : Array Bool} {i : Nat} (h : i < L.size) : doneOf (L.setIfInBounds i true) = setD (doneOf L) i := funext fun j => getD_set h

structure DrawInv2 (org : Me) (ops : List Oper) (ms : List Nat) (st : St) (vals : List LV) (H : (Nat → Bool) → Hp) (al : List (Nat × Nat)) (sz : Nat) (L : Array Bool) (tm : Array Value) (m : Me) : Prop where
  lsz : L.size = ops.length
  down : ∀ i, L.getD i false = true → ∀ j, pre ms i j = true → L.getD j false = true
  tsz : tm.size = sz
  und : ∀ i a, (i, a) ∈ al → L.getD i false = false → m.b a = undef
  ok : Ok org ⟨envG (fL L vals) st.env 0 ops, (H (doneOf L)).1, (H (doneOf L)).2, st.low⟩ m tm

theorem env_after {org : Me} {ops : List Oper} {ms : List Nat} {st : St} {vals : List LV} {L : Array Bool} {tm : Array Value} {ds : List Deferred} {m' : Me} {N : Nat} (D : DrawOk ops ms []) {i : Nat} {o : Oper} (hi_ : nth ops i = some o) (hiL : i < L.size) {v : LV} (hv : nth vals i = some v) {y : Value} (hr : Rep m' N v y)
    (hold : ∀ k (h : k < tm.size), Rep m' N (look k (envG (fL L vals) st.env 0 ops)) tm[k]) : ∀ k (h : k < ((⟨tm, ds⟩ : Act).put o.dst y).tmps.size), Rep m' N (look k (envG (fL (L.setIfInBounds i true) vals) st.env 0 ops)) (((⟨tm, ds⟩ : Act).put o.dst y).tmps[k]) := by
  intro k hk
  have hk1 : k < tm.size := by rw [put_size] at hk; exact hk
  have h1 := hold k hk1
  rcases find_base (k := k) D.dsts with hb | ⟨j, oj, hj, hd, hb⟩
  · rw [hb] at h1 ⊢
    have hne : o.dst ≠ some k := fun e => by
      have h2 := hb (fun _ _ => some (.bs true)) [(k, .bs false)]
      have h3 := look_envG_some (f := fun _ _ => some (.bs true)) (base := [(k, .bs false)]) (j0 := 0) hi_ e fun j' o' h4 h5 => D.dsts j' i o' o k h4 hi_ h5 e
      rw [h3] at h2
      simp [look] at h2
    have : ((⟨tm, ds⟩ : Act).put o.dst y).tmps[k] = tm[k] := by rw [put_get hk hk1, if_neg hne]
    rw [this]
    exact h1
  · rw [hb] at h1 ⊢
    unfold fL at h1 ⊢
    rw [getD_set hiL]
    by_cases e : i = j
    · subst e
      rw [hj] at hi_
      injection hi_ with hi_
      subst hi_
      rw [beqT, Bool.or_true]
      have : ((⟨tm, ds⟩ : Act).put oj.dst y).tmps[k] = y := by rw [put_get hk hk1, if_pos hd]
      rw [this, hv]
      exact hr
    · rw [beqF e, Bool.or_false]
      have : ((⟨tm, ds⟩ : Act).put o.dst y).tmps[k] = tm[k] := by rw [put_get hk hk1, if_neg fun h => e (D.dsts i j o oj k hi_ hj h hd)]
      rw [this]
      exact h1

theorem DrawInv2.step {P : Program} {T : Tab} (hT : T.Ok P) {org : Me} {ops : List Oper} {ms : List Nat} {st : St} {vals : List LV} {H : (Nat → Bool) → Hp} {al : List (Nat × Nat)} {sz : Nat} (D : DrawOk ops ms []) (O : Obs2 P T sz ops ms st vals H al)
    {ds : List Deferred} {Q : Exit → Act → World → Prop} (hok : ∀ o ∈ ops, opOk sz o = true)
    {L : Array Bool} {tm : Array Value} {m : Me} (I : DrawInv2 org ops ms st vals H al sz L tm m) {i : Nat} {o : Oper} (hi_ : nth ops i = some o) (hn : L.getD i false = false) (hpre : ∀ j, pre ms i j = true → L.getD j false = true)
    {K : Act → World → Prop} (hK : ∀ tm' m', DrawInv2 org ops ms st vals H al sz (L.setIfInBounds i true) tm' m' → K ⟨tm', ds⟩ m'.w) : wpOp P ops.toArray Q i K ⟨tm, ds⟩ m.w := by
  have hil := nth_lt hi_
  have hiL : i < L.size := by rw [I.lsz]; exact hil
  obtain ⟨v, hv⟩ := nth_some (l := vals) (i := i) (by rw [O.vlen]; exact hil)
  have hO := I.ok
  have hdn := doneOf_set hiL
  have hdown : ∀ j, (L.setIfInBounds i true).getD j false = true → ∀ k, pre ms j k = true → (L.setIfInBounds i true).getD k false = true := fun j hj k hk => by
    rw [getD_set hiL] at hj ⊢
    rw [Bool.or_eq_true] at hj
    rcases hj with hj | hj
    · rw [I.down j hj k hk]; rfl
    · have := Nat.eq_of_beq_eq_true hj
      subst this
      rw [hpre k hk]; rfl
  unfold wpOp
  have hi2 : ops.toArray[i]? = some o := by rw [List.getElem?_toArray, ← nth_eq]; exact hi_
  rw [hi2]
  have hmem : o ∈ ops := by rw [nth_eq] at hi_; exact List.mem_of_getElem? hi_
  by_cases hal : ∃ a, (i, a) ∈ al
  · obtain ⟨a, hal⟩ := hal
    obtain ⟨o', e, ti, g1, g2, g3, g4, g5, g6⟩ := O.al i a hal
    rw [hi_] at g1; injection g1 with g1; subst g1
    rw [hv] at g5; injection g5 with g5; subst g5
    obtain ⟨g7, g8, g9⟩ := g6 (doneOf L) hn fun k hk j hj => I.down k hk j hj
    obtain ⟨l1, l2⟩ := O.lt i a hal
    have hw : Region.wanted o (yielded ops.toArray tm) = true := by simp [Region.wanted, g2]
    simp only [hw, if_true]
    refine .inl ?_
    obtain ⟨inf, z, h3, h4, h5, h6, _⟩ := (hT.find g4).i
    obtain ⟨q1, q2, q3, _⟩ := zero_rep (hT.find g4) h3 h6 m (H (doneOf L)).2
    obtain ⟨m', w1, w2, w3, w4, w5, w6⟩ := hO.resAlloc a (l2 _) l1 (I.und i a hal hn) g7 e ti.zero z.cells.toList q1 q3
    have hrun : (execOp (Act.eval ⟨tm, ds⟩) o).run P m.w = .ok (.value (.pointer (some ⟨m.w.heap.size, 0, none⟩))) m'.w := by
      rw [w1]
      simp only [execOp, g3, Instr.alloc, Sem.run_bind, zeroValue, run_typeInfo h3, h6, Result.andThen_ok, Sem.run_pure, newVar, newRow, newObj, Sem.run]
      rfl
    unfold Oper.wp
    rw [hrun]
    show K ((⟨tm, ds⟩ : Act).put o.dst (.pointer (some ⟨m.w.heap.size, 0, none⟩))) m'.w
    rw [put_ds]
    refine hK _ m' ⟨by simp [I.lsz], hdown, (put_size _ _ _ _).trans I.tsz, fun j b hj hnj => ?_, ?_⟩
    · rw [getD_set hiL, Bool.or_eq_false_iff] at hnj
      have hne : b ≠ a := fun e => by
        have := (O.inj i j a b hal hj).2 e.symm
        subst this
        rw [beqT] at hnj; cases hnj.2
      rw [w3 b hne]
      exact I.und j b hj hnj.1
    · have hobj := w5.objs (H (setD (doneOf L) i)).1 g9
      rw [hdn]
      have e2 := g8
      refine ⟨⟨by rw [g8]; exact w5.sim.n, fun k hk => ?_, fun ob hb hh => ?_, hobj.sim.apart⟩, w4, w5.low⟩
      · show Rep m' (H (setD (doneOf L) i)).2 _ _
        rw [g8]
        exact env_after (org := org) D hi_ hiL hv w6 (fun k hk => w5.sim.env k hk) k hk
      · have := hobj.sim.obj ob hb hh
        show ob < (H (setD (doneOf L) i)).2 ∧ RepO m' (H (setD (doneOf L) i)).2 hb (m'.b ob) ∧ _
        rw [g8]
        exact this
  · have hob := O.ob i o v hi_ hv (fun a ha => hal ⟨a, ha⟩) (doneOf L) hn hpre fun k hk j hj => I.down k hk j hj
    have hview : Ok m (stAt ops ms st.env vals i (H (doneOf L))) m tm := by
      refine ⟨⟨hO.sim.n, fun k hk => ?_, hO.sim.obj, hO.sim.apart⟩, Fr.refl m, hO.sim.n.symm⟩
      have h1 := hO.sim.env k hk
      rcases find_base (k := k) D.dsts with hb | ⟨j, oj, hj, hd, hb⟩
      · show Rep m (H (doneOf L)).2 (look k (envG (fAt ms i vals) st.env 0 ops)) _
        rw [hb]; rw [hb] at h1; exact h1
      · show Rep m (H (doneOf L)).2 (look k (envG (fAt ms i vals) st.env 0 ops)) _
        rw [hb]; rw [hb] at h1
        unfold fAt
        unfold fL at h1
        cases hp : pre ms i j with
        | true =>
          rw [hpre j hp] at h1
          exact h1
        | false =>
          show Rep m (H (doneOf L)).2 (Option.getD (match Nat.beq i j || pre ms j i with | true => none | false => some .any) _) _
          cases hp2 : (Nat.beq i j || pre ms j i) with
          | false => exact trivial
          | true =>
            have : L.getD j false = false := by
              rw [Bool.or_eq_true] at hp2
              rcases hp2 with h2 | h2
              · rw [← Nat.eq_of_beq_eq_true h2]; exact hn
              · cases h3 : L.getD j false with
                | false => rfl
                | true => have := I.down j h3 i h2; rw [hn] at this; cases this
            rw [this] at h1
            exact h1
    have hafter : ∀ (m' : Me) (y : Value) (st'' : St), Ok m st'' m' tm → (st''.objs, st''.next) = H (setD (doneOf L) i) → Rep m' st''.next v y → DrawInv2 org ops ms st vals H al sz (L.setIfInBounds i true) ((⟨tm, ds⟩ : Act).put o.dst y).tmps m' := by
      intro m' y st'' hO2 hst hr
      have hs1 : (H (setD (doneOf L) i)).1 = st''.objs := by rw [← hst]
      have hs2 : (H (setD (doneOf L) i)).2 = st''.next := by rw [← hst]
      refine ⟨by simp [I.lsz], hdown, (put_size tm ds o.dst y).trans I.tsz, fun j b hj hnj => ?_, ?_⟩
      · rw [getD_set hiL, Bool.or_eq_false_iff] at hnj
        have := (O.lt j b hj).2 (doneOf L)
        rw [hO2.fr.b b (by rw [hO.sim.n]; exact this)]
        exact I.und j b hj hnj.1
      · rw [hdn]
        refine ⟨⟨by rw [hs2]; exact hO2.sim.n, fun k hk => ?_, fun ob hb hh => ?_, fun a b c d e1 e2 => ?_⟩, hO.fr.trans hO2.fr, hO.low⟩
        · show Rep m' (H (setD (doneOf L) i)).2 _ _
          rw [hs2]
          exact env_after (org := org) D hi_ hiL hv hr (fun k hk => Rep.fr hO2.fr (H (doneOf L)).2 st''.next (Nat.le_of_eq hO.sim.n.symm) (by have h1 := hO2.fr.n; have h2 := hO2.sim.n; have h3 := hO.sim.n; show (H (doneOf L)).2 ≤ _; simp only at *; omega) _ _ (hO.sim.env k hk)) k hk
        · have hh : lookO ob st''.objs = some hb := by rw [← hs1]; exact hh
          have := hO2.sim.obj ob hb hh
          show ob < (H (setD (doneOf L) i)).2 ∧ RepO m' (H (setD (doneOf L) i)).2 hb (m'.b ob) ∧ _
          rw [hs2]
          exact this
        · have e1 : lookO a st''.objs = some c := by rw [← hs1]; exact e1
          have e2 : lookO b st''.objs = some d := by rw [← hs1]; exact e2
          exact hO2.sim.apart a b c d e1 e2
    rcases guardA_cases hview I.tsz hob with ⟨hw, st', h1, h2, h3, h4⟩ | ⟨hw, st', h1, h2, h3, h4⟩
    · simp only [hw, if_true]
      refine .inl ?_
      refine opA_sound hT h4 m m tm (fun x hx => by rw [I.tsz]; exact (List.all_eq_true.1 (hok o hmem)) x hx) h1 _ _ (fun y x st'' m' h5 h6 h7 => ?_) fun x st'' m' h5 _ => h5.elim
      rw [frc_eq, hpIs_eq] at h5
      rw [put_ds]
      exact hK _ _ (hafter m' y st'' h6 h5.2 (h5.1 _ _ _ h7))
    · simp only [hw, Bool.false_eq_true, if_false]
      rw [put_ds]
      rw [hpIs_eq] at h4
      exact hK _ _ (hafter m undef st' h1 (by rw [← h4.2]) (h4.1 _ _ _ ⟨[], rfl, rfl⟩))

theorem DrawInv2.all {P : Program} {T : Tab} (hT : T.Ok P) {org : Me} {ops : List Oper} {ms : List Nat} {st : St} {vals : List LV} {H : (Nat → Bool) → Hp} {al : List (Nat × Nat)} {sz : Nat} (D : DrawOk ops ms []) (O : Obs2 P T sz ops ms st vals H al)
    {ds : List Deferred} {Q : Exit → Act → World → Prop} (hok : ∀ o ∈ ops, opOk sz o = true)
    (hQ : ∀ tm m L, DrawInv2 org ops ms st vals H al sz L tm m → (∀ i, i < ops.length → L.getD i false = true) → Q .normal ⟨tm, ds⟩ m.w) :
    ∀ (fuel : Nat) (L : Array Bool) (tm : Array Value) (m : Me), DrawInv2 org ops ms st vals H al sz L tm m → (List.range ops.length).countP (fun i => !L.getD i false) ≤ fuel → wpAny P .any ops.toArray Q fuel L ⟨tm, ds⟩ m.w := by
  have done : ∀ L tm m, DrawInv2 org ops ms st vals H al sz L tm m → Region.ready .any ops.toArray L = [] → ∀ i, i < ops.length → L.getD i false = true := by
    intro L tm m I hr i
    induction i using Nat.strongRecOn with
    | ind i ih =>
      intro hi_
      cases hL : L.getD i false with
      | true => rfl
      | false =>
        exfalso
        obtain ⟨o, ho⟩ := nth_some hi_
        have : i ∈ Region.ready .any ops.toArray L := by
          refine mem_ready.2 ⟨by rw [getD_size (by rw [I.lsz]; exact hi_)]; exact hL, o, by rw [List.getElem?_toArray, ← nth_eq]; exact ho, fun e he hb => ?_⟩
          have hlt := D.back i o ho e (by simpa using he) hb
          exact ih _ hlt (by omega)
        rw [hr] at this
        cases this
  intro fuel
  induction fuel with
  | zero =>
    intro L tm m I hf
    have hall : ∀ i, i < ops.length → L.getD i false = true := by
      intro i hi_
      cases hL : L.getD i false with
      | true => rfl
      | false =>
        have : 0 < (List.range ops.length).countP (fun i => !L.getD i false) := List.countP_pos_iff.2 ⟨i, List.mem_range.2 hi_, by rw [hL]; rfl⟩
        omega
    refine ⟨?_, hQ tm m L I hall⟩
    apply List.eq_nil_iff_forall_not_mem.2
    intro j hj
    obtain ⟨h1, o, h2, _⟩ := mem_ready.1 hj
    have hjl : j < ops.length := by
      have := (Array.getElem?_eq_some_iff.1 h2).1
      simpa using this
    rw [getD_size (by rw [I.lsz]; exact hjl), hall j hjl] at h1
    cases h1
  | succ fuel ih =>
    intro L tm m I hf
    refine ⟨fun hr => hQ tm m L I (done L tm m I hr), fun i hi_ => ?_⟩
    obtain ⟨h1, o, h2, h3⟩ := mem_ready.1 hi_
    have hil : i < ops.length := by
      have := (Array.getElem?_eq_some_iff.1 h2).1
      simpa using this
    have ho : nth ops i = some o := by rw [nth_eq]; simpa using h2
    have hn : L.getD i false = false := by rw [← getD_size (by rw [I.lsz]; exact hil)]; exact h1
    refine DrawInv2.step hT D O hok I ho hn (fun j hj => ?_) fun tm' m' I' => ih _ _ _ I' ?_
    · obtain ⟨e, he, hb, h4⟩ := (D.pre_iff i o ho j).1 hj
      have h5 := h3 e (by simpa using he) hb
      rcases h4 with rfl | h4
      · exact h5
      · exact I.down _ h5 j h4
    · have hiL : i < L.size := by rw [I.lsz]; exact hil
      have := countP_flip (l := List.range ops.length) (p := fun j => !(L.setIfInBounds i true).getD j false) (p' := fun j => !L.getD j false) (i := i) List.nodup_range (by rw [getD_set hiL, beqT, Bool.or_true]; rfl) fun j => by
        rw [getD_set hiL]
        by_cases e : i = j
        · subst e; rw [beqT, hn]; rfl
        · rw [beqF e]; simp
      have hc : isCh (List.range ops.length) i = true := List.any_eq_true.2 ⟨i, List.mem_range.2 hil, beqT i⟩
      rw [hc] at this
      simp only [if_true] at this
      omega

/-- a region whose order is open; r numbers are kept ahead -/
theorem DrawA.of2 {P : Program} {T : Tab} (hT : T.Ok P) (hm : P.follows .mixedOrders = true) {ops : Array Oper} {sz : Nat} {K : AX → St → Prop} {st : St} {ms : List Nat} {vals : List LV} {H : (Nat → Bool) → Hp} {al : List (Nat × Nat)} {r : Nat}
    (hD : drawB ops.toList ms [] = true) (O : Obs2 P T sz ops.toList ms st vals H al) (hal : ∀ i a, (i, a) ∈ al → st.next ≤ a) (h0 : H (fun _ => false) = (st.objs, st.next + r)) (hl : ∀ D : Nat → Bool, (∀ i, i < ops.toList.length → D i = true) → K .normal ⟨envG (fEnd vals) st.env 0 ops.toList, (H D).1, (H D).2, st.low⟩) : DrawA P T sz ops K st := by
  intro org ds id hok m0 tm htm hO0
  have D := DrawOk.of hD
  refine wp_region_any hm ?_
  have hO1 := hO0.more r
  have hO' := (hO1.drew { m0.w with drawn := m0.w.drawn + 1 } ⟨rfl, rfl, rfl⟩ (Nat.le_refl _) (fun _ _ => rfl)).1
  have hgetD : ∀ i, (Array.replicate ops.size false).getD i false = false := fun i => by by_cases h : i < ops.size <;> simp [h]
  have hd0 : doneOf (Array.replicate ops.size false) = fun _ => false := funext fun i => hgetD i
  have I0 : DrawInv2 org ops.toList ms st vals H al sz (Array.replicate ops.size false) tm ((m0.more r).on { m0.w with drawn := m0.w.drawn + 1 } (Nat.le_refl _)) := by
    refine ⟨by simp, fun i hi_ => absurd (hi_.symm.trans (hgetD i)) (by simp), htm, fun i a ha _ => ?_, ?_⟩
    · have := hal i a ha
      have hn := hO0.sim.n
      show (if a < m0.n then m0.b a else undef) = undef
      rw [if_neg (by omega)]
    · rw [hd0, h0]
      refine ⟨⟨hO'.sim.n, fun k hk => ?_, hO'.sim.obj, hO'.sim.apart⟩, hO'.fr, hO'.low⟩
      have h1 := hO'.sim.env k hk
      show Rep _ (st.next + r) (look k (envG (fL (Array.replicate ops.size false) vals) st.env 0 ops.toList)) _
      rcases find_base (k := k) D.dsts with hb | ⟨j, oj, hj, hd, hb⟩
      · rw [hb]; exact h1
      · rw [hb]
        unfold fL
        rw [hgetD]
        exact h1
  refine DrawInv2.all (org := org) hT D O (ds := ds) (Q := Post org ds sz K) (fun o ho => (List.all_eq_true.1 hok) o ho) (fun tm' m' L I hall => ?_) ops.size (Array.replicate ops.size false) tm ((m0.more r).on { m0.w with drawn := m0.w.drawn + 1 } (Nat.le_refl _))
    I0 (by
      have : (List.range ops.toList.length).countP (fun i => !(Array.replicate ops.size false).getD i false) ≤ (List.range ops.toList.length).length := List.countP_le_length
      simpa using this)
  have hO2 := I.ok
  refine ⟨rfl, I.tsz, .normal, _, m', rfl, hl (doneOf L) hall, rfl, ⟨⟨hO2.sim.n, fun k hk => ?_, hO2.sim.obj, hO2.sim.apart⟩, hO2.fr, hO2.low⟩⟩
  have h1 := hO2.sim.env k hk
  show Rep m' (H (doneOf L)).2 (look k (envG (fEnd vals) st.env 0 ops.toList)) _
  rcases find_base (k := k) D.dsts with hb | ⟨j, oj, hj, hd, hb⟩
  · rw [hb] at h1 ⊢; exact h1
  · rw [hb] at h1 ⊢
    unfold fL at h1
    rw [hall j (nth_lt hj)] at h1
    exact h1
end Go.Proofs.Aw
namespace Go.Proofs.Aw
open Go Go.RowKit

/-! ### two boxes made at any time, behind them a chain -/
def cntD (c0 n : Nat) (D : Nat → Bool) : Nat := (List.range n).countP fun k => D (c0 + k)
theorem countP_pre {p : Nat → Bool} {k : Nat} : ∀ {n : Nat}, k ≤ n → (∀ j, j < n → (p j = true ↔ j < k)) → (List.range n).countP p = k
  | 0, h, _ => by obtain rfl : k = 0 := by omega
                  rfl
  | n + 1, h, hp => by
    rw [List.range_succ, List.countP_append]
    by_cases e : k = n + 1
    · have ih := countP_pre (p := p) (k := n) (n := n) (Nat.le_refl _) fun j hj => by have := hp j (by omega); rw [this]; omega
      have hn : p n = true := (hp n (by omega)).2 (by omega)
      rw [ih]; simp [hn, e]
    · have ih := countP_pre (p := p) (k := k) (n := n) (by omega) fun j hj => hp j (by omega)
      have hn : p n = false := by
        apply Bool.eq_false_iff.2
        intro h2
        have := (hp n (by omega)).1 h2
        omega
      rw [ih]; simp [hn]

section
variable (n0 : Nat) (b1 b2 : LO) (objs : List (Nat × LO))
def s00 : Hp := (objs, n0 + 2)
def s10 : Hp := ((n0, b1) :: objs, n0 + 2)
def s01 : Hp := ((n0 + 1, b2) :: objs, n0 + 2)
def s11 : Hp := ((n0, b1) :: (n0 + 1, b2) :: objs, n0 + 2)
def twoH (i1 i2 c0 n : Nat) (hps : List Hp) (D : Nat → Bool) : Hp := match cntD c0 n D with
  | 0 => match D i1, D i2 with
    | false, false => s00 n0 objs
    | true, false => s10 n0 b1 objs
    | false, true => s01 n0 b2 objs
    | true, true => s11 n0 b1 b2 objs
  | k + 1 => (nth hps k).getD (s11 n0 b1 b2 objs)
end

/-- what is asked of each operation: those ahead of c0 with any of the two boxes, those from c0 on one behind the other -/
def dtwoA (P : Program) (T : Tab) (ops : List Oper) (sz : Nat) (ms : List Nat) (base : List (Nat × LV)) (vals : List LV) (i1 i2 c0 : Nat) (e00 e10 e01 e11 : Hp) (hps : List Hp) : Nat → List Oper → Prop
  | _, [] => True
  | i, o :: r => (match Nat.beq i i1 || Nat.beq i i2 with
    | true => True
    | false => match nth vals i with
      | none => False
      | some v => match Nat.blt i c0 with
        | true => stepF P T ops sz o v e00 ms base vals i e00 ∧ stepF P T ops sz o v e10 ms base vals i e10 ∧ stepF P T ops sz o v e01 ms base vals i e01 ∧ stepF P T ops sz o v e11 ms base vals i e11
        | false => match nth (e11 :: hps) (i - c0), nth hps (i - c0) with
          | some s, some s' => stepF P T ops sz o v s' ms base vals i s
          | _, _ => False) ∧ dtwoA P T ops sz ms base vals i1 i2 c0 e00 e10 e01 e11 hps (i + 1) r
theorem dtwoA_get {P : Program} {T : Tab} {ops : List Oper} {sz : Nat} {ms : List Nat} {base : List (Nat × LV)} {vals : List LV} {i1 i2 c0 : Nat} {e00 e10 e01 e11 : Hp} {hps : List Hp} : ∀ {l : List Oper} {i0 : Nat}, dtwoA P T ops sz ms base vals i1 i2 c0 e00 e10 e01 e11 hps i0 l → ∀ k o v, nth l k = some o → nth vals (i0 + k) = some v → i0 + k ≠ i1 → i0 + k ≠ i2 →
    (i0 + k < c0 → ∀ s, s = e00 ∨ s = e10 ∨ s = e01 ∨ s = e11 → stepG P T ops sz o v s (stAt ops ms base vals (i0 + k) s)) ∧ (¬ i0 + k < c0 → ∃ s s', nth (e11 :: hps) (i0 + k - c0) = some s ∧ nth hps (i0 + k - c0) = some s' ∧ stepG P T ops sz o v s' (stAt ops ms base vals (i0 + k) s))
  | [], _, _, k, o, v, h, _ => by simp [nth] at h
  | o0 :: r, i0, ho, 0, o, v, h, hv => by
    simp only [nth, Option.some.injEq] at h
    subst h
    rw [Nat.add_zero] at hv ⊢
    intro n1 n2
    have h1 := ho.1
    rw [beqF n1, beqF n2] at h1
    simp only [Bool.or_self, hv] at h1
    by_cases hb : i0 < c0
    · rw [show Nat.blt i0 c0 = true from Nat.blt_eq.mpr hb] at h1
      obtain ⟨q1, q2, q3, q4⟩ := h1
      rw [stepF_eq] at q1 q2 q3 q4
      refine ⟨fun _ s hs => ?_, fun h => absurd hb h⟩
      rcases hs with rfl | rfl | rfl | rfl <;> assumption
    · have e : Nat.blt i0 c0 = false := by
        cases h2 : Nat.blt i0 c0 with
        | false => rfl
        | true => exact absurd (Nat.blt_eq.mp h2) hb
      rw [e] at h1
      refine ⟨fun h => absurd h hb, fun _ => ?_⟩
      simp only at h1
      split at h1
      · rename_i s s' g1 g2
        rw [stepF_eq] at h1
        exact ⟨s, s', g1, g2, h1⟩
      · exact h1.elim
  | o0 :: r, i0, ho, k + 1, o, v, h, hv => by
    have e : i0 + 1 + k = i0 + (k + 1) := by omega
    have := dtwoA_get ho.2 k o v h (by rw [e]; exact hv)
    rwa [e] at this

/-- the tail: each stands behind all -/
def tailB (ms : List Nat) (c0 n : Nat) : Bool := (List.range n).all fun i => Nat.blt i c0 || (List.range i).all fun j => pre ms i j
theorem tailB_get {ms : List Nat} {c0 n : Nat} (h : tailB ms c0 n = true) {i j : Nat} (hi_ : i < n) (hc : ¬ i < c0) (hj : j < i) : pre ms i j = true := by
  have h1 := List.all_eq_true.1 h i (List.mem_range.2 hi_)
  rw [Bool.or_eq_true] at h1
  rcases h1 with h1 | h1
  · rw [Nat.blt_eq] at h1; omega
  · exact List.all_eq_true.1 h1 j (List.mem_range.2 hj)

theorem DrawA.two {P : Program} {T : Tab} (hT : T.Ok P) (hm : P.follows .mixedOrders = true) {ops : Array Oper} {sz : Nat} {K : AX → St → Prop} {env : List (Nat × LV)} {objs : List (Nat × LO)} {n0 low : Nat} (ms : List Nat) (i1 i2 c0 : Nat) (vals : List LV) (hps : List Hp) {o1 o2 : Oper} {e1 e2 : TypeId} {ti1 ti2 : TI}
    (hD : drawB ops.toList ms [] = true) (hc : (Nat.blt i1 i2 && (Nat.blt i2 c0 && (Nat.ble c0 ops.toList.length && (tailB ms c0 ops.toList.length && (Nat.beq vals.length ops.toList.length && (Nat.beq hps.length (ops.toList.length - c0) && Nat.ble low n0)))))) = true)
    (h1 : nth ops.toList i1 = some o1 ∧ o1.guard = none ∧ o1.op = .alloc e1 ∧ T.find e1 = some ti1 ∧ nth vals i1 = some (.lp n0 0)) (h2 : nth ops.toList i2 = some o2 ∧ o2.guard = none ∧ o2.op = .alloc e2 ∧ T.find e2 = some ti2 ∧ nth vals i2 = some (.lp (n0 + 1) 0))
    (g1 : lookO n0 objs = none) (g2 : lookO (n0 + 1) objs = none) (hn : hps.all (fun s => Nat.ble (n0 + 2) s.2) = true)
    (h : dtwoA P T ops.toList sz ms env vals i1 i2 c0 (s00 n0 objs) (s10 n0 (.box e1 ti1.zero) objs) (s01 n0 (.box e2 ti2.zero) objs) (s11 n0 (.box e1 ti1.zero) (.box e2 ti2.zero) objs) hps 0 ops.toList)
    (hK : match nth (s11 n0 (.box e1 ti1.zero) (.box e2 ti2.zero) objs :: hps) (ops.toList.length - c0) with
      | some (ob, nx) => frcL (envG (fEnd vals) env 0 ops.toList) fun env => K .normal ⟨env, ob, nx, low⟩
      | none => False) : DrawA P T sz ops K ⟨env, objs, n0, low⟩ := by
  simp only [Bool.and_eq_true, Nat.blt_eq, Nat.ble_eq] at hc
  obtain ⟨c1, c2, c3, c4, c5, c6, c7⟩ := hc
  have c5 := Nat.eq_of_beq_eq_true c5
  have c6 := Nat.eq_of_beq_eq_true c6
  have D := DrawOk.of hD
  let len := ops.toList.length
  let H := twoH n0 (.box e1 ti1.zero) (.box e2 ti2.zero) objs i1 i2 c0 (len - c0) hps
  have hget : ∀ {k : Nat} {s : Hp}, nth hps k = some s → n0 + 2 ≤ s.2 := fun {k s} hk => by
    have hmem : s ∈ hps := by rw [nth_eq] at hk; exact List.mem_of_getElem? hk
    have := List.all_eq_true.1 hn s hmem
    rwa [Nat.ble_eq] at this
  -- the tail is untouched
  have zero : ∀ (D' : Nat → Bool) (i : Nat), i < c0 → D' i = false → (∀ k, D' k = true → ∀ j, pre ms k j = true → D' j = true) → ∀ k, k < len - c0 → D' (c0 + k) = false := by
    intro D' i hi_ hn' hdown k hk
    apply Bool.eq_false_iff.2
    intro ht
    have := hdown _ ht i (tailB_get c4 (show c0 + k < ops.toList.length by omega) (by omega) (by omega))
    rw [hn'] at this; cases this
  have cnt0 : ∀ (D' : Nat → Bool), (∀ k, k < len - c0 → D' (c0 + k) = false) → cntD c0 (len - c0) D' = 0 := fun D' hz => by
    unfold cntD
    rw [List.countP_eq_zero]
    intro k hk
    rw [hz k (List.mem_range.1 hk)]
    simp
  have H0 : ∀ (D' : Nat → Bool), (∀ k, k < len - c0 → D' (c0 + k) = false) → H D' = (match D' i1, D' i2 with
    | false, false => s00 n0 objs
    | true, false => s10 n0 (.box e1 ti1.zero) objs
    | false, true => s01 n0 (.box e2 ti2.zero) objs
    | true, true => s11 n0 (.box e1 ti1.zero) (.box e2 ti2.zero) objs) := fun D' hz => by
    show twoH _ _ _ _ _ _ _ _ _ _ = _
    unfold twoH
    rw [cnt0 D' hz]
  have set0 : ∀ (D' : Nat → Bool) (i : Nat), i < c0 → (∀ k, k < len - c0 → D' (c0 + k) = false) → ∀ k, k < len - c0 → setD D' i (c0 + k) = false := fun D' i hi_ hz k hk => by
    unfold setD
    rw [hz k hk, beqF (by omega)]
    rfl
  refine DrawA.of2 hT hm (ms := ms) (vals := vals) (H := H) (al := [(i1, n0), (i2, n0 + 1)]) (r := 2) hD ⟨c5, ?_, ?_, ?_, ?_⟩ ?_ ?_ ?_
  · intro i j a b hi_ hj
    simp only [List.mem_cons, Prod.mk.injEq, List.not_mem_nil, or_false] at hi_ hj
    omega
  · intro i a hi_
    simp only [List.mem_cons, Prod.mk.injEq, List.not_mem_nil, or_false] at hi_
    refine ⟨by show low ≤ a; omega, fun D' => ?_⟩
    show a < (twoH _ _ _ _ _ _ _ _ _ _).2
    unfold twoH
    split
    · split <;> (show a < n0 + 2; omega)
    · rename_i k _
      cases hk : nth hps k with
      | none => show a < n0 + 2; omega
      | some s => have := hget hk; show a < s.2; omega
  · intro i o v ho hv hna D' hn' hpre hdown
    have ne1 : i ≠ i1 := fun e => hna n0 (by simp [e])
    have ne2 : i ≠ i2 := fun e => hna (n0 + 1) (by simp [e])
    have key := dtwoA_get h i o v ho (by rw [Nat.zero_add]; exact hv) (by rw [Nat.zero_add]; exact ne1) (by rw [Nat.zero_add]; exact ne2)
    rw [Nat.zero_add] at key
    have hil := nth_lt ho
    by_cases hic : i < c0
    · have hz := zero D' i hic hn' hdown
      have e3 : setD D' i i1 = D' i1 := by unfold setD; rw [beqF ne1, Bool.or_false]
      have e4 : setD D' i i2 = D' i2 := by unfold setD; rw [beqF ne2, Bool.or_false]
      rw [H0 _ (set0 D' i hic hz), H0 _ hz, e3, e4]
      refine key.1 hic _ ?_
      cases D' i1 <;> cases D' i2 <;> simp
    · obtain ⟨s, s', q1, q2, q3⟩ := key.2 hic
      obtain ⟨k, rfl⟩ : ∃ k, i = c0 + k := ⟨i - c0, by omega⟩
      rw [Nat.add_sub_cancel_left] at q1 q2
      have hkl : k < len - c0 := by show k < ops.toList.length - c0; omega
      have bef : ∀ j, j < c0 + k → D' j = true := fun j hj => hpre j (tailB_get c4 hil (by omega) hj)
      have aft : ∀ j, j < len - c0 → k < j → D' (c0 + j) = false := fun j hj hlt => by
        apply Bool.eq_false_iff.2
        intro ht
        have := hdown _ ht (c0 + k) (tailB_get c4 (show c0 + j < ops.toList.length by omega) (by omega) (by omega))
        rw [hn'] at this; cases this
      have ck : cntD c0 (len - c0) D' = k := countP_pre (by omega) fun j hj => by
        rcases Nat.lt_trichotomy j k with hlt | rfl | hgt
        · simp [bef (c0 + j) (by omega), hlt]
        · simp [hn']
        · rw [aft j hj hgt]; constructor
          · intro h; cases h
          · intro h; omega
      have ck1 : cntD c0 (len - c0) (setD D' (c0 + k)) = k + 1 := countP_pre (by omega) fun j hj => by
        show (D' (c0 + j) || Nat.beq (c0 + k) (c0 + j)) = true ↔ _
        rcases Nat.lt_trichotomy j k with hlt | rfl | hgt
        · rw [bef (c0 + j) (by omega)]; simp; omega
        · rw [beqT]; simp
        · rw [aft j hj hgt, beqF (by omega)]; simp; omega
      have hs : H D' = s := by
        show twoH _ _ _ _ _ _ _ _ _ _ = _
        unfold twoH
        rw [ck]
        cases k with
        | zero =>
          rw [bef i1 (by omega), bef i2 (by omega)]
          simp only [nth, Option.some.injEq] at q1
          exact q1
        | succ k =>
          simp only [nth] at q1
          simp only [q1]
          rfl
      have hs' : H (setD D' (c0 + k)) = s' := by
        show twoH _ _ _ _ _ _ _ _ _ _ = _
        unfold twoH
        rw [ck1]
        simp only [q2]
        rfl
      rw [hs, hs']
      exact q3
  · intro i a hi_
    simp only [List.mem_cons, Prod.mk.injEq, List.not_mem_nil, or_false] at hi_
    rcases hi_ with ⟨rfl, rfl⟩ | ⟨rfl, rfl⟩
    · obtain ⟨a1, a2, a3, a4, a5⟩ := h1
      refine ⟨o1, e1, ti1, a1, a2, a3, a4, a5, fun D' hn' hdown => ?_⟩
      have hz := zero D' i (by omega) hn' hdown
      have e3 : setD D' i i = true := by unfold setD; rw [beqT, Bool.or_true]
      have e4 : setD D' i i2 = D' i2 := by unfold setD; rw [beqF (by omega), Bool.or_false]
      rw [H0 _ (set0 D' i (by omega) hz), H0 _ hz, e3, e4, hn']
      cases D' i2 with
      | false => exact ⟨g1, rfl, fun k => rfl⟩
      | true =>
        refine ⟨?_, rfl, fun k => rfl⟩
        show lookO a ((a + 1, _) :: objs) = none
        simp only [lookO, beqF (show a ≠ a + 1 by omega)]
        exact g1
    · obtain ⟨a1, a2, a3, a4, a5⟩ := h2
      refine ⟨o2, e2, ti2, a1, a2, a3, a4, a5, fun D' hn' hdown => ?_⟩
      have hz := zero D' i (by omega) hn' hdown
      have e3 : setD D' i i = true := by unfold setD; rw [beqT, Bool.or_true]
      have e4 : setD D' i i1 = D' i1 := by unfold setD; rw [beqF (by omega), Bool.or_false]
      rw [H0 _ (set0 D' i (by omega) hz), H0 _ hz, e3, e4, hn']
      cases D' i1 with
      | false => exact ⟨g2, rfl, fun k => rfl⟩
      | true =>
        refine ⟨?_, rfl, fun k => ?_⟩
        · show lookO (n0 + 1) ((n0, _) :: objs) = none
          simp only [lookO, beqF (show n0 + 1 ≠ n0 by omega)]
          exact g2
        · show lookO k ((n0, _) :: (n0 + 1, _) :: objs) = lookO k ((n0 + 1, _) :: (n0, _) :: objs)
          by_cases k1 : k = n0
          · subst k1
            simp only [lookO, beqT, beqF (show k ≠ k + 1 by omega)]
          · by_cases k2 : k = n0 + 1
            · subst k2
              simp only [lookO, beqT, beqF (show n0 + 1 ≠ n0 by omega)]
            · simp only [lookO, beqF k1, beqF k2]
  · intro i a hi_
    simp only [List.mem_cons, Prod.mk.injEq, List.not_mem_nil, or_false] at hi_
    show n0 ≤ a
    omega
  · rw [H0 _ fun _ _ => rfl]
    rfl
  · intro D' hall
    have ck : cntD c0 (len - c0) D' = len - c0 := countP_pre (Nat.le_refl _) fun j hj => by
      rw [hall (c0 + j) (by show c0 + j < ops.toList.length; omega)]
      simp [hj]
    have hs : nth (s11 n0 (.box e1 ti1.zero) (.box e2 ti2.zero) objs :: hps) (ops.toList.length - c0) = some (H D') := by
      show _ = some (twoH _ _ _ _ _ _ _ _ _ _)
      unfold twoH
      rw [ck, hall i1 (by omega), hall i2 (by omega)]
      show nth _ (ops.toList.length - c0) = some (match ops.toList.length - c0 with | 0 => _ | k + 1 => _)
      cases hq : ops.toList.length - c0 with
      | zero => rfl
      | succ q =>
        obtain ⟨x, hx⟩ := nth_some (l := hps) (i := q) (by omega)
        simp only [nth, hx]
        rfl
    rw [hs] at hK
    simp only [frcL_eq] at hK
    exact hK
end Go.Proofs.Aw
namespace Go.Proofs.Aw
open Go Go.RowKit

/-! ### a function's statements, cut apart -/
theorem CallA.bodyA {P : Program} {T : Tab} (hT : T.Ok P) {f : FuncId} {fn : Func} {args : List LV} (hx : FnText P f fn args.length) {k : LV → St → Prop} {kp : Value → St → Prop} {st : St}
    (h : ∀ org, AW P org [] fn.ntmps (bodyOf fn) (bodyK T fn.results.toList k kp st) (st.enter args)) : CallA P f args k kp st := by
  refine ⟨hx.ok, fun org m tm vs hO hargs => ?_⟩
  have hpar := Nat.le_of_ble_eq_true hx.par
  have hlen := hargs.length
  have e := hO.sim.n
  refine calls_of_wp hx.at_ hx.some ?_
  have hsz : (vs.toArray ++ Array.replicate (fn.ntmps - vs.toArray.size) undef).size = fn.ntmps := by simp; omega
  have hAW := h m m (vs.toArray ++ Array.replicate (fn.ntmps - vs.toArray.size) undef) hsz
    ⟨⟨e, fun i hi => by
      show Rep m st.next (look i (argEnv 0 args)) _
      rw [look_args]
      simp only [Nat.zero_le, if_true, Nat.sub_zero]
      by_cases hia : i < args.length
      · rw [List.getElem?_eq_getElem hia]
        obtain ⟨y, hy, hr⟩ := hargs.get i args[i] (List.getElem?_eq_getElem hia)
        have : (vs.toArray ++ Array.replicate (fn.ntmps - vs.toArray.size) undef)[i] = y := by
          rw [Array.getElem_append_left (by simp; omega)]
          have := (List.getElem?_eq_some_iff.1 hy).2
          simpa using this
        rw [this]
        exact hr
      · rw [List.getElem?_eq_none (by omega)]
        exact trivial, hO.sim.obj, hO.sim.apart⟩, Fr.refl m, e.symm⟩
  refine Code.wp_mono ?_ hAW
  rintro ex ⟨tm', ds'⟩ w' ⟨rfl, h2, x, st', m', rfl, h3, rfl, h4⟩
  have h2 : tm'.size = fn.ntmps := h2
  have hres : fn.results.toList.all (resOk tm'.size) = true := by rw [h2]; exact hx.res
  have fin : resK T st' fn.results.toList (fun x => k x (st.back st')) → bodyPost P fn (fun e w' => ∃ st' m', m'.w = w' ∧ Ok org st' m' tm ∧ ((∃ y x, e = .returned y ∧ Rep m' st'.next x y ∧ k x st') ∨ (∃ x, e = .panicked [{ v := x, recovered := false }] ∧ kp x st'))) .ret ⟨tm', []⟩ m'.w := by
    intro h3
    obtain ⟨r, v, h5, h6, h7⟩ := resK_sound (P := P) hT h4.sim (fn := fn) hres h3
    exact ⟨rfl, v, h7, st.back st', m', rfl, hO.back h4.fr h4.sim, .inl ⟨v, r, rfl, h6, h5⟩⟩
  cases x with
  | normal => exact fin h3
  | ret => exact fin h3
  | exit id => exact h3.elim
  | pan x => exact ⟨rfl, st.back st', m', rfl, hO.back h4.fr h4.sim, .inr ⟨x, rfl, h3⟩⟩

theorem Ct.enterA {P : Program} {T : Tab} (hT : T.Ok P) {f : FuncId} {fn : Func} {args : List LV} {res : LV} (hx : FnText P f fn args.length)
    (h : ∀ org, AW P org [] fn.ntmps (bodyOf fn) (bodyK T fn.results.toList (isRes res) (fun _ _ => False) St.nil) (St.nil.enter args)) : Ct P f args res :=
  Ct.ofCall (CallA.bodyA hT hx h)

theorem AW.step {P : Program} {T : Tab} (hT : T.Ok P) {org : Me} {ds : List Deferred} {sz : Nat} {a b : Code} {K : AX → St → Prop} {st : St} (ha : codeOk sz a = true)
    (h : runC P T sz a (seqK K (AW P org ds sz b K)) st) : AW P org ds sz (.seq a b) K st :=
  AW.seq (runC_sound hT a _ st ha h)

theorem AW.run {P : Program} {T : Tab} (hT : T.Ok P) {org : Me} {ds : List Deferred} {sz : Nat} {a : Code} {K : AX → St → Prop} {st : St} (ha : codeOk sz a = true)
    (h : runC P T sz a K st) : AW P org ds sz a K st := runC_sound hT a _ st ha h

theorem AW.to {P : Program} {org : Me} {ds : List Deferred} {sz : Nat} {c : Code} {K : AX → St → Prop} {st st' : St} (hl : St.to st st') (h : AW P org ds sz c K st') : AW P org ds sz c K st := by
  intro m tm h1 h2
  obtain ⟨m', e, h3⟩ := hl org m tm h2
  rw [← e]
  exact h m' tm h1 h3

/-- behind 'a' the state is no worse than st1, and φ holds -/
theorem AW.cut {P : Program} {T : Tab} (hT : T.Ok P) {org : Me} {ds : List Deferred} {sz : Nat} {a b : Code} {K : AX → St → Prop} {st : St} (φ : Prop) (st1 : St) (ha : codeOk sz a = true)
    (h : runC P T sz a (seqK K fun st' => φ ∧ St.to st' st1) st) (h2 : φ → AW P org ds sz b K st1) : AW P org ds sz (.seq a b) K st :=
  AW.seq ((runC_sound hT a _ st ha h).mono fun x st' hx => by
    cases x with
    | normal => exact AW.to hx.2 (h2 hx.1)
    | exit id => exact hx
    | ret => exact hx
    | pan x => exact hx)
end Go.Proofs.Aw

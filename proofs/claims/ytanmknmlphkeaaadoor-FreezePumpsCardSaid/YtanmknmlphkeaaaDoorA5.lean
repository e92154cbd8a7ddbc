/- A PART OF THE PROOF: an abstract run of the loaded code over value trees, and the functions walked by it. No condition of its own. -/
import Derived.Test.YtanmknmlphkeaaaDoorA4
namespace Go.Proofs.Aw
open Go Go.RowKit

/-! ### memory that is made, and memory that is written -/
def setB (b : Nat → Value) (i : Nat) (y : Value) : Nat → Value := fun j => if j = i then y else b j

def eraseO (o : Nat) : List (Nat × LO) → List (Nat × LO)
  | [] => []
  | (j, x) :: r => match Nat.beq o j with
    | true => eraseO o r
    | false => (j, x) :: eraseO o r
theorem lookO_erase (o k : Nat) : ∀ l, lookO k (eraseO o l) = if k = o then none else lookO k l
  | [] => by simp [eraseO, lookO]
  | (j, x) :: r => by
    by_cases e : o = j
    · subst e
      simp only [eraseO, beqT, lookO_erase o k r, lookO]
      by_cases e2 : k = o
      · simp [e2]
      · simp [e2, beqF e2]
    · simp only [eraseO, beqF e, lookO, lookO_erase o k r]
      by_cases e2 : k = j
      · subst e2; simp only [beqT, if_neg (fun h : k = o => e h.symm)]
      · simp only [beqF e2]

/-- the memory behind a new object's making -/
def Me.grow (m : Me) (w' : World) (y : Value) (hsz : m.w.heap.size ≤ w'.heap.size) (hy : ∀ k, blkOf y = some k → k < w'.heap.size) : Me where
  w := w'
  b := setB m.b m.n y
  vo := fun k => m.vo k ∨ blkOf y = some k
  wr := fun k => m.wr k ∨ blkOf y = some k
  n := m.n + 1
  sub := fun k h => by
    rcases h with h | h
    · exact .inl (m.sub k h)
    · exact .inr h
  lt := fun k h => by
    rcases h with h | h
    · exact Nat.lt_of_lt_of_le (m.lt k h) hsz
    · exact hy k h

structure SameSys (w w' : World) : Prop where
  os : w'.os = w.os
  tape : w'.tape = w.tape
  output : w'.output = w.output
theorem SameSys.refl (w : World) : SameSys w w := ⟨rfl, rfl, rfl⟩

/-- a new object; object 'drop' (if any) is no more, its block may be the new one's -/
theorem Ok.grow {org : Me} {st : St} {m : Me} {tm : Array Value} (h : Ok org st m tm) (w' : World) (y : Value) (ob : LO) (drop : Option Nat) (objs : List (Nat × LO))
    (hsys : SameSys m.w w') (hsz : m.w.heap.size ≤ w'.heap.size) (hy : ∀ k, blkOf y = some k → k < w'.heap.size)
    (hkeep : ∀ k, k < m.w.heap.size → (∀ o, drop = some o → blkOf (m.b o) ≠ some k) → w'.heap[k]? = m.w.heap[k]?)
    (hdrop : ∀ o, drop = some o → ∃ ob0, lookO o st.objs = some ob0)
    (hobjs : ∀ k ob', lookO k objs = some ob' → lookO k st.objs = some ob' ∧ drop ≠ some k)
    (hfresh : ∀ k, blkOf y = some k → m.w.heap.size ≤ k ∨ ∃ o, drop = some o ∧ blkOf (m.b o) = some k)
    (hr : RepO (m.grow w' y hsz hy) (st.next + 1) ob y) :
    Ok org { st with objs := (st.next, ob) :: objs, next := st.next + 1 } (m.grow w' y hsz hy) tm ∧ Fr m (m.grow w' y hsz hy) ∧ (m.grow w' y hsz hy).b st.next = y := by
  have hn := h.sim.n
  have hwr : ∀ o, drop = some o → ∀ k, blkOf (m.b o) = some k → m.wr k ∧ k < m.w.heap.size := fun o ho k hk => by
    obtain ⟨ob0, h0⟩ := hdrop o ho
    exact (h.sim.obj o ob0 h0).2.2 k hk
  have hf : Fr m (m.grow w' y hsz hy) := by
    refine ⟨hsys.os, hsys.tape, hsys.output, hsz, fun k hk hw => hkeep k hk fun o ho e => hw (hwr o ho k e).1, fun k hk => ?_, fun k hk => ?_, fun k hk _ => .inl hk, fun o ho => by simp [Me.grow, setB]; omega, Nat.le_succ _⟩
    · rcases hk with hk | hk
      · exact .inl hk
      · rcases hfresh k hk with h1 | ⟨o, h1, h2⟩
        · exact .inr h1
        · exact .inl (hwr o h1 k h2).1
    · rcases hk with hk | hk
      · exact .inl hk
      · rcases hfresh k hk with h1 | ⟨o, h1, h2⟩
        · exact .inr h1
        · exact .inl (m.sub _ (hwr o h1 k h2).1)
  have hbn : (m.grow w' y hsz hy).b st.next = y := by simp [Me.grow, setB, hn]
  have hbo : ∀ o, o < st.next → (m.grow w' y hsz hy).b o = m.b o := fun o ho => hf.b o (by omega)
  refine ⟨⟨⟨by simp [Me.grow, hn], fun k hk => Rep.fr hf _ _ (by omega) (Nat.le_succ _) _ _ (h.sim.env k hk), fun o ob' ho => ?_, fun o o' a b h1 h2 h3 k hk => ?_⟩, h.fr.trans hf, h.low⟩, hf, hbn⟩
  · by_cases e : o = st.next
    · subst e
      simp only [lookO, beqT, Option.some.injEq] at ho
      subst ho
      rw [hbn]
      exact ⟨Nat.lt_succ_self _, hr, fun k hk => ⟨.inr hk, hy k hk⟩⟩
    · simp only [lookO, beqF e] at ho
      obtain ⟨ho1, ho2⟩ := hobjs o ob' ho
      obtain ⟨h1, h2, h3⟩ := h.sim.obj o ob' ho1
      rw [hbo o h1]
      refine ⟨Nat.lt_succ_of_lt h1, RepO.fr hf _ _ (by omega) (Nat.le_succ _) h2 fun k hk => ?_, fun k hk => ⟨.inl (h3 k hk).1, Nat.lt_of_lt_of_le (h3 k hk).2 hsz⟩⟩
      refine hkeep k (h3 k hk).2 fun o2 ho3 e2 => ?_
      obtain ⟨ob0, h0⟩ := hdrop o2 ho3
      have : o ≠ o2 := fun e3 => ho2 (e3 ▸ ho3)
      exact h.sim.apart o o2 ob' ob0 ho1 h0 this k hk e2
  · have far : ∀ o a, o ≠ st.next → lookO o ((st.next, ob) :: objs) = some a → ∀ k, blkOf ((m.grow w' y hsz hy).b o) = some k → blkOf y ≠ some k := by
      intro o a ho h1 k hk hk2
      simp only [lookO, beqF ho] at h1
      obtain ⟨h4, h5⟩ := hobjs o a h1
      obtain ⟨h6, _, h7⟩ := h.sim.obj o a h4
      rw [hbo o h6] at hk
      rcases hfresh k hk2 with h8 | ⟨o2, h8, h9⟩
      · have := (h7 k hk).2; omega
      · obtain ⟨ob0, h0⟩ := hdrop o2 h8
        exact h.sim.apart o o2 a ob0 h4 h0 (fun e3 => h5 (e3 ▸ h8)) k hk h9
    by_cases e : o = st.next
    · have e' : o' ≠ st.next := fun e2 => h3 (e.trans e2.symm)
      intro hk2
      subst e
      rw [hbn] at hk
      exact far o' b e' h2 k hk2 hk
    · by_cases e' : o' = st.next
      · subst e'; rw [hbn]; exact far o a e h1 k hk
      · simp only [lookO, beqF e] at h1
        simp only [lookO, beqF e'] at h2
        obtain ⟨h4, _⟩ := hobjs o a h1
        obtain ⟨h5, _⟩ := hobjs o' b h2
        rw [hbo o (h.sim.obj o a h4).1] at hk
        rw [hbo o' (h.sim.obj o' b h5).1]
        exact h.sim.apart o o' a b h4 h5 h3 k hk

/-- the memory in another world of at least as many blocks -/
def Me.on (m : Me) (w' : World) (hsz : m.w.heap.size ≤ w'.heap.size) : Me := { m with w := w', lt := fun k h => Nat.lt_of_lt_of_le (m.lt k h) hsz }

/-- one object is written -/
theorem Ok.write {org : Me} {st : St} {m : Me} {tm : Array Value} (h : Ok org st m tm) (w' : World) (o : Nat) (ob ob' : LO) (ho : lookO o st.objs = some ob)
    (hsys : SameSys m.w w') (hsz : m.w.heap.size ≤ w'.heap.size) (hkeep : ∀ k, k < m.w.heap.size → blkOf (m.b o) ≠ some k → w'.heap[k]? = m.w.heap[k]?)
    (hr : RepO (m.on w' hsz) st.next ob' (m.b o)) : Ok org (st.setO o ob') (m.on w' hsz) tm ∧ Fr m (m.on w' hsz) := by
  have hn := h.sim.n
  have ho3 := h.sim.obj o ob ho
  have hf : Fr m (m.on w' hsz) := ⟨hsys.os, hsys.tape, hsys.output, hsz, fun k hk hw => hkeep k hk fun e => hw (ho3.2.2 k e).1, fun k hk => .inl hk, fun k hk => .inl hk, fun k hk _ => hk, fun _ _ => rfl, Nat.le_refl _⟩
  refine ⟨⟨⟨hn, fun k hk => Rep.fr hf st.next st.next (by omega) (Nat.le_refl _) _ _ (h.sim.env k hk), fun o2 ob2 h2 => ?_, fun o2 o3 a b h2 h3 h4 k hk => ?_⟩, h.fr.trans hf, h.low⟩, hf⟩
  · by_cases e : o2 = o
    · subst e
      simp only [St.setO, lookO, beqT, Option.some.injEq] at h2
      subst h2
      exact ⟨ho3.1, hr, fun k hk => ⟨(ho3.2.2 k hk).1, Nat.lt_of_lt_of_le (ho3.2.2 k hk).2 hsz⟩⟩
    · simp only [St.setO, lookO, beqF e] at h2
      obtain ⟨h5, h6, h7⟩ := h.sim.obj o2 ob2 h2
      exact ⟨h5, RepO.fr hf st.next st.next (by omega) (Nat.le_refl _) h6 fun k hk => hkeep k (h7 k hk).2 fun e2 => h.sim.apart o2 o ob2 ob h2 ho e k hk e2, fun k hk => ⟨(h7 k hk).1, Nat.lt_of_lt_of_le (h7 k hk).2 hsz⟩⟩
  · have look : ∀ i x, lookO i (st.setO o ob').objs = some x → ∃ x', lookO i st.objs = some x' := by
      intro i x hx
      by_cases e : i = o
      · subst e; exact ⟨_, ho⟩
      · simp only [St.setO, lookO, beqF e] at hx; exact ⟨_, hx⟩
    obtain ⟨a', ha⟩ := look o2 a h2
    obtain ⟨b', hb⟩ := look o3 b h3
    exact h.sim.apart o2 o3 a' b' ha hb h4 k hk

/-- nothing of the frame's is touched: orders were drawn, memory was made that nobody names -/
theorem Ok.drew {org : Me} {st : St} {m : Me} {tm : Array Value} (h : Ok org st m tm) (w' : World) (hsys : SameSys m.w w') (hsz : m.w.heap.size ≤ w'.heap.size) (hkeep : ∀ k, k < m.w.heap.size → w'.heap[k]? = m.w.heap[k]?) : Ok org st (m.on w' hsz) tm ∧ Fr m (m.on w' hsz) := by
  have hf : Fr m (m.on w' hsz) := ⟨hsys.os, hsys.tape, hsys.output, hsz, fun k hk _ => hkeep k hk, fun k hk => .inl hk, fun k hk => .inl hk, fun k hk _ => hk, fun _ _ => rfl, Nat.le_refl _⟩
  exact ⟨h.later hf rfl (fun k _ hk => hkeep k hk) fun k hk => hk, hf⟩

theorem sameSys_alloc (w : World) (o : Obj) : SameSys w (w.alloc o) := ⟨rfl, rfl, rfl⟩
theorem alloc_old (w : World) (o : Obj) (k : Nat) (h : k < w.heap.size) : (w.alloc o).heap[k]? = w.heap[k]? := by
  show (w.heap.push o)[k]? = _
  rw [Array.getElem?_push, if_neg (by omega)]
theorem alloc_new (w : World) (o : Obj) : (w.alloc o).heap[w.heap.size]? = some o := by
  show (w.heap.push o)[w.heap.size]? = _
  simp

/-- a new box -/
theorem Ok.newBox {org : Me} {st : St} {m : Me} {tm : Array Value} (h : Ok org st m tm) (ty : TypeId) (cs : List LV) (ys : List Value) (hr : RepL m st.next cs ys) (h1 : ∀ u ∈ ys, u.oneCell' = true) :
    ∃ m', m'.w = m.w.alloc (.cells ys.toArray ty) ∧ Ok org (st.new (.box ty cs)) m' tm ∧ Rep m' (st.next + 1) (.lp st.next 0) (.pointer (some ⟨m.w.heap.size, 0, none⟩)) := by
  have hn := h.sim.n
  have hsz : m.w.heap.size ≤ (m.w.alloc (.cells ys.toArray ty)).heap.size := by simp
  have hy : ∀ k, blkOf (.pointer (some ⟨m.w.heap.size, 0, none⟩)) = some k → k < (m.w.alloc (.cells ys.toArray ty)).heap.size := by
    intro k hk
    simp [blkOf] at hk
    simp; omega
  have hf : Fr m (m.grow (m.w.alloc (.cells ys.toArray ty)) (.pointer (some ⟨m.w.heap.size, 0, none⟩)) hsz hy) := by
    refine ⟨rfl, rfl, rfl, hsz, fun k hk _ => alloc_old _ _ k hk, fun k hk => ?_, fun k hk => ?_, fun k hk _ => .inl hk, fun o ho => by simp [Me.grow, setB]; omega, Nat.le_succ _⟩
    all_goals
      rcases hk with hk | hk
      · exact .inl hk
      · right
        simp [blkOf] at hk
        omega
  have hg := h.grow (m.w.alloc (.cells ys.toArray ty)) (.pointer (some ⟨m.w.heap.size, 0, none⟩)) (.box ty cs) none st.objs (sameSys_alloc _ _) hsz hy (fun k hk _ => alloc_old _ _ k hk) (by simp) (fun k ob hk => ⟨hk, by simp⟩)
    (fun k hk => by simp [blkOf] at hk; left; omega) ⟨m.w.heap.size, ys, rfl, alloc_new _ _, RepL.fr hf _ _ (by omega) (Nat.le_succ _) cs ys hr, h1⟩
  exact ⟨_, rfl, hg.1, Nat.lt_succ_self _, _, hg.2.2, rfl⟩

end Go.Proofs.Aw

/- A PART OF THE PROOF: an abstract run of the loaded code over value trees, and the functions walked by it. No condition of its own. -/
import Derived.Test.YtanmknmlphkeaaaDoorA6
namespace Go.Proofs.Aw
open Go Go.RowKit

theorem RepL.write {m : Me} {N : Nat} {cs xs : List LV} {ys vs : List Value} (h : RepL m N cs ys) (hx : RepL m N xs vs) (off : Nat) : RepL m N (writeL cs off xs) (ys.take off ++ vs ++ ys.drop (off + vs.length)) := by
  rw [List.append_assoc]
  refine (h.take off).append (hx.append ?_)
  rw [hx.length]
  exact h.drop _

def upd (g : Nat → List LV) (i : Nat) (c : List LV) : Nat → List LV := fun j => match Nat.beq j i with
  | true => c
  | false => g j

/-- a place in memory is written -/
def storeK (st : St) (x : LV) (xs : List LV) (k : St → Prop) : Prop := match x with
  | .lp o off => match lookO o st.objs with
    | some (.box ty cs) => match Nat.ble (off + xs.length) cs.length with
      | true => frcC (writeL cs off xs) fun cs' => k (st.setO o (.box ty cs'))
      | false => False
    | _ => False
  | .el o sz i off => match lookO o st.objs with
    | some (.arr ty sz' n g) => match Nat.beq sz sz' && Nat.beq (g i).length sz && Nat.ble (off + xs.length) sz && underL 0 xs with
      | true => k (st.setO o (.arr ty sz n (upd g i (writeL (g i) off xs))))
      | false => False
    | _ => False
  | _ => False

theorem setRow_block (w : World) (g : Nat) (cs cs' : Array Value) (t : TypeId) (fr : Nat × Nat) (h : w.heap[g]? = some (.cells cs t fr)) : (w.setRow g cs').heap[g]? = some (.cells cs' t fr) := setRow_heap w g cs cs' t fr h

theorem setRow_other (w : World) (g : Nat) (cs' : Array Value) (k : Nat) (h : k ≠ g) : (w.setRow g cs').heap[k]? = w.heap[k]? := by
  simp only [World.setRow, Array.getElem?_modify]
  rw [if_neg (fun e => h e.symm)]
theorem setRow_size (w : World) (g : Nat) (cs' : Array Value) : (w.setRow g cs').heap.size = w.heap.size := by simp [World.setRow]
theorem setRow_sys (w : World) (g : Nat) (cs' : Array Value) : SameSys w (w.setRow g cs') := ⟨rfl, rfl, rfl⟩

theorem run_storeVar_at {P : Program} {t : TypeId} {ti : TI} (ht : ti.ok P t) {w : World} {b off : Nat} {ty : TypeId} {cur : Array Value} (hb : w.heap[b]? = some (.cells cur ty (0, 0))) {v : Value} (hv : v.cells.size = ti.size) (h1 : ∀ u ∈ v.cells.toList, u.oneCell' = true) (hl : off + ti.size ≤ cur.size) :
    (storeVar t ⟨b, off, none⟩ v).run P w = .ok () (w.setRow b (cur.toList.take off ++ v.cells.toList ++ cur.toList.drop (off + v.cells.toList.length)).toArray) := by
  have := run_storeCells_at (P := P) b off ty v.cells.toList 0 cur w hb (by simp; omega) h1
  simp only [Nat.add_zero] at this
  simp only [storeVar, Sem.run_bind, run_sizeOf ht, Result.andThen_ok, hv, ne_eq, not_true_eq_false, if_false, this]


/-- a list of which a part is other -/
def wr (l : List Value) (o : Nat) (vs : List Value) : List Value := l.take o ++ vs ++ l.drop (o + vs.length)
theorem wr_length {l : List Value} {o : Nat} {vs : List Value} (h : o + vs.length ≤ l.length) : (wr l o vs).length = l.length := by
  simp [wr]; omega
theorem wr_get {l : List Value} {o : Nat} {vs : List Value} (h : o + vs.length ≤ l.length) (j : Nat) : (wr l o vs)[j]? = if o ≤ j ∧ j < o + vs.length then vs[j - o]? else l[j]? := by
  simp only [wr, List.getElem?_append, List.length_append, List.length_take]
  have e : min o l.length = o := by omega
  rw [e]
  split
  · rename_i h1
    split
    · rename_i h2
      rw [if_neg (by omega), List.getElem?_take, if_pos h2]
    · rename_i h2
      rw [if_pos (by omega)]
  · rename_i h1
    rw [if_neg (by omega), List.getElem?_drop]
    congr 1
    omega
theorem wr_take {l : List Value} {o : Nat} {vs : List Value} (n : Nat) (h : o + vs.length ≤ n) (hn : n ≤ l.length) : (wr l o vs).take n = wr (l.take n) o vs := by
  apply List.ext_getElem?
  intro j
  rw [List.getElem?_take, wr_get (by omega), wr_get (by rw [List.length_take]; omega), List.getElem?_take]
  by_cases hj : j < n
  · simp [hj]
  · rw [if_neg hj, if_neg (by omega), if_neg hj]
theorem wr_seg {l : List Value} {o : Nat} {vs : List Value} (a n : Nat) (h1 : a ≤ o) (h2 : o + vs.length ≤ a + n) (hn : a + n ≤ l.length) : ((wr l o vs).drop a).take n = wr ((l.drop a).take n) (o - a) vs := by
  apply List.ext_getElem?
  intro j
  rw [List.getElem?_take, List.getElem?_drop, wr_get (by omega), wr_get (by rw [List.length_take, List.length_drop]; omega), List.getElem?_take, List.getElem?_drop]
  by_cases hj : j < n
  · rw [if_pos hj, if_pos hj]
    by_cases h3 : o ≤ a + j ∧ a + j < o + vs.length
    · rw [if_pos h3, if_pos (by omega)]; congr 1; omega
    · rw [if_neg h3, if_neg (by omega)]
  · rw [if_neg hj, if_neg hj, if_neg (by omega)]
theorem wr_far {l : List Value} {o : Nat} {vs : List Value} (a n : Nat) (h : o + vs.length ≤ l.length) (hf : a + n ≤ o ∨ o + vs.length ≤ a) : ((wr l o vs).drop a).take n = (l.drop a).take n := by
  apply List.ext_getElem?
  intro j
  rw [List.getElem?_take, List.getElem?_take, List.getElem?_drop, List.getElem?_drop, wr_get h]
  by_cases hj : j < n
  · rw [if_pos hj, if_pos hj, if_neg (by omega)]
  · rw [if_neg hj, if_neg hj]

theorem storeK_sound {P : Program} {t : TypeId} {ti : TI} (ht : ti.ok P t) {org : Me} {st : St} {m : Me} {tm : Array Value} (h : Ok org st m tm) {x : LV} {y v : Value} {xs : List LV} {k : St → Prop}
    (hk : storeK st x xs k) (hy : Rep m st.next x y) (hsz : xs.length = ti.size) (hv : RepL m st.next xs v.cells.toList) (h1 : ∀ u ∈ v.cells.toList, u.oneCell' = true) :
    ∃ st' m', (Instr.storeAt t y v).run P m.w = .ok () m'.w ∧ k st' ∧ Ok org st' m' tm := by
  have hvs : v.cells.size = ti.size := by have := hv.length; simp at this; omega
  have hvl : v.cells.toList.length = ti.size := by simpa using hvs
  have go : ∀ (b off : Nat) (ty : TypeId) (cur : Array Value), m.w.heap[b]? = some (.cells cur ty (0, 0)) → off + ti.size ≤ cur.size → (Instr.storeAt t (.pointer (some ⟨b, off, none⟩)) v).run P m.w = .ok () (m.w.setRow b (wr cur.toList off v.cells.toList).toArray) := by
    intro b off ty cur hb hl
    have := run_storeVar_at ht hb hvs h1 hl
    simp only [Instr.storeAt, Instr.sureAddr, wr]
    simpa using this
  cases x with
  | lp o off =>
    simp only [storeK] at hk
    split at hk
    · rename_i ty cs ho
      split at hk
      · rename_i hl
        rw [Nat.ble_eq] at hl
        rw [frcC_eq] at hk
        obtain ⟨h2, ⟨b, ys, h3, h4, h5, h6⟩, h7⟩ := h.sim.obj o _ ho
        obtain ⟨_, b', h8, rfl⟩ := hy
        rw [h3] at h8
        injection h8 with h8; injection h8 with h8; injection h8 with h8
        subst h8
        have hlen := h5.length
        have hf : (m.w.setRow b (wr ys off v.cells.toList).toArray).heap.size = m.w.heap.size := by simp
        have hfr : Fr m (m.on (m.w.setRow b (wr ys off v.cells.toList).toArray) (by rw [hf]; exact Nat.le_refl _)) :=
          ⟨rfl, rfl, rfl, by show m.w.heap.size ≤ (m.w.setRow b _).heap.size; rw [hf]; exact Nat.le_refl _, fun k hk1 hw => setRow_other _ _ _ _ (fun e => hw (by rw [e]; exact (h7 b (by rw [h3]; rfl)).1)), fun k hk => .inl hk, fun k hk => .inl hk, fun k hk _ => hk, fun _ _ => rfl, Nat.le_refl _⟩
        have hw := h.write (m.w.setRow b (wr ys off v.cells.toList).toArray) o (.box ty cs) (.box ty (writeL cs off xs)) ho ⟨rfl, rfl, rfl⟩ (by rw [hf]; exact Nat.le_refl _)
          (fun k hk1 hk2 => setRow_other _ _ _ _ (fun e => hk2 (by rw [h3, e]; rfl)))
          ⟨b, wr ys off v.cells.toList, h3, setRow_block _ _ _ _ _ _ h4, by
            have := RepL.fr hfr st.next st.next (by rw [h.sim.n]; exact Nat.le_refl _) (Nat.le_refl _) _ _ (h5.write hv off)
            exact this, fun u hu => by
            simp only [wr, List.mem_append] at hu
            rcases hu with (hu | hu) | hu
            · exact h6 u (List.mem_of_mem_take hu)
            · exact h1 u hu
            · exact h6 u (List.mem_of_mem_drop hu)⟩
        exact ⟨_, _, go b off ty ys.toArray h4 (by simp; omega), hk, hw.1⟩
      · exact hk.elim
    · exact hk.elim
  | el o sz i off =>
    simp only [storeK] at hk
    split at hk
    · rename_i ty sz' n g ho
      split at hk
      · rename_i hl
        simp only [Bool.and_eq_true] at hl
        obtain ⟨⟨⟨e1, e2⟩, e3⟩, e4⟩ := hl
        have e1 := Nat.eq_of_beq_eq_true e1
        have e2 := Nat.eq_of_beq_eq_true e2
        rw [Nat.ble_eq] at e3
        subst e1
        obtain ⟨h2, ⟨zs, h3, h4, h5⟩, h7⟩ := h.sim.obj o _ ho
        obtain ⟨_, b, n', c, h8, h9, rfl⟩ := hy
        have hb8 := h8
        rw [h8] at h3
        obtain ⟨rfl, cur, h10, h11, h12, h13, h14⟩ := own_block h3
        have hzl : zs.length = n' * sz := h3.1
        have hle : i * sz + sz ≤ n' * sz := by
          have := Nat.mul_le_mul_right sz (show i + 1 ≤ n' by omega)
          rw [Nat.add_mul] at this; omega
        have hcs : n' * sz ≤ cur.size := by rw [h13]; exact Nat.mul_le_mul_right sz h11
        have hvz : v.cells.toList.length = xs.length := by omega
        have hf : (m.w.setRow b (wr cur.toList (i * sz + off) v.cells.toList).toArray).heap.size = m.w.heap.size := by simp
        have hfr : Fr m (m.on (m.w.setRow b (wr cur.toList (i * sz + off) v.cells.toList).toArray) (by rw [hf]; exact Nat.le_refl _)) :=
          ⟨rfl, rfl, rfl, by show m.w.heap.size ≤ (m.w.setRow b _).heap.size; rw [hf]; exact Nat.le_refl _, fun k hk1 hw => setRow_other _ _ _ _ (fun e => hw (by rw [e]; exact (h7 b (by rw [h8]; rfl)).1)), fun k hk => .inl hk, fun k hk => .inl hk, fun k hk _ => hk, fun _ _ => rfl, Nat.le_refl _⟩
        have hw := h.write (m.w.setRow b (wr cur.toList (i * sz + off) v.cells.toList).toArray) o (.arr ty sz n' g) (.arr ty sz n' (upd g i (writeL (g i) off xs))) ho ⟨rfl, rfl, rfl⟩ (by rw [hf]; exact Nat.le_refl _)
          (fun k hk1 hk2 => setRow_other _ _ _ _ (fun e => hk2 (by rw [h8, e]; rfl)))
          ⟨wr zs (i * sz + off) v.cells.toList, by
            rw [h8]
            refine ⟨by rw [wr_length (by omega)]; exact hzl, .inr ⟨b, c, (wr cur.toList (i * sz + off) v.cells.toList).toArray, rfl, Nat.zero_le _, setRow_block _ _ _ _ _ _ h10, h11, h12, ?_, ?_⟩⟩
            · simp only [List.size_toArray]; rw [wr_length (by simp; omega)]; simpa using h13
            · simp only []
              rw [wr_take _ (by omega) (by simpa using hcs), h14], fun u hu => by
            simp only [wr, List.mem_append] at hu
            rcases hu with (hu | hu) | hu
            · exact h4 u (List.mem_of_mem_take hu)
            · exact h1 u hu
            · exact h4 u (List.mem_of_mem_drop hu), fun j hj => by
            obtain ⟨ys, h15, h16, h17⟩ := h5 j hj
            by_cases e : j = i
            · subst e
              refine ⟨wr ys off v.cells.toList, ?_, by rw [wr_length (by omega)]; exact h16, ?_⟩
              · simp only [upd, beqT]
                have hv0 : RepL m 0 xs v.cells.toList := RepL.down xs _ e4 hv
                exact RepL.fr hfr 0 0 (Nat.zero_le _) (Nat.le_refl _) _ _ (h15.write hv0 off)
              · rw [wr_seg _ _ (by omega) (by omega) (by omega), h17]; congr 1; omega
            · refine ⟨ys, ?_, h16, ?_⟩
              · simp only [upd, beqF e]
                exact RepL.fr hfr 0 0 (Nat.zero_le _) (Nat.le_refl _) _ _ h15
              · rw [wr_far _ _ (by omega), h17]
                have hle2 : j * sz + sz ≤ i * sz ∨ i * sz + sz ≤ j * sz := by
                  rcases Nat.lt_or_gt_of_ne e with h | h
                  · left; have := Nat.mul_le_mul_right sz (show j + 1 ≤ i by omega); rw [Nat.add_mul] at this; omega
                  · right; have := Nat.mul_le_mul_right sz (show i + 1 ≤ j by omega); rw [Nat.add_mul] at this; omega
                rcases hle2 with h | h
                · left; omega
                · right; omega⟩
        exact ⟨_, _, go b (i * sz + off) ty cur h10 (by omega), hk, hw.1⟩
      · exact hk.elim
    · exact hk.elim
  | _ => exact hk.elim

end Go.Proofs.Aw
